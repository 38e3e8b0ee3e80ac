/- epoch: a worker's list is stored; appends; Held. -/
import Derived.Test.YtlgggeeflomelaaEpE
import Derived.Deep.RegionLaw
namespace Go.Proofs.Ytlgggeeflomelaa
open Go.RowKit

/-- a worker's list, new or gone on with, is stored -/
theorem EpAt.put_held' {w w3 : World} {C F : Nat → Prop} {gx gm n who gw c c' : Nat} {L : List AccE} {s : ESt} {B B' : Option Addr} {l' : List (Int × Nat)} (h : EpAt w C F gx gm n L s) (hw : who < n) (hgw : w.cell? ⟨gx, 1, none⟩ = some (.slice (some ⟨gw, 0, none⟩) n n)) (hcell : w.cell? ⟨gw, who * 3 + 2, none⟩ = some (.slice B (s.wk who).held.length c))
    (g : GB w w3 (fun i => (Value.slice B (s.wk who).held.length c).ownBlock = some i)) (ho : w3.ownsRow (gw + 1) 127 2 (.slice B' l'.length c') l'.length (things l')) (hq : ∀ q, (Value.slice B' l'.length c').ownBlock = some q → (Value.slice B (s.wk who).held.length c).ownBlock = some q ∨ w.heap.size ≤ q) :
    ∃ C' F', EpAt (w3.setCell ⟨gw, who * 3 + 2, none⟩ (.slice B' l'.length c')) C' F' gx gm n L (s.put who { s.wk who with held := l' }) ∧ GB w (w3.setCell ⟨gw, who * 3 + 2, none⟩ (.slice B' l'.length c')) C ∧ (∀ i, C' i → C i ∨ w.heap.size ≤ i) ∧ (∀ i, F i → F' i) ∧ ∀ i, F' i → F i ∨ (Value.slice B' l'.length c').ownBlock = some i := by
  obtain ⟨Fm, gw', ws, ps, h1, h2, h3, h4, h5, h6, h7, h8, h9, h10, h11, h12, h13, h14, h15⟩ := h
  obtain rfl : gw' = gw := by
    have := (blk_cell h3 1).symm.trans hgw
    simp at this
    exact this
  obtain ⟨v, hv⟩ : ∃ v, ps[who]? = some v := ⟨_, List.getElem?_eq_getElem (by omega)⟩
  obtain ⟨a, b, ⟨B0, c0, hh, d⟩, e⟩ := h6 who v hv
  have hvh : v.h = .slice B (s.wk who).held.length c := by
    have hc := (blk_cell h4 (who * 3 + 2)).symm.trans hcell
    rw [List.getElem?_toArray, wcells_get hv 2 (by omega)] at hc
    simpa [WkV.cells] using hc
  rw [← hvh] at g hq
  have hlt : ∀ q, C q → q < w.heap.size := fun q hq => h15 q (h14 q hq)
  have hSC : ∀ i, v.h.ownBlock = some i → C i := fun i hi => (e i hi).1
  have hown : ∀ (i : Nat) (y : WkV), ps[i]? = some y → ∀ q, y.h.ownBlock = some q → q ≠ gw' ∧ q < w.heap.size := fun i y hy q hq => by
    obtain ⟨_, _, ⟨B, c, hh, d⟩, k⟩ := h6 i y hy
    have hC := (k q hq).1
    rw [hh] at hq
    have := (d.lt q hq).1
    exact ⟨by omega, hlt q hC⟩
  have gs : GB w3 (w3.setCell ⟨gw', who * 3 + 2, none⟩ (.slice B' l'.length c')) (· = gw') := (GB.refl w3 (· = gw')).set gw' _ _ (.inl rfl)
  have hfr : ∀ q, (Value.slice B' l'.length c').ownBlock = some q → gw' < q := fun q hq => by have := (ho.lt q hq).1; omega
  have hget : ∀ (i : Nat) (y : WkV), (ps.set who ⟨v.f, v.p, .slice B' l'.length c'⟩)[i]? = some y → (i = who ∧ y = ⟨v.f, v.p, .slice B' l'.length c'⟩) ∨ (i ≠ who ∧ ps[i]? = some y) := fun i y hy => by
    by_cases e : i = who
    · subst e
      rw [List.getElem?_set_self (by omega)] at hy
      injection hy with hy
      exact .inl ⟨rfl, hy.symm⟩
    · rw [List.getElem?_set_ne (fun h => e h.symm)] at hy
      exact .inr ⟨e, hy⟩
  have hpend : ∀ i f cl, PendE w C F gx i f cl → PendE (w3.setCell ⟨gw', who * 3 + 2, none⟩ (.slice B' l'.length c')) (fun i => C i ∨ (Value.slice B' l'.length c').ownBlock = some i) (fun i => F i ∨ (Value.slice B' l'.length c').ownBlock = some i) gx i f cl := fun i f cl hp => by
    refine ((hp.gb (C' := fun i => C i ∨ (Value.slice B' l'.length c').ownBlock = some i) (F' := fun i => F i ∨ (Value.slice B' l'.length c').ownBlock = some i) g (fun j hj => .inl (hSC j hj)) (fun j hj hc => ?_) (fun _ h => .inl h))).gb gs (fun j hj => .inl (hj ▸ .inl h12)) (fun _ _ h => .inl h) (fun _ h => h)
    rcases hc with hc | hc
    · exact .inl hc
    · rcases hq j hc with h | h
      · exact .inl (hSC j h)
      · omega
  have hnew : ∀ i, (Value.slice B' l'.length c').ownBlock = some i → C i ∨ w.heap.size ≤ i := fun i hi => (hq i hi).imp (hSC i) id
  have hnewF : ∀ i, (Value.slice B' l'.length c').ownBlock = some i → i < w3.heap.size := fun i hi => (ho.lt i hi).2
  refine ⟨fun i => C i ∨ (Value.slice B' l'.length c').ownBlock = some i, fun i => F i ∨ (Value.slice B' l'.length c').ownBlock = some i, ⟨Fm, gw', ws, ps.set who ⟨v.f, v.p, .slice B' l'.length c'⟩, (h1.gb g (fun i hi e' => (e i e').2.1 hi)).gb gs (fun i hi e => h9 (e ▸ hi)), h2, gs.blk (g.blk h3 (fun e' => (e _ e').2.2 rfl)) (by omega), ?_, by simpa using h5, fun i y hy => ?_, fun i j vi vj q hi hj hqi hqj => ?_, h8, h9, h10, .inl h11, .inl h12, fun i hi => .inl (h13 i hi), fun i hi => hi.imp (h14 i) id, fun i hi => ?_⟩, (g.more (fun i _ hi => hSC i hi)).trans gs (fun i hi => .inl (hi ▸ h12)), fun i hi => ?_, fun i hi => .inl hi, fun i hi => ?_⟩
  · rw [← wcells_arr (j := 2) hv (by omega) (x := .slice B' l'.length c') (u := ⟨v.f, v.p, .slice B' l'.length c'⟩) rfl]
    exact blk_set (g.blk h4 (fun e' => (hown who v hv _ e').1 rfl)) _ _
  · rcases hget i y hy with ⟨rfl, rfl⟩ | ⟨hne, hy⟩
    · rw [put_self]
      refine ⟨hpend _ _ _ a, b, ⟨B', c', rfl, gs.own ho (fun q hq e => by have := hfr q hq; omega)⟩, fun q hq' => ⟨.inr hq', ?_, ?_⟩⟩
      · rcases hq q hq' with h | h
        · exact (e q h).2.1
        · exact fun h' => by have := h1.lt q h'; omega
      · rcases hq q hq' with h | h
        · exact (e q h).2.2
        · have := hlt _ h11; omega
    · rw [put_other s _ hne]
      obtain ⟨a', b', c', d'⟩ := h6 i y hy
      have hap : ∀ q, y.h.ownBlock = some q → v.h.ownBlock ≠ some q := fun q h1 h2 => hne (h7 i who y v q hy hv h1 h2)
      exact ⟨hpend _ _ _ a', b', (c'.gb g (fun q hq => hap q hq)).gb gs (fun q hq => (hown i y hy q hq).1), fun q hq => ⟨.inl (d' q hq).1, (d' q hq).2⟩⟩
  · have key : ∀ (i : Nat) (y : WkV), (ps.set who ⟨v.f, v.p, .slice B' l'.length c'⟩)[i]? = some y → y.h.ownBlock = some q → (i = who ∧ ((Value.slice B' l'.length c').ownBlock = some q)) ∨ (i ≠ who ∧ ps[i]? = some y) := fun i y hy hq => by
      rcases hget i y hy with ⟨rfl, rfl⟩ | h
      · exact .inl ⟨rfl, hq⟩
      · exact .inr h
    have cross : ∀ (i : Nat) (y : WkV), i ≠ who → ps[i]? = some y → y.h.ownBlock = some q → (Value.slice B' l'.length c').ownBlock = some q → False := fun i y hne hy h1 h2 => by
      rcases hq q h2 with h | h
      · exact hne (h7 i who y v q hy hv h1 h)
      · have := (hown i y hy q h1).2; omega
    rcases key i vi hi hqi with ⟨rfl, ki⟩ | ⟨ki, ei⟩
    · rcases key j vj hj hqj with ⟨rfl, kj⟩ | ⟨kj, ej⟩
      · rfl
      · exact (cross j vj kj ej hqj ki).elim
    · rcases key j vj hj hqj with ⟨rfl, kj⟩ | ⟨kj, ej⟩
      · exact (cross i vi ki ei hqi kj).elim
      · exact h7 i j vi vj q ei ej hqi hqj
  · rw [World.size_setCell]
    rcases hi with hi | hi
    · exact Nat.lt_of_lt_of_le (h15 i hi) g.size
    · exact hnewF i hi
  · rcases hi with hi | hi
    · exact .inl hi
    · exact hnew i hi
  · exact hi
theorem EpAt.put_held {w w3 : World} {C F : Nat → Prop} {gx gm n who gw c c' : Nat} {L : List AccE} {s : ESt} {B B' : Option Addr} {l' : List (Int × Nat)} (h : EpAt w C F gx gm n L s) (hw : who < n) (hgw : w.cell? ⟨gx, 1, none⟩ = some (.slice (some ⟨gw, 0, none⟩) n n)) (hcell : w.cell? ⟨gw, who * 3 + 2, none⟩ = some (.slice B (s.wk who).held.length c))
    (g : GB w w3 (fun i => (Value.slice B (s.wk who).held.length c).ownBlock = some i)) (ho : w3.ownsRow (gw + 1) 127 2 (.slice B' l'.length c') l'.length (things l')) (hq : ∀ q, (Value.slice B' l'.length c').ownBlock = some q → (Value.slice B (s.wk who).held.length c).ownBlock = some q ∨ w.heap.size ≤ q) :
    EpGo w C F gx gm n L (s.put who { s.wk who with held := l' }) (w3.setCell ⟨gw, who * 3 + 2, none⟩ (.slice B' l'.length c')) := by
  have hoC : ∀ q, (Value.slice B (s.wk who).held.length c).ownBlock = some q → C q := by
    obtain ⟨gw', f, B0, c0, x1, _, _, _, _, _, xh, _, _, _, k, _⟩ := h.wk hw
    obtain rfl : gw' = gw := by
      have := x1.symm.trans hgw
      simp at this
      exact this
    have e := xh.symm.trans hcell
    injection e with e
    rw [← e]
    exact k
  have hsub := h.sub
  obtain ⟨C', F', h1, h2, h3, h4, h5⟩ := h.put_held' hw hgw hcell g ho hq
  exact ⟨C', F', h1, h2, h3, h4, fun i hi => (h5 i hi).elim .inl fun e => (hq i e).imp (fun e => hsub i (hoC i e)) id⟩
theorem EpAt.own_x {w : World} {C F : Nat → Prop} {gx gm n who gw c : Nat} {L : List AccE} {s : ESt} {B : Option Addr} (h : EpAt w C F gx gm n L s) (hw : who < n) (hgw : w.cell? ⟨gx, 1, none⟩ = some (.slice (some ⟨gw, 0, none⟩) n n)) (hcell : w.cell? ⟨gw, who * 3 + 2, none⟩ = some (.slice B (s.wk who).held.length c)) :
    ∀ q, (Value.slice B (s.wk who).held.length c).ownBlock = some q → q ≠ gx := by
  obtain ⟨Fm, gw', ws, ps, h1, h2, h3, h4, h5, h6, _⟩ := h
  obtain rfl : gw' = gw := by
    have := (blk_cell h3 1).symm.trans hgw
    simp at this
    exact this
  obtain ⟨v, hv⟩ : ∃ v, ps[who]? = some v := ⟨_, List.getElem?_eq_getElem (by omega)⟩
  obtain ⟨a, b, ⟨B0, c0, hh, d⟩, e⟩ := h6 who v hv
  have hvh : v.h = .slice B (s.wk who).held.length c := by
    have hc := (blk_cell h4 (who * 3 + 2)).symm.trans hcell
    rw [List.getElem?_toArray, wcells_get hv 2 (by omega)] at hc
    simpa [WkV.cells] using hc
  rw [← hvh]
  exact fun q hq => (e q hq).2.2
theorem frozen_gb {w a : World} {S : Nat → Prop} {g i : Nat} (h : GB w a S) (hg : g < w.heap.size) (hn : ¬ S g) : a.frozen? ⟨g, i, none⟩ = w.frozen? ⟨g, i, none⟩ := by
  have := h.block g hg hn
  unfold World.frozen?
  simp only [this]
theorem info_thing : (Try.prog.info? 127).map (fun i => (i.zero, i.size, i.bytes)) = some (some (.agg #[.int .i64 0, .int .u64 0]), 2, 16) := by kernel_rfl
theorem info_int : (Try.prog.info? 3).map (fun i => (i.zero, i.size, i.bytes)) = some (some (.int .i64 0), 1, 8) := by kernel_rfl
/-- append of numbers onto a list of the call's own -/
theorem app_int {ops : Array Oper} {rest : List Oper} {o : Oper} {a : Act} {Q : Exit → Act → World → Prop} (w : World) (hgd : o.guard = none) (s x : Operand)
    (ho : o.op = .call { callee := .builtin .append, args := #[s, x], argTypes := #[34, 34] })
    (base : Nat) {B : Option Addr} {n cb : Nat} {xs : List Int} (hs : a.eval s = .slice B n cb) (hown : w.ownsRow base 3 1 (.slice B n cb) n (ivals xs))
    {A : Option Addr} {m c : Nat} {news : List Int} (hx : a.eval x = .slice A m c) (hl : news.length = m) (hr : Rd w A (ivals news)) (hb : n + m ≤ 17592186044416) (hbase : base ≤ w.heap.size)
    (h : ∀ B' cb' w', w'.ownsRow base 3 1 (.slice B' (n + m) cb') (n + m) (ivals (xs ++ news)) → w.grownBy w' (Value.slice B n cb).ownBlock →
      ((Value.slice B' (n + m) cb').ownBlock = (Value.slice B n cb).ownBlock ∨ (Value.slice B' (n + m) cb').ownBlock = some w.heap.size) → wpList Try.prog ops Q rest (a.put o.dst (.slice B' (n + m) cb')) w') :
    wpList Try.prog ops Q (o :: rest) a w := by
  obtain ⟨i0, hi, hz0, hz1, hz2⟩ := info_parts info_int
  refine wpList_append_rd w hgd s x 34 ho base 3 Try.underlying34 hi hz0 hz1 hz2 rfl (by decide) hs hown hx (by rw [ivals_len, hl, Nat.mul_one]) hr (ivals_one _) (by unfold maxLen; omega) (by omega) hbase ?_
  intro B' cb' w' h2 h3 h4
  rw [← ivals_append] at h2
  exact h B' cb' w' h2 h3 h4
theorem app_thing {ops : Array Oper} {rest : List Oper} {o : Oper} {a : Act} {Q : Exit → Act → World → Prop} (w : World) (hgd : o.guard = none) (s x : Operand)
    (ho : o.op = .call { callee := .builtin .append, args := #[s, x], argTypes := #[118, 118] })
    (base : Nat) {B : Option Addr} {n cb : Nat} {xs : List (Int × Nat)} (hs : a.eval s = .slice B n cb) (hown : w.ownsRow base 127 2 (.slice B n cb) n (things xs))
    {A : Option Addr} {c : Nat} (y : Int × Nat) (hx : a.eval x = .slice A 1 c) (hr : Rd w A (tcells y)) (hb : n ≤ 1000000000) (hbase : base ≤ w.heap.size)
    (h : ∀ B' cb' w', w'.ownsRow base 127 2 (.slice B' (n + 1) cb') (n + 1) (things (xs ++ [y])) → w.grownBy w' (Value.slice B n cb).ownBlock →
      ((Value.slice B' (n + 1) cb').ownBlock = (Value.slice B n cb).ownBlock ∨ (Value.slice B' (n + 1) cb').ownBlock = some w.heap.size) → wpList Try.prog ops Q rest (a.put o.dst (.slice B' (n + 1) cb')) w') :
    wpList Try.prog ops Q (o :: rest) a w := by
  obtain ⟨i0, hi, hz0, hz1, hz2⟩ := info_parts info_thing
  refine wpList_append_rd w hgd s x 118 ho base 127 Try.underlying118 hi hz0 hz1 hz2 rfl (by decide) hs hown hx (m := 1) (news := tcells y) rfl hr (by rw [← things_one]; exact things_cell _) (by unfold maxLen; omega) (by omega) hbase ?_
  intro B' cb' w' h2 h3 h4
  rw [← things_one, ← things_app] at h2
  exact h B' cb' w' h2 h3 h4
theorem step_app_thing {ops : Array Oper} {o : Oper} {a : Act} {K : Act → World → Prop} {Q : Exit → Act → World → Prop} {E : Prop} (w : World) (hgd : o.guard = none) (s x : Operand)
    (ho : o.op = .call { callee := .builtin .append, args := #[s, x], argTypes := #[118, 118] })
    (base : Nat) {B : Option Addr} {n cb : Nat} {xs : List (Int × Nat)} (hs : a.eval s = .slice B n cb) (hown : w.ownsRow base 127 2 (.slice B n cb) n (things xs))
    {A : Option Addr} {c : Nat} (y : Int × Nat) (hx : a.eval x = .slice A 1 c) (hr : Rd w A (tcells y)) (hb : n ≤ 1000000000) (hbase : base ≤ w.heap.size)
    (h : ∀ B' cb' w', w'.ownsRow base 127 2 (.slice B' (n + 1) cb') (n + 1) (things (xs ++ [y])) → w.grownBy w' (Value.slice B n cb).ownBlock →
      ((Value.slice B' (n + 1) cb').ownBlock = (Value.slice B n cb).ownBlock ∨ (Value.slice B' (n + 1) cb').ownBlock = some w.heap.size) → K (a.put o.dst (.slice B' (n + 1) cb')) w') :
    if Region.wanted o (yielded ops a.tmps) = true then Oper.wp Try.prog o a w K Q else E := by
  have hw : Region.wanted o (yielded ops a.tmps) = true := by simp [Region.wanted, hgd]
  rw [if_pos hw]
  obtain ⟨i0, hi, hz0, hz1, hz2⟩ := info_parts info_thing
  exact wp_append_rd w s x 118 ho base 127 Try.underlying118 hi hz0 hz1 hz2 rfl (by decide) hs hown hx (m := 1) (news := tcells y) rfl hr (by rw [← things_one]; exact things_cell _) (by unfold maxLen; omega) (by omega) hbase
    fun B' cb' w' h2 h3 h4 => h B' cb' w' (by rw [things_app, things_one]; exact h2) h3 h4
/-- an element's cells -/
theorem own_thing {w : World} {base : Nat} {B : Option Addr} {n c k : Nat} {xs : List (Int × Nat)} {t : Int × Nat} (h : w.ownsRow base 127 2 (.slice B n c) n (things xs)) (hk : xs[k]? = some t) :
    ∃ b, B = some ⟨b, 0, none⟩ ∧ w.cell? ⟨b, k * 2, none⟩ = some (.int .i64 t.1) ∧ w.cell? ⟨b, k * 2 + 1, none⟩ = some (.int .u64 (t.2 : Int)) := by
  have hl : xs.length = n := by have := h.1; rw [things_len] at this; omega
  have hkl : k < xs.length := (List.getElem?_eq_some_iff.1 hk).1
  obtain ⟨q, rfl, _, _⟩ := own_block h (by omega)
  refine ⟨q, rfl, ?_, ?_⟩
  · have := h.cellAt (k * 2) (by omega)
    rw [this]
    exact things_get hk 0 (by omega)
  · have := h.cellAt (k * 2 + 1) (by omega)
    rw [this]
    exact things_get hk 1 (by omega)
theorem own_len {w : World} {base : Nat} {B : Option Addr} {n c : Nat} {xs : List (Int × Nat)} (h : w.ownsRow base 127 2 (.slice B n c) n (things xs)) : xs.length = n := by have := h.1; rw [things_len] at this; omega
/-- new memory that holds so many numbers -/
def RetN (xs : List Int) (w : World) (e : Ending) (w' : World) : Prop :=
  ∃ A c, e = .returned (.slice A xs.length c) ∧ w'.ownsRow w.heap.size 3 1 (.slice A xs.length c) xs.length (ivals xs) ∧ Ext w w'
theorem map_succ {xs : List (Int × Nat)} {k : Nat} {t : Int × Nat} (h : xs[k]? = some t) : (xs.take (k + 1)).map (·.1) = (xs.take k).map (·.1) ++ [t.1] := by rw [take_succ_of h, List.map_append]; rfl
set_option maxHeartbeats 1000000 in
theorem eheld_any (w : World) (C F : Nat → Prop) (gx gm n who : Nat) (L : List AccE) (s : ESt) (h : EpAt w C F gx gm n L s) (hw : who < n) (hlen : (s.wk who).held.length ≤ 1000000) :
    Calls Try.prog 22 #[.pointer (some ⟨gx, 0, none⟩), .int .i64 (who : Int)] w (RetN ((s.wk who).held.map (·.1)) w) := by
  obtain ⟨gw, f, B, c, x1, -, -, -, -, -, xh, -, -, ho, -⟩ := h.wk hw
  obtain ⟨xs, hxs⟩ : ∃ xs, (s.wk who).held = xs := ⟨_, rfl⟩
  rw [hxs] at xh ho hlen ⊢
  obtain ⟨m, hm⟩ : ∃ m, xs.length = m := ⟨_, rfl⟩
  have Hm := Lib.hid hm
  rw [hm] at xh ho hlen
  have HO := Lib.hid ho
  have WK := Lib.hid (eworker_ok w gx n who gw x1 hw)
  clear ho h hxs hm
  go_enter Try.func22, Try.ntmps22
  go_wp2_with fail
  refine WK.out.mono ?_
  rintro e w1 ⟨rfl, rfl⟩
  go_wp2_with fail
  go_loopw [6, 19] (fun v i wr => ∃ k A cA, k ≤ m ∧ i = .int .i64 (k : Int) ∧ v = .slice A k cA ∧ wr.ownsRow w.heap.size 3 1 (.slice A k cA) k (ivals ((xs.take k).map (·.1))) ∧ Ext w wr) (fun _ i _ => m - (intOf i).toNat)
  case atStart => exact ⟨0, none, 0, Nat.zero_le _, rfl, rfl, World.ownsRow_nil _ _ _ _, Ext.refl w⟩
  case round =>
    obtain ⟨k, A, cA, hk, rfl, rfl, hA, hx⟩ := hrel
    by_cases hlt : k < m
    · obtain ⟨t, ht⟩ : ∃ t, xs[k]? = some t := ⟨_, List.getElem?_eq_getElem (by rw [Hm.out]; exact hlt)⟩
      obtain ⟨b, hb, c0, c1⟩ := own_thing HO.out ht
      have d0 := ext_cell hx c0; have d1 := ext_cell hx c1
      subst hb
      have Ht := Lib.hid ht; have HX := Lib.hid hx; have HA := Lib.hid hA
      have hs : w.heap.size ≤ wr.heap.size := hx.size
      clear ht hx hA
      go_wp2_with (at_builtin; refine app_int _ rfl (.tmp 23) (.tmp 26) rfl w.heap.size rfl ((HA.out.alloc _).alloc _) rfl (m := 1) (news := [t.1]) rfl (rd_newk (wr.alloc _) [.int .i64 t.1] _ (by simp)) (by omega) (by rw [World.size_alloc, World.size_alloc]; omega) ?_; intro A1 c1 w1 hown1 hgrow1 _; have hx1 : Ext w w1 := ((HX.out.alloc _).alloc _).grown hgrow1 (own_ge HA.out))
      go_roundw
      case rel => exact ⟨k + 1, A1, c1, hlt, by go_num, rfl, by rw [map_succ Ht.out]; exact hown1, hx1⟩
      case measure => simp [intOf]; omega
    · obtain rfl : k = m := by omega
      go_wp2_with fail
      go_ret
      rw [List.take_of_length_le (by rw [Hm.out]; exact Nat.le_refl _)] at hA
      have hl : (xs.map (·.1)).length = k := by rw [List.length_map, Hm.out]
      exact ⟨A, cA, by rw [hl]; rfl, by rw [hl]; exact hA, hx⟩
end Go.Proofs.Ytlgggeeflomelaa
