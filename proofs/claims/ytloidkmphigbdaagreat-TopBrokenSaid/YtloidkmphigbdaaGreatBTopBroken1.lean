/- Laid together: what 'TopBroken' needs, part 1 of 11. -/
import Derived.WalkKit
import Derived.Lib.Hide
import Derived.Maps.AppendAt
import Derived.Deep.Draws
import Derived.Lib.Bytealg
import Derived.Test.YtloidkmphigbdaaGreatProg
import Derived.Outline
import Derived.BigQuiet
import Derived.WalkLawsBesides
import Derived.BigRegion
import Derived.Deep.RegionHeld3
import Derived.Deep.DeepCutAuto
import Derived.Deep.RegionLaw
import Derived.Deep.DeepMust
import Derived.Deep.OwnRows
import Derived.Laws.EntriesVeiled
import Derived.Deep.QuietTactic
import Derived.KernelRfl
namespace Go.Proofs.YtloidkmphigbdaaGreat
set_option linter.all false
set_option maxHeartbeats 40000000
set_option maxRecDepth 100000
open Go.RowKit
def Za0 := @List.getElem?_eq_some_iff
def Za1 := @List.getElem?_map
def Za2 := @List.getElem?_of_mem
def Za4 := @List.getElem?_set_ne
def Za5 := @List.getElem?_set_self
def Za6 := @List.getElem?_take
def Za7 := @List.getElem?_toArray
def Za9 := @List.length_append
def ZaO := @Addr.add_lit
def ZaP := @Array.getElem?_eq_some_iff
def ZaV := @Bool.false_ne_true
def ZaX := @Int.ediv_nonneg
def ZaY := @Int.toNat_natCast
def Zaa := @IntKind.wrap_i64
def Zab := @IntKind.wrap_u64
def Zad := @Lib.run_eql_slice_nil
def Zak := @List.drop_append_of_le_length
def Zal := @List.drop_drop
def Zan := @List.drop_of_length_le
def Zao := @List.drop_succ_cons
def Zas := @List.flatMap_append
def Zat := @List.flatMap_cons
def Zau := @List.getD_eq_getElem?_getD
def Zav := @List.getElem?_append_left
def Zaw := @List.getElem?_append_right
def Zax := @List.getElem?_cons_succ
def Zay := @List.getElem?_drop
def Zaz := @List.getElem?_eq_getElem
def Zb0 := @Nat.le_refl
def Zb2 := @Nat.le_trans
def Zb3 := @Nat.lt_irrefl
def Zb5 := @Nat.lt_of_lt_of_le
def Zb6 := @Nat.lt_or_ge
def Zb9 := @Nat.mod_eq_of_lt
def ZbA := @List.length_cons
def ZbB := @List.length_drop
def ZbF := @List.length_set
def ZbG := @List.length_take
def ZbH := @List.map_cons
def ZbI := @List.mem_append
def ZbJ := @List.mem_cons
def ZbK := @List.mem_cons_of_mem
def ZbL := @List.mem_cons_self
def ZbM := @List.mem_flatMap
def ZbN := @List.mem_map
def ZbO := @List.mem_of_getElem?
def ZbP := @List.mem_of_mem_drop
def ZbR := @List.mem_of_mem_take
def ZbS := @List.mem_or_eq_of_mem_set
def ZbV := @List.nil_append
def ZbY := @List.pairwise_append
def ZbZ := @List.pairwise_cons
def Zba := @List.pairwise_iff_getElem
def Zbc := @List.setIfInBounds_toArray
def Zbd := @List.set_cons_succ
def Zbg := @List.take_append_drop
def Zbk := @List.take_of_length_le
def Zbl := @List.take_succ_cons
def Zbo := @List.zip_cons_cons
def Zbp := @Nat.add_assoc
def Zbq := @Nat.add_comm
def Zbt := @Nat.add_mul
def Zbu := @Nat.add_sub_cancel
def Zbv := @Nat.add_sub_cancel_left
def Zbw := @Nat.add_zero
def Zbx := @Nat.and_two_pow_sub_one_eq_mod
def Zbz := @Nat.le_of_lt
def ZcA := @Nat.mod_lt
def ZcD := @Nat.mul_one
def ZcE := @Nat.ne_of_lt
def ZcF := @Nat.not_lt_zero
def ZcH := @Nat.one_mul
def ZcK := @Nat.zero_add
def ZcL := @Nat.zero_le
def ZcM := @Nat.zero_mul
def ZcO := @World.block_lt_of_cell?
def ZcP := @World.cell?_alloc_new
def ZcQ := @World.cell?_of_block
def ZcR := @World.cell?_setCell_other
def ZcS := @World.grownBy.refl
def ZcT := @World.grownBy_alloc
def ZcU := @World.ownsRow_nil
def ZcW := @beq_eq_false_iff_ne
def ZcX := @beq_iff_eq
def ZcY := @bodyPost_ret
def ZcZ := @congrArg
def Zca := @decide_eq_false
def Zcb := @decide_eq_true
def Zcd := @heap_alloc_new
def Zce := @heap_setCell_other
def Zcf := @if_neg
def Zcg := @if_pos
def Zch := @info_parts
def Zcj := @of_decide_eq_true
def Zcn := @run_loadVar_row
abbrev Zdb := Nat → Prop
def ZD (p : Prop) : Prop := p
theorem ZD.out {p : Prop} (h : ZD p) : p := h
theorem ZD.o {p : Prop} (h : ZD p) : p := h
theorem ZA {p : Prop} (h : p) : ZD p := h
theorem ZB {p : Prop} (h : p := by omega) : p := h
theorem ZC {p : Prop} (h : p := by kernel_rfl) : p := h
theorem ZTv {p : Prop} (h : p := by simp) : p := h
theorem ZTw {p : Prop} (h : p := by rfl) : p := h
theorem ZTy {α : Sort _} (t : α) : ∃ q, ZD (t = q) := ⟨t, rfl⟩
theorem ZTz {α : Sort _} (t : α) : ∃ q, t = q := ⟨t, rfl⟩
abbrev ZUA : Obj := .cells #[.bool false, .int .i64 0, .bool false, .int .i64 0, .int .i64 0, .int .i64 0, .int .i64 0] 41 (0, 0)
section
def ZV (k:IntKind)(xs:List Nat):List Value:=xs.map λ(x:Nat)=>Value.int k (x:Int)
theorem ZAw {k:IntKind}{xs:List Nat}{j x:Nat}(h:xs[j]?=some x):(ZV k xs)[j]?=some (.int k (x:Int)):=by
 simp[ZV,h]
theorem XM (k:IntKind)(xs:List Nat):(ZV k xs).length=xs.length:=by simp[ZV]
theorem ZBU (k:IntKind)(xs ys:List Nat):ZV k (xs++ys)=ZV k xs++ZV k ys:=by simp[ZV]
theorem ZI9 (k:IntKind)(xs:List Nat):∀u ∈ ZV k xs,u.oneCell'=true:=by
 intro u hu;obtain⟨_,_,rfl⟩:=ZbN.1 hu;rfl
def Rd (w:World)(A:Option Addr)(vs:List Value):Prop:=vs≠[]->∃b off,A=some ⟨b,off,none⟩/\∀j u,vs[j]?=some u->w.cell? ⟨b,off+j,none⟩=some u
theorem Rd.at_ {w:World}{A:Option Addr}{k:IntKind}{xs:List Nat}{j x:Nat}(h:Rd w A (ZV k xs))(hx:xs[j]?=some x): ∃b off,A=some ⟨b,off,none⟩/\b<w.heap.size/\w.cell? ⟨b,off+j,none⟩=some (.int k (x:Int)):=by
 obtain⟨b,off,hA,hc⟩:=h (by intro e;have:=ZAw (k:=k) hx;rw[e]at this;simp at this);have:=hc j _ (ZAw hx);exact⟨b,off,hA,ZcO w _ this,this⟩
theorem JR {xs:List Nat}{j:Nat}(h:j<xs.length):∃x,xs[j]?=some x:=⟨_,Zaz h⟩
theorem Zr {α:Type}{xs:List α}{k:Nat}{x:α}(h:xs[k]?=some x):xs.take (k+1)=xs.take k++[x]:=by
 rw[List.take_add_one,h];rfl
theorem Rd.keep {w w':World}{A:Option Addr}{vs:List Value}(h:Rd w A vs)(hk:∀p:Addr,p.block<w.heap.size->w'.cell? p=w.cell? p):Rd w' A vs:=by
 intro hne;obtain⟨b,off,hA,hc⟩:=h hne;exact⟨b,off,hA,λj u hu=>(hk _ (ZcO w _ (hc j u hu))).trans (hc j u hu)⟩
theorem Rd.below {w w':World}{A:Option Addr}{vs:List Value}(h:Rd w A vs)(hb:Below w.heap.size w w'):Rd w' A vs:=h.keep λ_ hp=>hb.cell hp
theorem Rd.drewN {w:World}{A:Option Addr}{vs:List Value}(h:Rd w A vs)(n:Nat):Rd (w.drewN n) A vs:=h
theorem Rd.nil (w:World)(A:Option Addr):Rd w A []:=λh=>absurd rfl h
theorem Rd.of_own {w:World}{base:Nat}{e:TypeId}{A:Option Addr}{n c:Nat}{vs:List Value}(h:w.ownsRow base e 1 (.slice A n c) n vs):Rd w A vs:=by
 intro hne;rcases h.2 with⟨h1,h2⟩|⟨g,cap,cur,h1,_⟩
 ·have:=h.1;rw[h2]at this;simp at this;exact absurd this hne
 ·injection h1 with h1 _ _;subst h1;refine⟨g,0,rfl,λj u hu=>?_⟩;have:=h.cells (g:=g) rfl j u hu;rw[ZaO]at this;simpa using this
theorem ZAT {k:IntKind}{a b:Int}(h:a=b):Ending.returned (.int k a)=Ending.returned (.int k b):=by rw[h]
theorem ZBL {a b:Bool}(h:a=b):Ending.returned (.bool a)=Ending.returned (.bool b):=by rw[h]
theorem ZAz {a b c d:Value}(h:a=b)(h':c=d):Ending.returned (.tuple #[a,c])=Ending.returned (.tuple #[b,d]):=by rw[h,h']
theorem ZLZ {k:IntKind}{a b:Int}(h:a=b):Value.int k a=Value.int k b:=by rw[h]
theorem ZDC {a b:Bool}(h:a=b):Value.bool a=Value.bool b:=by rw[h]
def ZL (w w':World):Prop:=Below w.heap.size w w'
theorem ZL.refl (w:World):ZL w w:=Below.refl _ _
theorem ZL.trans {a b c:World}(h:ZL a b)(k:ZL b c):ZL a c:=Below.trans h (Below.mono k h.size)
theorem ZL.alloc {a b:World}(h:ZL a b)(o:Obj):ZL a (b.alloc o):=Below.alloc h h.size o
theorem ZL.drew {a b:World}(h:ZL a b):ZL a b.drew:=Below.drew h
theorem ZL.drewN {a b:World}(h:ZL a b)(n:Nat):ZL a (b.drewN n):=⟨h.os,h.tape,h.output,h.size,h.block⟩
theorem ZL.setCell {a b:World}(h:ZL a b){p:Addr}(hp:a.heap.size<=p.block)(u:Value):ZL a (b.setCell p u):=Below.setCell h hp u
theorem ZL.grown {a b c:World}(h:ZL a b){row:Option Nat}(hg:b.grownBy c row)(hr:∀k,row=some k->a.heap.size<=k):ZL a c:=Below.grown h hg h.size hr
theorem Rd.ext {w w':World}{A:Option Addr}{vs:List Value}(h:Rd w A vs)(hb:ZL w w'):Rd w' A vs:=h.below hb
theorem Rd.alloc {w:World}{A:Option Addr}{vs:List Value}(h:Rd w A vs)(o:Obj):Rd (w.alloc o) A vs:=h.ext ((ZL.refl w).alloc o)
theorem Rd.grown {w w':World}{A:Option Addr}{vs:List Value}(h:Rd w A vs){row:Option Nat}(hg:w.grownBy w' row)(hr:∀a,A=some a->row≠some a.block):Rd w' A vs:=by
 intro hne;obtain⟨b,off,hA,hc⟩:=h hne;exact⟨b,off,hA,λj u hu=>hg.cell (hc j u hu) (λe=>hr _ hA e.symm)⟩
theorem YB {w w':World}{base:Nat}{e:TypeId}{size:Nat}{v:Value}{n:Nat}{xs:List Value}(h:w.ownsRow base e size v n xs)(hb:ZL w w'):w'.ownsRow base e size v n xs:=by
 refine⟨h.1,?_⟩;rcases h.2 with hn|⟨g,cap,cur,rfl,hbg,hgg,rest⟩
 ·exact .inl hn
 ·exact .inr ⟨g,cap,cur,rfl,hbg,by rw[hb.block g (ZaP.1 hgg).1];exact hgg,rest⟩
theorem Zg {w:World}{base base':Nat}{e:TypeId}{size:Nat}{v:Value}{n:Nat}{xs:List Value}(h:w.ownsRow base e size v n xs)(hb:base'<=base):w.ownsRow base' e size v n xs:=by
 refine⟨h.1,?_⟩;rcases h.2 with hn|⟨g,cap,cur,rfl,hbg,rest⟩
 ·exact .inl hn
 ·exact .inr ⟨g,cap,cur,rfl,by omega,rest⟩
theorem ZPS {w:World}{base:Nat}{e:TypeId}{size:Nat}{v:Value}{n:Nat}{xs:List Value}(h:w.ownsRow base e size v n xs):∃A c,v=.slice A n c:=by
 rcases h.2 with⟨rfl,rfl⟩|⟨g,cap,cur,rfl,_⟩
 ·exact⟨_,_,rfl⟩
 ·exact⟨_,_,rfl⟩
theorem Ys {w:World}{base:Nat}{e:TypeId}{size:Nat}{A:Option Addr}{n c:Nat}{xs:List Value}(h:w.ownsRow base e size (.slice A n c) n xs):n<=c:=by
 rcases h.2 with⟨h1,rfl⟩|⟨g,cap,cur,h1,_,_,h2,_⟩
 ·omega
 ·injection h1 with _ _ h1;omega
theorem ZBJ {w:World}{base:Nat}{e:TypeId}{size:Nat}{A:Option Addr}{n c:Nat}{xs:List Value}(h:w.ownsRow base e size (.slice A n c) n xs)(hn:0<n): ∃g,A=some ⟨g,0,none⟩/\base<=g/\g<w.heap.size:=by
 rcases h.2 with⟨h1,rfl⟩|⟨g,cap,cur,h1,h2,h3,_⟩
 ·omega
 ·injection h1 with h1 _ _;exact⟨g,h1,h2,(ZaP.1 h3).1⟩
theorem Yg {w:World}{A:Option Addr}{n c:Nat}{base:Nat}{e:TypeId}{size:Nat}{xs:List Value}(h:w.ownsRow base e size (.slice A n c) n xs):∀k,(Value.slice A n c).ownBlock=some k->base<=k:=λk hk=>(h.lt k hk).1
theorem XR (w:World)(cs:List Value)(e:TypeId)(size n:Nat)(hn:cs.length=n*size)(hm:n<=maxLen){base:Nat}(hb:base<=w.heap.size): (w.alloc (.cells cs.toArray e)).ownsRow base e size (.slice (some ⟨w.heap.size,0,none⟩) n n) n cs:=⟨hn,.inr ⟨w.heap.size,n,cs.toArray,rfl,hb,Zcd w _,Zb0 _,hm,by simpa using hn,by rw[Zbk (by simp[hn])]⟩⟩
theorem ZES (w:World)(cs:List Value)(e:TypeId):Rd (w.alloc (.cells cs.toArray e)) (some ⟨w.heap.size,0,none⟩) cs:=by
 intro _;refine⟨w.heap.size,0,rfl,λj u hu=>?_⟩;rw[ZcK,ZcP];simpa using hu
theorem ZOA (w:World)(a b:Nat):(w.drewN a).drewN b=w.drewN (a+b):=by simp[World.drewN,Zbp]
theorem ZAW {P:Program}{f:FuncId}{args:Array Value}{w:World}{n:Nat}{v:Value}(h:Calls P f args (w.drewN n) λe w'=>e=.returned v/\w.drewN n=w'):Calls P f args (w.drewN n) λe w''=>e=.returned v/\∃m,w''=w.drewN m:=
 h.mono λ_ _ ⟨he,hm⟩=>⟨he,n,hm.symm⟩
theorem ZBB {P:Program}{f:FuncId}{args:Array Value}{w:World}{a n:Nat}{v:Value}(h:Calls P f args (w.drewN (a+n)) λe w'=>e=.returned v/\w.drewN (a+n)=w'):Calls P f args (w.drewN (a+n)) λe w''=>e=.returned v/\∃m,w''=w.drewN (a+m):=
 h.mono λ_ _ ⟨he,hm⟩=>⟨he,n,hm.symm⟩
theorem ZFl {P:Program}{t e:TypeId}(ht:P.underlying t=some (.slice e))(hz:∀u:World,(sizeOf e).run P u=.ok 1 u){b off n c m d:Nat}(k:Nat)(h1:k<=n)(h2:¬c=k)(hm:n=m+k)(hd:c=d+k)(u:World): (Instr.slice t (.slice (some ⟨b,off,none⟩) n c) (some (.int .i64 (k:Int))) none none).run P u=.ok (.slice (some ⟨b,off+k,none⟩) m d) u:=by
 have he:P.elem t=e:=by simp[Program.elem,ht]
 rw[run_slice_l (P:=P) u t _ n c (by rw[he];exact ht) .i64 (k:Int) ZB ZB];rw[he,hz];simp only[Result.andThen,sliced,ZaY,Zcf h2,Option.map_some,ZaO,ZcD]
 congr 2<;>omega
section
variable {P:Program} (w:World)
theorem ZFB {base:Nat}{t ty e:TypeId}{i:TypeInfo}{size:Nat}(ht:P.underlying t=some (.slice e))(hi:P.info? e=some i){v:Value}{n:Nat}{xs:List Value}(hown:w.ownsRow base e size v n xs)(c:Nat):(Builtin.append_ #[t,t] ty #[v,.slice none 0 c]).run P w=.ok v w:=by
 rcases hown.2 with⟨rfl,rfl⟩|⟨g,cap,cur,rfl,_,_,hnc,_⟩
 ·simp[Builtin.append_,run_underlying ht,sizeOf,typeInfo,hi,Builtin.lenOf,Builtin.firstCells]
 ·simp[Builtin.append_,run_underlying ht,sizeOf,typeInfo,hi,Builtin.lenOf,Builtin.firstCells,hnc,storeCells]
theorem ZGw {base:Nat}{t ty e:TypeId}{i:TypeInfo}{z:Value}{size bytes:Nat}(ht:P.underlying t=some (.slice e))(hi:P.info? e=some i)(hz:i.zero=some z)(hsize:i.size=size)(hby:i.bytes=bytes)(hzs:z.cells.size=size)(hsz:0<size){B:Option Addr}{n cb:Nat}{xs:List Value}(hown:w.ownsRow base e size (.slice B n cb) n xs){A:Option Addr}{m c:Nat}{news:List Value}(hl:news.length=m*size)(hr:Rd w A news)(h1:∀u ∈ news,u.oneCell'=true)(h63:n+m<=maxLen)(hbytes:(n+m)*bytes<=140737488355328)(hbase:base<=w.heap.size): ∃B' cb' w',(Builtin.append_ #[t,t] ty #[.slice B n cb,.slice A m c]).run P w=.ok (.slice B' (n+m) cb') w'/\w'.ownsRow base e size (.slice B' (n+m) cb') (n+m) (xs++news)/\ w.grownBy w' (Value.slice B n cb).ownBlock/\((Value.slice B' (n+m) cb').ownBlock=(Value.slice B n cb).ownBlock\/(Value.slice B' (n+m) cb').ownBlock=some w.heap.size):=by
 have fin:∀v' w',(Builtin.append_ #[t,t] ty #[.slice B n cb,.slice A m c]).run P w=.ok v' w'->w'.ownsRow base e size v' (n+m) (xs++news)-> w.grownBy w' (Value.slice B n cb).ownBlock->(v'.ownBlock=(Value.slice B n cb).ownBlock\/v'.ownBlock=some w.heap.size)-> ∃B' cb' w',(Builtin.append_ #[t,t] ty #[.slice B n cb,.slice A m c]).run P w=.ok (.slice B' (n+m) cb') w'/\w'.ownsRow base e size (.slice B' (n+m) cb') (n+m) (xs++news)/\ w.grownBy w' (Value.slice B n cb).ownBlock/\((Value.slice B' (n+m) cb').ownBlock=(Value.slice B n cb).ownBlock\/(Value.slice B' (n+m) cb').ownBlock=some w.heap.size):=by
  intro v' w' h2 h3 h4 h5;obtain⟨B',cb',rfl⟩:=ZPS h3;exact⟨B',cb',w',h2,h3,h4,h5⟩
 cases A with
 |none=>
  have hn:news=[]:=by
   rcases Classical.em (news=[])with h|h
   ·exact h
   ·obtain⟨b,off,hA,_⟩:=hr h;cases hA
  subst hn;have hm:m=0:=by
   have h0:m*size=0:=by rw[<-hl];rfl
   rcases Nat.mul_eq_zero.1 h0 with h|h
   ·exact h
   ·omega
  subst hm;exact fin _ w (ZFB w ht hi hown c) (by simpa using hown) (ZcS w _) (.inl rfl)
 |some a=>
  obtain⟨v',w',h2,h3,h4,_,h5⟩:=run_append_own_at (P:=P) w base t ty e i z size bytes ht hi hz hsize hby hzs hsz _ n xs hown a m c news hl (λj u hu=>by
   obtain⟨b,off,hA,hc⟩:=hr (by intro e;rw[e]at hu;simp at hu);injection hA with hA;subst hA;rw[ZaO];exact hc j u hu) h1 h63 hbytes hbase
  exact fin v' w' h2 h3 h4 h5
theorem ZA7 {o:Oper}{a:Act}{K:Act->World->Prop}{Q:Exit->Act->World->Prop}(s x:Operand)(t:TypeId)(ho:o.op=.call {callee:=.builtin .append,args:=#[s,x],argTypes:=#[t,t]})(base:Nat)(e:TypeId){i:TypeInfo}{z:Value}{size bytes:Nat}(ht:P.underlying t=some (.slice e))(hi:P.info? e=some i)(hz:i.zero=some z)(hsize:i.size=size)(hby:i.bytes=bytes)(hzs:z.cells.size=size)(hsz:0<size){B:Option Addr}{n cb:Nat}{xs:List Value}(hs:a.eval s=.slice B n cb)(hown:w.ownsRow base e size (.slice B n cb) n xs){A:Option Addr}{m c:Nat}{news:List Value}(hx:a.eval x=.slice A m c)(hl:news.length=m*size)(hr:Rd w A news)(h1:∀u ∈ news,u.oneCell'=true)(h63:n+m<=maxLen)(hbytes:(n+m)*bytes<=140737488355328)(hbase:base<=w.heap.size)(h:∀B' cb' w',w'.ownsRow base e size (.slice B' (n+m) cb') (n+m) (xs++news)->w.grownBy w' (Value.slice B n cb).ownBlock-> ((Value.slice B' (n+m) cb').ownBlock=(Value.slice B n cb).ownBlock\/(Value.slice B' (n+m) cb').ownBlock=some w.heap.size)->K (a.put o.dst (.slice B' (n+m) cb')) w'):o.wp P a w K Q:=by
 obtain⟨B',cb',w',hrun,h2,h3,h4⟩:=ZGw (P:=P) w (ty:=o.type) ht hi hz hsize hby hzs hsz hown (c:=c) hl hr h1 h63 hbytes hbase;unfold Oper.wp execOp;simp only[ho,resolve,invoke,builtin,Sem.run_bind,Sem.run_pure,Result.andThen_ok,List.map_toArray,ZbH,List.map_nil,hs,hx,hrun];exact h B' cb' w' h2 h3 h4
theorem Yv {ops:Array Oper}{rest:List Oper}{o:Oper}{a:Act}{Q:Exit->Act->World->Prop}(hgd:o.guard=none)(s x:Operand)(t:TypeId)(ho:o.op=.call {callee:=.builtin .append,args:=#[s,x],argTypes:=#[t,t]})(base:Nat)(e:TypeId){i:TypeInfo}{z:Value}{size bytes:Nat}(ht:P.underlying t=some (.slice e))(hi:P.info? e=some i)(hz:i.zero=some z)(hsize:i.size=size)(hby:i.bytes=bytes)(hzs:z.cells.size=size)(hsz:0<size){B:Option Addr}{n cb:Nat}{xs:List Value}(hs:a.eval s=.slice B n cb)(hown:w.ownsRow base e size (.slice B n cb) n xs){A:Option Addr}{m c:Nat}{news:List Value}(hx:a.eval x=.slice A m c)(hl:news.length=m*size)(hr:Rd w A news)(h1:∀u ∈ news,u.oneCell'=true)(h63:n+m<=maxLen)(hbytes:(n+m)*bytes<=140737488355328)(hbase:base<=w.heap.size)(h:∀B' cb' w',w'.ownsRow base e size (.slice B' (n+m) cb') (n+m) (xs++news)->w.grownBy w' (Value.slice B n cb).ownBlock-> ((Value.slice B' (n+m) cb').ownBlock=(Value.slice B n cb).ownBlock\/(Value.slice B' (n+m) cb').ownBlock=some w.heap.size)->wpList P ops Q rest (a.put o.dst (.slice B' (n+m) cb')) w'): wpList P ops Q (o::rest) a w:=wpList_plain hgd λ_ hK=>ZA7 w s x t ho base e ht hi hz hsize hby hzs hsz hs hown hx hl hr h1 h63 hbytes hbase λB' cb' w' h2 h3 h4=>hK _ _ (h B' cb' w' h2 h3 h4)
end
end
def ord:List Nat->List Nat->Int
 |[],[]=>0
 |[],_::_=>-1
 |_::_,[]=>1
 |a::us,b::bs=>if a<b then -1 else if b<a then 1 else ord us bs
def ZCA (xs:List Nat):List UInt8:=xs.map UInt8.ofNat
theorem ZR5 (a b:Nat)(ha:a<256)(hb:b<256):(UInt8.ofNat a<UInt8.ofNat b)↔a<b:=by
 rw[UInt8.lt_iff_toNat_lt];simp only[UInt8.toNat_ofNat'];omega
theorem ZE3:∀(xs ys:List Nat),(∀x ∈ xs,x<256)->(∀y ∈ ys,y<256)->Lib.compareBytes (ZCA xs) (ZCA ys)=ord xs ys
 |[],[],_,_=>rfl
 |[],_::_,_,_=>rfl
 |_::_,[],_,_=>rfl
 |a::us,b::bs,h1,h2=>by
  have ih:=ZE3 us bs (λx hx=>h1 x (ZbK _ hx)) (λy hy=>h2 y (ZbK _ hy));have ha:=h1 a ZbL;have hb:=h2 b ZbL;unfold ZCA at ih ⊢;simp only[ZbH,Lib.compareBytes,ord,ZR5 a b ha hb,ZR5 b a hb ha,ih]
theorem ZJd (xs ys:List Nat):ord ys xs= - ord xs ys:=by
 induction xs generalizing ys with
 |nil=>cases ys<;>simp[ord]
 |cons a us ih=>
  cases ys with
  |nil=>simp[ord]
  |cons b bs=>
   simp only[ord];by_cases h:a<b
   ·rw[Zcf ZB,Zcg h,Zcg h];rfl
   ·by_cases h':b<a
    ·rw[Zcg h',Zcf h,Zcg h']
    ·rw[Zcf h',Zcf h,Zcf h,Zcf h'];exact ih bs
theorem ZIV (xs ys:List Nat):ord xs ys=0↔xs=ys:=by
 induction xs generalizing ys with
 |nil=>cases ys<;>simp[ord]
 |cons a us ih=>
  cases ys with
  |nil=>simp[ord]
  |cons b bs=>
   simp only[ord];by_cases h:a<b
   ·rw[Zcg h];simp;omega
   ·by_cases h':b<a
    ·rw[Zcf h,Zcg h'];simp;omega
    ·rw[Zcf h,Zcf h',ih bs];have:a=b:=by omega
     simp[this]
theorem ZPV (xs:List Nat):ord xs xs=0:=(ZIV xs xs).2 rfl
theorem ZNR (xs ys zs:List Nat):(ord xs ys<=0->ord ys zs<=0->ord xs zs<=0)/\(ord xs ys<0->ord ys zs<=0->ord xs zs= -1)/\(ord xs ys<=0->ord ys zs<0->ord xs zs= -1):=by
 induction xs generalizing ys zs with
 |nil=>cases ys<;>cases zs<;>simp[ord]
 |cons a us ih=>
  cases ys with
  |nil=>simp[ord]
  |cons b bs=>
   cases zs with
   |nil=>simp[ord]
   |cons c cs=>
    have:=ih bs cs;simp only[ord];by_cases h1:a<b<;>by_cases h2:b<a<;>by_cases h3:b<c<;>by_cases h4:c<b<;>by_cases h5:a<c<;>by_cases h6:c<a<;>simp only[h1,h2,h3,h4,h5,h6,if_true,if_false]<;>first|exact this|(simp;done)|(simp;omega)|omega
theorem ZHK {P:Program}(w:World)(b:Nat):∀(xs:List Nat) (off:Nat) (acc:ByteArray),(∀(j x:Nat),xs[j]?=some x->w.cell? ⟨b,off+j,none⟩=some (.int .u8 (x:Int)))-> (Extern.Bytes.loadBytes ⟨b,off,none⟩ xs.length acc).run P w=.ok ⟨acc.data++(ZCA xs).toArray⟩ w
 |[],off,acc,_=>by simp[Extern.Bytes.loadBytes,ZCA]
 |x::l,off,acc,h=>by
  have h0:=h 0 x rfl
  have ih:=ZHK (P:=P) w b l (off+1) (acc.push (UInt8.ofNat x)) (λj y hy=>by
   have:=h (j+1) y (by simpa using hy);rw[show off+1+j=off+(j+1) by omega];exact this)
  simp only[Zbw]at h0;simp only[ZbA,Extern.Bytes.loadBytes,Sem.run_bind,run_load,h0,Result.andThen];rw[ZaO];simp only[ZaY];have e:(x.toUInt8:UInt8)=UInt8.ofNat x:=rfl;rw[e,ih]
  congr 1
  apply ByteArray.ext;simp[ByteArray.push,ZCA]
theorem ZFp {P:Program}{w:World}{A:Option Addr}{n c:Nat}{xs:List Nat}(hl:xs.length=n)(hr:Rd w A (ZV .u8 xs)): (Extern.Bytes.bytesOf (.slice A n c)).run P w=.ok ⟨(ZCA xs).toArray⟩ w:=by
 cases xs with
 |nil=>
  subst hl;cases A<;>rfl
 |cons x l=>
  obtain⟨b,off,rfl,hc⟩:=hr (by simp[ZV]);have:=ZHK (P:=P) w b (x::l) off .empty (λj y hy=>hc j _ (ZAw hy));rw[hl]at this;unfold Extern.Bytes.bytesOf;rw[this]
  congr 1
  apply ByteArray.ext;simp
theorem ZPA {P:Program}{w:World}{A B:Option Addr}{n c m d:Nat}{xs ys:List Nat}(hl:xs.length=n)(hr:Rd w A (ZV .u8 xs))(hl':ys.length=m)(hr':Rd w B (ZV .u8 ys))(hb:∀x ∈ xs,x<256)(hb':∀x ∈ ys,x<256): (Extern.BytealgCompare.compare #[.slice A n c,.slice B m d]).run P w=.ok (.int .i64 (ord xs ys)) w:=by
 change Sem.run P (do pure (goInt (Extern.BytealgCompare.cmp (<-Extern.Bytes.bytesOf (.slice A n c)) (<-Extern.Bytes.bytesOf (.slice B m d))))) w=_;simp only[Sem.run_bind,Sem.run_pure,Result.andThen,ZFp hl hr,ZFp hl' hr'];rw[Lib.cmp_eq];simp only[ZE3 xs ys hb hb'];rfl
def ZDr (h x:Nat):Nat:=(h ^^^ x)*1099511628211 % 18446744073709551616
def upd (h:Nat)(xs:List Nat):Nat:=xs.foldl ZDr h
theorem ZO3 (h x:Nat):ZDr h x<18446744073709551616:=by unfold ZDr;omega
theorem ZMP (h:Nat):upd h []=h:=by rw[upd,List.foldl_nil]
theorem ZJB (h x:Nat)(xs:List Nat):upd h (x::xs)=upd (ZDr h x) xs:=by rw[upd,List.foldl_cons,upd]
theorem ZKo (h:Nat)(xs ys:List Nat):upd h (xs++ys)=upd (upd h xs) ys:=by rw[upd,List.foldl_append,upd,upd]
theorem ZJA (h:Nat)(xs:List Nat)(x:Nat):upd h (xs++[x])=ZDr (upd h xs) x:=by rw[ZKo,ZJB,ZMP]
theorem ZDR (h:Nat)(xs:List Nat)(hh:h<18446744073709551616):upd h xs<18446744073709551616:=by
 induction xs generalizing h with
 |nil=>rw[ZMP];exact hh
 |cons x xs ih=>rw[ZJB];exact ih _ (ZO3 h x)
theorem ZNE (h x:Nat):IntKind.u64.wrap (((h ^^^ x:Nat):Int)*1099511628211)=((ZDr h x:Nat):Int):=by
 rw[Zab,ZDr];omega
theorem ZM3 (H x:Nat)(hx:x<256):H / 256*256+((H % 256) ^^^ x)=H ^^^ x:=by
 have h1:(H ^^^ x) / 256=H / 256:=by
  have:=@Nat.xor_div_two_pow H x 8;simp only[Nat.reducePow]at this;rw[this,Nat.div_eq_of_lt hx,Nat.xor_zero]
 have h2:(H ^^^ x) % 256=(H % 256) ^^^ x:=by
  have:=@Nat.xor_mod_two_pow H x 8;simp only[Nat.reducePow]at this;rw[this,Zb9 hx]
 omega
theorem ZFa (H x:Nat)(hH:H<18446744073709551616)(hx:x<256):H ^^^ x<18446744073709551616:=by
 have:=@Nat.xor_lt_two_pow H x 64 ZB ZB;simpa using this
theorem ZTh (H x:Nat)(hH:H<18446744073709551616)(hx:x<256): IntKind.u64.wrap ((H:Int) / 256*256+IntKind.u64.wrap (bits .xor .u8 ((H:Int) % 256) (x:Int)))=((H ^^^ x:Nat):Int):=by
 have e:((H:Int) % 256)=((H % 256:Nat):Int):=by omega
 have h3:=ZM3 H x hx;have h4:=ZFa H x hH hx;have h5:=ZFa (H % 256) x ZB hx;have h6:=IntWalk.u64_in ((H % 256 ^^^ x:Nat):Int) ZB;rw[e,Go.u8_xor_nat _ _ ZB hx,h6,IntWalk.u64_in _ ZB];omega
theorem ZRF (X:Nat)(hX:X<18446744073709551616):
  IntKind.u64.wrap (IntKind.u64.wrap (bits .and .u64 (X:Int) 4294967295*435)+ IntKind.u64.wrap (IntKind.u64.wrap (IntKind.u64.wrap ((X:Int) / 4294967296*435)+IntKind.u64.wrap (bits .and .u64 (X:Int) 4294967295*256))*4294967296))=
  ((X*1099511628211 % 18446744073709551616:Nat):Int):=by
 have e:bits .and .u64 (X:Int) 4294967295=((X % 4294967296:Nat):Int):=by
  have:=Go.u64_and_nat X 4294967295 hX ZB;rw[show((4294967295:Nat):Int)=(4294967295:Int)from rfl]at this;rw[this,show(4294967295:Nat)=2 ^ 32 - 1 from rfl,Zbx]
 rw[e];simp only[Zab];omega
theorem ZPH (H x:Nat)(hH:H<18446744073709551616)(hx:x<256){W:Int}(hW:W=((H ^^^ x:Nat):Int)):
  IntKind.u64.wrap (IntKind.u64.wrap (bits .and .u64 W 4294967295*435)+ IntKind.u64.wrap (IntKind.u64.wrap (IntKind.u64.wrap (W / 4294967296*435)+IntKind.u64.wrap (bits .and .u64 W 4294967295*256))*4294967296))=
  ((ZDr H x:Nat):Int):=by
 rw[hW,ZRF _ (ZFa H x hH hx),ZDr]
def ZAi (s level:Nat):Nat:=s % 2 ^ level
theorem ZQg (X m:Nat)(hX:X<18446744073709551616)(hm:2 ^ m - 1<18446744073709551616):bits .and .u64 (X:Int) ((2 ^ m - 1:Nat):Int)=((ZAi X m:Nat):Int):=by
 rw[Go.u64_and_nat X _ hX hm,Zbx,ZAi]
theorem ZNF (s level:Nat)(h:level<=4):ZAi s level<16:=by
 unfold ZAi;have:level=0\/level=1\/level=2\/level=3\/level=4:=by omega
 rcases this with rfl|rfl|rfl|rfl|rfl<;>omega
theorem ZPb {S:Nat}(m:Nat){k:Int}(hS:S<18446744073709551616)(hv:m<=4)(hk:k=((2 ^ m - 1:Nat):Int)):wrap64 (bits .and .u64 (S:Int) k)=((ZAi S m:Nat):Int):=by
 have h1:=ZNF S m hv;have h2:2 ^ m - 1<18446744073709551616:=by
  have:m=0\/m=1\/m=2\/m=3\/m=4:=by omega
  rcases this with rfl|rfl|rfl|rfl|rfl<;>omega
 rw[hk,ZQg S m hS h2,IntWalk.wrap64_in _ ZB]
def Xu (v:Value)(w:World)(e:Ending)(w':World):Prop:=e=.returned v/\ZL w w'
theorem ZOw {P:Program}{f:FuncId}{args:Array Value}{w:World}{v:Value}(h:Calls P f args w λe w'=>e=.returned v/\∃q,w'=w.drewN q):Calls P f args w (Xu v w):=h.mono λ_ _ ⟨he,q,hw⟩=>⟨he,hw ▸ (ZL.refl w).drewN q⟩
theorem World.grown_trans {a b c:World}{row:Option Nat}(h:a.grownBy b row)(k:b.grownBy c row):a.grownBy c row:=⟨k.os.trans h.os,k.tape.trans h.tape,k.output.trans h.output,Zb2 h.size k.size,λi hi hne=>(k.block i (Zb5 hi h.size) hne).trans (h.block i hi hne)⟩
theorem ZSZ {w:World}{base:Nat}{e:TypeId}{size:Nat}{A:Option Addr}{n c:Nat}{xs:List Value}(h:w.ownsRow base e size (.slice A n c) n xs):∀a,A=some a->a.block<w.heap.size:=by
 intro a ha;subst ha;exact(h.lt a.block rfl).2
theorem ZI8 (k:IntKind)(xs:List Nat)(i x:Nat):ZV k (xs.set i x)=(ZV k xs).set i (.int k (x:Int)):=by simp[ZV,List.map_set]
theorem JO (k:IntKind)(xs:List Nat)(i:Nat):ZV k (xs.drop i)=(ZV k xs).drop i:=by simp[ZV,List.map_drop]
theorem JN (k:IntKind)(xs:List Nat)(i:Nat):ZV k (xs.take i)=(ZV k xs).take i:=by simp[ZV,List.map_take]
theorem XP {P:Program}{t e:TypeId}(ht:P.underlying t=some (.slice e))(hz:∀u:World,(sizeOf e).run P u=.ok 1 u){A:Option Addr}{n c m d:Nat}(k:Nat){ki:Int}(hki:ki=(k:Int))(hnc:n<=c)(hm:n=m+k)(hd:c=d+k): ∃A':Option Addr,(∀u:World,(Instr.slice t (.slice A n c) (some (.int .i64 ki)) none none).run P u=.ok (.slice A' m d) u)/\ (∀(w:World) (vs:List Value),vs.length=n->Rd w A vs->Rd w A' (vs.drop k))/\(∀a,A=some a->∃a',A'=some a'/\a'.block=a.block):=by
 subst hki;have he:P.elem t=e:=by simp[Program.elem,ht]
 refine⟨if c=k then A else A.map (·.add k),λu=>?_,λw vs hl hr hne=>?_,λa ha=>?_⟩
 ·rw[run_slice_l (P:=P) u t A n c (by rw[he];exact ht) .i64 (k:Int) ZB ZB,he,hz];simp only[Result.andThen,sliced,ZaY,ZcD]
  congr 2<;>omega
 ·have hvn:vs≠[]:=by rintro rfl;simp at hne
  obtain⟨b,off,rfl,hc⟩:=hr hvn;have hck:¬c=k:=by
   intro h;apply hne;rw[Zan ZB]
  rw[Zcf hck];exact⟨b,off+k,by simp[ZaO],λj u hu=>by rw[Zbp];exact hc (k+j) u (by rw[<-hu,Zay])⟩
 ·subst ha
  split
  ·exact⟨a,rfl,rfl⟩
  ·refine⟨a.add k,rfl,?_⟩;unfold Addr.add
   split<;>rfl
def Zm (xs:List Int):List Value:=xs.map (Value.int .i64)
theorem ZHj {xs:List Int}{j:Nat}(h:j<xs.length):(Zm xs)[j]?=some (.int .i64 (xs.getD j 0)):=by
 simp[Zm,h]
theorem YZ (xs:List Int):(Zm xs).length=xs.length:=by simp[Zm]
theorem ZIa (xs ys:List Int):Zm (xs++ys)=Zm xs++Zm ys:=by simp[Zm]
theorem ZC4 (xs:List Int):∀u ∈ Zm xs,u.oneCell'=true:=by
 intro u hu;obtain⟨_,_,rfl⟩:=ZbN.1 hu;rfl
theorem Rd.atI {w:World}{A:Option Addr}{xs:List Int}{j:Nat}(h:Rd w A (Zm xs))(hx:j<xs.length): ∃b off,A=some ⟨b,off,none⟩/\b<w.heap.size/\w.cell? ⟨b,off+j,none⟩=some (.int .i64 (xs.getD j 0)):=by
 obtain⟨b,off,hA,hc⟩:=h (by intro e;have:=ZHj hx;rw[e]at this;simp at this);have:=hc j _ (ZHj hx);exact⟨b,off,hA,ZcO w _ this,this⟩
theorem ZRc {xs:List Int}{j:Nat}(h:j<xs.length):xs[j]?=some (xs.getD j 0):=by simp[h]
theorem ZCa {xs:List Int}{z:Int}:z ∈ xs↔∃j,j<xs.length/\xs.getD j 0=z:=by
 constructor
 ·intro h;obtain⟨j,hj,e⟩:=List.getElem_of_mem h;exact⟨j,hj,by simp[hj,e]⟩
 ·rintro⟨j,hj,rfl⟩;have:=ZRc hj;exact ZbO this
def ZSb (xs:List Int)(j:Nat):Prop:=1<=xs.getD j 0/\xs.getD j 0<=4611686018427387903/\(0<j->xs.getD (j - 1) 0<xs.getD j 0)
def ZBT (xs:List Int):Prop:=∀j,j<xs.length->ZSb xs j
def ZDG (p:Int)(xs:List Int):Prop:=1<=p/\p<=64/\(xs.length:Int)<=p/\ZBT xs
def Ser (n:Int):Prop:=1<=n/\n<=4611686018427387903
instance (n:Int):Decidable (Ser n):=inferInstanceAs (Decidable (1<=n/\n<=4611686018427387903))
theorem ZFP {xs:List Int}(h:ZBT xs):∀j i,i<j->j<xs.length->xs.getD i 0<xs.getD j 0:=by
 intro j
 induction j with
 |zero=>intro i hi;omega
 |succ j ih=>
  intro i hi hj;have h1:=(h (j+1) hj).2.2 ZB;rw[Zbu]at h1;by_cases hij:i=j
  ·rw[hij];exact h1
  ·have:=ih i ZB ZB;omega
theorem ZMo {xs:List Int}(h:ZBT xs):xs.Pairwise (· <·):=by
 rw[Zba];intro i j hi hj hij;have:=ZFP h j i hij hj;simpa[hi,hj]using this
theorem ZJ2 {xs:List Int}(h:ZBT xs):∀z ∈ xs,Ser z:=by
 intro z hz;obtain⟨j,hj,rfl⟩:=ZCa.1 hz;exact⟨(h j hj).1,(h j hj).2.1⟩
theorem ZMp {xs:List Int}(h:xs.Pairwise (· <·))(hm:∀z ∈ xs,Ser z):ZBT xs:=by
 intro j hj;have h1:=hm (xs.getD j 0) (ZCa.2 ⟨j,hj,rfl⟩);refine⟨h1.1,h1.2,λh0=>?_⟩;rw[Zba]at h;have:=h (j - 1) j ZB hj ZB;have hj':j - 1<xs.length:=by omega
 simpa[hj,hj']using this
def At (xs:List Int)(t:Int)(k:Nat):Prop:=k<=xs.length/\(∀j,j<k->xs.getD j 0<t)/\∀j,k<=j->j<xs.length->t<=xs.getD j 0
theorem ZRt {xs:List Int}(h:ZBT xs)(t:Int):∃k,At xs t k:=by
 have:∀m,m<=xs.length->∃k,k<=m/\(∀j,j<k->xs.getD j 0<t)/\∀j,k<=j->j<m->t<=xs.getD j 0:=by
  intro m
  induction m with
  |zero=>intro _;exact⟨0,Zb0 _,λj hj=>by omega,λj _ hj=>by omega⟩
  |succ m ih=>
   intro hm;obtain⟨k,k1,k2,k3⟩:=ih ZB;by_cases hk:k<m
   ·refine⟨k,by omega,k2,λj hj hjm=>?_⟩;by_cases e:j=m
    ·subst e;have:=k3 k (Zb0 _) hk;have:=ZFP h j k hk ZB;omega
    ·exact k3 j hj ZB
   ·obtain rfl:k=m:=by omega
    by_cases ht:xs.getD k 0<t
    ·refine⟨k+1,Zb0 _,λj hj=>?_,λj h1 h2=>by omega⟩;by_cases e:j=k
     ·rw[e];exact ht
     ·exact k2 j ZB
    ·refine⟨k,by omega,k2,λj h1 h2=>?_⟩;obtain rfl:j=k:=by omega
     omega
 obtain⟨k,k1,k2,k3⟩:=this xs.length (Zb0 _);exact⟨k,k1,k2,k3⟩
theorem ZMF {xs:List Int}{t:Int}{k:Nat}(h:At xs t k)(hg:ZBT xs):t ∈ xs↔(k<xs.length/\xs.getD k 0=t):=by
 obtain⟨h1,h2,h3⟩:=h;constructor
 ·intro hm;obtain⟨j,hj,e⟩:=ZCa.1 hm;have hkj:k<=j:=by
   apply Nat.le_of_not_lt;intro hlt;have:=h2 j hlt;omega
  refine⟨by omega,?_⟩;by_cases e':k=j
  ·rw[e',e]
  ·have k1:=ZFP hg j k ZB hj;have k2:=h3 k (Zb0 _) ZB;omega
 ·rintro⟨h4,h5⟩;exact ZCa.2 ⟨k,h4,h5⟩
def ZBP (xs:List Int)(k:Nat)(t:Int):List Int:=xs.take k++t::xs.drop k
def ZDE (xs:List Int)(k:Nat):List Int:=xs.take k++xs.drop (k+1)
theorem ZJy {xs:List Int}{k:Nat}(t:Int)(h:k<=xs.length):(ZBP xs k t).length=xs.length+1:=by
 simp[ZBP];omega
theorem ZKB {xs:List Int}{k:Nat}(h:k<xs.length):(ZDE xs k).length=xs.length - 1:=by
 simp[ZDE];omega
theorem ZJi {xs:List Int}{k:Nat}{t z:Int}:z ∈ ZBP xs k t↔z=t\/z ∈ xs:=by
 conv=>rhs;rw[<-Zbg k xs]
 simp only[ZBP,ZbI,ZbJ];constructor
 ·rintro(h|h|h)
  ·exact .inr (.inl h)
  ·exact .inl h
  ·exact .inr (.inr h)
 ·rintro(h|h|h)
  ·exact .inr (.inl h)
  ·exact .inl h
  ·exact .inr (.inr h)
theorem ZTL {xs:List Int}{t:Int}{k:Nat}(h:At xs t k):∀z ∈ xs.take k,z<t:=by
 intro z hz;obtain⟨j,hj,e⟩:=List.getElem_of_mem hz;simp only[ZbG]at hj;have:=h.2.1 j ZB;have hj':j<xs.length:=by omega
 simp[hj']at this;simp at e;omega
theorem ZSE {xs:List Int}{t:Int}{k:Nat}(h:At xs t k):∀z ∈ xs.drop k,t<=z:=by
 intro z hz;obtain⟨j,hj,e⟩:=List.getElem_of_mem hz;simp only[ZbB]at hj;have:=h.2.2 (k+j) ZB ZB;have hj':k+j<xs.length:=by omega
 simp[hj']at this;simp at e;omega
theorem ZPu {xs:List Int}{t:Int}{k:Nat}(h:At xs t k)(hg:ZBT xs)(hn:t ∉ xs)(hs:Ser t):ZBT (ZBP xs k t):=by
 have hp:=ZMo hg;rw[<-Zbg k xs,ZbY]at hp;refine ZMp ?_ λz hz=>?_
 ·unfold ZBP;rw[ZbY,ZbZ];refine⟨hp.1,⟨λz hz=>?_,hp.2.1⟩,λa ha b hb=>?_⟩
  ·have h1:=ZSE h z hz;have:z≠t:=by rintro rfl;exact hn (ZbP hz)
   omega
  ·have h1:=ZTL h a ha;simp only[ZbJ]at hb;rcases hb with rfl|hb
   ·exact h1
   ·have:=ZSE h b hb;omega
 ·rcases ZJi.1 hz with rfl|hz
  ·exact hs
  ·exact ZJ2 hg z hz
theorem ZQF {xs:List Int}(k:Nat)(hg:ZBT xs):ZBT (ZDE xs k):=by
 have hp:=ZMo hg;have hsub:List.Sublist (ZDE xs k) xs:=by
  conv=>rhs;rw[<-Zbg k xs]
  unfold ZDE;refine List.Sublist.append (List.Sublist.refl _) ?_;rw[<-Zal];exact List.drop_sublist 1 _
 exact ZMp (hp.sublist hsub) λz hz=>ZJ2 hg z (hsub.subset hz)
theorem ZAU (w:World)(cs:List Value)(e:TypeId){k:Nat}(hk:w.heap.size=k):Rd (w.alloc (.cells cs.toArray e)) (some ⟨k,0,none⟩) cs:=by
 subst hk;exact ZES w cs e
theorem ZHY (w:World)(cs:List Value)(e:TypeId)(size n:Nat)(hn:cs.length=n*size)(hm:n<=maxLen){base k:Nat}(hk:w.heap.size=k)(hb:base<=k): (w.alloc (.cells cs.toArray e)).ownsRow base e size (.slice (some ⟨k,0,none⟩) n n) n cs:=by
 subst hk;exact XR w cs e size n hn hm hb
theorem Zd (w:World)(o:Obj){k:Nat}(hk:w.heap.size=k):(w.alloc o).heap[k]?=some o:=by
 subst hk;exact Zcd w o
theorem ZAR {P:Program}{t e:TypeId}(ht:P.underlying t=some (.slice e))(hz:∀u:World,(sizeOf e).run P u=.ok 1 u){A:Option Addr}{n c m d:Nat}(k h:Nat){ki hi:Int}(hki:ki=(k:Int))(hhi:hi=(h:Int))(hhn:h<=n)(hnc:n<=c)(hm:h=m+k)(hd:c=d+k): ∃A':Option Addr,(∀u:World,(Instr.slice t (.slice A n c) (some (.int .i64 ki)) (some (.int .i64 hi)) none).run P u=.ok (.slice A' m d) u)/\ (∀(w:World) (vs:List Value),vs.length=n->Rd w A vs->Rd w A' ((vs.drop k).take m)):=by
 subst hki hhi;have he:P.elem t=e:=by simp[Program.elem,ht]
 refine⟨if c=k then A else A.map (·.add k),λu=>?_,λw vs hl hr hne=>?_⟩
 ·rw[run_slice_lh (P:=P) u t A n c (by rw[he];exact ht) .i64 .i64 (k:Int) (h:Int) ZB ZB ZB,he,hz];simp only[Result.andThen,sliced,ZaY,ZcD]
  congr 2<;>omega
 ·have hvn:vs≠[]:=by rintro rfl;simp at hne
  obtain⟨b,off,rfl,hc⟩:=hr hvn;have hck:¬c=k:=by
   intro h;apply hne;rw[Zan ZB];simp
  rw[Zcf hck];refine⟨b,off+k,by simp[ZaO],λj u hu=>?_⟩;rw[Zbp];refine hc (k+j) u ?_;rw[Za6]at hu
  split at hu
  ·rw[<-hu,Zay]
  ·cases hu
theorem ZDo (N:Int)(w:World)(h:0<=N)(h':N<=4611686018427387903):Calls Tryz.prog 55 #[.int .i64 N] w λe w'=>e=.returned (.bool true)/\w=w':=by
 go_enter Tryz.func55,Tryz.ntmps55;go_wp2;go_ret;exact⟨rfl,rfl⟩
theorem ZKr (N:Int)(w:World)(h:0<=N)(h':N<=9223372036854775807):Calls Tryz.prog 199 #[.int .i64 N] w λe w'=>e=.returned (.int .i64 (min N 4611686018427387903))/\w=w':=by
 by_cases h1:N<=4611686018427387903
 ·rw[show min N 4611686018427387903=N by omega];go_enter Tryz.func199,Tryz.ntmps199;go_wp2;go_ret;exact⟨ZAT ZB,rfl⟩
 ·rw[show min N 4611686018427387903=4611686018427387903 by omega];go_enter Tryz.func199,Tryz.ntmps199;go_wp2;go_ret;exact⟨ZAT ZB,rfl⟩
theorem ZO0 (a b:Int)(w:World)(h:0<=a)(h':a<=4611686018427387903)(k:0<=b)(k':b<=4611686018427387903):Calls Tryz.prog 198 #[.int .i64 a,.int .i64 b] w λe w'=>e=.returned (.int .i64 0)/\w=w':=by
 go_enter Tryz.func198,Tryz.ntmps198;go_wp2;go_ret;exact⟨rfl,rfl⟩
def XE (T Tau tat now:Int):Int:=if Tau<max tat now - now then 0 else min ((Tau - (max tat now - now)) / T+1) ((4611686018427387903 - max tat now) / T)
theorem ZHR (T Tau:Int)(w:World)(h1:1<=T)(h2:T<=4611686018427387903)(h3:0<=Tau)(h4:Tau<=4611686018427387903): Calls Tryz.prog 68 #[.agg #[.int .i64 T,.int .i64 Tau]] w λe w'=>e=.returned (.int .i64 0)/\ZL w w':=by
 have hT:¬T<1:=by omega
 go_enter Tryz.func68,Tryz.ntmps68;go_wp2_with fail;refine(ZDo T _ ZB ZB).mono ?_;rintro e w1 ⟨rfl,rfl⟩;go_wp2_with fail;refine(ZDo Tau _ ZB ZB).mono ?_;rintro e w1 ⟨rfl,rfl⟩;go_wp2_with fail;go_ret;exact⟨rfl,(ZL.refl w).alloc _⟩
theorem ZN4 (T Tau tat now:Int)(w:World)(h3:0<=Tau)(ht:0<=tat)(ht':tat<=4611686018427387903)(hn:0<=now)(hn':now<=4611686018427387903)(h:Tau<max tat now - now): Calls Tryz.prog 97 #[.agg #[.int .i64 T,.int .i64 Tau],.int .i64 tat,.int .i64 now] w λe w'=>e=.returned (.int .i64 (XE T Tau tat now))/\ZL w w':=by
 have hg:XE T Tau tat now=0:=Zcg h;rw[hg];have hm:tat>=now:=by omega
 have hmm:max tat now=tat:=by omega
 rw[hmm]at h;have hd:tat - now > Tau:=h;go_enter Tryz.func97,Tryz.ntmps97;go_wp2_with fail
 all_goals try go_ret
 exact⟨rfl,(ZL.refl w).alloc _⟩
theorem ZKm (n:Int)(h: -9223372036854775808<=n)(h':n<=9223372036854775807):wrap64 n=n:=by unfold wrap64;omega
theorem ZLk (T Tau tat now:Int)(w:World)(h1:1<=T)(h2:T<=4611686018427387903)(h3:0<=Tau)(h4:Tau<=4611686018427387903)(ht:0<=tat)(ht':tat<=4611686018427387903)(hn:0<=now)(hn':now<=4611686018427387903)(h:¬Tau<max tat now - now): Calls Tryz.prog 97 #[.agg #[.int .i64 T,.int .i64 Tau],.int .i64 tat,.int .i64 now] w λe w'=>e=.returned (.int .i64 (XE T Tau tat now))/\ZL w w':=by
 have hg:XE T Tau tat now=min ((Tau - (max tat now - now)) / T+1) ((4611686018427387903 - max tat now) / T):=Zcf h;rw[hg];have hT:T≠0:=by omega
 by_cases hc:tat<now
 ·have hmm:max tat now=now:=by omega
  rw[hmm,show now - now=0 by omega,Int.sub_zero];have hq:0<=Tau / T:=ZaX ZB ZB;have hq':Tau / T<=Tau:=Int.ediv_le_self _ ZB;have H:=ZA (ZKm (Tau / T+1) ZB ZB);clear hq hq' hg h hmm;go_enter Tryz.func97,Tryz.ntmps97;go_wp2_with fail;go_region;go_wp2_with fail
  all_goals (go_ret;refine⟨ZAT ?_,((ZL.refl w).alloc _).drew⟩;have:=H.o;omega)
 ·have hmm:max tat now=tat:=by omega
  rw[hmm]at h ⊢;have hle:tat - now<=Tau:=by omega
  have hq:0<=(Tau - (tat - now)) / T:=ZaX ZB ZB;have hq':(Tau - (tat - now)) / T<=Tau - (tat - now):=Int.ediv_le_self _ ZB;have H:=ZA (ZKm ((Tau - (tat - now)) / T+1) ZB ZB);clear hq hq' hg h hmm;have hc':now<=tat:=by omega
  go_enter Tryz.func97,Tryz.ntmps97;go_wp2_with fail;go_region;go_wp2_with fail
  all_goals (go_ret;refine⟨ZAT ?_,((ZL.refl w).alloc _).drew⟩;have:=H.o;omega)
structure YR where
 kind:Nat
 T:Int
 Tau:Int
 perm:Int
structure ZO where
 pol:Nat
 key:List Nat
 tat:Int
 held:List Int
structure ZX where
 op:Nat
 pol:Nat
 key:List Nat
 n:Int
structure YH where
 er:Nat
 granted:Bool
 left:Int
 wait:Int
 ser:Int
 now:Int
def Yb (e:Nat):YH:=⟨e,false,0,0,0,0⟩
def ZO.id (c:ZO):List Nat:=c.pol::c.key
def ZX.id (c:ZX):List Nat:=c.pol::c.key
def ZTi:YR:=⟨0,0,0,0⟩
def Zk (P:List YR)(i:Nat):YR:=P.getD i ZTi
def atK:List ZO->List Nat->Nat
 |[],_=>0
 |c::l,k=>if ord c.id k<0 then atK l k+1 else 0
def ZAD (l:List ZO)(k:List Nat):Bool:=match l[atK l k]? with
 |some c=>decide (c.id=k)
 |none=>false
def YV (l:List ZO)(pol:Nat)(key:List Nat):ZO:=if ZAD l (pol::key)=true then (l[atK l (pol::key)]?).getD ⟨pol,key,0,[]⟩ else ⟨pol,key,0,[]⟩
def Xg (l:List ZO)(at_:Nat)(there:Bool)(c:ZO):List ZO:=if there=true then l.set at_ c else l.take at_++c::l.drop at_
def JD (k:List Nat):Nat:=upd 14695981039346656037 k
def Xr (l:List ZO)(level shard:Nat):List ZO:=l.filter λc=>decide (ZAi (JD c.id) level=shard)
def ZP (level shard:Nat):Nat:=2 ^ level+shard % 2 ^ level
def ZAb (P:List YR)(now:Int)(c:ZO):Bool:=if (Zk P c.pol).kind=2 then decide (c.held.length=0) else decide (c.tat<=now)
def atI:List Int->Int->Nat
 |[],_=>0
 |x::l,t=>if x<t then atI l t+1 else 0
def ZAE (p:YR)(c:ZO)(ser:Int):YH × ZO:=(⟨0,true,p.perm - ((c.held.length:Int)+1),0,ser,0⟩,{c with held:=ZBP c.held (atI c.held ser) ser})
def ZA0 (p:YR)(c:ZO)(ser:Int):YH × ZO:=if ser ∈ c.held then (⟨0,true,p.perm - ((c.held.length:Int) - 1),0,0,0⟩,{c with held:=ZDE c.held (atI c.held ser)}) else (Yb 11,c)
def ZCe (T Tau tat now n:Int):Int:=if Tau<(n - 1)*T\/(4611686018427387903 - max tat now) / T<n then 4611686018427387903 else tat - now - (Tau - (n - 1)*T)
def ZB1 (T Tau tat now n:Int):Bool × Int × Int × Int:=if n<=XE T Tau tat now then (true,(if 0<n then max tat now+n*T else tat),0,XE T Tau (if 0<n then max tat now+n*T else tat) now)
 else (false,tat,ZCe T Tau tat now n,XE T Tau tat now)
def Yo (p:YR)(c:ZO)(now n:Int):YH × ZO:=
 let d:=ZB1 p.T p.Tau c.tat now n
 (⟨0,d.1,d.2.2.2,d.2.2.1,0,now⟩,{c with tat:=d.2.1})
def ZF9 (p:YR)(c:ZO)(now:Int):YH:=⟨0,false,XE p.T p.Tau c.tat now,max (c.tat - now) 0,0,now⟩
def ZF8 (p:YR)(c:ZO):YH:=⟨0,false,p.perm - (c.held.length:Int),0,0,0⟩
inductive ZAN
 |begin
 |evict (j shards:Nat) (gone:Int)
structure Yi where
 word:Nat
 v:Nat
 cells:List ZO
 at_:Nat
 there:Bool
inductive JL
 |find (sum level:Nat) (t:ZAN)
 |move (level i:Nat)
inductive Xv
 |find (sum:Nat) (t:ZAN)
 |move1 (level i:Nat) (holds:List ZO)
 |move2 (level i:Nat)
inductive ZAe
 |leave (r:YH)
 |gone (j shards:Nat) (was:Int) (n:Nat)
 |count (f:Yi) (c:ZO) (r:YH)
 |serial (f:Yi) (c:ZO)
inductive YN
 |find (sum:Nat) (t:ZAN)
 |enter (sum word:Nat) (t:ZAN)
 |frz (word:Nat) (t:JL)
 |frzS (word v:Nat) (holds:List ZO) (t:JL)
 |half (level shard:Nat) (holds:List ZO) (t:Xv)
 |halfS (level shard:Nat) (holds:List ZO) (t:Xv)
 |split
 |splitS (d:Nat)
 |moveEnd (level:Nat)
 |mv (word by_ stop:Nat) (t:ZAe)
 |mvS (word by_ stop v:Nat) (t:ZAe)
 |put (f:Yi) (c:ZO) (r:YH)
 |peek (c:ZO)
 |allow (f:Yi) (c:ZO)
 |evFirst
 |evScan (j shards:Nat) (gone:Int) (word v:Nat) (cells:List ZO)
 |evSwap (j shards:Nat) (gone:Int) (word v:Nat) (rest:List ZO) (n:Nat)
inductive Zn
 |on (k:YN)
 |fin (r:YH)
structure KC where
 ws:List Nat
 hs:List (List ZO)
 clk:Nat
 res:Bool
 ser:Int
def JH:Nat:=18446744073709551615
def Za:Nat:=4611686018427387904
def KC.ld (s:KC)(w:Nat):Nat:=s.ws.getD w 0
def KC.hd (s:KC)(w:Nat):List ZO:=s.hs.getD w []
def KC.sw (s:KC)(w new:Nat)(h:List ZO):KC:={s with ws:=s.ws.set w new,hs:=s.hs.set w h}
def YT (res:Bool)(r:YH):Zn:=if res=true then .on (.mv 32 JH JH (.leave r)) else .fin r
def Jk (room:Nat)(res:Bool)(f:Yi)(c:ZO)(r:YH):YN:=if f.there=true\/res=true then .put f c r else .mv 32 1 room (.count f c r)
def JK (p:YR)(room:Nat)(res:Bool)(ser:Int)(f:Yi)(c:ZO):Zn:=if (c.held.length:Int)=p.perm then YT res (Yb 9)
 else if 0<ser then .on (Jk room res f (ZAE p c ser).2 (ZAE p c ser).1)
 else .on (.mv 33 1 4611686018427387903 (.serial f c))
def Zo (j shards:Nat)(gone:Int):Zn:=if j+1=shards then .fin ⟨0,false,gone,0,0,0⟩ else .on (.find (j+1) (.evict (j+1) shards gone))
def ZAr (P:List YR)(room:Nat)(x:ZX)(res:Bool)(ser:Int)(word v:Nat)(cells:List ZO):Zn:=
 let f:Yi:=⟨word,v,cells,atK cells x.id,ZAD cells x.id⟩
 let c:=YV cells x.pol x.key
 let p:=Zk P x.pol
 if x.op=1 then .on (.allow f c)
 else if x.op=2 then JK p room res ser f c
 else if x.op=3 then (if (ZA0 p c x.n).1.er≠0 then .fin (ZA0 p c x.n).1 else .on (Jk room res f (ZA0 p c x.n).2 (ZA0 p c x.n).1))
 else if p.kind=2 then .fin (ZF8 p c)
 else .on (.peek c)
def ZEm (P:List YR)(room:Nat)(x:ZX)(res:Bool)(ser:Int)(word v:Nat)(cells:List ZO):ZAN->Zn
 |.begin=>ZAr P room x res ser word v cells
 |.evict j shards gone=>if cells.length=0 then Zo j shards gone else .on (.evScan j shards gone word v cells)
def Yh (P:List YR)(room:Nat)(x:ZX)(res:Bool)(ser:Int)(sum word v:Nat)(cells:List ZO)(t:ZAN):Zn:=if v=0\/Za<=v then .on (.find sum t) else ZEm P room x res ser word v cells t
def Xy (h:List ZO):JL->YN
 |.find sum level t=>.half (level+1) sum h (.find sum t)
 |.move level i=>.half (level+1) i h (.move1 level i h)
def Xi (level i:Nat):YN:=if i=2 ^ level then .moveEnd level else .frz (ZP level i) (.move level i)
def Xd (P:List YR)(room:Nat)(x:ZX)(res:Bool)(ser:Int)(word v:Nat)(h:List ZO):Xv->Zn
 |.find sum t=>if v=0 then .on (.enter sum word t) else Yh P room x res ser sum word v h t
 |.move1 level i holds=>.on (.half (level+1) (i+2 ^ level) holds (.move2 level i))
 |.move2 level i=>.on (Xi level (i+1))
def Yk (P:List YR)(room:Nat)(x:ZX)(s:KC):YN->KC × Zn
 |.find sum t=>(s,if s.ld 0 % 2=0 then .on (.enter sum (ZP (s.ld 0 / 2) sum) t) else .on (.frz (ZP (s.ld 0 / 2) sum) (.find sum (s.ld 0 / 2) t)))
 |.enter sum word t=>(s,Yh P room x s.res s.ser sum word (s.ld word) (s.hd word) t)
 |.frz word t=>(s,if Za<=s.ld word then .on (Xy (s.hd word) t) else .on (.frzS word (s.ld word) (s.hd word) t))
 |.frzS word v holds t=>if s.ld word=v then (s.sw word (v+Za) holds,.on (Xy holds t)) else (s,.on (.frz word t))
 |.half level shard holds t=>(s,if s.ld (ZP level shard)≠0 then Xd P room x s.res s.ser (ZP level shard) (s.ld (ZP level shard)) (s.hd (ZP level shard)) t else .on (.halfS level shard holds t))
 |.halfS level shard holds t=>(if s.ld (ZP level shard)=0 then s.sw (ZP level shard) 1 (Xr holds level (ZP level shard - 2 ^ level)) else s,Xd P room x s.res s.ser (ZP level shard) 0 [] t)
 |.split=>(s,if s.ld 0 % 2=1 then .on (Xi (s.ld 0 / 2) 0) else if s.ld 0 / 2=4 then .fin (Yb 5) else .on (.splitS (s.ld 0)))
 |.splitS d=>if s.ld 0=d then (s.sw 0 (d+1) [],.on (Xi (d / 2) 0)) else (s,.on .split)
 |.moveEnd level=>(if s.ld 0=2*level+1 then s.sw 0 (2*level+2) [] else s,.fin (Yb 0))
 |.mv word by_ stop t=>(s,if s.ld word=stop then (match t with
   |.leave r=>.fin r
   |.gone _ _ _ _=>.fin (Yb 0)
   |.count _ _ _=>.fin (Yb 10)
   |.serial _ _=>YT s.res (Yb 5)) else .on (.mvS word by_ stop (s.ld word) t))
 |.mvS word by_ stop v t=>if s.ld word=v then (match t with
   |.leave r=>(s.sw word ((v+by_) % 18446744073709551616) [],.fin r)
   |.gone j shards was n=>(s.sw word ((v+by_) % 18446744073709551616) [],Zo j shards (was+n))
   |.count f c r=>({s.sw word ((v+by_) % 18446744073709551616) []with res:=true},.on (.put f c r))
   |.serial f c=>({s.sw word ((v+by_) % 18446744073709551616) []with ser:=(((v+by_) % 18446744073709551616:Nat):Int)},
     .on (Jk room s.res f (ZAE (Zk P x.pol) c ((v+by_) % 18446744073709551616:Nat)).2 (ZAE (Zk P x.pol) c ((v+by_) % 18446744073709551616:Nat)).1)))
   else (s,.on (.mv word by_ stop t))
 |.put f c r=>if s.ld f.word=f.v then (s.sw f.word (f.v+1) (Xg f.cells f.at_ f.there c),if f.there=false then .fin r else YT s.res r) else (s,.on (.find (JD x.id) .begin))
 |.peek c=>(s,.fin (ZF9 (Zk P x.pol) c s.clk))
 |.allow f c=>(s,if (Yo (Zk P x.pol) c s.clk x.n).1.granted=false\/x.n=0 then YT s.res (Yo (Zk P x.pol) c s.clk x.n).1 else .on (Jk room s.res f (Yo (Zk P x.pol) c s.clk x.n).2 (Yo (Zk P x.pol) c s.clk x.n).1))
 |.evFirst=>(s,.on (.find 0 (.evict 0 (2 ^ ((s.ld 0+1) / 2)) 0)))
 |.evScan j shards gone word v cells=>
  let rest:=cells.filter λc=>!ZAb P s.clk c
  (s,if cells.length - rest.length=0 then Zo j shards gone else .on (.evSwap j shards gone word v rest (cells.length - rest.length)))
 |.evSwap j shards gone word v rest n=>if s.ld word=v then (s.sw word (v+1) rest,.on (.mv 32 (18446744073709551616 - n) JH (.gone j shards gone n))) else (s,Zo j shards gone)
def Xz (x:ZX):YN:=if x.op=6 then .split else if x.op=5 then .evFirst else .find (JD x.id) .begin
inductive ZBS
 |idle
 |run (x:ZX) (res:Bool) (ser:Int) (k:YN)
structure YF where
 ws:List Nat
 hs:List (List ZO)
 clk:Nat
 call:Nat->ZBS
def YF.kc (s:YF)(res:Bool)(ser:Int):KC:=⟨s.ws,s.hs,s.clk,res,ser⟩
def YF.put (s:YF)(who:Nat)(c:ZBS):YF:={s with call:=λi=>if i=who then c else s.call i}
theorem YD (s:YF)(who:Nat)(c:ZBS):(s.put who c).call who=c:=Zcg rfl
theorem YC (s:YF){who i:Nat}(c:ZBS)(h:i≠who):(s.put who c).call i=s.call i:=Zcf h
def YF.of (s:YF)(c:KC):YF:={s with ws:=c.ws,hs:=c.hs,clk:=c.clk}
def YA (P:List YR)(room:Nat)(s:YF)(who:Nat):YF × Option YH:=match s.call who with
 |.idle=>(s,none)
 |.run x res ser k=>match Yk P room x (s.kc res ser) k with
  |(c,.on k')=>((s.of c).put who (.run x c.res c.ser k'),none)
  |(c,.fin r)=>((s.of c).put who .idle,some r)
def JY:YF:=⟨(List.replicate 34 0).set 1 1,List.replicate 34 [],0,λ_=>.idle⟩
theorem ZEY {a b c:List Nat}(h1:ord a b<0)(h2:ord b c<=0):ord a c<0:=by have:=(ZNR a b c).2.1 h1 h2;omega
def Jn (l:List ZO):Prop:=l.Pairwise λa b=>ord a.id b.id<0
theorem ZIu:∀(l:List ZO) (k:List Nat),atK l k<=l.length
 |[],_=>Zb0 _
 |e::l,k=>by
  unfold atK
  split
  ·have:=ZIu l k;simp only[ZbA];omega
  ·exact ZcL _
theorem ZDh:∀(l:List ZO) (k:List Nat) (i:Nat) (e:ZO),i<atK l k->l[i]?=some e->ord e.id k<0
 |[],_,_,_,h,_=>by unfold atK at h;omega
 |x::l,k,i,e,h,he=>by
  unfold atK at h
  split at h
  ·next hx=>
   cases i with
   |zero=>simp at he;subst he;exact hx
   |succ i=>exact ZDh l k i e ZB (by simpa using he)
  ·omega
theorem ZDg:∀(l:List ZO) (k:List Nat) (i:Nat) (e:ZO),Jn l->atK l k<=i->l[i]?=some e->¬ord e.id k<0
 |[],_,_,_,_,_,he=>by simp at he
 |x::l,k,i,e,hs,h,he=>by
  unfold atK at h;have hs':=ZbZ.1 hs
  split at h
  ·cases i with
   |zero=>omega
   |succ i=>exact ZDg l k i e hs'.2 ZB (by simpa using he)
  ·next hx=>
   cases i with
   |zero=>simp at he;subst he;exact hx
   |succ i=>
    have hm:e ∈ l:=ZbO (by simpa using he);exact λhlt=>hx (ZEY (hs'.1 e hm) ZB)
theorem ZQe {l:List ZO}{k:List Nat}{i:Nat}(hs:Jn l)(hi:i<=l.length)(h1:∀j e,j<i->l[j]?=some e->ord e.id k<0)(h2:∀j e,i<=j->l[j]?=some e->¬ord e.id k<0):i=atK l k:=by
 have hle:=ZIu l k;rcases Nat.lt_trichotomy i (atK l k)with h|h|h
 ·have hil:i<l.length:=by omega
  exact absurd (ZDh l k i _ h (Zaz hil)) (h2 i _ (Zb0 i) (Zaz hil))
 ·exact h
 ·have hil:atK l k<l.length:=by omega
  exact absurd (h1 _ _ h (Zaz hil)) (ZDg l k _ _ hs (Zb0 _) (Zaz hil))
theorem ZId {l:List ZO}{k:List Nat}(h:ZAD l k=true):atK l k<l.length:=by
 unfold ZAD at h;cases he:l[atK l k]? with
 |none=>rw[he]at h;cases h
 |some e=>exact(Za0.1 he).1
theorem ZD4 {l:List ZO}{k:List Nat}(h:ZAD l k=true):∃c,l[atK l k]?=some c/\c.id=k:=by
 unfold ZAD at h;cases he:l[atK l k]? with
 |none=>rw[he]at h;cases h
 |some e=>
  rw[he]at h;exact⟨e,rfl,Zcj h⟩
theorem ZPz {l:List ZO}{k:List Nat}{e:ZO}(he:l[atK l k]?=some e):ZAD l k=decide (ord e.id k=0):=by
 unfold ZAD;rw[he];show decide (e.id=k)=_;by_cases h:e.id=k
 ·rw[Zcb h,Zcb ((ZIV _ _).2 h)]
 ·rw[Zca h,Zca (λh2=>h ((ZIV _ _).1 h2))]
theorem ZNt {l:List ZO}{k:List Nat}(h:¬atK l k<l.length):ZAD l k=false:=by
 unfold ZAD;rw[List.getElem?_eq_none ZB]
theorem ZP0 {l:List ZO}{k:List Nat}(hs:Jn l):ZAD l k=true↔∃e ∈ l,e.id=k:=by
 constructor
 ·intro h;obtain⟨c,hc,e⟩:=ZD4 h;exact⟨c,ZbO hc,e⟩
 ·rintro⟨e,hm,rfl⟩;obtain⟨i,hi⟩:=Za2 hm;have hil:=(Za0.1 hi).1
  have hii:i=atK l e.id:=ZQe hs ZB (λj x hj hx=>by
   obtain⟨a,b⟩:=Za0.1 hx;obtain⟨c,d⟩:=Za0.1 hi;rw[<-b,<-d];exact Zba.1 hs j i a c hj) (λj x hj hx=>by
   rcases Zb6 i j with h|h
   ·obtain⟨a,b⟩:=Za0.1 hx;obtain⟨c,d⟩:=Za0.1 hi;have:=Zba.1 hs i j c a h;rw[d,b]at this;have h9:=ZJd e.id x.id;omega
   ·have:j=i:=by omega
    subst this;rw[hi]at hx;injection hx with hx;subst hx;rw[ZPV];omega)
  unfold ZAD;rw[<-hii,hi];exact Zcb rfl
theorem ZDA {l:List ZO}{pol:Nat}{key:List Nat}(h:ZAD l (pol::key)=true):∃c,l[atK l (pol::key)]?=some c/\c.pol=pol/\c.key=key/\YV l pol key=c:=by
 obtain⟨c,hc,e⟩:=ZD4 h;unfold ZO.id at e;injection e with e1 e2;refine⟨c,hc,e1,e2,?_⟩;unfold YV;rw[Zcg h,hc];rfl
theorem ZB5 {l:List ZO}{pol:Nat}{key:List Nat}(h:ZAD l (pol::key)=false):YV l pol key=⟨pol,key,0,[]⟩:=by
 unfold YV;rw[Zcf (by rw[h];exact ZaV)]
theorem ZB6 (l:List ZO)(pol:Nat)(key:List Nat):(YV l pol key).pol=pol/\(YV l pol key).key=key:=by
 cases h:ZAD l (pol::key)with
 |true=>
  obtain⟨c,_,e1,e2,e3⟩:=ZDA h;rw[e3];exact⟨e1,e2⟩
 |false=>rw[ZB5 h];exact⟨rfl,rfl⟩
theorem ZJG {l:List ZO}{k:List Nat}{e:ZO}(he:e ∈ l.take (atK l k)):ord e.id k<0:=by
 obtain⟨i,hi⟩:=Za2 he;rw[Za6]at hi
 split at hi
 ·next h=>exact ZDh l k i e h hi
 ·cases hi
theorem ZJ8 {l:List ZO}{k:List Nat}{e:ZO}(hs:Jn l)(hn:ZAD l k=false)(he:e ∈ l.drop (atK l k)):ord k e.id<0:=by
 obtain⟨i,hi⟩:=Za2 he;rw[Zay]at hi;have h1:=ZDg l k _ e hs ZB hi;have h2:=ZJd e.id k;have h3:ord e.id k≠0:=λh0=>by
  have:=(ZP0 hs).2 ⟨e,ZbO hi,(ZIV _ _).1 h0⟩;rw[hn]at this;cases this
 omega
theorem ZI5 {l:List ZO}{c:ZO}(hs:Jn l):Jn (Xg l (atK l c.id) (ZAD l c.id) c):=by
 unfold Xg;by_cases h:ZAD l c.id=true
 ·rw[Zcg h];obtain⟨d,hd,e⟩:=ZD4 h;have hlt:=ZId h;have hm:(l.set (atK l c.id) c).map ZO.id=l.map ZO.id:=by
   rw[List.map_set];apply List.ext_getElem?;intro j;rw[List.getElem?_set]
   split
   ·next hj=>
    subst hj;rw[Za1,hd,Zcg (by rw[List.length_map];exact hlt)];exact ZcZ some e.symm
   ·rfl
  have:=List.pairwise_map (f:=ZO.id) (R:=λa b=>ord a b<0) (l:=l);have h2:=List.pairwise_map (f:=ZO.id) (R:=λa b=>ord a b<0) (l:=l.set (atK l c.id) c);exact h2.1 (by rw[hm];exact this.2 hs)
 ·rw[Zcf h];have hn:ZAD l c.id=false:=by simpa using h
  refine ZbY.2 ⟨hs.sublist (List.take_sublist _ _),ZbZ.2 ⟨λe he=>ZJ8 hs hn he,hs.sublist (List.drop_sublist _ _)⟩,λa ha b hb=>?_⟩;rcases ZbJ.1 hb with hb|hb
  ·rw[hb];exact ZJG ha
  ·have h1:=ZJG ha;have h2:=ZJ8 hs hn hb;exact ZEY h1 ZB
theorem ZFf {l:List ZO}{i:Nat}{b:Bool}{c d:ZO}(h:d ∈ Xg l i b c):d=c\/d ∈ l:=by
 unfold Xg at h
 split at h
 ·exact(ZbS h).symm
 ·rcases ZbI.1 h with h|h
  ·exact .inr (ZbR h)
  ·rcases ZbJ.1 h with h|h
   ·exact .inl h
   ·exact .inr (ZbP h)
theorem ZG6 {l:List ZO}(hs:Jn l)(p:ZO->Bool):Jn (l.filter p):=hs.sublist List.filter_sublist
def Yd (p:YR):Prop:=(p.kind=1/\1<=p.T/\p.T<=4611686018427387903/\0<=p.Tau/\p.Tau<=4611686018427387903)\/(p.kind=2/\1<=p.perm/\p.perm<=64)
def ZA4 (P:List YR)(c:ZO):Prop:=c.pol<P.length/\c.key.length<=255/\(∀x ∈ c.key,x<256)/\0<=c.tat/\c.tat<=4611686018427387903/\ZBT c.held/\c.held.length<=64/\((Zk P c.pol).kind=2->(c.held.length:Int)<=(Zk P c.pol).perm)
def Ye (P:List YR)(l:List ZO):Prop:=Jn l/\(∀c ∈ l,ZA4 P c)/\l.length<=5000
theorem ZKO {P:List YR}{l:List ZO}{pol:Nat}{key:List Nat}(h:∀c ∈ l,ZA4 P c)(hp:pol<P.length)(hk:key.length<=255)(hb:∀x ∈ key,x<256)(hP:∀p ∈ P,Yd p):ZA4 P (YV l pol key):=by
 cases hh:ZAD l (pol::key)with
 |true=>
  obtain⟨c,hc,e1,e2,e3⟩:=ZDA hh;rw[e3];exact h c (ZbO hc)
 |false=>
  rw[ZB5 hh];refine⟨hp,hk,hb,Int.le_refl _,(show(0:Int)<=4611686018427387903 by decide),(λj hj=>absurd hj (ZcF _)),ZcL _,λhk2=>?_⟩;have hm:Zk P pol ∈ P:=by
   unfold Zk;rw[Zau,Zaz hp];exact List.getElem_mem hp
  rcases hP _ hm with h9|h9
  ·have h8:(Zk P pol).kind=2:=hk2;omega
  ·show((0:Nat):Int)<=_;have h7:1<=(Zk P pol).perm:=h9.2.1;show((0:Nat):Int)<=(Zk P pol).perm;omega
theorem ZMG:∀(l:List Int) (t:Int),atI l t<=l.length
 |[],_=>Zb0 _
 |x::l,t=>by
  unfold atI
  split
  ·have:=ZMG l t;simp only[ZbA];omega
  ·exact ZcL _
theorem ZGl:∀(l:List Int) (t:Int) (i:Nat),i<atI l t->l.getD i 0<t
 |[],_,_,h=>by unfold atI at h;omega
 |x::l,t,i,h=>by
  unfold atI at h
  split at h
  ·next hx=>
   cases i with
   |zero=>simpa using hx
   |succ i=>simpa using ZGl l t i ZB
  ·omega
theorem ZIv {l:List Int}(hg:ZBT l)(t:Int):At l t (atI l t):=by
 have stop:∀(l:List Int) (t:Int),atI l t<l.length->t<=l.getD (atI l t) 0:=by
  intro l t
  induction l with
  |nil=>intro h;exact absurd h (ZcF _)
  |cons x l ih=>
   unfold atI
   split
   ·next hx=>
    intro h;simp only[ZbA]at h;simpa using ih ZB
   ·next hx=>
    intro _;simp;omega
 refine⟨ZMG l t,λj hj=>ZGl l t j hj,λj hj hl=>?_⟩;rcases Zb6 (atI l t) j with h|h
 ·have h1:=stop l t ZB;have h2:=ZFP hg j (atI l t) h hl;omega
 ·have e:j=atI l t:=by omega
  subst e;exact stop l t hl
def Y3 (P:List YR)(x:ZX):Prop:=1<=x.op/\x.op<=6/\(x.op<=4->x.pol<P.length/\x.key.length<=255/\∀b ∈ x.key,b<256)/\(x.op=1->(Zk P x.pol).kind=1/\0<=x.n/\x.n<=4611686018427387903)/\(x.op=2\/x.op=3->(Zk P x.pol).kind=2)
def ZA3 (x:ZX):ZAN->Prop
 |.begin=>x.op<=4
 |.evict j shards gone=>x.op=5/\j<shards/\shards<=16/\0<=gone/\gone<=5000*j
def RIn (r:YH):Prop:=r.er<=16/\(0<=r.left/\r.left<=4611686018427387903)/\(0<=r.wait/\r.wait<=4611686018427387903)/\(0<=r.ser/\r.ser<=4611686018427387903)/\(0<=r.now/\r.now<=4611686018427387903)
theorem ZA8 {e:Nat}(h:e<=16):RIn (Yb e):=by
 have z:(0:Int)<=0/\(0:Int)<=4611686018427387903:=by decide
 exact⟨h,z,z,z,z⟩
structure WH where
 ws:List Nat
 hs:List (List ZO)
def YF.wh (s:YF):WH:=⟨s.ws,s.hs⟩
def KC.wh (s:KC):WH:=⟨s.ws,s.hs⟩
def ZH3 (x:ZX)(sum:Nat):ZAN->Prop
 |.begin=>sum=JD x.id
 |.evict j _ _=>sum=j
def ZCH (N:Nat)(s:WH)(word v:Nat)(l:List ZO):Prop:=1<=word/\word<32/\v<=N/\v<=s.ws.getD word 0/\(s.ws.getD word 0=v->s.hs.getD word []=l)
def ZCJ (s:WH)(l:List ZO):Prop:=∃i,1<=i/\i<32/\Za<=s.ws.getD i 0/\s.hs.getD i []=l
structure J9 (P:List YR)(N:Nat)(s:WH)(x:ZX)(f:Yi):Prop where
 same:ZCH N s f.word f.v f.cells
 ok:Ye P f.cells
 at_:f.at_=atK f.cells x.id
 there:f.there=ZAD f.cells x.id
 ser:∀c ∈ f.cells,∀z ∈ c.held,z<=(s.ws.getD 33 0:Int)
structure ZDk (P:List YR)(s:WH)(x:ZX)(ser:Int)(f:Yi)(c:ZO):Prop where
 ok:ZA4 P c
 id:c.id=x.id
 held:∀z ∈ c.held,z ∈ (YV f.cells x.pol x.key).held\/(z=ser/\ser≠0)
def FOk (P:List YR)(s:WH)(x:ZX):JL->Prop
 |.find sum level t=>ZA3 x t/\ZH3 x sum t/\sum<18446744073709551616/\level<=3
 |.move level i=>level<=3/\i<2 ^ level
def HOk (P:List YR)(s:WH)(x:ZX):Xv->Prop
 |.find sum t=>ZA3 x t/\ZH3 x sum t/\sum<18446744073709551616
 |.move1 level i holds=>level<=3/\i<2 ^ level/\Ye P holds/\ZCJ s holds
 |.move2 level i=>level<=3/\i<2 ^ level
def MOk (P:List YR)(room N:Nat)(s:WH)(x:ZX)(res:Bool)(ser:Int)(word by_ stop:Nat):ZAe->Prop
 |.leave r=>word=32/\by_=JH/\stop=JH/\RIn r
 |.gone j shards was n=>word=32/\stop=JH/\x.op=5/\j<shards/\shards<=16/\0<=was/\was<=5000*j/\n<=5000/\by_=18446744073709551616 - n
 |.count f c r=>word=32/\by_=1/\stop=room/\x.op<=3/\J9 P N s x f/\ZDk P s x ser f c/\RIn r
 |.serial f c=>word=33/\by_=1/\stop=4611686018427387903/\x.op=2/\ser=0/\J9 P N s x f/\c=YV f.cells x.pol x.key/\(c.held.length:Int)<(Zk P x.pol).perm
def ZBR (P:List YR)(room N:Nat)(s:WH)(x:ZX)(res:Bool)(ser:Int):YN->Prop
 |.find sum t=>ZA3 x t/\ZH3 x sum t/\sum<18446744073709551616
 |.enter sum word t=>ZA3 x t/\ZH3 x sum t/\sum<18446744073709551616/\1<=word/\word<32
 |.frz word t=>FOk P s x t/\1<=word/\word<32
 |.frzS word v holds t=>FOk P s x t/\ZCH N s word v holds/\Ye P holds
 |.half level _ holds t=>1<=level/\level<=4/\HOk P s x t/\Ye P holds/\ZCJ s holds
 |.halfS level _ holds t=>1<=level/\level<=4/\HOk P s x t/\Ye P holds/\ZCJ s holds
 |.split=>True
 |.splitS d=>d % 2=0/\d<=6
 |.moveEnd level=>level<=3
 |.mv word by_ stop t=>MOk P room N s x res ser word by_ stop t
 |.mvS word by_ stop _ t=>MOk P room N s x res ser word by_ stop t
 |.put f c r=>x.op<=3/\J9 P N s x f/\ZDk P s x ser f c/\RIn r
 |.peek c=>x.op=4/\(Zk P x.pol).kind=1/\ZA4 P c
 |.allow f c=>x.op=1/\J9 P N s x f/\c=YV f.cells x.pol x.key
 |.evFirst=>x.op=5
 |.evScan j shards gone word v cells=>x.op=5/\j<shards/\shards<=16/\0<=gone/\gone<=5000*j/\ZCH N s word v cells/\Ye P cells
 |.evSwap j shards gone word v rest n=>x.op=5/\j<shards/\shards<=16/\0<=gone/\gone<=5000*j/\1<=n/\n<=5000/\∃cells,ZCH N s word v cells/\Ye P cells/\rest.Sublist cells/\rest.length+n<=cells.length
def YN.fresh:YN->Prop
 |.mv _ _ _ (.leave _)=>False
 |.mvS _ _ _ _ (.leave _)=>False
 |_=>True
structure ZTO (P:List YR)(room N:Nat)(s:WH)(x:ZX)(res:Bool)(ser:Int)(k:YN):Prop where
 call:Y3 P x
 ser0:ser≠0->x.op=2/\1<=ser/\ser<=(s.ws.getD 33 0:Int)
 fresh:k.fresh->ser≠0->∀i,∀c ∈ s.hs.getD i [],ser ∉ c.held
 kont:ZBR P room N s x res ser k
structure WOk (P:List YR)(N M:Nat)(s:WH):Prop where
 lw:s.ws.length=34
 lh:s.hs.length=34
 d:s.ws.getD 0 0<=8
 word:∀i,1<=i->i<32->s.ws.getD i 0<=N\/(Za<=s.ws.getD i 0/\s.ws.getD i 0<=Za+N)
 n33:s.ws.getD 33 0<=N
 cells:∀i,Ye P (s.hs.getD i [])/\(s.hs.getD i []).length<=M
 held:∀i,∀c ∈ s.hs.getD i [],∀z ∈ c.held,z<=(s.ws.getD 33 0:Int)
structure ZCP (P:List YR)(room N M:Nat)(s:YF):Prop where
 w:WOk P N M s.wh
 clk:(s.clk:Int)<=4611686018427387903
 run:∀who x res ser k,s.call who=.run x res ser k->ZTO P room N s.wh x res ser k
 dist:∀a b x res ser k x' res' ser' k',s.call a=.run x res ser k->s.call b=.run x' res' ser' k'->ser≠0->ser=ser'->a=b
structure ZAf (s s':WH):Prop where
 sh:∀i,1<=i->i<32->(s'.ws.getD i 0=s.ws.getD i 0/\s'.hs.getD i []=s.hs.getD i [])\/(s.ws.getD i 0<s'.ws.getD i 0/\s.ws.getD i 0<Za)
 n33:s.ws.getD 33 0<=s'.ws.getD 33 0
theorem ZCH.grow {N:Nat}{s s':WH}{word v:Nat}{l:List ZO}(h:ZCH N s word v l)(g:ZAf s s'):ZCH (N+1) s' word v l:=by
 obtain⟨h1,h2,h3,h4,h5⟩:=h;rcases g.sh word h1 h2 with⟨a,b⟩|⟨a,b⟩
 ·exact⟨h1,h2,by omega,by omega,λe=>by rw[b];exact h5 ZB⟩
 ·exact⟨h1,h2,by omega,by omega,λe=>by omega⟩
theorem ZCJ.grow {s s':WH}{l:List ZO}(h:ZCJ s l)(g:ZAf s s'):ZCJ s' l:=by
 obtain⟨i,h1,h2,h3,h4⟩:=h;rcases g.sh i h1 h2 with⟨a,b⟩|⟨a,b⟩
 ·exact⟨i,h1,h2,by omega,by rw[b];exact h4⟩
 ·omega
theorem J9.grow {P:List YR}{N:Nat}{s s':WH}{x:ZX}{f:Yi}(h:J9 P N s x f)(g:ZAf s s'):J9 P (N+1) s' x f:=⟨h.same.grow g,h.ok,h.at_,h.there,λc hc z hz=>by have:=h.ser c hc z hz;have:=g.n33;omega⟩
theorem ZDk.grow {P:List YR}{s:WH}(s':WH){x:ZX}{ser:Int}{f:Yi}{c:ZO}(h:ZDk P s x ser f c):ZDk P s' x ser f c:=⟨h.ok,h.id,h.held⟩
theorem FOk.grow {P:List YR}{s:WH}(s':WH){x:ZX}{t:JL}(h:FOk P s x t):FOk P s' x t:=by cases t<;>exact h
theorem HOk.grow {P:List YR}{s s':WH}{x:ZX}{t:Xv}(h:HOk P s x t)(g:ZAf s s'):HOk P s' x t:=by
 cases t with
 |find sum t=>exact h
 |move1 level i holds=>exact⟨h.1,h.2.1,h.2.2.1,h.2.2.2.grow g⟩
 |move2 level i=>exact h
theorem MOk.grow {P:List YR}{room N:Nat}{s s':WH}{x:ZX}{res:Bool}{ser:Int}{word by_ stop:Nat}{t:ZAe}(h:MOk P room N s x res ser word by_ stop t)(g:ZAf s s'):MOk P room (N+1) s' x res ser word by_ stop t:=by
 cases t with
 |leave r=>exact h
 |gone j shards was n=>exact h
 |count f c r=>obtain⟨a,b,c,d,e,f,i⟩:=h;exact⟨a,b,c,d,e.grow g,f.grow s',i⟩
 |serial f c=>obtain⟨a,b,c,d,e,f,i,j⟩:=h;exact⟨a,b,c,d,e,f.grow g,i,j⟩
theorem ZBR.grow {P:List YR}{room N:Nat}{s s':WH}{x:ZX}{res:Bool}{ser:Int}{k:YN}(h:ZBR P room N s x res ser k)(g:ZAf s s'):ZBR P room (N+1) s' x res ser k:=by
 cases k with
 |find sum t=>exact h
 |enter sum word t=>exact h
 |frz word t=>exact⟨h.1.grow s',h.2⟩
 |frzS word v holds t=>exact⟨h.1.grow s',h.2.1.grow g,h.2.2⟩
 |half level shard holds t=>obtain⟨a,b,c,d,e⟩:=h;exact⟨a,b,c.grow g,d,e.grow g⟩
 |halfS level shard holds t=>obtain⟨a,b,c,d,e⟩:=h;exact⟨a,b,c.grow g,d,e.grow g⟩
 |split=>exact h
 |splitS d=>exact h
 |moveEnd level=>exact h
 |mv word by_ stop t=>exact MOk.grow (t:=t) (res:=res) h g
 |mvS word by_ stop v t=>exact MOk.grow (t:=t) (res:=res) h g
 |put f c r=>obtain⟨a,b,c,d⟩:=h;exact⟨a,b.grow g,c.grow s',d⟩
 |peek c=>exact h
 |allow f c=>obtain⟨a,b,c⟩:=h;exact⟨a,b.grow g,c⟩
 |evFirst=>exact h
 |evScan j shards gone word v cells=>obtain⟨a,b,c,d,e,f,i⟩:=h;exact⟨a,b,c,d,e,f.grow g,i⟩
 |evSwap j shards gone word v rest n=>obtain⟨a,b,c,d,e,f,i,cl,j1,j2,j3⟩:=h;exact⟨a,b,c,d,e,f,i,cl,j1.grow g,j2,j3⟩
def Zn.fresh:Zn->Prop
 |.on k=>k.fresh
 |.fin _=>False
def ZCN (P:List YR)(room N:Nat)(s:WH)(x:ZX)(res:Bool)(ser:Int):Zn->Prop
 |.on k=>ZBR P room N s x res ser k
 |.fin r=>RIn r
def Old (s:WH)(z:Int):Prop:=∃i,∃c ∈ s.hs.getD i [],z ∈ c.held
structure ZML (P:List YR)(room N M:Nat)(w:WH)(clk:Nat)(x:ZX)(ser:Int)(k:YN)(c:KC)(out:Zn):Prop where
 g:ZAf w c.wh
 wok:WOk P (N+1) M c.wh
 ck:c.clk=clk
 sn:c.ser=ser\/(ser=0/\x.op=2/\c.ser=(c.ws.getD 33 0:Int)/\w.ws.getD 33 0<c.ws.getD 33 0)
 orig:(∀i,∀c' ∈ c.hs.getD i [],∀z ∈ c'.held,Old w z)\/((∀i,∀c' ∈ c.hs.getD i [],∀z ∈ c'.held,Old w z\/(z=ser/\ser≠0))/\c.ser=ser/\¬out.fresh)
 fr:out.fresh->k.fresh
 ok:ZCN P room (N+1) c.wh x c.res c.ser out
def ZPU (x:ZX)(c:KC):Zn->ZBS
 |.on k=>.run x c.res c.ser k
 |.fin _=>.idle
theorem ZNg {P:List YR}{room N M M' who:Nat}{s:YF}{x:ZX}{res:Bool}{ser:Int}{k:YN}{c:KC}{out:Zn}(h:ZCP P room N M s)(hc:s.call who=.run x res ser k)(hs:ZML P room N M' s.wh s.clk x ser k c out):ZCP P room (N+1) M' ((s.of c).put who (ZPU x c out)):=by
 have hr:=h.run who x res ser k hc;have hle:∀b x' res' ser' k',s.call b=.run x' res' ser' k'->ser'≠0->ser'<=(s.ws.getD 33 0:Int):=λb x' r' s' k' e n=>((h.run b x' r' s' k' e).ser0 n).2.2;have h33:s.ws.getD 33 0<=c.ws.getD 33 0:=hs.g.n33;have hnew:∀b x' res' ser' k',b≠who->s.call b=.run x' res' ser' k'->ser'≠0->c.ser≠0->c.ser≠ser':=by
  intro b x' r' s' k' hb e n n2 e2;rcases hs.sn with q|⟨q1,q2,q3,q4⟩
  ·exact hb (h.dist b who x' r' s' k' x res ser k e hc n (by rw[<-e2,q]))
  ·have:=hle b x' r' s' k' e n;have q4:s.ws.getD 33 0<c.ws.getD 33 0:=q4;omega
 refine⟨hs.wok,by have:=h.clk;have h2:c.clk=s.clk:=hs.ck;show(c.clk:Int)<=_;omega,λb x' res' ser' k' hb=>?_,λa b x1 r1 s1 k1 x2 r2 s2 k2 ha hb n e=>?_⟩
 ·by_cases e:b=who
  ·subst e;rw[YD]at hb;cases out with
   |fin r=>cases hb
   |on k2=>
    cases hb;refine⟨hr.call,λn=>?_,λf n i d hd hz=>?_,hs.ok⟩
    ·rcases hs.sn with q|⟨q1,q2,q3,q4⟩
     ·have:=hr.ser0 (by rw[<-q];exact n);exact⟨this.1,by rw[q];exact this.2.1,by rw[q];have h2:=this.2.2;show ser<=(c.ws.getD 33 0:Int);have h2:ser<=(s.ws.getD 33 0:Int):=h2;omega⟩
     ·have q4:s.ws.getD 33 0<c.ws.getD 33 0:=q4;exact⟨q2,by rw[q3];omega,by rw[q3];exact Int.le_refl _⟩
    ·rcases hs.orig with o|⟨_,_,o⟩
     ·obtain⟨i',d',hd',hz'⟩:=o i d hd _ hz;rcases hs.sn with q|⟨q1,q2,q3,q4⟩
      ·rw[q]at hz' n;exact hr.fresh (hs.fr f) n i' d' hd' hz'
      ·have:=h.w.held i' d' hd' _ hz';have q4:s.ws.getD 33 0<c.ws.getD 33 0:=q4;have this:c.ser<=(s.ws.getD 33 0:Int):=this;omega
     ·exact o f
  ·rw[YC _ _ e]at hb;have hb:s.call b=.run x' res' ser' k':=hb;have r2:=h.run b x' res' ser' k' hb;refine⟨r2.call,λn=>?_,λf n i d hd hz=>?_,r2.kont.grow hs.g⟩
   ·have:=r2.ser0 n;exact⟨this.1,this.2.1,by have h2:ser'<=(s.ws.getD 33 0:Int):=this.2.2;show ser'<=(c.ws.getD 33 0:Int);omega⟩
   ·have old:Old s.wh ser'->False:=λ⟨i',d',hd',hz'⟩=>r2.fresh f n i' d' hd' hz';rcases hs.orig with o|⟨o,o2,_⟩
    ·exact old (o i d hd _ hz)
    ·rcases o i d hd _ hz with o3|⟨o3,o4⟩
     ·exact old o3
     ·exact hnew b x' res' ser' k' e hb n (by rw[o2];exact o4) (by rw[o2,o3])
 ·by_cases ea:a=who
  ·by_cases eb:b=who
   ·rw[ea,eb]
   ·rw[ea,YD]at ha;rw[YC _ _ eb]at hb;cases out with
    |fin r=>cases ha
    |on k2=>
     cases ha;exact absurd e (hnew b x2 r2 s2 k2 eb hb (by rw[<-e];exact n) n)
  ·rw[YC _ _ ea]at ha;by_cases eb:b=who
   ·rw[eb,YD]at hb;cases out with
    |fin r=>cases hb
    |on k2=>
     cases hb;exact absurd e.symm (hnew a x1 r1 s1 k1 ea ha n (by rw[<-e];exact n))
   ·rw[YC _ _ eb]at hb;exact h.dist a b x1 r1 s1 k1 x2 r2 s2 k2 ha hb n e
theorem ZE {w:World}{g:Nat}{t:TypeId}{cs:Array Value}(h:w.heap[g]?=some (.cells cs t (0,0)))(i:Nat):w.cell? ⟨g,i,none⟩=cs[i]?:=cell_of_row w g i cs t (0,0) h
theorem ZF {w:World}{g:Nat}{t:TypeId}{cs:Array Value}(h:w.heap[g]?=some (.cells cs t (0,0)))(i:Nat):w.frozen? ⟨g,i,none⟩=false:=frozen_of_row w g i cs t h
theorem ZW {w:World}{g:Nat}{o:Obj}(h:w.heap[g]?=some o):g<w.heap.size:=(ZaP.1 h).1
theorem ZU {w:World}{g:Nat}{t:TypeId}{cs:Array Value}(h:w.heap[g]?=some (.cells cs t (0,0)))(i:Nat)(u:Value):(w.setCell ⟨g,i,none⟩ u).heap[g]?=some (.cells (cs.setIfInBounds i u) t (0,0)):=heap_setCell_same w g i cs t u h
theorem ZI {w:World}{p:Addr}{v:Value}(h:w.cell? p=some v)(o:Obj):(w.alloc o).cell? p=some v:=(World.cell?_alloc_lt w o p (ZcO w p h)).trans h
theorem ZEz {w:World}{p:Addr}(hlt:p.block<w.heap.size)(h:w.frozen? p=false)(o:Obj):(w.alloc o).frozen? p=false:=(World.frozen?_alloc_old w o p (ZcE hlt)).trans h
theorem ZR {w:World}{g:Nat}{o:Obj}(h:w.heap[g]?=some o)(o':Obj):(w.alloc o').heap[g]?=some o:=(Below.heap_alloc w o' g (ZW h)).trans h
theorem ZM (w:World)(o:Obj):(w.alloc o).heap[w.heap.size]?=some o:=Zcd w o
theorem Zc (w:World)(g i:Nat)(u:Value):w.grownBy (w.setCell ⟨g,i,none⟩ u) (some g):=⟨rfl,rfl,rfl,by simp,λk _ hk=>Zce w ⟨g,i,none⟩ k u (λe=>hk (by simp[e]))⟩
theorem Zl {w a:World}{row:Option Nat}(h:w.grownBy a row)(o:Obj):w.grownBy (a.alloc o) row:=World.grown_trans h (ZcT a o row)
theorem ZT {w a:World}{g:Nat}(h:w.grownBy a (some g))(i:Nat)(u:Value):w.grownBy (a.setCell ⟨g,i,none⟩ u) (some g):=World.grown_trans h (Zc a g i u)
theorem Jm {w a b:World}{row:Option Nat}(h:w.grownBy a row)(k:ZL a b):w.grownBy b row:=⟨k.os.trans h.os,k.tape.trans h.tape,k.output.trans h.output,Zb2 h.size k.size,λi hi hne=>(k.block i (Zb5 hi h.size)).trans (h.block i hi hne)⟩
theorem ZJ {w a:World}{g:Nat}{o:Obj}(h:w.heap[g]?=some o)(k:ZL w a):a.heap[g]?=some o:=(k.block g (ZW h)).trans h
theorem Z6 {a b:World}(h:ZL a b)(row:Option Nat):a.grownBy b row:=⟨h.os,h.tape,h.output,h.size,λi hi _=>h.block i hi⟩
theorem Zj {w w':World}{g r:Nat}{o:Obj}(h:w.heap[g]?=some o)(hg:w.grownBy w' (some r))(hne:g≠r):w'.heap[g]?=some o:=(hg.block g (ZW h) (λe=>hne (by injection e))).trans h
theorem Jz {w:World}{g:Nat}{t:TypeId}{cs:Array Value}(h:w.heap[g]?=some (.cells cs t (0,0)))(i:Nat)(o:Obj):(w.alloc o).frozen? ⟨g,i,none⟩=false:=ZEz (p:=⟨g,i,none⟩) (ZW h) (ZF h i) o
theorem Jh {w a:World}{row:Option Nat}(h:w.grownBy a row):w.grownBy a.drew row:=⟨h.os,h.tape,h.output,h.size,h.block⟩
theorem Yn {w a:World}{row:Option Nat}(h:w.drew.grownBy a row):w.grownBy a row:=⟨h.os,h.tape,h.output,h.size,h.block⟩
theorem Xe {w a b:World}{row:Option Nat}(h:w.grownBy a row){g:Nat}(hg:a.grownBy b (some g))(hge:w.heap.size<=g):w.grownBy b row:=⟨hg.os.trans h.os,hg.tape.trans h.tape,hg.output.trans h.output,Zb2 h.size hg.size,λi hi hne=>(hg.block i (Zb5 hi h.size) (λe=>by injection e with e;omega)).trans (h.block i hi hne)⟩
theorem Je {w:World}{B g n c:Nat}{e:TypeId}{A:Option Addr}{xs:List Value}(h:w.ownsRow B e 1 (.slice A n c) n xs)(hg:g<B):(Value.slice A n c).ownBlock=none\/(Value.slice A n c).ownBlock≠some g:=by
 cases hA:(Value.slice A n c).ownBlock with
 |none=>exact .inl rfl
 |some q=>exact .inr λe=>by injection e with e;have:=Yg h q hA;omega
theorem ZK {w:World}{p:Addr}{v:Value}(h:w.cell? p=some v):w.drew.cell? p=some v:=h
theorem ZG {w w':World}{p:Addr}{v:Value}(h:ZL w w')(hc:w.cell? p=some v):w'.cell? p=some v:=(h.cell (ZcO w p hc)).trans hc
theorem Ya {w W w2:World}{g:Nat}(h:ZL w W)(hG:W.grownBy w2 (some g))(hg:w.heap.size<=g):ZL w w2:=h.grown hG (λk hk=>by injection hk with hk;omega)
theorem Yq {P:Program}{fn:Func}{p u:Tmp}{ty:TypeId}(h:fn.results=#[.cell p ty,.tmp u])(tmps:Array Value)(w:World)(g:Nat)(t:TypeId)(cs:Array Value)(fr:Nat × Nat)(d:TypeDesc)(hp:tmps.getD p undef=.pointer (some ⟨g,0,none⟩))(hg:w.heap[g]?=some (.cells cs t fr))(hu:P.underlying ty=some d)(hd:(match d with|.struct _|.array _ _=>true|_=>false)=true)(hi:(P.info? ty).map (·.size)=some cs.size): (results fn tmps).run P w=.ok (.tuple #[.agg cs,tmps.getD u undef]) w:=by
 rw[results_cell_tmp h,hp];simp[asAddr,Zcn w g t ty cs fr d hg hu hd hi,Result.andThen]
theorem ZP5 (w:World)(g:Nat)(a b:Value):w.grownBy ((w.setCell ⟨g,0,none⟩ a).setCell ⟨g,1,none⟩ b) (some g):=ZT (Zc w g 0 a) 1 b
theorem ZQ5 {w:World}{g:Nat}{x y:Value}{t:TypeId}(h:w.heap[g]?=some (.cells #[x,y] t (0,0)))(a b:Value):((w.setCell ⟨g,0,none⟩ a).setCell ⟨g,1,none⟩ b).heap[g]?=some (.cells #[a,b] t (0,0)):=ZU (ZU h 0 a) 1 b
theorem ZGZ {w w2:World}{g:Nat}(h:ZL w w2)(hg:w.heap.size<=g)(a b:Value):ZL w ((w2.setCell ⟨g,0,none⟩ a).setCell ⟨g,1,none⟩ b):=Ya h (ZP5 w2 g a b) hg
theorem ZJb {w:World}{B g n c:Nat}{e:TypeId}{A:Option Addr}{xs:List Value}(h:w.ownsRow B e 1 (.slice A n c) n xs)(hg:g<B)(x y:Value):((w.setCell ⟨g,0,none⟩ x).setCell ⟨g,1,none⟩ y).ownsRow g e 1 (.slice A n c) n xs:=Zg (h.kept (ZP5 w g x y) (Je h hg)) (Zbz hg)
theorem ZZ {w:World}{p:Addr}{v:Value}{g i:Nat}{u:Value}(h:w.cell? p=some v)(hne:p.block≠g):(w.setCell ⟨g,i,none⟩ u).cell? p=some v:=(ZcR _ _ _ _ (λe=>hne (by rw[<-e]))).trans h
theorem ZMc {w:World}{B n c vb:Nat}{e:TypeId}{A:Option Addr}{xs:List Value}(h:w.ownsRow B e 1 (.slice A n c) n xs)(hv:vb<B\/w.heap.size<=vb):(Value.slice A n c).ownBlock≠some vb:=λe=>by
 have:=h.lt vb e;omega
theorem ZS7 {w:World}{g:Nat}{x y z:Value}{t:TypeId}(h:w.heap[g]?=some (.cells #[x,y,z] t (0,0)))(a b c:Value):(((w.setCell ⟨g,0,none⟩ a).setCell ⟨g,1,none⟩ b).setCell ⟨g,2,none⟩ c).heap[g]?=some (.cells #[a,b,c] t (0,0)):=ZU (ZU (ZU h 0 a) 1 b) 2 c
theorem ZAS {w:World}{g:Nat}{x y z v:Value}{t:TypeId}(h:w.heap[g]?=some (.cells #[x,y,z,v] t (0,0)))(a b c d:Value):((((w.setCell ⟨g,0,none⟩ a).setCell ⟨g,1,none⟩ b).setCell ⟨g,2,none⟩ c).setCell ⟨g,3,none⟩ d).heap[g]?=some (.cells #[a,b,c,d] t (0,0)):=ZU (ZU (ZU (ZU h 0 a) 1 b) 2 c) 3 d
theorem ZT3 {p : Prop} (h : p := by with_reducible first | assumption | (refine ZK ?_; assumption) | (refine ZI ?_ _; assumption) | (refine ZK (ZI ?_ _); assumption)) : p := h
theorem ZT5 {p : Prop} (h : p := by with_reducible first | assumption | (refine ZK ?_; assumption) | (refine ZI ?_ _; assumption) | (refine ZK (ZI ?_ _); assumption) | (refine ZZ ?_ ?_ <;> assumption) | (refine ZK (ZZ ?_ ?_) <;> assumption)) : p := h
theorem ZTx {w : World} {b : Nat} {cs : Array Value} {t : TypeId} (h : w.heap[b]? = some (.cells cs t (0, 0))) (i : Nat) (v : Value) (e : cs[i]? = some v := by rfl) : w.cell? ⟨b, i, none⟩ = some v := (ZE h i).trans e
theorem ZT7 {w : World} {b : Nat} {t : TypeId} {a0 a1 a2 a3 : Value} (h : w.heap[b]? = some (.cells #[a0, a1, a2, a3] t (0, 0))) : w.cell? ⟨b, 0, none⟩ = some a0 ∧ w.frozen? ⟨b, 0, none⟩ = false ∧ w.cell? ⟨b, 1, none⟩ = some a1 ∧ w.frozen? ⟨b, 1, none⟩ = false ∧ w.cell? ⟨b, 2, none⟩ = some a2 ∧ w.frozen? ⟨b, 2, none⟩ = false ∧ w.cell? ⟨b, 3, none⟩ = some a3 ∧ w.frozen? ⟨b, 3, none⟩ = false := ⟨ZE h 0, ZF h 0, ZE h 1, ZF h 1, ZE h 2, ZF h 2, ZE h 3, ZF h 3⟩
theorem ZT8 {w : World} {b : Nat} {t : TypeId} {a0 a1 a2 a3 a4 a5 : Value} (h : w.heap[b]? = some (.cells #[a0, a1, a2, a3, a4, a5] t (0, 0))) : w.cell? ⟨b, 0, none⟩ = some a0 ∧ w.frozen? ⟨b, 0, none⟩ = false ∧ w.cell? ⟨b, 1, none⟩ = some a1 ∧ w.frozen? ⟨b, 1, none⟩ = false ∧ w.cell? ⟨b, 2, none⟩ = some a2 ∧ w.frozen? ⟨b, 2, none⟩ = false ∧ w.cell? ⟨b, 3, none⟩ = some a3 ∧ w.frozen? ⟨b, 3, none⟩ = false ∧ w.cell? ⟨b, 4, none⟩ = some a4 ∧ w.frozen? ⟨b, 4, none⟩ = false ∧ w.cell? ⟨b, 5, none⟩ = some a5 ∧ w.frozen? ⟨b, 5, none⟩ = false := ⟨ZE h 0, ZF h 0, ZE h 1, ZF h 1, ZE h 2, ZF h 2, ZE h 3, ZF h 3, ZE h 4, ZF h 4, ZE h 5, ZF h 5⟩
theorem ZT9 {w : World} {b : Nat} {t : TypeId} {a0 a1 a2 a3 a4 a5 a6 : Value} (h : w.heap[b]? = some (.cells #[a0, a1, a2, a3, a4, a5, a6] t (0, 0))) : w.cell? ⟨b, 0, none⟩ = some a0 ∧ w.frozen? ⟨b, 0, none⟩ = false ∧ w.cell? ⟨b, 1, none⟩ = some a1 ∧ w.frozen? ⟨b, 1, none⟩ = false ∧ w.cell? ⟨b, 2, none⟩ = some a2 ∧ w.frozen? ⟨b, 2, none⟩ = false ∧ w.cell? ⟨b, 3, none⟩ = some a3 ∧ w.frozen? ⟨b, 3, none⟩ = false ∧ w.cell? ⟨b, 4, none⟩ = some a4 ∧ w.frozen? ⟨b, 4, none⟩ = false ∧ w.cell? ⟨b, 5, none⟩ = some a5 ∧ w.frozen? ⟨b, 5, none⟩ = false ∧ w.cell? ⟨b, 6, none⟩ = some a6 ∧ w.frozen? ⟨b, 6, none⟩ = false := ⟨ZE h 0, ZF h 0, ZE h 1, ZF h 1, ZE h 2, ZF h 2, ZE h 3, ZF h 3, ZE h 4, ZF h 4, ZE h 5, ZF h 5, ZE h 6, ZF h 6⟩
structure GB (w w':World)(S:Zdb):Prop where
 os:w'.os=w.os
 tape:w'.tape=w.tape
 output:w'.output=w.output
 size:w.heap.size<=w'.heap.size
 block:∀i,i<w.heap.size->¬S i->w'.heap[i]?=w.heap[i]?
theorem GB.of_ext {w w':World}(S:Zdb)(h:ZL w w'):GB w w' S:=⟨h.os,h.tape,h.output,h.size,λi hi _=>h.block i hi⟩
theorem GB.refl (w:World)(S:Zdb):GB w w S:=GB.of_ext S (ZL.refl w)
theorem GB.grown {w a b:World}{S:Zdb}{row:Option Nat}(h:GB w a S)(k:a.grownBy b row)(hr:∀q,row=some q->S q\/w.heap.size<=q):GB w b S:=
 ⟨k.os.trans h.os,k.tape.trans h.tape,k.output.trans h.output,Zb2 h.size k.size,λi hi hs=>(k.block i (Zb5 hi h.size) (λe=>by
  rcases hr i e.symm with h'|h'
  ·exact hs h'
  ·omega)).trans (h.block i hi hs)⟩
theorem GB.ext {w a b:World}{S:Zdb}(h:GB w a S)(k:ZL a b):GB w b S:=h.grown (row:=none) (Z6 k none) (λq e=>by cases e)
theorem GB.alloc {w a:World}{S:Zdb}(h:GB w a S)(o:Obj):GB w (a.alloc o) S:=h.ext ((ZL.refl a).alloc o)
theorem GB.drew {w a:World}{S:Zdb}(h:GB w a S):GB w a.drew S:=h.ext (ZL.refl a).drew
theorem GB.set {w a:World}{S:Zdb}(h:GB w a S)(g i:Nat)(u:Value)(hg:S g\/w.heap.size<=g):GB w (a.setCell ⟨g,i,none⟩ u) S:=h.grown (Zc a g i u) (λq e=>by injection e with e;subst e;exact hg)
theorem GB.trans {w a b:World}{S S':Zdb}(h:GB w a S)(k:GB a b S')(hs:∀i,S' i->S i\/w.heap.size<=i):GB w b S:=
 ⟨k.os.trans h.os,k.tape.trans h.tape,k.output.trans h.output,Zb2 h.size k.size,λi hi hn=>(k.block i (Zb5 hi h.size) (λe=>by
  rcases hs i e with h'|h'
  ·exact hn h'
  ·omega)).trans (h.block i hi hn)⟩
theorem GB.back {w a b:World}{S:Zdb}(h:ZL w a)(k:GB a b S):GB w b S:=⟨k.os.trans h.os,k.tape.trans h.tape,k.output.trans h.output,Zb2 h.size k.size,λi hi hn=>(k.block i (Zb5 hi h.size) hn).trans (h.block i hi)⟩
theorem GB.more {w a:World}{S S':Zdb}(h:GB w a S)(hs:∀i,i<w.heap.size->S i->S' i):GB w a S':=⟨h.os,h.tape,h.output,h.size,λi hi hn=>h.block i hi (λe=>hn (hs i hi e))⟩
theorem GB.cell {w a:World}{S:Zdb}(h:GB w a S){p:Addr}{v:Value}(hc:w.cell? p=some v)(hp:¬S p.block):a.cell? p=some v:=(ZcQ (h.block p.block (ZcO w p hc) hp)).trans hc
theorem GB.blk {w a:World}{S:Zdb}(h:GB w a S){g:Nat}{o:Obj}(hc:w.heap[g]?=some o)(hp:¬S g):a.heap[g]?=some o:=(h.block g (ZW hc) hp).trans hc
theorem GB.to_ext {w0 w a:World}{S:Zdb}(h:GB w a S)(k:ZL w0 w)(hs:∀i,S i->w0.heap.size<=i):ZL w0 a:=⟨h.os.trans k.os,h.tape.trans k.tape,h.output.trans k.output,Zb2 k.size h.size,λi hi=>(h.block i (Zb5 hi k.size) (λe=>by have:=hs i e;omega)).trans (k.block i hi)⟩
theorem GB.rd {w a:World}{S:Zdb}{A:Option Addr}{vs:List Value}(h:GB w a S)(hr:Rd w A vs)(hs:∀p,A=some p->¬S p.block):Rd a A vs:=λhne=>by
 obtain⟨b,off,hA,hc⟩:=hr hne;exact⟨b,off,hA,λj u hu=>h.cell (hc j u hu) (show ¬S b from hs _ hA)⟩
theorem GB.own {w a:World}{S:Zdb}{base:Nat}{e:TypeId}{size:Nat}{v:Value}{n:Nat}{xs:List Value}(k:GB w a S)(h:w.ownsRow base e size v n xs)(hs:∀q,v.ownBlock=some q->¬S q):a.ownsRow base e size v n xs:=by
 refine⟨h.1,?_⟩;rcases h.2 with hn|⟨g,cap,cur,rfl,hbg,hgg,rest⟩
 ·exact .inl hn
 ·exact .inr ⟨g,cap,cur,rfl,hbg,by rw[k.block g (ZaP.1 hgg).1 (hs g rfl)];exact hgg,rest⟩
theorem ZDt {P:Program}{t e:TypeId}{s:Nat}(ht:P.underlying t=some (.slice e))(hz:∀u:World,(sizeOf e).run P u=.ok s u){A:Option Addr}{n c m d:Nat}(k:Nat){ki:Int}(hki:ki=(k:Int))(hnc:n<=c)(hm:n=m+k)(hd:c=d+k): ∃A':Option Addr,(∀u:World,(Instr.slice t (.slice A n c) (some (.int .i64 ki)) none none).run P u=.ok (.slice A' m d) u)/\ (∀(w:World) (vs:List Value),vs.length=n*s->Rd w A vs->Rd w A' (vs.drop (k*s)))/\(∀a,A'=some a->∃a',A=some a'/\a'.block=a.block)/\(A=none->A'=none):=by
 subst hki;have he:P.elem t=e:=by simp[Program.elem,ht]
 refine⟨if c=k then A else A.map (·.add (k*s)),λu=>?_,λw vs hl hr hne=>?_,λa ha=>?_,λha=>by subst ha;split<;>rfl⟩
 ·rw[run_slice_l (P:=P) u t A n c (by rw[he];exact ht) .i64 (k:Int) ZB ZB,he,hz];simp only[Result.andThen,sliced,ZaY]
  congr 2<;>omega
 ·have hvn:vs≠[]:=by rintro rfl;simp at hne
  obtain⟨b,off,rfl,hc⟩:=hr hvn;have hck:¬c=k:=by
   intro h;apply hne;have:m=0:=by omega
   rw[Zan (by rw[hl,hm,this,ZcK];exact Zb0 _)]
  rw[Zcf hck];exact⟨b,off+k*s,by simp[ZaO],λj u hu=>by rw[Zbp];exact hc (k*s+j) u (by rw[<-hu,Zay])⟩
 ·split at ha
  ·exact⟨a,ha,rfl⟩
  ·cases hA:A with
   |none=>rw[hA]at ha;cases ha
   |some q=>
    rw[hA]at ha;injection ha with ha;refine⟨q,rfl,?_⟩;rw[<-ha];unfold Addr.add
    split<;>rfl
structure Zf where
 who:Int
 kind:Int
 word:Int
 old:Nat
 new:Nat
 done:Bool
def Zf.cells (a:Zf):List Value:=[.int .i64 a.who,.int .u8 a.kind,.int .i64 a.word,.int .u64 (a.old:Int),.int .u64 (a.new:Int),.bool a.done]
def ZAM (L:List Zf):List Value:=L.flatMap Zf.cells
theorem ZEh (a:Zf)(L:List Zf):ZAM (a::L)=a.cells++ZAM L:=by simp[ZAM]
theorem ZQj (L:List Zf):(ZAM L).length=L.length*6:=by
 induction L with
 |nil=>rfl
 |cons a L ih=>rw[ZEh,Za9,ih,ZbA];simp[Zf.cells];omega
theorem ZKb (L M:List Zf):ZAM (L++M)=ZAM L++ZAM M:=by simp[ZAM]
theorem ZH1 (a:Zf):ZAM [a]=a.cells:=by simp[ZAM]
theorem ZH2:∀(k:Nat) (L:List Zf),ZAM (L.drop k)=(ZAM L).drop (k*6)
 |0,L=>by simp
 |k+1,[]=>by simp[ZAM]
 |k+1,a::L=>by
  rw[Zao,ZH2 k L,ZEh,show(k+1)*6=a.cells.length+k*6 by simp[Zf.cells];omega,List.drop_append];simp
theorem ZKa (L:List Zf):∀u ∈ ZAM L,u.oneCell'=true:=by
 intro u hu;obtain⟨a,_,h⟩:=ZbM.1 hu;simp[Zf.cells]at h;rcases h with rfl|rfl|rfl|rfl|rfl|rfl<;>rfl
theorem ZJz:(Tryz.prog.info? 307).map (λi=>(i.zero,i.size,i.bytes))=some (some (.agg #[.int .i64 0,.int .u8 0,.int .i64 0,.int .u64 0,.int .u64 0,.bool false]),6,48):=by kernel_rfl
theorem ZO4:∀u:World,(sizeOf 307).run Tryz.prog u=.ok 6 u:=λ_=>by kernel_rfl
theorem ZKj (w:World)(a b n:Int):Calls Tryz.prog 170 #[.int .i64 a,.int .i64 b,.int .i64 n] w λe w'=>e=.returned (.int .i64 (if 0<=a/\a<64/\0<=b/\b<n then 0 else 1))/\w=w':=by
 by_cases h1:a<0
 ·rw[Zcf ZB];go_enter Tryz.func170,Tryz.ntmps170;go_wp2;go_ret;exact⟨rfl,rfl⟩
 ·by_cases h2:64<=a
  ·rw[Zcf ZB];go_enter Tryz.func170,Tryz.ntmps170;go_wp2;go_ret;exact⟨rfl,rfl⟩
  ·by_cases h3:b<0
   ·rw[Zcf ZB];go_enter Tryz.func170,Tryz.ntmps170;go_wp2;go_ret;exact⟨rfl,rfl⟩
   ·by_cases h4:n<=b
    ·rw[Zcf ZB];go_enter Tryz.func170,Tryz.ntmps170;go_wp2;go_ret;exact⟨rfl,rfl⟩
    ·rw[Zcg ZB];go_enter Tryz.func170,Tryz.ntmps170;go_wp2;go_ret;exact⟨rfl,rfl⟩
def Y7 (w:World)(F:Zdb)(g:Nat)(ws:List Nat)(clk:Int)(L:List Zf):Prop:=∃(gw:Nat) (B:Option Addr) (n cb k:Nat),w.heap[g]?=some (.cells #[.slice (some ⟨gw,0,none⟩) ws.length ws.length,.int .i64 clk,.int .i64 (L.length:Int),.slice B n cb] 259 (0,0))/\ w.heap[gw]?=some (.cells (ZV .u64 ws).toArray 52 (0,0))/\w.ownsRow (g+1) 307 6 (.slice B n cb) n (ZAM (L.drop k))/\ n+k=L.length/\n<=128/\(k=0\/64<=n)/\gw<g/\F g/\F gw/\(∀q,(Value.slice B n cb).ownBlock=some q->F q)/\∀i,F i->i<w.heap.size
def ZAF (w:World)(F:Zdb)(g:Nat)(ws:List Nat)(clk:Int)(L:List Zf)(w':World):Prop:=∃F',Y7 w' F' g ws clk L/\GB w w' F/\∀i,F' i->F i\/w.heap.size<=i
theorem Y7.gb {w w':World}{F S:Zdb}{g:Nat}{ws:List Nat}{clk:Int}{L:List Zf}(h:Y7 w F g ws clk L)(k:GB w w' S)(hs:∀i,F i->¬S i):Y7 w' F g ws clk L:=by
 obtain⟨gw,B,n,cb,kk,h1,h2,h3,h4,h5,h6,h7,h8,h9,h10,h11⟩:=h;exact⟨gw,B,n,cb,kk,k.blk h1 (hs _ h8),k.blk h2 (hs _ h9),k.own h3 (λq e=>hs _ (h10 q e)),h4,h5,h6,h7,h8,h9,h10,λi hi=>Zb5 (h11 i hi) k.size⟩
theorem Y7.ext {w w':World}{F:Zdb}{g:Nat}{ws:List Nat}{clk:Int}{L:List Zf}(h:Y7 w F g ws clk L)(k:ZL w w'):Y7 w' F g ws clk L:=h.gb (GB.of_ext (λ_=>False) k) (λ_ _=>id)
theorem ZEZ (w:World)(F:Zdb)(g:Nat)(ws:List Nat)(clk:Int)(L:List Zf)(h:Y7 w F g ws clk L): Calls Tryz.prog 171 #[.pointer (some ⟨g,0,none⟩)] w λe w'=>e=.returned (.int .i64 (ws.length:Int))/\w=w':=by
 obtain⟨gw,B,n,cb,kk,h1,_⟩:=h;have b0:=ZE h1 0;clear h1;go_enter Tryz.func171,Tryz.ntmps171;go_wp2;go_ret;exact⟨rfl,rfl⟩
theorem ZTA (w:World):(w.alloc (.cells #[] 307)).ownsRow w.heap.size 307 6 (.slice (some ⟨w.heap.size,0,none⟩) 0 0) 0 (ZAM []):=XR w [] 307 6 0 rfl (ZcL _) (Zb0 _)
def ZTp (L:List Zf)(w:World)(e:Ending)(w':World):Prop:=∃A c,e=.returned (.slice A L.length c)/\w'.ownsRow w.heap.size 307 6 (.slice A L.length c) L.length (ZAM L)/\ZL w w'
theorem ZTC (w:World)(A:Option Addr)(n c n' c':Nat):(binOp .eql 257 (.slice A n c) (.slice none n' c')).run Tryz.prog w=.ok (.bool A.isNone) w:=Zad w _ _ A n c n' c' Tryz.underlying257
theorem ZRu {ops:Array Oper}{rest:List Oper}{o:Oper}{a:Act}{Q:Exit->Act->World->Prop}(w:World)(hgd:o.guard=none)(s x:Operand)(ho:o.op=.call {callee:=.builtin .append,args:=#[s,x],argTypes:=#[257,257]})(base:Nat){B:Option Addr}{n cb:Nat}{xs:List Zf}(hs:a.eval s=.slice B n cb)(hown:w.ownsRow base 307 6 (.slice B n cb) n (ZAM xs)){A:Option Addr}{m c:Nat}{news:List Zf}(hx:a.eval x=.slice A m c)(hl:news.length=m)(hr:Rd w A (ZAM news))(hb:n+m<=1000000000)(hbase:base<=w.heap.size)(h:∀B' cb' w',w'.ownsRow base 307 6 (.slice B' (n+m) cb') (n+m) (ZAM (xs++news))->w.grownBy w' (Value.slice B n cb).ownBlock-> ((Value.slice B' (n+m) cb').ownBlock=(Value.slice B n cb).ownBlock\/(Value.slice B' (n+m) cb').ownBlock=some w.heap.size)->wpList Tryz.prog ops Q rest (a.put o.dst (.slice B' (n+m) cb')) w'): wpList Tryz.prog ops Q (o::rest) a w:=by
 obtain⟨i0,hi,hz0,hz1,hz2⟩:=Zch ZJz;refine Yv w hgd s x 257 ho base 307 Tryz.underlying257 hi hz0 hz1 hz2 rfl (by decide) hs hown hx (by rw[ZQj,hl]) hr (ZKa _) (by unfold maxLen;omega) ZB hbase ?_;intro B' cb' w' h2 h3 h4;rw[<-ZKb]at h2;exact h B' cb' w' h2 h3 h4
theorem ZL0 (A:Option Addr)(n c:Nat)(L:List Zf)(w:World)(hl:L.length=n)(hn:n<=1000000)(hr:Rd w A (ZAM L)): Calls Tryz.prog 229 #[.slice A n c] w (ZTp L w):=by
 have Hl:=ZA hl;have Hr:=ZA hr;have q:=ZTC;cases A with
 |none=>
  have h0:L=[]:=by
   cases L with
   |nil=>rfl
   |cons a L=>
    obtain⟨b,off,hA,_⟩:=hr (by rw[ZEh];simp[Zf.cells]);cases hA
  subst h0;clear hl hr;obtain rfl:n=0:=by have:=Hl.o;simpa using this.symm
  go_enter Tryz.func229,Tryz.ntmps229;go_wp2;go_ret;exact⟨none,0,rfl,ZcU _ _ _ _,ZL.refl w⟩
 |some a=>
  clear hl hr;go_enter Tryz.func229,Tryz.ntmps229;go_wp2_with (at_builtin;refine ZRu _ rfl (.tmp 5) (.tmp 6) rfl w.heap.size rfl (ZTA w) rfl Hl.o (Hr.o.alloc _) ZB ZTv ?_;intro A' c' w1 hown hgrow _;simp only[ZcK,ZbV]at hown);go_ret;rw[<-Hl.o]at hown ⊢;exact⟨A',c',rfl,hown,((ZL.refl w).alloc _).grown hgrow (by simp[Value.ownBlock])⟩
def ZTR (n:Nat)(L:List Zf)(w:World)(e:Ending)(w':World):Prop:=∃A c,e=.returned (.slice A n c)/\w'.ownsRow w.heap.size 307 6 (.slice A n c) n (ZAM L)/\ZL w w'
theorem ZQO (A:Option Addr)(n c:Nat)(L:List Zf)(w:World)(hl:L.length=n)(hn:n<=1000000)(hr:Rd w A (ZAM L)): Calls Tryz.prog 229 #[.slice A n c] w (ZTR n L w):=by
 refine(ZL0 A n c L w hl hn hr).mono ?_;rintro e w' ⟨A',c',rfl,h1,h2⟩;rw[hl]at h1 ⊢;exact⟨A',c',rfl,h1,h2⟩
theorem ZMi {w W:World}{F:Zdb}{g gw n cb k:Nat}{ws:List Nat}{clk:Int}{L:List Zf}{B:Option Addr}(h:GB w W F)(h1:W.heap[g]?=some (.cells #[.slice (some ⟨gw,0,none⟩) ws.length ws.length,.int .i64 clk,.int .i64 (L.length:Int),.slice B n cb] 259 (0,0)))(h2:W.heap[gw]?=some (.cells (ZV .u64 ws).toArray 52 (0,0)))(h3:W.ownsRow (g+1) 307 6 (.slice B n cb) n (ZAM (L.drop k)))(h4:n+k=L.length)(h5:n<=128)(h6:k=0\/64<=n)(h7:gw<g)(h8:F g)(h9:F gw)(h10:∀q,(Value.slice B n cb).ownBlock=some q->F q\/w.heap.size<=q)(h11:∀i,F i->i<w.heap.size):ZAF w F g ws clk L W:=by
 refine⟨λi=>F i\/(Value.slice B n cb).ownBlock=some i,⟨gw,B,n,cb,k,h1,h2,h3,h4,h5,h6,h7,.inl h8,.inl h9,λq e=>.inr e,λi hi=>?_⟩,h,λi hi=>?_⟩
 ·rcases hi with hi|hi
  ·exact Zb5 (h11 i hi) h.size
  ·exact(h3.lt i hi).2
 ·rcases hi with hi|hi
  ·exact .inl hi
  ·exact h10 i hi
theorem ZJ7 {w w':World}(h:ZL w w'):w.heap.size<=w'.heap.size:=h.size
theorem rdD {w:World}{A:Option Addr}{vs:List Value}(h:Rd w A vs):Rd w.drew A vs:=h
theorem ZIF {ops:Array Oper}{o:Oper}{a:Act}{K:Act->World->Prop}{Q:Exit->Act->World->Prop}{E:Prop}(w:World)(hgd:o.guard=none)(s x:Operand)(ho:o.op=.call {callee:=.builtin .append,args:=#[s,x],argTypes:=#[257,257]})(base:Nat){B:Option Addr}{n cb:Nat}{xs:List Zf}(hs:a.eval s=.slice B n cb)(hown:w.ownsRow base 307 6 (.slice B n cb) n (ZAM xs)){A:Option Addr}{c:Nat}(y:Zf)(hx:a.eval x=.slice A 1 c)(hr:Rd w A y.cells)(hb:n<=1000)(hbase:base<=w.heap.size)(h:∀B' cb' w',w'.ownsRow base 307 6 (.slice B' (n+1) cb') (n+1) (ZAM (xs++[y]))->w.grownBy w' (Value.slice B n cb).ownBlock-> ((Value.slice B' (n+1) cb').ownBlock=(Value.slice B n cb).ownBlock\/(Value.slice B' (n+1) cb').ownBlock=some w.heap.size)->K (a.put o.dst (.slice B' (n+1) cb')) w'): if Region.wanted o (yielded ops a.tmps)=true then Oper.wp Tryz.prog o a w K Q else E:=by
 have hw:Region.wanted o (yielded ops a.tmps)=true:=by simp[Region.wanted,hgd]
 rw[Zcg hw];obtain⟨i0,hi,hz0,hz1,hz2⟩:=Zch ZJz;exact ZA7 w s x 257 ho base 307 Tryz.underlying257 hi hz0 hz1 hz2 rfl (by decide) hs hown hx (m:=1) (news:=y.cells) rfl hr (by rw[<-ZH1];exact ZKa _) (by unfold maxLen;omega) ZB hbase λB' cb' w' h2 h3 h4=>h B' cb' w' (by rw[ZKb,ZH1];exact h2) h3 h4
theorem ZD1 (w:World)(F:Zdb)(g:Nat)(ws:List Nat)(clk:Int)(L:List Zf)(a:Zf)(h:Y7 w F g ws clk L)(hL:L.length<=1000000): Calls Tryz.prog 172 #[.pointer (some ⟨g,0,none⟩),.agg #[.int .i64 a.who,.int .u8 a.kind,.int .i64 a.word,.int .u64 (a.old:Int),.int .u64 (a.new:Int),.bool a.done]] w λe w'=>e=.returned (.tuple #[])/\ZAF w F g ws clk (L++[a]) w':=by
 obtain⟨gw,B,n,cb,k,h1,h2,h3,h4,h5,h6,h7,h8,h9,h10,h11⟩:=h;have hwrap:IntKind.i64.wrap ((L.length:Int)+1)=((L.length:Int)+1):=by rw[Zaa];omega
 have H1:=ZA h1;have b2:(w.alloc (.cells #[.int .i64 a.who,.int .u8 a.kind,.int .i64 a.word,.int .u64 (a.old:Int),.int .u64 (a.new:Int),.bool a.done] 307 (0,0))).cell? ⟨g,2,none⟩=some (.int .i64 (L.length:Int)):=ZI (ZE h1 2) _;have f2:=Jz h1 2 (.cells #[.int .i64 a.who,.int .u8 a.kind,.int .i64 a.word,.int .u64 (a.old:Int),.int .u64 (a.new:Int),.bool a.done] 307 (0,0));have H4:=ZA h4;clear h1 h4;have hgs:g<w.heap.size:=ZW H1.o;obtain⟨W,hW⟩:=ZTy ((w.setCell ⟨g,2,none⟩ (.int .i64 ((L.length:Int)+1))).alloc (.cells #[.int .i64 a.who,.int .u8 a.kind,.int .i64 a.word,.int .u64 (a.old:Int),.int .u64 (a.new:Int),.bool a.done] 307 (0,0)));have G0:GB w W F:=by rw[<-hW.out];exact((GB.refl w F).set g 2 _ (.inl h8)).alloc _
 have HG:=ZA (show W.heap[g]?=some (.cells #[.slice (some ⟨gw,0,none⟩) ws.length ws.length,.int .i64 clk,.int .i64 ((L.length:Int)+1),.slice B n cb] 259 (0,0)) by rw[<-hW.out];exact ZR (ZU H1.o 2 _) _);have HB:=ZA (show W.heap[w.heap.size]?=some (.cells #[.int .i64 a.who,.int .u8 a.kind,.int .i64 a.word,.int .u64 (a.old:Int),.int .u64 (a.new:Int),.bool a.done] 307 (0,0)) by rw[<-hW.out];exact Zd _ _ ZTv);have HW2:=ZA (show W.heap[gw]?=some (.cells (ZV .u64 ws).toArray 52 (0,0)) by rw[<-hW.out];exact ZR (Zj h2 (Zc _ g 2 _) ZB) _);have hob:∀q,(Value.slice B n cb).ownBlock=some q->q≠g/\q≠gw/\q<w.heap.size:=λq e=>by have:=h3.lt q e;omega
 have HO:=ZA (show W.ownsRow (g+1) 307 6 (.slice B n cb) n (ZAM (L.drop k)) by
  rw[<-hW.out]
  exact YB (h3.kept (Zc _ g 2 _) (by
   cases hq:(Value.slice B n cb).ownBlock with
   |none=>exact .inl rfl
   |some q=>exact .inr λe=>by injection e with e;exact(hob q hq).1 e)) ((ZL.refl _).alloc _))
 have hsW:w.heap.size<W.heap.size:=ZW HB.o;clear h2 h3;go_enter Tryz.func172,Tryz.ntmps172;go_upto_region 2 with fail;rw[hW.out];clear hW b2 f2 hwrap;have c3:=ZTx HG.o 3 (.slice B n cb);have a0:=ZTx HB.o 0 (.int .i64 a.who);have a1:=ZTx HB.o 1 (.int .u8 a.kind);have a2:=ZTx HB.o 2 (.int .i64 a.word);have a3:=ZTx HB.o 3 (.int .u64 (a.old:Int));have a4:=ZTx HB.o 4 (.int .u64 (a.new:Int));have a5:=ZTx HB.o 5 (.bool a.done);have f3:W.frozen? ⟨g,3,none⟩=false:=ZF HG.o 3;have hn1000:n<=1000:=by omega
 have hgW:g+1<=W.heap.size:=by omega
 have hng:¬(Value.slice B n cb).ownBlock=some g:=λe=>(hob _ e).1 rfl;have hnw:¬(Value.slice B n cb).ownBlock=some gw:=λe=>(hob _ e).2.1 rfl;have hnb:¬(Value.slice B n cb).ownBlock=some w.heap.size:=λe=>Zb3 _ (hob _ e).2.2;have c3':=ZI c3 (.cells #[.int .i64 a.who,.int .u8 a.kind,.int .i64 a.word,.int .u64 (a.old:Int),.int .u64 (a.new:Int),.bool a.done] 307 (0,0));have H10:=ZA h10
 go_cut [] (λwd=>∃B' cb',GB w wd F/\wd.heap[g]?=some (.cells #[.slice (some ⟨gw,0,none⟩) ws.length ws.length,.int .i64 clk,.int .i64 ((L.length:Int)+1),.slice B' (n+1) cb'] 259 (0,0))/\
  wd.heap[gw]?=some (.cells (ZV .u64 ws).toArray 52 (0,0))/\wd.ownsRow (g+1) 307 6 (.slice B' (n+1) cb') (n+1) (ZAM ((L++[a]).drop k))/\∀q,(Value.slice B' (n+1) cb').ownBlock=some q->F q\/w.heap.size<=q)
 case first=>
  go_region_law ((refine ZIF (W.alloc (.cells #[.int .i64 a.who,.int .u8 a.kind,.int .i64 a.word,.int .u64 (a.old:Int),.int .u64 (a.new:Int),.bool a.done] 307)).drew rfl (.tmp 15) (.tmp 17) rfl (g+1) ZTw (YB HO.o ((ZL.refl W).alloc _).drew) a ZTw (rdD (ZAU W a.cells _ rfl)) hn1000 (Zb2 hgW (ZJ7 ((ZL.refl W).alloc _).drew)) ?_;intro B' cb' w6 o6 g6 b6;have G6:GB w w6 F:=(G0.alloc _).drew.grown g6 (λq e=>.inl (h10 q e));have GW:GB W w6 (λi=>(Value.slice B n cb).ownBlock=some i):=((GB.refl W _).alloc _).drew.grown g6 (λq e=>.inl e);have s3:=GW.cell c3 hng;have s0:=GW.cell a0 hnb;have s1:=GW.cell a1 hnb;have s2:=GW.cell a2 hnb;have s4:=GW.cell a3 hnb;have s5:=GW.cell a4 hnb;have s6:=GW.cell a5 hnb;have u3:=GW.blk HG.o hng;have uw:=GW.blk HW2.o hnw;have f6:=ZF u3 3;have HU3:=ZA u3;have HUW:=ZA uw;clear u3 uw))
  all_goals
   go_wp2_with fail
   go_meet
   refine⟨B',cb',G6.set g 3 _ (.inl h8),ZU HU3.o 3 _,Zj HUW.o (Zc _ g 3 _) ZB,?_,λq e=>?_⟩
   ·rw[Zak (by have:=H4.o;omega)];refine o6.kept (Zc _ g 3 _) ?_;cases hq:(Value.slice B' (n+1) cb').ownBlock with
    |none=>exact .inl rfl
    |some q=>exact .inr λe=>by injection e with e;have:=(o6.lt q hq).1;omega
   ·rw[e]at b6;rcases b6 with b6|b6
    ·exact .inl (H10.o q b6.symm)
    ·injection b6 with b6;rw[b6];exact .inr (Zbz (Zb5 hsW (ZJ7 ((ZL.refl W).alloc _).drew)))
 case rest=>
  obtain⟨B',cb',G7,u1,u2,u3,u4⟩:=hcut;have c3:=ZTx u1 3 (.slice B' (n+1) cb');have f3:=ZF u1 3;have hlen:((L++[a]).length:Int)=(L.length:Int)+1:=by simp
  have U1:=ZA u1;have U2:=ZA u2;have U3:=ZA u3;have U4:=ZA u4;clear u1 u2 u3 u4;by_cases hb:n+1<=128
  ·go_wp2_with fail
   go_end0
   exact⟨rfl,ZMi G7 (by rw[hlen];exact U1.o) U2.o U3.o (by simp;have:=H4.o;omega) hb (by rcases h6 with h6|h6<;>omega) h7 h8 h9 U4.o h11⟩
  ·obtain rfl:n=128:=by omega
   have hcap:129<=cb':=Ys U3.o;obtain⟨A',hsl,hrd,hblk,_⟩:=ZDt Tryz.underlying257 ZO4 (A:=B') (n:=129) (c:=cb') (m:=64) (d:=cb' - 65) 65 (ki:=65) rfl hcap rfl ZB;have hr0:Rd wc B' (ZAM ((L++[a]).drop k)):=by
    intro hne;obtain⟨q,rfl,_,_⟩:=ZBJ U3.o ZB;exact⟨q,0,rfl,λj u hu=>by rw[ZcK,U3.o.cellAt j (by have:=(Za0.1 hu).1;have:=U3.o.1;omega)];exact hu⟩
   have hr1:Rd wc A' (ZAM ((L++[a]).drop (65+k))):=by
    have:=hrd wc _ U3.o.1 hr0
    rwa [<-ZH2,Zal,Zbq k]at this
   have hl1:((L++[a]).drop (65+k)).length=64:=by have:=H4.o;simp;omega
   have CL:=ZA (ZQO A' 64 (cb' - 65) _ wc.drew hl1 ZB hr1);have Hl1:=ZA hl1;have hw65:IntKind.i64.wrap 65=65:=by decide
   clear hr0 hr1 hrd hl1 hblk;go_upto_region 4 with fail
   go_region_with (go_at_call 229;go_must (refine CL.o.mono ?_);go_must (rintro e w8 ⟨A8,c8,rfl,o8,x8⟩);go_must (have f8:=ZF (ZJ U1.o ((ZL.refl wc).drew.trans x8)) 3);go_must (have k8:w8.cell? ⟨g,3,none⟩=some (.slice B' 129 cb'):=ZE (ZJ U1.o ((ZL.refl wc).drew.trans x8)) 3))
   all_goals
    go_wp2_with fail
    go_end0
    have x8':ZL wc w8:=(ZL.refl wc).drew.trans x8;have hgu:g<wc.heap.size:=ZW U1.o;refine⟨rfl,ZMi (k:=65+k) ((G7.ext x8').set g 3 _ (.inl h8)) (by rw[hlen];exact ZU (ZJ U1.o x8') 3 _) (Zj (ZJ U2.o x8') (Zc _ g 3 _) ZB) ?_ (by simp;have:=H4.o;omega) ZB (.inr ZB) h7 h8 h9 (λq e=>.inr ?_) h11⟩
    ·refine(Zg o8 (Zb2 hgu (Zb0 _))).kept (Zc _ g 3 _) ?_;cases hq:(Value.slice A8 64 c8).ownBlock with
     |none=>exact .inl rfl
     |some q=>exact .inr λe=>by injection e with e;have h1:=(o8.lt q hq).1;have h2:wc.drew.heap.size=wc.heap.size:=rfl;omega
    ·have h1:=(o8.lt q e).1;have h2:wc.drew.heap.size=wc.heap.size:=rfl;have h3:=G7.size;omega
theorem ZNr:(Tryz.prog.info? 52).map (λi=>(i.zero,i.size,i.bytes))=some (some (.int .u64 0),1,8):=by kernel_rfl
theorem ZPc (n:Nat)(t:TypeId):(.cells (madeCells #[.int .u64 0] n) t:Obj)=.cells (ZV .u64 (List.replicate n 0)).toArray t (0,0):=by
 congr 1
 apply Array.ext';rw[toList_madeCells_one];simp[ZV]
def ZRz (n:Nat)(w:World)(e:Ending)(w':World):Prop:=∃g F,e=.returned (.tuple #[.pointer (some ⟨g,0,none⟩),.int .i64 0])/\Y7 w' F g (List.replicate n 0) 0 []/\ZL w w'/\(∀i,F i->w.heap.size<=i)/\w.heap.size<=g
theorem ZRR (n:Nat)(w:World)(h1:1<=n)(h2:n<=4096):Calls Tryz.prog 124 #[.int .i64 (n:Int)] w (ZRz n w):=by
 have a1:¬(n:Int)<1:=by omega
 have a2:¬4096<(n:Int):=by omega
 have hmk:=run_make_row' (P:=Tryz.prog) 200 52 (.int .u64 0) 8 Tryz.underlying200 ZNr rfl .i64 .i64 n ZB ZB;go_enter Tryz.func124,Tryz.ntmps124;go_wp2_with fail
 go_ret2
 refine⟨w.heap.size+1,λi=>i=w.heap.size\/i=w.heap.size+1,rfl,⟨w.heap.size,none,0,0,0,?_,?_,ZcU _ _ _ _,rfl,by omega,.inl rfl,by omega,.inr rfl,.inl rfl,λq e=>(by cases e),λi hi=>?_⟩,?_,λi hi=>by omega,by omega⟩
 ·rw[List.length_replicate];exact Zd _ _ ZTv
 ·exact(ZR (ZM w _) _).trans (by rw[ZPc])
 ·simp;omega
 ·exact((ZL.refl w).alloc _).alloc _
theorem ZCu (w:World)(a b n:Int)(h1:0<=a)(h2:a<64)(h3:0<=b)(h4:b<n):Calls Tryz.prog 170 #[.int .i64 a,.int .i64 b,.int .i64 n] w λe w'=>e=.returned (.int .i64 0)/\w=w':=by
 have:=ZKj w a b n
 rwa [Zcg ⟨h1,h2,h3,h4⟩]at this
theorem Y7.word {w:World}{F:Zdb}{g:Nat}{ws:List Nat}{clk:Int}{L:List Zf}(h:Y7 w F g ws clk L){i x:Nat}(hx:ws[i]?=some x): ∃gw,w.cell? ⟨g,0,none⟩=some (.slice (some ⟨gw,0,none⟩) ws.length ws.length)/\w.cell? ⟨gw,i,none⟩=some (.int .u64 (x:Int))/\w.frozen? ⟨gw,i,none⟩=false/\ ∀y:Nat,Y7 (w.setCell ⟨gw,i,none⟩ (.int .u64 (y:Int))) F g (ws.set i y) clk L/\GB w (w.setCell ⟨gw,i,none⟩ (.int .u64 (y:Int))) F:=by
 obtain⟨gw,B,n,cb,kk,h1,h2,h3,h4,h5,h6,h7,h8,h9,h10,h11⟩:=h;refine⟨gw,ZE h1 0,(ZE h2 i).trans (by simpa using ZAw hx),ZF h2 i,λy=>⟨⟨gw,B,n,cb,kk,?_,?_,?_,h4,h5,h6,h7,h8,h9,h10,λi hi=>by simpa using h11 i hi⟩,(GB.refl w F).set gw i _ (.inl h9)⟩⟩
 ·rw[ZbF];exact Zj h1 (Zc w gw i _) ZB
 ·refine(ZU h2 i _).trans ?_;rw[ZI8];simp
 ·refine h3.kept (Zc w gw i _) ?_;cases hq:(Value.slice B n cb).ownBlock with
  |none=>exact .inl rfl
  |some q=>exact .inr λe=>by injection e with e;have:=(h3.lt q hq).1;omega
theorem ZAF.back {w W w':World}{F F1:Zdb}{g:Nat}{ws:List Nat}{clk:Int}{L:List Zf}(h:GB w W F)(hf:∀i,F1 i->F i\/w.heap.size<=i)(k:ZAF W F1 g ws clk L w'):ZAF w F g ws clk L w':=by
 obtain⟨F',k1,k2,k3⟩:=k;refine⟨F',k1,h.trans k2 hf,λi hi=>?_⟩;rcases k3 i hi with k3|k3
 ·exact hf i k3
 ·exact .inr (Zb2 h.size k3)
theorem ZRT (w:World)(F:Zdb)(g:Nat)(ws:List Nat)(clk:Int)(L:List Zf)(who:Int)(i x:Nat)(h:Y7 w F g ws clk L)(hL:L.length<=1000000)(h1:0<=who)(h2:who<64)(hx:ws[i]?=some x): Calls Tryz.prog 230 #[.pointer (some ⟨g,0,none⟩),.int .i64 who,.int .i64 (i:Int)] w λe w'=>e=.returned (.tuple #[.int .u64 (x:Int),.int .i64 0])/\ZAF w F g ws clk (L++[⟨who,1,i,x,0,true⟩]) w':=by
 obtain⟨gw,b0,bx,_,_⟩:=h.word hx;have hi:i<ws.length:=(Za0.1 hx).1;have H:=ZA h;have Hx:=ZA hx;clear h hx;go_enter Tryz.func230,Tryz.ntmps230;go_wp2_with fail;refine(ZEZ w F g ws clk L H.o).mono ?_;rintro e w1 ⟨rfl,rfl⟩;go_wp2_with fail;refine(ZCu w who i ws.length h1 h2 ZB ZB).mono ?_;rintro e w1 ⟨rfl,rfl⟩;go_wp2_with fail;refine(ZD1 w F g ws clk L ⟨who,1,i,x,0,true⟩ H.o hL).mono ?_;rintro e w1 ⟨rfl,hm⟩;go_wp2_with fail
 go_ret2
 exact⟨rfl,hm⟩
theorem ZJH (w:World)(F:Zdb)(g:Nat)(ws:List Nat)(clk:Int)(L:List Zf)(who:Int)(i x new:Nat)(h:Y7 w F g ws clk L)(hL:L.length<=1000000)(h1:0<=who)(h2:who<64)(hx:ws[i]?=some x): Calls Tryz.prog 125 #[.pointer (some ⟨g,0,none⟩),.int .i64 who,.int .i64 (i:Int),.int .u64 (x:Int),.int .u64 (new:Int)] w λe w'=>e=.returned (.tuple #[.bool true,.int .i64 0])/\ZAF w F g (ws.set i new) clk (L++[⟨who,2,i,x,new,true⟩]) w':=by
 obtain⟨gw,b0,bx,bf,hst⟩:=h.word hx;obtain⟨m2,g2⟩:=hst new;have hi:i<ws.length:=(Za0.1 hx).1;have H:=ZA h;have M2:=ZA m2;have Hx:=ZA hx;clear h hx m2 hst;go_enter Tryz.func125,Tryz.ntmps125;go_wp2_with fail;refine(ZEZ w F g ws clk L H.o).mono ?_;rintro e w1 ⟨rfl,rfl⟩;go_wp2_with fail;refine(ZCu w who i ws.length h1 h2 ZB ZB).mono ?_;rintro e w1 ⟨rfl,rfl⟩;go_wp2_with fail;refine(ZD1 _ F g (ws.set i new) clk L ⟨who,2,i,x,new,true⟩ M2.o hL).mono ?_;rintro e w1 ⟨rfl,hm⟩;go_wp2_with fail
 go_ret2
 exact⟨rfl,hm.back g2 (λi hi=>.inl hi)⟩
theorem ZNC (w:World)(F:Zdb)(g:Nat)(ws:List Nat)(clk:Int)(L:List Zf)(who:Int)(i x old new:Nat)(h:Y7 w F g ws clk L)(hL:L.length<=1000000)(h1:0<=who)(h2:who<64)(hx:ws[i]?=some x)(hne:x≠old): Calls Tryz.prog 125 #[.pointer (some ⟨g,0,none⟩),.int .i64 who,.int .i64 (i:Int),.int .u64 (old:Int),.int .u64 (new:Int)] w λe w'=>e=.returned (.tuple #[.bool false,.int .i64 0])/\ZAF w F g ws clk (L++[⟨who,2,i,old,new,false⟩]) w':=by
 obtain⟨gw,b0,bx,bf,hst⟩:=h.word hx;have hi:i<ws.length:=(Za0.1 hx).1;have H:=ZA h;have Hx:=ZA hx;have hd:((x:Int)==(old:Int))=false:=by rw[ZcW];omega
 clear h hx hst;go_enter Tryz.func125,Tryz.ntmps125;go_wp2_with fail;refine(ZEZ w F g ws clk L H.o).mono ?_;rintro e w1 ⟨rfl,rfl⟩;go_wp2_with fail;refine(ZCu w who i ws.length h1 h2 ZB ZB).mono ?_;rintro e w1 ⟨rfl,rfl⟩;go_wp2_with fail;refine(ZD1 _ F g ws clk L ⟨who,2,i,old,new,false⟩ H.o hL).mono ?_;rintro e w1 ⟨rfl,hm⟩;go_wp2_with fail
 go_ret2
 exact⟨rfl,hm⟩
theorem ZEQ {fn:Func}{p u:Tmp}{ty:TypeId}(h:fn.results=#[.tmp u,.cell p ty])(tmps:Array Value)(P:Program)(w:World): (results fn tmps).run P w=((asAddr (tmps.getD p undef)).run P w).andThen λa w=>((loadVar ty a).run P w).andThen λv w=>.ok (.tuple #[tmps.getD u undef,v]) w:=by
 simp[results,h,Result.andThen]
theorem ZQ {P:Program}{fn:Func}{p u:Tmp}{ty:TypeId}(h:fn.results=#[.tmp u,.cell p ty])(tmps:Array Value)(w:World)(g:Nat)(t:TypeId)(cs:Array Value)(fr:Nat × Nat)(d:TypeDesc)(hp:tmps.getD p undef=.pointer (some ⟨g,0,none⟩))(hg:w.heap[g]?=some (.cells cs t fr))(hu:P.underlying ty=some d)(hd:(match d with|.struct _|.array _ _=>true|_=>false)=true)(hi:(P.info? ty).map (·.size)=some cs.size): (results fn tmps).run P w=.ok (.tuple #[tmps.getD u undef,.agg cs]) w:=by
 rw[ZEQ h,hp];simp[asAddr,Zcn w g t ty cs fr d hg hu hd hi,Result.andThen]
theorem Jg:∀(fn:Fn) (first cap:Array Value) (w:World),(Instr.makeFunc fn first cap).run Tryz.prog w=.ok (.func fn first cap) w:=λ_ _ _ _=>rfl
theorem Y7.lt {w:World}{F:Zdb}{g:Nat}{ws:List Nat}{clk:Int}{L:List Zf}(h:Y7 w F g ws clk L):∀i,F i->i<w.heap.size:=by
 obtain⟨_,_,_,_,_,_,_,_,_,_,_,_,_,_,_,hlt⟩:=h;exact hlt
theorem Xb {w:World}{g i j:Nat}{v u:Value}(h:w.cell? ⟨g,i,none⟩=some v)(hne:i≠j):(w.setCell ⟨g,j,none⟩ u).cell? ⟨g,i,none⟩=some v:=(ZcR _ _ _ _ (by intro e;apply hne;have h:=ZcZ Addr.off e;simp at h;omega)).trans h
theorem ZRd {w w':World}{p:Addr}{v:Value}(x:ZL w w')(h:w.cell? p=some v)(hf:w.frozen? p=false):w'.frozen? p=false:=(x.frozen (ZcO w p h)).trans hf
theorem ZCQ {α β:Type}(f:β->α->List Value)(s:Nat)(hf:∀k x,(f k x).length=s):∀(ks:List β) (l:List α),ks.length=l.length->((ks.zip l).flatMap λp=>f p.1 p.2).length=l.length*s
 |[],[],_=>by simp
 |[],_::_,h=>by cases h
 |_::_,[],h=>by cases h
 |k::ks,x::l,h=>by
  have:=ZCQ f s hf ks l (by simpa using h);rw[Zbo,Zat,Za9,this,hf,ZbA,Zbt,ZcH,Zbq]
theorem ZFY {α β:Type}(f:β->α->List Value)(s:Nat)(hf:∀k x,(f k x).length=s):∀(ks:List β) (l:List α) (i j:Nat) (k:β) (x:α),ks[i]?=some k->l[i]?=some x->j<s->((ks.zip l).flatMap λp=>f p.1 p.2)[i*s+j]?=(f k x)[j]?
 |[],_,_,_,_,_,h,_,_=>by simp at h
 |_::_,[],_,_,_,_,_,h,_=>by simp at h
 |k0::ks,x0::l,0,j,k,x,h1,h2,hj=>by
  simp at h1 h2;subst h1 h2;rw[Zbo,Zat,ZcM,ZcK,Zav (by rw[hf];exact hj)]
 |k0::ks,x0::l,i+1,j,k,x,h1,h2,hj=>by
  have:=ZFY f s hf ks l i j k x (by simpa using h1) (by simpa using h2) hj;rw[Zbo,Zat,Zaw (by rw[hf,Zbt,ZcH];omega),hf,show(i+1)*s+j - s=i*s+j by rw[Zbt,ZcH];omega];exact this
theorem ZCs {α β:Type}(f:β->α->List Value)(s:Nat)(hf:∀k x,(f k x).length=s):∀(ks:List β) (l:List α) (n:Nat),ks.length=l.length->(((ks.take n).zip (l.take n)).flatMap λp=>f p.1 p.2)=((ks.zip l).flatMap λp=>f p.1 p.2).take (n*s)
 |[],[],n,_=>by simp
 |[],_::_,_,h=>by cases h
 |_::_,[],_,h=>by cases h
 |k::ks,e::l,0,_=>by simp
 |k::ks,e::l,n+1,h=>by
  have ih:=ZCs f s hf ks l n (by simpa using h);rw[Zbl,Zbl,Zbo,Zat,Zbo,Zat,ih,Zbt,ZcH,Zbq,List.take_append,hf,show List.take (s+n*s) (f (k,e).1 (k,e).2)=f (k,e).1 (k,e).2 from Zbk (by rw[hf];omega),Zbv]
theorem ZEM {α β:Type}(f:β->α->List Value)(s:Nat)(hf:∀k x,(f k x).length=s):∀(ks:List β) (l:List α) (n:Nat),ks.length=l.length->(((ks.drop n).zip (l.drop n)).flatMap λp=>f p.1 p.2)=((ks.zip l).flatMap λp=>f p.1 p.2).drop (n*s)
 |[],[],n,_=>by simp
 |[],_::_,_,h=>by cases h
 |_::_,[],_,h=>by cases h
 |k::ks,e::l,0,_=>by simp
 |k::ks,e::l,n+1,h=>by
  have ih:=ZEM f s hf ks l n (by simpa using h);rw[Zao,Zao,Zbo,Zat,ih,Zbt,ZcH,Zbq,List.drop_append,hf,show List.drop (s+n*s) (f (k,e).1 (k,e).2)=[]from Zan (by rw[hf];omega),ZbV,Zbv]
theorem ZFZ {α β:Type}(f:β->α->List Value){ks ks':List β}{l l':List α}(h:ks.length=l.length):(((ks++ks').zip (l++l')).flatMap λp=>f p.1 p.2)=((ks.zip l).flatMap λp=>f p.1 p.2)++((ks'.zip l').flatMap λp=>f p.1 p.2):=by
 rw[List.zip_append h,Zas]
theorem ZOq {α β:Type}(f:β->α->List Value)(hf:∀k x,∀v ∈ f k x,v.oneCell'=true)(ks:List β)(l:List α):∀v ∈ ((ks.zip l).flatMap λp=>f p.1 p.2),v.oneCell'=true:=λv hv=>by
 obtain⟨p,_,hp⟩:=ZbM.1 hv;exact hf _ _ v hp
structure YI where
 K:Option Addr
 kc:Nat
 H:Option Addr
 hc:Nat
def Y1 (r:YI)(c:ZO):List Value:=[.int .i64 (c.pol:Int),.slice r.K c.key.length r.kc,.int .i64 c.tat,.slice r.H c.held.length r.hc]
theorem XL (r:YI)(c:ZO):(Y1 r c).length=4:=rfl
theorem ZHx (r:YI)(c:ZO):∀v ∈ Y1 r c,v.oneCell'=true:=λv hv=>by
 simp[Y1]at hv;rcases hv with rfl|rfl|rfl|rfl<;>rfl
def Yr (rs:List YI)(l:List ZO):List Value:=(rs.zip l).flatMap λp=>Y1 p.1 p.2
def ZBd (w:World)(r:YI)(c:ZO):Prop:=c.key.length<=r.kc/\Rd w r.K (ZV .u8 c.key)/\c.held.length<=r.hc/\Rd w r.H (Zm c.held)
theorem ZBd.ext {w w':World}{r:YI}{c:ZO}(h:ZBd w r c)(x:ZL w w'):ZBd w' r c:=⟨h.1,h.2.1.ext x,h.2.2.1,h.2.2.2.ext x⟩
def ZAA (w:World)(A:Option Addr)(l:List ZO)(rs:List YI):Prop:=rs.length=l.length/\Rd w A (Yr rs l)/\∀(i:Nat) (r:YI) (c:ZO),rs[i]?=some r->l[i]?=some c->ZBd w r c
theorem ZAA.ext {w w':World}{A:Option Addr}{l:List ZO}{rs:List YI}(h:ZAA w A l rs)(x:ZL w w'):ZAA w' A l rs:=⟨h.1,h.2.1.ext x,λi r c hr hc=>(h.2.2 i r c hr hc).ext x⟩
theorem ZAA.nil (w:World):ZAA w none [] []:=⟨rfl,Rd.nil _ _,λi r c hr=>by simp at hr⟩
theorem ZAA.at_ {w:World}{A:Option Addr}{l:List ZO}{rs:List YI}(h:ZAA w A l rs){i:Nat}{c:ZO}(hi:l[i]?=some c): ∃b off r,A=some ⟨b,off,none⟩/\rs[i]?=some r/\w.cell? ⟨b,off+i*4,none⟩=some (.int .i64 (c.pol:Int))/\w.cell? ⟨b,off+i*4+1,none⟩=some (.slice r.K c.key.length r.kc)/\ w.cell? ⟨b,off+i*4+2,none⟩=some (.int .i64 c.tat)/\w.cell? ⟨b,off+i*4+3,none⟩=some (.slice r.H c.held.length r.hc)/\ZBd w r c:=by
 have hil:=(Za0.1 hi).1;obtain⟨r,hr⟩:∃r,rs[i]?=some r:=⟨_,Zaz (by rw[h.1];exact hil)⟩;have g:=λj (hj:j<4)=>ZFY Y1 4 XL rs l i j r c hr hi hj;obtain⟨b,off,hA,hc⟩:=h.2.1 (λe0=>by have:=g 0 ZB;rw[show((rs.zip l).flatMap λp=>Y1 p.1 p.2)=[]from e0]at this;simp[Y1]at this);refine⟨b,off,r,hA,hr,?_,?_,?_,?_,h.2.2 i r c hr hi⟩
 ·exact hc _ _ (g 0 ZB)
 ·rw[Zbp];exact hc _ _ (g 1 ZB)
 ·rw[Zbp];exact hc _ _ (g 2 ZB)
 ·rw[Zbp];exact hc _ _ (g 3 ZB)
structure Kp (w w':World)(X X':Zdb):Prop where
 blk:∀i,i<w.heap.size->¬X i->w'.heap[i]?=w.heap[i]?
 keep:∀i,i<w.heap.size->X' i->X i
 size:w.heap.size<=w'.heap.size
theorem Kp.trans {w w' w2:World}{X X' X2:Zdb}(h:Kp w w' X X')(k:Kp w' w2 X' X2):Kp w w2 X X2:=⟨λi h1 h2=>(k.blk i (Zb5 h1 h.size) (λe=>h2 (h.keep i h1 e))).trans (h.blk i h1 h2),λi h1 h2=>h.keep i h1 (k.keep i (Zb5 h1 h.size) h2),Zb2 h.size k.size⟩
theorem Kp.of {w w':World}{X X' S:Zdb}(k:GB w w' S)(hs:∀i,i<w.heap.size->S i->X i)(hx:∀i,i<w.heap.size->X' i->X i):Kp w w' X X':=⟨λi h1 h2=>k.block i h1 (λe=>h2 (hs i h1 e)),hx,k.size⟩
theorem Kp.ext {w w':World}(X:Zdb)(h:ZL w w'):Kp w w' X X:=⟨λi h1 _=>h.block i h1,λ_ _ h=>h,h.size⟩
def Fz (w:World)(X:Zdb)(A:Option Addr):Prop:=∀a,A=some a->¬X a.block/\a.block<w.heap.size
theorem Fz.kp {w w':World}{X X':Zdb}{A:Option Addr}(h:Fz w X A)(k:Kp w w' X X'):Fz w' X' A:=λa ha=>⟨λe=>(h a ha).1 (k.keep _ (h a ha).2 e),Zb5 (h a ha).2 k.size⟩
theorem Fz.nil {w:World}{X:Zdb}:Fz w X none:=λa ha=>by cases ha
theorem Kp.rd {w w':World}{X X':Zdb}{A:Option Addr}{vs:List Value}(k:Kp w w' X X')(h:Rd w A vs)(hA:Fz w X A):Rd w' A vs:=λhne=>by
 obtain⟨b,off,e,hc⟩:=h hne;obtain⟨h1,h2⟩:=hA _ e;exact⟨b,off,e,λj u hu=>(ZcQ (k.blk b h2 h1)).trans (hc j u hu)⟩
def Zb (w:World)(X:Zdb)(p:Value)(cs:Array Value):Prop:=∃b t,p=.pointer (some ⟨b,0,none⟩)/\w.heap[b]?=some (.cells cs t (0,0))/\¬X b
theorem Zb.kp {w w':World}{X X':Zdb}{p:Value}{cs:Array Value}(h:Zb w X p cs)(k:Kp w w' X X'):Zb w' X' p cs:=by
 obtain⟨b,t,h1,h2,h3⟩:=h;exact⟨b,t,h1,(k.blk b (ZW h2) h3).trans h2,λe=>h3 (k.keep b (ZW h2) e)⟩
theorem Zb.ext {w w':World}{X:Zdb}{p:Value}{cs:Array Value}(h:Zb w X p cs)(x:ZL w w'):Zb w' X p cs:=h.kp (Kp.ext X x)
theorem Zb.mk {w:World}{X:Zdb}{b:Nat}{t:TypeId}{cs:Array Value}(h:w.heap[b]?=some (.cells cs t (0,0)))(hx:¬X b):Zb w X (.pointer (some ⟨b,0,none⟩)) cs:=⟨b,t,rfl,h,hx⟩
theorem Zb.cell {w:World}{X:Zdb}{b:Nat}{cs:Array Value}(h:Zb w X (.pointer (some ⟨b,0,none⟩)) cs)(i:Nat):w.cell? ⟨b,i,none⟩=cs[i]?:=by
 obtain⟨b',t,h1,h2,h3⟩:=h;injection h1 with h1;injection h1 with h1;injection h1 with h1;subst h1;exact ZE h2 i
theorem Zb.ptr {w:World}{X:Zdb}{p:Value}{cs:Array Value}(h:Zb w X p cs):∃b,p=.pointer (some ⟨b,0,none⟩)/\b<w.heap.size:=by
 obtain⟨b,t,h1,h2,h3⟩:=h;exact⟨b,h1,ZW h2⟩
def YQ (w:World)(X:Zdb)(r:YI)(c:ZO):Prop:=ZBd w r c/\Fz w X r.K/\Fz w X r.H
theorem YQ.kp {w w':World}{X X':Zdb}{r:YI}{c:ZO}(h:YQ w X r c)(k:Kp w w' X X'):YQ w' X' r c:=⟨⟨h.1.1,k.rd h.1.2.1 h.2.1,h.1.2.2.1,k.rd h.1.2.2.2 h.2.2⟩,h.2.1.kp k,h.2.2.kp k⟩
def Zq (w:World)(X:Zdb)(A:Option Addr)(l:List ZO)(rs:List YI):Prop:=ZAA w A l rs/\Fz w X A/\∀r ∈ rs,Fz w X r.K/\Fz w X r.H
theorem Zq.kp {w w':World}{X X':Zdb}{A:Option Addr}{l:List ZO}{rs:List YI}(h:Zq w X A l rs)(k:Kp w w' X X'):Zq w' X' A l rs:=
 ⟨⟨h.1.1,k.rd h.1.2.1 h.2.1,λi r c hr hc=>by
  obtain⟨a1,a2,a3,a4⟩:=h.1.2.2 i r c hr hc;obtain⟨b1,b2⟩:=h.2.2 r (ZbO hr);exact⟨a1,k.rd a2 b1,a3,k.rd a4 b2⟩⟩,h.2.1.kp k,λr hr=>⟨(h.2.2 r hr).1.kp k,(h.2.2 r hr).2.kp k⟩⟩
theorem Zq.nil (w:World)(X:Zdb):Zq w X none [] []:=⟨ZAA.nil w,Fz.nil,λr hr=>by cases hr⟩
theorem Zq.part {w:World}{X:Zdb}{A:Option Addr}{l:List ZO}{rs:List YI}(h:Zq w X A l rs){i:Nat}{r:YI}{c:ZO}(hr:rs[i]?=some r)(hc:l[i]?=some c):YQ w X r c:=⟨h.1.2.2 i r c hr hc,h.2.2 r (ZbO hr)⟩
theorem Zq.ext {w w':World}{X:Zdb}{A:Option Addr}{l:List ZO}{rs:List YI}(h:Zq w X A l rs)(x:ZL w w'):Zq w' X A l rs:=h.kp (Kp.ext X x)
theorem YQ.ext {w w':World}{X:Zdb}{r:YI}{c:ZO}(h:YQ w X r c)(x:ZL w w'):YQ w' X r c:=h.kp (Kp.ext X x)
theorem Zb.ZT2 {w : World} {X : Nat → Prop} {b : Nat} {cs : Array Value} (h : Zb w X (.pointer (some ⟨b, 0, none⟩)) cs) (i : Nat) (v : Value) (e : cs[i]? = some v := by rfl) : w.cell? ⟨b, i, none⟩ = some v := (h.cell i).trans e
abbrev Z1 (f:FuncId)(caps:Array Value):Value:=.func (.func f) #[] caps
abbrev ZH (b:Nat):Value:=.pointer (some ⟨b,0,none⟩)
def ZCY (p:YR):Array Value:=#[.int .u8 (p.kind:Int),.int .i64 p.T,.int .i64 p.Tau,.int .i64 p.perm]
def ZAI (P:List YR):List Value:=P.flatMap λp=>(ZCY p).toList
def ZDx (r:YH):Array Value:=#[.int .i64 (r.er:Int),.bool r.granted,.int .i64 r.left,.int .i64 r.wait,.int .i64 r.ser,.int .i64 r.now]
def ZS8 (done:Bool)(r:YH):Array Value:=#[.bool done,.int .i64 (r.er:Int),.bool r.granted,.int .i64 r.left,.int .i64 r.wait,.int .i64 r.ser,.int .i64 r.now]
def Jc:YH:=⟨0,false,0,0,0,0⟩
abbrev Zz (w:World)(X:Zdb)(p v:Value):Prop:=Zb w X p #[v]
def Jy (w:World)(X:Zdb)(p:Value)(l:List ZO):Prop:=∃A c rs,Zz w X p (.slice A l.length c)/\Zq w X A l rs
def ZCK (w:World)(X:Zdb)(p:Value)(c:ZO):Prop:=∃r,Zb w X p (Y1 r c).toArray/\YQ w X r c
def ZB8 (w:World)(X:Zdb)(p:Value)(f:Yi):Prop:=∃A c rs,Zb w X p #[.int .i64 (f.word:Int),.int .u64 (f.v:Int),.slice A f.cells.length c]/\Zq w X A f.cells rs
theorem Jy.kp {w w':World}{X X':Zdb}{p:Value}{l:List ZO}(h:Jy w X p l)(k:Kp w w' X X'):Jy w' X' p l:=by
 obtain⟨A,c,rs,h1,h2⟩:=h;exact⟨A,c,rs,h1.kp k,h2.kp k⟩
theorem ZCK.kp {w w':World}{X X':Zdb}{p:Value}{l:ZO}(h:ZCK w X p l)(k:Kp w w' X X'):ZCK w' X' p l:=by
 obtain⟨r,h1,h2⟩:=h;exact⟨r,h1.kp k,h2.kp k⟩
theorem ZB8.kp {w w':World}{X X':Zdb}{p:Value}{f:Yi}(h:ZB8 w X p f)(k:Kp w w' X X'):ZB8 w' X' p f:=by
 obtain⟨A,c,rs,h1,h2⟩:=h;exact⟨A,c,rs,h1.kp k,h2.kp k⟩
structure JM where
 gl:Nat
 who:Nat
 xb:Nat
 pol:YR
def Yp (w:World)(X:Zdb)(d:JM)(v:Value)(j shards:Nat):Prop:=∃r0 r1 r2,v=Z1 177 #[r0,r1,r2]/\Zz w X r0 (.int .i64 (j:Int))/\Zz w X r1 (.int .i64 (shards:Int))/\Zz w X r2 (ZH d.xb)
def Xs (w:World)(X:Zdb)(d:JM)(v:Value):ZAN->Prop
 |.begin=>∃q0 q1,v=Z1 190 #[q0,q1]/\Zz w X q0 (ZH d.xb)/\Zb w X q1 (ZCY d.pol)
 |.evict j shards gone=>∃q0 q1 q2 fv,v=Z1 180 #[q0,q1,q2]/\Zz w X q0 fv/\Yp w X d fv j shards/\Zz w X q1 (.int .i64 gone)/\Zz w X q2 (ZH d.xb)
def ZE1:Value:=Z1 130 #[]
def ZAu (w:World)(X:Zdb)(p:Value):Prop:=Zb w X p (ZS8 false Jc)
def Yy (w:World)(X:Zdb)(d:JM)(p q:Value):Prop:=Zz w X p (ZH d.gl)/\Zz w X q (.int .i64 (d.who:Int))
def Xc (w:World)(X:Zdb)(d:JM)(v:Value):JL->Prop
 |.find sum level t=>∃p0 p1 p2 p3 p4 p5 tv,v=Z1 239 #[p0,p1,p2,p3,p4,p5]/\Yy w X d p0 p1/\Zz w X p2 (.int .i64 (level:Int))/\Zz w X p3 (.int .u64 (sum:Int))/\Zz w X p4 tv/\Xs w X d tv t/\ZAu w X p5
 |.move level i=>∃p0 p1 p2 p3 p4 p5,v=Z1 233 #[p0,p1,p2,p3,p4,p5]/\Yy w X d p0 p1/\Zz w X p2 (.int .i64 (level:Int))/\Zz w X p3 (.int .i64 (i:Int))/\Zz w X p4 ZE1/\ZAu w X p5
def Y8 (w:World)(X:Zdb)(d:JM)(v:Value):Xv->Prop
 |.find sum t=>∃p0 p1 p2 p3 p4 tv,v=Z1 240 #[p0,p1,p2,p3,p4]/\Yy w X d p0 p1/\Zz w X p2 (.int .u64 (sum:Int))/\Zz w X p3 tv/\Xs w X d tv t/\ZAu w X p4
 |.move1 level i holds=>∃p0 p1 p2 p3 p4 p5 p6,v=Z1 235 #[p0,p1,p2,p3,p4,p5,p6]/\Yy w X d p0 p1/\Zz w X p2 (.int .i64 (level:Int))/\Zz w X p3 (.int .i64 (i:Int))/\Jy w X p4 holds/\Zz w X p5 ZE1/\ZAu w X p6
 |.move2 level i=>∃p0 p1 p2 p3 p4 p5,v=Z1 236 #[p0,p1,p2,p3,p4,p5]/\Yy w X d p0 p1/\Zz w X p2 (.int .i64 (level:Int))/\Zz w X p3 (.int .i64 (i:Int))/\Zz w X p4 ZE1/\ZAu w X p5
def ZCM (w:World)(X:Zdb)(d:JM)(v:Value)(f:Yi)(c:ZO)(r:YH):Prop:=∃p0 p1 p2 p3 p4 p5,v=Z1 255 #[p0,p1,p2,p3,p4,p5]/\Zz w X p0 (ZH d.xb)/\ZB8 w X p1 f/\Zz w X p2 (.int .i64 (f.at_:Int))/\Zz w X p3 (.bool f.there)/\ZCK w X p4 c/\Zb w X p5 (ZDx r)
def ZE9 (w:World)(X:Zdb)(d:JM)(v:Value)(f:Yi)(c:ZO):Prop:=∃p0 p1 p2 p3 p4 p5,v=Z1 250 #[p0,p1,p2,p3,p4,p5]/\Zb w X p0 (ZCY d.pol)/\ZCK w X p1 c/\Zz w X p2 (ZH d.xb)/\ZB8 w X p3 f/\Zz w X p4 (.int .i64 (f.at_:Int))/\Zz w X p5 (.bool f.there)
def Y2 (w:World)(X:Zdb)(d:JM)(sv tv:Value):ZAe->Prop
 |.leave r=>∃q p iv,sv=.nilFunc/\tv=Z1 245 #[q]/\Zz w X q iv/\iv=Z1 281 #[p]/\Zb w X p (ZDx r)
 |.gone j shards was n=>∃q p0 p1 p2 iv fv,sv=.nilFunc/\tv=Z1 245 #[q]/\Zz w X q iv/\iv=Z1 189 #[p0,p1,p2]/\Zz w X p0 fv/\Yp w X d fv j shards/\Zz w X p1 (.int .i64 was)/\Zz w X p2 (.int .i64 (n:Int))
 |.count f c r=>∃p0 p1 pv,sv=Z1 257 #[]/\tv=Z1 258 #[p0,p1]/\Zz w X p0 (ZH d.xb)/\Zz w X p1 pv/\ZCM w X d pv f c r
 |.serial f c=>∃s0 p0 p1 av,sv=Z1 252 #[s0]/\Zz w X s0 (ZH d.xb)/\tv=Z1 253 #[p0,p1]/\Zz w X p0 (ZH d.xb)/\Zz w X p1 av/\ZE9 w X d av f c
def Ze (w:World)(X:Zdb)(d:JM)(v:Value):YN->Prop
 |.find sum t=>∃p0 p1 p2 p3 tv,v=Z1 237 #[p0,p1,p2,p3]/\Yy w X d p0 p1/\Zz w X p2 (.int .u64 (sum:Int))/\Zz w X p3 tv/\Xs w X d tv t
 |.enter sum word t=>∃p0 p1 p2 p3 p4 tv,v=Z1 276 #[p0,p1,p2,p3,p4]/\Yy w X d p0 p1/\Zz w X p2 (.int .i64 (word:Int))/\Zz w X p3 (.int .u64 (sum:Int))/\Zz w X p4 tv/\Xs w X d tv t
 |.frz word t=>∃p0 p1 p2 p3 tv,v=Z1 272 #[p0,p1,p2,p3]/\Yy w X d p0 p1/\Zz w X p2 (.int .i64 (word:Int))/\Zz w X p3 tv/\Xc w X d tv t
 |.frzS word u holds t=>∃p0 p1 p2 p3 p4 p5 p6 tv,v=Z1 273 #[p0,p1,p2,p3,p4,p5,p6]/\Yy w X d p0 p1/\Zz w X p2 (.int .i64 (word:Int))/\Zz w X p3 (.int .u64 (u:Int))/\Jy w X p4 holds/\Zz w X p5 tv/\Xc w X d tv t/\ZAu w X p6
 |.half level shard holds t=>∃p0 p1 p2 p3 p4 p5 tv,v=Z1 274 #[p0,p1,p2,p3,p4,p5]/\Yy w X d p0 p1/\Zz w X p2 (.int .i64 (ZP level shard:Int))/\Zz w X p3 tv/\Y8 w X d tv t/\Jy w X p4 holds/\Zz w X p5 (.int .i64 (level:Int))
 |.halfS level shard holds t=>∃p0 p1 p2 p3 p4 p5 p6 tv,v=Z1 275 #[p0,p1,p2,p3,p4,p5,p6]/\Yy w X d p0 p1/\Zz w X p2 (.int .i64 (ZP level shard:Int))/\Jy w X p3 holds/\Zz w X p4 (.int .i64 (level:Int))/\Zz w X p5 tv/\Y8 w X d tv t/\∃h,Jy w X p6 h
 |.split=>∃p0 p1 p2,v=Z1 173 #[p0,p1,p2]/\Yy w X d p0 p1/\Zz w X p2 ZE1
 |.splitS u=>∃p0 p1 p2 p3 p4 p5,v=Z1 176 #[p0,p1,p2,p3,p4,p5]/\Yy w X d p0 p1/\Zz w X p2 (.int .u64 (u:Int))/\Zz w X p3 ZE1/\ZAu w X p4/\Zz w X p5 (.int .i64 ((u / 2:Nat):Int))
 |.moveEnd level=>∃p0 p1 p2 p3,v=Z1 231 #[p0,p1,p2,p3]/\Yy w X d p0 p1/\Zz w X p2 (.int .i64 (level:Int))/\Zz w X p3 ZE1
 |.mv word by_ stop t=>∃p0 p1 p2 p3 p4 p5 sv tv,v=Z1 277 #[p0,p1,p2,p3,p4,p5]/\Zz w X p0 (ZH d.xb)/\Zz w X p1 (.int .i64 (word:Int))/\Zz w X p2 (.int .u64 (stop:Int))/\Zz w X p3 sv/\Zz w X p4 (.int .u64 (by_:Int))/\Zz w X p5 tv/\Y2 w X d sv tv t
 |.mvS word by_ stop u t=>∃p0 p1 p2 p3 p4 p5 p6 sv tv,v=Z1 278 #[p0,p1,p2,p3,p4,p5,p6]/\Zz w X p0 (ZH d.xb)/\Zz w X p1 (.int .i64 (word:Int))/\Zz w X p2 (.int .u64 (u:Int))/\Zz w X p3 (.int .u64 (by_:Int))/\Zz w X p4 (.int .u64 (stop:Int))/\Zz w X p5 sv/\Zz w X p6 tv/\Y2 w X d sv tv t
 |.put f c r=>ZCM w X d v f c r
 |.peek c=>∃p0 p1 p2,v=Z1 197 #[p0,p1,p2]/\Zb w X p0 (ZCY d.pol)/\ZCK w X p1 c/\Zz w X p2 (ZH d.xb)
 |.allow f c=>∃p0 p1 p2 p3 p4 p5,v=Z1 247 #[p0,p1,p2,p3,p4,p5]/\Zb w X p0 (ZCY d.pol)/\ZCK w X p1 c/\Zz w X p2 (ZH d.xb)/\ZB8 w X p3 f/\Zz w X p4 (.int .i64 (f.at_:Int))/\Zz w X p5 (.bool f.there)
 |.evFirst=>∃p0,v=Z1 131 #[p0]/\Zz w X p0 (ZH d.xb)
 |.evScan j shards gone word u cells=>∃p0 p1 p2 p3 p4 p5 fv,v=Z1 181 #[p0,p1,p2,p3,p4,p5]/\Zz w X p0 (ZH d.xb)/\Jy w X p1 cells/\Zz w X p2 fv/\Yp w X d fv j shards/\Zz w X p3 (.int .i64 gone)/\Zz w X p4 (.int .i64 (word:Int))/\Zz w X p5 (.int .u64 (u:Int))
 |.evSwap j shards gone word u rest n=>∃p0 p1 p2 p3 p4 p5 p6 fv,v=Z1 187 #[p0,p1,p2,p3,p4,p5,p6]/\Zz w X p0 (ZH d.xb)/\Zz w X p1 (.int .i64 (word:Int))/\Zz w X p2 (.int .u64 (u:Int))/\Jy w X p3 rest/\Zz w X p4 fv/\Yp w X d fv j shards/\Zz w X p5 (.int .i64 gone)/\Zz w X p6 (.int .i64 (n:Int))
theorem Yp.kp {w w':World}{X X':Zdb}{d:JM}{v:Value}{j shards:Nat}(h:Yp w X d v j shards)(k:Kp w w' X X'):Yp w' X' d v j shards:=by
 obtain⟨r0,r1,r2,h0,h1,h2,h3⟩:=h;exact⟨r0,r1,r2,h0,h1.kp k,h2.kp k,h3.kp k⟩
theorem Yy.kp {w w':World}{X X':Zdb}{d:JM}{p q:Value}(h:Yy w X d p q)(k:Kp w w' X X'):Yy w' X' d p q:=⟨h.1.kp k,h.2.kp k⟩
theorem ZAu.kp {w w':World}{X X':Zdb}{p:Value}(h:ZAu w X p)(k:Kp w w' X X'):ZAu w' X' p:=Zb.kp h k
theorem Xs.kp {w w':World}{X X':Zdb}{d:JM}{v:Value}{t:ZAN}(h:Xs w X d v t)(k:Kp w w' X X'):Xs w' X' d v t:=by
 cases t with
 |begin=>obtain⟨q0,q1,h0,h1,h2⟩:=h;exact⟨q0,q1,h0,h1.kp k,h2.kp k⟩
 |evict j shards gone=>obtain⟨q0,q1,q2,fv,h0,h1,h2,h3,h4⟩:=h;exact⟨q0,q1,q2,fv,h0,h1.kp k,h2.kp k,h3.kp k,h4.kp k⟩
theorem Xc.kp {w w':World}{X X':Zdb}{d:JM}{v:Value}{t:JL}(h:Xc w X d v t)(k:Kp w w' X X'):Xc w' X' d v t:=by
 cases t with
 |find sum level t=>obtain⟨p0,p1,p2,p3,p4,p5,tv,h0,h1,h2,h3,h4,h5,h6⟩:=h;exact⟨p0,p1,p2,p3,p4,p5,tv,h0,h1.kp k,h2.kp k,h3.kp k,h4.kp k,h5.kp k,h6.kp k⟩
 |move level i=>obtain⟨p0,p1,p2,p3,p4,p5,h0,h1,h2,h3,h4,h5⟩:=h;exact⟨p0,p1,p2,p3,p4,p5,h0,h1.kp k,h2.kp k,h3.kp k,h4.kp k,h5.kp k⟩
theorem Y8.kp {w w':World}{X X':Zdb}{d:JM}{v:Value}{t:Xv}(h:Y8 w X d v t)(k:Kp w w' X X'):Y8 w' X' d v t:=by
 cases t with
 |find sum t=>obtain⟨p0,p1,p2,p3,p4,tv,h0,h1,h2,h3,h4,h5⟩:=h;exact⟨p0,p1,p2,p3,p4,tv,h0,h1.kp k,h2.kp k,h3.kp k,h4.kp k,h5.kp k⟩
 |move1 level i holds=>obtain⟨p0,p1,p2,p3,p4,p5,p6,h0,h1,h2,h3,h4,h5,h6⟩:=h;exact⟨p0,p1,p2,p3,p4,p5,p6,h0,h1.kp k,h2.kp k,h3.kp k,h4.kp k,h5.kp k,h6.kp k⟩
 |move2 level i=>obtain⟨p0,p1,p2,p3,p4,p5,h0,h1,h2,h3,h4,h5⟩:=h;exact⟨p0,p1,p2,p3,p4,p5,h0,h1.kp k,h2.kp k,h3.kp k,h4.kp k,h5.kp k⟩
theorem ZCM.kp {w w':World}{X X':Zdb}{d:JM}{v:Value}{f:Yi}{c:ZO}{r:YH}(h:ZCM w X d v f c r)(k:Kp w w' X X'):ZCM w' X' d v f c r:=by
 obtain⟨p0,p1,p2,p3,p4,p5,h0,h1,h2,h3,h4,h5,h6⟩:=h;exact⟨p0,p1,p2,p3,p4,p5,h0,h1.kp k,h2.kp k,h3.kp k,h4.kp k,h5.kp k,h6.kp k⟩
theorem ZE9.kp {w w':World}{X X':Zdb}{d:JM}{v:Value}{f:Yi}{c:ZO}(h:ZE9 w X d v f c)(k:Kp w w' X X'):ZE9 w' X' d v f c:=by
 obtain⟨p0,p1,p2,p3,p4,p5,h0,h1,h2,h3,h4,h5,h6⟩:=h;exact⟨p0,p1,p2,p3,p4,p5,h0,h1.kp k,h2.kp k,h3.kp k,h4.kp k,h5.kp k,h6.kp k⟩
theorem Y2.kp {w w':World}{X X':Zdb}{d:JM}{sv tv:Value}{t:ZAe}(h:Y2 w X d sv tv t)(k:Kp w w' X X'):Y2 w' X' d sv tv t:=by
 cases t with
 |leave r=>obtain⟨q,p,iv,h0,h1,h2,h3,h4⟩:=h;exact⟨q,p,iv,h0,h1,h2.kp k,h3,h4.kp k⟩
 |gone j shards was n=>obtain⟨q,p0,p1,p2,iv,fv,h0,h1,h2,h3,h4,h5,h6,h7⟩:=h;exact⟨q,p0,p1,p2,iv,fv,h0,h1,h2.kp k,h3,h4.kp k,h5.kp k,h6.kp k,h7.kp k⟩
 |count f c r=>obtain⟨p0,p1,pv,h0,h1,h2,h3,h4⟩:=h;exact⟨p0,p1,pv,h0,h1,h2.kp k,h3.kp k,h4.kp k⟩
 |serial f c=>obtain⟨s0,p0,p1,av,h0,h1,h2,h3,h4,h5⟩:=h;exact⟨s0,p0,p1,av,h0,h1.kp k,h2,h3.kp k,h4.kp k,h5.kp k⟩
theorem Ze.kp {w w':World}{X X':Zdb}{d:JM}{v:Value}{t:YN}(h:Ze w X d v t)(k:Kp w w' X X'):Ze w' X' d v t:=by
 cases t with
 |find sum t=>obtain⟨p0,p1,p2,p3,tv,h0,h1,h2,h3,h4⟩:=h;exact⟨p0,p1,p2,p3,tv,h0,h1.kp k,h2.kp k,h3.kp k,h4.kp k⟩
 |enter sum word t=>obtain⟨p0,p1,p2,p3,p4,tv,h0,h1,h2,h3,h4,h5⟩:=h;exact⟨p0,p1,p2,p3,p4,tv,h0,h1.kp k,h2.kp k,h3.kp k,h4.kp k,h5.kp k⟩
 |frz word t=>obtain⟨p0,p1,p2,p3,tv,h0,h1,h2,h3,h4⟩:=h;exact⟨p0,p1,p2,p3,tv,h0,h1.kp k,h2.kp k,h3.kp k,h4.kp k⟩
 |frzS word u holds t=>obtain⟨p0,p1,p2,p3,p4,p5,p6,tv,h0,h1,h2,h3,h4,h5,h6,h7⟩:=h;exact⟨p0,p1,p2,p3,p4,p5,p6,tv,h0,h1.kp k,h2.kp k,h3.kp k,h4.kp k,h5.kp k,h6.kp k,h7.kp k⟩
 |half level shard holds t=>obtain⟨p0,p1,p2,p3,p4,p5,tv,h0,h1,h2,h3,h4,h5,h6⟩:=h;exact⟨p0,p1,p2,p3,p4,p5,tv,h0,h1.kp k,h2.kp k,h3.kp k,h4.kp k,h5.kp k,h6.kp k⟩
 |halfS level shard holds t=>obtain⟨p0,p1,p2,p3,p4,p5,p6,tv,h0,h1,h2,h3,h4,h5,h6,h,h7⟩:=h;exact⟨p0,p1,p2,p3,p4,p5,p6,tv,h0,h1.kp k,h2.kp k,h3.kp k,h4.kp k,h5.kp k,h6.kp k,h,h7.kp k⟩
 |split=>obtain⟨p0,p1,p2,h0,h1,h2⟩:=h;exact⟨p0,p1,p2,h0,h1.kp k,h2.kp k⟩
 |splitS u=>obtain⟨p0,p1,p2,p3,p4,p5,h0,h1,h2,h3,h4,h5⟩:=h;exact⟨p0,p1,p2,p3,p4,p5,h0,h1.kp k,h2.kp k,h3.kp k,h4.kp k,h5.kp k⟩
 |moveEnd level=>obtain⟨p0,p1,p2,p3,h0,h1,h2,h3⟩:=h;exact⟨p0,p1,p2,p3,h0,h1.kp k,h2.kp k,h3.kp k⟩
 |mv word by_ stop t=>obtain⟨p0,p1,p2,p3,p4,p5,sv,tv,h0,h1,h2,h3,h4,h5,h6,h7⟩:=h;exact⟨p0,p1,p2,p3,p4,p5,sv,tv,h0,h1.kp k,h2.kp k,h3.kp k,h4.kp k,h5.kp k,h6.kp k,h7.kp k⟩
 |mvS word by_ stop u t=>obtain⟨p0,p1,p2,p3,p4,p5,p6,sv,tv,h0,h1,h2,h3,h4,h5,h6,h7,h8⟩:=h;exact⟨p0,p1,p2,p3,p4,p5,p6,sv,tv,h0,h1.kp k,h2.kp k,h3.kp k,h4.kp k,h5.kp k,h6.kp k,h7.kp k,h8.kp k⟩
 |put f c r=>exact ZCM.kp h k
 |peek c=>obtain⟨p0,p1,p2,h0,h1,h2,h3⟩:=h;exact⟨p0,p1,p2,h0,h1.kp k,h2.kp k,h3.kp k⟩
 |allow f c=>obtain⟨p0,p1,p2,p3,p4,p5,h0,h1,h2,h3,h4,h5,h6⟩:=h;exact⟨p0,p1,p2,p3,p4,p5,h0,h1.kp k,h2.kp k,h3.kp k,h4.kp k,h5.kp k,h6.kp k⟩
 |evFirst=>obtain⟨p0,h0,h1⟩:=h;exact⟨p0,h0,h1.kp k⟩
 |evScan j shards gone word u cells=>obtain⟨p0,p1,p2,p3,p4,p5,fv,h0,h1,h2,h3,h4,h5,h6,h7⟩:=h;exact⟨p0,p1,p2,p3,p4,p5,fv,h0,h1.kp k,h2.kp k,h3.kp k,h4.kp k,h5.kp k,h6.kp k,h7.kp k⟩
 |evSwap j shards gone word u rest n=>obtain⟨p0,p1,p2,p3,p4,p5,p6,fv,h0,h1,h2,h3,h4,h5,h6,h7,h8⟩:=h;exact⟨p0,p1,p2,p3,p4,p5,p6,fv,h0,h1.kp k,h2.kp k,h3.kp k,h4.kp k,h5.kp k,h6.kp k,h7.kp k,h8.kp k⟩
theorem Ze.fn {w:World}{X:Zdb}{d:JM}{v:Value}{t:YN}(h:Ze w X d v t):∃f c,v=Z1 f c:=by
 cases t with
 |find sum t=>obtain⟨p0,p1,p2,p3,tv,h0,_⟩:=h;exact⟨_,_,h0⟩
 |enter sum word t=>obtain⟨p0,p1,p2,p3,p4,tv,h0,_⟩:=h;exact⟨_,_,h0⟩
 |frz word t=>obtain⟨p0,p1,p2,p3,tv,h0,_⟩:=h;exact⟨_,_,h0⟩
 |frzS word u holds t=>obtain⟨p0,p1,p2,p3,p4,p5,p6,tv,h0,_⟩:=h;exact⟨_,_,h0⟩
 |half level shard holds t=>obtain⟨p0,p1,p2,p3,p4,p5,tv,h0,_⟩:=h;exact⟨_,_,h0⟩
 |halfS level shard holds t=>obtain⟨p0,p1,p2,p3,p4,p5,p6,tv,h0,_⟩:=h;exact⟨_,_,h0⟩
 |split=>obtain⟨p0,p1,p2,h0,_⟩:=h;exact⟨_,_,h0⟩
 |splitS u=>obtain⟨p0,p1,p2,p3,p4,p5,h0,_⟩:=h;exact⟨_,_,h0⟩
 |moveEnd level=>obtain⟨p0,p1,p2,p3,h0,_⟩:=h;exact⟨_,_,h0⟩
 |mv word by_ stop t=>obtain⟨p0,p1,p2,p3,p4,p5,sv,tv,h0,_⟩:=h;exact⟨_,_,h0⟩
 |mvS word by_ stop u t=>obtain⟨p0,p1,p2,p3,p4,p5,p6,sv,tv,h0,_⟩:=h;exact⟨_,_,h0⟩
 |put f c r=>obtain⟨p0,p1,p2,p3,p4,p5,h0,_⟩:=h;exact⟨_,_,h0⟩
 |peek c=>obtain⟨p0,p1,p2,h0,_⟩:=h;exact⟨_,_,h0⟩
 |allow f c=>obtain⟨p0,p1,p2,p3,p4,p5,h0,_⟩:=h;exact⟨_,_,h0⟩
 |evFirst=>obtain⟨p0,h0,_⟩:=h;exact⟨_,_,h0⟩
 |evScan j shards gone word u cells=>obtain⟨p0,p1,p2,p3,p4,p5,fv,h0,_⟩:=h;exact⟨_,_,h0⟩
 |evSwap j shards gone word u rest n=>obtain⟨p0,p1,p2,p3,p4,p5,p6,fv,h0,_⟩:=h;exact⟨_,_,h0⟩
theorem ZQP (w:World)(F:Zdb)(g:Nat)(ws:List Nat)(clk:Nat)(L:List Zf)(who:Int)(h:Y7 w F g ws clk L)(hL:L.length<=1000000)(h1:0<=who)(h2:who<64)(hc:(clk:Int)<=9223372036854775807): Calls Tryz.prog 242 #[.pointer (some ⟨g,0,none⟩),.int .i64 who] w λe w'=>e=.returned (.tuple #[.int .i64 (clk:Int),.int .i64 0])/\ZAF w F g ws clk (L++[⟨who,3,0,clk,0,true⟩]) w':=by
 obtain⟨gw,B,n,cb,kk,k1,_⟩:=id h;have b1:=ZE k1 1;have H:=ZA h;clear h k1;go_enter Tryz.func242,Tryz.ntmps242;go_wp2_with fail;refine(ZCu w who 0 1 h1 h2 ZB ZB).mono ?_;rintro e w1 ⟨rfl,rfl⟩;go_wp2_with fail;refine(ZD1 _ F g ws clk L ⟨who,3,0,clk,0,true⟩ H.o hL).mono ?_;rintro e w1 ⟨rfl,hm⟩;have HM:=ZA hm;obtain⟨F',⟨gw',B',n',cb',kk',k1',_⟩,_⟩:=hm;have b1':=ZE k1' 1;clear k1';go_wp2_with fail
 go_ret2
 exact⟨rfl,HM.o⟩
structure YE where
 gx:Nat
 gl:Nat
 gb:Nat
 gm:Nat
 gh:Nat
 PA:Option Addr
 pc:Nat
 P:List YR
 room:Nat
abbrev XO (C O:Zdb):Nat->Prop:=λi=>C i\/O i
def ZKh (gx who:Nat)(x:ZX)(K:Option Addr)(kc:Nat)(res:Bool)(ser:Int):Array Value:=#[.int .u8 (x.op:Int),.int .i64 (x.pol:Int),.slice K x.key.length kc,.int .i64 x.n,ZH gx,.int .i64 (who:Int),.int .u64 (JD x.id:Int),.bool res,.int .i64 ser]
def XAt (w:World)(X:Zdb)(gx who:Nat)(x:ZX)(res:Bool)(ser:Int)(xb:Nat):Prop:=∃t K kc,w.heap[xb]?=some (.cells (ZKh gx who x K kc res ser) t (0,0))/\x.key.length<=kc/\Rd w K (ZV .u8 x.key)/\Fz w X K
theorem XAt.kp {w w':World}{X X':Zdb}{gx who xb:Nat}{x:ZX}{res:Bool}{ser:Int}(h:XAt w X gx who x res ser xb)(k:Kp w w' X X')(hb:w'.heap[xb]?=w.heap[xb]?):XAt w' X' gx who x res ser xb:=by
 obtain⟨t,K,kc,h1,h2,h3,h4⟩:=h;exact⟨t,K,kc,hb.trans h1,h2,k.rd h3 h4,h4.kp k⟩
theorem XAt.ext {w w':World}{X:Zdb}{gx who xb:Nat}{x:ZX}{res:Bool}{ser:Int}(h:XAt w X gx who x res ser xb)(e:ZL w w'):XAt w' X gx who x res ser xb:=by
 have hb:xb<w.heap.size:=by obtain⟨t,K,kc,h1,_⟩:=h;exact ZW h1
 exact h.kp (Kp.ext X e) (e.block xb hb)
abbrev Zi (g:YE)(who xb:Nat)(x:ZX):JM:=⟨g.gl,who,xb,Zk g.P x.pol⟩
def ZE6 (w:World)(X:Zdb)(g:YE)(who xb:Nat)(v:Value):ZBS->Prop
 |.idle=>v=.nilFunc
 |.run x res ser k=>XAt w X g.gx who x res ser xb/\Ze w X (Zi g who xb x) v k
def ZAh:ZBS->Bool
 |.idle=>false
 |.run _ _ _ _=>true
theorem ZE6.kp {w w':World}{X X':Zdb}{g:YE}{who xb:Nat}{v:Value}{c:ZBS}(h:ZE6 w X g who xb v c)(k:Kp w w' X X')(hb:ZAh c=true->w'.heap[xb]?=w.heap[xb]?):ZE6 w' X' g who xb v c:=by
 cases c with
 |idle=>exact h
 |run x res ser t=>exact⟨h.1.kp k (hb rfl),h.2.kp k⟩
structure CoB (w:World)(g:YE)(O C:Zdb)(xb:Nat->Nat)(L:List Zf)(s:YF)(Fm:Zdb)(fs hv:List Value)(tx tl tb th:TypeId):Prop where
 mach:Y7 w Fm g.gm s.ws (s.clk:Int) L
 wsl:s.ws.length=34
 hsl:s.hs.length=34
 bx:w.heap[g.gx]?=some (.cells (Value.slice g.PA g.P.length g.pc::Value.int .u64 (g.room:Int)::ZH g.gl::fs).toArray tx (0,0))
 fsl:fs.length=64
 bl:w.heap[g.gl]?=some (.cells #[ZH g.gb,Z1 39 #[]] tl (0,0))
 bb:w.heap[g.gb]?=some (.cells #[ZH g.gm,.slice (some ⟨g.gh,0,none⟩) 34 34] tb (0,0))
 bh:w.heap[g.gh]?=some (.cells hv.toArray th (0,0))
 hvl:hv.length=34
 holds:∀(i:Nat) (h:List ZO),s.hs[i]?=some h->∃(A:Option Addr) (c:Nat) (rs:List YI),hv[i]?=some (.slice A h.length c)/\Zq w (XO C O) A h rs
 prd:Rd w g.PA (ZAI g.P)
 pfz:Fz w (XO C O) g.PA
 pend:∀(i:Nat) (v:Value),fs[i]?=some v->ZE6 w (XO C O) g i (xb i) v (s.call i)
 mx:¬Fm g.gx
 mh:¬Fm g.gh
 xh:g.gx≠g.gh
 nl:¬XO C O g.gl
 nb:¬XO C O g.gb
 cx:C g.gx
 ch:C g.gh
 cm:∀i,Fm i->C i
 xs:∀i,i<64->ZAh (s.call i)=true->C (xb i)/\¬Fm (xb i)/\xb i≠g.gx/\xb i≠g.gh
 inj:∀i j,i<64->j<64->ZAh (s.call i)=true->ZAh (s.call j)=true->xb i=xb j->i=j
 lt:∀i,C i->i<w.heap.size
 co:∀i,C i->¬O i
 ol:∀i,O i->i<w.heap.size
def YK (w:World)(g:YE)(O C:Zdb)(xb:Nat->Nat)(L:List Zf)(s:YF):Prop:=∃Fm fs hv tx tl tb th,CoB w g O C xb L s Fm fs hv tx tl tb th
def ZBE (w:World)(g:YE)(O C:Zdb)(xb:Nat->Nat)(L:List Zf)(s:YF)(w':World):Prop:=∃C',YK w' g O C' xb L s/\GB w w' C/\∀i,C' i->C i\/w.heap.size<=i
theorem YK.lt {w:World}{g:YE}{O C:Zdb}{xb:Nat->Nat}{L:List Zf}{s:YF}(h:YK w g O C xb L s):∀i,C i->i<w.heap.size:=by
 obtain⟨Fm,fs,hv,tx,tl,tb,th,h⟩:=h;exact h.lt
theorem YK.co {w:World}{g:YE}{O C:Zdb}{xb:Nat->Nat}{L:List Zf}{s:YF}(h:YK w g O C xb L s):∀i,C i->¬O i:=by
 obtain⟨Fm,fs,hv,tx,tl,tb,th,h⟩:=h;exact h.co
theorem ZCL {w:World}{g:YE}{O C:Zdb}{xb:Nat->Nat}{L:List Zf}{s:YF}{Fm:Zdb}{fs hv:List Value}{tx tl tb th:TypeId}(h:CoB w g O C xb L s Fm fs hv tx tl tb th){i:Nat}{v:Value}(hv:fs[i]?=some v):i<64:=by
 have:=(Za0.1 hv).1;have:=h.fsl;omega
theorem YK.far {w w':World}{g:YE}{O O' C S:Zdb}{xb:Nat->Nat}{L:List Zf}{s:YF}(h:YK w g O C xb L s)(k:GB w w' S)(hs:∀i,i<w.heap.size->S i->O i)(ho:∀i,i<w.heap.size->O' i->O i)(hl:∀i,O' i->i<w'.heap.size):YK w' g O' C xb L s:=by
 obtain⟨Fm,fs,hv,tx,tl,tb,th,h⟩:=h;have hS:∀i,C i->¬S i:=λi hi e=>h.co i hi (hs i (h.lt i hi) e);have kp:Kp w w' (XO C O) (XO C O'):=Kp.of k (λi hi e=>.inr (hs i hi e)) (λi hi e=>e.imp id (ho i hi));have nX:∀{b:Nat} {o:Obj},w.heap[b]?=some o->¬XO C O b->¬S b:=λhb hx e=>hx (.inr (hs _ (ZW hb) e))
 exact⟨Fm,fs,hv,tx,tl,tb,th,⟨h.mach.gb k (λi hi=>hS i (h.cm i hi)),h.wsl,h.hsl,k.blk h.bx (hS _ h.cx),h.fsl,k.blk h.bl (nX h.bl h.nl),k.blk h.bb (nX h.bb h.nb),k.blk h.bh (hS _ h.ch),h.hvl,λi l hl=>by obtain⟨A,c,rs,e1,e2⟩:=h.holds i l hl;exact⟨A,c,rs,e1,e2.kp kp⟩,kp.rd h.prd h.pfz,h.pfz.kp kp,
  λi v hv=>(h.pend i v hv).kp kp (λhr=>k.block _ (h.lt _ (h.xs i (ZCL h hv) hr).1) (hS _ (h.xs i (ZCL h hv) hr).1)),
  h.mx,h.mh,h.xh,λe=>h.nl (kp.keep _ (ZW h.bl) e),λe=>h.nb (kp.keep _ (ZW h.bb) e),h.cx,h.ch,h.cm,h.xs,h.inj,λi hi=>Zb5 (h.lt i hi) k.size,λi hi e=>h.co i hi (ho i (h.lt i hi) e),hl⟩⟩
theorem YK.ol {w:World}{g:YE}{O C:Zdb}{xb:Nat->Nat}{L:List Zf}{s:YF}(h:YK w g O C xb L s):∀i,O i->i<w.heap.size:=by
 obtain⟨Fm,fs,hv,tx,tl,tb,th,h⟩:=h;exact h.ol
theorem YK.ext {w w':World}{g:YE}{O C:Zdb}{xb:Nat->Nat}{L:List Zf}{s:YF}(h:YK w g O C xb L s)(x:ZL w w'):YK w' g O C xb L s:=h.far (GB.of_ext (λ_=>False) x) (λ_ _ e=>e.elim) (λ_ _ e=>e) (λi hi=>Zb5 (h.ol i hi) x.size)
theorem ZBE.back {w0 w w1:World}{g:YE}{O C:Zdb}{xb:Nat->Nat}{L:List Zf}{s:YF}(x:ZL w0 w)(h:ZBE w g O C xb L s w1):ZBE w0 g O C xb L s w1:=by
 obtain⟨C',h1,h2,h3⟩:=h;exact⟨C',h1,GB.back x h2,λi hi=>(h3 i hi).imp id (Zb2 x.size)⟩
theorem ZBz {α:Type}{l:List α}{i:Nat}{d:α}(h:i<l.length):l[i]?=some (l.getD i d):=by
 rw[Zau,Zaz h];rfl
theorem YK.swap {w:World}{g:YE}{O C:Zdb}{xb:Nat->Nat}{L:List Zf}{s:YF}(h:YK w g O C xb L s): ∃Fm,Y7 w Fm g.gm s.ws (s.clk:Int) L/\s.ws.length=34/\w.cell? ⟨g.gb,0,none⟩=some (ZH g.gm)/\w.cell? ⟨g.gb,1,none⟩=some (.slice (some ⟨g.gh,0,none⟩) 34 34)/\ (∀i,i<34->∃A c rs,w.cell? ⟨g.gh,i,none⟩=some (.slice A (s.hs.getD i []).length c)/\Zq w (XO C O) A (s.hs.getD i []) rs)/\(∃t cs,w.heap[g.gh]?=some (.cells cs t (0,0)))/\¬Fm g.gb/\¬Fm g.gh/\ (∀L' w',ZAF w Fm g.gm s.ws (s.clk:Int) L' w'->ZBE w g O C xb L' s w')/\ (∀L' w' i v A c l rs,i<34->ZAF w Fm g.gm (s.ws.set i v) (s.clk:Int) L' w'->Zq w (XO C O) A l rs->ZBE w g O C xb L' {s with ws:=s.ws.set i v,hs:=s.hs.set i l} (w'.setCell ⟨g.gh,i,none⟩ (.slice A l.length c)))/\ (∀L' w' (n:Nat),ZAF w Fm g.gm s.ws (n:Int) L' w'->ZBE w g O C xb L' {s with clk:=n} w'):=by
 obtain⟨Fm,fs,hv,tx,tl,tb,th,h⟩:=h;have nFb:¬Fm g.gb:=λe=>h.nb (.inl (h.cm _ e));have nFl:¬Fm g.gl:=λe=>h.nl (.inl (h.cm _ e));have nhb:g.gb≠g.gh:=λe=>h.nb (.inl (e ▸ h.ch));have nhl:g.gl≠g.gh:=λe=>h.nl (.inl (e ▸ h.ch));have core:∀(L':List Zf) (w':World) (ws':List Nat) (n:Nat),ws'.length=34->ZAF w Fm g.gm ws' (n:Int) L' w'->∃Fm' C',CoB w' g O C' xb L' {s with ws:=ws',clk:=n} Fm' fs hv tx tl tb th/\GB w w' C/\(∀i,C' i->C i\/w.heap.size<=i):=λL' w' ws' n hl hgo=>by
  obtain⟨Fm',m,k,f⟩:=hgo;have hnew:∀q,q<w.heap.size->¬Fm q->¬Fm' q:=λq hq h1 e=>(f q e).elim h1 (λf=>by omega);have hz:∀i,(C i\/Fm' i)->C i\/w.heap.size<=i:=λi hi=>hi.elim .inl (λe=>(f i e).imp (h.cm i) id);have kp:Kp w w' (XO C O) (XO (λi=>C i\/Fm' i) O):=Kp.of k (λi _ e=>.inl (h.cm i e)) (λi hi e=>e.imp (λe=>(hz i e).resolve_right ZB) id)
  refine⟨Fm',λi=>C i\/Fm' i,⟨m,hl,h.hsl,k.blk h.bx h.mx,h.fsl,k.blk h.bl nFl,k.blk h.bb nFb,k.blk h.bh h.mh,h.hvl,
   λi l hl=>by obtain⟨A,c,rs,e1,e2⟩:=h.holds i l hl;exact⟨A,c,rs,e1,e2.kp kp⟩,kp.rd h.prd h.pfz,h.pfz.kp kp,
   λi v hv=>(h.pend i v hv).kp kp (λhr=>k.block _ (h.lt _ (h.xs i (ZCL h hv) hr).1) (h.xs i (ZCL h hv) hr).2.1),
   hnew _ (h.lt _ h.cx) h.mx,hnew _ (h.lt _ h.ch) h.mh,h.xh,λe=>h.nl (kp.keep _ (ZW h.bl) e),λe=>h.nb (kp.keep _ (ZW h.bb) e),.inl h.cx,.inl h.ch,λi hi=>.inr hi,
   λi hi hr=>by obtain⟨a1,a2,a3,a4⟩:=h.xs i hi hr;exact⟨.inl a1,hnew _ (h.lt _ a1) a2,a3,a4⟩,h.inj,λi hi=>?_,λi hi e=>?_,λi hi=>Zb5 (h.ol i hi) k.size⟩,k.more (λi _ e=>h.cm i e),hz⟩
  ·exact hi.elim (λe=>Zb5 (h.lt i e) k.size) (λe=>m.lt i e)
  ·have:=h.ol i e;exact h.co i ((hz i hi).resolve_right ZB) e
 refine⟨Fm,h.mach,h.wsl,ZE h.bb 0,ZE h.bb 1,λi hi=>?_,⟨_,_,h.bh⟩,nFb,h.mh,λL' w' hgo=>?_,λL' w' i v A c l rs hi hgo hc=>?_,λL' w' n hgo=>?_⟩
 ·obtain⟨A,c,rs,e1,e2⟩:=h.holds i _ (ZBz (d:=[]) (by rw[h.hsl];exact hi));exact⟨A,c,rs,(ZE h.bh i).trans (by rw[Za7];exact e1),e2⟩
 ·obtain⟨Fm',C',b,k,z⟩:=core L' w' s.ws s.clk h.wsl hgo;exact⟨C',⟨_,_,_,_,_,_,_,b⟩,k,z⟩
 ·obtain⟨Fm',C',b,k,z⟩:=core L' w' (s.ws.set i v) s.clk (by rw[ZbF];exact h.wsl) hgo;have gs:GB w' (w'.setCell ⟨g.gh,i,none⟩ (.slice A l.length c)) (· =g.gh):=(GB.refl w' (· =g.gh)).set g.gh _ _ (.inl rfl);have kp:Kp w' (w'.setCell ⟨g.gh,i,none⟩ (.slice A l.length c)) (XO C' O) (XO C' O):=Kp.of gs (λj _ e=>.inl (e ▸ b.ch)) (λ_ _ e=>e);have kp0:Kp w w' (XO C O) (XO C' O):=Kp.of k (λj _ e=>.inl e) (λj hj e=>e.imp (λe=>(z j e).resolve_right ZB) id)
  refine⟨C',⟨Fm',fs,hv.set i (.slice A l.length c),tx,tl,tb,th,⟨b.mach.gb gs (λj hj e=>b.mh (e ▸ hj)),b.wsl,by rw[ZbF];exact b.hsl,gs.blk b.bx h.xh,b.fsl,gs.blk b.bl nhl,gs.blk b.bb nhb,?_,by rw[ZbF];exact b.hvl,
   λj hh hl=>?_,kp.rd b.prd b.pfz,b.pfz.kp kp,λj v hv=>(b.pend j v hv).kp kp (λhr=>gs.block _ (b.lt _ (b.xs j (ZCL b hv) hr).1) (b.xs j (ZCL b hv) hr).2.2.2),b.mx,b.mh,b.xh,b.nl,b.nb,b.cx,b.ch,b.cm,b.xs,b.inj,λj hj=>by simpa using b.lt j hj,b.co,λj hj=>by simpa using b.ol j hj⟩⟩,k.trans gs (λj e=>.inl (e ▸ h.ch)),z⟩
  ·refine(ZU b.bh i _).trans ?_;rw[Zbc]
  ·by_cases e:i=j
   ·subst e;rw[Za5 (by rw[h.hsl];exact hi)]at hl;injection hl with hl;subst hl;exact⟨A,c,rs,by rw[Za5 (by rw[h.hvl];exact hi)],(hc.kp kp0).kp kp⟩
   ·rw[Za4 e]at hl;obtain⟨A2,c2,rs2,e1,e2⟩:=b.holds j hh hl;exact⟨A2,c2,rs2,by rw[Za4 e];exact e1,e2.kp kp⟩
 ·obtain⟨Fm',C',b,k,z⟩:=core L' w' s.ws n h.wsl hgo;exact⟨C',⟨_,_,_,_,_,_,_,b⟩,k,z⟩
theorem YK.pend {w:World}{g:YE}{O C:Zdb}{xb:Nat->Nat}{L:List Zf}{s:YF}(h:YK w g O C xb L s){who:Nat}(hw:who<64): ∃f,w.cell? ⟨g.gx,3+who,none⟩=some f/\w.frozen? ⟨g.gx,3+who,none⟩=false/\C g.gx/\ZE6 w (XO C O) g who (xb who) f (s.call who)/\ ∀f' c',ZE6 w (XO C O) g who (xb who) f' c'->(ZAh c'=true->ZAh (s.call who)=true)->ZBE w g O C xb L (s.put who c') (w.setCell ⟨g.gx,3+who,none⟩ f'):=by
 obtain⟨Fm,fs,hv,tx,tl,tb,th,h⟩:=h;have hl:=h.fsl;obtain⟨v,hv'⟩:∃v,fs[who]?=some v:=⟨_,Zaz ZB⟩;refine⟨v,(ZE h.bx _).trans (by rw[Za7,Zbq,Zax,Zax,Zax];exact hv'),ZF h.bx _,h.cx,h.pend who v hv',λf' c' hp hrun=>?_⟩;have gs:GB w (w.setCell ⟨g.gx,3+who,none⟩ f') (· =g.gx):=(GB.refl w (· =g.gx)).set g.gx _ _ (.inl rfl);have kp:Kp w (w.setCell ⟨g.gx,3+who,none⟩ f') (XO C O) (XO C O):=Kp.of gs (λj _ e=>.inl (e ▸ h.cx)) (λ_ _ e=>e);have nFx:∀i,Fm i->i≠g.gx:=λi hi e=>h.mx (e ▸ hi);have ngl:g.gl≠g.gx:=λe=>h.nl (.inl (e ▸ h.cx));have ngb:g.gb≠g.gx:=λe=>h.nb (.inl (e ▸ h.cx));have rr:∀i,ZAh ((s.put who c').call i)=true->ZAh (s.call i)=true:=λi hr=>by
  by_cases e:i=who
  ·subst e;rw[YD]at hr;exact hrun hr
  ·rw[YC s c' e]at hr;exact hr
 refine⟨C,⟨Fm,fs.set who f',hv,tx,tl,tb,th,⟨h.mach.gb gs nFx,h.wsl,h.hsl,?_,by rw[ZbF];exact h.fsl,gs.blk h.bl ngl,gs.blk h.bb ngb,gs.blk h.bh (λe=>h.xh e.symm),h.hvl,
  λi l hl=>by obtain⟨A,c,rs,e1,e2⟩:=h.holds i l hl;exact⟨A,c,rs,e1,e2.kp kp⟩,kp.rd h.prd h.pfz,h.pfz.kp kp,λi y hy=>?_,h.mx,h.mh,h.xh,h.nl,h.nb,h.cx,h.ch,h.cm,λi hi hr=>h.xs i hi (rr i hr),λi j hi hj hr hr2=>h.inj i j hi hj (rr i hr) (rr j hr2),λi hi=>by simpa using h.lt i hi,h.co,λj hj=>by simpa using h.ol j hj⟩⟩,(GB.refl w C).set g.gx _ _ (.inl h.cx),λ_ h=>.inl h⟩
 ·refine(ZU h.bx _ _).trans ?_;rw[Zbc,Zbq,Zbd,Zbd,Zbd]
 ·by_cases e:i=who
  ·subst e;rw[Za5 ZB]at hy;injection hy with hy;subst hy;rw[YD];exact hp.kp kp (λhr=>gs.block _ (h.lt _ (h.xs i hw (hrun hr)).1) (h.xs i hw (hrun hr)).2.2.1)
  ·rw[Za4 (λh=>e h.symm)]at hy;rw[YC s c' e];exact(h.pend i y hy).kp kp (λhr=>gs.block _ (h.lt _ (h.xs i (ZCL h (by rw[hy])) hr).1) (h.xs i (ZCL h (by rw[hy])) hr).2.2.1)
theorem YK.setx {w w':World}{g:YE}{O C:Zdb}{xb:Nat->Nat}{L:List Zf}{s:YF}(h:YK w g O C xb L s){who:Nat}(hw:who<64){x:ZX}{res:Bool}{ser:Int}{k:YN}(hc:s.call who=.run x res ser k){res':Bool}{ser':Int}(k9:GB w w' (· =xb who))(hb:∀t K kc,w.heap[xb who]?=some (.cells (ZKh g.gx who x K kc res ser) t (0,0))->w'.heap[xb who]?=some (.cells (ZKh g.gx who x K kc res' ser') t (0,0))): ZBE w g O C xb L (s.put who (.run x res' ser' k)) w':=by
 obtain⟨Fm,fs,hv,tx,tl,tb,th,h⟩:=h;have hrw:ZAh (s.call who)=true:=by rw[hc];rfl
 obtain⟨x1,x2,x3,x4⟩:=h.xs who hw hrw;have kp:Kp w w' (XO C O) (XO C O):=Kp.of k9 (λj _ e=>.inl (e ▸ x1)) (λ_ _ e=>e);have nX:∀{b:Nat},¬XO C O b->b≠xb who:=λhn e=>hn (.inl (e ▸ x1));have rr:∀i,ZAh ((s.put who (.run x res' ser' k)).call i)=true->ZAh (s.call i)=true:=λi hr=>by
  by_cases e:i=who
  ·subst e;exact hrw
  ·rw[YC s _ e]at hr;exact hr
 refine⟨C,⟨Fm,fs,hv,tx,tl,tb,th,⟨h.mach.gb k9 (λi hi e=>x2 (e ▸ hi)),h.wsl,h.hsl,k9.blk h.bx (λe=>x3 e.symm),h.fsl,k9.blk h.bl (nX h.nl),k9.blk h.bb (nX h.nb),k9.blk h.bh (λe=>x4 e.symm),h.hvl,λi l hl=>by obtain⟨A,c,rs,e1,e2⟩:=h.holds i l hl;exact⟨A,c,rs,e1,e2.kp kp⟩,kp.rd h.prd h.pfz,h.pfz.kp kp,λi y hy=>?_,h.mx,h.mh,h.xh,h.nl,h.nb,h.cx,h.ch,h.cm,λi hi hr=>h.xs i hi (rr i hr),λi j hi hj hr hr2=>h.inj i j hi hj (rr i hr) (rr j hr2),λi hi=>Zb5 (h.lt i hi) k9.size,h.co,λj hj=>Zb5 (h.ol j hj) k9.size⟩⟩,k9.more (λi _ e=>e ▸ x1),λ_ h=>.inl h⟩;by_cases e:i=who
 ·subst e;rw[YD];have hp:=h.pend i y hy;rw[hc]at hp;obtain⟨⟨t,K,kc,e1,e2,e3,e4⟩,hk⟩:=hp;exact⟨⟨t,K,kc,hb t K kc e1,e2,kp.rd e3 e4,e4.kp kp⟩,hk.kp kp⟩
 ·rw[YC s _ e];refine(h.pend i y hy).kp kp (λhr=>k9.block _ (h.lt _ (h.xs i (ZCL h hy) hr).1) (λe2=>e (h.inj i who (ZCL h hy) hw hr hrw e2)))
structure ZAy (w:World)(X:Zdb)(g:YE):Prop where
 c0:w.cell? ⟨g.gx,0,none⟩=some (.slice g.PA g.P.length g.pc)
 c1:w.cell? ⟨g.gx,1,none⟩=some (.int .u64 (g.room:Int))
 c2:w.cell? ⟨g.gx,2,none⟩=some (ZH g.gl)
 l0:w.cell? ⟨g.gl,0,none⟩=some (ZH g.gb)
 l1:w.cell? ⟨g.gl,1,none⟩=some (Z1 39 #[])
 b0:w.cell? ⟨g.gb,0,none⟩=some (ZH g.gm)
 prd:Rd w g.PA (ZAI g.P)
 pfz:Fz w X g.PA
theorem ZAy.ext {w w':World}{X:Zdb}{g:YE}(h:ZAy w X g)(x:ZL w w'):ZAy w' X g:=⟨ZG x h.c0,ZG x h.c1,ZG x h.c2,ZG x h.l0,ZG x h.l1,ZG x h.b0,h.prd.ext x,h.pfz.kp (Kp.ext X x)⟩
theorem YK.rd {w:World}{g:YE}{O C:Zdb}{xb:Nat->Nat}{L:List Zf}{s:YF}(h:YK w g O C xb L s):ZAy w (XO C O) g:=by
 obtain⟨Fm,fs,hv,tx,tl,tb,th,h⟩:=h;exact⟨ZE h.bx 0,ZE h.bx 1,ZE h.bx 2,ZE h.bl 0,ZE h.bl 1,ZE h.bb 0,h.prd,h.pfz⟩
theorem YK.xat {w:World}{g:YE}{O C:Zdb}{xb:Nat->Nat}{L:List Zf}{s:YF}(h:YK w g O C xb L s){who:Nat}(hw:who<64){x:ZX}{res:Bool}{ser:Int}{k:YN}(hc:s.call who=.run x res ser k):XAt w (XO C O) g.gx who x res ser (xb who)/\C (xb who):=by
 obtain⟨Fm,fs,hv,tx,tl,tb,th,h⟩:=h;have hl:=h.fsl;obtain⟨v,hv'⟩:∃v,fs[who]?=some v:=⟨_,Zaz ZB⟩;have hp:=h.pend who v hv';rw[hc]at hp;exact⟨hp.1,(h.xs who hw (by rw[hc];rfl)).1⟩
theorem Yf {w:World}{g:Nat}{a0 a1 a2 a3 a4 a5 a6:Value}{t:TypeId}(h:w.heap[g]?=some (.cells #[a0,a1,a2,a3,a4,a5,a6] t (0,0)))(b0 b1 b2 b3 b4 b5 b6:Value): (((((((w.setCell ⟨g,0,none⟩ b0).setCell ⟨g,1,none⟩ b1).setCell ⟨g,2,none⟩ b2).setCell ⟨g,3,none⟩ b3).setCell ⟨g,4,none⟩ b4).setCell ⟨g,5,none⟩ b5).setCell ⟨g,6,none⟩ b6).heap[g]?=some (.cells #[b0,b1,b2,b3,b4,b5,b6] t (0,0)):=by
 have h1:_=some (Obj.cells #[b0,a1,a2,a3,a4,a5,a6] t (0,0)):=ZU h 0 b0;have h2:_=some (Obj.cells #[b0,b1,a2,a3,a4,a5,a6] t (0,0)):=ZU h1 1 b1;have h3:_=some (Obj.cells #[b0,b1,b2,a3,a4,a5,a6] t (0,0)):=ZU h2 2 b2;have h4:_=some (Obj.cells #[b0,b1,b2,b3,a4,a5,a6] t (0,0)):=ZU h3 3 b3;have h5:_=some (Obj.cells #[b0,b1,b2,b3,b4,a5,a6] t (0,0)):=ZU h4 4 b4;have h6:_=some (Obj.cells #[b0,b1,b2,b3,b4,b5,a6] t (0,0)):=ZU h5 5 b5;exact ZU h6 6 b6
theorem ZP3 (w:World)(g:Nat)(b0 b1 b2 b3 b4 b5 b6:Value):w.grownBy (((((((w.setCell ⟨g,0,none⟩ b0).setCell ⟨g,1,none⟩ b1).setCell ⟨g,2,none⟩ b2).setCell ⟨g,3,none⟩ b3).setCell ⟨g,4,none⟩ b4).setCell ⟨g,5,none⟩ b5).setCell ⟨g,6,none⟩ b6) (some g):=by
 have h0:=Zc w g 0 b0;have h1:=ZT h0 1 b1;have h2:=ZT h1 2 b2;have h3:=ZT h2 3 b3;have h4:=ZT h3 4 b4;have h5:=ZT h4 5 b5;exact ZT h5 6 b6
theorem ZTl {w w2:World}{g:Nat}(h:ZL w w2)(hg:w.heap.size<=g)(b0 b1 b2 b3 b4 b5 b6:Value):ZL w (((((((w2.setCell ⟨g,0,none⟩ b0).setCell ⟨g,1,none⟩ b1).setCell ⟨g,2,none⟩ b2).setCell ⟨g,3,none⟩ b3).setCell ⟨g,4,none⟩ b4).setCell ⟨g,5,none⟩ b5).setCell ⟨g,6,none⟩ b6):=Ya h (ZP3 w2 g b0 b1 b2 b3 b4 b5 b6) hg
theorem ZTe {w:World}{p:Addr}{v:Value}{g:Nat}{b0 b1 b2 b3 b4 b5 b6:Value}(h:w.cell? p=some v)(hne:p.block≠g):(((((((w.setCell ⟨g,0,none⟩ b0).setCell ⟨g,1,none⟩ b1).setCell ⟨g,2,none⟩ b2).setCell ⟨g,3,none⟩ b3).setCell ⟨g,4,none⟩ b4).setCell ⟨g,5,none⟩ b5).setCell ⟨g,6,none⟩ b6).cell? p=some v:=by
 have h0:=ZZ (g:=g) (i:=0) (u:=b0) h hne;have h1:=ZZ (g:=g) (i:=1) (u:=b1) h0 hne;have h2:=ZZ (g:=g) (i:=2) (u:=b2) h1 hne;have h3:=ZZ (g:=g) (i:=3) (u:=b3) h2 hne;have h4:=ZZ (g:=g) (i:=4) (u:=b4) h3 hne;have h5:=ZZ (g:=g) (i:=5) (u:=b5) h4 hne;exact ZZ (g:=g) (i:=6) (u:=b6) h5 hne
theorem ZSa (v:Value)(w:World):Calls Tryz.prog 133 #[v] w λe w'=>e=.returned (.tuple #[v,.agg #[.bool false,.int .i64 0,.bool false,.int .i64 0,.int .i64 0,.int .i64 0,.int .i64 0]])/\ZL w w':=by
 go_enter Tryz.func133,Tryz.ntmps133;go_wp2_with fail;refine ZcY (ZQ (p:=3) (u:=2) rfl _ _ w.heap.size _ #[.bool false,.int .i64 0,.bool false,.int .i64 0,.int .i64 0,.int .i64 0,.int .i64 0] (0,0) _ rfl (ZM w _) Tryz.underlying41 ZTw ZC) rfl ?_;exact⟨rfl,(ZL.refl w).alloc _⟩
theorem ZRg (er:Int)(gr:Bool)(l wt sr nw:Int)(w:World):Calls Tryz.prog 178 #[.agg #[.int .i64 er,.bool gr,.int .i64 l,.int .i64 wt,.int .i64 sr,.int .i64 nw]] w λe w'=>e=.returned (.tuple #[.nilFunc,.agg #[.bool true,.int .i64 er,.bool gr,.int .i64 l,.int .i64 wt,.int .i64 sr,.int .i64 nw]])/\ZL w w':=by
 go_enter Tryz.func178,Tryz.ntmps178;go_wp2_with fail;go_region;go_wp2_with fail;refine ZcY (ZQ (p:=3) (u:=2) rfl _ _ (w.heap.size+1) _ #[.bool true,.int .i64 er,.bool gr,.int .i64 l,.int .i64 wt,.int .i64 sr,.int .i64 nw] (0,0) _ rfl (Zd _ _ ZTv) Tryz.underlying41 ZTw ZC) rfl ?_;exact⟨rfl,(((ZL.refl w).alloc _).alloc _).drew⟩
theorem ZT4 {p : Prop} (h : p := by with_reducible first | assumption | (refine ZK ?_; assumption) | (refine ZI ?_ _; assumption) | (refine ZK (ZI ?_ _); assumption) | (refine ZTe ?_ ?_ <;> assumption) | (refine ZK (ZTe ?_ ?_) <;> assumption)) : p := h
def ClR (P:World->Value->Prop)(w:World)(e:Ending)(w':World):Prop:=∃v,e=.returned v/\P w' v/\ZL w w'
def Z0 (w:World)(X:Zdb):Prop:=∀i,X i->i<w.heap.size
theorem Z0.not {w:World}{X:Zdb}(h:Z0 w X){k:Nat}(hk:w.heap.size<=k):¬X k:=λe=>by have:=h k e;omega
theorem Z0.ext {w w':World}{X:Zdb}(h:Z0 w X)(x:ZL w w'):Z0 w' X:=λi hi=>Zb5 (h i hi) x.size
theorem Zb.new {w:World}{X:Zdb}{k:Nat}{t:TypeId}{cs:Array Value}(hk:k=w.heap.size)(hx:¬X k):Zb (w.alloc (.cells cs t (0,0))) X (.pointer (some ⟨k,0,none⟩)) cs:=by
 subst hk;exact⟨_,t,rfl,ZM w _,hx⟩
theorem Zb.past {w:World}{X:Zdb}{p:Value}{cs:Array Value}(h:Zb w X p cs)(o:Obj):Zb (w.alloc o) X p cs:=h.ext ((ZL.refl w).alloc o)
theorem Xs.ext {w w':World}{X:Zdb}{d:JM}{v:Value}{t:ZAN}(h:Xs w X d v t)(x:ZL w w'):Xs w' X d v t:=h.kp (Kp.ext X x)
theorem Xc.ext {w w':World}{X:Zdb}{d:JM}{v:Value}{t:JL}(h:Xc w X d v t)(x:ZL w w'):Xc w' X d v t:=h.kp (Kp.ext X x)
theorem Y8.ext {w w':World}{X:Zdb}{d:JM}{v:Value}{t:Xv}(h:Y8 w X d v t)(x:ZL w w'):Y8 w' X d v t:=h.kp (Kp.ext X x)
theorem Y2.ext {w w':World}{X:Zdb}{d:JM}{sv tv:Value}{t:ZAe}(h:Y2 w X d sv tv t)(x:ZL w w'):Y2 w' X d sv tv t:=h.kp (Kp.ext X x)
theorem ZCM.ext {w w':World}{X:Zdb}{d:JM}{v:Value}{f:Yi}{c:ZO}{r:YH}(h:ZCM w X d v f c r)(x:ZL w w'):ZCM w' X d v f c r:=h.kp (Kp.ext X x)
theorem Yp.ext {w w':World}{X:Zdb}{d:JM}{v:Value}{j s:Nat}(h:Yp w X d v j s)(x:ZL w w'):Yp w' X d v j s:=h.kp (Kp.ext X x)
theorem Ze.ext {w w':World}{X:Zdb}{d:JM}{v:Value}{t:YN}(h:Ze w X d v t)(x:ZL w w'):Ze w' X d v t:=h.kp (Kp.ext X x)
theorem Xs.fn {w:World}{X:Zdb}{d:JM}{v:Value}{t:ZAN}(h:Xs w X d v t):∃f c,v=Z1 f c:=by
 cases t with
 |begin=>obtain⟨_,_,h0,_⟩:=h;exact⟨_,_,h0⟩
 |evict j s g=>obtain⟨_,_,_,_,h0,_⟩:=h;exact⟨_,_,h0⟩
theorem Xc.fn {w:World}{X:Zdb}{d:JM}{v:Value}{t:JL}(h:Xc w X d v t):∃f c,v=Z1 f c:=by
 cases t with
 |find s l t=>obtain⟨_,_,_,_,_,_,_,h0,_⟩:=h;exact⟨_,_,h0⟩
 |move l i=>obtain⟨_,_,_,_,_,_,h0,_⟩:=h;exact⟨_,_,h0⟩
theorem Y8.fn {w:World}{X:Zdb}{d:JM}{v:Value}{t:Xv}(h:Y8 w X d v t):∃f c,v=Z1 f c:=by
 cases t with
 |find s t=>obtain⟨_,_,_,_,_,_,h0,_⟩:=h;exact⟨_,_,h0⟩
 |move1 l i hs=>obtain⟨_,_,_,_,_,_,_,h0,_⟩:=h;exact⟨_,_,h0⟩
 |move2 l i=>obtain⟨_,_,_,_,_,_,h0,_⟩:=h;exact⟨_,_,h0⟩
theorem Y2.fn {w:World}{X:Zdb}{d:JM}{sv tv:Value}{t:ZAe}(h:Y2 w X d sv tv t):∃f c,tv=Z1 f c:=by
 cases t with
 |leave r=>obtain⟨_,_,_,_,h0,_⟩:=h;exact⟨_,_,h0⟩
 |gone j s g n=>obtain⟨_,_,_,_,_,_,_,h0,_⟩:=h;exact⟨_,_,h0⟩
 |count f c r=>obtain⟨_,_,_,_,h0,_⟩:=h;exact⟨_,_,h0⟩
 |serial f c=>obtain⟨_,_,_,_,_,_,h0,_⟩:=h;exact⟨_,_,h0⟩
theorem ZEc (w:World)(X:Zdb)(d:JM)(sum:Nat)(tv:Value)(t:ZAN)(hX:Z0 w X)(h:Xs w X d tv t): Calls Tryz.prog 179 #[ZH d.gl,.int .i64 (d.who:Int),.int .u64 (sum:Int),tv] w (ClR (λw' v=>Ze w' X d v (.find sum t)) w):=by
 have hmf:=Jg;obtain⟨f,c,rfl⟩:=h.fn;have H:=ZA h;clear h;go_enter Tryz.func179,Tryz.ntmps179;go_wp2_with fail;go_ret;refine⟨_,rfl,⟨_,_,_,_,_,rfl,⟨(((Zb.new rfl (hX.not ZB)).past _).past _).past _,((Zb.new ZTv (hX.not ZB)).past _).past _⟩,(Zb.new ZTv (hX.not ZB)).past _,Zb.new ZTv (hX.not ZB),H.o.ext (((((ZL.refl w).alloc _).alloc _).alloc _).alloc _)⟩,((((ZL.refl w).alloc _).alloc _).alloc _).alloc _⟩
theorem ZMy (S m:Nat)(hS:S<18446744073709551616)(hm:m<=4):bits .and .i64 (wrap64 (S:Int)) ((2 ^ m - 1:Nat):Int)=((S % 2 ^ m:Nat):Int):=by
 have hk:2 ^ m - 1<16:=by
  have:m=0\/m=1\/m=2\/m=3\/m=4:=by omega
  rcases this with rfl|rfl|rfl|rfl|rfl<;>omega
 have h1:(BitVec.ofInt 64 (wrap64 (S:Int))).toNat=S:=by
  rw[BitVec.toNat_ofInt];unfold wrap64;omega
 have h2:(BitVec.ofInt 64 ((2 ^ m - 1:Nat):Int)).toNat=2 ^ m - 1:=by
  rw[BitVec.toNat_ofInt];omega
 have h3:S % 2 ^ m<16:=by
  have:=ZcA S (Nat.two_pow_pos m);omega
 show IntKind.i64.wrap ((BitVec.ofInt 64 (wrap64 (S:Int))&&& BitVec.ofInt 64 ((2 ^ m - 1:Nat):Int)).toNat:Int)=_;rw[BitVec.toNat_and,h1,h2,Zbx,Zaa];omega
theorem ZNN (S m:Nat){a k:Int}(hS:S<18446744073709551616)(hm:m<=4)(ha:a=((2 ^ m:Nat):Int))(hk:k=((2 ^ m - 1:Nat):Int)):wrap64 (a+bits .and .i64 (wrap64 (S:Int)) k)=((ZP m S:Nat):Int):=by
 have h3:S % 2 ^ m<16/\2 ^ m<=16:=by
  have h:=ZcA S (Nat.two_pow_pos m);have:m=0\/m=1\/m=2\/m=3\/m=4:=by omega
  rcases this with rfl|rfl|rfl|rfl|rfl<;>omega
 rw[ha,hk,ZMy S m hS hm];unfold wrap64 ZP;omega
theorem ZBv (level sum:Nat)(w:World)(hl:level<=4)(hs:sum<18446744073709551616): Calls Tryz.prog 81 #[.int .i64 (level:Int),.int .u64 (sum:Int)] w λe w'=>e=.returned (.int .i64 (ZP level sum:Int))/\w=w':=by
 have e:=ZMy sum level hs hl;have:level=0\/level=1\/level=2\/level=3\/level=4:=by omega
 rcases this with rfl|rfl|rfl|rfl|rfl
 all_goals
  go_enter Tryz.func81,Tryz.ntmps81;go_wp2_with fail;go_ret;exact⟨ZcZ (λq=>Ending.returned (Value.int .i64 q)) (ZNN sum _ hs ZB rfl rfl),rfl⟩
theorem ZHT (level sum:Nat)(hl:level<=4):1<=ZP level sum/\ZP level sum<32:=by
 unfold ZP;have h:=ZcA sum (Nat.two_pow_pos level);have:level=0\/level=1\/level=2\/level=3\/level=4:=by omega
 rcases this with rfl|rfl|rfl|rfl|rfl<;>omega
theorem ZGH (w:World)(X:Zdb)(d:JM)(sum word:Nat)(tv:Value)(t:ZAN)(hX:Z0 w X)(h:Xs w X d tv t): Calls Tryz.prog 238 #[ZH d.gl,.int .i64 (d.who:Int),.int .u64 (sum:Int),.int .i64 (word:Int),tv] w (ClR (λw' v=>Ze w' X d v (.enter sum word t)) w):=by
 have hmf:=Jg;obtain⟨f,c,rfl⟩:=h.fn;have H:=ZA h;clear h;go_enter Tryz.func238,Tryz.ntmps238;go_wp2_with fail;go_ret;exact⟨_,rfl,⟨_,_,_,_,_,_,rfl,⟨(((((Zb.new rfl (hX.not ZB)).past _).past _).past _).past _),((((Zb.new ZTv (hX.not ZB)).past _).past _).past _)⟩,((Zb.new ZTv (hX.not ZB)).past _),(((Zb.new ZTv (hX.not ZB)).past _).past _),(Zb.new ZTv (hX.not ZB)),H.o.ext ((((((ZL.refl w).alloc _).alloc _).alloc _).alloc _).alloc _)⟩,((((((ZL.refl w).alloc _).alloc _).alloc _).alloc _).alloc _)⟩
theorem ZCb (w:World)(X:Zdb)(d:JM)(word:Nat)(tv:Value)(t:JL)(hX:Z0 w X)(h:Xc w X d tv t): Calls Tryz.prog 232 #[ZH d.gl,.int .i64 (d.who:Int),.int .i64 (word:Int),tv] w (ClR (λw' v=>Ze w' X d v (.frz word t)) w):=by
 have hmf:=Jg;obtain⟨f,c,rfl⟩:=h.fn;have H:=ZA h;clear h;go_enter Tryz.func232,Tryz.ntmps232;go_wp2_with fail;go_ret;exact⟨_,rfl,⟨_,_,_,_,_,rfl,⟨((((Zb.new rfl (hX.not ZB)).past _).past _).past _),(((Zb.new ZTv (hX.not ZB)).past _).past _)⟩,((Zb.new ZTv (hX.not ZB)).past _),(Zb.new ZTv (hX.not ZB)),H.o.ext (((((ZL.refl w).alloc _).alloc _).alloc _).alloc _)⟩,(((((ZL.refl w).alloc _).alloc _).alloc _).alloc _)⟩
theorem ZGF (w:World)(X:Zdb)(d:JM)(hX:Z0 w X): Calls Tryz.prog 129 #[ZH d.gl,.int .i64 (d.who:Int),Z1 130 #[]] w (ClR (λw' v=>Ze w' X d v .split) w):=by
 have hmf:=Jg;go_enter Tryz.func129,Tryz.ntmps129;go_wp2_with fail;go_ret;exact⟨_,rfl,⟨_,_,_,rfl,⟨(((Zb.new rfl (hX.not ZB)).past _).past _),((Zb.new ZTv (hX.not ZB)).past _)⟩,(Zb.new ZTv (hX.not ZB))⟩,((((ZL.refl w).alloc _).alloc _).alloc _)⟩
theorem ZEb (w:World)(X:Zdb)(d:JM)(level shard n c:Nat)(A:Option Addr)(holds:List ZO)(rs:List YI)(tv:Value)(t:Xv)(hX:Z0 w X)(h:Y8 w X d tv t)(hl:level<=4)(hs:shard<18446744073709551616)(hn:holds.length=n)(hC:Zq w X A holds rs): Calls Tryz.prog 234 #[ZH d.gl,.int .i64 (d.who:Int),.int .i64 (level:Int),.int .u64 (shard:Int),.slice A n c,tv] w (ClR (λw' v=>Ze w' X d v (.half level shard holds t)) w):=by
 have hmf:=Jg;have PL:=ZA (λw=>ZBv level shard w hl hs);obtain⟨f,cc,rfl⟩:=h.fn;have H:=ZA h;have HC:=ZA hC;subst hn;obtain⟨pl,hp⟩:=ZTy (ZP level shard);rw[hp.out]at PL;clear h hC;go_enter Tryz.func234,Tryz.ntmps234;go_wp2_with fail;refine(PL.out _).mono ?_;rintro e w1 ⟨rfl,rfl⟩;go_wp2_with fail;go_ret;refine⟨_,rfl,⟨_,_,_,_,_,_,_,rfl,⟨((((((Zb.new rfl (hX.not ZB)).past _).past _).past _).past _).past _),(((((Zb.new ZTv (hX.not ZB)).past _).past _).past _).past _)⟩,?_,((Zb.new ZTv (hX.not ZB)).past _),H.o.ext (((((((ZL.refl w).alloc _).alloc _).alloc _).alloc _).alloc _).alloc _),⟨A,c,rs,(((Zb.new ZTv (hX.not ZB)).past _).past _),HC.o.ext (((((((ZL.refl w).alloc _).alloc _).alloc _).alloc _).alloc _).alloc _)⟩,((((Zb.new ZTv (hX.not ZB)).past _).past _).past _)⟩,(((((((ZL.refl w).alloc _).alloc _).alloc _).alloc _).alloc _).alloc _)⟩;rw[hp.out];exact(Zb.new ZTv (hX.not ZB))
theorem Zb.drew {w:World}{X:Zdb}{p:Value}{cs:Array Value}(h:Zb w X p cs):Zb w.drew X p cs:=h
theorem ZF3 {level:Nat}(hl:level<=3):2 ^ level<=8:=by
 have:level=0\/level=1\/level=2\/level=3:=by omega
 rcases this with rfl|rfl|rfl|rfl<;>omega
theorem ZF2 {level:Nat}(hl:level<=4):wrap64 (2 ^ level)=((2 ^ level:Nat):Int):=by
 have:level=0\/level=1\/level=2\/level=3\/level=4:=by omega
 rcases this with rfl|rfl|rfl|rfl|rfl<;>(rw[IntWalk.wrap64_in _ (by decide)];rfl)
theorem ZSW {level i:Nat}(hl:level<=4)(h:i=2 ^ level):((i:Int)==wrap64 (2 ^ level))=true:=by
 rw[ZF2 hl,h,ZcX]
theorem ZSV {level i:Nat}(hl:level<=4)(h:i≠2 ^ level):((i:Int)==wrap64 (2 ^ level))=false:=by
 rw[ZF2 hl,ZcW];omega
theorem ZEa (w:World)(X:Zdb)(d:JM)(level i:Nat)(hX:Z0 w X)(hl:level<=3)(hi:i<=2 ^ level): Calls Tryz.prog 175 #[ZH d.gl,.int .i64 (d.who:Int),.int .i64 (level:Int),.int .i64 (i:Int),Z1 130 #[]] w (ClR (λw' v=>Ze w' X d v (Xi level i)) w):=by
 have hmf:=Jg;have hp8:=ZF3 hl;by_cases he:i=2 ^ level
 ·have hb:=ZSW ZB he;unfold Xi;rw[Zcg he];clear hp8 hi he;go_enter Tryz.func175,Tryz.ntmps175;go_wp2_with fail;go_region;go_wp2_with fail;go_ret;exact⟨_,rfl,⟨_,_,_,_,rfl,⟨(((((((Zb.new rfl (hX.not ZB)).past _).past _).past _).past _).past _)).drew,((((((Zb.new ZTv (hX.not ZB)).past _).past _).past _).past _)).drew⟩,(((((Zb.new ZTv (hX.not ZB)).past _).past _).past _)).drew,(((Zb.new ZTv (hX.not ZB)).past _)).drew⟩,((((((((ZL.refl w).alloc _).alloc _).alloc _).alloc _).alloc _).alloc _)).drew⟩
 ·unfold Xi;rw[Zcf he];have hi8:i<8:=by omega
  have hs:i<18446744073709551616:=by omega
  have PL:=ZA (λw=>ZBv level i w ZB hs);obtain⟨pl,hp⟩:=ZTy (ZP level i);rw[hp.out]at PL ⊢;have hcv:IntKind.u64.wrap (i:Int)=(i:Int):=by rw[Zab];omega
  obtain⟨W,hW⟩:=ZTz (((((((w.alloc (.cells #[ZH d.gl] 135)).alloc (.cells #[.int .i64 (d.who:Int)] 3)).alloc (.cells #[.int .i64 (level:Int)] 3)).alloc (.cells #[.int .i64 (i:Int)] 3)).alloc (.cells #[Z1 130 #[]] 252)).alloc ZUA).drew);have r0:Zb W X (ZH w.heap.size) #[ZH d.gl]:=by rw[<-hW];exact(((((((Zb.new rfl (hX.not ZB)).past _).past _).past _).past _).past _)).drew
  have r1:Zb W X (ZH (w.heap.size+1)) #[.int .i64 (d.who:Int)]:=by rw[<-hW];exact((((((Zb.new ZTv (hX.not ZB)).past _).past _).past _).past _)).drew
  have r2:Zb W X (ZH (w.heap.size+1+1)) #[.int .i64 (level:Int)]:=by rw[<-hW];exact(((((Zb.new ZTv (hX.not ZB)).past _).past _).past _)).drew
  have r3:Zb W X (ZH (w.heap.size+1+1+1)) #[.int .i64 (i:Int)]:=by rw[<-hW];exact((((Zb.new ZTv (hX.not ZB)).past _).past _)).drew
  have r4:Zb W X (ZH (w.heap.size+1+1+1+1)) #[Z1 130 #[]]:=by rw[<-hW];exact(((Zb.new ZTv (hX.not ZB)).past _)).drew
  have r5:Zb W X (ZH (w.heap.size+1+1+1+1+1)) (ZS8 false Jc):=by rw[<-hW];exact((Zb.new ZTv (hX.not ZB))).drew
  have xW:ZL w W:=by rw[<-hW];exact((((((((ZL.refl w).alloc _).alloc _).alloc _).alloc _).alloc _).alloc _)).drew
  have d0:=r0.ZT2 0 (ZH d.gl);have d1:=r1.ZT2 0 (.int .i64 (d.who:Int));have d2:=r2.ZT2 0 (.int .i64 (level:Int));have d3:=r3.ZT2 0 (.int .i64 (i:Int));have FT:Xc W X d (Z1 233 #[ZH w.heap.size,ZH (w.heap.size+1),ZH (w.heap.size+1+1),ZH (w.heap.size+1+1+1),ZH (w.heap.size+1+1+1+1),ZH (w.heap.size+1+1+1+1+1)]) (.move level i):=⟨_,_,_,_,_,_,rfl,⟨r0,r1⟩,r2,r3,r4,r5⟩;have FZ:=ZA (ZCb W.drew X d pl _ _ (hX.ext (xW.trans (ZL.refl W).drew)) (FT.ext (ZL.refl W).drew));have XW:=ZA xW;have hb:=ZSV ZB he;clear r0 r1 r2 r3 r4 r5 FT xW hp8 hi he hX;go_enter Tryz.func175,Tryz.ntmps175;go_upto_region 2 with fail;go_region;go_upto_region 4 with fail
  (try rw[hW])
  clear hW
  go_region_held3 (λw'=>w'.cell? ⟨w.heap.size,0,none⟩=some (ZH d.gl)/\w'.cell? ⟨w.heap.size+1,0,none⟩=some (.int .i64 (d.who:Int))/\w'.cell? ⟨w.heap.size+1+1,0,none⟩=some (.int .i64 (level:Int))/\w'.cell? ⟨w.heap.size+1+1+1,0,none⟩=some (.int .i64 (i:Int))) (((try go_split_ands);refine⟨?_,?_,?_,?_⟩<;>first|assumption|with_reducible first|exact ZK d0|exact td0|exact ZK td0|exact ZI td0 _|exact ZK (ZI d0 _)|exact ZK d1|exact td1|exact ZK td1|exact ZI td1 _|exact ZK (ZI d1 _)|exact ZK d2|exact td2|exact ZK td2|exact ZI td2 _|exact ZK (ZI d2 _)|exact ZK d3|exact td3|exact ZK td3|exact ZI td3 _|exact ZK (ZI d3 _)))
   (first
    |(go_at_call 81;(with_reducible refine(PL.out _).mono ?_);rintro e w1 ⟨rfl,rfl⟩)
    |(go_at_call 232;(with_reducible refine FZ.o.mono ?_);rintro e w2 ⟨v,rfl,hk,hx⟩;have HK:=ZA hk;have HX:=ZA hx;have td0:=ZG ((ZL.refl W).drew.trans hx) d0;have td1:=ZG ((ZL.refl W).drew.trans hx) d1;have td2:=ZG ((ZL.refl W).drew.trans hx) d2;have td3:=ZG ((ZL.refl W).drew.trans hx) d3;clear hk hx))
  all_goals
   go_wp2_with fail;go_ret;exact⟨_,rfl,HK.o,XW.o.trans ((ZL.refl W).drew.trans HX.o)⟩
end Go.Proofs.YtloidkmphigbdaaGreat
