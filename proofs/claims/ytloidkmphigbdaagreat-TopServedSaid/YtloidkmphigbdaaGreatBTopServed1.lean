import Derived.Lib.Hide
import Derived.Maps.AppendAt
import Derived.Lib.Bytealg
import Derived.Test.YtloidkmphigbdaaGreatProg
import Derived.BigQuiet
import Derived.WalkLawsBesides
import Derived.Deep.RegionHeld3
import Derived.Deep.DeepCutAuto
import Derived.Deep.RegionLaw
import Derived.Deep.DeepMust
import Derived.Deep.OwnRows
import Derived.Laws.EntriesVeiled
namespace Go.Proofs.YtloidkmphigbdaaGreat
open Tryz
set_option linter.all false
set_option maxHeartbeats 40000000
set_option maxRecDepth 100000
open Go.RowKit
theorem QA:True∧True∧True∧True∧True∧True∧True∧True∧True∧True∧True∧True∧True∧True∧True∧True∧True∧True∧True∧True∧True∧True∧True∧True∧True∧True∧True∧True∧True∧True∧True∧True∧True∧True∧True∧True∧True∧True∧True∧True∧True∧True∧True∧True∧True:=by simp only[and_self]
variable {p:Addr}{res:Bool}{clk ki ser:Int}{xs:List Int}{key ws:List Nat}{vs:List Value}{N base c cb g gx i j k m n pol room size who:Nat}{xb:Nat->Nat}{A B:Option Addr}{row:Option Nat}{e t ty:TypeId}{a0 a1 a2 a3 a4 a5 a6 sv tv v y:Value}{W a b w w' w0 w2:World}
def Ze0 := @List.getElem?_append_left
def Ze1 := @List.getElem?_append_right
def Ze2 := @List.getElem?_cons_succ
def Ze3 := @List.getElem?_drop
def Ze4 := @List.getElem?_eq_getElem
def Ze5 := @List.getElem?_eq_some_iff
def Ze6 := @List.getElem?_map
def Ze7 := @List.getElem?_of_mem
def Ze9 := @List.getElem?_set_ne
def ZeS := @Addr.add_lit
def ZeT := @Array.getElem?_eq_some_iff
def ZeZ := @Bool.false_ne_true
def Zeb := @Int.ediv_nonneg
def Zec := @Int.toNat_natCast
def Zee := @IntKind.wrap_i64
def Zef := @IntKind.wrap_u64
def Zeh := @Lib.run_eql_slice_nil
def Zeo := @List.drop_append_of_le_length
def Zep := @List.drop_drop
def Zer := @List.drop_of_length_le
def Zes := @List.drop_succ_cons
def Zew := @List.flatMap_append
def Zex := @List.flatMap_cons
def Zez := @List.getD_eq_getElem?_getD
def Zf0 := @Nat.add_sub_cancel
def Zf1 := @Nat.add_sub_cancel_left
def Zf2 := @Nat.add_zero
def Zf3 := @Nat.and_two_pow_sub_one_eq_mod
def Zf5 := @Nat.le_of_lt
def Zf6 := @Nat.le_refl
def Zf8 := @Nat.le_trans
def Zf9 := @Nat.lt_irrefl
def ZfA := @List.getElem?_set_self
def ZfB := @List.getElem?_take
def ZfC := @List.getElem?_toArray
def ZfE := @List.length_append
def ZfF := @List.length_cons
def ZfG := @List.length_drop
def ZfK := @List.length_set
def ZfL := @List.length_take
def ZfM := @List.map_cons
def ZfN := @List.mem_append
def ZfO := @List.mem_cons
def ZfP := @List.mem_cons_of_mem
def ZfQ := @List.mem_cons_self
def ZfS := @List.mem_flatMap
def ZfT := @List.mem_map
def ZfU := @List.mem_of_getElem?
def ZfV := @List.mem_of_mem_drop
def ZfX := @List.mem_of_mem_take
def ZfY := @List.mem_or_eq_of_mem_set
def Zfb := @List.nil_append
def Zfe := @List.pairwise_append
def Zff := @List.pairwise_cons
def Zfg := @List.pairwise_iff_getElem
def Zfi := @List.setIfInBounds_toArray
def Zfj := @List.set_cons_succ
def Zfl := @List.take_append_drop
def Zfp := @List.take_of_length_le
def Zfq := @List.take_succ_cons
def Zft := @List.zip_append
def Zfu := @List.zip_cons_cons
def Zfv := @Nat.add_assoc
def Zfw := @Nat.add_comm
def Zfz := @Nat.add_mul
def ZgB := @Nat.lt_of_lt_of_le
def ZgC := @Nat.lt_or_ge
def ZgF := @Nat.mod_eq_of_lt
def ZgJ := @Nat.mul_one
def ZgK := @Nat.ne_of_lt
def ZgL := @Nat.not_lt_zero
def ZgN := @Nat.one_mul
def ZgQ := @Nat.zero_add
def ZgR := @Nat.zero_le
def ZgS := @Nat.zero_mul
def ZgT := @World.block_lt_of_cell?
def ZgU := @World.cell?_alloc_new
def ZgV := @World.cell?_of_block
def ZgW := @World.cell?_setCell_other
def ZgX := @World.grownBy.refl
def ZgY := @World.grownBy_alloc
def ZgZ := @World.ownsRow_nil
def Zgb := @beq_eq_false_iff_ne
def Zgd := @bodyPost_ret
def Zge := @congrArg
def Zgf := @decide_eq_false
def Zgg := @decide_eq_true
def Zgi := @heap_alloc_new
def Zgj := @heap_setCell_other
def Zgk := @if_neg
def Zgl := @if_pos
def Zgm := @info_parts
def Zgp := @of_decide_eq_true
def Zgt := @run_loadVar_row
abbrev Zhf := Nat → Prop
variable {C F O S S' X X':Zhf}
def ZD (p : Prop) : Prop := p
theorem ZD.out {p : Prop} (h : ZD p) : p := h
theorem ZD.o {p : Prop} (h : ZD p) : p := h
theorem ZA {p : Prop} (h : p) : ZD p := h
theorem ZB {p : Prop} (h : p := by omega) : p := h
theorem ZC {p : Prop} (h : p := by kernel_rfl) : p := h
theorem ZXz {p : Prop} (h : p := by simp) : p := h
theorem ZX0 {p : Prop} (h : p := by rfl) : p := h
theorem ZX2 {α : Sort _} (t : α) : ∃ q, ZD (t = q) := ⟨t, rfl⟩
theorem ZX3 {α : Sort _} (t : α) : ∃ q, t = q := ⟨t, rfl⟩
abbrev ZYE : Obj := .cells #[.bool false, .int .i64 0, .bool false, .int .i64 0, .int .i64 0, .int .i64 0, .int .i64 0] 41 (0, 0)
section
def ZT (k:IntKind)(xs:List Nat):List Value:=xs.map λ(x:Nat)=>Value.int k (x:Int)
theorem ZBe {k:IntKind}{xs:List Nat}{j x:Nat}(h:xs[j]?=some x):(ZT k xs)[j]?=some (.int k (x:Int)):=by
 simp[ZT,h]
theorem Xk (k)(xs:List Nat):(ZT k xs).length=xs.length:=by simp[ZT]
theorem ZBf (k xs ys):ZT k (xs++ys)=ZT k xs++ZT k ys:=by simp[ZT]
theorem ZHC (k xs):∀u ∈ ZT k xs,u.oneCell'=true:=by
 intro u hu;obtain⟨_,_,rfl⟩:=ZfT.1 hu;rfl
def Rd (w:World)(A:Option Addr)(vs:List Value):Prop:=vs≠[]->∃b off,A=some ⟨b,off,none⟩/\∀j u,vs[j]?=some u->w.cell? ⟨b,off+j,none⟩=some u
theorem Rd.at_ {w:World}{A:Option Addr}{k:IntKind}{xs:List Nat}{j x:Nat}(h:Rd w A (ZT k xs))(hx:xs[j]?=some x): ∃b off,A=some ⟨b,off,none⟩/\b<w.heap.size/\w.cell? ⟨b,off+j,none⟩=some (.int k (x:Int)):=by
 obtain⟨b,off,hA,hc⟩:=h (by intro e;have:=ZBe (k:=k) hx;rw[e]at this;simp at this);have:=hc j _ (ZBe hx);exact⟨b,off,hA,ZgT w _ this,this⟩
theorem Jy {xs:List Nat}(h:j<xs.length):∃x,xs[j]?=some x:=⟨_,Ze4 h⟩
theorem Zv {α:Type}{xs:List α}{k:Nat}{x:α}(h:xs[k]?=some x):xs.take (k+1)=xs.take k++[x]:=by
 rw[List.take_add_one,h];rfl
theorem Rd.keep(h:Rd w A vs)(hk:∀p:Addr,p.block<w.heap.size->w'.cell? p=w.cell? p):Rd w' A vs:=by
 intro ag;obtain⟨b,off,hA,hc⟩:=h ag;exact⟨b,off,hA,λj u hu=>(hk _ (ZgT w _ (hc j u hu))).trans (hc j u hu)⟩
theorem Rd.below(h:Rd w A vs)(hb:Below w.heap.size w w'):Rd w' A vs:=h.keep λ_ hp=>hb.cell hp
theorem Rd.drewN(h:Rd w A vs)(n):Rd (w.drewN n) A vs:=h
theorem Rd.nil (w A):Rd w A []:=λh=>absurd rfl h
theorem Rd.of_own(h:w.ownsRow base e 1 (.slice A n c) n vs):Rd w A vs:=by
 intro ag;rcases h.2 with⟨h1,h2⟩|⟨g,cap,cO,h1,_⟩
 ·have:=h.1;rw[h2]at this;simp at this;exact absurd this ag
 ·injection h1 with h1 _ _;subst h1;refine⟨g,0,rfl,λj u hu=>?_⟩;have:=h.cells (g:=g) rfl j u hu;rw[ZeS]at this;simpa using this
theorem ZBC {k:IntKind}{a b:Int}(h:a=b):Ending.returned (.int k a)=Ending.returned (.int k b):=by rw[h]
theorem ZB9 {a b:Bool}(h:a=b):Ending.returned (.bool a)=Ending.returned (.bool b):=by rw[h]
theorem ZAn {a b c d:Value}(h:a=b)(h':c=d):Ending.returned (.tuple #[a,c])=Ending.returned (.tuple #[b,d]):=by rw[h,h']
theorem ZN1 {k:IntKind}{a b:Int}(h:a=b):Value.int k a=Value.int k b:=by rw[h]
theorem ZED {a b:Bool}(h:a=b):Value.bool a=Value.bool b:=by rw[h]
def ZM (w w':World):Prop:=Below w.heap.size w w'
theorem ZM.refl (w):ZM w w:=Below.refl _ _
theorem ZM.trans{c:World}(h:ZM a b)(k:ZM b c):ZM a c:=Below.trans h (Below.mono k h.size)
theorem ZM.alloc(h:ZM a b)(o):ZM a (b.alloc o):=Below.alloc h h.size o
theorem Za (w:World)(o):∃W,w.alloc o=W/\ZM w W/\ZD (W.heap[w.heap.size]?=some o):=⟨_,rfl,(ZM.refl w).alloc o,ZA (Zgi w o)⟩
theorem Z8 {p0 p1 p2:Prop}(h0:p0)(h1:p1)(h2:p2):ZD p0/\ZD p1/\ZD p2:=⟨h0,h1,h2⟩
theorem ZAU {p0 p1 p2 p3:Prop}(h0:p0)(h1:p1)(h2:p2)(h3:p3):ZD p0/\ZD p1/\ZD p2/\ZD p3:=⟨h0,h1,h2,h3⟩
theorem ZBR {p0 p1 p2 p3 p4:Prop}(h0:p0)(h1:p1)(h2:p2)(h3:p3)(h4:p4):ZD p0/\ZD p1/\ZD p2/\ZD p3/\ZD p4:=⟨h0,h1,h2,h3,h4⟩
theorem Ju {p0 p1 p2 p3 p4 p5:Prop}(h0:p0)(h1:p1)(h2:p2)(h3:p3)(h4:p4)(h5:p5):ZD p0/\ZD p1/\ZD p2/\ZD p3/\ZD p4/\ZD p5:=⟨h0,h1,h2,h3,h4,h5⟩
theorem ZM.drew(h:ZM a b):ZM a b.drew:=Below.drew h
theorem ZM.drewN(h:ZM a b)(n):ZM a (b.drewN n):=⟨h.os,h.tape,h.output,h.size,h.block⟩
theorem ZM.setCell(h:ZM a b)(hp:a.heap.size<=p.block)(u):ZM a (b.setCell p u):=Below.setCell h hp u
theorem ZM.grown{c:World}(h:ZM a b)(hg:b.grownBy c row)(hr:∀k,row=some k->a.heap.size<=k):ZM a c:=Below.grown h hg h.size hr
theorem Rd.ext(h:Rd w A vs)(hb:ZM w w'):Rd w' A vs:=h.below hb
theorem Rd.alloc(h:Rd w A vs)(o):Rd (w.alloc o) A vs:=h.ext ((ZM.refl w).alloc o)
theorem Rd.grown(h:Rd w A vs)(hg:w.grownBy w' row)(hr:∀a,A=some a->row≠some a.block):Rd w' A vs:=by
 intro ag;obtain⟨b,off,hA,hc⟩:=h ag;exact⟨b,off,hA,λj u hu=>hg.cell (hc j u hu) (λe=>hr _ hA e.symm)⟩
theorem Z5{xs:List Value}(h:w.ownsRow base e size v n xs)(hb:ZM w w'):w'.ownsRow base e size v n xs:=by
 refine⟨h.1,?_⟩;rcases h.2 with hn|⟨g,cap,cO,rfl,mC,hgg,rest⟩
 ·exact .inl hn
 ·exact .inr ⟨g,cap,cO,rfl,mC,by rw[hb.block g (ZeT.1 hgg).1];exact hgg,rest⟩
theorem Zj{base':Nat}{xs:List Value}(h:w.ownsRow base e size v n xs)(hb:base'<=base):w.ownsRow base' e size v n xs:=by
 refine⟨h.1,?_⟩;rcases h.2 with hn|⟨g,cap,cO,rfl,mC,rest⟩
 ·exact .inl hn
 ·exact .inr ⟨g,cap,cO,rfl,by omega,rest⟩
theorem ZSn{xs:List Value}(h:w.ownsRow base e size v n xs):∃A c,v=.slice A n c:=by
 rcases h.2 with⟨rfl,rfl⟩|⟨g,cap,cO,rfl,_⟩
 ·exact⟨_,_,rfl⟩
 ·exact⟨_,_,rfl⟩
theorem YR{xs:List Value}(h:w.ownsRow base e size (.slice A n c) n xs):n<=c:=by
 rcases h.2 with⟨h1,rfl⟩|⟨g,cap,cO,h1,_,_,h2,_⟩
 ·omega
 ·injection h1 with _ _ h1;omega
theorem ZB5{xs:List Value}(h:w.ownsRow base e size (.slice A n c) n xs)(hn:0<n): ∃g,A=some ⟨g,0,none⟩/\base<=g/\g<w.heap.size:=by
 rcases h.2 with⟨h1,rfl⟩|⟨g,cap,cO,h1,h2,h3,_⟩
 ·omega
 ·injection h1 with h1 _ _;exact⟨g,h1,h2,(ZeT.1 h3).1⟩
theorem Yw{xs:List Value}(h:w.ownsRow base e size (.slice A n c) n xs):∀k,(Value.slice A n c).ownBlock=some k->base<=k:=λk hk=>(h.lt k hk).1
theorem X7 (w:World)(cs:List Value)(e size n)(hn:cs.length=n*size)(hm:n<=maxLen)(hb:base<=w.heap.size): (w.alloc (.cells cs.toArray e)).ownsRow base e size (.slice (some ⟨w.heap.size,0,none⟩) n n) n cs:=⟨hn,.inr ⟨w.heap.size,n,cs.toArray,rfl,hb,Zgi w _,Zf6 _,hm,by simpa using hn,by rw[Zfp (by simp[hn])]⟩⟩
theorem ZFn (w:World)(cs:List Value)(e):Rd (w.alloc (.cells cs.toArray e)) (some ⟨w.heap.size,0,none⟩) cs:=by
 intro _;refine⟨w.heap.size,0,rfl,λj u hu=>?_⟩;rw[ZgQ,ZgU];simpa using hu
theorem ZRI (w:World)(a b):(w.drewN a).drewN b=w.drewN (a+b):=by simp[World.drewN,Zfv]
theorem Jr {P:Program}{f:FuncId}{args:Array Value}(h:Calls P f args (w.drewN n) λe w'=>e=.returned v/\w.drewN n=w'):Calls P f args (w.drewN n) λe fZ=>e=.returned v/\∃m,fZ=w.drewN m:=
 h.mono λ_ _ ⟨he,hm⟩=>⟨he,n,hm.symm⟩
theorem ZBw {P:Program}{f:FuncId}{args:Array Value}{a:Nat}(h:Calls P f args (w.drewN (a+n)) λe w'=>e=.returned v/\w.drewN (a+n)=w'):Calls P f args (w.drewN (a+n)) λe fZ=>e=.returned v/\∃m,fZ=w.drewN (a+m):=
 h.mono λ_ _ ⟨he,hm⟩=>⟨he,n,hm.symm⟩
theorem ZHN {P:Program}(ht:P.underlying t=some (.slice e))(hz:∀u:World,(sizeOf e).run P u=.ok 1 u){b off d:Nat}(k)(h1:k<=n)(h2:¬c=k)(hm:n=m+k)(hd:c=d+k)(u): (Instr.slice t (.slice (some ⟨b,off,none⟩) n c) (some (.int .i64 k)) none none).run P u=.ok (.slice (some ⟨b,off+k,none⟩) m d) u:=by
 have he:P.elem t=e:=by simp[Program.elem,ht]
 rw[run_slice_l (P:=P) u t _ n c (by rw[he];exact ht) .i64 (k:Int) ZB ZB];rw[he,hz];simp only[Result.andThen,sliced,Zec,Zgk h2,Option.map_some,ZeS,ZgJ]
 congr 2<;>omega
section
variable {P:Program} (w:World)
theorem ZGf{i:TypeInfo}(ht:P.underlying t=some (.slice e))(hi:P.info? e=some i){xs:List Value}(af:w.ownsRow base e size v n xs)(c):(Builtin.append_ #[t,t] ty #[v,.slice none 0 c]).run P w=.ok v w:=by
 rcases af.2 with⟨rfl,rfl⟩|⟨g,cap,cO,rfl,_,_,aI,_⟩
 ·simp[Builtin.append_,run_underlying ht,sizeOf,typeInfo,hi,Builtin.lenOf,Builtin.firstCells]
 ·simp[Builtin.append_,run_underlying ht,sizeOf,typeInfo,hi,Builtin.lenOf,Builtin.firstCells,aI,storeCells]
theorem ZIa {base:Nat}{t ty e:TypeId}{i:TypeInfo}{z:Value}{size bytes:Nat}(ht:P.underlying t=some (.slice e))(hi:P.info? e=some i)(hz:i.zero=some z)(gK:i.size=size)(ti:i.bytes=bytes)(jq:z.cells.size=size)(bZ:0<size){B:Option Addr}{n cb:Nat}{xs:List Value}(af:w.ownsRow base e size (.slice B n cb) n xs){A:Option Addr}{m c:Nat}{news:List Value}(hl:news.length=m*size)(hr:Rd w A news)(h1:∀u ∈ news,u.oneCell'=true)(tE:n+m<=maxLen)(eY:(n+m)*bytes<=140737488355328)(an:base<=w.heap.size): ∃B' au w',(Builtin.append_ #[t,t] ty #[.slice B n cb,.slice A m c]).run P w=.ok (.slice B' (n+m) au) w'/\w'.ownsRow base e size (.slice B' (n+m) au) (n+m) (xs++news)/\ w.grownBy w' (Value.slice B n cb).ownBlock/\((Value.slice B' (n+m) au).ownBlock=(Value.slice B n cb).ownBlock\/(Value.slice B' (n+m) au).ownBlock=some w.heap.size):=by
 have fin:∀v' w',(Builtin.append_ #[t,t] ty #[.slice B n cb,.slice A m c]).run P w=.ok v' w'->w'.ownsRow base e size v' (n+m) (xs++news)-> w.grownBy w' (Value.slice B n cb).ownBlock->(v'.ownBlock=(Value.slice B n cb).ownBlock\/v'.ownBlock=some w.heap.size)-> ∃B' au w',(Builtin.append_ #[t,t] ty #[.slice B n cb,.slice A m c]).run P w=.ok (.slice B' (n+m) au) w'/\w'.ownsRow base e size (.slice B' (n+m) au) (n+m) (xs++news)/\ w.grownBy w' (Value.slice B n cb).ownBlock/\((Value.slice B' (n+m) au).ownBlock=(Value.slice B n cb).ownBlock\/(Value.slice B' (n+m) au).ownBlock=some w.heap.size):=by
  intro v' w' h2 h3 h4 h5;obtain⟨B',au,rfl⟩:=ZSn h3;exact⟨B',au,w',h2,h3,h4,h5⟩
 cases A with
 |none=>
  have hn:news=[]:=by
   rcases Classical.em (news=[])with h|h
   ·exact h
   ·obtain⟨b,off,hA,_⟩:=hr h;cases hA
  subst hn;have hm:m=0:=by
   have h0:m*size=0:=by rw[<-hl];rfl
   rcases Nat.mul_eq_zero.1 h0 with h|h
   ·exact h
   ·omega
  subst hm;exact fin _ w (ZGf w ht hi af c) (by simpa using af) (ZgX w _) (.inl rfl)
 |some a=>
  obtain⟨v',w',h2,h3,h4,_,h5⟩:=run_append_own_at (P:=P) w base t ty e i z size bytes ht hi hz gK ti jq bZ _ n xs af a m c news hl (λj u hu=>by
   obtain⟨b,off,hA,hc⟩:=hr (by intro e;rw[e]at hu;simp at hu);injection hA with hA;subst hA;rw[ZeS];exact hc j u hu) h1 tE eY an
  exact fin v' w' h2 h3 h4 h5
theorem Jl {o:Oper}{a:Act}{K:Act->World->Prop}{Q:Exit->Act->World->Prop}(s x:Operand)(t:TypeId)(ho:o.op=.call {callee:=.builtin .append,args:=#[s,x],argTypes:=#[t,t]})(base:Nat)(e:TypeId){i:TypeInfo}{z:Value}{size bytes:Nat}(ht:P.underlying t=some (.slice e))(hi:P.info? e=some i)(hz:i.zero=some z)(gK:i.size=size)(ti:i.bytes=bytes)(jq:z.cells.size=size)(bZ:0<size){B:Option Addr}{n cb:Nat}{xs:List Value}(hs:a.eval s=.slice B n cb)(af:w.ownsRow base e size (.slice B n cb) n xs){A:Option Addr}{m c:Nat}{news:List Value}(hx:a.eval x=.slice A m c)(hl:news.length=m*size)(hr:Rd w A news)(h1:∀u ∈ news,u.oneCell'=true)(tE:n+m<=maxLen)(eY:(n+m)*bytes<=140737488355328)(an:base<=w.heap.size)(h:∀B' au w',w'.ownsRow base e size (.slice B' (n+m) au) (n+m) (xs++news)->w.grownBy w' (Value.slice B n cb).ownBlock-> ((Value.slice B' (n+m) au).ownBlock=(Value.slice B n cb).ownBlock\/(Value.slice B' (n+m) au).ownBlock=some w.heap.size)->K (a.put o.dst (.slice B' (n+m) au)) w'):o.wp P a w K Q:=by
 obtain⟨B',au,w',aC,h2,h3,h4⟩:=ZIa (P:=P) w (ty:=o.type) ht hi hz gK ti jq bZ af (c:=c) hl hr h1 tE eY an;unfold Oper.wp execOp;simp only[ho,resolve,invoke,builtin,Sem.run_bind,Sem.run_pure,Result.andThen_ok,List.map_toArray,ZfM,List.map_nil,hs,hx,aC];exact h B' au w' h2 h3 h4
theorem Yj {aw:Array Oper}{rest:List Oper}{o:Oper}{a:Act}{Q:Exit->Act->World->Prop}(bu:o.guard=none)(s x:Operand)(t:TypeId)(ho:o.op=.call {callee:=.builtin .append,args:=#[s,x],argTypes:=#[t,t]})(base:Nat)(e:TypeId){i:TypeInfo}{z:Value}{size bytes:Nat}(ht:P.underlying t=some (.slice e))(hi:P.info? e=some i)(hz:i.zero=some z)(gK:i.size=size)(ti:i.bytes=bytes)(jq:z.cells.size=size)(bZ:0<size){B:Option Addr}{n cb:Nat}{xs:List Value}(hs:a.eval s=.slice B n cb)(af:w.ownsRow base e size (.slice B n cb) n xs){A:Option Addr}{m c:Nat}{news:List Value}(hx:a.eval x=.slice A m c)(hl:news.length=m*size)(hr:Rd w A news)(h1:∀u ∈ news,u.oneCell'=true)(tE:n+m<=maxLen)(eY:(n+m)*bytes<=140737488355328)(an:base<=w.heap.size)(h:∀B' au w',w'.ownsRow base e size (.slice B' (n+m) au) (n+m) (xs++news)->w.grownBy w' (Value.slice B n cb).ownBlock-> ((Value.slice B' (n+m) au).ownBlock=(Value.slice B n cb).ownBlock\/(Value.slice B' (n+m) au).ownBlock=some w.heap.size)->wpList P aw Q rest (a.put o.dst (.slice B' (n+m) au)) w'): wpList P aw Q (o::rest) a w:=wpList_plain bu λ_ hK=>Jl w s x t ho base e ht hi hz gK ti jq bZ hs af hx hl hr h1 tE eY an λB' au w' h2 h3 h4=>hK _ _ (h B' au w' h2 h3 h4)
end
end
def ord:List Nat->List Nat->Int
 |[],[]=>0
 |[],_::_=>-1
 |_::_,[]=>1
 |a::us,b::bs=>if a<b then -1 else if b<a then 1 else ord us bs
def ZCz (xs:List Nat):List UInt8:=xs.map UInt8.ofNat
theorem ZVs (a b)(ha:a<256)(hb:b<256):(UInt8.ofNat a<UInt8.ofNat b)↔a<b:=by
 rw[UInt8.lt_iff_toNat_lt];simp only[UInt8.toNat_ofNat'];omega
theorem ZGW:∀(xs ys:List Nat),(∀x ∈ xs,x<256)->(∀y ∈ ys,y<256)->Lib.compareBytes (ZCz xs) (ZCz ys)=ord xs ys
 |[],[],_,_=>rfl
 |[],_::_,_,_=>rfl
 |_::_,[],_,_=>rfl
 |a::us,b::bs,h1,h2=>by
  have ih:=ZGW us bs (λx hx=>h1 x (ZfP _ hx)) (λy hy=>h2 y (ZfP _ hy));have ha:=h1 a ZfQ;have hb:=h2 b ZfQ;unfold ZCz at ih ⊢;simp only[ZfM,Lib.compareBytes,ord,ZVs a b ha hb,ZVs b a hb ha,ih]
theorem ZLm (xs ys):ord ys xs= - ord xs ys:=by
 induction xs generalizing ys with
 |nil=>cases ys<;>simp[ord]
 |cons a us ih=>
  cases ys with
  |nil=>simp[ord]
  |cons b bs=>
   simp only[ord];by_cases h:a<b
   ·rw[Zgk ZB,Zgl h,Zgl h];rfl
   ·by_cases h':b<a
    ·rw[Zgl h',Zgk h,Zgl h']
    ·rw[Zgk h',Zgk h,Zgk h,Zgk h'];exact ih bs
theorem ZKO (xs ys):ord xs ys=0↔xs=ys:=by
 induction xs generalizing ys with
 |nil=>cases ys<;>simp[ord]
 |cons a us ih=>
  cases ys with
  |nil=>simp[ord]
  |cons b bs=>
   simp only[ord];by_cases h:a<b
   ·rw[Zgl h];simp;omega
   ·by_cases h':b<a
    ·rw[Zgk h,Zgl h'];simp;omega
    ·rw[Zgk h,Zgk h',ih bs];have:a=b:=by omega
     simp[this]
theorem ZHm (xs):ord xs xs=0:=(ZKO xs xs).2 rfl
theorem ZQG (xs ys zs):(ord xs ys<=0->ord ys zs<=0->ord xs zs<=0)/\(ord xs ys<0->ord ys zs<=0->ord xs zs= -1)/\(ord xs ys<=0->ord ys zs<0->ord xs zs= -1):=by
 induction xs generalizing ys zs with
 |nil=>cases ys<;>cases zs<;>simp[ord]
 |cons a us ih=>
  cases ys with
  |nil=>simp[ord]
  |cons b bs=>
   cases zs with
   |nil=>simp[ord]
   |cons c cs=>
    have:=ih bs cs;simp only[ord];by_cases h1:a<b<;>by_cases h2:b<a<;>by_cases h3:b<c<;>by_cases h4:c<b<;>by_cases h5:a<c<;>by_cases h6:c<a<;>simp only[h1,h2,h3,h4,h5,h6,if_true,if_false]<;>first|exact this|(simp;done)|(simp;omega)|omega
theorem ZI1 {P:Program}(w:World)(b):∀(xs:List Nat) (off:Nat) (tL:ByteArray),(∀(j x:Nat),xs[j]?=some x->w.cell? ⟨b,off+j,none⟩=some (.int .u8 x))-> (Extern.Bytes.loadBytes ⟨b,off,none⟩ xs.length tL).run P w=.ok ⟨tL.data++(ZCz xs).toArray⟩ w
 |[],off,tL,_=>by simp[Extern.Bytes.loadBytes,ZCz]
 |x::l,off,tL,h=>by
  have h0:=h 0 x rfl
  have ih:=ZI1 (P:=P) w b l (off+1) (tL.push (UInt8.ofNat x)) (λj y hy=>by
   have:=h (j+1) y (by simpa using hy);rw[show off+1+j=off+(j+1) by omega];exact this)
  simp only[Zf2]at h0;simp only[ZfF,Extern.Bytes.loadBytes,Sem.run_bind,run_load,h0,Result.andThen];rw[ZeS];simp only[Zec];have e:(x.toUInt8:UInt8)=UInt8.ofNat x:=rfl;rw[e,ih]
  congr 1
  apply ByteArray.ext;simp[ByteArray.push,ZCz]
theorem ZHR {P:Program}{xs:List Nat}(hl:xs.length=n)(hr:Rd w A (ZT .u8 xs)): (Extern.Bytes.bytesOf (.slice A n c)).run P w=.ok ⟨(ZCz xs).toArray⟩ w:=by
 cases xs with
 |nil=>
  subst hl;cases A<;>rfl
 |cons x l=>
  obtain⟨b,off,rfl,hc⟩:=hr (by simp[ZT]);have:=ZI1 (P:=P) w b (x::l) off .empty (λj y hy=>hc j _ (ZBe hy));rw[hl]at this;unfold Extern.Bytes.bytesOf;rw[this]
  congr 1
  apply ByteArray.ext;simp
theorem ZSU {P:Program}{d:Nat}{xs ys:List Nat}(hl:xs.length=n)(hr:Rd w A (ZT .u8 xs))(cu:ys.length=m)(bC:Rd w B (ZT .u8 ys))(hb:∀x ∈ xs,x<256)(hb':∀x ∈ ys,x<256): (Extern.BytealgCompare.compare #[.slice A n c,.slice B m d]).run P w=.ok (.int .i64 (ord xs ys)) w:=by
 change Sem.run P (do pure (goInt (Extern.BytealgCompare.cmp (<-Extern.Bytes.bytesOf (.slice A n c)) (<-Extern.Bytes.bytesOf (.slice B m d))))) w=_;simp only[Sem.run_bind,Sem.run_pure,Result.andThen,ZHR hl hr,ZHR cu bC];rw[Lib.cmp_eq];simp only[ZGW xs ys hb hb'];rfl
def ZE5 (h x:Nat):Nat:=(h ^^^ x)*1099511628211 % 18446744073709551616
def upd (h:Nat)(xs:List Nat):Nat:=xs.foldl ZE5 h
theorem ZSJ (h x):ZE5 h x<18446744073709551616:=by unfold ZE5;omega
theorem ZOu (h):upd h []=h:=by rw[upd,List.foldl_nil]
theorem ZK6 (h x xs):upd h (x::xs)=upd (ZE5 h x) xs:=by rw[upd,List.foldl_cons,upd]
theorem ZM6 (h xs ys):upd h (xs++ys)=upd (upd h xs) ys:=by rw[upd,List.foldl_append,upd,upd]
theorem ZK5 (h xs x):upd h (xs++[x])=ZE5 (upd h xs) x:=by rw[ZM6,ZK6,ZOu]
theorem ZEY (h xs)(hh:h<18446744073709551616):upd h xs<18446744073709551616:=by
 induction xs generalizing h with
 |nil=>rw[ZOu];exact hh
 |cons x xs ih=>rw[ZK6];exact ih _ (ZSJ h x)
theorem ZPp (h x):IntKind.u64.wrap (((h ^^^ x:Nat):Int)*1099511628211)=((ZE5 h x:Nat):Int):=by
 rw[Zef,ZE5];omega
theorem ZPa (H x)(hx:x<256):H / 256*256+((H % 256) ^^^ x)=H ^^^ x:=by
 have h1:(H ^^^ x) / 256=H / 256:=by
  have:=@Nat.xor_div_two_pow H x 8;simp only[Nat.reducePow]at this;rw[this,Nat.div_eq_of_lt hx,Nat.xor_zero]
 have h2:(H ^^^ x) % 256=(H % 256) ^^^ x:=by
  have:=@Nat.xor_mod_two_pow H x 8;simp only[Nat.reducePow]at this;rw[this,ZgF hx]
 omega
theorem ZG4 (H x)(hH:H<18446744073709551616)(hx:x<256):H ^^^ x<18446744073709551616:=by
 have:=@Nat.xor_lt_two_pow H x 64 ZB ZB;simpa using this
theorem ZXi (H x:Nat)(hH:H<18446744073709551616)(hx:x<256): IntKind.u64.wrap ((H:Int) / 256*256+IntKind.u64.wrap (bits .xor .u8 ((H:Int) % 256) (x:Int)))=((H ^^^ x:Nat):Int):=by
 have e:((H:Int) % 256)=((H % 256:Nat):Int):=by omega
 have h3:=ZPa H x hx;have h4:=ZG4 H x hH hx;have h5:=ZG4 (H % 256) x ZB hx;have h6:=IntWalk.u64_in ((H % 256 ^^^ x:Nat):Int) ZB;rw[e,Go.u8_xor_nat _ _ ZB hx,h6,IntWalk.u64_in _ ZB];omega
theorem ZUm (X:Nat)(hX:X<18446744073709551616):
  IntKind.u64.wrap (IntKind.u64.wrap (bits .and .u64 (X:Int) 4294967295*435)+ IntKind.u64.wrap (IntKind.u64.wrap (IntKind.u64.wrap ((X:Int) / 4294967296*435)+IntKind.u64.wrap (bits .and .u64 (X:Int) 4294967295*256))*4294967296))=
  ((X*1099511628211 % 18446744073709551616:Nat):Int):=by
 have e:bits .and .u64 (X:Int) 4294967295=((X % 4294967296:Nat):Int):=by
  have:=Go.u64_and_nat X 4294967295 hX ZB;rw[show((4294967295:Nat):Int)=(4294967295:Int)from rfl]at this;rw[this,show(4294967295:Nat)=2 ^ 32 - 1 from rfl,Zf3]
 rw[e];simp only[Zef];omega
theorem ZSc (H x)(hH:H<18446744073709551616)(hx:x<256){W:Int}(hW:W=((H ^^^ x:Nat):Int)):
  IntKind.u64.wrap (IntKind.u64.wrap (bits .and .u64 W 4294967295*435)+ IntKind.u64.wrap (IntKind.u64.wrap (IntKind.u64.wrap (W / 4294967296*435)+IntKind.u64.wrap (bits .and .u64 W 4294967295*256))*4294967296))=
  ((ZE5 H x:Nat):Int):=by
 rw[hW,ZUm _ (ZG4 H x hH hx),ZE5]
def ZA9 (s level:Nat):Nat:=s % 2 ^ level
theorem ZT3 (X m:Nat)(hX:X<18446744073709551616)(hm:2 ^ m - 1<18446744073709551616):bits .and .u64 (X:Int) ((2 ^ m - 1:Nat):Int)=((ZA9 X m:Nat):Int):=by
 rw[Go.u64_and_nat X _ hX hm,Zf3,ZA9]
theorem ZPs (s level)(h:level<=4):ZA9 s level<16:=by
 unfold ZA9;have:level=0\/level=1\/level=2\/level=3\/level=4:=by omega
 rcases this with rfl|rfl|rfl|rfl|rfl<;>omega
theorem ZSs {S:Nat}(m:Nat){k:Int}(hS:S<18446744073709551616)(hv:m<=4)(hk:k=((2 ^ m - 1:Nat):Int)):wrap64 (bits .and .u64 (S:Int) k)=((ZA9 S m:Nat):Int):=by
 have h1:=ZPs S m hv;have h2:2 ^ m - 1<18446744073709551616:=by
  have:m=0\/m=1\/m=2\/m=3\/m=4:=by omega
  rcases this with rfl|rfl|rfl|rfl|rfl<;>omega
 rw[hk,ZT3 S m hS h2,IntWalk.wrap64_in _ ZB]
def Xj (v:Value)(w:World)(e:Ending)(w':World):Prop:=e=.returned v/\ZM w w'
theorem ZSB {P:Program}{f:FuncId}{args:Array Value}(h:Calls P f args w λe w'=>e=.returned v/\∃q,w'=w.drewN q):Calls P f args w (Xj v w):=h.mono λ_ _ ⟨he,q,hw⟩=>⟨he,hw ▸ (ZM.refl w).drewN q⟩
theorem World.grown_trans{c:World}(h:a.grownBy b row)(k:b.grownBy c row):a.grownBy c row:=⟨k.os.trans h.os,k.tape.trans h.tape,k.output.trans h.output,Zf8 h.size k.size,λi hi ag=>(k.block i (ZgB hi h.size) ag).trans (h.block i hi ag)⟩
theorem ZWP{xs:List Value}(h:w.ownsRow base e size (.slice A n c) n xs):∀a,A=some a->a.block<w.heap.size:=by
 intro a ha;subst ha;exact(h.lt a.block rfl).2
theorem ZK4 (k)(xs:List Nat)(i x):ZT k (xs.set i x)=(ZT k xs).set i (.int k (x:Int)):=by simp[ZT,List.map_set]
theorem Jx (k)(xs:List Nat)(i):ZT k (xs.drop i)=(ZT k xs).drop i:=by simp[ZT,List.map_drop]
theorem Jw (k)(xs:List Nat)(i):ZT k (xs.take i)=(ZT k xs).take i:=by simp[ZT,List.map_take]
theorem ZYN {p:Prop}(h:p:=by
 subst dy;have he:P.elem t=e:=by simp[Program.elem,ht]
 first|(obtain -:=V1;refine⟨if c=k then A else A.map (·.add (k*s)),λu=>?_,λw vs hl hr ag=>?_,λa ha=>?_,λha=>by subst ha;split<;>rfl⟩)|refine⟨if c=k then A else A.map (·.add k),λu=>?_,λw vs hl hr ag=>?_,λa ha=>?_⟩
 ·rw[run_slice_l (P:=P) u t A n c (by rw[he];exact ht) .i64 (k:Int) ZB ZB,he,hz];first|(obtain -:=V2;simp only[Result.andThen,sliced,Zec])|simp only[Result.andThen,sliced,Zec,ZgJ]
  congr 2<;>omega
 ·have pm:vs≠[]:=by rintro rfl;simp at ag
  obtain⟨b,off,rfl,hc⟩:=hr pm;have jS:¬c=k:=by
   intro h;apply ag;first
   |obtain -:=V3;have:m=0:=by omega
    rw[Zer (by rw[hl,hm,this,ZgQ];exact Zf6 _)]
   |rw[Zer ZB]
  rw[Zgk jS];first|(obtain -:=V4;exact⟨b,off+k*s,by simp[ZeS],λj u hu=>by rw[Zfv];exact hc (k*s+j) u (by rw[<-hu,Ze3])⟩)|exact⟨b,off+k,by simp[ZeS],λj u hu=>by rw[Zfv];exact hc (k+j) u (by rw[<-hu,Ze3])⟩
 ·first
  |obtain -:=V5;split at ha
   ·exact⟨a,ha,rfl⟩
   ·cases hA:A with
    |none=>rw[hA]at ha;cases ha
    |some q=>
     rw[hA]at ha;injection ha with ha;refine⟨q,rfl,?_⟩;rw[<-ha];unfold Addr.add;split<;>rfl
  |subst ha;split
   ·exact⟨a,rfl,rfl⟩
   ·refine⟨a.add k,rfl,?_⟩;unfold Addr.add;split<;>rfl):p:=h
theorem Xx {P:Program}(ht:P.underlying t=some (.slice e))(hz:∀u:World,(sizeOf e).run P u=.ok 1 u){d:Nat}(k:Nat)(dy:ki=(k:Int))(aI:n<=c)(hm:n=m+k)(hd:c=d+k): ∃A':Option Addr,(∀u:World,(Instr.slice t (.slice A n c) (some (.int .i64 ki)) none none).run P u=.ok (.slice A' m d) u)/\ (∀(w:World) (vs:List Value),vs.length=n->Rd w A vs->Rd w A' (vs.drop k))/\(∀a,A=some a->∃a',A'=some a'/\a'.block=a.block):=ZYN
def Zn (xs:List Int):List Value:=xs.map (Value.int .i64)
theorem ZFy(h:j<xs.length):(Zn xs)[j]?=some (.int .i64 (xs.getD j 0)):=by
 simp[Zn,h]
theorem Yq (xs:List Int):(Zn xs).length=xs.length:=by simp[Zn]
theorem ZFJ (xs ys):Zn (xs++ys)=Zn xs++Zn ys:=by simp[Zn]
theorem ZD6 (xs):∀u ∈ Zn xs,u.oneCell'=true:=by
 intro u hu;obtain⟨_,_,rfl⟩:=ZfT.1 hu;rfl
theorem Rd.atI(h:Rd w A (Zn xs))(hx:j<xs.length): ∃b off,A=some ⟨b,off,none⟩/\b<w.heap.size/\w.cell? ⟨b,off+j,none⟩=some (.int .i64 (xs.getD j 0)):=by
 obtain⟨b,off,hA,hc⟩:=h (by intro e;have:=ZFy hx;rw[e]at this;simp at this);have:=hc j _ (ZFy hx);exact⟨b,off,hA,ZgT w _ this,this⟩
theorem ZVB(h:j<xs.length):xs[j]?=some (xs.getD j 0):=by simp[h]
theorem ZDY{z:Int}:z ∈ xs↔∃j,j<xs.length/\xs.getD j 0=z:=by
 constructor
 ·intro h;obtain⟨j,hj,e⟩:=List.getElem_of_mem h;exact⟨j,hj,by simp[hj,e]⟩
 ·rintro⟨j,hj,rfl⟩;have:=ZVB hj;exact ZfU this
def ZWR (xs:List Int)(j:Nat):Prop:=1<=xs.getD j 0/\xs.getD j 0<=4611686018427387903/\(0<j->xs.getD (j - 1) 0<xs.getD j 0)
def ZCJ (xs:List Int):Prop:=∀j,j<xs.length->ZWR xs j
def ZEL (p:Int)(xs:List Int):Prop:=1<=p/\p<=64/\(xs.length:Int)<=p/\ZCJ xs
def Ser (n:Int):Prop:=1<=n/\n<=4611686018427387903
instance (n:Int):Decidable (Ser n):=inferInstanceAs (Decidable (1<=n/\n<=4611686018427387903))
theorem ZGw(h:ZCJ xs):∀j i,i<j->j<xs.length->xs.getD i 0<xs.getD j 0:=by
 intro j
 induction j with
 |zero=>intro i hi;omega
 |succ j ih=>
  intro i hi hj;have h1:=(h (j+1) hj).2.2 ZB;rw[Zf0]at h1;by_cases nL:i=j
  ·rw[nL];exact h1
  ·have:=ih i ZB ZB;omega
theorem ZPI(h:ZCJ xs):xs.Pairwise (· <·):=by
 rw[Zfg];intro i j hi hj nL;have:=ZGw h j i nL hj;simpa[hi,hj]using this
theorem ZMF(h:ZCJ xs):∀z ∈ xs,Ser z:=by
 intro z hz;obtain⟨j,hj,rfl⟩:=ZDY.1 hz;exact⟨(h j hj).1,(h j hj).2.1⟩
theorem ZPJ(h:xs.Pairwise (· <·))(hm:∀z ∈ xs,Ser z):ZCJ xs:=by
 intro j hj;have h1:=hm (xs.getD j 0) (ZDY.2 ⟨j,hj,rfl⟩);refine⟨h1.1,h1.2,λh0=>?_⟩;rw[Zfg]at h;have:=h (j - 1) j ZB hj ZB;have pR:j - 1<xs.length:=by omega
 simpa[hj,pR]using this
def At (xs:List Int)(t:Int)(k:Nat):Prop:=k<=xs.length/\(∀j,j<k->xs.getD j 0<t)/\∀j,k<=j->j<xs.length->t<=xs.getD j 0
theorem ZVg(h:ZCJ xs)(t):∃k,At xs t k:=by
 have:∀m,m<=xs.length->∃k,k<=m/\(∀j,j<k->xs.getD j 0<t)/\∀j,k<=j->j<m->t<=xs.getD j 0:=by
  intro m
  induction m with
  |zero=>intro _;exact⟨0,Zf6 _,λj hj=>by omega,λj _ hj=>by omega⟩
  |succ m ih=>
   intro hm;obtain⟨k,k1,k2,k3⟩:=ih ZB;by_cases hk:k<m
   ·refine⟨k,by omega,k2,λj hj Lr=>?_⟩;by_cases e:j=m
    ·subst e;have:=k3 k (Zf6 _) hk;have:=ZGw h j k hk ZB;omega
    ·exact k3 j hj ZB
   ·obtain rfl:k=m:=by omega
    by_cases ht:xs.getD k 0<t
    ·refine⟨k+1,Zf6 _,λj hj=>?_,λj h1 h2=>by omega⟩;by_cases e:j=k
     ·rw[e];exact ht
     ·exact k2 j ZB
    ·refine⟨k,by omega,k2,λj h1 h2=>?_⟩;obtain rfl:j=k:=by omega
     omega
 obtain⟨k,k1,k2,k3⟩:=this xs.length (Zf6 _);exact⟨k,k1,k2,k3⟩
theorem ZOl{t:Int}(h:At xs t k)(hg:ZCJ xs):t ∈ xs↔(k<xs.length/\xs.getD k 0=t):=by
 obtain⟨h1,h2,h3⟩:=h;constructor
 ·intro hm;obtain⟨j,hj,e⟩:=ZDY.1 hm;have Ep:k<=j:=by
   apply Nat.le_of_not_lt;intro ak;have:=h2 j ak;omega
  refine⟨by omega,?_⟩;by_cases e':k=j
  ·rw[e',e]
  ·have k1:=ZGw hg j k ZB hj;have k2:=h3 k (Zf6 _) ZB;omega
 ·rintro⟨h4,h5⟩;exact ZDY.2 ⟨k,h4,h5⟩
def ZCD (xs:List Int)(k:Nat)(t:Int):List Int:=xs.take k++t::xs.drop k
def ZEJ (xs:List Int)(k:Nat):List Int:=xs.take k++xs.drop (k+1)
theorem ZMA(t)(h:k<=xs.length):(ZCD xs k t).length=xs.length+1:=by
 simp[ZCD];omega
theorem ZMP(h:k<xs.length):(ZEJ xs k).length=xs.length - 1:=by
 simp[ZEJ];omega
theorem ZLr{t z:Int}:z ∈ ZCD xs k t↔z=t\/z ∈ xs:=by
 conv=>rhs;rw[<-Zfl k xs]
 simp only[ZCD,ZfN,ZfO];constructor
 ·rintro(h|h|h)
  ·exact .inr (.inl h)
  ·exact .inl h
  ·exact .inr (.inr h)
 ·rintro(h|h|h)
  ·exact .inr (.inl h)
  ·exact .inl h
  ·exact .inr (.inr h)
theorem ZXF{t:Int}(h:At xs t k):∀z ∈ xs.take k,z<t:=by
 intro z hz;obtain⟨j,hj,e⟩:=List.getElem_of_mem hz;simp only[ZfL]at hj;have:=h.2.1 j ZB;have pR:j<xs.length:=by omega
 simp[pR]at this;simp at e;omega
theorem ZV3{t:Int}(h:At xs t k):∀z ∈ xs.drop k,t<=z:=by
 intro z hz;obtain⟨j,hj,e⟩:=List.getElem_of_mem hz;simp only[ZfG]at hj;have:=h.2.2 (k+j) ZB ZB;have pR:k+j<xs.length:=by omega
 simp[pR]at this;simp at e;omega
theorem ZTG{t:Int}(h:At xs t k)(hg:ZCJ xs)(hn:t ∉ xs)(hs:Ser t):ZCJ (ZCD xs k t):=by
 have hp:=ZPI hg;rw[<-Zfl k xs,Zfe]at hp;refine ZPJ ?_ λz hz=>?_
 ·unfold ZCD;rw[Zfe,Zff];refine⟨hp.1,⟨λz hz=>?_,hp.2.1⟩,λa ha b hb=>?_⟩
  ·have h1:=ZV3 h z hz;have:z≠t:=by rintro rfl;exact hn (ZfV hz)
   omega
  ·have h1:=ZXF h a ha;simp only[ZfO]at hb;rcases hb with rfl|hb
   ·exact h1
   ·have:=ZV3 h b hb;omega
 ·rcases ZLr.1 hz with rfl|hz
  ·exact hs
  ·exact ZMF hg z hz
theorem ZTX(k)(hg:ZCJ xs):ZCJ (ZEJ xs k):=by
 have hp:=ZPI hg;have dp:List.Sublist (ZEJ xs k) xs:=by
  conv=>rhs;rw[<-Zfl k xs]
  unfold ZEJ;refine List.Sublist.append (List.Sublist.refl _) ?_;rw[<-Zep];exact List.drop_sublist 1 _
 exact ZPJ (hp.sublist dp) λz hz=>ZMF hg z (dp.subset hz)
theorem JP (w:World)(cs:List Value)(e)(hk:w.heap.size=k):Rd (w.alloc (.cells cs.toArray e)) (some ⟨k,0,none⟩) cs:=by
 subst hk;exact ZFn w cs e
theorem ZJF (w:World)(cs:List Value)(e size n)(hn:cs.length=n*size)(hm:n<=maxLen)(hk:w.heap.size=k)(hb:base<=k): (w.alloc (.cells cs.toArray e)).ownsRow base e size (.slice (some ⟨k,0,none⟩) n n) n cs:=by
 subst hk;exact X7 w cs e size n hn hm hb
theorem Zi (w:World)(o)(hk:w.heap.size=k):(w.alloc o).heap[k]?=some o:=by
 subst hk;exact Zgi w o
theorem Qi {p:Prop}(h:p:=by
 subst dy sS;have he:P.elem t=e:=by simp[Program.elem,ht]
 refine⟨if c=k then A else A.map (·.add k),λu=>?_,λw vs hl hr ag=>?_⟩
 ·rw[run_slice_lh (P:=P) u t A n c (by rw[he];exact ht) .i64 .i64 (k:Int) (h:Int) ZB ZB ZB,he,hz];simp only[Result.andThen,sliced,Zec,ZgJ];congr 2<;>omega
 ·have pm:vs≠[]:=by rintro rfl;simp at ag
  obtain⟨b,off,rfl,hc⟩:=hr pm;have jS:¬c=k:=by
   intro h;apply ag;rw[Zer ZB];simp
  rw[Zgk jS];refine⟨b,off+k,by simp[ZeS],λj u hu=>?_⟩;rw[Zfv];refine hc (k+j) u ?_;rw[ZfB]at hu;split at hu
  ·rw[<-hu,Ze3]
  ·cases hu):p:=h
theorem ZA8 {P:Program}(ht:P.underlying t=some (.slice e))(hz:∀u:World,(sizeOf e).run P u=.ok 1 u){d:Nat}(k h:Nat){hi:Int}(dy:ki=(k:Int))(sS:hi=(h:Int))(AS:h<=n)(aI:n<=c)(hm:h=m+k)(hd:c=d+k): ∃A':Option Addr,(∀u:World,(Instr.slice t (.slice A n c) (some (.int .i64 ki)) (some (.int .i64 hi)) none).run P u=.ok (.slice A' m d) u)/\ (∀(w:World) (vs:List Value),vs.length=n->Rd w A vs->Rd w A' ((vs.drop k).take m)):=Qi
theorem ZA7 (N w)(h:0<=N)(h':N<=4611686018427387903):Calls prog 55 #[.int .i64 N] w λe w'=>e=.returned (.bool true)/\w=w':=by
 go_enter func55,ntmps55;go_wp2;go_ret;exact⟨rfl,rfl⟩
theorem ZHH (N w)(h:0<=N)(h':N<=9223372036854775807):Calls prog 199 #[.int .i64 N] w λe w'=>e=.returned (.int .i64 (min N 4611686018427387903))/\w=w':=by
 by_cases h1:N<=4611686018427387903
 ·rw[show min N 4611686018427387903=N by omega];go_enter func199,ntmps199;go_wp2;go_ret;exact⟨ZBC ZB,rfl⟩
 ·rw[show min N 4611686018427387903=4611686018427387903 by omega];go_enter func199,ntmps199;go_wp2;go_ret;exact⟨ZBC ZB,rfl⟩
theorem ZLB (a b w)(h:0<=a)(h':a<=4611686018427387903)(k:0<=b)(k':b<=4611686018427387903):Calls prog 198 #[.int .i64 a,.int .i64 b] w λe w'=>e=.returned (.int .i64 0)/\w=w':=by
 go_enter func198,ntmps198;go_wp2;go_ret;exact⟨rfl,rfl⟩
theorem ZUU (a b w)(h:0<=a)(h':a<=4611686018427387903)(k:0<=b)(k':b<=4611686018427387903):Calls prog 136 #[.int .i64 a,.int .i64 b] w λe w'=>e=.returned (.tuple #[.int .i64 (min (a+b) 4611686018427387903),.int .i64 0])/\w=w':=by
 go_enter func136,ntmps136;go_wp2_with fail;refine(ZLB a b w h h' k k').mono ?_;rintro e w1 ⟨rfl,rfl⟩;go_wp2_with fail;refine(ZHH (a+b) w ZB ZB).mono ?_;rintro e w1 ⟨rfl,rfl⟩;go_wp2_with fail
 go_ret2
 exact⟨rfl,rfl⟩
def Xh (T Tau tat now:Int):Int:=if Tau<max tat now - now then 0 else min ((Tau - (max tat now - now)) / T+1) ((4611686018427387903 - max tat now) / T)
theorem ZFo (T Tau w)(h1:1<=T)(h2:T<=4611686018427387903)(h3:0<=Tau)(h4:Tau<=4611686018427387903): Calls prog 68 #[.agg #[.int .i64 T,.int .i64 Tau]] w λe w'=>e=.returned (.int .i64 0)/\ZM w w':=by
 have hT:¬T<1:=by omega
 go_enter func68,ntmps68;go_wp2_with fail;refine(ZA7 T _ ZB ZB).mono ?_;rintro e w1 ⟨rfl,rfl⟩;go_wp2_with fail;refine(ZA7 Tau _ ZB ZB).mono ?_;rintro e w1 ⟨rfl,rfl⟩;go_wp2_with fail;go_ret;exact⟨rfl,(ZM.refl w).alloc _⟩
theorem ZRB (T Tau tat now w)(h3:0<=Tau)(ht:0<=tat)(cj:tat<=4611686018427387903)(hn:0<=now)(bG:now<=4611686018427387903)(h:Tau<max tat now - now): Calls prog 97 #[.agg #[.int .i64 T,.int .i64 Tau],.int .i64 tat,.int .i64 now] w λe w'=>e=.returned (.int .i64 (Xh T Tau tat now))/\ZM w w':=by
 have hg:Xh T Tau tat now=0:=Zgl h;rw[hg];have hm:tat>=now:=by omega
 have eq:max tat now=tat:=by omega
 rw[eq]at h;have hd:tat - now > Tau:=h;go_enter func97,ntmps97;go_wp2_with fail
 all_goals try go_ret
 exact⟨rfl,(ZM.refl w).alloc _⟩
theorem ZHB (n)(h: -9223372036854775808<=n)(h':n<=9223372036854775807):wrap64 n=n:=by unfold wrap64;omega
theorem ZOD (T Tau tat now w)(h1:1<=T)(h2:T<=4611686018427387903)(h3:0<=Tau)(h4:Tau<=4611686018427387903)(ht:0<=tat)(cj:tat<=4611686018427387903)(hn:0<=now)(bG:now<=4611686018427387903)(h:¬Tau<max tat now - now): Calls prog 97 #[.agg #[.int .i64 T,.int .i64 Tau],.int .i64 tat,.int .i64 now] w λe w'=>e=.returned (.int .i64 (Xh T Tau tat now))/\ZM w w':=by
 have hg:Xh T Tau tat now=min ((Tau - (max tat now - now)) / T+1) ((4611686018427387903 - max tat now) / T):=Zgk h;rw[hg];have hT:T≠0:=by omega
 by_cases hc:tat<now
 ·have eq:max tat now=now:=by omega
  rw[eq,show now - now=0 by omega,Int.sub_zero];have hq:0<=Tau / T:=Zeb ZB ZB;have ja:Tau / T<=Tau:=Int.ediv_le_self _ ZB;have H:=ZA (ZHB (Tau / T+1) ZB ZB);clear hq ja hg h eq;go_enter func97,ntmps97;go_wp2_with fail;go_region;go_wp2_with fail
  all_goals (go_ret;refine⟨ZBC ?_,((ZM.refl w).alloc _).drew⟩;have:=H.o;omega)
 ·have eq:max tat now=tat:=by omega
  rw[eq]at h ⊢;have df:tat - now<=Tau:=by omega
  have hq:0<=(Tau - (tat - now)) / T:=Zeb ZB ZB;have ja:(Tau - (tat - now)) / T<=Tau - (tat - now):=Int.ediv_le_self _ ZB;have H:=ZA (ZHB ((Tau - (tat - now)) / T+1) ZB ZB);clear hq ja hg h eq;have jB:now<=tat:=by omega
  go_enter func97,ntmps97;go_wp2_with fail;go_region;go_wp2_with fail
  all_goals (go_ret;refine⟨ZBC ?_,((ZM.refl w).alloc _).drew⟩;have:=H.o;omega)
structure YK where
 kind:Nat
 T:Int
 Tau:Int
 perm:Int
variable {P:List YK}
structure ZL where
 pol:Nat
 key:List Nat
 tat:Int
 held:List Int
variable {l:List ZL}
structure ZW where
 op:Nat
 pol:Nat
 key:List Nat
 n:Int
variable {x:ZW}
structure Zt where
 er:Nat
 granted:Bool
 left:Int
 wait:Int
 ser:Int
 now:Int
def YY (e:Nat):Zt:=⟨e,false,0,0,0,0⟩
def ZL.id (c:ZL):List Nat:=c.pol::c.key
def ZW.id (c:ZW):List Nat:=c.pol::c.key
def ZXj:YK:=⟨0,0,0,0⟩
def Zf (P:List YK)(i:Nat):YK:=P.getD i ZXj
def atK:List ZL->List Nat->Nat
 |[],_=>0
 |c::l,k=>if ord c.id k<0 then atK l k+1 else 0
def ZAK (l:List ZL)(k:List Nat):Bool:=match l[atK l k]? with
 |some c=>decide (c.id=k)
 |none=>false
def YV (l:List ZL)(pol:Nat)(key:List Nat):ZL:=if ZAK l (pol::key)=true then (l[atK l (pol::key)]?).getD ⟨pol,key,0,[]⟩ else ⟨pol,key,0,[]⟩
def XL (l:List ZL)(at_:Nat)(there:Bool)(c:ZL):List ZL:=if there=true then l.set at_ c else l.take at_++c::l.drop at_
def Xw (k:List Nat):Nat:=upd 14695981039346656037 k
def JU (l:List ZL)(level shard:Nat):List ZL:=l.filter λc=>decide (ZA9 (Xw c.id) level=shard)
def ZO (level shard:Nat):Nat:=2 ^ level+shard % 2 ^ level
def ZAD (P:List YK)(now:Int)(c:ZL):Bool:=if (Zf P c.pol).kind=2 then decide (c.held.length=0) else decide (c.tat<=now)
def atI:List Int->Int->Nat
 |[],_=>0
 |x::l,t=>if x<t then atI l t+1 else 0
def ZAa (p:YK)(c:ZL)(ser:Int):Zt × ZL:=(⟨0,true,p.perm - ((c.held.length:Int)+1),0,ser,0⟩,{c with held:=ZCD c.held (atI c.held ser) ser})
def ZBj (p:YK)(c:ZL)(ser:Int):Zt × ZL:=if ser ∈ c.held then (⟨0,true,p.perm - ((c.held.length:Int) - 1),0,0,0⟩,{c with held:=ZEJ c.held (atI c.held ser)}) else (YY 11,c)
def ZDf (T Tau tat now n:Int):Int:=if Tau<(n - 1)*T\/(4611686018427387903 - max tat now) / T<n then 4611686018427387903 else tat - now - (Tau - (n - 1)*T)
def ZBq (T Tau tat now n:Int):Bool × Int × Int × Int:=if n<=Xh T Tau tat now then (true,(if 0<n then max tat now+n*T else tat),0,Xh T Tau (if 0<n then max tat now+n*T else tat) now)
 else (false,tat,ZDf T Tau tat now n,Xh T Tau tat now)
def Yg (p:YK)(c:ZL)(now n:Int):Zt × ZL:=
 let d:=ZBq p.T p.Tau c.tat now n
 (⟨0,d.1,d.2.2.2,d.2.2.1,0,now⟩,{c with tat:=d.2.1})
def ZJB (p:YK)(c:ZL)(now:Int):Zt:=⟨0,false,Xh p.T p.Tau c.tat now,max (c.tat - now) 0,0,now⟩
def ZHk (p:YK)(c:ZL):Zt:=⟨0,false,p.perm - (c.held.length:Int),0,0,0⟩
inductive ZAc
 |begin
 |evict (j shards:Nat) (gone:Int)
structure Yb where
 word:Nat
 v:Nat
 cells:List ZL
 at_:Nat
 there:Bool
variable {f:Yb}
inductive ZAQ
 |find (sum level:Nat) (t:ZAc)
 |move (level i:Nat)
inductive Jk
 |find (sum:Nat) (t:ZAc)
 |move1 (level i:Nat) (holds:List ZL)
 |move2 (level i:Nat)
inductive ZBs
 |leave (r:Zt)
 |gone (j shards:Nat) (was:Int) (n:Nat)
 |count (f:Yb) (c:ZL) (r:Zt)
 |serial (f:Yb) (c:ZL)
inductive YX
 |find (sum:Nat) (t:ZAc)
 |enter (sum word:Nat) (t:ZAc)
 |frz (word:Nat) (t:ZAQ)
 |frzS (word v:Nat) (holds:List ZL) (t:ZAQ)
 |half (level shard:Nat) (holds:List ZL) (t:Jk)
 |halfS (level shard:Nat) (holds:List ZL) (t:Jk)
 |split
 |splitS (d:Nat)
 |moveEnd (level:Nat)
 |mv (word by_ stop:Nat) (t:ZBs)
 |mvS (word by_ stop v:Nat) (t:ZBs)
 |put (f:Yb) (c:ZL) (r:Zt)
 |peek (c:ZL)
 |allow (f:Yb) (c:ZL)
 |evFirst
 |evScan (j shards:Nat) (gone:Int) (word v:Nat) (cells:List ZL)
 |evSwap (j shards:Nat) (gone:Int) (word v:Nat) (rest:List ZL) (n:Nat)
inductive Zs
 |on (k:YX)
 |fin (r:Zt)
structure KC where
 ws:List Nat
 hs:List (List ZL)
 clk:Nat
 res:Bool
 ser:Int
def JG:Nat:=18446744073709551615
def Zb:Nat:=4611686018427387904
def KC.ld (s:KC)(w:Nat):Nat:=s.ws.getD w 0
def KC.hd (s:KC)(w:Nat):List ZL:=s.hs.getD w []
def KC.sw (s:KC)(w new:Nat)(h:List ZL):KC:={s with ws:=s.ws.set w new,hs:=s.hs.set w h}
def YP (res:Bool)(r:Zt):Zs:=if res=true then .on (.mv 32 JG JG (.leave r)) else .fin r
def Ji (room:Nat)(res:Bool)(f:Yb)(c:ZL)(r:Zt):YX:=if f.there=true\/res=true then .put f c r else .mv 32 1 room (.count f c r)
def Xd (p:YK)(room:Nat)(res:Bool)(ser:Int)(f:Yb)(c:ZL):Zs:=if (c.held.length:Int)=p.perm then YP res (YY 9)
 else if 0<ser then .on (Ji room res f (ZAa p c ser).2 (ZAa p c ser).1)
 else .on (.mv 33 1 4611686018427387903 (.serial f c))
def Zu (j shards:Nat)(gone:Int):Zs:=if j+1=shards then .fin ⟨0,false,gone,0,0,0⟩ else .on (.find (j+1) (.evict (j+1) shards gone))
def ZAq (P:List YK)(room:Nat)(x:ZW)(res:Bool)(ser:Int)(word v:Nat)(cells:List ZL):Zs:=
 let f:Yb:=⟨word,v,cells,atK cells x.id,ZAK cells x.id⟩
 let c:=YV cells x.pol x.key
 let p:=Zf P x.pol
 if x.op=1 then .on (.allow f c)
 else if x.op=2 then Xd p room res ser f c
 else if x.op=3 then (if (ZBj p c x.n).1.er≠0 then .fin (ZBj p c x.n).1 else .on (Ji room res f (ZBj p c x.n).2 (ZBj p c x.n).1))
 else if p.kind=2 then .fin (ZHk p c)
 else .on (.peek c)
def ZEN (P:List YK)(room:Nat)(x:ZW)(res:Bool)(ser:Int)(word v:Nat)(cells:List ZL):ZAc->Zs
 |.begin=>ZAq P room x res ser word v cells
 |.evict j shards gone=>if cells.length=0 then Zu j shards gone else .on (.evScan j shards gone word v cells)
def Yx (P:List YK)(room:Nat)(x:ZW)(res:Bool)(ser:Int)(sum word v:Nat)(cells:List ZL)(t:ZAc):Zs:=if v=0\/Zb<=v then .on (.find sum t) else ZEN P room x res ser word v cells t
def Je (h:List ZL):ZAQ->YX
 |.find sum level t=>.half (level+1) sum h (.find sum t)
 |.move level i=>.half (level+1) i h (.move1 level i h)
def XM (level i:Nat):YX:=if i=2 ^ level then .moveEnd level else .frz (ZO level i) (.move level i)
def XR (P:List YK)(room:Nat)(x:ZW)(res:Bool)(ser:Int)(word v:Nat)(h:List ZL):Jk->Zs
 |.find sum t=>if v=0 then .on (.enter sum word t) else Yx P room x res ser sum word v h t
 |.move1 level i holds=>.on (.half (level+1) (i+2 ^ level) holds (.move2 level i))
 |.move2 level i=>.on (XM level (i+1))
def Z6 (P:List YK)(room:Nat)(x:ZW)(s:KC):YX->KC × Zs
 |.find sum t=>(s,if s.ld 0 % 2=0 then .on (.enter sum (ZO (s.ld 0 / 2) sum) t) else .on (.frz (ZO (s.ld 0 / 2) sum) (.find sum (s.ld 0 / 2) t)))
 |.enter sum word t=>(s,Yx P room x s.res s.ser sum word (s.ld word) (s.hd word) t)
 |.frz word t=>(s,if Zb<=s.ld word then .on (Je (s.hd word) t) else .on (.frzS word (s.ld word) (s.hd word) t))
 |.frzS word v holds t=>if s.ld word=v then (s.sw word (v+Zb) holds,.on (Je holds t)) else (s,.on (.frz word t))
 |.half level shard holds t=>(s,if s.ld (ZO level shard)≠0 then XR P room x s.res s.ser (ZO level shard) (s.ld (ZO level shard)) (s.hd (ZO level shard)) t else .on (.halfS level shard holds t))
 |.halfS level shard holds t=>(if s.ld (ZO level shard)=0 then s.sw (ZO level shard) 1 (JU holds level (ZO level shard - 2 ^ level)) else s,XR P room x s.res s.ser (ZO level shard) 0 [] t)
 |.split=>(s,if s.ld 0 % 2=1 then .on (XM (s.ld 0 / 2) 0) else if s.ld 0 / 2=4 then .fin (YY 5) else .on (.splitS (s.ld 0)))
 |.splitS d=>if s.ld 0=d then (s.sw 0 (d+1) [],.on (XM (d / 2) 0)) else (s,.on .split)
 |.moveEnd level=>(if s.ld 0=2*level+1 then s.sw 0 (2*level+2) [] else s,.fin (YY 0))
 |.mv word by_ stop t=>(s,if s.ld word=stop then (match t with
   |.leave r=>.fin r
   |.gone _ _ _ _=>.fin (YY 0)
   |.count _ _ _=>.fin (YY 10)
   |.serial _ _=>YP s.res (YY 5)) else .on (.mvS word by_ stop (s.ld word) t))
 |.mvS word by_ stop v t=>if s.ld word=v then (match t with
   |.leave r=>(s.sw word ((v+by_) % 18446744073709551616) [],.fin r)
   |.gone j shards was n=>(s.sw word ((v+by_) % 18446744073709551616) [],Zu j shards (was+n))
   |.count f c r=>({s.sw word ((v+by_) % 18446744073709551616) []with res:=true},.on (.put f c r))
   |.serial f c=>({s.sw word ((v+by_) % 18446744073709551616) []with ser:=(((v+by_) % 18446744073709551616:Nat):Int)},
     .on (Ji room s.res f (ZAa (Zf P x.pol) c ((v+by_) % 18446744073709551616:Nat)).2 (ZAa (Zf P x.pol) c ((v+by_) % 18446744073709551616:Nat)).1)))
   else (s,.on (.mv word by_ stop t))
 |.put f c r=>if s.ld f.word=f.v then (s.sw f.word (f.v+1) (XL f.cells f.at_ f.there c),if f.there=false then .fin r else YP s.res r) else (s,.on (.find (Xw x.id) .begin))
 |.peek c=>(s,.fin (ZJB (Zf P x.pol) c s.clk))
 |.allow f c=>(s,if (Yg (Zf P x.pol) c s.clk x.n).1.granted=false\/x.n=0 then YP s.res (Yg (Zf P x.pol) c s.clk x.n).1 else .on (Ji room s.res f (Yg (Zf P x.pol) c s.clk x.n).2 (Yg (Zf P x.pol) c s.clk x.n).1))
 |.evFirst=>(s,.on (.find 0 (.evict 0 (2 ^ ((s.ld 0+1) / 2)) 0)))
 |.evScan j shards gone word v cells=>
  let rest:=cells.filter λc=>!ZAD P s.clk c
  (s,if cells.length - rest.length=0 then Zu j shards gone else .on (.evSwap j shards gone word v rest (cells.length - rest.length)))
 |.evSwap j shards gone word v rest n=>if s.ld word=v then (s.sw word (v+1) rest,.on (.mv 32 (18446744073709551616 - n) JG (.gone j shards gone n))) else (s,Zu j shards gone)
def JD (x:ZW):YX:=if x.op=6 then .split else if x.op=5 then .evFirst else .find (Xw x.id) .begin
inductive ZAP
 |idle
 |run (x:ZW) (res:Bool) (ser:Int) (k:YX)
structure Z9 where
 ws:List Nat
 hs:List (List ZL)
 clk:Nat
 call:Nat->ZAP
variable {s:Z9}
def Z9.kc (s:Z9)(res:Bool)(ser:Int):KC:=⟨s.ws,s.hs,s.clk,res,ser⟩
def Z9.put (s:Z9)(who:Nat)(c:ZAP):Z9:={s with call:=λi=>if i=who then c else s.call i}
theorem Zx (s:Z9)(who c):(s.put who c).call who=c:=Zgl rfl
theorem Z0 (s:Z9)(c)(h:i≠who):(s.put who c).call i=s.call i:=Zgk h
def Z9.of (s:Z9)(c:KC):Z9:={s with ws:=c.ws,hs:=c.hs,clk:=c.clk}
def YM (P:List YK)(room:Nat)(s:Z9)(who:Nat):Z9 × Option Zt:=match s.call who with
 |.idle=>(s,none)
 |.run x res ser k=>match Z6 P room x (s.kc res ser) k with
  |(c,.on k')=>((s.of c).put who (.run x c.res c.ser k'),none)
  |(c,.fin r)=>((s.of c).put who .idle,some r)
def Jd:Z9:=⟨(List.replicate 34 0).set 1 1,List.replicate 34 [],0,λ_=>.idle⟩
theorem ZFt {a b c:List Nat}(h1:ord a b<0)(h2:ord b c<=0):ord a c<0:=by have:=(ZQG a b c).2.1 h1 h2;omega
def ZAE (l:List ZL):Prop:=l.Pairwise λa b=>ord a.id b.id<0
theorem ZKl:∀(l:List ZL) (k:List Nat),atK l k<=l.length
 |[],_=>Zf6 _
 |e::l,k=>by
  unfold atK
  split
  ·have:=ZKl l k;simp only[ZfF];omega
  ·exact ZgR _
theorem ZEq:∀(l:List ZL) (k:List Nat) (i:Nat) (e:ZL),i<atK l k->l[i]?=some e->ord e.id k<0
 |[],_,_,_,h,_=>by unfold atK at h;omega
 |x::l,k,i,e,h,he=>by
  unfold atK at h
  split at h
  ·next hx=>
   cases i with
   |zero=>simp at he;subst he;exact hx
   |succ i=>exact ZEq l k i e ZB (by simpa using he)
  ·omega
theorem ZEp:∀(l:List ZL) (k:List Nat) (i:Nat) (e:ZL),ZAE l->atK l k<=i->l[i]?=some e->¬ord e.id k<0
 |[],_,_,_,_,_,he=>by simp at he
 |x::l,k,i,e,hs,h,he=>by
  unfold atK at h;have pB:=Zff.1 hs
  split at h
  ·cases i with
   |zero=>omega
   |succ i=>exact ZEp l k i e pB.2 ZB (by simpa using he)
  ·next hx=>
   cases i with
   |zero=>simp at he;subst he;exact hx
   |succ i=>
    have hm:e ∈ l:=ZfU (by simpa using he);exact λak=>hx (ZFt (pB.1 e hm) ZB)
theorem ZT1{k:List Nat}(hs:ZAE l)(hi:i<=l.length)(h1:∀j e,j<i->l[j]?=some e->ord e.id k<0)(h2:∀j e,i<=j->l[j]?=some e->¬ord e.id k<0):i=atK l k:=by
 have df:=ZKl l k;rcases Nat.lt_trichotomy i (atK l k)with h|h|h
 ·have eG:i<l.length:=by omega
  exact absurd (ZEq l k i _ h (Ze4 eG)) (h2 i _ (Zf6 i) (Ze4 eG))
 ·exact h
 ·have eG:atK l k<l.length:=by omega
  exact absurd (h1 _ _ h (Ze4 eG)) (ZEp l k _ _ hs (Zf6 _) (Ze4 eG))
theorem ZFL{k:List Nat}(h:ZAK l k=true):atK l k<l.length:=by
 unfold ZAK at h;cases he:l[atK l k]? with
 |none=>rw[he]at h;cases h
 |some e=>exact(Ze5.1 he).1
theorem ZFM{k:List Nat}(h:ZAK l k=true):∃c,l[atK l k]?=some c/\c.id=k:=by
 unfold ZAK at h;cases he:l[atK l k]? with
 |none=>rw[he]at h;cases h
 |some e=>
  rw[he]at h;exact⟨e,rfl,Zgp h⟩
theorem ZTK{k:List Nat}{e:ZL}(he:l[atK l k]?=some e):ZAK l k=decide (ord e.id k=0):=by
 unfold ZAK;rw[he];show decide (e.id=k)=_;by_cases h:e.id=k
 ·rw[Zgg h,Zgg ((ZKO _ _).2 h)]
 ·rw[Zgf h,Zgf (λh2=>h ((ZKO _ _).1 h2))]
theorem ZQ0{k:List Nat}(h:¬atK l k<l.length):ZAK l k=false:=by
 unfold ZAK;rw[List.getElem?_eq_none ZB]
theorem ZME{k:List Nat}(hs:ZAE l):ZAK l k=true↔∃e ∈ l,e.id=k:=by
 constructor
 ·intro h;obtain⟨c,hc,e⟩:=ZFM h;exact⟨c,ZfU hc,e⟩
 ·rintro⟨e,hm,rfl⟩;obtain⟨i,hi⟩:=Ze7 hm;have eG:=(Ze5.1 hi).1
  have jz:i=atK l e.id:=ZT1 hs ZB (λj x hj hx=>by
   obtain⟨a,b⟩:=Ze5.1 hx;obtain⟨c,d⟩:=Ze5.1 hi;rw[<-b,<-d];exact Zfg.1 hs j i a c hj) (λj x hj hx=>by
   rcases ZgC i j with h|h
   ·obtain⟨a,b⟩:=Ze5.1 hx;obtain⟨c,d⟩:=Ze5.1 hi;have:=Zfg.1 hs i j c a h;rw[d,b]at this;have h9:=ZLm e.id x.id;omega
   ·have:j=i:=by omega
    subst this;rw[hi]at hx;injection hx with hx;subst hx;rw[ZHm];omega)
  unfold ZAK;rw[<-jz,hi];exact Zgg rfl
theorem ZB7(h:ZAK l (pol::key)=true):∃c,l[atK l (pol::key)]?=some c/\c.pol=pol/\c.key=key/\YV l pol key=c:=by
 obtain⟨c,hc,e⟩:=ZFM h;unfold ZL.id at e;injection e with e1 e2;refine⟨c,hc,e1,e2,?_⟩;unfold YV;rw[Zgl h,hc];rfl
theorem ZCr(h:ZAK l (pol::key)=false):YV l pol key=⟨pol,key,0,[]⟩:=by
 unfold YV;rw[Zgk (by rw[h];exact ZeZ)]
theorem ZCG (l pol key):(YV l pol key).pol=pol/\(YV l pol key).key=key:=by
 cases h:ZAK l (pol::key)with
 |true=>
  obtain⟨c,_,e1,e2,e3⟩:=ZB7 h;rw[e3];exact⟨e1,e2⟩
 |false=>rw[ZCr h];exact⟨rfl,rfl⟩
theorem ZLE{k:List Nat}{e:ZL}(he:e ∈ l.take (atK l k)):ord e.id k<0:=by
 obtain⟨i,hi⟩:=Ze7 he;rw[ZfB]at hi
 split at hi
 ·next h=>exact ZEq l k i e h hi
 ·cases hi
theorem ZMM{k:List Nat}{e:ZL}(hs:ZAE l)(hn:ZAK l k=false)(he:e ∈ l.drop (atK l k)):ord k e.id<0:=by
 obtain⟨i,hi⟩:=Ze7 he;rw[Ze3]at hi;have h1:=ZEp l k _ e hs ZB hi;have h2:=ZLm e.id k;have h3:ord e.id k≠0:=λh0=>by
  have:=(ZME hs).2 ⟨e,ZfU hi,(ZKO _ _).1 h0⟩;rw[hn]at this;cases this
 omega
theorem ZF7{c:ZL}(hs:ZAE l):ZAE (XL l (atK l c.id) (ZAK l c.id) c):=by
 unfold XL;by_cases h:ZAK l c.id=true
 ·rw[Zgl h];obtain⟨d,hd,e⟩:=ZFM h;have ak:=ZFL h;have hm:(l.set (atK l c.id) c).map ZL.id=l.map ZL.id:=by
   rw[List.map_set];apply List.ext_getElem?;intro j;rw[List.getElem?_set]
   split
   ·next hj=>
    subst hj;rw[Ze6,hd,Zgl (by rw[List.length_map];exact ak)];exact Zge some e.symm
   ·rfl
  have:=List.pairwise_map (f:=ZL.id) (R:=λa b=>ord a b<0) (l:=l);have h2:=List.pairwise_map (f:=ZL.id) (R:=λa b=>ord a b<0) (l:=l.set (atK l c.id) c);exact h2.1 (by rw[hm];exact this.2 hs)
 ·rw[Zgk h];have hn:ZAK l c.id=false:=by simpa using h
  refine Zfe.2 ⟨hs.sublist (List.take_sublist _ _),Zff.2 ⟨λe he=>ZMM hs hn he,hs.sublist (List.drop_sublist _ _)⟩,λa ha b hb=>?_⟩;rcases ZfO.1 hb with hb|hb
  ·rw[hb];exact ZLE ha
  ·have h1:=ZLE ha;have h2:=ZMM hs hn hb;exact ZFt h1 ZB
theorem ZE0{b:Bool}{c d:ZL}(h:d ∈ XL l i b c):d=c\/d ∈ l:=by
 unfold XL at h
 split at h
 ·exact(ZfY h).symm
 ·rcases ZfN.1 h with h|h
  ·exact .inr (ZfX h)
  ·rcases ZfO.1 h with h|h
   ·exact .inl h
   ·exact .inr (ZfV h)
theorem ZIk(hs:ZAE l)(p:ZL->Bool):ZAE (l.filter p):=hs.sublist List.filter_sublist
def Yt (p:YK):Prop:=(p.kind=1/\1<=p.T/\p.T<=4611686018427387903/\0<=p.Tau/\p.Tau<=4611686018427387903)\/(p.kind=2/\1<=p.perm/\p.perm<=64)
def ZBp (P:List YK)(c:ZL):Prop:=c.pol<P.length/\c.key.length<=255/\(∀x ∈ c.key,x<256)/\0<=c.tat/\c.tat<=4611686018427387903/\ZCJ c.held/\c.held.length<=64/\((Zf P c.pol).kind=2->(c.held.length:Int)<=(Zf P c.pol).perm)
def Yu (P:List YK)(l:List ZL):Prop:=ZAE l/\(∀c ∈ l,ZBp P c)/\l.length<=5000
theorem ZMb(h:∀c ∈ l,ZBp P c)(hp:pol<P.length)(hk:key.length<=255)(hb:∀x ∈ key,x<256)(hP:∀p ∈ P,Yt p):ZBp P (YV l pol key):=by
 cases hh:ZAK l (pol::key)with
 |true=>
  obtain⟨c,hc,e1,e2,e3⟩:=ZB7 hh;rw[e3];exact h c (ZfU hc)
 |false=>
  rw[ZCr hh];refine⟨hp,hk,hb,Int.le_refl _,(show(0:Int)<=4611686018427387903 by decide),(λj hj=>absurd hj (ZgL _)),ZgR _,λjP=>?_⟩;have hm:Zf P pol ∈ P:=by
   unfold Zf;rw[Zez,Ze4 hp];exact List.getElem_mem hp
  rcases hP _ hm with h9|h9
  ·have h8:(Zf P pol).kind=2:=jP;omega
  ·show((0:Nat):Int)<=_;have h7:1<=(Zf P pol).perm:=h9.2.1;show((0:Nat):Int)<=(Zf P pol).perm;omega
theorem ZOm:∀(l:List Int) (t:Int),atI l t<=l.length
 |[],_=>Zf6 _
 |x::l,t=>by
  unfold atI
  split
  ·have:=ZOm l t;simp only[ZfF];omega
  ·exact ZgR _
theorem ZIK:∀(l:List Int) (t:Int) (i:Nat),i<atI l t->l.getD i 0<t
 |[],_,_,h=>by unfold atI at h;omega
 |x::l,t,i,h=>by
  unfold atI at h
  split at h
  ·next hx=>
   cases i with
   |zero=>simpa using hx
   |succ i=>simpa using ZIK l t i ZB
  ·omega
theorem ZKm {l:List Int}(hg:ZCJ l)(t):At l t (atI l t):=by
 have stop:∀(l:List Int) (t:Int),atI l t<l.length->t<=l.getD (atI l t) 0:=by
  intro l t
  induction l with
  |nil=>intro h;exact absurd h (ZgL _)
  |cons x l ih=>
   unfold atI
   split
   ·next hx=>
    intro h;simp only[ZfF]at h;simpa using ih ZB
   ·next hx=>
    intro _;simp;omega
 refine⟨ZOm l t,λj hj=>ZIK l t j hj,λj hj hl=>?_⟩;rcases ZgC (atI l t) j with h|h
 ·have h1:=stop l t ZB;have h2:=ZGw hg j (atI l t) h hl;omega
 ·have e:j=atI l t:=by omega
  subst e;exact stop l t hl
def Yn (P:List YK)(x:ZW):Prop:=1<=x.op/\x.op<=6/\(x.op<=4->x.pol<P.length/\x.key.length<=255/\∀b ∈ x.key,b<256)/\(x.op=1->(Zf P x.pol).kind=1/\0<=x.n/\x.n<=4611686018427387903)/\(x.op=2\/x.op=3->(Zf P x.pol).kind=2)
def ZCY (x:ZW):ZAc->Prop
 |.begin=>x.op<=4
 |.evict j shards gone=>x.op=5/\j<shards/\shards<=16/\0<=gone/\gone<=5000*j
def RIn (r:Zt):Prop:=r.er<=16/\(0<=r.left/\r.left<=4611686018427387903)/\(0<=r.wait/\r.wait<=4611686018427387903)/\(0<=r.ser/\r.ser<=4611686018427387903)/\(0<=r.now/\r.now<=4611686018427387903)
theorem ZBB {e:Nat}(h:e<=16):RIn (YY e):=by
 have z:(0:Int)<=0/\(0:Int)<=4611686018427387903:=by decide
 exact⟨h,z,z,z,z⟩
structure WH where
 ws:List Nat
 hs:List (List ZL)
variable {s':WH}
def Z9.wh (s:Z9):WH:=⟨s.ws,s.hs⟩
def KC.wh (s:KC):WH:=⟨s.ws,s.hs⟩
def ZJo (x:ZW)(sum:Nat):ZAc->Prop
 |.begin=>sum=Xw x.id
 |.evict j _ _=>sum=j
def ZDD (N:Nat)(s:WH)(word v:Nat)(l:List ZL):Prop:=1<=word/\word<32/\v<=N/\v<=s.ws.getD word 0/\(s.ws.getD word 0=v->s.hs.getD word []=l)
def ZDF (s:WH)(l:List ZL):Prop:=∃i,1<=i/\i<32/\Zb<=s.ws.getD i 0/\s.hs.getD i []=l
structure JY (P:List YK)(N:Nat)(s:WH)(x:ZW)(f:Yb):Prop where
 same:ZDD N s f.word f.v f.cells
 ok:Yu P f.cells
 at_:f.at_=atK f.cells x.id
 there:f.there=ZAK f.cells x.id
 ser:∀c ∈ f.cells,∀z ∈ c.held,z<=(s.ws.getD 33 0:Int)
structure ZDH (P:List YK)(s:WH)(x:ZW)(ser:Int)(f:Yb)(c:ZL):Prop where
 ok:ZBp P c
 id:c.id=x.id
 held:∀z ∈ c.held,z ∈ (YV f.cells x.pol x.key).held\/(z=ser/\ser≠0)
def FOk (P:List YK)(s:WH)(x:ZW):ZAQ->Prop
 |.find sum level t=>ZCY x t/\ZJo x sum t/\sum<18446744073709551616/\level<=3
 |.move level i=>level<=3/\i<2 ^ level
def HOk (P:List YK)(s:WH)(x:ZW):Jk->Prop
 |.find sum t=>ZCY x t/\ZJo x sum t/\sum<18446744073709551616
 |.move1 level i holds=>level<=3/\i<2 ^ level/\Yu P holds/\ZDF s holds
 |.move2 level i=>level<=3/\i<2 ^ level
def MOk (P:List YK)(room N:Nat)(s:WH)(x:ZW)(res:Bool)(ser:Int)(word by_ stop:Nat):ZBs->Prop
 |.leave r=>word=32/\by_=JG/\stop=JG/\RIn r
 |.gone j shards was n=>word=32/\stop=JG/\x.op=5/\j<shards/\shards<=16/\0<=was/\was<=5000*j/\n<=5000/\by_=18446744073709551616 - n
 |.count f c r=>word=32/\by_=1/\stop=room/\x.op<=3/\JY P N s x f/\ZDH P s x ser f c/\RIn r
 |.serial f c=>word=33/\by_=1/\stop=4611686018427387903/\x.op=2/\ser=0/\JY P N s x f/\c=YV f.cells x.pol x.key/\(c.held.length:Int)<(Zf P x.pol).perm
def ZBn (P:List YK)(room N:Nat)(s:WH)(x:ZW)(res:Bool)(ser:Int):YX->Prop
 |.find sum t=>ZCY x t/\ZJo x sum t/\sum<18446744073709551616
 |.enter sum word t=>ZCY x t/\ZJo x sum t/\sum<18446744073709551616/\1<=word/\word<32
 |.frz word t=>FOk P s x t/\1<=word/\word<32
 |.frzS word v holds t=>FOk P s x t/\ZDD N s word v holds/\Yu P holds
 |.half level _ holds t=>1<=level/\level<=4/\HOk P s x t/\Yu P holds/\ZDF s holds
 |.halfS level _ holds t=>1<=level/\level<=4/\HOk P s x t/\Yu P holds/\ZDF s holds
 |.split=>True
 |.splitS d=>d % 2=0/\d<=6
 |.moveEnd level=>level<=3
 |.mv word by_ stop t=>MOk P room N s x res ser word by_ stop t
 |.mvS word by_ stop _ t=>MOk P room N s x res ser word by_ stop t
 |.put f c r=>x.op<=3/\JY P N s x f/\ZDH P s x ser f c/\RIn r
 |.peek c=>x.op=4/\(Zf P x.pol).kind=1/\ZBp P c
 |.allow f c=>x.op=1/\JY P N s x f/\c=YV f.cells x.pol x.key
 |.evFirst=>x.op=5
 |.evScan j shards gone word v cells=>x.op=5/\j<shards/\shards<=16/\0<=gone/\gone<=5000*j/\ZDD N s word v cells/\Yu P cells
 |.evSwap j shards gone word v rest n=>x.op=5/\j<shards/\shards<=16/\0<=gone/\gone<=5000*j/\1<=n/\n<=5000/\∃cells,ZDD N s word v cells/\Yu P cells/\rest.Sublist cells/\rest.length+n<=cells.length
def YX.fresh:YX->Prop
 |.mv _ _ _ (.leave _)=>False
 |.mvS _ _ _ _ (.leave _)=>False
 |_=>True
structure ZXI (P:List YK)(room N:Nat)(s:WH)(x:ZW)(res:Bool)(ser:Int)(k:YX):Prop where
 call:Yn P x
 ser0:ser≠0->x.op=2/\1<=ser/\ser<=(s.ws.getD 33 0:Int)
 fresh:k.fresh->ser≠0->∀i,∀c ∈ s.hs.getD i [],ser ∉ c.held
 kont:ZBn P room N s x res ser k
structure WOk (P:List YK)(N M:Nat)(s:WH):Prop where
 lw:s.ws.length=34
 lh:s.hs.length=34
 d:s.ws.getD 0 0<=8
 word:∀i,1<=i->i<32->s.ws.getD i 0<=N\/(Zb<=s.ws.getD i 0/\s.ws.getD i 0<=Zb+N)
 n33:s.ws.getD 33 0<=N
 cells:∀i,Yu P (s.hs.getD i [])/\(s.hs.getD i []).length<=M
 held:∀i,∀c ∈ s.hs.getD i [],∀z ∈ c.held,z<=(s.ws.getD 33 0:Int)
structure ZCZ (P:List YK)(room N M:Nat)(s:Z9):Prop where
 w:WOk P N M s.wh
 clk:(s.clk:Int)<=4611686018427387903
 run:∀who x res ser k,s.call who=.run x res ser k->ZXI P room N s.wh x res ser k
 dist:∀a b x res ser k x' res' ser' k',s.call a=.run x res ser k->s.call b=.run x' res' ser' k'->ser≠0->ser=ser'->a=b
structure ZAj (s s':WH):Prop where
 sh:∀i,1<=i->i<32->(s'.ws.getD i 0=s.ws.getD i 0/\s'.hs.getD i []=s.hs.getD i [])\/(s.ws.getD i 0<s'.ws.getD i 0/\s.ws.getD i 0<Zb)
 n33:s.ws.getD 33 0<=s'.ws.getD 33 0
theorem ZDD.grow{s:WH}{word v:Nat}(h:ZDD N s word v l)(g:ZAj s s'):ZDD (N+1) s' word v l:=by
 obtain⟨h1,h2,h3,h4,h5⟩:=h;rcases g.sh word h1 h2 with⟨a,b⟩|⟨a,b⟩
 ·exact⟨h1,h2,by omega,by omega,λe=>by rw[b];exact h5 ZB⟩
 ·exact⟨h1,h2,by omega,by omega,λe=>by omega⟩
theorem ZDF.grow{s:WH}(h:ZDF s l)(g:ZAj s s'):ZDF s' l:=by
 obtain⟨i,h1,h2,h3,h4⟩:=h;rcases g.sh i h1 h2 with⟨a,b⟩|⟨a,b⟩
 ·exact⟨i,h1,h2,by omega,by rw[b];exact h4⟩
 ·omega
theorem JY.grow{s:WH}(h:JY P N s x f)(g:ZAj s s'):JY P (N+1) s' x f:=⟨h.same.grow g,h.ok,h.at_,h.there,λc hc z hz=>by have:=h.ser c hc z hz;have:=g.n33;omega⟩
theorem ZDH.grow{s:WH}(s'){c:ZL}(h:ZDH P s x ser f c):ZDH P s' x ser f c:=⟨h.ok,h.id,h.held⟩
theorem FOk.grow{s:WH}(s'){t:ZAQ}(h:FOk P s x t):FOk P s' x t:=by cases t<;>exact h
theorem HOk.grow{s:WH}{t:Jk}(h:HOk P s x t)(g:ZAj s s'):HOk P s' x t:=by
 cases t with
 |find sum t=>exact h
 |move1 level i holds=>exact⟨h.1,h.2.1,h.2.2.1,h.2.2.2.grow g⟩
 |move2 level i=>exact h
theorem MOk.grow{s:WH}{word by_ stop:Nat}{t:ZBs}(h:MOk P room N s x res ser word by_ stop t)(g:ZAj s s'):MOk P room (N+1) s' x res ser word by_ stop t:=by
 cases t with
 |leave r=>exact h
 |gone j shards was n=>exact h
 |count f c r=>obtain⟨a,b,c,d,e,f,i⟩:=h;exact⟨a,b,c,d,e.grow g,f.grow s',i⟩
 |serial f c=>obtain⟨a,b,c,d,e,f,i,j⟩:=h;exact⟨a,b,c,d,e,f.grow g,i,j⟩
theorem ZBn.grow{s:WH}{k:YX}(h:ZBn P room N s x res ser k)(g:ZAj s s'):ZBn P room (N+1) s' x res ser k:=by
 cases k with
 |find sum t=>exact h
 |enter sum word t=>exact h
 |frz word t=>exact⟨h.1.grow s',h.2⟩
 |frzS word v holds t=>exact⟨h.1.grow s',h.2.1.grow g,h.2.2⟩
 |half level shard holds t=>obtain⟨a,b,c,d,e⟩:=h;exact⟨a,b,c.grow g,d,e.grow g⟩
 |halfS level shard holds t=>obtain⟨a,b,c,d,e⟩:=h;exact⟨a,b,c.grow g,d,e.grow g⟩
 |split=>exact h
 |splitS d=>exact h
 |moveEnd level=>exact h
 |mv word by_ stop t=>exact MOk.grow (t:=t) (res:=res) h g
 |mvS word by_ stop v t=>exact MOk.grow (t:=t) (res:=res) h g
 |put f c r=>obtain⟨a,b,c,d⟩:=h;exact⟨a,b.grow g,c.grow s',d⟩
 |peek c=>exact h
 |allow f c=>obtain⟨a,b,c⟩:=h;exact⟨a,b.grow g,c⟩
 |evFirst=>exact h
 |evScan j shards gone word v cells=>obtain⟨a,b,c,d,e,f,i⟩:=h;exact⟨a,b,c,d,e,f.grow g,i⟩
 |evSwap j shards gone word v rest n=>obtain⟨a,b,c,d,e,f,i,cl,j1,j2,j3⟩:=h;exact⟨a,b,c,d,e,f,i,cl,j1.grow g,j2,j3⟩
def Zs.fresh:Zs->Prop
 |.on k=>k.fresh
 |.fin _=>False
def ZDO (P:List YK)(room N:Nat)(s:WH)(x:ZW)(res:Bool)(ser:Int):Zs->Prop
 |.on k=>ZBn P room N s x res ser k
 |.fin r=>RIn r
def Old (s:WH)(z:Int):Prop:=∃i,∃c ∈ s.hs.getD i [],z ∈ c.held
structure ZOq (P:List YK)(room N M:Nat)(w:WH)(clk:Nat)(x:ZW)(ser:Int)(k:YX)(c:KC)(out:Zs):Prop where
 g:ZAj w c.wh
 wok:WOk P (N+1) M c.wh
 ck:c.clk=clk
 sn:c.ser=ser\/(ser=0/\x.op=2/\c.ser=(c.ws.getD 33 0:Int)/\w.ws.getD 33 0<c.ws.getD 33 0)
 orig:(∀i,∀c' ∈ c.hs.getD i [],∀z ∈ c'.held,Old w z)\/((∀i,∀c' ∈ c.hs.getD i [],∀z ∈ c'.held,Old w z\/(z=ser/\ser≠0))/\c.ser=ser/\¬out.fresh)
 fr:out.fresh->k.fresh
 ok:ZDO P room (N+1) c.wh x c.res c.ser out
def ZQE (x:ZW)(c:KC):Zs->ZAP
 |.on k=>.run x c.res c.ser k
 |.fin _=>.idle
theorem ZQi{M M':Nat}{k:YX}{c:KC}{out:Zs}(h:ZCZ P room N M s)(hc:s.call who=.run x res ser k)(hs:ZOq P room N M' s.wh s.clk x ser k c out):ZCZ P room (N+1) M' ((s.of c).put who (ZQE x c out)):=by
 have hr:=h.run who x res ser k hc;have df:∀b x' res' ser' k',s.call b=.run x' res' ser' k'->ser'≠0->ser'<=(s.ws.getD 33 0:Int):=λb x' r' s' k' e n=>((h.run b x' r' s' k' e).ser0 n).2.2;have Bn:s.ws.getD 33 0<=c.ws.getD 33 0:=hs.g.n33;have hnew:∀b x' res' ser' k',b≠who->s.call b=.run x' res' ser' k'->ser'≠0->c.ser≠0->c.ser≠ser':=by
  intro b x' r' s' k' hb e n n2 e2;rcases hs.sn with q|⟨q1,q2,q3,q4⟩
  ·exact hb (h.dist b who x' r' s' k' x res ser k e hc n (by rw[<-e2,q]))
  ·have:=df b x' r' s' k' e n;have q4:s.ws.getD 33 0<c.ws.getD 33 0:=q4;omega
 refine⟨hs.wok,by have:=h.clk;have h2:c.clk=s.clk:=hs.ck;show(c.clk:Int)<=_;omega,λb x' res' ser' k' hb=>?_,λa b x1 r1 s1 k1 x2 r2 s2 k2 ha hb n e=>?_⟩
 ·by_cases e:b=who
  ·subst e;rw[Zx]at hb;cases out with
   |fin r=>cases hb
   |on k2=>
    cases hb;refine⟨hr.call,λn=>?_,λf n i d hd hz=>?_,hs.ok⟩
    ·rcases hs.sn with q|⟨q1,q2,q3,q4⟩
     ·have:=hr.ser0 (by rw[<-q];exact n);exact⟨this.1,by rw[q];exact this.2.1,by rw[q];have h2:=this.2.2;show ser<=(c.ws.getD 33 0:Int);have h2:ser<=(s.ws.getD 33 0:Int):=h2;omega⟩
     ·have q4:s.ws.getD 33 0<c.ws.getD 33 0:=q4;exact⟨q2,by rw[q3];omega,by rw[q3];exact Int.le_refl _⟩
    ·rcases hs.orig with o|⟨_,_,o⟩
     ·obtain⟨i',d',ri,mY⟩:=o i d hd _ hz;rcases hs.sn with q|⟨q1,q2,q3,q4⟩
      ·rw[q]at mY n;exact hr.fresh (hs.fr f) n i' d' ri mY
      ·have:=h.w.held i' d' ri _ mY;have q4:s.ws.getD 33 0<c.ws.getD 33 0:=q4;have this:c.ser<=(s.ws.getD 33 0:Int):=this;omega
     ·exact o f
  ·rw[Z0 _ _ e]at hb;have hb:s.call b=.run x' res' ser' k':=hb;have r2:=h.run b x' res' ser' k' hb;refine⟨r2.call,λn=>?_,λf n i d hd hz=>?_,r2.kont.grow hs.g⟩
   ·have:=r2.ser0 n;exact⟨this.1,this.2.1,by have h2:ser'<=(s.ws.getD 33 0:Int):=this.2.2;show ser'<=(c.ws.getD 33 0:Int);omega⟩
   ·have old:Old s.wh ser'->False:=λ⟨i',d',ri,mY⟩=>r2.fresh f n i' d' ri mY;rcases hs.orig with o|⟨o,o2,_⟩
    ·exact old (o i d hd _ hz)
    ·rcases o i d hd _ hz with o3|⟨o3,o4⟩
     ·exact old o3
     ·exact hnew b x' res' ser' k' e hb n (by rw[o2];exact o4) (by rw[o2,o3])
 ·by_cases ea:a=who
  ·by_cases eb:b=who
   ·rw[ea,eb]
   ·rw[ea,Zx]at ha;rw[Z0 _ _ eb]at hb;cases out with
    |fin r=>cases ha
    |on k2=>
     cases ha;exact absurd e (hnew b x2 r2 s2 k2 eb hb (by rw[<-e];exact n) n)
  ·rw[Z0 _ _ ea]at ha;by_cases eb:b=who
   ·rw[eb,Zx]at hb;cases out with
    |fin r=>cases hb
    |on k2=>
     cases hb;exact absurd e.symm (hnew a x1 r1 s1 k1 ea ha n (by rw[<-e];exact n))
   ·rw[Z0 _ _ eb]at hb;exact h.dist a b x1 r1 s1 k1 x2 r2 s2 k2 ha hb n e
theorem ZE{cs:Array Value}(h:w.heap[g]?=some (.cells cs t (0,0)))(i):w.cell? ⟨g,i,none⟩=cs[i]?:=cell_of_row w g i cs t (0,0) h
theorem ZG{cs:Array Value}(h:w.heap[g]?=some (.cells cs t (0,0)))(i):w.frozen? ⟨g,i,none⟩=false:=frozen_of_row w g i cs t h
theorem ZX{o:Obj}(h:w.heap[g]?=some o):g<w.heap.size:=(ZeT.1 h).1
theorem ZR{cs:Array Value}(h:w.heap[g]?=some (.cells cs t (0,0)))(i u):(w.setCell ⟨g,i,none⟩ u).heap[g]?=some (.cells (cs.setIfInBounds i u) t (0,0)):=heap_setCell_same w g i cs t u h
theorem ZI(h:w.cell? p=some v)(o):(w.alloc o).cell? p=some v:=(World.cell?_alloc_lt w o p (ZgT w p h)).trans h
theorem ZGO(ak:p.block<w.heap.size)(h:w.frozen? p=false)(o):(w.alloc o).frozen? p=false:=(World.frozen?_alloc_old w o p (ZgK ak)).trans h
theorem ZQ {w:World}{g:Nat}{o:Obj}(h:w.heap[g]?=some o)(o':Obj):(w.alloc o').heap[g]?=some o:=(Below.heap_alloc w o' g (ZX h)).trans h
theorem ZV (w:World)(o):(w.alloc o).heap[w.heap.size]?=some o:=Zgi w o
theorem Ze (w:World)(g i u):w.grownBy (w.setCell ⟨g,i,none⟩ u) (some g):=⟨rfl,rfl,rfl,by simp,λk _ hk=>Zgj w ⟨g,i,none⟩ k u (λe=>hk (by simp[e]))⟩
theorem Zq(h:w.grownBy a row)(o):w.grownBy (a.alloc o) row:=World.grown_trans h (ZgY a o row)
theorem ZU(h:w.grownBy a (some g))(i u):w.grownBy (a.setCell ⟨g,i,none⟩ u) (some g):=World.grown_trans h (Ze a g i u)
theorem ZAV(h:w.grownBy a row)(k:ZM a b):w.grownBy b row:=⟨k.os.trans h.os,k.tape.trans h.tape,k.output.trans h.output,Zf8 h.size k.size,λi hi ag=>(k.block i (ZgB hi h.size)).trans (h.block i hi ag)⟩
theorem ZK {w a:World}{g:Nat}{o:Obj}(h:w.heap[g]?=some o)(k:ZM w a):a.heap[g]?=some o:=(k.block g (ZX h)).trans h
theorem YL(h:ZM a b)(row):a.grownBy b row:=⟨h.os,h.tape,h.output,h.size,λi hi _=>h.block i hi⟩
theorem Zl{r:Nat}{o:Obj}(h:w.heap[g]?=some o)(hg:w.grownBy w' (some r))(ag:g≠r):w'.heap[g]?=some o:=(hg.block g (ZX h) (λe=>ag (by injection e))).trans h
theorem ZAl{cs:Array Value}(h:w.heap[g]?=some (.cells cs t (0,0)))(i o):(w.alloc o).frozen? ⟨g,i,none⟩=false:=ZGO (p:=⟨g,i,none⟩) (ZX h) (ZG h i) o
theorem ZAL(h:w.grownBy a row):w.grownBy a.drew row:=⟨h.os,h.tape,h.output,h.size,h.block⟩
theorem XC(h:w.drew.grownBy a row):w.grownBy a row:=⟨h.os,h.tape,h.output,h.size,h.block⟩
theorem JJ(h:w.grownBy a row)(hg:a.grownBy b (some g))(jR:w.heap.size<=g):w.grownBy b row:=⟨hg.os.trans h.os,hg.tape.trans h.tape,hg.output.trans h.output,Zf8 h.size hg.size,λi hi ag=>(hg.block i (ZgB hi h.size) (λe=>by injection e with e;omega)).trans (h.block i hi ag)⟩
theorem ZAH{B:Nat}{xs:List Value}(h:w.ownsRow B e 1 (.slice A n c) n xs)(hg:g<B):(Value.slice A n c).ownBlock=none\/(Value.slice A n c).ownBlock≠some g:=by
 cases hA:(Value.slice A n c).ownBlock with
 |none=>exact .inl rfl
 |some q=>exact .inr λe=>by injection e with e;have:=Yw h q hA;omega
theorem ZJ(h:w.cell? p=some v):w.drew.cell? p=some v:=h
theorem ZF(h:ZM w w')(hc:w.cell? p=some v):w'.cell? p=some v:=(h.cell (ZgT w p hc)).trans hc
theorem Yr(h:ZM w W)(hG:W.grownBy w2 (some g))(hg:w.heap.size<=g):ZM w w2:=h.grown hG (λk hk=>by injection hk with hk;omega)
theorem Yy {P:Program}{fn:Func}{p u:Tmp}{ty:TypeId}(h:fn.results=#[.cell p ty,.tmp u])(tmps:Array Value)(w:World)(g:Nat)(t:TypeId)(cs:Array Value)(fr:Nat × Nat)(d:TypeDesc)(hp:tmps.getD p undef=.pointer (some ⟨g,0,none⟩))(hg:w.heap[g]?=some (.cells cs t fr))(hu:P.underlying ty=some d)(hd:(match d with|.struct _|.array _ _=>true|_=>false)=true)(hi:(P.info? ty).map (·.size)=some cs.size): (results fn tmps).run P w=.ok (.tuple #[.agg cs,tmps.getD u undef]) w:=by
 rw[results_cell_tmp h,hp];simp[asAddr,Zgt w g t ty cs fr d hg hu hd hi,Result.andThen]
theorem ZTP (w:World)(g a b):w.grownBy ((w.setCell ⟨g,0,none⟩ a).setCell ⟨g,1,none⟩ b) (some g):=ZU (Ze w g 0 a) 1 b
theorem ZUd{x:Value}(h:w.heap[g]?=some (.cells #[x,y] t (0,0)))(a b):((w.setCell ⟨g,0,none⟩ a).setCell ⟨g,1,none⟩ b).heap[g]?=some (.cells #[a,b] t (0,0)):=ZR (ZR h 0 a) 1 b
theorem ZH8(h:ZM w w2)(hg:w.heap.size<=g)(a b):ZM w ((w2.setCell ⟨g,0,none⟩ a).setCell ⟨g,1,none⟩ b):=Yr h (ZTP w2 g a b) hg
theorem ZLk{B:Nat}{xs:List Value}(h:w.ownsRow B e 1 (.slice A n c) n xs)(hg:g<B)(x y):((w.setCell ⟨g,0,none⟩ x).setCell ⟨g,1,none⟩ y).ownsRow g e 1 (.slice A n c) n xs:=Zj (h.kept (ZTP w g x y) (ZAH h hg)) (Zf5 hg)
theorem Zd{u:Value}(h:w.cell? p=some v)(ag:p.block≠g):(w.setCell ⟨g,i,none⟩ u).cell? p=some v:=(ZgW _ _ _ _ (λe=>ag (by rw[<-e]))).trans h
theorem ZPA{B vb:Nat}{xs:List Value}(h:w.ownsRow B e 1 (.slice A n c) n xs)(hv:vb<B\/w.heap.size<=vb):(Value.slice A n c).ownBlock≠some vb:=λe=>by
 have:=h.lt vb e;omega
theorem ZW0{x z:Value}(h:w.heap[g]?=some (.cells #[x,y,z] t (0,0)))(a b c):(((w.setCell ⟨g,0,none⟩ a).setCell ⟨g,1,none⟩ b).setCell ⟨g,2,none⟩ c).heap[g]?=some (.cells #[a,b,c] t (0,0)):=ZR (ZR (ZR h 0 a) 1 b) 2 c
theorem ZBA{x z:Value}(h:w.heap[g]?=some (.cells #[x,y,z,v] t (0,0)))(a b c d):((((w.setCell ⟨g,0,none⟩ a).setCell ⟨g,1,none⟩ b).setCell ⟨g,2,none⟩ c).setCell ⟨g,3,none⟩ d).heap[g]?=some (.cells #[a,b,c,d] t (0,0)):=ZR (ZR (ZR (ZR h 0 a) 1 b) 2 c) 3 d
theorem ZX7 {p : Prop} (h : p := by with_reducible first | assumption | (refine ZJ ?_; assumption) | (refine ZI ?_ _; assumption) | (refine ZJ (ZI ?_ _); assumption)) : p := h
theorem ZX9 {p : Prop} (h : p := by with_reducible first | assumption | (refine ZJ ?_; assumption) | (refine ZI ?_ _; assumption) | (refine ZJ (ZI ?_ _); assumption) | (refine Zd ?_ ?_ <;> assumption) | (refine ZJ (Zd ?_ ?_) <;> assumption)) : p := h
theorem ZX1 {b : Nat} {cs : Array Value} (h : w.heap[b]? = some (.cells cs t (0, 0))) (i v)(e : cs[i]? = some v := by rfl) : w.cell? ⟨b, i, none⟩ = some v := (ZE h i).trans e
theorem ZYB {b : Nat} (h : w.heap[b]? = some (.cells #[a0, a1, a2, a3] t (0, 0))) : w.cell? ⟨b, 0, none⟩ = some a0 ∧ w.frozen? ⟨b, 0, none⟩ = false ∧ w.cell? ⟨b, 1, none⟩ = some a1 ∧ w.frozen? ⟨b, 1, none⟩ = false ∧ w.cell? ⟨b, 2, none⟩ = some a2 ∧ w.frozen? ⟨b, 2, none⟩ = false ∧ w.cell? ⟨b, 3, none⟩ = some a3 ∧ w.frozen? ⟨b, 3, none⟩ = false := ⟨ZE h 0, ZG h 0, ZE h 1, ZG h 1, ZE h 2, ZG h 2, ZE h 3, ZG h 3⟩
theorem ZYC {b : Nat} (h : w.heap[b]? = some (.cells #[a0, a1, a2, a3, a4, a5] t (0, 0))) : w.cell? ⟨b, 0, none⟩ = some a0 ∧ w.frozen? ⟨b, 0, none⟩ = false ∧ w.cell? ⟨b, 1, none⟩ = some a1 ∧ w.frozen? ⟨b, 1, none⟩ = false ∧ w.cell? ⟨b, 2, none⟩ = some a2 ∧ w.frozen? ⟨b, 2, none⟩ = false ∧ w.cell? ⟨b, 3, none⟩ = some a3 ∧ w.frozen? ⟨b, 3, none⟩ = false ∧ w.cell? ⟨b, 4, none⟩ = some a4 ∧ w.frozen? ⟨b, 4, none⟩ = false ∧ w.cell? ⟨b, 5, none⟩ = some a5 ∧ w.frozen? ⟨b, 5, none⟩ = false := ⟨ZE h 0, ZG h 0, ZE h 1, ZG h 1, ZE h 2, ZG h 2, ZE h 3, ZG h 3, ZE h 4, ZG h 4, ZE h 5, ZG h 5⟩
theorem ZYD {b : Nat} (h : w.heap[b]? = some (.cells #[a0, a1, a2, a3, a4, a5, a6] t (0, 0))) : w.cell? ⟨b, 0, none⟩ = some a0 ∧ w.frozen? ⟨b, 0, none⟩ = false ∧ w.cell? ⟨b, 1, none⟩ = some a1 ∧ w.frozen? ⟨b, 1, none⟩ = false ∧ w.cell? ⟨b, 2, none⟩ = some a2 ∧ w.frozen? ⟨b, 2, none⟩ = false ∧ w.cell? ⟨b, 3, none⟩ = some a3 ∧ w.frozen? ⟨b, 3, none⟩ = false ∧ w.cell? ⟨b, 4, none⟩ = some a4 ∧ w.frozen? ⟨b, 4, none⟩ = false ∧ w.cell? ⟨b, 5, none⟩ = some a5 ∧ w.frozen? ⟨b, 5, none⟩ = false ∧ w.cell? ⟨b, 6, none⟩ = some a6 ∧ w.frozen? ⟨b, 6, none⟩ = false := ⟨ZE h 0, ZG h 0, ZE h 1, ZG h 1, ZE h 2, ZG h 2, ZE h 3, ZG h 3, ZE h 4, ZG h 4, ZE h 5, ZG h 5, ZE h 6, ZG h 6⟩
structure GB (w w':World)(S:Zhf):Prop where
 os:w'.os=w.os
 tape:w'.tape=w.tape
 output:w'.output=w.output
 size:w.heap.size<=w'.heap.size
 block:∀i,i<w.heap.size->¬S i->w'.heap[i]?=w.heap[i]?
theorem GB.of_ext(S)(h:ZM w w'):GB w w' S:=⟨h.os,h.tape,h.output,h.size,λi hi _=>h.block i hi⟩
theorem GB.refl (w S):GB w w S:=GB.of_ext S (ZM.refl w)
theorem GB.grown(h:GB w a S)(k:a.grownBy b row)(hr:∀q,row=some q->S q\/w.heap.size<=q):GB w b S:=
 ⟨k.os.trans h.os,k.tape.trans h.tape,k.output.trans h.output,Zf8 h.size k.size,λi hi hs=>(k.block i (ZgB hi h.size) (λe=>by
  rcases hr i e.symm with h'|h'
  ·exact hs h'
  ·omega)).trans (h.block i hi hs)⟩
theorem GB.ext(h:GB w a S)(k:ZM a b):GB w b S:=h.grown (row:=none) (YL k none) (λq e=>by cases e)
theorem GB.alloc(h:GB w a S)(o):GB w (a.alloc o) S:=h.ext ((ZM.refl a).alloc o)
theorem GB.drew(h:GB w a S):GB w a.drew S:=h.ext (ZM.refl a).drew
theorem GB.set(h:GB w a S)(g i u)(hg:S g\/w.heap.size<=g):GB w (a.setCell ⟨g,i,none⟩ u) S:=h.grown (Ze a g i u) (λq e=>by injection e with e;subst e;exact hg)
theorem GB.trans(h:GB w a S)(k:GB a b S')(hs:∀i,S' i->S i\/w.heap.size<=i):GB w b S:=
 ⟨k.os.trans h.os,k.tape.trans h.tape,k.output.trans h.output,Zf8 h.size k.size,λi hi hn=>(k.block i (ZgB hi h.size) (λe=>by
  rcases hs i e with h'|h'
  ·exact hn h'
  ·omega)).trans (h.block i hi hn)⟩
theorem GB.back(h:ZM w a)(k:GB a b S):GB w b S:=⟨k.os.trans h.os,k.tape.trans h.tape,k.output.trans h.output,Zf8 h.size k.size,λi hi hn=>(k.block i (ZgB hi h.size) hn).trans (h.block i hi)⟩
theorem GB.more(h:GB w a S)(hs:∀i,i<w.heap.size->S i->S' i):GB w a S':=⟨h.os,h.tape,h.output,h.size,λi hi hn=>h.block i hi (λe=>hn (hs i hi e))⟩
theorem GB.cell(h:GB w a S)(hc:w.cell? p=some v)(hp:¬S p.block):a.cell? p=some v:=(ZgV (h.block p.block (ZgT w p hc) hp)).trans hc
theorem GB.blk(h:GB w a S){o:Obj}(hc:w.heap[g]?=some o)(hp:¬S g):a.heap[g]?=some o:=(h.block g (ZX hc) hp).trans hc
theorem GB.to_ext(h:GB w a S)(k:ZM w0 w)(hs:∀i,S i->w0.heap.size<=i):ZM w0 a:=⟨h.os.trans k.os,h.tape.trans k.tape,h.output.trans k.output,Zf8 k.size h.size,λi hi=>(h.block i (ZgB hi k.size) (λe=>by have:=hs i e;omega)).trans (k.block i hi)⟩
theorem GB.rd(h:GB w a S)(hr:Rd w A vs)(hs:∀p,A=some p->¬S p.block):Rd a A vs:=λag=>by
 obtain⟨b,off,hA,hc⟩:=hr ag;exact⟨b,off,hA,λj u hu=>h.cell (hc j u hu) (show ¬S b from hs _ hA)⟩
theorem GB.own {w a:World}{S:Zhf}{base:Nat}{e:TypeId}{size:Nat}{v:Value}{n:Nat}{xs:List Value}(k:GB w a S)(h:w.ownsRow base e size v n xs)(hs:∀q,v.ownBlock=some q->¬S q):a.ownsRow base e size v n xs:=by
 refine⟨h.1,?_⟩;rcases h.2 with hn|⟨g,cap,cO,rfl,mC,hgg,rest⟩
 ·exact .inl hn
 ·exact .inr ⟨g,cap,cO,rfl,mC,by rw[k.block g (ZeT.1 hgg).1 (hs g rfl)];exact hgg,rest⟩
theorem ZC2 {P:Program}{s:Nat}(ht:P.underlying t=some (.slice e))(hz:∀u:World,(sizeOf e).run P u=.ok s u){d:Nat}(k:Nat)(dy:ki=(k:Int))(aI:n<=c)(hm:n=m+k)(hd:c=d+k): ∃A':Option Addr,(∀u:World,(Instr.slice t (.slice A n c) (some (.int .i64 ki)) none none).run P u=.ok (.slice A' m d) u)/\ (∀(w:World) (vs:List Value),vs.length=n*s->Rd w A vs->Rd w A' (vs.drop (k*s)))/\(∀a,A'=some a->∃a',A=some a'/\a'.block=a.block)/\(A=none->A'=none):=by
 obtain⟨V1,V2,V3,V4,V5⟩:=QA;exact ZYN
structure Zg where
 who:Int
 kind:Int
 word:Int
 old:Nat
 new:Nat
 done:Bool
variable {L:List Zg}
def Zg.cells (a:Zg):List Value:=[.int .i64 a.who,.int .u8 a.kind,.int .i64 a.word,.int .u64 (a.old:Int),.int .u64 (a.new:Int),.bool a.done]
def ZA2 (L:List Zg):List Value:=L.flatMap Zg.cells
theorem ZF3 (a:Zg)(L):ZA2 (a::L)=a.cells++ZA2 L:=by simp[ZA2]
theorem ZT8 (L:List Zg):(ZA2 L).length=L.length*6:=by
 induction L with
 |nil=>rfl
 |cons a L ih=>rw[ZF3,ZfE,ih,ZfF];simp[Zg.cells];omega
theorem ZMq (L M):ZA2 (L++M)=ZA2 L++ZA2 M:=by simp[ZA2]
theorem ZJl (a:Zg):ZA2 [a]=a.cells:=by simp[ZA2]
theorem ZJm:∀(k:Nat) (L:List Zg),ZA2 (L.drop k)=(ZA2 L).drop (k*6)
 |0,L=>by simp
 |k+1,[]=>by simp[ZA2]
 |k+1,a::L=>by
  rw[Zes,ZJm k L,ZF3,show(k+1)*6=a.cells.length+k*6 by simp[Zg.cells];omega,List.drop_append];simp
theorem ZMp (L):∀u ∈ ZA2 L,u.oneCell'=true:=by
 intro u hu;obtain⟨a,_,h⟩:=ZfS.1 hu;simp[Zg.cells]at h;rcases h with rfl|rfl|rfl|rfl|rfl|rfl<;>rfl
theorem ZMB:(prog.info? 307).map (λi=>(i.zero,i.size,i.bytes))=some (some (.agg #[.int .i64 0,.int .u8 0,.int .i64 0,.int .u64 0,.int .u64 0,.bool false]),6,48):=by kernel_rfl
theorem ZSM:∀u:World,(sizeOf 307).run prog u=.ok 6 u:=λ_=>by kernel_rfl
theorem ZM2 (w a b n):Calls prog 170 #[.int .i64 a,.int .i64 b,.int .i64 n] w λe w'=>e=.returned (.int .i64 (if 0<=a/\a<64/\0<=b/\b<n then 0 else 1))/\w=w':=by
 by_cases h1:a<0
 ·rw[Zgk ZB];go_enter func170,ntmps170;go_wp2;go_ret;exact⟨rfl,rfl⟩
 ·by_cases h2:64<=a
  ·rw[Zgk ZB];go_enter func170,ntmps170;go_wp2;go_ret;exact⟨rfl,rfl⟩
  ·by_cases h3:b<0
   ·rw[Zgk ZB];go_enter func170,ntmps170;go_wp2;go_ret;exact⟨rfl,rfl⟩
   ·by_cases h4:n<=b
    ·rw[Zgk ZB];go_enter func170,ntmps170;go_wp2;go_ret;exact⟨rfl,rfl⟩
    ·rw[Zgl ZB];go_enter func170,ntmps170;go_wp2;go_ret;exact⟨rfl,rfl⟩
def Y6 (w:World)(F:Zhf)(g:Nat)(ws:List Nat)(clk:Int)(L:List Zg):Prop:=∃(gw:Nat) (B:Option Addr) (n cb k:Nat),w.heap[g]?=some (.cells #[.slice (some ⟨gw,0,none⟩) ws.length ws.length,.int .i64 clk,.int .i64 (L.length:Int),.slice B n cb] 259 (0,0))/\ w.heap[gw]?=some (.cells (ZT .u64 ws).toArray 52 (0,0))/\w.ownsRow (g+1) 307 6 (.slice B n cb) n (ZA2 (L.drop k))/\ n+k=L.length/\n<=128/\(k=0\/64<=n)/\gw<g/\F g/\F gw/\(∀q,(Value.slice B n cb).ownBlock=some q->F q)/\∀i,F i->i<w.heap.size
def JH (w:World)(F:Zhf)(g:Nat)(ws:List Nat)(clk:Int)(L:List Zg)(w':World):Prop:=∃F',Y6 w' F' g ws clk L/\GB w w' F/\∀i,F' i->F i\/w.heap.size<=i
theorem Y6.gb(h:Y6 w F g ws clk L)(k:GB w w' S)(hs:∀i,F i->¬S i):Y6 w' F g ws clk L:=by
 obtain⟨gw,B,n,cb,kk,h1,h2,h3,h4,h5,h6,h7,h8,h9,bD,bQ⟩:=h;exact⟨gw,B,n,cb,kk,k.blk h1 (hs _ h8),k.blk h2 (hs _ h9),k.own h3 (λq e=>hs _ (bD q e)),h4,h5,h6,h7,h8,h9,bD,λi hi=>ZgB (bQ i hi) k.size⟩
theorem Y6.ext(h:Y6 w F g ws clk L)(k:ZM w w'):Y6 w' F g ws clk L:=h.gb (GB.of_ext (λ_=>False) k) (λ_ _=>id)
theorem ZD4 (w F g)(ws:List Nat)(clk L)(h:Y6 w F g ws clk L): Calls prog 171 #[.pointer (some ⟨g,0,none⟩)] w λe w'=>e=.returned (.int .i64 (ws.length:Int))/\w=w':=by
 obtain⟨gw,B,n,cb,kk,h1,_⟩:=h;have b0:=ZE h1 0;clear h1;go_enter func171,ntmps171;go_wp2;go_ret;exact⟨rfl,rfl⟩
theorem ZW4 (w:World):(w.alloc (.cells #[] 307)).ownsRow w.heap.size 307 6 (.slice (some ⟨w.heap.size,0,none⟩) 0 0) 0 (ZA2 []):=X7 w [] 307 6 0 rfl (ZgR _) (Zf6 _)
def ZXr (L:List Zg)(w:World)(e:Ending)(w':World):Prop:=∃A c,e=.returned (.slice A L.length c)/\w'.ownsRow w.heap.size 307 6 (.slice A L.length c) L.length (ZA2 L)/\ZM w w'
theorem ZW7 (w)(A:Option Addr)(n c n' c'):(binOp .eql 257 (.slice A n c) (.slice none n' c')).run prog w=.ok (.bool A.isNone) w:=Zeh w _ _ A n c n' c' underlying257
theorem ZVh {aw:Array Oper}{rest:List Oper}{o:Oper}{a:Act}{Q:Exit->Act->World->Prop}(w:World)(bu:o.guard=none)(s x)(ho:o.op=.call {callee:=.builtin .append,args:=#[s,x],argTypes:=#[257,257]})(base){xs:List Zg}(hs:a.eval s=.slice B n cb)(af:w.ownsRow base 307 6 (.slice B n cb) n (ZA2 xs)){news:List Zg}(hx:a.eval x=.slice A m c)(hl:news.length=m)(hr:Rd w A (ZA2 news))(hb:n+m<=1000000000)(an:base<=w.heap.size)(h:∀B' au w',w'.ownsRow base 307 6 (.slice B' (n+m) au) (n+m) (ZA2 (xs++news))->w.grownBy w' (Value.slice B n cb).ownBlock-> ((Value.slice B' (n+m) au).ownBlock=(Value.slice B n cb).ownBlock\/(Value.slice B' (n+m) au).ownBlock=some w.heap.size)->wpList prog aw Q rest (a.put o.dst (.slice B' (n+m) au)) w'): wpList prog aw Q (o::rest) a w:=by
 obtain⟨i0,hi,bV,bY,aS⟩:=Zgm ZMB;refine Yj w bu s x 257 ho base 307 underlying257 hi bV bY aS rfl (by decide) hs af hx (by rw[ZT8,hl]) hr (ZMp _) (by unfold maxLen;omega) ZB an ?_;intro B' au w' h2 h3 h4;rw[<-ZMq]at h2;exact h B' au w' h2 h3 h4
theorem Q8 {p:Prop}(h:p:=by
 have Hl:=ZA hl;have Hr:=ZA hr;first|(obtain -:=V1;have q:=ZW7)|have q:=ZW6
 cases A with
 |none=>
  first
  |obtain -:=V2;have h0:L=[]:=by
    cases L with
    |nil=>rfl
    |cons a L=>
     obtain⟨b,off,hA,_⟩:=hr (by rw[ZF3];simp[Zg.cells]);cases hA
  |have h0:xs=[]:=by
    refine Zea λh=>?_;obtain⟨b,off,hA,_⟩:=hr (λe=>h (by simpa[Zn]using e));cases hA
  subst h0;clear hl hr;obtain rfl:n=0:=by have:=Hl.o;simpa using this.symm
  first|(obtain -:=V3;go_enter func229,ntmps229)|go_enter func165,ntmps165
  go_wp2;go_ret;exact⟨none,0,rfl,ZgZ _ _ _ _,ZM.refl w⟩
 |some a=>
  clear hl hr;first|(obtain -:=V4;go_enter func229,ntmps229;go_wp2_with (at_builtin;refine ZVh _ rfl (.tmp 5) (.tmp 6) rfl w.heap.size rfl (ZW4 w) rfl Hl.o (Hr.o.alloc _) ZB ZXz ?_;intro A' c' w1 af aY _;simp only[ZgQ,Zfb]at af))|(go_enter func165,ntmps165;go_wp2_with (at_builtin;refine ZPS _ rfl (.tmp 5) (.tmp 6) rfl w.heap.size rfl (ZW3 w) rfl Hl.o (Hr.o.alloc _) ZB ZXz ?_;intro A' c' w1 af aY _;simp only[ZgQ,Zfb]at af))
  go_ret;rw[<-Hl.o]at af ⊢;exact⟨A',c',rfl,af,((ZM.refl w).alloc _).grown aY (by simp[Value.ownBlock])⟩):p:=h
theorem ZOW (A n c)(L:List Zg)(w)(hl:L.length=n)(hn:n<=1000000)(hr:Rd w A (ZA2 L)): Calls prog 229 #[.slice A n c] w (ZXr L w):=by
 obtain⟨V1,V2,V3,V4⟩:=QA;exact Q8
def ZXL (n:Nat)(L:List Zg)(w:World)(e:Ending)(w':World):Prop:=∃A c,e=.returned (.slice A n c)/\w'.ownsRow w.heap.size 307 6 (.slice A n c) n (ZA2 L)/\ZM w w'
theorem ZTi (A n c)(L:List Zg)(w)(hl:L.length=n)(hn:n<=1000000)(hr:Rd w A (ZA2 L)): Calls prog 229 #[.slice A n c] w (ZXL n L w):=by
 refine(ZOW A n c L w hl hn hr).mono ?_;rintro e w' ⟨A',c',rfl,h1,h2⟩;rw[hl]at h1 ⊢;exact⟨A',c',rfl,h1,h2⟩
theorem ZPD{gw:Nat}(h:GB w W F)(h1:W.heap[g]?=some (.cells #[.slice (some ⟨gw,0,none⟩) ws.length ws.length,.int .i64 clk,.int .i64 (L.length:Int),.slice B n cb] 259 (0,0)))(h2:W.heap[gw]?=some (.cells (ZT .u64 ws).toArray 52 (0,0)))(h3:W.ownsRow (g+1) 307 6 (.slice B n cb) n (ZA2 (L.drop k)))(h4:n+k=L.length)(h5:n<=128)(h6:k=0\/64<=n)(h7:gw<g)(h8:F g)(h9:F gw)(bD:∀q,(Value.slice B n cb).ownBlock=some q->F q\/w.heap.size<=q)(bQ:∀i,F i->i<w.heap.size):JH w F g ws clk L W:=by
 refine⟨λi=>F i\/(Value.slice B n cb).ownBlock=some i,⟨gw,B,n,cb,k,h1,h2,h3,h4,h5,h6,h7,.inl h8,.inl h9,λq e=>.inr e,λi hi=>?_⟩,h,λi hi=>?_⟩
 ·rcases hi with hi|hi
  ·exact ZgB (bQ i hi) h.size
  ·exact(h3.lt i hi).2
 ·rcases hi with hi|hi
  ·exact .inl hi
  ·exact bD i hi
theorem ZMK(h:ZM w w'):w.heap.size<=w'.heap.size:=h.size
theorem rdD(h:Rd w A vs):Rd w.drew A vs:=h
theorem ZJ4 {aw:Array Oper}{o:Oper}{a:Act}{K:Act->World->Prop}{Q:Exit->Act->World->Prop}{E:Prop}(w:World)(bu:o.guard=none)(s x)(ho:o.op=.call {callee:=.builtin .append,args:=#[s,x],argTypes:=#[257,257]})(base){xs:List Zg}(hs:a.eval s=.slice B n cb)(af:w.ownsRow base 307 6 (.slice B n cb) n (ZA2 xs))(y:Zg)(hx:a.eval x=.slice A 1 c)(hr:Rd w A y.cells)(hb:n<=1000)(an:base<=w.heap.size)(h:∀B' au w',w'.ownsRow base 307 6 (.slice B' (n+1) au) (n+1) (ZA2 (xs++[y]))->w.grownBy w' (Value.slice B n cb).ownBlock-> ((Value.slice B' (n+1) au).ownBlock=(Value.slice B n cb).ownBlock\/(Value.slice B' (n+1) au).ownBlock=some w.heap.size)->K (a.put o.dst (.slice B' (n+1) au)) w'): if Region.wanted o (yielded aw a.tmps)=true then Oper.wp prog o a w K Q else E:=by
 have hw:Region.wanted o (yielded aw a.tmps)=true:=by simp[Region.wanted,bu]
 rw[Zgl hw];obtain⟨i0,hi,bV,bY,aS⟩:=Zgm ZMB;exact Jl w s x 257 ho base 307 underlying257 hi bV bY aS rfl (by decide) hs af hx (m:=1) (news:=y.cells) rfl hr (by rw[<-ZJl];exact ZMp _) (by unfold maxLen;omega) ZB an λB' au w' h2 h3 h4=>h B' au w' (by rw[ZMq,ZJl];exact h2) h3 h4
theorem ZFF (w F g ws clk)(L:List Zg)(a:Zg)(h:Y6 w F g ws clk L)(hL:L.length<=1000000): Calls prog 172 #[.pointer (some ⟨g,0,none⟩),.agg #[.int .i64 a.who,.int .u8 a.kind,.int .i64 a.word,.int .u64 (a.old:Int),.int .u64 (a.new:Int),.bool a.done]] w λe w'=>e=.returned (.tuple #[])/\JH w F g ws clk (L++[a]) w':=by
 obtain⟨gw,B,n,cb,k,h1,h2,h3,h4,h5,h6,h7,h8,h9,bD,bQ⟩:=h;have rV:IntKind.i64.wrap ((L.length:Int)+1)=((L.length:Int)+1):=by rw[Zee];omega
 have H1:=ZA h1;have b2:(w.alloc (.cells #[.int .i64 a.who,.int .u8 a.kind,.int .i64 a.word,.int .u64 (a.old:Int),.int .u64 (a.new:Int),.bool a.done] 307 (0,0))).cell? ⟨g,2,none⟩=some (.int .i64 (L.length:Int)):=ZI (ZE h1 2) _;have f2:=ZAl h1 2 (.cells #[.int .i64 a.who,.int .u8 a.kind,.int .i64 a.word,.int .u64 (a.old:Int),.int .u64 (a.new:Int),.bool a.done] 307 (0,0));have H4:=ZA h4;clear h1 h4;have uM:g<w.heap.size:=ZX H1.o;obtain⟨W,hW⟩:=ZX2 ((w.setCell ⟨g,2,none⟩ (.int .i64 ((L.length:Int)+1))).alloc (.cells #[.int .i64 a.who,.int .u8 a.kind,.int .i64 a.word,.int .u64 (a.old:Int),.int .u64 (a.new:Int),.bool a.done] 307 (0,0)));have G0:GB w W F:=by rw[<-hW.out];exact((GB.refl w F).set g 2 _ (.inl h8)).alloc _
 have HG:=ZA (show W.heap[g]?=some (.cells #[.slice (some ⟨gw,0,none⟩) ws.length ws.length,.int .i64 clk,.int .i64 ((L.length:Int)+1),.slice B n cb] 259 (0,0)) by rw[<-hW.out];exact ZQ (ZR H1.o 2 _) _);have HB:=ZA (show W.heap[w.heap.size]?=some (.cells #[.int .i64 a.who,.int .u8 a.kind,.int .i64 a.word,.int .u64 (a.old:Int),.int .u64 (a.new:Int),.bool a.done] 307 (0,0)) by rw[<-hW.out];exact Zi _ _ ZXz);have jY:=ZA (show W.heap[gw]?=some (.cells (ZT .u64 ws).toArray 52 (0,0)) by rw[<-hW.out];exact ZQ (Zl h2 (Ze _ g 2 _) ZB) _);have uG:∀q,(Value.slice B n cb).ownBlock=some q->q≠g/\q≠gw/\q<w.heap.size:=λq e=>by have:=h3.lt q e;omega
 have HO:=ZA (show W.ownsRow (g+1) 307 6 (.slice B n cb) n (ZA2 (L.drop k)) by
  rw[<-hW.out]
  exact Z5 (h3.kept (Ze _ g 2 _) (by
   cases hq:(Value.slice B n cb).ownBlock with
   |none=>exact .inl rfl
   |some q=>exact .inr λe=>by injection e with e;exact(uG q hq).1 e)) ((ZM.refl _).alloc _))
 have mm:w.heap.size<W.heap.size:=ZX HB.o;clear h2 h3;go_enter func172,ntmps172;go_upto_region 2 with fail;rw[hW.out];clear hW b2 f2 rV;have c3:=ZX1 HG.o 3 (.slice B n cb);have a0:=ZX1 HB.o 0 (.int .i64 a.who);have a1:=ZX1 HB.o 1 (.int .u8 a.kind);have a2:=ZX1 HB.o 2 (.int .i64 a.word);have a3:=ZX1 HB.o 3 (.int .u64 (a.old:Int));have a4:=ZX1 HB.o 4 (.int .u64 (a.new:Int));have a5:=ZX1 HB.o 5 (.bool a.done);have f3:W.frozen? ⟨g,3,none⟩=false:=ZG HG.o 3;have ef:n<=1000:=by omega
 have fW:g+1<=W.heap.size:=by omega
 have qX:¬(Value.slice B n cb).ownBlock=some g:=λe=>(uG _ e).1 rfl;have qW:¬(Value.slice B n cb).ownBlock=some gw:=λe=>(uG _ e).2.1 rfl;have cL:¬(Value.slice B n cb).ownBlock=some w.heap.size:=λe=>Zf9 _ (uG _ e).2.2;have LT:=ZI c3 (.cells #[.int .i64 a.who,.int .u8 a.kind,.int .i64 a.word,.int .u64 (a.old:Int),.int .u64 (a.new:Int),.bool a.done] 307 (0,0));have IV:=ZA bD
 go_cut [] (λwd=>∃B' au,GB w wd F/\wd.heap[g]?=some (.cells #[.slice (some ⟨gw,0,none⟩) ws.length ws.length,.int .i64 clk,.int .i64 ((L.length:Int)+1),.slice B' (n+1) au] 259 (0,0))/\
  wd.heap[gw]?=some (.cells (ZT .u64 ws).toArray 52 (0,0))/\wd.ownsRow (g+1) 307 6 (.slice B' (n+1) au) (n+1) (ZA2 ((L++[a]).drop k))/\∀q,(Value.slice B' (n+1) au).ownBlock=some q->F q\/w.heap.size<=q)
 case first=>
  go_region_law ((refine ZJ4 (W.alloc (.cells #[.int .i64 a.who,.int .u8 a.kind,.int .i64 a.word,.int .u64 (a.old:Int),.int .u64 (a.new:Int),.bool a.done] 307)).drew rfl (.tmp 15) (.tmp 17) rfl (g+1) ZX0 (Z5 HO.o ((ZM.refl W).alloc _).drew) a ZX0 (rdD (JP W a.cells _ rfl)) ef (Zf8 fW (ZMK ((ZM.refl W).alloc _).drew)) ?_;intro B' au w6 o6 g6 b6;have G6:GB w w6 F:=(G0.alloc _).drew.grown g6 (λq e=>.inl (bD q e));have GW:GB W w6 (λi=>(Value.slice B n cb).ownBlock=some i):=((GB.refl W _).alloc _).drew.grown g6 (λq e=>.inl e);have s3:=GW.cell c3 qX;have s0:=GW.cell a0 cL;have s1:=GW.cell a1 cL;have s2:=GW.cell a2 cL;have s4:=GW.cell a3 cL;have s5:=GW.cell a4 cL;have s6:=GW.cell a5 cL;have u3:=GW.blk HG.o qX;have uw:=GW.blk jY.o qW;have f6:=ZG u3 3;have GU:=ZA u3;have GS:=ZA uw;clear u3 uw))
  all_goals
   go_wp2_with fail
   go_meet
   refine⟨B',au,G6.set g 3 _ (.inl h8),ZR GU.o 3 _,Zl GS.o (Ze _ g 3 _) ZB,?_,λq e=>?_⟩
   ·rw[Zeo (by have:=H4.o;omega)];refine o6.kept (Ze _ g 3 _) ?_;cases hq:(Value.slice B' (n+1) au).ownBlock with
    |none=>exact .inl rfl
    |some q=>exact .inr λe=>by injection e with e;have:=(o6.lt q hq).1;omega
   ·rw[e]at b6;rcases b6 with b6|b6
    ·exact .inl (IV.o q b6.symm)
    ·injection b6 with b6;rw[b6];exact .inr (Zf5 (ZgB mm (ZMK ((ZM.refl W).alloc _).drew)))
 case rest=>
  obtain⟨B',au,G7,u1,u2,u3,u4⟩:=hcut;have c3:=ZX1 u1 3 (.slice B' (n+1) au);have f3:=ZG u1 3;have ah:((L++[a]).length:Int)=(L.length:Int)+1:=by simp
  obtain⟨hzq,hyq,hxq,hwq⟩:=ZAU u1 u2 u3 u4;clear u1 u2 u3 u4;by_cases hb:n+1<=128
  ·go_wp2_with fail
   go_end0
   exact⟨rfl,ZPD G7 (by rw[ah];exact hzq.o) hyq.o hxq.o (by simp;have:=H4.o;omega) hb (by rcases h6 with h6|h6<;>omega) h7 h8 h9 hwq.o bQ⟩
  ·obtain rfl:n=128:=by omega
   have eX:129<=au:=YR hxq.o;obtain⟨A',hsl,bB,aH,_⟩:=ZC2 underlying257 ZSM (A:=B') (n:=129) (c:=au) (m:=64) (d:=au - 65) 65 (ki:=65) rfl eX rfl ZB;have qS:Rd wc B' (ZA2 ((L++[a]).drop k)):=by
    intro ag;obtain⟨q,rfl,_,_⟩:=ZB5 hxq.o ZB;exact⟨q,0,rfl,λj u hu=>by rw[ZgQ,hxq.o.cellAt j (by have:=(Ze5.1 hu).1;have:=hxq.o.1;omega)];exact hu⟩
   have eB:Rd wc A' (ZA2 ((L++[a]).drop (65+k))):=by
    have:=bB wc _ hxq.o.1 qS
    rwa [<-ZJm,Zep,Zfw k]at this
   have cT:((L++[a]).drop (65+k)).length=64:=by have:=H4.o;simp;omega
   have CL:=ZA (ZTi A' 64 (au - 65) _ wc.drew cT ZB eB);have vr:=ZA cT;have DE:IntKind.i64.wrap 65=65:=by decide
   clear qS eB bB cT aH;go_upto_region 4 with fail
   go_region_with (go_at_call 229;go_must (refine CL.o.mono ?_);go_must (rintro e w8 ⟨A8,c8,rfl,o8,x8⟩);go_must (have f8:=ZG (ZK hzq.o ((ZM.refl wc).drew.trans x8)) 3);go_must (have k8:w8.cell? ⟨g,3,none⟩=some (.slice B' 129 au):=ZE (ZK hzq.o ((ZM.refl wc).drew.trans x8)) 3))
   all_goals
    go_wp2_with fail
    go_end0
    have vD:ZM wc w8:=(ZM.refl wc).drew.trans x8;have EI:g<wc.heap.size:=ZX hzq.o;refine⟨rfl,ZPD (k:=65+k) ((G7.ext vD).set g 3 _ (.inl h8)) (by rw[ah];exact ZR (ZK hzq.o vD) 3 _) (Zl (ZK hyq.o vD) (Ze _ g 3 _) ZB) ?_ (by simp;have:=H4.o;omega) ZB (.inr ZB) h7 h8 h9 (λq e=>.inr ?_) bQ⟩
    ·refine(Zj o8 (Zf8 EI (Zf6 _))).kept (Ze _ g 3 _) ?_;cases hq:(Value.slice A8 64 c8).ownBlock with
     |none=>exact .inl rfl
     |some q=>exact .inr λe=>by injection e with e;have h1:=(o8.lt q hq).1;have h2:wc.drew.heap.size=wc.heap.size:=rfl;omega
    ·have h1:=(o8.lt q e).1;have h2:wc.drew.heap.size=wc.heap.size:=rfl;have h3:=G7.size;omega
theorem ZQw:(prog.info? 52).map (λi=>(i.zero,i.size,i.bytes))=some (some (.int .u64 0),1,8):=by kernel_rfl
theorem ZSt (n t):(.cells (madeCells #[.int .u64 0] n) t:Obj)=.cells (ZT .u64 (List.replicate n 0)).toArray t (0,0):=by
 congr 1
 apply Array.ext';rw[toList_madeCells_one];simp[ZT]
def ZVk (n:Nat)(w:World)(e:Ending)(w':World):Prop:=∃g F,e=.returned (.tuple #[.pointer (some ⟨g,0,none⟩),.int .i64 0])/\Y6 w' F g (List.replicate n 0) 0 []/\ZM w w'/\(∀i,F i->w.heap.size<=i)/\w.heap.size<=g
theorem ZUz (n:Nat)(w:World)(h1:1<=n)(h2:n<=4096):Calls prog 124 #[.int .i64 n] w (ZVk n w):=by
 have a1:¬(n:Int)<1:=by omega
 have a2:¬4096<(n:Int):=by omega
 have uJ:=run_make_row' (P:=prog) 200 52 (.int .u64 0) 8 underlying200 ZQw rfl .i64 .i64 n ZB ZB;go_enter func124,ntmps124;go_wp2_with fail
 go_ret2
 refine⟨w.heap.size+1,λi=>i=w.heap.size\/i=w.heap.size+1,rfl,⟨w.heap.size,none,0,0,0,?_,?_,ZgZ _ _ _ _,rfl,by omega,.inl rfl,by omega,.inr rfl,.inl rfl,λq e=>(by cases e),λi hi=>?_⟩,?_,λi hi=>by omega,by omega⟩
 ·rw[List.length_replicate];exact Zi _ _ ZXz
 ·exact(ZQ (ZV w _) _).trans (by rw[ZSt])
 ·simp;omega
 ·exact((ZM.refl w).alloc _).alloc _
theorem ZCb (w a b n)(h1:0<=a)(h2:a<64)(h3:0<=b)(h4:b<n):Calls prog 170 #[.int .i64 a,.int .i64 b,.int .i64 n] w λe w'=>e=.returned (.int .i64 0)/\w=w':=by
 have:=ZM2 w a b n
 rwa [Zgl ⟨h1,h2,h3,h4⟩]at this
theorem Y6.word {w:World}{F:Zhf}{g:Nat}{ws:List Nat}{clk:Int}{L:List Zg}(h:Y6 w F g ws clk L){i x:Nat}(hx:ws[i]?=some x): ∃gw,w.cell? ⟨g,0,none⟩=some (.slice (some ⟨gw,0,none⟩) ws.length ws.length)/\w.cell? ⟨gw,i,none⟩=some (.int .u64 x)/\w.frozen? ⟨gw,i,none⟩=false/\ ∀y:Nat,Y6 (w.setCell ⟨gw,i,none⟩ (.int .u64 y)) F g (ws.set i y) clk L/\GB w (w.setCell ⟨gw,i,none⟩ (.int .u64 y)) F:=by
 obtain⟨gw,B,n,cb,kk,h1,h2,h3,h4,h5,h6,h7,h8,h9,bD,bQ⟩:=h;refine⟨gw,ZE h1 0,(ZE h2 i).trans (by simpa using ZBe hx),ZG h2 i,λy=>⟨⟨gw,B,n,cb,kk,?_,?_,?_,h4,h5,h6,h7,h8,h9,bD,λi hi=>by simpa using bQ i hi⟩,(GB.refl w F).set gw i _ (.inl h9)⟩⟩
 ·rw[ZfK];exact Zl h1 (Ze w gw i _) ZB
 ·refine(ZR h2 i _).trans ?_;rw[ZK4];simp
 ·refine h3.kept (Ze w gw i _) ?_;cases hq:(Value.slice B n cb).ownBlock with
  |none=>exact .inl rfl
  |some q=>exact .inr λe=>by injection e with e;have:=(h3.lt q hq).1;omega
theorem JH.back{F1:Zhf}(h:GB w W F)(hf:∀i,F1 i->F i\/w.heap.size<=i)(k:JH W F1 g ws clk L w'):JH w F g ws clk L w':=by
 obtain⟨F',k1,k2,k3⟩:=k;refine⟨F',k1,h.trans k2 hf,λi hi=>?_⟩;rcases k3 i hi with k3|k3
 ·exact hf i k3
 ·exact .inr (Zf8 h.size k3)
theorem JH.refl(h:Y6 w F g ws clk L):JH w F g ws clk L w:=⟨F,h,GB.refl w F,λ_ h=>.inl h⟩
theorem Qo {p:Prop}(h:p:=by
 first|(obtain -:=V1;obtain⟨gw,b0,bx,bf,aB⟩:=h.word hx;obtain⟨m2,g2⟩:=aB new)|(obtain -:=V2;obtain⟨gw,b0,bx,bf,aB⟩:=h.word hx)|obtain⟨gw,b0,bx,_,_⟩:=h.word hx
 have hi:i<ws.length:=(Ze5.1 hx).1;have H:=ZA h;first|(obtain -:=V3;have M2:=ZA m2)|skip
 have Hx:=ZA hx;first
 |obtain -:=V4;have hd:((x:Int)==(old:Int))=false:=by rw[Zgb];omega
  clear h hx aB;go_enter func125,ntmps125
 |obtain -:=V5;clear h hx;go_enter func230,ntmps230
 |obtain -:=V6;clear h hx;go_enter func217,ntmps217
 |clear h hx m2 aB;go_enter func125,ntmps125
 go_wp2_with fail;refine(ZD4 w F g ws clk L H.o).mono ?_;rintro e w1 ⟨rfl,rfl⟩;go_wp2_with fail;first|(obtain -:=V7;refine(ZCb w 0 i ws.length ZB ZB ZB ZB).mono ?_)|refine(ZCb w who i ws.length h1 h2 ZB ZB).mono ?_
 rintro e w1 ⟨rfl,rfl⟩;go_wp2_with fail;first|(obtain -:=V8;refine(ZFF _ F g ws clk L ⟨who,2,i,old,new,false⟩ H.o hL).mono ?_;rintro e w1 ⟨rfl,hm⟩;go_wp2_with fail)|(obtain -:=V9;refine(ZFF w F g ws clk L ⟨who,1,i,x,0,true⟩ H.o hL).mono ?_;rintro e w1 ⟨rfl,hm⟩;go_wp2_with fail)|(obtain -:=V10)|(refine(ZFF _ F g (ws.set i new) clk L ⟨who,2,i,x,new,true⟩ M2.o hL).mono ?_;rintro e w1 ⟨rfl,hm⟩;go_wp2_with fail)
 go_ret2;first|(obtain -:=V11;exact⟨rfl,hm.back g2 (λi hi=>.inl hi)⟩)|(obtain -:=V12;exact⟨rfl,rfl⟩)|exact⟨rfl,hm⟩):p:=h
theorem ZU2 (w:World)(F:Zhf)(g:Nat)(ws:List Nat)(clk:Int)(L:List Zg)(who:Int)(i x:Nat)(h:Y6 w F g ws clk L)(hL:L.length<=1000000)(h1:0<=who)(h2:who<64)(hx:ws[i]?=some x): Calls prog 230 #[.pointer (some ⟨g,0,none⟩),.int .i64 who,.int .i64 i] w λe w'=>e=.returned (.tuple #[.int .u64 x,.int .i64 0])/\JH w F g ws clk (L++[⟨who,1,i,x,0,true⟩]) w':=by
 obtain⟨V5,V9⟩:=QA;exact Qo
theorem ZLG (w:World)(F:Zhf)(g:Nat)(ws:List Nat)(clk:Int)(L:List Zg)(who:Int)(i x new:Nat)(h:Y6 w F g ws clk L)(hL:L.length<=1000000)(h1:0<=who)(h2:who<64)(hx:ws[i]?=some x): Calls prog 125 #[.pointer (some ⟨g,0,none⟩),.int .i64 who,.int .i64 i,.int .u64 x,.int .u64 new] w λe w'=>e=.returned (.tuple #[.bool true,.int .i64 0])/\JH w F g (ws.set i new) clk (L++[⟨who,2,i,x,new,true⟩]) w':=by
 obtain⟨V1,V3,V11⟩:=QA;exact Qo
theorem ZPn (w:World)(F:Zhf)(g:Nat)(ws:List Nat)(clk:Int)(L:List Zg)(who:Int)(i x old new:Nat)(h:Y6 w F g ws clk L)(hL:L.length<=1000000)(h1:0<=who)(h2:who<64)(hx:ws[i]?=some x)(ag:x≠old): Calls prog 125 #[.pointer (some ⟨g,0,none⟩),.int .i64 who,.int .i64 i,.int .u64 old,.int .u64 new] w λe w'=>e=.returned (.tuple #[.bool false,.int .i64 0])/\JH w F g ws clk (L++[⟨who,2,i,old,new,false⟩]) w':=by
 obtain⟨V2,V4,V8⟩:=QA;exact Qo
theorem ZUM (w:World)(F:Zhf)(g:Nat)(ws:List Nat)(clk:Int)(L:List Zg)(i x:Nat)(h:Y6 w F g ws clk L)(hx:ws[i]?=some x): Calls prog 217 #[.pointer (some ⟨g,0,none⟩),.int .i64 i] w λe w'=>e=.returned (.tuple #[.int .u64 x,.int .i64 0])/\w=w':=by
 obtain⟨V6,V7,V10,V12⟩:=QA;exact Qo
theorem ZFi {fn:Func}{p u:Tmp}(h:fn.results=#[.tmp u,.cell p ty])(tmps:Array Value)(P:Program)(w): (results fn tmps).run P w=((asAddr (tmps.getD p undef)).run P w).andThen λa w=>((loadVar ty a).run P w).andThen λv w=>.ok (.tuple #[tmps.getD u undef,v]) w:=by
 simp[results,h,Result.andThen]
theorem ZP {P:Program}{fn:Func}{p u:Tmp}{ty:TypeId}(h:fn.results=#[.tmp u,.cell p ty])(tmps:Array Value)(w:World)(g:Nat)(t:TypeId)(cs:Array Value)(fr:Nat × Nat)(d:TypeDesc)(hp:tmps.getD p undef=.pointer (some ⟨g,0,none⟩))(hg:w.heap[g]?=some (.cells cs t fr))(hu:P.underlying ty=some d)(hd:(match d with|.struct _|.array _ _=>true|_=>false)=true)(hi:(P.info? ty).map (·.size)=some cs.size): (results fn tmps).run P w=.ok (.tuple #[tmps.getD u undef,.agg cs]) w:=by
 rw[ZFi h,hp];simp[asAddr,Zgt w g t ty cs fr d hg hu hd hi,Result.andThen]
theorem Jt:∀(fn:Fn) (first cap:Array Value) (w:World),(Instr.makeFunc fn first cap).run prog w=.ok (.func fn first cap) w:=λ_ _ _ _=>rfl
theorem Y6.lt(h:Y6 w F g ws clk L):∀i,F i->i<w.heap.size:=by
 obtain⟨_,_,_,_,_,_,_,_,_,_,_,_,_,_,_,ak⟩:=h;exact ak
theorem XE{u:Value}(h:w.cell? ⟨g,i,none⟩=some v)(ag:i≠j):(w.setCell ⟨g,j,none⟩ u).cell? ⟨g,i,none⟩=some v:=(ZgW _ _ _ _ (by intro e;apply ag;have h:=Zge Addr.off e;simp at h;omega)).trans h
theorem ZPL(x:ZM w w')(h:w.cell? p=some v)(hf:w.frozen? p=false):w'.frozen? p=false:=(x.frozen (ZgT w p h)).trans hf
theorem ZCa {α β:Type}(f:β->α->List Value)(s)(hf:∀k x,(f k x).length=s):∀(ks:List β) (l:List α),ks.length=l.length->((ks.zip l).flatMap λp=>f p.1 p.2).length=l.length*s
 |[],[],_=>by simp
 |[],_::_,h=>by cases h
 |_::_,[],h=>by cases h
 |k::ks,x::l,h=>by
  have:=ZCa f s hf ks l (by simpa using h);rw[Zfu,Zex,ZfE,this,hf,ZfF,Zfz,ZgN,Zfw]
theorem ZEw {α β:Type}(f:β->α->List Value)(s)(hf:∀k x,(f k x).length=s):∀(ks:List β) (l:List α) (i j:Nat) (k:β) (x:α),ks[i]?=some k->l[i]?=some x->j<s->((ks.zip l).flatMap λp=>f p.1 p.2)[i*s+j]?=(f k x)[j]?
 |[],_,_,_,_,_,h,_,_=>by simp at h
 |_::_,[],_,_,_,_,_,h,_=>by simp at h
 |k0::ks,x0::l,0,j,k,x,h1,h2,hj=>by
  simp at h1 h2;subst h1 h2;rw[Zfu,Zex,ZgS,ZgQ,Ze0 (by rw[hf];exact hj)]
 |k0::ks,x0::l,i+1,j,k,x,h1,h2,hj=>by
  have:=ZEw f s hf ks l i j k x (by simpa using h1) (by simpa using h2) hj;rw[Zfu,Zex,Ze1 (by rw[hf,Zfz,ZgN];omega),hf,show(i+1)*s+j - s=i*s+j by rw[Zfz,ZgN];omega];exact this
theorem ZDt {α β:Type}(f:β->α->List Value)(s)(hf:∀k x,(f k x).length=s):∀(ks:List β) (l:List α) (n:Nat),ks.length=l.length->(((ks.take n).zip (l.take n)).flatMap λp=>f p.1 p.2)=((ks.zip l).flatMap λp=>f p.1 p.2).take (n*s)
 |[],[],n,_=>by simp
 |[],_::_,_,h=>by cases h
 |_::_,[],_,h=>by cases h
 |k::ks,e::l,0,_=>by simp
 |k::ks,e::l,n+1,h=>by
  have ih:=ZDt f s hf ks l n (by simpa using h);rw[Zfq,Zfq,Zfu,Zex,Zfu,Zex,ih,Zfz,ZgN,Zfw,List.take_append,hf,show List.take (s+n*s) (f (k,e).1 (k,e).2)=f (k,e).1 (k,e).2 from Zfp (by rw[hf];omega),Zf1]
theorem ZFb {α β:Type}(f:β->α->List Value)(s)(hf:∀k x,(f k x).length=s):∀(ks:List β) (l:List α) (n:Nat),ks.length=l.length->(((ks.drop n).zip (l.drop n)).flatMap λp=>f p.1 p.2)=((ks.zip l).flatMap λp=>f p.1 p.2).drop (n*s)
 |[],[],n,_=>by simp
 |[],_::_,_,h=>by cases h
 |_::_,[],_,h=>by cases h
 |k::ks,e::l,0,_=>by simp
 |k::ks,e::l,n+1,h=>by
  have ih:=ZFb f s hf ks l n (by simpa using h);rw[Zes,Zes,Zfu,Zex,ih,Zfz,ZgN,Zfw,List.drop_append,hf,show List.drop (s+n*s) (f (k,e).1 (k,e).2)=[]from Zer (by rw[hf];omega),Zfb,Zf1]
theorem ZEx {α β:Type}(f:β->α->List Value){ks ks':List β}{l l':List α}(h:ks.length=l.length):(((ks++ks').zip (l++l')).flatMap λp=>f p.1 p.2)=((ks.zip l).flatMap λp=>f p.1 p.2)++((ks'.zip l').flatMap λp=>f p.1 p.2):=by
 rw[Zft h,Zew]
theorem ZKz {α β:Type}(f:β->α->List Value)(hf:∀k x,∀v ∈ f k x,v.oneCell'=true)(ks:List β)(l):∀v ∈ ((ks.zip l).flatMap λp=>f p.1 p.2),v.oneCell'=true:=λv hv=>by
 obtain⟨p,_,hp⟩:=ZfS.1 hv;exact hf _ _ v hp
structure Z7 where
 K:Option Addr
 kc:Nat
 H:Option Addr
 hc:Nat
variable {rs:List Z7}{r:Z7}
def Yh (r:Z7)(c:ZL):List Value:=[.int .i64 (c.pol:Int),.slice r.K c.key.length r.kc,.int .i64 c.tat,.slice r.H c.held.length r.hc]
theorem Xa (r c):(Yh r c).length=4:=rfl
theorem ZF2 (r c):∀v ∈ Yh r c,v.oneCell'=true:=λv hv=>by
 simp[Yh]at hv;rcases hv with rfl|rfl|rfl|rfl<;>rfl
def Ya (rs:List Z7)(l:List ZL):List Value:=(rs.zip l).flatMap λp=>Yh p.1 p.2
def ZAX (w:World)(r:Z7)(c:ZL):Prop:=c.key.length<=r.kc/\Rd w r.K (ZT .u8 c.key)/\c.held.length<=r.hc/\Rd w r.H (Zn c.held)
theorem ZAX.ext{c:ZL}(h:ZAX w r c)(x:ZM w w'):ZAX w' r c:=⟨h.1,h.2.1.ext x,h.2.2.1,h.2.2.2.ext x⟩
def ZAm (w:World)(A:Option Addr)(l:List ZL)(rs:List Z7):Prop:=rs.length=l.length/\Rd w A (Ya rs l)/\∀(i:Nat) (r:Z7) (c:ZL),rs[i]?=some r->l[i]?=some c->ZAX w r c
theorem ZAm.ext(h:ZAm w A l rs)(x:ZM w w'):ZAm w' A l rs:=⟨h.1,h.2.1.ext x,λi r c hr hc=>(h.2.2 i r c hr hc).ext x⟩
theorem ZAm.nil (w):ZAm w none [] []:=⟨rfl,Rd.nil _ _,λi r c hr=>by simp at hr⟩
theorem ZAm.at_(h:ZAm w A l rs){c:ZL}(hi:l[i]?=some c): ∃b off r,A=some ⟨b,off,none⟩/\rs[i]?=some r/\w.cell? ⟨b,off+i*4,none⟩=some (.int .i64 (c.pol:Int))/\w.cell? ⟨b,off+i*4+1,none⟩=some (.slice r.K c.key.length r.kc)/\ w.cell? ⟨b,off+i*4+2,none⟩=some (.int .i64 c.tat)/\w.cell? ⟨b,off+i*4+3,none⟩=some (.slice r.H c.held.length r.hc)/\ZAX w r c:=by
 have eG:=(Ze5.1 hi).1;obtain⟨r,hr⟩:∃r,rs[i]?=some r:=⟨_,Ze4 (by rw[h.1];exact eG)⟩;have g:=λj (hj:j<4)=>ZEw Yh 4 Xa rs l i j r c hr hi hj;obtain⟨b,off,hA,hc⟩:=h.2.1 (λe0=>by have:=g 0 ZB;rw[show((rs.zip l).flatMap λp=>Yh p.1 p.2)=[]from e0]at this;simp[Yh]at this);refine⟨b,off,r,hA,hr,?_,?_,?_,?_,h.2.2 i r c hr hi⟩
 ·exact hc _ _ (g 0 ZB)
 ·rw[Zfv];exact hc _ _ (g 1 ZB)
 ·rw[Zfv];exact hc _ _ (g 2 ZB)
 ·rw[Zfv];exact hc _ _ (g 3 ZB)
structure Kp (w w':World)(X X':Zhf):Prop where
 blk:∀i,i<w.heap.size->¬X i->w'.heap[i]?=w.heap[i]?
 keep:∀i,i<w.heap.size->X' i->X i
 size:w.heap.size<=w'.heap.size
theorem Kp.trans{X2:Zhf}(h:Kp w w' X X')(k:Kp w' w2 X' X2):Kp w w2 X X2:=⟨λi h1 h2=>(k.blk i (ZgB h1 h.size) (λe=>h2 (h.keep i h1 e))).trans (h.blk i h1 h2),λi h1 h2=>h.keep i h1 (k.keep i (ZgB h1 h.size) h2),Zf8 h.size k.size⟩
theorem Kp.of(k:GB w w' S)(hs:∀i,i<w.heap.size->S i->X i)(hx:∀i,i<w.heap.size->X' i->X i):Kp w w' X X':=⟨λi h1 h2=>k.block i h1 (λe=>h2 (hs i h1 e)),hx,k.size⟩
theorem Kp.ext(X)(h:ZM w w'):Kp w w' X X:=⟨λi h1 _=>h.block i h1,λ_ _ h=>h,h.size⟩
def Fz (w:World)(X:Zhf)(A:Option Addr):Prop:=∀a,A=some a->¬X a.block/\a.block<w.heap.size
theorem Fz.kp(h:Fz w X A)(k:Kp w w' X X'):Fz w' X' A:=λa ha=>⟨λe=>(h a ha).1 (k.keep _ (h a ha).2 e),ZgB (h a ha).2 k.size⟩
theorem Fz.nil:Fz w X none:=λa ha=>by cases ha
theorem Kp.rd(k:Kp w w' X X')(h:Rd w A vs)(hA:Fz w X A):Rd w' A vs:=λag=>by
 obtain⟨b,off,e,hc⟩:=h ag;obtain⟨h1,h2⟩:=hA _ e;exact⟨b,off,e,λj u hu=>(ZgV (k.blk b h2 h1)).trans (hc j u hu)⟩
def Zh (w:World)(X:Zhf)(p:Value)(cs:Array Value):Prop:=∃b t,p=.pointer (some ⟨b,0,none⟩)/\w.heap[b]?=some (.cells cs t (0,0))/\¬X b
theorem Zh.kp{p:Value}{cs:Array Value}(h:Zh w X p cs)(k:Kp w w' X X'):Zh w' X' p cs:=by
 obtain⟨b,t,h1,h2,h3⟩:=h;exact⟨b,t,h1,(k.blk b (ZX h2) h3).trans h2,λe=>h3 (k.keep b (ZX h2) e)⟩
theorem Zh.ext{p:Value}{cs:Array Value}(h:Zh w X p cs)(x:ZM w w'):Zh w' X p cs:=h.kp (Kp.ext X x)
theorem Zh.mk{b:Nat}{cs:Array Value}(h:w.heap[b]?=some (.cells cs t (0,0)))(hx:¬X b):Zh w X (.pointer (some ⟨b,0,none⟩)) cs:=⟨b,t,rfl,h,hx⟩
theorem Zh.cell{b:Nat}{cs:Array Value}(h:Zh w X (.pointer (some ⟨b,0,none⟩)) cs)(i):w.cell? ⟨b,i,none⟩=cs[i]?:=by
 obtain⟨b',t,h1,h2,h3⟩:=h;injection h1 with h1;injection h1 with h1;injection h1 with h1;subst h1;exact ZE h2 i
theorem Zh.ptr{p:Value}{cs:Array Value}(h:Zh w X p cs):∃b,p=.pointer (some ⟨b,0,none⟩)/\b<w.heap.size:=by
 obtain⟨b,t,h1,h2,h3⟩:=h;exact⟨b,h1,ZX h2⟩
def Yi (w:World)(X:Zhf)(r:Z7)(c:ZL):Prop:=ZAX w r c/\Fz w X r.K/\Fz w X r.H
theorem Yi.kp{c:ZL}(h:Yi w X r c)(k:Kp w w' X X'):Yi w' X' r c:=⟨⟨h.1.1,k.rd h.1.2.1 h.2.1,h.1.2.2.1,k.rd h.1.2.2.2 h.2.2⟩,h.2.1.kp k,h.2.2.kp k⟩
def Zw (w:World)(X:Zhf)(A:Option Addr)(l:List ZL)(rs:List Z7):Prop:=ZAm w A l rs/\Fz w X A/\∀r ∈ rs,Fz w X r.K/\Fz w X r.H
theorem Zw.kp(h:Zw w X A l rs)(k:Kp w w' X X'):Zw w' X' A l rs:=
 ⟨⟨h.1.1,k.rd h.1.2.1 h.2.1,λi r c hr hc=>by
  obtain⟨a1,a2,a3,a4⟩:=h.1.2.2 i r c hr hc;obtain⟨b1,b2⟩:=h.2.2 r (ZfU hr);exact⟨a1,k.rd a2 b1,a3,k.rd a4 b2⟩⟩,h.2.1.kp k,λr hr=>⟨(h.2.2 r hr).1.kp k,(h.2.2 r hr).2.kp k⟩⟩
theorem Zw.nil (w X):Zw w X none [] []:=⟨ZAm.nil w,Fz.nil,λr hr=>by cases hr⟩
theorem Zw.part {w:World}{X:Zhf}{A:Option Addr}{l:List ZL}{rs:List Z7}(h:Zw w X A l rs){i:Nat}{r:Z7}{c:ZL}(hr:rs[i]?=some r)(hc:l[i]?=some c):Yi w X r c:=⟨h.1.2.2 i r c hr hc,h.2.2 r (ZfU hr)⟩
theorem Zw.ext(h:Zw w X A l rs)(x:ZM w w'):Zw w' X A l rs:=h.kp (Kp.ext X x)
theorem Yi.ext{c:ZL}(h:Yi w X r c)(x:ZM w w'):Yi w' X r c:=h.kp (Kp.ext X x)
theorem Zh.ZX6 {w : World} {X : Nat → Prop} {b : Nat} {cs : Array Value} (h : Zh w X (.pointer (some ⟨b, 0, none⟩)) cs) (i : Nat) (v : Value) (e : cs[i]? = some v := by rfl) : w.cell? ⟨b, i, none⟩ = some v := (h.cell i).trans e
abbrev YD (f:FuncId)(aa:Array Value):Value:=.func (.func f) #[] aa
abbrev ZH (b:Nat):Value:=.pointer (some ⟨b,0,none⟩)
def ZC5 (p:YK):Array Value:=#[.int .u8 (p.kind:Int),.int .i64 p.T,.int .i64 p.Tau,.int .i64 p.perm]
def ZAB (P:List YK):List Value:=P.flatMap λp=>(ZC5 p).toList
def ZGg (r:Zt):Array Value:=#[.int .i64 (r.er:Int),.bool r.granted,.int .i64 r.left,.int .i64 r.wait,.int .i64 r.ser,.int .i64 r.now]
def ZW1 (done:Bool)(r:Zt):Array Value:=#[.bool done,.int .i64 (r.er:Int),.bool r.granted,.int .i64 r.left,.int .i64 r.wait,.int .i64 r.ser,.int .i64 r.now]
def ZAG:Zt:=⟨0,false,0,0,0,0⟩
abbrev YC (w:World)(X:Zhf)(p v:Value):Prop:=Zh w X p #[v]
def ZAk (w:World)(X:Zhf)(p:Value)(l:List ZL):Prop:=∃A c rs,YC w X p (.slice A l.length c)/\Zw w X A l rs
def ZDG (w:World)(X:Zhf)(p:Value)(c:ZL):Prop:=∃r,Zh w X p (Yh r c).toArray/\Yi w X r c
def ZCx (w:World)(X:Zhf)(p:Value)(f:Yb):Prop:=∃A c rs,Zh w X p #[.int .i64 (f.word:Int),.int .u64 (f.v:Int),.slice A f.cells.length c]/\Zw w X A f.cells rs
theorem ZAk.kp{p:Value}(h:ZAk w X p l)(k:Kp w w' X X'):ZAk w' X' p l:=by
 obtain⟨A,c,rs,h1,h2⟩:=h;exact⟨A,c,rs,h1.kp k,h2.kp k⟩
theorem ZDG.kp{p:Value}{l:ZL}(h:ZDG w X p l)(k:Kp w w' X X'):ZDG w' X' p l:=by
 obtain⟨r,h1,h2⟩:=h;exact⟨r,h1.kp k,h2.kp k⟩
theorem ZCx.kp{p:Value}(h:ZCx w X p f)(k:Kp w w' X X'):ZCx w' X' p f:=by
 obtain⟨A,c,rs,h1,h2⟩:=h;exact⟨A,c,rs,h1.kp k,h2.kp k⟩
structure Jv where
 gl:Nat
 who:Nat
 xb:Nat
 pol:YK
variable {d:Jv}
def XH (w:World)(X:Zhf)(d:Jv)(v:Value)(j shards:Nat):Prop:=∃r0 r1 r2,v=YD 177 #[r0,r1,r2]/\YC w X r0 (.int .i64 j)/\YC w X r1 (.int .i64 shards)/\YC w X r2 (ZH d.xb)
def Jg (w:World)(X:Zhf)(d:Jv)(v:Value):ZAc->Prop
 |.begin=>∃q0 q1,v=YD 190 #[q0,q1]/\YC w X q0 (ZH d.xb)/\Zh w X q1 (ZC5 d.pol)
 |.evict j shards gone=>∃q0 q1 q2 fv,v=YD 180 #[q0,q1,q2]/\YC w X q0 fv/\XH w X d fv j shards/\YC w X q1 (.int .i64 gone)/\YC w X q2 (ZH d.xb)
def ZGR:Value:=YD 130 #[]
def ZBb (w:World)(X:Zhf)(p:Value):Prop:=Zh w X p (ZW1 false ZAG)
def Xe (w:World)(X:Zhf)(d:Jv)(p q:Value):Prop:=YC w X p (ZH d.gl)/\YC w X q (.int .i64 (d.who:Int))
def JE (w:World)(X:Zhf)(d:Jv)(v:Value):ZAQ->Prop
 |.find sum level t=>∃p0 p1 p2 p3 p4 p5 tv,v=YD 239 #[p0,p1,p2,p3,p4,p5]/\Xe w X d p0 p1/\YC w X p2 (.int .i64 level)/\YC w X p3 (.int .u64 sum)/\YC w X p4 tv/\Jg w X d tv t/\ZBb w X p5
 |.move level i=>∃p0 p1 p2 p3 p4 p5,v=YD 233 #[p0,p1,p2,p3,p4,p5]/\Xe w X d p0 p1/\YC w X p2 (.int .i64 level)/\YC w X p3 (.int .i64 i)/\YC w X p4 ZGR/\ZBb w X p5
def Xr (w:World)(X:Zhf)(d:Jv)(v:Value):Jk->Prop
 |.find sum t=>∃p0 p1 p2 p3 p4 tv,v=YD 240 #[p0,p1,p2,p3,p4]/\Xe w X d p0 p1/\YC w X p2 (.int .u64 sum)/\YC w X p3 tv/\Jg w X d tv t/\ZBb w X p4
 |.move1 level i holds=>∃p0 p1 p2 p3 p4 p5 p6,v=YD 235 #[p0,p1,p2,p3,p4,p5,p6]/\Xe w X d p0 p1/\YC w X p2 (.int .i64 level)/\YC w X p3 (.int .i64 i)/\ZAk w X p4 holds/\YC w X p5 ZGR/\ZBb w X p6
 |.move2 level i=>∃p0 p1 p2 p3 p4 p5,v=YD 236 #[p0,p1,p2,p3,p4,p5]/\Xe w X d p0 p1/\YC w X p2 (.int .i64 level)/\YC w X p3 (.int .i64 i)/\YC w X p4 ZGR/\ZBb w X p5
def ZDN (w:World)(X:Zhf)(d:Jv)(v:Value)(f:Yb)(c:ZL)(r:Zt):Prop:=∃p0 p1 p2 p3 p4 p5,v=YD 255 #[p0,p1,p2,p3,p4,p5]/\YC w X p0 (ZH d.xb)/\ZCx w X p1 f/\YC w X p2 (.int .i64 (f.at_:Int))/\YC w X p3 (.bool f.there)/\ZDG w X p4 c/\Zh w X p5 (ZGg r)
def ZGe (w:World)(X:Zhf)(d:Jv)(v:Value)(f:Yb)(c:ZL):Prop:=∃p0 p1 p2 p3 p4 p5,v=YD 250 #[p0,p1,p2,p3,p4,p5]/\Zh w X p0 (ZC5 d.pol)/\ZDG w X p1 c/\YC w X p2 (ZH d.xb)/\ZCx w X p3 f/\YC w X p4 (.int .i64 (f.at_:Int))/\YC w X p5 (.bool f.there)
def Xi (w:World)(X:Zhf)(d:Jv)(sv tv:Value):ZBs->Prop
 |.leave r=>∃q p iv,sv=.nilFunc/\tv=YD 245 #[q]/\YC w X q iv/\iv=YD 281 #[p]/\Zh w X p (ZGg r)
 |.gone j shards was n=>∃q p0 p1 p2 iv fv,sv=.nilFunc/\tv=YD 245 #[q]/\YC w X q iv/\iv=YD 189 #[p0,p1,p2]/\YC w X p0 fv/\XH w X d fv j shards/\YC w X p1 (.int .i64 was)/\YC w X p2 (.int .i64 n)
 |.count f c r=>∃p0 p1 pv,sv=YD 257 #[]/\tv=YD 258 #[p0,p1]/\YC w X p0 (ZH d.xb)/\YC w X p1 pv/\ZDN w X d pv f c r
 |.serial f c=>∃s0 p0 p1 av,sv=YD 252 #[s0]/\YC w X s0 (ZH d.xb)/\tv=YD 253 #[p0,p1]/\YC w X p0 (ZH d.xb)/\YC w X p1 av/\ZGe w X d av f c
def Zk (w:World)(X:Zhf)(d:Jv)(v:Value):YX->Prop
 |.find sum t=>∃p0 p1 p2 p3 tv,v=YD 237 #[p0,p1,p2,p3]/\Xe w X d p0 p1/\YC w X p2 (.int .u64 sum)/\YC w X p3 tv/\Jg w X d tv t
 |.enter sum word t=>∃p0 p1 p2 p3 p4 tv,v=YD 276 #[p0,p1,p2,p3,p4]/\Xe w X d p0 p1/\YC w X p2 (.int .i64 word)/\YC w X p3 (.int .u64 sum)/\YC w X p4 tv/\Jg w X d tv t
 |.frz word t=>∃p0 p1 p2 p3 tv,v=YD 272 #[p0,p1,p2,p3]/\Xe w X d p0 p1/\YC w X p2 (.int .i64 word)/\YC w X p3 tv/\JE w X d tv t
 |.frzS word u holds t=>∃p0 p1 p2 p3 p4 p5 p6 tv,v=YD 273 #[p0,p1,p2,p3,p4,p5,p6]/\Xe w X d p0 p1/\YC w X p2 (.int .i64 word)/\YC w X p3 (.int .u64 u)/\ZAk w X p4 holds/\YC w X p5 tv/\JE w X d tv t/\ZBb w X p6
 |.half level shard holds t=>∃p0 p1 p2 p3 p4 p5 tv,v=YD 274 #[p0,p1,p2,p3,p4,p5]/\Xe w X d p0 p1/\YC w X p2 (.int .i64 (ZO level shard:Int))/\YC w X p3 tv/\Xr w X d tv t/\ZAk w X p4 holds/\YC w X p5 (.int .i64 level)
 |.halfS level shard holds t=>∃p0 p1 p2 p3 p4 p5 p6 tv,v=YD 275 #[p0,p1,p2,p3,p4,p5,p6]/\Xe w X d p0 p1/\YC w X p2 (.int .i64 (ZO level shard:Int))/\ZAk w X p3 holds/\YC w X p4 (.int .i64 level)/\YC w X p5 tv/\Xr w X d tv t/\∃h,ZAk w X p6 h
 |.split=>∃p0 p1 p2,v=YD 173 #[p0,p1,p2]/\Xe w X d p0 p1/\YC w X p2 ZGR
 |.splitS u=>∃p0 p1 p2 p3 p4 p5,v=YD 176 #[p0,p1,p2,p3,p4,p5]/\Xe w X d p0 p1/\YC w X p2 (.int .u64 u)/\YC w X p3 ZGR/\ZBb w X p4/\YC w X p5 (.int .i64 ((u / 2:Nat):Int))
 |.moveEnd level=>∃p0 p1 p2 p3,v=YD 231 #[p0,p1,p2,p3]/\Xe w X d p0 p1/\YC w X p2 (.int .i64 level)/\YC w X p3 ZGR
 |.mv word by_ stop t=>∃p0 p1 p2 p3 p4 p5 sv tv,v=YD 277 #[p0,p1,p2,p3,p4,p5]/\YC w X p0 (ZH d.xb)/\YC w X p1 (.int .i64 word)/\YC w X p2 (.int .u64 stop)/\YC w X p3 sv/\YC w X p4 (.int .u64 by_)/\YC w X p5 tv/\Xi w X d sv tv t
 |.mvS word by_ stop u t=>∃p0 p1 p2 p3 p4 p5 p6 sv tv,v=YD 278 #[p0,p1,p2,p3,p4,p5,p6]/\YC w X p0 (ZH d.xb)/\YC w X p1 (.int .i64 word)/\YC w X p2 (.int .u64 u)/\YC w X p3 (.int .u64 by_)/\YC w X p4 (.int .u64 stop)/\YC w X p5 sv/\YC w X p6 tv/\Xi w X d sv tv t
 |.put f c r=>ZDN w X d v f c r
 |.peek c=>∃p0 p1 p2,v=YD 197 #[p0,p1,p2]/\Zh w X p0 (ZC5 d.pol)/\ZDG w X p1 c/\YC w X p2 (ZH d.xb)
 |.allow f c=>∃p0 p1 p2 p3 p4 p5,v=YD 247 #[p0,p1,p2,p3,p4,p5]/\Zh w X p0 (ZC5 d.pol)/\ZDG w X p1 c/\YC w X p2 (ZH d.xb)/\ZCx w X p3 f/\YC w X p4 (.int .i64 (f.at_:Int))/\YC w X p5 (.bool f.there)
 |.evFirst=>∃p0,v=YD 131 #[p0]/\YC w X p0 (ZH d.xb)
 |.evScan j shards gone word u cells=>∃p0 p1 p2 p3 p4 p5 fv,v=YD 181 #[p0,p1,p2,p3,p4,p5]/\YC w X p0 (ZH d.xb)/\ZAk w X p1 cells/\YC w X p2 fv/\XH w X d fv j shards/\YC w X p3 (.int .i64 gone)/\YC w X p4 (.int .i64 word)/\YC w X p5 (.int .u64 u)
 |.evSwap j shards gone word u rest n=>∃p0 p1 p2 p3 p4 p5 p6 fv,v=YD 187 #[p0,p1,p2,p3,p4,p5,p6]/\YC w X p0 (ZH d.xb)/\YC w X p1 (.int .i64 word)/\YC w X p2 (.int .u64 u)/\ZAk w X p3 rest/\YC w X p4 fv/\XH w X d fv j shards/\YC w X p5 (.int .i64 gone)/\YC w X p6 (.int .i64 n)
theorem XH.kp{shards:Nat}(h:XH w X d v j shards)(k:Kp w w' X X'):XH w' X' d v j shards:=by
 obtain⟨r0,r1,r2,h0,h1,h2,h3⟩:=h;exact⟨r0,r1,r2,h0,h1.kp k,h2.kp k,h3.kp k⟩
theorem Xe.kp{p q:Value}(h:Xe w X d p q)(k:Kp w w' X X'):Xe w' X' d p q:=⟨h.1.kp k,h.2.kp k⟩
theorem ZBb.kp{p:Value}(h:ZBb w X p)(k:Kp w w' X X'):ZBb w' X' p:=Zh.kp h k
theorem Jg.kp{t:ZAc}(h:Jg w X d v t)(k:Kp w w' X X'):Jg w' X' d v t:=by
 cases t with
 |begin=>obtain⟨q0,q1,h0,h1,h2⟩:=h;exact⟨q0,q1,h0,h1.kp k,h2.kp k⟩
 |evict j shards gone=>obtain⟨q0,q1,q2,fv,h0,h1,h2,h3,h4⟩:=h;exact⟨q0,q1,q2,fv,h0,h1.kp k,h2.kp k,h3.kp k,h4.kp k⟩
theorem JE.kp{t:ZAQ}(h:JE w X d v t)(k:Kp w w' X X'):JE w' X' d v t:=by
 cases t with
 |find sum level t=>obtain⟨p0,p1,p2,p3,p4,p5,tv,h0,h1,h2,h3,h4,h5,h6⟩:=h;exact⟨p0,p1,p2,p3,p4,p5,tv,h0,h1.kp k,h2.kp k,h3.kp k,h4.kp k,h5.kp k,h6.kp k⟩
 |move level i=>obtain⟨p0,p1,p2,p3,p4,p5,h0,h1,h2,h3,h4,h5⟩:=h;exact⟨p0,p1,p2,p3,p4,p5,h0,h1.kp k,h2.kp k,h3.kp k,h4.kp k,h5.kp k⟩
theorem Xr.kp{t:Jk}(h:Xr w X d v t)(k:Kp w w' X X'):Xr w' X' d v t:=by
 cases t with
 |find sum t=>obtain⟨p0,p1,p2,p3,p4,tv,h0,h1,h2,h3,h4,h5⟩:=h;exact⟨p0,p1,p2,p3,p4,tv,h0,h1.kp k,h2.kp k,h3.kp k,h4.kp k,h5.kp k⟩
 |move1 level i holds=>obtain⟨p0,p1,p2,p3,p4,p5,p6,h0,h1,h2,h3,h4,h5,h6⟩:=h;exact⟨p0,p1,p2,p3,p4,p5,p6,h0,h1.kp k,h2.kp k,h3.kp k,h4.kp k,h5.kp k,h6.kp k⟩
 |move2 level i=>obtain⟨p0,p1,p2,p3,p4,p5,h0,h1,h2,h3,h4,h5⟩:=h;exact⟨p0,p1,p2,p3,p4,p5,h0,h1.kp k,h2.kp k,h3.kp k,h4.kp k,h5.kp k⟩
theorem ZYO {p:Prop}(h:p:=by
 obtain⟨p0,p1,p2,p3,p4,p5,h0,h1,h2,h3,h4,h5,h6⟩:=h;exact⟨p0,p1,p2,p3,p4,p5,h0,h1.kp k,h2.kp k,h3.kp k,h4.kp k,h5.kp k,h6.kp k⟩):p:=h
theorem ZDN.kp{c:ZL}{r:Zt}(h:ZDN w X d v f c r)(k:Kp w w' X X'):ZDN w' X' d v f c r:=ZYO
theorem ZGe.kp{c:ZL}(h:ZGe w X d v f c)(k:Kp w w' X X'):ZGe w' X' d v f c:=ZYO
theorem Xi.kp{t:ZBs}(h:Xi w X d sv tv t)(k:Kp w w' X X'):Xi w' X' d sv tv t:=by
 cases t with
 |leave r=>obtain⟨q,p,iv,h0,h1,h2,h3,h4⟩:=h;exact⟨q,p,iv,h0,h1,h2.kp k,h3,h4.kp k⟩
 |gone j shards was n=>obtain⟨q,p0,p1,p2,iv,fv,h0,h1,h2,h3,h4,h5,h6,h7⟩:=h;exact⟨q,p0,p1,p2,iv,fv,h0,h1,h2.kp k,h3,h4.kp k,h5.kp k,h6.kp k,h7.kp k⟩
 |count f c r=>obtain⟨p0,p1,pv,h0,h1,h2,h3,h4⟩:=h;exact⟨p0,p1,pv,h0,h1,h2.kp k,h3.kp k,h4.kp k⟩
 |serial f c=>obtain⟨s0,p0,p1,av,h0,h1,h2,h3,h4,h5⟩:=h;exact⟨s0,p0,p1,av,h0,h1.kp k,h2,h3.kp k,h4.kp k,h5.kp k⟩
theorem Zk.kp{t:YX}(h:Zk w X d v t)(k:Kp w w' X X'):Zk w' X' d v t:=by
 cases t with
 |find sum t=>obtain⟨p0,p1,p2,p3,tv,h0,h1,h2,h3,h4⟩:=h;exact⟨p0,p1,p2,p3,tv,h0,h1.kp k,h2.kp k,h3.kp k,h4.kp k⟩
 |enter sum word t=>obtain⟨p0,p1,p2,p3,p4,tv,h0,h1,h2,h3,h4,h5⟩:=h;exact⟨p0,p1,p2,p3,p4,tv,h0,h1.kp k,h2.kp k,h3.kp k,h4.kp k,h5.kp k⟩
 |frz word t=>obtain⟨p0,p1,p2,p3,tv,h0,h1,h2,h3,h4⟩:=h;exact⟨p0,p1,p2,p3,tv,h0,h1.kp k,h2.kp k,h3.kp k,h4.kp k⟩
 |frzS word u holds t=>obtain⟨p0,p1,p2,p3,p4,p5,p6,tv,h0,h1,h2,h3,h4,h5,h6,h7⟩:=h;exact⟨p0,p1,p2,p3,p4,p5,p6,tv,h0,h1.kp k,h2.kp k,h3.kp k,h4.kp k,h5.kp k,h6.kp k,h7.kp k⟩
 |half level shard holds t=>obtain⟨p0,p1,p2,p3,p4,p5,tv,h0,h1,h2,h3,h4,h5,h6⟩:=h;exact⟨p0,p1,p2,p3,p4,p5,tv,h0,h1.kp k,h2.kp k,h3.kp k,h4.kp k,h5.kp k,h6.kp k⟩
 |halfS level shard holds t=>obtain⟨p0,p1,p2,p3,p4,p5,p6,tv,h0,h1,h2,h3,h4,h5,h6,h,h7⟩:=h;exact⟨p0,p1,p2,p3,p4,p5,p6,tv,h0,h1.kp k,h2.kp k,h3.kp k,h4.kp k,h5.kp k,h6.kp k,h,h7.kp k⟩
 |split=>obtain⟨p0,p1,p2,h0,h1,h2⟩:=h;exact⟨p0,p1,p2,h0,h1.kp k,h2.kp k⟩
 |splitS u=>obtain⟨p0,p1,p2,p3,p4,p5,h0,h1,h2,h3,h4,h5⟩:=h;exact⟨p0,p1,p2,p3,p4,p5,h0,h1.kp k,h2.kp k,h3.kp k,h4.kp k,h5.kp k⟩
 |moveEnd level=>obtain⟨p0,p1,p2,p3,h0,h1,h2,h3⟩:=h;exact⟨p0,p1,p2,p3,h0,h1.kp k,h2.kp k,h3.kp k⟩
 |mv word by_ stop t=>obtain⟨p0,p1,p2,p3,p4,p5,sv,tv,h0,h1,h2,h3,h4,h5,h6,h7⟩:=h;exact⟨p0,p1,p2,p3,p4,p5,sv,tv,h0,h1.kp k,h2.kp k,h3.kp k,h4.kp k,h5.kp k,h6.kp k,h7.kp k⟩
 |mvS word by_ stop u t=>obtain⟨p0,p1,p2,p3,p4,p5,p6,sv,tv,h0,h1,h2,h3,h4,h5,h6,h7,h8⟩:=h;exact⟨p0,p1,p2,p3,p4,p5,p6,sv,tv,h0,h1.kp k,h2.kp k,h3.kp k,h4.kp k,h5.kp k,h6.kp k,h7.kp k,h8.kp k⟩
 |put f c r=>exact ZDN.kp h k
 |peek c=>obtain⟨p0,p1,p2,h0,h1,h2,h3⟩:=h;exact⟨p0,p1,p2,h0,h1.kp k,h2.kp k,h3.kp k⟩
 |allow f c=>obtain⟨p0,p1,p2,p3,p4,p5,h0,h1,h2,h3,h4,h5,h6⟩:=h;exact⟨p0,p1,p2,p3,p4,p5,h0,h1.kp k,h2.kp k,h3.kp k,h4.kp k,h5.kp k,h6.kp k⟩
 |evFirst=>obtain⟨p0,h0,h1⟩:=h;exact⟨p0,h0,h1.kp k⟩
 |evScan j shards gone word u cells=>obtain⟨p0,p1,p2,p3,p4,p5,fv,h0,h1,h2,h3,h4,h5,h6,h7⟩:=h;exact⟨p0,p1,p2,p3,p4,p5,fv,h0,h1.kp k,h2.kp k,h3.kp k,h4.kp k,h5.kp k,h6.kp k,h7.kp k⟩
 |evSwap j shards gone word u rest n=>obtain⟨p0,p1,p2,p3,p4,p5,p6,fv,h0,h1,h2,h3,h4,h5,h6,h7,h8⟩:=h;exact⟨p0,p1,p2,p3,p4,p5,p6,fv,h0,h1.kp k,h2.kp k,h3.kp k,h4.kp k,h5.kp k,h6.kp k,h7.kp k,h8.kp k⟩
theorem Zk.fn{t:YX}(h:Zk w X d v t):∃f c,v=YD f c:=by
 cases t with
 |find sum t=>obtain⟨p0,p1,p2,p3,tv,h0,_⟩:=h;exact⟨_,_,h0⟩
 |enter sum word t=>obtain⟨p0,p1,p2,p3,p4,tv,h0,_⟩:=h;exact⟨_,_,h0⟩
 |frz word t=>obtain⟨p0,p1,p2,p3,tv,h0,_⟩:=h;exact⟨_,_,h0⟩
 |frzS word u holds t=>obtain⟨p0,p1,p2,p3,p4,p5,p6,tv,h0,_⟩:=h;exact⟨_,_,h0⟩
 |half level shard holds t=>obtain⟨p0,p1,p2,p3,p4,p5,tv,h0,_⟩:=h;exact⟨_,_,h0⟩
 |halfS level shard holds t=>obtain⟨p0,p1,p2,p3,p4,p5,p6,tv,h0,_⟩:=h;exact⟨_,_,h0⟩
 |split=>obtain⟨p0,p1,p2,h0,_⟩:=h;exact⟨_,_,h0⟩
 |splitS u=>obtain⟨p0,p1,p2,p3,p4,p5,h0,_⟩:=h;exact⟨_,_,h0⟩
 |moveEnd level=>obtain⟨p0,p1,p2,p3,h0,_⟩:=h;exact⟨_,_,h0⟩
 |mv word by_ stop t=>obtain⟨p0,p1,p2,p3,p4,p5,sv,tv,h0,_⟩:=h;exact⟨_,_,h0⟩
 |mvS word by_ stop u t=>obtain⟨p0,p1,p2,p3,p4,p5,p6,sv,tv,h0,_⟩:=h;exact⟨_,_,h0⟩
 |put f c r=>obtain⟨p0,p1,p2,p3,p4,p5,h0,_⟩:=h;exact⟨_,_,h0⟩
 |peek c=>obtain⟨p0,p1,p2,h0,_⟩:=h;exact⟨_,_,h0⟩
 |allow f c=>obtain⟨p0,p1,p2,p3,p4,p5,h0,_⟩:=h;exact⟨_,_,h0⟩
 |evFirst=>obtain⟨p0,h0,_⟩:=h;exact⟨_,_,h0⟩
 |evScan j shards gone word u cells=>obtain⟨p0,p1,p2,p3,p4,p5,fv,h0,_⟩:=h;exact⟨_,_,h0⟩
 |evSwap j shards gone word u rest n=>obtain⟨p0,p1,p2,p3,p4,p5,p6,fv,h0,_⟩:=h;exact⟨_,_,h0⟩
theorem ZTj (w:World)(F:Zhf)(g:Nat)(ws:List Nat)(clk:Nat)(L:List Zg)(who:Int)(h:Y6 w F g ws clk L)(hL:L.length<=1000000)(h1:0<=who)(h2:who<64)(hc:(clk:Int)<=9223372036854775807): Calls prog 242 #[.pointer (some ⟨g,0,none⟩),.int .i64 who] w λe w'=>e=.returned (.tuple #[.int .i64 clk,.int .i64 0])/\JH w F g ws clk (L++[⟨who,3,0,clk,0,true⟩]) w':=by
 obtain⟨gw,B,n,cb,kk,k1,_⟩:=id h;have b1:=ZE k1 1;have H:=ZA h;clear h k1;go_enter func242,ntmps242;go_wp2_with fail;refine(ZCb w who 0 1 h1 h2 ZB ZB).mono ?_;rintro e w1 ⟨rfl,rfl⟩;go_wp2_with fail;refine(ZFF _ F g ws clk L ⟨who,3,0,clk,0,true⟩ H.o hL).mono ?_;rintro e w1 ⟨rfl,hm⟩;have HM:=ZA hm;obtain⟨F',⟨LJ,B',n',au,KK,k1',_⟩,_⟩:=hm;have LW:=ZE k1' 1;clear k1';go_wp2_with fail
 go_ret2
 exact⟨rfl,HM.o⟩
theorem Y6.clock(h:Y6 w F g ws clk L): w.cell? ⟨g,1,none⟩=some (.int .i64 clk)/\w.frozen? ⟨g,1,none⟩=false/\ ∀y:Int,Y6 (w.setCell ⟨g,1,none⟩ (.int .i64 y)) F g ws y L/\GB w (w.setCell ⟨g,1,none⟩ (.int .i64 y)) F:=by
 obtain⟨gw,B,n,cb,kk,h1,h2,h3,h4,h5,h6,h7,h8,h9,bD,bQ⟩:=h;refine⟨ZE h1 1,ZG h1 1,λy=>⟨⟨gw,B,n,cb,kk,ZR h1 1 _,Zl h2 (Ze w g 1 _) ZB,?_,h4,h5,h6,h7,h8,h9,bD,λi hi=>by simpa using bQ i hi⟩,(GB.refl w F).set g 1 _ (.inl h8)⟩⟩;refine h3.kept (Ze w g 1 _) ?_;cases hq:(Value.slice B n cb).ownBlock with
 |none=>exact .inl rfl
 |some q=>exact .inr λe=>by injection e with e;have:=(h3.lt q hq).1;omega
theorem ZUR (w F g ws clk L n)(h:Y6 w F g ws clk L)(h1:0<=n)(h2:n<=4611686018427387903)(c1:0<=clk)(c2:clk<=4611686018427387903): Calls prog 88 #[.pointer (some ⟨g,0,none⟩),.int .i64 n] w λe w'=>e=.returned (.tuple #[.int .i64 (min (clk+n) 4611686018427387903),.int .i64 0])/\JH w F g ws (min (clk+n) 4611686018427387903) L w':=by
 obtain⟨b1,f1,aB⟩:=h.clock;obtain⟨m2,g2⟩:=aB (min (clk+n) 4611686018427387903);have HM:ZD (JH w F g ws (min (clk+n) 4611686018427387903) L (w.setCell ⟨g,1,none⟩ (.int .i64 (min (clk+n) 4611686018427387903)))):=ZA (JH.back g2 (λi hi=>.inl hi) (JH.refl m2));obtain⟨T,hT⟩:=ZX2 (min (clk+n) 4611686018427387903);have TA:=ZA (ZUU clk n w c1 c2 h1 h2);rw[hT.out]at HM TA ⊢;clear h m2 g2 aB;go_enter func88,ntmps88;go_wp2_with fail;refine(ZA7 n w h1 h2).mono ?_;rintro e w1 ⟨rfl,rfl⟩;go_wp2_with fail;refine TA.o.mono ?_;rintro e w1 ⟨rfl,rfl⟩;go_wp2_with fail
 go_ret2
 exact⟨rfl,HM.o⟩
structure Zz where
 gx:Nat
 gl:Nat
 gb:Nat
 gm:Nat
 gh:Nat
 PA:Option Addr
 pc:Nat
 P:List YK
 room:Nat
abbrev XO (C O:Zhf):Nat->Prop:=λi=>C i\/O i
def ZMy (gx who:Nat)(x:ZW)(K:Option Addr)(kc:Nat)(res:Bool)(ser:Int):Array Value:=#[.int .u8 (x.op:Int),.int .i64 (x.pol:Int),.slice K x.key.length kc,.int .i64 x.n,ZH gx,.int .i64 who,.int .u64 (Xw x.id:Int),.bool res,.int .i64 ser]
def XAt (w:World)(X:Zhf)(gx who:Nat)(x:ZW)(res:Bool)(ser:Int)(xb:Nat):Prop:=∃t K kc,w.heap[xb]?=some (.cells (ZMy gx who x K kc res ser) t (0,0))/\x.key.length<=kc/\Rd w K (ZT .u8 x.key)/\Fz w X K
theorem XAt.kp{xb:Nat}(h:XAt w X gx who x res ser xb)(k:Kp w w' X X')(hb:w'.heap[xb]?=w.heap[xb]?):XAt w' X' gx who x res ser xb:=by
 obtain⟨t,K,kc,h1,h2,h3,h4⟩:=h;exact⟨t,K,kc,hb.trans h1,h2,k.rd h3 h4,h4.kp k⟩
theorem XAt.ext{xb:Nat}(h:XAt w X gx who x res ser xb)(e:ZM w w'):XAt w' X gx who x res ser xb:=by
 have hb:xb<w.heap.size:=by obtain⟨t,K,kc,h1,_⟩:=h;exact ZX h1
 exact h.kp (Kp.ext X e) (e.block xb hb)
abbrev Zo (g:Zz)(who xb:Nat)(x:ZW):Jv:=⟨g.gl,who,xb,Zf g.P x.pol⟩
def ZGa (w:World)(X:Zhf)(g:Zz)(who xb:Nat)(v:Value):ZAP->Prop
 |.idle=>v=.nilFunc
 |.run x res ser k=>XAt w X g.gx who x res ser xb/\Zk w X (Zo g who xb x) v k
def ZAJ:ZAP->Bool
 |.idle=>false
 |.run _ _ _ _=>true
theorem ZGa.kp{g:Zz}{xb:Nat}{c:ZAP}(h:ZGa w X g who xb v c)(k:Kp w w' X X')(hb:ZAJ c=true->w'.heap[xb]?=w.heap[xb]?):ZGa w' X' g who xb v c:=by
 cases c with
 |idle=>exact h
 |run x res ser t=>exact⟨h.1.kp k (hb rfl),h.2.kp k⟩
structure CoB (w:World)(g:Zz)(O C:Zhf)(xb:Nat->Nat)(L:List Zg)(s:Z9)(Fm:Zhf)(fs hv:List Value)(tx tl tb th:TypeId):Prop where
 mach:Y6 w Fm g.gm s.ws (s.clk:Int) L
 wsl:s.ws.length=34
 hsl:s.hs.length=34
 bx:w.heap[g.gx]?=some (.cells (Value.slice g.PA g.P.length g.pc::Value.int .u64 (g.room:Int)::ZH g.gl::fs).toArray tx (0,0))
 fsl:fs.length=64
 bl:w.heap[g.gl]?=some (.cells #[ZH g.gb,YD 39 #[]] tl (0,0))
 bb:w.heap[g.gb]?=some (.cells #[ZH g.gm,.slice (some ⟨g.gh,0,none⟩) 34 34] tb (0,0))
 bh:w.heap[g.gh]?=some (.cells hv.toArray th (0,0))
 hvl:hv.length=34
 holds:∀(i:Nat) (h:List ZL),s.hs[i]?=some h->∃(A:Option Addr) (c:Nat) (rs:List Z7),hv[i]?=some (.slice A h.length c)/\Zw w (XO C O) A h rs
 prd:Rd w g.PA (ZAB g.P)
 pfz:Fz w (XO C O) g.PA
 pend:∀(i:Nat) (v:Value),fs[i]?=some v->ZGa w (XO C O) g i (xb i) v (s.call i)
 mx:¬Fm g.gx
 mh:¬Fm g.gh
 xh:g.gx≠g.gh
 nl:¬XO C O g.gl
 nb:¬XO C O g.gb
 cx:C g.gx
 ch:C g.gh
 cm:∀i,Fm i->C i
 xs:∀i,i<64->ZAJ (s.call i)=true->C (xb i)/\¬Fm (xb i)/\xb i≠g.gx/\xb i≠g.gh
 inj:∀i j,i<64->j<64->ZAJ (s.call i)=true->ZAJ (s.call j)=true->xb i=xb j->i=j
 lt:∀i,C i->i<w.heap.size
 co:∀i,C i->¬O i
 ol:∀i,O i->i<w.heap.size
def YQ (w:World)(g:Zz)(O C:Zhf)(xb:Nat->Nat)(L:List Zg)(s:Z9):Prop:=∃Fm fs hv tx tl tb th,CoB w g O C xb L s Fm fs hv tx tl tb th
def ZBo (w:World)(g:Zz)(O C:Zhf)(xb:Nat->Nat)(L:List Zg)(s:Z9)(w':World):Prop:=∃C',YQ w' g O C' xb L s/\GB w w' C/\∀i,C' i->C i\/w.heap.size<=i
theorem YQ.lt{g:Zz}(h:YQ w g O C xb L s):∀i,C i->i<w.heap.size:=by
 obtain⟨Fm,fs,hv,tx,tl,tb,th,h⟩:=h;exact h.lt
theorem YQ.co{g:Zz}(h:YQ w g O C xb L s):∀i,C i->¬O i:=by
 obtain⟨Fm,fs,hv,tx,tl,tb,th,h⟩:=h;exact h.co
theorem ZDM{g:Zz}{Fm:Zhf}{fs hv:List Value}{tx tl tb th:TypeId}(h:CoB w g O C xb L s Fm fs hv tx tl tb th)(hv:fs[i]?=some v):i<64:=by
 have:=(Ze5.1 hv).1;have:=h.fsl;omega
theorem YQ.far{g:Zz}{O':Zhf}(h:YQ w g O C xb L s)(k:GB w w' S)(hs:∀i,i<w.heap.size->S i->O i)(ho:∀i,i<w.heap.size->O' i->O i)(hl:∀i,O' i->i<w'.heap.size):YQ w' g O' C xb L s:=by
 obtain⟨Fm,fs,hv,tx,tl,tb,th,h⟩:=h;have hS:∀i,C i->¬S i:=λi hi e=>h.co i hi (hs i (h.lt i hi) e);have kp:Kp w w' (XO C O) (XO C O'):=Kp.of k (λi hi e=>.inr (hs i hi e)) (λi hi e=>e.imp id (ho i hi));have nX:∀{b:Nat} {o:Obj},w.heap[b]?=some o->¬XO C O b->¬S b:=λhb hx e=>hx (.inr (hs _ (ZX hb) e))
 exact⟨Fm,fs,hv,tx,tl,tb,th,⟨h.mach.gb k (λi hi=>hS i (h.cm i hi)),h.wsl,h.hsl,k.blk h.bx (hS _ h.cx),h.fsl,k.blk h.bl (nX h.bl h.nl),k.blk h.bb (nX h.bb h.nb),k.blk h.bh (hS _ h.ch),h.hvl,λi l hl=>by obtain⟨A,c,rs,e1,e2⟩:=h.holds i l hl;exact⟨A,c,rs,e1,e2.kp kp⟩,kp.rd h.prd h.pfz,h.pfz.kp kp,
  λi v hv=>(h.pend i v hv).kp kp (λhr=>k.block _ (h.lt _ (h.xs i (ZDM h hv) hr).1) (hS _ (h.xs i (ZDM h hv) hr).1)),
  h.mx,h.mh,h.xh,λe=>h.nl (kp.keep _ (ZX h.bl) e),λe=>h.nb (kp.keep _ (ZX h.bb) e),h.cx,h.ch,h.cm,h.xs,h.inj,λi hi=>ZgB (h.lt i hi) k.size,λi hi e=>h.co i hi (ho i (h.lt i hi) e),hl⟩⟩
theorem YQ.ol{g:Zz}(h:YQ w g O C xb L s):∀i,O i->i<w.heap.size:=by
 obtain⟨Fm,fs,hv,tx,tl,tb,th,h⟩:=h;exact h.ol
theorem YQ.ext{g:Zz}(h:YQ w g O C xb L s)(x:ZM w w'):YQ w' g O C xb L s:=h.far (GB.of_ext (λ_=>False) x) (λ_ _ e=>e.elim) (λ_ _ e=>e) (λi hi=>ZgB (h.ol i hi) x.size)
theorem ZBo.back{w1:World}{g:Zz}(x:ZM w0 w)(h:ZBo w g O C xb L s w1):ZBo w0 g O C xb L s w1:=by
 obtain⟨C',h1,h2,h3⟩:=h;exact⟨C',h1,GB.back x h2,λi hi=>(h3 i hi).imp id (Zf8 x.size)⟩
theorem ZB6 {α:Type}{l:List α}{i:Nat}{d:α}(h:i<l.length):l[i]?=some (l.getD i d):=by
 rw[Zez,Ze4 h];rfl
theorem YQ.swap{g:Zz}(h:YQ w g O C xb L s): ∃Fm,Y6 w Fm g.gm s.ws (s.clk:Int) L/\s.ws.length=34/\w.cell? ⟨g.gb,0,none⟩=some (ZH g.gm)/\w.cell? ⟨g.gb,1,none⟩=some (.slice (some ⟨g.gh,0,none⟩) 34 34)/\ (∀i,i<34->∃A c rs,w.cell? ⟨g.gh,i,none⟩=some (.slice A (s.hs.getD i []).length c)/\Zw w (XO C O) A (s.hs.getD i []) rs)/\(∃t cs,w.heap[g.gh]?=some (.cells cs t (0,0)))/\¬Fm g.gb/\¬Fm g.gh/\ (∀L' w',JH w Fm g.gm s.ws (s.clk:Int) L' w'->ZBo w g O C xb L' s w')/\ (∀L' w' i v A c l rs,i<34->JH w Fm g.gm (s.ws.set i v) (s.clk:Int) L' w'->Zw w (XO C O) A l rs->ZBo w g O C xb L' {s with ws:=s.ws.set i v,hs:=s.hs.set i l} (w'.setCell ⟨g.gh,i,none⟩ (.slice A l.length c)))/\ (∀L' w' (n:Nat),JH w Fm g.gm s.ws (n:Int) L' w'->ZBo w g O C xb L' {s with clk:=n} w'):=by
 obtain⟨Fm,fs,hv,tx,tl,tb,th,h⟩:=h;have ky:¬Fm g.gb:=λe=>h.nb (.inl (h.cm _ e));have Do:¬Fm g.gl:=λe=>h.nl (.inl (h.cm _ e));have Df:g.gb≠g.gh:=λe=>h.nb (.inl (e ▸ h.ch));have De:g.gl≠g.gh:=λe=>h.nl (.inl (e ▸ h.ch));have core:∀(L':List Zg) (w':World) (ws':List Nat) (n:Nat),ws'.length=34->JH w Fm g.gm ws' (n:Int) L' w'->∃i8 C',CoB w' g O C' xb L' {s with ws:=ws',clk:=n} i8 fs hv tx tl tb th/\GB w w' C/\(∀i,C' i->C i\/w.heap.size<=i):=λL' w' ws' n hl aE=>by
  obtain⟨i8,m,k,f⟩:=aE;have hnew:∀q,q<w.heap.size->¬Fm q->¬i8 q:=λq hq h1 e=>(f q e).elim h1 (λf=>by omega);have hz:∀i,(C i\/i8 i)->C i\/w.heap.size<=i:=λi hi=>hi.elim .inl (λe=>(f i e).imp (h.cm i) id);have kp:Kp w w' (XO C O) (XO (λi=>C i\/i8 i) O):=Kp.of k (λi _ e=>.inl (h.cm i e)) (λi hi e=>e.imp (λe=>(hz i e).resolve_right ZB) id)
  refine⟨i8,λi=>C i\/i8 i,⟨m,hl,h.hsl,k.blk h.bx h.mx,h.fsl,k.blk h.bl Do,k.blk h.bb ky,k.blk h.bh h.mh,h.hvl,
   λi l hl=>by obtain⟨A,c,rs,e1,e2⟩:=h.holds i l hl;exact⟨A,c,rs,e1,e2.kp kp⟩,kp.rd h.prd h.pfz,h.pfz.kp kp,
   λi v hv=>(h.pend i v hv).kp kp (λhr=>k.block _ (h.lt _ (h.xs i (ZDM h hv) hr).1) (h.xs i (ZDM h hv) hr).2.1),
   hnew _ (h.lt _ h.cx) h.mx,hnew _ (h.lt _ h.ch) h.mh,h.xh,λe=>h.nl (kp.keep _ (ZX h.bl) e),λe=>h.nb (kp.keep _ (ZX h.bb) e),.inl h.cx,.inl h.ch,λi hi=>.inr hi,
   λi hi hr=>by obtain⟨a1,a2,a3,a4⟩:=h.xs i hi hr;exact⟨.inl a1,hnew _ (h.lt _ a1) a2,a3,a4⟩,h.inj,λi hi=>?_,λi hi e=>?_,λi hi=>ZgB (h.ol i hi) k.size⟩,k.more (λi _ e=>h.cm i e),hz⟩
  ·exact hi.elim (λe=>ZgB (h.lt i e) k.size) (λe=>m.lt i e)
  ·have:=h.ol i e;exact h.co i ((hz i hi).resolve_right ZB) e
 refine⟨Fm,h.mach,h.wsl,ZE h.bb 0,ZE h.bb 1,λi hi=>?_,⟨_,_,h.bh⟩,ky,h.mh,λL' w' aE=>?_,λL' w' i v A c l rs hi aE hc=>?_,λL' w' n aE=>?_⟩
 ·obtain⟨A,c,rs,e1,e2⟩:=h.holds i _ (ZB6 (d:=[]) (by rw[h.hsl];exact hi));exact⟨A,c,rs,(ZE h.bh i).trans (by rw[ZfC];exact e1),e2⟩
 ·obtain⟨i8,C',b,k,z⟩:=core L' w' s.ws s.clk h.wsl aE;exact⟨C',⟨_,_,_,_,_,_,_,b⟩,k,z⟩
 ·obtain⟨i8,C',b,k,z⟩:=core L' w' (s.ws.set i v) s.clk (by rw[ZfK];exact h.wsl) aE;have gs:GB w' (w'.setCell ⟨g.gh,i,none⟩ (.slice A l.length c)) (· =g.gh):=(GB.refl w' (· =g.gh)).set g.gh _ _ (.inl rfl);have kp:Kp w' (w'.setCell ⟨g.gh,i,none⟩ (.slice A l.length c)) (XO C' O) (XO C' O):=Kp.of gs (λj _ e=>.inl (e ▸ b.ch)) (λ_ _ e=>e);have oX:Kp w w' (XO C O) (XO C' O):=Kp.of k (λj _ e=>.inl e) (λj hj e=>e.imp (λe=>(z j e).resolve_right ZB) id)
  refine⟨C',⟨i8,fs,hv.set i (.slice A l.length c),tx,tl,tb,th,⟨b.mach.gb gs (λj hj e=>b.mh (e ▸ hj)),b.wsl,by rw[ZfK];exact b.hsl,gs.blk b.bx h.xh,b.fsl,gs.blk b.bl De,gs.blk b.bb Df,?_,by rw[ZfK];exact b.hvl,
   λj hh hl=>?_,kp.rd b.prd b.pfz,b.pfz.kp kp,λj v hv=>(b.pend j v hv).kp kp (λhr=>gs.block _ (b.lt _ (b.xs j (ZDM b hv) hr).1) (b.xs j (ZDM b hv) hr).2.2.2),b.mx,b.mh,b.xh,b.nl,b.nb,b.cx,b.ch,b.cm,b.xs,b.inj,λj hj=>by simpa using b.lt j hj,b.co,λj hj=>by simpa using b.ol j hj⟩⟩,k.trans gs (λj e=>.inl (e ▸ h.ch)),z⟩
  ·refine(ZR b.bh i _).trans ?_;rw[Zfi]
  ·by_cases e:i=j
   ·subst e;rw[ZfA (by rw[h.hsl];exact hi)]at hl;injection hl with hl;subst hl;exact⟨A,c,rs,by rw[ZfA (by rw[h.hvl];exact hi)],(hc.kp oX).kp kp⟩
   ·rw[Ze9 e]at hl;obtain⟨A2,c2,kw,e1,e2⟩:=b.holds j hh hl;exact⟨A2,c2,kw,by rw[Ze9 e];exact e1,e2.kp kp⟩
 ·obtain⟨i8,C',b,k,z⟩:=core L' w' s.ws n h.wsl aE;exact⟨C',⟨_,_,_,_,_,_,_,b⟩,k,z⟩
theorem YQ.pend{g:Zz}(h:YQ w g O C xb L s)(hw:who<64): ∃f,w.cell? ⟨g.gx,3+who,none⟩=some f/\w.frozen? ⟨g.gx,3+who,none⟩=false/\C g.gx/\ZGa w (XO C O) g who (xb who) f (s.call who)/\ ∀f' c',ZGa w (XO C O) g who (xb who) f' c'->(ZAJ c'=true->ZAJ (s.call who)=true)->ZBo w g O C xb L (s.put who c') (w.setCell ⟨g.gx,3+who,none⟩ f'):=by
 obtain⟨Fm,fs,hv,tx,tl,tb,th,h⟩:=h;have hl:=h.fsl;obtain⟨v,m9⟩:∃v,fs[who]?=some v:=⟨_,Ze4 ZB⟩;refine⟨v,(ZE h.bx _).trans (by rw[ZfC,Zfw,Ze2,Ze2,Ze2];exact m9),ZG h.bx _,h.cx,h.pend who v m9,λf' c' hp aC=>?_⟩;have gs:GB w (w.setCell ⟨g.gx,3+who,none⟩ f') (· =g.gx):=(GB.refl w (· =g.gx)).set g.gx _ _ (.inl rfl);have kp:Kp w (w.setCell ⟨g.gx,3+who,none⟩ f') (XO C O) (XO C O):=Kp.of gs (λj _ e=>.inl (e ▸ h.cx)) (λ_ _ e=>e);have Dn:∀i,Fm i->i≠g.gx:=λi hi e=>h.mx (e ▸ hi);have vZ:g.gl≠g.gx:=λe=>h.nl (.inl (e ▸ h.cx));have wg:g.gb≠g.gx:=λe=>h.nb (.inl (e ▸ h.cx));have rr:∀i,ZAJ ((s.put who c').call i)=true->ZAJ (s.call i)=true:=λi hr=>by
  by_cases e:i=who
  ·subst e;rw[Zx]at hr;exact aC hr
  ·rw[Z0 s c' e]at hr;exact hr
 refine⟨C,⟨Fm,fs.set who f',hv,tx,tl,tb,th,⟨h.mach.gb gs Dn,h.wsl,h.hsl,?_,by rw[ZfK];exact h.fsl,gs.blk h.bl vZ,gs.blk h.bb wg,gs.blk h.bh (λe=>h.xh e.symm),h.hvl,
  λi l hl=>by obtain⟨A,c,rs,e1,e2⟩:=h.holds i l hl;exact⟨A,c,rs,e1,e2.kp kp⟩,kp.rd h.prd h.pfz,h.pfz.kp kp,λi y hy=>?_,h.mx,h.mh,h.xh,h.nl,h.nb,h.cx,h.ch,h.cm,λi hi hr=>h.xs i hi (rr i hr),λi j hi hj hr d9=>h.inj i j hi hj (rr i hr) (rr j d9),λi hi=>by simpa using h.lt i hi,h.co,λj hj=>by simpa using h.ol j hj⟩⟩,(GB.refl w C).set g.gx _ _ (.inl h.cx),λ_ h=>.inl h⟩
 ·refine(ZR h.bx _ _).trans ?_;rw[Zfi,Zfw,Zfj,Zfj,Zfj]
 ·by_cases e:i=who
  ·subst e;rw[ZfA ZB]at hy;injection hy with hy;subst hy;rw[Zx];exact hp.kp kp (λhr=>gs.block _ (h.lt _ (h.xs i hw (aC hr)).1) (h.xs i hw (aC hr)).2.2.1)
  ·rw[Ze9 (λh=>e h.symm)]at hy;rw[Z0 s c' e];exact(h.pend i y hy).kp kp (λhr=>gs.block _ (h.lt _ (h.xs i (ZDM h (by rw[hy])) hr).1) (h.xs i (ZDM h (by rw[hy])) hr).2.2.1)
theorem YQ.setx{g:Zz}(h:YQ w g O C xb L s)(hw:who<64){k:YX}(hc:s.call who=.run x res ser k){res':Bool}{ser':Int}(k9:GB w w' (· =xb who))(hb:∀t K kc,w.heap[xb who]?=some (.cells (ZMy g.gx who x K kc res ser) t (0,0))->w'.heap[xb who]?=some (.cells (ZMy g.gx who x K kc res' ser') t (0,0))): ZBo w g O C xb L (s.put who (.run x res' ser' k)) w':=by
 obtain⟨Fm,fs,hv,tx,tl,tb,th,h⟩:=h;have pC:ZAJ (s.call who)=true:=by rw[hc];rfl
 obtain⟨x1,x2,x3,x4⟩:=h.xs who hw pC;have kp:Kp w w' (XO C O) (XO C O):=Kp.of k9 (λj _ e=>.inl (e ▸ x1)) (λ_ _ e=>e);have nX:∀{b:Nat},¬XO C O b->b≠xb who:=λhn e=>hn (.inl (e ▸ x1));have rr:∀i,ZAJ ((s.put who (.run x res' ser' k)).call i)=true->ZAJ (s.call i)=true:=λi hr=>by
  by_cases e:i=who
  ·subst e;exact pC
  ·rw[Z0 s _ e]at hr;exact hr
 refine⟨C,⟨Fm,fs,hv,tx,tl,tb,th,⟨h.mach.gb k9 (λi hi e=>x2 (e ▸ hi)),h.wsl,h.hsl,k9.blk h.bx (λe=>x3 e.symm),h.fsl,k9.blk h.bl (nX h.nl),k9.blk h.bb (nX h.nb),k9.blk h.bh (λe=>x4 e.symm),h.hvl,λi l hl=>by obtain⟨A,c,rs,e1,e2⟩:=h.holds i l hl;exact⟨A,c,rs,e1,e2.kp kp⟩,kp.rd h.prd h.pfz,h.pfz.kp kp,λi y hy=>?_,h.mx,h.mh,h.xh,h.nl,h.nb,h.cx,h.ch,h.cm,λi hi hr=>h.xs i hi (rr i hr),λi j hi hj hr d9=>h.inj i j hi hj (rr i hr) (rr j d9),λi hi=>ZgB (h.lt i hi) k9.size,h.co,λj hj=>ZgB (h.ol j hj) k9.size⟩⟩,k9.more (λi _ e=>e ▸ x1),λ_ h=>.inl h⟩;by_cases e:i=who
 ·subst e;rw[Zx];have hp:=h.pend i y hy;rw[hc]at hp;obtain⟨⟨t,K,kc,e1,e2,e3,e4⟩,hk⟩:=hp;exact⟨⟨t,K,kc,hb t K kc e1,e2,kp.rd e3 e4,e4.kp kp⟩,hk.kp kp⟩
 ·rw[Z0 s _ e];refine(h.pend i y hy).kp kp (λhr=>k9.block _ (h.lt _ (h.xs i (ZDM h hy) hr).1) (λe2=>e (h.inj i who (ZDM h hy) hw hr pC e2)))
structure ZBi (w:World)(X:Zhf)(g:Zz):Prop where
 c0:w.cell? ⟨g.gx,0,none⟩=some (.slice g.PA g.P.length g.pc)
 c1:w.cell? ⟨g.gx,1,none⟩=some (.int .u64 (g.room:Int))
 c2:w.cell? ⟨g.gx,2,none⟩=some (ZH g.gl)
 l0:w.cell? ⟨g.gl,0,none⟩=some (ZH g.gb)
 l1:w.cell? ⟨g.gl,1,none⟩=some (YD 39 #[])
 b0:w.cell? ⟨g.gb,0,none⟩=some (ZH g.gm)
 prd:Rd w g.PA (ZAB g.P)
 pfz:Fz w X g.PA
theorem ZBi.ext{g:Zz}(h:ZBi w X g)(x:ZM w w'):ZBi w' X g:=⟨ZF x h.c0,ZF x h.c1,ZF x h.c2,ZF x h.l0,ZF x h.l1,ZF x h.b0,h.prd.ext x,h.pfz.kp (Kp.ext X x)⟩
theorem YQ.rd{g:Zz}(h:YQ w g O C xb L s):ZBi w (XO C O) g:=by
 obtain⟨Fm,fs,hv,tx,tl,tb,th,h⟩:=h;exact⟨ZE h.bx 0,ZE h.bx 1,ZE h.bx 2,ZE h.bl 0,ZE h.bl 1,ZE h.bb 0,h.prd,h.pfz⟩
theorem YQ.xat{g:Zz}(h:YQ w g O C xb L s)(hw:who<64){k:YX}(hc:s.call who=.run x res ser k):XAt w (XO C O) g.gx who x res ser (xb who)/\C (xb who):=by
 obtain⟨Fm,fs,hv,tx,tl,tb,th,h⟩:=h;have hl:=h.fsl;obtain⟨v,m9⟩:∃v,fs[who]?=some v:=⟨_,Ze4 ZB⟩;have hp:=h.pend who v m9;rw[hc]at hp;exact⟨hp.1,(h.xs who hw (by rw[hc];rfl)).1⟩
theorem Yv(h:w.heap[g]?=some (.cells #[a0,a1,a2,a3,a4,a5,a6] t (0,0)))(b0 b1 b2 b3 b4 b5 b6): (((((((w.setCell ⟨g,0,none⟩ b0).setCell ⟨g,1,none⟩ b1).setCell ⟨g,2,none⟩ b2).setCell ⟨g,3,none⟩ b3).setCell ⟨g,4,none⟩ b4).setCell ⟨g,5,none⟩ b5).setCell ⟨g,6,none⟩ b6).heap[g]?=some (.cells #[b0,b1,b2,b3,b4,b5,b6] t (0,0)):=by
 have h1:_=some (Obj.cells #[b0,a1,a2,a3,a4,a5,a6] t (0,0)):=ZR h 0 b0;have h2:_=some (Obj.cells #[b0,b1,a2,a3,a4,a5,a6] t (0,0)):=ZR h1 1 b1;have h3:_=some (Obj.cells #[b0,b1,b2,a3,a4,a5,a6] t (0,0)):=ZR h2 2 b2;have h4:_=some (Obj.cells #[b0,b1,b2,b3,a4,a5,a6] t (0,0)):=ZR h3 3 b3;have h5:_=some (Obj.cells #[b0,b1,b2,b3,b4,a5,a6] t (0,0)):=ZR h4 4 b4;have h6:_=some (Obj.cells #[b0,b1,b2,b3,b4,b5,a6] t (0,0)):=ZR h5 5 b5;exact ZR h6 6 b6
theorem ZTN (w:World)(g b0 b1 b2 b3 b4 b5 b6):w.grownBy (((((((w.setCell ⟨g,0,none⟩ b0).setCell ⟨g,1,none⟩ b1).setCell ⟨g,2,none⟩ b2).setCell ⟨g,3,none⟩ b3).setCell ⟨g,4,none⟩ b4).setCell ⟨g,5,none⟩ b5).setCell ⟨g,6,none⟩ b6) (some g):=by
 have h0:=Ze w g 0 b0;have h1:=ZU h0 1 b1;have h2:=ZU h1 2 b2;have h3:=ZU h2 3 b3;have h4:=ZU h3 4 b4;have h5:=ZU h4 5 b5;exact ZU h5 6 b6
theorem ZXm(h:ZM w w2)(hg:w.heap.size<=g)(b0 b1 b2 b3 b4 b5 b6):ZM w (((((((w2.setCell ⟨g,0,none⟩ b0).setCell ⟨g,1,none⟩ b1).setCell ⟨g,2,none⟩ b2).setCell ⟨g,3,none⟩ b3).setCell ⟨g,4,none⟩ b4).setCell ⟨g,5,none⟩ b5).setCell ⟨g,6,none⟩ b6):=Yr h (ZTN w2 g b0 b1 b2 b3 b4 b5 b6) hg
theorem ZXe{b0 b1 b2 b3 b4 b5 b6:Value}(h:w.cell? p=some v)(ag:p.block≠g):(((((((w.setCell ⟨g,0,none⟩ b0).setCell ⟨g,1,none⟩ b1).setCell ⟨g,2,none⟩ b2).setCell ⟨g,3,none⟩ b3).setCell ⟨g,4,none⟩ b4).setCell ⟨g,5,none⟩ b5).setCell ⟨g,6,none⟩ b6).cell? p=some v:=by
 have h0:=Zd (g:=g) (i:=0) (u:=b0) h ag;have h1:=Zd (g:=g) (i:=1) (u:=b1) h0 ag;have h2:=Zd (g:=g) (i:=2) (u:=b2) h1 ag;have h3:=Zd (g:=g) (i:=3) (u:=b3) h2 ag;have h4:=Zd (g:=g) (i:=4) (u:=b4) h3 ag;have h5:=Zd (g:=g) (i:=5) (u:=b5) h4 ag;exact Zd (g:=g) (i:=6) (u:=b6) h5 ag
theorem ZWQ (v w):Calls prog 133 #[v] w λe w'=>e=.returned (.tuple #[v,.agg #[.bool false,.int .i64 0,.bool false,.int .i64 0,.int .i64 0,.int .i64 0,.int .i64 0]])/\ZM w w':=by
 go_enter func133,ntmps133;go_wp2_with fail;refine Zgd (ZP (p:=3) (u:=2) rfl _ _ w.heap.size _ #[.bool false,.int .i64 0,.bool false,.int .i64 0,.int .i64 0,.int .i64 0,.int .i64 0] (0,0) _ rfl (ZV w _) underlying41 ZX0 ZC) rfl ?_;exact⟨rfl,(ZM.refl w).alloc _⟩
theorem ZVK (er gr l wt sr nw w):Calls prog 178 #[.agg #[.int .i64 er,.bool gr,.int .i64 l,.int .i64 wt,.int .i64 sr,.int .i64 nw]] w λe w'=>e=.returned (.tuple #[.nilFunc,.agg #[.bool true,.int .i64 er,.bool gr,.int .i64 l,.int .i64 wt,.int .i64 sr,.int .i64 nw]])/\ZM w w':=by
 go_enter func178,ntmps178;go_wp2_with fail;go_region;go_wp2_with fail;refine Zgd (ZP (p:=3) (u:=2) rfl _ _ (w.heap.size+1) _ #[.bool true,.int .i64 er,.bool gr,.int .i64 l,.int .i64 wt,.int .i64 sr,.int .i64 nw] (0,0) _ rfl (Zi _ _ ZXz) underlying41 ZX0 ZC) rfl ?_;exact⟨rfl,(((ZM.refl w).alloc _).alloc _).drew⟩
theorem ZX8 {p : Prop} (h : p := by with_reducible first | assumption | (refine ZJ ?_; assumption) | (refine ZI ?_ _; assumption) | (refine ZJ (ZI ?_ _); assumption) | (refine ZXe ?_ ?_ <;> assumption) | (refine ZJ (ZXe ?_ ?_) <;> assumption)) : p := h
def ClR (P:World->Value->Prop)(w:World)(e:Ending)(w':World):Prop:=∃v,e=.returned v/\P w' v/\ZM w w'
def YE (w:World)(X:Zhf):Prop:=∀i,X i->i<w.heap.size
theorem YE.not(h:YE w X)(hk:w.heap.size<=k):¬X k:=λe=>by have:=h k e;omega
theorem YE.ext(h:YE w X)(x:ZM w w'):YE w' X:=λi hi=>ZgB (h i hi) x.size
theorem Zh.new{cs:Array Value}(hk:k=w.heap.size)(hx:¬X k):Zh (w.alloc (.cells cs t (0,0))) X (.pointer (some ⟨k,0,none⟩)) cs:=by
 subst hk;exact⟨_,t,rfl,ZV w _,hx⟩
theorem Zh.past{p:Value}{cs:Array Value}(h:Zh w X p cs)(o):Zh (w.alloc o) X p cs:=h.ext ((ZM.refl w).alloc o)
theorem Jg.ext{t:ZAc}(h:Jg w X d v t)(x:ZM w w'):Jg w' X d v t:=h.kp (Kp.ext X x)
theorem JE.ext{t:ZAQ}(h:JE w X d v t)(x:ZM w w'):JE w' X d v t:=h.kp (Kp.ext X x)
theorem Xr.ext{t:Jk}(h:Xr w X d v t)(x:ZM w w'):Xr w' X d v t:=h.kp (Kp.ext X x)
theorem Xi.ext{t:ZBs}(h:Xi w X d sv tv t)(x:ZM w w'):Xi w' X d sv tv t:=h.kp (Kp.ext X x)
theorem ZDN.ext{c:ZL}{r:Zt}(h:ZDN w X d v f c r)(x:ZM w w'):ZDN w' X d v f c r:=h.kp (Kp.ext X x)
theorem XH.ext{s:Nat}(h:XH w X d v j s)(x:ZM w w'):XH w' X d v j s:=h.kp (Kp.ext X x)
theorem Zk.ext{t:YX}(h:Zk w X d v t)(x:ZM w w'):Zk w' X d v t:=h.kp (Kp.ext X x)
theorem Jg.fn{t:ZAc}(h:Jg w X d v t):∃f c,v=YD f c:=by
 cases t with
 |begin=>obtain⟨_,_,h0,_⟩:=h;exact⟨_,_,h0⟩
 |evict j s g=>obtain⟨_,_,_,_,h0,_⟩:=h;exact⟨_,_,h0⟩
theorem JE.fn{t:ZAQ}(h:JE w X d v t):∃f c,v=YD f c:=by
 cases t with
 |find s l t=>obtain⟨_,_,_,_,_,_,_,h0,_⟩:=h;exact⟨_,_,h0⟩
 |move l i=>obtain⟨_,_,_,_,_,_,h0,_⟩:=h;exact⟨_,_,h0⟩
theorem Xr.fn{t:Jk}(h:Xr w X d v t):∃f c,v=YD f c:=by
 cases t with
 |find s t=>obtain⟨_,_,_,_,_,_,h0,_⟩:=h;exact⟨_,_,h0⟩
 |move1 l i hs=>obtain⟨_,_,_,_,_,_,_,h0,_⟩:=h;exact⟨_,_,h0⟩
 |move2 l i=>obtain⟨_,_,_,_,_,_,h0,_⟩:=h;exact⟨_,_,h0⟩
theorem Xi.fn{t:ZBs}(h:Xi w X d sv tv t):∃f c,tv=YD f c:=by
 cases t with
 |leave r=>obtain⟨_,_,_,_,h0,_⟩:=h;exact⟨_,_,h0⟩
 |gone j s g n=>obtain⟨_,_,_,_,_,_,_,h0,_⟩:=h;exact⟨_,_,h0⟩
 |count f c r=>obtain⟨_,_,_,_,h0,_⟩:=h;exact⟨_,_,h0⟩
 |serial f c=>obtain⟨_,_,_,_,_,_,h0,_⟩:=h;exact⟨_,_,h0⟩
theorem ZFw (w:World)(X:Zhf)(d:Jv)(sum:Nat)(tv:Value)(t:ZAc)(hX:YE w X)(h:Jg w X d tv t): Calls prog 179 #[ZH d.gl,.int .i64 (d.who:Int),.int .u64 sum,tv] w (ClR (λw' v=>Zk w' X d v (.find sum t)) w):=by
 have bU:=Jt;obtain⟨f,c,rfl⟩:=h.fn;have H:=ZA h;clear h;go_enter func179,ntmps179;go_wp2_with fail;go_ret;refine⟨_,rfl,⟨_,_,_,_,_,rfl,⟨(((Zh.new rfl (hX.not ZB)).past _).past _).past _,((Zh.new ZXz (hX.not ZB)).past _).past _⟩,(Zh.new ZXz (hX.not ZB)).past _,Zh.new ZXz (hX.not ZB),H.o.ext (((((ZM.refl w).alloc _).alloc _).alloc _).alloc _)⟩,((((ZM.refl w).alloc _).alloc _).alloc _).alloc _⟩
end Go.Proofs.YtloidkmphigbdaaGreat
