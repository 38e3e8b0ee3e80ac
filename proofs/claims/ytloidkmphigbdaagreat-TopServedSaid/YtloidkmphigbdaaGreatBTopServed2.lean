import Derived.Test.YtloidkmphigbdaaGreatBTopServed1
namespace Go.Proofs.YtloidkmphigbdaaGreat
open Tryz
set_option linter.all false
set_option maxHeartbeats 40000000
set_option maxRecDepth 100000
open Go.RowKit
variable {a:Act}{done res:Bool}{p ser:Int}{d:Jv}{rs ws:List Nat}{rest:List Oper}{hv xs:List Value}{L:List Zg}{N base c cb fuel gg i level n who:Nat}{xb:Nat->Nat}{o oi:Oper}{A B:Option Addr}{e:TypeId}{nv v:Value}{W w w' w1 w2 w3:World}{k:YX}{s s1 s2:Z9}{x:ZW}{C C' O X:Zhf}{out:Zs}{r:Zt}{g:Zz}
def ZeW := @Array.replicate_succ
def ZeX := @Array.replicate_zero
def ZeY := @Array.setIfInBounds_comm
def Zea := @Classical.byContradiction
def Zel := @List.append_toArray
def Zen := @List.cons_append
def Zf4 := @Nat.eq_zero_or_pos
def Zf7 := @Nat.le_succ
def ZfJ := @List.length_nil
def ZfZ := @List.mem_range
def Zfh := @List.push_toArray
def Zfk := @List.size_toArray
def Zfr := @List.take_take
def ZgE := @Nat.min_eq_left
def ZgG := @Nat.mod_lt
def ZgH := @Nat.mul_comm
def ZgI := @Nat.mul_le_mul_right
def ZgP := @Nat.pow_succ
def Zga := @World.size_alloc
def Zgc := @beq_iff_eq
def Zgh := @getD_set_ne
def Zgn := @leaves_cons
def Zgq := @results_cell_row
def Zgr := @results_none
theorem ZPT (S m:Nat)(hS:S<18446744073709551616)(hm:m<=4):bits .and .i64 (wrap64 (S:Int)) ((2 ^ m - 1:Nat):Int)=((S % 2 ^ m:Nat):Int):=by
 have hk:2 ^ m - 1<16:=by
  have:m=0\/m=1\/m=2\/m=3\/m=4:=by omega
  rcases this with rfl|rfl|rfl|rfl|rfl<;>omega
 have h1:(BitVec.ofInt 64 (wrap64 (S:Int))).toNat=S:=by
  rw[BitVec.toNat_ofInt];unfold wrap64;omega
 have h2:(BitVec.ofInt 64 ((2 ^ m - 1:Nat):Int)).toNat=2 ^ m - 1:=by
  rw[BitVec.toNat_ofInt];omega
 have h3:S % 2 ^ m<16:=by
  have:=ZgG S (Nat.two_pow_pos m);omega
 show IntKind.i64.wrap ((BitVec.ofInt 64 (wrap64 (S:Int))&&& BitVec.ofInt 64 ((2 ^ m - 1:Nat):Int)).toNat:Int)=_;rw[BitVec.toNat_and,h1,h2,Zf3,Zee];omega
theorem ZP9 (S m:Nat){a k:Int}(hS:S<18446744073709551616)(hm:m<=4)(ha:a=((2 ^ m:Nat):Int))(hk:k=((2 ^ m - 1:Nat):Int)):wrap64 (a+bits .and .i64 (wrap64 (S:Int)) k)=((ZO m S:Nat):Int):=by
 have h3:S % 2 ^ m<16/\2 ^ m<=16:=by
  have h:=ZgG S (Nat.two_pow_pos m);have:m=0\/m=1\/m=2\/m=3\/m=4:=by omega
  rcases this with rfl|rfl|rfl|rfl|rfl<;>omega
 rw[ha,hk,ZPT S m hS hm];unfold wrap64 ZO;omega
theorem ZAu (level sum:Nat)(w:World)(hl:level<=4)(hs:sum<18446744073709551616): Calls prog 81 #[.int .i64 level,.int .u64 sum] w λe w'=>e=.returned (.int .i64 (ZO level sum:Int))/\w=w':=by
 have e:=ZPT sum level hs hl;have:level=0\/level=1\/level=2\/level=3\/level=4:=by omega
 rcases this with rfl|rfl|rfl|rfl|rfl
 all_goals
  go_enter func81,ntmps81;go_wp2_with fail;go_ret;exact⟨Zge (λq=>Ending.returned (Value.int .i64 q)) (ZP9 sum _ hs ZB rfl rfl),rfl⟩
theorem ZCj (level sum)(hl:level<=4):1<=ZO level sum/\ZO level sum<32:=by
 unfold ZO;have h:=ZgG sum (Nat.two_pow_pos level);have:level=0\/level=1\/level=2\/level=3\/level=4:=by omega
 rcases this with rfl|rfl|rfl|rfl|rfl<;>omega
theorem ZHs (w:World)(X:Zhf)(d:Jv)(sum word:Nat)(tv:Value)(t:ZAc)(hX:YE w X)(h:Jg w X d tv t): Calls prog 238 #[ZH d.gl,.int .i64 (d.who:Int),.int .u64 sum,.int .i64 word,tv] w (ClR (λw' v=>Zk w' X d v (.enter sum word t)) w):=by
 have bU:=Jt;obtain⟨f,c,rfl⟩:=h.fn;have H:=ZA h;clear h;go_enter func238,ntmps238;go_wp2_with fail;go_ret;exact⟨_,rfl,⟨_,_,_,_,_,_,rfl,⟨(((((Zh.new rfl (hX.not ZB)).past _).past _).past _).past _),((((Zh.new ZXz (hX.not ZB)).past _).past _).past _)⟩,((Zh.new ZXz (hX.not ZB)).past _),(((Zh.new ZXz (hX.not ZB)).past _).past _),(Zh.new ZXz (hX.not ZB)),H.o.ext ((((((ZM.refl w).alloc _).alloc _).alloc _).alloc _).alloc _)⟩,((((((ZM.refl w).alloc _).alloc _).alloc _).alloc _).alloc _)⟩
theorem ZDZ (w:World)(X:Zhf)(d:Jv)(word:Nat)(tv:Value)(t:ZAQ)(hX:YE w X)(h:JE w X d tv t): Calls prog 232 #[ZH d.gl,.int .i64 (d.who:Int),.int .i64 word,tv] w (ClR (λw' v=>Zk w' X d v (.frz word t)) w):=by
 have bU:=Jt;obtain⟨f,c,rfl⟩:=h.fn;have H:=ZA h;clear h;go_enter func232,ntmps232;go_wp2_with fail;go_ret;exact⟨_,rfl,⟨_,_,_,_,_,rfl,⟨((((Zh.new rfl (hX.not ZB)).past _).past _).past _),(((Zh.new ZXz (hX.not ZB)).past _).past _)⟩,((Zh.new ZXz (hX.not ZB)).past _),(Zh.new ZXz (hX.not ZB)),H.o.ext (((((ZM.refl w).alloc _).alloc _).alloc _).alloc _)⟩,(((((ZM.refl w).alloc _).alloc _).alloc _).alloc _)⟩
theorem ZHq (w X)(d:Jv)(hX:YE w X): Calls prog 129 #[ZH d.gl,.int .i64 (d.who:Int),YD 130 #[]] w (ClR (λw' v=>Zk w' X d v .split) w):=by
 have bU:=Jt;go_enter func129,ntmps129;go_wp2_with fail;go_ret;exact⟨_,rfl,⟨_,_,_,rfl,⟨(((Zh.new rfl (hX.not ZB)).past _).past _),((Zh.new ZXz (hX.not ZB)).past _)⟩,(Zh.new ZXz (hX.not ZB))⟩,((((ZM.refl w).alloc _).alloc _).alloc _)⟩
theorem ZFv (w:World)(X:Zhf)(d:Jv)(level shard n c:Nat)(A:Option Addr)(holds:List ZL)(rs:List Z7)(tv:Value)(t:Jk)(hX:YE w X)(h:Xr w X d tv t)(hl:level<=4)(hs:shard<18446744073709551616)(hn:holds.length=n)(hC:Zw w X A holds rs): Calls prog 234 #[ZH d.gl,.int .i64 (d.who:Int),.int .i64 level,.int .u64 shard,.slice A n c,tv] w (ClR (λw' v=>Zk w' X d v (.half level shard holds t)) w):=by
 have bU:=Jt;have PL:=ZA (λw=>ZAu level shard w hl hs);obtain⟨f,cc,rfl⟩:=h.fn;have H:=ZA h;have HC:=ZA hC;subst hn;obtain⟨pl,hp⟩:=ZX2 (ZO level shard);rw[hp.out]at PL;clear h hC;go_enter func234,ntmps234;go_wp2_with fail;refine(PL.out _).mono ?_;rintro e w1 ⟨rfl,rfl⟩;go_wp2_with fail;go_ret;refine⟨_,rfl,⟨_,_,_,_,_,_,_,rfl,⟨((((((Zh.new rfl (hX.not ZB)).past _).past _).past _).past _).past _),(((((Zh.new ZXz (hX.not ZB)).past _).past _).past _).past _)⟩,?_,((Zh.new ZXz (hX.not ZB)).past _),H.o.ext (((((((ZM.refl w).alloc _).alloc _).alloc _).alloc _).alloc _).alloc _),⟨A,c,rs,(((Zh.new ZXz (hX.not ZB)).past _).past _),HC.o.ext (((((((ZM.refl w).alloc _).alloc _).alloc _).alloc _).alloc _).alloc _)⟩,((((Zh.new ZXz (hX.not ZB)).past _).past _).past _)⟩,(((((((ZM.refl w).alloc _).alloc _).alloc _).alloc _).alloc _).alloc _)⟩;rw[hp.out];exact(Zh.new ZXz (hX.not ZB))
theorem Zh.drew{p:Value}{cs:Array Value}(h:Zh w X p cs):Zh w.drew X p cs:=h
theorem ZHe(hl:level<=3):2 ^ level<=8:=by
 have:level=0\/level=1\/level=2\/level=3:=by omega
 rcases this with rfl|rfl|rfl|rfl<;>omega
theorem ZDU(hl:level<=4):wrap64 (2 ^ level)=((2 ^ level:Nat):Int):=by
 have:level=0\/level=1\/level=2\/level=3\/level=4:=by omega
 rcases this with rfl|rfl|rfl|rfl|rfl<;>(rw[IntWalk.wrap64_in _ (by decide)];rfl)
theorem ZWM {level i:Nat}(hl:level<=4)(h:i=2 ^ level):((i:Int)==wrap64 (2 ^ level))=true:=by
 rw[ZDU hl,h,Zgc]
theorem ZWL {level i:Nat}(hl:level<=4)(h:i≠2 ^ level):((i:Int)==wrap64 (2 ^ level))=false:=by
 rw[ZDU hl,Zgb];omega
theorem ZFu (w:World)(X:Zhf)(d:Jv)(level i:Nat)(hX:YE w X)(hl:level<=3)(hi:i<=2 ^ level): Calls prog 175 #[ZH d.gl,.int .i64 (d.who:Int),.int .i64 level,.int .i64 i,YD 130 #[]] w (ClR (λw' v=>Zk w' X d v (XM level i)) w):=by
 have bU:=Jt;have Az:=ZHe hl;by_cases he:i=2 ^ level
 ·have hb:=ZWM ZB he;unfold XM;rw[Zgl he];clear Az hi he;go_enter func175,ntmps175;go_wp2_with fail;go_region;go_wp2_with fail;go_ret;exact⟨_,rfl,⟨_,_,_,_,rfl,⟨(((((((Zh.new rfl (hX.not ZB)).past _).past _).past _).past _).past _)).drew,((((((Zh.new ZXz (hX.not ZB)).past _).past _).past _).past _)).drew⟩,(((((Zh.new ZXz (hX.not ZB)).past _).past _).past _)).drew,(((Zh.new ZXz (hX.not ZB)).past _)).drew⟩,((((((((ZM.refl w).alloc _).alloc _).alloc _).alloc _).alloc _).alloc _)).drew⟩
 ·unfold XM;rw[Zgk he];have xz:i<8:=by omega
  have hs:i<18446744073709551616:=by omega
  have PL:=ZA (λw=>ZAu level i w ZB hs);obtain⟨pl,hp⟩:=ZX2 (ZO level i);rw[hp.out]at PL ⊢;have mA:IntKind.u64.wrap (i:Int)=(i:Int):=by rw[Zef];omega
  obtain⟨W,hW⟩:=ZX3 (((((((w.alloc (.cells #[ZH d.gl] 135)).alloc (.cells #[.int .i64 (d.who:Int)] 3)).alloc (.cells #[.int .i64 level] 3)).alloc (.cells #[.int .i64 i] 3)).alloc (.cells #[YD 130 #[]] 252)).alloc ZYE).drew);have r0:Zh W X (ZH w.heap.size) #[ZH d.gl]:=by rw[<-hW];exact(((((((Zh.new rfl (hX.not ZB)).past _).past _).past _).past _).past _)).drew
  have r1:Zh W X (ZH (w.heap.size+1)) #[.int .i64 (d.who:Int)]:=by rw[<-hW];exact((((((Zh.new ZXz (hX.not ZB)).past _).past _).past _).past _)).drew
  have r2:Zh W X (ZH (w.heap.size+1+1)) #[.int .i64 level]:=by rw[<-hW];exact(((((Zh.new ZXz (hX.not ZB)).past _).past _).past _)).drew
  have r3:Zh W X (ZH (w.heap.size+1+1+1)) #[.int .i64 i]:=by rw[<-hW];exact((((Zh.new ZXz (hX.not ZB)).past _).past _)).drew
  have r4:Zh W X (ZH (w.heap.size+1+1+1+1)) #[YD 130 #[]]:=by rw[<-hW];exact(((Zh.new ZXz (hX.not ZB)).past _)).drew
  have r5:Zh W X (ZH (w.heap.size+1+1+1+1+1)) (ZW1 false ZAG):=by rw[<-hW];exact((Zh.new ZXz (hX.not ZB))).drew
  have xW:ZM w W:=by rw[<-hW];exact((((((((ZM.refl w).alloc _).alloc _).alloc _).alloc _).alloc _).alloc _)).drew
  have d0:=r0.ZX6 0 (ZH d.gl);have d1:=r1.ZX6 0 (.int .i64 (d.who:Int));have d2:=r2.ZX6 0 (.int .i64 level);have d3:=r3.ZX6 0 (.int .i64 i);have FT:JE W X d (YD 233 #[ZH w.heap.size,ZH (w.heap.size+1),ZH (w.heap.size+1+1),ZH (w.heap.size+1+1+1),ZH (w.heap.size+1+1+1+1),ZH (w.heap.size+1+1+1+1+1)]) (.move level i):=⟨_,_,_,_,_,_,rfl,⟨r0,r1⟩,r2,r3,r4,r5⟩;have FZ:=ZA (ZDZ W.drew X d pl _ _ (hX.ext (xW.trans (ZM.refl W).drew)) (FT.ext (ZM.refl W).drew));have XW:=ZA xW;have hb:=ZWL ZB he;clear r0 r1 r2 r3 r4 r5 FT xW Az hi he hX;go_enter func175,ntmps175;go_upto_region 2 with fail;go_region;go_upto_region 4 with fail
  (try rw[hW])
  clear hW
  go_region_held3 (λw'=>w'.cell? ⟨w.heap.size,0,none⟩=some (ZH d.gl)/\w'.cell? ⟨w.heap.size+1,0,none⟩=some (.int .i64 (d.who:Int))/\w'.cell? ⟨w.heap.size+1+1,0,none⟩=some (.int .i64 level)/\w'.cell? ⟨w.heap.size+1+1+1,0,none⟩=some (.int .i64 i)) (((try go_split_ands);refine⟨?_,?_,?_,?_⟩<;>first|assumption|with_reducible first|exact ZJ d0|exact ey|exact ZJ ey|exact ZI ey _|exact ZJ (ZI d0 _)|exact ZJ d1|exact dY|exact ZJ dY|exact ZI dY _|exact ZJ (ZI d1 _)|exact ZJ d2|exact eo|exact ZJ eo|exact ZI eo _|exact ZJ (ZI d2 _)|exact ZJ d3|exact ex|exact ZJ ex|exact ZI ex _|exact ZJ (ZI d3 _)))
   (first
    |(go_at_call 81;(with_reducible refine(PL.out _).mono ?_);rintro e w1 ⟨rfl,rfl⟩)
    |(go_at_call 232;(with_reducible refine FZ.o.mono ?_);rintro e w2 ⟨v,rfl,hk,hx⟩;have HK:=ZA hk;have HX:=ZA hx;have ey:=ZF ((ZM.refl W).drew.trans hx) d0;have dY:=ZF ((ZM.refl W).drew.trans hx) d1;have eo:=ZF ((ZM.refl W).drew.trans hx) d2;have ex:=ZF ((ZM.refl W).drew.trans hx) d3;clear hk hx))
  all_goals
   go_wp2_with fail;go_ret;exact⟨_,rfl,HK.o,XW.o.trans ((ZM.refl W).drew.trans HX.o)⟩
def ZEW (w:World)(X:Zhf)(d:Jv)(nv:Value)(done:Bool)(r:Zt):Zs->Prop
 |.on k=>Zk w X d nv k/\done=false/\r=ZAG
 |.fin r'=>nv=.nilFunc/\done=true/\r=r'
def ZAi (X:Zhf)(d:Jv)(out:Zs)(w:World)(e:Ending)(w':World):Prop:=∃nv done r,e=.returned (.tuple #[nv,.agg #[.bool done,.int .i64 (r.er:Int),.bool r.granted,.int .i64 r.left,.int .i64 r.wait,.int .i64 r.ser,.int .i64 r.now]])/\ZEW w' X d nv done r out/\ZM w w'
theorem ZEW.ext(h:ZEW w X d nv done r out)(x:ZM w w'):ZEW w' X d nv done r out:=by
 cases out with
 |on k=>exact⟨h.1.ext x,h.2⟩
 |fin r'=>exact h
theorem ZAI(h:Zk w X d v k):Calls prog 133 #[v] w (ZAi X d (.on k) w):=(ZWQ v w).mono λ_ _ ⟨h1,h2⟩=>⟨v,false,ZAG,h1,⟨h.ext h2,rfl,rfl⟩,h2⟩
theorem ZCT (w X d)(r:Zt):Calls prog 178 #[.agg #[.int .i64 (r.er:Int),.bool r.granted,.int .i64 r.left,.int .i64 r.wait,.int .i64 r.ser,.int .i64 r.now]] w (ZAi X d (.fin r) w):=(ZVK _ _ _ _ _ _ w).mono λ_ _ ⟨h1,h2⟩=>⟨.nilFunc,true,r,h1,⟨rfl,rfl,rfl⟩,h2⟩
abbrev XG (X:Zhf)(g:Nat):Nat->Prop:=λi=>X i\/i=g
theorem kpg{g:Nat}(x:ZM w W)(hg:w.heap.size<=g):Kp w W X (XG X g):=Kp.of (S:=λ_=>False) (GB.of_ext _ x) (λ_ _ e=>e.elim) (λi hi e=>e.resolve_right ZB)
theorem YE.xg{g:Nat}(h:YE w X)(x:ZM w W)(hg:g<W.heap.size):YE W (XG X g):=λi hi=>hi.elim (λe=>ZgB (h i e) x.size) (λe=>e ▸ hg)
theorem gb7 (w:World)(g b0 b1 b2 b3 b4 b5 b6):GB w (((((((w.setCell ⟨g,0,none⟩ b0).setCell ⟨g,1,none⟩ b1).setCell ⟨g,2,none⟩ b2).setCell ⟨g,3,none⟩ b3).setCell ⟨g,4,none⟩ b4).setCell ⟨g,5,none⟩ b5).setCell ⟨g,6,none⟩ b6) (· =g):=(GB.refl w (· =g)).grown (ZTN w g b0 b1 b2 b3 b4 b5 b6) (λq e=>by injection e with e;exact .inl e.symm)
theorem Zk.xg{g:Nat}(h:Zk w (XG X g) d v k)(b:GB w w' (· =g)):Zk w' X d v k:=h.kp (Kp.of b (λ_ _ e=>.inr e) (λ_ _ e=>.inl e))
theorem Yz{g:Nat}(h:ZEW w2 (XG X g) d nv done r out)(x:ZM w w2)(hg:w.heap.size<=g)(b0 b1 b2 b3 b4 b5 b6): ZAi X d out w (.returned (.tuple #[nv,.agg #[.bool done,.int .i64 (r.er:Int),.bool r.granted,.int .i64 r.left,.int .i64 r.wait,.int .i64 r.ser,.int .i64 r.now]])) (((((((w2.setCell ⟨g,0,none⟩ b0).setCell ⟨g,1,none⟩ b1).setCell ⟨g,2,none⟩ b2).setCell ⟨g,3,none⟩ b3).setCell ⟨g,4,none⟩ b4).setCell ⟨g,5,none⟩ b5).setCell ⟨g,6,none⟩ b6):=by
 have k7:=gb7 w2 g b0 b1 b2 b3 b4 b5 b6;have x7:=ZXm x hg b0 b1 b2 b3 b4 b5 b6;refine⟨nv,done,r,rfl,?_,x7⟩;cases out with
 |on k=>obtain⟨a,b,c⟩:=h;exact⟨Zk.xg a k7,b,c⟩
 |fin r'=>obtain⟨a,b,c⟩:=h;exact⟨a,b,c⟩
theorem Xi.sv {w:World}{X:Zhf}{d:Jv}{sv tv:Value}{t:ZBs}(h:Xi w X d sv tv t):sv=.nilFunc\/∃f c,sv=YD f c:=by
 cases t with
 |leave r=>obtain⟨_,_,_,h0,_⟩:=h;exact .inl h0
 |gone j s g n=>obtain⟨_,_,_,_,_,_,h0,_⟩:=h;exact .inl h0
 |count f c r=>obtain⟨_,_,_,h0,_⟩:=h;exact .inr ⟨_,_,h0⟩
 |serial f c=>obtain⟨_,_,_,_,h0,_⟩:=h;exact .inr ⟨_,_,h0⟩
theorem ZKb (w:World)(X:Zhf)(d:Jv)(word by_ stop:Nat)(sv tv:Value)(t:ZBs)(hX:YE w X)(h:Xi w X d sv tv t): Calls prog 244 #[ZH d.xb,.int .i64 word,.int .u64 by_,.int .u64 stop,sv,tv] w (ClR (λw' v=>Zk w' X d v (.mv word by_ stop t)) w):=by
 have bU:=Jt;obtain⟨f,c,rfl⟩:=h.fn;have H:=ZA h;rcases h.sv with rfl|⟨f2,c2,rfl⟩
 all_goals
  clear h;go_enter func244,ntmps244;go_wp2_with fail;go_ret;exact⟨_,rfl,⟨_,_,_,_,_,_,_,_,rfl,((((((Zh.new rfl (hX.not ZB)).past _).past _).past _).past _).past _),(((((Zh.new ZXz (hX.not ZB)).past _).past _).past _).past _),(((Zh.new ZXz (hX.not ZB)).past _).past _),((Zh.new ZXz (hX.not ZB)).past _),((((Zh.new ZXz (hX.not ZB)).past _).past _).past _),(Zh.new ZXz (hX.not ZB)),H.o.ext (((((((ZM.refl w).alloc _).alloc _).alloc _).alloc _).alloc _).alloc _)⟩,(((((((ZM.refl w).alloc _).alloc _).alloc _).alloc _).alloc _).alloc _)⟩
theorem ZTq (w X)(d:Jv)(f:Yb)(n c A rs)(ce:ZL)(r:Z7)(hX:YE w X)(hn:f.cells.length=n)(hf:Zw w X A f.cells rs)(hc:Yi w X r ce): Calls prog 192 #[ZH d.xb,.agg #[.int .u8 (d.pol.kind:Int),.int .i64 d.pol.T,.int .i64 d.pol.Tau,.int .i64 d.pol.perm],.agg #[.int .i64 (f.word:Int),.int .u64 (f.v:Int),.slice A n c],.int .i64 (f.at_:Int),.bool f.there,.agg #[.int .i64 (ce.pol:Int),.slice r.K ce.key.length r.kc,.int .i64 ce.tat,.slice r.H ce.held.length r.hc]] w (ClR (λw' v=>Zk w' X d v (.allow f ce)) w):=by
 have bU:=Jt;subst hn;have HF:=ZA hf;have HC:=ZA hc;clear hf hc;go_enter func192,ntmps192;go_wp2_with fail;go_ret;exact⟨_,rfl,⟨_,_,_,_,_,_,rfl,(((((Zh.new ZXz (hX.not ZB)).past _).past _).past _).past _),⟨r,(Zh.new ZXz (hX.not ZB)),HC.o.ext (((((((ZM.refl w).alloc _).alloc _).alloc _).alloc _).alloc _).alloc _)⟩,((((((Zh.new rfl (hX.not ZB)).past _).past _).past _).past _).past _),⟨A,c,rs,((((Zh.new ZXz (hX.not ZB)).past _).past _).past _),HF.o.ext (((((((ZM.refl w).alloc _).alloc _).alloc _).alloc _).alloc _).alloc _)⟩,(((Zh.new ZXz (hX.not ZB)).past _).past _),((Zh.new ZXz (hX.not ZB)).past _)⟩,(((((((ZM.refl w).alloc _).alloc _).alloc _).alloc _).alloc _).alloc _)⟩
theorem ZPQ (w:World)(X:Zhf)(d:Jv)(n nn:Nat)(fi:FuncId)(ci:Array Value)(t:ZBs)(hX:YE w X)(h1:1<=n)(h2:n<=5000)(sF:18446744073709551616 - n=nn)(h:∀w' q,ZM w w'->YC w' X q (YD fi ci)->Xi w' X d .nilFunc (YD 245 #[q]) t): Calls prog 188 #[ZH d.xb,.int .u64 n,YD fi ci] w (ClR (λw' v=>Zk w' X d v (.mv 32 nn JG t)) w):=by
 have bU:=Jt;have hw:IntKind.u64.wrap (-(n:Int))=(nn:Int):=by rw[Zef];omega
 obtain⟨W,hW,xW,-⟩:=Za w (.cells #[YD fi ci] 138);have MV:=ZA (ZKb W X d 32 nn 18446744073709551615 .nilFunc _ t (hX.ext xW) (h W (ZH w.heap.size) xW (by rw[<-hW];exact(Zh.new rfl (hX.not ZB)))));have XW:=ZA xW;clear h xW;go_enter func188,ntmps188;go_wp2_with fail
 (try rw[hW])
 clear hW;refine MV.o.mono ?_;rintro e w1 ⟨v,rfl,hk,hx⟩;have HK:=ZA hk;have HX:=ZA hx;clear hk hx;go_wp2_with fail;go_ret;exact⟨_,rfl,HK.o,XW.o.trans HX.o⟩
theorem ZEl (w:World)(X)(d:Jv)(res)(r:Zt)(hX:YE w X)(h7:w.cell? ⟨d.xb,7,none⟩=some (.bool res)): Calls prog 249 #[ZH d.xb,.agg #[.int .i64 (r.er:Int),.bool r.granted,.int .i64 r.left,.int .i64 r.wait,.int .i64 r.ser,.int .i64 r.now]] w (ZAi X d (YP res r) w):=by
 have bU:=Jt;obtain⟨W,hW⟩:=ZX3 ((w.alloc (.cells #[.int .i64 (r.er:Int),.bool r.granted,.int .i64 r.left,.int .i64 r.wait,.int .i64 r.ser,.int .i64 r.now] 39)).alloc ZYE);have xW:ZM w W:=by rw[<-hW];exact(((ZM.refl w).alloc _).alloc _)
 have r0:Zh W (XG X (w.heap.size+1)) (ZH w.heap.size) (ZGg r):=by rw[<-hW];exact(Zh.new (X:=XG X (w.heap.size+1)) rfl (λe=>e.elim (hX.not (Zf6 _)) ZB)).past _
 have K1:=ZA (show W.heap[w.heap.size+1]?=some ZYE by rw[<-hW];exact Zi _ _ ZXz);have c0:=r0.ZX6 0 (.int .i64 (r.er:Int));have c1:=r0.ZX6 1 (.bool r.granted);have c2:=r0.ZX6 2 (.int .i64 r.left);have c3:=r0.ZX6 3 (.int .i64 r.wait);have c4:=r0.ZX6 4 (.int .i64 r.ser);have c5:=r0.ZX6 5 (.int .i64 r.now);have d7:=ZF xW h7;have pZ:YE W (XG X (w.heap.size+1)):=hX.xg xW (ZX K1.o);have XW:=ZA xW;cases res with
 |false=>
  have EN:=ZA (ZCT W (XG X (w.heap.size+1)) d r);clear r0 xW;go_enter func249,ntmps249;go_wp2_with fail
  (try rw[hW])
  clear hW;refine EN.o.mono ?_;rintro e w1 ⟨nv,done,r',rfl,ho,hx⟩;have HO:=ZA ho;have HX:=ZA hx;have K2:=ZA (ZK K1.o hx);obtain⟨s0,z0,s1,z1,s2,z2,s3,z3,s4,z4,s5,z5,s6,z6⟩:=ZYD K2.o;clear ho hx;go_wp2_with fail;refine Zgd (ZP (p:=5) (u:=4) rfl _ _ (w.heap.size+1) _ #[.bool done,.int .i64 (r'.er:Int),.bool r'.granted,.int .i64 r'.left,.int .i64 r'.wait,.int .i64 r'.ser,.int .i64 r'.now] (0,0) _ rfl (Yv K2.o _ _ _ _ _ _ _) underlying41 ZX0 ZC) rfl ?_;exact Yz HO.o (XW.o.trans HX.o) ZB _ _ _ _ _ _ _
 |true=>
  have BK:=ZA (ZPQ W (XG X (w.heap.size+1)) d 1 JG 281 #[ZH w.heap.size] (.leave r) pZ ZB ZB rfl (λw' q x hq=>⟨q,_,_,rfl,rfl,hq,rfl,r0.ext x⟩));clear r0 xW;go_enter func249,ntmps249;go_wp2_with fail
  (try rw[hW])
  clear hW;refine BK.o.mono ?_;rintro e w1 ⟨v,rfl,hk,hx⟩;have ON:=ZA (ZAI hk);have X1:=ZA (XW.o.trans hx);have K2:=ZA (ZK K1.o hx);clear hk hx;go_wp2_with fail;refine ON.o.mono ?_;rintro e w2 ⟨nv,done,r',rfl,ho,hx⟩;have HO:=ZA ho;have HX:=ZA hx;have K3:=ZA (ZK K2.o hx);obtain⟨s0,z0,s1,z1,s2,z2,s3,z3,s4,z4,s5,z5,s6,z6⟩:=ZYD K3.o;clear ho hx;go_wp2_with fail;refine Zgd (ZP (p:=5) (u:=4) rfl _ _ (w.heap.size+1) _ #[.bool done,.int .i64 (r'.er:Int),.bool r'.granted,.int .i64 r'.left,.int .i64 r'.wait,.int .i64 r'.ser,.int .i64 r'.now] (0,0) _ rfl (Yv K3.o _ _ _ _ _ _ _) underlying41 ZX0 ZC) rfl ?_;exact Yz HO.o (X1.o.trans HX.o) ZB _ _ _ _ _ _ _
theorem ZPO (w:World)(X:Zhf)(d:Jv)(word by_ stop:Nat)(wi bi si:Int)(sv tv:Value)(t:ZBs)(h1:wi=(word:Int))(h2:bi=(by_:Int))(h3:si=(stop:Int))(hX:YE w X)(h:Xi w X d sv tv t): Calls prog 244 #[ZH d.xb,.int .i64 wi,.int .u64 bi,.int .u64 si,sv,tv] w (ClR (λw' v=>Zk w' X d v (.mv word by_ stop t)) w):=by
 subst h1 h2 h3;exact ZKb w X d word by_ stop sv tv t hX h
theorem ZZC {p:Prop}(h:p:=by
 unfold Ji;first|(obtain -:=T1;rw[Zgl (.inr rfl)])|rw[Zgl (.inl Hth.o)]
 clear r6 PA xW;go_enter func195,ntmps195;go_upto_region 2 with fail;(try rw[hW]);clear hW;go_wp2_with fail;go_ret;exact⟨_,rfl,BQ.o,XW.o⟩):p:=h
theorem ZOR (w:World)(X:Zhf)(d:Jv)(f:Yb)(n c:Nat)(A:Option Addr)(rs:List Z7)(ce:ZL)(rc:Z7)(r:Zt)(res:Bool)(gx room:Nat)(hX:YE w X)(hn:f.cells.length=n)(hf:Zw w X A f.cells rs)(hc:Yi w X rc ce)(h4:w.cell? ⟨d.xb,4,none⟩=some (ZH gx))(h7:w.cell? ⟨d.xb,7,none⟩=some (.bool res))(hr:w.cell? ⟨gx,1,none⟩=some (.int .u64 room)): Calls prog 195 #[ZH d.xb,.agg #[.int .i64 (f.word:Int),.int .u64 (f.v:Int),.slice A n c],.int .i64 (f.at_:Int),.bool f.there,.agg #[.int .i64 (ce.pol:Int),.slice rc.K ce.key.length rc.kc,.int .i64 ce.tat,.slice rc.H ce.held.length rc.hc],.agg #[.int .i64 (r.er:Int),.bool r.granted,.int .i64 r.left,.int .i64 r.wait,.int .i64 r.ser,.int .i64 r.now]] w (ClR (λw' v=>Zk w' X d v (Ji room res f ce r)) w):=by
 have bU:=Jt;obtain⟨there,Hth⟩:=ZX2 (f.there);subst hn;rw[Hth.o];have HF:=ZA hf;have HC:=ZA hc;clear hf hc;obtain⟨W,hW⟩:=ZX3 ((((((((w.alloc (.cells #[ZH d.xb] 203)).alloc (.cells #[.int .i64 (f.word:Int),.int .u64 (f.v:Int),.slice A f.cells.length c] 319)).alloc (.cells #[.int .i64 (f.at_:Int)] 3)).alloc (.cells #[.bool there] 4)).alloc (.cells #[.int .i64 (ce.pol:Int),.slice rc.K ce.key.length rc.kc,.int .i64 ce.tat,.slice rc.H ce.held.length rc.hc] 62)).alloc (.cells #[.int .i64 (r.er:Int),.bool r.granted,.int .i64 r.left,.int .i64 r.wait,.int .i64 r.ser,.int .i64 r.now] 39)).alloc (.cells #[YD 255 #[ZH w.heap.size,ZH (w.heap.size+1),ZH (w.heap.size+1+1),ZH (w.heap.size+1+1+1),ZH (w.heap.size+1+1+1+1),ZH (w.heap.size+1+1+1+1+1)]] 138)));have xW:ZM w W:=by rw[<-hW];exact((((((((ZM.refl w).alloc _).alloc _).alloc _).alloc _).alloc _).alloc _).alloc _)
 have PA:ZDN W X d (YD 255 #[ZH w.heap.size,ZH (w.heap.size+1),ZH (w.heap.size+1+1),ZH (w.heap.size+1+1+1),ZH (w.heap.size+1+1+1+1),ZH (w.heap.size+1+1+1+1+1)]) f ce r:=by
  rw[<-hW];refine⟨_,_,_,_,_,_,rfl,(((((((Zh.new rfl (hX.not ZB)).past _).past _).past _).past _).past _).past _),⟨A,c,rs,((((((Zh.new ZXz (hX.not ZB)).past _).past _).past _).past _).past _),HF.o.ext ((((((((ZM.refl w).alloc _).alloc _).alloc _).alloc _).alloc _).alloc _).alloc _)⟩,(((((Zh.new ZXz (hX.not ZB)).past _).past _).past _).past _),?_,⟨rc,(((Zh.new ZXz (hX.not ZB)).past _).past _),HC.o.ext ((((((((ZM.refl w).alloc _).alloc _).alloc _).alloc _).alloc _).alloc _).alloc _)⟩,((Zh.new ZXz (hX.not ZB)).past _)⟩;rw[Hth.o];exact((((Zh.new ZXz (hX.not ZB)).past _).past _).past _)
 have r6:Zh W X (ZH (w.heap.size+1+1+1+1+1+1)) #[YD 255 #[ZH w.heap.size,ZH (w.heap.size+1),ZH (w.heap.size+1+1),ZH (w.heap.size+1+1+1),ZH (w.heap.size+1+1+1+1),ZH (w.heap.size+1+1+1+1+1)]]:=by rw[<-hW];exact(Zh.new ZXz (hX.not ZB))
 have e0:W.cell? ⟨w.heap.size,0,none⟩=some (ZH d.xb):=by rw[<-hW];exact((((((((Zh.new rfl (hX.not ZB)).past _).past _).past _).past _).past _).past _)).cell 0
 have e3:W.cell? ⟨w.heap.size+1+1+1,0,none⟩=some (.bool there):=by rw[<-hW];exact(((((Zh.new ZXz (hX.not ZB)).past _).past _).past _)).cell 0
 have e6:=r6.ZX6 0 (YD 255 #[ZH w.heap.size,ZH (w.heap.size+1),ZH (w.heap.size+1+1),ZH (w.heap.size+1+1+1),ZH (w.heap.size+1+1+1+1),ZH (w.heap.size+1+1+1+1+1)]);have d4:=ZF xW h4;have d7:=ZF xW h7;have dr:=ZF xW hr;have XW:=ZA xW;have BQ:=ZA PA;cases there with
 |true=>
  exact ZZC
 |false=>
  cases res with
  |true=>
   obtain⟨T1,_⟩:=QA;exact ZZC
  |false=>
   unfold Ji;rw[Zgk (by rw[Hth.o];simp)];have MV:=ZA (ZPO W.drew X d 32 1 room 32 1 (room:Int) (YD 257 #[]) (YD 258 #[ZH w.heap.size,ZH (w.heap.size+1+1+1+1+1+1)]) (.count f ce r) rfl rfl rfl (hX.ext (xW.trans (ZM.refl W).drew)) ⟨_,_,_,rfl,rfl,by rw[<-hW];exact((((((((Zh.new rfl (hX.not ZB)).past _).past _).past _).past _).past _).past _)).drew,Zh.drew r6,PA.ext (ZM.refl W).drew⟩);clear r6 PA xW;go_enter func195,ntmps195;go_upto_region 2 with fail;(try rw[hW]);clear hW;go_upto_region 5 with fail;go_region_held3 (λw'=>w'.cell? ⟨w.heap.size,0,none⟩=some (ZH d.xb)/\w'.cell? ⟨d.xb,4,none⟩=some (ZH gx)/\w'.cell? ⟨gx,1,none⟩=some (.int .u64 room)) (((try go_split_ands);refine⟨?_,?_,?_⟩<;>first|assumption|with_reducible first|exact ZJ e0|exact cy|exact ZJ cy|exact ZI cy _|exact ZJ (ZI e0 _)|exact ZJ d4|exact vS|exact ZJ vS|exact ZI vS _|exact ZJ (ZI d4 _)|exact ZJ dr|exact vR|exact ZJ vR|exact ZI vR _|exact ZJ (ZI dr _))) ((go_at_call 244;(with_reducible refine MV.o.mono ?_);rintro e w2 ⟨v,rfl,hk,hx⟩;have HK:=ZA hk;have HX:=ZA hx;have cy:=ZF ((ZM.refl W).drew.trans hx) e0;have vS:=ZF ((ZM.refl W).drew.trans hx) d4;have vR:=ZF ((ZM.refl W).drew.trans hx) dr;clear hk hx));all_goals
    go_wp2_with fail;go_ret;exact⟨_,rfl,HK.o,XW.o.trans ((ZM.refl W).drew.trans HX.o)⟩
theorem ZFq:∀P:List YK,(ZAB P).length=P.length*4
 |[]=>rfl
 |p::P=>by
  have:=ZFq P;unfold ZAB at this ⊢;rw[Zex,ZfE,this,ZfF,Zfz,ZgN,Zfw];rfl
theorem ZB3:∀(P:List YK) (i j:Nat) (p:YK),P[i]?=some p->j<4->(ZAB P)[i*4+j]?=(ZC5 p)[j]?
 |[],_,_,_,h,_=>by simp at h
 |p0::P,0,j,p,h,hj=>by
  simp at h;subst h;unfold ZAB;rw[Zex,ZgS,ZgQ,Ze0 (show j<4 from hj)];exact Array.getElem?_toList
 |p0::P,i+1,j,p,h,hj=>by
  have:=ZB3 P i j p (by simpa using h) hj;unfold ZAB at this ⊢;rw[Zex,Ze1 (by show 4<=_;omega),<-this]
  congr 1
  show(i+1)*4+j - 4=_;omega
theorem ZBO {P:List YK}(h:i<P.length):P[i]?=some (Zf P i):=ZB6 h
theorem ZBi.pol(h:ZBi w X g)(hi:i<g.P.length): ∃b off,g.PA=some ⟨b,off,none⟩/\w.cell? ⟨b,off+i*4,none⟩=some (.int .u8 ((Zf g.P i).kind:Int))/\w.cell? ⟨b,off+i*4+1,none⟩=some (.int .i64 (Zf g.P i).T)/\w.cell? ⟨b,off+i*4+2,none⟩=some (.int .i64 (Zf g.P i).Tau)/\w.cell? ⟨b,off+i*4+3,none⟩=some (.int .i64 (Zf g.P i).perm):=by
 have e:=λj (hj:j<4)=>ZB3 g.P i j _ (ZBO hi) hj;obtain⟨b,off,hA,hc⟩:=h.prd (λe0=>by have:=e 0 ZB;rw[e0]at this;simp[ZC5]at this);refine⟨b,off,hA,?_,?_,?_,?_⟩
 ·exact hc _ _ (e 0 ZB)
 ·rw[Zfv];exact hc _ _ (e 1 ZB)
 ·rw[Zfv];exact hc _ _ (e 2 ZB)
 ·rw[Zfv];exact hc _ _ (e 3 ZB)
theorem XAt.cells{gx xb:Nat}(h:XAt w X gx who x res ser xb): ∃K kc,w.cell? ⟨xb,0,none⟩=some (.int .u8 (x.op:Int))/\w.cell? ⟨xb,1,none⟩=some (.int .i64 (x.pol:Int))/\w.cell? ⟨xb,2,none⟩=some (.slice K x.key.length kc)/\w.cell? ⟨xb,3,none⟩=some (.int .i64 x.n)/\w.cell? ⟨xb,4,none⟩=some (ZH gx)/\w.cell? ⟨xb,5,none⟩=some (.int .i64 who)/\w.cell? ⟨xb,6,none⟩=some (.int .u64 (Xw x.id:Int))/\w.cell? ⟨xb,7,none⟩=some (.bool res)/\w.cell? ⟨xb,8,none⟩=some (.int .i64 ser)/\ x.key.length<=kc/\Rd w K (ZT .u8 x.key)/\Fz w X K:=by
 obtain⟨t,K,kc,h1,h2,h3,h4⟩:=h;exact⟨K,kc,ZE h1 0,ZE h1 1,ZE h1 2,ZE h1 3,ZE h1 4,ZE h1 5,ZE h1 6,ZE h1 7,ZE h1 8,h2,h3,h4⟩
theorem ZMf (w X)(g:Zz)(who xb)(x:ZW)(res ser)(hX:YE w X)(hx:XAt w X g.gx who x res ser xb)(hg:ZBi w X g)(hp:x.pol<g.P.length)(jt:g.P.length<=32): Calls prog 135 #[ZH xb] w (ClR (λw' v=>Zk w' X (Zo g who xb x) v (.find (Xw x.id) .begin)) w):=by
 have bU:=Jt;obtain⟨b,off,Bg,p0,p1,p2,p3⟩:=hg.pol hp;obtain⟨K,kc,x0,x1,x2,x3,x4,x5,x6,x7,x8,-,-,-⟩:=hx.cells;obtain⟨W,hW,xW,-⟩:=Za w (.cells #[ZH xb] 203);have r0:Zh W X (ZH w.heap.size) #[ZH xb]:=by rw[<-hW];exact(Zh.new rfl (hX.not ZB))
 have e0:=r0.ZX6 0 (ZH xb);have y4:=ZF xW x4;have y1:=ZF xW x1;have c0:=ZF xW hg.c0;rw[Bg]at c0;have q0:=ZF xW p0;have q1:=ZF xW p1;have q2:=ZF xW p2;have q3:=ZF xW p3;obtain⟨W2,cN,el,-⟩:=Za W (.cells #[.int .u8 ((Zf g.P x.pol).kind:Int),.int .i64 (Zf g.P x.pol).T,.int .i64 (Zf g.P x.pol).Tau,.int .i64 (Zf g.P x.pol).perm] 80);have aG:W.heap.size=w.heap.size+1:=by rw[<-hW];simp
 have r1:Zh W2 X (ZH W.heap.size) (ZC5 (Zf g.P x.pol)):=by rw[<-cN];exact Zh.new rfl (hX.not ZB)
 have oS:=r0.ext el;have FD:=ZA (λu (y:ZM W2 u)=>ZFw u X (Zo g who xb x) (Xw x.id) (YD 190 #[ZH w.heap.size,ZH W.heap.size]) .begin (hX.ext ((xW.trans el).trans y)) ⟨_,_,rfl,oS.ext y,r1.ext y⟩);have f0:=ZF el e0;have f4:=ZF el y4;have f5:=ZF (xW.trans el) x5;have f6:=ZF (xW.trans el) x6;have f2:=ZF (xW.trans el) hg.c2;have XW:=ZA (xW.trans el);have yO:=ZA aG;clear hx hg x0 x2 x3 x5 x6 x7 x8 p0 p1 p2 p3 r0 oS r1 xW el Bg x4 x1 hX aG;have FG:=ZI e0 (.cells #[.int .u8 0,.int .i64 0,.int .i64 0,.int .i64 0] 80);have Cq:=ZI y4 (.cells #[.int .u8 0,.int .i64 0,.int .i64 0,.int .i64 0] 80);have Cr:=ZI y1 (.cells #[.int .u8 0,.int .i64 0,.int .i64 0,.int .i64 0] 80);have FJ:=ZI c0 (.cells #[.int .u8 0,.int .i64 0,.int .i64 0,.int .i64 0] 80);have Db:=ZI q0 (.cells #[.int .u8 0,.int .i64 0,.int .i64 0,.int .i64 0] 80);have Da:=ZI q1 (.cells #[.int .u8 0,.int .i64 0,.int .i64 0,.int .i64 0] 80);have C9:=ZI q2 (.cells #[.int .u8 0,.int .i64 0,.int .i64 0,.int .i64 0] 80);have C8:=ZI q3 (.cells #[.int .u8 0,.int .i64 0,.int .i64 0,.int .i64 0] 80);go_enter func135,ntmps135;go_upto_region 1 with fail
 (try rw[hW])
 clear hW;go_region
 (try rw[cN])
 clear cN FG Cq Cr FJ Db Da C9 C8 e0 y4 y1 c0 q0 q1 q2 q3;go_upto_region 2 with fail
 go_region_held3 (λw'=>w'.cell? ⟨w.heap.size,0,none⟩=some (ZH xb)/\w'.cell? ⟨xb,4,none⟩=some (ZH g.gx)/\w'.cell? ⟨g.gx,2,none⟩=some (ZH g.gl)/\w'.cell? ⟨xb,5,none⟩=some (.int .i64 who)/\w'.cell? ⟨xb,6,none⟩=some (.int .u64 (Xw x.id:Int))) (((try go_split_ands);refine⟨?_,?_,?_,?_,?_⟩<;>first|assumption|with_reducible first|exact ZJ f0|exact fQ|exact ZJ fQ|exact ZI fQ _|exact ZJ (ZI f0 _)|exact ZJ f4|exact mT|exact ZJ mT|exact ZI mT _|exact ZJ (ZI f4 _)|exact ZJ f2|exact jn|exact ZJ jn|exact ZI jn _|exact ZJ (ZI f2 _)|exact ZJ f5|exact oO|exact ZJ oO|exact ZI oO _|exact ZJ (ZI f5 _)|exact ZJ f6|exact uq|exact ZJ uq|exact ZI uq _|exact ZJ (ZI f6 _))) ((go_at_call 179;(with_reducible refine(FD.o _ ((ZM.refl W2).drew.drew)).mono ?_);rintro e w2 ⟨v,rfl,hk,hx⟩;have HK:=ZA hk;have HX:=ZA hx;have bd:=(ZM.refl W2).drew.drew.trans hx;have fQ:=ZF bd f0;have mT:=ZF bd f4;have jn:=ZF bd f2;have oO:=ZF bd f5;have uq:=ZF bd f6;clear hk hx bd))
 all_goals
  go_wp2_with fail;go_ret;exact⟨_,rfl,HK.o,XW.o.trans ((ZM.refl W2).drew.drew.trans HX.o)⟩
def YS (w:World)(g:Zz)(O C:Zhf)(xb:Nat->Nat)(L:List Zg)(s:Z9)(C':Zhf)(w':World):Prop:=YQ w' g O C' xb L s/\GB w w' C/\∀i,C' i->C i\/w.heap.size<=i
theorem YS.kp(h:YS w g O C xb L s C' w'):Kp w w' (XO C O) (XO C' O):=Kp.of h.2.1 (λi _ e=>.inl e) (λi hi e=>e.imp (λe=>(h.2.2 i e).resolve_right ZB) id)
theorem ZBo.mov(h:ZBo w g O C xb L s w'):∃C',YS w g O C xb L s C' w':=h
theorem YS.go(h:YS w g O C xb L s C' w'):ZBo w g O C xb L s w':=⟨C',h⟩
theorem YS.ext(h:YS w g O C xb L s C' w1)(x:ZM w1 w2):YS w g O C xb L s C' w2:=⟨h.1.ext x,h.2.1.ext x,h.2.2⟩
theorem YS.back{w0:World}(x:ZM w0 w)(h:YS w g O C xb L s C' w1):YS w0 g O C xb L s C' w1:=⟨h.1,GB.back x h.2.1,λi hi=>(h.2.2 i hi).imp id (Zf8 x.size)⟩
def ZV9 (w:World)(g:Zz)(O C:Zhf)(xb:Nat->Nat)(L:List Zg)(s:Z9)(u n:Nat)(h:List ZL)(e:Ending)(w':World):Prop:=∃A c rs C',e=.returned (.tuple #[.int .u64 u,.slice A n c])/\Zw w' (XO C' O) A h rs/\YS w g O C xb L s C' w'
theorem ZYT {p:Prop}(h:p:=by
 first|(obtain -:=V1;obtain⟨Fm,hm,dm,b0,b1,hh,-,ky,nFh,nW,-,-⟩:=h.swap;obtain⟨A,c,rs,g0,hE⟩:=hh i hi)|(obtain⟨Fm,hm,dm,b0,b1,hh,⟨t,cs,hb⟩,ky,nFh,-,Br,-⟩:=h.swap;obtain⟨A0,c0,Kw,g0,-⟩:=hh i hi)
 have hx:s.ws[i]?=some u:=by rw[<-hu];exact ZB6 (by rw[dm];exact hi)
 first|(obtain -:=V2;have LD:=ZA (ZU2 w Fm g.gm s.ws (s.clk:Int) L who i u hm hL ZB ZB hx);have HE:=ZA hE;have G1:=ZA nW;rw[hn]at g0;clear h hm hE nW hh hx dm hu hn)|(subst wW hn;have LD:=ZA (ZLG w Fm g.gm s.ws (s.clk:Int) L who i u new hm hL ZB ZB hx);have G2:=ZA (λw1 hg=>Br (L++[⟨who,2,i,u,new,true⟩]) w1 i new A c l rs hi hg hc);clear h hm Br hh hx dm hu hc)
 have dF:(i:Int)<34:=by omega
 first|(obtain -:=V3;go_enter func174,ntmps174)|(obtain⟨n,Hn⟩:=ZX2 (l.length);rw[Hn.o];go_enter func80,ntmps80)
 go_wp2_with fail;refine LD.o.mono ?_;rintro e w1 ⟨rfl,hg⟩;first|(obtain -:=V4;have HG:=ZA hg)|have HG:=ZA (G2.o w1 hg)
 obtain⟨_,_,k,_⟩:=hg;have c0:=k.cell b0 ky;have c1:=k.cell b1 ky;have d0:=k.cell g0 nFh;first|(obtain -:=V5;clear b0 b1 g0 k)|(have fz:=ZG (k.blk hb nFh) i;clear b0 b1 g0 k hb)
 go_wp2_with fail;first|(obtain -:=V6;go_region;go_wp2_with fail;go_ret2;obtain⟨C',hmv⟩:=(G1.o _ _ HG.o).mov;have sJ:=hmv.ext (ZM.refl w1).drew;exact⟨A,c,rs,C',ZAn rfl rfl,HE.o.kp sJ.kp,sJ⟩)|(go_ret;refine⟨rfl,?_⟩;have:=HG.o;rw[Hn.o]at this;exact this)):p:=h
theorem ZFx (w:World)(g:Zz)(O C:Zhf)(xb:Nat->Nat)(L:List Zg)(s:Z9)(who i u n:Nat)(h:YQ w g O C xb L s)(hL:L.length<=1000000)(hw:who<64)(hi:i<34)(hu:s.ws.getD i 0=u)(hn:(s.hs.getD i []).length=n): Calls prog 174 #[ZH g.gb,.int .i64 who,.int .i64 i] w (ZV9 w g O C xb (L++[⟨who,1,i,u,0,true⟩]) s u n (s.hs.getD i [])):=by
 obtain⟨V1,V2,V3,V4,V5,V6⟩:=QA;exact ZYT
theorem ZBG (w:World)(g:Zz)(O C:Zhf)(xb:Nat->Nat)(L:List Zg)(s:Z9)(who i u n:Nat)(ii:Int)(h:YQ w g O C xb L s)(hL:L.length<=1000000)(hw:who<64)(hi:i<34)(hu:s.ws.getD i 0=u)(hn:(s.hs.getD i []).length=n)(jz:ii=(i:Int)): Calls prog 174 #[ZH g.gb,.int .i64 who,.int .i64 ii] w (ZV9 w g O C xb (L++[⟨who,1,i,u,0,true⟩]) s u n (s.hs.getD i [])):=by
 subst jz;exact ZFx w g O C xb L s who i u n h hL hw hi hu hn
theorem ZAT (w:World)(g:Zz)(O C:Zhf)(xb:Nat->Nat)(L:List Zg)(s:Z9)(who i u new n c:Nat)(ni:Int)(A:Option Addr)(l:List ZL)(rs:List Z7)(h:YQ w g O C xb L s)(hL:L.length<=1000000)(hw:who<64)(hi:i<34)(hu:s.ws.getD i 0=u)(wW:ni=(new:Int))(hn:l.length=n)(hc:Zw w (XO C O) A l rs): Calls prog 80 #[ZH g.gb,.int .i64 who,.int .i64 i,.int .u64 u,.int .u64 ni,.slice A n c] w λe w'=>e=.returned (.bool true)/\ZBo w g O C xb (L++[⟨who,2,i,u,new,true⟩]) {s with ws:=s.ws.set i new,hs:=s.hs.set i l} w':=ZYT
theorem ZAp (w:World)(g:Zz)(O C:Zhf)(xb:Nat->Nat)(L:List Zg)(s:Z9)(who i u old new n c:Nat)(ni:Int)(A:Option Addr)(h:YQ w g O C xb L s)(hL:L.length<=1000000)(hw:who<64)(hi:i<34)(hu:s.ws.getD i 0=u)(ag:u≠old)(wW:ni=(new:Int)): Calls prog 80 #[ZH g.gb,.int .i64 who,.int .i64 i,.int .u64 old,.int .u64 ni,.slice A n c] w λe w'=>e=.returned (.bool false)/\ZBo w g O C xb (L++[⟨who,2,i,old,new,false⟩]) s w':=by
 obtain⟨Fm,hm,dm,b0,b1,-,-,ky,nFh,nW,-,-⟩:=h.swap;have hx:s.ws[i]?=some u:=by rw[<-hu];exact ZB6 (by rw[dm];exact hi)
 subst wW;have LD:=ZA (ZPn w Fm g.gm s.ws (s.clk:Int) L who i u old new hm hL ZB ZB hx ag);have G1:=ZA (λw1 hg=>nW (L++[⟨who,2,i,old,new,false⟩]) w1 hg);clear h hm nW hx dm hu ag;go_enter func80,ntmps80;go_wp2_with fail;refine LD.o.mono ?_;rintro e w1 ⟨rfl,hg⟩;have HG:=ZA (G1.o w1 hg);clear hg;go_wp2_with fail;go_ret;exact⟨rfl,HG.o⟩
theorem YQ.call(h:YQ w g O C xb L s)(hw:who<64)(hc:s.call who=.run x res ser k): w.cell? ⟨xb who,4,none⟩=some (ZH g.gx)/\w.cell? ⟨xb who,5,none⟩=some (.int .i64 who)/\w.cell? ⟨xb who,7,none⟩=some (.bool res)/\w.cell? ⟨xb who,8,none⟩=some (.int .i64 ser)/\w.cell? ⟨xb who,3,none⟩=some (.int .i64 x.n)/\w.cell? ⟨xb who,0,none⟩=some (.int .u8 (x.op:Int)):=by
 obtain⟨K,kc,x0,x1,x2,x3,x4,x5,x6,x7,x8,-,-,-⟩:=(h.xat hw hc).1.cells;exact⟨x4,x5,x7,x8,x3,x0⟩
theorem Qm {p:Prop}(h:p:=by
 obtain⟨y4,y5,-,-,-,-⟩:=h.call hw hc;have c2:=h.rd.c2;have l0:=h.rd.l0;first|(obtain -:=V1;have LD:=ZA (ZFx w.drew g O C xb L s who i u _ (h.ext (ZM.refl w).drew) hL hw hi hu rfl);have Hc:=ZA hc;obtain⟨n,Hn⟩:=ZX2 ((s.hs.getD i []).length);rw[Hn.o]at LD)|(obtain -:=V2;have b0:=h.rd.b0;obtain⟨Fm,hm,dm,-,-,hh,-,ky,nFh,nW,-,-⟩:=(h.ext (ZM.refl w).drew).swap;have CK:=ZA (ZTj w.drew Fm g.gm s.ws s.clk L (who:Int) hm hL ZB ZB ZB);have G1:=ZA nW;have Hc:=ZA hc)|(have LD:=ZA (SW w.drew (ZM.refl w).drew);have Hc:=ZA jB)
 obtain⟨xw,Hx⟩:=ZX2 (xb who);rw[Hx.o]at y4 y5 ⊢;first|(obtain -:=V3;clear h hc hu;go_enter func132,ntmps132)|(obtain -:=V4;clear h hc hm nW hh dm ky nFh hk;go_enter func182,ntmps182)|(clear h hc jB SW;go_enter func279,ntmps279)
 go_upto_region 1 with fail;first|(obtain -:=V5;go_cut [5] (λv5 wd=>v5=.int .u64 u/\ZBo w g O C xb (L++[⟨who,1,i,u,0,true⟩]) s wd))|(obtain -:=V6;go_cut [3] (λv3 wd=>v3=.int .i64 (s.clk:Int)/\ZBo w g O C xb (L++[⟨who,3,0,s.clk,0,true⟩]) s wd))|go_cut [8] (λv8 wd=>v8=.bool done/\ZBo w g O C xb L' s' wd)
 case first=>
  first|(obtain -:=V7;go_region_held3 (λw'=>w'.cell? ⟨xw,4,none⟩=some (ZH g.gx)/\w'.cell? ⟨xw,5,none⟩=some (.int .i64 who)/\w'.cell? ⟨g.gx,2,none⟩=some (ZH g.gl)/\w'.cell? ⟨g.gl,0,none⟩=some (ZH g.gb)) (((try go_split_ands);exact⟨ZX7,ZX7,ZX7,ZX7⟩)) ((go_at_call 174;(with_reducible refine LD.o.mono ?_);rintro e w2 ⟨A,c,rs,C',rfl,-,hm⟩;have HM:=ZA (hm.back (ZM.refl w).drew).go;obtain⟨eN,ty5',-,-,-,-⟩:=hm.1.call hw Hc.o;rw[Hx.o]at eN ty5';have rH:=eN;have rG:=ty5';have oR:=hm.1.rd.c2;have rI:=hm.1.rd.l0;clear hm eN ty5')))|(obtain -:=V8;go_region_held3 (λw'=>w'.cell? ⟨xw,4,none⟩=some (ZH g.gx)/\w'.cell? ⟨xw,5,none⟩=some (.int .i64 who)/\w'.cell? ⟨g.gx,2,none⟩=some (ZH g.gl)/\w'.cell? ⟨g.gl,0,none⟩=some (ZH g.gb)/\w'.cell? ⟨g.gb,0,none⟩=some (ZH g.gm)) (((try go_split_ands);exact⟨ZX7,ZX7,ZX7,ZX7,ZX7⟩)) ((go_at_call 242;(with_reducible refine CK.o.mono ?_);rintro e w2 ⟨rfl,hg⟩;obtain⟨C',hm⟩:=(G1.o _ _ hg).mov;have HM:=ZA (hm.back (ZM.refl w).drew).go;obtain⟨eN,ty5',-,-,-,-⟩:=hm.1.call hw Hc.o;rw[Hx.o]at eN ty5';have rH:=eN;have rG:=ty5';have oR:=hm.1.rd.c2;have rI:=hm.1.rd.l0;have iz:=hm.1.rd.b0;clear hm hg eN ty5')))|go_region_held3 (λw'=>w'.cell? ⟨xw,4,none⟩=some (ZH g.gx)/\w'.cell? ⟨xw,5,none⟩=some (.int .i64 who)/\w'.cell? ⟨g.gx,2,none⟩=some (ZH g.gl)/\w'.cell? ⟨g.gl,0,none⟩=some (ZH g.gb)) (((try go_split_ands);exact⟨ZX7,ZX7,ZX7,ZX7⟩)) ((go_at_call 80;(with_reducible refine LD.o.mono ?_);rintro e w2 ⟨rfl,hg⟩;have HM:=ZA (hg.back (ZM.refl w).drew);obtain⟨C',hm⟩:=hg.mov;obtain⟨eN,ty5',-,-,-,-⟩:=hm.1.call hw Hc.o;rw[Hx.o]at eN ty5';have rH:=eN;have rG:=ty5';have oR:=hm.1.rd.c2;have rI:=hm.1.rd.l0;clear hm eN ty5' hg))
  all_goals
   go_wp2_with fail
   go_meet
   exact⟨rfl,HM.o⟩
 case rest=>
  obtain⟨rfl,hg⟩:=hcut;have HG:=ZA hg;clear hg;go_wp2_with fail;go_ret;exact⟨rfl,HG.o⟩):p:=h
theorem ZFc (w g O C xb)(L:List Zg)(s:Z9)(who i u x res ser k)(h:YQ w g O C xb L s)(hc:s.call who=.run x res ser k)(hL:L.length<=1000000)(hw:who<64)(hi:i<34)(hu:s.ws.getD i 0=u): Calls prog 132 #[ZH (xb who),.int .i64 i] w λe w'=>e=.returned (.int .u64 u)/\ZBo w g O C xb (L++[⟨who,1,i,u,0,true⟩]) s w':=by
 obtain⟨V1,V3,V5,V7⟩:=QA;exact Qm
theorem ZDu (w:World)(g:Zz)(O C:Zhf)(xb:Nat->Nat)(L L':List Zg)(s s':Z9)(who i old:Nat)(ni:Int)(x:ZW)(res:Bool)(ser:Int)(k:YX)(done:Bool)(h:YQ w g O C xb L s)(hc:s.call who=.run x res ser k)(jB:s'.call who=.run x res ser k)(hw:who<64)(SW:∀u,ZM w u->Calls prog 80 #[ZH g.gb,.int .i64 who,.int .i64 i,.int .u64 old,.int .u64 ni,.slice none 0 0] u λe w'=>e=.returned (.bool done)/\ZBo u g O C xb L' s' w'): Calls prog 279 #[ZH (xb who),.int .i64 i,.int .u64 old,.int .u64 ni] w λe w'=>e=.returned (.bool done)/\ZBo w g O C xb L' s' w':=Qm
def SK (w:World)(g:Zz)(O C:Zhf)(xb:Nat->Nat)(who N:Nat)(x:ZW)(s1:Z9)(out:Zs)(e:Ending)(w':World):Prop:=∃nv done r C' L',L'.length<=N/\e=.returned (.tuple #[nv,.agg #[.bool done,.int .i64 (r.er:Int),.bool r.granted,.int .i64 r.left,.int .i64 r.wait,.int .i64 r.ser,.int .i64 r.now]])/\YS w g O C xb L' s1 C' w'/\ZEW w' (XO C' O) (Zo g who (xb who) x) nv done r out
theorem Zk.xo(h:Zk w (XO C (XG O gg)) d v k)(b:GB w w' (· =gg)):Zk w' (XO C O) d v k:=h.kp (Kp.of b (λ_ _ e=>.inr (.inr e)) (λ_ _ e=>e.imp id .inl))
theorem YQ.xg(h:YQ w g O C xb L s)(x:ZM w W)(h1:w.heap.size<=gg)(h2:gg<W.heap.size):YQ W g (XG O gg) C xb L s:=h.far (GB.of_ext (λ_=>False) x) (λ_ _ e=>e.elim) (λi hi e=>e.resolve_right ZB) (λi e=>e.elim (λe=>ZgB (h.ol i e) x.size) (λe=>e ▸ h2))
theorem YQ.newer(h:YQ w g O C xb L s):YE w (XO C O):=λi hi=>hi.elim (h.lt i) (h.ol i)
theorem YS.kpg(h:YS W g (XG O gg) C xb L s C' w2)(x:ZM w W)(hg:w.heap.size<=gg):Kp w w2 (XO C O) (XO C' (XG O gg)):=(Kp.of (S:=λ_=>False) (GB.of_ext _ x) (λ_ _ e=>e.elim) (λi hi e=>e.imp id (λe=>e.resolve_right ZB)):Kp w W (XO C O) (XO C (XG O gg))).trans h.kp
theorem YS.fin{w7:World}(h:YS W g (XG O gg) C xb L s C' w2)(x:ZM w W)(hg:w.heap.size<=gg)(k:GB w2 w7 (· =gg)):YS w g O C xb L s C' w7:=by
 obtain⟨h1,h2,h3⟩:=h;exact⟨h1.far k (λi _ e=>.inr e) (λi _ e=>.inl e) (λi e=>ZgB (h1.ol i (.inl e)) k.size),(GB.back x h2).trans k (λi e=>.inr (e ▸ hg)),λi hi=>(h3 i hi).imp id (Zf8 x.size)⟩
theorem Yl(hL:L.length<=N)(xW:ZM w W)(hg:w.heap.size<=gg)(hm:YS W g (XG O gg) C xb L s1 C' w2)(ho:ZEW w2 (XO C' (XG O gg)) (Zo g who (xb who) x) nv done r out)(b0 b1 b2 b3 b4 b5 b6): SK w g O C xb who N x s1 out (.returned (.tuple #[nv,.agg #[.bool done,.int .i64 (r.er:Int),.bool r.granted,.int .i64 r.left,.int .i64 r.wait,.int .i64 r.ser,.int .i64 r.now]])) (((((((w2.setCell ⟨gg,0,none⟩ b0).setCell ⟨gg,1,none⟩ b1).setCell ⟨gg,2,none⟩ b2).setCell ⟨gg,3,none⟩ b3).setCell ⟨gg,4,none⟩ b4).setCell ⟨gg,5,none⟩ b5).setCell ⟨gg,6,none⟩ b6):=by
 have k7:=gb7 w2 gg b0 b1 b2 b3 b4 b5 b6;refine⟨nv,done,r,C',L,hL,rfl,hm.fin xW hg k7,?_⟩;cases out with
 |on k=>obtain⟨a,b,c⟩:=ho;exact⟨Zk.xo a k7,b,c⟩
 |fin r'=>obtain⟨a,b,c⟩:=ho;exact⟨a,b,c⟩
theorem Xb {w:World}{g:Nat}{o:Obj}(h:w.heap[g]?=some o):w.drew.heap[g]?=some o:=h
theorem ZJ6{e:Ending}(h:SK w g O C xb who N x s1 out e w2):SK w g O C xb who N x s1 out e w2.drew:=by
 obtain⟨nv,done,r,C',L,h1,h2,h3,h4⟩:=h;exact⟨nv,done,r,C',L,h1,h2,h3.ext (ZM.refl w2).drew,h4.ext (ZM.refl w2).drew⟩
theorem ZAo(h:Zk w X d v k):ZEW w X d v false ZAG (.on k):=⟨h,rfl,rfl⟩
def ZBE (x:ZW)(res:Bool)(ser:Int):Zs->ZAP
 |.on k=>.run x res ser k
 |.fin _=>.idle
def ZFD:Zs->Bool
 |.on _=>false
 |.fin _=>true
def Ja:Zs->Zt
 |.on _=>ZAG
 |.fin r=>r
abbrev XG2 (O:Zhf)(b:Nat):Nat->Prop:=λi=>O i\/i=b\/i=b+1
def ZVm (w:World)(g:Zz)(O C:Zhf)(xb:Nat->Nat)(N:Nat)(s2:Z9)(done:Bool)(r:Zt)(wd:World):Prop:=∃L' C',L'.length<=N/\YQ wd g (XG2 O w.heap.size) C' xb L' s2/\GB w wd C/\(∀i,C' i->C i\/w.heap.size<=i)/\wd.heap[w.heap.size+1]?=some (.cells #[.bool done,.int .i64 (r.er:Int),.bool r.granted,.int .i64 r.left,.int .i64 r.wait,.int .i64 r.ser,.int .i64 r.now] 41 (0,0))/\wd.heap[w.heap.size]?=some ZYE
def ZIP (w:World)(g:Zz)(O C:Zhf)(xb:Nat->Nat)(N:Nat)(s2:Z9)(v:Value)(e:Ending)(w':World):Prop:=∃L' C',L'.length<=N/\e=.returned v/\YS w g O C xb L' s2 C' w'
theorem YQ.xg2(h:YQ w g O C xb L s)(x:ZM w W)(h2:w.heap.size+1<W.heap.size):YQ W g (XG2 O w.heap.size) C xb L s:=h.far (GB.of_ext (λ_=>False) x) (λ_ _ e=>e.elim) (λi hi e=>e.elim id (λe=>by omega)) (λi e=>e.elim (λe=>ZgB (h.ol i e) x.size) (λe=>by omega))
theorem ZPF{L':List Zg}{k0:YX}(xW:ZM w W)(FV:w.heap.size+1<W.heap.size)(ak:∀i,C i->i<w.heap.size)(hw:who<64)(hl:L'.length<=N)(hm:YS W g (XG2 O w.heap.size) C xb L' s1 C' w3)(iS:s1.call who=.run x res ser k0)(ho:ZEW w3 (XO C' (XG2 O w.heap.size)) (Zo g who (xb who) x) nv done r out)(K1:W.heap[w.heap.size+1]?=some ZYE)(K0:W.heap[w.heap.size]?=some ZYE): ZVm w g O C xb N (s1.put who (ZBE x res ser out)) done r ((((((((w3.setCell ⟨g.gx,3+who,none⟩ nv).setCell ⟨w.heap.size+1,0,none⟩ (.bool done)).setCell ⟨w.heap.size+1,1,none⟩ (.int .i64 (r.er:Int))).setCell ⟨w.heap.size+1,2,none⟩ (.bool r.granted)).setCell ⟨w.heap.size+1,3,none⟩ (.int .i64 r.left)).setCell ⟨w.heap.size+1,4,none⟩ (.int .i64 r.wait)).setCell ⟨w.heap.size+1,5,none⟩ (.int .i64 r.ser)).setCell ⟨w.heap.size+1,6,none⟩ (.int .i64 r.now)):=by
 obtain⟨f,-,-,xE,-,iH⟩:=hm.1.pend hw;have hp:ZGa w3 (XO C' (XG2 O w.heap.size)) g who (xb who) nv (ZBE x res ser out):=by
  cases out with
  |on k=>exact⟨(hm.1.xat hw iS).1,ho.1⟩
  |fin r'=>exact ho.1
 obtain⟨C2,im⟩:=(iH nv _ hp (λ_=>by rw[iS];rfl)).mov;have pN:YS W g (XG2 O w.heap.size) C xb L' (s1.put who (ZBE x res ser out)) C2 (w3.setCell ⟨g.gx,3+who,none⟩ nv):=⟨im.1,hm.2.1.trans im.2.1 hm.2.2,λi hi=>(im.2.2 i hi).elim (hm.2.2 i) (λe=>.inr (Zf8 hm.2.1.size e))⟩;have k7:=gb7 (w3.setCell ⟨g.gx,3+who,none⟩ nv) (w.heap.size+1) (.bool done) (.int .i64 (r.er:Int)) (.bool r.granted) (.int .i64 r.left) (.int .i64 r.wait) (.int .i64 r.ser) (.int .i64 r.now);have de:¬C (w.heap.size+1):=λe=>by have:=ak _ e;omega
 have eL:¬C w.heap.size:=λe=>by have:=ak _ e;omega
 have r1:=Yv (pN.2.1.blk K1 de) (.bool done) (.int .i64 (r.er:Int)) (.bool r.granted) (.int .i64 r.left) (.int .i64 r.wait) (.int .i64 r.ser) (.int .i64 r.now);have r0:=k7.blk (pN.2.1.blk K0 eL) ZB;exact⟨L',C2,hl,pN.1.far k7 (λi _ e=>.inr (.inr e)) (λi _ e=>e) (λi e=>ZgB (pN.1.ol i e) k7.size),(GB.back xW pN.2.1).trans k7 (λi e=>.inr ZB),λi hi=>(pN.2.2 i hi).imp id (λe=>Zf8 xW.size e),r1,r0⟩
theorem ZL2{wd:World}(h:ZVm w g O C xb N s2 done r wd)(v b0 b1 b2 b3 b4 b5 b6): ZIP w g O C xb N s2 v (.returned v) (((((((wd.setCell ⟨w.heap.size,0,none⟩ b0).setCell ⟨w.heap.size,1,none⟩ b1).setCell ⟨w.heap.size,2,none⟩ b2).setCell ⟨w.heap.size,3,none⟩ b3).setCell ⟨w.heap.size,4,none⟩ b4).setCell ⟨w.heap.size,5,none⟩ b5).setCell ⟨w.heap.size,6,none⟩ b6):=by
 obtain⟨L',C',hl,h1,h2,h3,-,-⟩:=h;have k7:=gb7 wd w.heap.size b0 b1 b2 b3 b4 b5 b6;exact⟨L',C',hl,rfl,h1.far k7 (λi _ e=>.inr (.inl e)) (λi _ e=>.inl e) (λi e=>ZgB (h1.ol i (.inl e)) k7.size),h2.trans k7 (λi e=>.inr ZB),h3⟩
theorem ZYj {p:Prop}(h:p:=by
 go_enter func51,ntmps51;go_upto_region 2 with fail;(try rw[HW.o]);clear HW;first|(obtain -:=T1;go_cut [] (λwd=>ZVm w g O C xb N (s1.put who (ZBE x res' ser' (.on k9))) false ZAG wd))|go_cut [] (λwd=>ZVm w g O C xb N (s1.put who (ZBE x res' ser' (.fin r0))) true r0 wd)
 case first=>
  first|(obtain -:=T2;go_region_with ((with_reducible refine HCL.o.mono ?_);rintro e w3 ⟨nv,done,r,C',L',hl,rfl,hm,ho,rfl,rfl⟩;obtain⟨f8,c8,rfl⟩:=ho.fn;have lO:=hm.back (ZM.refl W).drew;have k1:=lO.2.1.blk K1.o n1;obtain⟨f',cg,zg,-,-,-⟩:=hm.1.pend hw;have M:=ZA (ZPF (out:=.on k9) (nv:=YD f8 c8) XW.o cN aM.o hw hl lO oo.o ⟨ho,rfl,rfl⟩ K1.o K0.o);obtain⟨c0,z0,c1,z1,c2,z2,c3,z3,c4,z4,c5,z5,c6,z6⟩:=ZYD k1;clear hl hm lO k1 ho))|go_region_with ((with_reducible refine HCL.o.mono ?_);rintro e w3 ⟨nv,done,r,C',L',hl,rfl,hm,rfl,rfl,rfl⟩;have lO:=hm.back (ZM.refl W).drew;have k1:=lO.2.1.blk K1.o n1;obtain⟨f',cg,zg,-,-,-⟩:=hm.1.pend hw;have M:=ZA (ZPF (out:=.fin r) (nv:=.nilFunc) XW.o cN aM.o hw hl lO oo.o ⟨rfl,rfl,rfl⟩ K1.o K0.o);obtain⟨c0,z0,c1,z1,c2,z2,c3,z3,c4,z4,c5,z5,c6,z6⟩:=ZYD k1;clear hl hm lO k1)
  all_goals
   go_wp2_with fail
   go_meet
   exact M.o
 case rest=>
  have HM:=ZA hcut;obtain⟨_,_,-,-,-,-,k1,k0⟩:=hcut;have aQ:=ZA k0;obtain⟨c0,z0,c1,z1,c2,z2,c3,z3,c4,z4,c5,z5,c6,z6⟩:=ZYD k1;obtain⟨e0,y0,e1,y1,e2,y2,e3,y3,e4,y4,e5,y5,e6,y6⟩:=ZYD k0;clear k1 k0 dW;go_wp2_with fail;first|(obtain -:=T3;refine Zgd (Zgq (p:=4) rfl _ _ w.heap.size _ #[.bool false,.int .i64 (ZAG.er:Int),.bool ZAG.granted,.int .i64 ZAG.left,.int .i64 ZAG.wait,.int .i64 ZAG.ser,.int .i64 ZAG.now] (0,0) _ rfl (Yv aQ.o _ _ _ _ _ _ _) underlying41 ZX0 ZC) rfl ?_)|refine Zgd (Zgq (p:=4) rfl _ _ w.heap.size _ #[.bool true,.int .i64 (r0.er:Int),.bool r0.granted,.int .i64 r0.left,.int .i64 r0.wait,.int .i64 r0.ser,.int .i64 r0.now] (0,0) _ rfl (Yv aQ.o _ _ _ _ _ _ _) underlying41 ZX0 ZC) rfl ?_
  exact ZL2 HM.o _ _ _ _ _ _ _ _):p:=h
theorem ZNu (w:World)(g:Zz)(O C xb L)(s s1:Z9)(who N x res res' ser ser' k k0 out fn)(aa:Array Value)(h:YQ w g O C xb L s)(hc:s.call who=.run x res ser k)(hw:who<64)(hv:w.cell? ⟨g.gx,3+who,none⟩=some (YD fn aa))(hen:∀u:World,(callFunc fn aa).run prog u=.ok (.enter fn aa) u)(iS:s1.call who=.run x res' ser' k0)(CL:∀u O',YQ u g O' C xb L s->Zk u (XO C O') (Zo g who (xb who) x) (YD fn aa) k->Calls prog fn aa u (SK u g O' C xb who N x s1 out)): Calls prog 51 #[.pointer (some ⟨g.gx,3,none⟩),.int .i64 who] w (ZIP w g O C xb N (s1.put who (ZBE x res' ser' out)) (.agg #[.bool (ZFD out),.int .i64 ((Ja out).er:Int),.bool (Ja out).granted,.int .i64 (Ja out).left,.int .i64 (Ja out).wait,.int .i64 (Ja out).ser,.int .i64 (Ja out).now])):=by
 obtain⟨W,hW⟩:=ZX3 (((w.alloc ZYE).alloc ZYE));have xW:ZM w W:=by rw[<-hW];exact(((ZM.refl w).alloc _).alloc _)
 have K0:=ZA (show W.heap[w.heap.size]?=some ZYE by rw[<-hW];exact ZQ (ZV w _) _);have K1:=ZA (show W.heap[w.heap.size+1]?=some ZYE by rw[<-hW];exact Zi _ _ ZXz);have cN:=ZX K1.o;have hA:=(h.xg2 xW cN).ext (ZM.refl W).drew;obtain⟨f9,hf9,-,-,wT,-⟩:=hA.pend hw;have dW:W.cell? ⟨g.gx,3+who,none⟩=some (YD fn aa):=ZF xW hv;have e9:f9=YD fn aa:=by
  have:W.cell? ⟨g.gx,3+who,none⟩=some f9:=hf9;rw[dW]at this;injection this with this;exact this.symm
 subst e9;rw[hc]at wT;have HCL:=ZA (CL W.drew _ hA wT.2);have aM:=ZA h.lt;have kS:g.gx<w.heap.size:=ZgT w _ hv;have XW:=ZA xW;have HW:=ZA hW;have rW:(who:Int)<64:=by omega
 have n0:¬C w.heap.size:=λe=>Zf9 _ (aM.o _ e);have n1:¬C (w.heap.size+1):=λe=>by have:=aM.o _ e;omega
 have oo:=ZA iS;clear h hA CL hv wT hf9 hc hW iS xW;cases out with
 |fin r0=>
  exact ZYj
 |on k9=>
  obtain⟨T1,T2,T3⟩:=QA;exact ZYj
theorem ZKR (who:Nat)(w:World)(h:who<64):Calls prog 50 #[.int .i64 who] w λe w'=>e=.returned (.bool true)/\w=w':=by
 have h1:(0:Int)<=(who:Int):=by omega
 have h2:(who:Int)<64:=by omega
 go_enter func50,ntmps50;go_wp2_with fail;go_ret;exact⟨rfl,rfl⟩
theorem ZQA{xb:Nat}(h:ZGa w X g who xb v (.run x res ser k)):∃f c,v=YD f c:=h.2.fn
theorem ZJO (w:World)(g:Zz)(O C:Zhf)(xb:Nat->Nat)(L:List Zg)(s:Z9)(who:Nat)(h:YQ w g O C xb L s)(hw:who<64): Calls prog 15 #[ZH g.gx,.int .i64 who] w λe w'=>e=.returned (.bool (ZAJ (s.call who)))/\w=w':=by
 obtain⟨f,xf,-,-,pv,-⟩:=h.pend hw;have IS:=ZA (ZKR who w hw);have ij:∀(u:World),(binOp .neq 139 .nilFunc .nilFunc).run prog u=.ok (.bool false) u:=λ_=>rfl;have Lk:∀(f:FuncId) (c:Array Value) (u:World),(binOp .neq 139 (.func (.func f) #[] c) .nilFunc).run prog u=.ok (.bool true) u:=λ_ _ _=>rfl;have rW:(who:Int)<64:=by omega
 cases hb:s.call who with
 |idle=>
  rw[hb]at pv;obtain rfl:f=.nilFunc:=pv;clear h hb;go_enter func15,ntmps15;go_wp2_with fail;refine IS.o.mono ?_;rintro e w1 ⟨rfl,rfl⟩;go_wp2_with fail;go_ret;exact⟨rfl,rfl⟩
 |run x res ser k=>
  rw[hb]at pv;obtain⟨f1,c1,rfl⟩:=ZQA pv;clear pv h hb;go_enter func15,ntmps15;go_wp2_with fail;refine IS.o.mono ?_;rintro e w1 ⟨rfl,rfl⟩;go_wp2_with fail;go_ret;exact⟨rfl,rfl⟩
theorem ZPo{r:Value}{e:Ending}(xW:ZM w W)(h:ZIP W g (XG O w.heap.size) C xb N s2 v e w3)(b0 b1 b2 b3 b4 b5 b6): ZIP w g O C xb N s2 r (.returned r) (((((((w3.setCell ⟨w.heap.size,0,none⟩ b0).setCell ⟨w.heap.size,1,none⟩ b1).setCell ⟨w.heap.size,2,none⟩ b2).setCell ⟨w.heap.size,3,none⟩ b3).setCell ⟨w.heap.size,4,none⟩ b4).setCell ⟨w.heap.size,5,none⟩ b5).setCell ⟨w.heap.size,6,none⟩ b6):=by
 obtain⟨L',C',hl,-,hm⟩:=h;have k7:=gb7 w3 w.heap.size b0 b1 b2 b3 b4 b5 b6;exact⟨L',C',hl,rfl,hm.fin xW (Zf6 _) k7⟩
theorem ZQa (w:World)(g:Zz)(O C xb L)(s s1:Z9)(who N x res res' ser ser' k k0 out fn)(aa:Array Value)(h:YQ w g O C xb L s)(hc:s.call who=.run x res ser k)(hw:who<64)(hv:w.cell? ⟨g.gx,3+who,none⟩=some (YD fn aa))(hen:∀u:World,(callFunc fn aa).run prog u=.ok (.enter fn aa) u)(iS:s1.call who=.run x res' ser' k0)(CL:∀u O',YQ u g O' C xb L s->Zk u (XO C O') (Zo g who (xb who) x) (YD fn aa) k->Calls prog fn aa u (SK u g O' C xb who N x s1 out)): Calls prog 16 #[ZH g.gx,.int .i64 who] w (ZIP w g O C xb N (s1.put who (ZBE x res' ser' out)) (.tuple #[.agg #[.bool (ZFD out),.int .i64 ((Ja out).er:Int),.bool (Ja out).granted,.int .i64 (Ja out).left,.int .i64 (Ja out).wait,.int .i64 (Ja out).ser,.int .i64 (Ja out).now],.int .i64 0])):=by
 obtain⟨W,hW,xW,KR⟩:=Za w ZYE;have hA:=h.xg xW (Zf6 _) (ZX KR.o);have IS:=ZA (ZKR who W hw);have wS:=ZJO W g _ C xb L s who hA hw;rw[hc]at wS;have PN:=ZA wS;have ST:=ZA (ZNu W g (XG O w.heap.size) C xb L s s1 who N x res res' ser ser' k k0 out fn aa hA hc hw (ZF xW hv) hen iS CL);have aM:=ZA h.lt;have XW:=ZA xW;have HW:=ZA hW;obtain⟨dn,Hdn⟩:=ZX2 (ZFD out);obtain⟨rr,mM⟩:=ZX2 (Ja out);rw[Hdn.o,mM.o]at ST ⊢;clear h hA wS CL hv hc iS hW xW;go_enter func16,ntmps16;go_upto_region 1 with fail
 (try rw[HW.o])
 clear HW;go_wp2_with fail;refine IS.o.mono ?_;rintro e w1 ⟨rfl,rfl⟩;go_wp2_with fail;refine PN.o.mono ?_;rintro e w1 ⟨rfl,rfl⟩;go_wp2_with fail;refine ST.o.mono ?_;rintro e w3 aB;have H6:=ZA aB;obtain⟨L',C',-,rfl,-,g4,-⟩:=aB;have k3:=g4.blk KR.o (λe=>Zf9 _ (aM.o _ e));have K3:=ZA k3;obtain⟨r0,z0,r1,z1,r2,z2,r3,z3,r4,z4,r5,z5,r6,z6⟩:=ZYD k3;clear k3 g4;go_wp2_with fail;refine Zgd (Yy (p:=4) (u:=5) rfl _ _ w.heap.size _ #[.bool dn,.int .i64 (rr.er:Int),.bool rr.granted,.int .i64 rr.left,.int .i64 rr.wait,.int .i64 rr.ser,.int .i64 rr.now] (0,0) _ rfl (Yv K3.o _ _ _ _ _ _ _) underlying41 ZX0 ZC) rfl ?_;exact ZPo XW.o H6.o _ _ _ _ _ _ _
theorem ZYl {p:Prop}(h:p:=by
 first
 |obtain -:=T1;have HE:=ZA (show Zs.on (Je (s.hs.getD word []) t)=out by rw[<-Hout.o,Zgl hz]);have hb:(4611686018427387904:Int)<=(u:Int):=by unfold Zb at hz;omega
  have hen:=jm.o;have FT:=ZA (ZJW wc.drew (XO C' (XG O w.heap.size)) (Zo g who (xb who) x) x n c t A (s.hs.getD word []) rs tf tc (HX.o.ext (ZM.refl wc).drew) (JT.o.ext (ZM.refl wc).drew) l7.o Hn.o (HCF.o.ext (ZM.refl wc).drew));have f3:=J3.o.ZX6 0 (YD tf tc);have f8:=J8.o.ZX6 0 (.slice A n c);have bF:=KN.o
 |obtain -:=T2;have HE:=ZA (show Zs.on (.frzS word u (s.hs.getD word []) t)=out by rw[<-Hout.o,Zgk hz]);have hb:¬(4611686018427387904:Int)<=(u:Int):=by unfold Zb at hz;omega
  have KT:Zk wc (XO C' (XG O w.heap.size)) (Zo g who (xb who) x) (YD 273 #[ZH b0,ZH b1,ZH b2,ZH k7,ZH k8,ZH b3,ZH (w.heap.size+1)]) (.frzS word u (s.hs.getD word []) t):=⟨_,_,_,_,_,_,_,_,rfl,⟨J0.o,J1.o⟩,J2.o,J7.o,⟨A,c,rs,by rw[Hn.o];exact J8.o,HCF.o⟩,J3.o,JT.o,⟨_,_,rfl,KN.o,mP.o⟩⟩;have ho:=ZAo KT;rw[HE.o]at ho;have HO:=ZA ho;have bU:=Jt;have bF:=KN.o
 |first|(obtain -:=V12;obtain⟨k,C',rfl,hm,h6⟩:=hcut)|obtain⟨rfl,C',hm⟩:=hcut
  have HM:=ZA hm;have ab:=hm.kpg XW.o (Zf6 w.heap.size);have J0:=ZA (aQ.o.kp ab);have J1:=ZA (aO.o.kp ab);have J2:=ZA (bj.o.kp ab);first|(obtain -:=V13;have J6:=ZA h6)|(have J3:=ZA (bX.o.kp ab);have J4:=ZA (cQ.o.kp ab))
  have gD:¬C w.heap.size:=λe=>Zf9 _ (aM.o _ e);have gC:¬C (w.heap.size+1):=λe=>by have:=aM.o _ e;omega
  have KR:=ZA (hm.2.1.blk K0.o gD);have KN:=ZA (hm.2.1.blk K1.o gC);have HX:=ZA hm.1.newer;first
  |obtain -:=V14;have hq:(d:Int) / 2=(u:Int):=by have:=Hd.o;omega
   have hr:(d:Int) % 2=0:=by have:=Hd.o;omega
   clear hm ab gD gC e0 e1 dl;go_upto_region 5 with fail;obtain⟨V,hV,xV,-⟩:=Za wc (.cells #[.int .i64 u] 3);have f4:V.cell? ⟨wc.heap.size,0,none⟩=some (.int .i64 u):=by rw[<-hV];exact ZE (ZV wc _) 0
   have f0:=(J0.o.ext xV).ZX6 0 (ZH g.gl);have f1:=(J1.o.ext xV).ZX6 0 (.int .i64 who);have f2:=(J2.o.ext xV).ZX6 0 (.int .u64 sum);have f3:=(J3.o.ext xV).ZX6 0 (YD fi ci)
  |obtain -:=V15;have mP:=ZA (show ¬XO C' (XG O w.heap.size) (w.heap.size+1)from λe=>e.elim (λe=>(hm.2.2 _ e).elim gC (λe=>by omega)) (λe=>e.elim (λe=>by have:=ot.o _ e;omega) (λe=>by omega)));have bU:=Jt;have hq:(d:Int) / 2=(u:Int):=by have:=Hd.o;omega
   have hr:(d:Int) % 2=1:=by have:=Hd.o;omega
   clear hm ab gD gC e0 e1 dl;go_upto_region 6 with fail;obtain⟨V,hV,xV,-⟩:=Za wc (.cells #[.int .i64 u] 3);have f4:V.cell? ⟨wc.heap.size,0,none⟩=some (.int .i64 u):=by rw[<-hV];exact ZE (ZV wc _) 0
   have f0:=(J0.o.ext xV).ZX6 0 (ZH g.gl);have f1:=(J1.o.ext xV).ZX6 0 (.int .i64 who);have f2:=(J2.o.ext xV).ZX6 0 (.int .u64 sum);have f3:=(J3.o.ext xV).ZX6 0 (YD fi ci)
  |obtain -:=V16;have mP:=ZA (show ¬XO C' (XG O w.heap.size) (w.heap.size+1)from λe=>e.elim (λe=>(hm.2.2 _ e).elim gC (λe=>by have:=fP.o;omega)) (λe=>e.elim (λe=>by have:=ot.o _ e;omega) (λe=>by omega)));have hq:(d:Int) / 2=(lv:Int):=by omega
   have hr:(d:Int) % 2=0:=by omega
   have f6:=h6.ZX6 0 (.int .u64 d);have gO:IntKind.i64.wrap (lv:Int)=(lv:Int):=by rw[Zee];omega
   clear hm ab gD gC e0 e1 dl h6 iA jo mc;obtain⟨V,hV,xV,-⟩:=Za wc (.cells #[.int .i64 lv] 3);have f8:V.cell? ⟨wc.heap.size,0,none⟩=some (.int .i64 lv):=by rw[<-hV];exact ZE (ZV wc _) 0
   have r8:Zh V (XO C' (XG O w.heap.size)) (ZH wc.heap.size) #[.int .i64 lv]:=by rw[<-hV];exact Zh.new rfl (HX.o.not (Zf6 _))
   have g6:=ZF xV f6;have f2:=(J2.o.ext xV).ZX6 0 (YD 130 #[])
  |have mP:=ZA (show ¬XO C' (XG O w.heap.size) (w.heap.size+1)from λe=>e.elim (λe=>(hm.2.2 _ e).elim gC (λe=>by have:=fP.o;omega)) (λe=>e.elim (λe=>by have:=ot.o _ e;omega) (λe=>by omega)));have hq:(d:Int) / 2=(lv:Int):=by omega
   have hr:(d:Int) % 2=1:=by omega
   have f6:=h6.ZX6 0 (.int .u64 d);have gO:IntKind.i64.wrap (lv:Int)=(lv:Int):=by rw[Zee];omega
   clear hm ab gD gC e0 e1 dl h6 iA jo mc;obtain⟨V,hV,xV,-⟩:=Za wc (.cells #[.int .i64 lv] 3);have f8:V.cell? ⟨wc.heap.size,0,none⟩=some (.int .i64 lv):=by rw[<-hV];exact ZE (ZV wc _) 0
   have r8:Zh V (XO C' (XG O w.heap.size)) (ZH wc.heap.size) #[.int .i64 lv]:=by rw[<-hV];exact Zh.new rfl (HX.o.not (Zf6 _))
   have g6:=ZF xV f6;have f2:=(J2.o.ext xV).ZX6 0 (YD 130 #[])
  have fL:=ZA (ZK KR.o xV);have bF:=ZK KN.o xV
 have n0:=ZX1 bF 0 (.bool false);have n1:=ZX1 bF 1 (.int .i64 0);have n2:=ZX1 bF 2 (.bool false);have n3:=ZX1 bF 3 (.int .i64 0);have n4:=ZX1 bF 4 (.int .i64 0);have n5:=ZX1 bF 5 (.int .i64 0);have n6:=ZX1 bF 6 (.int .i64 0);first
 |obtain -:=T3;have aW:w.heap.size+1≠w.heap.size:=by omega
  have lJ:=aW;have lI:=aW;have lH:=aW;have lG:=aW;have lE:=aW;have lD:=aW;have l3:b3<w.heap.size:=Iq.o;have oT:b3≠w.heap.size:=by omega
  have C7:k8≠w.heap.size:=λe=>by have h9:=J8.o.nx;rw[e]at h9;exact h9 (.inr (.inr rfl))
  clear bF hz l8 l3;go_upto_region 4 with fail;go_region_held3 (λw'=>w'.cell? ⟨b3,0,none⟩=some (YD tf tc)/\w'.cell? ⟨k8,0,none⟩=some (.slice A n c)/\w'.cell? ⟨w.heap.size+1,0,none⟩=some (.bool false)/\w'.cell? ⟨w.heap.size+1,1,none⟩=some (.int .i64 0)/\w'.cell? ⟨w.heap.size+1,2,none⟩=some (.bool false)/\w'.cell? ⟨w.heap.size+1,3,none⟩=some (.int .i64 0)/\w'.cell? ⟨w.heap.size+1,4,none⟩=some (.int .i64 0)/\w'.cell? ⟨w.heap.size+1,5,none⟩=some (.int .i64 0)/\w'.cell? ⟨w.heap.size+1,6,none⟩=some (.int .i64 0)) (((try go_split_ands);exact⟨ZX8,ZX8,ZX8,ZX8,ZX8,ZX8,ZX8,ZX8,ZX8⟩)) (((with_reducible refine FT.o.mono ?_);rintro e w3 ⟨v,rfl,hk,hx⟩;have ap:=(ZM.refl wc).drew.trans hx;have HK:=ZA hk;have aV:=ZA ap;have bR:=ZA (ZK KR.o ap);obtain⟨r0,z0,r1,z1,r2,z2,r3,z3,r4,z4,r5,z5,r6,z6⟩:=ZYD bR.o;have oP:=ZF (ap) f3;have CF:=ZF (ap) f8;have ku:=ZF (ap) n0;have ko:=ZF (ap) n1;have km:=ZF (ap) n2;have kj:=ZF (ap) n3;have kh:=ZF (ap) n4;have kg:=ZF (ap) n5;have ke:=ZF (ap) n6;clear hk hx ap));all_goals
   go_wp2_with fail;refine Zgd (ZP (p:=5) (u:=4) rfl _ _ w.heap.size _ #[.bool false,.int .i64 0,.bool false,.int .i64 0,.int .i64 0,.int .i64 0,.int .i64 0] (0,0) _ rfl (Yv bR.o _ _ _ _ _ _ _) underlying41 ZX0 ZC) rfl ?_;have ho:=ZAo HK.o;rw[HE.o]at ho;exact Yl (r:=ZAG) bp.o XW.o (Zf6 _) (HM.o.ext aV.o) ho _ _ _ _ _ _ _
 |obtain -:=T4;obtain⟨r0,z0,r1,z1,r2,z2,r3,z3,r4,z4,r5,z5,r6,z6⟩:=ZYD KR.o;clear bF hz l8;go_upto_region 5 with fail;go_region;go_wp2_with fail;refine Zgd (ZP (p:=5) (u:=4) rfl _ _ w.heap.size _ #[.bool false,.int .i64 0,.bool false,.int .i64 0,.int .i64 0,.int .i64 0,.int .i64 0] (0,0) _ rfl (Xb (Yv KR.o _ _ _ _ _ _ _)) underlying41 ZX0 ZC) rfl ?_;exact ZJ6 (Yl (r:=ZAG) bp.o XW.o (Zf6 _) HM.o HO.o _ _ _ _ _ _ _)
 |first
  |obtain -:=V17;have EN:=ZA (ZHs V.drew (XO C' (XG O w.heap.size)) (Zo g who (xb who) x) sum pl (YD fi ci) t (HX.o.ext (xV.trans (ZM.refl V).drew)) (J4.o.ext (xV.trans (ZM.refl V).drew)));obtain⟨XV,bp,GT⟩:=Z8 xV qe qP;rw[hV];clear hV xV bF hq hr;have rX:w.heap.size<wc.heap.size:=ZX KR.o;have mb:b0≠w.heap.size:=by omega
   have mU:b1≠w.heap.size:=by omega
   have qK:b2≠w.heap.size:=by omega
   have oT:b3≠w.heap.size:=by omega
   have ur:wc.heap.size≠w.heap.size:=by omega
   have aW:w.heap.size+1≠w.heap.size:=by omega
   have lJ:w.heap.size+1≠w.heap.size:=by omega
   have lI:w.heap.size+1≠w.heap.size:=by omega
   have lH:w.heap.size+1≠w.heap.size:=by omega
   have lG:w.heap.size+1≠w.heap.size:=by omega
   have lE:w.heap.size+1≠w.heap.size:=by omega
   have lD:w.heap.size+1≠w.heap.size:=by omega
   clear qe qP hs hL gn l0 l1 l2 l3 rX;go_region_held3 (λw'=>w'.cell? ⟨b0,0,none⟩=some (ZH g.gl)/\w'.cell? ⟨b1,0,none⟩=some (.int .i64 who)/\w'.cell? ⟨b2,0,none⟩=some (.int .u64 sum)/\w'.cell? ⟨wc.heap.size,0,none⟩=some (.int .i64 u)/\w'.cell? ⟨b3,0,none⟩=some (YD fi ci)/\w'.cell? ⟨w.heap.size+1,0,none⟩=some (.bool false)/\w'.cell? ⟨w.heap.size+1,1,none⟩=some (.int .i64 0)/\w'.cell? ⟨w.heap.size+1,2,none⟩=some (.bool false)/\w'.cell? ⟨w.heap.size+1,3,none⟩=some (.int .i64 0)/\w'.cell? ⟨w.heap.size+1,4,none⟩=some (.int .i64 0)/\w'.cell? ⟨w.heap.size+1,5,none⟩=some (.int .i64 0)/\w'.cell? ⟨w.heap.size+1,6,none⟩=some (.int .i64 0)) (((try go_split_ands);exact⟨ZX8,ZX8,ZX8,ZX8,ZX8,ZX8,ZX8,ZX8,ZX8,ZX8,ZX8,ZX8⟩))
    (first
     |(go_at_call 81;(with_reducible refine(PL.out _).mono ?_);rintro e w8 ⟨rfl,rfl⟩)
     |(go_at_call 238;(with_reducible refine EN.o.mono ?_);rintro e w2 ⟨v,rfl,hk,hx⟩;have ap:=(ZM.refl V).drew.trans hx;have HK:=ZA hk;have aV:=ZA ap;have bR:=ZA (ZK fL.o ap);obtain⟨r0,z0,r1,z1,r2,z2,r3,z3,r4,z4,r5,z5,r6,z6⟩:=ZYD bR.o;have fQ:=ZF (ap) f0;have kv:=ZF (ap) f1;have jn:=ZF (ap) f2;have oP:=ZF (ap) f3;have mT:=ZF (ap) f4;have ku:=ZF (ap) n0;have ko:=ZF (ap) n1;have km:=ZF (ap) n2;have kj:=ZF (ap) n3;have kh:=ZF (ap) n4;have kg:=ZF (ap) n5;have ke:=ZF (ap) n6;clear hk hx ap))
   all_goals
    go_wp2_with fail;refine Zgd (ZP (p:=5) (u:=4) rfl _ _ w.heap.size _ #[.bool false,.int .i64 0,.bool false,.int .i64 0,.int .i64 0,.int .i64 0,.int .i64 0] (0,0) _ rfl (Yv bR.o _ _ _ _ _ _ _) underlying41 ZX0 ZC) rfl ?_;exact Yl (r:=ZAG) bp.o XW.o (Zf6 _) (HM.o.ext (XV.o.trans aV.o)) (ZAo HK.o) _ _ _ _ _ _ _
  |obtain -:=V18;have Co:JE V (XO C' (XG O w.heap.size)) (Zo g who (xb who) x) (YD 239 #[ZH b0,ZH b1,ZH wc.heap.size,ZH b2,ZH b3,ZH (w.heap.size+1)]) (.find sum u t):=⟨_,_,_,_,_,_,_,rfl,⟨J0.o.ext xV,J1.o.ext xV⟩,by rw[<-hV];exact Zh.new rfl (HX.o.not (Zf6 _)),J2.o.ext xV,J3.o.ext xV,J4.o.ext xV,⟨_,_,rfl,bF,mP.o⟩⟩;have EN:=ZA (ZDZ V.drew (XO C' (XG O w.heap.size)) (Zo g who (xb who) x) pl _ (.find sum u t) (HX.o.ext (xV.trans (ZM.refl V).drew)) (Co.ext (ZM.refl V).drew));clear Co;obtain⟨XV,bp,GT⟩:=Z8 xV qe qP;rw[hV];clear hV xV bF hq hr;have rX:w.heap.size<wc.heap.size:=ZX KR.o;have mb:b0≠w.heap.size:=by omega
   have mU:b1≠w.heap.size:=by omega
   have qK:b2≠w.heap.size:=by omega
   have oT:b3≠w.heap.size:=by omega
   have ur:wc.heap.size≠w.heap.size:=by omega
   have aW:w.heap.size+1≠w.heap.size:=by omega
   have lJ:w.heap.size+1≠w.heap.size:=by omega
   have lI:w.heap.size+1≠w.heap.size:=by omega
   have lH:w.heap.size+1≠w.heap.size:=by omega
   have lG:w.heap.size+1≠w.heap.size:=by omega
   have lE:w.heap.size+1≠w.heap.size:=by omega
   have lD:w.heap.size+1≠w.heap.size:=by omega
   clear qe qP hs hL gn l0 l1 l2 l3 rX;go_region_held3 (λw'=>w'.cell? ⟨b0,0,none⟩=some (ZH g.gl)/\w'.cell? ⟨b1,0,none⟩=some (.int .i64 who)/\w'.cell? ⟨b2,0,none⟩=some (.int .u64 sum)/\w'.cell? ⟨wc.heap.size,0,none⟩=some (.int .i64 u)/\w'.cell? ⟨b3,0,none⟩=some (YD fi ci)/\w'.cell? ⟨w.heap.size+1,0,none⟩=some (.bool false)/\w'.cell? ⟨w.heap.size+1,1,none⟩=some (.int .i64 0)/\w'.cell? ⟨w.heap.size+1,2,none⟩=some (.bool false)/\w'.cell? ⟨w.heap.size+1,3,none⟩=some (.int .i64 0)/\w'.cell? ⟨w.heap.size+1,4,none⟩=some (.int .i64 0)/\w'.cell? ⟨w.heap.size+1,5,none⟩=some (.int .i64 0)/\w'.cell? ⟨w.heap.size+1,6,none⟩=some (.int .i64 0)) (((try go_split_ands);exact⟨ZX8,ZX8,ZX8,ZX8,ZX8,ZX8,ZX8,ZX8,ZX8,ZX8,ZX8,ZX8⟩))
    (first
     |(go_at_call 81;(with_reducible refine(PL.out _).mono ?_);rintro e w8 ⟨rfl,rfl⟩)
     |(go_at_call 232;(with_reducible refine EN.o.mono ?_);rintro e w2 ⟨v,rfl,hk,hx⟩;have ap:=(ZM.refl V).drew.trans hx;have HK:=ZA hk;have aV:=ZA ap;have bR:=ZA (ZK fL.o ap);obtain⟨r0,z0,r1,z1,r2,z2,r3,z3,r4,z4,r5,z5,r6,z6⟩:=ZYD bR.o;have fQ:=ZF (ap) f0;have kv:=ZF (ap) f1;have jn:=ZF (ap) f2;have oP:=ZF (ap) f3;have mT:=ZF (ap) f4;have ku:=ZF (ap) n0;have ko:=ZF (ap) n1;have km:=ZF (ap) n2;have kj:=ZF (ap) n3;have kh:=ZF (ap) n4;have kg:=ZF (ap) n5;have ke:=ZF (ap) n6;clear hk hx ap))
   all_goals
    go_wp2_with fail;refine Zgd (ZP (p:=5) (u:=4) rfl _ _ w.heap.size _ #[.bool false,.int .i64 0,.bool false,.int .i64 0,.int .i64 0,.int .i64 0,.int .i64 0] (0,0) _ rfl (Yv bR.o _ _ _ _ _ _ _) underlying41 ZX0 ZC) rfl ?_;exact Yl (r:=ZAG) bp.o XW.o (Zf6 _) (HM.o.ext (XV.o.trans aV.o)) (ZAo HK.o) _ _ _ _ _ _ _
  |obtain -:=V19;obtain⟨XV,HV,B9⟩:=Z8 xV hV r8;clear hV xV r8;go_upto_region 4 with fail;(try rw[HV.o]);clear HV;by_cases jO:lv=4
   ·subst jO;go_wp2_with fail;refine(show Calls prog 130 #[.int .i64 5] V _ from ZGY 5 V).mono ?_;rintro e w3 ⟨rfl,hx⟩;have aV:=ZA hx;have K3:=ZA (ZK fL.o hx);obtain⟨r0,z0,r1,z1,r2,z2,r3,z3,r4,z4,r5,z5,r6,z6⟩:=ZYD K3.o;clear hx;go_wp2_with fail;refine Zgd (ZP (p:=4) (u:=3) rfl _ _ (w.heap.size) _ #[.bool true,.int .i64 ((YY 5).er:Int),.bool (YY 5).granted,.int .i64 (YY 5).left,.int .i64 (YY 5).wait,.int .i64 (YY 5).ser,.int .i64 (YY 5).now] (0,0) _ rfl (Yv K3.o _ _ _ _ _ _ _) underlying41 ZX0 ZC) rfl ?_;exact Yl (out:=.fin (YY 5)) (nv:=.nilFunc) (done:=true) (r:=YY 5) (x:=x) (who:=who) bp.o XW.o (Zf6 _) (HM.o.ext (XV.o.trans aV.o)) ⟨rfl,rfl,rfl⟩ _ _ _ _ _ _ _
   ·clear hw;have ag:((lv:Int)==4)=false:=by rw[Zgb];omega
    have KT:=ZA (show Zk V (XO C' (XG O w.heap.size)) (Zo g who (xb who) x) (YD 176 #[ZH b0,ZH b1,ZH k,ZH b2,ZH (w.heap.size+1),ZH wc.heap.size]) (.splitS d)from
     ⟨_,_,_,_,_,_,rfl,⟨J0.o.ext XV.o,J1.o.ext XV.o⟩,J6.o.ext XV.o,J2.o.ext XV.o,⟨_,_,rfl,bF,mP.o⟩,by rw[show d / 2=lv by omega];exact B9.o⟩)
    have bU:=Jt;obtain⟨r0,z0,r1,z1,r2,z2,r3,z3,r4,z4,r5,z5,r6,z6⟩:=ZYD fL.o;go_upto_region 8 with fail;go_region;go_wp2_with fail;refine Zgd (ZP (p:=4) (u:=3) rfl _ _ w.heap.size _ #[.bool false,.int .i64 0,.bool false,.int .i64 0,.int .i64 0,.int .i64 0,.int .i64 0] (0,0) _ rfl (Xb (Yv fL.o _ _ _ _ _ _ _)) underlying41 ZX0 ZC) rfl ?_;exact ZJ6 (Yl (r:=ZAG) bp.o XW.o (Zf6 _) (HM.o.ext XV.o) (ZAo KT.o) _ _ _ _ _ _ _)
  |obtain⟨XV,HV,B9⟩:=Z8 xV hV r8;clear hV xV r8;have f0:=(J0.o.ext XV.o).ZX6 0 (ZH g.gl);have f1:=(J1.o.ext XV.o).ZX6 0 (.int .i64 who);have MV:=ZA (show Calls prog 175 #[ZH g.gl,.int .i64 who,.int .i64 lv,.int .i64 0,YD 130 #[]] V.drew (ClR (λw' v=>Zk w' (XO C' (XG O w.heap.size)) (Zo g who (xb who) x) v (XM lv 0)) V.drew)from ZFu V.drew _ (Zo g who (xb who) x) lv 0 (HX.o.ext (XV.o.trans (ZM.refl V).drew)) fD (ZgR _));have rX:w.heap.size<wc.heap.size:=ZX KR.o;have mb:b0≠w.heap.size:=by omega
   have mU:b1≠w.heap.size:=by omega
   have qK:b2≠w.heap.size:=by omega
   have C7:wc.heap.size≠w.heap.size:=by omega
   have aW:w.heap.size+1≠w.heap.size:=by omega
   have lJ:=aW;have lI:=aW;have lH:=aW;have lG:=aW;have lE:=aW;have lD:=aW;clear rX l0 l1 l2 gn;go_upto_region 4 with fail;(try rw[HV.o]);clear HV;go_upto_region 5 with fail;go_region_held3 (λw'=>w'.cell? ⟨b0,0,none⟩=some (ZH g.gl)/\w'.cell? ⟨b1,0,none⟩=some (.int .i64 who)/\w'.cell? ⟨wc.heap.size,0,none⟩=some (.int .i64 lv)/\w'.cell? ⟨b2,0,none⟩=some (YD 130 #[])/\w'.cell? ⟨w.heap.size+1,0,none⟩=some (.bool false)/\w'.cell? ⟨w.heap.size+1,1,none⟩=some (.int .i64 0)/\w'.cell? ⟨w.heap.size+1,2,none⟩=some (.bool false)/\w'.cell? ⟨w.heap.size+1,3,none⟩=some (.int .i64 0)/\w'.cell? ⟨w.heap.size+1,4,none⟩=some (.int .i64 0)/\w'.cell? ⟨w.heap.size+1,5,none⟩=some (.int .i64 0)/\w'.cell? ⟨w.heap.size+1,6,none⟩=some (.int .i64 0)) (((try go_split_ands);exact⟨ZX8,ZX8,ZX8,ZX8,ZX8,ZX8,ZX8,ZX8,ZX8,ZX8,ZX8⟩)) ((go_at_call 175;(with_reducible refine MV.o.mono ?_);rintro e w3 ⟨v,rfl,hk,hx⟩;have ap:=(ZM.refl V).drew.trans hx;have HK:=ZA hk;have aV:=ZA ap;have bR:=ZA (ZK fL.o ap);obtain⟨r0,z0,r1,z1,r2,z2,r3,z3,r4,z4,r5,z5,r6,z6⟩:=ZYD bR.o;have fQ:=ZF (ap) f0;have kv:=ZF (ap) f1;have CF:=ZF (ap) f8;have jn:=ZF (ap) f2;have ku:=ZF (ap) n0;have ko:=ZF (ap) n1;have km:=ZF (ap) n2;have kj:=ZF (ap) n3;have kh:=ZF (ap) n4;have kg:=ZF (ap) n5;have ke:=ZF (ap) n6;clear hk hx ap));all_goals
    go_wp2_with fail;refine Zgd (ZP (p:=4) (u:=3) rfl _ _ w.heap.size _ #[.bool false,.int .i64 0,.bool false,.int .i64 0,.int .i64 0,.int .i64 0,.int .i64 0] (0,0) _ rfl (Yv bR.o _ _ _ _ _ _ _) underlying41 ZX0 ZC) rfl ?_;exact Yl (r:=ZAG) bp.o XW.o (Zf6 _) (HM.o.ext (XV.o.trans aV.o)) (ZAo HK.o) _ _ _ _ _ _ _):p:=h
theorem QF {p:Prop}(h:p:=by
 first|(obtain -:=V1;obtain⟨p0,p1,p2,aj,⟨k0,k1⟩,k2⟩:=hk)|(obtain⟨p0,p1,p2,p3,tv,aj,⟨k0,k1⟩,k2,k3,k4⟩:=hk;obtain⟨fi,ci,rfl⟩:=k4.fn)
 injection aj with aj h1 h2;injection aj with aj;subst aj h2;obtain⟨b0,rfl,l0⟩:=k0.ptr;obtain⟨b1,rfl,l1⟩:=k1.ptr;obtain⟨b2,rfl,l2⟩:=k2.ptr;first|(obtain -:=V2)|obtain⟨b3,rfl,l3⟩:=k3.ptr
 obtain⟨W,hW⟩:=ZX3 (((w.alloc ZYE).alloc ZYE));have xW:ZM w W:=by rw[<-hW];exact(((ZM.refl w).alloc _).alloc _)
 have K0:=ZA (show W.heap[w.heap.size]?=some ZYE by rw[<-hW];exact ZQ (ZV w _) _);have K1:=ZA (show W.heap[w.heap.size+1]?=some ZYE by rw[<-hW];exact Zi _ _ ZXz);have hA:=h.xg xW (Zf6 _) (ZX K0.o);first|(obtain -:=V3;have LD:=ZA (ZBG W.drew g (XG O w.heap.size) C xb L s who 0 (2*u) _ 0 (hA.ext (ZM.refl W).drew) ZB hw ZB hu rfl rfl);have HA:=ZA hA;have aM:=ZA h.lt;have Hc:=ZA hc;have d0:=(k0.ext xW).cell 0;have d1:=(k1.ext xW).cell 0;have dl:=hA.rd.l0;obtain⟨aQ,aO,bj,bX,cQ⟩:=ZBR k0 k1 k2 k3 k4)|(obtain -:=V4;have LD:=ZA (ZBG W.drew g (XG O w.heap.size) C xb L s who 0 (2*u+1) _ 0 (hA.ext (ZM.refl W).drew) ZB hw ZB hu rfl rfl);obtain⟨HA,aM,ot⟩:=Z8 hA h.lt h.ol;have Hc:=ZA hc;have d0:=(k0.ext xW).cell 0;have d1:=(k1.ext xW).cell 0;have dl:=hA.rd.l0;obtain⟨aQ,aO,bj,bX,cQ⟩:=ZBR k0 k1 k2 k3 k4)|(have LD:=ZA (λu (y:ZM W u)=>(show Calls prog 174 #[ZH g.gb,.int .i64 who,.int .i64 0] u _ from ZBG u g (XG O w.heap.size) C xb L s who 0 d _ 0 (hA.ext y) ZB hw ZB hu rfl rfl));have jX:=ZA (λu (y:ZM W u) (hk:W.heap.size<u.heap.size)=>(show Calls prog 174 #[ZH g.gb,.int .i64 who,.int .i64 0] u _ from ZBG u g (XG (XG O w.heap.size) W.heap.size) C xb L s who 0 d _ 0 (hA.xg y (Zf6 _) hk) ZB hw ZB hu rfl rfl));have aM:=ZA (show ∀i,C i->i<w.heap.size from h.lt);have ot:=ZA (show ∀i,O i->i<w.heap.size from h.ol);have dl:W.cell? ⟨g.gl,0,none⟩=some (ZH g.gb):=hA.rd.l0;obtain⟨aQ,aO,bj⟩:=Z8 k0 k1 k2)
 have XW:=ZA xW;first
 |obtain -:=V5;have qe:(L++[(⟨who,1,0,2*u,0,true⟩:Zg)]).length<=L.length+1:=by simp
  obtain⟨d,Hd⟩:=ZX2 (2*u);rw[Hd.o]at LD qe;have PL:=ZA (λw=>ZAu u sum w qP hs);obtain⟨pl,Hp⟩:=ZX2 (ZO u sum);rw[Hp.o]at PL ⊢;have e0:W.cell? ⟨b0,0,none⟩=some (ZH g.gl):=d0;have e1:W.cell? ⟨b1,0,none⟩=some (.int .i64 who):=d1
 |obtain -:=V6;have qe:(L++[(⟨who,1,0,2*u+1,0,true⟩:Zg)]).length<=L.length+1:=by simp
  obtain⟨d,Hd⟩:=ZX2 (2*u+1);rw[Hd.o]at LD qe;have PL:=ZA (λw=>ZAu u sum w ZB hs);obtain⟨pl,Hp⟩:=ZX2 (ZO u sum);rw[Hp.o]at PL ⊢;have e0:W.cell? ⟨b0,0,none⟩=some (ZH g.gl):=d0;have e1:W.cell? ⟨b1,0,none⟩=some (.int .i64 who):=d1
 |skip
 have HW:=ZA hW;first|(obtain -:=V7;have e0:=(k0.ext xW).ZX6 0 (ZH g.gl);have e1:=(k1.ext xW).ZX6 0 (.int .i64 who);have bp:=ZA (show(L++[(⟨who,1,0,d,0,true⟩:Zg)]).length<=L.length+1 by simp))|skip
 have gn:=ZX K1.o;first
 |obtain -:=V8;have fP:=ZA gn;have iA:b0≠W.heap.size:=by omega
  have jo:b1≠W.heap.size:=by omega
  have mc:g.gl≠W.heap.size:=by have:=ZgT W _ dl;exact ZgK this
 |skip
 obtain⟨n,Hn⟩:=ZX2 ((s.hs.getD 0 []).length);first|(obtain -:=V9;rw[Hn.o]at LD jX;have jl:=ZA (show ¬XG O w.heap.size W.heap.size from λe=>e.elim (λe=>by have:=h.ol _ e;omega) (λe=>by omega));have HCW:=ZA (show ¬C W.heap.size from λe=>by have:=h.lt _ e;omega);clear h hc hu k0 k1 k2 hA xW hW hL;go_enter func173,ntmps173)|(rw[Hn.o]at LD;clear h hc hu k0 k1 k2 k3 k4 d0 d1 hA xW hW;go_enter func237,ntmps237)
 go_upto_region 2 with fail;(try rw[HW.o]);clear HW;first|(obtain -:=V10;go_cut [6] (λv6 wd=>∃k C',v6=ZH k/\YS W g (XG O w.heap.size) C xb (L++[⟨who,1,0,d,0,true⟩]) s C' wd/\Zh wd (XO C' (XG O w.heap.size)) (ZH k) #[.int .u64 d]))|go_cut [7] (λv7 wd=>v7=.int .u64 d/\∃C',YS W g (XG O w.heap.size) C xb (L++[⟨who,1,0,d,0,true⟩]) s C' wd)
 case first=>
  first
  |obtain -:=V11;go_region_held3 (λw'=>w'.cell? ⟨b0,0,none⟩=some (ZH g.gl)/\w'.cell? ⟨b1,0,none⟩=some (.int .i64 who)/\w'.cell? ⟨g.gl,0,none⟩=some (ZH g.gb)) (((try go_split_ands);exact⟨ZX9,ZX9,ZX9⟩))
    (first
     |(go_at_call 174;(with_reducible refine(LD.o _ (ZM.refl W).drew).mono ?_);rintro e w2 ⟨A,c,rs,C',rfl,-,hm⟩;have HM:=ZA (hm.back (ZM.refl W).drew);have ab:=HM.o.kpg XW.o (Zf6 w.heap.size);have cy:=(aQ.o.kp ab).ZX6 0 (ZH g.gl);have dk:=(aO.o.kp ab).ZX6 0 (.int .i64 who);have fu:w2.cell? ⟨g.gl,0,none⟩=some (ZH g.gb):=HM.o.1.rd.l0;clear hm ab)
     |(go_at_call 174;(with_reducible refine(jX.o _ ((ZM.refl W).alloc _).drew ZXz).mono ?_);rintro e w2 ⟨A,c,rs,C',rfl,-,hm⟩;have ox:=ZA hm;have ab:=hm.kpb XW.o ((ZM.refl W).alloc _).drew (Zf6 w.heap.size) (Zf6 W.heap.size);have cy:=(aQ.o.kp ab).ZX6 0 (ZH g.gl);have dk:=(aO.o.kp ab).ZX6 0 (.int .i64 who);have fu:w2.cell? ⟨g.gl,0,none⟩=some (ZH g.gb):=hm.1.rd.l0;have KB:=ZA (show w2.heap[W.heap.size]?=some (.cells #[.int .u64 0] 52 (0,0))from hm.2.1.blk (Xb (ZV W _)) HCW.o);have r6:=ZE KB.o 0;have z6:=ZG KB.o 0;clear hm ab))
   all_goals
    go_wp2_with fail
    go_meet
    first
     |exact⟨_,C',rfl,HM.o.ext ((ZM.refl w2).alloc _),Zh.new rfl (HM.o.1.newer.not (Zf6 _))⟩
     |exact⟨_,C',rfl,YS.box ((ZM.refl W).alloc _).drew (Zf6 _) ox.o _,Zh.box ox.o (Xb (ZV W _)) jl.o HCW.o _⟩
  |go_region_held3 (λw'=>w'.cell? ⟨b0,0,none⟩=some (ZH g.gl)/\w'.cell? ⟨b1,0,none⟩=some (.int .i64 who)/\w'.cell? ⟨g.gl,0,none⟩=some (ZH g.gb)) (((try go_split_ands);exact⟨ZX7,ZX7,ZX7⟩)) ((go_at_call 174;(with_reducible refine LD.o.mono ?_);rintro e w2 ⟨A,c,rs,C',rfl,-,hm⟩;have HM:=ZA (hm.back (ZM.refl W).drew);have ab:=HM.o.kpg XW.o (Zf6 w.heap.size);have cy:=(aQ.o.kp ab).ZX6 0 (ZH g.gl);have dk:=(aO.o.kp ab).ZX6 0 (.int .i64 who);have fu:=hm.1.rd.l0;clear hm ab));all_goals
    go_wp2_with fail
    go_meet
    exact⟨rfl,_,HM.o⟩
 case rest=>
  exact ZYl):p:=h
theorem ZL6 (w g O C xb)(L:List Zg)(s:Z9)(who u sum x res ser t f)(aa:Array Value)(h:YQ w g O C xb L s)(hc:s.call who=.run x res ser (.find sum t))(hL:L.length<=100000)(hw:who<64)(hu:s.ws.getD 0 0=2*u)(qP:u<=4)(hs:sum<18446744073709551616)(hk:Zk w (XO C O) (Zo g who (xb who) x) (YD f aa) (.find sum t)): Calls prog f aa w (SK w g O C xb who (L.length+1) x s (.on (.enter sum (ZO u sum) t))):=by
 obtain⟨V3,V5,V14,V17⟩:=QA;exact QF
theorem ZGt:(prog.info? 5).map (λi=>(i.zero,i.size,i.bytes))=some (some (.int .u8 0),1,1):=by kernel_rfl
theorem JX:∀u:World,(sizeOf 5).run prog u=.ok 1 u:=λ_=>by kernel_rfl
theorem JV {aw:Array Oper}{Q:Exit->Act->World->Prop}(w:World)(bu:o.guard=none)(s x)(ho:o.op=.call {callee:=.builtin .append,args:=#[s,x],argTypes:=#[32,32]})(base){xs:List Nat}(hs:a.eval s=.slice B n cb)(af:w.ownsRow base 5 1 (.slice B n cb) n (ZT .u8 xs)){m:Nat}{news:List Nat}(hx:a.eval x=.slice A m c)(hl:news.length=m)(hr:Rd w A (ZT .u8 news))(hb:n+m<=140737488355328)(an:base<=w.heap.size)(h:∀B' au w',w'.ownsRow base 5 1 (.slice B' (n+m) au) (n+m) (ZT .u8 (xs++news))->w.grownBy w' (Value.slice B n cb).ownBlock-> ((Value.slice B' (n+m) au).ownBlock=(Value.slice B n cb).ownBlock\/(Value.slice B' (n+m) au).ownBlock=some w.heap.size)->wpList prog aw Q rest (a.put o.dst (.slice B' (n+m) au)) w'): wpList prog aw Q (o::rest) a w:=by
 obtain⟨i0,hi,bV,bY,aS⟩:=Zgm ZGt;refine Yj w bu s x 32 ho base 5 underlying32 hi bV bY aS rfl (by decide) hs af hx (by rw[Xk,hl,ZgJ]) hr (ZHC _ _) (by unfold maxLen;omega) ZB an ?_;intro B' au w' h2 h3 h4;rw[<-ZBf]at h2;exact h B' au w' h2 h3 h4
theorem ZQD (w:World):(w.alloc (.cells #[] 5)).ownsRow w.heap.size 5 1 (.slice (some ⟨w.heap.size,0,none⟩) 0 0) 0 (ZT .u8 []):=X7 w [] 5 1 0 rfl (ZgR _) (Zf6 _)
def ZEs (xs:List Nat)(w:World)(e:Ending)(w':World):Prop:=∃A c,e=.returned (.slice A xs.length c)/\w'.ownsRow w.heap.size 5 1 (.slice A xs.length c) xs.length (ZT .u8 xs)/\ZM w w'
theorem ZBv{xs:List Nat}(hl:xs.length=n)(ho:w'.ownsRow w.heap.size 5 1 (.slice A n c) n (ZT .u8 xs))(hb:ZM w w'): ZEs xs w (.returned (.slice A n c)) w':=by
 subst hl;exact⟨A,c,rfl,ho,hb⟩
theorem ZCe (A n c)(xs:List Nat)(w)(hl:xs.length=n)(hn:n<=140737488355328)(hr:Rd w A (ZT .u8 xs)): Calls prog 45 #[.slice A n c] w (ZEs xs w):=by
 have Hl:=ZA hl;clear hl;have Hr:=ZA hr;clear hr;go_enter func45,ntmps45;go_wp2_with (at_builtin;refine JV _ rfl (.tmp 3) (.tmp 4) rfl w.heap.size rfl (ZQD w) rfl Hl.o (Hr.o.alloc _) ZB ZXz ?_;intro A' c' w1 af aY _;simp only[ZgQ,Zfb]at af);go_ret;exact ZBv Hl.o af (((ZM.refl w).alloc _).grown aY (by simp[Value.ownBlock]))
theorem ZW8 (w)(A:Option Addr)(n c n' c'):(binOp .eql 32 (.slice A n c) (.slice none n' c')).run prog w=.ok (.bool A.isNone) w:=Zeh w _ _ A n c n' c' underlying32
theorem ZEk (a n c)(xs:List Nat)(w)(hl:xs.length=n)(hn:n<=140737488355328)(hr:Rd w (some a) (ZT .u8 xs)): Calls prog 67 #[.slice (some a) n c] w (ZEs xs w):=by
 have Hl:=ZA hl;clear hl;have Hr:=ZA hr;clear hr;have q:=ZW8;go_enter func67,ntmps67;go_wp2_with (at_builtin;refine JV _ rfl (.tmp 5) (.tmp 6) rfl w.heap.size rfl (ZQD w) rfl Hl.o (Hr.o.alloc _) ZB ZXz ?_;intro A' c' w1 af aY _;simp only[ZgQ,Zfb]at af);go_ret;exact ZBv Hl.o af (((ZM.refl w).alloc _).grown aY (by simp[Value.ownBlock]))
theorem ZJd (w n c): Calls prog 67 #[.slice none n c] w λe w'=>e=.returned (.slice none 0 0)/\w=w':=by
 have q:=ZW8;go_enter func67,ntmps67;go_wp2;go_ret;exact⟨rfl,rfl⟩
def same (xs ys:List Nat):Bool:=decide (xs=ys)
def ZUD (v:Value)(w:World)(e:Ending)(w':World):Prop:=e=.returned v/\∃q,w'=w.drewN q
theorem ZSS (A B n c m d w)(h:n≠m): Calls prog 64 #[.slice A n c,.slice B m d] w (ZUD (.bool false) w):=by
 go_enter func64,ntmps64;go_wp2;go_ret;exact⟨rfl,0,rfl⟩
theorem ZPz (A B n c d)(xs ys:List Nat)(w)(hl:xs.length=n)(cu:ys.length=n)(hn:n<=9223372036854775807)(hb:∀x ∈ xs,x<256)(hb':∀x ∈ ys,x<256)(hr:Rd w A (ZT .u8 xs))(bC:Rd w B (ZT .u8 ys)): Calls prog 64 #[.slice A n c,.slice B n d] w (ZUD (.bool (same xs ys)) w):=by
 have Hl:=ZA hl;have Hr:=ZA hr;have BZ:=ZA cu;have Gv:=ZA bC;have Hb:=ZA hb;have Mb:=ZA hb';clear hl hr cu bC hb hb';go_enter func64,ntmps64;go_wp2
 go_loopw [13] (λi wr=>∃k q:Nat,k<=n/\i=.int .i64 k/\wr=w.drewN q/\xs.take k=ys.take k) (λi _=>n - (intOf i).toNat)
 case atStart=>exact⟨0,0,ZgR _,rfl,rfl,rfl⟩
 case round=>
  obtain⟨k,q,hk,rfl,rfl,cS⟩:=hrel;have BX:=ZA cS;clear cS;by_cases ak:k<n
  ·obtain⟨x,hx⟩:=Jy (xs:=xs) (j:=k) (by rw[Hl.o];exact ak);obtain⟨y,hy⟩:=Jy (xs:=ys) (j:=k) (by rw[BZ.o];exact ak);obtain⟨b,off,hA,_,hc⟩:=Hr.o.at_ hx;obtain⟨b',off',nV,_,jB⟩:=Gv.o.at_ hy;have Hx:=ZA hx;have Hy:=ZA hy;clear hx hy;subst hA nV;by_cases ie:x=y
   ·subst ie;go_wp2
    go_quiet (fail)
    go_wp2
    go_roundw
    case rel=>exact⟨k+1,_,by omega,by go_num,rfl,by rw[Zv Hx.o,Zv Hy.o,BX.o]⟩
    case measure=>simp[intOf];omega
   ·go_wp2
    go_quiet (fail)
    go_wp2;go_ret;exact⟨ZB9 (Eq.symm (Zgf (by rintro rfl;have:=Hx.o.symm.trans Hy.o;injection this with this;exact ie this))),q+nq,ZRI w q nq⟩
  ·go_wp2;go_ret;exact⟨ZB9 (Eq.symm (Zgg (by have h:=BX.o;rwa [Zfp (by rw[Hl.o];omega),Zfp (by rw[BZ.o];omega)]at h))),q,rfl⟩
theorem ZLW (A B n c m d)(xs ys:List Nat)(w)(hl:xs.length=n)(cu:ys.length=m)(hn:n<=9223372036854775807)(hb:∀x ∈ xs,x<256)(hb':∀x ∈ ys,x<256)(hr:Rd w A (ZT .u8 xs))(bC:Rd w B (ZT .u8 ys)): Calls prog 64 #[.slice A n c,.slice B m d] w (ZUD (.bool (same xs ys)) w):=by
 by_cases h:n=m
 ·subst h;exact ZPz A B n c d xs ys w hl cu hn hb hb' hr bC
 ·have e:same xs ys=false:=Zgf (by rintro rfl;omega);rw[e];exact ZSS A B n c m d w h
theorem ZKF{k:IntKind}{xs ys:List Nat}(h:Rd w A (ZT k (xs++ys))):Rd w A (ZT k xs):=by
 intro ag;obtain⟨b,off,hA,hc⟩:=h (by intro e;rw[ZBf]at e;exact ag (List.append_eq_nil_iff.1 e).1);exact⟨b,off,hA,λj u hu=>hc j u (by rw[ZBf,Ze0 (Ze5.1 hu).1];exact hu)⟩
def Xc (xs:List Nat)(er:Int)(w:World)(e:Ending)(w':World):Prop:=∃A c,e=.returned (.tuple #[.slice A xs.length c,.int .i64 er])/\w'.ownsRow w.heap.size 5 1 (.slice A xs.length c) xs.length (ZT .u8 xs)/\ZM w w'
theorem Jq{xs:List Nat}{er:Int}(hl:xs.length=n)(ho:w'.ownsRow w.heap.size 5 1 (.slice A n c) n (ZT .u8 xs))(hb:ZM w w'): Xc xs er w (.returned (.tuple #[.slice A n c,.int .i64 er])) w':=by
 subst hl;exact⟨A,c,rfl,ho,hb⟩
theorem ZUu (w:World)(x:Nat):(w.alloc (.cells #[.int .u8 x] 5)).ownsRow w.heap.size 5 1 (.slice (some ⟨w.heap.size,0,none⟩) 1 1) 1 (ZT .u8 [x]):=X7 w [.int .u8 x] 5 1 1 rfl (by unfold maxLen;omega) (Zf6 _)
theorem ZDc (p:Nat)(A:Option Addr)(n c:Nat)(xs:List Nat)(w:World)(hp:p<32)(hl:xs.length=n)(hn:n<=255)(hr:Rd w A (ZT .u8 xs)): Calls prog 72 #[.int .i64 p,.slice A n c] w (Xc (p::xs) 0 w):=by
 have Hl:=ZA hl;clear hl;have Hr:=ZA hr;clear hr;go_enter func72,ntmps72;go_wp2_with (at_builtin;refine JV _ rfl (.tmp 19) (.tmp 20) rfl w.heap.size rfl (ZUu w p) rfl Hl.o (Hr.o.alloc _) ZB ZXz ?_;intro A' c' w1 af aY _)
 go_ret2
 exact Jq (by rw[ZfF,Hl.o,Zfw]) af (((ZM.refl w).alloc _).grown aY (by simp[Value.ownBlock]))
theorem ZD7 (p A n c w)(hp:p<0\/32<=p): Calls prog 72 #[.int .i64 p,.slice A n c] w λe w'=>e=.returned (.tuple #[.slice none 0 0,.int .i64 1])/\w=w':=by
 rcases hp with h|h
 ·go_enter func72,ntmps72;go_wp2
  go_ret2
  exact⟨rfl,rfl⟩
 ·have h':¬p<0:=by omega
  go_enter func72,ntmps72;go_wp2
  go_ret2
  exact⟨rfl,rfl⟩
theorem ZC8 (p A n c w)(hp:0<=p)(eK:p<32)(hn:255<n): Calls prog 72 #[.int .i64 p,.slice A n c] w λe w'=>e=.returned (.tuple #[.slice none 0 0,.int .i64 2])/\w=w':=by
 go_enter func72,ntmps72;go_wp2
 go_ret2
 exact⟨rfl,rfl⟩
theorem ZTh (args:Array Value)(w):(callFunc 271 args).run prog w=((Extern.BytealgCompare.compare args).run prog w).andThen λv w'=>.ok (.value v) w':=
 run_callFunc_extern func271 ZC ZC ZC (e:=Extern.BytealgCompare.compare) ZC args w
theorem ZKk (A B n c m d)(xs ys:List Nat)(w)(hl:xs.length=n)(cu:ys.length=m)(hb:∀x ∈ xs,x<256)(hb':∀x ∈ ys,x<256)(hr:Rd w A (ZT .u8 xs))(bC:Rd w B (ZT .u8 ys)): Calls prog 228 #[.slice A n c,.slice B m d] w λe w'=>e=.returned (.int .i64 (ord xs ys))/\w=w':=by
 have aC:=ZA (ZSU (P:=prog) (c:=c) (d:=d) hl hr cu bC hb hb');clear hl cu hr bC hb hb';go_enter func228,ntmps228;go_wp2_with fail;rw[ZTh,aC.out];simp only[Result.andThen];rw[Oper.upon_value];go_wp2;go_ret;exact⟨rfl,rfl⟩
theorem ZQF (A B n c m d)(xs ys:List Nat)(w)(hl:xs.length=n)(cu:ys.length=m)(hb:∀x ∈ xs,x<256)(hb':∀x ∈ ys,x<256)(hr:Rd w A (ZT .u8 xs))(bC:Rd w B (ZT .u8 ys)): Calls prog 168 #[.slice A n c,.slice B m d] w λe w'=>e=.returned (.int .i64 (ord xs ys))/\w=w':=by
 have c1:=ZA (ZKk A B n c m d xs ys w hl cu hb hb' hr bC);clear hl cu hr bC hb hb';go_enter func168,ntmps168;go_wp2_with fail;refine c1.out.mono ?_;rintro e w' ⟨rfl,rfl⟩;go_wp2;go_ret;exact⟨rfl,rfl⟩
theorem Qt {p:Prop}(h:p:=by
 obtain⟨Hr,Hb,Hl⟩:=Z8 hr hb hl;clear hr hb hl;first|(obtain -:=V1;go_enter func121,ntmps121)|go_enter func95,ntmps95
 go_wp2;first|(obtain -:=V2;go_loop [0,9] (λh' i=>∃k:Nat,k<=n/\i=.int .i64 k/\h'=.int .u64 ((upd h (xs.take k):Nat):Int)) (λ_ i=>n - (intOf i).toNat))|go_loop [0,12] (λh' i=>∃k:Nat,k<=n/\i=.int .i64 k/\h'=.int .u64 ((upd h (xs.take k):Nat):Int)) (λ_ i=>n - (intOf i).toNat)
 case atStart=>exact⟨0,ZgR _,rfl,rfl⟩
 case round=>
  obtain⟨k,hk,rfl,rfl⟩:=hrel;have hu:=ZEY h (xs.take k) hh;by_cases ak:k<n
  ·obtain⟨x,hx⟩:=Jy (xs:=xs) (j:=k) (by rw[Hl.o];exact ak);have dv:x<256:=Hb.o x (ZfU hx);obtain⟨b,off,hA,_,hc⟩:=Hr.o.at_ hx;have Hx:=ZA hx;clear hx;subst hA;go_wp2;go_round;first|(obtain -:=V3;case rel=>exact⟨k+1,by omega,by go_num,by rw[Zv Hx.o,ZK5,<-ZPp,Go.u64_xor_nat _ _ hu ZB]⟩)|case rel=>exact⟨k+1,by omega,by go_num,ZN1 (by rw[Zv Hx.o,ZK5];exact ZSc _ x hu dv (ZXi _ x hu dv))⟩
   case measure=>simp[intOf];omega
  ·go_wp2;go_ret;exact⟨ZBC (by rw[Zfp (by rw[Hl.o];omega)]),rfl⟩):p:=h
theorem ZM5 (h:Nat)(A:Option Addr)(n c:Nat)(xs:List Nat)(w:World)(hl:xs.length=n)(hb:∀x ∈ xs,x<256)(hn:n<=9223372036854775807)(hh:h<18446744073709551616)(hr:Rd w A (ZT .u8 xs)): Calls prog 121 #[.int .u64 h,.slice A n c] w λe w'=>e=.returned (.int .u64 ((upd h xs:Nat):Int))/\w=w':=by
 obtain⟨V1,V2,V3⟩:=QA;exact Qt
theorem ZId (h:Nat)(A:Option Addr)(n c:Nat)(xs:List Nat)(w:World)(hl:xs.length=n)(hb:∀x ∈ xs,x<256)(hn:n<=9223372036854775807)(hh:h<18446744073709551616)(hr:Rd w A (ZT .u8 xs)): Calls prog 95 #[.int .u64 h,.slice A n c] w λe w'=>e=.returned (.int .u64 ((upd h xs:Nat):Int))/\w=w':=Qt
theorem ZE2 (A n c)(xs:List Nat)(w)(hl:xs.length=n)(hb:∀x ∈ xs,x<256)(hn:n<=9223372036854775807)(hr:Rd w A (ZT .u8 xs)): Calls prog 74 #[.slice A n c] w λe w'=>e=.returned (.int .u64 ((upd 14695981039346656037 xs:Nat):Int))/\w=w':=by
 have c1:=ZA (ZM5 14695981039346656037 A n c xs w hl hb hn ZB hr);clear hr hb hl;go_enter func74,ntmps74;go_wp2_with fail;refine c1.out.mono ?_;rintro e w' ⟨rfl,rfl⟩;go_wp2;go_ret;exact⟨rfl,rfl⟩
theorem ZNL (A n c)(xs:List Nat)(w)(hl:xs.length=n)(hb:∀x ∈ xs,x<256)(hn:n<=9223372036854775807)(hr:Rd w A (ZT .u8 xs)): Calls prog 46 #[.slice A n c] w λe w'=>e=.returned (.int .u64 ((upd 14695981039346656037 xs:Nat):Int))/\w=w':=by
 have c1:=ZA (ZId 14695981039346656037 A n c xs w hl hb hn ZB hr);clear hr hb hl;go_enter func46,ntmps46;go_wp2_with fail;refine c1.out.mono ?_;rintro e w' ⟨rfl,rfl⟩;go_wp2;go_ret;exact⟨rfl,rfl⟩
theorem ZSO (A:Option Addr)(n c:Nat)(xs:List Nat)(level:Nat)(w:World)(hl:xs.length=n)(hb:∀x ∈ xs,x<256)(hn:n<=9223372036854775807)(hr:Rd w A (ZT .u8 xs))(hv:level<=4): Calls prog 82 #[.slice A n c,.int .i64 level] w (ZUD (.tuple #[.int .i64 ((ZA9 (upd 14695981039346656037 xs) level:Nat):Int),.int .i64 0]) w):=by
 have c1:=ZA (λq=>ZE2 A n c xs (w.drewN q) hl hb hn hr);have hs:=ZEY 14695981039346656037 xs ZB;clear hl hr hb hn;generalize upd 14695981039346656037 xs=S at*;have:level=0\/level=1\/level=2\/level=3\/level=4:=by omega
 rcases this with rfl|rfl|rfl|rfl|rfl
 all_goals
  go_enter func82,ntmps82;go_wp2
  go_quiet ((go_at_call 74;exact Jr (c1.out _)))
  go_wp2
  go_ret2
  exact⟨ZAn (ZN1 (ZSs _ hs ZB rfl)) rfl,_,rfl⟩
def ZAO (c:ZL):Prop:=c.pol<32/\c.key.length<=255/\∀x ∈ c.key,x<256
theorem ZHx {c:ZL}(h:ZAO c):∀x ∈ c.id,x<256:=λx hx=>by
 rcases ZfO.1 hx with hx|hx
 ·rw[hx];have:=h.1;omega
 ·exact h.2.2 x hx
def ZXK (l:Nat)(xs:List Nat)(w:World)(e:Ending)(w':World):Prop:=∃A c,e=.returned (.tuple #[.slice A l c,.int .i64 0])/\Rd w' A (ZT .u8 xs)/\ZM w w'
theorem ZGu (p A n c l)(xs:List Nat)(w)(hp:p<32)(hl:xs.length=n)(hn:n<=255)(hr:Rd w A (ZT .u8 xs))(hL:(p::xs).length=l): Calls prog 72 #[.int .i64 p,.slice A n c] w (ZXK l (p::xs) w):=by
 refine(ZDc p A n c xs w hp hl hn hr).mono ?_;rintro e w1 ⟨A1,c1,rfl,o1,x1⟩;rw[hL];exact⟨A1,c1,rfl,Rd.of_own o1,x1⟩
theorem ZIC (w)(a b:ZL)(ra rb:Z7)(n m i j)(ha:ZAO a)(hb:ZAO b)(hn:a.key.length=n)(hm:b.key.length=m)(hr:Rd w ra.K (ZT .u8 a.key))(bC:Rd w rb.K (ZT .u8 b.key)): Calls prog 120 #[.agg #[.int .i64 (a.pol:Int),.slice ra.K n ra.kc,.int .i64 a.tat,.slice ra.H i ra.hc],.agg #[.int .i64 (b.pol:Int),.slice rb.K m rb.kc,.int .i64 b.tat,.slice rb.H j rb.hc]] w (Xj (.int .i64 (ord a.id b.id)) w):=by
 obtain⟨W,hW⟩:=ZX3 (((w.alloc (.cells #[.int .i64 (a.pol:Int),.slice ra.K n ra.kc,.int .i64 a.tat,.slice ra.H i ra.hc] 62)).alloc (.cells #[.int .i64 (b.pol:Int),.slice rb.K m rb.kc,.int .i64 b.tat,.slice rb.H j rb.hc] 62)));have xW:ZM w W:=by rw[<-hW];exact(((ZM.refl w).alloc _).alloc _)
 obtain⟨l1,H1⟩:=ZX2 ((a.pol::a.key).length);obtain⟨l2,H2⟩:=ZX2 ((b.pol::b.key).length);have I1:=ZA (λu (x:ZM W u)=>ZGu a.pol ra.K n ra.kc l1 a.key u ha.1 hn (by rw[<-hn];exact ha.2.1) (hr.ext (xW.trans x)) H1.o);have I2:=ZA (λu (x:ZM W u)=>ZGu b.pol rb.K m rb.kc l2 b.key u hb.1 hm (by rw[<-hm];exact hb.2.1) (bC.ext (xW.trans x)) H2.o);have Ha:=ZA (ZHx ha);have Hb:=ZA (ZHx hb);have K0:=show W.heap[w.heap.size]?=some (.cells #[.int .i64 (a.pol:Int),.slice ra.K n ra.kc,.int .i64 a.tat,.slice ra.H i ra.hc] 62 (0,0)) by rw[<-hW];exact ZQ (ZV w _) _
 have K1:=show W.heap[w.heap.size+1]?=some (.cells #[.int .i64 (b.pol:Int),.slice rb.K m rb.kc,.int .i64 b.tat,.slice rb.H j rb.hc] 62 (0,0)) by rw[<-hW];exact Zi _ _ ZXz
 have a0:=ZE K0 0;have a1:=ZE K0 1;have aO:=ZA K1;have XW:=ZA xW;clear ha hb hr bC hn hm xW K0 K1;go_enter func120,ntmps120;go_upto_region 1 with fail
 (try rw[hW])
 clear hW;go_wp2_with fail;refine(I1.o W (ZM.refl W)).mono ?_;rintro e w1 ⟨A1,c1,rfl,o1,x1⟩;have R1:=ZA o1;have bj:=ZA (ZK aO.o x1);have b0:=ZE bj.o 0;have b1:=ZE bj.o 1;have X1:=ZA x1;clear o1 x1;go_wp2_with fail;refine(I2.o w1 X1.o).mono ?_;rintro e w2 ⟨A2,c2,rfl,o2,x2⟩;have R2:=ZA o2;have Gb:=ZA (R1.o.ext x2);have X2:=ZA x2;clear o2 x2 a0 a1 b0 b1;go_wp2_with fail;refine(ZQF A1 A2 l1 c1 l2 c2 a.id b.id w2 H1.o H2.o Ha.o Hb.o Gb.o R2.o).mono ?_;rintro e w3 ⟨rfl,rfl⟩;go_wp2_with fail;go_ret;exact⟨rfl,XW.o.trans (X1.o.trans X2.o)⟩
theorem ZIJ {l:List ZL}{k:List Nat}{h q:Nat}{e0 e:ZL}(hs:ZAE l)(h0:l[h]?=some e0)(ak:ord e0.id k<0)(hq:q<h)(he:l[q]?=some e):ord e.id k<0:=by
 obtain⟨a,b⟩:=Ze5.1 he;obtain⟨c,d⟩:=Ze5.1 h0;have:=Zfg.1 hs q h a c hq;rw[b,d]at this;exact ZFt this ZB
theorem ZRx {l:List ZL}{k:List Nat}{h q:Nat}{e0 e:ZL}(hs:ZAE l)(h0:l[h]?=some e0)(jR:¬ord e0.id k<0)(hq:h<=q)(he:l[q]?=some e):¬ord e.id k<0:=λak=>by
 rcases ZgC h q with h9|h9
 ·exact jR (ZIJ hs he ak h9 h0)
 ·have:q=h:=by omega
  subst this;rw[h0]at he;injection he with he;subst he;exact jR ak
def ZWA (l:List ZL)(k:List Nat)(w:World)(e:Ending)(w':World):Prop:=e=.returned (.tuple #[.int .i64 (atK l k:Int),.bool (ZAK l k)])/\ZM w w'
theorem ZZE {p:Prop}(h:p:=by
 first
 |obtain -:=U1;have nE:(i:Int)<(n:Int):=by omega
  obtain⟨e,He⟩:∃e,ZD (l[i]?=some e):=⟨_,Ze4 (by rw[Hl.o];omega)⟩
 |have eF:(i:Int)<(jj:Int):=by omega
  obtain⟨h,Hh⟩:=ZX2 ((i+jj) / 2);have EH:i<=h:=by have:=Hh.o;omega
  have EG:h<jj:=by have:=Hh.o;omega
  have AT:h<n:=by omega
  have cW:IntKind.i64.wrap ((i:Int)+(jj:Int))=(i:Int)+(jj:Int):=by rw[Zee];omega
  have cV:IntKind.u64.wrap ((i:Int)+(jj:Int))=(i:Int)+(jj:Int):=by rw[Zef];omega
  have hq:((i:Int)+(jj:Int)) / 2=(h:Int):=by have:=Hh.o;omega
  obtain⟨e,He⟩:∃e,ZD (l[h]?=some e):=⟨_,Ze4 (by rw[Hl.o];omega)⟩
 obtain⟨b,off,r1,hA,je,d0,d1,d2,d3,hpr⟩:=(HE.o.ext (XW.o.trans HX.o)).at_ He.o;have bz:=ZfU He.o;first|(obtain -:=U2;obtain⟨hb,Hb⟩:∃hb:Bool,ZD (ZAK l k=hb):=⟨_,rfl⟩;have GH:=ZA (ZTK (l:=l) (k:=k) (by rw[<-lY.o];exact He.o)))|skip
 obtain⟨ro,Hekl⟩:=ZX2 (e.key.length);obtain⟨rq,Hehl⟩:=ZX2 (e.held.length);rw[Hekl.o]at d1;rw[Hehl.o]at d3;have ry:=ZA (λu (y:ZM wr u)=>OR.o u (HX.o.trans y) e r1 ro rq bz Hekl.o (hpr.2.1.ext y));first
 |obtain -:=U3;have Fg:(ord e.id k==0)=hb:=by
   have h9:=GH.o;rw[Hb.o]at h9;rw[h9];by_cases h0:ord e.id k=0
   ·rw[Zgg h0];simp[h0]
   ·rw[Zgf h0];simp[h0]
 |skip
 obtain⟨ok,Hok2⟩:=ZX2 (ord e.id k);first|(obtain -:=U4;rw[Hok2.o]at ry Fg)|rw[Hok2.o]at ry
 clear je hpr bz;subst hA;first
 |obtain -:=U5;go_upto_region 8 with fail;go_region_held3 (λw'=>w'.cell? ⟨b,off+i*4,none⟩=some (.int .i64 (e.pol:Int))/\w'.cell? ⟨b,off+i*4+1,none⟩=some (.slice r1.K ro r1.kc)/\w'.cell? ⟨b,off+i*4+2,none⟩=some (.int .i64 e.tat)/\w'.cell? ⟨b,off+i*4+3,none⟩=some (.slice r1.H rq r1.hc)/\w'.cell? ⟨w.heap.size,0,none⟩=some (.int .i64 (t.pol:Int))/\w'.cell? ⟨w.heap.size,1,none⟩=some (.slice rt.K m rt.kc)/\w'.cell? ⟨w.heap.size,2,none⟩=some (.int .i64 t.tat)/\w'.cell? ⟨w.heap.size,3,none⟩=some (.slice rt.H j rt.hc)) (((try go_split_ands);refine⟨?_,?_,?_,?_,?_,?_,?_,?_⟩<;>first|assumption|with_reducible first|exact ZJ d0|exact ey|exact ZJ ey|exact ZI ey _|exact ZJ (ZI d0 _)|exact ZJ d1|exact dY|exact ZJ dY|exact ZI dY _|exact ZJ (ZI d1 _)|exact ZJ d2|exact eo|exact ZJ eo|exact ZI eo _|exact ZJ (ZI d2 _)|exact ZJ d3|exact ex|exact ZJ ex|exact ZI ex _|exact ZJ (ZI d3 _)|exact ZJ b0|exact iz|exact ZJ iz|exact ZI iz _|exact ZJ (ZI b0 _)|exact ZJ b1|exact jM|exact ZJ jM|exact ZI jM _|exact ZJ (ZI b1 _)|exact ZJ b2|exact iy|exact ZJ iy|exact ZI iy _|exact ZJ (ZI b2 _)|exact ZJ b3|exact jL|exact ZJ jL|exact ZI jL _|exact ZJ (ZI b3 _))) ((go_at_call 120;(with_reducible refine(ry.o wr.drew (ZM.refl wr).drew).mono ?_);rintro e9 w9 ⟨rfl,hy⟩;have HY:=ZA ((ZM.refl wr).drew.trans hy);have ey:=ZF (HY.o) d0;have dY:=ZF (HY.o) d1;have eo:=ZF (HY.o) d2;have ex:=ZF (HY.o) d3;have iz:=ZF (HY.o) b0;have jM:=ZF (HY.o) b1;have iy:=ZF (HY.o) b2;have jL:=ZF (HY.o) b3;clear hy));all_goals
   go_wp2_with fail
   go_ret2
   exact⟨ZAn (by rw[<-lY.o];rfl) (ZED (by rw[Hb.o])),XW.o.trans (HX.o.trans HY.o)⟩
 |go_upto_region 5 with fail;clear hq cW cV;by_cases ig:ok<0
  ·exact ZYa
  ·obtain⟨T1,T2⟩:=QA;exact ZYa):p:=h
theorem ZYa {p:Prop}(h:p:=by
 first
 |obtain -:=T1;have fK:∀q e,h<=q->l[q]?=some e->¬ord e.id k<0:=λq e2 hq he=>ZRx Hs.o He.o (by rw[Hok2.o];exact ig) hq he;have IU:=ZA fK;clear fK
 |have rn:∀q e,q<h+1->l[q]?=some e->ord e.id k<0:=λq e2 hq he=>by
   have rU:ord e.id k<0:=by rw[Hok2.o];exact ig
   rcases ZgC q h with h9|h9
   ·exact ZIJ Hs.o He.o rU ZB he
   ·have:q=h:=by omega
    subst this;rw[He.o]at he;injection he with he;subst he;exact rU
  have IY:=ZA rn;clear rn
 go_region_held3 (λw'=>w'.cell? ⟨b,off+h*4,none⟩=some (.int .i64 (e.pol:Int))/\w'.cell? ⟨b,off+h*4+1,none⟩=some (.slice r1.K ro r1.kc)/\w'.cell? ⟨b,off+h*4+2,none⟩=some (.int .i64 e.tat)/\w'.cell? ⟨b,off+h*4+3,none⟩=some (.slice r1.H rq r1.hc)/\w'.cell? ⟨w.heap.size,0,none⟩=some (.int .i64 (t.pol:Int))/\w'.cell? ⟨w.heap.size,1,none⟩=some (.slice rt.K m rt.kc)/\w'.cell? ⟨w.heap.size,2,none⟩=some (.int .i64 t.tat)/\w'.cell? ⟨w.heap.size,3,none⟩=some (.slice rt.H j rt.hc)) (((try go_split_ands);refine⟨?_,?_,?_,?_,?_,?_,?_,?_⟩<;>first|assumption|with_reducible first|exact ZJ d0|exact ey|exact ZJ ey|exact ZI ey _|exact ZJ (ZI d0 _)|exact ZJ d1|exact dY|exact ZJ dY|exact ZI dY _|exact ZJ (ZI d1 _)|exact ZJ d2|exact eo|exact ZJ eo|exact ZI eo _|exact ZJ (ZI d2 _)|exact ZJ d3|exact ex|exact ZJ ex|exact ZI ex _|exact ZJ (ZI d3 _)|exact ZJ b0|exact iz|exact ZJ iz|exact ZI iz _|exact ZJ (ZI b0 _)|exact ZJ b1|exact jM|exact ZJ jM|exact ZI jM _|exact ZJ (ZI b1 _)|exact ZJ b2|exact iy|exact ZJ iy|exact ZI iy _|exact ZJ (ZI b2 _)|exact ZJ b3|exact jL|exact ZJ jL|exact ZI jL _|exact ZJ (ZI b3 _))) ((go_at_call 120;(with_reducible refine(ry.o wr.drew (ZM.refl wr).drew).mono ?_);rintro e9 w9 ⟨rfl,hy⟩;have HY:=ZA ((ZM.refl wr).drew.trans hy);have ey:=ZF (HY.o) d0;have dY:=ZF (HY.o) d1;have eo:=ZF (HY.o) d2;have ex:=ZF (HY.o) d3;have iz:=ZF (HY.o) b0;have jM:=ZF (HY.o) b1;have iy:=ZF (HY.o) b2;have jL:=ZF (HY.o) b3;clear hy));first
 |obtain -:=T2;all_goals
   go_wp2_with fail
   go_roundw
   case rel=>exact⟨i,h,rfl,rfl,by omega,by omega,HX.o.trans HY.o,H1.o,λq e hq he=>Int.not_lt.2 (IU.o q e hq he)⟩
   case measure=>simp[intOf];omega
 |all_goals
   go_wp2_with fail
   go_roundw
   case rel=>exact⟨h+1,jj,by go_num,rfl,by omega,by omega,HX.o.trans HY.o,IY.o,λq e hq he=>Int.not_lt.2 (H2.o q e hq he)⟩
   case measure=>simp[intOf];omega):p:=h
theorem ZTm (w A n c m j)(l:List ZL)(rs)(t:ZL)(rt:Z7)(hl:l.length=n)(hn:n<=5000)(hs:ZAE l)(aP:∀e ∈ l,ZAO e)(hE:ZAm w A l rs)(aX:t.key.length=m)(ht:ZAO t)(hr:Rd w rt.K (ZT .u8 t.key)): Calls prog 246 #[.slice A n c,.agg #[.int .i64 (t.pol:Int),.slice rt.K m rt.kc,.int .i64 t.tat,.slice rt.H j rt.hc],.func (.func 120) #[] #[]] w (ZWA l t.id w):=by
 obtain⟨k,Hk⟩:=ZX2 (t.id);obtain⟨Hl,Hs,lx,HE⟩:=ZAU hl hs aP hE;obtain⟨W,hW,xW,K0⟩:=Za w (.cells #[.int .i64 (t.pol:Int),.slice rt.K m rt.kc,.int .i64 t.tat,.slice rt.H j rt.hc] 62);have OR:=ZA (λu (y:ZM W u) (e:ZL) (re:Z7) (a b:Nat) (h1:e ∈ l) (h2:e.key.length=a) (h3:Rd u re.K (ZT .u8 e.key))=>ZIC u e t re rt a m b j (aP e h1) ht h2 aX h3 ((hr.ext xW).ext y));rw[Hk.o]at OR ⊢;have XW:=ZA xW;clear hl hs aP hE aX ht hr xW;go_enter func246,ntmps246;go_upto_region 1 with fail;(try rw[hW]);clear hW;go_wp2_with fail;go_loopw [9,10] (λv9 oE wr=>∃i j:Nat,v9=.int .i64 i/\oE=.int .i64 j/\i<=j/\j<=n/\ZM W wr/\(∀q e,q<i->l[q]?=some e->ord e.id k<0)/\(∀q e,j<=q->l[q]?=some e->¬ord e.id k<0)) (λv9 oE _=>(intOf oE).toNat - (intOf v9).toNat);case atStart=>exact⟨0,n,rfl,rfl,ZgR _,Zf6 _,ZM.refl W,λq e h=>absurd h (ZgL q),λq e h he=>by have:=(Ze5.1 he).1;have:=Hl.o;omega⟩
 case round=>
  obtain⟨i,jj,rfl,rfl,nL,xr,hx,h1,h2⟩:=hrel;obtain⟨HX,H1,H2⟩:=Z8 hx h1 h2;have KB:=ZK K0.o hx;have b0:=ZE KB 0;have b1:=ZE KB 1;have b2:=ZE KB 2;have b3:=ZE KB 3;clear hx h1 h2 KB;by_cases ak:i<jj
  ·exact ZZE
  ·obtain rfl:i=jj:=by omega
   have lY:=ZA (ZT1 Hs.o (by rw[Hl.o];omega) H1.o H2.o);by_cases jv:i<n
   ·obtain⟨U1,U2,U3,U4,U5⟩:=QA;exact ZZE
   ·have nE:¬(i:Int)<(n:Int):=by omega
    have tV:=ZA (ZQ0 (l:=l) (k:=k) (by rw[<-lY.o,Hl.o];exact jv));have hd:decide ((i:Int)<(n:Int))=false:=Zgf nE;go_upto_region 8 with fail;go_quiet (fail);go_wp2_with fail;go_ret2;exact⟨ZAn (by rw[<-lY.o];rfl) (ZED tV.o.symm),XW.o.trans (HX.o.trans ((ZM.refl wr).drewN _))⟩
theorem ZFA {fn:Func}{p u v:Tmp}{ty:TypeId}(h:fn.results=#[.tmp u,.tmp v,.cell p ty])(tmps:Array Value)(P:Program)(w): (results fn tmps).run P w=((asAddr (tmps.getD p undef)).run P w).andThen λa w=>((loadVar ty a).run P w).andThen λx w=>.ok (.tuple #[tmps.getD u undef,tmps.getD v undef,x]) w:=by
 simp[results,h,Result.andThen]
theorem ZCh {P:Program}{fn:Func}{p u v:Tmp}{ty:TypeId}(h:fn.results=#[.tmp u,.tmp v,.cell p ty])(tmps:Array Value)(w:World)(g:Nat)(t:TypeId)(cs:Array Value)(fr:Nat × Nat)(d:TypeDesc)(hp:tmps.getD p undef=.pointer (some ⟨g,0,none⟩))(hg:w.heap[g]?=some (.cells cs t fr))(hu:P.underlying ty=some d)(hd:(match d with|.struct _|.array _ _=>true|_=>false)=true)(hi:(P.info? ty).map (·.size)=some cs.size): (results fn tmps).run P w=.ok (.tuple #[tmps.getD u undef,tmps.getD v undef,.agg cs]) w:=by
 rw[ZFA h,hp];simp[asAddr,Zgt w g t ty cs fr d hg hu hd hi,Result.andThen]
theorem ZFV {w:World}{g:Nat}{o:Obj}(h:w.heap[g]?=some o):w.drew.heap[g]?=some o:=h
theorem ZVF{g:Nat}(h:ZM w w2)(hg:w.heap.size<=g)(a b c d):ZM w ((((w2.setCell ⟨g,0,none⟩ a).setCell ⟨g,1,none⟩ b).setCell ⟨g,2,none⟩ c).setCell ⟨g,3,none⟩ d):=by
 have h0:=Ze w2 g 0 a;have h1:=ZU h0 1 b;have h2:=ZU h1 2 c;exact Yr h (ZU h2 3 d) hg
def ZWw (X:Zhf)(at_:Nat)(has:Bool)(ce:ZL)(w:World)(e:Ending)(w':World):Prop:=∃r,e=.returned (.tuple #[.int .i64 at_,.bool has,.agg #[.int .i64 (ce.pol:Int),.slice r.K ce.key.length r.kc,.int .i64 ce.tat,.slice r.H ce.held.length r.hc]])/\Yi w' X r ce/\ZM w w'
theorem ZYf {p:Prop}(h:p:=by
 first|(obtain -:=T1;have e9:=ZCr (l:=l) (pol:=pol) (key:=key) (by rw[Hk.o];exact hh))|(obtain⟨ce,fq,e1,e2,e3⟩:=ZB7 (l:=l) (pol:=pol) (key:=key) (by rw[Hk.o];exact hh);rw[Hk.o,lY.o]at fq;have om:=ZA fq)
 rw[hh]at BS;first
 |obtain -:=T2;rw[e9];have HP:=ZA (show Yi w X ⟨K,kc,none,0⟩ ⟨pol,key,0,[]⟩from⟨⟨by rw[hk];exact cM,hr,Zf6 _,Rd.nil _ _⟩,hf,Fz.nil⟩);clear hE hk hr hf ht hl hs aP qt hh xW e9
 |rw[e3];have ak:at_<n:=by rw[<-hl];exact(Ze5.1 fq).1
  clear hE hk hr hf ht hl hs aP qt hh xW e1 e2 e3 fq
 have b0:=ZE K1.o 0;have b1:=ZE K1.o 1;have b2:=ZE K1.o 2;have b3:=ZE K1.o 3;go_enter func191,ntmps191;go_upto_region 2 with fail;(try rw[HW.o]);clear HW;go_wp2_with fail;refine BS.o.mono ?_;rintro e w1 ⟨rfl,hx⟩;have HX:=ZA hx;have KR:=ZA (ZK K0.o hx);have KC:=ZA (ZK K1.o hx);clear b0 b1 b2 b3 hx;have b0:=ZE KC.out 0;have b1:=ZE KC.out 1;have b2:=ZE KC.out 2;have b3:=ZE KC.out 3;first|(obtain -:=T3)|(have y0:=ZG KC.out 0;have y1:=ZG KC.out 1;have y2:=ZG KC.out 2;have y3:=ZG KC.out 3)
 have r0:=ZE KR.o 0;have r1:=ZE KR.o 1;have r2:=ZE KR.o 2;have r3:=ZE KR.o 3;have z0:=ZG KR.o 0;have z1:=ZG KR.o 1;have z2:=ZG KR.o 2;have z3:=ZG KR.o 3;first|(obtain -:=T4)|(have IC:=ZA (HE.o.ext (XW.o.trans HX.o));obtain⟨b,off,r9,hA,je,d0,d1,d2,d3,hpr⟩:=IC.o.1.at_ om.o;clear hpr;have lX:=ZA je;subst hA;clear je)
 go_wp2_with fail;go_region;go_wp2_with fail;have xF:ZM w w1:=XW.o.trans HX.o;first|(obtain -:=T5;have x2:=ZVF xF (Zf6 w.heap.size) (.int .i64 pol) (.slice K m kc) (.int .i64 0) (.slice none 0 0);have KF:=ZBA KR.o (.int .i64 pol) (.slice K m kc) (.int .i64 0) (.slice none 0 0);refine Zgd (ZCh (p:=8) (u:=6) (v:=7) rfl _ _ w.heap.size _ #[.int .i64 pol,.slice K m kc,.int .i64 0,.slice none 0 0] (0,0) _ rfl (ZFV KF) underlying62 ZX0 ZC) rfl ?_;refine⟨⟨K,kc,none,0⟩,?_,HP.o.ext x2.drew,x2.drew⟩;rw[<-Hkey.o];rfl)|(have x2:=ZVF (ZVF xF (Zf7 w.heap.size) (.int .i64 (ce.pol:Int)) (.slice r9.K ce.key.length r9.kc) (.int .i64 ce.tat) (.slice r9.H ce.held.length r9.hc)) (Zf6 w.heap.size) (.int .i64 (ce.pol:Int)) (.slice r9.K ce.key.length r9.kc) (.int .i64 ce.tat) (.slice r9.H ce.held.length r9.hc);have KF:=ZBA (Zl (Zl (Zl (Zl KR.o (Ze _ (w.heap.size+1) 0 (.int .i64 (ce.pol:Int))) ZB) (Ze _ (w.heap.size+1) 1 (.slice r9.K ce.key.length r9.kc)) ZB) (Ze _ (w.heap.size+1) 2 (.int .i64 ce.tat)) ZB) (Ze _ (w.heap.size+1) 3 (.slice r9.H ce.held.length r9.hc)) ZB) (.int .i64 (ce.pol:Int)) (.slice r9.K ce.key.length r9.kc) (.int .i64 ce.tat) (.slice r9.H ce.held.length r9.hc);refine Zgd (ZCh (p:=8) (u:=6) (v:=7) rfl _ _ w.heap.size _ #[.int .i64 (ce.pol:Int),.slice r9.K ce.key.length r9.kc,.int .i64 ce.tat,.slice r9.H ce.held.length r9.hc] (0,0) _ rfl (ZFV KF) underlying62 ZX0 ZC) rfl ?_;exact⟨r9,rfl,(HE.o.part lX.o om.o).ext x2.drew,x2.drew⟩)):p:=h
theorem ZRt (w X A K n c m kc)(l:List ZL)(rs pol)(key:List Nat)(hl:l.length=n)(hn:n<=5000)(hs:ZAE l)(aP:∀e ∈ l,ZAO e)(hE:Zw w X A l rs)(hk:key.length=m)(cM:m<=kc)(ht:ZAO ⟨pol,key,0,[]⟩)(hr:Rd w K (ZT .u8 key))(hf:Fz w X K): Calls prog 191 #[.slice A n c,.int .i64 pol,.slice K m kc] w (ZWw X (atK l (pol::key)) (ZAK l (pol::key)) (YV l pol key) w):=by
 obtain⟨W,hW⟩:=ZX3 (((w.alloc (.cells #[.int .i64 0,.slice none 0 0,.int .i64 0,.slice none 0 0] 62)).alloc (.cells #[.int .i64 pol,.slice K m kc,.int .i64 0,.slice none 0 0] 62)));have xW:ZM w W:=by rw[<-hW];exact(((ZM.refl w).alloc _).alloc _)
 have K0:=ZA (show W.heap[w.heap.size]?=some (.cells #[.int .i64 0,.slice none 0 0,.int .i64 0,.slice none 0 0] 62 (0,0)) by rw[<-hW];exact ZQ (ZV w _) _);have K1:=ZA (show W.heap[w.heap.size+1]?=some (.cells #[.int .i64 pol,.slice K m kc,.int .i64 0,.slice none 0 0] 62 (0,0)) by rw[<-hW];exact Zi _ _ ZXz);have BS:=ZA (ZTm W A n c m 0 l rs ⟨pol,key,0,[]⟩ ⟨K,kc,none,0⟩ hl hn hs aP (hE.1.ext xW) hk ht (hr.ext xW));obtain⟨k,Hk⟩:=ZX2 (pol::key);have qt:(⟨pol,key,0,[]⟩:ZL).id=k:=Hk.o;rw[qt]at BS;rw[Hk.o];obtain⟨at_,lY⟩:=ZX2 (atK l k);unfold ZWA at BS;rw[lY.o]at BS ⊢;obtain⟨HE,Hkey,Hr,Hf,XW⟩:=ZBR hE hk hr hf xW;have Hl:=ZA hl;have HW:=ZA hW;clear hW;cases hh:ZAK l k with
 |true=>
  exact ZYf
 |false=>
  obtain⟨T1,T2,T3,T4,T5⟩:=QA;exact ZYf
theorem Q9 {p:Prop}(h:p:=by
 obtain⟨hl,h⟩:=h;first|(obtain -:=V1;refine⟨by simp;omega,?_⟩)|(have jw:k*s<=n*s:=ZgI s hk;refine⟨by rw[ZfL];omega,?_⟩)
 rcases h with⟨h1,h2⟩|⟨g,cap,cO,h1,hb,hg,aI,eW,cF,ht⟩
 ·injection h1 with h1 h3 h4;left;exact⟨by rw[h1,h4,show k=0 by omega],by omega⟩
 ·injection h1 with h1 h3 h4;right;refine⟨g,cap,cO,by rw[h1,h4],hb,hg,by omega,eW,cF,?_⟩;first|(obtain -:=V2;rw[<-ht,Zfr];congr 1;omega)|rw[<-ht,Zfr,ZgE jw]):p:=h
theorem ZO9(h:w.ownsRow base e 1 (.slice A n c) n xs){k:Nat}(hk:k<=n):w.ownsRow base e 1 (.slice A k c) k (xs.take k):=by
 obtain⟨V1,V2⟩:=QA;exact Q9
theorem ZYK {p:Prop}(h:p:=by
 obtain⟨hl,h⟩:=h;rcases h with⟨h1,h2⟩|⟨g',cap,cO,h1,hb,hg,aI,eW,cF,ht⟩
 ·injection h1 with h1;cases h1
 ·injection h1 with h1 h3 h4;injection h1 with h1;injection h1 with h1;subst h1 h4;first
  |obtain -:=V1;have hn:n<cO.toList.length:=by simp[cF];omega
   refine⟨cO.toList[n],by simp;omega,.inr ⟨g,c,cO,rfl,hb,hg,by omega,eW,cF,?_⟩⟩;rw[ZgJ]at ht ⊢;rw[Zv (Ze4 hn),ht]
  |have hm:(n+1)*s<=c*s:=ZgI s ZB;rw[Zfz,ZgN]at hm;have bZ:cO.toList.length=c*s:=by simpa using cF
   refine⟨(cO.toList.drop (n*s)).take s,by rw[ZfL,ZfG];omega,?_,.inr ⟨g,c,cO,rfl,hb,hg,by omega,eW,cF,?_⟩⟩
   ·rw[ZfE,hl,ZfL,ZfG,Zfz,ZgN];omega
   ·rw[<-ht,Zfz,ZgN,List.take_add]):p:=h
theorem ZSm{g:Nat}(h:w.ownsRow base e 1 (.slice (some ⟨g,0,none⟩) n c) n xs)(hc:n<c):∃u,w.ownsRow base e 1 (.slice (some ⟨g,0,none⟩) (n+1) c) (n+1) (xs++[u]):=by
 obtain⟨V1,_⟩:=QA;exact ZYK
def Xg (xs:List Value):Nat->List Value->List Value
 |_,[]=>xs
 |k,y::ys=>Xg (xs.set k y) (k+1) ys
theorem Xy:∀(ys xs:List Value) (k:Nat),k+ys.length<=xs.length->Xg xs k ys=xs.take k++(ys++xs.drop (k+ys.length))
 |[],xs,k,_=>by simp[Xg]
 |y::ys,xs,k,h=>by
  rw[ZfF]at h;rw[Xg,Xy ys (xs.set k y) (k+1) (by simp;omega)];have h1:(xs.set k y).take (k+1)=xs.take k++[y]:=by
   rw[Zv (x:=y) (by rw[ZfA ZB]),List.take_set_of_le ZB]
  have h2:(xs.set k y).drop (k+1+ys.length)=xs.drop (k+(ys.length+1)):=by
   rw[List.drop_set_of_lt ZB]
   congr 1
   omega
  rw[h1,h2];simp
theorem ZC6{g:Nat}:∀(ys:List Value) (w:World) (xs:List Value) (k:Nat),w.ownsRow base e 1 (.slice (some ⟨g,0,none⟩) n c) n xs-> (w.setCells g k ys).ownsRow base e 1 (.slice (some ⟨g,0,none⟩) n c) n (Xg xs k ys)/\w.grownBy (w.setCells g k ys) (some g)
 |[],w,xs,k,h=>⟨h,ZgX w _⟩
 |y::ys,w,xs,k,h=>by
  obtain⟨h1,h2⟩:=h.stored k y;obtain⟨h3,h4⟩:=ZC6 ys _ _ (k+1) h1;exact⟨h3,World.grown_trans h2 h4⟩
theorem ZYM {p:Prop}(h:p:=by
 rcases h.2 with⟨h1,h2⟩|⟨g,cap,cO,h1,hb,hg,_⟩
 ·injection h1 with h1 h3 h4;omega
 ·injection h1 with h1;exact⟨g,h1,hb,(ZeT.1 hg).1⟩):p:=h
theorem ZFC(h:w.ownsRow base e 1 (.slice A n c) n xs)(hc:0<c):∃g,A=some ⟨g,0,none⟩/\base<=g/\g<w.heap.size:=ZYM
section
theorem ZFs{s:Nat}(h:w.ownsRow base e s (.slice A n c) n xs){k:Nat}(hk:k<=n):w.ownsRow base e s (.slice A k c) k (xs.take (k*s)):=Q9
theorem ZNY{s:Nat}{g:Nat}(h:w.ownsRow base e s (.slice (some ⟨g,0,none⟩) n c) n xs)(hc:n<c):∃us,us.length=s/\w.ownsRow base e s (.slice (some ⟨g,0,none⟩) (n+1) c) (n+1) (xs++us):=ZYK
theorem JI{s:Nat}{g:Nat}:∀(ys:List Value) (w:World) (xs:List Value) (k:Nat),w.ownsRow base e s (.slice (some ⟨g,0,none⟩) n c) n xs-> (w.setCells g k ys).ownsRow base e s (.slice (some ⟨g,0,none⟩) n c) n (Xg xs k ys)/\w.grownBy (w.setCells g k ys) (some g)
 |[],w,xs,k,h=>⟨h,ZgX w _⟩
 |y::ys,w,xs,k,h=>by
  obtain⟨h1,h2⟩:=h.stored k y;obtain⟨h3,h4⟩:=JI ys _ _ (k+1) h1;exact⟨h3,World.grown_trans h2 h4⟩
theorem JS{s:Nat}(h:w.ownsRow base e s (.slice A n c) n xs)(hc:0<c):∃g,A=some ⟨g,0,none⟩/\base<=g/\g<w.heap.size:=ZYM
variable {P:Program}
theorem ZAR (w:World)(dT sT ty elem s b o tH yr)(a:Addr)(rM vU m)(cs:List Value)(hu:P.underlying dT=some (.slice elem))(hs:(P.info? elem).map (·.size)=some s)(hm:m=Nat.min rM tH)(hn:cs.length=m*s)(dJ:∀j v,cs[j]?=some v->w.cell? (a.add j)=some v)(hc:∀j,j<cs.length->(w.cell? ⟨b,o+j,none⟩).isSome=true)(hf:∀j,j<cs.length->w.frozen? ⟨b,o+j,none⟩=false)(h1:∀v ∈ cs,v.oneCell'=true): (Builtin.copy_ #[dT,sT] ty #[.slice (some ⟨b,o,none⟩) tH yr,.slice (some a) rM vU]).run P w=.ok (goInt m) (w.setCells b o cs):=by
 have hl:=run_loadCells_list (P:=P) w a cs dJ;have aB:=run_storeCells_cells (P:=P) b o cs 0 w (by simpa using hc) (by simpa using hf) h1;cases hq:P.info? elem with
 |none=>simp[hq]at hs
 |some i=>
  have hi:i.size=s:=by simpa[hq]using hs
  subst hm;simp[Builtin.copy_,run_underlying hu,Builtin.lenOf,Builtin.firstCells,sizeOf,typeInfo,hq,hi,<-hn,hl,aB]
theorem ZCP (w:World)(t e ty)(z:Value)(zs:List Value)(ht:P.underlying t=some (.slice e))(hv:∀w,(zeroValue e).run P w=.ok z w)(b o n c)(hn:0<n)(hz:(Builtin.zeroCells z.cells n).toList=zs)(h1:∀v ∈ zs,v.oneCell'=true)(hc:∀j,j<zs.length->(w.cell? ⟨b,o+j,none⟩).isSome=true)(hf:∀j,j<zs.length->w.frozen? ⟨b,o+j,none⟩=false): (Builtin.clear_ #[t] ty #[.slice (some ⟨b,o,none⟩) n c]).run P w=.ok (.tuple #[]) (w.setCells b o zs):=by
 have aB:=run_storeCells_cells (P:=P) b o zs 0 w (by simpa using hc) (by simpa using hf) h1;simp only[Zf2]at aB;obtain⟨m,rfl⟩:∃m,n=m+1:=⟨n - 1,by omega⟩;simp[Builtin.clear_,run_underlying ht,hv,hz,aB]
def ZKT (s:Nat)(xs:List Value)(k:Nat)(news:List Value):List Value:=xs.take (k*s)++(news++xs.drop (k*s))
def ZRQ (s:Nat)(xs:List Value)(k:Nat):List Value:=xs.take (k*s)++xs.drop (k*s+s)
end
theorem ZFK:(prog.info? 2).map (λi=>(i.zero,i.size,i.bytes))=some (some (.int .i64 0),1,8):=by kernel_rfl
theorem ZLT:∀u:World,(sizeOf 2).run prog u=.ok 1 u:=λ_=>by kernel_rfl
theorem ZPS {aw:Array Oper}{Q:Exit->Act->World->Prop}(w:World)(bu:o.guard=none)(s x)(ho:o.op=.call {callee:=.builtin .append,args:=#[s,x],argTypes:=#[60,60]})(base){xs:List Int}(hs:a.eval s=.slice B n cb)(af:w.ownsRow base 2 1 (.slice B n cb) n (Zn xs)){m:Nat}{news:List Int}(hx:a.eval x=.slice A m c)(hl:news.length=m)(hr:Rd w A (Zn news))(hb:n+m<=17592186044416)(an:base<=w.heap.size)(h:∀B' au w',w'.ownsRow base 2 1 (.slice B' (n+m) au) (n+m) (Zn (xs++news))->w.grownBy w' (Value.slice B n cb).ownBlock-> ((Value.slice B' (n+m) au).ownBlock=(Value.slice B n cb).ownBlock\/(Value.slice B' (n+m) au).ownBlock=some w.heap.size)->wpList prog aw Q rest (a.put o.dst (.slice B' (n+m) au)) w'): wpList prog aw Q (o::rest) a w:=by
 obtain⟨i0,hi,bV,bY,aS⟩:=Zgm ZFK;refine Yj w bu s x 60 ho base 2 underlying60 hi bV bY aS rfl (by decide) hs af hx (by rw[Yq,hl,ZgJ]) hr (ZD6 _) (by unfold maxLen;omega) ZB an ?_;intro B' au w' h2 h3 h4;rw[<-ZFJ]at h2;exact h B' au w' h2 h3 h4
theorem ZW3 (w:World):(w.alloc (.cells #[] 2)).ownsRow w.heap.size 2 1 (.slice (some ⟨w.heap.size,0,none⟩) 0 0) 0 (Zn []):=X7 w [] 2 1 0 rfl (ZgR _) (Zf6 _)
section
theorem ZHP (w n):Calls prog 291 #[.int .i64 n] w (ZUD (.bool (decide (Ser n))) w):=by
 by_cases h1:1<=n
 ·by_cases h2:n<=4611686018427387903
  ·go_enter func291,ntmps291;go_wp2_with fail;go_ret;exact⟨ZB9 (Zgg (show Ser n from⟨h1,h2⟩)).symm,0,rfl⟩
  ·go_enter func291,ntmps291;go_wp2_with fail;go_ret;exact⟨ZB9 (Zgf (show ¬Ser n from λh=>by have:=h.2;omega)).symm,0,rfl⟩
 ·go_enter func291,ntmps291;go_wp2_with fail;go_ret;exact⟨ZB9 (Zgf (show ¬Ser n from λh=>by have:=h.1;omega)).symm,0,rfl⟩
open Classical in
noncomputable def ZMJ (p:Int)(xs:List Int):Int:=if ZEL p xs then 0 else 3
theorem ZD8{xs:List Int}(h:ZEL p xs):ZMJ p xs=0:=Zgl h
theorem ZH5{xs:List Int}(h:¬ZEL p xs):ZMJ p xs=3:=Zgk h
theorem ZH3{xs:List Int}{k:Nat}(hk:k<xs.length)(h:¬ZWR xs k):ZMJ p xs=3:=ZH5 λhf=>h (hf.2.2.2 k hk)
theorem ZF1 (w p A n c)(xs:List Int)(hl:xs.length=n)(FO:n<=17592186044416)(hr:Rd w A (Zn xs)): Calls prog 283 #[.agg #[.int .i64 p,.slice A n c]] w (Xj (.int .i64 (ZMJ p xs)) w):=by
 by_cases hp:p<1\/64<p\/p<n
 ·have e:ZMJ p xs=3:=ZH5 λhf=>by obtain⟨h1,h2,h3,_⟩:=hf;omega
  rw[e];by_cases h1:p<1
  ·clear hp;go_enter func283,ntmps283;go_wp2_with fail;go_ret;exact⟨rfl,(ZM.refl w).alloc _⟩
  ·have rn:¬p<1:=h1;by_cases h2:64<p
   ·clear hp;go_enter func283,ntmps283;go_wp2_with fail;go_ret;exact⟨rfl,(ZM.refl w).alloc _⟩
   ·have h3:p<(n:Int):=by omega
    clear hp;go_enter func283,ntmps283;go_wp2_with fail;go_ret;exact⟨rfl,(ZM.refl w).alloc _⟩
 ·have h1:¬p<1:=by omega
  have h2:¬64<p:=by omega
  have h3:¬p<(n:Int):=by omega
  have Hl:=ZA hl;have Hr:=ZA (hr.alloc (.cells #[.int .i64 p,.slice A n c] 369 (0,0)));clear hl hr hp;go_enter func283,ntmps283;go_wp2_with fail
  go_loopw [3,25] (λv i wr=>∃k q:Nat,k<=n/\i=.int .i64 k/\wr=(w.alloc (.cells #[.int .i64 p,.slice A n c] 369 (0,0))).drewN q/\(∀j,j<k->ZWR xs j)/\v=.int .i64 (if k=0 then 0 else xs.getD (k - 1) 0)) (λ_ i _=>n - (intOf i).toNat)
  case atStart=>exact⟨0,0,ZgR _,rfl,rfl,λj hj=>by omega,rfl⟩
  case round=>
   obtain⟨k,q,hk,rfl,rfl,aP,rfl⟩:=hrel;have lx:=ZA aP;clear aP;obtain⟨last,Hlast⟩:=ZX2 ((if k=0 then (0:Int) else xs.getD (k - 1) 0));rw[Hlast.o];by_cases ak:k<n
   ·obtain⟨b,off,hA,_,hc⟩:=(Hr.o.drewN q).atI (j:=k) (by rw[Hl.o];exact ak);obtain⟨x,Hx⟩:=ZX2 (xs.getD k 0);rw[Hx.o]at hc;subst hA;go_wp2_with fail;refine(ZHP _ x).mono ?_;rintro e w1 ⟨rfl,q2,rfl⟩;by_cases hs:Ser x
    ·rw[Zgg hs];by_cases df:x<=last
     ·go_wp2_with fail;go_ret;refine⟨ZBC (ZH3 (k:=k) (by rw[Hl.o];exact ak) λho=>?_).symm,((ZM.refl w).alloc _).drewN _⟩;obtain⟨o1,o2,o3⟩:=ho;have h6:=Hlast.o;rw[Hx.o]at o3;by_cases iO:k=0
      ·rw[Zgl iO]at h6;have:=hs.1;omega
      ·rw[Zgk iO]at h6;have:=o3 ZB;omega
     ·go_wp2_with fail
      go_roundw
      case rel=>
       refine⟨k+1,q+q2,by omega,by go_num,rfl,λj hj=>?_,?_⟩
       ·by_cases e1:j=k
        ·rw[e1];refine⟨by rw[Hx.o];exact hs.1,by rw[Hx.o];exact hs.2,λh0=>?_⟩;have h6:=Hlast.o;rw[Zgk ZB]at h6;rw[Hx.o];omega
        ·exact lx.o j ZB
       ·rw[Zgk ZB,Zf0,Hx.o]
      case measure=>simp[intOf];omega
    ·rw[Zgf hs];go_wp2_with fail;go_ret;exact⟨ZBC (ZH3 (k:=k) (by rw[Hl.o];exact ak) λho=>hs ⟨by rw[<-Hx.o];exact ho.1,by rw[<-Hx.o];exact ho.2.1⟩).symm,((ZM.refl w).alloc _).drewN _⟩
   ·go_wp2_with fail;go_ret;refine⟨ZBC (ZD8 ⟨by omega,by omega,by rw[Hl.o];omega,λj hj=>lx.o j (by rw[Hl.o]at hj;omega)⟩).symm,((ZM.refl w).alloc _).drewN _⟩
end
theorem ZS1 (w x t):Calls prog 293 #[.int .i64 x,.int .i64 t] w (Xj (.bool (decide (x<t))) w):=by
 by_cases h:x<t
 ·rw[Zgg h];go_enter func293,ntmps293;go_wp2;go_ret;exact⟨rfl,ZM.refl w⟩
 ·rw[Zgf h];go_enter func293,ntmps293;go_wp2;go_ret;exact⟨rfl,ZM.refl w⟩
theorem ZEc (w t A n c)(xs:List Int)(hl:xs.length=n)(hn:n<=17592186044416)(hr:Rd w A (Zn xs))(hg:ZCJ xs)(at_)(ha:At xs t at_): Calls prog 284 #[.slice A n c,.int .i64 t] w (Xj (.tuple #[.int .i64 at_,.bool (decide (t ∈ xs))]) w):=by
 obtain⟨Hl,Hr,Ha,Hg⟩:=ZAU hl hr ha hg;have Hm:=ZA (ZOl ha hg);clear hl hr ha hg;go_enter func284,ntmps284;go_wp2
 go_loopw [7,8] (λi j wr=>∃a b:Nat,a<=at_/\at_<=b/\b<=n/\i=.int .i64 a/\j=.int .i64 b/\ZM w wr) (λi j _=>(intOf j).toNat - (intOf i).toNat)
 case atStart=>exact⟨0,n,ZgR _,by have:=Ha.o.1;rw[Hl.o]at this;exact this,Zf6 _,rfl,rfl,ZM.refl w⟩
 case round=>
  obtain⟨a,b,h1,h2,h3,rfl,rfl,hx⟩:=hrel;by_cases ak:a<b
  ·obtain⟨h,Hh⟩:=ZX2 ((a+b) / 2);have EH:a<=h:=by have:=Hh.o;omega
   have EG:h<b:=by have:=Hh.o;omega
   have AT:h<n:=by omega
   have cW:IntKind.i64.wrap ((a:Int)+(b:Int))=(a:Int)+(b:Int):=by rw[Zee];omega
   have cV:IntKind.u64.wrap ((a:Int)+(b:Int))=(a:Int)+(b:Int):=by rw[Zef];omega
   obtain⟨bb,off,hA,_,hc⟩:=(Hr.o.ext hx).atI (j:=h) (by rw[Hl.o];omega);obtain⟨x,Hx⟩:=ZX2 (xs.getD h 0);rw[Hx.o]at hc;subst hA;have hq:((a:Int)+(b:Int)) / 2=(h:Int):=by have:=Hh.o;omega
   go_upto_region 5 with fail;clear hq cW cV;go_wp2_with fail;refine(ZS1 wr x t).mono ?_;rintro e w1 ⟨rfl,hy⟩;by_cases ig:x<t
   ·rw[Zgg ig];have qm:=ZA ig;clear ig;have E7:h<at_:=by
     refine Nat.lt_of_not_le λdf=>?_;have k1:=Ha.o.2.2 h df (by rw[Hl.o];exact AT);have k2:=Hx.o;have k3:=qm.o;omega
    go_wp2_with fail
    go_roundw
    case rel=>exact⟨h+1,b,by omega,by omega,by omega,by go_num,rfl,hx.trans hy⟩
    case measure=>simp[intOf];omega
   ·rw[Zgf ig];have qm:=ZA ig;clear ig;have E7:at_<=h:=by
     refine Nat.le_of_not_lt λdf=>?_;have k1:=Ha.o.2.1 h df;have k2:=Hx.o;have k3:=qm.o;omega
    go_wp2_with fail
    go_roundw
    case rel=>exact⟨a,h,by omega,by omega,by omega,rfl,rfl,hx.trans hy⟩
    case measure=>simp[intOf];omega
  ·obtain rfl:a=at_:=by omega
   by_cases jv:a<n
   ·obtain⟨bb,off,hA,_,hc⟩:=(Hr.o.ext hx).atI (j:=a) (by rw[Hl.o];omega);obtain⟨x,Hx⟩:=ZX2 (xs.getD a 0);rw[Hx.o]at hc;subst hA;by_cases ig:x=t
    ·have hb:(x==t)=true:=by simp[ig]
     have qm:=ZA ig;clear ig;go_wp2
     go_ret2
     exact⟨ZAn rfl (ZED (Zgg (Hm.o.2 ⟨by rw[Hl.o];exact jv,by rw[Hx.o,qm.o]⟩)).symm),hx⟩
    ·have hb:(x==t)=false:=by simp[ig]
     have qm:=ZA ig;clear ig;go_wp2
     go_ret2
     exact⟨ZAn rfl (ZED (Zgf λhm=>qm.o (by rw[<-Hx.o];exact(Hm.o.1 hm).2)).symm),hx⟩
   ·go_wp2
    go_ret2
    exact⟨ZAn rfl (ZED (Zgf λhm=>by have:=(Hm.o.1 hm).1;rw[Hl.o]at this;omega).symm),hx⟩
def ZXp (base:Nat)(xs:List Int)(w:World)(e:Ending)(w':World):Prop:=∃A c,e=.returned (.slice A xs.length c)/\w'.ownsRow base 2 1 (.slice A xs.length c) xs.length (Zn xs)/\ZM w w'
theorem ZW6 (w)(A:Option Addr)(n c n' c'):(binOp .eql 60 (.slice A n c) (.slice none n' c')).run prog w=.ok (.bool A.isNone) w:=Zeh w _ _ A n c n' c' underlying60
theorem ZEg (A n c)(xs:List Int)(w:World)(hl:xs.length=n)(hn:n<=17592186044416)(hr:Rd w A (Zn xs)): Calls prog 165 #[.slice A n c] w (ZXp w.heap.size xs w):=Q8
theorem Qc {p:Prop}(h:p:=by
 intro fuel;induction fuel with
 |zero=>
  first|(obtain -:=V1;intro listed a w _ hr _ _ hy hS H)|intro listed a w _ hr hy hT H
  refine⟨λh=>(by rw[h]at hr;cases hr),λj hj=>?_⟩;by_cases dg:j=i
  ·subst dg;first|(obtain -:=V2;exact hy.wpOp hi hS ⟨λ_=>hS,H⟩)|exact hy.wpOp hi trivial ⟨hT.set hK,H⟩
  ·have:=ready_mono hj dg;rw[H.1]at this;cases this
 |succ fuel ih=>
  first|(obtain -:=V3;intro listed a w gR hr hcl bZ hy hS H)|intro listed a w gR hr hy hT H
  refine⟨λh=>(by rw[h]at hr;cases hr),λj hj=>?_⟩;by_cases dg:j=i
  ·subst dg;first|(obtain -:=V4;exact hy.wpOp hi hS ⟨λ_=>hS,H⟩)|exact hy.wpOp hi trivial ⟨hT.set hK,H⟩
  ·have h1:=H.2 j (ready_mono hj dg);obtain⟨kR,oj,pI,aU⟩:=mem_ready.1 hj;have dF:=(mem_ready.1 hr).1;have gj:∀e ∈ oj.after,Region.binds md e=true->e.on≠i:=λe he hb xH=>ZEf dF (xH ▸ aU e he hb);have h2:=wpOp_putIf pI (gR j oj pI dg kR gj) (λcs b=>kH i oi cs b hi) (λcs b=>kH j oj cs b pI) hQ hy h1;have iR:∀k ok,aw[k]?=some ok->k≠i->(listed.setIfInBounds j true).getD k true=false->
     (∀e ∈ ok.after,Region.binds md e=true->e.on≠i)->oi.apart aw ok=true:=λk ok hk dy rZ cd=>by
    refine gR k ok hk dy ?_ cd;by_cases jQ:j=k
    ·subst jQ;exact kR
    ·rw[Zgh true jQ]at rZ;exact rZ
   first
   |obtain -:=V5;have td:=hcl.set hj;have sk:aw.size<=(listed.setIfInBounds j true).size:=by simpa using bZ
    have xA:(listed.setIfInBounds j true).getD i true=false:=by rw[Zgh true dg];exact dF
   |skip
   refine wpOp_mono (λa' w' h3=>?_) h2;have tw:YI S K (listed.setIfInBounds j true) w':=by
    have:=h3.2.1;rw[ZeY _ _ (λe=>dg e.symm)]at this;first|(obtain -:=V6;exact this.back EB)|exact this.back hK
   first|(obtain -:=V7;refine⟨tw,ih (listed.setIfInBounds j true) a' w' iR (ready_mono hr (Ne.symm dg)) td sk h3.1 (tw (ZLp td sk xA hw)) ?_⟩)|refine⟨tw,ih (listed.setIfInBounds j true) a' w' iR (ready_mono hr (Ne.symm dg)) h3.1 tw ?_⟩
   rw[ZeY _ _ dg];exact h3.2.2):p:=h
section
section
variable {P:Program} {aw:Array Oper} {Q:Exit->Act->World->Prop} {md:Region.Mode} {S:World->Prop} {K:List Nat}
def YI (S:World->Prop)(K:List Nat)(listed:Array Bool)(w:World):Prop:=(∀k ∈ K,listed.getD k true=false)->S w
def ZAZ (P:Program)(md:Region.Mode)(aw:Array Oper)(Q:Exit->Act->World->Prop)(S:World->Prop)(K:List Nat):Nat->Array Bool->Act->World->Prop
 |0,listed,a,w=>Region.ready md aw listed=[]/\Q .normal a w
 |fuel+1,listed,a,w=>(Region.ready md aw listed=[]->Q .normal a w)/\
  ∀i ∈ Region.ready md aw listed,wpOp P aw Q i (λa' w'=>YI S K (listed.setIfInBounds i true) w'/\ZAZ P md aw Q S K fuel (listed.setIfInBounds i true) a' w') a w
theorem ZG6:∀(fuel:Nat) (listed:Array Bool) (a:Act) (w:World),ZAZ P md aw Q S K fuel listed a w->wpAny P md aw Q fuel listed a w
 |0,_,_,_,h=>h
 |fuel+1,_,_,_,h=>⟨h.1,λi hi=>wpOp_mono (λa' w' h'=>ZG6 fuel _ a' w' h'.2) (h.2 i hi)⟩
def ZKc (md:Region.Mode)(aw:Array Oper)(listed:Array Bool):Bool:=(List.range aw.size).all λj=>!listed.getD j false||match aw[j]? with
  |some o=>o.after.all λe=>!Region.binds md e||listed.getD e.on false
  |none=>true
def ZEu (md:Region.Mode)(aw:Array Oper)(listed:Array Bool):Prop:=∀j o,aw[j]?=some o->listed.getD j false=true->∀e ∈ o.after,Region.binds md e=true->listed.getD e.on false=true
theorem ZRW {listed:Array Bool}(h:ZKc md aw listed=true):ZEu md aw listed:=λj o ho hl e he hb=>by
 unfold ZKc at h;rw[List.all_eq_true]at h;have h1:=h j (ZfZ.2 (ZeT.1 ho).1);simp only[hl,ho,Bool.not_true,Bool.false_or]at h1;have h2:=Array.all_eq_true_iff_forall_mem.1 h1 e he;simpa[hb]using h2
theorem ZEu.set {listed:Array Bool}{j:Nat}(h:ZEu md aw listed)(hj:j ∈ Region.ready md aw listed):ZEu md aw (listed.setIfInBounds j true):=λi o ho hl e he hb=>by
 by_cases nL:i=j
 ·subst nL;obtain⟨_,o',qV,aU⟩:=mem_ready.1 hj;rw[ho]at qV;injection qV with qV;subst qV;exact getD_set_true (aU e he hb)
 ·rw[Zgh false (λe=>nL e.symm)]at hl;exact getD_set_true (h i o ho hl e he hb)
def ZDx (md:Region.Mode)(aw:Array Oper)(i:Nat):Nat->Nat->Bool
 |0,_=>false
 |n+1,k=>match aw[k]? with
  |some o=>o.after.toList.any λe=>Region.binds md e&&(e.on==i||ZDx md aw i n e.on)
  |none=>false
theorem ZHA {listed:Array Bool}(hc:ZEu md aw listed):∀(n k:Nat),ZDx md aw i n k=true->(∀o,aw[k]?=some o->∀e ∈ o.after,Region.binds md e=true->listed.getD e.on false=true)->listed.getD i false=true
 |0,_,h,_=>by cases h
 |n+1,k,h,hk=>by
  unfold ZDx at h;cases ho:aw[k]? with
  |none=>rw[ho]at h;cases h
  |some o=>
   rw[ho]at h;obtain⟨e,nN,h1⟩:=List.any_eq_true.1 h;have he:e ∈ o.after:=by simpa using nN
   rw[Bool.and_eq_true,Bool.or_eq_true]at h1;obtain⟨hb,h2⟩:=h1;have hl:=hk o ho e he hb;rcases h2 with h2|h2
   ·rw[<-Zgp h2];exact hl
   ·exact ZHA hc n e.on h2 λo' qV=>hc e.on o' qV hl
theorem YI.set {listed:Array Bool}(h:YI S K listed w)(hi:i ∉ K):YI S K (listed.setIfInBounds i true) w:=λhk=>h λk jd=>by
 have:=hk k jd
 rwa [Zgh true (show i≠k from λe=>hi (e ▸ jd))]at this
theorem YI.back {listed:Array Bool}(h:YI S K (listed.setIfInBounds i true) w)(hi:i ∉ K):YI S K listed w:=λhk=>h λk jd=>by
 rw[Zgh true (show i≠k from λe=>hi (e ▸ jd))];exact hk k jd
theorem ZEf {listed:Array Bool}(dF:listed.getD i true=false):¬listed.getD i false=true:=λe=>by
 rcases ZgC i listed.size with h'|h'
 ·simp[h']at dF e;rw[dF]at e;cases e
 ·simp[Array.getElem?_eq_none h']at e
theorem ZQL {listed:Array Bool}(h:¬listed.getD i true=true):listed.getD i true=false:=by
 cases e:listed.getD i true with
 |false=>rfl
 |true=>exact absurd e h
theorem ZLp {listed:Array Bool}(hc:ZEu md aw listed)(hs:aw.size<=listed.size)(dF:listed.getD i true=false)(hw:∀k ∈ K,ZDx md aw i n k=true):∀k ∈ K,listed.getD k true=false:=λk hk=>ZQL λe=>by
 have mf:=hw k hk;refine ZEf dF (ZHA hc n k mf λo ho=>hc k o ho ?_);have ak:k<aw.size:=(ZeT.1 ho).1;have:k<listed.size:=by omega
 simp[this]at e ⊢;exact e
theorem ZJt(hi:aw[i]?=some oi)(kH:∀(j:Nat) (o:Oper) cs b,aw[j]?=some o->o.op≠.select cs b)(hQ:∀c a w,Q (.panic c) (a.put oi.dst v) w->Q (.panic c) a w)(hw:∀k ∈ K,ZDx md aw i n k=true)(EB:i ∉ K): ∀(fuel:Nat) (listed:Array Bool) (a:Act) (w:World),(∀j oj,aw[j]?=some oj->j≠i->listed.getD j true=false->(∀e ∈ oj.after,Region.binds md e=true->e.on≠i)->oi.apart aw oj=true)-> i ∈ Region.ready md aw listed->ZEu md aw listed->aw.size<=listed.size->YieldsIf P aw S oi v a->S w-> ZAZ P md aw Q S K fuel (listed.setIfInBounds i true) (a.put oi.dst v) w->ZAZ P md aw Q S K (fuel+1) listed a w:=by
 obtain⟨V1,V2,V3,V4,V5,V6,V7⟩:=QA;exact Qc
theorem ZVq (n){listed:Array Bool}(hi:aw[i]?=some oi)(hs:Region.noSelect aw=true)(hf:Region.free md aw listed i=true)(hr:(Region.ready md aw listed).contains i=true)(hc:(ZKc md aw listed&&decide (aw.size<=listed.size))=true)(hk:((K.all λk=>ZDx md aw i n k)&&!K.contains i)=true)(hQ:∀c a w,Q (.panic c) (a.put oi.dst v) w->Q (.panic c) a w)(hy:YieldsIf P aw S oi v a)(hS:S w)(h:ZAZ P md aw Q S K fuel (listed.setIfInBounds i true) (a.put oi.dst v) w):ZAZ P md aw Q S K (fuel+1) listed a w:=by
 rw[Bool.and_eq_true]at hc hk;exact ZJt hi (Region.noSelect_spec hs) hQ (λk nK=>List.all_eq_true.1 hk.1 k nK) (by simpa using hk.2) fuel listed a w (Region.free_spec hi hf) (by simpa using hr) (ZRW hc.1) (Zgp hc.2) hy hS h
theorem ZJs(hi:aw[i]?=some oi)(kH:∀(j:Nat) (o:Oper) cs b,aw[j]?=some o->o.op≠.select cs b)(hQ:∀c a w,Q (.panic c) (a.put oi.dst v) w->Q (.panic c) a w)(hK:i ∉ K): ∀(fuel:Nat) (listed:Array Bool) (a:Act) (w:World),(∀j oj,aw[j]?=some oj->j≠i->listed.getD j true=false->(∀e ∈ oj.after,Region.binds md e=true->e.on≠i)->oi.apart aw oj=true)-> i ∈ Region.ready md aw listed->YieldsIf P aw (λ_=>True) oi v a->YI S K listed w-> ZAZ P md aw Q S K fuel (listed.setIfInBounds i true) (a.put oi.dst v) w->ZAZ P md aw Q S K (fuel+1) listed a w:=Qc
theorem ZVr{listed:Array Bool}(hi:aw[i]?=some oi)(hs:Region.noSelect aw=true)(hf:Region.free md aw listed i=true)(hr:(Region.ready md aw listed).contains i=true)(hK:(!K.contains i)=true)(hQ:∀c a w,Q (.panic c) (a.put oi.dst v) w->Q (.panic c) a w)(hy:YieldsIf P aw (λ_=>True) oi v a)(hT:YI S K listed w)(h:ZAZ P md aw Q S K fuel (listed.setIfInBounds i true) (a.put oi.dst v) w):ZAZ P md aw Q S K (fuel+1) listed a w:=ZJs hi (Region.noSelect_spec hs) hQ (by simpa using hK) fuel listed a w (Region.free_spec hi hf) (by simpa using hr) hy hT h
theorem YI.of {listed:Array Bool}(h:S w):YI S K listed w:=λ_=>h
theorem YI.past {listed:Array Bool}(h:(K.any λk=>listed.getD k true)=true):YI S K listed w:=λhk=>by
 obtain⟨k,h1,h2⟩:=List.any_eq_true.1 h;rw[hk k h1]at h2;cases h2
theorem JL {listed:Array Bool}(hr:Region.ready md aw listed=[])(h:Q .normal a w):∀fuel,ZAZ P md aw Q S K fuel listed a w
 |0=>⟨hr,h⟩
 |_+1=>⟨λ_=>h,by rw[hr];simp⟩
def ZN (P:Program)(md:Region.Mode)(aw:Array Oper)(Q:Exit->Act->World->Prop)(S:World->Prop)(K:List Nat)(fuel:Nat)(listed:Array Bool)(a:Act)(w:World)(rs:List Nat):Prop:=∀i ∈ rs,wpOp P aw Q i (λa' w'=>YI S K (listed.setIfInBounds i true) w'/\ZAZ P md aw Q S K fuel (listed.setIfInBounds i true) a' w') a w
theorem ZN.nil{listed:Array Bool}:ZN P md aw Q S K fuel listed a w []:=λ_ h=>by cases h
theorem ZN.cons{listed:Array Bool}(ho:aw[i]?=some o)(h:∀K':Act->World->Prop,Shut (∀a w,S w->ZAZ P md aw Q S K fuel (listed.setIfInBounds i true) a w->K' a w)->if Region.wanted o (yielded aw a.tmps)=true then Oper.wp P o a w K' Q else K' (a.put o.dst undef) w)(hs:ZN P md aw Q S K fuel listed a w rs):ZN P md aw Q S K fuel listed a w (i::rs):=λj hj=>by
 rcases ZfO.1 hj with rfl|hj
 ·exact wpOp_step ho (λK' hK=>h K' (λa w hS hW=>hK a w ⟨.of hS,hW⟩))
 ·exact hs j hj
theorem ZN.last{listed:Array Bool}(hi:(K.any λk=>(listed.setIfInBounds i true).getD k true)=true)(ho:aw[i]?=some o)(h:∀K':Act->World->Prop,Shut (∀a w,ZAZ P md aw Q S K fuel (listed.setIfInBounds i true) a w->K' a w)->if Region.wanted o (yielded aw a.tmps)=true then Oper.wp P o a w K' Q else K' (a.put o.dst undef) w)(hs:ZN P md aw Q S K fuel listed a w rs):ZN P md aw Q S K fuel listed a w (i::rs):=λj hj=>by
 rcases ZfO.1 hj with rfl|hj
 ·exact wpOp_step ho (λK' hK=>h K' (λa w hW=>hK a w ⟨.past hi,hW⟩))
 ·exact hs j hj
theorem ZY{listed:Array Bool}(hr:Region.ready md aw listed=rs)(ag:rs≠[])(h:ZN P md aw Q S K fuel listed a w rs):ZAZ P md aw Q S K (fuel+1) listed a w:=⟨λh0=>absurd (hr ▸ h0) ag,hr ▸ h⟩
theorem JK {id:Nat}{a:Act}{w:World}(S:World->Prop)(K:List Nat)(hm:P.follows .mixedOrders=true)(h:ZAZ P .any aw Q S K aw.size (Array.replicate aw.size false) a w.drew):(Code.region id aw true).wp P Q a w:=wp_region_any hm (ZG6 _ _ _ _ h)
end
end
theorem ZX4 {P : Program} {aw : Array Oper} {Q : Exit → Act → World → Prop} {md : Region.Mode} {S : World → Prop} {K : List Nat} {listed : Array Bool} (hi : aw[i]? = some oi) (hy : YieldsIf P aw (fun _ => True) oi v a) (hT : YI S K listed w) (h : ZAZ P md aw Q S K fuel (listed.setIfInBounds i true) (a.put oi.dst v) w) (hs : Region.noSelect aw = true := by kernel_rfl) (hf : Region.free md aw listed i = true := by kernel_rfl) (hr : (Region.ready md aw listed).contains i = true := by kernel_rfl) (hK : (!K.contains i) = true := by kernel_rfl) (hQ : ∀ c a w, Q (.panic c) (a.put oi.dst v) w → Q (.panic c) a w := by exact fun _ _ _ h => h) : ZAZ P md aw Q S K (fuel + 1) listed a w := ZVr hi hs hf hr hK hQ hy hT h
theorem ZX5 {P : Program} {aw : Array Oper} {Q : Exit → Act → World → Prop} {md : Region.Mode} {S : World → Prop} {K : List Nat} {listed : Array Bool} (hi : aw[i]? = some oi) (hy : YieldsIf P aw S oi v a) (hS : S w) (h : ZAZ P md aw Q S K fuel (listed.setIfInBounds i true) (a.put oi.dst v) w) (hs : Region.noSelect aw = true := by kernel_rfl) (hf : Region.free md aw listed i = true := by kernel_rfl) (hr : (Region.ready md aw listed).contains i = true := by kernel_rfl) (hc : (ZKc md aw listed && decide (aw.size ≤ listed.size)) = true := by kernel_rfl) (hk : ((K.all fun k => ZDx md aw i 20 k) && !K.contains i) = true := by kernel_rfl) (hQ : ∀ c a w, Q (.panic c) (a.put oi.dst v) w → Q (.panic c) a w := by exact fun _ _ _ h => h) : ZAZ P md aw Q S K (fuel + 1) listed a w := ZVq 20 hi hs hf hr hc hk hQ hy hS h
theorem QU {p:Prop}(h:p:=by
 first|(obtain -:=V1;obtain⟨p0,aj,k0⟩:=hk)|(obtain -:=V2;have bU:=Jt;obtain⟨p0,p1,p2,p3,p4,p5,sv,tv,aj,k0,k1,k2,k3,k4,k5,k6⟩:=hk)|(have bU:=Jt;obtain⟨p0,p1,p2,p3,p4,p5,sv,tv,aj,k0,k1,k2,k3,k4,k5,q0,q1,pv,lM,htv,-,-,-⟩:=hk;subst lM)
 injection aj with aj h1 h2;injection aj with aj;subst aj h2;obtain⟨b0,rfl,l0⟩:=k0.ptr;first|(obtain -:=V3)|(obtain⟨b1,rfl,l1⟩:=k1.ptr;obtain⟨b2,rfl,l2⟩:=k2.ptr;obtain⟨b3,rfl,l3⟩:=k3.ptr;obtain⟨b4,rfl,l4⟩:=k4.ptr;obtain⟨b5,rfl,l5⟩:=k5.ptr)
 obtain⟨W,hW,xW,K0⟩:=Za w ZYE;have hA:=h.xg xW (Zf6 _) (ZX K0.o);first|(obtain -:=V4;have LD:=ZA (ZFc W g (XG O w.heap.size) C xb L s who 0 u x res ser _ hA hc ZB hw ZB hu))|(obtain -:=V5;have LD:=ZA (ZFc W g (XG O w.heap.size) C xb L s who word u x res ser _ hA hc ZB hw cJ hu))|have LD:=ZA (ZFc W g (XG O w.heap.size) C xb L s who 32 u x res ser _ hA hc ZB hw ZB hu)
 have e0:=(k0.ext xW).ZX6 0 (ZH (xb who));first|(obtain -:=V6)|(obtain -:=V7;have e1:=(k1.ext xW).ZX6 0 (.int .i64 word))|have e1:=(k1.ext xW).ZX6 0 (.int .i64 32)
 have aM:=ZA h.lt;first|(obtain -:=V8;obtain⟨aQ,HC,Md⟩:=Z8 k0 hc DJ)|(obtain -:=V9;obtain⟨aQ,aO,bj,bX,cQ,HK5⟩:=Ju k0 k1 k2 k3 k4 k5;have ia:=ZA k6)|(have bj:=ZA k2;have bX:=ZA k3)
 have XW:=ZA xW;have HW:=ZA hW;first
 |obtain -:=V10;have bp:=ZA (show(L++[(⟨who,1,0,u,0,true⟩:Zg)]).length<=L.length+1 by simp);obtain⟨m,Hm⟩:=ZX2 ((u+1) / 2);have GD:=ZA (show m<=4 by have:=Hm.o;omega);rw[Hm.o];clear h hc hu k0 hA xW hW l0 hL;go_enter func131,ntmps131
 |obtain -:=V11;have bp:=ZA (show(L++[(⟨who,1,word,u,0,true⟩:Zg)]).length<=L.length+1 by simp);have hb:((u:Int)==(stop:Int))=false:=by rw[Zgb];omega
  clear h hc hu k0 k1 k2 k3 k4 k5 k6 hA xW hW ag l0 l1 l2 l3 l4 l5 hL cJ;go_enter func277,ntmps277
 |have bp:=ZA (show(L++[(⟨who,1,32,u,0,true⟩:Zg)]).length<=L.length+1 by simp);have hb:((u:Int)==(stop:Int))=true:=by rw[Zgc];omega
  clear h hc hu k0 k1 k2 k3 k4 k5 hA xW hW ag l0 l1 l2 l3 l4 l5 hL;go_enter func277,ntmps277
 go_upto_region 1 with fail;(try rw[HW.o]);clear HW;go_wp2_with fail;refine LD.o.mono ?_;rintro e w2 ⟨rfl,hg⟩;obtain⟨C',hm⟩:=hg.mov;have HM:=ZA hm;have ab:=hm.kpg XW.o (Zf6 w.heap.size);first|(obtain -:=V12;have J0:=ZA (aQ.o.kp ab))|(obtain -:=V13;have J0:=ZA (aQ.o.kp ab);have J1:=ZA (aO.o.kp ab);have J2:=ZA (bj.o.kp ab);have J3:=ZA (bX.o.kp ab);have J4:=ZA (cQ.o.kp ab);have J5:=ZA (HK5.o.kp ab);have J6:=ZA (ia.o.kp ab))|(have J2:=ZA (bj.o.kp ab);have J3:=ZA (bX.o.kp ab))
 have KR:=ZA (hm.2.1.blk K0.o (λe=>Zf9 _ (aM.o _ e)));first
 |obtain -:=V14;have f0:=J0.o.ZX6 0 (ZH (xb who));obtain⟨P,HP⟩:∃P:Nat,ZD (2 ^ m=P):=⟨_,rfl⟩;have EV:=ZA (show Calls prog 134 #[ZH (xb who),.int .i64 0,.int .i64 P,.int .i64 0] w2 (ClR (λw' v=>Zk w' (XO C' (XG O w.heap.size)) (Zo g who (xb who) x) v (.find 0 (.evict 0 P 0))) w2)from ZMZ w2 (XO C' (XG O w.heap.size)) g who (xb who) 0 P 0 x res ser hm.1.newer (hm.1.xat hw HC.o).1 hm.1.rd ZB);have hq:((u:Int)+1) / 2=(m:Int):=by have:=Hm.o;omega
  have hp:wrap64 (2 ^ m)=(P:Int):=by rw[<-HP.o];exact ZDU GD.o
  clear hm ab hg e0
 |obtain -:=V15;have HX:=ZA hm.1.newer;have f2:=J2.o.ZX6 0 (.int .u64 stop);obtain⟨V,hV,xV,-⟩:=Za w2 (.cells #[.int .u64 u] 52);have FC:V.cell? ⟨b2,0,none⟩=some (.int .u64 stop):=ZF xV f2;have f8:V.cell? ⟨w2.heap.size,0,none⟩=some (.int .u64 u):=by rw[<-hV];exact ZE (ZV w2 _) 0
  have r8:Zh V (XO C' (XG O w.heap.size)) (ZH w2.heap.size) #[.int .u64 u]:=by rw[<-hV];exact Zh.new rfl (HX.o.not (Zf6 _))
  have KT:=ZA (show Zk V (XO C' (XG O w.heap.size)) (Zo g who (xb who) x) (YD 278 #[ZH b0,ZH b1,ZH w2.heap.size,ZH b4,ZH b2,ZH b3,ZH b5]) (.mvS word by_ stop u t)from⟨_,_,_,_,_,_,_,sv,tv,rfl,J0.o.ext xV,J1.o.ext xV,r8,J4.o.ext xV,J2.o.ext xV,J3.o.ext xV,J5.o.ext xV,J6.o.ext xV⟩);have ON:=ZA (ZAI KT.o);have fL:=ZA (ZK KR.o xV);have XV:=ZA xV;have HV:=ZA hV;clear hm ab hg e0 e1 r8 xV hV
 |have HX:=ZA hm.1.newer;obtain⟨V,hV,xV,-⟩:=Za w2 (.cells #[.int .u64 u] 52);have FC:V.cell? ⟨b2,0,none⟩=some (.int .u64 stop):=ZF xV (J2.o.cell 0);have LM:V.cell? ⟨b3,0,none⟩=some (YD 257 #[]):=ZF xV (J3.o.cell 0);have f8:V.cell? ⟨w2.heap.size,0,none⟩=some (.int .u64 u):=by rw[<-hV];exact ZE (ZV w2 _) 0
  have PT:=ZA (ZRT V (XO C' (XG O w.heap.size)) (Zo g who (xb who) x) (HX.o.ext xV));have fL:=ZA (ZK KR.o xV);have XV:=ZA xV;have HV:=ZA hV;clear hm ab hg e0 e1 xV hV
 go_upto_region 2 with fail;first|(obtain -:=V16;go_wp2_with fail;refine EV.o.mono ?_;rintro e w3 ⟨v,rfl,hk,hx⟩;obtain⟨fk,ck,rfl⟩:=hk.fn;have ON:=ZA (ZAI hk);have XV:=ZA hx;have fL:=ZA (ZK KR.o hx);clear hk hx EV f0)|((try rw[HV.o]);clear HV)
 go_wp2_with fail;first|(obtain -:=V17;refine PT.out.mono ?_)|refine ON.o.mono ?_
 first|(obtain -:=V18;rintro e w4 ⟨nv,done,r',rfl,ho,hx⟩)|rintro e w3 ⟨nv,done,r',rfl,ho,hx⟩
 have HO:=ZA ho;have aV:=ZA hx;have K3:=ZA (ZK fL.o hx);obtain⟨r0,z0,r1,z1,r2,z2,r3,z3,r4,z4,r5,z5,r6,z6⟩:=ZYD K3.o;first|(obtain -:=V19;clear ho hx ON)|clear ho hx
 go_wp2_with fail;first|(obtain -:=V20;refine Zgd (ZP (p:=2) (u:=1) rfl _ _ (w.heap.size) _ #[.bool done,.int .i64 (r'.er:Int),.bool r'.granted,.int .i64 r'.left,.int .i64 r'.wait,.int .i64 r'.ser,.int .i64 r'.now] (0,0) _ rfl (Yv K3.o _ _ _ _ _ _ _) underlying41 ZX0 ZC) rfl ?_;rw[HP.o])|refine Zgd (ZP (p:=7) (u:=6) rfl _ _ (w.heap.size) _ #[.bool done,.int .i64 (r'.er:Int),.bool r'.granted,.int .i64 r'.left,.int .i64 r'.wait,.int .i64 r'.ser,.int .i64 r'.now] (0,0) _ rfl (Yv K3.o _ _ _ _ _ _ _) underlying41 ZX0 ZC) rfl ?_
 exact Yl bp.o XW.o (Zf6 _) (HM.o.ext (XV.o.trans aV.o)) HO.o _ _ _ _ _ _ _):p:=h
theorem ZXk (w g O C xb)(L:List Zg)(s:Z9)(who u word by_ stop x res ser t f)(aa:Array Value)(h:YQ w g O C xb L s)(hc:s.call who=.run x res ser (.mv word by_ stop t))(hL:L.length<=100000)(hw:who<64)(cJ:word<34)(hu:s.ws.getD word 0=u)(ag:u≠stop)(hk:Zk w (XO C O) (Zo g who (xb who) x) (YD f aa) (.mv word by_ stop t)): Calls prog f aa w (SK w g O C xb who (L.length+1) x s (.on (.mvS word by_ stop u t))):=by
 obtain⟨V2,V5,V7,V9,V11,V13,V15⟩:=QA;exact QU
theorem ZDg{p:Value}(h:YC w X p v):∃b,p=.pointer (some ⟨b,0,none⟩):=by
 obtain⟨b,h,_⟩:=h.ptr;exact⟨b,h⟩
theorem ZD5 (w)(g:Zz)(O C xb L)(s:Z9)(i u n)(h:YQ w g O C xb L s)(hi:i<34)(hu:s.ws.getD i 0=u)(hn:(s.hs.getD i []).length=n): ∃A c rs,Zw w (XO C O) A (s.hs.getD i []) rs/\∀v,ZM w v->Calls prog 164 #[ZH g.gb,.int .i64 i] v λe w'=>e=.returned (.tuple #[.int .u64 u,.slice A n c])/\ZM v w':=by
 obtain⟨Fm,hm,dm,b0,b1,hh,-⟩:=h.swap;obtain⟨A,c,rs,g0,hE⟩:=hh i hi;have hx:s.ws[i]?=some u:=by rw[<-hu];exact ZB6 (by rw[dm];exact hi)
 refine⟨A,c,rs,hE,λv y=>?_⟩;have LD:=ZA (ZUM v Fm g.gm s.ws (s.clk:Int) L i u (hm.ext y) hx);have nM:(0:Int)<=(i:Int)/\(i:Int)<((34:Nat):Int):=⟨by omega,by omega⟩;have ED:(0:Int)<=(i:Int)/\(i:Int)<34:=⟨by omega,by omega⟩;rw[hn]at g0;have d0:=ZF y b0;have d1:=ZF y b1;have d2:=ZF y g0;clear h hm hE hh hx dm hu hn g0 b0 b1 y;go_enter func164,ntmps164;go_wp2_with fail;refine LD.o.mono ?_;rintro e w1 ⟨rfl,rfl⟩;go_wp2_with fail;go_region;go_wp2_with fail
 go_ret2
 exact⟨ZAn rfl rfl,(ZM.refl v).drew⟩
theorem ZHt (w)(g:Zz)(O C xb L)(s:Z9)(u)(h:YQ w g O C xb L s)(hu:s.ws.getD 0 0=u)(K8:u<=9): Calls prog 163 #[ZH g.gl] w λe w'=>e=.returned (.tuple #[.int .i64 ((u / 2:Nat):Int),.bool (decide (u % 2=1))])/\ZM w w':=by
 obtain⟨A,c,rs,-,dE⟩:=ZD5 w g O C xb L s 0 u _ h ZB hu rfl;have LK:=ZA (dE w (ZM.refl w));have d0:=h.rd.l0;clear h hu dE;have:u=0\/u=1\/u=2\/u=3\/u=4\/u=5\/u=6\/u=7\/u=8\/u=9:=by omega
 rcases this with rfl|rfl|rfl|rfl|rfl|rfl|rfl|rfl|rfl|rfl
 all_goals
  go_enter func163,ntmps163;go_wp2_with fail;refine LK.o.mono ?_;rintro e w1 ⟨rfl,hx⟩;have HX:=ZA hx;clear hx;go_wp2_with fail
  go_ret2
  exact⟨ZAn rfl rfl,HX.o⟩
def ZBL (w:World)(X:Zhf)(hv:List Value)(ll:List (List ZL)):Prop:=hv.length=ll.length/\∀(i:Nat) (l:List ZL),ll[i]?=some l->∃A c rs,hv[i]?=some (.slice A l.length c)/\Zw w X A l rs
theorem ZBL.ext{ll:List (List ZL)}(h:ZBL w X hv ll)(x:ZM w w'):ZBL w' X hv ll:=⟨h.1,λi l hl=>by obtain⟨A,c,rs,h1,h2⟩:=h.2 i l hl;exact⟨A,c,rs,h1,h2.ext x⟩⟩
theorem ZBL.nil (w X):ZBL w X [] []:=⟨rfl,λi l h=>by simp at h⟩
theorem ZBL.snoc{ll:List (List ZL)}{l:List ZL}{rs:List Z7}(h:ZBL w X hv ll)(hc:Zw w X A l rs):ZBL w X (hv++[.slice A l.length c]) (ll++[l]):=by
 refine⟨by rw[ZfE,ZfE,h.1];rfl,λi l' hl=>?_⟩;rcases ZgC i ll.length with hi|hi
 ·rw[Ze0 hi]at hl;rw[Ze0 (by rw[h.1];exact hi)];exact h.2 i l' hl
 ·rw[Ze1 hi]at hl;rw[Ze1 (by rw[h.1];exact hi),h.1];have h0:i - ll.length=0:=by
   rcases Zf4 (i - ll.length)with e|e
   ·exact e
   ·rw[List.getElem?_eq_none (by simp only[ZfF,ZfJ];omega)]at hl;cases hl
  rw[h0]at hl ⊢;injection hl with hl;subst hl;exact⟨A,c,rs,rfl,hc⟩
theorem ZVd:(prog.info? 56).map (λi=>(i.zero,i.size,i.bytes))=some (some (.slice none 0 0),1,24):=by kernel_rfl
theorem ZKn {aw:Array Oper}{Q:Exit->Act->World->Prop}(w:World)(bu:o.guard=none)(s x)(ho:o.op=.call {callee:=.builtin .append,args:=#[s,x],argTypes:=#[209,209]})(base)(hs:a.eval s=.slice B n cb)(af:w.ownsRow base 56 1 (.slice B n cb) n xs){u:Value}(hx:a.eval x=.slice A 1 c)(hr:Rd w A [u])(hu:u.oneCell'=true)(hb:n<=100000)(an:base<=w.heap.size)(h:∀B' au w',w'.ownsRow base 56 1 (.slice B' (n+1) au) (n+1) (xs++[u])->w.grownBy w' (Value.slice B n cb).ownBlock-> ((Value.slice B' (n+1) au).ownBlock=(Value.slice B n cb).ownBlock\/(Value.slice B' (n+1) au).ownBlock=some w.heap.size)->wpList prog aw Q rest (a.put o.dst (.slice B' (n+1) au)) w'): wpList prog aw Q (o::rest) a w:=by
 obtain⟨i0,hi,bV,bY,aS⟩:=Zgm ZVd;exact Yj w bu s x 209 ho base 56 underlying209 hi bV bY aS rfl (by decide) hs af hx (m:=1) (news:=[u]) rfl hr (by intro v hv;simp at hv;rw[hv];exact hu) (by unfold maxLen;omega) ZB an h
def ZOn (s:Z9)(lv k:Nat):List (List ZL):=(List.range k).map λi=>s.hs.getD (ZO lv i) []
theorem ZYd {p:Prop}(h:p:=by
 first
 |obtain -:=T1;obtain⟨k,m,B,cb,hv,hk,rfl,rfl,hm,ho,ha,hx⟩:=hrel;obtain⟨HO,HA,HX,HM⟩:=ZAU ho ha hx hm;have xe:m<=16:=by have:=ZT5 s lv k;omega
  clear ho ha hx hm
 |obtain⟨k,B,cb,hv,hk,rfl,rfl,ho,ha,hx⟩:=hrel;obtain⟨HO,HA,HX⟩:=Z8 ho ha hx;clear ho ha hx
 by_cases ak:k<N
 ·have dy:(k:Int)<(N:Int):=by omega
  have mA:IntKind.u64.wrap (k:Int)=(k:Int):=by rw[Zef];omega
  have gp:IntKind.i64.wrap ((k:Int)+1)=((k+1:Nat):Int):=by rw[Zee];omega
  have PL:=ZA (λw=>ZAu lv k w ZB ZB);have hp:=ZCj lv k ZB;obtain⟨pl,Hp⟩:=ZX2 (ZO lv k);rw[Hp.o]at PL hp;obtain⟨A,c,rs,bo,dE⟩:=ZD5 w g O C xb L s pl _ _ H.o ZB rfl rfl;obtain⟨u,Hu⟩:=ZX2 (s.ws.getD pl 0);first|(obtain -:=T2;obtain⟨n,Hn⟩:=ZX2 ((s.hs.getD pl []).length);rw[Hu.o,Hn.o]at dE)|(obtain⟨m,Hm⟩:=ZX2 ((s.hs.getD pl []).length);rw[Hu.o,Hm.o]at dE)
  have LK:=ZA dE;have HCF:=ZA bo;have d1:=ZF HX.o d0;first|(obtain -:=T3;clear bo dE hp)|clear bo dE hp d0
  go_upto_region 6 with fail;go_region_held3 (λw'=>w'.cell? ⟨g.gl,0,none⟩=some (ZH g.gb)) (((try go_split_ands);exact ZX7))
   (first
    |(go_at_call 81;(with_reducible refine(PL.out _).mono ?_);rintro e w2 ⟨rfl,rfl⟩)
    |(go_at_call 164;(with_reducible refine(LK.o _ (HX.o.trans (by with_reducible first|exact ZM.refl _|exact(ZM.refl _).drew))).mono ?_);rintro e w2 ⟨rfl,hx⟩;have X2:=ZA (HX.o.trans ((show ZM wr _ from by with_reducible first|exact ZM.refl _|exact(ZM.refl _).drew).trans hx));have X3:=ZA ((show ZM wr _ from by with_reducible first|exact ZM.refl _|exact(ZM.refl _).drew).trans hx);have dY:=ZF X3.o d1;clear hx))
  first
  |obtain -:=T4;all_goals
    by_cases hz:Zb<=u
    ·have Du:¬(u:Int)<4611686018427387904:=by omega
     go_upto_region 9 with fail;have jP:wrap64 ((k:Int)+wrap64 (2 ^ lv))=((k:Int)+(N:Int)):=by rw[ua.o];unfold wrap64;omega
     go_wp2_with fail
     (try rw[jP])
     obtain⟨WB,hWB⟩:=ZX2 (w2.alloc (.cells #[.int .i64 k,.int .i64 ((k:Int)+(N:Int))] 3));rw[hWB.out];have XB:=ZA (show ZM wr WB by rw[<-hWB.out];exact X3.o.alloc _);have dU:w2.heap.size<WB.heap.size:=by rw[<-hWB.out];simp
     have la:WB.heap[w2.heap.size]?=some (.cells #[.int .i64 k,.int .i64 ((k:Int)+(N:Int))] 3 (0,0)):=by rw[<-hWB.out];exact ZV w2 _
     have IP:=ZA (ZE la 0);have j9:=ZA (ZE la 1);have bZ:wr.heap.size<=w2.heap.size:=X3.o.size;have Bi:(Value.slice B m cb).ownBlock≠some w2.heap.size:=λe=>by have:=(HO.o.lt _ e).2;omega
     have gF:=ZA Bi;clear la Bi hWB
     go_loopw [3,52] (λv3 vJ wx=>∃(q:Nat) (B2:Option Addr) (jG:Nat) (fx:List Value),q<=2/\v3=.slice B2 (m+q) jG/\vJ=.int .i64 q/\wx.ownsRow w.heap.size 56 1 (.slice B2 (m+q) jG) (m+q) fx/\ZBL wx (XP (XO C O) (.slice B2 (m+q) jG)) fx (ZGi s lv k++[ZDL s lv k k,ZDL s lv k (k+2 ^ lv)].take q)/\ZM w wx/\wx.cell? ⟨w2.heap.size,0,none⟩=some (.int .i64 k)/\wx.cell? ⟨w2.heap.size,1,none⟩=some (.int .i64 ((k:Int)+(N:Int)))/\(Value.slice B2 (m+q) jG).ownBlock≠some w2.heap.size) (λ_ vJ _=>2 - (intOf vJ).toNat)
     case atStart=>exact⟨0,B,cb,hv,by omega,rfl,rfl,Z5 HO.o XB.o,by simpa using HA.o.ext XB.o,HX.o.trans XB.o,IP.o,j9.o,gF.o⟩
     case round=>
      obtain⟨q,B2,jG,fx,hq,rfl,rfl,ik,jD,bd,f0,f1,ag⟩:=hrel;obtain⟨ma,HA2,fM,F0,F1,HNE2⟩:=Ju ik jD bd f0 f1 ag;clear ik jD bd f0 f1 ag;by_cases fB:q<2
      ·have DY:(q:Int)<2:=by omega
       obtain⟨j,hj,jQ⟩:∃j:Nat,wr.cell? ⟨w2.heap.size,q,none⟩=some (.int .i64 j)/\((q=0/\j=k)\/(q=1/\j=k+N)):=by
        rcases(show q=0\/q=1 by omega)with rfl|rfl
        ·exact⟨k,F0.o,.inl ⟨rfl,rfl⟩⟩
        ·exact⟨k+N,by rw[F1.o];push_cast;rfl,.inr ⟨rfl,rfl⟩⟩
       have sQ:j<16:=by omega
       have EY:=ZR3 sQ;have Bd:=ZUL fB;have cT:=ZR4 fD;have Eo:=ZPe fD;have jO:lv+1<=4:=Nat.succ_le_succ fD;have yA:=ZA (λw=>ZAu (lv+1) j w jO (ZWW sQ));have hp:=ZCj (lv+1) j jO;obtain⟨pj,Hpj⟩:=ZX2 (ZO (lv+1) j);rw[Hpj.o]at yA hp;rw[show((lv+1:Nat):Int)=(lv:Int)+1 from rfl]at yA;obtain⟨A2,c2,kw,bo,dE⟩:=ZD5 w g O C xb L s pj _ _ H.o ZB rfl rfl;obtain⟨u2,Hu2⟩:=ZX2 (s.ws.getD pj 0);obtain⟨n2,Hn2⟩:=ZX2 ((s.hs.getD pj []).length);rw[Hu2.o,Hn2.o]at dE;have Gm:=ZA dE;have zz:=ZA bo;have HJ:=ZA jQ;have d2:=ZF fM.o d0;have BC:=ZF fM.o c1;clear bo dE hp jQ;go_upto_region 12 with fail
       go_region_held3 (λw'=>w'.cell? ⟨g.gl,0,none⟩=some (ZH g.gb)) (((try go_split_ands);exact ZX7))
        (first
         |(go_at_call 81;(with_reducible refine(yA.o _).mono ?_);rintro e w4 ⟨rfl,rfl⟩)
         |(go_at_call 164;(with_reducible refine(Gm.o _ (fM.o.trans (by with_reducible first|exact ZM.refl _|exact(ZM.refl _).drew))).mono ?_);rintro e w4 ⟨rfl,hx⟩;have Y3:=ZA ((show ZM wr _ from by with_reducible first|exact ZM.refl _|exact(ZM.refl _).drew).trans hx);have eo:=ZF Y3.o d2;have oR:=ZF Y3.o BC;clear hx))
       all_goals
        by_cases kG:u2=0
        ·have DI:(u2:Int)=0:=by omega
         have KU:=ZA (λu (y:ZM w4 u)=>ZL3 u (XP (XO C O) (.slice B2 (m+q) jG)) A n c (lv+1) j _ rs (λi hi=>hi.elim (λe=>ZgB (uf.o i e) (fM.o.trans (Y3.o.trans y)).size) (λe=>ZgB (ma.o.lt i e).2 (Y3.o.trans y).size)) ((HCF.o.kp (ZR2 ma.o fM.o (Zf6 _))).ext (Y3.o.trans y)) Hn.o (by rw[<-Hn.o];exact iZ.o _) (Ir.o _) jO);rw[show((lv+1:Nat):Int)=(lv:Int)+1 from rfl]at KU;go_upto_region 14 with fail;go_wp2_with fail;refine(KU.o _ (ZM.refl _)).mono ?_;rintro e w5 ⟨A5,n5,c5,CZ,sL,rfl,xM,x5⟩;have Y5:=ZA (Y3.o.trans x5);have IK:=ZA xM;have Ip:=ZA sL;clear xM x5 sL;go_upto_region 15 with fail;have qi:ZM wr (w5.alloc (.cells #[.slice A5 n5 c5] 56)):=Y5.o.alloc _;have lq:ZM w (w5.alloc (.cells #[.slice A5 n5 c5] 56)):=fM.o.trans qi;have fX:=ZA qi;have ir:=ZA lq;have oY:m+q<=100000:=by omega
         clear qi lq;go_wp2_with (at_builtin;refine ZKn (w5.alloc (.cells #[.slice A5 n5 c5] 56)) rfl (.tmp 80) (.tmp 82) rfl w.heap.size rfl (Z5 ma.o fX.o) rfl (JP w5 [.slice A5 n5 c5] _ rfl) rfl oY ir.o.size ?_;intro B' au w6 o6 g6 b6;have O6:=ZA o6;have G6:=ZA (ir.o.grown g6 (λq e=>(ma.o.lt q e).1));have K6:=ZA (ZJr (X:=XO C O) g6 b6);have E0:=ZA (g6.cell (ZF fX.o F0.o) HNE2.o.symm);have E1:=ZA (g6.cell (ZF fX.o F1.o) HNE2.o.symm);have B6:=ZA b6;clear o6 g6 b6)
         go_roundw
         case rel=>
          refine⟨q+1,B',au,fx++[.slice A5 n5 c5],fB,rfl,by go_num,O6.o,?_,G6.o,E0.o,E1.o,?_⟩
          ·have:=((HA2.o.ext fX.o).snoc (c:=c5) (IK.o.ext ((ZM.refl w5).alloc _))).kp K6.o;rw[Ip.o]at this;have e5:ZDL s lv k j=JU (s.hs.getD pl []) (lv+1) j:=by unfold ZDL;rw[Hpj.o,Hu2.o,Zgl kG,Hp.o]
           rw[<-e5]at this;rcases HJ.o with⟨rfl,rfl⟩|⟨rfl,rfl⟩
           ·rw[Zei]at this;exact this
           ·rw[Zei,<-HN.o]at this;exact this
          ·rcases B6.o with b|b
           ·rw[show m+(q+1)=m+q+1 from rfl,b];exact HNE2.o
           ·rw[show m+(q+1)=m+q+1 from rfl,b];intro e;injection e with e;have:=fX.o.size;have:=(ZgT _ _ F0.o);simp at*;omega
         case measure=>simp[intOf];omega
        ·have DI:¬(u2:Int)=0:=by omega
         go_upto_region 15 with fail;have qi:ZM wr (w4.alloc (.cells #[.slice A2 n2 c2] 56)):=Y3.o.alloc _;have lq:ZM w (w4.alloc (.cells #[.slice A2 n2 c2] 56)):=fM.o.trans qi;have fX:=ZA qi;have ir:=ZA lq;have oY:m+q<=100000:=by omega
         clear qi lq;go_wp2_with (at_builtin;refine ZKn (w4.alloc (.cells #[.slice A2 n2 c2] 56)) rfl (.tmp 80) (.tmp 82) rfl w.heap.size rfl (Z5 ma.o fX.o) rfl (JP w4 [.slice A2 n2 c2] _ rfl) rfl oY ir.o.size ?_;intro B' au w6 o6 g6 b6;have O6:=ZA o6;have G6:=ZA (ir.o.grown g6 (λq e=>(ma.o.lt q e).1));have K6:=ZA (ZJr (X:=XO C O) g6 b6);have E0:=ZA (g6.cell (ZF fX.o F0.o) HNE2.o.symm);have E1:=ZA (g6.cell (ZF fX.o F1.o) HNE2.o.symm);have B6:=ZA b6;clear o6 g6 b6)
         go_roundw
         case rel=>
          refine⟨q+1,B',au,fx++[.slice A2 n2 c2],fB,rfl,by go_num,O6.o,?_,G6.o,E0.o,E1.o,?_⟩
          ·have:=((HA2.o.ext fX.o).snoc (c:=c2) (zz.o.kp (ZR2 (Z5 ma.o fX.o) ir.o (Zf6 _)))).kp K6.o;rw[Hn2.o]at this;have e5:ZDL s lv k j=s.hs.getD pj []:=by unfold ZDL;rw[Hpj.o,Hu2.o,Zgk kG]
           rw[<-e5]at this;rcases HJ.o with⟨rfl,rfl⟩|⟨rfl,rfl⟩
           ·rw[Zei]at this;exact this
           ·rw[Zei,<-HN.o]at this;exact this
          ·rcases B6.o with b|b
           ·rw[show m+(q+1)=m+q+1 from rfl,b];exact HNE2.o
           ·rw[show m+(q+1)=m+q+1 from rfl,b];intro e;injection e with e;have:=fX.o.size;have:=(ZgT _ _ F0.o);simp at*;omega
         case measure=>simp[intOf];omega
      ·obtain rfl:q=2:=by omega
       have DY:¬((2:Nat):Int)<2:=by omega
       go_wp2_with fail
       go_roundw
       case rel=>
        refine⟨k+1,m+2,B2,jG,fx,ak,rfl,by go_num,?_,ma.o,?_,fM.o⟩
        ·rw[ZCu,ZfE,HM.o];unfold ZIp;rw[Hp.o,Hu.o,Zgl hz];rfl
        ·have:=HA2.o;rw[ZCu];unfold ZIp;rw[Hp.o,Hu.o,Zgl hz];exact this
       case measure=>simp[intOf];omega
    ·have Du:(u:Int)<4611686018427387904:=by omega
     go_upto_region 8 with fail;have XB:ZM wr (w2.alloc (.cells #[.slice A n c] 56)):=X3.o.alloc _;have lq:ZM w (w2.alloc (.cells #[.slice A n c] 56)):=HX.o.trans XB;have fX:=ZA XB;have ir:=ZA lq;have oY:m<=100000:=by omega
     clear XB lq;go_wp2_with (at_builtin;refine ZKn (w2.alloc (.cells #[.slice A n c] 56)) rfl (.tmp 41) (.tmp 43) rfl w.heap.size rfl (Z5 HO.o fX.o) rfl (JP w2 [.slice A n c] _ rfl) rfl oY ir.o.size ?_;intro B' au w6 o6 g6 b6;have O6:=ZA o6;have G6:=ZA (ir.o.grown g6 (λq e=>(HO.o.lt q e).1));have K6:=ZA (ZJr (X:=XO C O) g6 b6);clear o6 g6 b6)
     go_roundw
     case rel=>
      refine⟨k+1,m+1,B',au,hv++[.slice A n c],ak,rfl,by go_num,?_,O6.o,?_,G6.o⟩
      ·rw[ZCu,ZfE,HM.o];unfold ZIp;rw[Hp.o,Hu.o,Zgk hz];rfl
      ·have:=((HA.o.ext fX.o).snoc (c:=c) (HCF.o.kp (ZR2 (Z5 HO.o fX.o) ir.o (Zf6 _)))).kp K6.o;rw[Hn.o]at this;rw[ZCu];unfold ZIp;rw[Hp.o,Hu.o,Zgk hz];exact this
     case measure=>simp[intOf];omega
  |all_goals
    go_upto_region 8 with fail;have XB:ZM wr (w2.alloc (.cells #[.slice A m c] 56)):=X3.o.alloc _;have lq:ZM w (w2.alloc (.cells #[.slice A m c] 56)):=HX.o.trans XB;have fX:=ZA XB;have ir:=ZA lq;have oY:k<=100000:=by omega
    clear XB lq;go_wp2_with (at_builtin;refine ZKn (w2.alloc (.cells #[.slice A m c] 56)) rfl (.tmp 41) (.tmp 43) rfl w.heap.size rfl (Z5 HO.o fX.o) rfl (JP w2 [.slice A m c] _ rfl) rfl oY ir.o.size ?_;intro B' au w6 o6 g6 b6;have O6:=ZA o6;have G6:=ZA (ir.o.grown g6 (λq e=>(HO.o.lt q e).1));clear o6 g6 b6)
    go_roundw
    case rel=>
     refine⟨k+1,B',au,hv++[.slice A m c],ak,rfl,by go_num,O6.o,?_,G6.o⟩;have:=HA.o.snoc (c:=c) HCF.o;rw[Hm.o,<-Hp.o]at this;unfold ZOn at this ⊢;rw[List.range_succ,List.map_append];exact this
    case measure=>simp[intOf];omega
 ·have dy:¬(k:Int)<(N:Int):=by omega
  obtain rfl:k=N:=by omega
  go_wp2_with fail;go_ret;first|(obtain -:=T5;exact⟨m,B,cb,rfl,xe,HM.o,hv,HO.o,HA.o,HX.o⟩)|exact⟨B,cb,rfl,hv,HO.o,HA.o,HX.o⟩):p:=h
theorem ZQr (w:World)(g:Zz)(O C xb L)(s:Z9)(lv)(h:YQ w g O C xb L s)(hu:s.ws.getD 0 0=2*lv)(fD:lv<=4): Calls prog 117 #[ZH g.gl] w λe w'=>∃B cb hv,e=.returned (.slice B (2 ^ lv) cb)/\w'.ownsRow w.heap.size 56 1 (.slice B (2 ^ lv) cb) (2 ^ lv) hv/\ZBL w (XO C O) hv (ZOn s lv (2 ^ lv))/\ZM w w':=by
 have LV:=ZA (ZHt w g O C xb L s (2*lv) h hu ZB);have e1:2*lv / 2=lv:=by omega
 have e2:decide (2*lv % 2=1)=false:=Zgf ZB;rw[e1,e2]at LV;obtain⟨N,hN⟩:=ZX3 (2 ^ lv);have Fc:N<=16:=by
  have:lv=0\/lv=1\/lv=2\/lv=3\/lv=4:=by omega
  rw[<-hN];rcases this with rfl|rfl|rfl|rfl|rfl<;>omega
 have pE:=ZDU fD;rw[hN]at pE;have ua:=ZA pE;have sM:(0:Int)<=(lv:Int):=by omega
 rw[hN];have H:=ZA h;have HN:=ZA hN;have d0:=h.rd.l0;clear h hu e1 e2 pE hN;go_enter func117,ntmps117;go_wp2_with fail;refine LV.o.mono ?_;rintro e w1 ⟨rfl,hx⟩;have X1:=ZA hx;clear hx;go_wp2_with fail;(try rw[ua.o]);clear ua;go_loopw [3,20] (λv3 oC wr=>∃(k:Nat) (B:Option Addr) (cb:Nat) (hv:List Value),k<=N/\v3=.slice B k cb/\oC=.int .i64 k/\wr.ownsRow w.heap.size 56 1 (.slice B k cb) k hv/\ZBL w (XO C O) hv (ZOn s lv k)/\ZM w wr) (λ_ oC _=>N - (intOf oC).toNat);case atStart=>exact⟨0,none,0,[],ZgR _,rfl,rfl,ZgZ _ _ _ _,ZBL.nil _ _,X1.o⟩
 case round=>
  exact ZYd
def YG (xs:List Nat):Nat:=xs.foldl (λn x=>n*256+x) 0
theorem ZD3 (xs x):YG (xs++[x])=YG xs*256+x:=by rw[YG,List.foldl_append,List.foldl_cons,List.foldl_nil,YG]
theorem ZHo:YG []=0:=by rw[YG,List.foldl_nil]
theorem ZUw (xs:List Nat):∀a,(∀x ∈ xs,x<256)->xs.foldl (λn x=>n*256+x) a<(a+1)*256 ^ xs.length:=by
 induction xs with
 |nil=>intro a _;rw[List.foldl_nil,ZfJ,Nat.pow_zero];omega
 |cons x xs ih=>
  intro a h;have h1:=ih (a*256+x) (λy hy=>h y (ZfP _ hy));have h2:=h x ZfQ;rw[List.foldl_cons,ZfF,ZgP];have h3:(a*256+x+1)*256 ^ xs.length<=(a+1)*256*256 ^ xs.length:=ZgI _ ZB;rw[ZgH (256 ^ xs.length) 256,<-Nat.mul_assoc];omega
theorem ZCQ (xs:List Nat)(h:∀x ∈ xs,x<256):YG xs<256 ^ xs.length:=by
 have:=ZUw xs 0 h;rw[YG];omega
def Y9 (ws:List Nat):Nat:=if ws.length<4 then 0 else if YG (ws.take 4)=0\/4096<YG (ws.take 4) then 1 else if ws.length - 4<YG (ws.take 4) then 0 else 2
def ZA1 (ws:List Nat):List Nat:=(ws.drop 4).take (YG (ws.take 4))
def JW (ws:List Nat):List Nat:=(ws.drop 4).drop (YG (ws.take 4))
theorem ZCA(h:Y9 ws=2):(JW ws).length<ws.length/\(ZA1 ws).length=YG (ws.take 4)/\1<=YG (ws.take 4)/\YG (ws.take 4)<=4096/\4<=ws.length/\4+YG (ws.take 4)<=ws.length:=by
 unfold Y9 at h;by_cases h1:ws.length<4
 ·rw[Zgl h1]at h;omega
 ·rw[Zgk h1]at h;by_cases h2:YG (ws.take 4)=0\/4096<YG (ws.take 4)
  ·rw[Zgl h2]at h;omega
  ·rw[Zgk h2]at h;by_cases h3:ws.length - 4<YG (ws.take 4)
   ·rw[Zgl h3]at h;omega
   ·simp only[JW,ZA1,ZfG,ZfL];omega
def ZCV:Nat->List Nat->List (List Nat) × List Nat × Bool
 |0,ws=>([],ws,false)
 |f+1,ws=>if Y9 ws=0 then ([],ws,false) else if Y9 ws=1 then ([],ws,true) else
  (ZA1 ws::(ZCV f (JW ws)).1,(ZCV f (JW ws)).2.1,(ZCV f (JW ws)).2.2)
theorem ZGH:∀(f g:Nat) (ws:List Nat),ws.length<f->ws.length<g->ZCV f ws=ZCV g ws
 |0,_,_,h,_=>by omega
 |_+1,0,_,_,h=>by omega
 |f+1,g+1,ws,h1,h2=>by
  unfold ZCV;by_cases e0:Y9 ws=0
  ·rw[Zgl e0,Zgl e0]
  ·by_cases e1:Y9 ws=1
   ·rw[Zgk e0,Zgl e1,Zgk e0,Zgl e1]
   ·rw[Zgk e0,Zgk e1,Zgk e0,Zgk e1];have e2:Y9 ws=2:=by
     unfold Y9 at e0 e1 ⊢
     split
     ·rename_i h;rw[Zgl h]at e0;omega
     ·rename_i h;rw[Zgk h]at e0 e1
      split
      ·rename_i h';rw[Zgl h']at e1;omega
      ·rename_i h';rw[Zgk h']at e0
       split
       ·rename_i Fu;rw[Zgl Fu]at e0;omega
       ·rfl
    have:=(ZCA e2).1;rw[ZGH f g (JW ws) ZB ZB]
def Zp (ws:List Nat):List (List Nat) × List Nat × Bool:=ZCV (ws.length+1) ws
theorem ZDd (ws):Y9 ws=0\/Y9 ws=1\/Y9 ws=2:=by
 unfold Y9
 split
 ·exact .inl rfl
 ·split
  ·exact .inr (.inl rfl)
  ·split
   ·exact .inl rfl
   ·exact .inr (.inr rfl)
theorem ZBP(h:Y9 ws=0):Zp ws=([],ws,false):=by
 unfold Zp ZCV;rw[Zgl h]
theorem ZCl(h:Y9 ws=1):Zp ws=([],ws,true):=by
 unfold Zp ZCV;rw[Zgk ZB,Zgl h]
theorem ZAv(h:Y9 ws=2):Zp ws=(ZA1 ws::(Zp (JW ws)).1,(Zp (JW ws)).2.1,(Zp (JW ws)).2.2):=by
 have hl:=(ZCA h).1;unfold Zp
 conv=>lhs;unfold ZCV
 rw[Zgk ZB,Zgk ZB,ZGH ws.length ((JW ws).length+1) (JW ws) ZB ZB]
def Xs (w:World)(r:Nat)(ws:List Nat)(cl:Bool)(S:Zhf):Prop:=∃A n c,w.heap[r]?=some (.cells #[.slice A n c,.bool cl] 283 (0,0))/\ws.length=n/\n<=c/\Rd w A (ZT .u8 ws)/\∀a,A=some a->S a.block
theorem ZEz {P:Program}{c:Code}{Q:Exit->Act->World->Prop}(h:∀Q':Exit->Act->World->Prop,(∀e a w,Q e a w->Q' e a w)->c.wp P Q' a w):c.wp P Q a w:=h Q (λ_ _ _ q=>q)
theorem ZLC (w:World)(r k:Nat)(A:Option Addr)(n c:Nat)(cl:Bool)(h:w.heap[r]?=some (.cells #[.slice A n c,.bool cl] 283 (0,0)))(hk:n<k): Calls prog 216 #[.pointer (some ⟨r,0,none⟩),.int .i64 k] w λe w'=>e=.panicked [{v:=.iface 340 (.agg #[]),recovered:=false}]/\w=w':=by
 have h0:=ZX1 h 0 (.slice A n c);have H:=ZA h;clear h;go_enter func216,ntmps216;go_wp2;exact⟨rfl,rfl,rfl⟩
theorem ZIw (w:World)(r k A A' n c m d cl)(h:w.heap[r]?=some (.cells #[.slice A n c,.bool cl] 283 (0,0)))(hk:k<=n)(aI:n<=c)(hsl:∀u:World,(Instr.slice 32 (.slice A n c) (some (.int .i64 k)) none none).run prog u=.ok (.slice A' m d) u): Calls prog 216 #[.pointer (some ⟨r,0,none⟩),.int .i64 k] w λe w'=>e=.returned (.slice A k c)/\w.setCell ⟨r,0,none⟩ (.slice A' m d)=w':=by
 have h0:=ZX1 h 0 (.slice A n c);have hf:=ZG h 0;have H:=ZA h;clear h;go_enter func216,ntmps216;go_wp2;go_ret;exact⟨rfl,rfl⟩
theorem ZYG {p:Prop}(h:p:=by
 first
 |obtain -:=V1;refine callsD_of_wpS func162 rfl λc₀ cs hu=>?_;have uA:∀u:World,(Instr.typeAssert (.iface 290 (.agg #[])) 20 290 true).run prog u=.ok (.tuple #[.agg #[],.bool true]) u:=λ_=>by kernel_rfl
  have p3:=ZI (ZE he 0);have p4:=ZAl he 0;have He:=ZA he;clear he;simp only[ntmps162,Zfk,ZfF,ZfJ,Nat.reduceAdd,Nat.reduceSub,ZeW,ZeX,Zfh,Zel,Zfb,Zen]
 |refine callsD_of_wpS func215 rfl λc₀ cs hu=>?_;have bq:=ZX1 hr 0 (.slice A n c);have uN:=ZG hr 0;have uA:∀u:World,(Instr.typeAssert (.iface 340 (.agg #[])) 20 340 true).run prog u=.ok (.tuple #[.agg #[],.bool true]) u:=λ_=>by kernel_rfl
  have p1:=ZI h1;have p2:=ZI h2;have p3:=ZI bq;have p4:=ZGO (p:=⟨r,0,none⟩) (ZX hr) uN;have Hr:=ZA hr;clear hr;simp only[ntmps215,Zfk,ZfF,ZfJ,Nat.reduceAdd,Nat.reduceSub,ZeW,ZeX,Zfh,Zel,Zfb,Zen]
 apply wpS_seq;apply wpS_region;simp[wpOpsS,go_sem,recoverD,hu,Exit.thenS];refine wpS_of_wp ?_;refine ZEz λQ hQ=>?_;have Hu:=ZA hu;clear hu;go_wp2_with fail;have hu:=Hu.o;exact⟨rfl,_,rfl,_,Zgr rfl _ _ _,rfl,rfl,rfl⟩):p:=h
theorem ZDQ (w:World)(r br bw A B n c m d cl gH)(hr:w.heap[r]?=some (.cells #[.slice A n c,.bool cl] 283 (0,0)))(h1:w.cell? ⟨br,0,none⟩=some (.pointer (some ⟨r,0,none⟩)))(h2:w.cell? ⟨bw,0,none⟩=some (.slice B m d)): CallsD prog 215 #[.pointer (some ⟨bw,0,none⟩),.pointer (some ⟨br,0,none⟩)] (.panicking ({v:=.iface 340 (.agg #[]),recovered:=false}::gH)) w λe u' w'=>
   e=.returned (.tuple #[])/\u'=.panicking ({v:=.iface 340 (.agg #[]),recovered:=true}::gH)/\(w.alloc (.cells #[] 340)).setCell ⟨r,0,none⟩ (.slice B m d)=w':=ZYG
theorem ZIv (w p q): CallsD prog 215 #[p,q] .returning w λe u' w'=>e=.returned (.tuple #[])/\u'=.returning/\w=w':=by
 refine callsD_of_wpS func215 rfl λc₀ cs hu=>?_;simp only[ntmps215,Zfk,ZfF,ZfJ,Nat.reduceAdd,Nat.reduceSub,ZeW,ZeX,Zfh,Zel,Zfb,Zen];apply wpS_seq;apply wpS_region;simp[wpOpsS,go_sem,recoverD,hu,Exit.thenS];refine wpS_of_wp ?_;refine ZEz λQ hQ=>?_;have Hu:=ZA hu;clear hu;go_wp2_with fail;have hu:=Hu.o;exact⟨rfl,.returning,by cases c₀;simp at hu;subst hu;rfl,_,Zgr rfl _ _ _,rfl,rfl,rfl⟩
theorem ZNd (w:World)(r A n c)(h:w.heap[r]?=some (.cells #[.slice A n c,.bool false] 283 (0,0)))(hn:n<4): Calls prog 157 #[.pointer (some ⟨r,0,none⟩)] w λe w'=>e=.returned (.tuple #[.slice none 0 0,.bool false,.int .i64 0])/\w'.heap[r]?=some (.cells #[.slice A n c,.bool false] 283 (0,0))/\w.grownBy w' (some r):=by
 have bU:∀(fn:Fn) (first cap:Array Value) (w:World),(Instr.makeFunc fn first cap).run prog w=.ok (.func fn first cap) w:=λ_ _ _ _=>rfl;have h0:=ZX1 h 0 (.slice A n c);have hr:=ZX h;have p0:=ZI h0;have p1:=λo o'=>ZI (ZI h0 o) o';have H:=ZA h;clear h
 go_enter_defers func157,ntmps157
 go_wp2_with fail;refine(ZLC _ r 4 A n c false (ZQ (ZQ H.o _) _) hn).mono ?_;rintro e w' ⟨rfl,rfl⟩;go_wp2_with fail;refine Zgn (f:=215) (args:=#[.pointer (some ⟨w.heap.size+1,0,none⟩),.pointer (some ⟨w.heap.size,0,none⟩)]) ZXz (by simp[go_sem]) ?_;refine(ZDQ _ r w.heap.size (w.heap.size+1) A A n c n c false [] (ZQ (ZQ H.o _) _) (by simp[go_sem]) (by simp[go_sem])).mono ?_;rintro e u' fZ ⟨rfl,rfl,rfl⟩;exact⟨_,results_tmp3 rfl _ _ _,rfl,ZR (ZQ (ZQ (ZQ H.o _) _) _) 0 _,ZU (Zq (Zq (Zq (ZgX w _) _) _) _) 0 _⟩
theorem ZHn (a:Nat)(ha:a<9223372036854775808):(BitVec.ofInt 64 (a:Int)).toNat=a:=by
 rw[BitVec.ofInt_natCast,BitVec.toNat_ofNat];exact ZgF ZB
theorem ZMD (a b:Nat)(ha:a<9223372036854775808)(hb:b<9223372036854775808):bits .or .i64 (a:Int) (b:Int)=((a|||b:Nat):Int):=by
 have hx:a|||b<2 ^ 63:=Nat.or_lt_two_pow ZB ZB
 show IntKind.i64.wrap ((BitVec.ofInt 64 (a:Int)|||BitVec.ofInt 64 (b:Int)).toNat:Int)=_;rw[BitVec.toNat_or,ZHn a ha,ZHn b hb,Zee];omega
theorem ZYQ {p:Prop}(h:p:=by
 have e:((a:Int)*256)=((a*256:Nat):Int):=by omega
 first|(obtain -:=V1;rw[e,ZMD _ _ ZB ZB])|rw[e,Go.u64_or_nat _ _ ZB ZB]
 congr 1;have h:=Nat.two_pow_add_eq_or_of_lt (i:=8) (b:=x) ZB a;simp only[Nat.reducePow]at h;rw[ZgH a 256];exact h.symm):p:=h
theorem ZUv (a x:Nat)(ha:a<16777216)(hx:x<256):bits .or .i64 ((a:Int)*256) (x:Int)=((a*256+x:Nat):Int):=by
 obtain⟨V1,_⟩:=QA;exact ZYQ
def ZV7 (ws:List Nat)(w:World)(r:Nat)(S:Zhf)(e:Ending)(w':World):Prop:=w.grownBy w' (some r)/\
 ((Y9 ws=0/\e=.returned (.tuple #[.slice none 0 0,.bool false,.int .i64 0])/\Xs w' r ws false S)\/ (Y9 ws=1/\e=.returned (.tuple #[.slice none 0 0,.bool false,.int .i64 12])/\∃A n c,w'.heap[r]?=some (.cells #[.slice A n c,.bool false] 283 (0,0)))\/ (Y9 ws=2/\(∃A c,e=.returned (.tuple #[.slice A (ZA1 ws).length c,.bool true,.int .i64 0])/\w'.ownsRow w.heap.size 5 1 (.slice A (ZA1 ws).length c) (ZA1 ws).length (ZT .u8 (ZA1 ws)))/\Xs w' r (JW ws) false S))
theorem ZQN (w:World)(r b off n c m d S A')(ws:List Nat)(h:w.heap[r]?=some (.cells #[.slice (some ⟨b,off,none⟩) n c,.bool false] 283 (0,0)))(hn:4<=n)(aI:n<=c)(hm:n=m+4)(hd:c=d+4)(hl:ws.length=n)(hb:∀x ∈ ws,x<256)(hr:Rd w (some ⟨b,off,none⟩) (ZT .u8 ws))(bS:b≠r)(dh:S b)(hN:n<=9223372036854775807)(hsl:∀u:World,(Instr.slice 32 (.slice (some ⟨b,off,none⟩) n c) (some (.int .i64 ((4:Nat):Int))) none none).run prog u=.ok (.slice A' m d) u)(bB:∀(w:World) (vs:List Value),vs.length=n->Rd w (some ⟨b,off,none⟩) vs->Rd w A' (vs.drop 4))(nV:∃a',A'=some a'/\a'.block=b): Calls prog 157 #[.pointer (some ⟨r,0,none⟩)] w (ZV7 ws w r S):=by
 have bU:∀(fn:Fn) (first cap:Array Value) (w:World),(Instr.makeFunc fn first cap).run prog w=.ok (.func fn first cap) w:=λ_ _ _ _=>rfl;have h0:=ZX1 h 0 (.slice (some ⟨b,off,none⟩) n c);have bC:=ZX h;have p0:=ZI h0;have p1:=λo o'=>ZI (ZI h0 o) o';have H:=ZA h;clear h;have Gt:=ZA hsl;clear hsl;obtain⟨Hr,Hl,Hb⟩:=Z8 hr hl hb;clear hr hl hb;have Hm:=ZA hm;have Hd:=ZA hd;clear hm hd;have Gu:=ZA bB;have IQ:=ZA nV;clear bB nV
 go_enter_defers func157,ntmps157
 go_wp2_with fail;refine(ZIw _ r 4 (some ⟨b,off,none⟩) A' n c m d false (ZQ (ZQ H.o _) _) hn aI Gt.o).mono ?_;rintro e w' ⟨rfl,mf⟩;have da:∀(j x:Nat),ws[j]?=some x->w'.cell? ⟨b,off+j,none⟩=some (.int .u8 x):=λj x hx=>by
  obtain⟨b',off',hA,hc⟩:=Hr.o (by intro e;have:=ZBe (k:=.u8) hx;rw[e]at this;simp at this);injection hA with hA;injection hA with e1 e2 _;subst e1 e2;rw[<-mf,ZgW _ _ _ _ (λe=>bS (by injection e with e;exact e.symm))];exact ZI (ZI (hc j _ (ZBe hx)) _) _
 have gn:w.grownBy w' (some r):=by rw[<-mf];exact ZU (Zq (Zq (ZgX w _) _) _) 0 _
 have aH:w'.heap[r]?=some (.cells #[.slice A' m d,.bool false] 283 (0,0)):=by rw[<-mf];exact ZR (ZQ (ZQ H.o _) _) 0 _
 have dG:w'.cell? ⟨w.heap.size,0,none⟩=some (.pointer (some ⟨r,0,none⟩)):=by
  rw[<-mf,ZgW _ _ _ _ (λe=>by injection e with e;omega)];exact ZI ZXz _
 have di:w'.cell? ⟨w.heap.size+1,0,none⟩=some (.slice (some ⟨b,off,none⟩) n c):=by
  rw[<-mf,ZgW _ _ _ _ (λe=>by injection e with e;omega)];have:=ZgU (w.alloc (.cells #[.pointer (some ⟨r,0,none⟩)] 224)) #[.slice (some ⟨b,off,none⟩) n c] 32 0;rw[Zga]at this;exact this
 have iS:=ZX1 aH 0 (.slice A' m d);obtain⟨yV,gv,GL⟩:=Z8 gn aH di;clear gn aH di h0 p0 p1;have L8:=ZA mf;have Gs:=ZA da;clear mf da;go_wp2_with fail
 go_loop [6,17] (λnn i=>∃k:Nat,k<=4/\i=.int .i64 k/\nn=.int .i64 ((YG (ws.take k):Nat):Int)) (λ_ i=>4 - (intOf i).toNat)
 case atStart=>exact⟨0,by omega,rfl,rfl⟩
 case round=>
  obtain⟨k,hk,rfl,rfl⟩:=hrel;by_cases ak:k<4
  ·obtain⟨x,hx⟩:=Jy (xs:=ws) (j:=k) (by rw[Hl.o];omega);have dv:x<256:=Hb.o x (ZfU hx);have hc:=Gs.o k x hx;have cX:=ZCQ (ws.take k) (λy hy=>Hb.o y (ZfX hy));have wY:YG (ws.take k)<16777216:=by
    have e:(ws.take k).length=k:=by rw[ZfL,Hl.o];omega
    rw[e]at cX;have:k=0\/k=1\/k=2\/k=3:=by omega
    rcases this with rfl|rfl|rfl|rfl<;>omega
   have Hx:=ZA hx;clear hx cX;go_wp2
   go_round
   case rel=>exact⟨k+1,by omega,by go_num,by rw[Zv Hx.o,ZD3,ZUv _ _ wY dv]⟩
   case measure=>simp[intOf];omega
  ·obtain rfl:k=4:=by omega
   have cX:=ZCQ (ws.take 4) (λy hy=>Hb.o y (ZfX hy));rw[show(ws.take 4).length=4 by rw[ZfL,Hl.o];omega]at cX;have hL:Y9 ws=if YG (ws.take 4)=0\/4096<YG (ws.take 4) then 1 else if n - 4<YG (ws.take 4) then 0 else 2:=by
    unfold Y9;rw[Zgk (by rw[Hl.o];omega),Hl.o]
   have kJ:ZA1 ws=(ws.drop 4).take (YG (ws.take 4)):=rfl;have dL:JW ws=(ws.drop 4).drop (YG (ws.take 4)):=rfl;generalize YG (ws.take 4)=L at*;obtain⟨HL,Hpay,fh⟩:=Z8 hL kJ dL;clear hL kJ dL hk;by_cases hL0:L=0\/4096<L
   ·have oy:=ZA (show Y9 ws=1 by rw[HL.o,Zgl hL0]);rcases hL0 with rfl|hL0
    all_goals
     go_wp2_with fail;refine Zgn (f:=215) (args:=#[.pointer (some ⟨w.heap.size+1,0,none⟩),.pointer (some ⟨w.heap.size,0,none⟩)]) ZXz (by simp[go_sem]) ?_;refine(ZIv _ _ _).mono ?_;rintro e u' fZ ⟨rfl,rfl,rfl⟩;exact⟨_,results_tmp3 rfl _ _ _,yV.o,.inr (.inl ⟨oy.o,rfl,_,_,_,gv.o⟩)⟩
   ·have LI:1<=L:=by omega
    have LH:L<=4096:=by omega
    have Fd:((L:Int)==0)=false:=by rw[Zgb];omega
    by_cases Ek:m<L
    ·have oy:=ZA (show Y9 ws=0 by rw[HL.o,Zgk hL0,Zgl (by have:=Hm.o;omega)]);clear hL0;go_wp2_with fail;refine(ZLC w' r L A' m d false gv.o Ek).mono ?_;rintro e fZ ⟨rfl,rfl⟩;go_wp2_with fail;refine Zgn (f:=215) (args:=#[.pointer (some ⟨w.heap.size+1,0,none⟩),.pointer (some ⟨w.heap.size,0,none⟩)]) ZXz (by simp[go_sem]) ?_;refine(ZDQ w' r w.heap.size (w.heap.size+1) A' (some ⟨b,off,none⟩) m d n c false [] gv.o dG GL.o).mono ?_;rintro e u' fZ ⟨rfl,rfl,rfl⟩;have hg:=ZU (Zq yV.o (.cells #[] 340)) 0 (.slice (some ⟨b,off,none⟩) n c);exact⟨_,results_tmp3 rfl _ _ _,hg,.inl ⟨oy.o,rfl,_,_,_,ZR (ZQ gv.o _) 0 _,Hl.o,aI,Hr.o.grown hg (λa ha hr=>by injection ha with ha;injection hr with hr;subst ha;exact bS hr.symm),λa ha=>by injection ha with ha;subst ha;exact dh⟩⟩
    ·have oy:=ZA (show Y9 ws=2 by rw[HL.o,Zgk hL0,Zgk (by have:=Hm.o;omega)]);clear hL0;have xj:L<=m:=by omega
     have AG:m<=d:=by have:=Hm.o;have:=Hd.o;omega
     obtain⟨a',rfl,nQ⟩:=IQ.o;obtain⟨A2,hsl2,kI,hA2⟩:=Xx underlying32 JX (A:=some a') (n:=m) (c:=d) (m:=m - L) (d:=d - L) L (ki:=(L:Int)) rfl AG ZB ZB;obtain⟨qo,HA2,yM⟩:=Z8 kI hA2 hsl2;clear kI hA2 hsl2;have GM:=ZA nQ;clear nQ;go_wp2_with fail;refine(ZIw w' r L (some a') A2 m d (m - L) (d - L) false gv.o xj AG yM.o).mono ?_;rintro e fZ ⟨rfl,hw''⟩;have aA:w'.grownBy fZ (some r):=by rw[<-hw''];exact Ze _ _ _ _
     have gU:fZ.heap[r]?=some (.cells #[.slice A2 (m - L) (d - L),.bool false] 283 (0,0)):=by rw[<-hw''];exact ZR gv.o 0 _
     clear hw'';have dR:=World.grown_trans yV.o aA;have pC:Rd fZ (some ⟨b,off,none⟩) (ZT .u8 ws):=Hr.o.grown dR (λa ha hr=>by injection ha with ha;injection hr with hr;subst ha;exact bS hr.symm);have mq:Rd fZ (some a') (ZT .u8 (ws.drop 4)):=by rw[Jx];exact Gu.o fZ _ (by rw[Xk,Hl.o]) pC
     have xi:(ZA1 ws).length=L:=by rw[Hpay.o,ZfL,ZfG,Hl.o];have:=Hm.o;omega
     have sx:Rd fZ (some a') (ZT .u8 (ZA1 ws)):=by
      rw[Hpay.o];exact ZKF (ys:=(ws.drop 4).drop L) (by rw[Zfl];exact mq)
     have C1:=ZA (ZEk a' L d (ZA1 ws) fZ xi ZB sx);obtain⟨yT,Hrp,L9,vt,tX⟩:=ZBR xi mq pC dR gU;clear xi mq sx pC dR aA gU;go_wp2_with fail;refine C1.o.mono ?_;rintro e w3 ⟨A3,c3,rfl,af,fU⟩;rw[yT.o]at af ⊢;have dH:=ZA af;have yK:=ZA fU;clear af fU;go_wp2_with fail;refine Zgn (f:=215) (args:=#[.pointer (some ⟨w.heap.size+1,0,none⟩),.pointer (some ⟨w.heap.size,0,none⟩)]) ZXz (by simp[go_sem]) ?_;refine(ZIv _ _ _).mono ?_;rintro e u' w4 ⟨rfl,rfl,rfl⟩;refine⟨_,results_tmp3 rfl _ _ _,ZAV vt.o yK.o,.inr (.inr ⟨oy.o,⟨A3,c3,?_,?_⟩,A2,m - L,d - L,ZK tX.o yK.o,?_,by omega,?_,?_⟩)⟩
     ·rw[yT.o];rfl
     ·rw[yT.o];exact Zj dH.o vt.o.size
     ·rw[fh.o,ZfG,ZfG,Hl.o];have:=Hm.o;omega
     ·rw[fh.o,Jx];exact qo.o w3 _ (by rw[Xk,ZfG,Hl.o];have:=Hm.o;omega) (Hrp.o.ext yK.o)
     ·intro a ha;obtain⟨a2,jD,di⟩:=HA2.o a' rfl;rw[ha]at jD;injection jD with jD;subst jD;rw[di,GM.o];exact dh
theorem ZVw{r:Nat}{cl:Bool}{t:TypeId}{a:Addr}(h:w.heap[r]?=some (.cells #[.slice A n c,.bool cl] t (0,0)))(hr:Rd w B (ZT .u8 ws))(ha:B=some a)(cU:ws≠[]):a.block≠r:=by
 rintro rfl;cases ws with
 |nil=>exact cU rfl
 |cons x t=>
  obtain⟨b,off,hB,hc⟩:=hr (by simp[ZT]);rw[ha]at hB;injection hB with hB;subst hB;have h1:=hc 0 _ rfl;rw[Zf2,ZE h off]at h1
  match off,h1 with
  |0,h1=>simp at h1
  |1,h1=>simp at h1
  |_+2,h1=>simp at h1
theorem ZJT(h:ws.length<4):Y9 ws=0:=by unfold Y9;rw[Zgl h]
theorem ZHp (w r S)(ws:List Nat)(h:Xs w r ws false S)(hb:∀x ∈ ws,x<256)(hN:ws.length<=9223372036854775807): Calls prog 157 #[.pointer (some ⟨r,0,none⟩)] w (ZV7 ws w r S):=by
 obtain⟨A,n,c,aH,hl,aI,hr,tD⟩:=h;by_cases hn:n<4
 ·refine(ZNd w r A n c aH hn).mono ?_;rintro e w' ⟨he,hb',hg⟩;have ag:∀a,A=some a->ws≠[]->a.block≠r:=λa ha cU=>ZVw aH hr ha cU;refine⟨hg,.inl ⟨ZJT ZB,he,A,n,c,hb',hl,aI,?_,tD⟩⟩;by_cases cU:ws=[]
  ·subst cU;exact Rd.nil _ _
  ·exact hr.grown hg (λa ha bC=>ag a ha cU (by injection bC with bC;exact bC.symm))
 ·have cU:ws≠[]:=by rintro rfl;simp at hl;omega
  obtain⟨b,off,rfl,_⟩:=hr (by simpa[ZT]using cU);obtain⟨A',hsl,bB,nV⟩:=Xx underlying32 JX (A:=some ⟨b,off,none⟩) (n:=n) (c:=c) (m:=n - 4) (d:=c - 4) 4 (ki:=((4:Nat):Int)) rfl aI ZB ZB;exact ZQN w r b off n c (n - 4) (c - 4) S A' ws aH ZB aI ZB ZB hl hb hr (ZVw aH hr rfl cU) (tD _ rfl) ZB hsl bB (nV _ rfl)
end Go.Proofs.YtloidkmphigbdaaGreat
