/- Laid together: what 'TopBroken' needs, part 2 of 11. -/
import Derived.Test.YtloidkmphigbdaaGreatProg
import Derived.Outline
import Derived.BigQuiet
import Derived.WalkLawsBesides
import Derived.Deep.DeepCutAuto
import Derived.Deep.RegionWith
import Derived.Laws.IdiomCopy
import Derived.Laws.OwnMore
import Derived.Lib.SliceRun
import Derived.OrdersHeld
import Derived.Deep.RegionHeld
import Derived.Deep.OwnRows
import Derived.Deep.LoopGhost
import Derived.Deep.RegionLaw
import Derived.Recover
import Derived.Deep.AppendLies
import Derived.Test.YtloidkmphigbdaaGreatBTopBroken1
namespace Go.Proofs.YtloidkmphigbdaaGreat
set_option linter.all false
set_option maxHeartbeats 40000000
set_option maxRecDepth 100000
open Go.RowKit
def Za3 := @List.getElem?_replicate
def ZaS := @Array.replicate_succ
def ZaT := @Array.replicate_zero
def ZaU := @Array.setIfInBounds_comm
def ZaW := @Classical.byContradiction
def Zac := @IntKind.wrap_u8
def Zae := @List.append_assoc
def Zah := @List.append_toArray
def Zaj := @List.cons_append
def Zb1 := @Nat.le_succ
def Zb4 := @Nat.lt_of_le_of_lt
def Zb8 := @Nat.min_eq_left
def ZbE := @List.length_nil
def ZbT := @List.mem_range
def Zbb := @List.push_toArray
def Zbf := @List.size_toArray
def Zbm := @List.take_take
def Zbn := @List.take_zero
def ZcB := @Nat.mul_comm
def ZcC := @Nat.mul_le_mul_right
def ZcI := @Nat.pow_le_pow_right
def ZcJ := @Nat.pow_succ
def ZcV := @World.size_alloc
def Zcc := @getD_set_ne
def Zck := @results_cell_row
def Zcl := @results_none
def ZDO (w:World)(X:Zdb)(d:JM)(nv:Value)(done:Bool)(r:YH):Zn->Prop
 |.on k=>Ze w X d nv k/\done=false/\r=Jc
 |.fin r'=>nv=.nilFunc/\done=true/\r=r'
def Jx (X:Zdb)(d:JM)(out:Zn)(w:World)(e:Ending)(w':World):Prop:=∃nv done r,e=.returned (.tuple #[nv,.agg #[.bool done,.int .i64 (r.er:Int),.bool r.granted,.int .i64 r.left,.int .i64 r.wait,.int .i64 r.ser,.int .i64 r.now]])/\ZDO w' X d nv done r out/\ZL w w'
theorem ZDO.ext {w w':World}{X:Zdb}{d:JM}{nv:Value}{done:Bool}{r:YH}{out:Zn}(h:ZDO w X d nv done r out)(x:ZL w w'):ZDO w' X d nv done r out:=by
 cases out with
 |on k=>exact⟨h.1.ext x,h.2⟩
 |fin r'=>exact h
theorem Jf {w:World}{X:Zdb}{d:JM}{k:YN}{v:Value}(h:Ze w X d v k):Calls Tryz.prog 133 #[v] w (Jx X d (.on k) w):=(ZSa v w).mono λ_ _ ⟨h1,h2⟩=>⟨v,false,Jc,h1,⟨h.ext h2,rfl,rfl⟩,h2⟩
theorem ZBa (w:World)(X:Zdb)(d:JM)(r:YH):Calls Tryz.prog 178 #[.agg #[.int .i64 (r.er:Int),.bool r.granted,.int .i64 r.left,.int .i64 r.wait,.int .i64 r.ser,.int .i64 r.now]] w (Jx X d (.fin r) w):=(ZRg _ _ _ _ _ _ w).mono λ_ _ ⟨h1,h2⟩=>⟨.nilFunc,true,r,h1,⟨rfl,rfl,rfl⟩,h2⟩
abbrev XG (X:Zdb)(g:Nat):Nat->Prop:=λi=>X i\/i=g
theorem kpg {w W:World}{X:Zdb}{g:Nat}(x:ZL w W)(hg:w.heap.size<=g):Kp w W X (XG X g):=Kp.of (S:=λ_=>False) (GB.of_ext _ x) (λ_ _ e=>e.elim) (λi hi e=>e.resolve_right ZB)
theorem Z0.xg {w W:World}{X:Zdb}{g:Nat}(h:Z0 w X)(x:ZL w W)(hg:g<W.heap.size):Z0 W (XG X g):=λi hi=>hi.elim (λe=>Zb5 (h i e) x.size) (λe=>e ▸ hg)
theorem gb7 (w:World)(g:Nat)(b0 b1 b2 b3 b4 b5 b6:Value):GB w (((((((w.setCell ⟨g,0,none⟩ b0).setCell ⟨g,1,none⟩ b1).setCell ⟨g,2,none⟩ b2).setCell ⟨g,3,none⟩ b3).setCell ⟨g,4,none⟩ b4).setCell ⟨g,5,none⟩ b5).setCell ⟨g,6,none⟩ b6) (· =g):=(GB.refl w (· =g)).grown (ZP3 w g b0 b1 b2 b3 b4 b5 b6) (λq e=>by injection e with e;exact .inl e.symm)
theorem Ze.xg {w w':World}{X:Zdb}{g:Nat}{d:JM}{v:Value}{k:YN}(h:Ze w (XG X g) d v k)(b:GB w w' (· =g)):Ze w' X d v k:=h.kp (Kp.of b (λ_ _ e=>.inr e) (λ_ _ e=>.inl e))
theorem Yj {w w2:World}{X:Zdb}{d:JM}{out:Zn}{nv:Value}{done:Bool}{r:YH}{g:Nat}(h:ZDO w2 (XG X g) d nv done r out)(x:ZL w w2)(hg:w.heap.size<=g)(b0 b1 b2 b3 b4 b5 b6:Value): Jx X d out w (.returned (.tuple #[nv,.agg #[.bool done,.int .i64 (r.er:Int),.bool r.granted,.int .i64 r.left,.int .i64 r.wait,.int .i64 r.ser,.int .i64 r.now]])) (((((((w2.setCell ⟨g,0,none⟩ b0).setCell ⟨g,1,none⟩ b1).setCell ⟨g,2,none⟩ b2).setCell ⟨g,3,none⟩ b3).setCell ⟨g,4,none⟩ b4).setCell ⟨g,5,none⟩ b5).setCell ⟨g,6,none⟩ b6):=by
 have k7:=gb7 w2 g b0 b1 b2 b3 b4 b5 b6;have x7:=ZTl x hg b0 b1 b2 b3 b4 b5 b6;refine⟨nv,done,r,rfl,?_,x7⟩;cases out with
 |on k=>obtain⟨a,b,c⟩:=h;exact⟨Ze.xg a k7,b,c⟩
 |fin r'=>obtain⟨a,b,c⟩:=h;exact⟨a,b,c⟩
theorem Y2.sv {w:World}{X:Zdb}{d:JM}{sv tv:Value}{t:ZAe}(h:Y2 w X d sv tv t):sv=.nilFunc\/∃f c,sv=Z1 f c:=by
 cases t with
 |leave r=>obtain⟨_,_,_,h0,_⟩:=h;exact .inl h0
 |gone j s g n=>obtain⟨_,_,_,_,_,_,h0,_⟩:=h;exact .inl h0
 |count f c r=>obtain⟨_,_,_,h0,_⟩:=h;exact .inr ⟨_,_,h0⟩
 |serial f c=>obtain⟨_,_,_,_,h0,_⟩:=h;exact .inr ⟨_,_,h0⟩
theorem ZIk (w:World)(X:Zdb)(d:JM)(word by_ stop:Nat)(sv tv:Value)(t:ZAe)(hX:Z0 w X)(h:Y2 w X d sv tv t): Calls Tryz.prog 244 #[ZH d.xb,.int .i64 (word:Int),.int .u64 (by_:Int),.int .u64 (stop:Int),sv,tv] w (ClR (λw' v=>Ze w' X d v (.mv word by_ stop t)) w):=by
 have hmf:=Jg;obtain⟨f,c,rfl⟩:=h.fn;have H:=ZA h;rcases h.sv with rfl|⟨f2,c2,rfl⟩
 all_goals
  clear h;go_enter Tryz.func244,Tryz.ntmps244;go_wp2_with fail;go_ret;exact⟨_,rfl,⟨_,_,_,_,_,_,_,_,rfl,((((((Zb.new rfl (hX.not ZB)).past _).past _).past _).past _).past _),(((((Zb.new ZTv (hX.not ZB)).past _).past _).past _).past _),(((Zb.new ZTv (hX.not ZB)).past _).past _),((Zb.new ZTv (hX.not ZB)).past _),((((Zb.new ZTv (hX.not ZB)).past _).past _).past _),(Zb.new ZTv (hX.not ZB)),H.o.ext (((((((ZL.refl w).alloc _).alloc _).alloc _).alloc _).alloc _).alloc _)⟩,(((((((ZL.refl w).alloc _).alloc _).alloc _).alloc _).alloc _).alloc _)⟩
theorem ZQS (w:World)(X:Zdb)(d:JM)(f:Yi)(n c:Nat)(A:Option Addr)(rs:List YI)(ce:ZO)(r:YI)(hX:Z0 w X)(hn:f.cells.length=n)(hf:Zq w X A f.cells rs)(hc:YQ w X r ce): Calls Tryz.prog 192 #[ZH d.xb,.agg #[.int .u8 (d.pol.kind:Int),.int .i64 d.pol.T,.int .i64 d.pol.Tau,.int .i64 d.pol.perm],.agg #[.int .i64 (f.word:Int),.int .u64 (f.v:Int),.slice A n c],.int .i64 (f.at_:Int),.bool f.there,.agg #[.int .i64 (ce.pol:Int),.slice r.K ce.key.length r.kc,.int .i64 ce.tat,.slice r.H ce.held.length r.hc]] w (ClR (λw' v=>Ze w' X d v (.allow f ce)) w):=by
 have hmf:=Jg;subst hn;have HF:=ZA hf;have HC:=ZA hc;clear hf hc;go_enter Tryz.func192,Tryz.ntmps192;go_wp2_with fail;go_ret;exact⟨_,rfl,⟨_,_,_,_,_,_,rfl,(((((Zb.new ZTv (hX.not ZB)).past _).past _).past _).past _),⟨r,(Zb.new ZTv (hX.not ZB)),HC.o.ext (((((((ZL.refl w).alloc _).alloc _).alloc _).alloc _).alloc _).alloc _)⟩,((((((Zb.new rfl (hX.not ZB)).past _).past _).past _).past _).past _),⟨A,c,rs,((((Zb.new ZTv (hX.not ZB)).past _).past _).past _),HF.o.ext (((((((ZL.refl w).alloc _).alloc _).alloc _).alloc _).alloc _).alloc _)⟩,(((Zb.new ZTv (hX.not ZB)).past _).past _),((Zb.new ZTv (hX.not ZB)).past _)⟩,(((((((ZL.refl w).alloc _).alloc _).alloc _).alloc _).alloc _).alloc _)⟩
theorem ZMw (w:World)(X:Zdb)(d:JM)(n nn:Nat)(fi:FuncId)(ci:Array Value)(t:ZAe)(hX:Z0 w X)(h1:1<=n)(h2:n<=5000)(hnn:18446744073709551616 - n=nn)(h:∀w' q,ZL w w'->Zz w' X q (Z1 fi ci)->Y2 w' X d .nilFunc (Z1 245 #[q]) t): Calls Tryz.prog 188 #[ZH d.xb,.int .u64 (n:Int),Z1 fi ci] w (ClR (λw' v=>Ze w' X d v (.mv 32 nn JH t)) w):=by
 have hmf:=Jg;have hw:IntKind.u64.wrap (-(n:Int))=(nn:Int):=by rw[Zab];omega
 obtain⟨W,hW⟩:=ZTz (w.alloc (.cells #[Z1 fi ci] 138));have xW:ZL w W:=by rw[<-hW];exact((ZL.refl w).alloc _)
 have MV:=ZA (ZIk W X d 32 nn 18446744073709551615 .nilFunc _ t (hX.ext xW) (h W (ZH w.heap.size) xW (by rw[<-hW];exact(Zb.new rfl (hX.not ZB)))));have XW:=ZA xW;clear h xW;go_enter Tryz.func188,Tryz.ntmps188;go_wp2_with fail
 (try rw[hW])
 clear hW;refine MV.o.mono ?_;rintro e w1 ⟨v,rfl,hk,hx⟩;have HK:=ZA hk;have HX:=ZA hx;clear hk hx;go_wp2_with fail;go_ret;exact⟨_,rfl,HK.o,XW.o.trans HX.o⟩
theorem ZDe (w:World)(X:Zdb)(d:JM)(res:Bool)(r:YH)(hX:Z0 w X)(h7:w.cell? ⟨d.xb,7,none⟩=some (.bool res)): Calls Tryz.prog 249 #[ZH d.xb,.agg #[.int .i64 (r.er:Int),.bool r.granted,.int .i64 r.left,.int .i64 r.wait,.int .i64 r.ser,.int .i64 r.now]] w (Jx X d (YT res r) w):=by
 have hmf:=Jg;obtain⟨W,hW⟩:=ZTz ((w.alloc (.cells #[.int .i64 (r.er:Int),.bool r.granted,.int .i64 r.left,.int .i64 r.wait,.int .i64 r.ser,.int .i64 r.now] 39)).alloc ZUA);have xW:ZL w W:=by rw[<-hW];exact(((ZL.refl w).alloc _).alloc _)
 have r0:Zb W (XG X (w.heap.size+1)) (ZH w.heap.size) (ZDx r):=by rw[<-hW];exact(Zb.new (X:=XG X (w.heap.size+1)) rfl (λe=>e.elim (hX.not (Zb0 _)) ZB)).past _
 have K1:=ZA (show W.heap[w.heap.size+1]?=some ZUA by rw[<-hW];exact Zd _ _ ZTv);have c0:=r0.ZT2 0 (.int .i64 (r.er:Int));have c1:=r0.ZT2 1 (.bool r.granted);have c2:=r0.ZT2 2 (.int .i64 r.left);have c3:=r0.ZT2 3 (.int .i64 r.wait);have c4:=r0.ZT2 4 (.int .i64 r.ser);have c5:=r0.ZT2 5 (.int .i64 r.now);have d7:=ZG xW h7;have hXW:Z0 W (XG X (w.heap.size+1)):=hX.xg xW (ZW K1.o);have XW:=ZA xW;cases res with
 |false=>
  have EN:=ZA (ZBa W (XG X (w.heap.size+1)) d r);clear r0 xW;go_enter Tryz.func249,Tryz.ntmps249;go_wp2_with fail
  (try rw[hW])
  clear hW;refine EN.o.mono ?_;rintro e w1 ⟨nv,done,r',rfl,ho,hx⟩;have HO:=ZA ho;have HX:=ZA hx;have K2:=ZA (ZJ K1.o hx);obtain⟨s0,z0,s1,z1,s2,z2,s3,z3,s4,z4,s5,z5,s6,z6⟩:=ZT9 K2.o;clear ho hx;go_wp2_with fail;refine ZcY (ZQ (p:=5) (u:=4) rfl _ _ (w.heap.size+1) _ #[.bool done,.int .i64 (r'.er:Int),.bool r'.granted,.int .i64 r'.left,.int .i64 r'.wait,.int .i64 r'.ser,.int .i64 r'.now] (0,0) _ rfl (Yf K2.o _ _ _ _ _ _ _) Tryz.underlying41 ZTw ZC) rfl ?_;exact Yj HO.o (XW.o.trans HX.o) ZB _ _ _ _ _ _ _
 |true=>
  have BK:=ZA (ZMw W (XG X (w.heap.size+1)) d 1 JH 281 #[ZH w.heap.size] (.leave r) hXW ZB ZB rfl (λw' q x hq=>⟨q,_,_,rfl,rfl,hq,rfl,r0.ext x⟩));clear r0 xW;go_enter Tryz.func249,Tryz.ntmps249;go_wp2_with fail
  (try rw[hW])
  clear hW;refine BK.o.mono ?_;rintro e w1 ⟨v,rfl,hk,hx⟩;have ON:=ZA (Jf hk);have X1:=ZA (XW.o.trans hx);have K2:=ZA (ZJ K1.o hx);clear hk hx;go_wp2_with fail;refine ON.o.mono ?_;rintro e w2 ⟨nv,done,r',rfl,ho,hx⟩;have HO:=ZA ho;have HX:=ZA hx;have K3:=ZA (ZJ K2.o hx);obtain⟨s0,z0,s1,z1,s2,z2,s3,z3,s4,z4,s5,z5,s6,z6⟩:=ZT9 K3.o;clear ho hx;go_wp2_with fail;refine ZcY (ZQ (p:=5) (u:=4) rfl _ _ (w.heap.size+1) _ #[.bool done,.int .i64 (r'.er:Int),.bool r'.granted,.int .i64 r'.left,.int .i64 r'.wait,.int .i64 r'.ser,.int .i64 r'.now] (0,0) _ rfl (Yf K3.o _ _ _ _ _ _ _) Tryz.underlying41 ZTw ZC) rfl ?_;exact Yj HO.o (X1.o.trans HX.o) ZB _ _ _ _ _ _ _
theorem ZMt (w:World)(X:Zdb)(d:JM)(word by_ stop:Nat)(wi bi si:Int)(sv tv:Value)(t:ZAe)(h1:wi=(word:Int))(h2:bi=(by_:Int))(h3:si=(stop:Int))(hX:Z0 w X)(h:Y2 w X d sv tv t): Calls Tryz.prog 244 #[ZH d.xb,.int .i64 wi,.int .u64 bi,.int .u64 si,sv,tv] w (ClR (λw' v=>Ze w' X d v (.mv word by_ stop t)) w):=by
 subst h1 h2 h3;exact ZIk w X d word by_ stop sv tv t hX h
theorem ZLx (w:World)(X:Zdb)(d:JM)(f:Yi)(n c:Nat)(A:Option Addr)(rs:List YI)(ce:ZO)(rc:YI)(r:YH)(res:Bool)(gx room:Nat)(hX:Z0 w X)(hn:f.cells.length=n)(hf:Zq w X A f.cells rs)(hc:YQ w X rc ce)(h4:w.cell? ⟨d.xb,4,none⟩=some (ZH gx))(h7:w.cell? ⟨d.xb,7,none⟩=some (.bool res))(hr:w.cell? ⟨gx,1,none⟩=some (.int .u64 (room:Int))): Calls Tryz.prog 195 #[ZH d.xb,.agg #[.int .i64 (f.word:Int),.int .u64 (f.v:Int),.slice A n c],.int .i64 (f.at_:Int),.bool f.there,.agg #[.int .i64 (ce.pol:Int),.slice rc.K ce.key.length rc.kc,.int .i64 ce.tat,.slice rc.H ce.held.length rc.hc],.agg #[.int .i64 (r.er:Int),.bool r.granted,.int .i64 r.left,.int .i64 r.wait,.int .i64 r.ser,.int .i64 r.now]] w (ClR (λw' v=>Ze w' X d v (Jk room res f ce r)) w):=by
 have hmf:=Jg;obtain⟨there,Hth⟩:=ZTy (f.there);subst hn;rw[Hth.o];have HF:=ZA hf;have HC:=ZA hc;clear hf hc;obtain⟨W,hW⟩:=ZTz ((((((((w.alloc (.cells #[ZH d.xb] 203)).alloc (.cells #[.int .i64 (f.word:Int),.int .u64 (f.v:Int),.slice A f.cells.length c] 319)).alloc (.cells #[.int .i64 (f.at_:Int)] 3)).alloc (.cells #[.bool there] 4)).alloc (.cells #[.int .i64 (ce.pol:Int),.slice rc.K ce.key.length rc.kc,.int .i64 ce.tat,.slice rc.H ce.held.length rc.hc] 62)).alloc (.cells #[.int .i64 (r.er:Int),.bool r.granted,.int .i64 r.left,.int .i64 r.wait,.int .i64 r.ser,.int .i64 r.now] 39)).alloc (.cells #[Z1 255 #[ZH w.heap.size,ZH (w.heap.size+1),ZH (w.heap.size+1+1),ZH (w.heap.size+1+1+1),ZH (w.heap.size+1+1+1+1),ZH (w.heap.size+1+1+1+1+1)]] 138)));have xW:ZL w W:=by rw[<-hW];exact((((((((ZL.refl w).alloc _).alloc _).alloc _).alloc _).alloc _).alloc _).alloc _)
 have PA:ZCM W X d (Z1 255 #[ZH w.heap.size,ZH (w.heap.size+1),ZH (w.heap.size+1+1),ZH (w.heap.size+1+1+1),ZH (w.heap.size+1+1+1+1),ZH (w.heap.size+1+1+1+1+1)]) f ce r:=by
  rw[<-hW];refine⟨_,_,_,_,_,_,rfl,(((((((Zb.new rfl (hX.not ZB)).past _).past _).past _).past _).past _).past _),⟨A,c,rs,((((((Zb.new ZTv (hX.not ZB)).past _).past _).past _).past _).past _),HF.o.ext ((((((((ZL.refl w).alloc _).alloc _).alloc _).alloc _).alloc _).alloc _).alloc _)⟩,(((((Zb.new ZTv (hX.not ZB)).past _).past _).past _).past _),?_,⟨rc,(((Zb.new ZTv (hX.not ZB)).past _).past _),HC.o.ext ((((((((ZL.refl w).alloc _).alloc _).alloc _).alloc _).alloc _).alloc _).alloc _)⟩,((Zb.new ZTv (hX.not ZB)).past _)⟩;rw[Hth.o];exact((((Zb.new ZTv (hX.not ZB)).past _).past _).past _)
 have r6:Zb W X (ZH (w.heap.size+1+1+1+1+1+1)) #[Z1 255 #[ZH w.heap.size,ZH (w.heap.size+1),ZH (w.heap.size+1+1),ZH (w.heap.size+1+1+1),ZH (w.heap.size+1+1+1+1),ZH (w.heap.size+1+1+1+1+1)]]:=by rw[<-hW];exact(Zb.new ZTv (hX.not ZB))
 have e0:W.cell? ⟨w.heap.size,0,none⟩=some (ZH d.xb):=by rw[<-hW];exact((((((((Zb.new rfl (hX.not ZB)).past _).past _).past _).past _).past _).past _)).cell 0
 have e3:W.cell? ⟨w.heap.size+1+1+1,0,none⟩=some (.bool there):=by rw[<-hW];exact(((((Zb.new ZTv (hX.not ZB)).past _).past _).past _)).cell 0
 have e6:=r6.ZT2 0 (Z1 255 #[ZH w.heap.size,ZH (w.heap.size+1),ZH (w.heap.size+1+1),ZH (w.heap.size+1+1+1),ZH (w.heap.size+1+1+1+1),ZH (w.heap.size+1+1+1+1+1)]);have d4:=ZG xW h4;have d7:=ZG xW h7;have dr:=ZG xW hr;have XW:=ZA xW;have PA':=ZA PA;cases there with
 |true=>
  unfold Jk;rw[Zcg (.inl Hth.o)];clear r6 PA xW;go_enter Tryz.func195,Tryz.ntmps195;go_upto_region 2 with fail
  (try rw[hW])
  clear hW;go_wp2_with fail;go_ret;exact⟨_,rfl,PA'.o,XW.o⟩
 |false=>
  cases res with
  |true=>
   unfold Jk;rw[Zcg (.inr rfl)];clear r6 PA xW;go_enter Tryz.func195,Tryz.ntmps195;go_upto_region 2 with fail
   (try rw[hW])
   clear hW;go_wp2_with fail;go_ret;exact⟨_,rfl,PA'.o,XW.o⟩
  |false=>
   unfold Jk;rw[Zcf (by rw[Hth.o];simp)];have MV:=ZA (ZMt W.drew X d 32 1 room 32 1 (room:Int) (Z1 257 #[]) (Z1 258 #[ZH w.heap.size,ZH (w.heap.size+1+1+1+1+1+1)]) (.count f ce r) rfl rfl rfl (hX.ext (xW.trans (ZL.refl W).drew)) ⟨_,_,_,rfl,rfl,by rw[<-hW];exact((((((((Zb.new rfl (hX.not ZB)).past _).past _).past _).past _).past _).past _)).drew,Zb.drew r6,PA.ext (ZL.refl W).drew⟩);clear r6 PA xW;go_enter Tryz.func195,Tryz.ntmps195;go_upto_region 2 with fail
   (try rw[hW])
   clear hW;go_upto_region 5 with fail
   go_region_held3 (λw'=>w'.cell? ⟨w.heap.size,0,none⟩=some (ZH d.xb)/\w'.cell? ⟨d.xb,4,none⟩=some (ZH gx)/\w'.cell? ⟨gx,1,none⟩=some (.int .u64 (room:Int))) (((try go_split_ands);refine⟨?_,?_,?_⟩<;>first|assumption|with_reducible first|exact ZK e0|exact te0|exact ZK te0|exact ZI te0 _|exact ZK (ZI e0 _)|exact ZK d4|exact td4|exact ZK td4|exact ZI td4 _|exact ZK (ZI d4 _)|exact ZK dr|exact tdr|exact ZK tdr|exact ZI tdr _|exact ZK (ZI dr _))) ((go_at_call 244;(with_reducible refine MV.o.mono ?_);rintro e w2 ⟨v,rfl,hk,hx⟩;have HK:=ZA hk;have HX:=ZA hx;have te0:=ZG ((ZL.refl W).drew.trans hx) e0;have td4:=ZG ((ZL.refl W).drew.trans hx) d4;have tdr:=ZG ((ZL.refl W).drew.trans hx) dr;clear hk hx))
   all_goals
    go_wp2_with fail;go_ret;exact⟨_,rfl,HK.o,XW.o.trans ((ZL.refl W).drew.trans HX.o)⟩
theorem ZET:∀P:List YR,(ZAI P).length=P.length*4
 |[]=>rfl
 |p::P=>by
  have:=ZET P;unfold ZAI at this ⊢;rw[Zat,Za9,this,ZbA,Zbt,ZcH,Zbq];rfl
theorem ZBt:∀(P:List YR) (i j:Nat) (p:YR),P[i]?=some p->j<4->(ZAI P)[i*4+j]?=(ZCY p)[j]?
 |[],_,_,_,h,_=>by simp at h
 |p0::P,0,j,p,h,hj=>by
  simp at h;subst h;unfold ZAI;rw[Zat,ZcM,ZcK,Zav (show j<4 from hj)];exact Array.getElem?_toList
 |p0::P,i+1,j,p,h,hj=>by
  have:=ZBt P i j p (by simpa using h) hj;unfold ZAI at this ⊢;rw[Zat,Zaw (by show 4<=_;omega),<-this]
  congr 1
  show(i+1)*4+j - 4=_;omega
theorem ZBI {P:List YR}{i:Nat}(h:i<P.length):P[i]?=some (Zk P i):=ZBz h
theorem ZAy.pol {w:World}{X:Zdb}{g:YE}(h:ZAy w X g){i:Nat}(hi:i<g.P.length): ∃b off,g.PA=some ⟨b,off,none⟩/\w.cell? ⟨b,off+i*4,none⟩=some (.int .u8 ((Zk g.P i).kind:Int))/\w.cell? ⟨b,off+i*4+1,none⟩=some (.int .i64 (Zk g.P i).T)/\w.cell? ⟨b,off+i*4+2,none⟩=some (.int .i64 (Zk g.P i).Tau)/\w.cell? ⟨b,off+i*4+3,none⟩=some (.int .i64 (Zk g.P i).perm):=by
 have e:=λj (hj:j<4)=>ZBt g.P i j _ (ZBI hi) hj;obtain⟨b,off,hA,hc⟩:=h.prd (λe0=>by have:=e 0 ZB;rw[e0]at this;simp[ZCY]at this);refine⟨b,off,hA,?_,?_,?_,?_⟩
 ·exact hc _ _ (e 0 ZB)
 ·rw[Zbp];exact hc _ _ (e 1 ZB)
 ·rw[Zbp];exact hc _ _ (e 2 ZB)
 ·rw[Zbp];exact hc _ _ (e 3 ZB)
theorem XAt.cells {w:World}{X:Zdb}{gx who xb:Nat}{x:ZX}{res:Bool}{ser:Int}(h:XAt w X gx who x res ser xb): ∃K kc,w.cell? ⟨xb,0,none⟩=some (.int .u8 (x.op:Int))/\w.cell? ⟨xb,1,none⟩=some (.int .i64 (x.pol:Int))/\w.cell? ⟨xb,2,none⟩=some (.slice K x.key.length kc)/\w.cell? ⟨xb,3,none⟩=some (.int .i64 x.n)/\w.cell? ⟨xb,4,none⟩=some (ZH gx)/\w.cell? ⟨xb,5,none⟩=some (.int .i64 (who:Int))/\w.cell? ⟨xb,6,none⟩=some (.int .u64 (JD x.id:Int))/\w.cell? ⟨xb,7,none⟩=some (.bool res)/\w.cell? ⟨xb,8,none⟩=some (.int .i64 ser)/\ x.key.length<=kc/\Rd w K (ZV .u8 x.key)/\Fz w X K:=by
 obtain⟨t,K,kc,h1,h2,h3,h4⟩:=h;exact⟨K,kc,ZE h1 0,ZE h1 1,ZE h1 2,ZE h1 3,ZE h1 4,ZE h1 5,ZE h1 6,ZE h1 7,ZE h1 8,h2,h3,h4⟩
theorem ZKS (w:World)(X:Zdb)(g:YE)(who xb:Nat)(x:ZX)(res:Bool)(ser:Int)(hX:Z0 w X)(hx:XAt w X g.gx who x res ser xb)(hg:ZAy w X g)(hp:x.pol<g.P.length)(hpm:g.P.length<=32): Calls Tryz.prog 135 #[ZH xb] w (ClR (λw' v=>Ze w' X (Zi g who xb x) v (.find (JD x.id) .begin)) w):=by
 have hmf:=Jg;obtain⟨b,off,hPA,p0,p1,p2,p3⟩:=hg.pol hp;obtain⟨K,kc,x0,x1,x2,x3,x4,x5,x6,x7,x8,-,-,-⟩:=hx.cells;obtain⟨W,hW⟩:=ZTz ((w.alloc (.cells #[ZH xb] 203)));have xW:ZL w W:=by rw[<-hW];exact((ZL.refl w).alloc _)
 have r0:Zb W X (ZH w.heap.size) #[ZH xb]:=by rw[<-hW];exact(Zb.new rfl (hX.not ZB))
 have e0:=r0.ZT2 0 (ZH xb);have y4:=ZG xW x4;have y1:=ZG xW x1;have c0:=ZG xW hg.c0;rw[hPA]at c0;have q0:=ZG xW p0;have q1:=ZG xW p1;have q2:=ZG xW p2;have q3:=ZG xW p3;obtain⟨W2,hW2⟩:=ZTz ((W.alloc (.cells #[.int .u8 ((Zk g.P x.pol).kind:Int),.int .i64 (Zk g.P x.pol).T,.int .i64 (Zk g.P x.pol).Tau,.int .i64 (Zk g.P x.pol).perm] 80)));have xW2:ZL W W2:=by rw[<-hW2];exact(ZL.refl W).alloc _
 have hs1:W.heap.size=w.heap.size+1:=by rw[<-hW];simp
 have r1:Zb W2 X (ZH W.heap.size) (ZCY (Zk g.P x.pol)):=by rw[<-hW2];exact Zb.new rfl (hX.not ZB)
 have r0':=r0.ext xW2;have FD:=ZA (λu (y:ZL W2 u)=>ZEc u X (Zi g who xb x) (JD x.id) (Z1 190 #[ZH w.heap.size,ZH W.heap.size]) .begin (hX.ext ((xW.trans xW2).trans y)) ⟨_,_,rfl,r0'.ext y,r1.ext y⟩);have f0:=ZG xW2 e0;have f4:=ZG xW2 y4;have f5:=ZG (xW.trans xW2) x5;have f6:=ZG (xW.trans xW2) x6;have f2:=ZG (xW.trans xW2) hg.c2;have XW:=ZA (xW.trans xW2);have Hs1:=ZA hs1;clear hx hg x0 x2 x3 x5 x6 x7 x8 p0 p1 p2 p3 r0 r0' r1 xW xW2 hPA x4 x1 hX hs1;have e0':=ZI e0 (.cells #[.int .u8 0,.int .i64 0,.int .i64 0,.int .i64 0] 80);have y4':=ZI y4 (.cells #[.int .u8 0,.int .i64 0,.int .i64 0,.int .i64 0] 80);have y1':=ZI y1 (.cells #[.int .u8 0,.int .i64 0,.int .i64 0,.int .i64 0] 80);have c0':=ZI c0 (.cells #[.int .u8 0,.int .i64 0,.int .i64 0,.int .i64 0] 80);have q0':=ZI q0 (.cells #[.int .u8 0,.int .i64 0,.int .i64 0,.int .i64 0] 80);have q1':=ZI q1 (.cells #[.int .u8 0,.int .i64 0,.int .i64 0,.int .i64 0] 80);have q2':=ZI q2 (.cells #[.int .u8 0,.int .i64 0,.int .i64 0,.int .i64 0] 80);have q3':=ZI q3 (.cells #[.int .u8 0,.int .i64 0,.int .i64 0,.int .i64 0] 80);go_enter Tryz.func135,Tryz.ntmps135;go_upto_region 1 with fail
 (try rw[hW])
 clear hW;go_region
 (try rw[hW2])
 clear hW2 e0' y4' y1' c0' q0' q1' q2' q3' e0 y4 y1 c0 q0 q1 q2 q3;go_upto_region 2 with fail
 go_region_held3 (λw'=>w'.cell? ⟨w.heap.size,0,none⟩=some (ZH xb)/\w'.cell? ⟨xb,4,none⟩=some (ZH g.gx)/\w'.cell? ⟨g.gx,2,none⟩=some (ZH g.gl)/\w'.cell? ⟨xb,5,none⟩=some (.int .i64 (who:Int))/\w'.cell? ⟨xb,6,none⟩=some (.int .u64 (JD x.id:Int))) (((try go_split_ands);refine⟨?_,?_,?_,?_,?_⟩<;>first|assumption|with_reducible first|exact ZK f0|exact tf0|exact ZK tf0|exact ZI tf0 _|exact ZK (ZI f0 _)|exact ZK f4|exact tf4|exact ZK tf4|exact ZI tf4 _|exact ZK (ZI f4 _)|exact ZK f2|exact tf2|exact ZK tf2|exact ZI tf2 _|exact ZK (ZI f2 _)|exact ZK f5|exact tf5|exact ZK tf5|exact ZI tf5 _|exact ZK (ZI f5 _)|exact ZK f6|exact tf6|exact ZK tf6|exact ZI tf6 _|exact ZK (ZI f6 _))) ((go_at_call 179;(with_reducible refine(FD.o _ ((ZL.refl W2).drew.drew)).mono ?_);rintro e w2 ⟨v,rfl,hk,hx⟩;have HK:=ZA hk;have HX:=ZA hx;have hx2:=(ZL.refl W2).drew.drew.trans hx;have tf0:=ZG hx2 f0;have tf4:=ZG hx2 f4;have tf2:=ZG hx2 f2;have tf5:=ZG hx2 f5;have tf6:=ZG hx2 f6;clear hk hx hx2))
 all_goals
  go_wp2_with fail;go_ret;exact⟨_,rfl,HK.o,XW.o.trans ((ZL.refl W2).drew.drew.trans HX.o)⟩
def Z9 (w:World)(g:YE)(O C:Zdb)(xb:Nat->Nat)(L:List Zf)(s:YF)(C':Zdb)(w':World):Prop:=YK w' g O C' xb L s/\GB w w' C/\∀i,C' i->C i\/w.heap.size<=i
theorem Z9.kp {w w':World}{g:YE}{O C C':Zdb}{xb:Nat->Nat}{L:List Zf}{s:YF}(h:Z9 w g O C xb L s C' w'):Kp w w' (XO C O) (XO C' O):=Kp.of h.2.1 (λi _ e=>.inl e) (λi hi e=>e.imp (λe=>(h.2.2 i e).resolve_right ZB) id)
theorem ZBE.mov {w w':World}{g:YE}{O C:Zdb}{xb:Nat->Nat}{L:List Zf}{s:YF}(h:ZBE w g O C xb L s w'):∃C',Z9 w g O C xb L s C' w':=h
theorem Z9.go {w w':World}{g:YE}{O C C':Zdb}{xb:Nat->Nat}{L:List Zf}{s:YF}(h:Z9 w g O C xb L s C' w'):ZBE w g O C xb L s w':=⟨C',h⟩
theorem Z9.ext {w w1 w2:World}{g:YE}{O C C':Zdb}{xb:Nat->Nat}{L:List Zf}{s:YF}(h:Z9 w g O C xb L s C' w1)(x:ZL w1 w2):Z9 w g O C xb L s C' w2:=⟨h.1.ext x,h.2.1.ext x,h.2.2⟩
theorem Z9.back {w0 w w1:World}{g:YE}{O C C':Zdb}{xb:Nat->Nat}{L:List Zf}{s:YF}(x:ZL w0 w)(h:Z9 w g O C xb L s C' w1):Z9 w0 g O C xb L s C' w1:=⟨h.1,GB.back x h.2.1,λi hi=>(h.2.2 i hi).imp id (Zb2 x.size)⟩
def ZSK (w:World)(g:YE)(O C:Zdb)(xb:Nat->Nat)(L:List Zf)(s:YF)(u n:Nat)(h:List ZO)(e:Ending)(w':World):Prop:=∃A c rs C',e=.returned (.tuple #[.int .u64 (u:Int),.slice A n c])/\Zq w' (XO C' O) A h rs/\Z9 w g O C xb L s C' w'
theorem ZEd (w:World)(g:YE)(O C:Zdb)(xb:Nat->Nat)(L:List Zf)(s:YF)(who i u n:Nat)(h:YK w g O C xb L s)(hL:L.length<=1000000)(hw:who<64)(hi:i<34)(hu:s.ws.getD i 0=u)(hn:(s.hs.getD i []).length=n): Calls Tryz.prog 174 #[ZH g.gb,.int .i64 (who:Int),.int .i64 (i:Int)] w (ZSK w g O C xb (L++[⟨who,1,i,u,0,true⟩]) s u n (s.hs.getD i [])):=by
 obtain⟨Fm,hm,hwl,b0,b1,hh,-,nFb,nFh,go1,-,-⟩:=h.swap;obtain⟨A,c,rs,g0,hE⟩:=hh i hi;have hx:s.ws[i]?=some u:=by rw[<-hu];exact ZBz (by rw[hwl];exact hi)
 have LD:=ZA (ZRT w Fm g.gm s.ws (s.clk:Int) L who i u hm hL ZB ZB hx);have HE:=ZA hE;have G1:=ZA go1;rw[hn]at g0;clear h hm hE go1 hh hx hwl hu hn;have hi0:(i:Int)<34:=by omega
 go_enter Tryz.func174,Tryz.ntmps174;go_wp2_with fail;refine LD.o.mono ?_;rintro e w1 ⟨rfl,hg⟩;have HG:=ZA hg;obtain⟨_,_,k,_⟩:=hg;have c0:=k.cell b0 nFb;have c1:=k.cell b1 nFb;have d0:=k.cell g0 nFh;clear b0 b1 g0 k;go_wp2_with fail;go_region;go_wp2_with fail
 go_ret2
 obtain⟨C',hmv⟩:=(G1.o _ _ HG.o).mov;have hmv':=hmv.ext (ZL.refl w1).drew;exact⟨A,c,rs,C',ZAz rfl rfl,HE.o.kp hmv'.kp,hmv'⟩
theorem ZAa (w:World)(g:YE)(O C:Zdb)(xb:Nat->Nat)(L:List Zf)(s:YF)(who i u n:Nat)(ii:Int)(h:YK w g O C xb L s)(hL:L.length<=1000000)(hw:who<64)(hi:i<34)(hu:s.ws.getD i 0=u)(hn:(s.hs.getD i []).length=n)(hii:ii=(i:Int)): Calls Tryz.prog 174 #[ZH g.gb,.int .i64 (who:Int),.int .i64 ii] w (ZSK w g O C xb (L++[⟨who,1,i,u,0,true⟩]) s u n (s.hs.getD i [])):=by
 subst hii;exact ZEd w g O C xb L s who i u n h hL hw hi hu hn
theorem Jl (w:World)(g:YE)(O C:Zdb)(xb:Nat->Nat)(L:List Zf)(s:YF)(who i u new n c:Nat)(ni:Int)(A:Option Addr)(l:List ZO)(rs:List YI)(h:YK w g O C xb L s)(hL:L.length<=1000000)(hw:who<64)(hi:i<34)(hu:s.ws.getD i 0=u)(hni:ni=(new:Int))(hn:l.length=n)(hc:Zq w (XO C O) A l rs): Calls Tryz.prog 80 #[ZH g.gb,.int .i64 (who:Int),.int .i64 (i:Int),.int .u64 (u:Int),.int .u64 ni,.slice A n c] w λe w'=>e=.returned (.bool true)/\ZBE w g O C xb (L++[⟨who,2,i,u,new,true⟩]) {s with ws:=s.ws.set i new,hs:=s.hs.set i l} w':=by
 obtain⟨Fm,hm,hwl,b0,b1,hh,⟨t,cs,hb⟩,nFb,nFh,-,go2,-⟩:=h.swap;obtain⟨A0,c0,rs0,g0,-⟩:=hh i hi;have hx:s.ws[i]?=some u:=by rw[<-hu];exact ZBz (by rw[hwl];exact hi)
 subst hni hn;have LD:=ZA (ZJH w Fm g.gm s.ws (s.clk:Int) L who i u new hm hL ZB ZB hx);have G2:=ZA (λw1 hg=>go2 (L++[⟨who,2,i,u,new,true⟩]) w1 i new A c l rs hi hg hc);clear h hm go2 hh hx hwl hu hc;have hi0:(i:Int)<34:=by omega
 obtain⟨n,Hn⟩:=ZTy (l.length);rw[Hn.o];go_enter Tryz.func80,Tryz.ntmps80;go_wp2_with fail;refine LD.o.mono ?_;rintro e w1 ⟨rfl,hg⟩;have HG:=ZA (G2.o w1 hg);obtain⟨_,_,k,_⟩:=hg;have c0:=k.cell b0 nFb;have c1:=k.cell b1 nFb;have d0:=k.cell g0 nFh;have fz:=ZF (k.blk hb nFh) i;clear b0 b1 g0 k hb;go_wp2_with fail;go_ret;refine⟨rfl,?_⟩;have:=HG.o;rw[Hn.o]at this;exact this
theorem ZAC (w:World)(g:YE)(O C:Zdb)(xb:Nat->Nat)(L:List Zf)(s:YF)(who i u old new n c:Nat)(ni:Int)(A:Option Addr)(h:YK w g O C xb L s)(hL:L.length<=1000000)(hw:who<64)(hi:i<34)(hu:s.ws.getD i 0=u)(hne:u≠old)(hni:ni=(new:Int)): Calls Tryz.prog 80 #[ZH g.gb,.int .i64 (who:Int),.int .i64 (i:Int),.int .u64 (old:Int),.int .u64 ni,.slice A n c] w λe w'=>e=.returned (.bool false)/\ZBE w g O C xb (L++[⟨who,2,i,old,new,false⟩]) s w':=by
 obtain⟨Fm,hm,hwl,b0,b1,-,-,nFb,nFh,go1,-,-⟩:=h.swap;have hx:s.ws[i]?=some u:=by rw[<-hu];exact ZBz (by rw[hwl];exact hi)
 subst hni;have LD:=ZA (ZNC w Fm g.gm s.ws (s.clk:Int) L who i u old new hm hL ZB ZB hx hne);have G1:=ZA (λw1 hg=>go1 (L++[⟨who,2,i,old,new,false⟩]) w1 hg);clear h hm go1 hx hwl hu hne;go_enter Tryz.func80,Tryz.ntmps80;go_wp2_with fail;refine LD.o.mono ?_;rintro e w1 ⟨rfl,hg⟩;have HG:=ZA (G1.o w1 hg);clear hg;go_wp2_with fail;go_ret;exact⟨rfl,HG.o⟩
theorem YK.call {w:World}{g:YE}{O C:Zdb}{xb:Nat->Nat}{L:List Zf}{s:YF}(h:YK w g O C xb L s){who:Nat}(hw:who<64){x:ZX}{res:Bool}{ser:Int}{k:YN}(hc:s.call who=.run x res ser k): w.cell? ⟨xb who,4,none⟩=some (ZH g.gx)/\w.cell? ⟨xb who,5,none⟩=some (.int .i64 (who:Int))/\w.cell? ⟨xb who,7,none⟩=some (.bool res)/\w.cell? ⟨xb who,8,none⟩=some (.int .i64 ser)/\w.cell? ⟨xb who,3,none⟩=some (.int .i64 x.n)/\w.cell? ⟨xb who,0,none⟩=some (.int .u8 (x.op:Int)):=by
 obtain⟨K,kc,x0,x1,x2,x3,x4,x5,x6,x7,x8,-,-,-⟩:=(h.xat hw hc).1.cells;exact⟨x4,x5,x7,x8,x3,x0⟩
theorem ZEN (w:World)(g:YE)(O C:Zdb)(xb:Nat->Nat)(L:List Zf)(s:YF)(who i u:Nat)(x:ZX)(res:Bool)(ser:Int)(k:YN)(h:YK w g O C xb L s)(hc:s.call who=.run x res ser k)(hL:L.length<=1000000)(hw:who<64)(hi:i<34)(hu:s.ws.getD i 0=u): Calls Tryz.prog 132 #[ZH (xb who),.int .i64 (i:Int)] w λe w'=>e=.returned (.int .u64 (u:Int))/\ZBE w g O C xb (L++[⟨who,1,i,u,0,true⟩]) s w':=by
 obtain⟨y4,y5,-,-,-,-⟩:=h.call hw hc;have c2:=h.rd.c2;have l0:=h.rd.l0;have LD:=ZA (ZEd w.drew g O C xb L s who i u _ (h.ext (ZL.refl w).drew) hL hw hi hu rfl);have Hc:=ZA hc;obtain⟨n,Hn⟩:=ZTy ((s.hs.getD i []).length);rw[Hn.o]at LD;obtain⟨xw,Hx⟩:=ZTy (xb who);rw[Hx.o]at y4 y5 ⊢;clear h hc hu;go_enter Tryz.func132,Tryz.ntmps132;go_upto_region 1 with fail
 go_cut [5] (λv5 wd=>v5=.int .u64 (u:Int)/\ZBE w g O C xb (L++[⟨who,1,i,u,0,true⟩]) s wd)
 case first=>
  go_region_held3 (λw'=>w'.cell? ⟨xw,4,none⟩=some (ZH g.gx)/\w'.cell? ⟨xw,5,none⟩=some (.int .i64 (who:Int))/\w'.cell? ⟨g.gx,2,none⟩=some (ZH g.gl)/\w'.cell? ⟨g.gl,0,none⟩=some (ZH g.gb)) (((try go_split_ands);exact⟨ZT3,ZT3,ZT3,ZT3⟩)) ((go_at_call 174;(with_reducible refine LD.o.mono ?_);rintro e w2 ⟨A,c,rs,C',rfl,-,hm⟩;have HM:=ZA (hm.back (ZL.refl w).drew).go;obtain⟨ty4',ty5',-,-,-,-⟩:=hm.1.call hw Hc.o;rw[Hx.o]at ty4' ty5';have ty4:=ty4';have ty5:=ty5';have tc2:=hm.1.rd.c2;have tl0:=hm.1.rd.l0;clear hm ty4' ty5'))
  all_goals
   go_wp2_with fail
   go_meet
   exact⟨rfl,HM.o⟩
 case rest=>
  obtain⟨rfl,hg⟩:=hcut;have HG:=ZA hg;clear hg;go_wp2_with fail;go_ret;exact⟨rfl,HG.o⟩
theorem ZCt (w:World)(g:YE)(O C:Zdb)(xb:Nat->Nat)(L L':List Zf)(s s':YF)(who i old:Nat)(ni:Int)(x:ZX)(res:Bool)(ser:Int)(k:YN)(done:Bool)(h:YK w g O C xb L s)(hc:s.call who=.run x res ser k)(hc':s'.call who=.run x res ser k)(hw:who<64)(SW:∀u,ZL w u->Calls Tryz.prog 80 #[ZH g.gb,.int .i64 (who:Int),.int .i64 (i:Int),.int .u64 (old:Int),.int .u64 ni,.slice none 0 0] u λe w'=>e=.returned (.bool done)/\ZBE u g O C xb L' s' w'): Calls Tryz.prog 279 #[ZH (xb who),.int .i64 (i:Int),.int .u64 (old:Int),.int .u64 ni] w λe w'=>e=.returned (.bool done)/\ZBE w g O C xb L' s' w':=by
 obtain⟨y4,y5,-,-,-,-⟩:=h.call hw hc;have c2:=h.rd.c2;have l0:=h.rd.l0;have LD:=ZA (SW w.drew (ZL.refl w).drew);have Hc:=ZA hc';obtain⟨xw,Hx⟩:=ZTy (xb who);rw[Hx.o]at y4 y5 ⊢;clear h hc hc' SW;go_enter Tryz.func279,Tryz.ntmps279;go_upto_region 1 with fail
 go_cut [8] (λv8 wd=>v8=.bool done/\ZBE w g O C xb L' s' wd)
 case first=>
  go_region_held3 (λw'=>w'.cell? ⟨xw,4,none⟩=some (ZH g.gx)/\w'.cell? ⟨xw,5,none⟩=some (.int .i64 (who:Int))/\w'.cell? ⟨g.gx,2,none⟩=some (ZH g.gl)/\w'.cell? ⟨g.gl,0,none⟩=some (ZH g.gb)) (((try go_split_ands);exact⟨ZT3,ZT3,ZT3,ZT3⟩)) ((go_at_call 80;(with_reducible refine LD.o.mono ?_);rintro e w2 ⟨rfl,hg⟩;have HM:=ZA (hg.back (ZL.refl w).drew);obtain⟨C',hm⟩:=hg.mov;obtain⟨ty4',ty5',-,-,-,-⟩:=hm.1.call hw Hc.o;rw[Hx.o]at ty4' ty5';have ty4:=ty4';have ty5:=ty5';have tc2:=hm.1.rd.c2;have tl0:=hm.1.rd.l0;clear hm ty4' ty5' hg))
  all_goals
   go_wp2_with fail
   go_meet
   exact⟨rfl,HM.o⟩
 case rest=>
  obtain⟨rfl,hg⟩:=hcut;have HG:=ZA hg;clear hg;go_wp2_with fail;go_ret;exact⟨rfl,HG.o⟩
def SK (w:World)(g:YE)(O C:Zdb)(xb:Nat->Nat)(who N:Nat)(x:ZX)(s1:YF)(out:Zn)(e:Ending)(w':World):Prop:=∃nv done r C' L',L'.length<=N/\e=.returned (.tuple #[nv,.agg #[.bool done,.int .i64 (r.er:Int),.bool r.granted,.int .i64 r.left,.int .i64 r.wait,.int .i64 r.ser,.int .i64 r.now]])/\Z9 w g O C xb L' s1 C' w'/\ZDO w' (XO C' O) (Zi g who (xb who) x) nv done r out
theorem Ze.xo {w w':World}{C O:Zdb}{gg:Nat}{d:JM}{v:Value}{k:YN}(h:Ze w (XO C (XG O gg)) d v k)(b:GB w w' (· =gg)):Ze w' (XO C O) d v k:=h.kp (Kp.of b (λ_ _ e=>.inr (.inr e)) (λ_ _ e=>e.imp id .inl))
theorem YK.xg {w W:World}{g:YE}{O C:Zdb}{xb:Nat->Nat}{L:List Zf}{s:YF}(h:YK w g O C xb L s)(x:ZL w W){gg:Nat}(h1:w.heap.size<=gg)(h2:gg<W.heap.size):YK W g (XG O gg) C xb L s:=h.far (GB.of_ext (λ_=>False) x) (λ_ _ e=>e.elim) (λi hi e=>e.resolve_right ZB) (λi e=>e.elim (λe=>Zb5 (h.ol i e) x.size) (λe=>e ▸ h2))
theorem YK.newer {w:World}{g:YE}{O C:Zdb}{xb:Nat->Nat}{L:List Zf}{s:YF}(h:YK w g O C xb L s):Z0 w (XO C O):=λi hi=>hi.elim (h.lt i) (h.ol i)
theorem Z9.kpg {w W w2:World}{g:YE}{O C C':Zdb}{xb:Nat->Nat}{L:List Zf}{s:YF}{gg:Nat}(h:Z9 W g (XG O gg) C xb L s C' w2)(x:ZL w W)(hg:w.heap.size<=gg):Kp w w2 (XO C O) (XO C' (XG O gg)):=(Kp.of (S:=λ_=>False) (GB.of_ext _ x) (λ_ _ e=>e.elim) (λi hi e=>e.imp id (λe=>e.resolve_right ZB)):Kp w W (XO C O) (XO C (XG O gg))).trans h.kp
theorem Z9.fin {w W w2 w7:World}{g:YE}{O C C':Zdb}{xb:Nat->Nat}{L:List Zf}{s:YF}{gg:Nat}(h:Z9 W g (XG O gg) C xb L s C' w2)(x:ZL w W)(hg:w.heap.size<=gg)(k:GB w2 w7 (· =gg)):Z9 w g O C xb L s C' w7:=by
 obtain⟨h1,h2,h3⟩:=h;exact⟨h1.far k (λi _ e=>.inr e) (λi _ e=>.inl e) (λi e=>Zb5 (h1.ol i (.inl e)) k.size),(GB.back x h2).trans k (λi e=>.inr (e ▸ hg)),λi hi=>(h3 i hi).imp id (Zb2 x.size)⟩
theorem YS {w W w2:World}{g:YE}{O C C':Zdb}{xb:Nat->Nat}{who N:Nat}{x:ZX}{L:List Zf}{s1:YF}{out:Zn}{nv:Value}{done:Bool}{r:YH}{gg:Nat}(hL:L.length<=N)(xW:ZL w W)(hg:w.heap.size<=gg)(hm:Z9 W g (XG O gg) C xb L s1 C' w2)(ho:ZDO w2 (XO C' (XG O gg)) (Zi g who (xb who) x) nv done r out)(b0 b1 b2 b3 b4 b5 b6:Value): SK w g O C xb who N x s1 out (.returned (.tuple #[nv,.agg #[.bool done,.int .i64 (r.er:Int),.bool r.granted,.int .i64 r.left,.int .i64 r.wait,.int .i64 r.ser,.int .i64 r.now]])) (((((((w2.setCell ⟨gg,0,none⟩ b0).setCell ⟨gg,1,none⟩ b1).setCell ⟨gg,2,none⟩ b2).setCell ⟨gg,3,none⟩ b3).setCell ⟨gg,4,none⟩ b4).setCell ⟨gg,5,none⟩ b5).setCell ⟨gg,6,none⟩ b6):=by
 have k7:=gb7 w2 gg b0 b1 b2 b3 b4 b5 b6;refine⟨nv,done,r,C',L,hL,rfl,hm.fin xW hg k7,?_⟩;cases out with
 |on k=>obtain⟨a,b,c⟩:=ho;exact⟨Ze.xo a k7,b,c⟩
 |fin r'=>obtain⟨a,b,c⟩:=ho;exact⟨a,b,c⟩
theorem Yw {w:World}{g:Nat}{o:Obj}(h:w.heap[g]?=some o):w.drew.heap[g]?=some o:=h
theorem ZIH {w w2:World}{g:YE}{O C:Zdb}{xb:Nat->Nat}{who N:Nat}{x:ZX}{s1:YF}{out:Zn}{e:Ending}(h:SK w g O C xb who N x s1 out e w2):SK w g O C xb who N x s1 out e w2.drew:=by
 obtain⟨nv,done,r,C',L,h1,h2,h3,h4⟩:=h;exact⟨nv,done,r,C',L,h1,h2,h3.ext (ZL.refl w2).drew,h4.ext (ZL.refl w2).drew⟩
theorem ZAB {w:World}{X:Zdb}{d:JM}{v:Value}{k:YN}(h:Ze w X d v k):ZDO w X d v false Jc (.on k):=⟨h,rfl,rfl⟩
def ZAX (x:ZX)(res:Bool)(ser:Int):Zn->ZBS
 |.on k=>.run x res ser k
 |.fin _=>.idle
def ZDz:Zn->Bool
 |.on _=>false
 |.fin _=>true
def Xq:Zn->YH
 |.on _=>Jc
 |.fin r=>r
abbrev XG2 (O:Zdb)(b:Nat):Nat->Prop:=λi=>O i\/i=b\/i=b+1
def ZR0 (w:World)(g:YE)(O C:Zdb)(xb:Nat->Nat)(N:Nat)(s2:YF)(done:Bool)(r:YH)(wd:World):Prop:=∃L' C',L'.length<=N/\YK wd g (XG2 O w.heap.size) C' xb L' s2/\GB w wd C/\(∀i,C' i->C i\/w.heap.size<=i)/\wd.heap[w.heap.size+1]?=some (.cells #[.bool done,.int .i64 (r.er:Int),.bool r.granted,.int .i64 r.left,.int .i64 r.wait,.int .i64 r.ser,.int .i64 r.now] 41 (0,0))/\wd.heap[w.heap.size]?=some ZUA
def ZGp (w:World)(g:YE)(O C:Zdb)(xb:Nat->Nat)(N:Nat)(s2:YF)(v:Value)(e:Ending)(w':World):Prop:=∃L' C',L'.length<=N/\e=.returned v/\Z9 w g O C xb L' s2 C' w'
theorem YK.xg2 {w W:World}{g:YE}{O C:Zdb}{xb:Nat->Nat}{L:List Zf}{s:YF}(h:YK w g O C xb L s)(x:ZL w W)(h2:w.heap.size+1<W.heap.size):YK W g (XG2 O w.heap.size) C xb L s:=h.far (GB.of_ext (λ_=>False) x) (λ_ _ e=>e.elim) (λi hi e=>e.elim id (λe=>by omega)) (λi e=>e.elim (λe=>Zb5 (h.ol i e) x.size) (λe=>by omega))
theorem ZMl {w W w3:World}{g:YE}{O C C':Zdb}{xb:Nat->Nat}{who N:Nat}{L':List Zf}{s1:YF}{x:ZX}{res:Bool}{ser:Int}{k0:YN}{out:Zn}{nv:Value}{done:Bool}{r:YH}(xW:ZL w W)(_hW2:w.heap.size+1<W.heap.size)(hlt:∀i,C i->i<w.heap.size)(hw:who<64)(hl:L'.length<=N)(hm:Z9 W g (XG2 O w.heap.size) C xb L' s1 C' w3)(hc1:s1.call who=.run x res ser k0)(ho:ZDO w3 (XO C' (XG2 O w.heap.size)) (Zi g who (xb who) x) nv done r out)(K1:W.heap[w.heap.size+1]?=some ZUA)(K0:W.heap[w.heap.size]?=some ZUA): ZR0 w g O C xb N (s1.put who (ZAX x res ser out)) done r ((((((((w3.setCell ⟨g.gx,3+who,none⟩ nv).setCell ⟨w.heap.size+1,0,none⟩ (.bool done)).setCell ⟨w.heap.size+1,1,none⟩ (.int .i64 (r.er:Int))).setCell ⟨w.heap.size+1,2,none⟩ (.bool r.granted)).setCell ⟨w.heap.size+1,3,none⟩ (.int .i64 r.left)).setCell ⟨w.heap.size+1,4,none⟩ (.int .i64 r.wait)).setCell ⟨w.heap.size+1,5,none⟩ (.int .i64 r.ser)).setCell ⟨w.heap.size+1,6,none⟩ (.int .i64 r.now)):=by
 obtain⟨f,-,-,hgx,-,hput⟩:=hm.1.pend hw;have hp:ZE6 w3 (XO C' (XG2 O w.heap.size)) g who (xb who) nv (ZAX x res ser out):=by
  cases out with
  |on k=>exact⟨(hm.1.xat hw hc1).1,ho.1⟩
  |fin r'=>exact ho.1
 obtain⟨C2,hm2⟩:=(hput nv _ hp (λ_=>by rw[hc1];rfl)).mov;have hm3:Z9 W g (XG2 O w.heap.size) C xb L' (s1.put who (ZAX x res ser out)) C2 (w3.setCell ⟨g.gx,3+who,none⟩ nv):=⟨hm2.1,hm.2.1.trans hm2.2.1 hm.2.2,λi hi=>(hm2.2.2 i hi).elim (hm.2.2 i) (λe=>.inr (Zb2 hm.2.1.size e))⟩;have k7:=gb7 (w3.setCell ⟨g.gx,3+who,none⟩ nv) (w.heap.size+1) (.bool done) (.int .i64 (r.er:Int)) (.bool r.granted) (.int .i64 r.left) (.int .i64 r.wait) (.int .i64 r.ser) (.int .i64 r.now);have hn1:¬C (w.heap.size+1):=λe=>by have:=hlt _ e;omega
 have hn0:¬C w.heap.size:=λe=>by have:=hlt _ e;omega
 have r1:=Yf (hm3.2.1.blk K1 hn1) (.bool done) (.int .i64 (r.er:Int)) (.bool r.granted) (.int .i64 r.left) (.int .i64 r.wait) (.int .i64 r.ser) (.int .i64 r.now);have r0:=k7.blk (hm3.2.1.blk K0 hn0) ZB;exact⟨L',C2,hl,hm3.1.far k7 (λi _ e=>.inr (.inr e)) (λi _ e=>e) (λi e=>Zb5 (hm3.1.ol i e) k7.size),(GB.back xW hm3.2.1).trans k7 (λi e=>.inr ZB),λi hi=>(hm3.2.2 i hi).imp id (λe=>Zb2 xW.size e),r1,r0⟩
theorem ZJr {w wd:World}{g:YE}{O C:Zdb}{xb:Nat->Nat}{N:Nat}{s2:YF}{done:Bool}{r:YH}(h:ZR0 w g O C xb N s2 done r wd)(v:Value)(b0 b1 b2 b3 b4 b5 b6:Value): ZGp w g O C xb N s2 v (.returned v) (((((((wd.setCell ⟨w.heap.size,0,none⟩ b0).setCell ⟨w.heap.size,1,none⟩ b1).setCell ⟨w.heap.size,2,none⟩ b2).setCell ⟨w.heap.size,3,none⟩ b3).setCell ⟨w.heap.size,4,none⟩ b4).setCell ⟨w.heap.size,5,none⟩ b5).setCell ⟨w.heap.size,6,none⟩ b6):=by
 obtain⟨L',C',hl,h1,h2,h3,-,-⟩:=h;have k7:=gb7 wd w.heap.size b0 b1 b2 b3 b4 b5 b6;exact⟨L',C',hl,rfl,h1.far k7 (λi _ e=>.inr (.inl e)) (λi _ e=>.inl e) (λi e=>Zb5 (h1.ol i (.inl e)) k7.size),h2.trans k7 (λi e=>.inr ZB),h3⟩
theorem ZLS (w:World)(g:YE)(O C:Zdb)(xb:Nat->Nat)(L:List Zf)(s s1:YF)(who N:Nat)(x:ZX)(res res':Bool)(ser ser':Int)(k k0:YN)(out:Zn)(fn:FuncId)(caps:Array Value)(h:YK w g O C xb L s)(hc:s.call who=.run x res ser k)(hw:who<64)(hv:w.cell? ⟨g.gx,3+who,none⟩=some (Z1 fn caps))(hen:∀u:World,(callFunc fn caps).run Tryz.prog u=.ok (.enter fn caps) u)(hc1:s1.call who=.run x res' ser' k0)(CL:∀u O',YK u g O' C xb L s->Ze u (XO C O') (Zi g who (xb who) x) (Z1 fn caps) k->Calls Tryz.prog fn caps u (SK u g O' C xb who N x s1 out)): Calls Tryz.prog 51 #[.pointer (some ⟨g.gx,3,none⟩),.int .i64 (who:Int)] w (ZGp w g O C xb N (s1.put who (ZAX x res' ser' out)) (.agg #[.bool (ZDz out),.int .i64 ((Xq out).er:Int),.bool (Xq out).granted,.int .i64 (Xq out).left,.int .i64 (Xq out).wait,.int .i64 (Xq out).ser,.int .i64 (Xq out).now])):=by
 obtain⟨W,hW⟩:=ZTz (((w.alloc ZUA).alloc ZUA));have xW:ZL w W:=by rw[<-hW];exact(((ZL.refl w).alloc _).alloc _)
 have K0:=ZA (show W.heap[w.heap.size]?=some ZUA by rw[<-hW];exact ZR (ZM w _) _);have K1:=ZA (show W.heap[w.heap.size+1]?=some ZUA by rw[<-hW];exact Zd _ _ ZTv);have hW2:=ZW K1.o;have hA:=(h.xg2 xW hW2).ext (ZL.refl W).drew;obtain⟨f9,hf9,-,-,hp9,-⟩:=hA.pend hw;have dW:W.cell? ⟨g.gx,3+who,none⟩=some (Z1 fn caps):=ZG xW hv;have e9:f9=Z1 fn caps:=by
  have:W.cell? ⟨g.gx,3+who,none⟩=some f9:=hf9;rw[dW]at this;injection this with this;exact this.symm
 subst e9;rw[hc]at hp9;have HCL:=ZA (CL W.drew _ hA hp9.2);have HLT:=ZA h.lt;have hgl:g.gx<w.heap.size:=ZcO w _ hv;have XW:=ZA xW;have HW:=ZA hW;have hwi:(who:Int)<64:=by omega
 have n0:¬C w.heap.size:=λe=>Zb3 _ (HLT.o _ e);have n1:¬C (w.heap.size+1):=λe=>by have:=HLT.o _ e;omega
 have Hc1:=ZA hc1;clear h hA CL hv hp9 hf9 hc hW hc1 xW;cases out with
 |fin r0=>
  go_enter Tryz.func51,Tryz.ntmps51;go_upto_region 2 with fail
  (try rw[HW.o])
  clear HW
  go_cut [] (λwd=>ZR0 w g O C xb N (s1.put who (ZAX x res' ser' (.fin r0))) true r0 wd)
  case first=>
   go_region_with ((with_reducible refine HCL.o.mono ?_);rintro e w3 ⟨nv,done,r,C',L',hl,rfl,hm,rfl,rfl,rfl⟩;have hm':=hm.back (ZL.refl W).drew;have k1:=hm'.2.1.blk K1.o n1;obtain⟨f',cg,zg,-,-,-⟩:=hm.1.pend hw;have M:=ZA (ZMl (out:=.fin r) (nv:=.nilFunc) XW.o hW2 HLT.o hw hl hm' Hc1.o ⟨rfl,rfl,rfl⟩ K1.o K0.o);obtain⟨c0,z0,c1,z1,c2,z2,c3,z3,c4,z4,c5,z5,c6,z6⟩:=ZT9 k1;clear hl hm hm' k1)
   all_goals
    go_wp2_with fail
    go_meet
    exact M.o
  case rest=>
   have HM:=ZA hcut;obtain⟨_,_,-,-,-,-,k1,k0⟩:=hcut;have HK0:=ZA k0;obtain⟨c0,z0,c1,z1,c2,z2,c3,z3,c4,z4,c5,z5,c6,z6⟩:=ZT9 k1;obtain⟨e0,y0,e1,y1,e2,y2,e3,y3,e4,y4,e5,y5,e6,y6⟩:=ZT9 k0;clear k1 k0 dW;go_wp2_with fail;refine ZcY (Zck (p:=4) rfl _ _ w.heap.size _ #[.bool true,.int .i64 (r0.er:Int),.bool r0.granted,.int .i64 r0.left,.int .i64 r0.wait,.int .i64 r0.ser,.int .i64 r0.now] (0,0) _ rfl (Yf HK0.o _ _ _ _ _ _ _) Tryz.underlying41 ZTw ZC) rfl ?_;exact ZJr HM.o _ _ _ _ _ _ _ _
 |on k9=>
  go_enter Tryz.func51,Tryz.ntmps51;go_upto_region 2 with fail
  (try rw[HW.o])
  clear HW
  go_cut [] (λwd=>ZR0 w g O C xb N (s1.put who (ZAX x res' ser' (.on k9))) false Jc wd)
  case first=>
   go_region_with ((with_reducible refine HCL.o.mono ?_);rintro e w3 ⟨nv,done,r,C',L',hl,rfl,hm,ho,rfl,rfl⟩;obtain⟨f8,c8,rfl⟩:=ho.fn;have hm':=hm.back (ZL.refl W).drew;have k1:=hm'.2.1.blk K1.o n1;obtain⟨f',cg,zg,-,-,-⟩:=hm.1.pend hw;have M:=ZA (ZMl (out:=.on k9) (nv:=Z1 f8 c8) XW.o hW2 HLT.o hw hl hm' Hc1.o ⟨ho,rfl,rfl⟩ K1.o K0.o);obtain⟨c0,z0,c1,z1,c2,z2,c3,z3,c4,z4,c5,z5,c6,z6⟩:=ZT9 k1;clear hl hm hm' k1 ho)
   all_goals
    go_wp2_with fail
    go_meet
    exact M.o
  case rest=>
   have HM:=ZA hcut;obtain⟨_,_,-,-,-,-,k1,k0⟩:=hcut;have HK0:=ZA k0;obtain⟨c0,z0,c1,z1,c2,z2,c3,z3,c4,z4,c5,z5,c6,z6⟩:=ZT9 k1;obtain⟨e0,y0,e1,y1,e2,y2,e3,y3,e4,y4,e5,y5,e6,y6⟩:=ZT9 k0;clear k1 k0 dW;go_wp2_with fail;refine ZcY (Zck (p:=4) rfl _ _ w.heap.size _ #[.bool false,.int .i64 (Jc.er:Int),.bool Jc.granted,.int .i64 Jc.left,.int .i64 Jc.wait,.int .i64 Jc.ser,.int .i64 Jc.now] (0,0) _ rfl (Yf HK0.o _ _ _ _ _ _ _) Tryz.underlying41 ZTw ZC) rfl ?_;exact ZJr HM.o _ _ _ _ _ _ _ _
theorem ZLN (who:Nat)(w:World)(h:who<64):Calls Tryz.prog 50 #[.int .i64 (who:Int)] w λe w'=>e=.returned (.bool true)/\w=w':=by
 have h1:(0:Int)<=(who:Int):=by omega
 have h2:(who:Int)<64:=by omega
 go_enter Tryz.func50,Tryz.ntmps50;go_wp2_with fail;go_ret;exact⟨rfl,rfl⟩
theorem ZNO {w:World}{X:Zdb}{g:YE}{who xb:Nat}{v:Value}{x:ZX}{res:Bool}{ser:Int}{k:YN}(h:ZE6 w X g who xb v (.run x res ser k)):∃f c,v=Z1 f c:=h.2.fn
theorem ZHg (w:World)(g:YE)(O C:Zdb)(xb:Nat->Nat)(L:List Zf)(s:YF)(who:Nat)(h:YK w g O C xb L s)(hw:who<64): Calls Tryz.prog 15 #[ZH g.gx,.int .i64 (who:Int)] w λe w'=>e=.returned (.bool (ZAh (s.call who)))/\w=w':=by
 obtain⟨f,xf,-,-,pv,-⟩:=h.pend hw;have IS:=ZA (ZLN who w hw);have hq0:∀(u:World),(binOp .neq 139 .nilFunc .nilFunc).run Tryz.prog u=.ok (.bool false) u:=λ_=>rfl;have hq1:∀(f:FuncId) (c:Array Value) (u:World),(binOp .neq 139 (.func (.func f) #[] c) .nilFunc).run Tryz.prog u=.ok (.bool true) u:=λ_ _ _=>rfl;have hwi:(who:Int)<64:=by omega
 cases hb:s.call who with
 |idle=>
  rw[hb]at pv;obtain rfl:f=.nilFunc:=pv;clear h hb;go_enter Tryz.func15,Tryz.ntmps15;go_wp2_with fail;refine IS.o.mono ?_;rintro e w1 ⟨rfl,rfl⟩;go_wp2_with fail;go_ret;exact⟨rfl,rfl⟩
 |run x res ser k=>
  rw[hb]at pv;obtain⟨f1,c1,rfl⟩:=ZNO pv;clear pv h hb;go_enter Tryz.func15,Tryz.ntmps15;go_wp2_with fail;refine IS.o.mono ?_;rintro e w1 ⟨rfl,rfl⟩;go_wp2_with fail;go_ret;exact⟨rfl,rfl⟩
theorem ZND {w W w3:World}{g:YE}{O C:Zdb}{xb:Nat->Nat}{N:Nat}{s2:YF}{v r:Value}{e:Ending}(xW:ZL w W)(h:ZGp W g (XG O w.heap.size) C xb N s2 v e w3)(b0 b1 b2 b3 b4 b5 b6:Value): ZGp w g O C xb N s2 r (.returned r) (((((((w3.setCell ⟨w.heap.size,0,none⟩ b0).setCell ⟨w.heap.size,1,none⟩ b1).setCell ⟨w.heap.size,2,none⟩ b2).setCell ⟨w.heap.size,3,none⟩ b3).setCell ⟨w.heap.size,4,none⟩ b4).setCell ⟨w.heap.size,5,none⟩ b5).setCell ⟨w.heap.size,6,none⟩ b6):=by
 obtain⟨L',C',hl,-,hm⟩:=h;have k7:=gb7 w3 w.heap.size b0 b1 b2 b3 b4 b5 b6;exact⟨L',C',hl,rfl,hm.fin xW (Zb0 _) k7⟩
theorem ZNc (w:World)(g:YE)(O C:Zdb)(xb:Nat->Nat)(L:List Zf)(s s1:YF)(who N:Nat)(x:ZX)(res res':Bool)(ser ser':Int)(k k0:YN)(out:Zn)(fn:FuncId)(caps:Array Value)(h:YK w g O C xb L s)(hc:s.call who=.run x res ser k)(hw:who<64)(hv:w.cell? ⟨g.gx,3+who,none⟩=some (Z1 fn caps))(hen:∀u:World,(callFunc fn caps).run Tryz.prog u=.ok (.enter fn caps) u)(hc1:s1.call who=.run x res' ser' k0)(CL:∀u O',YK u g O' C xb L s->Ze u (XO C O') (Zi g who (xb who) x) (Z1 fn caps) k->Calls Tryz.prog fn caps u (SK u g O' C xb who N x s1 out)): Calls Tryz.prog 16 #[ZH g.gx,.int .i64 (who:Int)] w (ZGp w g O C xb N (s1.put who (ZAX x res' ser' out)) (.tuple #[.agg #[.bool (ZDz out),.int .i64 ((Xq out).er:Int),.bool (Xq out).granted,.int .i64 (Xq out).left,.int .i64 (Xq out).wait,.int .i64 (Xq out).ser,.int .i64 (Xq out).now],.int .i64 0])):=by
 obtain⟨W,hW⟩:=ZTz ((w.alloc ZUA));have xW:ZL w W:=by rw[<-hW];exact((ZL.refl w).alloc _)
 have KR:=ZA (show W.heap[w.heap.size]?=some ZUA by rw[<-hW];exact ZM w _);have hA:=h.xg xW (Zb0 _) (ZW KR.o);have IS:=ZA (ZLN who W hw);have hpd:=ZHg W g _ C xb L s who hA hw;rw[hc]at hpd;have PN:=ZA hpd;have ST:=ZA (ZLS W g (XG O w.heap.size) C xb L s s1 who N x res res' ser ser' k k0 out fn caps hA hc hw (ZG xW hv) hen hc1 CL);have HLT:=ZA h.lt;have XW:=ZA xW;have HW:=ZA hW;obtain⟨dn,Hdn⟩:=ZTy (ZDz out);obtain⟨rr,Hrr⟩:=ZTy (Xq out);rw[Hdn.o,Hrr.o]at ST ⊢;clear h hA hpd CL hv hc hc1 hW xW;go_enter Tryz.func16,Tryz.ntmps16;go_upto_region 1 with fail
 (try rw[HW.o])
 clear HW;go_wp2_with fail;refine IS.o.mono ?_;rintro e w1 ⟨rfl,rfl⟩;go_wp2_with fail;refine PN.o.mono ?_;rintro e w1 ⟨rfl,rfl⟩;go_wp2_with fail;refine ST.o.mono ?_;rintro e w3 hst;have HST:=ZA hst;obtain⟨L',C',-,rfl,-,g4,-⟩:=hst;have k3:=g4.blk KR.o (λe=>Zb3 _ (HLT.o _ e));have K3:=ZA k3;obtain⟨r0,z0,r1,z1,r2,z2,r3,z3,r4,z4,r5,z5,r6,z6⟩:=ZT9 k3;clear k3 g4;go_wp2_with fail;refine ZcY (Yq (p:=4) (u:=5) rfl _ _ w.heap.size _ #[.bool dn,.int .i64 (rr.er:Int),.bool rr.granted,.int .i64 rr.left,.int .i64 rr.wait,.int .i64 rr.ser,.int .i64 rr.now] (0,0) _ rfl (Yf K3.o _ _ _ _ _ _ _) Tryz.underlying41 ZTw ZC) rfl ?_;exact ZND XW.o HST.o _ _ _ _ _ _ _
theorem ZJu (w:World)(g:YE)(O C:Zdb)(xb:Nat->Nat)(L:List Zf)(s:YF)(who u sum:Nat)(x:ZX)(res:Bool)(ser:Int)(t:ZAN)(f:FuncId)(caps:Array Value)(h:YK w g O C xb L s)(hc:s.call who=.run x res ser (.find sum t))(hL:L.length<=100000)(hw:who<64)(hu:s.ws.getD 0 0=2*u)(hu4:u<=4)(hs:sum<18446744073709551616)(hk:Ze w (XO C O) (Zi g who (xb who) x) (Z1 f caps) (.find sum t)): Calls Tryz.prog f caps w (SK w g O C xb who (L.length+1) x s (.on (.enter sum (ZP u sum) t))):=by
 obtain⟨p0,p1,p2,p3,tv,hfn,⟨k0,k1⟩,k2,k3,k4⟩:=hk;obtain⟨fi,ci,rfl⟩:=k4.fn;injection hfn with hfn h1 h2;injection hfn with hfn;subst hfn h2;obtain⟨b0,rfl,l0⟩:=k0.ptr;obtain⟨b1,rfl,l1⟩:=k1.ptr;obtain⟨b2,rfl,l2⟩:=k2.ptr;obtain⟨b3,rfl,l3⟩:=k3.ptr;obtain⟨W,hW⟩:=ZTz (((w.alloc ZUA).alloc ZUA));have xW:ZL w W:=by rw[<-hW];exact(((ZL.refl w).alloc _).alloc _)
 have K0:=ZA (show W.heap[w.heap.size]?=some ZUA by rw[<-hW];exact ZR (ZM w _) _);have K1:=ZA (show W.heap[w.heap.size+1]?=some ZUA by rw[<-hW];exact Zd _ _ ZTv);have hA:=h.xg xW (Zb0 _) (ZW K0.o);have LD:=ZA (ZAa W.drew g (XG O w.heap.size) C xb L s who 0 (2*u) _ 0 (hA.ext (ZL.refl W).drew) ZB hw ZB hu rfl rfl);have HA:=ZA hA;have HLT:=ZA h.lt;have Hc:=ZA hc;have d0:=(k0.ext xW).cell 0;have d1:=(k1.ext xW).cell 0;have dl:=hA.rd.l0;have HK0:=ZA k0;have HK1:=ZA k1;have HK2:=ZA k2;have HK3:=ZA k3;have HK4:=ZA k4;have XW:=ZA xW;have hNL:(L++[(⟨who,1,0,2*u,0,true⟩:Zf)]).length<=L.length+1:=by simp
 obtain⟨d,Hd⟩:=ZTy (2*u);rw[Hd.o]at LD hNL;have PL:=ZA (λw=>ZBv u sum w hu4 hs);obtain⟨pl,Hp⟩:=ZTy (ZP u sum);rw[Hp.o]at PL ⊢;have e0:W.cell? ⟨b0,0,none⟩=some (ZH g.gl):=d0;have e1:W.cell? ⟨b1,0,none⟩=some (.int .i64 (who:Int)):=d1;have HW:=ZA hW;have hgw:=ZW K1.o;obtain⟨n,Hn⟩:=ZTy ((s.hs.getD 0 []).length);rw[Hn.o]at LD;clear h hc hu k0 k1 k2 k3 k4 d0 d1 hA xW hW;go_enter Tryz.func237,Tryz.ntmps237;go_upto_region 2 with fail
 (try rw[HW.o])
 clear HW
 go_cut [7] (λv7 wd=>v7=.int .u64 (d:Int)/\∃C',Z9 W g (XG O w.heap.size) C xb (L++[⟨who,1,0,d,0,true⟩]) s C' wd)
 case first=>
  go_region_held3 (λw'=>w'.cell? ⟨b0,0,none⟩=some (ZH g.gl)/\w'.cell? ⟨b1,0,none⟩=some (.int .i64 (who:Int))/\w'.cell? ⟨g.gl,0,none⟩=some (ZH g.gb)) (((try go_split_ands);exact⟨ZT3,ZT3,ZT3⟩)) ((go_at_call 174;(with_reducible refine LD.o.mono ?_);rintro e w2 ⟨A,c,rs,C',rfl,-,hm⟩;have HM:=ZA (hm.back (ZL.refl W).drew);have hkp:=HM.o.kpg XW.o (Zb0 w.heap.size);have te0:=(HK0.o.kp hkp).ZT2 0 (ZH g.gl);have te1:=(HK1.o.kp hkp).ZT2 0 (.int .i64 (who:Int));have tdl:=hm.1.rd.l0;clear hm hkp))
  all_goals
   go_wp2_with fail
   go_meet
   exact⟨rfl,_,HM.o⟩
 case rest=>
  obtain⟨rfl,C',hm⟩:=hcut;have HM:=ZA hm;have hkp:=hm.kpg XW.o (Zb0 w.heap.size);have J0:=ZA (HK0.o.kp hkp);have J1:=ZA (HK1.o.kp hkp);have J2:=ZA (HK2.o.kp hkp);have J3:=ZA (HK3.o.kp hkp);have J4:=ZA (HK4.o.kp hkp);have hC0:¬C w.heap.size:=λe=>Zb3 _ (HLT.o _ e);have hC1:¬C (w.heap.size+1):=λe=>by have:=HLT.o _ e;omega
  have KR:=ZA (hm.2.1.blk K0.o hC0);have KN:=ZA (hm.2.1.blk K1.o hC1);have HX:=ZA hm.1.newer;have hq:(d:Int) / 2=(u:Int):=by have:=Hd.o;omega
  have hr:(d:Int) % 2=0:=by have:=Hd.o;omega
  clear hm hkp hC0 hC1 e0 e1 dl;go_upto_region 5 with fail;obtain⟨V,hV⟩:=ZTz (wc.alloc (.cells #[.int .i64 (u:Int)] 3));have xV:ZL wc V:=by rw[<-hV];exact(ZL.refl wc).alloc _
  have f4:V.cell? ⟨wc.heap.size,0,none⟩=some (.int .i64 (u:Int)):=by rw[<-hV];exact ZE (ZM wc _) 0
  have f0:=(J0.o.ext xV).ZT2 0 (ZH g.gl);have f1:=(J1.o.ext xV).ZT2 0 (.int .i64 (who:Int));have f2:=(J2.o.ext xV).ZT2 0 (.int .u64 (sum:Int));have f3:=(J3.o.ext xV).ZT2 0 (Z1 fi ci);have KR2:=ZA (ZJ KR.o xV);have KN2:=ZJ KN.o xV;have n0:=ZTx KN2 0 (.bool false);have n1:=ZTx KN2 1 (.int .i64 0);have n2:=ZTx KN2 2 (.bool false);have n3:=ZTx KN2 3 (.int .i64 0);have n4:=ZTx KN2 4 (.int .i64 0);have n5:=ZTx KN2 5 (.int .i64 0);have n6:=ZTx KN2 6 (.int .i64 0);have EN:=ZA (ZGH V.drew (XO C' (XG O w.heap.size)) (Zi g who (xb who) x) sum pl (Z1 fi ci) t (HX.o.ext (xV.trans (ZL.refl V).drew)) (J4.o.ext (xV.trans (ZL.refl V).drew)));have XV:=ZA xV;have HNL:=ZA hNL;have HU4:=ZA hu4;rw[hV];clear hV xV KN2 hq hr;have hwc:w.heap.size<wc.heap.size:=ZW KR.o;have qf0:b0≠w.heap.size:=by omega
  have qf1:b1≠w.heap.size:=by omega
  have qf2:b2≠w.heap.size:=by omega
  have qf3:b3≠w.heap.size:=by omega
  have qf4:wc.heap.size≠w.heap.size:=by omega
  have qn0:w.heap.size+1≠w.heap.size:=by omega
  have qn1:w.heap.size+1≠w.heap.size:=by omega
  have qn2:w.heap.size+1≠w.heap.size:=by omega
  have qn3:w.heap.size+1≠w.heap.size:=by omega
  have qn4:w.heap.size+1≠w.heap.size:=by omega
  have qn5:w.heap.size+1≠w.heap.size:=by omega
  have qn6:w.heap.size+1≠w.heap.size:=by omega
  clear hNL hu4 hs hL hgw l0 l1 l2 l3 hwc
  go_region_held3 (λw'=>w'.cell? ⟨b0,0,none⟩=some (ZH g.gl)/\w'.cell? ⟨b1,0,none⟩=some (.int .i64 (who:Int))/\w'.cell? ⟨b2,0,none⟩=some (.int .u64 (sum:Int))/\w'.cell? ⟨wc.heap.size,0,none⟩=some (.int .i64 (u:Int))/\w'.cell? ⟨b3,0,none⟩=some (Z1 fi ci)/\w'.cell? ⟨w.heap.size+1,0,none⟩=some (.bool false)/\w'.cell? ⟨w.heap.size+1,1,none⟩=some (.int .i64 0)/\w'.cell? ⟨w.heap.size+1,2,none⟩=some (.bool false)/\w'.cell? ⟨w.heap.size+1,3,none⟩=some (.int .i64 0)/\w'.cell? ⟨w.heap.size+1,4,none⟩=some (.int .i64 0)/\w'.cell? ⟨w.heap.size+1,5,none⟩=some (.int .i64 0)/\w'.cell? ⟨w.heap.size+1,6,none⟩=some (.int .i64 0)) (((try go_split_ands);exact⟨ZT4,ZT4,ZT4,ZT4,ZT4,ZT4,ZT4,ZT4,ZT4,ZT4,ZT4,ZT4⟩))
   (first
    |(go_at_call 81;(with_reducible refine(PL.out _).mono ?_);rintro e w8 ⟨rfl,rfl⟩)
    |(go_at_call 238;(with_reducible refine EN.o.mono ?_);rintro e w2 ⟨v,rfl,hk,hx⟩;have hx':=(ZL.refl V).drew.trans hx;have HK:=ZA hk;have HXX:=ZA hx';have KR3:=ZA (ZJ KR2.o hx');obtain⟨r0,z0,r1,z1,r2,z2,r3,z3,r4,z4,r5,z5,r6,z6⟩:=ZT9 KR3.o;have tf0:=ZG (hx') f0;have tf1:=ZG (hx') f1;have tf2:=ZG (hx') f2;have tf3:=ZG (hx') f3;have tf4:=ZG (hx') f4;have tn0:=ZG (hx') n0;have tn1:=ZG (hx') n1;have tn2:=ZG (hx') n2;have tn3:=ZG (hx') n3;have tn4:=ZG (hx') n4;have tn5:=ZG (hx') n5;have tn6:=ZG (hx') n6;clear hk hx hx'))
  all_goals
   go_wp2_with fail;refine ZcY (ZQ (p:=5) (u:=4) rfl _ _ w.heap.size _ #[.bool false,.int .i64 0,.bool false,.int .i64 0,.int .i64 0,.int .i64 0,.int .i64 0] (0,0) _ rfl (Yf KR3.o _ _ _ _ _ _ _) Tryz.underlying41 ZTw ZC) rfl ?_;exact YS (r:=Jc) HNL.o XW.o (Zb0 _) (HM.o.ext (XV.o.trans HXX.o)) (ZAB HK.o) _ _ _ _ _ _ _
theorem ZIc:(Tryz.prog.info? 5).map (λi=>(i.zero,i.size,i.bytes))=some (some (.int .u8 0),1,1):=by kernel_rfl
theorem Xo:∀u:World,(sizeOf 5).run Tryz.prog u=.ok 1 u:=λ_=>by kernel_rfl
theorem Y6 {ops:Array Oper}{rest:List Oper}{o:Oper}{a:Act}{Q:Exit->Act->World->Prop}(w:World)(hgd:o.guard=none)(s x:Operand)(ho:o.op=.call {callee:=.builtin .append,args:=#[s,x],argTypes:=#[32,32]})(base:Nat){B:Option Addr}{n cb:Nat}{xs:List Nat}(hs:a.eval s=.slice B n cb)(hown:w.ownsRow base 5 1 (.slice B n cb) n (ZV .u8 xs)){A:Option Addr}{m c:Nat}{news:List Nat}(hx:a.eval x=.slice A m c)(hl:news.length=m)(hr:Rd w A (ZV .u8 news))(hb:n+m<=140737488355328)(hbase:base<=w.heap.size)(h:∀B' cb' w',w'.ownsRow base 5 1 (.slice B' (n+m) cb') (n+m) (ZV .u8 (xs++news))->w.grownBy w' (Value.slice B n cb).ownBlock-> ((Value.slice B' (n+m) cb').ownBlock=(Value.slice B n cb).ownBlock\/(Value.slice B' (n+m) cb').ownBlock=some w.heap.size)->wpList Tryz.prog ops Q rest (a.put o.dst (.slice B' (n+m) cb')) w'): wpList Tryz.prog ops Q (o::rest) a w:=by
 obtain⟨i0,hi,hz0,hz1,hz2⟩:=Zch ZIc;refine Yv w hgd s x 32 ho base 5 Tryz.underlying32 hi hz0 hz1 hz2 rfl (by decide) hs hown hx (by rw[XM,hl,ZcD]) hr (ZI9 _ _) (by unfold maxLen;omega) ZB hbase ?_;intro B' cb' w' h2 h3 h4;rw[<-ZBU]at h2;exact h B' cb' w' h2 h3 h4
theorem ZPT (w:World):(w.alloc (.cells #[] 5)).ownsRow w.heap.size 5 1 (.slice (some ⟨w.heap.size,0,none⟩) 0 0) 0 (ZV .u8 []):=XR w [] 5 1 0 rfl (ZcL _) (Zb0 _)
def ZDi (xs:List Nat)(w:World)(e:Ending)(w':World):Prop:=∃A c,e=.returned (.slice A xs.length c)/\w'.ownsRow w.heap.size 5 1 (.slice A xs.length c) xs.length (ZV .u8 xs)/\ZL w w'
theorem ZA9 {n c:Nat}{xs:List Nat}(hl:xs.length=n){w w':World}{A:Option Addr}(ho:w'.ownsRow w.heap.size 5 1 (.slice A n c) n (ZV .u8 xs))(hb:ZL w w'): ZDi xs w (.returned (.slice A n c)) w':=by
 subst hl;exact⟨A,c,rfl,ho,hb⟩
theorem ZBm (A:Option Addr)(n c:Nat)(xs:List Nat)(w:World)(hl:xs.length=n)(hn:n<=140737488355328)(hr:Rd w A (ZV .u8 xs)): Calls Tryz.prog 45 #[.slice A n c] w (ZDi xs w):=by
 have Hl:=ZA hl;clear hl;have Hr:=ZA hr;clear hr;go_enter Tryz.func45,Tryz.ntmps45;go_wp2_with (at_builtin;refine Y6 _ rfl (.tmp 3) (.tmp 4) rfl w.heap.size rfl (ZPT w) rfl Hl.o (Hr.o.alloc _) ZB ZTv ?_;intro A' c' w1 hown hgrow _;simp only[ZcK,ZbV]at hown);go_ret;exact ZA9 Hl.o hown (((ZL.refl w).alloc _).grown hgrow (by simp[Value.ownBlock]))
theorem ZTD (w:World)(A:Option Addr)(n c n' c':Nat):(binOp .eql 32 (.slice A n c) (.slice none n' c')).run Tryz.prog w=.ok (.bool A.isNone) w:=Zad w _ _ A n c n' c' Tryz.underlying32
theorem ZDd (a:Addr)(n c:Nat)(xs:List Nat)(w:World)(hl:xs.length=n)(hn:n<=140737488355328)(hr:Rd w (some a) (ZV .u8 xs)): Calls Tryz.prog 67 #[.slice (some a) n c] w (ZDi xs w):=by
 have Hl:=ZA hl;clear hl;have Hr:=ZA hr;clear hr;have q:=ZTD;go_enter Tryz.func67,Tryz.ntmps67;go_wp2_with (at_builtin;refine Y6 _ rfl (.tmp 5) (.tmp 6) rfl w.heap.size rfl (ZPT w) rfl Hl.o (Hr.o.alloc _) ZB ZTv ?_;intro A' c' w1 hown hgrow _;simp only[ZcK,ZbV]at hown);go_ret;exact ZA9 Hl.o hown (((ZL.refl w).alloc _).grown hgrow (by simp[Value.ownBlock]))
theorem ZHv (w:World)(n c:Nat): Calls Tryz.prog 67 #[.slice none n c] w λe w'=>e=.returned (.slice none 0 0)/\w=w':=by
 have q:=ZTD;go_enter Tryz.func67,Tryz.ntmps67;go_wp2;go_ret;exact⟨rfl,rfl⟩
def same (xs ys:List Nat):Bool:=decide (xs=ys)
def ZQn (v:Value)(w:World)(e:Ending)(w':World):Prop:=e=.returned v/\∃q,w'=w.drewN q
theorem ZO8 (A B:Option Addr)(n c m d:Nat)(w:World)(h:n≠m): Calls Tryz.prog 64 #[.slice A n c,.slice B m d] w (ZQn (.bool false) w):=by
 go_enter Tryz.func64,Tryz.ntmps64;go_wp2;go_ret;exact⟨rfl,0,rfl⟩
theorem ZNG (A B:Option Addr)(n c d:Nat)(xs ys:List Nat)(w:World)(hl:xs.length=n)(hl':ys.length=n)(hn:n<=9223372036854775807)(hb:∀x ∈ xs,x<256)(hb':∀x ∈ ys,x<256)(hr:Rd w A (ZV .u8 xs))(hr':Rd w B (ZV .u8 ys)): Calls Tryz.prog 64 #[.slice A n c,.slice B n d] w (ZQn (.bool (same xs ys)) w):=by
 have Hl:=ZA hl;have Hr:=ZA hr;have Hl':=ZA hl';have Hr':=ZA hr';have Hb:=ZA hb;have Hb':=ZA hb';clear hl hr hl' hr' hb hb';go_enter Tryz.func64,Tryz.ntmps64;go_wp2
 go_loopw [13] (λi wr=>∃k q:Nat,k<=n/\i=.int .i64 k/\wr=w.drewN q/\xs.take k=ys.take k) (λi _=>n - (intOf i).toNat)
 case atStart=>exact⟨0,0,ZcL _,rfl,rfl,rfl⟩
 case round=>
  obtain⟨k,q,hk,rfl,rfl,htk⟩:=hrel;have Htk:=ZA htk;clear htk;by_cases hlt:k<n
  ·obtain⟨x,hx⟩:=JR (xs:=xs) (j:=k) (by rw[Hl.o];exact hlt);obtain⟨y,hy⟩:=JR (xs:=ys) (j:=k) (by rw[Hl'.o];exact hlt);obtain⟨b,off,hA,_,hc⟩:=Hr.o.at_ hx;obtain⟨b',off',hA',_,hc'⟩:=Hr'.o.at_ hy;have Hx:=ZA hx;have Hy:=ZA hy;clear hx hy;subst hA hA';by_cases hxy:x=y
   ·subst hxy;go_wp2
    go_quiet (fail)
    go_wp2
    go_roundw
    case rel=>exact⟨k+1,_,by omega,by go_num,rfl,by rw[Zr Hx.o,Zr Hy.o,Htk.o]⟩
    case measure=>simp[intOf];omega
   ·go_wp2
    go_quiet (fail)
    go_wp2;go_ret;exact⟨ZBL (Eq.symm (Zca (by rintro rfl;have:=Hx.o.symm.trans Hy.o;injection this with this;exact hxy this))),q+nq,ZOA w q nq⟩
  ·go_wp2;go_ret;exact⟨ZBL (Eq.symm (Zcb (by have h:=Htk.o;rwa [Zbk (by rw[Hl.o];omega),Zbk (by rw[Hl'.o];omega)]at h))),q,rfl⟩
theorem ZJP (A B:Option Addr)(n c m d:Nat)(xs ys:List Nat)(w:World)(hl:xs.length=n)(hl':ys.length=m)(hn:n<=9223372036854775807)(hb:∀x ∈ xs,x<256)(hb':∀x ∈ ys,x<256)(hr:Rd w A (ZV .u8 xs))(hr':Rd w B (ZV .u8 ys)): Calls Tryz.prog 64 #[.slice A n c,.slice B m d] w (ZQn (.bool (same xs ys)) w):=by
 by_cases h:n=m
 ·subst h;exact ZNG A B n c d xs ys w hl hl' hn hb hb' hr hr'
 ·have e:same xs ys=false:=Zca (by rintro rfl;omega);rw[e];exact ZO8 A B n c m d w h
theorem ZIO {w:World}{A:Option Addr}{k:IntKind}{xs ys:List Nat}(h:Rd w A (ZV k (xs++ys))):Rd w A (ZV k xs):=by
 intro hne;obtain⟨b,off,hA,hc⟩:=h (by intro e;rw[ZBU]at e;exact hne (List.append_eq_nil_iff.1 e).1);exact⟨b,off,hA,λj u hu=>hc j u (by rw[ZBU,Zav (Za0.1 hu).1];exact hu)⟩
def Yu (xs:List Nat)(er:Int)(w:World)(e:Ending)(w':World):Prop:=∃A c,e=.returned (.tuple #[.slice A xs.length c,.int .i64 er])/\w'.ownsRow w.heap.size 5 1 (.slice A xs.length c) xs.length (ZV .u8 xs)/\ZL w w'
theorem JE {n c:Nat}{xs:List Nat}{er:Int}(hl:xs.length=n){w w':World}{A:Option Addr}(ho:w'.ownsRow w.heap.size 5 1 (.slice A n c) n (ZV .u8 xs))(hb:ZL w w'): Yu xs er w (.returned (.tuple #[.slice A n c,.int .i64 er])) w':=by
 subst hl;exact⟨A,c,rfl,ho,hb⟩
theorem ZRO (w:World)(x:Nat):(w.alloc (.cells #[.int .u8 (x:Int)] 5)).ownsRow w.heap.size 5 1 (.slice (some ⟨w.heap.size,0,none⟩) 1 1) 1 (ZV .u8 [x]):=XR w [.int .u8 (x:Int)] 5 1 1 rfl (by unfold maxLen;omega) (Zb0 _)
theorem ZCd (p:Nat)(A:Option Addr)(n c:Nat)(xs:List Nat)(w:World)(hp:p<32)(hl:xs.length=n)(hn:n<=255)(hr:Rd w A (ZV .u8 xs)): Calls Tryz.prog 72 #[.int .i64 (p:Int),.slice A n c] w (Yu (p::xs) 0 w):=by
 have Hl:=ZA hl;clear hl;have Hr:=ZA hr;clear hr;go_enter Tryz.func72,Tryz.ntmps72;go_wp2_with (at_builtin;refine Y6 _ rfl (.tmp 19) (.tmp 20) rfl w.heap.size rfl (ZRO w p) rfl Hl.o (Hr.o.alloc _) ZB ZTv ?_;intro A' c' w1 hown hgrow _)
 go_ret2
 exact JE (by rw[ZbA,Hl.o,Zbq]) hown (((ZL.refl w).alloc _).grown hgrow (by simp[Value.ownBlock]))
theorem ZC5 (p:Int)(A:Option Addr)(n c:Nat)(w:World)(hp:p<0\/32<=p): Calls Tryz.prog 72 #[.int .i64 p,.slice A n c] w λe w'=>e=.returned (.tuple #[.slice none 0 0,.int .i64 1])/\w=w':=by
 rcases hp with h|h
 ·go_enter Tryz.func72,Tryz.ntmps72;go_wp2
  go_ret2
  exact⟨rfl,rfl⟩
 ·have h':¬p<0:=by omega
  go_enter Tryz.func72,Tryz.ntmps72;go_wp2
  go_ret2
  exact⟨rfl,rfl⟩
theorem ZCD (p:Int)(A:Option Addr)(n c:Nat)(w:World)(hp:0<=p)(hp':p<32)(hn:255<n): Calls Tryz.prog 72 #[.int .i64 p,.slice A n c] w λe w'=>e=.returned (.tuple #[.slice none 0 0,.int .i64 2])/\w=w':=by
 go_enter Tryz.func72,Tryz.ntmps72;go_wp2
 go_ret2
 exact⟨rfl,rfl⟩
theorem ZQN (args:Array Value)(w:World):(callFunc 271 args).run Tryz.prog w=((Extern.BytealgCompare.compare args).run Tryz.prog w).andThen λv w'=>.ok (.value v) w':=
 run_callFunc_extern Tryz.func271 ZC ZC ZC (e:=Extern.BytealgCompare.compare) ZC args w
theorem ZIt (A B:Option Addr)(n c m d:Nat)(xs ys:List Nat)(w:World)(hl:xs.length=n)(hl':ys.length=m)(hb:∀x ∈ xs,x<256)(hb':∀x ∈ ys,x<256)(hr:Rd w A (ZV .u8 xs))(hr':Rd w B (ZV .u8 ys)): Calls Tryz.prog 228 #[.slice A n c,.slice B m d] w λe w'=>e=.returned (.int .i64 (ord xs ys))/\w=w':=by
 have hrun:=ZA (ZPA (P:=Tryz.prog) (c:=c) (d:=d) hl hr hl' hr' hb hb');clear hl hl' hr hr' hb hb';go_enter Tryz.func228,Tryz.ntmps228;go_wp2_with fail;rw[ZQN,hrun.out];simp only[Result.andThen];rw[Oper.upon_value];go_wp2;go_ret;exact⟨rfl,rfl⟩
theorem ZNQ (A B:Option Addr)(n c m d:Nat)(xs ys:List Nat)(w:World)(hl:xs.length=n)(hl':ys.length=m)(hb:∀x ∈ xs,x<256)(hb':∀x ∈ ys,x<256)(hr:Rd w A (ZV .u8 xs))(hr':Rd w B (ZV .u8 ys)): Calls Tryz.prog 168 #[.slice A n c,.slice B m d] w λe w'=>e=.returned (.int .i64 (ord xs ys))/\w=w':=by
 have c1:=ZA (ZIt A B n c m d xs ys w hl hl' hb hb' hr hr');clear hl hl' hr hr' hb hb';go_enter Tryz.func168,Tryz.ntmps168;go_wp2_with fail;refine c1.out.mono ?_;rintro e w' ⟨rfl,rfl⟩;go_wp2;go_ret;exact⟨rfl,rfl⟩
theorem ZKn (h:Nat)(A:Option Addr)(n c:Nat)(xs:List Nat)(w:World)(hl:xs.length=n)(hb:∀x ∈ xs,x<256)(hn:n<=9223372036854775807)(hh:h<18446744073709551616)(hr:Rd w A (ZV .u8 xs)): Calls Tryz.prog 121 #[.int .u64 (h:Int),.slice A n c] w λe w'=>e=.returned (.int .u64 ((upd h xs:Nat):Int))/\w=w':=by
 have Hr:=ZA hr;have Hb:=ZA hb;have Hl:=ZA hl;clear hr hb hl;go_enter Tryz.func121,Tryz.ntmps121;go_wp2
 go_loop [0,9] (λh' i=>∃k:Nat,k<=n/\i=.int .i64 k/\h'=.int .u64 ((upd h (xs.take k):Nat):Int)) (λ_ i=>n - (intOf i).toNat)
 case atStart=>exact⟨0,ZcL _,rfl,rfl⟩
 case round=>
  obtain⟨k,hk,rfl,rfl⟩:=hrel;have hu:=ZDR h (xs.take k) hh;by_cases hlt:k<n
  ·obtain⟨x,hx⟩:=JR (xs:=xs) (j:=k) (by rw[Hl.o];exact hlt);have hx256:x<256:=Hb.o x (ZbO hx);obtain⟨b,off,hA,_,hc⟩:=Hr.o.at_ hx;have Hx:=ZA hx;clear hx;subst hA;go_wp2
   go_round
   case rel=>exact⟨k+1,by omega,by go_num,by rw[Zr Hx.o,ZJA,<-ZNE,Go.u64_xor_nat _ _ hu ZB]⟩
   case measure=>simp[intOf];omega
  ·go_wp2;go_ret;exact⟨ZAT (by rw[Zbk (by rw[Hl.o];omega)]),rfl⟩
theorem ZGz (h:Nat)(A:Option Addr)(n c:Nat)(xs:List Nat)(w:World)(hl:xs.length=n)(hb:∀x ∈ xs,x<256)(hn:n<=9223372036854775807)(hh:h<18446744073709551616)(hr:Rd w A (ZV .u8 xs)): Calls Tryz.prog 95 #[.int .u64 (h:Int),.slice A n c] w λe w'=>e=.returned (.int .u64 ((upd h xs:Nat):Int))/\w=w':=by
 have Hr:=ZA hr;have Hb:=ZA hb;have Hl:=ZA hl;clear hr hb hl;go_enter Tryz.func95,Tryz.ntmps95;go_wp2
 go_loop [0,12] (λh' i=>∃k:Nat,k<=n/\i=.int .i64 k/\h'=.int .u64 ((upd h (xs.take k):Nat):Int)) (λ_ i=>n - (intOf i).toNat)
 case atStart=>exact⟨0,ZcL _,rfl,rfl⟩
 case round=>
  obtain⟨k,hk,rfl,rfl⟩:=hrel;have hu:=ZDR h (xs.take k) hh;by_cases hlt:k<n
  ·obtain⟨x,hx⟩:=JR (xs:=xs) (j:=k) (by rw[Hl.o];exact hlt);have hx256:x<256:=Hb.o x (ZbO hx);obtain⟨b,off,hA,_,hc⟩:=Hr.o.at_ hx;have Hx:=ZA hx;clear hx;subst hA;go_wp2
   go_round
   case rel=>exact⟨k+1,by omega,by go_num,ZLZ (by rw[Zr Hx.o,ZJA];exact ZPH _ x hu hx256 (ZTh _ x hu hx256))⟩
   case measure=>simp[intOf];omega
  ·go_wp2;go_ret;exact⟨ZAT (by rw[Zbk (by rw[Hl.o];omega)]),rfl⟩
theorem ZDp (A:Option Addr)(n c:Nat)(xs:List Nat)(w:World)(hl:xs.length=n)(hb:∀x ∈ xs,x<256)(hn:n<=9223372036854775807)(hr:Rd w A (ZV .u8 xs)): Calls Tryz.prog 74 #[.slice A n c] w λe w'=>e=.returned (.int .u64 ((upd 14695981039346656037 xs:Nat):Int))/\w=w':=by
 have c1:=ZA (ZKn 14695981039346656037 A n c xs w hl hb hn ZB hr);clear hr hb hl;go_enter Tryz.func74,Tryz.ntmps74;go_wp2_with fail;refine c1.out.mono ?_;rintro e w' ⟨rfl,rfl⟩;go_wp2;go_ret;exact⟨rfl,rfl⟩
theorem ZKx (A:Option Addr)(n c:Nat)(xs:List Nat)(w:World)(hl:xs.length=n)(hb:∀x ∈ xs,x<256)(hn:n<=9223372036854775807)(hr:Rd w A (ZV .u8 xs)): Calls Tryz.prog 46 #[.slice A n c] w λe w'=>e=.returned (.int .u64 ((upd 14695981039346656037 xs:Nat):Int))/\w=w':=by
 have c1:=ZA (ZGz 14695981039346656037 A n c xs w hl hb hn ZB hr);clear hr hb hl;go_enter Tryz.func46,Tryz.ntmps46;go_wp2_with fail;refine c1.out.mono ?_;rintro e w' ⟨rfl,rfl⟩;go_wp2;go_ret;exact⟨rfl,rfl⟩
theorem ZO6 (A:Option Addr)(n c:Nat)(xs:List Nat)(level:Nat)(w:World)(hl:xs.length=n)(hb:∀x ∈ xs,x<256)(hn:n<=9223372036854775807)(hr:Rd w A (ZV .u8 xs))(hv:level<=4): Calls Tryz.prog 82 #[.slice A n c,.int .i64 (level:Int)] w (ZQn (.tuple #[.int .i64 ((ZAi (upd 14695981039346656037 xs) level:Nat):Int),.int .i64 0]) w):=by
 have c1:=ZA (λq=>ZDp A n c xs (w.drewN q) hl hb hn hr);have hs:=ZDR 14695981039346656037 xs ZB;clear hl hr hb hn;generalize upd 14695981039346656037 xs=S at*;have:level=0\/level=1\/level=2\/level=3\/level=4:=by omega
 rcases this with rfl|rfl|rfl|rfl|rfl
 all_goals
  go_enter Tryz.func82,Tryz.ntmps82;go_wp2
  go_quiet ((go_at_call 74;exact ZAW (c1.out _)))
  go_wp2
  go_ret2
  exact⟨ZAz (ZLZ (ZPb _ hs ZB rfl)) rfl,_,rfl⟩
def ZCO (c:ZO):Prop:=c.pol<32/\c.key.length<=255/\∀x ∈ c.key,x<256
theorem ZGN {c:ZO}(h:ZCO c):∀x ∈ c.id,x<256:=λx hx=>by
 rcases ZbJ.1 hx with hx|hx
 ·rw[hx];have:=h.1;omega
 ·exact h.2.2 x hx
def ZTQ (l:Nat)(xs:List Nat)(w:World)(e:Ending)(w':World):Prop:=∃A c,e=.returned (.tuple #[.slice A l c,.int .i64 0])/\Rd w' A (ZV .u8 xs)/\ZL w w'
theorem ZFN (p:Nat)(A:Option Addr)(n c l:Nat)(xs:List Nat)(w:World)(hp:p<32)(hl:xs.length=n)(hn:n<=255)(hr:Rd w A (ZV .u8 xs))(hL:(p::xs).length=l): Calls Tryz.prog 72 #[.int .i64 (p:Int),.slice A n c] w (ZTQ l (p::xs) w):=by
 refine(ZCd p A n c xs w hp hl hn hr).mono ?_;rintro e w1 ⟨A1,c1,rfl,o1,x1⟩;rw[hL];exact⟨A1,c1,rfl,Rd.of_own o1,x1⟩
theorem ZLz (w:World)(a b:ZO)(ra rb:YI)(n m i j:Nat)(ha:ZCO a)(hb:ZCO b)(hn:a.key.length=n)(hm:b.key.length=m)(hr:Rd w ra.K (ZV .u8 a.key))(hr':Rd w rb.K (ZV .u8 b.key)): Calls Tryz.prog 120 #[.agg #[.int .i64 (a.pol:Int),.slice ra.K n ra.kc,.int .i64 a.tat,.slice ra.H i ra.hc],.agg #[.int .i64 (b.pol:Int),.slice rb.K m rb.kc,.int .i64 b.tat,.slice rb.H j rb.hc]] w (Xu (.int .i64 (ord a.id b.id)) w):=by
 obtain⟨W,hW⟩:=ZTz (((w.alloc (.cells #[.int .i64 (a.pol:Int),.slice ra.K n ra.kc,.int .i64 a.tat,.slice ra.H i ra.hc] 62)).alloc (.cells #[.int .i64 (b.pol:Int),.slice rb.K m rb.kc,.int .i64 b.tat,.slice rb.H j rb.hc] 62)));have xW:ZL w W:=by rw[<-hW];exact(((ZL.refl w).alloc _).alloc _)
 obtain⟨l1,H1⟩:=ZTy ((a.pol::a.key).length);obtain⟨l2,H2⟩:=ZTy ((b.pol::b.key).length);have I1:=ZA (λu (x:ZL W u)=>ZFN a.pol ra.K n ra.kc l1 a.key u ha.1 hn (by rw[<-hn];exact ha.2.1) (hr.ext (xW.trans x)) H1.o);have I2:=ZA (λu (x:ZL W u)=>ZFN b.pol rb.K m rb.kc l2 b.key u hb.1 hm (by rw[<-hm];exact hb.2.1) (hr'.ext (xW.trans x)) H2.o);have Ha:=ZA (ZGN ha);have Hb:=ZA (ZGN hb);have K0:=show W.heap[w.heap.size]?=some (.cells #[.int .i64 (a.pol:Int),.slice ra.K n ra.kc,.int .i64 a.tat,.slice ra.H i ra.hc] 62 (0,0)) by rw[<-hW];exact ZR (ZM w _) _
 have K1:=show W.heap[w.heap.size+1]?=some (.cells #[.int .i64 (b.pol:Int),.slice rb.K m rb.kc,.int .i64 b.tat,.slice rb.H j rb.hc] 62 (0,0)) by rw[<-hW];exact Zd _ _ ZTv
 have a0:=ZE K0 0;have a1:=ZE K0 1;have HK1:=ZA K1;have XW:=ZA xW;clear ha hb hr hr' hn hm xW K0 K1;go_enter Tryz.func120,Tryz.ntmps120;go_upto_region 1 with fail
 (try rw[hW])
 clear hW;go_wp2_with fail;refine(I1.o W (ZL.refl W)).mono ?_;rintro e w1 ⟨A1,c1,rfl,o1,x1⟩;have R1:=ZA o1;have HK2:=ZA (ZJ HK1.o x1);have b0:=ZE HK2.o 0;have b1:=ZE HK2.o 1;have X1:=ZA x1;clear o1 x1;go_wp2_with fail;refine(I2.o w1 X1.o).mono ?_;rintro e w2 ⟨A2,c2,rfl,o2,x2⟩;have R2:=ZA o2;have R1':=ZA (R1.o.ext x2);have X2:=ZA x2;clear o2 x2 a0 a1 b0 b1;go_wp2_with fail;refine(ZNQ A1 A2 l1 c1 l2 c2 a.id b.id w2 H1.o H2.o Ha.o Hb.o R1'.o R2.o).mono ?_;rintro e w3 ⟨rfl,rfl⟩;go_wp2_with fail;go_ret;exact⟨rfl,XW.o.trans (X1.o.trans X2.o)⟩
theorem ZGk {l:List ZO}{k:List Nat}{h q:Nat}{e0 e:ZO}(hs:Jn l)(h0:l[h]?=some e0)(hlt:ord e0.id k<0)(hq:q<h)(he:l[q]?=some e):ord e.id k<0:=by
 obtain⟨a,b⟩:=Za0.1 he;obtain⟨c,d⟩:=Za0.1 h0;have:=Zba.1 hs q h a c hq;rw[b,d]at this;exact ZEY this ZB
theorem ZOm {l:List ZO}{k:List Nat}{h q:Nat}{e0 e:ZO}(hs:Jn l)(h0:l[h]?=some e0)(hge:¬ord e0.id k<0)(hq:h<=q)(he:l[q]?=some e):¬ord e.id k<0:=λhlt=>by
 rcases Zb6 h q with h9|h9
 ·exact hge (ZGk hs he hlt h9 h0)
 ·have:q=h:=by omega
  subst this;rw[h0]at he;injection he with he;subst he;exact hge hlt
def ZSL (l:List ZO)(k:List Nat)(w:World)(e:Ending)(w':World):Prop:=e=.returned (.tuple #[.int .i64 (atK l k:Int),.bool (ZAD l k)])/\ZL w w'
theorem ZQR (w:World)(A:Option Addr)(n c m j:Nat)(l:List ZO)(rs:List YI)(t:ZO)(rt:YI)(hl:l.length=n)(hn:n<=5000)(hs:Jn l)(hok:∀e ∈ l,ZCO e)(hE:ZAA w A l rs)(hkl:t.key.length=m)(ht:ZCO t)(hr:Rd w rt.K (ZV .u8 t.key)): Calls Tryz.prog 246 #[.slice A n c,.agg #[.int .i64 (t.pol:Int),.slice rt.K m rt.kc,.int .i64 t.tat,.slice rt.H j rt.hc],.func (.func 120) #[] #[]] w (ZSL l t.id w):=by
 obtain⟨k,Hk⟩:=ZTy (t.id);have Hl:=ZA hl;have Hs:=ZA hs;have Hok:=ZA hok;have HE:=ZA hE;obtain⟨W,hW⟩:=ZTz ((w.alloc (.cells #[.int .i64 (t.pol:Int),.slice rt.K m rt.kc,.int .i64 t.tat,.slice rt.H j rt.hc] 62)));have xW:ZL w W:=by rw[<-hW];exact((ZL.refl w).alloc _)
 have K0:=ZA (show W.heap[w.heap.size]?=some (.cells #[.int .i64 (t.pol:Int),.slice rt.K m rt.kc,.int .i64 t.tat,.slice rt.H j rt.hc] 62 (0,0)) by rw[<-hW];exact ZM w _);have OR:=ZA (λu (y:ZL W u) (e:ZO) (re:YI) (a b:Nat) (h1:e ∈ l) (h2:e.key.length=a) (h3:Rd u re.K (ZV .u8 e.key))=>ZLz u e t re rt a m b j (hok e h1) ht h2 hkl h3 ((hr.ext xW).ext y));rw[Hk.o]at OR ⊢;have XW:=ZA xW;clear hl hs hok hE hkl ht hr xW;go_enter Tryz.func246,Tryz.ntmps246;go_upto_region 1 with fail
 (try rw[hW])
 clear hW;go_wp2_with fail
 go_loopw [9,10] (λv9 v10 wr=>∃i j:Nat,v9=.int .i64 (i:Int)/\v10=.int .i64 (j:Int)/\i<=j/\j<=n/\ZL W wr/\(∀q e,q<i->l[q]?=some e->ord e.id k<0)/\(∀q e,j<=q->l[q]?=some e->¬ord e.id k<0)) (λv9 v10 _=>(intOf v10).toNat - (intOf v9).toNat)
 case atStart=>exact⟨0,n,rfl,rfl,ZcL _,Zb0 _,ZL.refl W,λq e h=>absurd h (ZcF q),λq e h he=>by have:=(Za0.1 he).1;have:=Hl.o;omega⟩
 case round=>
  obtain⟨i,jj,rfl,rfl,hij,hjn,hx,h1,h2⟩:=hrel;have HX:=ZA hx;have H1:=ZA h1;have H2:=ZA h2;have KB:=ZJ K0.o hx;have b0:=ZE KB 0;have b1:=ZE KB 1;have b2:=ZE KB 2;have b3:=ZE KB 3;clear hx h1 h2 KB;by_cases hlt:i<jj
  ·have hlti:(i:Int)<(jj:Int):=by omega
   obtain⟨h,Hh⟩:=ZTy ((i+jj) / 2);have hh1:i<=h:=by have:=Hh.o;omega
   have hh2:h<jj:=by have:=Hh.o;omega
   have hh3:h<n:=by omega
   have hw1:IntKind.i64.wrap ((i:Int)+(jj:Int))=(i:Int)+(jj:Int):=by rw[Zaa];omega
   have hw2:IntKind.u64.wrap ((i:Int)+(jj:Int))=(i:Int)+(jj:Int):=by rw[Zab];omega
   have hq:((i:Int)+(jj:Int)) / 2=(h:Int):=by have:=Hh.o;omega
   obtain⟨e,He⟩:∃e,ZD (l[h]?=some e):=⟨_,Zaz (by rw[Hl.o];omega)⟩;obtain⟨b,off,r1,hA,hk1,d0,d1,d2,d3,hpr⟩:=(HE.o.ext (XW.o.trans HX.o)).at_ He.o;have hmem:=ZbO He.o;obtain⟨ekl,Hekl⟩:=ZTy (e.key.length);obtain⟨ehl,Hehl⟩:=ZTy (e.held.length);rw[Hekl.o]at d1;rw[Hehl.o]at d3;have OR1:=ZA (λu (y:ZL wr u)=>OR.o u (HX.o.trans y) e r1 ekl ehl hmem Hekl.o (hpr.2.1.ext y));obtain⟨ok,Hok2⟩:=ZTy (ord e.id k);rw[Hok2.o]at OR1;clear hk1 hpr hmem;subst hA;go_upto_region 5 with fail;clear hq hw1 hw2;by_cases hxt:ok<0
   ·have h1':∀q e,q<h+1->l[q]?=some e->ord e.id k<0:=λq e2 hq he=>by
     have hxt':ord e.id k<0:=by rw[Hok2.o];exact hxt
     rcases Zb6 q h with h9|h9
     ·exact ZGk Hs.o He.o hxt' ZB he
     ·have:q=h:=by omega
      subst this;rw[He.o]at he;injection he with he;subst he;exact hxt'
    have H1':=ZA h1';clear h1'
    go_region_held3 (λw'=>w'.cell? ⟨b,off+h*4,none⟩=some (.int .i64 (e.pol:Int))/\w'.cell? ⟨b,off+h*4+1,none⟩=some (.slice r1.K ekl r1.kc)/\w'.cell? ⟨b,off+h*4+2,none⟩=some (.int .i64 e.tat)/\w'.cell? ⟨b,off+h*4+3,none⟩=some (.slice r1.H ehl r1.hc)/\w'.cell? ⟨w.heap.size,0,none⟩=some (.int .i64 (t.pol:Int))/\w'.cell? ⟨w.heap.size,1,none⟩=some (.slice rt.K m rt.kc)/\w'.cell? ⟨w.heap.size,2,none⟩=some (.int .i64 t.tat)/\w'.cell? ⟨w.heap.size,3,none⟩=some (.slice rt.H j rt.hc)) (((try go_split_ands);refine⟨?_,?_,?_,?_,?_,?_,?_,?_⟩<;>first|assumption|with_reducible first|exact ZK d0|exact td0|exact ZK td0|exact ZI td0 _|exact ZK (ZI d0 _)|exact ZK d1|exact td1|exact ZK td1|exact ZI td1 _|exact ZK (ZI d1 _)|exact ZK d2|exact td2|exact ZK td2|exact ZI td2 _|exact ZK (ZI d2 _)|exact ZK d3|exact td3|exact ZK td3|exact ZI td3 _|exact ZK (ZI d3 _)|exact ZK b0|exact tb0|exact ZK tb0|exact ZI tb0 _|exact ZK (ZI b0 _)|exact ZK b1|exact tb1|exact ZK tb1|exact ZI tb1 _|exact ZK (ZI b1 _)|exact ZK b2|exact tb2|exact ZK tb2|exact ZI tb2 _|exact ZK (ZI b2 _)|exact ZK b3|exact tb3|exact ZK tb3|exact ZI tb3 _|exact ZK (ZI b3 _))) ((go_at_call 120;(with_reducible refine(OR1.o wr.drew (ZL.refl wr).drew).mono ?_);rintro e9 w9 ⟨rfl,hy⟩;have HY:=ZA ((ZL.refl wr).drew.trans hy);have td0:=ZG (HY.o) d0;have td1:=ZG (HY.o) d1;have td2:=ZG (HY.o) d2;have td3:=ZG (HY.o) d3;have tb0:=ZG (HY.o) b0;have tb1:=ZG (HY.o) b1;have tb2:=ZG (HY.o) b2;have tb3:=ZG (HY.o) b3;clear hy))
    all_goals
     go_wp2_with fail
     go_roundw
     case rel=>exact⟨h+1,jj,by go_num,rfl,by omega,by omega,HX.o.trans HY.o,H1'.o,λq e hq he=>Int.not_lt.2 (H2.o q e hq he)⟩
     case measure=>simp[intOf];omega
   ·have h2':∀q e,h<=q->l[q]?=some e->¬ord e.id k<0:=λq e2 hq he=>ZOm Hs.o He.o (by rw[Hok2.o];exact hxt) hq he;have H2':=ZA h2';clear h2'
    go_region_held3 (λw'=>w'.cell? ⟨b,off+h*4,none⟩=some (.int .i64 (e.pol:Int))/\w'.cell? ⟨b,off+h*4+1,none⟩=some (.slice r1.K ekl r1.kc)/\w'.cell? ⟨b,off+h*4+2,none⟩=some (.int .i64 e.tat)/\w'.cell? ⟨b,off+h*4+3,none⟩=some (.slice r1.H ehl r1.hc)/\w'.cell? ⟨w.heap.size,0,none⟩=some (.int .i64 (t.pol:Int))/\w'.cell? ⟨w.heap.size,1,none⟩=some (.slice rt.K m rt.kc)/\w'.cell? ⟨w.heap.size,2,none⟩=some (.int .i64 t.tat)/\w'.cell? ⟨w.heap.size,3,none⟩=some (.slice rt.H j rt.hc)) (((try go_split_ands);refine⟨?_,?_,?_,?_,?_,?_,?_,?_⟩<;>first|assumption|with_reducible first|exact ZK d0|exact td0|exact ZK td0|exact ZI td0 _|exact ZK (ZI d0 _)|exact ZK d1|exact td1|exact ZK td1|exact ZI td1 _|exact ZK (ZI d1 _)|exact ZK d2|exact td2|exact ZK td2|exact ZI td2 _|exact ZK (ZI d2 _)|exact ZK d3|exact td3|exact ZK td3|exact ZI td3 _|exact ZK (ZI d3 _)|exact ZK b0|exact tb0|exact ZK tb0|exact ZI tb0 _|exact ZK (ZI b0 _)|exact ZK b1|exact tb1|exact ZK tb1|exact ZI tb1 _|exact ZK (ZI b1 _)|exact ZK b2|exact tb2|exact ZK tb2|exact ZI tb2 _|exact ZK (ZI b2 _)|exact ZK b3|exact tb3|exact ZK tb3|exact ZI tb3 _|exact ZK (ZI b3 _))) ((go_at_call 120;(with_reducible refine(OR1.o wr.drew (ZL.refl wr).drew).mono ?_);rintro e9 w9 ⟨rfl,hy⟩;have HY:=ZA ((ZL.refl wr).drew.trans hy);have td0:=ZG (HY.o) d0;have td1:=ZG (HY.o) d1;have td2:=ZG (HY.o) d2;have td3:=ZG (HY.o) d3;have tb0:=ZG (HY.o) b0;have tb1:=ZG (HY.o) b1;have tb2:=ZG (HY.o) b2;have tb3:=ZG (HY.o) b3;clear hy))
    all_goals
     go_wp2_with fail
     go_roundw
     case rel=>exact⟨i,h,rfl,rfl,by omega,by omega,HX.o.trans HY.o,H1.o,λq e hq he=>Int.not_lt.2 (H2'.o q e hq he)⟩
     case measure=>simp[intOf];omega
  ·obtain rfl:i=jj:=by omega
   have Hat:=ZA (ZQe Hs.o (by rw[Hl.o];omega) H1.o H2.o);by_cases hlt2:i<n
   ·have hlt2i:(i:Int)<(n:Int):=by omega
    obtain⟨e,He⟩:∃e,ZD (l[i]?=some e):=⟨_,Zaz (by rw[Hl.o];omega)⟩;obtain⟨b,off,r1,hA,hk1,d0,d1,d2,d3,hpr⟩:=(HE.o.ext (XW.o.trans HX.o)).at_ He.o;have hmem:=ZbO He.o;obtain⟨hb,Hb⟩:∃hb:Bool,ZD (ZAD l k=hb):=⟨_,rfl⟩;have Hho:=ZA (ZPz (l:=l) (k:=k) (by rw[<-Hat.o];exact He.o));obtain⟨ekl,Hekl⟩:=ZTy (e.key.length);obtain⟨ehl,Hehl⟩:=ZTy (e.held.length);rw[Hekl.o]at d1;rw[Hehl.o]at d3;have OR1:=ZA (λu (y:ZL wr u)=>OR.o u (HX.o.trans y) e r1 ekl ehl hmem Hekl.o (hpr.2.1.ext y));have hEq:(ord e.id k==0)=hb:=by
     have h9:=Hho.o;rw[Hb.o]at h9;rw[h9];by_cases h0:ord e.id k=0
     ·rw[Zcb h0];simp[h0]
     ·rw[Zca h0];simp[h0]
    obtain⟨ok,Hok2⟩:=ZTy (ord e.id k);rw[Hok2.o]at OR1 hEq;clear hk1 hpr hmem;subst hA;go_upto_region 8 with fail
    go_region_held3 (λw'=>w'.cell? ⟨b,off+i*4,none⟩=some (.int .i64 (e.pol:Int))/\w'.cell? ⟨b,off+i*4+1,none⟩=some (.slice r1.K ekl r1.kc)/\w'.cell? ⟨b,off+i*4+2,none⟩=some (.int .i64 e.tat)/\w'.cell? ⟨b,off+i*4+3,none⟩=some (.slice r1.H ehl r1.hc)/\w'.cell? ⟨w.heap.size,0,none⟩=some (.int .i64 (t.pol:Int))/\w'.cell? ⟨w.heap.size,1,none⟩=some (.slice rt.K m rt.kc)/\w'.cell? ⟨w.heap.size,2,none⟩=some (.int .i64 t.tat)/\w'.cell? ⟨w.heap.size,3,none⟩=some (.slice rt.H j rt.hc)) (((try go_split_ands);refine⟨?_,?_,?_,?_,?_,?_,?_,?_⟩<;>first|assumption|with_reducible first|exact ZK d0|exact td0|exact ZK td0|exact ZI td0 _|exact ZK (ZI d0 _)|exact ZK d1|exact td1|exact ZK td1|exact ZI td1 _|exact ZK (ZI d1 _)|exact ZK d2|exact td2|exact ZK td2|exact ZI td2 _|exact ZK (ZI d2 _)|exact ZK d3|exact td3|exact ZK td3|exact ZI td3 _|exact ZK (ZI d3 _)|exact ZK b0|exact tb0|exact ZK tb0|exact ZI tb0 _|exact ZK (ZI b0 _)|exact ZK b1|exact tb1|exact ZK tb1|exact ZI tb1 _|exact ZK (ZI b1 _)|exact ZK b2|exact tb2|exact ZK tb2|exact ZI tb2 _|exact ZK (ZI b2 _)|exact ZK b3|exact tb3|exact ZK tb3|exact ZI tb3 _|exact ZK (ZI b3 _))) ((go_at_call 120;(with_reducible refine(OR1.o wr.drew (ZL.refl wr).drew).mono ?_);rintro e9 w9 ⟨rfl,hy⟩;have HY:=ZA ((ZL.refl wr).drew.trans hy);have td0:=ZG (HY.o) d0;have td1:=ZG (HY.o) d1;have td2:=ZG (HY.o) d2;have td3:=ZG (HY.o) d3;have tb0:=ZG (HY.o) b0;have tb1:=ZG (HY.o) b1;have tb2:=ZG (HY.o) b2;have tb3:=ZG (HY.o) b3;clear hy))
    all_goals
     go_wp2_with fail
     go_ret2
     exact⟨ZAz (by rw[<-Hat.o];rfl) (ZDC (by rw[Hb.o])),XW.o.trans (HX.o.trans HY.o)⟩
   ·have hlt2i:¬(i:Int)<(n:Int):=by omega
    have Hnone:=ZA (ZNt (l:=l) (k:=k) (by rw[<-Hat.o,Hl.o];exact hlt2));have hd:decide ((i:Int)<(n:Int))=false:=Zca hlt2i;go_upto_region 8 with fail
    go_quiet (fail)
    go_wp2_with fail
    go_ret2
    exact⟨ZAz (by rw[<-Hat.o];rfl) (ZDC Hnone.o.symm),XW.o.trans (HX.o.trans ((ZL.refl wr).drewN _))⟩
theorem ZDw {fn:Func}{p u v:Tmp}{ty:TypeId}(h:fn.results=#[.tmp u,.tmp v,.cell p ty])(tmps:Array Value)(P:Program)(w:World): (results fn tmps).run P w=((asAddr (tmps.getD p undef)).run P w).andThen λa w=>((loadVar ty a).run P w).andThen λx w=>.ok (.tuple #[tmps.getD u undef,tmps.getD v undef,x]) w:=by
 simp[results,h,Result.andThen]
theorem ZBr {P:Program}{fn:Func}{p u v:Tmp}{ty:TypeId}(h:fn.results=#[.tmp u,.tmp v,.cell p ty])(tmps:Array Value)(w:World)(g:Nat)(t:TypeId)(cs:Array Value)(fr:Nat × Nat)(d:TypeDesc)(hp:tmps.getD p undef=.pointer (some ⟨g,0,none⟩))(hg:w.heap[g]?=some (.cells cs t fr))(hu:P.underlying ty=some d)(hd:(match d with|.struct _|.array _ _=>true|_=>false)=true)(hi:(P.info? ty).map (·.size)=some cs.size): (results fn tmps).run P w=.ok (.tuple #[tmps.getD u undef,tmps.getD v undef,.agg cs]) w:=by
 rw[ZDw h,hp];simp[asAddr,Zcn w g t ty cs fr d hg hu hd hi,Result.andThen]
theorem ZEE {w:World}{g:Nat}{o:Obj}(h:w.heap[g]?=some o):w.drew.heap[g]?=some o:=h
theorem ZRf {w w2:World}{g:Nat}(h:ZL w w2)(hg:w.heap.size<=g)(a b c d:Value):ZL w ((((w2.setCell ⟨g,0,none⟩ a).setCell ⟨g,1,none⟩ b).setCell ⟨g,2,none⟩ c).setCell ⟨g,3,none⟩ d):=by
 have h0:=Zc w2 g 0 a;have h1:=ZT h0 1 b;have h2:=ZT h1 2 c;exact Ya h (ZT h2 3 d) hg
def ZS3 (X:Zdb)(at_:Nat)(has:Bool)(ce:ZO)(w:World)(e:Ending)(w':World):Prop:=∃r,e=.returned (.tuple #[.int .i64 (at_:Int),.bool has,.agg #[.int .i64 (ce.pol:Int),.slice r.K ce.key.length r.kc,.int .i64 ce.tat,.slice r.H ce.held.length r.hc]])/\YQ w' X r ce/\ZL w w'
theorem ZOi (w:World)(X:Zdb)(A K:Option Addr)(n c m kc:Nat)(l:List ZO)(rs:List YI)(pol:Nat)(key:List Nat)(hl:l.length=n)(hn:n<=5000)(hs:Jn l)(hok:∀e ∈ l,ZCO e)(hE:Zq w X A l rs)(hk:key.length=m)(hkc:m<=kc)(ht:ZCO ⟨pol,key,0,[]⟩)(hr:Rd w K (ZV .u8 key))(hf:Fz w X K): Calls Tryz.prog 191 #[.slice A n c,.int .i64 (pol:Int),.slice K m kc] w (ZS3 X (atK l (pol::key)) (ZAD l (pol::key)) (YV l pol key) w):=by
 obtain⟨W,hW⟩:=ZTz (((w.alloc (.cells #[.int .i64 0,.slice none 0 0,.int .i64 0,.slice none 0 0] 62)).alloc (.cells #[.int .i64 (pol:Int),.slice K m kc,.int .i64 0,.slice none 0 0] 62)));have xW:ZL w W:=by rw[<-hW];exact(((ZL.refl w).alloc _).alloc _)
 have K0:=ZA (show W.heap[w.heap.size]?=some (.cells #[.int .i64 0,.slice none 0 0,.int .i64 0,.slice none 0 0] 62 (0,0)) by rw[<-hW];exact ZR (ZM w _) _);have K1:=ZA (show W.heap[w.heap.size+1]?=some (.cells #[.int .i64 (pol:Int),.slice K m kc,.int .i64 0,.slice none 0 0] 62 (0,0)) by rw[<-hW];exact Zd _ _ ZTv);have BS:=ZA (ZQR W A n c m 0 l rs ⟨pol,key,0,[]⟩ ⟨K,kc,none,0⟩ hl hn hs hok (hE.1.ext xW) hk ht (hr.ext xW));obtain⟨k,Hk⟩:=ZTy (pol::key);have Hidk:(⟨pol,key,0,[]⟩:ZO).id=k:=Hk.o;rw[Hidk]at BS;rw[Hk.o];obtain⟨at_,Hat⟩:=ZTy (atK l k);unfold ZSL at BS;rw[Hat.o]at BS ⊢;have HE:=ZA hE;have Hkey:=ZA hk;have Hr:=ZA hr;have Hf:=ZA hf;have XW:=ZA xW;have Hl:=ZA hl;have HW:=ZA hW;clear hW;cases hh:ZAD l k with
 |true=>
  obtain⟨ce,hce,e1,e2,e3⟩:=ZDA (l:=l) (pol:=pol) (key:=key) (by rw[Hk.o];exact hh);rw[Hk.o,Hat.o]at hce;have Hce:=ZA hce;rw[hh]at BS;rw[e3];have hlt:at_<n:=by rw[<-hl];exact(Za0.1 hce).1
  clear hE hk hr hf ht hl hs hok Hidk hh xW e1 e2 e3 hce;have b0:=ZE K1.o 0;have b1:=ZE K1.o 1;have b2:=ZE K1.o 2;have b3:=ZE K1.o 3;go_enter Tryz.func191,Tryz.ntmps191;go_upto_region 2 with fail
  (try rw[HW.o])
  clear HW;go_wp2_with fail;refine BS.o.mono ?_;rintro e w1 ⟨rfl,hx⟩;have HX:=ZA hx;have KR:=ZA (ZJ K0.o hx);have KC:=ZA (ZJ K1.o hx);clear b0 b1 b2 b3 hx;have b0:=ZE KC.out 0;have b1:=ZE KC.out 1;have b2:=ZE KC.out 2;have b3:=ZE KC.out 3;have y0:=ZF KC.out 0;have y1:=ZF KC.out 1;have y2:=ZF KC.out 2;have y3:=ZF KC.out 3;have r0:=ZE KR.o 0;have r1:=ZE KR.o 1;have r2:=ZE KR.o 2;have r3:=ZE KR.o 3;have z0:=ZF KR.o 0;have z1:=ZF KR.o 1;have z2:=ZF KR.o 2;have z3:=ZF KR.o 3;have HE1:=ZA (HE.o.ext (XW.o.trans HX.o));obtain⟨b,off,r9,hA,hk1,d0,d1,d2,d3,hpr⟩:=HE1.o.1.at_ Hce.o;clear hpr;have Hk1:=ZA hk1;subst hA;clear hk1;go_wp2_with fail;go_region;go_wp2_with fail;have xF:ZL w w1:=XW.o.trans HX.o;have x2:=ZRf (ZRf xF (Zb1 w.heap.size) (.int .i64 (ce.pol:Int)) (.slice r9.K ce.key.length r9.kc) (.int .i64 ce.tat) (.slice r9.H ce.held.length r9.hc)) (Zb0 w.heap.size) (.int .i64 (ce.pol:Int)) (.slice r9.K ce.key.length r9.kc) (.int .i64 ce.tat) (.slice r9.H ce.held.length r9.hc);have KF:=ZAS (Zj (Zj (Zj (Zj KR.o (Zc _ (w.heap.size+1) 0 (.int .i64 (ce.pol:Int))) ZB) (Zc _ (w.heap.size+1) 1 (.slice r9.K ce.key.length r9.kc)) ZB) (Zc _ (w.heap.size+1) 2 (.int .i64 ce.tat)) ZB) (Zc _ (w.heap.size+1) 3 (.slice r9.H ce.held.length r9.hc)) ZB) (.int .i64 (ce.pol:Int)) (.slice r9.K ce.key.length r9.kc) (.int .i64 ce.tat) (.slice r9.H ce.held.length r9.hc);refine ZcY (ZBr (p:=8) (u:=6) (v:=7) rfl _ _ w.heap.size _ #[.int .i64 (ce.pol:Int),.slice r9.K ce.key.length r9.kc,.int .i64 ce.tat,.slice r9.H ce.held.length r9.hc] (0,0) _ rfl (ZEE KF) Tryz.underlying62 ZTw ZC) rfl ?_;exact⟨r9,rfl,(HE.o.part Hk1.o Hce.o).ext x2.drew,x2.drew⟩
 |false=>
  have e9:=ZB5 (l:=l) (pol:=pol) (key:=key) (by rw[Hk.o];exact hh);rw[hh]at BS;rw[e9];have HP:=ZA (show YQ w X ⟨K,kc,none,0⟩ ⟨pol,key,0,[]⟩from⟨⟨by rw[hk];exact hkc,hr,Zb0 _,Rd.nil _ _⟩,hf,Fz.nil⟩);clear hE hk hr hf ht hl hs hok Hidk hh xW e9;have b0:=ZE K1.o 0;have b1:=ZE K1.o 1;have b2:=ZE K1.o 2;have b3:=ZE K1.o 3;go_enter Tryz.func191,Tryz.ntmps191;go_upto_region 2 with fail
  (try rw[HW.o])
  clear HW;go_wp2_with fail;refine BS.o.mono ?_;rintro e w1 ⟨rfl,hx⟩;have HX:=ZA hx;have KR:=ZA (ZJ K0.o hx);have KC:=ZA (ZJ K1.o hx);clear b0 b1 b2 b3 hx;have b0:=ZE KC.out 0;have b1:=ZE KC.out 1;have b2:=ZE KC.out 2;have b3:=ZE KC.out 3;have r0:=ZE KR.o 0;have r1:=ZE KR.o 1;have r2:=ZE KR.o 2;have r3:=ZE KR.o 3;have z0:=ZF KR.o 0;have z1:=ZF KR.o 1;have z2:=ZF KR.o 2;have z3:=ZF KR.o 3;go_wp2_with fail;go_region;go_wp2_with fail;have xF:ZL w w1:=XW.o.trans HX.o;have x2:=ZRf xF (Zb0 w.heap.size) (.int .i64 (pol:Int)) (.slice K m kc) (.int .i64 0) (.slice none 0 0);have KF:=ZAS KR.o (.int .i64 (pol:Int)) (.slice K m kc) (.int .i64 0) (.slice none 0 0);refine ZcY (ZBr (p:=8) (u:=6) (v:=7) rfl _ _ w.heap.size _ #[.int .i64 (pol:Int),.slice K m kc,.int .i64 0,.slice none 0 0] (0,0) _ rfl (ZEE KF) Tryz.underlying62 ZTw ZC) rfl ?_;refine⟨⟨K,kc,none,0⟩,?_,HP.o.ext x2.drew,x2.drew⟩;rw[<-Hkey.o];rfl
theorem ZMb {w:World}{base:Nat}{e:TypeId}{A:Option Addr}{n c:Nat}{xs:List Value}(h:w.ownsRow base e 1 (.slice A n c) n xs){k:Nat}(hk:k<=n):w.ownsRow base e 1 (.slice A k c) k (xs.take k):=by
 obtain⟨hl,h⟩:=h;refine⟨by simp;omega,?_⟩;rcases h with⟨h1,h2⟩|⟨g,cap,cur,h1,hb,hg,hnc,hcm,hcs,ht⟩
 ·injection h1 with h1 h3 h4;left;exact⟨by rw[h1,h4,show k=0 by omega],by omega⟩
 ·injection h1 with h1 h3 h4;right;refine⟨g,cap,cur,by rw[h1,h4],hb,hg,by omega,hcm,hcs,?_⟩;rw[<-ht,Zbm]
  congr 1
  omega
theorem ZPR {w:World}{base:Nat}{e:TypeId}{g n c:Nat}{xs:List Value}(h:w.ownsRow base e 1 (.slice (some ⟨g,0,none⟩) n c) n xs)(hc:n<c):∃u,w.ownsRow base e 1 (.slice (some ⟨g,0,none⟩) (n+1) c) (n+1) (xs++[u]):=by
 obtain⟨hl,h⟩:=h;rcases h with⟨h1,h2⟩|⟨g',cap,cur,h1,hb,hg,hnc,hcm,hcs,ht⟩
 ·injection h1 with h1;cases h1
 ·injection h1 with h1 h3 h4;injection h1 with h1;injection h1 with h1;subst h1 h4;have hn:n<cur.toList.length:=by simp[hcs];omega
  refine⟨cur.toList[n],by simp;omega,.inr ⟨g,c,cur,rfl,hb,hg,by omega,hcm,hcs,?_⟩⟩;rw[ZcD]at ht ⊢;rw[Zr (Zaz hn),ht]
def Y0 (xs:List Value):Nat->List Value->List Value
 |_,[]=>xs
 |k,y::ys=>Y0 (xs.set k y) (k+1) ys
theorem XQ:∀(ys xs:List Value) (k:Nat),k+ys.length<=xs.length->Y0 xs k ys=xs.take k++(ys++xs.drop (k+ys.length))
 |[],xs,k,_=>by simp[Y0]
 |y::ys,xs,k,h=>by
  rw[ZbA]at h;rw[Y0,XQ ys (xs.set k y) (k+1) (by simp;omega)];have h1:(xs.set k y).take (k+1)=xs.take k++[y]:=by
   rw[Zr (x:=y) (by rw[Za5 ZB]),List.take_set_of_le ZB]
  have h2:(xs.set k y).drop (k+1+ys.length)=xs.drop (k+(ys.length+1)):=by
   rw[List.drop_set_of_lt ZB]
   congr 1
   omega
  rw[h1,h2];simp
theorem ZCB {base:Nat}{e:TypeId}{g n c:Nat}:∀(ys:List Value) (w:World) (xs:List Value) (k:Nat),w.ownsRow base e 1 (.slice (some ⟨g,0,none⟩) n c) n xs-> (w.setCells g k ys).ownsRow base e 1 (.slice (some ⟨g,0,none⟩) n c) n (Y0 xs k ys)/\w.grownBy (w.setCells g k ys) (some g)
 |[],w,xs,k,h=>⟨h,ZcS w _⟩
 |y::ys,w,xs,k,h=>by
  obtain⟨h1,h2⟩:=h.stored k y;obtain⟨h3,h4⟩:=ZCB ys _ _ (k+1) h1;exact⟨h3,World.grown_trans h2 h4⟩
theorem ZGA {w:World}{base:Nat}{e:TypeId}{A:Option Addr}{n c:Nat}{xs:List Value}(h:w.ownsRow base e 1 (.slice A n c) n xs)(hc:0<c):∃g,A=some ⟨g,0,none⟩/\base<=g/\g<w.heap.size:=by
 rcases h.2 with⟨h1,h2⟩|⟨g,cap,cur,h1,hb,hg,_⟩
 ·injection h1 with h1 h3 h4;omega
 ·injection h1 with h1;exact⟨g,h1,hb,(ZaP.1 hg).1⟩
section
theorem ZEX {w:World}{base s:Nat}{e:TypeId}{A:Option Addr}{n c:Nat}{xs:List Value}(h:w.ownsRow base e s (.slice A n c) n xs){k:Nat}(hk:k<=n):w.ownsRow base e s (.slice A k c) k (xs.take (k*s)):=by
 obtain⟨hl,h⟩:=h;have hks:k*s<=n*s:=ZcC s hk;refine⟨by rw[ZbG];omega,?_⟩;rcases h with⟨h1,h2⟩|⟨g,cap,cur,h1,hb,hg,hnc,hcm,hcs,ht⟩
 ·injection h1 with h1 h3 h4;left;exact⟨by rw[h1,h4,show k=0 by omega],by omega⟩
 ·injection h1 with h1 h3 h4;right;refine⟨g,cap,cur,by rw[h1,h4],hb,hg,by omega,hcm,hcs,?_⟩;rw[<-ht,Zbm,Zb8 hks]
theorem ZK8 {w:World}{base s:Nat}{e:TypeId}{g n c:Nat}{xs:List Value}(h:w.ownsRow base e s (.slice (some ⟨g,0,none⟩) n c) n xs)(hc:n<c):∃us,us.length=s/\w.ownsRow base e s (.slice (some ⟨g,0,none⟩) (n+1) c) (n+1) (xs++us):=by
 obtain⟨hl,h⟩:=h;rcases h with⟨h1,h2⟩|⟨g',cap,cur,h1,hb,hg,hnc,hcm,hcs,ht⟩
 ·injection h1 with h1;cases h1
 ·injection h1 with h1 h3 h4;injection h1 with h1;injection h1 with h1;subst h1 h4;have hm:(n+1)*s<=c*s:=ZcC s ZB;rw[Zbt,ZcH]at hm;have hsz:cur.toList.length=c*s:=by simpa using hcs
  refine⟨(cur.toList.drop (n*s)).take s,by rw[ZbG,ZbB];omega,?_,.inr ⟨g,c,cur,rfl,hb,hg,by omega,hcm,hcs,?_⟩⟩
  ·rw[Za9,hl,ZbG,ZbB,Zbt,ZcH];omega
  ·rw[<-ht,Zbt,ZcH,List.take_add]
theorem JP {base s:Nat}{e:TypeId}{g n c:Nat}:∀(ys:List Value) (w:World) (xs:List Value) (k:Nat),w.ownsRow base e s (.slice (some ⟨g,0,none⟩) n c) n xs-> (w.setCells g k ys).ownsRow base e s (.slice (some ⟨g,0,none⟩) n c) n (Y0 xs k ys)/\w.grownBy (w.setCells g k ys) (some g)
 |[],w,xs,k,h=>⟨h,ZcS w _⟩
 |y::ys,w,xs,k,h=>by
  obtain⟨h1,h2⟩:=h.stored k y;obtain⟨h3,h4⟩:=JP ys _ _ (k+1) h1;exact⟨h3,World.grown_trans h2 h4⟩
theorem ZAk {w:World}{base s:Nat}{e:TypeId}{A:Option Addr}{n c:Nat}{xs:List Value}(h:w.ownsRow base e s (.slice A n c) n xs)(hc:0<c):∃g,A=some ⟨g,0,none⟩/\base<=g/\g<w.heap.size:=by
 rcases h.2 with⟨h1,h2⟩|⟨g,cap,cur,h1,hb,hg,_⟩
 ·injection h1 with h1 h3 h4;omega
 ·injection h1 with h1;exact⟨g,h1,hb,(ZaP.1 hg).1⟩
variable {P:Program}
theorem Jj (w:World)(dT sT ty elem:TypeId)(s:Nat)(b o dLen dCap:Nat)(a:Addr)(sLen sCap m:Nat)(cs:List Value)(hu:P.underlying dT=some (.slice elem))(hs:(P.info? elem).map (·.size)=some s)(hm:m=Nat.min sLen dLen)(hn:cs.length=m*s)(hsrc:∀j v,cs[j]?=some v->w.cell? (a.add j)=some v)(hc:∀j,j<cs.length->(w.cell? ⟨b,o+j,none⟩).isSome=true)(hf:∀j,j<cs.length->w.frozen? ⟨b,o+j,none⟩=false)(h1:∀v ∈ cs,v.oneCell'=true): (Builtin.copy_ #[dT,sT] ty #[.slice (some ⟨b,o,none⟩) dLen dCap,.slice (some a) sLen sCap]).run P w=.ok (goInt m) (w.setCells b o cs):=by
 have hl:=run_loadCells_list (P:=P) w a cs hsrc;have hst:=run_storeCells_cells (P:=P) b o cs 0 w (by simpa using hc) (by simpa using hf) h1;cases hq:P.info? elem with
 |none=>simp[hq]at hs
 |some i=>
  have hi:i.size=s:=by simpa[hq]using hs
  subst hm;simp[Builtin.copy_,run_underlying hu,Builtin.lenOf,Builtin.firstCells,sizeOf,typeInfo,hq,hi,<-hn,hl,hst]
theorem ZBV (w:World)(t e ty:TypeId)(z:Value)(zs:List Value)(ht:P.underlying t=some (.slice e))(hv:∀w,(zeroValue e).run P w=.ok z w)(b o n c:Nat)(hn:0<n)(hz:(Builtin.zeroCells z.cells n).toList=zs)(h1:∀v ∈ zs,v.oneCell'=true)(hc:∀j,j<zs.length->(w.cell? ⟨b,o+j,none⟩).isSome=true)(hf:∀j,j<zs.length->w.frozen? ⟨b,o+j,none⟩=false): (Builtin.clear_ #[t] ty #[.slice (some ⟨b,o,none⟩) n c]).run P w=.ok (.tuple #[]) (w.setCells b o zs):=by
 have hst:=run_storeCells_cells (P:=P) b o zs 0 w (by simpa using hc) (by simpa using hf) h1;simp only[Zbw]at hst;obtain⟨m,rfl⟩:∃m,n=m+1:=⟨n - 1,by omega⟩;simp[Builtin.clear_,run_underlying ht,hv,hz,hst]
def ZIb (s:Nat)(xs:List Value)(k:Nat)(news:List Value):List Value:=xs.take (k*s)++(news++xs.drop (k*s))
def ZOG (s:Nat)(xs:List Value)(k:Nat):List Value:=xs.take (k*s)++xs.drop (k*s+s)
end
theorem ZGL:(Tryz.prog.info? 2).map (λi=>(i.zero,i.size,i.bytes))=some (some (.int .i64 0),1,8):=by kernel_rfl
theorem ZJM:∀u:World,(sizeOf 2).run Tryz.prog u=.ok 1 u:=λ_=>by kernel_rfl
theorem ZMx {ops:Array Oper}{rest:List Oper}{o:Oper}{a:Act}{Q:Exit->Act->World->Prop}(w:World)(hgd:o.guard=none)(s x:Operand)(ho:o.op=.call {callee:=.builtin .append,args:=#[s,x],argTypes:=#[60,60]})(base:Nat){B:Option Addr}{n cb:Nat}{xs:List Int}(hs:a.eval s=.slice B n cb)(hown:w.ownsRow base 2 1 (.slice B n cb) n (Zm xs)){A:Option Addr}{m c:Nat}{news:List Int}(hx:a.eval x=.slice A m c)(hl:news.length=m)(hr:Rd w A (Zm news))(hb:n+m<=17592186044416)(hbase:base<=w.heap.size)(h:∀B' cb' w',w'.ownsRow base 2 1 (.slice B' (n+m) cb') (n+m) (Zm (xs++news))->w.grownBy w' (Value.slice B n cb).ownBlock-> ((Value.slice B' (n+m) cb').ownBlock=(Value.slice B n cb).ownBlock\/(Value.slice B' (n+m) cb').ownBlock=some w.heap.size)->wpList Tryz.prog ops Q rest (a.put o.dst (.slice B' (n+m) cb')) w'): wpList Tryz.prog ops Q (o::rest) a w:=by
 obtain⟨i0,hi,hz0,hz1,hz2⟩:=Zch ZGL;refine Yv w hgd s x 60 ho base 2 Tryz.underlying60 hi hz0 hz1 hz2 rfl (by decide) hs hown hx (by rw[YZ,hl,ZcD]) hr (ZC4 _) (by unfold maxLen;omega) ZB hbase ?_;intro B' cb' w' h2 h3 h4;rw[<-ZIa]at h2;exact h B' cb' w' h2 h3 h4
theorem ZS9 (w:World):(w.alloc (.cells #[] 2)).ownsRow w.heap.size 2 1 (.slice (some ⟨w.heap.size,0,none⟩) 0 0) 0 (Zm []):=XR w [] 2 1 0 rfl (ZcL _) (Zb0 _)
section
theorem ZFn (w:World)(n:Int):Calls Tryz.prog 291 #[.int .i64 n] w (ZQn (.bool (decide (Ser n))) w):=by
 by_cases h1:1<=n
 ·by_cases h2:n<=4611686018427387903
  ·go_enter Tryz.func291,Tryz.ntmps291;go_wp2_with fail;go_ret;exact⟨ZBL (Zcb (show Ser n from⟨h1,h2⟩)).symm,0,rfl⟩
  ·go_enter Tryz.func291,Tryz.ntmps291;go_wp2_with fail;go_ret;exact⟨ZBL (Zca (show ¬Ser n from λh=>by have:=h.2;omega)).symm,0,rfl⟩
 ·go_enter Tryz.func291,Tryz.ntmps291;go_wp2_with fail;go_ret;exact⟨ZBL (Zca (show ¬Ser n from λh=>by have:=h.1;omega)).symm,0,rfl⟩
open Classical in
noncomputable def ZJ6 (p:Int)(xs:List Int):Int:=if ZDG p xs then 0 else 3
theorem ZC6 {p:Int}{xs:List Int}(h:ZDG p xs):ZJ6 p xs=0:=Zcg h
theorem ZGW {p:Int}{xs:List Int}(h:¬ZDG p xs):ZJ6 p xs=3:=Zcf h
theorem ZGU {p:Int}{xs:List Int}{k:Nat}(hk:k<xs.length)(h:¬ZSb xs k):ZJ6 p xs=3:=ZGW λhf=>h (hf.2.2.2 k hk)
theorem ZEg (w:World)(p:Int)(A:Option Addr)(n c:Nat)(xs:List Int)(hl:xs.length=n)(_hn:n<=17592186044416)(hr:Rd w A (Zm xs)): Calls Tryz.prog 283 #[.agg #[.int .i64 p,.slice A n c]] w (Xu (.int .i64 (ZJ6 p xs)) w):=by
 by_cases hp:p<1\/64<p\/p<n
 ·have e:ZJ6 p xs=3:=ZGW λhf=>by obtain⟨h1,h2,h3,_⟩:=hf;omega
  rw[e];by_cases h1:p<1
  ·clear hp;go_enter Tryz.func283,Tryz.ntmps283;go_wp2_with fail;go_ret;exact⟨rfl,(ZL.refl w).alloc _⟩
  ·have h1':¬p<1:=h1;by_cases h2:64<p
   ·clear hp;go_enter Tryz.func283,Tryz.ntmps283;go_wp2_with fail;go_ret;exact⟨rfl,(ZL.refl w).alloc _⟩
   ·have h3:p<(n:Int):=by omega
    clear hp;go_enter Tryz.func283,Tryz.ntmps283;go_wp2_with fail;go_ret;exact⟨rfl,(ZL.refl w).alloc _⟩
 ·have h1:¬p<1:=by omega
  have h2:¬64<p:=by omega
  have h3:¬p<(n:Int):=by omega
  have Hl:=ZA hl;have Hr:=ZA (hr.alloc (.cells #[.int .i64 p,.slice A n c] 369 (0,0)));clear hl hr hp;go_enter Tryz.func283,Tryz.ntmps283;go_wp2_with fail
  go_loopw [3,25] (λv i wr=>∃k q:Nat,k<=n/\i=.int .i64 (k:Int)/\wr=(w.alloc (.cells #[.int .i64 p,.slice A n c] 369 (0,0))).drewN q/\(∀j,j<k->ZSb xs j)/\v=.int .i64 (if k=0 then 0 else xs.getD (k - 1) 0)) (λ_ i _=>n - (intOf i).toNat)
  case atStart=>exact⟨0,0,ZcL _,rfl,rfl,λj hj=>by omega,rfl⟩
  case round=>
   obtain⟨k,q,hk,rfl,rfl,hok,rfl⟩:=hrel;have Hok:=ZA hok;clear hok;obtain⟨last,Hlast⟩:=ZTy ((if k=0 then (0:Int) else xs.getD (k - 1) 0));rw[Hlast.o];by_cases hlt:k<n
   ·obtain⟨b,off,hA,_,hc⟩:=(Hr.o.drewN q).atI (j:=k) (by rw[Hl.o];exact hlt);obtain⟨x,Hx⟩:=ZTy (xs.getD k 0);rw[Hx.o]at hc;subst hA;go_wp2_with fail;refine(ZFn _ x).mono ?_;rintro e w1 ⟨rfl,q2,rfl⟩;by_cases hs:Ser x
    ·rw[Zcb hs];by_cases hle:x<=last
     ·go_wp2_with fail;go_ret;refine⟨ZAT (ZGU (k:=k) (by rw[Hl.o];exact hlt) λho=>?_).symm,((ZL.refl w).alloc _).drewN _⟩;obtain⟨o1,o2,o3⟩:=ho;have h6:=Hlast.o;rw[Hx.o]at o3;by_cases hk0:k=0
      ·rw[Zcg hk0]at h6;have:=hs.1;omega
      ·rw[Zcf hk0]at h6;have:=o3 ZB;omega
     ·go_wp2_with fail
      go_roundw
      case rel=>
       refine⟨k+1,q+q2,by omega,by go_num,rfl,λj hj=>?_,?_⟩
       ·by_cases e1:j=k
        ·rw[e1];refine⟨by rw[Hx.o];exact hs.1,by rw[Hx.o];exact hs.2,λh0=>?_⟩;have h6:=Hlast.o;rw[Zcf ZB]at h6;rw[Hx.o];omega
        ·exact Hok.o j ZB
       ·rw[Zcf ZB,Zbu,Hx.o]
      case measure=>simp[intOf];omega
    ·rw[Zca hs];go_wp2_with fail;go_ret;exact⟨ZAT (ZGU (k:=k) (by rw[Hl.o];exact hlt) λho=>hs ⟨by rw[<-Hx.o];exact ho.1,by rw[<-Hx.o];exact ho.2.1⟩).symm,((ZL.refl w).alloc _).drewN _⟩
   ·go_wp2_with fail;go_ret;refine⟨ZAT (ZC6 ⟨by omega,by omega,by rw[Hl.o];omega,λj hj=>Hok.o j (by rw[Hl.o]at hj;omega)⟩).symm,((ZL.refl w).alloc _).drewN _⟩
end
theorem ZPh (w:World)(x t:Int):Calls Tryz.prog 293 #[.int .i64 x,.int .i64 t] w (Xu (.bool (decide (x<t))) w):=by
 by_cases h:x<t
 ·rw[Zcb h];go_enter Tryz.func293,Tryz.ntmps293;go_wp2;go_ret;exact⟨rfl,ZL.refl w⟩
 ·rw[Zca h];go_enter Tryz.func293,Tryz.ntmps293;go_wp2;go_ret;exact⟨rfl,ZL.refl w⟩
theorem ZDU (w:World)(t:Int)(A:Option Addr)(n c:Nat)(xs:List Int)(hl:xs.length=n)(hn:n<=17592186044416)(hr:Rd w A (Zm xs))(hg:ZBT xs)(at_:Nat)(ha:At xs t at_): Calls Tryz.prog 284 #[.slice A n c,.int .i64 t] w (Xu (.tuple #[.int .i64 (at_:Int),.bool (decide (t ∈ xs))]) w):=by
 have Hl:=ZA hl;have Hr:=ZA hr;have Ha:=ZA ha;have Hg:=ZA hg;have Hm:=ZA (ZMF ha hg);clear hl hr ha hg;go_enter Tryz.func284,Tryz.ntmps284;go_wp2
 go_loopw [7,8] (λi j wr=>∃a b:Nat,a<=at_/\at_<=b/\b<=n/\i=.int .i64 (a:Int)/\j=.int .i64 (b:Int)/\ZL w wr) (λi j _=>(intOf j).toNat - (intOf i).toNat)
 case atStart=>exact⟨0,n,ZcL _,by have:=Ha.o.1;rw[Hl.o]at this;exact this,Zb0 _,rfl,rfl,ZL.refl w⟩
 case round=>
  obtain⟨a,b,h1,h2,h3,rfl,rfl,hx⟩:=hrel;by_cases hlt:a<b
  ·obtain⟨h,Hh⟩:=ZTy ((a+b) / 2);have hh1:a<=h:=by have:=Hh.o;omega
   have hh2:h<b:=by have:=Hh.o;omega
   have hh3:h<n:=by omega
   have hw1:IntKind.i64.wrap ((a:Int)+(b:Int))=(a:Int)+(b:Int):=by rw[Zaa];omega
   have hw2:IntKind.u64.wrap ((a:Int)+(b:Int))=(a:Int)+(b:Int):=by rw[Zab];omega
   obtain⟨bb,off,hA,_,hc⟩:=(Hr.o.ext hx).atI (j:=h) (by rw[Hl.o];omega);obtain⟨x,Hx⟩:=ZTy (xs.getD h 0);rw[Hx.o]at hc;subst hA;have hq:((a:Int)+(b:Int)) / 2=(h:Int):=by have:=Hh.o;omega
   go_upto_region 5 with fail;clear hq hw1 hw2;go_wp2_with fail;refine(ZPh wr x t).mono ?_;rintro e w1 ⟨rfl,hy⟩;by_cases hxt:x<t
   ·rw[Zcb hxt];have Hxt:=ZA hxt;clear hxt;have hah:h<at_:=by
     refine Nat.lt_of_not_le λhle=>?_;have k1:=Ha.o.2.2 h hle (by rw[Hl.o];exact hh3);have k2:=Hx.o;have k3:=Hxt.o;omega
    go_wp2_with fail
    go_roundw
    case rel=>exact⟨h+1,b,by omega,by omega,by omega,by go_num,rfl,hx.trans hy⟩
    case measure=>simp[intOf];omega
   ·rw[Zca hxt];have Hxt:=ZA hxt;clear hxt;have hah:at_<=h:=by
     refine Nat.le_of_not_lt λhle=>?_;have k1:=Ha.o.2.1 h hle;have k2:=Hx.o;have k3:=Hxt.o;omega
    go_wp2_with fail
    go_roundw
    case rel=>exact⟨a,h,by omega,by omega,by omega,rfl,rfl,hx.trans hy⟩
    case measure=>simp[intOf];omega
  ·obtain rfl:a=at_:=by omega
   by_cases hlt2:a<n
   ·obtain⟨bb,off,hA,_,hc⟩:=(Hr.o.ext hx).atI (j:=a) (by rw[Hl.o];omega);obtain⟨x,Hx⟩:=ZTy (xs.getD a 0);rw[Hx.o]at hc;subst hA;by_cases hxt:x=t
    ·have hb:(x==t)=true:=by simp[hxt]
     have Hxt:=ZA hxt;clear hxt;go_wp2
     go_ret2
     exact⟨ZAz rfl (ZDC (Zcb (Hm.o.2 ⟨by rw[Hl.o];exact hlt2,by rw[Hx.o,Hxt.o]⟩)).symm),hx⟩
    ·have hb:(x==t)=false:=by simp[hxt]
     have Hxt:=ZA hxt;clear hxt;go_wp2
     go_ret2
     exact⟨ZAz rfl (ZDC (Zca λhm=>Hxt.o (by rw[<-Hx.o];exact(Hm.o.1 hm).2)).symm),hx⟩
   ·go_wp2
    go_ret2
    exact⟨ZAz rfl (ZDC (Zca λhm=>by have:=(Hm.o.1 hm).1;rw[Hl.o]at this;omega).symm),hx⟩
def ZTn (base:Nat)(xs:List Int)(w:World)(e:Ending)(w':World):Prop:=∃A c,e=.returned (.slice A xs.length c)/\w'.ownsRow base 2 1 (.slice A xs.length c) xs.length (Zm xs)/\ZL w w'
theorem ZTB (w:World)(A:Option Addr)(n c n' c':Nat):(binOp .eql 60 (.slice A n c) (.slice none n' c')).run Tryz.prog w=.ok (.bool A.isNone) w:=Zad w _ _ A n c n' c' Tryz.underlying60
theorem ZGO (A:Option Addr)(n c:Nat)(xs:List Int)(w:World)(hl:xs.length=n)(hn:n<=17592186044416)(hr:Rd w A (Zm xs)): Calls Tryz.prog 165 #[.slice A n c] w (ZTn w.heap.size xs w):=by
 have Hl:=ZA hl;have Hr:=ZA hr;have q:=ZTB;cases A with
 |none=>
  have h0:xs=[]:=by
   refine ZaW λh=>?_;obtain⟨b,off,hA,_⟩:=hr (λe=>h (by simpa[Zm]using e));cases hA
  subst h0;clear hl hr;obtain rfl:n=0:=by have:=Hl.o;simpa using this.symm
  go_enter Tryz.func165,Tryz.ntmps165;go_wp2;go_ret;exact⟨none,0,rfl,ZcU _ _ _ _,ZL.refl w⟩
 |some a=>
  clear hl hr;go_enter Tryz.func165,Tryz.ntmps165;go_wp2_with (at_builtin;refine ZMx _ rfl (.tmp 5) (.tmp 6) rfl w.heap.size rfl (ZS9 w) rfl Hl.o (Hr.o.alloc _) ZB ZTv ?_;intro A' c' w1 hown hgrow _;simp only[ZcK,ZbV]at hown);go_ret;rw[<-Hl.o]at hown ⊢;exact⟨A',c',rfl,hown,((ZL.refl w).alloc _).grown hgrow (by simp[Value.ownBlock])⟩
section
section
variable {P:Program} {ops:Array Oper} {Q:Exit->Act->World->Prop} {md:Region.Mode} {S:World->Prop} {K:List Nat}
def YL (S:World->Prop)(K:List Nat)(listed:Array Bool)(w:World):Prop:=(∀k ∈ K,listed.getD k true=false)->S w
def Jr (P:Program)(md:Region.Mode)(ops:Array Oper)(Q:Exit->Act->World->Prop)(S:World->Prop)(K:List Nat):Nat->Array Bool->Act->World->Prop
 |0,listed,a,w=>Region.ready md ops listed=[]/\Q .normal a w
 |fuel+1,listed,a,w=>(Region.ready md ops listed=[]->Q .normal a w)/\
  ∀i ∈ Region.ready md ops listed,wpOp P ops Q i (λa' w'=>YL S K (listed.setIfInBounds i true) w'/\Jr P md ops Q S K fuel (listed.setIfInBounds i true) a' w') a w
theorem ZFc:∀(fuel:Nat) (listed:Array Bool) (a:Act) (w:World),Jr P md ops Q S K fuel listed a w->wpAny P md ops Q fuel listed a w
 |0,_,_,_,h=>h
 |fuel+1,_,_,_,h=>⟨h.1,λi hi=>wpOp_mono (λa' w' h'=>ZFc fuel _ a' w' h'.2) (h.2 i hi)⟩
def ZIl (md:Region.Mode)(ops:Array Oper)(listed:Array Bool):Bool:=(List.range ops.size).all λj=>!listed.getD j false||match ops[j]? with
  |some o=>o.after.all λe=>!Region.binds md e||listed.getD e.on false
  |none=>true
def ZDj (md:Region.Mode)(ops:Array Oper)(listed:Array Bool):Prop:=∀j o,ops[j]?=some o->listed.getD j false=true->∀e ∈ o.after,Region.binds md e=true->listed.getD e.on false=true
theorem ZON {listed:Array Bool}(h:ZIl md ops listed=true):ZDj md ops listed:=λj o ho hl e he hb=>by
 unfold ZIl at h;rw[List.all_eq_true]at h;have h1:=h j (ZbT.2 (ZaP.1 ho).1);simp only[hl,ho,Bool.not_true,Bool.false_or]at h1;have h2:=Array.all_eq_true_iff_forall_mem.1 h1 e he;simpa[hb]using h2
theorem ZDj.set {listed:Array Bool}{j:Nat}(h:ZDj md ops listed)(hj:j ∈ Region.ready md ops listed):ZDj md ops (listed.setIfInBounds j true):=λi o ho hl e he hb=>by
 by_cases hij:i=j
 ·subst hij;obtain⟨_,o',ho',hall⟩:=mem_ready.1 hj;rw[ho]at ho';injection ho' with ho';subst ho';exact getD_set_true (hall e he hb)
 ·rw[Zcc false (λe=>hij e.symm)]at hl;exact getD_set_true (h i o ho hl e he hb)
def ZCy (md:Region.Mode)(ops:Array Oper)(i:Nat):Nat->Nat->Bool
 |0,_=>false
 |n+1,k=>match ops[k]? with
  |some o=>o.after.toList.any λe=>Region.binds md e&&(e.on==i||ZCy md ops i n e.on)
  |none=>false
theorem ZFg {listed:Array Bool}(hc:ZDj md ops listed){i:Nat}:∀(n k:Nat),ZCy md ops i n k=true->(∀o,ops[k]?=some o->∀e ∈ o.after,Region.binds md e=true->listed.getD e.on false=true)->listed.getD i false=true
 |0,_,h,_=>by cases h
 |n+1,k,h,hk=>by
  unfold ZCy at h;cases ho:ops[k]? with
  |none=>rw[ho]at h;cases h
  |some o=>
   rw[ho]at h;obtain⟨e,he',h1⟩:=List.any_eq_true.1 h;have he:e ∈ o.after:=by simpa using he'
   rw[Bool.and_eq_true,Bool.or_eq_true]at h1;obtain⟨hb,h2⟩:=h1;have hl:=hk o ho e he hb;rcases h2 with h2|h2
   ·rw[<-Zcj h2];exact hl
   ·exact ZFg hc n e.on h2 λo' ho'=>hc e.on o' ho' hl
theorem YL.set {listed:Array Bool}{w:World}{i:Nat}(h:YL S K listed w)(hi:i ∉ K):YL S K (listed.setIfInBounds i true) w:=λhk=>h λk hkk=>by
 have:=hk k hkk
 rwa [Zcc true (show i≠k from λe=>hi (e ▸ hkk))]at this
theorem YL.back {listed:Array Bool}{w:World}{i:Nat}(h:YL S K (listed.setIfInBounds i true) w)(hi:i ∉ K):YL S K listed w:=λhk=>h λk hkk=>by
 rw[Zcc true (show i≠k from λe=>hi (e ▸ hkk))];exact hk k hkk
theorem ZDY {listed:Array Bool}{i:Nat}(hi0:listed.getD i true=false):¬listed.getD i false=true:=λe=>by
 rcases Zb6 i listed.size with h'|h'
 ·simp[h']at hi0 e;rw[hi0]at e;cases e
 ·simp[Array.getElem?_eq_none h']at e
theorem ZNV {listed:Array Bool}{i:Nat}(h:¬listed.getD i true=true):listed.getD i true=false:=by
 cases e:listed.getD i true with
 |false=>rfl
 |true=>exact absurd e h
theorem ZJg {listed:Array Bool}{i n:Nat}(hc:ZDj md ops listed)(hs:ops.size<=listed.size)(hi0:listed.getD i true=false)(hw:∀k ∈ K,ZCy md ops i n k=true):∀k ∈ K,listed.getD k true=false:=λk hk=>ZNV λe=>by
 have hw':=hw k hk;refine ZDY hi0 (ZFg hc n k hw' λo ho=>hc k o ho ?_);have hlt:k<ops.size:=(ZaP.1 ho).1;have:k<listed.size:=by omega
 simp[this]at e ⊢;exact e
theorem ZH6 {i n:Nat}{oi:Oper}{v:Value}(hi:ops[i]?=some oi)(hsel:∀(j:Nat) (o:Oper) cs b,ops[j]?=some o->o.op≠.select cs b)(hQ:∀c a w,Q (.panic c) (a.put oi.dst v) w->Q (.panic c) a w)(hw:∀k ∈ K,ZCy md ops i n k=true)(hiK:i ∉ K): ∀(fuel:Nat) (listed:Array Bool) (a:Act) (w:World),(∀j oj,ops[j]?=some oj->j≠i->listed.getD j true=false->(∀e ∈ oj.after,Region.binds md e=true->e.on≠i)->oi.apart ops oj=true)-> i ∈ Region.ready md ops listed->ZDj md ops listed->ops.size<=listed.size->YieldsIf P ops S oi v a->S w-> Jr P md ops Q S K fuel (listed.setIfInBounds i true) (a.put oi.dst v) w->Jr P md ops Q S K (fuel+1) listed a w:=by
 intro fuel
 induction fuel with
 |zero=>
  intro listed a w _ hr _ _ hy hS H;refine⟨λh=>(by rw[h]at hr;cases hr),λj hj=>?_⟩;by_cases hji:j=i
  ·subst hji;exact hy.wpOp hi hS ⟨λ_=>hS,H⟩
  ·have:=ready_mono hj hji;rw[H.1]at this;cases this
 |succ fuel ih=>
  intro listed a w hfree hr hcl hsz hy hS H;refine⟨λh=>(by rw[h]at hr;cases hr),λj hj=>?_⟩;by_cases hji:j=i
  ·subst hji;exact hy.wpOp hi hS ⟨λ_=>hS,H⟩
  ·have h1:=H.2 j (ready_mono hj hji);obtain⟨hjun,oj,hoj,hall⟩:=mem_ready.1 hj;have hi0:=(mem_ready.1 hr).1;have hnot:∀e ∈ oj.after,Region.binds md e=true->e.on≠i:=λe he hb heq=>ZDY hi0 (heq ▸ hall e he hb);have h2:=wpOp_putIf hoj (hfree j oj hoj hji hjun hnot) (λcs b=>hsel i oi cs b hi) (λcs b=>hsel j oj cs b hoj) hQ hy h1;have hfree':∀k ok,ops[k]?=some ok->k≠i->(listed.setIfInBounds j true).getD k true=false->
     (∀e ∈ ok.after,Region.binds md e=true->e.on≠i)->oi.apart ops ok=true:=λk ok hk hki hun hno=>by
    refine hfree k ok hk hki ?_ hno;by_cases hjk:j=k
    ·subst hjk;exact hjun
    ·rw[Zcc true hjk]at hun;exact hun
   have hcl':=hcl.set hj;have hsz':ops.size<=(listed.setIfInBounds j true).size:=by simpa using hsz
   have hi0':(listed.setIfInBounds j true).getD i true=false:=by rw[Zcc true hji];exact hi0
   refine wpOp_mono (λa' w' h3=>?_) h2;have hS':YL S K (listed.setIfInBounds j true) w':=by
    have:=h3.2.1;rw[ZaU _ _ (λe=>hji e.symm)]at this;exact this.back hiK
   refine⟨hS',ih (listed.setIfInBounds j true) a' w' hfree' (ready_mono hr (Ne.symm hji)) hcl' hsz' h3.1 (hS' (ZJg hcl' hsz' hi0' hw)) ?_⟩;rw[ZaU _ _ hji];exact h3.2.2
theorem ZR3 (n:Nat){i:Nat}{oi:Oper}{v:Value}{fuel:Nat}{listed:Array Bool}{a:Act}{w:World}(hi:ops[i]?=some oi)(hs:Region.noSelect ops=true)(hf:Region.free md ops listed i=true)(hr:(Region.ready md ops listed).contains i=true)(hc:(ZIl md ops listed&&decide (ops.size<=listed.size))=true)(hk:((K.all λk=>ZCy md ops i n k)&&!K.contains i)=true)(hQ:∀c a w,Q (.panic c) (a.put oi.dst v) w->Q (.panic c) a w)(hy:YieldsIf P ops S oi v a)(hS:S w)(h:Jr P md ops Q S K fuel (listed.setIfInBounds i true) (a.put oi.dst v) w):Jr P md ops Q S K (fuel+1) listed a w:=by
 rw[Bool.and_eq_true]at hc hk;exact ZH6 hi (Region.noSelect_spec hs) hQ (λk hk'=>List.all_eq_true.1 hk.1 k hk') (by simpa using hk.2) fuel listed a w (Region.free_spec hi hf) (by simpa using hr) (ZON hc.1) (Zcj hc.2) hy hS h
theorem ZH5 {i:Nat}{oi:Oper}{v:Value}(hi:ops[i]?=some oi)(hsel:∀(j:Nat) (o:Oper) cs b,ops[j]?=some o->o.op≠.select cs b)(hQ:∀c a w,Q (.panic c) (a.put oi.dst v) w->Q (.panic c) a w)(hK:i ∉ K): ∀(fuel:Nat) (listed:Array Bool) (a:Act) (w:World),(∀j oj,ops[j]?=some oj->j≠i->listed.getD j true=false->(∀e ∈ oj.after,Region.binds md e=true->e.on≠i)->oi.apart ops oj=true)-> i ∈ Region.ready md ops listed->YieldsIf P ops (λ_=>True) oi v a->YL S K listed w-> Jr P md ops Q S K fuel (listed.setIfInBounds i true) (a.put oi.dst v) w->Jr P md ops Q S K (fuel+1) listed a w:=by
 intro fuel
 induction fuel with
 |zero=>
  intro listed a w _ hr hy hT H;refine⟨λh=>(by rw[h]at hr;cases hr),λj hj=>?_⟩;by_cases hji:j=i
  ·subst hji;exact hy.wpOp hi trivial ⟨hT.set hK,H⟩
  ·have:=ready_mono hj hji;rw[H.1]at this;cases this
 |succ fuel ih=>
  intro listed a w hfree hr hy hT H;refine⟨λh=>(by rw[h]at hr;cases hr),λj hj=>?_⟩;by_cases hji:j=i
  ·subst hji;exact hy.wpOp hi trivial ⟨hT.set hK,H⟩
  ·have h1:=H.2 j (ready_mono hj hji);obtain⟨hjun,oj,hoj,hall⟩:=mem_ready.1 hj;have hi0:=(mem_ready.1 hr).1;have hnot:∀e ∈ oj.after,Region.binds md e=true->e.on≠i:=λe he hb heq=>ZDY hi0 (heq ▸ hall e he hb);have h2:=wpOp_putIf hoj (hfree j oj hoj hji hjun hnot) (λcs b=>hsel i oi cs b hi) (λcs b=>hsel j oj cs b hoj) hQ hy h1;have hfree':∀k ok,ops[k]?=some ok->k≠i->(listed.setIfInBounds j true).getD k true=false->
     (∀e ∈ ok.after,Region.binds md e=true->e.on≠i)->oi.apart ops ok=true:=λk ok hk hki hun hno=>by
    refine hfree k ok hk hki ?_ hno;by_cases hjk:j=k
    ·subst hjk;exact hjun
    ·rw[Zcc true hjk]at hun;exact hun
   refine wpOp_mono (λa' w' h3=>?_) h2;have hS':YL S K (listed.setIfInBounds j true) w':=by
    have:=h3.2.1;rw[ZaU _ _ (λe=>hji e.symm)]at this;exact this.back hK
   refine⟨hS',ih (listed.setIfInBounds j true) a' w' hfree' (ready_mono hr (Ne.symm hji)) h3.1 hS' ?_⟩;rw[ZaU _ _ hji];exact h3.2.2
theorem ZR4 {i:Nat}{oi:Oper}{v:Value}{fuel:Nat}{listed:Array Bool}{a:Act}{w:World}(hi:ops[i]?=some oi)(hs:Region.noSelect ops=true)(hf:Region.free md ops listed i=true)(hr:(Region.ready md ops listed).contains i=true)(hK:(!K.contains i)=true)(hQ:∀c a w,Q (.panic c) (a.put oi.dst v) w->Q (.panic c) a w)(hy:YieldsIf P ops (λ_=>True) oi v a)(hT:YL S K listed w)(h:Jr P md ops Q S K fuel (listed.setIfInBounds i true) (a.put oi.dst v) w):Jr P md ops Q S K (fuel+1) listed a w:=ZH5 hi (Region.noSelect_spec hs) hQ (by simpa using hK) fuel listed a w (Region.free_spec hi hf) (by simpa using hr) hy hT h
theorem YL.of {listed:Array Bool}{w:World}(h:S w):YL S K listed w:=λ_=>h
theorem YL.past {listed:Array Bool}{w:World}(h:(K.any λk=>listed.getD k true)=true):YL S K listed w:=λhk=>by
 obtain⟨k,h1,h2⟩:=List.any_eq_true.1 h;rw[hk k h1]at h2;cases h2
theorem Ja {listed:Array Bool}{a:Act}{w:World}(hr:Region.ready md ops listed=[])(h:Q .normal a w):∀fuel,Jr P md ops Q S K fuel listed a w
 |0=>⟨hr,h⟩
 |_+1=>⟨λ_=>h,by rw[hr];simp⟩
def ZN (P:Program)(md:Region.Mode)(ops:Array Oper)(Q:Exit->Act->World->Prop)(S:World->Prop)(K:List Nat)(fuel:Nat)(listed:Array Bool)(a:Act)(w:World)(rs:List Nat):Prop:=∀i ∈ rs,wpOp P ops Q i (λa' w'=>YL S K (listed.setIfInBounds i true) w'/\Jr P md ops Q S K fuel (listed.setIfInBounds i true) a' w') a w
theorem ZN.nil {fuel:Nat}{listed:Array Bool}{a:Act}{w:World}:ZN P md ops Q S K fuel listed a w []:=λ_ h=>by cases h
theorem ZN.cons {fuel:Nat}{listed:Array Bool}{a:Act}{w:World}{i:Nat}{o:Oper}{rs:List Nat}(ho:ops[i]?=some o)(h:∀K':Act->World->Prop,Shut (∀a w,S w->Jr P md ops Q S K fuel (listed.setIfInBounds i true) a w->K' a w)->if Region.wanted o (yielded ops a.tmps)=true then Oper.wp P o a w K' Q else K' (a.put o.dst undef) w)(hs:ZN P md ops Q S K fuel listed a w rs):ZN P md ops Q S K fuel listed a w (i::rs):=λj hj=>by
 rcases ZbJ.1 hj with rfl|hj
 ·exact wpOp_step ho (λK' hK=>h K' (λa w hS hW=>hK a w ⟨.of hS,hW⟩))
 ·exact hs j hj
theorem ZN.last {fuel:Nat}{listed:Array Bool}{a:Act}{w:World}{i:Nat}{o:Oper}{rs:List Nat}(hi:(K.any λk=>(listed.setIfInBounds i true).getD k true)=true)(ho:ops[i]?=some o)(h:∀K':Act->World->Prop,Shut (∀a w,Jr P md ops Q S K fuel (listed.setIfInBounds i true) a w->K' a w)->if Region.wanted o (yielded ops a.tmps)=true then Oper.wp P o a w K' Q else K' (a.put o.dst undef) w)(hs:ZN P md ops Q S K fuel listed a w rs):ZN P md ops Q S K fuel listed a w (i::rs):=λj hj=>by
 rcases ZbJ.1 hj with rfl|hj
 ·exact wpOp_step ho (λK' hK=>h K' (λa w hW=>hK a w ⟨.past hi,hW⟩))
 ·exact hs j hj
theorem ZY {rs:List Nat}{fuel:Nat}{listed:Array Bool}{a:Act}{w:World}(hr:Region.ready md ops listed=rs)(hne:rs≠[])(h:ZN P md ops Q S K fuel listed a w rs):Jr P md ops Q S K (fuel+1) listed a w:=⟨λh0=>absurd (hr ▸ h0) hne,hr ▸ h⟩
theorem JZ {id:Nat}{a:Act}{w:World}(S:World->Prop)(K:List Nat)(hm:P.follows .mixedOrders=true)(h:Jr P .any ops Q S K ops.size (Array.replicate ops.size false) a w.drew):(Code.region id ops true).wp P Q a w:=wp_region_any hm (ZFc _ _ _ _ h)
end
end
theorem ZT0 {P : Program} {ops : Array Oper} {Q : Exit → Act → World → Prop} {md : Region.Mode} {S : World → Prop} {K : List Nat} {i : Nat} {oi : Oper} {v : Value} {fuel : Nat} {listed : Array Bool} {a : Act} {w : World} (hi : ops[i]? = some oi) (hy : YieldsIf P ops (fun _ => True) oi v a) (hT : YL S K listed w) (h : Jr P md ops Q S K fuel (listed.setIfInBounds i true) (a.put oi.dst v) w) (hs : Region.noSelect ops = true := by kernel_rfl) (hf : Region.free md ops listed i = true := by kernel_rfl) (hr : (Region.ready md ops listed).contains i = true := by kernel_rfl) (hK : (!K.contains i) = true := by kernel_rfl) (hQ : ∀ c a w, Q (.panic c) (a.put oi.dst v) w → Q (.panic c) a w := by exact fun _ _ _ h => h) : Jr P md ops Q S K (fuel + 1) listed a w := ZR4 hi hs hf hr hK hQ hy hT h
theorem ZT1 {P : Program} {ops : Array Oper} {Q : Exit → Act → World → Prop} {md : Region.Mode} {S : World → Prop} {K : List Nat} {i : Nat} {oi : Oper} {v : Value} {fuel : Nat} {listed : Array Bool} {a : Act} {w : World} (hi : ops[i]? = some oi) (hy : YieldsIf P ops S oi v a) (hS : S w) (h : Jr P md ops Q S K fuel (listed.setIfInBounds i true) (a.put oi.dst v) w) (hs : Region.noSelect ops = true := by kernel_rfl) (hf : Region.free md ops listed i = true := by kernel_rfl) (hr : (Region.ready md ops listed).contains i = true := by kernel_rfl) (hc : (ZIl md ops listed && decide (ops.size ≤ listed.size)) = true := by kernel_rfl) (hk : ((K.all fun k => ZCy md ops i 20 k) && !K.contains i) = true := by kernel_rfl) (hQ : ∀ c a w, Q (.panic c) (a.put oi.dst v) w → Q (.panic c) a w := by exact fun _ _ _ h => h) : Jr P md ops Q S K (fuel + 1) listed a w := ZR3 20 hi hs hf hr hc hk hQ hy hS h
theorem ZTj (w:World)(g:YE)(O C:Zdb)(xb:Nat->Nat)(L:List Zf)(s:YF)(who u word by_ stop:Nat)(x:ZX)(res:Bool)(ser:Int)(t:ZAe)(f:FuncId)(caps:Array Value)(h:YK w g O C xb L s)(hc:s.call who=.run x res ser (.mv word by_ stop t))(hL:L.length<=100000)(hw:who<64)(hword:word<34)(hu:s.ws.getD word 0=u)(hne:u≠stop)(hk:Ze w (XO C O) (Zi g who (xb who) x) (Z1 f caps) (.mv word by_ stop t)): Calls Tryz.prog f caps w (SK w g O C xb who (L.length+1) x s (.on (.mvS word by_ stop u t))):=by
 have hmf:=Jg;obtain⟨p0,p1,p2,p3,p4,p5,sv,tv,hfn,k0,k1,k2,k3,k4,k5,k6⟩:=hk;injection hfn with hfn h1 h2;injection hfn with hfn;subst hfn h2;obtain⟨b0,rfl,l0⟩:=k0.ptr;obtain⟨b1,rfl,l1⟩:=k1.ptr;obtain⟨b2,rfl,l2⟩:=k2.ptr;obtain⟨b3,rfl,l3⟩:=k3.ptr;obtain⟨b4,rfl,l4⟩:=k4.ptr;obtain⟨b5,rfl,l5⟩:=k5.ptr;obtain⟨W,hW⟩:=ZTz ((w.alloc ZUA));have xW:ZL w W:=by rw[<-hW];exact((ZL.refl w).alloc _)
 have K0:=ZA (show W.heap[w.heap.size]?=some ZUA by rw[<-hW];exact ZM w _);have hA:=h.xg xW (Zb0 _) (ZW K0.o);have LD:=ZA (ZEN W g (XG O w.heap.size) C xb L s who word u x res ser _ hA hc ZB hw hword hu);have e0:=(k0.ext xW).ZT2 0 (ZH (xb who));have e1:=(k1.ext xW).ZT2 0 (.int .i64 (word:Int));have HLT:=ZA h.lt;have HK0:=ZA k0;have HK1:=ZA k1;have HK2:=ZA k2;have HK3:=ZA k3;have HK4:=ZA k4;have HK5:=ZA k5;have HK6:=ZA k6;have XW:=ZA xW;have HW:=ZA hW;have HNL:=ZA (show(L++[(⟨who,1,word,u,0,true⟩:Zf)]).length<=L.length+1 by simp);have hb:((u:Int)==(stop:Int))=false:=by rw[ZcW];omega
 clear h hc hu k0 k1 k2 k3 k4 k5 k6 hA xW hW hne l0 l1 l2 l3 l4 l5 hL hword;go_enter Tryz.func277,Tryz.ntmps277;go_upto_region 1 with fail
 (try rw[HW.o])
 clear HW;go_wp2_with fail;refine LD.o.mono ?_;rintro e w2 ⟨rfl,hg⟩;obtain⟨C',hm⟩:=hg.mov;have HM:=ZA hm;have hkp:=hm.kpg XW.o (Zb0 w.heap.size);have J0:=ZA (HK0.o.kp hkp);have J1:=ZA (HK1.o.kp hkp);have J2:=ZA (HK2.o.kp hkp);have J3:=ZA (HK3.o.kp hkp);have J4:=ZA (HK4.o.kp hkp);have J5:=ZA (HK5.o.kp hkp);have J6:=ZA (HK6.o.kp hkp);have KR:=ZA (hm.2.1.blk K0.o (λe=>Zb3 _ (HLT.o _ e)));have HX:=ZA hm.1.newer;have f2:=J2.o.ZT2 0 (.int .u64 (stop:Int));obtain⟨V,hV⟩:=ZTz (w2.alloc (.cells #[.int .u64 (u:Int)] 52));have xV:ZL w2 V:=by rw[<-hV];exact(ZL.refl w2).alloc _
 have f2':V.cell? ⟨b2,0,none⟩=some (.int .u64 (stop:Int)):=ZG xV f2;have f8:V.cell? ⟨w2.heap.size,0,none⟩=some (.int .u64 (u:Int)):=by rw[<-hV];exact ZE (ZM w2 _) 0
 have r8:Zb V (XO C' (XG O w.heap.size)) (ZH w2.heap.size) #[.int .u64 (u:Int)]:=by rw[<-hV];exact Zb.new rfl (HX.o.not (Zb0 _))
 have KT:=ZA (show Ze V (XO C' (XG O w.heap.size)) (Zi g who (xb who) x) (Z1 278 #[ZH b0,ZH b1,ZH w2.heap.size,ZH b4,ZH b2,ZH b3,ZH b5]) (.mvS word by_ stop u t)from⟨_,_,_,_,_,_,_,sv,tv,rfl,J0.o.ext xV,J1.o.ext xV,r8,J4.o.ext xV,J2.o.ext xV,J3.o.ext xV,J5.o.ext xV,J6.o.ext xV⟩);have ON:=ZA (Jf KT.o);have KR2:=ZA (ZJ KR.o xV);have XV:=ZA xV;have HV:=ZA hV;clear hm hkp hg e0 e1 r8 xV hV;go_upto_region 2 with fail
 (try rw[HV.o])
 clear HV;go_wp2_with fail;refine ON.o.mono ?_;rintro e w3 ⟨nv,done,r',rfl,ho,hx⟩;have HO:=ZA ho;have HXX:=ZA hx;have K3:=ZA (ZJ KR2.o hx);obtain⟨r0,z0,r1,z1,r2,z2,r3,z3,r4,z4,r5,z5,r6,z6⟩:=ZT9 K3.o;clear ho hx;go_wp2_with fail;refine ZcY (ZQ (p:=7) (u:=6) rfl _ _ (w.heap.size) _ #[.bool done,.int .i64 (r'.er:Int),.bool r'.granted,.int .i64 r'.left,.int .i64 r'.wait,.int .i64 r'.ser,.int .i64 r'.now] (0,0) _ rfl (Yf K3.o _ _ _ _ _ _ _) Tryz.underlying41 ZTw ZC) rfl ?_;exact YS HNL.o XW.o (Zb0 _) (HM.o.ext (XV.o.trans HXX.o)) HO.o _ _ _ _ _ _ _
theorem ZCg {w:World}{X:Zdb}{p v:Value}(h:Zz w X p v):∃b,p=.pointer (some ⟨b,0,none⟩):=by
 obtain⟨b,h,_⟩:=h.ptr;exact⟨b,h⟩
def ZI4 (xb:Nat->Nat)(who q:Nat):Nat->Nat:=λi=>if i=who then q else xb i
theorem ZB9 (xb:Nat->Nat)(who q:Nat):ZI4 xb who q who=q:=Zcg rfl
theorem ZAH (xb:Nat->Nat){who i:Nat}(q:Nat)(h:i≠who):ZI4 xb who q i=xb i:=Zcf h
theorem YK.start {w w2:World}{g:YE}{O C:Zdb}{xb:Nat->Nat}{L:List Zf}{s:YF}(h:YK w g O C xb L s){who q:Nat}(hw:who<64)(_hi:s.call who=.idle)(x:ZL w w2)(hq:w.heap.size<=q)(hq2:q<w2.heap.size){xc:ZX}{k:YN}{f:Value}(hx:XAt w2 (XO (λi=>C i\/i=q) O) g.gx who xc false 0 q)(hk:Ze w2 (XO (λi=>C i\/i=q) O) (Zi g who q xc) f k): Z9 w g O C (ZI4 xb who q) L (s.put who (.run xc false 0 k)) (λi=>C i\/i=q) (w2.setCell ⟨g.gx,3+who,none⟩ f):=by
 obtain⟨Fm,fs,hv,tx,tl,tb,th,h⟩:=h;have hl:=h.fsl;have gs:GB w2 (w2.setCell ⟨g.gx,3+who,none⟩ f) (· =g.gx):=(GB.refl w2 (· =g.gx)).set g.gx _ _ (.inl rfl);have gw:GB w (w2.setCell ⟨g.gx,3+who,none⟩ f) (· =g.gx):=GB.back x gs;have hgx:=h.lt _ h.cx;have hgh:=h.lt _ h.ch;have kp:Kp w (w2.setCell ⟨g.gx,3+who,none⟩ f) (XO C O) (XO (λi=>C i\/i=q) O):=Kp.of gw (λj _ e=>.inl (e ▸ h.cx)) (λi hi e=>e.imp (λe=>e.resolve_right ZB) id);have kp2:Kp w2 (w2.setCell ⟨g.gx,3+who,none⟩ f) (XO (λi=>C i\/i=q) O) (XO (λi=>C i\/i=q) O):=Kp.of gs (λj _ e=>.inl (.inl (e ▸ h.cx))) (λ_ _ e=>e);have ngl:g.gl≠g.gx:=λe=>h.nl (.inl (e ▸ h.cx));have ngb:g.gb≠g.gx:=λe=>h.nb (.inl (e ▸ h.cx));have hgl:=ZW h.bl;have hgb:=ZW h.bb;have rr:∀i,i≠who->ZAh ((s.put who (.run xc false 0 k)).call i)=true->ZAh (s.call i)=true:=λi e hr=>by rw[YC s _ e]at hr;exact hr
 refine⟨⟨Fm,fs.set who f,hv,tx,tl,tb,th,⟨h.mach.gb gw (λi hi e=>h.mx (e ▸ hi)),h.wsl,h.hsl,?_,by rw[ZbF];exact h.fsl,gw.blk h.bl ngl,gw.blk h.bb ngb,gw.blk h.bh (λe=>h.xh e.symm),h.hvl,
  λi l hl=>by obtain⟨A,c,rs,e1,e2⟩:=h.holds i l hl;exact⟨A,c,rs,e1,e2.kp kp⟩,kp.rd h.prd h.pfz,h.pfz.kp kp,λi y hy=>?_,h.mx,h.mh,h.xh,λe=>h.nl (kp.keep _ hgl e),λe=>h.nb (kp.keep _ hgb e),.inl h.cx,.inl h.ch,λi hi=>.inl (h.cm i hi),λi hi hr=>?_,λi j hi hj hr hr2 e=>?_,λi hi=>?_,λi hi e=>?_,λj hj=>Zb5 (h.ol j hj) gw.size⟩⟩,gw.more (λi _ (e:i=g.gx)=>by rw[e];exact h.cx),λi hi=>hi.imp id (λ(e:i=q)=>by rw[e];exact hq)⟩
 ·refine(ZU (ZJ h.bx x) _ _).trans ?_;rw[Zbc,Zbq,Zbd,Zbd,Zbd]
 ·by_cases e:i=who
  ·subst e;rw[Za5 ZB]at hy;injection hy with hy;subst hy;rw[YD,ZB9];exact⟨hx.kp kp2 (gs.block q hq2 ZB),hk.kp kp2⟩
  ·rw[Za4 (λh=>e h.symm)]at hy;rw[YC s _ e,ZAH xb q e];exact(h.pend i y hy).kp kp (λhr=>gw.block _ (h.lt _ (h.xs i (ZCL h hy) hr).1) (h.xs i (ZCL h hy) hr).2.2.1)
 ·by_cases e:i=who
  ·subst e;rw[ZB9];exact⟨.inr rfl,λe=>by have:=h.lt _ (h.cm _ e);omega,by omega,by omega⟩
  ·rw[ZAH xb q e];obtain⟨a1,a2,a3,a4⟩:=h.xs i hi (rr i e hr);exact⟨.inl a1,a2,a3,a4⟩
 ·by_cases e1:i=who
  ·by_cases e2:j=who
   ·rw[e1,e2]
   ·rw[e1,ZB9,ZAH xb q e2]at e;have:=h.lt _ (h.xs j hj (rr j e2 hr2)).1;omega
  ·by_cases e2:j=who
   ·rw[e2,ZB9,ZAH xb q e1]at e;have:=h.lt _ (h.xs i hi (rr i e1 hr)).1;omega
   ·rw[ZAH xb q e1,ZAH xb q e2]at e;exact h.inj i j hi hj (rr i e1 hr) (rr j e2 hr2) e
 ·have:=x.size;have hz:(w2.setCell ⟨g.gx,3+who,none⟩ f).heap.size=w2.heap.size:=by simp
  rw[hz];rcases hi with hi|hi
  ·have:=h.lt i hi;omega
  ·omega
 ·rcases hi with hi|hi
  ·exact h.co i hi e
  ·have:=h.ol i e;omega
def Z4 (xs:List Nat):Nat:=xs.foldl (λn x=>n*256+x) 0
theorem ZC3 (xs:List Nat)(x:Nat):Z4 (xs++[x])=Z4 xs*256+x:=by rw[Z4,List.foldl_append,List.foldl_cons,List.foldl_nil,Z4]
theorem ZGD:Z4 []=0:=by rw[Z4,List.foldl_nil]
theorem ZRQ (xs:List Nat):∀a,(∀x ∈ xs,x<256)->xs.foldl (λn x=>n*256+x) a<(a+1)*256 ^ xs.length:=by
 induction xs with
 |nil=>intro a _;rw[List.foldl_nil,ZbE,Nat.pow_zero];omega
 |cons x xs ih=>
  intro a h;have h1:=ih (a*256+x) (λy hy=>h y (ZbK _ hy));have h2:=h x ZbL;rw[List.foldl_cons,ZbA,ZcJ];have h3:(a*256+x+1)*256 ^ xs.length<=(a+1)*256*256 ^ xs.length:=ZcC _ ZB;rw[ZcB (256 ^ xs.length) 256,<-Nat.mul_assoc];omega
theorem ZBY (xs:List Nat)(h:∀x ∈ xs,x<256):Z4 xs<256 ^ xs.length:=by
 have:=ZRQ xs 0 h;rw[Z4];omega
def Yx (ws:List Nat):Nat:=if ws.length<4 then 0 else if Z4 (ws.take 4)=0\/4096<Z4 (ws.take 4) then 1 else if ws.length - 4<Z4 (ws.take 4) then 0 else 2
def ZAj (ws:List Nat):List Nat:=(ws.drop 4).take (Z4 (ws.take 4))
def JW (ws:List Nat):List Nat:=(ws.drop 4).drop (Z4 (ws.take 4))
theorem ZCT {ws:List Nat}(h:Yx ws=2):(JW ws).length<ws.length/\(ZAj ws).length=Z4 (ws.take 4)/\1<=Z4 (ws.take 4)/\Z4 (ws.take 4)<=4096/\4<=ws.length/\4+Z4 (ws.take 4)<=ws.length:=by
 unfold Yx at h;by_cases h1:ws.length<4
 ·rw[Zcg h1]at h;omega
 ·rw[Zcf h1]at h;by_cases h2:Z4 (ws.take 4)=0\/4096<Z4 (ws.take 4)
  ·rw[Zcg h2]at h;omega
  ·rw[Zcf h2]at h;by_cases h3:ws.length - 4<Z4 (ws.take 4)
   ·rw[Zcg h3]at h;omega
   ·simp only[JW,ZAj,ZbB,ZbG];omega
def ZBe:Nat->List Nat->List (List Nat) × List Nat × Bool
 |0,ws=>([],ws,false)
 |f+1,ws=>if Yx ws=0 then ([],ws,false) else if Yx ws=1 then ([],ws,true) else
  (ZAj ws::(ZBe f (JW ws)).1,(ZBe f (JW ws)).2.1,(ZBe f (JW ws)).2.2)
theorem ZEr:∀(f g:Nat) (ws:List Nat),ws.length<f->ws.length<g->ZBe f ws=ZBe g ws
 |0,_,_,h,_=>by omega
 |_+1,0,_,_,h=>by omega
 |f+1,g+1,ws,h1,h2=>by
  unfold ZBe;by_cases e0:Yx ws=0
  ·rw[Zcg e0,Zcg e0]
  ·by_cases e1:Yx ws=1
   ·rw[Zcf e0,Zcg e1,Zcf e0,Zcg e1]
   ·rw[Zcf e0,Zcf e1,Zcf e0,Zcf e1];have e2:Yx ws=2:=by
     unfold Yx at e0 e1 ⊢
     split
     ·rename_i h;rw[Zcg h]at e0;omega
     ·rename_i h;rw[Zcf h]at e0 e1
      split
      ·rename_i h';rw[Zcg h']at e1;omega
      ·rename_i h';rw[Zcf h']at e0
       split
       ·rename_i h'';rw[Zcg h'']at e0;omega
       ·rfl
    have:=(ZCT e2).1;rw[ZEr f g (JW ws) ZB ZB]
def Zy (ws:List Nat):List (List Nat) × List Nat × Bool:=ZBe (ws.length+1) ws
theorem ZEv (ws:List Nat):Yx ws=0\/Yx ws=1\/Yx ws=2:=by
 unfold Yx
 split
 ·exact .inl rfl
 ·split
  ·exact .inr (.inl rfl)
  ·split
   ·exact .inl rfl
   ·exact .inr (.inr rfl)
theorem ZBO {ws:List Nat}(h:Yx ws=0):Zy ws=([],ws,false):=by
 unfold Zy ZBe;rw[Zcg h]
theorem ZC0 {ws:List Nat}(h:Yx ws=1):Zy ws=([],ws,true):=by
 unfold Zy ZBe;rw[Zcf ZB,Zcg h]
theorem ZBX {ws:List Nat}(h:Yx ws=2):Zy ws=(ZAj ws::(Zy (JW ws)).1,(Zy (JW ws)).2.1,(Zy (JW ws)).2.2):=by
 have hl:=(ZCT h).1;unfold Zy
 conv=>lhs;unfold ZBe
 rw[Zcf ZB,Zcf ZB,ZEr ws.length ((JW ws).length+1) (JW ws) ZB ZB]
def Zh (v:Nat):Nat->List Nat
 |0=>[]
 |k+1=>v / 256 ^ k % 256::Zh v k
theorem Zs (v k:Nat):(Zh v k).length=k:=by induction k with
 |zero=>rfl
 |succ k ih=>rw[Zh,ZbA,ih]
theorem Xf (v k:Nat):∀x ∈ Zh v k,x<256:=by
 induction k with
 |zero=>simp[Zh]
 |succ k ih=>
  intro x hx;rw[Zh]at hx;rcases ZbJ.1 hx with rfl|hx
  ·exact ZcA _ ZB
  ·exact ih x hx
theorem ZNU (xs:List Nat):∀a,xs.foldl (λn x=>n*256+x) a=a*256 ^ xs.length+Z4 xs:=by
 induction xs with
 |nil=>intro a;simp[Z4]
 |cons x xs ih=>
  intro a;have e:Z4 (x::xs)=(0*256+x)*256 ^ xs.length+Z4 xs:=by
   show List.foldl _ (0*256+x) xs=_;exact ih _
  rw[List.foldl_cons,ih,e,ZbA,ZcJ,ZcM,ZcK,Zbt,Nat.mul_assoc,ZcB 256,Zbp]
theorem ZHb (x:Nat)(xs:List Nat):Z4 (x::xs)=x*256 ^ xs.length+Z4 xs:=by
 have e:=ZNU xs (0*256+x);have e':Z4 (x::xs)=(0*256+x)*256 ^ xs.length+Z4 xs:=e;rw[e',ZcM,ZcK]
theorem Xx (v k:Nat):Z4 (Zh v k)=v % 256 ^ k:=by
 induction k with
 |zero=>simp[Zh,Z4,Nat.mod_one]
 |succ k ih=>
  rw[Zh,ZHb,Zs,ih,ZcJ,ZcB (256 ^ k) 256,ZcB 256 (256 ^ k),Nat.mod_mul,ZcB,Zbq]
theorem ZKk (xs:List Nat)(h:∀x ∈ xs,x<256)(m:Nat):Zh (m*256 ^ xs.length+Z4 xs) xs.length=xs:=by
 induction xs generalizing m with
 |nil=>rfl
 |cons x xs ih=>
  have hx:=h x ZbL;have hl:=ZBY xs (λy hy=>h y (ZbK _ hy));have e:m*256 ^ (xs.length+1)+Z4 (x::xs)=(m*256+x)*256 ^ xs.length+Z4 xs:=by
   rw[ZHb,ZcJ,Zbt,ZcB (256 ^ xs.length) 256,Nat.mul_assoc,Zbp]
  rw[ZbA,Zh,e,ih (λy hy=>h y (ZbK _ hy)),ZcB _ (256 ^ xs.length),Nat.mul_add_div (Nat.pos_of_ne_zero ZTv),Nat.div_eq_of_lt hl]
  congr 1
  omega
theorem ZPd (w:World)(n:Nat)(hn:n<=maxLen):(w.alloc (.cells (madeCells #[.int .u8 0] n) 5)).ownsRow w.heap.size 5 1 (.slice (some ⟨w.heap.size,0,none⟩) n n) n (ZV .u8 (List.replicate n 0)):=by
 have e:(.cells (madeCells #[.int .u8 0] n) 5:Obj)=.cells (ZV .u8 (List.replicate n 0)).toArray 5:=by
  congr 1
  apply Array.ext';rw[toList_madeCells_one];simp[ZV]
 rw[e];exact XR w _ 5 1 n (by simp[ZV]) hn (Zb0 _)
theorem ZO7 (v n j:Nat)(h:j<n):(List.replicate (n - j) 0++Zh v j).set (n - 1 - j) (v / 256 ^ j % 256)=List.replicate (n - (j+1)) 0++Zh v (j+1):=by
 have e:n - j=(n - (j+1))+1:=by omega
 rw[List.set_append_left _ _ (by simp;omega),e,List.replicate_succ',List.set_append_right _ _ (by simp;omega)];rw[show n - 1 - j - (List.replicate (n - (j+1)) 0).length=0 by simp;omega];simp[Zh]
theorem ZCh (w:World)(v n:Nat)(hv:v<18446744073709551616)(hn:n<=1000): Calls Tryz.prog 161 #[.int .u64 (v:Int),.int .i64 (n:Int)] w (ZDi (Zh v n) w):=by
 have hmk:=ZA (run_make_row' (P:=Tryz.prog) 32 5 (.int .u8 0) 1 Tryz.underlying32 ZIc rfl .i64 .i64 n ZB ZB);have hrow:=ZA (ZPd w n (by unfold maxLen;omega));have hmk':=hmk.out;go_enter Tryz.func161,Tryz.ntmps161;go_wp2_with fail;clear hmk'
 go_loopg [0,6] n (λg v0 v6 wr=>∃j:Nat,j<=n/\g=n - j/\v0=.int .u64 ((v / 256 ^ j:Nat):Int)/\v6=.int .i64 ((n:Int) - 1 - (j:Int))/\ZL w wr/\
  wr.ownsRow w.heap.size 5 1 (.slice (some ⟨w.heap.size,0,none⟩) n n) n (ZV .u8 (List.replicate (n - j) 0++Zh v j)))
 case atStart=>
  exact⟨0,ZcL _,rfl,by simp,by go_num,(ZL.refl w).alloc _,by simpa[Zh]using hrow.out⟩
 case round=>
  obtain⟨j,hj,rfl,rfl,rfl,hx,ho⟩:=hrel;have Hx:=ZA hx;clear hx;by_cases hlt:j<n
  ·have hq:v / 256 ^ j<18446744073709551616:=Zb4 (Nat.div_le_self _ _) hv;have hfz:=ho.frozenAt (n - 1 - j);have hst:=ZA (ho.stored (n - 1 - j) (.int .u8 ((v / 256 ^ j % 256:Nat):Int)));have hc0:=ho.cellAt (n - 1 - j) ZB;have hs:=ZA (ZO7 v n j hlt);have hy:(List.replicate (n - j) 0++Zh v j)[n - 1 - j]?=some 0:=by
    rw[Zav (by simp;omega),Za3,Zcg ZB]
   rw[ZAw hy]at hc0;have hq2:v / 256 ^ (j+1)=v / 256 ^ j / 256:=by rw[ZcJ,Nat.div_div_eq_div_mul]
   have Hq2:=ZA hq2;clear hy hq2 ho;generalize v / 256 ^ j=q at*;go_wp2_with fail
   go_roundg (n - (j+1))
   case measure=>omega
   case rel=>
    refine⟨j+1,hlt,rfl,?_,by go_num,Hx.o.setCell (p:=⟨w.heap.size,n - 1 - j,none⟩) (Zb0 _) _,?_⟩
    ·rw[Hq2.o];rfl
    ·have:=hst.out.1;rw[<-ZI8,hs.out]at this;exact this
  ·obtain rfl:j=n:=by omega
   have Ho:=ZA ho;clear ho;go_wp2_with fail;go_ret;have ho:=Ho.o;rw[Nat.sub_self,List.replicate_zero,ZbV]at ho;exact ZA9 (Zs v j) ho Hx.o
theorem Jw (w:World)(A:Option Addr)(n c:Nat)(xs:List Nat)(hl:xs.length=n)(hn:n<=8)(hb:∀x ∈ xs,x<256)(hr:Rd w A (ZV .u8 xs)): Calls Tryz.prog 110 #[.slice A n c] w λe w'=>e=.returned (.int .u64 (Z4 xs:Int))/\w=w':=by
 have Hl:=ZA hl;have Hb:=ZA hb;have Hr:=ZA hr;clear hl hb hr;go_enter Tryz.func110,Tryz.ntmps110;go_wp2_with fail
 go_loop [3,7] (λx i=>∃k:Nat,k<=n/\i=.int .i64 k/\x=.int .u64 ((Z4 (xs.take k):Nat):Int)) (λ_ i=>n - (intOf i).toNat)
 case atStart=>exact⟨0,ZcL _,rfl,by rw[Zbn,ZGD];rfl⟩
 case round=>
  obtain⟨k,hk,rfl,rfl⟩:=hrel;by_cases hlt:k<n
  ·obtain⟨x,hx⟩:=JR (xs:=xs) (j:=k) (by rw[Hl.o];exact hlt);have hx256:x<256:=Hb.o x (ZbO hx);obtain⟨b,off,hA,hc⟩:=Hr.o.at_ hx;subst hA;have hnl:=ZBY (xs.take k) (λy hy=>Hb.o y (ZbR hy));have hle:Z4 (xs.take k)<72057594037927936:=by
    refine Zb5 hnl ?_;rw[show(72057594037927936:Nat)=256 ^ 7 by rfl];exact ZcI ZB (by rw[ZbG,Hl.o];omega)
   have Hx:=ZA hx;clear hx hnl;go_wp2
   go_round
   case rel=>exact⟨k+1,by omega,by go_num,by rw[Zr Hx.o,ZC3];go_num⟩
   case measure=>simp[intOf];omega
  ·obtain rfl:k=n:=by omega
   have e:xs.take k=xs:=Zbk (by rw[Hl.o];omega);rw[e];clear e;go_wp2;go_ret;exact⟨rfl,rfl⟩
theorem ZHa (a x:Nat)(ha:a<72057594037927936)(hx:x<256):bits .or .u64 ((a:Int)*256) (x:Int)=((a*256+x:Nat):Int):=by
 have e:((a:Int)*256)=((a*256:Nat):Int):=by omega
 rw[e,Go.u64_or_nat _ _ ZB ZB]
 congr 1
 have h:=Nat.two_pow_add_eq_or_of_lt (i:=8) (b:=x) ZB a;simp only[Nat.reducePow]at h;rw[ZcB a 256];exact h.symm
theorem ZAt (w:World)(A:Option Addr)(n c:Nat)(xs:List Nat)(hl:xs.length=n)(hn:n<=8)(hb:∀x ∈ xs,x<256)(hr:Rd w A (ZV .u8 xs)): Calls Tryz.prog 75 #[.slice A n c] w λe w'=>e=.returned (.int .u64 (Z4 xs:Int))/\w=w':=by
 have Hl:=ZA hl;have Hb:=ZA hb;have Hr:=ZA hr;clear hl hb hr;go_enter Tryz.func75,Tryz.ntmps75;go_wp2_with fail
 go_loop [3,8] (λx i=>∃k:Nat,k<=n/\i=.int .i64 k/\x=.int .u64 ((Z4 (xs.take k):Nat):Int)) (λ_ i=>n - (intOf i).toNat)
 case atStart=>exact⟨0,ZcL _,rfl,by rw[Zbn,ZGD];rfl⟩
 case round=>
  obtain⟨k,hk,rfl,rfl⟩:=hrel;by_cases hlt:k<n
  ·obtain⟨x,hx⟩:=JR (xs:=xs) (j:=k) (by rw[Hl.o];exact hlt);have hx256:x<256:=Hb.o x (ZbO hx);obtain⟨b,off,hA,hc⟩:=Hr.o.at_ hx;subst hA;have hnl:=ZBY (xs.take k) (λy hy=>Hb.o y (ZbR hy));have hle:Z4 (xs.take k)<72057594037927936:=by
    refine Zb5 hnl ?_;rw[show(72057594037927936:Nat)=256 ^ 7 by rfl];exact ZcI ZB (by rw[ZbG,Hl.o];omega)
   have Hx:=ZA hx;clear hx hnl;go_wp2
   go_round
   case rel=>exact⟨k+1,by omega,by go_num,by rw[Zr Hx.o,ZC3,ZHa _ _ hle hx256]⟩
   case measure=>simp[intOf];omega
  ·obtain rfl:k=n:=by omega
   have e:xs.take k=xs:=Zbk (by rw[Hl.o];omega);rw[e];clear e;go_wp2;go_ret;exact⟨rfl,rfl⟩
theorem ZKl (v n:Nat):∀j,j<=n->(Zh v n).drop j=Zh v (n - j):=by
 induction n with
 |zero=>
  intro j hj;obtain rfl:j=0:=by omega
  rfl
 |succ n ih=>
  intro j hj;cases j with
  |zero=>rfl
  |succ j=>rw[Zh,Zao,ih j ZB];congr 1;omega
theorem ZEP (v n j:Nat)(h:j<n):(Zh v n)[j]?=some (v / 256 ^ (n - 1 - j) % 256):=by
 have e:=ZKl v n j ZB;have e2:n - j=(n - 1 - j)+1:=by omega
 rw[e2,Zh]at e;rw[<-List.head?_drop,e];rfl
theorem ZK4 (w:World)(X:Int)(y:Nat)(h:X=(y:Int)):Rd (w.alloc (.cells #[.int .u8 X] 5)) (some ⟨w.heap.size,0,none⟩) (ZV .u8 [y]):=by
 subst h;exact ZES w [.int .u8 (y:Int)] _
theorem ZO5 (v i:Nat):((v:Int) / 2 ^ (8*i) % 256)=((v / 256 ^ i % 256:Nat):Int):=by
 rw[show(256:Nat) ^ i=2 ^ (8*i)from(Nat.pow_mul 2 8 i).symm];simp only[Int.natCast_emod,Int.natCast_ediv,Int.natCast_pow];rfl
theorem ZEl (w w0:World)(base:Nat)(A:Option Addr)(m c:Nat)(xs:List Nat)(v n:Nat)(hl:xs.length=m)(ho:w.ownsRow base 5 1 (.slice A m c) m (ZV .u8 xs))(hx:ZL w0 w)(hbase:w0.heap.size<=base)(hbw:base<=w.heap.size)(_hv:v<18446744073709551616)(hn:n<=8)(hm:m<=1000000): Calls Tryz.prog 73 #[.slice A m c,.int .u64 (v:Int),.int .i64 (n:Int)] w λe w'=>∃A' c',e=.returned (.slice A' (m+n) c')/\w'.ownsRow base 5 1 (.slice A' (m+n) c') (m+n) (ZV .u8 (xs++Zh v n))/\ZL w0 w'/\w.heap.size<=w'.heap.size:=by
 have Ho:=ZA ho;have Hl:=ZA hl;clear ho hl;go_enter Tryz.func73,Tryz.ntmps73;go_wp2_with fail
 go_loopg [0,7] n (λg v0 v7 wr=>∃(j:Nat) (A':Option Addr) (c':Nat),j<=n/\g=n - j/\v0=.slice A' (m+j) c'/\v7=.int .i64 ((n:Int) - 1 - (j:Int))/\ZL w0 wr/\w.heap.size<=wr.heap.size/\
  wr.ownsRow base 5 1 (.slice A' (m+j) c') (m+j) (ZV .u8 (xs++(Zh v n).take j)))
 case atStart=>
  exact⟨0,A,c,ZcL _,rfl,rfl,by go_num,hx,Zb0 _,by simpa using Ho.o⟩
 case round=>
  obtain⟨j,A',c',hj,rfl,rfl,rfl,hxr,hsz,hor⟩:=hrel;have Hxr:=ZA hxr;clear hxr;by_cases hlt:j<n
  ·have hg:=ZA (ZEP v n j hlt);obtain⟨i,hi⟩:∃i,i=n - 1 - j:=⟨_,rfl⟩;have hi7:i<=7:=by omega
   have hji:((n:Int) - 1 - (j:Int))=(i:Int):=by omega
   rw[hji];rw[<-hi]at hg;have Hi:=ZA hi;clear hi hji;have hs1:wr.heap.size>=base:=by omega
   have hib:=ZA (ZO5 v i);go_wp2_with (first|(at_builtin;refine Y6 _ rfl (.tmp 14) (.tmp 20) rfl base rfl (hor.alloc _) rfl (m:=1) (news:=[v / 256 ^ i % 256]) rfl (ZK4 _ _ _ hib.out) ZB (by simp;omega) ?_;intro A1 c1 w1 hown1 hgrow1 _)|fail)
   go_roundg (n - (j+1))
   case measure=>omega
   case rel=>
    refine⟨j+1,A1,c1,hlt,rfl,rfl,by have:=Hi.o;go_num,(Hxr.o.alloc _).grown hgrow1 (λk hk=>Zb2 hbase (Yg hor k hk)),by have:=hgrow1.size;simp at this;omega,?_⟩;rw[Zr hg.out,<-Zae];exact hown1
  ·obtain rfl:j=n:=by omega
   have e:(Zh v j).take j=Zh v j:=Zbk (by rw[Zs];omega);rw[e]at hor;have Hor:=ZA hor;clear hor e;go_wp2_with fail;go_ret;exact⟨A',c',rfl,Hor.o,Hxr.o,hsz⟩
theorem Rd.drew {w:World}{A:Option Addr}{vs:List Value}(h:Rd w A vs):Rd w.drew A vs:=h
theorem Jb {ops:Array Oper}{o:Oper}{a:Act}{K:Act->World->Prop}{Q:Exit->Act->World->Prop}{E:Prop}(w:World)(hgd:o.guard=none)(s x:Operand)(ho:o.op=.call {callee:=.builtin .append,args:=#[s,x],argTypes:=#[32,32]})(base:Nat){B:Option Addr}{n cb:Nat}{xs:List Nat}(hs:a.eval s=.slice B n cb)(hown:w.ownsRow base 5 1 (.slice B n cb) n (ZV .u8 xs)){A:Option Addr}{m c:Nat}{news:List Nat}(hx:a.eval x=.slice A m c)(hl:news.length=m)(hr:Rd w A (ZV .u8 news))(hb:n+m<=140737488355328)(hbase:base<=w.heap.size)(h:∀B' cb' w',w'.ownsRow base 5 1 (.slice B' (n+m) cb') (n+m) (ZV .u8 (xs++news))->w.grownBy w' (Value.slice B n cb).ownBlock-> ((Value.slice B' (n+m) cb').ownBlock=(Value.slice B n cb).ownBlock\/(Value.slice B' (n+m) cb').ownBlock=some w.heap.size)->K (a.put o.dst (.slice B' (n+m) cb')) w'): if Region.wanted o (yielded ops a.tmps)=true then Oper.wp Tryz.prog o a w K Q else E:=by
 have hw:Region.wanted o (yielded ops a.tmps)=true:=by simp[Region.wanted,hgd]
 rw[Zcg hw];obtain⟨i0,hi,hz0,hz1,hz2⟩:=Zch ZIc;exact ZA7 w s x 32 ho base 5 Tryz.underlying32 hi hz0 hz1 hz2 rfl (by decide) hs hown hx (by rw[XM,hl,ZcD]) hr (ZI9 _ _) (by unfold maxLen;omega) ZB hbase λB' cb' w' h2 h3 h4=>h B' cb' w' (by rw[ZBU];exact h2) h3 h4
def Yc (p:Nat)(xs:List Nat)(s:Nat):List Nat:=83::71::p::xs.length::(xs++Zh s 8)
def ZDT (b:List Nat):Nat:=upd 14695981039346656037 b % 4294967296
def Y4 (p:Nat)(xs:List Nat)(s:Nat):List Nat:=Yc p xs s++Zh (ZDT (Yc p xs s)) 4
theorem ZAL (p:Nat)(xs:List Nat)(s:Nat):(Yc p xs s).length=xs.length+12:=by
 simp only[Yc,ZbA,Za9,Zs]
theorem ZAQ (p:Nat)(xs:List Nat)(s:Nat):(Y4 p xs s).length=xs.length+16:=by
 rw[Y4,Za9,ZAL,Zs]
abbrev ZIA (p:Int)(A:Option Addr)(n c:Nat)(s:Int):Value:=.agg #[.int .i64 p,.slice A n c,.int .i64 s]
theorem ZGu (w:World)(p s:Int)(A:Option Addr)(n c:Nat)(h:s<1\/4611686018427387903<s\/p<0\/32<=p): Calls Tryz.prog 32 #[ZIA p A n c s] w (Xu (.tuple #[.slice none 0 0,.int .i64 1]) w):=by
 by_cases hs:s<1\/4611686018427387903<s
 ·rcases hs with hs|hs
  ·go_enter Tryz.func32,Tryz.ntmps32;go_wp2_with fail
   go_ret2
   exact⟨rfl,(ZL.refl w).alloc _⟩
  ·have hs':¬s<1:=by omega
   go_enter Tryz.func32,Tryz.ntmps32;go_wp2_with fail
   go_ret2
   exact⟨rfl,(ZL.refl w).alloc _⟩
 ·have h1:¬s<1:=by omega
  have h2:¬4611686018427387903<s:=by omega
  have hp:p<0\/32<=p:=by omega
  clear hs h;go_enter Tryz.func32,Tryz.ntmps32;go_wp2_with fail;refine(ZC5 p A n c _ hp).mono ?_;rintro e w1 ⟨rfl,rfl⟩;go_wp2_with fail
  go_ret2
  exact⟨rfl,(ZL.refl w).alloc _⟩
theorem ZFh (w:World)(p s:Int)(A:Option Addr)(n c:Nat)(h1:1<=s)(h2:s<=4611686018427387903)(h3:0<=p)(h4:p<32)(hn:255<n): Calls Tryz.prog 32 #[ZIA p A n c s] w (Xu (.tuple #[.slice none 0 0,.int .i64 2]) w):=by
 have h1':¬s<1:=by omega
 have h2':¬4611686018427387903<s:=by omega
 go_enter Tryz.func32,Tryz.ntmps32;go_wp2_with fail;refine(ZCD p A n c _ h3 h4 hn).mono ?_;rintro e w1 ⟨rfl,rfl⟩;go_wp2_with fail
 go_ret2
 exact⟨rfl,(ZL.refl w).alloc _⟩
theorem ZIw (u:Nat)(hu:u<18446744073709551616):bits .and .u64 (u:Int) 4294967295=((u % 4294967296:Nat):Int):=by
 rw[show(4294967295:Int)=((4294967295:Nat):Int)from rfl,Go.u64_and_nat u 4294967295 hu ZB];have h:=Zbx u 32;simp only[Nat.reducePow,Nat.reduceSub]at h;rw[h]
theorem ZHZ (w:World)(p n:Nat):(w.alloc (.cells #[.int .u8 83,.int .u8 71,.int .u8 (p:Int),.int .u8 (n:Int)] 5)).ownsRow w.heap.size 5 1 (.slice (some ⟨w.heap.size,0,none⟩) 4 4) 4 (ZV .u8 [83,71,p,n]):=XR w _ 5 1 4 rfl (by unfold maxLen;omega) (Zb0 _)
theorem ZIB (w:World)(p s:Nat)(A:Option Addr)(n c:Nat)(xs:List Nat)(hl:xs.length=n)(hb:∀x ∈ xs,x<256)(hr:Rd w A (ZV .u8 xs))(h1:1<=s)(h2:s<=4611686018427387903)(h4:p<32)(hn:n<=255): Calls Tryz.prog 32 #[ZIA (p:Int) A n c (s:Int)] w (Yu (Y4 p xs s) 0 w):=by
 have Hl:=ZA hl;have Hr:=ZA hr;have Hb:=ZA hb;clear hl hr hb;go_enter Tryz.func32,Tryz.ntmps32;go_wp2_with fail;refine(ZCd p A n c xs _ h4 Hl.o hn (Hr.o.alloc _)).mono ?_;rintro e w1 ⟨A1,c1,rfl,hown1,hx1⟩;have hl1:(p::xs).length=n+1:=by rw[ZbA,Hl.o]
 rw[hl1]at hown1 ⊢;clear hl1;obtain⟨g,rfl,hg,hg'⟩:=ZBJ hown1 ZB;have hc0:=hown1.cellAt 0 ZB;have hc0':w1.cell? ⟨g,0,none⟩=some (.int .u8 (p:Int)):=by rw[hc0];rfl
 have hcap:=Ys hown1;obtain⟨d,hd⟩:∃d,c1=d+1:=⟨c1 - 1,by omega⟩;obtain⟨A2,hsl,hrd,_⟩:=XP Tryz.underlying32 Xo (A:=some ⟨g,0,none⟩) (n:=n+1) (c:=c1) (m:=n) (d:=d) 1 (ki:=1) rfl hcap rfl hd;have hr2:=ZA (hrd w1 (ZV .u8 (p::xs)) (by rw[XM,ZbA,Hl.o]) (Rd.of_own hown1));have hb0:w1.cell? ⟨w.heap.size,1,none⟩=some (.slice A n c):=by
  rw[hx1.cell (p:=⟨w.heap.size,1,none⟩) ZTv];exact ZcP _ _ _ _
 have hb2:w1.cell? ⟨w.heap.size,2,none⟩=some (.int .i64 (s:Int)):=by
  rw[hx1.cell (p:=⟨w.heap.size,2,none⟩) ZTv];exact ZcP _ _ _ _
 clear hc0 hown1 hrd;have Hd:=ZA hd;clear hd;go_upto_region 6 with fail
 go_cut [6] (λv wd=>∃A6 c6,v=.slice A6 (4+n) c6/\wd.ownsRow w1.heap.size 5 1 (.slice A6 (4+n) c6) (4+n) (ZV .u8 ([83,71,p,n]++xs))/\ZL w1 wd)
 case first=>
  have hwn:IntKind.u8.wrap (n:Int)=(n:Int):=by rw[Zac];omega
  have hoo:(w1.alloc (.cells #[.int .u8 83,.int .u8 71,.int .u8 (p:Int),.int .u8 (n:Int)] 5)).drew.ownsRow w1.heap.size 5 1 (.slice (some ⟨w1.heap.size,0,none⟩) 4 4) 4 (ZV .u8 [83,71,p,n]):=ZHZ w1 p n;have hrr:Rd (w1.alloc (.cells #[.int .u8 83,.int .u8 71,.int .u8 (p:Int),.int .u8 (n:Int)] 5)).drew A2 (ZV .u8 xs):=(hr2.out.alloc _).drew;have Hoo:=ZA hoo;have Hrr:=ZA hrr;clear hoo hrr
  go_region_law ((refine Jb (w1.alloc (.cells #[.int .u8 83,.int .u8 71,.int .u8 (p:Int),.int .u8 (n:Int)] 5)).drew rfl (.tmp 33) (.tmp 35) rfl w1.heap.size (B:=some ⟨w1.heap.size,0,none⟩) (n:=4) (cb:=4) (xs:=[83,71,p,n]) (by simp[Act.eval]) Hoo.o (A:=A2) (m:=n) (c:=d) (news:=xs) (by simp[Act.eval]) Hl.o Hrr.o ZB ZTv ?_;intro A6 c6 w6 hown6 hgrow6 _))
  all_goals
   go_wp2_with fail
   go_meet
   exact⟨_,_,rfl,by assumption,(((ZL.refl w1).alloc _).drew).grown (by assumption) (by simp[Value.ownBlock])⟩
 case rest=>
  obtain⟨A6,c6,rfl,hown6,hy6⟩:=hcut;have hk2:wc.cell? ⟨w.heap.size,2,none⟩=some (.int .i64 (s:Int)):=by
   rw[hy6.cell (p:=⟨w.heap.size,2,none⟩) (ZcO w1 _ hb2)];exact hb2
  have Hown6:=ZA hown6;clear hown6 hb0 hb2 hc0';have hl6:([83,71,p,n]++xs).length=4+n:=by rw[Za9,Hl.o];rfl
  have Hl6:=ZA hl6;clear hl6;have hs6:w1.heap.size<=wc.heap.size:=hy6.size;go_wp2_with fail;refine(ZEl wc w1 w1.heap.size A6 (4+n) c6 _ s 8 Hl6.o Hown6.o hy6 (Zb0 _) hs6 ZB ZB ZB).mono ?_;rintro e w7 ⟨A7,c7,rfl,hown7,hy7,hs7⟩;have hbody:[83,71,p,n]++xs++Zh s 8=Yc p xs s:=by rw[Yc,Hl.o];rfl
  rw[hbody]at hown7;have hbl:(Yc p xs s).length=4+n+8:=by rw[ZAL,Hl.o];omega
  have hbb:∀x ∈ Yc p xs s,x<256:=λx hx=>by
   simp only[Yc,ZbJ,ZbI]at hx;rcases hx with rfl|rfl|rfl|rfl|hx|hx
   ·omega
   ·omega
   ·omega
   ·have:=Hl.o;omega
   ·exact Hb.o x hx
   ·exact Xf _ _ x hx
  have Hown7:=ZA hown7;have Hbl:=ZA hbl;have Hbb:=ZA hbb;clear hown7 hbody hbl hbb;have hr7:=ZA (Rd.of_own Hown7.o);clear Hown6;go_wp2_with fail;refine(ZDp A7 (4+n+8) c7 (Yc p xs s) w7 Hbl.o Hbb.o ZB hr7.out).mono ?_;rintro e w8 ⟨rfl,rfl⟩;go_wp2_with fail;rw[ZIw _ (ZDR _ _ ZB)];refine(ZEl w7 w1 w1.heap.size A7 (4+n+8) c7 _ (ZDT (Yc p xs s)) 4 Hbl.o Hown7.o hy7 (Zb0 _) ZB (Nat.lt_trans (ZcA _ ZB) ZB) ZB ZB).mono ?_;rintro e w9 ⟨A9,c9,rfl,hown9,hy9,hs9⟩;have hlt:(Y4 p xs s).length=4+n+8+4:=by rw[ZAQ,Hl.o];omega
  have Hlt:=ZA hlt;have Hown9:=ZA hown9;clear hlt hown9;go_wp2_with fail
  go_ret2
  have hx9:ZL w w9:=(((ZL.refl w).alloc _).trans hx1).trans hy9;exact JE Hlt.o (Zg Hown9.o (by have:=hx1.size;simp at this;omega)) hx9
def ZGr (ys:List Nat):Prop:=∃(p s:Nat) (xs:List Nat),p<32/\1<=s/\s<=4611686018427387903/\xs.length<=255/\(∀x ∈ xs,x<256)/\ys=Y4 p xs s
theorem ZFe (xs:List Nat)(k s:Nat)(hb:∀x ∈ xs,x<256)(hl:xs.length=k)(h:Z4 xs=s):Zh s k=xs:=by
 have:=ZKk xs hb 0;rw[ZcM,ZcK,hl,h]at this;exact this
theorem ZM8 (ys:List Nat)(p k s:Nat)(hb:∀x ∈ ys,x<256)(hlen:ys.length=k+16)(h0:ys[0]?=some 83)(h1:ys[1]?=some 71)(h2:ys[2]?=some p)(h3:ys[3]?=some k)(hs:Z4 ((ys.drop (4+k)).take 8)=s)(hq:Z4 (ys.drop (4+k+8))=upd 14695981039346656037 (ys.take (4+k+8)) % 4294967296):ys=Y4 p ((ys.drop 4).take k) s:=by
 obtain⟨r,rfl⟩:∃r,ys=83::71::p::k::r:=by
  match ys,hlen,h0,h1,h2,h3 with
  |a::b::c::d::r,_,h0,h1,h2,h3=>
   simp at h0 h1 h2 h3;subst h0 h1 h2 h3;exact⟨r,rfl⟩
  |[],hlen,_,_,_,_=>simp at hlen
  |[_],hlen,_,_,_,_=>simp at hlen
  |[_,_],hlen,_,_,_,_=>simp at hlen
  |[_,_,_],hlen,_,_,_,_=>simp at hlen
 have hlr:r.length=k+12:=by simp at hlen;omega
 have e1:(83::71::p::k::r).drop (4+k)=r.drop k:=by
  rw[show 4+k=k+4 by omega];rfl
 have e2:(83::71::p::k::r).drop (4+k+8)=r.drop (k+8):=by
  rw[show 4+k+8=(k+8)+4 by omega];rfl
 have e3:(83::71::p::k::r).take (4+k+8)=83::71::p::k::r.take (k+8):=by
  rw[show 4+k+8=(k+8)+4 by omega];rfl
 have e4:(83::71::p::k::r).drop 4=r:=rfl;rw[e1]at hs;rw[e2,e3]at hq;rw[e4];have hbr:∀x ∈ r,x<256:=λx hx=>hb x (by simp[hx]);have hw8:Zh s 8=(r.drop k).take 8:=ZFe _ 8 s (λx hx=>hbr x (ZbP (ZbR hx))) (by rw[ZbG,ZbB];omega) hs;have hkl:(r.take k).length=k:=by rw[ZbG];omega
 have hbody:Yc p (r.take k) s=83::71::p::k::r.take (k+8):=by
  rw[Yc,hkl,hw8,List.take_add]
 have hw4:Zh (ZDT (Yc p (r.take k) s)) 4=r.drop (k+8):=by
  rw[hbody];exact ZFe _ 4 _ (λx hx=>hbr x (ZbP hx)) (by rw[ZbB];omega) hq
 rw[Y4,hw4,hbody];simp
theorem ZPr (ys:List Nat)(p k s:Nat)(hb:∀x ∈ ys,x<256)(hlen:ys.length=k+16)(h0:ys[0]?=some 83)(h1:ys[1]?=some 71)(h2:ys[2]?=some p)(h3:ys[3]?=some k)(hp:p<32)(hk:k<256)(hs:Z4 ((ys.drop (4+k)).take 8)=s)(hs1:1<=s)(hs2:s<=4611686018427387903)(hq:Z4 (ys.drop (4+k+8))=upd 14695981039346656037 (ys.take (4+k+8)) % 4294967296):ZGr ys:=⟨p,s,(ys.drop 4).take k,hp,hs1,hs2,by rw[ZbG];omega,λx hx=>hb x (ZbP (ZbR hx)),ZM8 ys p k s hb hlen h0 h1 h2 h3 hs hq⟩
theorem ZIC (p s:Nat)(xs:List Nat)(hp:p<256)(hl:xs.length<256)(hb:∀x ∈ xs,x<256):∀x ∈ Y4 p xs s,x<256:=λx hx=>by
 simp only[Y4,Yc,ZbI,ZbJ]at hx;rcases hx with(rfl|rfl|rfl|rfl|hx|hx)|hx
 ·omega
 ·omega
 ·omega
 ·omega
 ·exact hb x hx
 ·exact Xf _ _ x hx
 ·exact Xf _ _ x hx
theorem ZCC (xs:List Nat)(hb:∀x ∈ xs,x<256)(hl:xs.length<=8):Z4 xs<18446744073709551616:=by
 have:=ZBY xs hb;refine Zb5 this ?_;rw[show(18446744073709551616:Nat)=256 ^ 8 by rfl];exact ZcI ZB hl
def XH (w:World)(r:Nat)(ws:List Nat)(cl:Bool)(S:Zdb):Prop:=∃A n c,w.heap[r]?=some (.cells #[.slice A n c,.bool cl] 283 (0,0))/\ws.length=n/\n<=c/\Rd w A (ZV .u8 ws)/\∀a,A=some a->S a.block
theorem ZDm {P:Program}{c:Code}{Q:Exit->Act->World->Prop}{a:Act}{w:World}(h:∀Q':Exit->Act->World->Prop,(∀e a w,Q e a w->Q' e a w)->c.wp P Q' a w):c.wp P Q a w:=h Q (λ_ _ _ q=>q)
theorem ZJF (w:World)(r k:Nat)(A:Option Addr)(n c:Nat)(cl:Bool)(h:w.heap[r]?=some (.cells #[.slice A n c,.bool cl] 283 (0,0)))(hk:n<k): Calls Tryz.prog 216 #[.pointer (some ⟨r,0,none⟩),.int .i64 (k:Int)] w λe w'=>e=.panicked [{v:=.iface 340 (.agg #[]),recovered:=false}]/\w=w':=by
 have h0:=ZTx h 0 (.slice A n c);have H:=ZA h;clear h;go_enter Tryz.func216,Tryz.ntmps216;go_wp2;exact⟨rfl,rfl,rfl⟩
theorem ZHF (w:World)(r k:Nat)(A A':Option Addr)(n c m d:Nat)(cl:Bool)(h:w.heap[r]?=some (.cells #[.slice A n c,.bool cl] 283 (0,0)))(hk:k<=n)(hnc:n<=c)(hsl:∀u:World,(Instr.slice 32 (.slice A n c) (some (.int .i64 (k:Int))) none none).run Tryz.prog u=.ok (.slice A' m d) u): Calls Tryz.prog 216 #[.pointer (some ⟨r,0,none⟩),.int .i64 (k:Int)] w λe w'=>e=.returned (.slice A k c)/\w.setCell ⟨r,0,none⟩ (.slice A' m d)=w':=by
 have h0:=ZTx h 0 (.slice A n c);have hf:=ZF h 0;have H:=ZA h;clear h;go_enter Tryz.func216,Tryz.ntmps216;go_wp2;go_ret;exact⟨rfl,rfl⟩
theorem ZCS (w:World)(r br bw:Nat)(A B:Option Addr)(n c m d:Nat)(cl:Bool)(older:List PanicEntry)(hr:w.heap[r]?=some (.cells #[.slice A n c,.bool cl] 283 (0,0)))(h1:w.cell? ⟨br,0,none⟩=some (.pointer (some ⟨r,0,none⟩)))(h2:w.cell? ⟨bw,0,none⟩=some (.slice B m d)): CallsD Tryz.prog 215 #[.pointer (some ⟨bw,0,none⟩),.pointer (some ⟨br,0,none⟩)] (.panicking ({v:=.iface 340 (.agg #[]),recovered:=false}::older)) w λe u' w'=>
   e=.returned (.tuple #[])/\u'=.panicking ({v:=.iface 340 (.agg #[]),recovered:=true}::older)/\(w.alloc (.cells #[] 340)).setCell ⟨r,0,none⟩ (.slice B m d)=w':=by
 refine callsD_of_wpS Tryz.func215 rfl λc₀ cs hu=>?_;have hc0:=ZTx hr 0 (.slice A n c);have hf0:=ZF hr 0;have hta:∀u:World,(Instr.typeAssert (.iface 340 (.agg #[])) 20 340 true).run Tryz.prog u=.ok (.tuple #[.agg #[],.bool true]) u:=λ_=>by kernel_rfl
 have p1:=ZI h1;have p2:=ZI h2;have p3:=ZI hc0;have p4:=ZEz (p:=⟨r,0,none⟩) (ZW hr) hf0;have Hr:=ZA hr;clear hr;simp only[Tryz.ntmps215,Zbf,ZbA,ZbE,Nat.reduceAdd,Nat.reduceSub,ZaS,ZaT,Zbb,Zah,ZbV,Zaj];apply wpS_seq;apply wpS_region;simp[wpOpsS,go_sem,recoverD,hu,Exit.thenS];refine wpS_of_wp ?_;refine ZDm λQ hQ=>?_;have Hu:=ZA hu;clear hu;go_wp2_with fail;have hu:=Hu.o;exact⟨rfl,_,rfl,_,Zcl rfl _ _ _,rfl,rfl,rfl⟩
theorem ZHE (w:World)(p q:Value): CallsD Tryz.prog 215 #[p,q] .returning w λe u' w'=>e=.returned (.tuple #[])/\u'=.returning/\w=w':=by
 refine callsD_of_wpS Tryz.func215 rfl λc₀ cs hu=>?_;simp only[Tryz.ntmps215,Zbf,ZbA,ZbE,Nat.reduceAdd,Nat.reduceSub,ZaS,ZaT,Zbb,Zah,ZbV,Zaj];apply wpS_seq;apply wpS_region;simp[wpOpsS,go_sem,recoverD,hu,Exit.thenS];refine wpS_of_wp ?_;refine ZDm λQ hQ=>?_;have Hu:=ZA hu;clear hu;go_wp2_with fail;have hu:=Hu.o;exact⟨rfl,.returning,by cases c₀;simp at hu;subst hu;rfl,_,Zcl rfl _ _ _,rfl,rfl,rfl⟩
theorem ZK9 (w:World)(o:Obj)(p n:Nat):((w.alloc o).alloc (.cells #[.int .u8 83,.int .u8 71,.int .u8 (p:Int),.int .u8 (n:Int)] 5)).ownsRow w.heap.size 5 1 (.slice (some ⟨w.heap.size+1,0,none⟩) 4 4) 4 (ZV .u8 [83,71,p,n]):=by
 have h:=ZHZ (w.alloc o) p n;rw[ZcV]at h;exact Zg h ZB
theorem ZFu (w:World)(p s:Nat)(A:Option Addr)(n c:Nat)(xs:List Nat)(hl:xs.length=n)(hb:∀x ∈ xs,x<256)(hr:Rd w A (ZV .u8 xs))(h1:1<=s)(h2:s<=4611686018427387903)(h4:p<32)(hn:n<=255): Calls Tryz.prog 160 #[ZIA (p:Int) A n c (s:Int)] w (ZDi (Y4 p xs s) w):=by
 have Hl:=ZA hl;have Hr:=ZA hr;have Hb:=ZA hb;clear hl hr hb;have hbl:(Yc p xs s).length=4+n+8:=by rw[ZAL,Hl.o];omega
 have hbb:∀x ∈ Yc p xs s,x<256:=λx hx=>by
  simp only[Yc,ZbJ,ZbI]at hx;rcases hx with rfl|rfl|rfl|rfl|hx|hx
  ·omega
  ·omega
  ·omega
  ·have:=Hl.o;omega
  ·exact Hb.o x hx
  ·exact Xf _ _ x hx
 have Hbl:=ZA hbl;have Hbb:=ZA hbb;clear hbl hbb;have hwn:IntKind.u8.wrap (n:Int)=(n:Int):=by rw[Zac];omega
 have hwp:IntKind.u8.wrap (p:Int)=(p:Int):=by rw[Zac];omega
 go_enter Tryz.func160,Tryz.ntmps160;go_wp2_with (first|(at_builtin;refine Y6 _ rfl (.tmp 12) (.tmp 14) rfl w.heap.size rfl (ZK9 w _ p n) rfl Hl.o ((Hr.o.alloc _).alloc _) ZB (by simp;omega) ?_;intro A6 c6 w6 hown6 hgrow6 _;have hk2:w6.cell? ⟨w.heap.size,2,none⟩=some (.int .i64 (s:Int)):=(hgrow6.cell_far ⟨w.heap.size,2,none⟩ (by simp;omega) (by simp[Value.ownBlock])).trans (ZI (ZcP _ _ _ _) _))|fail);have hx6:ZL w w6:=(((ZL.refl w).alloc _).alloc _).grown hgrow6 (λk hk=>by simp[Value.ownBlock]at hk;omega);have Hown6:=ZA hown6;clear hown6 hgrow6 hk2;have hs6:w.heap.size<=w6.heap.size:=hx6.size;go_wp2_with fail;refine(ZCh w6 s 8 ZB ZB).mono ?_;rintro e w7 ⟨A7,c7,rfl,hown7,hy7⟩;rw[Zs]at hown7 ⊢;have hr7:=ZA (Rd.of_own hown7);have ho6:=YB Hown6.o hy7;have hs7:w6.heap.size<=w7.heap.size:=hy7.size;clear hown7 Hown6;go_wp2_with (first|(at_builtin;refine Y6 _ rfl (.tmp 16) (.tmp 20) rfl w.heap.size rfl ho6 rfl (Zs s 8) hr7.out ZB ZB ?_;intro A8 c8 w8 hown8 hgrow8 _)|fail);have hbody:[83,71,p,n]++xs++Zh s 8=Yc p xs s:=by rw[Yc,Hl.o];rfl
 rw[hbody]at hown8;have hx8:ZL w w8:=(hx6.trans hy7).grown hgrow8 (Yg ho6);have hr8:=ZA (Rd.of_own hown8);have hs8:w7.heap.size<=w8.heap.size:=hgrow8.size;have Hown8:=ZA hown8;clear hown8 hgrow8 ho6 hbody;go_wp2_with fail;refine(ZKx A8 (4+n+8) c8 (Yc p xs s) w8 Hbl.o Hbb.o ZB hr8.out).mono ?_;rintro e w9 ⟨rfl,rfl⟩;have hsum:((upd 14695981039346656037 (Yc p xs s):Nat):Int) % 4294967296=((ZDT (Yc p xs s):Nat):Int):=rfl;have hslt:ZDT (Yc p xs s)<4294967296:=ZcA _ ZB;go_wp2_with fail;rw[hsum];refine(ZCh w8 (ZDT (Yc p xs s)) 4 ZB ZB).mono ?_;rintro e w10 ⟨A10,c10,rfl,hown10,hy10⟩;rw[Zs]at hown10 ⊢;have hr10:=ZA (Rd.of_own hown10);have ho8:=YB Hown8.o hy10;have hs10:w8.heap.size<=w10.heap.size:=hy10.size;clear hown10 Hown8;go_wp2_with (first|(at_builtin;refine Y6 _ rfl (.tmp 22) (.tmp 26) rfl w.heap.size rfl ho8 rfl (Zs _ 4) hr10.out ZB ZB ?_;intro A11 c11 w11 hown11 hgrow11 _)|fail);have hx11:ZL w w11:=(hx8.trans hy10).grown hgrow11 (Yg ho8);have Hown11:=ZA hown11;have hlt:(Y4 p xs s).length=4+n+8+4:=by rw[ZAQ,Hl.o];omega
 have Hlt:=ZA hlt;clear hlt hown11 hgrow11 ho8;go_ret;exact ZA9 Hlt.o Hown11.o hx11
end Go.Proofs.YtloidkmphigbdaaGreat
