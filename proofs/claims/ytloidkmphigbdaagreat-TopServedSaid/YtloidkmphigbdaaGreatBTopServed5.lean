import Derived.Lib.SmallJoins
import Derived.Test.YtloidkmphigbdaaGreatBTopServed4
namespace Go.Proofs.YtloidkmphigbdaaGreat
open Tryz
set_option linter.all false
set_option maxHeartbeats 40000000
set_option maxRecDepth 100000
open Go.RowKit
variable {f0 f1 f2 f3 f4 g0 g1 g2 g3:Field}{xs:List Nat}{g n op:Nat}{A:Option Addr}{e e8 t:TypeId}{v:Value}{W w:World}
theorem QW {p:Prop}(h:p:=by
 first|(obtain -:=V1;have bU:=Jt;obtain⟨p0,p1,p2,p3,p4,tv,aj,⟨k0,k1⟩,k2,k3,kt,k5⟩:=h)|(obtain -:=V2;have bU:=Jt;obtain⟨p0,p1,p2,p3,p6,p4,p5,aj,⟨k0,k1⟩,k2,k3,⟨Ah,ch,rs,k6,hcl⟩,k4,k5⟩:=h)|obtain⟨p0,p1,p2,p3,p4,p5,aj,⟨k0,k1⟩,k2,k3,k4,k5⟩:=h
 injection aj with aj h1 h2;injection aj with aj;subst aj h2;obtain⟨b0,rfl,l0⟩:=k0.ptr;obtain⟨b1,rfl,l1⟩:=k1.ptr;obtain⟨b2,rfl,l2⟩:=k2.ptr;obtain⟨b3,rfl,l3⟩:=k3.ptr;first|(obtain -:=V3;obtain⟨b5,rfl,l5⟩:=Zh.ptr k5)|(obtain -:=V4;obtain⟨b4,rfl,l4⟩:=k4.ptr;obtain⟨b5,rfl,l5⟩:=k5.ptr;obtain⟨b6,rfl,l6⟩:=k6.ptr)|(obtain⟨b4,rfl,l4⟩:=k4.ptr;obtain⟨b5,rfl,l5⟩:=k5.ptr)
 obtain⟨W,hW,xW,K0⟩:=Za w ZYE;first
 |obtain -:=V5;have kp:=(kpg (X:=X) xW (Zf6 w.heap.size)).trans (Kp.ext _ (ZM.refl W).drew);have MV:=ZA (ZHs W.drew (XG X w.heap.size) d sum word tv t ((hX.xg xW (ZX K0.o)).ext (ZM.refl W).drew) (kt.kp kp));obtain⟨tf,tc,rfl⟩:=kt.fn
 |obtain -:=V6;have xz:i<8:=ZgB hi (ZHe hl);have Bh:=ZHe hl;obtain⟨P,HP⟩:∃q:Nat,ZD ((2:Nat) ^ lv=q):=⟨2 ^ lv,ZA rfl⟩;rw[HP.o]at Bh ⊢;obtain⟨i1,Hi1⟩:=ZX2 (i+P);obtain⟨Ae,vr⟩:=ZX2 (lv+1);rw[Hi1.o,vr.o];have kp:=kpg (X:=X) xW (Zf6 w.heap.size);obtain⟨m,Hm⟩:=ZX2 (holds.length);rw[Hm.o]at k6;have dX:ZM W W.drew:=(ZM.refl W).drew;have MV:=ZA (ZFv W.drew (XG X w.heap.size) d Ae i1 m ch Ah holds rs (YD 236 #[ZH b0,ZH b1,ZH b2,ZH b3,ZH b4,ZH b5]) (.move2 lv i) ((hX.xg xW (ZX K0.o)).ext dX) ⟨_,_,_,_,_,_,rfl,⟨(k0.kp kp).ext dX,(k1.kp kp).ext dX⟩,(k2.kp kp).ext dX,(k3.kp kp).ext dX,(k4.kp kp).ext dX,Zh.ext (Zh.kp k5 kp) dX⟩ (by have:=vr.o;omega) (by have:=Hi1.o;omega) Hm.o ((hcl.kp kp).ext dX));have f6:=(k6.ext xW).ZX6 0 (.slice Ah m ch);have gO:IntKind.i64.wrap ((lv:Int)+1)=(Ae:Int):=by have:=vr.o;rw[Zee];omega
  have Ey:IntKind.u64.wrap (i1:Int)=(i1:Int):=by have:=Hi1.o;rw[Zef];omega
  have DP:¬(lv:Int)<0:=by omega
 |have xz:i<8:=ZgB hi (ZHe hl);obtain⟨i1,Hi1⟩:=ZX2 (i+1);rw[Hi1.o];have MV:=ZA (ZFu W.drew (XG X w.heap.size) d lv i1 ((hX.xg xW (ZX K0.o)).ext (ZM.refl W).drew) hl (by have:=Hi1.o;omega))
 have f0:=(k0.ext xW).ZX6 0 (ZH d.gl);have f1:=(k1.ext xW).ZX6 0 (.int .i64 (d.who:Int));first|(obtain -:=V7;have f2:=(k2.ext xW).ZX6 0 (.int .u64 sum);have f3:=(k3.ext xW).ZX6 0 (YD tf tc);have KN:=Zh.ext k5 xW)|(have f2:=(k2.ext xW).ZX6 0 (.int .i64 lv);have f3:=(k3.ext xW).ZX6 0 (.int .i64 i);have f4:=(k4.ext xW).ZX6 0 (YD 130 #[]);have KN:=k5.ext xW)
 have n0:=KN.ZX6 0 (.bool false);have n1:=KN.ZX6 1 (.int .i64 0);have n2:=KN.ZX6 2 (.bool false);have n3:=KN.ZX6 3 (.int .i64 0);have n4:=KN.ZX6 4 (.int .i64 0);have n5:=KN.ZX6 5 (.int .i64 0);have n6:=KN.ZX6 6 (.int .i64 0);first|(obtain -:=V8)|(obtain -:=V9;have Ex:IntKind.i64.wrap ((i:Int)+(P:Int))=(i1:Int):=by have:=Hi1.o;rw[Zee];omega)|have Ex:IntKind.i64.wrap ((i:Int)+1)=(i1:Int):=by have:=Hi1.o;rw[Zee];omega
 have mb:b0≠w.heap.size:=by omega
 have mU:b1≠w.heap.size:=by omega
 have qK:b2≠w.heap.size:=by omega
 have oT:b3≠w.heap.size:=by omega
 first
 |obtain -:=V10
 |obtain -:=V11;have ur:b4≠w.heap.size:=by omega
  have Ky:b6≠w.heap.size:=by omega
 |have ur:b4≠w.heap.size:=by omega
 have aW:b5≠w.heap.size:=by omega
 have lJ:=aW;have lI:=aW;have lH:=aW;have lG:=aW;have lE:=aW;have lD:=aW;first|(obtain -:=V12;have wH:IntKind.i64.wrap (2 ^ min lv 64)=(P:Int):=by rw[<-HP.o];exact ZLU ZB)|skip
 have XW:=ZA xW;have HW:=ZA hW;first|(obtain -:=V13;clear k0 k1 k2 k3 k5 kt KN hX xW hW l0 l1 l2 l3 l5 kp;show Calls prog 240 #[.int .i64 word,.int .u64 0,.slice A n c,ZH b0,ZH b1,ZH b2,ZH b3,ZH b5] w _;go_enter func240,ntmps240)|(obtain -:=V14;clear k0 k1 k2 k3 k4 k5 k6 KN hX xW hW l0 l1 l2 l3 l4 l5 l6 hi hl kp dX hcl Bh;show Calls prog 235 #[.int .i64 z,.int .u64 y,.slice A n c,ZH b0,ZH b1,ZH b2,ZH b3,ZH b6,ZH b4,ZH b5] w _;go_enter func235,ntmps235)|(clear k0 k1 k2 k3 k4 k5 KN hX xW hW l0 l1 l2 l3 l4 l5 hi hl;show Calls prog 236 #[.int .i64 z,.int .u64 y,.slice A n c,ZH b0,ZH b1,ZH b2,ZH b3,ZH b4,ZH b5] w _;go_enter func236,ntmps236)
 first|(obtain -:=V15;go_upto_region 2 with fail)|go_upto_region 1 with fail
 (try rw[HW.o]);clear HW;first
 |obtain -:=V16;go_region_held3 (λw'=>w'.cell? ⟨b0,0,none⟩=some (ZH d.gl)/\w'.cell? ⟨b1,0,none⟩=some (.int .i64 (d.who:Int))/\w'.cell? ⟨b2,0,none⟩=some (.int .u64 sum)/\w'.cell? ⟨b3,0,none⟩=some (YD tf tc)/\w'.cell? ⟨b5,0,none⟩=some (.bool false)/\w'.cell? ⟨b5,1,none⟩=some (.int .i64 0)/\w'.cell? ⟨b5,2,none⟩=some (.bool false)/\w'.cell? ⟨b5,3,none⟩=some (.int .i64 0)/\w'.cell? ⟨b5,4,none⟩=some (.int .i64 0)/\w'.cell? ⟨b5,5,none⟩=some (.int .i64 0)/\w'.cell? ⟨b5,6,none⟩=some (.int .i64 0)) (((try go_split_ands);exact⟨ZX8,ZX8,ZX8,ZX8,ZX8,ZX8,ZX8,ZX8,ZX8,ZX8,ZX8⟩)) ((go_at_call 238;(with_reducible refine MV.o.mono ?_);rintro e w3 ⟨v,rfl,hk,hx⟩;have ap:=(ZM.refl W).drew.trans hx;have HK:=ZA hk;have aV:=ZA ap;have bR:=ZA (ZK K0.o ap);obtain⟨r0,z0,r1,z1,r2,z2,r3,z3,r4,z4,r5,z5,r6,z6⟩:=ZYD bR.o;have fQ:=ZF (ap) f0;have kv:=ZF (ap) f1;have jn:=ZF (ap) f2;have oP:=ZF (ap) f3;have ku:=ZF (ap) n0;have ko:=ZF (ap) n1;have km:=ZF (ap) n2;have kj:=ZF (ap) n3;have kh:=ZF (ap) n4;have kg:=ZF (ap) n5;have ke:=ZF (ap) n6;clear hk hx ap));all_goals
   go_wp2_with fail;refine Zgd (ZP (p:=12) (u:=11) rfl _ _ w.heap.size _ #[.bool false,.int .i64 0,.bool false,.int .i64 0,.int .i64 0,.int .i64 0,.int .i64 0] (0,0) _ rfl (Yv bR.o _ _ _ _ _ _ _) underlying41 ZX0 ZC) rfl ?_;exact Yz (r:=ZAG) (ZAo HK.o) (XW.o.trans aV.o) (Zf6 _) _ _ _ _ _ _ _
 |obtain -:=V17;go_region_held3 (λw'=>w'.cell? ⟨b0,0,none⟩=some (ZH d.gl)/\w'.cell? ⟨b1,0,none⟩=some (.int .i64 (d.who:Int))/\w'.cell? ⟨b2,0,none⟩=some (.int .i64 lv)/\w'.cell? ⟨b3,0,none⟩=some (.int .i64 i)/\w'.cell? ⟨b6,0,none⟩=some (.slice Ah m ch)/\w'.cell? ⟨b5,0,none⟩=some (.bool false)/\w'.cell? ⟨b5,1,none⟩=some (.int .i64 0)/\w'.cell? ⟨b5,2,none⟩=some (.bool false)/\w'.cell? ⟨b5,3,none⟩=some (.int .i64 0)/\w'.cell? ⟨b5,4,none⟩=some (.int .i64 0)/\w'.cell? ⟨b5,5,none⟩=some (.int .i64 0)/\w'.cell? ⟨b5,6,none⟩=some (.int .i64 0)) (((try go_split_ands);exact⟨ZX8,ZX8,ZX8,ZX8,ZX8,ZX8,ZX8,ZX8,ZX8,ZX8,ZX8,ZX8⟩)) ((go_at_call 234;(with_reducible refine MV.o.mono ?_);rintro e w3 ⟨v,rfl,hk,hx⟩;have ap:=(ZM.refl W).drew.trans hx;have HK:=ZA hk;have aV:=ZA ap;have bR:=ZA (ZK K0.o ap);obtain⟨r0,z0,r1,z1,r2,z2,r3,z3,r4,z4,r5,z5,r6,z6⟩:=ZYD bR.o;have fQ:=ZF (ap) f0;have kv:=ZF (ap) f1;have jn:=ZF (ap) f2;have oP:=ZF (ap) f3;have uq:=ZF (ap) f6;have ku:=ZF (ap) n0;have ko:=ZF (ap) n1;have km:=ZF (ap) n2;have kj:=ZF (ap) n3;have kh:=ZF (ap) n4;have kg:=ZF (ap) n5;have ke:=ZF (ap) n6;clear hk hx ap));all_goals
   go_wp2_with fail;refine Zgd (ZP (p:=14) (u:=13) rfl _ _ w.heap.size _ #[.bool false,.int .i64 0,.bool false,.int .i64 0,.int .i64 0,.int .i64 0,.int .i64 0] (0,0) _ rfl (Yv bR.o _ _ _ _ _ _ _) underlying41 ZX0 ZC) rfl ?_;exact Yz (r:=ZAG) (ZAo HK.o) (XW.o.trans aV.o) (Zf6 _) _ _ _ _ _ _ _
 |go_region_held3 (λw'=>w'.cell? ⟨b0,0,none⟩=some (ZH d.gl)/\w'.cell? ⟨b1,0,none⟩=some (.int .i64 (d.who:Int))/\w'.cell? ⟨b2,0,none⟩=some (.int .i64 lv)/\w'.cell? ⟨b3,0,none⟩=some (.int .i64 i)/\w'.cell? ⟨b4,0,none⟩=some (YD 130 #[])/\w'.cell? ⟨b5,0,none⟩=some (.bool false)/\w'.cell? ⟨b5,1,none⟩=some (.int .i64 0)/\w'.cell? ⟨b5,2,none⟩=some (.bool false)/\w'.cell? ⟨b5,3,none⟩=some (.int .i64 0)/\w'.cell? ⟨b5,4,none⟩=some (.int .i64 0)/\w'.cell? ⟨b5,5,none⟩=some (.int .i64 0)/\w'.cell? ⟨b5,6,none⟩=some (.int .i64 0)) (((try go_split_ands);exact⟨ZX8,ZX8,ZX8,ZX8,ZX8,ZX8,ZX8,ZX8,ZX8,ZX8,ZX8,ZX8⟩)) ((go_at_call 175;(with_reducible refine MV.o.mono ?_);rintro e w3 ⟨v,rfl,hk,hx⟩;have ap:=(ZM.refl W).drew.trans hx;have HK:=ZA hk;have aV:=ZA ap;have bR:=ZA (ZK K0.o ap);obtain⟨r0,z0,r1,z1,r2,z2,r3,z3,r4,z4,r5,z5,r6,z6⟩:=ZYD bR.o;have fQ:=ZF (ap) f0;have kv:=ZF (ap) f1;have jn:=ZF (ap) f2;have oP:=ZF (ap) f3;have mT:=ZF (ap) f4;have ku:=ZF (ap) n0;have ko:=ZF (ap) n1;have km:=ZF (ap) n2;have kj:=ZF (ap) n3;have kh:=ZF (ap) n4;have kg:=ZF (ap) n5;have ke:=ZF (ap) n6;clear hk hx ap));all_goals
   go_wp2_with fail;refine Zgd (ZP (p:=13) (u:=12) rfl _ _ w.heap.size _ #[.bool false,.int .i64 0,.bool false,.int .i64 0,.int .i64 0,.int .i64 0,.int .i64 0] (0,0) _ rfl (Yv bR.o _ _ _ _ _ _ _) underlying41 ZX0 ZC) rfl ?_;exact Yz (r:=ZAG) (ZAo HK.o) (XW.o.trans aV.o) (Zf6 _) _ _ _ _ _ _ _):p:=h
theorem ZHr (w X d lv i n c z y A f)(aa:Array Value)(hX:YE w X)(h:Xr w X d (YD f aa) (.move2 lv i))(hl:lv<=3)(hi:i<2 ^ lv): Calls prog f (#[.int .i64 z,.int .u64 y,.slice A n c]++aa) w (ZAi X d (.on (XM lv (i+1))) w):=QW
theorem ZLU {lv:Nat}(h:lv<=4):IntKind.i64.wrap (2 ^ min lv 64)=((2 ^ lv:Nat):Int):=by
 have:lv=0\/lv=1\/lv=2\/lv=3\/lv=4:=by omega
 rcases this with rfl|rfl|rfl|rfl|rfl<;>rfl
theorem ZJN (w X d lv i n c z y A holds f)(aa:Array Value)(hX:YE w X)(h:Xr w X d (YD f aa) (.move1 lv i holds))(hl:lv<=3)(hi:i<2 ^ lv): Calls prog f (#[.int .i64 z,.int .u64 y,.slice A n c]++aa) w (ZAi X d (.on (.half (lv+1) (i+2 ^ lv) holds (.move2 lv i))) w):=by
 obtain⟨V2,V4,V6,V9,V11,V12,V14,V17⟩:=QA;exact QW
theorem ZL4 (w g O C xb)(L:List Zg)(s:Z9)(who lv d x res ser f)(aa:Array Value)(h:YQ w g O C xb L s)(hc:s.call who=.run x res ser .split)(hL:L.length<=100000)(hw:who<64)(fD:lv<=3)(hd:2*lv+1=d)(hu:s.ws.getD 0 0=d)(hk:Zk w (XO C O) (Zo g who (xb who) x) (YD f aa) .split): Calls prog f aa w (SK w g O C xb who (L.length+1) x s (.on (XM lv 0))):=by
 obtain⟨V1,V2,V7,V8,V9,V10,V11,V12,V13⟩:=QA;exact QF
theorem ZIh (w g O C xb)(L:List Zg)(s:Z9)(who u d x res ser f)(aa:Array Value)(h:YQ w g O C xb L s)(hc:s.call who=.run x res ser (.splitS d))(hL:L.length<=100000)(hw:who<64)(hd:d<=8)(hu:s.ws.getD 0 0=u)(ag:u≠d)(hk:Zk w (XO C O) (Zo g who (xb who) x) (YD f aa) (.splitS d)): Calls prog f aa w (SK w g O C xb who (L.length+1) x s (.on .split)):=by
 obtain⟨V4,V8,V10,V13⟩:=QA;exact QV
theorem ZES (w g O C xb)(L:List Zg)(s s1:Z9)(who lv u x res ser f)(aa:Array Value)(h:YQ w g O C xb L s)(hc:s.call who=.run x res ser (.moveEnd lv))(hL:L.length<=100000)(hw:who<64)(fD:lv<=3)(hu:s.ws.getD 0 0=u)(aG:s1=if u=2*lv+1 then {s with ws:=s.ws.set 0 (2*lv+2),hs:=s.hs.set 0 []} else s)(hk:Zk w (XO C O) (Zo g who (xb who) x) (YD f aa) (.moveEnd lv)): Calls prog f aa w (SK w g O C xb who (L.length+1) x s1 (.fin (YY 0))):=by
 obtain⟨V1,V3,V6,V7,V12⟩:=QA;exact QV
theorem ZMX (P:List YK)(A K n c pol kl kc op N w)(hn:P.length=n)(aZ:n<=32)(hP:∀p ∈ P,Yt p)(hr:Rd w A (ZAB P))(hop:op=1\/op=2\/op=3\/op=4)(fC:n<=pol)(hN:op=1->0<=N/\N<=4611686018427387903)(aX:kl<=255): Calls prog 85 #[.slice A n c,.agg #[.int .u8 op,.int .i64 pol,.slice K kl kc,.int .i64 N]] w (Xj (.int .i64 6) w):=by
 obtain⟨V4,V8⟩:=QA;exact QS
theorem ZMW (P:List YK)(A K n c pol kl kc op N w)(hn:P.length=n)(aZ:n<=32)(hP:∀p ∈ P,Yt p)(hr:Rd w A (ZAB P))(fC:pol<n)(hop:(op=1/\(Zf P pol).kind=2)\/(op=2/\(Zf P pol).kind=1)\/(op=3/\(Zf P pol).kind=1))(hN:op=1->0<=N/\N<=4611686018427387903)(aX:kl<=255): Calls prog 85 #[.slice A n c,.agg #[.int .u8 op,.int .i64 pol,.slice K kl kc,.int .i64 N]] w (Xj (.int .i64 6) w):=by
 obtain⟨V2,V7⟩:=QA;exact QS
theorem ZPN {α β:Type}(f:α->List β)(n):∀(L:List α),(∀r ∈ L,(f r).length=n)->∀q u,(L.flatMap f)[q]?=some u->∃i j r,q=i*n+j/\j<n/\L[i]?=some r/\(f r)[j]?=some u
 |[],_,q,u,h=>by simp at h
 |a::L,hn,q,u,h=>by
  rw[Zex]at h;have ha:=hn a ZXz;by_cases hq:q<n
  ·rw[Ze0 ZB]at h;exact⟨0,q,a,by omega,hq,rfl,h⟩
  ·rw[Ze1 ZB,ha]at h;obtain⟨i,j,r,h1,h2,h3,h4⟩:=ZPN f n L (λr hr=>hn r (by simp[hr])) _ u h;exact⟨i+1,j,r,by rw[Nat.succ_mul];omega,h2,by simpa using h3,h4⟩
theorem ZFO {α β:Type}(f:α->List β)(n):∀(L:List α),(∀r ∈ L,(f r).length=n)->∀i r,L[i]?=some r->∀j,j<n->(L.flatMap f)[i*n+j]?=(f r)[j]?
 |[],_,i,r,h,_,_=>by simp at h
 |a::L,hn,i,r,h,j,hj=>by
  rw[Zex];have ha:=hn a ZXz;cases i with
  |zero=>
   simp at h;subst h;rw[ZgS,ZgQ,Ze0 ZB]
  |succ i=>
   rw[Ze1 (by rw[Nat.succ_mul];omega),show(i+1)*n+j - (f a).length=i*n+j by rw[Nat.succ_mul];omega];exact ZFO f n L (λr hr=>hn r (by simp[hr])) i r (by simpa using h) j hj
section
open Go.ChangeShapes Go.WideShapes Go.ChangeAt Go.Deep
section
variable {H:Type} {enc:TypeId × Value->H} {P:Program} {w:World} {base:Nat} {zL:Nat->Bool} {held:Bool}
end
section
variable {H:Type} {enc:TypeId × Value->H} {P:Program}
end
end
section
open Go.ChangeShapes Go.WideShapes Go.ChangeAt Go.Deep
section
variable {H:Type} {enc:TypeId × Value->H} {P:Program}
end
end
def ZBx:List Nat->Nat
 |[]=>0
 |d::ds=>d+4294967296*ZBx ds
theorem ZLo (xs ys:List Nat):ZBx (xs++ys)=ZBx xs+4294967296 ^ xs.length*ZBx ys:=by
 induction xs with
 |nil=>simp[ZBx]
 |cons x xs ih=>
  rw[Zen,ZBx,ih,ZBx,ZfF,ZgP,Nat.mul_add,ZgH (4294967296 ^ xs.length) 4294967296,Nat.mul_assoc];omega
theorem ZQI (xs)(h:∀d ∈ xs,d=0):ZBx xs=0:=by
 induction xs with
 |nil=>rfl
 |cons x xs ih=>
  rw[ZBx,ih (λd hd=>h d (by simp[hd])),h x ZXz]
theorem ZQJ (xs:List Nat)(n)(h:∀j d,n<=j->xs[j]?=some d->d=0):ZBx (xs.take n)=ZBx xs:=by
 have e:ZBx xs=ZBx (xs.take n++xs.drop n):=by rw[Zfl]
 rw[e,ZLo,ZQI (xs.drop n)]
 ·omega
 ·intro d hd;obtain⟨j,hj⟩:=Ze7 hd;rw[Ze3]at hj;exact h (n+j) d ZB hj
def ZV6 (xs:List Nat):Prop:=xs=[]\/∃ys d,xs=ys++[d]/\0<d
def ZWu (v:Nat)(ds:List Nat):Prop:=ds.length<=2/\(∀d ∈ ds,d<4294967296)/\ZBx ds=v
theorem ZLS:∀u:World,(sizeOf 52).run prog u=.ok 1 u:=λ_=>by kernel_rfl
theorem ZE6 {P:Program}(ht:P.underlying t=some (.slice e))(hz:∀u:World,(sizeOf e).run P u=.ok 1 u){c:Nat}(k)(h1:k<=c)(hA:∀a,A=some a->a.spot=none)(u): (Instr.slice t (.slice A n c) none (some (.int .i64 k)) none).run P u=.ok (.slice A k c) u:=by
 have he:P.elem t=e:=by simp[Program.elem,ht]
 rw[run_slice_h (P:=P) u t _ n c (by rw[he];exact ht) .i64 (k:Int) ZB ZB];rw[he,hz];cases A with
 |none=>simp[Result.andThen,sliced,Zec]
 |some a=>
  obtain⟨b,off,s⟩:=a;obtain rfl:s=none:=hA _ rfl;simp[Result.andThen,sliced,Zec,Addr.add]
def ZV4 (A:Option Addr)(c:Nat)(xs:List Nat)(w:World)(e:Ending)(w':World):Prop:=∃n,e=.returned (.slice A n c)/\n<=xs.length/\ZBx (xs.take n)=ZBx xs/\ZV6 (xs.take n)/\w=w'
theorem ZP3 (w A m c)(xs:List Nat)(hl:xs.length=m)(hm:m<=1000)(hc:m<=c)(hA:∀a,A=some a->a.spot=none)(hr:Rd w A (ZT .u64 xs)): Calls prog 127 #[.slice A m c] w (ZV4 A c xs w):=by
 obtain⟨Hl,Hr,HA⟩:=Z8 hl hr hA;clear hl hr hA;go_enter func127,ntmps127;go_wp2
 go_loop [3] (λv=>∃n:Nat,n<=m/\v=.int .i64 n/\∀j d,n<=j->xs[j]?=some d->d=0) (λv=>(intOf v).toNat)
 case atStart=>exact⟨m,Zf6 _,rfl,λj d hj hd=>by have:=(Ze5.1 hd).1;have:=Hl.o;omega⟩
 case round=>
  obtain⟨n,hn,rfl,hz⟩:=hrel;have HZ:=ZA hz;clear hz;have fin:ZV6 (xs.take n)->ZV4 A c xs w (.returned (.slice A n c)) w:=λh=>⟨n,rfl,by rw[Hl.o];exact hn,ZQJ xs n HZ.o,h,rfl⟩;have mS:=ZA fin;clear fin;cases n with
  |zero=>
   have hsl:=ZE6 (P:=prog) underlying200 ZLS (A:=A) (n:=m) (c:=c) 0 ZB HA.o;go_wp2;go_ret;exact mS.o (.inl ZXz)
  |succ n=>
   obtain⟨x,hx⟩:=Jy (xs:=xs) (j:=n) (by rw[Hl.o];omega);obtain⟨b,off,hA,_,aq⟩:=Hr.o.at_ hx;have Hx:=ZA hx;subst hA;clear hx;have e1:IntKind.i64.wrap (((n+1:Nat):Int) - 1)=(n:Int):=by rw[Zee];omega
   by_cases h0:x=0
   ·subst h0;go_wp2
    go_round
    case rel=>exact⟨n,by omega,rfl,λj d hj hd=>by
     by_cases e:j=n
     ·subst e;rw[Hx.o]at hd;injection hd with hd;exact hd.symm
     ·exact HZ.o j d ZB hd⟩
    case measure=>simp[intOf]
   ·have hd:((x:Int)==0)=false:=by rw[Zgb];omega
    have hsl:=ZE6 (P:=prog) underlying200 ZLS (A:=some ⟨b,off,none⟩) (n:=m) (c:=c) (n+1) ZB HA.o;go_wp2;go_ret;exact mS.o (.inr ⟨xs.take n,x,Zv Hx.o,by omega⟩)
def ZXq (v:Nat)(w:World)(e:Ending)(w':World):Prop:=∃A n c ds,e=.returned (.slice A n c)/\ds.length=n/\n<=c/\(∀a,A=some a->a.spot=none)/\Rd w' A (ZT .u64 ds)/\ZWu v ds/\ZM w w'
theorem ZSf(n)(h:Rd w A (ZT .u64 xs)):Rd w A (ZT .u64 (xs.take n)):=by
 intro ag;have ju:ZT .u64 xs≠[]:=λe=>ag (by rw[Jw,e,List.take_nil]);obtain⟨b,off,hA,hc⟩:=h ju;refine⟨b,off,hA,λj u hu=>hc j u ?_⟩;rw[Jw,ZfB]at hu
 split at hu
 ·exact hu
 ·cases hu
theorem ZP0 (v:Nat)(w:World)(hv:v / 4294967296<4294967296):Calls prog 84 #[.int .u64 v] w (ZXq v w):=by
 have da:IntKind.u64.wrap ((v:Int) / 4294967296)=(v:Int) / 4294967296:=by rw[Zef];omega
 have Hv:=ZA hv;clear hv;go_enter func84,ntmps84;go_wp2_with fail
 refine(ZP3 _ (some ⟨w.heap.size,0,none⟩) 2 2 [v % 4294967296,v / 4294967296] rfl ZB ZB (λa ha=>by injection ha with ha;subst ha;rfl) (by
  have:=ZFn w (ZT .u64 [v % 4294967296,v / 4294967296]) 52;simpa[ZT]using this)).mono ?_
 rintro e w' ⟨n,rfl,h1,h2,h3,rfl⟩;go_wp2_with fail;go_ret;refine⟨_,n,2,[v % 4294967296,v / 4294967296].take n,rfl,by simp at h1 ⊢;omega,h1,(λa ha=>by injection ha with ha;subst ha;rfl),ZSf n ?_,⟨by simp;omega,λd hd=>?_,?_⟩,(ZM.refl w).alloc _⟩
 ·have:=ZFn w (ZT .u64 [v % 4294967296,v / 4294967296]) 52;simpa[ZT]using this
 ·have:=ZfX hd;have h9:=Hv.o;simp at this;omega
 ·rw[h2];simp[ZBx];omega
theorem ZTU {ds:List Nat}(hd:∀d ∈ ds,d<4294967296)(hl:ds.length<=2)(k x)(hx:ds[k]?=some x):ZBx (ds.drop k)=x+4294967296*ZBx (ds.drop (k+1))/\ZBx (ds.drop (k+1))<4294967296/\x<4294967296:=by
 have hk:=(Ze5.1 hx);obtain⟨hk,he⟩:=hk;refine⟨by rw[List.drop_eq_getElem_cons hk,he];rfl,?_,hd x (ZfU hx)⟩;have h1:(ds.drop (k+1)).length<=1:=by simp;omega
 have h2:∀d ∈ ds.drop (k+1),d<4294967296:=λd h=>hd d (ZfV h)
 match hh:ds.drop (k+1),h1 with
 |[],_=>simp[ZBx]
 |[a],_=>
  have:=h2 a (by rw[hh];simp);simp[ZBx];omega
theorem ZP5 (w A n c v)(ds:List Nat)(hl:ds.length=n)(hr:Rd w A (ZT .u64 ds))(hd:ZWu v ds): Calls prog 126 #[.slice A n c] w λe w'=>e=.returned (.tuple #[.int .u64 v,.bool true])/\w=w':=by
 have lN:n<=2:=by rw[<-hl];exact hd.1
 obtain⟨HL,HR,HD⟩:=Z8 hl hr hd;clear hl hr hd;go_enter func126,ntmps126;go_wp2
 go_loop [4,5] (λx i=>∃(k:Nat) (j:Int),k<=n/\j=(k:Int) - 1/\i=.int .i64 j/\x=.int .u64 (ZBx (ds.drop k):Int)) (λ_ i=>(intOf i+1).toNat)
 case atStart=>exact⟨n,_,Zf6 _,rfl,rfl,by rw[Zer (by rw[HL.o];exact Zf6 _)];rfl⟩
 case round=>
  obtain⟨k,j,hk,hj,rfl,rfl⟩:=hrel;cases k with
  |zero=>
   obtain rfl:j= -1:=by omega
   clear hj;rw[List.drop_zero,HD.o.2.2];have df:(n:Int)<=2:=by omega
   go_wp2
   go_ret2
   exact⟨rfl,rfl⟩
  |succ k=>
   obtain rfl:j=(k:Int):=by omega
   clear hj;obtain⟨x,hx⟩:=Jy (xs:=ds) (j:=k) (by rw[HL.o];omega);obtain⟨b,off,hA,_,aq⟩:=HR.o.at_ hx;obtain⟨q1,q2,q3⟩:=ZTU HD.o.2.1 HD.o.1 k x hx;obtain⟨y,hy⟩:=ZX3 (ZBx (ds.drop (k+1)));have Q1:=ZA q1;rw[hy]at Q1 q2 ⊢;have HY:=ZA hy;subst hA;clear hx q1 hy;have qZ:k<n:=by omega
   go_wp2
   go_round
   case rel=>exact⟨k,_,by omega,rfl,rfl,ZN1 (by rw[Q1.o];omega)⟩
   case measure=>simp[intOf]
theorem ZP4 (w A n c v)(ds:List Nat)(hl:ds.length=n)(hr:Rd w A (ZT .u64 ds))(hd:ZWu v ds): Calls prog 83 #[.slice A n c] w λe w'=>e=.returned (.int .i64 (min (v:Int) 4611686018427387903))/\w=w':=by
 have C:=ZA (ZP5 w A n c v ds hl hr hd);clear hl hr hd;by_cases h:(v:Int)<=4611686018427387903
 ·rw[show min (v:Int) 4611686018427387903=(v:Int) by omega];go_enter func83,ntmps83;go_wp2_with fail;refine C.o.mono ?_;rintro e w' ⟨rfl,rfl⟩;go_wp2_with fail;go_ret;exact⟨rfl,rfl⟩
 ·rw[show min (v:Int) 4611686018427387903=4611686018427387903 by omega];go_enter func83,ntmps83;go_wp2_with fail;refine C.o.mono ?_;rintro e w' ⟨rfl,rfl⟩;go_wp2_with fail;go_ret;exact⟨rfl,rfl⟩
theorem ZNU (n w)(h2:n<=9223372036854775807): Calls prog 40 #[.int .i64 n] w λe w'=>e=.returned (.int .i64 (min (max n 0) 4611686018427387903))/\ZM w w':=by
 by_cases h0:n<0
 ·rw[show min (max n 0) 4611686018427387903=0 by omega];go_enter func40,ntmps40;go_wp2;go_ret;exact⟨rfl,ZM.refl w⟩
 ·obtain⟨k,rfl⟩:∃k:Nat,n=(k:Int):=⟨n.toNat,by omega⟩;rw[show max (k:Int) 0=(k:Int) by omega];go_enter func40,ntmps40;go_wp2_with fail;refine(ZP0 k w ZB).mono ?_;rintro e w1 ⟨A,m,c,ds,rfl,h1,_,_,h4,h5,h6⟩;go_wp2_with fail;refine(ZP4 w1 A m c k ds h1 h4 h5).mono ?_;rintro e w2 ⟨rfl,rfl⟩;go_wp2_with fail;go_ret;exact⟨rfl,h6⟩
def ZEG (xs:List Nat)(w:World)(e:Ending)(w':World):Prop:=∃B m d,e=.returned (.tuple #[.slice B m d,.int .i64 ((xs.length - (Zp xs).2.1.length:Nat):Int),.bool (Zp xs).2.2])/\PL w' w.heap.size B m d (Zp xs).1/\ZM w w'
theorem ZNc(hb:∀x ∈ xs,x<256):YG (xs.take 4)<4294967296:=by
 have h:=ZCQ (xs.take 4) (λx hx=>hb x (ZfX hx));refine ZgB h (Zf8 (ZgO ZB (List.length_take_le 4 xs)) (by decide))
theorem ZH2 (w A n c)(xs:List Nat)(hl:xs.length=n)(aI:n<=c)(hb:∀x ∈ xs,x<256)(hr:Rd w A (ZT .u8 xs))(hN:n<=5000000000000): Calls prog 65 #[.slice A n c] w (ZEG xs w):=by
 obtain⟨Hl,Hb,Hr⟩:=Z8 hl hb hr;clear hl hb hr;go_enter func65,ntmps65;go_wp2_with fail
 go_loopw [5,6] (λv5 v6 wr=>∃(k m d:Nat) (B:Option Addr) (cR:List (List Nat)),v5=.slice B m d/\v6=.int .i64 k/\k<=n/\m<=k/\PL wr w.heap.size B m d cR/\ZM w wr/\cR++(Zp (xs.drop k)).1=(Zp xs).1/\(Zp (xs.drop k)).2=(Zp xs).2) (λ_ v6 _=>n - (intOf v6).toNat)
 case atStart=>exact⟨0,0,0,none,[],rfl,rfl,ZgR _,Zf6 _,PL.nil _ _,ZM.refl w,rfl,rfl⟩
 case round=>
  obtain⟨k,m,d,B,cR,rfl,rfl,hk,uJ,hP,hx,dd,be⟩:=hrel;obtain⟨HP,HX,j6,iY⟩:=ZAU hP hx dd be;have sY:(xs.drop k).length=n - k:=by rw[ZfG,Hl.o]
  obtain⟨nk,hnk⟩:=ZX3 (n - k);have dp:IntKind.i64.wrap ((n:Int) - (k:Int))=(nk:Int):=by rw[Zee];omega
  have cK:(xs.drop k).length=nk:=sY.trans hnk;have Ci:=ZA cK;have ue:=ZA hnk;clear hP hx dd be sY;by_cases h4:nk<4
  ·have hh:Y9 (xs.drop k)=0:=ZJT ZB;have Fl:¬(4:Int)<=(nk:Int):=by omega
   have Fp:decide ((4:Int)<=(nk:Int))=false:=Zgf Fl
   have mS:ZD (ZEG xs w (.returned (.tuple #[.slice B m d,.int .i64 k,.bool false])) wr):=ZA (by
    have e1:=ZBP hh;have h1:=j6.o;have h2:=iY.o;rw[e1]at h1 h2;refine⟨B,m,d,?_,by rw[<-h1,Zek];exact HP.o,HX.o⟩;rw[<-h2,Hl.o]
    dsimp only
    rw[cK,show n - nk=k by have:=ue.o;omega])
   clear hh cK h4 hnk;go_wp2_with fail
   go_ret3
   exact mS.o
  ·have Fp:decide ((4:Int)<=(nk:Int))=true:=Zgg ZB;obtain⟨N,jV⟩:=ZX3 (YG ((xs.drop k).take 4));have uR:∀x ∈ xs.drop k,x<256:=λx hx=>Hb.o x (ZfV hx);have LA:N<4294967296:=by rw[<-jV];exact ZNc uR
   obtain⟨k4,lQ⟩:=ZX3 (k+4);have cQ:=ZA lQ;have kE:IntKind.i64.wrap ((k:Int)+4)=(k4:Int):=by rw[Zee];omega
   obtain⟨A1,aG,eB⟩:=ZEO (P:=prog) underlying32 JX (A:=A) (n:=n) (c:=c) (m:=4) (d:=c - k) k k4 rfl rfl ZB aI ZB ZB;have mg:=eB wr (ZT .u8 xs) (by rw[Xk];exact Hl.o) (Hr.o.ext HX.o);rw[<-Jx,<-Jw]at mg;have qj:=ZAh wr A1 4 (c - k) ((xs.drop k).take 4) (by rw[ZfL,cK];omega) ZB (λx hx=>uR x (ZfX hx)) mg;rw[jV]at qj;have vn:=ZA qj;have ud:=ZA jV;have Mj:=ZA uR;have KO:IntKind.i64.wrap (N:Int)=(N:Int):=by rw[Zee];omega
   have HH:=ZA (show Y9 (xs.drop k)=if N=0\/4096<N then 1 else if nk - 4<N then 0 else 2 by
    unfold Y9;rw[cK,Zgk h4,jV])
   have H4:=ZA h4;clear jV uR mg eB qj cK h4;by_cases eZ:N=0\/4096<N
   ·have mS:ZD (ZEG xs w (.returned (.tuple #[.slice B m d,.int .i64 k,.bool true])) wr):=ZA (by
     have hh:=HH.o;rw[Zgl eZ]at hh;have e1:=ZCl hh;have h1:=j6.o;have h2:=iY.o;rw[e1]at h1 h2;refine⟨B,m,d,?_,by rw[<-h1,Zek];exact HP.o,HX.o⟩;rw[<-h2,Hl.o]
     dsimp only
     rw[Ci.o,show n - nk=k by have:=ue.o;omega])
    rcases eZ with h0|h0
    ·have b1:decide ((N:Int)<1)=true:=Zgg ZB;clear h0 lQ hnk;go_wp2_with fail;refine vn.o.mono ?_;rintro e w3 ⟨rfl,rfl⟩;go_wp2_with fail
     go_ret3
     exact mS.o
    ·have b1:decide ((N:Int)<1)=false:=Zgf ZB;have b2:decide ((4096:Int)<(N:Int))=true:=Zgg ZB;clear h0 lQ hnk;go_wp2_with fail;refine vn.o.mono ?_;rintro e w3 ⟨rfl,rfl⟩;go_wp2_with fail
     go_ret3
     exact mS.o
   ·have LB:1<=N:=by omega
    have io:N<=4096:=by omega
    have b1:decide ((N:Int)<1)=false:=Zgf ZB;have b2:decide ((4096:Int)<(N:Int))=false:=Zgf ZB;obtain⟨n5,mt⟩:=ZX3 (nk - 4);have Am:IntKind.i64.wrap ((nk:Int) - 4)=(n5:Int):=by have:=H4.o;rw[Zee];omega
    have Cb:=ZA mt;by_cases my:nk - 4<N
    ·have b3:decide ((n5:Int)<(N:Int))=true:=Zgg ZB;have tK:decide (n5<N)=true:=Zgg ZB
     have mS:ZD (ZEG xs w (.returned (.tuple #[.slice B m d,.int .i64 k,.bool false])) wr):=ZA (by
      have hh:=HH.o;rw[Zgk eZ,Zgl my]at hh;have e1:=ZBP hh;have h1:=j6.o;have h2:=iY.o;rw[e1]at h1 h2;refine⟨B,m,d,?_,by rw[<-h1,Zek];exact HP.o,HX.o⟩;rw[<-h2,Hl.o]
      dsimp only
      rw[Ci.o,show n - nk=k by have:=ue.o;omega])
     clear my eZ mt lQ hnk;go_wp2_with fail;refine vn.o.mono ?_;rintro e w3 ⟨rfl,rfl⟩;go_wp2_with fail
     go_ret3
     exact mS.o
    ·have b3:decide ((n5:Int)<(N:Int))=false:=Zgf ZB;have tK:decide (n5<N)=false:=Zgf ZB;have Fk:=H4.o;have hh:Y9 (xs.drop k)=2:=by have h9:=HH.o;rwa [Zgk eZ,Zgk my]at h9
     obtain⟨kN,hkN⟩:=ZX3 (k4+N);obtain⟨fN,hfN⟩:=ZX3 (4+N);have KZ:IntKind.i64.wrap ((k4:Int)+(N:Int))=(kN:Int):=by rw[Zee];omega
     have KS:IntKind.i64.wrap ((4:Int)+(N:Int))=(fN:Int):=by rw[Zee];omega
     have KQ:IntKind.i64.wrap ((k:Int)+(fN:Int))=(kN:Int):=by rw[Zee];omega
     have Cf:=ZA (show N<=n5 by omega);have zp:=ZA hkN;have Ce:=ZA hfN;obtain⟨A2,dq,d9⟩:=ZEO (P:=prog) underlying32 JX (A:=A) (n:=n) (c:=c) (m:=N) (d:=c - k4) k4 kN rfl rfl ZB aI ZB ZB;have kJ:(xs.drop k4).take N=ZA1 (xs.drop k):=by unfold ZA1;rw[ud.o,Zep,lQ]
     have dL:JW (xs.drop k)=xs.drop kN:=by unfold JW;rw[ud.o,Zep,Zep];congr 1;omega
     have ed:(ZA1 (xs.drop k)).length=N:=by rw[(ZCA hh).2.1];exact ud.o
     have fx:=λu (x:ZM wr u)=>d9 u (ZT .u8 xs) (by rw[Xk];exact Hl.o) ((Hr.o.ext HX.o).ext x);rw[<-Jx,<-Jw,kJ]at fx;have TW:=ZA (ZCe A2 N (c - k4) (ZA1 (xs.drop k)) wr ed ZB (fx wr (ZM.refl wr)));obtain⟨Iv,l9,Id⟩:=Z8 hh ed dL;clear my eZ hh kJ dL ed fx d9 hkN hfN mt lQ hnk Fk;go_wp2_with fail;refine vn.o.mono ?_;rintro e w3 ⟨rfl,rfl⟩;go_wp2_with fail;refine TW.o.mono ?_;rintro e w4 ⟨A4,c4,rfl,ay,kC⟩;rw[l9.o]at ay ⊢;have fF:wr.grownBy w4 none:=⟨kC.os,kC.tape,kC.output,kC.size,λk hk _=>kC.block k hk⟩;obtain⟨vs,hPv⟩:=HP.o.open_ fF (λk hk=>by cases hk);have iI:=hPv.own;have pu:wr.heap.size<=w4.heap.size:=kC.size;have wD:w.heap.size<=wr.heap.size:=HX.o.size;obtain⟨iu,mO,za⟩:=Z8 ay hPv kC;clear ay hPv kC fF;go_wp2_with (first|(at_builtin;refine ZT2 _ rfl (.tmp 35) (.tmp 45) rfl w.heap.size rfl (iI.alloc _) rfl (m:=1) (news:=[.slice A4 N c4]) rfl (ZFn _ _ _) (λu hu=>by rw[Zfa.1 hu];rfl) ZB (by simp;omega) ?_;intro B5 vk w5 kK eR _)|fail)
     go_roundw
     case rel=>
      have e1:=ZAv Iv.o;have h1:=j6.o;have h2:=iY.o;rw[e1,Id.o]at h1 h2;have mj:PL w5 w.heap.size B5 (m+1) vk (cR++[ZA1 (xs.drop k)]):=mO.o.snoc (by rw[l9.o];exact iu.o) (by rw[l9.o];omega) wD pu (ZgY _ _ _) (by rw[l9.o];exact kK) eR;exact⟨kN,m+1,vk,B5,cR++[ZA1 (xs.drop k)],rfl,rfl,by have:=zp.o;have:=cQ.o;have:=ue.o;have:=Cb.o;have:=Cf.o;have:=H4.o;omega,by have:=zp.o;have:=cQ.o;omega,mj,((HX.o.trans za.o).alloc _).grown eR (Yw iI),by rw[<-h1];simp,h2⟩
     case measure=>simp[intOf];have:=zp.o;have:=cQ.o;have:=ue.o;have:=Cb.o;have:=Cf.o;have:=H4.o;omega
theorem ZNO (w:World)(A0 n c0 g t)(cs:Option Addr->Nat->Array Value)(ys xs:List Nat)(hl:ys.length=n)(hn:n<=4096)(aI:n<=c0)(hr:Rd w A0 (ZT .u8 ys))(hg:g<w.heap.size)(S)(aL:S<=w.heap.size)(li:ys≠[]->∀a,A0=some a->a.block<S)(j8:∀W r,YU W r S ys->w.heap.size<=r->W.heap[g]?=w.heap[g]?->w.heap.size<=W.heap.size->Calls prog 113 #[.pointer (some ⟨r,0,none⟩),.pointer (some ⟨g,0,none⟩)] W (ByR t cs xs [] r S g W)): Calls prog 112 #[.slice A0 n c0,.func (.func 113) #[] #[.pointer (some ⟨g,0,none⟩)]] w λe w'=>∃A c,e=.returned (.int .i64 0)/\w.grownBy w' (some g)/\w'.heap[g]?=some (.cells (cs A c) t (0,0))/\w'.ownsRow w.heap.size 5 1 (.slice A xs.length c) xs.length (ZT .u8 xs):=by
 obtain⟨V3,V4⟩:=QA;exact QH
theorem ZDw (w:World)(r S v rest)(hv:v<=4611686018427387903)(hb:∀x ∈ rest,x<256)(h:YU w r S (Zm v 8++rest)): Calls prog 116 #[.pointer (some ⟨r,0,none⟩)] w λe w'=>e=.returned (.int .i64 v)/\YU w' r S rest/\w.grownBy w' (some r):=by
 have qO:(Zm v 8++rest).take 8=Zm v 8:=Zfn (Z4 v 8);have uP:(Zm v 8++rest).drop 8=rest:=Zeq (Z4 v 8);have uI:YG (Zm v 8)=v:=by rw[Jm];exact ZgF (ZgA hv (by decide))
 refine(ZDP w r S _ (λx hx=>?_) h).mono ?_
 ·rcases ZfN.1 hx with hx|hx
  ·exact JM _ _ x hx
  ·exact hb x hx
 ·rintro e w' ⟨hg,_,hh⟩;rw[qO,uP,uI]at hh;rcases hh with⟨_,_,he,hS⟩|⟨cd,_⟩
  ·exact⟨he,hS,hg⟩
  ·exact absurd ⟨by rw[ZfE,Z4];omega,hv⟩ cd
theorem ZIA{p:Addr}(h:w.cell? p=some v):w.drew.cell? p=some v:=h
theorem ZGv (w:World)(g a b c d x y):w.grownBy ((((((w.setCell ⟨g,0,none⟩ a).setCell ⟨g,1,none⟩ b).setCell ⟨g,2,none⟩ c).setCell ⟨g,3,none⟩ d).setCell ⟨g,4,none⟩ x).setCell ⟨g,5,none⟩ y) (some g):=ZU (ZU (ZU (ZU (ZU (Ze w g 0 a) 1 b) 2 c) 3 d) 4 x) 5 y
theorem ZPP{p:Addr}{a b c d x y:Value}(h:w.cell? p=some v)(ag:p.block≠g):((((((w.setCell ⟨g,0,none⟩ a).setCell ⟨g,1,none⟩ b).setCell ⟨g,2,none⟩ c).setCell ⟨g,3,none⟩ d).setCell ⟨g,4,none⟩ x).setCell ⟨g,5,none⟩ y).cell? p=some v:=by
 have h1:=(ZGv w g a b c d x y).block p.block (ZgT w p h) (λe=>ag (by injection e));exact(ZgV h1).trans h
theorem ZVu {w:World}{g:Nat}{a0 b0 c0 d0 x0 y0:Value}{t:TypeId}(h:w.heap[g]?=some (.cells #[a0,b0,c0,d0,x0,y0] t (0,0)))(a b c d x y:Value):((((((w.setCell ⟨g,0,none⟩ a).setCell ⟨g,1,none⟩ b).setCell ⟨g,2,none⟩ c).setCell ⟨g,3,none⟩ d).setCell ⟨g,4,none⟩ x).setCell ⟨g,5,none⟩ y).heap[g]?=some (.cells #[a,b,c,d,x,y] t (0,0)):=ZR (ZR (ZR (ZR (ZR (ZR h 0 a) 1 b) 2 c) 3 d) 4 x) 5 y
abbrev ZSZ:Array Value:=#[.int .i64 0,.bool false,.int .i64 0,.int .i64 0,.int .i64 0,.int .i64 0]
theorem ZXE (w:World)(r S g e l t s n gb)(LZ:S<=w.heap.size)(he:e<=16)(hl:l<=4611686018427387903)(ht:t<=4611686018427387903)(hs:s<=4611686018427387903)(hn:n<=4611686018427387903)(rest)(wN:∀x ∈ rest,x<256)(h:YU w r S (ZIc e gb [l,t,s,n]++rest))(hg:S<=g)(FQ:g<w.heap.size)(lR:g≠r)(hc:w.heap[g]?=some (.cells ZSZ 39 (0,0))): Calls prog 113 #[.pointer (some ⟨r,0,none⟩),.pointer (some ⟨g,0,none⟩)] w (ByR 39 (λ_ _=>#[.int .i64 e,.bool gb,.int .i64 l,.int .i64 t,.int .i64 s,.int .i64 n]) [] rest r S g w):=by
 have e1:ZIc e gb [l,t,s,n]++rest=e::ZER gb::(Zm l 8++(Zm t 8++(Zm s 8++(Zm n 8++rest)))):=by simp[ZIc,ZCc]
 rw[e1]at h;have H:=ZA h;have Hc:=ZA hc;obtain⟨x1,aK,DD⟩:∃x1:Nat,x1=ZER gb/\x1<=1:=⟨_,rfl,by unfold ZER;split<;>omega⟩;rw[<-aK]at H;have xR:((x1:Int)==1)=gb:=by rw[aK];cases gb<;>rfl
 have GJ:=ZA xR;clear h hc e1 aK xR;have b4:∀x ∈ rest,x<256:=wN;have b3:∀x ∈ Zm n 8++rest,x<256:=λx hx=>by
  rcases ZfN.1 hx with hx|hx
  ·exact JM _ _ x hx
  ·exact b4 x hx
 have b2:∀x ∈ Zm s 8++(Zm n 8++rest),x<256:=λx hx=>by
  rcases ZfN.1 hx with hx|hx
  ·exact JM _ _ x hx
  ·exact b3 x hx
 have b1:∀x ∈ Zm t 8++(Zm s 8++(Zm n 8++rest)),x<256:=λx hx=>by
  rcases ZfN.1 hx with hx|hx
  ·exact JM _ _ x hx
  ·exact b2 x hx
 obtain⟨B1,B2,B3,B4⟩:=ZAU b1 b2 b3 b4;clear b1 b2 b3 b4;go_enter func113,ntmps113;go_wp2_with fail;refine(YB _ r S 2 _ H.o ZXz).mono ?_;rintro e' w2 ⟨A2,c2,rfl,dA,cG,hS2,aA,aS,aR⟩;obtain⟨b2,off2,rfl,bJ⟩:=cG (by simp[ZT]);have h0:w2.cell? ⟨b2,off2,none⟩=some (.int .u8 e):=bJ 0 _ rfl;have h1:w2.cell? ⟨b2,off2+1,none⟩=some (.int .u8 x1):=bJ 1 _ rfl;obtain⟨bS,dh⟩:=aR ZXz _ rfl;have bS:b2≠r:=bS;have mC:b2≠g:=by have:b2<S:=dh;omega
 have fO:=ZA (show YU w2 r S (Zm l 8++(Zm t 8++(Zm s 8++(Zm n 8++rest))))from hS2);have j7:=ZA aA;have K2:=ZA (Zl Hc.o aA lR);have hw:IntKind.i64.wrap (e:Int)=(e:Int):=by rw[Zee];omega
 have eM:decide ((e:Int)<=16)=true:=by simp;omega
 have eT:decide ((x1:Int)<=1)=true:=by simp;omega
 clear bJ cG hS2 aA aR H Hc;go_wp2_with fail;refine(ZAC _ _).mono ?_;rintro e' w' ⟨rfl,rfl⟩;have xR:=GJ.o;have far:∀(a b:World) (o:Nat) (v:Value),a.grownBy b (some r)->a.cell? ⟨b2,o,none⟩=some v->b.cell? ⟨b2,o,none⟩=some v:=λa b o v hG hv=>(hG.cell_far ⟨b2,o,none⟩ (ZgT a _ hv) (λq=>bS (by injection q))).trans hv;have oB:=ZA far;clear far;have C1:=ZA (ZDw w2.drew r S l _ hl B1.o fO.o);have Bp:w2.drew.cell? ⟨b2,off2,none⟩=some (.int .u8 e):=h0;have Bo:w2.drew.cell? ⟨b2,off2+1,none⟩=some (.int .u8 x1):=h1;have Cm:=ZA Bp;have Ck:=ZA Bo;clear Bp Bo;go_upto_region 2 with fail
 go_region_held3 (λw'=>w'.cell? ⟨b2,off2,none⟩=some (.int .u8 e)/\w'.cell? ⟨b2,off2+1,none⟩=some (.int .u8 x1)) (with_reducible (first|exact⟨Cm.o,Ck.o⟩|exact⟨a0,a1⟩|exact⟨c0,c1⟩|exact⟨d0,d1⟩|exact⟨f0,f1⟩|exact⟨ZPP f0 mC,ZPP f1 mC⟩|exact⟨ZIA (ZPP f0 mC),ZIA (ZPP f1 mC)⟩))
  (first
   |(go_at_call 116;(with_reducible refine C1.o.mono ?_);rintro e1 v1 ⟨rfl,aG,bE⟩;have a0:=oB.o _ _ _ _ bE Cm.o;have a1:=oB.o _ _ _ _ bE Ck.o;have zd:=ZA aG;have Iz:=ZA bE;clear aG bE)
   |(go_at_call 116;(with_reducible refine(ZDw v1 r S t _ ht B2.o zd.o).mono ?_);rintro e2 v2 ⟨rfl,dq,aA⟩;have c0:=oB.o _ _ _ _ aA a0;have c1:=oB.o _ _ _ _ aA a1;have zc:=ZA dq;have zt:=ZA aA;clear dq aA)
   |(go_at_call 116;(with_reducible refine(ZDw v2 r S s _ hs B3.o zc.o).mono ?_);rintro e3 v3 ⟨rfl,gL,dR⟩;have d0:=oB.o _ _ _ _ dR c0;have d1:=oB.o _ _ _ _ dR c1;have jZ:=ZA gL;have gG:=ZA dR;clear gL dR)
   |(go_at_call 116;(with_reducible refine(ZDw v3 r S n _ hn B4.o jZ.o).mono ?_);rintro e4 v4 ⟨rfl,ss,fF⟩;have f0:=oB.o _ _ _ _ fF d0;have f1:=oB.o _ _ _ _ fF d1;have Ia:=ZA ss;have HG4:=ZA fF;have hG:=World.grown_trans (World.grown_trans (World.grown_trans (XC Iz.o) zt.o) gG.o) fF;have Iw:=ZA hG;have KC:=ZA (Zl K2.o hG lR);have k0:=ZE KC.out 0;have k1:=ZE KC.out 1;have k2:=ZE KC.out 2;have k3:=ZE KC.out 3;have k4:=ZE KC.out 4;have k5:=ZE KC.out 5;have m0:=ZG KC.out 0;have m1:=ZG KC.out 1;have m2:=ZG KC.out 2;have m3:=ZG KC.out 3;have m4:=ZG KC.out 4;have m5:=ZG KC.out 5;clear ss fF hG))
 all_goals
  go_wp2_with fail
  go_end0
  have hz:v4.ownsRow w.heap.size 5 1 (.slice none 0 0) 0 (ZT .u8 []):=ZgZ _ _ _ _;exact⟨none,0,v4,rfl,World.grown_trans j7.o Iw.o,ZGv _ _ _ _ _ _ _ _,ZVu KC.out _ _ _ _ _ _,ZgZ _ _ _ _,Ia.o.grown (ZGv _ _ _ _ _ _ _ _) (λk hk=>by injection hk with hk;omega)⟩
theorem ZSX {fn:Func}(h:fn.results=#[.cell 2 39,.tmp 3]){tmps:Array Value}{a b c d e f:Value}{fr:Nat × Nat}(hp:tmps.getD 2 undef=.pointer (some ⟨g,0,none⟩))(hg:w.heap[g]?=some (.cells #[a,b,c,d,e,f] t fr)): (results fn tmps).run prog w=.ok (.tuple #[.agg #[a,b,c,d,e,f],tmps.getD 3 undef]) w:=Yy h tmps w g t #[a,b,c,d,e,f] fr _ hp hg underlying39 ZX0 ZC
theorem ZTT{w2:World}(h:ZM w w2)(hg:w.heap.size<=g)(a b c d x y):ZM w ((((((w2.setCell ⟨g,0,none⟩ a).setCell ⟨g,1,none⟩ b).setCell ⟨g,2,none⟩ c).setCell ⟨g,3,none⟩ d).setCell ⟨g,4,none⟩ x).setCell ⟨g,5,none⟩ y):=Yr h (ZGv w2 g a b c d x y) hg
theorem ZKE (w:World)(A:Option Addr)(n c:Nat)(ys:List Nat)(e l t s m:Nat)(gb:Bool)(hr:Rd w A (ZT .u8 ys))(hC:∀W g,Rd W A (ZT .u8 ys)->w.heap.size<=W.heap.size->w.heap.size<=g->g<W.heap.size->W.heap[g]?=some (.cells ZSZ 39 (0,0))->Calls prog 112 #[.slice A n c,.func (.func 113) #[] #[.pointer (some ⟨g,0,none⟩)]] W λx w'=>x=.returned (.int .i64 0)/\W.grownBy w' (some g)/\w'.heap[g]?=some (.cells #[.int .i64 e,.bool gb,.int .i64 l,.int .i64 t,.int .i64 s,.int .i64 m] 39 (0,0))): Calls prog 66 #[.slice A n c] w (Xj (.tuple #[ZOt (e:Int) gb (l:Int) (t:Int) (s:Int) (m:Int),.int .i64 0]) w):=by
 have bU:∀(fn:Fn) (first cap:Array Value) (w:World),(Instr.makeFunc fn first cap).run prog w=.ok (.func fn first cap) w:=λ_ _ _ _=>rfl;have HC:=ZA hC;have Hr:=ZA hr;clear hC hr;go_enter func66,ntmps66;go_wp2_with fail;refine(HC.o _ (w.heap.size+1) ((Hr.o.alloc _).alloc _) (by simp;omega) ZB ZXz (Zi _ _ ZXz)).mono ?_;rintro x w2 ⟨rfl,hG,hc⟩;have K:=ZA (Zl (ZQ (ZV w (.cells ZSZ 39 (0,0))) _) hG ZB);have hx:=Yr (((ZM.refl w).alloc _).alloc _) hG ZB;have KC:=ZA hc;clear hG hc;have k0:=ZE K.o 0;have k1:=ZE K.o 1;have k2:=ZE K.o 2;have k3:=ZE K.o 3;have k4:=ZE K.o 4;have k5:=ZE K.o 5;have f0:=ZG K.o 0;have f1:=ZG K.o 1;have f2:=ZG K.o 2;have f3:=ZG K.o 3;have f4:=ZG K.o 4;have f5:=ZG K.o 5;have c0:=ZE KC.out 0;have c1:=ZE KC.out 1;have c2:=ZE KC.out 2;have c3:=ZE KC.out 3;have c4:=ZE KC.out 4;have c5:=ZE KC.out 5;go_wp2_with fail;refine Zgd (ZSX rfl rfl (ZVu K.o _ _ _ _ _ _)) rfl ?_;exact⟨rfl,ZTT hx (Zf6 _) _ _ _ _ _ _⟩
theorem ZNQ (w A n c e l t s m gb)(hn:n=34)(aI:n<=c)(he:e<=16)(hl:l<=4611686018427387903)(ht:t<=4611686018427387903)(hs:s<=4611686018427387903)(hm:m<=4611686018427387903)(hr:Rd w A (ZT .u8 (ZIc e gb [l,t,s,m]))): Calls prog 66 #[.slice A n c] w (Xj (.tuple #[ZOt (e:Int) gb (l:Int) (t:Int) (s:Int) (m:Int),.int .i64 0]) w):=by
 have ah:(ZIc e gb [l,t,s,m]).length=n:=by rw[hn];exact ZDT e gb [l,t,s,m]
 refine ZKE w A n c _ e l t s m gb hr λW g hR aG dq gL hc=>?_;refine(ZNO W A n c g 39 (λ_ _=>#[.int .i64 e,.bool gb,.int .i64 l,.int .i64 t,.int .i64 s,.int .i64 m]) _ [] ah ZB aI hR gL w.heap.size aG (ZKH hr) λW' r hI iG fW px=>ZXE W' r w.heap.size g e l t s m gb ZB he hl ht hs hm [] ZXz (by rw[Zek];exact hI) dq ZB ZB (fW.trans hc)).mono ?_;rintro x w' ⟨_,_,he,hg,cF,_⟩;exact⟨he,hg,cF⟩
def ZOs (op p:Nat)(xs:List Nat)(N:Nat)(w:World)(e:Ending)(w':World):Prop:=∃A c,e=.returned (.tuple #[Yp (op:Int) (p:Int) A xs.length c (N:Int),.bool true])/\w'.ownsRow w.heap.size 5 1 (.slice A xs.length c) xs.length (ZT .u8 xs)/\ZM w w'
def ZKs (w:World)(e:Ending)(w':World):Prop:=∃(o p:Int) (A:Option Addr) (n c:Nat) (N:Int),e=.returned (.tuple #[Yp o p A n c N,.bool false])/\ZM w w'
theorem ZJ8{p N c:Nat}{w':World}(hk:xs.length=n)(ho:w'.ownsRow w.heap.size 5 1 (.slice A n c) n (ZT .u8 xs))(hx:ZM w w'): ZOs op p xs N w (.returned (.tuple #[Yp (op:Int) (p:Int) A n c (N:Int),.bool true])) w':=by
 subst hk;exact⟨A,c,rfl,ho,hx⟩
theorem ZQ3 (w A c):Calls prog 62 #[.slice A 0 c] w (ZKs w):=by
 go_enter func62,ntmps62;go_wp2_with fail;refine Zgd (Ye rfl rfl (Zgi w _)) rfl ?_;exact⟨_,_,_,_,_,_,rfl,(ZM.refl w).alloc _⟩
theorem ZGM (w:World)(b off n c o:Nat)(hn:1<=n)(c0:w.cell? ⟨b,off,none⟩=some (.int .u8 o))(ho:o=0\/5<=o)(x5 x6:Bool)(e5:((o:Int)==5)=x5)(e6:((o:Int)==6)=x6): Calls prog 62 #[.slice (some ⟨b,off,none⟩) n c] w λe w'=>e=.returned (.tuple #[Yp (o:Int) 0 none 0 0 0,.bool (x5||x6)])/\ZM w w':=by
 have q1:((o:Int)==1)=false:=by rw[Zgb];omega
 have q2:((o:Int)==2)=false:=by rw[Zgb];omega
 have q3:((o:Int)==3)=false:=by rw[Zgb];omega
 have q4:((o:Int)==4)=false:=by rw[Zgb];omega
 have eL:((n:Int)==0)=false:=by rw[Zgb];omega
 have aH:b<w.heap.size:=ZgT w _ c0;have d0:=ZI c0;have gW:=λo o'=>ZI (d0 o) o';clear c0 ho;go_enter func62,ntmps62;go_upto_region 21 with fail;obtain⟨W,hW⟩:=ZX3 ((w.alloc (.cells #[.int .u8 0,.int .i64 0,.slice none 0 0,.int .i64 0] 34)).alloc (.cells #[.int .u8 o,.int .i64 0,.slice none 0 0,.int .i64 0] 34));have s0:W.cell? ⟨b,off,none⟩=some (.int .u8 o):=by rw[<-hW];exact gW _ _
 have K2:ZD (W.heap[w.heap.size]?=some (.cells #[.int .u8 0,.int .i64 0,.slice none 0 0,.int .i64 0] 34 (0,0))):=by rw[<-hW];exact ZQ (ZV w _) _
 have K4:ZD (W.heap[w.heap.size+1]?=some (.cells #[.int .u8 o,.int .i64 0,.slice none 0 0,.int .i64 0] 34 (0,0))):=by rw[<-hW];exact Zi _ _ ZXz
 have hx:ZM w W:=by rw[<-hW];exact((ZM.refl w).alloc _).alloc _
 rw[hW];clear hW d0 gW;have la:b≠w.heap.size:=by omega
 have ag:w.heap.size+1≠w.heap.size:=by omega
 have k0:=ZE K2.o 0;have k1:=ZE K2.o 1;have k2:=ZE K2.o 2;have k3:=ZE K2.o 3;have f0:=ZG K2.o 0;have f1:=ZG K2.o 1;have f2:=ZG K2.o 2;have f3:=ZG K2.o 3;have m0:=ZE K4.o 0;have m1:=ZE K4.o 1;have m2:=ZE K4.o 2;have m3:=ZE K4.o 3;have hq:0<n:=by omega
 cases x5
 all_goals
  go_region
  all_goals
   go_wp2_with fail;refine Zgd (Ye rfl rfl (ZBA K2.o _ _ _ _)) rfl ?_
   first
   |exact⟨rfl,Xn hx (Zf6 _) _ _ _ _⟩
   |exact⟨rfl,(Xn hx (Zf6 _) _ _ _ _).drew⟩
   |exact⟨rfl,Xn hx.drew (Zf6 _) _ _ _ _⟩
theorem Qb {p:Prop}(h:p:=by
 have eL:((n:Int)==0)=false:=by rw[Zgb];omega
 have d0:=ZI c0;have gW:=λo o'=>ZI (d0 o) o';clear c0;rcases h with h|⟨k,hk,c2,h3,ak⟩
 ·go_enter func62,ntmps62;go_wp2_with fail;refine Zgd (Ye rfl rfl (ZQ (ZV w _) _)) rfl ?_;exact⟨_,_,_,_,_,_,rfl,((ZM.refl w).alloc _).alloc _⟩
 ·have d2:=ZI c2;have d22:=λo o'=>ZI (d2 o) o';clear c2;go_enter func62,ntmps62;go_wp2_with fail;refine Zgd (Ye rfl rfl (ZQ (ZV w _) _)) rfl ?_;exact⟨_,_,_,_,_,_,rfl,((ZM.refl w).alloc _).alloc _⟩):p:=h
theorem ZOB (w:World)(b off n c)(hn:1<=n)(c0:w.cell? ⟨b,off,none⟩=some (.int .u8 1))(h:n<3\/∃k:Nat,k<256/\w.cell? ⟨b,off+2,none⟩=some (.int .u8 k)/\3<=n/\n<3+k): Calls prog 62 #[.slice (some ⟨b,off,none⟩) n c] w (ZKs w):=Qb
theorem ZOA (w:World)(b off n c)(hn:1<=n)(c0:w.cell? ⟨b,off,none⟩=some (.int .u8 2))(h:n<3\/∃k:Nat,k<256/\w.cell? ⟨b,off+2,none⟩=some (.int .u8 k)/\3<=n/\n<3+k): Calls prog 62 #[.slice (some ⟨b,off,none⟩) n c] w (ZKs w):=Qb
theorem ZN9 (w:World)(b off n c)(hn:1<=n)(c0:w.cell? ⟨b,off,none⟩=some (.int .u8 4))(h:n<3\/∃k:Nat,k<256/\w.cell? ⟨b,off+2,none⟩=some (.int .u8 k)/\3<=n/\n<3+k): Calls prog 62 #[.slice (some ⟨b,off,none⟩) n c] w (ZKs w):=Qb
theorem ZYn {p:Prop}(h:p:=by
 obtain⟨b',off',hA,hc⟩:=hr (by simp[ZT]);injection hA with hA;injection hA with e1 e2 _;subst e1 e2;exact hc 0 _ rfl):p:=h
theorem QB {p:Prop}(h:p:=by
 first
 |obtain -:=V1;have c0:w.cell? ⟨b,off,none⟩=some (.int .u8 4):=by
   exact ZYn
 |obtain -:=V2;have c0:w.cell? ⟨b,off,none⟩=some (.int .u8 2):=by
   exact ZYn
 |have c0:w.cell? ⟨b,off,none⟩=some (.int .u8 1):=by
   exact ZYn
 have c1:w.cell? ⟨b,off+1,none⟩=some (.int .u8 p):=by
  obtain⟨b',off',hA,hc⟩:=hr (by simp[ZT]);injection hA with hA;injection hA with e1 e2 _;subst e1 e2;exact hc 1 _ rfl
 have c2:w.cell? ⟨b,off+2,none⟩=some (.int .u8 k):=by
  obtain⟨b',off',hA,hc⟩:=hr (by simp[ZT]);injection hA with hA;injection hA with e1 e2 _;subst e1 e2;exact hc 2 _ rfl
 have aH:b<w.heap.size:=ZgT w _ c0;have eL:((n:Int)==0)=false:=by rw[Zgb];omega
 have sI:3+k<=n:=by omega
 have pL:3<=n:=by omega
 have r2:=ZBD (zs:=us) hr (3+k) us.length (by rw[show 3+k=k+3 by omega];show((xs++us).drop k).take us.length=us;rw[Zeq hk,Zfo]);obtain⟨m,Hm⟩:=ZX2 (us.length);have jc:n=3+k+m:=by rw[hn,Hm.o]
 have iW:=ZA jc;obtain⟨Hk,R2,Hb⟩:=Z8 hk r2 hb;have d0:=λo o'=>ZI (ZI c0 o) o';have gW:=ZI c0;have d2:=λo o'=>ZI (ZI c2 o) o';have C1:=ZA c1;have C0:=ZA c0;have jK:IntKind.i64.wrap (p:Int)=(p:Int):=by rw[Zee];omega
 obtain⟨A3,hslk,eP⟩:=ZA8 underlying32 JX (A:=some ⟨b,off,none⟩) (n:=n) (c:=c) (m:=k) (d:=c - 3) 3 (3+k) (ki:=3) (hi:=3+(k:Int)) rfl ZB ZB aI ZB ZB;have r1:Rd w A3 (ZT .u8 xs):=by
  have:=eP w _ (by rw[Xk];simp[hk];omega) hr;rw[<-Jx,<-Jw]at this;first|(obtain -:=V3;have e:(List.take k (List.drop 3 (4::p::k::(xs++us))))=xs:=by show(xs++us).take k=xs;exact Zfn hk)|(obtain -:=V4;have e:(List.take k (List.drop 3 (2::p::k::(xs++us))))=xs:=by show(xs++us).take k=xs;exact Zfn hk)|have e:(List.take k (List.drop 3 (1::p::k::(xs++us))))=xs:=by show(xs++us).take k=xs;exact Zfn hk
  rwa [e]at this
 have de:1<n:=by omega
 have pM:(1:Int)<(n:Int):=by omega
 have R1:=ZA r1;clear c0 c1 c2 hr r1 r2 hb hk hn jc eP;first|(obtain -:=V5;have H8:=ZA h8;clear h8)|(obtain -:=V6;have qr:=ZA cd;clear cd)|skip
 go_enter func62,ntmps62;go_upto_region 15 with fail;first|(obtain -:=V7;obtain⟨W,hW⟩:=ZX3 ((w.alloc (.cells #[.int .u8 0,.int .i64 0,.slice none 0 0,.int .i64 0] 34)).alloc (.cells #[.int .u8 4,.int .i64 0,.slice none 0 0,.int .i64 0] 34)))|(obtain -:=V8;obtain⟨W,hW⟩:=ZX3 ((w.alloc (.cells #[.int .u8 0,.int .i64 0,.slice none 0 0,.int .i64 0] 34)).alloc (.cells #[.int .u8 2,.int .i64 0,.slice none 0 0,.int .i64 0] 34)))|obtain⟨W,hW⟩:=ZX3 ((w.alloc (.cells #[.int .u8 0,.int .i64 0,.slice none 0 0,.int .i64 0] 34)).alloc (.cells #[.int .u8 1,.int .i64 0,.slice none 0 0,.int .i64 0] 34))
 have ge:ZM w W:=by rw[<-hW];exact((ZM.refl w).alloc _).alloc _
 have K2:ZD (W.heap[w.heap.size]?=some (.cells #[.int .u8 0,.int .i64 0,.slice none 0 0,.int .i64 0] 34 (0,0))):=by rw[<-hW];exact ZQ (ZV w _) _
 first|(obtain -:=V9;have K4:ZD (W.heap[w.heap.size+1]?=some (.cells #[.int .u8 4,.int .i64 0,.slice none 0 0,.int .i64 0] 34 (0,0))):=by rw[<-hW];exact Zi _ _ ZXz)|(obtain -:=V10;have K4:ZD (W.heap[w.heap.size+1]?=some (.cells #[.int .u8 2,.int .i64 0,.slice none 0 0,.int .i64 0] 34 (0,0))):=by rw[<-hW];exact Zi _ _ ZXz)|have K4:ZD (W.heap[w.heap.size+1]?=some (.cells #[.int .u8 1,.int .i64 0,.slice none 0 0,.int .i64 0] 34 (0,0))):=by rw[<-hW];exact Zi _ _ ZXz
 have mm:w.heap.size+2=W.heap.size:=by rw[<-hW];simp
 rw[hW];clear hW d0 d2 gW;have s1:=ZF ge C1.o;have T:=ZA (ZCe A3 k (c - 3) xs W.drew Hk.o ZB (R1.o.ext ge.drew));have bv:b≠w.heap.size+1:=by omega
 first|(obtain -:=V11;go_cut [4,7] (λv4 v7 wd=>v4=.pointer (some ⟨w.heap.size+1,0,none⟩)/\v7=.int .i64 (3+(k:Int))/\∃A4 c4,wd.heap[w.heap.size+1]?=some (.cells #[.int .u8 4,.int .i64 p,.slice A4 k c4,.int .i64 0] 34 (0,0))/\wd.ownsRow (w.heap.size+2) 5 1 (.slice A4 k c4) k (ZT .u8 xs)/\ZM w wd/\wd.heap[w.heap.size]?=some (.cells #[.int .u8 0,.int .i64 0,.slice none 0 0,.int .i64 0] 34 (0,0))))|(obtain -:=V12;go_cut [4,7] (λv4 v7 wd=>v4=.pointer (some ⟨w.heap.size+1,0,none⟩)/\v7=.int .i64 (3+(k:Int))/\∃A4 c4,wd.heap[w.heap.size+1]?=some (.cells #[.int .u8 2,.int .i64 p,.slice A4 k c4,.int .i64 0] 34 (0,0))/\wd.ownsRow (w.heap.size+2) 5 1 (.slice A4 k c4) k (ZT .u8 xs)/\ZM w wd/\wd.heap[w.heap.size]?=some (.cells #[.int .u8 0,.int .i64 0,.slice none 0 0,.int .i64 0] 34 (0,0))))|go_cut [4,7] (λv4 v7 wd=>v4=.pointer (some ⟨w.heap.size+1,0,none⟩)/\v7=.int .i64 (3+(k:Int))/\∃A4 c4,wd.heap[w.heap.size+1]?=some (.cells #[.int .u8 1,.int .i64 p,.slice A4 k c4,.int .i64 0] 34 (0,0))/\wd.ownsRow (w.heap.size+2) 5 1 (.slice A4 k c4) k (ZT .u8 xs)/\ZM w wd/\wd.heap[w.heap.size]?=some (.cells #[.int .u8 0,.int .i64 0,.slice none 0 0,.int .i64 0] 34 (0,0)))
 case first=>
  go_region_held3 (λw'=>w'.cell? ⟨b,off+1,none⟩=some (.int .u8 p)) ((first|assumption|exact JR (by assumption) bv|exact Zd (by assumption) bv)) ((go_at_call 45;refine T.o.mono ?_;rintro e w4 ⟨A4,c4,rfl,ay,ba⟩;rw[Hk.o]at ay ⊢;have t1:=ZF ba (ZJ s1);have bH:=ZA (ZK (show W.drew.heap[w.heap.size+1]?=_ from K4.o) ba);have u1:=ZE bH.o 1;have u2:=ZE bH.o 2;have f1:=ZG bH.o 1;have f2:=ZG bH.o 2;have cE:=ZA ay;have eu:=ZA ba;clear ay ba));all_goals
   go_wp2_with fail
   go_meet
   have hG:=ZU (Ze w4 (w.heap.size+1) 1 (.int .i64 p)) 2 (.slice A4 k c4);have cB:w4.ownsRow (w.heap.size+2) 5 1 (.slice A4 k c4) k (ZT .u8 xs):=Zj cE.o (by show w.heap.size+2<=W.heap.size;omega);exact⟨rfl,rfl,A4,c4,ZR (ZR bH.o 1 _) 2 _,cB.kept hG (ZAH cB ZB),Yr (ge.drew.trans eu.o) hG ZB,Yf (ZK (show W.drew.heap[w.heap.size]?=_ from K2.o) eu.o) hG ZB⟩
 case rest=>
  obtain⟨T1,T2⟩:=QA;exact ZYe):p:=h
theorem ZQ7 (w b off n c p k)(xs us:List Nat)(hk:xs.length=k)(nK:k<256)(hp:p<256)(hn:n=3+k+us.length)(aI:n<=c)(eE:n<=4096)(hb:∀x ∈ us,x<256)(hr:Rd w (some ⟨b,off,none⟩) (ZT .u8 (2::p::k::(xs++us)))): Calls prog 62 #[.slice (some ⟨b,off,none⟩) n c] w (ZOs 2 p xs 0 w):=by
 obtain⟨V2,V4,V8,V10,V12,V13⟩:=QA;exact QB
theorem ZQ4 (w b off n c p k)(xs us:List Nat)(hk:xs.length=k)(nK:k<256)(hp:p<256)(hn:n=3+k+us.length)(aI:n<=c)(eE:n<=4096)(hb:∀x ∈ us,x<256)(hr:Rd w (some ⟨b,off,none⟩) (ZT .u8 (4::p::k::(xs++us)))): Calls prog 62 #[.slice (some ⟨b,off,none⟩) n c] w (ZOs 4 p xs 0 w):=by
 obtain⟨V1,V3,V7,V9,V11⟩:=QA;exact QB
theorem ZQ9 (w b off n c p k)(xs us:List Nat)(hk:xs.length=k)(nK:k<256)(hp:p<256)(hn:n=3+k+us.length)(aI:n<=c)(eE:n<=4096)(hb:∀x ∈ us,x<256)(hr:Rd w (some ⟨b,off,none⟩) (ZT .u8 (1::p::k::(xs++us))))(cd:us.length≠8\/4611686018427387903<YG us): Calls prog 62 #[.slice (some ⟨b,off,none⟩) n c] w (ZKs w):=by
 obtain⟨V6,V15⟩:=QA;exact QB
theorem ZQ8 (w b off n c p k)(xs us:List Nat)(hk:xs.length=k)(nK:k<256)(hp:p<256)(hn:n=3+k+us.length)(aI:n<=c)(eE:n<=4096)(hb:∀x ∈ us,x<256)(hr:Rd w (some ⟨b,off,none⟩) (ZT .u8 (1::p::k::(xs++us))))(h8:us.length=8)(hN:YG us<=4611686018427387903): Calls prog 62 #[.slice (some ⟨b,off,none⟩) n c] w (ZOs 1 p xs (YG us) w):=by
 obtain⟨V5,V14⟩:=QA;exact QB
theorem QL {p:Prop}(h:p:=by
 obtain⟨b',off',hA,c0⟩:=Ym hr;injection hA with hA;injection hA with e1 e2 _;subst e1 e2;have aH:b<w.heap.size:=ZgT w _ c0;have eL:((n:Int)==0)=false:=by rw[Zgb];omega
 have de:0<n:=by omega
 have gW:=λo o'=>ZI (ZI c0 o) o';have d0:=ZI c0;obtain⟨A',hsl,bB,_⟩:=Xx underlying32 JX (A:=some ⟨b,off,none⟩) (n:=n) (c:=c) (m:=ts.length) (d:=c - 1) 1 (ki:=1) rfl aI hn ZB;have nj:Rd w A' (ZT .u8 ts):=bB w _ (by rw[Xk,ZfF,hn]) hr;have tQ:=ZA (λo o'=>(nj.alloc o).alloc o');have Hn:=ZA hn;have lN:ts.length+1<=n:=by omega
 have sI:n<=ts.length+1:=by omega
 clear c0 hr bB nj hn;first|(obtain -:=V1;have Hb:=ZA hb;have qr:=ZA cd;clear hb cd)|(have BW:=ZA fy;have Gr:=ZA cz;clear fy cz;have ak:=ZA6 p xs N;rw[<-BW.o]at ak;have iX:=ZA ak;clear ak)
 go_enter func62,ntmps62;go_wp2_with fail;first|(obtain -:=V2;refine(ZHX _ A' ts.length (c - 1) ts rfl Hb.o (tQ.o _ _) ZB ZB qr.o).mono ?_;rintro e w1 ⟨rfl,ga⟩)|(refine(ZKB _ p N A' ts.length (c - 1) xs iX.o Gr.o (by rw[<-BW.o];exact tQ.o _ _) ZB h1 h2 hp hx).mono ?_;rintro e w1 ⟨A1,c1,rfl,ho,ga⟩)
 have K2:=ZA (ZK (ZQ (ZV w (.cells #[.int .u8 0,.int .i64 0,.slice none 0 0,.int .i64 0] 34 (0,0))) (.cells #[.int .u8 3,.int .i64 0,.slice none 0 0,.int .i64 0] 34 (0,0))) ga);have K4:ZD (w1.heap[w.heap.size+1]?=some (.cells #[.int .u8 3,.int .i64 0,.slice none 0 0,.int .i64 0] 34 (0,0))):=ZK (Zi _ _ ZXz) ga;have aK:ZM w w1:=(((ZM.refl w).alloc _).alloc _).trans ga;have aG:w.heap.size+2<=w1.heap.size:=by have:=ga.size;simpa using this
 first|(obtain -:=V3)|(have Ho:ZD (w1.ownsRow (w.heap.size+2) 5 1 (.slice A1 xs.length c1) xs.length (ZT .u8 xs)):=Zj ho ZXz;clear ho)
 go_upto_region 7 with fail;first|(obtain -:=V4;obtain⟨W,hW,gI,-⟩:=Za w1 (.cells #[.int .i64 (0:Int),.slice none 0 0,.int .i64 (0:Int)] 120);have KT:ZD (W.heap[w1.heap.size]?=some (.cells #[.int .i64 (0:Int),.slice none 0 0,.int .i64 (0:Int)] 120 (0,0))):=by rw[<-hW];exact ZV _ _)|(obtain⟨W,hW,gI,-⟩:=Za w1 (.cells #[.int .i64 p,.slice A1 xs.length c1,.int .i64 N] 120);have KT:ZD (W.heap[w1.heap.size]?=some (.cells #[.int .i64 p,.slice A1 xs.length c1,.int .i64 N] 120 (0,0))):=by rw[<-hW];exact ZV _ _)
 have KC:=ZA (ZK K4.o gI);have KR:=ZA (ZK K2.o gI);have ge:=aK.trans gI;first|(obtain -:=V5)|have tU:=ZA (Z5 Ho.o gI)
 rw[hW];clear hW gI K2 K4 d0 gW tQ hsl;have t0:=ZE KT.o 0;have t1:=ZE KT.o 1;have t2:=ZE KT.o 2;have u0:=ZE KC.out 0;have u1:=ZE KC.out 1;have u2:=ZE KC.out 2;have u3:=ZE KC.out 3;have f0:=ZG KC.out 0;have f1:=ZG KC.out 1;have f2:=ZG KC.out 2;have f3:=ZG KC.out 3;have ag:¬w.heap.size+1=w1.heap.size:=by omega
 have ju:¬w1.heap.size=w.heap.size+1:=by omega
 first|(obtain -:=V6;go_cut [4] (λv4 wd=>v4=.pointer (some ⟨w.heap.size+1,0,none⟩)/\wd.heap[w.heap.size+1]?=some (.cells #[.int .u8 3,.int .i64 (0:Int),.slice none 0 0,.int .i64 (0:Int)] 34 (0,0))/\W.grownBy wd (some (w.heap.size+1))))|go_cut [4] (λv4 wd=>v4=.pointer (some ⟨w.heap.size+1,0,none⟩)/\wd.heap[w.heap.size+1]?=some (.cells #[.int .u8 3,.int .i64 p,.slice A1 xs.length c1,.int .i64 N] 34 (0,0))/\W.grownBy wd (some (w.heap.size+1)))
 case first=>
  go_region;all_goals
   go_wp2_with fail
   go_meet
   first
   |exact⟨rfl,ZR (ZR (ZR KC.out 1 _) 2 _) 3 _,ZU (ZU (Ze W (w.heap.size+1) 1 _) 2 _) 3 _⟩
   |exact⟨rfl,ZR (ZR (ZR KC.out 1 _) 2 _) 3 _,ZAL (ZU (ZU (Ze W (w.heap.size+1) 1 _) 2 _) 3 _)⟩
   |exact⟨rfl,ZR (ZR (ZR KC.out 1 _) 2 _) 3 _,XC (ZU (ZU (Ze W.drew (w.heap.size+1) 1 _) 2 _) 3 _)⟩
 case rest=>
  obtain⟨rfl,hC,hG⟩:=hcut;have mK:=ZA hC;have gu:=ZA (Yf KR.o hG ZB);have gz:=Yr ge hG ZB;first|(obtain -:=V7)|have Gy:=ZA (Zj (tU.o.kept hG (ZAH tU.o ZB)) (show w.heap.size+1<=w.heap.size+2 by omega))
  clear hC t0 t1 t2 u0 u1 u2 u3 f0 f1 f2 f3 KC KR KT;have c0:=ZE mK.o 0;have c1:=ZE mK.o 1;have c2:=ZE mK.o 2;have c3:=ZE mK.o 3;have k0:=ZE gu.o 0;have k1:=ZE gu.o 1;have k2:=ZE gu.o 2;have k3:=ZE gu.o 3;have f0:=ZG gu.o 0;have f1:=ZG gu.o 1;have f2:=ZG gu.o 2;have f3:=ZG gu.o 3;go_wp2_with fail;refine Zgd (Ye rfl rfl (ZBA gu.o _ _ _ _)) rfl ?_;first|(obtain -:=V8;exact⟨_,_,_,_,_,_,rfl,Xn gz (Zf6 _) _ _ _ _⟩)|exact⟨A1,_,rfl,ZAg Gy.o ZB _ _ _ _,Xn gz (Zf6 _) _ _ _ _⟩):p:=h
theorem ZQ5 (w b off n c)(ts:List Nat)(p N)(xs:List Nat)(hn:n=ts.length+1)(aI:n<=c)(fy:ts=Xm p xs N)(hp:p<32)(h1:1<=N)(h2:N<=4611686018427387903)(hx:xs.length<=255)(cz:∀x ∈ xs,x<256)(hr:Rd w (some ⟨b,off,none⟩) (ZT .u8 (3::ts))): Calls prog 62 #[.slice (some ⟨b,off,none⟩) n c] w (ZOs 3 p xs N w):=QL
theorem ZQ6 (w b off n c)(ts:List Nat)(hn:n=ts.length+1)(aI:n<=c)(eE:n<=4096)(hb:∀x ∈ ts,x<256)(cd:¬ZIS ts)(hr:Rd w (some ⟨b,off,none⟩) (ZT .u8 (3::ts))): Calls prog 62 #[.slice (some ⟨b,off,none⟩) n c] w (ZKs w):=by
 obtain⟨V1,V2,V3,V4,V5,V6,V7,V8⟩:=QA;exact QL
theorem ZKZ (w A n c)(hn:4096<n):Calls prog 21 #[.slice A n c] w (Xj (.tuple #[ZCs,.int .i64 2]) w):=by
 go_enter func21,ntmps21;go_wp2_with fail;refine Zgd (Ye rfl rfl (Zgi w _)) rfl ?_;exact⟨rfl,(ZM.refl w).alloc _⟩
theorem ZYR {p:Prop}(h:p:=by
 first|(obtain -:=V1;have HG:=ZA hG;have Hr:=ZA hr;clear hG hr)|(obtain⟨HG,Hr,HQ,Hl,Hb⟩:=ZBR hG hr hQ hl hb;clear hG hr hQ hl hb)
 go_enter func21,ntmps21;go_wp2_with fail;refine(HG.o _ (Hr.o.alloc _)).mono ?_;first|(obtain -:=V2;rintro e w1 ⟨o,p,A1,n1,c1,N,rfl,hy⟩)|rintro e w1 ⟨A1,c1,rfl,ho,hy⟩
 have K:=ZA (ZK (ZV w (.cells #[.int .u8 0,.int .i64 0,.slice none 0 0,.int .i64 0] 34 (0,0))) hy);have hx:ZM w w1:=((ZM.refl w).alloc _).trans hy;first|(obtain -:=V3;clear hy;have k0:=ZI (ZE K.o 0);have k1:=ZI (ZE K.o 1);have k2:=ZI (ZE K.o 2);have k3:=ZI (ZE K.o 3);have f0:=ZAl K.o 0;have f1:=ZAl K.o 1;have f2:=ZAl K.o 2;have f3:=ZAl K.o 3)|(have Ho:ZD (w1.ownsRow (w.heap.size+1) 5 1 (.slice A1 xs.length c1) xs.length (ZT .u8 xs)):=Zj ho ZXz;clear hy ho)
 go_wp2_with fail;first
 |obtain -:=V4;refine Zgd (Ye rfl rfl (ZBA (ZQ K.o _) _ _ _ _)) rfl ?_;exact⟨rfl,Xn (hx.alloc _) (Zf6 _) _ _ _ _⟩
 |obtain⟨q,L,bE,aA,Bj,hC⟩:=HQ.o A1 c1;obtain⟨kL,HkL⟩:=ZX2 (L.length);obtain⟨oh,y9,vy,HC⟩:=ZAU bE aA Bj hC;clear bE aA Bj hC HQ;refine(HC.o _ ((Rd.of_own Ho.o).alloc _)).mono ?_;rintro e w2 ⟨A2,c2,rfl,ik,eI⟩;rw[HkL.o]at ik ⊢;have K2:=ZA (ZK (ZQ K.o _) eI);have KT:=ZA (ZK (ZV w1 (.cells #[.int .u8 op,.int .i64 p,.slice A1 xs.length c1,.int .i64 N] 34 (0,0))) eI);have pd:ZM w1 w2:=((ZM.refl w1).alloc _).trans eI;have bd:=hx.trans pd;have BY:=ZA (Z5 Ho.o pd);have RL:=ZA (Rd.of_own ik);have aG:w.heap.size<w1.heap.size:=ZX K.o;clear ik eI pd K Ho;by_cases hq:q=0
  ·subst hq;have S:=ZA (ZLW A A2 n c kL c2 ys L w2 Hl.o HkL.o ZB Hb.o vy.o (Hr.o.ext bd) RL.o);go_wp2_with fail;refine(ZSB S.o).mono ?_;rintro e w3 ⟨rfl,cI⟩;have K3:=ZA (ZK K2.o cI);have vo:=ZA (ZK KT.o cI);have fU:=bd.trans cI;have vq:=ZA (Z5 BY.o cI);clear S K2 KT BY cI;have k0:=ZE K3.o 0;have k1:=ZE K3.o 1;have k2:=ZE K3.o 2;have k3:=ZE K3.o 3;have f0:=ZG K3.o 0;have f1:=ZG K3.o 1;have f2:=ZG K3.o 2;have f3:=ZG K3.o 3;have t0:=ZE vo.o 0;have t1:=ZE vo.o 1;have t2:=ZE vo.o 2;have t3:=ZE vo.o 3;by_cases hs:ys=L
   ·have e1:same ys L=true:=Zgg hs;rw[e1];have Hs:=ZA hs;clear hs e1;go_wp2_with fail;refine Zgd (Ye rfl rfl (ZBA K3.o _ _ _ _)) rfl ?_;refine⟨λ_=>⟨A1,_,rfl,ZAg vq.o ZB _ _ _ _,Xn fU (Zf6 _) _ _ _ _⟩,λh=>?_⟩;rcases y9.o h with h|h
    ·simp at h
    ·exact absurd Hs.o.symm h
   ·have e1:same ys L=false:=Zgf hs;rw[e1];have Hs:=ZA hs;clear hs e1;go_wp2_with fail;refine Zgd (Ye rfl rfl (ZBA K3.o _ _ _ _)) rfl ?_;exact⟨λh=>absurd (oh.o h).2.symm Hs.o,λ_=>⟨rfl,Xn fU (Zf6 _) _ _ _ _⟩⟩
  ·have ja:(q !=0)=true:=by simp[bne,hq]
   have Hq:=ZA hq;clear hq;have k0:=ZE K2.o 0;have k1:=ZE K2.o 1;have k2:=ZE K2.o 2;have k3:=ZE K2.o 3;have f0:=ZG K2.o 0;have f1:=ZG K2.o 1;have f2:=ZG K2.o 2;have f3:=ZG K2.o 3;go_wp2_with fail;refine Zgd (Ye rfl rfl (ZBA K2.o _ _ _ _)) rfl ?_;exact⟨λh=>absurd (oh.o h).1 Hq.o,λ_=>⟨rfl,Xn bd (Zf6 _) _ _ _ _⟩⟩):p:=h
theorem ZRM (w A n c ys)(hn:n<=4096)(hr:Rd w A (ZT .u8 ys))(hG:∀w',Rd w' A (ZT .u8 ys)->Calls prog 62 #[.slice A n c] w' (ZKs w')): Calls prog 21 #[.slice A n c] w (Xj (.tuple #[ZCs,.int .i64 3]) w):=by
 obtain⟨V1,V2,V3,V4⟩:=QA;exact ZYR
def ZXJ (jF:Prop)(op p N:Nat)(xs:List Nat)(w:World)(e:Ending)(w':World):Prop:=(jF->ZEF op p xs N w e w')/\(¬jF->Xj (.tuple #[ZCs,.int .i64 3]) w e w')
theorem ZJZ (w A n c op p N)(ys xs:List Nat)(jF:Prop)(hl:ys.length=n)(hb:∀x ∈ ys,x<256)(hn:n<=4096)(hr:Rd w A (ZT .u8 ys))(hG:∀w',Rd w' A (ZT .u8 ys)->Calls prog 62 #[.slice A n c] w' (ZOs op p xs N w'))(hQ:∀A' c',∃(q:Int) (L:List Nat),(jF->q=0/\L=ys)/\(¬jF->(q==0)=false\/L≠ys)/\(∀x ∈ L,x<256)/\∀w',Rd w' A' (ZT .u8 xs)->Calls prog 63 #[Yp (op:Int) (p:Int) A' xs.length c' (N:Int)] w' (Xc L q w')): Calls prog 21 #[.slice A n c] w (ZXJ jF op p N xs w):=ZYR
theorem Jo {o:Nat}{z:List Nat}{p N:Nat}{rest:List Nat}(h:ZBK (o::z) op p xs N rest):op=o/\1<=o/\o<=6/\(o<5->p<32/\xs.length<=255)/\ ((o=1/\z=p::xs.length::(xs++(Zm N 8++rest))/\N<=4611686018427387903)\/((o=2\/o=4)/\z=p::xs.length::(xs++rest)/\N=0)\/(o=3/\z=Xm p xs N/\ZIS z)\/((o=5\/o=6)/\z=rest/\p=0/\xs=[]/\N=0)):=by
 obtain⟨⟨⟨h1,h2,h3,h4,h5⟩,cz,h6,h7⟩,e,h8⟩:=h;have kO:op=1\/(op=2\/op=4)\/op=3\/(op=5\/op=6):=by omega
 rcases kO with rfl|h24|rfl|h56
 ·rw[ZHU]at e;simp only[Zen,Zem,Zei]at e;obtain⟨rfl,e⟩:=e;exact⟨rfl,by omega,by omega,h3,.inl ⟨rfl,e,h4 rfl⟩⟩
 ·have k:JN op p xs N=op::p::xs.length::xs:=by
   rcases h24 with rfl|rfl
   ·exact ZFl p xs N
   ·exact ZFk p xs N
  rw[k]at e;simp only[Zen,Zem]at e;obtain⟨rfl,e⟩:=e;exact⟨rfl,h1,h2,h3,.inr (.inl ⟨h24,e,h7 h24⟩)⟩
 ·obtain rfl:=h8 rfl;rw[ZHT]at e;simp only[Zek,Zem]at e;obtain⟨rfl,e⟩:=e;obtain⟨k1,k2⟩:=h3 ZB;obtain⟨k3,k4⟩:=h5 rfl;exact⟨rfl,by omega,by omega,h3,.inr (.inr (.inl ⟨rfl,e,p,N,xs,k1,k3,k4,k2,cz,e⟩))⟩
 ·rw[ZC4 h56]at e;simp only[Zen,Zfb,Zem]at e;obtain⟨rfl,e⟩:=e;obtain⟨k1,k2,k3⟩:=h6 ZB;exact⟨rfl,h1,h2,h3,.inr (.inr (.inr ⟨h56,e,k1,k2,k3⟩))⟩
theorem ZBQ {ys:List Nat}(h:ZIT ys):∃op p xs N,ZBK ys op p xs N []:=ZFW.1 h
theorem ZGN (A n c)(ys:List Nat)(hl:ys.length=n)(hn:n<=4096)(aI:n<=c)(hb:∀x ∈ ys,x<256): (∃op p xs N,op<256/\p<256/\N<=4611686018427387903/\xs.length<=255/\(∀x ∈ xs,x<256)/\(∀ez p' dV N',ZBK ys ez p' dV N' []->op=ez/\p=p'/\xs=dV/\N=N')/\(5<=op->p=0/\xs=[]/\N=0)/\(op=2\/op=4->N=0)/\∀w,Rd w A (ZT .u8 ys)->Calls prog 62 #[.slice A n c] w (ZOs op p xs N w))\/ (¬ZIT ys/\∀w,Rd w A (ZT .u8 ys)->Calls prog 62 #[.slice A n c] w (ZKs w)):=by
 match ys,hl,hb with
 |[],hl,_=>
  obtain rfl:n=0:=by simpa using hl.symm
  refine .inr ⟨λh=>?_,λw _=>ZQ3 w A c⟩;obtain⟨op,p,xs,N,hB⟩:=ZBQ h;have:=hB.2.1;have k:(JN op p xs N).length≠0:=by
   unfold JN
   split
   ·simp
   ·split<;>simp
  rw[Zek]at this;rw[<-this]at k;exact k rfl
 |o::z,hl,hb=>
  have de:1<=n:=by simp at hl;omega
  have aF:z.length+1=n:=by simpa using hl
  have nu:o<256:=hb o ZXz;have fT:∀x ∈ z,x<256:=λx hx=>hb x (by simp[hx]);have dB:∀w,Rd w A (ZT .u8 (o::z))->∃b off,A=some ⟨b,off,none⟩/\w.cell? ⟨b,off,none⟩=some (.int .u8 o):=λw hr=>Ym hr;by_cases h56:o=5\/o=6
  ·refine .inl ⟨o,0,[],0,nu,by omega,by omega,by simp,by simp,λez p' dV N' hB=>?_,λ_=>⟨rfl,rfl,rfl⟩,λ_=>rfl,λw hr=>?_⟩
   ·obtain⟨e,_,_,_,h⟩:=Jo hB;rcases h with⟨h,_⟩|⟨h,_⟩|⟨h,_⟩|⟨_,_,h1,h2,h3⟩
    ·omega
    ·omega
    ·omega
    ·exact⟨e.symm,h1.symm,h2.symm,h3.symm⟩
   ·obtain⟨b,off,rfl,c0⟩:=dB w hr;have e:(((o:Int)==5)||((o:Int)==6))=true:=by
     rcases h56 with h|h
     ·subst h;rfl
     ·subst h;rfl
    refine(ZGM w b off n c o de c0 ZB _ _ rfl rfl).mono λe' w' ⟨h1,h2⟩=>⟨none,0,?_,ZgZ _ _ _ _,h2⟩;rw[h1,e];rfl
  by_cases D6:o=0\/7<=o
  ·refine .inr ⟨λh=>?_,λw hr=>?_⟩
   ·obtain⟨op,p,xs,N,hB⟩:=ZBQ h;obtain⟨_,h1,h2,_⟩:=Jo hB;omega
   ·obtain⟨b,off,rfl,c0⟩:=dB w hr;have e:(((o:Int)==5)||((o:Int)==6))=false:=by
     rw[Bool.or_eq_false_iff,Zgb,Zgb];constructor<;>omega
    refine(ZGM w b off n c o de c0 ZB _ _ rfl rfl).mono λe' w' ⟨h1,h2⟩=>⟨(o:Int),0,none,0,0,0,by rw[h1,e],h2⟩
  by_cases h3:o=3
  ·subst h3;by_cases ht:ZIS z
   ·obtain⟨p,s,xs,hp,h1,h2,hx,cz,hz⟩:=ht;refine .inl ⟨3,p,xs,s,by omega,by omega,h2,hx,cz,λez p' dV N' hB=>?_,λh=>by omega,λh=>by omega,λw hr=>?_⟩
    ·obtain⟨e,_,_,_,h⟩:=Jo hB;rcases h with⟨h,_⟩|⟨h,_⟩|⟨_,k,_⟩|⟨h,_⟩
     ·omega
     ·omega
     ·rw[hz]at k;obtain⟨⟨⟨_,_,_,_,g5⟩,_⟩,_⟩:=hB;obtain⟨k1,k2,k3⟩:=ZK8 k h2 (g5 e).2;exact⟨e.symm,k1,k2,k3⟩
     ·omega
    ·obtain⟨b,off,rfl,_⟩:=dB w hr;exact ZQ5 w b off n c z p s xs ZB aI hz hp h1 h2 hx cz hr
   ·refine .inr ⟨λh=>?_,λw hr=>?_⟩
    ·obtain⟨op,p,xs,N,hB⟩:=ZBQ h;obtain⟨e,_,_,_,h⟩:=Jo hB;rcases h with⟨h,_⟩|⟨h,_⟩|⟨_,_,k⟩|⟨h,_⟩
     ·omega
     ·omega
     ·exact ht k
     ·omega
    ·obtain⟨b,off,rfl,_⟩:=dB w hr;exact ZQ6 w b off n c z ZB aI hn fT ht hr
  have jE:o=1\/o=2\/o=4:=by omega
  have Bv:∀w b off,A=some ⟨b,off,none⟩->w.cell? ⟨b,off,none⟩=some (.int .u8 o)->(n<3\/∃k:Nat,k<256/\w.cell? ⟨b,off+2,none⟩=some (.int .u8 k)/\3<=n/\n<3+k)->Calls prog 62 #[.slice A n c] w (ZKs w):=λw b off hA c0 hh=>by
   subst hA;rcases jE with rfl|rfl|rfl
   ·exact ZOB w b off n c de c0 hh
   ·exact ZOA w b off n c de c0 hh
   ·exact ZN9 w b off n c de c0 hh
  by_cases py:n<3
  ·refine .inr ⟨λh=>?_,λw hr=>?_⟩
   ·obtain⟨op,p,xs,N,hB⟩:=ZBQ h;obtain⟨e,_,_,_,h⟩:=Jo hB;rcases h with⟨_,k,_⟩|⟨_,k,_⟩|⟨h,_⟩|⟨h,_⟩
    ·rw[k]at aF;simp at aF;omega
    ·rw[k]at aF;simp at aF;omega
    ·omega
    ·omega
   ·obtain⟨b,off,hA,c0⟩:=dB w hr;exact Bv w b off hA c0 (.inl py)
  match z,aF,fT,hb,dB with
  |[],aF,_,_,_=>simp at aF;omega
  |[_],aF,_,_,_=>simp at aF;omega
  |p::k::t,aF,fT,hb,dB=>
   have hp:p<256:=fT p ZXz;have hk:k<256:=fT k ZXz;have qQ:∀x ∈ t,x<256:=λx hx=>fT x (by simp[hx]);have ak:t.length+3=n:=by simp at aF;omega
   by_cases hf:n<3+k
   ·refine .inr ⟨λh=>?_,λw hr=>?_⟩
    ·obtain⟨op,p',xs,N,hB⟩:=ZBQ h;obtain⟨e,_,_,_,h⟩:=Jo hB;rcases h with⟨_,q,_⟩|⟨_,q,_⟩|⟨h,_⟩|⟨h,_⟩
     ·simp only[Zem]at q;obtain⟨_,q2,q3⟩:=q;rw[q3]at ak;simp at ak;omega
     ·simp only[Zem]at q;obtain⟨_,q2,q3⟩:=q;rw[q3]at ak;simp at ak;omega
     ·omega
     ·omega
    ·obtain⟨b,off,hA,hc⟩:=hr (by simp[ZT]);exact Bv w b off hA (hc 0 _ rfl) (.inr ⟨k,hk,hc 2 _ rfl,by omega,hf⟩)
   ·have dE:(t.take k).length=k:=by rw[ZfL];omega
    have cz:∀x ∈ t.take k,x<256:=λx hx=>qQ x (ZfX hx);have po:∀x ∈ t.drop k,x<256:=λx hx=>qQ x (ZfV hx);have uH:n=3+k+(t.drop k).length:=by rw[ZfG];omega
    by_cases h1:o=1
    ·subst h1;by_cases h8:(t.drop k).length=8/\YG (t.drop k)<=4611686018427387903
     ·refine .inl ⟨1,p,t.take k,YG (t.drop k),by omega,hp,h8.2,by omega,cz,λez p' dV N' hB=>?_,λh=>by omega,λh=>by omega,λw hr=>?_⟩
      ·obtain⟨e,_,_,_,h⟩:=Jo hB;rcases h with⟨_,q,jV⟩|⟨h,_⟩|⟨h,_⟩|⟨h,_⟩
       ·simp only[Zem,Zek]at q;obtain⟨q1,q2,q3⟩:=q;have e1:t.take k=dV:=by rw[q3];exact Zfn q2.symm
        have e2:t.drop k=Zm N' 8:=by rw[q3];exact Zeq q2.symm
        refine⟨e.symm,q1,e1,?_⟩;rw[e2,Jm];exact ZgF (ZgA jV (by decide))
       ·omega
       ·omega
       ·omega
      ·obtain⟨b,off,rfl,_⟩:=dB w hr;exact ZQ8 w b off n c p k (t.take k) (t.drop k) dE hk hp uH aI hn po (by rw[Zfl];exact hr) h8.1 h8.2
     ·refine .inr ⟨λh=>?_,λw hr=>?_⟩
      ·obtain⟨op,p',xs,N,hB⟩:=ZBQ h;obtain⟨e,_,_,_,h⟩:=Jo hB;rcases h with⟨_,q,jV⟩|⟨h,_⟩|⟨h,_⟩|⟨h,_⟩
       ·simp only[Zem,Zek]at q;obtain⟨q1,q2,q3⟩:=q;have e2:t.drop k=Zm N 8:=by rw[q3];exact Zeq q2.symm
        refine h8 ⟨by rw[e2,Z4],?_⟩;rw[e2,Jm];exact Zf8 (Nat.mod_le _ _) jV
       ·omega
       ·omega
       ·omega
      ·obtain⟨b,off,rfl,_⟩:=dB w hr
       exact ZQ9 w b off n c p k (t.take k) (t.drop k) dE hk hp uH aI hn po (by rw[Zfl];exact hr) (by
        by_cases h:(t.drop k).length=8
        ·exact .inr (Nat.lt_of_not_le λhh=>h8 ⟨h,hh⟩)
        ·exact .inl h)
    ·have h24:o=2\/o=4:=by omega
     refine .inl ⟨o,p,t.take k,0,nu,hp,by omega,by omega,cz,λez p' dV N' hB=>?_,λh=>by omega,λ_=>rfl,λw hr=>?_⟩
     ·obtain⟨e,_,_,_,h⟩:=Jo hB;rcases h with⟨h,_⟩|⟨_,q,jV⟩|⟨h,_⟩|⟨h,_⟩
      ·omega
      ·simp only[Zem,Zek]at q;obtain⟨q1,q2,q3⟩:=q;refine⟨e.symm,q1,?_,jV.symm⟩;rw[<-q3,Zfp (by rw[q3];omega)]
      ·omega
      ·omega
     ·obtain⟨b,off,rfl,_⟩:=dB w hr;rcases h24 with rfl|rfl
      ·exact ZQ7 w b off n c p k (t.take k) (t.drop k) dE hk hp uH aI hn po (by rw[Zfl];exact hr)
      ·exact ZQ4 w b off n c p k (t.take k) (t.drop k) dE hk hp uH aI hn po (by rw[Zfl];exact hr)
theorem ZI3 {op p N P M:Nat}{xs:List Nat}(h1:op<5->((p:Nat):Int)=(P:Int))(h2:op=1\/op=3->((N:Nat):Int)=(M:Int))(hR:ZBZ op p xs N):JN op P xs M=JN op p xs N:=by
 obtain⟨r1,r2,_⟩:=hR;by_cases h56:op=5\/op=6
 ·rw[ZC4 h56,ZC4 h56]
 ·have hp:p=P:=by have:=h1 ZB;omega
  subst hp;by_cases bP:op=1\/op=3
  ·have:N=M:=by have:=h2 bP;omega
   rw[this]
  ·have h24:op=2\/op=4:=by omega
   rcases h24 with rfl|rfl
   ·rw[ZFl,ZFl]
   ·rw[ZFk,ZFk]
theorem ZNP (ys:List Nat)(n)(hl:ys.length=n)(hb:∀x ∈ ys,x<256): (∃q:Int,(q==0)=false/\(q=3\/(q=2/\4096<n))/\¬(n<=4096/\ZIT ys)/\(∀w B d,Rd w B (ZT .u8 ys)->n<=d->Calls prog 106 #[.slice B n d] w (Xj (.tuple #[ZCs,.int .i64 q]) w))/\(∀w B d,Rd w B (ZT .u8 ys)->n<=d->Calls prog 21 #[.slice B n d] w (Xj (.tuple #[ZCs,.int .i64 q]) w)))\/ (∃op p xs N,ZBr op p xs N/\ys=JN op p xs N/\n<=4096/\(∀w B d,Rd w B (ZT .u8 ys)->n<=d->Calls prog 106 #[.slice B n d] w (ZEF op p xs N w))/\(∀w B d,Rd w B (ZT .u8 ys)->n<=d->Calls prog 21 #[.slice B n d] w (ZEF op p xs N w))):=by
 by_cases hn:4096<n
 ·exact .inl ⟨2,rfl,.inr ⟨rfl,hn⟩,λh=>by omega,λw B d hr _=>ZKC w B n d ys hr hn,λw B d _ _=>ZKZ w B n d hn⟩
 by_cases hq:ZIT ys
 ·right;obtain⟨op,p,xs,N,hB⟩:=ZBQ hq;have Bk:=hB;obtain⟨hN,he,_⟩:=hB;rw[Zek]at he;refine⟨op,p,xs,N,hN,he,by omega,λw B d hr hd=>ZHa w B n d ys xs op p N hl ZB hd hb hr Bk,λw B d hr hd=>?_⟩;rcases ZGN B n d ys hl ZB hd hb with⟨ez,p',dV,N',g1,g2,g3,g4,g5,g6,_,_,g7⟩|⟨h,_⟩
  ·obtain⟨rfl,rfl,rfl,rfl⟩:=g6 _ _ _ _ Bk;refine(ZJZ w B n d ez p' N' ys dV True hl hb ZB hr g7 λA' c'=>?_).mono λe w' h=>h.1 trivial;obtain⟨q,L,hI,_,hC⟩:=ZFj ez g1 (p':Int) (N':Int) dV.length dV rfl g5;rcases hI with⟨ij,rfl,cd⟩|⟨rfl,P,M,k1,k2,k3,k4⟩
   ·exact absurd ⟨p',N',λ_=>rfl,λ_=>rfl,hN.1⟩ cd
   ·have hL:L=ys:=by
     rw[k4,he];exact ZI3 k1 k2 hN.1
    exact⟨0,L,λ_=>⟨rfl,hL⟩,λh=>absurd trivial h,by rw[hL];exact hb,hC A' c'⟩
  ·exact absurd hq h
 ·left;refine⟨3,rfl,.inl rfl,λh=>hq h.2,λw B d hr hd=>ZFB w B n d ys hl ZB hd hb hr hq,λw B d hr hd=>?_⟩;rcases ZGN B n d ys hl ZB hd hb with⟨ez,p',dV,N',g1,g2,g3,g4,g5,g6,g8,g9,g7⟩|⟨_,h⟩
  ·refine(ZJZ w B n d ez p' N' ys dV False hl hb ZB hr g7 λA' c'=>?_).mono λe w' h=>h.2 id;obtain⟨q,L,hI,_,hC⟩:=ZFj ez g1 (p':Int) (N':Int) dV.length dV rfl g5;rcases hI with⟨ij,rfl,cd⟩|⟨rfl,P,M,k1,k2,k3,k4⟩
   ·exact⟨q,[],λh=>h.elim,λ_=>.inl ij,by simp,hC A' c'⟩
   ·refine⟨0,L,λh=>h.elim,λ_=>.inr λhL=>hq ?_,by rw[k4];exact ZJ9 k3 g5,hC A' c'⟩;have hR:ZBZ ez p' dV N':=by
     obtain⟨r1,r2,r3,r4,r5⟩:=k3;exact⟨r1,r2,λh=>by have:=k1 h;have:=r3 h;omega,λh=>by have:=k2 (.inl h);have:=r4 h;omega,λh=>by have:=k2 (.inr h);have:=r5 h;omega⟩
    exact⟨ez,p',dV,N',⟨hR,g5,g8,g9⟩,by rw[<-hL,k4];exact ZI3 k1 k2 hR⟩
  ·exact ZRM w B n d ys ZB hr h
section
open Go.ChangeShapes Go.WideShapes Go.ChangeAt Go.Joins Go.Deep
section
variable {H:Type} {enc:TypeId × Value->H} {P:Program}
end
end
section
open Go.ChangeShapes Go.WideShapes Go.ChangeAt Go.Joins Go.Deep
structure EvA where
 kind:Nat
 conn:Int
 op:Nat
 pol:Int
 K:Option Addr
 kc:Nat
 key:List Nat
 num:Int
 A:Option Addr
 dc:Nat
 data:List Nat
 num2:Int
def ZBy (r:EvA):List Value:=[.int .u8 (r.kind:Int),.int .i64 r.conn,.int .u8 (r.op:Int),.int .i64 r.pol,.slice r.K r.key.length r.kc,.int .i64 r.num,.slice r.A r.data.length r.dc,.int .i64 r.num2]
def ZJp (w:World)(r:EvA):Prop:=r.kind<256/\(Lit.int .i64 r.conn).wf=true/\r.op<256/\(Lit.int .i64 r.pol).wf=true/\(∀x ∈ r.key,x<256)/\r.key.length<=r.kc/\Rd w r.K (ZT .u8 r.key)/\(Lit.int .i64 r.num).wf=true/\ (∀x ∈ r.data,x<256)/\r.data.length<=r.dc/\r.dc<=maxLen/\Rd w r.A (ZT .u8 r.data)/\(Lit.int .i64 r.num2).wf=true
section
variable {H:Type} {enc:TypeId × Value->H} {P:Program}
theorem ZVt{q:TypeId}{y:DataW H × List MemPlace}(hu:P.underlying q=some (.slice e8))(rg:P.underlying e8=some (.int .u8))(rj:P.cellsOf e8=1)(t:DataW.trod enc P W 0 (λ_=>true) true n q [v]=some y): ∃(A:Option Addr) (c:Nat) (xs:List Nat),v=.slice A xs.length c/\(∀x ∈ xs,x<256)/\Rd W A (ZT .u8 xs)/\xs.length<=c/\c<=maxLen:=by
 have hsl:∃A l c,v=.slice A l c:=by
  rcases open_slice hu t with⟨h,_⟩|⟨a,l,c,_,_,_,_,h,_⟩
  ·injection h with h _;exact⟨_,_,_,h⟩
  ·injection h with h _;exact⟨_,_,_,h⟩
 obtain⟨A,l,c,rfl⟩:=hsl;obtain⟨xs,hl,hb,hr,hc,hm,_⟩:=ZQH (enc:=enc) hu rg rj rfl (d:=y.1) (p:=y.2) ⟨n,t⟩;exact⟨A,c,xs,by rw[hl],by simpa[IntKind.bits]using hb,hr,by omega,hm⟩
theorem ZXB{fuel:Nat}{cs:List Value}{x:DataW H × List MemPlace}(he:P.underlying e=some (.struct #[f0,f1,f2,f3,f4]))(ho:f0.offset=0/\f1.offset=1/\f2.offset=2/\f3.offset=6/\f4.offset=7)(hc:P.cellsOf f0.type=1/\P.cellsOf f1.type=1/\P.cellsOf f2.type=4/\P.cellsOf f3.type=1/\P.cellsOf f4.type=1)(u0:P.underlying f0.type=some (.int .u8))(u1:P.underlying f1.type=some (.int .i64))(u2:P.underlying f2.type=some (.struct #[g0,g1,g2,g3]))(u3:P.underlying f3.type=some (.slice e8))(u4:P.underlying f4.type=some (.int .i64))(rg:P.underlying e8=some (.int .u8))(rj:P.cellsOf e8=1)(eD:oneCellFields P #[g0,g1,g2,g3]=true)(w0:P.underlying g0.type=some (.int .u8))(w1:P.underlying g1.type=some (.int .i64))(w2:P.underlying g2.type=some (.slice e8))(w3:P.underlying g3.type=some (.int .i64))(hl:cs.length=8)(h:DataW.trod enc P W 0 (λ_=>true) true fuel e cs=some x): ∃r:EvA,ZJp W r/\ZBy r=cs:=by
 match cs,hl with
 |[c0,c1,c2,c3,c4,c5,c6,c7],_=>
  obtain⟨xs,n,_,_,_,ah,hg⟩:=DataW.trod_struct he h
  match xs,ah with
  |[y0,y1,y2,y3,y4],_=>
   have t0:DataW.trod enc P W 0 (λ_=>true) true n f0.type [c0]=some y0:=by simpa[ho.1,hc.1]using hg 0 f0 rfl
   have t1:DataW.trod enc P W 0 (λ_=>true) true n f1.type [c1]=some y1:=by simpa[ho.2.1,hc.2.1]using hg 1 f1 rfl
   have t2:DataW.trod enc P W 0 (λ_=>true) true n f2.type [c2,c3,c4,c5]=some y2:=by simpa[ho.2.2.1,hc.2.2.1]using hg 2 f2 rfl
   have t3:DataW.trod enc P W 0 (λ_=>true) true n f3.type [c6]=some y3:=by simpa[ho.2.2.2.1,hc.2.2.2.1]using hg 3 f3 rfl
   have t4:DataW.trod enc P W 0 (λ_=>true) true n f4.type [c7]=some y4:=by simpa[ho.2.2.2.2,hc.2.2.2.2]using hg 4 f4 rfl
   obtain⟨zs,n2,_,_,_,hlen2,aA⟩:=DataW.trod_struct u2 t2
   match zs,hlen2 with
   |[z0,z1,z2,z3],_=>
    obtain⟨o0,k0⟩:=hone_of eD 0 g0 rfl;obtain⟨o1,k1⟩:=hone_of eD 1 g1 rfl;obtain⟨o2,k2⟩:=hone_of eD 2 g2 rfl;obtain⟨o3,k3⟩:=hone_of eD 3 g3 rfl;have s0:DataW.trod enc P W 0 (λ_=>true) true n2 g0.type [c2]=some z0:=by simpa[o0,k0]using aA 0 g0 rfl
    have s1:DataW.trod enc P W 0 (λ_=>true) true n2 g1.type [c3]=some z1:=by simpa[o1,k1]using aA 1 g1 rfl
    have s2:DataW.trod enc P W 0 (λ_=>true) true n2 g2.type [c4]=some z2:=by simpa[o2,k2]using aA 2 g2 rfl
    have s3:DataW.trod enc P W 0 (λ_=>true) true n2 g3.type [c5]=some z3:=by simpa[o3,k3]using aA 3 g3 rfl
    obtain⟨_,h0,_,q0⟩:=DataW.trod_int u0 t0;obtain⟨i1,h1,_,q1⟩:=DataW.trod_int u1 t1;obtain⟨i7,h7,_,q7⟩:=DataW.trod_int u4 t4;obtain⟨_,h2,_,q2⟩:=DataW.trod_int w0 s0;obtain⟨i3,h3,_,q3⟩:=DataW.trod_int w1 s1;obtain⟨i5,h5,_,q5⟩:=DataW.trod_int w3 s3;injection h0 with h0 _;injection h1 with h1 _;injection h2 with h2 _;injection h3 with h3 _;injection h5 with h5 _;injection h7 with h7 _;subst h0 h1 h2 h3 h5 h7;obtain⟨a0,rfl,b0⟩:=nat_of (k:=.u8) rfl q0;obtain⟨a2,rfl,b2⟩:=nat_of (k:=.u8) rfl q2;obtain⟨A4,c4',Ct,rfl,e1,e2,e3,e4⟩:=ZVt w2 rg rj s2;obtain⟨A6,c6',Cs,rfl,d1,d2,d3,d4⟩:=ZVt u3 rg rj t3;exact⟨⟨a0,i1,a2,i3,A4,c4',Ct,i5,A6,c6',Cs,i7⟩,⟨by simpa[IntKind.bits]using b0,q1,by simpa[IntKind.bits]using b2,q3,e1,e3,e2,q5,d1,d3,d4,d2,q7⟩,rfl⟩
theorem open_events{a:Option Addr}{len cap:Nat}{d:DataW H}{p:List MemPlace}(ht:P.underlying t=some (.slice e))(he:P.underlying e=some (.struct #[f0,f1,f2,f3,f4]))(hC:P.cellsOf e=8)(ho:f0.offset=0/\f1.offset=1/\f2.offset=2/\f3.offset=6/\f4.offset=7)(hc:P.cellsOf f0.type=1/\P.cellsOf f1.type=1/\P.cellsOf f2.type=4/\P.cellsOf f3.type=1/\P.cellsOf f4.type=1)(u0:P.underlying f0.type=some (.int .u8))(u1:P.underlying f1.type=some (.int .i64))(u2:P.underlying f2.type=some (.struct #[g0,g1,g2,g3]))(u3:P.underlying f3.type=some (.slice e8))(u4:P.underlying f4.type=some (.int .i64))(rg:P.underlying e8=some (.int .u8))(rj:P.cellsOf e8=1)(eD:oneCellFields P #[g0,g1,g2,g3]=true)(w0:P.underlying g0.type=some (.int .u8))(w1:P.underlying g1.type=some (.int .i64))(w2:P.underlying g2.type=some (.slice e8))(w3:P.underlying g3.type=some (.int .i64))(h:DataW.Trod enc P W 0 (λ_=>true) true t (.slice a len cap) d p): ∃R:List EvA,R.length=len/\(∀r ∈ R,ZJp W r)/\Rd W a (R.flatMap ZBy)/\len<=cap/\cap<=maxLen/\ZKq d len cap:=by
 obtain⟨fuel,hh⟩:=h;rcases open_slice ht hh with⟨cF,hx⟩|⟨a',l,c,m,n,D,Pl,cF,_,hl,hm,eq,hx,aU⟩
 ·simp[Value.cells]at cF;obtain⟨rfl,rfl,rfl⟩:=cF;simp only[Prod.mk.injEq]at hx;exact⟨[],rfl,λr hr=>by simp at hr,Rd.nil _ _,Zf6 _,ZgR _,.inl ⟨hx.1,rfl,rfl⟩⟩
 ·simp[Value.cells]at cF;obtain⟨rfl,rfl,rfl⟩:=cF;simp only[Prod.mk.injEq]at hx;simp only[if_true]at eq;subst eq;have hz:∀i,∃r:EvA,i<len->ZJp W r/\∀j u,(ZBy r)[j]?=some u->W.cell? (a'.add (i*8+j))=some u:=λi=>by
   by_cases hi:i<len
   ·obtain⟨gt,bJ,cj⟩:=aU i ZB;rw[hC]at bJ;obtain⟨_,hcl,Xt⟩:=World.cells?_some bJ;obtain⟨r,eB,d9⟩:=ZXB he ho hc u0 u1 u2 u3 u4 rg rj eD w0 w1 w2 w3 hcl cj;refine⟨r,λ_=>⟨eB,λj u hu=>?_⟩⟩;have hj:j<8:=(Ze5.1 hu).1;rw[<-Go.Deep.add_add,Xt j hj,<-d9];exact hu
   ·exact⟨⟨0,0,0,0,none,0,[],0,none,0,[],0⟩,λh=>absurd h hi⟩
  obtain⟨Z,hZ⟩:=Classical.axiomOfChoice hz;refine⟨(List.range len).map Z,by simp,λr hr=>?_,?_,hl,hm,.inr ⟨_,_,hx.1,by simp,by simp;omega⟩⟩
  ·obtain⟨i,hi,rfl⟩:=ZfT.1 hr;exact(hZ i (ZfZ.1 hi)).1
  ·refine ZGG λq u hu=>?_;obtain⟨i,j,r,rfl,hj,hi,hu⟩:=ZPN ZBy 8 _ (λr _=>rfl) q u hu;have eG:i<len:=by have:=(Ze5.1 hi).1;simpa using this
   have hr:r=Z i:=by
    rw[Ze6,List.getElem?_range eG]at hi;injection hi with hi;exact hi.symm
   subst hr;exact(hZ i eG).2 j u hu
end
end
end Go.Proofs.YtloidkmphigbdaaGreat
