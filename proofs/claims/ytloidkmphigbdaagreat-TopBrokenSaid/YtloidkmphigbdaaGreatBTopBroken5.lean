/- Laid together: what 'TopBroken' needs, part 5 of 11. -/
import Derived.Test.YtloidkmphigbdaaGreatProg
import Derived.Outline
import Derived.BigQuiet
import Derived.WalkLawsBesides
import Derived.Deep.LoopGhost
import Derived.OwnWalk
import Derived.BigRegion
import Derived.Deep.RegionHeld3
import Derived.Deep.Slices
import Derived.Deep.Fields
import Derived.ChangeSame
import Derived.Test.YtloidkmphigbdaaGreatBTopBroken1
import Derived.Test.YtloidkmphigbdaaGreatBTopBroken2
import Derived.Test.YtloidkmphigbdaaGreatBTopBroken3
import Derived.Test.YtloidkmphigbdaaGreatBTopBroken4
namespace Go.Proofs.YtloidkmphigbdaaGreat
set_option linter.all false
set_option maxHeartbeats 40000000
set_option maxRecDepth 100000
open Go.RowKit
theorem ZJs (w:World)(g:YE)(O C:Zdb)(xb:Nat->Nat)(L:List Zf)(s:YF)(who lv d:Nat)(x:ZX)(res:Bool)(ser:Int)(f:FuncId)(caps:Array Value)(h:YK w g O C xb L s)(hc:s.call who=.run x res ser .split)(hL:L.length<=100000)(hw:who<64)(hlv:lv<=3)(hd:2*lv+1=d)(hu:s.ws.getD 0 0=d)(hk:Ze w (XO C O) (Zi g who (xb who) x) (Z1 f caps) .split): Calls Tryz.prog f caps w (SK w g O C xb who (L.length+1) x s (.on (Xi lv 0))):=by
 obtain⟨p0,p1,p2,hfn,⟨k0,k1⟩,k2⟩:=hk;injection hfn with hfn h1 h2;injection hfn with hfn;subst hfn h2;obtain⟨b0,rfl,l0⟩:=k0.ptr;obtain⟨b1,rfl,l1⟩:=k1.ptr;obtain⟨b2,rfl,l2⟩:=k2.ptr;obtain⟨W,hW⟩:=ZTz (((w.alloc ZUA).alloc ZUA));have xW:ZL w W:=by rw[<-hW];exact(((ZL.refl w).alloc _).alloc _)
 have K0:=ZA (show W.heap[w.heap.size]?=some ZUA by rw[<-hW];exact ZR (ZM w _) _);have K1:=ZA (show W.heap[w.heap.size+1]?=some ZUA by rw[<-hW];exact Zd _ _ ZTv);have hA:=h.xg xW (Zb0 _) (ZW K0.o);have LD:=ZA (λu (y:ZL W u)=>(show Calls Tryz.prog 174 #[ZH g.gb,.int .i64 (who:Int),.int .i64 0] u _ from ZAa u g (XG O w.heap.size) C xb L s who 0 d _ 0 (hA.ext y) ZB hw ZB hu rfl rfl));have LD1:=ZA (λu (y:ZL W u) (hk:W.heap.size<u.heap.size)=>(show Calls Tryz.prog 174 #[ZH g.gb,.int .i64 (who:Int),.int .i64 0] u _ from ZAa u g (XG (XG O w.heap.size) W.heap.size) C xb L s who 0 d _ 0 (hA.xg y (Zb0 _) hk) ZB hw ZB hu rfl rfl));have HLT:=ZA (show ∀i,C i->i<w.heap.size from h.lt);have HOL:=ZA (show ∀i,O i->i<w.heap.size from h.ol);have dl:W.cell? ⟨g.gl,0,none⟩=some (ZH g.gb):=hA.rd.l0;have HK0:=ZA k0;have HK1:=ZA k1;have HK2:=ZA k2;have XW:=ZA xW;have HW:=ZA hW;have e0:=(k0.ext xW).ZT2 0 (ZH g.gl);have e1:=(k1.ext xW).ZT2 0 (.int .i64 (who:Int));have HNL:=ZA (show(L++[(⟨who,1,0,d,0,true⟩:Zf)]).length<=L.length+1 by simp);have hgw:=ZW K1.o;have HGW:=ZA hgw;have qe0:b0≠W.heap.size:=by omega
 have qe1:b1≠W.heap.size:=by omega
 have qdl:g.gl≠W.heap.size:=by have:=ZcO W _ dl;exact ZcE this
 obtain⟨n,Hn⟩:=ZTy ((s.hs.getD 0 []).length);rw[Hn.o]at LD LD1;have HOW:=ZA (show ¬XG O w.heap.size W.heap.size from λe=>e.elim (λe=>by have:=h.ol _ e;omega) (λe=>by omega));have HCW:=ZA (show ¬C W.heap.size from λe=>by have:=h.lt _ e;omega);clear h hc hu k0 k1 k2 hA xW hW hL;go_enter Tryz.func173,Tryz.ntmps173;go_upto_region 2 with fail
 (try rw[HW.o])
 clear HW
 go_cut [6] (λv6 wd=>∃k C',v6=ZH k/\Z9 W g (XG O w.heap.size) C xb (L++[⟨who,1,0,d,0,true⟩]) s C' wd/\Zb wd (XO C' (XG O w.heap.size)) (ZH k) #[.int .u64 (d:Int)])
 case first=>
  go_region_held3 (λw'=>w'.cell? ⟨b0,0,none⟩=some (ZH g.gl)/\w'.cell? ⟨b1,0,none⟩=some (.int .i64 (who:Int))/\w'.cell? ⟨g.gl,0,none⟩=some (ZH g.gb)) (((try go_split_ands);exact⟨ZT5,ZT5,ZT5⟩))
   (first
    |(go_at_call 174;(with_reducible refine(LD.o _ (ZL.refl W).drew).mono ?_);rintro e w2 ⟨A,c,rs,C',rfl,-,hm⟩;have HM:=ZA (hm.back (ZL.refl W).drew);have hkp:=HM.o.kpg XW.o (Zb0 w.heap.size);have te0:=(HK0.o.kp hkp).ZT2 0 (ZH g.gl);have te1:=(HK1.o.kp hkp).ZT2 0 (.int .i64 (who:Int));have tdl:w2.cell? ⟨g.gl,0,none⟩=some (ZH g.gb):=HM.o.1.rd.l0;clear hm hkp)
    |(go_at_call 174;(with_reducible refine(LD1.o _ ((ZL.refl W).alloc _).drew ZTv).mono ?_);rintro e w2 ⟨A,c,rs,C',rfl,-,hm⟩;have HM1:=ZA hm;have hkp:=hm.kpb XW.o ((ZL.refl W).alloc _).drew (Zb0 w.heap.size) (Zb0 W.heap.size);have te0:=(HK0.o.kp hkp).ZT2 0 (ZH g.gl);have te1:=(HK1.o.kp hkp).ZT2 0 (.int .i64 (who:Int));have tdl:w2.cell? ⟨g.gl,0,none⟩=some (ZH g.gb):=hm.1.rd.l0;have KB:=ZA (show w2.heap[W.heap.size]?=some (.cells #[.int .u64 0] 52 (0,0))from hm.2.1.blk (Yw (ZM W _)) HCW.o);have r6:=ZE KB.o 0;have z6:=ZF KB.o 0;clear hm hkp))
  all_goals
   go_wp2_with fail
   go_meet
   first
    |exact⟨_,C',rfl,HM.o.ext ((ZL.refl w2).alloc _),Zb.new rfl (HM.o.1.newer.not (Zb0 _))⟩
    |exact⟨_,C',rfl,Z9.box ((ZL.refl W).alloc _).drew (Zb0 _) HM1.o _,Zb.box HM1.o (Yw (ZM W _)) HOW.o HCW.o _⟩
 case rest=>
  obtain⟨k,C',rfl,hm,h6⟩:=hcut;have HM:=ZA hm;have hkp:=hm.kpg XW.o (Zb0 w.heap.size);have J0:=ZA (HK0.o.kp hkp);have J1:=ZA (HK1.o.kp hkp);have J2:=ZA (HK2.o.kp hkp);have J6:=ZA h6;have hC0:¬C w.heap.size:=λe=>Zb3 _ (HLT.o _ e);have hC1:¬C (w.heap.size+1):=λe=>by have:=HLT.o _ e;omega
  have KR:=ZA (hm.2.1.blk K0.o hC0);have KN:=ZA (hm.2.1.blk K1.o hC1);have HX:=ZA hm.1.newer;have HN1:=ZA (show ¬XO C' (XG O w.heap.size) (w.heap.size+1)from λe=>e.elim (λe=>(hm.2.2 _ e).elim hC1 (λe=>by have:=HGW.o;omega)) (λe=>e.elim (λe=>by have:=HOL.o _ e;omega) (λe=>by omega)));have hq:(d:Int) / 2=(lv:Int):=by omega
  have hr:(d:Int) % 2=1:=by omega
  have f6:=h6.ZT2 0 (.int .u64 (d:Int));have hlw:IntKind.i64.wrap (lv:Int)=(lv:Int):=by rw[Zaa];omega
  clear hm hkp hC0 hC1 e0 e1 dl h6 qe0 qe1 qdl;obtain⟨V,hV⟩:=ZTz (wc.alloc (.cells #[.int .i64 (lv:Int)] 3));have xV:ZL wc V:=by rw[<-hV];exact(ZL.refl wc).alloc _
  have f8:V.cell? ⟨wc.heap.size,0,none⟩=some (.int .i64 (lv:Int)):=by rw[<-hV];exact ZE (ZM wc _) 0
  have r8:Zb V (XO C' (XG O w.heap.size)) (ZH wc.heap.size) #[.int .i64 (lv:Int)]:=by rw[<-hV];exact Zb.new rfl (HX.o.not (Zb0 _))
  have g6:=ZG xV f6;have f2:=(J2.o.ext xV).ZT2 0 (Z1 130 #[]);have KR2:=ZA (ZJ KR.o xV);have KN2:=ZJ KN.o xV;have n0:=ZTx KN2 0 (.bool false);have n1:=ZTx KN2 1 (.int .i64 0);have n2:=ZTx KN2 2 (.bool false);have n3:=ZTx KN2 3 (.int .i64 0);have n4:=ZTx KN2 4 (.int .i64 0);have n5:=ZTx KN2 5 (.int .i64 0);have n6:=ZTx KN2 6 (.int .i64 0);have XV:=ZA xV;have HV:=ZA hV;have HR8:=ZA r8;clear hV xV r8;have f0:=(J0.o.ext XV.o).ZT2 0 (ZH g.gl);have f1:=(J1.o.ext XV.o).ZT2 0 (.int .i64 (who:Int));have MV:=ZA (show Calls Tryz.prog 175 #[ZH g.gl,.int .i64 (who:Int),.int .i64 (lv:Int),.int .i64 0,Z1 130 #[]] V.drew (ClR (λw' v=>Ze w' (XO C' (XG O w.heap.size)) (Zi g who (xb who) x) v (Xi lv 0)) V.drew)from ZEa V.drew _ (Zi g who (xb who) x) lv 0 (HX.o.ext (XV.o.trans (ZL.refl V).drew)) hlv (ZcL _));have hwc:w.heap.size<wc.heap.size:=ZW KR.o;have qf0:b0≠w.heap.size:=by omega
  have qf1:b1≠w.heap.size:=by omega
  have qf2:b2≠w.heap.size:=by omega
  have qf8:wc.heap.size≠w.heap.size:=by omega
  have qn0:w.heap.size+1≠w.heap.size:=by omega
  have qn1:=qn0;have qn2:=qn0;have qn3:=qn0;have qn4:=qn0;have qn5:=qn0;have qn6:=qn0;clear hwc l0 l1 l2 hgw;go_upto_region 4 with fail
  (try rw[HV.o])
  clear HV;go_upto_region 5 with fail
  go_region_held3 (λw'=>w'.cell? ⟨b0,0,none⟩=some (ZH g.gl)/\w'.cell? ⟨b1,0,none⟩=some (.int .i64 (who:Int))/\w'.cell? ⟨wc.heap.size,0,none⟩=some (.int .i64 (lv:Int))/\w'.cell? ⟨b2,0,none⟩=some (Z1 130 #[])/\w'.cell? ⟨w.heap.size+1,0,none⟩=some (.bool false)/\w'.cell? ⟨w.heap.size+1,1,none⟩=some (.int .i64 0)/\w'.cell? ⟨w.heap.size+1,2,none⟩=some (.bool false)/\w'.cell? ⟨w.heap.size+1,3,none⟩=some (.int .i64 0)/\w'.cell? ⟨w.heap.size+1,4,none⟩=some (.int .i64 0)/\w'.cell? ⟨w.heap.size+1,5,none⟩=some (.int .i64 0)/\w'.cell? ⟨w.heap.size+1,6,none⟩=some (.int .i64 0)) (((try go_split_ands);exact⟨ZT4,ZT4,ZT4,ZT4,ZT4,ZT4,ZT4,ZT4,ZT4,ZT4,ZT4⟩)) ((go_at_call 175;(with_reducible refine MV.o.mono ?_);rintro e w3 ⟨v,rfl,hk,hx⟩;have hx':=(ZL.refl V).drew.trans hx;have HK:=ZA hk;have HXX:=ZA hx';have KR3:=ZA (ZJ KR2.o hx');obtain⟨r0,z0,r1,z1,r2,z2,r3,z3,r4,z4,r5,z5,r6,z6⟩:=ZT9 KR3.o;have tf0:=ZG (hx') f0;have tf1:=ZG (hx') f1;have tf8:=ZG (hx') f8;have tf2:=ZG (hx') f2;have tn0:=ZG (hx') n0;have tn1:=ZG (hx') n1;have tn2:=ZG (hx') n2;have tn3:=ZG (hx') n3;have tn4:=ZG (hx') n4;have tn5:=ZG (hx') n5;have tn6:=ZG (hx') n6;clear hk hx hx'))
  all_goals
   go_wp2_with fail;refine ZcY (ZQ (p:=4) (u:=3) rfl _ _ w.heap.size _ #[.bool false,.int .i64 0,.bool false,.int .i64 0,.int .i64 0,.int .i64 0,.int .i64 0] (0,0) _ rfl (Yf KR3.o _ _ _ _ _ _ _) Tryz.underlying41 ZTw ZC) rfl ?_;exact YS (r:=Jc) HNL.o XW.o (Zb0 _) (HM.o.ext (XV.o.trans HXX.o)) (ZAB HK.o) _ _ _ _ _ _ _
theorem ZG4 (w:World)(g:YE)(O C:Zdb)(xb:Nat->Nat)(L:List Zf)(s:YF)(who u d:Nat)(x:ZX)(res:Bool)(ser:Int)(f:FuncId)(caps:Array Value)(h:YK w g O C xb L s)(hc:s.call who=.run x res ser (.splitS d))(hL:L.length<=100000)(hw:who<64)(hd:d<=8)(hu:s.ws.getD 0 0=u)(hne:u≠d)(hk:Ze w (XO C O) (Zi g who (xb who) x) (Z1 f caps) (.splitS d)): Calls Tryz.prog f caps w (SK w g O C xb who (L.length+1) x s (.on .split)):=by
 obtain⟨p0,p1,p2,p3,p4,p5,hfn,⟨k0,k1⟩,k2,k3,k4,k5⟩:=hk;injection hfn with hfn h1 h2;injection hfn with hfn;subst hfn h2;obtain⟨b0,rfl,l0⟩:=k0.ptr;obtain⟨b1,rfl,l1⟩:=k1.ptr;obtain⟨b2,rfl,l2⟩:=k2.ptr;obtain⟨b3,rfl,l3⟩:=k3.ptr;obtain⟨b4,rfl,l4⟩:=k4.ptr;obtain⟨b5,rfl,l5⟩:=k5.ptr;obtain⟨W,hW⟩:=ZTz ((w.alloc ZUA));have xW:ZL w W:=by rw[<-hW];exact((ZL.refl w).alloc _)
 have K0:=ZA (show W.heap[w.heap.size]?=some ZUA by rw[<-hW];exact ZM w _);have hA:=h.xg xW (Zb0 _) (ZW K0.o);obtain⟨d2,Hd2⟩:=ZTy (d+1);have SW:=ZA (λu' (y:ZL W u')=>(show Calls Tryz.prog 80 #[ZH g.gb,.int .i64 (who:Int),.int .i64 0,.int .u64 (d:Int),.int .u64 (d2:Int),.slice none 0 0] u' _ from ZAC u' g (XG O w.heap.size) C xb L s who 0 u d d2 0 0 (d2:Int) none (hA.ext y) ZB hw ZB hu hne rfl));have e0:=(k0.ext xW).ZT2 0 (ZH g.gl);have e1:=(k1.ext xW).ZT2 0 (.int .i64 (who:Int));have e2:=(k2.ext xW).ZT2 0 (.int .u64 (d:Int));have dl:W.cell? ⟨g.gl,0,none⟩=some (ZH g.gb):=hA.rd.l0;have hl2:IntKind.u64.wrap ((d:Int)+1)=(d2:Int):=by have:=Hd2.o;rw[Zab];omega
 have HLT:=ZA h.lt;have HK3:=ZA k3;have HK0:=ZA k0;have HK1:=ZA k1;have HK2:=ZA k2;have HK4:=ZA k4;have XW:=ZA xW;have HW:=ZA hW;have HNL:=ZA (show(L++[(⟨who,2,0,d,d2,false⟩:Zf)]).length<=L.length+1 by simp);clear h hc hu hne k0 k1 k2 k3 k4 k5 hA xW hW hL hd;go_enter Tryz.func176,Tryz.ntmps176;go_upto_region 2 with fail
 (try rw[HW.o])
 clear HW
 go_region_held3 (λw'=>w'.cell? ⟨b0,0,none⟩=some (ZH g.gl)/\w'.cell? ⟨b1,0,none⟩=some (.int .i64 (who:Int))/\w'.cell? ⟨b2,0,none⟩=some (.int .u64 (d:Int))/\w'.cell? ⟨g.gl,0,none⟩=some (ZH g.gb)) (((try go_split_ands);exact⟨ZT3,ZT3,ZT3,ZT3⟩)) ((go_at_call 80;(with_reducible refine(SW.o _ (ZL.refl W).drew).mono ?_);rintro e w2 ⟨rfl,hg⟩;obtain⟨C',hm⟩:=hg.mov;have HM:=ZA (hm.back (ZL.refl W).drew);have hkp:=HM.o.kpg XW.o (Zb0 w.heap.size);have te0:=(HK0.o.kp hkp).ZT2 0 (ZH g.gl);have te1:=(HK1.o.kp hkp).ZT2 0 (.int .i64 (who:Int));have te2:=(HK2.o.kp hkp).ZT2 0 (.int .u64 (d:Int));have tdl:w2.cell? ⟨g.gl,0,none⟩=some (ZH g.gb):=HM.o.1.rd.l0;clear hm hg hkp))
 all_goals
  have hkp:=HM.o.kpg XW.o (Zb0 w.heap.size);have KR:=ZA (HM.o.2.1.blk K0.o (λe=>Zb3 _ (HLT.o _ e)));have f0:=(HK0.o.kp hkp).ZT2 0 (ZH g.gl);have f1:=(HK1.o.kp hkp).ZT2 0 (.int .i64 (who:Int));have f3:=(HK3.o.kp hkp).ZT2 0 (Z1 130 #[]);have KN:=HK4.o.kp hkp;have n0:=KN.ZT2 0 (.bool false);have n1:=KN.ZT2 1 (.int .i64 0);have n2:=KN.ZT2 2 (.bool false);have n3:=KN.ZT2 3 (.int .i64 0);have n4:=KN.ZT2 4 (.int .i64 0);have n5:=KN.ZT2 5 (.int .i64 0);have n6:=KN.ZT2 6 (.int .i64 0);have MV:=ZA (show Calls Tryz.prog 129 #[ZH g.gl,.int .i64 (who:Int),Z1 130 #[]] w2.drew (ClR (λw' v=>Ze w' (XO C' (XG O w.heap.size)) (Zi g who (xb who) x) v .split) w2.drew)from ZGF w2.drew _ (Zi g who (xb who) x) (HM.o.1.newer.ext (ZL.refl w2).drew));have qf0:b0≠w.heap.size:=by omega
  have qf1:b1≠w.heap.size:=by omega
  have qf3:b3≠w.heap.size:=by omega
  have qn0:b4≠w.heap.size:=by omega
  have qn1:=qn0;have qn2:=qn0;have qn3:=qn0;have qn4:=qn0;have qn5:=qn0;have qn6:=qn0;clear hkp KN e0 e1 e2 dl l0 l1 l2 l3 l4 l5;go_upto_region 3 with fail
  go_region_held3 (λw'=>w'.cell? ⟨b0,0,none⟩=some (ZH g.gl)/\w'.cell? ⟨b1,0,none⟩=some (.int .i64 (who:Int))/\w'.cell? ⟨b3,0,none⟩=some (Z1 130 #[])/\w'.cell? ⟨b4,0,none⟩=some (.bool false)/\w'.cell? ⟨b4,1,none⟩=some (.int .i64 0)/\w'.cell? ⟨b4,2,none⟩=some (.bool false)/\w'.cell? ⟨b4,3,none⟩=some (.int .i64 0)/\w'.cell? ⟨b4,4,none⟩=some (.int .i64 0)/\w'.cell? ⟨b4,5,none⟩=some (.int .i64 0)/\w'.cell? ⟨b4,6,none⟩=some (.int .i64 0)) (((try go_split_ands);exact⟨ZT4,ZT4,ZT4,ZT4,ZT4,ZT4,ZT4,ZT4,ZT4,ZT4⟩)) ((go_at_call 129;(with_reducible refine MV.o.mono ?_);rintro e w3 ⟨v,rfl,hk,hx⟩;have hx':=(ZL.refl w2).drew.trans hx;have HK:=ZA hk;have HXX:=ZA hx';have KR3:=ZA (ZJ KR.o hx');obtain⟨r0,z0,r1,z1,r2,z2,r3,z3,r4,z4,r5,z5,r6,z6⟩:=ZT9 KR3.o;have tf0:=ZG (hx') f0;have tf1:=ZG (hx') f1;have tf3:=ZG (hx') f3;have tn0:=ZG (hx') n0;have tn1:=ZG (hx') n1;have tn2:=ZG (hx') n2;have tn3:=ZG (hx') n3;have tn4:=ZG (hx') n4;have tn5:=ZG (hx') n5;have tn6:=ZG (hx') n6;clear hk hx hx'))
  all_goals
   go_wp2_with fail;refine ZcY (ZQ (p:=7) (u:=6) rfl _ _ w.heap.size _ #[.bool false,.int .i64 0,.bool false,.int .i64 0,.int .i64 0,.int .i64 0,.int .i64 0] (0,0) _ rfl (Yf KR3.o _ _ _ _ _ _ _) Tryz.underlying41 ZTw ZC) rfl ?_;exact YS (r:=Jc) HNL.o XW.o (Zb0 _) (HM.o.ext HXX.o) (ZAB HK.o) _ _ _ _ _ _ _
theorem ZDM (w:World)(g:YE)(O C:Zdb)(xb:Nat->Nat)(L:List Zf)(s s1:YF)(who lv u:Nat)(x:ZX)(res:Bool)(ser:Int)(f:FuncId)(caps:Array Value)(h:YK w g O C xb L s)(hc:s.call who=.run x res ser (.moveEnd lv))(hL:L.length<=100000)(hw:who<64)(hlv:lv<=3)(hu:s.ws.getD 0 0=u)(hs1:s1=if u=2*lv+1 then {s with ws:=s.ws.set 0 (2*lv+2),hs:=s.hs.set 0 []} else s)(hk:Ze w (XO C O) (Zi g who (xb who) x) (Z1 f caps) (.moveEnd lv)): Calls Tryz.prog f caps w (SK w g O C xb who (L.length+1) x s1 (.fin (Yb 0))):=by
 obtain⟨p0,p1,p2,p3,hfn,⟨k0,k1⟩,k2,k3⟩:=hk;injection hfn with hfn h1 h2;injection hfn with hfn;subst hfn h2;obtain⟨b0,rfl,l0⟩:=k0.ptr;obtain⟨b1,rfl,l1⟩:=k1.ptr;obtain⟨b2,rfl,l2⟩:=k2.ptr;obtain⟨b3,rfl,l3⟩:=k3.ptr;obtain⟨W,hW⟩:=ZTz ((w.alloc ZUA));have xW:ZL w W:=by rw[<-hW];exact((ZL.refl w).alloc _)
 have K0:=ZA (show W.heap[w.heap.size]?=some ZUA by rw[<-hW];exact ZM w _);have hA:=h.xg xW (Zb0 _) (ZW K0.o);obtain⟨d,Hd⟩:=ZTy (2*lv+1);obtain⟨d2,Hd2⟩:=ZTy (2*lv+2);rw[Hd.o,Hd2.o]at hs1
 have SW:=ZA (λu' (y:ZL W u')=>(show Calls Tryz.prog 80 #[ZH g.gb,.int .i64 (who:Int),.int .i64 0,.int .u64 (d:Int),.int .u64 (d2:Int),.slice none 0 0] u' (λe w'=>∃b L',L'.length<=L.length+1/\e=.returned (.bool b)/\ZBE u' g (XG O w.heap.size) C xb L' s1 w')from by
  by_cases h0:u=d
  ·rw[Zcg h0]at hs1;refine(Jl u' g (XG O w.heap.size) C xb L s who 0 d d2 0 0 (d2:Int) none [] [] (hA.ext y) ZB hw ZB (hu.trans h0) rfl rfl (ZGg _ _)).mono ?_;rintro e w' ⟨rfl,hg⟩;exact⟨_,L++[⟨who,2,0,d,d2,true⟩],by simp,rfl,by rw[hs1];exact hg⟩
  ·rw[Zcf h0]at hs1;refine(ZAC u' g (XG O w.heap.size) C xb L s who 0 u d d2 0 0 (d2:Int) none (hA.ext y) ZB hw ZB hu h0 rfl).mono ?_;rintro e w' ⟨rfl,hg⟩;exact⟨_,L++[⟨who,2,0,d,d2,false⟩],by simp,rfl,by rw[hs1];exact hg⟩))
 have e0:=(k0.ext xW).ZT2 0 (ZH g.gl);have e1:=(k1.ext xW).ZT2 0 (.int .i64 (who:Int));have e2:=(k2.ext xW).ZT2 0 (.int .i64 (lv:Int));have dl:W.cell? ⟨g.gl,0,none⟩=some (ZH g.gb):=hA.rd.l0;have hlw:IntKind.i64.wrap (2*(lv:Int))=2*(lv:Int):=by rw[Zaa];omega
 have hl1:IntKind.i64.wrap (2*(lv:Int)+1)=(d:Int):=by have:=Hd.o;rw[Zaa];omega
 have hl2:IntKind.i64.wrap (2*(lv:Int)+2)=(d2:Int):=by have:=Hd2.o;rw[Zaa];omega
 have hu1:IntKind.u64.wrap (d:Int)=(d:Int):=by have:=Hd.o;rw[Zab];omega
 have hu2:IntKind.u64.wrap (d2:Int)=(d2:Int):=by have:=Hd2.o;rw[Zab];omega
 have HLT:=ZA h.lt;have HK3:=ZA k3;have HK0:=ZA k0;have HK1:=ZA k1;have HK2:=ZA k2;have XW:=ZA xW;have HW:=ZA hW;clear h hc hu hs1 k0 k1 k2 k3 hA xW hW l0 l1 l2 l3 hL hlv;go_enter Tryz.func231,Tryz.ntmps231;go_upto_region 2 with fail
 (try rw[HW.o])
 clear HW
 go_region_held3 (λw'=>w'.cell? ⟨b0,0,none⟩=some (ZH g.gl)/\w'.cell? ⟨b1,0,none⟩=some (.int .i64 (who:Int))/\w'.cell? ⟨b2,0,none⟩=some (.int .i64 (lv:Int))/\w'.cell? ⟨g.gl,0,none⟩=some (ZH g.gb)) (((try go_split_ands);exact⟨ZT3,ZT3,ZT3,ZT3⟩)) ((go_at_call 80;(with_reducible refine(SW.o _ (ZL.refl W).drew).mono ?_);rintro e w2 ⟨bb,L',hl',rfl,hg⟩;obtain⟨C',hm⟩:=hg.mov;have HNL:=ZA hl';have HM:=ZA (hm.back (ZL.refl W).drew);have hkp:=HM.o.kpg XW.o (Zb0 w.heap.size);have te0:=(HK0.o.kp hkp).ZT2 0 (ZH g.gl);have te1:=(HK1.o.kp hkp).ZT2 0 (.int .i64 (who:Int));have te2:=(HK2.o.kp hkp).ZT2 0 (.int .i64 (lv:Int));have tdl:w2.cell? ⟨g.gl,0,none⟩=some (ZH g.gb):=HM.o.1.rd.l0;clear hm hg hkp hl'))
 all_goals
  have hkp:=HM.o.kpg XW.o (Zb0 w.heap.size);have J3:=ZA (HK3.o.kp hkp);have KR:=ZA (HM.o.2.1.blk K0.o (λe=>Zb3 _ (HLT.o _ e)));have f3:w2.cell? ⟨b3,0,none⟩=some ZE1:=J3.o.cell 0;clear hkp;unfold ZE1 at f3;go_wp2_with fail;refine(show Calls Tryz.prog 130 #[.int .i64 0] w2 _ from ZE4 0 w2).mono ?_;rintro e w3 ⟨rfl,hx⟩;have HXX:=ZA hx;have K3:=ZA (ZJ KR.o hx);obtain⟨r0,z0,r1,z1,r2,z2,r3,z3,r4,z4,r5,z5,r6,z6⟩:=ZT9 K3.o;clear hx f3;go_wp2_with fail;refine ZcY (ZQ (p:=5) (u:=4) rfl _ _ (w.heap.size) _ #[.bool true,.int .i64 ((Yb 0).er:Int),.bool (Yb 0).granted,.int .i64 (Yb 0).left,.int .i64 (Yb 0).wait,.int .i64 (Yb 0).ser,.int .i64 (Yb 0).now] (0,0) _ rfl (Yf K3.o _ _ _ _ _ _ _) Tryz.underlying41 ZTw ZC) rfl ?_;exact YS (out:=.fin (Yb 0)) (nv:=.nilFunc) (done:=true) (r:=Yb 0) (x:=x) (who:=who) HNL.o XW.o (Zb0 _) (HM.o.ext HXX.o) ⟨rfl,rfl,rfl⟩ _ _ _ _ _ _ _
def ZBC:List Nat->Nat
 |[]=>0
 |d::ds=>d+4294967296*ZBC ds
theorem ZJf (xs ys:List Nat):ZBC (xs++ys)=ZBC xs+4294967296 ^ xs.length*ZBC ys:=by
 induction xs with
 |nil=>simp[ZBC]
 |cons x xs ih=>
  rw[Zaj,ZBC,ih,ZBC,ZbA,ZcJ,Nat.mul_add,ZcB (4294967296 ^ xs.length) 4294967296,Nat.mul_assoc];omega
theorem ZNS (xs:List Nat)(h:∀d ∈ xs,d=0):ZBC xs=0:=by
 induction xs with
 |nil=>rfl
 |cons x xs ih=>
  rw[ZBC,ih (λd hd=>h d (by simp[hd])),h x ZTv]
theorem ZNT (xs:List Nat)(n:Nat)(h:∀j d,n<=j->xs[j]?=some d->d=0):ZBC (xs.take n)=ZBC xs:=by
 have e:ZBC xs=ZBC (xs.take n++xs.drop n):=by rw[Zbg]
 rw[e,ZJf,ZNS (xs.drop n)]
 ·omega
 ·intro d hd;obtain⟨j,hj⟩:=Za2 hd;rw[Zay]at hj;exact h (n+j) d ZB hj
def ZSI (xs:List Nat):Prop:=xs=[]\/∃ys d,xs=ys++[d]/\0<d
def ZS2 (v:Nat)(ds:List Nat):Prop:=ds.length<=2/\(∀d ∈ ds,d<4294967296)/\ZBC ds=v
theorem ZJL:∀u:World,(sizeOf 52).run Tryz.prog u=.ok 1 u:=λ_=>by kernel_rfl
theorem ZDs {P:Program}{t e:TypeId}(ht:P.underlying t=some (.slice e))(hz:∀u:World,(sizeOf e).run P u=.ok 1 u){A:Option Addr}{n c:Nat}(k:Nat)(h1:k<=c)(hA:∀a,A=some a->a.spot=none)(u:World): (Instr.slice t (.slice A n c) none (some (.int .i64 (k:Int))) none).run P u=.ok (.slice A k c) u:=by
 have he:P.elem t=e:=by simp[Program.elem,ht]
 rw[run_slice_h (P:=P) u t _ n c (by rw[he];exact ht) .i64 (k:Int) ZB ZB];rw[he,hz];cases A with
 |none=>simp[Result.andThen,sliced,ZaY]
 |some a=>
  obtain⟨b,off,s⟩:=a;obtain rfl:s=none:=hA _ rfl;simp[Result.andThen,sliced,ZaY,Addr.add]
def ZSG (A:Option Addr)(c:Nat)(xs:List Nat)(w:World)(e:Ending)(w':World):Prop:=∃n,e=.returned (.slice A n c)/\n<=xs.length/\ZBC (xs.take n)=ZBC xs/\ZSI (xs.take n)/\w=w'
theorem ZNI (w:World)(A:Option Addr)(m c:Nat)(xs:List Nat)(hl:xs.length=m)(hm:m<=1000)(hc:m<=c)(hA:∀a,A=some a->a.spot=none)(hr:Rd w A (ZV .u64 xs)): Calls Tryz.prog 127 #[.slice A m c] w (ZSG A c xs w):=by
 have Hl:=ZA hl;have Hr:=ZA hr;have HA:=ZA hA;clear hl hr hA;go_enter Tryz.func127,Tryz.ntmps127;go_wp2
 go_loop [3] (λv=>∃n:Nat,n<=m/\v=.int .i64 (n:Int)/\∀j d,n<=j->xs[j]?=some d->d=0) (λv=>(intOf v).toNat)
 case atStart=>exact⟨m,Zb0 _,rfl,λj d hj hd=>by have:=(Za0.1 hd).1;have:=Hl.o;omega⟩
 case round=>
  obtain⟨n,hn,rfl,hz⟩:=hrel;have HZ:=ZA hz;clear hz;have fin:ZSI (xs.take n)->ZSG A c xs w (.returned (.slice A n c)) w:=λh=>⟨n,rfl,by rw[Hl.o];exact hn,ZNT xs n HZ.o,h,rfl⟩;have FIN:=ZA fin;clear fin;cases n with
  |zero=>
   have hsl:=ZDs (P:=Tryz.prog) Tryz.underlying200 ZJL (A:=A) (n:=m) (c:=c) 0 ZB HA.o;go_wp2;go_ret;exact FIN.o (.inl ZTv)
  |succ n=>
   obtain⟨x,hx⟩:=JR (xs:=xs) (j:=n) (by rw[Hl.o];omega);obtain⟨b,off,hA,_,hcell⟩:=Hr.o.at_ hx;have Hx:=ZA hx;subst hA;clear hx;have e1:IntKind.i64.wrap (((n+1:Nat):Int) - 1)=(n:Int):=by rw[Zaa];omega
   by_cases h0:x=0
   ·subst h0;go_wp2
    go_round
    case rel=>exact⟨n,by omega,rfl,λj d hj hd=>by
     by_cases e:j=n
     ·subst e;rw[Hx.o]at hd;injection hd with hd;exact hd.symm
     ·exact HZ.o j d ZB hd⟩
    case measure=>simp[intOf]
   ·have hd:((x:Int)==0)=false:=by rw[ZcW];omega
    have hsl:=ZDs (P:=Tryz.prog) Tryz.underlying200 ZJL (A:=some ⟨b,off,none⟩) (n:=m) (c:=c) (n+1) ZB HA.o;go_wp2;go_ret;exact FIN.o (.inr ⟨xs.take n,x,Zr Hx.o,by omega⟩)
def ZTo (v:Nat)(w:World)(e:Ending)(w':World):Prop:=∃A n c ds,e=.returned (.slice A n c)/\ds.length=n/\n<=c/\(∀a,A=some a->a.spot=none)/\Rd w' A (ZV .u64 ds)/\ZS2 v ds/\ZL w w'
theorem ZPK {w:World}{A:Option Addr}{xs:List Nat}(n:Nat)(h:Rd w A (ZV .u64 xs)):Rd w A (ZV .u64 (xs.take n)):=by
 intro hne;have hne':ZV .u64 xs≠[]:=λe=>hne (by rw[JN,e,List.take_nil]);obtain⟨b,off,hA,hc⟩:=h hne';refine⟨b,off,hA,λj u hu=>hc j u ?_⟩;rw[JN,Za6]at hu
 split at hu
 ·exact hu
 ·cases hu
theorem ZNH (v:Nat)(w:World)(hv:v / 4294967296<4294967296):Calls Tryz.prog 84 #[.int .u64 (v:Int)] w (ZTo v w):=by
 have hwr:IntKind.u64.wrap ((v:Int) / 4294967296)=(v:Int) / 4294967296:=by rw[Zab];omega
 have Hv:=ZA hv;clear hv;go_enter Tryz.func84,Tryz.ntmps84;go_wp2_with fail
 refine(ZNI _ (some ⟨w.heap.size,0,none⟩) 2 2 [v % 4294967296,v / 4294967296] rfl ZB ZB (λa ha=>by injection ha with ha;subst ha;rfl) (by
  have:=ZES w (ZV .u64 [v % 4294967296,v / 4294967296]) 52;simpa[ZV]using this)).mono ?_
 rintro e w' ⟨n,rfl,h1,h2,h3,rfl⟩;go_wp2_with fail;go_ret;refine⟨_,n,2,[v % 4294967296,v / 4294967296].take n,rfl,by simp at h1 ⊢;omega,h1,(λa ha=>by injection ha with ha;subst ha;rfl),ZPK n ?_,⟨by simp;omega,λd hd=>?_,?_⟩,(ZL.refl w).alloc _⟩
 ·have:=ZES w (ZV .u64 [v % 4294967296,v / 4294967296]) 52;simpa[ZV]using this
 ·have:=ZbR hd;have h9:=Hv.o;simp at this;omega
 ·rw[h2];simp[ZBC];omega
theorem ZQD {ds:List Nat}(hd:∀d ∈ ds,d<4294967296)(hl:ds.length<=2)(k:Nat)(x:Nat)(hx:ds[k]?=some x):ZBC (ds.drop k)=x+4294967296*ZBC (ds.drop (k+1))/\ZBC (ds.drop (k+1))<4294967296/\x<4294967296:=by
 have hk:=(Za0.1 hx);obtain⟨hk,he⟩:=hk;refine⟨by rw[List.drop_eq_getElem_cons hk,he];rfl,?_,hd x (ZbO hx)⟩;have h1:(ds.drop (k+1)).length<=1:=by simp;omega
 have h2:∀d ∈ ds.drop (k+1),d<4294967296:=λd h=>hd d (ZbP h)
 match hh:ds.drop (k+1),h1 with
 |[],_=>simp[ZBC]
 |[a],_=>
  have:=h2 a (by rw[hh];simp);simp[ZBC];omega
theorem ZNK (w:World)(A:Option Addr)(n c v:Nat)(ds:List Nat)(hl:ds.length=n)(hr:Rd w A (ZV .u64 ds))(hd:ZS2 v ds): Calls Tryz.prog 126 #[.slice A n c] w λe w'=>e=.returned (.tuple #[.int .u64 (v:Int),.bool true])/\w=w':=by
 have hn2:n<=2:=by rw[<-hl];exact hd.1
 have HL:=ZA hl;have HR:=ZA hr;have HD:=ZA hd;clear hl hr hd;go_enter Tryz.func126,Tryz.ntmps126;go_wp2
 go_loop [4,5] (λx i=>∃(k:Nat) (j:Int),k<=n/\j=(k:Int) - 1/\i=.int .i64 j/\x=.int .u64 (ZBC (ds.drop k):Int)) (λ_ i=>(intOf i+1).toNat)
 case atStart=>exact⟨n,_,Zb0 _,rfl,rfl,by rw[Zan (by rw[HL.o];exact Zb0 _)];rfl⟩
 case round=>
  obtain⟨k,j,hk,hj,rfl,rfl⟩:=hrel;cases k with
  |zero=>
   obtain rfl:j= -1:=by omega
   clear hj;rw[List.drop_zero,HD.o.2.2];have hle:(n:Int)<=2:=by omega
   go_wp2
   go_ret2
   exact⟨rfl,rfl⟩
  |succ k=>
   obtain rfl:j=(k:Int):=by omega
   clear hj;obtain⟨x,hx⟩:=JR (xs:=ds) (j:=k) (by rw[HL.o];omega);obtain⟨b,off,hA,_,hcell⟩:=HR.o.at_ hx;obtain⟨q1,q2,q3⟩:=ZQD HD.o.2.1 HD.o.1 k x hx;obtain⟨y,hy⟩:=ZTz (ZBC (ds.drop (k+1)));have Q1:=ZA q1;rw[hy]at Q1 q2 ⊢;have HY:=ZA hy;subst hA;clear hx q1 hy;have hkn:k<n:=by omega
   go_wp2
   go_round
   case rel=>exact⟨k,_,by omega,rfl,rfl,ZLZ (by rw[Q1.o];omega)⟩
   case measure=>simp[intOf]
theorem ZNJ (w:World)(A:Option Addr)(n c v:Nat)(ds:List Nat)(hl:ds.length=n)(hr:Rd w A (ZV .u64 ds))(hd:ZS2 v ds): Calls Tryz.prog 83 #[.slice A n c] w λe w'=>e=.returned (.int .i64 (min (v:Int) 4611686018427387903))/\w=w':=by
 have C:=ZA (ZNK w A n c v ds hl hr hd);clear hl hr hd;by_cases h:(v:Int)<=4611686018427387903
 ·rw[show min (v:Int) 4611686018427387903=(v:Int) by omega];go_enter Tryz.func83,Tryz.ntmps83;go_wp2_with fail;refine C.o.mono ?_;rintro e w' ⟨rfl,rfl⟩;go_wp2_with fail;go_ret;exact⟨rfl,rfl⟩
 ·rw[show min (v:Int) 4611686018427387903=4611686018427387903 by omega];go_enter Tryz.func83,Tryz.ntmps83;go_wp2_with fail;refine C.o.mono ?_;rintro e w' ⟨rfl,rfl⟩;go_wp2_with fail;go_ret;exact⟨rfl,rfl⟩
theorem ZK5 (n:Int)(w:World)(h2:n<=9223372036854775807): Calls Tryz.prog 40 #[.int .i64 n] w λe w'=>e=.returned (.int .i64 (min (max n 0) 4611686018427387903))/\ZL w w':=by
 by_cases h0:n<0
 ·rw[show min (max n 0) 4611686018427387903=0 by omega];go_enter Tryz.func40,Tryz.ntmps40;go_wp2;go_ret;exact⟨rfl,ZL.refl w⟩
 ·obtain⟨k,rfl⟩:∃k:Nat,n=(k:Int):=⟨n.toNat,by omega⟩;rw[show max (k:Int) 0=(k:Int) by omega];go_enter Tryz.func40,Tryz.ntmps40;go_wp2_with fail;refine(ZNH k w ZB).mono ?_;rintro e w1 ⟨A,m,c,ds,rfl,h1,_,_,h4,h5,h6⟩;go_wp2_with fail;refine(ZNJ w1 A m c k ds h1 h4 h5).mono ?_;rintro e w2 ⟨rfl,rfl⟩;go_wp2_with fail;go_ret;exact⟨rfl,h6⟩
def ZEJ (xs:List Nat)(w:World)(e:Ending)(w':World):Prop:=∃B m d,e=.returned (.tuple #[.slice B m d,.int .i64 ((xs.length - (Zy xs).2.1.length:Nat):Int),.bool (Zy xs).2.2])/\PL w' w.heap.size B m d (Zy xs).1/\ZL w w'
theorem ZLC {xs:List Nat}(hb:∀x ∈ xs,x<256):Z4 (xs.take 4)<4294967296:=by
 have h:=ZBY (xs.take 4) (λx hx=>hb x (ZbR hx));refine Zb5 h (Zb2 (ZcI ZB (List.length_take_le 4 xs)) (by decide))
theorem ZLn (w:World)(A:Option Addr)(n c:Nat)(xs:List Nat)(hl:xs.length=n)(hnc:n<=c)(hb:∀x ∈ xs,x<256)(hr:Rd w A (ZV .u8 xs))(hN:n<=5000000000000): Calls Tryz.prog 65 #[.slice A n c] w (ZEJ xs w):=by
 have Hl:=ZA hl;have Hb:=ZA hb;have Hr:=ZA hr;clear hl hb hr;go_enter Tryz.func65,Tryz.ntmps65;go_wp2_with fail
 go_loopw [5,6] (λv5 v6 wr=>∃(k m d:Nat) (B:Option Addr) (pss:List (List Nat)),v5=.slice B m d/\v6=.int .i64 (k:Int)/\k<=n/\m<=k/\PL wr w.heap.size B m d pss/\ZL w wr/\pss++(Zy (xs.drop k)).1=(Zy xs).1/\(Zy (xs.drop k)).2=(Zy xs).2) (λ_ v6 _=>n - (intOf v6).toNat)
 case atStart=>exact⟨0,0,0,none,[],rfl,rfl,ZcL _,Zb0 _,PL.nil _ _,ZL.refl w,rfl,rfl⟩
 case round=>
  obtain⟨k,m,d,B,pss,rfl,rfl,hk,hmk,hP,hx,hp1,hp2⟩:=hrel;have HP:=ZA hP;have HX:=ZA hx;have HP1:=ZA hp1;have HP2:=ZA hp2;have hdl0:(xs.drop k).length=n - k:=by rw[ZbB,Hl.o]
  obtain⟨nk,hnk⟩:=ZTz (n - k);have hsub:IntKind.i64.wrap ((n:Int) - (k:Int))=(nk:Int):=by rw[Zaa];omega
  have hdl:(xs.drop k).length=nk:=hdl0.trans hnk;have HDL:=ZA hdl;have HNK:=ZA hnk;clear hP hx hp1 hp2 hdl0;by_cases h4:nk<4
  ·have hh:Yx (xs.drop k)=0:=ZHn ZB;have h4i:¬(4:Int)<=(nk:Int):=by omega
   have h4d:decide ((4:Int)<=(nk:Int))=false:=Zca h4i
   have FIN:ZD (ZEJ xs w (.returned (.tuple #[.slice B m d,.int .i64 (k:Int),.bool false])) wr):=ZA (by
    have e1:=ZBO hh;have h1:=HP1.o;have h2:=HP2.o;rw[e1]at h1 h2;refine⟨B,m,d,?_,by rw[<-h1,Zag];exact HP.o,HX.o⟩;rw[<-h2,Hl.o]
    dsimp only
    rw[hdl,show n - nk=k by have:=HNK.o;omega])
   clear hh hdl h4 hnk;go_wp2_with fail
   go_ret3
   exact FIN.o
  ·have h4d:decide ((4:Int)<=(nk:Int))=true:=Zcb ZB;obtain⟨N,hN'⟩:=ZTz (Z4 ((xs.drop k).take 4));have hbd:∀x ∈ xs.drop k,x<256:=λx hx=>Hb.o x (ZbP hx);have hN4:N<4294967296:=by rw[<-hN'];exact ZLC hbd
   obtain⟨k4,hk4⟩:=ZTz (k+4);have HK4:=ZA hk4;have hw4:IntKind.i64.wrap ((k:Int)+4)=(k4:Int):=by rw[Zaa];omega
   obtain⟨A1,hs1,hr1⟩:=ZDI (P:=Tryz.prog) Tryz.underlying32 Xo (A:=A) (n:=n) (c:=c) (m:=4) (d:=c - k) k k4 rfl rfl ZB hnc ZB ZB;have hv1:=hr1 wr (ZV .u8 xs) (by rw[XM];exact Hl.o) (Hr.o.ext HX.o);rw[<-JO,<-JN]at hv1;have NUM0:=Jw wr A1 4 (c - k) ((xs.drop k).take 4) (by rw[ZbG,hdl];omega) ZB (λx hx=>hbd x (ZbR hx)) hv1;rw[hN']at NUM0;have NUM:=ZA NUM0;have HNN:=ZA hN';have HBD:=ZA hbd;have hwN:IntKind.i64.wrap (N:Int)=(N:Int):=by rw[Zaa];omega
   have HH:=ZA (show Yx (xs.drop k)=if N=0\/4096<N then 1 else if nk - 4<N then 0 else 2 by
    unfold Yx;rw[hdl,Zcf h4,hN'])
   have H4:=ZA h4;clear hN' hbd hv1 hr1 NUM0 hdl h4;by_cases hbad:N=0\/4096<N
   ·have FIN:ZD (ZEJ xs w (.returned (.tuple #[.slice B m d,.int .i64 (k:Int),.bool true])) wr):=ZA (by
     have hh:=HH.o;rw[Zcg hbad]at hh;have e1:=ZC0 hh;have h1:=HP1.o;have h2:=HP2.o;rw[e1]at h1 h2;refine⟨B,m,d,?_,by rw[<-h1,Zag];exact HP.o,HX.o⟩;rw[<-h2,Hl.o]
     dsimp only
     rw[HDL.o,show n - nk=k by have:=HNK.o;omega])
    rcases hbad with h0|h0
    ·have b1:decide ((N:Int)<1)=true:=Zcb ZB;clear h0 hk4 hnk;go_wp2_with fail;refine NUM.o.mono ?_;rintro e w3 ⟨rfl,rfl⟩;go_wp2_with fail
     go_ret3
     exact FIN.o
    ·have b1:decide ((N:Int)<1)=false:=Zca ZB;have b2:decide ((4096:Int)<(N:Int))=true:=Zcb ZB;clear h0 hk4 hnk;go_wp2_with fail;refine NUM.o.mono ?_;rintro e w3 ⟨rfl,rfl⟩;go_wp2_with fail
     go_ret3
     exact FIN.o
   ·have hN1:1<=N:=by omega
    have hN2:N<=4096:=by omega
    have b1:decide ((N:Int)<1)=false:=Zca ZB;have b2:decide ((4096:Int)<(N:Int))=false:=Zca ZB;obtain⟨n5,hn5⟩:=ZTz (nk - 4);have hsub2:IntKind.i64.wrap ((nk:Int) - 4)=(n5:Int):=by have:=H4.o;rw[Zaa];omega
    have HN5:=ZA hn5;by_cases hfew:nk - 4<N
    ·have b3:decide ((n5:Int)<(N:Int))=true:=Zcb ZB;have b3':decide (n5<N)=true:=Zcb ZB
     have FIN:ZD (ZEJ xs w (.returned (.tuple #[.slice B m d,.int .i64 (k:Int),.bool false])) wr):=ZA (by
      have hh:=HH.o;rw[Zcf hbad,Zcg hfew]at hh;have e1:=ZBO hh;have h1:=HP1.o;have h2:=HP2.o;rw[e1]at h1 h2;refine⟨B,m,d,?_,by rw[<-h1,Zag];exact HP.o,HX.o⟩;rw[<-h2,Hl.o]
      dsimp only
      rw[HDL.o,show n - nk=k by have:=HNK.o;omega])
     clear hfew hbad hn5 hk4 hnk;go_wp2_with fail;refine NUM.o.mono ?_;rintro e w3 ⟨rfl,rfl⟩;go_wp2_with fail
     go_ret3
     exact FIN.o
    ·have b3:decide ((n5:Int)<(N:Int))=false:=Zca ZB;have b3':decide (n5<N)=false:=Zca ZB;have h4n:=H4.o;have hh:Yx (xs.drop k)=2:=by have h9:=HH.o;rwa [Zcf hbad,Zcf hfew]at h9
     obtain⟨kN,hkN⟩:=ZTz (k4+N);obtain⟨fN,hfN⟩:=ZTz (4+N);have hw5:IntKind.i64.wrap ((k4:Int)+(N:Int))=(kN:Int):=by rw[Zaa];omega
     have hw6:IntKind.i64.wrap ((4:Int)+(N:Int))=(fN:Int):=by rw[Zaa];omega
     have hw7:IntKind.i64.wrap ((k:Int)+(fN:Int))=(kN:Int):=by rw[Zaa];omega
     have HF3:=ZA (show N<=n5 by omega);have HKN:=ZA hkN;have HFN:=ZA hfN;obtain⟨A2,hs2,hr2⟩:=ZDI (P:=Tryz.prog) Tryz.underlying32 Xo (A:=A) (n:=n) (c:=c) (m:=N) (d:=c - k4) k4 kN rfl rfl ZB hnc ZB ZB;have hpay:(xs.drop k4).take N=ZAj (xs.drop k):=by unfold ZAj;rw[HNN.o,Zal,hk4]
     have hrest:JW (xs.drop k)=xs.drop kN:=by unfold JW;rw[HNN.o,Zal,Zal];congr 1;omega
     have hpl:(ZAj (xs.drop k)).length=N:=by rw[(ZCT hh).2.1];exact HNN.o
     have hv2:=λu (x:ZL wr u)=>hr2 u (ZV .u8 xs) (by rw[XM];exact Hl.o) ((Hr.o.ext HX.o).ext x);rw[<-JO,<-JN,hpay]at hv2;have TW:=ZA (ZBm A2 N (c - k4) (ZAj (xs.drop k)) wr hpl ZB (hv2 wr (ZL.refl wr)));have HH2:=ZA hh;have HPL:=ZA hpl;have HRE:=ZA hrest;clear hfew hbad hh hpay hrest hpl hv2 hr2 hkN hfN hn5 hk4 hnk h4n;go_wp2_with fail;refine NUM.o.mono ?_;rintro e w3 ⟨rfl,rfl⟩;go_wp2_with fail;refine TW.o.mono ?_;rintro e w4 ⟨A4,c4,rfl,hown4,hx4⟩;rw[HPL.o]at hown4 ⊢;have hg4:wr.grownBy w4 none:=⟨hx4.os,hx4.tape,hx4.output,hx4.size,λk hk _=>hx4.block k hk⟩;obtain⟨vs,hPv⟩:=HP.o.open_ hg4 (λk hk=>by cases hk);have hov:=hPv.own;have hsz4:wr.heap.size<=w4.heap.size:=hx4.size;have hszw:w.heap.size<=wr.heap.size:=HX.o.size;have HO4:=ZA hown4;have HPV:=ZA hPv;have HX4:=ZA hx4;clear hown4 hPv hx4 hg4;go_wp2_with (first|(at_builtin;refine ZQf _ rfl (.tmp 35) (.tmp 45) rfl w.heap.size rfl (hov.alloc _) rfl (m:=1) (news:=[.slice A4 N c4]) rfl (ZES _ _ _) (λu hu=>by rw[ZbU.1 hu];rfl) ZB (by simp;omega) ?_;intro B5 cb5 w5 hown5 hgrow5 _)|fail)
     go_roundw
     case rel=>
      have e1:=ZBX HH2.o;have h1:=HP1.o;have h2:=HP2.o;rw[e1,HRE.o]at h1 h2;have hsn:PL w5 w.heap.size B5 (m+1) cb5 (pss++[ZAj (xs.drop k)]):=HPV.o.snoc (by rw[HPL.o];exact HO4.o) (by rw[HPL.o];omega) hszw hsz4 (ZcT _ _ _) (by rw[HPL.o];exact hown5) hgrow5;exact⟨kN,m+1,cb5,B5,pss++[ZAj (xs.drop k)],rfl,rfl,by have:=HKN.o;have:=HK4.o;have:=HNK.o;have:=HN5.o;have:=HF3.o;have:=H4.o;omega,by have:=HKN.o;have:=HK4.o;omega,hsn,((HX.o.trans HX4.o).alloc _).grown hgrow5 (Yg hov),by rw[<-h1];simp,h2⟩
     case measure=>simp[intOf];have:=HKN.o;have:=HK4.o;have:=HNK.o;have:=HN5.o;have:=HF3.o;have:=H4.o;omega
theorem ZK0 (w:World)(A0:Option Addr)(n c0 g:Nat)(t:TypeId)(cs:Option Addr->Nat->Array Value)(ys xs:List Nat)(hl:ys.length=n)(hn:n<=4096)(hnc:n<=c0)(hr:Rd w A0 (ZV .u8 ys))(hg:g<w.heap.size)(S:Nat)(hSw:S<=w.heap.size)(hA0:ys≠[]->∀a,A0=some a->a.block<S)(HC0:∀W r,YJ W r S ys->w.heap.size<=r->W.heap[g]?=w.heap[g]?->w.heap.size<=W.heap.size->Calls Tryz.prog 113 #[.pointer (some ⟨r,0,none⟩),.pointer (some ⟨g,0,none⟩)] W (ByR t cs xs [] r S g W)): Calls Tryz.prog 112 #[.slice A0 n c0,.func (.func 113) #[] #[.pointer (some ⟨g,0,none⟩)]] w λe w'=>∃A c,e=.returned (.int .i64 0)/\w.grownBy w' (some g)/\w'.heap[g]?=some (.cells (cs A c) t (0,0))/\w'.ownsRow w.heap.size 5 1 (.slice A xs.length c) xs.length (ZV .u8 xs):=by
 have hmf:∀(fn:Fn) (first cap:Array Value) (w:World),(Instr.makeFunc fn first cap).run Tryz.prog w=.ok (.func fn first cap) w:=λ_ _ _ _=>rfl;have HC:=ZA HC0;clear HC0;have hws:∀o o':Obj,Rd ((w.alloc o).alloc o') A0 (ZV .u8 ys):=λo o'=>(hr.alloc o).alloc o';have hlt:∀a,A0=some a->ys≠[]->a.block<S:=λa ha hne=>hA0 hne a ha;have Hws:=ZA hws;have Hlt:=ZA hlt;have Hl:=ZA hl;have Hg:=ZA (λo o':Obj=>(ZED w o o' g hg));clear hws hlt hl hr hA0
 go_enter_defers Tryz.func112,Tryz.ntmps112
 go_wp2_with fail;obtain⟨W,hW⟩:=ZTz ((w.alloc (.cells #[.int .i64 0] 29)).alloc (.cells #[.slice A0 n c0] 292));have hsW:w.heap.size+2=W.heap.size:=by rw[<-hW];simp
 have hIW:YJ W (w.heap.size+1) S ys:=by
  rw[<-hW];refine⟨A0,c0,?_,by rw[Hl.o];exact hnc,Hws.o _ _,λhne a ha=>?_⟩
  ·rw[Hl.o];exact Zd _ _ ZTv
  ·have:=Hlt.o a ha hne;exact⟨by omega,this⟩
 have hEW:W.heap[w.heap.size]?=some (.cells #[.int .i64 0] 29 (0,0)):=by rw[<-hW];exact ZR (ZM w _) _
 have hgW:W.heap[g]?=w.heap[g]?:=by rw[<-hW];exact Hg.o _ _
 have hGW:ZL w W:=by rw[<-hW];exact((ZL.refl w).alloc _).alloc _
 have C:=ZA (HC.o W (w.heap.size+1) hIW ZB hgW ZB);have HE:=ZA hEW;have HGW:=ZA hGW;rw[hW];clear hW hIW hEW hgW hGW HC Hws Hg;refine C.o.mono ?_;rintro e w2 ⟨A,c,wm,rfl,hg1,hg2,hcs,ho,hS⟩;obtain⟨A2,c2,hw2,_,_,_⟩:=hS;have h0:=ZTx hw2 0 (.slice A2 0 c2);have HE2:=ZA (Zj (Zj HE.o hg1 ZB) hg2 ZB);have HG2:=ZA (ZDa HGW.o hg1 hg2 ZB);have Hcs:=ZA hcs;have Ho:=ZA ho;have hs2:W.heap.size<=w2.heap.size:=Zb2 hg1.size hg2.size;clear hg1 hg2 hcs ho hw2 C HE HGW;go_wp2_with fail;refine(JX _ _).mono ?_;rintro e w' ⟨rfl,rfl⟩;have e0:=ZE HE2.o 0;have f0:=ZF HE2.o 0;go_wp2_with fail;refine Zci (f:=162) (args:=#[.pointer (some ⟨w.heap.size,0,none⟩)]) ZTv (by simp[go_sem]) ?_;refine(ZFo _ _).mono ?_;rintro e u' w'' ⟨rfl,rfl,rfl⟩;have hG:=Zc w2 w.heap.size 0 (.int .i64 0);have hoo:w2.ownsRow (w.heap.size+1) 5 1 (.slice A xs.length c) xs.length (ZV .u8 xs):=Zg Ho.o ZB;exact⟨_,ZBs rfl (ZU HE2.o 0 _),A,c,rfl,Xk HG2.o (Zb0 _) 0 _,YP Hcs.o hG ZB,Zg (hoo.kept hG (Je hoo ZB)) ZB⟩
theorem ZCw (w:World)(r S v:Nat)(rest:List Nat)(hv:v<=4611686018427387903)(hb:∀x ∈ rest,x<256)(h:YJ w r S (Zh v 8++rest)): Calls Tryz.prog 116 #[.pointer (some ⟨r,0,none⟩)] w λe w'=>e=.returned (.int .i64 (v:Int))/\YJ w' r S rest/\w.grownBy w' (some r):=by
 have hw8:(Zh v 8++rest).take 8=Zh v 8:=Zbi (Zs v 8);have hd8:(Zh v 8++rest).drop 8=rest:=Zam (Zs v 8);have hn8:Z4 (Zh v 8)=v:=by rw[Xx];exact Zb9 (Zb4 hv (by decide))
 refine(ZCR w r S _ (λx hx=>?_) h).mono ?_
 ·rcases ZbI.1 hx with hx|hx
  ·exact Xf _ _ x hx
  ·exact hb x hx
 ·rintro e w' ⟨hg,_,hh⟩;rw[hw8,hd8,hn8]at hh;rcases hh with⟨_,_,he,hS⟩|⟨hno,_⟩
  ·exact⟨he,hS,hg⟩
  ·exact absurd ⟨by rw[Za9,Zs];omega,hv⟩ hno
theorem ZGb {w:World}{p:Addr}{v:Value}(h:w.cell? p=some v):w.drew.cell? p=some v:=h
theorem ZFO (w:World)(g:Nat)(a b c d x y:Value):w.grownBy ((((((w.setCell ⟨g,0,none⟩ a).setCell ⟨g,1,none⟩ b).setCell ⟨g,2,none⟩ c).setCell ⟨g,3,none⟩ d).setCell ⟨g,4,none⟩ x).setCell ⟨g,5,none⟩ y) (some g):=ZT (ZT (ZT (ZT (ZT (Zc w g 0 a) 1 b) 2 c) 3 d) 4 x) 5 y
theorem ZMu {w:World}{p:Addr}{v:Value}{g:Nat}{a b c d x y:Value}(h:w.cell? p=some v)(hne:p.block≠g):((((((w.setCell ⟨g,0,none⟩ a).setCell ⟨g,1,none⟩ b).setCell ⟨g,2,none⟩ c).setCell ⟨g,3,none⟩ d).setCell ⟨g,4,none⟩ x).setCell ⟨g,5,none⟩ y).cell? p=some v:=by
 have h1:=(ZFO w g a b c d x y).block p.block (ZcO w p h) (λe=>hne (by injection e));exact(ZcQ h1).trans h
theorem ZR6 {w:World}{g:Nat}{a0 b0 c0 d0 x0 y0:Value}{t:TypeId}(h:w.heap[g]?=some (.cells #[a0,b0,c0,d0,x0,y0] t (0,0)))(a b c d x y:Value):((((((w.setCell ⟨g,0,none⟩ a).setCell ⟨g,1,none⟩ b).setCell ⟨g,2,none⟩ c).setCell ⟨g,3,none⟩ d).setCell ⟨g,4,none⟩ x).setCell ⟨g,5,none⟩ y).heap[g]?=some (.cells #[a,b,c,d,x,y] t (0,0)):=ZU (ZU (ZU (ZU (ZU (ZU h 0 a) 1 b) 2 c) 3 d) 4 x) 5 y
abbrev ZPE:Array Value:=#[.int .i64 0,.bool false,.int .i64 0,.int .i64 0,.int .i64 0,.int .i64 0]
theorem ZTI (w:World)(r S g e l t s n:Nat)(gb:Bool)(_hS:S<=w.heap.size)(he:e<=16)(hl:l<=4611686018427387903)(ht:t<=4611686018427387903)(hs:s<=4611686018427387903)(hn:n<=4611686018427387903)(rest:List Nat)(hrb:∀x ∈ rest,x<256)(h:YJ w r S (ZGy e gb [l,t,s,n]++rest))(hg:S<=g)(_hgw:g<w.heap.size)(hgr:g≠r)(hc:w.heap[g]?=some (.cells ZPE 39 (0,0))): Calls Tryz.prog 113 #[.pointer (some ⟨r,0,none⟩),.pointer (some ⟨g,0,none⟩)] w (ByR 39 (λ_ _=>#[.int .i64 (e:Int),.bool gb,.int .i64 (l:Int),.int .i64 (t:Int),.int .i64 (s:Int),.int .i64 (n:Int)]) [] rest r S g w):=by
 have e1:ZGy e gb [l,t,s,n]++rest=e::ZDL gb::(Zh l 8++(Zh t 8++(Zh s 8++(Zh n 8++rest)))):=by simp[ZGy,ZBl]
 rw[e1]at h;have H:=ZA h;have Hc:=ZA hc;obtain⟨x1,hx1,hx1'⟩:∃x1:Nat,x1=ZDL gb/\x1<=1:=⟨_,rfl,by unfold ZDL;split<;>omega⟩;rw[<-hx1]at H;have hbq:((x1:Int)==1)=gb:=by rw[hx1];cases gb<;>rfl
 have Hbq:=ZA hbq;clear h hc e1 hx1 hbq;have b4:∀x ∈ rest,x<256:=hrb;have b3:∀x ∈ Zh n 8++rest,x<256:=λx hx=>by
  rcases ZbI.1 hx with hx|hx
  ·exact Xf _ _ x hx
  ·exact b4 x hx
 have b2:∀x ∈ Zh s 8++(Zh n 8++rest),x<256:=λx hx=>by
  rcases ZbI.1 hx with hx|hx
  ·exact Xf _ _ x hx
  ·exact b3 x hx
 have b1:∀x ∈ Zh t 8++(Zh s 8++(Zh n 8++rest)),x<256:=λx hx=>by
  rcases ZbI.1 hx with hx|hx
  ·exact Xf _ _ x hx
  ·exact b2 x hx
 have B1:=ZA b1;have B2:=ZA b2;have B3:=ZA b3;have B4:=ZA b4;clear b1 b2 b3 b4;go_enter Tryz.func113,Tryz.ntmps113;go_wp2_with fail;refine(Zw _ r S 2 _ H.o ZTv).mono ?_;rintro e' w2 ⟨A2,c2,rfl,hc2,hR2,hS2,hg2,hz2,hbl2⟩;obtain⟨b2,off2,rfl,hcc⟩:=hR2 (by simp[ZV]);have h0:w2.cell? ⟨b2,off2,none⟩=some (.int .u8 (e:Int)):=hcc 0 _ rfl;have h1:w2.cell? ⟨b2,off2+1,none⟩=some (.int .u8 (x1:Int)):=hcc 1 _ rfl;obtain⟨hbr,hbS⟩:=hbl2 ZTv _ rfl;have hbr:b2≠r:=hbr;have hbg:b2≠g:=by have:b2<S:=hbS;omega
 have HS2:=ZA (show YJ w2 r S (Zh l 8++(Zh t 8++(Zh s 8++(Zh n 8++rest))))from hS2);have HG2:=ZA hg2;have K2:=ZA (Zj Hc.o hg2 hgr);have hw:IntKind.i64.wrap (e:Int)=(e:Int):=by rw[Zaa];omega
 have hd1:decide ((e:Int)<=16)=true:=by simp;omega
 have hd2:decide ((x1:Int)<=1)=true:=by simp;omega
 clear hcc hR2 hS2 hg2 hbl2 H Hc;go_wp2_with fail;refine(JX _ _).mono ?_;rintro e' w' ⟨rfl,rfl⟩;have hbq:=Hbq.o;have far:∀(a b:World) (o:Nat) (v:Value),a.grownBy b (some r)->a.cell? ⟨b2,o,none⟩=some v->b.cell? ⟨b2,o,none⟩=some v:=λa b o v hG hv=>(hG.cell_far ⟨b2,o,none⟩ (ZcO a _ hv) (λq=>hbr (by injection q))).trans hv;have Far:=ZA far;clear far;have C1:=ZA (ZCw w2.drew r S l _ hl B1.o HS2.o);have h0d:w2.drew.cell? ⟨b2,off2,none⟩=some (.int .u8 (e:Int)):=h0;have h1d:w2.drew.cell? ⟨b2,off2+1,none⟩=some (.int .u8 (x1:Int)):=h1;have H0d:=ZA h0d;have H1d:=ZA h1d;clear h0d h1d;go_upto_region 2 with fail
 go_region_held3 (λw'=>w'.cell? ⟨b2,off2,none⟩=some (.int .u8 (e:Int))/\w'.cell? ⟨b2,off2+1,none⟩=some (.int .u8 (x1:Int))) (with_reducible (first|exact⟨H0d.o,H1d.o⟩|exact⟨a0,a1⟩|exact⟨c0,c1⟩|exact⟨d0,d1⟩|exact⟨f0,f1⟩|exact⟨ZMu f0 hbg,ZMu f1 hbg⟩|exact⟨ZGb (ZMu f0 hbg),ZGb (ZMu f1 hbg)⟩))
  (first
   |(go_at_call 116;(with_reducible refine C1.o.mono ?_);rintro e1 v1 ⟨rfl,hs1,hg1⟩;have a0:=Far.o _ _ _ _ hg1 H0d.o;have a1:=Far.o _ _ _ _ hg1 H1d.o;have HS1:=ZA hs1;have HG1:=ZA hg1;clear hs1 hg1)
   |(go_at_call 116;(with_reducible refine(ZCw v1 r S t _ ht B2.o HS1.o).mono ?_);rintro e2 v2 ⟨rfl,hs2,hg2⟩;have c0:=Far.o _ _ _ _ hg2 a0;have c1:=Far.o _ _ _ _ hg2 a1;have HSS2:=ZA hs2;have HGG2:=ZA hg2;clear hs2 hg2)
   |(go_at_call 116;(with_reducible refine(ZCw v2 r S s _ hs B3.o HSS2.o).mono ?_);rintro e3 v3 ⟨rfl,hs3,hg3⟩;have d0:=Far.o _ _ _ _ hg3 c0;have d1:=Far.o _ _ _ _ hg3 c1;have HS3:=ZA hs3;have HG3:=ZA hg3;clear hs3 hg3)
   |(go_at_call 116;(with_reducible refine(ZCw v3 r S n _ hn B4.o HS3.o).mono ?_);rintro e4 v4 ⟨rfl,hs4,hg4⟩;have f0:=Far.o _ _ _ _ hg4 d0;have f1:=Far.o _ _ _ _ hg4 d1;have HS4:=ZA hs4;have HG4:=ZA hg4;have hG:=World.grown_trans (World.grown_trans (World.grown_trans (Yn HG1.o) HGG2.o) HG3.o) hg4;have HGa:=ZA hG;have KC:=ZA (Zj K2.o hG hgr);have k0:=ZE KC.out 0;have k1:=ZE KC.out 1;have k2:=ZE KC.out 2;have k3:=ZE KC.out 3;have k4:=ZE KC.out 4;have k5:=ZE KC.out 5;have m0:=ZF KC.out 0;have m1:=ZF KC.out 1;have m2:=ZF KC.out 2;have m3:=ZF KC.out 3;have m4:=ZF KC.out 4;have m5:=ZF KC.out 5;clear hs4 hg4 hG))
 all_goals
  go_wp2_with fail
  go_end0
  have hz:v4.ownsRow w.heap.size 5 1 (.slice none 0 0) 0 (ZV .u8 []):=ZcU _ _ _ _;exact⟨none,0,v4,rfl,World.grown_trans HG2.o HGa.o,ZFO _ _ _ _ _ _ _ _,ZR6 KC.out _ _ _ _ _ _,ZcU _ _ _ _,HS4.o.grown (ZFO _ _ _ _ _ _ _ _) (λk hk=>by injection hk with hk;omega)⟩
theorem ZPB {fn:Func}(h:fn.results=#[.cell 2 39,.tmp 3]){tmps:Array Value}{w:World}{g:Nat}{a b c d e f:Value}{t:TypeId}{fr:Nat × Nat}(hp:tmps.getD 2 undef=.pointer (some ⟨g,0,none⟩))(hg:w.heap[g]?=some (.cells #[a,b,c,d,e,f] t fr)): (results fn tmps).run Tryz.prog w=.ok (.tuple #[.agg #[a,b,c,d,e,f],tmps.getD 3 undef]) w:=Yq h tmps w g t #[a,b,c,d,e,f] fr _ hp hg Tryz.underlying39 ZTw ZC
theorem ZQB {w w2:World}{g:Nat}(h:ZL w w2)(hg:w.heap.size<=g)(a b c d x y:Value):ZL w ((((((w2.setCell ⟨g,0,none⟩ a).setCell ⟨g,1,none⟩ b).setCell ⟨g,2,none⟩ c).setCell ⟨g,3,none⟩ d).setCell ⟨g,4,none⟩ x).setCell ⟨g,5,none⟩ y):=Ya h (ZFO w2 g a b c d x y) hg
theorem ZIN (w:World)(A:Option Addr)(n c:Nat)(ys:List Nat)(e l t s m:Nat)(gb:Bool)(hr:Rd w A (ZV .u8 ys))(hC:∀W g,Rd W A (ZV .u8 ys)->w.heap.size<=W.heap.size->w.heap.size<=g->g<W.heap.size->W.heap[g]?=some (.cells ZPE 39 (0,0))->Calls Tryz.prog 112 #[.slice A n c,.func (.func 113) #[] #[.pointer (some ⟨g,0,none⟩)]] W λx w'=>x=.returned (.int .i64 0)/\W.grownBy w' (some g)/\w'.heap[g]?=some (.cells #[.int .i64 (e:Int),.bool gb,.int .i64 (l:Int),.int .i64 (t:Int),.int .i64 (s:Int),.int .i64 (m:Int)] 39 (0,0))): Calls Tryz.prog 66 #[.slice A n c] w (Xu (.tuple #[ZHB (e:Int) gb (l:Int) (t:Int) (s:Int) (m:Int),.int .i64 0]) w):=by
 have hmf:∀(fn:Fn) (first cap:Array Value) (w:World),(Instr.makeFunc fn first cap).run Tryz.prog w=.ok (.func fn first cap) w:=λ_ _ _ _=>rfl;have HC:=ZA hC;have Hr:=ZA hr;clear hC hr;go_enter Tryz.func66,Tryz.ntmps66;go_wp2_with fail;refine(HC.o _ (w.heap.size+1) ((Hr.o.alloc _).alloc _) (by simp;omega) ZB ZTv (Zd _ _ ZTv)).mono ?_;rintro x w2 ⟨rfl,hG,hc⟩;have K:=ZA (Zj (ZR (ZM w (.cells ZPE 39 (0,0))) _) hG ZB);have hx:=Ya (((ZL.refl w).alloc _).alloc _) hG ZB;have KC:=ZA hc;clear hG hc;have k0:=ZE K.o 0;have k1:=ZE K.o 1;have k2:=ZE K.o 2;have k3:=ZE K.o 3;have k4:=ZE K.o 4;have k5:=ZE K.o 5;have f0:=ZF K.o 0;have f1:=ZF K.o 1;have f2:=ZF K.o 2;have f3:=ZF K.o 3;have f4:=ZF K.o 4;have f5:=ZF K.o 5;have c0:=ZE KC.out 0;have c1:=ZE KC.out 1;have c2:=ZE KC.out 2;have c3:=ZE KC.out 3;have c4:=ZE KC.out 4;have c5:=ZE KC.out 5;go_wp2_with fail;refine ZcY (ZPB rfl rfl (ZR6 K.o _ _ _ _ _ _)) rfl ?_;exact⟨rfl,ZQB hx (Zb0 _) _ _ _ _ _ _⟩
theorem ZK2 (w:World)(A:Option Addr)(n c e l t s m:Nat)(gb:Bool)(hn:n=34)(hnc:n<=c)(he:e<=16)(hl:l<=4611686018427387903)(ht:t<=4611686018427387903)(hs:s<=4611686018427387903)(hm:m<=4611686018427387903)(hr:Rd w A (ZV .u8 (ZGy e gb [l,t,s,m]))): Calls Tryz.prog 66 #[.slice A n c] w (Xu (.tuple #[ZHB (e:Int) gb (l:Int) (t:Int) (s:Int) (m:Int),.int .i64 0]) w):=by
 have hlen:(ZGy e gb [l,t,s,m]).length=n:=by rw[hn];exact ZCW e gb [l,t,s,m]
 refine ZIN w A n c _ e l t s m gb hr λW g hR hs1 hs2 hs3 hc=>?_;refine(ZK0 W A n c g 39 (λ_ _=>#[.int .i64 (e:Int),.bool gb,.int .i64 (l:Int),.int .i64 (t:Int),.int .i64 (s:Int),.int .i64 (m:Int)]) _ [] hlen ZB hnc hR hs3 w.heap.size hs1 (ZIP hr) λW' r hI hrr hgW hss=>ZTI W' r w.heap.size g e l t s m gb ZB he hl ht hs hm [] ZTv (by rw[Zag];exact hI) hs2 ZB ZB (hgW.trans hc)).mono ?_;rintro x w' ⟨_,_,he,hg,hcs,_⟩;exact⟨he,hg,hcs⟩
def ZMN (op p:Nat)(xs:List Nat)(N:Nat)(w:World)(e:Ending)(w':World):Prop:=∃A c,e=.returned (.tuple #[YY (op:Int) (p:Int) A xs.length c (N:Int),.bool true])/\w'.ownsRow w.heap.size 5 1 (.slice A xs.length c) xs.length (ZV .u8 xs)/\ZL w w'
def ZI0 (w:World)(e:Ending)(w':World):Prop:=∃(o p:Int) (A:Option Addr) (n c:Nat) (N:Int),e=.returned (.tuple #[YY o p A n c N,.bool false])/\ZL w w'
theorem ZII {op p N n c:Nat}{xs:List Nat}{A:Option Addr}{w w':World}(hk:xs.length=n)(ho:w'.ownsRow w.heap.size 5 1 (.slice A n c) n (ZV .u8 xs))(hx:ZL w w'): ZMN op p xs N w (.returned (.tuple #[YY (op:Int) (p:Int) A n c (N:Int),.bool true])) w':=by
 subst hk;exact⟨A,c,rfl,ho,hx⟩
theorem ZNw (w:World)(A:Option Addr)(c:Nat):Calls Tryz.prog 62 #[.slice A 0 c] w (ZI0 w):=by
 go_enter Tryz.func62,Tryz.ntmps62;go_wp2_with fail;refine ZcY (YO rfl rfl (Zcd w _)) rfl ?_;exact⟨_,_,_,_,_,_,rfl,(ZL.refl w).alloc _⟩
theorem ZEx (w:World)(b off n c o:Nat)(hn:1<=n)(c0:w.cell? ⟨b,off,none⟩=some (.int .u8 (o:Int)))(ho:o=0\/5<=o)(x5 x6:Bool)(e5:((o:Int)==5)=x5)(e6:((o:Int)==6)=x6): Calls Tryz.prog 62 #[.slice (some ⟨b,off,none⟩) n c] w λe w'=>e=.returned (.tuple #[YY (o:Int) 0 none 0 0 0,.bool (x5||x6)])/\ZL w w':=by
 have q1:((o:Int)==1)=false:=by rw[ZcW];omega
 have q2:((o:Int)==2)=false:=by rw[ZcW];omega
 have q3:((o:Int)==3)=false:=by rw[ZcW];omega
 have q4:((o:Int)==4)=false:=by rw[ZcW];omega
 have hn0:((n:Int)==0)=false:=by rw[ZcW];omega
 have hblk:b<w.heap.size:=ZcO w _ c0;have d0:=ZI c0;have d00:=λo o'=>ZI (d0 o) o';clear c0 ho;go_enter Tryz.func62,Tryz.ntmps62;go_upto_region 21 with fail;obtain⟨W,hW⟩:=ZTz ((w.alloc (.cells #[.int .u8 0,.int .i64 0,.slice none 0 0,.int .i64 0] 34)).alloc (.cells #[.int .u8 (o:Int),.int .i64 0,.slice none 0 0,.int .i64 0] 34));have s0:W.cell? ⟨b,off,none⟩=some (.int .u8 (o:Int)):=by rw[<-hW];exact d00 _ _
 have K2:ZD (W.heap[w.heap.size]?=some (.cells #[.int .u8 0,.int .i64 0,.slice none 0 0,.int .i64 0] 34 (0,0))):=by rw[<-hW];exact ZR (ZM w _) _
 have K4:ZD (W.heap[w.heap.size+1]?=some (.cells #[.int .u8 (o:Int),.int .i64 0,.slice none 0 0,.int .i64 0] 34 (0,0))):=by rw[<-hW];exact Zd _ _ ZTv
 have hx:ZL w W:=by rw[<-hW];exact((ZL.refl w).alloc _).alloc _
 rw[hW];clear hW d0 d00;have hb0:b≠w.heap.size:=by omega
 have hne:w.heap.size+1≠w.heap.size:=by omega
 have k0:=ZE K2.o 0;have k1:=ZE K2.o 1;have k2:=ZE K2.o 2;have k3:=ZE K2.o 3;have f0:=ZF K2.o 0;have f1:=ZF K2.o 1;have f2:=ZF K2.o 2;have f3:=ZF K2.o 3;have m0:=ZE K4.o 0;have m1:=ZE K4.o 1;have m2:=ZE K4.o 2;have m3:=ZE K4.o 3;have hq:0<n:=by omega
 cases x5
 all_goals
  go_region
  all_goals
   go_wp2_with fail;refine ZcY (YO rfl rfl (ZAS K2.o _ _ _ _)) rfl ?_
   first
   |exact⟨rfl,Y5 hx (Zb0 _) _ _ _ _⟩
   |exact⟨rfl,(Y5 hx (Zb0 _) _ _ _ _).drew⟩
   |exact⟨rfl,Y5 hx.drew (Zb0 _) _ _ _ _⟩
theorem ZLi (w:World)(b off n c:Nat)(hn:1<=n)(c0:w.cell? ⟨b,off,none⟩=some (.int .u8 1))(h:n<3\/∃k:Nat,k<256/\w.cell? ⟨b,off+2,none⟩=some (.int .u8 (k:Int))/\3<=n/\n<3+k): Calls Tryz.prog 62 #[.slice (some ⟨b,off,none⟩) n c] w (ZI0 w):=by
 have hn0:((n:Int)==0)=false:=by rw[ZcW];omega
 have d0:=ZI c0;have d00:=λo o'=>ZI (d0 o) o';clear c0;rcases h with h|⟨k,hk,c2,h3,hlt⟩
 ·go_enter Tryz.func62,Tryz.ntmps62;go_wp2_with fail;refine ZcY (YO rfl rfl (ZR (ZM w _) _)) rfl ?_;exact⟨_,_,_,_,_,_,rfl,((ZL.refl w).alloc _).alloc _⟩
 ·have d2:=ZI c2;have d22:=λo o'=>ZI (d2 o) o';clear c2;go_enter Tryz.func62,Tryz.ntmps62;go_wp2_with fail;refine ZcY (YO rfl rfl (ZR (ZM w _) _)) rfl ?_;exact⟨_,_,_,_,_,_,rfl,((ZL.refl w).alloc _).alloc _⟩
theorem ZLh (w:World)(b off n c:Nat)(hn:1<=n)(c0:w.cell? ⟨b,off,none⟩=some (.int .u8 2))(h:n<3\/∃k:Nat,k<256/\w.cell? ⟨b,off+2,none⟩=some (.int .u8 (k:Int))/\3<=n/\n<3+k): Calls Tryz.prog 62 #[.slice (some ⟨b,off,none⟩) n c] w (ZI0 w):=by
 have hn0:((n:Int)==0)=false:=by rw[ZcW];omega
 have d0:=ZI c0;have d00:=λo o'=>ZI (d0 o) o';clear c0;rcases h with h|⟨k,hk,c2,h3,hlt⟩
 ·go_enter Tryz.func62,Tryz.ntmps62;go_wp2_with fail;refine ZcY (YO rfl rfl (ZR (ZM w _) _)) rfl ?_;exact⟨_,_,_,_,_,_,rfl,((ZL.refl w).alloc _).alloc _⟩
 ·have d2:=ZI c2;have d22:=λo o'=>ZI (d2 o) o';clear c2;go_enter Tryz.func62,Tryz.ntmps62;go_wp2_with fail;refine ZcY (YO rfl rfl (ZR (ZM w _) _)) rfl ?_;exact⟨_,_,_,_,_,_,rfl,((ZL.refl w).alloc _).alloc _⟩
theorem ZLg (w:World)(b off n c:Nat)(hn:1<=n)(c0:w.cell? ⟨b,off,none⟩=some (.int .u8 4))(h:n<3\/∃k:Nat,k<256/\w.cell? ⟨b,off+2,none⟩=some (.int .u8 (k:Int))/\3<=n/\n<3+k): Calls Tryz.prog 62 #[.slice (some ⟨b,off,none⟩) n c] w (ZI0 w):=by
 have hn0:((n:Int)==0)=false:=by rw[ZcW];omega
 have d0:=ZI c0;have d00:=λo o'=>ZI (d0 o) o';clear c0;rcases h with h|⟨k,hk,c2,h3,hlt⟩
 ·go_enter Tryz.func62,Tryz.ntmps62;go_wp2_with fail;refine ZcY (YO rfl rfl (ZR (ZM w _) _)) rfl ?_;exact⟨_,_,_,_,_,_,rfl,((ZL.refl w).alloc _).alloc _⟩
 ·have d2:=ZI c2;have d22:=λo o'=>ZI (d2 o) o';clear c2;go_enter Tryz.func62,Tryz.ntmps62;go_wp2_with fail;refine ZcY (YO rfl rfl (ZR (ZM w _) _)) rfl ?_;exact⟨_,_,_,_,_,_,rfl,((ZL.refl w).alloc _).alloc _⟩
theorem ZN0 (w:World)(b off n c p k:Nat)(xs us:List Nat)(hk:xs.length=k)(hk':k<256)(hp:p<256)(hn:n=3+k+us.length)(hnc:n<=c)(hn4:n<=4096)(hb:∀x ∈ us,x<256)(hr:Rd w (some ⟨b,off,none⟩) (ZV .u8 (2::p::k::(xs++us)))): Calls Tryz.prog 62 #[.slice (some ⟨b,off,none⟩) n c] w (ZMN 2 p xs 0 w):=by
 have c0:w.cell? ⟨b,off,none⟩=some (.int .u8 2):=by
  obtain⟨b',off',hA,hc⟩:=hr (by simp[ZV]);injection hA with hA;injection hA with e1 e2 _;subst e1 e2;exact hc 0 _ rfl
 have c1:w.cell? ⟨b,off+1,none⟩=some (.int .u8 (p:Int)):=by
  obtain⟨b',off',hA,hc⟩:=hr (by simp[ZV]);injection hA with hA;injection hA with e1 e2 _;subst e1 e2;exact hc 1 _ rfl
 have c2:w.cell? ⟨b,off+2,none⟩=some (.int .u8 (k:Int)):=by
  obtain⟨b',off',hA,hc⟩:=hr (by simp[ZV]);injection hA with hA;injection hA with e1 e2 _;subst e1 e2;exact hc 2 _ rfl
 have hblk:b<w.heap.size:=ZcO w _ c0;have hn0:((n:Int)==0)=false:=by rw[ZcW];omega
 have hn3:3+k<=n:=by omega
 have hn3':3<=n:=by omega
 have r2:=ZAV (zs:=us) hr (3+k) us.length (by rw[show 3+k=k+3 by omega];show((xs++us).drop k).take us.length=us;rw[Zam hk,Zbj]);obtain⟨m,Hm⟩:=ZTy (us.length);have hnm:n=3+k+m:=by rw[hn,Hm.o]
 have Hnm:=ZA hnm;have Hk:=ZA hk;have R2:=ZA r2;have Hb:=ZA hb;have d0:=λo o'=>ZI (ZI c0 o) o';have d00:=ZI c0;have d2:=λo o'=>ZI (ZI c2 o) o';have C1:=ZA c1;have C0:=ZA c0;have w1p:IntKind.i64.wrap (p:Int)=(p:Int):=by rw[Zaa];omega
 obtain⟨A3,hslk,hrd3⟩:=ZAR Tryz.underlying32 Xo (A:=some ⟨b,off,none⟩) (n:=n) (c:=c) (m:=k) (d:=c - 3) 3 (3+k) (ki:=3) (hi:=3+(k:Int)) rfl ZB ZB hnc ZB ZB;have r1:Rd w A3 (ZV .u8 xs):=by
  have:=hrd3 w _ (by rw[XM];simp[hk];omega) hr;rw[<-JO,<-JN]at this;have e:(List.take k (List.drop 3 (2::p::k::(xs++us))))=xs:=by show(xs++us).take k=xs;exact Zbi hk
  rwa [e]at this
 have hn1:1<n:=by omega
 have hn1i:(1:Int)<(n:Int):=by omega
 have R1:=ZA r1;clear c0 c1 c2 hr r1 r2 hb hk hn hnm hrd3;go_enter Tryz.func62,Tryz.ntmps62;go_upto_region 15 with fail;obtain⟨W,hW⟩:=ZTz ((w.alloc (.cells #[.int .u8 0,.int .i64 0,.slice none 0 0,.int .i64 0] 34)).alloc (.cells #[.int .u8 2,.int .i64 0,.slice none 0 0,.int .i64 0] 34));have hxW:ZL w W:=by rw[<-hW];exact((ZL.refl w).alloc _).alloc _
 have K2:ZD (W.heap[w.heap.size]?=some (.cells #[.int .u8 0,.int .i64 0,.slice none 0 0,.int .i64 0] 34 (0,0))):=by rw[<-hW];exact ZR (ZM w _) _
 have K4:ZD (W.heap[w.heap.size+1]?=some (.cells #[.int .u8 2,.int .i64 0,.slice none 0 0,.int .i64 0] 34 (0,0))):=by rw[<-hW];exact Zd _ _ ZTv
 have hsW:w.heap.size+2=W.heap.size:=by rw[<-hW];simp
 rw[hW];clear hW d0 d2 d00;have s1:=ZG hxW C1.o;have T:=ZA (ZBm A3 k (c - 3) xs W.drew Hk.o ZB (R1.o.ext hxW.drew));have hne1:b≠w.heap.size+1:=by omega
 go_cut [4,7] (λv4 v7 wd=>v4=.pointer (some ⟨w.heap.size+1,0,none⟩)/\v7=.int .i64 (3+(k:Int))/\∃A4 c4,wd.heap[w.heap.size+1]?=some (.cells #[.int .u8 2,.int .i64 (p:Int),.slice A4 k c4,.int .i64 0] 34 (0,0))/\wd.ownsRow (w.heap.size+2) 5 1 (.slice A4 k c4) k (ZV .u8 xs)/\ZL w wd/\wd.heap[w.heap.size]?=some (.cells #[.int .u8 0,.int .i64 0,.slice none 0 0,.int .i64 0] 34 (0,0)))
 case first=>
  go_region_held3 (λw'=>w'.cell? ⟨b,off+1,none⟩=some (.int .u8 (p:Int))) ((first|assumption|exact Xl (by assumption) hne1|exact ZZ (by assumption) hne1)) ((go_at_call 45;refine T.o.mono ?_;rintro e w4 ⟨A4,c4,rfl,hown4,hy4⟩;rw[Hk.o]at hown4 ⊢;have t1:=ZG hy4 (ZK s1);have KC4:=ZA (ZJ (show W.drew.heap[w.heap.size+1]?=_ from K4.o) hy4);have u1:=ZE KC4.o 1;have u2:=ZE KC4.o 2;have f1:=ZF KC4.o 1;have f2:=ZF KC4.o 2;have Hown4:=ZA hown4;have Hy4:=ZA hy4;clear hown4 hy4))
  all_goals
   go_wp2_with fail
   go_meet
   have hG:=ZT (Zc w4 (w.heap.size+1) 1 (.int .i64 (p:Int))) 2 (.slice A4 k c4);have hoo:w4.ownsRow (w.heap.size+2) 5 1 (.slice A4 k c4) k (ZV .u8 xs):=Zg Hown4.o (by show w.heap.size+2<=W.heap.size;omega);exact⟨rfl,rfl,A4,c4,ZU (ZU KC4.o 1 _) 2 _,hoo.kept hG (Je hoo ZB),Ya (hxW.drew.trans Hy4.o) hG ZB,YP (ZJ (show W.drew.heap[w.heap.size]?=_ from K2.o) Hy4.o) hG ZB⟩
 case rest=>
  obtain⟨rfl,rfl,A4,c4,hC,ho,hxc,hR⟩:=hcut;have KC:=ZA hC;have Ho:=ZA ho;have KR:=ZA hR;have c0:=ZE KC.out 0;have c1:=ZE KC.out 1;have c2:=ZE KC.out 2;have c3:=ZE KC.out 3;have k0:=ZE KR.o 0;have k1:=ZE KR.o 1;have k2:=ZE KR.o 2;have k3:=ZE KR.o 3;have f0:=ZF KR.o 0;have f1:=ZF KR.o 1;have f2:=ZF KR.o 2;have f3:=ZF KR.o 3;have e0:=ZG hxc C0.o;clear hC ho hR T s1;go_wp2_with fail;refine ZcY (YO rfl rfl (ZAS KR.o _ _ _ _)) rfl ?_;exact ZII (op:=2) (p:=p) (N:=0) Hk.o (Jv (Zg (base':=w.heap.size+1) Ho.o ZB) ZB _ _ _ _) (Y5 hxc (Zb0 _) _ _ _ _)
theorem ZNx (w:World)(b off n c p k:Nat)(xs us:List Nat)(hk:xs.length=k)(hk':k<256)(hp:p<256)(hn:n=3+k+us.length)(hnc:n<=c)(hn4:n<=4096)(hb:∀x ∈ us,x<256)(hr:Rd w (some ⟨b,off,none⟩) (ZV .u8 (4::p::k::(xs++us)))): Calls Tryz.prog 62 #[.slice (some ⟨b,off,none⟩) n c] w (ZMN 4 p xs 0 w):=by
 have c0:w.cell? ⟨b,off,none⟩=some (.int .u8 4):=by
  obtain⟨b',off',hA,hc⟩:=hr (by simp[ZV]);injection hA with hA;injection hA with e1 e2 _;subst e1 e2;exact hc 0 _ rfl
 have c1:w.cell? ⟨b,off+1,none⟩=some (.int .u8 (p:Int)):=by
  obtain⟨b',off',hA,hc⟩:=hr (by simp[ZV]);injection hA with hA;injection hA with e1 e2 _;subst e1 e2;exact hc 1 _ rfl
 have c2:w.cell? ⟨b,off+2,none⟩=some (.int .u8 (k:Int)):=by
  obtain⟨b',off',hA,hc⟩:=hr (by simp[ZV]);injection hA with hA;injection hA with e1 e2 _;subst e1 e2;exact hc 2 _ rfl
 have hblk:b<w.heap.size:=ZcO w _ c0;have hn0:((n:Int)==0)=false:=by rw[ZcW];omega
 have hn3:3+k<=n:=by omega
 have hn3':3<=n:=by omega
 have r2:=ZAV (zs:=us) hr (3+k) us.length (by rw[show 3+k=k+3 by omega];show((xs++us).drop k).take us.length=us;rw[Zam hk,Zbj]);obtain⟨m,Hm⟩:=ZTy (us.length);have hnm:n=3+k+m:=by rw[hn,Hm.o]
 have Hnm:=ZA hnm;have Hk:=ZA hk;have R2:=ZA r2;have Hb:=ZA hb;have d0:=λo o'=>ZI (ZI c0 o) o';have d00:=ZI c0;have d2:=λo o'=>ZI (ZI c2 o) o';have C1:=ZA c1;have C0:=ZA c0;have w1p:IntKind.i64.wrap (p:Int)=(p:Int):=by rw[Zaa];omega
 obtain⟨A3,hslk,hrd3⟩:=ZAR Tryz.underlying32 Xo (A:=some ⟨b,off,none⟩) (n:=n) (c:=c) (m:=k) (d:=c - 3) 3 (3+k) (ki:=3) (hi:=3+(k:Int)) rfl ZB ZB hnc ZB ZB;have r1:Rd w A3 (ZV .u8 xs):=by
  have:=hrd3 w _ (by rw[XM];simp[hk];omega) hr;rw[<-JO,<-JN]at this;have e:(List.take k (List.drop 3 (4::p::k::(xs++us))))=xs:=by show(xs++us).take k=xs;exact Zbi hk
  rwa [e]at this
 have hn1:1<n:=by omega
 have hn1i:(1:Int)<(n:Int):=by omega
 have R1:=ZA r1;clear c0 c1 c2 hr r1 r2 hb hk hn hnm hrd3;go_enter Tryz.func62,Tryz.ntmps62;go_upto_region 15 with fail;obtain⟨W,hW⟩:=ZTz ((w.alloc (.cells #[.int .u8 0,.int .i64 0,.slice none 0 0,.int .i64 0] 34)).alloc (.cells #[.int .u8 4,.int .i64 0,.slice none 0 0,.int .i64 0] 34));have hxW:ZL w W:=by rw[<-hW];exact((ZL.refl w).alloc _).alloc _
 have K2:ZD (W.heap[w.heap.size]?=some (.cells #[.int .u8 0,.int .i64 0,.slice none 0 0,.int .i64 0] 34 (0,0))):=by rw[<-hW];exact ZR (ZM w _) _
 have K4:ZD (W.heap[w.heap.size+1]?=some (.cells #[.int .u8 4,.int .i64 0,.slice none 0 0,.int .i64 0] 34 (0,0))):=by rw[<-hW];exact Zd _ _ ZTv
 have hsW:w.heap.size+2=W.heap.size:=by rw[<-hW];simp
 rw[hW];clear hW d0 d2 d00;have s1:=ZG hxW C1.o;have T:=ZA (ZBm A3 k (c - 3) xs W.drew Hk.o ZB (R1.o.ext hxW.drew));have hne1:b≠w.heap.size+1:=by omega
 go_cut [4,7] (λv4 v7 wd=>v4=.pointer (some ⟨w.heap.size+1,0,none⟩)/\v7=.int .i64 (3+(k:Int))/\∃A4 c4,wd.heap[w.heap.size+1]?=some (.cells #[.int .u8 4,.int .i64 (p:Int),.slice A4 k c4,.int .i64 0] 34 (0,0))/\wd.ownsRow (w.heap.size+2) 5 1 (.slice A4 k c4) k (ZV .u8 xs)/\ZL w wd/\wd.heap[w.heap.size]?=some (.cells #[.int .u8 0,.int .i64 0,.slice none 0 0,.int .i64 0] 34 (0,0)))
 case first=>
  go_region_held3 (λw'=>w'.cell? ⟨b,off+1,none⟩=some (.int .u8 (p:Int))) ((first|assumption|exact Xl (by assumption) hne1|exact ZZ (by assumption) hne1)) ((go_at_call 45;refine T.o.mono ?_;rintro e w4 ⟨A4,c4,rfl,hown4,hy4⟩;rw[Hk.o]at hown4 ⊢;have t1:=ZG hy4 (ZK s1);have KC4:=ZA (ZJ (show W.drew.heap[w.heap.size+1]?=_ from K4.o) hy4);have u1:=ZE KC4.o 1;have u2:=ZE KC4.o 2;have f1:=ZF KC4.o 1;have f2:=ZF KC4.o 2;have Hown4:=ZA hown4;have Hy4:=ZA hy4;clear hown4 hy4))
  all_goals
   go_wp2_with fail
   go_meet
   have hG:=ZT (Zc w4 (w.heap.size+1) 1 (.int .i64 (p:Int))) 2 (.slice A4 k c4);have hoo:w4.ownsRow (w.heap.size+2) 5 1 (.slice A4 k c4) k (ZV .u8 xs):=Zg Hown4.o (by show w.heap.size+2<=W.heap.size;omega);exact⟨rfl,rfl,A4,c4,ZU (ZU KC4.o 1 _) 2 _,hoo.kept hG (Je hoo ZB),Ya (hxW.drew.trans Hy4.o) hG ZB,YP (ZJ (show W.drew.heap[w.heap.size]?=_ from K2.o) Hy4.o) hG ZB⟩
 case rest=>
  obtain⟨rfl,rfl,A4,c4,hC,ho,hxc,hR⟩:=hcut;have KC:=ZA hC;have Ho:=ZA ho;have KR:=ZA hR;have c0:=ZE KC.out 0;have c1:=ZE KC.out 1;have c2:=ZE KC.out 2;have c3:=ZE KC.out 3;have k0:=ZE KR.o 0;have k1:=ZE KR.o 1;have k2:=ZE KR.o 2;have k3:=ZE KR.o 3;have f0:=ZF KR.o 0;have f1:=ZF KR.o 1;have f2:=ZF KR.o 2;have f3:=ZF KR.o 3;have e0:=ZG hxc C0.o;clear hC ho hR T s1;go_wp2_with fail;refine ZcY (YO rfl rfl (ZAS KR.o _ _ _ _)) rfl ?_;exact ZII (op:=4) (p:=p) (N:=0) Hk.o (Jv (Zg (base':=w.heap.size+1) Ho.o ZB) ZB _ _ _ _) (Y5 hxc (Zb0 _) _ _ _ _)
theorem ZN2 (w:World)(b off n c p k:Nat)(xs us:List Nat)(hk:xs.length=k)(hk':k<256)(hp:p<256)(hn:n=3+k+us.length)(hnc:n<=c)(hn4:n<=4096)(hb:∀x ∈ us,x<256)(hr:Rd w (some ⟨b,off,none⟩) (ZV .u8 (1::p::k::(xs++us))))(hno:us.length≠8\/4611686018427387903<Z4 us): Calls Tryz.prog 62 #[.slice (some ⟨b,off,none⟩) n c] w (ZI0 w):=by
 have c0:w.cell? ⟨b,off,none⟩=some (.int .u8 1):=by
  obtain⟨b',off',hA,hc⟩:=hr (by simp[ZV]);injection hA with hA;injection hA with e1 e2 _;subst e1 e2;exact hc 0 _ rfl
 have c1:w.cell? ⟨b,off+1,none⟩=some (.int .u8 (p:Int)):=by
  obtain⟨b',off',hA,hc⟩:=hr (by simp[ZV]);injection hA with hA;injection hA with e1 e2 _;subst e1 e2;exact hc 1 _ rfl
 have c2:w.cell? ⟨b,off+2,none⟩=some (.int .u8 (k:Int)):=by
  obtain⟨b',off',hA,hc⟩:=hr (by simp[ZV]);injection hA with hA;injection hA with e1 e2 _;subst e1 e2;exact hc 2 _ rfl
 have hblk:b<w.heap.size:=ZcO w _ c0;have hn0:((n:Int)==0)=false:=by rw[ZcW];omega
 have hn3:3+k<=n:=by omega
 have hn3':3<=n:=by omega
 have r2:=ZAV (zs:=us) hr (3+k) us.length (by rw[show 3+k=k+3 by omega];show((xs++us).drop k).take us.length=us;rw[Zam hk,Zbj]);obtain⟨m,Hm⟩:=ZTy (us.length);have hnm:n=3+k+m:=by rw[hn,Hm.o]
 have Hnm:=ZA hnm;have Hk:=ZA hk;have R2:=ZA r2;have Hb:=ZA hb;have d0:=λo o'=>ZI (ZI c0 o) o';have d00:=ZI c0;have d2:=λo o'=>ZI (ZI c2 o) o';have C1:=ZA c1;have C0:=ZA c0;have w1p:IntKind.i64.wrap (p:Int)=(p:Int):=by rw[Zaa];omega
 obtain⟨A3,hslk,hrd3⟩:=ZAR Tryz.underlying32 Xo (A:=some ⟨b,off,none⟩) (n:=n) (c:=c) (m:=k) (d:=c - 3) 3 (3+k) (ki:=3) (hi:=3+(k:Int)) rfl ZB ZB hnc ZB ZB;have r1:Rd w A3 (ZV .u8 xs):=by
  have:=hrd3 w _ (by rw[XM];simp[hk];omega) hr;rw[<-JO,<-JN]at this;have e:(List.take k (List.drop 3 (1::p::k::(xs++us))))=xs:=by show(xs++us).take k=xs;exact Zbi hk
  rwa [e]at this
 have hn1:1<n:=by omega
 have hn1i:(1:Int)<(n:Int):=by omega
 have R1:=ZA r1;clear c0 c1 c2 hr r1 r2 hb hk hn hnm hrd3;have Hno:=ZA hno;clear hno;go_enter Tryz.func62,Tryz.ntmps62;go_upto_region 15 with fail;obtain⟨W,hW⟩:=ZTz ((w.alloc (.cells #[.int .u8 0,.int .i64 0,.slice none 0 0,.int .i64 0] 34)).alloc (.cells #[.int .u8 1,.int .i64 0,.slice none 0 0,.int .i64 0] 34));have hxW:ZL w W:=by rw[<-hW];exact((ZL.refl w).alloc _).alloc _
 have K2:ZD (W.heap[w.heap.size]?=some (.cells #[.int .u8 0,.int .i64 0,.slice none 0 0,.int .i64 0] 34 (0,0))):=by rw[<-hW];exact ZR (ZM w _) _
 have K4:ZD (W.heap[w.heap.size+1]?=some (.cells #[.int .u8 1,.int .i64 0,.slice none 0 0,.int .i64 0] 34 (0,0))):=by rw[<-hW];exact Zd _ _ ZTv
 have hsW:w.heap.size+2=W.heap.size:=by rw[<-hW];simp
 rw[hW];clear hW d0 d2 d00;have s1:=ZG hxW C1.o;have T:=ZA (ZBm A3 k (c - 3) xs W.drew Hk.o ZB (R1.o.ext hxW.drew));have hne1:b≠w.heap.size+1:=by omega
 go_cut [4,7] (λv4 v7 wd=>v4=.pointer (some ⟨w.heap.size+1,0,none⟩)/\v7=.int .i64 (3+(k:Int))/\∃A4 c4,wd.heap[w.heap.size+1]?=some (.cells #[.int .u8 1,.int .i64 (p:Int),.slice A4 k c4,.int .i64 0] 34 (0,0))/\wd.ownsRow (w.heap.size+2) 5 1 (.slice A4 k c4) k (ZV .u8 xs)/\ZL w wd/\wd.heap[w.heap.size]?=some (.cells #[.int .u8 0,.int .i64 0,.slice none 0 0,.int .i64 0] 34 (0,0)))
 case first=>
  go_region_held3 (λw'=>w'.cell? ⟨b,off+1,none⟩=some (.int .u8 (p:Int))) ((first|assumption|exact Xl (by assumption) hne1|exact ZZ (by assumption) hne1)) ((go_at_call 45;refine T.o.mono ?_;rintro e w4 ⟨A4,c4,rfl,hown4,hy4⟩;rw[Hk.o]at hown4 ⊢;have t1:=ZG hy4 (ZK s1);have KC4:=ZA (ZJ (show W.drew.heap[w.heap.size+1]?=_ from K4.o) hy4);have u1:=ZE KC4.o 1;have u2:=ZE KC4.o 2;have f1:=ZF KC4.o 1;have f2:=ZF KC4.o 2;have Hown4:=ZA hown4;have Hy4:=ZA hy4;clear hown4 hy4))
  all_goals
   go_wp2_with fail
   go_meet
   have hG:=ZT (Zc w4 (w.heap.size+1) 1 (.int .i64 (p:Int))) 2 (.slice A4 k c4);have hoo:w4.ownsRow (w.heap.size+2) 5 1 (.slice A4 k c4) k (ZV .u8 xs):=Zg Hown4.o (by show w.heap.size+2<=W.heap.size;omega);exact⟨rfl,rfl,A4,c4,ZU (ZU KC4.o 1 _) 2 _,hoo.kept hG (Je hoo ZB),Ya (hxW.drew.trans Hy4.o) hG ZB,YP (ZJ (show W.drew.heap[w.heap.size]?=_ from K2.o) Hy4.o) hG ZB⟩
 case rest=>
  obtain⟨rfl,rfl,A4,c4,hC,ho,hxc,hR⟩:=hcut;have KC:=ZA hC;have Ho:=ZA ho;have KR:=ZA hR;have c0:=ZE KC.out 0;have c1:=ZE KC.out 1;have c2:=ZE KC.out 2;have c3:=ZE KC.out 3;have k0:=ZE KR.o 0;have k1:=ZE KR.o 1;have k2:=ZE KR.o 2;have k3:=ZE KR.o 3;have f0:=ZF KR.o 0;have f1:=ZF KR.o 1;have f2:=ZF KR.o 2;have f3:=ZF KR.o 3;have e0:=ZG hxc C0.o;clear hC ho hR T s1;by_cases h8:m=8
  ·have hne:((n:Int) !=3+(k:Int)+8)=false:=by have:=Hnm.o;simp;omega
   have hbig:4611686018427387903<Z4 us:=by
    rcases Hno.o with h|h
    ·exact absurd (by rw[Hm.o];exact h8) h
    ·exact h
   have hsl8:∀u:World,(Instr.slice 32 (.slice (some ⟨b,off,none⟩) n c) (some (.int .i64 (3+(k:Int)))) none none).run Tryz.prog u=.ok (.slice (some ⟨b,off+(3+k),none⟩) 8 (c - (3+k))) u:=λu=>by
    have:=ZFl (P:=Tryz.prog) Tryz.underlying32 Xo (b:=b) (off:=off) (n:=n) (c:=c) (m:=8) (d:=c - (3+k)) (3+k) (by have:=Hnm.o;omega) (by have:=Hnm.o;omega) (by have:=Hnm.o;omega) ZB u
    rwa [show((3+k:Nat):Int)=3+(k:Int) by omega]at this
   have N1:=ZA (Jw wc (some ⟨b,off+(3+k),none⟩) 8 (c - (3+k)) us (by rw[Hm.o];exact h8) ZB Hb.o (R2.o.ext hxc));have hd:decide (4611686018427387903<(Z4 us:Int))=true:=by simp;omega
   clear h8 hbig;go_wp2_with fail;refine N1.o.mono ?_;rintro e w5 ⟨rfl,rfl⟩;go_wp2_with fail;refine ZcY (YO rfl rfl (ZAS KR.o _ _ _ _)) rfl ?_;exact⟨_,_,_,_,_,_,rfl,Y5 hxc (Zb0 _) _ _ _ _⟩
  ·have hne:((n:Int) !=3+(k:Int)+8)=true:=by have:=Hnm.o;simp;omega
   clear h8;go_wp2_with fail;refine ZcY (YO rfl rfl (ZAS KR.o _ _ _ _)) rfl ?_;exact⟨_,_,_,_,_,_,rfl,Y5 hxc (Zb0 _) _ _ _ _⟩
theorem ZN1 (w:World)(b off n c p k:Nat)(xs us:List Nat)(hk:xs.length=k)(hk':k<256)(hp:p<256)(hn:n=3+k+us.length)(hnc:n<=c)(hn4:n<=4096)(hb:∀x ∈ us,x<256)(hr:Rd w (some ⟨b,off,none⟩) (ZV .u8 (1::p::k::(xs++us))))(h8:us.length=8)(hN:Z4 us<=4611686018427387903): Calls Tryz.prog 62 #[.slice (some ⟨b,off,none⟩) n c] w (ZMN 1 p xs (Z4 us) w):=by
 have c0:w.cell? ⟨b,off,none⟩=some (.int .u8 1):=by
  obtain⟨b',off',hA,hc⟩:=hr (by simp[ZV]);injection hA with hA;injection hA with e1 e2 _;subst e1 e2;exact hc 0 _ rfl
 have c1:w.cell? ⟨b,off+1,none⟩=some (.int .u8 (p:Int)):=by
  obtain⟨b',off',hA,hc⟩:=hr (by simp[ZV]);injection hA with hA;injection hA with e1 e2 _;subst e1 e2;exact hc 1 _ rfl
 have c2:w.cell? ⟨b,off+2,none⟩=some (.int .u8 (k:Int)):=by
  obtain⟨b',off',hA,hc⟩:=hr (by simp[ZV]);injection hA with hA;injection hA with e1 e2 _;subst e1 e2;exact hc 2 _ rfl
 have hblk:b<w.heap.size:=ZcO w _ c0;have hn0:((n:Int)==0)=false:=by rw[ZcW];omega
 have hn3:3+k<=n:=by omega
 have hn3':3<=n:=by omega
 have r2:=ZAV (zs:=us) hr (3+k) us.length (by rw[show 3+k=k+3 by omega];show((xs++us).drop k).take us.length=us;rw[Zam hk,Zbj]);obtain⟨m,Hm⟩:=ZTy (us.length);have hnm:n=3+k+m:=by rw[hn,Hm.o]
 have Hnm:=ZA hnm;have Hk:=ZA hk;have R2:=ZA r2;have Hb:=ZA hb;have d0:=λo o'=>ZI (ZI c0 o) o';have d00:=ZI c0;have d2:=λo o'=>ZI (ZI c2 o) o';have C1:=ZA c1;have C0:=ZA c0;have w1p:IntKind.i64.wrap (p:Int)=(p:Int):=by rw[Zaa];omega
 obtain⟨A3,hslk,hrd3⟩:=ZAR Tryz.underlying32 Xo (A:=some ⟨b,off,none⟩) (n:=n) (c:=c) (m:=k) (d:=c - 3) 3 (3+k) (ki:=3) (hi:=3+(k:Int)) rfl ZB ZB hnc ZB ZB;have r1:Rd w A3 (ZV .u8 xs):=by
  have:=hrd3 w _ (by rw[XM];simp[hk];omega) hr;rw[<-JO,<-JN]at this;have e:(List.take k (List.drop 3 (1::p::k::(xs++us))))=xs:=by show(xs++us).take k=xs;exact Zbi hk
  rwa [e]at this
 have hn1:1<n:=by omega
 have hn1i:(1:Int)<(n:Int):=by omega
 have R1:=ZA r1;clear c0 c1 c2 hr r1 r2 hb hk hn hnm hrd3;have H8:=ZA h8;clear h8;go_enter Tryz.func62,Tryz.ntmps62;go_upto_region 15 with fail;obtain⟨W,hW⟩:=ZTz ((w.alloc (.cells #[.int .u8 0,.int .i64 0,.slice none 0 0,.int .i64 0] 34)).alloc (.cells #[.int .u8 1,.int .i64 0,.slice none 0 0,.int .i64 0] 34));have hxW:ZL w W:=by rw[<-hW];exact((ZL.refl w).alloc _).alloc _
 have K2:ZD (W.heap[w.heap.size]?=some (.cells #[.int .u8 0,.int .i64 0,.slice none 0 0,.int .i64 0] 34 (0,0))):=by rw[<-hW];exact ZR (ZM w _) _
 have K4:ZD (W.heap[w.heap.size+1]?=some (.cells #[.int .u8 1,.int .i64 0,.slice none 0 0,.int .i64 0] 34 (0,0))):=by rw[<-hW];exact Zd _ _ ZTv
 have hsW:w.heap.size+2=W.heap.size:=by rw[<-hW];simp
 rw[hW];clear hW d0 d2 d00;have s1:=ZG hxW C1.o;have T:=ZA (ZBm A3 k (c - 3) xs W.drew Hk.o ZB (R1.o.ext hxW.drew));have hne1:b≠w.heap.size+1:=by omega
 go_cut [4,7] (λv4 v7 wd=>v4=.pointer (some ⟨w.heap.size+1,0,none⟩)/\v7=.int .i64 (3+(k:Int))/\∃A4 c4,wd.heap[w.heap.size+1]?=some (.cells #[.int .u8 1,.int .i64 (p:Int),.slice A4 k c4,.int .i64 0] 34 (0,0))/\wd.ownsRow (w.heap.size+2) 5 1 (.slice A4 k c4) k (ZV .u8 xs)/\ZL w wd/\wd.heap[w.heap.size]?=some (.cells #[.int .u8 0,.int .i64 0,.slice none 0 0,.int .i64 0] 34 (0,0)))
 case first=>
  go_region_held3 (λw'=>w'.cell? ⟨b,off+1,none⟩=some (.int .u8 (p:Int))) ((first|assumption|exact Xl (by assumption) hne1|exact ZZ (by assumption) hne1)) ((go_at_call 45;refine T.o.mono ?_;rintro e w4 ⟨A4,c4,rfl,hown4,hy4⟩;rw[Hk.o]at hown4 ⊢;have t1:=ZG hy4 (ZK s1);have KC4:=ZA (ZJ (show W.drew.heap[w.heap.size+1]?=_ from K4.o) hy4);have u1:=ZE KC4.o 1;have u2:=ZE KC4.o 2;have f1:=ZF KC4.o 1;have f2:=ZF KC4.o 2;have Hown4:=ZA hown4;have Hy4:=ZA hy4;clear hown4 hy4))
  all_goals
   go_wp2_with fail
   go_meet
   have hG:=ZT (Zc w4 (w.heap.size+1) 1 (.int .i64 (p:Int))) 2 (.slice A4 k c4);have hoo:w4.ownsRow (w.heap.size+2) 5 1 (.slice A4 k c4) k (ZV .u8 xs):=Zg Hown4.o (by show w.heap.size+2<=W.heap.size;omega);exact⟨rfl,rfl,A4,c4,ZU (ZU KC4.o 1 _) 2 _,hoo.kept hG (Je hoo ZB),Ya (hxW.drew.trans Hy4.o) hG ZB,YP (ZJ (show W.drew.heap[w.heap.size]?=_ from K2.o) Hy4.o) hG ZB⟩
 case rest=>
  obtain⟨rfl,rfl,A4,c4,hC,ho,hxc,hR⟩:=hcut;have KC:=ZA hC;have Ho:=ZA ho;have KR:=ZA hR;have c0:=ZE KC.out 0;have c1:=ZE KC.out 1;have c2:=ZE KC.out 2;have c3:=ZE KC.out 3;have k0:=ZE KR.o 0;have k1:=ZE KR.o 1;have k2:=ZE KR.o 2;have k3:=ZE KR.o 3;have f0:=ZF KR.o 0;have f1:=ZF KR.o 1;have f2:=ZF KR.o 2;have f3:=ZF KR.o 3;have e0:=ZG hxc C0.o;clear hC ho hR T s1;have h8:m=8:=by rw[<-Hm.o];exact H8.o
  have hne:((n:Int) !=3+(k:Int)+8)=false:=by have:=Hnm.o;simp;omega
  have hsl8:∀u:World,(Instr.slice 32 (.slice (some ⟨b,off,none⟩) n c) (some (.int .i64 (3+(k:Int)))) none none).run Tryz.prog u=.ok (.slice (some ⟨b,off+(3+k),none⟩) 8 (c - (3+k))) u:=λu=>by
   have:=ZFl (P:=Tryz.prog) Tryz.underlying32 Xo (b:=b) (off:=off) (n:=n) (c:=c) (m:=8) (d:=c - (3+k)) (3+k) (by have:=Hnm.o;omega) (by have:=Hnm.o;omega) (by have:=Hnm.o;omega) ZB u
   rwa [show((3+k:Nat):Int)=3+(k:Int) by omega]at this
  have N1:=ZA (Jw wc (some ⟨b,off+(3+k),none⟩) 8 (c - (3+k)) us (by rw[Hm.o];exact h8) ZB Hb.o (R2.o.ext hxc));have hd:decide (4611686018427387903<(Z4 us:Int))=false:=by simp;omega
  have hw:IntKind.i64.wrap (Z4 us:Int)=(Z4 us:Int):=by rw[Zaa];omega
  have g3:=ZF KC.out 3;clear h8;go_wp2_with fail;refine N1.o.mono ?_;rintro e w5 ⟨rfl,rfl⟩;go_wp2_with fail;refine N1.o.mono ?_;rintro e w5 ⟨rfl,rfl⟩;have hne2:¬w.heap.size=w.heap.size+1:=by omega
  have KC3:=ZA (ZU KC.out 3 (.int .i64 (Z4 us:Int)));have KR3:=ZA (YP KR.o (Zc wc (w.heap.size+1) 3 (.int .i64 (Z4 us:Int))) ZB);have Ho3:=ZA (Ho.o.kept (Zc wc (w.heap.size+1) 3 (.int .i64 (Z4 us:Int))) (Je Ho.o ZB));have hx3:=Ya hxc (Zc wc (w.heap.size+1) 3 (.int .i64 (Z4 us:Int))) ZB;go_upto_region 20 with fail;obtain⟨W3,hW3⟩:=ZTz (wc.setCell ⟨w.heap.size+1,3,none⟩ (.int .i64 (Z4 us:Int)));rw[hW3]at KC3 KR3 Ho3 hx3 ⊢;have KC4:ZD (W3.heap[w.heap.size+1]?=some (.cells #[.int .u8 1,.int .i64 (p:Int),.slice A4 k c4,.int .i64 (Z4 us:Int)] 34 (0,0))):=KC3.o;clear hW3 c0 c1 c2 c3 k0 k1 k2 k3 f0 f1 f2 f3 g3 KC KR Ho N1 KC3 e0 hsl8;have c0:=ZE KC4.o 0;have c1:=ZE KC4.o 1;have c2:=ZE KC4.o 2;have c3:=ZE KC4.o 3;have k0:=ZE KR3.o 0;have k1:=ZE KR3.o 1;have k2:=ZE KR3.o 2;have k3:=ZE KR3.o 3;have f0:=ZF KR3.o 0;have f1:=ZF KR3.o 1;have f2:=ZF KR3.o 2;have f3:=ZF KR3.o 3;go_wp2_with fail;refine ZcY (YO rfl rfl (ZAS KR3.o _ _ _ _)) rfl ?_;exact ZII (op:=1) (p:=p) (N:=Z4 us) Hk.o (Jv (Zg (base':=w.heap.size+1) Ho3.o ZB) ZB _ _ _ _) (Y5 hx3 (Zb0 _) _ _ _ _)
theorem ZNy (w:World)(b off n c:Nat)(ts:List Nat)(p N:Nat)(xs:List Nat)(hn:n=ts.length+1)(hnc:n<=c)(hts:ts=Y4 p xs N)(hp:p<32)(h1:1<=N)(h2:N<=4611686018427387903)(hx:xs.length<=255)(hxb:∀x ∈ xs,x<256)(hr:Rd w (some ⟨b,off,none⟩) (ZV .u8 (3::ts))): Calls Tryz.prog 62 #[.slice (some ⟨b,off,none⟩) n c] w (ZMN 3 p xs N w):=by
 obtain⟨b',off',hA,c0⟩:=YU hr;injection hA with hA;injection hA with e1 e2 _;subst e1 e2;have hblk:b<w.heap.size:=ZcO w _ c0;have hn0:((n:Int)==0)=false:=by rw[ZcW];omega
 have hn1:0<n:=by omega
 have d00:=λo o'=>ZI (ZI c0 o) o';have d0:=ZI c0;obtain⟨A',hsl,hrd,_⟩:=XP Tryz.underlying32 Xo (A:=some ⟨b,off,none⟩) (n:=n) (c:=c) (m:=ts.length) (d:=c - 1) 1 (ki:=1) rfl hnc hn ZB;have hrt:Rd w A' (ZV .u8 ts):=hrd w _ (by rw[XM,ZbA,hn]) hr;have Hrt:=ZA (λo o'=>(hrt.alloc o).alloc o');have Hn:=ZA hn;have hn2:ts.length+1<=n:=by omega
 have hn3:n<=ts.length+1:=by omega
 clear c0 hr hrd hrt hn;have Hts:=ZA hts;have Hxb:=ZA hxb;clear hts hxb;have hlt:=ZAQ p xs N;rw[<-Hts.o]at hlt;have Hlt:=ZA hlt;clear hlt;go_enter Tryz.func62,Tryz.ntmps62;go_wp2_with fail;refine(ZIK _ p N A' ts.length (c - 1) xs Hlt.o Hxb.o (by rw[<-Hts.o];exact Hrt.o _ _) ZB h1 h2 hp hx).mono ?_;rintro e w1 ⟨A1,c1,rfl,ho,hy1⟩;have K2:=ZA (ZJ (ZR (ZM w (.cells #[.int .u8 0,.int .i64 0,.slice none 0 0,.int .i64 0] 34 (0,0))) (.cells #[.int .u8 3,.int .i64 0,.slice none 0 0,.int .i64 0] 34 (0,0))) hy1);have K4:ZD (w1.heap[w.heap.size+1]?=some (.cells #[.int .u8 3,.int .i64 0,.slice none 0 0,.int .i64 0] 34 (0,0))):=ZJ (Zd _ _ ZTv) hy1;have hx1:ZL w w1:=(((ZL.refl w).alloc _).alloc _).trans hy1;have hs1:w.heap.size+2<=w1.heap.size:=by have:=hy1.size;simpa using this
 have Ho:ZD (w1.ownsRow (w.heap.size+2) 5 1 (.slice A1 xs.length c1) xs.length (ZV .u8 xs)):=Zg ho ZTv;clear ho;go_upto_region 7 with fail;obtain⟨W,hW⟩:=ZTz (w1.alloc (.cells #[.int .i64 (p:Int),.slice A1 xs.length c1,.int .i64 (N:Int)] 120));have hyW:ZL w1 W:=by rw[<-hW];exact(ZL.refl w1).alloc _
 have KT:ZD (W.heap[w1.heap.size]?=some (.cells #[.int .i64 (p:Int),.slice A1 xs.length c1,.int .i64 (N:Int)] 120 (0,0))):=by rw[<-hW];exact ZM _ _
 have KC:=ZA (ZJ K4.o hyW);have KR:=ZA (ZJ K2.o hyW);have hxW:=hx1.trans hyW;have HoW:=ZA (YB Ho.o hyW);rw[hW];clear hW hyW K2 K4 d0 d00 Hrt hsl;have t0:=ZE KT.o 0;have t1:=ZE KT.o 1;have t2:=ZE KT.o 2;have u0:=ZE KC.out 0;have u1:=ZE KC.out 1;have u2:=ZE KC.out 2;have u3:=ZE KC.out 3;have f0:=ZF KC.out 0;have f1:=ZF KC.out 1;have f2:=ZF KC.out 2;have f3:=ZF KC.out 3;have hne:¬w.heap.size+1=w1.heap.size:=by omega
 have hne':¬w1.heap.size=w.heap.size+1:=by omega
 go_cut [4] (λv4 wd=>v4=.pointer (some ⟨w.heap.size+1,0,none⟩)/\wd.heap[w.heap.size+1]?=some (.cells #[.int .u8 3,.int .i64 (p:Int),.slice A1 xs.length c1,.int .i64 (N:Int)] 34 (0,0))/\W.grownBy wd (some (w.heap.size+1)))
 case first=>
  go_region
  all_goals
   go_wp2_with fail
   go_meet
   first
   |exact⟨rfl,ZU (ZU (ZU KC.out 1 _) 2 _) 3 _,ZT (ZT (Zc W (w.heap.size+1) 1 _) 2 _) 3 _⟩
   |exact⟨rfl,ZU (ZU (ZU KC.out 1 _) 2 _) 3 _,Jh (ZT (ZT (Zc W (w.heap.size+1) 1 _) 2 _) 3 _)⟩
   |exact⟨rfl,ZU (ZU (ZU KC.out 1 _) 2 _) 3 _,Yn (ZT (ZT (Zc W.drew (w.heap.size+1) 1 _) 2 _) 3 _)⟩
 case rest=>
  obtain⟨rfl,hC,hG⟩:=hcut;have KC':=ZA hC;have KR':=ZA (YP KR.o hG ZB);have hxc:=Ya hxW hG ZB;have Hoc:=ZA (Zg (HoW.o.kept hG (Je HoW.o ZB)) (show w.heap.size+1<=w.heap.size+2 by omega));clear hC t0 t1 t2 u0 u1 u2 u3 f0 f1 f2 f3 KC KR KT;have c0:=ZE KC'.o 0;have c1:=ZE KC'.o 1;have c2:=ZE KC'.o 2;have c3:=ZE KC'.o 3;have k0:=ZE KR'.o 0;have k1:=ZE KR'.o 1;have k2:=ZE KR'.o 2;have k3:=ZE KR'.o 3;have f0:=ZF KR'.o 0;have f1:=ZF KR'.o 1;have f2:=ZF KR'.o 2;have f3:=ZF KR'.o 3;go_wp2_with fail;refine ZcY (YO rfl rfl (ZAS KR'.o _ _ _ _)) rfl ?_;exact⟨A1,_,rfl,Jv Hoc.o ZB _ _ _ _,Y5 hxc (Zb0 _) _ _ _ _⟩
theorem ZNz (w:World)(b off n c:Nat)(ts:List Nat)(hn:n=ts.length+1)(hnc:n<=c)(hn4:n<=4096)(hb:∀x ∈ ts,x<256)(hno:¬ZGr ts)(hr:Rd w (some ⟨b,off,none⟩) (ZV .u8 (3::ts))): Calls Tryz.prog 62 #[.slice (some ⟨b,off,none⟩) n c] w (ZI0 w):=by
 obtain⟨b',off',hA,c0⟩:=YU hr;injection hA with hA;injection hA with e1 e2 _;subst e1 e2;have hblk:b<w.heap.size:=ZcO w _ c0;have hn0:((n:Int)==0)=false:=by rw[ZcW];omega
 have hn1:0<n:=by omega
 have d00:=λo o'=>ZI (ZI c0 o) o';have d0:=ZI c0;obtain⟨A',hsl,hrd,_⟩:=XP Tryz.underlying32 Xo (A:=some ⟨b,off,none⟩) (n:=n) (c:=c) (m:=ts.length) (d:=c - 1) 1 (ki:=1) rfl hnc hn ZB;have hrt:Rd w A' (ZV .u8 ts):=hrd w _ (by rw[XM,ZbA,hn]) hr;have Hrt:=ZA (λo o'=>(hrt.alloc o).alloc o');have Hn:=ZA hn;have hn2:ts.length+1<=n:=by omega
 have hn3:n<=ts.length+1:=by omega
 clear c0 hr hrd hrt hn;have Hb:=ZA hb;have Hno:=ZA hno;clear hb hno;go_enter Tryz.func62,Tryz.ntmps62;go_wp2_with fail;refine(ZFw _ A' ts.length (c - 1) ts rfl Hb.o (Hrt.o _ _) ZB ZB Hno.o).mono ?_;rintro e w1 ⟨rfl,hy1⟩;have K2:=ZA (ZJ (ZR (ZM w (.cells #[.int .u8 0,.int .i64 0,.slice none 0 0,.int .i64 0] 34 (0,0))) (.cells #[.int .u8 3,.int .i64 0,.slice none 0 0,.int .i64 0] 34 (0,0))) hy1);have K4:ZD (w1.heap[w.heap.size+1]?=some (.cells #[.int .u8 3,.int .i64 0,.slice none 0 0,.int .i64 0] 34 (0,0))):=ZJ (Zd _ _ ZTv) hy1;have hx1:ZL w w1:=(((ZL.refl w).alloc _).alloc _).trans hy1;have hs1:w.heap.size+2<=w1.heap.size:=by have:=hy1.size;simpa using this
 go_upto_region 7 with fail;obtain⟨W,hW⟩:=ZTz (w1.alloc (.cells #[.int .i64 (0:Int),.slice none 0 0,.int .i64 (0:Int)] 120));have hyW:ZL w1 W:=by rw[<-hW];exact(ZL.refl w1).alloc _
 have KT:ZD (W.heap[w1.heap.size]?=some (.cells #[.int .i64 (0:Int),.slice none 0 0,.int .i64 (0:Int)] 120 (0,0))):=by rw[<-hW];exact ZM _ _
 have KC:=ZA (ZJ K4.o hyW);have KR:=ZA (ZJ K2.o hyW);have hxW:=hx1.trans hyW;rw[hW];clear hW hyW K2 K4 d0 d00 Hrt hsl;have t0:=ZE KT.o 0;have t1:=ZE KT.o 1;have t2:=ZE KT.o 2;have u0:=ZE KC.out 0;have u1:=ZE KC.out 1;have u2:=ZE KC.out 2;have u3:=ZE KC.out 3;have f0:=ZF KC.out 0;have f1:=ZF KC.out 1;have f2:=ZF KC.out 2;have f3:=ZF KC.out 3;have hne:¬w.heap.size+1=w1.heap.size:=by omega
 have hne':¬w1.heap.size=w.heap.size+1:=by omega
 go_cut [4] (λv4 wd=>v4=.pointer (some ⟨w.heap.size+1,0,none⟩)/\wd.heap[w.heap.size+1]?=some (.cells #[.int .u8 3,.int .i64 (0:Int),.slice none 0 0,.int .i64 (0:Int)] 34 (0,0))/\W.grownBy wd (some (w.heap.size+1)))
 case first=>
  go_region
  all_goals
   go_wp2_with fail
   go_meet
   first
   |exact⟨rfl,ZU (ZU (ZU KC.out 1 _) 2 _) 3 _,ZT (ZT (Zc W (w.heap.size+1) 1 _) 2 _) 3 _⟩
   |exact⟨rfl,ZU (ZU (ZU KC.out 1 _) 2 _) 3 _,Jh (ZT (ZT (Zc W (w.heap.size+1) 1 _) 2 _) 3 _)⟩
   |exact⟨rfl,ZU (ZU (ZU KC.out 1 _) 2 _) 3 _,Yn (ZT (ZT (Zc W.drew (w.heap.size+1) 1 _) 2 _) 3 _)⟩
 case rest=>
  obtain⟨rfl,hC,hG⟩:=hcut;have KC':=ZA hC;have KR':=ZA (YP KR.o hG ZB);have hxc:=Ya hxW hG ZB;clear hC t0 t1 t2 u0 u1 u2 u3 f0 f1 f2 f3 KC KR KT;have c0:=ZE KC'.o 0;have c1:=ZE KC'.o 1;have c2:=ZE KC'.o 2;have c3:=ZE KC'.o 3;have k0:=ZE KR'.o 0;have k1:=ZE KR'.o 1;have k2:=ZE KR'.o 2;have k3:=ZE KR'.o 3;have f0:=ZF KR'.o 0;have f1:=ZF KR'.o 1;have f2:=ZF KR'.o 2;have f3:=ZF KR'.o 3;go_wp2_with fail;refine ZcY (YO rfl rfl (ZAS KR'.o _ _ _ _)) rfl ?_;exact⟨_,_,_,_,_,_,rfl,Y5 hxc (Zb0 _) _ _ _ _⟩
theorem ZIi (w:World)(A:Option Addr)(n c:Nat)(hn:4096<n):Calls Tryz.prog 21 #[.slice A n c] w (Xu (.tuple #[ZCk,.int .i64 2]) w):=by
 go_enter Tryz.func21,Tryz.ntmps21;go_wp2_with fail;refine ZcY (YO rfl rfl (Zcd w _)) rfl ?_;exact⟨rfl,(ZL.refl w).alloc _⟩
theorem ZOE (w:World)(A:Option Addr)(n c:Nat)(ys:List Nat)(hn:n<=4096)(hr:Rd w A (ZV .u8 ys))(hG:∀w',Rd w' A (ZV .u8 ys)->Calls Tryz.prog 62 #[.slice A n c] w' (ZI0 w')): Calls Tryz.prog 21 #[.slice A n c] w (Xu (.tuple #[ZCk,.int .i64 3]) w):=by
 have HG:=ZA hG;have Hr:=ZA hr;clear hG hr;go_enter Tryz.func21,Tryz.ntmps21;go_wp2_with fail;refine(HG.o _ (Hr.o.alloc _)).mono ?_;rintro e w1 ⟨o,p,A1,n1,c1,N,rfl,hy⟩;have K:=ZA (ZJ (ZM w (.cells #[.int .u8 0,.int .i64 0,.slice none 0 0,.int .i64 0] 34 (0,0))) hy);have hx:ZL w w1:=((ZL.refl w).alloc _).trans hy;clear hy;have k0:=ZI (ZE K.o 0);have k1:=ZI (ZE K.o 1);have k2:=ZI (ZE K.o 2);have k3:=ZI (ZE K.o 3);have f0:=Jz K.o 0;have f1:=Jz K.o 1;have f2:=Jz K.o 2;have f3:=Jz K.o 3;go_wp2_with fail;refine ZcY (YO rfl rfl (ZAS (ZR K.o _) _ _ _ _)) rfl ?_;exact⟨rfl,Y5 (hx.alloc _) (Zb0 _) _ _ _ _⟩
def ZTP (good:Prop)(op p N:Nat)(xs:List Nat)(w:World)(e:Ending)(w':World):Prop:=(good->ZEH op p xs N w e w')/\(¬good->Xu (.tuple #[ZCk,.int .i64 3]) w e w')
theorem ZHr (w:World)(A:Option Addr)(n c op p N:Nat)(ys xs:List Nat)(good:Prop)(hl:ys.length=n)(hb:∀x ∈ ys,x<256)(hn:n<=4096)(hr:Rd w A (ZV .u8 ys))(hG:∀w',Rd w' A (ZV .u8 ys)->Calls Tryz.prog 62 #[.slice A n c] w' (ZMN op p xs N w'))(hQ:∀A' c',∃(q:Int) (L:List Nat),(good->q=0/\L=ys)/\(¬good->(q==0)=false\/L≠ys)/\(∀x ∈ L,x<256)/\∀w',Rd w' A' (ZV .u8 xs)->Calls Tryz.prog 63 #[YY (op:Int) (p:Int) A' xs.length c' (N:Int)] w' (Yu L q w')): Calls Tryz.prog 21 #[.slice A n c] w (ZTP good op p N xs w):=by
 have HG:=ZA hG;have Hr:=ZA hr;have HQ:=ZA hQ;have Hl:=ZA hl;have Hb:=ZA hb;clear hG hr hQ hl hb;go_enter Tryz.func21,Tryz.ntmps21;go_wp2_with fail;refine(HG.o _ (Hr.o.alloc _)).mono ?_;rintro e w1 ⟨A1,c1,rfl,ho,hy⟩;have K:=ZA (ZJ (ZM w (.cells #[.int .u8 0,.int .i64 0,.slice none 0 0,.int .i64 0] 34 (0,0))) hy);have hx:ZL w w1:=((ZL.refl w).alloc _).trans hy;have Ho:ZD (w1.ownsRow (w.heap.size+1) 5 1 (.slice A1 xs.length c1) xs.length (ZV .u8 xs)):=Zg ho ZTv;clear hy ho;go_wp2_with fail;obtain⟨q,L,hg1,hg2,hLb,hC⟩:=HQ.o A1 c1;obtain⟨kL,HkL⟩:=ZTy (L.length);have Hg1:=ZA hg1;have Hg2:=ZA hg2;have HLb:=ZA hLb;have HC:=ZA hC;clear hg1 hg2 hLb hC HQ;refine(HC.o _ ((Rd.of_own Ho.o).alloc _)).mono ?_;rintro e w2 ⟨A2,c2,rfl,ho2,hy2⟩;rw[HkL.o]at ho2 ⊢;have K2:=ZA (ZJ (ZR K.o _) hy2);have KT:=ZA (ZJ (ZM w1 (.cells #[.int .u8 (op:Int),.int .i64 (p:Int),.slice A1 xs.length c1,.int .i64 (N:Int)] 34 (0,0))) hy2);have hy12:ZL w1 w2:=((ZL.refl w1).alloc _).trans hy2;have hx2:=hx.trans hy12;have Ho2:=ZA (YB Ho.o hy12);have RL:=ZA (Rd.of_own ho2);have hs1:w.heap.size<w1.heap.size:=ZW K.o;clear ho2 hy2 hy12 K Ho;by_cases hq:q=0
 ·subst hq;have S:=ZA (ZJP A A2 n c kL c2 ys L w2 Hl.o HkL.o ZB Hb.o HLb.o (Hr.o.ext hx2) RL.o);go_wp2_with fail;refine(ZOw S.o).mono ?_;rintro e w3 ⟨rfl,hy3⟩;have K3:=ZA (ZJ K2.o hy3);have KT3:=ZA (ZJ KT.o hy3);have hx3:=hx2.trans hy3;have Ho3:=ZA (YB Ho2.o hy3);clear S K2 KT Ho2 hy3;have k0:=ZE K3.o 0;have k1:=ZE K3.o 1;have k2:=ZE K3.o 2;have k3:=ZE K3.o 3;have f0:=ZF K3.o 0;have f1:=ZF K3.o 1;have f2:=ZF K3.o 2;have f3:=ZF K3.o 3;have t0:=ZE KT3.o 0;have t1:=ZE KT3.o 1;have t2:=ZE KT3.o 2;have t3:=ZE KT3.o 3;by_cases hs:ys=L
  ·have e1:same ys L=true:=Zcb hs;rw[e1];have Hs:=ZA hs;clear hs e1;go_wp2_with fail;refine ZcY (YO rfl rfl (ZAS K3.o _ _ _ _)) rfl ?_;refine⟨λ_=>⟨A1,_,rfl,Jv Ho3.o ZB _ _ _ _,Y5 hx3 (Zb0 _) _ _ _ _⟩,λh=>?_⟩;rcases Hg2.o h with h|h
   ·simp at h
   ·exact absurd Hs.o.symm h
  ·have e1:same ys L=false:=Zca hs;rw[e1];have Hs:=ZA hs;clear hs e1;go_wp2_with fail;refine ZcY (YO rfl rfl (ZAS K3.o _ _ _ _)) rfl ?_;exact⟨λh=>absurd (Hg1.o h).2.symm Hs.o,λ_=>⟨rfl,Y5 hx3 (Zb0 _) _ _ _ _⟩⟩
 ·have hq':(q !=0)=true:=by simp[bne,hq]
  have Hq:=ZA hq;clear hq;have k0:=ZE K2.o 0;have k1:=ZE K2.o 1;have k2:=ZE K2.o 2;have k3:=ZE K2.o 3;have f0:=ZF K2.o 0;have f1:=ZF K2.o 1;have f2:=ZF K2.o 2;have f3:=ZF K2.o 3;go_wp2_with fail;refine ZcY (YO rfl rfl (ZAS K2.o _ _ _ _)) rfl ?_;exact⟨λh=>absurd (Hg1.o h).1 Hq.o,λ_=>⟨rfl,Y5 hx2 (Zb0 _) _ _ _ _⟩⟩
theorem JB {o:Nat}{z:List Nat}{op p N:Nat}{xs rest:List Nat}(h:ZAg (o::z) op p xs N rest):op=o/\1<=o/\o<=6/\(o<5->p<32/\xs.length<=255)/\ ((o=1/\z=p::xs.length::(xs++(Zh N 8++rest))/\N<=4611686018427387903)\/((o=2\/o=4)/\z=p::xs.length::(xs++rest)/\N=0)\/(o=3/\z=Y4 p xs N/\ZGr z)\/((o=5\/o=6)/\z=rest/\p=0/\xs=[]/\N=0)):=by
 obtain⟨⟨⟨h1,h2,h3,h4,h5⟩,hxb,h6,h7⟩,e,h8⟩:=h;have hops:op=1\/(op=2\/op=4)\/op=3\/(op=5\/op=6):=by omega
 rcases hops with rfl|h24|rfl|h56
 ·rw[ZFr]at e;simp only[Zaj,Zai,Zae]at e;obtain⟨rfl,e⟩:=e;exact⟨rfl,by omega,by omega,h3,.inl ⟨rfl,e,h4 rfl⟩⟩
 ·have k:Yt op p xs N=op::p::xs.length::xs:=by
   rcases h24 with rfl|rfl
   ·exact ZCV p xs N
   ·exact ZCU p xs N
  rw[k]at e;simp only[Zaj,Zai]at e;obtain⟨rfl,e⟩:=e;exact⟨rfl,h1,h2,h3,.inr (.inl ⟨h24,e,h7 h24⟩)⟩
 ·obtain rfl:=h8 rfl;rw[ZFq]at e;simp only[Zag,Zai]at e;obtain⟨rfl,e⟩:=e;obtain⟨k1,k2⟩:=h3 ZB;obtain⟨k3,k4⟩:=h5 rfl;exact⟨rfl,by omega,by omega,h3,.inr (.inr (.inl ⟨rfl,e,p,N,xs,k1,k3,k4,k2,hxb,e⟩))⟩
 ·rw[ZBA h56]at e;simp only[Zaj,ZbV,Zai]at e;obtain⟨rfl,e⟩:=e;obtain⟨k1,k2,k3⟩:=h6 ZB;exact⟨rfl,h1,h2,h3,.inr (.inr (.inr ⟨h56,e,k1,k2,k3⟩))⟩
theorem ZAl {ys:List Nat}(h:ZCq ys):∃op p xs N,ZAg ys op p xs N []:=ZEF.1 h
theorem ZEy (A:Option Addr)(n c:Nat)(ys:List Nat)(hl:ys.length=n)(hn:n<=4096)(hnc:n<=c)(hb:∀x ∈ ys,x<256): (∃op p xs N,op<256/\p<256/\N<=4611686018427387903/\xs.length<=255/\(∀x ∈ xs,x<256)/\(∀op' p' xs' N',ZAg ys op' p' xs' N' []->op=op'/\p=p'/\xs=xs'/\N=N')/\(5<=op->p=0/\xs=[]/\N=0)/\(op=2\/op=4->N=0)/\∀w,Rd w A (ZV .u8 ys)->Calls Tryz.prog 62 #[.slice A n c] w (ZMN op p xs N w))\/ (¬ZCq ys/\∀w,Rd w A (ZV .u8 ys)->Calls Tryz.prog 62 #[.slice A n c] w (ZI0 w)):=by
 match ys,hl,hb with
 |[],hl,_=>
  obtain rfl:n=0:=by simpa using hl.symm
  refine .inr ⟨λh=>?_,λw _=>ZNw w A c⟩;obtain⟨op,p,xs,N,hB⟩:=ZAl h;have:=hB.2.1;have k:(Yt op p xs N).length≠0:=by
   unfold Yt
   split
   ·simp
   ·split<;>simp
  rw[Zag]at this;rw[<-this]at k;exact k rfl
 |o::z,hl,hb=>
  have hn1:1<=n:=by simp at hl;omega
  have hln:z.length+1=n:=by simpa using hl
  have ho256:o<256:=hb o ZTv;have hzb:∀x ∈ z,x<256:=λx hx=>hb x (by simp[hx]);have cell0:∀w,Rd w A (ZV .u8 (o::z))->∃b off,A=some ⟨b,off,none⟩/\w.cell? ⟨b,off,none⟩=some (.int .u8 (o:Int)):=λw hr=>YU hr;by_cases h56:o=5\/o=6
  ·refine .inl ⟨o,0,[],0,ho256,by omega,by omega,by simp,by simp,λop' p' xs' N' hB=>?_,λ_=>⟨rfl,rfl,rfl⟩,λ_=>rfl,λw hr=>?_⟩
   ·obtain⟨e,_,_,_,h⟩:=JB hB;rcases h with⟨h,_⟩|⟨h,_⟩|⟨h,_⟩|⟨_,_,h1,h2,h3⟩
    ·omega
    ·omega
    ·omega
    ·exact⟨e.symm,h1.symm,h2.symm,h3.symm⟩
   ·obtain⟨b,off,rfl,c0⟩:=cell0 w hr;have e:(((o:Int)==5)||((o:Int)==6))=true:=by
     rcases h56 with h|h
     ·subst h;rfl
     ·subst h;rfl
    refine(ZEx w b off n c o hn1 c0 ZB _ _ rfl rfl).mono λe' w' ⟨h1,h2⟩=>⟨none,0,?_,ZcU _ _ _ _,h2⟩;rw[h1,e];rfl
  by_cases hoth:o=0\/7<=o
  ·refine .inr ⟨λh=>?_,λw hr=>?_⟩
   ·obtain⟨op,p,xs,N,hB⟩:=ZAl h;obtain⟨_,h1,h2,_⟩:=JB hB;omega
   ·obtain⟨b,off,rfl,c0⟩:=cell0 w hr;have e:(((o:Int)==5)||((o:Int)==6))=false:=by
     rw[Bool.or_eq_false_iff,ZcW,ZcW];constructor<;>omega
    refine(ZEx w b off n c o hn1 c0 ZB _ _ rfl rfl).mono λe' w' ⟨h1,h2⟩=>⟨(o:Int),0,none,0,0,0,by rw[h1,e],h2⟩
  by_cases h3:o=3
  ·subst h3;by_cases ht:ZGr z
   ·obtain⟨p,s,xs,hp,h1,h2,hx,hxb,hz⟩:=ht;refine .inl ⟨3,p,xs,s,by omega,by omega,h2,hx,hxb,λop' p' xs' N' hB=>?_,λh=>by omega,λh=>by omega,λw hr=>?_⟩
    ·obtain⟨e,_,_,_,h⟩:=JB hB;rcases h with⟨h,_⟩|⟨h,_⟩|⟨_,k,_⟩|⟨h,_⟩
     ·omega
     ·omega
     ·rw[hz]at k;obtain⟨⟨⟨_,_,_,_,g5⟩,_⟩,_⟩:=hB;obtain⟨k1,k2,k3⟩:=ZJC k h2 (g5 e).2;exact⟨e.symm,k1,k2,k3⟩
     ·omega
    ·obtain⟨b,off,rfl,_⟩:=cell0 w hr;exact ZNy w b off n c z p s xs ZB hnc hz hp h1 h2 hx hxb hr
   ·refine .inr ⟨λh=>?_,λw hr=>?_⟩
    ·obtain⟨op,p,xs,N,hB⟩:=ZAl h;obtain⟨e,_,_,_,h⟩:=JB hB;rcases h with⟨h,_⟩|⟨h,_⟩|⟨_,_,k⟩|⟨h,_⟩
     ·omega
     ·omega
     ·exact ht k
     ·omega
    ·obtain⟨b,off,rfl,_⟩:=cell0 w hr;exact ZNz w b off n c z ZB hnc hn hzb ht hr
  have h124:o=1\/o=2\/o=4:=by omega
  have few:∀w b off,A=some ⟨b,off,none⟩->w.cell? ⟨b,off,none⟩=some (.int .u8 (o:Int))->(n<3\/∃k:Nat,k<256/\w.cell? ⟨b,off+2,none⟩=some (.int .u8 (k:Int))/\3<=n/\n<3+k)->Calls Tryz.prog 62 #[.slice A n c] w (ZI0 w):=λw b off hA c0 hh=>by
   subst hA;rcases h124 with rfl|rfl|rfl
   ·exact ZLi w b off n c hn1 c0 hh
   ·exact ZLh w b off n c hn1 c0 hh
   ·exact ZLg w b off n c hn1 c0 hh
  by_cases hshort:n<3
  ·refine .inr ⟨λh=>?_,λw hr=>?_⟩
   ·obtain⟨op,p,xs,N,hB⟩:=ZAl h;obtain⟨e,_,_,_,h⟩:=JB hB;rcases h with⟨_,k,_⟩|⟨_,k,_⟩|⟨h,_⟩|⟨h,_⟩
    ·rw[k]at hln;simp at hln;omega
    ·rw[k]at hln;simp at hln;omega
    ·omega
    ·omega
   ·obtain⟨b,off,hA,c0⟩:=cell0 w hr;exact few w b off hA c0 (.inl hshort)
  match z,hln,hzb,hb,cell0 with
  |[],hln,_,_,_=>simp at hln;omega
  |[_],hln,_,_,_=>simp at hln;omega
  |p::k::t,hln,hzb,hb,cell0=>
   have hp:p<256:=hzb p ZTv;have hk:k<256:=hzb k ZTv;have htb:∀x ∈ t,x<256:=λx hx=>hzb x (by simp[hx]);have hlt:t.length+3=n:=by simp at hln;omega
   by_cases hf:n<3+k
   ·refine .inr ⟨λh=>?_,λw hr=>?_⟩
    ·obtain⟨op,p',xs,N,hB⟩:=ZAl h;obtain⟨e,_,_,_,h⟩:=JB hB;rcases h with⟨_,q,_⟩|⟨_,q,_⟩|⟨h,_⟩|⟨h,_⟩
     ·simp only[Zai]at q;obtain⟨_,q2,q3⟩:=q;rw[q3]at hlt;simp at hlt;omega
     ·simp only[Zai]at q;obtain⟨_,q2,q3⟩:=q;rw[q3]at hlt;simp at hlt;omega
     ·omega
     ·omega
    ·obtain⟨b,off,hA,hc⟩:=hr (by simp[ZV]);exact few w b off hA (hc 0 _ rfl) (.inr ⟨k,hk,hc 2 _ rfl,by omega,hf⟩)
   ·have hlk:(t.take k).length=k:=by rw[ZbG];omega
    have hxb:∀x ∈ t.take k,x<256:=λx hx=>htb x (ZbR hx);have hub:∀x ∈ t.drop k,x<256:=λx hx=>htb x (ZbP hx);have hnu:n=3+k+(t.drop k).length:=by rw[ZbB];omega
    by_cases h1:o=1
    ·subst h1;by_cases h8:(t.drop k).length=8/\Z4 (t.drop k)<=4611686018427387903
     ·refine .inl ⟨1,p,t.take k,Z4 (t.drop k),by omega,hp,h8.2,by omega,hxb,λop' p' xs' N' hB=>?_,λh=>by omega,λh=>by omega,λw hr=>?_⟩
      ·obtain⟨e,_,_,_,h⟩:=JB hB;rcases h with⟨_,q,hN'⟩|⟨h,_⟩|⟨h,_⟩|⟨h,_⟩
       ·simp only[Zai,Zag]at q;obtain⟨q1,q2,q3⟩:=q;have e1:t.take k=xs':=by rw[q3];exact Zbi q2.symm
        have e2:t.drop k=Zh N' 8:=by rw[q3];exact Zam q2.symm
        refine⟨e.symm,q1,e1,?_⟩;rw[e2,Xx];exact Zb9 (Zb4 hN' (by decide))
       ·omega
       ·omega
       ·omega
      ·obtain⟨b,off,rfl,_⟩:=cell0 w hr;exact ZN1 w b off n c p k (t.take k) (t.drop k) hlk hk hp hnu hnc hn hub (by rw[Zbg];exact hr) h8.1 h8.2
     ·refine .inr ⟨λh=>?_,λw hr=>?_⟩
      ·obtain⟨op,p',xs,N,hB⟩:=ZAl h;obtain⟨e,_,_,_,h⟩:=JB hB;rcases h with⟨_,q,hN'⟩|⟨h,_⟩|⟨h,_⟩|⟨h,_⟩
       ·simp only[Zai,Zag]at q;obtain⟨q1,q2,q3⟩:=q;have e2:t.drop k=Zh N 8:=by rw[q3];exact Zam q2.symm
        refine h8 ⟨by rw[e2,Zs],?_⟩;rw[e2,Xx];exact Zb2 (Nat.mod_le _ _) hN'
       ·omega
       ·omega
       ·omega
      ·obtain⟨b,off,rfl,_⟩:=cell0 w hr
       exact ZN2 w b off n c p k (t.take k) (t.drop k) hlk hk hp hnu hnc hn hub (by rw[Zbg];exact hr) (by
        by_cases h:(t.drop k).length=8
        ·exact .inr (Nat.lt_of_not_le λhh=>h8 ⟨h,hh⟩)
        ·exact .inl h)
    ·have h24:o=2\/o=4:=by omega
     refine .inl ⟨o,p,t.take k,0,ho256,hp,by omega,by omega,hxb,λop' p' xs' N' hB=>?_,λh=>by omega,λ_=>rfl,λw hr=>?_⟩
     ·obtain⟨e,_,_,_,h⟩:=JB hB;rcases h with⟨h,_⟩|⟨_,q,hN'⟩|⟨h,_⟩|⟨h,_⟩
      ·omega
      ·simp only[Zai,Zag]at q;obtain⟨q1,q2,q3⟩:=q;refine⟨e.symm,q1,?_,hN'.symm⟩;rw[<-q3,Zbk (by rw[q3];omega)]
      ·omega
      ·omega
     ·obtain⟨b,off,rfl,_⟩:=cell0 w hr;rcases h24 with rfl|rfl
      ·exact ZN0 w b off n c p k (t.take k) (t.drop k) hlk hk hp hnu hnc hn hub (by rw[Zbg];exact hr)
      ·exact ZNx w b off n c p k (t.take k) (t.drop k) hlk hk hp hnu hnc hn hub (by rw[Zbg];exact hr)
theorem ZHM {op p N P M:Nat}{xs:List Nat}(h1:op<5->((p:Nat):Int)=(P:Int))(h2:op=1\/op=3->((N:Nat):Int)=(M:Int))(hR:ZAs op p xs N):Yt op P xs M=Yt op p xs N:=by
 obtain⟨r1,r2,_⟩:=hR;by_cases h56:op=5\/op=6
 ·rw[ZBA h56,ZBA h56]
 ·have hp:p=P:=by have:=h1 ZB;omega
  subst hp;by_cases h13:op=1\/op=3
  ·have:N=M:=by have:=h2 h13;omega
   rw[this]
  ·have h24:op=2\/op=4:=by omega
   rcases h24 with rfl|rfl
   ·rw[ZCV,ZCV]
   ·rw[ZCU,ZCU]
theorem ZK1 (ys:List Nat)(n:Nat)(hl:ys.length=n)(hb:∀x ∈ ys,x<256): (∃q:Int,(q==0)=false/\(q=3\/(q=2/\4096<n))/\¬(n<=4096/\ZCq ys)/\(∀w B d,Rd w B (ZV .u8 ys)->n<=d->Calls Tryz.prog 106 #[.slice B n d] w (Xu (.tuple #[ZCk,.int .i64 q]) w))/\(∀w B d,Rd w B (ZV .u8 ys)->n<=d->Calls Tryz.prog 21 #[.slice B n d] w (Xu (.tuple #[ZCk,.int .i64 q]) w)))\/ (∃op p xs N,ZA6 op p xs N/\ys=Yt op p xs N/\n<=4096/\(∀w B d,Rd w B (ZV .u8 ys)->n<=d->Calls Tryz.prog 106 #[.slice B n d] w (ZEH op p xs N w))/\(∀w B d,Rd w B (ZV .u8 ys)->n<=d->Calls Tryz.prog 21 #[.slice B n d] w (ZEH op p xs N w))):=by
 by_cases hn:4096<n
 ·exact .inl ⟨2,rfl,.inr ⟨rfl,hn⟩,λh=>by omega,λw B d hr _=>ZIL w B n d ys hr hn,λw B d _ _=>ZIi w B n d hn⟩
 by_cases hq:ZCq ys
 ·right;obtain⟨op,p,xs,N,hB⟩:=ZAl hq;have hB':=hB;obtain⟨hN,he,_⟩:=hB;rw[Zag]at he;refine⟨op,p,xs,N,hN,he,by omega,λw B d hr hd=>ZFz w B n d ys xs op p N hl ZB hd hb hr hB',λw B d hr hd=>?_⟩;rcases ZEy B n d ys hl ZB hd hb with⟨op',p',xs',N',g1,g2,g3,g4,g5,g6,_,_,g7⟩|⟨h,_⟩
  ·obtain⟨rfl,rfl,rfl,rfl⟩:=g6 _ _ _ _ hB';refine(ZHr w B n d op' p' N' ys xs' True hl hb ZB hr g7 λA' c'=>?_).mono λe w' h=>h.1 trivial;obtain⟨q,L,hI,_,hC⟩:=ZER op' g1 (p':Int) (N':Int) xs'.length xs' rfl g5;rcases hI with⟨hq0,rfl,hno⟩|⟨rfl,P,M,k1,k2,k3,k4⟩
   ·exact absurd ⟨p',N',λ_=>rfl,λ_=>rfl,hN.1⟩ hno
   ·have hL:L=ys:=by
     rw[k4,he];exact ZHM k1 k2 hN.1
    exact⟨0,L,λ_=>⟨rfl,hL⟩,λh=>absurd trivial h,by rw[hL];exact hb,hC A' c'⟩
  ·exact absurd hq h
 ·left;refine⟨3,rfl,.inl rfl,λh=>hq h.2,λw B d hr hd=>ZDy w B n d ys hl ZB hd hb hr hq,λw B d hr hd=>?_⟩;rcases ZEy B n d ys hl ZB hd hb with⟨op',p',xs',N',g1,g2,g3,g4,g5,g6,g8,g9,g7⟩|⟨_,h⟩
  ·refine(ZHr w B n d op' p' N' ys xs' False hl hb ZB hr g7 λA' c'=>?_).mono λe w' h=>h.2 id;obtain⟨q,L,hI,_,hC⟩:=ZER op' g1 (p':Int) (N':Int) xs'.length xs' rfl g5;rcases hI with⟨hq0,rfl,hno⟩|⟨rfl,P,M,k1,k2,k3,k4⟩
   ·exact⟨q,[],λh=>h.elim,λ_=>.inl hq0,by simp,hC A' c'⟩
   ·refine⟨0,L,λh=>h.elim,λ_=>.inr λhL=>hq ?_,by rw[k4];exact ZIJ k3 g5,hC A' c'⟩;have hR:ZAs op' p' xs' N':=by
     obtain⟨r1,r2,r3,r4,r5⟩:=k3;exact⟨r1,r2,λh=>by have:=k1 h;have:=r3 h;omega,λh=>by have:=k2 (.inl h);have:=r4 h;omega,λh=>by have:=k2 (.inr h);have:=r5 h;omega⟩
    exact⟨op',p',xs',N',⟨hR,g5,g8,g9⟩,by rw[<-hL,k4];exact ZHM k1 k2 hR⟩
  ·exact ZOE w B n d ys ZB hr h
theorem ZMr {α β:Type}(f:α->List β)(n:Nat):∀(L:List α),(∀r ∈ L,(f r).length=n)->∀q u,(L.flatMap f)[q]?=some u->∃i j r,q=i*n+j/\j<n/\L[i]?=some r/\(f r)[j]?=some u
 |[],_,q,u,h=>by simp at h
 |a::L,hn,q,u,h=>by
  rw[Zat]at h;have ha:=hn a ZTv;by_cases hq:q<n
  ·rw[Zav ZB]at h;exact⟨0,q,a,by omega,hq,rfl,h⟩
  ·rw[Zaw ZB,ha]at h;obtain⟨i,j,r,h1,h2,h3,h4⟩:=ZMr f n L (λr hr=>hn r (by simp[hr])) _ u h;exact⟨i+1,j,r,by rw[Nat.succ_mul];omega,h2,by simpa using h3,h4⟩
theorem ZGX {α β:Type}(f:α->List β)(n:Nat):∀(L:List α),(∀r ∈ L,(f r).length=n)->∀i r,L[i]?=some r->∀j,j<n->(L.flatMap f)[i*n+j]?=(f r)[j]?
 |[],_,i,r,h,_,_=>by simp at h
 |a::L,hn,i,r,h,j,hj=>by
  rw[Zat];have ha:=hn a ZTv;cases i with
  |zero=>
   simp at h;subst h;rw[ZcM,ZcK,Zav ZB]
  |succ i=>
   rw[Zaw (by rw[Nat.succ_mul];omega),show(i+1)*n+j - (f a).length=i*n+j by rw[Nat.succ_mul];omega];exact ZGX f n L (λr hr=>hn r (by simp[hr])) i r (by simpa using h) j hj
section
open Go.ChangeShapes Go.WideShapes Go.ChangeAt Go.Deep
section
variable {H:Type} {enc:TypeId × Value->H} {P:Program} {w:World} {base:Nat} {spare:Nat->Bool} {held:Bool}
theorem ZD0 {t e:TypeId}{fs:Array Field}{fuel:Nat}{cs:List Value}{x:DataW H × List MemPlace}(ht:P.underlying t=some (.slice e))(he:P.underlying e=some (.struct fs))(hone:oneCellFields P fs=true)(hC:P.cellsOf e=fs.size)(h:DataW.trod enc P w base spare held fuel t cs=some x): (cs=[.slice none 0 0]/\x=(.nil,[]))\/ ∃(a:Addr) (len cap m:Nat) (D:Nat->DataW H) (Pl:Nat->List MemPlace),cs=[.slice (some a) len cap]/\base<=a.block/\len<=cap/\cap<=maxLen/\m=(if spare a.block then cap else len)/\ x=(.slice ((List.range len).map D) ((List.range (m - len)).map λj=>D (len+j)),MemPlace.row a (m*fs.size)++(List.range m).flatMap Pl)/\ ∀i,i<m->∃(ys:List (DataW H × List MemPlace)) (n:Nat),D i=.agg (ys.map (·.1))/\Pl i=ys.flatMap (·.2)/\ys.length=fs.size/\ ∀(j:Nat) (f:Field),fs[j]?=some f->∃(v:Value) (y:DataW H × List MemPlace),w.cell? (a.add (i*fs.size+j))=some v/\ys[j]?=some y/\DataW.trod enc P w base spare held n f.type [v]=some y:=by
 rcases open_slice ht h with h0|⟨a,len,cap,m,n,D,Pl,hcs,hb,hl,hm,hmm,hx,hi⟩
 ·exact .inl h0
 ·refine .inr ⟨a,len,cap,m,D,Pl,hcs,hb,hl,hm,hmm,by rw[hC]at hx;exact hx,λi him=>?_⟩;obtain⟨cs',hc,ht'⟩:=hi i him;rw[hC]at hc;obtain⟨ys,n',hn',hy,hlen,hyl,hf⟩:=DataW.trod_struct he ht';obtain⟨_,hcl,JQ⟩:=World.cells?_some hc;simp only[ZcN]at hy;refine⟨ys,n',hy.1,hy.2,hyl,λj f hj=>?_⟩;obtain⟨ho,hk⟩:=hone_of hone j f hj;have hjl:j<fs.size:=(ZaP.1 hj).1;have hcell:=JQ j hjl;have hv:cs'[j]?=some (cs'[j]'ZB):=Zaz ZB;have h1:=hf j f hj;rw[ho,hk]at h1;have hone':(cs'.drop j).take 1=[cs'[j]'ZB]:=by
   rw[List.drop_eq_getElem_cons ZB];rfl
  rw[hone']at h1;have hys:ys[j]?=some (ys[j]'ZB):=Zaz ZB;refine⟨_,_,?_,hys,h1.trans hys⟩;rw[<-Go.Deep.add_add,hcell,hv]
end
section
variable {H:Type} {enc:TypeId × Value->H} {P:Program}
end
end
section
open Go.ChangeShapes Go.WideShapes Go.ChangeAt Go.Deep
structure ZGt where
 op:Nat
 who:Int
 K:Option Addr
 cap:Nat
 key:List Nat
 val:Int
def ZAK (r:ZGt):List Value:=[.int .u8 (r.op:Int),.int .i64 r.who,.slice r.K r.key.length r.cap,.int .i64 r.val]
def ZFW (w:World)(r:ZGt):Prop:=(Lit.int .i64 r.who).wf=true/\r.op<256/\(∀x ∈ r.key,x<256)/\r.key.length<=r.cap/\r.cap<=maxLen/\Rd w r.K (ZV .u8 r.key)/\(Lit.int .i64 r.val).wf=true
section
variable {H:Type} {enc:TypeId × Value->H} {P:Program}
theorem ZQT {q0 q1 q2 q3 e8:TypeId}{W:World}{a':Addr}{i n0 n1 n2 n3:Nat}{v0 v1 v2 v3:Value}{y0 y1 y2 y3:DataW H × List MemPlace}(hu0:P.underlying q0=some (.int .u8))(hu1:P.underlying q1=some (.int .i64))(hu2:P.underlying q2=some (.slice e8))(he8:P.underlying e8=some (.int .u8))(hc8:P.cellsOf e8=1)(hu3:P.underlying q3=some (.int .i64))(c0:W.cell? (a'.add (i*4+0))=some v0)(c1:W.cell? (a'.add (i*4+1))=some v1)(c2:W.cell? (a'.add (i*4+2))=some v2)(c3:W.cell? (a'.add (i*4+3))=some v3)(t0:DataW.trod enc P W 0 (λ_=>true) true n0 q0 [v0]=some y0)(t1:DataW.trod enc P W 0 (λ_=>true) true n1 q1 [v1]=some y1)(t2:DataW.trod enc P W 0 (λ_=>true) true n2 q2 [v2]=some y2)(t3:DataW.trod enc P W 0 (λ_=>true) true n3 q3 [v3]=some y3): ∃r:ZGt,ZFW W r/\∀j u,(ZAK r)[j]?=some u->W.cell? (a'.add (i*4+j))=some u:=by
 obtain⟨z0,h0,_,w0⟩:=DataW.trod_int hu0 t0;obtain⟨z1,h1,_,w1⟩:=DataW.trod_int hu1 t1;obtain⟨z3,h3,_,w3⟩:=DataW.trod_int hu3 t3;injection h0 with h0 _;injection h1 with h1 _;injection h3 with h3 _;subst h0 h1 h3;have hsl:∃A l c,v2=.slice A l c:=by
  rcases open_slice hu2 t2 with⟨h,_⟩|⟨a,l,c,_,_,_,_,h,_⟩
  ·injection h with h _;exact⟨_,_,_,h⟩
  ·injection h with h _;exact⟨_,_,_,h⟩
 obtain⟨A,l,c,rfl⟩:=hsl;obtain⟨xs,hl,hb,hr,hc,hm,_⟩:=open_nats (enc:=enc) hu2 he8 hc8 rfl (d:=y2.1) (p:=y2.2) ⟨n2,t2⟩;have hz0:0<=z0/\z0.toNat<256:=by simp[Lit.wf,IntKind.min,IntKind.max,IntKind.signed,IntKind.bits]at w0;omega
 refine⟨⟨z0.toNat,z1,A,c,xs,z3⟩,⟨w1,hz0.2,by simpa[IntKind.bits]using hb,by dsimp only;omega,hm,hr,w3⟩,λj u hu=>?_⟩;unfold ZAK at hu
 dsimp only at hu
 rw[hl,ZaZ hz0.1]at hu
 match j,hu with
 |0,hu=>simp at hu;rw[<-hu];exact c0
 |1,hu=>simp at hu;rw[<-hu];exact c1
 |2,hu=>simp at hu;rw[<-hu];exact c2
 |3,hu=>simp at hu;rw[<-hu];exact c3
 |j+4,hu=>simp at hu
theorem open_calls {t e q0 q1 q2 q3 e8:TypeId}{fs:Array Field}{W:World}{a:Option Addr}{len cap:Nat}{d:DataW H}{p:List MemPlace}(ht:P.underlying t=some (.slice e))(he:P.underlying e=some (.struct fs))(hone:oneCellFields P fs=true)(hC:P.cellsOf e=fs.size)(hf:fs.toList.map (λf:Field=>f.type)=[q0,q1,q2,q3])(hu0:P.underlying q0=some (.int .u8))(hu1:P.underlying q1=some (.int .i64))(hu2:P.underlying q2=some (.slice e8))(he8:P.underlying e8=some (.int .u8))(hc8:P.cellsOf e8=1)(hu3:P.underlying q3=some (.int .i64))(h:DataW.Trod enc P W 0 (λ_=>true) true t (.slice a len cap) d p): ∃R:List ZGt,R.length=len/\(∀r ∈ R,ZFW W r)/\Rd W a (R.flatMap ZAK)/\len<=cap/\cap<=maxLen/\ZIy d len cap:=by
 have hfs:fs.size=4:=by have:=ZcZ List.length hf;simpa using this
 have hty:∀(j:Nat) (q:TypeId),[q0,q1,q2,q3][j]?=some q->∃f:Field,fs[j]?=some f/\f.type=q:=λj q hj=>by
  have:=ZcZ (λl=>l[j]?) hf;simp only[Za1,Array.getElem?_toList]at this;rw[hj]at this;cases hq:fs[j]? with
  |none=>rw[hq]at this;cases this
  |some f=>rw[hq]at this;injection this with this;exact⟨f,rfl,this⟩
 obtain⟨fuel,hh⟩:=h;rcases ZD0 ht he hone hC hh with⟨hcs,hx⟩|⟨a',l,c,m,D,Pl,hcs,_,hl,hm,hmm,hx,hall⟩
 ·simp[Value.cells]at hcs;obtain⟨rfl,rfl,rfl⟩:=hcs;simp only[ZcN]at hx;exact⟨[],rfl,λr hr=>by simp at hr,Rd.nil _ _,Zb0 _,ZcL _,.inl ⟨hx.1,rfl,rfl⟩⟩
 ·simp[Value.cells]at hcs;obtain⟨rfl,rfl,rfl⟩:=hcs;simp only[ZcN]at hx;simp only[if_true]at hmm;subst hmm;have hz:∀i,∃r:ZGt,i<len->ZFW W r/\∀j u,(ZAK r)[j]?=some u->W.cell? (a'.add (i*4+j))=some u:=λi=>by
   by_cases hi:i<len
   ·obtain⟨ys,n,_,_,_,hfj⟩:=hall i ZB;rw[hfs]at hfj;obtain⟨f0,g0,rfl⟩:=hty 0 q0 rfl;obtain⟨f1,g1,rfl⟩:=hty 1 q1 rfl;obtain⟨f2,g2,rfl⟩:=hty 2 q2 rfl;obtain⟨f3,g3,rfl⟩:=hty 3 q3 rfl;obtain⟨v0,y0,c0,_,t0⟩:=hfj 0 f0 g0;obtain⟨v1,y1,c1,_,t1⟩:=hfj 1 f1 g1;obtain⟨v2,y2,c2,_,t2⟩:=hfj 2 f2 g2;obtain⟨v3,y3,c3,_,t3⟩:=hfj 3 f3 g3;obtain⟨r,hr⟩:=ZQT hu0 hu1 hu2 he8 hc8 hu3 c0 c1 c2 c3 t0 t1 t2 t3;exact⟨r,λ_=>hr⟩
   ·exact⟨⟨0,0,none,0,[],0⟩,λh=>absurd h hi⟩
  obtain⟨Z,hZ⟩:=Classical.axiomOfChoice hz;refine⟨(List.range len).map Z,by simp,λr hr=>?_,?_,hl,hm,.inr ⟨_,_,hx.1,by simp,by simp;omega⟩⟩
  ·obtain⟨i,hi,rfl⟩:=ZbN.1 hr;exact(hZ i (ZbT.1 hi)).1
  ·refine ZEp λq u hu=>?_;obtain⟨i,j,r,rfl,hj,hi,hu⟩:=ZMr ZAK 4 _ (λr _=>rfl) q u hu;have hil:i<len:=by have:=(Za0.1 hi).1;simpa using this
   have hr:r=Z i:=by
    rw[Za1,List.getElem?_range hil]at hi;injection hi with hi;exact hi.symm
   subst hr;exact(hZ i hil).2 j u hu
end
end
end Go.Proofs.YtloidkmphigbdaaGreat
