/- Laid together: what 'TopBroken' needs, part 10 of 11. -/
import Derived.Test.YtloidkmphigbdaaGreatBTopBroken1
import Derived.Test.YtloidkmphigbdaaGreatBTopBroken2
import Derived.Test.YtloidkmphigbdaaGreatBTopBroken3
import Derived.Test.YtloidkmphigbdaaGreatBTopBroken4
import Derived.Test.YtloidkmphigbdaaGreatBTopBroken5
import Derived.Test.YtloidkmphigbdaaGreatBTopBroken6
import Derived.Test.YtloidkmphigbdaaGreatBTopBroken7
import Derived.Test.YtloidkmphigbdaaGreatBTopBroken8
import Derived.Test.YtloidkmphigbdaaGreatBTopBroken9
namespace Go.Proofs.YtloidkmphigbdaaGreat
set_option linter.all false
set_option maxHeartbeats 40000000
set_option maxRecDepth 100000
open Go.RowKit
theorem ZFb (w:World)(g:YE)(O C:Zdb)(xb:Nat->Nat)(L:List Zf)(s:YF)(who:Nat)(x:ZX)(res:Bool)(ser:Int)(k:YN)(h:YK w g O C xb L s)(hc:s.call who=.run x res ser k)(hL:L.length<=1000000)(hw:who<64)(hk:(s.clk:Int)<=4611686018427387903): Calls Tryz.prog 182 #[ZH (xb who)] w λe w'=>e=.returned (.int .i64 (s.clk:Int))/\ZBE w g O C xb (L++[⟨who,3,0,s.clk,0,true⟩]) s w':=by
 obtain⟨y4,y5,-,-,-,-⟩:=h.call hw hc;have c2:=h.rd.c2;have l0:=h.rd.l0;have b0:=h.rd.b0;obtain⟨Fm,hm,hwl,-,-,hh,-,nFb,nFh,go1,-,-⟩:=(h.ext (ZL.refl w).drew).swap;have CK:=ZA (ZQP w.drew Fm g.gm s.ws s.clk L (who:Int) hm hL ZB ZB ZB);have G1:=ZA go1;have Hc:=ZA hc;obtain⟨xw,Hx⟩:=ZTy (xb who);rw[Hx.o]at y4 y5 ⊢;clear h hc hm go1 hh hwl nFb nFh hk;go_enter Tryz.func182,Tryz.ntmps182;go_upto_region 1 with fail
 go_cut [3] (λv3 wd=>v3=.int .i64 (s.clk:Int)/\ZBE w g O C xb (L++[⟨who,3,0,s.clk,0,true⟩]) s wd)
 case first=>
  go_region_held3 (λw'=>w'.cell? ⟨xw,4,none⟩=some (ZH g.gx)/\w'.cell? ⟨xw,5,none⟩=some (.int .i64 (who:Int))/\w'.cell? ⟨g.gx,2,none⟩=some (ZH g.gl)/\w'.cell? ⟨g.gl,0,none⟩=some (ZH g.gb)/\w'.cell? ⟨g.gb,0,none⟩=some (ZH g.gm)) (((try go_split_ands);exact⟨ZT3,ZT3,ZT3,ZT3,ZT3⟩)) ((go_at_call 242;(with_reducible refine CK.o.mono ?_);rintro e w2 ⟨rfl,hg⟩;obtain⟨C',hm⟩:=(G1.o _ _ hg).mov;have HM:=ZA (hm.back (ZL.refl w).drew).go;obtain⟨ty4',ty5',-,-,-,-⟩:=hm.1.call hw Hc.o;rw[Hx.o]at ty4' ty5';have ty4:=ty4';have ty5:=ty5';have tc2:=hm.1.rd.c2;have tl0:=hm.1.rd.l0;have tb0:=hm.1.rd.b0;clear hm hg ty4' ty5'))
  all_goals
   go_wp2_with fail
   go_meet
   exact⟨rfl,HM.o⟩
 case rest=>
  obtain⟨rfl,hg⟩:=hcut;have HG:=ZA hg;clear hg;go_wp2_with fail;go_ret;exact⟨rfl,HG.o⟩
theorem ZSh (w:World)(g:YE)(O C:Zdb)(xb:Nat->Nat)(L:List Zf)(s:YF)(who:Nat)(x:ZX)(res:Bool)(ser:Int)(ce:ZO)(f:FuncId)(caps:Array Value)(h:YK w g O C xb L s)(hc:s.call who=.run x res ser (.peek ce))(hL:L.length<=100000)(hw:who<64)(hclk:(s.clk:Int)<=4611686018427387903)(hk:Ze w (XO C O) (Zi g who (xb who) x) (Z1 f caps) (.peek ce))(hkd:(Zk g.P x.pol).kind=1)(hp:ZI1 (Zk g.P x.pol))(ht:ZBi ce.tat): Calls Tryz.prog f caps w (SK w g O C xb who (L.length+1) x s (.fin (ZF9 (Zk g.P x.pol) ce s.clk))):=by
 obtain⟨p0,p1,p2,hfn,k0,⟨r,k1,hpc⟩,k2⟩:=hk;injection hfn with hfn h1 h2;injection hfn with hfn;subst hfn h2;obtain⟨b0,rfl,l0⟩:=k0.ptr;obtain⟨b1,rfl,l1⟩:=k1.ptr;obtain⟨b2,rfl,l2⟩:=k2.ptr;obtain⟨p,Hp⟩:=ZTy (Zk g.P x.pol);have k0:Zb w (XO C O) (ZH b0) (ZCY (Zk g.P x.pol)):=k0;rw[Hp.o]at k0 hkd hp ⊢;obtain⟨W,hW⟩:=ZTz ((w.alloc ZUA));have xW:ZL w W:=by rw[<-hW];exact((ZL.refl w).alloc _)
 have K0:=ZA (show W.heap[w.heap.size]?=some ZUA by rw[<-hW];exact ZM w _);have hA:=h.xg xW (Zb0 _) (ZW K0.o);have NW:=ZA (ZFb W.drew g (XG O w.heap.size) C xb L s who x res ser _ (hA.ext (ZL.refl W).drew) hc ZB hw hclk);obtain⟨clk,Hck⟩:∃q:Int,ZD ((s.clk:Int)=q):=⟨_,ZA rfl⟩;have hc0:ZBi clk:=by rw[<-Hck.o];exact⟨by omega,hclk⟩
 rw[Hck.o]at NW ⊢;obtain⟨rp,Hrp⟩:=ZTy (ZF9 p ce clk);have PK:=λv=>ZMB v p ce r clk hkd hp ht hc0;rw[Hrp.o]at PK ⊢;have PK:=ZA PK;obtain⟨xw,Hxw⟩:=ZTy (xb who);have k2:Zz w (XO C O) (ZH b2) (ZH (xb who)):=k2;rw[Hxw.o]at NW k2;have e0:=(k0.ext xW).ZT2 0 (.int .u8 (p.kind:Int));have e1:=(k0.ext xW).ZT2 1 (.int .i64 p.T);have e2:=(k0.ext xW).ZT2 2 (.int .i64 p.Tau);have e3:=(k0.ext xW).ZT2 3 (.int .i64 p.perm);have d0:=(k1.ext xW).ZT2 0 (.int .i64 (ce.pol:Int));have d1:=(k1.ext xW).ZT2 1 (.slice r.K ce.key.length r.kc);have d2:=(k1.ext xW).ZT2 2 (.int .i64 ce.tat);have d3:=(k1.ext xW).ZT2 3 (.slice r.H ce.held.length r.hc);have f0:=(k2.ext xW).ZT2 0 (ZH xw);have HLT:=ZA h.lt;have HK0:=ZA k0;have HK1:=ZA k1;have HK2:=ZA k2;have XW:=ZA xW;have HW:=ZA hW;have HNL:=ZA (show(L++[(⟨who,3,0,s.clk,0,true⟩:Zf)]).length<=L.length+1 by simp);have qe0:b0≠w.heap.size:=by omega
 have qe1:=qe0;have qe2:=qe0;have qe3:=qe0;have qd0:b1≠w.heap.size:=by omega
 have qd1:=qd0;have qd2:=qd0;have qd3:=qd0;have qf0:b2≠w.heap.size:=by omega
 clear h hc k0 k1 k2 hA xW hW hL hclk hkd hp ht hc0 l0 l1 l2 hpc;go_enter Tryz.func197,Tryz.ntmps197;go_upto_region 1 with fail
 (try rw[HW.o])
 clear HW;have HS:=ZA (λ(X':Zdb) (w':World) (kp:Kp w w' (XO C O) X')=>(⟨(HK0.o.kp kp).cell 0,(HK0.o.kp kp).cell 1,(HK0.o.kp kp).cell 2,(HK0.o.kp kp).cell 3,(HK1.o.kp kp).cell 0,(HK1.o.kp kp).cell 1,(HK1.o.kp kp).cell 2,(HK1.o.kp kp).cell 3,(HK2.o.kp kp).cell 0⟩:w'.cell? ⟨b0,0,none⟩=some (.int .u8 (p.kind:Int))/\w'.cell? ⟨b0,1,none⟩=some (.int .i64 p.T)/\w'.cell? ⟨b0,2,none⟩=some (.int .i64 p.Tau)/\w'.cell? ⟨b0,3,none⟩=some (.int .i64 p.perm)/\w'.cell? ⟨b1,0,none⟩=some (.int .i64 (ce.pol:Int))/\w'.cell? ⟨b1,1,none⟩=some (.slice r.K ce.key.length r.kc)/\w'.cell? ⟨b1,2,none⟩=some (.int .i64 ce.tat)/\w'.cell? ⟨b1,3,none⟩=some (.slice r.H ce.held.length r.hc)/\w'.cell? ⟨b2,0,none⟩=some (ZH xw)))
 go_region_held3 (λw'=>w'.cell? ⟨b0,0,none⟩=some (.int .u8 (p.kind:Int))/\w'.cell? ⟨b0,1,none⟩=some (.int .i64 p.T)/\w'.cell? ⟨b0,2,none⟩=some (.int .i64 p.Tau)/\w'.cell? ⟨b0,3,none⟩=some (.int .i64 p.perm)/\w'.cell? ⟨b1,0,none⟩=some (.int .i64 (ce.pol:Int))/\w'.cell? ⟨b1,1,none⟩=some (.slice r.K ce.key.length r.kc)/\w'.cell? ⟨b1,2,none⟩=some (.int .i64 ce.tat)/\w'.cell? ⟨b1,3,none⟩=some (.slice r.H ce.held.length r.hc)/\w'.cell? ⟨b2,0,none⟩=some (ZH xw)) (((try go_split_ands);exact⟨ZT4,ZT4,ZT4,ZT4,ZT4,ZT4,ZT4,ZT4,ZT4⟩))
  (first
   |(go_at_call 182;(with_reducible refine NW.o.mono ?_);rintro e w2 ⟨rfl,hg⟩;obtain⟨C',hm⟩:=hg.mov;have HM:=ZA (hm.back (ZL.refl W).drew);obtain⟨te0,te1,te2,te3,td0,td1,td2,td3,tf0⟩:=HS.o _ _ (HM.o.kpg XW.o (Zb0 w.heap.size));clear hm hg)
   |(go_at_call 196;(with_reducible refine(PK.o _).mono ?_);rintro e w3 ⟨rfl,hx⟩;have X3:=ZA hx;have tte0:=ZG (hx) te0;have tte1:=ZG (hx) te1;have tte2:=ZG (hx) te2;have tte3:=ZG (hx) te3;have ttd0:=ZG (hx) td0;have ttd1:=ZG (hx) td1;have ttd2:=ZG (hx) td2;have ttd3:=ZG (hx) td3;have ttf0:=ZG (hx) tf0;have te0:=tte0;have te1:=tte1;have te2:=tte2;have te3:=tte3;have td0:=ttd0;have td1:=ttd1;have td2:=ttd2;have td3:=ttd3;have tf0:=ttf0;clear hx)
   |(go_at_call 178;(with_reducible refine(ZBa w3 (XO C' (XG O w.heap.size)) (Zi g who (xb who) x) rp).mono ?_);rintro e w4 ⟨nv,done,r',rfl,ho,hx⟩;have HO:=ZA ho;have X4:=ZA (X3.o.trans hx);have tte0:=ZG (hx) te0;have tte1:=ZG (hx) te1;have tte2:=ZG (hx) te2;have tte3:=ZG (hx) te3;have ttd0:=ZG (hx) td0;have ttd1:=ZG (hx) td1;have ttd2:=ZG (hx) td2;have ttd3:=ZG (hx) td3;have ttf0:=ZG (hx) tf0;have te0:=tte0;have te1:=tte1;have te2:=tte2;have te3:=tte3;have td0:=ttd0;have td1:=ttd1;have td2:=ttd2;have td3:=ttd3;have tf0:=ttf0;have KR:=ZA (HM.o.2.1.blk K0.o (λe=>Zb3 _ (HLT.o _ e)));have K3:=ZA (ZJ KR.o X4.o);obtain⟨q0,z0,q1,z1,q2,z2,q3,z3,q4,z4,q5,z5,q6,z6⟩:=ZT9 K3.o;clear ho hx))
 all_goals
  go_wp2_with fail;refine ZcY (ZQ (p:=4) (u:=3) rfl _ _ (w.heap.size) _ #[.bool done,.int .i64 (r'.er:Int),.bool r'.granted,.int .i64 r'.left,.int .i64 r'.wait,.int .i64 r'.ser,.int .i64 r'.now] (0,0) _ rfl (Yf K3.o _ _ _ _ _ _ _) Tryz.underlying41 ZTw ZC) rfl ?_;exact YS HNL.o XW.o (Zb0 _) (HM.o.ext X4.o) HO.o _ _ _ _ _ _ _
theorem ZOR (w:World)(X:Zdb)(g:YE)(xb b0 kb:Nat)(clk:Int)(ce:ZO)(r:YI)(hg:ZAy w X g)(k0:w.cell? ⟨b0,0,none⟩=some (ZH xb))(x4:w.cell? ⟨xb,4,none⟩=some (ZH g.gx))(kn:w.cell? ⟨kb,0,none⟩=some (.int .i64 clk))(hp:ce.pol<g.P.length)(h32:g.P.length<=32): Calls Tryz.prog 185 #[.agg #[.int .i64 (ce.pol:Int),.slice r.K ce.key.length r.kc,.int .i64 ce.tat,.slice r.H ce.held.length r.hc],ZH b0,ZH kb] w λe w'=>e=.returned (.bool (ZAb g.P clk ce))/\ZL w w':=by
 obtain⟨kl,Hkl⟩:=ZTy (ce.key.length);obtain⟨hd,Hhd⟩:=ZTy (ce.held.length);obtain⟨W,hW⟩:=ZTz ((w.alloc (.cells #[.int .i64 (ce.pol:Int),.slice r.K kl r.kc,.int .i64 ce.tat,.slice r.H hd r.hc] 62)));have xW:ZL w W:=by rw[<-hW];exact((ZL.refl w).alloc _)
 have K0:=show W.heap[w.heap.size]?=some (.cells #[.int .i64 (ce.pol:Int),.slice r.K kl r.kc,.int .i64 ce.tat,.slice r.H hd r.hc] 62 (0,0)) by rw[<-hW];exact ZM w _
 obtain⟨np,Hnp⟩:=ZTy (g.P.length);have ID:=λv (hv:ZL W v)=>ZOh v g.P g.PA np g.pc ce r clk Hnp.o (hg.prd.ext (xW.trans hv)) (by have:=Hnp.o;omega) (by have:=Hnp.o;omega);rw[Hkl.o,Hhd.o]at ID ⊢;have ID:=ZA ID;obtain⟨q,Hq⟩:=ZTy (ZAb g.P clk ce);rw[Hq.o]at ID ⊢;have e0:W.cell? ⟨b0,0,none⟩=some (ZH xb):=ZG xW k0;have e4:W.cell? ⟨xb,4,none⟩=some (ZH g.gx):=ZG xW x4;have en:W.cell? ⟨kb,0,none⟩=some (.int .i64 clk):=ZG xW kn;have c0:W.cell? ⟨g.gx,0,none⟩=some (.slice g.PA np g.pc):=by rw[<-Hnp.o];exact ZG xW hg.c0
 have d0:=ZTx K0 0 (.int .i64 (ce.pol:Int));have d1:=ZTx K0 1 (.slice r.K kl r.kc);have d2:=ZTx K0 2 (.int .i64 ce.tat);have d3:=ZTx K0 3 (.slice r.H hd r.hc);have XW:=ZA xW;have HW:=ZA hW;clear hg k0 x4 kn hp h32 xW hW K0;go_enter Tryz.func185,Tryz.ntmps185;go_upto_region 1 with fail
 (try rw[HW.o])
 clear HW
 go_region_held3 (λw'=>w'.cell? ⟨b0,0,none⟩=some (ZH xb)/\w'.cell? ⟨xb,4,none⟩=some (ZH g.gx)/\w'.cell? ⟨kb,0,none⟩=some (.int .i64 clk)/\w'.cell? ⟨g.gx,0,none⟩=some (.slice g.PA np g.pc)/\w'.cell? ⟨w.heap.size,0,none⟩=some (.int .i64 (ce.pol:Int))/\w'.cell? ⟨w.heap.size,1,none⟩=some (.slice r.K kl r.kc)/\w'.cell? ⟨w.heap.size,2,none⟩=some (.int .i64 ce.tat)/\w'.cell? ⟨w.heap.size,3,none⟩=some (.slice r.H hd r.hc)) (((try go_split_ands);exact⟨ZT3,ZT3,ZT3,ZT3,ZT3,ZT3,ZT3,ZT3⟩)) ((go_at_call 186;(with_reducible refine(ID.o _ (ZL.refl W).drew).mono ?_);rintro e w2 ⟨rfl,hx⟩;have X2:=ZA ((ZL.refl W).drew.trans hx);have te0:=ZG ((ZL.refl W).drew.trans hx) e0;have te4:=ZG ((ZL.refl W).drew.trans hx) e4;have ten:=ZG ((ZL.refl W).drew.trans hx) en;have tc0:=ZG ((ZL.refl W).drew.trans hx) c0;have td0:=ZG ((ZL.refl W).drew.trans hx) d0;have td1:=ZG ((ZL.refl W).drew.trans hx) d1;have td2:=ZG ((ZL.refl W).drew.trans hx) d2;have td3:=ZG ((ZL.refl W).drew.trans hx) d3;clear hx))
 all_goals
  go_wp2_with fail;go_ret;exact⟨rfl,XW.o.trans X2.o⟩
theorem ZPp (w:World)(g:YE)(O C:Zdb)(xb:Nat->Nat)(L:List Zf)(s:YF)(who j shards word u:Nat)(gone:Int)(x:ZX)(res:Bool)(ser:Int)(cells:List ZO)(f:FuncId)(caps:Array Value)(h:YK w g O C xb L s)(hc:s.call who=.run x res ser (.evScan j shards gone word u cells))(hL:L.length<=100000)(hw:who<64)(hclk:(s.clk:Int)<=4611686018427387903)(hk:Ze w (XO C O) (Zi g who (xb who) x) (Z1 f caps) (.evScan j shards gone word u cells))(hj:j<shards)(hs:shards<=16)(hok:Ye g.P cells)(h32:g.P.length<=32): Calls Tryz.prog f caps w (SK w g O C xb who (L.length+1) x s (if cells.length - (cells.filter λc=>!ZAb g.P s.clk c).length=0 then Zo j shards gone else .on (.evSwap j shards gone word u (cells.filter λc=>!ZAb g.P s.clk c) (cells.length - (cells.filter λc=>!ZAb g.P s.clk c).length)))):=by
 have hmf:=Jg;obtain⟨p0,p1,p2,p3,p4,p5,fv,hfn,k0,⟨A,c,rs,k1,hcl⟩,k2,kf,k3,k4,k5⟩:=hk;injection hfn with hfn h1 h2;injection hfn with hfn;subst hfn h2;obtain⟨b0,rfl,l0⟩:=k0.ptr;obtain⟨b1,rfl,l1⟩:=k1.ptr;obtain⟨b2,rfl,l2⟩:=k2.ptr;obtain⟨b3,rfl,l3⟩:=k3.ptr;obtain⟨b4,rfl,l4⟩:=k4.ptr;obtain⟨b5,rfl,l5⟩:=k5.ptr;obtain⟨ff,fc,rfl⟩:=kf.fn;obtain⟨W,hW⟩:=ZTz ((w.alloc ZUA));have xW:ZL w W:=by rw[<-hW];exact((ZL.refl w).alloc _)
 have K0:=ZA (show W.heap[w.heap.size]?=some ZUA by rw[<-hW];exact ZM w _);have hA:=h.xg xW (Zb0 _) (ZW K0.o);have NW:=ZA (ZFb W g (XG O w.heap.size) C xb L s who x res ser _ hA hc ZB hw hclk);obtain⟨clk,Hck⟩:∃q:Int,ZD ((s.clk:Int)=q):=⟨_,ZA rfl⟩;rw[Hck.o]at NW ⊢;obtain⟨n,Hn⟩:=ZTy (cells.length);obtain⟨rest,Hrest⟩:=ZTy ((cells.filter λc=>!ZAb g.P clk c));have hrl:rest.length<=n:=by rw[<-Hrest.o,<-Hn.o];exact List.length_filter_le _ _
 rw[Hn.o]at k1 ⊢;rw[Hrest.o];obtain⟨m,Hm⟩:=ZTy (rest.length);rw[Hm.o]at hrl ⊢;obtain⟨nm,Hnm⟩:=ZTy (n - m);rw[Hnm.o];obtain⟨out,Hout⟩:=ZTy ((if nm=0 then Zo j shards gone else Zn.on (.evSwap j shards gone word u rest nm)));rw[Hout.o];have e0:=(k0.ext xW).ZT2 0 (ZH (xb who));have HLT:=ZA h.lt;have Hc:=ZA hc;have HK0:=ZA k0;have HK1:=ZA k1;have HK2:=ZA k2;have HK3:=ZA k3;have HK4:=ZA k4;have HK5:=ZA k5;have HKF:=ZA kf;have HCL:=ZA hcl;have XW:=ZA xW;have HW:=ZA hW;have HOK:=ZA hok;have HEN:=ZA kf.hen;have HNL:=ZA (show(L++[(⟨who,3,0,s.clk,0,true⟩:Zf)]).length<=L.length+1 by simp);have hn5:n<=5000:=by have:=hok.2.2;have:=Hn.o;omega
 have hwm:IntKind.i64.wrap ((n:Int) - (m:Int))=(nm:Int):=by have:=Hnm.o;rw[Zaa];omega
 clear h hc hL hclk k0 k1 k2 k3 k4 k5 kf hcl hA xW hW hok l0 l1 l2 l3 l4 l5;go_enter Tryz.func181,Tryz.ntmps181;go_upto_region 1 with fail
 (try rw[HW.o])
 clear HW;go_wp2_with fail;refine NW.o.mono ?_;rintro e w2 ⟨rfl,hg⟩;obtain⟨C',hm⟩:=hg.mov;have HM:=ZA hm;have hkp:=hm.kpg XW.o (Zb0 w.heap.size);have KR:=ZA (hm.2.1.blk K0.o (λe=>Zb3 _ (HLT.o _ e)));have HX:=ZA hm.1.newer;have J0:=ZA (HK0.o.kp hkp);have J1:=ZA (HK1.o.kp hkp);have J2:=ZA (HK2.o.kp hkp);have J3:=ZA (HK3.o.kp hkp);have J4:=ZA (HK4.o.kp hkp);have J5:=ZA (HK5.o.kp hkp);have JF:=ZA (HKF.o.kp hkp);have JC:=ZA (HCL.o.kp hkp);have HRD:=ZA hm.1.rd;have HXA:=ZA (hm.1.xat hw Hc.o).1;have HX4:=ZA (hm.1.call hw Hc.o).1;obtain⟨V,hV⟩:=ZTz (w2.alloc (.cells #[.int .i64 clk] 2));have xV:ZL w2 V:=by rw[<-hV];exact(ZL.refl w2).alloc _
 have fn8:V.cell? ⟨w2.heap.size,0,none⟩=some (.int .i64 clk):=by rw[<-hV];exact ZE (ZM w2 _) 0
 have f1:=(J1.o.ext xV).ZT2 0 (.slice A n c);have hlen:(Yr rs cells).length=n*4:=by rw[<-Hn.o];exact ZDf JC.o.1.1
 have CLN:=ZA (ZGh V A n c (Yr rs cells) hlen ZB (JC.o.1.2.1.ext xV) (ZCG rs cells));have XV:=ZA xV;have HV:=ZA hV;have FN8:=ZA fn8;clear hm hkp hg e0 xV hV fn8 hlen;go_upto_region 2 with fail
 (try rw[HV.o])
 clear HV;go_wp2_with fail;refine CLN.o.mono ?_;rintro e w3 ⟨B,d,rfl,ho,hx⟩;have X3:=ZA hx
 have DF:=ZA (ZNi V w3 (XO C' (XG O w.heap.size)) B n d cells rs 185 #[ZH b0,ZH w2.heap.size] (λc=>ZAb g.P clk c) (HX.o.ext XV.o) hx Hn.o hn5 JC.o.1.1 ho (λi r e hr he=>(JC.o.part hr he).ext XV.o) (λ_ _=>rfl) (λv r ce hv _ hce=>ZOR v (XO C' (XG O w.heap.size)) g (xb who) b0 w2.heap.size clk ce r (HRD.o.ext (XV.o.trans hv)) ((J0.o.ext (XV.o.trans hv)).cell 0) (ZG (XV.o.trans hv) HX4.o) (ZG hv FN8.o) (HOK.o.2.1 ce hce).1 h32));clear ho hx f1;go_wp2_with fail;refine DF.o.mono ?_;rintro e w4 ⟨m',R',hm',hmc,rfl,hcr,hx⟩;have hmm:m'=m:=by
  have:=Hm.o;have h9:=Hrest.o;rw[h9]at hm';omega
 subst hmm;rw[Hrest.o]at hcr;have X4:=ZA hx;have HCR:=ZA hcr;obtain⟨U,hU⟩:=ZTz (w4.alloc (.cells #[.slice B m' d] 56));have xU:ZL w4 U:=by rw[<-hU];exact(ZL.refl w4).alloc _
 have X2U:=ZA (XV.o.trans (X4.o.trans xU));have r9:=ZA (show Zb U (XO C' (XG O w.heap.size)) (ZH w4.heap.size) #[.slice B m' d] by rw[<-hU];exact Zb.new rfl ((HX.o.ext (XV.o.trans X4.o)).not (Zb0 _)));have f1:=(J1.o.ext X2U.o).ZT2 0 (.slice A n c);have f9:=r9.out.ZT2 0 (.slice B m' d);have XU:=ZA xU;have HU:=ZA hU;clear hm' hmc hx hcr xU hU;go_upto_region 3 with fail
 (try rw[HU.o])
 clear HU;obtain⟨T,hT⟩:=ZTz (U.alloc (.cells #[.int .i64 (nm:Int)] 3));have xT:ZL U T:=by rw[<-hT];exact(ZL.refl U).alloc _
 have X2T:=ZA (X2U.o.trans xT);have r10:=ZA (show Zb T (XO C' (XG O w.heap.size)) (ZH U.heap.size) #[.int .i64 (nm:Int)] by rw[<-hT];exact Zb.new rfl ((HX.o.ext X2U.o).not (Zb0 _)));have f10:=r10.out.ZT2 0 (.int .i64 (nm:Int));have f2:=(J2.o.ext X2T.o).ZT2 0 (Z1 ff fc);have f3:=(J3.o.ext X2T.o).ZT2 0 (.int .i64 gone);have XT:=ZA xT;have HT:=ZA hT;have KRT:=ZA (ZJ KR.o X2T.o);clear xT hT;go_upto_region 4 with fail
 (try rw[HT.o])
 clear HT;by_cases h0:nm=0
 ·have HE:=ZA (show Zo j shards gone=out by rw[<-Hout.o,Zcg h0]);have hb:((nm:Int)==0)=true:=by rw[ZcX];omega
  have hen:=HEN.o;have FU:=ZCF T (XO C' (XG O w.heap.size)) g who (xb who) j shards gone x res ser ff fc (HX.o.ext X2T.o) (HXA.o.ext X2T.o) (HRD.o.ext X2T.o) (JF.o.ext X2T.o) hj hs;rw[HE.o]at FU;have FU:=ZA FU;clear h0;go_wp2_with fail;refine FU.o.mono ?_;rintro e w5 ⟨nv,done,r',rfl,ho,hx⟩;have HO:=ZA ho;have HXX:=ZA (X2T.o.trans hx);have K3:=ZA (ZJ KRT.o hx);obtain⟨r0,z0,r1,z1,r2,z2,r3,z3,r4,z4,r5,z5,r6,z6⟩:=ZT9 K3.o;clear ho hx;go_wp2_with fail;refine ZcY (ZQ (p:=7) (u:=6) rfl _ _ (w.heap.size) _ #[.bool done,.int .i64 (r'.er:Int),.bool r'.granted,.int .i64 r'.left,.int .i64 r'.wait,.int .i64 r'.ser,.int .i64 r'.now] (0,0) _ rfl (Yf K3.o _ _ _ _ _ _ _) Tryz.underlying41 ZTw ZC) rfl ?_;exact YS HNL.o XW.o (Zb0 _) (HM.o.ext HXX.o) HO.o _ _ _ _ _ _ _
 ·have HE:=ZA (show Zn.on (.evSwap j shards gone word u rest nm)=out by rw[<-Hout.o,Zcf h0]);have hb:((nm:Int)==0)=false:=by rw[ZcW];omega
  have KT:Ze T (XO C' (XG O w.heap.size)) (Zi g who (xb who) x) (Z1 187 #[ZH b0,ZH b4,ZH b5,ZH w4.heap.size,ZH b2,ZH b3,ZH U.heap.size]) (.evSwap j shards gone word u rest nm):=⟨_,_,_,_,_,_,_,_,rfl,J0.o.ext X2T.o,J4.o.ext X2T.o,J5.o.ext X2T.o,⟨B,d,R',by rw[Hm.o];exact r9.out.ext XT.o,HCR.o.ext (XU.o.trans XT.o)⟩,J2.o.ext X2T.o,JF.o.ext X2T.o,J3.o.ext X2T.o,r10.out⟩;have ON:=Jf KT;rw[HE.o]at ON;have ON:=ZA ON;clear h0 KT;go_wp2_with fail;refine ON.o.mono ?_;rintro e w5 ⟨nv,done,r',rfl,ho,hx⟩;have HO:=ZA ho;have HXX:=ZA (X2T.o.trans hx);have K3:=ZA (ZJ KRT.o hx);obtain⟨r0,z0,r1,z1,r2,z2,r3,z3,r4,z4,r5,z5,r6,z6⟩:=ZT9 K3.o;clear ho hx;go_wp2_with fail;refine ZcY (ZQ (p:=7) (u:=6) rfl _ _ (w.heap.size) _ #[.bool done,.int .i64 (r'.er:Int),.bool r'.granted,.int .i64 r'.left,.int .i64 r'.wait,.int .i64 r'.ser,.int .i64 r'.now] (0,0) _ rfl (Yf K3.o _ _ _ _ _ _ _) Tryz.underlying41 ZTw ZC) rfl ?_;exact YS HNL.o XW.o (Zb0 _) (HM.o.ext HXX.o) HO.o _ _ _ _ _ _ _
theorem ZPo (w:World)(g:YE)(O C:Zdb)(xb:Nat->Nat)(L:List Zf)(s s1:YF)(who j shards word v n u:Nat)(gone:Int)(x:ZX)(res:Bool)(ser:Int)(rest:List ZO)(f:FuncId)(caps:Array Value)(h:YK w g O C xb L s)(hc:s.call who=.run x res ser (.evSwap j shards gone word v rest n))(hL:L.length<=100000)(hw:who<64)(hwl:word<34)(hu:s.ws.getD word 0=u)(hs1:s1=if u=v then {s with ws:=s.ws.set word (v+1),hs:=s.hs.set word rest} else s)(hv:v<4611686018427387904)(hk:Ze w (XO C O) (Zi g who (xb who) x) (Z1 f caps) (.evSwap j shards gone word v rest n))(hj:j<shards)(hs:shards<=16)(hn1:1<=n)(hn5:n<=5000): Calls Tryz.prog f caps w (SK w g O C xb who (L.length+1) x s1 (if u=v then .on (.mv 32 (18446744073709551616 - n) JH (.gone j shards gone n)) else Zo j shards gone)):=by
 have hmf:=Jg;obtain⟨p0,p1,p2,p3,p4,p5,p6,fv,hfn,k0,k1,k2,⟨Ar,cr,rsr,k3,hcl⟩,k4,kf,k5,k6⟩:=hk;injection hfn with hfn h1 h2;injection hfn with hfn;subst hfn h2;obtain⟨b0,rfl,l0⟩:=k0.ptr;obtain⟨b1,rfl,l1⟩:=k1.ptr;obtain⟨b2,rfl,l2⟩:=k2.ptr;obtain⟨b3,rfl,l3⟩:=k3.ptr;obtain⟨b4,rfl,l4⟩:=k4.ptr;obtain⟨b5,rfl,l5⟩:=k5.ptr;obtain⟨b6,rfl,l6⟩:=k6.ptr;obtain⟨ff,fc,rfl⟩:=kf.fn;obtain⟨m,Hm⟩:=ZTy (rest.length);rw[Hm.o]at k3;obtain⟨v2,Hv2⟩:=ZTy (v+1);rw[Hv2.o]at hs1;have hwv:IntKind.u64.wrap ((v:Int)+1)=(v2:Int):=by have:=Hv2.o;rw[Zab];omega
 obtain⟨W,hW⟩:=ZTz ((w.alloc ZUA));have xW:ZL w W:=by rw[<-hW];exact((ZL.refl w).alloc _)
 have K0:=ZA (show W.heap[w.heap.size]?=some ZUA by rw[<-hW];exact ZM w _);have hA:=h.xg xW (Zb0 _) (ZW K0.o);have kp1:=kpg (X:=XO C O) xW (Zb0 w.heap.size);have hcl1:Zq W (XO C (XG O w.heap.size)) Ar rest rsr:=(hcl.kp kp1).kp (Kp.of (GB.refl W (λ_=>False)) (λ_ _ e=>e.elim) (λi _ e=>e.elim (λe=>.inl (.inl e)) (λe=>e.elim (λe=>.inl (.inr e)) .inr)));obtain⟨bb,Hbb⟩:=ZTy (decide (u=v))
 have SW:=ZA (λu' (y:ZL W u')=>(show Calls Tryz.prog 80 #[ZH g.gb,.int .i64 (who:Int),.int .i64 (word:Int),.int .u64 (v:Int),.int .u64 (v2:Int),.slice Ar m cr] u' (λe w'=>∃L',L'.length<=L.length+1/\e=.returned (.bool bb)/\ZBE u' g (XG O w.heap.size) C xb L' s1 w')from by
  by_cases h0:u=v
  ·rw[Zcg h0]at hs1;refine(Jl u' g (XG O w.heap.size) C xb L s who word v v2 m cr (v2:Int) Ar rest rsr (hA.ext y) ZB hw hwl (hu.trans h0) rfl Hm.o (hcl1.ext y)).mono ?_;rintro e w' ⟨rfl,hg⟩;exact⟨L++[⟨who,2,word,v,v2,true⟩],by simp,by rw[<-Hbb.o,Zcb h0],by rw[hs1];exact hg⟩
  ·rw[Zcf h0]at hs1;refine(ZAC u' g (XG O w.heap.size) C xb L s who word u v v2 m cr (v2:Int) Ar (hA.ext y) ZB hw hwl hu h0 rfl).mono ?_;rintro e w' ⟨rfl,hg⟩;exact⟨L++[⟨who,2,word,v,v2,false⟩],by simp,by rw[<-Hbb.o,Zca h0],by rw[hs1];exact hg⟩))
 have Hc1:s1.call who=.run x res ser (.evSwap j shards gone word v rest n):=by rw[hs1];split<;>exact hc
 obtain⟨xw,Hxw⟩:=ZTy (xb who);obtain⟨z4,z5,-,-,-,-⟩:=hA.call hw hc;have k0:Zz w (XO C O) (ZH b0) (ZH (xb who)):=k0;rw[Hxw.o]at z4 z5 k0;have e0:=(k0.ext xW).ZT2 0 (ZH xw);have y4:W.cell? ⟨xw,4,none⟩=some (ZH g.gx):=z4;have y5:W.cell? ⟨xw,5,none⟩=some (.int .i64 (who:Int)):=z5;have c2:W.cell? ⟨g.gx,2,none⟩=some (ZH g.gl):=hA.rd.c2;have l0':W.cell? ⟨g.gl,0,none⟩=some (ZH g.gb):=hA.rd.l0;have e1:=(k1.ext xW).ZT2 0 (.int .i64 (word:Int));have e2:=(k2.ext xW).ZT2 0 (.int .u64 (v:Int));have e3:=(k3.ext xW).ZT2 0 (.slice Ar m cr);obtain⟨out,Hout⟩:=ZTy ((if u=v then Zn.on (.mv 32 (18446744073709551616 - n) JH (.gone j shards gone n)) else Zo j shards gone));rw[Hout.o];have HLT:=ZA h.lt;have Hc:=ZA Hc1;have HK0:=ZA k0;have HK1:=ZA k1;have HK2:=ZA k2;have HK3:=ZA k3;have HK4:=ZA k4;have HK5:=ZA k5;have HK6:=ZA k6;have HKF:=ZA kf;have XW:=ZA xW;have HW:=ZA hW;have HEN:=ZA kf.hen;clear h hc Hc1 hu hs1 hL k0 k1 k2 k3 k4 k5 k6 kf hcl hcl1 hA xW hW z4 z5 kp1 hwl l0 l1 l2 l3 l4 l5 l6 hv;go_enter Tryz.func187,Tryz.ntmps187;go_upto_region 1 with fail
 (try rw[HW.o])
 clear HW
 go_cut [29] (λv29 wd=>v29=.bool (!bb)/\∃C' L',L'.length<=L.length+1/\Z9 W g (XG O w.heap.size) C xb L' s1 C' wd)
 case first=>
  go_region_held3 (λw'=>w'.cell? ⟨b0,0,none⟩=some (ZH xw)/\w'.cell? ⟨xw,4,none⟩=some (ZH g.gx)/\w'.cell? ⟨xw,5,none⟩=some (.int .i64 (who:Int))/\w'.cell? ⟨g.gx,2,none⟩=some (ZH g.gl)/\w'.cell? ⟨g.gl,0,none⟩=some (ZH g.gb)/\w'.cell? ⟨b1,0,none⟩=some (.int .i64 (word:Int))/\w'.cell? ⟨b2,0,none⟩=some (.int .u64 (v:Int))/\w'.cell? ⟨b3,0,none⟩=some (.slice Ar m cr)) (((try go_split_ands);exact⟨ZT3,ZT3,ZT3,ZT3,ZT3,ZT3,ZT3,ZT3⟩))
   ((go_at_call 80;(with_reducible refine(SW.o _ (ZL.refl W).drew).mono ?_);rintro e w3 ⟨L',hl',rfl,hg⟩;obtain⟨C',hm⟩:=hg.mov;have HL':=ZA hl';have HM:=ZA (hm.back (ZL.refl W).drew);have hkp:=HM.o.kpg XW.o (Zb0 w.heap.size);have hca:=hm.1.call hw Hc.o;rw[Hxw.o]at hca;
     have te0:=(HK0.o.kp hkp).ZT2 0 (ZH xw);have ty4:w3.cell? ⟨xw,4,none⟩=some (ZH g.gx):=hca.1;have ty5:w3.cell? ⟨xw,5,none⟩=some (.int .i64 (who:Int)):=hca.2.1;have tc2:w3.cell? ⟨g.gx,2,none⟩=some (ZH g.gl):=hm.1.rd.c2;have tl0':w3.cell? ⟨g.gl,0,none⟩=some (ZH g.gb):=hm.1.rd.l0;have te1:=(HK1.o.kp hkp).ZT2 0 (.int .i64 (word:Int));have te2:=(HK2.o.kp hkp).ZT2 0 (.int .u64 (v:Int));have te3:=(HK3.o.kp hkp).ZT2 0 (.slice Ar m cr);clear hm hg hkp hca hl'))
  all_goals
   go_wp2_with fail
   go_meet
   exact⟨rfl,_,_,HL'.o,HM.o⟩
 case rest=>
  obtain⟨rfl,C',L',hl',hm⟩:=hcut;have HNL:=ZA hl';have HM:=ZA hm;have hkp:=hm.kpg XW.o (Zb0 w.heap.size);have KR:=ZA (hm.2.1.blk K0.o (λe=>Zb3 _ (HLT.o _ e)));have HX:=ZA hm.1.newer;have J4:=ZA (HK4.o.kp hkp);have J5:=ZA (HK5.o.kp hkp);have J6:=ZA (HK6.o.kp hkp);have JF:=ZA (HKF.o.kp hkp);have g0:=(HK0.o.kp hkp).ZT2 0 (ZH xw);have f4:=J4.o.ZT2 0 (Z1 ff fc);have f5:=J5.o.ZT2 0 (.int .i64 gone);have f6:=J6.o.ZT2 0 (.int .i64 (n:Int));have HXA:=ZA (hm.1.xat hw Hc.o).1;have HRD:=ZA hm.1.rd;clear hm hkp hl' e0 y4 y5 c2 l0' e1 e2 e3 hwv;have HDC:=Hbb.o;cases bb with
  |false=>
   have hne:=of_decide_eq_false HDC;have HE:=ZA (show Zo j shards gone=out by rw[<-Hout.o,Zcf hne]);clear hne HDC Hbb;have hen:=HEN.o;have FU:=ZCF wc (XO C' (XG O w.heap.size)) g who (xb who) j shards gone x res ser ff fc HX.o HXA.o HRD.o JF.o hj hs;rw[HE.o]at FU;have FU:=ZA FU;go_wp2_with fail;refine FU.o.mono ?_;rintro e w2 ⟨nv,done,r',rfl,ho,hx⟩;have HO:=ZA ho;have HXX:=ZA hx;have K3:=ZA (ZJ KR.o hx);obtain⟨r0,z0,r1,z1,r2,z2,r3,z3,r4,z4,r5,z5,r6,z6⟩:=ZT9 K3.o;clear ho hx;go_wp2_with fail;refine ZcY (ZQ (p:=8) (u:=7) rfl _ _ (w.heap.size) _ #[.bool done,.int .i64 (r'.er:Int),.bool r'.granted,.int .i64 r'.left,.int .i64 r'.wait,.int .i64 r'.ser,.int .i64 r'.now] (0,0) _ rfl (Yf K3.o _ _ _ _ _ _ _) Tryz.underlying41 ZTw ZC) rfl ?_;exact YS HNL.o XW.o (Zb0 _) (HM.o.ext HXX.o) HO.o _ _ _ _ _ _ _
  |true=>
   have hne:=Zcj HDC;have HE:=ZA (show Zn.on (.mv 32 (18446744073709551616 - n) JH (.gone j shards gone n))=out by rw[<-Hout.o,Zcg hne]);clear hne HDC Hbb;obtain⟨nn,Hnn⟩:=ZTy (18446744073709551616 - n);rw[Hnn.o]at HE;have hcv:IntKind.u64.wrap (n:Int)=(n:Int):=by rw[Zab];omega
   have BK:=ZMw wc (XO C' (XG O w.heap.size)) (Zi g who (xb who) x) n nn 189 #[ZH b4,ZH b5,ZH b6] (.gone j shards gone n) HX.o hn1 hn5 Hnn.o (λw' q hx hq=>⟨_,_,_,_,_,_,rfl,rfl,hq,rfl,J4.o.ext hx,JF.o.ext hx,J5.o.ext hx,J6.o.ext hx⟩)
   dsimp only[Zi]at BK
   rw[Hxw.o]at BK;have BK:=ZA BK;go_wp2_with fail;refine BK.o.mono ?_;rintro e w2 ⟨v',rfl,hk,hx⟩;have ON:=Jf hk;rw[HE.o]at ON;have ON:=ZA ON;have X1:=ZA hx;have K2:=ZA (ZJ KR.o hx);clear hk hx;go_wp2_with fail;refine ON.o.mono ?_;rintro e w3 ⟨nv,done,r',rfl,ho,hx⟩;have ho2:ZDO w3 (XO C' (XG O w.heap.size)) (Zi g who (xb who) x) nv done r' out:=by unfold Zi;rw[Hxw.o];exact ho
   have HO:=ZA ho2;have HXX:=ZA (X1.o.trans hx);have K3:=ZA (ZJ K2.o hx);obtain⟨r0,z0,r1,z1,r2,z2,r3,z3,r4,z4,r5,z5,r6,z6⟩:=ZT9 K3.o;clear ho hx ho2;go_wp2_with fail;refine ZcY (ZQ (p:=8) (u:=7) rfl _ _ (w.heap.size) _ #[.bool done,.int .i64 (r'.er:Int),.bool r'.granted,.int .i64 r'.left,.int .i64 r'.wait,.int .i64 r'.ser,.int .i64 r'.now] (0,0) _ rfl (Yf K3.o _ _ _ _ _ _ _) Tryz.underlying41 ZTw ZC) rfl ?_;exact YS HNL.o XW.o (Zb0 _) (HM.o.ext HXX.o) HO.o _ _ _ _ _ _ _
theorem ZJh (u:World)(X:Zdb)(d:JM)(sv:Value)(tf:FuncId)(tc:Array Value)(nn:Int)(r:YH)(hX:Z0 u X)(h:Y2 u X d sv (Z1 tf tc) (.leave r)):Calls Tryz.prog tf (#[.int .u64 nn]++tc) u (Jx X d (.fin r) u):=by
 obtain⟨q,p,iv,-,hfn,hq,rfl,hp⟩:=h;injection hfn with hfn h1 h2;injection hfn with hfn;subst hfn h2;obtain⟨b,rfl,_⟩:=hq.ptr;obtain⟨b2,rfl,_⟩:=hp.ptr;exact ZGi u X d b nn _ _ _ hX hq (λ_=>rfl) (λv X' _ hX' kp=>ZKJ v X' d b2 r hX' (hp.kp kp))
theorem ZLE (u:World)(X:Zdb)(g:YE)(who xb:Nat)(x:ZX)(res:Bool)(ser:Int)(sv:Value)(tf:FuncId)(tc:Array Value)(nn was:Int)(j shards n:Nat)(hX:Z0 u X)(hx:XAt u X g.gx who x res ser xb)(hg:ZAy u X g)(h:Y2 u X (Zi g who xb x) sv (Z1 tf tc) (.gone j shards was n))(hj:j<shards)(hs:shards<=16)(hw1:0<=was)(hw2:was<=1000000)(hn:n<=1000000):Calls Tryz.prog tf (#[.int .u64 nn]++tc) u (Jx X (Zi g who xb x) (Zo j shards (was+n)) u):=by
 obtain⟨q,p0,p1,p2,iv,fv,-,hfn,hq,rfl,k0,kf,k1,k2⟩:=h;injection hfn with hfn h1 h2;injection hfn with hfn;subst hfn h2;obtain⟨b,rfl,_⟩:=hq.ptr;obtain⟨b0,rfl,_⟩:=k0.ptr;obtain⟨b1,rfl,_⟩:=k1.ptr;obtain⟨b2,rfl,_⟩:=k2.ptr;exact ZGi u X _ b nn _ _ _ hX hq (λ_=>rfl) (λv X' y hX' kp=>ZGe v X' g who xb j shards n was x res ser b0 b1 b2 fv hX' (hx.kp2 kp y) (hg.kp2 kp y) (k0.kp kp) (kf.kp kp) (k1.kp kp) (k2.kp kp) hj hs hw1 hw2 hn)
theorem ZHe {u:World}{X:Zdb}{d:JM}{sv:Value}{tf:FuncId}{tc:Array Value}{t:ZAe}(h:Y2 u X d sv (Z1 tf tc) t)(ht:(∃r,t=.leave r)\/∃j s w n,t=.gone j s w n):∀(ar:Array Value) (u:World),(callFunc tf (ar++tc)).run Tryz.prog u=.ok (.enter tf (ar++tc)) u:=by
 rcases ht with⟨r,rfl⟩|⟨j,s,w,n,rfl⟩
 ·obtain⟨q,p,iv,-,h0,_⟩:=h;injection h0 with h0 _ h2;injection h0 with h0;subst h0;exact λ_ _=>rfl
 ·obtain⟨q,p0,p1,p2,iv,fv,-,h0,_⟩:=h;injection h0 with h0 _ h2;injection h0 with h0;subst h0;exact λ_ _=>rfl
section
theorem Z9.kpi {w W v w2:World}{g:YE}{O C C':Zdb}{xb:Nat->Nat}{L:List Zf}{s:YF}{gg:Nat}(h:Z9 v g (XN (XG O gg) W v) C xb L s C' w2)(x:ZL w W)(y:ZL W v)(hg:w.heap.size<=gg):Kp w w2 (XO C O) (XI (XO C' (XG O gg)) W):=Kp.of (GB.back (x.trans y) h.2.1) (λi _ e=>.inl e) (λi hi e=>e.elim (λe=>e.elim (λe=>.inl ((h.2.2 i e).resolve_right (by have:=(x.trans y).size;omega))) (λe=>e.elim .inr (λe=>by omega))) (λe=>by have:=x.size;omega))
structure AJ (W u:World)(g:YE)(OO C:Zdb)(xb:Nat->Nat)(s:YF)(N:Nat)(C':Zdb)(r:YI)(ce:ZO)(o8 o9:Obj)(p8 p9:Option Nat):Prop where
 m:∃L',L'.length<=N/\Z9 W g (OX OO p8 p9) C xb L' s C' u
 pt:YQ u (XI (XO C' OO) W) r ce
 b8:∀k,p8=some k->W.heap.size<=k/\u.heap[k]?=some o8
 b9:∀k,p9=some k->W.heap.size<=k/\u.heap[k]?=some o9
 ne:∀k k',p8=some k->p9=some k'->k≠k'
section
variable {w W u:World} {g:YE} {O OO C:Zdb} {xb:Nat->Nat} {s:YF} {N:Nat} {C':Zdb} {r:YI} {ce:ZO} {o8 o9:Obj} {p8 p9:Option Nat}
theorem AJ.a8 (h:AJ W u g OO C xb s N C' r ce ZAO o9 none p9):AJ W (u.alloc ZAO) g OO C xb s N C' r ce ZAO o9 (some u.heap.size) p9:=by
 obtain⟨L',hl,m⟩:=h.m;have x:ZL u (u.alloc ZAO):=(ZL.refl u).alloc _;have z:(u.alloc ZAO).heap.size=u.heap.size+1:=by simp
 refine⟨⟨L',hl,m.1.far (GB.of_ext (λ_=>False) x) (λ_ _ e=>e.elim) (λi hi e=>e.elim .inl (λe=>e.elim (λe=>by injection e with e;omega) (λe=>.inr (.inr e)))) (λi e=>e.elim (λe=>by have:=m.1.ol i (.inl e);omega) (λe=>e.elim (λe=>by injection e with e;omega) (λe=>by have:=m.1.ol i (.inr (.inr e));omega))),m.2.1.ext x,m.2.2⟩,h.pt.ext x,λk e=>?_,λk e=>⟨(h.b9 k e).1,ZR (h.b9 k e).2 _⟩,λk k' e e'=>?_⟩
 ·injection e with e;subst e;exact⟨m.2.1.size,ZM u _⟩
 ·injection e with e;subst e;have:=ZW (h.b9 _ e').2;omega
theorem AJ.a9 (h:AJ W u g OO C xb s N C' r ce o8 ZAP p8 none):AJ W (u.alloc ZAP) g OO C xb s N C' r ce o8 ZAP p8 (some u.heap.size):=by
 obtain⟨L',hl,m⟩:=h.m;have x:ZL u (u.alloc ZAP):=(ZL.refl u).alloc _;have z:(u.alloc ZAP).heap.size=u.heap.size+1:=by simp
 refine⟨⟨L',hl,m.1.far (GB.of_ext (λ_=>False) x) (λ_ _ e=>e.elim) (λi hi e=>e.elim .inl (λe=>e.elim (λe=>.inr (.inl e)) (λe=>by injection e with e;omega))) (λi e=>e.elim (λe=>by have:=m.1.ol i (.inl e);omega) (λe=>e.elim (λe=>by have:=m.1.ol i (.inr (.inl e));omega) (λe=>by injection e with e;omega))),m.2.1.ext x,m.2.2⟩,h.pt.ext x,λk e=>⟨(h.b8 k e).1,ZR (h.b8 k e).2 _⟩,λk e=>?_,λk k' e e'=>?_⟩
 ·injection e with e;subst e;exact⟨m.2.1.size,ZM u _⟩
 ·injection e' with e';subst e';have:=ZW (h.b8 _ e).2;omega
theorem AJ0.now {w2:World}{L:List Zf}{gg:Nat}(h:AJ0 W u p8 p9)(x:ZL w W)(hg:w.heap.size<=gg)(hlt:∀i,C i->i<W.heap.size)(hpt:YQ w (XO C O) r ce)(hL:L.length<=N)(hm:Z9 u g (XN (XG O gg) W u) C xb L s C' w2):AJ W w2 g (XG O gg) C xb s N C' r ce ZAO ZAP p8 p9:=by
 have kp:=hm.kpi x h.x hg;refine⟨⟨L,hL,(hm.back h.x).drop (λi e=>e.elim .inl (λe=>.inr (e.elim (λe=>⟨(h.b8 i e).1,ZW (h.b8 i e).2⟩) (λe=>⟨(h.b9 i e).1,ZW (h.b9 i e).2⟩))))⟩,hpt.kp kp,λk e=>?_,λk e=>?_,h.ne⟩
 ·obtain⟨a,b⟩:=h.b8 k e;exact⟨a,hm.2.1.blk b (λq=>by have:=hlt k q;omega)⟩
 ·obtain⟨a,b⟩:=h.b9 k e;exact⟨a,hm.2.1.blk b (λq=>by have:=hlt k q;omega)⟩
theorem AJ.allow {w3:World}{r':YI}{ce2:ZO}(h:AJ W u g OO C xb s N C' r ce o8 o9 p8 p9)(hx:ZL u w3)(hp:YQ w3 (XI (XO C' OO) W) r' ce2):AJ W w3 g OO C xb s N C' r' ce2 o8 o9 p8 p9:=by
 obtain⟨L',hl,m⟩:=h.m;exact⟨⟨L',hl,m.ext hx⟩,hp,λk e=>⟨(h.b8 k e).1,ZJ (h.b8 k e).2 hx⟩,λk e=>⟨(h.b9 k e).1,ZJ (h.b9 k e).2 hx⟩,h.ne⟩
theorem AJ.wr {u':World}{k:Nat}{o8' o9':Obj}(h:AJ W u g OO C xb s N C' r ce o8 o9 p8 p9)(gb:GB u u' (· =k))(hO:OX OO p8 p9 k)(hk:W.heap.size<=k)(h8:∀k,p8=some k->u'.heap[k]?=some o8')(h9:∀k,p9=some k->u'.heap[k]?=some o9'):AJ W u' g OO C xb s N C' r ce o8' o9' p8 p9:=by
 obtain⟨L',hl,m⟩:=h.m;exact⟨⟨L',hl,m.1.far gb (λi _ e=>by rw[e];exact hO) (λi _ e=>e) (λi e=>Zb5 (m.1.ol i e) gb.size),m.2.1.trans gb (λi e=>.inr (by rw[e];exact hk)),m.2.2⟩,h.pt.kp (Kp.of gb (λi _ e=>.inr (by rw[e];exact hk)) (λi _ e=>e)),λk e=>⟨(h.b8 k e).1,h8 k e⟩,λk e=>⟨(h.b9 k e).1,h9 k e⟩,h.ne⟩
theorem AJ.s8 {k:Nat}(h:AJ W u g OO C xb s N C' r ce ZAO o9 (some k) p9)(b0 b1 b2 b3 b4 b5:Value):AJ W ((((((u.setCell ⟨k,0,none⟩ b0).setCell ⟨k,1,none⟩ b1).setCell ⟨k,2,none⟩ b2).setCell ⟨k,3,none⟩ b3).setCell ⟨k,4,none⟩ b4).setCell ⟨k,5,none⟩ b5) g OO C xb s N C' r ce (.cells #[b0,b1,b2,b3,b4,b5] 39 (0,0)) o9 (some k) p9:=by
 have gb:=ZP7 (GB.refl u (· =k)) (g:=k) (.inl rfl) b0 b1 b2 b3 b4 b5;refine h.wr gb (.inr (.inl rfl)) (h.b8 k rfl).1 (λk' e=>?_) (λk' e=>gb.blk (h.b9 k' e).2 (λq=>h.ne k k' rfl e q.symm));obtain rfl:=Option.some.inj e;have hb:u.heap[k]?=some (.cells #[.int .i64 0,.bool false,.int .i64 0,.int .i64 0,.int .i64 0,.int .i64 0] 39 (0,0)):=(h.b8 k rfl).2;exact ZQZ hb b0 b1 b2 b3 b4 b5
theorem AJ.s9 {k:Nat}(h:AJ W u g OO C xb s N C' r ce o8 ZAP p8 (some k))(b0 b1 b2 b3:Value):AJ W ((((u.setCell ⟨k,0,none⟩ b0).setCell ⟨k,1,none⟩ b1).setCell ⟨k,2,none⟩ b2).setCell ⟨k,3,none⟩ b3) g OO C xb s N C' r ce o8 (.cells #[b0,b1,b2,b3] 62 (0,0)) p8 (some k):=by
 have gb:=ZMq (GB.refl u (· =k)) (g:=k) (.inl rfl) b0 b1 b2 b3;refine h.wr gb (.inr (.inr rfl)) (h.b9 k rfl).1 (λk' e=>gb.blk (h.b8 k' e).2 (λq=>h.ne k' k e rfl q)) (λk' e=>?_);obtain rfl:=Option.some.inj e;have hb:u.heap[k]?=some (.cells #[.int .i64 0,.slice none 0 0,.int .i64 0,.slice none 0 0] 62 (0,0)):=(h.b9 k rfl).2;exact ZQa hb b0 b1 b2 b3
theorem AJ.a8' (h:AJ W u g OO C xb s N C' r ce ZAO o9 none p9):∃k v,u.heap.size=k/\u.alloc ZAO=v/\AJ W v g OO C xb s N C' r ce ZAO o9 (some k) p9:=⟨_,_,rfl,rfl,h.a8⟩
theorem AJ.a9' (h:AJ W u g OO C xb s N C' r ce o8 ZAP p8 none):∃k v,u.heap.size=k/\u.alloc ZAP=v/\AJ W v g OO C xb s N C' r ce o8 ZAP p8 (some k):=⟨_,_,rfl,rfl,h.a9⟩
theorem AJ.k8 {k:Nat}(h:AJ W u g OO C xb s N C' r ce o8 o9 (some k) p9):u.heap[k]?=some o8:=(h.b8 k rfl).2
theorem AJ.k9 {k:Nat}(h:AJ W u g OO C xb s N C' r ce o8 o9 p8 (some k)):u.heap[k]?=some o9:=(h.b9 k rfl).2
theorem AJ.s8' {k:Nat}(h:AJ W u g OO C xb s N C' r ce ZAO o9 (some k) p9)(b0 b1 b2 b3 b4 b5:Value):∃v,((((((u.setCell ⟨k,0,none⟩ b0).setCell ⟨k,1,none⟩ b1).setCell ⟨k,2,none⟩ b2).setCell ⟨k,3,none⟩ b3).setCell ⟨k,4,none⟩ b4).setCell ⟨k,5,none⟩ b5)=v/\AJ W v g OO C xb s N C' r ce (.cells #[b0,b1,b2,b3,b4,b5] 39 (0,0)) o9 (some k) p9:=⟨_,rfl,h.s8 b0 b1 b2 b3 b4 b5⟩
theorem AJ.s9' {k:Nat}(h:AJ W u g OO C xb s N C' r ce o8 ZAP p8 (some k))(b0 b1 b2 b3:Value):∃v,((((u.setCell ⟨k,0,none⟩ b0).setCell ⟨k,1,none⟩ b1).setCell ⟨k,2,none⟩ b2).setCell ⟨k,3,none⟩ b3)=v/\AJ W v g OO C xb s N C' r ce o8 (.cells #[b0,b1,b2,b3] 62 (0,0)) p8 (some k):=⟨_,rfl,h.s9 b0 b1 b2 b3⟩
end
end
def SBX (b0 b1 b2 xw:Nat)(p:YR)(ce:ZO)(kl hl:Nat)(r:YI)(n:Int)(u:World):Prop:=u.cell? ⟨b0,0,none⟩=some (.int .u8 (p.kind:Int))/\u.cell? ⟨b0,1,none⟩=some (.int .i64 p.T)/\u.cell? ⟨b0,2,none⟩=some (.int .i64 p.Tau)/\u.cell? ⟨b0,3,none⟩=some (.int .i64 p.perm)/\u.cell? ⟨b1,0,none⟩=some (.int .i64 (ce.pol:Int))/\u.cell? ⟨b1,1,none⟩=some (.slice r.K kl r.kc)/\u.cell? ⟨b1,2,none⟩=some (.int .i64 ce.tat)/\u.cell? ⟨b1,3,none⟩=some (.slice r.H hl r.hc)/\u.cell? ⟨b2,0,none⟩=some (ZH xw)/\u.cell? ⟨xw,3,none⟩=some (.int .i64 n)
theorem SBX.ext {b0 b1 b2 xw:Nat}{p:YR}{ce:ZO}{kl hl:Nat}{r:YI}{n:Int}{u v:World}(h:SBX b0 b1 b2 xw p ce kl hl r n u)(x:ZL u v):SBX b0 b1 b2 xw p ce kl hl r n v:=by
 obtain⟨e0,e1,e2,e3,d0,d1,d2,d3,f0,y3⟩:=h;exact⟨ZG x e0,ZG x e1,ZG x e2,ZG x e3,ZG x d0,ZG x d1,ZG x d2,ZG x d3,ZG x f0,ZG x y3⟩
def ZQt (W:World)(g:YE)(OO C:Zdb)(xb:Nat->Nat)(s:YF)(N:Nat)(rep:YH)(ce2:ZO)(v8 v9:Value)(wd:World):Prop:=∃k8 k9 r' C',v8=ZH k8/\v9=ZH k9/\AJ W wd g OO C xb s N C' r' ce2 (.cells #[.int .i64 (rep.er:Int),.bool rep.granted,.int .i64 rep.left,.int .i64 rep.wait,.int .i64 rep.ser,.int .i64 rep.now] 39 (0,0)) (.cells #[.int .i64 (ce2.pol:Int),.slice r'.K ce2.key.length r'.kc,.int .i64 ce2.tat,.slice r'.H ce2.held.length r'.hc] 62 (0,0)) (some k8) (some k9)
theorem ZRW (w:World)(g:YE)(O C:Zdb)(xb:Nat->Nat)(L:List Zf)(s:YF)(who:Nat)(x:ZX)(res:Bool)(ser:Int)(f:Yi)(ce:ZO)(fn:FuncId)(caps:Array Value)(h:YK w g O C xb L s)(hc:s.call who=.run x res ser (.allow f ce))(hL:L.length<=100000)(hw:who<64)(hclk:(s.clk:Int)<=4611686018427387903)(hk:Ze w (XO C O) (Zi g who (xb who) x) (Z1 fn caps) (.allow f ce))(hp:ZI1 (Zk g.P x.pol))(ht:ZBi ce.tat)(hn:ZBi x.n): Calls Tryz.prog fn caps w (SK w g O C xb who (L.length+1) x s (if (Yo (Zk g.P x.pol) ce s.clk x.n).1.granted=false\/x.n=0 then YT res (Yo (Zk g.P x.pol) ce s.clk x.n).1 else .on (Jk g.room res f (Yo (Zk g.P x.pol) ce s.clk x.n).2 (Yo (Zk g.P x.pol) ce s.clk x.n).1))):=by
 obtain⟨p0,p1,p2,p3,p4,p5,hfn,k0,⟨r,k1,hpc⟩,k2,⟨Af,cf,rsf,k3,hcf⟩,k4,k5⟩:=hk;injection hfn with hfn h1 h2;injection hfn with hfn;subst hfn h2;obtain⟨b0,rfl,l0⟩:=k0.ptr;obtain⟨b1,rfl,l1⟩:=k1.ptr;obtain⟨b2,rfl,l2⟩:=k2.ptr;obtain⟨b3,rfl,l3⟩:=k3.ptr;obtain⟨b4,rfl,l4⟩:=k4.ptr;obtain⟨b5,rfl,l5⟩:=k5.ptr;obtain⟨p,Hp⟩:=ZTy (Zk g.P x.pol);have k0:Zb w (XO C O) (ZH b0) (ZCY (Zk g.P x.pol)):=k0;rw[Hp.o]at k0 hp ⊢;obtain⟨W,hW⟩:=ZTz ((w.alloc ZUA));have xW:ZL w W:=by rw[<-hW];exact((ZL.refl w).alloc _)
 have K0:=ZA (show W.heap[w.heap.size]?=some ZUA by rw[<-hW];exact ZM w _);have hA:=h.xg xW (Zb0 _) (ZW K0.o);have hgw:=ZW K0.o;have HLT:=ZA h.lt;have HOL:=ZA h.ol;have NW:=ZA (λv (hv:ZL W v)=>ZFb v g (XN (XG O w.heap.size) W v) C xb L s who x res ser _ (hA.far (S:=λ_=>False) (GB.of_ext _ hv) (λ_ _ e=>e.elim) (λi hi e=>e.elim id (λe=>by omega)) (λi e=>e.elim (λe=>Zb5 (hA.ol i e) hv.size) (λe=>e.2))) hc ZB hw hclk);obtain⟨clk,Hck⟩:∃q:Int,ZD ((s.clk:Int)=q):=⟨_,ZA rfl⟩;have hc0:ZBi clk:=by rw[<-Hck.o];exact⟨by omega,hclk⟩
 rw[Hck.o]at NW ⊢;have AQ:=λv X' (hp':YQ v X' r ce)=>ZME v X' p ce r clk x.n hp' hp ht hc0 hn;obtain⟨rep,Hrep⟩:=ZTy ((Yo p ce clk x.n).1);obtain⟨ce2,Hce2⟩:=ZTy ((Yo p ce clk x.n).2);rw[Hrep.o,Hce2.o]at AQ ⊢;obtain⟨kl,Hkl⟩:=ZTy (ce.key.length);obtain⟨hl,Hhl⟩:=ZTy (ce.held.length);have k1:Zb w (XO C O) (ZH b1) #[.int .i64 (ce.pol:Int),.slice r.K ce.key.length r.kc,.int .i64 ce.tat,.slice r.H ce.held.length r.hc]:=k1;rw[Hkl.o,Hhl.o]at AQ k1;have AQ:=ZA AQ;obtain⟨xw,Hxw⟩:=ZTy (xb who);have k2:Zz w (XO C O) (ZH b2) (ZH (xb who)):=k2;have y3:=(hA.call hw hc).2.2.2.2.1;rw[Hxw.o]at NW k2 y3;obtain⟨out,Hout⟩:=ZTy ((if rep.granted=false\/x.n=0 then YT res rep else Zn.on (Jk g.room res f ce2 rep)));rw[Hout.o];have HK0:=ZA k0;have HK1:=ZA k1;have HK2:=ZA k2;have HK3:=ZA k3;have HK4:=ZA k4;have HK5:=ZA k5;have HCF:=ZA hcf;have HPC:=ZA hpc;have HS:=ZA (λ(X':Zdb) (w':World) (kp:Kp w w' (XO C O) X') (y3:w'.cell? ⟨xw,3,none⟩=some (.int .i64 x.n))=>(show SBX b0 b1 b2 xw p ce kl hl r x.n w' from⟨(HK0.o.kp kp).cell 0,(HK0.o.kp kp).cell 1,(HK0.o.kp kp).cell 2,(HK0.o.kp kp).cell 3,(HK1.o.kp kp).cell 0,(HK1.o.kp kp).cell 1,(HK1.o.kp kp).cell 2,(HK1.o.kp kp).cell 3,(HK2.o.kp kp).cell 0,y3⟩));have hHeld:=(HS.o _ _ (Kp.ext _ xW) y3).ext (show ZL W W.drew from(ZL.refl W).drew);have HWL:=ZA (λi (e:C i)=>Zb5 (HLT.o i e) xW.size);have XW:=ZA xW;have HW:=ZA hW;have Hc:=ZA hc;have HNL:=ZA (show(L++[(⟨who,3,0,s.clk,0,true⟩:Zf)]).length<=L.length+1 by simp);clear h hc hL hclk k0 k1 k2 k3 k4 k5 hcf hpc hp ht hn hA xW hW hc0 y3 hgw;have J:=ZA (AJ0.start (show ZL W W.drew from(ZL.refl W).drew));go_enter Tryz.func247,Tryz.ntmps247;go_upto_region 1 with fail
 (try rw[HW.o])
 clear HW
 go_cut [8,9] (λv8 v9 wd=>ZQt W g (XG O w.heap.size) C xb s (L.length+1) rep ce2 v8 v9 wd)
 case first=>
  refine JZ (λu=>SBX b0 b1 b2 xw p ce kl hl r x.n u) [9] ZC ?_;generalize W.drew=u0 at hHeld J ⊢;refine ZT1 (i:=0) (v:=?_) rfl (Or.inl ⟨by rfl,?_⟩) (by assumption) ?_
  rotate_left
  ·intro w' hSw;obtain⟨e0,e1,e2,e3,d0,d1,d2,d3,f0,y3⟩:=hSw;go_simp
   (try with_reducible rfl)
  (try simp only[Act.put])
  refine ZT1 (i:=1) (v:=?_) rfl (Or.inl ⟨by rfl,?_⟩) (by assumption) ?_
  rotate_left
  ·intro w' hSw;obtain⟨e0,e1,e2,e3,d0,d1,d2,d3,f0,y3⟩:=hSw;go_simp
   (try with_reducible rfl)
  (try simp only[Act.put])
  refine ZT1 (i:=2) (v:=?_) rfl (Or.inl ⟨by rfl,?_⟩) (by assumption) ?_
  rotate_left
  ·intro w' hSw;obtain⟨e0,e1,e2,e3,d0,d1,d2,d3,f0,y3⟩:=hSw;go_simp
   (try with_reducible rfl)
  (try simp only[Act.put])
  refine ZT1 (i:=4) (v:=?_) rfl (Or.inl ⟨by rfl,?_⟩) (by assumption) ?_
  rotate_left
  ·intro w' hSw;obtain⟨e0,e1,e2,e3,d0,d1,d2,d3,f0,y3⟩:=hSw;go_simp
   (try with_reducible rfl)
  (try simp only[Act.put])
  refine ZT0 (i:=5) (v:=?_) rfl (Or.inl ⟨by rfl,?_⟩) (YL.of hHeld) ?_
  rotate_left
  ·intro w' _;go_simp
   (try with_reducible rfl)
  (try simp only[Act.put])
  refine ZT0 (i:=6) (v:=?_) rfl (Or.inl ⟨by rfl,?_⟩) (YL.of hHeld) ?_
  rotate_left
  ·intro w' _;go_simp
   (try with_reducible rfl)
  (try simp only[Act.put])
  refine ZT0 (i:=7) (v:=?_) rfl (Or.inl ⟨by rfl,?_⟩) (YL.of hHeld) ?_
  rotate_left
  ·intro w' _;go_simp
   (try with_reducible rfl)
  (try simp only[Act.put])
  refine ZT1 (i:=8) (v:=?_) rfl (Or.inl ⟨by rfl,?_⟩) (by assumption) ?_
  rotate_left
  ·intro w' hSw;obtain⟨e0,e1,e2,e3,d0,d1,d2,d3,f0,y3⟩:=hSw;go_simp
   (try with_reducible rfl)
  (try simp only[Act.put])
  iterate 4
   all_goals
    first
     |(have:=(J.o:AJ0 W _ none none);clear this;refine ZY (rs:=[3,13,14]) ZC ZTv (ZN.cons (o:=_) rfl (λK' hK=>?_) (ZN.cons (o:=_) rfl (λK' hK=>?_) (ZN.cons (o:=_) rfl (λK' hK=>?_) ZN.nil))))
     |(have:=(J.o:AJ0 W _ none (some _));clear this;refine ZY (rs:=[3,13]) ZC ZTv (ZN.cons (o:=_) rfl (λK' hK=>?_) (ZN.cons (o:=_) rfl (λK' hK=>?_) ZN.nil)))
     |(have:=(J.o:AJ0 W _ (some _) none);clear this;refine ZY (rs:=[3,14]) ZC ZTv (ZN.cons (o:=_) rfl (λK' hK=>?_) (ZN.cons (o:=_) rfl (λK' hK=>?_) ZN.nil)))
     |(have:=(J.o:AJ0 W _ (some _) (some _));clear this;refine ZY (rs:=[3]) ZC ZTv (ZN.cons (o:=_) rfl (λK' hK=>?_) ZN.nil))
     |(have:=(J.o:AJ W _ _ _ _ _ _ _ _ r ce _ _ none none);clear this;refine ZY (rs:=[9,13,14]) ZC ZTv (ZN.last (o:=_) ZC rfl (λK' hK=>?_) (ZN.cons (o:=_) rfl (λK' hK=>?_) (ZN.cons (o:=_) rfl (λK' hK=>?_) ZN.nil))))
     |(have:=(J.o:AJ W _ _ _ _ _ _ _ _ r ce _ _ none (some _));clear this;refine ZY (rs:=[9,13]) ZC ZTv (ZN.last (o:=_) ZC rfl (λK' hK=>?_) (ZN.cons (o:=_) rfl (λK' hK=>?_) ZN.nil)))
     |(have:=(J.o:AJ W _ _ _ _ _ _ _ _ r ce _ _ (some _) none);clear this;refine ZY (rs:=[9,14]) ZC ZTv (ZN.last (o:=_) ZC rfl (λK' hK=>?_) (ZN.cons (o:=_) rfl (λK' hK=>?_) ZN.nil)))
     |(have:=(J.o:AJ W _ _ _ _ _ _ _ _ r ce _ _ (some _) (some _));clear this;refine ZY (rs:=[9]) ZC ZTv (ZN.last (o:=_) ZC rfl (λK' hK=>?_) ZN.nil))
     |(have:=(J.o:AJ W _ _ _ _ _ _ _ _ _ ce2 _ _ none none);clear this;refine ZY (rs:=[13,14]) ZC ZTv (ZN.last (o:=_) ZC rfl (λK' hK=>?_) (ZN.last (o:=_) ZC rfl (λK' hK=>?_) ZN.nil)))
     |(have:=(J.o:AJ W _ _ _ _ _ _ _ _ _ ce2 _ _ none (some _));clear this;refine ZY (rs:=[13]) ZC ZTv (ZN.last (o:=_) ZC rfl (λK' hK=>?_) ZN.nil))
     |(have:=(J.o:AJ W _ _ _ _ _ _ _ _ _ ce2 _ _ (some _) none);clear this;refine ZY (rs:=[14]) ZC ZTv (ZN.last (o:=_) ZC rfl (λK' hK=>?_) ZN.nil))
    all_goals
     go_simp
     first
      |((with_reducible refine(NW.o _ J.o.x).mono ?_);rintro e u ⟨rfl,C',hm⟩;have y3:=(hm.1.call hw Hc.o).2.2.2.2.1;rw[Hxw.o]at y3;have hHeld:=HS.o _ _ (Z9.kpi hm XW.o J.o.x (Zb0 _)) y3;have J:=ZA (J.o.now XW.o (Zb0 _) HWL.o HPC.o HNL.o hm);clear hm y3;refine hK.out _ _ hHeld ?_;clear hK K';(try simp only[Act.put]))
      |((with_reducible refine(AQ.o _ _ J.o.pt).mono ?_);rintro e u ⟨r',rfl,hp',hx⟩;have J:=ZA (J.o.allow hx hp');clear hp' hx hHeld;refine hK.out _ _ ?_;clear hK K';(try simp only[Act.put]);refine ZT0 (i:=10) (v:=?_) rfl (Or.inl ⟨by rfl,?_⟩) (YL.past ZC) ?_;rotate_left;(focus (intro w' _;go_simp;(try with_reducible rfl)));(try simp only[Act.put]);refine ZT0 (i:=11) (v:=?_) rfl (Or.inl ⟨by rfl,?_⟩) (YL.past ZC) ?_;rotate_left;(focus (intro w' _;go_simp;(try with_reducible rfl)));(try simp only[Act.put]);refine ZT0 (i:=12) (v:=?_) rfl (Or.inl ⟨by rfl,?_⟩) (YL.past ZC) ?_;rotate_left;(focus (intro w' _;go_simp;(try with_reducible rfl)));(try simp only[Act.put]))
      |(have hHeld:=SBX.ext hHeld ((ZL.refl _).alloc ZAO);refine hK.out _ _ hHeld ?_;clear hK K';(try simp only[Act.put]);obtain⟨k8,v,hq,hv,J⟩:=J.o.a8';rw[hv,hq];rw[hv]at hHeld;have J:=ZA J;clear hv hq)
      |(refine hK.out _ _ ?_;clear hK K';(try simp only[Act.put]);obtain⟨k8,v,hq,hv,J⟩:=J.o.a8';rw[hv,hq];have J:=ZA J;clear hv hq)
      |(have hHeld:=SBX.ext hHeld ((ZL.refl _).alloc ZAP);refine hK.out _ _ hHeld ?_;clear hK K';(try simp only[Act.put]);obtain⟨k9,v,hq,hv,J⟩:=J.o.a9';rw[hv,hq];rw[hv]at hHeld;have J:=ZA J;clear hv hq)
      |(refine hK.out _ _ ?_;clear hK K';(try simp only[Act.put]);obtain⟨k9,v,hq,hv,J⟩:=J.o.a9';rw[hv,hq];have J:=ZA J;clear hv hq)
  all_goals
   refine ZY (rs:=[15]) ZC ZTv (ZN.last (o:=_) ZC rfl (λK' hK=>?_) ZN.nil);have hb:=J.o.k8;obtain⟨s0,z0,s1,z1,s2,z2,s3,z3,s4,z4,s5,z5⟩:=ZT8 hb;clear hb
   go_simp
   refine hK.out _ _ ?_;clear hK K' s0 z0 s1 z1 s2 z2 s3 z3 s4 z4 s5 z5
   (try simp only[Act.put])
   obtain⟨v,hv,J⟩:=J.o.s8' (.int .i64 (rep.er:Int)) (.bool rep.granted) (.int .i64 rep.left) (.int .i64 rep.wait) (.int .i64 rep.ser) (.int .i64 rep.now);rw[hv];have J:=ZA J;clear hv;refine ZY (rs:=[16]) ZC ZTv (ZN.last (o:=_) ZC rfl (λK' hK=>?_) ZN.nil);have hb:=J.o.k9;obtain⟨s0,z0,s1,z1,s2,z2,s3,z3⟩:=ZT7 hb;clear hb
   go_simp
   refine hK.out _ _ ?_;clear hK K' s0 z0 s1 z1 s2 z2 s3 z3
   (try simp only[Act.put])
   obtain⟨v,hv,J⟩:=J.o.s9' (.int .i64 (ce2.pol:Int)) (.slice r'.K ce2.key.length r'.kc) (.int .i64 ce2.tat) (.slice r'.H ce2.held.length r'.hc);rw[hv];have J:=ZA J;clear hv;refine Ja ZC ?_ _;go_wp2_with fail
   go_meet
   exact⟨_,_,r',C',rfl,rfl,J.o⟩
 case rest=>
  obtain⟨k8,k9,r',C',rfl,rfl,J1⟩:=hcut;obtain⟨L',hl',hm0⟩:=J1.m;have hm:=hm0.drop (λi e=>Or.inl e);have kb8:=(J1.b8 k8 rfl).2;have kb9:=(J1.b9 k9 rfl).2;have hpt:=J1.pt.kp (X':=XO C' (XG O w.heap.size)) (Kp.of (GB.refl wc (λ_=>False)) (λ_ _ e=>e.elim) (λi _ e=>.inl e));have HNL2:=ZA hl';have HM:=ZA hm;have hkp:=hm.kpg XW.o (Zb0 w.heap.size);have hca:=hm.1.call hw Hc.o;have KR:=ZA (hm.2.1.blk K0.o (λe=>Zb3 _ (HLT.o _ e)));have HX:=ZA hm.1.newer;have PT:=ZLx wc (XO C' (XG O w.heap.size)) (Zi g who (xb who) x) f _ cf Af rsf ce2 r' rep res g.gx g.room HX.o rfl (HCF.o.kp hkp) hpt (by exact hca.1) (by exact hca.2.2.1) (by exact hm.1.rd.c1);rw[Hxw.o]at hca;have f0:=(HK2.o.kp hkp).ZT2 0 (ZH xw);have y3:wc.cell? ⟨xw,3,none⟩=some (.int .i64 x.n):=hca.2.2.2.2.1;have a0:=(HK3.o.kp hkp).ZT2 0 (.int .i64 (f.word:Int));have a1:=(HK3.o.kp hkp).ZT2 1 (.int .u64 (f.v:Int));have a2:=(HK3.o.kp hkp).ZT2 2 (.slice Af f.cells.length cf);have a4:=(HK4.o.kp hkp).ZT2 0 (.int .i64 (f.at_:Int));have a5:=(HK5.o.kp hkp).ZT2 0 (.bool f.there);have c0:=ZTx kb9 0 (.int .i64 (ce2.pol:Int));have c1:=ZTx kb9 1 (.slice r'.K ce2.key.length r'.kc);have c2:=ZTx kb9 2 (.int .i64 ce2.tat);have c3:=ZTx kb9 3 (.slice r'.H ce2.held.length r'.hc);have s0:=ZTx kb8 0 (.int .i64 (rep.er:Int));have s1:=ZTx kb8 1 (.bool rep.granted);have s2:=ZTx kb8 2 (.int .i64 rep.left);have s3:=ZTx kb8 3 (.int .i64 rep.wait);have s4:=ZTx kb8 4 (.int .i64 rep.ser);have s5:=ZTx kb8 5 (.int .i64 rep.now);have LV:=ZA (ZDe wc (XO C' (XG O w.heap.size)) (Zi g who (xb who) x) res rep HX.o (by show wc.cell? ⟨xb who,7,none⟩=_;rw[Hxw.o];exact hca.2.2.1));rw[show(Zi g who (xb who) x).xb=xw from Hxw.o]at LV PT;have PT:=ZA PT;clear hm0 hm hkp hca kb8 kb9 hpt J1 hl' HNL J hHeld;have HNL:=HNL2;obtain⟨gr,Hgr⟩:=ZTy (rep.granted);rw[Hgr.o]at s1 LV PT;obtain⟨nn,Hnn⟩:=ZTy (x.n);rw[Hnn.o]at y3;cases gr with
  |false=>
   have HE:=ZA (show YT res rep=out by rw[<-Hout.o,Zcg (.inl Hgr.o)]);go_wp2_with fail;refine LV.o.mono ?_;rintro e w2 ⟨nv,done,r9,rfl,ho,hx⟩;rw[HE.o]at ho;have HO:=ZA ho;have HXX:=ZA hx;have K3:=ZA (ZJ KR.o hx);obtain⟨r0,z0,r1,z1,r2,z2,r3,z3,r4,z4,r5,z5,r6,z6⟩:=ZT9 K3.o;clear ho hx;go_wp2_with fail;refine ZcY (ZQ (p:=7) (u:=6) rfl _ _ (w.heap.size) _ #[.bool done,.int .i64 (r9.er:Int),.bool r9.granted,.int .i64 r9.left,.int .i64 r9.wait,.int .i64 r9.ser,.int .i64 r9.now] (0,0) _ rfl (Yf K3.o _ _ _ _ _ _ _) Tryz.underlying41 ZTw ZC) rfl ?_;exact YS HNL.o XW.o (Zb0 _) (HM.o.ext HXX.o) HO.o _ _ _ _ _ _ _
  |true=>
   by_cases hn0:nn=0
   ·have HE:=ZA (show YT res rep=out by rw[<-Hout.o,Zcg (.inr (Hnn.o.trans hn0))]);subst hn0;go_wp2_with fail;refine LV.o.mono ?_;rintro e w2 ⟨nv,done,r9,rfl,ho,hx⟩;rw[HE.o]at ho;have HO:=ZA ho;have HXX:=ZA hx;have K3:=ZA (ZJ KR.o hx);obtain⟨r0,z0,r1,z1,r2,z2,r3,z3,r4,z4,r5,z5,r6,z6⟩:=ZT9 K3.o;clear ho hx;go_wp2_with fail;refine ZcY (ZQ (p:=7) (u:=6) rfl _ _ (w.heap.size) _ #[.bool done,.int .i64 (r9.er:Int),.bool r9.granted,.int .i64 r9.left,.int .i64 r9.wait,.int .i64 r9.ser,.int .i64 r9.now] (0,0) _ rfl (Yf K3.o _ _ _ _ _ _ _) Tryz.underlying41 ZTw ZC) rfl ?_;exact YS HNL.o XW.o (Zb0 _) (HM.o.ext HXX.o) HO.o _ _ _ _ _ _ _
   ·have HE:=ZA (show Zn.on (Jk g.room res f ce2 rep)=out by rw[<-Hout.o,Zcf (λe=>e.elim (λe=>by rw[Hgr.o]at e;cases e) (λe=>hn0 (Hnn.o.symm.trans e)))]);have hb0:(nn==0)=false:=by rw[ZcW];exact hn0
    go_wp2_with fail;refine PT.out.mono ?_;rintro e w2 ⟨v,rfl,hk,hx⟩;have ON:=Jf hk;rw[HE.o]at ON;have ON:=ZA ON;have X1:=ZA hx;have K2:=ZA (ZJ KR.o hx);clear hk hx;go_wp2_with fail;refine ON.o.mono ?_;rintro e w3 ⟨nv,done,r9,rfl,ho,hx⟩;have HO:=ZA ho;have HXX:=ZA (X1.o.trans hx);have K3:=ZA (ZJ K2.o hx);obtain⟨r0,z0,r1,z1,r2,z2,r3,z3,r4,z4,r5,z5,r6,z6⟩:=ZT9 K3.o;clear ho hx;go_wp2_with fail;refine ZcY (ZQ (p:=7) (u:=6) rfl _ _ (w.heap.size) _ #[.bool done,.int .i64 (r9.er:Int),.bool r9.granted,.int .i64 r9.left,.int .i64 r9.wait,.int .i64 r9.ser,.int .i64 r9.now] (0,0) _ rfl (Yf K3.o _ _ _ _ _ _ _) Tryz.underlying41 ZTw ZC) rfl ?_;exact YS HNL.o XW.o (Zb0 _) (HM.o.ext HXX.o) HO.o _ _ _ _ _ _ _
theorem ZNn (w:World)(g:YE)(O C:Zdb)(xb:Nat->Nat)(L:List Zf)(s s1:YF)(who u:Nat)(x:ZX)(res:Bool)(ser:Int)(f:Yi)(ce:ZO)(rp:YH)(fn:FuncId)(caps:Array Value)(h:YK w g O C xb L s)(hc:s.call who=.run x res ser (.put f ce rp))(hL:L.length<=100000)(hw:who<64)(hword:f.word<34)(hu:s.ws.getD f.word 0=u)(hs1:s1=if u=f.v then {s with ws:=s.ws.set f.word (f.v+1),hs:=s.hs.set f.word (Xg f.cells f.at_ f.there ce)} else s)(hp:x.pol<g.P.length)(hpm:g.P.length<=32)(hv:f.v<4611686018427387904)(hk:ZCM w (XO C O) (Zi g who (xb who) x) (Z1 fn caps) f ce rp)(JQ:f.at_<=f.cells.length)(hth:f.there=true->f.at_<f.cells.length)(hcl:f.cells.length<=5000)(hkl:ce.key.length<=255): Calls Tryz.prog fn caps w (SK w g O C xb who (L.length+1) x s1 (if u=f.v then (if f.there=false then .fin rp else YT res rp) else .on (.find (JD x.id) .begin))):=by
 obtain⟨p0,p1,p2,p3,p4,p5,hfn,k0,⟨Af,cf,rsf,k1,hcf⟩,k2,k3,⟨rc,k4,hpc⟩,k5⟩:=hk;injection hfn with hfn h1 h2;injection hfn with hfn;subst hfn h2;obtain⟨b0,rfl,_⟩:=k0.ptr;obtain⟨b1,rfl,_⟩:=k1.ptr;obtain⟨b2,rfl,_⟩:=k2.ptr;obtain⟨b3,rfl,_⟩:=k3.ptr;obtain⟨b4,rfl,_⟩:=k4.ptr;obtain⟨b5,rfl,_⟩:=k5.ptr;obtain⟨W,hW⟩:=ZTz ((w.alloc ZUA));have xW:ZL w W:=by rw[<-hW];exact((ZL.refl w).alloc _)
 have K0:=ZA (show W.heap[w.heap.size]?=some ZUA by rw[<-hW];exact ZM w _);have hA:=h.xg xW (Zb0 _) (ZW K0.o);have kp0:Kp w W (XO C O) (XO C (XG O w.heap.size)):=Kp.of (S:=λ_=>False) (GB.of_ext _ xW) (λ_ _ e=>e.elim) (λi hi e=>e.imp id (λe=>e.resolve_right ZB));obtain⟨there,Hth⟩:=ZTy (f.there);rw[Hth.o]at k3 hth hs1 ⊢;obtain⟨out,Hout⟩:=ZTy ((if u=f.v then (if there=false then Zn.fin rp else YT res rp) else Zn.on (.find (JD x.id) .begin)));rw[Hout.o];obtain⟨lw,Hlw⟩:=ZTy (Xg f.cells f.at_ there ce)
 have WI:=ZA (λu (y:ZL W u)=>(show Calls Tryz.prog 256 #[.slice Af f.cells.length cf,.int .i64 (f.at_:Int),.bool there,.agg #[.int .i64 (ce.pol:Int),.slice rc.K ce.key.length rc.kc,.int .i64 ce.tat,.slice rc.H ce.held.length rc.hc]] u (ZM0 (XO C (XG O w.heap.size)) lw u) by
  rw[<-Hlw.o];cases there with
  |true=>unfold Xg;rw[Zcg rfl];exact ZOf u _ Af f.cells.length cf f.at_ f.cells rsf ce rc (hA.newer.ext y) rfl hcl (hcf.kp (kp0.trans (Kp.ext _ y))) (hpc.kp (kp0.trans (Kp.ext _ y))) (hth rfl)
  |false=>unfold Xg;rw[Zcf ZaV];exact ZOe u _ Af f.cells.length cf f.at_ f.cells rsf ce rc (hA.newer.ext y) rfl hcl (hcf.kp (kp0.trans (Kp.ext _ y))) (hpc.kp (kp0.trans (Kp.ext _ y))) JQ hkl))
 rw[Hlw.o]at hs1;obtain⟨nv1,hnv⟩:=ZTz (f.v+1);rw[hnv]at hs1;obtain⟨bb,Hbb⟩:=ZTy (decide (u=f.v))
 have SW:=ZA (λu' (y:ZL W u') A n c rs (hn:lw.length=n) (hq:Zq u' (XO C (XG O w.heap.size)) A lw rs)=>(show Calls Tryz.prog 80 #[ZH g.gb,.int .i64 (who:Int),.int .i64 (f.word:Int),.int .u64 (f.v:Int),.int .u64 (nv1:Int),.slice A n c] u' (λe w'=>∃L',L'.length<=L.length+1/\e=.returned (.bool bb)/\ZBE u' g (XG O w.heap.size) C xb L' s1 w')from by
  by_cases h0:u=f.v
  ·rw[Zcg h0]at hs1;refine(Jl u' g (XG O w.heap.size) C xb L s who f.word f.v nv1 n c (nv1:Int) A lw rs (hA.ext y) ZB hw hword (hu.trans h0) rfl hn hq).mono ?_;rintro e w' ⟨rfl,hg⟩;exact⟨L++[⟨who,2,f.word,f.v,nv1,true⟩],by simp,by rw[<-Hbb.o,Zcb h0],by rw[hs1];exact hg⟩
  ·rw[Zcf h0]at hs1;refine(ZAC u' g (XG O w.heap.size) C xb L s who f.word u f.v nv1 n c (nv1:Int) A (hA.ext y) ZB hw hword hu h0 rfl).mono ?_;rintro e w' ⟨rfl,hg⟩;exact⟨L++[⟨who,2,f.word,f.v,nv1,false⟩],by simp,by rw[<-Hbb.o,Zca h0],by rw[hs1];exact hg⟩))
 have Hc1:s1.call who=.run x res ser (.put f ce rp):=by rw[hs1];split<;>exact hc
 have hwv:IntKind.u64.wrap ((f.v:Int)+1)=(nv1:Int):=by rw[Zab];omega
 obtain⟨xw,Hxw⟩:=ZTy (xb who);obtain⟨z4,z5,-,-,-,-⟩:=hA.call hw hc;rw[Hxw.o]at z4 z5 k0;have e0:=(k0.ext xW).ZT2 0 (ZH xw);have y4:W.cell? ⟨xw,4,none⟩=some (ZH g.gx):=z4;have y5:W.cell? ⟨xw,5,none⟩=some (.int .i64 (who:Int)):=z5;have c2:W.cell? ⟨g.gx,2,none⟩=some (ZH g.gl):=hA.rd.c2;have l0:W.cell? ⟨g.gl,0,none⟩=some (ZH g.gb):=hA.rd.l0;have f0:=(k1.ext xW).ZT2 0 (.int .i64 (f.word:Int));have f1:=(k1.ext xW).ZT2 1 (.int .u64 (f.v:Int));have f2:=(k1.ext xW).ZT2 2 (.slice Af f.cells.length cf);have e2:=(k2.ext xW).ZT2 0 (.int .i64 (f.at_:Int));have e3:=(k3.ext xW).ZT2 0 (.bool there);have d0:=(k4.ext xW).ZT2 0 (.int .i64 (ce.pol:Int));have d1:=(k4.ext xW).ZT2 1 (.slice rc.K ce.key.length rc.kc);have d2:=(k4.ext xW).ZT2 2 (.int .i64 ce.tat);have d3:=(k4.ext xW).ZT2 3 (.slice rc.H ce.held.length rc.hc);have HLT:=ZA h.lt;have Hc:=ZA Hc1;have HPL:=ZA hp;have HPM:=ZA hpm;have HK0:=ZA k0;have HK1:=ZA k1;have HK2:=ZA k2;have HK3:=ZA k3;have HK4:=ZA k4;have HK5:=ZA k5;have XW:=ZA xW;have HW:=ZA hW;clear h hc Hc1 hu hs1 hp hpm k0 k1 k2 k3 k4 k5 hA xW hW hL hnv kp0 hcf hpc JQ hth hcl hkl hword z4 z5 hv;go_enter Tryz.func255,Tryz.ntmps255;go_upto_region 1 with fail
 (try rw[HW.o])
 clear HW
 go_cut [36] (λv36 wd=>v36=.bool (!bb)/\∃C' L',L'.length<=L.length+1/\Z9 W g (XG O w.heap.size) C xb L' s1 C' wd)
 case first=>
  go_region_held3 (λw'=>w'.cell? ⟨b0,0,none⟩=some (ZH xw)/\w'.cell? ⟨xw,4,none⟩=some (ZH g.gx)/\w'.cell? ⟨xw,5,none⟩=some (.int .i64 (who:Int))/\w'.cell? ⟨g.gx,2,none⟩=some (ZH g.gl)/\w'.cell? ⟨g.gl,0,none⟩=some (ZH g.gb)/\w'.cell? ⟨b1,0,none⟩=some (.int .i64 (f.word:Int))/\w'.cell? ⟨b1,1,none⟩=some (.int .u64 (f.v:Int))/\w'.cell? ⟨b1,2,none⟩=some (.slice Af f.cells.length cf)/\w'.cell? ⟨b2,0,none⟩=some (.int .i64 (f.at_:Int))/\w'.cell? ⟨b3,0,none⟩=some (.bool there)/\w'.cell? ⟨b4,0,none⟩=some (.int .i64 (ce.pol:Int))/\w'.cell? ⟨b4,1,none⟩=some (.slice rc.K ce.key.length rc.kc)/\w'.cell? ⟨b4,2,none⟩=some (.int .i64 ce.tat)/\w'.cell? ⟨b4,3,none⟩=some (.slice rc.H ce.held.length rc.hc)) (((try go_split_ands);exact⟨ZT3,ZT3,ZT3,ZT3,ZT3,ZT3,ZT3,ZT3,ZT3,ZT3,ZT3,ZT3,ZT3,ZT3⟩))
   (first
    |(go_at_call 256;(with_reducible refine(WI.o W.drew (ZL.refl W).drew).mono ?_);rintro e w2 ⟨A9,n9,c9,rs9,hn9,rfl,hq9,hx9⟩;have HX9:=ZA ((ZL.refl W).drew.trans hx9);have SW9:=ZA (SW.o w2 HX9.o A9 n9 c9 rs9 hn9 hq9);have te0:=ZG (HX9.o) e0;have ty4:=ZG (HX9.o) y4;have ty5:=ZG (HX9.o) y5;have tc2:=ZG (HX9.o) c2;have tl0:=ZG (HX9.o) l0;have tf0:=ZG (HX9.o) f0;have tf1:=ZG (HX9.o) f1;have tf2:=ZG (HX9.o) f2;have te2:=ZG (HX9.o) e2;have te3:=ZG (HX9.o) e3;have td0:=ZG (HX9.o) d0;have td1:=ZG (HX9.o) d1;have td2:=ZG (HX9.o) d2;have td3:=ZG (HX9.o) d3;clear hn9 hq9 hx9)
    |(go_at_call 80;(with_reducible refine SW9.o.mono ?_);rintro e w3 ⟨L',hl',rfl,hg⟩;obtain⟨C',hm⟩:=hg.mov;have HL':=ZA hl';have HM:=ZA (hm.back HX9.o);have hkp:=hm.kpg (XW.o.trans HX9.o) (Zb0 w.heap.size);have hca:=hm.1.call hw Hc.o;rw[Hxw.o]at hca;
      have te0:=(HK0.o.kp hkp).ZT2 0 (ZH xw);have ty4:w3.cell? ⟨xw,4,none⟩=some (ZH g.gx):=hca.1;have ty5:w3.cell? ⟨xw,5,none⟩=some (.int .i64 (who:Int)):=hca.2.1;have tc2:w3.cell? ⟨g.gx,2,none⟩=some (ZH g.gl):=hm.1.rd.c2;have tl0:w3.cell? ⟨g.gl,0,none⟩=some (ZH g.gb):=hm.1.rd.l0;have tf0:=(HK1.o.kp hkp).ZT2 0 (.int .i64 (f.word:Int));have tf1:=(HK1.o.kp hkp).ZT2 1 (.int .u64 (f.v:Int));have tf2:=(HK1.o.kp hkp).ZT2 2 (.slice Af f.cells.length cf);have te2:=(HK2.o.kp hkp).ZT2 0 (.int .i64 (f.at_:Int));have te3:=(HK3.o.kp hkp).ZT2 0 (.bool there);have td0:=(HK4.o.kp hkp).ZT2 0 (.int .i64 (ce.pol:Int));have td1:=(HK4.o.kp hkp).ZT2 1 (.slice rc.K ce.key.length rc.kc);have td2:=(HK4.o.kp hkp).ZT2 2 (.int .i64 ce.tat);have td3:=(HK4.o.kp hkp).ZT2 3 (.slice rc.H ce.held.length rc.hc);clear hm hg hkp hca hl'))
  all_goals
   go_wp2_with fail
   go_meet
   exact⟨rfl,_,_,HL'.o,HM.o⟩
 case rest=>
  obtain⟨rfl,C',L',hl',hm⟩:=hcut;have HNL:=ZA hl';have HM:=ZA hm;have hkp:=hm.kpg XW.o (Zb0 w.heap.size);have hca:=hm.1.call hw Hc.o;have KR:=ZA (hm.2.1.blk K0.o (λe=>Zb3 _ (HLT.o _ e)));have HX:=ZA hm.1.newer;rw[Hxw.o]at hca;have g0:=(HK0.o.kp hkp).ZT2 0 (ZH xw);have g3:=(HK3.o.kp hkp).ZT2 0 (.bool there);have s0:=(HK5.o.kp hkp).ZT2 0 (.int .i64 (rp.er:Int));have s1:=(HK5.o.kp hkp).ZT2 1 (.bool rp.granted);have s2:=(HK5.o.kp hkp).ZT2 2 (.int .i64 rp.left);have s3:=(HK5.o.kp hkp).ZT2 3 (.int .i64 rp.wait);have s4:=(HK5.o.kp hkp).ZT2 4 (.int .i64 rp.ser);have s5:=(HK5.o.kp hkp).ZT2 5 (.int .i64 rp.now);have EN:=ZA (ZBa wc (XO C' (XG O w.heap.size)) (Zi g who (xb who) x) rp);have LV:=ZA (ZDe wc (XO C' (XG O w.heap.size)) (Zi g who (xb who) x) res rp HX.o (by show wc.cell? ⟨xb who,7,none⟩=_;rw[Hxw.o];exact hca.2.2.1));rw[show(Zi g who (xb who) x).xb=xw from Hxw.o]at LV;have hxa:=(hm.1.xat hw Hc.o).1;have BG:=ZKS wc (XO C' (XG O w.heap.size)) g who (xb who) x res ser HX.o hxa hm.1.rd HPL.o HPM.o;rw[Hxw.o]at BG;have BG:=ZA BG;clear hm hkp hca e0 y4 y5 c2 l0 f0 f1 f2 e2 e3 d0 d1 d2 d3 hwv hxa hl';have HDC:=Hbb.o;cases bb with
  |false=>
   have hne:=of_decide_eq_false HDC;have HE:=ZA (show Zn.on (.find (JD x.id) .begin)=out by rw[<-Hout.o,Zcf hne]);clear hne HDC Hbb;go_wp2_with fail;refine BG.o.mono ?_;rintro e w2 ⟨v,rfl,hk,hx⟩;rw[<-Hxw.o]at hk;have ON:=Jf hk;rw[HE.o,Hxw.o]at ON;have ON:=ZA ON;have X1:=ZA hx;have K2:=ZA (ZJ KR.o hx);clear hk hx;go_wp2_with fail;refine ON.o.mono ?_;rintro e w3 ⟨nv,done,r',rfl,ho,hx⟩;rw[<-Hxw.o]at ho;have HO:=ZA ho;have HXX:=ZA (X1.o.trans hx);have K3:=ZA (ZJ K2.o hx);obtain⟨r0,z0,r1,z1,r2,z2,r3,z3,r4,z4,r5,z5,r6,z6⟩:=ZT9 K3.o;clear ho hx;go_wp2_with fail;refine ZcY (ZQ (p:=7) (u:=6) rfl _ _ (w.heap.size) _ #[.bool done,.int .i64 (r'.er:Int),.bool r'.granted,.int .i64 r'.left,.int .i64 r'.wait,.int .i64 r'.ser,.int .i64 r'.now] (0,0) _ rfl (Yf K3.o _ _ _ _ _ _ _) Tryz.underlying41 ZTw ZC) rfl ?_;exact YS HNL.o XW.o (Zb0 _) (HM.o.ext HXX.o) HO.o _ _ _ _ _ _ _
  |true=>
   have hne:=Zcj HDC;have HQ:=ZA (show(if there=false then Zn.fin rp else YT res rp)=out by rw[<-Hout.o,Zcg hne]);clear hne HDC Hbb;cases there with
   |false=>
    go_wp2_with fail;refine EN.o.mono ?_;rintro e w2 ⟨nv,done,r',rfl,ho,hx⟩;rw[show Zn.fin rp=out by rw[<-HQ.o];first|exact(Zcg rfl).symm|exact(Zcg trivial).symm]at ho;have HO:=ZA ho;have HXX:=ZA hx;have K3:=ZA (ZJ KR.o hx);obtain⟨r0,z0,r1,z1,r2,z2,r3,z3,r4,z4,r5,z5,r6,z6⟩:=ZT9 K3.o;clear ho hx;go_wp2_with fail;refine ZcY (ZQ (p:=7) (u:=6) rfl _ _ (w.heap.size) _ #[.bool done,.int .i64 (r'.er:Int),.bool r'.granted,.int .i64 r'.left,.int .i64 r'.wait,.int .i64 r'.ser,.int .i64 r'.now] (0,0) _ rfl (Yf K3.o _ _ _ _ _ _ _) Tryz.underlying41 ZTw ZC) rfl ?_;exact YS HNL.o XW.o (Zb0 _) (HM.o.ext HXX.o) HO.o _ _ _ _ _ _ _
   |true=>
    go_wp2_with fail;refine LV.o.mono ?_;rintro e w2 ⟨nv,done,r',rfl,ho,hx⟩;rw[show YT res rp=out by rw[<-HQ.o];first|exact(Zcf (by decide)).symm|simp]at ho;have HO:=ZA ho;have HXX:=ZA hx;have K3:=ZA (ZJ KR.o hx);obtain⟨r0,z0,r1,z1,r2,z2,r3,z3,r4,z4,r5,z5,r6,z6⟩:=ZT9 K3.o;clear ho hx;go_wp2_with fail;refine ZcY (ZQ (p:=7) (u:=6) rfl _ _ (w.heap.size) _ #[.bool done,.int .i64 (r'.er:Int),.bool r'.granted,.int .i64 r'.left,.int .i64 r'.wait,.int .i64 r'.ser,.int .i64 r'.now] (0,0) _ rfl (Yf K3.o _ _ _ _ _ _ _) Tryz.underlying41 ZTw ZC) rfl ?_;exact YS HNL.o XW.o (Zb0 _) (HM.o.ext HXX.o) HO.o _ _ _ _ _ _ _
theorem ZNp (w:World)(g:YE)(O C:Zdb)(xb:Nat->Nat)(L:List Zf)(s:YF)(who u:Nat)(x:ZX)(res:Bool)(ser:Int)(f:Yi)(ce:ZO)(rp:YH)(stop:Nat)(fn:FuncId)(caps:Array Value)(h:YK w g O C xb L s)(hc:s.call who=.run x res ser (.mvS 32 1 stop u (.count f ce rp)))(hL:L.length<=100000)(hw:who<64)(hu:s.ws.getD 32 0=u)(hk:Ze w (XO C O) (Zi g who (xb who) x) (Z1 fn caps) (.mvS 32 1 stop u (.count f ce rp))):
  Calls Tryz.prog fn caps w (SK w g O C xb who (L.length+1) x ({s with ws:=s.ws.set 32 ((u+1) % 18446744073709551616),hs:=s.hs.set 32 []}.put who (.run x true ser (.mvS 32 1 stop u (.count f ce rp)))) (.on (.put f ce rp))):=by
 obtain⟨p0,p1,p2,p3,p4,p5,p6,sv,tv,hfn,k0,k1,k2,k3,k4,k5,k6,q0,q1,av,hsv,htv,kq0,kq1,ka⟩:=hk;subst hsv htv;injection hfn with hfn h1 h2;injection hfn with hfn;subst hfn h2;obtain⟨b0,rfl⟩:=YG k0;obtain⟨b1,rfl⟩:=YG k1;obtain⟨b2,rfl⟩:=YG k2;obtain⟨b3,rfl⟩:=YG k3;obtain⟨b4,rfl⟩:=YG k4;obtain⟨b5,rfl⟩:=YG k5;obtain⟨b6,rfl⟩:=YG k6;obtain⟨c0,rfl⟩:=YG kq0;obtain⟨c1,rfl⟩:=YG kq1;obtain⟨W,hW⟩:=ZTz ((w.alloc ZUA));have xW:ZL w W:=by rw[<-hW];exact((ZL.refl w).alloc _)
 have K0:=ZA (show W.heap[w.heap.size]?=some ZUA by rw[<-hW];exact ZM w _);have hA:=h.xg xW (Zb0 _) (ZW K0.o);obtain⟨v,hv⟩:=ZTz ((u+1) % 18446744073709551616);rw[hv]
 have SW:=ZA (ZCt W g (XG O w.heap.size) C xb L (L++[⟨who,2,32,u,v,true⟩]) s {s with ws:=s.ws.set 32 v,hs:=s.hs.set 32 []} who 32 u (v:Int) x res ser _ true hA hc hc hw (λz hz=>Jl z g (XG O w.heap.size) C xb L s who 32 u v 0 0 (v:Int) none [] [] (hA.ext hz) ZB hw ZB hu rfl rfl (Zq.nil z _)));have e0:=(k0.ext xW).ZT2 0 (ZH (xb who));have e1:=(k1.ext xW).ZT2 0 (.int .i64 32);have e2:=(k2.ext xW).ZT2 0 (.int .u64 (u:Int));have e3:=(k3.ext xW).ZT2 0 (.int .u64 1);have HLT:=ZA h.lt;have Hc:=ZA hc;have HK2:=ZA k2;have HK3:=ZA k3;have HK6:=ZA k6;have HQ0:=ZA kq0;have HQ1:=ZA kq1;have HKA:=ZA ka;have XW:=ZA xW;have HW:=ZA hW;have HNL:=ZA (show(L++[(⟨who,2,32,u,v,true⟩:Zf)]).length<=L.length+1 by simp);have hwv:IntKind.u64.wrap ((u:Int)+1)=(v:Int):=by rw[Zab];omega
 have HV:=ZA hv;clear h hc hu k0 k1 k2 k3 k4 k5 k6 kq0 kq1 ka hA xW hW hL hv;go_enter Tryz.func278,Tryz.ntmps278;go_upto_region 1 with fail
 (try rw[HW.o])
 clear HW;go_wp2_with fail;refine SW.o.mono ?_;rintro e w2 ⟨rfl,hg⟩;obtain⟨C',hmv⟩:=hg.mov;have HM:=ZA hmv;have hkp:=hmv.kpg XW.o (Zb0 w.heap.size);have KR:=ZA (hmv.2.1.blk K0.o (λe=>Zb3 _ (HLT.o _ e)));have f2:=(HK2.o.kp hkp).ZT2 0 (.int .u64 (u:Int));have f3:=(HK3.o.kp hkp).ZT2 0 (.int .u64 1);have f6:=(HK6.o.kp hkp).ZT2 0 (Z1 258 #[ZH c0,ZH c1]);have TH:=ZA (ZSg w2 g (XG O w.heap.size) C' xb _ _ who v c0 c1 (L.length+1) x res ser _ f ce rp av hmv.1 Hc.o HNL.o hw (HQ0.o.kp hkp) (HQ1.o.kp hkp) (HKA.o.kp hkp));clear hmv hg hkp e0 e1 e2 e3;go_wp2_with fail;refine TH.out.mono ?_;rintro e w3 ⟨nv,done,r',C2,L2,hl2,rfl,hm2,ho⟩;have HO:=ZA ho;have HL2:=ZA hl2;have HM2:=ZA (HM.o.trans hm2);have hnC:¬C' w.heap.size:=λe=>HM.o.1.co _ e (.inr rfl);have K3:=ZA (hm2.2.1.blk KR.o hnC);obtain⟨r0,z0,r1,z1,r2,z2,r3,z3,r4,z4,r5,z5,r6,z6⟩:=ZT9 K3.o;clear ho hl2 hm2 hnC f2 f3 f6;go_wp2_with fail;refine ZcY (ZQ (p:=8) (u:=7) rfl _ _ (w.heap.size) _ #[.bool done,.int .i64 (r'.er:Int),.bool r'.granted,.int .i64 r'.left,.int .i64 r'.wait,.int .i64 r'.ser,.int .i64 r'.now] (0,0) _ rfl (Yf K3.o _ _ _ _ _ _ _) Tryz.underlying41 ZTw ZC) rfl ?_;exact YS HL2.o XW.o (Zb0 _) HM2.o HO.o _ _ _ _ _ _ _
theorem Ze.hen {w:World}{X:Zdb}{d:JM}{fn:FuncId}{caps:Array Value}{k:YN}(h:Ze w X d (Z1 fn caps) k):∀u:World,(callFunc fn caps).run Tryz.prog u=.ok (.enter fn caps) u:=by
 cases k with
 |find sum t=>
  obtain⟨_,_,_,_,_,e,_⟩:=h;injection e with e _ e2;injection e with e;subst e;exact λ_=>rfl
 |enter sum word t=>
  obtain⟨_,_,_,_,_,_,e,_⟩:=h;injection e with e _ e2;injection e with e;subst e;exact λ_=>rfl
 |frz word t=>
  obtain⟨_,_,_,_,_,e,_⟩:=h;injection e with e _ e2;injection e with e;subst e;exact λ_=>rfl
 |frzS word v holds t=>
  obtain⟨_,_,_,_,_,_,_,_,e,_⟩:=h;injection e with e _ e2;injection e with e;subst e;exact λ_=>rfl
 |half level shard holds t=>
  obtain⟨_,_,_,_,_,_,_,e,_⟩:=h;injection e with e _ e2;injection e with e;subst e;exact λ_=>rfl
 |halfS level shard holds t=>
  obtain⟨_,_,_,_,_,_,_,_,e,_⟩:=h;injection e with e _ e2;injection e with e;subst e;exact λ_=>rfl
 |split=>
  obtain⟨_,_,_,e,_⟩:=h;injection e with e _ e2;injection e with e;subst e;exact λ_=>rfl
 |splitS d=>
  obtain⟨_,_,_,_,_,_,e,_⟩:=h;injection e with e _ e2;injection e with e;subst e;exact λ_=>rfl
 |moveEnd level=>
  obtain⟨_,_,_,_,e,_⟩:=h;injection e with e _ e2;injection e with e;subst e;exact λ_=>rfl
 |mv word by_ stop t=>
  obtain⟨_,_,_,_,_,_,_,_,e,_⟩:=h;injection e with e _ e2;injection e with e;subst e;exact λ_=>rfl
 |mvS word by_ stop v t=>
  obtain⟨_,_,_,_,_,_,_,_,_,e,_⟩:=h;injection e with e _ e2;injection e with e;subst e;exact λ_=>rfl
 |put f ce r=>
  obtain⟨_,_,_,_,_,_,e,_⟩:=h;injection e with e _ e2;injection e with e;subst e;exact λ_=>rfl
 |peek ce=>
  obtain⟨_,_,_,e,_⟩:=h;injection e with e _ e2;injection e with e;subst e;exact λ_=>rfl
 |allow f ce=>
  obtain⟨_,_,_,_,_,_,e,_⟩:=h;injection e with e _ e2;injection e with e;subst e;exact λ_=>rfl
 |evFirst=>
  obtain⟨_,e,_⟩:=h;injection e with e _ e2;injection e with e;subst e;exact λ_=>rfl
 |evScan j shards gone word v cells=>
  obtain⟨_,_,_,_,_,_,_,e,_⟩:=h;injection e with e _ e2;injection e with e;subst e;exact λ_=>rfl
 |evSwap j shards gone word v rest n=>
  obtain⟨_,_,_,_,_,_,_,_,e,_⟩:=h;injection e with e _ e2;injection e with e;subst e;exact λ_=>rfl
theorem Yl {w:World}{g:YE}{O C:Zdb}{xb:Nat->Nat}{L:List Zf}{s s1:YF}{who:Nat}{x:ZX}{res:Bool}{ser:Int}{k k0:YN}{c:KC}{out:Zn}(h:YK w g O C xb L s)(hw:who<64)(hc:s.call who=.run x res ser k)(hr:Yk g.P g.room x (s.kc res ser) k=(c,out))(hc1:s1.call who=.run x c.res c.ser k0)(h1:s1.put who (ZAX x c.res c.ser out)=(s.of c).put who (ZAX x c.res c.ser out))(CL:∀(u:World) (O':Zdb) (fn:FuncId) (caps:Array Value),YK u g O' C xb L s->Ze u (XO C O') (Zi g who (xb who) x) (Z1 fn caps) k->Calls Tryz.prog fn caps u (SK u g O' C xb who (L.length+1) x s1 out)): Calls Tryz.prog 16 #[ZH g.gx,.int .i64 (who:Int)] w (ZCr w g O C xb L s who):=by
 obtain⟨v,hv,hk⟩:=h.kont hw hc;obtain⟨fn,caps,rfl⟩:=hk.fn;exact(ZNc w g O C xb L s s1 who (L.length+1) x res c.res ser c.ser k k0 out fn caps h hc hw hv hk.hen hc1 (λu O'=>CL u O' fn caps)).mono λe w' he=>ZQL (c:=c) hc hr h1 he
theorem ZLo {P:List YR}{s:WH}{x:ZX}{t:JL}(h:FOk P s x t):ZEK x t:=by
 cases t with
 |find sum level t=>exact⟨h.2.2.1,h.2.2.2,h.1⟩
 |move level i=>exact h
theorem ZLd {P:List YR}{s:WH}{x:ZX}{t:Xv}(h:HOk P s x t):ZEI x t:=by
 cases t with
 |find sum t=>exact⟨h.2.2,h.1⟩
 |move1 level i holds=>exact⟨h.1,h.2.1⟩
 |move2 level i=>exact h
theorem ZHw {P:List YR}{l:List ZO}(h:Ye P l)(h32:P.length<=32):∀e ∈ l,ZCO e:=λe he=>have q:=h.2.1 e he;⟨by have:=q.1;omega,q.2.1,q.2.2.1⟩
theorem ZRl (w:World)(g:YE)(O C:Zdb)(xb:Nat->Nat)(L:List Zf)(s:YF)(who:Nat){N M:Nat}{x:ZX}{res:Bool}{ser:Int}{k:YN}(h:YK w g O C xb L s)(hL:L.length<=100000)(hw:who<64)(hi:ZCP g.P g.room N M s)(hN:N+1<=4611686018427387903)(hP32:g.P.length<=32)(hPP:∀p ∈ g.P,Yd p)(hcnt:s.ws.getD 32 0<JH)(hc:s.call who=.run x res ser k): Calls Tryz.prog 16 #[ZH g.gx,.int .i64 (who:Int)] w (ZCr w g O C xb L s who):=by
 have hr:=hi.run who x res ser k hc;have hx:=hr.call;have W:=hi.w;have hcl:=hi.clk;have d:s.ws.getD 0 0<=8:=W.d;have hz:k.fresh->∀word,ser=0\/(Ser ser/\ser ∉ (YV (s.hs.getD word []) x.pol x.key).held):=λf word=>by
  by_cases e0:ser=0
  ·exact .inl e0
  ·have h1:=hr.ser0 e0;have h2:=W.n33;refine .inr ⟨⟨h1.2.1,by omega⟩,λhm=>?_⟩;obtain⟨d,hd,hz⟩:=ZCj hm;exact hr.fresh f e0 word d hd hz
 have hk:=hr.kont;have hfz:Za=4611686018427387904:=rfl;have hnv:JH=18446744073709551615:=rfl;cases k with
 |find sum t=>
  obtain⟨h1,h2,h3⟩:=hk;obtain⟨u,hu|hu⟩:∃u,s.ws.getD 0 0=2*u\/s.ws.getD 0 0=2*u+1:=⟨s.ws.getD 0 0 / 2,by omega⟩
  ·refine Yl (s1:=s) (c:=s.kc res ser) (out:=.on (.enter sum (ZP u sum) t)) h hw hc ?_ hc rfl (λv O' fn caps h9 k9=>ZJu v g O' C xb L s who u sum x res ser t fn caps h9 hc hL hw hu ZB h3 k9);show(s.kc res ser,_)=_;have e0:(s.kc res ser).ld 0=2*u:=hu;rw[e0,Zcg ZB,show 2*u / 2=u by omega]
  ·refine Yl (s1:=s) (c:=s.kc res ser) (out:=.on (.frz (ZP u sum) (.find sum u t))) h hw hc ?_ hc rfl (λv O' fn caps h9 k9=>ZLY v g O' C xb L s who u sum x res ser t fn caps h9 hc hL hw hu ZB h3 k9);show(s.kc res ser,_)=_;have e0:(s.kc res ser).ld 0=2*u+1:=hu;rw[e0,Zcf ZB,show(2*u+1) / 2=u by omega]
 |enter sum word t=>
  obtain⟨h1,h2,h3,h4,h5⟩:=hk;exact Yl (s1:=s) (c:=s.kc res ser) h hw hc rfl hc rfl (λv O' fn caps h9 k9=>ZJv v g O' C xb L s who sum word (s.ws.getD word 0) x res ser fn caps t h9 hc hL hw ZB rfl k9 hP32 hPP hx h1 (W.cells word).1 (hz trivial word))
 |frz word t=>
  obtain⟨h1,h2,h3⟩:=hk;exact Yl (s1:=s) (c:=s.kc res ser) h hw hc rfl hc rfl (λv O' fn caps h9 k9=>ZTE v g O' C xb L s who word (s.ws.getD word 0) x res ser t fn caps h9 hc hL hw ZB rfl k9 (ZLo h1))
 |frzS word v holds t=>
  obtain⟨h1,⟨a1,a2,a3,a4,a5⟩,h3⟩:=hk;by_cases q:s.ws.getD word 0=v
  ·refine Yl (s1:={s with ws:=s.ws.set word (v+Za),hs:=s.hs.set word holds}) (c:=(s.kc res ser).sw word (v+Za) holds) (out:=.on (Xy holds t)) h hw hc (Zcg q) hc rfl (λu O' fn caps h9 k9=>ZLX u g O' C xb L s who word v x res ser holds t fn caps h9 hc hL hw ZB q ZB k9 (ZLo h1))
  ·refine Yl (s1:=s) (c:=s.kc res ser) (out:=.on (.frz word t)) h hw hc (Zcf q) hc rfl (λu O' fn caps h9 k9=>ZJt u g O' C xb L s who word v x res ser holds t fn caps h9 hc hL hw ZB q ZB k9 (ZLo h1))
 |half level shard holds t=>
  obtain⟨h1,h2,h3,h4,h5⟩:=hk;exact Yl (s1:=s) (c:=s.kc res ser) h hw hc rfl hc rfl (λv O' fn caps h9 k9=>ZSi v g O' C xb L s who level shard (ZP level shard) (s.ws.getD (ZP level shard) 0) x res ser holds t fn caps h9 hc hL hw h2 rfl rfl k9 hP32 hPP hx (ZLd h3) (W.cells _).1 (hz trivial _))
 |halfS level shard holds t=>
  obtain⟨h1,h2,h3,h4,h5⟩:=hk;by_cases q:s.ws.getD (ZP level shard) 0=0
  ·refine Yl (s1:={s with ws:=s.ws.set (ZP level shard) 1,hs:=s.hs.set (ZP level shard) (Xr holds level (ZP level shard - 2 ^ level))}) (c:=(s.kc res ser).sw (ZP level shard) 1 (Xr holds level (ZP level shard - 2 ^ level))) (out:=Xd g.P g.room x res ser (ZP level shard) 0 [] t) h hw hc ?_ hc rfl (λv O' fn caps h9 k9=>ZMm v g O' C xb L s _ who level shard (ZP level shard) (ZP level shard - 2 ^ level) (s.ws.getD (ZP level shard) 0) x res ser holds t fn caps h9 hc hL hw h2 rfl rfl rfl (Zcg q).symm k9 (ZLd h3) (ZHw h4 hP32) h4.2.2);exact ZcZ (λy=>(y,_)) (Zcg q)
  ·refine Yl (s1:=s) (c:=s.kc res ser) (out:=Xd g.P g.room x res ser (ZP level shard) 0 [] t) h hw hc ?_ hc rfl (λv O' fn caps h9 k9=>ZMm v g O' C xb L s _ who level shard (ZP level shard) (ZP level shard - 2 ^ level) (s.ws.getD (ZP level shard) 0) x res ser holds t fn caps h9 hc hL hw h2 rfl rfl rfl (Zcf q).symm k9 (ZLd h3) (ZHw h4 hP32) h4.2.2);exact ZcZ (λy=>(y,_)) (Zcf q)
 |split=>
  obtain⟨u,hu|hu⟩:∃u,s.ws.getD 0 0=2*u\/s.ws.getD 0 0=2*u+1:=⟨s.ws.getD 0 0 / 2,by omega⟩
  ·refine Yl (s1:=s) (c:=s.kc res ser) (out:=if u=4 then .fin (Yb 5) else .on (.splitS (2*u))) h hw hc ?_ hc rfl (λv O' fn caps h9 k9=>ZRV v g O' C xb L s who u (2*u) x res ser fn caps h9 hc hL hw ZB rfl hu k9);show(s.kc res ser,_)=_;have e0:(s.kc res ser).ld 0=2*u:=hu;rw[e0,Zcf ZB,show 2*u / 2=u by omega]
  ·refine Yl (s1:=s) (c:=s.kc res ser) (out:=.on (Xi u 0)) h hw hc ?_ hc rfl (λv O' fn caps h9 k9=>ZJs v g O' C xb L s who u (2*u+1) x res ser fn caps h9 hc hL hw ZB rfl hu k9);show(s.kc res ser,_)=_;have e0:(s.kc res ser).ld 0=2*u+1:=hu;rw[e0,Zcg ZB,show(2*u+1) / 2=u by omega]
 |splitS d0=>
  obtain⟨h1,h2⟩:=hk;by_cases q:s.ws.getD 0 0=d0
  ·obtain⟨lv,rfl⟩:∃lv,d0=2*lv:=⟨d0 / 2,by omega⟩;refine Yl (s1:={s with ws:=s.ws.set 0 (2*lv+1),hs:=s.hs.set 0 []}) (c:=(s.kc res ser).sw 0 (2*lv+1) []) (out:=.on (Xi lv 0)) h hw hc ?_ hc rfl (λv O' fn caps h9 k9=>ZPn v g O' C xb L s who lv (2*lv) x res ser fn caps h9 hc hL hw ZB rfl q k9);have e0:(s.kc res ser).ld 0=2*lv:=q;show(if (s.kc res ser).ld 0=2*lv then _ else _)=_;rw[Zcg e0,show 2*lv / 2=lv by omega]
  ·exact Yl (s1:=s) (c:=s.kc res ser) (out:=.on .split) h hw hc (Zcf q) hc rfl (λv O' fn caps h9 k9=>ZG4 v g O' C xb L s who (s.ws.getD 0 0) d0 x res ser fn caps h9 hc hL hw ZB rfl q k9)
 |moveEnd level=>
  have hl:level<=3:=hk;by_cases q:s.ws.getD 0 0=2*level+1
  ·refine Yl (s1:={s with ws:=s.ws.set 0 (2*level+2),hs:=s.hs.set 0 []}) (c:=(s.kc res ser).sw 0 (2*level+2) []) (out:=.fin (Yb 0)) h hw hc ?_ hc rfl (λv O' fn caps h9 k9=>ZDM v g O' C xb L s _ who level (s.ws.getD 0 0) x res ser fn caps h9 hc hL hw hl rfl (Zcg q).symm k9);exact ZcZ (λy=>(y,_)) (Zcg q)
  ·refine Yl (s1:=s) (c:=s.kc res ser) (out:=.fin (Yb 0)) h hw hc ?_ hc rfl (λv O' fn caps h9 k9=>ZDM v g O' C xb L s _ who level (s.ws.getD 0 0) x res ser fn caps h9 hc hL hw hl rfl (Zcf q).symm k9);exact ZcZ (λy=>(y,_)) (Zcf q)
 |mv word by_ stop t=>
  have hk:MOk g.P g.room N s.wh x res ser word by_ stop t:=hk;by_cases q:s.ws.getD word 0=stop
  ·cases t with
   |leave r=>obtain⟨rfl,m1,rfl,m3⟩:=hk;omega
   |gone j shards was n=>obtain⟨rfl,rfl,_⟩:=hk;omega
   |count f ce r=>
    obtain⟨rfl,rfl,rfl,_⟩:=hk;refine Yl (s1:=s) (c:=s.kc res ser) (out:=.fin (Yb 10)) h hw hc ?_ hc rfl (λv O' fn caps h9 k9=>ZNo v g O' C xb L s who (s.ws.getD 32 0) g.room x res ser f ce r fn caps h9 hc hL hw rfl q k9);exact ZcZ (Prod.mk _) (Zcg q)
   |serial f ce=>obtain⟨rfl,rfl,rfl,_⟩:=hk;have:=W.n33;have this:s.ws.getD 33 0<=N:=this;omega
  ·have hwd:word<34:=by
    cases t with
    |leave r=>have:=hk.1;omega
    |gone j shards was n=>have:=hk.1;omega
    |count f ce r=>have:=hk.1;omega
    |serial f ce=>have:=hk.1;omega
   refine Yl (s1:=s) (c:=s.kc res ser) (out:=.on (.mvS word by_ stop (s.ws.getD word 0) t)) h hw hc ?_ hc rfl (λv O' fn caps h9 k9=>ZTj v g O' C xb L s who (s.ws.getD word 0) word by_ stop x res ser t fn caps h9 hc hL hw hwd rfl q k9);show(s.kc res ser,_)=_;exact ZcZ (Prod.mk _) (Zcf q)
 |mvS word by_ stop v t=>
  have hk:MOk g.P g.room N s.wh x res ser word by_ stop t:=hk;by_cases q:s.ws.getD word 0=v
  ·cases t with
   |leave r=>
    obtain⟨rfl,m1,m2,m3⟩:=hk;exact Yl (s1:={s with ws:=s.ws.set 32 ((v+by_) % 18446744073709551616),hs:=s.hs.set 32 []}) (c:=(s.kc res ser).sw 32 ((v+by_) % 18446744073709551616) []) (out:=.fin r) h hw hc (Zcg q) hc rfl (λu O' fn caps h9 k9=>ZGJ u g O' C xb L s who by_ stop v x res ser (.leave r) (.fin r) fn caps h9 hc hL hw q k9 (λu X sv tf tc nn hX _ _ hm=>ZJh u X _ sv tf tc nn r hX hm) (λu X sv tf tc hm=>ZHe hm (.inl ⟨r,rfl⟩)))
   |gone j shards was n=>
    obtain⟨rfl,m1,m2,m3,m4,m5,m6,m7,m8⟩:=hk;exact Yl (s1:={s with ws:=s.ws.set 32 ((v+by_) % 18446744073709551616),hs:=s.hs.set 32 []}) (c:=(s.kc res ser).sw 32 ((v+by_) % 18446744073709551616) []) (out:=Zo j shards (was+n)) h hw hc (Zcg q) hc rfl (λu O' fn caps h9 k9=>ZGJ u g O' C xb L s who by_ stop v x res ser (.gone j shards was n) (Zo j shards (was+n)) fn caps h9 hc hL hw q k9 (λu X sv tf tc nn hX hxa hgr hm=>ZLE u X g who (xb who) x res ser sv tf tc nn was j shards n hX hxa hgr hm m3 m4 m5 ZB ZB) (λu X sv tf tc hm=>ZHe hm (.inr ⟨j,shards,was,n,rfl⟩)))
   |count f ce r=>
    obtain⟨rfl,rfl,m2,m3,m4,m5,m6⟩:=hk;exact Yl (s1:={s with ws:=s.ws.set 32 ((v+1) % 18446744073709551616),hs:=s.hs.set 32 []}.put who (.run x true ser (.mvS 32 1 stop v (.count f ce r)))) (c:={(s.kc res ser).sw 32 ((v+1) % 18446744073709551616) []with res:=true}) (out:=.on (.put f ce r)) h hw hc (Zcg q) (YD _ _ _) (ZJq _ _ _ _) (λu O' fn caps h9 k9=>ZNp u g O' C xb L s who v x res ser f ce r stop fn caps h9 hc hL hw q k9)
   |serial f ce=>
    obtain⟨rfl,rfl,rfl,m3,rfl,m4,rfl,m6⟩:=hk;have hv:s.ws.getD 33 0<=N:=W.n33;have hpl:=hx.2.2.1 ZB;have hkd:=hx.2.2.2.2 (.inl m3);have hce:=ZAn hPP hx ZB m4;have hpp:=ZFJ (ZDX hPP hpl.1) hkd
    refine Yl (s1:={s with ws:=s.ws.set 33 (v+1),hs:=s.hs.set 33 []}.put who (.run x res ((v+1:Nat):Int) (.mvS 33 1 4611686018427387903 v (.serial f (YV f.cells x.pol x.key))))) (c:={(s.kc res 0).sw 33 (v+1) []with ser:=((v+1:Nat):Int)}) (out:=.on (Jk g.room res f (ZAE (Zk g.P x.pol) (YV f.cells x.pol x.key) ((v+1:Nat):Int)).2 (ZAE (Zk g.P x.pol) (YV f.cells x.pol x.key) ((v+1:Nat):Int)).1)) h hw hc ?_ (YD _ _ _) (ZJq _ _ _ _) (λu O' fn caps h9 k9=>ZIZ u g O' C xb L s who v x res 0 f (YV f.cells x.pol x.key) fn caps h9 hc hL hw q ZB k9 ⟨hpp.1,hpp.2,by omega,hce.2.2.2.2.2.1⟩ (λhm=>by
     obtain⟨d,hd,hz⟩:=ZCj hm;have:=m4.ser d hd _ hz;have this:((v+1:Nat):Int)<=(s.ws.getD 33 0:Int):=this;omega) m6)
    have e0:(s.kc res 0).ld 33=v:=q;show(if (s.kc res 0).ld 33=v then _ else _)=_;rw[Zcg e0]
    dsimp only
    rw[show(v+1) % 18446744073709551616=v+1 by omega];rfl
  ·have hwd:word<34:=by
    cases t with
    |leave r=>have:=hk.1;omega
    |gone j shards was n=>have:=hk.1;omega
    |count f ce r=>have:=hk.1;omega
    |serial f ce=>have:=hk.1;omega
   exact Yl (s1:=s) (c:=s.kc res ser) (out:=.on (.mv word by_ stop t)) h hw hc (Zcf q) hc rfl (λu O' fn caps h9 k9=>ZLW u g O' C xb L s who (s.ws.getD word 0) word by_ stop v x res ser t fn caps h9 hc hL hw hwd rfl q k9)
 |put f ce r=>
  obtain⟨h1,h2,h3,h4⟩:=hk;obtain⟨a1,a2,a3,a4,a5⟩:=h2.same;have hpl:=hx.2.2.1 ZB;have JQ:f.at_<=f.cells.length:=by rw[h2.at_];exact ZIu _ _
  have hth:f.there=true->f.at_<f.cells.length:=λe=>by rw[h2.at_];exact ZId (by rw[<-h2.there];exact e)
  have CL:=λs1 hs1 (v:World) (O':Zdb) fn caps h9 k9=>ZNn v g O' C xb L s s1 who (s.ws.getD f.word 0) x res ser f ce r fn caps h9 hc hL hw ZB rfl hs1 hpl.1 hP32 ZB k9 JQ hth h2.ok.2.2 h3.ok.2.1;by_cases q:s.ws.getD f.word 0=f.v
  ·refine Yl (s1:={s with ws:=s.ws.set f.word (f.v+1),hs:=s.hs.set f.word (Xg f.cells f.at_ f.there ce)}) (c:=(s.kc res ser).sw f.word (f.v+1) (Xg f.cells f.at_ f.there ce)) h hw hc ?_ hc rfl (CL _ (Zcg q).symm);show(if s.ws.getD f.word 0=f.v then _ else _)=_;rw[Zcg q,Zcg q];rfl
  ·refine Yl (s1:=s) (c:=s.kc res ser) h hw hc ?_ hc rfl (CL _ (Zcf q).symm);show(if s.ws.getD f.word 0=f.v then _ else _)=_;rw[Zcf q,Zcf q]
 |peek ce=>
  obtain⟨h1,h2,h3⟩:=hk;have hp:=ZFK (ZDX hPP (hx.2.2.1 ZB).1) h2;exact Yl (s1:=s) (c:=s.kc res ser) h hw hc rfl hc rfl (λv O' fn caps h9 k9=>ZSh v g O' C xb L s who x res ser ce fn caps h9 hc hL hw hcl k9 h2 hp ⟨h3.2.2.2.1,h3.2.2.2.2.1⟩)
 |allow f ce=>
  obtain⟨h1,h2,rfl⟩:=hk;have hce:=ZAn hPP hx ZB h2;have ha:=hx.2.2.2.1 h1;exact Yl (s1:=s) (c:=s.kc res ser) h hw hc rfl hc rfl (λv O' fn caps h9 k9=>ZRW v g O' C xb L s who x res ser f _ fn caps h9 hc hL hw hcl k9 (ZFK (ZDX hPP (hx.2.2.1 ZB).1) ha.1) ⟨hce.2.2.2.1,hce.2.2.2.2.1⟩ ⟨ha.2.1,ha.2.2⟩)
 |evFirst=>exact Yl (s1:=s) (c:=s.kc res ser) h hw hc rfl hc rfl (λv O' fn caps h9 k9=>ZNq v g O' C xb L s who (s.ws.getD 0 0) x res ser fn caps h9 hc hL hw rfl d k9)
 |evScan j shards gone word v cells=>
  obtain⟨h1,h2,h3,h4,h5,h6,h7⟩:=hk;exact Yl (s1:=s) (c:=s.kc res ser) h hw hc rfl hc rfl (λu O' fn caps h9 k9=>ZPp u g O' C xb L s who j shards word v gone x res ser cells fn caps h9 hc hL hw hcl k9 h2 h3 h7 hP32)
 |evSwap j shards gone word v rest n=>
  obtain⟨h1,h2,h3,h4,h5,h6,h7,cells,⟨a1,a2,a3,a4,a5⟩,h8,h9,_⟩:=hk;have CL:=λs1 hs1 (u:World) (O':Zdb) fn caps h9 k9=>ZPo u g O' C xb L s s1 who j shards word v n (s.ws.getD word 0) gone x res ser rest fn caps h9 hc hL hw ZB rfl hs1 ZB k9 h2 h3 h6 h7;by_cases q:s.ws.getD word 0=v
  ·refine Yl (s1:={s with ws:=s.ws.set word (v+1),hs:=s.hs.set word rest}) (c:=(s.kc res ser).sw word (v+1) rest) h hw hc ?_ hc rfl (CL _ (Zcg q).symm);show(if s.ws.getD word 0=v then _ else _)=_;rw[Zcg q,Zcg q]
  ·refine Yl (s1:=s) (c:=s.kc res ser) h hw hc ?_ hc rfl (CL _ (Zcf q).symm);show(if s.ws.getD word 0=v then _ else _)=_;rw[Zcf q,Zcf q]
theorem ZRm (w:World)(g:YE)(O C:Zdb)(xb:Nat->Nat)(L:List Zf)(s:YF)(who:Nat){N M:Nat}{x:ZX}{res:Bool}{ser:Int}{k:YN}(h:YK w g O C xb L s)(hL:L.length<=100000)(hw:who<64)(hi:ZDF g.P g.room N M s)(hN:N+1<=4611686018427387903)(hP32:g.P.length<=32)(hPP:∀p ∈ g.P,Yd p)(hc:s.call who=.run x res ser k): Calls Tryz.prog 16 #[ZH g.gx,.int .i64 (who:Int)] w (ZCr w g O C xb L s who):=ZRl w g O C xb L s who h hL hw hi.i hN hP32 hPP (hi.count ZB) hc
theorem ZSr {g:YE}{s:YF}{who N M:Nat}{x:ZX}{res:Bool}{ser:Int}{k:YN}(hw:who<64)(hi:ZDF g.P g.room N M s)(hN:N+1<=4611686018427387903)(hP32:g.P.length<=32)(hPP:∀p ∈ g.P,Yd p)(hc:s.call who=.run x res ser k):ZKf g s who:=λw O C xb L h hL=>ZRm w g O C xb L s who h hL hw hi hN hP32 hPP hc
structure ZMO (P:List YR)(c:Z3):Prop where
 ok:Y3 P (JJ c)
 pol:c.pol<32
 key:c.key.length<=255
 byte:∀b ∈ c.key,b<256
 short:c.op<=3->c.key.length<=2
def ZKe (g:YE)(n:Nat)(J:ZX->YN->Prop)(R:YH->Prop):Prop:=∀(s:YF) (x:ZX) (res:Bool) (ser:Int) (k:YN),ZDQ (λid=>id.length<=3) s.wh->s.clk=0->s.call n=.run x res ser k->AK s.wh k->J x k-> (∀res' ser' k',(YA g.P g.room s n).1.call n=.run x res' ser' k'->J x k')/\∀r,(YA g.P g.room s n).2=some r->R r
abbrev G3 (id:List Nat):Prop:=id.length<=3
theorem ZQk {g:YE}{a:DSt}{n N M:Nat}{x:ZX}{res:Bool}{ser:Int}{k:YN}{l:LSt}{s:JS}{c:Z3}(hn:n<63)(hP32:g.P.length<=32)(hPP:∀p ∈ g.P,Yd p)(hN:N+1<=4611686018427387903)(hM:M+1<=5000)(h:ZDF g.P g.room N M a.ks)(hc:a.ks.call n=.run x res ser k)(ha:AK a.ks.wh k)(hl:a.ls n=l)(hlc:l.cn=some s)(hrel:l.rel=false)(hi:ZBk s)(hw:s.wr.length<=1000000)(hled:s.led.length<=100000 - 1)(ho:s.out=some c): (ZFA g n a ⟨(YA g.P g.room a.ks n).1,Z5 a.ls n l,a.dr⟩/\∃res' ser' k',(YA g.P g.room a.ks n).1.call n=.run x res' ser' k'/\AK (YA g.P g.room a.ks n).1.wh k'/\mu k'<mu k)\/ ∃r,ZBc r/\(YA g.P g.room a.ks n).2=some r/\ZFA g n a ⟨(YA g.P g.room a.ks n).1,Z5 a.ls n (Xh l r),a.dr⟩/\(YA g.P g.room a.ks n).1.call n=.idle/\JI (YA g.P g.room a.ks n).1.wh:=by
 have ok:=ZSr (who:=n) ZB h hN hP32 hPP hc;rcases ZMH h hc ha with⟨res',ser',k',e1,e2,e3,e4⟩|⟨r,e1,e2,e3⟩
 ·refine .inl ⟨?_,res',ser',k',e2,e3,e4⟩;rw[<-hl,ZQu];exact ZQl hn ok e1
 ·have hr:=(ZHh hPP hN hM ZB h hc).2 r e1;refine .inr ⟨r,hr,e1,?_,e2,e3⟩;subst hl;exact ZOn hn ok e1 hrel hlc hi hw hled ho hr
structure LB (ks:YF)(l:LSt)(n:Nat)(cs:List Z3)(rs:List YH)(s:JS):Prop where
 l:l=⟨some s,1,Jq rs,false,[],false⟩
 i:ZBk s
 closed:s.closed=false
 hung:s.hung=false
 wr:s.wr=[]
 led:s.led.length<=rs.length
 keys:∀t ∈ s.led,t.key.length<=255
def BPh (J:ZX->YN->Prop)(ks:YF)(n:Nat)(cs:List Z3)(s:JS)(m:Nat):Prop:=(s.out=none/\s.line=cs/\ks.call n=.idle/\JI ks.wh/\m=99*cs.length)\/ ∃c cs' x res ser k,s.out=some c/\cs=c::cs'/\s.line=cs'/\ks.call n=.run x res ser k/\AK ks.wh k/\(x.op<=3->G3 x.id)/\J x k/\m=99*cs'.length+mu k
structure BAt (J:ZX->YN->Prop)(R:YH->Prop)(g:YE)(n:Nat)(a:DSt)(t:Nat)(cs:List Z3)(rs:List YH)(e m:Nat):Prop where
 all:ZDF g.P g.room (1+t) t a.ks
 ids:ZDQ G3 a.ks.wh
 clk:a.ks.clk=0
 idle:∀i,i≠n->a.ks.call i=.idle
 dr:a.dr=false
 ln:∃s,LB a.ks (a.ls n) n cs rs s/\s.fin=e/\BPh J a.ks n cs s m
 fit:∀c ∈ cs,ZMO g.P c/\J (JJ c) (Xz (JJ c))
 reps:∀r ∈ rs,ZBc r/\R r
 small:t+m<=4000/\rs.length+cs.length<=30
theorem ZKw {ks:YF}{l:LSt}{n:Nat}{cs cs':List Z3}{rs:List YH}{s:JS}{c:Z3}{r:YH}(h:LB ks l n cs rs s)(ho:s.out=some c)(hk:c.key.length<=255)(hr:ZBc r)(ks':YF): ∃s',Jo (Xh l r)=⟨some s',1,Jq (rs++[r]),false,[],false⟩/\LB ks' (Jo (Xh l r)) n cs' (rs++[r]) s'/\s'.fin=s.fin/\s'.out=none/\s'.line=s.line/\(∃s2,(Xh l r).cn=some s2/\s2.wr.length<=1000000):=by
 have hB:∀x ∈ Xn r,x<256:=ZPD (ZBM hr);have h34:=ZFH (ZBM hr);obtain⟨s2,hs2⟩:=ZTz (JG s c (r.er:Int) r.ser (Xn r));have hw:s2.wr=XK (Xn r).length++Xn r/\s2.fin=s.fin/\s2.out=none/\s2.line=s.line/\s2.closed=false/\s2.hung=false/\s2.led.length<=rs.length+1/\∀t ∈ s2.led,t.key.length<=255:=by
  subst hs2;have e:Ju s 0 (Xn r)={s with wr:=s.wr++(XK (Xn r).length++Xn r)}:=Zcg ⟨rfl,h.hung⟩;have hl:=h.led;unfold JG;rw[e,h.wr];have k0:=h.keys
  split
  ·split
   ·refine⟨rfl,rfl,rfl,rfl,h.closed,h.hung,by show(s.led++[_]).length<=_;rw[Za9];simp;omega,λt ht=>?_⟩;rcases ZbI.1 ht with ht|ht
    ·exact k0 t ht
    ·rw[ZbU]at ht;subst ht;exact hk
   ·split
    ·refine⟨rfl,rfl,rfl,rfl,h.closed,h.hung,?_,λt ht=>?_⟩
     ·dsimp only
      split
      ·omega
      ·next i _=>have:=List.length_eraseIdx_le s.led i;omega
     ·dsimp only at ht
      split at ht
      ·exact k0 t ht
      ·exact k0 t (ZbQ ht)
    ·exact⟨rfl,rfl,rfl,rfl,h.closed,h.hung,by show s.led.length<=_;omega,k0⟩
  ·exact⟨rfl,rfl,rfl,rfl,h.closed,h.hung,by show s.led.length<=_;omega,k0⟩
 have hinv:ZBk s2:=by rw[<-hs2];exact ZIm h.i ho _ _ hB
 have hrl:Xh l r={l with cn:=some s2}:=by
  rw[h.l];unfold Xh
  dsimp only
  rw[ho]
  dsimp only
  rw[hs2]
 have ht:Jo (Xh l r)=⟨some {s2 with wr:=[]},1,Jq (rs++[r]),false,[],false⟩:=by
  rw[hrl,ZGT,<-hw.1];rw[h.l];rfl
 refine⟨{s2 with wr:=[]},ht,⟨ht,ZOO hinv,hw.2.2.2.2.1,hw.2.2.2.2.2.1,rfl,by rw[Za9];exact hw.2.2.2.2.2.2.1,hw.2.2.2.2.2.2.2⟩,hw.2.1,hw.2.2.1,hw.2.2.2.1,s2,by rw[hrl],?_⟩;rw[hw.1,Za9,h34];have e4:(XK 34).length=4:=rfl;omega
theorem ZO1 {ks:YF}{l:LSt}{n:Nat}{cs cs':List Z3}{rs:List YH}{s:JS}(h:LB ks l n cs rs s)(ks':YF):Jo l=l/\LB ks' l n cs' rs s:=by
 refine⟨?_,h.l,h.i,h.closed,h.hung,h.wr,h.led,h.keys⟩;rw[h.l];unfold Jo
 dsimp only
 rw[h.wr,Zag];have e:{s with wr:=[]}=s:=by rw[<-h.wr]
 rw[e]
theorem ZSF {J:ZX->YN->Prop}{R:YH->Prop}{g:YE}{n:Nat}{a a1:DSt}{t:Nat}{c:Z3}{cs:List Z3}{rs:List YH}{e:Nat}{x:ZX}{res:Bool}{ser:Int}{k:YN}{s:JS}(hn:n<63)(hP32:g.P.length<=32)(hPP:∀p ∈ g.P,Yd p)(all:ZDF g.P g.room (1+t) t a1.ks)(ids:ZDQ G3 a1.ks.wh)(clk:a1.ks.clk=0)(idle:∀i,i≠n->a1.ks.call i=.idle)(dr:a1.dr=false)(hlb:LB a1.ks (a1.ls n) n (c::cs) rs s)(hfin:s.fin=e)(ho:s.out=some c)(hli:s.line=cs)(hc:a1.ks.call n=.run x res ser k)(ha:AK a1.ks.wh k)(hx:x.op<=3->G3 x.id)(hJ:J x k)(PS:ZKe g n J R)(fit:∀d ∈ c::cs,ZMO g.P d/\J (JJ d) (Xz (JJ d)))(reps:∀r ∈ rs,ZBc r/\R r)(small:t+(99*cs.length+mu k)<=4000)(sm2:rs.length+(c::cs).length<=30)(hls:∀l,Z5 a1.ls n l=Z5 a.ls n l)(hdr:a1.dr=a.dr): ∃ks' l' s',ZFA g n a1 ⟨ks',Z5 a1.ls n l',a1.dr⟩/\l'.cn=some s'/\l'.wr.length<=1000000/\s'.wr.length<=1000000/\ ∃cs' rs' m',BAt J R g n ⟨ks',Z5 a.ls n (Jo l'),a.dr⟩ (t+1) cs' rs' e m'/\m'<99*cs.length+mu k/\rs'.length+cs'.length=rs.length+(c::cs).length/\(m'=0->True):=by
 have st:=ZHh (room:=g.room) hPP (by omega:(1+t)+1<=4611686018427387903) (by omega:t+1<=5000) (by omega:n<64) all hc;have hK:ZDF g.P g.room (1+(t+1)) (t+1) (YA g.P g.room a1.ks n).1:=by
  have:=ZRX k;have q:=st.1;refine⟨?_,q.t,?_⟩
  ·have:=q.i.mono (N':=1+(t+1)) (M':=t+1) ZB ZB;exact this
  ·have:=q.q;rwa [show 1+t+1=1+(t+1) by omega]at this
 have mp:=ZSf (all.i.run n x res ser k hc).kont;have ps:=PS a1.ks x res ser k ids clk hc ha hJ;have hI:=ZPx (G:=G3) all hc hx ids;obtain⟨hk1,hk2⟩:=ZKt (P:=g.P) (room:=g.room) hc;have hwl:(Jq rs).length<=900000:=by rw[ZB3 (λr hr=>(reps r hr).1)];simp at sm2;omega
 have hlw:(a1.ls n).wr.length<=900000:=by rw[hlb.l];exact hwl
 have hl1:(a1.ls n).cn=some s:=by rw[hlb.l]
 have hl2:(a1.ls n).rel=false:=by rw[hlb.l]
 have hidle:∀i,i≠n->(YA g.P g.room a1.ks n).1.call i=.idle:=λi hi=>by rw[hk2 i hi];exact idle i hi
 have hclk:(YA g.P g.room a1.ks n).1.clk=0:=by rw[hk1];exact clk
 have hled:s.led.length<=100000 - 1:=by have:=hlb.led;simp at sm2;omega
 rcases ZQk hn hP32 hPP ZB ZB all hc ha rfl hl1 hl2 hlb.i (by rw[hlb.wr];show 0<=1000000;omega) hled ho with⟨ac,res',ser',k',e2,e3,e4⟩|⟨r,hr,e1,ac,e2,e3⟩
 ·obtain⟨t1,t2⟩:=ZO1 (cs':=c::cs) hlb (YA g.P g.room a1.ks n).1;refine⟨_,a1.ls n,s,ac,hl1,by omega,by rw[hlb.wr];show 0<=1000000;omega,c::cs,rs,99*cs.length+mu k',⟨hK,hI,hclk,hidle,by rw[<-hdr];exact dr,⟨s,?_,hfin,.inr ⟨c,cs,x,res',ser',k',ho,rfl,hli,e2,e3,hx,ps.1 _ _ _ e2,rfl⟩⟩,fit,reps,by omega,sm2⟩,by omega,rfl,λ_=>trivial⟩;show LB _ (Z5 a.ls n (Jo (a1.ls n)) n) n _ _ _;rw[Zt,t1];exact t2
 ·obtain⟨s',t1,t2,t3,t4,t5,s2,t6,t7⟩:=ZKw (cs':=cs) hlb ho (fit c ZbL).1.key hr (YA g.P g.room a1.ks n).1;have hwr:(Xh (a1.ls n) r).wr.length<=1000000:=by
   rw[hlb.l];unfold Xh
   dsimp only
   rw[ho];show(Jq rs).length<=1000000;omega
  have sm3:rs.length+cs.length+1<=30:=by simp at sm2;omega
  refine⟨_,_,s2,ac,t6,hwr,t7,cs,rs++[r],99*cs.length,⟨hK,hI,hclk,hidle,by rw[<-hdr];exact dr,⟨s',?_,t3.trans hfin,.inl ⟨t4,t5.trans hli,e2,e3,rfl⟩⟩,λd hd=>fit d (ZbK _ hd),λq hq=>?_,by omega,by rw[Za9];simp;omega⟩,?_,by rw[Za9];simp;omega,λ_=>trivial⟩
  ·show LB _ (Z5 a.ls n (Jo (Xh (a1.ls n) r)) n) n _ _ _;rw[Zt];exact t2
  ·rcases ZbI.1 hq with hq|hq
   ·exact reps q hq
   ·rw[ZbU]at hq;subst hq;exact⟨hr,ps.2 _ e1⟩
  ·omega
theorem ZPy {s:YF}{n:Nat}(h:s.call n=.idle)(c:ZBS)(i:Nat)(hi:i≠n)(hs:s.call i=.idle):(s.put n c).call i=.idle:=by
 rw[YC _ _ hi];exact hs
theorem ZQd {J:ZX->YN->Prop}{R:YH->Prop}{g:YE}{n:Nat}{a:DSt}{t:Nat}{cs:List Z3}{rs:List YH}{e m:Nat}(hn:n<63)(hP32:g.P.length<=32)(hPP:∀p ∈ g.P,Yd p)(PS:ZKe g n J R)(h:BAt J R g n a t cs rs e m)(hne:cs≠[]): ∃b cs' rs' m',ZGo g n a b/\BAt J R g n b (t+1) cs' rs' e m'/\m'<m/\rs'.length+cs'.length=rs.length+cs.length/\∀i,i≠n->b.ls i=a.ls i:=by
 obtain⟨s,hlb,hfin,hph⟩:=h.ln;have hst:(a.ls n).st=1:=by rw[hlb.l]
 have hcn:(a.ls n).cn=some s:=by rw[hlb.l]
 rcases hph with⟨ho,hli,hid,hev,hm⟩|⟨c,cs2,x,res,ser,k,ho,hcs,hli,hc,ha,hx,hJ,hm⟩
 ·cases cs with
  |nil=>exact absurd rfl hne
  |cons c cs2=>
   obtain⟨hf,hj⟩:=h.fit c ZbL;have hg3:(JJ c).op<=3->G3 (JJ c).id:=λho=>by show(c.pol::c.key).length<=3;rw[ZbA];have:=hf.short ho;omega
   have fa:=ZRv (s:=a.ks.wh) (JJ c) hev;have hs0:=ZJK (g:=g) (n:=n) (ks:=a.ks) (x:=JJ c) hid ZB hP32 hPP hf.ok hf.pol hf.key hf.byte;have hlb1:LB (ZFk a.ks n (JJ c)) (Z5 a.ls n {a.ls n with cn:=some {s with line:=cs2,out:=some c}} n) n (c::cs2) rs {s with line:=cs2,out:=some c}:=by
    rw[Zt];exact⟨by rw[hlb.l],ZOP hlb.i hli,hlb.closed,hlb.hung,hlb.wr,hlb.led,hlb.keys⟩
   have sm:=h.small;have hm2:m=99*cs2.length+99:=by rw[hm,ZbA];omega
   obtain⟨ks',l',s',ac,h1,h2,h3,cs',rs',m',hb,hlt,hlen,-⟩:=ZSF (g:=g) (n:=n) (a:=a) (a1:=⟨ZFk a.ks n (JJ c),Z5 a.ls n {a.ls n with cn:=some {s with line:=cs2,out:=some c}},a.dr⟩) (t:=t) (e:=e) hn hP32 hPP (ZLV ZB h.all hf.ok hid) h.ids h.clk (λi hi=>ZPy hid _ i hi (h.idle i hi)) h.dr hlb1 hfin rfl rfl (YD _ _ _) fa.1 hg3 hj PS h.fit h.reps (by have:=fa.2;omega) sm.2 (λl=>ZBH _ _ _ _) rfl;have ac2:ZFA g n ⟨ZFk a.ks n (JJ c),Z5 a.ls n {a.ls n with cn:=some {s with line:=cs2,out:=some c}},a.dr⟩ ⟨ks',Z5 a.ls n l',a.dr⟩:=by
    have:=ac
    rwa [ZBH]at this
   refine⟨_,cs',rs',m',ZJJ hn (by rw[hid];rfl) hst hcn ho hlb.closed hli hf.key hs0 ac2 h1 h2 h3,hb,?_,hlen,λi hi=>Zx _ _ hi⟩;have:=fa.2;omega
 ·subst hcs;have sm:=h.small;obtain⟨ks',l',s',ac,h1,h2,h3,cs',rs',m',hb,hlt,hlen,-⟩:=ZSF (g:=g) (n:=n) (a:=a) (a1:=a) (t:=t) (e:=e) hn hP32 hPP h.all h.ids h.clk h.idle h.dr hlb hfin ho hli hc ha hx hJ PS h.fit h.reps ZB sm.2 (λ_=>rfl) rfl;exact⟨_,cs',rs',m',ZJI hn (by rw[hc];rfl) ac h1 h2 h3,hb,by omega,hlen,λi hi=>Zx _ _ hi⟩
theorem ZNB (l:LSt)(s:JS):Jo (ZGQ {l with cn:=some s})={l with cn:=some {ZEw {s with wr:=[]} with wr:=[]},wr:=l.wr++s.wr,st:=2}:=by
 unfold ZGQ Jo;show({l with cn:=some _,wr:=(l.wr++s.wr)++[],st:=2}:LSt)=_;rw[Zag]
structure ZS4 (R:YH->Prop)(g:YE)(n:Nat)(a:DSt)(t:Nat)(rs:List YH):Prop where
 all:ZDF g.P g.room (1+t) t a.ks
 ids:ZDQ G3 a.ks.wh
 clk:a.ks.clk=0
 idle:∀i,a.ks.call i=.idle
 ev:JI a.ks.wh
 dr:a.dr=false
 small:t<=4000
 reps:∀r ∈ rs,ZBc r/\R r
 wr:(a.ls n).wr=Jq rs
theorem BAt.at_end {J:ZX->YN->Prop}{R:YH->Prop}{g:YE}{n:Nat}{a:DSt}{t:Nat}{rs:List YH}{e m:Nat}(h:BAt J R g n a t [] rs e m):ZS4 R g n a t rs/\m=0/\∃s,LB a.ks (a.ls n) n [] rs s/\s.fin=e/\s.out=none/\s.line=[]:=by
 obtain⟨s,hlb,hfin,hph⟩:=h.ln;rcases hph with⟨ho,hli,hid,hev,hm⟩|⟨c,cs2,x,res,ser,k,ho,hcs,-⟩
 ·refine⟨⟨h.all,h.ids,h.clk,λi=>?_,hev,h.dr,by have:=h.small;omega,h.reps,by rw[hlb.l]⟩,hm,s,hlb,hfin,ho,hli⟩;by_cases q:i=n
  ·rw[q];exact hid
  ·exact h.idle i q
 ·cases hcs
def ZHI (n:Nat)(a:DSt):Bool:=decide ((a.ls n).st≠1)
theorem ZTJ {J:ZX->YN->Prop}{R:YH->Prop}{g:YE}{n:Nat}(hn:n<63)(hP32:g.P.length<=32)(hPP:∀p ∈ g.P,Yd p)(PS:ZKe g n J R):∀(m:Nat) {a:DSt} {t:Nat} {cs:List Z3} {rs:List YH} {e:Nat},BAt J R g n a t cs rs e m->e≠0->e<=16->R (Yb e)-> ∃k b t' rs',ZI2 g n (ZHI n) k a b/\k<=m+1/\t'<=t+m/\ZS4 R g n b t' (rs'++[Yb e])/\(b.ls n).st=2/\rs'.length=rs.length+cs.length/\∀i,i≠n->b.ls i=a.ls i:=by
 intro m
 induction m using Nat.strongRecOn with
 |ind m ih=>
  intro a t cs rs e h he he16 hR;have hst:(a.ls n).st=1:=by obtain⟨s,hlb,-⟩:=h.ln;rw[hlb.l]
  have h0:ZHI n a=false:=Zca (λq=>q hst);cases cs with
  |nil=>
   obtain⟨hE,hm,s,hlb,hfin,ho,hli⟩:=h.at_end;have sp:=ZIG (g:=g) (n:=n) (a:=a) (s:=s) hn (by rw[hE.idle];rfl) hst (by rw[hlb.l]) ho hlb.closed hlb.hung hli (by rw[hfin];exact he) (by rw[hfin];exact he16) (by rw[hlb.wr];show 0<=90000;omega) (by rw[hlb.l];show(Jq rs).length<=900000;rw[ZB3 (λr hr=>(h.reps r hr).1)];have:=h.small.2;omega) (by have:=hlb.led;have:=h.small.2;omega) (λq hq=>Zb2 (hlb.keys q hq) ZB);rw[ZNB]at sp;refine⟨1,_,t,rs,.step h0 (ZFR hn ZB sp) (.done ?_),by omega,by omega,⟨hE.all,hE.ids,hE.clk,hE.idle,hE.ev,hE.dr,hE.small,λq hq=>?_,?_⟩,?_,rfl,λi hi=>Zx _ _ hi⟩
   ·show decide ((Z5 a.ls n _ n).st≠1)=true;rw[Zt];rfl
   ·rcases ZbI.1 hq with hq|hq
    ·exact h.reps q hq
    ·rw[ZbU]at hq;subst hq;exact⟨ZA8 he16,hR⟩
   ·show(Z5 a.ls n _ n).wr=_;rw[Zt,ZGT];show(a.ls n).wr++(s.wr++(XK (Xn (Yb s.fin)).length++Xn (Yb s.fin)))=_;rw[hlb.wr,hlb.l,hfin];rfl
   ·show(Z5 a.ls n _ n).st=2;rw[Zt]
  |cons c cs2=>
   obtain⟨b,cs',rs',m',st,hb,hlt,hlen,hoth⟩:=ZQd hn hP32 hPP PS h ZTv;obtain⟨k,d,t',rs2,h1,h2,h2',h3,h4,h5,h6⟩:=ih m' hlt hb he he16 hR;exact⟨k+1,d,t',rs2,.step h0 (ZFR hn ZB st) h1,by omega,by omega,h3,h4,by omega,λi hi=>(h6 i hi).trans (hoth i hi)⟩
def ZHH (n:Nat)(a:DSt):Bool:=decide ((a.ls n).wr≠[])
theorem ZTK {J:ZX->YN->Prop}{R:YH->Prop}{g:YE}{n:Nat}(hn:n<63)(hP32:g.P.length<=32)(hPP:∀p ∈ g.P,Yd p)(PS:ZKe g n J R):∀(m:Nat) {a:DSt} {t:Nat} {c:Z3} {e:Nat},BAt J R g n a t [c] [] e m-> ∃k b t' r,ZI2 g n (ZHH n) k a b/\k<=m/\ZS4 R g n b t' [r]/\∀i,i≠n->b.ls i=a.ls i:=by
 intro m
 induction m using Nat.strongRecOn with
 |ind m ih=>
  intro a t c e h;have hwr:(a.ls n).wr=[]:=by obtain⟨s,hlb,-⟩:=h.ln;rw[hlb.l];rfl
  have hst:(a.ls n).st=1:=by obtain⟨s,hlb,-⟩:=h.ln;rw[hlb.l]
  have h0:ZHH n a=false:=Zca (λq=>q hwr);obtain⟨b,cs',rs',m',st,hb,hlt,hlen,hoth⟩:=ZQd hn hP32 hPP PS h ZTv
  match cs',rs',hb,hlen with
  |[],[r],hb,_=>
   obtain⟨hE,-,s,hlb,-⟩:=hb.at_end;refine⟨1,b,_,r,.step h0 (ZFR hn ZB st) (.done (Zcb (λq=>?_))),by omega,hE,hoth⟩;have q2:=ZB3 (rs:=[r]) (λx hx=>(hE.reps x hx).1);rw[<-hE.wr,q]at q2;cases q2
  |[c'],[],hb,_=>
   obtain⟨k,d,t',r,h1,h2,h3,h6⟩:=ih m' hlt hb;exact⟨k+1,d,t',r,.step h0 (ZFR hn ZB st) h1,by omega,h3,λi hi=>(h6 i hi).trans (hoth i hi)⟩
  |[],[],_,hl=>exact absurd hl (by simp only[ZbA,ZbE];omega)
  |[],_::_::_,_,hl=>exact absurd hl (by simp only[ZbA,ZbE];omega)
  |[_],_::_,_,hl=>exact absurd hl (by simp only[ZbA,ZbE];omega)
  |_::_::_,_,_,hl=>exact absurd hl (by simp only[ZbA,ZbE];omega)
def PT:List YR:=[⟨1,10,20,0⟩,⟨2,0,0,2⟩]
theorem ZR9:∀p ∈ PT,Yd p:=λp hp=>by
 simp only[PT,ZbJ,ZbX,or_false]at hp;rcases hp with rfl|rfl
 ·exact .inl ⟨rfl,by decide,by decide,by decide,by decide⟩
 ·exact .inr ⟨rfl,by decide,by decide⟩
def ZFC (c:Z3):List Nat:=Yt c.op c.pol c.key c.num
def ZBj (c:Z3):Prop:=ZA6 c.op c.pol c.key c.num
theorem ZIE:∀(cs l:List Z3) (more:List (List Nat)),(∀c ∈ cs,ZBj c)->Yz l (cs.map ZFC++more)=Yz (l++cs) more
 |[],l,more,_=>by rw[List.map_nil,ZbV,Zag]
 |c::cs,l,more,h=>by
  rw[ZbH,Zaj]
  rw[show Yz l (ZFC c::(cs.map ZFC++more))=(match ZB4 (ZFC c)with
   |some c=>Yz (l++[c]) (cs.map ZFC++more)
   |none=>(l,true))from rfl]
  rw[show ZB4 (ZFC c)=some c from ZRi (h c ZbL)]
  dsimp only
  rw[ZIE cs (l++[c]) more (λd hd=>h d (ZbK _ hd)),Zae];rfl
theorem ZFi:∀(cs:List Z3) (tl:List Nat),(∀c ∈ cs,ZBj c)->Zy (cs.flatMap Zp++tl)=(cs.map ZFC++(Zy tl).1,(Zy tl).2.1,(Zy tl).2.2)
 |[],tl,_=>rfl
 |c::cs,tl,h=>by
  obtain⟨-,l1,l2,-⟩:=ZHc (h c ZbL);have ih:=ZFi cs tl (λd hd=>h d (ZbK _ hd));have e:(c::cs).flatMap Zp++tl=XK (ZFC c).length++(ZFC c++(cs.flatMap Zp++tl)):=by
   rw[Zat];simp[Zp,ZFC,Zae]
  rw[e,ZEW (ZFC c) _ l1 (by unfold ZFC;omega),ih];rfl
def ZIx (tl:List Nat)(e:Nat):Prop:=(e=12/\∃rest,tl=[0,0,0,0]++rest)\/(e=3/\∃bad rest,tl=XK bad.length++bad++rest/\1<=bad.length/\bad.length<=4096/\¬ZCq bad)
theorem ZKs {tl:List Nat}{e:Nat}(h:ZIx tl e):(e=12/\(Zy tl).1=[]/\(Zy tl).2.2=true)\/(e=3/\∃bad more,(Zy tl).1=bad::more/\ZB4 bad=none):=by
 rcases h with⟨rfl,rest,rfl⟩|⟨rfl,bad,rest,rfl,h1,h2,h3⟩
 ·have q:=ZIS 0 rest ZB (.inl rfl);have e:([0,0,0,0]:List Nat)++rest=XK 0++rest:=rfl;rw[e,q];exact .inl ⟨rfl,rfl,rfl⟩
 ·rw[Zae,ZEW bad rest h1 h2];refine .inr ⟨rfl,bad,_,rfl,?_⟩;cases hd:ZB4 bad with
  |none=>rfl
  |some c=>
   exfalso;unfold ZB4 at hd
   split at hd
   ·next q=>obtain⟨c',q1,q2⟩:=q;exact h3 ⟨c'.op,c'.pol,c'.key,c'.num,q1,q2⟩
   ·cases hd
theorem ZSP {cs:List Z3}{tl:List Nat}{e:Nat}(h:∀c ∈ cs,ZBj c)(ht:ZIx tl e): (ZD6 ZA5 (cs.flatMap Zp++tl)).line=cs/\(ZD6 ZA5 (cs.flatMap Zp++tl)).fin=e:=by
 have p:=ZFi cs tl h;have hr:=ZIE cs [] (Zy tl).1 h;rw[ZbV]at hr;unfold ZD6
 dsimp only
 rw[show ZA5.line=[]from rfl,p]
 dsimp only
 rw[hr];rcases ZKs ht with⟨rfl,q1,q2⟩|⟨rfl,bad,more,q1,q2⟩
 ·rw[q1];refine⟨rfl,?_⟩;show(if (Yz cs []).2=true then 3 else ZIf _)=12;rw[show(Yz cs []).2=false from rfl,Zcf (by decide)];unfold ZIf;rw[p];exact Zcg q2
 ·rw[q1];have e1:Yz cs (bad::more)=(cs,true):=by
   rw[show Yz cs (bad::more)=(match ZB4 bad with
    |some c=>Yz (cs++[c]) more
    |none=>(cs,true))from rfl,q2]
  rw[e1];exact⟨rfl,Zcg rfl⟩
theorem ZQ1 {c:Z3}(h:ZBj c):(ZD6 ZA5 (Zp c)).line=[c]/\(ZD6 ZA5 (Zp c)).fin=0:=by
 have p:=ZFi [c] [] (λd hd=>by rw[ZbU]at hd;rw[hd];exact h);have e:[c].flatMap Zp++[]=Zp c:=by simp
 rw[e,ZHV,Zag]at p;have hr:=ZIE [c] [] [] (λd hd=>by rw[ZbU]at hd;rw[hd];exact h);rw[Zag]at hr;unfold ZD6
 dsimp only
 rw[show ZA5.line=[]from rfl,p]
 dsimp only
 rw[hr];refine⟨rfl,?_⟩;show(if (Yz [c] []).2=true then 3 else ZIf _)=0;rw[show(Yz [c] []).2=false from rfl,Zcf (by decide)];unfold ZIf;rw[p];rfl
def ZIj:DSt:=⟨JY,Z5 (Z5 (λ_=>lnZ) 0 ZEs) 1 ZEs,false⟩
theorem ZPl (i:Nat):JY.hs.getD i []=[]:=by
 show(List.replicate 34 []).getD i []=[];rw[Zau,Za3]
 split<;>rfl
def Ji:Z3:=⟨4,0,[122,122,122],0⟩
theorem ZEV:ZBj Ji:=⟨⟨by decide,by decide,λ_=>⟨by decide,by decide⟩,(λe=>absurd e (by decide)),(λe=>absurd e (by decide))⟩,by decide,(λe=>absurd e (by decide)),λ_=>rfl⟩
def Jp (x:ZX):YN->Prop
 |.find _ .begin=>x=JJ Ji
 |.enter _ _ .begin=>x=JJ Ji
 |.peek c=>x=JJ Ji/\c=⟨0,[122,122,122],0,[]⟩
 |_=>False
def Rp (r:YH):Prop:=r.er=0/\r.left=3
theorem ZKu {P:List YR}{room who:Nat}{s:YF}{x:ZX}{res:Bool}{ser:Int}{k:YN}{c:KC}{out:Zn}(hc:s.call who=.run x res ser k)(e:Yk P room x (s.kc res ser) k=(c,out)): (∀res' ser' k',(YA P room s who).1.call who=.run x res' ser' k'->out=.on k')/\∀r,(YA P room s who).2=some r->out=.fin r:=by
 unfold YA;rw[hc]
 dsimp only
 rw[e];cases out with
 |on k'=>
  refine⟨λa b d h=>?_,λr h=>by cases h⟩
  dsimp only at h
  rw[YD]at h;cases h;rfl
 |fin r=>
  refine⟨λa b d h=>?_,λq h=>?_⟩
  ·dsimp only at h;rw[YD]at h;cases h
  ·cases h;rfl
theorem ZNP {g:YE}(hgP:g.P=PT)(n:Nat):ZKe g n Jp Rp:=λs x res ser k ids clk hc ha hJ=>by
 cases k with
 |find sum t=>
  cases t with
  |evict=>exact hJ.elim
  |begin=>
   have h2:s.ws.getD 0 0 % 2=0:=ha
   obtain⟨a1,a2⟩:=ZKu (P:=g.P) (room:=g.room) hc (show Yk g.P g.room x (s.kc res ser) (.find sum .begin)=(s.kc res ser,.on (.enter sum (ZP (s.ws.getD 0 0 / 2) sum) .begin))from by
    show(s.kc res ser,if s.ws.getD 0 0 % 2=0 then _ else _)=_;rw[Zcg h2];rfl)
   refine⟨λr2 s2 k2 e=>?_,λr e=>(by have:=a2 r e;cases this)⟩;have q:=a1 _ _ _ e;cases q;exact hJ
 |enter sum word t=>
  cases t with
  |evict=>exact hJ.elim
  |begin=>
   have hx:x=JJ Ji:=hJ;subst hx;obtain⟨a1,a2⟩:=ZKu (P:=g.P) (room:=g.room) hc (show Yk g.P g.room (JJ Ji) (s.kc res ser) (.enter sum word .begin)=(s.kc res ser,Yh g.P g.room (JJ Ji) res ser sum word (s.ws.getD word 0) (s.hs.getD word []) .begin)from rfl);have hn:YV (s.hs.getD word []) 0 [122,122,122]=⟨0,[122,122,122],0,[]⟩:=by
    cases hh:ZAD (s.hs.getD word []) (0::[122,122,122])with
    |false=>exact ZB5 hh
    |true=>
     obtain⟨c,h1,h3⟩:=ZD4 hh;have:=ids word c (ZbO h1);rw[h3]at this;exact absurd this (by decide)
   have q:Yh g.P g.room (JJ Ji) res ser sum word (s.ws.getD word 0) (s.hs.getD word []) .begin=.on (.find sum .begin)\/Yh g.P g.room (JJ Ji) res ser sum word (s.ws.getD word 0) (s.hs.getD word []) .begin=.on (.peek ⟨0,[122,122,122],0,[]⟩):=by
    unfold Yh
    split
    ·exact .inl rfl
    ·right;show ZAr g.P g.room (JJ Ji) res ser word (s.ws.getD word 0) (s.hs.getD word [])=_;unfold ZAr
     dsimp only
     rw[Zcf (by decide),Zcf (by decide),Zcf (by decide),hgP,Zcf (by decide)];show Zn.on (.peek (YV (s.hs.getD word []) 0 [122,122,122]))=_;rw[hn]
   refine⟨λr2 s2 k2 e=>?_,λr e=>?_⟩
   ·have e2:=a1 _ _ _ e;rcases q with q|q<;>(rw[q]at e2;cases e2)
    ·exact rfl
    ·exact⟨rfl,rfl⟩
   ·have e2:=a2 _ e;rcases q with q|q<;>(rw[q]at e2;cases e2)
 |peek c=>
  obtain⟨rfl,rfl⟩:=hJ;obtain⟨a1,a2⟩:=ZKu (P:=g.P) (room:=g.room) hc (show Yk g.P g.room (JJ Ji) (s.kc res ser) (.peek ⟨0,[122,122,122],0,[]⟩)=(s.kc res ser,.fin (ZF9 (Zk g.P 0) ⟨0,[122,122,122],0,[]⟩ s.clk))from rfl);refine⟨λr2 s2 k2 e=>(by have:=a1 _ _ _ e;cases this),λr e=>?_⟩;have e2:=a2 _ e;cases e2;rw[hgP,clk];exact⟨rfl,rfl⟩
 |_=>exact hJ.elim
theorem ZHq {c:Z3}(h:ZBj c):(Zp c).length<=1004/\∀x ∈ Zp c,x<256:=by
 obtain⟨-,-,l2,l3⟩:=ZHc h;refine⟨?_,λx hx=>?_⟩
 ·unfold Zp;rw[Za9];have:(XK (Yt c.op c.pol c.key c.num).length).length=4:=rfl;omega
 ·unfold Zp at hx;rcases ZbI.1 hx with hx|hx
  ·exact ZFM _ x hx
  ·exact l3 x hx
theorem ZDb:∀{cs:List Z3},(∀c ∈ cs,ZBj c)->(cs.flatMap Zp).length<=1004*cs.length/\∀x ∈ cs.flatMap Zp,x<256
 |[],_=>⟨Zb0 _,λx hx=>by cases hx⟩
 |c::cs,h=>by
  have a:=ZHq (h c ZbL);have b:=ZDb (λd hd=>h d (ZbK c hd));rw[Zat];refine⟨by rw[Za9,ZbA];omega,λx hx=>?_⟩;rcases ZbI.1 hx with hx|hx
  ·exact a.2 x hx
  ·exact b.2 x hx
theorem ZEq (xs:List Nat):(Zy xs).1.length<=xs.length:=by have:=(ZBW (xs.length+1) xs ZB).1;omega
theorem ZL9 {g:YE}(hgP:g.P=PT){cs:List Z3}(hc:cs.length<=20)(hn:∀c ∈ cs,ZBj c/\ZMO PT c){tl:List Nat}{e:Nat}(ht:ZIx tl e)(htl:tl.length<=400)(hb:∀x ∈ tl,x<256): ∃a3,ZEk g 0 (cs.flatMap Zp++tl) ZIj a3/\(a3.ls 0).st=1/\∃k b rs,k<=99*cs.length+1/\ZI2 g 0 (ZHI 0) k a3 b/\(b.ls 0).st=2/\b.dr=false/\(b.ls 0).wr=Jq (rs++[Yb e])/\rs.length=cs.length/\(∀r ∈ rs++[Yb e],ZBc r)/\ ∃a5,ZEk g 1 (Zp Ji) b a5/\∃k2 d r,k2<=99/\ZI2 g 1 (ZHH 1) k2 a5 d/\(d.ls 1).wr=Jq [r]/\ZBc r/\r.er=0/\r.left=3:=by
 have he:e≠0/\e<=16:=by rcases ht with⟨rfl,-⟩|⟨rfl,-⟩<;>omega
 have fl:=ZDb (λc hc=>(hn c hc).1);have hxl:(cs.flatMap Zp++tl).length<=30000:=by rw[Za9];omega
 have hxb:∀x ∈ cs.flatMap Zp++tl,x<256:=λx hx=>(ZbI.1 hx).elim (fl.2 x) (hb x);have fd:=ZSP (λc hc=>(hn c hc).1) ht;have hP32:g.P.length<=32:=by rw[hgP];decide
 have hPP:∀p ∈ g.P,Yd p:=by rw[hgP];exact ZR9
 obtain⟨s3,hs3⟩:=ZTz (ZD6 ZA5 (cs.flatMap Zp++tl));have i3:ZBk s3:=by rw[<-hs3];exact ZKK ZC8 hxb
 rw[hs3]at fd;have o3:s3.out=none/\s3.closed=false/\s3.hung=false/\s3.wr=[]/\s3.led=[]:=by rw[<-hs3];exact⟨rfl,rfl,rfl,rfl,rfl⟩
 have F1:ZEk g 0 (cs.flatMap Zp++tl) ZIj ⟨JY,Z5 ZIj.ls 0 ⟨some s3,1,[],false,[],false⟩,false⟩:=by
  have:=ZMs (g:=g) (n:=0) (a:=ZIj) (s:=ZA5) (xs:=cs.flatMap Zp++tl) ZB rfl rfl rfl ZC8 rfl rfl rfl hxb (by show 0+_<=_;omega) (by
   have:=ZEq (cs.flatMap Zp++tl);show 0+(Zy (cs.flatMap Zp++tl)).1.length<=1000000;omega)
  rw[show ZA5.ws++(cs.flatMap Zp++tl)=cs.flatMap Zp++tl from rfl,hs3]at this;exact this
 have B0:BAt (λ_ _=>True) (λ_=>True) g 0 ⟨JY,Z5 ZIj.ls 0 ⟨some s3,1,[],false,[],false⟩,false⟩ 0 cs [] e (99*cs.length):=by
  refine⟨ZNm g.P g.room,λi c hc=>?_,rfl,λi _=>rfl,rfl,⟨s3,⟨(show Z5 ZIj.ls 0 ⟨some s3,1,[],false,[],false⟩ 0=⟨some s3,1,[],false,[],false⟩from Zt _ _ _),i3,o3.2.1,o3.2.2.1,o3.2.2.2.1,by rw[o3.2.2.2.2];exact Zb0 _,λt ht=>(by rw[o3.2.2.2.2]at ht;cases ht)⟩,fd.2,.inl ⟨o3.1,fd.1,rfl,rfl,rfl⟩⟩,λc hc=>⟨by rw[hgP];exact(hn c hc).2,trivial⟩,λr hr=>(by cases hr),by omega,by show 0+cs.length<=30;omega⟩;have hc:c ∈ JY.hs.getD i []:=hc;rw[ZPl]at hc;cases hc
 obtain⟨k,b,t',rs,h1,h2,h2',h3,h4,h5,h6⟩:=ZTJ ZB hP32 hPP (λ_ _ _ _ _ _ _ _ _ _=>⟨λ_ _ _ _=>trivial,λ_ _=>trivial⟩) _ B0 he.1 he.2 trivial;have hb1:b.ls 1=ZEs:=(h6 1 ZB).trans rfl;refine⟨_,F1,(show(Z5 ZIj.ls 0 ⟨some s3,1,[],false,[],false⟩ 0).st=1 by rw[Zt]),k,b,rs,h2,h1,h4,h3.dr,h3.wr,by simpa using h5,λr hr=>(h3.reps r hr).1,?_⟩;have pf:=ZQ1 ZEV;have pl:=ZHq ZEV;obtain⟨s5,hs5⟩:=ZTz (ZD6 ZA5 (Zp Ji));have i5:ZBk s5:=by rw[<-hs5];exact ZKK ZC8 pl.2
 rw[hs5]at pf;have o5:s5.out=none/\s5.closed=false/\s5.hung=false/\s5.wr=[]/\s5.led=[]:=by rw[<-hs5];exact⟨rfl,rfl,rfl,rfl,rfl⟩
 have F2:ZEk g 1 (Zp Ji) b ⟨b.ks,Z5 b.ls 1 ⟨some s5,1,[],false,[],false⟩,b.dr⟩:=by
  have:=ZMs (g:=g) (n:=1) (a:=b) (s:=ZA5) (xs:=Zp Ji) ZB (by rw[hb1];rfl) h3.dr (by rw[hb1];rfl) ZC8 rfl rfl rfl pl.2 (by show 0+_<=_;omega) (by
   have:=ZEq (Zp Ji);show 0+(Zy (Zp Ji)).1.length<=1000000;omega)
  rw[hb1,show ZA5.ws++Zp Ji=Zp Ji from rfl,hs5]at this;exact this
 have ft:ZMO PT Ji:=⟨⟨by decide,by decide,λ_=>⟨by decide,by decide,by decide⟩,(λe=>absurd e (by decide)),(λe=>absurd e (by decide))⟩,by decide,by decide,by decide,λe=>absurd e (by decide)⟩;have B1:BAt Jp Rp g 1 ⟨b.ks,Z5 b.ls 1 ⟨some s5,1,[],false,[],false⟩,b.dr⟩ t' [Ji] [] 0 99:=by
  refine⟨h3.all,h3.ids,h3.clk,λi _=>h3.idle i,h3.dr,⟨s5,⟨(show Z5 b.ls 1 ⟨some s5,1,[],false,[],false⟩ 1=⟨some s5,1,[],false,[],false⟩from Zt _ _ _),i5,o5.2.1,o5.2.2.1,o5.2.2.2.1,by rw[o5.2.2.2.2];exact Zb0 _,λt ht=>(by rw[o5.2.2.2.2]at ht;cases ht)⟩,pf.2,.inl ⟨o5.1,pf.1,h3.idle 1,h3.ev,rfl⟩⟩,λc hc=>?_,λr hr=>(by cases hr),by omega,by decide⟩;rw[ZbU]at hc;subst hc;exact⟨by rw[hgP];exact ft,rfl⟩
 obtain⟨k2,d,t2,r,g1,g2,g3,-⟩:=ZTK ZB hP32 hPP (ZNP hgP 1) _ B1;have gr:=g3.reps r ZbL;exact⟨_,F2,k2,d,r,g2,g1,g3.wr,gr.1,gr.2.1,gr.2.2⟩
structure ZTY (op:Nat)(p:Int)(xs:List Nat)(N:Int):Prop where
 rng:1<=op/\op<=6
 pol:p=0\/p=1
 allow:op=1->p=0/\0<=N/\N<=4611686018427387903
 sema:op=2\/op=3->p=1
 key:xs.length<=2
 byte:∀b ∈ xs,b<256
theorem ZC7 {op pol num:Nat}{key:List Nat}(h1:1<=op)(h6:op<=6)(hk:key.length<=2)(hb:∀b ∈ key,b<256)(hp:pol<=1)(ha:op=1->pol=0/\num<=4611686018427387903)(hs:op=2\/op=3->pol=1):ZMO PT ⟨op,pol,key,num⟩:=by
 refine⟨⟨h1,h6,λ_=>⟨?_,?_,hb⟩,λq=>?_,λq=>?_⟩,Zb4 hp (by decide),Zb2 hk (by decide),hb,λ_=>hk⟩
 ·exact Zb4 hp (by decide)
 ·exact Zb2 hk (by decide)
 ·obtain⟨a,b⟩:=ha q;refine⟨?_,?_,?_⟩
  ·show(Zk PT pol).kind=1;rw[a];rfl
  ·exact Int.natCast_nonneg _
  ·exact Int.ofNat_le.2 b
 ·show(Zk PT pol).kind=2;rw[hs q];rfl
theorem ZRY {p:Int}{P:Nat}(h:p=0\/p=1)(e:p=(P:Int)):P<=1:=by omega
theorem ZP9 {op:Nat}{p N:Int}{xs:List Nat}{L:List Nat}(h:ZTY op p xs N)(hF:ZTX op p xs N (some L)):∃c:Z3,ZBj c/\ZMO PT c/\L=Zp c:=by
 rcases hF with⟨h1,-⟩|⟨P,M,h1,h2,h3,h4⟩
 ·cases h1
 ·injection h4 with h4;subst h4;obtain⟨g1,g2,g3,g4,hk,hb⟩:=h;have key255:xs.length<=255:=Zb2 hk (by decide);have c6:op=1\/op=2\/op=3\/op=4\/op=5\/op=6:=by clear g3 g4 h1 h2 h3;omega
  clear g1;rcases c6 with rfl|rfl|rfl|rfl|rfl|rfl
  ·have e:=h1 (by decide);have r:=h3.2.2.2.1 rfl;have g:=g3 rfl;have p0:P=0:=by clear g3 g4 h1 h2 h3;omega
   subst p0;exact⟨⟨1,0,xs,M⟩,ZPX (p:=0) (by decide) key255 r hb,ZC7 (by decide) (by decide) hk hb (by decide) (λ_=>⟨rfl,r⟩) (λe=>absurd e (by decide)),(by simp only[Zp])⟩
  ·have e:=h1 (by decide);have g:=g4 (.inl rfl);have p0:P=1:=by clear g3 g4 h1 h2 h3;omega
   subst p0;exact⟨⟨2,1,xs,0⟩,ZIX (p:=1) (.inl rfl) (by decide) key255 hb,ZC7 (by decide) (by decide) hk hb (by decide) (λe=>absurd e (by decide)) (λ_=>rfl),(by simp[Zp,Yt])⟩
  ·have e:=h1 (by decide);have g:=g4 (.inr rfl);have p0:P=1:=by clear g3 g4 h1 h2 h3;omega
   subst p0;have r:=h3.2.2.2.2 rfl;exact⟨⟨3,1,xs,M⟩,⟨h3,hb,λe=>absurd e (show ¬5<=3 by decide),λe=>absurd e (show ¬(3=2\/3=4) by decide)⟩,ZC7 (by decide) (by decide) hk hb (by decide) (λe=>absurd e (by decide)) (λ_=>rfl),(by simp only[Zp])⟩
  ·have e:=h1 (by decide);have hp:=ZRY g2 e;exact⟨⟨4,P,xs,0⟩,ZIX (.inr rfl) (Zb4 hp (by decide)) key255 hb,ZC7 (by decide) (by decide) hk hb hp (λe=>absurd e (by decide)) (λe=>absurd e (by decide)),(by simp[Zp,Yt])⟩
  ·exact⟨⟨5,0,[],0⟩,ZIW (.inl rfl),ZC7 (by decide) (by decide) (by decide) (λb hb=>by cases hb) (by decide) (λe=>absurd e (by decide)) (λe=>absurd e (by decide)),(by simp[Zp,Yt])⟩
  ·exact⟨⟨6,0,[],0⟩,ZIW (.inr rfl),ZC7 (by decide) (by decide) (by decide) (λb hb=>by cases hb) (by decide) (λe=>absurd e (by decide)) (λe=>absurd e (by decide)),(by simp[Zp,Yt])⟩
theorem ZO2 (w:World):Calls Tryz.prog 8 #[] w λe w'=>∃b,e=.returned (.slice (some ⟨b,0,none⟩) 2 2)/\Rd w' (some ⟨b,0,none⟩) (ZAI PT)/\ZL w w':=by
 go_enter Tryz.func8,Tryz.ntmps8;go_wp2_with fail;go_ret;exact⟨_,rfl,ZAU w (ZAI PT) _ rfl,(ZL.refl w).alloc _⟩
def ZTs (op:Nat)(p N:Int)(K:Option Addr)(kl kc:Nat)(w:World)(e:Ending)(w':World):Prop:=∃(q:Nat) (p' N':Int) (m:Nat),e=.returned (.agg #[.int .u8 0,.int .i64 0,.int .u8 (q:Int),.int .i64 p',.slice K m kc,.int .i64 N',.int .i64 0])/\m=min kl 2/\(1<=q/\q<=6)/\(p'=0\/p'=1)/\(q=1->p'=0/\0<=N'/\N'<=4611686018427387903)/\(q=2\/q=3->p'=1)/\ZL w w'
theorem ZAq (u:World)(o1 o2:Obj):((u.alloc o1).alloc o2).heap[u.heap.size+1]?=some o2:=Zd _ _ ZTv
theorem ZRe {w v:World}{x5 x6 r0 r1 r2 r3 r4 r5 r6:Value}(h:ZL w v)(h0:w.heap.size<=w.heap.size)(h1:w.heap.size<=w.heap.size+1):ZL w (((((((((v.setCell ⟨w.heap.size,5,none⟩ x5).setCell ⟨w.heap.size,6,none⟩ x6).setCell ⟨w.heap.size+1,0,none⟩ r0).setCell ⟨w.heap.size+1,1,none⟩ r1).setCell ⟨w.heap.size+1,2,none⟩ r2).setCell ⟨w.heap.size+1,3,none⟩ r3).setCell ⟨w.heap.size+1,4,none⟩ r4).setCell ⟨w.heap.size+1,5,none⟩ r5).setCell ⟨w.heap.size+1,6,none⟩ r6):=(((((((((h.setCell (p:=⟨w.heap.size,5,none⟩) h0 _).setCell (p:=⟨w.heap.size,6,none⟩) h0 _).setCell (p:=⟨w.heap.size+1,0,none⟩) h1 _).setCell (p:=⟨w.heap.size+1,1,none⟩) h1 _).setCell (p:=⟨w.heap.size+1,2,none⟩) h1 _).setCell (p:=⟨w.heap.size+1,3,none⟩) h1 _).setCell (p:=⟨w.heap.size+1,4,none⟩) h1 _).setCell (p:=⟨w.heap.size+1,5,none⟩) h1 _).setCell (p:=⟨w.heap.size+1,6,none⟩) h1 _)
theorem ZSn (w:World)(op:Nat)(hop:op<256)(p N:Int)(K:Option Addr)(kl kc:Nat)(hk:kl<=kc)(hN:N<=9223372036854775807): Calls Tryz.prog 10 #[.agg #[.int .u8 0,.int .i64 0,.int .u8 (op:Int),.int .i64 p,.slice K kl kc,.int .i64 N,.int .i64 0]] w (ZTs op p N K kl kc w):=by
 obtain⟨q,Hq⟩:∃q:Nat,ZD ((if 1<=op/\op<=6 then op else 1+op % 6)=q):=⟨_,ZA rfl⟩;have q6:1<=q/\q<=6:=by
  rw[<-Hq.o]
  split
  ·assumption
  ·omega
 obtain⟨m,Hm⟩:∃m:Nat,ZD (m=min kl 2):=⟨_,ZA rfl⟩;have emin:min (kl:Int) 2=(m:Int):=by have:=Hm.o;omega
 have hm1:(0:Int)<=(m:Int):=by omega
 have hm2:¬(kc:Int)<(m:Int):=by have:=Hm.o;omega
 have hm3:(m:Int)<=(kc:Int):=by omega
 have CL:=ZA (λw=>ZK5 N w hN);go_enter Tryz.func10,Tryz.ntmps10;go_upto_region 3 with fail
 go_cut [23] (λv wd=>v=.bool (decide (¬(1<=op/\op<=6)))/\wd=((w.alloc (.cells #[.int .u8 0,.int .i64 0,.int .u8 (op:Int),.int .i64 p,.slice K kl kc,.int .i64 N,.int .i64 0] 36)).alloc (.cells #[.int .u8 0,.int .i64 0,.int .u8 0,.int .i64 0,.slice none 0 0,.int .i64 0,.int .i64 0] 36)))
 case first=>
  by_cases h1:op<1
  ·have d1:decide ((op:Int)<1)=true:=Zcb ZB;go_wp2_with fail
   go_meet
   exact⟨by rw[Zcb (p:=¬(1<=op/\op<=6)) ZB],rfl⟩
  ·have d1:decide ((op:Int)<1)=false:=Zca ZB;by_cases h6:op<=6
   ·have d2:decide (6<(op:Int))=false:=Zca ZB;go_wp2_with fail
    go_meet
    exact⟨by rw[Zca (p:=¬(1<=op/\op<=6)) ZB],rfl⟩
   ·have d2:decide (6<(op:Int))=true:=Zcb ZB;go_wp2_with fail
    go_meet
    exact⟨by rw[Zcb (p:=¬(1<=op/\op<=6)) ZB],rfl⟩
 case rest=>
  obtain⟨rfl,rfl⟩:=hcut;obtain⟨bb,Hbb⟩:=ZTy (decide (¬(1<=op/\op<=6)));rw[Hbb.o]
  go_upto_if 23 with fail
  go_cut [] (λwd=>wd=((w.alloc (.cells #[.int .u8 0,.int .i64 0,.int .u8 (q:Int),.int .i64 p,.slice K kl kc,.int .i64 N,.int .i64 0] 36)).alloc (.cells #[.int .u8 0,.int .i64 0,.int .u8 0,.int .i64 0,.slice none 0 0,.int .i64 0,.int .i64 0] 36)))
  case first=>
   cases bb with
   |false=>
    go_wp2_with fail
    go_meet
    have h:=of_decide_eq_false Hbb.o;have e:op=q:=by have:=Hq.o;rw[Zcg (Decidable.not_not.1 h)]at this;exact this
    rw[e]
   |true=>
    go_wp2_with fail
    go_meet
    have h:=Zcj Hbb.o;have e:1+op % 6=q:=by have:=Hq.o;rw[Zcf h]at this;exact this
    have ev:1+(op:Int) % 6=(q:Int):=by omega
    rw[ev]
  case rest=>
   subst hcut;have:q=1\/q=2\/q=3\/q=4\/q=5\/q=6:=by omega
   rcases this with rfl|rfl|rfl|rfl|rfl|rfl
   ·go_wp2_with fail;refine(CL.o _).mono ?_;rintro e w1 ⟨rfl,hx⟩;have k0:=ZJ (ZR (ZM w _) _) hx;have k1:=ZJ (ZAq w _ _) hx;have a0:=ZTx k0 0 (.int .u8 0);have z0:=ZF k0 0;have b0:=ZTx k1 0 (.int .u8 0);have y0:=ZF k1 0;have a1:=ZTx k0 1 (.int .i64 0);have z1:=ZF k0 1;have b1:=ZTx k1 1 (.int .i64 0);have y1:=ZF k1 1;have a2:=ZTx k0 2 (.int .u8 1);have z2:=ZF k0 2;have b2:=ZTx k1 2 (.int .u8 0);have y2:=ZF k1 2;have a3:=ZTx k0 3 (.int .i64 0);have z3:=ZF k0 3;have b3:=ZTx k1 3 (.int .i64 0);have y3:=ZF k1 3;have a4:=ZTx k0 4 (.slice K m kc);have z4:=ZF k0 4;have b4:=ZTx k1 4 (.slice none 0 0);have y4:=ZF k1 4;have a5:=ZTx k0 5 (.int .i64 N);have z5:=ZF k0 5;have b5:=ZTx k1 5 (.int .i64 0);have y5:=ZF k1 5;have a6:=ZTx k0 6 (.int .i64 0);have z6:=ZF k0 6;have b6:=ZTx k1 6 (.int .i64 0);have y6:=ZF k1 6;have HX:=ZA ((((ZL.refl w).alloc _).alloc _).trans hx);obtain⟨N',HN'⟩:=ZTy (min (max N 0) 4611686018427387903);rw[HN'.o];have K1:=ZA k1;clear k0 k1 hx;go_wp2_with fail;refine ZcY (Zck (p:=2) rfl _ _ (w.heap.size+1) _ #[.int .u8 0,.int .i64 0,.int .u8 1,.int .i64 0,.slice K m kc,.int .i64 N',.int .i64 0] (0,0) _ rfl (Yf (ZA1 (ZA1 K1.o ZB) ZB) _ _ _ _ _ _ _) Tryz.underlying36 ZTw ZC) rfl ?_;have hN':=HN'.o;exact⟨1,0,N',m,rfl,Hm.o,by omega,.inl rfl,λ_=>⟨rfl,by omega,by omega⟩,λe=>by omega,ZRe HX.o ZB ZB⟩
   ·go_wp2_with fail;refine ZcY (Zck (p:=2) rfl _ _ (w.heap.size+1) _ #[.int .u8 0,.int .i64 0,.int .u8 2,.int .i64 1,.slice K m kc,.int .i64 N,.int .i64 0] (0,0) _ rfl (ZAq w _ _) Tryz.underlying36 ZTw ZC) rfl ?_;exact⟨2,1,N,m,rfl,Hm.o,by omega,.inr rfl,λe=>by omega,λ_=>rfl,((ZL.refl w).alloc _).alloc _⟩
   ·go_wp2_with fail;refine ZcY (Zck (p:=2) rfl _ _ (w.heap.size+1) _ #[.int .u8 0,.int .i64 0,.int .u8 3,.int .i64 1,.slice K m kc,.int .i64 N,.int .i64 0] (0,0) _ rfl (ZAq w _ _) Tryz.underlying36 ZTw ZC) rfl ?_;exact⟨3,1,N,m,rfl,Hm.o,by omega,.inr rfl,λe=>by omega,λ_=>rfl,((ZL.refl w).alloc _).alloc _⟩
   ·by_cases ho:p.tmod 2=0
    ·have hb:(p.tmod 2 !=0)=false:=by rw[ho];rfl
     go_wp2_with fail;refine ZcY (Zck (p:=2) rfl _ _ (w.heap.size+1) _ #[.int .u8 0,.int .i64 0,.int .u8 4,.int .i64 0,.slice K m kc,.int .i64 N,.int .i64 0] (0,0) _ rfl (ZAq w _ _) Tryz.underlying36 ZTw ZC) rfl ?_;exact⟨4,0,N,m,rfl,Hm.o,by omega,.inl rfl,λe=>by omega,λe=>by omega,((ZL.refl w).alloc _).alloc _⟩
    ·have hb:(p.tmod 2 !=0)=true:=by rw[bne_iff_ne];exact ho
     go_wp2_with fail;refine ZcY (Zck (p:=2) rfl _ _ (w.heap.size+1) _ #[.int .u8 0,.int .i64 0,.int .u8 4,.int .i64 1,.slice K m kc,.int .i64 N,.int .i64 0] (0,0) _ rfl (ZAq w _ _) Tryz.underlying36 ZTw ZC) rfl ?_;exact⟨4,1,N,m,rfl,Hm.o,by omega,.inr rfl,λe=>by omega,λe=>by omega,((ZL.refl w).alloc _).alloc _⟩
   ·go_wp2_with fail;refine ZcY (Zck (p:=2) rfl _ _ (w.heap.size+1) _ #[.int .u8 0,.int .i64 0,.int .u8 5,.int .i64 0,.slice K m kc,.int .i64 N,.int .i64 0] (0,0) _ rfl (ZAq w _ _) Tryz.underlying36 ZTw ZC) rfl ?_;exact⟨5,0,N,m,rfl,Hm.o,by omega,.inl rfl,λe=>by omega,λe=>by omega,((ZL.refl w).alloc _).alloc _⟩
   ·go_wp2_with fail;refine ZcY (Zck (p:=2) rfl _ _ (w.heap.size+1) _ #[.int .u8 0,.int .i64 0,.int .u8 6,.int .i64 0,.slice K m kc,.int .i64 N,.int .i64 0] (0,0) _ rfl (ZAq w _ _) Tryz.underlying36 ZTw ZC) rfl ?_;exact⟨6,0,N,m,rfl,Hm.o,by omega,.inl rfl,λe=>by omega,λe=>by omega,((ZL.refl w).alloc _).alloc _⟩
theorem ZHW:∀{rs:List YH},(∀r ∈ rs,ZBc r)->Zy (Jq rs)=(rs.map Xn,[],false)
 |[],_=>ZHV
 |r::rs,h=>by
  have h34:=ZFH (ZBM (h r ZbL));have ih:=ZHW (λq hq=>h q (ZbK _ hq));have e:Jq (r::rs)=XK (Xn r).length++(Xn r++Jq rs):=by
   unfold Jq;rw[Zat,Zae]
  rw[e,ZEW (Xn r) (Jq rs) ZB ZB,ih];rfl
theorem ZSm {rs:List YH}(h:∀r ∈ rs,ZBc r):∀x ∈ Jq rs,x<256:=λx hx=>by
 obtain⟨r,hr,hx⟩:=ZbM.1 hx;rcases ZbI.1 hx with hx|hx
 ·exact ZFM _ x hx
 ·exact ZPD (ZBM (h r hr)) x hx
def ZHP (rs:List YH):List Value:=rs.flatMap λr=>(ZDx r).toList
theorem ZFs (rs:List YH)(r:YH):ZHP (rs++[r])=ZHP rs++(ZDx r).toList:=by
 unfold ZHP;rw[Zas];simp
theorem ZQ4:(Tryz.prog.info? 39).map (λi=>(i.zero,i.size,i.bytes))=some (some (.agg #[.int .i64 0,.bool false,.int .i64 0,.int .i64 0,.int .i64 0,.int .i64 0]),6,48):=by kernel_rfl
theorem ZSv {ops:Array Oper}{rest:List Oper}{o:Oper}{a:Act}{Q:Exit->Act->World->Prop}(w:World)(hgd:o.guard=none)(s x:Operand)(ho:o.op=.call {callee:=.builtin .append,args:=#[s,x],argTypes:=#[97,97]})(base:Nat){B:Option Addr}{n cb:Nat}{xs:List Value}(hs:a.eval s=.slice B n cb)(hown:w.ownsRow base 39 6 (.slice B n cb) n xs){A:Option Addr}{c:Nat}{r:YH}(hx:a.eval x=.slice A 1 c)(hr:Rd w A (ZDx r).toList)(hb:n<=100000)(hbase:base<=w.heap.size)(h:∀B' cb' w',w'.ownsRow base 39 6 (.slice B' (n+1) cb') (n+1) (xs++(ZDx r).toList)->w.grownBy w' (Value.slice B n cb).ownBlock-> ((Value.slice B' (n+1) cb').ownBlock=(Value.slice B n cb).ownBlock\/(Value.slice B' (n+1) cb').ownBlock=some w.heap.size)->wpList Tryz.prog ops Q rest (a.put o.dst (.slice B' (n+1) cb')) w'): wpList Tryz.prog ops Q (o::rest) a w:=by
 obtain⟨i0,hi,hz0,hz1,hz2⟩:=Zch ZQ4;exact Yv w hgd s x 97 ho base 39 Tryz.underlying97 hi hz0 hz1 hz2 rfl (by decide) hs hown hx (m:=1) (news:=(ZDx r).toList) rfl hr (by intro v hv;simp[ZDx]at hv;rcases hv with rfl|rfl|rfl|rfl|rfl|rfl<;>rfl) (by unfold maxLen;omega) ZB hbase h
def ZQp (rs:List YH)(w:World)(e:Ending)(w':World):Prop:=∃B c,e=.returned (.tuple #[.slice B rs.length c,.bool true])/\w'.ownsRow w.heap.size 39 6 (.slice B rs.length c) rs.length (ZHP rs)/\ZL w w'
theorem ZFt (w:World)(base gd:Nat)(g:YE)(N n:Nat)(a:DSt)(F:Zdb)(rs:List YH)(h:Xw w base gd g N a F)(hn:n<63)(hwr:(a.ls n).wr=Jq rs)(hrs:∀r ∈ rs,ZBc r)(hl:rs.length<=1000): Calls Tryz.prog 24 #[ZH gd,.int .i64 (n:Int)] w (ZQp rs w):=by
 obtain⟨xs,Hxs⟩:=ZTy (Jq rs);have hpar:=ZHW hrs;have hxl:=ZB3 hrs;have hxb:=ZSm hrs;rw[Hxs.o]at hwr hpar hxl hxb;obtain⟨m,Hm⟩:=ZTy (xs.length);have hm:m<=100000:=by rw[<-Hm.o,hxl];omega
 have OT:=ZA (λu (y:ZL w u)=>(h.ext y).out_ (m:=m) hn (by rw[hwr];exact Hm.o) ZB);rw[hwr]at OT;have HP:=ZA hpar;have HXB:=ZA hxb;have HRS:=ZA hrs;obtain⟨q,Hq⟩:=ZTy (rs.length);rw[Hq.o]at hl;clear h hwr hpar hxl hxb hrs;go_enter Tryz.func24,Tryz.ntmps24;go_wp2_with fail;refine(OT.o w (ZL.refl w)).mono ?_;rintro e w1 ⟨A1,c1,rfl,ho1,x1⟩;have FR:=ZLn w1 A1 m c1 xs Hm.o (Ys ho1) HXB.o (Rd.of_own ho1) ZB;unfold ZEJ at FR;rw[HP.o]at FR
 dsimp only at FR
 rw[ZbE,Nat.sub_zero,Hm.o]at FR;have FRh:=ZA FR;have X1:=ZA x1;clear FR ho1 x1;go_wp2_with fail;refine FRh.o.mono ?_;rintro e w2 ⟨B,k,d,rfl,hPL,x2⟩;have hkq:k=q:=by
  have:=hPL.1;rw[List.length_map,Hq.o]at this;exact this.symm
 subst hkq;obtain⟨hpl,vs,gs,hov,-,-,-,hall⟩:=hPL;have RV:=ZA (Y9 hov);have HA:=ZA hall;have X2:=ZA (X1.o.trans x2);clear hov hall x2 FRh hpl;go_wp2_with fail;refine(OT.o w2 X2.o).mono ?_;rintro e w3 ⟨A3,c3,rfl,-,x3⟩;have X3:=ZA (X2.o.trans x3);have X23:=ZA x3;clear x3;go_wp2_with fail
 go_loopw [9,33] (λv9 i wr=>∃(j:Nat) (B2:Option Addr) (cb:Nat),j<=k/\i=.int .i64 (j:Int)/\v9=.slice B2 j cb/\wr.ownsRow w3.heap.size 39 6 (.slice B2 j cb) j (ZHP (rs.take j))/\ZL w3 wr) (λ_ i _=>k - (intOf i).toNat)
 case atStart=>exact⟨0,none,0,ZcL _,rfl,rfl,ZcU _ _ _ _,ZL.refl w3⟩
 case round=>
  obtain⟨j,B2,cb,hj,rfl,rfl,ho,hx⟩:=hrel;have HO:=ZA ho;have HX:=ZA hx;clear ho hx;by_cases hlt:j<k
  ·have hji:(j:Int)<(k:Int):=by omega
   have hix:(0:Int)<=(j:Int)/\(j:Int)<(k:Int):=⟨by omega,by omega⟩;obtain⟨r,hr⟩:∃r,rs[j]?=some r:=⟨_,Zaz (by rw[Hq.o];exact hlt)⟩;obtain⟨hr1,⟨hr2,hr3⟩,⟨hr4,hr5⟩,⟨hr6,hr7⟩,hr8,hr9⟩:=HRS.o r (ZbO hr);obtain⟨gq,ci,-,hvq,hoq⟩:=HA.o j (Xn r) (by rw[Za1,hr];rfl);have h34:(Xn r).length=34:=ZFH (ZBM ⟨hr1,⟨hr2,hr3⟩,⟨hr4,hr5⟩,⟨hr6,hr7⟩,hr8,hr9⟩);rw[h34]at hvq hoq;obtain⟨bf,of,hB,hcell⟩:=RV.o (λe=>by rw[e]at hvq;simp at hvq);have d0:=ZG (X23.o.trans HX.o) (hcell j _ hvq);subst hB;have RR:=ZA (ZK2 wr (some ⟨gq,0,none⟩) 34 ci r.er r.left.toNat r.wait.toNat r.ser.toNat r.now.toNat r.granted rfl (Ys hoq) hr1 ZB ZB ZB ZB ((Rd.of_own hoq).ext (X23.o.trans HX.o)));have t1:((r.left.toNat:Nat):Int)=r.left:=ZaZ hr2;have t2:((r.wait.toNat:Nat):Int)=r.wait:=ZaZ hr4;have t3:((r.ser.toNat:Nat):Int)=r.ser:=ZaZ hr6;have t4:((r.now.toNat:Nat):Int)=r.now:=ZaZ hr8;rw[t1,t2,t3,t4]at RR;have HR:=ZA hr;have hadd:IntKind.i64.wrap ((j:Int)+1)=((j+1:Nat):Int):=by rw[Zaa];omega
   clear hr hvq hoq hcell t1 t2 t3 t4 h34;go_wp2_with fail;refine RR.o.mono ?_;rintro e w5 ⟨rfl,x5⟩;have X5:=ZA x5;clear x5 RR d0;go_upto_region 11 with fail;obtain⟨W,hW⟩:=ZTz ((w5.alloc (.cells #[.int .i64 (r.er:Int),.bool r.granted,.int .i64 r.left,.int .i64 r.wait,.int .i64 r.ser,.int .i64 r.now] 39)));have xW:ZL w5 W:=by rw[<-hW];exact(ZL.refl w5).alloc _
   have KB:=ZA (show W.heap[w5.heap.size]?=some (.cells #[.int .i64 (r.er:Int),.bool r.granted,.int .i64 r.left,.int .i64 r.wait,.int .i64 r.ser,.int .i64 r.now] 39 (0,0)) by rw[<-hW];exact ZM w5 _)
   (try rw[hW])
   clear hW;have XW:=ZA (X5.o.trans xW);clear xW;have e0:=ZTx KB.o 0 (.int .i64 (r.er:Int));have e1:=ZTx KB.o 1 (.bool r.granted);have e2:=ZTx KB.o 2 (.int .i64 r.left);have e3:=ZTx KB.o 3 (.int .i64 r.wait);have e4:=ZTx KB.o 4 (.int .i64 r.ser);have e5:=ZTx KB.o 5 (.int .i64 r.now);have HW2:=ZA ((XW.o.alloc (.cells #[.int .i64 (r.er:Int),.bool r.granted,.int .i64 r.left,.int .i64 r.wait,.int .i64 r.ser,.int .i64 r.now] 39 (0,0))));have hsz:=(HX.o.trans HW2.o).size;have hj9:j<=100000:=by omega
   go_wp2_with (at_builtin;refine ZSv (r:=r) (W.alloc (.cells #[.int .i64 (r.er:Int),.bool r.granted,.int .i64 r.left,.int .i64 r.wait,.int .i64 r.ser,.int .i64 r.now] 39 (0,0))) rfl (.tmp 44) (.tmp 46) rfl w3.heap.size rfl (YB HO.o HW2.o) rfl (ZAU W (ZDx r).toList _ rfl) hj9 hsz ?_;intro B6 cb6 w6 o6 g6 b6;have O6:=ZA o6;have G6:=ZA g6;clear o6 g6 b6)
   go_roundw
   case rel=>
    refine⟨j+1,B6,cb6,hlt,by go_num,rfl,?_,(HX.o.trans HW2.o).grown G6.o (λq e=>(HO.o.lt q e).1)⟩;rw[Zr HR.o,ZFs];exact O6.o
   case measure=>simp[intOf];omega
  ·have hji:¬(j:Int)<(k:Int):=by omega
   obtain rfl:j=k:=by omega
   go_wp2_with fail
   go_ret2
   refine⟨B2,cb,ZAz (by rw[Hq.o];rfl) rfl,?_,X3.o.trans HX.o⟩;have:=HO.o;rw[Zbk (by rw[Hq.o];exact Zb0 _)]at this;rw[Hq.o];exact Zg this X3.o.size
theorem ZEA (op:Nat)(hop:op<256)(p N:Int)(n:Nat)(xs:List Nat)(hl:xs.length=n)(hb:∀x ∈ xs,x<256): ∃F,ZTX op p xs N F/\(∀L,F=some L->L.length<=1010/\∀x ∈ L,x<256)/\∀A c w,Rd w A (ZV .u8 xs)->Calls Tryz.prog 20 #[YY (op:Int) p A n c N] w (ZKd F w):=by
 obtain⟨q,L,hq,hc,-⟩:=ZER op hop p N n xs hl hb;rcases hq with⟨hq0,rfl,hno⟩|⟨rfl,P,M,h1,h2,h3,rfl⟩
 ·have hq':(q !=0)=true:=by simp[bne,hq0]
  refine⟨none,.inl ⟨rfl,λP M e1 e2 e3=>hno ⟨P,M,e1,e2,e3⟩⟩,(λL e=>by cases e),λA c w hr=>?_⟩;have C:=ZA (hc A c _ (hr.ext ((ZL.refl w).alloc (.cells #[.int .u8 (op:Int),.int .i64 p,.slice A n c,.int .i64 N] 34))));clear hc hno hb hl hr hq0;go_enter Tryz.func20,Tryz.ntmps20;go_wp2_with fail;refine C.o.mono ?_;rintro e w1 ⟨A1,c1,rfl,o1,x1⟩;clear o1;go_wp2_with fail;go_ret;exact⟨rfl,((ZL.refl w).alloc _).trans x1⟩
 ·have hx:xs.length<=255\/5<=op:=by have:=h3.2.2.1;omega
  have hlen:(Yt op P xs M).length<=1000:=by
   rcases hx with hx|hx
   ·exact ZHO hx
   ·rw[ZBA (by have:=h3.2.1;omega)];simp
  have hpos:=ZHN op P M xs;have hlt:=ZIJ h3 hb;obtain⟨R,HR⟩:=ZTy (Yt op P xs M);rw[HR.o]at hc hlen hpos hlt;obtain⟨m,Hm⟩:=ZTy (R.length);rw[Hm.o]at hlen hpos;refine⟨some (XK m++R),.inr ⟨P,M,h1,h2,h3,by rw[HR.o,Hm.o]⟩,λL e=>?_,λA c w hr=>?_⟩
  ·injection e with e;subst e;refine⟨by rw[Za9,Hm.o];simp[XK];omega,λx hx=>?_⟩;rcases ZbI.1 hx with hx|hx
   ·simp[XK]at hx;omega
   ·exact hlt x hx
  ·have C:=ZA (hc A c _ (hr.ext ((ZL.refl w).alloc (.cells #[.int .u8 (op:Int),.int .i64 p,.slice A n c,.int .i64 N] 34))));clear hc h1 h2 h3 hr hb hl hlt hx;go_enter Tryz.func20,Tryz.ntmps20;go_wp2_with fail;refine C.o.mono ?_;rintro e w1 ⟨A1,c1,rfl,o1,x1⟩;rw[Hm.o]at o1 ⊢;have O1:=ZA o1;have X1:=ZA (((ZL.refl w).alloc (.cells #[.int .u8 (op:Int),.int .i64 p,.slice A n c,.int .i64 N] 34)).trans x1);clear o1 x1;go_wp2_with fail;refine(ZCf w1 A1 m c1 R ZB hpos Hm.o (Rd.of_own O1.o)).mono ?_;rintro e w2 ⟨A2,c2,rfl,o2,x2⟩;have O2:=ZA o2;have X2:=ZA (X1.o.trans x2);obtain⟨g,rfl,-,-⟩:=ZAk o2 (by have:=Ys o2;rw[Za9]at this;simp[XK]at this;omega);obtain⟨fn,Hfn⟩:=ZTy ((XK m++R).length);rw[Hfn.o];clear o2 x2;go_wp2_with fail;go_ret;exact⟨g,c2,by rw[Hfn.o];rfl,Zg O2.o X1.o.size,X2.o⟩
theorem ZG8 (c:Z3)(h:ZA6 c.op c.pol c.key c.num)(n:Nat)(hl:c.key.length=n)(A:Option Addr)(cp:Nat)(w:World)(hr:Rd w A (ZV .u8 c.key)): Calls Tryz.prog 20 #[YY (c.op:Int) (c.pol:Int) A n cp (c.num:Int)] w (ZKd (some (Zp c)) w):=by
 obtain⟨op,p,xs,N⟩:=c;unfold Zp
 dsimp only at h hl hr ⊢
 obtain⟨hR,hb,hz,hn⟩:=h;obtain⟨F,hF,-,hC⟩:=ZEA op (by have:=hR.2.1;omega) (p:Int) (N:Int) n xs hl hb;have hFe:F=some (XK (Yt op p xs N).length++Yt op p xs N):=by
  rcases hF with⟨_,h⟩|⟨P',M,h1,h2,h3,h4⟩
  ·exact absurd hR (h p N (λ_=>rfl) (λ_=>rfl))
  ·have:Yt op P' xs M=Yt op p xs N:=by
    by_cases h5:5<=op
    ·rw[ZBA (by have:=hR.2.1;omega),ZBA (by have:=hR.2.1;omega)]
    ·have e1:P'=p:=by have:=h1 ZB;omega
     subst e1;by_cases h13:op=1\/op=3
     ·have e2:M=N:=by have:=h2 h13;omega
      rw[e2]
     ·have h24:op=2\/op=4:=by have:=hR.1;omega
      rcases h24 with rfl|rfl
      ·rw[ZCV,ZCV]
      ·rw[ZCU,ZCU]
   rw[h4,this]
 rw[hFe]at hC;exact hC A cp w hr
end Go.Proofs.YtloidkmphigbdaaGreat
