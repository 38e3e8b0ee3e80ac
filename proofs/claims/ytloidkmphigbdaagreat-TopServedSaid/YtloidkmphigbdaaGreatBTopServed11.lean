import Derived.Test.YtloidkmphigbdaaGreatBTopServed10
namespace Go.Proofs.YtloidkmphigbdaaGreat
open Tryz
set_option linter.all false
set_option maxHeartbeats 40000000
set_option maxRecDepth 100000
open Go.RowKit
variable {res:Bool}{a b ser sn:Int}{l:Jj}{T sr:List Int}{bs cm xs:List Nat}{P:List YK}{L:List Zg}{rs:List Zt}{cs done rest:List Zy}{B B' G M N N' base gd gg k n room who:Nat}{xb:Nat->Nat}{A:Option Addr}{v w w2:World}{s s0:XQ}{a1 d:Xf}{ks:Z9}{kc:ZAP}{x:ZW}{C F:Zhf}{c:Zy}{g:Zz}
section
theorem YS.kpi{W:World}{O C':Zhf}{s:Z9}(h:YS v g (XN (XG O gg) W v) C xb L s C' w2)(x:ZM w W)(y:ZM W v)(hg:w.heap.size<=gg):Kp w w2 (XO C O) (XI (XO C' (XG O gg)) W):=Kp.of (GB.back (x.trans y) h.2.1) (λi _ e=>.inl e) (λi hi e=>e.elim (λe=>e.elim (λe=>.inl ((h.2.2 i e).resolve_right (by have:=(x.trans y).size;omega))) (λe=>e.elim .inr (λe=>by omega))) (λe=>by have:=x.size;omega))
structure AJ (W u:World)(g:Zz)(OO C:Zhf)(xb:Nat->Nat)(s:Z9)(N:Nat)(C':Zhf)(r:Z7)(ce:ZL)(o8 o9:Obj)(p8 p9:Option Nat):Prop where
 m:∃L',L'.length<=N/\YS W g (OX OO p8 p9) C xb L' s C' u
 pt:Yi u (XI (XO C' OO) W) r ce
 b8:∀k,p8=some k->W.heap.size<=k/\u.heap[k]?=some o8
 b9:∀k,p9=some k->W.heap.size<=k/\u.heap[k]?=some o9
 ne:∀k k',p8=some k->p9=some k'->k≠k'
section
variable {w W u:World} {g:Zz} {O OO C:Zhf} {xb:Nat->Nat} {s:Z9} {N:Nat} {C':Zhf} {r:Z7} {ce:ZL} {o8 o9:Obj} {p8 p9:Option Nat}
theorem AJ.a8 (h:AJ W u g OO C xb s N C' r ce ZA3 o9 none p9):AJ W (u.alloc ZA3) g OO C xb s N C' r ce ZA3 o9 (some u.heap.size) p9:=by
 obtain⟨L',hl,m⟩:=h.m;have x:ZM u (u.alloc ZA3):=(ZM.refl u).alloc _;have z:(u.alloc ZA3).heap.size=u.heap.size+1:=by simp
 refine⟨⟨L',hl,m.1.far (GB.of_ext (λ_=>False) x) (λ_ _ e=>e.elim) (λi hi e=>e.elim .inl (λe=>e.elim (λe=>by injection e with e;omega) (λe=>.inr (.inr e)))) (λi e=>e.elim (λe=>by have:=m.1.ol i (.inl e);omega) (λe=>e.elim (λe=>by injection e with e;omega) (λe=>by have:=m.1.ol i (.inr (.inr e));omega))),m.2.1.ext x,m.2.2⟩,h.pt.ext x,λk e=>?_,λk e=>⟨(h.b9 k e).1,ZQ (h.b9 k e).2 _⟩,λk k' e e'=>?_⟩
 ·injection e with e;subst e;exact⟨m.2.1.size,ZV u _⟩
 ·injection e with e;subst e;have:=ZX (h.b9 _ e').2;omega
theorem AJ.a9 (h:AJ W u g OO C xb s N C' r ce o8 ZA4 p8 none):AJ W (u.alloc ZA4) g OO C xb s N C' r ce o8 ZA4 p8 (some u.heap.size):=by
 obtain⟨L',hl,m⟩:=h.m;have x:ZM u (u.alloc ZA4):=(ZM.refl u).alloc _;have z:(u.alloc ZA4).heap.size=u.heap.size+1:=by simp
 refine⟨⟨L',hl,m.1.far (GB.of_ext (λ_=>False) x) (λ_ _ e=>e.elim) (λi hi e=>e.elim .inl (λe=>e.elim (λe=>.inr (.inl e)) (λe=>by injection e with e;omega))) (λi e=>e.elim (λe=>by have:=m.1.ol i (.inl e);omega) (λe=>e.elim (λe=>by have:=m.1.ol i (.inr (.inl e));omega) (λe=>by injection e with e;omega))),m.2.1.ext x,m.2.2⟩,h.pt.ext x,λk e=>⟨(h.b8 k e).1,ZQ (h.b8 k e).2 _⟩,λk e=>?_,λk k' e e'=>?_⟩
 ·injection e with e;subst e;exact⟨m.2.1.size,ZV u _⟩
 ·injection e' with e';subst e';have:=ZX (h.b8 _ e).2;omega
theorem AJ0.now(h:AJ0 W u p8 p9)(x:ZM w W)(hg:w.heap.size<=gg)(ak:∀i,C i->i<W.heap.size)(uD:Yi w (XO C O) r ce)(hL:L.length<=N)(hm:YS u g (XN (XG O gg) W u) C xb L s C' w2):AJ W w2 g (XG O gg) C xb s N C' r ce ZA3 ZA4 p8 p9:=by
 have kp:=hm.kpi x h.x hg;refine⟨⟨L,hL,(hm.back h.x).drop (λi e=>e.elim .inl (λe=>.inr (e.elim (λe=>⟨(h.b8 i e).1,ZX (h.b8 i e).2⟩) (λe=>⟨(h.b9 i e).1,ZX (h.b9 i e).2⟩))))⟩,uD.kp kp,λk e=>?_,λk e=>?_,h.ne⟩
 ·obtain⟨a,b⟩:=h.b8 k e;exact⟨a,hm.2.1.blk b (λq=>by have:=ak k q;omega)⟩
 ·obtain⟨a,b⟩:=h.b9 k e;exact⟨a,hm.2.1.blk b (λq=>by have:=ak k q;omega)⟩
theorem AJ.allow {w3:World}{r':Z7}{cP:ZL}(h:AJ W u g OO C xb s N C' r ce o8 o9 p8 p9)(hx:ZM u w3)(hp:Yi w3 (XI (XO C' OO) W) r' cP):AJ W w3 g OO C xb s N C' r' cP o8 o9 p8 p9:=by
 obtain⟨L',hl,m⟩:=h.m;exact⟨⟨L',hl,m.ext hx⟩,hp,λk e=>⟨(h.b8 k e).1,ZK (h.b8 k e).2 hx⟩,λk e=>⟨(h.b9 k e).1,ZK (h.b9 k e).2 hx⟩,h.ne⟩
theorem AJ.wr {u':World}{rP rO:Obj}(h:AJ W u g OO C xb s N C' r ce o8 o9 p8 p9)(gb:GB u u' (· =k))(hO:OX OO p8 p9 k)(hk:W.heap.size<=k)(h8:∀k,p8=some k->u'.heap[k]?=some rP)(h9:∀k,p9=some k->u'.heap[k]?=some rO):AJ W u' g OO C xb s N C' r ce rP rO p8 p9:=by
 obtain⟨L',hl,m⟩:=h.m;exact⟨⟨L',hl,m.1.far gb (λi _ e=>by rw[e];exact hO) (λi _ e=>e) (λi e=>ZgB (m.1.ol i e) gb.size),m.2.1.trans gb (λi e=>.inr (by rw[e];exact hk)),m.2.2⟩,h.pt.kp (Kp.of gb (λi _ e=>.inr (by rw[e];exact hk)) (λi _ e=>e)),λk e=>⟨(h.b8 k e).1,h8 k e⟩,λk e=>⟨(h.b9 k e).1,h9 k e⟩,h.ne⟩
theorem AJ.s8(h:AJ W u g OO C xb s N C' r ce ZA3 o9 (some k) p9)(b0 b1 b2 b3 b4 b5):AJ W ((((((u.setCell ⟨k,0,none⟩ b0).setCell ⟨k,1,none⟩ b1).setCell ⟨k,2,none⟩ b2).setCell ⟨k,3,none⟩ b3).setCell ⟨k,4,none⟩ b4).setCell ⟨k,5,none⟩ b5) g OO C xb s N C' r ce (.cells #[b0,b1,b2,b3,b4,b5] 39 (0,0)) o9 (some k) p9:=Q7
theorem AJ.s9(h:AJ W u g OO C xb s N C' r ce o8 ZA4 p8 (some k))(b0 b1 b2 b3):AJ W ((((u.setCell ⟨k,0,none⟩ b0).setCell ⟨k,1,none⟩ b1).setCell ⟨k,2,none⟩ b2).setCell ⟨k,3,none⟩ b3) g OO C xb s N C' r ce o8 (.cells #[b0,b1,b2,b3] 62 (0,0)) p8 (some k):=ZYF
theorem AJ.a8' (h:AJ W u g OO C xb s N C' r ce ZA3 o9 none p9):∃k v,u.heap.size=k/\u.alloc ZA3=v/\AJ W v g OO C xb s N C' r ce ZA3 o9 (some k) p9:=⟨_,_,rfl,rfl,h.a8⟩
theorem AJ.a9' (h:AJ W u g OO C xb s N C' r ce o8 ZA4 p8 none):∃k v,u.heap.size=k/\u.alloc ZA4=v/\AJ W v g OO C xb s N C' r ce o8 ZA4 p8 (some k):=⟨_,_,rfl,rfl,h.a9⟩
theorem AJ.k8(h:AJ W u g OO C xb s N C' r ce o8 o9 (some k) p9):u.heap[k]?=some o8:=(h.b8 k rfl).2
theorem AJ.k9(h:AJ W u g OO C xb s N C' r ce o8 o9 p8 (some k)):u.heap[k]?=some o9:=(h.b9 k rfl).2
theorem AJ.s8'(h:AJ W u g OO C xb s N C' r ce ZA3 o9 (some k) p9)(b0 b1 b2 b3 b4 b5):∃v,((((((u.setCell ⟨k,0,none⟩ b0).setCell ⟨k,1,none⟩ b1).setCell ⟨k,2,none⟩ b2).setCell ⟨k,3,none⟩ b3).setCell ⟨k,4,none⟩ b4).setCell ⟨k,5,none⟩ b5)=v/\AJ W v g OO C xb s N C' r ce (.cells #[b0,b1,b2,b3,b4,b5] 39 (0,0)) o9 (some k) p9:=⟨_,rfl,h.s8 b0 b1 b2 b3 b4 b5⟩
theorem AJ.s9'(h:AJ W u g OO C xb s N C' r ce o8 ZA4 p8 (some k))(b0 b1 b2 b3):∃v,((((u.setCell ⟨k,0,none⟩ b0).setCell ⟨k,1,none⟩ b1).setCell ⟨k,2,none⟩ b2).setCell ⟨k,3,none⟩ b3)=v/\AJ W v g OO C xb s N C' r ce o8 (.cells #[b0,b1,b2,b3] 62 (0,0)) p8 (some k):=⟨_,rfl,h.s9 b0 b1 b2 b3⟩
end
end
def SBX (b0 b1 b2 xw:Nat)(p:YK)(ce:ZL)(kl hl:Nat)(r:Z7)(n:Int)(u:World):Prop:=u.cell? ⟨b0,0,none⟩=some (.int .u8 (p.kind:Int))/\u.cell? ⟨b0,1,none⟩=some (.int .i64 p.T)/\u.cell? ⟨b0,2,none⟩=some (.int .i64 p.Tau)/\u.cell? ⟨b0,3,none⟩=some (.int .i64 p.perm)/\u.cell? ⟨b1,0,none⟩=some (.int .i64 (ce.pol:Int))/\u.cell? ⟨b1,1,none⟩=some (.slice r.K kl r.kc)/\u.cell? ⟨b1,2,none⟩=some (.int .i64 ce.tat)/\u.cell? ⟨b1,3,none⟩=some (.slice r.H hl r.hc)/\u.cell? ⟨b2,0,none⟩=some (ZH xw)/\u.cell? ⟨xw,3,none⟩=some (.int .i64 n)
theorem SBX.ext {b0 b1 b2 xw:Nat}{p:YK}{ce:ZL}{kl hl:Nat}{r:Z7}{n:Int}{u:World}(h:SBX b0 b1 b2 xw p ce kl hl r n u)(x:ZM u v):SBX b0 b1 b2 xw p ce kl hl r n v:=by
 obtain⟨e0,e1,e2,e3,d0,d1,d2,d3,f0,y3⟩:=h;exact⟨ZF x e0,ZF x e1,ZF x e2,ZF x e3,ZF x d0,ZF x d1,ZF x d2,ZF x d3,ZF x f0,ZF x y3⟩
def ZUK (W:World)(g:Zz)(OO C:Zhf)(xb:Nat->Nat)(s:Z9)(N:Nat)(rep:Zt)(cP:ZL)(v8 v9:Value)(wd:World):Prop:=∃k8 k9 r' C',v8=ZH k8/\v9=ZH k9/\AJ W wd g OO C xb s N C' r' cP (.cells #[.int .i64 (rep.er:Int),.bool rep.granted,.int .i64 rep.left,.int .i64 rep.wait,.int .i64 rep.ser,.int .i64 rep.now] 39 (0,0)) (.cells #[.int .i64 (cP.pol:Int),.slice r'.K cP.key.length r'.kc,.int .i64 cP.tat,.slice r'.H cP.held.length r'.hc] 62 (0,0)) (some k8) (some k9)
theorem ZU7 (w)(g:Zz)(O C xb)(L:List Zg)(s:Z9)(who)(x:ZW)(res ser f)(ce:ZL)(fn)(aa:Array Value)(h:YQ w g O C xb L s)(hc:s.call who=.run x res ser (.allow f ce))(hL:L.length<=100000)(hw:who<64)(fG:(s.clk:Int)<=4611686018427387903)(hk:Zk w (XO C O) (Zo g who (xb who) x) (YD fn aa) (.allow f ce))(hp:ZKt (Zf g.P x.pol))(ht:ZCX ce.tat)(hn:ZCX x.n): Calls prog fn aa w (SK w g O C xb who (L.length+1) x s (if (Yg (Zf g.P x.pol) ce s.clk x.n).1.granted=false\/x.n=0 then YP res (Yg (Zf g.P x.pol) ce s.clk x.n).1 else .on (Ji g.room res f (Yg (Zf g.P x.pol) ce s.clk x.n).2 (Yg (Zf g.P x.pol) ce s.clk x.n).1))):=by
 obtain⟨p0,p1,p2,p3,p4,p5,aj,k0,⟨r,k1,nt⟩,k2,⟨Af,cf,qJ,k3,bo⟩,k4,k5⟩:=hk;injection aj with aj h1 h2;injection aj with aj;subst aj h2;obtain⟨b0,rfl,l0⟩:=k0.ptr;obtain⟨b1,rfl,l1⟩:=k1.ptr;obtain⟨b2,rfl,l2⟩:=k2.ptr;obtain⟨b3,rfl,l3⟩:=k3.ptr;obtain⟨b4,rfl,l4⟩:=k4.ptr;obtain⟨b5,rfl,l5⟩:=k5.ptr;obtain⟨p,Hp⟩:=ZX2 (Zf g.P x.pol);have k0:Zh w (XO C O) (ZH b0) (ZC5 (Zf g.P x.pol)):=k0;rw[Hp.o]at k0 hp ⊢;obtain⟨W,hW,xW,K0⟩:=Za w ZYE;have hA:=h.xg xW (Zf6 _) (ZX K0.o);have gn:=ZX K0.o;have aM:=ZA h.lt;have ot:=ZA h.ol;have NW:=ZA (λv (hv:ZM W v)=>ZG5 v g (XN (XG O w.heap.size) W v) C xb L s who x res ser _ (hA.far (S:=λ_=>False) (GB.of_ext _ hv) (λ_ _ e=>e.elim) (λi hi e=>e.elim id (λe=>by omega)) (λi e=>e.elim (λe=>ZgB (hA.ol i e) hv.size) (λe=>e.2))) hc ZB hw fG);obtain⟨clk,Hck⟩:∃q:Int,ZD ((s.clk:Int)=q):=⟨_,ZA rfl⟩;have bq:ZCX clk:=by rw[<-Hck.o];exact⟨by omega,fG⟩
 rw[Hck.o]at NW ⊢;have AQ:=λv X' (eK:Yi v X' r ce)=>ZOk v X' p ce r clk x.n eK hp ht bq hn;obtain⟨rep,Hrep⟩:=ZX2 ((Yg p ce clk x.n).1);obtain⟨cP,Hce2⟩:=ZX2 ((Yg p ce clk x.n).2);rw[Hrep.o,Hce2.o]at AQ ⊢;obtain⟨kl,Hkl⟩:=ZX2 (ce.key.length);obtain⟨hl,Hhl⟩:=ZX2 (ce.held.length);have k1:Zh w (XO C O) (ZH b1) #[.int .i64 (ce.pol:Int),.slice r.K ce.key.length r.kc,.int .i64 ce.tat,.slice r.H ce.held.length r.hc]:=k1;rw[Hkl.o,Hhl.o]at AQ k1;have AQ:=ZA AQ;obtain⟨xw,Hxw⟩:=ZX2 (xb who);have k2:YC w (XO C O) (ZH b2) (ZH (xb who)):=k2;have y3:=(hA.call hw hc).2.2.2.2.1;rw[Hxw.o]at NW k2 y3;obtain⟨out,Hout⟩:=ZX2 ((if rep.granted=false\/x.n=0 then YP res rep else Zs.on (Ji g.room res f cP rep)));rw[Hout.o];obtain⟨aQ,aO,bj,bX,cQ,HK5⟩:=Ju k0 k1 k2 k3 k4 k5;have HCF:=ZA bo;have Ii:=ZA nt;have HS:=ZA (λ(X':Zhf) (w':World) (kp:Kp w w' (XO C O) X') (y3:w'.cell? ⟨xw,3,none⟩=some (.int .i64 x.n))=>(show SBX b0 b1 b2 xw p ce kl hl r x.n w' from⟨(aQ.o.kp kp).cell 0,(aQ.o.kp kp).cell 1,(aQ.o.kp kp).cell 2,(aQ.o.kp kp).cell 3,(aO.o.kp kp).cell 0,(aO.o.kp kp).cell 1,(aO.o.kp kp).cell 2,(aO.o.kp kp).cell 3,(bj.o.kp kp).cell 0,y3⟩));have ae:=(HS.o _ _ (Kp.ext _ xW) y3).ext (show ZM W W.drew from(ZM.refl W).drew);have GO:=ZA (λi (e:C i)=>ZgB (aM.o i e) xW.size);obtain⟨XW,HW,Hc⟩:=Z8 xW hW hc;have bp:=ZA (show(L++[(⟨who,3,0,s.clk,0,true⟩:Zg)]).length<=L.length+1 by simp);clear h hc hL fG k0 k1 k2 k3 k4 k5 bo nt hp ht hn hA xW hW bq y3 gn;have J:=ZA (AJ0.start (show ZM W W.drew from(ZM.refl W).drew));go_enter func247,ntmps247;go_upto_region 1 with fail
 (try rw[HW.o]);clear HW;go_cut [8,9] (λv8 v9 wd=>ZUK W g (XG O w.heap.size) C xb s (L.length+1) rep cP v8 v9 wd);case first=>
  obtain⟨T2,T4,T6,T8,T9,T10,T12,T14,T16⟩:=QA;exact ZYc
 case rest=>
  obtain⟨k8,k9,r',C',rfl,rfl,J1⟩:=hcut;obtain⟨L',cu,AH⟩:=J1.m;have hm:=AH.drop (λi e=>Or.inl e);have fR:=(J1.b8 k8 rfl).2;have rR:=(J1.b9 k9 rfl).2;have uD:=J1.pt.kp (X':=XO C' (XG O w.heap.size)) (Kp.of (GB.refl wc (λ_=>False)) (λ_ _ e=>e.elim) (λi _ e=>.inl e));have zk:=ZA cu;have HM:=ZA hm;have ab:=hm.kpg XW.o (Zf6 w.heap.size);have bg:=hm.1.call hw Hc.o;have KR:=ZA (hm.2.1.blk K0.o (λe=>Zf9 _ (aM.o _ e)));have HX:=ZA hm.1.newer;have PT:=ZOR wc (XO C' (XG O w.heap.size)) (Zo g who (xb who) x) f _ cf Af qJ cP r' rep res g.gx g.room HX.o rfl (HCF.o.kp ab) uD (by exact bg.1) (by exact bg.2.2.1) (by exact hm.1.rd.c1);rw[Hxw.o]at bg;have f0:=(bj.o.kp ab).ZX6 0 (ZH xw);have y3:wc.cell? ⟨xw,3,none⟩=some (.int .i64 x.n):=bg.2.2.2.2.1;have a0:=(bX.o.kp ab).ZX6 0 (.int .i64 (f.word:Int));have a1:=(bX.o.kp ab).ZX6 1 (.int .u64 (f.v:Int));have a2:=(bX.o.kp ab).ZX6 2 (.slice Af f.cells.length cf);have a4:=(cQ.o.kp ab).ZX6 0 (.int .i64 (f.at_:Int));have a5:=(HK5.o.kp ab).ZX6 0 (.bool f.there);have c0:=ZX1 rR 0 (.int .i64 (cP.pol:Int));have c1:=ZX1 rR 1 (.slice r'.K cP.key.length r'.kc);have c2:=ZX1 rR 2 (.int .i64 cP.tat);have c3:=ZX1 rR 3 (.slice r'.H cP.held.length r'.hc);have s0:=ZX1 fR 0 (.int .i64 (rep.er:Int));have s1:=ZX1 fR 1 (.bool rep.granted);have s2:=ZX1 fR 2 (.int .i64 rep.left);have s3:=ZX1 fR 3 (.int .i64 rep.wait);have s4:=ZX1 fR 4 (.int .i64 rep.ser);have s5:=ZX1 fR 5 (.int .i64 rep.now);have LV:=ZA (ZEl wc (XO C' (XG O w.heap.size)) (Zo g who (xb who) x) res rep HX.o (by show wc.cell? ⟨xb who,7,none⟩=_;rw[Hxw.o];exact bg.2.2.1));rw[show(Zo g who (xb who) x).xb=xw from Hxw.o]at LV PT;have PT:=ZA PT;clear AH hm ab bg fR rR uD J1 cu bp J ae;have bp:=zk;obtain⟨gr,Hgr⟩:=ZX2 (rep.granted);rw[Hgr.o]at s1 LV PT;obtain⟨nn,Hnn⟩:=ZX2 (x.n);rw[Hnn.o]at y3;cases gr with
  |false=>
   obtain⟨T7,T10,T20⟩:=QA;exact ZYU
  |true=>
   by_cases eL:nn=0
   ·obtain⟨T8,T10,T20⟩:=QA;exact ZYU
   ·obtain⟨T9,T17,T19,T20⟩:=QA;exact ZYU
theorem ZQs (w)(g:Zz)(O C xb)(L:List Zg)(s s1:Z9)(who u)(x:ZW)(res ser)(f:Yb)(ce:ZL)(rp fn)(aa:Array Value)(h:YQ w g O C xb L s)(hc:s.call who=.run x res ser (.put f ce rp))(hL:L.length<=100000)(hw:who<64)(cJ:f.word<34)(hu:s.ws.getD f.word 0=u)(aG:s1=if u=f.v then {s with ws:=s.ws.set f.word (f.v+1),hs:=s.hs.set f.word (XL f.cells f.at_ f.there ce)} else s)(hp:x.pol<g.P.length)(jt:g.P.length<=32)(hv:f.v<4611686018427387904)(hk:ZDN w (XO C O) (Zo g who (xb who) x) (YD fn aa) f ce rp)(Xt:f.at_<=f.cells.length)(sg:f.there=true->f.at_<f.cells.length)(hcl:f.cells.length<=5000)(aX:ce.key.length<=255): Calls prog fn aa w (SK w g O C xb who (L.length+1) x s1 (if u=f.v then (if f.there=false then .fin rp else YP res rp) else .on (.find (Xw x.id) .begin))):=Qv
theorem ZQu (w g O C xb)(L:List Zg)(s:Z9)(who u x res ser f ce rp stop fn)(aa:Array Value)(h:YQ w g O C xb L s)(hc:s.call who=.run x res ser (.mvS 32 1 stop u (.count f ce rp)))(hL:L.length<=100000)(hw:who<64)(hu:s.ws.getD 32 0=u)(hk:Zk w (XO C O) (Zo g who (xb who) x) (YD fn aa) (.mvS 32 1 stop u (.count f ce rp))):
  Calls prog fn aa w (SK w g O C xb who (L.length+1) x ({s with ws:=s.ws.set 32 ((u+1) % 18446744073709551616),hs:=s.hs.set 32 []}.put who (.run x true ser (.mvS 32 1 stop u (.count f ce rp)))) (.on (.put f ce rp))):=by
 obtain⟨V2,V7,V10,V13,V16,V19⟩:=QA;exact QK
theorem Zk.hen {w:World}{X:Zhf}{d:Jv}{fn:FuncId}{aa:Array Value}{k:YX}(h:Zk w X d (YD fn aa) k):∀u:World,(callFunc fn aa).run prog u=.ok (.enter fn aa) u:=by
 cases k with
 |find sum t=>
  obtain⟨_,_,_,_,_,e,_⟩:=h;injection e with e _ e2;injection e with e;subst e;exact λ_=>rfl
 |enter sum word t=>
  obtain⟨_,_,_,_,_,_,e,_⟩:=h;injection e with e _ e2;injection e with e;subst e;exact λ_=>rfl
 |frz word t=>
  obtain⟨_,_,_,_,_,e,_⟩:=h;injection e with e _ e2;injection e with e;subst e;exact λ_=>rfl
 |frzS word v holds t=>
  obtain⟨_,_,_,_,_,_,_,_,e,_⟩:=h;injection e with e _ e2;injection e with e;subst e;exact λ_=>rfl
 |half level shard holds t=>
  obtain⟨_,_,_,_,_,_,_,e,_⟩:=h;injection e with e _ e2;injection e with e;subst e;exact λ_=>rfl
 |halfS level shard holds t=>
  obtain⟨_,_,_,_,_,_,_,_,e,_⟩:=h;injection e with e _ e2;injection e with e;subst e;exact λ_=>rfl
 |split=>
  obtain⟨_,_,_,e,_⟩:=h;injection e with e _ e2;injection e with e;subst e;exact λ_=>rfl
 |splitS d=>
  obtain⟨_,_,_,_,_,_,e,_⟩:=h;injection e with e _ e2;injection e with e;subst e;exact λ_=>rfl
 |moveEnd level=>
  obtain⟨_,_,_,_,e,_⟩:=h;injection e with e _ e2;injection e with e;subst e;exact λ_=>rfl
 |mv word by_ stop t=>
  obtain⟨_,_,_,_,_,_,_,_,e,_⟩:=h;injection e with e _ e2;injection e with e;subst e;exact λ_=>rfl
 |mvS word by_ stop v t=>
  obtain⟨_,_,_,_,_,_,_,_,_,e,_⟩:=h;injection e with e _ e2;injection e with e;subst e;exact λ_=>rfl
 |put f ce r=>
  obtain⟨_,_,_,_,_,_,e,_⟩:=h;injection e with e _ e2;injection e with e;subst e;exact λ_=>rfl
 |peek ce=>
  obtain⟨_,_,_,e,_⟩:=h;injection e with e _ e2;injection e with e;subst e;exact λ_=>rfl
 |allow f ce=>
  obtain⟨_,_,_,_,_,_,e,_⟩:=h;injection e with e _ e2;injection e with e;subst e;exact λ_=>rfl
 |evFirst=>
  obtain⟨_,e,_⟩:=h;injection e with e _ e2;injection e with e;subst e;exact λ_=>rfl
 |evScan j shards gone word v cells=>
  obtain⟨_,_,_,_,_,_,_,e,_⟩:=h;injection e with e _ e2;injection e with e;subst e;exact λ_=>rfl
 |evSwap j shards gone word v rest n=>
  obtain⟨_,_,_,_,_,_,_,_,e,_⟩:=h;injection e with e _ e2;injection e with e;subst e;exact λ_=>rfl
theorem Y4{O:Zhf}{s s1:Z9}{k k0:YX}{c:KC}{out:Zs}(h:YQ w g O C xb L s)(hw:who<64)(hc:s.call who=.run x res ser k)(hr:Z6 g.P g.room x (s.kc res ser) k=(c,out))(iS:s1.call who=.run x c.res c.ser k0)(h1:s1.put who (ZBE x c.res c.ser out)=(s.of c).put who (ZBE x c.res c.ser out))(CL:∀(u:World) (O':Zhf) (fn:FuncId) (aa:Array Value),YQ u g O' C xb L s->Zk u (XO C O') (Zo g who (xb who) x) (YD fn aa) k->Calls prog fn aa u (SK u g O' C xb who (L.length+1) x s1 out)): Calls prog 16 #[ZH g.gx,.int .i64 who] w (ZDJ w g O C xb L s who):=by
 obtain⟨v,hv,hk⟩:=h.kont hw hc;obtain⟨fn,aa,rfl⟩:=hk.fn;exact(ZQa w g O C xb L s s1 who (L.length+1) x res c.res ser c.ser k k0 out fn aa h hc hw hv hk.hen iS (λu O'=>CL u O' fn aa)).mono λe w' he=>ZTd (c:=c) hc hr h1 he
theorem ZOG{s:WH}{t:ZAQ}(h:FOk P s x t):ZFa x t:=by
 cases t with
 |find sum level t=>exact⟨h.2.2.1,h.2.2.2,h.1⟩
 |move level i=>exact h
theorem ZN6{s:WH}{t:Jk}(h:HOk P s x t):ZFZ x t:=by
 cases t with
 |find sum t=>exact⟨h.2.2,h.1⟩
 |move1 level i holds=>exact⟨h.1,h.2.1⟩
 |move2 level i=>exact h
theorem ZJg{l:List ZL}(h:Yu P l)(aZ:P.length<=32):∀e ∈ l,ZAO e:=λe he=>have q:=h.2.1 e he;⟨by have:=q.1;omega,q.2.1,q.2.2.1⟩
theorem ZYy {p:Prop}(h:p:=by
 have hk:MOk g.P g.room N s.wh x res ser word by_ stop t:=hk;first
 |obtain -:=T1;by_cases q:s.ws.getD word 0=v
  ·cases t with
   |leave r=>
    obtain⟨rfl,m1,m2,m3⟩:=hk;exact Y4 (s1:={s with ws:=s.ws.set 32 ((v+by_) % 18446744073709551616),hs:=s.hs.set 32 []}) (c:=(s.kc res ser).sw 32 ((v+by_) % 18446744073709551616) []) (out:=.fin r) h hw hc (Zgl q) hc rfl (λu O' fn aa h9 k9=>ZHu u g O' C xb L s who by_ stop v x res ser (.leave r) (.fin r) fn aa h9 hc hL hw q k9 (λu X sv tf tc nn hX _ _ hm=>ZLq u X _ sv tf tc nn r hX hm) (λu X sv tf tc hm=>ZJL hm (.inl ⟨r,rfl⟩)))
   |gone j shards was n=>
    obtain⟨rfl,m1,m2,m3,m4,m5,m6,m7,m8⟩:=hk;exact Y4 (s1:={s with ws:=s.ws.set 32 ((v+by_) % 18446744073709551616),hs:=s.hs.set 32 []}) (c:=(s.kc res ser).sw 32 ((v+by_) % 18446744073709551616) []) (out:=Zu j shards (was+n)) h hw hc (Zgl q) hc rfl (λu O' fn aa h9 k9=>ZHu u g O' C xb L s who by_ stop v x res ser (.gone j shards was n) (Zu j shards (was+n)) fn aa h9 hc hL hw q k9 (λu X sv tf tc nn hX pf lR hm=>ZNe u X g who (xb who) x res ser sv tf tc nn was j shards n hX pf lR hm m3 m4 m5 ZB ZB) (λu X sv tf tc hm=>ZJL hm (.inr ⟨j,shards,was,n,rfl⟩)))
   |count f ce r=>
    obtain⟨rfl,rfl,m2,m3,m4,m5,m6⟩:=hk;exact Y4 (s1:={s with ws:=s.ws.set 32 ((v+1) % 18446744073709551616),hs:=s.hs.set 32 []}.put who (.run x true ser (.mvS 32 1 stop v (.count f ce r)))) (c:={(s.kc res ser).sw 32 ((v+1) % 18446744073709551616) []with res:=true}) (out:=.on (.put f ce r)) h hw hc (Zgl q) (Zx _ _ _) (ZL1 _ _ _ _) (λu O' fn aa h9 k9=>ZQu u g O' C xb L s who v x res ser f ce r stop fn aa h9 hc hL hw q k9)
   |serial f ce=>
    obtain⟨rfl,rfl,rfl,m3,rfl,m4,rfl,m6⟩:=hk;have hv:s.ws.getD 33 0<=N:=W.n33;have ed:=hx.2.2.1 ZB;have sN:=hx.2.2.2.2 (.inl m3);have fq:=ZBU dM hx ZB m4;have pG:=ZGq (ZDV dM ed.1) sN
    refine Y4 (s1:={s with ws:=s.ws.set 33 (v+1),hs:=s.hs.set 33 []}.put who (.run x res ((v+1:Nat):Int) (.mvS 33 1 4611686018427387903 v (.serial f (YV f.cells x.pol x.key))))) (c:={(s.kc res 0).sw 33 (v+1) []with ser:=((v+1:Nat):Int)}) (out:=.on (Ji g.room res f (ZAa (Zf g.P x.pol) (YV f.cells x.pol x.key) ((v+1:Nat):Int)).2 (ZAa (Zf g.P x.pol) (YV f.cells x.pol x.key) ((v+1:Nat):Int)).1)) h hw hc ?_ (Zx _ _ _) (ZL1 _ _ _ _) (λu O' fn aa h9 k9=>ZKS u g O' C xb L s who v x res 0 f (YV f.cells x.pol x.key) fn aa h9 hc hL hw q ZB k9 ⟨pG.1,pG.2,by omega,fq.2.2.2.2.2.1⟩ (λhm=>by
     obtain⟨d,hd,hz⟩:=ZDk hm;have:=m4.ser d hd _ hz;have this:((v+1:Nat):Int)<=(s.ws.getD 33 0:Int):=this;omega) m6)
    have e0:(s.kc res 0).ld 33=v:=q;show(if (s.kc res 0).ld 33=v then _ else _)=_;rw[Zgl e0]
    dsimp only
    rw[show(v+1) % 18446744073709551616=v+1 by omega];rfl
 |by_cases q:s.ws.getD word 0=stop
  ·cases t with
   |leave r=>obtain⟨rfl,m1,rfl,m3⟩:=hk;omega
   |gone j shards was n=>obtain⟨rfl,rfl,_⟩:=hk;omega
   |count f ce r=>
    obtain⟨rfl,rfl,rfl,_⟩:=hk;refine Y4 (s1:=s) (c:=s.kc res ser) (out:=.fin (YY 10)) h hw hc ?_ hc rfl (λv O' fn aa h9 k9=>ZQt v g O' C xb L s who (s.ws.getD 32 0) g.room x res ser f ce r fn aa h9 hc hL hw rfl q k9);exact Zge (Prod.mk _) (Zgl q)
   |serial f ce=>obtain⟨rfl,rfl,rfl,_⟩:=hk;have:=W.n33;have this:s.ws.getD 33 0<=N:=this;omega
 ·have lL:word<34:=by
   cases t with
   |leave r=>have:=hk.1;omega
   |gone j shards was n=>have:=hk.1;omega
   |count f ce r=>have:=hk.1;omega
   |serial f ce=>have:=hk.1;omega
  first|(obtain -:=T2;exact Y4 (s1:=s) (c:=s.kc res ser) (out:=.on (.mv word by_ stop t)) h hw hc (Zgk q) hc rfl (λu O' fn aa h9 k9=>ZNy u g O' C xb L s who (s.ws.getD word 0) word by_ stop v x res ser t fn aa h9 hc hL hw lL rfl q k9))|(refine Y4 (s1:=s) (c:=s.kc res ser) (out:=.on (.mvS word by_ stop (s.ws.getD word 0) t)) h hw hc ?_ hc rfl (λv O' fn aa h9 k9=>ZXk v g O' C xb L s who (s.ws.getD word 0) word by_ stop x res ser t fn aa h9 hc hL hw lL rfl q k9);show(s.kc res ser,_)=_;exact Zge (Prod.mk _) (Zgk q))):p:=h
theorem ZVV (w)(g:Zz)(O C xb)(L:List Zg)(s:Z9)(who){k:YX}(h:YQ w g O C xb L s)(hL:L.length<=100000)(hw:who<64)(hi:ZCZ g.P g.room N M s)(hN:N+1<=4611686018427387903)(cD:g.P.length<=32)(dM:∀p ∈ g.P,Yt p)(E4:s.ws.getD 32 0<JG)(hc:s.call who=.run x res ser k): Calls prog 16 #[ZH g.gx,.int .i64 who] w (ZDJ w g O C xb L s who):=by
 have hr:=hi.run who x res ser k hc;have hx:=hr.call;have W:=hi.w;have hcl:=hi.clk;have d:s.ws.getD 0 0<=8:=W.d;have hz:k.fresh->∀word,ser=0\/(Ser ser/\ser ∉ (YV (s.hs.getD word []) x.pol x.key).held):=λf word=>by
  exact ZYu
 have hk:=hr.kont;have iQ:Zb=4611686018427387904:=rfl;have sD:JG=18446744073709551615:=rfl;cases k with
 |find sum t=>
  obtain⟨h1,h2,h3⟩:=hk;obtain⟨u,hu|hu⟩:∃u,s.ws.getD 0 0=2*u\/s.ws.getD 0 0=2*u+1:=⟨s.ws.getD 0 0 / 2,by omega⟩
  ·refine Y4 (s1:=s) (c:=s.kc res ser) (out:=.on (.enter sum (ZO u sum) t)) h hw hc ?_ hc rfl (λv O' fn aa h9 k9=>ZL6 v g O' C xb L s who u sum x res ser t fn aa h9 hc hL hw hu ZB h3 k9);show(s.kc res ser,_)=_;have e0:(s.kc res ser).ld 0=2*u:=hu;rw[e0,Zgl ZB,show 2*u / 2=u by omega]
  ·refine Y4 (s1:=s) (c:=s.kc res ser) (out:=.on (.frz (ZO u sum) (.find sum u t))) h hw hc ?_ hc rfl (λv O' fn aa h9 k9=>ZN0 v g O' C xb L s who u sum x res ser t fn aa h9 hc hL hw hu ZB h3 k9);show(s.kc res ser,_)=_;have e0:(s.kc res ser).ld 0=2*u+1:=hu;rw[e0,Zgk ZB,show(2*u+1) / 2=u by omega]
 |enter sum word t=>
  obtain⟨h1,h2,h3,h4,h5⟩:=hk;exact Y4 (s1:=s) (c:=s.kc res ser) h hw hc rfl hc rfl (λv O' fn aa h9 k9=>ZL7 v g O' C xb L s who sum word (s.ws.getD word 0) x res ser fn aa t h9 hc hL hw ZB rfl k9 cD dM hx h1 (W.cells word).1 (hz trivial word))
 |frz word t=>
  obtain⟨h1,h2,h3⟩:=hk;exact Y4 (s1:=s) (c:=s.kc res ser) h hw hc rfl hc rfl (λv O' fn aa h9 k9=>ZW9 v g O' C xb L s who word (s.ws.getD word 0) x res ser t fn aa h9 hc hL hw ZB rfl k9 (ZOG h1))
 |frzS word v holds t=>
  obtain⟨h1,⟨a1,a2,a3,a4,a5⟩,h3⟩:=hk;by_cases q:s.ws.getD word 0=v
  ·refine Y4 (s1:={s with ws:=s.ws.set word (v+Zb),hs:=s.hs.set word holds}) (c:=(s.kc res ser).sw word (v+Zb) holds) (out:=.on (Je holds t)) h hw hc (Zgl q) hc rfl (λu O' fn aa h9 k9=>ZNz u g O' C xb L s who word v x res ser holds t fn aa h9 hc hL hw ZB q ZB k9 (ZOG h1))
  ·refine Y4 (s1:=s) (c:=s.kc res ser) (out:=.on (.frz word t)) h hw hc (Zgk q) hc rfl (λu O' fn aa h9 k9=>ZL5 u g O' C xb L s who word v x res ser holds t fn aa h9 hc hL hw ZB q ZB k9 (ZOG h1))
 |half level shard holds t=>
  obtain⟨h1,h2,h3,h4,h5⟩:=hk;exact Y4 (s1:=s) (c:=s.kc res ser) h hw hc rfl hc rfl (λv O' fn aa h9 k9=>ZWZ v g O' C xb L s who level shard (ZO level shard) (s.ws.getD (ZO level shard) 0) x res ser holds t fn aa h9 hc hL hw h2 rfl rfl k9 cD dM hx (ZN6 h3) (W.cells _).1 (hz trivial _))
 |halfS level shard holds t=>
  obtain⟨h1,h2,h3,h4,h5⟩:=hk;by_cases q:s.ws.getD (ZO level shard) 0=0
  ·refine Y4 (s1:={s with ws:=s.ws.set (ZO level shard) 1,hs:=s.hs.set (ZO level shard) (JU holds level (ZO level shard - 2 ^ level))}) (c:=(s.kc res ser).sw (ZO level shard) 1 (JU holds level (ZO level shard - 2 ^ level))) (out:=XR g.P g.room x res ser (ZO level shard) 0 [] t) h hw hc ?_ hc rfl (λv O' fn aa h9 k9=>ZPG v g O' C xb L s _ who level shard (ZO level shard) (ZO level shard - 2 ^ level) (s.ws.getD (ZO level shard) 0) x res ser holds t fn aa h9 hc hL hw h2 rfl rfl rfl (Zgl q).symm k9 (ZN6 h3) (ZJg h4 cD) h4.2.2);exact Zge (λy=>(y,_)) (Zgl q)
  ·refine Y4 (s1:=s) (c:=s.kc res ser) (out:=XR g.P g.room x res ser (ZO level shard) 0 [] t) h hw hc ?_ hc rfl (λv O' fn aa h9 k9=>ZPG v g O' C xb L s _ who level shard (ZO level shard) (ZO level shard - 2 ^ level) (s.ws.getD (ZO level shard) 0) x res ser holds t fn aa h9 hc hL hw h2 rfl rfl rfl (Zgk q).symm k9 (ZN6 h3) (ZJg h4 cD) h4.2.2);exact Zge (λy=>(y,_)) (Zgk q)
 |split=>
  obtain⟨u,hu|hu⟩:∃u,s.ws.getD 0 0=2*u\/s.ws.getD 0 0=2*u+1:=⟨s.ws.getD 0 0 / 2,by omega⟩
  ·refine Y4 (s1:=s) (c:=s.kc res ser) (out:=if u=4 then .fin (YY 5) else .on (.splitS (2*u))) h hw hc ?_ hc rfl (λv O' fn aa h9 k9=>ZU6 v g O' C xb L s who u (2*u) x res ser fn aa h9 hc hL hw ZB rfl hu k9);show(s.kc res ser,_)=_;have e0:(s.kc res ser).ld 0=2*u:=hu;rw[e0,Zgk ZB,show 2*u / 2=u by omega]
  ·refine Y4 (s1:=s) (c:=s.kc res ser) (out:=.on (XM u 0)) h hw hc ?_ hc rfl (λv O' fn aa h9 k9=>ZL4 v g O' C xb L s who u (2*u+1) x res ser fn aa h9 hc hL hw ZB rfl hu k9);show(s.kc res ser,_)=_;have e0:(s.kc res ser).ld 0=2*u+1:=hu;rw[e0,Zgl ZB,show(2*u+1) / 2=u by omega]
 |splitS d0=>
  obtain⟨h1,h2⟩:=hk;by_cases q:s.ws.getD 0 0=d0
  ·obtain⟨lv,rfl⟩:∃lv,d0=2*lv:=⟨d0 / 2,by omega⟩;refine Y4 (s1:={s with ws:=s.ws.set 0 (2*lv+1),hs:=s.hs.set 0 []}) (c:=(s.kc res ser).sw 0 (2*lv+1) []) (out:=.on (XM lv 0)) h hw hc ?_ hc rfl (λv O' fn aa h9 k9=>ZS9 v g O' C xb L s who lv (2*lv) x res ser fn aa h9 hc hL hw ZB rfl q k9);have e0:(s.kc res ser).ld 0=2*lv:=q;show(if (s.kc res ser).ld 0=2*lv then _ else _)=_;rw[Zgl e0,show 2*lv / 2=lv by omega]
  ·exact Y4 (s1:=s) (c:=s.kc res ser) (out:=.on .split) h hw hc (Zgk q) hc rfl (λv O' fn aa h9 k9=>ZIh v g O' C xb L s who (s.ws.getD 0 0) d0 x res ser fn aa h9 hc hL hw ZB rfl q k9)
 |moveEnd level=>
  have hl:level<=3:=hk;by_cases q:s.ws.getD 0 0=2*level+1
  ·refine Y4 (s1:={s with ws:=s.ws.set 0 (2*level+2),hs:=s.hs.set 0 []}) (c:=(s.kc res ser).sw 0 (2*level+2) []) (out:=.fin (YY 0)) h hw hc ?_ hc rfl (λv O' fn aa h9 k9=>ZES v g O' C xb L s _ who level (s.ws.getD 0 0) x res ser fn aa h9 hc hL hw hl rfl (Zgl q).symm k9);exact Zge (λy=>(y,_)) (Zgl q)
  ·refine Y4 (s1:=s) (c:=s.kc res ser) (out:=.fin (YY 0)) h hw hc ?_ hc rfl (λv O' fn aa h9 k9=>ZES v g O' C xb L s _ who level (s.ws.getD 0 0) x res ser fn aa h9 hc hL hw hl rfl (Zgk q).symm k9);exact Zge (λy=>(y,_)) (Zgk q)
 |mv word by_ stop t=>
  exact ZYy
 |mvS word by_ stop v t=>
  obtain⟨T1,T2⟩:=QA;exact ZYy
 |put f ce r=>
  obtain⟨h1,h2,h3,h4⟩:=hk;obtain⟨a1,a2,a3,a4,a5⟩:=h2.same;have ed:=hx.2.2.1 ZB;have Xt:f.at_<=f.cells.length:=by rw[h2.at_];exact ZKl _ _
  have sg:f.there=true->f.at_<f.cells.length:=λe=>by rw[h2.at_];exact ZFL (by rw[<-h2.there];exact e)
  have CL:=λs1 aG (v:World) (O':Zhf) fn aa h9 k9=>ZQs v g O' C xb L s s1 who (s.ws.getD f.word 0) x res ser f ce r fn aa h9 hc hL hw ZB rfl aG ed.1 cD ZB k9 Xt sg h2.ok.2.2 h3.ok.2.1;by_cases q:s.ws.getD f.word 0=f.v
  ·refine Y4 (s1:={s with ws:=s.ws.set f.word (f.v+1),hs:=s.hs.set f.word (XL f.cells f.at_ f.there ce)}) (c:=(s.kc res ser).sw f.word (f.v+1) (XL f.cells f.at_ f.there ce)) h hw hc ?_ hc rfl (CL _ (Zgl q).symm);show(if s.ws.getD f.word 0=f.v then _ else _)=_;rw[Zgl q,Zgl q];rfl
  ·refine Y4 (s1:=s) (c:=s.kc res ser) h hw hc ?_ hc rfl (CL _ (Zgk q).symm);show(if s.ws.getD f.word 0=f.v then _ else _)=_;rw[Zgk q,Zgk q]
 |peek ce=>
  obtain⟨h1,h2,h3⟩:=hk;have hp:=ZGr (ZDV dM (hx.2.2.1 ZB).1) h2;exact Y4 (s1:=s) (c:=s.kc res ser) h hw hc rfl hc rfl (λv O' fn aa h9 k9=>ZWY v g O' C xb L s who x res ser ce fn aa h9 hc hL hw hcl k9 h2 hp ⟨h3.2.2.2.1,h3.2.2.2.2.1⟩)
 |allow f ce=>
  obtain⟨h1,h2,rfl⟩:=hk;have fq:=ZBU dM hx ZB h2;have ha:=hx.2.2.2.1 h1;exact Y4 (s1:=s) (c:=s.kc res ser) h hw hc rfl hc rfl (λv O' fn aa h9 k9=>ZU7 v g O' C xb L s who x res ser f _ fn aa h9 hc hL hw hcl k9 (ZGr (ZDV dM (hx.2.2.1 ZB).1) ha.1) ⟨fq.2.2.2.1,fq.2.2.2.2.1⟩ ⟨ha.2.1,ha.2.2⟩)
 |evFirst=>exact Y4 (s1:=s) (c:=s.kc res ser) h hw hc rfl hc rfl (λv O' fn aa h9 k9=>ZQv v g O' C xb L s who (s.ws.getD 0 0) x res ser fn aa h9 hc hL hw rfl d k9)
 |evScan j shards gone word v cells=>
  obtain⟨h1,h2,h3,h4,h5,h6,h7⟩:=hk;exact Y4 (s1:=s) (c:=s.kc res ser) h hw hc rfl hc rfl (λu O' fn aa h9 k9=>ZTB u g O' C xb L s who j shards word v gone x res ser cells fn aa h9 hc hL hw hcl k9 h2 h3 h7 cD)
 |evSwap j shards gone word v rest n=>
  obtain⟨h1,h2,h3,h4,h5,h6,h7,cells,⟨a1,a2,a3,a4,a5⟩,h8,h9,_⟩:=hk;have CL:=λs1 aG (u:World) (O':Zhf) fn aa h9 k9=>ZTA u g O' C xb L s s1 who j shards word v n (s.ws.getD word 0) gone x res ser rest fn aa h9 hc hL hw ZB rfl aG ZB k9 h2 h3 h6 h7;by_cases q:s.ws.getD word 0=v
  ·refine Y4 (s1:={s with ws:=s.ws.set word (v+1),hs:=s.hs.set word rest}) (c:=(s.kc res ser).sw word (v+1) rest) h hw hc ?_ hc rfl (CL _ (Zgl q).symm);show(if s.ws.getD word 0=v then _ else _)=_;rw[Zgl q,Zgl q]
  ·refine Y4 (s1:=s) (c:=s.kc res ser) h hw hc ?_ hc rfl (CL _ (Zgk q).symm);show(if s.ws.getD word 0=v then _ else _)=_;rw[Zgk q,Zgk q]
theorem ZVW (w)(g:Zz)(O C xb)(L:List Zg)(s:Z9)(who){k:YX}(h:YQ w g O C xb L s)(hL:L.length<=100000)(hw:who<64)(hi:ZCw g.P g.room N M s)(hN:N+1<=4611686018427387903)(cD:g.P.length<=32)(dM:∀p ∈ g.P,Yt p)(hc:s.call who=.run x res ser k): Calls prog 16 #[ZH g.gx,.int .i64 who] w (ZDJ w g O C xb L s who):=ZVV w g O C xb L s who h hL hw hi.i hN cD dM (hi.count ZB) hc
theorem ZTf{s:Z9}{k:YX}(hw:who<64)(hi:ZCw g.P g.room N M s)(hN:N+1<=4611686018427387903)(cD:g.P.length<=32)(dM:∀p ∈ g.P,Yt p)(hc:s.call who=.run x res ser k):ZIU g s who:=λw O C xb L h hL=>ZVW w g O C xb L s who h hL hw hi hN cD dM hc
section
variable [Foreign]
abbrev G3 (id:List Nat):Prop:=id.length<=3
theorem ZPm (l:Jj)(s:XQ):Xv (ZDK {l with cn:=some s})={l with cn:=some {ZDe {s with wr:=[]} with wr:=[]},wr:=l.wr++s.wr,st:=2}:=by
 unfold ZDK Xv;show({l with cn:=some _,wr:=(l.wr++s.wr)++[],st:=2}:Jj)=_;rw[Zek]
end
def PT:List YK:=[⟨1,10,20,0⟩,⟨2,0,0,2⟩]
theorem ZVx:∀p ∈ PT,Yt p:=λp hp=>by
 simp only[PT,ZfO,Zfd,or_false]at hp;rcases hp with rfl|rfl
 ·exact .inl ⟨rfl,by decide,by decide,by decide,by decide⟩
 ·exact .inr ⟨rfl,by decide,by decide⟩
structure Jh (P:List YK)(room:Nat)(a b:Int)(N M G:Nat)(T:List Int)(s:Z9):Prop where
 all:ZCw P room N M s
 held:ZBc (ZEt P) s.wh
 room:ZIQ room s
 sv:ZGZ a b G s
 ser:ZBJ T s
def ZHj (a b:Int):ZAP->Nat
 |.idle=>0
 |.run x _ _ k=>ZDn a b x k
structure ZEV (P:List YK)(room:Nat):Prop where
 ok:∀p ∈ P,Yt p
 l32:P.length<=32
 p0:(Zf P 0).T=10/\(Zf P 0).Tau=20
 k0:(Zf P 0).kind=1
 room:room<=4096
theorem ZIB{s:Z9}{k:YX}(hP:ZEV P room)(hw:who<64)(hN:N+1<=4611686018427387903)(hM:M+1<=5000)(h:Jh P room a b N M G T s)(hc:s.call who=.run x res ser k): (∃res' ser' k' G',(YM P room s who).2=none/\(YM P room s who).1.call who=.run x res' ser' k'/\Jh P room a b (N+1) (M+1) G' T (YM P room s who).1/\ZDn a b x k'+G<=ZDn a b x k+G')\/ ∃r G',(YM P room s who).2=some r/\(YM P room s who).1.call who=.idle/\ZAN r/\Jh P room a b (N+1) (M+1) G' T (YM P room s who).1/\ZCM a b x r+G<=ZDn a b x k+G'/\(x.op=2->r.granted=true->Jh P room a b (N+1) (M+1) G' (r.ser::T) (YM P room s who).1):=by
 obtain⟨V1,V3⟩:=QA;exact Q2
theorem ZGU{s:Z9}(hw:who<64)(h:Jh P room a b N M G T s)(hx:Yn P x)(hi:s.call who=.idle):Jh P room a b N M G T (s.put who (.run x false 0 (JD x))):=⟨ZNx hw h.all hx hi,h.held,ZNH h.room,ZSF h.sv,ZPx h.ser⟩
theorem ZJY (a b x):ZDn a b x (JD x)=0:=by
 unfold JD
 split
 ·rfl
 ·split<;>rfl
theorem ZOT{clk:Nat}{s:Z9}(h:Jh P room a b N M G T s)(h1:s.clk<=clk)(h2:clk<=4611686018427387903):Jh P room a b N M G T {s with clk:=clk}:=⟨ZQo h.all ZB,h.held,⟨h.room.le,h.room.run⟩,ZUV h.sv h1,h.ser.clk clk⟩
theorem ZOU (P room)(h:a<=b):Jh P room a b 1 0 0 [] Jd:=⟨ZQq P room,ZQz P,ZP2 room,ZUX h,ZSR⟩
theorem Jh.mono {P:List YK}{room N M N' M' G:Nat}{a b:Int}{T:List Int}{s:Z9}(h:Jh P room a b N M G T s)(h1:N<=N')(h2:M<=M'):Jh P room a b N' M' G T s:=by
 obtain⟨q1,q2,q3⟩:=h.all;exact⟨⟨q1.mono h1 h2,q2,⟨q3.le,Zf8 q3.top h1,q3.put,q3.res⟩⟩,h.held,h.room,h.sv,h.ser⟩
theorem Jh.perm {P:List YK}{room N M G:Nat}{a b:Int}{T T':List Int}{s:Z9}(h:Jh P room a b N M G T s)(p:T.Perm T'):Jh P room a b N M G T' s:=⟨h.all,h.held,h.room,h.sv,h.ser.perm p⟩
theorem ZW2 (room)(h:room<=4096):ZEV PT room:=⟨ZVx,by decide,⟨rfl,rfl⟩,rfl,h⟩
section
variable [Foreign]
theorem ZQZ (w:World)(g:Zz)(O C:Zhf)(xb:Nat->Nat)(L:List Zg)(s:Z9)(n:Nat)(h:YQ w g O C xb L s)(hn:n<=4611686018427387903)(hc:s.clk<=4611686018427387903): Calls prog 42 #[ZH g.gx,.int .i64 n] w λe w'=>(∃v,e=.returned (.tuple #[.int .i64 v,.int .i64 0]))/\ZBo w g O C xb L {s with clk:=min (s.clk+n) 4611686018427387903} w':=by
 obtain⟨Fm,hm,-,b0,-,-,-,-,-,-,-,aE⟩:=h.swap;have TK:=ZA (λu (x:ZM w u)=>ZUR u Fm g.gm s.ws (s.clk:Int) L (n:Int) (hm.ext x) ZB ZB ZB ZB)
 have HG:=ZA (λw' (hh:JH w Fm g.gm s.ws (min ((s.clk:Int)+(n:Int)) 4611686018427387903) L w')=>aE L w' (min (s.clk+n) 4611686018427387903) (by
  have e:((min (s.clk+n) 4611686018427387903:Nat):Int)=min ((s.clk:Int)+(n:Int)) 4611686018427387903:=by omega
  rw[e];exact hh))
 have c2:=h.rd.c2;have l0:=h.rd.l0;obtain⟨T,hT⟩:=ZX2 (min ((s.clk:Int)+(n:Int)) 4611686018427387903);rw[hT.out]at TK HG;obtain⟨s',Hs'⟩:=ZX2 ({s with clk:=min (s.clk+n) 4611686018427387903});rw[Hs'.o]at HG ⊢;clear h hm aE hc hn;go_enter func42,ntmps42;go_wp2_with fail;refine(TK.out _ (ZM.refl w)).mono ?_;rintro e w1 ⟨rfl,aE⟩;have H1:=ZA (HG.o _ aE);clear aE;go_wp2_with fail
 go_ret2
 exact⟨⟨_,rfl⟩,H1.o⟩
theorem ZON{a:Xf}{k:Int}(hk:k=2\/k=3\/k=4)(hn:n<63)(aB:(a.ls n).st=0){D:Nat->Nat->Prop}(A m c)(h:Yc w gd g C xb L a.ks a.dr a.ls D): Calls prog 19 #[ZH gd,.agg #[.int .u8 k,.int .i64 n,.slice A m c,.int .i64 0]] w (Xj (.int .i64 7) w):=by
 obtain⟨W,hW,xW,k0⟩:=Za w (.cells #[.int .u8 k,.int .i64 n,.slice A m c,.int .i64 0] 90);have hA:=h.ext xW;have IS:=ZA (ZBk n W hn);have LN:=ZA (ZD9 W gd g C xb L a.ks a.dr a.ls D n hA hn aB);have e0:=ZX1 k0.out 0 (.int .u8 k);have e1:=ZX1 k0.out 1 (.int .i64 n);have XW:=ZA xW;have HW:=ZA hW;clear h hA xW aB hW k0;rcases hk with rfl|rfl|rfl
 all_goals
  go_enter func19,ntmps19;go_upto_region 1 with fail
  (try rw[HW.o])
  clear HW;go_wp2_with fail;refine IS.o.mono ?_;rintro e w1 ⟨rfl,rfl⟩;go_wp2_with fail;refine LN.o.mono ?_;rintro e w1 ⟨rfl,rfl⟩;go_wp2_with fail;go_ret;exact⟨rfl,XW.o⟩
theorem ZIm (w:World)(gd n:Nat):Calls prog 57 #[ZH gd,.int .i64 n,.bool true] w λe w'=>e=.returned (.int .i64 9)/\w=w':=by
 go_enter func57,ntmps57;go_wp2_with fail;go_ret;exact⟨rfl,rfl⟩
theorem ZVQ{a:Xf}(hn:n<63)(aB:(a.ls n).st≠0){D:Nat->Nat->Prop}(h:Yc w gd g C xb L a.ks a.dr a.ls D): Calls prog 19 #[ZH gd,.agg #[.int .u8 1,.int .i64 n,.slice none 0 0,.int .i64 0]] w (Xj (.int .i64 9) w):=by
 obtain⟨V2,V5,V9,V10,V11,V13⟩:=QA;exact Qn
theorem ZTW{a:Xf}(hn:n<63)(aB:(a.ls n).st=2){D:Nat->Nat->Prop}(h:Yc w gd g C xb L a.ks a.dr a.ls D): Calls prog 19 #[ZH gd,.agg #[.int .u8 4,.int .i64 n,.slice none 0 0,.int .i64 0]] w (Xj (.int .i64 13) w):=by
 obtain⟨V1,V6⟩:=QA;exact QT
theorem ZRO{a:Xf}(hn:n<63)(aB:(a.ls n).st=1)(dS:a.dr=false)(hs:(a.ls n).cn=some s)(hf:s.fin≠0){D:Nat->Nat->Prop}(A m c)(h:Yc w gd g C xb L a.ks a.dr a.ls D): Calls prog 19 #[ZH gd,.agg #[.int .u8 2,.int .i64 n,.slice A m c,.int .i64 0]] w (Xj (.int .i64 13) w):=by
 obtain⟨V5,V9,V10,V14⟩:=QA;exact QT
def ZWx (s:Z9)(n:Nat):Z9:={s with clk:=min (s.clk+n) 4611686018427387903}
theorem ZRP (w:World)(gd:Nat)(g:Zz)(C:Zhf)(xb:Nat->Nat)(L:List Zg)(ks:Z9)(dr:Bool)(ls:Nat->Jj)(D:Nat->Nat->Prop)(n:Nat)(h:Yc w gd g C xb L ks dr ls D)(hn:n<63): ∃p,Calls prog 56 #[ZH gd,.int .i64 n] w λe w'=>e=.returned (.pointer p)/\w=w':=by
 by_cases aB:(ls n).st=0
 ·exact⟨_,ZD9 w gd g C xb L ks dr ls D n h hn aB⟩
 ·exact⟨_,ZBH w gd g C xb L ks dr ls D n h hn aB⟩
theorem ZVM {g:Zz}{X:Nat}{a:Xf}(hX:X<=4611686018427387903)(hc:a.ks.clk<=4611686018427387903):ZIr g 5 0 (X:Int) 0 a {a with ks:=ZWx a.ks X}:=by
 intro w gd C xb L D h hL;obtain⟨W,hW,xW,k0⟩:=Za w (.cells #[.int .u8 5,.int .i64 0,.slice none 0 0,.int .i64 X] 90);have hA:=h.ext xW;obtain⟨p,aF⟩:=ZRP W gd g C xb L a.ks a.dr a.ls D 0 hA ZB;have LN:=ZA (show Calls prog 56 #[ZH gd,.int .i64 0] W λe w'=>e=.returned (.pointer p)/\W=w' from aF);obtain⟨fp,c0,-,az⟩:=hA.core;have TF:=ZA (λw=>ZA7 (X:Int) w ZB ZB);have TK:=ZA (λu (y:ZM W u)=>ZQZ u g _ C xb L a.ks X (fp.ext y) hX hc);have e0:=ZX1 k0.out 0 (.int .u8 5);have e1:=ZX1 k0.out 1 (.int .i64 0);have e3:=ZX1 k0.out 3 (.int .i64 X);have dP:=ZA az;have Gf:=ZA (show ¬C gd from λe=>fp.co _ e (.inl (.inl rfl)));have Ge:=ZA (show ¬C w.heap.size from λe=>by have:=h.lt _ (.inl e);omega);have XW:=ZA xW;have HW:=ZA hW;clear h hA xW hW aF fp az hX hc;go_enter func19,ntmps19;go_upto_region 1 with fail
 (try rw[HW.o])
 clear HW;go_wp2_with fail;refine(TF.out _).mono ?_;rintro e w1 ⟨rfl,rfl⟩;go_wp2_with fail;refine LN.o.mono ?_;rintro e w1 ⟨rfl,rfl⟩;go_upto_region 8 with fail
 go_region_held3 (λw'=>w'.cell? ⟨gd,0,none⟩=some (ZH g.gx)/\w'.cell? ⟨w.heap.size,3,none⟩=some (.int .i64 X)) (((try go_split_ands);exact⟨ZX7,ZX7⟩)) ((go_at_call 42;(with_reducible refine(TK.out _ (by with_reducible first|exact ZM.refl _|exact(ZM.refl _).drew)).mono ?_);rintro e w3 ⟨⟨tv,rfl⟩,aE⟩;obtain⟨C',hmv⟩:=aE.mov;have i6:=ZA (hmv.back (show ZM W _ from by with_reducible first|exact ZM.refl _|exact(ZM.refl _).drew));obtain⟨_,gg,_⟩:=hmv;have zK:=gg.cell (by with_reducible first|exact c0|exact ZJ c0) Gf.o;have ix:=gg.cell (by with_reducible first|exact e3|exact ZJ e3) Ge.o;clear gg aE))
 all_goals
  go_wp2_with fail;go_ret;obtain⟨a1,a2,a3⟩:=dP.o _ _ _ _ _ i6.o;exact⟨rfl,Y0.back XW.o ⟨_,_,_,_,Zf7 _,a1,a2,a3⟩⟩
theorem ZLO{a:Xf}(hn:n<63)(aC:ZAJ (a.ks.call n)=false)(aB:(a.ls n).st=1)(dS:a.dr=false)(bM:(a.ls n).cn=some s)(ho:s.out=none)(hcl:s.closed=false)(fm:s.line=[])(hf:s.fin=0)(da:s.wr.length<=1000000)(gO:(a.ls n).wr.length<=1000000): ZDq g n a ⟨a.ks,Zr a.ls n (Xv (a.ls n)),a.dr⟩:=by
 obtain⟨V4,V7,V11,V15,V17,V21⟩:=QA;exact QJ
end
section
variable [Foreign]
theorem ZQb (w:World)(g:Zz)(O C:Zhf)(xb:Nat->Nat)(L:List Zg)(s:Z9)(who pol kl kc op:Nat)(N:Int)(K:Option Addr)(h:YQ w g O C xb L s)(hw:who<64)(CK:∀u,Rd u g.PA (ZAB g.P)->Calls prog 85 #[.slice g.PA g.P.length g.pc,.agg #[.int .u8 op,.int .i64 pol,.slice K kl kc,.int .i64 N]] u (Xj (.int .i64 6) u)): Calls prog 41 #[ZH g.gx,.int .i64 who,.agg #[.int .u8 op,.int .i64 pol,.slice K kl kc,.int .i64 N]] w (Xj (.int .i64 6) w):=by
 obtain⟨V3,V6,V10⟩:=QA;exact QS
def ZPW (g:Zz)(n:Nat)(ks:Z9)(x:ZW):Prop:=∀(u:World) (O C:Zhf) (xb:Nat->Nat) (L:List Zg) (K:Option Addr) (m kc:Nat),YQ u g O C xb L ks->x.key.length=m-> Calls prog 41 #[ZH g.gx,.int .i64 n,.agg #[.int .u8 (x.op:Int),.int .i64 (x.pol:Int),.slice K m kc,.int .i64 x.n]] u (Xj (.int .i64 6) u)
theorem ZLQ(hn:n<64)(aZ:g.P.length<=32)(hP:∀p ∈ g.P,Yt p)(ho:1<=x.op/\x.op<=6)(hN:x.op=1->0<=x.n/\x.n<=4611686018427387903)(hl:x.key.length<=255)(hb:∀b ∈ x.key,b<256)(cd:¬Yn g.P x):ZPW g n ks x:=λu O C xb L K m kc h hm=>by
 subst hm;have h4:x.op<=4:=by
  rcases ZgC 4 x.op with q|q
  ·exact absurd ⟨ho.1,ho.2,λe=>absurd e ZB,λe=>absurd e ZB,λe=>absurd e ZB⟩ cd
  ·exact q
 refine ZQb u g O C xb L ks n x.pol x.key.length kc x.op x.n K h hn (λv hr=>?_);have hop:(x.op:Int)=1\/(x.op:Int)=2\/(x.op:Int)=3\/(x.op:Int)=4:=by omega
 by_cases hp:g.P.length<=x.pol
 ·exact ZMX g.P g.PA K g.P.length g.pc x.pol x.key.length kc (x.op:Int) x.n v rfl aZ hP hr hop hp (λe=>hN ZB) hl
 ·refine ZMW g.P g.PA K g.P.length g.pc x.pol x.key.length kc (x.op:Int) x.n v rfl aZ hP hr ZB ?_ (λe=>hN ZB) hl;have hk:(Zf g.P x.pol).kind=1\/(Zf g.P x.pol).kind=2:=by
   rcases ZDV hP (show x.pol<g.P.length by omega)with q|q
   ·exact .inl q.1
   ·exact .inr q.1
  have an:x.op<=4->x.pol<g.P.length/\x.key.length<=255/\∀b ∈ x.key,b<256:=λ_=>⟨by omega,hl,hb⟩;rcases(show x.op=1\/x.op=2\/x.op=3\/x.op=4 by omega)with e|e|e|e
  ·rcases hk with q|q
   ·exact absurd ⟨ho.1,ho.2,an,λ_=>⟨q,hN e⟩,λe=>absurd e ZB⟩ cd
   ·exact .inl ⟨by omega,q⟩
  ·rcases hk with q|q
   ·exact .inr (.inl ⟨by omega,q⟩)
   ·exact absurd ⟨ho.1,ho.2,an,λe=>absurd e ZB,λ_=>q⟩ cd
  ·rcases hk with q|q
   ·exact .inr (.inr ⟨by omega,q⟩)
   ·exact absurd ⟨ho.1,ho.2,an,λe=>absurd e ZB,λ_=>q⟩ cd
  ·exact absurd ⟨ho.1,ho.2,an,λe=>absurd e ZB,λe=>absurd e ZB⟩ cd
theorem ZIZ{a:Xf}(hn:n<63)(aC:ZAJ (a.ks.call n)=false)(aB:(a.ls n).st=1)(bM:(a.ls n).cn=some s)(ho:s.out=none)(hcl:s.closed=false)(fm:s.line=c::rest)(aX:c.key.length<=255)(hi:ZB0 s)(da:s.wr.length<=90000)(gO:(a.ls n).wr.length<=900000)(cC:s.led.length<=100000 - 1)(uL:s.hung=false)(SC:ZPW g n a.ks (ZAx c)): ZDq g n a ⟨a.ks,Zr a.ls n (Xv (JO {a.ls n with cn:=some {s with line:=rest,out:=some c}} (YY 6))),a.dr⟩:=by
 obtain⟨V2,V13,V17,V19⟩:=QA;exact QJ
end
theorem ZD1:∀(l:List Zy) (xs ys:List (List Nat)),(Z1 l xs).2=false->Z1 l (xs++ys)=Z1 (Z1 l xs).1 ys
 |l,[],ys,_=>by rw[Zfb];simp[Z1]
 |l,x::xs,ys,h=>by
  cases hx:ZCF x with
  |none=>
   have e:∀zs,Z1 l (x::zs)=(l,true):=λzs=>by simp[Z1,hx]
   rw[e]at h;cases h
  |some c=>
   have e:∀zs,Z1 l (x::zs)=Z1 (l++[c]) zs:=λzs=>by simp[Z1,hx]
   rw[e]at h;rw[Zen,e,e];exact ZD1 (l++[c]) xs ys h
noncomputable def upS (xs:List Nat):XQ:=ZF0 ZET xs
theorem ZVE (s:XQ)(al):ZF0 s al=⟨Jc al,(Zp al).2.2,(Z1 s.line (Zp al).1).1,if (Z1 s.line (Zp al).1).2=true then 3 else ZEi al,s.out,s.wr,s.led,s.closed,s.hung⟩:=rfl
noncomputable def YH (cm:List Nat):List Zy:=(upS cm).line
def Y7 (a b:Int)(cs:List Zy)(rs:List Zt):Nat:=((cs.zip rs).map λp=>ZCM a b (ZAx p.1) p.2).sum
def ZCL (p:Zy × Zt):List Int:=if p.1.op=2/\p.2.granted=true then [p.2.ser] else []
def Xl (cs:List Zy)(rs:List Zt):List Int:=(cs.zip rs).flatMap ZCL
theorem ZKw {α β:Type}{cs done rest:List α}{c:α}{rs:List β}(r:β)(h:cs=done++c::rest)(hl:done.length=rs.length):cs.zip (rs++[r])=cs.zip rs++[(c,r)]:=by
 subst h;have e:(done++c::rest).zip (rs++[])=done.zip rs++(c::rest).zip []:=Zft hl;rw[Zek]at e;rw[Zft hl,e];simp
theorem ZMx {α β:Type}{cs:List α}{rs more:List β}(h:cs.length=rs.length):cs.zip (rs++more)=cs.zip rs:=by
 have e:(cs++[]).zip (rs++more)=cs.zip rs++([]:List α).zip more:=Zft h;rw[Zek]at e;rw[e];simp
theorem ZKx {α β:Type}:∀{cs more:List α} {rs:List β},rs.length<=cs.length->(cs++more).zip rs=cs.zip rs
 |_,_,[],_=>by simp
 |[],_,r::rs,h=>by simp at h
 |c::cs,more,r::rs,h=>by
  rw[Zen,Zfu,Zfu,ZKx (by simpa using h)]
theorem ZHE(r)(h:cs=done++c::rest)(hl:done.length=rs.length):Y7 a b cs (rs++[r])=Y7 a b cs rs+ZCM a b (ZAx c) r:=by
 unfold Y7;rw[ZKw r h hl,List.map_append,List.sum_append];simp
theorem ZHD(r)(h:cs=done++c::rest)(hl:done.length=rs.length):Xl cs (rs++[r])=Xl cs rs++ZCL (c,r):=by
 unfold Xl;rw[ZKw r h hl,Zew];simp
theorem ZK7{more:List Zt}(h:cs.length=rs.length):Y7 a b cs (rs++more)=Y7 a b cs rs/\Xl cs (rs++more)=Xl cs rs:=by
 unfold Y7 Xl;rw[ZMx h];exact⟨rfl,rfl⟩
theorem ZPg{more:List Zy}(h:rs.length<=cs.length):Y7 a b (cs++more) rs=Y7 a b cs rs/\Xl (cs++more) rs=Xl cs rs:=by
 unfold Y7 Xl;rw[ZKx h];exact⟨rfl,rfl⟩
def ZXo (P:List YK)(t:Jp):Prop:=0<=t.pol/\t.key.length<=255/\(∀x ∈ t.key,x<256)/\Yn P (ZHF t)
def ZF4 (P:List YK)(B:Nat)(l:List Jp):Prop:=l.length<=B/\∀t ∈ l,ZXo P t
theorem ZF4.mono{l:List Jp}(h:ZF4 P B l)(hb:B<=B'):ZF4 P B' l:=⟨Zf8 h.1 hb,h.2⟩
structure ZFY (P:List YK)(l:Jj)(cm:List Nat)(rs:List Zt)(B:Nat)(s:XQ):Prop where
 l:l=⟨some s,1,ZAY rs,false,[],false⟩
 i:ZB0 s
 closed:s.closed=false
 hung:s.hung=false
 wr:s.wr=[]
 led:ZF4 P B s.led
 fin:s.fin=(upS cm).fin
 ok:s.fin=0->s.ws=(upS cm).ws/\s.cl=false/\(Zp cm).2.2=false/\(Z1 [] (Zp cm).1).2=false
 done:∃done,YH cm=done++(s.out.toList++s.line)/\done.length=rs.length
structure ZGd (P:List YK)(l:Jj)(cm:List Nat)(rs:List Zt)(B:Nat)(s:XQ):Prop where
 cn:l.cn=some s
 st:l.st=2
 lwr:l.wr=ZAY rs
 i:ZB0 s
 hung:s.hung=true
 wr:s.wr=[]
 led:ZF4 P B s.led
 toks:ZF4 P B l.toks
 len:rs.length<=(YH cm).length+1
def ZEv (P:List YK)(kc:ZAP)(l:Jj)(s:XQ):Prop:=match kc with
 |.idle=>s.out=none/\l.rel=false
 |.run x _ _ _=>(l.rel=false/\∃c,s.out=some c/\x=ZAx c/\Yn P x)\/(l.rel=true/\l.toks≠[]/\x.op=3/\s.out=none)
def ZVl (P:List YK)(kc:ZAP)(l:Jj)(cm:List Nat)(rs:List Zt)(B:Nat):Prop:=(l.st=0/\kc=.idle/\l.wr=ZAY rs/\rs.length<=(YH cm).length+1)\/ (∃s,ZFY P l cm rs B s/\ZEv P kc l s)\/ ∃s,ZGd P l cm rs B s/\ZEv P kc l s
structure ZEK (P:List YK)(kc:ZAP)(l:Jj)(cm:List Nat)(rs:List Zt)(B:Nat):Prop where
 ph:ZVl P kc l cm rs B
 reps:∀r ∈ rs,ZAN r
 rl:rs.length<=B
 byte:∀x ∈ cm,x<256
 cl:cm.length<=1010*B
theorem ZFY.mono {P:List YK}{l:Jj}{cm:List Nat}{rs:List Zt}{B B':Nat}{s:XQ}(h:ZFY P l cm rs B s)(hb:B<=B'):ZFY P l cm rs B' s:=⟨h.l,h.i,h.closed,h.hung,h.wr,h.led.mono hb,h.fin,h.ok,h.done⟩
theorem ZGd.mono(h:ZGd P l cm rs B s)(hb:B<=B'):ZGd P l cm rs B' s:=⟨h.cn,h.st,h.lwr,h.i,h.hung,h.wr,h.led.mono hb,h.toks.mono hb,h.len⟩
theorem ZVl.mono(h:ZVl P kc l cm rs B)(hb:B<=B'):ZVl P kc l cm rs B':=by
 rcases h with h|⟨s,h1,h2⟩|⟨s,h1,h2⟩
 ·exact .inl h
 ·exact .inr (.inl ⟨s,h1.mono hb,h2⟩)
 ·exact .inr (.inr ⟨s,h1.mono hb,h2⟩)
theorem ZEK.mono(h:ZEK P kc l cm rs B)(hb:B<=B'):ZEK P kc l cm rs B':=⟨h.ph.mono hb,h.reps,Zf8 h.rl hb,h.byte,Zf8 h.cl (Nat.mul_le_mul_left _ hb)⟩
theorem ZY7 {p:Prop}(h:p:=by
 exact⟨w1,w2,w3,w4,rfl,w5,w6,rfl,by show(XK s 0 B).led.length<=_;rw[w7];omega,λt ht=>.inl (by rw[<-w7];exact ht)⟩):p:=h
theorem ZCB (s:XQ)(c:Zy)(e sn B):(YJ s c e sn B).ws=s.ws/\(YJ s c e sn B).cl=s.cl/\(YJ s c e sn B).line=s.line/\(YJ s c e sn B).fin=s.fin/\(YJ s c e sn B).out=none/\(YJ s c e sn B).closed=s.closed/\(YJ s c e sn B).hung=s.hung/\(YJ s c e sn B).wr=(XK s 0 B).wr/\ (YJ s c e sn B).led.length<=s.led.length+1/\∀t ∈ (YJ s c e sn B).led,t ∈ s.led\/(c.op=2/\t=⟨(c.pol:Int),c.key,sn⟩):=by
 have hw:(XK s 0 B).ws=s.ws/\(XK s 0 B).cl=s.cl/\(XK s 0 B).line=s.line/\(XK s 0 B).fin=s.fin/\(XK s 0 B).closed=s.closed/\(XK s 0 B).hung=s.hung/\(XK s 0 B).led=s.led:=by
  unfold XK;split<;>exact⟨rfl,rfl,rfl,rfl,rfl,rfl,rfl⟩
 obtain⟨w1,w2,w3,w4,w5,w6,w7⟩:=hw;unfold YJ;split
 ·split
  ·next h2=>
   refine⟨w1,w2,w3,w4,rfl,w5,w6,rfl,?_,λt ht=>?_⟩
   ·show(s.led++[_]).length<=_;rw[ZfE];exact Zf6 _
   ·rcases ZfN.1 ht with ht|ht
    ·exact .inl ht
    ·rw[Zfa]at ht;exact .inr ⟨h2,ht⟩
  ·split
   ·refine⟨w1,w2,w3,w4,rfl,w5,w6,rfl,?_,λt ht=>?_⟩
    ·dsimp only;split
     ·omega
     ·next i _=>have:=List.length_eraseIdx_le s.led i;omega
    ·dsimp only at ht;split at ht
     ·exact .inl ht
     ·exact .inl (ZfW ht)
   ·exact ZY7
 ·exact ZY7
theorem ZGJ{e:Int}(h:ZF4 P B s.led)(hc:Yn P (ZAx c)):ZF4 P (B+1) (YJ s c e sn bs).led:=by
 obtain⟨-,-,-,-,-,-,-,-,h1,h2⟩:=ZCB s c e sn bs;refine⟨Zf8 h1 (Nat.succ_le_succ h.1),λt ht=>?_⟩;rcases h2 t ht with q|⟨q,rfl⟩
 ·exact h.2 t q
 ·have q:(ZAx c).op=2:=q;obtain⟨a1,a2,a3,a4,a5⟩:=hc;obtain⟨b1,b2,b3⟩:=a3 ZB;exact⟨by show(0:Int)<=(c.pol:Int);omega,b2,b3,by show 1<=3;omega,by show 3<=6;omega,λ_=>⟨b1,b2,b3⟩,λe=>absurd e (by show ¬3=1;omega),λ_=>a5 (.inl q)⟩
theorem ZLx{e:Int}(h:ZF4 P B s.led)(he:e≠0):ZF4 P B (YJ s c e sn bs).led:=by
 have:(YJ s c e sn bs).led=s.led:=by
  unfold YJ;rw[Zgk he];exact ZBN s 0 bs
 rw[this];exact h
theorem ZM0{B:List Nat}(hh:s.hung=false)(hw:s.wr=[]):(XK s 0 B).wr=Js B.length++B:=by
 unfold XK;rw[Zgl ⟨rfl,hh⟩];show s.wr++_=_;rw[hw];rfl
theorem ZM1{B:List Nat}(hh:s.hung=true):(XK s 0 B).wr=s.wr:=by
 unfold XK;rw[Zgk (λh=>by rw[hh]at h;cases h.2)]
theorem ZDS(hl:l.cn=some s)(ho:s.out=some c)(r:Zt):JO l r={l with cn:=some (YJ s c (r.er:Int) r.ser (Y2 r))}:=by
 unfold JO;rw[hl]
 dsimp only
 rw[ho]
theorem ZLD(hl:l.cn=some s):Xv l={l with cn:=some {s with wr:=[]},wr:=l.wr++s.wr}:=by
 unfold Xv;rw[hl]
theorem ZB1(hl:l.cn=some s)(hw:s.wr=[]):Xv l=l:=by
 rw[ZLD hl,hw,Zek];have e:{s with wr:=[]}=s:=by rw[<-hw]
 rw[e,<-hl]
theorem ZFE{r:Zt}(h:ZFY P l cm rs B s0)(hs:s.ws=s0.ws/\s.cl=s0.cl/\s.fin=s0.fin/\s.closed=false/\s.hung=false/\s.wr=[]/\s.led=s0.led/\ZB0 s)(ho:s.out=some c)(hd:∃done,YH cm=done++c::s.line/\done.length=rs.length)(hr:ZAN r)(cC:ZF4 P B' (YJ s c (r.er:Int) r.ser (Y2 r)).led): ∃s',Xv (JO {l with cn:=some s} r)=⟨some s',1,ZAY (rs++[r]),false,[],false⟩/\ZFY P (Xv (JO {l with cn:=some s} r)) cm (rs++[r]) B' s'/\s'.out=none/\(∃s2,(JO {l with cn:=some s} r).cn=some s2/\s2.wr.length<=1000000):=by
 obtain⟨k1,k2,k3,k4,k5,k6,k7,k8⟩:=hs;obtain⟨q1,q2,q3,q4,q5,q6,q7,q8,-⟩:=ZCB s c (r.er:Int) r.ser (Y2 r);have hB:∀x ∈ Y2 r,x<256:=ZKA (ZAf hr);have qh:=ZGo (ZAf hr);have mw:=ZFR k8 ho (r.er:Int) r.ser hB;rw[ZM0 k5 k6]at q8;have e1:=ZDS (l:={l with cn:=some s}) (s:=s) (c:=c) rfl ho r;obtain⟨s2,dq⟩:=ZX3 (YJ s c (r.er:Int) r.ser (Y2 r));rw[dq]at q1 q2 q3 q4 q5 q6 q7 q8 mw e1 cC;have e2:Xv (JO {l with cn:=some s} r)=⟨some {s2 with wr:=[]},1,ZAY (rs++[r]),false,[],false⟩:=by
  rw[e1,ZLD rfl,ZH1,<-q8,h.l]
 obtain⟨done,eM,eT⟩:=hd;refine⟨{s2 with wr:=[]},e2,⟨e2,ZEA mw,q6.trans k4,q7.trans k5,rfl,cC,?_,λhf=>?_,done++[c],?_,by rw[ZfE,ZfE,eT];rfl⟩,q5,s2,by rw[e1],?_⟩
 ·show s2.fin=_;rw[q4,k3];exact h.fin
 ·have hf:s2.fin=0:=hf;obtain⟨o1,o2,o3⟩:=h.ok (by rw[<-k3,<-q4];exact hf);exact⟨by show s2.ws=_;rw[q1,k1];exact o1,by show s2.cl=_;rw[q2,k2];exact o2,o3⟩
 ·show YH cm=(done++[c])++(s2.out.toList++s2.line);rw[q5,q3,eM];simp
 ·rw[q8,ZfE,qh];have e4:(Js 34).length=4:=rfl;omega
section
variable [Foreign]
structure ZT9 (P:List YK)(room:Nat)(a b:Int)(N M:Nat)(T:List Int)(ks':Z9)(cs:List Zy)(rs rs':List Zt)(p p' G G':Nat):Prop where
 core:Jh P room a b N M G' T ks'
 amt:Y7 a b cs rs'+p'+G<=Y7 a b cs rs+p+G'
 ser:Xl cs rs'=Xl cs rs\/∃z,Xl cs rs'=Xl cs rs++[z]/\Jh P room a b N M G' (z::T) ks'
def ZXd (g:Zz)(a b:Int)(N M G:Nat)(T:List Int)(n:Nat)(a1:Xf)(cm:List Nat)(rs:List Zt)(p:Nat):Prop:=∃l' s' rs' G',ZIV g n a1 ⟨(YM g.P g.room a1.ks n).1,Zr a1.ls n l',a1.dr⟩/\l'.cn=some s'/\l'.wr.length<=1000000/\s'.wr.length<=1000000/\ZEK g.P ((YM g.P g.room a1.ks n).1.call n) (Xv l') cm rs' (M+1)/\ ZT9 g.P g.room a b (N+1) (M+1) T (YM g.P g.room a1.ks n).1 (YH cm) rs rs' p (ZHj a b ((YM g.P g.room a1.ks n).1.call n)) G G'
theorem ZCp(h:∀r ∈ rs,ZAN r)(hl:rs.length<=B)(hB:B<=2000):(ZAY rs).length<=76000:=by
 rw[ZJX h];omega
theorem ZFm{r:Zt}(h:∀q ∈ rs,ZAN q)(hr:ZAN r):∀q ∈ rs++[r],ZAN q:=λq hq=>by
 rcases ZfN.1 hq with hq|hq
 ·exact h q hq
 ·rw[Zfa]at hq;rw[hq];exact hr
theorem ZMr{k:YX}(hP:ZEV g.P g.room)(hn:n<63)(hM:M<=1000)(hN:N<=5000)(h:Jh g.P g.room a b N M G T a1.ks)(hc:a1.ks.call n=.run x res ser k)(hl:a1.ls n={l with cn:=some s})(ho:ZFY g.P l cm rs M s0)(hs:s.ws=s0.ws/\s.cl=s0.cl/\s.fin=s0.fin/\s.closed=false/\s.hung=false/\s.wr=[]/\s.led=s0.led/\ZB0 s)(eC:s.out=some c)(hx:x=ZAx c)(hk:Yn g.P x)(hd:∃done,YH cm=done++c::s.line/\done.length=rs.length)(hr:∀r ∈ rs,ZAN r)(dw:rs.length<=M)(hb:∀x ∈ cm,x<256)(hcl:cm.length<=1010*M): ZXd g a b N M G T n a1 cm rs (ZDn a b x k):=by
 have ok:=ZTf (who:=n) ZB h.all ZB hP.l32 hP.ok hc;have hw:=ZCp hr dw ZB;have nG:l.rel=false/\l.wr=ZAY rs/\l.toks=[]/\l.looked=false/\l.st=1:=by rw[ho.l];exact⟨rfl,rfl,rfl,rfl,rfl⟩
 obtain⟨k1,k2,k3,k4,k5,k6,k7,k8⟩:=id hs;have bM:(a1.ls n).cn=some s:=by rw[hl]
 have gO:(a1.ls n).wr.length<=76000:=by rw[hl];show l.wr.length<=_;rw[nG.2.1];exact hw
 obtain⟨done,eM,eT⟩:=id hd;rcases ZIB hP ZB ZB ZB h hc with⟨res',ser',k',G',e1,e2,e3,e4⟩|⟨r,G',e1,e2,e3,e4,e5,e6⟩
 ·refine⟨a1.ls n,s,rs,G',by rw[ZA5];exact ZMt hn ok e1,bM,by omega,by rw[k6];exact ZgR _,?_,⟨e3,?_,.inl rfl⟩⟩
  ·rw[ZB1 bM k6,hl,e2];refine⟨.inr (.inl ⟨s,⟨?_,k8,k4,k5,k6,by rw[k7];exact ho.led.mono (Zf7 _),by rw[k3];exact ho.fin,λhf=>?_,done,?_,eT⟩,.inl ⟨?_,c,eC,hx,hk⟩⟩),hr,by omega,hb,by omega⟩
   ·rw[ho.l]
   ·obtain⟨o1,o2,o3⟩:=ho.ok (by rw[<-k3];exact hf);exact⟨by rw[k1];exact o1,by rw[k2];exact o2,o3⟩
   ·rw[eC,eM];simp
   ·exact nG.1
  ·rw[e2];show Y7 a b (YH cm) rs+ZDn a b x k'+G<=Y7 a b (YH cm) rs+ZDn a b x k+G';omega
 ·have cT:=ho.led.1;have ac:=ZJn hn ok e1 (by rw[hl];exact nG.1) bM k8 (by rw[k6];show 0<=1000000;omega) (by rw[k7];omega) eC e3;obtain⟨s',t1,t2,t3,s2,t4,t5⟩:=ZFE (B':=M+1) ho hs eC hd e3 (ZGJ (by rw[k7];exact ho.led) (by rw[<-hx];exact hk));have e9:JO (a1.ls n) r=JO {l with cn:=some s} r:=by rw[hl]
  rw[e9]at ac;have da:(JO {l with cn:=some s} r).wr.length<=1000000:=by
   rw[ZDS (l:={l with cn:=some s}) rfl eC];show l.wr.length<=_;rw[nG.2.1];omega
  refine⟨_,s2,rs++[r],G',ac,t4,da,t5,?_,⟨e4,?_,?_⟩⟩
  ·rw[e2];exact⟨.inr (.inl ⟨s',t2,t3,by rw[t1]⟩),ZFm hr e3,by rw[ZfE];simp;omega,hb,by omega⟩
  ·rw[e2,ZHE r eM eT,<-hx];show Y7 a b (YH cm) rs+ZCM a b x r+0+G<=_;omega
  ·rw[ZHD r eM eT];unfold ZCL
   split
   ·next q=>
    refine .inr ⟨r.ser,rfl,e6 ?_ q.2⟩;rw[hx];exact q.1
   ·exact .inl (Zek _)
theorem ZMs{k:YX}(hP:ZEV g.P g.room)(hn:n<63)(hM:M<=1000)(hN:N<=5000)(h:Jh g.P g.room a b N M G T a1.ks)(hc:a1.ks.call n=.run x res ser k)(ho:ZGd g.P (a1.ls n) cm rs M s)(fV:ZEv g.P (.run x res ser k) (a1.ls n) s)(hr:∀r ∈ rs,ZAN r)(dw:rs.length<=M)(hb:∀x ∈ cm,x<256)(hcl:cm.length<=1010*M): ZXd g a b N M G T n a1 cm rs (ZDn a b x k):=by
 have ok:=ZTf (who:=n) ZB h.all ZB hP.l32 hP.ok hc;have hw:=ZCp hr dw ZB;have gO:(a1.ls n).wr.length<=76000:=by rw[ho.lwr];exact hw
 have nd:s.wr.length<=1000000:=by rw[ho.wr];exact ZgR _
 rcases ZIB hP ZB ZB ZB h hc with⟨res',ser',k',G',e1,e2,e3,e4⟩|⟨r,G',e1,e2,e3,e4,e5,e6⟩
 ·refine⟨a1.ls n,s,rs,G',by rw[ZA5];exact ZMt hn ok e1,ho.cn,by omega,nd,?_,⟨e3,?_,.inl rfl⟩⟩
  ·rw[ZB1 ho.cn ho.wr,e2];exact⟨.inr (.inr ⟨s,ho.mono (Zf7 _),fV⟩),hr,by omega,hb,by omega⟩
  ·rw[e2];show Y7 a b (YH cm) rs+ZDn a b x k'+G<=Y7 a b (YH cm) rs+ZDn a b x k+G';omega
 ·have hG:Y7 a b (YH cm) rs+0+G<=Y7 a b (YH cm) rs+ZDn a b x k+G':=by omega
  rcases fV with⟨q1,c,q2,q3,q4⟩|⟨q1,q2,q3,q4⟩
  ·have cT:=ho.led.1;have ac:=ZJn hn ok e1 q1 ho.cn ho.i nd ZB q2 e3;obtain⟨f1,f2,f3,f4,f5,f6,f7,f8,-⟩:=ZCB s c (r.er:Int) r.ser (Y2 r);have hB:∀x ∈ Y2 r,x<256:=ZKA (ZAf e3);have mw:=ZFR ho.i q2 (r.er:Int) r.ser hB;have cC:=ZGJ (e:=(r.er:Int)) (sn:=r.ser) (bs:=Y2 r) ho.led (by rw[<-q3];exact q4);rw[ZM1 ho.hung,ho.wr]at f8;have e9:=ZDS ho.cn q2 r;rw[e9]at ac;refine⟨_,YJ s c (r.er:Int) r.ser (Y2 r),rs,G',ac,rfl,by show(a1.ls n).wr.length<=_;omega,by rw[f8];exact ZgR _,?_,⟨e4,by rw[e2];exact hG,.inl rfl⟩⟩;rw[ZB1 rfl f8,e2];exact⟨.inr (.inr ⟨_,⟨rfl,ho.st,ho.lwr,mw,f7.trans ho.hung,f8,cC,ho.toks.mono (Zf7 _),ho.len⟩,f5,q1⟩),hr,by omega,hb,by omega⟩
  ·obtain⟨t,ts,fy⟩:∃t ts,(a1.ls n).toks=t::ts:=by
    cases hq:(a1.ls n).toks with
    |nil=>exact absurd hq q2
    |cons t ts=>exact⟨t,ts,rfl⟩
   have fl:=ho.toks.1;rw[fy,ZfF]at fl;have ac:=ZRy hn ok e1 q1 fy ZB;refine⟨_,s,rs,G',ac,ho.cn,by show(a1.ls n).wr.length<=_;omega,nd,?_,⟨e4,by rw[e2];exact hG,.inl rfl⟩⟩;rw[ZB1 (l:={a1.ls n with toks:=ts,rel:=false}) ho.cn ho.wr,e2];exact⟨.inr (.inr ⟨s,⟨ho.cn,ho.st,ho.lwr,ho.i,ho.hung,ho.wr,ho.led.mono (Zf7 _),⟨by show ts.length<=_;omega,λu hu=>ho.toks.2 u (by rw[fy];exact ZfP _ hu)⟩,ho.len⟩,q4,rfl⟩),hr,by omega,hb,by omega⟩
end
section
variable [Foreign]
def ZIO (g:Zz)(a b:Int)(N M G:Nat)(T:List Int)(n:Nat)(d:Xf)(cm:List Nat)(rs:List Zt):Prop:=∃ks' l' rs' G',ZDq g n d ⟨ks',Zr d.ls n l',d.dr⟩/\(∀i,i≠n->ks'.call i=d.ks.call i)/\ZEK g.P (ks'.call n) l' cm rs' (M+1)/\ ZT9 g.P g.room a b (N+1) (M+1) T ks' (YH cm) rs rs' (ZHj a b (d.ks.call n)) (ZHj a b (ks'.call n)) G G'
theorem ZR7 (cm):(upS cm).fin<=16:=by
 have e:(upS cm).fin=if (Z1 [] (Zp cm).1).2=true then 3 else ZEi cm:=rfl
 rw[e];unfold ZEi
 split
 ·decide
 ·split<;>decide
theorem ZJJ(h:ZBr c.op c.pol c.key c.num):1<=c.op/\c.op<=6/\c.pol<32/\c.key.length<=255/\(∀x ∈ c.key,x<256)/\(c.op=1->c.num<=4611686018427387903):=by
 obtain⟨k1,-⟩:=ZQM h;refine⟨h.1.1,h.1.2.1,?_,k1,h.2.1,h.1.2.2.2.1⟩;by_cases q:c.op<5
 ·exact(h.1.2.2.1 q).1
 ·have:=(h.2.2.1 ZB).1;omega
theorem ZBu{s:Z9}{k:YX}(hc:s.call n=.run x res ser k):∀i,i≠n->(YM g.P g.room s n).1.call i=s.call i:=(ZNA hc).2
theorem ZHI{p:Nat}(h:Jh P room a b N M G T ks):ZT9 P room a b (N+1) (M+1) T ks cs rs rs p p G G:=⟨h.mono (Zf7 _) (Zf7 _),Zf6 _,.inl rfl⟩
theorem ZQV(hP:ZEV g.P g.room)(hn:n<63)(hM:M<=1000)(hN:N<=5000)(h:Jh g.P g.room a b N M G T d.ks)(dS:d.dr=false)(ho:ZFY g.P (d.ls n) cm rs M s)(fV:ZEv g.P (d.ks.call n) (d.ls n) s)(hr:∀r ∈ rs,ZAN r)(dw:rs.length<=M)(hb:∀x ∈ cm,x<256)(hcl:cm.length<=1010*M): ZIO g a b N M G T n d cm rs:=by
 have aB:(d.ls n).st=1:=by rw[ho.l]
 have bM:(d.ls n).cn=some s:=by rw[ho.l]
 have hw:=ZCp hr dw ZB;have gO:(d.ls n).wr.length<=76000:=by rw[ho.l];exact hw
 have cT:=ho.led.1;have aX:∀t ∈ s.led,t.key.length<=5000:=λt ht=>by have:=(ho.led.2 t ht).2.1;omega
 have nd:s.wr.length<=90000:=by rw[ho.wr];exact ZgR _
 obtain⟨done,eM,eT⟩:=ho.done;cases hc:d.ks.call n with
 |run x res ser k=>
  rw[hc]at fV;rcases fV with⟨q1,c,q2,q3,q4⟩|⟨q1,-⟩
  ·rw[q2]at eM;obtain⟨l',s',rs',G',e1,e2,e3,e4,e5,e6⟩:=ZMr (l:=d.ls n) (s:=s) (s0:=s) (c:=c) hP hn hM hN h hc (by rw[<-bM]) ho ⟨rfl,rfl,rfl,ho.closed,ho.hung,ho.wr,rfl,ho.i⟩ q2 q3 q4 ⟨done,by rw[eM];rfl,eT⟩ hr dw hb hcl;unfold ZIO;rw[hc];exact⟨_,Xv l',rs',G',ZF9 hn (by rw[hc];rfl) e1 e2 e3 e4,ZBu hc,e5,e6⟩
  ·rw[ho.l]at q1;cases q1
 |idle=>
  rw[hc]at fV;obtain⟨q1,-⟩:=fV;have aC:ZAJ (d.ks.call n)=false:=by rw[hc];rfl
  rw[q1]at eM;unfold ZIO;rw[hc];cases fm:s.line with
  |cons c rest=>
   rw[fm]at eM;have sE:=ho.i.2.1 c (by rw[fm];exact ZfQ);obtain⟨n1,n2,n3,n4,n5,n6⟩:=ZJJ sE;have dq:({s with line:=rest,out:=some c}:XQ).ws=s.ws/\({s with line:=rest,out:=some c}:XQ).cl=s.cl/\({s with line:=rest,out:=some c}:XQ).fin=s.fin/\({s with line:=rest,out:=some c}:XQ).closed=false/\({s with line:=rest,out:=some c}:XQ).hung=false/\({s with line:=rest,out:=some c}:XQ).wr=[]/\({s with line:=rest,out:=some c}:XQ).led=s.led/\ZB0 ({s with line:=rest,out:=some c}:XQ):=⟨rfl,rfl,rfl,ho.closed,ho.hung,ho.wr,rfl,ZJe ho.i fm⟩;by_cases hk:Yn g.P (ZAx c)
   ·have js:=ZGB (g:=g) (n:=n) (ks:=d.ks) (x:=ZAx c) hc ZB hP.l32 hP.ok hk n3 n4 n5;obtain⟨l',s',rs',G',e1,e2,e3,e4,e5,e6⟩:=ZMr (l:=d.ls n) (s:={s with line:=rest,out:=some c}) (s0:=s) (c:=c) (a1:=⟨ZDR d.ks n (ZAx c),Zr d.ls n {d.ls n with cn:=some {s with line:=rest,out:=some c}},d.dr⟩) hP hn hM hN (ZGU ZB h hk hc) (Zx _ _ _) (Zc _ _ _) ho dq rfl rfl hk ⟨done,eM,eT⟩ hr dw hb hcl
    dsimp only at e1 e5 e6
    rw[ZAt]at e1;rw[ZJY]at e6;refine⟨_,Xv l',rs',G',ZLP hn aC aB bM q1 ho.closed fm n4 js e1 e2 e3 e4,λi hi=>?_,e5,e6⟩;exact(ZBu (s:=ZDR d.ks n (ZAx c)) (Zx _ _ _) i hi).trans (Z0 _ _ hi)
   ·have js:=ZLQ (g:=g) (n:=n) (ks:=d.ks) (x:=ZAx c) ZB hP.l32 hP.ok ⟨n1,n2⟩ (λe=>⟨by show(0:Int)<=(c.num:Int);omega,by have:=n6 e;show(c.num:Int)<=_;omega⟩) n4 n5 hk;have pD:ZAN (YY 6):=ZBB (by decide);obtain⟨s',t1,t2,t3,-⟩:=ZFE (l:=d.ls n) (s:={s with line:=rest,out:=some c}) (c:=c) (r:=YY 6) (B':=M+1) ho dq rfl ⟨done,eM,eT⟩ pD (ZLx (ho.led.mono (Zf7 _)) (by decide));refine⟨d.ks,_,rs++[YY 6],G,ZIZ hn aC aB bM q1 ho.closed fm n4 ho.i nd ZB ZB ho.hung js,λ_ _=>rfl,⟨.inr (.inl ⟨s',t2,by rw[hc];exact⟨t3,by rw[t1]⟩⟩),ZFm hr pD,by rw[ZfE];simp;omega,hb,by omega⟩,⟨h.mono (Zf7 _) (Zf7 _),?_,.inl ?_⟩⟩
    ·rw[ZHE _ eM eT,ZAW (.inr rfl),hc];exact Zf6 _
    ·rw[ZHD _ eM eT];unfold ZCL;rw[Zgk (λq=>by cases q.2),Zek]
  |nil=>
   rw[fm]at eM;have ah:(YH cm).length=rs.length:=by rw[eM];simpa using eT
   by_cases hf:s.fin=0
   ·refine⟨d.ks,_,rs,G,ZLO hn aC aB dS bM q1 ho.closed fm hf ZB ZB,λ_ _=>rfl,?_,by rw[hc];exact ZHI h⟩;rw[ZB1 bM ho.wr,hc];exact⟨.inr (.inl ⟨s,ho.mono (Zf7 _),q1,by rw[ho.l]⟩),hr,by omega,hb,by omega⟩
   ·have sW:s.fin<=16:=by rw[ho.fin];exact ZR7 cm
    have wL:ZAN (YY s.fin):=ZBB sW;have sp:=ZJ5 (g:=g) hn aC aB bM q1 ho.closed ho.hung fm hf sW nd ZB ZB aX;rw[ZPm]at sp;have di:=ZK7 (a:=a) (b:=b) (more:=[YY s.fin]) ah;refine⟨d.ks,_,rs++[YY s.fin],G,sp,λ_ _=>rfl,⟨.inr (.inr ⟨_,⟨rfl,rfl,?_,ZEA (ZJf (ZEA ?_)),rfl,rfl,ho.led.mono (Zf7 _),?_,?_⟩,?_⟩),ZFm hr wL,by rw[ZfE];simp;omega,hb,by omega⟩,⟨h.mono (Zf7 _) (Zf7 _),?_,.inl di.2⟩⟩
    ·show(d.ls n).wr++(s.wr++(Js (Y2 (YY s.fin)).length++Y2 (YY s.fin)))=_;rw[ZH1,ho.wr,ho.l];rfl
    ·have hB:∀x ∈ Js (Y2 (YY s.fin)).length++Y2 (YY s.fin),x<256:=λx hx=>by
      rcases ZfN.1 hx with hx|hx
      ·exact ZKQ _ x hx
      ·exact ZKA (ZAf wL) x hx
     obtain⟨i1,i2,i3,i4,i5⟩:=ho.i
     exact⟨i1,i2,i3,λx hx=>by
      have hx:x ∈ s.wr++(Js (Y2 (YY s.fin)).length++Y2 (YY s.fin)):=hx;rcases ZfN.1 hx with hx|hx
      ·exact i4 x hx
      ·exact hB x hx,i5⟩
    ·rw[ho.l];exact⟨ZgR _,λt ht=>by cases ht⟩
    ·rw[ZfE,ah];exact Zf6 _
    ·rw[hc];exact⟨q1,by rw[ho.l]⟩
    ·rw[di.1,hc];exact Zf6 _
theorem ZQW(hP:ZEV g.P g.room)(hn:n<63)(hM:M<=1000)(hN:N<=5000)(h:Jh g.P g.room a b N M G T d.ks)(ho:ZGd g.P (d.ls n) cm rs M s)(fV:ZEv g.P (d.ks.call n) (d.ls n) s)(hr:∀r ∈ rs,ZAN r)(dw:rs.length<=M)(hb:∀x ∈ cm,x<256)(hcl:cm.length<=1010*M): ZIO g a b N M G T n d cm rs:=by
 have hw:=ZCp hr dw ZB;have gO:(d.ls n).wr.length<=76000:=by rw[ho.lwr];exact hw
 have cT:=ho.led.1;have aX:∀t ∈ s.led,t.key.length<=5000:=λt ht=>by have:=(ho.led.2 t ht).2.1;omega
 have nd:s.wr.length<=1000000:=by rw[ho.wr];exact ZgR _
 cases hc:d.ks.call n with
 |run x res ser k=>
  rw[hc]at fV;obtain⟨l',s',rs',G',e1,e2,e3,e4,e5,e6⟩:=ZMs hP hn hM hN h hc ho fV hr dw hb hcl;unfold ZIO;rw[hc];exact⟨_,Xv l',rs',G',ZF9 hn (by rw[hc];rfl) e1 e2 e3 e4,ZBu hc,e5,e6⟩
 |idle=>
  rw[hc]at fV;obtain⟨q1,q2⟩:=fV;have aC:ZAJ (d.ks.call n)=false:=by rw[hc];rfl
  have cS:ZF4 g.P M (Jb (d.ls n) s).toks:=by
   unfold Jb
   split
   ·exact ho.toks
   ·exact ho.led
  have k1:=ZLt (d.ls n) s;have k2:=ZLs (d.ls n) s;have k3:=ZSw (d.ls n) s;have k4:=ZQQ (d.ls n) s;have Ld:=cS.1;unfold ZIO;rw[hc];cases ht:(Jb (d.ls n) s).toks with
  |nil=>
   have sp:=ZGA (g:=g) (n:=n) (a:=d) (b:=⟨d.ks,Zr d.ls n (Xv {Jb (d.ls n) s with st:=0}),d.dr⟩) hn aC ho.st ho.cn ZB aX ZB (.inl ⟨ht,by omega,nd,rfl⟩);refine⟨d.ks,_,rs,G,sp,λ_ _=>rfl,?_,by rw[hc];exact ZHI h⟩;rw[ZB1 (l:={Jb (d.ls n) s with st:=0}) (k1.trans ho.cn) ho.wr,hc];exact⟨.inl ⟨rfl,rfl,k2.trans ho.lwr,ho.len⟩,hr,by omega,hb,by omega⟩
  |cons t ts=>
   obtain⟨t1,t2,t3,t4⟩:=cS.2 t (by rw[ht];exact ZfQ);have ee:(ZHF t).pol<32:=by
    have:=(t4.2.2.1 (by show 3<=4;omega)).1;have:=hP.l32;omega
   have js:=ZGB (g:=g) (n:=n) (ks:=d.ks) (x:=ZHF t) hc ZB hP.l32 hP.ok t4 ee t2 t3;have iL:ZGd g.P {Jb (d.ls n) s with rel:=true} cm rs M s:=⟨k1.trans ho.cn,k3.trans ho.st,k2.trans ho.lwr,ho.i,ho.hung,ho.wr,ho.led,cS,ho.len⟩;obtain⟨l',s',rs',G',e1,e2,e3,e4,e5,e6⟩:=ZMs (a1:=⟨ZDR d.ks n (ZHF t),Zr d.ls n {Jb (d.ls n) s with rel:=true},d.dr⟩) (cm:=cm) (rs:=rs) (s:=s) hP hn hM hN (ZGU ZB h t4 hc) (Zx _ _ _) (by show ZGd g.P (Zr d.ls n _ n) cm rs M s;rw[Zc];exact iL) (by show ZEv g.P _ (Zr d.ls n _ n) s;rw[Zc];exact .inr ⟨rfl,by show(Jb (d.ls n) s).toks≠[];rw[ht];exact List.cons_ne_nil _ _,rfl,q1⟩) hr dw hb hcl
   dsimp only at e1 e5 e6
   rw[ZAt]at e1;rw[ZJY]at e6;have sp:=ZGA (g:=g) (n:=n) (a:=d) (b:=⟨(YM g.P g.room (ZDR d.ks n (ZHF t)) n).1,Zr d.ls n (Xv l'),d.dr⟩) hn aC ho.st ho.cn ZB aX ZB (.inr ⟨t,ts,l',s',_,ht,rfl,t1,t2,js,e1,e2,e3,e4⟩);refine⟨_,Xv l',rs',G',sp,λi hi=>?_,e5,e6⟩;exact(ZBu (s:=ZDR d.ks n (ZHF t)) (Zx _ _ _) i hi).trans (Z0 _ _ hi)
theorem ZQU(hP:ZEV g.P g.room)(hn:n<63)(hM:M<=1000)(hN:N<=5000)(h:Jh g.P g.room a b N M G T d.ks)(dS:d.dr=false)(hl:ZEK g.P (d.ks.call n) (d.ls n) cm rs M)(aB:(d.ls n).st≠0):ZIO g a b N M G T n d cm rs:=by
 rcases hl.ph with⟨q,-⟩|⟨s,h1,h2⟩|⟨s,h1,h2⟩
 ·exact absurd q aB
 ·exact ZQV hP hn hM hN h dS h1 h2 hl.reps hl.rl hl.byte hl.cl
 ·exact ZQW hP hn hM hN h h1 h2 hl.reps hl.rl hl.byte hl.cl
end
section
variable [Foreign]
theorem ZDX (xs:List Nat):(Zp xs).1.length<=xs.length:=by have:=(ZBh (xs.length+1) xs ZB).1;omega
end
section
variable [Foreign]
noncomputable def lnA (a b:Int)(d:Xf)(cm:Nat->List Nat)(rs:Nat->List Zt)(n:Nat):Nat:=Y7 a b (YH (cm n)) (rs n)+ZHj a b (d.ks.call n)
noncomputable def lnS (cm:Nat->List Nat)(rs:Nat->List Zt)(n:Nat):List Int:=Xl (YH (cm n)) (rs n)
def ZIM (f:Nat->Nat):Nat:=f 0+f 1+f 2+f 3
def ZEo (f:Nat->List Int):List Int:=f 0++(f 1++(f 2++f 3))
structure DvI (g:Zz)(a b:Int)(N M:Nat)(d:Xf)(cm:Nat->List Nat)(rs:Nat->List Zt)(C:Nat)(sr:List Int):Prop where
 core:∃G,Jh g.P g.room a b N M G (sr++ZEo (lnS cm rs)) d.ks/\C+ZIM (lnA a b d cm rs)<=G
 dr:d.dr=false
 ln:∀n,n<4->ZEK g.P (d.ks.call n) (d.ls n) (cm n) (rs n) M
theorem ZMn {f f':Nat->Nat}{p q:Nat}(hn:n<4)(h:∀i,i≠n->f' i=f i)(hq:f' n+p<=f n+q):ZIM f'+p<=ZIM f+q:=by
 unfold ZIM;rcases(show n=0\/n=1\/n=2\/n=3 by omega)with rfl|rfl|rfl|rfl
 ·have:=h 1 ZB;have:=h 2 ZB;have:=h 3 ZB;omega
 ·have:=h 0 ZB;have:=h 2 ZB;have:=h 3 ZB;omega
 ·have:=h 0 ZB;have:=h 1 ZB;have:=h 3 ZB;omega
 ·have:=h 0 ZB;have:=h 1 ZB;have:=h 2 ZB;omega
theorem ZTn {f f':Nat->List Int}{z s:List Int}(hn:n<4)(h:∀i,i≠n->f' i=f i)(hq:f' n=f n++z):(z++(s++ZEo f)).Perm (s++ZEo f'):=by
 unfold ZEo;rcases(show n=0\/n=1\/n=2\/n=3 by omega)with rfl|rfl|rfl|rfl
 ·rw[hq,h 1 ZB,h 2 ZB,h 3 ZB];exact List.perm_iff_count.2 λx=>by simp only[List.count_append];omega
 ·rw[hq,h 0 ZB,h 2 ZB,h 3 ZB];exact List.perm_iff_count.2 λx=>by simp only[List.count_append];omega
 ·rw[hq,h 0 ZB,h 1 ZB,h 3 ZB];exact List.perm_iff_count.2 λx=>by simp only[List.count_append];omega
 ·rw[hq,h 0 ZB,h 1 ZB,h 2 ZB];exact List.perm_iff_count.2 λx=>by simp only[List.count_append];omega
theorem ZRe {f f':Nat->List Int}{s:List Int}(hn:n<4)(h:∀i,i≠n->f' i=f i)(hq:f' n=[]):(s++ZEo f).Perm ((s++f n)++ZEo f'):=by
 unfold ZEo;rcases(show n=0\/n=1\/n=2\/n=3 by omega)with rfl|rfl|rfl|rfl
 ·rw[hq,h 1 ZB,h 2 ZB,h 3 ZB];exact List.perm_iff_count.2 λx=>by simp only[List.count_append,List.count_nil];omega
 ·rw[hq,h 0 ZB,h 2 ZB,h 3 ZB];exact List.perm_iff_count.2 λx=>by simp only[List.count_append,List.count_nil];omega
 ·rw[hq,h 0 ZB,h 1 ZB,h 3 ZB];exact List.perm_iff_count.2 λx=>by simp only[List.count_append,List.count_nil];omega
 ·rw[hq,h 0 ZB,h 1 ZB,h 2 ZB];exact List.perm_iff_count.2 λx=>by simp only[List.count_append,List.count_nil];omega
theorem ZKW{M' C G':Nat}{cm:Nat->List Nat}{rs:Nat->List Zt}{z:List Int}{ks':Z9}{l':Jj}{cmn:List Nat}{rsn:List Zt}(h:DvI g a b N M d cm rs C sr)(hn:n<4)(hM:M<=M')(hG:C+ZIM (lnA a b d cm rs)<=G)(oV:∀i,i≠n->ks'.call i=d.ks.call i)(hl:ZEK g.P (ks'.call n) l' cmn rsn M')(hz:Xl (YH cmn) rsn=lnS cm rs n++z)(hc:Jh g.P g.room a b N' M' G' (z++(sr++ZEo (lnS cm rs))) ks')(ha:Y7 a b (YH cmn) rsn+ZHj a b (ks'.call n)+G<=lnA a b d cm rs n+G'): DvI g a b N' M' ⟨ks',Zr d.ls n l',d.dr⟩ (Zr cm n cmn) (Zr rs n rsn) C sr:=by
 refine⟨⟨G',hc.perm (ZTn hn (λi hi=>?_) ?_),?_⟩,h.dr,λi hi=>?_⟩
 ·unfold lnS;rw[ZZ _ _ hi,ZZ _ _ hi]
 ·rw[<-hz];unfold lnS;rw[Zc,Zc]
 ·have:=ZMn (f:=lnA a b d cm rs) (f':=lnA a b ⟨ks',Zr d.ls n l',d.dr⟩ (Zr cm n cmn) (Zr rs n rsn)) (p:=G) (q:=G') hn (λi hi=>by unfold lnA;rw[ZZ _ _ hi,ZZ _ _ hi];show _+ZHj a b (ks'.call i)=_;rw[oV i hi]) (by unfold lnA at ha ⊢;rw[Zc,Zc];exact ha);omega
 ·by_cases e:i=n
  ·subst e;show ZEK g.P (ks'.call i) (Zr d.ls i l' i) (Zr cm i cmn i) (Zr rs i rsn i) M';rw[Zc,Zc,Zc];exact hl
  ·show ZEK g.P (ks'.call i) (Zr d.ls n l' i) (Zr cm n cmn i) (Zr rs n rsn i) M';rw[ZZ _ _ e,ZZ _ _ e,ZZ _ _ e,oV i e];exact(h.ln i hi).mono hM
theorem ZVH{C:Nat}{cm:Nat->List Nat}{rs:Nat->List Zt}(hP:ZEV g.P g.room)(hn:n<4)(hM:M<=1000)(hN:N<=5000)(h:DvI g a b N M d cm rs C sr)(aB:(d.ls n).st≠0): ∃d' rs',ZIr g 3 n 0 0 d d'/\DvI g a b (N+1) (M+1) d' cm rs' C sr:=by
 obtain⟨G,h1,h2⟩:=h.core;obtain⟨ks',l',rs',G',e1,e2,e3,e4⟩:=ZQU hP (by omega:n<63) hM hN h1 h.dr (h.ln n hn) aB;refine⟨_,Zr rs n rs',ZVN ZB aB e1,?_⟩;rcases e4.ser with q|⟨z,q1,q2⟩
 ·have:=ZKW (z:=[]) (cmn:=cm n) h hn (Zf7 _) h2 e2 e3 (by rw[Zek];exact q) e4.core (by have:=e4.amt;unfold lnA;omega)
  rwa [ZA5]at this
 ·have:=ZKW (z:=[z]) (cmn:=cm n) h hn (Zf7 _) h2 e2 e3 q1 q2 (by have:=e4.amt;unfold lnA;omega)
  rwa [ZA5]at this
theorem ZB2:∀(l:List Zy) (xs:List (List Nat)),Z1 l xs=(l++(Z1 [] xs).1,(Z1 [] xs).2)
 |l,[]=>by simp[Z1]
 |l,x::xs=>by
  cases hx:ZCF x with
  |none=>simp[Z1,hx]
  |some c=>
   have e:∀l,Z1 l (x::xs)=Z1 (l++[c]) xs:=λl=>by simp[Z1,hx]
   rw[e,e,ZB2 (l++[c]) xs,ZB2 ([]++[c]) xs];simp
theorem ZFX (cm):YH cm=(Z1 [] (Zp cm).1).1:=rfl
theorem ZI7:∀(xs:List (List Nat)),(Z1 [] xs).1.length<=xs.length
 |[]=>by simp[Z1]
 |x::xs=>by
  cases hx:ZCF x with
  |none=>simp[Z1,hx]
  |some c=>
   have e:Z1 [] (x::xs)=Z1 [c] xs:=by simp[Z1,hx]
   rw[e,ZB2];have:=ZI7 xs;simp;omega
theorem ZJk (cm:List Nat):(YH cm).length<=cm.length:=by
 rw[ZFX];have:=ZI7 (Zp cm).1;have:=ZDX cm;omega
theorem ZQX(ho:ZFY P l cm rs M s)(fV:ZEv P kc l s)(hf:s.fin=0)(hr:∀r ∈ rs,ZAN r)(dw:rs.length<=M)(hb:∀x ∈ cm,x<256)(hcl:cm.length<=1010*M)(cz:∀x ∈ xs,x<256)(eJ:xs.length<=1010): ZEK P kc {l with cn:=some (ZF0 s (s.ws++xs))} (cm++xs) rs (M+1)/\∃more,YH (cm++xs)=YH cm++more/\rs.length<=(YH cm).length:=by
 obtain⟨o1,o2,o3,o4⟩:=ho.ok hf;obtain⟨done,eM,eT⟩:=ho.done;have cU:s.ws=Jc cm:=o1;obtain⟨p1,p2,p3,p4⟩:=ZNV (ys:=xs) o3;have ah:rs.length<=(YH cm).length:=by rw[eM,ZfE,eT];omega
 have e1:Z1 [] (Zp (cm++xs)).1=Z1 (YH cm) (Zp (Jc cm++xs)).1:=by
  rw[p1,ZD1 [] _ _ o4];rfl
 have e2:=ZB2 (YH cm) (Zp (Jc cm++xs)).1;have e3:=ZB2 s.line (Zp (Jc cm++xs)).1;have ea:YH (cm++xs)=YH cm++(Z1 [] (Zp (Jc cm++xs)).1).1:=by rw[ZFX,e1,e2]
 have EU:ZEi (cm++xs)=ZEi (Jc cm++xs):=by
  have q:=ZH6 (cm++xs);rw[p2,<-ZH6]at q;omega
 have az:(ZF0 s (s.ws++xs)).fin=(upS (cm++xs)).fin:=by
  show(if (Z1 s.line (Zp (s.ws++xs)).1).2=true then 3 else ZEi (s.ws++xs))=(if (Z1 [] (Zp (cm++xs)).1).2=true then 3 else ZEi (cm++xs));rw[cU,e3,e1,e2,EU]
 refine⟨⟨.inr (.inl ⟨ZF0 s (s.ws++xs),⟨?_,ZTk ho.i cz,ho.closed,ho.hung,ho.wr,ho.led.mono (Zf7 _),az,λhz=>?_,done,?_,eT⟩,?_⟩),hr,by omega,λx hx=>?_,by rw[ZfE];omega⟩,_,ea,ah⟩
 ·rw[ho.l]
 ·have hz:(ZF0 s (s.ws++xs)).fin=0:=hz;rw[az]at hz;have hz:(if (Z1 [] (Zp (cm++xs)).1).2=true then 3 else ZEi (cm++xs))=0:=hz;have z1:(Z1 [] (Zp (cm++xs)).1).2=false:=by
   cases hq:(Z1 [] (Zp (cm++xs)).1).2 with
   |false=>rfl
   |true=>rw[hq,Zgl rfl]at hz;cases hz
  have z2:(Zp (cm++xs)).2.2=false:=by
   cases hq:(Zp (cm++xs)).2.2 with
   |false=>rfl
   |true=>
    rw[Zgk (by rw[z1];decide)]at hz;unfold ZEi at hz;rw[Zgl hq]at hz;cases hz
  refine⟨?_,?_,z2,z1⟩
  ·show Jc (s.ws++xs)=Jc (cm++xs);rw[cU];exact p3.symm
  ·show(Zp (s.ws++xs)).2.2=false;rw[cU,<-p4];exact z2
 ·show YH (cm++xs)=done++(s.out.toList++(Z1 s.line (Zp (s.ws++xs)).1).1);rw[ea,eM,cU,e3];simp
 ·cases kc with
  |idle=>exact⟨fV.1,by have:=fV.2;exact this⟩
  |run x res ser k=>
   rcases fV with⟨q1,c,q2,q3,q4⟩|⟨q1,-⟩
   ·exact .inl ⟨q1,c,q2,q3,q4⟩
   ·rw[ho.l]at q1;cases q1
 ·rcases ZfN.1 hx with hx|hx
  ·exact hb x hx
  ·exact cz x hx
def ZXQ (g:Zz)(k n:Nat)(d:Xf)(e:Int):Prop:=∀(w:World) (gd:Nat) (C:Zhf) (xb:Nat->Nat) (L:List Zg) (D:Nat->Nat->Prop) (A:Option Addr) (m c:Nat),Yc w gd g C xb L d.ks d.dr d.ls D-> Calls prog 19 #[ZH gd,.agg #[.int .u8 k,.int .i64 n,.slice A m c,.int .i64 0]] w (Xj (.int .i64 e) w)
theorem ZVJ{C:Nat}{cm:Nat->List Nat}{rs:Nat->List Zt}(hn:n<4)(hM:M<=400)(h:DvI g a b N M d cm rs C sr)(cz:∀x ∈ xs,x<256)(eJ:xs.length<=1010): (∃d',ZKu g n xs d d'/\DvI g a b N (M+1) d' (Zr cm n (cm n++xs)) rs C sr)\/∃e,e≠0/\ZXQ g 2 n d e:=by
 obtain⟨G,h1,h2⟩:=h.core;have hl:=h.ln n hn;rcases hl.ph with⟨q,-⟩|⟨s,ho,fV⟩|⟨s,ho,-⟩
 ·exact .inr ⟨7,by decide,λw gd C xb L D A m c hd=>ZON (.inl rfl) ZB q A m c hd⟩
 ·have aB:(d.ls n).st=1:=by rw[ho.l]
  have bM:(d.ls n).cn=some s:=by rw[ho.l]
  by_cases hf:s.fin=0
  ·refine .inl ?_;obtain⟨o1,o2,o3,o4⟩:=ho.ok hf;obtain⟨k1,more,k2,k3⟩:=ZQX ho fV hf hl.reps hl.rl hl.byte hl.cl cz eJ;obtain⟨done,eM,eT⟩:=ho.done;have hcl:=hl.cl;have cU:s.ws=Jc (cm n):=o1;have dm:=(ZGI (cm n)).1;have lV:=ZJk (cm n);have hsl:s.line.length<=(YH (cm n)).length:=by rw[eM,ZfE,ZfE];omega
   have ed:=ZDX (s.ws++xs);rw[ZfE,cU]at ed;rw[<-cU]at ed;have dm:s.ws.length<=(cm n).length:=by rw[cU];exact dm
   have fd:=ZVP (g:=g) (n:=n) (a:=d) (s:=s) (xs:=xs) ZB aB h.dr bM ho.i ho.closed hf o2 cz ZB ZB;have tm:=ZPg (a:=a) (b:=b) (more:=more) k3;rw[<-k2]at tm;have:=ZKW (z:=[]) (cmn:=cm n++xs) (rsn:=rs n) (ks':=d.ks) (N':=N) (G':=G) h hn (Zf7 M) h2 (λ_ _=>rfl) k1 (by rw[Zek];exact tm.2) (h1.mono (Zf6 _) (Zf7 _)) (by rw[tm.1];exact Zf6 _);rw[ZA5 rs n]at this;exact⟨_,fd,this⟩
  ·exact .inr ⟨13,by decide,λw gd C xb L D A m c hd=>ZRO ZB aB h.dr bM hf A m c hd⟩
 ·exact .inr ⟨13,by decide,λw gd C xb L D A m c hd=>ZRN ZB ho.st h.dr A m c hd⟩
theorem ZVI{C:Nat}{cm:Nat->List Nat}{rs:Nat->List Zt}(hn:n<4)(hM:M<=1000)(h:DvI g a b N M d cm rs C sr)(aB:(d.ls n).st=1): ∃d',ZIr g 4 n 0 0 d d'/\DvI g a b N (M+1) d' cm rs C sr:=by
 obtain⟨G,h1,h2⟩:=h.core;have hl:=h.ln n hn;rcases hl.ph with⟨q,-⟩|⟨s,ho,fV⟩|⟨s,ho,-⟩
 ·rw[aB]at q;cases q
 ·have bM:(d.ls n).cn=some s:=by rw[ho.l]
  have hw:=ZCp hl.reps hl.rl ZB;have gO:(d.ls n).wr.length<=76000:=by rw[ho.l];exact hw
  have cT:=ho.led.1;obtain⟨done,eM,eT⟩:=ho.done;have hd:=ZVO (g:=g) (n:=n) (a:=d) (s:=s) ZB aB bM ZB (by rw[ho.wr];exact ZgR _) ZB (λt ht=>by have:=(ho.led.2 t ht).2.1;omega);have hh:ZDK (d.ls n)={d.ls n with cn:=some (ZDe {s with wr:=[]}),wr:=(d.ls n).wr++s.wr,st:=2}:=by
   unfold ZDK;rw[bM]
  have:=ZKW (z:=[]) (cmn:=cm n) (rsn:=rs n) (ks':=d.ks) (l':=ZDK (d.ls n)) (N':=N) (G':=G) h hn (Zf7 M) h2 (λ_ _=>rfl) ⟨.inr (.inr ⟨ZDe {s with wr:=[]},⟨by rw[hh],by rw[hh],by rw[hh];show(d.ls n).wr++s.wr=_;rw[ho.wr,Zek,ho.l],ZJf (ZEA ho.i),rfl,rfl,ho.led.mono (Zf7 _),by rw[hh];show ZF4 g.P (M+1) (d.ls n).toks;rw[ho.l];exact⟨ZgR _,λt ht=>by cases ht⟩,by rw[eM,ZfE,eT];omega⟩,?_⟩),hl.reps,by have:=hl.rl;omega,hl.byte,by have:=hl.cl;omega⟩ (by rw[Zek];rfl) (h1.mono (Zf6 _) (Zf7 _)) (Zf6 _)
  ·rw[ZA5,ZA5]at this;exact⟨_,hd,this⟩
  ·rw[hh];revert fV;cases d.ks.call n with
   |idle=>exact λq=>q
   |run x res ser k=>
    intro q;rcases q with⟨q1,q2⟩|⟨q1,-⟩
    ·exact .inl ⟨q1,q2⟩
    ·rw[ho.l]at q1;cases q1
 ·have:=ho.st;omega
theorem ZOJ{C:Nat}{cm:Nat->List Nat}{rs:Nat->List Zt}(hn:n<4)(h:DvI g a b N M d cm rs C sr)(aB:(d.ls n).st=0): ∃d',ZIr g 1 n 0 0 d d'/\DvI g a b N M d' (Zr cm n []) (Zr rs n []) (C+Y7 a b (YH (cm n)) (rs n)) (sr++Xl (YH (cm n)) (rs n)):=by
 obtain⟨G,h1,h2⟩:=h.core;have hl:=h.ln n hn;refine⟨_,ZOO ZB aB h.dr,⟨G,h1.perm (ZRe hn (λi hi=>?_) ?_),?_⟩,h.dr,λi hi=>?_⟩
 ·unfold lnS;rw[ZZ _ _ hi,ZZ _ _ hi]
 ·unfold lnS;rw[Zc,Zc];unfold Xl;simp
 ·have:=ZMn (f:=lnA a b d cm rs) (f':=lnA a b {d with ls:=Zr d.ls n ZJM} (Zr cm n []) (Zr rs n [])) (p:=Y7 a b (YH (cm n)) (rs n)) (q:=0) hn (λi hi=>by unfold lnA;rw[ZZ _ _ hi,ZZ _ _ hi]) (by
   unfold lnA;rw[Zc,Zc];have e:Y7 a b (YH []) []=0:=by unfold Y7;simp
   rw[e];show 0+ZHj a b (d.ks.call n)+_<=_;omega)
  omega
 ·by_cases e:i=n
  ·subst e;show ZEK g.P (d.ks.call i) (Zr d.ls i ZJM i) (Zr cm i [] i) (Zr rs i [] i) M;rw[Zc,Zc,Zc];have dF:d.ks.call i=.idle:=by
    rcases hl.ph with⟨-,q,-⟩|⟨s,ho,-⟩|⟨s,ho,-⟩
    ·exact q
    ·rw[ho.l]at aB;cases aB
    ·have:=ho.st;omega
   rw[dF];have hu:upS []=ZET:=by
    have e:Zp []=([],[],false):=ZD2;show ZF0 ZET []=ZET;rw[ZVE];unfold Jc ZEi;rw[e];simp[Z1,ZET]
   refine⟨.inr (.inl ⟨ZET,⟨rfl,ZRX,rfl,rfl,rfl,⟨ZgR _,λt ht=>by cases ht⟩,by rw[hu],λ_=>⟨by rw[hu],rfl,by rw[ZD2],by rw[ZD2];simp[Z1]⟩,[],?_,rfl⟩,rfl,rfl⟩),(λr hr=>by cases hr),ZgR _,(λx hx=>by cases hx),ZgR _⟩;show(upS []).line=_;rw[hu];rfl
  ·show ZEK g.P (d.ks.call i) (Zr d.ls n ZJM i) (Zr cm n [] i) (Zr rs n [] i) M;rw[ZZ _ _ e,ZZ _ _ e,ZZ _ _ e];exact h.ln i hi
theorem ZVG {g:Zz}{a b:Int}{N M C X:Nat}{d:Xf}{cm:Nat->List Nat}{rs:Nat->List Zt}{sr:List Int}(hX:X<=4611686018427387903)(h:DvI g a b N M d cm rs C sr): ∃d',ZIr g 5 0 (X:Int) 0 d d'/\DvI g a b N M d' cm rs C sr:=by
 obtain⟨G,h1,h2⟩:=h.core;have hc:d.ks.clk<=4611686018427387903:=by have:=h1.all.i.clk;omega
 exact⟨_,ZVM hX hc,⟨G,ZOT h1 ZB ZB,h2⟩,h.dr,h.ln⟩
end
theorem ZLF (w):Calls prog 8 #[] w λe w'=>∃b,e=.returned (.slice (some ⟨b,0,none⟩) 2 2)/\Rd w' (some ⟨b,0,none⟩) (ZAB PT)/\ZM w w':=by
 go_enter func8,ntmps8;go_wp2_with fail;go_ret;exact⟨_,rfl,JP w (ZAB PT) _ rfl,(ZM.refl w).alloc _⟩
def ZXu (op:Nat)(p N:Int)(K:Option Addr)(kl kc:Nat)(w:World)(e:Ending)(w':World):Prop:=∃(q:Nat) (p' N':Int) (m:Nat),e=.returned (.agg #[.int .u8 0,.int .i64 0,.int .u8 q,.int .i64 p',.slice K m kc,.int .i64 N',.int .i64 0])/\m=min kl 2/\(1<=q/\q<=6)/\(p'=0\/p'=1)/\(q=1->p'=0/\0<=N'/\N'<=4611686018427387903)/\(q=2\/q=3->p'=1)/\ZM w w'
theorem ZAz (u:World)(o1 o2):((u.alloc o1).alloc o2).heap[u.heap.size+1]?=some o2:=Zi _ _ ZXz
theorem ZVD{x5 x6 r0 r1 r2 r3 r4 r5 r6:Value}(h:ZM w v)(h0:w.heap.size<=w.heap.size)(h1:w.heap.size<=w.heap.size+1):ZM w (((((((((v.setCell ⟨w.heap.size,5,none⟩ x5).setCell ⟨w.heap.size,6,none⟩ x6).setCell ⟨w.heap.size+1,0,none⟩ r0).setCell ⟨w.heap.size+1,1,none⟩ r1).setCell ⟨w.heap.size+1,2,none⟩ r2).setCell ⟨w.heap.size+1,3,none⟩ r3).setCell ⟨w.heap.size+1,4,none⟩ r4).setCell ⟨w.heap.size+1,5,none⟩ r5).setCell ⟨w.heap.size+1,6,none⟩ r6):=(((((((((h.setCell (p:=⟨w.heap.size,5,none⟩) h0 _).setCell (p:=⟨w.heap.size,6,none⟩) h0 _).setCell (p:=⟨w.heap.size+1,0,none⟩) h1 _).setCell (p:=⟨w.heap.size+1,1,none⟩) h1 _).setCell (p:=⟨w.heap.size+1,2,none⟩) h1 _).setCell (p:=⟨w.heap.size+1,3,none⟩) h1 _).setCell (p:=⟨w.heap.size+1,4,none⟩) h1 _).setCell (p:=⟨w.heap.size+1,5,none⟩) h1 _).setCell (p:=⟨w.heap.size+1,6,none⟩) h1 _)
theorem ZWd (w:World)(op:Nat)(hop:op<256)(p N:Int)(K:Option Addr)(kl kc:Nat)(hk:kl<=kc)(hN:N<=9223372036854775807): Calls prog 10 #[.agg #[.int .u8 0,.int .i64 0,.int .u8 op,.int .i64 p,.slice K kl kc,.int .i64 N,.int .i64 0]] w (ZXu op p N K kl kc w):=by
 obtain⟨q,Hq⟩:∃q:Nat,ZD ((if 1<=op/\op<=6 then op else 1+op % 6)=q):=⟨_,ZA rfl⟩;have q6:1<=q/\q<=6:=by
  rw[<-Hq.o]
  split
  ·assumption
  ·omega
 obtain⟨m,Hm⟩:∃m:Nat,ZD (m=min kl 2):=⟨_,ZA rfl⟩;have mF:min (kl:Int) 2=(m:Int):=by have:=Hm.o;omega
 have dx:(0:Int)<=(m:Int):=by omega
 have im:¬(kc:Int)<(m:Int):=by have:=Hm.o;omega
 have pN:(m:Int)<=(kc:Int):=by omega
 have CL:=ZA (λw=>ZNU N w hN);go_enter func10,ntmps10;go_upto_region 3 with fail
 go_cut [23] (λv wd=>v=.bool (decide (¬(1<=op/\op<=6)))/\wd=((w.alloc (.cells #[.int .u8 0,.int .i64 0,.int .u8 op,.int .i64 p,.slice K kl kc,.int .i64 N,.int .i64 0] 36)).alloc (.cells #[.int .u8 0,.int .i64 0,.int .u8 0,.int .i64 0,.slice none 0 0,.int .i64 0,.int .i64 0] 36)))
 case first=>
  by_cases h1:op<1
  ·have d1:decide ((op:Int)<1)=true:=Zgg ZB;go_wp2_with fail
   go_meet
   exact⟨by rw[Zgg (p:=¬(1<=op/\op<=6)) ZB],rfl⟩
  ·have d1:decide ((op:Int)<1)=false:=Zgf ZB;by_cases h6:op<=6
   ·have d2:decide (6<(op:Int))=false:=Zgf ZB;go_wp2_with fail
    go_meet
    exact⟨by rw[Zgf (p:=¬(1<=op/\op<=6)) ZB],rfl⟩
   ·have d2:decide (6<(op:Int))=true:=Zgg ZB;go_wp2_with fail
    go_meet
    exact⟨by rw[Zgg (p:=¬(1<=op/\op<=6)) ZB],rfl⟩
 case rest=>
  obtain⟨rfl,rfl⟩:=hcut;obtain⟨bb,dN⟩:=ZX2 (decide (¬(1<=op/\op<=6)));rw[dN.o]
  go_upto_if 23 with fail
  go_cut [] (λwd=>wd=((w.alloc (.cells #[.int .u8 0,.int .i64 0,.int .u8 q,.int .i64 p,.slice K kl kc,.int .i64 N,.int .i64 0] 36)).alloc (.cells #[.int .u8 0,.int .i64 0,.int .u8 0,.int .i64 0,.slice none 0 0,.int .i64 0,.int .i64 0] 36)))
  case first=>
   cases bb with
   |false=>
    go_wp2_with fail
    go_meet
    have h:=Zgo dN.o;have e:op=q:=by have:=Hq.o;rw[Zgl (Decidable.not_not.1 h)]at this;exact this
    rw[e]
   |true=>
    go_wp2_with fail
    go_meet
    have h:=Zgp dN.o;have e:1+op % 6=q:=by have:=Hq.o;rw[Zgk h]at this;exact this
    have ev:1+(op:Int) % 6=(q:Int):=by omega
    rw[ev]
  case rest=>
   subst hcut;have:q=1\/q=2\/q=3\/q=4\/q=5\/q=6:=by omega
   rcases this with rfl|rfl|rfl|rfl|rfl|rfl
   ·go_wp2_with fail;refine(CL.o _).mono ?_;rintro e w1 ⟨rfl,hx⟩;have k0:=ZK (ZQ (ZV w _) _) hx;have k1:=ZK (ZAz w _ _) hx;have a0:=ZX1 k0 0 (.int .u8 0);have z0:=ZG k0 0;have b0:=ZX1 k1 0 (.int .u8 0);have y0:=ZG k1 0;have a1:=ZX1 k0 1 (.int .i64 0);have z1:=ZG k0 1;have b1:=ZX1 k1 1 (.int .i64 0);have y1:=ZG k1 1;have a2:=ZX1 k0 2 (.int .u8 1);have z2:=ZG k0 2;have b2:=ZX1 k1 2 (.int .u8 0);have y2:=ZG k1 2;have a3:=ZX1 k0 3 (.int .i64 0);have z3:=ZG k0 3;have b3:=ZX1 k1 3 (.int .i64 0);have y3:=ZG k1 3;have a4:=ZX1 k0 4 (.slice K m kc);have z4:=ZG k0 4;have b4:=ZX1 k1 4 (.slice none 0 0);have y4:=ZG k1 4;have a5:=ZX1 k0 5 (.int .i64 N);have z5:=ZG k0 5;have b5:=ZX1 k1 5 (.int .i64 0);have y5:=ZG k1 5;have a6:=ZX1 k0 6 (.int .i64 0);have z6:=ZG k0 6;have b6:=ZX1 k1 6 (.int .i64 0);have y6:=ZG k1 6;have HX:=ZA ((((ZM.refl w).alloc _).alloc _).trans hx);obtain⟨N',vx⟩:=ZX2 (min (max N 0) 4611686018427387903);rw[vx.o];have K1:=ZA k1;clear k0 k1 hx;go_wp2_with fail;refine Zgd (Zgq (p:=2) rfl _ _ (w.heap.size+1) _ #[.int .u8 0,.int .i64 0,.int .u8 1,.int .i64 0,.slice K m kc,.int .i64 N',.int .i64 0] (0,0) _ rfl (Yv (ZBl (ZBl K1.o ZB) ZB) _ _ _ _ _ _ _) underlying36 ZX0 ZC) rfl ?_;have jV:=vx.o;exact⟨1,0,N',m,rfl,Hm.o,by omega,.inl rfl,λ_=>⟨rfl,by omega,by omega⟩,λe=>by omega,ZVD HX.o ZB ZB⟩
   ·go_wp2_with fail;refine Zgd (Zgq (p:=2) rfl _ _ (w.heap.size+1) _ #[.int .u8 0,.int .i64 0,.int .u8 2,.int .i64 1,.slice K m kc,.int .i64 N,.int .i64 0] (0,0) _ rfl (ZAz w _ _) underlying36 ZX0 ZC) rfl ?_;exact⟨2,1,N,m,rfl,Hm.o,by omega,.inr rfl,λe=>by omega,λ_=>rfl,((ZM.refl w).alloc _).alloc _⟩
   ·go_wp2_with fail;refine Zgd (Zgq (p:=2) rfl _ _ (w.heap.size+1) _ #[.int .u8 0,.int .i64 0,.int .u8 3,.int .i64 1,.slice K m kc,.int .i64 N,.int .i64 0] (0,0) _ rfl (ZAz w _ _) underlying36 ZX0 ZC) rfl ?_;exact⟨3,1,N,m,rfl,Hm.o,by omega,.inr rfl,λe=>by omega,λ_=>rfl,((ZM.refl w).alloc _).alloc _⟩
   ·by_cases ho:p.tmod 2=0
    ·have hb:(p.tmod 2 !=0)=false:=by rw[ho];rfl
     go_wp2_with fail;refine Zgd (Zgq (p:=2) rfl _ _ (w.heap.size+1) _ #[.int .u8 0,.int .i64 0,.int .u8 4,.int .i64 0,.slice K m kc,.int .i64 N,.int .i64 0] (0,0) _ rfl (ZAz w _ _) underlying36 ZX0 ZC) rfl ?_;exact⟨4,0,N,m,rfl,Hm.o,by omega,.inl rfl,λe=>by omega,λe=>by omega,((ZM.refl w).alloc _).alloc _⟩
    ·have hb:(p.tmod 2 !=0)=true:=by rw[bne_iff_ne];exact ho
     go_wp2_with fail;refine Zgd (Zgq (p:=2) rfl _ _ (w.heap.size+1) _ #[.int .u8 0,.int .i64 0,.int .u8 4,.int .i64 1,.slice K m kc,.int .i64 N,.int .i64 0] (0,0) _ rfl (ZAz w _ _) underlying36 ZX0 ZC) rfl ?_;exact⟨4,1,N,m,rfl,Hm.o,by omega,.inr rfl,λe=>by omega,λe=>by omega,((ZM.refl w).alloc _).alloc _⟩
   ·go_wp2_with fail;refine Zgd (Zgq (p:=2) rfl _ _ (w.heap.size+1) _ #[.int .u8 0,.int .i64 0,.int .u8 5,.int .i64 0,.slice K m kc,.int .i64 N,.int .i64 0] (0,0) _ rfl (ZAz w _ _) underlying36 ZX0 ZC) rfl ?_;exact⟨5,0,N,m,rfl,Hm.o,by omega,.inl rfl,λe=>by omega,λe=>by omega,((ZM.refl w).alloc _).alloc _⟩
   ·go_wp2_with fail;refine Zgd (Zgq (p:=2) rfl _ _ (w.heap.size+1) _ #[.int .u8 0,.int .i64 0,.int .u8 6,.int .i64 0,.slice K m kc,.int .i64 N,.int .i64 0] (0,0) _ rfl (ZAz w _ _) underlying36 ZX0 ZC) rfl ?_;exact⟨6,0,N,m,rfl,Hm.o,by omega,.inl rfl,λe=>by omega,λe=>by omega,((ZM.refl w).alloc _).alloc _⟩
theorem ZY4 {p:Prop}(h:p:=by
 first
 |obtain -:=T1
 |have ja:(q !=0)=true:=by simp[bne,ij]
  refine⟨none,.inl ⟨rfl,λP M e1 e2 e3=>cd ⟨P,M,e1,e2,e3⟩⟩,(λL e=>by cases e),λA c w hr=>?_⟩
 have C:=ZA (hc A c _ (hr.ext ((ZM.refl w).alloc (.cells #[.int .u8 op,.int .i64 p,.slice A n c,.int .i64 N] 34))));first|(obtain -:=T2;clear hc h1 h2 h3 hr hb hl ak hx)|clear hc cd hb hl hr ij
 go_enter func20,ntmps20;go_wp2_with fail;refine C.o.mono ?_;rintro e w1 ⟨A1,c1,rfl,o1,x1⟩;first|(obtain -:=T3;rw[Hm.o]at o1 ⊢;have O1:=ZA o1;have X1:=ZA (((ZM.refl w).alloc (.cells #[.int .u8 op,.int .i64 p,.slice A n c,.int .i64 N] 34)).trans x1);clear o1 x1;go_wp2_with fail;refine(ZGP w1 A1 m c1 R ZB pH Hm.o (Rd.of_own O1.o)).mono ?_;rintro e w2 ⟨A2,c2,rfl,o2,x2⟩;have O2:=ZA o2;have X2:=ZA (X1.o.trans x2);obtain⟨g,rfl,-,-⟩:=JS o2 (by have:=YR o2;rw[ZfE]at this;simp[Js]at this;omega);obtain⟨fn,Hfn⟩:=ZX2 ((Js m++R).length);rw[Hfn.o];clear o2 x2)|clear o1
 go_wp2_with fail;go_ret;first|(obtain -:=T4;exact⟨g,c2,by rw[Hfn.o];rfl,Zj O2.o X1.o.size,X2.o⟩)|exact⟨rfl,((ZM.refl w).alloc _).trans x1⟩):p:=h
theorem ZKa (op)(hop:op<256)(p N n)(xs:List Nat)(hl:xs.length=n)(hb:∀x ∈ xs,x<256): ∃F,ZXt op p xs N F/\(∀L,F=some L->L.length<=1010/\∀x ∈ L,x<256)/\∀A c w,Rd w A (ZT .u8 xs)->Calls prog 20 #[Yp (op:Int) p A n c N] w (ZUE F w):=by
 obtain⟨q,L,hq,hc,-⟩:=ZFj op hop p N n xs hl hb;rcases hq with⟨ij,rfl,cd⟩|⟨rfl,P,M,h1,h2,h3,rfl⟩
 ·exact ZY4
 ·have hx:xs.length<=255\/5<=op:=by have:=h3.2.2.1;omega
  have ah:(JN op P xs M).length<=1000:=by
   rcases hx with hx|hx
   ·exact ZI5 hx
   ·rw[ZC4 (by have:=h3.2.1;omega)];simp
  have pH:=ZI4 op P M xs;have ak:=ZJ9 h3 hb;obtain⟨R,HR⟩:=ZX2 (JN op P xs M);rw[HR.o]at hc ah pH ak;obtain⟨m,Hm⟩:=ZX2 (R.length);rw[Hm.o]at ah pH;refine⟨some (Js m++R),.inr ⟨P,M,h1,h2,h3,by rw[HR.o,Hm.o]⟩,λL e=>?_,λA c w hr=>?_⟩
  ·injection e with e;subst e;refine⟨by rw[ZfE,Hm.o];simp[Js];omega,λx hx=>?_⟩;rcases ZfN.1 hx with hx|hx
   ·simp[Js]at hx;omega
   ·exact ak x hx
  ·obtain⟨T1,T2,T3,T4⟩:=QA;exact ZY4
theorem ZZF {p:Prop}(h:p:=by
 have fx:(v==0)=false:=by simp[hv]
 go_wp2_with fail;go_ret;exact⟨none,0,0,[],d',rfl,rfl,Zf6 _,ZgR _,(λx hx=>by cases hx),(λhx=>absurd rfl hx),H1.o,H2.o,H3.o⟩):p:=h
theorem ZYh {p:Prop}(h:p:=by
 unfold ZUE at RQ;dsimp only at RQ;first
 |obtain -:=T1;obtain⟨ln,Hln⟩:=ZX2 (L.length);rw[Hln.o]at RQ;have aF:ln<=1010:=by rw[<-Hln.o];exact(Cg.o L rfl).1
  have vy:=ZA (Cg.o L rfl).2
 |skip
 go_wp2_with fail;refine RQ.o.mono ?_;first|(obtain -:=T2;rintro e w6 ⟨gq,cq,rfl,o6,x6⟩)|rintro e w6 ⟨rfl,x6⟩
 have X6:=ZA (X5.o.trans x6);first|(obtain -:=T3;have O6:=ZA o6;have EZ:=YR o6;have iT:=ZKM o6;have FE:=ZA (show Calls prog 19 #[ZH gd,.agg #[.int .u8 2,.int .i64 n,.slice (some ⟨gq,0,none⟩) ln cq,.int .i64 0]] w6 _ from H.o.fe2_ X6.o (HE.o L vy.o (by rw[Hln.o];exact aF)) Hln.o (Rd.of_own o6) (λp e=>⟨Zf8 X5.o.size (iT p e).1,(iT p e).2⟩));clear x6 o6 iT)|(clear x6;have FE:=ZA (show Calls prog 19 #[ZH gd,.agg #[.int .u8 2,.int .i64 n,.slice none 0 0,.int .i64 0]] w6 _ from H.o.fe2_ X6.o (HE.o [] (λx hx=>by cases hx) (ZgR _)) rfl (λhx=>absurd rfl hx) (λp e=>by cases e)))
 go_wp2_with fail;refine FE.o.mono ?_;rintro e w9 ⟨v,d',ys,rfl,h1,h2,h3,h4,h5⟩;have H1:=ZA h1;have H2:=ZA ((GB.of_ext _ XW.o).trans h2 (λi e=>.inl e));have H3:=ZA h3;have H4:=ZA h4;clear h1 h2 h3 h4 FE;rcases h5 with⟨rfl,rfl⟩|⟨hv,rfl⟩
 ·go_wp2_with fail;go_ret;first|(obtain -:=T4;exact⟨(some ⟨gq,0,none⟩),ln,cq,ys,d',rfl,Hln.o,EZ,aF,vy.o,H4.o,H1.o,H2.o,H3.o⟩)|exact⟨none,0,0,[],d',rfl,rfl,Zf6 _,ZgR _,(λx hx=>by cases hx),H4.o,H1.o,H2.o,H3.o⟩
 ·exact ZZF):p:=h
theorem QQ {p:Prop}(h:p:=by
 obtain⟨W,hW,xW,k0⟩:=Za w (.cells #[.int .u8 kind,.int .i64 conn,.int .u8 op,.int .i64 pol,.slice K kl kc,.int .i64 num,.slice A dl dc,.int .i64 num2] 110);obtain⟨nb,Hnb⟩:∃nb:Nat,ZD (nb=min dl 60):=⟨_,ZA rfl⟩;have mF:min (dl:Int) 60=(nb:Int):=by have:=Hnb.o;omega
 have cL:nb<=60/\nb<=dl:=by have:=Hnb.o;omega
 have dG:(0:Int)<=(nb:Int):=by omega
 have di:¬(dc:Int)<(nb:Int):=by omega
 have kZ:(nb:Int)<=(dc:Int):=by omega
 obtain⟨lW,Hbad⟩:=ZX2 (ds.take nb);have ly:=ZA (show lW.length=nb by rw[<-Hbad.o,ZfL,hd];omega);have dN:=ZA (show ∀x ∈ lW,x<256 from λx hx=>sZ x (ZfX (by rw[Hbad.o];exact hx)));have RK:=ZA (show Rd (W.alloc (.cells #[] 5)) A (ZT .u8 lW) by rw[<-Hbad.o];exact ZNS (dS.ext (xW.alloc _)) nb);have tF:0+nb<=140737488355328:=by omega
 have H:=ZA (h.ext xW);have HE:=ZA hE;have c0:=ZX1 k0.out 0 (.int .u8 kind);have c1:=ZX1 k0.out 1 (.int .i64 conn);have c2:=ZX1 k0.out 2 (.int .u8 op);have c3:=ZX1 k0.out 3 (.int .i64 pol);have c4:=ZX1 k0.out 4 (.slice K kl kc);have c5:=ZX1 k0.out 5 (.int .i64 num);have c6:=ZX1 k0.out 6 (.slice A dl dc);have b6:(W.alloc (.cells #[] 5)).cell? ⟨w.heap.size,6,none⟩=some (.slice A dl dc):=ZF ((ZM.refl W).alloc _) c6;have XW:=ZA xW;have HW:=ZA hW;first
 |obtain -:=V1;have r0:(kind:Int) % 6=3:=by omega
 |have r0:(kind:Int) % 6=2:=by omega
  have rD:=ZA (dQ.ext xW);have zq:=ZA jx;have Is:=ZA aX;clear dQ jx aX
 clear h hE xW hW hd sZ dS;go_enter func28,ntmps28;go_upto_region 1 with fail;(try rw[HW.o]);clear HW;go_upto_region 9 with fail;go_upto_region 10 with(at_builtin;refine JV (W.alloc (.cells #[] 5)) rfl (.tmp 30) (.tmp 37) rfl W.heap.size rfl (ZQD W) rfl ly.o RK.o tF (((ZM.refl W).alloc _).size) ?_;intro B2 jG w2 o2 g2 b2;have O2:=ZA o2;have X2:=ZA (((ZM.refl W).alloc (.cells #[] 5)).grown g2 (λq e=>((ZQD W).lt q e).1));clear o2 g2 b2);have mH:w2.ownsRow W.heap.size 5 1 (.slice B2 nb jG) nb (ZT .u8 lW):=by have:=O2.o;rw[ZgQ,Zfb]at this;exact this
 have RB:=ZA (Rd.of_own mH);have kY:=YR mH;have OB:=ZA (ZKM mH);clear mH O2 RK mF dG di kZ tF b6;have d0:=ZF X2.o c0;first|(obtain -:=V2;have FE:=ZA (show Calls prog 19 #[ZH gd,.agg #[.int .u8 2,.int .i64 n,.slice B2 nb jG,.int .i64 0]] w2 _ from H.o.fe2_ X2.o (HE.o lW dN.o (by rw[ly.o];omega)) ly.o RB.o OB.o))|(have d2:=ZF X2.o c2;have d3:=ZF X2.o c3;have d4:=ZF X2.o c4;have d5:=ZF X2.o c5;have FT:=ZA (ZWd w2 op hop pol num K kl kc cM wV))
 clear c0 c1 c2 c3 c4 c5 c6;first|(obtain -:=V3)|go_upto_region 11 with fail
 go_wp2_with fail;first
 |obtain -:=V4;refine FE.o.mono ?_;rintro e w9 ⟨v,d',ys,rfl,h1,h2,h3,h4,h5⟩;have H1:=ZA h1;have H2:=ZA ((GB.of_ext _ XW.o).trans h2 (λi e=>.inl e));have H3:=ZA h3;have H4:=ZA h4;clear h1 h2 h3 h4 FE;rcases h5 with⟨rfl,rfl⟩|⟨hv,rfl⟩
  ·go_wp2_with fail;go_ret;exact⟨B2,nb,jG,ys,d',rfl,ly.o,kY,by omega,dN.o,H4.o,H1.o,H2.o,H3.o⟩
  ·exact ZZF
 |refine FT.o.mono ?_;rintro e w5 ⟨q,p',N',m,rfl,hm,qT,hp,aU,hsem,kA⟩;have X5:=ZA (X2.o.trans kA);obtain⟨Fr,hF,u9,hC⟩:=ZKa q ZB p' N' m (ks.take m) (by rw[ZfL,Is.o];omega) (λx hx=>zq.o x (ZfX hx));have RQ:=ZA (hC K kc w5 (ZNS (rD.o.ext X5.o) m));have Cg:=ZA u9;clear hm qT hp aU hsem kA hF u9 hC FT d0 d2 d3 d4 d5;have Lv:∀u:World,(Instr.field 36 (.agg #[.int .u8 0,.int .i64 0,.int .u8 q,.int .i64 p',.slice K m kc,.int .i64 N',.int .i64 0]) 2).run prog u=.ok (.agg #[.int .u8 q,.int .i64 p',.slice K m kc,.int .i64 N']) u:=λ_=>by kernel_rfl
  cases Fr with
  |none=>
   exact ZYh
  |some L=>
   obtain⟨T1,T2,T3,T4⟩:=QA;exact ZYh):p:=h
theorem QP {p:Prop}(h:p:=by
 obtain⟨W,hW,xW,k0⟩:=Za w (.cells #[.int .u8 kind,.int .i64 conn,.int .u8 op,.int .i64 pol,.slice K kl kc,.int .i64 num,.slice A dl dc,.int .i64 num2] 110);first|(obtain -:=V1;have EV:=ZA (show Calls prog 19 #[ZH gd,.agg #[.int .u8 3,.int .i64 n,.slice none 0 0,.int .i64 0]] W _ from(h.ext xW).ev_ hN hE))|(obtain -:=V2;have EV:=ZA (show Calls prog 19 #[ZH gd,.agg #[.int .u8 4,.int .i64 n,.slice none 0 0,.int .i64 0]] W _ from(h.ext xW).ev_ hN hE))|(obtain -:=V3;have EV:=ZA (show Calls prog 19 #[ZH gd,.agg #[.int .u8 1,.int .i64 n,.slice none 0 0,.int .i64 0]] W _ from(h.ext xW).ev_ hN hE))|have EV:=ZA (show Calls prog 19 #[ZH gd,.agg #[.int .u8 5,.int .i64 0,.slice none 0 0,.int .i64 X]] W _ from(h.ext xW).ev_ hN hE)
 have c0:=ZX1 k0.out 0 (.int .u8 kind);have c1:=ZX1 k0.out 1 (.int .i64 conn);have c7:=ZX1 k0.out 7 (.int .i64 num2);have XW:=ZA xW;have HW:=ZA hW;first|(obtain -:=V4;have r0:(kind:Int) % 6=0:=by omega)|(obtain -:=V5;have r0:(kind:Int) % 6=4:=by omega)|(obtain -:=V6;have r0:(kind:Int) % 6=1:=by omega)|have r0:(kind:Int) % 6=5:=by omega
 clear h hE xW hW;go_enter func28,ntmps28;go_upto_region 1 with fail;(try rw[HW.o]);clear HW;go_wp2_with fail;refine EV.o.mono ?_;rintro e w1 ⟨⟨v,rfl⟩,d',h1,h2,h3⟩;obtain⟨H1,H2,H3⟩:=Z8 h1 h2 h3;clear h1 h2 h3;go_wp2_with fail;go_ret;exact⟨none,0,0,[],d',rfl,rfl,Zf6 _,ZgR _,(λx hx=>by cases hx),(λhx=>absurd rfl hx),H1.o,(GB.of_ext _ XW.o).trans H2.o (λi e=>.inl e),H3.o⟩):p:=h
section
variable [Foreign]
def NoZ (g:Zz)(k n:Nat)(d:Xf)(e:Int):Prop:=∀(w:World) (gd:Nat) (C:Zhf) (xb:Nat->Nat) (L:List Zg) (D:Nat->Nat->Prop),Yc w gd g C xb L d.ks d.dr d.ls D-> Calls prog 19 #[ZH gd,.agg #[.int .u8 k,.int .i64 n,.slice none 0 0,.int .i64 0]] w (Xj (.int .i64 e) w)
def ZIq (g:Zz)(k n:Nat)(X:Int)(d:Xf)(Q:Xf->Prop):Prop:=(∃d',ZIr g k n X 0 d d'/\Q d')\/(X=0/\∃e,NoZ g k n d e/\Q d)
def ZUG (g:Zz)(n:Nat)(xs:List Nat)(d:Xf)(Q:Xf->List Nat->Prop):Prop:=(∃d',ZKu g n xs d d'/\Q d' xs)\/∃e,e≠0/\ZXQ g 2 n d e/\Q d []
def DoR (base gd:Nat)(g:Zz)(N:Nat)(F:Zhf)(Q:Xf->Prop)(w:World)(e:Ending)(w':World):Prop:=(∃v:Int,e=.returned (.int .i64 v))/\∃d',YW w' base gd g (N+1) d' F/\GB w w' (DWr base F)/\Q d'
theorem YW.mono{a:Xf}{F':Zhf}(h:YW w base gd g N a F)(hN:N<=N')(hF:∀i,F' i->F i):YW w base gd g N' a F':=by
 obtain⟨h1,h2,C,xb,L,D,h3,h4,h5⟩:=h;exact⟨h1,λi hi=>h2 i (hF i hi),C,xb,L,D,h3,Zf8 h4 hN,λi hi=>⟨(h5 i hi).1,λe=>(h5 i hi).2 (hF i e)⟩⟩
theorem YW.ev_{X:Int}{Q:Xf->Prop}(h:YW w base gd g N d F)(hN:N<=100000)(hE:ZIq g k n X d Q): Calls prog 19 #[ZH gd,.agg #[.int .u8 k,.int .i64 n,.slice none 0 0,.int .i64 X]] w (DoR base gd g N F Q w):=by
 rcases hE with⟨d',h1,h2⟩|⟨rfl,e,h1,h2⟩
 ·refine(h.do_ hN h1).mono ?_;rintro e w' ⟨rfl,k1,k2⟩;exact⟨⟨_,rfl⟩,d',k1,k2,h2⟩
 ·have h9:=h;obtain⟨-,-,C,xb,L,D,h3,-⟩:=h9;refine(h1 w gd C xb L D h3).mono ?_;rintro e w' ⟨rfl,x⟩;exact⟨⟨_,rfl⟩,d,(h.ext x).mono (Zf7 _) (λi e=>e),GB.of_ext _ x,h2⟩
def FeR (base gd:Nat)(g:Zz)(N:Nat)(F:Zhf)(Q:Xf->List Nat->Prop)(xs:List Nat)(w:World)(e:Ending)(w':World):Prop:=∃(v:Int) (d':Xf) (ys:List Nat),e=.returned (.int .i64 v)/\YW w' base gd g (N+1) d' F/\GB w w' (DWr base F)/\Q d' ys/\((v=0/\ys=xs)\/(v≠0/\ys=[]))
theorem YW.fe_{m c:Nat}{Q:Xf->List Nat->Prop}(h:YW w base gd g N d F)(hE:ZUG g n xs d Q)(hm:xs.length=m)(hr:Rd w A (ZT .u8 xs)): Calls prog 19 #[ZH gd,.agg #[.int .u8 2,.int .i64 n,.slice A m c,.int .i64 0]] w (FeR base gd g N F Q xs w):=by
 rcases hE with⟨d',h1,h2⟩|⟨e,h0,h1,h2⟩
 ·refine(h.feed_ h1 hm hr).mono ?_;rintro e w' ⟨rfl,k1,k2⟩;exact⟨0,d',xs,rfl,k1.mono (Zf7 _) (λi e=>e),k2,h2,.inl ⟨rfl,rfl⟩⟩
 ·have h9:=h;obtain⟨-,-,C,xb,L,D,h3,-⟩:=h9;refine(h1 w gd C xb L D A m c h3).mono ?_;rintro e w' ⟨rfl,x⟩;exact⟨_,d,[],rfl,(h.ext x).mono (Zf7 _) (λi e=>e),GB.of_ext _ x,h2,.inr ⟨h0,rfl⟩⟩
def ZMv (base gd:Nat)(g:Zz)(N:Nat)(F:Zhf)(Q:Xf->List Nat->Prop)(w:World)(e:Ending)(w':World):Prop:=∃(B:Option Addr) (m c:Nat) (xs:List Nat) (d':Xf),e=.returned (.slice B m c)/\xs.length=m/\m<=c/\m<=1010/\(∀x ∈ xs,x<256)/\Rd w' B (ZT .u8 xs)/\YW w' base gd g (N+1) d' F/\GB w w' (DWr base F)/\Q d' xs
structure ZPY (g:Zz)(kind n:Nat)(X:Int)(d:Xf)(Q:Xf->List Nat->Prop):Prop where
 e0:kind % 6=0->ZIq g 3 n 0 d (λd'=>Q d' [])
 e1:kind % 6=1->ZIq g 1 n 0 d (λd'=>Q d' [])
 e2:kind % 6=2\/kind % 6=3->∀xs:List Nat,(∀x ∈ xs,x<256)->xs.length<=1010->ZUG g n xs d Q
 e4:kind % 6=4->ZIq g 4 n 0 d (λd'=>Q d' [])
 e5:kind % 6=5->ZIq g 5 0 X d (λd'=>Q d' [])
theorem ZKM{s:Nat}{e:TypeId}{c:Nat}{xs:List Value}(h:w.ownsRow base e s (.slice A n c) n xs):∀p,A=some p->base<=p.block/\p.block<w.heap.size:=by
 rcases h.2 with⟨h1,h2⟩|⟨g,cap,cO,h1,hb,hg,_⟩
 ·injection h1 with h1 h3 h4;intro p e;rw[h1]at e;cases e
 ·injection h1 with h1;intro p e;rw[h1]at e;injection e with e;subst e;exact⟨hb,(ZeT.1 hg).1⟩
def ZXv (base gd:Nat)(g:Zz)(N:Nat)(F:Zhf)(Q:Xf->List Nat->Prop)(xs:List Nat)(P:Option Addr)(w:World)(e:Ending)(w':World):Prop:=∃(v:Int) (d':Xf) (ys:List Nat),e=.returned (.int .i64 v)/\YW w' base gd g (N+1) d' F/\GB w w' (DWr base F)/\Q d' ys/\Rd w' P (ZT .u8 xs)/\((v=0/\ys=xs)\/(v≠0/\ys=[]))
theorem YW.fe2_{u:World}{m c:Nat}{Q:Xf->List Nat->Prop}(h:YW w base gd g N d F)(x:ZM w u)(hE:ZUG g n xs d Q)(hm:xs.length=m)(hr:Rd u A (ZT .u8 xs))(hA:∀p,A=some p->w.heap.size<=p.block/\p.block<u.heap.size): Calls prog 19 #[ZH gd,.agg #[.int .u8 2,.int .i64 n,.slice A m c,.int .i64 0]] u (ZXv base gd g N F Q xs A w):=by
 have h2:YW u base gd g N d (λi=>F i\/∃p,A=some p/\i=p.block):=h.more x (λi hi=>hi.elim .inl (λ⟨p,e,e2⟩=>.inr (by rw[e2];exact hA p e)));refine(h2.fe_ hE hm hr).mono ?_;rintro e w' ⟨v,d',ys,rfl,k1,k2,k3,k4⟩;exact⟨v,d',ys,rfl,k1.mono (Zf6 _) (λi e=>.inl e),(GB.of_ext _ x).trans k2 (λi e=>.inl ⟨e.1,λf=>e.2 (.inl f)⟩),k3,k2.rd hr (λp e f=>f.2 (.inr ⟨p,e,rfl⟩)),k4⟩
theorem ZND (w:World)(base gd:Nat)(g:Zz)(N:Nat)(d:Xf)(F:Zhf)(Q:Xf->List Nat->Prop)(kind:Nat)(conn:Int)(op:Nat)(pol num:Int)(K A:Option Addr)(kl kc dl dc:Nat)(num2:Int)(n:Nat)(h:YW w base gd g N d F)(hN:N<=100000)(hn:wrap64 ((IntKind.u64.wrap conn).tmod 4)=(n:Int))(hr:kind % 6=0)(hE:ZIq g 3 n 0 d (λd'=>Q d' [])): Calls prog 28 #[ZH gd,.agg #[.int .u8 kind,.int .i64 conn,.int .u8 op,.int .i64 pol,.slice K kl kc,.int .i64 num,.slice A dl dc,.int .i64 num2]] w (ZMv base gd g N F Q w):=by
 obtain⟨V1,V4⟩:=QA;exact QP
theorem ZNF (w:World)(base gd:Nat)(g:Zz)(N:Nat)(d:Xf)(F:Zhf)(Q:Xf->List Nat->Prop)(kind:Nat)(conn:Int)(op:Nat)(pol num:Int)(K A:Option Addr)(kl kc dl dc:Nat)(num2:Int)(n:Nat)(h:YW w base gd g N d F)(hN:N<=100000)(hn:wrap64 ((IntKind.u64.wrap conn).tmod 4)=(n:Int))(hr:kind % 6=1)(hE:ZIq g 1 n 0 d (λd'=>Q d' [])): Calls prog 28 #[ZH gd,.agg #[.int .u8 kind,.int .i64 conn,.int .u8 op,.int .i64 pol,.slice K kl kc,.int .i64 num,.slice A dl dc,.int .i64 num2]] w (ZMv base gd g N F Q w):=by
 obtain⟨V3,V6⟩:=QA;exact QP
theorem ZNE (w:World)(base gd:Nat)(g:Zz)(N:Nat)(d:Xf)(F:Zhf)(Q:Xf->List Nat->Prop)(kind:Nat)(conn:Int)(op:Nat)(pol num:Int)(K A:Option Addr)(kl kc dl dc:Nat)(num2:Int)(n:Nat)(h:YW w base gd g N d F)(hN:N<=100000)(hn:wrap64 ((IntKind.u64.wrap conn).tmod 4)=(n:Int))(hr:kind % 6=4)(hE:ZIq g 4 n 0 d (λd'=>Q d' [])): Calls prog 28 #[ZH gd,.agg #[.int .u8 kind,.int .i64 conn,.int .u8 op,.int .i64 pol,.slice K kl kc,.int .i64 num,.slice A dl dc,.int .i64 num2]] w (ZMv base gd g N F Q w):=by
 obtain⟨V2,V5⟩:=QA;exact QP
theorem ZNC (w:World)(base gd:Nat)(g:Zz)(N:Nat)(d:Xf)(F:Zhf)(Q:Xf->List Nat->Prop)(kind:Nat)(conn:Int)(op:Nat)(pol num:Int)(K A:Option Addr)(kl kc dl dc:Nat)(num2:Int)(n:Nat)(h:YW w base gd g N d F)(hN:N<=100000)(hn:wrap64 ((IntKind.u64.wrap conn).tmod 4)=(n:Int))(hr:kind % 6=5)(X:Nat)(hX:wrap64 ((IntKind.u64.wrap num2).tmod 40)=(X:Int))(hE:ZIq g 5 0 (X:Int) d (λd'=>Q d' [])): Calls prog 28 #[ZH gd,.agg #[.int .u8 kind,.int .i64 conn,.int .u8 op,.int .i64 pol,.slice K kl kc,.int .i64 num,.slice A dl dc,.int .i64 num2]] w (ZMv base gd g N F Q w):=QP
theorem ZNS(h:Rd w A (ZT .u8 xs))(m):Rd w A (ZT .u8 (xs.take m)):=λag=>by
 have Dx:ZT .u8 xs≠[]:=λe=>ag (by rw[Jw,e];simp);obtain⟨bb,off,e,hc⟩:=h Dx;refine⟨bb,off,e,λj u hu=>hc j u ?_⟩;rw[Jw,ZfB]at hu
 split at hu
 ·exact hu
 ·cases hu
theorem ZPv (w:World)(base gd:Nat)(g:Zz)(N:Nat)(d:Xf)(F:Zhf)(Q:Xf->List Nat->Prop)(kind:Nat)(conn:Int)(op:Nat)(pol num:Int)(K A:Option Addr)(kl kc dl dc:Nat)(num2:Int)(n:Nat)(h:YW w base gd g N d F)(hN:N<=100000)(hn:wrap64 ((IntKind.u64.wrap conn).tmod 4)=(n:Int))(hr:kind % 6=3)(ds:List Nat)(hd:ds.length=dl)(xI:dl<=dc)(sZ:∀x ∈ ds,x<256)(dS:Rd w A (ZT .u8 ds))(hE:∀xs:List Nat,(∀x ∈ xs,x<256)->xs.length<=1010->ZUG g n xs d Q): Calls prog 28 #[ZH gd,.agg #[.int .u8 kind,.int .i64 conn,.int .u8 op,.int .i64 pol,.slice K kl kc,.int .i64 num,.slice A dl dc,.int .i64 num2]] w (ZMv base gd g N F Q w):=by
 obtain⟨V1,V2,V3,V4⟩:=QA;exact QQ
theorem ZPu (w:World)(base gd:Nat)(g:Zz)(N:Nat)(d:Xf)(F:Zhf)(Q:Xf->List Nat->Prop)(kind:Nat)(conn:Int)(op:Nat)(pol num:Int)(K A:Option Addr)(kl kc dl dc:Nat)(num2:Int)(n:Nat)(h:YW w base gd g N d F)(hN:N<=100000)(hn:wrap64 ((IntKind.u64.wrap conn).tmod 4)=(n:Int))(hr:kind % 6=2)(ds:List Nat)(hd:ds.length=dl)(xI:dl<=dc)(sZ:∀x ∈ ds,x<256)(dS:Rd w A (ZT .u8 ds))(ks:List Nat)(hop:op<256)(aX:ks.length=kl)(cM:kl<=kc)(jx:∀x ∈ ks,x<256)(dQ:Rd w K (ZT .u8 ks))(wV:num<=9223372036854775807)(hE:∀xs:List Nat,(∀x ∈ xs,x<256)->xs.length<=1010->ZUG g n xs d Q): Calls prog 28 #[ZH gd,.agg #[.int .u8 kind,.int .i64 conn,.int .u8 op,.int .i64 pol,.slice K kl kc,.int .i64 num,.slice A dl dc,.int .i64 num2]] w (ZMv base gd g N F Q w):=QQ
end
end Go.Proofs.YtloidkmphigbdaaGreat
