import Derived.Test.YtloidkmphigbdaaGreatBTopServed11
namespace Go.Proofs.YtloidkmphigbdaaGreat
open Tryz
set_option linter.all false
set_option maxHeartbeats 40000000
set_option maxRecDepth 100000
open Go.RowKit
variable {a b:Int}{sr:List Int}{ys:List Nat}{rest:List Oper}{xs:List Value}{rs:List Zt}{M NN bs c cb gd j k n xg:Nat}{o:Oper}{A B:Option Addr}{w w' wr:World}{d:Xf}{kc:ZAP}{E:Zhf}{g:Zz}
section
variable [Foreign]
def ZXM (v:Int)(w:World)(e:Ending)(w':World):Prop:=e=.returned (.tuple #[.int .i64 v,.int .i64 0])/\ZM w w'
theorem ZNG (m:Nat)(hm:m<256)(w:World):Calls prog 26 #[.agg #[.int .i64 10,.int .i64 20],.int .i64 m] w (ZXM (((m+30) / 10:Nat):Int) w):=by
 obtain⟨W,hW,xW,k0⟩:=Za w (.cells #[.int .i64 10,.int .i64 20] 78);have CH:=ZA (ZFo 10 20 W ZB ZB ZB ZB);have TF:=ZA (λw=>ZA7 (m:Int) w ZB ZB);have c0:=ZX1 k0.out 0 (.int .i64 10);have c1:=ZX1 k0.out 1 (.int .i64 20);have XW:=ZA xW;have HW:=ZA hW;have a1:IntKind.i64.wrap ((m:Int)+20)=(m:Int)+20:=by rw[Zee];omega
 obtain⟨q,Hq⟩:=ZX2 ((m+30) / 10);rw[Hq.o];clear xW hW;go_enter func26,ntmps26;go_upto_region 1 with fail
 (try rw[HW.o])
 clear HW;go_wp2_with fail;refine CH.o.mono ?_;rintro e w1 ⟨rfl,hx⟩;have X1:=ZA (XW.o.trans hx);have d0:=ZF hx c0;have d1:=ZF hx c1;clear hx c0 c1;go_wp2_with fail;refine(TF.out _).mono ?_;rintro e w2 ⟨rfl,rfl⟩;go_wp2_with fail
 go_ret2
 have e9:((m:Int)+20) / 10+1=(q:Int):=by have:=Hq.o;omega
 refine⟨?_,X1.o⟩;rw[<-e9];exact ZAn rfl rfl
def ZXU (w:World)(e:Ending)(w':World):Prop:=∃(A:Option Addr) (n c:Nat),e=.returned (.slice A n c)/\n<=12/\ZM w w'/\∀j,j<n->∃(b:Nat) (pol:Nat) (K H:Option Addr) (kl kc hl hc:Nat) (tat:Int),A=some ⟨b,0,none⟩/\ w'.cell? ⟨b,j*4+0,none⟩=some (.int .i64 pol)/\w'.cell? ⟨b,j*4+1,none⟩=some (.slice K kl kc)/\w'.cell? ⟨b,j*4+2,none⟩=some (.int .i64 tat)/\w'.cell? ⟨b,j*4+3,none⟩=some (.slice H hl hc)/\hl<=2
theorem YW.held_ {w:World}{base gd:Nat}{g:Zz}{NN N M G:Nat}{a b:Int}{T:List Int}{d:Xf}{F:Zhf}(h:YW w base gd g NN d F)(hg:g.P=PT)(hr:g.room=6)(hc:Jh g.P g.room a b N M G T d.ks)(hN:N<=5000)(hM:M<=5000): Calls prog 29 #[ZH gd] w (ZXU w):=by
 have cF:=λi=>hc.all.i.w.cells i;have aZ:g.P.length<=32:=by rw[hg];decide
 have ah:(ZEr d.ks).flatten.length<=12:=by have:=hc.all.cells_len hc.room;omega
 have sa:=ZTJ hc.all hc.held (m:=2) (by
  rw[hg];intro p hp _;simp only[PT,ZfO,Zfd,or_false]at hp;rcases hp with rfl|rfl
  ·exact(by decide:(0:Int)<=2)
  ·exact(by decide:(2:Int)<=2)) (by decide)
 have fw:∀i,d.ks.ws.getD i 0<18446744073709551616:=λi=>by
  have e0:Zb+5000<18446744073709551616:=by decide
  have w1:d.ks.ws.getD 0 0<=8:=hc.all.i.w.d;have w2:∀i,1<=i->i<32->d.ks.ws.getD i 0<=N\/(Zb<=d.ks.ws.getD i 0/\d.ks.ws.getD i 0<=Zb+N):=hc.all.i.w.word;have w3:d.ks.ws.getD 33 0<=N:=hc.all.i.w.n33;have w4:d.ks.ws.getD 32 0<=N:=hc.all.q.top;have w5:d.ks.ws.length=34:=hc.all.i.w.lw;rcases(show i=0\/(1<=i/\i<32)\/i=32\/i=33\/34<=i by omega)with rfl|⟨q1,q2⟩|rfl|rfl|q
  ·omega
  ·rcases w2 i q1 q2 with q|q<;>omega
  ·omega
  ·omega
  ·rw[Zez,List.getElem?_eq_none ZB];decide
 have lP:∀i,∀e ∈ d.ks.hs.getD i [],ZAO e/\e.held.length<=5000:=λi e he=>by
  have ok:=(cF i).1.2.1 e he;exact⟨⟨ZgB ok.1 aZ,ok.2.1,ok.2.2.1⟩,by have:=ok.2.2.2.2.2.2.1;omega⟩
 have lV:∀c ∈ (ZEr d.ks).flatten,c.held.length<=2:=λc eW=>by
  obtain⟨l,h1,h2⟩:=List.mem_flatten.1 eW;obtain⟨i,hi⟩:=ZPU h1 h2;have:=sa i c hi;omega
 have sL:∀i,(d.ks.hs.getD i []).length<=5000:=λi=>(cF i).1.2.2;obtain⟨h1,h2,C,xb,L,D,h3,h4,h5⟩:=h;obtain⟨fp,c0,-⟩:=h3.core;have CE:=ZA (ZNt w g _ C xb L d.ks fp hc.all.i.w.d lP sL fw ah);have zD:=ZA lV;clear fp h3 hc cF sa fw lP lV sL ah h2 h5;go_enter func29,ntmps29;go_wp2_with fail;refine CE.o.mono ?_;rintro e w1 ⟨A,n,c,l,rs,rfl,hn,io,hp,hx⟩;obtain⟨rC,HX,HP⟩:=Z8 io hx hp;clear io hx hp;go_wp2_with fail;go_ret;refine⟨A,n,c,rfl,hn,HX.o,λj hj=>?_⟩;obtain⟨e1,e2,e3,e4⟩:=rC.o;have jy:j<l.length:=by omega
 have Es:j<rs.length:=by omega
 have q1:l[j]?=some l[j]:=Ze4 jy;have q2:rs[j]?=some rs[j]:=Ze4 Es;have eX:=YR e3;obtain⟨bb,rfl,-,-⟩:=JS e3 ZB;have aq:=λk (hk:k<4)=>(e3.cellAt (j*4+k) (show j*4+k<n*4 by omega)).trans (ZEw Yh 4 Xa rs l j k _ _ q2 q1 hk);refine⟨bb,(l[j]).pol,(rs[j]).K,(rs[j]).H,(l[j]).key.length,(rs[j]).kc,(l[j]).held.length,(rs[j]).hc,(l[j]).tat,rfl,aq 0 ZB,aq 1 ZB,aq 2 ZB,aq 3 ZB,zD.o _ (HP.o.subset (List.getElem_mem jy))⟩
theorem DvI.mono{N N' M' C:Nat}{cm:Nat->List Nat}{rs:Nat->List Zt}(h:DvI g a b N M d cm rs C sr)(h1:N<=N')(h2:M<=M'):DvI g a b N' M' d cm rs C sr:=by
 obtain⟨G,k1,k2⟩:=h.core;exact⟨⟨G,k1.mono h1 h2,k2⟩,h.dr,λn hn=>(h.ln n hn).mono h2⟩
def DvQ (g:Zz)(a b:Int)(N M n:Nat)(cm:Nat->List Nat)(C:Nat)(sr:List Int):Xf->List Nat->Prop:=λd' xs=>∃rs',DvI g a b (N+1) (M+1) d' (Zr cm n (cm n++xs)) rs' C sr
theorem DvQ.nil{N C:Nat}{cm:Nat->List Nat}{rs:Nat->List Zt}(h:DvI g a b (N+1) (M+1) d cm rs C sr):DvQ g a b N M n cm C sr d []:=⟨rs,by rw[Zek,ZA5];exact h⟩
theorem ZWf {g:Zz}{a b:Int}{N M n C kind X:Nat}{d:Xf}{cm:Nat->List Nat}{rs:Nat->List Zt}{sr:List Int}(hP:ZEV g.P g.room)(hn:n<4)(hM:M<=400)(hN:N<=5000)(hX:X<=40)(h:DvI g a b N M d cm rs C sr)(hc:¬(kind % 6=1/\(d.ls n).st=0)): ZPY g kind n (X:Int) d (DvQ g a b N M n cm C sr):=by
 have h0:DvQ g a b N M n cm C sr d []:=DvQ.nil (h.mono (Zf7 _) (Zf7 _));refine⟨λ_=>?_,λhk=>?_,λ_ xs cz eJ=>?_,λ_=>?_,λ_=>?_⟩
 ·by_cases aB:(d.ls n).st=0
  ·exact .inr ⟨rfl,7,λw gd C xb L D hd=>ZON (.inr (.inl rfl)) ZB aB none 0 0 hd,h0⟩
  ·obtain⟨d',rs',q1,q2⟩:=ZVH hP hn ZB hN h aB;exact .inl ⟨d',q1,DvQ.nil q2⟩
 ·have aB:(d.ls n).st≠0:=λe=>hc ⟨hk,e⟩;exact .inr ⟨rfl,9,λw gd C xb L D hd=>ZVQ ZB aB hd,h0⟩
 ·rcases ZVJ hn hM h cz eJ with⟨d',q1,q2⟩|⟨e,q1,q2⟩
  ·exact .inl ⟨d',q1,rs,q2.mono (Zf7 _) (Zf6 _)⟩
  ·exact .inr ⟨e,q1,q2,h0⟩
 ·by_cases aB:(d.ls n).st=0
  ·exact .inr ⟨rfl,7,λw gd C xb L D hd=>ZON (.inr (.inr rfl)) ZB aB none 0 0 hd,h0⟩
  ·by_cases pw:(d.ls n).st=1
   ·obtain⟨d',q1,q2⟩:=ZVI hn ZB h pw;exact .inl ⟨d',q1,DvQ.nil (q2.mono (Zf7 _) (Zf6 _))⟩
   ·have wF:(d.ls n).st=2:=by
     rcases(h.ln n hn).ph with⟨q,-⟩|⟨s,ho,-⟩|⟨s,ho,-⟩
     ·exact absurd q aB
     ·rw[ho.l]at pw;exact absurd rfl pw
     ·exact ho.st
    exact .inr ⟨rfl,13,λw gd C xb L D hd=>ZTW ZB wF hd,h0⟩
 ·obtain⟨d',q1,q2⟩:=ZVG (X:=X) ZB h;exact .inl ⟨d',q1,DvQ.nil (q2.mono (Zf7 _) (Zf7 _))⟩
theorem ZWe {g:Zz}{a b:Int}{N M n C:Nat}{d:Xf}{cm:Nat->List Nat}{rs:Nat->List Zt}{sr:List Int}(hn:n<4)(h:DvI g a b N M d cm rs C sr)(aB:(d.ls n).st=0): ZIq g 1 n 0 d (λd'=>DvQ g a b N M n (Zr cm n []) (C+Y7 a b (YH (cm n)) (rs n)) (sr++Xl (YH (cm n)) (rs n)) d' []):=by
 obtain⟨d',q1,q2⟩:=ZOJ hn h aB;exact .inl ⟨d',q1,DvQ.nil (q2.mono (Zf7 _) (Zf7 _))⟩
theorem ZXD (conn:Int)(h1: -9223372036854775808<=conn)(h2:conn<=9223372036854775807):∃n:Nat,n<4/\wrap64 ((IntKind.u64.wrap conn).tmod 4)=(n:Int):=by
 have hu:IntKind.u64.wrap conn=conn % 18446744073709551616:=Zef conn;have h3:0<=IntKind.u64.wrap conn:=by rw[hu];omega
 rw[Int.tmod_eq_emod_of_nonneg h3];have h4:0<=IntKind.u64.wrap conn % 4:=by omega
 have h5:IntKind.u64.wrap conn % 4<4:=by omega
 refine⟨(IntKind.u64.wrap conn % 4).toNat,by omega,?_⟩;rw[ZHB _ ZB ZB];omega
theorem ZW5 (x:Int):∃n:Nat,n<=40/\wrap64 ((IntKind.u64.wrap x).tmod 40)=(n:Int):=by
 have hu:IntKind.u64.wrap x=x % 18446744073709551616:=Zef x;have h3:0<=IntKind.u64.wrap x:=by rw[hu];omega
 rw[Int.tmod_eq_emod_of_nonneg h3];refine⟨(IntKind.u64.wrap x % 40).toNat,by omega,?_⟩;rw[ZHB _ ZB ZB];omega
end
section
variable [Foreign]
theorem ZJC:∀{rs:List Zt},(∀r ∈ rs,ZAN r)->Zp (ZAY rs)=(rs.map Y2,[],false)
 |[],_=>ZD2
 |r::rs,h=>by
  have qh:=ZGo (ZAf (h r ZfQ));have ih:=ZJC (λq hq=>h q (ZfP _ hq));have e:ZAY (r::rs)=Js (Y2 r).length++(Y2 r++ZAY rs):=by
   unfold ZAY;rw[Zex,Zei]
  rw[e,ZQB (Y2 r) (ZAY rs) ZB ZB,ih];rfl
theorem ZWc(h:∀r ∈ rs,ZAN r):∀x ∈ ZAY rs,x<256:=λx hx=>by
 obtain⟨r,hr,hx⟩:=ZfS.1 hx;rcases ZfN.1 hx with hx|hx
 ·exact ZKQ _ x hx
 ·exact ZKA (ZAf (h r hr)) x hx
def ZLc (rs:List Zt):List Value:=rs.flatMap λr=>(ZGg r).toList
theorem ZNI (rs r):ZLc (rs++[r])=ZLc rs++(ZGg r).toList:=by
 unfold ZLc;rw[Zew];simp
theorem ZUc:(prog.info? 39).map (λi=>(i.zero,i.size,i.bytes))=some (some (.agg #[.int .i64 0,.bool false,.int .i64 0,.int .i64 0,.int .i64 0,.int .i64 0]),6,48):=by kernel_rfl
theorem ZWm {aw:Array Oper}{a:Act}{Q:Exit->Act->World->Prop}(w:World)(bu:o.guard=none)(s x)(ho:o.op=.call {callee:=.builtin .append,args:=#[s,x],argTypes:=#[97,97]})(base)(hs:a.eval s=.slice B n cb)(af:w.ownsRow base 39 6 (.slice B n cb) n xs){r:Zt}(hx:a.eval x=.slice A 1 c)(hr:Rd w A (ZGg r).toList)(hb:n<=100000)(an:base<=w.heap.size)(h:∀B' au w',w'.ownsRow base 39 6 (.slice B' (n+1) au) (n+1) (xs++(ZGg r).toList)->w.grownBy w' (Value.slice B n cb).ownBlock-> ((Value.slice B' (n+1) au).ownBlock=(Value.slice B n cb).ownBlock\/(Value.slice B' (n+1) au).ownBlock=some w.heap.size)->wpList prog aw Q rest (a.put o.dst (.slice B' (n+1) au)) w'): wpList prog aw Q (o::rest) a w:=by
 obtain⟨i0,hi,bV,bY,aS⟩:=Zgm ZUc;exact Yj w bu s x 97 ho base 39 underlying97 hi bV bY aS rfl (by decide) hs af hx (m:=1) (news:=(ZGg r).toList) rfl hr (by intro v hv;simp[ZGg]at hv;rcases hv with rfl|rfl|rfl|rfl|rfl|rfl<;>rfl) (by unfold maxLen;omega) ZB an h
def ZXO (rs:List Zt)(w:World)(e:Ending)(w':World):Prop:=∃B c,e=.returned (.tuple #[.slice B rs.length c,.bool true])/\w'.ownsRow w.heap.size 39 6 (.slice B rs.length c) rs.length (ZLc rs)/\ZM w w'
theorem ZNK (w base gd g N n)(a:Xf)(F)(rs:List Zt)(h:YW w base gd g N a F)(hn:n<63)(da:(a.ls n).wr=ZAY rs)(jN:∀r ∈ rs,ZAN r)(hl:rs.length<=1000): Calls prog 24 #[ZH gd,.int .i64 n] w (ZXO rs w):=by
 obtain⟨xs,Hxs⟩:=ZX2 (ZAY rs);have gf:=ZJC jN;have eJ:=ZJX jN;have cz:=ZWc jN;rw[Hxs.o]at da gf eJ cz;obtain⟨m,Hm⟩:=ZX2 (xs.length);have hm:m<=100000:=by rw[<-Hm.o,eJ];omega
 have OT:=ZA (λu (y:ZM w u)=>(h.ext y).out_ (m:=m) hn (by rw[da];exact Hm.o) ZB);rw[da]at OT;obtain⟨HP,fX,Ic⟩:=Z8 gf cz jN;obtain⟨q,Hq⟩:=ZX2 (rs.length);rw[Hq.o]at hl;clear h da gf eJ cz jN;go_enter func24,ntmps24;go_wp2_with fail;refine(OT.o w (ZM.refl w)).mono ?_;rintro e w1 ⟨A1,c1,rfl,iL,x1⟩;have FR:=ZH2 w1 A1 m c1 xs Hm.o (YR iL) fX.o (Rd.of_own iL) ZB;unfold ZEG at FR;rw[HP.o]at FR
 dsimp only at FR
 rw[ZfJ,Nat.sub_zero,Hm.o]at FR;have um:=ZA FR;have X1:=ZA x1;clear FR iL x1;go_wp2_with fail;refine um.o.mono ?_;rintro e w2 ⟨B,k,d,rfl,nR,x2⟩;have xm:k=q:=by
  have:=nR.1;rw[List.length_map,Hq.o]at this;exact this.symm
 subst xm;obtain⟨ed,vs,gs,iI,-,-,-,aU⟩:=nR;have RV:=ZA (XJ iI);have HA:=ZA aU;have X2:=ZA (X1.o.trans x2);clear iI aU x2 um ed;go_wp2_with fail;refine(OT.o w2 X2.o).mono ?_;rintro e w3 ⟨A3,c3,rfl,-,x3⟩;have X3:=ZA (X2.o.trans x3);have BO:=ZA x3;clear x3;go_wp2_with fail
 go_loopw [9,33] (λv9 i wr=>∃(j:Nat) (B2:Option Addr) (cb:Nat),j<=k/\i=.int .i64 j/\v9=.slice B2 j cb/\wr.ownsRow w3.heap.size 39 6 (.slice B2 j cb) j (ZLc (rs.take j))/\ZM w3 wr) (λ_ i _=>k - (intOf i).toNat)
 case atStart=>exact⟨0,none,0,ZgR _,rfl,rfl,ZgZ _ _ _ _,ZM.refl w3⟩
 case round=>
  obtain⟨j,B2,cb,hj,rfl,rfl,ho,hx⟩:=hrel;have HO:=ZA ho;have HX:=ZA hx;clear ho hx;by_cases ak:j<k
  ·have dg:(j:Int)<(k:Int):=by omega
   have AR:(0:Int)<=(j:Int)/\(j:Int)<(k:Int):=⟨by omega,by omega⟩;obtain⟨r,hr⟩:∃r,rs[j]?=some r:=⟨_,Ze4 (by rw[Hq.o];exact ak)⟩;obtain⟨eB,⟨d9,hr3⟩,⟨Au,hr5⟩,⟨pD,sz⟩,uC,wP⟩:=Ic.o r (ZfU hr);obtain⟨gq,ci,-,kF,hoq⟩:=HA.o j (Y2 r) (by rw[Ze6,hr];rfl);have qh:(Y2 r).length=34:=ZGo (ZAf ⟨eB,⟨d9,hr3⟩,⟨Au,hr5⟩,⟨pD,sz⟩,uC,wP⟩);rw[qh]at kF hoq;obtain⟨bf,of,hB,aq⟩:=RV.o (λe=>by rw[e]at kF;simp at kF);have d0:=ZF (BO.o.trans HX.o) (aq j _ kF);subst hB;have RR:=ZA (ZNQ wr (some ⟨gq,0,none⟩) 34 ci r.er r.left.toNat r.wait.toNat r.ser.toNat r.now.toNat r.granted rfl (YR hoq) eB ZB ZB ZB ZB ((Rd.of_own hoq).ext (BO.o.trans HX.o)));have t1:((r.left.toNat:Nat):Int)=r.left:=Zed d9;have t2:((r.wait.toNat:Nat):Int)=r.wait:=Zed Au;have t3:((r.ser.toNat:Nat):Int)=r.ser:=Zed pD;have t4:((r.now.toNat:Nat):Int)=r.now:=Zed uC;rw[t1,t2,t3,t4]at RR;have HR:=ZA hr;have gp:IntKind.i64.wrap ((j:Int)+1)=((j+1:Nat):Int):=by rw[Zee];omega
   clear hr kF hoq aq t1 t2 t3 t4 qh;go_wp2_with fail;refine RR.o.mono ?_;rintro e w5 ⟨rfl,x5⟩;have X5:=ZA x5;clear x5 RR d0;go_upto_region 11 with fail;obtain⟨W,hW,xW,KB⟩:=Za w5 (.cells #[.int .i64 (r.er:Int),.bool r.granted,.int .i64 r.left,.int .i64 r.wait,.int .i64 r.ser,.int .i64 r.now] 39)
   (try rw[hW])
   clear hW;have XW:=ZA (X5.o.trans xW);clear xW;have e0:=ZX1 KB.o 0 (.int .i64 (r.er:Int));have e1:=ZX1 KB.o 1 (.bool r.granted);have e2:=ZX1 KB.o 2 (.int .i64 r.left);have e3:=ZX1 KB.o 3 (.int .i64 r.wait);have e4:=ZX1 KB.o 4 (.int .i64 r.ser);have e5:=ZX1 KB.o 5 (.int .i64 r.now);have jY:=ZA ((XW.o.alloc (.cells #[.int .i64 (r.er:Int),.bool r.granted,.int .i64 r.left,.int .i64 r.wait,.int .i64 r.ser,.int .i64 r.now] 39 (0,0))));have bZ:=(HX.o.trans jY.o).size;have Ew:j<=100000:=by omega
   go_wp2_with (at_builtin;refine ZWm (r:=r) (W.alloc (.cells #[.int .i64 (r.er:Int),.bool r.granted,.int .i64 r.left,.int .i64 r.wait,.int .i64 r.ser,.int .i64 r.now] 39 (0,0))) rfl (.tmp 44) (.tmp 46) rfl w3.heap.size rfl (Z5 HO.o jY.o) rfl (JP W (ZGg r).toList _ rfl) Ew bZ ?_;intro B6 rx w6 o6 g6 b6;have O6:=ZA o6;have G6:=ZA g6;clear o6 g6 b6)
   go_roundw
   case rel=>
    refine⟨j+1,B6,rx,ak,by go_num,rfl,?_,(HX.o.trans jY.o).grown G6.o (λq e=>(HO.o.lt q e).1)⟩;rw[Zv HR.o,ZNI];exact O6.o
   case measure=>simp[intOf];omega
  ·have dg:¬(j:Int)<(k:Int):=by omega
   obtain rfl:j=k:=by omega
   go_wp2_with fail
   go_ret2
   refine⟨B2,cb,ZAn (by rw[Hq.o];rfl) rfl,?_,X3.o.trans HX.o⟩;have:=HO.o;rw[Zfp (by rw[Hq.o];exact Zf6 _)]at this;rw[Hq.o];exact Zj this X3.o.size
end
section
variable [Foreign]
def ZAe (w:World)(base:Nat)(A:Option Addr)(n c:Nat)(l:List Zy)(ks:List Xu):Prop:=ks.length=l.length/\l.length=n/\w.ownsRow base 34 4 (.slice A n c) n (ZBX ks l)/\∀(i:Nat) (q:Xu) (e:Zy),ks[i]?=some q->l[i]?=some e->w.ownsRow base 5 1 (.slice q.1 e.key.length q.2) e.key.length (ZT .u8 e.key)/\∀g,(Value.slice q.1 e.key.length q.2).ownBlock=some g->(Value.slice A n c).ownBlock≠some g
theorem ZAe.nil (w base):ZAe w base none 0 0 [] []:=⟨rfl,rfl,ZgZ _ _ _ _,λi q e h=>by simp at h⟩
theorem ZAe.ext{base:Nat}{l:List Zy}{ks:List Xu}(h:ZAe w base A n c l ks)(x:ZM w w'):ZAe w' base A n c l ks:=⟨h.1,h.2.1,Z5 h.2.2.1 x,λi q e h1 h2=>⟨Z5 (h.2.2.2 i q e h1 h2).1 x,(h.2.2.2 i q e h1 h2).2⟩⟩
theorem ZAe.snoc {w w4 w5 w6:World}{base b4 k c cb m c4:Nat}{A A4 B:Option Addr}{l:List Zy}{ks:List Xu}{x:List Nat}{o p v:Nat}(h:ZAe w base A k c l ks)(x4:ZM w w4)(hm:x.length=m)(o4:w4.ownsRow b4 5 1 (.slice A4 m c4) m (ZT .u8 x))(hb:w.heap.size<=b4)(mB:base<=w.heap.size)(x5:ZM w4 w5)(o6:w6.ownsRow base 34 4 (.slice B (k+1) cb) (k+1) (ZBX ks l++[.int .u8 o,.int .i64 p,.slice A4 m c4,.int .i64 v]))(g6:w5.grownBy w6 (Value.slice A k c).ownBlock)(b6:(Value.slice B (k+1) cb).ownBlock=(Value.slice A k c).ownBlock\/(Value.slice B (k+1) cb).ownBlock=some w5.heap.size):ZAe w6 base B (k+1) cb (l++[⟨o,p,x,v⟩]) (ks++[(A4,c4)]):=by
 obtain⟨V1,_⟩:=QA;exact QY
theorem ZVf:(prog.info? 34).map (λi=>(i.zero,i.size,i.bytes))=some (some (.agg #[.int .u8 0,.int .i64 0,.slice none 0 0,.int .i64 0]),4,48):=by kernel_rfl
theorem ZWo {aw:Array Oper}{a:Act}{Q:Exit->Act->World->Prop}(w:World)(bu:o.guard=none)(s x)(ho:o.op=.call {callee:=.builtin .append,args:=#[s,x],argTypes:=#[84,84]})(base)(hs:a.eval s=.slice B n cb)(af:w.ownsRow base 34 4 (.slice B n cb) n xs){y z u v:Value}(hx:a.eval x=.slice A 1 c)(hr:Rd w A [y,z,u,v])(hy:y.oneCell'=true)(hz:z.oneCell'=true)(hu:u.oneCell'=true)(hv:v.oneCell'=true)(hb:n<=1000000)(an:base<=w.heap.size)(h:∀B' au w',w'.ownsRow base 34 4 (.slice B' (n+1) au) (n+1) (xs++[y,z,u,v])->w.grownBy w' (Value.slice B n cb).ownBlock-> ((Value.slice B' (n+1) au).ownBlock=(Value.slice B n cb).ownBlock\/(Value.slice B' (n+1) au).ownBlock=some w.heap.size)->wpList prog aw Q rest (a.put o.dst (.slice B' (n+1) au)) w'): wpList prog aw Q (o::rest) a w:=by
 obtain⟨i0,hi,bV,bY,aS⟩:=Zgm ZVf;exact Yj w bu s x 84 ho base 34 underlying84 hi bV bY aS rfl (by decide) hs af hx (m:=1) (news:=[y,z,u,v]) rfl hr (by intro q hq;simp at hq;rcases hq with rfl|rfl|rfl|rfl<;>assumption) (by unfold maxLen;omega) ZB an h
theorem ZAe.base {w:World}{base base':Nat}{A:Option Addr}{n c:Nat}{l:List Zy}{ks:List Xu}(h:ZAe w base A n c l ks)(hb:base'<=base):ZAe w base' A n c l ks:=⟨h.1,h.2.1,Zj h.2.2.1 hb,λi q e h1 h2=>⟨Zj (h.2.2.2 i q e h1 h2).1 hb,(h.2.2.2 i q e h1 h2).2⟩⟩
def ZVo (cs:List Zy)(w:World)(e:Ending)(w':World):Prop:=∃A n c ks,e=.returned (.slice A n c)/\ZAe w' w.heap.size A n c cs ks/\ZM w w'
theorem ZNR {xs more:List (List Nat)}(h:(Z1 [] xs).2=false)(hd:ZCF ys=none):Z1 [] (xs++ys::more)=((Z1 [] xs).1,true):=by
 rw[ZD1 [] xs (ys::more) h];simp[Z1,hd]
theorem ZP7 {xs:List (List Nat)}{c:Zy}(h:(Z1 [] xs).2=false)(hd:ZCF ys=some c):Z1 [] (xs++[ys])=((Z1 [] xs).1++[c],false):=by
 rw[ZD1 [] xs [ys] h];simp[Z1,hd]
theorem ZPl {α:Type}{l:List α}{j:Nat}{x:α}(h:l[j]?=some x):∃more,l=l.take j++x::more:=by
 obtain⟨hj,e⟩:=Ze5.1 h;exact⟨l.drop (j+1),by rw[<-e,<-List.drop_eq_getElem_cons hj,Zfl]⟩
theorem ZTp (w A m c)(cm:List Nat)(hl:cm.length=m)(qY:m<=c)(hm:m<=1000000)(hb:∀x ∈ cm,x<256)(hr:Rd w A (ZT .u8 cm)): Calls prog 69 #[.slice A m c] w (ZVo (YH cm) w):=by
 have FR:=ZH2 w A m c cm hl qY hb hr ZB;unfold ZEG at FR;have ml:=ZBh (cm.length+1) cm ZB;obtain⟨fr,Hfr⟩:=ZX2 ((Zp cm).1);have AX:∀ps ∈ fr,ps.length<=4096/\∀x ∈ ps,x<256:=λps hp=>by
  have h1:=ml.2.2 ps (by rw[Hfr.o];exact hp);exact⟨h1.1,λx hx=>hb x (h1.2 x hx)⟩
 have ET:fr.length<=m:=by rw[<-Hfr.o,<-hl];exact ZDX cm
 rw[Hfr.o]at FR;have um:=ZA FR;have IB:=ZA AX;obtain⟨q,Hq⟩:=ZX2 (fr.length);rw[Hq.o]at ET;rw[ZFX,Hfr.o];clear FR ml AX hr hb hl;go_enter func69,ntmps69;go_wp2_with fail;refine um.o.mono ?_;rintro e w2 ⟨B,k,d,rfl,nR,x2⟩;have xm:k=q:=by
  have:=nR.1;rw[Hq.o]at this;exact this.symm
 subst xm;obtain⟨ed,vs,gs,iI,-,-,-,aU⟩:=nR;have RV:=ZA (XJ iI);have HA:=ZA aU;have X2:=ZA x2;clear iI aU x2 um ed;go_wp2_with fail
 go_loopw [6,19] (λv6 i wr=>∃(j n:Nat) (B2:Option Addr) (cb:Nat) (ks:List Xu),j<=k/\n<=j/\i=.int .i64 j/\v6=.slice B2 n cb/\ZAe wr w2.heap.size B2 n cb (Z1 [] (fr.take j)).1 ks/\(Z1 [] (fr.take j)).2=false/\ZM w2 wr) (λ_ i _=>k - (intOf i).toNat)
 case atStart=>exact⟨0,0,none,0,[],ZgR _,Zf6 _,rfl,rfl,by simpa[Z1]using ZAe.nil _ _,by simp[Z1],ZM.refl w2⟩
 case round=>
  obtain⟨j,n,B2,cb,ks,hj,Ln,rfl,rfl,ho,hz,hx⟩:=hrel;obtain⟨HO,HX,HZ⟩:=Z8 ho hx hz;clear ho hx hz;by_cases ak:j<k
  ·have dg:(j:Int)<(k:Int):=by omega
   have AR:(0:Int)<=(j:Int)/\(j:Int)<(k:Int):=⟨by omega,by omega⟩;obtain⟨ys,hy⟩:∃r,fr[j]?=some r:=⟨_,Ze4 (by rw[Hq.o];exact ak)⟩;obtain⟨ba,Dv⟩:=IB.o ys (ZfU hy);obtain⟨gq,ci,-,kF,hoq⟩:=HA.o j ys hy;obtain⟨yn,BV⟩:=ZX2 (ys.length);rw[BV.o]at kF hoq ba;obtain⟨bf,of,hB,aq⟩:=RV.o (λe=>by rw[e]at kF;simp at kF);have d0:=ZF HX.o (aq j _ kF);subst hB;have gp:IntKind.i64.wrap ((j:Int)+1)=((j+1:Nat):Int):=by rw[Zee];omega
   have eX:=YR hoq;have gE:=ZA ((Rd.of_own hoq).ext HX.o);have HY:=ZA hy;clear hy kF hoq aq;rcases ZNP ys yn BV.o Dv with⟨e1,q1,-,q3,-,q5⟩|⟨op,p,xs,N,q1,q2,q3,-,q5⟩
   ·have DR:=ZA (q5 wr (some ⟨gq,0,none⟩) ci gE.o eX);have hd:ZCF ys=none:=by
     cases xI:ZCF ys with
     |none=>rfl
     |some c0=>
      obtain⟨k1,k2⟩:=ZCq xI;exact absurd ⟨ba,_,_,_,_,k1,k2⟩ q3
    have HD:=ZA hd;clear q5 q3 hd;unfold ZCs Yp at DR;go_wp2_with fail;refine DR.o.mono ?_;rintro e w5 ⟨rfl,x5⟩;have X5:=ZA x5;clear x5 DR d0;go_wp2_with fail;go_ret;obtain⟨more,hmr⟩:=ZPl HY.o;have aB:=ZNR (more:=more) HZ.o HD.o;rw[<-hmr]at aB;rw[aB];exact⟨B2,n,cb,ks,rfl,(HO.o.ext (X5.o.alloc _)).base X2.o.size,X2.o.trans (HX.o.trans (X5.o.alloc _))⟩
   ·have DR:=ZA (q5 wr (some ⟨gq,0,none⟩) ci gE.o eX);unfold ZEF Yp at DR;have hd:ZCF ys=some ⟨op,p,xs,N⟩:=by rw[q2];exact ZVS (c:=⟨op,p,xs,N⟩) q1
    have HD:=ZA hd;clear q5 q3 hd q1 q2;obtain⟨kl,Hkl⟩:=ZX2 (xs.length);rw[Hkl.o]at DR;go_wp2_with fail;refine DR.o.mono ?_;rintro e w5 ⟨A5,c5,rfl,o5,x5⟩;have X5:=ZA x5;have O5:=ZA o5;clear x5 o5 DR d0;go_upto_region 8 with fail;obtain⟨W,hW,xW,KB⟩:=Za w5 (.cells #[.int .u8 op,.int .i64 p,.slice A5 kl c5,.int .i64 N] 34)
    (try rw[hW])
    clear hW;have XW:=ZA xW;clear xW;have e0:=ZX1 KB.o 0 (.int .u8 op);have e1:=ZX1 KB.o 1 (.int .i64 p);have e2:=ZX1 KB.o 2 (.slice A5 kl c5);have e3:=ZX1 KB.o 3 (.int .i64 N);have jY:=ZA ((XW.o.alloc (.cells #[.int .u8 op,.int .i64 p,.slice A5 kl c5,.int .i64 N] 34 (0,0))));have bZ:=(HX.o.trans (X5.o.trans jY.o)).size;have pK:n<=1000000:=by omega
    go_wp2_with (at_builtin;refine ZWo (W.alloc (.cells #[.int .u8 op,.int .i64 p,.slice A5 kl c5,.int .i64 N] 34 (0,0))) rfl (.tmp 30) (.tmp 32) rfl w2.heap.size rfl (Z5 HO.o.2.2.1 (X5.o.trans jY.o)) rfl (JP W [.int .u8 op,.int .i64 p,.slice A5 kl c5,.int .i64 N] _ rfl) rfl rfl rfl rfl pK bZ ?_;intro B6 rx w6 o6 g6 b6;have N6:=ZA (HO.o.snoc X5.o Hkl.o O5.o (Zf6 _) HX.o.size jY.o o6 g6 b6);have X6:=ZA ((HX.o.trans (X5.o.trans jY.o)).grown g6 (λq e=>(HO.o.2.2.1.lt q e).1));clear o6 g6 b6)
    go_roundw
    case rel=>
     have eD:=ZP7 HZ.o HD.o;rw[<-Zv HY.o]at eD;exact⟨j+1,n+1,B6,rx,_,ak,by omega,by go_num,rfl,by rw[eD];exact N6.o,by rw[eD],X6.o⟩
    case measure=>simp[intOf];omega
  ·have dg:¬(j:Int)<(k:Int):=by omega
   obtain rfl:j=k:=by omega
   go_wp2_with fail;go_ret;have hN:=HO.o;rw[Zfp (by rw[Hq.o];exact Zf6 _)]at hN;exact⟨B2,n,cb,ks,rfl,hN.base X2.o.size,X2.o.trans HX.o⟩
end
theorem ZY9 {p:Prop}(h:p:=by
 first
 |obtain -:=T1;have t8:((c.op:Int)==2)=false:=by simp[h8];omega
  have Kt:decide ((c.op:Int)=2)=false:=by simp[h8];omega
  have CQ:(c.op==2)=false:=by simp[h8]
  have E0:=ZA (show ZCL (c,r)=[]from Zgk (λq=>h8 q.1))
 |have e0:ZCL (c,r)=[]:=Zgk (λq=>by have:=q.2;rw[show(c,r).2.granted=r.granted from rfl,Hgr.o]at this;cases this);have E0:=ZA e0;clear e0
 go_wp2_with fail;go_roundw;case rel=>exact⟨j+1,S9,n9,c9,ak,by go_num,by omega,by rw[px.out,E0.o,Zek];exact oA.o,GA.o,uc.o⟩
 case measure=>simp[intOf];omega):p:=h
section
variable [Foreign]
def ZA0 (w:World)(base xg gd:Nat)(left a b:Int)(S:Option Addr)(n c:Nat)(sr:List Int):Prop:=w.heap[xg]?=some (.cells #[ZH gd,.int .i64 left,.int .i64 a,.int .i64 b,.slice S n c] 108 (0,0))/\sr.length=n/\w.ownsRow base 2 1 (.slice S n c) n (Zn sr)/\(Value.slice S n c).ownBlock≠some xg
def ZEI (a b:Int)(zs:List (Zy × Zt)):Nat:=(zs.map λp=>ZCM a b (ZAx p.1) p.2).sum
theorem ZA0.ext{base:Nat}{left:Int}{S:Option Addr}(h:ZA0 w base xg gd left a b S n c sr)(x:ZM w w'):ZA0 w' base xg gd left a b S n c sr:=⟨ZK h.1 x,h.2.1,Z5 h.2.2.1 x,h.2.2.2⟩
theorem ZAe.at_ {w:World}{base:Nat}{A:Option Addr}{n c:Nat}{l:List Zy}{ks:List Xu}(h:ZAe w base A n c l ks){i:Nat}{e:Zy}(hi:l[i]?=some e): ∃b K kc,A=some ⟨b,0,none⟩/\base<=b/\b<w.heap.size/\w.cell? ⟨b,i*4,none⟩=some (.int .u8 (e.op:Int))/\w.cell? ⟨b,i*4+1,none⟩=some (.int .i64 (e.pol:Int))/\w.cell? ⟨b,i*4+2,none⟩=some (.slice K e.key.length kc)/\w.cell? ⟨b,i*4+3,none⟩=some (.int .i64 (e.num:Int))/\Rd w K (ZT .u8 e.key)/\(∀q,K=some q->base<=q.block):=by
 have eG:=(Ze5.1 hi).1;obtain⟨k,hk⟩:∃k,ks[i]?=some k:=⟨_,Ze4 (by rw[h.1];exact eG)⟩;have hc:=YR h.2.2.1;obtain⟨b,rfl,h1,h2⟩:=JS h.2.2.1 (by have:=h.2.1;omega);have hz:=λj (hj:j<4)=>ZG2 ZCt 4 (λ_ _=>rfl) ks l i j k e hk hi hj;have bB:=λj (hj:j<4)=>(h.2.2.1.cellAt (i*4+j) (by have:=h.2.1;omega)).trans (hz j hj);obtain⟨h3,-⟩:=h.2.2.2 i k e hk hi;exact⟨b,k.1,k.2,rfl,h1,h2,bB 0 ZB,bB 1 ZB,bB 2 ZB,bB 3 ZB,Rd.of_own h3,λq hq=>(ZAS h3 q hq).1⟩
theorem ZIy{zs:List (Zy × Zt)}{p:Zy × Zt}(h:zs[j]?=some p):ZEI a b (zs.take (j+1))=ZEI a b (zs.take j)+ZCM a b (ZAx p.1) p.2:=by
 unfold ZEI;rw[Zv h,List.map_append,List.sum_append];simp
theorem ZUY (a b)(zs:List (Zy × Zt))(j):ZEI a b (zs.take j)<=ZEI a b zs:=by
 unfold ZEI
 conv=>rhs;rw[<-Zfl j zs,List.map_append,List.sum_append]
 exact Nat.le_add_right _ _
theorem ZPy {zs:List (Zy × Zt)}{p:Zy × Zt}(h:zs[j]?=some p):(zs.take (j+1)).flatMap ZCL=(zs.take j).flatMap ZCL++ZCL p:=by
 rw[Zv h,Zew];simp
theorem ZXh (key)(hb:∀x ∈ key,x<256):(key=[97]->strOfNums (ZFG key)=⟨#[97]⟩)/\(key≠[97]->((strOfNums (ZFG key)).toList==(⟨#[97]⟩:ByteArray).toList)=false):=by
 have e:strOfNums (ZFG [97])=⟨#[97]⟩:=rfl;refine⟨λh=>by rw[h];exact e,λh=>?_⟩;rw[<-e,ByteArray.toList_eq,ByteArray.toList_eq];refine Zgb.2 (λq=>h ((ZSI hb (by decide)).1 (ByteArray.ext (Array.toList_inj.1 q))))
theorem ZI6:∀(xs:List (List Nat)) (c:Zy),c ∈ (Z1 [] xs).1->ZBr c.op c.pol c.key c.num
 |[],c,h=>by simp[Z1]at h
 |x::xs,c,h=>by
  cases hx:ZCF x with
  |none=>simp[Z1,hx]at h
  |some c0=>
   have e:Z1 [] (x::xs)=Z1 [c0] xs:=by simp[Z1,hx]
   rw[e,ZB2]at h;rcases ZfN.1 h with h|h
   ·rw[Zfa]at h;rw[h];exact(ZCq hx).1
   ·exact ZI6 xs c h
theorem ZA0.setl{base:Nat}{left:Int}{S:Option Addr}(h:ZA0 w base xg gd left a b S n c sr)(l'):ZA0 (w.setCell ⟨xg,1,none⟩ (.int .i64 l')) base xg gd l' a b S n c sr/\GB w (w.setCell ⟨xg,1,none⟩ (.int .i64 l')) (· =xg):=by
 refine⟨⟨ZR h.1 1 _,h.2.1,h.2.2.1.kept (Ze w xg 1 _) ?_,h.2.2.2⟩,(GB.refl w (· =xg)).set xg 1 _ (.inl rfl)⟩;cases hq:(Value.slice S n c).ownBlock with
 |none=>exact .inl rfl
 |some q=>exact .inr λe=>h.2.2.2 (by rw[hq];exact e)
theorem ZUb{zs:List (Zy × Zt)}{c:Zy}{r:Zt}(h:(sr++zs.flatMap ZCL).Nodup)(hz:zs[j]?=some (c,r))(ho:c.op=2)(hg:r.granted=true):r.ser ∉ sr++(zs.take j).flatMap ZCL:=λhm=>by
 have e:zs.flatMap ZCL=(zs.take j).flatMap ZCL++([r.ser]++(zs.drop (j+1)).flatMap ZCL):=by
  conv=>lhs;rw[<-Zfl j zs]
  rw[Zew]
  congr 1
  obtain⟨hj,e⟩:=Ze5.1 hz;rw[List.drop_eq_getElem_cons hj,Zex,e]
  congr 1
  exact Zgl ⟨ho,hg⟩
 rw[e,<-Zei]at h;exact(List.nodup_append.1 h).2.2 _ hm _ ZXz rfl
theorem ZA0.append{w5 w6:World}{base:Nat}{left z:Int}{S:Option Addr}(h:ZA0 w base xg gd left a b S n c sr)(x5:ZM w w5)(o6:w6.ownsRow base 2 1 (.slice B (n+1) cb) (n+1) (Zn sr++[.int .i64 z]))(g6:w5.grownBy w6 (Value.slice S n c).ownBlock)(b6:(Value.slice B (n+1) cb).ownBlock=(Value.slice S n c).ownBlock\/(Value.slice B (n+1) cb).ownBlock=some w5.heap.size): ZA0 (w6.setCell ⟨xg,4,none⟩ (.slice B (n+1) cb)) base xg gd left a b B (n+1) cb (sr++[z])/\GB w (w6.setCell ⟨xg,4,none⟩ (.slice B (n+1) cb)) (λi=>i=xg\/(Value.slice S n c).ownBlock=some i)/\∀i,(Value.slice B (n+1) cb).ownBlock=some i->(Value.slice S n c).ownBlock=some i\/w.heap.size<=i:=by
 obtain⟨h1,h2,h3,h4⟩:=h;have ak:=ZX h1;have hs:=x5.size;have gg:GB w w6 (λi=>i=xg\/(Value.slice S n c).ownBlock=some i):=(GB.of_ext _ x5).grown g6 (λq e=>.inl (.inr e));have iT:w6.heap[xg]?=some (.cells #[ZH gd,.int .i64 left,.int .i64 a,.int .i64 b,.slice S n c] 108 (0,0)):=((GB.refl w5 (λi=>(Value.slice S n c).ownBlock=some i)).grown g6 (λq e=>.inl e)).blk (ZK h1 x5) h4;have hn:(Value.slice B (n+1) cb).ownBlock≠some xg:=λe=>by
  rcases b6 with b|b
  ·exact h4 (b ▸ e)
  ·rw[b]at e;injection e with e;omega
 refine⟨⟨ZR iT 4 _,by rw[ZfE,h2];rfl,?_,hn⟩,gg.trans ((GB.refl w6 _).set xg 4 _ (.inl (.inl rfl))) (λi e=>.inl e),λi e=>?_⟩
 ·rw[ZFJ];refine o6.kept (Ze w6 xg 4 _) ?_;cases hq:(Value.slice B (n+1) cb).ownBlock with
  |none=>exact .inl rfl
  |some q=>exact .inr λe=>hn (by rw[hq];exact e)
 ·rcases b6 with b|b
  ·exact .inl (b ▸ e)
  ·rw[b]at e;injection e with e;exact .inr ZB
theorem ZLN {aw:Array Oper}{a:Act}{K:Act->World->Prop}{Q:Exit->Act->World->Prop}{E:Prop}(w:World)(bu:o.guard=none)(s x)(ho:o.op=.call {callee:=.builtin .append,args:=#[s,x],argTypes:=#[60,60]})(base){xs:List Int}(hs:a.eval s=.slice B n cb)(af:w.ownsRow base 2 1 (.slice B n cb) n (Zn xs)){y:Value}(hx:a.eval x=.slice A 1 c)(hr:Rd w A [y])(hy:y.oneCell'=true)(hb:n<=1000000)(an:base<=w.heap.size)(h:∀B' au w',w'.ownsRow base 2 1 (.slice B' (n+1) au) (n+1) (Zn xs++[y])->w.grownBy w' (Value.slice B n cb).ownBlock-> ((Value.slice B' (n+1) au).ownBlock=(Value.slice B n cb).ownBlock\/(Value.slice B' (n+1) au).ownBlock=some w.heap.size)->K (a.put o.dst (.slice B' (n+1) au)) w'): if Region.wanted o (yielded aw a.tmps)=true then Oper.wp prog o a w K Q else E:=by
 have hw:Region.wanted o (yielded aw a.tmps)=true:=by simp[Region.wanted,bu]
 rw[Zgl hw];obtain⟨i0,hi,bV,bY,aS⟩:=Zgm ZFK;exact Jl w s x 60 ho base 2 underlying60 hi bV bY aS rfl (by decide) hs af hx (m:=1) (news:=[y]) rfl hr (by intro u hu;simp at hu;subst hu;exact hy) (by unfold maxLen;omega) ZB an h
def ZWv (w:World)(base xg gd:Nat)(left a b:Int)(S:Option Addr)(n c:Nat)(sr ts:List Int)(am:Nat)(e:Ending)(w':World):Prop:=e=.returned (.bool true)/\∃S' n' c',ZA0 w' base xg gd (left - (am:Int)) a b S' n' c' (sr++ts)/\GB w w' (λi=>i=xg\/(Value.slice S n c).ownBlock=some i)/\∀q,(Value.slice S' n' c').ownBlock=some q->(Value.slice S n c).ownBlock=some q\/w.heap.size<=q
theorem ZTe (w:World)(base gd:Nat)(g:Zz)(N n:Nat)(d:Xf)(F:Zhf)(rs:List Zt)(cm:List Nat)(A:Option Addr)(m cc:Nat)(xg sb:Nat)(left a b:Int)(S:Option Addr)(sn sc:Nat)(sr:List Int)(h:YW w base gd g N d F)(hn:n<63)(da:(d.ls n).wr=ZAY rs)(jN:∀r ∈ rs,ZAN r)(dw:rs.length<=1000)(hl:cm.length=m)(qY:m<=cc)(hm:m<=1000000)(hb:∀x ∈ cm,x<256)(hr:Rd w A (ZT .u8 cm))(ah:rs.length<=(YH cm).length+1)(hx:ZA0 w sb xg gd left a b S sn sc sr)(qR:sb<=w.heap.size)(hA:(Y7 a b (YH cm) rs:Int)<=left)(nH:left<=4611686018427387903)(hS:(sr++Xl (YH cm) rs).Nodup)(mj:sn<=100000): Calls prog 27 #[ZH xg,.int .i64 n,.slice A m cc] w (ZWv w sb xg gd left a b S sn sc sr (Xl (YH cm) rs) (Y7 a b (YH cm) rs)):=by
 have RE:=ZA (λu (y:ZM w u)=>ZNK u base gd g N n d F rs (h.ext y) hn da jN dw);have CA:=ZA (λu (y:ZM w u)=>ZTp u A m cc cm hl qY hm hb (hr.ext y));have gF:=ZA (λc (h:c ∈ YH cm)=>(ZJJ (ZI6 _ c (by rw[ZFX]at h;exact h))).2.2.2.2.1);obtain⟨cs,rA⟩:=ZX2 (YH cm);rw[rA.o]at CA ah hA hS gF ⊢;obtain⟨zs,Hzs⟩:=ZX2 (cs.zip rs);have uA:Y7 a b cs rs=ZEI a b zs:=by rw[<-Hzs.o];rfl
 have fy:Xl cs rs=zs.flatMap ZCL:=by rw[<-Hzs.o];rfl
 rw[uA]at hA ⊢;rw[fy]at hS ⊢;obtain⟨nc,Hnc⟩:=ZX2 (cs.length);obtain⟨nr,Hnr⟩:=ZX2 (rs.length);have eW:=ZJk cm;rw[rA.o,Hnc.o,hl]at eW;rw[Hnc.o,Hnr.o]at ah;rw[Hnr.o]at dw;obtain⟨oz,zD,H7⟩:=Z8 hx hA hS;obtain⟨q,Hq⟩:=ZX2 (zs.length);have hq:q=min nc nr:=by rw[<-Hq.o,<-Hzs.o,List.length_zip,Hnc.o,Hnr.o]
 have x0:=ZX1 hx.1 0 (ZH gd);have EL:¬(nc:Int)+1<(nr:Int):=by omega
 have EK:decide ((nc:Int)+1<(nr:Int))=false:=Zgf EL;have EJ:decide (nc+1<nr)=false:=Zgf ZB;clear h da jN hr hb hx hA hS uA fy hl;go_enter func27,ntmps27;go_wp2_with fail;refine(RE.o w (ZM.refl w)).mono ?_;rintro e w1 ⟨B1,c1,rfl,iL,x1⟩;rw[Hnr.o]at iL ⊢;have O1:=ZA iL;have X1:=ZA x1;clear iL x1;go_wp2_with fail;refine(CA.o w1 X1.o).mono ?_;rintro e w2 ⟨B2,k2,c2,ks,rfl,io,x2⟩;have jP:k2=nc:=by rw[<-io.2.1];exact Hnc.o
 subst jP;have xd:min (k2:Int) (nr:Int)=(q:Int):=by omega
 have ij:(0:Int)<=(q:Int):=by omega
 have kY:=YR io.2.2.1;have Li:(q:Int)<=(c2:Int):=by omega
 have N2:=ZA io;have X2:=ZA (X1.o.trans x2);have vm:=ZA x2;clear io x2 x0;have Gw:=ZA (show min k2 nr=q by omega);have Dy:=ZX oz.o.1;have HT:=ZA (show ∀i,w.heap.size<=i->¬(i=xg\/(Value.slice S sn sc).ownBlock=some i)from λi hi e=>e.elim (λe=>by omega) (λe=>by have:=(oz.o.2.2.1.lt i e).2;omega));go_wp2_with fail;rw[Gw.o];have Lh:q<=k2:=by omega
 have Lf:q<=nr:=by omega
 clear xd hq;go_loopw [43] (λvK wr=>∃(j:Nat) (S':Option Addr) (n' c':Nat),j<=q/\vK=.int .i64 j/\n'<=sn+j/\ZA0 wr sb xg gd (left - (ZEI a b (zs.take j):Int)) a b S' n' c' (sr++(zs.take j).flatMap ZCL)/\GB w2 wr (λi=>i=xg\/(Value.slice S sn sc).ownBlock=some i)/\∀i,(Value.slice S' n' c').ownBlock=some i->(Value.slice S sn sc).ownBlock=some i\/w2.heap.size<=i) (λvK _=>q - (intOf vK).toNat);case atStart=>exact⟨0,S,sn,sc,ZgR _,rfl,Zf6 _,by simpa[ZEI]using oz.o.ext X2.o,GB.refl _ _,λi e=>.inl e⟩
 case round=>
  obtain⟨j,S',n',c',hj,rfl,bG,hcx,hg,af⟩:=hrel;obtain⟨HC,HG,jl⟩:=Z8 hcx hg af;clear hcx hg af;by_cases ak:j<q
  ·have dg:(j:Int)<(q:Int):=by omega
   have AP:(0:Int)<=(j:Int)/\(j:Int)<(nr:Int):=⟨by omega,by omega⟩;have Lt:(0:Int)<=(j:Int):=by omega
   have jf:(j:Int)<(nr:Int):=by omega
   have gp:IntKind.i64.wrap ((j:Int)+1)=((j+1:Nat):Int):=by rw[Zee];omega
   obtain⟨c,hc⟩:∃c,cs[j]?=some c:=⟨_,Ze4 (by rw[Hnc.o];omega)⟩;obtain⟨r,hr⟩:∃r,rs[j]?=some r:=⟨_,Ze4 (by rw[Hnr.o];omega)⟩;have hz:zs[j]?=some (c,r):=by rw[<-Hzs.o];exact ZfD.2 ⟨hc,hr⟩
   obtain⟨bc,K,kc,hB2,g1,g2,d0,d1,d2,d3,hK,uZ⟩:=N2.o.at_ hc;obtain⟨br,hB1,g3,g4⟩:=JS O1.o (by have:=YR O1.o;omega);subst hB1 hB2;have uB:=λk (hk:k<6)=>(O1.o.cellAt (j*6+k) (show j*6+k<nr*6 by omega)).trans (ZFO (λr:Zt=>(ZGg r).toList) 6 rs (λ_ _=>rfl) j r hr k hk);have aK:=X1.o.size;have kx:=HT.o bc ZB;have jp:=HT.o br g3;have y0:=HG.o.cell d0 kx;have y1:=HG.o.cell d1 kx;have y2:=HG.o.cell d2 kx;have y3:=HG.o.cell d3 kx;have r1:wr.cell? ⟨br,j*6+1,none⟩=some (.bool r.granted):=HG.o.cell (ZF vm.o (uB 1 ZB)) jp;have r4:wr.cell? ⟨br,j*6+4,none⟩=some (.int .i64 r.ser):=HG.o.cell (ZF vm.o (uB 4 ZB)) jp;have r5:wr.cell? ⟨br,j*6+5,none⟩=some (.int .i64 r.now):=HG.o.cell (ZF vm.o (uB 5 ZB)) jp;obtain⟨kl,Hkl⟩:=ZX2 (c.key.length);rw[Hkl.o]at y2;have hKr:Rd wr K (ZT .u8 c.key):=HG.o.rd hK (λp hp=>HT.o _ (by have:=uZ p hp;omega));have HZ:=ZA hz;obtain⟨W,hW,xW,KB⟩:=Za wr (.cells #[.int .u8 (c.op:Int),.int .i64 (c.pol:Int),.slice K kl kc,.int .i64 (c.num:Int)] 34);have GN:=ZA hW;have XW:=ZA xW;have CV:=ZA (λq=>ZID (W.drewN q) K kl kc c.key Hkl.o ((hKr.ext xW).drewN q));have zq:=ZA (gF.o c (ZfU hc));clear hc hr hz d0 d1 d2 d3 hK uZ uB hW xW hKr;go_upto_region 8 with fail
   (try rw[GN.o]);obtain⟨qb,Hqb⟩:=ZX2 (decide (c.op=1/\c.pol=0/\c.key=[97]/\r.granted=true/\a<=r.now/\r.now<=b));have k0:=ZX1 KB.o 0 (.int .u8 (c.op:Int));have k1:=ZX1 KB.o 1 (.int .i64 (c.pol:Int));have uv:=ZX1 KB.o 2 (.slice K kl kc);have k3:=ZX1 KB.o 3 (.int .i64 (c.num:Int));have z1:=ZF XW.o r1;have z4:=ZF XW.o r4;have z5:=ZF XW.o r5;have cx:=HC.o.ext XW.o;have x1:=ZX1 cx.1 1 (.int .i64 (left - (ZEI a b (zs.take j):Int)));have x2:=ZX1 cx.1 2 (.int .i64 a);have x3:=ZX1 cx.1 3 (.int .i64 b);have HCW:=ZA cx;have jx:=ZA (ZXh c.key zq.o);clear y0 y1 y2 y3 r1 r4 r5 cx;go_cut [92]from 48 to 92 (λCw wd=>Cw=.bool qb/\ZM W wd);case first=>
    by_cases h1:c.op=1
    ·have t1:((c.op:Int)==1)=true:=by simp[h1]
     have CY:decide ((c.op:Int)=1)=true:=by simp[h1]
     have H1:=ZA h1;clear h1;by_cases h2:c.pol=0
     ·have t2:((c.pol:Int)==0)=true:=by simp[h2]
      have CU:decide ((c.pol:Int)=0)=true:=by simp[h2]
      have H2:=ZA h2;have cv:=CV.o;clear h2;by_cases h3:c.key=[97]
      ·rw[(jx.out).1 h3]at cv;have H3:=ZA h3;clear h3;obtain⟨gr,Hgr⟩:=ZX2 (r.granted);rw[Hgr.o]at z1;cases gr with
       |true=>
        by_cases h5:a<=r.now
        ·have t5:decide (a<=r.now)=true:=Zgg h5;by_cases h6:r.now<=b
         ·have t6:decide (r.now<=b)=true:=Zgg h6;have e:qb=true:=by rw[<-Hqb.o];exact Zgg ⟨H1.o,H2.o,H3.o,Hgr.o,h5,h6⟩
          go_quiet (fail);go_wp2_with fail;go_meet;exact⟨by rw[e],(ZM.refl W).drewN _⟩
         ·have t6:decide (r.now<=b)=false:=Zgf h6;have e:qb=false:=by rw[<-Hqb.o];exact Zgf (λq=>h6 q.2.2.2.2.2)
          go_quiet (fail);go_wp2_with fail;go_meet;exact⟨by rw[e],(ZM.refl W).drewN _⟩
        ·have t5:decide (a<=r.now)=false:=Zgf h5;have e:qb=false:=by rw[<-Hqb.o];exact Zgf (λq=>h5 q.2.2.2.2.1)
         go_quiet (fail);go_wp2_with fail;go_meet;exact⟨by rw[e],(ZM.refl W).drewN _⟩
       |false=>
        have e:qb=false:=by rw[<-Hqb.o];exact Zgf (λq=>by have:=q.2.2.2.1;rw[Hgr.o]at this;cases this)
        go_quiet (fail);go_wp2_with fail;go_meet;exact⟨by rw[e],(ZM.refl W).drewN _⟩
      ·obtain⟨s1,aG⟩:=ZX3 (strOfNums (ZFG c.key));have Bm:=(jx.out).2 h3;rw[aG]at cv Bm;have Fq:=Bm;rw[show(⟨#[97]⟩:ByteArray).toList=[97] by rw[ByteArray.toList_eq]]at Fq;have e:qb=false:=by rw[<-Hqb.o];exact Zgf (λq=>h3 q.2.2.1)
       clear aG;go_quiet (fail);go_wp2_with fail;go_meet;exact⟨by rw[e],(ZM.refl W).drewN _⟩
     ·have t2:((c.pol:Int)==0)=false:=by simp[h2]
      have CU:decide ((c.pol:Int)=0)=false:=by simp[h2]
      have CS:(c.pol==0)=false:=by simp[h2]
      have e:qb=false:=by rw[<-Hqb.o];exact Zgf (λq=>h2 q.2.1)
      go_quiet (fail);go_wp2_with fail;go_meet;exact⟨by rw[e],(ZM.refl W).drewN _⟩
    ·have t1:((c.op:Int)==1)=false:=by simp[h1];omega
     have CY:decide ((c.op:Int)=1)=false:=by simp[h1];omega
     have CW:(c.op==1)=false:=by simp[h1]
     have e:qb=false:=by rw[<-Hqb.o];exact Zgf (λq=>h1 q.1)
     go_quiet (fail);go_wp2_with fail;go_meet;exact⟨by rw[e],(ZM.refl W).drewN _⟩
   case rest=>
    obtain⟨rfl,hxd⟩:=hcut;rename World=>wd
    have XD:=ZA hxd;have p1:=ZF hxd x1;have p3:=ZF hxd k3;have pz:=ZPL hxd x1 (ZG HCW.o.1 1);have p0:=ZF hxd k0;have q1:=ZF hxd z1;have q4:=ZF hxd z4;clear x1 x2 x3 k0 k1 uv k3 z1 z4 z5 hxd CV jx;go_upto_if 92 with fail;go_cut []from 93 to 108 (λwe=>∃S9 n9 c9,n9<=sn+j/\ZA0 we sb xg gd (left - (ZEI a b (zs.take (j+1)):Int)) a b S9 n9 c9 (sr++(zs.take j).flatMap ZCL)/\GB wd we (· =xg)/\∀i,(Value.slice S9 n9 c9).ownBlock=some i->(Value.slice S sn sc).ownBlock=some i\/w2.heap.size<=i);case first=>
     cases qb with
     |false=>
      go_wp2_with fail
      go_meet
      have e:ZCM a b (ZAx c) r=0:=Zgk λq=>absurd (Zgo Hqb.o) (λh=>h (by
       obtain⟨i1,i2,i3,i4,i5⟩:=q;obtain⟨e1,e2⟩:=ZSG i2;exact⟨i1,e1,e2,i3,i4,i5⟩))
      have hs:=ZIy (a:=a) (b:=b) HZ.o;refine⟨S',n',c',bG,?_,GB.refl _ _,jl.o⟩;rw[hs,e,Zf2];exact HCW.o.ext XD.o
     |true=>
      have e:ZCM a b (ZAx c) r=c.num:=by
       have qT:=Zgp Hqb.o;unfold ZCM;rw[Zgl ⟨qT.1,by show c.pol::c.key=[0,97];rw[qT.2.1,qT.2.2.1],qT.2.2.2⟩];rfl
      have hs:=ZIy (a:=a) (b:=b) HZ.o;have df:=ZUY a b zs (j+1);rw[hs,e]at df;have lV:=zD.o;have cd:¬left - (ZEI a b (zs.take j):Int)<(c.num:Int):=by omega
      have Ea:decide (left - (ZEI a b (zs.take j):Int)<(c.num:Int))=false:=Zgf cd;go_upto_region 9 with fail;go_quiet (fail);go_upto_region 11 with fail;go_region;go_wp2_with fail;go_meet;obtain⟨s1,s2⟩:=((HCW.o.ext XD.o).ext ((ZM.refl wd).drewN (nq+1))).setl (left - (ZEI a b (zs.take j):Int) - (c.num:Int));refine⟨S',n',c',bG,?_,(GB.of_ext _ ((ZM.refl wd).drewN (nq+1))).trans s2 (λi e=>.inl e),jl.o⟩;rw[hs,e];push_cast;rw[show left - ((ZEI a b (zs.take j):Int)+(c.num:Int))=left - (ZEI a b (zs.take j):Int) - (c.num:Int) by omega];exact s1
    case rest=>
     obtain⟨S9,n9,c9,pK,Ba,hg9,AD⟩:=hcut;rename World=>we
     have oA:=ZA Ba;have uc:=ZA AD;have Dk:wr.heap.size≠xg:=λe=>by have:=HG.o.size;have:=X2.o.size;omega
     have zY:br≠xg:=by omega
     have v0:=hg9.cell p0 Dk;have v1:=hg9.cell q1 zY;have v4:=hg9.cell q4 zY;have GA:=ZA (((HG.o.ext XW.o).ext XD.o).trans hg9 (λi e=>.inl (.inl e)));clear p0 p1 p3 pz q1 q4 Ba hg9 AD;obtain⟨gr,Hgr⟩:=ZX2 (r.granted);rw[Hgr.o]at v1;have px:=ZA (ZPy HZ.o);by_cases h8:c.op=2
     ·have t8:((c.op:Int)==2)=true:=by simp[h8]
      have H8:=ZA h8;clear h8;cases gr with
      |true=>
       have In:=ZA (ZUb H7.o HZ.o H8.o Hgr.o);have ug:=oA.o.2.1;have u4:=ZX1 oA.o.1 4 (.slice S9 n9 c9);go_wp2_with fail;go_loopw [124] (λoD wy=>∃p:Nat,p<=n9/\oD=.int .i64 p/\ZM we wy) (λoD _=>n9 - (intOf oD).toNat);case atStart=>exact⟨0,ZgR _,rfl,ZM.refl we⟩
       case round=>
        obtain⟨p,hp,rfl,ie⟩:=hrel;have cZ:=ZA ie;have zI:=ZF ie v4;clear ie;by_cases ed:p<n9
        ·have uE:(p:Int)<(n9:Int):=by omega
         have uF:(0:Int)<=(p:Int):=by omega
         have Bc:IntKind.i64.wrap ((p:Int)+1)=((p+1:Nat):Int):=by rw[Zee];omega
         obtain⟨gs,hS9,-⟩:=ZFC oA.o.2.2.1 (by have:=YR oA.o.2.2.1;omega);have hrow:=oA.o.2.2.1;rw[hS9]at hrow;have kW:=ZF cZ.o ((hrow.cellAt (p*1+0) (show p*1+0<n9*1 by omega)).trans (by rw[ZgJ,Zf2];exact ZFy (by rw[ug];exact ed)));rw[ZgJ,Zf2]at kW;obtain⟨xs,Hxs⟩:=ZX2 ((sr++(zs.take j).flatMap ZCL).getD p 0);rw[Hxs.o]at kW;have ag:¬xs=r.ser:=λe=>In.o (by
          rw[<-e,<-Hxs.o,Zez,Ze4 (by rw[ug];exact ed)];exact List.getElem_mem _)
         have gk:(xs==r.ser)=false:=by simp[ag]
         have Ef:decide (xs=r.ser)=false:=by simp[ag]
         subst hS9;clear hrow;go_wp2_with fail;go_roundw;case rel=>exact⟨p+1,ed,by go_num,cZ.o⟩
         case measure=>simp[intOf];omega
        ·obtain⟨T2,T6,T8,T10,T12,T15,T17,T21⟩:=QA;exact ZYX
      |false=>
       exact ZY9
     ·obtain⟨T1,_⟩:=QA;exact ZY9
  ·have dg:¬(j:Int)<(q:Int):=by omega
   obtain rfl:j=q:=by omega
   go_wp2_with fail;go_ret;have hC:=HC.o;rw[Zfp (by rw[Hq.o];exact Zf6 _)]at hC;exact⟨rfl,S',n',c',hC,(GB.of_ext _ X2.o).trans HG.o (λi e=>.inl e),λi e=>(jl.o i e).imp id (λe=>Zf8 X2.o.size e)⟩
end
abbrev SlA:=Option Addr × Nat × Nat
variable {CA:Nat->SlA}{S:SlA}
def slV (s:SlA):Value:=.slice s.1 s.2.1 s.2.2
def ZIs (cb:Nat)(CA:Nat->SlA):Nat->Prop:=λi=>i=cb\/∃k,k<4/\(slV (CA k)).ownBlock=some i
def ZKv (xg:Nat)(S:SlA):Nat->Prop:=λi=>i=xg\/(slV S).ownBlock=some i
def Fo (cb xg:Nat)(CA:Nat->SlA)(S:SlA):Nat->Prop:=λi=>ZIs cb CA i\/ZKv xg S i
def ZPR (CA:Nat->SlA):Array Value:=#[slV (CA 0),slV (CA 1),slV (CA 2),slV (CA 3)]
structure ZDI (w:World)(bs cb:Nat)(CA:Nat->SlA)(cm:Nat->List Nat):Prop where
 blk:∃t,w.heap[cb]?=some (.cells (ZPR CA) t (0,0))
 len:∀k,k<4->(cm k).length=(CA k).2.1
 own:∀k,k<4->w.ownsRow bs 5 1 (slV (CA k)) (CA k).2.1 (ZT .u8 (cm k))
 ne:∀k,k<4->(slV (CA k)).ownBlock≠some cb
 dis:∀k l,k<4->l<4->k≠l->∀q,(slV (CA k)).ownBlock=some q->(slV (CA l)).ownBlock≠some q
theorem ZDI.gb{cm:Nat->List Nat}{S:Zhf}(h:ZDI w bs cb CA cm)(k:GB w w' S)(hS:∀i,ZIs cb CA i->¬S i):ZDI w' bs cb CA cm:=by
 obtain⟨t,ht⟩:=h.blk;exact⟨⟨t,k.blk ht (hS cb (.inl rfl))⟩,h.len,λj hj=>k.own (h.own j hj) (λq e=>hS q (.inr ⟨j,hj,e⟩)),h.ne,h.dis⟩
theorem ZDI.lt{cm:Nat->List Nat}(h:ZDI w bs cb CA cm):∀i,ZIs cb CA i->i<w.heap.size:=λi hi=>by
 rcases hi with rfl|⟨k,hk,e⟩
 ·obtain⟨t,ht⟩:=h.blk;exact ZX ht
 ·exact((h.own k hk).lt i e).2
theorem ZRg (CA)(hk:k<4):(ZPR CA)[k]?=some (slV (CA k)):=by
 rcases(show k=0\/k=1\/k=2\/k=3 by omega)with rfl|rfl|rfl|rfl<;>rfl
theorem ZRf (CA)(hk:k<4)(s):(ZPR CA).setIfInBounds k (slV s)=ZPR (Zr CA k s):=by
 rcases(show k=0\/k=1\/k=2\/k=3 by omega)with rfl|rfl|rfl|rfl<;>rfl
theorem ZDI.cell{cm:Nat->List Nat}(h:ZDI w bs cb CA cm)(hk:k<4):w.cell? ⟨cb,k,none⟩=some (slV (CA k))/\w.frozen? ⟨cb,k,none⟩=false:=by
 obtain⟨t,ht⟩:=h.blk;exact⟨(ZE ht k).trans (ZRg CA hk),ZG ht k⟩
theorem ZA0.gb{base:Nat}{left:Int}{T:Zhf}(h:ZA0 w base xg gd left a b S.1 S.2.1 S.2.2 sr)(k:GB w w' T)(hT:∀i,ZKv xg S i->¬T i):ZA0 w' base xg gd left a b S.1 S.2.1 S.2.2 sr:=⟨k.blk h.1 (hT xg (.inl rfl)),h.2.1,k.own h.2.2.1 (λq e=>hT q (.inr e)),h.2.2.2⟩
theorem ZA0.lt{base:Nat}{left:Int}(h:ZA0 w base xg gd left a b S.1 S.2.1 S.2.2 sr):∀i,ZKv xg S i->i<w.heap.size:=λi hi=>by
 rcases hi with rfl|e
 ·exact ZX h.1
 ·exact(h.2.2.1.lt i e).2
structure ZBm (E:Zhf)(wr:World)(bs cb xg gd:Nat)(g:Zz)(NN:Nat)(d:Xf)(left a b:Int)(S:SlA)(sr:List Int)(CA:Nat->SlA)(cm:Nat->List Nat):Prop where
 dae:@YW ⟨Fo cb xg CA S⟩ wr bs gd g NN d (λi=>Fo cb xg CA S i\/E i)
 came:ZDI wr bs cb CA cm
 cnt:ZA0 wr bs xg gd left a b S.1 S.2.1 S.2.2 sr
 sep:∀i,ZIs cb CA i->¬ZKv xg S i
 lo:bs<=cb/\bs<=xg
theorem ZBm.fo_lt{left:Int}{cm:Nat->List Nat}(h:ZBm E wr bs cb xg gd g NN d left a b S sr CA cm):∀i,Fo cb xg CA S i->i<wr.heap.size:=λi hi=>hi.elim (h.came.lt i) (h.cnt.lt i)
theorem ZBm.fo_ge{left:Int}{cm:Nat->List Nat}(h:ZBm E wr bs cb xg gd g NN d left a b S sr CA cm):∀i,Fo cb xg CA S i->bs<=i:=λi hi=>by
 rcases hi with(rfl|⟨k,hk,e⟩)|(rfl|e)
 ·exact h.lo.1
 ·exact((h.came.own k hk).lt i e).1
 ·exact h.lo.2
 ·exact(h.cnt.2.2.1.lt i e).1
theorem ZBm.ext{left:Int}{cm:Nat->List Nat}(h:ZBm E wr bs cb xg gd g NN d left a b S sr CA cm)(x:ZM wr w'):ZBm E w' bs cb xg gd g NN d left a b S sr CA cm:=⟨@YW.ext ⟨_⟩ _ _ _ _ _ _ _ _ h.dae x,h.came.gb (GB.of_ext (λ_=>False) x) (λ_ _ e=>e),h.cnt.gb (GB.of_ext (λ_=>False) x) (λ_ _ e=>e),h.sep,h.lo⟩
theorem ZBm.put{w2:World}{left:Int}{cm:Nat->List Nat}(h:ZBm E wr bs cb xg gd g NN d left a b S sr CA cm)(hk:k<4){s':SlA}{cm':List Nat}(g2:GB wr w2 (λi=>(slV (CA k)).ownBlock=some i))(o2:w2.ownsRow bs 5 1 (slV s') s'.2.1 (ZT .u8 cm'))(hl:cm'.length=s'.2.1)(hb:∀q,(slV s').ownBlock=some q->(slV (CA k)).ownBlock=some q\/wr.heap.size<=q): ZBm E (w2.setCell ⟨cb,k,none⟩ (slV s')) bs cb xg gd g NN d left a b S sr (Zr CA k s') (Zr cm k cm')/\GB wr (w2.setCell ⟨cb,k,none⟩ (slV s')) (ZIs cb CA):=by
 have g3:GB wr (w2.setCell ⟨cb,k,none⟩ (slV s')) (λi=>i=cb\/(slV (CA k)).ownBlock=some i):=(g2.more (S':=λi=>i=cb\/(slV (CA k)).ownBlock=some i) (λi _ e=>.inr e)).set cb k _ (.inl (.inl rfl));have g4:GB w2 (w2.setCell ⟨cb,k,none⟩ (slV s')) (· =cb):=(GB.refl w2 (· =cb)).set cb k _ (.inl rfl);have uQ:=h.came.lt cb (.inl rfl);have tA:∀i,i=cb\/(slV (CA k)).ownBlock=some i->ZIs cb CA i:=λi e=>e.imp id (λe=>⟨k,hk,e⟩);have nA:∀i,ZIs cb (Zr CA k s') i->ZIs cb CA i\/wr.heap.size<=i:=λi hi=>by
  rcases hi with rfl|⟨j,hj,e⟩
  ·exact .inl (.inl rfl)
  ·by_cases q:j=k
   ·subst q;rw[Zc]at e;exact(hb i e).imp (λe=>.inr ⟨j,hj,e⟩) id
   ·rw[ZZ _ _ q]at e;exact .inl (.inr ⟨j,hj,e⟩)
 have gY:ZDI (w2.setCell ⟨cb,k,none⟩ (slV s')) bs cb (Zr CA k s') (Zr cm k cm'):=by
  obtain⟨t,ht⟩:=h.came.blk;refine⟨⟨t,?_⟩,λj hj=>?_,λj hj=>?_,λj hj=>?_,λj l hj hl jy q e1 e2=>?_⟩
  ·rw[<-ZRf CA hk s'];exact ZR (g2.blk ht (h.came.ne k hk)) k _
  ·by_cases q:j=k
   ·subst q;rw[Zc,Zc];exact hl
   ·rw[ZZ _ _ q,ZZ _ _ q];exact h.came.len j hj
  ·by_cases q:j=k
   ·subst q;rw[Zc,Zc];refine g4.own o2 (λq e e2=>?_);subst e2;rcases hb _ e with e|e
    ·exact h.came.ne j hj e
    ·omega
   ·rw[ZZ _ _ q,ZZ _ _ q];refine g3.own (h.came.own j hj) (λp e e2=>?_);rcases e2 with e2|e2
    ·subst e2;exact h.came.ne j hj e
    ·exact h.came.dis j k hj hk q p e e2
  ·by_cases q:j=k
   ·subst q;rw[Zc];intro e;rcases hb _ e with e|e
    ·exact h.came.ne j hj e
    ·omega
   ·rw[ZZ _ _ q];exact h.came.ne j hj
  ·by_cases p1:j=k
   ·subst p1;rw[Zc]at e1;rw[ZZ _ _ (λe=>jy e.symm)]at e2;rcases hb _ e1 with e|e
    ·exact h.came.dis j l hj hl jy q e e2
    ·have:=h.came.lt q (.inr ⟨l,hl,e2⟩);omega
   ·rw[ZZ _ _ p1]at e1;by_cases p2:l=k
    ·subst p2;rw[Zc]at e2;rcases hb _ e2 with e|e
     ·exact h.came.dis j l hj hl jy q e1 e
     ·have:=h.came.lt q (.inr ⟨j,hj,e1⟩);omega
    ·rw[ZZ _ _ p2]at e2;exact h.came.dis j l hj hl jy q e1 e2
 have lj:=h.cnt.gb g3 (λi hi e=>h.sep i (tA i e) hi);have nF:∀i,Fo cb xg (Zr CA k s') S i->Fo cb xg CA S i\/wr.heap.size<=i:=λi hi=>hi.elim (λe=>(nA i e).imp .inl id) (λe=>.inl (.inr e));have lF:∀i,Fo cb xg (Zr CA k s') S i->i<(w2.setCell ⟨cb,k,none⟩ (slV s')).heap.size:=λi hi=>hi.elim (gY.lt i) (lj.lt i);letI:Foreign:=⟨λ_=>False⟩;refine⟨⟨YW.fo h.dae g3 (λi _ e=>.inl (tA i e)) nF lF (λi hi=>hi.imp id .inr) (λi hi _=>ZgB (h.dae.2.1 i hi) g3.size),gY,lj,λi hi e=>?_,h.lo⟩,g3.more (λi _ e=>tA i e)⟩;rcases nA i hi with q|q
 ·exact h.sep i q e
 ·have:=h.cnt.lt i e;omega
theorem ZEK.told {P:List YK}{l:Jj}{cm:List Nat}{B:Nat}(h:ZEK P kc l cm rs B):l.wr=ZAY rs/\rs.length<=(YH cm).length+1:=by
 rcases h.ph with⟨-,-,q1,q2⟩|⟨s,ho,-⟩|⟨s,ho,-⟩
 ·exact⟨q1,q2⟩
 ·obtain⟨done,h1,h2⟩:=ho.done;exact⟨by rw[ho.l],by rw[h1,ZfE];omega⟩
 ·exact⟨ho.lwr,ho.len⟩
theorem ZPh (cs)(rs:List Zt):(Xl cs rs).length<=rs.length:=by
 unfold Xl;have:∀zs:List (Zy × Zt),(zs.flatMap ZCL).length<=zs.length:=λzs=>by
  induction zs with
  |nil=>exact Zf6 _
  |cons z zs ih=>
   rw[Zex,ZfE,ZfF];have:(ZCL z).length<=1:=by unfold ZCL;split<;>simp
   omega
 have h:=this (cs.zip rs);rw[List.length_zip]at h;omega
def ZXw (E:Zhf)(wr:World)(bs cb xg gd:Nat)(g:Zz)(NN:Nat)(d:Xf)(left a b:Int)(S:SlA)(sr:List Int)(CA:Nat->SlA)(cm:Nat->List Nat)(k:Nat)(rs:List Zt)(e:Ending)(w':World):Prop:=e=.returned (.bool true)/\∃S':SlA,ZBm E w' bs cb xg gd g NN d (left - (Y7 a b (YH (cm k)) rs:Int)) a b S' (sr++Xl (YH (cm k)) rs) CA cm/\S'.2.1<=S.2.1+rs.length/\GB wr w' (ZKv xg S)
theorem ZBm.count{left:Int}{cm:Nat->List Nat}{P:List YK}(h:ZBm E wr bs cb xg gd g NN d left a b S sr CA cm)(hk:k<4)(aF:ZEK P kc (d.ls k) (cm k) rs M)(hM:M<=400)(hA:(Y7 a b (YH (cm k)) rs:Int)<=left)(nH:left<=4611686018427387903)(hS:(sr++Xl (YH (cm k)) rs).Nodup)(mj:S.2.1<=100000): Calls prog 27 #[ZH xg,.int .i64 k,slV (CA k)] wr (ZXw E wr bs cb xg gd g NN d left a b S sr CA cm k rs):=by
 have af:=h.came.own k hk;have hcl:=aF.cl;have ah:=h.came.len k hk;have xP:bs<=wr.heap.size:=Zf8 h.lo.1 (Zf5 (h.came.lt cb (.inl rfl)));have dw:=aF.rl;have CO:=@ZTe ⟨Fo cb xg CA S⟩ wr bs gd g NN k d _ rs (cm k) (CA k).1 (CA k).2.1 (CA k).2.2 xg bs left a b S.1 S.2.1 S.2.2 sr h.dae ZB aF.told.1 aF.reps ZB ah (YR af) ZB aF.byte (Rd.of_own af) aF.told.2 h.cnt xP hA nH hS mj;refine CO.mono ?_;rintro e w' ⟨rfl,S',n',c',q1,q2,q3⟩;have nX:∀i,ZKv xg (S',n',c') i->ZKv xg S i\/wr.heap.size<=i:=λi hi=>hi.elim (λe=>.inl (.inl e)) (λe=>(q3 i e).imp .inr id);have gY:=h.came.gb (w':=w') (S:=ZKv xg S) (q2.more (λi _ e=>e)) (λi ha hx=>h.sep i ha hx);have lj:ZA0 w' bs xg gd (left - (Y7 a b (YH (cm k)) rs:Int)) a b (S',n',c').1 (S',n',c').2.1 (S',n',c').2.2 (sr++Xl (YH (cm k)) rs):=q1;have nF:∀i,Fo cb xg CA (S',n',c') i->Fo cb xg CA S i\/wr.heap.size<=i:=λi hi=>hi.elim (λe=>.inl (.inl e)) (λe=>(nX i e).imp .inr id);have lF:∀i,Fo cb xg CA (S',n',c') i->i<w'.heap.size:=λi hi=>hi.elim (gY.lt i) (lj.lt i);letI:Foreign:=⟨λ_=>False⟩;refine⟨rfl,(S',n',c'),⟨YW.fo h.dae q2 (λi _ e=>.inr e) nF lF (λi hi=>hi.imp id .inr) (λi hi _=>ZgB (h.dae.2.1 i hi) q2.size),gY,lj,λi hi e=>?_,h.lo⟩,?_,q2.more (λi _ e=>e)⟩
 ·rcases nX i e with q|q
  ·exact h.sep i hi q
  ·have:=h.came.lt i hi;omega
 ·have e1:=h.cnt.2.1;have e2:=q1.2.1;rw[ZfE]at e2;have:=ZPh (YH (cm k)) rs;show n'<=_;omega
theorem ZBm.served{left:Int}{cm:Nat->List Nat}{Q:Xf->List Nat->Prop}{e:Ending}(h:ZBm E wr bs cb xg gd g NN d left a b S sr CA cm)(hR:@ZMv ⟨Fo cb xg CA S⟩ bs gd g NN (λi=>Fo cb xg CA S i\/E i) Q wr e w'): ∃(B:Option Addr) (m c:Nat) (xs:List Nat) (d':Xf),e=.returned (.slice B m c)/\xs.length=m/\m<=c/\m<=1010/\(∀x ∈ xs,x<256)/\Rd w' B (ZT .u8 xs)/\ZBm E w' bs cb xg gd g (NN+1) d' left a b S sr CA cm/\Q d' xs/\GB wr w' (λi=>bs<=i/\¬E i/\i≠cb):=by
 obtain⟨B,m,c,xs,d',h1,h2,h3,h4,h5,h6,h7,h8,h9⟩:=hR;exact⟨B,m,c,xs,d',h1,h2,h3,h4,h5,h6,⟨h7,h.came.gb h8 (λi hi e=>e.2 (.inl (.inl hi))),h.cnt.gb h8 (λi hi e=>e.2 (.inl (.inr hi))),h.sep,h.lo⟩,h9,h8.more (λi _ e=>⟨e.1,λf=>e.2 (.inr f),λf=>e.2 (.inl (.inl (.inl f)))⟩)⟩
theorem ZBm.box{E':Zhf}{left:Int}{cm:Nat->List Nat}(h:ZBm E wr bs cb xg gd g NN d left a b S sr CA cm)(x:ZM wr w')(hE:∀i,E' i->E i\/(wr.heap.size<=i/\i<w'.heap.size)):ZBm E' w' bs cb xg gd g NN d left a b S sr CA cm:=⟨@YW.more ⟨_⟩ _ _ _ _ _ _ _ _ _ h.dae x (λi hi=>hi.elim (λe=>.inl (.inl e)) (λe=>(hE i e).imp .inr id)),(h.ext x).came,(h.ext x).cnt,h.sep,h.lo⟩
theorem DvI.left {g:Zz}{N M C mo:Nat}{f:Nat}{d:Xf}{cm:Nat->List Nat}{rs:Nat->List Zt}{sr:List Int}(h:DvI g (f:Int) ((f:Int)+(mo:Int)) N M d cm rs C sr): C+ZIM (λk=>Y7 (f:Int) ((f:Int)+(mo:Int)) (YH (cm k)) (rs k))<=(mo+30) / 10/\(sr++ZEo (λk=>Xl (YH (cm k)) (rs k))).Nodup:=by
 obtain⟨G,h1,h2⟩:=h.core;have h3:=h1.sv.top;have h4:G<=(mo+30) / 10:=by omega
 refine⟨?_,h1.ser.nodup⟩;unfold ZIM lnA at*
 dsimp only
 omega
def ZFp (f:Nat->Nat):Nat->Nat
 |0=>0
 |k+1=>ZFp f k+f k
def ZLg (f:Nat->List Int):Nat->List Int
 |0=>[]
 |k+1=>ZLg f k++f k
theorem ZKI (f)(hk:k<4):ZFp f k+f k<=ZIM f:=by
 unfold ZIM;rcases(show k=0\/k=1\/k=2\/k=3 by omega)with rfl|rfl|rfl|rfl<;>simp only[ZFp]<;>omega
theorem ZHd (f:Nat->List Int)(s)(hk:k<4)(h:(s++ZEo f).Nodup):((s++ZLg f k)++f k).Nodup:=by
 have e:s++ZEo f=((s++ZLg f k)++f k)++(match k with|0=>f 1++(f 2++f 3)|1=>f 2++f 3|2=>f 3|_=>[]):=by
  unfold ZEo;rcases(show k=0\/k=1\/k=2\/k=3 by omega)with rfl|rfl|rfl|rfl<;>simp[ZLg]
 rw[e]at h;exact(List.nodup_append.1 h).1
theorem ZT6 (f)(hk:k<4):f k<=ZIM f:=by have:=ZKI f hk;omega
theorem ZTo (f:Nat->List Int)(s)(hk:k<4)(h:(s++ZEo f).Nodup):(s++f k).Nodup:=by
 have e:=ZHd f s hk h;exact e.sublist (List.Sublist.append (List.sublist_append_left s _) (List.Sublist.refl _))
theorem ZVL {g:Zz}{f mo:Nat}(hg:g.P=PT)(hr:g.room=6)(hm:mo<256):DvI g (f:Int) ((f:Int)+(mo:Int)) 1 0 ZGS (λ_=>[]) (λ_=>[]) 0 []:=by
 have e1:ZEo (lnS (λ_=>[]) (λ_=>[]))=[]:=by unfold ZEo lnS Xl;simp
 refine⟨⟨0,?_,?_⟩,rfl,λn hn=>⟨.inl ⟨rfl,rfl,rfl,ZgR _⟩,(λr h=>by cases h),ZgR _,(λx h=>by cases h),ZgR _⟩⟩
 ·rw[e1];exact ZOU g.P g.room ZB
 ·unfold ZIM lnA Y7;simp;exact⟨⟨⟨rfl,rfl⟩,rfl⟩,rfl⟩
theorem ZQC {w1 w3:World}{left:Int}(h:@YW ⟨λ_=>False⟩ w1 bs gd g 1 ZGS (λ_=>False))(x:ZM w1 w3)(t): ZBm (λ_=>False) ((w3.alloc (.cells #[.slice none 0 0,.slice none 0 0,.slice none 0 0,.slice none 0 0] t)).alloc (.cells #[ZH gd,.int .i64 left,.int .i64 a,.int .i64 b,.slice none 0 0] 108)) bs w3.heap.size (w3.heap.size+1) gd g 1 ZGS left a b (none,0,0) [] (λ_=>(none,0,0)) (λ_=>[]):=by
 have xx:ZM w1 ((w3.alloc (.cells #[.slice none 0 0,.slice none 0 0,.slice none 0 0,.slice none 0 0] t)).alloc (.cells #[ZH gd,.int .i64 left,.int .i64 a,.int .i64 b,.slice none 0 0] 108)):=(x.alloc _).alloc _;have hA:=ZQ (ZV w3 (.cells #[.slice none 0 0,.slice none 0 0,.slice none 0 0,.slice none 0 0] t)) (.cells #[ZH gd,.int .i64 left,.int .i64 a,.int .i64 b,.slice none 0 0] 108);have hX:=ZAz w3 (.cells #[.slice none 0 0,.slice none 0 0,.slice none 0 0,.slice none 0 0] t) (.cells #[ZH gd,.int .i64 left,.int .i64 a,.int .i64 b,.slice none 0 0] 108);have xP:bs<=w3.heap.size:=Zf8 h.1 x.size;have nA:∀i,ZIs w3.heap.size (λ_=>(none,0,0)) i->i=w3.heap.size:=λi hi=>hi.elim id (λ⟨k,_,e⟩=>by cases e);have nX:∀i,ZKv (w3.heap.size+1) (none,0,0) i->i=w3.heap.size+1:=λi hi=>hi.elim id (λe=>by cases e);have nF:∀i,Fo w3.heap.size (w3.heap.size+1) (λ_=>(none,0,0)) (none,0,0) i->w1.heap.size<=i/\i<((w3.alloc (.cells #[.slice none 0 0,.slice none 0 0,.slice none 0 0,.slice none 0 0] t)).alloc (.cells #[ZH gd,.int .i64 left,.int .i64 a,.int .i64 b,.slice none 0 0] 108)).heap.size:=λi hi=>by
  have:=x.size;rcases hi with e|e
  ·rw[nA i e];exact⟨this,ZX hA⟩
  ·rw[nX i e];exact⟨by omega,ZX hX⟩
 letI:Foreign:=⟨λ_=>False⟩;refine⟨YW.fo h (GB.of_ext (λ_=>False) xx) (λ_ _ e=>e) (λi e=>.inr (nF i e).1) (λi e=>(nF i e).2) (λi e=>e.imp id (λe=>e)) (λi e=>e.elim),⟨⟨t,hA⟩,λ_ _=>rfl,λ_ _=>ZgZ _ _ _ _,(λ_ _ e=>by cases e),(λ_ _ _ _ _ q e=>by cases e)⟩,⟨hX,rfl,ZgZ _ _ _ _,(λe=>by cases e)⟩,λi e1 e2=>by have:=nA i e1;have:=nX i e2;omega,xP,by omega⟩
section
theorem ZLM {aw:Array Oper}{a:Act}{K:Act->World->Prop}{Q:Exit->Act->World->Prop}{E:Prop}(w:World)(bu:o.guard=none)(s x)(ho:o.op=.call {callee:=.builtin .append,args:=#[s,x],argTypes:=#[32,32]})(base){xs:List Nat}(hs:a.eval s=.slice B n cb)(af:w.ownsRow base 5 1 (.slice B n cb) n (ZT .u8 xs)){m:Nat}{news:List Nat}(hx:a.eval x=.slice A m c)(hl:news.length=m)(hr:Rd w A (ZT .u8 news))(hb:n+m<=140737488355328)(an:base<=w.heap.size)(h:∀B' au w',w'.ownsRow base 5 1 (.slice B' (n+m) au) (n+m) (ZT .u8 (xs++news))->w.grownBy w' (Value.slice B n cb).ownBlock-> ((Value.slice B' (n+m) au).ownBlock=(Value.slice B n cb).ownBlock\/(Value.slice B' (n+m) au).ownBlock=some w.heap.size)->K (a.put o.dst (.slice B' (n+m) au)) w'): if Region.wanted o (yielded aw a.tmps)=true then Oper.wp prog o a w K Q else E:=by
 have hw:Region.wanted o (yielded aw a.tmps)=true:=by simp[Region.wanted,bu]
 rw[Zgl hw];obtain⟨i0,hi,bV,bY,aS⟩:=Zgm ZGt;refine Jl w s x 32 ho base 5 underlying32 hi bV bY aS rfl (by decide) hs af hx (by rw[Xk,hl,ZgJ]) hr (ZHC _ _) (by unfold maxLen;omega) ZB an ?_;intro B' au w' h2 h3 h4;rw[<-ZBf]at h2;exact h B' au w' h2 h3 h4
variable [Foreign]
theorem ZPw (w:World)(base gd:Nat)(g:Zz)(N:Nat)(d:Xf)(F:Zhf)(Q:Xf->List Nat->Prop)(r:EvA)(n X:Nat)(h:YW w base gd g N d F)(hN:N<=100000)(hn:wrap64 ((IntKind.u64.wrap r.conn).tmod 4)=(n:Int))(hX:wrap64 ((IntKind.u64.wrap r.num2).tmod 40)=(X:Int))(hr:ZJp w r)(hE:ZPY g r.kind n (X:Int) d Q)(kl dl:Nat)(aX:r.key.length=kl)(cK:r.data.length=dl): Calls prog 28 #[ZH gd,.agg #[.int .u8 (r.kind:Int),.int .i64 r.conn,.int .u8 (r.op:Int),.int .i64 r.pol,.slice r.K kl r.kc,.int .i64 r.num,.slice r.A dl r.dc,.int .i64 r.num2]] w (ZMv base gd g N F Q w):=by
 obtain⟨h1,h2,h3,h4,h5,h6,h7,h8,h9,bD,bQ,bL,bP⟩:=hr;rcases(show r.kind % 6=0\/r.kind % 6=1\/r.kind % 6=2\/r.kind % 6=3\/r.kind % 6=4\/r.kind % 6=5 by omega)with q|q|q|q|q|q
 ·exact ZND w base gd g N d F Q r.kind r.conn r.op r.pol r.num r.K r.A kl r.kc dl r.dc r.num2 n h hN hn q (hE.e0 q)
 ·exact ZNF w base gd g N d F Q r.kind r.conn r.op r.pol r.num r.K r.A kl r.kc dl r.dc r.num2 n h hN hn q (hE.e1 q)
 ·exact ZPu w base gd g N d F Q r.kind r.conn r.op r.pol r.num r.K r.A kl r.kc dl r.dc r.num2 n h hN hn q r.data cK ZB h9 bL r.key h3 aX ZB h5 h7 (ZN4 h8).2 (hE.e2 (.inl q))
 ·exact ZPv w base gd g N d F Q r.kind r.conn r.op r.pol r.num r.K r.A kl r.kc dl r.dc r.num2 n h hN hn q r.data cK ZB h9 bL (hE.e2 (.inr q))
 ·exact ZNE w base gd g N d F Q r.kind r.conn r.op r.pol r.num r.K r.A kl r.kc dl r.dc r.num2 n h hN hn q (hE.e4 q)
 ·exact ZNC w base gd g N d F Q r.kind r.conn r.op r.pol r.num r.K r.A kl r.kc dl r.dc r.num2 n h hN hn q X hX (hE.e5 q)
end
theorem ZYZ {p:Prop}(h:p:=by
 first
 |obtain -:=T1;have dF:(0:Int)<=(i:Int):=by omega
  obtain⟨q,hq⟩:∃q,R[i]?=some q:=⟨_,Ze4 (by rw[Hl.o];omega)⟩;have hg:=λj hj=>ZFO ZBy 8 R (λ_ _=>rfl) i q hq j hj;obtain⟨b,off,hA,aq⟩:=(Hr.o.ext HX.o) (λe0=>by have:=hg 0 ZB;rw[e0]at this;simp[ZBy]at this);have d0:=aq (i*8+0) _ (hg 0 ZB);have d1:=aq (i*8+1) _ (hg 1 ZB);have d2:=aq (i*8+2) _ (hg 2 ZB);have d3:=aq (i*8+3) _ (hg 3 ZB);have d4:=aq (i*8+4) _ (hg 4 ZB);have d5:=aq (i*8+5) _ (hg 5 ZB);have d6:=aq (i*8+6) _ (hg 6 ZB);have d7:=aq (i*8+7) _ (hg 7 ZB);rw[<-Zfv]at d0 d1 d2 d3 d4 d5 d6 d7;rw[Zf2]at d0;obtain⟨kind,conn,op,pol,K,kc,key,num,DA,dc,data,num2⟩:=q
  dsimp only at d0 d1 d2 d3 d4 d5 d6 d7;subst hA;obtain⟨kl,Hkl⟩:=ZX2 (key.length);obtain⟨dl,Hdl⟩:=ZX2 (data.length);rw[Hkl.o]at d4;rw[Hdl.o]at d6;obtain⟨W,hW,xb,-⟩:=Za wr (.cells #[.int .u8 kind,.int .i64 conn,.int .u8 op,.int .i64 pol,.slice K kl kc,.int .i64 num,.slice DA dl dc,.int .i64 num2] 110);have XB:=ZA xb;have dy:(0:Int)<=(i:Int)/\(i:Int)<(n:Int):=⟨by omega,by omega⟩;clear hq hg aq xb;go_upto_region 12 with fail;(try rw[hW]);clear hW d0 d1 d2 d3 d4 d5 d6 d7
 |have Ee:¬(i:Int)<(n:Int):=jz;subst eQ
 go_wp2_with fail;go_loopw [108] (λiw wz=>∃(j:Nat) (S':SlA),j<=4/\iw=.int .i64 j/\ZBm (λ_=>False) wz bs cb xg gd g (1+i) d ((most:Int) - (C:Int) - (ZFp fA j:Int)) (f:Int) ((f:Int)+(mo:Int)) S' (sr++ZLg fS j) CA cm/\S'.2.1<=90000+300*j/\ZM w wz) (λiw _=>4 - (intOf iw).toNat);first|(obtain -:=T2;case atStart=>exact⟨0,S,by omega,rfl,by simpa[ZFp,ZLg]using HO.o.ext XB.o,by have:=HS.o;omega,HX.o.trans XB.o⟩)|case atStart=>exact⟨0,S,by omega,rfl,by simpa[ZFp,ZLg]using HO.o,by have:=HS.o;omega,HX.o⟩
 case round=>
  rename World=>wz
  obtain⟨j,S2,hj,rfl,ho,hs,rT⟩:=hrel;obtain⟨OZ,HSZ,tZ⟩:=Z8 ho hs rT;clear ho hs rT;by_cases jf:j<4
  ·have dg:(j:Int)<4:=by omega
   have rf:(0:Int)<=(j:Int)/\(j:Int)<4:=⟨by omega,by omega⟩;have Er:(0:Int)<=(j:Int):=by omega
   have xK:=(OZ.o.came.cell jf).1;have pF:=ZKI fA jf;have eA:Y7 (f:Int) ((f:Int)+(mo:Int)) (YH (cm j)) (rs j)=fA j:=by rw[<-HfA.o]
   have eS:Xl (YH (cm j)) (rs j)=fS j:=by rw[<-HfS.o]
   have dw:=(HD.o.ln j jf).rl;have CO:=ZA (OZ.o.count jf (HD.o.ln j jf) ZB (by rw[eA];have:=dP.o.1;omega) (by have:=Hmost.o;omega) (by rw[eS];exact ZHd fS sr jf dP.o.2) (by have:=HSZ.o;omega));clear pF;go_wp2_with fail;refine CO.o.mono ?_;rintro e w5 ⟨rfl,S3,o5,mp,g5⟩;rw[eA,eS]at o5;have O5:=ZA o5;have qy:=ZA mp;have E5:=ZA (g5.to_ext tZ.o (λq e=>Zf8 qN.out (OZ.o.fo_ge q (.inr e))));clear o5 mp g5 CO xK eA eS;go_wp2_with fail;go_roundw;case rel=>
    refine⟨j+1,S3,by omega,by go_num,?_,by have:=HSZ.o;have:=qy.o;omega,E5.o⟩;have h:=O5.o;rw[Zei]at h;rw[show(most:Int) - (C:Int) - (ZFp fA (j+1):Int)=(most:Int) - (C:Int) - (ZFp fA j:Int) - (fA j:Int) by show _ - ((ZFp fA j+fA j:Nat):Int)=_;push_cast;omega];exact h
   case measure=>simp[intOf];omega
  ·obtain rfl:j=4:=by omega
   have dg:¬((4:Nat):Int)<4:=by omega
   go_wp2_with fail;go_ret;exact ZO6 tZ.o):p:=h
theorem topServed_walk (w:World)(A:Option Addr)(n c:Nat)(R:List EvA)(hl:R.length=n)(hb:∀r ∈ R,ZJp w r)(hr:Rd w A (R.flatMap ZBy))(FN:n<=c)(hz:c<=140737488351232)(f:Nat)(hf:f<256)(mo:Nat)(AF:mo<256): Calls prog 5 #[.slice A n c,.int .u8 f,.int .u8 mo] w (ZPX w):=by
 obtain⟨Hl,Hb,Hr⟩:=Z8 hl hb hr;clear hl hb hr;have da:wrap64 ((f:Int)+(mo:Int))=(f:Int)+(mo:Int):=ZHB _ ZB ZB;go_enter func5,ntmps5;go_wp2_with fail;refine(ZLF _).mono ?_;rintro e w0 ⟨tb,rfl,nj,x0⟩;have DN:=ZA (show Calls prog 18 #[.slice (some ⟨tb,0,none⟩) 2 2,.int .i64 6] w0 (@ZUH ⟨λ_=>False⟩ w0 PT 6)from @ZVR ⟨λ_=>False⟩ PT (some ⟨tb,0,none⟩) 2 2 6 w0 rfl ZB ZVx nj ZB ZB (λ_ e=>e));have X0:=ZA x0;clear nj x0;go_wp2_with fail;refine DN.o.mono ?_;rintro e w1 ⟨gd,g,C0,xb0,L0,D0,rfl,hgP,lR,AZ,hL0,aK,jR⟩;have H1:=ZA (show @YW ⟨λ_=>False⟩ w1 w0.heap.size gd g 1 ZGS (λ_=>False)from⟨aK.size,λi e=>e.elim,C0,xb0,L0,D0,AZ,hL0,λi hi=>⟨jR i hi,λe=>e.elim⟩⟩);have X1:=ZA (X0.o.trans aK);have yY:=ZA hgP;have yW:=ZA lR;clear hgP lR AZ hL0 aK jR DN;obtain⟨bs,Hbs⟩:=ZX2 (w0.heap.size);rw[Hbs.o]at H1;have qN:=ZA (show w.heap.size<=bs by rw[<-Hbs.o];exact X0.o.size);go_wp2_with fail;refine(ZLF _).mono ?_;rintro e w2 ⟨iy,rfl,su,x2⟩;obtain⟨b2,o2,e2,dA⟩:=su (by simp[ZAB,PT,ZC5]);injection e2 with e2;injection e2 with e2 e3;subst e2 e3;have t1:w2.cell? ⟨iy,1,none⟩=some (.int .i64 10):=by have:=dA 1 (.int .i64 10) rfl;simpa using this
 have t2:w2.cell? ⟨iy,2,none⟩=some (.int .i64 20):=by have:=dA 2 (.int .i64 20) rfl;simpa using this
 clear dA su;have X2:=ZA x2;clear x2;go_wp2_with fail;refine(@ZNG ⟨λ_=>False⟩ mo AF _).mono ?_;rintro e w3 ⟨rfl,x3⟩;have X3:=ZA (X2.o.trans x3);clear x3 t1 t2;obtain⟨most,Hmost⟩:=ZX2 ((mo+30) / 10);rw[Hmost.o];go_wp2_with fail;have O0:=ZA (ZQC (left:=(most:Int)) (a:=(f:Int)) (b:=(f:Int)+(mo:Int)) H1.o X3.o 105);have x4:ZM w3 ((w3.alloc (.cells #[.slice none 0 0,.slice none 0 0,.slice none 0 0,.slice none 0 0] 105)).alloc (.cells #[ZH gd,.int .i64 most,.int .i64 f,.int .i64 ((f:Int)+(mo:Int)),.slice none 0 0] 108)):=((ZM.refl w3).alloc _).alloc _;have X4:=ZA ((X1.o.trans X3.o).trans x4);clear x4;obtain⟨cb,Hcb⟩:=ZX2 (w3.heap.size);obtain⟨xg,Hxg⟩:=ZX2 (w3.heap.size+1);rw[Hcb.o]at O0;rw[show cb+1=xg by rw[<-Hcb.o];exact Hxg.o]at O0;rw[Hcb.o,show cb+1=xg by rw[<-Hcb.o];exact Hxg.o];obtain⟨w4,kE⟩:=ZX3 (((w3.alloc (.cells #[.slice none 0 0,.slice none 0 0,.slice none 0 0,.slice none 0 0] 105)).alloc (.cells #[ZH gd,.int .i64 most,.int .i64 f,.int .i64 ((f:Int)+(mo:Int)),.slice none 0 0] 108)));rw[kE]at O0 X4 ⊢;clear kE;go_loopw [55] (λvI wr=>∃(i:Nat) (d:Xf) (cm:Nat->List Nat) (rs:Nat->List Zt) (C:Nat) (sr:List Int) (S:SlA) (CA:Nat->SlA),i<=n/\i<=300/\vI=.int .i64 i/\ZBm (λ_=>False) wr bs cb xg gd g (1+i) d ((most:Int) - (C:Int)) (f:Int) ((f:Int)+(mo:Int)) S sr CA cm/\DvI g (f:Int) ((f:Int)+(mo:Int)) (1+i) i d cm rs C sr/\S.2.1<=300*i/\ZM w wr) (λvI _=>n - (intOf vI).toNat);case atStart=>exact⟨0,ZGS,λ_=>[],λ_=>[],0,[],(none,0,0),λ_=>(none,0,0),ZgR _,ZgR _,rfl,by simpa using O0.o,ZVL yY.o yW.o AF,ZgR _,X4.o⟩
 case round=>
  obtain⟨i,d,cm,rs,C,sr,S,CA,hi,ED,rfl,hO,hD,hS,hx⟩:=hrel;obtain⟨HO,HD,HS,HX⟩:=ZAU hO hD hS hx;clear hO hD hS hx;by_cases ak:i<n/\i<300
  ·obtain⟨ak,hlt3⟩:=ak;have jz:(i:Int)<(n:Int):=by omega
   have dF:(0:Int)<=(i:Int):=by omega
   have EC:¬(300:Int)<=(i:Int):=by omega
   obtain⟨q,hq⟩:∃q,R[i]?=some q:=⟨_,Ze4 (by rw[Hl.o];omega)⟩;have Av:=ZfU hq;have aP:=Hb.o q Av;have hg:=λj hj=>ZFO ZBy 8 R (λ_ _=>rfl) i q hq j hj;obtain⟨b,off,hA,aq⟩:=(Hr.o.ext HX.o) (λe0=>by have:=hg 0 ZB;rw[e0]at this;simp[ZBy]at this);have d0:=aq (i*8+0) _ (hg 0 ZB);have d1:=aq (i*8+1) _ (hg 1 ZB);have d2:=aq (i*8+2) _ (hg 2 ZB);have d3:=aq (i*8+3) _ (hg 3 ZB);have d4:=aq (i*8+4) _ (hg 4 ZB);have d5:=aq (i*8+5) _ (hg 5 ZB);have d6:=aq (i*8+6) _ (hg 6 ZB);have d7:=aq (i*8+7) _ (hg 7 ZB);rw[<-Zfv]at d0 d1 d2 d3 d4 d5 d6 d7;rw[Zf2]at d0;obtain⟨nn,eE,sF⟩:=@ZXD ⟨λ_=>False⟩ q.conn (ZN4 aP.2.1).1 (ZN4 aP.2.1).2;obtain⟨X,hX40,uU⟩:=@ZW5 ⟨λ_=>False⟩ q.num2;have Cd:=ZA (show Rd w q.K (ZT .u8 q.key)from aP.2.2.2.2.2.2.1);have Ch:=ZA (show Rd w q.A (ZT .u8 q.data)from aP.2.2.2.2.2.2.2.2.2.2.2.1);have fj:=ZA (show ZJp wr q from⟨aP.1,aP.2.1,aP.2.2.1,aP.2.2.2.1,aP.2.2.2.2.1,aP.2.2.2.2.2.1,aP.2.2.2.2.2.2.1.ext HX.o,aP.2.2.2.2.2.2.2.1,aP.2.2.2.2.2.2.2.2.1,aP.2.2.2.2.2.2.2.2.2.1,aP.2.2.2.2.2.2.2.2.2.2.1,aP.2.2.2.2.2.2.2.2.2.2.2.1.ext HX.o,aP.2.2.2.2.2.2.2.2.2.2.2.2⟩);have uU:=ZA uU;obtain⟨kind,conn,op,pol,K,kc,key,num,DA,dc,data,num2⟩:=q
   dsimp only at d0 d1 d2 d3 d4 d5 d6 d7 sF uU fj Cd Ch;subst hA;obtain⟨kl,Hkl⟩:=ZX2 (key.length);obtain⟨dl,Hdl⟩:=ZX2 (data.length);rw[Hkl.o]at d4;rw[Hdl.o]at d6;obtain⟨W,hW,xb,KB⟩:=Za wr (.cells #[.int .u8 kind,.int .i64 conn,.int .u8 op,.int .i64 pol,.slice K kl kc,.int .i64 num,.slice DA dl dc,.int .i64 num2] 110);have XB:=ZA xb;have dy:(0:Int)<=(i:Int)/\(i:Int)<(n:Int):=⟨by omega,by omega⟩;clear hq Av aP hg aq xb;go_upto_region 12 with fail;(try rw[hW]);clear hW d0 d1 d2 d3 d4 d5 d6 d7;have k0:=ZX1 KB.o 0 (.int .u8 kind);have k1:=ZX1 KB.o 1 (.int .i64 conn);have uX:=HO.o.box (E':=λj=>j=wr.heap.size) XB.o (λj e=>.inr ⟨by omega,by rw[e];exact ZX KB.o⟩);have OW:=ZA uX;have hcl:=uX.came.cell eE;have Eb:(0:Int)<=(nn:Int)/\(nn:Int)<4:=⟨by omega,by omega⟩;obtain⟨st,Hst⟩:=ZX2 ((d.ls nn).st);have ST:=ZA (@YW.state_ ⟨_⟩ bs gd g (1+i) nn d _ W uX.dae ZB);rw[Hst.o]at ST;obtain⟨bb,dN⟩:=ZX2 (decide (kind % 6=1/\st=0));clear uX;go_upto_region 14 with fail;rw[sF];have ud:=ZA sF;clear sF;go_cut [76] (λv wd=>v=.bool bb/\wd=W);case first=>
    by_cases h1:kind % 6=1
    ·have r1:(kind:Int) % 6=1:=by omega
     by_cases h0:st=0
     ·have r2:((st:Int)==0)=true:=by simp[h0]
      have r3:decide ((st:Int)=0)=true:=by simp[h0]
      go_wp2_with fail;refine ST.o.mono ?_;rintro e w5 ⟨rfl,rfl⟩;go_wp2_with fail;go_meet;exact⟨by rw[<-dN.o,Zgg (p:=kind % 6=1/\st=0) ⟨h1,h0⟩],rfl⟩
     ·have r2:((st:Int)==0)=false:=by simp[h0]
      have r3:decide ((st:Int)=0)=false:=by simp[h0]
      go_wp2_with fail;refine ST.o.mono ?_;rintro e w5 ⟨rfl,rfl⟩;go_wp2_with fail;go_meet;exact⟨by rw[<-dN.o,Zgf (p:=kind % 6=1/\st=0) (λe=>h0 e.2)],rfl⟩
    ·have r1:((kind:Int) % 6==1)=false:=by simp;omega
     have r3:decide ((kind:Int) % 6=1)=false:=by simp;omega
     go_wp2_with fail;go_meet;exact⟨by rw[<-dN.o,Zgf (p:=kind % 6=1/\st=0) (λe=>h1 e.1)],rfl⟩
   case rest=>
    obtain⟨rfl,rfl⟩:=hcut;rename World=>W
    have pW:=HD.o.left;rw[Hmost.o]at pW;have dw:=(HD.o.ln nn eE).rl;have Cj:=ZA pW;have vC:=ZA (λj (e:Fo cb xg CA S j)=>(⟨HO.o.fo_ge j e,λe2=>by have:=HO.o.fo_lt j e;omega⟩:bs<=j/\j≠wr.heap.size));have Ij:=ZA (show ZEV g.P g.room by rw[yY.o,yW.o];exact ZW2 6 ZB);clear pW;go_upto_if 76 with fail;go_cut [] (λwd=>∃(mG:Nat->List Nat) (C0:Nat) (rK:List Int) (S0:SlA) (qG:Nat->SlA),ZBm (λj=>j=wr.heap.size) wd bs cb xg gd g (1+i) d ((most:Int) - (C0:Int)) (f:Int) ((f:Int)+(mo:Int)) S0 rK qG mG/\@ZPY ⟨Fo cb xg qG S0⟩ g kind nn (X:Int) d (DvQ g (f:Int) ((f:Int)+(mo:Int)) (1+i) i nn mG C0 rK)/\S0.2.1<=300*i+300/\(∀j,ZIs cb qG j->j≠wr.heap.size)/\GB W wd (λj=>bs<=j/\j≠wr.heap.size));case first=>
     cases bb with
     |false=>
      have cd:=Zgo dN.o;rw[<-Hst.o]at cd;go_wp2_with fail;go_meet;exact⟨cm,C,sr,S,CA,OW.o,@ZWf ⟨_⟩ _ _ _ _ _ _ _ _ _ _ _ _ _ Ij.o eE ZB ZB hX40 HD.o cd,by have:=HS.o;omega,λj e=>(vC.o j (.inl e)).2,GB.refl _ _⟩
     |true=>
      obtain⟨je,js⟩:=Zgp dN.o;rw[<-Hst.o]at js;have aO:=ZA je;have Ib:=ZA js;have eD:=ZT6 (λk=>Y7 (f:Int) ((f:Int)+(mo:Int)) (YH (cm k)) (rs k)) eE;have CO:=ZA (OW.o.count eE (HD.o.ln nn eE) ZB (by have:=Cj.o.1;omega) (by have:=Hmost.o;omega) (ZTo (λk=>Xl (YH (cm k)) (rs k)) sr eE Cj.o.2) (by have:=HS.o;omega));have Mh:=ZA hcl.1;have fq:=hcl.1;clear je js eD hcl;go_wp2_with fail;refine CO.o.mono ?_;rintro e w5 ⟨rfl,S',o5,mp,g5⟩;have Lw:=(o5.came.cell eE).2;have xM:=(o5.came.cell eE).1;obtain⟨O5,qy,G5⟩:=Z8 o5 mp g5;clear o5 mp g5 CO fq;go_wp2_with fail;go_meet;obtain⟨p1,p2⟩:=O5.o.put eE (s':=(none,0,0)) (cm':=[]) (GB.refl _ _) (ZgZ _ _ _ _) rfl (λq e=>by cases e);refine⟨Zr cm nn [],C+Y7 (f:Int) ((f:Int)+(mo:Int)) (YH (cm nn)) (rs nn),sr++Xl (YH (cm nn)) (rs nn),S',Zr CA nn (none,0,0),?_,@ZPY.mk ⟨_⟩ _ _ _ _ _ _ (λh=>by have:=aO.o;omega) (λ_=>@ZWe ⟨_⟩ _ _ _ _ _ _ _ _ _ _ _ eE HD.o Ib.o) (λh=>by have:=aO.o;omega) (λh=>by have:=aO.o;omega) (λh=>by have:=aO.o;omega),by have:=qy.o;have:=HS.o;omega,λj e=>(vC.o j (.inl (e.imp id (λ⟨k,hk,e⟩=>⟨k,hk,by by_cases q:k=nn;(· rw[q,Zc]at e;cases e);(· rw[ZZ _ _ q]at e;exact e)⟩)))).2,(G5.o.more (λj _ e=>vC.o j (.inr e))).trans p2 (λj e=>.inl (vC.o j (.inl e)))⟩;rw[show(most:Int) - ((C+Y7 (f:Int) ((f:Int)+(mo:Int)) (YH (cm nn)) (rs nn):Nat):Int)=(most:Int) - (C:Int) - (Y7 (f:Int) ((f:Int)+(mo:Int)) (YH (cm nn)) (rs nn):Int) by push_cast;omega];exact p1
    case rest=>
     obtain⟨mG,C0,rK,S0,qG,pJ,AY,mn,tj,g6⟩:=hcut
     rename World=>w6
     obtain⟨⟨B,bn,bc⟩,yi⟩:∃s,qG nn=s:=⟨_,rfl⟩;have fq:=pJ.came.cell eE;rw[yi]at fq;obtain⟨ce,cfz⟩:=fq;unfold slV at ce
     dsimp only at ce
     have iC:¬(bs<=wr.heap.size/\wr.heap.size≠wr.heap.size):=λe=>e.2 rfl;have oc:=ZA (g6.blk KB.o iC);have f0:=ZX1 oc.o 0 (.int .u8 kind);have f1:=ZX1 oc.o 1 (.int .i64 conn);have f2:=ZX1 oc.o 2 (.int .u8 op);have f3:=ZX1 oc.o 3 (.int .i64 pol);have f4:=ZX1 oc.o 4 (.slice K kl kc);have f5:=ZX1 oc.o 5 (.int .i64 num);have f6:=ZX1 oc.o 6 (.slice DA dl dc);have f7:=ZX1 oc.o 7 (.int .i64 num2);have yz:=λ(u:World) (y:ZM w6 u) (AA:Option Addr) (vs:List Value) (h0:Rd w AA vs)=>(show Rd u AA vs from((g6.to_ext (HX.o.trans XB.o) (λj e=>Zf8 qN.out e.1)).trans y |> h0.ext));have rD:=ZA (λ(u:World) (y:ZM w6 u)=>yz u y K _ Cd.o);have IE:=ZA (λ(u:World) (y:ZM w6 u)=>yz u y DA _ Ch.o);clear yz;obtain⟨O6,EV,H9,zB,G6,ib⟩:=Ju pJ AY mn tj g6 yi;clear pJ AY mn tj g6 yi k0 k1 hcl;go_upto_region 18 with fail;have Ed:(0:Int)<=(nn:Int):=by omega
     have Ec:(nn:Int)<4:=by omega
     refine JK (λu=>u.cell? ⟨cb,nn,none⟩=some (.slice B bn bc)/\u.cell? ⟨wr.heap.size,0,none⟩=some (.int .u8 kind)/\u.cell? ⟨wr.heap.size,1,none⟩=some (.int .i64 conn)/\u.cell? ⟨wr.heap.size,2,none⟩=some (.int .u8 op)/\u.cell? ⟨wr.heap.size,3,none⟩=some (.int .i64 pol)/\u.cell? ⟨wr.heap.size,4,none⟩=some (.slice K kl kc)/\u.cell? ⟨wr.heap.size,5,none⟩=some (.int .i64 num)/\u.cell? ⟨wr.heap.size,6,none⟩=some (.slice DA dl dc)/\u.cell? ⟨wr.heap.size,7,none⟩=some (.int .i64 num2)) [9] ZC ?_;have ae:=And.intro (ZJ ce) (And.intro (ZJ f0) (And.intro (ZJ f1) (And.intro (ZJ f2) (And.intro (ZJ f3) (And.intro (ZJ f4) (And.intro (ZJ f5) (And.intro (ZJ f6) (ZJ f7))))))));have tM:ZM w6 w6.drew:=(ZM.refl w6).drew;clear ce f0 f1 f2 f3 f4 f5 f6 f7;generalize w6.drew=U at tM ae ⊢;refine ZX4 (i:=0) (v:=?_) rfl (Or.inl ⟨by rfl,?_⟩) (YI.of ae) ?_
     rotate_left
     ·intro w _;go_simp
      (try with_reducible rfl)
     (try simp only[Act.put])
     refine ZX4 (i:=1) (v:=?_) rfl (Or.inl ⟨by rfl,?_⟩) (YI.of ae) ?_
     rotate_left
     ·intro w _;go_simp
      (try with_reducible rfl)
     (try simp only[Act.put])
     refine ZX4 (i:=2) (v:=?_) rfl (Or.inl ⟨by rfl,?_⟩) (YI.of ae) ?_
     rotate_left
     ·intro w _;go_simp
      (try with_reducible rfl)
     (try simp only[Act.put])
     refine ZX4 (i:=4) (v:=?_) rfl (Or.inl ⟨by rfl,?_⟩) (YI.of ae) ?_
     rotate_left
     ·intro w _;go_simp
      (try with_reducible rfl)
     (try simp only[Act.put])
     refine ZX5 (i:=3) (v:=?_) rfl (Or.inl ⟨by rfl,?_⟩) (by assumption) ?_
     rotate_left
     ·intro w aL;(try dsimp only at aL);go_simp
      (try with_reducible rfl)
     (try simp only[Act.put])
     refine ZX5 (i:=5) (v:=?_) rfl (Or.inl ⟨by rfl,?_⟩) (by assumption) ?_
     rotate_left
     ·intro w aL;(try dsimp only at aL);go_simp
      (try with_reducible rfl)
     (try simp only[Act.put])
     refine ZY (rs:=[6]) ZC ZXz (ZN.cons (o:=_) rfl (λK' hK=>?_) ZN.nil);have OU:=ZA (O6.o.ext tM);have SV:=ZA (@ZPw ⟨_⟩ U bs gd g (1+i) d _ _ ⟨kind,conn,op,pol,K,kc,key,num,DA,dc,data,num2⟩ nn X OU.o.dae ZB ud.o uU.out ⟨fj.o.1,fj.o.2.1,fj.o.2.2.1,fj.o.2.2.2.1,fj.o.2.2.2.2.1,fj.o.2.2.2.2.2.1,rD.o U tM,fj.o.2.2.2.2.2.2.2.1,fj.o.2.2.2.2.2.2.2.2.1,fj.o.2.2.2.2.2.2.2.2.2.1,fj.o.2.2.2.2.2.2.2.2.2.2.1,IE.o U tM,fj.o.2.2.2.2.2.2.2.2.2.2.2.2⟩ EV.o kl dl Hkl.o Hdl.o)
     dsimp only at SV
     go_simp
     refine SV.o.mono ?_;rintro e w7 hR;obtain⟨P,m,c',xs,d',rfl,eJ,qY,Ej,cz,bB,ho7,⟨rs',hD7⟩,g7⟩:=OU.o.served hR;have kx:¬(bs<=cb/\¬cb=wr.heap.size/\cb≠cb):=λe=>e.2.2 rfl;have jp:¬(bs<=wr.heap.size/\¬wr.heap.size=wr.heap.size/\wr.heap.size≠cb):=λe=>e.2.1 rfl;obtain⟨s0,s1,s2,s3,s4,s5,s6,s7,s8⟩:=ae;have u0:=g7.cell s0 kx;have u1:=g7.cell s1 jp;have u2:=g7.cell s2 jp;have u3:=g7.cell s3 jp;have u4:=g7.cell s4 jp;have u5:=g7.cell s5 jp;have u6:=g7.cell s6 jp;have u7:=g7.cell s7 jp;have u8:=g7.cell s8 jp;obtain⟨O7,HD7,G7,HXL,gE⟩:=ZBR ho7 hD7 g7 eJ bB;have ta:=(hD7.ln nn eE).cl;rw[Zc,ZfE,eJ]at ta;have kP:=ho7.came.len nn eE;rw[ib.o]at kP;have Ly:bn+m<=1010*301:=by dsimp only at kP;omega
     have cA:w7.ownsRow bs 5 1 (.slice B bn bc) bn (ZT .u8 (mG nn)):=by
      have h:=ho7.came.own nn eE;rw[ib.o]at h;exact h
     have mr:=ho7.came.ne nn eE;rw[ib.o]at mr;have gN:(slV (B,bn,bc)).ownBlock≠some wr.heap.size:=λe=>zB.o _ (.inr ⟨nn,eE,by rw[ib.o];exact e⟩) rfl;have sV:=(ho7.came.cell eE).2;have xO:bs<=w7.heap.size:=Zf8 ho7.lo.1 (Zf5 (ho7.came.lt cb (.inl rfl)));clear s0 s1 s2 s3 s4 s5 s6 s7 s8 ho7 hD7 g7 eJ bB ta kP hR SV;refine hK.out _ _ ⟨u0,u1,u2,u3,u4,u5,u6,u7,u8⟩ ?_;clear hK K'
     (try simp only[Act.put])
     refine ZY (rs:=[7]) ZC ZXz (ZN.cons (o:=_) rfl (λK' hK=>?_) ZN.nil);refine ZLM w7 rfl (.tmp 89) (.tmp 92) rfl bs ZX0 cA ZX0 HXL.o gE.o ZB xO ?_;intro B' au w8 o8 g8 b8;have v0:=g8.cell u0 mr.symm;have v1:=g8.cell u1 gN.symm;have v2:=g8.cell u2 gN.symm;have v3:=g8.cell u3 gN.symm;have v4:=g8.cell u4 gN.symm;have v5:=g8.cell u5 gN.symm;have v6:=g8.cell u6 gN.symm;have v7:=g8.cell u7 gN.symm;have v8:=g8.cell u8 gN.symm;have F8:=ZBT g8 u0 sV mr;obtain⟨O8,G8,B8⟩:=Z8 o8 g8 b8;clear o8 g8 b8 u0 u1 u2 u3 u4 u5 u6 u7 u8;refine hK.out _ _ ⟨v0,v1,v2,v3,v4,v5,v6,v7,v8⟩ ?_;clear hK K'
     (try simp only[Act.put])
     refine ZY (rs:=[8]) ZC ZXz (ZN.cons (o:=_) rfl (λK' hK=>?_) ZN.nil)
     go_simp
     refine hK.out _ _ ⟨v0,v1,v2,v3,v4,v5,v6,v7,v8⟩ ?_;clear hK K'
     (try simp only[Act.put])
     refine ZY (rs:=[9]) ZC ZXz (ZN.last (o:=_) ZC rfl (λK' hK=>?_) ZN.nil)
     go_simp
     refine hK.out _ _ ?_;clear hK K'
     (try simp only[Act.put])
     refine JL ZC ?_ _;clear v0 v1 v2 v3 v4 v5 v6 v7 v8 F8
     obtain⟨p1,p2⟩:=O7.o.put eE (w2:=w8) (s':=(B',bn+m,au)) (cm':=mG nn++xs) ((GB.refl w7 _).grown G8.o (λq e=>.inl (by rw[ib.o];exact e))) O8.o (by have h:=O7.o.came.len nn eE;rw[ib.o]at h;rw[ZfE,h,HXL.o]) (λq e=>by
      rcases B8.o with h|h
      ·exact .inl (by rw[ib.o];exact h ▸ e)
      ·have e2:(Value.slice B' (bn+m) au).ownBlock=some q:=e;rw[h]at e2;injection e2 with e2;exact .inr ZB)
     have P1:=ZA (show ZBm (λj=>j=wr.heap.size) (w8.setCell ⟨cb,nn,none⟩ (.slice B' (bn+m) au)) bs cb xg gd g (1+i+1) d' ((most:Int) - (C0:Int)) (f:Int) ((f:Int)+(mo:Int)) S0 rK (Zr qG nn (B',bn+m,au)) (Zr mG nn (mG nn++xs))from p1);have e6:ZM w w6:=G6.o.to_ext (HX.o.trans XB.o) (λj e=>Zf8 qN.out e.1);have e7:ZM w w7:=G7.o.to_ext (e6.trans tM) (λj e=>Zf8 qN.out e.1);have E9:=ZA (show ZM w (w8.setCell ⟨cb,nn,none⟩ (.slice B' (bn+m) au))from p2.to_ext e7 (λj e=>Zf8 qN.out (O7.o.fo_ge j (.inl e))));clear p1 p2 e6 e7 sV mr cA;generalize w8.setCell ⟨cb,nn,none⟩ (.slice B' (bn+m) au)=w9 at P1 E9 ⊢;obtain⟨G9,hco9,-⟩:=HD7.o.core;have HE:=ZA (@YW.held_ ⟨_⟩ _ _ _ _ _ _ _ _ _ _ _ _ _ P1.o.dae yY.o yW.o hco9 ZB ZB);clear hco9;go_wp2_with fail;refine HE.o.mono ?_;rintro e vG ⟨A2,n2,c2,rfl,lN,x10,cF⟩;have BP:=ZA x10;have IG:=ZA cF;clear x10 cF HE;go_wp2_with fail
     go_loopw [98] (λvH wy=>∃p:Nat,p<=n2/\vH=.int .i64 p/\ZM vG wy) (λvH _=>n2 - (intOf vH).toNat)
     case atStart=>exact⟨0,ZgR _,rfl,ZM.refl _⟩
     case round=>
      rename World=>wy
      obtain⟨p,hp,rfl,ie⟩:=hrel;have cZ:=ZA ie;clear ie;by_cases Ax:p<n2
      ·obtain⟨b2,pol2,K2,H2,Dr,kz,eg,dA,vT,rfl,y0,y1,y2,y3,En⟩:=IG.o p Ax;have z0:=ZF cZ.o y0;have z1:=ZF cZ.o y1;have z2:=ZF cZ.o y2;have z3:=ZF cZ.o y3;rw[Zf2]at z0;have uE:(p:Int)<(n2:Int):=by omega
       have uF:(0:Int)<=(p:Int)/\(p:Int)<(n2:Int):=⟨by omega,by omega⟩;have pP:¬(2:Int)<(eg:Int):=by omega
       have jO:decide ((2:Int)<(eg:Int))=false:=Zgf pP;obtain⟨Y,hY,xY,KY⟩:=Za wy (.cells #[.int .i64 pol2,.slice K2 Dr kz,.int .i64 vT,.slice H2 eg dA] 62);have XY:=ZA (cZ.o.trans xY);clear xY y0 y1 y2 y3;go_upto_region 22 with fail
       (try rw[hY])
       clear hY z0 z1 z2 z3;have q3:=ZX1 KY.o 3 (.slice H2 eg dA);go_wp2_with fail
       go_roundw
       case rel=>exact⟨p+1,Ax,by go_num,XY.o⟩
       case measure=>simp[intOf];omega
      ·obtain rfl:p=n2:=by omega
       have uE:¬(p:Int)<(p:Int):=by omega
       go_wp2_with fail
       go_roundw
       case rel=>exact⟨i+1,d',Zr mG nn (mG nn++xs),rs',C0,rK,S0,Zr qG nn (B',bn+m,au),by omega,by omega,by go_num,by rw[show 1+(i+1)=1+i+1 by omega];exact P1.o.box (BP.o.trans cZ.o) (λj e=>e.elim),by rw[show 1+(i+1)=1+i+1 by omega];exact HD7.o,by have:=H9.o;omega,(E9.o.trans BP.o).trans cZ.o⟩
       case measure=>simp[intOf];omega
  ·have az:=HD.o.left;rw[Hmost.o]at az;obtain⟨fA,HfA⟩:=ZX2 ((λk=>Y7 (f:Int) ((f:Int)+(mo:Int)) (YH (cm k)) (rs k)));obtain⟨fS,HfS⟩:=ZX2 ((λk=>Xl (YH (cm k)) (rs k)));rw[HfA.o,HfS.o]at az;have dP:=ZA az;clear az;have gT:(i=n/\¬(i:Int)<(n:Int))\/((i:Int)<(n:Int)/\(300:Int)<=(i:Int)):=by omega
   rcases gT with⟨eQ,jz⟩|⟨jz,EC⟩
   ·exact ZYZ
   ·obtain⟨T1,T2⟩:=QA;exact ZYZ
end Go.Proofs.YtloidkmphigbdaaGreat
