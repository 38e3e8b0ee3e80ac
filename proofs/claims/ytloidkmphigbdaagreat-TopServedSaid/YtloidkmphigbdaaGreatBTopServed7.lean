import Derived.Shelf.Small.Bits
import Derived.Test.YtloidkmphigbdaaGreatBTopServed6
namespace Go.Proofs.YtloidkmphigbdaaGreat
open Tryz
set_option linter.all false
set_option maxHeartbeats 40000000
set_option maxRecDepth 100000
open Go.RowKit
variable {res:Bool}{a b gone lm ser:Int}{T:List Int}{xs:List Value}{P:List YK}{rs rs':List Z7}{h l:List ZL}{G G' M N S S' S0 cb i j l' level n new room shard shards sum v who word:Nat}{A B:Option Addr}{s s' w:WH}{p:YK}{k:YX}{f:Yb}{t:ZAc}{c ce d:ZL}{x:ZW}{out:Zs}{r:Zt}
def Zfc := @List.nodup_cons
def Zfx := @Nat.add_le_add_left
def Zfy := @Nat.add_le_add_right
def ZTC:YX->Nat
 |.put _ _ _=>1
 |_=>0
theorem ZZB {p:Prop}(h:p:=by
 first|(obtain -:=T1;obtain⟨h1,⟨a1,a2,a3,a4,a5⟩,h3⟩:=iO)|obtain⟨h1,⟨a1,a2,a3,a4,a5⟩,h3⟩:=hk
 have e:(if s.ws.getD word 0=v then ((s.kc res ser).sw word (v+Zb) holds,Zs.on (Je holds t)) else (s.kc res ser,.on (.frz word t)))=(c,out):=e;split at e<;>(injection e with e1 e2;subst e1 e2)
 ·next q=>
  first
  |obtain -:=T2;subst q;have a5:s.hs.getD word []=holds:=a5 rfl;have wc:=W.cells word;have wh:=W.held word;have a3:s.ws.getD word 0<=N:=a3;obtain⟨w1,g1⟩:=ZGj (new:=s.ws.getD word 0+Zb) (l:=holds) W (Zf6 M) a1 a2 (by show s.ws.getD word 0<_;omega) (by show s.ws.getD word 0<_;omega) (.inr ⟨by omega,by omega⟩) h3 (by rw[<-a5];exact wc.2) (by rw[<-a5];exact wh);refine⟨g1,w1,rfl,.inl rfl,.inl (ZBF W.lh ZB (λc hc z hz=>⟨word,c,by show c ∈ s.hs.getD word [];rw[a5];exact hc,hz⟩) []),λ_=>trivial,ZMI (h1.grow _) h3 ⟨word,a1,a2,?_,?_⟩⟩
   ·show Zb<=(s.ws.set word _).getD word 0;rw[YN _ _ _ _ _ (by have:=W.lw;show word<s.ws.length;have:s.ws.length=34:=this;omega),Zgl rfl];omega
   ·show(s.hs.set word holds).getD word []=holds;rw[YN _ _ _ _ _ (by have:=W.lh;show word<s.hs.length;have:s.hs.length=34:=this;omega),Zgl rfl]
  |have tk:TF s.wh word t:=tk;obtain⟨l,S,l3,ew,hd⟩:∃l S,l<=3/\word=ZO l S/\2*l+1<=s.wh.ws.getD 0 0:=by
    cases t with
    |find sum level t=>exact⟨level,sum,h1.2.2.2,tk.1,tk.2⟩
    |move level i=>exact⟨level,i,h1.1,tk.1,tk.2.1⟩
   first|(obtain -:=V13;have tg:=ZDy W.lw a1 a2 g;have a5:=a5 q;have hv:s.ws.getD word 0<Zb:=by omega)|skip
   have nz:=T.made l S ZB ZB;first
   |obtain -:=V14;refine⟨?_,tg,ZSD (tk.grow tg h1) ?_ ?_⟩
    ·subst ew;refine ZJu T W.lw W.lh ZB hv (by show s.ws.getD (ZO l S) 0<_;omega) (λc hc=>T.cells l S ZB c (by show c ∈ s.wh.hs.getD (ZO l S) [];rw[a5];exact hc)) (λl0 e=>?_) (λ_=>hd);subst e;exact T.up l0 S ZB nz
    ·show Zb<=(s.ws.set word _).getD word 0;rw[YN _ _ _ _ _ (by have:s.ws.length=34:=W.lw;omega),Zgl rfl];omega
    ·show(s.hs.set word holds).getD word []=holds;rw[YN _ _ _ _ _ (by have:s.hs.length=34:=W.lh;omega),Zgl rfl]
   |obtain -:=V15;have a5:=a5 q;subst ew;have hv:wat s.wh l S=v:=q;have hh:Xt s.wh l S=holds:=a5;exact⟨G,by have:=(ZFg (a:=a) (b:=b) (clk:=s.clk) (s:=s.wh) (G:=G) (x:=x) (l:=holds) (t:=t)).1;omega,ZEa (G':=G) T lw lh ZB nz ZB ZB hl (λ_=>rfl) (λ_ hb=>by rw[hh]at hb;exact hb),ht,(ZFg (a:=a) (b:=b)).2,.inl rfl⟩
   |have a5:=a5 q;refine ZDj ?_ (ji _ _ ZB) rfl rfl ZLh;show X9 ⟨s.wh.ws.set word (v+Zb),s.wh.hs.set word holds⟩=X9 s.wh;subst ew;have hv:wat s.wh l S=v:=q;obtain⟨a,b⟩:=ZBt (w:=s.wh) (l:=l) (S:=S) (l':=l) (S':=S) (new:=v+Zb) (h:=holds) lw lh ZB;rw[Zgl rfl]at a b;have m:=ZGk s.wh l S;have m':=ZGk ⟨s.wh.ws.set (ZO l S) (v+Zb),s.wh.hs.set (ZO l S) holds⟩ l S;exact ZLw (l:=l) (S:=S % 2 ^ l) T l3 (ZgG _ ZgM) (by rw[m.1];exact nz) (by rw[m.1];omega) (by rw[m'.1,a];omega) (by rw[m'.2,b,m.2];exact a5.symm) (λl' S' h1 h2=>ZHO lw lh ZB l' S' h1 (by rw[ZB4]at h2;exact h2))
 ·first|(obtain -:=T3;exact YO W rfl rfl rfl (λ_=>trivial) ⟨h1,a1,a2⟩)|first|(obtain -:=V16;exact⟨T,YA _,tk⟩)|(obtain -:=V17;exact⟨G,Xp hl ht rfl (Zf6 _) trivial⟩)|exact Yo rfl rfl rfl ⟨Zf6 _,trivial⟩):p:=h
theorem ZZA {p:Prop}(h:p:=by
 have e2:Z6 P room x (s.kc res ser) (.mvS word by_ stop v t)=(s.kc res ser,.on (.mv word by_ stop t)):=Zgk q;rw[e2]at e;injection e with e1 e2;subst e1 e2;first|(obtain -:=T1;exact YO W rfl rfl rfl (by cases t<;>exact id) hk)|first|(obtain -:=V61;exact⟨T,YA _,by cases t<;>exact tk⟩)|(obtain -:=V62;exact⟨G,Xp hl ht rfl (by cases t<;>exact Zf6 _) (by cases t<;>exact hs)⟩)|exact⟨Zfy (Zfx (by cases t<;>exact Zf6 _) _) _,Zf7 _,trivial⟩):p:=h
theorem ZY3 {p:Prop}(h:p:=by
 first|(obtain -:=T1;obtain⟨h1,h2,h3⟩:=hk)|skip
 have e:(s.kc res ser,if Zb<=s.ws.getD word 0 then Zs.on (Je (s.hs.getD word []) t) else .on (.frzS word (s.ws.getD word 0) (s.hs.getD word []) t))=(c,out):=e;injection e with e1 e2;subst e1;split at e2<;>subst e2
 ·first|(obtain -:=T2;next q=>exact YO W rfl rfl rfl (λ_=>trivial) (ZMI h1 (W.cells word).1 ⟨word,h2,h3,q,rfl⟩))|first|(obtain -:=V9;next q=>exact⟨T,YA _,ZSD tk q rfl⟩)|(obtain -:=V10;exact⟨G,ZC0 hl ht rfl ZFg⟩)|exact Yo rfl rfl rfl ZLh
 ·first
  |obtain -:=T3;next q=>
   have b:=W1.word word h2 h3;have b:s.ws.getD word 0<=N+1\/(Zb<=s.ws.getD word 0/\s.ws.getD word 0<=Zb+(N+1)):=b;exact YO W rfl rfl rfl (λ_=>trivial) ⟨h1,⟨h2,h3,by omega,Zf6 _,λ_=>rfl⟩,(W.cells word).1⟩
  |first|(obtain -:=V11;exact⟨T,YA _,tk⟩)|(obtain -:=V12;exact⟨G,Xp hl ht rfl (Zf6 _) trivial⟩)|exact Yo rfl rfl rfl ⟨Zf6 _,trivial⟩):p:=h
theorem ZY2 {p:Prop}(h:p:=by
 first|(obtain -:=T1;have d:=W.d;have d:s.ws.getD 0 0<=8:=d)|skip
 have e:(s.kc res ser,if s.ws.getD 0 0 % 2=1 then Zs.on (XM (s.ws.getD 0 0 / 2) 0) else if s.ws.getD 0 0 / 2=4 then .fin (YY 5) else .on (.splitS (s.ws.getD 0 0)))=(c,out):=e;injection e with e1 e2;subst e1;split at e2
 ·subst e2;first|(obtain -:=T2;exact YO W rfl rfl rfl (λ_=>trivial) (ZKP ZB (ZgR _)))|first|(obtain -:=V28;exact⟨T,YA _,ZSC ⟨by show 2*(s.ws.getD 0 0 / 2)+1<=s.ws.getD 0 0;omega,λi hi=>absurd hi (ZgL i)⟩⟩)|(obtain -:=V29;exact⟨G,ZC0 hl ht rfl ZLR⟩)|exact Yo rfl rfl rfl ZKK
 ·first
  |obtain -:=T3;split at e2<;>subst e2
   ·exact YO W rfl rfl rfl (λ_=>trivial) (ZBB (by decide))
   ·exact YO W rfl rfl rfl (λ_=>trivial) ⟨by omega,by omega⟩
  |first
   |obtain -:=V30;split at e2<;>subst e2<;>exact⟨T,YA _,trivial⟩
   |obtain -:=V31;split at e2<;>subst e2
    ·exact⟨G,Xp hl ht rfl (Nat.le_of_eq (ZAW (.inr rfl))) trivial⟩
    ·exact⟨G,Xp hl ht rfl (Zf6 _) trivial⟩
   |split at e2<;>subst e2
    ·exact Yo rfl rfl rfl ⟨ZgR _,trivial⟩
    ·exact Yo rfl rfl rfl ⟨Zf6 _,trivial⟩):p:=h
theorem ZY0 {p:Prop}(h:p:=by
 first|(obtain -:=T1;obtain⟨h1,h2,h3⟩:=hk;have d:=W.d)|skip
 have e:(s.kc res ser,if s.ws.getD 0 0 % 2=0 then Zs.on (.enter sum (ZO (s.ws.getD 0 0 / 2) sum) t) else .on (.frz (ZO (s.ws.getD 0 0 / 2) sum) (.find sum (s.ws.getD 0 0 / 2) t)))=(c,out):=e;injection e with e1 e2;subst e1;first
 |obtain -:=T2;have d:s.ws.getD 0 0<=8:=d;have p:=Xz (shard:=sum) (show s.ws.getD 0 0 / 2<=4 by omega);split at e2<;>subst e2
  ·exact YO W rfl rfl rfl (λ_=>trivial) ⟨h1,h2,h3,p⟩
  ·exact YO W rfl rfl rfl (λ_=>trivial) ⟨⟨h1,h2,h3,by omega⟩,p⟩
 |first
  |obtain -:=V5;split at e2<;>subst e2
   ·exact⟨T,YA _,s.ws.getD 0 0 / 2,by omega,rfl⟩
   ·exact⟨T,YA _,rfl,by show 2*(s.ws.getD 0 0 / 2)+1<=s.ws.getD 0 0;omega⟩
  |obtain -:=V6;split at e2<;>subst e2<;>exact⟨G,Xp hl ht rfl (Zf6 _) trivial⟩
  |split at e2<;>subst e2<;>exact Yo rfl rfl rfl ⟨Zf6 _,trivial⟩):p:=h
theorem ZYz {p:Prop}(h:p:=by
 first
 |obtain -:=T1;obtain⟨h1,h2,h3,h4,h5,h6,h7,cells,⟨a1,a2,a3,a4,a5⟩,h8,h9,_⟩:=iO
 |first|(obtain -:=V84;obtain⟨h1,h2,h3,h4,h5,h6,h7,cells,⟨a1,a2,a3,a4,a5⟩,h8,h9,_⟩:=hk)|obtain⟨h1,h2,h3,h4,h5,h6,h7,cells,⟨a1,a2,a3,a4,a5⟩,h8,h9,bD⟩:=hk
  obtain⟨v0,l,S,l4,ew⟩:=(show v≠0/\∃l S,l<=4/\word=ZO l S from tk)
 have e:(if s.ws.getD word 0=v then ((s.kc res ser).sw word (v+1) rest,Zs.on (.mv 32 (18446744073709551616 - n) JG (.gone j shards gone n))) else (s.kc res ser,Zu j shards gone))=(c,out):=e;split at e<;>(injection e with e1 e2;subst e1 e2)
 ·next q=>
  first
  |obtain -:=T2;have a5:s.wh.hs.getD word []=cells:=a5 q;have eQ:∀d ∈ rest,d ∈ s.wh.hs.getD word []:=λd hd=>by rw[a5];exact h9.subset hd
   have wc:=(W.cells word).2;rw[a5]at wc;have:=h9.length_le;obtain⟨w1,g1⟩:=ZGj (new:=v+1) (l:=rest) W (Zf6 M) a1 a2 (by show s.ws.getD word 0<_;omega) (by show s.ws.getD word 0<_;omega) (.inl ZB) (ZWF h8 h9) ZB (λd hd=>W.held word d (eQ d hd));exact⟨g1,w1,rfl,.inl rfl,.inl (ZBF W.lh ZB (λd hd z hz=>⟨word,d,eQ d hd,hz⟩) []),λ_=>trivial,⟨rfl,rfl,h1,h2,h3,h4,h5,h7,rfl⟩⟩
  |have a5:=a5 q;first
   |obtain -:=V85;have tg:=ZDy W.lw a1 a2 g;refine⟨?_,tg,trivial⟩;show TOk ⟨s.wh.ws.set word (v+1),s.wh.hs.set word rest⟩;rw[ew];exact ZOv T W.lw W.lh l4 v (by rw[<-ew];exact q) v0 ZB (λd hd=>T.cells l S l4 d (by show d ∈ s.wh.hs.getD (ZO l S) [];rw[<-ew,a5];exact h9.subset hd))
   |obtain -:=V86;have hs:=(show s.wh.ws.getD word 0=v->_ from hs) q;subst ew;have hv:wat s.wh l S=v:=q;have hh:Xt s.wh l S=cells:=a5;have a5:s.wh.hs.getD (ZO l S) []=cells:=a5;rw[a5]at hs;refine⟨G,Zf6 _,ZEa (G':=G) T lw lh l4 ZB ZB ZB hl (λ_=>rfl) (λ_ hb=>?_),ht,trivial,.inl rfl⟩;rw[hh]at hb;rcases hb with hb|⟨b1,b2⟩
    ·exact .inl hb
    ·refine .inr ⟨λd hd kT=>b1 d (h9.subset hd) kT,λhn=>?_⟩;by_cases e:∀d ∈ cells,d.id≠ZCK
     ·exact b2 e
     ·obtain⟨d,hd⟩:=Classical.not_forall.1 e;obtain⟨hm,hi⟩:=Classical.not_imp.1 hd;have hi:d.id=ZCK:=Classical.not_not.1 hi;rcases hs d hm hi with h|h
      ·exact absurd hi (hn d h)
      ·exact Int.le_trans (b1 d hm hi) h
   |have lp:=ZLv (w:=s.wh) (l:=l) (S:=S) (v:=v) (h:=rest) lw lh l4 (by rw[<-ew];exact q) v0 ZB;rw[<-ew,a5]at lp;have vE:=ji word (v+1) a2;refine⟨?_,?_,trivial⟩
    ·show X9 ⟨s.wh.ws.set word (v+1),s.wh.hs.set word rest⟩+n+s.ws.getD 32 0<=X9 s.wh+ZEQ res+(s.ws.set word (v+1)).getD 32 0;rw[vE];omega
    ·show(s.ws.set word (v+1)).getD 32 0<=s.ws.getD 32 0+1;omega
 ·first|(obtain -:=T3;exact YO W rfl rfl rfl (λ_=>trivial) (ZC9 h1 h2 h3 h4 ZB))|first|(obtain -:=V87;exact⟨T,YA _,ZE1⟩)|(obtain -:=V88;exact⟨G,ZC0 hl ht rfl ZCN⟩)|exact Yo rfl rfl rfl ZCC):p:=h
theorem ZYw {p:Prop}(h:p:=by
 have e2:Z6 P room x (s.kc res ser) (.mv word by_ stop t)=(s.kc res ser,.on (.mvS word by_ stop (s.ws.getD word 0) t)):=by
  show(s.kc res ser,_)=_;exact Zge (Prod.mk _) (Zgk q)
 rw[e2]at e;injection e with e1 e2;subst e1 e2;first|(obtain -:=T1;exact YO W rfl rfl rfl (by cases t<;>exact id) hk)|first|(obtain -:=V44;exact⟨T,YA _,by cases t<;>exact tk⟩)|(obtain -:=V45;exact⟨G,Xp hl ht rfl (by cases t<;>exact Zf6 _) (by cases t<;>exact hs)⟩)|exact⟨Zfy (Zfx (by cases t<;>exact Zf6 _) _) _,Zf7 _,trivial⟩):p:=h
theorem ZYu {p:Prop}(h:p:=by
 by_cases e0:ser=0
 ·exact .inl e0
 ·have h1:=hr.ser0 e0;have h2:=W.n33;refine .inr ⟨⟨h1.2.1,by omega⟩,λhm=>?_⟩;obtain⟨d,hd,hz⟩:=ZDk hm;exact hr.fresh f e0 word d hd hz):p:=h
theorem ZYs {p:Prop}(h:p:=by
 first|(obtain -:=T1;obtain⟨h1,h2,h3,h4,h5,h6,h7⟩:=hk)|first|(obtain -:=V79;obtain⟨h1,h2,h3,h4,h5,h6,h7⟩:=hk)|skip
 have e:(s.kc res ser,if cells.length - (cells.filter λc=>!ZAD P s.clk c).length=0 then Zu j shards gone else .on (.evSwap j shards gone word v (cells.filter λc=>!ZAD P s.clk c) (cells.length - (cells.filter λc=>!ZAD P s.clk c).length)))=(c,out):=e;injection e with e1 e2;subst e1;first|(obtain -:=T2;have:=h7.2.2)|skip
 split at e2<;>subst e2
 ·first|(obtain -:=T3;exact YO W rfl rfl rfl (λ_=>trivial) (ZC9 h1 h2 h3 h4 ZB))|first|(obtain -:=V80;exact⟨T,YA _,ZE1⟩)|(obtain -:=V81;exact⟨G,ZC0 hl ht rfl ZCN⟩)|exact Yo rfl rfl rfl ZCC
 first
 |obtain -:=T4
  ·exact YO W rfl rfl rfl (λ_=>trivial) ⟨h1,h2,h3,h4,h5,by omega,by omega,cells,h6,h7,List.filter_sublist,by omega⟩
 |first
  |obtain -:=V82
   ·exact⟨T,YA _,tk⟩
  |obtain -:=V83
   ·refine⟨G,Xp hl ht rfl (Zf6 _) (show s.wh.ws.getD word 0=v->_ from λq d hd kT=>?_)⟩;rw[h6.2.2.2.2 q]at hd;cases hi:ZAD P s.clk d with
    |false=>exact .inl (ZfR.2 ⟨hd,by rw[hi];rfl⟩)
    |true=>
     refine .inr ?_;have e0:d.pol=0:=by
      unfold ZL.id ZCK at kT;injection kT
     unfold ZAD at hi;rw[e0,Zgk (by rw[rm];decide)]at hi;exact Zgp hi
  |·exact Yo rfl rfl rfl ⟨Zf6 _,trivial⟩):p:=h
theorem ZYr {p:Prop}(h:p:=by
 first|(obtain -:=T1;obtain⟨h1,h2,h3,h4,h5⟩:=hk;have p:=Xz (shard:=shard) h2)|first|(obtain -:=V18;obtain⟨h1,h2,h3,h4,h5⟩:=hk)|skip
 have e:(s.kc res ser,if s.ws.getD (ZO level shard) 0≠0 then XR P room x res ser (ZO level shard) (s.ws.getD (ZO level shard) 0) (s.hs.getD (ZO level shard) []) t else .on (.halfS level shard holds t))=(c,out):=e;injection e with e1 e2;subst e1;split at e2<;>subst e2
 ·first|(obtain -:=T2;exact YO W rfl rfl rfl (λ_=>trivial) (ZHy hP hx h3 p.1 p.2 W1 _ (λ_=>hz trivial _) _ (.inr ⟨rfl,rfl⟩)))|first|(obtain -:=V19;next q=>exact⟨T,YA _,ZM8 h2 tk h3 q⟩)|(obtain -:=V20;exact⟨G,ZC0 hl ht rfl ZDz⟩)|exact Yo rfl rfl rfl ZHf
 ·first|(obtain -:=T3;exact YO W rfl rfl rfl (λ_=>trivial) ⟨h1,h2,h3,h4,h5⟩)|first|(obtain -:=V21;exact⟨T,YA _,tk⟩)|(obtain -:=V22;exact⟨G,Xp hl ht rfl (Zf6 _) trivial⟩)|exact Yo rfl rfl rfl ⟨Zf6 _,trivial⟩):p:=h
theorem ZYq {p:Prop}(h:p:=by
 obtain⟨h1,h2,h3,h4,h5⟩:=hk;first|(obtain -:=T1;have p:=Xz (shard:=shard) h2)|have tk:TH s.wh level shard holds t:=tk
 have e:((if s.ws.getD (ZO level shard) 0=0 then (s.kc res ser).sw (ZO level shard) 1 (JU holds level (ZO level shard - 2 ^ level)) else s.kc res ser),XR P room x res ser (ZO level shard) 0 [] t)=(c,out):=e;injection e with e1 e2;subst e2;first|(obtain -:=T2;generalize ZO level shard=word at p e1 ⊢)|first|(obtain -:=V23)|have p:=Xz (shard:=shard) h2
 split at e1<;>subst e1
 ·next q=>
  first
  |obtain -:=T3;obtain⟨i,i1,i2,i3,i4⟩:=h5;have ck:=ZWi h4 level (word - 2 ^ level);have eQ:∀d ∈ JU holds level (word - 2 ^ level),d ∈ s.wh.hs.getD i []:=λd hd=>by rw[i4];exact(ZfR.1 hd).1
   obtain⟨w1,g1⟩:=ZGj (new:=1) (l:=JU holds level (word - 2 ^ level)) W (Zf6 M) p.1 p.2 (by show s.ws.getD word 0<_;omega) (by show s.ws.getD word 0<_;omega) (.inl ZB) ck.1 (by have:=(W.cells i).2;rw[i4]at this;omega) (λd hd=>W.held i d (eQ d hd));exact⟨g1,w1,rfl,.inl rfl,.inl (ZBF W.lh ZB (λd hd z hz=>⟨i,d,eQ d hd,hz⟩) []),λ_=>trivial,ZHy hP hx (h3.grow g1) p.1 p.2 w1 0 (λq=>absurd rfl q) [] (.inl ⟨rfl,rfl⟩)⟩
  |first
   |obtain -:=V24;have tg:=ZDy W.lw p.1 p.2 g;obtain⟨lv,e3,hp⟩:=ZM9 tk;refine⟨ZJu T W.lw W.lh h2 (by show s.ws.getD _ 0<_;omega) (by show s.ws.getD _ 0<_;omega) (λc hc=>?_) (λl0 e=>?_) (λq=>by omega),tg,ZM8 h2 (tk.grow (P:=P) (x:=x) tg h2) (h3.grow g) ?_⟩
    ·have:=Zgp (ZfR.1 hc).2;unfold ZA9 ZO at this;omega
    ·have:l0=lv:=by omega
     subst this;exact hp.1
    ·show(s.ws.set _ 1).getD (ZO level shard) 0≠0;rw[YN _ _ _ _ _ (by have:s.ws.length=34:=W.lw;omega),Zgl rfl];decide
   |obtain -:=V25;obtain⟨lv,e3,gf⟩:=ZM9 tk;subst e3;refine⟨G,by have:=(ZDz (a:=a) (b:=b) (clk:=s.clk) (P:=P) (s:=s.wh) (G:=G) (room:=room) (word:=ZO (lv+1) shard) (v:=0) (x:=x) (res:=res) (ser:=ser) (l:=[]) (t:=t)).1;omega,ZLJ (lv:=lv) (S0:=shard) (w:=s.wh) lw lh ZB q gf.1 hl ?_,ht,(ZDz (a:=a) (b:=b)).2,.inl rfl⟩;rw[gf.2];unfold ZO;rw[Zf1]
   |obtain⟨lv,e3,hp⟩:=ZM9 tk;subst e3;refine ZDj ?_ (ji _ _ p.2) rfl rfl ZHf;show X9 ⟨s.wh.ws.set (ZO (lv+1) shard) 1,s.wh.hs.set (ZO (lv+1) shard) (JU holds (lv+1) (ZO (lv+1) shard - 2 ^ (lv+1)))⟩=X9 s.wh;obtain⟨a,b⟩:=ZBt (w:=s.wh) (l:=lv+1) (S:=shard) (l':=lv+1) (S':=shard) (new:=1) (h:=JU holds (lv+1) (ZO (lv+1) shard - 2 ^ (lv+1))) lw lh h2;rw[Zgl rfl]at a b;exact ZQT (l:=lv) (S:=shard) T ZB q hp.1 a (by rw[b,hp.2];unfold ZO;rw[Zf1]) (ZHO lw lh h2)
 ·first|(obtain -:=T4;exact YO W rfl rfl rfl (λ_=>trivial) (ZHy hP hx h3 p.1 p.2 W1 0 (λq=>absurd rfl q) [] (.inl ⟨rfl,rfl⟩)))|first|(obtain -:=V26;next q=>exact⟨T,YA _,ZM8 h2 tk h3 q⟩)|(obtain -:=V27;exact⟨G,ZC0 hl ht rfl ZDz⟩)|exact Yo rfl rfl rfl ZHf):p:=h
theorem ZYp {p:Prop}(h:p:=by
 first|(obtain -:=T1;obtain⟨rfl,m1,m2,m3,m4,m5,m6,m7,m8⟩:=iO;have e:(if s.ws.getD 32 0=v then ((s.kc res ser).sw 32 ((v+by_) % 18446744073709551616) [],Zu j shards (was+n)) else (s.kc res ser,.on (.mv 32 by_ stop (.gone j shards was n))))=(c,out):=e)|(obtain -:=T2;obtain⟨rfl,m1,m2,m3,m4,m5,m6⟩:=iO;have e:(if s.ws.getD 32 0=v then ({(s.kc res ser).sw 32 ((v+by_) % 18446744073709551616) []with res:=true},Zs.on (.put f ce r)) else (s.kc res ser,.on (.mv 32 by_ stop (.count f ce r))))=(c,out):=e)|(obtain⟨rfl,m1,m2,m3⟩:=iO;have e:(if s.ws.getD 32 0=v then ((s.kc res ser).sw 32 ((v+by_) % 18446744073709551616) [],Zs.fin r) else (s.kc res ser,.on (.mv 32 by_ stop (.leave r))))=(c,out):=e)
 rw[Zgl q]at e;injection e with e1 e2;subst e1 e2;obtain⟨w1,g1⟩:=ZDv (word:=32) (new:=(v+by_) % 18446744073709551616) W (.inr (.inl rfl)) (λq=>by omega) (λq=>by omega);first|(obtain -:=T3;exact⟨g1,w1,rfl,.inl rfl,.inl (ZBF W.lh ZB (λc hc=>by cases hc) []),λ_=>trivial,ZC9 m2 m3 m4 ZB ZB⟩)|(obtain -:=T4;exact⟨g1,w1,rfl,.inl rfl,.inl (ZBF W.lh ZB (λc hc=>by cases hc) []),λ_=>trivial,⟨m3,m4.grow g1,m5.grow _,m6⟩⟩)|exact⟨g1,w1,rfl,.inl rfl,.inl (ZBF W.lh ZB (λc hc=>by cases hc) []),λf=>f.elim,m3⟩):p:=h
theorem ZYi {p:Prop}(h:p:=by
 have e:(s.kc res ser,if s.ws.getD word 0=stop then Zs.fin r else .on (.mvS word by_ stop (s.ws.getD word 0) (.leave r)))=(c,out):=e;rw[Zgl q]at e;injection e with e1 e2;subst e1 e2;first|(obtain -:=T1;exact⟨G,Xp hl ht rfl (Zf6 _) trivial⟩)|(obtain -:=T2;exact⟨Zfy (Zfx (ZgR _) _) _,Zf7 _,trivial⟩)|(obtain -:=T3;exact YO W rfl rfl rfl (λf=>f.elim) hk.2.2.2)|exact⟨T,YA _,trivial⟩):p:=h
theorem ZYg {p:Prop}(h:p:=by
 have e:(s.kc res ser,if s.ws.getD word 0=stop then YP res (YY 5) else .on (.mvS word by_ stop (s.ws.getD word 0) (.serial f ce)))=(c,out):=e;rw[Zgl q]at e;injection e with e1 e2;subst e1 e2;first|(obtain -:=T1;exact⟨G,ZC0 hl ht rfl (ZIz (.inr rfl))⟩)|(obtain -:=T2;exact Yo rfl rfl rfl ZDW)|(obtain -:=T3;exact YO W rfl rfl rfl (λ_=>trivial) (ZFI res (ZBB (by decide))).1)|exact⟨T,YA _,ZJ1⟩):p:=h
theorem ZYb {p:Prop}(h:p:=by
 first|(obtain -:=T1;have e:(s.kc res ser,if s.ws.getD word 0=stop then Zs.fin (YY 0) else .on (.mvS word by_ stop (s.ws.getD word 0) (.gone j shards was n)))=(c,out):=e)|have e:(s.kc res ser,if s.ws.getD word 0=stop then Zs.fin (YY 10) else .on (.mvS word by_ stop (s.ws.getD word 0) (.count f ce r)))=(c,out):=e
 rw[Zgl q]at e;injection e with e1 e2;subst e1 e2;first|(obtain -:=T2;exact⟨G,Xp hl ht rfl (Nat.le_of_eq (ZAW (.inr rfl))) trivial⟩)|(obtain -:=T3;exact YO W rfl rfl rfl (λf=>f.elim) (ZBB (by decide)))|(obtain -:=T4;exact⟨Zfy (Zfx (ZgR _) _) _,Zf7 _,trivial⟩)|(obtain -:=T5;exact Yo rfl rfl rfl ⟨ZgR _,trivial⟩)|exact⟨T,YA _,trivial⟩):p:=h
theorem ZGs{s:Z9}{c:KC}(hP:∀p ∈ P,Yt p)(hN:N+1<=4611686018427387903)(hM:M+1<=5000)(h:ZCZ P room N M s)(hc:s.call who=.run x res ser k)(e:Z6 P room x (s.kc res ser) k=(c,out)):ZOq P room N (M+ZTC k) s.wh s.clk x ser k c out:=by
 have hr:=h.run who x res ser k hc;have hx:=hr.call;have W:=h.w;have W1:WOk P (N+1) M s.wh:=W.mono (Zf7 _) (Zf6 _);have hz:k.fresh->∀word,ser=0\/(Ser ser/\ser ∉ (YV (s.wh.hs.getD word []) x.pol x.key).held):=λf word=>by
  exact ZYu
 have hk:=hr.kont.grow (ZAj.refl s.wh);have iO:=hr.kont;have iQ:Zb=4611686018427387904:=rfl;cases k with
 |find sum t=>
  obtain⟨T1,T2⟩:=QA;exact ZY0
 |enter sum word t=>
  obtain⟨h1,h2,h3,h4,h5⟩:=hk;injection e with e1 e2;subst e1 e2;exact YO W rfl rfl rfl (λ_=>trivial) (ZH9 hP hx h1 h2 h3 h4 h5 W1 (hz trivial word))
 |frz word t=>
  obtain⟨T1,T2,T3⟩:=QA;exact ZY3
 |frzS word v holds t=>
  obtain⟨T1,T2,T3⟩:=QA;exact ZZB
 |half level shard holds t=>
  obtain⟨T1,T2,T3⟩:=QA;exact ZYr
 |halfS level shard holds t=>
  obtain⟨T1,T2,T3,T4⟩:=QA;exact ZYq
 |split=>
  obtain⟨T1,T2,T3⟩:=QA;exact ZY2
 |splitS d=>
  obtain⟨h1,h2⟩:=hk;have e:(if s.ws.getD 0 0=d then ((s.kc res ser).sw 0 (d+1) [],Zs.on (XM (d / 2) 0)) else (s.kc res ser,.on .split))=(c,out):=e;split at e<;>(injection e with e1 e2;subst e1 e2)
  ·obtain⟨w1,g1⟩:=ZDv (word:=0) (new:=d+1) W (.inl rfl) (λ_=>by omega) (λq=>by omega);exact⟨g1,w1,rfl,.inl rfl,.inl (ZBF W.lh ZB (λc hc=>by cases hc) []),λ_=>trivial,ZKP ZB (ZgR _)⟩
  ·exact YO W rfl rfl rfl (λ_=>trivial) trivial
 |moveEnd level=>
  have hl:level<=3:=hk;have e:((if s.ws.getD 0 0=2*level+1 then (s.kc res ser).sw 0 (2*level+2) [] else s.kc res ser),Zs.fin (YY 0))=(c,out):=e;injection e with e1 e2;subst e2;split at e1<;>subst e1
  ·obtain⟨w1,g1⟩:=ZDv (word:=0) (new:=2*level+2) W (.inl rfl) (λ_=>by omega) (λq=>by omega);exact⟨g1,w1,rfl,.inl rfl,.inl (ZBF W.lh ZB (λc hc=>by cases hc) []),λ_=>trivial,ZBB (by decide)⟩
  ·exact YO W rfl rfl rfl (λ_=>trivial) (ZBB (by decide))
 |mv word by_ stop t=>
  have hk:MOk P room (N+1) s.wh x res ser word by_ stop t:=hk;by_cases q:s.ws.getD word 0=stop
  ·cases t with
   |leave r=>
    obtain⟨T3,_⟩:=QA;exact ZYi
   |gone j shards was n=>
    obtain⟨T1,T3⟩:=QA;exact ZYb
   |count f ce r=>
    obtain⟨T3,_⟩:=QA;exact ZYb
   |serial f ce=>
    obtain⟨T3,_⟩:=QA;exact ZYg
  ·obtain⟨T1,_⟩:=QA;exact ZYw
 |mvS word by_ stop v t=>
  have iO:MOk P room N s.wh x res ser word by_ stop t:=iO;by_cases q:s.ws.getD word 0=v
  ·cases t with
   |leave r=>
    exact ZYp
   |gone j shards was n=>
    obtain⟨T1,T3⟩:=QA;exact ZYp
   |count f ce r=>
    obtain⟨T2,T4⟩:=QA;exact ZYp
   |serial f ce=>
    obtain⟨rfl,rfl,m2,m3,rfl,m4,rfl,m6⟩:=iO;have e:(if s.ws.getD 33 0=v then ({(s.kc res 0).sw 33 ((v+1) % 18446744073709551616) []with ser:=(((v+1) % 18446744073709551616:Nat):Int)},Zs.on (Ji room res f (ZAa (Zf P x.pol) (YV f.cells x.pol x.key) ((v+1) % 18446744073709551616:Nat)).2 (ZAa (Zf P x.pol) (YV f.cells x.pol x.key) ((v+1) % 18446744073709551616:Nat)).1)) else (s.kc res 0,.on (.mv 33 1 stop (.serial f (YV f.cells x.pol x.key)))))=(c,out):=e;have hv:s.ws.getD 33 0<=N:=W.n33;rw[Zgl q,show(v+1) % 18446744073709551616=v+1 by omega]at e;injection e with e1 e2;subst e1 e2;obtain⟨w1,g1⟩:=ZDv (word:=33) (new:=v+1) W (.inr (.inr rfl)) (λq=>by omega) (λ_=>⟨by show s.ws.getD 33 0<=_;omega,by omega⟩);have nY:(s.ws.set 33 (v+1)).getD 33 0=v+1:=by
     rw[YN _ _ _ _ _ (by have:s.ws.length=34:=W.lw;omega),Zgl rfl]
    have hF:=m4.grow g1
    obtain⟨a,b⟩:=ZMo (ser:=((v+1:Nat):Int)) hP hx m3 hF m6 ⟨by omega,by omega⟩ (λhm=>by
     obtain⟨d,hd,hz⟩:=ZDk hm;have:=m4.ser d hd _ hz;have this:((v+1:Nat):Int)<=(s.ws.getD 33 0:Int):=this;omega)
    exact⟨g1,w1,rfl,.inr ⟨rfl,m3,by show((v+1:Nat):Int)=(((s.ws.set 33 (v+1)).getD 33 0:Nat):Int);rw[nY],by show s.ws.getD 33 0<(s.ws.set 33 (v+1)).getD 33 0;rw[nY];omega⟩,.inl (ZBF W.lh ZB (λc hc=>by cases hc) []),λ_=>trivial,ZGp res ZB hF a b⟩
  ·obtain⟨T1,_⟩:=QA;exact ZZA
 |put f ce r=>
  obtain⟨h1,h2,h3,h4⟩:=iO;obtain⟨a1,a2,a3,a4,a5⟩:=h2.same;have e:(if s.ws.getD f.word 0=f.v then ((s.kc res ser).sw f.word (f.v+1) (XL f.cells f.at_ f.there ce),if f.there=false then Zs.fin r else YP res r) else (s.kc res ser,.on (.find (Xw x.id) .begin)))=(c,out):=e;split at e<;>(injection e with e1 e2;subst e1 e2)
  ·next q=>
   have a5:s.wh.hs.getD f.word []=f.cells:=a5 q;have wc:=W.cells f.word;have hl:f.cells.length<=M:=by rw[<-a5];exact wc.2
   have dm:=ZR6 f.cells f.at_ f.there ce;have wI:ser≠0->ser<=(s.wh.ws.getD 33 0:Int):=λn=>(hr.ser0 n).2.2;have gi:∀d ∈ XL f.cells f.at_ f.there ce,∀z ∈ d.held,Old s.wh z\/(z=ser/\ser≠0):=λd hd z hz=>by
    rcases ZE0 hd with e9|hd
    ·rw[e9]at hz;rcases h3.held z hz with hz|hz
     ·obtain⟨d2,eT,aS⟩:=ZDk hz;exact .inl ⟨f.word,d2,by rw[a5];exact eT,aS⟩
     ·exact .inr hz
    ·exact .inl ⟨f.word,d,by rw[a5];exact hd,hz⟩
   obtain⟨w1,g1⟩:=ZGj (new:=f.v+1) (l:=XL f.cells f.at_ f.there ce) (M':=M+1) W ZB a1 a2 (by show s.ws.getD f.word 0<_;omega) (by show s.ws.getD f.word 0<_;omega) (.inl ZB) ⟨by rw[h2.at_,h2.there,<-h3.id];exact ZF7 h2.ok.1,λd hd=>(ZE0 hd).elim (λe=>by rw[e];exact h3.ok) (λe=>h2.ok.2.1 d e),by omega⟩ ZB (λd hd z hz=>by
    rcases gi d hd z hz with⟨i,d2,eT,aS⟩|⟨rfl,n⟩
    ·exact W.held i d2 eT z aS
    ·exact wI n)
   have ho:ZDO P room (N+1) (WH.mk (s.ws.set f.word (f.v+1)) (s.hs.set f.word (XL f.cells f.at_ f.there ce))) x res ser (if f.there=false then Zs.fin r else YP res r)/\¬(if f.there=false then Zs.fin r else YP res r).fresh:=by
    split
    ·exact⟨h4,id⟩
    ·exact ZFI res h4
   exact⟨g1,w1,rfl,.inl rfl,.inr ⟨ZLl W.lh ZB gi [],rfl,ho.2⟩,λ_=>trivial,ho.1⟩
  ·exact⟨ZAj.refl _,W.mono (Zf7 _) (Zf7 _),rfl,.inl rfl,.inl λi c' hc z hz=>⟨i,c',hc,hz⟩,λ_=>trivial,⟨by show x.op<=4;omega,rfl,ZO3 _⟩⟩
 |peek ce=>
  obtain⟨h1,h2,h3⟩:=hk;injection e with e1 e2;subst e1 e2;obtain⟨_,_,_,t1,t2,_⟩:=h3;have:=h.clk;exact YO W rfl rfl rfl (λ_=>trivial) (ZUt (ZGr (ZDV hP (hx.2.2.1 ZB).1) h2) t1 t2 (by show(0:Int)<=(s.clk:Int);omega) this)
 |allow f ce=>
  obtain⟨h1,h2,rfl⟩:=hk;have hc:=ZBU hP hx ZB h2;have ha:=hx.2.2.2.1 h1;have hcl:=h.clk;have ai:=ZT4 (now:=(s.clk:Int)) (n:=x.n) (ZGr (ZDV hP (hx.2.2.1 ZB).1) ha.1) hc.2.2.2.1 hc.2.2.2.2.1 ZB hcl ha.2.1;have e:(s.kc res ser,if (Yg (Zf P x.pol) (YV f.cells x.pol x.key) s.clk x.n).1.granted=false\/x.n=0 then YP res (Yg (Zf P x.pol) (YV f.cells x.pol x.key) s.clk x.n).1 else .on (Ji room res f (Yg (Zf P x.pol) (YV f.cells x.pol x.key) s.clk x.n).2 (Yg (Zf P x.pol) (YV f.cells x.pol x.key) s.clk x.n).1))=(c,out):=e;injection e with e1 e2;subst e1;split at e2<;>subst e2
  ·exact YO W rfl rfl rfl (λ_=>trivial) (ZFI res ai.1).1
  ·exact YO W rfl rfl rfl (λ_=>trivial) (ZGp res ZB h2 ⟨⟨hc.1,hc.2.1,hc.2.2.1,ai.2.1,ai.2.2,hc.2.2.2.2.2⟩,ZKg f.cells x,λz hz=>.inl hz⟩ ai.1)
 |evFirst=>
  have ho:x.op=5:=hk;injection e with e1 e2;subst e1 e2;have d:=W.d;have d:s.ws.getD 0 0<=8:=d;have q1:2 ^ ((s.ws.getD 0 0+1) / 2)<=16:=ZgO (n:=2) (j:=4) ZB ZB;have q2:1<=2 ^ ((s.ws.getD 0 0+1) / 2):=ZgM;exact YO W rfl rfl rfl (λ_=>trivial) ⟨⟨ho,q2,q1,Int.le_refl _,by omega⟩,rfl,by omega⟩
 |evScan j shards gone word v cells=>
  obtain⟨T1,T2,T3,T4⟩:=QA;exact ZYs
 |evSwap j shards gone word v rest n=>
  obtain⟨T1,T2,T3⟩:=QA;exact ZYz
theorem Q2 {p:Prop}(h:p:=by
 first
 |obtain -:=V1;have ha:=ZQp (P:=P) (room:=room) hP.ok hN hM hw h.all hc;have lV:ZCw P room (N+1) (M+1) (YM P room s who).1:=by
   have:=ZU8 k;obtain⟨q1,q2,q3⟩:=ha.1;exact⟨q1.mono (Zf6 _) ZB,q2,q3⟩
  have hh:=ZQy (room:=room) h.all hc h.held;have hr:=ZP1 hw hP.room h.all hc h.room;obtain⟨G',hv,mD⟩:=ZUW (who:=who) hP.ok hP.p0 hP.k0 hN hM h.all hc h.sv;obtain⟨aG,dq⟩:=ZSQ (who:=who) hP.ok hN hM h.all hc h.ser
 |obtain -:=V2;have hs:=ZGs (c:=(Z6 P room x (s.kc res ser) k).1) (out:=(Z6 P room x (s.kc res ser) k).2) hP hN hM h hc rfl;have hn:=ZQi h hc hs
 |skip
 have e:YM P room s who=(match Z6 P room x (s.kc res ser) k with
  |(c,.on k')=>((s.of c).put who (.run x c.res c.ser k'),none)
  |(c,.fin r)=>((s.of c).put who .idle,some r)):=by
  unfold YM;rw[hc];rfl
 first
 |obtain -:=V3;have wK:=ha.2;have hI:∀T',ZBJ T' (YM P room s who).1->Jh P room a b (N+1) (M+1) G' T' (YM P room s who).1:=λT' h=>⟨lV,hh,hr,hv,h⟩;cases ho:(Z6 P room x (s.kc res ser) k).2 with
  |on k'=>
   refine .inl ⟨(Z6 P room x (s.kc res ser) k).1.res,(Z6 P room x (s.kc res ser) k).1.ser,k',G',?_,?_,hI T aG,?_⟩
   ·rw[e];generalize Z6 P room x (s.kc res ser) k=o at ho;obtain⟨c,out⟩:=o;have ho:out=.on k':=ho;subst ho;rfl
   ·rw[e];generalize Z6 P room x (s.kc res ser) k=o at ho;obtain⟨c,out⟩:=o;have ho:out=.on k':=ho;subst ho;exact Zx _ _ _
   ·rw[ho]at mD;exact mD
  |fin r=>
   have h2:(YM P room s who).2=some r:=by
    rw[e];generalize Z6 P room x (s.kc res ser) k=o at ho;obtain⟨c,out⟩:=o;have ho:out=.fin r:=ho;subst ho;rfl
   refine .inr ⟨r,G',h2,?_,wK r h2,hI T aG,?_,λik hg=>hI _ (dq r ho ik hg).2⟩
   ·rw[e];generalize Z6 P room x (s.kc res ser) k=o at ho;obtain⟨c,out⟩:=o;have ho:out=.fin r:=ho;subst ho;exact Zx _ _ _
   ·rw[ho]at mD;exact mD
 |obtain -:=V4;rw[e];revert hs hn;generalize Z6 P room x (s.kc res ser) k=o;obtain⟨c,out⟩:=o;cases out with
  |on k'=>exact λhs hn=>⟨hn,λr q=>by cases q⟩
  |fin r=>exact λhs hn=>⟨hn,λr' q=>by cases q;exact hs.ok⟩
 |rw[e];generalize Z6 P room x (s.kc res ser) k=o;obtain⟨c,out⟩:=o;cases out<;>rfl):p:=h
theorem ZQh{s:Z9}(hP:∀p ∈ P,Yt p)(hN:N+1<=4611686018427387903)(hM:M+1<=5000)(h:ZCZ P room N M s)(hc:s.call who=.run x res ser k): ZCZ P room (N+1) (M+ZTC k) (YM P room s who).1/\∀r,(YM P room s who).2=some r->RIn r:=by
 obtain⟨V2,V4⟩:=QA;exact Q2
theorem ZCZ.mono{N' M':Nat}{s:Z9}(h:ZCZ P room N M s)(a:N<=N')(b:M<=M'):ZCZ P room N' M' s:=by
 obtain⟨d,rfl⟩:=Nat.exists_eq_add_of_le a
 induction d with
 |zero=>exact⟨h.w.mono (Zf6 _) b,h.clk,h.run,h.dist⟩
 |succ n ih=>
  have ih:=ih (Nat.le_add_right _ _);exact⟨ih.w.mono (Zf7 _) (Zf6 _),ih.clk,λwho x res ser k hc=>⟨(ih.run who x res ser k hc).call,(ih.run who x res ser k hc).ser0,(ih.run who x res ser k hc).fresh,(ih.run who x res ser k hc).kont.grow (ZAj.refl _)⟩,ih.dist⟩
theorem ZNp{s:Z9}(h:ZCZ P room N M s)(hx:Yn P x)(hi:s.call who=.idle):ZCZ P room N M (s.put who (.run x false 0 (JD x))):=by
 refine⟨h.w,h.clk,λw x' res ser k hc=>?_,λa b x1 r1 s1 k1 x2 r2 s2 k2 ha hb n e=>?_⟩
 ·by_cases e:w=who
  ·subst e;rw[Zx]at hc;cases hc;refine⟨hx,λn=>absurd rfl n,λ_ n=>absurd rfl n,?_⟩;unfold JD
   split
   ·exact trivial
   ·split
    ·next q=>exact q
    ·exact⟨by show x.op<=4;have:=hx.2.1;omega,rfl,ZO3 _⟩
  ·rw[Z0 _ _ e]at hc;exact h.run w x' res ser k hc
 ·by_cases ea:a=who
  ·rw[ea,Zx]at ha;cases ha;exact absurd rfl n
  ·by_cases eb:b=who
   ·rw[eb,Zx]at hb;cases hb;exact absurd e n
   ·rw[Z0 _ _ ea]at ha;rw[Z0 _ _ eb]at hb;exact h.dist a b x1 r1 s1 k1 x2 r2 s2 k2 ha hb n e
theorem ZQg {P:List YK}{room N M clk:Nat}{s:Z9}(h:ZCZ P room N M s)(hc:(clk:Int)<=4611686018427387903):ZCZ P room N M {s with clk:=clk}:=⟨h.w,hc,h.run,h.dist⟩
theorem ZQj (P room):ZCZ P room 1 0 Jd:=by
 have e:∀i,Jd.hs.getD i []=[]:=λi=>by
  show(List.replicate 34 ([]:List ZL)).getD i []=[];rw[Zez,Ze8]
  split<;>rfl
 have e2:∀i,Jd.ws.getD i 0<=1:=λi=>by
  show((List.replicate 34 0).set 1 1).getD i 0<=1;rw[YN _ _ _ _ _ ZXz]
  split
  ·exact Zf6 _
  ·rw[Zez,Ze8]
   split<;>exact ZgR _
 refine⟨⟨rfl,rfl,ZgR _,λi _ _=>.inl (e2 i),ZgR _,λi=>?_,λi c hc=>?_⟩,by decide,λwho x res ser k hc=>(by cases hc),λa b x res ser k x' res' ser' k' ha=>(by cases ha)⟩
 ·show Yu P (Jd.hs.getD i [])/\(Jd.hs.getD i []).length<=0;rw[e];exact⟨⟨List.Pairwise.nil,(λc hc=>by cases hc),ZgR _⟩,ZgR _⟩
 ·have hc:c ∈ Jd.hs.getD i []:=hc;rw[e]at hc;cases hc
theorem JZ{l:Nat}(h:ZO l S=ZO l' S'):l=l'/\S % 2 ^ l=S' % 2 ^ l':=by
 unfold ZO at h;have a:=ZgG S (y:=2 ^ l) ZgM;have b:=ZgG S' (y:=2 ^ l') ZgM;rcases Nat.lt_trichotomy l l' with q|q|q
 ·have:=ZgO (n:=2) ZB (show l+1<=l' from q);rw[ZgP]at this;omega
 ·subst q;exact⟨rfl,by omega⟩
 ·have:=ZgO (n:=2) ZB (show l'+1<=l from q);rw[ZgP]at this;omega
theorem ZB4 (l S):ZO l (S % 2 ^ l)=ZO l S:=by unfold ZO;rw[Nat.mod_mod]
theorem ZHh{l:Nat}(h:ZO (l+1) S=ZO (l+1) S'):ZO l S=ZO l S':=by
 have e:=(JZ h).2;unfold ZO;have q:∀a,a % 2 ^ (l+1) % 2 ^ l=a % 2 ^ l:=λa=>Nat.mod_mod_of_dvd a ⟨2,by rw[ZgP]⟩;rw[<-q S,e,q]
def wat (s:WH)(l S:Nat):Nat:=s.ws.getD (ZO l S) 0
def Xt (s:WH)(l S:Nat):List ZL:=s.hs.getD (ZO l S) []
structure TOk (s:WH):Prop where
 cells:∀l S,l<=4->∀c ∈ Xt s l S,Xw c.id % 2 ^ l=S % 2 ^ l
 up:∀l S,l<=3->wat s (l+1) S≠0->Zb<=wat s l S
 made:∀l S,l<=4->2*l<=s.ws.getD 0 0->wat s l S≠0
 froze:∀l S,l<=4->Zb<=wat s l S->2*l+1<=s.ws.getD 0 0
def ZEX (s:WH)(l n:Nat):Prop:=2*l+1<=s.ws.getD 0 0/\∀i,i<n->wat s (l+1) i≠0/\wat s (l+1) (i+2 ^ l)≠0
def ZGb (s:WH)(l S:Nat)(h:List ZL):Prop:=Zb<=wat s l S/\Xt s l S=h
def TF (s:WH)(word:Nat):ZAQ->Prop
 |.find sum level _=>word=ZO level sum/\2*level+1<=s.ws.getD 0 0
 |.move level i=>word=ZO level i/\ZEX s level i
def TH (s:WH)(level shard:Nat)(h:List ZL):Jk->Prop
 |.find sum _=>shard=sum/\∃l,level=l+1/\ZGb s l sum h
 |.move1 lv i holds=>level=lv+1/\shard=i/\holds=h/\ZGb s lv i h/\ZEX s lv i
 |.move2 lv i=>level=lv+1/\shard=i+2 ^ lv/\ZGb s lv i h/\ZEX s lv i/\wat s (lv+1) i≠0
def ZBY (x:ZW)(f:Yb):Prop:=f.v≠0/\∃l,l<=4/\f.word=ZO l (Xw x.id)
def TK (s:WH)(x:ZW):YX->Prop
 |.enter sum word _=>∃l,l<=4/\word=ZO l sum
 |.frz word t=>TF s word t
 |.frzS word _ _ t=>TF s word t
 |.half level shard h t=>TH s level shard h t
 |.halfS level shard h t=>TH s level shard h t
 |.moveEnd level=>ZEX s level (2 ^ level)
 |.mv _ _ _ (.count f _ _)=>ZBY x f
 |.mv _ _ _ (.serial f _)=>ZBY x f
 |.mvS _ _ _ _ (.count f _ _)=>ZBY x f
 |.mvS _ _ _ _ (.serial f _)=>ZBY x f
 |.put f _ _=>ZBY x f
 |.allow f _=>ZBY x f
 |.evScan _ _ _ word v _=>v≠0/\∃l S,l<=4/\word=ZO l S
 |.evSwap _ _ _ word v _ _=>v≠0/\∃l S,l<=4/\word=ZO l S
 |_=>True
structure ZDo (s s':WH):Prop where
 g:ZAj s s'
 d:s.ws.getD 0 0<=s'.ws.getD 0 0
theorem ZDo.wat(h:ZDo s s'){l:Nat}(hl:l<=4):wat s l S<=wat s' l S:=by
 have p:=Xz (shard:=S) hl;rcases h.g.sh (ZO l S) p.1 p.2 with⟨a,_⟩|⟨a,_⟩
 ·exact Nat.le_of_eq a.symm
 ·exact Zf5 a
theorem ZEX.grow{l:Nat}(h:ZEX s l n)(g:ZDo s s')(hl:l<=3):ZEX s' l n:=⟨Zf8 h.1 g.d,λi hi=>⟨by have:=(h.2 i hi).1;have:=g.wat (l:=l+1) (S:=i) ZB;omega,by have:=(h.2 i hi).2;have:=g.wat (l:=l+1) (S:=i+2 ^ l) ZB;omega⟩⟩
theorem ZGb.grow{l:Nat}(p:ZGb s l S h)(g:ZDo s s')(hl:l<=4):ZGb s' l S h:=by
 have q:=Xz (shard:=S) hl;have p1:Zb<=s.ws.getD (ZO l S) 0:=p.1;rcases g.g.sh (ZO l S) q.1 q.2 with⟨a,b⟩|⟨a,b⟩
 ·exact⟨by show Zb<=s'.ws.getD (ZO l S) 0;rw[a];exact p1,by show s'.hs.getD (ZO l S) []=h;rw[b];exact p.2⟩
 ·omega
theorem TF.grow{t:ZAQ}(h:TF s word t)(g:ZDo s s')(hf:FOk P s x t):TF s' word t:=by
 cases t with
 |find sum level t=>exact⟨h.1,Zf8 h.2 g.d⟩
 |move level i=>exact⟨h.1,h.2.grow g hf.1⟩
theorem TH.grow {P:List YK}{s s':WH}{x:ZW}{level shard:Nat}{l:List ZL}{t:Jk}(h:TH s level shard l t)(g:ZDo s s')(hl:level<=4):TH s' level shard l t:=by
 cases t with
 |find sum t=>
  obtain⟨a,k,b,c⟩:=h;exact⟨a,k,b,c.grow g ZB⟩
 |move1 lv i holds=>
  obtain⟨a,b,c,d,e⟩:=h;exact⟨a,b,c,d.grow g ZB,e.grow g ZB⟩
 |move2 lv i=>
  obtain⟨a,b,d,e,f⟩:=h;exact⟨a,b,d.grow g ZB,e.grow g ZB,by have:=g.wat (l:=lv+1) (S:=i) ZB;omega⟩
theorem TK.grow(h:TK s x k)(g:ZDo s s')(hk:ZBn P room N s x res ser k):TK s' x k:=by
 cases k with
 |frz word t=>exact TF.grow h g hk.1
 |frzS word v holds t=>exact TF.grow (t:=t) h g hk.1
 |half level shard holds t=>exact TH.grow (P:=P) (x:=x) (t:=t) h g hk.2.1
 |halfS level shard holds t=>exact TH.grow (P:=P) (x:=x) (t:=t) h g hk.2.1
 |moveEnd level=>exact ZEX.grow h g hk
 |mv word by_ stop t=>cases t<;>exact h
 |mvS word by_ stop v t=>cases t<;>exact h
 |_=>exact h
theorem ZBt{l:Nat}(hl:w.ws.length=34)(hh:w.hs.length=34)(l4:l<=4):wat ⟨w.ws.set (ZO l S) new,w.hs.set (ZO l S) h⟩ l' S'=(if ZO l' S'=ZO l S then new else wat w l' S')/\Xt ⟨w.ws.set (ZO l S) new,w.hs.set (ZO l S) h⟩ l' S'=(if ZO l' S'=ZO l S then h else Xt w l' S'):=by
 have p:=Xz (shard:=S) l4;exact⟨YN w.ws _ _ new 0 ZB,YN w.hs _ _ h [] ZB⟩
theorem ZJu{l:Nat}(T:TOk w)(hl:w.ws.length=34)(hh:w.hs.length=34)(l4:l<=4)(hf:wat w l S<Zb)(hn:wat w l S<new)(hc:∀c ∈ h,Xw c.id % 2 ^ l=S % 2 ^ l)(hp:∀l0,l=l0+1->Zb<=wat w l0 S)(hz:Zb<=new->2*l+1<=w.ws.getD 0 0):TOk ⟨w.ws.set (ZO l S) new,w.hs.set (ZO l S) h⟩:=by
 have W:=λl' S'=>(ZBt (w:=w) (l:=l) (S:=S) (l':=l') (S':=S') (new:=new) (h:=h) hl hh l4).1;have H:=λl' S'=>(ZBt (w:=w) (l:=l) (S:=S) (l':=l') (S':=S') (new:=new) (h:=h) hl hh l4).2;have d0:(w.ws.set (ZO l S) new).getD 0 0=w.ws.getD 0 0:=by
  have p:=Xz (shard:=S) l4;rw[YN _ _ _ _ _ ZB,Zgk ZB]
 refine⟨λl' S' h1 c bJ=>?_,λl' S' h1 h2=>?_,λl' S' h1 h2=>?_,λl' S' h1 h2=>?_⟩
 ·rw[H]at bJ
  split at bJ
  ·next e=>obtain⟨rfl,e2⟩:=JZ e;rw[hc c bJ,e2]
  ·exact T.cells l' S' h1 c bJ
 ·rw[W];rw[W]at h2;by_cases e:ZO l' S'=ZO l S
  ·obtain⟨rfl,e2⟩:=JZ e;have ne:ZO (l'+1) S'≠ZO l' S:=λq=>by have:=(JZ q).1;omega
   rw[Zgk ne]at h2;have:=T.up l' S' h1 h2;have e3:wat w l' S'=wat w l' S:=by unfold wat;rw[e]
   omega
  ·rw[Zgk e];by_cases e3:ZO (l'+1) S'=ZO l S
   ·obtain⟨rfl,e2⟩:=JZ e3;have e4:wat w l' S'=wat w l' S:=by unfold wat;rw[ZHh e3]
    rw[e4];exact hp l' rfl
   ·rw[Zgk e3]at h2;exact T.up l' S' h1 h2
 ·have h2:2*l'<=(w.ws.set (ZO l S) new).getD 0 0:=h2;rw[d0]at h2;rw[W]
  split
  ·omega
  ·exact T.made l' S' h1 h2
 ·show 2*l'+1<=(w.ws.set (ZO l S) new).getD 0 0;rw[d0];rw[W]at h2
  split at h2
  ·next e=>obtain⟨rfl,_⟩:=JZ e;exact hz h2
  ·exact T.froze l' S' h1 h2
theorem ZJv(T:TOk w)(hl:w.ws.length=34)(hh:w.hs.length=34)(h1:word=0\/word=32\/word=33)(hd:word=0->w.ws.getD 0 0<=new/\∀l,l<=4->2*l<=new->¬2*l<=w.ws.getD 0 0->∀S,wat w l S≠0):TOk ⟨w.ws.set word new,w.hs.set word h⟩/\w.ws.getD 0 0<=(w.ws.set word new).getD 0 0:=by
 have W:∀l S,l<=4->wat ⟨w.ws.set word new,w.hs.set word h⟩ l S=wat w l S:=λl S h4=>by
  have p:=Xz (shard:=S) h4;show(w.ws.set word new).getD (ZO l S) 0=_;rw[YN _ _ _ _ _ ZB,Zgk ZB];rfl
 have H:∀l S,l<=4->Xt ⟨w.ws.set word new,w.hs.set word h⟩ l S=Xt w l S:=λl S h4=>by
  have p:=Xz (shard:=S) h4;show(w.hs.set word h).getD (ZO l S) []=_;rw[YN _ _ _ _ _ ZB,Zgk ZB];rfl
 have d0:(w.ws.set word new).getD 0 0=if 0=word then new else w.ws.getD 0 0:=YN _ _ _ _ _ ZB
 have Bz:w.ws.getD 0 0<=(w.ws.set word new).getD 0 0:=by
  rw[d0]
  split
  ·next e=>exact(hd e.symm).1
  ·exact Zf6 _
 refine⟨⟨λl S a c hc=>?_,λl S a b=>?_,λl S a b=>?_,λl S a b=>?_⟩,Bz⟩
 ·rw[H l S a]at hc;exact T.cells l S a c hc
 ·rw[W l S ZB];rw[W (l+1) S ZB]at b;exact T.up l S a b
 ·rw[W l S a];have b:2*l<=(w.ws.set word new).getD 0 0:=b;rw[d0]at b
  split at b
  ·next e=>
   by_cases q:2*l<=w.ws.getD 0 0
   ·exact T.made l S a q
   ·exact(hd e.symm).2 l a b q S
  ·exact T.made l S a b
 ·rw[W l S a]at b;exact Zf8 (T.froze l S a b) Bz
def ZIN (s:WH)(x:ZW):Zs->Prop
 |.on k=>TK s x k
 |.fin _=>True
theorem ZJ1:ZIN s x (YP res r):=by unfold YP;split<;>exact trivial
theorem ZUO(h:ZBY x f):ZIN s x (.on (Ji room res f c r)):=by unfold Ji;split<;>exact h
theorem ZXg(h:ZBY x f):ZIN s x (Xd p room res ser f c):=by
 unfold Xd
 split
 ·exact ZJ1
 ·split
  ·exact ZUO h
  ·exact h
theorem ZE1:ZIN s x (Zu j shards gone):=by unfold Zu;split<;>exact trivial
theorem ZWD(h:v≠0/\∃l,l<=4/\word=ZO l (Xw x.id)):ZIN s x (ZAq P room x res ser word v l):=by
 unfold ZAq
 dsimp only
 split
 ·exact h
 ·split
  ·exact ZXg h
  ·split
   ·split
    ·exact trivial
    ·exact ZUO h
   ·split<;>exact trivial
theorem ZLA(h:∃l,l<=4/\word=ZO l sum)(hs:ZJo x sum t):ZIN s x (Yx P room x res ser sum word v l t):=by
 unfold Yx
 split
 ·exact trivial
 ·next q=>
  obtain⟨l',a,b⟩:=h;have v0:v≠0:=λe=>q (.inl e);cases t with
  |begin=>
   have hs:sum=Xw x.id:=hs;exact ZWD ⟨v0,l',a,by rw[<-hs];exact b⟩
  |evict j shards gone=>
   unfold ZEN
   dsimp only
   split
   ·exact ZE1
   ·exact⟨v0,l',sum,a,b⟩
theorem ZSC(h:ZEX s level i):ZIN s x (.on (XM level i)):=by
 unfold XM
 split
 ·next e=>subst e;exact h
 ·exact⟨rfl,h⟩
theorem ZSD{t:ZAQ}(h:TF s word t)(hp:Zb<=s.ws.getD word 0)(hh:s.hs.getD word []=l):ZIN s x (.on (Je l t)):=by
 cases t with
 |find sum level t=>obtain⟨rfl,_⟩:=h;exact⟨rfl,level,rfl,hp,hh⟩
 |move level i=>obtain⟨rfl,m⟩:=h;exact⟨rfl,rfl,rfl,⟨hp,hh⟩,m⟩
theorem ZM8{t:Jk}(hl:level<=4)(ht:TH s level shard h t)(hs:HOk P s x t)(hw:wat s level shard≠0):ZIN s x (XR P room x res ser (ZO level shard) v l t):=by
 cases t with
 |find sum t=>
  obtain⟨rfl,k,rfl,_⟩:=ht;unfold XR
  dsimp only
  split
  ·exact⟨k+1,hl,rfl⟩
  ·exact ZLA ⟨k+1,hl,rfl⟩ hs.2.1
 |move1 lv i holds=>
  obtain⟨rfl,rfl,rfl,p,m⟩:=ht;exact⟨rfl,rfl,p,m,hw⟩
 |move2 lv i=>
  obtain⟨rfl,rfl,p,m,q⟩:=ht;refine ZSC ⟨m.1,λj hj=>?_⟩;by_cases e:j=i
  ·subst e;exact⟨q,hw⟩
  ·exact m.2 j ZB
theorem ZM9{t:Jk}(ht:TH s level shard h t):∃lv,level=lv+1/\ZGb s lv shard h:=by
 cases t with
 |find sum t=>obtain⟨rfl,l,e,p⟩:=ht;exact⟨l,e,p⟩
 |move1 lv i holds=>obtain⟨e,rfl,_,p,_⟩:=ht;exact⟨lv,e,p⟩
 |move2 lv i=>
  obtain⟨e,rfl,p,_⟩:=ht;have q:ZO lv (i+2 ^ lv)=ZO lv i:=by unfold ZO;rw[Nat.add_mod_right]
  exact⟨lv,e,by unfold ZGb wat Xt;rw[q];exact p⟩
theorem ZQO{l:Nat}(h:ZEX s l (2 ^ l))(S):wat s (l+1) S≠0:=by
 have e:wat s (l+1) S=wat s (l+1) (S % 2 ^ (l+1)):=by unfold wat;rw[ZB4]
 rw[e];have m:=ZgG S (y:=2 ^ (l+1)) ZgM;have p:2 ^ (l+1)=2 ^ l*2:=ZgP _ _;by_cases q:S % 2 ^ (l+1)<2 ^ l
 ·exact(h.2 _ q).1
 ·have:=(h.2 (S % 2 ^ (l+1) - 2 ^ l) ZB).2;rw[show S % 2 ^ (l+1) - 2 ^ l+2 ^ l=S % 2 ^ (l+1) by omega]at this;exact this
theorem ZDy(hl:w.ws.length=34)(h1:1<=word)(h2:word<32)(g:ZAj w ⟨w.ws.set word new,w.hs.set word h⟩):ZDo w ⟨w.ws.set word new,w.hs.set word h⟩:=⟨g,by show _<=(w.ws.set word new).getD 0 0;rw[YN _ _ _ _ _ ZB,Zgk ZB];exact Zf6 _⟩
theorem YA (w):ZDo w w:=⟨ZAj.refl w,Zf6 _⟩
theorem ZOv{l:Nat}(T:TOk w)(hl:w.ws.length=34)(hh:w.hs.length=34)(l4:l<=4)(v)(hv:w.ws.getD (ZO l S) 0=v)(h0:v≠0)(hf:v+1<Zb)(hc:∀c ∈ h,Xw c.id % 2 ^ l=S % 2 ^ l):TOk ⟨w.ws.set (ZO l S) (v+1),w.hs.set (ZO l S) h⟩:=ZJu T hl hh l4 (by show w.ws.getD (ZO l S) 0<_;omega) (by show w.ws.getD (ZO l S) 0<_;omega) hc (λl0 e=>by subst e;exact T.up l0 S ZB (by show w.ws.getD (ZO (l0+1) S) 0≠0;omega)) (λq=>by omega)
theorem QC {p:Prop}(h:p:=by
 have hr:=h.run who x res ser k hc;have W:=h.w;first|(obtain -:=V1)|(obtain -:=V2;have lw:s.ws.length=34:=W.lw;have lh:s.hs.length=34:=W.lh;have hx:=hr.call)|(have lw:s.ws.length=34:=W.lw;have lh:s.hs.length=34:=W.lh)
 have hk:=hr.kont;first|(obtain -:=V3;have d:s.ws.getD 0 0<=8:=W.d)|skip
 have iQ:Zb=4611686018427387904:=rfl;first
 |obtain -:=V4;have sD:JG=18446744073709551615:=rfl;have ji:∀word new,word<32->(s.ws.set word new).getD 32 0=s.ws.getD 32 0:=λword new hw=>by rw[YN _ _ _ _ _ ZB,Zgk ZB]
  have lC:∀new,(s.ws.set 32 new).getD 32 0=new:=λnew=>by rw[YN _ _ _ _ _ ZB,Zgl rfl]
 |skip
 cases k with
 |find sum t=>
  exact ZY0
 |enter sum word t=>
  injection e with e1 e2;subst e1 e2;first|(obtain -:=V7;exact⟨T,YA _,ZLA tk hk.2.1⟩)|(obtain -:=V8;exact⟨G,ZC0 hl ht rfl ZGC⟩)|exact Yo rfl rfl rfl ZHg
 |frz word t=>
  exact ZY3
 |frzS word v holds t=>
  exact ZZB
 |half level shard holds t=>
  exact ZYr
 |halfS level shard holds t=>
  exact ZYq
 |split=>
  exact ZY2
 |splitS d0=>
  first|(obtain -:=V32;obtain⟨h1,h2⟩:=hk)|skip
  have e:(if s.ws.getD 0 0=d0 then ((s.kc res ser).sw 0 (d0+1) [],Zs.on (XM (d0 / 2) 0)) else (s.kc res ser,.on .split))=(c,out):=e;split at e<;>(injection e with e1 e2;subst e1 e2)
  ·first
   |obtain -:=V33;next q=>
    obtain⟨huq,dl⟩:=ZJv (word:=0) (new:=d0+1) (h:=[]) T W.lw W.lh (.inl rfl) (λ_=>⟨by show s.ws.getD 0 0<=_;omega,λl _ a b=>absurd (show 2*l<=s.ws.getD 0 0 by omega) b⟩);refine⟨huq,⟨g,dl⟩,ZSC ⟨?_,λi hi=>absurd hi (ZgL i)⟩⟩;show 2*(d0 / 2)+1<=(s.ws.set 0 (d0+1)).getD 0 0;rw[YN _ _ _ _ _ (by have:s.ws.length=34:=W.lw;omega),Zgl rfl];omega
   |obtain -:=V34;exact⟨G,ZJ2 hl ht lw lh (.inl rfl) rfl ZLR⟩
   |exact ZDj (show X9 ⟨s.wh.ws.set 0 (d0+1),s.wh.hs.set 0 []⟩=X9 s.wh from ZCn lw lh (.inl rfl)) (show(s.ws.set 0 (d0+1)).getD 32 0=_ from ji _ _ ZB) rfl rfl ZKK
  ·first|(obtain -:=V35;exact⟨T,YA _,trivial⟩)|(obtain -:=V36;exact⟨G,Xp hl ht rfl (Zf6 _) trivial⟩)|exact Yo rfl rfl rfl ⟨Zf6 _,trivial⟩
 |moveEnd level=>
  have e:((if s.ws.getD 0 0=2*level+1 then (s.kc res ser).sw 0 (2*level+2) [] else s.kc res ser),Zs.fin (YY 0))=(c,out):=e;injection e with e1 e2;subst e2;split at e1<;>subst e1
  ·first
   |obtain -:=V37;next q=>
    obtain⟨huq,dl⟩:=ZJv (word:=0) (new:=2*level+2) (h:=[]) T W.lw W.lh (.inl rfl) (λ_=>⟨by show s.ws.getD 0 0<=_;omega,λl _ a b S=>by
     have b:¬2*l<=s.ws.getD 0 0:=b;have:l=level+1:=by omega
     subst this;exact ZQO tk S⟩)
    exact⟨huq,⟨g,dl⟩,trivial⟩
   |obtain -:=V38;exact⟨G,ZJ3 hl ht lw lh (.inl rfl) rfl (Nat.le_of_eq (ZAW (.inr rfl))) trivial⟩
   |exact ZDj (show X9 ⟨s.wh.ws.set 0 (2*level+2),s.wh.hs.set 0 []⟩=X9 s.wh from ZCn lw lh (.inl rfl)) (show(s.ws.set 0 (2*level+2)).getD 32 0=_ from ji _ _ ZB) rfl rfl ⟨ZgR _,trivial⟩
  ·first|(obtain -:=V39;exact⟨T,YA _,trivial⟩)|(obtain -:=V40;exact⟨G,Xp hl ht rfl (Nat.le_of_eq (ZAW (.inr rfl))) trivial⟩)|exact Yo rfl rfl rfl ⟨ZgR _,trivial⟩
 |mv word by_ stop t=>
  first|(obtain -:=V41;have hk:MOk P room N s.wh x res ser word by_ stop t:=hk)|skip
  by_cases q:s.ws.getD word 0=stop;first
  |obtain -:=V42
   ·have:out.fresh\/True:=.inr trivial;cases t with
    |leave r=>
     exact ZYi
    |gone j shards was n=>
     obtain⟨T1,_⟩:=QA;exact ZYb
    |count f ce r=>
     exact ZYb
    |serial f ce=>
     exact ZYg
  |obtain -:=V43
   ·cases t with
    |leave r=>
     obtain⟨T1,_⟩:=QA;exact ZYi
    |gone j shards was n=>
     obtain⟨T1,T2⟩:=QA;exact ZYb
    |count f ce r=>
     obtain⟨T2,_⟩:=QA;exact ZYb
    |serial f ce=>
     obtain⟨T1,_⟩:=QA;exact ZYg
  |·cases t with
    |leave r=>
     obtain⟨T2,_⟩:=QA;exact ZYi
    |gone j shards was n=>
     obtain⟨T1,T4⟩:=QA;exact ZYb
    |count f ce r=>
     obtain⟨T5,_⟩:=QA;exact ZYb
    |serial f ce=>
     obtain⟨T2,_⟩:=QA;exact ZYg
  ·exact ZYw
 |mvS word by_ stop v t=>
  have hk:MOk P room N s.wh x res ser word by_ stop t:=hk;first|(obtain -:=V46;have tok:∀(word new:Nat),word=32\/word=33->TOk ⟨s.ws.set word new,s.hs.set word []⟩/\s.ws.getD 0 0<=(s.ws.set word new).getD 0 0:=λword new hw=>ZJv T W.lw W.lh (.inr hw) (λe=>by omega);by_cases q:s.ws.getD word 0=v)|by_cases q:s.ws.getD word 0=v
  ·cases t with
   |leave r=>
    first|(obtain -:=V47;obtain⟨rfl,_⟩:=hk;have e:(if s.ws.getD 32 0=v then ((s.kc res ser).sw 32 ((v+by_) % 18446744073709551616) [],Zs.fin r) else (s.kc res ser,.on (.mv 32 by_ stop (.leave r))))=(c,out):=e)|(obtain⟨rfl,rfl,_⟩:=hk;have e:(if s.ws.getD 32 0=v then ((s.kc res ser).sw 32 ((v+JG) % 18446744073709551616) [],Zs.fin r) else (s.kc res ser,.on (.mv 32 JG stop (.leave r))))=(c,out):=e)
    rw[Zgl q]at e;injection e with e1 e2;subst e1 e2;first
    |obtain -:=V48;have:=tok 32 ((v+by_) % 18446744073709551616) (.inl rfl);exact⟨this.1,⟨g,this.2⟩,trivial⟩
    |obtain -:=V49;exact⟨G,ZJ3 hl ht lw lh (.inr (.inl rfl)) rfl (Zf6 _) trivial⟩
    |have df:1<=s.ws.getD 32 0:=df;have lo:=ZCn (w:=s.wh) (word:=32) (new:=(v+JG) % 18446744073709551616) (h:=[]) lw lh (.inr (.inl rfl));refine⟨?_,?_,trivial⟩
     ·show X9 ⟨s.wh.ws.set 32 ((v+JG) % 18446744073709551616),s.wh.hs.set 32 []⟩+0+s.ws.getD 32 0<=X9 s.wh+1+(s.ws.set 32 ((v+JG) % 18446744073709551616)).getD 32 0;rw[lC,lo];omega
     ·show(s.ws.set 32 ((v+JG) % 18446744073709551616)).getD 32 0<=s.ws.getD 32 0+1;rw[lC];omega
   |gone j shards was n=>
    first|(obtain -:=V50;obtain⟨rfl,_,gM,_,_,_,_,mt,rfl⟩:=hk;have e:(if s.ws.getD 32 0=v then ((s.kc res ser).sw 32 ((v+(18446744073709551616 - n)) % 18446744073709551616) [],Zu j shards (was+n)) else (s.kc res ser,.on (.mv 32 (18446744073709551616 - n) stop (.gone j shards was n))))=(c,out):=e)|(obtain⟨rfl,_⟩:=hk;have e:(if s.ws.getD 32 0=v then ((s.kc res ser).sw 32 ((v+by_) % 18446744073709551616) [],Zu j shards (was+n)) else (s.kc res ser,.on (.mv 32 by_ stop (.gone j shards was n))))=(c,out):=e)
    rw[Zgl q]at e;injection e with e1 e2;subst e1 e2;first
    |obtain -:=V51;have:=tok 32 ((v+by_) % 18446744073709551616) (.inl rfl);exact⟨this.1,⟨g,this.2⟩,ZE1⟩
    |obtain -:=V52;exact⟨G,ZJ2 hl ht lw lh (.inr (.inl rfl)) rfl ZCN⟩
    |have df:n<=s.ws.getD 32 0:=df;have lo:=ZCn (w:=s.wh) (word:=32) (new:=(v+(18446744073709551616 - n)) % 18446744073709551616) (h:=[]) lw lh (.inr (.inl rfl));have hp:=(ZCC (x:=x) (res:=res) (ser:=ser) (j:=j) (shards:=shards) (gone:=was+n)).1;have hq:=(ZCC (x:=x) (res:=res) (ser:=ser) (j:=j) (shards:=shards) (gone:=was+n)).2;have wL:ZEQ res=0:=Zgk (λq=>by have:=wM q;omega);refine⟨?_,?_,hq⟩
     ·show X9 ⟨s.wh.ws.set 32 ((v+(18446744073709551616 - n)) % 18446744073709551616),s.wh.hs.set 32 []⟩+ZJA x res ser (Zu j shards (was+n))+s.ws.getD 32 0<=X9 s.wh+n+(s.ws.set 32 ((v+(18446744073709551616 - n)) % 18446744073709551616)).getD 32 0;rw[lC,lo];omega
     ·show(s.ws.set 32 ((v+(18446744073709551616 - n)) % 18446744073709551616)).getD 32 0<=s.ws.getD 32 0+1;rw[lC];omega
   |count f ce r=>
    first|(obtain -:=V53;obtain⟨rfl,_⟩:=hk)|(obtain -:=V54;obtain⟨rfl,rfl,_,_,hf,_⟩:=hk)|obtain⟨rfl,rfl,_⟩:=hk
    first|(obtain -:=V55;have e:(if s.ws.getD 32 0=v then ({(s.kc res ser).sw 32 ((v+by_) % 18446744073709551616) []with res:=true},Zs.on (.put f ce r)) else (s.kc res ser,.on (.mv 32 by_ stop (.count f ce r))))=(c,out):=e)|have e:(if s.ws.getD 32 0=v then ({(s.kc res ser).sw 32 ((v+1) % 18446744073709551616) []with res:=true},Zs.on (.put f ce r)) else (s.kc res ser,.on (.mv 32 1 stop (.count f ce r))))=(c,out):=e
    rw[Zgl q]at e;injection e with e1 e2;subst e1 e2;first
    |obtain -:=V56;have:=tok 32 ((v+by_) % 18446744073709551616) (.inl rfl);exact⟨this.1,⟨g,this.2⟩,tk⟩
    |obtain -:=V57;refine⟨G,ZJ3 hl ht lw lh (.inr (.inl rfl)) rfl (Zf6 _) (show ZCI a _ G x f ce r from λho hi=>?_)⟩;obtain⟨base,b1,b2,b3,b4⟩:=(show ZCI a s.wh G x f ce r from hs) ho hi;refine⟨base,b1,b2,b3,λq9=>b4 ?_⟩;have h2:=hf.same.2.1;have q9:(s.ws.set 32 ((v+1) % 18446744073709551616)).getD f.word 0=f.v:=q9;rw[YN _ _ _ _ _ ZB,Zgk ZB]at q9;exact q9
    |have lo:=ZCn (w:=s.wh) (word:=32) (new:=(v+1) % 18446744073709551616) (h:=[]) lw lh (.inr (.inl rfl));refine⟨?_,?_,.inr rfl⟩
     ·show X9 ⟨s.wh.ws.set 32 ((v+1) % 18446744073709551616),s.wh.hs.set 32 []⟩+1+s.ws.getD 32 0<=X9 s.wh+ZEQ res+(s.ws.set 32 ((v+1) % 18446744073709551616)).getD 32 0;rw[lC,lo];omega
     ·show(s.ws.set 32 ((v+1) % 18446744073709551616)).getD 32 0<=s.ws.getD 32 0+1;rw[lC];omega
   |serial f ce=>
    first|(obtain -:=V58;obtain⟨rfl,_,_,ik,_⟩:=hk)|obtain⟨rfl,_⟩:=hk
    have e:(if s.ws.getD 33 0=v then ({(s.kc res ser).sw 33 ((v+by_) % 18446744073709551616) []with ser:=(((v+by_) % 18446744073709551616:Nat):Int)},Zs.on (Ji room res f (ZAa (Zf P x.pol) ce ((v+by_) % 18446744073709551616:Nat)).2 (ZAa (Zf P x.pol) ce ((v+by_) % 18446744073709551616:Nat)).1)) else (s.kc res ser,.on (.mv 33 by_ stop (.serial f ce))))=(c,out):=e;rw[Zgl q]at e;injection e with e1 e2;subst e1 e2;first|(obtain -:=V59;have:=tok 33 ((v+by_) % 18446744073709551616) (.inr rfl);exact⟨this.1,⟨g,this.2⟩,ZUO tk⟩)|(obtain -:=V60;exact⟨G,ZJ2 hl ht lw lh (.inr (.inr rfl)) rfl (ZGl (ZHJ ZB))⟩)|(have lo:=ZCn (w:=s.wh) (word:=33) (new:=(v+by_) % 18446744073709551616) (h:=[]) lw lh (.inr (.inr rfl));exact ZDj lo (show(s.ws.set 33 ((v+by_) % 18446744073709551616)).getD 32 0=s.ws.getD 32 0 by rw[YN _ _ _ _ _ ZB,Zgk (by decide)]) rfl rfl ZKJ)
  ·exact ZZA
 |put f ce r=>
  obtain⟨h1,h2,h3,h4⟩:=hk;first|(obtain -:=V63;obtain⟨a1,a2,a3,a4,a5⟩:=h2.same;obtain⟨v0,l,l4,ew⟩:=(show ZBY x f from tk))|(obtain -:=V64)|(obtain⟨a1,a2,a3,a4,a5⟩:=h2.same;obtain⟨v0,l,l4,ew⟩:=(show ZBY x f from tk);have iH:f.there=true\/res=true:=iH)
  have e:(if s.ws.getD f.word 0=f.v then ((s.kc res ser).sw f.word (f.v+1) (XL f.cells f.at_ f.there ce),if f.there=false then Zs.fin r else YP res r) else (s.kc res ser,.on (.find (Xw x.id) .begin)))=(c,out):=e;first|(obtain -:=V65;split at e<;>(injection e with e1 e2;subst e1))|split at e<;>(injection e with e1 e2;subst e1 e2)
  ·first
   |obtain -:=V66;next q=>
    have a5:=a5 q;have tg:=ZDy W.lw a1 a2 g;refine⟨?_,tg,by split;exact trivial;exact ZJ1⟩;show TOk ⟨s.wh.ws.set f.word (f.v+1),s.wh.hs.set f.word (XL f.cells f.at_ f.there ce)⟩;rw[ew];refine ZOv T W.lw W.lh l4 f.v (by rw[<-ew];exact q) v0 ZB (λd hd=>?_);rcases ZE0 hd with e9|hd
    ·rw[e9,h3.id]
    ·exact T.cells l _ l4 d (by show d ∈ s.wh.hs.getD (ZO l (Xw x.id)) [];rw[<-ew,a5];exact hd)
   |obtain -:=V67;next q=>exact⟨_,ZWE rm T lw lh hN hx h1 h2 h3 tk hl ht hs q rfl e2.symm⟩
   |next q=>
    have a5:=a5 q;have lp:=ZLv (w:=s.wh) (l:=l) (S:=Xw x.id) (v:=f.v) (h:=XL f.cells f.at_ f.there ce) lw lh l4 (by rw[<-ew];exact q) v0 ZB;rw[<-ew,a5]at lp;have wl:=ZPf (l:=f.cells) (i:=f.at_) (b:=f.there) (c:=ce) (λe=>by rw[h2.at_];exact ZFL (by rw[<-h2.there];exact e)) (by rw[h2.at_];exact ZKl _ _);have vE:=ji f.word (f.v+1) a2;refine⟨?_,?_,?_⟩
    ·show X9 ⟨s.wh.ws.set f.word (f.v+1),s.wh.hs.set f.word (XL f.cells f.at_ f.there ce)⟩+ZJA x res ser _+s.ws.getD 32 0<=X9 s.wh+ZEQ res+(s.ws.set f.word (f.v+1)).getD 32 0;rw[vE];by_cases ht:f.there=false
     ·rw[Zgl ht];have d9:res=true:=iH.resolve_left (by rw[ht];decide);have Cu:(XL f.cells f.at_ f.there ce).length=f.cells.length+1:=by rw[wl,ht];rfl
      show _+0+_<=_;unfold ZEQ;rw[Zgl d9];omega
     ·rw[Zgk ht];have ht:f.there=true:=by simpa using ht
      have Cu:(XL f.cells f.at_ f.there ce).length=f.cells.length:=by rw[wl,ht];rfl
      have:=(ZDW (x:=x) (res:=res) (ser:=ser) (r:=r)).1;omega
    ·show(s.ws.set f.word (f.v+1)).getD 32 0<=s.ws.getD 32 0+1;omega
    ·show CKO res _;split
     ·exact trivial
     ·exact(ZDW (x:=x) (res:=res) (ser:=ser) (r:=r)).2
  ·first|(obtain -:=V68;exact⟨T,YA _,trivial⟩)|(obtain -:=V69;subst e2;exact⟨G,Xp hl ht rfl (Zf6 _) trivial⟩)|exact Yo rfl rfl rfl ⟨Zf6 _,trivial⟩
 |peek ce=>
  injection e with e1 e2;subst e1 e2;first|(obtain -:=V70;exact⟨T,YA _,trivial⟩)|(obtain -:=V71;exact⟨G,Xp hl ht rfl (Nat.le_of_eq (ZAW (.inr rfl))) trivial⟩)|exact Yo rfl rfl rfl ⟨ZgR _,trivial⟩
 |allow f ce=>
  first|(obtain -:=V72;obtain⟨h1,h2,rfl⟩:=hk;have e:(s.kc res ser,if (Yg (Zf P x.pol) (YV f.cells x.pol x.key) s.clk x.n).1.granted=false\/x.n=0 then YP res (Yg (Zf P x.pol) (YV f.cells x.pol x.key) s.clk x.n).1 else .on (Ji room res f (Yg (Zf P x.pol) (YV f.cells x.pol x.key) s.clk x.n).2 (Yg (Zf P x.pol) (YV f.cells x.pol x.key) s.clk x.n).1))=(c,out):=e)|have e:(s.kc res ser,if (Yg (Zf P x.pol) ce s.clk x.n).1.granted=false\/x.n=0 then YP res (Yg (Zf P x.pol) ce s.clk x.n).1 else .on (Ji room res f (Yg (Zf P x.pol) ce s.clk x.n).2 (Yg (Zf P x.pol) ce s.clk x.n).1))=(c,out):=e
  injection e with e1 e2;subst e1;split at e2<;>subst e2
  ·first
   |obtain -:=V73;exact⟨T,YA _,ZJ1⟩
   |obtain -:=V74;next q=>
    have z:ZCM a b x (Yg (Zf P x.pol) (YV f.cells x.pol x.key) s.clk x.n).1=0:=by
     rcases q with q|q
     ·exact ZAW (.inr q)
     ·unfold ZCM;split
      ·rw[q];rfl
      ·rfl
    refine⟨G,Xp hl ht rfl ?_ ?_⟩
    ·have:ZMl a b x (YP res (Yg (Zf P x.pol) (YV f.cells x.pol x.key) s.clk x.n).1)=0:=by
      unfold YP;split<;>exact z
     rw[this];exact ZgR _
    ·unfold YP;split<;>trivial
   |exact Yo rfl rfl rfl ZDW
  ·first
   |obtain -:=V75;exact⟨T,YA _,ZUO tk⟩
   |obtain -:=V76;next q=>
    obtain⟨q1,q2⟩:=not_or.1 q;have hq:=ZLH (b:=b) hp T hN hx h2 tk hl (by simpa using q1) q2;exact⟨G,ZC0 hl ht rfl (ZGl hq)⟩
   |exact Yo rfl rfl rfl ZKJ
 |evFirst=>
  injection e with e1 e2;subst e1 e2;first|(obtain -:=V77;exact⟨T,YA _,trivial⟩)|(obtain -:=V78;exact⟨G,Xp hl ht rfl (Zf6 _) trivial⟩)|exact Yo rfl rfl rfl ⟨Zf6 _,trivial⟩
 |evScan j shards gone word v cells=>
  exact ZYs
 |evSwap j shards gone word v rest n=>
  exact ZYz):p:=h
theorem ZQe{s:Z9}{c:KC}(hN:N+1<=4611686018427387903)(h:ZCZ P room N M s)(T:TOk s.wh)(tk:TK s.wh x k)(hc:s.call who=.run x res ser k)(e:Z6 P room x (s.kc res ser) k=(c,out))(g:ZAj s.wh c.wh): TOk c.wh/\ZDo s.wh c.wh/\ZIN c.wh x out:=by
 obtain⟨V1,V3,V5,V7,V9,V11,V13,V14,V16,V18,V19,V21,V24,V26,V28,V30,V32,V33,V35,V37,V39,V42,V44,V46,V47,V48,V51,V53,V55,V56,V59,V61,V63,V66,V68,V70,V73,V75,V77,V80,V82,V84,V85,V87⟩:=QA;exact QC
structure ZDE (s:Z9):Prop where
 t:TOk s.wh
 run:∀who x res ser k,s.call who=.run x res ser k->TK s.wh x k
theorem ZNj{s:Z9}{c:KC}(h:ZCZ P room N M s)(t:ZDE s)(T:TOk c.wh)(g:ZDo s.wh c.wh)(o:ZIN c.wh x out):ZDE ((s.of c).put who (ZQE x c out)):=by
 refine⟨T,λb x' res' ser' k' hb=>?_⟩;by_cases e:b=who
 ·subst e;rw[Zx]at hb;cases out with
  |fin r=>cases hb
  |on k2=>cases hb;exact o
 ·rw[Z0 _ _ e]at hb;exact(t.run b x' res' ser' k' hb).grow g (h.run b x' res' ser' k' hb).kont
theorem ZDb (P room)(s:Z9)(who)(hc:s.call who=.run x res ser k):(YM P room s who).1=((s.of (Z6 P room x (s.kc res ser) k).1).put who (ZQE x (Z6 P room x (s.kc res ser) k).1 (Z6 P room x (s.kc res ser) k).2)):=Q2
theorem ZNi{s:Z9}(hP:∀p ∈ P,Yt p)(hN:N+1<=4611686018427387903)(hM:M+1<=5000)(h:ZCZ P room N M s)(t:ZDE s)(hc:s.call who=.run x res ser k):ZDE (YM P room s who).1:=by
 have hs:=ZGs (c:=(Z6 P room x (s.kc res ser) k).1) (out:=(Z6 P room x (s.kc res ser) k).2) hP hN hM h hc rfl;obtain⟨a,b,o⟩:=ZQe hN h t.t (t.run who x res ser k hc) hc rfl hs.g;rw[ZDb P room s who hc];exact ZNj h t a b o
theorem ZL0 {s:Z9}(t:ZDE s):ZDE (s.put who (.run x false 0 (JD x))):=by
 refine⟨t.t,λb x' res' ser' k' hb=>?_⟩;by_cases e:b=who
 ·subst e;rw[Zx]at hb;cases hb;unfold JD
  split
  ·exact trivial
  ·split<;>exact trivial
 ·rw[Z0 _ _ e]at hb;exact t.run b x' res' ser' k' hb
theorem ZNk:ZDE Jd:=by
 have e:∀i,Jd.wh.hs.getD i []=[]:=λi=>by
  show(List.replicate 34 ([]:List ZL)).getD i []=[];rw[Zez,Ze8]
  split<;>rfl
 have e2:∀i,Jd.wh.ws.getD i 0=if i=1 then 1 else 0:=λi=>by
  show((List.replicate 34 0).set 1 1).getD i 0=_;rw[YN _ _ _ _ _ ZXz]
  split
  ·rfl
  ·rw[Zez,Ze8]
   split<;>rfl
 have iQ:Zb=4611686018427387904:=rfl;refine⟨⟨λl S _ c hc=>?_,λl S _ h=>?_,λl S _ h=>?_,λl S _ h=>?_⟩,λwho x res ser k hc=>(by cases hc)⟩
 ·unfold Xt at hc;rw[e]at hc;cases hc
 ·unfold wat at h;rw[e2]at h;have:2<=ZO (l+1) S:=by
   unfold ZO;have:1<=2 ^ l:=ZgM;have:2 ^ (l+1)=2 ^ l*2:=ZgP _ _;omega
  rw[Zgk ZB]at h;exact absurd rfl h
 ·have h:2*l<=0:=h;have:l=0:=by omega
  subst this;unfold wat;rw[e2,show ZO 0 S=1 by unfold ZO;omega,Zgl rfl];decide
 ·unfold wat at h;rw[e2]at h
  split at h<;>omega
def Xq {ι:Type}(L:List ι)(f:ι->Nat):Nat:=(L.map f).sum
theorem Yd {ι:Type}(a:ι)(L)(f:ι->Nat):Xq (a::L) f=f a+Xq L f:=rfl
theorem ZCf {ι:Type}{L:List ι}{f g:ι->Nat}(h:∀i ∈ L,f i=g i):Xq L f=Xq L g:=by
 induction L with
 |nil=>rfl
 |cons a L ih=>rw[Yd,Yd,h a (ZfQ ..),ih (λi hi=>h i (ZfP _ hi))]
theorem ZHL {ι:Type}{L:List ι}{f g:ι->Nat}{a:ι}(hn:L.Nodup)(ha:a ∈ L)(h:∀i ∈ L,i≠a->g i=f i):Xq L g+f a=Xq L f+g a:=by
 induction L with
 |nil=>cases ha
 |cons b L ih=>
  obtain⟨hb,hn⟩:=Zfc.1 hn;rw[Yd,Yd];rcases ZfO.1 ha with rfl|ha
  ·have:=ZCf (L:=L) (f:=g) (g:=f) (λi hi=>h i (ZfP _ hi) (λe=>hb (e ▸ hi)));omega
  ·have:=ih hn ha (λi hi=>h i (ZfP _ hi));have:=h b (ZfQ ..) (λe=>hb (e ▸ ha));omega
theorem ZO1 {ι:Type}[DecidableEq ι]{L:List ι}(hn:L.Nodup):∀(K:List ι) (f g:ι->Nat),K.Nodup->(∀a ∈ K,a ∈ L)->(∀i ∈ L,i ∉ K->g i=f i)->Xq L g+Xq K f=Xq L f+Xq K g
 |[],f,g,_,_,h=>by rw[ZCf (λi hi=>h i hi Zfd)];rfl
 |a::K,f,g,hk,hs,h=>by
  obtain⟨ha,hk⟩:=Zfc.1 hk
  have i1:=ZO1 hn K (λi=>if i=a then g a else f i) g hk (λb hb=>hs b (ZfP _ hb)) (λi hi Ez=>by
   by_cases e:i=a
   ·subst e;exact(Zgl rfl).symm
   ·rw[Zgk e];exact h i hi (λq=>(ZfO.1 q).elim e Ez))
  have i2:Xq L (λi=>if i=a then g a else f i)+f a=Xq L f+g a:=(ZHL (L:=L) (f:=f) (g:=λi=>if i=a then g a else f i) (a:=a) hn (hs a (ZfQ ..)) (λi _ e=>Zgk e)).trans (Zge (Xq L f+·) (Zgl rfl));have i3:Xq K (λi=>if i=a then g a else f i)=Xq K f:=ZCf (λi hi=>Zgk (λe:i=a=>ha (e ▸ hi)));rw[i3]at i1;rw[Yd,Yd];omega
def ZMm:List (Nat × Nat):=(List.range 5).flatMap λl=>(List.range (2 ^ l)).map λS=>(l,S)
theorem ZIL:ZMm.Nodup:=by decide
theorem ZCH{l:Nat}(hl:l<=4)(hS:S<2 ^ l):(l,S) ∈ ZMm:=ZfS.2 ⟨l,ZfZ.2 ZB,ZfT.2 ⟨S,ZfZ.2 hS,rfl⟩⟩
theorem ZGz {p:Nat × Nat}(h:p ∈ ZMm):p.1<=4/\p.2<2 ^ p.1:=by
 obtain⟨l,hl,h⟩:=ZfS.1 h;obtain⟨S,hS,rfl⟩:=ZfT.1 h;have:=ZfZ.1 hl;exact⟨by show l<=4;omega,ZfZ.1 hS⟩
def con (s:WH):Nat->Nat->Nat
 |0,S=>if wat s 0 S=0\/Zb<=wat s 0 S then 0 else (Xt s 0 S).length
 |l+1,S=>if wat s (l+1) S=0 then (if Zb<=wat s l S then (JU (Xt s l S) (l+1) (S % 2 ^ (l+1))).length else 0) else if Zb<=wat s (l+1) S then 0 else (Xt s (l+1) S).length
theorem ZBI (s S):con s 0 S=if wat s 0 S=0\/Zb<=wat s 0 S then 0 else (Xt s 0 S).length:=rfl
theorem Xo (s l S):con s (l+1) S=if wat s (l+1) S=0 then (if Zb<=wat s l S then (JU (Xt s l S) (l+1) (S % 2 ^ (l+1))).length else 0) else if Zb<=wat s (l+1) S then 0 else (Xt s (l+1) S).length:=rfl
def X9 (s:WH):Nat:=Xq ZMm λp=>con s p.1 p.2
def pend:ZAP->Nat
 |.idle=>0
 |.run _ _ _ (.mv _ _ _ (.leave _))=>1
 |.run _ _ _ (.mvS _ _ _ _ (.leave _))=>1
 |.run _ _ _ (.mv _ _ _ (.gone _ _ _ n))=>n
 |.run _ _ _ (.mvS _ _ _ _ (.gone _ _ _ n))=>n
 |.run _ res _ _=>if res=true then 1 else 0
def ZHi (s:Z9):Nat:=Xq (List.range 64) λi=>pend (s.call i)
theorem ZFr {s:Z9}(c)(hw:who<64):ZHi (s.put who c)+pend (s.call who)=ZHi s+pend c:=by
 have:=ZHL (L:=List.range 64) (f:=λi=>pend (s.call i)) (g:=λi=>pend ((s.put who c).call i)) (a:=who) List.nodup_range (ZfZ.2 hw) (λi _ e=>by rw[Z0 _ _ e]);rw[Zx]at this;exact this
theorem ZDi{l:Nat}(h1:wat s l S≠0)(h2:wat s l S<Zb):con s l S=(Xt s l S).length:=by
 cases l with
 |zero=>exact Zgk (λq=>q.elim h1 (λq=>by omega))
 |succ l=>exact(Zgk h1).trans (Zgk ZB)
theorem ZRU{l:Nat}(h2:Zb<=wat s l S):con s l S=0:=by
 have iQ:Zb=4611686018427387904:=rfl;cases l with
 |zero=>exact Zgl (.inr h2)
 |succ l=>exact(Zgk ZB).trans (Zgl h2)
theorem ZQS(h1:∀l S,l<=4->wat s' l S=wat s l S)(h2:∀l S,l<=4->Xt s' l S=Xt s l S):X9 s'=X9 s:=ZCf λp hp=>by
 obtain⟨l,S⟩:=p;have a:=(ZGz hp).1;have a:l<=4:=a;cases l with
 |zero=>show con s' 0 S=con s 0 S;rw[ZBI,ZBI,h1 0 S a,h2 0 S a]
 |succ l=>show con s' (l+1) S=con s (l+1) S;rw[Xo,Xo,h1 _ S a,h2 _ S a,h1 l S ZB,h2 l S ZB]
theorem ZSz{l:Nat}(hl:l<=4)(hS:S<2 ^ l)(h0:wat s l S≠0)(Ft:wat s' l S≠0)(hf:wat s l S<Zb)(lS:wat s' l S<Zb)(W:∀l' S',l'<=4->ZO l' S'≠ZO l S->wat s' l' S'=wat s l' S'/\Xt s' l' S'=Xt s l' S'):X9 s'+(Xt s l S).length=X9 s+(Xt s' l S).length:=by
 have:=ZHL (L:=ZMm) (f:=λp=>con s p.1 p.2) (g:=λp=>con s' p.1 p.2) (a:=(l,S)) ZIL (ZCH hl hS) (λp hp ag=>by
  obtain⟨l',S'⟩:=p;obtain⟨a,b⟩:=ZGz hp;have a:l'<=4:=a;have b:S'<2 ^ l':=b
  have ne:ZO l' S'≠ZO l S:=λe=>ag (by
   obtain⟨rfl,e2⟩:=JZ e;rw[ZgF b,ZgF hS]at e2;rw[e2])
  obtain⟨w1,w2⟩:=W l' S' a ne;cases l' with
  |zero=>show con s' 0 S'=con s 0 S';rw[ZBI,ZBI,w1,w2]
  |succ l'=>
   show con s' (l'+1) S'=con s (l'+1) S';rw[Xo,Xo,w1,w2];by_cases e:ZO l' S'=ZO l S
   ·have q1:wat s l' S'=wat s l S:=by unfold wat;rw[e]
    have q2:wat s' l' S'=wat s' l S:=by unfold wat;rw[e]
    rw[q1,q2,Zgk (show ¬Zb<=wat s l S by omega),Zgk (show ¬Zb<=wat s' l S by omega)]
   ·obtain⟨w3,w4⟩:=W l' S' ZB e;rw[w3,w4])
 have e1:con s l S=(Xt s l S).length:=ZDi h0 hf;have e2:con s' l S=(Xt s' l S).length:=ZDi Ft lS;show Xq ZMm _+_=Xq ZMm _+_;rw[<-e1,<-e2];exact this
theorem ZVU{l:Nat}(hS:S<2 ^ l)(hc:∀c ∈ h,Xw c.id % 2 ^ l=S):(JU h (l+1) S).length+(JU h (l+1) (S+2 ^ l)).length=h.length:=by
 induction h with
 |nil=>rfl
 |cons c h ih=>
  have i:=ih (λd hd=>hc d (ZfP _ hd));have e:=hc c (ZfQ ..);have p:2 ^ (l+1)=2 ^ l*2:=ZgP _ _;have q:Xw c.id % 2 ^ (l+1)=S\/Xw c.id % 2 ^ (l+1)=S+2 ^ l:=by
   have a:Xw c.id % 2 ^ (l+1) % 2 ^ l=Xw c.id % 2 ^ l:=Nat.mod_mod_of_dvd _ ⟨2,p⟩;have b:=ZgG (Xw c.id) (y:=2 ^ (l+1)) ZgM;rw[e]at a;by_cases q:Xw c.id % 2 ^ (l+1)<2 ^ l
   ·rw[ZgF q]at a;exact .inl a
   ·rw[Nat.mod_eq_sub_mod ZB,ZgF ZB]at a;exact .inr ZB
  unfold JU ZA9 at i ⊢;rcases q with q|q
  ·rw[List.filter_cons_of_pos (by simpa using q),List.filter_cons_of_neg (by simp;omega)];simp only[ZfF];omega
  ·rw[List.filter_cons_of_neg (by simp;omega),List.filter_cons_of_pos (by simpa using q)];simp only[ZfF];omega
theorem ZQT{l:Nat}(T:TOk s)(hl:l<=3)(h0:wat s (l+1) S=0)(hp:Zb<=wat s l S)(h1:wat s' (l+1) S=1)(hh:Xt s' (l+1) S=JU (Xt s l S) (l+1) (S % 2 ^ (l+1)))(W:∀l' S',l'<=4->ZO l' S'≠ZO (l+1) S->wat s' l' S'=wat s l' S'/\Xt s' l' S'=Xt s l' S'):X9 s'=X9 s:=ZCf λp jt=>by
 obtain⟨l',S'⟩:=p;obtain⟨a,b⟩:=ZGz jt;have a:l'<=4:=a;have b:S'<2 ^ l':=b;have iQ:Zb=4611686018427387904:=rfl;show con s' l' S'=con s l' S';by_cases e:ZO l' S'=ZO (l+1) S
 ·obtain⟨rfl,e2⟩:=JZ e;have up:=ZHh e;have e3:∀t:WH,wat t (l+1) S'=wat t (l+1) S/\Xt t (l+1) S'=Xt t (l+1) S/\wat t l S'=wat t l S/\Xt t l S'=Xt t l S:=λt=>⟨by unfold wat;rw[e],by unfold Xt;rw[e],by unfold wat;rw[up],by unfold Xt;rw[up]⟩;obtain⟨a1,a2,a3,a4⟩:=e3 s;obtain⟨b1,b2,b3,b4⟩:=e3 s';rw[Xo,Xo,a1,a3,a4,b1,b2,h0,h1,hh,Zgk ZB,Zgk ZB,Zgl rfl,Zgl hp,e2]
 ·obtain⟨w1,w2⟩:=W l' S' a e;cases l' with
  |zero=>rw[ZBI,ZBI,w1,w2]
  |succ l'=>
   rw[Xo,Xo,w1,w2];by_cases e4:ZO l' S'=ZO (l+1) S
   ·have q1:wat s l' S'=0:=by rw[<-h0];unfold wat;rw[e4]
    have q2:wat s' l' S'=1:=by rw[<-h1];unfold wat;rw[e4]
    rw[q1,q2,Zgk (show ¬Zb<=0 by omega),Zgk (show ¬Zb<=1 by omega)]
   ·obtain⟨w3,w4⟩:=W l' S' ZB e4;rw[w3,w4]
theorem ZLw{l:Nat}(T:TOk s)(hl:l<=3)(hS:S<2 ^ l)(h0:wat s l S≠0)(hf:wat s l S<Zb)(lS:Zb<=wat s' l S)(hh:Xt s' l S=Xt s l S)(W:∀l' S',l'<=4->ZO l' S'≠ZO l S->wat s' l' S'=wat s l' S'/\Xt s' l' S'=Xt s l' S'):X9 s'=X9 s:=by
 have p:2 ^ (l+1)=2 ^ l*2:=ZgP _ _;have zX:∀S',ZO (l+1) S'≠ZO l S:=λS' e=>by have:=(JZ e).1;omega
 have z:∀S',ZO l S'=ZO l S->wat s (l+1) S'=0:=λS' e=>by
  by_cases q:wat s (l+1) S'=0
  ·exact q
  ·have:=T.up l S' hl q;have e2:wat s l S'=wat s l S:=by unfold wat;rw[e]
   omega
 have oU:ZO l (S+2 ^ l)=ZO l S:=by unfold ZO;rw[Nat.add_mod_right]
 have pX:∀t:WH,wat t l (S+2 ^ l)=wat t l S/\Xt t l (S+2 ^ l)=Xt t l S:=λt=>⟨by unfold wat;rw[oU],by unfold Xt;rw[oU]⟩;have on:=ZO1 (L:=ZMm) ZIL [(l,S),(l+1,S),(l+1,S+2 ^ l)] (λp=>con s p.1 p.2) (λp=>con s' p.1 p.2)
  (by
   have:1<=2 ^ l:=ZgM;refine Zfc.2 ⟨λh=>?_,Zfc.2 ⟨λh=>?_,Zfc.2 ⟨Zfd,List.nodup_nil⟩⟩⟩
   ·rcases ZfO.1 h with h|h
    ·injection h with h1 h2;omega
    ·rcases ZfO.1 h with h|h
     ·injection h with h1 h2;omega
     ·cases h
   ·rcases ZfO.1 h with h|h
    ·injection h with h1 h2;omega
    ·cases h)
  (λa ha=>by
   rcases ZfO.1 ha with rfl|ha
   ·exact ZCH ZB hS
   ·rcases ZfO.1 ha with rfl|ha
    ·exact ZCH ZB ZB
    ·rcases ZfO.1 ha with rfl|ha
     ·exact ZCH ZB ZB
     ·cases ha)
  (λi hi hn=>by
   obtain⟨l',S'⟩:=i;obtain⟨a,b⟩:=ZGz hi;have a:l'<=4:=a;have b:S'<2 ^ l':=b
   have ne:ZO l' S'≠ZO l S:=λe=>hn (by
    obtain⟨rfl,e2⟩:=JZ e;rw[ZgF b,ZgF hS]at e2;subst e2;exact ZfQ ..)
   obtain⟨w1,w2⟩:=W l' S' a ne;show con s' l' S'=con s l' S';cases l' with
   |zero=>rw[ZBI,ZBI,w1,w2]
   |succ l'=>
    rw[Xo,Xo,w1,w2];by_cases e:ZO l' S'=ZO l S
    ·exact absurd (by
      obtain⟨rfl,e2⟩:=JZ e;rw[ZgF hS]at e2;have q:S'=S\/S'=S+2 ^ l':=by
       by_cases q:S'<2 ^ l'
       ·rw[ZgF q]at e2;exact .inl e2
       ·rw[Nat.mod_eq_sub_mod ZB,ZgF ZB]at e2;exact .inr ZB
      rcases q with rfl|rfl
      ·exact ZfP _ (ZfQ ..)
      ·exact ZfP _ (ZfP _ (ZfQ ..))) hn
    ·obtain⟨w3,w4⟩:=W l' S' ZB e;rw[w3,w4])
 have c0:con s l S=(Xt s l S).length:=ZDi h0 hf;have c1:con s (l+1) S=0:=by rw[Xo,z S rfl,Zgl rfl,Zgk ZB]
 have c2:con s (l+1) (S+2 ^ l)=0:=by rw[Xo,z _ oU,Zgl rfl,(pX s).1,Zgk ZB]
 have d0:con s' l S=0:=ZRU lS;have d1:con s' (l+1) S=(JU (Xt s l S) (l+1) S).length:=by
  rw[Xo,(W (l+1) S ZB (zX S)).1,z S rfl,Zgl rfl,Zgl lS,hh,ZgF ZB]
 have d2:con s' (l+1) (S+2 ^ l)=(JU (Xt s l S) (l+1) (S+2 ^ l)).length:=by
  rw[Xo,(W (l+1) _ ZB (zX _)).1,z _ oU,Zgl rfl,(pX s').1,Zgl lS,(pX s').2,hh,ZgF ZB]
 have ct:=ZVU (h:=Xt s l S) hS (λc hc=>by rw[T.cells l S ZB c hc,ZgF hS]);rw[Yd,Yd,Yd,Yd,Yd,Yd]at on;have on:X9 s'+(con s l S+(con s (l+1) S+(con s (l+1) (S+2 ^ l)+0)))=X9 s+(con s' l S+(con s' (l+1) S+(con s' (l+1) (S+2 ^ l)+0))):=on;omega
def ZEQ (res:Bool):Nat:=if res=true then 1 else 0
def ZJA (x:ZW)(res:Bool)(ser:Int):Zs->Nat
 |.on k=>pend (.run x res ser k)
 |.fin _=>0
def CKO (res:Bool):Zs->Prop
 |.on (.put f _ _)=>f.there=true\/res=true
 |_=>True
def PO (x:ZW)(res:Bool)(ser:Int)(out:Zs):Prop:=ZJA x res ser out<=ZEQ res/\CKO res out
theorem ZDW:PO x res ser (YP res r):=by
 unfold YP
 split
 ·next h=>exact⟨by show 1<=ZEQ res;unfold ZEQ;rw[Zgl h];exact Zf6 _,trivial⟩
 ·exact⟨ZgR _,trivial⟩
theorem ZKJ:PO x res ser (.on (Ji room res f c r)):=by
 unfold Ji
 split
 ·next h=>exact⟨Zf6 _,h⟩
 ·exact⟨Zf6 _,trivial⟩
theorem ZWO:PO x res ser (Xd p room res ser f c):=by
 unfold Xd
 split
 ·exact ZDW
 ·split
  ·exact ZKJ
  ·exact⟨Zf6 _,trivial⟩
theorem ZCC:PO x res ser (Zu j shards gone):=by
 unfold Zu
 split
 ·exact⟨ZgR _,trivial⟩
 ·exact⟨Zf6 _,trivial⟩
theorem ZSi:PO x res ser (ZAq P room x res ser word v l):=by
 unfold ZAq
 dsimp only
 split
 ·exact⟨Zf6 _,trivial⟩
 ·split
  ·exact ZWO
  ·split
   ·split
    ·exact⟨ZgR _,trivial⟩
    ·exact ZKJ
   ·split
    ·exact⟨ZgR _,trivial⟩
    ·exact⟨Zf6 _,trivial⟩
theorem ZHg:PO x res ser (Yx P room x res ser sum word v l t):=by
 unfold Yx
 split
 ·exact⟨Zf6 _,trivial⟩
 ·cases t with
  |begin=>exact ZSi
  |evict j shards gone=>
   unfold ZEN
   dsimp only
   split
   ·exact ZCC
   ·exact⟨Zf6 _,trivial⟩
theorem ZKK:PO x res ser (.on (XM level i)):=by unfold XM;split<;>exact⟨Zf6 _,trivial⟩
theorem ZLh{t:ZAQ}:PO x res ser (.on (Je l t)):=by cases t<;>exact⟨Zf6 _,trivial⟩
theorem ZHf{t:Jk}:PO x res ser (XR P room x res ser word v l t):=by
 cases t with
 |find sum t=>
  unfold XR
  dsimp only
  split
  ·exact⟨Zf6 _,trivial⟩
  ·exact ZHg
 |move1 lv i holds=>exact⟨Zf6 _,trivial⟩
 |move2 lv i=>exact ZKK
structure ZUI (w:WH)(c:KC)(x:ZW)(res:Bool)(ser:Int)(k:YX)(out:Zs):Prop where
 le:X9 c.wh+ZJA x c.res c.ser out+w.ws.getD 32 0<=X9 w+pend (.run x res ser k)+c.ws.getD 32 0
 top:c.ws.getD 32 0<=w.ws.getD 32 0+1
 put:CKO c.res out
theorem Yo{c:KC}(hw:c.wh=w)(hr:c.res=res)(hk:pend (.run x res ser k)=ZEQ res)(h:PO x c.res c.ser out):ZUI w c x res ser k out:=by
 subst hw hr;exact⟨by rw[hk];show X9 c.wh+_+c.ws.getD 32 0<=X9 c.wh+_+c.ws.getD 32 0;have:=h.1;omega,Zf7 _,h.2⟩
theorem ZDj{c:KC}(hl:X9 c.wh=X9 w)(h3:c.ws.getD 32 0=w.ws.getD 32 0)(hr:c.res=res)(hk:pend (.run x res ser k)=ZEQ res)(h:PO x c.res c.ser out):ZUI w c x res ser k out:=by
 subst hr;exact⟨by rw[hk,hl,h3];have:=h.1;omega,by omega,h.2⟩
theorem ZGk (s l S):wat s l (S % 2 ^ l)=wat s l S/\Xt s l (S % 2 ^ l)=Xt s l S:=⟨by unfold wat;rw[ZB4],by unfold Xt;rw[ZB4]⟩
theorem ZHO{l:Nat}(hl:w.ws.length=34)(hh:w.hs.length=34)(l4:l<=4):∀l' S',l'<=4->ZO l' S'≠ZO l S->wat ⟨w.ws.set (ZO l S) new,w.hs.set (ZO l S) h⟩ l' S'=wat w l' S'/\Xt ⟨w.ws.set (ZO l S) new,w.hs.set (ZO l S) h⟩ l' S'=Xt w l' S':=λl' S' _ ne=>by
 obtain⟨a,b⟩:=ZBt (w:=w) (l:=l) (S:=S) (l':=l') (S':=S') (new:=new) (h:=h) hl hh l4;rw[a,b,Zgk ne,Zgk ne];exact⟨rfl,rfl⟩
theorem ZCn(hl:w.ws.length=34)(hh:w.hs.length=34)(h1:word=0\/word=32\/word=33):X9 ⟨w.ws.set word new,w.hs.set word h⟩=X9 w:=ZQS (λl S h4=>by
  have p:=Xz (shard:=S) h4;show(w.ws.set word new).getD (ZO l S) 0=_;rw[YN _ _ _ _ _ ZB,Zgk ZB];rfl) (λl S h4=>by
  have p:=Xz (shard:=S) h4;show(w.hs.set word h).getD (ZO l S) []=_;rw[YN _ _ _ _ _ ZB,Zgk ZB];rfl)
theorem ZLv{l:Nat}(hl:w.ws.length=34)(hh:w.hs.length=34)(l4:l<=4)(hv:w.ws.getD (ZO l S) 0=v)(h0:v≠0)(hf:v+1<Zb):X9 ⟨w.ws.set (ZO l S) (v+1),w.hs.set (ZO l S) h⟩+(w.hs.getD (ZO l S) []).length=X9 w+h.length:=by
 have hS:=ZgG S (y:=2 ^ l) ZgM;obtain⟨a,b⟩:=ZBt (w:=w) (l:=l) (S:=S) (l':=l) (S':=S) (new:=v+1) (h:=h) hl hh l4;rw[Zgl rfl]at a b;have m:=ZGk w l S;have m':=ZGk ⟨w.ws.set (ZO l S) (v+1),w.hs.set (ZO l S) h⟩ l S;have e:wat w l S=v:=hv;have:=ZSz (s:=w) (s':=⟨w.ws.set (ZO l S) (v+1),w.hs.set (ZO l S) h⟩) (l:=l) (S:=S % 2 ^ l) l4 hS (by rw[m.1];omega) (by rw[m'.1,a];omega) (by rw[m.1];omega) (by rw[m'.1,a];omega) (λl' S' h1 h2=>ZHO hl hh l4 l' S' h1 (by rw[ZB4]at h2;exact h2));rw[m.2,m'.2,b]at this;exact this
theorem ZPf{b:Bool}(h:b=true->i<l.length)(hi:i<=l.length):(XL l i b c).length=l.length+(if b=true then 0 else 1):=by
 unfold XL
 split
 ·rw[ZfK];rfl
 ·simp;omega
theorem ZNo{s:Z9}{c:KC}(hN:N+1<=4611686018427387903)(h:ZCZ P room N M s)(T:TOk s.wh)(tk:TK s.wh x k)(df:pend (.run x res ser k)<=s.ws.getD 32 0)(mi:s.ws.getD 32 0<=N)(iH:CKO res (.on k))(wM:res=true->x.op<=3)(hc:s.call who=.run x res ser k)(e:Z6 P room x (s.kc res ser) k=(c,out)):ZUI s.wh c x res ser k out:=by
 obtain⟨V4,V50⟩:=QA;exact QC
theorem ZS5{s:Z9}{c:KC}(hk:ZBn P room N w x res ser k)(e:Z6 P room x (s.kc res ser) k=(c,out)):c.res=res\/x.op<=3:=by
 have e1:(Z6 P room x (s.kc res ser) k).1=c:=Zge Prod.fst e;subst e1;cases k with
 |frzS word v holds t=>left;unfold Z6;dsimp only;split<;>rfl
 |halfS level shard holds t=>left;unfold Z6;dsimp only;split<;>rfl
 |splitS d=>left;unfold Z6;dsimp only;split<;>rfl
 |moveEnd level=>left;unfold Z6;dsimp only;split<;>rfl
 |put f ce r=>left;unfold Z6;dsimp only;split<;>rfl
 |evSwap j shards gone word v rest n=>left;unfold Z6;dsimp only;split<;>rfl
 |mvS word by_ stop v t=>
  cases t with
  |count f ce r=>exact .inr hk.2.2.2.1
  |leave r=>left;unfold Z6;dsimp only;split<;>rfl
  |gone j shards was n=>left;unfold Z6;dsimp only;split<;>rfl
  |serial f ce=>left;unfold Z6;dsimp only;split<;>rfl
 |_=>exact .inl rfl
structure ZRz (N:Nat)(s:Z9):Prop where
 le:X9 s.wh+ZHi s<=s.ws.getD 32 0
 top:s.ws.getD 32 0<=N
 put:∀who x res ser k,s.call who=.run x res ser k->CKO res (.on k)
 res:∀who x res ser k,s.call who=.run x res ser k->res=true->x.op<=3
theorem ZO8 {s:Z9}(hw:who<64):pend (s.call who)<=ZHi s:=by
 have:=ZFr (s:=s) (who:=who) .idle hw;have:pend ZAP.idle=0:=rfl;omega
theorem ZQl{s:Z9}(hN:N+1<=4611686018427387903)(hw:who<64)(h:ZCZ P room N M s)(t:ZDE s)(q:ZRz N s)(hc:s.call who=.run x res ser k):ZRz (N+1) (YM P room s who).1:=by
 have hp:=ZO8 (s:=s) hw;rw[hc]at hp;have bM:=ZNo (c:=(Z6 P room x (s.kc res ser) k).1) (out:=(Z6 P room x (s.kc res ser) k).2) hN h t.t (t.run who x res ser k hc) (by have:=q.le;omega) q.top (q.put who x res ser k hc) (q.res who x res ser k hc) hc rfl;have jN:=ZS5 (c:=(Z6 P room x (s.kc res ser) k).1) (out:=(Z6 P room x (s.kc res ser) k).2) (h.run who x res ser k hc).kont rfl;rw[ZDb P room s who hc];revert bM jN;generalize (Z6 P room x (s.kc res ser) k).1=c;generalize (Z6 P room x (s.kc res ser) k).2=out;intro bM jN;have pp:=ZFr (s:=s.of c) (who:=who) (ZQE x c out) hw;have e1:ZHi (s.of c)=ZHi s:=rfl;have e2:pend ((s.of c).call who)=pend (.run x res ser k):=Zge pend hc;have e3:pend (ZQE x c out)=ZJA x c.res c.ser out:=by cases out<;>rfl
 rw[e1,e2,e3]at pp;have ql:=q.le;have h1:X9 c.wh+ZJA x c.res c.ser out+s.ws.getD 32 0<=X9 s.wh+pend (.run x res ser k)+c.ws.getD 32 0:=bM.le;refine⟨?_,?_,λb x' res' ser' k' hb=>?_,λb x' res' ser' k' hb hr=>?_⟩
 ·show X9 c.wh+_<=c.ws.getD 32 0;omega
 ·show c.ws.getD 32 0<=N+1;have:=bM.top;have h2:c.ws.getD 32 0<=s.ws.getD 32 0+1:=this;have:=q.top;omega
 ·by_cases e:b=who
  ·subst e;rw[Zx]at hb;cases out with
   |fin r=>cases hb
   |on k2=>cases hb;exact bM.put
  ·rw[Z0 _ _ e]at hb;exact q.put b x' res' ser' k' hb
 ·by_cases e:b=who
  ·subst e;rw[Zx]at hb;cases out with
   |fin r=>cases hb
   |on k2=>
    cases hb;rcases jN with z|z
    ·exact q.res b x res ser k hc (by rw[<-z];exact hr)
    ·exact z
  ·rw[Z0 _ _ e]at hb;exact q.res b x' res' ser' k' hb hr
theorem ZNs{s:Z9}(hw:who<64)(q:ZRz N s)(hi:s.call who=.idle):ZRz N (s.put who (.run x false 0 (JD x))):=by
 have pp:=ZFr (s:=s) (who:=who) (.run x false 0 (JD x)) hw;have z:pend (.run x false 0 (JD x))=0/\CKO false (.on (JD x)):=by
  unfold JD
  split
  ·exact⟨rfl,trivial⟩
  ·split<;>exact⟨rfl,trivial⟩
 rw[hi,z.1]at pp;have e:pend ZAP.idle=0:=rfl;have ql:=q.le;refine⟨?_,q.top,λb x' res' ser' k' hb=>?_,λb x' res' ser' k' hb hr=>?_⟩
 ·show X9 s.wh+_<=s.ws.getD 32 0;omega
 ·by_cases e:b=who
  ·subst e;rw[Zx]at hb;cases hb;exact z.2
  ·rw[Z0 _ _ e]at hb;exact q.put b x' res' ser' k' hb
 ·by_cases e:b=who
  ·subst e;rw[Zx]at hb;cases hb;cases hr
  ·rw[Z0 _ _ e]at hb;exact q.res b x' res' ser' k' hb hr
theorem ZIx {ι:Type}{L:List ι}{f:ι->Nat}(h:∀i ∈ L,f i=0):Xq L f=0:=by
 induction L with
 |nil=>rfl
 |cons a L ih=>rw[Yd,h a (ZfQ ..),ih (λi hi=>h i (ZfP _ hi))]
theorem ZQm:ZRz 1 Jd:=by
 have e:∀i,Jd.wh.hs.getD i []=[]:=λi=>by
  show(List.replicate 34 ([]:List ZL)).getD i []=[];rw[Zez,Ze8]
  split<;>rfl
 have hl:X9 Jd.wh=0:=ZIx λp _=>by
  obtain⟨l,S⟩:=p;have hh:∀l S,Xt Jd.wh l S=[]:=λl S=>e _;show con Jd.wh l S=0;cases l with
  |zero=>rw[ZBI,hh];split<;>rfl
  |succ l=>
   rw[Xo,hh,hh]
   split
   ·split<;>rfl
   ·split<;>rfl
 have hp:ZHi Jd=0:=ZIx λi _=>rfl;exact⟨by rw[hl,hp];exact ZgR _,ZgR _,λwho x res ser k hc=>(by cases hc),λwho x res ser k hc=>(by cases hc)⟩
structure ZCw (P:List YK)(room N M:Nat)(s:Z9):Prop where
 i:ZCZ P room N M s
 t:ZDE s
 q:ZRz N s
theorem ZQp{s:Z9}(hP:∀p ∈ P,Yt p)(hN:N+1<=4611686018427387903)(hM:M+1<=5000)(hw:who<64)(h:ZCw P room N M s)(hc:s.call who=.run x res ser k): ZCw P room (N+1) (M+ZTC k) (YM P room s who).1/\∀r,(YM P room s who).2=some r->RIn r:=
 have a:=ZQh hP hN hM h.i hc
 ⟨⟨a.1,ZNi hP hN hM h.i h.t hc,ZQl hN hw h.i h.t h.q hc⟩,a.2⟩
theorem ZNx{s:Z9}(hw:who<64)(h:ZCw P room N M s)(hx:Yn P x)(hi:s.call who=.idle):ZCw P room N M (s.put who (.run x false 0 (JD x))):=⟨ZNp h.i hx hi,ZL0 h.t,ZNs hw h.q hi⟩
theorem ZQo {P:List YK}{room N M clk:Nat}{s:Z9}(h:ZCw P room N M s)(hc:(clk:Int)<=4611686018427387903):ZCw P room N M {s with clk:=clk}:=⟨ZQg h.i hc,⟨h.t.t,h.t.run⟩,⟨h.q.le,h.q.top,h.q.put,h.q.res⟩⟩
theorem ZQq (P room):ZCw P room 1 0 Jd:=⟨ZQj P room,ZNk,ZQm⟩
theorem ZCw.count{s:Z9}(h:ZCw P room N M s)(hN:N<=4611686018427387903):s.ws.getD 32 0<JG:=by
 have:=h.q.top;have sD:JG=18446744073709551615:=rfl;omega
def ZCK:List Nat:=[0,97]
def Y1:Nat:=Xw ZCK
def ZCM (a b:Int)(x:ZW)(r:Zt):Nat:=if x.op=1/\x.id=ZCK/\r.granted=true/\a<=r.now/\r.now<=b then x.n.toNat else 0
def ZDn (a b:Int)(x:ZW):YX->Nat
 |.mv _ _ _ (.leave r)=>ZCM a b x r
 |.mvS _ _ _ _ (.leave r)=>ZCM a b x r
 |_=>0
def ZMl (a b:Int)(x:ZW):Zs->Nat
 |.on k=>ZDn a b x k
 |.fin r=>ZCM a b x r
def BD (a clk:Int)(G:Nat)(l:List ZL):Prop:=G=0\/((∀c ∈ l,c.id=ZCK->a+10*(G:Int)<=c.tat)/\((∀c ∈ l,c.id≠ZCK)->a+10*(G:Int)<=clk))
def ZAd (a clk:Int)(G:Nat)(s:WH):Prop:=∀l,l<=4->wat s l Y1≠0->(l=4\/wat s (l+1) Y1=0)->BD a clk G (Xt s l Y1)
def ZCI (a:Int)(s:WH)(G:Nat)(x:ZW)(f:Yb)(c:ZL)(r:Zt):Prop:=x.op=1->x.id=ZCK->∃base:Int,r.now<=base/\base+10*x.n<=r.now+30/\c.tat=base+10*x.n/\(s.ws.getD f.word 0=f.v->G=0\/a+10*(G:Int)<=base)
def SvK (a clk:Int)(s:WH)(G:Nat)(x:ZW):YX->Prop
 |.put f c r=>ZCI a s G x f c r
 |.mv _ _ _ (.count f c r)=>ZCI a s G x f c r
 |.mvS _ _ _ _ (.count f c r)=>ZCI a s G x f c r
 |.evSwap _ _ _ word v rest _=>s.ws.getD word 0=v->∀c ∈ s.hs.getD word [],c.id=ZCK->c ∈ rest\/c.tat<=clk
 |_=>True
def SvO (a clk:Int)(s:WH)(G:Nat)(x:ZW):Zs->Prop
 |.on k=>SvK a clk s G x k
 |.fin _=>True
structure ZGZ (a b:Int)(G:Nat)(s:Z9):Prop where
 lb:ZAd a s.clk G s.wh
 top:a+10*(G:Int)<=b+30
 run:∀who x res ser k,s.call who=.run x res ser k->SvK a s.clk s.wh G x k
theorem ZIu(T:TOk s)(S):∀d l,l+d+1<=4->wat s (l+d+1) S≠0->Zb<=wat s l S
 |0,l,h4,h=>T.up l S ZB h
 |d+1,l,h4,h=>ZIu T S d l ZB (by have:=T.up (l+d+1) S ZB h;have hz:Zb=4611686018427387904:=rfl;omega)
theorem ZFf(T:TOk s){l:Nat}(hl:l<l')(h4:l'<=4)(h:wat s l' S≠0):Zb<=wat s l S:=by
 obtain⟨d,rfl⟩:=Nat.exists_eq_add_of_lt hl;exact ZIu T S d l h4 h
theorem ZQR(T:TOk s){l:Nat}(h4:l<=4)(yk:l'<=4)(h1:wat s l S≠0)(h2:wat s l S<Zb)(h3:wat s l' S≠0)(h5:wat s l' S<Zb):l=l':=by
 rcases Nat.lt_trichotomy l l' with q|q|q
 ·have:=ZFf T q yk h3;omega
 ·exact q
 ·have:=ZFf T q h4 h1;omega
theorem ZLu(T:TOk s){l:Nat}(h4:l<=4)(h2:wat s l S<Zb):l=4\/wat s (l+1) S=0:=by
 rcases ZgC l 4 with q|q
 ·refine .inr ?_;rcases Zf4 (wat s (l+1) S)with e|e
  ·exact e
  ·have:=T.up l S ZB ZB;omega
 ·exact .inl ZB
theorem ZR8(T:TOk s){l:Nat}(h4:l<=4)(yk:l'<=4)(h1:wat s l S≠0)(h2:l=4\/wat s (l+1) S=0)(h3:wat s l' S≠0)(h5:l'=4\/wat s (l'+1) S=0):l=l':=by
 have hz:Zb=4611686018427387904:=rfl;have key:∀m m',m<m'->m'<=4->(m=4\/wat s (m+1) S=0)->wat s m' S≠0->False:=λm m' q q4 k1 k2=>by
  rcases k1 with e|e
  ·omega
  ·rcases ZgC (m+1) m' with q2|q2
   ·have:=ZFf T q2 q4 k2;omega
   ·have:m'=m+1:=by omega
    subst this;exact k2 e
 rcases Nat.lt_trichotomy l l' with q|q|q
 ·exact(key l l' q yk h2 h3).elim
 ·exact q
 ·exact(key l' l q h4 h5 h1).elim
theorem ZAW(h:x.op≠1\/r.granted=false):ZCM a b x r=0:=Zgk λ⟨h1,_,h2,_⟩=>by
 rcases h with h|h
 ·exact h h1
 ·rw[h]at h2;cases h2
theorem BD.mono{clk:Int}(h:BD a clk G l)(hc:clk<=lm):BD a lm G l:=by
 rcases h with h|⟨h1,h2⟩
 ·exact .inl h
 ·exact .inr ⟨h1,λq=>Int.le_trans (h2 q) hc⟩
theorem BD.same{clk:Int}{l':List ZL}(h:BD a clk G l)(h1:∀c ∈ l',c.id=ZCK->c ∈ l)(h2:∀c ∈ l,c.id=ZCK->c ∈ l'\/a+10*(G:Int)<=clk):BD a clk G l':=by
 rcases h with h|⟨k1,k2⟩
 ·exact .inl h
 ·refine .inr ⟨λc hc e=>k1 c (h1 c hc e) e,λq=>?_⟩;by_cases e:∀c ∈ l,c.id≠ZCK
  ·exact k2 e
  ·obtain⟨c,hc⟩:=Classical.not_forall.1 e;obtain⟨hm,hi⟩:=Classical.not_imp.1 hc;have hi:c.id=ZCK:=Classical.not_not.1 hi;rcases h2 c hm hi with h9|h9
   ·exact absurd hi (q c h9)
   ·exact h9
theorem ZK1(hd:d ∈ l)(ag:d.id≠c.id):d ∈ XL l (atK l c.id) (ZAK l c.id) c:=by
 unfold XL
 split
 ·next h=>
  obtain⟨e,he,hi⟩:=ZFM h;obtain⟨i,eG,AU⟩:=List.mem_iff_getElem.1 hd;have ak:=ZFL h;have:atK l c.id≠i:=λq=>by
   subst q;rw[Ze4 eG,AU]at he;injection he with he;exact ag (by rw[he,hi])
  refine List.mem_iff_getElem.2 ⟨i,by rw[ZfK];exact eG,?_⟩;rw[List.getElem_set_ne this];exact AU
 ·have:=Zfl (atK l c.id) l;rw[<-this]at hd;rcases ZfN.1 hd with q|q
  ·exact List.mem_append_left _ q
  ·exact List.mem_append_right _ (ZfP _ q)
theorem ZG9:c ∈ XL l (atK l c.id) (ZAK l c.id) c:=by
 unfold XL
 split
 ·next h=>
  have ak:=ZFL h;exact List.mem_iff_getElem.2 ⟨atK l c.id,by rw[ZfK];exact ak,by rw[List.getElem_set_self]⟩
 ·exact List.mem_append_right _ ZfQ
theorem ZNB(hs:ZAE l)(hc:c ∈ l)(hd:d ∈ l)(e:c.id=d.id):c=d:=by
 obtain⟨i,hi,rfl⟩:=List.mem_iff_getElem.1 hc;obtain⟨j,hj,rfl⟩:=List.mem_iff_getElem.1 hd;have hp:=Zfg.1 hs;rcases Nat.lt_trichotomy i j with q|q|q
 ·have:=hp i j hi hj q;rw[e,ZHm]at this;omega
 ·subst q;rfl
 ·have:=hp j i hj hi q;rw[e,ZHm]at this;omega
structure ZDp (a b:Int)(w:WH)(clk:Int)(x:ZW)(k:YX)(c:KC)(out:Zs)(G G':Nat):Prop where
 amt:ZMl a b x out+G<=ZDn a b x k+G'
 lb:ZAd a clk G' c.wh
 top:a+10*(G':Int)<=b+30
 out:SvO a clk c.wh G' x out
 far:G'=G\/∃l,l<=4/\wat w l Y1≠0/\wat w l Y1<Zb/\wat w l Y1<wat c.wh l Y1
theorem Xp{clk:Int}{c:KC}(hl:ZAd a clk G w)(ht:a+10*(G:Int)<=b+30)(hw:c.wh=w)(h1:ZMl a b x out<=ZDn a b x k)(h2:SvO a clk w G x out):ZDp a b w clk x k c out G G:=by
 subst hw;exact⟨by omega,hl,ht,h2,.inl rfl⟩
theorem ZLI{clk:Int}(h:ZAd a clk G s)(h1:∀l,l<=4->wat s' l Y1=wat s l Y1/\Xt s' l Y1=Xt s l Y1):ZAd a clk G s':=λl hl hn ht=>by
 rw[(h1 l hl).2];refine h l hl (by rw[<-(h1 l hl).1];exact hn) ?_;rcases ht with e|e
 ·exact .inl e
 ·rcases ZgC l 4 with q|q
  ·exact .inr (by rw[<-(h1 (l+1) q).1];exact e)
  ·exact .inl ZB
theorem ZJ3{clk:Int}{c:KC}(hl:ZAd a clk G w)(ht:a+10*(G:Int)<=b+30)(lw:w.ws.length=34)(lh:w.hs.length=34)(hw:word=0\/word=32\/word=33)(hc:c.wh=⟨w.ws.set word new,w.hs.set word h⟩)(h1:ZMl a b x out<=ZDn a b x k)(h2:SvO a clk c.wh G x out):ZDp a b w clk x k c out G G:=by
 refine⟨by omega,?_,ht,h2,.inl rfl⟩;rw[hc];refine ZLI hl λl h4=>?_;have p:=Xz (shard:=Y1) h4;refine⟨?_,?_⟩
 ·show(w.ws.set word new).getD (ZO l Y1) 0=_;rw[YN _ _ _ _ _ ZB,Zgk ZB];rfl
 ·show(w.hs.set word h).getD (ZO l Y1) []=_;rw[YN _ _ _ _ _ ZB,Zgk ZB];rfl
def SoN (a b clk:Int)(s:WH)(G:Nat)(x:ZW)(out:Zs):Prop:=ZMl a b x out=0/\SvO a clk s G x out
theorem ZIz{clk:Int}(h:x.op≠1\/r.granted=false):SoN a b clk s G x (YP res r):=by
 unfold YP
 split
 ·exact⟨ZAW h,trivial⟩
 ·exact⟨ZAW h,trivial⟩
theorem ZGl{clk:Int}(h:ZCI a s G x f c r):SoN a b clk s G x (.on (Ji room res f c r)):=by
 unfold Ji
 split
 ·exact⟨rfl,h⟩
 ·exact⟨rfl,h⟩
theorem ZHJ(h:x.op≠1):ZCI a s G x f c r:=λe=>absurd e h
theorem ZUZ{clk:Int}(h:x.op≠1):SoN a b clk s G x (Xd p room res ser f c):=by
 unfold Xd
 split
 ·exact ZIz (.inl h)
 ·split
  ·exact ZGl (ZHJ h)
  ·exact⟨rfl,trivial⟩
theorem ZCN{clk:Int}:SoN a b clk s G x (Zu j shards gone):=by
 unfold Zu
 split
 ·exact⟨ZAW (.inr rfl),trivial⟩
 ·exact⟨rfl,trivial⟩
theorem ZPq{clk:Int}:SoN a b clk s G x (ZAq P room x res ser word v l):=by
 unfold ZAq
 dsimp only
 split
 ·exact⟨rfl,trivial⟩
 ·next h=>
  split
  ·exact ZUZ h
  ·split
   ·split
    ·exact⟨ZAW (.inl h),trivial⟩
    ·exact ZGl (ZHJ h)
   ·split
    ·exact⟨ZAW (.inl h),trivial⟩
    ·exact⟨rfl,trivial⟩
theorem ZSK{clk:Int}:SoN a b clk s G x (ZEN P room x res ser word v l t):=by
 cases t with
 |begin=>exact ZPq
 |evict j shards gone=>
  show SoN a b clk s G x (if l.length=0 then _ else _)
  split
  ·exact ZCN
  ·exact⟨rfl,trivial⟩
theorem ZGC{clk:Int}:SoN a b clk s G x (Yx P room x res ser sum word v l t):=by
 unfold Yx
 split
 ·exact⟨rfl,trivial⟩
 ·exact ZSK
theorem ZDz{clk:Int}{t:Jk}:SoN a b clk s G x (XR P room x res ser word v l t):=by
 cases t with
 |find sum t=>
  show SoN a b clk s G x (if v=0 then _ else _)
  split
  ·exact⟨rfl,trivial⟩
  ·exact ZGC
 |move1 level i holds=>exact⟨rfl,trivial⟩
 |move2 level i=>
  show SoN a b clk s G x (.on (XM level (i+1)));unfold XM
  split<;>exact⟨rfl,trivial⟩
theorem ZLR{clk:Int}:SoN a b clk s G x (.on (XM level i)):=by
 unfold XM
 split<;>exact⟨rfl,trivial⟩
theorem ZFg{clk:Int}{t:ZAQ}:SoN a b clk s G x (.on (Je l t)):=by
 cases t<;>exact⟨rfl,trivial⟩
theorem SoN.le{clk:Int}(h:SoN a b clk s G x out):ZMl a b x out<=n:=by rw[h.1];exact ZgR _
theorem ZC0{clk:Int}{c:KC}(hl:ZAd a clk G w)(ht:a+10*(G:Int)<=b+30)(hw:c.wh=w)(h:SoN a b clk w G x out):ZDp a b w clk x k c out G G:=Xp hl ht hw h.le h.2
theorem ZJ2{clk:Int}{c:KC}(hl:ZAd a clk G w)(ht:a+10*(G:Int)<=b+30)(lw:w.ws.length=34)(lh:w.hs.length=34)(hw:word=0\/word=32\/word=33)(hc:c.wh=⟨w.ws.set word new,w.hs.set word h⟩)(hs:SoN a b clk c.wh G x out):ZDp a b w clk x k c out G G:=ZJ3 hl ht lw lh hw hc hs.le hs.2
theorem ZEa{clk:Int}{l0:Nat}(T:TOk w)(lw:w.ws.length=34)(lh:w.hs.length=34)(h4:l0<=4)(h0:wat w l0 S0≠0)(hf:wat w l0 S0<Zb)(hn:new≠0)(hl:ZAd a clk G w)(iK:ZO l0 Y1≠ZO l0 S0->G'=G)(D7:ZO l0 Y1=ZO l0 S0->BD a clk G (Xt w l0 S0)->BD a clk G' h): ZAd a clk G' ⟨w.ws.set (ZO l0 S0) new,w.hs.set (ZO l0 S0) h⟩:=λl l4 ag mi=>by
 have ws:=λl'=>ZBt (w:=w) (l:=l0) (S:=S0) (l':=l') (S':=Y1) (new:=new) (h:=h) lw lh h4;have zer:∀l',wat ⟨w.ws.set (ZO l0 S0) new,w.hs.set (ZO l0 S0) h⟩ l' Y1=0↔wat w l' Y1=0:=λl'=>by
  rw[(ws l').1]
  split
  ·next e=>
   have:wat w l' Y1=wat w l0 S0:=by unfold wat;rw[e]
   rw[this];exact⟨λq=>absurd q hn,λq=>absurd q h0⟩
  ·exact Iff.rfl
 have ju:wat w l Y1≠0:=λq=>ag ((zer l).2 q);have na:l=4\/wat w (l+1) Y1=0:=mi.imp id (zer _).1;have hb:=hl l l4 ju na;rw[(ws l).2]
 split
 ·next e=>
  obtain⟨rfl,-⟩:=JZ e;have e9:Xt w l Y1=Xt w l S0:=by unfold Xt;rw[e]
  rw[e9]at hb;exact D7 e hb
 ·next e=>
  by_cases e2:ZO l0 Y1=ZO l0 S0
  ·have e3:wat w l0 Y1=wat w l0 S0:=by unfold wat;rw[e2]
   have:l=l0:=ZR8 T l4 h4 ju na (by rw[e3];exact h0) (ZLu T h4 (by rw[e3];exact hf));subst this;exact absurd e2 e
  ·rw[iK e2];exact hb
theorem ZLJ{clk:Int}{lv:Nat}(lw:w.ws.length=34)(lh:w.hs.length=34)(h4:lv<=3)(h0:wat w (lv+1) S0=0)(hf:Zb<=wat w lv S0)(hl:ZAd a clk G w)(hh:h=JU (Xt w lv S0) (lv+1) (S0 % 2 ^ (lv+1))): ZAd a clk G ⟨w.ws.set (ZO (lv+1) S0) 1,w.hs.set (ZO (lv+1) S0) h⟩:=λl l4 ag mi=>by
 have hz:Zb=4611686018427387904:=rfl;have ws:=λl'=>ZBt (w:=w) (l:=lv+1) (S:=S0) (l':=l') (S':=Y1) (new:=1) (h:=h) lw lh ZB;by_cases e:ZO l Y1=ZO (lv+1) S0
 ·obtain⟨rfl,e2⟩:=JZ e;have up:=ZHh e;have w1:wat w (lv+1) Y1=0:=by rw[<-h0];unfold wat;rw[e]
  have w2:Zb<=wat w lv Y1:=by unfold wat at hf ⊢;rw[up];exact hf
  have w3:Xt w lv Y1=Xt w lv S0:=by unfold Xt;rw[up]
  have hb:=hl lv ZB ZB (.inr w1);rw[w3]at hb;rw[(ws (lv+1)).2,Zgl e,hh];refine hb.same (λc hc _=>(ZfR.1 hc).1) (λc hc hi=>.inl (ZfR.2 ⟨hc,Zgg ?_⟩));rw[hi];unfold ZA9;exact e2
 ·have e1:=ws l;rw[Zgk e,Zgk e]at e1;rw[e1.1]at ag;rw[e1.2];refine hl l l4 ag (mi.imp id λq=>?_);have e3:=(ws (l+1)).1;rw[q]at e3
  split at e3
  ·cases e3
  ·exact e3.symm
theorem ZSG(h:x.id=ZCK):x.pol=0/\x.key=[97]:=by
 unfold ZW.id ZCK at h;injection h with h1 h2;exact⟨h1,h2⟩
theorem ZVC {tat clk n:Int}(hn:0<n)(hg:(ZBq 10 20 tat clk n).1=true):max tat clk+10*n<=clk+30/\(ZBq 10 20 tat clk n).2.1=max tat clk+10*n:=by
 unfold ZBq at hg ⊢;by_cases h:n<=Xh 10 20 tat clk
 ·rw[Zgl h];refine⟨?_,?_⟩
  ·unfold Xh at h
   split at h
   ·omega
   ·omega
  ·show(if 0<n then max tat clk+n*10 else tat)=_;rw[Zgl hn];omega
 ·rw[Zgk h]at hg;cases hg
theorem ZLH {a b clk:Int}{P:List YK}{N G:Nat}{w:WH}{x:ZW}{f:Yb}(hp:(Zf P 0).T=10/\(Zf P 0).Tau=20)(T:TOk w)(hN:N+1<=4611686018427387903)(hx:Yn P x)(hf:JY P N w x f)(hw:ZBY x f)(hl:ZAd a clk G w)(hg:(Yg (Zf P x.pol) (YV f.cells x.pol x.key) clk x.n).1.granted=true)(hn:x.n≠0):ZCI a w G x f (Yg (Zf P x.pol) (YV f.cells x.pol x.key) clk x.n).2 (Yg (Zf P x.pol) (YV f.cells x.pol x.key) clk x.n).1:=λho hi=>by
 obtain⟨e1,e2⟩:=ZSG hi;have eL:=(hx.2.2.2.1 ho).2.1;obtain⟨v0,l,l4,ew⟩:=hw;obtain⟨a1,a2,a3,a4,a5⟩:=hf.same;rw[e1,e2]at hg ⊢;unfold Yg at hg ⊢
 dsimp only at hg ⊢
 rw[hp.1,hp.2]at hg ⊢;obtain⟨k1,k2⟩:=ZVC ZB hg;refine⟨max (YV f.cells 0 [97]).tat clk,by show clk<=_;omega,k1,k2,λq=>?_⟩;have hz:Zb=4611686018427387904:=rfl;rw[hi]at ew;have q2:wat w l Y1=f.v:=by unfold wat Y1;rw[<-ew];exact q
 have q3:Xt w l Y1=f.cells:=by unfold Xt Y1;rw[<-ew];exact a5 q
 have hb:=hl l l4 ZB (ZLu T l4 ZB);rw[q3]at hb;rcases hb with hb|⟨b1,b2⟩
 ·exact .inl hb
 ·refine .inr ?_;cases hh:ZAK f.cells (0::[97])with
  |true=>
   obtain⟨c,hc,c1,c2,c3⟩:=ZB7 hh;rw[c3];have:=b1 c (ZfU hc) (by unfold ZL.id ZCK;rw[c1,c2]);omega
  |false=>
   have:=b2 (λc hc e=>by
    have:=(ZME hf.ok.1 (k:=0::[97])).2 ⟨c,hc,e⟩;rw[hh]at this;cases this)
   omega
theorem ZWE{clk:Int}{c:KC}(rm:(Zf P 0).kind=1)(T:TOk w)(lw:w.ws.length=34)(lh:w.hs.length=34)(hN:N+1<=4611686018427387903)(hx:Yn P x)(Lm:x.op<=3)(hf:JY P N w x f)(hc:ZDH P w x ser f ce)(hw:ZBY x f)(hl:ZAd a clk G w)(ht:a+10*(G:Int)<=b+30)(hs:ZCI a w G x f ce r)(q:w.ws.getD f.word 0=f.v)(he:c.wh=⟨w.ws.set f.word (f.v+1),w.hs.set f.word (XL f.cells f.at_ f.there ce)⟩)(eC:out=if f.there=false then Zs.fin r else YP res r):ZDp a b w clk x k c out G (G+ZCM a b x r):=by
 have hz:Zb=4611686018427387904:=rfl;obtain⟨v0,l,l4,ew⟩:=hw;obtain⟨a1,a2,a3,a4,a5⟩:=hf.same;have q2:wat w l (Xw x.id)=f.v:=by unfold wat;rw[<-ew];exact q
 have q3:Xt w l (Xw x.id)=f.cells:=by unfold Xt;rw[<-ew];exact a5 q
 have h1:x.id=ZCK->x.op=1:=λhi=>by
  obtain⟨e1,-⟩:=ZSG hi;have h9:=hx.2.2.2.2;rw[e1,rm]at h9;have:=hx.1;omega
 have ha:x.id≠ZCK->ZCM a b x r=0:=λhi=>Zgk λh=>hi h.2.1;have hk:x.id=ZCK->(ZCM a b x r=0\/((ZCM a b x r:Int)=x.n/\a<=r.now/\r.now<=b)):=λhi=>by
  have:=(hx.2.2.2.1 (h1 hi)).2.1;unfold ZCM
  split
  ·next h=>exact .inr ⟨by omega,h.2.2.2⟩
  ·exact .inl rfl
 have pV:XL f.cells f.at_ f.there ce=XL f.cells (atK f.cells ce.id) (ZAK f.cells ce.id) ce:=by rw[hf.at_,hf.there,hc.id]
 refine⟨?_,?_,?_,?_,?_⟩
 ·have:ZMl a b x out=ZCM a b x r:=by
   rw[eC]
   split
   ·rfl
   ·unfold YP
    split<;>rfl
  omega
 ·rw[he,ew];refine ZEa T lw lh l4 ZB ZB ZB hl (λne=>?_) (λon hb=>?_)
  ·rw[ha (λhi=>ne (by rw[hi];rfl))];rfl
  ·rw[q3]at hb;rw[pV];by_cases hi:x.id=ZCK
   ·obtain⟨base,b1,b2,b3,b4⟩:=hs (h1 hi) hi;have b4:=b4 q;have hn:=(hx.2.2.2.1 (h1 hi)).2.1;have eQ:=hk hi;rcases Zf4 (G+ZCM a b x r)with z|z
    ·exact .inl z
    ·refine .inr ⟨λd hd kT=>?_,λh=>absurd (by rw[hc.id];exact hi) (h ce ZG9)⟩;have:d=ce:=ZNB (ZF7 hf.ok.1) hd ZG9 (by rw[kT,hc.id,hi]);subst this;rw[b3];rcases eQ with i|⟨i,i2,i3⟩
     ·rw[i]at z ⊢;rcases b4 with b4|b4<;>omega
     ·push_cast
      rcases b4 with b4|b4
      ·subst b4;omega
      ·omega
   ·rw[ha hi,Zf2];refine hb.same (λd hd kT=>?_) (λd hd kT=>.inl (ZK1 hd (by rw[kT,hc.id];exact λe=>hi e.symm)));rcases ZE0 hd with e|e
    ·rw[e,hc.id]at kT;exact absurd kT hi
    ·exact e
 ·by_cases hi:x.id=ZCK
  ·obtain⟨base,b1,b2,b3,b4⟩:=hs (h1 hi) hi;have b4:=b4 q;rcases hk hi with i|⟨i,i2,i3⟩
   ·rw[i];exact ht
   ·push_cast
    rcases b4 with b4|b4
    ·subst b4;omega
    ·omega
  ·rw[ha hi];exact ht
 ·rw[eC]
  split
  ·trivial
  ·unfold YP
   split<;>trivial
 ·by_cases hi:x.id=ZCK
  ·refine .inr ⟨l,l4,?_,?_,?_⟩
   ·rw[show Y1=Xw x.id by rw[hi];rfl];omega
   ·rw[show Y1=Xw x.id by rw[hi];rfl];omega
   ·rw[show Y1=Xw x.id by rw[hi];rfl,he,ew];have:=(ZBt (w:=w) (l:=l) (S:=Xw x.id) (l':=l) (S':=Xw x.id) (new:=f.v+1) (h:=XL f.cells f.at_ f.there ce) lw lh l4).1;rw[this,Zgl rfl];omega
  ·exact .inl (by rw[ha hi];rfl)
theorem ZU5{s:Z9}{c:KC}(hp:(Zf P 0).T=10/\(Zf P 0).Tau=20)(rm:(Zf P 0).kind=1)(hN:N+1<=4611686018427387903)(h:ZCZ P room N M s)(T:TOk s.wh)(tk:TK s.wh x k)(hc:s.call who=.run x res ser k)(hl:ZAd a s.clk G s.wh)(ht:a+10*(G:Int)<=b+30)(hs:SvK a s.clk s.wh G x k)(e:Z6 P room x (s.kc res ser) k=(c,out)): ∃G',ZDp a b s.wh s.clk x k c out G G':=by
 obtain⟨V2,V6,V8,V10,V12,V15,V17,V20,V22,V23,V25,V27,V29,V31,V34,V36,V38,V40,V41,V43,V45,V49,V52,V54,V57,V58,V60,V62,V64,V65,V67,V69,V71,V72,V74,V76,V78,V79,V81,V83,V86,V88⟩:=QA;exact QC
theorem ZCI.grow{clk:Int}{c:KC}{y:ZW}(h:ZCI a w G y f ce r)(T:TOk w)(hN:N+1<=4611686018427387903)(hf:JY P N w y f)(hw:ZBY y f)(g:ZAj w c.wh)(st:ZDp a b w clk x k c out G G'):ZCI a c.wh G' y f ce r:=λho hi=>by
 have hz:Zb=4611686018427387904:=rfl;obtain⟨base,b1,b2,b3,b4⟩:=h ho hi;refine⟨base,b1,b2,b3,λq=>?_⟩;obtain⟨v0,l,l4,ew⟩:=hw;obtain⟨a1,a2,a3,a4,a5⟩:=hf.same;have eO:w.ws.getD f.word 0=f.v:=by
  rcases g.sh f.word a1 a2 with⟨g1,_⟩|⟨g1,_⟩
  ·rw[<-g1];exact q
  ·omega
 rcases st.far with e|⟨l',l4',f1,f2,f3⟩
 ·rw[e];exact b4 eO
 ·rw[hi]at ew;have q1:wat w l Y1=f.v:=by unfold wat Y1;rw[<-ew];exact eO
  have q2:wat c.wh l Y1=f.v:=by unfold wat Y1;rw[<-ew];exact q
  have:l=l':=ZQR T l4 l4' ZB ZB f1 f2;subst this;omega
theorem SvK.grow{clk:Int}{c:KC}{y:ZW}{k':YX}(h:SvK a clk w G y k')(T:TOk w)(hN:N+1<=4611686018427387903)(hk:ZBn P room N w y res ser k')(tk:TK w y k')(g:ZAj w c.wh)(st:ZDp a b w clk x k c out G G'):SvK a clk c.wh G' y k':=by
 cases k' with
 |put f ce r=>exact ZCI.grow h T hN hk.2.1 tk g st
 |mv word by_ stop t=>
  cases t with
  |count f ce r=>exact ZCI.grow h T hN (show MOk P room N w y res ser word by_ stop (.count f ce r)from hk).2.2.2.2.1 tk g st
  |_=>trivial
 |mvS word by_ stop v t=>
  cases t with
  |count f ce r=>exact ZCI.grow h T hN (show MOk P room N w y res ser word by_ stop (.count f ce r)from hk).2.2.2.2.1 tk g st
  |_=>trivial
 |evSwap j shards gone word v rest n=>
  obtain⟨_,_,_,_,_,_,_,cells,⟨a1,a2,a3,a4,a5⟩,_⟩:=hk;intro q;have q:c.wh.ws.getD word 0=v:=q;rcases g.sh word a1 a2 with⟨g1,g2⟩|⟨g1,_⟩
  ·rw[g2];exact h (by rw[<-g1];exact q)
  ·omega
 |_=>trivial
theorem ZUW{s:Z9}(dM:∀p ∈ P,Yt p)(hp:(Zf P 0).T=10/\(Zf P 0).Tau=20)(rm:(Zf P 0).kind=1)(hN:N+1<=4611686018427387903)(hM:M+1<=5000)(h:ZCw P room N M s)(hc:s.call who=.run x res ser k)(v:ZGZ a b G s): ∃G',ZGZ a b G' (YM P room s who).1/\ZMl a b x (Z6 P room x (s.kc res ser) k).2+G<=ZDn a b x k+G':=by
 have so:=ZGs (c:=(Z6 P room x (s.kc res ser) k).1) (out:=(Z6 P room x (s.kc res ser) k).2) dM hN hM h.i hc rfl;obtain⟨G',st⟩:=ZU5 (b:=b) (c:=(Z6 P room x (s.kc res ser) k).1) (out:=(Z6 P room x (s.kc res ser) k).2) hp rm hN h.i h.t.t (h.t.run who x res ser k hc) hc v.lb v.top (v.run who x res ser k hc) rfl;have jS:(Z6 P room x (s.kc res ser) k).1.clk=s.clk:=so.ck;rw[ZDb P room s who hc];refine⟨G',⟨?_,st.top,λi x' res' ser' k' hi=>?_⟩,st.amt⟩
 ·show ZAd a ((Z6 P room x (s.kc res ser) k).1.clk:Int) G' (Z6 P room x (s.kc res ser) k).1.wh;rw[jS];exact st.lb
 ·show SvK a ((Z6 P room x (s.kc res ser) k).1.clk:Int) (Z6 P room x (s.kc res ser) k).1.wh G' x' k';rw[jS];by_cases e:i=who
  ·subst e;rw[Zx]at hi;have ho:=st.out;generalize Z6 P room x (s.kc res ser) k=o at hi ho ⊢;obtain⟨c,out⟩:=o;cases out with
   |on k2=>cases hi;exact ho
   |fin r=>cases hi
  ·rw[Z0 _ _ e]at hi;have hi:s.call i=.run x' res' ser' k':=hi;exact(v.run i x' res' ser' k' hi).grow h.t.t hN (h.i.run i x' res' ser' k' hi).kont (h.t.run i x' res' ser' k' hi) so.g st
theorem ZSF{s:Z9}(v:ZGZ a b G s):ZGZ a b G (s.put who (.run x false 0 (JD x))):=by
 refine⟨v.lb,v.top,λi x' res' ser' k' hi=>?_⟩;by_cases e:i=who
 ·subst e;rw[Zx]at hi;cases hi;unfold JD
  split
  ·trivial
  ·split<;>trivial
 ·rw[Z0 _ _ e]at hi;exact v.run i x' res' ser' k' hi
theorem SvK.tick{clk:Int}(h:SvK a clk s G x k)(hc:clk<=lm):SvK a lm s G x k:=by
 cases k with
 |evSwap j shards gone word v rest n=>exact λq d hd hi=>(h q d hd hi).imp id (λq=>Int.le_trans q hc)
 |mv word by_ stop t=>cases t<;>exact h
 |mvS word by_ stop v t=>cases t<;>exact h
 |_=>exact h
theorem ZUV{clk:Nat}{s:Z9}(v:ZGZ a b G s)(hc:s.clk<=clk):ZGZ a b G {s with clk:=clk}:=⟨λl h4 h1 h2=>(v.lb l h4 h1 h2).mono (Int.ofNat_le.2 hc),v.top,λwho x res ser k hi=>(v.run who x res ser k hi).tick (Int.ofNat_le.2 hc)⟩
theorem ZUX(h:a<=b):ZGZ a b 0 Jd:=⟨λ_ _ _ _=>.inl rfl,by omega,λwho x res ser k hc=>by cases hc⟩
theorem ZQP{b:Bool}(h:d ∈ XL l i b c):d ∈ l\/d=c:=by
 unfold XL at h
 split at h
 ·exact(ZfY h)
 ·rcases ZfN.1 h with h|h
  ·exact .inl (ZfX h)
  ·rcases ZfO.1 h with h|h
   ·exact .inr h
   ·exact .inl (ZfV h)
theorem ZNA{s:Z9}(hc:s.call who=.run x res ser k):(YM P room s who).1.clk=s.clk/\∀i,i≠who->(YM P room s who).1.call i=s.call i:=by
 unfold YM;rw[hc]
 dsimp only
 have e:(Z6 P room x (s.kc res ser) k).1.clk=s.clk:=by
  cases k with
  |mvS word by_ stop v t=>
   dsimp only[Z6]
   split
   ·cases t<;>rfl
   ·rfl
  |_=>dsimp only[Z6];first|rfl|(split<;>rfl)
 generalize Z6 P room x (s.kc res ser) k=q at e;obtain⟨c,out⟩:=q;cases out<;>exact⟨e,λi hi=>Z0 _ _ hi⟩
theorem ZU8 (k):ZTC k<=1:=by
 unfold ZTC
 split<;>omega
def ZBc (Q:ZL->Prop)(s:WH):Prop:=∀i,∀c ∈ s.hs.getD i [],Q c
theorem ZEm {Q:ZL->Prop}{s:KC}{w:Nat}(hl:s.hs.length=34)(hi:ZBc Q s.wh)(hh:∀c ∈ h,Q c):ZBc Q (s.sw w new h).wh:=λi c hc=>by
 have hc:c ∈ (s.hs.set w h).getD i []:=hc;rcases ZgC w 34 with q|q
 ·rw[YN _ _ _ _ _ ZB]at hc
  split at hc
  ·exact hh c hc
  ·exact hi i c hc
 ·rw[List.set_eq_of_length_le ZB]at hc;exact hi i c hc
theorem ZVZ {Q:ZL->Prop}{s:KC}(W:WOk P N M s.wh)(hk:ZBn P room N s.wh x s.res s.ser k)(hi:ZBc Q s.wh)(iH:∀f c r,k=.put f c r->s.hs.getD f.word []=f.cells->Q c):ZBc Q (Z6 P room x s k).1.wh:=by
 have lh:s.hs.length=34:=W.lh;cases k with
 |frzS word v holds t=>
  dsimp only[Z6]
  split
  ·next e=>
   refine ZEm lh hi (λc hc=>hi word c ?_);have q:s.hs.getD word []=holds:=hk.2.1.2.2.2.2 e;show c ∈ s.hs.getD word [];rw[q];exact hc
  ·exact hi
 |halfS level shard holds t=>
  dsimp only[Z6]
  split
  ·refine ZEm lh hi (λc hc=>?_);obtain⟨i,-,-,-,e⟩:=hk.2.2.2.2;have e:s.hs.getD i []=holds:=e;exact hi i c (by show c ∈ s.hs.getD i [];rw[e];exact(ZfR.1 hc).1)
  ·exact hi
 |splitS d=>
  dsimp only[Z6]
  split
  ·exact ZEm lh hi (λc hc=>by cases hc)
  ·exact hi
 |moveEnd level=>
  dsimp only[Z6]
  split
  ·exact ZEm lh hi (λc hc=>by cases hc)
  ·exact hi
 |mvS word by_ stop v t=>
  dsimp only[Z6]
  split
  ·have q:=λu=>ZEm (w:=word) (new:=u) (h:=[]) lh hi (λc hc=>by cases hc);cases t with
   |leave r=>exact q _
   |gone j sh was n=>exact q _
   |count f c r=>exact q _
   |serial f c=>exact q _
  ·exact hi
 |put f c r=>
  dsimp only[Z6]
  split
  ·next e=>
   have q:s.hs.getD f.word []=f.cells:=hk.2.1.same.2.2.2.2 e;refine ZEm lh hi (λd hd=>?_);rcases ZQP hd with hd|rfl
   ·exact hi f.word d (by show d ∈ s.hs.getD f.word [];rw[q];exact hd)
   ·exact iH f d r rfl q
  ·exact hi
 |evSwap j sh gone word v rest n=>
  dsimp only[Z6]
  split
  ·next e=>
   obtain⟨-,-,-,-,-,-,-,cl,h1,-,h3,-⟩:=hk;refine ZEm lh hi (λd hd=>hi word d ?_);have q:s.hs.getD word []=cl:=h1.2.2.2.2 e;show d ∈ s.hs.getD word [];rw[q];exact h3.subset hd
  ·exact hi
 |_=>exact hi
def ZEt (P:List YK)(c:ZL):Prop:=(Zf P c.pol).kind≠2->c.held=[]
theorem ZVa {Q:ZL->Prop}{l:List ZL}{pol:Nat}{key:List Nat}(h:∀c ∈ l,Q c)(hn:Q ⟨pol,key,0,[]⟩):Q (YV l pol key):=by
 cases hh:ZAK l (pol::key)with
 |true=>
  obtain⟨c,hc,-,-,e3⟩:=ZB7 hh;rw[e3];exact h c (ZfU hc)
 |false=>rw[ZCr hh];exact hn
theorem ZQy{s:Z9}(h:ZCw P room N M s)(hc:s.call who=.run x res ser k)(hi:ZBc (ZEt P) s.wh):ZBc (ZEt P) (YM P room s who).1.wh:=by
 have hr:=h.i.run who x res ser k hc
 have a:=ZVZ (Q:=ZEt P) (s:=s.kc res ser) h.i.w hr.kont hi (λf c r e q jP=>by
  subst e;obtain⟨h1,h2,h3,h4⟩:=(show x.op<=3/\JY P N s.wh x f/\ZDH P s.wh x ser f c/\RIn r from hr.kont);have EA:c.pol=x.pol:=by
   have:=h3.id;unfold ZL.id ZW.id at this;injection this
  rw[EA]at jP;have ho:x.op=1:=by
   have h5:=hr.call.2.2.2.2;have:=hr.call.1;rcases(show x.op=1\/x.op=2\/x.op=3 by omega)with e|e
   ·exact e
   ·exact absurd (h5 e) jP
  have dD:ser=0:=by
   rcases Classical.em (ser=0)with e|e
   ·exact e
   ·have:=(hr.ser0 e).1;omega
  have h0:(YV f.cells x.pol x.key).held=[]:=by
   have:=ZVa (Q:=ZEt P) (l:=f.cells) (pol:=x.pol) (key:=x.key) (λd hd=>hi f.word d (by show d ∈ s.hs.getD f.word [];have q:s.hs.getD f.word []=f.cells:=q;rw[q];exact hd)) (λ_=>rfl);exact this (by rw[(ZCG _ _ _).1];exact jP)
  cases hh:c.held with
  |nil=>rfl
  |cons z t=>
   rcases h3.held z (by rw[hh];exact ZfQ)with e|e
   ·rw[h0]at e;cases e
   ·exact absurd dD e.2)
 unfold YM;rw[hc]
 dsimp only
 generalize Z6 P room x (s.kc res ser) k=q at a;obtain⟨c,out⟩:=q;cases out<;>exact a
theorem ZQz (P):ZBc (ZEt P) Jd.wh:=λi c hc=>by
 have e:Jd.hs.getD i []=[]:=by
  show(List.replicate 34 ([]:List ZL)).getD i []=[];rw[Zez,Ze8]
  split<;>rfl
 have hc:c ∈ Jd.hs.getD i []:=hc;rw[e]at hc;cases hc
theorem ZTJ{s:Z9}(h:ZCw P room N M s)(hi:ZBc (ZEt P) s.wh){m:Int}(hm:∀p ∈ P,p.kind=2->p.perm<=m)(h0:0<=m):ZBc (λc=>(c.held.length:Int)<=m) s.wh:=λi c hc=>by
 have ok:=(h.i.w.cells i).1.2.1 c hc;by_cases q:(Zf P c.pol).kind=2
 ·have h1:=ok.2.2.2.2.2.2.2 q
  have im:=hm (Zf P c.pol) (by
   unfold Zf;rw[Zez,Ze4 ok.1];exact List.getElem_mem ok.1) q
  omega
 ·have:=hi i c hc q;show(c.held.length:Int)<=m;rw[this];exact h0
def ZUC:YX->Prop
 |.mvS _ _ stop v (.count _ _ _)=>v≠stop
 |_=>True
def ZCv:Zs->Prop
 |.on k=>ZUC k
 |.fin _=>True
structure ZIQ (room:Nat)(s:Z9):Prop where
 le:s.ws.getD 32 0<=room
 run:∀who x res ser k,s.call who=.run x res ser k->ZUC k
theorem ZE8:ZCv (YP res r):=by unfold YP;split<;>trivial
theorem ZJ7:ZCv (.on (Ji room res f c r)):=by unfold Ji;split<;>trivial
theorem ZWH:ZCv (Xd p room res ser f c):=by
 unfold Xd
 split
 ·exact ZE8
 ·split
  ·exact ZJ7
  ·trivial
theorem ZC3:ZCv (Zu j shards gone):=by unfold Zu;split<;>trivial
theorem ZSW:ZCv (ZAq P room x res ser word v l):=by
 unfold ZAq
 dsimp only
 split
 ·trivial
 ·split
  ·exact ZWH
  ·split
   ·split
    ·trivial
    ·exact ZJ7
   ·split<;>trivial
theorem ZUe:ZCv (ZEN P room x res ser word v l t):=by
 cases t with
 |begin=>exact ZSW
 |evict j shards gone=>
  show ZCv (if l.length=0 then _ else _)
  split
  ·exact ZC3
  ·trivial
theorem ZHS:ZCv (Yx P room x res ser sum word v l t):=by
 unfold Yx
 split
 ·trivial
 ·exact ZUe
theorem ZLX{t:Jk}:ZCv (XR P room x res ser word v l t):=by
 cases t with
 |find sum t=>
  show ZCv (if v=0 then _ else _)
  split
  ·trivial
  ·exact ZHS
 |move1 level i holds=>trivial
 |move2 level i=>
  show ZCv (.on (XM level (i+1)));unfold XM
  split<;>trivial
theorem ZO5:ZCv (.on (XM level i)):=by
 unfold XM
 split<;>trivial
theorem ZSV{s:KC}(lw:s.ws.length=34)(hk:ZBn P room N s.wh x s.res s.ser k)(CD:∀level shard h t,k=.halfS level shard h t->level<=4)(dK:room<=4096)(aZ:s.ws.getD 32 0<=room)(hp:pend (.run x s.res s.ser k)<=s.ws.getD 32 0)(hr:ZUC k):(Z6 P room x s k).1.ws.getD 32 0<=room/\ZCv (Z6 P room x s k).2:=by
 have ji:∀word new,word≠32->(s.ws.set word new).getD 32 0<=room:=λword new hw=>by
  rcases ZgC word 34 with q|q
  ·rw[YN _ _ _ _ _ ZB,Zgk ZB];exact aZ
  ·rw[List.set_eq_of_length_le ZB];exact aZ
 have lC:∀new,(s.ws.set 32 new).getD 32 0=new:=λnew=>by rw[YN _ _ _ _ _ ZB,Zgl rfl]
 cases k with
 |find sum t=>
  dsimp only[Z6]
  refine⟨aZ,?_⟩
  split<;>trivial
 |enter sum word t=>exact⟨aZ,ZHS⟩
 |frz word t=>
  dsimp only[Z6]
  refine⟨aZ,?_⟩
  split
  ·cases t<;>trivial
  ·trivial
 |frzS word v holds t=>
  dsimp only[Z6]
  split
  ·refine⟨ji _ _ (by have:=hk.2.1.2.1;omega),?_⟩;cases t<;>trivial
  ·exact⟨aZ,trivial⟩
 |half level shard holds t=>
  dsimp only[Z6]
  refine⟨aZ,?_⟩
  split
  ·exact ZLX
  ·trivial
 |halfS level shard holds t=>
  dsimp only[Z6]
  refine⟨?_,ZLX⟩
  split
  ·exact ji _ _ (by have:=(Xz (shard:=shard) (CD level shard holds t rfl)).2;omega)
  ·exact aZ
 |split=>
  dsimp only[Z6]
  refine⟨aZ,?_⟩
  split
  ·exact ZO5
  ·split<;>trivial
 |splitS d=>
  dsimp only[Z6]
  split
  ·exact⟨ji _ _ ZB,ZO5⟩
  ·exact⟨aZ,trivial⟩
 |moveEnd level=>
  dsimp only[Z6]
  refine⟨?_,trivial⟩
  split
  ·exact ji _ _ ZB
  ·exact aZ
 |mv word by_ stop t=>
  dsimp only[Z6]
  refine⟨aZ,?_⟩
  split
  ·cases t with
   |serial f c=>exact ZE8
   |_=>trivial
  ·next q=>cases t<;>first|trivial|exact q
 |mvS word by_ stop v t=>
  have hk:MOk P room N s.wh x s.res s.ser word by_ stop t:=hk
  dsimp only[Z6]
  split
  ·next q=>
   cases t with
   |leave r=>
    obtain⟨rfl,rfl,_⟩:=hk;have hp:1<=s.ws.getD 32 0:=hp;have q:s.ws.getD 32 0=v:=q;refine⟨?_,trivial⟩;show(s.ws.set 32 ((v+JG) % 18446744073709551616)).getD 32 0<=room;rw[lC];have hv:JG=18446744073709551615:=rfl;omega
   |gone j sh was n=>
    obtain⟨rfl,_,_,_,_,_,_,mt,rfl⟩:=hk;have hp:n<=s.ws.getD 32 0:=hp;have q:s.ws.getD 32 0=v:=q;refine⟨?_,ZC3⟩;show(s.ws.set 32 ((v+(18446744073709551616 - n)) % 18446744073709551616)).getD 32 0<=room;rw[lC];omega
   |count f c r=>
    obtain⟨rfl,rfl,rfl,_⟩:=hk;have q:s.ws.getD 32 0=v:=q;have hr:v≠stop:=hr;refine⟨?_,trivial⟩;show(s.ws.set 32 ((v+1) % 18446744073709551616)).getD 32 0<=stop;rw[lC];omega
   |serial f c=>
    obtain⟨rfl,_⟩:=hk;refine⟨?_,ZJ7⟩;show(s.ws.set 33 _).getD 32 0<=room;exact ji _ _ ZB
  ·refine⟨aZ,?_⟩;cases t<;>trivial
 |put f c r=>
  dsimp only[Z6]
  split
  ·refine⟨ji _ _ (by have:=hk.2.1.same.2.1;omega),?_⟩
   split
   ·trivial
   ·exact ZE8
  ·exact⟨aZ,trivial⟩
 |peek c=>exact⟨aZ,trivial⟩
 |allow f c=>
  dsimp only[Z6]
  refine⟨aZ,?_⟩
  split
  ·exact ZE8
  ·exact ZJ7
 |evFirst=>exact⟨aZ,trivial⟩
 |evScan j sh gone word v cells=>
  dsimp only[Z6]
  refine⟨aZ,?_⟩
  split
  ·exact ZC3
  ·trivial
 |evSwap j sh gone word v rest n=>
  dsimp only[Z6]
  split
  ·obtain⟨-,-,-,-,-,-,-,cl,h1,-⟩:=hk;exact⟨ji _ _ (by have:=h1.2.1;omega),trivial⟩
  ·exact⟨aZ,ZC3⟩
theorem ZP1{s:Z9}(hw:who<64)(dK:room<=4096)(h:ZCw P room N M s)(hc:s.call who=.run x res ser k)(R:ZIQ room s):ZIQ room (YM P room s who).1:=by
 have hr:=h.i.run who x res ser k hc;have qU:pend (.run x res ser k)<=s.ws.getD 32 0:=by
  have:=ZO8 (s:=s) hw;rw[hc]at this;have:=h.q.le;omega
 obtain⟨a,b⟩:=ZSV (P:=P) (room:=room) (N:=N) (x:=x) (s:=s.kc res ser) (k:=k) h.i.w.lw hr.kont (λlevel shard hh t e=>by subst e;exact hr.kont.2.1) dK R.le qU (R.run who x res ser k hc);rw[ZDb P room s who hc];refine⟨a,λi x' res' ser' k' hi=>?_⟩;by_cases e:i=who
 ·subst e;rw[Zx]at hi;revert hi b;generalize Z6 P room x (s.kc res ser) k=o;obtain⟨c,out⟩:=o;cases out with
  |on k2=>intro b hi;cases hi;exact b
  |fin r=>intro b hi;cases hi
 ·rw[Z0 _ _ e]at hi;exact R.run i x' res' ser' k' hi
theorem ZNH{s:Z9}(R:ZIQ room s):ZIQ room (s.put who (.run x false 0 (JD x))):=by
 refine⟨R.le,λi x' res' ser' k' hi=>?_⟩;by_cases e:i=who
 ·subst e;rw[Zx]at hi;cases hi;unfold JD
  split
  ·trivial
  ·split<;>trivial
 ·rw[Z0 _ _ e]at hi;exact R.run i x' res' ser' k' hi
theorem ZP2 (room):ZIQ room Jd:=⟨by
 have:Jd.ws.getD 32 0=0:=rfl;omega,λwho x res ser k hc=>by cases hc⟩
def SnR (ser:Int)(r:Zt):Prop:=r.granted=true->r.ser=ser/\ser≠0
def SnK (x:ZW)(ser:Int):YX->Prop
 |.put _ _ r=>x.op=2->SnR ser r
 |.mv _ _ _ (.count _ _ r)=>x.op=2->SnR ser r
 |.mvS _ _ _ _ (.count _ _ r)=>x.op=2->SnR ser r
 |.mv _ _ _ (.leave r)=>x.op=2->SnR ser r
 |.mvS _ _ _ _ (.leave r)=>x.op=2->SnR ser r
 |_=>True
def SnO (x:ZW)(ser:Int):Zs->Prop
 |.on k=>SnK x ser k
 |.fin r=>x.op=2->SnR ser r
theorem ZC1(h:r.granted=false):SnR ser r:=λe=>by rw[h]at e;cases e
theorem ZD0(h:x.op=2->SnR ser r):SnO x ser (YP res r):=by unfold YP;split<;>exact h
theorem ZGm(h:x.op=2->SnR ser r):SnO x ser (.on (Ji room res f c r)):=by unfold Ji;split<;>exact h
theorem ZUa:SnO x ser (Xd p room res ser f c):=by
 unfold Xd
 split
 ·exact ZD0 (λ_=>ZC1 rfl)
 ·split
  ·next h=>exact ZGm (λ_ _=>⟨rfl,by omega⟩)
  ·trivial
theorem ZCO:SnO x ser (Zu j shards gone):=by
 unfold Zu
 split
 ·exact λ_=>ZC1 rfl
 ·trivial
theorem ZPr:SnO x ser (ZAq P room x res ser word v l):=by
 unfold ZAq
 dsimp only
 split
 ·trivial
 ·split
  ·exact ZUa
  ·next h2=>
   split
   ·split
    ·exact λe=>absurd e h2
    ·exact ZGm (λe=>absurd e h2)
   ·split
    ·exact λe=>absurd e h2
    ·trivial
theorem ZSL:SnO x ser (ZEN P room x res ser word v l t):=by
 cases t with
 |begin=>exact ZPr
 |evict j shards gone=>
  show SnO x ser (if l.length=0 then _ else _)
  split
  ·exact ZCO
  ·trivial
theorem ZGD:SnO x ser (Yx P room x res ser sum word v l t):=by
 unfold Yx
 split
 ·trivial
 ·exact ZSL
theorem ZHM:SnO x ser (.on (XM level i)):=by
 unfold XM
 split<;>trivial
theorem ZFh{t:Jk}:SnO x ser (XR P room x res ser word v l t):=by
 cases t with
 |find sum t=>
  show SnO x ser (if v=0 then _ else _)
  split
  ·trivial
  ·exact ZGD
 |move1 level i holds=>trivial
 |move2 level i=>exact ZHM
theorem ZWG{s:KC}(hk:ZBn P room N s.wh x s.res s.ser k)(hs:SnK x s.ser k)(Bn:s.ws.getD 33 0<=4611686018427387903):SnO x (Z6 P room x s k).1.ser (Z6 P room x s k).2/\(∀r,(Z6 P room x s k).2=.fin r->(Z6 P room x s k).1.ser=s.ser):=by
 cases k with
 |find sum t=>
  dsimp only[Z6]
  refine⟨?_,λ_ _=>rfl⟩
  split<;>trivial
 |enter sum word t=>exact⟨ZGD,λ_ _=>rfl⟩
 |frz word t=>
  dsimp only[Z6]
  refine⟨?_,λ_ _=>rfl⟩
  split
  ·cases t<;>trivial
  ·trivial
 |frzS word v holds t=>
  dsimp only[Z6]
  split
  ·refine⟨?_,λ_ _=>rfl⟩;cases t<;>trivial
  ·exact⟨trivial,λ_ _=>rfl⟩
 |half level shard holds t=>
  dsimp only[Z6]
  refine⟨?_,λ_ _=>rfl⟩
  split
  ·exact ZFh
  ·trivial
 |halfS level shard holds t=>
  dsimp only[Z6]
  split
  ·exact⟨ZFh,λ_ _=>rfl⟩
  ·exact⟨ZFh,λ_ _=>rfl⟩
 |split=>
  dsimp only[Z6]
  refine⟨?_,λ_ _=>rfl⟩
  split
  ·exact ZHM
  ·split
   ·exact λ_=>ZC1 rfl
   ·trivial
 |splitS d=>
  dsimp only[Z6]
  split
  ·exact⟨ZHM,λ_ _=>rfl⟩
  ·exact⟨trivial,λ_ _=>rfl⟩
 |moveEnd level=>
  dsimp only[Z6]
  split
  ·exact⟨λ_=>ZC1 rfl,λ_ _=>rfl⟩
  ·exact⟨λ_=>ZC1 rfl,λ_ _=>rfl⟩
 |mv word by_ stop t=>
  dsimp only[Z6]
  refine⟨?_,λ_ _=>rfl⟩
  split
  ·cases t with
   |leave r=>exact hs
   |gone j sh was n=>exact λ_=>ZC1 rfl
   |count f c r=>exact λ_=>ZC1 rfl
   |serial f c=>exact ZD0 (λ_=>ZC1 rfl)
  ·cases t<;>exact hs
 |mvS word by_ stop v t=>
  dsimp only[Z6]
  split
  ·next q=>
   cases t with
   |leave r=>exact⟨hs,λ_ _=>rfl⟩
   |gone j sh was n=>exact⟨ZCO,λ_ _=>rfl⟩
   |count f c r=>exact⟨hs,λ_ _=>rfl⟩
   |serial f c=>
    have hk:MOk P room N s.wh x s.res s.ser word by_ stop (.serial f c):=hk;obtain⟨rfl,rfl,_⟩:=hk;have q:s.ws.getD 33 0=v:=q;refine⟨ZGm (λ_ _=>⟨rfl,?_⟩),λr e=>by cases e⟩;show(((v+1) % 18446744073709551616:Nat):Int)≠0;omega
  ·refine⟨?_,λ_ _=>rfl⟩;cases t<;>exact hs
 |put f c r=>
  dsimp only[Z6]
  split
  ·refine⟨?_,λ_ _=>rfl⟩
   split
   ·exact hs
   ·exact ZD0 hs
  ·exact⟨trivial,λ_ _=>rfl⟩
 |peek c=>exact⟨λ_=>ZC1 rfl,λ_ _=>rfl⟩
 |allow f c=>
  have h1:x.op=1:=hk.1
  dsimp only[Z6]
  refine⟨?_,λ_ _=>rfl⟩
  split
  ·exact ZD0 (λe=>by omega)
  ·exact ZGm (λe=>by omega)
 |evFirst=>exact⟨trivial,λ_ _=>rfl⟩
 |evScan j sh gone word v cells=>
  dsimp only[Z6]
  refine⟨?_,λ_ _=>rfl⟩
  split
  ·exact ZCO
  ·trivial
 |evSwap j sh gone word v rest n=>
  dsimp only[Z6]
  split
  ·exact⟨trivial,λ_ _=>rfl⟩
  ·exact⟨ZCO,λ_ _=>rfl⟩
structure ZBJ (T:List Int)(s:Z9):Prop where
 nodup:T.Nodup
 le:∀z ∈ T,z<=(s.ws.getD 33 0:Int)
 pend:∀who x res ser k,s.call who=.run x res ser k->ser≠0->ser ∉ T
 run:∀who x res ser k,s.call who=.run x res ser k->SnK x ser k
theorem ZSQ{s:Z9}(dM:∀p ∈ P,Yt p)(hN:N+1<=4611686018427387903)(hM:M+1<=5000)(h:ZCw P room N M s)(hc:s.call who=.run x res ser k)(v:ZBJ T s): ZBJ T (YM P room s who).1/\∀r,(Z6 P room x (s.kc res ser) k).2=.fin r->x.op=2->r.granted=true->r.ser ∉ T/\ZBJ (r.ser::T) (YM P room s who).1:=by
 have hr:=h.i.run who x res ser k hc;have so:=ZGs (c:=(Z6 P room x (s.kc res ser) k).1) (out:=(Z6 P room x (s.kc res ser) k).2) dM hN hM h.i hc rfl;have Bn:s.ws.getD 33 0<=N:=h.i.w.n33;obtain⟨sn,sf⟩:=ZWG (P:=P) (room:=room) (N:=N) (x:=x) (s:=s.kc res ser) (k:=k) hr.kont (v.run who x res ser k hc) (by show s.ws.getD 33 0<=_;omega);have ym:s.ws.getD 33 0<=(Z6 P room x (s.kc res ser) k).1.ws.getD 33 0:=so.g.n33;have mj:=so.sn;rw[ZDb P room s who hc];revert sn sf ym mj;generalize Z6 P room x (s.kc res ser) k=o;obtain⟨c,out⟩:=o;intro sn sf ym mj
 dsimp only at sn sf ym mj ⊢
 have oV:∀i x' res' ser' k',i≠who->((s.of c).put who (ZQE x c out)).call i=.run x' res' ser' k'->s.call i=.run x' res' ser' k':=λi x' res' ser' k' e hi=>by rw[Z0 _ _ e]at hi;exact hi
 have df:∀z ∈ T,z<=(c.ws.getD 33 0:Int):=λz hz=>by have:=v.le z hz;omega
 refine⟨⟨v.nodup,df,λi x' res' ser' k' hi n=>?_,λi x' res' ser' k' hi=>?_⟩,λr e ho hg=>?_⟩
 ·by_cases e:i=who
  ·subst e;rw[Zx]at hi;cases out with
   |fin r=>cases hi
   |on k2=>
    cases hi;rcases mj with q|⟨q1,q2,q3,q4⟩
    ·rw[q]at n ⊢;exact v.pend i _ _ _ _ hc n
    ·intro hm;have:=v.le _ hm;have q4:s.ws.getD 33 0<c.ws.getD 33 0:=q4;omega
  ·exact v.pend i x' res' ser' k' (oV i x' res' ser' k' e hi) n
 ·by_cases e:i=who
  ·subst e;rw[Zx]at hi;cases out with
   |fin r=>cases hi
   |on k2=>cases hi;exact sn
  ·exact v.run i x' res' ser' k' (oV i x' res' ser' k' e hi)
 ·subst e;have sn:x.op=2->SnR c.ser r:=sn;obtain⟨e1,e2⟩:=sn ho hg;rw[sf r rfl]at e1 e2;have gj:=v.pend who _ _ _ _ hc e2;rw[e1];have e2:ser≠0:=e2;refine⟨gj,Zfc.2 ⟨gj,v.nodup⟩,λz hz=>?_,λi x' res' ser' k' hi n=>?_,λi x' res' ser' k' hi=>?_⟩
  ·rcases ZfO.1 hz with hz|hz
   ·rw[hz];have h1:ser<=(s.ws.getD 33 0:Int):=(hr.ser0 e2).2.2;show ser<=(c.ws.getD 33 0:Int);omega
   ·exact df z hz
  ·by_cases e:i=who
   ·subst e;rw[Zx]at hi;cases hi
   ·have nM:=oV i x' res' ser' k' e hi;intro hm;rcases ZfO.1 hm with hm|hm
    ·exact e (h.i.dist i who _ _ _ _ _ _ _ _ nM hc n hm)
    ·exact v.pend i x' res' ser' k' nM n hm
  ·by_cases e:i=who
   ·subst e;rw[Zx]at hi;cases hi
   ·exact v.run i x' res' ser' k' (oV i x' res' ser' k' e hi)
theorem ZPx{s:Z9}(v:ZBJ T s):ZBJ T (s.put who (.run x false 0 (JD x))):=by
 refine⟨v.nodup,v.le,λi x' res' ser' k' hi n=>?_,λi x' res' ser' k' hi=>?_⟩
 ·by_cases e:i=who
  ·subst e;rw[Zx]at hi;cases hi;exact absurd rfl n
  ·rw[Z0 _ _ e]at hi;exact v.pend i x' res' ser' k' hi n
 ·by_cases e:i=who
  ·subst e;rw[Zx]at hi;cases hi;unfold JD
   split
   ·trivial
   ·split<;>trivial
  ·rw[Z0 _ _ e]at hi;exact v.run i x' res' ser' k' hi
theorem ZSR:ZBJ [] Jd:=⟨List.nodup_nil,(λz hz=>by cases hz),(λwho x res ser k hc=>by cases hc),λwho x res ser k hc=>by cases hc⟩
theorem ZBJ.perm{T':List Int}{s:Z9}(v:ZBJ T s)(h:T.Perm T'):ZBJ T' s:=⟨h.nodup_iff.1 v.nodup,λz hz=>v.le z (h.mem_iff.2 hz),λwho x res ser k hc n hm=>v.pend who x res ser k hc n (h.mem_iff.2 hm),v.run⟩
theorem ZBJ.clk{s:Z9}(v:ZBJ T s)(clk):ZBJ T {s with clk:=clk}:=⟨v.nodup,v.le,v.pend,v.run⟩
def YF (w:World)(base:Nat)(A:Option Addr)(n c:Nat)(l:List ZL)(rs:List Z7):Prop:=rs.length=l.length/\l.length=n/\w.ownsRow base 62 4 (.slice A n c) n (Ya rs l)/\∀(i:Nat) (r:Z7) (e:ZL),rs[i]?=some r->l[i]?=some e->ZAX w r e/\ (∀a,r.K=some a->base<=a.block/\a.block<w.heap.size/\(Value.slice A n c).ownBlock≠some a.block)/\(∀a,r.H=some a->base<=a.block/\a.block<w.heap.size/\(Value.slice A n c).ownBlock≠some a.block)
theorem YF.nil (w base):YF w base none 0 0 [] []:=⟨rfl,rfl,ZgZ _ _ _ _,λi r e h=>by simp at h⟩
theorem YF.ext {w w':World}{base:Nat}{c:Nat}(h:YF w base A n c l rs)(x:ZM w w'):YF w' base A n c l rs:=
 ⟨h.1,h.2.1,Z5 h.2.2.1 x,λi r e h1 h2=>by
  obtain⟨a,b,d⟩:=h.2.2.2 i r e h1 h2;exact⟨a.ext x,λp hp=>⟨(b p hp).1,ZgB (b p hp).2.1 x.size,(b p hp).2.2⟩,λp hp=>⟨(d p hp).1,ZgB (d p hp).2.1 x.size,(d p hp).2.2⟩⟩⟩
theorem ZOc{l':List ZL}(h:rs.length=l.length):Ya (rs++rs') (l++l')=Ya rs l++Ya rs' l':=ZEx Yh h
theorem YF.more {w w5 w6:World}{base k c m:Nat}{l':List ZL}(h:YF w base A k c l rs)(x5:ZM w w5)(hm:l'.length=m)(hl:rs'.length=l'.length)(hp:∀(i:Nat) (r:Z7) (e:ZL),rs'[i]?=some r->l'[i]?=some e->ZAX w5 r e/\(∀a,r.K=some a->base<=a.block/\a.block<w5.heap.size/\(Value.slice A k c).ownBlock≠some a.block)/\(∀a,r.H=some a->base<=a.block/\a.block<w5.heap.size/\(Value.slice A k c).ownBlock≠some a.block))(o6:w6.ownsRow base 62 4 (.slice B (k+m) cb) (k+m) (Ya rs l++Ya rs' l'))(g6:w5.grownBy w6 (Value.slice A k c).ownBlock)(b6:(Value.slice B (k+m) cb).ownBlock=(Value.slice A k c).ownBlock\/(Value.slice B (k+m) cb).ownBlock=some w5.heap.size):YF w6 base B (k+m) cb (l++l') (rs++rs'):=by
 have g:GB w5 w6 (λi=>(Value.slice A k c).ownBlock=some i):=(GB.refl w5 _).grown g6 (λq e=>.inl e);have nb:∀q,q<w5.heap.size->(Value.slice A k c).ownBlock≠some q->(Value.slice B (k+m) cb).ownBlock≠some q:=λq hq hn e=>by
  rcases b6 with b|b
  ·exact hn (b ▸ e)
  ·rw[b]at e;injection e with e;omega
 obtain⟨h1,h2,h3,h4⟩:=h;refine⟨by rw[ZfE,ZfE,h1,hl],by rw[ZfE,h2,hm],by rw[ZOc h1];exact o6,λi r e hr he=>?_⟩;have key:∀{r:Z7} {e:ZL},(ZAX w5 r e/\(∀a,r.K=some a->base<=a.block/\a.block<w5.heap.size/\(Value.slice A k c).ownBlock≠some a.block)/\(∀a,r.H=some a->base<=a.block/\a.block<w5.heap.size/\(Value.slice A k c).ownBlock≠some a.block))-> ZAX w6 r e/\(∀a,r.K=some a->base<=a.block/\a.block<w6.heap.size/\(Value.slice B (k+m) cb).ownBlock≠some a.block)/\(∀a,r.H=some a->base<=a.block/\a.block<w6.heap.size/\(Value.slice B (k+m) cb).ownBlock≠some a.block):=λ{r e} ⟨p1,p2,p3⟩=>
  ⟨⟨p1.1,g.rd p1.2.1 (λa ha e=>(p2 a ha).2.2 e),p1.2.2.1,g.rd p1.2.2.2 (λa ha e=>(p3 a ha).2.2 e)⟩,λa ha=>⟨(p2 a ha).1,ZgB (p2 a ha).2.1 g.size,nb _ (p2 a ha).2.1 (p2 a ha).2.2⟩,λa ha=>⟨(p3 a ha).1,ZgB (p3 a ha).2.1 g.size,nb _ (p3 a ha).2.1 (p3 a ha).2.2⟩⟩
 rcases ZgC i l.length with hi|hi
 ·rw[Ze0 (by rw[h1];exact hi)]at hr;rw[Ze0 hi]at he;obtain⟨k1,k2,k3⟩:=h4 i r e hr he;exact key ⟨k1.ext x5,λa ha=>⟨(k2 a ha).1,ZgB (k2 a ha).2.1 x5.size,(k2 a ha).2.2⟩,λa ha=>⟨(k3 a ha).1,ZgB (k3 a ha).2.1 x5.size,(k3 a ha).2.2⟩⟩
 ·rw[Ze1 (by rw[h1];exact hi)]at hr;rw[Ze1 hi]at he;rw[h1]at hr;exact key (hp _ r e hr he)
theorem ZIX {aw:Array Oper}{o:Oper}{a:Act}{K:Act->World->Prop}{Q:Exit->Act->World->Prop}{E:Prop}(w:World)(bu:o.guard=none)(s x)(ho:o.op=.call {callee:=.builtin .append,args:=#[s,x],argTypes:=#[56,56]})(base)(hs:a.eval s=.slice B n cb)(af:w.ownsRow base 62 4 (.slice B n cb) n xs){c:Nat}{y z u v:Value}(hx:a.eval x=.slice A 1 c)(hr:Rd w A [y,z,u,v])(hy:y.oneCell'=true)(hz:z.oneCell'=true)(hu:u.oneCell'=true)(hv:v.oneCell'=true)(hb:n<=100000)(an:base<=w.heap.size)(h:∀B' au w',w'.ownsRow base 62 4 (.slice B' (n+1) au) (n+1) (xs++[y,z,u,v])->w.grownBy w' (Value.slice B n cb).ownBlock-> ((Value.slice B' (n+1) au).ownBlock=(Value.slice B n cb).ownBlock\/(Value.slice B' (n+1) au).ownBlock=some w.heap.size)->K (a.put o.dst (.slice B' (n+1) au)) w'): if Region.wanted o (yielded aw a.tmps)=true then Oper.wp prog o a w K Q else E:=by
 have hw:Region.wanted o (yielded aw a.tmps)=true:=by simp[Region.wanted,bu]
 rw[Zgl hw];obtain⟨i0,hi,bV,bY,aS⟩:=Zgm ZGy;exact Jl w s x 56 ho base 62 underlying56 hi bV bY aS rfl (by decide) hs af hx (m:=1) (news:=[y,z,u,v]) rfl hr (by intro q hq;simp at hq;rcases hq with rfl|rfl|rfl|rfl<;>assumption) (by unfold maxLen;omega) ZB an h
def ZXZ (l:List ZL)(w:World)(e:Ending)(w':World):Prop:=∃A c rs,e=.returned (.slice A l.length c)/\YF w' w.heap.size A l.length c l rs/\ZM w w'
theorem Qq {p:Prop}(h:p:=by
 first
 |obtain -:=V1;obtain⟨HE,Hn,HK⟩:=Z8 hC.1 hl aX;clear hC hl aX;go_enter func118,ntmps118
 |obtain⟨S,lv,ov,bW,lk,tk,WA,A,wn,wc,n,c,-,-,h3,-,-,-,-,-,-,-,-,-,bP,bO,ei,eh,-⟩:=h;have c5:=ZX1 h3 5 (.slice A n c);have HE:=ZA (show ZEU w A s.led tk from⟨bP,ZKG ei,eh⟩);obtain⟨l,Hl⟩:=ZX2 (s.led);rw[Hl.o]at hn aX bO HE ⊢;have Hn:=ZA bO;have HK:=ZA aX;have bG:n<=100000:=by omega
  clear h3 bP bO ei eh aX hn;go_enter func71,ntmps71
 go_wp2_with fail;first|(obtain -:=V2;go_loopw [3,8] (λv i wr=>∃(k:Nat) (B:Option Addr) (cb:Nat) (kk:List Z7),k<=n/\i=.int .i64 k/\v=.slice B k cb/\YF wr w.heap.size B k cb (l.take k) kk/\ZM w wr) (λ_ i _=>n - (intOf i).toNat);case atStart=>exact⟨0,none,0,[],ZgR _,rfl,rfl,YF.nil _ _,ZM.refl w⟩)|(go_loopw [3,13] (λv i wr=>∃(k:Nat) (B:Option Addr) (cb:Nat) (kk:List Xu),k<=n/\i=.int .i64 k/\v=.slice B k cb/\ZAM wr w.heap.size B k cb (l.take k) kk/\ZM w wr) (λ_ i _=>n - (intOf i).toNat);case atStart=>exact⟨0,none,0,[],ZgR _,rfl,rfl,ZAM.nil _ _,ZM.refl w⟩)
 case round=>
  obtain⟨k,B,cb,kk,hk,rfl,rfl,hN,hx⟩:=hrel;by_cases ak:k<n
  ·obtain⟨e,he⟩:∃e,l[k]?=some e:=⟨_,Ze4 (by rw[Hn.o];exact ak)⟩;first|(obtain -:=V3;obtain⟨b,off,r,hA,jw,d0,d1,d2,d3,hpr⟩:=(HE.o.ext hx).at_ he)|obtain⟨b,off,K,kc,hA,jw,d0,d1,d2,cM,dQ⟩:=(HE.o.ext hx).at_ he
   have aP:=HK.o e (ZfU he);first|(obtain -:=V4;obtain⟨p,x,v,hd⟩:=e;obtain⟨K,kc,HD,hc⟩:=r;obtain⟨cM,dQ,xD,hhr⟩:=hpr;dsimp only at d0 d1 d2 d3 cM dQ xD hhr aP)|(obtain⟨p,x,v⟩:=e;dsimp only at d0 d1 d2 cM dQ aP)
   subst hA;obtain⟨m,Hm⟩:=ZX2 (x.length);first|(obtain -:=V5;obtain⟨q,Hq⟩:=ZX2 (hd.length);rw[Hm.o]at d1 cM aP;rw[Hq.o]at d3 xD aP)|(rw[Hm.o]at d1 cM;have hm:m<=5000:=by rw[<-Hm.o];exact aP)
   have HT:=ZA (Zv he);have HN:=ZA hN;have HX:=ZA hx;have bZ:w.heap.size<=wr.heap.size:=hx.size;first|(obtain -:=V6;obtain⟨W,hW,xW,KB⟩:=Za wr (.cells #[.int .i64 p,.slice K m kc,.int .i64 v,.slice HD q hc] 62);have CL:=ZA (λu (y:ZM W u)=>ZCS K m kc x u Hm.o ZB (dQ.ext (xW.trans y)));have CI:=ZA (λu (y:ZM W u)=>ZEg HD q hc hd u Hq.o ZB (hhr.ext (xW.trans y))))|(obtain⟨W,hW,xW,KB⟩:=Za wr (.cells #[.int .i64 p,.slice K m kc,.int .i64 v] 120);have CL:=ZA (λu (y:ZM W u)=>ZBW K m kc x u Hm.o ZB (dQ.ext (xW.trans y))))
   have XW:=ZA xW;have NW:=ZA (hN.ext xW);have uV:wr.heap.size<=W.heap.size:=xW.size;first|(obtain -:=V7;clear he aP dQ hhr hN hx xW jw cM xD;go_upto_region 5 with fail)|(clear he aP dQ hN hx xW jw;go_upto_region 7 with fail)
   (try rw[hW]);first|(obtain -:=V8;clear hW d0 d1 d2 d3)|clear hW d0 d1 d2
   have e0:=ZX1 KB.o 0 (.int .i64 p);have e1:=ZX1 KB.o 1 (.slice K m kc);have e2:=ZX1 KB.o 2 (.int .i64 v);first
   |obtain -:=V9;have e3:=ZX1 KB.o 3 (.slice HD q hc);have NE:=ZA (show(Value.slice B k cb).ownBlock≠some wr.heap.size from λe=>Zf9 _ (HN.o.2.2.1.lt _ e).2);have HS:=ZA (λ(w':World) (hE:ZM W w')=>(⟨ZF hE e0,ZF hE e1,ZF hE e2,ZF hE e3⟩:w'.cell? ⟨wr.heap.size,0,none⟩=some (.int .i64 p)/\w'.cell? ⟨wr.heap.size,1,none⟩=some (.slice K m kc)/\w'.cell? ⟨wr.heap.size,2,none⟩=some (.int .i64 v)/\w'.cell? ⟨wr.heap.size,3,none⟩=some (.slice HD q hc)));go_region_held3 (λu=>u.cell? ⟨wr.heap.size,0,none⟩=some (.int .i64 p)/\u.cell? ⟨wr.heap.size,1,none⟩=some (.slice K m kc)/\u.cell? ⟨wr.heap.size,2,none⟩=some (.int .i64 v)/\u.cell? ⟨wr.heap.size,3,none⟩=some (.slice HD q hc)) (((try go_split_ands);with_reducible first|exact HS.o _ (ZM.refl _)|exact HS.o _ (ZM.refl _).drew|exact HS.o _ X4.o|exact HS.o _ X5.o|exact HS.o _ (X5.o.alloc _)|exact⟨g6.cell (ZF (X5.o.alloc _) e0) NE.o.symm,g6.cell (ZF (X5.o.alloc _) e1) NE.o.symm,g6.cell (ZF (X5.o.alloc _) e2) NE.o.symm,g6.cell (ZF (X5.o.alloc _) e3) NE.o.symm⟩))
     (first
      |(go_at_call 67;(with_reducible refine(CL.o _ (by first|exact ZM.refl W|exact(ZM.refl W).drew)).mono ?_);rintro e w4 ⟨A4,c4,rfl,ho4,x4⟩;rw[Hm.o]at ho4 ⊢;have iu:=ZA ho4;have X4:=ZA ((show ZM W _ from by first|exact ZM.refl W|exact(ZM.refl W).drew).trans x4);clear ho4 x4)
      |(go_at_call 165;(with_reducible refine(CI.o _ X4.o).mono ?_);rintro e w5 ⟨A5,c5,rfl,gM,x5⟩;rw[Hq.o]at gM ⊢;have ou:=ZA gM;have BM:=ZA x5;have X5:=ZA (X4.o.trans x5);clear gM x5)
      |(refine ZIX (w5.alloc (.cells #[.int .i64 p,.slice A4 m c4,.int .i64 v,.slice A5 q c5] 62)) rfl (.tmp 12) (.tmp 24) rfl w.heap.size ZX0 (Z5 NW.o.2.2.1 (X5.o.alloc _)) ZX0 (show Rd _ _ _ from JP w5 [.int .i64 p,.slice A4 m c4,.int .i64 v,.slice A5 q c5] _ rfl) rfl rfl rfl rfl ZB (Zf8 (Zf8 bZ uV) (X5.o.alloc _).size) ?_;intro B' au w6 o6 g6 b6))
    all_goals
     have x6:ZM w w6:=((HX.o.trans XW.o).trans (X5.o.alloc _)).grown g6 (λq e=>(HN.o.2.2.1.lt q e).1);go_wp2_with fail
     go_roundw
     case rel=>
      refine⟨k+1,B',au,kk++[⟨A4,c4,A5,c5⟩],ak,by go_num,rfl,?_,x6⟩;rw[HT.o];have ev:Ya [⟨A4,c4,A5,c5⟩] [(⟨p,x,v,hd⟩:ZL)]=[.int .i64 p,.slice A4 m c4,.int .i64 v,.slice A5 q c5]:=by simp[Ya,Yh,Hm.o,Hq.o]
      refine NW.o.more (m:=1) (X5.o.alloc _) rfl rfl (λi r e hr he=>?_) (by rw[ev];exact o6) g6 b6;have hi:i=0:=by
       have:=(Ze5.1 hr).1;simp at this;exact this
      subst hi;simp at hr he;subst hr he;have sK:=HN.o.2.2.1.lt;have mp:=((ZM.refl w5).alloc (.cells #[.int .i64 p,.slice A4 m c4,.int .i64 v,.slice A5 q c5] 62)).size;refine⟨⟨by rw[Hm.o];exact YR iu.o,((Rd.of_own iu.o).ext BM.o).alloc _,by rw[Hq.o];exact YR ou.o,(XJ ou.o).alloc _⟩,λa ha=>?_,λa ha=>?_⟩
      ·obtain⟨a1,a2,-⟩:=ZAS iu.o a ha;have a1:W.heap.size<=a.block:=a1;refine⟨by omega,by have:=BM.o.size;omega,λe=>?_⟩;have:=(sK _ e).2;omega
      ·obtain⟨a1,a2,-⟩:=ZAS ou.o a ha;have a1:w4.heap.size<=a.block:=a1;have:=X4.o.size;refine⟨by omega,by omega,λe=>?_⟩;have:=(sK _ e).2;omega
     case measure=>simp[intOf];omega
   |go_region_held3 (λu=>u.cell? ⟨wr.heap.size,0,none⟩=some (.int .i64 p)/\u.cell? ⟨wr.heap.size,1,none⟩=some (.slice K m kc)/\u.cell? ⟨wr.heap.size,2,none⟩=some (.int .i64 v)) (((try dsimp only);refine⟨?_,?_,?_⟩<;>with_reducible first|assumption|exact ZJ e0|exact ZJ e1|exact ZJ e2|exact ZF ((ZM.refl _).alloc _) y0|exact ZF ((ZM.refl _).alloc _) y1|exact ZF ((ZM.refl _).alloc _) y2|exact g6.cell (ZF ((ZM.refl _).alloc _) y0) NE.symm|exact g6.cell (ZF ((ZM.refl _).alloc _) y1) NE.symm|exact g6.cell (ZF ((ZM.refl _).alloc _) y2) NE.symm))
     (first
      |(go_at_call 67;(with_reducible refine(CL.o _ (by first|exact ZM.refl W|exact(ZM.refl W).drew)).mono ?_);rintro e w4 ⟨A4,c4,rfl,ho4,x4⟩;rw[Hm.o]at ho4 ⊢;have iu:=ZA ho4;have X4:=ZA x4;have y0:=ZF x4 (ZJ e0);have y1:=ZF x4 (ZJ e1);have y2:=ZF x4 (ZJ e2);clear ho4 x4)
      |(refine ZE4 (w4.alloc (.cells #[.int .i64 p,.slice A4 m c4,.int .i64 v] 120)) rfl (.tmp 17) (.tmp 26) rfl w.heap.size ZX0 (Z5 NW.o.2.2.1 (((ZM.refl W).drew.trans X4.o).alloc _)) ZX0 (show Rd _ _ _ from JP w4 [.int .i64 p,.slice A4 m c4,.int .i64 v] _ rfl) rfl rfl rfl ZB (Zf8 (Zf8 bZ uV) (((ZM.refl W).drew.trans X4.o).alloc _).size) ?_;intro B' au w6 o6 g6 b6;have NE:(Value.slice B k cb).ownBlock≠some wr.heap.size:=λe=>Zf9 _ (ZgB (HN.o.2.2.1.lt _ e).2 (Zf6 _))))
    all_goals
     have x6:ZM w w6:=((((HX.o.trans XW.o).drew.trans X4.o).alloc _).grown g6 (λq e=>(HN.o.2.2.1.lt q e).1));go_wp2_with fail
     go_roundw
     case rel=>exact⟨k+1,B',au,kk++[(A4,c4)],ak,by go_num,rfl,by rw[HT.o];exact NW.o.snoc (w4:=w4) ((ZM.refl W).drew.trans X4.o) Hm.o iu.o (Zf6 _) (Zf8 bZ uV) ((ZM.refl w4).alloc _) o6 g6 b6,x6⟩
     case measure=>simp[intOf];omega
  ·obtain rfl:k=n:=by omega
   go_wp2_with fail;go_ret;rw[Zfp (by rw[Hn.o];exact Zf6 _)]at hN;exact⟨B,cb,kk,by rw[Hn.o];rfl,by rw[Hn.o];exact hN,hx⟩):p:=h
theorem ZRv (w X A n c)(l:List ZL)(rs)(hC:Zw w X A l rs)(hl:l.length=n)(hn:n<=5000)(aX:∀e ∈ l,e.key.length<=5000/\e.held.length<=5000): Calls prog 118 #[.slice A n c] w (ZXZ l w):=by
 obtain⟨V1,V2,V3,V4,V5,V6,V7,V8,V9⟩:=QA;exact Qq
section
open Go.Shelf
def ZLz:Go.Shelf.Ren:=⟨λ|125=>167|128=>226|129=>227|n=>n,λ|46=>111|3=>3|51=>352|53=>52|4=>4|5=>5|9=>9|n=>n,λ|n=>n⟩
theorem ZU4:Go.Proofs.Lays.n125 prog ZLz where
 mixed:=by kernel_rfl
 f125:=func167.trans (Zge some ZC)
 f128:=func226.trans (Zge some ZC)
 f129:=func227.trans (Zge some ZC)
 t3:=underlying3
 a3:=Tryz.isAgg3
 z3:=Tryz.sizeOf3
 v3:=Tryz.zeroValue3
 t4:=underlying4
 a4:=Tryz.isAgg4
 z4:=Tryz.sizeOf4
 v4:=Tryz.zeroValue4
 t5:=underlying5
 a5:=Tryz.isAgg5
 z5:=Tryz.sizeOf5
 v5:=Tryz.zeroValue5
 t9:=underlying9
 a9:=Tryz.isAgg9
 z9:=Tryz.sizeOf9
 v9:=Tryz.zeroValue9
 t46:=underlying111
 a46:=Tryz.isAgg111
 z46:=Tryz.sizeOf111
 v46:=Tryz.zeroValue111
 t51:=underlying352
 a51:=Tryz.isAgg352
 z51:=Tryz.sizeOf352
 v51:=Tryz.zeroValue352
 t53:=underlying52
 a53:=Tryz.isAgg52
 z53:=Tryz.sizeOf52
 v53:=Tryz.zeroValue52
open Go.RowKit in
theorem ZTy (x:Nat)(hx:x<18446744073709551616)(w:World): Calls prog 167 #[.int .u64 x] w λe w'=>(∃l:Int,e=.returned (.int .i64 l))/\w'=w:=(Any.bits_Len ZU4 x w ZB ZB).mono λ_ _ ⟨he,hw⟩=>⟨⟨_,he⟩,hw⟩
theorem ZQc (A n c f w)(hn:n<=1): Calls prog 218 #[.slice A n c,.int .i64 0,.int .i64 n,YD f #[]] w λe w'=>e=.returned (.tuple #[])/\w=w':=by
 have h1:¬(1:Int)<(n:Int):=by omega
 clear hn;go_enter func218,ntmps218;go_wp2_with fail
 go_loopw [8] (λv8 wr=>v8=.int .i64 1/\wr=w) (λ_ _=>0)
 case atStart=>exact⟨rfl,rfl⟩
 case round=>
  obtain⟨rfl,rfl⟩:=hrel;go_wp2_with fail
  go_end0
  exact⟨rfl,rfl⟩
theorem ZWn {aw:Array Oper}{rest:List Oper}{o:Oper}{a:Act}{Q:Exit->Act->World->Prop}(w:World)(bu:o.guard=none)(s x)(ho:o.op=.call {callee:=.builtin .append,args:=#[s,x],argTypes:=#[56,56]})(base)(hs:a.eval s=.slice B n cb)(af:w.ownsRow base 62 4 (.slice B n cb) n xs){m c:Nat}{news:List Value}(hx:a.eval x=.slice A m c)(hl:news.length=m*4)(hr:Rd w A news)(h1:∀v ∈ news,v.oneCell'=true)(hb:n+m<=1000000)(an:base<=w.heap.size)(h:∀B' au w',w'.ownsRow base 62 4 (.slice B' (n+m) au) (n+m) (xs++news)->w.grownBy w' (Value.slice B n cb).ownBlock-> ((Value.slice B' (n+m) au).ownBlock=(Value.slice B n cb).ownBlock\/(Value.slice B' (n+m) au).ownBlock=some w.heap.size)->wpList prog aw Q rest (a.put o.dst (.slice B' (n+m) au)) w'): wpList prog aw Q (o::rest) a w:=ZYI
theorem ZMa (rs l):∀v ∈ Ya rs l,v.oneCell'=true:=ZKz Yh (λr c=>ZF2 r c) rs l
theorem ZRa (rs:List Z7)(l:List ZL)(h:rs.length=l.length):(Ya rs l).length=l.length*4:=ZCa Yh 4 Xa rs l h
theorem YF.base {w:World}{base base':Nat}{A:Option Addr}{n c:Nat}{l:List ZL}{rs:List Z7}(h:YF w base A n c l rs)(hb:base'<=base):YF w base' A n c l rs:=
 ⟨h.1,h.2.1,Zj h.2.2.1 hb,λi r e h1 h2=>by
  obtain⟨a,b,d⟩:=h.2.2.2 i r e h1 h2;exact⟨a,λp hp=>⟨Zf8 hb (b p hp).1,(b p hp).2⟩,λp hp=>⟨Zf8 hb (d p hp).1,(d p hp).2⟩⟩⟩
theorem YF.app {w w5 w6:World}{base b5 k c m c5 cb:Nat}{A A5 B:Option Addr}{l l':List ZL}{rs rs':List Z7}(h:YF w base A k c l rs)(x5:ZM w w5)(h5:YF w5 b5 A5 m c5 l' rs')(uS:w.heap.size<=b5)(mB:base<=w.heap.size)(o6:w6.ownsRow base 62 4 (.slice B (k+m) cb) (k+m) (Ya rs l++Ya rs' l'))(g6:w5.grownBy w6 (Value.slice A k c).ownBlock)(b6:(Value.slice B (k+m) cb).ownBlock=(Value.slice A k c).ownBlock\/(Value.slice B (k+m) cb).ownBlock=some w5.heap.size):YF w6 base B (k+m) cb (l++l') (rs++rs'):=by
 have ak:=h.2.2.1.lt;refine h.more x5 h5.2.1 h5.1 (λi r e hr he=>?_) o6 g6 b6;obtain⟨a,b,d⟩:=h5.2.2.2 i r e hr he;exact⟨a,λp hp=>⟨by have:=(b p hp).1;omega,(b p hp).2.1,λe=>by have:=(ak _ e).2;have:=(b p hp).1;omega⟩,λp hp=>⟨by have:=(d p hp).1;omega,(d p hp).2.1,λe=>by have:=(ak _ e).2;have:=(d p hp).1;omega⟩⟩
end
theorem ZPt {α:Type}{l:List α}{k j:Nat}{a b:α}(hj:j=k+1)(ha:l[k]?=some a)(hb:l[j]?=some b):((l.set j a).set k b).Perm l:=by
 subst hj;have hk:=(Ze5.1 hb).1;have e1:l=l.take k++a::b::l.drop (k+2):=by
  have h1:=Zfl k l;have h2:l.drop k=a::l.drop (k+1):=by
   rw[List.drop_eq_getElem_cons ZB]
   congr 1
   rw[Ze4 ZB]at ha;injection ha
  have h3:l.drop (k+1)=b::l.drop (k+2):=by
   rw[List.drop_eq_getElem_cons ZB]
   congr 1
   rw[Ze4 ZB]at hb;injection hb
  rw[h2,h3]at h1;exact h1.symm
 have ak:(l.take k).length=k:=by rw[ZfL];omega
 have e2:(l.set (k+1) a).set k b=l.take k++b::a::l.drop (k+2):=by
  conv=>lhs;rw[e1]
  rw[List.set_append_right _ _ ZB,ak,show k+1 - k=1 by omega,List.set_append_right _ _ ZB,ak,Nat.sub_self];rfl
 rw[e2]
 conv=>rhs;rw[e1]
 exact(List.Perm.swap a b _).append_left _
theorem YF.swap {w:World}{base g n c k j:Nat}{l:List ZL}{rs:List Z7}{a b:ZL}{ra rb:Z7}(h:YF w base (some ⟨g,0,none⟩) n c l rs)(hj:j=k+1)(ha:l[k]?=some a)(hb:l[j]?=some b)(DW:rs[k]?=some ra)(wN:rs[j]?=some rb): YF ((w.setCells g (j*4) (Yh ra a)).setCells g (k*4) (Yh rb b)) base (some ⟨g,0,none⟩) n c ((l.set j a).set k b) ((rs.set j ra).set k rb)/\GB w ((w.setCells g (j*4) (Yh ra a)).setCells g (k*4) (Yh rb b)) (· =g):=by
 obtain⟨h1,h2,h3,h4⟩:=h;have xu:=(Ze5.1 hb).1;have je:=(Ze5.1 ha).1;obtain⟨p1,p2⟩:=JI (Yh ra a) w _ (j*4) h3;rw[ZDB h1 j ra a xu]at p1;obtain⟨q1,q2⟩:=JI (Yh rb b) _ _ (k*4) p1;rw[ZDB (by rw[ZfK,ZfK,h1]) k rb b (by rw[ZfK];exact je)]at q1;have gg:GB w ((w.setCells g (j*4) (Yh ra a)).setCells g (k*4) (Yh rb b)) (· =g):=(GB.refl w _).grown (World.grown_trans p2 q2) (λq e=>.inl (by injection e with e;exact e.symm));obtain⟨W1,hW1⟩:=ZX3 (((w.setCells g (j*4) (Yh ra a)).setCells g (k*4) (Yh rb b)));rw[hW1]at q1 gg ⊢;clear hW1;refine⟨⟨by rw[ZfK,ZfK,ZfK,ZfK,h1],by rw[ZfK,ZfK,h2],q1,λi r e hr he=>?_⟩,gg⟩;have key:∀{i0:Nat} {r:Z7} {e:ZL},rs[i0]?=some r->l[i0]?=some e->ZAX W1 r e/\(∀a,r.K=some a->base<=a.block/\a.block<W1.heap.size/\(Value.slice (some ⟨g,0,none⟩) n c).ownBlock≠some a.block)/\(∀a,r.H=some a->base<=a.block/\a.block<W1.heap.size/\(Value.slice (some ⟨g,0,none⟩) n c).ownBlock≠some a.block):=λ{i0 r e} hr he=>by
  obtain⟨a1,a2,a3⟩:=h4 i0 r e hr he;have bq:(Value.slice (some ⟨g,0,none⟩) n c).ownBlock=some g:=by
   have:=YR h3;have eL:0<n:=by omega
   simp[Value.ownBlock]
   try omega
  exact⟨⟨a1.1,gg.rd a1.2.1 (λq hq e=>(a2 q hq).2.2 (by rw[bq,e])),a1.2.2.1,gg.rd a1.2.2.2 (λq hq e=>(a3 q hq).2.2 (by rw[bq,e]))⟩,λq hq=>⟨(a2 q hq).1,ZgB (a2 q hq).2.1 gg.size,(a2 q hq).2.2⟩,λq hq=>⟨(a3 q hq).1,ZgB (a3 q hq).2.1 gg.size,(a3 q hq).2.2⟩⟩
 by_cases ek:k=i
 ·subst ek;rw[ZfA (by rw[ZfK,h1];exact je)]at hr;rw[ZfA (by rw[ZfK];exact je)]at he;injection hr with hr;injection he with he;subst hr he;exact key wN hb
 ·rw[Ze9 ek]at hr he;by_cases ej:j=i
  ·subst ej;rw[ZfA (by rw[h1];exact xu)]at hr;rw[ZfA xu]at he;injection hr with hr;injection he with he;subst hr he;exact key DW ha
  ·rw[Ze9 ej]at hr he;exact key hr he
end Go.Proofs.YtloidkmphigbdaaGreat
