/- Laid together: what 'TopBroken' needs, part 7 of 11. -/
import Derived.Shelf.Spec.SlicesInsertGrow
import Derived.Shelf.Slices.Delete
import Derived.Deep.DeepCutAuto
import Derived.Deep.RegionHeld3
import Derived.Shelf.Bytes.SlSmallAll
import Derived.Test.YtloidkmphigbdaaGreatBTopBroken1
import Derived.Test.YtloidkmphigbdaaGreatBTopBroken2
import Derived.Test.YtloidkmphigbdaaGreatBTopBroken3
import Derived.Test.YtloidkmphigbdaaGreatBTopBroken4
import Derived.Test.YtloidkmphigbdaaGreatBTopBroken6
namespace Go.Proofs.YtloidkmphigbdaaGreat
set_option linter.all false
set_option maxHeartbeats 40000000
set_option maxRecDepth 100000
open Go.RowKit
def ZbW := @List.nodup_cons
def Zbe := @List.set_eq_of_length_le
def Zbr := @Nat.add_le_add_left
def Zbs := @Nat.add_le_add_right
def Zby := @Nat.eq_zero_or_pos
def ZPq:YN->Nat
 |.put _ _ _=>1
 |_=>0
theorem ZMk {P:List YR}{room N M who:Nat}{s:YF}{x:ZX}{res:Bool}{ser:Int}{k:YN}{c:KC}{out:Zn}(hP:∀p ∈ P,Yd p)(hN:N+1<=4611686018427387903)(hM:M+1<=5000)(h:ZCP P room N M s)(hc:s.call who=.run x res ser k)(e:Yk P room x (s.kc res ser) k=(c,out)):ZML P room N (M+ZPq k) s.wh s.clk x ser k c out:=by
 have hr:=h.run who x res ser k hc;have hx:=hr.call;have W:=h.w;have W1:WOk P (N+1) M s.wh:=W.mono (Zb1 _) (Zb0 _);have hz:k.fresh->∀word,ser=0\/(Ser ser/\ser ∉ (YV (s.wh.hs.getD word []) x.pol x.key).held):=λf word=>by
  by_cases e0:ser=0
  ·exact .inl e0
  ·have h1:=hr.ser0 e0;have h2:=W.n33;refine .inr ⟨⟨h1.2.1,by omega⟩,λhm=>?_⟩;obtain⟨d,hd,hz⟩:=ZCj hm;exact hr.fresh f e0 word d hd hz
 have hk:=hr.kont.grow (ZAf.refl s.wh);have hk0:=hr.kont;have hfz:Za=4611686018427387904:=rfl;cases k with
 |find sum t=>
  obtain⟨h1,h2,h3⟩:=hk;have d:=W.d;have e:(s.kc res ser,if s.ws.getD 0 0 % 2=0 then Zn.on (.enter sum (ZP (s.ws.getD 0 0 / 2) sum) t) else .on (.frz (ZP (s.ws.getD 0 0 / 2) sum) (.find sum (s.ws.getD 0 0 / 2) t)))=(c,out):=e;injection e with e1 e2;subst e1;have d:s.ws.getD 0 0<=8:=d;have p:=Xp (shard:=sum) (show s.ws.getD 0 0 / 2<=4 by omega)
  split at e2<;>subst e2
  ·exact Z7 W rfl rfl rfl (λ_=>trivial) ⟨h1,h2,h3,p⟩
  ·exact Z7 W rfl rfl rfl (λ_=>trivial) ⟨⟨h1,h2,h3,by omega⟩,p⟩
 |enter sum word t=>
  obtain⟨h1,h2,h3,h4,h5⟩:=hk;injection e with e1 e2;subst e1 e2;exact Z7 W rfl rfl rfl (λ_=>trivial) (ZGa hP hx h1 h2 h3 h4 h5 W1 (hz trivial word))
 |frz word t=>
  obtain⟨h1,h2,h3⟩:=hk;have e:(s.kc res ser,if Za<=s.ws.getD word 0 then Zn.on (Xy (s.hs.getD word []) t) else .on (.frzS word (s.ws.getD word 0) (s.hs.getD word []) t))=(c,out):=e;injection e with e1 e2;subst e1
  split at e2<;>subst e2
  ·next q=>exact Z7 W rfl rfl rfl (λ_=>trivial) (ZJ5 h1 (W.cells word).1 ⟨word,h2,h3,q,rfl⟩)
  ·next q=>
   have b:=W1.word word h2 h3;have b:s.ws.getD word 0<=N+1\/(Za<=s.ws.getD word 0/\s.ws.getD word 0<=Za+(N+1)):=b;exact Z7 W rfl rfl rfl (λ_=>trivial) ⟨h1,⟨h2,h3,by omega,Zb0 _,λ_=>rfl⟩,(W.cells word).1⟩
 |frzS word v holds t=>
  obtain⟨h1,⟨a1,a2,a3,a4,a5⟩,h3⟩:=hk0;have e:(if s.ws.getD word 0=v then ((s.kc res ser).sw word (v+Za) holds,Zn.on (Xy holds t)) else (s.kc res ser,.on (.frz word t)))=(c,out):=e
  split at e<;>(injection e with e1 e2;subst e1 e2)
  ·next q=>
   subst q;have a5:s.hs.getD word []=holds:=a5 rfl;have wc:=W.cells word;have wh:=W.held word;have a3:s.ws.getD word 0<=N:=a3;obtain⟨w1,g1⟩:=ZFE (new:=s.ws.getD word 0+Za) (l:=holds) W (Zb0 M) a1 a2 (by show s.ws.getD word 0<_;omega) (by show s.ws.getD word 0<_;omega) (.inr ⟨by omega,by omega⟩) h3 (by rw[<-a5];exact wc.2) (by rw[<-a5];exact wh);refine⟨g1,w1,rfl,.inl rfl,.inl (ZAY W.lh ZB (λc hc z hz=>⟨word,c,by show c ∈ s.hs.getD word [];rw[a5];exact hc,hz⟩) []),λ_=>trivial,ZJ5 (h1.grow _) h3 ⟨word,a1,a2,?_,?_⟩⟩
   ·show Za<=(s.ws.set word _).getD word 0;rw[Z8 _ _ _ _ _ (by have:=W.lw;show word<s.ws.length;have:s.ws.length=34:=this;omega),Zcg rfl];omega
   ·show(s.hs.set word holds).getD word []=holds;rw[Z8 _ _ _ _ _ (by have:=W.lh;show word<s.hs.length;have:s.hs.length=34:=this;omega),Zcg rfl]
  ·exact Z7 W rfl rfl rfl (λ_=>trivial) ⟨h1,a1,a2⟩
 |half level shard holds t=>
  obtain⟨h1,h2,h3,h4,h5⟩:=hk;have p:=Xp (shard:=shard) h2;have e:(s.kc res ser,if s.ws.getD (ZP level shard) 0≠0 then Xd P room x res ser (ZP level shard) (s.ws.getD (ZP level shard) 0) (s.hs.getD (ZP level shard) []) t else .on (.halfS level shard holds t))=(c,out):=e;injection e with e1 e2;subst e1
  split at e2<;>subst e2
  ·exact Z7 W rfl rfl rfl (λ_=>trivial) (ZGP hP hx h3 p.1 p.2 W1 _ (λ_=>hz trivial _) _ (.inr ⟨rfl,rfl⟩))
  ·exact Z7 W rfl rfl rfl (λ_=>trivial) ⟨h1,h2,h3,h4,h5⟩
 |halfS level shard holds t=>
  obtain⟨h1,h2,h3,h4,h5⟩:=hk;have p:=Xp (shard:=shard) h2;have e:((if s.ws.getD (ZP level shard) 0=0 then (s.kc res ser).sw (ZP level shard) 1 (Xr holds level (ZP level shard - 2 ^ level)) else s.kc res ser),Xd P room x res ser (ZP level shard) 0 [] t)=(c,out):=e;injection e with e1 e2;subst e2;generalize ZP level shard=word at p e1 ⊢
  split at e1<;>subst e1
  ·next q=>
   obtain⟨i,i1,i2,i3,i4⟩:=h5;have ck:=ZSq h4 level (word - 2 ^ level);have hin:∀d ∈ Xr holds level (word - 2 ^ level),d ∈ s.wh.hs.getD i []:=λd hd=>by rw[i4];exact(List.mem_filter.1 hd).1
   obtain⟨w1,g1⟩:=ZFE (new:=1) (l:=Xr holds level (word - 2 ^ level)) W (Zb0 M) p.1 p.2 (by show s.ws.getD word 0<_;omega) (by show s.ws.getD word 0<_;omega) (.inl ZB) ck.1 (by have:=(W.cells i).2;rw[i4]at this;omega) (λd hd=>W.held i d (hin d hd));exact⟨g1,w1,rfl,.inl rfl,.inl (ZAY W.lh ZB (λd hd z hz=>⟨i,d,hin d hd,hz⟩) []),λ_=>trivial,ZGP hP hx (h3.grow g1) p.1 p.2 w1 0 (λq=>absurd rfl q) [] (.inl ⟨rfl,rfl⟩)⟩
  ·exact Z7 W rfl rfl rfl (λ_=>trivial) (ZGP hP hx h3 p.1 p.2 W1 0 (λq=>absurd rfl q) [] (.inl ⟨rfl,rfl⟩))
 |split=>
  have d:=W.d;have d:s.ws.getD 0 0<=8:=d;have e:(s.kc res ser,if s.ws.getD 0 0 % 2=1 then Zn.on (Xi (s.ws.getD 0 0 / 2) 0) else if s.ws.getD 0 0 / 2=4 then .fin (Yb 5) else .on (.splitS (s.ws.getD 0 0)))=(c,out):=e;injection e with e1 e2;subst e1
  split at e2
  ·subst e2;exact Z7 W rfl rfl rfl (λ_=>trivial) (ZIY ZB (ZcL _))
  ·split at e2<;>subst e2
   ·exact Z7 W rfl rfl rfl (λ_=>trivial) (ZA8 (by decide))
   ·exact Z7 W rfl rfl rfl (λ_=>trivial) ⟨by omega,by omega⟩
 |splitS d=>
  obtain⟨h1,h2⟩:=hk;have e:(if s.ws.getD 0 0=d then ((s.kc res ser).sw 0 (d+1) [],Zn.on (Xi (d / 2) 0)) else (s.kc res ser,.on .split))=(c,out):=e
  split at e<;>(injection e with e1 e2;subst e1 e2)
  ·obtain⟨w1,g1⟩:=ZCv (word:=0) (new:=d+1) W (.inl rfl) (λ_=>by omega) (λq=>by omega);exact⟨g1,w1,rfl,.inl rfl,.inl (ZAY W.lh ZB (λc hc=>by cases hc) []),λ_=>trivial,ZIY ZB (ZcL _)⟩
  ·exact Z7 W rfl rfl rfl (λ_=>trivial) trivial
 |moveEnd level=>
  have hl:level<=3:=hk;have e:((if s.ws.getD 0 0=2*level+1 then (s.kc res ser).sw 0 (2*level+2) [] else s.kc res ser),Zn.fin (Yb 0))=(c,out):=e;injection e with e1 e2;subst e2
  split at e1<;>subst e1
  ·obtain⟨w1,g1⟩:=ZCv (word:=0) (new:=2*level+2) W (.inl rfl) (λ_=>by omega) (λq=>by omega);exact⟨g1,w1,rfl,.inl rfl,.inl (ZAY W.lh ZB (λc hc=>by cases hc) []),λ_=>trivial,ZA8 (by decide)⟩
  ·exact Z7 W rfl rfl rfl (λ_=>trivial) (ZA8 (by decide))
 |mv word by_ stop t=>
  have hk:MOk P room (N+1) s.wh x res ser word by_ stop t:=hk;by_cases q:s.ws.getD word 0=stop
  ·cases t with
   |leave r=>
    have e:(s.kc res ser,if s.ws.getD word 0=stop then Zn.fin r else .on (.mvS word by_ stop (s.ws.getD word 0) (.leave r)))=(c,out):=e;rw[Zcg q]at e;injection e with e1 e2;subst e1 e2;exact Z7 W rfl rfl rfl (λf=>f.elim) hk.2.2.2
   |gone j shards was n=>
    have e:(s.kc res ser,if s.ws.getD word 0=stop then Zn.fin (Yb 0) else .on (.mvS word by_ stop (s.ws.getD word 0) (.gone j shards was n)))=(c,out):=e;rw[Zcg q]at e;injection e with e1 e2;subst e1 e2;exact Z7 W rfl rfl rfl (λf=>f.elim) (ZA8 (by decide))
   |count f ce r=>
    have e:(s.kc res ser,if s.ws.getD word 0=stop then Zn.fin (Yb 10) else .on (.mvS word by_ stop (s.ws.getD word 0) (.count f ce r)))=(c,out):=e;rw[Zcg q]at e;injection e with e1 e2;subst e1 e2;exact Z7 W rfl rfl rfl (λf=>f.elim) (ZA8 (by decide))
   |serial f ce=>
    have e:(s.kc res ser,if s.ws.getD word 0=stop then YT res (Yb 5) else .on (.mvS word by_ stop (s.ws.getD word 0) (.serial f ce)))=(c,out):=e;rw[Zcg q]at e;injection e with e1 e2;subst e1 e2;exact Z7 W rfl rfl rfl (λ_=>trivial) (ZD3 res (ZA8 (by decide))).1
  ·have e2:Yk P room x (s.kc res ser) (.mv word by_ stop t)=(s.kc res ser,.on (.mvS word by_ stop (s.ws.getD word 0) t)):=by
    show(s.kc res ser,_)=_;exact ZcZ (Prod.mk _) (Zcf q)
   rw[e2]at e;injection e with e1 e2;subst e1 e2;exact Z7 W rfl rfl rfl (by cases t<;>exact id) hk
 |mvS word by_ stop v t=>
  have hk0:MOk P room N s.wh x res ser word by_ stop t:=hk0;by_cases q:s.ws.getD word 0=v
  ·cases t with
   |leave r=>
    obtain⟨rfl,m1,m2,m3⟩:=hk0;have e:(if s.ws.getD 32 0=v then ((s.kc res ser).sw 32 ((v+by_) % 18446744073709551616) [],Zn.fin r) else (s.kc res ser,.on (.mv 32 by_ stop (.leave r))))=(c,out):=e;rw[Zcg q]at e;injection e with e1 e2;subst e1 e2;obtain⟨w1,g1⟩:=ZCv (word:=32) (new:=(v+by_) % 18446744073709551616) W (.inr (.inl rfl)) (λq=>by omega) (λq=>by omega);exact⟨g1,w1,rfl,.inl rfl,.inl (ZAY W.lh ZB (λc hc=>by cases hc) []),λf=>f.elim,m3⟩
   |gone j shards was n=>
    obtain⟨rfl,m1,m2,m3,m4,m5,m6,m7,m8⟩:=hk0;have e:(if s.ws.getD 32 0=v then ((s.kc res ser).sw 32 ((v+by_) % 18446744073709551616) [],Zo j shards (was+n)) else (s.kc res ser,.on (.mv 32 by_ stop (.gone j shards was n))))=(c,out):=e;rw[Zcg q]at e;injection e with e1 e2;subst e1 e2;obtain⟨w1,g1⟩:=ZCv (word:=32) (new:=(v+by_) % 18446744073709551616) W (.inr (.inl rfl)) (λq=>by omega) (λq=>by omega);exact⟨g1,w1,rfl,.inl rfl,.inl (ZAY W.lh ZB (λc hc=>by cases hc) []),λ_=>trivial,ZCE m2 m3 m4 ZB ZB⟩
   |count f ce r=>
    obtain⟨rfl,m1,m2,m3,m4,m5,m6⟩:=hk0;have e:(if s.ws.getD 32 0=v then ({(s.kc res ser).sw 32 ((v+by_) % 18446744073709551616) []with res:=true},Zn.on (.put f ce r)) else (s.kc res ser,.on (.mv 32 by_ stop (.count f ce r))))=(c,out):=e;rw[Zcg q]at e;injection e with e1 e2;subst e1 e2;obtain⟨w1,g1⟩:=ZCv (word:=32) (new:=(v+by_) % 18446744073709551616) W (.inr (.inl rfl)) (λq=>by omega) (λq=>by omega);exact⟨g1,w1,rfl,.inl rfl,.inl (ZAY W.lh ZB (λc hc=>by cases hc) []),λ_=>trivial,⟨m3,m4.grow g1,m5.grow _,m6⟩⟩
   |serial f ce=>
    obtain⟨rfl,rfl,m2,m3,rfl,m4,rfl,m6⟩:=hk0;have e:(if s.ws.getD 33 0=v then ({(s.kc res 0).sw 33 ((v+1) % 18446744073709551616) []with ser:=(((v+1) % 18446744073709551616:Nat):Int)},Zn.on (Jk room res f (ZAE (Zk P x.pol) (YV f.cells x.pol x.key) ((v+1) % 18446744073709551616:Nat)).2 (ZAE (Zk P x.pol) (YV f.cells x.pol x.key) ((v+1) % 18446744073709551616:Nat)).1)) else (s.kc res 0,.on (.mv 33 1 stop (.serial f (YV f.cells x.pol x.key)))))=(c,out):=e;have hv:s.ws.getD 33 0<=N:=W.n33;rw[Zcg q,show(v+1) % 18446744073709551616=v+1 by omega]at e;injection e with e1 e2;subst e1 e2;obtain⟨w1,g1⟩:=ZCv (word:=33) (new:=v+1) W (.inr (.inr rfl)) (λq=>by omega) (λ_=>⟨by show s.ws.getD 33 0<=_;omega,by omega⟩);have e33:(s.ws.set 33 (v+1)).getD 33 0=v+1:=by
     rw[Z8 _ _ _ _ _ (by have:s.ws.length=34:=W.lw;omega),Zcg rfl]
    have hF:=m4.grow g1
    obtain⟨a,b⟩:=ZKZ (ser:=((v+1:Nat):Int)) hP hx m3 hF m6 ⟨by omega,by omega⟩ (λhm=>by
     obtain⟨d,hd,hz⟩:=ZCj hm;have:=m4.ser d hd _ hz;have this:((v+1:Nat):Int)<=(s.ws.getD 33 0:Int):=this;omega)
    exact⟨g1,w1,rfl,.inr ⟨rfl,m3,by show((v+1:Nat):Int)=(((s.ws.set 33 (v+1)).getD 33 0:Nat):Int);rw[e33],by show s.ws.getD 33 0<(s.ws.set 33 (v+1)).getD 33 0;rw[e33];omega⟩,.inl (ZAY W.lh ZB (λc hc=>by cases hc) []),λ_=>trivial,ZFI res ZB hF a b⟩
  ·have e2:Yk P room x (s.kc res ser) (.mvS word by_ stop v t)=(s.kc res ser,.on (.mv word by_ stop t)):=Zcf q;rw[e2]at e;injection e with e1 e2;subst e1 e2;exact Z7 W rfl rfl rfl (by cases t<;>exact id) hk
 |put f ce r=>
  obtain⟨h1,h2,h3,h4⟩:=hk0;obtain⟨a1,a2,a3,a4,a5⟩:=h2.same;have e:(if s.ws.getD f.word 0=f.v then ((s.kc res ser).sw f.word (f.v+1) (Xg f.cells f.at_ f.there ce),if f.there=false then Zn.fin r else YT res r) else (s.kc res ser,.on (.find (JD x.id) .begin)))=(c,out):=e
  split at e<;>(injection e with e1 e2;subst e1 e2)
  ·next q=>
   have a5:s.wh.hs.getD f.word []=f.cells:=a5 q;have wc:=W.cells f.word;have hl:f.cells.length<=M:=by rw[<-a5];exact wc.2
   have hwl:=ZOt f.cells f.at_ f.there ce;have hs33:ser≠0->ser<=(s.wh.ws.getD 33 0:Int):=λn=>(hr.ser0 n).2.2;have hor:∀d ∈ Xg f.cells f.at_ f.there ce,∀z ∈ d.held,Old s.wh z\/(z=ser/\ser≠0):=λd hd z hz=>by
    rcases ZFf hd with e9|hd
    ·rw[e9]at hz;rcases h3.held z hz with hz|hz
     ·obtain⟨d2,hd2,hz2⟩:=ZCj hz;exact .inl ⟨f.word,d2,by rw[a5];exact hd2,hz2⟩
     ·exact .inr hz
    ·exact .inl ⟨f.word,d,by rw[a5];exact hd,hz⟩
   obtain⟨w1,g1⟩:=ZFE (new:=f.v+1) (l:=Xg f.cells f.at_ f.there ce) (M':=M+1) W ZB a1 a2 (by show s.ws.getD f.word 0<_;omega) (by show s.ws.getD f.word 0<_;omega) (.inl ZB) ⟨by rw[h2.at_,h2.there,<-h3.id];exact ZI5 h2.ok.1,λd hd=>(ZFf hd).elim (λe=>by rw[e];exact h3.ok) (λe=>h2.ok.2.1 d e),by omega⟩ ZB (λd hd z hz=>by
    rcases hor d hd z hz with⟨i,d2,hd2,hz2⟩|⟨rfl,n⟩
    ·exact W.held i d2 hd2 z hz2
    ·exact hs33 n)
   have ho:ZCN P room (N+1) (WH.mk (s.ws.set f.word (f.v+1)) (s.hs.set f.word (Xg f.cells f.at_ f.there ce))) x res ser (if f.there=false then Zn.fin r else YT res r)/\¬(if f.there=false then Zn.fin r else YT res r).fresh:=by
    split
    ·exact⟨h4,id⟩
    ·exact ZD3 res h4
   exact⟨g1,w1,rfl,.inl rfl,.inr ⟨ZJc W.lh ZB hor [],rfl,ho.2⟩,λ_=>trivial,ho.1⟩
  ·exact⟨ZAf.refl _,W.mono (Zb1 _) (Zb1 _),rfl,.inl rfl,.inl λi c' hc z hz=>⟨i,c',hc,hz⟩,λ_=>trivial,⟨by show x.op<=4;omega,rfl,ZMX _⟩⟩
 |peek ce=>
  obtain⟨h1,h2,h3⟩:=hk;injection e with e1 e2;subst e1 e2;obtain⟨_,_,_,t1,t2,_⟩:=h3;have:=h.clk;exact Z7 W rfl rfl rfl (λ_=>trivial) (ZRN (ZFK (ZDX hP (hx.2.2.1 ZB).1) h2) t1 t2 (by show(0:Int)<=(s.clk:Int);omega) this)
 |allow f ce=>
  obtain⟨h1,h2,rfl⟩:=hk;have hc:=ZAn hP hx ZB h2;have ha:=hx.2.2.2.1 h1;have hcl:=h.clk;have ai:=ZQh (now:=(s.clk:Int)) (n:=x.n) (ZFK (ZDX hP (hx.2.2.1 ZB).1) ha.1) hc.2.2.2.1 hc.2.2.2.2.1 ZB hcl ha.2.1;have e:(s.kc res ser,if (Yo (Zk P x.pol) (YV f.cells x.pol x.key) s.clk x.n).1.granted=false\/x.n=0 then YT res (Yo (Zk P x.pol) (YV f.cells x.pol x.key) s.clk x.n).1 else .on (Jk room res f (Yo (Zk P x.pol) (YV f.cells x.pol x.key) s.clk x.n).2 (Yo (Zk P x.pol) (YV f.cells x.pol x.key) s.clk x.n).1))=(c,out):=e;injection e with e1 e2;subst e1
  split at e2<;>subst e2
  ·exact Z7 W rfl rfl rfl (λ_=>trivial) (ZD3 res ai.1).1
  ·exact Z7 W rfl rfl rfl (λ_=>trivial) (ZFI res ZB h2 ⟨⟨hc.1,hc.2.1,hc.2.2.1,ai.2.1,ai.2.2,hc.2.2.2.2.2⟩,ZIp f.cells x,λz hz=>.inl hz⟩ ai.1)
 |evFirst=>
  have ho:x.op=5:=hk;injection e with e1 e2;subst e1 e2;have d:=W.d;have d:s.ws.getD 0 0<=8:=d;have q1:2 ^ ((s.ws.getD 0 0+1) / 2)<=16:=ZcI (n:=2) (j:=4) ZB ZB;have q2:1<=2 ^ ((s.ws.getD 0 0+1) / 2):=ZcG;exact Z7 W rfl rfl rfl (λ_=>trivial) ⟨⟨ho,q2,q1,Int.le_refl _,by omega⟩,rfl,by omega⟩
 |evScan j shards gone word v cells=>
  obtain⟨h1,h2,h3,h4,h5,h6,h7⟩:=hk;have e:(s.kc res ser,if cells.length - (cells.filter λc=>!ZAb P s.clk c).length=0 then Zo j shards gone else .on (.evSwap j shards gone word v (cells.filter λc=>!ZAb P s.clk c) (cells.length - (cells.filter λc=>!ZAb P s.clk c).length)))=(c,out):=e;injection e with e1 e2;subst e1;have:=h7.2.2
  split at e2<;>subst e2
  ·exact Z7 W rfl rfl rfl (λ_=>trivial) (ZCE h1 h2 h3 h4 ZB)
  ·exact Z7 W rfl rfl rfl (λ_=>trivial) ⟨h1,h2,h3,h4,h5,by omega,by omega,cells,h6,h7,List.filter_sublist,by omega⟩
 |evSwap j shards gone word v rest n=>
  obtain⟨h1,h2,h3,h4,h5,h6,h7,cells,⟨a1,a2,a3,a4,a5⟩,h8,h9,_⟩:=hk0;have e:(if s.ws.getD word 0=v then ((s.kc res ser).sw word (v+1) rest,Zn.on (.mv 32 (18446744073709551616 - n) JH (.gone j shards gone n))) else (s.kc res ser,Zo j shards gone))=(c,out):=e
  split at e<;>(injection e with e1 e2;subst e1 e2)
  ·next q=>
   have a5:s.wh.hs.getD word []=cells:=a5 q;have hin:∀d ∈ rest,d ∈ s.wh.hs.getD word []:=λd hd=>by rw[a5];exact h9.subset hd
   have wc:=(W.cells word).2;rw[a5]at wc;have:=h9.length_le;obtain⟨w1,g1⟩:=ZFE (new:=v+1) (l:=rest) W (Zb0 M) a1 a2 (by show s.ws.getD word 0<_;omega) (by show s.ws.getD word 0<_;omega) (.inl ZB) (ZSQ h8 h9) ZB (λd hd=>W.held word d (hin d hd));exact⟨g1,w1,rfl,.inl rfl,.inl (ZAY W.lh ZB (λd hd z hz=>⟨word,d,hin d hd,hz⟩) []),λ_=>trivial,⟨rfl,rfl,h1,h2,h3,h4,h5,h7,rfl⟩⟩
  ·exact Z7 W rfl rfl rfl (λ_=>trivial) (ZCE h1 h2 h3 h4 ZB)
theorem ZNf {P:List YR}{room N M who:Nat}{s:YF}{x:ZX}{res:Bool}{ser:Int}{k:YN}(hP:∀p ∈ P,Yd p)(hN:N+1<=4611686018427387903)(hM:M+1<=5000)(h:ZCP P room N M s)(hc:s.call who=.run x res ser k): ZCP P room (N+1) (M+ZPq k) (YA P room s who).1/\∀r,(YA P room s who).2=some r->RIn r:=by
 have hs:=ZMk (c:=(Yk P room x (s.kc res ser) k).1) (out:=(Yk P room x (s.kc res ser) k).2) hP hN hM h hc rfl;have hn:=ZNg h hc hs
 have e:YA P room s who=(match Yk P room x (s.kc res ser) k with
  |(c,.on k')=>((s.of c).put who (.run x c.res c.ser k'),none)
  |(c,.fin r)=>((s.of c).put who .idle,some r)):=by
  unfold YA;rw[hc];rfl
 rw[e];revert hs hn;generalize Yk P room x (s.kc res ser) k=o;obtain⟨c,out⟩:=o;cases out with
 |on k'=>exact λhs hn=>⟨hn,λr q=>by cases q⟩
 |fin r=>exact λhs hn=>⟨hn,λr' q=>by cases q;exact hs.ok⟩
theorem ZCP.mono {P:List YR}{room N N' M M':Nat}{s:YF}(h:ZCP P room N M s)(a:N<=N')(b:M<=M'):ZCP P room N' M' s:=by
 obtain⟨d,rfl⟩:=Nat.exists_eq_add_of_le a
 induction d with
 |zero=>exact⟨h.w.mono (Zb0 _) b,h.clk,h.run,h.dist⟩
 |succ n ih=>
  have ih:=ih (Nat.le_add_right _ _);exact⟨ih.w.mono (Zb1 _) (Zb0 _),ih.clk,λwho x res ser k hc=>⟨(ih.run who x res ser k hc).call,(ih.run who x res ser k hc).ser0,(ih.run who x res ser k hc).fresh,(ih.run who x res ser k hc).kont.grow (ZAf.refl _)⟩,ih.dist⟩
theorem ZLO {P:List YR}{room N M who:Nat}{s:YF}{x:ZX}(h:ZCP P room N M s)(hx:Y3 P x)(hi:s.call who=.idle):ZCP P room N M (s.put who (.run x false 0 (Xz x))):=by
 refine⟨h.w,h.clk,λw x' res ser k hc=>?_,λa b x1 r1 s1 k1 x2 r2 s2 k2 ha hb n e=>?_⟩
 ·by_cases e:w=who
  ·subst e;rw[YD]at hc;cases hc;refine⟨hx,λn=>absurd rfl n,λ_ n=>absurd rfl n,?_⟩;unfold Xz
   split
   ·exact trivial
   ·split
    ·next q=>exact q
    ·exact⟨by show x.op<=4;have:=hx.2.1;omega,rfl,ZMX _⟩
  ·rw[YC _ _ e]at hc;exact h.run w x' res ser k hc
 ·by_cases ea:a=who
  ·rw[ea,YD]at ha;cases ha;exact absurd rfl n
  ·by_cases eb:b=who
   ·rw[eb,YD]at hb;cases hb;exact absurd e n
   ·rw[YC _ _ ea]at ha;rw[YC _ _ eb]at hb;exact h.dist a b x1 r1 s1 k1 x2 r2 s2 k2 ha hb n e
theorem ZNh (P:List YR)(room:Nat):ZCP P room 1 0 JY:=by
 have e:∀i,JY.hs.getD i []=[]:=λi=>by
  show(List.replicate 34 ([]:List ZO)).getD i []=[];rw[Zau,Za3]
  split<;>rfl
 have e2:∀i,JY.ws.getD i 0<=1:=λi=>by
  show((List.replicate 34 0).set 1 1).getD i 0<=1;rw[Z8 _ _ _ _ _ ZTv]
  split
  ·exact Zb0 _
  ·rw[Zau,Za3]
   split<;>exact ZcL _
 refine⟨⟨rfl,rfl,ZcL _,λi _ _=>.inl (e2 i),ZcL _,λi=>?_,λi c hc=>?_⟩,by decide,λwho x res ser k hc=>(by cases hc),λa b x res ser k x' res' ser' k' ha=>(by cases ha)⟩
 ·show Ye P (JY.hs.getD i [])/\(JY.hs.getD i []).length<=0;rw[e];exact⟨⟨List.Pairwise.nil,(λc hc=>by cases hc),ZcL _⟩,ZcL _⟩
 ·have hc:c ∈ JY.hs.getD i []:=hc;rw[e]at hc;cases hc
theorem Jd {l l' S S':Nat}(h:ZP l S=ZP l' S'):l=l'/\S % 2 ^ l=S' % 2 ^ l':=by
 unfold ZP at h;have a:=ZcA S (y:=2 ^ l) ZcG;have b:=ZcA S' (y:=2 ^ l') ZcG;rcases Nat.lt_trichotomy l l' with q|q|q
 ·have:=ZcI (n:=2) ZB (show l+1<=l' from q);rw[ZcJ]at this;omega
 ·subst q;exact⟨rfl,by omega⟩
 ·have:=ZcI (n:=2) ZB (show l'+1<=l from q);rw[ZcJ]at this;omega
theorem ZBu (l S:Nat):ZP l (S % 2 ^ l)=ZP l S:=by unfold ZP;rw[Nat.mod_mod]
theorem ZJZ {l S S':Nat}(h:ZP (l+1) S=ZP (l+1) S'):ZP l S=ZP l S':=by
 have e:=(Jd h).2;unfold ZP;have q:∀a,a % 2 ^ (l+1) % 2 ^ l=a % 2 ^ l:=λa=>Nat.mod_mod_of_dvd a ⟨2,by rw[ZcJ]⟩;rw[<-q S,e,q]
def wat (s:WH)(l S:Nat):Nat:=s.ws.getD (ZP l S) 0
def JQ (s:WH)(l S:Nat):List ZO:=s.hs.getD (ZP l S) []
structure TOk (s:WH):Prop where
 cells:∀l S,l<=4->∀c ∈ JQ s l S,JD c.id % 2 ^ l=S % 2 ^ l
 up:∀l S,l<=3->wat s (l+1) S≠0->Za<=wat s l S
 made:∀l S,l<=4->2*l<=s.ws.getD 0 0->wat s l S≠0
 froze:∀l S,l<=4->Za<=wat s l S->2*l+1<=s.ws.getD 0 0
def ZDP (s:WH)(l n:Nat):Prop:=2*l+1<=s.ws.getD 0 0/\∀i,i<n->wat s (l+1) i≠0/\wat s (l+1) (i+2 ^ l)≠0
def ZE7 (s:WH)(l S:Nat)(h:List ZO):Prop:=Za<=wat s l S/\JQ s l S=h
def TF (s:WH)(word:Nat):JL->Prop
 |.find sum level _=>word=ZP level sum/\2*level+1<=s.ws.getD 0 0
 |.move level i=>word=ZP level i/\ZDP s level i
def TH (s:WH)(level shard:Nat)(h:List ZO):Xv->Prop
 |.find sum _=>shard=sum/\∃l,level=l+1/\ZE7 s l sum h
 |.move1 lv i holds=>level=lv+1/\shard=i/\holds=h/\ZE7 s lv i h/\ZDP s lv i
 |.move2 lv i=>level=lv+1/\shard=i+2 ^ lv/\ZE7 s lv i h/\ZDP s lv i/\wat s (lv+1) i≠0
def ZBh (x:ZX)(f:Yi):Prop:=f.v≠0/\∃l,l<=4/\f.word=ZP l (JD x.id)
def TK (s:WH)(x:ZX):YN->Prop
 |.enter sum word _=>∃l,l<=4/\word=ZP l sum
 |.frz word t=>TF s word t
 |.frzS word _ _ t=>TF s word t
 |.half level shard h t=>TH s level shard h t
 |.halfS level shard h t=>TH s level shard h t
 |.moveEnd level=>ZDP s level (2 ^ level)
 |.mv _ _ _ (.count f _ _)=>ZBh x f
 |.mv _ _ _ (.serial f _)=>ZBh x f
 |.mvS _ _ _ _ (.count f _ _)=>ZBh x f
 |.mvS _ _ _ _ (.serial f _)=>ZBh x f
 |.put f _ _=>ZBh x f
 |.allow f _=>ZBh x f
 |.evScan _ _ _ word v _=>v≠0/\∃l S,l<=4/\word=ZP l S
 |.evSwap _ _ _ word v _ _=>v≠0/\∃l S,l<=4/\word=ZP l S
 |_=>True
structure ZCo (s s':WH):Prop where
 g:ZAf s s'
 d:s.ws.getD 0 0<=s'.ws.getD 0 0
theorem ZCo.wat {s s':WH}(h:ZCo s s'){l S:Nat}(hl:l<=4):wat s l S<=wat s' l S:=by
 have p:=Xp (shard:=S) hl;rcases h.g.sh (ZP l S) p.1 p.2 with⟨a,_⟩|⟨a,_⟩
 ·exact Nat.le_of_eq a.symm
 ·exact Zbz a
theorem ZDP.grow {s s':WH}{l n:Nat}(h:ZDP s l n)(g:ZCo s s')(hl:l<=3):ZDP s' l n:=⟨Zb2 h.1 g.d,λi hi=>⟨by have:=(h.2 i hi).1;have:=g.wat (l:=l+1) (S:=i) ZB;omega,by have:=(h.2 i hi).2;have:=g.wat (l:=l+1) (S:=i+2 ^ l) ZB;omega⟩⟩
theorem ZE7.grow {s s':WH}{l S:Nat}{h:List ZO}(p:ZE7 s l S h)(g:ZCo s s')(hl:l<=4):ZE7 s' l S h:=by
 have q:=Xp (shard:=S) hl;have p1:Za<=s.ws.getD (ZP l S) 0:=p.1;rcases g.g.sh (ZP l S) q.1 q.2 with⟨a,b⟩|⟨a,b⟩
 ·exact⟨by show Za<=s'.ws.getD (ZP l S) 0;rw[a];exact p1,by show s'.hs.getD (ZP l S) []=h;rw[b];exact p.2⟩
 ·omega
theorem TF.grow {P:List YR}{s s':WH}{x:ZX}{word:Nat}{t:JL}(h:TF s word t)(g:ZCo s s')(hf:FOk P s x t):TF s' word t:=by
 cases t with
 |find sum level t=>exact⟨h.1,Zb2 h.2 g.d⟩
 |move level i=>exact⟨h.1,h.2.grow g hf.1⟩
theorem TH.grow {P:List YR}{s s':WH}{x:ZX}{level shard:Nat}{l:List ZO}{t:Xv}(h:TH s level shard l t)(g:ZCo s s')(hl:level<=4):TH s' level shard l t:=by
 cases t with
 |find sum t=>
  obtain⟨a,k,b,c⟩:=h;exact⟨a,k,b,c.grow g ZB⟩
 |move1 lv i holds=>
  obtain⟨a,b,c,d,e⟩:=h;exact⟨a,b,c,d.grow g ZB,e.grow g ZB⟩
 |move2 lv i=>
  obtain⟨a,b,d,e,f⟩:=h;exact⟨a,b,d.grow g ZB,e.grow g ZB,by have:=g.wat (l:=lv+1) (S:=i) ZB;omega⟩
theorem TK.grow {P:List YR}{room N:Nat}{s s':WH}{x:ZX}{res:Bool}{ser:Int}{k:YN}(h:TK s x k)(g:ZCo s s')(hk:ZBR P room N s x res ser k):TK s' x k:=by
 cases k with
 |frz word t=>exact TF.grow h g hk.1
 |frzS word v holds t=>exact TF.grow (t:=t) h g hk.1
 |half level shard holds t=>exact TH.grow (P:=P) (x:=x) (t:=t) h g hk.2.1
 |halfS level shard holds t=>exact TH.grow (P:=P) (x:=x) (t:=t) h g hk.2.1
 |moveEnd level=>exact ZDP.grow h g hk
 |mv word by_ stop t=>cases t<;>exact h
 |mvS word by_ stop v t=>cases t<;>exact h
 |_=>exact h
theorem ZCx {w:WH}{l S l' S' new:Nat}{h:List ZO}(hl:w.ws.length=34)(hh:w.hs.length=34)(l4:l<=4):wat ⟨w.ws.set (ZP l S) new,w.hs.set (ZP l S) h⟩ l' S'=(if ZP l' S'=ZP l S then new else wat w l' S')/\JQ ⟨w.ws.set (ZP l S) new,w.hs.set (ZP l S) h⟩ l' S'=(if ZP l' S'=ZP l S then h else JQ w l' S'):=by
 have p:=Xp (shard:=S) l4;exact⟨Z8 w.ws _ _ new 0 ZB,Z8 w.hs _ _ h [] ZB⟩
theorem ZH7 {w:WH}{l S new:Nat}{h:List ZO}(T:TOk w)(hl:w.ws.length=34)(hh:w.hs.length=34)(l4:l<=4)(hf:wat w l S<Za)(hn:wat w l S<new)(hc:∀c ∈ h,JD c.id % 2 ^ l=S % 2 ^ l)(hp:∀l0,l=l0+1->Za<=wat w l0 S)(hz:Za<=new->2*l+1<=w.ws.getD 0 0):TOk ⟨w.ws.set (ZP l S) new,w.hs.set (ZP l S) h⟩:=by
 have W:=λl' S'=>(ZCx (w:=w) (l:=l) (S:=S) (l':=l') (S':=S') (new:=new) (h:=h) hl hh l4).1;have H:=λl' S'=>(ZCx (w:=w) (l:=l) (S:=S) (l':=l') (S':=S') (new:=new) (h:=h) hl hh l4).2;have d0:(w.ws.set (ZP l S) new).getD 0 0=w.ws.getD 0 0:=by
  have p:=Xp (shard:=S) l4;rw[Z8 _ _ _ _ _ ZB,Zcf ZB]
 refine⟨λl' S' h1 c hcc=>?_,λl' S' h1 h2=>?_,λl' S' h1 h2=>?_,λl' S' h1 h2=>?_⟩
 ·rw[H]at hcc
  split at hcc
  ·next e=>obtain⟨rfl,e2⟩:=Jd e;rw[hc c hcc,e2]
  ·exact T.cells l' S' h1 c hcc
 ·rw[W];rw[W]at h2;by_cases e:ZP l' S'=ZP l S
  ·obtain⟨rfl,e2⟩:=Jd e;have ne:ZP (l'+1) S'≠ZP l' S:=λq=>by have:=(Jd q).1;omega
   rw[Zcf ne]at h2;have:=T.up l' S' h1 h2;have e3:wat w l' S'=wat w l' S:=by unfold wat;rw[e]
   omega
  ·rw[Zcf e];by_cases e3:ZP (l'+1) S'=ZP l S
   ·obtain⟨rfl,e2⟩:=Jd e3;have e4:wat w l' S'=wat w l' S:=by unfold wat;rw[ZJZ e3]
    rw[e4];exact hp l' rfl
   ·rw[Zcf e3]at h2;exact T.up l' S' h1 h2
 ·have h2:2*l'<=(w.ws.set (ZP l S) new).getD 0 0:=h2;rw[d0]at h2;rw[W]
  split
  ·omega
  ·exact T.made l' S' h1 h2
 ·show 2*l'+1<=(w.ws.set (ZP l S) new).getD 0 0;rw[d0];rw[W]at h2
  split at h2
  ·next e=>obtain⟨rfl,_⟩:=Jd e;exact hz h2
  ·exact T.froze l' S' h1 h2
theorem ZH8 {w:WH}{word new:Nat}{h:List ZO}(T:TOk w)(hl:w.ws.length=34)(hh:w.hs.length=34)(h1:word=0\/word=32\/word=33)(hd:word=0->w.ws.getD 0 0<=new/\∀l,l<=4->2*l<=new->¬2*l<=w.ws.getD 0 0->∀S,wat w l S≠0):TOk ⟨w.ws.set word new,w.hs.set word h⟩/\w.ws.getD 0 0<=(w.ws.set word new).getD 0 0:=by
 have W:∀l S,l<=4->wat ⟨w.ws.set word new,w.hs.set word h⟩ l S=wat w l S:=λl S h4=>by
  have p:=Xp (shard:=S) h4;show(w.ws.set word new).getD (ZP l S) 0=_;rw[Z8 _ _ _ _ _ ZB,Zcf ZB];rfl
 have H:∀l S,l<=4->JQ ⟨w.ws.set word new,w.hs.set word h⟩ l S=JQ w l S:=λl S h4=>by
  have p:=Xp (shard:=S) h4;show(w.hs.set word h).getD (ZP l S) []=_;rw[Z8 _ _ _ _ _ ZB,Zcf ZB];rfl
 have d0:(w.ws.set word new).getD 0 0=if 0=word then new else w.ws.getD 0 0:=Z8 _ _ _ _ _ ZB
 have dle:w.ws.getD 0 0<=(w.ws.set word new).getD 0 0:=by
  rw[d0]
  split
  ·next e=>exact(hd e.symm).1
  ·exact Zb0 _
 refine⟨⟨λl S a c hc=>?_,λl S a b=>?_,λl S a b=>?_,λl S a b=>?_⟩,dle⟩
 ·rw[H l S a]at hc;exact T.cells l S a c hc
 ·rw[W l S ZB];rw[W (l+1) S ZB]at b;exact T.up l S a b
 ·rw[W l S a];have b:2*l<=(w.ws.set word new).getD 0 0:=b;rw[d0]at b
  split at b
  ·next e=>
   by_cases q:2*l<=w.ws.getD 0 0
   ·exact T.made l S a q
   ·exact(hd e.symm).2 l a b q S
  ·exact T.made l S a b
 ·rw[W l S a]at b;exact Zb2 (T.froze l S a b) dle
def ZGn (s:WH)(x:ZX):Zn->Prop
 |.on k=>TK s x k
 |.fin _=>True
theorem ZID {s:WH}{x:ZX}{res:Bool}{r:YH}:ZGn s x (YT res r):=by unfold YT;split<;>exact trivial
theorem ZQw {s:WH}{x:ZX}{room:Nat}{res:Bool}{f:Yi}{c:ZO}{r:YH}(h:ZBh x f):ZGn s x (.on (Jk room res f c r)):=by unfold Jk;split<;>exact h
theorem ZTg {s:WH}{x:ZX}{p:YR}{room:Nat}{res:Bool}{ser:Int}{f:Yi}{c:ZO}(h:ZBh x f):ZGn s x (JK p room res ser f c):=by
 unfold JK
 split
 ·exact ZID
 ·split
  ·exact ZQw h
  ·exact h
theorem ZDn {s:WH}{x:ZX}{j shards:Nat}{gone:Int}:ZGn s x (Zo j shards gone):=by unfold Zo;split<;>exact trivial
theorem ZSO {P:List YR}{s:WH}{x:ZX}{room word v:Nat}{res:Bool}{ser:Int}{l:List ZO}(h:v≠0/\∃l,l<=4/\word=ZP l (JD x.id)):ZGn s x (ZAr P room x res ser word v l):=by
 unfold ZAr
 dsimp only
 split
 ·exact h
 ·split
  ·exact ZTg h
  ·split
   ·split
    ·exact trivial
    ·exact ZQw h
   ·split<;>exact trivial
theorem ZJE {P:List YR}{s:WH}{x:ZX}{room sum word v:Nat}{res:Bool}{ser:Int}{l:List ZO}{t:ZAN}(h:∃l,l<=4/\word=ZP l sum)(hs:ZH3 x sum t):ZGn s x (Yh P room x res ser sum word v l t):=by
 unfold Yh
 split
 ·exact trivial
 ·next q=>
  obtain⟨l',a,b⟩:=h;have v0:v≠0:=λe=>q (.inl e);cases t with
  |begin=>
   have hs:sum=JD x.id:=hs;exact ZSO ⟨v0,l',a,by rw[<-hs];exact b⟩
  |evict j shards gone=>
   unfold ZEm
   dsimp only
   split
   ·exact ZDn
   ·exact⟨v0,l',sum,a,b⟩
theorem ZOx {s:WH}{x:ZX}{level i:Nat}(h:ZDP s level i):ZGn s x (.on (Xi level i)):=by
 unfold Xi
 split
 ·next e=>subst e;exact h
 ·exact⟨rfl,h⟩
theorem ZOz {s:WH}{x:ZX}{word:Nat}{t:JL}{l:List ZO}(h:TF s word t)(hp:Za<=s.ws.getD word 0)(hh:s.hs.getD word []=l):ZGn s x (.on (Xy l t)):=by
 cases t with
 |find sum level t=>obtain⟨rfl,_⟩:=h;exact⟨rfl,level,rfl,hp,hh⟩
 |move level i=>obtain⟨rfl,m⟩:=h;exact⟨rfl,rfl,rfl,⟨hp,hh⟩,m⟩
theorem ZKq {P:List YR}{s:WH}{x:ZX}{room level shard v:Nat}{res:Bool}{ser:Int}{l h:List ZO}{t:Xv}(hl:level<=4)(ht:TH s level shard h t)(hs:HOk P s x t)(hw:wat s level shard≠0):ZGn s x (Xd P room x res ser (ZP level shard) v l t):=by
 cases t with
 |find sum t=>
  obtain⟨rfl,k,rfl,_⟩:=ht;unfold Xd
  dsimp only
  split
  ·exact⟨k+1,hl,rfl⟩
  ·exact ZJE ⟨k+1,hl,rfl⟩ hs.2.1
 |move1 lv i holds=>
  obtain⟨rfl,rfl,rfl,p,m⟩:=ht;exact⟨rfl,rfl,p,m,hw⟩
 |move2 lv i=>
  obtain⟨rfl,rfl,p,m,q⟩:=ht;refine ZOx ⟨m.1,λj hj=>?_⟩;by_cases e:j=i
  ·subst e;exact⟨q,hw⟩
  ·exact m.2 j ZB
theorem ZOy {s:WH}{level shard:Nat}{h:List ZO}{t:Xv}(ht:TH s level shard h t):∃lv,level=lv+1/\ZE7 s lv shard h:=by
 cases t with
 |find sum t=>obtain⟨rfl,l,e,p⟩:=ht;exact⟨l,e,p⟩
 |move1 lv i holds=>obtain⟨e,rfl,_,p,_⟩:=ht;exact⟨lv,e,p⟩
 |move2 lv i=>
  obtain⟨e,rfl,p,_⟩:=ht;have q:ZP lv (i+2 ^ lv)=ZP lv i:=by unfold ZP;rw[Nat.add_mod_right]
  exact⟨lv,e,by unfold ZE7 wat JQ;rw[q];exact p⟩
theorem ZNX {s:WH}{l:Nat}(h:ZDP s l (2 ^ l))(S:Nat):wat s (l+1) S≠0:=by
 have e:wat s (l+1) S=wat s (l+1) (S % 2 ^ (l+1)):=by unfold wat;rw[ZBu]
 rw[e];have m:=ZcA S (y:=2 ^ (l+1)) ZcG;have p:2 ^ (l+1)=2 ^ l*2:=ZcJ _ _;by_cases q:S % 2 ^ (l+1)<2 ^ l
 ·exact(h.2 _ q).1
 ·have:=(h.2 (S % 2 ^ (l+1) - 2 ^ l) ZB).2;rw[show S % 2 ^ (l+1) - 2 ^ l+2 ^ l=S % 2 ^ (l+1) by omega]at this;exact this
theorem ZCz {w:WH}{word new:Nat}{h:List ZO}(hl:w.ws.length=34)(h1:1<=word)(h2:word<32)(g:ZAf w ⟨w.ws.set word new,w.hs.set word h⟩):ZCo w ⟨w.ws.set word new,w.hs.set word h⟩:=⟨g,by show _<=(w.ws.set word new).getD 0 0;rw[Z8 _ _ _ _ _ ZB,Zcf ZB];exact Zb0 _⟩
theorem Zv (w:WH):ZCo w w:=⟨ZAf.refl w,Zb0 _⟩
theorem ZMQ {w:WH}{l S:Nat}{h:List ZO}(T:TOk w)(hl:w.ws.length=34)(hh:w.hs.length=34)(l4:l<=4)(v:Nat)(hv:w.ws.getD (ZP l S) 0=v)(h0:v≠0)(hf:v+1<Za)(hc:∀c ∈ h,JD c.id % 2 ^ l=S % 2 ^ l):TOk ⟨w.ws.set (ZP l S) (v+1),w.hs.set (ZP l S) h⟩:=ZH7 T hl hh l4 (by show w.ws.getD (ZP l S) 0<_;omega) (by show w.ws.getD (ZP l S) 0<_;omega) hc (λl0 e=>by subst e;exact T.up l0 S ZB (by show w.ws.getD (ZP (l0+1) S) 0≠0;omega)) (λq=>by omega)
theorem ZNd {P:List YR}{room N M who:Nat}{s:YF}{x:ZX}{res:Bool}{ser:Int}{k:YN}{c:KC}{out:Zn}(hN:N+1<=4611686018427387903)(h:ZCP P room N M s)(T:TOk s.wh)(tk:TK s.wh x k)(hc:s.call who=.run x res ser k)(e:Yk P room x (s.kc res ser) k=(c,out))(g:ZAf s.wh c.wh): TOk c.wh/\ZCo s.wh c.wh/\ZGn c.wh x out:=by
 have hr:=h.run who x res ser k hc;have W:=h.w;have hk:=hr.kont;have d:s.ws.getD 0 0<=8:=W.d;have hfz:Za=4611686018427387904:=rfl;cases k with
 |find sum t=>
  have e:(s.kc res ser,if s.ws.getD 0 0 % 2=0 then Zn.on (.enter sum (ZP (s.ws.getD 0 0 / 2) sum) t) else .on (.frz (ZP (s.ws.getD 0 0 / 2) sum) (.find sum (s.ws.getD 0 0 / 2) t)))=(c,out):=e;injection e with e1 e2;subst e1
  split at e2<;>subst e2
  ·exact⟨T,Zv _,s.ws.getD 0 0 / 2,by omega,rfl⟩
  ·exact⟨T,Zv _,rfl,by show 2*(s.ws.getD 0 0 / 2)+1<=s.ws.getD 0 0;omega⟩
 |enter sum word t=>
  injection e with e1 e2;subst e1 e2;exact⟨T,Zv _,ZJE tk hk.2.1⟩
 |frz word t=>
  have e:(s.kc res ser,if Za<=s.ws.getD word 0 then Zn.on (Xy (s.hs.getD word []) t) else .on (.frzS word (s.ws.getD word 0) (s.hs.getD word []) t))=(c,out):=e;injection e with e1 e2;subst e1
  split at e2<;>subst e2
  ·next q=>exact⟨T,Zv _,ZOz tk q rfl⟩
  ·exact⟨T,Zv _,tk⟩
 |frzS word v holds t=>
  obtain⟨h1,⟨a1,a2,a3,a4,a5⟩,h3⟩:=hk;have e:(if s.ws.getD word 0=v then ((s.kc res ser).sw word (v+Za) holds,Zn.on (Xy holds t)) else (s.kc res ser,.on (.frz word t)))=(c,out):=e
  split at e<;>(injection e with e1 e2;subst e1 e2)
  ·next q=>
   have tk:TF s.wh word t:=tk;obtain⟨l,S,l3,ew,hd⟩:∃l S,l<=3/\word=ZP l S/\2*l+1<=s.wh.ws.getD 0 0:=by
    cases t with
    |find sum level t=>exact⟨level,sum,h1.2.2.2,tk.1,tk.2⟩
    |move level i=>exact⟨level,i,h1.1,tk.1,tk.2.1⟩
   have tg:=ZCz W.lw a1 a2 g;have a5:=a5 q;have hv:s.ws.getD word 0<Za:=by omega
   have nz:=T.made l S ZB ZB;refine⟨?_,tg,ZOz (tk.grow tg h1) ?_ ?_⟩
   ·subst ew;refine ZH7 T W.lw W.lh ZB hv (by show s.ws.getD (ZP l S) 0<_;omega) (λc hc=>T.cells l S ZB c (by show c ∈ s.wh.hs.getD (ZP l S) [];rw[a5];exact hc)) (λl0 e=>?_) (λ_=>hd);subst e;exact T.up l0 S ZB nz
   ·show Za<=(s.ws.set word _).getD word 0;rw[Z8 _ _ _ _ _ (by have:s.ws.length=34:=W.lw;omega),Zcg rfl];omega
   ·show(s.hs.set word holds).getD word []=holds;rw[Z8 _ _ _ _ _ (by have:s.hs.length=34:=W.lh;omega),Zcg rfl]
  ·exact⟨T,Zv _,tk⟩
 |half level shard holds t=>
  obtain⟨h1,h2,h3,h4,h5⟩:=hk;have e:(s.kc res ser,if s.ws.getD (ZP level shard) 0≠0 then Xd P room x res ser (ZP level shard) (s.ws.getD (ZP level shard) 0) (s.hs.getD (ZP level shard) []) t else .on (.halfS level shard holds t))=(c,out):=e;injection e with e1 e2;subst e1
  split at e2<;>subst e2
  ·next q=>exact⟨T,Zv _,ZKq h2 tk h3 q⟩
  ·exact⟨T,Zv _,tk⟩
 |halfS level shard holds t=>
  obtain⟨h1,h2,h3,h4,h5⟩:=hk;have tk:TH s.wh level shard holds t:=tk;have e:((if s.ws.getD (ZP level shard) 0=0 then (s.kc res ser).sw (ZP level shard) 1 (Xr holds level (ZP level shard - 2 ^ level)) else s.kc res ser),Xd P room x res ser (ZP level shard) 0 [] t)=(c,out):=e;injection e with e1 e2;subst e2;have p:=Xp (shard:=shard) h2
  split at e1<;>subst e1
  ·next q=>
   have tg:=ZCz W.lw p.1 p.2 g;obtain⟨lv,e3,hp⟩:=ZOy tk;refine⟨ZH7 T W.lw W.lh h2 (by show s.ws.getD _ 0<_;omega) (by show s.ws.getD _ 0<_;omega) (λc hc=>?_) (λl0 e=>?_) (λq=>by omega),tg,ZKq h2 (tk.grow (P:=P) (x:=x) tg h2) (h3.grow g) ?_⟩
   ·have:=Zcj (List.mem_filter.1 hc).2;unfold ZAi ZP at this;omega
   ·have:l0=lv:=by omega
    subst this;exact hp.1
   ·show(s.ws.set _ 1).getD (ZP level shard) 0≠0;rw[Z8 _ _ _ _ _ (by have:s.ws.length=34:=W.lw;omega),Zcg rfl];decide
  ·next q=>exact⟨T,Zv _,ZKq h2 tk h3 q⟩
 |split=>
  have e:(s.kc res ser,if s.ws.getD 0 0 % 2=1 then Zn.on (Xi (s.ws.getD 0 0 / 2) 0) else if s.ws.getD 0 0 / 2=4 then .fin (Yb 5) else .on (.splitS (s.ws.getD 0 0)))=(c,out):=e;injection e with e1 e2;subst e1
  split at e2
  ·subst e2;exact⟨T,Zv _,ZOx ⟨by show 2*(s.ws.getD 0 0 / 2)+1<=s.ws.getD 0 0;omega,λi hi=>absurd hi (ZcF i)⟩⟩
  ·split at e2<;>subst e2<;>exact⟨T,Zv _,trivial⟩
 |splitS d0=>
  obtain⟨h1,h2⟩:=hk;have e:(if s.ws.getD 0 0=d0 then ((s.kc res ser).sw 0 (d0+1) [],Zn.on (Xi (d0 / 2) 0)) else (s.kc res ser,.on .split))=(c,out):=e
  split at e<;>(injection e with e1 e2;subst e1 e2)
  ·next q=>
   obtain⟨T2,dl⟩:=ZH8 (word:=0) (new:=d0+1) (h:=[]) T W.lw W.lh (.inl rfl) (λ_=>⟨by show s.ws.getD 0 0<=_;omega,λl _ a b=>absurd (show 2*l<=s.ws.getD 0 0 by omega) b⟩);refine⟨T2,⟨g,dl⟩,ZOx ⟨?_,λi hi=>absurd hi (ZcF i)⟩⟩;show 2*(d0 / 2)+1<=(s.ws.set 0 (d0+1)).getD 0 0;rw[Z8 _ _ _ _ _ (by have:s.ws.length=34:=W.lw;omega),Zcg rfl];omega
  ·exact⟨T,Zv _,trivial⟩
 |moveEnd level=>
  have e:((if s.ws.getD 0 0=2*level+1 then (s.kc res ser).sw 0 (2*level+2) [] else s.kc res ser),Zn.fin (Yb 0))=(c,out):=e;injection e with e1 e2;subst e2
  split at e1<;>subst e1
  ·next q=>
   obtain⟨T2,dl⟩:=ZH8 (word:=0) (new:=2*level+2) (h:=[]) T W.lw W.lh (.inl rfl) (λ_=>⟨by show s.ws.getD 0 0<=_;omega,λl _ a b S=>by
    have b:¬2*l<=s.ws.getD 0 0:=b;have:l=level+1:=by omega
    subst this;exact ZNX tk S⟩)
   exact⟨T2,⟨g,dl⟩,trivial⟩
  ·exact⟨T,Zv _,trivial⟩
 |mv word by_ stop t=>
  by_cases q:s.ws.getD word 0=stop
  ·have:out.fresh\/True:=.inr trivial;cases t with
   |leave r=>
    have e:(s.kc res ser,if s.ws.getD word 0=stop then Zn.fin r else .on (.mvS word by_ stop (s.ws.getD word 0) (.leave r)))=(c,out):=e;rw[Zcg q]at e;injection e with e1 e2;subst e1 e2;exact⟨T,Zv _,trivial⟩
   |gone j shards was n=>
    have e:(s.kc res ser,if s.ws.getD word 0=stop then Zn.fin (Yb 0) else .on (.mvS word by_ stop (s.ws.getD word 0) (.gone j shards was n)))=(c,out):=e;rw[Zcg q]at e;injection e with e1 e2;subst e1 e2;exact⟨T,Zv _,trivial⟩
   |count f ce r=>
    have e:(s.kc res ser,if s.ws.getD word 0=stop then Zn.fin (Yb 10) else .on (.mvS word by_ stop (s.ws.getD word 0) (.count f ce r)))=(c,out):=e;rw[Zcg q]at e;injection e with e1 e2;subst e1 e2;exact⟨T,Zv _,trivial⟩
   |serial f ce=>
    have e:(s.kc res ser,if s.ws.getD word 0=stop then YT res (Yb 5) else .on (.mvS word by_ stop (s.ws.getD word 0) (.serial f ce)))=(c,out):=e;rw[Zcg q]at e;injection e with e1 e2;subst e1 e2;exact⟨T,Zv _,ZID⟩
  ·have e2:Yk P room x (s.kc res ser) (.mv word by_ stop t)=(s.kc res ser,.on (.mvS word by_ stop (s.ws.getD word 0) t)):=by
    show(s.kc res ser,_)=_;exact ZcZ (Prod.mk _) (Zcf q)
   rw[e2]at e;injection e with e1 e2;subst e1 e2;exact⟨T,Zv _,by cases t<;>exact tk⟩
 |mvS word by_ stop v t=>
  have hk:MOk P room N s.wh x res ser word by_ stop t:=hk;have tok:∀(word new:Nat),word=32\/word=33->TOk ⟨s.ws.set word new,s.hs.set word []⟩/\s.ws.getD 0 0<=(s.ws.set word new).getD 0 0:=λword new hw=>ZH8 T W.lw W.lh (.inr hw) (λe=>by omega);by_cases q:s.ws.getD word 0=v
  ·cases t with
   |leave r=>
    obtain⟨rfl,_⟩:=hk;have e:(if s.ws.getD 32 0=v then ((s.kc res ser).sw 32 ((v+by_) % 18446744073709551616) [],Zn.fin r) else (s.kc res ser,.on (.mv 32 by_ stop (.leave r))))=(c,out):=e;rw[Zcg q]at e;injection e with e1 e2;subst e1 e2;have:=tok 32 ((v+by_) % 18446744073709551616) (.inl rfl);exact⟨this.1,⟨g,this.2⟩,trivial⟩
   |gone j shards was n=>
    obtain⟨rfl,_⟩:=hk;have e:(if s.ws.getD 32 0=v then ((s.kc res ser).sw 32 ((v+by_) % 18446744073709551616) [],Zo j shards (was+n)) else (s.kc res ser,.on (.mv 32 by_ stop (.gone j shards was n))))=(c,out):=e;rw[Zcg q]at e;injection e with e1 e2;subst e1 e2;have:=tok 32 ((v+by_) % 18446744073709551616) (.inl rfl);exact⟨this.1,⟨g,this.2⟩,ZDn⟩
   |count f ce r=>
    obtain⟨rfl,_⟩:=hk;have e:(if s.ws.getD 32 0=v then ({(s.kc res ser).sw 32 ((v+by_) % 18446744073709551616) []with res:=true},Zn.on (.put f ce r)) else (s.kc res ser,.on (.mv 32 by_ stop (.count f ce r))))=(c,out):=e;rw[Zcg q]at e;injection e with e1 e2;subst e1 e2;have:=tok 32 ((v+by_) % 18446744073709551616) (.inl rfl);exact⟨this.1,⟨g,this.2⟩,tk⟩
   |serial f ce=>
    obtain⟨rfl,_⟩:=hk;have e:(if s.ws.getD 33 0=v then ({(s.kc res ser).sw 33 ((v+by_) % 18446744073709551616) []with ser:=(((v+by_) % 18446744073709551616:Nat):Int)},Zn.on (Jk room res f (ZAE (Zk P x.pol) ce ((v+by_) % 18446744073709551616:Nat)).2 (ZAE (Zk P x.pol) ce ((v+by_) % 18446744073709551616:Nat)).1)) else (s.kc res ser,.on (.mv 33 by_ stop (.serial f ce))))=(c,out):=e;rw[Zcg q]at e;injection e with e1 e2;subst e1 e2;have:=tok 33 ((v+by_) % 18446744073709551616) (.inr rfl);exact⟨this.1,⟨g,this.2⟩,ZQw tk⟩
  ·have e2:Yk P room x (s.kc res ser) (.mvS word by_ stop v t)=(s.kc res ser,.on (.mv word by_ stop t)):=Zcf q;rw[e2]at e;injection e with e1 e2;subst e1 e2;exact⟨T,Zv _,by cases t<;>exact tk⟩
 |put f ce r=>
  obtain⟨h1,h2,h3,h4⟩:=hk;obtain⟨a1,a2,a3,a4,a5⟩:=h2.same;obtain⟨v0,l,l4,ew⟩:=(show ZBh x f from tk);have e:(if s.ws.getD f.word 0=f.v then ((s.kc res ser).sw f.word (f.v+1) (Xg f.cells f.at_ f.there ce),if f.there=false then Zn.fin r else YT res r) else (s.kc res ser,.on (.find (JD x.id) .begin)))=(c,out):=e
  split at e<;>(injection e with e1 e2;subst e1 e2)
  ·next q=>
   have a5:=a5 q;have tg:=ZCz W.lw a1 a2 g;refine⟨?_,tg,by split;exact trivial;exact ZID⟩;show TOk ⟨s.wh.ws.set f.word (f.v+1),s.wh.hs.set f.word (Xg f.cells f.at_ f.there ce)⟩;rw[ew];refine ZMQ T W.lw W.lh l4 f.v (by rw[<-ew];exact q) v0 ZB (λd hd=>?_);rcases ZFf hd with e9|hd
   ·rw[e9,h3.id]
   ·exact T.cells l _ l4 d (by show d ∈ s.wh.hs.getD (ZP l (JD x.id)) [];rw[<-ew,a5];exact hd)
  ·exact⟨T,Zv _,trivial⟩
 |peek ce=>
  injection e with e1 e2;subst e1 e2;exact⟨T,Zv _,trivial⟩
 |allow f ce=>
  have e:(s.kc res ser,if (Yo (Zk P x.pol) ce s.clk x.n).1.granted=false\/x.n=0 then YT res (Yo (Zk P x.pol) ce s.clk x.n).1 else .on (Jk room res f (Yo (Zk P x.pol) ce s.clk x.n).2 (Yo (Zk P x.pol) ce s.clk x.n).1))=(c,out):=e;injection e with e1 e2;subst e1
  split at e2<;>subst e2
  ·exact⟨T,Zv _,ZID⟩
  ·exact⟨T,Zv _,ZQw tk⟩
 |evFirst=>
  injection e with e1 e2;subst e1 e2;exact⟨T,Zv _,trivial⟩
 |evScan j shards gone word v cells=>
  have e:(s.kc res ser,if cells.length - (cells.filter λc=>!ZAb P s.clk c).length=0 then Zo j shards gone else .on (.evSwap j shards gone word v (cells.filter λc=>!ZAb P s.clk c) (cells.length - (cells.filter λc=>!ZAb P s.clk c).length)))=(c,out):=e;injection e with e1 e2;subst e1
  split at e2<;>subst e2
  ·exact⟨T,Zv _,ZDn⟩
  ·exact⟨T,Zv _,tk⟩
 |evSwap j shards gone word v rest n=>
  obtain⟨h1,h2,h3,h4,h5,h6,h7,cells,⟨a1,a2,a3,a4,a5⟩,h8,h9,_⟩:=hk;obtain⟨v0,l,S,l4,ew⟩:=(show v≠0/\∃l S,l<=4/\word=ZP l S from tk);have e:(if s.ws.getD word 0=v then ((s.kc res ser).sw word (v+1) rest,Zn.on (.mv 32 (18446744073709551616 - n) JH (.gone j shards gone n))) else (s.kc res ser,Zo j shards gone))=(c,out):=e
  split at e<;>(injection e with e1 e2;subst e1 e2)
  ·next q=>
   have a5:=a5 q;have tg:=ZCz W.lw a1 a2 g;refine⟨?_,tg,trivial⟩;show TOk ⟨s.wh.ws.set word (v+1),s.wh.hs.set word rest⟩;rw[ew];exact ZMQ T W.lw W.lh l4 v (by rw[<-ew];exact q) v0 ZB (λd hd=>T.cells l S l4 d (by show d ∈ s.wh.hs.getD (ZP l S) [];rw[<-ew,a5];exact h9.subset hd))
  ·exact⟨T,Zv _,ZDn⟩
structure ZCI (s:YF):Prop where
 t:TOk s.wh
 run:∀who x res ser k,s.call who=.run x res ser k->TK s.wh x k
theorem ZLJ {P:List YR}{room N M who:Nat}{s:YF}{x:ZX}{c:KC}{out:Zn}(h:ZCP P room N M s)(t:ZCI s)(T:TOk c.wh)(g:ZCo s.wh c.wh)(o:ZGn c.wh x out):ZCI ((s.of c).put who (ZPU x c out)):=by
 refine⟨T,λb x' res' ser' k' hb=>?_⟩;by_cases e:b=who
 ·subst e;rw[YD]at hb;cases out with
  |fin r=>cases hb
  |on k2=>cases hb;exact o
 ·rw[YC _ _ e]at hb;exact(t.run b x' res' ser' k' hb).grow g (h.run b x' res' ser' k' hb).kont
theorem ZJp (P:List YR)(room:Nat)(s:YF)(who:Nat){x:ZX}{res:Bool}{ser:Int}{k:YN}(hc:s.call who=.run x res ser k):(YA P room s who).1=((s.of (Yk P room x (s.kc res ser) k).1).put who (ZPU x (Yk P room x (s.kc res ser) k).1 (Yk P room x (s.kc res ser) k).2)):=by
 have e:YA P room s who=(match Yk P room x (s.kc res ser) k with
  |(c,.on k')=>((s.of c).put who (.run x c.res c.ser k'),none)
  |(c,.fin r)=>((s.of c).put who .idle,some r)):=by
  unfold YA;rw[hc];rfl
 rw[e];generalize Yk P room x (s.kc res ser) k=o;obtain⟨c,out⟩:=o;cases out<;>rfl
theorem ZLI {P:List YR}{room N M who:Nat}{s:YF}{x:ZX}{res:Bool}{ser:Int}{k:YN}(hP:∀p ∈ P,Yd p)(hN:N+1<=4611686018427387903)(hM:M+1<=5000)(h:ZCP P room N M s)(t:ZCI s)(hc:s.call who=.run x res ser k):ZCI (YA P room s who).1:=by
 have hs:=ZMk (c:=(Yk P room x (s.kc res ser) k).1) (out:=(Yk P room x (s.kc res ser) k).2) hP hN hM h hc rfl;obtain⟨a,b,o⟩:=ZNd hN h t.t (t.run who x res ser k hc) hc rfl hs.g;rw[ZJp P room s who hc];exact ZLJ h t a b o
theorem ZJo {s:YF}{who:Nat}{x:ZX}(t:ZCI s):ZCI (s.put who (.run x false 0 (Xz x))):=by
 refine⟨t.t,λb x' res' ser' k' hb=>?_⟩;by_cases e:b=who
 ·subst e;rw[YD]at hb;cases hb;unfold Xz
  split
  ·exact trivial
  ·split<;>exact trivial
 ·rw[YC _ _ e]at hb;exact t.run b x' res' ser' k' hb
theorem ZLK:ZCI JY:=by
 have e:∀i,JY.wh.hs.getD i []=[]:=λi=>by
  show(List.replicate 34 ([]:List ZO)).getD i []=[];rw[Zau,Za3]
  split<;>rfl
 have e2:∀i,JY.wh.ws.getD i 0=if i=1 then 1 else 0:=λi=>by
  show((List.replicate 34 0).set 1 1).getD i 0=_;rw[Z8 _ _ _ _ _ ZTv]
  split
  ·rfl
  ·rw[Zau,Za3]
   split<;>rfl
 have hfz:Za=4611686018427387904:=rfl;refine⟨⟨λl S _ c hc=>?_,λl S _ h=>?_,λl S _ h=>?_,λl S _ h=>?_⟩,λwho x res ser k hc=>(by cases hc)⟩
 ·unfold JQ at hc;rw[e]at hc;cases hc
 ·unfold wat at h;rw[e2]at h;have:2<=ZP (l+1) S:=by
   unfold ZP;have:1<=2 ^ l:=ZcG;have:2 ^ (l+1)=2 ^ l*2:=ZcJ _ _;omega
  rw[Zcf ZB]at h;exact absurd rfl h
 ·have h:2*l<=0:=h;have:l=0:=by omega
  subst this;unfold wat;rw[e2,show ZP 0 S=1 by unfold ZP;omega,Zcg rfl];decide
 ·unfold wat at h;rw[e2]at h
  split at h<;>omega
def ZBp {ι:Type}(L:List ι)(f:ι->Nat):Nat:=(L.map f).sum
theorem XJ {ι:Type}(a:ι)(L:List ι)(f:ι->Nat):ZBp (a::L) f=f a+ZBp L f:=rfl
theorem ZBo {ι:Type}{L:List ι}{f g:ι->Nat}(h:∀i ∈ L,f i=g i):ZBp L f=ZBp L g:=by
 induction L with
 |nil=>rfl
 |cons a L ih=>rw[XJ,XJ,h a (ZbL ..),ih (λi hi=>h i (ZbK _ hi))]
theorem ZFj {ι:Type}{L:List ι}{f g:ι->Nat}{a:ι}(hn:L.Nodup)(ha:a ∈ L)(h:∀i ∈ L,i≠a->g i=f i):ZBp L g+f a=ZBp L f+g a:=by
 induction L with
 |nil=>cases ha
 |cons b L ih=>
  obtain⟨hb,hn⟩:=ZbW.1 hn;rw[XJ,XJ];rcases ZbJ.1 ha with rfl|ha
  ·have:=ZBo (L:=L) (f:=g) (g:=f) (λi hi=>h i (ZbK _ hi) (λe=>hb (e ▸ hi)));omega
  ·have:=ih hn ha (λi hi=>h i (ZbK _ hi));have:=h b (ZbL ..) (λe=>hb (e ▸ ha));omega
theorem ZMW {ι:Type}[DecidableEq ι]{L:List ι}(hn:L.Nodup):∀(K:List ι) (f g:ι->Nat),K.Nodup->(∀a ∈ K,a ∈ L)->(∀i ∈ L,i ∉ K->g i=f i)->ZBp L g+ZBp K f=ZBp L f+ZBp K g
 |[],f,g,_,_,h=>by rw[ZBo (λi hi=>h i hi ZbX)];rfl
 |a::K,f,g,hk,hs,h=>by
  obtain⟨ha,hk⟩:=ZbW.1 hk
  have i1:=ZMW hn K (λi=>if i=a then g a else f i) g hk (λb hb=>hs b (ZbK _ hb)) (λi hi hik=>by
   by_cases e:i=a
   ·subst e;exact(Zcg rfl).symm
   ·rw[Zcf e];exact h i hi (λq=>(ZbJ.1 q).elim e hik))
  have i2:ZBp L (λi=>if i=a then g a else f i)+f a=ZBp L f+g a:=(ZFj (L:=L) (f:=f) (g:=λi=>if i=a then g a else f i) (a:=a) hn (hs a (ZbL ..)) (λi _ e=>Zcf e)).trans (ZcZ (ZBp L f+·) (Zcg rfl));have i3:ZBp K (λi=>if i=a then g a else f i)=ZBp K f:=ZBo (λi hi=>Zcf (λe:i=a=>ha (e ▸ hi)));rw[i3]at i1;rw[XJ,XJ];omega
def ZKY:List (Nat × Nat):=(List.range 5).flatMap λl=>(List.range (2 ^ l)).map λS=>(l,S)
theorem ZGm:ZKY.Nodup:=by decide
theorem ZEG {l S:Nat}(hl:l<=4)(hS:S<2 ^ l):(l,S) ∈ ZKY:=ZbM.2 ⟨l,ZbT.2 ZB,ZbN.2 ⟨S,ZbT.2 hS,rfl⟩⟩
theorem ZFS {p:Nat × Nat}(h:p ∈ ZKY):p.1<=4/\p.2<2 ^ p.1:=by
 obtain⟨l,hl,h⟩:=ZbM.1 h;obtain⟨S,hS,rfl⟩:=ZbN.1 h;have:=ZbT.1 hl;exact⟨by show l<=4;omega,ZbT.1 hS⟩
def con (s:WH):Nat->Nat->Nat
 |0,S=>if wat s 0 S=0\/Za<=wat s 0 S then 0 else (JQ s 0 S).length
 |l+1,S=>if wat s (l+1) S=0 then (if Za<=wat s l S then (Xr (JQ s l S) (l+1) (S % 2 ^ (l+1))).length else 0) else if Za<=wat s (l+1) S then 0 else (JQ s (l+1) S).length
theorem ZAd (s:WH)(S:Nat):con s 0 S=if wat s 0 S=0\/Za<=wat s 0 S then 0 else (JQ s 0 S).length:=rfl
theorem Xa (s:WH)(l S:Nat):con s (l+1) S=if wat s (l+1) S=0 then (if Za<=wat s l S then (Xr (JQ s l S) (l+1) (S % 2 ^ (l+1))).length else 0) else if Za<=wat s (l+1) S then 0 else (JQ s (l+1) S).length:=rfl
def Xj (s:WH):Nat:=ZBp ZKY λp=>con s p.1 p.2
def pend:ZBS->Nat
 |.idle=>0
 |.run _ _ _ (.mv _ _ _ (.leave _))=>1
 |.run _ _ _ (.mvS _ _ _ _ (.leave _))=>1
 |.run _ _ _ (.mv _ _ _ (.gone _ _ _ n))=>n
 |.run _ _ _ (.mvS _ _ _ _ (.gone _ _ _ n))=>n
 |.run _ res _ _=>if res=true then 1 else 0
def ZF6 (s:YF):Nat:=ZBp (List.range 64) λi=>pend (s.call i)
theorem ZEU {s:YF}{who:Nat}(c:ZBS)(hw:who<64):ZF6 (s.put who c)+pend (s.call who)=ZF6 s+pend c:=by
 have:=ZFj (L:=List.range 64) (f:=λi=>pend (s.call i)) (g:=λi=>pend ((s.put who c).call i)) (a:=who) List.nodup_range (ZbT.2 hw) (λi _ e=>by rw[YC _ _ e]);rw[YD]at this;exact this
theorem ZGd {s:WH}{l S:Nat}(h1:wat s l S≠0)(h2:wat s l S<Za):con s l S=(JQ s l S).length:=by
 cases l with
 |zero=>exact Zcf (λq=>q.elim h1 (λq=>by omega))
 |succ l=>exact(Zcf h1).trans (Zcf ZB)
theorem ZOK {s:WH}{l S:Nat}(h2:Za<=wat s l S):con s l S=0:=by
 have hfz:Za=4611686018427387904:=rfl;cases l with
 |zero=>exact Zcg (.inr h2)
 |succ l=>exact(Zcf ZB).trans (Zcg h2)
theorem ZNZ {s s':WH}(h1:∀l S,l<=4->wat s' l S=wat s l S)(h2:∀l S,l<=4->JQ s' l S=JQ s l S):Xj s'=Xj s:=ZBo λp hp=>by
 obtain⟨l,S⟩:=p;have a:=(ZFS hp).1;have a:l<=4:=a;cases l with
 |zero=>show con s' 0 S=con s 0 S;rw[ZAd,ZAd,h1 0 S a,h2 0 S a]
 |succ l=>show con s' (l+1) S=con s (l+1) S;rw[Xa,Xa,h1 _ S a,h2 _ S a,h1 l S ZB,h2 l S ZB]
theorem ZPg {s s':WH}{l S:Nat}(hl:l<=4)(hS:S<2 ^ l)(h0:wat s l S≠0)(h0':wat s' l S≠0)(hf:wat s l S<Za)(hf':wat s' l S<Za)(W:∀l' S',l'<=4->ZP l' S'≠ZP l S->wat s' l' S'=wat s l' S'/\JQ s' l' S'=JQ s l' S'):Xj s'+(JQ s l S).length=Xj s+(JQ s' l S).length:=by
 have:=ZFj (L:=ZKY) (f:=λp=>con s p.1 p.2) (g:=λp=>con s' p.1 p.2) (a:=(l,S)) ZGm (ZEG hl hS) (λp hp hne=>by
  obtain⟨l',S'⟩:=p;obtain⟨a,b⟩:=ZFS hp;have a:l'<=4:=a;have b:S'<2 ^ l':=b
  have ne:ZP l' S'≠ZP l S:=λe=>hne (by
   obtain⟨rfl,e2⟩:=Jd e;rw[Zb9 b,Zb9 hS]at e2;rw[e2])
  obtain⟨w1,w2⟩:=W l' S' a ne;cases l' with
  |zero=>show con s' 0 S'=con s 0 S';rw[ZAd,ZAd,w1,w2]
  |succ l'=>
   show con s' (l'+1) S'=con s (l'+1) S';rw[Xa,Xa,w1,w2];by_cases e:ZP l' S'=ZP l S
   ·have q1:wat s l' S'=wat s l S:=by unfold wat;rw[e]
    have q2:wat s' l' S'=wat s' l S:=by unfold wat;rw[e]
    rw[q1,q2,Zcf (show ¬Za<=wat s l S by omega),Zcf (show ¬Za<=wat s' l S by omega)]
   ·obtain⟨w3,w4⟩:=W l' S' ZB e;rw[w3,w4])
 have e1:con s l S=(JQ s l S).length:=ZGd h0 hf;have e2:con s' l S=(JQ s' l S).length:=ZGd h0' hf';show ZBp ZKY _+_=ZBp ZKY _+_;rw[<-e1,<-e2];exact this
theorem ZRk {l S:Nat}{h:List ZO}(hS:S<2 ^ l)(hc:∀c ∈ h,JD c.id % 2 ^ l=S):(Xr h (l+1) S).length+(Xr h (l+1) (S+2 ^ l)).length=h.length:=by
 induction h with
 |nil=>rfl
 |cons c h ih=>
  have i:=ih (λd hd=>hc d (ZbK _ hd));have e:=hc c (ZbL ..);have p:2 ^ (l+1)=2 ^ l*2:=ZcJ _ _;have q:JD c.id % 2 ^ (l+1)=S\/JD c.id % 2 ^ (l+1)=S+2 ^ l:=by
   have a:JD c.id % 2 ^ (l+1) % 2 ^ l=JD c.id % 2 ^ l:=Nat.mod_mod_of_dvd _ ⟨2,p⟩;have b:=ZcA (JD c.id) (y:=2 ^ (l+1)) ZcG;rw[e]at a;by_cases q:JD c.id % 2 ^ (l+1)<2 ^ l
   ·rw[Zb9 q]at a;exact .inl a
   ·rw[Nat.mod_eq_sub_mod ZB,Zb9 ZB]at a;exact .inr ZB
  unfold Xr ZAi at i ⊢;rcases q with q|q
  ·rw[List.filter_cons_of_pos (by simpa using q),List.filter_cons_of_neg (by simp;omega)];simp only[ZbA];omega
  ·rw[List.filter_cons_of_neg (by simp;omega),List.filter_cons_of_pos (by simpa using q)];simp only[ZbA];omega
theorem ZNa {s s':WH}{l S:Nat}(T:TOk s)(hl:l<=3)(h0:wat s (l+1) S=0)(hp:Za<=wat s l S)(h1:wat s' (l+1) S=1)(hh:JQ s' (l+1) S=Xr (JQ s l S) (l+1) (S % 2 ^ (l+1)))(W:∀l' S',l'<=4->ZP l' S'≠ZP (l+1) S->wat s' l' S'=wat s l' S'/\JQ s' l' S'=JQ s l' S'):Xj s'=Xj s:=ZBo λp hpm=>by
 obtain⟨l',S'⟩:=p;obtain⟨a,b⟩:=ZFS hpm;have a:l'<=4:=a;have b:S'<2 ^ l':=b;have hfz:Za=4611686018427387904:=rfl;show con s' l' S'=con s l' S';by_cases e:ZP l' S'=ZP (l+1) S
 ·obtain⟨rfl,e2⟩:=Jd e;have up:=ZJZ e;have e3:∀t:WH,wat t (l+1) S'=wat t (l+1) S/\JQ t (l+1) S'=JQ t (l+1) S/\wat t l S'=wat t l S/\JQ t l S'=JQ t l S:=λt=>⟨by unfold wat;rw[e],by unfold JQ;rw[e],by unfold wat;rw[up],by unfold JQ;rw[up]⟩;obtain⟨a1,a2,a3,a4⟩:=e3 s;obtain⟨b1,b2,b3,b4⟩:=e3 s';rw[Xa,Xa,a1,a3,a4,b1,b2,h0,h1,hh,Zcf ZB,Zcf ZB,Zcg rfl,Zcg hp,e2]
 ·obtain⟨w1,w2⟩:=W l' S' a e;cases l' with
  |zero=>rw[ZAd,ZAd,w1,w2]
  |succ l'=>
   rw[Xa,Xa,w1,w2];by_cases e4:ZP l' S'=ZP (l+1) S
   ·have q1:wat s l' S'=0:=by rw[<-h0];unfold wat;rw[e4]
    have q2:wat s' l' S'=1:=by rw[<-h1];unfold wat;rw[e4]
    rw[q1,q2,Zcf (show ¬Za<=0 by omega),Zcf (show ¬Za<=1 by omega)]
   ·obtain⟨w3,w4⟩:=W l' S' ZB e4;rw[w3,w4]
theorem ZJk {s s':WH}{l S:Nat}(T:TOk s)(hl:l<=3)(hS:S<2 ^ l)(h0:wat s l S≠0)(hf:wat s l S<Za)(hf':Za<=wat s' l S)(hh:JQ s' l S=JQ s l S)(W:∀l' S',l'<=4->ZP l' S'≠ZP l S->wat s' l' S'=wat s l' S'/\JQ s' l' S'=JQ s l' S'):Xj s'=Xj s:=by
 have p:2 ^ (l+1)=2 ^ l*2:=ZcJ _ _;have nep:∀S',ZP (l+1) S'≠ZP l S:=λS' e=>by have:=(Jd e).1;omega
 have z:∀S',ZP l S'=ZP l S->wat s (l+1) S'=0:=λS' e=>by
  by_cases q:wat s (l+1) S'=0
  ·exact q
  ·have:=T.up l S' hl q;have e2:wat s l S'=wat s l S:=by unfold wat;rw[e]
   omega
 have pe1:ZP l (S+2 ^ l)=ZP l S:=by unfold ZP;rw[Nat.add_mod_right]
 have hat1:∀t:WH,wat t l (S+2 ^ l)=wat t l S/\JQ t l (S+2 ^ l)=JQ t l S:=λt=>⟨by unfold wat;rw[pe1],by unfold JQ;rw[pe1]⟩;have on:=ZMW (L:=ZKY) ZGm [(l,S),(l+1,S),(l+1,S+2 ^ l)] (λp=>con s p.1 p.2) (λp=>con s' p.1 p.2)
  (by
   have:1<=2 ^ l:=ZcG;refine ZbW.2 ⟨λh=>?_,ZbW.2 ⟨λh=>?_,ZbW.2 ⟨ZbX,List.nodup_nil⟩⟩⟩
   ·rcases ZbJ.1 h with h|h
    ·injection h with h1 h2;omega
    ·rcases ZbJ.1 h with h|h
     ·injection h with h1 h2;omega
     ·cases h
   ·rcases ZbJ.1 h with h|h
    ·injection h with h1 h2;omega
    ·cases h)
  (λa ha=>by
   rcases ZbJ.1 ha with rfl|ha
   ·exact ZEG ZB hS
   ·rcases ZbJ.1 ha with rfl|ha
    ·exact ZEG ZB ZB
    ·rcases ZbJ.1 ha with rfl|ha
     ·exact ZEG ZB ZB
     ·cases ha)
  (λi hi hn=>by
   obtain⟨l',S'⟩:=i;obtain⟨a,b⟩:=ZFS hi;have a:l'<=4:=a;have b:S'<2 ^ l':=b
   have ne:ZP l' S'≠ZP l S:=λe=>hn (by
    obtain⟨rfl,e2⟩:=Jd e;rw[Zb9 b,Zb9 hS]at e2;subst e2;exact ZbL ..)
   obtain⟨w1,w2⟩:=W l' S' a ne;show con s' l' S'=con s l' S';cases l' with
   |zero=>rw[ZAd,ZAd,w1,w2]
   |succ l'=>
    rw[Xa,Xa,w1,w2];by_cases e:ZP l' S'=ZP l S
    ·exact absurd (by
      obtain⟨rfl,e2⟩:=Jd e;rw[Zb9 hS]at e2;have q:S'=S\/S'=S+2 ^ l':=by
       by_cases q:S'<2 ^ l'
       ·rw[Zb9 q]at e2;exact .inl e2
       ·rw[Nat.mod_eq_sub_mod ZB,Zb9 ZB]at e2;exact .inr ZB
      rcases q with rfl|rfl
      ·exact ZbK _ (ZbL ..)
      ·exact ZbK _ (ZbK _ (ZbL ..))) hn
    ·obtain⟨w3,w4⟩:=W l' S' ZB e;rw[w3,w4])
 have c0:con s l S=(JQ s l S).length:=ZGd h0 hf;have c1:con s (l+1) S=0:=by rw[Xa,z S rfl,Zcg rfl,Zcf ZB]
 have c2:con s (l+1) (S+2 ^ l)=0:=by rw[Xa,z _ pe1,Zcg rfl,(hat1 s).1,Zcf ZB]
 have d0:con s' l S=0:=ZOK hf';have d1:con s' (l+1) S=(Xr (JQ s l S) (l+1) S).length:=by
  rw[Xa,(W (l+1) S ZB (nep S)).1,z S rfl,Zcg rfl,Zcg hf',hh,Zb9 ZB]
 have d2:con s' (l+1) (S+2 ^ l)=(Xr (JQ s l S) (l+1) (S+2 ^ l)).length:=by
  rw[Xa,(W (l+1) _ ZB (nep _)).1,z _ pe1,Zcg rfl,(hat1 s').1,Zcg hf',(hat1 s').2,hh,Zb9 ZB]
 have ct:=ZRk (h:=JQ s l S) hS (λc hc=>by rw[T.cells l S ZB c hc,Zb9 hS]);rw[XJ,XJ,XJ,XJ,XJ,XJ]at on;have on:Xj s'+(con s l S+(con s (l+1) S+(con s (l+1) (S+2 ^ l)+0)))=Xj s+(con s' l S+(con s' (l+1) S+(con s' (l+1) (S+2 ^ l)+0))):=on;omega
def ZDK (res:Bool):Nat:=if res=true then 1 else 0
def ZHU (x:ZX)(res:Bool)(ser:Int):Zn->Nat
 |.on k=>pend (.run x res ser k)
 |.fin _=>0
def CKO (res:Bool):Zn->Prop
 |.on (.put f _ _)=>f.there=true\/res=true
 |_=>True
def PO (x:ZX)(res:Bool)(ser:Int)(out:Zn):Prop:=ZHU x res ser out<=ZDK res/\CKO res out
theorem ZCZ {x:ZX}{res:Bool}{ser:Int}{r:YH}:PO x res ser (YT res r):=by
 unfold YT
 split
 ·next h=>exact⟨by show 1<=ZDK res;unfold ZDK;rw[Zcg h];exact Zb0 _,trivial⟩
 ·exact⟨ZcL _,trivial⟩
theorem ZIQ {x:ZX}{room:Nat}{res:Bool}{ser:Int}{f:Yi}{c:ZO}{r:YH}:PO x res ser (.on (Jk room res f c r)):=by
 unfold Jk
 split
 ·next h=>exact⟨Zb0 _,h⟩
 ·exact⟨Zb0 _,trivial⟩
theorem ZSY {x:ZX}{p:YR}{room:Nat}{res:Bool}{ser:Int}{f:Yi}{c:ZO}:PO x res ser (JK p room res ser f c):=by
 unfold JK
 split
 ·exact ZCZ
 ·split
  ·exact ZIQ
  ·exact⟨Zb0 _,trivial⟩
theorem ZBN {x:ZX}{res:Bool}{ser:Int}{j shards:Nat}{gone:Int}:PO x res ser (Zo j shards gone):=by
 unfold Zo
 split
 ·exact⟨ZcL _,trivial⟩
 ·exact⟨Zb0 _,trivial⟩
theorem ZPO {P:List YR}{x:ZX}{room word v:Nat}{res:Bool}{ser:Int}{l:List ZO}:PO x res ser (ZAr P room x res ser word v l):=by
 unfold ZAr
 dsimp only
 split
 ·exact⟨Zb0 _,trivial⟩
 ·split
  ·exact ZSY
  ·split
   ·split
    ·exact⟨ZcL _,trivial⟩
    ·exact ZIQ
   ·split
    ·exact⟨ZcL _,trivial⟩
    ·exact⟨Zb0 _,trivial⟩
theorem ZF5 {P:List YR}{x:ZX}{room sum word v:Nat}{res:Bool}{ser:Int}{l:List ZO}{t:ZAN}:PO x res ser (Yh P room x res ser sum word v l t):=by
 unfold Yh
 split
 ·exact⟨Zb0 _,trivial⟩
 ·cases t with
  |begin=>exact ZPO
  |evict j shards gone=>
   unfold ZEm
   dsimp only
   split
   ·exact ZBN
   ·exact⟨Zb0 _,trivial⟩
theorem ZIR {x:ZX}{res:Bool}{ser:Int}{level i:Nat}:PO x res ser (.on (Xi level i)):=by unfold Xi;split<;>exact⟨Zb0 _,trivial⟩
theorem ZJX {x:ZX}{res:Bool}{ser:Int}{t:JL}{l:List ZO}:PO x res ser (.on (Xy l t)):=by cases t<;>exact⟨Zb0 _,trivial⟩
theorem ZF4 {P:List YR}{x:ZX}{room word v:Nat}{res:Bool}{ser:Int}{l:List ZO}{t:Xv}:PO x res ser (Xd P room x res ser word v l t):=by
 cases t with
 |find sum t=>
  unfold Xd
  dsimp only
  split
  ·exact⟨Zb0 _,trivial⟩
  ·exact ZF5
 |move1 lv i holds=>exact⟨Zb0 _,trivial⟩
 |move2 lv i=>exact ZIR
structure ZQs (w:WH)(c:KC)(x:ZX)(res:Bool)(ser:Int)(k:YN)(out:Zn):Prop where
 le:Xj c.wh+ZHU x c.res c.ser out+w.ws.getD 32 0<=Xj w+pend (.run x res ser k)+c.ws.getD 32 0
 top:c.ws.getD 32 0<=w.ws.getD 32 0+1
 put:CKO c.res out
theorem YW {w:WH}{c:KC}{x:ZX}{res:Bool}{ser:Int}{k:YN}{out:Zn}(hw:c.wh=w)(hr:c.res=res)(hk:pend (.run x res ser k)=ZDK res)(h:PO x c.res c.ser out):ZQs w c x res ser k out:=by
 subst hw hr;exact⟨by rw[hk];show Xj c.wh+_+c.ws.getD 32 0<=Xj c.wh+_+c.ws.getD 32 0;have:=h.1;omega,Zb1 _,h.2⟩
theorem ZCi {w:WH}{c:KC}{x:ZX}{res:Bool}{ser:Int}{k:YN}{out:Zn}(hl:Xj c.wh=Xj w)(h3:c.ws.getD 32 0=w.ws.getD 32 0)(hr:c.res=res)(hk:pend (.run x res ser k)=ZDK res)(h:PO x c.res c.ser out):ZQs w c x res ser k out:=by
 subst hr;exact⟨by rw[hk,hl,h3];have:=h.1;omega,by omega,h.2⟩
theorem ZFF (s:WH)(l S:Nat):wat s l (S % 2 ^ l)=wat s l S/\JQ s l (S % 2 ^ l)=JQ s l S:=⟨by unfold wat;rw[ZBu],by unfold JQ;rw[ZBu]⟩
theorem ZFm {w:WH}{l S new:Nat}{h:List ZO}(hl:w.ws.length=34)(hh:w.hs.length=34)(l4:l<=4):∀l' S',l'<=4->ZP l' S'≠ZP l S->wat ⟨w.ws.set (ZP l S) new,w.hs.set (ZP l S) h⟩ l' S'=wat w l' S'/\JQ ⟨w.ws.set (ZP l S) new,w.hs.set (ZP l S) h⟩ l' S'=JQ w l' S':=λl' S' _ ne=>by
 obtain⟨a,b⟩:=ZCx (w:=w) (l:=l) (S:=S) (l':=l') (S':=S') (new:=new) (h:=h) hl hh l4;rw[a,b,Zcf ne,Zcf ne];exact⟨rfl,rfl⟩
theorem ZBw {w:WH}{word new:Nat}{h:List ZO}(hl:w.ws.length=34)(hh:w.hs.length=34)(h1:word=0\/word=32\/word=33):Xj ⟨w.ws.set word new,w.hs.set word h⟩=Xj w:=ZNZ (λl S h4=>by
  have p:=Xp (shard:=S) h4;show(w.ws.set word new).getD (ZP l S) 0=_;rw[Z8 _ _ _ _ _ ZB,Zcf ZB];rfl) (λl S h4=>by
  have p:=Xp (shard:=S) h4;show(w.hs.set word h).getD (ZP l S) []=_;rw[Z8 _ _ _ _ _ ZB,Zcf ZB];rfl)
theorem ZJj {w:WH}{l S v:Nat}{h:List ZO}(hl:w.ws.length=34)(hh:w.hs.length=34)(l4:l<=4)(hv:w.ws.getD (ZP l S) 0=v)(h0:v≠0)(hf:v+1<Za):Xj ⟨w.ws.set (ZP l S) (v+1),w.hs.set (ZP l S) h⟩+(w.hs.getD (ZP l S) []).length=Xj w+h.length:=by
 have hS:=ZcA S (y:=2 ^ l) ZcG;obtain⟨a,b⟩:=ZCx (w:=w) (l:=l) (S:=S) (l':=l) (S':=S) (new:=v+1) (h:=h) hl hh l4;rw[Zcg rfl]at a b;have m:=ZFF w l S;have m':=ZFF ⟨w.ws.set (ZP l S) (v+1),w.hs.set (ZP l S) h⟩ l S;have e:wat w l S=v:=hv;have:=ZPg (s:=w) (s':=⟨w.ws.set (ZP l S) (v+1),w.hs.set (ZP l S) h⟩) (l:=l) (S:=S % 2 ^ l) l4 hS (by rw[m.1];omega) (by rw[m'.1,a];omega) (by rw[m.1];omega) (by rw[m'.1,a];omega) (λl' S' h1 h2=>ZFm hl hh l4 l' S' h1 (by rw[ZBu]at h2;exact h2));rw[m.2,m'.2,b]at this;exact this
theorem ZM7 {l:List ZO}{i:Nat}{b:Bool}{c:ZO}(h:b=true->i<l.length)(hi:i<=l.length):(Xg l i b c).length=l.length+(if b=true then 0 else 1):=by
 unfold Xg
 split
 ·rw[ZbF];rfl
 ·simp;omega
theorem ZLM {P:List YR}{room N M who:Nat}{s:YF}{x:ZX}{res:Bool}{ser:Int}{k:YN}{c:KC}{out:Zn}(hN:N+1<=4611686018427387903)(h:ZCP P room N M s)(T:TOk s.wh)(tk:TK s.wh x k)(hle:pend (.run x res ser k)<=s.ws.getD 32 0)(htop:s.ws.getD 32 0<=N)(hput:CKO res (.on k))(hres:res=true->x.op<=3)(hc:s.call who=.run x res ser k)(e:Yk P room x (s.kc res ser) k=(c,out)):ZQs s.wh c x res ser k out:=by
 have hr:=h.run who x res ser k hc;have W:=h.w;have lw:s.ws.length=34:=W.lw;have lh:s.hs.length=34:=W.lh;have hk:=hr.kont;have hfz:Za=4611686018427387904:=rfl;have hnv:JH=18446744073709551615:=rfl;have e32:∀word new,word<32->(s.ws.set word new).getD 32 0=s.ws.getD 32 0:=λword new hw=>by rw[Z8 _ _ _ _ _ ZB,Zcf ZB]
 have s32:∀new,(s.ws.set 32 new).getD 32 0=new:=λnew=>by rw[Z8 _ _ _ _ _ ZB,Zcg rfl]
 cases k with
 |find sum t=>
  have e:(s.kc res ser,if s.ws.getD 0 0 % 2=0 then Zn.on (.enter sum (ZP (s.ws.getD 0 0 / 2) sum) t) else .on (.frz (ZP (s.ws.getD 0 0 / 2) sum) (.find sum (s.ws.getD 0 0 / 2) t)))=(c,out):=e;injection e with e1 e2;subst e1
  split at e2<;>subst e2<;>exact YW rfl rfl rfl ⟨Zb0 _,trivial⟩
 |enter sum word t=>
  injection e with e1 e2;subst e1 e2;exact YW rfl rfl rfl ZF5
 |frz word t=>
  have e:(s.kc res ser,if Za<=s.ws.getD word 0 then Zn.on (Xy (s.hs.getD word []) t) else .on (.frzS word (s.ws.getD word 0) (s.hs.getD word []) t))=(c,out):=e;injection e with e1 e2;subst e1
  split at e2<;>subst e2
  ·exact YW rfl rfl rfl ZJX
  ·exact YW rfl rfl rfl ⟨Zb0 _,trivial⟩
 |frzS word v holds t=>
  obtain⟨h1,⟨a1,a2,a3,a4,a5⟩,h3⟩:=hk;have e:(if s.ws.getD word 0=v then ((s.kc res ser).sw word (v+Za) holds,Zn.on (Xy holds t)) else (s.kc res ser,.on (.frz word t)))=(c,out):=e
  split at e<;>(injection e with e1 e2;subst e1 e2)
  ·next q=>
   have tk:TF s.wh word t:=tk;obtain⟨l,S,l3,ew,hd⟩:∃l S,l<=3/\word=ZP l S/\2*l+1<=s.wh.ws.getD 0 0:=by
    cases t with
    |find sum level t=>exact⟨level,sum,h1.2.2.2,tk.1,tk.2⟩
    |move level i=>exact⟨level,i,h1.1,tk.1,tk.2.1⟩
   have nz:=T.made l S ZB ZB;have a5:=a5 q;refine ZCi ?_ (e32 _ _ ZB) rfl rfl ZJX;show Xj ⟨s.wh.ws.set word (v+Za),s.wh.hs.set word holds⟩=Xj s.wh;subst ew;have hv:wat s.wh l S=v:=q;obtain⟨a,b⟩:=ZCx (w:=s.wh) (l:=l) (S:=S) (l':=l) (S':=S) (new:=v+Za) (h:=holds) lw lh ZB;rw[Zcg rfl]at a b;have m:=ZFF s.wh l S;have m':=ZFF ⟨s.wh.ws.set (ZP l S) (v+Za),s.wh.hs.set (ZP l S) holds⟩ l S;exact ZJk (l:=l) (S:=S % 2 ^ l) T l3 (ZcA _ ZcG) (by rw[m.1];exact nz) (by rw[m.1];omega) (by rw[m'.1,a];omega) (by rw[m'.2,b,m.2];exact a5.symm) (λl' S' h1 h2=>ZFm lw lh ZB l' S' h1 (by rw[ZBu]at h2;exact h2))
  ·exact YW rfl rfl rfl ⟨Zb0 _,trivial⟩
 |half level shard holds t=>
  have e:(s.kc res ser,if s.ws.getD (ZP level shard) 0≠0 then Xd P room x res ser (ZP level shard) (s.ws.getD (ZP level shard) 0) (s.hs.getD (ZP level shard) []) t else .on (.halfS level shard holds t))=(c,out):=e;injection e with e1 e2;subst e1
  split at e2<;>subst e2
  ·exact YW rfl rfl rfl ZF4
  ·exact YW rfl rfl rfl ⟨Zb0 _,trivial⟩
 |halfS level shard holds t=>
  obtain⟨h1,h2,h3,h4,h5⟩:=hk;have tk:TH s.wh level shard holds t:=tk;have e:((if s.ws.getD (ZP level shard) 0=0 then (s.kc res ser).sw (ZP level shard) 1 (Xr holds level (ZP level shard - 2 ^ level)) else s.kc res ser),Xd P room x res ser (ZP level shard) 0 [] t)=(c,out):=e;injection e with e1 e2;subst e2;have p:=Xp (shard:=shard) h2
  split at e1<;>subst e1
  ·next q=>
   obtain⟨lv,e3,hp⟩:=ZOy tk;subst e3;refine ZCi ?_ (e32 _ _ p.2) rfl rfl ZF4;show Xj ⟨s.wh.ws.set (ZP (lv+1) shard) 1,s.wh.hs.set (ZP (lv+1) shard) (Xr holds (lv+1) (ZP (lv+1) shard - 2 ^ (lv+1)))⟩=Xj s.wh;obtain⟨a,b⟩:=ZCx (w:=s.wh) (l:=lv+1) (S:=shard) (l':=lv+1) (S':=shard) (new:=1) (h:=Xr holds (lv+1) (ZP (lv+1) shard - 2 ^ (lv+1))) lw lh h2;rw[Zcg rfl]at a b;exact ZNa (l:=lv) (S:=shard) T ZB q hp.1 a (by rw[b,hp.2];unfold ZP;rw[Zbv]) (ZFm lw lh h2)
  ·exact YW rfl rfl rfl ZF4
 |split=>
  have e:(s.kc res ser,if s.ws.getD 0 0 % 2=1 then Zn.on (Xi (s.ws.getD 0 0 / 2) 0) else if s.ws.getD 0 0 / 2=4 then .fin (Yb 5) else .on (.splitS (s.ws.getD 0 0)))=(c,out):=e;injection e with e1 e2;subst e1
  split at e2
  ·subst e2;exact YW rfl rfl rfl ZIR
  ·split at e2<;>subst e2
   ·exact YW rfl rfl rfl ⟨ZcL _,trivial⟩
   ·exact YW rfl rfl rfl ⟨Zb0 _,trivial⟩
 |splitS d0=>
  have e:(if s.ws.getD 0 0=d0 then ((s.kc res ser).sw 0 (d0+1) [],Zn.on (Xi (d0 / 2) 0)) else (s.kc res ser,.on .split))=(c,out):=e
  split at e<;>(injection e with e1 e2;subst e1 e2)
  ·exact ZCi (show Xj ⟨s.wh.ws.set 0 (d0+1),s.wh.hs.set 0 []⟩=Xj s.wh from ZBw lw lh (.inl rfl)) (show(s.ws.set 0 (d0+1)).getD 32 0=_ from e32 _ _ ZB) rfl rfl ZIR
  ·exact YW rfl rfl rfl ⟨Zb0 _,trivial⟩
 |moveEnd level=>
  have e:((if s.ws.getD 0 0=2*level+1 then (s.kc res ser).sw 0 (2*level+2) [] else s.kc res ser),Zn.fin (Yb 0))=(c,out):=e;injection e with e1 e2;subst e2
  split at e1<;>subst e1
  ·exact ZCi (show Xj ⟨s.wh.ws.set 0 (2*level+2),s.wh.hs.set 0 []⟩=Xj s.wh from ZBw lw lh (.inl rfl)) (show(s.ws.set 0 (2*level+2)).getD 32 0=_ from e32 _ _ ZB) rfl rfl ⟨ZcL _,trivial⟩
  ·exact YW rfl rfl rfl ⟨ZcL _,trivial⟩
 |mv word by_ stop t=>
  by_cases q:s.ws.getD word 0=stop
  ·cases t with
   |leave r=>
    have e:(s.kc res ser,if s.ws.getD word 0=stop then Zn.fin r else .on (.mvS word by_ stop (s.ws.getD word 0) (.leave r)))=(c,out):=e;rw[Zcg q]at e;injection e with e1 e2;subst e1 e2;exact⟨Zbs (Zbr (ZcL _) _) _,Zb1 _,trivial⟩
   |gone j shards was n=>
    have e:(s.kc res ser,if s.ws.getD word 0=stop then Zn.fin (Yb 0) else .on (.mvS word by_ stop (s.ws.getD word 0) (.gone j shards was n)))=(c,out):=e;rw[Zcg q]at e;injection e with e1 e2;subst e1 e2;exact⟨Zbs (Zbr (ZcL _) _) _,Zb1 _,trivial⟩
   |count f ce r=>
    have e:(s.kc res ser,if s.ws.getD word 0=stop then Zn.fin (Yb 10) else .on (.mvS word by_ stop (s.ws.getD word 0) (.count f ce r)))=(c,out):=e;rw[Zcg q]at e;injection e with e1 e2;subst e1 e2;exact YW rfl rfl rfl ⟨ZcL _,trivial⟩
   |serial f ce=>
    have e:(s.kc res ser,if s.ws.getD word 0=stop then YT res (Yb 5) else .on (.mvS word by_ stop (s.ws.getD word 0) (.serial f ce)))=(c,out):=e;rw[Zcg q]at e;injection e with e1 e2;subst e1 e2;exact YW rfl rfl rfl ZCZ
  ·have e2:Yk P room x (s.kc res ser) (.mv word by_ stop t)=(s.kc res ser,.on (.mvS word by_ stop (s.ws.getD word 0) t)):=by
    show(s.kc res ser,_)=_;exact ZcZ (Prod.mk _) (Zcf q)
   rw[e2]at e;injection e with e1 e2;subst e1 e2;exact⟨Zbs (Zbr (by cases t<;>exact Zb0 _) _) _,Zb1 _,trivial⟩
 |mvS word by_ stop v t=>
  have hk:MOk P room N s.wh x res ser word by_ stop t:=hk;by_cases q:s.ws.getD word 0=v
  ·cases t with
   |leave r=>
    obtain⟨rfl,rfl,_⟩:=hk;have e:(if s.ws.getD 32 0=v then ((s.kc res ser).sw 32 ((v+JH) % 18446744073709551616) [],Zn.fin r) else (s.kc res ser,.on (.mv 32 JH stop (.leave r))))=(c,out):=e;rw[Zcg q]at e;injection e with e1 e2;subst e1 e2;have hle:1<=s.ws.getD 32 0:=hle;have lo:=ZBw (w:=s.wh) (word:=32) (new:=(v+JH) % 18446744073709551616) (h:=[]) lw lh (.inr (.inl rfl));refine⟨?_,?_,trivial⟩
    ·show Xj ⟨s.wh.ws.set 32 ((v+JH) % 18446744073709551616),s.wh.hs.set 32 []⟩+0+s.ws.getD 32 0<=Xj s.wh+1+(s.ws.set 32 ((v+JH) % 18446744073709551616)).getD 32 0;rw[s32,lo];omega
    ·show(s.ws.set 32 ((v+JH) % 18446744073709551616)).getD 32 0<=s.ws.getD 32 0+1;rw[s32];omega
   |gone j shards was n=>
    obtain⟨rfl,_,ho5,_,_,_,_,hn5,rfl⟩:=hk;have e:(if s.ws.getD 32 0=v then ((s.kc res ser).sw 32 ((v+(18446744073709551616 - n)) % 18446744073709551616) [],Zo j shards (was+n)) else (s.kc res ser,.on (.mv 32 (18446744073709551616 - n) stop (.gone j shards was n))))=(c,out):=e;rw[Zcg q]at e;injection e with e1 e2;subst e1 e2;have hle:n<=s.ws.getD 32 0:=hle;have lo:=ZBw (w:=s.wh) (word:=32) (new:=(v+(18446744073709551616 - n)) % 18446744073709551616) (h:=[]) lw lh (.inr (.inl rfl));have hp:=(ZBN (x:=x) (res:=res) (ser:=ser) (j:=j) (shards:=shards) (gone:=was+n)).1;have hq:=(ZBN (x:=x) (res:=res) (ser:=ser) (j:=j) (shards:=shards) (gone:=was+n)).2;have hrf:ZDK res=0:=Zcf (λq=>by have:=hres q;omega);refine⟨?_,?_,hq⟩
    ·show Xj ⟨s.wh.ws.set 32 ((v+(18446744073709551616 - n)) % 18446744073709551616),s.wh.hs.set 32 []⟩+ZHU x res ser (Zo j shards (was+n))+s.ws.getD 32 0<=Xj s.wh+n+(s.ws.set 32 ((v+(18446744073709551616 - n)) % 18446744073709551616)).getD 32 0;rw[s32,lo];omega
    ·show(s.ws.set 32 ((v+(18446744073709551616 - n)) % 18446744073709551616)).getD 32 0<=s.ws.getD 32 0+1;rw[s32];omega
   |count f ce r=>
    obtain⟨rfl,rfl,_⟩:=hk;have e:(if s.ws.getD 32 0=v then ({(s.kc res ser).sw 32 ((v+1) % 18446744073709551616) []with res:=true},Zn.on (.put f ce r)) else (s.kc res ser,.on (.mv 32 1 stop (.count f ce r))))=(c,out):=e;rw[Zcg q]at e;injection e with e1 e2;subst e1 e2;have lo:=ZBw (w:=s.wh) (word:=32) (new:=(v+1) % 18446744073709551616) (h:=[]) lw lh (.inr (.inl rfl));refine⟨?_,?_,.inr rfl⟩
    ·show Xj ⟨s.wh.ws.set 32 ((v+1) % 18446744073709551616),s.wh.hs.set 32 []⟩+1+s.ws.getD 32 0<=Xj s.wh+ZDK res+(s.ws.set 32 ((v+1) % 18446744073709551616)).getD 32 0;rw[s32,lo];omega
    ·show(s.ws.set 32 ((v+1) % 18446744073709551616)).getD 32 0<=s.ws.getD 32 0+1;rw[s32];omega
   |serial f ce=>
    obtain⟨rfl,_⟩:=hk;have e:(if s.ws.getD 33 0=v then ({(s.kc res ser).sw 33 ((v+by_) % 18446744073709551616) []with ser:=(((v+by_) % 18446744073709551616:Nat):Int)},Zn.on (Jk room res f (ZAE (Zk P x.pol) ce ((v+by_) % 18446744073709551616:Nat)).2 (ZAE (Zk P x.pol) ce ((v+by_) % 18446744073709551616:Nat)).1)) else (s.kc res ser,.on (.mv 33 by_ stop (.serial f ce))))=(c,out):=e;rw[Zcg q]at e;injection e with e1 e2;subst e1 e2;have lo:=ZBw (w:=s.wh) (word:=33) (new:=(v+by_) % 18446744073709551616) (h:=[]) lw lh (.inr (.inr rfl));exact ZCi lo (show(s.ws.set 33 ((v+by_) % 18446744073709551616)).getD 32 0=s.ws.getD 32 0 by rw[Z8 _ _ _ _ _ ZB,Zcf (by decide)]) rfl rfl ZIQ
  ·have e2:Yk P room x (s.kc res ser) (.mvS word by_ stop v t)=(s.kc res ser,.on (.mv word by_ stop t)):=Zcf q;rw[e2]at e;injection e with e1 e2;subst e1 e2;exact⟨Zbs (Zbr (by cases t<;>exact Zb0 _) _) _,Zb1 _,trivial⟩
 |put f ce r=>
  obtain⟨h1,h2,h3,h4⟩:=hk;obtain⟨a1,a2,a3,a4,a5⟩:=h2.same;obtain⟨v0,l,l4,ew⟩:=(show ZBh x f from tk);have hput:f.there=true\/res=true:=hput;have e:(if s.ws.getD f.word 0=f.v then ((s.kc res ser).sw f.word (f.v+1) (Xg f.cells f.at_ f.there ce),if f.there=false then Zn.fin r else YT res r) else (s.kc res ser,.on (.find (JD x.id) .begin)))=(c,out):=e
  split at e<;>(injection e with e1 e2;subst e1 e2)
  ·next q=>
   have a5:=a5 q;have lp:=ZJj (w:=s.wh) (l:=l) (S:=JD x.id) (v:=f.v) (h:=Xg f.cells f.at_ f.there ce) lw lh l4 (by rw[<-ew];exact q) v0 ZB;rw[<-ew,a5]at lp;have wl:=ZM7 (l:=f.cells) (i:=f.at_) (b:=f.there) (c:=ce) (λe=>by rw[h2.at_];exact ZId (by rw[<-h2.there];exact e)) (by rw[h2.at_];exact ZIu _ _);have x32:=e32 f.word (f.v+1) a2;refine⟨?_,?_,?_⟩
   ·show Xj ⟨s.wh.ws.set f.word (f.v+1),s.wh.hs.set f.word (Xg f.cells f.at_ f.there ce)⟩+ZHU x res ser _+s.ws.getD 32 0<=Xj s.wh+ZDK res+(s.ws.set f.word (f.v+1)).getD 32 0;rw[x32];by_cases ht:f.there=false
    ·rw[Zcg ht];have hr2:res=true:=hput.resolve_left (by rw[ht];decide);have wl3:(Xg f.cells f.at_ f.there ce).length=f.cells.length+1:=by rw[wl,ht];rfl
     show _+0+_<=_;unfold ZDK;rw[Zcg hr2];omega
    ·rw[Zcf ht];have ht:f.there=true:=by simpa using ht
     have wl3:(Xg f.cells f.at_ f.there ce).length=f.cells.length:=by rw[wl,ht];rfl
     have:=(ZCZ (x:=x) (res:=res) (ser:=ser) (r:=r)).1;omega
   ·show(s.ws.set f.word (f.v+1)).getD 32 0<=s.ws.getD 32 0+1;omega
   ·show CKO res _
    split
    ·exact trivial
    ·exact(ZCZ (x:=x) (res:=res) (ser:=ser) (r:=r)).2
  ·exact YW rfl rfl rfl ⟨Zb0 _,trivial⟩
 |peek ce=>
  injection e with e1 e2;subst e1 e2;exact YW rfl rfl rfl ⟨ZcL _,trivial⟩
 |allow f ce=>
  have e:(s.kc res ser,if (Yo (Zk P x.pol) ce s.clk x.n).1.granted=false\/x.n=0 then YT res (Yo (Zk P x.pol) ce s.clk x.n).1 else .on (Jk room res f (Yo (Zk P x.pol) ce s.clk x.n).2 (Yo (Zk P x.pol) ce s.clk x.n).1))=(c,out):=e;injection e with e1 e2;subst e1
  split at e2<;>subst e2
  ·exact YW rfl rfl rfl ZCZ
  ·exact YW rfl rfl rfl ZIQ
 |evFirst=>
  injection e with e1 e2;subst e1 e2;exact YW rfl rfl rfl ⟨Zb0 _,trivial⟩
 |evScan j shards gone word v cells=>
  have e:(s.kc res ser,if cells.length - (cells.filter λc=>!ZAb P s.clk c).length=0 then Zo j shards gone else .on (.evSwap j shards gone word v (cells.filter λc=>!ZAb P s.clk c) (cells.length - (cells.filter λc=>!ZAb P s.clk c).length)))=(c,out):=e;injection e with e1 e2;subst e1
  split at e2<;>subst e2
  ·exact YW rfl rfl rfl ZBN
  ·exact YW rfl rfl rfl ⟨Zb0 _,trivial⟩
 |evSwap j shards gone word v rest n=>
  obtain⟨h1,h2,h3,h4,h5,h6,h7,cells,⟨a1,a2,a3,a4,a5⟩,h8,h9,h10⟩:=hk;obtain⟨v0,l,S,l4,ew⟩:=(show v≠0/\∃l S,l<=4/\word=ZP l S from tk);have e:(if s.ws.getD word 0=v then ((s.kc res ser).sw word (v+1) rest,Zn.on (.mv 32 (18446744073709551616 - n) JH (.gone j shards gone n))) else (s.kc res ser,Zo j shards gone))=(c,out):=e
  split at e<;>(injection e with e1 e2;subst e1 e2)
  ·next q=>
   have a5:=a5 q;have lp:=ZJj (w:=s.wh) (l:=l) (S:=S) (v:=v) (h:=rest) lw lh l4 (by rw[<-ew];exact q) v0 ZB;rw[<-ew,a5]at lp;have x32:=e32 word (v+1) a2;refine⟨?_,?_,trivial⟩
   ·show Xj ⟨s.wh.ws.set word (v+1),s.wh.hs.set word rest⟩+n+s.ws.getD 32 0<=Xj s.wh+ZDK res+(s.ws.set word (v+1)).getD 32 0;rw[x32];omega
   ·show(s.ws.set word (v+1)).getD 32 0<=s.ws.getD 32 0+1;omega
  ·exact YW rfl rfl rfl ZBN
theorem ZPk {P:List YR}{room N:Nat}{w:WH}{s:YF}{x:ZX}{res:Bool}{ser:Int}{k:YN}{c:KC}{out:Zn}(hk:ZBR P room N w x res ser k)(e:Yk P room x (s.kc res ser) k=(c,out)):c.res=res\/x.op<=3:=by
 have e1:(Yk P room x (s.kc res ser) k).1=c:=ZcZ Prod.fst e;subst e1;cases k with
 |frzS word v holds t=>left;unfold Yk;dsimp only;split<;>rfl
 |halfS level shard holds t=>left;unfold Yk;dsimp only;split<;>rfl
 |splitS d=>left;unfold Yk;dsimp only;split<;>rfl
 |moveEnd level=>left;unfold Yk;dsimp only;split<;>rfl
 |put f ce r=>left;unfold Yk;dsimp only;split<;>rfl
 |evSwap j shards gone word v rest n=>left;unfold Yk;dsimp only;split<;>rfl
 |mvS word by_ stop v t=>
  cases t with
  |count f ce r=>exact .inr hk.2.2.2.1
  |leave r=>left;unfold Yk;dsimp only;split<;>rfl
  |gone j shards was n=>left;unfold Yk;dsimp only;split<;>rfl
  |serial f ce=>left;unfold Yk;dsimp only;split<;>rfl
 |_=>exact .inl rfl
structure ZOo (N:Nat)(s:YF):Prop where
 le:Xj s.wh+ZF6 s<=s.ws.getD 32 0
 top:s.ws.getD 32 0<=N
 put:∀who x res ser k,s.call who=.run x res ser k->CKO res (.on k)
 res:∀who x res ser k,s.call who=.run x res ser k->res=true->x.op<=3
theorem ZRM {s:YF}{who:Nat}(hw:who<64):pend (s.call who)<=ZF6 s:=by
 have:=ZEU (s:=s) (who:=who) .idle hw;have:pend ZBS.idle=0:=rfl;omega
theorem ZNj {P:List YR}{room N M who:Nat}{s:YF}{x:ZX}{res:Bool}{ser:Int}{k:YN}(hN:N+1<=4611686018427387903)(hw:who<64)(h:ZCP P room N M s)(t:ZCI s)(q:ZOo N s)(hc:s.call who=.run x res ser k):ZOo (N+1) (YA P room s who).1:=by
 have hp:=ZRM (s:=s) hw;rw[hc]at hp;have hcn:=ZLM (c:=(Yk P room x (s.kc res ser) k).1) (out:=(Yk P room x (s.kc res ser) k).2) hN h t.t (t.run who x res ser k hc) (by have:=q.le;omega) q.top (q.put who x res ser k hc) (q.res who x res ser k hc) hc rfl;have hrs:=ZPk (c:=(Yk P room x (s.kc res ser) k).1) (out:=(Yk P room x (s.kc res ser) k).2) (h.run who x res ser k hc).kont rfl;rw[ZJp P room s who hc];revert hcn hrs;generalize (Yk P room x (s.kc res ser) k).1=c;generalize (Yk P room x (s.kc res ser) k).2=out;intro hcn hrs;have pp:=ZEU (s:=s.of c) (who:=who) (ZPU x c out) hw;have e1:ZF6 (s.of c)=ZF6 s:=rfl;have e2:pend ((s.of c).call who)=pend (.run x res ser k):=ZcZ pend hc;have e3:pend (ZPU x c out)=ZHU x c.res c.ser out:=by cases out<;>rfl
 rw[e1,e2,e3]at pp;have ql:=q.le;have h1:Xj c.wh+ZHU x c.res c.ser out+s.ws.getD 32 0<=Xj s.wh+pend (.run x res ser k)+c.ws.getD 32 0:=hcn.le;refine⟨?_,?_,λb x' res' ser' k' hb=>?_,λb x' res' ser' k' hb hr=>?_⟩
 ·show Xj c.wh+_<=c.ws.getD 32 0;omega
 ·show c.ws.getD 32 0<=N+1;have:=hcn.top;have h2:c.ws.getD 32 0<=s.ws.getD 32 0+1:=this;have:=q.top;omega
 ·by_cases e:b=who
  ·subst e;rw[YD]at hb;cases out with
   |fin r=>cases hb
   |on k2=>cases hb;exact hcn.put
  ·rw[YC _ _ e]at hb;exact q.put b x' res' ser' k' hb
 ·by_cases e:b=who
  ·subst e;rw[YD]at hb;cases out with
   |fin r=>cases hb
   |on k2=>
    cases hb;rcases hrs with z|z
    ·exact q.res b x res ser k hc (by rw[<-z];exact hr)
    ·exact z
  ·rw[YC _ _ e]at hb;exact q.res b x' res' ser' k' hb hr
theorem ZLR {N who:Nat}{s:YF}{x:ZX}(hw:who<64)(q:ZOo N s)(hi:s.call who=.idle):ZOo N (s.put who (.run x false 0 (Xz x))):=by
 have pp:=ZEU (s:=s) (who:=who) (.run x false 0 (Xz x)) hw;have z:pend (.run x false 0 (Xz x))=0/\CKO false (.on (Xz x)):=by
  unfold Xz
  split
  ·exact⟨rfl,trivial⟩
  ·split<;>exact⟨rfl,trivial⟩
 rw[hi,z.1]at pp;have e:pend ZBS.idle=0:=rfl;have ql:=q.le;refine⟨?_,q.top,λb x' res' ser' k' hb=>?_,λb x' res' ser' k' hb hr=>?_⟩
 ·show Xj s.wh+_<=s.ws.getD 32 0;omega
 ·by_cases e:b=who
  ·subst e;rw[YD]at hb;cases hb;exact z.2
  ·rw[YC _ _ e]at hb;exact q.put b x' res' ser' k' hb
 ·by_cases e:b=who
  ·subst e;rw[YD]at hb;cases hb;cases hr
  ·rw[YC _ _ e]at hb;exact q.res b x' res' ser' k' hb hr
theorem ZHG {ι:Type}{L:List ι}{f:ι->Nat}(h:∀i ∈ L,f i=0):ZBp L f=0:=by
 induction L with
 |nil=>rfl
 |cons a L ih=>rw[XJ,h a (ZbL ..),ih (λi hi=>h i (ZbK _ hi))]
theorem ZNk:ZOo 1 JY:=by
 have e:∀i,JY.wh.hs.getD i []=[]:=λi=>by
  show(List.replicate 34 ([]:List ZO)).getD i []=[];rw[Zau,Za3]
  split<;>rfl
 have hl:Xj JY.wh=0:=ZHG λp _=>by
  obtain⟨l,S⟩:=p;have hh:∀l S,JQ JY.wh l S=[]:=λl S=>e _;show con JY.wh l S=0;cases l with
  |zero=>rw[ZAd,hh];split<;>rfl
  |succ l=>
   rw[Xa,hh,hh]
   split
   ·split<;>rfl
   ·split<;>rfl
 have hp:ZF6 JY=0:=ZHG λi _=>rfl;exact⟨by rw[hl,hp];exact ZcL _,ZcL _,λwho x res ser k hc=>(by cases hc),λwho x res ser k hc=>(by cases hc)⟩
structure ZDF (P:List YR)(room N M:Nat)(s:YF):Prop where
 i:ZCP P room N M s
 t:ZCI s
 q:ZOo N s
theorem ZHh {P:List YR}{room N M who:Nat}{s:YF}{x:ZX}{res:Bool}{ser:Int}{k:YN}(hP:∀p ∈ P,Yd p)(hN:N+1<=4611686018427387903)(hM:M+1<=5000)(hw:who<64)(h:ZDF P room N M s)(hc:s.call who=.run x res ser k): ZDF P room (N+1) (M+ZPq k) (YA P room s who).1/\∀r,(YA P room s who).2=some r->RIn r:=
 have a:=ZNf hP hN hM h.i hc
 ⟨⟨a.1,ZLI hP hN hM h.i h.t hc,ZNj hN hw h.i h.t h.q hc⟩,a.2⟩
theorem ZLV {P:List YR}{room N M who:Nat}{s:YF}{x:ZX}(hw:who<64)(h:ZDF P room N M s)(hx:Y3 P x)(hi:s.call who=.idle):ZDF P room N M (s.put who (.run x false 0 (Xz x))):=⟨ZLO h.i hx hi,ZJo h.t,ZLR hw h.q hi⟩
theorem ZNm (P:List YR)(room:Nat):ZDF P room 1 0 JY:=⟨ZNh P room,ZLK,ZNk⟩
theorem ZDF.count {P:List YR}{room N M:Nat}{s:YF}(h:ZDF P room N M s)(hN:N<=4611686018427387903):s.ws.getD 32 0<JH:=by
 have:=h.q.top;have hnv:JH=18446744073709551615:=rfl;omega
def JI (s:WH):Prop:=s.ws.getD 0 0 % 2=0
def AM (s:WH):ZAe->Prop
 |.count f _ _=>s.ws.getD f.word 0=f.v
 |.serial f _=>s.ws.getD f.word 0=f.v
 |_=>True
def AF (s:WH):JL->Prop
 |.find _ _ _=>False
 |.move level _=>s.ws.getD 0 0=2*level+1
def AH (s:WH):Xv->Prop
 |.find _ _=>False
 |.move1 level _ _=>s.ws.getD 0 0=2*level+1
 |.move2 level _=>s.ws.getD 0 0=2*level+1
def AK (s:WH):YN->Prop
 |.find _ _=>JI s
 |.enter sum word _=>JI s/\word=ZP (s.ws.getD 0 0 / 2) sum
 |.frz _ t=>AF s t
 |.frzS word v _ t=>AF s t/\s.ws.getD word 0=v
 |.half _ _ _ t=>AH s t
 |.halfS _ _ _ t=>AH s t
 |.split=>JI s
 |.splitS d=>JI s/\s.ws.getD 0 0=d
 |.moveEnd level=>s.ws.getD 0 0=2*level+1
 |.mv _ _ _ t=>JI s/\AM s t
 |.mvS word _ _ v t=>JI s/\s.ws.getD word 0=v/\AM s t
 |.put f _ _=>JI s/\s.ws.getD f.word 0=f.v
 |.peek _=>JI s
 |.allow f _=>JI s/\s.ws.getD f.word 0=f.v
 |.evFirst=>JI s
 |.evScan _ _ _ word v _=>JI s/\s.ws.getD word 0=v
 |.evSwap _ _ _ word v _ _=>JI s/\s.ws.getD word 0=v
def muT:ZAN->Nat
 |.begin=>9
 |.evict j sh _=>6*(sh - j)
def muF:JL->Nat
 |.find _ _ t=>muT t
 |.move level i=>6*(2 ^ level - i)+1
def muH:Xv->Nat
 |.find _ t=>muT t
 |.move1 level i _=>6*(2 ^ level - i) - 1
 |.move2 level i=>6*(2 ^ level - i) - 3
def muM:ZAe->Nat
 |.leave _=>2
 |.gone j sh _ _=>6*(sh - j) - 4
 |.count _ _ _=>5
 |.serial _ _=>7
def mu:YN->Nat
 |.find _ t=>muT t
 |.enter _ _ t=>muT t - 1
 |.frz _ t=>muF t
 |.frzS _ _ _ t=>muF t - 1
 |.half _ _ _ t=>muH t
 |.halfS _ _ _ t=>muH t - 1
 |.split=>51
 |.splitS _=>50
 |.moveEnd _=>1
 |.mv _ _ _ t=>muM t
 |.mvS _ _ _ _ t=>muM t - 1
 |.put _ _ _=>3
 |.peek _=>1
 |.allow _ _=>6
 |.evFirst=>97
 |.evScan j sh _ _ _ _=>6*(sh - j) - 2
 |.evSwap j sh _ _ _ _ _=>6*(sh - j) - 3
def ZB7 (s:WH)(m:Nat):Zn->Prop
 |.on k=>AK s k/\mu k<m
 |.fin _=>JI s
theorem ZFU {s:WH}{m:Nat}(hd:JI s)(res:Bool)(r:YH)(hm:2<m):ZB7 s m (YT res r):=by
 unfold YT
 split
 ·exact⟨⟨hd,trivial⟩,hm⟩
 ·exact hd
theorem ZMz {s:WH}{m:Nat}(hd:JI s){f:Yi}(hf:s.ws.getD f.word 0=f.v)(room:Nat)(res:Bool)(c:ZO)(r:YH)(hm:5<m):ZB7 s m (.on (Jk room res f c r)):=by
 unfold Jk
 split
 ·exact⟨⟨hd,hf⟩,by show 3<m;omega⟩
 ·exact⟨⟨hd,hf⟩,hm⟩
theorem ZEi {s:WH}{m:Nat}(hd:JI s)(j sh:Nat)(gone:Int)(hm:6*(sh - j)<m+6)(hj:j<sh):ZB7 s m (Zo j sh gone):=by
 unfold Zo
 split
 ·exact hd
 ·exact⟨hd,by show 6*(sh - (j+1))<m;omega⟩
theorem ZMJ {s:WH}{m level i:Nat}(hd:s.ws.getD 0 0=2*level+1)(hm:6*(2 ^ level - i)+1<m):ZB7 s m (.on (Xi level i)):=by
 unfold Xi
 split
 ·exact⟨hd,by show 1<m;omega⟩
 ·exact⟨hd,hm⟩
theorem ZRw {s:WH}(P:List YR)(room:Nat)(x:ZX)(res:Bool)(ser:Int){word v:Nat}(cells:List ZO)(hd:JI s)(hv:s.ws.getD word 0=v):ZB7 s 8 (ZAr P room x res ser word v cells):=by
 unfold ZAr
 dsimp only
 split
 ·exact⟨⟨hd,hv⟩,by show 6<8;omega⟩
 split
 ·unfold JK
  split
  ·exact ZFU hd _ _ ZB
  split
  ·exact ZMz hd hv _ _ _ _ ZB
  ·exact⟨⟨hd,hv⟩,by show 7<8;omega⟩
 split
 ·split
  ·exact hd
  ·exact ZMz hd hv _ _ _ _ ZB
 split
 ·exact hd
 ·exact⟨hd,by show 1<8;omega⟩
theorem ZSx {s:WH}(P:List YR)(room:Nat){x:ZX}(res:Bool)(ser:Int){word v:Nat}(cells:List ZO)(t:ZAN)(ht:ZA3 x t)(hd:JI s)(hv:s.ws.getD word 0=v):ZB7 s (muT t - 1) (ZEm P room x res ser word v cells t):=by
 cases t with
 |begin=>exact ZRw P room x res ser cells hd hv
 |evict j sh gone=>
  obtain⟨-,hj,-⟩:=ht;show ZB7 s (6*(sh - j) - 1) (if cells.length=0 then Zo j sh gone else .on (.evScan j sh gone word v cells))
  split
  ·exact ZEi hd _ _ _ ZB hj
  ·exact⟨⟨hd,hv⟩,by show 6*(sh - j) - 2<6*(sh - j) - 1;omega⟩
theorem ZB0 {l:List Nat}{i:Nat}(v:Nat)(h:l.length=34)(hi:1<=i):(l.set i v).getD 0 0=l.getD 0 0:=by
 rcases Zb6 i 34 with q|q
 ·rw[Z8 _ _ _ _ _ ZB,Zcf ZB]
 ·rw[Zbe ZB]
theorem ZOl {P:List YR}{room N M:Nat}{x:ZX}{s:KC}{k:YN}(W:WOk P N M s.wh)(T:TOk s.wh)(hk:ZBR P room N s.wh x s.res s.ser k)(tk:TK s.wh x k)(ha:AK s.wh k): ZB7 (Yk P room x s k).1.wh (mu k) (Yk P room x s k).2:=by
 have lw:s.ws.length=34:=W.lw;have d8:s.ws.getD 0 0<=8:=W.d;cases k with
 |find sum t=>
  have h2:s.ld 0 % 2=0:=ha;show ZB7 s.wh (muT t) (if s.ld 0 % 2=0 then _ else _);rw[Zcg h2];refine⟨⟨ha,rfl⟩,?_⟩;cases t with
  |begin=>show 9 - 1<9;omega
  |evict j sh gone=>obtain⟨⟨-,hj,-⟩,-⟩:=hk;show 6*(sh - j) - 1<6*(sh - j);omega
 |enter sum word t=>
  obtain⟨hd,hw⟩:=ha;have hd0:s.ws.getD 0 0 % 2=0:=hd;have l4:s.ws.getD 0 0 / 2<=4:=by omega
  have n0:wat s.wh (s.ws.getD 0 0 / 2) sum≠0:=T.made _ sum l4 (by show 2*_<=s.ws.getD 0 0;omega);have nf:¬Za<=wat s.wh (s.ws.getD 0 0 / 2) sum:=λe=>by
   have:=T.froze _ sum l4 e;have this:2*(s.ws.getD 0 0 / 2)+1<=s.ws.getD 0 0:=this;omega
  have e:wat s.wh (s.ws.getD 0 0 / 2) sum=s.ld word:=by rw[hw];rfl
  rw[e]at n0 nf;show ZB7 s.wh (muT t - 1) (Yh P room x s.res s.ser sum word (s.ld word) (s.hd word) t);unfold Yh;rw[Zcf (λq=>q.elim n0 nf)];exact ZSx P room s.res s.ser _ t hk.1 hd rfl
 |frz word t=>
  cases t with
  |find _ _ _=>exact ha.elim
  |move level i=>
   have hi:=hk.1.2;show ZB7 s.wh (6*(2 ^ level - i)+1) (if Za<=s.ld word then _ else _)
   split
   ·exact⟨ha,by show 6*(2 ^ level - i) - 1<6*(2 ^ level - i)+1;omega⟩
   ·exact⟨⟨ha,rfl⟩,by show 6*(2 ^ level - i)+1 - 1<6*(2 ^ level - i)+1;omega⟩
 |frzS word v holds t=>
  cases t with
  |find _ _ _=>exact ha.1.elim
  |move level i=>
   have hi:i<2 ^ level:=hk.1.2;have hv:s.ld word=v:=ha.2;have h1:1<=word:=hk.2.1.1;show ZB7 (if s.ld word=v then ((s.sw word (v+Za) holds,Zn.on (Xy holds (.move level i))):KC × Zn) else (s,.on (.frz word (.move level i)))).1.wh _ (if s.ld word=v then ((s.sw word (v+Za) holds,Zn.on (Xy holds (.move level i))):KC × Zn) else (s,.on (.frz word (.move level i)))).2;rw[Zcg hv];have h0:s.ws.getD 0 0=2*level+1:=ha.1;refine⟨?_,by show 6*(2 ^ level - i) - 1<6*(2 ^ level - i)+1 - 1;omega⟩;show(s.ws.set word (v+Za)).getD 0 0=2*level+1;rw[ZB0 _ lw h1];exact h0
 |half level shard holds t=>
  show ZB7 s.wh (muH t) (if s.ld (ZP level shard)≠0 then _ else _);cases t with
  |find _ _=>exact ha.elim
  |move1 lv i hh=>
   have hi:i<2 ^ lv:=hk.2.2.1.2.1
   split
   ·exact⟨ha,by show 6*(2 ^ lv - i) - 3<6*(2 ^ lv - i) - 1;omega⟩
   ·exact⟨ha,by show 6*(2 ^ lv - i) - 1 - 1<6*(2 ^ lv - i) - 1;omega⟩
  |move2 lv i=>
   have hi:i<2 ^ lv:=hk.2.2.1.2
   split
   ·exact ZMJ ha (by show 6*(2 ^ lv - (i+1))+1<6*(2 ^ lv - i) - 3;omega)
   ·exact⟨ha,by show 6*(2 ^ lv - i) - 3 - 1<6*(2 ^ lv - i) - 3;omega⟩
 |halfS level shard holds t=>
  have e0:(if s.ld (ZP level shard)=0 then s.sw (ZP level shard) 1 (Xr holds level (ZP level shard - 2 ^ level)) else s).wh.ws.getD 0 0=s.ws.getD 0 0:=by
   split
   ·exact ZB0 _ lw (by unfold ZP;have:=ZcG (n:=level);omega)
   ·rfl
  show ZB7 (if s.ld (ZP level shard)=0 then s.sw (ZP level shard) 1 (Xr holds level (ZP level shard - 2 ^ level)) else s).wh (muH t - 1) _;cases t with
  |find _ _=>exact ha.elim
  |move1 lv i hh=>
   have hi:i<2 ^ lv:=hk.2.2.1.2.1;exact⟨e0.trans ha,by show 6*(2 ^ lv - i) - 3<6*(2 ^ lv - i) - 1 - 1;omega⟩
  |move2 lv i=>
   have hi:i<2 ^ lv:=hk.2.2.1.2;exact ZMJ (e0.trans ha) (by show 6*(2 ^ lv - (i+1))+1<6*(2 ^ lv - i) - 3 - 1;omega)
 |split=>
  have hd:s.ld 0 % 2=0:=ha;show ZB7 s.wh 51 (if s.ld 0 % 2=1 then _ else _);rw[Zcf ZB]
  split
  ·exact ha
  ·exact⟨⟨ha,rfl⟩,by show 50<51;omega⟩
 |splitS d=>
  have hv:s.ld 0=d:=ha.2;have hd:d % 2=0/\d<=6:=hk;show ZB7 (if s.ld 0=d then ((s.sw 0 (d+1) [],Zn.on (Xi (d / 2) 0)):KC × Zn) else (s,.on .split)).1.wh 50 (if s.ld 0=d then ((s.sw 0 (d+1) [],Zn.on (Xi (d / 2) 0)):KC × Zn) else (s,.on .split)).2;rw[Zcg hv];refine ZMJ ?_ ?_
  ·show(s.ws.set 0 (d+1)).getD 0 0=_;rw[Z8 _ _ _ _ _ ZB,Zcg rfl];omega
  ·have:=ZcI (n:=2) ZB (show d / 2<=3 by omega);have e8:2 ^ 3=8:=rfl;omega
 |moveEnd level=>
  have hv:s.ld 0=2*level+1:=ha;show(if s.ld 0=2*level+1 then s.sw 0 (2*level+2) [] else s).wh.ws.getD 0 0 % 2=0;rw[Zcg hv];show(s.ws.set 0 (2*level+2)).getD 0 0 % 2=0;rw[Z8 _ _ _ _ _ ZB,Zcg rfl];omega
 |mv word by_ stop t=>
  obtain⟨hd,hm⟩:=ha;show ZB7 s.wh (muM t) (if s.ld word=stop then _ else _)
  split
  ·cases t with
   |leave r=>exact hd
   |gone _ _ _ _=>exact hd
   |count _ _ _=>exact hd
   |serial _ _=>exact ZFU hd _ _ (by show 2<7;omega)
  ·refine⟨⟨hd,rfl,hm⟩,?_⟩;cases t with
   |leave r=>show 2 - 1<2;omega
   |gone j sh _ _=>have hj:j<sh:=hk.2.2.2.1;show 6*(sh - j) - 4 - 1<6*(sh - j) - 4;omega
   |count _ _ _=>show 5 - 1<5;omega
   |serial _ _=>show 7 - 1<7;omega
 |mvS word by_ stop v t=>
  obtain⟨hd,hv,hm⟩:=ha;have hv:s.ld word=v:=hv;have D:∀u,1<=word->JI ⟨s.ws.set word u,s.hs.set word []⟩:=λu h1=>by
   show(s.ws.set word u).getD 0 0 % 2=0;rw[ZB0 _ lw h1];exact hd
  have F:∀u i,i<32->32<=word->(s.ws.set word u).getD i 0=s.ws.getD i 0:=λu i hi h2=>by
   rcases Zb6 word 34 with q|q
   ·rw[Z8 _ _ _ _ _ ZB,Zcf ZB]
   ·rw[Zbe ZB]
  have hk:MOk P room N s.wh x s.res s.ser word by_ stop t:=hk
  dsimp only[Yk]
  rw[Zcg hv];cases t with
  |leave r=>exact D _ (by rw[hk.1];omega)
  |gone j sh _ _=>
   have hj:j<sh:=hk.2.2.2.1;exact ZEi (D _ (by rw[hk.1];omega)) _ _ _ (by show _<6*(sh - j) - 4 - 1+6;omega) hj
  |count f _ _=>
   have h32:word=32:=hk.1;have hf:=hk.2.2.2.2.1.same;exact⟨⟨D _ ZB,(F _ _ hf.2.1 ZB).trans hm⟩,by show 3<5 - 1;omega⟩
  |serial f _=>
   have h32:word=33:=hk.1;have hf:=hk.2.2.2.2.2.1.same;exact ZMz (D _ ZB) (by exact(F _ _ hf.2.1 ZB).trans hm) _ _ _ _ (by show 5<7 - 1;omega)
 |put f c r=>
  obtain⟨hd,hv⟩:=ha;have hv:s.ld f.word=f.v:=hv;have D:JI ⟨s.ws.set f.word (f.v+1),s.hs.set f.word (Xg f.cells f.at_ f.there c)⟩:=by
   show(s.ws.set f.word (f.v+1)).getD 0 0 % 2=0;rw[ZB0 _ lw hk.2.1.same.1];exact hd
  dsimp only[Yk]
  rw[Zcg hv];show ZB7 _ 3 (if f.there=false then Zn.fin r else YT s.res r)
  split
  ·exact D
  ·exact ZFU D _ _ ZB
 |peek c=>exact ha
 |allow f c=>
  obtain⟨hd,hv⟩:=ha;show ZB7 s.wh 6 (if _ then _ else _)
  split
  ·exact ZFU hd _ _ ZB
  ·exact ZMz hd hv _ _ _ _ ZB
 |evFirst=>
  refine⟨ha,?_⟩;show 6*(2 ^ ((s.ws.getD 0 0+1) / 2) - 0)<97;have:=ZcI (n:=2) ZB (show(s.ws.getD 0 0+1) / 2<=4 by omega);have e8:2 ^ 4=16:=rfl;omega
 |evScan j sh gone word v cells=>
  obtain⟨hd,hv⟩:=ha;have hj:j<sh:=hk.2.1;show ZB7 s.wh (6*(sh - j) - 2) (if _ then _ else _)
  split
  ·exact ZEi hd _ _ _ ZB hj
  ·exact⟨⟨hd,hv⟩,by show 6*(sh - j) - 3<6*(sh - j) - 2;omega⟩
 |evSwap j sh gone word v rest n=>
  obtain⟨hd,hv⟩:=ha;have hv:s.ld word=v:=hv;have hj:j<sh:=hk.2.1;have h1:1<=word:=by obtain⟨-,-,-,-,-,-,-,cl,hs,-⟩:=hk;exact hs.1
  dsimp only[Yk]
  rw[Zcg hv];refine⟨⟨?_,trivial⟩,by show 6*(sh - j) - 4<6*(sh - j) - 3;omega⟩;show(s.ws.set word (v+1)).getD 0 0 % 2=0;rw[ZB0 _ lw h1];exact hd
theorem ZRv {s:WH}(x:ZX)(hd:JI s):AK s (Xz x)/\mu (Xz x)<=97:=by
 unfold Xz
 split
 ·exact⟨hd,by show 51<=97;omega⟩
 split
 ·exact⟨hd,by show 97<=97;omega⟩
 ·exact⟨hd,by show 9<=97;omega⟩
theorem ZMH {P:List YR}{room N M who:Nat}{s:YF}{x:ZX}{res:Bool}{ser:Int}{k:YN}(h:ZDF P room N M s)(hc:s.call who=.run x res ser k)(ha:AK s.wh k): (∃res' ser' k',(YA P room s who).2=none/\(YA P room s who).1.call who=.run x res' ser' k'/\AK (YA P room s who).1.wh k'/\mu k'<mu k)\/(∃r,(YA P room s who).2=some r/\(YA P room s who).1.call who=.idle/\JI (YA P room s who).1.wh):=by
 have a:=ZOl (s:=s.kc res ser) h.i.w h.t.t (h.i.run who x res ser k hc).kont (h.t.run who x res ser k hc) ha;unfold YA;rw[hc]
 dsimp only
 generalize Yk P room x (s.kc res ser) k=q at a;obtain⟨c,out⟩:=q;cases out with
 |on k'=>exact .inl ⟨c.res,c.ser,k',rfl,YD _ _ _,a.1,a.2⟩
 |fin r=>exact .inr ⟨r,rfl,YD _ _ _,a⟩
def ZDQ (G:List Nat->Prop)(s:WH):Prop:=∀i,∀c ∈ s.hs.getD i [],G c.id
theorem ZDZ {G:List Nat->Prop}{s:KC}{w new:Nat}{h:List ZO}(hl:s.hs.length=34)(hi:ZDQ G s.wh)(hh:∀c ∈ h,G c.id):ZDQ G (s.sw w new h).wh:=λi c hc=>by
 have hc:c ∈ (s.hs.set w h).getD i []:=hc;rcases Zb6 w 34 with q|q
 ·rw[Z8 _ _ _ _ _ ZB]at hc
  split at hc
  ·exact hh c hc
  ·exact hi i c hc
 ·rw[Zbe ZB]at hc;exact hi i c hc
theorem ZNY {l:List ZO}{i:Nat}{b:Bool}{c d:ZO}(h:d ∈ Xg l i b c):d ∈ l\/d=c:=by
 unfold Xg at h
 split at h
 ·exact(ZbS h)
 ·rcases ZbI.1 h with h|h
  ·exact .inl (ZbR h)
  ·rcases ZbJ.1 h with h|h
   ·exact .inr h
   ·exact .inl (ZbP h)
theorem ZRa {G:List Nat->Prop}{P:List YR}{room N M:Nat}{x:ZX}{s:KC}{k:YN}(W:WOk P N M s.wh)(hk:ZBR P room N s.wh x s.res s.ser k)(hx:x.op<=3->G x.id)(hi:ZDQ G s.wh):ZDQ G (Yk P room x s k).1.wh:=by
 have lh:s.hs.length=34:=W.lh;cases k with
 |frzS word v holds t=>
  dsimp only[Yk]
  split
  ·next e=>
   refine ZDZ lh hi (λc hc=>hi word c ?_);have q:s.hs.getD word []=holds:=hk.2.1.2.2.2.2 e;show c ∈ s.hs.getD word [];rw[q];exact hc
  ·exact hi
 |halfS level shard holds t=>
  dsimp only[Yk]
  split
  ·refine ZDZ lh hi (λc hc=>?_);obtain⟨i,-,-,-,e⟩:=hk.2.2.2.2;have e:s.hs.getD i []=holds:=e;exact hi i c (by show c ∈ s.hs.getD i [];rw[e];exact(List.mem_filter.1 hc).1)
  ·exact hi
 |splitS d=>
  dsimp only[Yk]
  split
  ·exact ZDZ lh hi (λc hc=>by cases hc)
  ·exact hi
 |moveEnd level=>
  dsimp only[Yk]
  split
  ·exact ZDZ lh hi (λc hc=>by cases hc)
  ·exact hi
 |mvS word by_ stop v t=>
  dsimp only[Yk]
  split
  ·have q:=λu=>ZDZ (w:=word) (new:=u) (h:=[]) lh hi (λc hc=>by cases hc);cases t with
   |leave r=>exact q _
   |gone j sh was n=>exact q _
   |count f c r=>exact q _
   |serial f c=>exact q _
  ·exact hi
 |put f c r=>
  dsimp only[Yk]
  split
  ·next e=>
   refine ZDZ lh hi (λd hd=>?_);rcases ZNY hd with hd|rfl
   ·have q:s.hs.getD f.word []=f.cells:=hk.2.1.same.2.2.2.2 e;exact hi f.word d (by show d ∈ s.hs.getD f.word [];rw[q];exact hd)
   ·rw[hk.2.2.1.id];exact hx hk.1
  ·exact hi
 |evSwap j sh gone word v rest n=>
  dsimp only[Yk]
  split
  ·next e=>
   obtain⟨-,-,-,-,-,-,-,cl,h1,-,h3,-⟩:=hk;refine ZDZ lh hi (λd hd=>hi word d ?_);have q:s.hs.getD word []=cl:=h1.2.2.2.2 e;show d ∈ s.hs.getD word [];rw[q];exact h3.subset hd
  ·exact hi
 |_=>exact hi
theorem ZPx {G:List Nat->Prop}{P:List YR}{room N M who:Nat}{s:YF}{x:ZX}{res:Bool}{ser:Int}{k:YN}(h:ZDF P room N M s)(hc:s.call who=.run x res ser k)(hx:x.op<=3->G x.id)(hi:ZDQ G s.wh):ZDQ G (YA P room s who).1.wh:=by
 have a:=ZRa (s:=s.kc res ser) h.i.w (h.i.run who x res ser k hc).kont hx hi;unfold YA;rw[hc]
 dsimp only
 generalize Yk P room x (s.kc res ser) k=q at a;obtain⟨c,out⟩:=q;cases out<;>exact a
theorem ZKt {P:List YR}{room who:Nat}{s:YF}{x:ZX}{res:Bool}{ser:Int}{k:YN}(hc:s.call who=.run x res ser k):(YA P room s who).1.clk=s.clk/\∀i,i≠who->(YA P room s who).1.call i=s.call i:=by
 unfold YA;rw[hc]
 dsimp only
 have e:(Yk P room x (s.kc res ser) k).1.clk=s.clk:=by
  cases k with
  |mvS word by_ stop v t=>
   dsimp only[Yk]
   split
   ·cases t<;>rfl
   ·rfl
  |_=>dsimp only[Yk];first|rfl|(split<;>rfl)
 generalize Yk P room x (s.kc res ser) k=q at e;obtain⟨c,out⟩:=q;cases out<;>exact⟨e,λi hi=>YC _ _ hi⟩
theorem ZFL {x:ZX}{t:ZAN}(h:ZA3 x t):2<=muT t:=by
 cases t with
 |begin=>show 2<=9;omega
 |evict j sh g=>have:=h.2.1;show 2<=6*(sh - j);omega
theorem ZMg {P:List YR}{s:WH}{x:ZX}{t:JL}(h:FOk P s x t):2<=muF t:=by
 cases t with
 |find sum level t=>exact ZFL h.1
 |move level i=>have:=h.2;show 2<=6*(2 ^ level - i)+1;omega
theorem ZMf {P:List YR}{s:WH}{x:ZX}{t:Xv}(h:HOk P s x t):2<=muH t:=by
 cases t with
 |find sum t=>exact ZFL h.1
 |move1 level i hh=>have:=h.2.1;show 2<=6*(2 ^ level - i) - 1;omega
 |move2 level i=>have:=h.2;show 2<=6*(2 ^ level - i) - 3;omega
theorem ZMe {P:List YR}{room N:Nat}{s:WH}{x:ZX}{res:Bool}{ser:Int}{word by_ stop:Nat}{t:ZAe}(h:MOk P room N s x res ser word by_ stop t):2<=muM t:=by
 cases t with
 |leave r=>show 2<=2;omega
 |gone j sh was n=>have:=h.2.2.2.1;show 2<=6*(sh - j) - 4;omega
 |count f c r=>show 2<=5;omega
 |serial f c=>show 2<=7;omega
theorem ZSf {P:List YR}{room N:Nat}{s:WH}{x:ZX}{res:Bool}{ser:Int}{k:YN}(h:ZBR P room N s x res ser k):1<=mu k:=by
 cases k with
 |find sum t=>have:=ZFL h.1;show 1<=muT t;omega
 |enter sum word t=>have:=ZFL h.1;show 1<=muT t - 1;omega
 |frz word t=>have:=ZMg h.1;show 1<=muF t;omega
 |frzS word v holds t=>have:=ZMg h.1;show 1<=muF t - 1;omega
 |half level shard holds t=>have:=ZMf h.2.2.1;show 1<=muH t;omega
 |halfS level shard holds t=>have:=ZMf h.2.2.1;show 1<=muH t - 1;omega
 |mv word by_ stop t=>have:=ZMe (res:=res) (t:=t) h;show 1<=muM t;omega
 |mvS word by_ stop v t=>have:=ZMe (res:=res) (t:=t) h;show 1<=muM t - 1;omega
 |evScan j sh gone word v cells=>have:=h.2.1;show 1<=6*(sh - j) - 2;omega
 |evSwap j sh gone word v rest n=>have:=h.2.1;show 1<=6*(sh - j) - 3;omega
 |split=>show 1<=51;omega
 |splitS d=>show 1<=50;omega
 |moveEnd level=>show 1<=1;omega
 |put f c r=>show 1<=3;omega
 |peek c=>show 1<=1;omega
 |allow f c=>show 1<=6;omega
 |evFirst=>show 1<=97;omega
theorem ZRX (k:YN):ZPq k<=1:=by
 unfold ZPq
 split<;>omega
theorem ZMT:(Tryz.prog.info? 120).map (λi=>(i.zero,i.size,i.bytes))=some (some (.agg #[.int .i64 0,.slice none 0 0,.int .i64 0]),3,40):=by kernel_rfl
theorem ZQz:∀u:World,(sizeOf 120).run Tryz.prog u=.ok 3 u:=λ_=>by kernel_rfl
theorem ZQy:∀w:World,(zeroValue 120).run Tryz.prog w=.ok (.agg #[.int .i64 0,.slice none 0 0,.int .i64 0]) w:=λ_=>by kernel_rfl
theorem ZM9 (n:Nat):((Builtin.zeroCells (Value.cells (.agg #[.int .i64 0,.slice none 0 0,.int .i64 0])) n).toList).length=n*3/\∀v ∈ (Builtin.zeroCells (Value.cells (.agg #[.int .i64 0,.slice none 0 0,.int .i64 0])) n).toList,v.oneCell'=true:=by
 refine⟨by rw[Array.length_toList,size_zeroCells];rfl,λv hv=>?_⟩;simp only[Builtin.zeroCells,Array.toList_map,ZbN]at hv;obtain⟨i,_,rfl⟩:=hv;have hi:i % 3<3:=ZcA _ ZB;show((.agg #[.int .i64 0,.slice none 0 0,.int .i64 0]:Value).cells[i % 3]!).oneCell'=true;have h9:∀j,j<3->((.agg #[.int .i64 0,.slice none 0 0,.int .i64 0]:Value).cells[j]!).oneCell'=true:=by decide
 exact h9 _ hi
def ZMU (base:Nat)(A:Option Addr)(n c:Nat)(xs:List Value)(k:Nat)(w:World)(e:Ending)(w':World):Prop:=e=.returned (.slice A (n - 1) c)/\w'.ownsRow base 120 3 (.slice A (n - 1) c) (n - 1) (ZOG 3 xs k)/\w.grownBy w' (Value.slice A n c).ownBlock
theorem ZNA (w:World)(base:Nat)(A:Option Addr)(n c k:Nat)(xs:List Value)(hx1:∀u ∈ xs,u.oneCell'=true)(hn:n<=100000)(hk:k<n)(ho:w.ownsRow base 120 3 (.slice A n c) n xs): Calls Tryz.prog 156 #[.slice A n c,.int .i64 (k:Int),.int .i64 ((k:Int)+1)] w (ZMU base A n c xs k w):=by
 have hl:xs.length=n*3:=ho.1;have hnc:=Ys ho;obtain⟨g,rfl,hg1,hg2⟩:=ZAk ho ZB;have hcm:c<=9223372036854775807:=by
  rcases ho.2 with⟨h3,h4⟩|⟨g,cap,cur,h3,_,_,_,h4,_⟩
  ·omega
  ·injection h3 with _ _ h3;unfold maxLen at h4;omega
 obtain⟨i0,hi0,hz0,hz1,hz2⟩:=Zch ZMT;obtain⟨news,hnews⟩:=ZTz (xs.drop ((k+1)*3));have hlen:news.length=(n - (k+1))*3:=by rw[<-hnews,ZbB,hl];omega
 have hcell:∀j,j<n*3->w.cell? ⟨g,j,none⟩=xs[j]?:=λj hj=>ho.cellAt j hj;obtain⟨B,hA,hsrc⟩:∃B:Addr,(if c=k+1 then (some ⟨g,0,none⟩:Option Addr) else some ⟨g,(k+1)*3,none⟩)=some B/\ZD (∀t u,news[t]?=some u->w.drew.cell? (B.add t)=some u):=by
  by_cases h:c=k+1
  ·refine⟨⟨g,0,none⟩,by simp[h],λt u hu=>?_⟩;have h0:news.length=0:=by rw[hlen];omega
   rw[ZbC.1 h0]at hu;simp at hu
  ·refine⟨⟨g,(k+1)*3,none⟩,by simp[h],λt u hu=>?_⟩;have ht:t<(n - (k+1))*3:=by rw[<-hlen];exact(Za0.1 hu).1
   rw[ZaO];refine(hcell ((k+1)*3+t) ZB).trans ?_;rw[<-hu,<-hnews,Zay]
 have s1:ZD (news.length=(n - (k+1))*3):=hlen;have s2:ZD (∀u ∈ news,u.oneCell'=true):=λu hu=>hx1 u (by rw[<-hnews]at hu;exact ZbP hu);have s3:ZD (∀t,t<news.length->(w.drew.cell? ⟨g,0+k*3+t,none⟩).isSome=true/\w.drew.frozen? ⟨g,0+k*3+t,none⟩=false):=λt ht=>by
  rw[hlen]at ht;rw[ZcK];refine⟨?_,ho.frozenAt _⟩;show(w.cell? _).isSome=true;rw[hcell _ ZB,Zaz ZB];rfl
 obtain⟨W1,hW1⟩:∃W1,W1=w.drew.setCells g (0+k*3) news:=⟨_,rfl⟩;have hp1:=JP news w.drew _ (0+k*3) ho.drew;rw[<-hW1]at hp1;obtain⟨hm1,hG1⟩:=hp1;rw[ZcK]at hm1;have hput1:Y0 xs (k*3) news=xs.take (k*3)++(news++xs.drop (k*3+news.length)):=XQ _ _ _ (by rw[hl,hlen];omega);have hlen1:(Y0 xs (k*3) news).length=n*3:=by rw[hput1,Za9,Za9,ZbG,ZbB,hl,hlen];omega
 obtain⟨ZS,hZS⟩:=ZTz ((Builtin.zeroCells (Value.cells (.agg #[.int .i64 0,.slice none 0 0,.int .i64 0])) (n - (k+(n - (k+1))))).toList);have hZ:=ZM9 (n - (k+(n - (k+1))));rw[hZS]at hZ;have hcl:∀ty,(Builtin.clear_ #[117] ty #[.slice (some ⟨g,(k+(n - (k+1)))*3,none⟩) (n - (k+(n - (k+1)))) (c - (k+(n - (k+1))))]).run Tryz.prog W1=.ok (.tuple #[]) (W1.setCells g ((k+(n - (k+1)))*3) ZS):=
  λty=>ZBV W1 _ _ ty _ ZS Tryz.underlying117 ZQy g ((k+(n - (k+1)))*3) _ _ ZB hZS hZ.2 (λt ht=>by
   rw[hZ.1]at ht;rw[hm1.cellAt _ ZB,Zaz (by rw[hlen1];omega)];rfl) (λt _=>hm1.frozenAt _)
 obtain⟨W2,hW2⟩:=ZTz (W1.setCells g ((k+(n - (k+1)))*3) ZS);have hp2:=JP ZS W1 _ ((k+(n - (k+1)))*3) hm1;rw[hW2]at hp2 hcl;have hfin:(Y0 (Y0 xs (k*3) news) ((k+(n - (k+1)))*3) ZS).take ((n - 1)*3)=ZOG 3 xs k:=by
  rw[XQ _ _ _ (by rw[hlen1,hZ.1];omega),show k+(n - (k+1))=n - 1 by omega];rw[Zbi (by rw[ZbG,hlen1];omega),hput1,<-Zae];rw[Zbi (by rw[Za9,ZbG,hl,hlen];omega),<-hnews];unfold ZOG;rw[Zbt,ZcH]
 have Fin:=ZA (show ZMU base (some ⟨g,0,none⟩) n c xs k w (.returned (.slice (some ⟨g,0,none⟩) (n - 1) c)) W2 from⟨rfl,by rw[<-hfin];exact ZEX hp2.1 ZB,World.grown_trans (Yn hG1) hp2.2⟩);have hW:ZD (W1=w.drew.setCells g (0+k*3) news):=hW1;have hic:k<=c:=by omega
 have hjc:k+1<=c:=by omega
 have hkn:k+1<=n:=by omega
 have hw1:IntKind.i64.wrap ((k:Int)+1)=(k:Int)+1:=by rw[Zaa];omega
 have hz3:¬((k:Int)=(k:Int)+1):=by omega
 have hb1:(0:Int)<=(k:Int)+1:=by omega
 have htn:((k:Int)+1).toNat=k+1:=by omega
 have hb3:(k:Int)+1<=(n:Int):=by omega
 have hb4:(k:Int)<=(k:Int)+1:=by omega
 have hb6:(k:Int)+1<=(c:Int):=by omega
 have mixed:Tryz.prog.follows Departure.mixedOrders=true:=by kernel_rfl
 have hsz:=ZQz;clear hW1 hp2 hfin hm1 hG1 hput1 hlen1 hcell hlen hnews ho hl hW2 hg1 hg2 hx1 hZ hZS;go_enter Tryz.func156,Tryz.ntmps156;go_wp2_with fail
 go_region_law_o (refine step_append_room rfl (.tmp 22) (.tmp 25) 117 rfl 120 i0 3 Tryz.underlying117 hi0 hz1 g 0 k c (by simp[Act.eval,Act.put]) B (n - (k+1)) (c - (k+1)) news (by simp[Act.eval,Act.put]) s1.out hsrc.out s2.out ZB s3.out ?_;rw[<-hW.out])
 go_wp2;go_ret;have e:k+(n - (k+1))=n - 1:=by omega
 first|exact Fin.o|(rw[e];exact Fin.o)
structure Z3 where
 op:Nat
 pol:Nat
 key:List Nat
 num:Nat
structure ZBF where
 pol:Int
 key:List Nat
 ser:Int
abbrev Jt:=Option Addr × Nat
def ZCl (k:Jt)(c:Z3):List Value:=[.int .u8 (c.op:Int),.int .i64 (c.pol:Int),.slice k.1 c.key.length k.2,.int .i64 (c.num:Int)]
def ZKp (k:Jt)(t:ZBF):List Value:=[.int .i64 t.pol,.slice k.1 t.key.length k.2,.int .i64 t.ser]
def ZBf (ks:List Jt)(l:List Z3):List Value:=(ks.zip l).flatMap λp=>ZCl p.1 p.2
def ZBn (ks:List Jt)(l:List ZBF):List Value:=(ks.zip l).flatMap λp=>ZKp p.1 p.2
theorem ZI3 {α:Type}(f:Jt->α->List Value)(s:Nat)(hf:∀k x,(f k x).length=s):∀(ks:List Jt) (l:List α) (i j:Nat) (k:Jt) (x:α),ks[i]?=some k->l[i]?=some x->j<s->((ks.zip l).flatMap λp=>f p.1 p.2)[i*s+j]?=(f k x)[j]?
 |[],_,_,_,_,_,h,_,_=>by simp at h
 |_::_,[],_,_,_,_,_,h,_=>by simp at h
 |k0::ks,x0::l,0,j,k,x,h1,h2,hj=>by
  simp at h1 h2;subst h1 h2;rw[Zbo,Zat,ZcM,ZcK,Zav (by rw[hf];exact hj)]
 |k0::ks,x0::l,i+1,j,k,x,h1,h2,hj=>by
  have:=ZI3 f s hf ks l i j k x (by simpa using h1) (by simpa using h2) hj;rw[Zbo,Zat,Zaw (by rw[hf,Zbt,ZcH];omega),hf,show(i+1)*s+j - s=i*s+j by rw[Zbt,ZcH];omega];exact this
theorem ZEL {α:Type}(f:Jt->α->List Value){ks:List Jt}{l:List α}(h:ks.length=l.length)(k:Jt)(x:α):((ks++[k]).zip (l++[x])).flatMap (λp=>f p.1 p.2)=((ks.zip l).flatMap λp=>f p.1 p.2)++f k x:=by
 rw[List.zip_append h,Zas];simp
def ZAG {α:Type}(w:World)(key:α->List Nat)(ks:List Jt)(l:List α):Prop:=∀p ∈ ks.zip l,(key p.2).length<=p.1.2/\Rd w p.1.1 (ZV .u8 (key p.2))
theorem ZAG.ext {α:Type}{w w':World}{key:α->List Nat}{ks:List Jt}{l:List α}(h:ZAG w key ks l)(x:ZL w w'):ZAG w' key ks l:=λp hp=>⟨(h p hp).1,(h p hp).2.ext x⟩
theorem ZAG.snoc {α:Type}{w:World}{key:α->List Nat}{ks:List Jt}{l:List α}(h:ZAG w key ks l)(hl:ks.length=l.length){k:Jt}{x:α}(h1:(key x).length<=k.2)(h2:Rd w k.1 (ZV .u8 (key x))):ZAG w key (ks++[k]) (l++[x]):=λp hp=>by
 rw[List.zip_append hl]at hp;rcases ZbI.1 hp with hp|hp
 ·exact h p hp
 ·simp at hp;subst hp;exact⟨h1,h2⟩
def ZE5 (w:World)(A:Option Addr)(l:List ZBF)(ks:List Jt):Prop:=ks.length=l.length/\Rd w A (ZBn ks l)/\ZAG w (λt=>t.key) ks l
theorem ZE5.ext {w w':World}{A:Option Addr}{l:List ZBF}{ks:List Jt}(h:ZE5 w A l ks)(x:ZL w w'):ZE5 w' A l ks:=⟨h.1,h.2.1.ext x,h.2.2.ext x⟩
theorem ZE5.at_ {w:World}{A:Option Addr}{l:List ZBF}{ks:List Jt}(h:ZE5 w A l ks){i:Nat}{t:ZBF}(hi:l[i]?=some t): ∃b off K c,A=some ⟨b,off,none⟩/\ks[i]?=some (K,c)/\w.cell? ⟨b,off+i*3,none⟩=some (.int .i64 t.pol)/\w.cell? ⟨b,off+i*3+1,none⟩=some (.slice K t.key.length c)/\w.cell? ⟨b,off+i*3+2,none⟩=some (.int .i64 t.ser)/\t.key.length<=c/\Rd w K (ZV .u8 t.key):=by
 have hil:=(Za0.1 hi).1;obtain⟨k,hk⟩:∃k,ks[i]?=some k:=⟨_,Zaz (by rw[h.1];exact hil)⟩;have hg:=λj hj=>ZI3 ZKp 3 (λ_ _=>rfl) ks l i j k t hk hi hj;obtain⟨b,off,hA,hc⟩:=h.2.1 (λe0=>by have:=hg 0 ZB;unfold ZBn at e0;rw[e0]at this;simp[ZKp]at this);obtain⟨f1,f2⟩:=h.2.2 (k,t) (ZbO (Za8.2 ⟨hk,hi⟩));refine⟨b,off,k.1,k.2,hA,hk,?_,?_,?_,f1,f2⟩
 ·exact hc (i*3+0) _ (hg 0 ZB)
 ·rw[Zbp];exact hc (i*3+1) _ (hg 1 ZB)
 ·rw[Zbp];exact hc (i*3+2) _ (hg 2 ZB)
structure JS where
 ws:List Nat
 cl:Bool
 line:List Z3
 fin:Nat
 out:Option Z3
 wr:List Nat
 led:List ZBF
 closed:Bool
 hung:Bool
def ZA5:JS:=⟨[],false,[],0,none,[],[],false,false⟩
noncomputable def ZB4 (ys:List Nat):Option Z3:=by
 classical
 exact if h:∃c:Z3,ZA6 c.op c.pol c.key c.num/\ys=Yt c.op c.pol c.key c.num then some h.choose else none
theorem ZEf {ys:List Nat}{c:Z3}(h:ZB4 ys=some c):ZA6 c.op c.pol c.key c.num/\ys=Yt c.op c.pol c.key c.num:=by
 unfold ZB4 at h
 split at h
 ·next h9=>
  injection h with h;rw[<-h];exact h9.choose_spec
 ·cases h
theorem ZHt {ys:List Nat}(h:ZB4 ys=none):¬ZCq ys:=by
 unfold ZB4 at h
 split at h
 ·cases h
 ·next h9=>
  rintro⟨op,p,xs,N,h1,h2⟩;exact h9 ⟨⟨op,p,xs,N⟩,h1,h2⟩
theorem ZRi {c:Z3}(h:ZA6 c.op c.pol c.key c.num):ZB4 (Yt c.op c.pol c.key c.num)=some c:=by
 cases hd:ZB4 (Yt c.op c.pol c.key c.num)with
 |none=>exact absurd ⟨c.op,c.pol,c.key,c.num,h,rfl⟩ (ZHt hd)
 |some d=>
  obtain⟨d1,d2⟩:=ZEf hd;obtain⟨e1,e2,e3,e4,_⟩:=ZMD (zs:=Yt c.op c.pol c.key c.num) (rest:=[]) (rest':=[]) (show ZAg _ c.op c.pol c.key c.num []from⟨h,by rw[Zag],λ_=>rfl⟩) (show ZAg _ d.op d.pol d.key d.num []from⟨d1,by rw[Zag];exact d2,λ_=>rfl⟩);obtain⟨a,b,c',d'⟩:=c;obtain⟨a2,b2,c2,d2'⟩:=d
  dsimp only at e1 e2 e3 e4
  subst e1 e2 e3 e4;rfl
noncomputable def Yz:List Z3->List (List Nat)->List Z3 × Bool
 |l,[]=>(l,false)
 |l,ys::t=>match ZB4 ys with
  |some c=>Yz (l++[c]) t
  |none=>(l,true)
def ZM2 (L:List (Option Nat)):Prop:=L.Pairwise λx y=>∀b,x=some b->y≠some b
def ZE8 (RO:Zdb)(k:Jt):Prop:=∀a,k.1=some a->RO a.block
def ZGq (w:World)(RO:Zdb)(ov:Value):Option Z3->Prop
 |none=>ov=.pointer none
 |some c=>∃o k,ov=.pointer (some ⟨o,0,none⟩)/\w.heap[o]?=some (.cells (ZCl k c).toArray 34 (0,0))/\c.key.length<=k.2/\Rd w k.1 (ZV .u8 c.key)/\RO o/\ZE8 RO k
def Zu (w:World)(base:Nat)(L:List (Option Nat))(RO:Zdb)(gc r:Nat)(s:JS):Prop:=∃(S:Zdb) (lv ov:Value) (lob:Option Nat) (lk tk:List Jt) (WA TA:Option Addr) (wn wc tn tc:Nat),L=[some gc,some r,lob,(Value.slice WA wn wc).ownBlock,(Value.slice TA tn tc).ownBlock]/\ZM2 L/\ w.heap[gc]?=some (.cells #[.pointer (some ⟨r,0,none⟩),lv,.int .i64 (s.fin:Int),ov,.slice WA wn wc,.slice TA tn tc,.bool s.closed,.bool s.hung] 227 (0,0))/\ XH w r s.ws s.cl S/\(∀b,S b->RO b)/\ lk.length=s.line.length/\ZBD w 4 lob lv s.line.length (ZBf lk s.line)/\ZAG w (λc=>c.key) lk s.line/\(∀k ∈ lk,ZE8 RO k)/\ ZGq w RO ov s.out/\ s.wr.length=wn/\w.ownsRow base 5 1 (.slice WA wn wc) wn (ZV .u8 s.wr)/\ tk.length=s.led.length/\s.led.length=tn/\w.ownsRow base 120 3 (.slice TA tn tc) tn (ZBn tk s.led)/\ZAG w (λt=>t.key) tk s.led/\(∀k ∈ tk,ZE8 RO k)/\ (∀b,RO b->some b ∉ L/\base<=b/\b<w.heap.size)/\∀b,some b ∈ L->base<=b/\b<w.heap.size
def ZBk (s:JS):Prop:=(∀x ∈ s.ws,x<256)/\(∀c ∈ s.line,ZA6 c.op c.pol c.key c.num)/\(∀c,s.out=some c->ZA6 c.op c.pol c.key c.num)/\(∀x ∈ s.wr,x<256)/\∀t ∈ s.led,∀x ∈ t.key,x<256
theorem ZAG.gbk {α:Type}{w w':World}{T RO:Zdb}{key:α->List Nat}{ks:List Jt}{l:List α}(h:ZAG w key ks l)(hk:∀k ∈ ks,ZE8 RO k)(g:GB w w' T)(hT:∀b,RO b->¬T b):ZAG w' key ks l:=λp hp=>⟨(h p hp).1,g.rd (h p hp).2 (λa ha=>hT _ (hk p.1 (List.of_mem_zip hp).1 a ha))⟩
theorem ZGq.gbk {w w':World}{T RO:Zdb}{ov:Value}{c:Option Z3}(h:ZGq w RO ov c)(g:GB w w' T)(hT:∀b,RO b->¬T b):ZGq w' RO ov c:=by
 cases c with
 |none=>exact h
 |some c=>
  obtain⟨o,k,h1,h2,h3,h4,h5,h6⟩:=h;exact⟨o,k,h1,g.blk h2 (hT o h5),h3,g.rd h4 (λa ha=>hT _ (h6 a ha)),h5,h6⟩
theorem Zu.gb {w w':World}{base gc r:Nat}{L:List (Option Nat)}{RO T:Zdb}{s:JS}(h:Zu w base L RO gc r s)(g:GB w w' T)(hT:∀b,T b->some b ∉ L/\¬RO b):Zu w' base L RO gc r s:=by
 obtain⟨S,lv,ov,lob,lk,tk,WA,TA,wn,wc,tn,tc,h1,h2,h3,h4,h5,h6,h7,h8,h9,h10,h11,h12,h13,h14,h15,h16,h17,h18,h19⟩:=h;have hL:∀b,some b ∈ L->¬T b:=λb hb e=>(hT b e).1 hb;have hR:∀b,RO b->¬T b:=λb hb e=>(hT b e).2 hb;refine⟨S,lv,ov,lob,lk,tk,WA,TA,wn,wc,tn,tc,h1,h2,g.blk h3 (hL gc (by rw[h1];simp)),?_,h5,h6,h7.gb g (λb e=>hL b (by rw[h1,<-e];simp)),h8.gbk h9 g hR,h9,h10.gbk g hR,h11,g.own h12 (λb e=>hL b (by rw[h1,<-e];simp)),h13,h14,g.own h15 (λb e=>hL b (by rw[h1,<-e];simp)),h16.gbk h17 g hR,h17,λb hb=>⟨(h18 b hb).1,(h18 b hb).2.1,Zb5 (h18 b hb).2.2 g.size⟩,λb hb=>⟨(h19 b hb).1,Zb5 (h19 b hb).2 g.size⟩⟩;exact XH.gb h4 g (hL r (by rw[h1];simp)) (λb hb=>hR b (h5 b hb))
theorem Zu.ext {w w':World}{base gc r:Nat}{L:List (Option Nat)}{RO:Zdb}{s:JS}(h:Zu w base L RO gc r s)(x:ZL w w'):Zu w' base L RO gc r s:=h.gb (GB.of_ext (λ_=>False) x) (λ_ e=>e.elim)
def YX (w:World)(base:Nat)(L:List (Option Nat))(RO:Zdb)(gc r:Nat)(s:JS)(w':World):Prop:=∃L' RO',Zu w' base L' RO' gc r s/\GB w w' (λb=>some b ∈ L)/\(∀b,some b ∈ L'->some b ∈ L\/w.heap.size<=b)/\(∀b,RO' b->RO b\/some b ∈ L\/w.heap.size<=b)
theorem ZOk {gc r:Nat}(h:gc≠r):ZM2 [some gc,some r,none,none,none]:=by
 refine ZbZ.2 ⟨λy hy b e=>?_,ZbZ.2 ⟨λy hy b e=>?_,ZbZ.2 ⟨(λy hy b e=>by cases e),ZbZ.2 ⟨(λy hy b e=>by cases e),ZbZ.2 ⟨(λy hy=>by cases hy),List.Pairwise.nil⟩⟩⟩⟩⟩
 ·injection e with e;subst e;simp at hy;rcases hy with rfl|rfl
  ·simpa using λe=>h e.symm
  ·simp
 ·simp at hy;subst hy;simp
theorem ZQM (w:World):Calls Tryz.prog 99 #[] w λe w'=>∃gc r L RO,e=.returned (.pointer (some ⟨gc,0,none⟩))/\Zu w' w.heap.size L RO gc r ZA5/\ZL w w':=by
 go_enter Tryz.func99,Tryz.ntmps99;go_wp2_with fail;refine(ZTF w).mono ?_;rintro e w1 ⟨rfl,hr,x1,hs1⟩;go_wp2_with fail;go_ret;have hb:=ZM w1 (.cells #[.pointer (some ⟨w.heap.size,0,none⟩),.slice none 0 0,.int .i64 0,.pointer none,.slice none 0 0,.slice none 0 0,.bool false,.bool false] 227);have xa:ZL w1 (w1.alloc (.cells #[.pointer (some ⟨w.heap.size,0,none⟩),.slice none 0 0,.int .i64 0,.pointer none,.slice none 0 0,.slice none 0 0,.bool false,.bool false] 227)):=(ZL.refl w1).alloc _;refine⟨w1.heap.size,w.heap.size,_,λ_=>False,rfl,⟨λ_=>False,.slice none 0 0,.pointer none,none,[],[],none,none,0,0,0,0,rfl,ZOk ZB,hb,XH.gb hr (GB.of_ext (λ_=>False) xa) (λe=>e) (λ_ e=>e.elim),λ_ e=>e,rfl,ZJe _ _,λp hp=>by simp at hp,λk hk=>by simp at hk,rfl,rfl,ZcU _ _ _ _,rfl,rfl,ZcU _ _ _ _,λp hp=>by simp at hp,λk hk=>by simp at hk,λ_ e=>e.elim,λb hb=>?_⟩,x1.trans xa⟩;have:=xa.size;rw[ZcV];simp[Value.ownBlock]at hb;omega
theorem ZBg {gc r:Nat}{a b c:Option Nat}(h:ZM2 [some gc,some r,a,b,c]): gc≠r/\(∀q,a=some q->q≠gc/\q≠r)/\(∀q,b=some q->q≠gc/\q≠r/\a≠some q)/\∀q,c=some q->q≠gc/\q≠r/\a≠some q/\b≠some q:=by
 obtain⟨h1,h⟩:=ZbZ.1 h;obtain⟨h2,h⟩:=ZbZ.1 h;obtain⟨h3,h⟩:=ZbZ.1 h;obtain⟨h4,-⟩:=ZbZ.1 h;refine⟨λe=>h1 (some r) ZTv gc rfl (by rw[e]),λq e=>⟨λe2=>h1 a ZTv gc rfl (by rw[e,e2]),λe2=>h2 a ZTv r rfl (by rw[e,e2])⟩,λq e=>⟨λe2=>h1 b ZTv gc rfl (by rw[e,e2]),λe2=>h2 b ZTv r rfl (by rw[e,e2]),λe2=>h3 b ZTv q e2 e⟩,λq e=>⟨λe2=>h1 c ZTv gc rfl (by rw[e,e2]),λe2=>h2 c ZTv r rfl (by rw[e,e2]),λe2=>h3 c ZTv q e2 e,λe2=>h4 c ZTv q e2 e⟩⟩
theorem ZBK {gc r:Nat}{a b c:Option Nat}(h1:gc≠r)(h2:∀q,a=some q->q≠gc/\q≠r)(h3:∀q,b=some q->q≠gc/\q≠r/\a≠some q)(h4:∀q,c=some q->q≠gc/\q≠r/\a≠some q/\b≠some q):ZM2 [some gc,some r,a,b,c]:=by
 refine ZbZ.2 ⟨λy hy q e=>?_,ZbZ.2 ⟨λy hy q e=>?_,ZbZ.2 ⟨λy hy q e=>?_,ZbZ.2 ⟨λy hy q e=>?_,ZbZ.2 ⟨(λy hy=>by cases hy),List.Pairwise.nil⟩⟩⟩⟩⟩
 ·injection e with e;subst e;simp at hy;rcases hy with rfl|rfl|rfl|rfl
  ·simpa using λe=>h1 e.symm
  ·exact λe=>(h2 _ e).1 rfl
  ·exact λe=>(h3 _ e).1 rfl
  ·exact λe=>(h4 _ e).1 rfl
 ·injection e with e;subst e;simp at hy;rcases hy with rfl|rfl|rfl
  ·exact λe=>(h2 _ e).2 rfl
  ·exact λe=>(h3 _ e).2.1 rfl
  ·exact λe=>(h4 _ e).2.1 rfl
 ·simp at hy;rcases hy with rfl|rfl
  ·exact λe2=>(h3 _ e2).2.2 e
  ·exact λe2=>(h4 _ e2).2.2.1 e
 ·simp at hy;subst hy;exact λe2=>(h4 _ e2).2.2.2 e
theorem ZPa {b gc r:Nat}{x y z:Option Nat}(h:some b ∈ [some gc,some r,x,none,z]):some b ∈ [some gc,some r,x,y,z]:=by
 rcases ZbJ.1 h with h|h
 ·rw[h];exact ZbL
 ·refine ZbK _ ?_;rcases ZbJ.1 h with h|h
  ·rw[h];exact ZbL
  ·refine ZbK _ ?_;rcases ZbJ.1 h with h|h
   ·rw[h];exact ZbL
   ·refine ZbK _ (ZbK _ ?_);rcases ZbJ.1 h with h|h
    ·cases h
    ·exact h
theorem ZHu (w:World)(base gc r:Nat)(L:List (Option Nat))(RO:Zdb)(s:JS)(h:Zu w base L RO gc r s): Calls Tryz.prog 101 #[.pointer (some ⟨gc,0,none⟩)] w λe w'=>∃WA wc L',e=.returned (.slice WA s.wr.length wc)/\Zu w' base L' RO gc r {s with wr:=[]}/\GB w w' (· =gc)/\(∀b,some b ∈ L'->some b ∈ L)/\
   w'.ownsRow base 5 1 (.slice WA s.wr.length wc) s.wr.length (ZV .u8 s.wr)/\∀b,(Value.slice WA s.wr.length wc).ownBlock=some b->some b ∉ L'/\¬RO b:=by
 obtain⟨S,lv,ov,lob,lk,tk,WA,TA,wn,wc,tn,tc,h1,h2,h3,h4,h5,h6,h7,h8,h9,h10,h11,h12,h13,h14,h15,h16,h17,h18,h19⟩:=h;rw[h1]at h2;obtain⟨a1,a2,a3,a4⟩:=ZBg h2;have c4:=ZTx h3 4 (.slice WA wn wc);have f4:=ZF h3 4;have g:GB w (w.setCell ⟨gc,4,none⟩ (.slice none 0 0)) (· =gc):=(GB.refl w (· =gc)).set gc 4 _ (.inl rfl);have hR:∀b,RO b->¬b=gc:=λb hb e=>(h18 b hb).1 (by rw[h1,e];simp)
 have Fin:=ZA (show ∃L',Zu (w.setCell ⟨gc,4,none⟩ (.slice none 0 0)) base L' RO gc r {s with wr:=[]}/\(∀b,some b ∈ L'->some b ∈ L)/\∀b,(Value.slice WA wn wc).ownBlock=some b->some b ∉ L'/\¬RO b from by
  refine⟨[some gc,some r,lob,none,(Value.slice TA tn tc).ownBlock],⟨S,lv,ov,lob,lk,tk,none,TA,0,0,tn,tc,rfl,ZBK a1 a2 (λq e=>by cases e) (λq e=>⟨(a4 q e).1,(a4 q e).2.1,(a4 q e).2.2.1,λe=>by cases e⟩),ZU h3 4 _,XH.gb h4 g (λe=>a1 e.symm) (λb hb=>hR b (h5 b hb)),h5,h6,h7.gb g (λb e=>(a2 b e).1),h8.gbk h9 g hR,h9,h10.gbk g hR,rfl,ZcU _ _ _ _,h13,h14,g.own h15 (λb e=>(a4 b e).1),h16.gbk h17 g hR,h17,λb hb=>⟨λe=>(h18 b hb).1 (by rw[h1];exact ZPa e),(h18 b hb).2.1,by simpa using(h18 b hb).2.2⟩,λb hb=>⟨(h19 b (by rw[h1];exact ZPa hb)).1,by simpa using(h19 b (by rw[h1];exact ZPa hb)).2⟩⟩,(λb hb=>by rw[h1];exact ZPa hb),λb e=>⟨λhb=>?_,λhb=>(h18 b hb).1 (by rw[h1,<-e];simp)⟩⟩;obtain⟨e1,e2,e3⟩:=a3 b e;simp at hb;rcases hb with hb|hb|hb|hb
  ·exact e1 hb
  ·exact e2 hb
  ·exact e3 hb.symm
  ·exact(a4 b hb.symm).2.2.2 e)
 have Own:=ZA (g.own h12 (λb e=>(a3 b e).1));rw[h11];clear h1 h2 h3 h4 h5 h6 h7 h8 h9 h10 h12 h13 h14 h15 h16 h17 h18 h19 a1 a2 a3 a4 hR;go_enter Tryz.func101,Tryz.ntmps101;go_wp2_with fail;go_ret;obtain⟨L',k1,k2,k3⟩:=Fin.o;exact⟨WA,wc,L',rfl,k1,g,k2,Own.o,k3⟩
def ZA2 (w:World)(base:Nat)(A:Option Addr)(n c:Nat)(l:List ZBF)(ks:List Jt):Prop:=ks.length=l.length/\l.length=n/\w.ownsRow base 120 3 (.slice A n c) n (ZBn ks l)/\∀(i:Nat) (q:Jt) (e:ZBF),ks[i]?=some q->l[i]?=some e->w.ownsRow base 5 1 (.slice q.1 e.key.length q.2) e.key.length (ZV .u8 e.key)/\∀g,(Value.slice q.1 e.key.length q.2).ownBlock=some g->(Value.slice A n c).ownBlock≠some g
theorem ZA2.nil (w:World)(base:Nat):ZA2 w base none 0 0 [] []:=⟨rfl,rfl,ZcU _ _ _ _,λi q e h=>by simp at h⟩
theorem ZA2.ext {w w':World}{base:Nat}{A:Option Addr}{n c:Nat}{l:List ZBF}{ks:List Jt}(h:ZA2 w base A n c l ks)(x:ZL w w'):ZA2 w' base A n c l ks:=⟨h.1,h.2.1,YB h.2.2.1 x,λi q e h1 h2=>⟨YB (h.2.2.2 i q e h1 h2).1 x,(h.2.2.2 i q e h1 h2).2⟩⟩
theorem ZMZ {w:World}{base s:Nat}{e:TypeId}{A:Option Addr}{n c:Nat}{vs:List Value}(h:w.ownsRow base e s (.slice A n c) n vs):Rd w A vs:=λhne=>by
 rcases h.2 with⟨h1,h2⟩|⟨g,cap,cur,h1,hb,hg,_⟩
 ·have h3:=h.1;rw[h2,ZcM]at h3;exact absurd (ZbC.1 h3) hne
 ·injection h1 with h1 _ _;refine⟨g,0,h1,λj u hu=>?_⟩;subst h1;have hj:=(Za0.1 hu).1;rw[ZcK];rw[h.cellAt j (by rw[<-h.1];exact hj)];exact hu
theorem ZA2.snoc {w w4 w5 w6:World}{base b4 k c cb m c4:Nat}{A A4 B:Option Addr}{l:List ZBF}{ks:List Jt}{x:List Nat}{p v:Int}(h:ZA2 w base A k c l ks)(x4:ZL w w4)(hm:x.length=m)(o4:w4.ownsRow b4 5 1 (.slice A4 m c4) m (ZV .u8 x))(hb:w.heap.size<=b4)(hbw:base<=w.heap.size)(x5:ZL w4 w5)(o6:w6.ownsRow base 120 3 (.slice B (k+1) cb) (k+1) (ZBn ks l++[.int .i64 p,.slice A4 m c4,.int .i64 v]))(g6:w5.grownBy w6 (Value.slice A k c).ownBlock)(b6:(Value.slice B (k+1) cb).ownBlock=(Value.slice A k c).ownBlock\/(Value.slice B (k+1) cb).ownBlock=some w5.heap.size):ZA2 w6 base B (k+1) cb (l++[⟨p,x,v⟩]) (ks++[(A4,c4)]):=by
 subst hm;obtain⟨h1,h2,h3,h4⟩:=h;have hne:(Value.slice A4 x.length c4).ownBlock=none\/(Value.slice A4 x.length c4).ownBlock≠(Value.slice A k c).ownBlock:=by
  cases e:(Value.slice A4 x.length c4).ownBlock with
  |none=>exact .inl rfl
  |some g=>exact .inr λe2=>by have:=(o4.lt g e).1;have:=(h3.lt g e2.symm).2;omega
 have o4':w6.ownsRow b4 5 1 (.slice A4 x.length c4) x.length (ZV .u8 x):=(YB o4 x5).kept g6 hne;refine⟨by simp[h1],by simp[h2],by unfold ZBn at o6 ⊢;rw[ZEL ZKp h1 (A4,c4) ⟨p,x,v⟩];exact o6,λi q e hq he=>?_⟩;rcases Zb6 i l.length with hi|hi
 ·rw[Zav (by rw[h1];exact hi)]at hq;rw[Zav hi]at he;obtain⟨k1,k2⟩:=h4 i q e hq he;refine⟨(YB (YB k1 x4) x5).kept g6 ?_,λg hg hg2=>?_⟩
  ·cases e9:(Value.slice q.1 e.key.length q.2).ownBlock with
   |none=>exact .inl rfl
   |some g=>exact .inr λe2=>k2 g e9 e2.symm
  ·rcases b6 with b6|b6
   ·exact k2 g hg (b6 ▸ hg2)
   ·rw[b6]at hg2;injection hg2 with hg2;have:=(k1.lt g hg).2;have:=x4.size;have:=x5.size;omega
 ·rw[Zaw (by rw[h1];exact hi)]at hq;rw[Zaw hi]at he;have hz:i - ks.length=0:=by
   have:=(Za0.1 hq).1;simp at this;omega
  rw[hz]at hq;rw[<-h1,hz]at he;simp at hq he;subst hq he;refine⟨Zg o4' (Zb2 hbw hb),λg hg hg2=>?_⟩;rcases b6 with b6|b6
  ·rw[b6]at hg2;have:=(h3.lt g hg2).2;have:=(o4.lt g hg).1;omega
  ·rw[b6]at hg2;injection hg2 with hg2;have:=(o4.lt g hg).2;have:=x5.size;omega
theorem ZDq {ops:Array Oper}{o:Oper}{a:Act}{K:Act->World->Prop}{Q:Exit->Act->World->Prop}{E:Prop}(w:World)(hgd:o.guard=none)(s x:Operand)(ho:o.op=.call {callee:=.builtin .append,args:=#[s,x],argTypes:=#[117,117]})(base:Nat){B:Option Addr}{n cb:Nat}{xs:List Value}(hs:a.eval s=.slice B n cb)(hown:w.ownsRow base 120 3 (.slice B n cb) n xs){A:Option Addr}{c:Nat}{y z u:Value}(hx:a.eval x=.slice A 1 c)(hr:Rd w A [y,z,u])(hy:y.oneCell'=true)(hz:z.oneCell'=true)(hu:u.oneCell'=true)(hb:n<=100000)(hbase:base<=w.heap.size)(h:∀B' cb' w',w'.ownsRow base 120 3 (.slice B' (n+1) cb') (n+1) (xs++[y,z,u])->w.grownBy w' (Value.slice B n cb).ownBlock-> ((Value.slice B' (n+1) cb').ownBlock=(Value.slice B n cb).ownBlock\/(Value.slice B' (n+1) cb').ownBlock=some w.heap.size)->K (a.put o.dst (.slice B' (n+1) cb')) w'): if Region.wanted o (yielded ops a.tmps)=true then Oper.wp Tryz.prog o a w K Q else E:=by
 have hw:Region.wanted o (yielded ops a.tmps)=true:=by simp[Region.wanted,hgd]
 rw[Zcg hw];obtain⟨i0,hi,hz0,hz1,hz2⟩:=Zch ZMT;exact ZA7 w s x 117 ho base 120 Tryz.underlying117 hi hz0 hz1 hz2 rfl (by decide) hs hown hx (m:=1) (news:=[y,z,u]) rfl hr (by intro v hv;simp at hv;rcases hv with rfl|rfl|rfl<;>assumption) (by unfold maxLen;omega) ZB hbase h
def ZTr (l:List ZBF)(w:World)(e:Ending)(w':World):Prop:=∃A c ks,e=.returned (.slice A l.length c)/\ZA2 w' w.heap.size A l.length c l ks/\ZL w w'
theorem ZKI (w:World)(base gc r:Nat)(L:List (Option Nat))(RO:Zdb)(s:JS)(h:Zu w base L RO gc r s)(hn:s.led.length<=100000)(hkl:∀t ∈ s.led,t.key.length<=5000): Calls Tryz.prog 71 #[.pointer (some ⟨gc,0,none⟩)] w (ZTr s.led w):=by
 obtain⟨S,lv,ov,lob,lk,tk,WA,A,wn,wc,n,c,-,-,h3,-,-,-,-,-,-,-,-,-,h13,h14,h15,h16,-⟩:=h;have c5:=ZTx h3 5 (.slice A n c);have HE:=ZA (show ZE5 w A s.led tk from⟨h13,ZMZ h15,h16⟩);obtain⟨l,Hl⟩:=ZTy (s.led);rw[Hl.o]at hn hkl h14 HE ⊢;have Hn:=ZA h14;have HK:=ZA hkl;have hn':n<=100000:=by omega
 clear h3 h13 h14 h15 h16 hkl hn;go_enter Tryz.func71,Tryz.ntmps71;go_wp2_with fail
 go_loopw [3,13] (λv i wr=>∃(k:Nat) (B:Option Addr) (cb:Nat) (kk:List Jt),k<=n/\i=.int .i64 (k:Int)/\v=.slice B k cb/\ZA2 wr w.heap.size B k cb (l.take k) kk/\ZL w wr) (λ_ i _=>n - (intOf i).toNat)
 case atStart=>exact⟨0,none,0,[],ZcL _,rfl,rfl,ZA2.nil _ _,ZL.refl w⟩
 case round=>
  obtain⟨k,B,cb,kk,hk,rfl,rfl,hN,hx⟩:=hrel;by_cases hlt:k<n
  ·obtain⟨e,he⟩:∃e,l[k]?=some e:=⟨_,Zaz (by rw[Hn.o];exact hlt)⟩;obtain⟨b,off,K,kc,hA,hks,d0,d1,d2,hkc,hkr⟩:=(HE.o.ext hx).at_ he;have hok:=HK.o e (ZbO he);obtain⟨p,x,v⟩:=e
   dsimp only at d0 d1 d2 hkc hkr hok
   subst hA;obtain⟨m,Hm⟩:=ZTy (x.length);rw[Hm.o]at d1 hkc;have hm:m<=5000:=by rw[<-Hm.o];exact hok
   have HT:=ZA (Zr he);have HN:=ZA hN;have HX:=ZA hx;have hsz:w.heap.size<=wr.heap.size:=hx.size;obtain⟨W,hW⟩:=ZTz (wr.alloc (.cells #[.int .i64 p,.slice K m kc,.int .i64 v] 120));have xW:ZL wr W:=by rw[<-hW];exact(ZL.refl wr).alloc _
   have KB:=ZA (show W.heap[wr.heap.size]?=some (.cells #[.int .i64 p,.slice K m kc,.int .i64 v] 120 (0,0)) by rw[<-hW];exact ZM wr _);have CL:=ZA (λu (y:ZL W u)=>ZAp K m kc x u Hm.o ZB (hkr.ext (xW.trans y)));have XW:=ZA xW;have NW:=ZA (hN.ext xW);have hWs:wr.heap.size<=W.heap.size:=xW.size;clear he hok hkr hN hx xW hks;go_upto_region 7 with fail
   (try rw[hW])
   clear hW d0 d1 d2;have e0:=ZTx KB.o 0 (.int .i64 p);have e1:=ZTx KB.o 1 (.slice K m kc);have e2:=ZTx KB.o 2 (.int .i64 v)
   go_region_held3 (λu=>u.cell? ⟨wr.heap.size,0,none⟩=some (.int .i64 p)/\u.cell? ⟨wr.heap.size,1,none⟩=some (.slice K m kc)/\u.cell? ⟨wr.heap.size,2,none⟩=some (.int .i64 v)) (((try dsimp only);refine⟨?_,?_,?_⟩<;>with_reducible first|assumption|exact ZK e0|exact ZK e1|exact ZK e2|exact ZG ((ZL.refl _).alloc _) y0|exact ZG ((ZL.refl _).alloc _) y1|exact ZG ((ZL.refl _).alloc _) y2|exact g6.cell (ZG ((ZL.refl _).alloc _) y0) NE.symm|exact g6.cell (ZG ((ZL.refl _).alloc _) y1) NE.symm|exact g6.cell (ZG ((ZL.refl _).alloc _) y2) NE.symm))
    (first
     |(go_at_call 67;(with_reducible refine(CL.o _ (by first|exact ZL.refl W|exact(ZL.refl W).drew)).mono ?_);rintro e w4 ⟨A4,c4,rfl,ho4,x4⟩;rw[Hm.o]at ho4 ⊢;have HO4:=ZA ho4;have X4:=ZA x4;have y0:=ZG x4 (ZK e0);have y1:=ZG x4 (ZK e1);have y2:=ZG x4 (ZK e2);clear ho4 x4)
     |(refine ZDq (w4.alloc (.cells #[.int .i64 p,.slice A4 m c4,.int .i64 v] 120)) rfl (.tmp 17) (.tmp 26) rfl w.heap.size ZTw (YB NW.o.2.2.1 (((ZL.refl W).drew.trans X4.o).alloc _)) ZTw (show Rd _ _ _ from ZAU w4 [.int .i64 p,.slice A4 m c4,.int .i64 v] _ rfl) rfl rfl rfl ZB (Zb2 (Zb2 hsz hWs) (((ZL.refl W).drew.trans X4.o).alloc _).size) ?_;intro B' cb' w6 o6 g6 b6;have NE:(Value.slice B k cb).ownBlock≠some wr.heap.size:=λe=>Zb3 _ (Zb5 (HN.o.2.2.1.lt _ e).2 (Zb0 _))))
   all_goals
    have x6:ZL w w6:=((((HX.o.trans XW.o).drew.trans X4.o).alloc _).grown g6 (λq e=>(HN.o.2.2.1.lt q e).1));go_wp2_with fail
    go_roundw
    case rel=>exact⟨k+1,B',cb',kk++[(A4,c4)],hlt,by go_num,rfl,by rw[HT.o];exact NW.o.snoc (w4:=w4) ((ZL.refl W).drew.trans X4.o) Hm.o HO4.o (Zb0 _) (Zb2 hsz hWs) ((ZL.refl w4).alloc _) o6 g6 b6,x6⟩
    case measure=>simp[intOf];omega
  ·obtain rfl:k=n:=by omega
   go_wp2_with fail;go_ret;rw[Zbk (by rw[Hn.o];exact Zb0 _)]at hN;exact⟨B,cb,kk,by rw[Hn.o];rfl,by rw[Hn.o];exact hN,hx⟩
theorem ZPZ {b gc r:Nat}{x y y' z:Option Nat}(h:some b ∈ [some gc,some r,x,y',z]):some b ∈ [some gc,some r,x,y,z]\/y'=some b:=by
 by_cases e:y'=some b
 ·exact .inr e
 ·refine .inl (ZPa (y:=y) ?_);rcases ZbJ.1 h with h|h
  ·rw[h];exact ZbL
  ·refine ZbK _ ?_;rcases ZbJ.1 h with h|h
   ·rw[h];exact ZbL
   ·refine ZbK _ ?_;rcases ZbJ.1 h with h|h
    ·rw[h];exact ZbL
    ·refine ZbK _ ?_;rcases ZbJ.1 h with h|h
     ·exact absurd h.symm e
     ·exact ZbK _ h
theorem ZK7 {w:World}{base gc i:Nat}{A:Option Addr}{n c:Nat}{xs:List Value}{v:Value}(h:w.ownsRow base 5 1 (.slice A n c) n xs)(hn:(Value.slice A n c).ownBlock≠some gc):(w.setCell ⟨gc,i,none⟩ v).ownsRow base 5 1 (.slice A n c) n xs:=((GB.refl w (· =gc)).set gc i v (.inl rfl)).own h (λb e e2=>hn (by rw[e,e2]))
theorem Zu.write {w:World}{base gc r:Nat}{L:List (Option Nat)}{RO:Zdb}{s:JS}(h:Zu w base L RO gc r s): ∃(WA:Option Addr) (wc:Nat),w.cell? ⟨gc,4,none⟩=some (.slice WA s.wr.length wc)/\w.cell? ⟨gc,7,none⟩=some (.bool s.hung)/\w.frozen? ⟨gc,4,none⟩=false/\(Value.slice WA s.wr.length wc).ownBlock≠some gc/\w.ownsRow base 5 1 (.slice WA s.wr.length wc) s.wr.length (ZV .u8 s.wr)/\base<=w.heap.size/\ ∀(B:Option Addr) (n' cb:Nat) (w3:World) (ys:List Nat),(s.wr++ys).length=n'->w3.ownsRow base 5 1 (.slice B n' cb) n' (ZV .u8 (s.wr++ys))->GB w w3 (λb=>(Value.slice WA s.wr.length wc).ownBlock=some b)->(∀b,(Value.slice B n' cb).ownBlock=some b->(Value.slice WA s.wr.length wc).ownBlock=some b\/w.heap.size<=b)-> YX w base L RO gc r {s with wr:=s.wr++ys} (w3.setCell ⟨gc,4,none⟩ (.slice B n' cb)):=by
 obtain⟨S,lv,ov,lob,lk,tk,WA,TA,wn,wc,tn,tc,h1,h2,h3,h4,h5,h6,h7,h8,h9,h10,h11,h12,h13,h14,h15,h16,h17,h18,h19⟩:=h;subst h11;rw[h1]at h2;obtain⟨a1,a2,a3,a4⟩:=ZBg h2;have hgcl:=(h19 gc (by rw[h1];simp));refine⟨WA,wc,ZE h3 4,ZE h3 7,ZF h3 4,λe=>(a3 gc e).1 rfl,h12,Zb2 hgcl.1 (Zbz hgcl.2),λB n' cb w3 ys hl ho g hb=>?_⟩;have g2:GB w (w3.setCell ⟨gc,4,none⟩ (.slice B n' cb)) (λb=>b=gc\/(Value.slice WA s.wr.length wc).ownBlock=some b):=(g.more (λb _ e=>.inr e)).trans ((GB.refl w3 (· =gc)).set gc 4 _ (.inl rfl)) (λb e=>.inl (.inl e));have hwL:∀b,(Value.slice WA s.wr.length wc).ownBlock=some b->some b ∈ L:=λb e=>by rw[h1,<-e];simp
 have hR:∀b,RO b->¬(b=gc\/(Value.slice WA s.wr.length wc).ownBlock=some b):=λb hb e=>(h18 b hb).1 (e.elim (λe=>by rw[h1,e];simp) (hwL b));have hsz:=g.size;have hnew:∀q,(Value.slice B n' cb).ownBlock=some q->q≠gc/\q≠r/\lob≠some q:=λq e=>(hb q e).elim (λe=>a3 q e) (λe=>⟨λe2=>by omega,λe2=>by have:=(h19 r (by rw[h1];simp)).2;omega,λe2=>by have:=(h19 q (by rw[h1,<-e2];simp)).2;omega⟩);have hnewT:∀q,(Value.slice TA tn tc).ownBlock=some q->(Value.slice B n' cb).ownBlock≠some q:=λq e e2=>(hb q e2).elim (λe3=>(a4 q e).2.2.2 e3) (λe3=>by have:=(h19 q (by rw[h1,<-e];simp)).2;omega);refine⟨[some gc,some r,lob,(Value.slice B n' cb).ownBlock,(Value.slice TA tn tc).ownBlock],RO,⟨S,lv,ov,lob,lk,tk,B,TA,n',cb,tn,tc,rfl,ZBK a1 a2 hnew (λq e=>⟨(a4 q e).1,(a4 q e).2.1,(a4 q e).2.2.1,hnewT q e⟩),ZU (g.blk h3 (λe=>(a3 gc e).1 rfl)) 4 _,XH.gb h4 g2 (λe=>e.elim (λe=>a1 e.symm) (λe=>(a3 r e).2.1 rfl)) (λb hb=>hR b (h5 b hb)),h5,h6,h7.gb g2 (λb e e2=>e2.elim (λe2=>(a2 b e).1 e2) (λe2=>(a3 b e2).2.2 e)),h8.gbk h9 g2 hR,h9,h10.gbk g2 hR,hl,(ZK7 ho (λe=>(hnew gc e).1 rfl)),h13,h14,g2.own h15 (λb e e2=>e2.elim (λe2=>(a4 b e).1 e2) (λe2=>(a4 b e).2.2.2 e2)),h16.gbk h17 g2 hR,h17,λb hbR=>⟨λe=>?_,(h18 b hbR).2.1,Zb5 (h18 b hbR).2.2 g2.size⟩,λb hbL=>?_⟩,g2.more (λb _ e=>e.elim (λe=>by rw[h1,e];simp) (hwL b)),λb hbL=>?_,λb e=>.inl e⟩
 ·rcases ZPZ (y:=(Value.slice WA s.wr.length wc).ownBlock) e with e|e
  ·exact(h18 b hbR).1 (by rw[h1];exact e)
  ·rcases hb b e with e|e
   ·exact(h18 b hbR).1 (hwL b e)
   ·have:=(h18 b hbR).2.2;omega
 ·rcases ZPZ (y:=(Value.slice WA s.wr.length wc).ownBlock) hbL with e|e
  ·have:=h19 b (by rw[h1];exact e);exact⟨this.1,Zb5 this.2 g2.size⟩
  ·have:=ho.lt b e;exact⟨this.1,by simpa using this.2⟩
 ·rcases ZPZ (y:=(Value.slice WA s.wr.length wc).ownBlock) hbL with e|e
  ·exact .inl (by rw[h1];exact e)
  ·exact(hb b e).imp (hwL b) id
theorem ZAc {w w':World}{p:Addr}{v:Value}(x:ZL w w')(h:w.cell? p=some v)(hf:w.frozen? p=false):w'.frozen? p=false:=(x.frozen (ZcO w p h)).trans hf
theorem ZB2 {w w':World}{gc i:Nat}{v:Value}{row:Option Nat}(g:w.grownBy w' row)(h:w.cell? ⟨gc,i,none⟩=some v)(hf:w.frozen? ⟨gc,i,none⟩=false)(hn:row≠some gc):w'.frozen? ⟨gc,i,none⟩=false:=by
 have hb:=g.block gc (ZcO w _ h) (λe=>hn e.symm);unfold World.frozen? at hf ⊢;simp only[hb];exact hf
def Ju (s:JS)(q:Int)(B:List Nat):JS:=if q=0/\s.hung=false then {s with wr:=s.wr++(XK B.length++B)} else s
def ZTq (w:World)(base:Nat)(L:List (Option Nat))(RO:Zdb)(gc r:Nat)(s:JS)(e:Int)(g:Bool)(N:List Int)(x:Ending)(w':World):Prop:=∃q B,ZCp e g N q B/\x=.returned (.int .i64 q)/\YX w base L RO gc r (Ju s q B) w'
theorem YX.refl {w w':World}{base gc r:Nat}{L:List (Option Nat)}{RO:Zdb}{s:JS}(h:Zu w base L RO gc r s)(x:ZL w w'):YX w base L RO gc r s w':=⟨L,RO,h.ext x,GB.of_ext _ x,λ_ e=>.inl e,λ_ e=>.inl e⟩
theorem YX.back {w0 w w':World}{base gc r:Nat}{L:List (Option Nat)}{RO:Zdb}{s:JS}(x:ZL w0 w)(h:YX w base L RO gc r s w'):YX w0 base L RO gc r s w':=by
 obtain⟨L',RO',h1,h2,h3,h4⟩:=h;exact⟨L',RO',h1,GB.back x h2,λb e=>(h3 b e).imp id (Zb2 x.size),λb e=>(h4 b e).imp id (λe=>e.imp id (Zb2 x.size))⟩
theorem ZKG (w:World)(base gc r:Nat)(L:List (Option Nat))(RO:Zdb)(s:JS)(h:Zu w base L RO gc r s)(hwr:s.wr.length<=1000000)(e:Nat)(he:e<=16)(g:Bool)(l t sn nw:Int): Calls Tryz.prog 151 #[.pointer (some ⟨gc,0,none⟩),.agg #[.int .i64 (e:Int),.bool g,.int .i64 l,.int .i64 t,.int .i64 sn,.int .i64 nw]] w (ZTq w base L RO gc r s (e:Int) g [l,t,sn,nw]):=by
 have RP:=ZA (λu=>show Calls Tryz.prog 152 #[.agg #[.int .i64 (e:Int),.bool g,.int .i64 l,.int .i64 t,.int .i64 sn,.int .i64 nw]] u (ZMM (e:Int) g [l,t,sn,nw] u)from by
  cases g
  ·exact ZJU u e l t sn nw he
  ·exact ZKv u e l t sn nw he)
 obtain⟨W,hW⟩:=ZTz (w.alloc (.cells #[.int .i64 (e:Int),.bool g,.int .i64 l,.int .i64 t,.int .i64 sn,.int .i64 nw] 39));have xW:ZL w W:=by rw[<-hW];exact(ZL.refl w).alloc _
 have KP:=ZA (show W.heap[w.heap.size]?=some (.cells #[.int .i64 (e:Int),.bool g,.int .i64 l,.int .i64 t,.int .i64 sn,.int .i64 nw] 39 (0,0)) by rw[<-hW];exact ZM w _);have H:=ZA h;have XW:=ZA xW;clear h xW;go_enter Tryz.func151,Tryz.ntmps151;go_upto_region 1 with fail
 (try rw[hW])
 clear hW;have p0:=ZTx KP.o 0 (.int .i64 (e:Int));have p1:=ZTx KP.o 1 (.bool g);have p2:=ZTx KP.o 2 (.int .i64 l);have p3:=ZTx KP.o 3 (.int .i64 t);have p4:=ZTx KP.o 4 (.int .i64 sn);have p5:=ZTx KP.o 5 (.int .i64 nw);go_wp2_with fail;refine(RP.o W).mono ?_;rintro x w1 ⟨q,B,hri,A1,c1,rfl,o1,x1⟩;clear p0 p1 p2 p3 p4 p5;have X1:=ZA (XW.o.trans x1);have HRI:=ZA hri;rcases hri with⟨rfl,rfl,-⟩|⟨rfl,-,-,ns,⟨hns,-⟩,hB⟩
 ·clear x1 o1;go_wp2_with fail;go_ret;exact⟨1,[],HRI.o,rfl,by unfold Ju;rw[Zcf ZB];exact YX.refl H.o X1.o⟩
 ·obtain⟨m,Hm⟩:=ZTy (B.length);have hm34:1<=m/\m<=60:=by rw[<-Hm.o,hB,ZCW,hns];omega
  have O1:=ZA o1;rw[Hm.o]at O1 ⊢;obtain⟨WA,wc,c4,c7,f4,hnb,ow,hbw,step⟩:=(H.o.ext X1.o).write;have STEP:=ZA step;obtain⟨wn,Hwn⟩:=ZTy (s.wr.length);rw[Hwn.o]at c4 hnb ow STEP hwr;have OW:=ZA ow;obtain⟨hg,Hhg⟩:=ZTy (s.hung);rw[Hhg.o]at c7;clear x1 o1 ow step hB hns;cases hg with
  |true=>
   go_wp2_with fail;go_ret;exact⟨0,B,HRI.o,rfl,by unfold Ju;rw[Zcf (by rw[Hhg.o];simp)];exact YX.refl H.o X1.o⟩
  |false=>
   have EN:=ZA (ZCf w1 A1 m c1 B ZB ZB Hm.o (Rd.of_own O1.o));unfold Yu at EN;obtain⟨fr,Hfr⟩:=ZTy (XK m++B);rw[Hfr.o]at EN;obtain⟨fn,Hfn⟩:=ZTy (fr.length);have hfn:fn<=100:=by rw[<-Hfn.o,<-Hfr.o,Za9,Hm.o];simp[XK];omega
   rw[Hfn.o]at EN;go_wp2_with fail;refine EN.o.mono ?_;rintro x w2 ⟨A2,c2,rfl,o2,x2⟩;have O2:=ZA o2;have X2:=ZA x2;have d4:=ZG x2 c4;have g4:=ZAc x2 c4 f4;have hb2:base<=w2.heap.size:=Zb2 hbw x2.size;clear o2 x2 c4 f4 c7;go_wp2_with (at_builtin;refine Y6 w2 rfl (.tmp 31) (.tmp 32) rfl base rfl (YB OW.o X2.o) rfl Hfn.o (Rd.of_own O2.o) ZB hb2 ?_;intro B3 cb3 w3 o3 g3 b3;have e4:w3.cell? ⟨gc,4,none⟩=some (.slice WA wn wc):=g3.cell d4 hnb.symm;have h4:w3.frozen? ⟨gc,4,none⟩=false:=ZB2 g3 d4 g4 hnb;have O3:=ZA o3;have G3:=ZA g3;have B3h:=ZA b3;clear o3 g3 b3);go_ret;refine⟨0,B,HRI.o,rfl,?_⟩;unfold Ju;rw[Zcg ⟨rfl,Hhg.o⟩,Hm.o,Hfr.o]
   exact YX.back X1.o (STEP.o B3 (wn+fn) cb3 w3 fr (by rw[Za9,Hwn.o,Hfn.o]) O3.o (((GB.refl w1 _).ext X2.o).grown G3.out (λq e=>.inl e)) (λb e=>by
    rcases B3h.o with h9|h9
    ·exact .inl (h9 ▸ e)
    ·rw[h9]at e;injection e with e;exact .inr (by rw[<-e];exact X2.o.size)))
theorem ZMh {b gc r:Nat}{x y z:Option Nat}(h:some b ∈ [some gc,some r,none,y,z]):some b ∈ [some gc,some r,x,y,z]:=by
 rcases ZbJ.1 h with h|h
 ·rw[h];exact ZbL
 ·refine ZbK _ ?_;rcases ZbJ.1 h with h|h
  ·rw[h];exact ZbL
  ·refine ZbK _ (ZbK _ ?_);rcases ZbJ.1 h with h|h
   ·cases h
   ·exact h
def ZEw (s:JS):JS:={s with closed:=true,hung:=true,line:=[]}
theorem Zu.hang {w:World}{base gc r:Nat}{L:List (Option Nat)}{RO:Zdb}{s:JS}(h:Zu w base L RO gc r s): (∃v,w.cell? ⟨gc,6,none⟩=some v)/\(∃v,w.cell? ⟨gc,7,none⟩=some v)/\(∃v,w.cell? ⟨gc,1,none⟩=some v)/\(∀i,w.frozen? ⟨gc,i,none⟩=false)/\ ∃L',Zu (((w.setCell ⟨gc,6,none⟩ (.bool true)).setCell ⟨gc,7,none⟩ (.bool true)).setCell ⟨gc,1,none⟩ (.slice none 0 0)) base L' RO gc r (ZEw s)/\∀b,some b ∈ L'->some b ∈ L:=by
 obtain⟨S,lv,ov,lob,lk,tk,WA,TA,wn,wc,tn,tc,h1,h2,h3,h4,h5,h6,h7,h8,h9,h10,h11,h12,h13,h14,h15,h16,h17,h18,h19⟩:=h;rw[h1]at h2;obtain⟨a1,a2,a3,a4⟩:=ZBg h2;have g:GB w (((w.setCell ⟨gc,6,none⟩ (.bool true)).setCell ⟨gc,7,none⟩ (.bool true)).setCell ⟨gc,1,none⟩ (.slice none 0 0)) (· =gc):=(((GB.refl w (· =gc)).set gc 6 _ (.inl rfl)).set gc 7 _ (.inl rfl)).set gc 1 _ (.inl rfl);have hR:∀b,RO b->¬b=gc:=λb hb e=>(h18 b hb).1 (by rw[h1,e];simp);refine⟨⟨_,ZE h3 6⟩,⟨_,ZE h3 7⟩,⟨_,ZE h3 1⟩,λi=>ZF h3 i,[some gc,some r,none,(Value.slice WA wn wc).ownBlock,(Value.slice TA tn tc).ownBlock],⟨S,.slice none 0 0,ov,none,[],tk,WA,TA,wn,wc,tn,tc,rfl,ZBK a1 (λq e=>by cases e) (λq e=>⟨(a3 q e).1,(a3 q e).2.1,λe=>by cases e⟩) (λq e=>⟨(a4 q e).1,(a4 q e).2.1,(λe=>by cases e),(a4 q e).2.2.2⟩),ZU (ZU (ZU h3 6 _) 7 _) 1 _,XH.gb h4 g (λe=>a1 e.symm) (λb hb=>hR b (h5 b hb)),h5,rfl,ZJe _ _,(λp hp=>by simp at hp),(λk hk=>by simp at hk),h10.gbk g hR,h11,g.own h12 (λb e=>(a3 b e).1),h13,h14,g.own h15 (λb e=>(a4 b e).1),h16.gbk h17 g hR,h17,λb hb=>⟨λe=>(h18 b hb).1 (by rw[h1];exact ZMh e),(h18 b hb).2.1,by simpa using(h18 b hb).2.2⟩,λb hb=>⟨(h19 b (by rw[h1];exact ZMh hb)).1,by simpa using(h19 b (by rw[h1];exact ZMh hb)).2⟩⟩,λb hb=>by rw[h1];exact ZMh hb⟩
theorem ZKM (w:World)(base gc r:Nat)(L:List (Option Nat))(RO:Zdb)(s:JS)(h:Zu w base L RO gc r s)(hn:s.led.length<=100000)(hkl:∀t ∈ s.led,t.key.length<=5000): Calls Tryz.prog 107 #[.pointer (some ⟨gc,0,none⟩)] w λe w'=>∃A c ks L',e=.returned (.slice A s.led.length c)/\Zu w' base L' RO gc r (ZEw s)/\ZA2 w' w.heap.size A s.led.length c s.led ks/\GB w w' (· =gc)/\∀b,some b ∈ L'->some b ∈ L:=by
 obtain⟨⟨v6,c6⟩,⟨v7,c7⟩,⟨v1,c1⟩,fz,L',hh,hL⟩:=h.hang;have f6:=fz 6;have f7:=fz 7;have f1:=fz 1;have LD:=ZA (ZKI _ base gc r L' RO (ZEw s) hh hn hkl);have g:GB w (((w.setCell ⟨gc,6,none⟩ (.bool true)).setCell ⟨gc,7,none⟩ (.bool true)).setCell ⟨gc,1,none⟩ (.slice none 0 0)) (· =gc):=(((GB.refl w (· =gc)).set gc 6 _ (.inl rfl)).set gc 7 _ (.inl rfl)).set gc 1 _ (.inl rfl);have hsz:(((w.setCell ⟨gc,6,none⟩ (.bool true)).setCell ⟨gc,7,none⟩ (.bool true)).setCell ⟨gc,1,none⟩ (.slice none 0 0)).heap.size=w.heap.size:=by simp
 obtain⟨X,hX⟩:=ZTz ((((w.setCell ⟨gc,6,none⟩ (.bool true)).setCell ⟨gc,7,none⟩ (.bool true)).setCell ⟨gc,1,none⟩ (.slice none 0 0)));rw[hX]at LD g hsz hh;have HH:=ZA hh;have HL:=ZA hL;have HX:=ZA hX;have HSZ:=ZA hsz;have HG:=ZA g;clear h hh hL hX fz hsz g;go_enter Tryz.func107,Tryz.ntmps107;go_upto_region 4 with fail
 first|rw[HX.o]|rw[show((((w.setCell ⟨gc,6,none⟩ (.bool true)).setCell ⟨gc,7,none⟩ (.bool true)).setCell ⟨gc,1,none⟩ (.slice none 0 0))).drew=X.drew by rw[HX.o]]
 go_wp2_with fail;refine LD.o.mono ?_;rintro e w2 ⟨A,c,ks,rfl,hN,x2⟩;go_wp2_with fail;go_ret;exact⟨A,c,ks,L',rfl,HH.o.ext x2,by rw[<-HSZ.o];exact hN,HG.o.ext x2,HL.o⟩
def ZG1 (xs:List Nat):List Int:=xs.map λ(x:Nat)=>(x:Int)
theorem ZKH (w:World)(A:Option Addr)(n c:Nat)(xs:List Nat)(hl:xs.length=n)(hr:Rd w A (ZV .u8 xs)):(convert 32 9 (.slice A n c)).run Tryz.prog w=.ok (.string (strOfNums (ZG1 xs))) w:=by
 rcases Zby n with hn|hn
 ·subst hn;obtain rfl:xs=[]:=Zap hl;exact run_convert_bytes_zero w _ _ Tryz.underlying32 Tryz.underlying5 A c _ Tryz.underlying9
 ·obtain⟨b,off,rfl,hc⟩:=hr (λe=>by have:=ZcZ List.length e;rw[XM,ZbE]at this;omega)
  exact run_convert_bytes_arg (P:=Tryz.prog) w _ _ Tryz.underlying32 Tryz.underlying5 b off n c (ZG1 xs) (by unfold ZG1;rw[List.length_map,hl]) (λi hi=>by
   obtain⟨x,hx⟩:∃x,xs[i]?=some x:=⟨_,Zaz ZB⟩;rw[hc i _ (ZAw hx)];unfold ZG1;rw[Zau,Za1,hx];rfl) _ Tryz.underlying9
theorem ZSR {xs ys:List Nat}(h:∀x ∈ xs,x<256)(h':∀x ∈ ys,x<256):strOfNums (ZG1 xs)=strOfNums (ZG1 ys)↔xs=ys:=by
 constructor
 ·intro e;have e2:=ZcZ (λs:ByteArray=>s.data.toList.map UInt8.toNat) e;have hm:∀(l:List Nat),(∀x ∈ l,x<256)->(strOfNums (ZG1 l)).data.toList.map UInt8.toNat=l:=λl hl=>by
   rw[strOfNums_data];unfold ZG1;rw[List.map_map,List.map_map]
   conv=>rhs;rw[<-List.map_id l]
   refine List.map_congr_left λx hx=>?_;have:=hl x hx;simp[UInt8.toNat_ofNat'];omega
  rw[hm xs h,hm ys h']at e2;exact e2
 ·intro e;rw[e]
theorem ZMC (w:World)(A B:Option Addr)(n c m d:Nat)(xs ys:List Nat)(hl:xs.length=n)(hl':ys.length=m)(hb:∀x ∈ xs,x<256)(hb':∀x ∈ ys,x<256)(hr:Rd w A (ZV .u8 xs))(hr':Rd w B (ZV .u8 ys)): Calls Tryz.prog 155 #[.slice A n c,.slice B m d] w λe w'=>e=.returned (.bool (decide (xs=ys)))/\w=w':=by
 have h1:=ZKH w A n c xs hl hr;have h2:=ZKH w B m d ys hl' hr';obtain⟨s1,hs1⟩:=ZTz (strOfNums (ZG1 xs));obtain⟨s2,hs2⟩:=ZTz (strOfNums (ZG1 ys));have hq:=ZSR hb hb';rw[hs1]at h1;rw[hs2]at h2;rw[hs1,hs2]at hq;by_cases hxy:xs=ys
 ·have h3:s1=s2:=hq.2 hxy;subst h3;rw[Zcb hxy];clear hq hs1 hs2 hl hl' hb hb' hr hr' hxy;go_enter Tryz.func155,Tryz.ntmps155;go_wp2_with fail;go_ret;exact⟨rfl,rfl⟩
 ·have h3:(s1.toList==s2.toList)=false:=by
   rw[ByteArray.toList_eq,ByteArray.toList_eq];exact ZcW.2 (λe=>hxy (hq.1 (ByteArray.ext (Array.toList_inj.1 e))))
  rw[Zca hxy];clear hq hs1 hs2 hl hl' hb hb' hr hr' hxy;go_enter Tryz.func155,Tryz.ntmps155;go_wp2_with fail;go_ret;exact⟨rfl,rfl⟩
def ZEt (c:Z3)(t:ZBF):Bool:=decide (t.pol=(c.pol:Int)/\t.key=c.key/\t.ser=(c.num:Int))
theorem ZOI (w:World)(o K1c K2c n m p N:Nat)(K1 K2:Option Addr)(op:Nat)(key ck:List Nat)(pt ser:Int)(hblk:w.heap[o]?=some (.cells #[.int .u8 (op:Int),.int .i64 (p:Int),.slice K1 n K1c,.int .i64 (N:Int)] 34 (0,0)))(h1:ck.length=n)(h2:key.length=m)(hb1:∀x ∈ ck,x<256)(hb2:∀x ∈ key,x<256)(hr1:Rd w K1 (ZV .u8 ck))(hr2:Rd w K2 (ZV .u8 key)): Calls Tryz.prog 154 #[.agg #[.int .i64 pt,.slice K2 m K2c,.int .i64 ser],.pointer (some ⟨o,0,none⟩)] w (Xu (.bool (ZEt ⟨op,p,ck,N⟩ ⟨pt,key,ser⟩)) w):=by
 have xW:ZL w (w.alloc (.cells #[.int .i64 pt,.slice K2 m K2c,.int .i64 ser] 120)):=(ZL.refl w).alloc _;have EQ:=ZA (ZMC (w.alloc (.cells #[.int .i64 pt,.slice K2 m K2c,.int .i64 ser] 120)) K2 K1 m K2c n K1c key ck h2 h1 hb2 hb1 (hr2.ext xW) (hr1.ext xW));have kb:=ZJ hblk xW;have c1:=ZTx kb 1 (.int .i64 (p:Int));have c2:=ZTx kb 2 (.slice K1 n K1c);have c3:=ZTx kb 3 (.int .i64 (N:Int));have hol:=ZW hblk;unfold ZEt
 dsimp only
 clear hblk kb h1 h2 hb1 hb2 hr1 hr2;by_cases e1:pt=(p:Int)
 ·subst e1;by_cases e2:key=ck
  ·rw[Zcb e2]at EQ;by_cases e3:ser=(N:Int)
   ·subst e3;rw[Zcb ⟨rfl,e2,rfl⟩];clear e2;go_enter Tryz.func154,Tryz.ntmps154;go_wp2_with fail;refine EQ.o.mono ?_;rintro e w1 ⟨rfl,rfl⟩;go_wp2_with fail;go_ret;exact⟨rfl,xW⟩
   ·rw[Zca (λh=>e3 h.2.2)];have e3':(ser==(N:Int))=false:=by simpa using e3
    clear e2 e3;go_enter Tryz.func154,Tryz.ntmps154;go_wp2_with fail;refine EQ.o.mono ?_;rintro e w1 ⟨rfl,rfl⟩;go_wp2_with fail;go_ret;exact⟨rfl,xW⟩
  ·rw[Zca e2]at EQ;rw[Zca (λh=>e2 h.2.1)];clear e2;go_enter Tryz.func154,Tryz.ntmps154;go_wp2_with fail;refine EQ.o.mono ?_;rintro e w1 ⟨rfl,rfl⟩;go_wp2_with fail;go_ret;exact⟨rfl,xW⟩
 ·rw[Zca (λh=>e1 h.1)];have e1':(pt==(p:Int))=false:=by simpa using e1
  clear e1;go_enter Tryz.func154,Tryz.ntmps154;go_wp2_with fail;go_ret;exact⟨rfl,xW⟩
def ZGM (c:Z3):List ZBF->Option Nat
 |[]=>none
 |t::l=>if ZEt c t=true then some 0 else (ZGM c l).map (· +1)
theorem ZPw {c:Z3}:∀{l:List ZBF} {j:Nat} {t:ZBF},(∀(q:Nat) (x:ZBF),q<j->l[q]?=some x->ZEt c x=false)->l[j]?=some t->ZEt c t=true->ZGM c l=some j
 |[],_,_,_,h,_=>by simp at h
 |y::l,0,t,_,h,ht=>by
  simp at h;subst h;exact Zcg ht
 |y::l,j+1,t,hn,h,ht=>by
  have hy:=hn 0 y ZB rfl;unfold ZGM;rw[Zcf (by rw[hy];exact ZaV),ZPw (j:=j) (λq x hq hx=>hn (q+1) x ZB (by simpa using hx)) (by simpa using h) ht];rfl
theorem ZJ0 {c:Z3}:∀{l:List ZBF},(∀(q:Nat) (x:ZBF),l[q]?=some x->ZEt c x=false)->ZGM c l=none
 |[],_=>rfl
 |y::l,hn=>by
  have hy:=hn 0 y rfl;unfold ZGM;rw[Zcf (by rw[hy];exact ZaV),ZJ0 (λq x hx=>hn (q+1) x (by simpa using hx))];rfl
def ZSk (o:Option Nat):Int:=match o with
 |some i=>(i:Int)
 |none=>-1
theorem ZL2 (w:World)(A:Option Addr)(nl cl:Nat)(l:List ZBF)(ks:List Jt)(o K1c n p N op:Nat)(K1:Option Addr)(ck:List Nat)(hl:l.length=nl)(hnl:nl<=100000)(hE:ZE5 w A l ks)(hkb:∀t ∈ l,∀x ∈ t.key,x<256)(hblk:w.heap[o]?=some (.cells #[.int .u8 (op:Int),.int .i64 (p:Int),.slice K1 n K1c,.int .i64 (N:Int)] 34 (0,0)))(h1:ck.length=n)(hb1:∀x ∈ ck,x<256)(hr1:Rd w K1 (ZV .u8 ck)): Calls Tryz.prog 153 #[.slice A nl cl,.func (.func 154) #[] #[.pointer (some ⟨o,0,none⟩)]] w (Xu (.int .i64 (ZSk (ZGM ⟨op,p,ck,N⟩ l))) w):=by
 have Hl:=ZA hl;have HE:=ZA hE;have HB:=ZA hkb;have HBL:=ZA hblk;have H1:=ZA h1;have HB1:=ZA hb1;have HR1:=ZA hr1;clear hl hE hkb hblk h1 hb1 hr1;go_enter Tryz.func153,Tryz.ntmps153;go_wp2_with fail
 go_loopw [8] (λi wr=>∃j:Nat,j<=nl/\i=.int .i64 (j:Int)/\ZL w wr/\∀q x,q<j->l[q]?=some x->ZEt ⟨op,p,ck,N⟩ x=false) (λi _=>nl - (intOf i).toNat)
 case atStart=>exact⟨0,ZcL _,rfl,ZL.refl w,λq e h=>absurd h (ZcF q)⟩
 case round=>
  obtain⟨j,hj,rfl,hx,hne⟩:=hrel;have HX:=ZA hx;have HNE:=ZA hne;clear hne;by_cases hlt:j<nl
  ·obtain⟨e,he⟩:∃e,l[j]?=some e:=⟨_,Zaz (by rw[Hl.o];exact hlt)⟩;obtain⟨b,off,K2,kc,hA,hks,d0,d1,d2,hkc,hkr⟩:=(HE.o.ext hx).at_ he;have hkb9:=HB.o e (ZbO he);have He:=ZA he;obtain⟨pt,x,ser⟩:=e
   dsimp only at d0 d1 d2 hkc hkr hkb9
   subst hA;obtain⟨m,Hm⟩:=ZTy (x.length);rw[Hm.o]at d1 hkc;have CR:=ZA (ZOI wr o K1c kc n m p N K1 K2 op x ck pt ser (ZJ HBL.o hx) H1.o Hm.o HB1.o hkb9 (HR1.o.ext hx) hkr);clear he hkr hkb9 hx hks;cases ht:ZEt ⟨op,p,ck,N⟩ ⟨pt,x,ser⟩with
   |true=>
    rw[ht]at CR;have HT:=ZA ht;clear ht;go_wp2_with fail;refine CR.o.mono ?_;rintro e w3 ⟨rfl,x3⟩;go_wp2_with fail;go_ret;refine⟨?_,HX.o.trans x3⟩;rw[ZPw HNE.o He.o HT.o];rfl
   |false=>
    rw[ht]at CR;have HT:=ZA ht;clear ht;go_wp2_with fail;refine CR.o.mono ?_;rintro e w3 ⟨rfl,x3⟩;have X3:=ZA (HX.o.trans x3);clear x3;go_wp2_with fail
    go_roundw
    case rel=>exact⟨j+1,hlt,by go_num,X3.o,λq y hq hy=>by
     rcases Zb6 q j with h|h
     ·exact HNE.o q y h hy
     ·obtain rfl:q=j:=by omega
      rw[He.o]at hy;injection hy with hy;subst hy;exact HT.o⟩
    case measure=>simp[intOf];omega
  ·obtain rfl:j=nl:=by omega
   go_wp2_with fail;go_ret;refine⟨?_,HX.o⟩;rw[ZJ0 (λq y hy=>HNE.o q y (by rw[<-Hl.o];exact(Za0.1 hy).1) hy)];rfl
theorem Zu.outNone {w:World}{base gc r:Nat}{L:List (Option Nat)}{RO:Zdb}{s:JS}(h:Zu w base L RO gc r s): Zu (w.setCell ⟨gc,3,none⟩ (.pointer none)) base L RO gc r {s with out:=none}/\GB w (w.setCell ⟨gc,3,none⟩ (.pointer none)) (· =gc):=by
 obtain⟨S,lv,ov,lob,lk,tk,WA,TA,wn,wc,tn,tc,h1,h2,h3,h4,h5,h6,h7,h8,h9,h10,h11,h12,h13,h14,h15,h16,h17,h18,h19⟩:=h;have h2':=h2;rw[h1]at h2';obtain⟨a1,a2,a3,a4⟩:=ZBg h2';have g:GB w (w.setCell ⟨gc,3,none⟩ (.pointer none)) (· =gc):=(GB.refl w (· =gc)).set gc 3 _ (.inl rfl);have hR:∀b,RO b->¬b=gc:=λb hb e=>(h18 b hb).1 (by rw[h1,e];simp);exact⟨⟨S,lv,.pointer none,lob,lk,tk,WA,TA,wn,wc,tn,tc,h1,h2,ZU h3 3 _,XH.gb h4 g (λe=>a1 e.symm) (λb hb=>hR b (h5 b hb)),h5,h6,h7.gb g (λb e=>(a2 b e).1),h8.gbk h9 g hR,h9,rfl,h11,g.own h12 (λb e=>(a3 b e).1),h13,h14,g.own h15 (λb e=>(a4 b e).1),h16.gbk h17 g hR,h17,λb hb=>⟨(h18 b hb).1,(h18 b hb).2.1,by simpa using(h18 b hb).2.2⟩,λb hb=>⟨(h19 b hb).1,by simpa using(h19 b hb).2⟩⟩,g⟩
theorem ZLG {b gc r:Nat}{x y z z':Option Nat}(h:some b ∈ [some gc,some r,x,y,z']):some b ∈ [some gc,some r,x,y,z]\/z'=some b:=by
 rcases ZbJ.1 h with h|h
 ·rw[h];exact .inl ZbL
 ·rcases ZbJ.1 h with h|h
  ·rw[h];exact .inl (ZbK _ ZbL)
  ·rcases ZbJ.1 h with h|h
   ·rw[h];exact .inl (ZbK _ (ZbK _ ZbL))
   ·rcases ZbJ.1 h with h|h
    ·rw[h];exact .inl (ZbK _ (ZbK _ (ZbK _ ZbL)))
    ·exact .inr (ZbU.1 h).symm
theorem Zu.ledger {w:World}{base gc r:Nat}{L:List (Option Nat)}{RO:Zdb}{s:JS}(h:Zu w base L RO gc r s): ∃(TA:Option Addr) (tc:Nat) (tk:List Jt),w.cell? ⟨gc,5,none⟩=some (.slice TA s.led.length tc)/\w.frozen? ⟨gc,5,none⟩=false/\(Value.slice TA s.led.length tc).ownBlock≠some gc/\w.ownsRow base 120 3 (.slice TA s.led.length tc) s.led.length (ZBn tk s.led)/\tk.length=s.led.length/\ZAG w (λt=>t.key) tk s.led/\(∀k ∈ tk,ZE8 RO k)/\base<=w.heap.size/\(∀b,(Value.slice TA s.led.length tc).ownBlock=some b->some b ∈ L)/\ ∀(B:Option Addr) (n' cb:Nat) (w3:World) (l':List ZBF) (tk':List Jt),l'.length=n'->tk'.length=l'.length->w3.ownsRow base 120 3 (.slice B n' cb) n' (ZBn tk' l')->ZAG w (λt=>t.key) tk' l'->(∀k ∈ tk',ZE8 RO k)->GB w w3 (λb=>(Value.slice TA s.led.length tc).ownBlock=some b)->(∀b,(Value.slice B n' cb).ownBlock=some b->(Value.slice TA s.led.length tc).ownBlock=some b\/w.heap.size<=b)-> YX w base L RO gc r {s with led:=l'} (w3.setCell ⟨gc,5,none⟩ (.slice B n' cb)):=by
 obtain⟨S,lv,ov,lob,lk,tk,WA,TA,wn,wc,tn,tc,h1,h2,h3,h4,h5,h6,h7,h8,h9,h10,h11,h12,h13,h14,h15,h16,h17,h18,h19⟩:=h;subst h14;rw[h1]at h2;obtain⟨a1,a2,a3,a4⟩:=ZBg h2;have hgcl:=(h19 gc (by rw[h1];simp));have hwL:∀b,(Value.slice TA s.led.length tc).ownBlock=some b->some b ∈ L:=λb e=>by rw[h1,<-e];simp
 refine⟨TA,tc,tk,ZE h3 5,ZF h3 5,λe=>(a4 gc e).1 rfl,h15,h13,h16,h17,Zb2 hgcl.1 (Zbz hgcl.2),hwL,λB n' cb w3 l' tk' hl hkl ho hkr hki g hb=>?_⟩;have g2:GB w (w3.setCell ⟨gc,5,none⟩ (.slice B n' cb)) (λb=>b=gc\/(Value.slice TA s.led.length tc).ownBlock=some b):=(g.more (λb _ e=>.inr e)).trans ((GB.refl w3 (· =gc)).set gc 5 _ (.inl rfl)) (λb e=>.inl (.inl e));have hR:∀b,RO b->¬(b=gc\/(Value.slice TA s.led.length tc).ownBlock=some b):=λb hb e=>(h18 b hb).1 (e.elim (λe=>by rw[h1,e];simp) (hwL b));have hsz:=g.size;have hnew:∀q,(Value.slice B n' cb).ownBlock=some q->q≠gc/\q≠r/\lob≠some q/\(Value.slice WA wn wc).ownBlock≠some q:=λq e=>(hb q e).elim (λe=>a4 q e) (λe=>⟨λe2=>by omega,λe2=>by have:=(h19 r (by rw[h1];simp)).2;omega,λe2=>by have:=(h19 q (by rw[h1,<-e2];simp)).2;omega,λe2=>by have:=(h19 q (by rw[h1,<-e2];simp)).2;omega⟩);refine⟨[some gc,some r,lob,(Value.slice WA wn wc).ownBlock,(Value.slice B n' cb).ownBlock],RO,⟨S,lv,ov,lob,lk,tk',WA,B,wn,wc,n',cb,rfl,ZBK a1 a2 a3 hnew,ZU (g.blk h3 (λe=>(a4 gc e).1 rfl)) 5 _,XH.gb h4 g2 (λe=>e.elim (λe=>a1 e.symm) (λe=>(a4 r e).2.1 rfl)) (λb hb=>hR b (h5 b hb)),h5,h6,h7.gb g2 (λb e e2=>e2.elim (λe2=>(a2 b e).1 e2) (λe2=>(a4 b e2).2.2.1 e)),h8.gbk h9 g2 hR,h9,h10.gbk g2 hR,h11,g2.own h12 (λb e e2=>e2.elim (λe2=>(a3 b e).1 e2) (λe2=>(a4 b e2).2.2.2 e)),hkl,hl,(((GB.refl w3 (· =gc)).set gc 5 _ (.inl rfl)).own ho (λb e e2=>(hnew b e).1 e2)),hkr.gbk hki g2 hR,hki,λb hbR=>⟨λe=>?_,(h18 b hbR).2.1,Zb5 (h18 b hbR).2.2 g2.size⟩,λb hbL=>?_⟩,g2.more (λb _ e=>e.elim (λe=>by rw[h1,e];simp) (hwL b)),λb hbL=>?_,λb e=>.inl e⟩
 ·rcases ZLG (z:=(Value.slice TA s.led.length tc).ownBlock) e with e|e
  ·exact(h18 b hbR).1 (by rw[h1];exact e)
  ·rcases hb b e with e|e
   ·exact(h18 b hbR).1 (hwL b e)
   ·have:=(h18 b hbR).2.2;omega
 ·rcases ZLG (z:=(Value.slice TA s.led.length tc).ownBlock) hbL with e|e
  ·have:=h19 b (by rw[h1];exact e);exact⟨this.1,Zb5 this.2 g2.size⟩
  ·have:=ho.lt b e;exact⟨this.1,by simpa using this.2⟩
 ·rcases ZLG (z:=(Value.slice TA s.led.length tc).ownBlock) hbL with e|e
  ·exact .inl (by rw[h1];exact e)
  ·exact(hb b e).imp (hwL b) id
end Go.Proofs.YtloidkmphigbdaaGreat
