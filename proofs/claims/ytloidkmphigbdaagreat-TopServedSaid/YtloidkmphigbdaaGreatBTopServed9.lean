import Derived.Lib.SlBytesConst
import Derived.Test.YtloidkmphigbdaaGreatBTopServed8
namespace Go.Proofs.YtloidkmphigbdaaGreat
open Tryz
set_option linter.all false
set_option maxHeartbeats 40000000
set_option maxRecDepth 100000
open Go.RowKit
variable {dr:Bool}{e q:Int}{ts:List Jp}{B xs:List Nat}{tk:List Xu}{L:List Zg}{rest:List Zy}{N base gc gd m n r tc:Nat}{xb:Nat->Nat}{v v':Nat->Value}{A:Option Addr}{W w w' w1 w2:World}{s s':XQ}{ks ks':Z9}{C C1 D F RO:Zhf}{rp:Zt}{c:Zy}{g:Zz}
theorem PL.gb{c:Nat}{cR:List (List Nat)}{T:Zhf}(h:PL w base A n c cR)(g:GB w w' T)(hT:∀b,T b->b<base):PL w' base A n c cR:=by
 obtain⟨h1,vs,gs,h2,h3,h4,h5,h6⟩:=h;refine⟨h1,vs,gs,g.own h2 (λb e t=>by have:=(h2.lt b e).1;have:=hT b t;omega),h3,h4,λb hb=>ZgB (h5 b hb) g.size,λi ps hi=>?_⟩;obtain⟨q,ci,k1,k2,k3⟩:=h6 i ps hi;exact⟨q,ci,k1,k2,g.own k3 (λb e t=>by have:=(k3.lt b e).1;have:=hT b t;omega)⟩
def ZEi (ws:List Nat):Nat:=if (Zp ws).2.2=true then 12 else 0
theorem ZH6 (ws):((ZEi ws:Nat):Int)=ZML ws:=by
 unfold ZEi ZML
 split<;>rfl
theorem Z3.fed{L:List (Option Nat)}(h:Z3 w base L RO gc r s): w.cell? ⟨gc,0,none⟩=some (.pointer (some ⟨r,0,none⟩))/\w.cell? ⟨gc,2,none⟩=some (.int .i64 (s.fin:Int))/\w.cell? ⟨gc,6,none⟩=some (.bool s.closed)/\(∃S,Xs w r s.ws s.cl S)/\gc≠r/\some r ∈ L/\ ∀(w1:World) (ws:List Nat) (cl:Bool) (S:Nat),w.grownBy w1 (some r)->S<=w1.heap.size->Xs w1 r ws cl (λb=>w.heap.size<=b/\b<S)->Z3 w1 base L (λb=>RO b\/(w.heap.size<=b/\b<S)) gc r {s with ws:=ws,cl:=cl}:=by
 obtain⟨S0,lv,ov,bW,lk,tk,WA,TA,wn,wc,tn,tc,h1,h2,h3,h4,h5,h6,h7,h8,h9,bD,bQ,bL,bP,bO,ei,eh,dj,h18,bK⟩:=h;have fK:=h2;rw[h1]at fK;obtain⟨a1,a2,a3,a4⟩:=ZCW fK;have wO:some r ∈ L:=by rw[h1];simp
 refine⟨ZE h3 0,ZE h3 2,ZE h3 6,⟨S0,h4⟩,a1,wO,λw1 ws cl S g1 hS hr=>?_⟩;have g:GB w w1 (· =r):=(GB.refl w _).grown g1 (λq e=>by injection e with e;exact .inl e.symm);have hR:∀b,RO b->¬b=r:=λb hb e=>(h18 b hb).1 (by rw[h1,e];simp);have EP:=(bK gc (by rw[h1];simp));refine⟨λb=>w.heap.size<=b/\b<S,lv,ov,bW,lk,tk,WA,TA,wn,wc,tn,tc,h1,h2,g.blk h3 a1,hr,λb hb=>.inr hb,h6,h7.gb g (λb e=>(a2 b e).2),h8.gbk h9 g hR,λk hk a e=>.inl (h9 k hk a e),?_,bQ,g.own bL (λb e=>(a3 b e).2.1),bP,bO,g.own ei (λb e=>(a4 b e).2.1),eh.gbk dj g hR,λk hk a e=>.inl (dj k hk a e),λb hb=>?_,λb hb=>⟨(bK b hb).1,ZgB (bK b hb).2 g.size⟩⟩
 ·have o1:=bD.gbk g hR;revert o1;cases s.out with
  |none=>exact id
  |some c=>
   rintro⟨o,k,e1,e2,e3,e4,e5,e6⟩;exact⟨o,k,e1,e2,e3,e4,.inl e5,λa e=>.inl (e6 a e)⟩
 ·rcases hb with hb|hb
  ·exact⟨(h18 b hb).1,(h18 b hb).2.1,ZgB (h18 b hb).2.2 g.size⟩
  ·exact⟨λe=>by have:=(bK b e).2;omega,by omega,by omega⟩
theorem Z3.lines{L:List (Option Nat)}(h:Z3 w base L RO gc r s): ∃(lv:Value) (bW:Option Nat) (lk:List Xu),w.cell? ⟨gc,1,none⟩=some lv/\w.frozen? ⟨gc,1,none⟩=false/\(∀b,bW=some b->some b ∈ L/\b≠gc)/\ZBz w 4 bW lv s.line.length (ZBX lk s.line)/\lk.length=s.line.length/\ ∀(w3:World) (v':Value) (du:Option Nat) (K:Option Addr) (kc:Nat) (c:Zy),ZBz w3 4 du v' (s.line.length+1) (ZBX lk s.line++ZCt (K,kc) c)->GB w w3 (λb=>bW=some b)->(∀b,du=some b->bW=some b\/w.heap.size<=b)-> c.key.length<=kc->Rd w3 K (ZT .u8 c.key)->(∀a,K=some a->some a.block ∉ L/\base<=a.block/\a.block<w.heap.size)-> Z3 (w3.setCell ⟨gc,1,none⟩ v') base ([some gc,some r,du]++L.drop 3) (λb=>RO b\/∃a,K=some a/\a.block=b) gc r {s with line:=s.line++[c]}/\GB w (w3.setCell ⟨gc,1,none⟩ v') (λb=>some b ∈ L)/\∀b,some b ∈ [some gc,some r,du]++L.drop 3->some b ∈ L\/w.heap.size<=b:=by
 obtain⟨S,lv,ov,bW,lk,tk,WA,TA,wn,wc,tn,tc,h1,h2,h3,h4,h5,h6,h7,h8,h9,bD,bQ,bL,bP,bO,ei,eh,dj,h18,bK⟩:=h;rw[h1]at h2;obtain⟨a1,a2,a3,a4⟩:=ZCW h2;have gQ:=(bK gc (by rw[h1];simp));have iF:∀b,bW=some b->some b ∈ L:=λb e=>by rw[h1,<-e];simp
 refine⟨lv,bW,lk,ZE h3 1,ZG h3 1,λb e=>⟨iF b e,(a2 b e).1⟩,h7,h6,λw3 v' du K kc c ho g hb cM dQ hK=>?_⟩;have g2:GB w (w3.setCell ⟨gc,1,none⟩ v') (λb=>b=gc\/bW=some b):=(g.more (λb _ e=>.inr e)).trans ((GB.refl w3 (· =gc)).set gc 1 _ (.inl rfl)) (λb e=>.inl (.inl e));have gs:GB w3 (w3.setCell ⟨gc,1,none⟩ v') (· =gc):=(GB.refl w3 (· =gc)).set gc 1 _ (.inl rfl);have hR:∀b,RO b->¬(b=gc\/bW=some b):=λb hb e=>(h18 b hb).1 (e.elim (λe=>by rw[h1,e];simp) (iF b));have bZ:=g.size;have ak:∀b,some b ∈ L->b<w.heap.size:=λb e=>(bK b e).2;have hnew:∀q,du=some q->q≠gc/\q≠r:=λq e=>(hb q e).elim (λe=>a2 q e) (λe=>⟨λe2=>by omega,λe2=>by have:=(bK r (by rw[h1];simp)).2;omega⟩);have gj:∀q,du=some q->(Value.slice WA wn wc).ownBlock≠some q/\(Value.slice TA tn tc).ownBlock≠some q:=λq e=>(hb q e).elim (λe=>⟨λe2=>(a3 q e2).2.2 e,λe2=>(a4 q e2).2.2.1 e⟩) (λe=>⟨λe2=>by have:=(bK q (by rw[h1,<-e2];simp)).2;omega,λe2=>by have:=(bK q (by rw[h1,<-e2];simp)).2;omega⟩);have uY:[some gc,some r,du]++L.drop 3=[some gc,some r,du,(Value.slice WA wn wc).ownBlock,(Value.slice TA tn tc).ownBlock]:=by rw[h1];rfl
 have bz:∀b,some b ∈ [some gc,some r,du]++L.drop 3->some b ∈ L\/w.heap.size<=b:=λb hb'=>by
  rw[uY]at hb';rcases ZfO.1 hb' with e|hb'
  ·exact .inl (by rw[e,h1];simp)
  ·rcases ZfO.1 hb' with e|hb'
   ·exact .inl (by rw[e,h1];simp)
   ·rcases ZfO.1 hb' with e|hb'
    ·exact(hb b e.symm).imp (iF b) id
    ·exact .inl (by rw[h1];exact ZfP _ (ZfP _ (ZfP _ hb')))
 have Fe:∀a,K=some a->¬a.block=gc:=λa e e2=>(hK a e).1 (by rw[e2,h1];simp);have uZ:∀a,K=some a->¬(some a.block ∈ [some gc,some r,du]++L.drop 3):=λa e e2=>(bz _ e2).elim (hK a e).1 (λe3=>by have:=(hK a e).2.2;omega);refine⟨?_,g2.more (λb _ e=>e.elim (λe=>by rw[h1,e];simp) (iF b)),bz⟩;refine⟨S,v',ov,du,lk++[(K,kc)],tk,WA,TA,wn,wc,tn,tc,uY,?_,ZR (g.blk h3 (λe=>(a2 gc e).1 rfl)) 1 _,Xs.gb h4 g2 (λe=>e.elim (λe=>a1 e.symm) (λe=>(a2 r e).2 rfl)) (λb hb=>hR b (h5 b hb)),λb hb=>.inl (h5 b hb),by simp[h6],?_,?_,?_,?_,bQ,g2.own bL (λb e e2=>e2.elim (λe2=>(a3 b e).1 e2) (λe2=>(a3 b e).2.2 e2)),bP,bO,g2.own ei (λb e e2=>e2.elim (λe2=>(a4 b e).1 e2) (λe2=>(a4 b e).2.2.1 e2)),eh.gbk dj g2 hR,λk hk a e=>.inl (dj k hk a e),λb gB=>?_,λb jC=>?_⟩
 ·rw[uY];exact ZB8 a1 hnew (λq e=>⟨(a3 q e).1,(a3 q e).2.1,λe2=>(gj q e2).1 e⟩) (λq e=>⟨(a4 q e).1,(a4 q e).2.1,(λe2=>(gj q e2).2 e),(a4 q e).2.2.2⟩)
 ·rw[ZfE];have:=ho.gb gs (λb e=>(hnew b e).1);unfold ZBX at this ⊢;rw[ZDs ZCt h6 (K,kc) c];exact this
 ·refine(h8.gbk h9 g2 hR).snoc h6 cM (gs.rd dQ Fe)
 ·intro k hk a e;rcases ZfN.1 hk with hk|hk
  ·exact .inl (h9 k hk a e)
  ·rw[Zfa.1 hk]at e;exact .inr ⟨a,e,rfl⟩
 ·have o1:=bD.gbk g2 hR;revert o1;cases s.out with
  |none=>exact id
  |some c=>
   rintro⟨o,k,e1,e2,e3,e4,e5,e6⟩;exact⟨o,k,e1,e2,e3,e4,.inl e5,λa e=>.inl (e6 a e)⟩
 ·rcases gB with gB|⟨a,e1,e2⟩
  ·refine⟨λe=>(bz b e).elim (h18 b gB).1 (λe=>by have:=(h18 b gB).2.2;omega),(h18 b gB).2.1,ZgB (h18 b gB).2.2 g2.size⟩
  ·subst e2;exact⟨uZ a e1,(hK a e1).2.1,ZgB (hK a e1).2.2 g2.size⟩
 ·rcases ZfO.1 (show some b ∈ some gc::some r::du::L.drop 3 from jC)with e|hbL'
  ·injection e with e;subst e;exact⟨gQ.1,ZgB gQ.2 g2.size⟩
  ·rcases bz b jC with e|e
   ·exact⟨(bK b e).1,ZgB (bK b e).2 g2.size⟩
   ·refine⟨by omega,?_⟩;rw[World.size_setCell];rw[uY]at jC;rcases ZfO.1 hbL' with e1|hbL'
    ·injection e1 with e1;subst e1;have:=ak b (by rw[h1];simp);omega
    ·rcases ZfO.1 hbL' with e1|hbL'
     ·exact ho.lt b e1.symm
     ·have:some b ∈ L:=ZfV hbL';have:=ak b this;omega
theorem Z3.setFin{L:List (Option Nat)}(h:Z3 w base L RO gc r s)(e:Nat): Z3 (w.setCell ⟨gc,2,none⟩ (.int .i64 e)) base L RO gc r {s with fin:=e}/\GB w (w.setCell ⟨gc,2,none⟩ (.int .i64 e)) (λb=>some b ∈ L):=by
 obtain⟨V3,_⟩:=QA;exact Qw
theorem ZEe (y:List Nat):∀(l:List Zy) (xs:List (List Nat)),(Z1 l xs).2=false->Z1 l (xs++[y])=match ZCF y with|some c=>((Z1 l xs).1++[c],false)|none=>((Z1 l xs).1,true)
 |l,[],_=>by
  rw[Zfb,Z1];cases hd:ZCF y<;>simp[Z1,hd]
 |l,x::xs,h=>by
  rw[Zen];unfold Z1 at h ⊢;cases hx:ZCF x with
  |none=>rw[hx]at h;cases h
  |some c=>
   rw[hx]at h
   dsimp only at h ⊢
   exact ZEe y (l++[c]) xs h
theorem ZHb (ys:List (List Nat)):∀(l:List Zy) (xs:List (List Nat)),(Z1 l xs).2=true->Z1 l (xs++ys)=Z1 l xs
 |l,[],h=>by cases h
 |l,x::xs,h=>by
  rw[Zen];unfold Z1 at h ⊢;cases hx:ZCF x with
  |none=>rfl
  |some c=>
   rw[hx]at h
   dsimp only at h ⊢
   exact ZHb ys (l++[c]) xs h
theorem ZI8:∀(l:List Zy) (xs:List (List Nat)),(Z1 l xs).1.length<=l.length+xs.length
 |l,[]=>by unfold Z1;simp
 |l,x::xs=>by
  unfold Z1;cases hx:ZCF x with
  |none=>simp
  |some c=>
   have:=ZI8 (l++[c]) xs;simp only[ZfE,ZfF,ZfJ]at this ⊢;omega
noncomputable def ZF0 (s:XQ)(al:List Nat):XQ:={s with ws:=Jc al,cl:=(Zp al).2.2,line:=(Z1 s.line (Zp al).1).1,fin:=if (Z1 s.line (Zp al).1).2=true then 3 else ZEi al}
theorem ZKf (w base gc r)(L:List (Option Nat))(RO)(s:XQ)(h:Z3 w base L RO gc r s)(hc:s.closed=true\/s.fin≠0)(A n c): Calls prog 59 #[.pointer (some ⟨gc,0,none⟩),.slice A n c] w λe w'=>e=.returned (.int .i64 13)/\w=w':=by
 obtain⟨-,c2,c6,-⟩:=h.fed;obtain⟨cl,hcl⟩:=ZX3 (s.closed);rw[hcl]at hc c6;clear h hcl;cases cl with
 |true=>
  clear hc;go_enter func59,ntmps59;go_wp2_with fail;go_ret;exact⟨rfl,rfl⟩
 |false=>
  have hf:¬s.fin=0:=hc.elim (λe=>by cases e) id;have ag:((s.fin:Int) !=0)=true:=by simpa using hf
  clear hc hf;go_enter func59,ntmps59;go_wp2_with fail;go_ret;exact⟨rfl,rfl⟩
theorem Yk.trans{L:List (Option Nat)}{s2:XQ}(h:Yk w base L RO gc r s w1)(k:∀L1 RO1,Z3 w1 base L1 RO1 gc r s->Yk w1 base L1 RO1 gc r s2 w2):Yk w base L RO gc r s2 w2:=by
 obtain⟨L1,RO1,h1,h2,h3,h4⟩:=h;exact Jn h2 h3 h4 (k L1 RO1 h1)
theorem ZOF{S:Zhf}{i:Nat}{v:Value}(g:GB w w' S)(h:w.cell? ⟨gc,i,none⟩=some v)(hf:w.frozen? ⟨gc,i,none⟩=false)(hn:¬S gc):w'.frozen? ⟨gc,i,none⟩=false:=by
 have hb:=g.block gc (ZgT w _ h) hn;unfold World.frozen? at hf ⊢;simp only[hb];exact hf
def ZXW (w:World)(base:Nat)(L:List (Option Nat))(RO:Zhf)(gc r:Nat)(s:XQ)(al:List Nat)(e:Ending)(w':World):Prop:=e=.returned (.int .i64 0)/\Yk w base L RO gc r (ZF0 s al) w'
theorem ZOa (w base gc r)(L:List (Option Nat))(RO)(s:XQ)(h:Z3 w base L RO gc r s)(hi:ZB0 s)(hc:s.closed=false)(hf:s.fin=0)(hcl:s.cl=false)(A n c)(xs:List Nat)(hl:xs.length=n)(hb:∀x ∈ xs,x<256)(hr:Rd w A (ZT .u8 xs))(hN:s.ws.length+n<=5000000000000)(hP:s.line.length+(Zp (s.ws++xs)).1.length<=1000000): Calls prog 59 #[.pointer (some ⟨gc,0,none⟩),.slice A n c] w (ZXW w base L RO gc r s (s.ws++xs)):=by
 obtain⟨c0,c2,c6,⟨S,bB⟩,lR,wO,fed⟩:=h.fed;have B:=h.bounds;rw[hc]at c6;rw[hf]at c2;rw[hcl]at bB;have FD:=ZA (ZRG w r S s.ws A n c xs bB hi.1 hl hb hr hN);have xZ:∀x ∈ s.ws++xs,x<256:=λx hx=>(ZfN.1 hx).elim (hi.1 x) (hb x);obtain⟨al,Hal⟩:=ZX2 (s.ws++xs);rw[Hal.o]at FD hP xZ ⊢;obtain⟨-,-,hps⟩:=ZBh (al.length+1) al ZB;have Ig:=ZA (show ∀ps ∈ (Zp al).1,ps.length<=4096/\∀x ∈ ps,x<256 from λps h=>⟨(hps ps h).1,λx hx=>xZ x ((hps ps h).2 x hx)⟩);obtain⟨I6,BB,H⟩:=Z8 fed B h;clear h bB hi hb hr hl fed B hps xZ hc hf hcl;go_enter func59,ntmps59;go_wp2_with fail;refine FD.o.mono ?_;intro e w1 hF;obtain⟨S1,A1,n1,c1,rfl,de,Fa,hP1,Bf,bE⟩:=ZRH hF;have bg:=I6.o w1 _ _ S1 bE Fa.2 Bf;have g1:GB w w1 (λb=>some b ∈ L):=(GB.refl w _).grown bE (λq e=>by injection e with e;exact .inl (by rw[<-e];exact wO));obtain⟨en,Hen⟩:∃en,ZD (ZML al=((en:Nat):Int)/\ZEi al=en):=⟨ZEi al,(ZH6 al).symm,rfl⟩;rw[Hen.o.1];have ak:∀b,some b ∈ L->b<S1:=λb e=>by have:=(BB.o.2.1 b e).2;omega
 obtain⟨ib,G1,j6,aM,mP⟩:=ZBR bg g1 hP1 ak de;have hsl:s.line.length+n1<=1000000:=by rw[<-de];exact hP
 have ru:=(bg.cells);clear hF Bf bE bg g1 hP1 ak c0 c2 c6 ru hP de;go_wp2_with fail
 go_loopw [37] (λi wr=>∃k:Nat,k<=n1/\i=.int .i64 k/\(Z1 s.line ((Zp al).1.take k)).2=false/\Yk w1 base L (λb=>RO b\/(w.heap.size<=b/\b<S1)) gc r {s with ws:=Jc al,cl:=(Zp al).2.2,line:=(Z1 s.line ((Zp al).1.take k)).1} wr) (λi _=>n1 - (intOf i).toNat)
 case atStart=>exact⟨0,ZgR _,rfl,by rw[Zfs];rfl,by rw[Zfs];exact Yk.refl ib.o (ZM.refl _)⟩
 case round=>
  obtain⟨k,hk,rfl,eZ,aE⟩:=hrel;by_cases ak:k<n1
  ·obtain⟨ys,hys⟩:∃ys,(Zp al).1[k]?=some ys:=⟨_,Ze4 (by rw[mP.o];exact ak)⟩;obtain⟨L2,n7,k1,k2,k3,k4⟩:=aE;have ed:=j6.o.gb k2 aM.o;obtain⟨b,off,Ai,ci,hA,d0,xL,bB⟩:=ed.rd.at_ hys;obtain⟨ga,eI⟩:=Ig.o ys (ZfU hys);have HT:=ZA (Zv hys);have AI:=ZI8 s.line ((Zp al).1.take k);have xl:(Z1 s.line ((Zp al).1.take k)).1.length<=1000000:=by rw[ZfL]at AI;omega
   have HB:=ZA eZ;subst hA;obtain⟨K1,K2,K3,K4⟩:=ZAU k1 k2 k3 k4;obtain⟨m,Hm⟩:=ZX2 (ys.length);rw[Hm.o]at d0 xL ga;obtain⟨Mc,gE,B0⟩:=Z8 hys bB eI;clear eZ k1 k2 k3 k4 ed bB hys eI AI;cases hd:ZCF ys with
   |none=>
    have RQ:=ZA (ZFB wr Ai m ci ys Hm.o ga xL B0.o gE.o (ZJa hd));have HD:=ZA hd;clear hd;go_wp2_with fail;refine RQ.o.mono ?_;rintro e w2 ⟨rfl,x2⟩;obtain⟨-,-,-,-,d2,-,-,fz,-,kS⟩:=(K1.o.ext x2).cells;have f2:=fz 2;have X2:=ZA x2;clear fz x2 d0;go_wp2_with fail;go_ret;refine⟨rfl,?_⟩;have js:=(K1.o.ext X2.o).setFin 3;have xB:=(ZM.refl (w2.setCell ⟨gc,2,none⟩ (.int .i64 3))).alloc (.cells #[.int .u8 0,.int .i64 0,.slice none 0 0,.int .i64 0] 34);have hs:=And.intro (js.1.ext xB) (js.2.ext xB);refine Jn G1.o (λb e=>.inl e) (λb e=>e.elim .inl (λe=>.inr (.inr e.1))) (Jn K2.o K3.o K4.o (s2:=ZF0 s al) ⟨L2,n7,?_,GB.back X2.o hs.2,λb e=>.inl e,λb e=>.inl e⟩);have e1:=ZEe ys s.line _ HB.o;rw[<-HT.o,HD.o]at e1
    dsimp only at e1
    have e2:=ZHb ((Zp al).1.drop (k+1)) s.line ((Zp al).1.take (k+1)) (by rw[e1]);rw[Zfl,e1]at e2;unfold ZF0;rw[e2];exact hs.1
   |some c=>
    obtain⟨hn,he⟩:=ZCq hd;have RQ:=ZA (ZHa wr Ai m ci ys c.key c.op c.pol c.num Hm.o ga xL B0.o gE.o ⟨hn,by rw[Zek];exact he,λ_=>rfl⟩);have HD:=ZA hd;clear hd hn he;go_wp2_with fail;refine RQ.o.mono ?_;rintro e w2 ⟨Ak,kc,rfl,ik,x2⟩;obtain⟨op,pol,key,num⟩:=c
    dsimp only at ik RQ ⊢
    obtain⟨kl,Hkl⟩:=ZX2 (key.length);have lP:w2.ownsRow wr.heap.size 5 1 (.slice Ak kl kc) kl (ZT .u8 key):=by rw[<-Hkl.o];exact ik
    rw[Hkl.o];obtain⟨X,hX,xX,KX⟩:=Za w2 (.cells #[.int .u8 op,.int .i64 pol,.slice Ak kl kc,.int .i64 num] 34);have xw:=x2.trans xX;obtain⟨lv,bW,lk,c1,f1,hlob,iK,dE,step⟩:=(K1.o.ext xw).lines
    dsimp only at iK dE step
    obtain⟨q,Hq⟩:=ZX2 ((Z1 s.line ((Zp al).1.take k)).1.length);have xk:q<=1000000:=by rw[<-Hq.o];exact xl
    rw[Hq.o]at iK dE step;obtain⟨ao,cap,rfl,-,-,-⟩:=iK.shape;have bZ:=x2.size;have wj:∀b,bW=some b->b<wr.heap.size:=λb e=>(K1.o.bounds.2.1 b (hlob b e).1).2;have zZ:¬bW=some gc:=λe=>(hlob gc e).2 rfl;have iC:¬bW=some w2.heap.size:=λe=>by have:=wj _ e;omega
    obtain⟨XW,OFF,Mf,gZ,ui,XX⟩:=Ju xw iK dE step lP xX;obtain⟨Io,X2,Gi,C1⟩:=ZAU hlob x2 wj c1;clear ik lP x2 xX xw iK dE step d0 hlob wj;go_upto_region 10 with fail
    (try rw[hX])
    clear hX;have u0:=ZX1 KX.o 0 (.int .u8 op);have u1:=ZX1 KX.o 1 (.int .i64 pol);have u2:=ZX1 KX.o 2 (.slice Ak kl kc);have u3:=ZX1 KX.o 3 (.int .i64 num);go_upto_region 13 with fail;refine JK (λu=>u.cell? ⟨gc,1,none⟩=some (.slice ao q cap)/\u.cell? ⟨w2.heap.size,0,none⟩=some (.int .u8 op)/\u.cell? ⟨w2.heap.size,1,none⟩=some (.int .i64 pol)/\u.cell? ⟨w2.heap.size,2,none⟩=some (.slice Ak kl kc)/\u.cell? ⟨w2.heap.size,3,none⟩=some (.int .i64 num)) [10] ZC ?_;have ae:=And.intro (ZJ c1) (And.intro (ZJ u0) (And.intro (ZJ u1) (And.intro (ZJ u2) (ZJ u3))));have XD:ZM X X.drew:=(ZM.refl X).drew;clear u0 u1 u2 u3 c1;generalize X.drew=U at XD ae ⊢;refine ZX4 (i:=0) (v:=?_) rfl (Or.inl ⟨by rfl,?_⟩) (YI.of ae) ?_
    rotate_left
    ·intro w _;go_simp
     (try with_reducible rfl)
    (try simp only[Act.put])
    refine ZX4 (i:=1) (v:=?_) rfl (Or.inl ⟨by rfl,?_⟩) (YI.of ae) ?_
    rotate_left
    ·intro w _;go_simp
     (try with_reducible rfl)
    (try simp only[Act.put])
    refine ZX4 (i:=2) (v:=?_) rfl (Or.inl ⟨by rfl,?_⟩) (YI.of ae) ?_
    rotate_left
    ·intro w _;go_simp
     (try with_reducible rfl)
    (try simp only[Act.put])
    refine ZX4 (i:=3) (v:=?_) rfl (Or.inl ⟨by rfl,?_⟩) (YI.of ae) ?_
    rotate_left
    ·intro w _;go_simp
     (try with_reducible rfl)
    (try simp only[Act.put])
    refine ZX5 (i:=4) (v:=?_) rfl (Or.inl ⟨by rfl,?_⟩) (by assumption) ?_
    rotate_left
    ·intro w aL;(try dsimp only at aL);go_simp
     (try with_reducible rfl)
    (try simp only[Act.put])
    refine ZX5 (i:=5) (v:=?_) rfl (Or.inl ⟨by rfl,?_⟩) (by assumption) ?_
    rotate_left
    ·intro w aL;(try dsimp only at aL);go_simp
     (try with_reducible rfl)
    (try simp only[Act.put])
    refine ZY (rs:=[6]) ZC ZXz (ZN.cons (o:=_) rfl (λK' hK=>?_) ZN.nil);have q1:=ae.1;have u0:=ae.2.1;have u1:=ae.2.2.1;have u2:=ae.2.2.2.1;have u3:=ae.2.2.2.2
    go_simp
    have yU:ZM U (U.alloc (.cells #[.int .u8 op,.int .i64 pol,.slice Ak kl kc,.int .i64 num] 34)):=(ZM.refl U).alloc _;have yX:=XD.trans yU;refine hK.out _ _ ⟨ZF yU q1,ZF yU u0,ZF yU u1,ZF yU u2,ZF yU u3⟩ ?_;clear hK K'
    (try simp only[Act.put])
    have d1:=ZF yU q1;have e0:=ZF yU u0;have e1:=ZF yU u1;have e2:=ZF yU u2;have e3:=ZF yU u3;have FF:=Jf yX C1.o f1;have nx:=ZV U (.cells #[.int .u8 op,.int .i64 pol,.slice Ak kl kc,.int .i64 num] 34)
    have NX:=ZA (show ∀j u,[Value.int .u8 op,.int .i64 pol,.slice Ak kl kc,.int .i64 num][j]?=some u->(U.alloc (.cells #[.int .u8 op,.int .i64 pol,.slice Ak kl kc,.int .i64 num] 34)).cell? ((⟨U.heap.size,0,none⟩:Addr).add j)=some u from λj u hu=>by
     rw[ZeS,ZgQ];exact(ZE nx j).trans (by rw[<-hu];simp))
    clear nx q1 u0 u1 u2 u3;refine ZY (rs:=[7]) ZC ZXz (ZN.cons (o:=_) rfl (λK' hK=>?_) ZN.nil);refine ZIY (U.alloc (.cells #[.int .u8 op,.int .i64 pol,.slice Ak kl kc,.int .i64 num] 34)) rfl (.tmp 55) (.tmp 57) rfl ZX0 (OFF.o.ext yX) xk ZX0 rfl NX.o (λu hu=>by simp at hu;rcases hu with rfl|rfl|rfl|rfl<;>rfl) ?_;intro v' w6 du o6 g6 b6;obtain⟨va,vc,rfl,-,-,-⟩:=o6.shape;have q1:=g6.cell d1 zZ;have u0:=g6.cell e0 iC;have u1:=g6.cell e1 iC;have u2:=g6.cell e2 iC;have u3:=g6.cell e3 iC;have F1:=ZOF g6 d1 FF zZ;obtain⟨O6,G6,B6⟩:=Z8 o6 g6 b6;clear o6 g6 b6;refine hK.out _ _ ⟨q1,u0,u1,u2,u3⟩ ?_;clear hK K'
    (try simp only[Act.put])
    refine ZY (rs:=[8]) ZC ZXz (ZN.cons (o:=_) rfl (λK' hK=>?_) ZN.nil)
    go_simp
    refine hK.out _ _ ⟨q1,u0,u1,u2,u3⟩ ?_;clear hK K'
    (try simp only[Act.put])
    refine ZY (rs:=[9]) ZC ZXz (ZN.cons (o:=_) rfl (λK' hK=>?_) ZN.nil)
    go_simp
    refine hK.out _ _ ⟨q1,u0,u1,u2,u3⟩ ?_;clear hK K'
    (try simp only[Act.put])
    refine ZY (rs:=[10]) ZC ZXz (ZN.last (o:=_) ZC rfl (λK' hK=>?_) ZN.nil)
    go_simp
    refine hK.out _ _ ?_;clear hK K'
    (try simp only[Act.put])
    refine JL ZC ?_ _;have vj:=ZEe ys s.line _ HB.o;rw[<-HT.o,HD.o]at vj
    dsimp only at vj
    have RD:=ZA vj;clear vj;go_wp2_with fail
    go_roundw
    case rel=>
     have Bs:GB X w6 (λb=>bW=some b):=((GB.refl X _).ext yX).trans G6.o (λb e=>.inl e);have xp:Rd w6 Ak (ZT .u8 key):=Bs.rd ((Rd.of_own ui.o).ext XX.o) (λa e e2=>by have:=(ui.o.lt a.block (by rw[e];rfl)).1;have:=Gi.o _ e2;omega)
     obtain⟨m1,m2,m3⟩:=gZ.o w6 (.slice va (q+1) vc) du Ak kc ⟨op,pol,key,num⟩ (by show ZBz _ _ _ _ _ (_++[_,_,Value.slice _ key.length _,_]);rw[Hkl.o];exact O6.o) Bs (λb e=>by
      rcases B6.o with h9|h9
      ·exact .inl (h9 ▸ e)
      ·rw[h9]at e;injection e with e;exact .inr (by rw[<-e];exact yX.size)) (by dsimp only;rw[Hkl.o];exact YR ui.o) xp (λa e=>by
      have nI:=ui.o.lt a.block (by rw[e];rfl);have hB:=K1.o.bounds;refine⟨λe2=>by have:=(hB.2.1 _ e2).2;omega,?_,ZgB nI.2 XX.o.size⟩;have:=hB.2.1 gc hB.1;omega)
     refine⟨k+1,ak,by go_num,by rw[RD.o],Jn K2.o K3.o K4.o ⟨_,_,?_,GB.back XW.o m2,λb e=>(m3 b e).imp id (λe=>Zf8 XW.o.size e),λb e=>(show n7 b\/∃a,Ak=some a/\a.block=b from e).imp id ?_⟩⟩
     ·rw[RD.o];exact m1
     ·rintro⟨a,ea,eb⟩;have:=(ui.o.lt a.block (by rw[ea];rfl)).1;exact .inr ZB
    case measure=>simp[intOf];omega
  ·obtain rfl:k=n1:=by omega
   have HB:=ZA eZ;have i6:=ZA aE;rw[Zfp (by rw[mP.o];exact Zf6 _)]at HB i6;clear eZ aE;obtain⟨L2,n7,k1,k2,k3,k4⟩:=i6.o;obtain⟨-,-,-,-,d2,-,-,fz,-⟩:=k1.cells;have f2:=fz 2;clear k1 k2 k3 k4 fz;go_wp2_with fail;go_ret;refine⟨rfl,?_⟩;refine Jn G1.o (λb e=>.inl e) (λb e=>e.elim .inl (λe=>.inr (.inr e.1))) (Yk.trans i6.o λL1 RO1 k1=>?_);have SF:=k1.setFin en;refine⟨L1,RO1,?_,SF.2,λb e=>.inl e,λb e=>.inl e⟩;unfold ZF0;rw[Zgk (by rw[HB.o];exact ZeZ),Hen.o.2];exact SF.1
theorem ZI4 (op p N xs):1<=(JN op p xs N).length:=by
 unfold JN
 split
 ·simp
 ·split
  ·simp
  ·simp
theorem ZI5{op p:Nat}(h:xs.length<=255):(JN op p xs N).length<=1000:=by
 unfold JN
 split
 ·rw[ZfF,ZA6];omega
 ·split
  ·simp
  ·simp only[ZfF,ZfE]
   split
   ·rw[Z4];omega
   ·simp;omega
def ZUE (F:Option (List Nat))(w:World)(e:Ending)(w':World):Prop:=match F with
 |none=>e=.returned (.slice none 0 0)/\ZM w w'
 |some L=>∃g c,e=.returned (.slice (some ⟨g,0,none⟩) L.length c)/\w'.ownsRow w.heap.size 5 1 (.slice (some ⟨g,0,none⟩) L.length c) L.length (ZT .u8 L)/\ZM w w'
def ZXt (op:Nat)(p:Int)(xs:List Nat)(N:Int)(F:Option (List Nat)):Prop:=(F=none/\∀P M:Nat,(op<5->p=(P:Int))->(op=1\/op=3->N=(M:Int))->¬ZBZ op P xs M)\/ ∃P M:Nat,(op<5->p=(P:Int))/\(op=1\/op=3->N=(M:Int))/\ZBZ op P xs M/\F=some (Js (JN op P xs M).length++JN op P xs M)
theorem ZRX:ZB0 ZET:=⟨(λx h=>by cases h),(λc h=>by cases h),(λc h=>by cases h),(λx h=>by cases h),(λt h=>by cases h)⟩
theorem ZHc:∀(l:List Zy) (xs:List (List Nat)),(∀c ∈ l,ZBr c.op c.pol c.key c.num)->∀c ∈ (Z1 l xs).1,ZBr c.op c.pol c.key c.num
 |l,[],h=>h
 |l,x::xs,h=>by
  unfold Z1;cases hx:ZCF x with
  |none=>exact h
  |some c=>
   refine ZHc (l++[c]) xs λd hd=>?_;rcases ZfN.1 hd with hd|hd
   ·exact h d hd
   ·rw[Zfa.1 hd];exact(ZCq hx).1
theorem ZTk(h:ZB0 s)(hb:∀x ∈ xs,x<256):ZB0 (ZF0 s (s.ws++xs)):=by
 obtain⟨h1,h2,h3,h4,h5⟩:=h;refine⟨λx hx=>?_,ZHc s.line _ h2,h3,h4,h5⟩;exact(ZfN.1 ((ZGI _).2 x hx)).elim (h1 x) (hb x)
theorem ZJe(h:ZB0 s)(hl:s.line=c::rest):ZB0 {s with line:=rest,out:=some c}:=by
 obtain⟨h1,h2,h3,h4,h5⟩:=h;refine⟨h1,λd hd=>h2 d (by rw[hl];exact ZfP _ hd),λd hd=>?_,h4,h5⟩;injection hd with hd;rw[<-hd];exact h2 c (by rw[hl];exact ZfQ)
theorem ZR5 (ns):∀x ∈ ZCc ns,x<256:=λx hx=>by
 obtain⟨n,_,h⟩:=ZfS.1 hx;exact JM n 8 x h
theorem ZKA{g:Bool}{N:List Int}(h:ZDr e g N q B):∀x ∈ B,x<256:=λx hx=>by
 rcases h with⟨_,h,_⟩|⟨_,h1,h2,ns,_,h⟩
 ·rw[h]at hx;cases hx
 ·rw[h]at hx;rcases ZfO.1 hx with hx|hx
  ·omega
  ·rcases ZfO.1 hx with hx|hx
   ·rw[hx];cases g<;>simp[ZER]
   ·exact ZR5 ns x hx
theorem ZGo{g:Bool}{N:List Int}(h:ZDr e g N 0 B):B.length=34:=by
 rcases h with⟨h,_⟩|⟨_,h1,h2,ns,h3,h⟩
 ·cases h
 ·rw[h,ZDT,h3.1]
theorem ZO7{g:Bool}{N:List Int}(hN:N.length=4){q':Int}{B':List Nat}(h:ZDr e g N q B)(h':ZDr e g N q' B'):q=q'/\B=B':=by
 have key:∀{ns:List Nat},ZF5 N 4 ns->∀x ∈ N,okN x:=λ{ns} h x hx=>by
  obtain⟨h1,h2,h3⟩:=h;rw[Zfp (by rw[hN];exact Zf6 _)]at h2;rw[<-h2]at hx;obtain⟨y,hy,rfl⟩:=ZfT.1 hx;have:=h3 y hy;unfold okN;omega
 rcases h with⟨h1,h2,h3⟩|⟨h1,h2,h3,ns,h4,h5⟩
 ·rcases h' with⟨k1,k2,k3⟩|⟨k1,k2,k3,ns',k4,k5⟩
  ·exact⟨by rw[h1,k1],by rw[h2,k2]⟩
  ·exact absurd ⟨k2,k3,key k4⟩ h3
 ·rcases h' with⟨k1,k2,k3⟩|⟨k1,k2,k3,ns',k4,k5⟩
  ·exact absurd ⟨h2,h3,key h4⟩ k3
  ·refine⟨by rw[h1,k1],?_⟩;have e1:ns=ns':=by
    have e2:=h4.2.1.trans k4.2.1.symm;exact(List.map_inj_right (λx y e=>Int.ofNat.inj e)).1 e2
   rw[h5,k5,e1]
theorem ZOX(h:ZB0 s)(q)(hB:∀x ∈ B,x<256):ZB0 (XK s q B):=by
 obtain⟨h1,h2,h3,h4,h5⟩:=h;unfold XK
 split
 ·refine⟨h1,h2,h3,λx hx=>?_,h5⟩;rcases ZfN.1 hx with hx|hx
  ·exact h4 x hx
  ·exact(ZfN.1 hx).elim (ZKQ _ x) (hB x)
 ·exact⟨h1,h2,h3,h4,h5⟩
theorem ZFR(h:ZB0 s)(ho:s.out=some c)(e sn)(hB:∀x ∈ B,x<256):ZB0 (YJ s c e sn B):=by
 have hc:=(h.2.2.1 c ho).2.1;have hl:=h.2.2.2.2;obtain⟨h1,h2,h3,h4,h5⟩:=ZOX h 0 hB;rw[ZBN]at h5;unfold YJ
 split
 ·split
  ·refine⟨h1,h2,(λd hd=>by cases hd),h4,λt ht=>?_⟩;rcases ZfN.1 ht with ht|ht
   ·exact hl t ht
   ·rw[Zfa.1 ht];exact hc
  ·split
   ·refine⟨h1,h2,(λd hd=>by cases hd),h4,λt ht=>?_⟩
    dsimp only at ht
    split at ht
    ·exact hl t ht
    ·exact hl t (ZfW ht)
   ·exact⟨h1,h2,(λd hd=>by cases hd),h4,by dsimp only;rw[ZBN];exact hl⟩
 ·exact⟨h1,h2,(λd hd=>by cases hd),h4,by dsimp only;rw[ZBN];exact hl⟩
theorem ZEA(h:ZB0 s):ZB0 {s with wr:=[]}:=⟨h.1,h.2.1,h.2.2.1,(λx hx=>by cases hx),h.2.2.2.2⟩
theorem ZJf(h:ZB0 s):ZB0 (ZDe s):=⟨h.1,(λx hx=>by cases hx),h.2.2.1,h.2.2.2.1,h.2.2.2.2⟩
def ZXy (s:XQ):Prop:=s.ws=[]/\s.cl=false/\s.line=[]/\s.fin=0/\s.out=none/\s.closed=false/\s.hung=false
theorem ZQM(h:ZBr c.op c.pol c.key c.num):c.key.length<=255/\1<=(JN c.op c.pol c.key c.num).length/\(JN c.op c.pol c.key c.num).length<=1000/\(∀x ∈ JN c.op c.pol c.key c.num,x<256):=by
 have hk:c.key.length<=255:=by
  by_cases h5:5<=c.op
  ·rw[(h.2.2.1 h5).2.1];simp
  ·exact(h.1.2.2.1 ZB).2
 exact⟨hk,ZI4 _ _ _ _,ZI5 hk,ZJ9 h.1 h.2.1⟩
structure Jj where
 cn:Option XQ
 st:Nat
 wr:List Nat
 rel:Bool
 toks:List Jp
 looked:Bool
variable {l l':Jj}{ls:Nat->Jj}
def lnZ:Jj:=⟨none,0,[],false,[],false⟩
def ZXx (w:World)(D:Zhf)(v0:Value)(Lb:List (Option Nat))(wb:Option Nat):Option XQ->Prop
 |none=>v0=.pointer none/\Lb=[]
 |some s=>∃base gc r RO,v0=ZH gc/\Z3 w base Lb RO gc r s/\∀b,RO b->D b/\wb≠some b
def Jz (w:World)(D:Zhf)(v:Nat->Value)(l:Jj):Prop:=∃(WA TA:Option Addr) (wc tc:Nat) (tk:List Xu) (Lb:List (Option Nat)) (T:Zhf),v 1=.int .i64 (l.st:Int)/\v 2=.slice WA l.wr.length wc/\v 3=.bool l.rel/\v 4=.slice TA l.toks.length tc/\v 5=.bool l.looked/\ w.ownsRow 0 5 1 (.slice WA l.wr.length wc) l.wr.length (ZT .u8 l.wr)/\(∀q,(Value.slice WA l.wr.length wc).ownBlock=some q->D q/\some q ∉ Lb/\¬T q)/\ l.toks.length<=tc/\ZEU w TA l.toks tk/\(∀a,TA=some a->T a.block)/\(∀k ∈ tk,ZGc T k)/\(∀b,T b->D b/\some b ∉ Lb)/\(∀b,some b ∈ Lb->D b)/\ ZXx w D (v 0) Lb (Value.slice WA l.wr.length wc).ownBlock l.cn
theorem Jz.gb{S:Zhf}(h:Jz w D v l)(g:GB w w' S)(hS:∀i,D i->¬S i):Jz w' D v l:=by
 obtain⟨WA,TA,wc,tc,tk,Lb,T,h1,h2,h3,h4,h5,h6,h7,h8,h9,bD,bQ,bL,bP,bO⟩:=h;have hT:∀b,T b->¬S b:=λb hb=>hS b (bL b hb).1;refine⟨WA,TA,wc,tc,tk,Lb,T,h1,h2,h3,h4,h5,g.own h6 (λq e=>hS q (h7 q e).1),h7,h8,⟨h9.1,g.rd h9.2.1 (λa ha=>hT _ (bD a ha)),h9.2.2.gbk bQ g hT⟩,bD,bQ,bL,bP,?_⟩;cases hc:l.cn with
 |none=>rw[hc]at bO;exact bO
 |some s=>
  rw[hc]at bO;obtain⟨base,gc,r,RO,e1,e2,e3⟩:=bO;exact⟨base,gc,r,RO,e1,e2.gb g (λb hb=>⟨λe=>hS b (bP b e) hb,λe=>hS b (e3 b e).1 hb⟩),e3⟩
theorem Jz.ext(h:Jz w D v l)(x:ZM w w'):Jz w' D v l:=h.gb (GB.of_ext (λ_=>False) x) (λ_ _ e=>e)
theorem Jz.zero (w D v)(h0:v 0=.pointer none)(h1:v 1=.int .i64 0)(h2:v 2=.slice none 0 0)(h3:v 3=.bool false)(h4:v 4=.slice none 0 0)(h5:v 5=.bool false):Jz w D v lnZ:=⟨none,none,0,0,[],[],λ_=>False,h1,h2,h3,h4,h5,ZgZ _ _ _ _,(λq e=>by simp[Value.ownBlock]at e),Zf6 _,⟨rfl,Rd.nil _ _,λp hp=>by cases hp⟩,(λa e=>by cases e),(λk hk=>by cases hk),(λ_ e=>e.elim),(λb e=>by cases e),⟨h0,rfl⟩⟩
abbrev ZF6 (D:Zhf)(w w':World):Nat->Prop:=λi=>D i\/(w.heap.size<=i/\i<w'.heap.size)
theorem Jz.conn(h:Jz w D v l)(hD:∀i,D i->i<w.heap.size)(hs:l.cn=some s): ∃base gc r L RO,v 0=ZH gc/\Z3 w base L RO gc r s/\(∀b,some b ∈ L->D b)/\∀w' s',Yk w base L RO gc r s' w'->Jz w' (ZF6 D w w') v {l with cn:=some s'}:=by
 obtain⟨WA,TA,wc,tc,tk,Lb,T,h1,h2,h3,h4,h5,h6,h7,h8,h9,bD,bQ,bL,bP,bO⟩:=h;rw[hs]at bO;obtain⟨base,gc,r,RO,e1,e2,e3⟩:=bO;refine⟨base,gc,r,Lb,RO,e1,e2,bP,λw' s' aE=>?_⟩;obtain⟨L',lr,g1,g2,g3,g4⟩:=aE;have hnew:∀b,D b->some b ∉ Lb->some b ∉ L':=λb hb hn e=>(g3 b e).elim hn (λe=>by have:=hD b hb;omega);have hT:∀b,T b->¬some b ∈ Lb:=λb hb=>(bL b hb).2;have ak:=g1.bounds
 refine⟨WA,TA,wc,tc,tk,L',T,h1,h2,h3,h4,h5,g2.own h6 (λq e=>(h7 q e).2.1),λq e=>⟨.inl (h7 q e).1,hnew q (h7 q e).1 (h7 q e).2.1,(h7 q e).2.2⟩,h8,⟨h9.1,g2.rd h9.2.1 (λa ha=>hT _ (bD a ha)),h9.2.2.gbk bQ g2 hT⟩,bD,bQ,λb hb=>⟨.inl (bL b hb).1,hnew b (bL b hb).1 (bL b hb).2⟩,
  λb hb=>(g3 b hb).imp (bP b) (λe=>⟨e,(ak.2.1 b hb).2⟩),base,gc,r,lr,e1,g1,λb hb=>⟨?_,λe=>?_⟩⟩
 ·rcases g4 b hb with e|e|e
  ·exact .inl (e3 b e).1
  ·exact .inl (bP b e)
  ·exact .inr ⟨e,(ak.2.2 b hb).2.2⟩
 ·rcases g4 b hb with e4|e4|e4
  ·exact(e3 b e4).2 e
  ·exact(h7 b e).2.1 e4
  ·have:=hD b (h7 b e).1;omega
theorem Jz.toks(h:Jz w D v l)(hD:∀i,D i->i<w.heap.size)(x:ZM w w'){TA:Option Addr}{l2:List Jp}(hr:ZEU w' TA l2 tk)(hc:l2.length<=tc)(ha:∀a,TA=some a->w.heap.size<=a.block/\a.block<w'.heap.size)(hk:∀k ∈ tk,∀a,k.1=some a->w.heap.size<=a.block/\a.block<w'.heap.size)(h0:v' 0=v 0)(h1:v' 1=v 1)(h2:v' 2=v 2)(h3:v' 3=v 3)(h4:v' 4=.slice TA l2.length tc){looked:Bool}(h5:v' 5=.bool looked):Jz w' (ZF6 D w w') v' {l with toks:=l2,looked:=looked}:=by
 obtain⟨WA,TA0,wc,zK,Kk,Lb,T,k1,k2,k3,-,-,h6,h7,-,-,-,-,-,bP,bO⟩:=h.ext x;refine⟨WA,TA,wc,tc,tk,Lb,λi=>w.heap.size<=i/\i<w'.heap.size,h1.trans k1,h2.trans k2,h3.trans k3,h4,h5,h6,λq e=>⟨.inl (h7 q e).1,(h7 q e).2.1,λe2=>by have:=hD q (h7 q e).1;omega⟩,hc,hr,ha,λk xq a e=>hk k xq a e,λb hb=>⟨.inr hb,λe=>by have:=hD b (bP b e);omega⟩,λb hb=>.inl (bP b hb),?_⟩;rw[h0];cases hc:l.cn with
 |none=>rw[hc]at bO;exact bO
 |some s=>
  rw[hc]at bO;obtain⟨base,gc,r,RO,e1,e2,e3⟩:=bO;exact⟨base,gc,r,RO,e1,e2,λb hb=>⟨.inl (e3 b hb).1,(e3 b hb).2⟩⟩
section
def Zr {α:Type}(f:Nat->α)(n:Nat)(x:α):Nat->α:=λi=>if i=n then x else f i
theorem Zc {α:Type}(f n)(x:α):Zr f n x n=x:=Zgl rfl
theorem ZZ {α:Type}(f){i:Nat}(x:α)(h:i≠n):Zr f n x i=f i:=Zgk h
class Foreign where
 fo:Nat->Prop
variable [Foreign]
def DOs (gd:Nat)(D:Nat->Nat->Prop):Nat->Prop:=λi=>i=gd\/∃n,D n i
def DO (gd:Nat)(D:Nat->Nat->Prop):Nat->Prop:=λi=>DOs gd D i\/Foreign.fo i
def Y8 (gd:Nat)(C:Zhf)(D:Nat->Nat->Prop):Nat->Prop:=λi=>C i\/DOs gd D i
def Yc (w:World)(gd:Nat)(g:Zz)(C:Zhf)(xb:Nat->Nat)(L:List Zg)(ks:Z9)(dr:Bool)(ls:Nat->Jj)(D:Nat->Nat->Prop):Prop:=∃lv:Nat->Nat->Value,YQ w g (DO gd D) C xb L ks/\(∃cs t,w.heap[gd]?=some (.cells cs t (0,0)))/\w.cell? ⟨gd,0,none⟩=some (ZH g.gx)/\w.cell? ⟨gd,379,none⟩=some (.bool dr)/\ (∀n k,n<63->k<6->w.cell? ⟨gd,1+n*6+k,none⟩=some (lv n k))/\(∀n,n<63->Jz w (D n) (lv n) (ls n))/\(∀n i,D n i->i≠gd/\i<w.heap.size)/\(∀n m i,D n i->D m i->n=m)/\∀i,DOs gd D i->¬Foreign.fo i
def Y0 (w:World)(gd:Nat)(g:Zz)(C:Zhf)(D:Nat->Nat->Prop)(N:Nat)(ks:Z9)(dr:Bool)(ls:Nat->Jj)(w':World):Prop:=∃C' fY L' D',L'.length<=N/\Yc w' gd g C' fY L' ks dr ls D'/\GB w w' (Y8 gd C D)/\∀i,Y8 gd C' D' i->Y8 gd C D i\/w.heap.size<=i
theorem Yc.lt {w:World}{gd:Nat}{g:Zz}{C:Zhf}{xb:Nat->Nat}{L:List Zg}{ks:Z9}{dr:Bool}{ls:Nat->Jj}{D:Nat->Nat->Prop}(h:Yc w gd g C xb L ks dr ls D):∀i,Y8 gd C D i->i<w.heap.size:=by
 obtain⟨lv,h1,-⟩:=h;exact λi hi=>hi.elim (h1.lt i) (λe=>h1.ol i (.inl e))
theorem Yc.ext{D:Nat->Nat->Prop}(h:Yc w gd g C xb L ks dr ls D)(x:ZM w w'):Yc w' gd g C xb L ks dr ls D:=by
 obtain⟨lv,h1,⟨cs,t,h2⟩,h3,h4,h5,h6,h7,h8,h9⟩:=h;exact⟨lv,h1.ext x,⟨cs,t,ZK h2 x⟩,ZF x h3,ZF x h4,λn k hn hk=>ZF x (h5 n k hn hk),λn hn=>(h6 n hn).ext x,λn i hi=>⟨(h7 n i hi).1,ZgB (h7 n i hi).2 x.size⟩,h8,h9⟩
theorem Y0.back{w0:World}{D:Nat->Nat->Prop}(x:ZM w0 w)(h:Y0 w gd g C D N ks dr ls w1):Y0 w0 gd g C D N ks dr ls w1:=by
 obtain⟨C',fY,L',D',h1,h2,h3,h4⟩:=h;exact⟨C',fY,L',D',h1,h2,GB.back x h3,λi hi=>(h4 i hi).imp id (Zf8 x.size)⟩
theorem Y0.trans{D D1:Nat->Nat->Prop}(k:GB w w1 (Y8 gd C D))(hC:∀i,Y8 gd C1 D1 i->Y8 gd C D i\/w.heap.size<=i)(h:Y0 w1 gd g C1 D1 N ks dr ls w2):Y0 w gd g C D N ks dr ls w2:=by
 obtain⟨C',fY,L',D',h1,h2,h3,h4⟩:=h;exact⟨C',fY,L',D',h1,h2,k.trans h3 hC,λi hi=>(h4 i hi).elim (hC i) (λe=>.inr (Zf8 k.size e))⟩
theorem Yc.core{D:Nat->Nat->Prop}(h:Yc w gd g C xb L ks dr ls D): YQ w g (DO gd D) C xb L ks/\w.cell? ⟨gd,0,none⟩=some (ZH g.gx)/\gd<w.heap.size/\ ∀w' C' fY L' ks',YS w g (DO gd D) C fY L' ks' C' w'->Yc w' gd g C' fY L' ks' dr ls D/\GB w w' (Y8 gd C D)/\∀i,Y8 gd C' D i->Y8 gd C D i\/w.heap.size<=i:=by
 obtain⟨lv,h1,⟨cs,t,h2⟩,h3,h4,h5,h6,h7,h8,h9⟩:=h;refine⟨h1,h3,ZX h2,λw' C' fY L' ks' hm=>?_⟩;obtain⟨m1,m2,m3⟩:=hm;have nC:∀i,DO gd D i->¬C i:=λi hi e=>h1.co i e hi;have ep:¬C gd:=nC gd (.inl (.inl rfl))
 exact⟨⟨lv,m1,⟨cs,t,m2.blk h2 ep⟩,m2.cell h3 ep,m2.cell h4 ep,λn k hn hk=>m2.cell (h5 n k hn hk) ep,λn hn=>(h6 n hn).gb m2 (λi hi=>nC i (.inl (.inr ⟨n,hi⟩))),λn i hi=>⟨(h7 n i hi).1,ZgB (h7 n i hi).2 m2.size⟩,h8,h9⟩,m2.more (λ_ _ e=>.inl e),λi hi=>hi.elim (λe=>(m3 i e).imp .inl id) (λe=>.inl (.inr e))⟩
theorem Yc.line{D:Nat->Nat->Prop}(h:Yc w gd g C xb L ks dr ls D)(hn:n<63): ∃v:Nat->Value,(∀k,k<6->w.cell? ⟨gd,1+n*6+k,none⟩=some (v k))/\(∀j,w.frozen? ⟨gd,j,none⟩=false)/\Jz w (D n) v (ls n)/\(∀i,D n i->i≠gd/\i<w.heap.size)/\gd<w.heap.size/\w.cell? ⟨gd,379,none⟩=some (.bool dr)/\(∀i,D n i->¬C i)/\¬C gd/\ ∀w' D2 v2 l2,GB w w' (λi=>i=gd\/D n i)->(∃cs t,w'.heap[gd]?=some (.cells cs t (0,0)))->(∀k,k<6->w'.cell? ⟨gd,1+n*6+k,none⟩=some (v2 k))->(∀j,j<1+n*6\/7+n*6<=j->w'.cell? ⟨gd,j,none⟩=w.cell? ⟨gd,j,none⟩)-> Jz w' D2 v2 l2->(∀i,D2 i->(D n i\/w.heap.size<=i)/\i<w'.heap.size)-> Yc w' gd g C xb L ks dr (Zr ls n l2) (Zr D n D2)/\GB w w' (Y8 gd C D)/\∀i,Y8 gd C (Zr D n D2) i->Y8 gd C D i\/w.heap.size<=i:=by
 obtain⟨lv,h1,⟨cs,t,h2⟩,h3,h4,h5,h6,h7,h8,h9⟩:=h;have bu:=ZX h2;refine⟨lv n,λk hk=>h5 n k hn hk,λj=>ZG h2 j,h6 n hn,h7 n,bu,h4,λi hi e=>h1.co i e (.inl (.inr ⟨n,hi⟩)),λe=>h1.co gd e (.inl (.inl rfl)),λw' D2 v2 l2 gb hb hv hj hl hD=>?_⟩;have aY:∀i,DOs gd (Zr D n D2) i->DOs gd D i\/w.heap.size<=i:=λi hi=>by
  rcases hi with e|⟨m,e⟩
  ·exact .inl (.inl e)
  ·by_cases hm:m=n
   ·subst hm;rw[Zc]at e;exact(hD i e).1.imp (λe=>.inr ⟨m,e⟩) id
   ·rw[ZZ D D2 hm]at e;exact .inl (.inr ⟨m,e⟩)
 have ak:∀m i,Zr D n D2 m i->i≠gd/\i<w'.heap.size:=λm i e=>by
  by_cases hm:m=n
  ·subst hm;rw[Zc]at e;refine⟨λe2=>?_,(hD i e).2⟩;rcases(hD i e).1 with e3|e3
   ·exact(h7 m i e3).1 e2
   ·omega
  ·rw[ZZ D D2 hm]at e;exact⟨(h7 m i e).1,ZgB (h7 m i e).2 gb.size⟩
 refine⟨⟨λm=>if m=n then v2 else lv m,h1.far gb (λi _ e=>.inl (e.elim .inl (λe=>.inr ⟨n,e⟩))) (λi hi e=>e.imp (λe=>(aY i e).resolve_right ZB) id) (λi e=>?_),hb,(hj 0 ZB).trans h3,(hj 379 ZB).trans h4,λm k hm hk=>?_,λm hm=>?_,ak,λm q i e1 e2=>?_,λi e f=>(aY i e).elim (λe=>h9 i e f) (λe=>by have:=h1.ol i (.inr f);omega)⟩,gb.more (λi _ e=>.inr (e.elim .inl (λe=>.inr ⟨n,e⟩))),λi hi=>hi.elim (λe=>.inl (.inl e)) (λe=>(aY i e).imp .inr id)⟩
 ·rcases e with(e|⟨m,e⟩)|e
  ·exact e ▸ ZgB bu gb.size
  ·exact(ak m i e).2
  ·exact ZgB (h1.ol i (.inr e)) gb.size
 ·by_cases e:m=n
  ·subst e
   dsimp only
   rw[Zgl rfl];exact hv k hk
  ·dsimp only
   rw[Zgk e];exact(hj _ ZB).trans (h5 m k hm hk)
 ·by_cases e:m=n
  ·subst e
   dsimp only
   rw[Zgl rfl,Zc,Zc];exact hl
  ·dsimp only
   rw[Zgk e,ZZ _ _ e,ZZ _ _ e];refine(h6 m hm).gb gb (λi hi e2=>?_);rcases e2 with e2|e2
   ·exact(h7 m i hi).1 e2
   ·exact e (h8 m n i hi e2)
 ·have key:∀m i,m≠n->Zr D n D2 m i->Zr D n D2 n i->False:=λm i hm e1 e2=>by
   rw[ZZ D D2 hm]at e1;rw[Zc]at e2;rcases(hD i e2).1 with e3|e3
   ·exact hm (h8 m n i e1 e3)
   ·have:=(h7 m i e1).2;omega
  by_cases hm:m=n
  ·by_cases hq:q=n
   ·rw[hm,hq]
   ·subst hm;exact(key q i hq e2 e1).elim
  ·by_cases hq:q=n
   ·subst hq;exact(key m i hm e1 e2).elim
   ·rw[ZZ D D2 hm]at e1;rw[ZZ D D2 hq]at e2;exact h8 m q i e1 e2
end
structure Xf where
 ks:Z9
 ls:Nat->Jj
 dr:Bool
variable {a b:Xf}
def Y2 (r:Zt):List Nat:=ZIc r.er r.granted [r.left.toNat,r.wait.toNat,r.ser.toNat,r.now.toNat]
def ZAN (r:Zt):Prop:=r.er<=16/\okN r.left/\okN r.wait/\okN r.ser/\okN r.now
theorem ZAf {r:Zt}(h:ZAN r):ZDr (r.er:Int) r.granted [r.left,r.wait,r.ser,r.now] 0 (Y2 r):=by
 obtain⟨h1,⟨a1,a2⟩,⟨b1,b2⟩,⟨c1,c2⟩,⟨d1,d2⟩⟩:=h;refine .inr ⟨rfl,by omega,by omega,[r.left.toNat,r.wait.toNat,r.ser.toNat,r.now.toNat],⟨rfl,?_,?_⟩,rfl⟩
 ·simp only[ZfM,List.map_nil,Zfq,Zfs];rw[Zed a1,Zed b1,Zed c1,Zed d1]
 ·intro x hx;simp at hx;rcases hx with rfl|rfl|rfl|rfl<;>omega
def JO (l:Jj)(r:Zt):Jj:=match l.cn with
 |none=>l
 |some s=>match s.out with
  |none=>l
  |some c=>{l with cn:=some (YJ s c (r.er:Int) r.ser (Y2 r))}
def Xv (l:Jj):Jj:=match l.cn with
 |none=>l
 |some s=>{l with cn:=some {s with wr:=[]},wr:=l.wr++s.wr}
def ZDK (l:Jj):Jj:=match l.cn with
 |none=>{l with st:=2}
 |some s=>{l with cn:=some (ZDe {s with wr:=[]}),wr:=l.wr++s.wr,st:=2}
def ZAx (c:Zy):ZW:=⟨c.op,c.pol,c.key,(c.num:Int)⟩
def ZHF (t:Jp):ZW:=⟨3,t.pol.toNat,t.key,t.ser⟩
def ZDR (ks:Z9)(n:Nat)(x:ZW):Z9:=ks.put n (.run x false 0 (JD x))
theorem ZAt {α:Type}(f n)(x y:α):Zr (Zr f n x) n y=Zr f n y:=by
 funext i
 unfold Zr
 split<;>rfl
theorem ZA5 {α:Type}(f:Nat->α)(n:Nat):Zr f n (f n)=f:=by
 funext i
 unfold Zr
 split
 ·next h=>rw[h]
 ·rfl
theorem Qd {p:Prop}(h:p:=by
 obtain⟨cs,tt,v,hb,hv,aF,hD,-,-,-,aE⟩:=h.lineA hn;have bu:=ZX hb;obtain⟨WA,wc,base,gc,r,Lb,RO,v0,v2,bg,nU,how,kD,az⟩:=aF.taken (λi hi=>(hD i hi).2) hs;have c0:w.cell? ⟨gd,1+n*6,none⟩=some (ZH gc):=(ZE hb _).trans (by rw[<-v0];exact hv 0 ZB);have c2:w.cell? ⟨gd,1+n*6+2,none⟩=some (.slice WA (ls n).wr.length wc):=(ZE hb _).trans (by rw[<-v2];exact hv 2 ZB);have f2:=ZG hb (1+n*6+2);have TK:=ZA (λu (y:ZM w u)=>ZJb u base gc r Lb RO s (bg.ext y));obtain⟨m,Hm⟩:=ZX2 ((ls n).wr.length);obtain⟨k,Hs⟩:=ZX2 (s.wr.length);rw[Hm.o]at c2 how cT kD;rw[Hs.o]at TK eg;have HO:=ZA how;have C2:=ZA c2;have mJ:=ZA (show ¬gd=gc from λe=>(hD gc nU).1 e.symm);first|(obtain -:=V1)|have Gg:=ZA (show ¬bx=gc from λe=>xN (.inr (.inr ⟨n,e ▸ nU⟩)))
 have tO:=ZA kD;have mI:=ZA (show ∀q,(Value.slice WA m wc).ownBlock=some q->¬q=gd from λq e=>(hD q (kD q e).1).1);first|(obtain -:=V2)|have Gh:=ZA (show ∀q,(Value.slice WA m wc).ownBlock=some q->¬q=bx from λq e e9=>xN (.inr (.inr ⟨n,e9 ▸ (kD q e).1⟩)))
 obtain⟨HB,i6,dP,HV,HD⟩:=ZBR hb aE az hv hD;have HS:=ZA hs;have zx:=ZA nU;first|(obtain -:=V3;clear h aE az hv hD how kD bg hb v0 v2 aF hs nU;go_enter func60,ntmps60)|(clear h aE az hv hD how kD bg xN hb v0 v2 aF hs nU;go_enter_d func100,ntmps100)
 go_upto_region 0 with fail;first
 |obtain -:=V4;go_cut [] (λwd=>ZUA w gd g C xb L ks dr ls D n wd);case first=>
   obtain⟨T3,T18,T19⟩:=QA;exact ZYX
  case rest=>
   obtain⟨D',h1,g1,n1⟩:=hcut;obtain⟨base,gc,r,Lb,RO,c0,bM,ep,-,-,-,fH⟩:=h1.conn hn (s:={s with wr:=[]}) (by rw[Zc,ZEZ HS.o]);have uQ:=bM.bounds.1;have HU:=ZA (ZMY wc base gc r Lb RO {s with wr:=[]} bM pP aX);obtain⟨lB,G1,N1⟩:=Z8 fH g1 n1;clear h1 g1 n1 bM fH;go_wp2_with fail;refine HU.o.mono ?_;rintro e w2 ⟨A2,c2,k2,L2,rfl,h2,-,x2,y2⟩;obtain⟨b1,b2,b3⟩:=lB.o w2 (ZDe {s with wr:=[]}) ⟨L2,RO,h2,x2.more (λi _ (e:i=gc)=>by rw[e];exact uQ),λb e=>.inl (y2 b e),λb e=>.inl e⟩;rw[ZAt,Zc]at b1;obtain⟨LR,t2,v2,di,fx,hln2,yg,-,-,-,fE⟩:=b1.lineA hn;rw[Zc,Zc]at hln2;rw[Zc]at yg fE;obtain⟨lT,hv8,AO⟩:=JB di (n:=n) (k0:=1) (v:=v2) ZB fx (.int .i64 2);have q1:w2.cell? ⟨gd,1+n*6+1,none⟩=some (v2 1):=(ZE di _).trans (fx 1 ZB);have KJ:=ZG di (1+n*6+1);obtain⟨zr,HD2,zn,HB8,GR,HJ8⟩:=Ju fE yg hln2 lT hv8 AO;have B2:=ZA b2;have B3:=ZA b3;have Mk:=ZA di;clear fE yg hln2 lT hv8 AO b1 b2 b3 di fx h2 x2 y2;go_wp2_with fail;go_end0;refine⟨rfl,?_⟩;have g8:GB w2 (w2.setCell ⟨gd,1+n*6+1,none⟩ (.int .i64 2)) (· =gd):=(GB.refl w2 (· =gd)).set gd _ _ (.inl rfl);have aF:=(zn.o.gb g8 (λi hi e=>(HD2.o i hi).1 e)).state (v':=Zr v2 1 (.int .i64 2)) (st:=2) (ZZ _ _ ZB) (Zc _ _ _) (ZZ _ _ ZB) (ZZ _ _ ZB) (ZZ _ _ ZB) (ZZ _ _ ZB);obtain⟨a1,a2,a3⟩:=zr.o _ _ _ _ _ (g8.more (λi _ e=>.inl e)) HB8.o GR.o HJ8.o aF (λi hi=>⟨.inl hi,by simpa using(HD2.o i hi).2⟩);rw[ZAt,ZN7 HS.o]at a1;refine⟨_,a1,?_,λi hi=>?_⟩
   ·exact(G1.o.trans B2.o N1.o).trans a2 (λi hi=>(B3.o i hi).elim (N1.o i) (λe=>.inr (Zf8 G1.o.size e)))
   ·rcases a3 i hi with e|e
    ·rcases B3.o i e with e|e
     ·exact N1.o i e
     ·exact .inr (Zf8 G1.o.size e)
    ·exact .inr (Zf8 (Zf8 G1.o.size B2.o.size) e)
 |refine JK (λu=>u.cell? ⟨bx,0,none⟩=some (.pointer (some ⟨gd,1+n*6,none⟩))/\u.cell? ⟨gd,1+n*6+2,none⟩=some (.slice WA m wc)/\u.cell? ⟨gd,1+n*6,none⟩=some (ZH gc)) [13] ZC ?_;have ae:=And.intro (ZJ cb) (And.intro (ZJ c2) (ZJ c0));have XD:ZM w w.drew:=(ZM.refl w).drew;clear c0 c2 cb;generalize w.drew=U at XD ae ⊢;refine ZX5 (i:=0) (v:=?_) rfl (Or.inl ⟨by rfl,?_⟩) (by assumption) ?_;rotate_left
  ·intro w aL;(try dsimp only at aL);go_simp;(try with_reducible rfl)
  (try simp only[Act.put]);refine ZX5 (i:=1) (v:=?_) rfl (Or.inl ⟨by rfl,?_⟩) (by assumption) ?_;rotate_left
  ·intro w aL;(try dsimp only at aL);go_simp;(try with_reducible rfl)
  (try simp only[Act.put]);refine ZX4 (i:=2) (v:=?_) rfl (Or.inl ⟨by rfl,?_⟩) (YI.of ae) ?_;rotate_left
  ·intro w _;go_simp;(try with_reducible rfl)
  (try simp only[Act.put]);refine ZX4 (i:=3) (v:=?_) rfl (Or.inl ⟨by rfl,?_⟩) (YI.of ae) ?_;rotate_left
  ·intro w _;go_simp;(try with_reducible rfl)
  (try simp only[Act.put]);refine ZX5 (i:=4) (v:=?_) rfl (Or.inl ⟨by rfl,?_⟩) (by assumption) ?_;rotate_left
  ·intro w aL;(try dsimp only at aL);go_simp;(try with_reducible rfl)
  (try simp only[Act.put]);refine ZX5 (i:=5) (v:=?_) rfl (Or.inl ⟨by rfl,?_⟩) (by assumption) ?_;rotate_left
  ·intro w aL;(try dsimp only at aL);go_simp;(try with_reducible rfl)
  (try simp only[Act.put]);refine ZX4 (i:=6) (v:=?_) rfl (Or.inl ⟨by rfl,?_⟩) (YI.of ae) ?_;rotate_left
  ·intro w _;go_simp;(try with_reducible rfl)
  (try simp only[Act.put]);refine ZX4 (i:=7) (v:=?_) rfl (Or.inl ⟨by rfl,?_⟩) (YI.of ae) ?_;rotate_left
  ·intro w _;go_simp;(try with_reducible rfl)
  (try simp only[Act.put]);refine ZX5 (i:=8) (v:=?_) rfl (Or.inl ⟨by rfl,?_⟩) (by assumption) ?_;rotate_left
  ·intro w aL;(try dsimp only at aL);go_simp;(try with_reducible rfl)
  (try simp only[Act.put]);refine ZY (rs:=[9]) ZC ZXz (ZN.cons (o:=_) rfl (λK' hK=>?_) ZN.nil);have d2:=ae.2.1;have d0:=ae.2.2;have db:=ae.1;go_simp;refine(TK.out U XD).mono ?_;rintro e w1 ⟨TA,tc,L',rfl,bg,gA,dp,af,-⟩;have ib:=ZA bg;have Ix:=ZA gA;have dO:=ZA (GB.back XD gA);have qx:=ZA dp;have qA:=ZA af;have r2:=gA.cell d2 mJ.o;have r0:=gA.cell d0 mJ.o;have F2:=ZOF gA d2 (Jf XD C2.o f2) mJ.o;have rb:=gA.cell db Gg.o;clear bg gA dp af d0 d2 ae db;refine hK.out _ _ ⟨rb,r2,r0⟩ ?_;clear hK K';(try simp only[Act.put]);refine ZY (rs:=[10]) ZC ZXz (ZN.cons (o:=_) rfl (λK' hK=>?_) ZN.nil);refine ZAF w1 rfl (.tmp 5) (.tmp 10) rfl 0 ZX0 (dO.o.own HO.o (λq e=>(tO.o q e).2)) ZX0 Hs.o (Rd.of_own qA.o) ZB (ZgR _) ?_;intro B' au w6 o6 g6 b6;have fB:=g6.cell r2 (λe=>mI.o _ e.symm rfl);have ij:=g6.cell r0 (λe=>mI.o _ e.symm rfl);have Z2:=ZBT g6 r2 F2 (λe=>mI.o _ e rfl);have wR:=g6.cell rb (λe=>Gh.o _ e.symm rfl);obtain⟨O6,G6,B6⟩:=Z8 o6 g6 b6;clear o6 g6 b6 r2 r0 rb;refine hK.out _ _ ⟨wR,fB,ij⟩ ?_;clear hK K';(try simp only[Act.put]);refine ZY (rs:=[11]) ZC ZXz (ZN.cons (o:=_) rfl (λK' hK=>?_) ZN.nil);go_simp;refine hK.out _ _ ⟨wR,fB,ij⟩ ?_;clear hK K';(try simp only[Act.put]);refine ZY (rs:=[12]) ZC ZXz (ZN.cons (o:=_) rfl (λK' hK=>?_) ZN.nil);go_simp;refine hK.out _ _ ⟨wR,fB,ij⟩ ?_;clear hK K';(try simp only[Act.put]);refine ZY (rs:=[13]) ZC ZXz (ZN.last (o:=_) ZC rfl (λK' hK=>?_) ZN.nil);go_simp;refine hK.out _ _ ?_;clear hK K';refine JL ZC ?_ _;go_end0;refine⟨rfl,?_⟩;have iT:=((GB.refl w1 (λi=>(Value.slice WA m wc).ownBlock=some i)).grown G6.o (λq e=>.inl e)).blk (dO.o.blk HB.o mJ.o) (λe=>mI.o _ e rfl);obtain⟨lU,hv7,xt⟩:=JB iT (n:=n) (k0:=2) (v:=v) ZB HV.o (.slice B' (m+k) au);have g7:GB w6 (w6.setCell ⟨gd,1+n*6+2,none⟩ (.slice B' (m+k) au)) (· =gd):=(GB.refl w6 (· =gd)).set gd _ _ (.inl rfl);have yp:GB w w6 (λi=>i=gd\/D n i):=(dO.o.more (λi _ (e:i=gc)=>.inr (by rw[e];exact zx.o))).grown G6.o (λq e=>.inl (.inr (tO.o q e).1));have aF:=dP.o w1 L' ib.o dO.o qx.o w6 B' (m+k) au (by rw[ZfE,Hm.o,Hs.o]) O6.o (by rw[Hm.o];exact G6.o) (by rw[Hm.o];exact B6.o) _ (Zr v 2 (.slice B' (m+k) au)) gd g7 (λe=>(HD.o gd e).1 rfl) (ZX HB.o) (ZZ _ _ ZB) (ZZ _ _ ZB) (Zc _ _ _) (ZZ _ _ ZB) (ZZ _ _ ZB) (ZZ _ _ ZB);have tG:=yp.trans g7 (λi e=>.inl (.inl e));obtain⟨a1,a2,a3⟩:=i6.o _ _ _ _ _ tG lU hv7 xt aF (ZF6.ok (λi hi=>(HD.o i hi).2) tG.size);exact⟨_,a1,a2,a3⟩):p:=h
section
variable [Foreign]
theorem ZEZ(h:l.cn=some s):Xv l={l with cn:=some {s with wr:=[]},wr:=l.wr++s.wr}:=by
 unfold Xv;rw[h]
theorem Jz.state(h:Jz w D v l){st:Nat}(h0:v' 0=v 0)(h1:v' 1=.int .i64 st)(h2:v' 2=v 2)(h3:v' 3=v 3)(h4:v' 4=v 4)(h5:v' 5=v 5):Jz w D v' {l with st:=st}:=by
 obtain⟨WA,TA,wc,tc,tk,Lb,T,-,k2,k3,k4,k5,h6,h7,h8,h9,bD,bQ,bL,bP,bO⟩:=h;exact⟨WA,TA,wc,tc,tk,Lb,T,h1,h2.trans k2,h3.trans k3,h4.trans k4,h5.trans k5,h6,h7,h8,h9,bD,bQ,bL,bP,by rw[h0];exact bO⟩
theorem ZN7(h:l.cn=some s):(⟨some (ZDe {s with wr:=[]}),2,(Xv l).wr,(Xv l).rel,(Xv l).toks,(Xv l).looked⟩:Jj)=ZDK l:=by
 unfold ZDK;rw[ZEZ h,h]
theorem Jz.taken(h:Jz w D v l)(hD:∀i,D i->i<w.heap.size)(hs:l.cn=some s): ∃(WA:Option Addr) (wc base gc r:Nat) (Lb:List (Option Nat)) (RO:Zhf),v 0=ZH gc/\v 2=.slice WA l.wr.length wc/\Z3 w base Lb RO gc r s/\D gc/\ w.ownsRow 0 5 1 (.slice WA l.wr.length wc) l.wr.length (ZT .u8 l.wr)/\(∀q,(Value.slice WA l.wr.length wc).ownBlock=some q->D q/\q≠gc)/\ ∀(w1:World) (L':List (Option Nat)),Z3 w1 base L' RO gc r {s with wr:=[]}->GB w w1 (· =gc)->(∀b,some b ∈ L'->some b ∈ Lb)-> ∀(w2:World) (B:Option Addr) (nb cb:Nat),(l.wr++s.wr).length=nb->w2.ownsRow 0 5 1 (.slice B nb cb) nb (ZT .u8 (l.wr++s.wr))->w1.grownBy w2 (Value.slice WA l.wr.length wc).ownBlock-> ((Value.slice B nb cb).ownBlock=(Value.slice WA l.wr.length wc).ownBlock\/(Value.slice B nb cb).ownBlock=some w1.heap.size)-> ∀(w3:World) (v':Nat->Value) (gd:Nat),GB w2 w3 (· =gd)->¬D gd->gd<w.heap.size->v' 0=v 0->v' 1=v 1->v' 2=.slice B nb cb->v' 3=v 3->v' 4=v 4->v' 5=v 5-> Jz w3 (ZF6 D w w3) v' (Xv l):=by
 obtain⟨WA,TA,wc,tc,tk,Lb,T,h1,h2,h3,h4,h5,h6,h7,h8,h9,bD,bQ,bL,bP,bO⟩:=h;rw[hs]at bO;obtain⟨base,gc,r,RO,e1,e2,e3⟩:=bO;have hb:=e2.bounds;refine⟨WA,wc,base,gc,r,Lb,RO,e1,h2,e2,bP gc hb.1,h6,λq e=>⟨(h7 q e).1,λe9=>(h7 q e).2.1 (by rw[e9];exact hb.1)⟩,λw1 L' k1 k2 k3 w2 B nb cb cL o2 g2 b2 w3 v' gd g3 bu EO q0 q1 q2 q3 q4 q5=>?_⟩;subst cL;have zF:GB w1 w3 (λi=>(Value.slice WA l.wr.length wc).ownBlock=some i\/i=gd):=((GB.refl w1 _).grown g2 (λq e=>.inl (.inl e))).trans g3 (λi e=>.inl (.inr e));have zG:GB w w3 (λi=>i=gc\/(Value.slice WA l.wr.length wc).ownBlock=some i\/i=gd):=(k2.more (λi _ e=>.inl e)).trans zF (λi e=>.inl (.inr e));have hT:∀b,T b->¬(b=gc\/(Value.slice WA l.wr.length wc).ownBlock=some b\/b=gd):=λb fb e=>by
  rcases e with e|e|e
  ·exact(bL b fb).2 (by rw[e];exact hb.1)
  ·exact(h7 b e).2.2 fb
  ·exact bu (e ▸ (bL b fb).1)
 have bY:=k2.size;rw[ZEZ hs];refine⟨B,TA,cb,tc,tk,L',T,q1.trans h1,q2,q3.trans h3,q4.trans h4,q5.trans h5,g3.own o2 (λq e e9=>?_),λq e=>?_,h8,⟨h9.1,zG.rd h9.2.1 (λa ha=>hT _ (bD a ha)),h9.2.2.gbk bQ zG hT⟩,bD,bQ,λb fb=>⟨.inl (bL b fb).1,λe=>(bL b fb).2 (k3 b e)⟩,λb fb=>.inl (bP b (k3 b fb)),base,gc,r,RO,q0.trans e1,k1.gb zF (λb e=>?_),λb fb=>⟨.inl (e3 b fb).1,λe=>?_⟩⟩
 ·rcases b2 with b2|b2
  ·rw[b2]at e;exact bu (e9 ▸ (h7 q e).1)
  ·rw[b2]at e;injection e with e;omega
 ·rcases b2 with b2|b2
  ·rw[b2]at e;exact⟨.inl (h7 q e).1,λe9=>(h7 q e).2.1 (k3 q e9),(h7 q e).2.2⟩
  ·have hq:=(o2.lt q e).2;have DZ:=g3.size;rw[b2]at e;injection e with e;exact⟨.inr ⟨by omega,by omega⟩,λe9=>by have:=(hb.2.1 q (k3 q e9)).2;omega,λe9=>by have:=hD q (bL q e9).1;omega⟩
 ·rcases e with e|e
  ·exact⟨λe9=>(h7 b e).2.1 (k3 b e9),λe9=>(e3 b e9).2 e⟩
  ·exact⟨λe9=>bu (e ▸ bP b (k3 b e9)),λe9=>bu (e ▸ (e3 b e9).1)⟩
 ·rcases b2 with b2|b2
  ·rw[b2]at e;exact(e3 b fb).2 e
  ·rw[b2]at e;injection e with e;have:=(hb.2.2 b fb).2.2;omega
theorem JB{cs:Array Value}{t:TypeId}(hb:W.heap[gd]?=some (.cells cs t (0,0))){k0:Nat}(iO:k0<6)(hv:∀k,k<6->cs[1+n*6+k]?=some (v k))(x): (W.setCell ⟨gd,1+n*6+k0,none⟩ x).heap[gd]?=some (.cells (cs.setIfInBounds (1+n*6+k0) x) t (0,0))/\(∀k,k<6->(cs.setIfInBounds (1+n*6+k0) x)[1+n*6+k]?=some (Zr v k0 x k))/\ ∀j,j<1+n*6\/7+n*6<=j->(cs.setIfInBounds (1+n*6+k0) x)[j]?=cs[j]?:=by
 refine⟨ZR hb _ x,λk hk=>?_,λj hj=>?_⟩
 ·by_cases e:k=k0
  ·subst e;rw[Zc,ZeV];exact(ZeT.1 (hv k hk)).1
  ·rw[ZZ _ _ e,ZeU ZB];exact hv k hk
 ·rw[ZeU ZB]
theorem Yc.lineA{D:Nat->Nat->Prop}(h:Yc w gd g C xb L ks dr ls D)(hn:n<63): ∃(cs:Array Value) (t:TypeId) (v:Nat->Value),w.heap[gd]?=some (.cells cs t (0,0))/\(∀k,k<6->cs[1+n*6+k]?=some (v k))/\Jz w (D n) v (ls n)/\(∀i,D n i->i≠gd/\i<w.heap.size)/\cs[379]?=some (.bool dr)/\(∀i,D n i->¬C i)/\¬C gd/\ ∀w' gt D2 v2 l2,GB w w' (λi=>i=gd\/D n i)->w'.heap[gd]?=some (.cells gt t (0,0))->(∀k,k<6->gt[1+n*6+k]?=some (v2 k))->(∀j,j<1+n*6\/7+n*6<=j->gt[j]?=cs[j]?)-> Jz w' D2 v2 l2->(∀i,D2 i->(D n i\/w.heap.size<=i)/\i<w'.heap.size)-> Yc w' gd g C xb L ks dr (Zr ls n l2) (Zr D n D2)/\GB w w' (Y8 gd C D)/\∀i,Y8 gd C (Zr D n D2) i->Y8 gd C D i\/w.heap.size<=i:=by
 obtain⟨v,hv,-,aF,hD,bu,dS,nC,ng,aE⟩:=h.line hn;obtain⟨cs,t,hb⟩:∃cs t,w.heap[gd]?=some (.cells cs t (0,0)):=by
  obtain⟨lv,-,h2,-⟩:=h;exact h2
 refine⟨cs,t,v,hb,λk hk=>(ZE hb _).symm.trans (hv k hk),aF,hD,(ZE hb _).symm.trans dS,nC,ng,λw' gt D2 v2 l2 gb hb' m9 hj hl hd=>?_⟩;exact aE w' D2 v2 l2 gb ⟨gt,t,hb'⟩ (λk hk=>(ZE hb' _).trans (m9 k hk)) (λj pR=>by rw[ZE hb',ZE hb];exact hj j pR) hl hd
theorem ZF6.ok(hD:∀i,D i->i<w.heap.size)(hs:w.heap.size<=w'.heap.size):∀i,ZF6 D w w' i->(D i\/w.heap.size<=i)/\i<w'.heap.size:=λi hi=>by
 rcases hi with hi|hi
 ·exact⟨.inl hi,ZgB (hD i hi) hs⟩
 ·exact⟨.inr hi.1,hi.2⟩
theorem Yc.conn{D:Nat->Nat->Prop}(h:Yc w gd g C xb L ks dr ls D)(hn:n<63)(hs:(ls n).cn=some s): ∃base gc r Lb RO,w.cell? ⟨gd,1+n*6,none⟩=some (ZH gc)/\Z3 w base Lb RO gc r s/\some gd ∉ Lb/\(∀b,some b ∈ Lb->b<w.heap.size)/\some g.gx ∉ Lb/\gd<w.heap.size/\ ∀w' s',Yk w base Lb RO gc r s' w'->Yc w' gd g C xb L ks dr (Zr ls n {ls n with cn:=some s'}) (Zr D n (ZF6 (D n) w w'))/\GB w w' (Y8 gd C D)/\∀i,Y8 gd C (Zr D n (ZF6 (D n) w w')) i->Y8 gd C D i\/w.heap.size<=i:=by
 obtain⟨v,hv,hf,hl,hD,bu,dS,nC,ep,aE⟩:=h.line hn;obtain⟨base,gc,r,Lb,RO,h0,hc,hLD,fH⟩:=hl.conn (λi hi=>(hD i hi).2) hs;have cL:some gd ∉ Lb:=λe=>(hD gd (hLD gd e)).1 rfl;have xE:C g.gx:=by
  obtain⟨lv,h1,-⟩:=h;obtain⟨Fm,fs,hv,tx,tl,tb,th,h1⟩:=h1;exact h1.cx
 refine⟨base,gc,r,Lb,RO,by have:=hv 0 ZB;rw[h0]at this;exact this,hc,cL,λb hb=>(hD b (hLD b hb)).2,λe=>nC _ (hLD _ e) xE,bu,λw' s' hg=>?_⟩;have cu:=fH w' s' hg;obtain⟨L',lr,g1,g2,g3,g4⟩:=hg;have ng:¬(some gd ∈ Lb):=cL;obtain⟨cs,t,hb⟩:∃cs t,w.heap[gd]?=some (.cells cs t (0,0)):=by
  obtain⟨lv,-,h2,-⟩:=h;exact h2
 refine aE w' _ v _ (g2.more (λi _ e=>.inr (hLD i e))) ⟨cs,t,g2.blk hb ng⟩ (λk hk=>g2.cell (hv k hk) ng) (λj _=>ZgV (g2.block gd bu ng)) cu (λi hi=>⟨hi.imp id (λe=>e.1),hi.elim (λe=>ZgB (hD i e).2 g2.size) (λe=>e.2)⟩)
def ZUA (w:World)(gd:Nat)(g:Zz)(C:Zhf)(xb:Nat->Nat)(L:List Zg)(ks:Z9)(dr:Bool)(ls:Nat->Jj)(D:Nat->Nat->Prop)(n:Nat)(w':World):Prop:=∃D',Yc w' gd g C xb L ks dr (Zr ls n (Xv (ls n))) D'/\GB w w' (Y8 gd C D)/\∀i,Y8 gd C D' i->Y8 gd C D i\/w.heap.size<=i
theorem ZEj (w:World)(gd g C xb L ks dr ls)(D:Nat->Nat->Prop)(n bx)(s:XQ)(u)(h:Yc w gd g C xb L ks dr ls D)(hn:n<63)(hs:(ls n).cn=some s)(cb:w.cell? ⟨bx,0,none⟩=some (.pointer (some ⟨gd,1+n*6,none⟩)))(xN:¬Y8 gd C D bx)(cT:(ls n).wr.length<=1000000)(eg:s.wr.length<=1000000): CallsD prog 100 #[.pointer (some ⟨bx,0,none⟩)] u w λe u' w'=>u'=u/\(e=.returned (.tuple #[])/\ZUA w gd g C xb L ks dr ls D n w'):=Qd
def ZXV (w:World)(gd:Nat)(g:Zz)(C:Zhf)(xb:Nat->Nat)(L:List Zg)(ks:Z9)(dr:Bool)(ls:Nat->Jj)(D:Nat->Nat->Prop)(n:Nat)(w':World):Prop:=∃D',Yc w' gd g C xb L ks dr (Zr ls n (ZDK (ls n))) D'/\GB w w' (Y8 gd C D)/\∀i,Y8 gd C D' i->Y8 gd C D i\/w.heap.size<=i
theorem ZV1 (w gd g C xb L ks dr ls)(D:Nat->Nat->Prop)(n)(s:XQ)(h:Yc w gd g C xb L ks dr ls D)(hn:n<63)(hs:(ls n).cn=some s)(cT:(ls n).wr.length<=1000000)(eg:s.wr.length<=1000000)(pP:s.led.length<=100000)(aX:∀t ∈ s.led,t.key.length<=5000): Calls prog 60 #[.pointer (some ⟨gd,1+n*6,none⟩)] w λe w'=>e=.returned (.tuple #[])/\ZXV w gd g C xb L ks dr ls D n w':=by
 obtain⟨V1,V2,V3,V4⟩:=QA;exact Qd
end
def ZIU (g:Zz)(ks:Z9)(who:Nat):Prop:=∀(w:World) (O C:Zhf) (xb:Nat->Nat) (L:List Zg),YQ w g O C xb L ks->L.length<=100000-> Calls prog 16 #[ZH g.gx,.int .i64 who] w (ZDJ w g O C xb L ks who)
theorem Qj {p:Prop}(h:p:=by
 obtain⟨h1,c0,bu,aE⟩:=h.core;have ST:=ZA (ok w (DO gd D) C xb L h1 hL);unfold ZDJ at ST;rw[hk]at ST;dsimp only[Option.isSome,Option.getD]at ST;have HG:=ZA aE;clear h h1 aE;obtain⟨s2,Hs2⟩:=ZX2 ((YM g.P g.room ks n).1);rw[Hs2.o]at ST ⊢;go_enter func102,ntmps102;go_wp2_with fail;refine ST.o.mono ?_;rintro e w1 ⟨L',C',hl,rfl,hm⟩;obtain⟨a1,a2,a3⟩:=HG.o _ _ _ _ _ hm;obtain⟨W,hW,xW,K0⟩:=Za w1 (.cells #[.bool true,.int .i64 (rp.er:Int),.bool rp.granted,.int .i64 rp.left,.int .i64 rp.wait,.int .i64 rp.ser,.int .i64 rp.now] 41);obtain⟨A2,A3,XW⟩:=Z8 a2 a3 xW;first|(obtain -:=V1;obtain⟨cs,tt,v,hb,hv,aF,hD,-,-,-,az⟩:=(a1.ext xW).lineA hn;obtain⟨-,-,-,-,-,-,-,-,-,v3,-⟩:=id aF;obtain⟨TA,tc,v4,htc,pq⟩:=aF.tail fy)|(obtain⟨base,gc,r,Lb,RO,l0,hc,ep,ak,-,-,fH⟩:=a1.conn hn hs;obtain⟨cs,t,v,hb,hv,aF,-⟩:=a1.lineA hn;obtain⟨-,-,-,-,-,-,-,-,-,v3,-⟩:=aF)
 rw[hrel]at v3;first
 |obtain -:=V2;obtain⟨k,Hk⟩:=ZX2 (ts.length);rw[Hk.o]at v4 htc pq fl;obtain⟨k1,lX⟩:=ZX2 (k+1);rw[lX.o]at v4;obtain⟨d,rfl⟩:∃d,tc=d+1:=⟨tc - 1,by omega⟩;obtain⟨d1,Hd1⟩:=ZX2 (d+1);obtain⟨A',hsl,bB,aH,-⟩:=ZC2 (P:=prog) (s:=3) underlying117 ZOy (A:=TA) (n:=k1) (c:=d1) (m:=k) (d:=d) 1 (ki:=1) rfl (by have:=lX.o;have:=Hd1.o;omega) lX.o.symm Hd1.o.symm;rw[Hd1.o]at v4;have l3:W.cell? ⟨gd,1+n*6+3,none⟩=some (.bool true):=(ZE hb _).trans (by rw[<-v3];exact hv 3 ZB);have l4:W.cell? ⟨gd,1+n*6+4,none⟩=some (.slice TA k1 d1):=(ZE hb _).trans (by rw[<-v4];exact hv 4 ZB);have z3:=ZG hb (1+n*6+3);have z4:=ZG hb (1+n*6+4);have df:¬((k1:Nat):Int)<1:=by have:=lX.o;omega
  obtain⟨HF,HB,HV,HD,G4,gE⟩:=Ju az hb hv hD pq bB;have zC:=ZA aH;have HL:=ZA hl;clear hm a1 a2 a3 az hb hv hD aF pq bB aH v3 v4 hl fl htc
 |have l3:w1.cell? ⟨gd,1+n*6+3,none⟩=some (.bool false):=(ZE hb _).trans (by rw[<-v3];exact hv 3 ZB);have RP:=ZA (λu (y:ZM W u)=>ZGT u base gc r Lb RO s (hc.ext (xW.trans y)) hi da cC c ho rp.er mq.1 rp.granted rp.left rp.wait rp.ser rp.now);have lB:=ZA fH;have HR:=ZA (ZAf mq);obtain⟨HS,HO,HL⟩:=Z8 hs ho hl;clear hm a1 a2 a3 hc fH hb hv v3 hi da cC mq hrel hl hs ho;have p3:=ZF xW l3
 have e0:=ZX1 K0.o 0 (.bool true);first|(obtain -:=V3;clear xW;go_upto_region 4 with fail)|(have e1:=ZX1 K0.o 1 (.int .i64 (rp.er:Int));have e2:=ZX1 K0.o 2 (.bool rp.granted);have e3:=ZX1 K0.o 3 (.int .i64 rp.left);have e4:=ZX1 K0.o 4 (.int .i64 rp.wait);have e5:=ZX1 K0.o 5 (.int .i64 rp.ser);have e6:=ZX1 K0.o 6 (.int .i64 rp.now);have NL:=ZA (show ¬some w1.heap.size ∈ Lb from λe=>Zf9 _ (ak _ e));have NG:=ZA ep;have l0:=ZF xW l0;clear xW ak ep;go_upto_region 1 with fail)
 (try rw[hW]);clear hW;first
 |obtain -:=V4;go_region;go_wp2_with fail;go_end0;refine⟨rfl,?_⟩;obtain⟨b1,v1,j1⟩:=JB HB.o (n:=n) (k0:=3) (v:=v) ZB HV.o (.bool false);obtain⟨b2,v2,j2⟩:=JB b1 (n:=n) (k0:=4) ZB v1 (.slice A' k d);have g2:GB W ((W.setCell ⟨gd,1+n*6+3,none⟩ (.bool false)).setCell ⟨gd,1+n*6+4,none⟩ (.slice A' k d)) (· =gd):=((GB.refl W (· =gd)).set gd _ _ (.inl rfl)).set gd _ _ (.inl rfl);have aF:=(G4.o A' d (λvs DG wP=>gE.o W vs (by rw[<-lX.o];exact DG) wP) zC.o rfl (Zr (Zr v 3 (.bool false)) 4 (.slice A' k d)) false (by rw[ZZ _ _ ZB,ZZ _ _ ZB]) (by rw[ZZ _ _ ZB,ZZ _ _ ZB]) (by rw[ZZ _ _ ZB,ZZ _ _ ZB]) (by rw[ZZ _ _ ZB,Zc]) (by rw[Zc]) (by rw[ZZ _ _ ZB,ZZ _ _ ZB])).gb g2 (λi hi e=>(HD.o i hi).1 e);obtain⟨a1,a2,a3⟩:=HF.o _ _ _ _ _ (g2.more (λi _ e=>.inl e)) b2 v2 (λj hj=>(j2 j hj).trans (j1 j hj)) aF (λi hi=>⟨.inl hi,by simpa using(HD.o i hi).2⟩);exact⟨C',xb,L',_,HL.o,a1.ext (ZM.refl _).drew,A2.o.trans (GB.back XW.o a2.drew) A3.o,λi hi=>(a3 i hi).elim (A3.o i) (λe=>.inr (Zf8 (Zf8 A2.o.size XW.o.size) e))⟩
 |clear l3 c0 e0 p3;go_region_held3 (λw'=>w'.cell? ⟨gd,1+n*6,none⟩=some (ZH gc)/\w'.cell? ⟨w1.heap.size,1,none⟩=some (.int .i64 (rp.er:Int))/\w'.cell? ⟨w1.heap.size,2,none⟩=some (.bool rp.granted)/\w'.cell? ⟨w1.heap.size,3,none⟩=some (.int .i64 rp.left)/\w'.cell? ⟨w1.heap.size,4,none⟩=some (.int .i64 rp.wait)/\w'.cell? ⟨w1.heap.size,5,none⟩=some (.int .i64 rp.ser)/\w'.cell? ⟨w1.heap.size,6,none⟩=some (.int .i64 rp.now)) (((try go_split_ands);exact⟨ZX7,ZX7,ZX7,ZX7,ZX7,ZX7,ZX7⟩)) ((go_at_call 104;(with_reducible refine(RP.o _ (by with_reducible first|exact ZM.refl _|exact(ZM.refl _).drew)).mono ?_);rintro e w2 ⟨q,B,i9,rfl,fE⟩;have it:=ZA i9;have i6:=ZA (Yk.back (XW.o.trans (by with_reducible first|exact ZM.refl _|exact(ZM.refl _).drew)) fE);obtain⟨_,_,_,gg,_⟩:=fE;have rI:=gg.cell (by with_reducible first|exact l0|exact ZJ l0) NG.o;have dk:=gg.cell (by with_reducible first|exact e1|exact ZJ e1) NL.o;have dC:=gg.cell (by with_reducible first|exact e2|exact ZJ e2) NL.o;have ix:=gg.cell (by with_reducible first|exact e3|exact ZJ e3) NL.o;have rJ:=gg.cell (by with_reducible first|exact e4|exact ZJ e4) NL.o;have Kn:=gg.cell (by with_reducible first|exact e5|exact ZJ e5) NL.o;have Km:=gg.cell (by with_reducible first|exact e6|exact ZJ e6) NL.o;clear i9 gg));all_goals
   go_wp2_with fail
   go_end0
   refine⟨rfl,?_⟩;obtain⟨rfl,rfl⟩:=ZO7 rfl it.o HR.o;have aE:=i6.o;rw[Zgl rfl]at aE;obtain⟨b1,b2,b3⟩:=lB.o _ _ aE;have e9:JO (ls n) rp={ls n with cn:=some (YJ s c (rp.er:Int) rp.ser (Y2 rp))}:=by
    unfold JO;rw[HS.o]
    dsimp only
    rw[HO.o]
   rw[e9];exact⟨C',xb,L',_,HL.o,b1,A2.o.trans b2 A3.o,λi hi=>(b3 i hi).elim (A3.o i) (λe=>.inr (Zf8 A2.o.size e))⟩):p:=h
section
variable [Foreign]
theorem ZVT (w gd)(g:Zz)(C xb)(L:List Zg)(ks dr ls)(D:Nat->Nat->Prop)(n)(h:Yc w gd g C xb L ks dr ls D)(hn:n<63)(hL:L.length<=100000)(ok:ZIU g ks n)(hk:(YM g.P g.room ks n).2=none): Calls prog 102 #[ZH gd,.int .i64 n,.pointer (some ⟨gd,1+n*6,none⟩)] w λe w'=>e=.returned (.tuple #[])/\Y0 w gd g C D (L.length+1) (YM g.P g.room ks n).1 dr ls w':=by
 obtain⟨h1,c0,bu,aE⟩:=h.core;have ST:=ZA (ok w (DO gd D) C xb L h1 hL);unfold ZDJ at ST;rw[hk]at ST;have HG:=ZA aE;clear h h1 aE;go_enter func102,ntmps102;go_wp2_with fail;refine ST.o.mono ?_;rintro e w1 ⟨L',C',hl,rfl,hm⟩;have HM:=ZA hm;clear hm;go_wp2_with fail
 go_end0
 obtain⟨a1,a2,a3⟩:=HG.o _ _ _ _ _ HM.o;exact⟨rfl,C',xb,L',D,hl,a1.ext ((ZM.refl w1).alloc _),a2.alloc _,a3⟩
theorem ZTa (w gd)(g:Zz)(C xb)(L:List Zg)(ks dr ls)(D:Nat->Nat->Prop)(n)(h:Yc w gd g C xb L ks dr ls D)(hn:n<63)(hL:L.length<=100000)(ok:ZIU g ks n)(rp)(hk:(YM g.P g.room ks n).2=some rp)(hrel:(ls n).rel=false)(s:XQ)(hs:(ls n).cn=some s)(hi:ZB0 s)(da:s.wr.length<=1000000)(cC:s.led.length<=100000 - 1)(c)(ho:s.out=some c)(mq:ZAN rp): Calls prog 102 #[ZH gd,.int .i64 n,.pointer (some ⟨gd,1+n*6,none⟩)] w λe w'=>e=.returned (.tuple #[])/\Y0 w gd g C D (L.length+1) (YM g.P g.room ks n).1 dr (Zr ls n (JO (ls n) rp)) w':=Qj
theorem ZM7 (k t ks l):ZBM (k::ks) (t::l)=ZJz k t++ZBM ks l:=by
 unfold ZBM;rw[Zfu,Zex]
theorem Jz.tail(h:Jz w D v l){t:Jp}(ht:l.toks=t::ts): ∃(TA:Option Addr) (tc:Nat),v 4=.slice TA (ts.length+1) tc/\ts.length+1<=tc/\∀(A':Option Addr) (d:Nat),(∀(vs:List Value),vs.length=(ts.length+1)*3->Rd w TA vs->Rd w A' (vs.drop (1*3)))->(∀a,A'=some a->∃a',TA=some a'/\a'.block=a.block)->tc=d+1-> ∀(v':Nat->Value) (rel:Bool),v' 0=v 0->v' 1=v 1->v' 2=v 2->v' 3=.bool rel->v' 4=.slice A' ts.length d->v' 5=v 5->Jz w D v' {l with toks:=ts,rel:=rel}:=by
 obtain⟨WA,TA,wc,tc,tk,Lb,T,h1,h2,h3,h4,h5,h6,h7,h8,h9,bD,bQ,bL,bP,bO⟩:=h;rw[ht]at h4 h8 h9;obtain⟨yj,h9b,Fi⟩:=h9;cases tk with
 |nil=>simp at yj
 |cons k ks=>
  have aX:ks.length=ts.length:=by simpa using yj
  refine⟨TA,tc,h4,h8,λA' d hr hb hd v' rel q0 q1 q2 q3 q4 q5=>?_⟩;have bB:=hr (ZBM (k::ks) (t::ts)) (by unfold ZBM;rw[ZKy ZJz 3 (λ_ _=>rfl) _ _ yj];rfl) h9b;rw[ZM7]at bB;refine⟨WA,A',wc,d,ks,Lb,T,q1.trans h1,q2.trans h2,q3,q4,q5.trans h5,h6,h7,by show ts.length<=d;simp only[ZfF]at h8;omega,⟨aX,bB,λp hp=>Fi p (by rw[Zfu];exact ZfP _ hp)⟩,λa ha=>?_,λk9 xq=>bQ k9 (ZfP _ xq),bL,bP,by rw[q0];exact bO⟩;obtain⟨a',e1,e2⟩:=hb a ha;rw[<-e2];exact bD a' e1
theorem ZTb (w gd)(g:Zz)(C xb)(L:List Zg)(ks dr ls)(D:Nat->Nat->Prop)(n)(h:Yc w gd g C xb L ks dr ls D)(hn:n<63)(hL:L.length<=100000)(ok:ZIU g ks n)(rp)(hk:(YM g.P g.room ks n).2=some rp)(hrel:(ls n).rel=true)(t)(ts:List Jp)(fy:(ls n).toks=t::ts)(fl:ts.length<=100000): Calls prog 102 #[ZH gd,.int .i64 n,.pointer (some ⟨gd,1+n*6,none⟩)] w λe w'=>e=.returned (.tuple #[])/\Y0 w gd g C D (L.length+1) (YM g.P g.room ks n).1 dr (Zr ls n {ls n with toks:=ts,rel:=false}) w':=by
 obtain⟨V1,V2,V3,V4⟩:=QA;exact Qj
end
theorem Q5 {p:Prop}(h:p:=by
 obtain⟨cs,t,v,hb,hv,aF,-⟩:=h.lineA hn;obtain⟨-,-,-,-,-,-,-,v1,-⟩:=aF;first|(obtain -:=V1;rw[aB]at v1;have c1:w.cell? ⟨gd,1+n*6+1,none⟩=some (.int .i64 0):=(ZE hb _).trans (by have:=hv 1 ZB;rw[v1]at this;exact this))|(obtain⟨st,Hst⟩:=ZX2 ((ls n).st);rw[Hst.o]at v1 aB;have c1:w.cell? ⟨gd,1+n*6+1,none⟩=some (.int .i64 st):=(ZE hb _).trans (by rw[<-v1];exact hv 1 ZB))
 have IS:=ZA (ZBk n w hn);first
 |obtain -:=V2
 |have b1:((st:Int)==0)=false:=by rw[Zgb];omega
  have hi:(0:Int)<=(n:Int)/\(n:Int)<((63:Nat):Int):=⟨by omega,by omega⟩
 have nM:(0:Int)<=(n:Int)/\(n:Int)<63:=⟨by omega,by omega⟩;clear h hb hv v1;go_enter func56,ntmps56;go_wp2_with fail;refine IS.o.mono ?_;rintro e w1 ⟨rfl,rfl⟩;go_wp2_with fail;go_ret;exact⟨rfl,rfl⟩):p:=h
section
variable [Foreign]
theorem ZBk (n:Nat)(w:World)(h:n<63):Calls prog 54 #[.int .i64 n] w λe w'=>e=.returned (.bool true)/\w=w':=by
 have h1:(0:Int)<=(n:Int):=by omega
 have h2:(n:Int)<63:=by omega
 go_enter func54,ntmps54;go_wp2_with fail;go_ret;exact⟨rfl,rfl⟩
theorem ZBH (w gd g C xb L ks dr ls)(D:Nat->Nat->Prop)(n)(h:Yc w gd g C xb L ks dr ls D)(hn:n<63)(aB:(ls n).st≠0): Calls prog 56 #[ZH gd,.int .i64 n] w λe w'=>e=.returned (.pointer (some ⟨gd,1+n*6,none⟩))/\w=w':=Q5
theorem ZD9 (w gd g C xb L ks dr ls)(D:Nat->Nat->Prop)(n)(h:Yc w gd g C xb L ks dr ls D)(hn:n<63)(aB:(ls n).st=0): Calls prog 56 #[ZH gd,.int .i64 n] w λe w'=>e=.returned (.pointer none)/\w=w':=by
 obtain⟨V1,V2⟩:=QA;exact Q5
theorem ZOK (w:World)(gd:Nat)(g:Zz)(C:Zhf)(xb:Nat->Nat)(L:List Zg)(ks:Z9)(dr:Bool)(ls:Nat->Jj)(D:Nat->Nat->Prop)(n:Nat)(h:Yc w gd g C xb L ks dr ls D)(hn:n<63): Calls prog 23 #[ZH gd,.int .i64 n] w λe w'=>e=.returned (.int .i64 ((ls n).st:Int))/\w=w':=by
 by_cases aB:(ls n).st=0
 ·have LN:=ZA (ZD9 w gd g C xb L ks dr ls D n h hn aB);rw[aB];clear h;go_enter func23,ntmps23;go_wp2_with fail;refine LN.o.mono ?_;rintro e w1 ⟨rfl,rfl⟩;go_wp2_with fail;go_ret;exact⟨rfl,rfl⟩
 ·have LN:=ZA (ZBH w gd g C xb L ks dr ls D n h hn aB);obtain⟨cs,t,v,hb,hv,aF,-⟩:=h.lineA hn;obtain⟨-,-,-,-,-,-,-,v1,-⟩:=aF;obtain⟨st,Hst⟩:=ZX2 ((ls n).st);rw[Hst.o]at v1 ⊢;have c1:w.cell? ⟨gd,1+n*6+1,none⟩=some (.int .i64 st):=(ZE hb _).trans (by rw[<-v1];exact hv 1 ZB);clear h hb hv v1;go_enter func23,ntmps23;go_wp2_with fail;refine LN.o.mono ?_;rintro e w1 ⟨rfl,rfl⟩;go_wp2_with fail;go_ret;exact⟨rfl,rfl⟩
theorem ZTV (w:World)(gd g C xb L ks dr ls)(D:Nat->Nat->Prop)(n m)(h:Yc w gd g C xb L ks dr ls D)(hn:n<63)(hm:(ls n).wr.length=m)(im:m<=1000000): Calls prog 25 #[ZH gd,.int .i64 n] w λe w'=>∃A c,e=.returned (.slice A m c)/\w'.ownsRow w.heap.size 5 1 (.slice A m c) m (ZT .u8 (ls n).wr)/\ZM w w':=by
 obtain⟨cs,t,v,hb,hv,aF,-⟩:=h.lineA hn;obtain⟨WA,-,wc,-,-,-,-,-,v2,-,-,-,ho,-⟩:=aF;rw[hm]at v2 ho;have c2:w.cell? ⟨gd,1+n*6+2,none⟩=some (.slice WA m wc):=(ZE hb _).trans (by rw[<-v2];exact hv 2 ZB);have CL:=ZA (ZCS WA m wc (ls n).wr w hm ZB (Rd.of_own ho));have IS:=ZA (ZBk n w hn);have nM:(0:Int)<=(n:Int)/\(n:Int)<63:=⟨by omega,by omega⟩;have Hm:=ZA hm;clear h hb hv v2 ho hm;go_enter func25,ntmps25;go_wp2_with fail;refine IS.o.mono ?_;rintro e w1 ⟨rfl,rfl⟩;go_wp2_with fail;refine CL.o.mono ?_;rintro e w1 ⟨A,c,rfl,ho,hx⟩;have HO:=ZA ho;have HX:=ZA hx;clear ho hx;go_wp2_with fail;go_ret;rw[<-Hm.o];exact⟨A,c,rfl,HO.o,HX.o⟩
end
def ZVp (w:World)(base:Nat)(c:Zy)(v:Value):Prop:=∃A k,v=.agg #[.int .u8 (c.op:Int),.int .i64 (c.pol:Int),.slice A c.key.length k,.int .i64 (c.num:Int)]/\w.ownsRow base 5 1 (.slice A c.key.length k) c.key.length (ZT .u8 c.key)
theorem ZJc (w:World)(base gc r)(L:List (Option Nat))(RO)(s:XQ)(h:Z3 w base L RO gc r s)(ho:s.out=none)(hc:s.closed=false)(c:Zy)(rest)(hl:s.line=c::rest)(hk:c.key.length<=5000): Calls prog 103 #[.pointer (some ⟨gc,0,none⟩)] w λx w'=>∃v,x=.returned (.tuple #[v,.int .i64 0])/\ZVp w' w.heap.size c v/\Yk w base L RO gc r {s with line:=rest,out:=some c} w':=by
 obtain⟨W,hW,xW,KW⟩:=Za w (.cells #[.int .u8 0,.int .i64 0,.slice none 0 0,.int .i64 0] 34);obtain⟨ao,cp,ov,d1,-,d3,d6,fz,o1,kS⟩:=(h.ext xW).cells;rw[ho]at o1;obtain rfl:=o1;rw[hc]at d6;rw[hl]at d1;simp only[ZfF]at d1;have f1:=fz 1;have f3:=fz 3;obtain⟨b,off,cap,K,kc,v',tI,q0,q1,q2,q3,cM,bB,aC,⟨va,vc,rfl⟩,dy,aE⟩:=(h.ext xW).next hl
 rw[d1]at tI;injection tI with tI;injection tI with e1 _ e2;subst e1 e2;obtain⟨op,pol,key,num⟩:=c
 dsimp only[ZCt]at q0 q1 q2 q3 cM bB aE hk ⊢
 obtain⟨m,Hm⟩:=ZX2 (key.length);rw[Hm.o]at q2 cM aE hk;obtain⟨n,Hn⟩:=ZX2 (rest.length);rw[Hn.o]at d1 aC aE;obtain⟨V,hV,xV,KV⟩:=Za W (.cells #[.int .u8 op,.int .i64 pol,.slice K m kc,.int .i64 num] 34);obtain⟨L',lr,k1,k2,k3⟩:=aE V W.heap.size xV KV.o (Zf6 _);obtain⟨K1,K2,K3⟩:=Z8 k1 k2 k3;obtain⟨H,XW,XV,gE⟩:=ZAU h xW xV bB;have e1:V.cell? ⟨gc,1,none⟩=some (.slice (some ⟨b,off,none⟩) (n+1) cp):=ZF xV d1;have e3:=ZF xV d3;have h1:=Jf xV d1 f1;have h3:=Jf xV d3 f3;clear h ho hc hl fz bB aE k1 k2 k3 xW xV;go_enter func103,ntmps103;go_upto_region 1 with fail
 (try rw[hW])
 clear hW;go_upto_region 11 with fail
 (try rw[hV])
 clear hV d1 d3 q0 q1 q2 q3;go_upto_region 13 with fail;obtain⟨X,hX⟩:=ZX3 ((V.setCell ⟨gc,1,none⟩ (.slice va n vc)).setCell ⟨gc,3,none⟩ (.pointer (some ⟨W.heap.size,0,none⟩)));have gX:GB V X (· =gc):=by rw[<-hX];exact((GB.refl V (· =gc)).set gc 1 _ (.inl rfl)).set gc 3 _ (.inl rfl)
 rw[hX]at K1
 (try rw[hX])
 clear hX;have Dh:¬w.heap.size=gc:=by have:=(H.o.bounds.2.1 gc H.o.bounds.1).2;omega
 have Dg:¬W.heap.size=gc:=by omega
 have x4:=gX.blk KV.o Dg;have x2:=gX.blk (ZK KW.o XV.o) Dh;have X2:=ZA x2;have nb:¬W.heap.size=w.heap.size:=by have:=ZX KW.o;omega
 have a0:=ZX1 x4 0 (.int .u8 op);have a1:=ZX1 x4 1 (.int .i64 pol);have a2:=ZX1 x4 2 (.slice K m kc);have a3:=ZX1 x4 3 (.int .i64 num);have CL:=ZA (λu (y:ZM X u)=>ZBW K m kc key u Hm.o ZB ((gX.rd (gE.o.ext XV.o) (λp hp e=>(H.o.bounds.2.2 _ (dy p hp)).1 (by rw[e];exact H.o.bounds.1))).ext y));have GX:=ZA gX;clear e1 e3 h1 h3 f1 f3 x4 x2 gX d6
 go_region_held3 (λu=>u.cell? ⟨W.heap.size,0,none⟩=some (.int .u8 op)/\u.cell? ⟨W.heap.size,1,none⟩=some (.int .i64 pol)/\u.cell? ⟨W.heap.size,2,none⟩=some (.slice K m kc)/\u.cell? ⟨W.heap.size,3,none⟩=some (.int .i64 num)) (((try dsimp only);refine⟨?_,?_,?_,?_⟩<;>with_reducible first|assumption|exact ZJ a0|exact ZJ a1|exact ZJ a2|exact ZJ a3|exact ZEB b0 nb|exact ZEB b1 nb|exact ZEB b2 nb|exact ZEB b3 nb)) (first|(go_at_call 67;(with_reducible refine(CL.o _ (by first|exact ZM.refl X|exact(ZM.refl X).drew)).mono ?_);rintro e w4 ⟨A4,c4,rfl,ho4,y0⟩;have y:=(ZM.refl X).drew.trans y0;rw[Hm.o]at ho4 ⊢;have Y:=ZA y;have k4:=ZK X2.o y;have iu:=ZA ho4;have b0:=ZF y a0;have b1:=ZF y a1;have b2:=ZF y a2;have b3:=ZF y a3;have z0:=ZE k4 0;have z1:=ZE k4 1;have z2:=ZE k4 2;have z3:=ZE k4 3;have t0:=ZG k4 0;have t1:=ZG k4 1;have t2:=ZG k4 2;have t3:=ZG k4 3;have K4:=ZA k4;clear ho4 y y0 k4))
 all_goals
  have dG:=ZR (ZR (ZR (ZR K4.o 0 (.int .u8 op)) 1 (.int .i64 pol)) 2 (.slice A4 m c4)) 3 (.int .i64 num);go_wp2_with fail;refine Zgd (Yy (p:=2) (u:=3) rfl _ _ w.heap.size _ #[.int .u8 op,.int .i64 pol,.slice A4 m c4,.int .i64 num] (0,0) _ rfl dG underlying34 ZX0 ZC) rfl ?_;refine⟨_,rfl,⟨A4,c4,by rw[Hm.o],?_⟩,ZGV H.o XW.o (ZX KW.o) (GB.of_ext _ XV.o) (λb e=>.inl (K2.o b e)) (λb e=>(K3.o b e).imp id (λe=>.inr (Nat.le_of_eq e.symm))) (K1.o.ext Y.o) (GX.o.ext Y.o) (((((GB.refl _ (· =w.heap.size)).set _ 0 _ (.inl rfl)).set _ 1 _ (.inl rfl)).set _ 2 _ (.inl rfl)).set _ 3 _ (.inl rfl))⟩;rw[Hm.o];have hz:w.heap.size<=X.heap.size:=Zf8 (Zf8 XW.o.size XV.o.size) GX.o.size;have bY:w.heap.size<X.heap.size:=ZgB (ZX KW.o) (Zf8 XV.o.size GX.o.size);exact Zj ((((((GB.refl w4 (· =w.heap.size)).set _ 0 _ (.inl rfl)).set _ 1 _ (.inl rfl)).set _ 2 _ (.inl rfl)).set _ 3 _ (.inl rfl)).own iu.o (λq e e2=>by have:=(iu.o.lt q e).1;have h9:X.heap.size<=q:=this;omega)) hz
theorem ZBi.more{O:Zhf}{q:Nat}(h:ZBi w (XO C O) g)(hq:∀a,g.PA=some a->a.block<q):ZBi w (XO (λi=>C i\/i=q) O) g:=
 ⟨h.c0,h.c1,h.c2,h.l0,h.l1,h.b0,h.prd,λa ha=>⟨λe=>by
  rcases e with(e|e)|e
  ·exact(h.pfz a ha).1 (.inl e)
  ·have:=hq a ha;omega
  ·exact(h.pfz a ha).1 (.inr e),(h.pfz a ha).2⟩⟩
theorem QJ {p:Prop}(h:p:=by
 intro w gd C xb L D h hL;obtain⟨ks,ls,dr⟩:=a;first|(obtain -:=V1;dsimp only at aC aB bM hb ak h ⊢)|(obtain -:=V2;dsimp only at aC aB bM SC gO h ⊢)|(obtain -:=V3;dsimp only at aC aB bM gO h ⊢)|(obtain -:=V4;dsimp only at aC aB bM gO dS h ⊢)|(obtain -:=V5;dsimp only at aC aB bM SC AC h ⊢)|dsimp only at aC AC h ⊢
 have bU:=Jt;obtain⟨W,hW,xW,-⟩:=Za w (.cells #[.pointer (some ⟨gd,1+n*6,none⟩)] 165);have k0:W.heap[w.heap.size]?=some (.cells #[.pointer (some ⟨gd,1+n*6,none⟩)] 165 (0,0)):=by rw[<-hW];exact ZV w _
 have hA:=h.ext xW;have PN:=ZA (ZCk hA n hn);rw[aC]at PN;first|(obtain -:=V6;have uo:=ZA (AC W gd C xb L D hA hL))|skip
 have aM:=ZA h.lt;first|(obtain -:=V7)|obtain⟨-,c0,-⟩:=hA.core
 have b0:=ZX1 k0 0 (.pointer (some ⟨gd,1+n*6,none⟩));first
 |obtain -:=V8
 |obtain -:=V9;obtain⟨cs,t,v,dU,hv,aF,hD,-,-,-,az⟩:=hA.lineA hn;obtain⟨-,-,-,-,-,-,-,v1,-,-,-,v5,-⟩:=id aF;rw[aB]at v1;have c1:W.cell? ⟨gd,1+n*6+1,none⟩=some (.int .i64 2):=(ZE dU _).trans (by have:=hv 1 ZB;rw[v1]at this;exact this);obtain⟨lk,Hlk⟩:=ZX2 ((ls n).looked);rw[Hlk.o]at v5;have c5:W.cell? ⟨gd,1+n*6+5,none⟩=some (.bool lk):=(ZE dU _).trans (by rw[<-v5];exact hv 5 ZB);obtain⟨base,gc,r,Lb,RO,ip,bg,ep,fJ,-,-,fH⟩:=hA.conn hn bM;have LE:=ZA (λu (y:ZM W u)=>ZGX u base gc r Lb RO s (bg.ext y) cC aX);obtain⟨HA,HBK,HV,iZ,HD,Ce⟩:=Ju hA dU hv aF hD az;obtain⟨m,Hm⟩:=ZX2 (s.led.length);unfold ZXS at LE;rw[Hm.o]at LE cC
 |obtain -:=V10;obtain⟨cs,t,v,hb,hv,aF,-⟩:=hA.lineA hn;obtain⟨-,-,-,-,-,-,-,v1,-⟩:=id aF;rw[aB]at v1;obtain⟨-,c0,-⟩:=hA.core;have c1:W.cell? ⟨gd,1+n*6+1,none⟩=some (.int .i64 1):=(ZE hb _).trans (by have:=hv 1 ZB;rw[v1]at this;exact this);obtain⟨base,gc,r,Lb,RO,ip,bg,ep,fJ,-,-,fH⟩:=hA.conn hn bM;obtain⟨fe,mN⟩:=ZX2 (s.fin);have NX:=ZA (ZRV W base gc r Lb RO s bg ZB ho hcl fm fe mN.o (by rw[<-mN.o];exact uN) (by rw[<-mN.o];exact hf));have BR:=ZA (λq B (h:ZDr (fe:Int) false [0,0,0,0] q B)=>ZMi mN.o (by rw[<-mN.o];exact hf) uL h);obtain⟨s1,yO⟩:=ZX2 (ZKh s);have aG:s1.wr.length<=90038/\s1.led=s.led:=by
   rw[<-yO.o];refine⟨?_,rfl⟩;show(s.wr++(Js (Y2 (YY s.fin)).length++Y2 (YY s.fin))).length<=90038;have e:(Y2 (YY s.fin)).length=34:=rfl;rw[ZfE,ZfE,e];have e4:(Js 34).length=4:=rfl;omega
  rw[yO.o]at BR ⊢
 |obtain -:=V11;obtain⟨cs,t,v,hb,hv,aF,-,d3,-⟩:=hA.lineA hn;obtain⟨-,-,-,-,-,-,-,v1,-⟩:=id aF;rw[aB]at v1;rw[dS]at d3;have c3:W.cell? ⟨gd,379,none⟩=some (.bool false):=(ZE hb _).trans d3;obtain⟨-,c0,-⟩:=hA.core;have c1:W.cell? ⟨gd,1+n*6+1,none⟩=some (.int .i64 1):=(ZE hb _).trans (by have:=hv 1 ZB;rw[v1]at this;exact this);obtain⟨base,gc,r,Lb,RO,ip,bg,-⟩:=hA.conn hn bM;have NX:=ZA (ZOV W base gc r Lb RO s bg ho hcl fm hf)
 |obtain⟨cs,t,v,hb,hv,aF,-⟩:=hA.lineA hn;obtain⟨-,-,-,-,-,-,-,v1,-⟩:=id aF;rw[aB]at v1;have c1:W.cell? ⟨gd,1+n*6+1,none⟩=some (.int .i64 1):=(ZE hb _).trans (by have:=hv 1 ZB;rw[v1]at this;exact this);obtain⟨base,gc,r,Lb,RO,ip,bg,ep,fJ,-,-,fH⟩:=hA.conn hn bM;have NX:=ZA (ZJc W base gc r Lb RO s bg ho hcl c rest fm ZB)
 have HB:=ZA b0;have HK:=ZA (ZX k0);have XW:=ZA xW;first|(obtain -:=V12;have gF:=ZA (λe=>Y8.not_new h (Zf6 w.heap.size) e);have uj:=ZA bM;have Hb:=ZA hb;clear h hA k0 xW aC aB bM hb aF v1 v5 bg fH ep fJ dU hv hD az)|(obtain -:=V13;have lB:=ZA fH;have gF:=ZA (λe=>Y8.not_new h (Zf6 w.heap.size) e);have t7:=ZA SC;have uj:=ZA bM;have HI:=ZA (ZJe hi fm);have HW:=ZA hW;clear h hA SC k0 xW aC aB bM ho hcl fm hb hv aF v1 bg fH ep fJ hi hW)|(obtain -:=V14;have lB:=ZA fH;have gF:=ZA (λe=>Y8.not_new h (Zf6 w.heap.size) e);have IF:=ZA (λ(u:World) (D':Nat->Nat->Prop) (h:Yc u gd g C xb L ks dr (Zr ls n {ls n with cn:=some s1}) D')=>ZV1 u gd g C xb L ks dr _ D' n s1 h hn (by rw[Zc]) (by rw[Zc];show(ls n).wr.length<=_;omega) (by have:=aG.1;omega) (by rw[aG.2];exact cC) (by rw[aG.2];exact aX));have zd:=ZA aG;clear h hA k0 xW aC aB bM ho hcl fm uL uN hf da cC aX hb hv aF v1 bg fH ep fJ aG)|(obtain -:=V15;have gF:=ZA (λe=>Y8.not_new h (Zf6 w.heap.size) e);obtain⟨HA,uj,Mi,HW⟩:=ZAU hA bM c3 hW;clear h hA k0 xW aC aB bM ho hcl fm hf hb hv aF v1 bg hW d3)|(obtain -:=V16;have lB:=ZA fH;have gF:=ZA (λe=>Y8.not_new h (Zf6 w.heap.size) e);obtain⟨Mg,zE,t7,uj,j8⟩:=ZBR fm AC SC bM c0;clear h hA AC SC k0 xW aC aB bM ho hcl fm hb hv aF v1 bg fH ep fJ)|clear h hA AC k0 xW aC hL
 go_enter_defers func58,ntmps58;go_upto_region 2 with fail;first|(obtain -:=V17;(try rw[HW.o]);clear HW)|((try rw[hW]);clear hW)
 go_wp2_with fail;refine PN.o.mono ?_;rintro e w1 ⟨rfl,rfl⟩;first
 |obtain -:=V18;go_upto_if 72 with fail;go_cut []from 73 to 84 (λwd=>ZV8 W gd g C xb L ks dr ls D n (Jb (ls n) s) wd);case first=>
   cases lk with
   |true=>
    go_wp2_with fail;go_meet;have e9:Jb (ls n) s=ls n:=Zgl Hlk.o;rw[e9];exact⟨D,by rw[ZA5];exact HA.o,GB.refl _ _,λi hi=>.inl hi⟩
   |false=>
    go_upto_region 14 with fail;have c4:W.cell? ⟨gd,1+n*6+4,none⟩=some (v 4):=(ZE HBK.o _).trans (HV.o 4 ZB);have z4:=ZG HBK.o (1+n*6+4);have z5:=ZG HBK.o (1+n*6+5);have NB:=ZA (show ¬w.heap.size=gd from λe=>gF.o (.inr (.inl e)));have N4:=ZA (show ¬1+n*6=1+n*6+4 by omega);have N5:=ZA (show ¬1+n*6=1+n*6+5 by omega);have Gk:=ZA (show ¬1+n*6+4=1+n*6+5 by omega);have Gj:=ZA (show ¬1+n*6+5=1+n*6+4 by omega);go_region_held3 (λw'=>w'.cell? ⟨w.heap.size,0,none⟩=some (.pointer (some ⟨gd,1+n*6,none⟩))/\w'.cell? ⟨gd,1+n*6,none⟩=some (ZH gc)) (((try go_split_ands);refine⟨?_,?_⟩<;>(repeat (with_reducible first|exact b0|exact ip|exact iz|exact oQ|refine ZJ ?_|refine Zd ?_ NB.o|refine XE ?_ N4.o|refine XE ?_ N5.o)))) ((go_at_call 71;(with_reducible refine(LE.o _ (by with_reducible first|exact ZM.refl _|exact(ZM.refl _).drew)).mono ?_);rintro e w3 ⟨A,tc,tk,rfl,hT,hx⟩;have HT:=ZA hT;have HX:=ZA ((show ZM W _ from by with_reducible first|exact ZM.refl _|exact(ZM.refl _).drew).trans hx);have iz:=ZF HX.o b0;have oQ:=ZF HX.o ip;have CM:=ZF HX.o c4;have CJ:=ZF HX.o c5;have Kh:=Jf HX.o c4 z4;have Kg:=Jf HX.o c5 z5;have Ke:=XE (u:=.slice A m tc) CJ Gj.o;have Kf:=XE (u:=.bool true) CM Gk.o;clear hT hx));all_goals
     go_wp2_with fail
     go_meet
     exact ZU1 HA.o hn HBK.o HV.o iZ.o HD.o Ce.o Hlk.o HX.o (by rw[Hm.o];exact HT.o) Hm.o rfl
  case rest=>
   obtain⟨D1,h1,g1,n1⟩:=hcut;have kx:¬Y8 gd C D1 w.heap.size:=λe=>(n1 _ e).elim gF.o (λe=>by have:=HK.o;omega);have dG:=g1.cell HB.o gF.o;obtain⟨LS,t1,u,hbk1,hu,hln1,vd,-,-,-,gS⟩:=h1.lineA hn;rw[Zc]at hln1;simp only[ZAt]at gS;rcases Hb.o with⟨fy,cT,eg,rfl⟩|⟨t,ts,l',s',ks',fy,rfl,fC,xn,SC,AC,pB,cT,eg⟩
   ·obtain⟨-,TA,-,tc,-,-,-,u1,-,-,u4,-⟩:=id hln1;rw[fy]at u4;have d4:wc.cell? ⟨gd,1+n*6+4,none⟩=some (.slice TA 0 tc):=(ZE hbk1 _).trans (by have:=hu 4 ZB;rw[u4]at this;exact this);have d1:wc.cell? ⟨gd,1+n*6+1,none⟩=some (u 1):=(ZE hbk1 _).trans (hu 1 ZB);have y1:=ZG hbk1 (1+n*6+1);obtain⟨H1,G1,N1,NB1,mR,HU⟩:=Ju h1 g1 n1 kx hbk1 hu;obtain⟨HLN1,HD1,zw,j9,GZ⟩:=ZBR hln1 vd gS dG fy;clear h1 g1 n1 kx hbk1 hu hln1 vd gS fy u1 u4;go_wp2_with fail;obtain⟨q1,q2,q3⟩:=JB mR.o (n:=n) (k0:=1) (v:=u) ZB HU.o (.int .i64 0);have gs:GB wc (wc.setCell ⟨gd,1+n*6+1,none⟩ (.int .i64 0)) (· =gd):=(GB.refl wc (· =gd)).set gd _ _ (.inl rfl);have nI:=(HLN1.o.gb gs (λi hi e=>(HD1.o i hi).1 e)).state (v':=Zr u 1 (.int .i64 0)) (st:=0) (ZZ _ _ ZB) (Zc _ _ _) (ZZ _ _ ZB) (ZZ _ _ ZB) (ZZ _ _ ZB) (ZZ _ _ ZB);obtain⟨p1,p2,p3⟩:=zw.o _ _ _ _ _ (gs.more (λi _ e=>.inl e)) q1 q2 q3 nI (λi hi=>⟨.inl hi,by simpa using(HD1.o i hi).2⟩);have HG:Y0 W gd g C D (L.length+1) ks dr (Zr ls n {Jb (ls n) s with st:=0}) _:=Y0.put (Zf7 _) G1.o N1.o p1 p2 p3;obtain⟨C2,xb2,L2,D2,hl,h1,g1,n1,hb,cL⟩:=HG.box aM.o (Zf6 _) HK.o HB.o;refine Zgn (f:=100) (args:=#[.pointer (some ⟨w.heap.size,0,none⟩)]) ZXz (by simp[go_sem]) ?_;refine(ZEj _ gd g C2 xb2 L2 ks dr _ D2 n w.heap.size s .returning h1 hn (by rw[Zc];exact(ZLt _ _).trans uj.o) hb cL (by rw[Zc];show(Jb (ls n) s).wr.length<=_;rw[ZLs];exact cT) eg).mono ?_;rintro e u' w5 ⟨rfl,rfl,cS⟩;exact⟨_,Zgr rfl _ _ _,rfl,Y0.took XW.o hl g1 n1 cS⟩
   ·obtain⟨-,TA,-,tc,tk,L7,T,u1,-,u3,u4,-,-,-,eX,cS,-,gP,hTD,-⟩:=id hln1;rw[fy]at u4 cS eX;obtain⟨bt,off,K,kc,rfl,hkmem,x0,x1,x2,cM,As⟩:=cS.at_ (i:=0) (t:=t) rfl;have NK:=ZA (show ∀a,K=some a->D1 n a.block from λa ha=>(hTD _ (gP _ (ZfU hkmem) a ha)).1);obtain⟨k1,lX⟩:=ZX2 ((t::ts).length);have je:1<=k1:=by rw[<-lX.o];simp
    rw[lX.o]at u4 eX;obtain⟨kn,Hkn⟩:=ZX2 (t.key.length);rw[Hkn.o]at x1 cM xn;simp only[ZgS,Zf2]at x0 x1 x2;obtain⟨pn,Hpn⟩:∃pn:Nat,ZD (t.pol.toNat=pn):=⟨_,rfl⟩;have qU:t.pol=(pn:Int):=by have:=Hpn.o;omega
    obtain⟨ser,Hser⟩:=ZX2 (t.ser);rw[qU]at x0;rw[Hser.o]at x2;have d4:wc.cell? ⟨gd,1+n*6+4,none⟩=some (.slice (some ⟨bt,off,none⟩) k1 tc):=(ZE hbk1 _).trans (by have:=hu 4 ZB;rw[u4]at this;exact this);have d3:wc.cell? ⟨gd,1+n*6+3,none⟩=some (u 3):=(ZE hbk1 _).trans (hu 3 ZB);have y3:=ZG hbk1 (1+n*6+3);have AR:(0:Int)<=0/\(0:Int)<(k1:Int):=⟨by omega,by omega⟩;obtain⟨H1,G1,N1,NB1,mR,HU⟩:=Ju h1 g1 n1 kx hbk1 hu;obtain⟨HLN1,HD1,zw,j9,GZ,HRK⟩:=Ju hln1 vd gS dG fy As;have t7:=ZA SC;have zE:=ZA AC;clear h1 g1 n1 kx hbk1 hu hln1 vd gS fy u1 u3 u4 qU As cS eX SC AC gP hTD hkmem;go_upto_region 18 with fail;obtain⟨W2,cN,el,K2⟩:=Za wc (.cells #[.int .i64 pn,.slice K kn kc,.int .i64 ser] 120);(try rw[cN]);clear cN;have di:=ZF el j9.o;have BA:=ZF el d3;have rF:=Jf el d3 y3;have vl:=ZA el;have ep:gd<wc.heap.size:=ZX mR.o;clear d3 y3 d4 x0 x1 x2 el b0 c0 c1 c5 ip;go_upto_region 19 with fail;obtain⟨X,hX⟩:=ZX3 (W2.setCell ⟨gd,1+n*6+3,none⟩ (.bool true));have gs:GB W2 X (· =gd):=by rw[<-hX];exact(GB.refl W2 (· =gd)).set gd _ _ (.inl rfl)
    obtain⟨q1,q2,q3⟩:=JB (ZK mR.o vl.o) (n:=n) (k0:=3) (v:=u) ZB HU.o (.bool true);rw[hX]at q1;have yl:GB wc X (λi=>i=gd\/D1 n i):=GB.back vl.o (gs.more (λi _ e=>.inl e));have nI:=((HLN1.o.ext vl.o).gb gs (λi hi e=>(HD1.o i hi).1 e)).setrel (v':=Zr u 3 (.bool true)) (rel:=true) (ZZ _ _ ZB) (ZZ _ _ ZB) (ZZ _ _ ZB) (Zc _ _ _) (ZZ _ _ ZB) (ZZ _ _ ZB);obtain⟨p1,p2,p3⟩:=zw.o _ _ _ _ _ yl q1 q2 q3 nI (λi hi=>⟨.inl hi,ZgB (HD1.o i hi).2 yl.size⟩);rw[ZA5]at p1 p3;have zW:¬wc.heap.size=gd:=by omega
    have k3:=gs.blk K2.o zW;have e0:=ZX1 k3 0 (.int .i64 pn);have e1:=ZX1 k3 1 (.slice K kn kc);have e2:=ZX1 k3 2 (.int .i64 ser);have iC:¬w.heap.size=gd:=λe=>gF.o (.inr (.inl e));have zB:=ZA (gs.cell di iC);obtain⟨fp,g0,-,az⟩:=p1.core;have RK:=ZA (gs.rd (HRK.o.ext vl.o) (λa ha e=>(HD1.o _ (NK.o a ha)).1 e));have SCC:=λu (y:ZM X u)=>t7.o u (DO gd D1) C xb L K kn kc (fp.ext y) Hkn.o cM (RK.o.ext y)
    dsimp only[ZHF]at SCC;rw[Hpn.o,Hser.o,show((3:Nat):Int)=3 from rfl]at SCC;have SCC:=ZA SCC;have dP:=ZA az;have HCL:=ZA fp.lt;have yD:=ZA H1.o.lt;have n8:=ZA (show ¬C wc.heap.size from λe=>by have:=yD.o _ (.inl e);omega);have yC:=ZA (show ¬C gd from λe=>fp.co _ e (.inl (.inl rfl)));obtain⟨P2,P3,HX⟩:=Z8 p2 p3 hX;clear p1 p2 p3 fp az nI q1 q2 q3 yl gs k3 zW iC di BA rF hX;(try rw[HX.o]);go_region_held3 (λw'=>w'.cell? ⟨gd,0,none⟩=some (ZH g.gx)/\w'.cell? ⟨wc.heap.size,0,none⟩=some (.int .i64 pn)/\w'.cell? ⟨wc.heap.size,1,none⟩=some (.slice K kn kc)/\w'.cell? ⟨wc.heap.size,2,none⟩=some (.int .i64 ser)) (((try go_split_ands);exact⟨ZX7,ZX7,ZX7,ZX7⟩)) ((go_at_call 41;(with_reducible refine(SCC.o _ (by with_reducible first|exact ZM.refl _|exact(ZM.refl _).drew)).mono ?_);rintro e w3 ⟨q,C',rfl,hm⟩;have HM:=ZA (hm.back (show ZM X _ from by with_reducible first|exact ZM.refl _|exact(ZM.refl _).drew));obtain⟨_,gg,_⟩:=hm;have zJ:=gg.cell (by with_reducible first|exact g0|exact ZJ g0) yC.o;have cy:=gg.cell (by with_reducible first|exact e0|exact ZJ e0) n8.o;have dk:=gg.cell (by with_reducible first|exact e1|exact ZJ e1) n8.o;have dC:=gg.cell (by with_reducible first|exact e2|exact ZJ e2) n8.o;clear gg));all_goals
     obtain⟨a1,a2,a3⟩:=dP.o _ _ _ _ _ HM.o;rw[show(⟨3,pn,t.key,ser⟩:ZW)=ZHF t by unfold ZHF;rw[Hpn.o,Hser.o]]at a1;have kZ:=a2.cell zB.o NB1.o;have uo:=ZA (zE.o _ _ _ _ _ _ a1 hL);have GG:=ZA (λw4 (hg:Y0 w3 gd g C' D1 (L.length+1) ks' dr (Zr ls n l') w4)=>Y0.trans ((G1.o.trans P2.o N1.o).trans a2 (λi hi=>(P3.o i hi).elim (N1.o i) (λe=>.inr (Zf8 G1.o.size e)))) (λi hi=>(a3 i hi).elim (λe=>(P3.o i e).elim (N1.o i) (λe=>.inr (Zf8 G1.o.size e))) (λe=>.inr (Zf8 (Zf8 G1.o.size P2.o.size) e))) hg);clear a1 a2 a3;go_wp2_with fail;refine uo.o.mono ?_;rintro e w4 ⟨rfl,aE⟩;have HG:=ZA (GG.o _ aE);clear aE;go_wp2_with fail;obtain⟨C2,xb2,L2,D2,hl,h1,g1,n1,hb,cL⟩:=HG.o.box aM.o (Zf6 _) HK.o HB.o;refine Zgn (f:=100) (args:=#[.pointer (some ⟨w.heap.size,0,none⟩)]) ZXz (by simp[go_sem]) ?_;refine(ZEj _ gd g C2 xb2 L2 ks' dr _ D2 n w.heap.size s' .returning h1 hn (by rw[Zc];exact pB) hb cL (by rw[Zc];exact cT) eg).mono ?_;rintro e u' w5 ⟨rfl,rfl,cS⟩;exact⟨_,Zgr rfl _ _ _,rfl,Y0.took XW.o hl g1 n1 cS⟩
 |obtain -:=V19;go_wp2_with fail;refine NX.o.mono ?_;rintro e w1 ⟨cv,rfl,⟨K,kc,rfl,af⟩,aE⟩;obtain⟨d1,d2,d3⟩:=lB.o _ _ aE;obtain⟨m,Hm⟩:=ZX2 (c.key.length);rw[Hm.o]at af aX ⊢;have dG:=d2.cell HB.o gF.o;obtain⟨W1,hW1,ft,K1⟩:=Za w1 (.cells #[.int .u8 (c.op:Int),.int .i64 (c.pol:Int),.slice K m kc,.int .i64 (c.num:Int)] 34);have D1:=ZA (d1.ext ft);have G1:=ZA (d2.ext ft);have N1:=ZA d3;have j9:=ZA (ZF ft dG);have e0:=ZX1 K1.o 0 (.int .u8 (c.op:Int));have e1:=ZX1 K1.o 1 (.int .i64 (c.pol:Int));have e2:=ZX1 K1.o 2 (.slice K m kc);have e3:=ZX1 K1.o 3 (.int .i64 (c.num:Int));obtain⟨fp,g0,-,-⟩:=D1.o.core;have SCC:=λu (y:ZM W1 u)=>t7.o u (DO gd (Zr D n (ZF6 (D n) W w1))) C xb L K m kc (fp.ext y) Hm.o
  dsimp only[ZAx]at SCC;have SCC:=ZA SCC;clear af aE d1 d2 d3 dG fp b0 c0 c1 ip ft;have lZ:=ZA hW1;clear hW1;go_upto_region 7 with fail;(try rw[lZ.o]);clear lZ;go_region_held3 (λw'=>w'.cell? ⟨gd,0,none⟩=some (ZH g.gx)/\w'.cell? ⟨w1.heap.size,0,none⟩=some (.int .u8 (c.op:Int))/\w'.cell? ⟨w1.heap.size,1,none⟩=some (.int .i64 (c.pol:Int))/\w'.cell? ⟨w1.heap.size,2,none⟩=some (.slice K m kc)/\w'.cell? ⟨w1.heap.size,3,none⟩=some (.int .i64 (c.num:Int))) (((try go_split_ands);exact⟨ZX7,ZX7,ZX7,ZX7,ZX7⟩)) ((go_at_call 41;(with_reducible refine(SCC.o _ (by with_reducible first|exact ZM.refl _|exact(ZM.refl _).drew)).mono ?_);rintro e w3 ⟨rfl,hx⟩;have X3:=ZA ((show ZM W1 _ from by with_reducible first|exact ZM.refl _|exact(ZM.refl _).drew).trans hx);have zJ:=ZF (X3.o) g0;have cy:=ZF (X3.o) e0;have dk:=ZF (X3.o) e1;have dC:=ZF (X3.o) e2;have ix:=ZF (X3.o) e3;clear hx));all_goals
   have D3:=ZA (D1.o.ext X3.o);have IO:=ZA (ZF X3.o j9.o);obtain⟨nZ,gc2,r2,Lb2,n7,l0,dA,-,-,-,-,te⟩:=D3.o.conn hn (s:={s with line:=rest,out:=some c}) (by rw[Zc]);have RP:=ZA (λu (y:ZM w3 u)=>ZGT u nZ gc2 r2 Lb2 n7 _ (dA.ext y) HI.o (by show s.wr.length<=_;omega) cC c rfl 6 ZB false 0 0 0 0);have zy:=ZA te;have b3:=IO.o;clear dA te;go_wp2_with fail;refine(RP.o _ (by first|exact ZM.refl _|exact(ZM.refl _).drew)).mono ?_;rintro e w4 ⟨q,B,i9,rfl,fE⟩;have it:=ZA i9;have i6:=ZA (show Yk w3 nZ Lb2 n7 gc2 r2 _ w4 from(by first|exact fE|exact Yk.back (ZM.refl w3).drew fE));clear i9 fE b3 l0;go_wp2_with fail;have pD:ZAN (YY 6):=ZBB (by decide);obtain⟨rfl,rfl⟩:=ZO7 rfl it.o (ZAf pD);have aE:=i6.o;rw[Zgl rfl]at aE;obtain⟨f1,f2,f3⟩:=zy.o _ _ aE;rw[Zc,ZAt]at f1;have HG:ZD (Y0 W gd g C D (L.length+1) ks dr (Zr ls n {ls n with cn:=some (YJ {s with line:=rest,out:=some c} c 6 0 (Y2 (YY 6)))}) w4):=ZA ⟨C,xb,L,_,Zf7 _,f1,(G1.o.ext X3.o).trans f2 N1.o,λi hi=>(f3 i hi).elim (N1.o i) (λe=>.inr (by have:=G1.o.size;have:=X3.o.size;omega))⟩;obtain⟨C2,xb2,L2,D4,hl,h1,g1,n1,hb,cL⟩:=HG.o.box aM.o (Zf6 _) HK.o HB.o;refine Zgn (f:=100) (args:=#[.pointer (some ⟨w.heap.size,0,none⟩)]) ZXz (by simp[go_sem]) ?_;have qh:(Y2 (YY 6)).length=34:=rfl;have e4:(Js 34).length=4:=rfl;have dm:(YJ {s with line:=rest,out:=some c} c 6 0 (Y2 (YY 6))).wr.length<=1000000:=by
    unfold YJ;rw[Zgk (by decide)];show(XK _ 0 (Y2 (YY 6))).wr.length<=1000000;unfold XK;rw[Zgl ⟨rfl,uL⟩];show(s.wr++(Js (Y2 (YY 6)).length++Y2 (YY 6))).length<=1000000;rw[ZfE,ZfE,qh];omega
   refine(ZEj _ gd g C2 xb2 L2 ks dr _ D4 n w.heap.size (YJ {s with line:=rest,out:=some c} c 6 0 (Y2 (YY 6))) .returning h1 hn (by rw[Zc]) hb cL (by rw[Zc];show(ls n).wr.length<=_;omega) dm).mono ?_;rintro e u' w5 ⟨rfl,rfl,cS⟩;exact⟨_,Zgr rfl _ _ _,rfl,Y0.took XW.o hl g1 n1 cS⟩
 |obtain -:=V20;go_wp2_with fail;refine NX.o.mono ?_;rintro e w1 ⟨q,B,sy,rfl,aE⟩;rw[BR.o q B sy]at aE;obtain⟨d1,d2,d3⟩:=lB.o _ _ aE;have dG:=d2.cell HB.o gF.o;obtain⟨W1,hW1,ft,-⟩:=Za w1 (.cells #[.int .u8 0,.int .i64 0,.slice none 0 0,.int .i64 0] 34);have D1:=ZA (d1.ext ft);have G1:=ZA (d2.ext ft);have N1:=ZA d3;have j9:=ZA (ZF ft dG);have b1:=j9.o;have DH:=ZA (IF.o _ _ D1.o);clear aE d1 d2 d3 dG b0 c0 c1 ip ft sy;unfold ZCs Yp;have lZ:=ZA hW1;clear hW1;go_upto_region 6 with fail;(try rw[lZ.o]);clear lZ;go_wp2_with fail;refine DH.o.mono ?_;rintro e w2 ⟨rfl,D2,h2,g2,n2⟩;rw[Zc,ZAt]at h2;have HG:ZD (Y0 W gd g C D (L.length+1) ks dr (Zr ls n (ZDK {ls n with cn:=some s1})) w2):=ZA ⟨C,xb,L,D2,Zf7 _,h2,G1.o.trans g2 N1.o,λi hi=>(n2 i hi).elim (N1.o i) (λe=>.inr (Zf8 G1.o.size e))⟩;clear h2 g2 n2;go_wp2_with fail;obtain⟨C2,xb2,L2,D3,hl,h1,g1,n1,hb,cL⟩:=HG.o.box aM.o (Zf6 _) HK.o HB.o;refine Zgn (f:=100) (args:=#[.pointer (some ⟨w.heap.size,0,none⟩)]) ZXz (by simp[go_sem]) ?_;refine(ZEj _ gd g C2 xb2 L2 ks dr _ D3 n w.heap.size (ZDe {s1 with wr:=[]}) .returning h1 hn (by rw[Zc];rfl) hb cL (by
   rw[Zc];show((ls n).wr++s1.wr).length<=1000000;rw[ZfE];have:=zd.o.1;omega) (by show 0<=1000000;omega)).mono ?_
  rintro e u' w5 ⟨rfl,rfl,cS⟩;exact⟨_,Zgr rfl _ _ _,rfl,Y0.took XW.o hl g1 n1 cS⟩
 |obtain -:=V21;go_wp2_with fail;refine NX.o.mono ?_;rintro e w1 ⟨rfl,x1⟩;obtain⟨W1,hW1⟩:=ZX3 ((w1.alloc (.cells #[.int .u8 0,.int .i64 0,.slice none 0 0,.int .i64 0] 34)));have ft:ZM W W1:=by rw[<-hW1];exact x1.alloc _
  have X1:=ZA ft;have b1:=ZF ft b0;have c4:=ZF ft c3;clear x1 ft b0 c0 c1 ip c3;unfold ZCs Yp;have lZ:=ZA hW1;clear hW1;go_upto_region 6 with fail;(try rw[lZ.o]);clear lZ;go_wp2_with fail;refine Zgn (f:=100) (args:=#[.pointer (some ⟨w.heap.size,0,none⟩)]) ZXz (by simp[go_sem]) ?_;refine(ZEj _ gd g C xb L ks dr (Zr ls n (ls n)) D n w.heap.size s .returning (by rw[ZA5];first|exact HA.o.ext X1.o|exact HA.o.ext X1.o.drew) hn (by rw[Zc];exact uj.o) (by first|exact ZF X1.o HB.o|exact ZF X1.o.drew HB.o) gF.o (by rw[Zc];exact gO) da).mono ?_;rintro e u' w5 ⟨rfl,rfl,cS⟩;exact⟨_,Zgr rfl _ _ _,rfl,Y0.took XW.o (Zf7 _) (GB.of_ext _ (by first|exact X1.o|exact X1.o.drew)) (λi e=>.inl e) cS⟩
 |obtain -:=V22;go_wp2_with fail;refine NX.o.mono ?_;rintro e w1 ⟨cv,rfl,⟨K,kc,rfl,af⟩,aE⟩;obtain⟨d1,d2,d3⟩:=lB.o _ _ aE;obtain⟨m,Hm⟩:=ZX2 (c.key.length);rw[Hm.o]at af aX ⊢;have cM:=YR af;have dG:=d2.cell HB.o gF.o;obtain⟨W1,hW1,ft,K1⟩:=Za w1 (.cells #[.int .u8 (c.op:Int),.int .i64 (c.pol:Int),.slice K m kc,.int .i64 (c.num:Int)] 34);have D1:=ZA (d1.ext ft);have G1:=ZA (d2.ext ft);have N1:=ZA d3;have R1:=ZA ((Rd.of_own af).ext ft);have L6:=ZA ft;have yD:=ZA d1.lt;have j9:=ZA (ZF ft dG);have e0:=ZX1 K1.o 0 (.int .u8 (c.op:Int));have e1:=ZX1 K1.o 1 (.int .i64 (c.pol:Int));have e2:=ZX1 K1.o 2 (.slice K m kc);have e3:=ZX1 K1.o 3 (.int .i64 (c.num:Int));obtain⟨fp,g0,-,az⟩:=D1.o.core;have SCC:=λu (y:ZM W1 u)=>t7.o u (DO gd (Zr D n (ZF6 (D n) W w1))) C xb L K m kc (fp.ext y) Hm.o cM (R1.o.ext y)
  dsimp only[ZAx]at SCC;have SCC:=ZA SCC;have dP:=ZA az;have HCL:=ZA fp.lt;have n8:=ZA (show ¬C w1.heap.size from λe=>by have:=yD.o _ (.inl e);omega);have yC:=ZA (show ¬C gd from λe=>fp.co _ e (.inl (.inl rfl)));clear af aE d1 d2 d3 dG fp az b0 c0 c1 ip ft cM;go_upto_region 7 with fail;(try rw[hW1]);clear hW1;go_region_held3 (λw'=>w'.cell? ⟨gd,0,none⟩=some (ZH g.gx)/\w'.cell? ⟨w1.heap.size,0,none⟩=some (.int .u8 (c.op:Int))/\w'.cell? ⟨w1.heap.size,1,none⟩=some (.int .i64 (c.pol:Int))/\w'.cell? ⟨w1.heap.size,2,none⟩=some (.slice K m kc)/\w'.cell? ⟨w1.heap.size,3,none⟩=some (.int .i64 (c.num:Int))) (((try go_split_ands);exact⟨ZX7,ZX7,ZX7,ZX7,ZX7⟩)) ((go_at_call 41;(with_reducible refine(SCC.o _ (by with_reducible first|exact ZM.refl _|exact(ZM.refl _).drew)).mono ?_);rintro e w3 ⟨q,C',rfl,hm⟩;have HM:=ZA (hm.back (show ZM W1 _ from by with_reducible first|exact ZM.refl _|exact(ZM.refl _).drew));obtain⟨_,gg,_⟩:=hm;have zJ:=gg.cell (by with_reducible first|exact g0|exact ZJ g0) yC.o;have cy:=gg.cell (by with_reducible first|exact e0|exact ZJ e0) n8.o;have dk:=gg.cell (by with_reducible first|exact e1|exact ZJ e1) n8.o;have dC:=gg.cell (by with_reducible first|exact e2|exact ZJ e2) n8.o;have ix:=gg.cell (by with_reducible first|exact e3|exact ZJ e3) n8.o;clear gg));all_goals
   obtain⟨a1,a2,a3⟩:=dP.o _ _ _ _ _ HM.o;have iC:¬Y8 gd C (Zr D n (ZF6 (D n) W w1)) w.heap.size:=λe=>(N1.o _ e).elim gF.o (λe=>by have:=HK.o;omega);have kZ:=a2.cell j9.o iC;have uo:=ZA (zE.o _ _ _ _ _ _ a1 hL);have GG:=ZA (λw4 (hg:Y0 w3 gd g C' (Zr D n (ZF6 (D n) W w1)) (L.length+1) ks' dr (Zr ls n l') w4)=>Y0.trans (G1.o.trans a2 N1.o) (λi hi=>(a3 i hi).elim (N1.o i) (λe=>.inr (Zf8 G1.o.size e))) hg);clear a1 a2 a3 iC;go_wp2_with fail;refine uo.o.mono ?_;rintro e w4 ⟨rfl,aE⟩;have HG:=ZA (GG.o _ aE);clear aE;go_wp2_with fail;obtain⟨C2,xb2,L2,D2,hl,h1,g1,n1,hb,cL⟩:=HG.o.box aM.o (Zf6 _) HK.o HB.o;refine Zgn (f:=100) (args:=#[.pointer (some ⟨w.heap.size,0,none⟩)]) ZXz (by simp[go_sem]) ?_;refine(ZEj _ gd g C2 xb2 L2 ks' dr _ D2 n w.heap.size s' .returning h1 hn (by rw[Zc];exact hs) hb cL (by rw[Zc];exact cT) eg).mono ?_;rintro e u' w5 ⟨rfl,rfl,cS⟩;exact⟨_,Zgr rfl _ _ _,rfl,Y0.took XW.o hl g1 n1 cS⟩
 |go_wp2_with fail;refine uo.o.mono ?_;rintro e w1 ⟨rfl,aE⟩;have HG:=ZA aE;clear aE;go_wp2_with fail;obtain⟨C',fY,L',D',hl,h1,g1,n1,hb,cL⟩:=HG.o.box aM.o (Zf6 _) HK.o HB.o;refine Zgn (f:=100) (args:=#[.pointer (some ⟨w.heap.size,0,none⟩)]) ZXz (by simp[go_sem]) ?_;refine(ZEj w1 gd g C' fY L' ks' dr _ D' n w.heap.size s' .returning h1 hn (by rw[Zc];exact hs) hb cL (by rw[Zc];exact cT) eg).mono ?_;rintro e u' w2 ⟨rfl,rfl,cS⟩;exact⟨_,Zgr rfl _ _ _,rfl,Y0.took XW.o hl g1 n1 cS⟩):p:=h
section
variable [Foreign]
theorem ZCk{D:Nat->Nat->Prop}(h:Yc w gd g C xb L ks dr ls D)(n:Nat)(hn:n<63): Calls prog 15 #[ZH g.gx,.int .i64 n] w λe w'=>e=.returned (.bool (ZAJ (ks.call n)))/\w=w':=by
 obtain⟨h1,-⟩:=h.core;exact ZJO w g _ C xb L ks n h1 ZB
theorem Y0.box{bx:Nat}{D:Nat->Nat->Prop}{v:Value}(h:Y0 W gd g C D N ks dr ls w1)(ak:∀i,Y8 gd C D i->i<w.heap.size)(hb:w.heap.size<=bx)(ya:bx<W.heap.size)(hc:W.cell? ⟨bx,0,none⟩=some v): ∃C' fY L' D',L'.length<=N/\Yc w1 gd g C' fY L' ks dr ls D'/\GB W w1 (Y8 gd C D)/\(∀i,Y8 gd C' D' i->Y8 gd C D i\/W.heap.size<=i)/\w1.cell? ⟨bx,0,none⟩=some v/\¬Y8 gd C' D' bx:=by
 obtain⟨C',fY,L',D',h1,h2,h3,h4⟩:=h;have hn:¬Y8 gd C D bx:=λe=>by have:=ak _ e;omega
 exact⟨C',fY,L',D',h1,h2,h3,h4,h3.cell hc hn,λe=>(h4 _ e).elim hn (λe=>by omega)⟩
theorem Y0.took{D D1:Nat->Nat->Prop}(x:ZM w W)(hN:L.length<=N)(g1:GB W w1 (Y8 gd C D))(n1:∀i,Y8 gd C1 D1 i->Y8 gd C D i\/W.heap.size<=i)(h:ZUA w1 gd g C1 xb L ks dr (Zr ls n l) D1 n w2): Y0 w gd g C D N ks dr (Zr ls n (Xv l)) w2:=by
 obtain⟨D2,a1,a2,a3⟩:=h;rw[Zc,ZAt]at a1;refine Y0.back x ⟨C1,xb,L,D2,hN,a1,g1.trans a2 n1,λi hi=>?_⟩;rcases a3 i hi with e|e
 ·exact n1 i e
 ·exact .inr (Zf8 g1.size e)
def ZIV (g:Zz)(n:Nat)(a b:Xf):Prop:=∀(w:World) (gd:Nat) (C:Zhf) (xb:Nat->Nat) (L:List Zg) (D:Nat->Nat->Prop),Yc w gd g C xb L a.ks a.dr a.ls D->L.length<=100000-> Calls prog 102 #[ZH gd,.int .i64 n,.pointer (some ⟨gd,1+n*6,none⟩)] w λe w'=>e=.returned (.tuple #[])/\Y0 w gd g C D (L.length+1) b.ks b.dr b.ls w'
def ZDq (g:Zz)(n:Nat)(a b:Xf):Prop:=∀(w:World) (gd:Nat) (C:Zhf) (xb:Nat->Nat) (L:List Zg) (D:Nat->Nat->Prop),Yc w gd g C xb L a.ks a.dr a.ls D->L.length<=100000-> Calls prog 58 #[ZH gd,.int .i64 n,.pointer (some ⟨gd,1+n*6,none⟩)] w λe w'=>e=.returned (.tuple #[])/\Y0 w gd g C D (L.length+1) b.ks b.dr b.ls w'
def ZKp (g:Zz)(n:Nat)(ks:Z9)(x:ZW):Prop:=∀(u:World) (O C:Zhf) (xb:Nat->Nat) (L:List Zg) (K:Option Addr) (m kc:Nat),YQ u g O C xb L ks->x.key.length=m->m<=kc->Rd u K (ZT .u8 x.key)-> Calls prog 41 #[ZH g.gx,.int .i64 n,.agg #[.int .u8 (x.op:Int),.int .i64 (x.pol:Int),.slice K m kc,.int .i64 x.n]] u λe w'=>∃q C',e=.returned (.int .i64 0)/\YS u g O C (ZK0 xb n q) L (ZDR ks n x) C' w'
theorem ZMt(hn:n<63)(ok:ZIU g a.ks n)(hk:(YM g.P g.room a.ks n).2=none):ZIV g n a {a with ks:=(YM g.P g.room a.ks n).1}:=λw gd C xb L D h hL=>ZVT w gd g C xb L a.ks a.dr a.ls D n h hn hL ok hk
theorem ZJn(hn:n<63)(ok:ZIU g a.ks n)(hk:(YM g.P g.room a.ks n).2=some rp)(hrel:(a.ls n).rel=false)(hs:(a.ls n).cn=some s)(hi:ZB0 s)(da:s.wr.length<=1000000)(cC:s.led.length<=100000 - 1)(ho:s.out=some c)(mq:ZAN rp): ZIV g n a {a with ks:=(YM g.P g.room a.ks n).1,ls:=Zr a.ls n (JO (a.ls n) rp)}:=λw gd C xb L D h hL=>ZTa w gd g C xb L a.ks a.dr a.ls D n h hn hL ok rp hk hrel s hs hi da cC c ho mq
theorem ZRy(hn:n<63)(ok:ZIU g a.ks n)(hk:(YM g.P g.room a.ks n).2=some rp)(hrel:(a.ls n).rel=true){t:Jp}(fy:(a.ls n).toks=t::ts)(fl:ts.length<=100000): ZIV g n a {a with ks:=(YM g.P g.room a.ks n).1,ls:=Zr a.ls n {a.ls n with toks:=ts,rel:=false}}:=λw gd C xb L D h hL=>ZTb w gd g C xb L a.ks a.dr a.ls D n h hn hL ok rp hk hrel t ts fy fl
theorem ZF9(hn:n<63)(aC:ZAJ (a.ks.call n)=true)(AC:ZIV g n a ⟨ks',Zr a.ls n l',a.dr⟩)(hs:l'.cn=some s')(cT:l'.wr.length<=1000000)(eg:s'.wr.length<=1000000): ZDq g n a ⟨ks',Zr a.ls n (Xv l'),a.dr⟩:=by
 obtain⟨V6,V8⟩:=QA;exact QJ
theorem Y8.not_new{D:Nat->Nat->Prop}(h:Yc w gd g C xb L ks dr ls D){q:Nat}(hq:w.heap.size<=q):¬Y8 gd C D q:=λe=>by have:=h.lt _ e;omega
theorem ZLP(hn:n<63)(aC:ZAJ (a.ks.call n)=false)(aB:(a.ls n).st=1)(bM:(a.ls n).cn=some s)(ho:s.out=none)(hcl:s.closed=false)(fm:s.line=c::rest)(aX:c.key.length<=255)(SC:ZKp g n a.ks (ZAx c))(AC:ZIV g n ⟨ZDR a.ks n (ZAx c),Zr a.ls n {a.ls n with cn:=some {s with line:=rest,out:=some c}},a.dr⟩ ⟨ks',Zr a.ls n l',a.dr⟩)(hs:l'.cn=some s')(cT:l'.wr.length<=1000000)(eg:s'.wr.length<=1000000): ZDq g n a ⟨ks',Zr a.ls n (Xv l'),a.dr⟩:=by
 obtain⟨V5,V16,V22⟩:=QA;exact QJ
end
section
variable [Foreign]
def Jb (l:Jj)(s:XQ):Jj:=if l.looked=true then l else {l with toks:=s.led,looked:=true}
def ZV8 (W:World)(gd:Nat)(g:Zz)(C:Zhf)(xb:Nat->Nat)(L:List Zg)(ks:Z9)(dr:Bool)(ls:Nat->Jj)(D:Nat->Nat->Prop)(n:Nat)(l1:Jj)(wd:World):Prop:=∃D1,Yc wd gd g C xb L ks dr (Zr ls n l1) D1/\GB W wd (Y8 gd C D)/\∀i,Y8 gd C D1 i->Y8 gd C D i\/W.heap.size<=i
theorem ZLt (l:Jj)(s):(Jb l s).cn=l.cn:=by unfold Jb;split<;>rfl
theorem ZLs (l:Jj)(s):(Jb l s).wr=l.wr:=by unfold Jb;split<;>rfl
theorem ZSw (l:Jj)(s):(Jb l s).st=l.st:=by unfold Jb;split<;>rfl
theorem ZQQ (l:Jj)(s):(Jb l s).rel=l.rel:=by unfold Jb;split<;>rfl
theorem Jz.setrel(h:Jz w D v l){rel:Bool}(h0:v' 0=v 0)(h1:v' 1=v 1)(h2:v' 2=v 2)(h3:v' 3=.bool rel)(h4:v' 4=v 4)(h5:v' 5=v 5):Jz w D v' {l with rel:=rel}:=by
 obtain⟨WA,TA,wc,tc,tk,Lb,T,k1,k2,-,k4,k5,h6,h7,h8,h9,bD,bQ,bL,bP,bO⟩:=h;exact⟨WA,TA,wc,tc,tk,Lb,T,h1.trans k1,h2.trans k2,h3,h4.trans k4,h5.trans k5,h6,h7,h8,h9,bD,bQ,bL,bP,by rw[h0];exact bO⟩
theorem Y0.put{D D1 D2:Nat->Nat->Prop}{Ad:Nat->Jj}(hN:L.length<=N)(g1:GB w w1 (Y8 gd C D))(n1:∀i,Y8 gd C1 D1 i->Y8 gd C D i\/w.heap.size<=i)(h:Yc w2 gd g C1 xb L ks dr Ad D2)(g2:GB w1 w2 (Y8 gd C1 D1))(n2:∀i,Y8 gd C1 D2 i->Y8 gd C1 D1 i\/w1.heap.size<=i):Y0 w gd g C D N ks dr Ad w2:=by
 refine⟨C1,xb,L,D2,hN,h,g1.trans g2 n1,λi hi=>?_⟩;rcases n2 i hi with e|e
 ·exact n1 i e
 ·exact .inr (Zf8 g1.size e)
theorem ZAM.at_new{c:Nat}{l:List Jp}{ks:List Xu}(h:ZAM w base A n c l ks):l.length<=c/\(∀a,A=some a->base<=a.block/\a.block<w.heap.size)/\∀k ∈ ks,∀a,k.1=some a->base<=a.block/\a.block<w.heap.size:=by
 refine⟨by rw[h.2.1];exact YR h.2.2.1,λa ha=>?_,λk hk a ha=>?_⟩
 ·obtain⟨a1,a2,-⟩:=ZAS h.2.2.1 a ha;exact⟨a1,a2⟩
 ·obtain⟨i,hi⟩:=Ze7 hk;have hl:=(Ze5.1 hi).1;have hx:l[i]?=some (l[i]'(by rw[<-h.1];exact hl)):=Ze4 _;obtain⟨a1,a2,-⟩:=ZAS (h.2.2.2 i k _ hi hx).1 a ha;exact⟨a1,a2⟩
theorem ZU1{w3:World}{D:Nat->Nat->Prop}{cs:Array Value}{t:TypeId}(L4:Yc W gd g C xb L ks dr ls D)(FO:n<63)(dU:W.heap[gd]?=some (.cells cs t (0,0)))(hv:∀k,k<6->cs[1+n*6+k]?=some (v k))(aF:Jz W (D n) v (ls n))(hD:∀i,D n i->i≠gd/\i<W.heap.size)(az:∀w' gt D2 v2 l2,GB W w' (λi=>i=gd\/D n i)->w'.heap[gd]?=some (.cells gt t (0,0))->(∀k,k<6->gt[1+n*6+k]?=some (v2 k))->(∀j,j<1+n*6\/7+n*6<=j->gt[j]?=cs[j]?)-> Jz w' D2 v2 l2->(∀i,D2 i->(D n i\/W.heap.size<=i)/\i<w'.heap.size)-> Yc w' gd g C xb L ks dr (Zr ls n l2) (Zr D n D2)/\GB W w' (Y8 gd C D)/\∀i,Y8 gd C (Zr D n D2) i->Y8 gd C D i\/W.heap.size<=i)(dE:(ls n).looked=false)(hx:ZM W w3)(hT:ZAM w3 base A s.led.length tc s.led tk)(hm:s.led.length=m)(an:W.heap.size=base): ZV8 W gd g C xb L ks dr ls D n (Jb (ls n) s) ((w3.setCell ⟨gd,1+n*6+4,none⟩ (.slice A m tc)).setCell ⟨gd,1+n*6+5,none⟩ (.bool true)):=by
 subst hm an;obtain⟨t1,t2,t3⟩:=hT.at_new;obtain⟨b1,v1,j1⟩:=JB (ZK dU hx) (n:=n) (k0:=4) (v:=v) ZB hv (.slice A s.led.length tc);obtain⟨b2,v2,j2⟩:=JB b1 (n:=n) (k0:=5) ZB v1 (.bool true);have g2:GB w3 ((w3.setCell ⟨gd,1+n*6+4,none⟩ (.slice A s.led.length tc)).setCell ⟨gd,1+n*6+5,none⟩ (.bool true)) (· =gd):=((GB.refl w3 (· =gd)).set gd _ _ (.inl rfl)).set gd _ _ (.inl rfl);have e9:Jb (ls n) s={ls n with toks:=s.led,looked:=true}:=Zgk (by rw[dE];decide);rw[e9];have bu:=ZX dU
 have pP:=(aF.toks (λi hi=>(hD i hi).2) hx hT.rd t1 t2 t3 (v':=Zr (Zr v 4 (.slice A s.led.length tc)) 5 (.bool true)) (looked:=true) (by rw[ZZ _ _ ZB,ZZ _ _ ZB]) (by rw[ZZ _ _ ZB,ZZ _ _ ZB]) (by rw[ZZ _ _ ZB,ZZ _ _ ZB]) (by rw[ZZ _ _ ZB,ZZ _ _ ZB]) (by rw[ZZ _ _ ZB,Zc]) (by rw[Zc])).gb g2 (λi hi e=>by
  have e:i=gd:=e;rcases hi with hi|hi
  ·exact(hD i hi).1 e
  ·omega)
 obtain⟨a1,a2,a3⟩:=az _ _ _ _ _ ((GB.of_ext (λi=>i=gd\/D n i) hx).trans g2 (λi e=>.inl (.inl e))) b2 v2 (λj hj=>(j2 j hj).trans (j1 j hj)) pP (λi hi=>by
  rcases hi with hi|hi
  ·refine⟨.inl hi,?_⟩;have:=(hD i hi).2;have:=hx.size;simp;omega
  ·exact⟨.inr hi.1,by simpa using hi.2⟩)
 exact⟨_,a1,a2,a3⟩
theorem ZGA(hn:n<63)(aC:ZAJ (a.ks.call n)=false)(aB:(a.ls n).st=2)(bM:(a.ls n).cn=some s)(cC:s.led.length<=100000)(aX:∀t ∈ s.led,t.key.length<=5000)(ak:(Jb (a.ls n) s).toks.length<=100000)(hb:((Jb (a.ls n) s).toks=[]/\(a.ls n).wr.length<=1000000/\s.wr.length<=1000000/\b=⟨a.ks,Zr a.ls n (Xv {Jb (a.ls n) s with st:=0}),a.dr⟩)\/ ∃t ts l' s' ks',(Jb (a.ls n) s).toks=t::ts/\b=⟨ks',Zr a.ls n (Xv l'),a.dr⟩/\0<=t.pol/\t.key.length<=255/\ZKp g n a.ks (ZHF t)/\ZIV g n ⟨ZDR a.ks n (ZHF t),Zr a.ls n {Jb (a.ls n) s with rel:=true},a.dr⟩ ⟨ks',Zr a.ls n l',a.dr⟩/\l'.cn=some s'/\l'.wr.length<=1000000/\s'.wr.length<=1000000): ZDq g n a b:=by
 obtain⟨V1,V9,V12,V18⟩:=QA;exact QJ
end
theorem Qn {p:Prop}(h:p:=by
 first|(obtain -:=V1;intro w gd C xb L D h hL;obtain⟨W,hW,xW,k0⟩:=Za w (.cells #[.int .u8 3,.int .i64 n,.slice none 0 0,.int .i64 0] 90))|(obtain -:=V2;obtain⟨W,hW,xW,k0⟩:=Za w (.cells #[.int .u8 1,.int .i64 n,.slice none 0 0,.int .i64 0] 90))|(intro w gd C xb L D h hL;obtain⟨W,hW,xW,k0⟩:=Za w (.cells #[.int .u8 1,.int .i64 n,.slice none 0 0,.int .i64 0] 90))
 have hA:=h.ext xW;have IS:=ZA (ZBk n W hn);first|(obtain -:=V3;have LN:=ZA (ZD9 W gd g C xb L a.ks a.dr a.ls D n hA hn aB))|have LN:=ZA (ZBH W gd g C xb L a.ks a.dr a.ls D n hA hn aB)
 first|(obtain -:=V4;have tN:=ZA (SP W gd C xb L D hA hL))|(obtain -:=V5;have CB:=ZA (ZIm W gd n))|have tN:=ZA (ZTZ W gd g C xb L a.ks a.dr a.ls D n hA hn dS)
 first|(obtain -:=V6;have e0:=ZX1 k0.out 0 (.int .u8 3))|have e0:=ZX1 k0.out 0 (.int .u8 1)
 have e1:=ZX1 k0.out 1 (.int .i64 n);first|(obtain -:=V7;have aM:=ZA h.lt)|skip
 have XW:=ZA xW;first|(obtain -:=V8;have NE:=ZA (λe=>Y8.not_new h (Zf6 w.heap.size) e);clear h hA SP hL xW aB)|(obtain -:=V9;have HW:=ZA hW;clear h hA xW aB hW k0)|clear h hA xW aB hL
 go_enter func19,ntmps19;go_upto_region 1 with fail;first|(obtain -:=V10;(try rw[HW.o]);clear HW)|((try rw[hW]);clear hW)
 go_wp2_with fail;refine IS.o.mono ?_;rintro e w1 ⟨rfl,rfl⟩;go_wp2_with fail;refine LN.o.mono ?_;rintro e w1 ⟨rfl,rfl⟩;go_wp2_with fail;first|(obtain -:=V11;refine CB.o.mono ?_;rintro e w1 ⟨rfl,rfl⟩)|(refine tN.o.mono ?_;rintro e w1 ⟨rfl,aE⟩;have HG:=ZA aE;clear aE)
 go_wp2_with fail;go_ret;first|(obtain -:=V12;exact⟨rfl,Y0.back XW.o HG.o⟩)|(obtain -:=V13;exact⟨rfl,XW.o⟩)|(obtain⟨C',fY,L',D',h1,h2,h3,h4⟩:=Y0.back XW.o HG.o;exact⟨rfl,C',fY,L',D',Nat.le_succ_of_le h1,h2,h3,h4⟩)):p:=h
theorem QT {p:Prop}(h:p:=by
 first|(obtain -:=V1;obtain⟨W,hW,xW,k0⟩:=Za w (.cells #[.int .u8 4,.int .i64 n,.slice none 0 0,.int .i64 0] 90))|(obtain -:=V2;intro w gd C xb L D h hL;obtain⟨W,hW,xW,k0⟩:=Za w (.cells #[.int .u8 4,.int .i64 n,.slice none 0 0,.int .i64 0] 90))|(obtain -:=V3;intro w gd C xb L D A m c h hm hr;obtain⟨W,hW,xW,k0⟩:=Za w (.cells #[.int .u8 2,.int .i64 n,.slice A m c,.int .i64 0] 90))|obtain⟨W,hW,xW,k0⟩:=Za w (.cells #[.int .u8 2,.int .i64 n,.slice A m c,.int .i64 0] 90)
 have hA:=h.ext xW;have IS:=ZA (ZBk n W hn);have LN:=ZA (ZBH W gd g C xb L a.ks a.dr a.ls D n hA hn ZB);first|(obtain -:=V4;have tN:=ZA (ZV1 W gd g C xb L a.ks a.dr a.ls D n s hA hn hs cT eg pP aX);obtain⟨cs,t,v,hb,hv,aF,-⟩:=hA.lineA hn)|obtain⟨cs,t,v,dU,hv,aF,-,d3,-⟩:=hA.lineA hn
 obtain⟨-,-,-,-,-,-,-,v1,-⟩:=aF;rw[aB]at v1;first|(obtain -:=V5;rw[dS]at d3;have c1:W.cell? ⟨gd,1+n*6+1,none⟩=some (.int .i64 1):=(ZE dU _).trans (by have:=hv 1 ZB;rw[v1]at this;exact this);have c3:W.cell? ⟨gd,379,none⟩=some (.bool false):=(ZE dU _).trans d3;obtain⟨base,gc,r,Lb,RO,cc1,bg,-⟩:=h.conn hn hs;have ip:=ZF xW cc1;have FD:=ZA (λu (y:ZM W u)=>ZKf u base gc r Lb RO s (bg.ext (xW.trans y)) (.inr hf) A m c);have e0:=ZX1 k0.out 0 (.int .u8 2))|(obtain -:=V6;have c1:W.cell? ⟨gd,1+n*6+1,none⟩=some (.int .i64 2):=(ZE dU _).trans (by have:=hv 1 ZB;rw[v1]at this;exact this);have e0:=ZX1 k0.out 0 (.int .u8 4))|(obtain -:=V7;have c1:W.cell? ⟨gd,1+n*6+1,none⟩=some (.int .i64 1):=(ZE hb _).trans (by have:=hv 1 ZB;rw[v1]at this;exact this);have e0:=ZX1 k0.out 0 (.int .u8 4))|(obtain -:=V8;rw[dS]at d3;have c1:W.cell? ⟨gd,1+n*6+1,none⟩=some (.int .i64 1):=(ZE dU _).trans (by have:=hv 1 ZB;rw[v1]at this;exact this);have c3:W.cell? ⟨gd,379,none⟩=some (.bool false):=(ZE dU _).trans d3;obtain⟨base,gc,r,Lb,RO,cc1,bg,ep,fJ,-,-,fH⟩:=h.conn hn hs;have ip:=ZF xW cc1;have FD:=ZA (λu (y:ZM W u)=>ZOa u base gc r Lb RO s (bg.ext (xW.trans y)) hi hc hf hcl A m c xs hm hb ((hr.ext xW).ext y) ZB hP);have lB:=ZA fH;have NG:=ZA ep;have e0:=ZX1 k0.out 0 (.int .u8 2))|(rw[dS]at d3;have c1:W.cell? ⟨gd,1+n*6+1,none⟩=some (.int .i64 2):=(ZE dU _).trans (by have:=hv 1 ZB;rw[v1]at this;exact this);have c3:W.cell? ⟨gd,379,none⟩=some (.bool false):=(ZE dU _).trans d3;have e0:=ZX1 k0.out 0 (.int .u8 2))
 have e1:=ZX1 k0.out 1 (.int .i64 n);first|(obtain -:=V9;have e2:=ZX1 k0.out 2 (.slice A m c))|skip
 have XW:=ZA xW;first|(obtain -:=V10;have HW:=ZA hW;clear h hA xW aB dU hv v1 d3 hW bg hs cc1)|(obtain -:=V11;clear h hA xW aB hb hv v1 hs aX)|(obtain -:=V12;have NE:=ZA (show ¬some w.heap.size ∈ Lb from λe=>Zf9 _ (fJ _ e));clear h hA xW aB dU hv v1 hs bg fH ep fJ hi hb hr d3 cc1)|(have HW:=ZA hW;clear h hA xW aB dU hv v1 d3 hW)
 go_enter func19,ntmps19;go_upto_region 1 with fail;first|(obtain -:=V13;(try rw[hW]);clear hW)|((try rw[HW.o]);clear HW)
 go_wp2_with fail;refine IS.o.mono ?_;rintro e w1 ⟨rfl,rfl⟩;go_wp2_with fail;refine LN.o.mono ?_;rintro e w1 ⟨rfl,rfl⟩;first
 |obtain -:=V14;go_upto_region 23 with fail;go_region_held3 (λw'=>w'.cell? ⟨gd,1+n*6,none⟩=some (ZH gc)/\w'.cell? ⟨w.heap.size,2,none⟩=some (.slice A m c)) (((try go_split_ands);exact⟨ZX7,ZX7⟩)) ((go_at_call 59;(with_reducible refine(FD.o _ (by with_reducible first|exact ZM.refl _|exact(ZM.refl _).drew)).mono ?_);rintro e w3 ⟨rfl,rfl⟩;have X3:=ZA (XW.o.trans (by with_reducible first|exact ZM.refl _|exact(ZM.refl _).drew));have oQ:=ip;have dC:=e2));all_goals
   go_wp2_with fail;go_ret;exact⟨rfl,by first|exact X3.o|exact X3.o.drew⟩
 |obtain -:=V15;go_wp2_with fail;refine tN.o.mono ?_;rintro e w1 ⟨rfl,D2,h2,g2,n2⟩;have HG:ZD (Y0 W gd g C D (L.length+1) a.ks a.dr (Zr a.ls n (ZDK (a.ls n))) w1):=ZA ⟨C,xb,L,D2,Zf7 _,h2,g2,n2⟩;clear h2 g2 n2;go_wp2_with fail;go_ret;exact⟨rfl,Y0.back XW.o HG.o⟩
 |obtain -:=V16;go_upto_region 23 with fail;go_region_held3 (λw'=>w'.cell? ⟨gd,1+n*6,none⟩=some (ZH gc)/\w'.cell? ⟨w.heap.size,2,none⟩=some (.slice A m c)) (((try go_split_ands);exact⟨ZX7,ZX7⟩)) ((go_at_call 59;(with_reducible refine(FD.o _ (by with_reducible first|exact ZM.refl _|exact(ZM.refl _).drew)).mono ?_);rintro e w3 ⟨rfl,aE⟩;have i6:=ZA (Yk.back (XW.o.trans (show ZM W _ from by with_reducible first|exact ZM.refl _|exact(ZM.refl _).drew)) aE);obtain⟨_,_,_,gg,_⟩:=aE;have oQ:=gg.cell (by with_reducible first|exact ip|exact ZJ ip) NG.o;have dC:=gg.cell (by with_reducible first|exact e2|exact ZJ e2) NE.o;clear gg));all_goals
   go_wp2_with fail;go_ret;obtain⟨a1,a2,a3⟩:=lB.o _ _ i6.o;exact⟨rfl,C,xb,L,_,Zf6 _,a1,a2,a3⟩
 |go_wp2_with fail;go_ret;exact⟨rfl,XW.o⟩):p:=h
section
variable [Foreign]
def ZIr (g:Zz)(kind n:Nat)(N:Int)(vi:Nat)(a b:Xf):Prop:=∀(w:World) (gd:Nat) (C:Zhf) (xb:Nat->Nat) (L:List Zg) (D:Nat->Nat->Prop),Yc w gd g C xb L a.ks a.dr a.ls D->L.length<=100000-> Calls prog 19 #[ZH gd,.agg #[.int .u8 kind,.int .i64 n,.slice none 0 0,.int .i64 N]] w λe w'=>e=.returned (.int .i64 vi)/\Y0 w gd g C D (L.length+1) b.ks b.dr b.ls w'
theorem ZVN(hn:n<63)(aB:(a.ls n).st≠0)(SP:ZDq g n a b):ZIr g 3 n 0 0 a b:=by
 obtain⟨V1,V4,V6,V7,V8,V12⟩:=QA;exact Qn
theorem ZVO(hn:n<63)(aB:(a.ls n).st=1)(hs:(a.ls n).cn=some s)(cT:(a.ls n).wr.length<=1000000)(eg:s.wr.length<=1000000)(pP:s.led.length<=100000)(aX:∀t ∈ s.led,t.key.length<=5000):ZIr g 4 n 0 0 a {a with ls:=Zr a.ls n (ZDK (a.ls n))}:=by
 obtain⟨V2,V4,V7,V11,V13,V15⟩:=QA;exact QT
def ZKu (g:Zz)(n:Nat)(xs:List Nat)(a b:Xf):Prop:=∀(w:World) (gd:Nat) (C:Zhf) (xb:Nat->Nat) (L:List Zg) (D:Nat->Nat->Prop) (A:Option Addr) (m c:Nat),Yc w gd g C xb L a.ks a.dr a.ls D->xs.length=m->Rd w A (ZT .u8 xs)-> Calls prog 19 #[ZH gd,.agg #[.int .u8 2,.int .i64 n,.slice A m c,.int .i64 0]] w λe w'=>e=.returned (.int .i64 0)/\Y0 w gd g C D L.length b.ks b.dr b.ls w'
theorem ZVP(hn:n<63)(aB:(a.ls n).st=1)(dS:a.dr=false)(hs:(a.ls n).cn=some s)(hi:ZB0 s)(hc:s.closed=false)(hf:s.fin=0)(hcl:s.cl=false)(hb:∀x ∈ xs,x<256)(hN:s.ws.length+xs.length<=5000000000000)(hP:s.line.length+(Zp (s.ws++xs)).1.length<=1000000): ZKu g n xs a {a with ls:=Zr a.ls n {a.ls n with cn:=some (ZF0 s (s.ws++xs))}}:=by
 obtain⟨V3,V8,V9,V12,V13,V16⟩:=QA;exact QT
end
theorem ZNv (w:World)(Fm gm gb gh t)(cs:Array Value)(u)(h:Y6 w Fm gm (List.replicate 34 0) 0 [])(b0:w.cell? ⟨gb,0,none⟩=some (ZH gm))(b1:w.cell? ⟨gb,1,none⟩=some (.slice (some ⟨gh,0,none⟩) 34 34))(hh:w.heap[gh]?=some (.cells cs t (0,0)))(hc:cs[1]?=some u)(hu:u=.slice none 0 0)(hb:¬Fm gb)(hg:¬Fm gh): Calls prog 80 #[ZH gb,.int .i64 0,.int .i64 1,.int .u64 0,.int .u64 1,.slice none 0 0] w (λe w'=>e=.returned (.bool true)/\∃w1,JH w Fm gm ((List.replicate 34 0).set 1 1) 0 [⟨0,2,1,0,1,true⟩] w1/\w'=w1.setCell ⟨gh,1,none⟩ (.slice none 0 0)):=by
 have LD:=ZA (show Calls prog 125 #[.pointer (some ⟨gm,0,none⟩),.int .i64 0,.int .i64 1,.int .u64 0,.int .u64 1] w λe w'=>e=.returned (.tuple #[.bool true,.int .i64 0])/\JH w Fm gm ((List.replicate 34 0).set 1 1) 0 [⟨0,2,1,0,1,true⟩] w' from
  ZLG w Fm gm (List.replicate 34 0) 0 [] 0 1 0 1 h ZXz ZB ZB rfl)
 have g0:w.cell? ⟨gh,1,none⟩=some (.slice none 0 0):=by rw[<-hu];exact(ZE hh 1).trans hc
 clear h hc hu;go_enter func80,ntmps80;go_wp2_with fail;refine LD.o.mono ?_;rintro e w1 ⟨rfl,aE⟩;have HG:=ZA aE;obtain⟨_,_,g,_⟩:=aE;have c0:=g.cell b0 hb;have c1:=g.cell b1 hb;have d0:=g.cell g0 hg;have fz:=ZG (g.blk hh hg) 1;clear b0 b1 g0 g hh;go_wp2_with fail;go_ret;exact⟨rfl,w1,HG.o,rfl⟩
def ZXb (w:World)(e:Ending)(w':World):Prop:=∃(gb gm gh:Nat) (Fm:Zhf) (tb th:TypeId),e=.returned (ZH gb)/\Y6 w' Fm gm (List.replicate 34 0) 0 []/\w'.heap[gb]?=some (.cells #[ZH gm,.slice (some ⟨gh,0,none⟩) 34 34] tb (0,0))/\w'.heap[gh]?=some (.cells (List.replicate 34 (.slice none 0 0)).toArray th (0,0))/\ZM w w'/\(∀i,Fm i->w.heap.size<=i)/\w.heap.size<=gb/\w.heap.size<=gh/\¬Fm gb/\¬Fm gh/\gb≠gh
theorem ZN3:(prog.info? 56).map (λi=>(i.zero,i.size,i.bytes))=some (some (.slice none 0 0),1,24):=by kernel_rfl
theorem ZU0:madeCells #[.slice none 0 0] 34=(List.replicate 34 (Value.slice none 0 0)).toArray:=by kernel_rfl
theorem ZQn (w):Calls prog 79 #[.int .i64 34] w (ZXb w):=by
 have uJ:∀w:World,(Instr.makeSlice 209 (.int .i64 34) (.int .i64 34)).run prog w=.ok (.slice (some ⟨w.heap.size,0,none⟩) 34 34) (w.alloc (.cells (madeCells #[.slice none 0 0] 34) 56)):=run_make_row' (P:=prog) 209 56 (.slice none 0 0) 24 underlying209 ZN3 rfl .i64 .i64 34 ZB ZB;go_enter func79,ntmps79;go_wp2_with fail;refine(ZUz 34 w ZB ZB).mono ?_;rintro e w1 ⟨gm,Fm,rfl,m1,x1,f1,hg⟩;have M1:=ZA m1;clear m1;go_wp2_with fail;go_ret;have ak:=M1.o.lt;refine⟨w1.heap.size+1,gm,w1.heap.size,Fm,_,56,rfl,M1.o.ext (((ZM.refl w1).alloc _).alloc _),Zi _ _ ZXz,(ZQ (ZV w1 _) _).trans (by rw[ZU0]),(x1.alloc _).alloc _,f1,by have:=x1.size;omega,x1.size,λe=>?_,λe=>?_,by omega⟩
 ·have:=ak _ e;omega
 ·have:=ak _ e;omega
def ZXR (w:World)(e:Ending)(w':World):Prop:=∃(gl gb gm gh:Nat) (Fm:Zhf) (tl tb th:TypeId),e=.returned (ZH gl)/\Y6 w' Fm gm ((List.replicate 34 0).set 1 1) 0 [⟨0,2,1,0,1,true⟩]/\w'.heap[gl]?=some (.cells #[ZH gb,YD 39 #[]] tl (0,0))/\w'.heap[gb]?=some (.cells #[ZH gm,.slice (some ⟨gh,0,none⟩) 34 34] tb (0,0))/\ w'.heap[gh]?=some (.cells (List.replicate 34 (.slice none 0 0)).toArray th (0,0))/\ZM w w'/\(∀i,Fm i->w.heap.size<=i)/\w.heap.size<=gl/\w.heap.size<=gb/\w.heap.size<=gh/\¬Fm gl/\¬Fm gb/\¬Fm gh/\gb≠gh/\gl≠gh
theorem ZQf (w):Calls prog 38 #[.int .i64 2,.slice none 0 0,YD 39 #[]] w (ZXR w):=by
 have BN:=ZA (ZQn w);have PL:=ZA (λw=>show Calls prog 81 #[.int .i64 0,.int .u64 0] w λe w'=>e=.returned (.int .i64 1)/\w=w' from ZAu 0 0 w ZB ZB);go_enter func38,ntmps38;go_wp2_with fail;refine BN.o.mono ?_;rintro e w1 ⟨gb,gm,gh,Fm,tb,th,rfl,m1,hb,hh,x1,f1,Fx,Fw,nb,nh,ne⟩;obtain⟨W,hW,xW,-⟩:=Za w1 (.cells #[ZH gb,YD 39 #[]] 194);have k0:W.heap[w1.heap.size]?=some (.cells #[ZH gb,YD 39 #[]] 194 (0,0)):=by rw[<-hW];exact ZV w1 _
 have SW:=ZA (ZNv W.drew Fm gm gb gh th _ _ ((m1.ext xW).ext (ZM.refl W).drew) (ZE (ZK hb xW.drew) 0) (ZE (ZK hb xW.drew) 1) (ZK hh xW.drew) ZX0 rfl nb nh);have e0:=ZX1 k0 0 (ZH gb);have AV:gh<w1.heap.size:=ZX hh;have gA:gb<w1.heap.size:=ZX hb;have ak:=m1.lt;have vY:¬Fm w1.heap.size:=λe=>Zf9 _ (ak _ e);have wa:w1.heap.size≠gh:=by omega
 have KB:=ZA (ZK hb xW);have KH:=ZA (ZK hh xW);have K0:=ZA k0;have XW:=ZA (x1.trans xW);have F1:=ZA f1;have HW:=ZA hW;have X1:=ZA x1;have HS:=ZA xW.size;clear m1 hb hh x1 f1 xW k0 hW ak;go_upto_region 2 with fail
 (try rw[HW.o])
 clear HW
 go_region_held3 (λw'=>w'.cell? ⟨w1.heap.size,0,none⟩=some (ZH gb)) (((try go_split_ands);exact ZX7))
  (first
   |(go_at_call 81;(with_reducible refine(PL.out _).mono ?_);rintro e w2 ⟨rfl,rfl⟩)
   |(go_at_call 80;(with_reducible refine SW.o.mono ?_);rintro e w2 ⟨rfl,wm,aE,rfl⟩;have HG:=ZA aE;obtain⟨-,-,gg,-⟩:=aE;have cy:=Zd (i:=1) (u:=Value.slice none 0 0) (gg.cell (ZJ e0) vY) wa;clear gg))
 all_goals
  go_wp2_with fail;go_ret;obtain⟨i8,m,g,f⟩:=HG.o;have gs:GB wm (wm.setCell ⟨gh,1,none⟩ (.slice none 0 0)) (· =gh):=(GB.refl wm (· =gh)).set gh _ _ (.inl rfl);have hs:=HS.o;have aG:=X1.o.size;have lS:∀q,q<W.heap.size->¬Fm q->¬i8 q:=λq hq h e=>by
   rcases f q e with f|f
   ·exact h f
   ·have h9:W.heap.size<=q:=f;omega
  have yf:∀i,i8 i->w.heap.size<=i:=λi hi=>(f i hi).elim (F1.o i) (λh=>by have h9:W.heap.size<=i:=h;omega);have g':GB W wm Fm:=GB.back (ZM.refl W).drew g;have xx:ZM w (wm.setCell ⟨gh,1,none⟩ (.slice none 0 0)):=(g'.to_ext XW.o F1.o).grown (Ze wm gh 1 _) (λq hq=>by injection hq with hq;omega);have bY:w1.heap.size<W.heap.size:=ZX K0.o;refine⟨w1.heap.size,gb,gm,gh,i8,_,tb,th,rfl,m.gb gs (λi hi e=>lS gh ZB nh (e ▸ hi)),gs.blk (g'.blk K0.o vY) wa,gs.blk (g'.blk KB.o nb) ne,?_,xx,yf,by omega,Fx,Fw,lS _ bY vY,lS _ ZB nb,lS _ ZB nh,ne,wa⟩;exact ZR (g'.blk KH.o nh) 1 _
theorem ZI9 (P):∀u ∈ ZAB P,u.oneCell'=true:=λu hu=>by
 obtain⟨p,-,hp⟩:=ZfS.1 hu;simp[ZC5]at hp;rcases hp with rfl|rfl|rfl|rfl<;>rfl
theorem ZTz (P:List YK)(A:Option Addr)(n c room:Nat)(w:World)(hn:P.length=n)(aZ:n<=32)(hP:∀p ∈ P,Yt p)(hr:Rd w A (ZAB P))(h1:1<=room)(h2:room<=4096): Calls prog 36 #[.slice A n c,.int .i64 room] w λe w'=>(∃p,e=.returned (.tuple #[p,.int .i64 0]))/\ZM w w':=by
 have PO:=ZA (ZBg P A n c w hn aZ hP hr);have CL:=ZA (λu (x:ZM w u)=>ZLi u A n c (ZAB P) (by rw[ZFq,hn]) ZB (hr.ext x) (ZI9 P));have b1:¬(room:Int)<1:=by omega
 have b2:¬(4096:Int)<(room:Int):=by omega
 clear hr hP hn;go_enter func36,ntmps36;go_wp2_with fail;refine PO.out.mono ?_;rintro e w1 ⟨rfl,hx⟩;have HX:=ZA hx;clear hx;go_wp2_with fail;refine(CL.o _ HX.o).mono ?_;rintro e w2 ⟨B,d,rfl,-,hx⟩;have fM:=ZA (HX.o.trans hx);clear hx;go_wp2_with fail
 go_ret2
 exact⟨⟨_,ZAn rfl rfl⟩,fM.o.alloc _⟩
def ZXa (w:World)(P:List YK)(room:Nat)(e:Ending)(w':World):Prop:=∃(g:Zz) (C:Zhf) (L:List Zg),e=.returned (.tuple #[ZH g.gx,.int .i64 0])/\g.P=P/\g.room=room/\YQ w' g (λ_=>False) C (λ_=>0) L Jd/\L.length<=1/\ZM w w'/\w.heap.size<=g.gx/\w.heap.size<=g.gl/\w.heap.size<=g.gb/\∀i,C i->w.heap.size<=i
theorem ZOS (P:List YK)(A:Option Addr)(n c room:Nat)(w:World)(hn:P.length=n)(aZ:n<=32)(hP:∀p ∈ P,Yt p)(hr:Rd w A (ZAB P))(h1:1<=room)(h2:room<=4096): Calls prog 9 #[.slice A n c,.int .i64 room] w (ZXa w P room):=by
 have BK:=ZA (ZTz P A n c room w hn aZ hP hr h1 h2);have CL:=ZA (λu (x:ZM w u)=>ZLi u A n c (ZAB P) (by rw[ZFq,hn]) ZB (hr.ext x) (ZI9 P));have LN:=ZA (λu=>ZQf u);have mA:IntKind.u64.wrap (room:Int)=(room:Int):=by rw[Zef];omega
 have Hn:=ZA hn;clear hr hP hn;go_enter func9,ntmps9;go_wp2_with fail;refine BK.o.mono ?_;rintro e w1 ⟨⟨p,rfl⟩,hx⟩;have HX:=ZA hx;clear hx;go_wp2_with fail;refine(CL.o _ HX.o).mono ?_;rintro e w2 ⟨B,d,rfl,ho,hx⟩;have fM:=ZA (HX.o.trans hx);have HO:=ZA ho;clear hx ho;go_wp2_with fail;refine(LN.o _).mono ?_;rintro e w3 ⟨gl,gb,gm,gh,Fm,tl,tb,th,rfl,m,hl,hb,hh,x3,f3,zl,zb,zh,nl,nb,nh,ne,Dj⟩;obtain⟨Hm,Hl,Hb,Hh,X3,F3⟩:=Ju m hl hb hh x3 f3;clear m hl hb hh x3 f3;go_wp2_with fail
 go_ret2
 have x3:=X3.o;have hm:=Hm.o.lt;have xx:=fM.o.trans x3;have aS:=fM.o.size;have mX:=x3.size;have kS:=ZX Hl.o;have gA:=ZX Hb.o;have AV:=ZX Hh.o;have bB:=λo=>((XJ HO.o).ext x3).alloc o
 refine⟨⟨w3.heap.size,gl,gb,gm,gh,B,d,P,room⟩,λi=>Fm i\/i=gh\/i=w3.heap.size,_,ZAn rfl rfl,rfl,rfl,
  ⟨Fm,List.replicate 64 .nilFunc,List.replicate 34 (.slice none 0 0),143,_,_,_,⟨Hm.o.ext ((ZM.refl w3).alloc _),rfl,rfl,?_,rfl,ZQ Hl.o _,ZQ Hb.o _,ZQ Hh.o _,rfl,λi l hl=>?_,bB _,?_,λi v hv=>?_,?_,nh,?_,?_,?_,.inr (.inr rfl),.inr (.inl rfl),λi hi=>.inl hi,λi _ hr=>?_,λi j _ _ hr=>?_,λi hi=>?_,λi _ e=>e,λi e=>e.elim⟩⟩,Zf6 1,xx.alloc _,?_,?_,?_,λi hi=>?_⟩
 ·show(w3.alloc _).heap[w3.heap.size]?=some (.cells (Value.slice B P.length d::_).toArray _ (0,0));rw[Hn.o];exact ZV w3 _
 ·have e:l=[]:=by
   have:=ZfU hl;exact List.eq_of_mem_replicate this
  subst e;have hi:i<34:=by have:=(Ze5.1 hl).1;simpa[Jd]using this
  exact⟨none,0,[],by rw[Ze8,Zgl hi];rfl,Zw.nil _ _⟩
 ·intro a ha;obtain⟨a1,a2,-⟩:=ZAS HO.o a ha;refine⟨λe=>?_,by simp;omega⟩;rcases e with(e|e|e)|e
  ·have:=F3.o _ e;omega
  ·omega
  ·omega
  ·exact e
 ·exact List.eq_of_mem_replicate (ZfU hv)
 ·exact λe=>Zf9 _ (hm _ e)
 ·show w3.heap.size≠gh;omega
 ·rintro((e|e|e)|e)
  ·exact nl e
  ·exact Dj e
  ·have:gl=w3.heap.size:=e;omega
  ·exact e
 ·rintro((e|e|e)|e)
  ·exact nb e
  ·exact ne e
  ·have:gb=w3.heap.size:=e;omega
  ·exact e
 ·cases hr
 ·cases hr
 ·rw[Zga];rcases hi with e|e|e
  ·have:=hm _ e;omega
  ·omega
  ·omega
 ·show w.heap.size<=w3.heap.size;omega
 ·show w.heap.size<=gl;omega
 ·show w.heap.size<=gb;omega
 ·rcases hi with e|e|e
  ·have:=F3.o _ e;omega
  ·omega
  ·omega
section
variable [Foreign]
def ZJM:Jj:=⟨some ZET,1,[],false,[],false⟩
theorem Jz.new{L:List (Option Nat)}(h:Z3 w base L RO gc r ZET)(h0:v 0=ZH gc)(h1:v 1=.int .i64 1)(h2:v 2=.slice none 0 0)(h3:v 3=.bool false)(h4:v 4=.slice none 0 0)(h5:v 5=.bool false): Jz w (λi=>base<=i/\i<w.heap.size) v ZJM:=by
 have hb:=h.bounds;exact⟨none,none,0,0,[],L,λ_=>False,h1,h2,h3,h4,h5,ZgZ _ _ _ _,(λq e=>by simp[Value.ownBlock]at e),Zf6 _,⟨rfl,Rd.nil _ _,λp hp=>by cases hp⟩,(λa e=>by cases e),(λk hk=>by cases hk),(λ_ e=>e.elim),(λb e=>hb.2.1 b e),base,gc,r,RO,h0,h,λb e=>⟨(hb.2.2 b e).2,λe9=>by simp[Value.ownBlock]at e9⟩⟩
theorem ZTZ (w:World)(gd:Nat)(g:Zz)(C:Zhf)(xb:Nat->Nat)(L:List Zg)(ks:Z9)(dr:Bool)(ls:Nat->Jj)(D:Nat->Nat->Prop)(n:Nat)(h:Yc w gd g C xb L ks dr ls D)(hn:n<63)(dS:dr=false): Calls prog 57 #[ZH gd,.int .i64 n,.bool false] w λe w'=>e=.returned (.int .i64 0)/\Y0 w gd g C D L.length ks dr (Zr ls n ZJM) w':=by
 obtain⟨cs,t,v,hb,hv,-,hD,d3,-,-,az⟩:=h.lineA hn;have bu:=ZX hb;rw[dS]at d3;have c3:w.cell? ⟨gd,379,none⟩=some (.bool false):=(ZE hb _).trans d3;have hi:(0:Int)<=(n:Int)/\(n:Int)<((63:Nat):Int):=⟨by omega,by omega⟩;have nM:(0:Int)<=(n:Int)/\(n:Int)<63:=⟨by omega,by omega⟩;have CN:=ZA (λu=>ZTg u);obtain⟨HB,HV,HD,HF⟩:=ZAU hb hv hD az;have HC:=ZA (λk (hk:k<6)=>(ZE hb (1+n*6+k)).trans (hv k hk));have HZ:=ZA (λk=>ZG hb k);clear h hb hv hD az d3;go_enter func57,ntmps57;go_upto_region 5 with fail
 go_region_held3 (λ_=>True) (trivial) ((go_at_call 99;(with_reducible refine(CN.o _).mono ?_);rintro e w3 ⟨gc,r,Lc,RO,rfl,bg,hx⟩;have ib:=ZA bg;have HX:=ZA ((show ZM w _ from by with_reducible first|exact ZM.refl _|exact(ZM.refl _).drew).trans hx);have K3:=ZK HB.o HX.o;have p0:w3.cell? ⟨gd,1+n*6,none⟩=some (v 0):=((ZE K3 (1+n*6+0)).trans (HV.o 0 ZB):w3.cell? ⟨gd,1+n*6,none⟩=some (v 0));have z0:w3.frozen? ⟨gd,1+n*6,none⟩=false:=ZG K3 _;have p1:(w3.setCell ⟨gd,1+n*6,none⟩ (ZH gc)).cell? ⟨gd,1+n*6+1,none⟩=some (v 1):=(XE (u:=(ZH gc)) ((ZE K3 (1+n*6+1)).trans (HV.o 1 ZB):w3.cell? ⟨gd,1+n*6+1,none⟩=some (v 1)) (by omega:¬1+n*6+1=1+n*6));have z1:(w3.setCell ⟨gd,1+n*6,none⟩ (ZH gc)).frozen? ⟨gd,1+n*6+1,none⟩=false:=ZG (ZR K3 (1+n*6) (ZH gc)) _;have p2:((w3.setCell ⟨gd,1+n*6,none⟩ (ZH gc)).setCell ⟨gd,1+n*6+1,none⟩ (.int .i64 1)).cell? ⟨gd,1+n*6+2,none⟩=some (v 2):=(XE (u:=(.int .i64 1)) (XE (u:=(ZH gc)) ((ZE K3 (1+n*6+2)).trans (HV.o 2 ZB):w3.cell? ⟨gd,1+n*6+2,none⟩=some (v 2)) (by omega:¬1+n*6+2=1+n*6)) (by omega:¬1+n*6+2=1+n*6+1));have z2:((w3.setCell ⟨gd,1+n*6,none⟩ (ZH gc)).setCell ⟨gd,1+n*6+1,none⟩ (.int .i64 1)).frozen? ⟨gd,1+n*6+2,none⟩=false:=ZG (ZR (ZR K3 (1+n*6) (ZH gc)) (1+n*6+1) (.int .i64 1)) _;have p3:(((w3.setCell ⟨gd,1+n*6,none⟩ (ZH gc)).setCell ⟨gd,1+n*6+1,none⟩ (.int .i64 1)).setCell ⟨gd,1+n*6+2,none⟩ (.slice none 0 0)).cell? ⟨gd,1+n*6+3,none⟩=some (v 3):=(XE (u:=(.slice none 0 0)) (XE (u:=(.int .i64 1)) (XE (u:=(ZH gc)) ((ZE K3 (1+n*6+3)).trans (HV.o 3 ZB):w3.cell? ⟨gd,1+n*6+3,none⟩=some (v 3)) (by omega:¬1+n*6+3=1+n*6)) (by omega:¬1+n*6+3=1+n*6+1)) (by omega:¬1+n*6+3=1+n*6+2));have z3:(((w3.setCell ⟨gd,1+n*6,none⟩ (ZH gc)).setCell ⟨gd,1+n*6+1,none⟩ (.int .i64 1)).setCell ⟨gd,1+n*6+2,none⟩ (.slice none 0 0)).frozen? ⟨gd,1+n*6+3,none⟩=false:=ZG (ZR (ZR (ZR K3 (1+n*6) (ZH gc)) (1+n*6+1) (.int .i64 1)) (1+n*6+2) (.slice none 0 0)) _;have p4:((((w3.setCell ⟨gd,1+n*6,none⟩ (ZH gc)).setCell ⟨gd,1+n*6+1,none⟩ (.int .i64 1)).setCell ⟨gd,1+n*6+2,none⟩ (.slice none 0 0)).setCell ⟨gd,1+n*6+3,none⟩ (.bool false)).cell? ⟨gd,1+n*6+4,none⟩=some (v 4):=(XE (u:=(.bool false)) (XE (u:=(.slice none 0 0)) (XE (u:=(.int .i64 1)) (XE (u:=(ZH gc)) ((ZE K3 (1+n*6+4)).trans (HV.o 4 ZB):w3.cell? ⟨gd,1+n*6+4,none⟩=some (v 4)) (by omega:¬1+n*6+4=1+n*6)) (by omega:¬1+n*6+4=1+n*6+1)) (by omega:¬1+n*6+4=1+n*6+2)) (by omega:¬1+n*6+4=1+n*6+3));have z4:((((w3.setCell ⟨gd,1+n*6,none⟩ (ZH gc)).setCell ⟨gd,1+n*6+1,none⟩ (.int .i64 1)).setCell ⟨gd,1+n*6+2,none⟩ (.slice none 0 0)).setCell ⟨gd,1+n*6+3,none⟩ (.bool false)).frozen? ⟨gd,1+n*6+4,none⟩=false:=ZG (ZR (ZR (ZR (ZR K3 (1+n*6) (ZH gc)) (1+n*6+1) (.int .i64 1)) (1+n*6+2) (.slice none 0 0)) (1+n*6+3) (.bool false)) _;have p5:(((((w3.setCell ⟨gd,1+n*6,none⟩ (ZH gc)).setCell ⟨gd,1+n*6+1,none⟩ (.int .i64 1)).setCell ⟨gd,1+n*6+2,none⟩ (.slice none 0 0)).setCell ⟨gd,1+n*6+3,none⟩ (.bool false)).setCell ⟨gd,1+n*6+4,none⟩ (.slice none 0 0)).cell? ⟨gd,1+n*6+5,none⟩=some (v 5):=(XE (u:=(.slice none 0 0)) (XE (u:=(.bool false)) (XE (u:=(.slice none 0 0)) (XE (u:=(.int .i64 1)) (XE (u:=(ZH gc)) ((ZE K3 (1+n*6+5)).trans (HV.o 5 ZB):w3.cell? ⟨gd,1+n*6+5,none⟩=some (v 5)) (by omega:¬1+n*6+5=1+n*6)) (by omega:¬1+n*6+5=1+n*6+1)) (by omega:¬1+n*6+5=1+n*6+2)) (by omega:¬1+n*6+5=1+n*6+3)) (by omega:¬1+n*6+5=1+n*6+4));have z5:(((((w3.setCell ⟨gd,1+n*6,none⟩ (ZH gc)).setCell ⟨gd,1+n*6+1,none⟩ (.int .i64 1)).setCell ⟨gd,1+n*6+2,none⟩ (.slice none 0 0)).setCell ⟨gd,1+n*6+3,none⟩ (.bool false)).setCell ⟨gd,1+n*6+4,none⟩ (.slice none 0 0)).frozen? ⟨gd,1+n*6+5,none⟩=false:=ZG (ZR (ZR (ZR (ZR (ZR K3 (1+n*6) (ZH gc)) (1+n*6+1) (.int .i64 1)) (1+n*6+2) (.slice none 0 0)) (1+n*6+3) (.bool false)) (1+n*6+4) (.slice none 0 0)) _;clear bg hx K3))
 all_goals
  go_wp2_with fail;go_ret;refine⟨rfl,?_⟩;obtain⟨b0,v0,j0⟩:=JB (ZK HB.o HX.o) (n:=n) (k0:=0) (v:=v) ZB HV.o (ZH gc);obtain⟨b1,v1,j1⟩:=JB b0 (n:=n) (k0:=1) (v:=(Zr v 0 (ZH gc))) ZB v0 (.int .i64 1);obtain⟨b2,v2,j2⟩:=JB b1 (n:=n) (k0:=2) (v:=(Zr (Zr v 0 (ZH gc)) 1 (.int .i64 1))) ZB v1 (.slice none 0 0);obtain⟨b3,v3,j3⟩:=JB b2 (n:=n) (k0:=3) (v:=(Zr (Zr (Zr v 0 (ZH gc)) 1 (.int .i64 1)) 2 (.slice none 0 0))) ZB v2 (.bool false);obtain⟨b4,v4,j4⟩:=JB b3 (n:=n) (k0:=4) (v:=(Zr (Zr (Zr (Zr v 0 (ZH gc)) 1 (.int .i64 1)) 2 (.slice none 0 0)) 3 (.bool false))) ZB v3 (.slice none 0 0);obtain⟨b5,v5,j5⟩:=JB b4 (n:=n) (k0:=5) (v:=(Zr (Zr (Zr (Zr (Zr v 0 (ZH gc)) 1 (.int .i64 1)) 2 (.slice none 0 0)) 3 (.bool false)) 4 (.slice none 0 0))) ZB v4 (.bool false);have gs:GB w3 ((((((w3.setCell ⟨gd,1+n*6,none⟩ (ZH gc)).setCell ⟨gd,1+n*6+1,none⟩ (.int .i64 1)).setCell ⟨gd,1+n*6+2,none⟩ (.slice none 0 0)).setCell ⟨gd,1+n*6+3,none⟩ (.bool false)).setCell ⟨gd,1+n*6+4,none⟩ (.slice none 0 0)).setCell ⟨gd,1+n*6+5,none⟩ (.bool false)) (· =gd):=(((((((GB.refl w3 (· =gd)).set gd (1+n*6) (ZH gc) (.inl rfl)).set gd (1+n*6+1) (.int .i64 1) (.inl rfl)).set gd (1+n*6+2) (.slice none 0 0) (.inl rfl)).set gd (1+n*6+3) (.bool false) (.inl rfl)).set gd (1+n*6+4) (.slice none 0 0) (.inl rfl)).set gd (1+n*6+5) (.bool false) (.inl rfl));have aF:=(Jz.new (ib.o.gb gs (λb (e:b=gd)=>⟨λe9=>by have:=(ib.o.bounds.2.1 b e9).1;rw[e]at this;exact Zf9 _ (ZgB bu this),λe9=>by have:=(ib.o.bounds.2.2 b e9).2.1;rw[e]at this;exact Zf9 _ (ZgB bu this)⟩)) (v:=(Zr (Zr (Zr (Zr (Zr (Zr v 0 (ZH gc)) 1 (.int .i64 1)) 2 (.slice none 0 0)) 3 (.bool false)) 4 (.slice none 0 0)) 5 (.bool false))) (by simp[Zr]) (by simp[Zr]) (by simp[Zr]) (by simp[Zr]) (by simp[Zr]) (by simp[Zr]));obtain⟨a1,a2,a3⟩:=HF.o _ _ _ _ _ ((GB.of_ext (λi=>i=gd\/D n i) HX.o).trans gs (λi e=>.inl (.inl e))) b5 v5 (λj hj=>(j5 j hj).trans ((j4 j hj).trans ((j3 j hj).trans ((j2 j hj).trans ((j1 j hj).trans (j0 j hj)))))) aF (λi hi=>⟨.inr hi.1,hi.2⟩);exact⟨C,xb,L,_,Zf6 _,a1,a2,a3⟩
theorem ZOO(hn:n<63)(aB:(a.ls n).st=0)(dS:a.dr=false):ZIr g 1 n 0 0 a {a with ls:=Zr a.ls n ZJM}:=by
 obtain⟨V3,_⟩:=QA;exact Qn
def lz:List Value:=[.pointer none,.int .i64 0,.slice none 0 0,.bool false,.slice none 0 0,.bool false]
def dz:List Value:=.pointer none::((List.replicate 63 lz).flatten++[.bool false])
theorem ZXC:Tryz.zeroCells164=dz.toArray:=by kernel_rfl
theorem ZSv:∀(m n k:Nat),n<m->k<6->(List.replicate m lz).flatten[n*6+k]?=lz[k]?
 |0,n,k,h,_=>by omega
 |m+1,0,k,_,hk=>by
  rw[List.replicate_succ,Zey,ZgS,ZgQ,Ze0 (by exact hk)]
 |m+1,n+1,k,h,hk=>by
  have:=ZSv m n k ZB hk;rw[List.replicate_succ,Zey,Ze1 (by show 6<=_;omega),show(n+1)*6+k - lz.length=n*6+k by show(n+1)*6+k - 6=_;omega];exact this
theorem ZPE:∀m,(List.replicate m lz).flatten.length=m*6
 |0=>rfl
 |m+1=>by
  rw[List.replicate_succ,Zey,ZfE,ZPE m,show lz.length=6 from rfl];omega
theorem ZNh:(List.replicate 63 lz).flatten.length=378:=ZPE 63
theorem ZWg (p){k:Nat}(hn:n<63)(hk:k<6):(dz.toArray.setIfInBounds 0 p)[1+n*6+k]?=lz[k]?:=by
 rw[ZeU ZB,ZfC,show 1+n*6+k=(n*6+k)+1 by omega];unfold dz;rw[Ze2,Ze0 (by rw[ZNh];omega)];exact ZSv 63 n k hn hk
theorem ZXn (p):(dz.toArray.setIfInBounds 0 p)[0]?=some p:=by
 rw[ZeV];exact(by show 0<dz.length;unfold dz;simp)
theorem ZWh (p):(dz.toArray.setIfInBounds 0 p)[379]?=some (.bool false):=by
 rw[ZeU ZB,ZfC];unfold dz;rw[show 379=378+1 from rfl,Ze2,Ze1 (by rw[ZNh];omega),ZNh];rfl
def ZGS:Xf:=⟨Jd,λ_=>lnZ,false⟩
def ZUH (w:World)(P:List YK)(room:Nat)(e:Ending)(w':World):Prop:=∃(gd:Nat) (g:Zz) (C:Zhf) (xb:Nat->Nat) (L:List Zg) (D:Nat->Nat->Prop),e=.returned (.tuple #[ZH gd,.int .i64 0])/\g.P=P/\g.room=room/\Yc w' gd g C xb L ZGS.ks ZGS.dr ZGS.ls D/\L.length<=1/\ZM w w'/\∀i,Y8 gd C D i->w.heap.size<=i
theorem ZVR (P:List YK)(A:Option Addr)(n c room:Nat)(w:World)(hn:P.length=n)(aZ:n<=32)(hP:∀p ∈ P,Yt p)(hr:Rd w A (ZAB P))(h1:1<=room)(h2:room<=4096)(AW:∀i,¬Foreign.fo i): Calls prog 18 #[.slice A n c,.int .i64 room] w (ZUH w P room):=by
 have CN:=ZA (ZOS P A n c room w hn aZ hP hr h1 h2);have zv:=ZA AW;clear hn aZ hP hr h1 h2 AW;go_enter func18,ntmps18;go_wp2_with fail;refine CN.o.mono ?_;rintro e w1 ⟨g,C,L,rfl,hP,dK,fp,hL,hx,-,-,-,hC⟩;obtain⟨II,HX,HC,HP,HR,HL⟩:=Ju fp hx hC hP dK hL;clear fp hx hC hP dK hL;go_wp2_with fail
 go_ret2
 have hz:=HX.o.size;have hb:∀(o:Obj),(w1.alloc o).heap[w1.heap.size]?=some o:=λo=>ZV w1 o;rw[ZXC];have fb:=hb (.cells (dz.toArray.setIfInBounds 0 (ZH g.gx)) 164 (0,0));refine⟨w1.heap.size,g,C,λ_=>0,L,λ_ _=>False,ZAn rfl rfl,HP.o,HR.o,⟨λ_ k=>(lz[k]?).getD (.bool false),?_,⟨_,_,fb⟩,(ZE fb 0).trans (ZXn _),(ZE fb 379).trans (ZWh _),λn k hn hk=>?_,λn hn=>Jz.zero _ _ _ rfl rfl rfl rfl rfl rfl,λn i hi=>hi.elim,λn m i hi=>hi.elim,λi _ e=>zv.o i e⟩,HL.o,HX.o.alloc _,λi hi=>?_⟩
 ·refine II.o.far (GB.of_ext (λ_=>False) ((ZM.refl w1).alloc _)) (λ_ _ e=>e.elim) (λi hi e=>?_) (λi e=>?_)
  ·rcases e with(e|⟨_,e⟩)|e
   ·omega
   ·exact e.elim
   ·exact(zv.o i e).elim
  ·rcases e with(e|⟨_,e⟩)|e
   ·rw[e];exact ZX fb
   ·exact e.elim
   ·exact(zv.o i e).elim
 ·refine(ZE fb _).trans ((ZWg _ hn hk).trans ?_);have hl:k<lz.length:=hk
  dsimp only
  rw[Ze4 hl];rfl
 ·rcases hi with e|e|⟨_,e⟩
  ·exact HC.o i e
  ·omega
  ·exact e.elim
end
section
variable [Foreign]
def YW (w:World)(base gd:Nat)(g:Zz)(N:Nat)(a:Xf)(F:Zhf):Prop:=base<=w.heap.size/\(∀i,F i->i<w.heap.size)/\∃C xb L D,Yc w gd g C xb L a.ks a.dr a.ls D/\L.length<=N/\∀i,Y8 gd C D i->base<=i/\¬F i
abbrev DWr (base:Nat)(F:Zhf):Nat->Prop:=λi=>base<=i/\¬F i
theorem YW.ext {w w':World}{base gd:Nat}{g:Zz}{N:Nat}{a:Xf}{F:Zhf}(h:YW w base gd g N a F)(x:ZM w w'):YW w' base gd g N a F:=by
 obtain⟨h1,h2,C,xb,L,D,h3,h4,h5⟩:=h;exact⟨Zf8 h1 x.size,λi hi=>ZgB (h2 i hi) x.size,C,xb,L,D,h3.ext x,h4,h5⟩
theorem YW.more {w w':World}{base gd:Nat}{g:Zz}{N:Nat}{a:Xf}{F F':Zhf}(h:YW w base gd g N a F)(x:ZM w w')(hF:∀i,F' i->F i\/(w.heap.size<=i/\i<w'.heap.size)):YW w' base gd g N a F':=by
 obtain⟨h1,h2,C,xb,L,D,h3,h4,h5⟩:=h;refine⟨Zf8 h1 x.size,λi hi=>?_,C,xb,L,D,h3.ext x,h4,λi hi=>⟨(h5 i hi).1,λe=>?_⟩⟩
 ·rcases hF i hi with e|e
  ·exact ZgB (h2 i e) x.size
  ·exact e.2
 ·rcases hF i e with e|e
  ·exact(h5 i hi).2 e
  ·have:=h3.lt i hi;omega
theorem YW.go{N':Nat}{D:Nat->Nat->Prop}(h1:base<=w.heap.size)(h2:∀i,F i->i<w.heap.size)(h5:∀i,Y8 gd C D i->base<=i/\¬F i)(hN:N<=N')(h:Y0 w gd g C D N b.ks b.dr b.ls w'):YW w' base gd g N' b F/\GB w w' (DWr base F):=by
 obtain⟨C',fY,L',D',k1,k2,k3,k4⟩:=h;refine⟨⟨Zf8 h1 k3.size,λi hi=>ZgB (h2 i hi) k3.size,C',fY,L',D',k2,Zf8 k1 hN,λi hi=>?_⟩,k3.more (λi _ e=>h5 i e)⟩;rcases k4 i hi with e|e
 ·exact h5 i e
 ·exact⟨Zf8 h1 e,λe9=>by have:=h2 i e9;omega⟩
theorem YW.fo {f1 f2 S F':Zhf}{w w':World}{base gd:Nat}{g:Zz}{N:Nat}{a:Xf}{F:Zhf}(h:@YW ⟨f1⟩ w base gd g N a F)(k:GB w w' S)(hS:∀i,i<w.heap.size->S i->f1 i)(ho:∀i,f2 i->f1 i\/w.heap.size<=i)(hl:∀i,f2 i->i<w'.heap.size)(hF:∀i,F' i->f2 i\/F i)(u9:∀i,F i->F' i->i<w'.heap.size):@YW ⟨f2⟩ w' base gd g N a F':=by
 obtain⟨h1,h2,C,xb,L,D,h3,h4,h5⟩:=h;have ak:=@Yc.lt ⟨f1⟩ _ _ _ _ _ _ _ _ _ _ h3;obtain⟨lv,c1,⟨cs,t,c2⟩,c3,c4,c5,c6,c7,c8,c9⟩:=h3;have nC:∀i,C i->¬S i:=λi hi e=>c1.co i hi (.inr (hS i (c1.lt i hi) e));have nD:∀i,@DOs gd D i->¬S i:=λi hi e=>c9 i hi (hS i (ak i (.inr hi)) e);have nf:∀i,@DOs gd D i->¬f2 i:=λi hi e=>(ho i e).elim (c9 i hi) (λe=>by have:=ak i (.inr hi);omega);have Di:∀i,C i->¬f2 i:=λi hi e=>(ho i e).elim (λe=>c1.co i hi (.inr e)) (λe=>by have:=c1.lt i hi;omega);have ep:¬S gd:=nD gd (.inl rfl);refine⟨Zf8 h1 k.size,λi hi=>(hF i hi).elim (hl i) (λe=>u9 i e hi),C,xb,L,D,⟨lv,c1.far k (λi hi e=>.inr (hS i hi e)) (λi hi e=>e.imp id (λe=>(ho i e).resolve_right ZB)) (λi e=>e.elim (λe=>ZgB (ak i (.inr e)) k.size) (hl i)),⟨cs,t,k.blk c2 ep⟩,k.cell c3 ep,k.cell c4 ep,λn q hn hq=>k.cell (c5 n q hn hq) ep,λn hn=>(c6 n hn).gb k (λi hi=>nD i (.inr ⟨n,hi⟩)),λn i hi=>⟨(c7 n i hi).1,ZgB (c7 n i hi).2 k.size⟩,c8,nf⟩,h4,λi hi=>⟨(h5 i hi).1,λe=>?_⟩⟩;rcases hF i e with e|e
 ·exact hi.elim (λq=>Di i q e) (λq=>nf i q e)
 ·exact(h5 i hi).2 e
theorem YW.do_{kind vi:Nat}{X:Int}(h:YW w base gd g N a F)(hN:N<=100000)(d:ZIr g kind n X vi a b): Calls prog 19 #[ZH gd,.agg #[.int .u8 kind,.int .i64 n,.slice none 0 0,.int .i64 X]] w λe w'=>e=.returned (.int .i64 vi)/\YW w' base gd g (N+1) b F/\GB w w' (DWr base F):=by
 obtain⟨h1,h2,C,xb,L,D,h3,h4,h5⟩:=h;refine(d w gd C xb L D h3 ZB).mono ?_;rintro e w' ⟨he,hg⟩;obtain⟨k1,k2⟩:=YW.go h1 h2 h5 (by omega:L.length+1<=N+1) hg;exact⟨he,k1,k2⟩
theorem YW.feed_{c:Nat}(h:YW w base gd g N a F)(d:ZKu g n xs a b)(hm:xs.length=m)(hr:Rd w A (ZT .u8 xs)): Calls prog 19 #[ZH gd,.agg #[.int .u8 2,.int .i64 n,.slice A m c,.int .i64 0]] w λe w'=>e=.returned (.int .i64 0)/\YW w' base gd g N b F/\GB w w' (DWr base F):=by
 obtain⟨h1,h2,C,xb,L,D,h3,h4,h5⟩:=h;refine(d w gd C xb L D A m c h3 hm hr).mono ?_;rintro e w' ⟨he,hg⟩;obtain⟨k1,k2⟩:=YW.go h1 h2 h5 h4 hg;exact⟨he,k1,k2⟩
theorem YW.state_ {base gd:Nat}{g:Zz}{N n:Nat}{a:Xf}{F:Zhf}{w:World}(h:YW w base gd g N a F)(hn:n<63): Calls prog 23 #[ZH gd,.int .i64 n] w λe w'=>e=.returned (.int .i64 ((a.ls n).st:Int))/\w=w':=by
 obtain⟨h1,h2,C,xb,L,D,h3,h4,h5⟩:=h;exact ZOK w gd g C xb L a.ks a.dr a.ls D n h3 hn
theorem YW.out_(h:YW w base gd g N a F)(hn:n<63)(hm:(a.ls n).wr.length=m)(im:m<=1000000): Calls prog 25 #[ZH gd,.int .i64 n] w λe w'=>∃A c,e=.returned (.slice A m c)/\w'.ownsRow w.heap.size 5 1 (.slice A m c) m (ZT .u8 (a.ls n).wr)/\ZM w w':=by
 obtain⟨h1,h2,C,xb,L,D,h3,h4,h5⟩:=h;exact ZTV w gd g C xb L a.ks a.dr a.ls D n m h3 hn hm im
end
theorem ZTl (P:List YK)(A K n c pol kl kc op N key w)(hn:P.length=n)(aZ:n<=32)(hP:∀p ∈ P,Yt p)(hr:Rd w A (ZAB P))(ho:Yn P ⟨op,pol,key,N⟩)(aX:kl<=255): Calls prog 85 #[.slice A n c,.agg #[.int .u8 op,.int .i64 pol,.slice K kl kc,.int .i64 N]] w (Xj (.int .i64 0) w):=by
 obtain⟨h1,h6,h4,ha,hs⟩:=ho
 dsimp only at h1 h6 h4 ha hs
 by_cases h:op<=4
 ·have hp:pol<n:=by rw[<-hn];exact(h4 h).1
  have:op=1\/op=2\/op=3\/op=4:=by omega
  rcases this with rfl|rfl|rfl|rfl
  ·exact ZCU P A K n c pol kl kc 1 1 N w hn aZ hP hr (.inl ⟨rfl,rfl⟩) hp (λ_=>(ha rfl).2) (λ_=>by rw[(ha rfl).1];rfl) aX
  ·exact ZCU P A K n c pol kl kc 2 2 N w hn aZ hP hr (.inr (.inl ⟨rfl,rfl⟩)) hp (λe=>absurd e (by decide)) (λ_=>by rw[hs (.inl rfl)];rfl) aX
  ·exact ZCU P A K n c pol kl kc 3 2 N w hn aZ hP hr (.inr (.inr (.inl ⟨rfl,rfl⟩))) hp (λe=>absurd e (by decide)) (λ_=>by rw[hs (.inr rfl)];rfl) aX
  ·exact ZCU P A K n c pol kl kc 4 0 N w hn aZ hP hr (.inr (.inr (.inr ⟨rfl,rfl⟩))) hp (λe=>absurd e (by decide)) (λe=>absurd rfl e) aX
 ·exact ZMV P A K n c kl kc (op:Int) pol N w hn aZ hP hr ZB
def ZWq (w:World)(g:Zz)(O C:Zhf)(xb:Nat->Nat)(L:List Zg)(s:Z9)(who:Nat)(x:ZW)(e:Ending)(w':World):Prop:=∃q C',e=.returned (.int .i64 0)/\YS w g O C (ZK0 xb who q) L (s.put who (.run x false 0 (JD x))) C' w'
theorem ZNl (w)(g:Zz)(O C xb L)(s:Z9)(who pol kl kc op N K)(key:List Nat)(h:YQ w g O C xb L s)(hi:s.call who=.idle)(hw:who<64)(aZ:g.P.length<=32)(hP:∀p ∈ g.P,Yt p)(aP:Yn g.P ⟨op,pol,key,N⟩)(ee:pol<32)(hl:key.length=kl)(hn:kl<=255)(hb:∀x ∈ key,x<256)(hr:Rd w K (ZT .u8 key))(FP:kl<=kc): Calls prog 41 #[ZH g.gx,.int .i64 who,.agg #[.int .u8 op,.int .i64 pol,.slice K kl kc,.int .i64 N]] w (ZWq w g O C xb L s who ⟨op,pol,key,N⟩):=by
 obtain⟨V3,V5,V9⟩:=QA;exact QS
section
variable [Foreign]
theorem ZGB{x:ZW}(hi:ks.call n=.idle)(hn:n<64)(aZ:g.P.length<=32)(hP:∀p ∈ g.P,Yt p)(ho:Yn g.P x)(hp:x.pol<32)(hl:x.key.length<=255)(hb:∀y ∈ x.key,y<256):ZKp g n ks x:=λu O C xb L K m kc h hm hc hr=>by
 subst hm;exact ZNl u g O C xb L ks n x.pol x.key.length kc x.op x.n K x.key h hi hn aZ hP ho hp rfl hl hb hr hc
def ZKh (s:XQ):XQ:={s with wr:=s.wr++(Js (Y2 (YY s.fin)).length++Y2 (YY s.fin)),closed:=true}
theorem ZMi{e:Nat}(hf:s.fin=e)(he:e<=16)(hh:s.hung=false)(h:ZDr (e:Int) false [0,0,0,0] q B):{XK s q B with closed:=true}=ZKh s:=by
 have e1:q=0/\B=Y2 (YY e):=by
  rcases h with⟨-,-,h⟩|⟨h1,-,-,ns,h2,h3⟩
  ·exact absurd ⟨by omega,by omega,λx hx=>by simp at hx;subst hx;exact⟨by omega,by omega⟩⟩ h
  ·refine⟨h1,?_⟩;obtain⟨h4,h5,-⟩:=h2;rw[h3]
   match ns,h4 with
   |[a,b,c,d],_=>
    simp at h5;obtain⟨rfl,rfl,rfl,rfl⟩:=h5;rfl
 obtain⟨rfl,rfl⟩:=e1;unfold XK ZKh;rw[Zgl ⟨rfl,hh⟩,hf]
theorem ZJ5(hn:n<63)(aC:ZAJ (a.ks.call n)=false)(aB:(a.ls n).st=1)(bM:(a.ls n).cn=some s)(ho:s.out=none)(hcl:s.closed=false)(uL:s.hung=false)(fm:s.line=[])(uN:s.fin≠0)(hf:s.fin<=16)(da:s.wr.length<=90000)(gO:(a.ls n).wr.length<=900000)(cC:s.led.length<=100000)(aX:∀t ∈ s.led,t.key.length<=5000): ZDq g n a ⟨a.ks,Zr a.ls n (Xv (ZDK {a.ls n with cn:=some (ZKh s)})),a.dr⟩:=by
 obtain⟨V3,V7,V10,V14,V20⟩:=QA;exact QJ
end
end Go.Proofs.YtloidkmphigbdaaGreat
