import Derived.Deep.AppendLies
import Derived.Deep.CutBlock
import Derived.Test.YtloidkmphigbdaaGreatBTopServed2
namespace Go.Proofs.YtloidkmphigbdaaGreat
open Tryz
set_option linter.all false
set_option maxHeartbeats 40000000
set_option maxRecDepth 100000
open Go.RowKit
variable {fn:Func}{dV xs ys zs:List Nat}{vs:List Value}{N S base c cb g iD m n o off op p p' r who:Nat}{A:Option Addr}{row:Option Nat}{e t:TypeId}{a b v:Value}{w w' w2:World}
def Ze8 := @List.getElem?_replicate
def Zeg := @IntKind.wrap_u8
def Zei := @List.append_assoc
def Zej := @List.append_inj
def Zek := @List.append_nil
def Zem := @List.cons.injEq
def Zeq := @List.drop_left'
def Zfa := @List.mem_singleton
def Zfm := @List.take_append_of_le_length
def Zfn := @List.take_left'
def Zfo := @List.take_length
def Zfs := @List.take_zero
def ZgA := @Nat.lt_of_le_of_lt
def ZgO := @Nat.pow_le_pow_right
theorem ZUq(h:Rd w none (ZT .u8 xs)):xs=[]:=by
 cases xs with
 |nil=>rfl
 |cons x t=>
  obtain⟨b,off,hA,_⟩:=h (by simp[ZT]);cases hA
theorem ZBW (A n c)(xs:List Nat)(w)(hl:xs.length=n)(hn:n<=140737488355328)(hr:Rd w A (ZT .u8 xs)): Calls prog 67 #[.slice A n c] w (ZEs xs w):=by
 cases A with
 |none=>
  have:=ZUq hr;subst this;exact(ZJd w n c).mono λe w' ⟨he,hw⟩=>⟨none,0,he,ZgZ _ _ _ _,hw ▸ ZM.refl w⟩
 |some a=>exact ZEk a n c xs w hl hn hr
theorem ZU9:(prog.info? 32).map (λi=>(i.zero,i.size,i.bytes))=some (some (.slice none 0 0),1,24):=by kernel_rfl
theorem ZT2 {aw:Array Oper}{rest:List Oper}{o:Oper}{a:Act}{Q:Exit->Act->World->Prop}(w:World)(bu:o.guard=none)(s x)(ho:o.op=.call {callee:=.builtin .append,args:=#[s,x],argTypes:=#[176,176]})(base){B:Option Addr}{xs:List Value}(hs:a.eval s=.slice B n cb)(af:w.ownsRow base 32 1 (.slice B n cb) n xs){news:List Value}(hx:a.eval x=.slice A m c)(hl:news.length=m)(hr:Rd w A news)(h1:∀u ∈ news,u.oneCell'=true)(hb:(n+m)*24<=140737488355328)(an:base<=w.heap.size)(h:∀B' au w',w'.ownsRow base 32 1 (.slice B' (n+m) au) (n+m) (xs++news)->w.grownBy w' (Value.slice B n cb).ownBlock-> ((Value.slice B' (n+m) au).ownBlock=(Value.slice B n cb).ownBlock\/(Value.slice B' (n+m) au).ownBlock=some w.heap.size)->wpList prog aw Q rest (a.put o.dst (.slice B' (n+m) au)) w'): wpList prog aw Q (o::rest) a w:=by
 obtain⟨i0,hi,bV,bY,aS⟩:=Zgm ZU9;exact Yj w bu s x 176 ho base 32 underlying176 hi bV bY aS rfl (by decide) hs af hx (by rw[hl,ZgJ]) hr h1 (by unfold maxLen;omega) hb an h
def PL (w:World)(base:Nat)(A:Option Addr)(n c:Nat)(cR:List (List Nat)):Prop:=cR.length=n/\∃(vs:List Value) (gs:List Nat),w.ownsRow base 32 1 (.slice A n c) n vs/\gs.length=n/\gs.Pairwise (· <·)/\(∀g ∈ gs,g<w.heap.size)/\ ∀(i:Nat) (ps:List Nat),cR[i]?=some ps->∃g ci:Nat,gs[i]?=some g/\vs[i]?=some (Value.slice (some ⟨g,0,none⟩) ps.length ci)/\w.ownsRow base 5 1 (.slice (some ⟨g,0,none⟩) ps.length ci) ps.length (ZT .u8 ps)
theorem PL.nil (w base):PL w base none 0 0 []:=⟨rfl,[],[],ZgZ _ _ _ _,rfl,List.Pairwise.nil,by simp,by simp⟩
theorem ZJE{base':Nat}{e':TypeId}{size rL n':Nat}{v':Value}{xs dV:List Value}(h:w.ownsRow base e size v n xs)(h':w.ownsRow base' e' rL v' n' dV)(ag:e≠e'):v.ownBlock=none\/v.ownBlock≠v'.ownBlock:=by
 rcases h.2 with⟨rfl,_⟩|⟨g,_,_,rfl,_,hg,_⟩
 ·exact .inl rfl
 ·rcases h'.2 with⟨rfl,_⟩|⟨g',_,_,rfl,_,jA,_⟩
  ·exact .inr (by simp[Value.ownBlock])
  ·right;intro e1;simp only[Value.ownBlock,Option.some.injEq]at e1;subst e1;rw[hg]at jA;injection jA with jA;injection jA with _ ht;exact ag ht
theorem Qy {p:Prop}(h:p:=by
 obtain⟨hl,vs,gs,ho,kS,hp,uM,aU⟩:=h;have ne:∀{v:Value} {n:Nat} {e:TypeId} {xs:List Value},w.ownsRow base e 1 v n xs->v.ownBlock=none\/v.ownBlock≠row:=by
  intro v n e xs hv;by_cases hn:v.ownBlock=none
  ·exact .inl hn
  ·right;intro e1;cases hb:v.ownBlock with
   |none=>exact hn hb
   |some k=>
    have h1:=(hv.lt k hb).1;have h2:=hrow k (by rw[<-e1,hb]);omega
 first
 |obtain -:=V1;exact⟨vs,hl,gs,ho.kept hg (ne ho),kS,hp,uM,λi ps hi=>by
   obtain⟨g,ci,h1,h2,h3⟩:=aU i ps hi;exact⟨g,ci,h1,h2,h3.kept hg (ne h3)⟩⟩
 |exact⟨hl,vs,gs,ho.kept hg (ne ho),kS,hp,λg jA=>ZgB (uM g jA) hg.size,λi ps hi=>by
   obtain⟨g,ci,h1,h2,h3⟩:=aU i ps hi;exact⟨g,ci,h1,h2,h3.kept hg (ne h3)⟩⟩):p:=h
theorem PL.keep{cR:List (List Nat)}(h:PL w base A n c cR)(hg:w.grownBy w' row)(hrow:∀k,row=some k->k<base):PL w' base A n c cR:=Qy
def PLv (w:World)(base iD:Nat)(A:Option Addr)(n c:Nat)(cR:List (List Nat))(vs:List Value):Prop:=cR.length=n/\∃gs:List Nat,w.ownsRow base 32 1 (.slice A n c) n vs/\gs.length=n/\gs.Pairwise (· <·)/\(∀g ∈ gs,g<iD)/\ ∀(i:Nat) (ps:List Nat),cR[i]?=some ps->∃g ci:Nat,gs[i]?=some g/\vs[i]?=some (Value.slice (some ⟨g,0,none⟩) ps.length ci)/\w.ownsRow base 5 1 (.slice (some ⟨g,0,none⟩) ps.length ci) ps.length (ZT .u8 ps)
theorem PL.open_{cR:List (List Nat)}(h:PL w base A n c cR)(hg:w.grownBy w' row)(hrow:∀k,row=some k->k<base):∃vs,PLv w' base w.heap.size A n c cR vs:=by
 obtain⟨V1,_⟩:=QA;exact Qy
theorem PLv.own{cR:List (List Nat)}(h:PLv w base iD A n c cR vs):w.ownsRow base 32 1 (.slice A n c) n vs:=by
 obtain⟨_,gs,h,_⟩:=h;exact h
theorem PLv.snoc{w1:World}{cR:List (List Nat)}(h:PLv w base iD A n c cR vs){ps:List Nat}{Ap:Option Addr}{cp:Nat}(hp:w.ownsRow iD 5 1 (.slice Ap ps.length cp) ps.length (ZT .u8 ps))(hps:0<ps.length)(an:base<=iD)(El:iD<=w.heap.size)(hx:w.grownBy w1 none){B':Option Addr}{au:Nat}(ho:w2.ownsRow base 32 1 (.slice B' (n+1) au) (n+1) (vs++[.slice Ap ps.length cp]))(hg:w1.grownBy w2 (Value.slice A n c).ownBlock):PL w2 base B' (n+1) au (cR++[ps]):=by
 obtain⟨hl,gs,h1,h2,h3,h4,h5⟩:=h;obtain⟨g,rfl,bE,aA⟩:=ZB5 hp hps;have hvl:vs.length=n:=by have:=h1.1;omega
 have cW:w1.ownsRow base 32 1 (.slice A n c) n vs:=h1.kept hx (by cases (Value.slice A n c).ownBlock<;>simp);refine⟨by simp[hl],vs++[.slice (some ⟨g,0,none⟩) ps.length cp],gs++[g],ho,by simp[h2],?_,?_,?_⟩
 ·rw[Zfe];exact⟨h3,by simp,λa ha b hb=>by rw[Zfa.1 hb];have:=h4 a ha;omega⟩
 ·intro a ha;rcases ZfN.1 ha with ha|ha
  ·have:=h4 a ha;have:=hx.size;have:=hg.size;omega
  ·rw[Zfa.1 ha];have:=hx.size;have:=hg.size;omega
 ·intro i qs hi;by_cases eQ:i<cR.length
  ·rw[Ze0 eQ]at hi;obtain⟨g',ci,k1,k2,k3⟩:=h5 i qs hi;have k4:w1.ownsRow base 5 1 (.slice (some ⟨g',0,none⟩) qs.length ci) qs.length (ZT .u8 qs):=k3.kept hx (by simp[Value.ownBlock]);exact⟨g',ci,by rw[Ze0 ZB];exact k1,by rw[Ze0 ZB];exact k2,k4.kept hg (ZJE k4 cW (by decide))⟩
  ·rw[Ze1 ZB]at hi;have dF:i=cR.length:=by
    have:=(Ze5.1 hi).1;simp at this;omega
   subst dF;simp at hi;subst hi;have k4:w1.ownsRow base 5 1 (.slice (some ⟨g,0,none⟩) ps.length cp) ps.length (ZT .u8 ps):=(Zj hp an).kept hx (by simp[Value.ownBlock]);exact⟨g,cp,by rw[Ze1 ZB];simp[h2,hl],by rw[Ze1 ZB];simp[hvl,hl],k4.kept hg (ZJE k4 cW (by decide))⟩
def ZWB (all:List Nat)(w:World)(r:Nat)(e:Ending)(w':World):Prop:=∃S A n c,(w.heap.size<=S/\S<=w'.heap.size)/\PL w' S A n c (Zp all).1/\w.grownBy w' (some r)/\ ((Zp all).2.2=true->e=.returned (.tuple #[.slice A n c,.int .i64 12])/\Xs w' r [] true (λb=>w.heap.size<=b/\b<S))/\ ((Zp all).2.2=false->e=.returned (.tuple #[.slice A n c,.int .i64 0])/\Xs w' r (Zp all).2.1 false (λb=>w.heap.size<=b/\b<S))
theorem ZWT (w:World)(r S)(ws:List Nat)(h:Xs w r ws false S)(hb:∀x ∈ ws,x<256)(hN:ws.length<=9223372036854775807)(hh:Y9 ws=0): Calls prog 157 #[.pointer (some ⟨r,0,none⟩)] w λe w'=>e=.returned (.tuple #[.slice none 0 0,.bool false,.int .i64 0])/\Xs w' r ws false S/\w.grownBy w' (some r):=
 (ZHp w r S ws h hb hN).mono λe w' ⟨hg,hc⟩=>by
  rcases hc with⟨_,h2,h3⟩|⟨h1,_⟩|⟨h1,_⟩
  ·exact⟨h2,h3,hg⟩
  ·omega
  ·omega
theorem ZWV (w:World)(r S)(ws:List Nat)(h:Xs w r ws false S)(hb:∀x ∈ ws,x<256)(hN:ws.length<=9223372036854775807)(hh:Y9 ws=1): Calls prog 157 #[.pointer (some ⟨r,0,none⟩)] w λe w'=>e=.returned (.tuple #[.slice none 0 0,.bool false,.int .i64 12])/\(∃A n c,w'.heap[r]?=some (.cells #[.slice A n c,.bool false] 283 (0,0)))/\w.grownBy w' (some r):=
 (ZHp w r S ws h hb hN).mono λe w' ⟨hg,hc⟩=>by
  rcases hc with⟨h1,_⟩|⟨_,h2,h3⟩|⟨h1,_⟩
  ·omega
  ·exact⟨h2,h3,hg⟩
  ·omega
theorem ZWU (w:World)(r S)(ws:List Nat)(h:Xs w r ws false S)(hb:∀x ∈ ws,x<256)(hN:ws.length<=9223372036854775807)(hh:Y9 ws=2): Calls prog 157 #[.pointer (some ⟨r,0,none⟩)] w λe w'=>∃A c,e=.returned (.tuple #[.slice A (ZA1 ws).length c,.bool true,.int .i64 0])/\w'.ownsRow w.heap.size 5 1 (.slice A (ZA1 ws).length c) (ZA1 ws).length (ZT .u8 (ZA1 ws))/\Xs w' r (JW ws) false S/\w.grownBy w' (some r):=
 (ZHp w r S ws h hb hN).mono λe w' ⟨hg,hc⟩=>by
  rcases hc with⟨h1,_⟩|⟨h1,_⟩|⟨_,⟨A,c,h2,h3⟩,h4⟩
  ·omega
  ·omega
  ·exact⟨A,c,h2,h3,h4,hg⟩
theorem ZRG (w r S)(ws:List Nat)(A n c)(xs:List Nat)(h:Xs w r ws false S)(cU:∀x ∈ ws,x<256)(hl:xs.length=n)(hb:∀x ∈ xs,x<256)(hr:Rd w A (ZT .u8 xs))(hN:ws.length+n<=5000000000000): Calls prog 105 #[.pointer (some ⟨r,0,none⟩),.slice A n c] w (ZWB (ws++xs) w r):=by
 obtain⟨A0,n0,c0,aH,sM,hnc0,qS,tD⟩:=h;have h0:=ZX1 aH 0 (.slice A0 n0 c0);have h1:=ZX1 aH 1 (.bool false);have dw:=ZX aH;have C1:=ZA (ZBW A0 n0 c0 ws w sM ZB qS);have LC:n0+n<=5000000000000:=by omega
 obtain⟨gv,Hl0,Ma,HAS⟩:=ZAU aH sM qS tD;clear aH sM qS tD;obtain⟨Hl,Hr,Hb,jI⟩:=ZAU hl hr hb cU;clear hl hr hb cU;go_enter func105,ntmps105;go_wp2_with fail;refine C1.o.mono ?_;rintro e w1 ⟨A1,c1,rfl,ax,aK⟩;rw[Hl0.o]at ax ⊢;go_wp2_with (first|(at_builtin;refine JV _ rfl (.tmp 23) (.tmp 24) rfl w.heap.size rfl ax rfl Hl.o (Hr.o.ext aK) ZB aK.size ?_;intro A2 c2 w2 bT bA _;have bd:ZM w w2:=aK.grown bA (Yw ax);have Fs:w2.cell? ⟨r,0,none⟩=some (.slice A0 n0 c0):=(bd.cell (p:=⟨r,0,none⟩) dw).trans h0;have EW:w2.frozen? ⟨r,0,none⟩=false:=(bd.frozen (p:=⟨r,0,none⟩) dw).trans (ZG gv.o 0))|fail);have gU:(w2.setCell ⟨r,0,none⟩ (.slice A2 (n0+n) c2)).heap[r]?=some (.cells #[.slice A2 (n0+n) c2,.bool false] 283 (0,0)):=ZR (ZK gv.o bd) 0 _;have aA:w.grownBy (w2.setCell ⟨r,0,none⟩ (.slice A2 (n0+n) c2)) (some r):=ZU (ZAV (ZgX w _) bd) 0 _;have aU:(ws++xs).length=n0+n:=by rw[ZfE,Hl0.o,Hl.o]
 have kI:Xs (w2.setCell ⟨r,0,none⟩ (.slice A2 (n0+n) c2)) r (ws++xs) false (λb=>w.heap.size<=b/\b<w2.heap.size):=by
  refine⟨A2,n0+n,c2,gU,aU,YR bT,?_,λa ha=>⟨Yw bT _ (by rw[ha];rfl),ZWP bT a ha⟩⟩
  exact(Rd.of_own bT).grown (Ze _ _ _ _) (λa ha hr=>by
   injection hr with hr;have:=(bT.lt a.block (by rw[ha];rfl)).1;omega)
 have sj:w.heap.size<=w2.heap.size:=bd.size;have nP:∀x ∈ ws++xs,x<256:=λx hx=>by
  rcases ZfN.1 hx with hx|hx
  ·exact jI.o x hx
  ·exact Hb.o x hx
 obtain⟨y9,qo,tY,Hall⟩:=ZAU aA kI nP aU;clear ax bA aK bT Fs EW gU aA kI nP aU h0 h1;generalize hS:w2.heap.size=S2 at*;have HS:=ZA hS;clear hS;generalize Fh:ws++xs=al at*;clear Fh
 go_loopg [6] (n0+n) (λg out wr=>∃done cH A n' c,cH.length=g/\out=.slice A n' c/\PL wr S2 A n' c done/\Xs wr r cH false (λb=>w.heap.size<=b/\b<S2)/\w.grownBy wr (some r)/\S2<=wr.heap.size/\(∀x ∈ cH,x<256)/\n'+cH.length<=n0+n/\done++(Zp cH).1=(Zp al).1/\(Zp cH).2=(Zp al).2)
 case atStart=>exact⟨[],al,none,0,0,Hall.o,rfl,PL.nil _ _,qo.o,y9.o,by have:=HS.o;simp;omega,tY.o,by have:=Hall.o;omega,rfl,rfl⟩
 case round=>
  obtain⟨done,cH,Ao,no,co,hgk,rfl,nR,hR,gn,aL,tp,df,dd,be⟩:=hrel;have DX:r<S2:=by omega
  obtain⟨j6,iY,l9,HR,fP,HBT⟩:=Ju dd be nR hR gn tp;have Iy:=ZA hgk;clear dd be nR hR gn tp hgk;rcases ZDd cH with hh|hh|hh
  ·have C:=ZA (ZWT wr r _ cH HR.o HBT.o ZB hh);have HH:=ZA hh;clear hh;go_wp2_with fail;refine C.o.mono ?_;rintro e w4 ⟨rfl,tC,fF⟩;have ze:=ZA tC;have HG4:=ZA fF;clear tC fF;go_wp2_with fail
   go_ret2
   have e1:=ZBP HH.o;refine⟨S2,Ao,no,co,⟨sj,Zf8 aL HG4.o.size⟩,?_,World.grown_trans fP.o HG4.o,?_,?_⟩
   ·rw[<-j6.o,e1,Zek];exact l9.o.keep HG4.o (λk hk=>by injection hk with hk;omega)
   ·intro h;rw[<-iY.o,e1]at h;cases h
   ·intro _;rw[<-iY.o,e1];exact⟨rfl,ze.o⟩
  ·have C:=ZA (ZWV wr r _ cH HR.o HBT.o ZB hh);have HH:=ZA hh;clear hh;go_wp2_with fail;refine C.o.mono ?_;rintro e w4 ⟨rfl,⟨A4,n4,c4,jT⟩,fF⟩;have k0:=ZX1 jT 0 (.slice A4 n4 c4);have k1:=ZX1 jT 1 (.bool false);have f0:=ZG jT 0;have f1:=ZG jT 1;have IM:=ZA jT;have HG4:=ZA fF;clear jT fF;go_wp2_with fail
   go_ret2
   have e1:=ZCl HH.o;have jh:=ZU (ZU (World.grown_trans fP.o HG4.o) 1 (.bool true)) 0 (.slice none 0 0);refine⟨S2,Ao,no,co,⟨sj,by simpa using Zf8 aL HG4.o.size⟩,?_,jh,?_,?_⟩
   ·rw[<-j6.o,e1,Zek];exact(l9.o.keep HG4.o (λk hk=>by injection hk with hk;omega)).keep (ZU (Ze _ _ _ _) 0 _) (λk hk=>by injection hk with hk;omega)
   ·intro _;exact⟨rfl,none,0,0,ZR (ZR IM.o 1 _) 0 _,rfl,Zf6 _,Rd.nil _ _,λa ha=>by cases ha⟩
   ·intro h;rw[<-iY.o,e1]at h;cases h
  ·have C:=ZA (ZWU wr r _ cH HR.o HBT.o ZB hh);have dw:=ZCA hh;have DV:(JW cH).length<cH.length:=dw.1;have hps:0<(ZA1 cH).length:=by omega
   clear dw;have jt:∀x ∈ JW cH,x<256:=λx hx=>HBT.o x (ZfV (ZfV hx));have zi:=ZA jt;clear jt;have HH:=ZA hh;clear hh;go_wp2_with fail;refine C.o.mono ?_;rintro e w4 ⟨A4,c4,rfl,ay,tC,fF⟩;obtain⟨vs,hPv⟩:=l9.o.open_ fF (λk hk=>by injection hk with hk;omega);have iI:=hPv.own;obtain⟨ub,ze,HG4,mO⟩:=ZAU ay tC fF hPv;clear ay tC fF hPv;have pu:wr.heap.size<=w4.heap.size:=HG4.o.size;go_wp2_with (first|(at_builtin;refine ZT2 _ rfl (.tmp 47) (.tmp 49) rfl S2 rfl (iI.alloc _) rfl (m:=1) (news:=[.slice A4 (ZA1 cH).length c4]) rfl (ZFn _ _ _) (λu hu=>by rw[Zfa.1 hu];rfl) ZB (by simp;omega) ?_;intro B5 vk w5 kK eR _)|fail)
   go_roundg (JW cH).length
   case measure=>have:=Iy.o;omega
   case rel=>
    have kA:w4.grownBy w5 (Value.slice Ao no co).ownBlock:=World.grown_trans (ZgY _ _ _) eR;have e1:=ZAv HH.o;have hrow:∀k,(Value.slice Ao no co).ownBlock=some k->S2<=k:=Yw iI;obtain⟨A6,n6,c6,q1,q2,q3,q4,q6⟩:=ze.o;have q7:w5.heap[r]?=some (.cells #[.slice A6 n6 c6,.bool false] 283 (0,0)):=(kA.block r (ZX q1) (λe=>by have:=hrow r e.symm;omega)).trans q1;refine⟨done++[ZA1 cH],JW cH,B5,no+1,vk,rfl,rfl,?_,⟨A6,n6,c6,q7,q2,q3,q4.grown kA (λa ha hr=>by have:=hrow _ hr;have:=(q6 a ha).2;omega),q6⟩,?_,?_,zi.o,?_,?_,?_⟩
    ·exact mO.o.snoc ub.o hps aL pu (ZgY _ _ _) kK eR
    ·have hg:=World.grown_trans fP.o HG4.o;exact⟨kA.os.trans hg.os,kA.tape.trans hg.tape,kA.output.trans hg.output,Zf8 hg.size kA.size,λi hi ag=>(kA.block i (ZgB hi hg.size) (λe=>by have:=hrow i e.symm;omega)).trans (hg.block i hi ag)⟩
    ·have:=kA.size;omega
    ·omega
    ·rw[<-j6.o,e1];simp
    ·rw[<-iY.o,e1]
theorem ZXA (w:World): Calls prog 150 #[] w λe w'=>e=.returned (.pointer (some ⟨w.heap.size,0,none⟩))/\Xs w' w.heap.size [] false (λ_=>False)/\ZM w w'/\w.heap.size+1=w'.heap.size:=by
 go_enter func150,ntmps150;go_wp2_with fail;go_ret;exact⟨rfl,⟨none,0,0,ZV w _,rfl,Zf6 _,Rd.nil _ _,λa ha=>by cases ha⟩,(ZM.refl w).alloc _,by simp⟩
def Js (n:Nat):List Nat:=[n / 16777216 % 256,n / 65536 % 256,n / 256 % 256,n % 256]
theorem ZS2 (n)(h:n<4294967296):YG (Js n)=n:=by
 have e:YG (Js n)=(((0*256+n / 16777216 % 256)*256+n / 65536 % 256)*256+n / 256 % 256)*256+n % 256:=rfl;rw[e];omega
theorem ZGP (w A n c)(xs:List Nat)(h:n<=4096)(h0:1<=n)(hl:xs.length=n)(hr:Rd w A (ZT .u8 xs)): Calls prog 22 #[.slice A n c] w (Xc (Js n++xs) 0 w):=by
 have ag:((n:Int)==0)=false:=by rw[Zgb];omega
 have Hl:=ZA hl;have Hr:=ZA hr;clear hl hr;have ho:=λ(x0 x1 x2 x3:Int) (e0:x0=((n / 16777216 % 256:Nat):Int)) (e1:x1=((n / 65536 % 256:Nat):Int)) (e2:x2=((n / 256 % 256:Nat):Int)) (e3:x3=((n % 256:Nat):Int))=>show(w.alloc (.cells #[.int .u8 x0,.int .u8 x1,.int .u8 x2,.int .u8 x3] 5)).ownsRow w.heap.size 5 1 (.slice (some ⟨w.heap.size,0,none⟩) 4 4) 4 (ZT .u8 (Js n)) by
  subst e0 e1 e2 e3;exact X7 w _ 5 1 4 rfl (by unfold maxLen;omega) (Zf6 _)
 go_enter func22,ntmps22;go_wp2_with (first|(at_builtin;refine JV _ rfl (.tmp 24) (.tmp 25) rfl w.heap.size rfl (ho _ _ _ _ ZB ZB ZB ZB) rfl Hl.o (Hr.o.alloc _) ZB ZXz ?_;intro A1 c1 w1 ax aT _)|fail)
 go_ret2
 exact Jq (by rw[ZfE,Hl.o];rfl) ax (((ZM.refl w).alloc _).grown aT (by simp[Value.ownBlock]))
def ZK0 (xb:Nat->Nat)(who q:Nat):Nat->Nat:=λi=>if i=who then q else xb i
theorem ZCy (xb who q):ZK0 xb who q who=q:=Zgl rfl
theorem ZAs (xb){i:Nat}(q)(h:i≠who):ZK0 xb who q i=xb i:=Zgk h
theorem YQ.start{g:Zz}{O C:Zhf}{xb:Nat->Nat}{L:List Zg}{s:Z9}(h:YQ w g O C xb L s){q:Nat}(hw:who<64)(LY:s.call who=.idle)(x:ZM w w2)(hq:w.heap.size<=q)(fB:q<w2.heap.size){xc:ZW}{k:YX}{f:Value}(hx:XAt w2 (XO (λi=>C i\/i=q) O) g.gx who xc false 0 q)(hk:Zk w2 (XO (λi=>C i\/i=q) O) (Zo g who q xc) f k): YS w g O C (ZK0 xb who q) L (s.put who (.run xc false 0 k)) (λi=>C i\/i=q) (w2.setCell ⟨g.gx,3+who,none⟩ f):=by
 obtain⟨Fm,fs,hv,tx,tl,tb,th,h⟩:=h;have hl:=h.fsl;have gs:GB w2 (w2.setCell ⟨g.gx,3+who,none⟩ f) (· =g.gx):=(GB.refl w2 (· =g.gx)).set g.gx _ _ (.inl rfl);have gw:GB w (w2.setCell ⟨g.gx,3+who,none⟩ f) (· =g.gx):=GB.back x gs;have xE:=h.lt _ h.cx;have AV:=h.lt _ h.ch;have kp:Kp w (w2.setCell ⟨g.gx,3+who,none⟩ f) (XO C O) (XO (λi=>C i\/i=q) O):=Kp.of gw (λj _ e=>.inl (e ▸ h.cx)) (λi hi e=>e.imp (λe=>e.resolve_right ZB) id);have kp2:Kp w2 (w2.setCell ⟨g.gx,3+who,none⟩ f) (XO (λi=>C i\/i=q) O) (XO (λi=>C i\/i=q) O):=Kp.of gs (λj _ e=>.inl (.inl (e ▸ h.cx))) (λ_ _ e=>e);have vZ:g.gl≠g.gx:=λe=>h.nl (.inl (e ▸ h.cx));have wg:g.gb≠g.gx:=λe=>h.nb (.inl (e ▸ h.cx));have kS:=ZX h.bl;have gA:=ZX h.bb;have rr:∀i,i≠who->ZAJ ((s.put who (.run xc false 0 k)).call i)=true->ZAJ (s.call i)=true:=λi e hr=>by rw[Z0 s _ e]at hr;exact hr
 refine⟨⟨Fm,fs.set who f,hv,tx,tl,tb,th,⟨h.mach.gb gw (λi hi e=>h.mx (e ▸ hi)),h.wsl,h.hsl,?_,by rw[ZfK];exact h.fsl,gw.blk h.bl vZ,gw.blk h.bb wg,gw.blk h.bh (λe=>h.xh e.symm),h.hvl,
  λi l hl=>by obtain⟨A,c,rs,e1,e2⟩:=h.holds i l hl;exact⟨A,c,rs,e1,e2.kp kp⟩,kp.rd h.prd h.pfz,h.pfz.kp kp,λi y hy=>?_,h.mx,h.mh,h.xh,λe=>h.nl (kp.keep _ kS e),λe=>h.nb (kp.keep _ gA e),.inl h.cx,.inl h.ch,λi hi=>.inl (h.cm i hi),λi hi hr=>?_,λi j hi hj hr d9 e=>?_,λi hi=>?_,λi hi e=>?_,λj hj=>ZgB (h.ol j hj) gw.size⟩⟩,gw.more (λi _ (e:i=g.gx)=>by rw[e];exact h.cx),λi hi=>hi.imp id (λ(e:i=q)=>by rw[e];exact hq)⟩
 ·refine(ZR (ZK h.bx x) _ _).trans ?_;rw[Zfi,Zfw,Zfj,Zfj,Zfj]
 ·by_cases e:i=who
  ·subst e;rw[ZfA ZB]at hy;injection hy with hy;subst hy;rw[Zx,ZCy];exact⟨hx.kp kp2 (gs.block q fB ZB),hk.kp kp2⟩
  ·rw[Ze9 (λh=>e h.symm)]at hy;rw[Z0 s _ e,ZAs xb q e];exact(h.pend i y hy).kp kp (λhr=>gw.block _ (h.lt _ (h.xs i (ZDM h hy) hr).1) (h.xs i (ZDM h hy) hr).2.2.1)
 ·by_cases e:i=who
  ·subst e;rw[ZCy];exact⟨.inr rfl,λe=>by have:=h.lt _ (h.cm _ e);omega,by omega,by omega⟩
  ·rw[ZAs xb q e];obtain⟨a1,a2,a3,a4⟩:=h.xs i hi (rr i e hr);exact⟨.inl a1,a2,a3,a4⟩
 ·by_cases e1:i=who
  ·by_cases e2:j=who
   ·rw[e1,e2]
   ·rw[e1,ZCy,ZAs xb q e2]at e;have:=h.lt _ (h.xs j hj (rr j e2 d9)).1;omega
  ·by_cases e2:j=who
   ·rw[e2,ZCy,ZAs xb q e1]at e;have:=h.lt _ (h.xs i hi (rr i e1 hr)).1;omega
   ·rw[ZAs xb q e1,ZAs xb q e2]at e;exact h.inj i j hi hj (rr i e1 hr) (rr j e2 d9) e
 ·have:=x.size;have hz:(w2.setCell ⟨g.gx,3+who,none⟩ f).heap.size=w2.heap.size:=by simp
  rw[hz];rcases hi with hi|hi
  ·have:=h.lt i hi;omega
  ·omega
 ·rcases hi with hi|hi
  ·exact h.co i hi e
  ·have:=h.ol i e;omega
def Zm (v:Nat):Nat->List Nat
 |0=>[]
 |k+1=>v / 256 ^ k % 256::Zm v k
theorem Z4 (v k):(Zm v k).length=k:=by induction k with
 |zero=>rfl
 |succ k ih=>rw[Zm,ZfF,ih]
theorem JM (v k):∀x ∈ Zm v k,x<256:=by
 induction k with
 |zero=>simp[Zm]
 |succ k ih=>
  intro x hx;rw[Zm]at hx;rcases ZfO.1 hx with rfl|hx
  ·exact ZgG _ ZB
  ·exact ih x hx
theorem ZQK (xs:List Nat):∀a,xs.foldl (λn x=>n*256+x) a=a*256 ^ xs.length+YG xs:=by
 induction xs with
 |nil=>intro a;simp[YG]
 |cons x xs ih=>
  intro a;have e:YG (x::xs)=(0*256+x)*256 ^ xs.length+YG xs:=by
   show List.foldl _ (0*256+x) xs=_;exact ih _
  rw[List.foldl_cons,ih,e,ZfF,ZgP,ZgS,ZgQ,Zfz,Nat.mul_assoc,ZgH 256,Zfv]
theorem ZJI (x)(xs:List Nat):YG (x::xs)=x*256 ^ xs.length+YG xs:=by
 have e:=ZQK xs (0*256+x);have e':YG (x::xs)=(0*256+x)*256 ^ xs.length+YG xs:=e;rw[e',ZgS,ZgQ]
theorem Jm (v k):YG (Zm v k)=v % 256 ^ k:=by
 induction k with
 |zero=>simp[Zm,YG,Nat.mod_one]
 |succ k ih=>
  rw[Zm,ZJI,Z4,ih,ZgP,ZgH (256 ^ k) 256,ZgH 256 (256 ^ k),Nat.mod_mul,ZgH,Zfw]
theorem ZM3 (xs:List Nat)(h:∀x ∈ xs,x<256)(m):Zm (m*256 ^ xs.length+YG xs) xs.length=xs:=by
 induction xs generalizing m with
 |nil=>rfl
 |cons x xs ih=>
  have hx:=h x ZfQ;have hl:=ZCQ xs (λy hy=>h y (ZfP _ hy));have e:m*256 ^ (xs.length+1)+YG (x::xs)=(m*256+x)*256 ^ xs.length+YG xs:=by
   rw[ZJI,ZgP,Zfz,ZgH (256 ^ xs.length) 256,Nat.mul_assoc,Zfv]
  rw[ZfF,Zm,e,ih (λy hy=>h y (ZfP _ hy)),ZgH _ (256 ^ xs.length),Nat.mul_add_div (Nat.pos_of_ne_zero ZXz),Nat.div_eq_of_lt hl]
  congr 1
  omega
theorem ZSu (w:World)(n)(hn:n<=maxLen):(w.alloc (.cells (madeCells #[.int .u8 0] n) 5)).ownsRow w.heap.size 5 1 (.slice (some ⟨w.heap.size,0,none⟩) n n) n (ZT .u8 (List.replicate n 0)):=by
 have e:(.cells (madeCells #[.int .u8 0] n) 5:Obj)=.cells (ZT .u8 (List.replicate n 0)).toArray 5:=by
  congr 1
  apply Array.ext';rw[toList_madeCells_one];simp[ZT]
 rw[e];exact X7 w _ 5 1 n (by simp[ZT]) hn (Zf6 _)
theorem ZSP (v n j)(h:j<n):(List.replicate (n - j) 0++Zm v j).set (n - 1 - j) (v / 256 ^ j % 256)=List.replicate (n - (j+1)) 0++Zm v (j+1):=by
 have e:n - j=(n - (j+1))+1:=by omega
 rw[List.set_append_left _ _ (by simp;omega),e,List.replicate_succ',List.set_append_right _ _ (by simp;omega)];rw[show n - 1 - j - (List.replicate (n - (j+1)) 0).length=0 by simp;omega];simp[Zm]
theorem ZDh (w:World)(v n:Nat)(hv:v<18446744073709551616)(hn:n<=1000): Calls prog 161 #[.int .u64 v,.int .i64 n] w (ZEs (Zm v n) w):=by
 have uJ:=ZA (run_make_row' (P:=prog) 32 5 (.int .u8 0) 1 underlying32 ZGt rfl .i64 .i64 n ZB ZB);have hrow:=ZA (ZSu w n (by unfold maxLen;omega));have wZ:=uJ.out;go_enter func161,ntmps161;go_wp2_with fail;clear wZ
 go_loopg [0,6] n (λg v0 v6 wr=>∃j:Nat,j<=n/\g=n - j/\v0=.int .u64 ((v / 256 ^ j:Nat):Int)/\v6=.int .i64 ((n:Int) - 1 - (j:Int))/\ZM w wr/\
  wr.ownsRow w.heap.size 5 1 (.slice (some ⟨w.heap.size,0,none⟩) n n) n (ZT .u8 (List.replicate (n - j) 0++Zm v j)))
 case atStart=>
  exact⟨0,ZgR _,rfl,by simp,by go_num,(ZM.refl w).alloc _,by simpa[Zm]using hrow.out⟩
 case round=>
  obtain⟨j,hj,rfl,rfl,rfl,hx,ho⟩:=hrel;have Hx:=ZA hx;clear hx;by_cases ak:j<n
  ·have hq:v / 256 ^ j<18446744073709551616:=ZgA (Nat.div_le_self _ _) hv;have iQ:=ho.frozenAt (n - 1 - j);have aB:=ZA (ho.stored (n - 1 - j) (.int .u8 ((v / 256 ^ j % 256:Nat):Int)));have bq:=ho.cellAt (n - 1 - j) ZB;have hs:=ZA (ZSP v n j ak);have hy:(List.replicate (n - j) 0++Zm v j)[n - 1 - j]?=some 0:=by
    rw[Ze0 (by simp;omega),Ze8,Zgl ZB]
   rw[ZBe hy]at bq;have fB:v / 256 ^ (j+1)=v / 256 ^ j / 256:=by rw[ZgP,Nat.div_div_eq_div_mul]
   have Gx:=ZA fB;clear hy fB ho;generalize v / 256 ^ j=q at*;go_wp2_with fail
   go_roundg (n - (j+1))
   case measure=>omega
   case rel=>
    refine⟨j+1,ak,rfl,?_,by go_num,Hx.o.setCell (p:=⟨w.heap.size,n - 1 - j,none⟩) (Zf6 _) _,?_⟩
    ·rw[Gx.o];rfl
    ·have:=aB.out.1;rw[<-ZK4,hs.out]at this;exact this
  ·obtain rfl:j=n:=by omega
   have Ho:=ZA ho;clear ho;go_wp2_with fail;go_ret;have ho:=Ho.o;rw[Nat.sub_self,List.replicate_zero,Zfb]at ho;exact ZBv (Z4 v j) ho Hx.o
theorem Qf {p:Prop}(h:p:=by
 obtain⟨Hl,Hb,Hr⟩:=Z8 hl hb hr;clear hl hb hr;first|(obtain -:=V1;go_enter func75,ntmps75)|go_enter func110,ntmps110
 go_wp2_with fail;first|(obtain -:=V2;go_loop [3,8] (λx i=>∃k:Nat,k<=n/\i=.int .i64 k/\x=.int .u64 ((YG (xs.take k):Nat):Int)) (λ_ i=>n - (intOf i).toNat))|go_loop [3,7] (λx i=>∃k:Nat,k<=n/\i=.int .i64 k/\x=.int .u64 ((YG (xs.take k):Nat):Int)) (λ_ i=>n - (intOf i).toNat)
 case atStart=>exact⟨0,ZgR _,rfl,by rw[Zfs,ZHo];rfl⟩
 case round=>
  obtain⟨k,hk,rfl,rfl⟩:=hrel;by_cases ak:k<n
  ·obtain⟨x,hx⟩:=Jy (xs:=xs) (j:=k) (by rw[Hl.o];exact ak);have dv:x<256:=Hb.o x (ZfU hx);obtain⟨b,off,hA,hc⟩:=Hr.o.at_ hx;subst hA;have cX:=ZCQ (xs.take k) (λy hy=>Hb.o y (ZfX hy));have df:YG (xs.take k)<72057594037927936:=by
    refine ZgB cX ?_;rw[show(72057594037927936:Nat)=256 ^ 7 by rfl];exact ZgO ZB (by rw[ZfL,Hl.o];omega)
   have Hx:=ZA hx;clear hx cX;go_wp2;go_round;first|(obtain -:=V3;case rel=>exact⟨k+1,by omega,by go_num,by rw[Zv Hx.o,ZD3,ZJH _ _ df dv]⟩)|case rel=>exact⟨k+1,by omega,by go_num,by rw[Zv Hx.o,ZD3];go_num⟩
   case measure=>simp[intOf];omega
  ·obtain rfl:k=n:=by omega
   have e:xs.take k=xs:=Zfp (by rw[Hl.o];omega);rw[e];clear e;go_wp2;go_ret;exact⟨rfl,rfl⟩):p:=h
theorem ZAh (w A n c)(xs:List Nat)(hl:xs.length=n)(hn:n<=8)(hb:∀x ∈ xs,x<256)(hr:Rd w A (ZT .u8 xs)): Calls prog 110 #[.slice A n c] w λe w'=>e=.returned (.int .u64 (YG xs:Int))/\w=w':=Qf
theorem ZJH (a x:Nat)(ha:a<72057594037927936)(hx:x<256):bits .or .u64 ((a:Int)*256) (x:Int)=((a*256+x:Nat):Int):=ZYQ
theorem ZBa (w A n c)(xs:List Nat)(hl:xs.length=n)(hn:n<=8)(hb:∀x ∈ xs,x<256)(hr:Rd w A (ZT .u8 xs)): Calls prog 75 #[.slice A n c] w λe w'=>e=.returned (.int .u64 (YG xs:Int))/\w=w':=by
 obtain⟨V1,V2,V3⟩:=QA;exact Qf
theorem ZM4 (v n):∀j,j<=n->(Zm v n).drop j=Zm v (n - j):=by
 induction n with
 |zero=>
  intro j hj;obtain rfl:j=0:=by omega
  rfl
 |succ n ih=>
  intro j hj;cases j with
  |zero=>rfl
  |succ j=>rw[Zm,Zes,ih j ZB];congr 1;omega
theorem ZFe (v n j)(h:j<n):(Zm v n)[j]?=some (v / 256 ^ (n - 1 - j) % 256):=by
 have e:=ZM4 v n j ZB;have e2:n - j=(n - 1 - j)+1:=by omega
 rw[e2,Zm]at e;rw[<-List.head?_drop,e];rfl
theorem ZNT (w:World)(X:Int)(y:Nat)(h:X=(y:Int)):Rd (w.alloc (.cells #[.int .u8 X] 5)) (some ⟨w.heap.size,0,none⟩) (ZT .u8 [y]):=by
 subst h;exact ZFn w [.int .u8 y] _
theorem ZSN (v i:Nat):((v:Int) / 2 ^ (8*i) % 256)=((v / 256 ^ i % 256:Nat):Int):=by
 rw[show(256:Nat) ^ i=2 ^ (8*i)from(Nat.pow_mul 2 8 i).symm];simp only[Int.natCast_emod,Int.natCast_ediv,Int.natCast_pow];rfl
theorem ZF8 (w w0:World)(base:Nat)(A:Option Addr)(m c:Nat)(xs:List Nat)(v n:Nat)(hl:xs.length=m)(ho:w.ownsRow base 5 1 (.slice A m c) m (ZT .u8 xs))(hx:ZM w0 w)(an:w0.heap.size<=base)(mB:base<=w.heap.size)(LX:v<18446744073709551616)(hn:n<=8)(hm:m<=1000000): Calls prog 73 #[.slice A m c,.int .u64 v,.int .i64 n] w λe w'=>∃A' c',e=.returned (.slice A' (m+n) c')/\w'.ownsRow base 5 1 (.slice A' (m+n) c') (m+n) (ZT .u8 (xs++Zm v n))/\ZM w0 w'/\w.heap.size<=w'.heap.size:=by
 have Ho:=ZA ho;have Hl:=ZA hl;clear ho hl;go_enter func73,ntmps73;go_wp2_with fail
 go_loopg [0,7] n (λg v0 v7 wr=>∃(j:Nat) (A':Option Addr) (c':Nat),j<=n/\g=n - j/\v0=.slice A' (m+j) c'/\v7=.int .i64 ((n:Int) - 1 - (j:Int))/\ZM w0 wr/\w.heap.size<=wr.heap.size/\
  wr.ownsRow base 5 1 (.slice A' (m+j) c') (m+j) (ZT .u8 (xs++(Zm v n).take j)))
 case atStart=>
  exact⟨0,A,c,ZgR _,rfl,rfl,by go_num,hx,Zf6 _,by simpa using Ho.o⟩
 case round=>
  obtain⟨j,A',c',hj,rfl,rfl,rfl,hxr,bZ,gi⟩:=hrel;have mL:=ZA hxr;clear hxr;by_cases ak:j<n
  ·have hg:=ZA (ZFe v n j ak);obtain⟨i,hi⟩:∃i,i=n - 1 - j:=⟨_,rfl⟩;have Lu:i<=7:=by omega
   have dg:((n:Int) - 1 - (j:Int))=(i:Int):=by omega
   rw[dg];rw[<-hi]at hg;have Hi:=ZA hi;clear hi dg;have aG:wr.heap.size>=base:=by omega
   have sR:=ZA (ZSN v i);go_wp2_with (first|(at_builtin;refine JV _ rfl (.tmp 14) (.tmp 20) rfl base rfl (gi.alloc _) rfl (m:=1) (news:=[v / 256 ^ i % 256]) rfl (ZNT _ _ _ sR.out) ZB (by simp;omega) ?_;intro A1 c1 w1 ax aT _)|fail)
   go_roundg (n - (j+1))
   case measure=>omega
   case rel=>
    refine⟨j+1,A1,c1,ak,rfl,rfl,by have:=Hi.o;go_num,(mL.o.alloc _).grown aT (λk hk=>Zf8 an (Yw gi k hk)),by have:=aT.size;simp at this;omega,?_⟩;rw[Zv hg.out,<-Zei];exact ax
  ·obtain rfl:j=n:=by omega
   have e:(Zm v j).take j=Zm v j:=Zfp (by rw[Z4];omega);rw[e]at gi;have tT:=ZA gi;clear gi e;go_wp2_with fail;go_ret;exact⟨A',c',rfl,tT.o,mL.o,bZ⟩
theorem Rd.drew(h:Rd w A vs):Rd w.drew A vs:=h
theorem ZAF {aw:Array Oper}{o:Oper}{a:Act}{K:Act->World->Prop}{Q:Exit->Act->World->Prop}{E:Prop}(w:World)(bu:o.guard=none)(s x)(ho:o.op=.call {callee:=.builtin .append,args:=#[s,x],argTypes:=#[32,32]})(base){B:Option Addr}(hs:a.eval s=.slice B n cb)(af:w.ownsRow base 5 1 (.slice B n cb) n (ZT .u8 xs)){news:List Nat}(hx:a.eval x=.slice A m c)(hl:news.length=m)(hr:Rd w A (ZT .u8 news))(hb:n+m<=140737488355328)(an:base<=w.heap.size)(h:∀B' au w',w'.ownsRow base 5 1 (.slice B' (n+m) au) (n+m) (ZT .u8 (xs++news))->w.grownBy w' (Value.slice B n cb).ownBlock-> ((Value.slice B' (n+m) au).ownBlock=(Value.slice B n cb).ownBlock\/(Value.slice B' (n+m) au).ownBlock=some w.heap.size)->K (a.put o.dst (.slice B' (n+m) au)) w'): if Region.wanted o (yielded aw a.tmps)=true then Oper.wp prog o a w K Q else E:=by
 have hw:Region.wanted o (yielded aw a.tmps)=true:=by simp[Region.wanted,bu]
 rw[Zgl hw];obtain⟨i0,hi,bV,bY,aS⟩:=Zgm ZGt;exact Jl w s x 32 ho base 5 underlying32 hi bV bY aS rfl (by decide) hs af hx (by rw[Xk,hl,ZgJ]) hr (ZHC _ _) (by unfold maxLen;omega) ZB an λB' au w' h2 h3 h4=>h B' au w' (by rw[ZBf];exact h2) h3 h4
def Ys (p:Nat)(xs:List Nat)(s:Nat):List Nat:=83::71::p::xs.length::(xs++Zm s 8)
def ZEb (b:List Nat):Nat:=upd 14695981039346656037 b % 4294967296
def Xm (p:Nat)(xs:List Nat)(s:Nat):List Nat:=Ys p xs s++Zm (ZEb (Ys p xs s)) 4
theorem ZAy (p)(xs:List Nat)(s):(Ys p xs s).length=xs.length+12:=by
 simp only[Ys,ZfF,ZfE,Z4]
theorem ZA6 (p)(xs:List Nat)(s):(Xm p xs s).length=xs.length+16:=by
 rw[Xm,ZfE,ZAy,Z4]
abbrev ZJx (p:Int)(A:Option Addr)(n c:Nat)(s:Int):Value:=.agg #[.int .i64 p,.slice A n c,.int .i64 s]
theorem ZIW (w p s A n c)(h:s<1\/4611686018427387903<s\/p<0\/32<=p): Calls prog 32 #[ZJx p A n c s] w (Xj (.tuple #[.slice none 0 0,.int .i64 1]) w):=by
 by_cases hs:s<1\/4611686018427387903<s
 ·rcases hs with hs|hs
  ·go_enter func32,ntmps32;go_wp2_with fail
   go_ret2
   exact⟨rfl,(ZM.refl w).alloc _⟩
  ·have pB:¬s<1:=by omega
   go_enter func32,ntmps32;go_wp2_with fail
   go_ret2
   exact⟨rfl,(ZM.refl w).alloc _⟩
 ·have h1:¬s<1:=by omega
  have h2:¬4611686018427387903<s:=by omega
  have hp:p<0\/32<=p:=by omega
  clear hs h;go_enter func32,ntmps32;go_wp2_with fail;refine(ZD7 p A n c _ hp).mono ?_;rintro e w1 ⟨rfl,rfl⟩;go_wp2_with fail
  go_ret2
  exact⟨rfl,(ZM.refl w).alloc _⟩
theorem ZHG (w p s A n c)(h1:1<=s)(h2:s<=4611686018427387903)(h3:0<=p)(h4:p<32)(hn:255<n): Calls prog 32 #[ZJx p A n c s] w (Xj (.tuple #[.slice none 0 0,.int .i64 2]) w):=by
 have rn:¬s<1:=by omega
 have fK:¬4611686018427387903<s:=by omega
 go_enter func32,ntmps32;go_wp2_with fail;refine(ZC8 p A n c _ h3 h4 hn).mono ?_;rintro e w1 ⟨rfl,rfl⟩;go_wp2_with fail
 go_ret2
 exact⟨rfl,(ZM.refl w).alloc _⟩
theorem ZKo (u:Nat)(hu:u<18446744073709551616):bits .and .u64 (u:Int) 4294967295=((u % 4294967296:Nat):Int):=by
 rw[show(4294967295:Int)=((4294967295:Nat):Int)from rfl,Go.u64_and_nat u 4294967295 hu ZB];have h:=Zf3 u 32;simp only[Nat.reducePow,Nat.reduceSub]at h;rw[h]
theorem ZJG (w:World)(p n:Nat):(w.alloc (.cells #[.int .u8 83,.int .u8 71,.int .u8 p,.int .u8 n] 5)).ownsRow w.heap.size 5 1 (.slice (some ⟨w.heap.size,0,none⟩) 4 4) 4 (ZT .u8 [83,71,p,n]):=X7 w _ 5 1 4 rfl (by unfold maxLen;omega) (Zf6 _)
theorem ZYt {p:Prop}(h:p:=by
 have mZ:IntKind.u8.wrap (n:Int)=(n:Int):=by rw[Zeg];omega
 first
 |obtain -:=T1;have cB:(w1.alloc (.cells #[.int .u8 83,.int .u8 71,.int .u8 p,.int .u8 n] 5)).drew.ownsRow w1.heap.size 5 1 (.slice (some ⟨w1.heap.size,0,none⟩) 4 4) 4 (ZT .u8 [83,71,p,n]):=ZJG w1 p n;have iG:Rd (w1.alloc (.cells #[.int .u8 83,.int .u8 71,.int .u8 p,.int .u8 n] 5)).drew A2 (ZT .u8 xs):=(d9.out.alloc _).drew
 |first|(obtain -:=V6;have cB:(w1.alloc (.cells #[.int .u8 2,.int .u8 p,.int .u8 n] 5)).drew.ownsRow w1.heap.size 5 1 (.slice (some ⟨w1.heap.size,0,none⟩) 3 3) 3 (ZT .u8 [2,p,n]):=X7 w1 _ 5 1 3 rfl (by unfold maxLen;omega) (Zf6 _);have iG:Rd (w1.alloc (.cells #[.int .u8 2,.int .u8 p,.int .u8 n] 5)).drew A (ZT .u8 xs):=(d9.out.alloc _).drew)|(obtain -:=V7;have cB:(w1.alloc (.cells #[.int .u8 1,.int .u8 p,.int .u8 n] 5)).drew.ownsRow w1.heap.size 5 1 (.slice (some ⟨w1.heap.size,0,none⟩) 3 3) 3 (ZT .u8 [1,p,n]):=X7 w1 _ 5 1 3 rfl (by unfold maxLen;omega) (Zf6 _);have iG:Rd (w1.alloc (.cells #[.int .u8 1,.int .u8 p,.int .u8 n] 5)).drew A (ZT .u8 xs):=(d9.out.alloc _).drew)|(have cB:(w1.alloc (.cells #[.int .u8 4,.int .u8 p,.int .u8 n] 5)).drew.ownsRow w1.heap.size 5 1 (.slice (some ⟨w1.heap.size,0,none⟩) 3 3) 3 (ZT .u8 [4,p,n]):=X7 w1 _ 5 1 3 rfl (by unfold maxLen;omega) (Zf6 _);have iG:Rd (w1.alloc (.cells #[.int .u8 4,.int .u8 p,.int .u8 n] 5)).drew A (ZT .u8 xs):=(d9.out.alloc _).drew)
  have BE:=ZI b2
 have qq:=ZA cB;have mM:=ZA iG;clear cB iG;first|(obtain -:=T2;go_region_law ((refine ZAF (w1.alloc (.cells #[.int .u8 83,.int .u8 71,.int .u8 p,.int .u8 n] 5)).drew rfl (.tmp 33) (.tmp 35) rfl w1.heap.size (B:=some ⟨w1.heap.size,0,none⟩) (n:=4) (cb:=4) (xs:=[83,71,p,n]) (by simp[Act.eval]) qq.o (A:=A2) (m:=n) (c:=d) (news:=xs) (by simp[Act.eval]) Hl.o mM.o ZB ZXz ?_;intro A6 c6 w6 bm bI _)))|first|(obtain -:=V8;go_region_held3 (λw'=>w'.cell? ⟨w.heap.size,0,none⟩=some (.int .u8 2)/\w'.cell? ⟨w.heap.size,2,none⟩=some (.slice A n c)/\w'.cell? ⟨g,0,none⟩=some (.int .u8 p)) (first|exact⟨ZF dZ b0,ZF dZ b2,ZF dZ fI⟩|go_keep|(simp;assumption)) ((refine ZAF (w1.alloc (.cells #[.int .u8 2,.int .u8 p,.int .u8 n] 5)).drew rfl (.tmp 67) (.tmp 69) rfl w1.heap.size (B:=some ⟨w1.heap.size,0,none⟩) (n:=3) (cb:=3) (xs:=[2,p,n]) (by simp[Act.eval]) qq.o (A:=A) (m:=n) (c:=c) (news:=xs) (by simp[Act.eval]) Hl.o mM.o ZB ZXz ?_;intro A6 c6 w6 bm bI _;have dZ:ZM w1 w6:=(((ZM.refl w1).alloc _).drew).grown bI (by simp[Value.ownBlock]))))|(obtain -:=V9;go_region_held3 (λw'=>w'.cell? ⟨w.heap.size,0,none⟩=some (.int .u8 1)/\w'.cell? ⟨w.heap.size,2,none⟩=some (.slice A n c)/\w'.cell? ⟨g,0,none⟩=some (.int .u8 p)) (first|exact⟨ZF dZ b0,ZF dZ b2,ZF dZ fI⟩|go_keep|(simp;assumption)) ((refine ZAF (w1.alloc (.cells #[.int .u8 1,.int .u8 p,.int .u8 n] 5)).drew rfl (.tmp 67) (.tmp 69) rfl w1.heap.size (B:=some ⟨w1.heap.size,0,none⟩) (n:=3) (cb:=3) (xs:=[1,p,n]) (by simp[Act.eval]) qq.o (A:=A) (m:=n) (c:=c) (news:=xs) (by simp[Act.eval]) Hl.o mM.o ZB ZXz ?_;intro A6 c6 w6 bm bI _;have dZ:ZM w1 w6:=(((ZM.refl w1).alloc _).drew).grown bI (by simp[Value.ownBlock]))))|go_region_held3 (λw'=>w'.cell? ⟨w.heap.size,0,none⟩=some (.int .u8 4)/\w'.cell? ⟨w.heap.size,2,none⟩=some (.slice A n c)/\w'.cell? ⟨g,0,none⟩=some (.int .u8 p)) (first|exact⟨ZF dZ b0,ZF dZ b2,ZF dZ fI⟩|go_keep|(simp;assumption)) ((refine ZAF (w1.alloc (.cells #[.int .u8 4,.int .u8 p,.int .u8 n] 5)).drew rfl (.tmp 67) (.tmp 69) rfl w1.heap.size (B:=some ⟨w1.heap.size,0,none⟩) (n:=3) (cb:=3) (xs:=[4,p,n]) (by simp[Act.eval]) qq.o (A:=A) (m:=n) (c:=c) (news:=xs) (by simp[Act.eval]) Hl.o mM.o ZB ZXz ?_;intro A6 c6 w6 bm bI _;have dZ:ZM w1 w6:=(((ZM.refl w1).alloc _).drew).grown bI (by simp[Value.ownBlock])))
 all_goals
  go_wp2_with fail
  go_meet
  exact⟨_,_,rfl,by assumption,(((ZM.refl w1).alloc _).drew).grown (by assumption) (by simp[Value.ownBlock])⟩):p:=h
theorem ZYm {p:Prop}(h:p:=by
 simp only[Ys,ZfO,ZfN]at hx;rcases hx with rfl|rfl|rfl|rfl|hx|hx
 ·omega
 ·omega
 ·omega
 ·first|(obtain -:=T1;have:=Hk.o)|have:=Hl.o
  omega
 ·exact Hb.o x hx
 ·exact JM _ _ x hx):p:=h
theorem ZJy (w:World)(p s:Nat)(A:Option Addr)(n c:Nat)(xs:List Nat)(hl:xs.length=n)(hb:∀x ∈ xs,x<256)(hr:Rd w A (ZT .u8 xs))(h1:1<=s)(h2:s<=4611686018427387903)(h4:p<32)(hn:n<=255): Calls prog 32 #[ZJx (p:Int) A n c (s:Int)] w (Xc (Xm p xs s) 0 w):=by
 obtain⟨Hl,Hr,Hb⟩:=Z8 hl hr hb;clear hl hr hb;go_enter func32,ntmps32;go_wp2_with fail;refine(ZDc p A n c xs _ h4 Hl.o hn (Hr.o.alloc _)).mono ?_;rintro e w1 ⟨A1,c1,rfl,ax,aK⟩;have cT:(p::xs).length=n+1:=by rw[ZfF,Hl.o]
 rw[cT]at ax ⊢;clear cT;obtain⟨g,rfl,hg,jA⟩:=ZB5 ax ZB;have bq:=ax.cellAt 0 ZB;have fI:w1.cell? ⟨g,0,none⟩=some (.int .u8 p):=by rw[bq];rfl
 have eX:=YR ax;obtain⟨d,hd⟩:∃d,c1=d+1:=⟨c1 - 1,by omega⟩;obtain⟨A2,hsl,bB,_⟩:=Xx underlying32 JX (A:=some ⟨g,0,none⟩) (n:=n+1) (c:=c1) (m:=n) (d:=d) 1 (ki:=1) rfl eX rfl hd;have d9:=ZA (bB w1 (ZT .u8 (p::xs)) (by rw[Xk,ZfF,Hl.o]) (Rd.of_own ax));have la:w1.cell? ⟨w.heap.size,1,none⟩=some (.slice A n c):=by
  rw[aK.cell (p:=⟨w.heap.size,1,none⟩) ZXz];exact ZgU _ _ _ _
 have di:w1.cell? ⟨w.heap.size,2,none⟩=some (.int .i64 s):=by
  rw[aK.cell (p:=⟨w.heap.size,2,none⟩) ZXz];exact ZgU _ _ _ _
 clear bq ax bB;have Hd:=ZA hd;clear hd;go_upto_region 6 with fail;go_cut [6] (λv wd=>∃A6 c6,v=.slice A6 (4+n) c6/\wd.ownsRow w1.heap.size 5 1 (.slice A6 (4+n) c6) (4+n) (ZT .u8 ([83,71,p,n]++xs))/\ZM w1 wd);case first=>
  obtain⟨T1,T2⟩:=QA;exact ZYt
 case rest=>
  obtain⟨A6,c6,rfl,bm,ic⟩:=hcut;have jP:wc.cell? ⟨w.heap.size,2,none⟩=some (.int .i64 s):=by
   rw[ic.cell (p:=⟨w.heap.size,2,none⟩) (ZgT w1 _ di)];exact di
  have cY:=ZA bm;clear bm la di fI;have kQ:([83,71,p,n]++xs).length=4+n:=by rw[ZfE,Hl.o];rfl
  have og:=ZA kQ;clear kQ;have mn:w1.heap.size<=wc.heap.size:=ic.size;go_wp2_with fail;refine(ZF8 wc w1 w1.heap.size A6 (4+n) c6 _ s 8 og.o cY.o ic (Zf6 _) mn ZB ZB ZB).mono ?_;rintro e w7 ⟨A7,c7,rfl,cA,oZ,Aq⟩;have et:[83,71,p,n]++xs++Zm s 8=Ys p xs s:=by rw[Ys,Hl.o];rfl
  rw[et]at cA;have cw:(Ys p xs s).length=4+n+8:=by rw[ZAy,Hl.o];omega
  have nO:∀x ∈ Ys p xs s,x<256:=λx hx=>by
   exact ZYm
  obtain⟨jk,ly,dN⟩:=Z8 cA cw nO;clear cA et cw nO;have sz:=ZA (Rd.of_own jk.o);clear cY;go_wp2_with fail;refine(ZE2 A7 (4+n+8) c7 (Ys p xs s) w7 ly.o dN.o ZB sz.out).mono ?_;rintro e w8 ⟨rfl,rfl⟩;go_wp2_with fail;rw[ZKo _ (ZEY _ _ ZB)];refine(ZF8 w7 w1 w1.heap.size A7 (4+n+8) c7 _ (ZEb (Ys p xs s)) 4 ly.o jk.o oZ (Zf6 _) ZB (Nat.lt_trans (ZgG _ ZB) ZB) ZB ZB).mono ?_;rintro e w9 ⟨A9,c9,rfl,hown9,Dw,hs9⟩;have ak:(Xm p xs s).length=4+n+8+4:=by rw[ZA6,Hl.o];omega
  have iX:=ZA ak;have tR:=ZA hown9;clear ak hown9;go_wp2_with fail;go_ret2;have uy:ZM w w9:=(((ZM.refl w).alloc _).trans aK).trans Dw;exact Jq iX.o (Zj tR.o (by have:=aK.size;simp at this;omega)) uy
def ZIS (ys:List Nat):Prop:=∃(p s:Nat) (xs:List Nat),p<32/\1<=s/\s<=4611686018427387903/\xs.length<=255/\(∀x ∈ xs,x<256)/\ys=Xm p xs s
theorem ZG8 (xs:List Nat)(k s)(hb:∀x ∈ xs,x<256)(hl:xs.length=k)(h:YG xs=s):Zm s k=xs:=by
 have:=ZM3 xs hb 0;rw[ZgS,ZgQ,hl,h]at this;exact this
theorem ZPi (ys:List Nat)(p k s)(hb:∀x ∈ ys,x<256)(ah:ys.length=k+16)(h0:ys[0]?=some 83)(h1:ys[1]?=some 71)(h2:ys[2]?=some p)(h3:ys[3]?=some k)(hs:YG ((ys.drop (4+k)).take 8)=s)(hq:YG (ys.drop (4+k+8))=upd 14695981039346656037 (ys.take (4+k+8)) % 4294967296):ys=Xm p ((ys.drop 4).take k) s:=by
 obtain⟨r,rfl⟩:∃r,ys=83::71::p::k::r:=by
  match ys,ah,h0,h1,h2,h3 with
  |a::b::c::d::r,_,h0,h1,h2,h3=>
   simp at h0 h1 h2 h3;subst h0 h1 h2 h3;exact⟨r,rfl⟩
  |[],ah,_,_,_,_=>simp at ah
  |[_],ah,_,_,_,_=>simp at ah
  |[_,_],ah,_,_,_,_=>simp at ah
  |[_,_,_],ah,_,_,_,_=>simp at ah
 have nG:r.length=k+12:=by simp at ah;omega
 have e1:(83::71::p::k::r).drop (4+k)=r.drop k:=by
  rw[show 4+k=k+4 by omega];rfl
 have e2:(83::71::p::k::r).drop (4+k+8)=r.drop (k+8):=by
  rw[show 4+k+8=(k+8)+4 by omega];rfl
 have e3:(83::71::p::k::r).take (4+k+8)=83::71::p::k::r.take (k+8):=by
  rw[show 4+k+8=(k+8)+4 by omega];rfl
 have e4:(83::71::p::k::r).drop 4=r:=rfl;rw[e1]at hs;rw[e2,e3]at hq;rw[e4];have bS:∀x ∈ r,x<256:=λx hx=>hb x (by simp[hx]);have qO:Zm s 8=(r.drop k).take 8:=ZG8 _ 8 s (λx hx=>bS x (ZfV (ZfX hx))) (by rw[ZfL,ZfG];omega) hs;have aX:(r.take k).length=k:=by rw[ZfL];omega
 have et:Ys p (r.take k) s=83::71::p::k::r.take (k+8):=by
  rw[Ys,aX,qO,List.take_add]
 have kE:Zm (ZEb (Ys p (r.take k) s)) 4=r.drop (k+8):=by
  rw[et];exact ZG8 _ 4 _ (λx hx=>bS x (ZfV hx)) (by rw[ZfG];omega) hq
 rw[Xm,kE,et];simp
theorem ZTD (ys:List Nat)(p k s)(hb:∀x ∈ ys,x<256)(ah:ys.length=k+16)(h0:ys[0]?=some 83)(h1:ys[1]?=some 71)(h2:ys[2]?=some p)(h3:ys[3]?=some k)(hp:p<32)(hk:k<256)(hs:YG ((ys.drop (4+k)).take 8)=s)(aG:1<=s)(dq:s<=4611686018427387903)(hq:YG (ys.drop (4+k+8))=upd 14695981039346656037 (ys.take (4+k+8)) % 4294967296):ZIS ys:=⟨p,s,(ys.drop 4).take k,hp,aG,dq,by rw[ZfL];omega,λx hx=>hb x (ZfV (ZfX hx)),ZPi ys p k s hb ah h0 h1 h2 h3 hs hq⟩
theorem ZJ0 (p s)(xs:List Nat)(hp:p<256)(hl:xs.length<256)(hb:∀x ∈ xs,x<256):∀x ∈ Xm p xs s,x<256:=λx hx=>by
 simp only[Xm,Ys,ZfN,ZfO]at hx;rcases hx with(rfl|rfl|rfl|rfl|hx|hx)|hx
 ·omega
 ·omega
 ·omega
 ·omega
 ·exact hb x hx
 ·exact JM _ _ x hx
 ·exact JM _ _ x hx
theorem ZC7 (xs:List Nat)(hb:∀x ∈ xs,x<256)(hl:xs.length<=8):YG xs<18446744073709551616:=by
 have:=ZCQ xs hb;refine ZgB this ?_;rw[show(18446744073709551616:Nat)=256 ^ 8 by rfl];exact ZgO ZB hl
theorem ZNZ (w:World)(o:Obj)(p n:Nat):((w.alloc o).alloc (.cells #[.int .u8 83,.int .u8 71,.int .u8 p,.int .u8 n] 5)).ownsRow w.heap.size 5 1 (.slice (some ⟨w.heap.size+1,0,none⟩) 4 4) 4 (ZT .u8 [83,71,p,n]):=by
 have h:=ZJG (w.alloc o) p n;rw[Zga]at h;exact Zj h ZB
theorem ZHV (w:World)(p s:Nat)(A:Option Addr)(n c:Nat)(xs:List Nat)(hl:xs.length=n)(hb:∀x ∈ xs,x<256)(hr:Rd w A (ZT .u8 xs))(h1:1<=s)(h2:s<=4611686018427387903)(h4:p<32)(hn:n<=255): Calls prog 160 #[ZJx (p:Int) A n c (s:Int)] w (ZEs (Xm p xs s) w):=by
 obtain⟨Hl,Hr,Hb⟩:=Z8 hl hr hb;clear hl hr hb;have cw:(Ys p xs s).length=4+n+8:=by rw[ZAy,Hl.o];omega
 have nO:∀x ∈ Ys p xs s,x<256:=λx hx=>by
  exact ZYm
 have ly:=ZA cw;have dN:=ZA nO;clear cw nO;have mZ:IntKind.u8.wrap (n:Int)=(n:Int):=by rw[Zeg];omega
 have Al:IntKind.u8.wrap (p:Int)=(p:Int):=by rw[Zeg];omega
 go_enter func160,ntmps160;go_wp2_with (first|(at_builtin;refine JV _ rfl (.tmp 12) (.tmp 14) rfl w.heap.size rfl (ZNZ w _ p n) rfl Hl.o ((Hr.o.alloc _).alloc _) ZB (by simp;omega) ?_;intro A6 c6 w6 bm bI _;have jP:w6.cell? ⟨w.heap.size,2,none⟩=some (.int .i64 s):=(bI.cell_far ⟨w.heap.size,2,none⟩ (by simp;omega) (by simp[Value.ownBlock])).trans (ZI (ZgU _ _ _ _) _))|fail);have dZ:ZM w w6:=(((ZM.refl w).alloc _).alloc _).grown bI (λk hk=>by simp[Value.ownBlock]at hk;omega);have cY:=ZA bm;clear bm bI jP;have mn:w.heap.size<=w6.heap.size:=dZ.size;go_wp2_with fail;refine(ZDh w6 s 8 ZB ZB).mono ?_;rintro e w7 ⟨A7,c7,rfl,cA,oZ⟩;rw[Z4]at cA ⊢;have sz:=ZA (Rd.of_own cA);have pJ:=Z5 cY.o oZ;have Aq:w6.heap.size<=w7.heap.size:=oZ.size;clear cA cY;go_wp2_with (first|(at_builtin;refine JV _ rfl (.tmp 16) (.tmp 20) rfl w.heap.size rfl pJ rfl (Z4 s 8) sz.out ZB ZB ?_;intro A8 c8 w8 jb iP _)|fail);have et:[83,71,p,n]++xs++Zm s 8=Ys p xs s:=by rw[Ys,Hl.o];rfl
 rw[et]at jb;have Dz:ZM w w8:=(dZ.trans oZ).grown iP (Yw pJ);have uC:=ZA (Rd.of_own jb);have Le:w7.heap.size<=w8.heap.size:=iP.size;have oe:=ZA jb;clear jb iP pJ et;go_wp2_with fail;refine(ZNL A8 (4+n+8) c8 (Ys p xs s) w8 ly.o dN.o ZB uC.out).mono ?_;rintro e w9 ⟨rfl,rfl⟩;have wE:((upd 14695981039346656037 (Ys p xs s):Nat):Int) % 4294967296=((ZEb (Ys p xs s):Nat):Int):=rfl;have DM:ZEb (Ys p xs s)<4294967296:=ZgG _ ZB;go_wp2_with fail;rw[wE];refine(ZDh w8 (ZEb (Ys p xs s)) 4 ZB ZB).mono ?_;rintro e vG ⟨Mm,c10,rfl,hown10,pe⟩;rw[Z4]at hown10 ⊢;have wQ:=ZA (Rd.of_own hown10);have wU:=Z5 oe.o pe;have DS:w8.heap.size<=vG.heap.size:=pe.size;clear hown10 oe;go_wp2_with (first|(at_builtin;refine JV _ rfl (.tmp 22) (.tmp 26) rfl w.heap.size rfl wU rfl (Z4 _ 4) wQ.out ZB ZB ?_;intro Ml LU Cv kM jg _)|fail);have wv:ZM w Cv:=(Dz.trans pe).grown jg (Yw wU);have qp:=ZA kM;have ak:(Xm p xs s).length=4+n+8+4:=by rw[ZA6,Hl.o];omega
 have iX:=ZA ak;clear ak kM jg wU;go_ret;exact ZBv iX.o qp.o wv
abbrev ZJw:Value:=ZJx 0 none 0 0 0
theorem J9(h:fn.results=#[.cell 2 120,.tmp 3]){tmps:Array Value}{c:Value}{fr:Nat × Nat}(hp:tmps.getD 2 undef=.pointer (some ⟨g,0,none⟩))(hg:w.heap[g]?=some (.cells #[a,b,c] t fr)): (results fn tmps).run prog w=.ok (.tuple #[.agg #[a,b,c],tmps.getD 3 undef]) w:=Yy h tmps w g t #[a,b,c] fr _ hp hg underlying120 ZX0 ZC
def ZKr (p:Nat)(xs:List Nat)(s:Nat)(w:World)(e:Ending)(w':World):Prop:=∃A c,e=.returned (.tuple #[ZJx (p:Int) A xs.length c (s:Int),.int .i64 0])/\w'.ownsRow w.heap.size 5 1 (.slice A xs.length c) xs.length (ZT .u8 xs)/\ZM w w'
theorem ZOw (p)(xs:List Nat)(s):(((Xm p xs s).drop (xs.length+4)).take 8)=Zm s 8:=by
 have e:Xm p xs s=([83,71,p,xs.length]++xs)++(Zm s 8++Zm (ZEb (Ys p xs s)) 4):=by simp[Xm,Ys]
 rw[e,Zeo ZXz,Zer ZXz,Zfb,Zfm (by rw[Z4];omega),Zfp (by rw[Z4];omega)]
theorem ZUP (p)(xs:List Nat)(s):(Xm p xs s).drop (xs.length+12)=Zm (ZEb (Ys p xs s)) 4:=by
 rw[Xm,Zeo (by rw[ZAy];omega),Zer (by rw[ZAy];omega),Zfb]
theorem ZSA (p)(xs:List Nat)(s):(Xm p xs s).take (xs.length+12)=Ys p xs s:=by
 rw[Xm,Zfm (by rw[ZAy];omega),Zfp (by rw[ZAy];omega)]
theorem ZOx (p)(xs:List Nat)(s):(((Xm p xs s).drop 4).take xs.length)=xs:=by
 have e:Xm p xs s=[83,71,p,xs.length]++(xs++(Zm s 8++Zm (ZEb (Ys p xs s)) 4)):=by simp[Xm,Ys]
 rw[e,Zeo ZXz,Zer ZXz,Zfb,Zfm ZB,Zfp ZB]
theorem ZI0 {P:Program}(ht:P.underlying t=some (.slice e))(hz:∀u:World,(sizeOf e).run P u=.ok 1 u){b d:Nat}(k h:Nat){ki hi:Int}(dy:ki=(k:Int))(sS:hi=(h:Int))(AS:h<=n)(aI:n<=c)(h2:¬c=k)(hm:h=m+k)(hd:c=d+k)(u:World): (Instr.slice t (.slice (some ⟨b,off,none⟩) n c) (some (.int .i64 ki)) (some (.int .i64 hi)) none).run P u=.ok (.slice (some ⟨b,off+k,none⟩) m d) u:=by
 subst dy sS;have he:P.elem t=e:=by simp[Program.elem,ht]
 rw[run_slice_lh (P:=P) u t _ n c (by rw[he];exact ht) .i64 .i64 (k:Int) (h:Int) ZB ZB ZB,he,hz];simp only[Result.andThen,sliced,Zec,Zgk h2,Option.map_some,ZeS,ZgJ]
 congr 2<;>omega
theorem ZWK{b:Nat}(h:Rd w (some ⟨b,off,none⟩) vs)(j):Rd w (some ⟨b,off+j,none⟩) (vs.drop j):=by
 intro ag;obtain⟨b',off',hA,hc⟩:=h (by rintro rfl;simp at ag);injection hA with hA;injection hA with e1 e2 _;subst e1 e2;exact⟨b,off+j,rfl,λi u hu=>by rw[Zfv];exact hc (j+i) u (by rw[<-hu,Ze3])⟩
theorem ZBD{b:Nat}(h:Rd w (some ⟨b,off,none⟩) (ZT .u8 ys))(j m)(e:(ys.drop j).take m=zs):Rd w (some ⟨b,off+j,none⟩) (ZT .u8 zs):=by
 have h1:=ZWK h j;rw[<-Jx]at h1;rw[<-e];exact ZKF (ys:=(ys.drop j).drop m) (by rw[Zfl];exact h1)
theorem ZO4{x y z:Value}(h:ZD (w.heap[g]?=some (.cells #[x,y,z] t (0,0))))(a b c):(((w.setCell ⟨g,0,none⟩ a).setCell ⟨g,1,none⟩ b).setCell ⟨g,2,none⟩ c).heap[g]?=some (.cells #[a,b,c] t (0,0)):=ZW0 h.out a b c
theorem ZTY{w6:World}{k s c6:Nat}{A6:Option Addr}{c:Value}(hk:xs.length=k)(ho:w6.ownsRow w2.heap.size 5 1 (.slice A6 (0+k) c6) (0+k) (ZT .u8 ([]++xs)))(hs:w.heap.size<w2.heap.size)(hx:ZM w w2)(dZ:ZM w2 w6): ZKr p xs s w (.returned (.tuple #[ZJx (p:Int) A6 k c6 (s:Int),.int .i64 0])) (((w6.setCell ⟨w.heap.size,0,none⟩ a).setCell ⟨w.heap.size,1,none⟩ b).setCell ⟨w.heap.size,2,none⟩ c):=by
 subst hk;rw[ZgQ,Zfb]at ho;have hg:=ZU (ZU (Ze w6 w.heap.size 0 a) 1 b) 2 c;refine⟨A6,c6,rfl,Zj (ho.kept hg ?_) (Zf5 hs),?_⟩
 ·cases hA:(Value.slice A6 xs.length c6).ownBlock with
  |none=>exact .inl rfl
  |some q=>right;intro e;injection e with e;have:=Yw ho q hA;omega
 ·exact(hx.trans dZ).grown hg (λk hk=>by injection hk with hk;omega)
theorem ZRR (w p s k A n c)(xs:List Nat)(hk:xs.length=k)(hn:n=k+16)(hb:∀x ∈ xs,x<256)(hr:Rd w A (ZT .u8 (Xm p xs s)))(aI:n<=c)(h1:1<=s)(h2:s<=4611686018427387903)(h4:p<32)(nK:k<=255): Calls prog 33 #[.slice A n c] w (ZKr p xs s w):=by
 obtain⟨b,off,hA,hc⟩:=hr (by simp[ZT,Xm,Ys]);subst hA;have c0:w.cell? ⟨b,off,none⟩=some (.int .u8 83):=hc 0 _ rfl;have c1:w.cell? ⟨b,off+1,none⟩=some (.int .u8 71):=hc 1 _ rfl;have c2:w.cell? ⟨b,off+2,none⟩=some (.int .u8 p):=hc 2 _ rfl;have c3:w.cell? ⟨b,off+3,none⟩=some (.int .u8 k):=by rw[<-hk];exact hc 3 _ rfl
 obtain⟨Hr,Hk,Hb⟩:=Z8 hr hk hb;clear hc hr hk hb;have d0:=ZI c0;have d1:=ZI c1;have d2:=ZI c2;have d3:=ZI c3;have ag:((n:Int) !=4+(k:Int)+12)=false:=by simp;omega
 have n1:k+16<=n:=by omega
 have n2:n<=k+16:=by omega
 have n3:¬c=4+k:=by omega
 have n4:¬c=4+k+8:=by omega
 have r1:=ZBD (zs:=Zm s 8) Hr.o (4+k) 8 (by have:=ZOw p xs s;rw[Hk.o,Zfw]at this;exact this);have r2:=ZBD (zs:=Zm (ZEb (Ys p xs s)) 4) Hr.o (4+k+8) 4 (by
  have:=ZUP p xs s;rw[Hk.o,show k+12=4+k+8 by omega]at this;rw[this,Zfp (by rw[Z4];omega)])
 have r3:Rd w (some ⟨b,off,none⟩) (ZT .u8 (Ys p xs s)):=ZBD Hr.o 0 (k+12) (by rw[List.drop_zero,<-Hk.o];exact ZSA p xs s);have r4:=ZBD (zs:=xs) Hr.o 4 k (by have:=ZOx p xs s;rw[Hk.o]at this;exact this);obtain⟨R1,R2,R3,R4⟩:=ZAU r1 r2 r3 r4;clear r1 r2 r3 r4 hn;go_enter func33,ntmps33;go_wp2_with fail;have ny:YG (Zm s 8)=s:=by
  rw[Jm];exact ZgF (ZgA h2 (by decide))
 refine(ZBa _ _ 8 _ (Zm s 8) (Z4 s 8) ZB (JM s 8) (R1.o.alloc _)).mono ?_;rintro e w1 ⟨rfl,cW⟩;rw[ny];obtain⟨U,hU⟩:=ZX3 (upd 14695981039346656037 (Ys p xs s));have tu:U<18446744073709551616:=by rw[<-hU];exact ZEY _ _ ZB
 have ss:ZEb (Ys p xs s)=U % 4294967296:=by rw[ZEb,hU]
 have nB:YG (Zm (ZEb (Ys p xs s)) 4)=U % 4294967296:=by
  rw[Jm,ss];exact Nat.mod_mod _ _
 have cw:(Ys p xs s).length=4+k+8:=by rw[ZAy,Hk.o];omega
 have nO:∀x ∈ Ys p xs s,x<256:=λx hx=>by
  obtain⟨T1,_⟩:=QA;exact ZYm
 have C2:=ZA (λq=>ZBa (w1.drewN q) (some ⟨b,off+(4+k+8),none⟩) (n - (4+k+8)) (c - (4+k+8)) (Zm (ZEb (Ys p xs s)) 4) (by rw[Z4];omega) ZB (JM _ 4) (by rw[<-cW];exact(R2.o.alloc _).drewN q));have C3:=ZA (λq=>ZE2 (some ⟨b,off,none⟩) (4+k+8) c (Ys p xs s) (w1.drewN q) cw nO ZB (by rw[<-cW];exact(R3.o.alloc _).drewN q));rw[nB]at C2;rw[hU]at C3;have pY:=ZKo U tu;have k0:w1.heap[w.heap.size]?=some (.cells #[.int .i64 0,.slice none 0 0,.int .i64 0] 120 (0,0)):=by rw[<-cW];exact Zgi w _
 have k2:w1.cell? ⟨b,off+2,none⟩=some (.int .u8 p):=by rw[<-cW];exact d2 _
 have aK:ZM w w1:=by rw[<-cW];exact(ZM.refl w).alloc _
 have Ga:=ZA (R4.o.ext aK);clear cW hU ss nB cw nO ny c0 c1 c2 c3 d0 d1 d2 d3 R1 R2 R3;have q1:decide ((s:Int)<1)=false:=by simp;omega
 have q2:decide (4611686018427387903<(s:Int))=false:=by simp;omega
 go_upto_region 7 with fail;go_quiet ((first
  |(go_at_call 75;exact Jr (C2.o _))
  |(go_at_call 75;exact ZBw (C2.o _))
  |(go_at_call 74;exact Jr (C3.o _))
  |(go_at_call 74;exact ZBw (C3.o _))))
 clear pY C2 C3 q1 q2 tu;go_upto_region 9 with fail;obtain⟨w2,cV⟩:=ZX3 (w1.drewN nq);have Dt:w2.heap[w.heap.size]?=some (.cells #[.int .i64 0,.slice none 0 0,.int .i64 0] 120 (0,0)):=by rw[<-cV];exact k0
 have uv:w2.cell? ⟨b,off+2,none⟩=some (.int .u8 p):=by rw[<-cV];exact k2
 have bd:ZM w w2:=by rw[<-cV];exact aK.drewN nq
 have dq:w.heap.size<w2.heap.size:=by rw[<-cV];exact ZX k0
 have R5:=ZA (R4.o.ext bd);rw[cV];clear cV k0 k2 aK Ga;have zH:IntKind.i64.wrap (s:Int)=(s:Int):=by rw[Zee];omega
 have jK:IntKind.i64.wrap (p:Int)=(p:Int):=by rw[Zee];omega
 have hsl:∀u:World,(Instr.slice 32 (.slice (some ⟨b,off,none⟩) n c) (some (.int .i64 4)) (some (.int .i64 (4+(k:Int)))) none).run prog u=.ok (.slice (some ⟨b,off+4,none⟩) k (c - 4)) u:=λu=>ZI0 underlying32 JX 4 (4+k) rfl ZB ZB aI ZB ZB ZB u
 go_region_law ((refine ZAF w2.drew rfl (.const (.slice none 0 0)) (.tmp 81) rfl w2.heap.size (B:=none) (n:=0) (cb:=0) (xs:=[]) (by simp[Act.eval]) (ZgZ _ _ _ _) (A:=some ⟨b,off+4,none⟩) (m:=k) (c:=c - 4) (news:=xs) (by simp[Act.eval,Act.put]) Hk.o (show Rd w2.drew _ _ from R5.o) ZB ZXz ?_;intro A6 c6 w6 bm bI _;have dZ:ZM w2 w6:=((ZM.refl w2).drew).grown bI (by simp[Value.ownBlock]);have k6:w6.cell? ⟨b,off+2,none⟩=some (.int .u8 p):=(dZ.cell (p:=⟨b,off+2,none⟩) (ZgT w2 _ uv)).trans uv;have qM:=ZA (ZK Dt dZ);have g0:=ZE qM.out 0;have g1:=ZE qM.out 1;have g2:=ZE qM.out 2;have f0:=ZG qM.out 0;have f1:=ZG qM.out 1;have f2:=ZG qM.out 2));all_goals
  go_wp2_with fail;refine Zgd (J9 rfl rfl (ZO4 (by assumption) _ _ _)) rfl ?_;exact ZTY Hk.o (by assumption) dq bd (by assumption)
theorem ZOQ (w A n c)(hn:n<16): Calls prog 33 #[.slice A n c] w (Xj (.tuple #[ZJw,.int .i64 3]) w):=by
 go_enter func33,ntmps33;go_wp2_with fail;refine Zgd (J9 rfl rfl (Zgi w _)) rfl ?_;exact⟨rfl,(ZM.refl w).alloc _⟩
theorem ZVy(hr:Rd w A (ZT .u8 ys))(hl:4<=ys.length): ∃b off y0 y1 y2 y3:Nat,A=some ⟨b,off,none⟩/\w.cell? ⟨b,off,none⟩=some (.int .u8 y0)/\w.cell? ⟨b,off+1,none⟩=some (.int .u8 y1)/\w.cell? ⟨b,off+2,none⟩=some (.int .u8 y2)/\w.cell? ⟨b,off+3,none⟩=some (.int .u8 y3)/\ ys[0]?=some y0/\ys[1]?=some y1/\ys[2]?=some y2/\ys[3]?=some y3:=by
 match ys,hl with
 |a::b::c::d::r,_=>
  obtain⟨bb,off,hA,hc⟩:=hr (by simp[ZT]);exact⟨bb,off,a,b,c,d,hA,hc 0 _ rfl,hc 1 _ rfl,hc 2 _ rfl,hc 3 _ rfl,rfl,rfl,rfl,rfl⟩
theorem ZMS (w:World)(b off n c y0 y1 y2 y3:Nat)(hn:16<=n)(bG:n<=4096)(KL:y0<256)(ga:y1<256)(eI:y2<256)(cI:y3<256)(c0:w.cell? ⟨b,off,none⟩=some (.int .u8 y0))(c1:w.cell? ⟨b,off+1,none⟩=some (.int .u8 y1))(c2:w.cell? ⟨b,off+2,none⟩=some (.int .u8 y2))(c3:w.cell? ⟨b,off+3,none⟩=some (.int .u8 y3))(h:y0≠83\/y1≠71\/32<=y2\/n≠4+y3+12): Calls prog 33 #[.slice (some ⟨b,off,none⟩) n c] w (Xj (.tuple #[ZJw,.int .i64 3]) w):=by
 have d0:=ZI c0;have d1:=ZI c1;have d2:=ZI c2;have d3:=ZI c3;clear c0 c1 c2 c3;have q0:y0≠83->((y0:Int) !=83)=true:=λh=>by simp;omega
 have q1:y1≠71->((y1:Int) !=71)=true:=λh=>by simp;omega
 have q3:n≠4+y3+12->((n:Int) !=4+(y3:Int)+12)=true:=λh=>by simp;omega
 by_cases h0:y0=83
 ·subst h0;by_cases h1:y1=71
  ·subst h1;by_cases h2:32<=y2
   ·clear q0 q1 q3 h;go_enter func33,ntmps33;go_wp2_with fail;refine Zgd (J9 rfl rfl (Zgi w _)) rfl ?_;exact⟨rfl,(ZM.refl w).alloc _⟩
   ·have fK:y2<32:=by omega
    have ag:=q3 ZB;clear q0 q1 q3 h h2;go_enter func33,ntmps33;go_wp2_with fail;refine Zgd (J9 rfl rfl (Zgi w _)) rfl ?_;exact⟨rfl,(ZM.refl w).alloc _⟩
  ·have ag:=q1 h1;clear q0 q1 q3 h h1;go_enter func33,ntmps33;go_wp2_with fail;refine Zgd (J9 rfl rfl (Zgi w _)) rfl ?_;exact⟨rfl,(ZM.refl w).alloc _⟩
 ·have ag:=q0 h0;clear q0 q1 q3 h h0;go_enter func33,ntmps33;go_wp2_with fail;refine Zgd (J9 rfl rfl (Zgi w _)) rfl ?_;exact⟨rfl,(ZM.refl w).alloc _⟩
theorem ZVv (w:World)(x y z t q a b c):(((((w.alloc (.cells #[x,y,z] t)).drewN q).setCell ⟨w.heap.size,0,none⟩ a).setCell ⟨w.heap.size,1,none⟩ b).setCell ⟨w.heap.size,2,none⟩ c).heap[w.heap.size]?=some (.cells #[a,b,c] t (0,0)):=ZW0 (w:=(w.alloc (.cells #[x,y,z] t)).drewN q) (Zgi w _) a b c
theorem ZVz (w:World)(o q a b c):ZM w (((((w.alloc o).drewN q).setCell ⟨w.heap.size,0,none⟩ a).setCell ⟨w.heap.size,1,none⟩ b).setCell ⟨w.heap.size,2,none⟩ c):=(((((ZM.refl w).alloc o).drewN q).setCell (p:=⟨w.heap.size,0,none⟩) (Zf6 _) a).setCell (p:=⟨w.heap.size,1,none⟩) (Zf6 _) b).setCell (p:=⟨w.heap.size,2,none⟩) (Zf6 _) c
theorem Q3 {p:Prop}(h:p:=by
 first|(obtain -:=V1;have d0:=ZI c0;have d1:=ZI c1)|skip
 have d2:=ZI c2;have d3:=ZI c3;first|(obtain -:=V2;clear c2 c3)|(obtain -:=V3;clear c0 c1 c2 c3)|have aH:=ZgT w _ c2
 first|(obtain -:=V4;have ag:((n:Int) !=4+(k:Int)+12)=false:=by simp;omega)|have ag:((n:Int) !=16+(k:Int))=false:=by simp;omega
 have n1:k+16<=n:=by omega
 have n2:n<=k+16:=by omega
 have n3:¬c=4+k:=by omega
 first|(obtain -:=V5)|(obtain -:=V6;have n4:¬c=4+k+8:=by omega)|have n4:¬c=4:=by omega
 have r1:=ZBD (zs:=(ys.drop (4+k)).take 8) hr (4+k) 8 rfl;first|(obtain -:=V7;have r2:=ZBD (zs:=ys.drop (4+k+8)) hr (4+k+8) 4 (by rw[Zfp (by rw[ZfG];omega)]);have r3:Rd w (some ⟨b,off,none⟩) (ZT .u8 (ys.take (4+k+8))):=ZBD hr 0 (4+k+8) (by rw[List.drop_zero]))|skip
 have l1:((ys.drop (4+k)).take 8).length=8:=by rw[ZfL,ZfG];omega
 first
 |obtain -:=V8;have b1:∀x ∈ (ys.drop (4+k)).take 8,x<256:=λx hx=>hb x (ZfV (ZfX hx));have C1:=ZA (λ(o:Obj)=>ZAh (w.alloc o) (some ⟨b,off+(4+k),none⟩) 8 (c - (4+k)) _ l1 ZB b1 (r1.alloc o));have hS:=ZC7 _ b1 ZB;generalize YG ((ys.drop (4+k)).take 8)=s at*;clear hl hb hr r1 l1 b1 hn;have gT:(decide ((s:Int)<1)=true)\/(decide ((s:Int)<1)=false/\decide (4611686018427387903<(s:Int))=true):=by
   by_cases h1:s<1
   ·left;simp;omega
   ·right;simp;omega
  clear h;rcases gT with q1|⟨q1,q2⟩
  all_goals
   go_enter func109,ntmps109;go_wp2_with fail;refine(C1.o _).mono ?_;rintro e w1 ⟨rfl,rfl⟩;go_wp2_with fail;refine Zgd (J9 rfl rfl (Zgi w _)) rfl ?_;exact⟨rfl,(ZM.refl w).alloc _⟩
 |obtain -:=V9;have l2:(ys.drop (4+k+8)).length=n - (4+k+8):=by rw[ZfG];omega
  have l3:(ys.take (4+k+8)).length=4+k+8:=by rw[ZfL];omega
  have b1:∀x ∈ (ys.drop (4+k)).take 8,x<256:=λx hx=>hb x (ZfV (ZfX hx));have b2:∀x ∈ ys.drop (4+k+8),x<256:=λx hx=>hb x (ZfV hx);have b3:∀x ∈ ys.take (4+k+8),x<256:=λx hx=>hb x (ZfX hx);have C1:=ZA (λ(o:Obj)=>ZBa (w.alloc o) (some ⟨b,off+(4+k),none⟩) 8 (c - (4+k)) _ l1 ZB b1 (r1.alloc o));have C2:=ZA (λ(o:Obj) q=>ZBa ((w.alloc o).drewN q) (some ⟨b,off+(4+k+8),none⟩) (n - (4+k+8)) (c - (4+k+8)) _ l2 ZB b2 ((r2.alloc o).drewN q));have C3:=ZA (λ(o:Obj) q=>ZE2 (some ⟨b,off,none⟩) (4+k+8) c _ ((w.alloc o).drewN q) l3 b3 ZB ((r3.alloc o).drewN q));have hS:=ZC7 _ b1 ZB;have hQ:=ZC7 _ b2 ZB;have hU:=ZEY 14695981039346656037 (ys.take (4+k+8)) ZB;generalize YG ((ys.drop (4+k)).take 8)=s at*;generalize YG (ys.drop (4+k+8))=q at*;generalize upd 14695981039346656037 (ys.take (4+k+8))=U at*;have pY:=ZKo U hU;clear hl hb hr r1 r2 r3 l1 l2 l3 b1 b2 b3 hn;by_cases hs:s<1\/4611686018427387903<s
  ·have gT:(decide ((s:Int)<1)=true)\/(decide ((s:Int)<1)=false/\decide (4611686018427387903<(s:Int))=true):=by
    by_cases h1:s<1
    ·left;simp;omega
    ·right;simp;omega
   clear h hs pY C2 C3;rcases gT with q1|⟨q1,q2⟩
   all_goals
    go_enter func33,ntmps33;go_wp2_with fail;refine(C1.o _).mono ?_;rintro e w1 ⟨rfl,rfl⟩;go_upto_region 7 with fail
    go_quiet (fail)
    go_wp2_with fail;refine Zgd (J9 rfl rfl (ZVv w _ _ _ _ _ _ _ _)) rfl ?_;exact⟨rfl,ZVz w _ _ _ _ _⟩
  ·have q1:decide ((s:Int)<1)=false:=by simp;omega
   have q2:decide (4611686018427387903<(s:Int))=false:=by simp;omega
   have Lg:((q:Int) !=((U % 4294967296:Nat):Int))=true:=by
    have:q≠U % 4294967296:=by omega
    simp;omega
   clear h hs;go_enter func33,ntmps33;go_wp2_with fail;refine(C1.o _).mono ?_;rintro e w1 ⟨rfl,rfl⟩;go_upto_region 7 with fail;go_quiet ((first
    |(go_at_call 75;exact Jr (C2.o _ _))
    |(go_at_call 75;exact ZBw (C2.o _ _))
    |(go_at_call 74;exact Jr (C3.o _ _))
    |(go_at_call 74;exact ZBw (C3.o _ _))))
   go_wp2_with fail;refine Zgd (J9 rfl rfl (ZVv w _ _ _ _ _ _ _ _)) rfl ?_;exact⟨rfl,ZVz w _ _ _ _ _⟩
 |have b1:∀x ∈ (ys.drop (4+k)).take 8,x<256:=λx hx=>hb x (ZfV (ZfX hx));have C1:=ZA (λ(o:Obj)=>ZAh (w.alloc o) (some ⟨b,off+(4+k),none⟩) 8 (c - (4+k)) _ l1 ZB b1 (r1.alloc o));rw[hs]at C1;have r4:=ZBD (zs:=(ys.drop 4).take k) hr 4 k rfl;have lk:((ys.drop 4).take k).length=k:=by rw[ZfL,ZfG];omega
  have bk:∀x ∈ (ys.drop 4).take k,x<256:=λx hx=>hb x (ZfV (ZfX hx));have hL:(Xm p ((ys.drop 4).take k) s).length=n:=by rw[ZA6,lk];omega
  have bt:=ZJ0 p s _ ZB ZB bk;unfold ZUF;generalize (ys.drop 4).take k=xs at*;obtain⟨Hl,Hb,Hr,Hlk,GK,HL⟩:=Ju hl hb hr lk bk hL;have GI:=ZA bt;have R4:=ZA r4;clear hl hb hr r1 l1 b1 hn hs lk bk hL bt r4 c2 c3;go_enter func109,ntmps109;go_wp2_with fail;refine(C1.o _).mono ?_;rintro e w1 ⟨rfl,cW⟩;have aK:ZM w w1:=by rw[<-cW];exact(ZM.refl w).alloc _
  have k0:w1.heap[w.heap.size]?=some (.cells #[.int .i64 0,.slice none 0 0,.int .i64 0] 120 (0,0)):=by rw[<-cW];exact Zgi w _
  have ru:w1.cell? ⟨b,off+2,none⟩=some (.int .u8 p):=by rw[<-cW];exact d2 _
  have K0:=ZA k0;have R5:=ZA (R4.o.ext aK);have DT:w.heap.size<w1.heap.size:=ZX k0;clear cW k0 d2 d3 R4 C1;go_upto_region 9 with fail;go_cut [6] (λv wd=>∃g A6 c6,v=.pointer (some ⟨g,0,none⟩)/\wd.heap[g]?=some (.cells #[.int .i64 p,.slice A6 xs.length c6,.int .i64 s] 120 (0,0))/\wd.ownsRow w1.heap.size 5 1 (.slice A6 xs.length c6) xs.length (ZT .u8 xs)/\ZM w1 wd);case first=>
   have zH:IntKind.i64.wrap (s:Int)=(s:Int):=by rw[Zee];omega
   have jK:IntKind.i64.wrap (p:Int)=(p:Int):=by rw[Zee];omega
   have hsl:∀u:World,(Instr.slice 32 (.slice (some ⟨b,off,none⟩) n c) (some (.int .i64 4)) (some (.int .i64 (4+(k:Int)))) none).run prog u=.ok (.slice (some ⟨b,off+4,none⟩) k (c - 4)) u:=λu=>ZI0 underlying32 JX 4 (4+k) rfl ZB ZB aI ZB ZB ZB u;have C2:=ZA (λ(W:World) (h:ZM w1 W)=>ZCe (some ⟨b,off+4,none⟩) k (c - 4) xs W Hlk.o ZB (R5.o.ext h));have C3:=ZA (C2.o w1.drew (ZM.refl w1).drew);have C4:=ZA (C2.o (w1.alloc (.cells #[.int .i64 0,.slice none 0 0,.int .i64 0] 120)).drew ((ZM.refl w1).alloc _).drew);have D2:=ZA ru;have D3:=ZI ru;clear C2
   go_region_with (first
    |(go_at_call 45;(with_reducible refine C3.o.mono ?_);rintro e w2 ⟨A2,c2,rfl,af,mz⟩;have hx:ZM w1 w2:=(ZM.refl w1).drew.trans mz;have xJ:w2.cell? ⟨b,off+2,none⟩=some (.int .u8 p):=(hx.cell (p:=⟨b,off+2,none⟩) (ZgT w1 _ D2.o)).trans D2.o;have E3:=ZI xJ)
    |(go_at_call 45;(with_reducible refine C4.o.mono ?_);rintro e w2 ⟨A2,c2,rfl,af,mz⟩;have hx:ZM w1 w2:=((ZM.refl w1).alloc _).drew.trans mz;have xJ:w2.cell? ⟨b,off+2,none⟩=some (.int .u8 p):=(hx.cell (p:=⟨b,off+2,none⟩) (ZgT w1 _ D2.o)).trans D2.o;have E3:=ZI xJ;have kk:=ZA (ZK (show(w1.alloc (.cells #[.int .i64 0,.slice none 0 0,.int .i64 0] 120)).drew.heap[w1.heap.size]?=some (.cells #[.int .i64 0,.slice none 0 0,.int .i64 0] 120 (0,0))from ZV w1 _) mz);have g0:=ZE kk.out 0;have g1:=ZE kk.out 1;have g2:=ZE kk.out 2;have f0:=ZG kk.out 0;have f1:=ZG kk.out 1;have f2:=ZG kk.out 2))
   all_goals
    go_wp2_with fail
    go_meet
    first
    |exact⟨_,A2,c2,rfl,Zgi w2 _,Z5 af ((ZM.refl w2).alloc _),hx.alloc _⟩
    |exact⟨_,A2,c2,rfl,ZO4 kk _ _ _,ZLj (Zj (base':=w1.heap.size+1) af (by simp[World.drew])) ZB _ _ _,ZH7 hx (Zf6 _) _ _ _⟩
  case rest=>
   obtain⟨g,A6,c6,rfl,hg,af,dZ⟩:=hcut;have Hg:=ZA hg;have dH:=ZA af;clear hg af;have g0:=ZE Hg.o 0;have g1:=ZE Hg.o 1;have g2:=ZE Hg.o 2;have K6:=ZA (ZK K0.o dZ);have C5:=ZA (ZHV wc p s A6 xs.length c6 xs rfl GK.o (Rd.of_own dH.o) aG dq hp (by have:=Hlk.o;omega));go_wp2_with fail;refine C5.o.mono ?_;rintro e w3 ⟨A3,c3,rfl,hown3,cI⟩;rw[HL.o]at hown3 ⊢;have fU:=(aK.trans dZ).trans cI;have C6:=ZA (ZLW A3 (some ⟨b,off,none⟩) n c3 n c _ ys w3 HL.o Hl.o ZB GI.o Hb.o (Rd.of_own hown3) (Hr.o.ext fU));have vt:=ZA (ZK Hg.o cI);have K3:=ZA (ZK K6.o cI);clear g0 g1 g2 hown3 C5;go_wp2_with fail;refine(ZSB C6.o).mono ?_;rintro e w4 ⟨rfl,ba⟩;have kC:=fU.trans ba;have yZ:=ZA (ZK vt.o ba);have K4:=ZA (ZK K3.o ba);have g0:=ZE yZ.o 0;have g1:=ZE yZ.o 1;have g2:=ZE yZ.o 2;have k0:=ZE K4.o 0;have k1:=ZE K4.o 1;have k2:=ZE K4.o 2;have f0:=ZG K4.o 0;have f1:=ZG K4.o 1;have f2:=ZG K4.o 2;by_cases ml:Xm p xs s=ys
   ·have aG:same (Xm p xs s) ys=true:=Zgg ml;rw[aG];have yL:=ZA ml;clear ml aG C6;go_wp2_with fail;refine Zgd (J9 rfl rfl (ZO4 K4 _ _ _)) rfl ?_;refine⟨λ_=>?_,λh=>absurd yL.o h⟩;have ho:wc.ownsRow (w.heap.size+1) 5 1 (.slice A6 xs.length c6) xs.length (ZT .u8 xs):=Zj dH.o ZB;exact⟨A6,c6,rfl,ZLj (Z5 ho (cI.trans ba)) ZB _ _ _,ZH7 kC (Zf6 _) _ _ _⟩
   ·have aG:same (Xm p xs s) ys=false:=Zgf ml;rw[aG];have yL:=ZA ml;clear ml aG C6;go_wp2_with fail;refine Zgd (J9 rfl rfl (ZO4 K4 _ _ _)) rfl ?_;refine⟨λh=>absurd h yL.o,λ_=>⟨rfl,ZH7 kC (Zf6 _) _ _ _⟩⟩):p:=h
theorem ZMR (w:World)(b off n c p k:Nat)(ys:List Nat)(hl:ys.length=n)(hb:∀x ∈ ys,x<256)(hr:Rd w (some ⟨b,off,none⟩) (ZT .u8 ys))(aI:n<=c)(hn:n=k+16)(hk:k<256)(hp:p<32)(c0:w.cell? ⟨b,off,none⟩=some (.int .u8 83))(c1:w.cell? ⟨b,off+1,none⟩=some (.int .u8 71))(c2:w.cell? ⟨b,off+2,none⟩=some (.int .u8 p))(c3:w.cell? ⟨b,off+3,none⟩=some (.int .u8 k))(h:YG ((ys.drop (4+k)).take 8)<1\/4611686018427387903<YG ((ys.drop (4+k)).take 8)\/YG (ys.drop (4+k+8))≠upd 14695981039346656037 (ys.take (4+k+8)) % 4294967296): Calls prog 33 #[.slice (some ⟨b,off,none⟩) n c] w (Xj (.tuple #[ZJw,.int .i64 3]) w):=by
 obtain⟨V1,V3,V4,V6,V7,V9⟩:=QA;exact Q3
theorem ZMQ (w A n c)(ys:List Nat)(hl:ys.length=n)(hb:∀x ∈ ys,x<256)(hr:Rd w A (ZT .u8 ys))(aI:n<=c)(hn:n<=4096)(h:¬ZIS ys): Calls prog 33 #[.slice A n c] w (Xj (.tuple #[ZJw,.int .i64 3]) w):=by
 by_cases hf:n<16
 ·exact ZOQ w A n c hf
 ·obtain⟨b,off,y0,y1,y2,y3,rfl,c0,c1,c2,c3,e0,e1,e2,e3⟩:=ZVy hr ZB;have b0:=hb y0 (ZfU e0);have b1:=hb y1 (ZfU e1);have b2:=hb y2 (ZfU e2);have b3:=hb y3 (ZfU e3);by_cases hc:y0≠83\/y1≠71\/32<=y2\/n≠4+y3+12
  ·exact ZMS w b off n c y0 y1 y2 y3 ZB hn b0 b1 b2 b3 c0 c1 c2 c3 hc
  ·obtain rfl:y0=83:=by omega
   obtain rfl:y1=71:=by omega
   refine ZMR w b off n c y2 y3 ys hl hb hr aI ZB b3 ZB c0 c1 c2 c3 ?_;refine Zea λhh=>h ?_;exact ZTD ys y2 y3 _ hb ZB e0 e1 e2 e3 ZB b3 rfl ZB ZB (Zea λhq=>hh (.inr (.inr hq)))
theorem ZIe (w A n c)(hn:n<16): Calls prog 109 #[.slice A n c] w (Xj (.tuple #[ZJw,.int .i64 3]) w):=by
 go_enter func109,ntmps109;go_wp2_with fail;refine Zgd (J9 rfl rfl (Zgi w _)) rfl ?_;exact⟨rfl,(ZM.refl w).alloc _⟩
theorem ZHZ (w:World)(b off n c y2 y3:Nat)(hn:16<=n)(bG:n<=4096)(eI:y2<256)(cI:y3<256)(c2:w.cell? ⟨b,off+2,none⟩=some (.int .u8 y2))(c3:w.cell? ⟨b,off+3,none⟩=some (.int .u8 y3))(h:32<=y2\/n≠4+y3+12): Calls prog 109 #[.slice (some ⟨b,off,none⟩) n c] w (Xj (.tuple #[ZJw,.int .i64 3]) w):=by
 have d2:=ZI c2;have d3:=ZI c3;clear c2 c3;by_cases h1:n=4+y3+12
 ·have ag:((n:Int) !=16+(y3:Int))=false:=by simp;omega
  have h2:32<=y2:=by omega
  clear h h1;go_enter func109,ntmps109;go_wp2_with fail;refine Zgd (J9 rfl rfl (Zgi w _)) rfl ?_;exact⟨rfl,(ZM.refl w).alloc _⟩
 ·have ag:((n:Int) !=16+(y3:Int))=true:=by simp;omega
  clear h h1;go_enter func109,ntmps109;go_wp2_with fail;refine Zgd (J9 rfl rfl (Zgi w _)) rfl ?_;exact⟨rfl,(ZM.refl w).alloc _⟩
theorem ZHY (w:World)(b off n c p k:Nat)(ys:List Nat)(hl:ys.length=n)(hb:∀x ∈ ys,x<256)(hr:Rd w (some ⟨b,off,none⟩) (ZT .u8 ys))(aI:n<=c)(hn:n=k+16)(hk:k<256)(hp:p<32)(c2:w.cell? ⟨b,off+2,none⟩=some (.int .u8 p))(c3:w.cell? ⟨b,off+3,none⟩=some (.int .u8 k))(h:YG ((ys.drop (4+k)).take 8)<1\/4611686018427387903<YG ((ys.drop (4+k)).take 8)): Calls prog 109 #[.slice (some ⟨b,off,none⟩) n c] w (Xj (.tuple #[ZJw,.int .i64 3]) w):=by
 obtain⟨V2,V5,V8⟩:=QA;exact Q3
theorem ZLj{B:Nat}{xs:List Value}(h:w.ownsRow B e 1 (.slice A n c) n xs)(hg:g<B)(a b d):(((w.setCell ⟨g,0,none⟩ a).setCell ⟨g,1,none⟩ b).setCell ⟨g,2,none⟩ d).ownsRow g e 1 (.slice A n c) n xs:=by
 refine Zj (h.kept (ZU (ZU (Ze w g 0 a) 1 b) 2 d) ?_) (Zf5 hg);cases hA:(Value.slice A n c).ownBlock with
 |none=>exact .inl rfl
 |some q=>right;intro e;injection e with e;have:=Yw h q hA;omega
theorem ZH7(h:ZM w w2)(hg:w.heap.size<=g)(a b d):ZM w (((w2.setCell ⟨g,0,none⟩ a).setCell ⟨g,1,none⟩ b).setCell ⟨g,2,none⟩ d):=((h.setCell (p:=⟨g,0,none⟩) hg a).setCell (p:=⟨g,1,none⟩) hg b).setCell (p:=⟨g,2,none⟩) hg d
def ZUF (p k s:Nat)(ys:List Nat)(w:World)(e:Ending)(w':World):Prop:=(Xm p ((ys.drop 4).take k) s=ys->ZKr p ((ys.drop 4).take k) s w e w')/\(Xm p ((ys.drop 4).take k) s≠ys->Xj (.tuple #[ZJw,.int .i64 3]) w e w')
theorem ZEP (w:World)(b off n c p k:Nat)(ys:List Nat)(hl:ys.length=n)(hb:∀x ∈ ys,x<256)(hr:Rd w (some ⟨b,off,none⟩) (ZT .u8 ys))(aI:n<=c)(hn:n=k+16)(hk:k<256)(hp:p<32)(c2:w.cell? ⟨b,off+2,none⟩=some (.int .u8 p))(c3:w.cell? ⟨b,off+3,none⟩=some (.int .u8 k))(s:Nat)(hs:YG ((ys.drop (4+k)).take 8)=s)(aG:1<=s)(dq:s<=4611686018427387903): Calls prog 109 #[.slice (some ⟨b,off,none⟩) n c] w (ZUF p k s ys w):=Q3
theorem ZSo (p s)(xs:List Nat)(hs:s<=4611686018427387903):YG (((Xm p xs s).drop (4+xs.length)).take 8)=s:=by
 rw[show 4+xs.length=xs.length+4 by omega,ZOw,Jm];exact ZgF (ZgA hs (by decide))
theorem ZKB (w p s A n c)(xs:List Nat)(hn:n=xs.length+16)(hb:∀x ∈ xs,x<256)(hr:Rd w A (ZT .u8 (Xm p xs s)))(aI:n<=c)(h1:1<=s)(h2:s<=4611686018427387903)(h4:p<32)(nK:xs.length<=255): Calls prog 109 #[.slice A n c] w (ZKr p xs s w):=by
 obtain⟨b,off,hA,hc⟩:=hr (by simp[ZT,Xm,Ys]);subst hA;have c2:w.cell? ⟨b,off+2,none⟩=some (.int .u8 p):=hc 2 _ rfl;have c3:w.cell? ⟨b,off+3,none⟩=some (.int .u8 (xs.length:Int)):=hc 3 _ rfl;refine(ZEP w b off n c p xs.length (Xm p xs s) (by rw[ZA6];omega) (ZJ0 p s xs ZB ZB hb) hr aI hn ZB h4 c2 c3 s (ZSo p s xs h2) h1 h2).mono ?_;rintro e w' ⟨h,_⟩;rw[ZOx]at h;exact h rfl
theorem ZHX (w A n c)(ys:List Nat)(hl:ys.length=n)(hb:∀x ∈ ys,x<256)(hr:Rd w A (ZT .u8 ys))(aI:n<=c)(hn:n<=4096)(h:¬ZIS ys): Calls prog 109 #[.slice A n c] w (Xj (.tuple #[ZJw,.int .i64 3]) w):=by
 by_cases hf:n<16
 ·exact ZIe w A n c hf
 ·obtain⟨b,off,y0,y1,y2,y3,rfl,c0,c1,c2,c3,e0,e1,e2,e3⟩:=ZVy hr ZB;have b2:=hb y2 (ZfU e2);have b3:=hb y3 (ZfU e3);by_cases hc:32<=y2\/n≠4+y3+12
  ·exact ZHZ w b off n c y2 y3 ZB hn b2 b3 c2 c3 hc
  ·by_cases hs:YG ((ys.drop (4+y3)).take 8)<1\/4611686018427387903<YG ((ys.drop (4+y3)).take 8)
   ·exact ZHY w b off n c y2 y3 ys hl hb hr aI ZB b3 ZB c2 c3 hs
   ·refine(ZEP w b off n c y2 y3 ys hl hb hr aI ZB b3 ZB c2 c3 _ rfl ZB ZB).mono ?_;rintro e w' ⟨_,h'⟩;refine h' λe=>h ?_;exact⟨y2,_,(ys.drop 4).take y3,by omega,by omega,by omega,by rw[ZfL];omega,λx hx=>hb x (ZfV (ZfX hx)),e.symm⟩
theorem ZIt {k v v':Nat}(h:Zm v k=Zm v' k)(hv:v<256 ^ k)(m9:v'<256 ^ k):v=v':=by
 have:=Zge YG h;rw[Jm,Jm,ZgF hv,ZgF m9]at this;exact this
theorem ZK8{s s':Nat}(h:Xm p xs s=Xm p' dV s')(h2:s<=4611686018427387903)(fK:s'<=4611686018427387903):p=p'/\xs=dV/\s=s':=by
 have e:∀p s (xs:List Nat),Xm p xs s=83::71::p::xs.length::(xs++(Zm s 8++Zm (ZEb (Ys p xs s)) 4)):=by intro p s xs;simp[Xm,Ys]
 rw[e p s xs,e p' s' dV]at h;simp only[Zem,true_and]at h;obtain⟨h1,h3,h4⟩:=h;obtain⟨h5,h6⟩:=Zej h4 h3;obtain⟨h7,_⟩:=Zej h6 (by rw[Z4,Z4]);exact⟨h1,h5,ZIt h7 (ZgA h2 (by decide)) (ZgA fK (by decide))⟩
theorem YZ {q:Int}{e:Ending}(h:Xj (.tuple #[.slice none 0 0,.int .i64 q]) w e w'):Xc [] q w e w':=⟨none,0,h.1,ZgZ _ _ _ _,h.2⟩
abbrev Yp (op p:Int)(A:Option Addr)(n c:Nat)(N:Int):Value:=.agg #[.int .u8 op,.int .i64 p,.slice A n c,.int .i64 N]
abbrev ZCs:Value:=Yp 0 0 none 0 0 0
def JN (op p:Nat)(xs:List Nat)(N:Nat):List Nat:=if op=3 then 3::Xm p xs N else if op=5\/op=6 then [op] else op::p::xs.length::(xs++if op=1 then Zm N 8 else [])
def ZBZ (op p:Nat)(xs:List Nat)(N:Nat):Prop:=1<=op/\op<=6/\(op<5->p<32/\xs.length<=255)/\(op=1->N<=4611686018427387903)/\(op=3->1<=N/\N<=4611686018427387903)
def ZBr (op p:Nat)(xs:List Nat)(N:Nat):Prop:=ZBZ op p xs N/\(∀x ∈ xs,x<256)/\(5<=op->p=0/\xs=[]/\N=0)/\(op=2\/op=4->N=0)
def ZIT (ys:List Nat):Prop:=∃op p xs N,ZBr op p xs N/\ys=JN op p xs N
theorem ZJ9(h:ZBZ op p xs N)(hb:∀x ∈ xs,x<256):∀x ∈ JN op p xs N,x<256:=by
 obtain⟨h1,h2,h3,_,_⟩:=h;intro x hx;unfold JN at hx
 split at hx
 ·rename_i ho;obtain⟨hp,hl⟩:=h3 ZB;rcases ZfO.1 hx with rfl|hx
  ·omega
  ·exact ZJ0 p N xs ZB ZB hb x hx
 ·split at hx
  ·rw[Zfa.1 hx];omega
  ·obtain⟨hp,hl⟩:=h3 ZB;simp only[ZfO,ZfN]at hx;rcases hx with rfl|rfl|rfl|hx|hx
   ·omega
   ·omega
   ·omega
   ·exact hb x hx
   ·split at hx
    ·exact JM _ _ x hx
    ·cases hx
def ZXN (op:Nat)(p:Int)(xs:List Nat)(N:Int)(q:Int)(L:List Nat):Prop:=((q==0)=false/\L=[]/\¬∃P M:Nat,(op<5->p=(P:Int))/\(op=1\/op=3->N=(M:Int))/\ZBZ op P xs M)\/(q=0/\∃P M:Nat,(op<5->p=(P:Int))/\(op=1\/op=3->N=(M:Int))/\ZBZ op P xs M/\L=JN op P xs M)
theorem ZAw{p:Int}{N:Int}(h:op<1\/6<op\/(op<5/\(p<0\/32<=p\/255<xs.length))\/(op=1/\(N<0\/4611686018427387903<N))\/(op=3/\(N<1\/4611686018427387903<N))): ¬∃P M:Nat,(op<5->p=(P:Int))/\(op=1\/op=3->N=(M:Int))/\ZBZ op P xs M:=by
 rintro⟨P,M,h1,h2,h3,h4,h5,h6,h7⟩;rcases h with h|h|⟨h,h'⟩|⟨rfl,h⟩|⟨rfl,h⟩
 ·omega
 ·omega
 ·have:=h1 h;have:=h5 h;omega
 ·have:=h2 (.inl rfl);have:=h6 rfl;omega
 ·have:=h2 (.inr rfl);have:=h7 rfl;omega
abbrev ZMu:Ending:=.panicked [{v:=.iface 290 (.agg #[]),recovered:=false}]
theorem ZAC (w r):Calls prog 115 #[r,.bool true] w λe w'=>e=.returned (.tuple #[])/\w=w':=by
 go_enter func115,ntmps115;go_wp2_with fail
 go_end0
 exact⟨rfl,rfl⟩
theorem ZCR (w r):Calls prog 115 #[r,.bool false] w λe w'=>e=ZMu/\w=w':=by
 go_enter func115,ntmps115;go_wp2_with fail;exact⟨rfl,rfl,rfl⟩
def ZWt (w:World)(r:Nat)(A:Option Addr)(n c:Nat):Prop:=w.heap[r]?=some (.cells #[.slice A n c] 292 (0,0))
theorem ZPb (w r k A n c)(h:ZWt w r A n c)(hk:(n:Int)<k): Calls prog 114 #[.pointer (some ⟨r,0,none⟩),.int .i64 k] w λe w'=>e=ZMu/\w=w':=by
 have h0:=ZX1 h 0 (.slice A n c);have hd:decide (k<=(n:Int))=false:=by simp;omega
 have H:=ZA h;clear h;go_enter func114,ntmps114;go_wp2_with fail;refine(ZCR _ _).mono ?_;rintro e w' ⟨rfl,rfl⟩;exact⟨rfl,rfl,rfl⟩
theorem ZMz (w:World)(r k A n c m d)(h:ZWt w r A n c)(hk:k<=n)(aI:n<=c)(A')(hsl:∀u:World,(Instr.slice 32 (.slice A n c) (some (.int .i64 k)) none none).run prog u=.ok (.slice A' m d) u): Calls prog 114 #[.pointer (some ⟨r,0,none⟩),.int .i64 k] w λe w'=>e=.returned (.slice A k c)/\w.setCell ⟨r,0,none⟩ (.slice A' m d)=w':=by
 have h0:=ZX1 h 0 (.slice A n c);have hf:=ZG h 0;have hd:decide ((k:Int)<=(n:Int))=true:=by simp;omega
 have H:=ZA h;clear h;go_enter func114,ntmps114;go_wp2_with fail;refine(ZAC _ _).mono ?_;rintro e w' ⟨rfl,rfl⟩;go_wp2_with fail;go_ret;exact⟨rfl,rfl⟩
def YU (w:World)(r S:Nat)(zs:List Nat):Prop:=∃A c,ZWt w r A zs.length c/\zs.length<=c/\Rd w A (ZT .u8 zs)/\(zs≠[]->∀a,A=some a->a.block≠r/\a.block<S)
theorem YU.ext(h:YU w r S zs)(hx:ZM w w'):YU w' r S zs:=by
 obtain⟨A,c,h1,h2,h3,h4⟩:=h;exact⟨A,c,ZK h1 hx,h2,h3.ext hx,h4⟩
theorem YU.grown(h:YU w r S zs)(hg:w.grownBy w' row)(h1:∀k,row=some k->k≠r/\S<=k):YU w' r S zs:=by
 obtain⟨A,c,k1,k2,k3,k4⟩:=h;refine⟨A,c,(hg.block r (ZX k1) (λe=>(h1 r e.symm).1 rfl)).trans k1,k2,?_,k4⟩;by_cases hz:zs=[]
 ·subst hz;exact Rd.nil _ _
 ·exact k3.grown hg (λa ha e=>by have:=(h1 _ e).2;have:=(k4 hz a ha).2;omega)
theorem YU.lt(h:YU w r S zs):r<w.heap.size:=by
 obtain⟨A,c,h1,_⟩:=h;exact ZX h1
def ZXG (zs:List Nat)(k:Nat)(w:World)(r S:Nat)(e:Ending)(w':World):Prop:=∃A c,e=.returned (.slice A k c)/\k<=c/\Rd w' A (ZT .u8 (zs.take k))/\YU w' r S (zs.drop k)/\w.grownBy w' (some r)/\w.heap.size=w'.heap.size/\(zs≠[]->∀a,A=some a->a.block≠r/\a.block<S)
theorem YB (w r S k)(zs:List Nat)(h:YU w r S zs)(hk:k<=zs.length): Calls prog 114 #[.pointer (some ⟨r,0,none⟩),.int .i64 k] w (ZXG zs k w r S):=by
 obtain⟨A,c,h1,h2,h3,h4⟩:=h;obtain⟨A',hsl,bB,nV⟩:=Xx underlying32 JX (A:=A) (n:=zs.length) (c:=c) (m:=zs.length - k) (d:=c - k) k (ki:=(k:Int)) rfl h2 ZB ZB;refine(ZMz w r k A zs.length c (zs.length - k) (c - k) h1 hk h2 A' hsl).mono ?_;rintro e w' ⟨rfl,rfl⟩;have hg:=Ze w r 0 (.slice A' (zs.length - k) (c - k));have hr:Rd (w.setCell ⟨r,0,none⟩ (.slice A' (zs.length - k) (c - k))) A (ZT .u8 zs):=by
  by_cases hz:zs=[]
  ·subst hz;exact Rd.nil _ _
  ·exact h3.grown hg (λa ha e=>(h4 hz a ha).1 (by injection e with e;exact e.symm))
 refine⟨A,c,rfl,by omega,?_,⟨A',c - k,?_,?_,?_,?_⟩,hg,by simp,h4⟩
 ·exact ZKF (ys:=zs.drop k) (by rw[Zfl];exact hr)
 ·rw[ZfG];exact ZR h1 0 _
 ·rw[ZfG];omega
 ·rw[Jx];exact bB _ _ (Xk _ _) hr
 ·intro hz a ha;have mY:zs≠[]:=by rintro rfl;simp at hz
  obtain⟨b,off,hA,_⟩:=h3 (by simpa[ZT]using mY);obtain⟨a',uT,hb⟩:=nV _ hA;rw[ha]at uT;injection uT with uT;subst uT;rw[hb];exact h4 mY _ hA
theorem ZBd (w r S k)(zs:List Nat)(h:YU w r S zs)(hk:zs.length<k): Calls prog 114 #[.pointer (some ⟨r,0,none⟩),.int .i64 k] w λe w'=>e=ZMu/\w=w':=by
 obtain⟨A,c,h1,h2,h3,h4⟩:=h;exact ZPb w r k A zs.length c h1 ZB
def ZXP (zs:List Nat)(w:World)(r S:Nat)(e:Ending)(w':World):Prop:=w.grownBy w' (some r)/\w.heap.size=w'.heap.size/\((8<=zs.length/\YG (zs.take 8)<=4611686018427387903/\e=.returned (.int .i64 (YG (zs.take 8):Int))/\YU w' r S (zs.drop 8))\/(¬(8<=zs.length/\YG (zs.take 8)<=4611686018427387903)/\e=ZMu))
theorem ZDP (w r S zs)(hb:∀x ∈ zs,x<256)(h:YU w r S zs): Calls prog 116 #[.pointer (some ⟨r,0,none⟩)] w (ZXP zs w r S):=by
 by_cases h8:8<=zs.length
 ·have C:=ZA (YB w r S 8 zs h h8);have AK:(zs.take 8).length=8:=by rw[ZfL];omega
  have lT:∀x ∈ zs.take 8,x<256:=λx hx=>hb x (ZfX hx);have tW:=ZA AK;have vu:=ZA lT;clear AK lT;unfold ZXP;obtain⟨ys,hys⟩:=ZX3 (zs.take 8);rw[hys]at tW vu ⊢;have Gq:=ZA hys;clear hys;go_enter func116,ntmps116;go_wp2_with fail;refine C.o.mono ?_;rintro e w1 ⟨A,c,rfl,hc,hr,hS,hg,hz,_⟩;rw[Gq.o]at hr;obtain⟨HR,HS,HG⟩:=Z8 hr hS hg;have bZ:w.heap.size=w1.heap.size:=hz;clear hr hS hg C hz;go_wp2_with fail
  go_loop [3,9] (λx i=>∃k:Nat,k<=8/\i=.int .i64 k/\x=.int .u64 ((YG (ys.take k):Nat):Int)) (λ_ i=>8 - (intOf i).toNat)
  case atStart=>exact⟨0,ZgR _,rfl,by rw[Zfs,ZHo];rfl⟩
  case round=>
   obtain⟨k,hk,rfl,rfl⟩:=hrel;by_cases ak:k<8
   ·obtain⟨x,hx⟩:=Jy (xs:=ys) (j:=k) (by rw[tW.o];exact ak);have dv:x<256:=vu.o x (ZfU hx);obtain⟨b,off,hA,hc⟩:=HR.o.at_ hx;subst hA;have cX:=ZCQ (ys.take k) (λy hy=>vu.o y (ZfX hy));have df:YG (ys.take k)<72057594037927936:=by
     refine ZgB cX ?_;rw[show(72057594037927936:Nat)=256 ^ 7 by rfl];exact ZgO ZB (by rw[ZfL,tW.o];omega)
    have Hx:=ZA hx;clear hx cX;go_wp2
    go_round
    case rel=>exact⟨k+1,by omega,by go_num,by rw[Zv Hx.o,ZD3,ZJH _ _ df dv]⟩
    case measure=>simp[intOf];omega
   ·obtain rfl:k=8:=by omega
    have e1:ys.take 8=ys:=Zfp (by rw[tW.o];omega);rw[e1];have ak:=ZC7 ys vu.o (by rw[tW.o];omega);clear e1;obtain⟨s,hsE⟩:=ZX3 (YG ys);rw[hsE]at ak ⊢;have yN:=ZA hsE;clear hsE;by_cases hs:s<=4611686018427387903
    ·have hd:decide ((s:Int)<=4611686018427387903)=true:=by simp;omega
     go_wp2_with fail;refine(ZAC _ _).mono ?_;rintro e w' ⟨rfl,rfl⟩;have zH:IntKind.i64.wrap (s:Int)=(s:Int):=by rw[Zee];omega
     go_wp2_with fail;go_ret;exact⟨HG.o,bZ,.inl ⟨h8,by rw[yN.o];exact hs,by rw[yN.o];rfl,HS.o⟩⟩
    ·have hd:decide ((s:Int)<=4611686018427387903)=false:=by simp;omega
     go_wp2_with fail;refine(ZCR _ _).mono ?_;rintro e w' ⟨rfl,rfl⟩;exact⟨rfl,HG.o,bZ,.inr ⟨λhh=>hs (by have:=hh.2;rwa [yN.o]at this),rfl⟩⟩
 ·go_enter func116,ntmps116;go_wp2_with fail;refine(ZBd w r S 8 zs h ZB).mono ?_;rintro e w' ⟨rfl,rfl⟩;exact⟨rfl,ZgX _ _,rfl,.inr ⟨λhh=>h8 hh.1,rfl⟩⟩
theorem ZCg(h:fn.results=#[.cell 2 34]){tmps:Array Value}{c d:Value}{fr:Nat × Nat}(hp:tmps.getD 2 undef=.pointer (some ⟨g,0,none⟩))(hg:w.heap[g]?=some (.cells #[a,b,c,d] t fr)): (results fn tmps).run prog w=.ok (.agg #[a,b,c,d]) w:=Zgq h tmps w g t #[a,b,c,d] fr _ hp hg underlying34 ZX0 ZC
def ZJq (op p:Nat)(xs:List Nat)(N:Nat)(rest:List Nat)(w:World)(r S:Nat)(e:Ending)(w':World):Prop:=∃A c,e=.returned (Yp (op:Int) (p:Int) A xs.length c (N:Int))/\w'.ownsRow w.heap.size 5 1 (.slice A xs.length c) xs.length (ZT .u8 xs)/\YU w' r S rest/\w.grownBy w' (some r)
def ZAb (w:World)(r:Nat)(e:Ending)(w':World):Prop:=e=ZMu/\w.grownBy w' (some r)
theorem Ym{x:Nat}{t:List Nat}(h:Rd w A (ZT .u8 (x::t))):∃b off,A=some ⟨b,off,none⟩/\w.cell? ⟨b,off,none⟩=some (.int .u8 x):=by
 obtain⟨b,off,hA,hc⟩:=h (by simp[ZT]);exact⟨b,off,hA,hc 0 _ rfl⟩
theorem JQ{a:World}(h:w.grownBy a row)(hg:w.heap.size<=g)(i u):w.grownBy (a.setCell ⟨g,i,none⟩ u) row:=⟨h.os,h.tape,h.output,by simpa using h.size,λk hk ag=>(Zgj a ⟨g,i,none⟩ k u (by simp;omega)).trans (h.block k hk ag)⟩
theorem ZCE{a:World}(h:w.grownBy a row)(hg:w.heap.size<=g)(x y z u):w.grownBy ((((a.setCell ⟨g,0,none⟩ x).setCell ⟨g,1,none⟩ y).setCell ⟨g,2,none⟩ z).setCell ⟨g,3,none⟩ u) row:=JQ (JQ (JQ (JQ h hg 0 x) hg 1 y) hg 2 z) hg 3 u
theorem ZEy(h:YU w r S zs)(hr:r<g)(hS:S<=g)(x y z u):YU ((((w.setCell ⟨g,0,none⟩ x).setCell ⟨g,1,none⟩ y).setCell ⟨g,2,none⟩ z).setCell ⟨g,3,none⟩ u) r S zs:=h.grown (ZU (ZU (ZU (Ze w g 0 x) 1 y) 2 z) 3 u) (λk hk=>by injection hk with hk;omega)
theorem ZTr (w r S)(h:YU w r S []): Calls prog 159 #[.pointer (some ⟨r,0,none⟩)] w (ZAb w r):=by
 have H:=ZA (λo:Obj=>h.ext ((ZM.refl w).alloc o));clear h;go_enter func159,ntmps159;go_wp2_with fail;refine(ZBd _ r S 1 [] (H.o _) (by decide)).mono ?_;rintro e w' ⟨rfl,rfl⟩;exact⟨rfl,rfl,YL ((ZM.refl w).alloc _) _⟩
theorem ZWk (w:World)(r S o)(aL:S<=w.heap.size)(ho:o=5\/o=6)(rest)(h:YU w r S (o::rest)): Calls prog 159 #[.pointer (some ⟨r,0,none⟩)] w (ZJq o 0 [] 0 rest w r S):=by
 have q1:((o:Int)==1)=false:=by rw[Zgb];omega
 have q2:((o:Int)==2)=false:=by rw[Zgb];omega
 have q3:((o:Int)==3)=false:=by rw[Zgb];omega
 have q4:((o:Int)==4)=false:=by rw[Zgb];omega
 have q5:((o:Int)==5)=true\/(((o:Int)==5)=false/\((o:Int)==6)=true):=by
  rcases ho with h|h
  ·left;rw[Zgc];omega
  ·right;exact⟨by rw[Zgb];omega,by rw[Zgc];omega⟩
 have hr:=h.lt;have H:=ZA (λo:Obj=>h.ext ((ZM.refl w).alloc o));clear h ho;rcases q5 with q5|⟨q5,q6⟩
 all_goals
  go_enter func159,ntmps159;go_wp2_with fail;refine(YB _ r S 1 _ (H.o _) ZXz).mono ?_;rintro e w1 ⟨A,c,rfl,hc,hR,hS,hg,hz,cw⟩;obtain⟨b,off,rfl,bq⟩:=Ym hR;have K2:=ZA (Zl (ZV w _) hg ZB);have HS:=ZA hS;have HG:=ZA hg;rw[Zga]at hz;clear hR hS hg;go_wp2_with fail;refine(ZAC _ _).mono ?_;rintro e w' ⟨rfl,rfl⟩;have k0:=ZI (ZE K2.o 0);have k1:=ZI (ZE K2.o 1);have k2:=ZI (ZE K2.o 2);have k3:=ZI (ZE K2.o 3);have f0:=ZAl K2.o 0;have f1:=ZAl K2.o 1;have f2:=ZAl K2.o 2;have f3:=ZAl K2.o 3;go_wp2_with fail;refine Zgd (ZCg rfl rfl (ZBA (ZQ K2.o _) _ _ _ _)) rfl ?_;exact⟨none,0,rfl,ZgZ _ _ _ _,ZEy (HS.o.ext ((ZM.refl w1).alloc _)) ZB aL _ _ _ _,ZCE (Zq (World.grown_trans (YL ((ZM.refl w).alloc _) _) HG.o) _) (Zf6 _) _ _ _ _⟩
theorem JR{p:Addr}{i:Nat}{u:Value}(h:w.cell? p=some v)(ag:p.block≠g):(w.setCell ⟨g,i,none⟩ u).drew.cell? p=some v:=Zd h ag
theorem Yf{o:Obj}(h:w.heap[g]?=some o)(hg:w.grownBy w' (some r))(ag:g≠r):w'.heap[g]?=some o:=Zl h hg ag
theorem ZAg{B:Nat}{xs:List Value}(h:w.ownsRow B e 1 (.slice A n c) n xs)(hg:g<B)(x y z u):((((w.setCell ⟨g,0,none⟩ x).setCell ⟨g,1,none⟩ y).setCell ⟨g,2,none⟩ z).setCell ⟨g,3,none⟩ u).ownsRow g e 1 (.slice A n c) n xs:=Zj (h.kept (ZU (ZU (ZU (Ze w g 0 x) 1 y) 2 z) 3 u) (ZAH h hg)) (Zf5 hg)
theorem ZZD {p:Prop}(h:p:=by
 have:=ZHN (P:=prog) underlying32 JX (b:=b) (off:=off) (n:=n) (c:=c) (m:=8) (d:=c - (3+k)) (3+k) (by have:=iW.o;omega) (by have:=iW.o;omega) (by have:=iW.o;omega) ZB u;rwa [show((3+k:Nat):Int)=3+(k:Int) by omega]at this):p:=h
theorem ZYe {p:Prop}(h:p:=by
 first|(obtain -:=T1;obtain⟨rfl,rfl,A4,c4,hC,ho,gz,hR⟩:=hcut;obtain⟨KC,Ho,KR⟩:=Z8 hC ho hR)|(obtain⟨A3,c3,hC,hR,ho,hS,hG⟩:=hcut;obtain⟨KC,KR,Ho,HSc,qF⟩:=ZBR hC hR ho hS hG;clear hC hR ho hS hG)
 have c0:=ZE KC.out 0;have c1:=ZE KC.out 1;have c2:=ZE KC.out 2;have c3:=ZE KC.out 3;have k0:=ZE KR.o 0;have k1:=ZE KR.o 1;have k2:=ZE KR.o 2;have k3:=ZE KR.o 3;have f0:=ZG KR.o 0;have f1:=ZG KR.o 1;have f2:=ZG KR.o 2;have f3:=ZG KR.o 3;first
 |obtain -:=T2;have e0:=ZF gz C0.o;clear hC ho hR T s1;first
  |obtain -:=V13;go_wp2_with fail;refine Zgd (Ye rfl rfl (ZBA KR.o _ _ _ _)) rfl ?_;exact ZJ8 (op:=2) (p:=p) (N:=0) Hk.o (ZAg (Zj (base':=w.heap.size+1) Ho.o ZB) ZB _ _ _ _) (Xn gz (Zf6 _) _ _ _ _)
  |obtain -:=V14;have h8:m=8:=by rw[<-Hm.o];exact H8.o
   have ag:((n:Int) !=3+(k:Int)+8)=false:=by have:=iW.o;simp;omega
   have sm:∀u:World,(Instr.slice 32 (.slice (some ⟨b,off,none⟩) n c) (some (.int .i64 (3+(k:Int)))) none none).run prog u=.ok (.slice (some ⟨b,off+(3+k),none⟩) 8 (c - (3+k))) u:=λu=>by
    exact ZZD
   have N1:=ZA (ZAh wc (some ⟨b,off+(3+k),none⟩) 8 (c - (3+k)) us (by rw[Hm.o];exact h8) ZB Hb.o (R2.o.ext gz));have hd:decide (4611686018427387903<(YG us:Int))=false:=by simp;omega
   have hw:IntKind.i64.wrap (YG us:Int)=(YG us:Int):=by rw[Zee];omega
   have g3:=ZG KC.out 3;clear h8;go_wp2_with fail;refine N1.o.mono ?_;rintro e w5 ⟨rfl,rfl⟩;go_wp2_with fail;refine N1.o.mono ?_;rintro e w5 ⟨rfl,rfl⟩;have gk:¬w.heap.size=w.heap.size+1:=by omega
   have yH:=ZA (ZR KC.out 3 (.int .i64 (YG us:Int)));have bR:=ZA (Yf KR.o (Ze wc (w.heap.size+1) 3 (.int .i64 (YG us:Int))) ZB);have vq:=ZA (Ho.o.kept (Ze wc (w.heap.size+1) 3 (.int .i64 (YG us:Int))) (ZAH Ho.o ZB));have fU:=Yr gz (Ze wc (w.heap.size+1) 3 (.int .i64 (YG us:Int))) ZB;go_upto_region 20 with fail;obtain⟨W3,hW3⟩:=ZX3 (wc.setCell ⟨w.heap.size+1,3,none⟩ (.int .i64 (YG us:Int)));rw[hW3]at yH bR vq fU ⊢;have bH:ZD (W3.heap[w.heap.size+1]?=some (.cells #[.int .u8 1,.int .i64 p,.slice A4 k c4,.int .i64 (YG us:Int)] 34 (0,0))):=yH.o;clear hW3 c0 c1 c2 c3 k0 k1 k2 k3 f0 f1 f2 f3 g3 KC KR Ho N1 yH e0 sm;have c0:=ZE bH.o 0;have c1:=ZE bH.o 1;have c2:=ZE bH.o 2;have c3:=ZE bH.o 3;have k0:=ZE bR.o 0;have k1:=ZE bR.o 1;have k2:=ZE bR.o 2;have k3:=ZE bR.o 3;have f0:=ZG bR.o 0;have f1:=ZG bR.o 1;have f2:=ZG bR.o 2;have f3:=ZG bR.o 3;go_wp2_with fail;refine Zgd (Ye rfl rfl (ZBA bR.o _ _ _ _)) rfl ?_;exact ZJ8 (op:=1) (p:=p) (N:=YG us) Hk.o (ZAg (Zj (base':=w.heap.size+1) vq.o ZB) ZB _ _ _ _) (Xn fU (Zf6 _) _ _ _ _)
  |obtain -:=V15;by_cases h8:m=8
   ·have ag:((n:Int) !=3+(k:Int)+8)=false:=by have:=iW.o;simp;omega
    have xS:4611686018427387903<YG us:=by
     rcases qr.o with h|h
     ·exact absurd (by rw[Hm.o];exact h8) h
     ·exact h
    have sm:∀u:World,(Instr.slice 32 (.slice (some ⟨b,off,none⟩) n c) (some (.int .i64 (3+(k:Int)))) none none).run prog u=.ok (.slice (some ⟨b,off+(3+k),none⟩) 8 (c - (3+k))) u:=λu=>by
     exact ZZD
    have N1:=ZA (ZAh wc (some ⟨b,off+(3+k),none⟩) 8 (c - (3+k)) us (by rw[Hm.o];exact h8) ZB Hb.o (R2.o.ext gz));have hd:decide (4611686018427387903<(YG us:Int))=true:=by simp;omega
    clear h8 xS;go_wp2_with fail;refine N1.o.mono ?_;rintro e w5 ⟨rfl,rfl⟩;go_wp2_with fail;refine Zgd (Ye rfl rfl (ZBA KR.o _ _ _ _)) rfl ?_;exact⟨_,_,_,_,_,_,rfl,Xn gz (Zf6 _) _ _ _ _⟩
   ·have ag:((n:Int) !=3+(k:Int)+8)=true:=by have:=iW.o;simp;omega
    clear h8;go_wp2_with fail;refine Zgd (Ye rfl rfl (ZBA KR.o _ _ _ _)) rfl ?_;exact⟨_,_,_,_,_,_,rfl,Xn gz (Zf6 _) _ _ _ _⟩
  |go_wp2_with fail;refine Zgd (Ye rfl rfl (ZBA KR.o _ _ _ _)) rfl ?_;exact ZJ8 (op:=4) (p:=p) (N:=0) Hk.o (ZAg (Zj (base':=w.heap.size+1) Ho.o ZB) ZB _ _ _ _) (Xn gz (Zf6 _) _ _ _ _)
 |go_wp2_with fail;refine Zgd (ZCg rfl rfl (ZBA KR.o _ _ _ _)) rfl ?_;exact⟨A3,_,rfl,ZAg Ho.o ZB _ _ _ _,ZEy HSc.o ZB aL _ _ _ _,ZCE qF.o (Zf6 _) _ _ _ _⟩):p:=h
theorem QR {p:Prop}(h:p:=by
 first
 |obtain -:=V1;have q1:((o:Int)==1)=false:=by rw[Zgb];omega
  have q2:((o:Int)==2)=false:=by rw[Zgb];omega
  have q3:((o:Int)==3)=false:=by rw[Zgb];omega
  have q4:((o:Int)==4)=false:=by rw[Zgb];omega
  have q5:((o:Int)==5)=false:=by rw[Zgb];omega
  have q6:((o:Int)==6)=false:=by rw[Zgb];omega
 |skip
 have hr:=h.lt;have H:=ZA (λo:Obj=>h.ext ((ZM.refl w).alloc o));first|(obtain -:=V2;clear h;have Hb:=ZA hb;have qr:=ZA cd;clear hb cd)|(obtain -:=V3;clear h;have HL:=ZA (ZA6 p xs N);have Hb:=ZA hb;clear hb)|(obtain -:=V4;clear h ho)|clear h
 go_enter func159,ntmps159;go_wp2_with fail;refine(YB _ r S 1 _ (H.o _) ZXz).mono ?_;rintro e w1 ⟨A,c,rfl,hc,hR,hS,hg,hz,cw⟩;obtain⟨b,off,rfl,bq⟩:=Ym hR;first|(obtain -:=V5;have HS:=ZA (show YU w1 r S ts from hS))|(obtain -:=V6;have K2:=ZA (Zl (ZV w _) hg ZB);have HS:=ZA (show YU w1 r S (Xm p xs N)from hS))|(obtain -:=V7)|have HS:=ZA (show YU w1 r S (z)from hS)
 have HG:=ZA hg;first
 |obtain -:=V8;rw[Zga]at hz;clear hR hS hg;obtain⟨A1,c1,cW,_,_,_⟩:=HS.o;have h0:=ZI (ZE cW 0);clear cW;go_wp2_with fail;refine(YB _ r S ts.length _ (HS.o.ext ((ZM.refl w1).alloc _)) (Zf6 _)).mono ?_;rintro e w2 ⟨A2,c2,rfl,dA,cG,hS2,aA,aS,aR⟩;rw[Zfo]at cG;have sU:=World.grown_trans (Zq (World.grown_trans (YL ((ZM.refl w).alloc (.cells #[.int .u8 0,.int .i64 0,.slice none 0 0,.int .i64 0] 34)) (some r)) HG.o) _) aA;have eH:=ZA sU;have C:=ZA (ZMQ w2 A2 ts.length c2 ts rfl Hb.o cG dA hl qr.o);clear hS2 aA sU cG h0 HS bq;go_wp2_with fail;refine C.o.mono ?_;rintro e w3 ⟨rfl,cI⟩;have gG:=ZA (ZAV eH.o cI);clear eH C;go_wp2_with fail;refine(ZCR _ _).mono ?_;rintro e w' ⟨rfl,rfl⟩;exact⟨rfl,rfl,Zq gG.o _⟩
 |obtain -:=V9;rw[Zga]at hz;clear hR hS hg;go_upto_block 0 with fail;go_cut [6] (λ_ wd=>ZG1 3 p xs N [] w r S w1.heap.size wd);case first=>
   obtain⟨A1,c1,cW,_,_,_⟩:=HS.o;have h0:=ZI (ZE cW 0);clear cW;go_wp2_with fail;refine(YB _ r S (Xm p xs N).length _ (HS.o.ext ((ZM.refl w1).alloc _)) (Zf6 _)).mono ?_;rintro e w2 ⟨A2,c2,rfl,dA,cG,hS2,aA,aS,aR⟩;rw[Zfo]at cG;rw[List.drop_length]at hS2;rw[Zga]at aS;have K3:=ZA (Zl (ZV w1 _) aA ZB);have od:=ZA (Zl (ZQ K2.o _) aA ZB);have fO:=ZA hS2;have sU:=World.grown_trans (Zq (World.grown_trans (YL ((ZM.refl w).alloc (.cells #[.int .u8 0,.int .i64 0,.slice none 0 0,.int .i64 0] 34)) (some r)) HG.o) _) aA;have eH:=ZA sU;have C:=ZA (ZRR w2 p N xs.length A2 (Xm p xs N).length c2 xs rfl HL.o Hb.o cG dA h1 h2 hp hx);clear hS2 aA sU cG h0 HS K2 bq;go_wp2_with fail;refine C.o.mono ?_;rintro e w3 ⟨A3,c3,rfl,hown3,cI⟩;have BU:=ZA (ZK K3.o cI);have K2:=ZA (ZK od.o cI);have jZ:=ZA (fO.o.ext cI);have gG:=ZA (ZAV eH.o cI);have dH:=ZA hown3;have gL:w2.heap.size<=w3.heap.size:=cI.size;clear hown3 fO eH K3 od C;go_wp2_with fail;refine(ZAC _ _).mono ?_;rintro e w' ⟨rfl,rfl⟩;obtain⟨W,hW,gI,-⟩:=Za w3 (.cells #[.int .i64 p,.slice A3 xs.length c3,.int .i64 N] 120);have KT:ZD (W.heap[w3.heap.size]?=some (.cells #[.int .i64 p,.slice A3 xs.length c3,.int .i64 N] 120 (0,0))):=by rw[<-hW];exact ZV _ _
   have KC:=ZA (ZK BU.o gI);have KR:=ZA (ZK K2.o gI);have Hw:=ZA (jZ.o.ext gI);have fP:=ZA (ZAV gG.o gI);have tU:=ZA (Z5 dH.o gI);rw[hW];clear hW gI BU K2 jZ gG dH;have t0:=ZE KT.o 0;have t1:=ZE KT.o 1;have t2:=ZE KT.o 2;have u0:=ZE KC.out 0;have u1:=ZE KC.out 1;have u2:=ZE KC.out 2;have u3:=ZE KC.out 3;have f0:=ZG KC.out 0;have f1:=ZG KC.out 1;have f2:=ZG KC.out 2;have f3:=ZG KC.out 3;have ag:w3.heap.size≠w1.heap.size:=by omega
   go_upto_region 7 with fail;go_region_held3 (λw'=>w'.cell? ⟨w3.heap.size,0,none⟩=some (.int .i64 p)/\w'.cell? ⟨w3.heap.size,1,none⟩=some (.slice A3 xs.length c3)/\w'.cell? ⟨w3.heap.size,2,none⟩=some (.int .i64 N)) (((try go_split_ands);refine⟨?_,?_,?_⟩<;>first|exact JR (by assumption) ag|exact Zd (by assumption) ag|assumption)) (fail);go_wp2_with fail;go_meet;have hG:=ZAL (ZU (ZU (Ze W w1.heap.size 1 (.int .i64 p)) 2 (.slice A3 xs.length c3)) 3 (.int .i64 N));exact⟨A3,c3,ZR (ZR (ZR KC.out 1 _) 2 _) 3 _,Yf KR.o hG ZB,Zj (tU.o.kept hG (ZAH tU.o ZB)) ZB,Hw.o.grown hG (λk hk=>by injection hk with hk;omega),JJ fP.o hG ZB⟩
  case rest=>
   exact ZYe
 |obtain -:=V10;clear hR hS hg hz;go_wp2_with fail;refine(ZCR _ _).mono ?_;rintro e w' ⟨rfl,rfl⟩;exact⟨rfl,rfl,Zq (World.grown_trans (YL ((ZM.refl w).alloc _) _) HG.o) _⟩
 |rw[Zga]at hz;clear hR hS hg cw;have dO:=ZA (λo:Obj=>Zq (World.grown_trans (YL ((ZM.refl w).alloc (.cells #[.int .u8 0,.int .i64 0,.slice none 0 0,.int .i64 0] 34)) (some r)) HG.o) o);go_wp2_with fail;refine(ZBd _ r S 2 _ (HS.o.ext ((ZM.refl w1).alloc _)) ah).mono ?_;rintro e w' ⟨rfl,rfl⟩;exact⟨rfl,rfl,dO.o _⟩):p:=h
theorem ZVe (w:World)(r S o)(fg:S<=w.heap.size)(ho:o=0\/7<=o)(rest)(h:YU w r S (o::rest)): Calls prog 159 #[.pointer (some ⟨r,0,none⟩)] w (ZAb w r):=by
 obtain⟨V1,V4,V7,V10⟩:=QA;exact QR
def ZG1 (op p:Nat)(xs:List Nat)(N:Nat)(rest:List Nat)(w:World)(r S g:Nat)(wd:World):Prop:=∃A c,wd.heap[g]?=some (.cells #[.int .u8 op,.int .i64 p,.slice A xs.length c,.int .i64 N] 34 (0,0))/\ wd.heap[w.heap.size]?=some (.cells #[.int .u8 0,.int .i64 0,.slice none 0 0,.int .i64 0] 34 (0,0))/\ wd.ownsRow (w.heap.size+1) 5 1 (.slice A xs.length c) xs.length (ZT .u8 xs)/\YU wd r S rest/\w.grownBy wd (some r)
theorem ZTt (w:World)(r S p N)(xs:List Nat)(aL:S<=w.heap.size)(hb:∀x ∈ xs,x<256)(hp:p<32)(h1:1<=N)(h2:N<=4611686018427387903)(hx:xs.length<=255)(h:YU w r S (3::Xm p xs N)): Calls prog 159 #[.pointer (some ⟨r,0,none⟩)] w (ZJq 3 p xs N [] w r S):=by
 obtain⟨V3,V6,V9⟩:=QA;exact QR
theorem ZRk (w:World)(r S)(ts:List Nat)(fg:S<=w.heap.size)(hb:∀x ∈ ts,x<256)(hl:ts.length<=4096)(cd:¬ZIS ts)(h:YU w r S (3::ts)): Calls prog 159 #[.pointer (some ⟨r,0,none⟩)] w (ZAb w r):=by
 obtain⟨V2,V5,V8⟩:=QA;exact QR
theorem QD {p:Prop}(h:p:=by
 have hr:=h.lt;have H:=ZA (λo:Obj=>h.ext ((ZM.refl w).alloc o));clear h;have Hb:=ZA hb;clear hb;obtain⟨k,Hk⟩:=ZX2 (xs.length);rw[Hk.o]at H hx;go_enter func159,ntmps159;go_wp2_with fail;refine(YB _ r S 1 _ (H.o _) ZXz).mono ?_;rintro e w1 ⟨A,c,rfl,hc,hR,hS,hg,hz,cw⟩;obtain⟨b,off,rfl,bq⟩:=Ym hR;have K2:=ZA (Zl (ZV w _) hg ZB);first|(obtain -:=V1;have HS:=ZA (show YU w1 r S (p::k::(xs++(Zm N 8++rest)))from hS))|have HS:=ZA (show YU w1 r S (p::k::(xs++rest))from hS)
 have HG:=ZA hg;rw[Zga]at hz;clear hR hS hg cw;go_upto_block 0 with fail;first|(obtain -:=V2;go_cut [6] (λ_ wd=>ZG1 2 p xs 0 rest w r S w1.heap.size wd))|(obtain -:=V3;go_cut [6] (λ_ wd=>ZG1 1 p xs N rest w r S w1.heap.size wd))|go_cut [6] (λ_ wd=>ZG1 4 p xs 0 rest w r S w1.heap.size wd)
 case first=>
  go_wp2_with fail;refine(YB _ r S 2 _ (HS.o.ext ((ZM.refl w1).alloc _)) ZXz).mono ?_;rintro e w2 ⟨A2,c2,rfl,dA,cG,hS2,aA,aS,aR⟩;rw[Zga]at aS;first|(obtain -:=V4;have fO:=ZA (show YU w2 r S (xs++(Zm N 8++rest))from hS2))|have fO:=ZA (show YU w2 r S (xs++rest)from hS2)
  obtain⟨b2,off2,rfl,bJ⟩:=cG (by simp[ZT]);have h0:w2.cell? ⟨b2,off2,none⟩=some (.int .u8 p):=bJ 0 _ rfl;have h1:w2.cell? ⟨b2,off2+1,none⟩=some (.int .u8 k):=bJ 1 _ rfl;obtain⟨bS,dh⟩:=aR ZXz _ rfl;have bS:b2≠r:=bS;have dh:b2<S:=dh;have K3:=ZA (Zl (ZV w1 _) aA ZB);have od:=ZA (Zl (ZQ K2.o _) aA ZB);have eH:=ZA (World.grown_trans (Zq (World.grown_trans (YL ((ZM.refl w).alloc (.cells #[.int .u8 0,.int .i64 0,.slice none 0 0,.int .i64 0] 34)) (some r)) HG.o) _) aA);clear bJ cG hS2 aA HS K2 HG aR bq;have ee:decide ((p:Int)<32)=true:=by simp;omega
  go_wp2_with fail;refine(ZAC _ _).mono ?_;rintro e w' ⟨rfl,rfl⟩;have jK:IntKind.i64.wrap (p:Int)=(p:Int):=by rw[Zee];omega
  have qH:IntKind.i64.wrap (k:Int)=(k:Int):=by rw[Zee];omega
  first|(obtain -:=V5;have C3:=ZA (YB w2.drew r S k _ (show YU w2.drew r S (xs++(Zm N 8++rest))from fO.o) (by rw[ZfE,Hk.o];omega)))|have C3:=ZA (YB w2.drew r S k _ (show YU w2.drew r S (xs++rest)from fO.o) (by rw[ZfE,Hk.o];omega))
  have bv:b2≠w1.heap.size:=by omega
  have iN:k<=140737488355328:=by omega
  have iM:w1.heap.size≠r:=by omega
  go_upto_region 13 with fail;first|(obtain -:=V6;go_cut [4] (λ_ wd=>∃A4 c4,wd.heap[w1.heap.size]?=some (.cells #[.int .u8 (2:Int),.int .i64 p,.slice A4 k c4,.int .i64 0] 34 (0,0))/\wd.ownsRow w2.heap.size 5 1 (.slice A4 k c4) k (ZT .u8 xs)/\YU wd r S (rest)/\w.grownBy wd (some r)/\wd.heap[w.heap.size]?=some (.cells #[.int .u8 0,.int .i64 0,.slice none 0 0,.int .i64 0] 34 (0,0))))|(obtain -:=V7;go_cut [4] (λ_ wd=>∃A4 c4,wd.heap[w1.heap.size]?=some (.cells #[.int .u8 (1:Int),.int .i64 p,.slice A4 k c4,.int .i64 0] 34 (0,0))/\wd.ownsRow w2.heap.size 5 1 (.slice A4 k c4) k (ZT .u8 xs)/\YU wd r S (Zm N 8++rest)/\w.grownBy wd (some r)/\wd.heap[w.heap.size]?=some (.cells #[.int .u8 0,.int .i64 0,.slice none 0 0,.int .i64 0] 34 (0,0))))|go_cut [4] (λ_ wd=>∃A4 c4,wd.heap[w1.heap.size]?=some (.cells #[.int .u8 (4:Int),.int .i64 p,.slice A4 k c4,.int .i64 0] 34 (0,0))/\wd.ownsRow w2.heap.size 5 1 (.slice A4 k c4) k (ZT .u8 xs)/\YU wd r S (rest)/\w.grownBy wd (some r)/\wd.heap[w.heap.size]?=some (.cells #[.int .u8 0,.int .i64 0,.slice none 0 0,.int .i64 0] 34 (0,0)))
  case first=>
   go_region_held3 (λw'=>w'.cell? ⟨b2,off2,none⟩=some (.int .u8 p)/\w'.cell? ⟨b2,off2+1,none⟩=some (.int .u8 k)) (((try go_split_ands);refine⟨?_,?_⟩<;>first|assumption|exact JR (by assumption) bv|exact Zd (by assumption) bv))
    (first
     |(go_at_call 114;refine C3.o.mono ?_;rintro e w3 ⟨A3,c3,rfl,hc3,iU,hS3,dR,mX,_⟩;have s0:w3.cell? ⟨b2,off2,none⟩=some (.int .u8 p):=(dR.cell_far ⟨b2,off2,none⟩ (ZgT w2 _ h0) (λe=>bS (by injection e))).trans h0;have s1:w3.cell? ⟨b2,off2+1,none⟩=some (.int .u8 k):=(dR.cell_far ⟨b2,off2+1,none⟩ (ZgT w2 _ h1) (λe=>bS (by injection e))).trans h1;rw[Zfn Hk.o]at iU;rw[Zeq Hk.o]at hS3;obtain⟨qz,jZ,gG⟩:=Z8 iU hS3 dR;clear iU hS3 dR)
     |(go_at_call 67;refine(ZBW A3 k c3 xs w3 Hk.o iN qz.o).mono ?_;rintro e w4 ⟨A4,c4,rfl,ay,ba⟩;rw[Hk.o]at ay ⊢;have t0:=ZF ba s0;have t1:=ZF ba s1;have bH:=ZA (ZK (Zl (show w2.drew.heap[w1.heap.size]?=_ from K3.o) gG.o iM) ba);have u1:=ZE bH.o 1;have u2:=ZE bH.o 2;have f1:=ZG bH.o 1;have f2:=ZG bH.o 2;have cE:=ZA ay;have eu:=ZA ba;clear ay ba))
   all_goals
    go_wp2_with fail
    go_meet
    have hG:=ZU (Ze w4 w1.heap.size 1 (.int .i64 p)) 2 (.slice A4 k c4);have gL:w2.heap.size=w3.heap.size:=mX;have nT:w2.grownBy w3 (some r):=XC gG.o;have qg:=ZAV (World.grown_trans eH.o nT) eu.o;have cB:w4.ownsRow w2.heap.size 5 1 (.slice A4 k c4) k (ZT .u8 xs):=Zj cE.o ZB;exact⟨A4,c4,ZR (ZR bH.o 1 _) 2 _,cB.kept hG (ZAH cB ZB),(jZ.o.ext eu.o).grown hG (λk hk=>by injection hk with hk;omega),JJ qg hG ZB,Yf (ZK (Yf od.o nT ZB) eu.o) hG ZB⟩
  case rest=>
   obtain⟨A4,c4,hC,ho,jU,hGx,hR⟩:=hcut;obtain⟨KC,Ho,qw,qE,KR⟩:=ZBR hC ho jU hGx hR;have g0:=ZE KC.out 0;clear hC ho jU hGx hR h0 h1;first
   |obtain -:=V8;have qO:(Zm N 8++rest).take 8=Zm N 8:=Zfn (Z4 N 8);have uP:(Zm N 8++rest).drop 8=rest:=Zeq (Z4 N 8);have uI:YG (Zm N 8)=N:=by rw[Jm];exact ZgF (ZgA hN (by decide))
    have tp:∀x ∈ Zm N 8++rest,x<256:=λx hx=>by
     rcases ZfN.1 hx with hx|hx
     ·exact JM _ _ x hx
     ·exact xQ x hx
    have C5:=ZA (ZDP wc r S (Zm N 8++rest) tp qw.o);clear tp
   |skip
   go_wp2_with fail;first
   |obtain -:=V9;refine C5.o.mono ?_;rintro e w5 ⟨jh,hz5,hh⟩;rw[qO,uP,uI]at hh;rcases hh with⟨_,_,rfl,hS5⟩|⟨cd,_⟩
    ·have yG:=ZA (Yf KC.out jh ZB);have qy:=ZA hS5;have zu:=ZA jh;have u3:=ZE yG.o 3;have f3:=ZG yG.o 3;clear hS5 jh qO uP uI g0 C5;go_wp2_with fail;go_meet;have hG:=Ze w5 w1.heap.size 3 (.int .i64 N);have cB:=Ho.o.kept zu.o (ZAH Ho.o ZB);refine⟨A4,c4,?_,Yf (Yf KR.o zu.o ZB) hG ZB,?_,qy.o.grown hG (λk hk=>by injection hk with hk;omega),JJ (World.grown_trans qE.o zu.o) hG ZB⟩
     ·rw[Hk.o];exact ZR yG.o 3 _
     ·rw[Hk.o];exact Zj (cB.kept hG (ZAH cB ZB)) ZB
    ·exact absurd ⟨by rw[ZfE,Z4];omega,hN⟩ cd
   |go_meet;refine⟨A4,c4,?_,KR.o,?_,qw.o,qE.o⟩
    ·rw[Hk.o];exact KC.out
    ·rw[Hk.o];exact Zj Ho.o ZB
 case rest=>
  exact ZYe):p:=h
theorem ZTu (w:World)(r S p)(xs rest:List Nat)(aL:S<=w.heap.size)(hb:∀x ∈ xs,x<256)(hp:p<32)(hx:xs.length<=255)(h:YU w r S (2::p::xs.length::(xs++rest))): Calls prog 159 #[.pointer (some ⟨r,0,none⟩)] w (ZJq 2 p xs 0 rest w r S):=by
 obtain⟨V2,V6⟩:=QA;exact QD
theorem ZTs (w:World)(r S p)(xs rest:List Nat)(aL:S<=w.heap.size)(hb:∀x ∈ xs,x<256)(hp:p<32)(hx:xs.length<=255)(h:YU w r S (4::p::xs.length::(xs++rest))): Calls prog 159 #[.pointer (some ⟨r,0,none⟩)] w (ZJq 4 p xs 0 rest w r S):=QD
theorem ZTv (w:World)(r S p N)(xs rest:List Nat)(aL:S<=w.heap.size)(hb:∀x ∈ xs,x<256)(hp:p<32)(hx:xs.length<=255)(hN:N<=4611686018427387903)(xQ:∀x ∈ rest,x<256)(h:YU w r S (1::p::xs.length::(xs++(Zm N 8++rest)))): Calls prog 159 #[.pointer (some ⟨r,0,none⟩)] w (ZJq 1 p xs N rest w r S):=by
 obtain⟨V1,V3,V4,V5,V7,V8,V9⟩:=QA;exact QD
theorem ZHl {p:Prop}{w:World}(h:p):wpAny prog .text #[] (λ_ _ _=>True) 0 #[] {tmps:=#[],defers:=[]} w->p:=λ_=>h
theorem ZJj (w:World)(r S)(z:List Nat)(fg:S<=w.heap.size)(ah:z.length<2)(h:YU w r S (1::z)): Calls prog 159 #[.pointer (some ⟨r,0,none⟩)] w (ZAb w r):=QR
theorem QE {p:Prop}(h:p:=by
 have hr:=h.lt;have H:=ZA (λo:Obj=>h.ext ((ZM.refl w).alloc o));clear h;first|(obtain -:=V1;obtain⟨Hk,Hub,qr⟩:=Z8 Aj po cd;clear Aj po cd)|skip
 go_enter func159,ntmps159;go_wp2_with fail;refine(YB _ r S 1 _ (H.o _) ZXz).mono ?_;rintro e w1 ⟨A,c,rfl,hc,hR,hS,hg,hz,cw⟩;obtain⟨b,off,rfl,bq⟩:=Ym hR;first|(obtain -:=V2;have HS:=ZA (show YU w1 r S (p::k::(xs++u))from hS))|have HS:=ZA (show YU w1 r S (p::k::t)from hS)
 have HG:=ZA hg;rw[Zga]at hz;clear hR hS hg cw;have dO:=ZA (λo:Obj=>Zq (World.grown_trans (YL ((ZM.refl w).alloc (.cells #[.int .u8 0,.int .i64 0,.slice none 0 0,.int .i64 0] 34)) (some r)) HG.o) o);go_wp2_with fail;refine(YB _ r S 2 _ (HS.o.ext ((ZM.refl w1).alloc _)) ZXz).mono ?_;rintro e w2 ⟨A2,c2,rfl,dA,cG,hS2,aA,aS,aR⟩;rw[Zga]at aS;first|(obtain -:=V3;have fO:=ZA (show YU w2 r S (xs++u)from hS2))|have fO:=ZA (show YU w2 r S (t)from hS2)
 obtain⟨b2,off2,rfl,bJ⟩:=cG (by simp[ZT]);have h0:w2.cell? ⟨b2,off2,none⟩=some (.int .u8 p):=bJ 0 _ rfl;have h1:w2.cell? ⟨b2,off2+1,none⟩=some (.int .u8 k):=bJ 1 _ rfl;obtain⟨bS,dh⟩:=aR ZXz _ rfl;have bS:b2≠r:=bS;have dh:b2<S:=dh;have eH:=ZA (World.grown_trans (dO.o _) aA);first|(obtain -:=V4;have K3:=ZA (Zl (ZV w1 _) aA ZB))|skip
 clear bJ cG hS2 aA HS HG aR bq;first|(obtain -:=V5;have ee:decide ((p:Int)<32)=false:=by simp;omega)|have ee:decide ((p:Int)<32)=true:=by simp;omega
 go_wp2_with fail;first|(obtain -:=V6;refine(ZCR _ _).mono ?_)|refine(ZAC _ _).mono ?_
 rintro e w' ⟨rfl,rfl⟩;first
 |obtain -:=V7;have C3:=ZA (ZBd w2.drew r S k _ (show YU w2.drew r S t from fO.o) ah);have jK:IntKind.i64.wrap (p:Int)=(p:Int):=by rw[Zee];omega
  have qH:IntKind.i64.wrap (k:Int)=(k:Int):=by rw[Zee];omega
  have az:w.grownBy w2.drew (some r):=ZAL eH.o;go_upto_region 13 with fail;go_region_with (go_at_call 114;refine C3.o.mono ?_;rintro e w3 ⟨rfl,rfl⟩;refine ZHl (w:=w2) ⟨rfl,rfl,az⟩ ?_);all_goals exact trivial
 |obtain -:=V8;have bv:b2≠w1.heap.size:=by omega
  have iN:k<=140737488355328:=by omega
  have iM:w1.heap.size≠r:=by omega
  have jK:IntKind.i64.wrap (p:Int)=(p:Int):=by rw[Zee];omega
  have qH:IntKind.i64.wrap (k:Int)=(k:Int):=by rw[Zee];omega
  have C3:=ZA (YB w2.drew r S k _ (show YU w2.drew r S (xs++u)from fO.o) (by rw[ZfE,Hk.o];omega));go_upto_region 13 with fail;go_cut [4] (λ_ wd=>(∃A4 c4,wd.heap[w1.heap.size]?=some (.cells #[.int .u8 1,.int .i64 p,.slice A4 k c4,.int .i64 0] 34 (0,0)))/\YU wd r S u/\w.grownBy wd (some r));case first=>
   go_region_held3 (λw'=>w'.cell? ⟨b2,off2,none⟩=some (.int .u8 p)/\w'.cell? ⟨b2,off2+1,none⟩=some (.int .u8 k)) (((try go_split_ands);refine⟨?_,?_⟩<;>first|assumption|exact JR (by assumption) bv|exact Zd (by assumption) bv))
    (first
     |(go_at_call 114;refine C3.o.mono ?_;rintro e w3 ⟨A3,c3,rfl,hc3,iU,hS3,dR,mX,_⟩;have s0:w3.cell? ⟨b2,off2,none⟩=some (.int .u8 p):=(dR.cell_far ⟨b2,off2,none⟩ (ZgT w2 _ h0) (λe=>bS (by injection e))).trans h0;have s1:w3.cell? ⟨b2,off2+1,none⟩=some (.int .u8 k):=(dR.cell_far ⟨b2,off2+1,none⟩ (ZgT w2 _ h1) (λe=>bS (by injection e))).trans h1;rw[Zfn Hk.o]at iU;rw[Zeq Hk.o]at hS3;obtain⟨qz,jZ,gG⟩:=Z8 iU hS3 dR;clear iU hS3 dR)
     |(go_at_call 67;refine(ZBW A3 k c3 xs w3 Hk.o iN qz.o).mono ?_;rintro e w4 ⟨A4,c4,rfl,ay,ba⟩;rw[Hk.o]at ay ⊢;have t0:=ZF ba s0;have t1:=ZF ba s1;have bH:=ZA (ZK (Zl (show w2.drew.heap[w1.heap.size]?=_ from K3.o) gG.o iM) ba);have u1:=ZE bH.o 1;have u2:=ZE bH.o 2;have f1:=ZG bH.o 1;have f2:=ZG bH.o 2;have eu:=ZA ba;clear ay ba))
   all_goals
    go_wp2_with fail
    go_meet
    have hG:=ZU (Ze w4 w1.heap.size 1 (.int .i64 p)) 2 (.slice A4 k c4);have qg:=ZAV (World.grown_trans eH.o (XC gG.o)) eu.o;exact⟨⟨A4,c4,ZR (ZR bH.o 1 _) 2 _⟩,(jZ.o.ext eu.o).grown hG (λk hk=>by injection hk with hk;omega),JJ qg hG ZB⟩
  case rest=>
   obtain⟨⟨A4,c4,hC⟩,jU,hGx⟩:=hcut;obtain⟨KC,qw,qE⟩:=Z8 hC jU hGx;have g0:=ZE KC.out 0;clear hC jU hGx h0 h1;have C5:=ZA (ZDP wc r S u Hub.o qw.o);go_wp2_with fail;refine C5.o.mono ?_;rintro e w5 ⟨jh,hz5,hh⟩;rcases hh with⟨h5,h6,_,_⟩|⟨_,rfl⟩
   ·exact absurd ⟨h5,h6⟩ qr.o
   ·exact⟨rfl,rfl,World.grown_trans qE.o jh⟩
 |exact⟨rfl,rfl,eH.o⟩):p:=h
theorem ZRn (w:World)(r S p k t)(fg:S<=w.heap.size)(hp:32<=p)(h:YU w r S (1::p::k::t)): Calls prog 159 #[.pointer (some ⟨r,0,none⟩)] w (ZAb w r):=by
 obtain⟨V5,V6⟩:=QA;exact QE
theorem ZRp (w:World)(r S p k)(t:List Nat)(fg:S<=w.heap.size)(hp:p<32)(hk:k<256)(ah:t.length<k)(h:YU w r S (1::p::k::t)): Calls prog 159 #[.pointer (some ⟨r,0,none⟩)] w (ZAb w r):=by
 obtain⟨V7,_⟩:=QA;exact QE
theorem ZJi (w:World)(r S)(z:List Nat)(fg:S<=w.heap.size)(ah:z.length<2)(h:YU w r S (2::z)): Calls prog 159 #[.pointer (some ⟨r,0,none⟩)] w (ZAb w r):=QR
theorem ZRl (w:World)(r S p k t)(fg:S<=w.heap.size)(hp:32<=p)(h:YU w r S (2::p::k::t)): Calls prog 159 #[.pointer (some ⟨r,0,none⟩)] w (ZAb w r):=by
 obtain⟨V5,V6⟩:=QA;exact QE
theorem ZRm (w:World)(r S p k)(t:List Nat)(fg:S<=w.heap.size)(hp:p<32)(hk:k<256)(ah:t.length<k)(h:YU w r S (2::p::k::t)): Calls prog 159 #[.pointer (some ⟨r,0,none⟩)] w (ZAb w r):=by
 obtain⟨V7,_⟩:=QA;exact QE
theorem ZJh (w:World)(r S)(z:List Nat)(fg:S<=w.heap.size)(ah:z.length<2)(h:YU w r S (4::z)): Calls prog 159 #[.pointer (some ⟨r,0,none⟩)] w (ZAb w r):=QR
theorem ZRi (w:World)(r S p k t)(fg:S<=w.heap.size)(hp:32<=p)(h:YU w r S (4::p::k::t)): Calls prog 159 #[.pointer (some ⟨r,0,none⟩)] w (ZAb w r):=by
 obtain⟨V5,V6⟩:=QA;exact QE
theorem ZRj (w:World)(r S p k)(t:List Nat)(fg:S<=w.heap.size)(hp:p<32)(hk:k<256)(ah:t.length<k)(h:YU w r S (4::p::k::t)): Calls prog 159 #[.pointer (some ⟨r,0,none⟩)] w (ZAb w r):=by
 obtain⟨V7,_⟩:=QA;exact QE
theorem ZRo (w:World)(r S p k)(xs u:List Nat)(fg:S<=w.heap.size)(hp:p<32)(hk:k<256)(Aj:xs.length=k)(po:∀x ∈ u,x<256)(cd:¬(8<=u.length/\YG (u.take 8)<=4611686018427387903))(h:YU w r S (1::p::k::(xs++u))): Calls prog 159 #[.pointer (some ⟨r,0,none⟩)] w (ZAb w r):=by
 obtain⟨V1,V2,V3,V4,V8⟩:=QA;exact QE
def ZBK (zs:List Nat)(op p:Nat)(xs:List Nat)(N:Nat)(rest:List Nat):Prop:=ZBr op p xs N/\zs=JN op p xs N++rest/\(op=3->rest=[])
theorem ZHU (p)(xs:List Nat)(N):JN 1 p xs N=1::p::xs.length::(xs++Zm N 8):=rfl
theorem ZFl (p)(xs:List Nat)(N):JN 2 p xs N=2::p::xs.length::xs:=by simp[JN]
theorem ZFk (p)(xs:List Nat)(N):JN 4 p xs N=4::p::xs.length::xs:=by simp[JN]
theorem ZWS(h1:p<32)(h2:xs.length<=255)(h3:N<=4611686018427387903)(hb:∀x ∈ xs,x<256):ZBr 1 p xs N:=⟨⟨by omega,by omega,λ_=>⟨h1,h2⟩,λ_=>h3,λh=>by omega⟩,hb,λh=>by omega,λh=>by omega⟩
theorem ZUy(ho:o=2\/o=4)(h1:p<32)(h2:xs.length<=255)(hb:∀x ∈ xs,x<256):ZBr o p xs 0:=⟨⟨by omega,by omega,λ_=>⟨h1,h2⟩,λh=>by omega,λh=>by omega⟩,hb,λh=>by omega,λ_=>rfl⟩
theorem ZUx(ho:o=5\/o=6):ZBr o 0 [] 0:=⟨⟨by omega,by omega,λh=>by omega,λh=>by omega,λh=>by omega⟩,by simp,λ_=>⟨rfl,rfl,rfl⟩,λ_=>rfl⟩
theorem ZC4(ho:o=5\/o=6)(p xs N):JN o p xs N=[o]:=by unfold JN;rw[Zgk ZB,Zgl ho]
theorem ZHT (p xs N):JN 3 p xs N=3::Xm p xs N:=rfl
theorem ZRh (zs op p xs N rest)(hb:∀x ∈ zs,x<256)(h:ZBK zs op p xs N rest)(w:World)(r S)(hS:S<=w.heap.size)(hw:YU w r S zs): Calls prog 159 #[.pointer (some ⟨r,0,none⟩)] w (ZJq op p xs N rest w r S):=by
 obtain⟨⟨⟨h1,h2,h3,h4,h5⟩,cz,h6,h7⟩,rfl,h8⟩:=h;have kO:op=1\/op=2\/op=3\/op=4\/(op=5\/op=6):=by omega
 rcases kO with rfl|rfl|rfl|rfl|h56
 ·obtain⟨hp,hx⟩:=h3 ZB;rw[ZHU]at hw hb;refine ZTv w r S p N xs rest hS cz hp hx (h4 rfl) (λx hx=>hb x (by simp[hx])) ?_;simpa using hw
 ·obtain⟨hp,hx⟩:=h3 ZB;obtain rfl:=h7 (.inl rfl);rw[ZFl]at hw;exact ZTu w r S p xs rest hS cz hp hx (by simpa using hw)
 ·obtain⟨hp,hx⟩:=h3 ZB;obtain rfl:=h8 rfl;rw[ZHT]at hw;obtain⟨k1,k2⟩:=h5 rfl;exact ZTt w r S p N xs hS cz hp k1 k2 hx (by simpa using hw)
 ·obtain⟨hp,hx⟩:=h3 ZB;obtain rfl:=h7 (.inr rfl);rw[ZFk]at hw;exact ZTs w r S p xs rest hS cz hp hx (by simpa using hw)
 ·obtain⟨rfl,rfl,rfl⟩:=h6 ZB;rw[ZC4 h56]at hw;exact ZWk w r S op hS h56 rest (by simpa using hw)
theorem ZOf (zs:List Nat)(hb:∀x ∈ zs,x<256)(hl:zs.length<=4096)(h:¬∃op p xs N rest,ZBK zs op p xs N rest)(w:World)(r S)(hS:S<=w.heap.size)(hw:YU w r S zs): Calls prog 159 #[.pointer (some ⟨r,0,none⟩)] w (ZAb w r):=by
 match zs,hb,hl,h,hw with
 |[],_,_,_,hw=>exact ZTr w r S hw
 |o::z,hb,hl,h,hw=>
  have fT:∀x ∈ z,x<256:=λx hx=>hb x (by simp[hx]);by_cases ho:o=0\/7<=o
  ·exact ZVe w r S o hS ho z hw
  by_cases h56:o=5\/o=6
  ·exact absurd ⟨o,0,[],0,z,ZUx h56,by rw[ZC4 h56];rfl,λh=>by omega⟩ h
  by_cases h3:o=3
  ·subst h3;refine ZRk w r S z hS fT (by simp at hl;omega) (λht=>h ?_) hw;obtain⟨p,s,xs,hp,h1,h2,hx,cz,rfl⟩:=ht;exact⟨3,p,xs,s,[],⟨⟨by omega,by omega,λ_=>⟨hp,hx⟩,λh=>by omega,λ_=>⟨h1,h2⟩⟩,cz,λh=>by omega,λh=>by omega⟩,by rw[ZHT];simp,λ_=>rfl⟩
  have jE:o=1\/o=2\/o=4:=by omega
  match z,fT,hl,h,hw with
  |[],_,_,_,hw=>
   rcases jE with rfl|rfl|rfl
   ·exact ZJj w r S [] hS (by decide) hw
   ·exact ZJi w r S [] hS (by decide) hw
   ·exact ZJh w r S [] hS (by decide) hw
  |[a],_,_,_,hw=>
   rcases jE with rfl|rfl|rfl
   ·exact ZJj w r S [a] hS ZXz hw
   ·exact ZJi w r S [a] hS ZXz hw
   ·exact ZJh w r S [a] hS ZXz hw
  |p::k::t,fT,hl,h,hw=>
   have hk:k<256:=fT k ZXz;have qQ:∀x ∈ t,x<256:=λx hx=>fT x (by simp[hx]);by_cases hp:32<=p
   ·rcases jE with rfl|rfl|rfl
    ·exact ZRn w r S p k t hS hp hw
    ·exact ZRl w r S p k t hS hp hw
    ·exact ZRi w r S p k t hS hp hw
   by_cases ak:t.length<k
   ·rcases jE with rfl|rfl|rfl
    ·exact ZRp w r S p k t hS ZB hk ak hw
    ·exact ZRm w r S p k t hS ZB hk ak hw
    ·exact ZRj w r S p k t hS ZB hk ak hw
   have dE:(t.take k).length=k:=by rw[ZfL];omega
   have cz:∀x ∈ t.take k,x<256:=λx hx=>qQ x (ZfX hx);by_cases h1:o=1
   ·subst h1;refine ZRo w r S p k (t.take k) (t.drop k) hS ZB hk dE (λx hx=>qQ x (ZfV hx)) (λhh=>h ?_) (by rw[Zfl];exact hw);obtain⟨h8,hN⟩:=hh;refine⟨1,p,t.take k,YG ((t.drop k).take 8),(t.drop k).drop 8,ZWS ZB ZB hN cz,?_,λh=>by omega⟩;have e:Zm (YG ((t.drop k).take 8)) 8=(t.drop k).take 8:=ZG8 _ 8 _ (λx hx=>qQ x (ZfV (ZfX hx))) (by rw[ZfL];omega) rfl;rw[ZHU,e,dE];simp only[Zen,Zei,Zfl]
   ·have h24:o=2\/o=4:=by omega
    refine absurd ⟨o,p,t.take k,0,t.drop k,ZUy h24 ZB ZB cz,?_,λh=>by omega⟩ h;rcases h24 with rfl|rfl
    ·rw[ZFl,dE];simp
    ·rw[ZFk,dE];simp
theorem ZOj{ez N':Nat}{rest rest':List Nat}(h:ZBK zs op p xs N rest)(h':ZBK zs ez p' dV N' rest'):op=ez/\p=p'/\xs=dV/\N=N'/\rest=rest':=by
 obtain⟨⟨⟨h1,h2,h3,h4,h5⟩,_,h6,h7⟩,e,h8⟩:=h;obtain⟨⟨⟨g1,g2,g3,g4,g5⟩,_,g6,g7⟩,e',g8⟩:=h';rw[e]at e';have kO:op=1\/(op=2\/op=4)\/op=3\/(op=5\/op=6):=by omega
 have Fv:ez=1\/(ez=2\/ez=4)\/ez=3\/(ez=5\/ez=6):=by omega
 have hd:∀o p N (xs:List Nat),1<=o->o<=6->(JN o p xs N).head?=some o:=by
  intro o p N xs k1 k2;unfold JN
  split
  ·rename_i h;subst h;rfl
  ·split<;>rfl
 have hop:op=ez:=by
  have k1:=hd op p N xs h1 h2;have k2:=hd ez p' N' dV g1 g2;have:=Zge List.head? e';rw[List.head?_append,List.head?_append,k1,k2]at this;simpa using this
 subst hop;refine⟨rfl,?_⟩;rcases kO with rfl|h24|rfl|h56
 ·rw[ZHU,ZHU]at e';simp only[Zen,Zem,true_and,Zei]at e';obtain⟨k1,k2,k3⟩:=e';obtain⟨k4,k5⟩:=Zej k3 k2;obtain⟨k6,k7⟩:=Zej k5 (by rw[Z4,Z4]);exact⟨k1,k4,ZIt k6 (ZgA (h4 rfl) (by decide)) (ZgA (g4 rfl) (by decide)),k7⟩
 ·have k:∀p (xs:List Nat) N,JN op p xs N=op::p::xs.length::xs:=by
   intro p xs N;rcases h24 with rfl|rfl
   ·exact ZFl p xs N
   ·exact ZFk p xs N
  rw[k,k]at e';simp only[Zen,Zem,true_and]at e';obtain⟨k1,k2,k3⟩:=e';obtain⟨k4,k5⟩:=Zej k3 k2;exact⟨k1,k4,by rw[h7 h24,g7 h24],k5⟩
 ·obtain rfl:=h8 rfl;obtain rfl:=g8 rfl;rw[ZHT,ZHT]at e';simp only[Zek,Zem,true_and]at e';obtain⟨k1,k2,k3⟩:=ZK8 e' (h5 rfl).2 (g5 rfl).2;exact⟨k1,k2,k3,rfl⟩
 ·obtain⟨rfl,rfl,rfl⟩:=h6 ZB;obtain⟨rfl,rfl,rfl⟩:=g6 ZB;rw[ZC4 h56]at e';exact⟨rfl,rfl,rfl,by simpa using e'⟩
theorem ZFW:ZIT zs↔∃op p xs N,ZBK zs op p xs N []:=by
 constructor
 ·rintro⟨op,p,xs,N,h,e⟩;exact⟨op,p,xs,N,h,by simpa using e,λ_=>rfl⟩
 ·rintro⟨op,p,xs,N,h,e,_⟩;exact⟨op,p,xs,N,h,by simpa using e⟩
theorem ZGE (w:World)(ec v gH)(he:w.heap[ec]?=some (.cells #[v] 29 (0,0))): CallsD prog 162 #[.pointer (some ⟨ec,0,none⟩)] (.panicking ({v:=.iface 290 (.agg #[]),recovered:=false}::gH)) w λe u' w'=>
   e=.returned (.tuple #[])/\u'=.panicking ({v:=.iface 290 (.agg #[]),recovered:=true}::gH)/\(w.alloc (.cells #[] 290)).setCell ⟨ec,0,none⟩ (.int .i64 3)=w':=by
 obtain⟨V1,_⟩:=QA;exact ZYG
theorem ZHQ (w p): CallsD prog 162 #[p] .returning w λe u' w'=>e=.returned (.tuple #[])/\u'=.returning/\w=w':=by
 refine callsD_of_wpS func162 rfl λc₀ cs hu=>?_;simp only[ntmps162,Zfk,ZfF,ZfJ,Nat.reduceAdd,Nat.reduceSub,ZeW,ZeX,Zfh,Zel,Zfb,Zen];apply wpS_seq;apply wpS_region;simp[wpOpsS,go_sem,recoverD,hu,Exit.thenS];refine wpS_of_wp ?_;refine ZEz λQ hQ=>?_;have Hu:=ZA hu;clear hu;go_wp2_with fail;have hu:=Hu.o;exact⟨rfl,.returning,by cases c₀;simp at hu;subst hu;rfl,_,Zgr rfl _ _ _,rfl,rfl,rfl⟩
theorem ZCi {tmps:Array Value}{ec:Nat}(hp:tmps.getD 4 undef=.pointer (some ⟨ec,0,none⟩))(hc:w.heap[ec]?=some (.cells #[v] t (0,0))): (results Tryz.f112 tmps).run prog w=.ok v w:=by
 have h0:=ZE hc 0;have eK:tmps[4]?.getD undef=.pointer (some ⟨ec,0,none⟩):=by simpa using hp
 simp[results,eK,asAddr,loadVar,h0,go_sem]
theorem ZP6 (w A n c f)(hn:4096<n): Calls prog 112 #[.slice A n c,f] w (Xj (.int .i64 2) w):=by
 go_enter_defers func112,ntmps112
 go_wp2_with fail;refine⟨_,ZCi rfl (Zgi w _),?_⟩;exact⟨rfl,(ZM.refl w).alloc _⟩
def ByR (t:TypeId)(cs:Option Addr->Nat->Array Value)(xs rest:List Nat)(r S g:Nat)(W:World)(e:Ending)(w':World):Prop:=∃A c wm,e=.returned (.tuple #[])/\W.grownBy wm (some r)/\wm.grownBy w' (some g)/\w'.heap[g]?=some (.cells (cs A c) t (0,0))/\w'.ownsRow W.heap.size 5 1 (.slice A xs.length c) xs.length (ZT .u8 xs)/\YU w' r S rest
theorem ZFU (w:World)(o o' g)(hg:g<w.heap.size):((w.alloc o).alloc o').heap[g]?=w.heap[g]?:=(Below.heap_alloc (w.alloc o) o' g (by simp;omega)).trans (Below.heap_alloc w o g hg)
theorem ZEh{W wm:World}(h:ZM w W)(h1:W.grownBy wm (some r))(h2:wm.grownBy w2 (some g))(hr:w.heap.size<=r):w.grownBy w2 (some g):=World.grown_trans (JJ (YL h (some g)) h1 hr) h2
theorem QH {p:Prop}(h:p:=by
 have bU:∀(fn:Fn) (first cap:Array Value) (w:World),(Instr.makeFunc fn first cap).run prog w=.ok (.func fn first cap) w:=λ_ _ _ _=>rfl;have HC:=ZA j8;clear j8;have cU:∀o o':Obj,Rd ((w.alloc o).alloc o') A0 (ZT .u8 ys):=λo o'=>(hr.alloc o).alloc o';have ak:∀a,A0=some a->ys≠[]->a.block<S:=λa ha ag=>li ag a ha;obtain⟨jI,iX,Hl⟩:=Z8 cU ak hl;have Hg:=ZA (λo o':Obj=>(ZFU w o o' g hg));clear cU ak hl hr li
 go_enter_defers func112,ntmps112;go_wp2_with fail;obtain⟨W,hW⟩:=ZX3 ((w.alloc (.cells #[.int .i64 0] 29)).alloc (.cells #[.slice A0 n c0] 292));have mm:w.heap.size+2=W.heap.size:=by rw[<-hW];simp
 have lc:YU W (w.heap.size+1) S ys:=by
  rw[<-hW];refine⟨A0,c0,?_,by rw[Hl.o];exact aI,jI.o _ _,λag a ha=>?_⟩
  ·rw[Hl.o];exact Zi _ _ ZXz
  ·have:=iX.o a ha ag;exact⟨by omega,this⟩
 have lg:W.heap[w.heap.size]?=some (.cells #[.int .i64 0] 29 (0,0)):=by rw[<-hW];exact ZQ (ZV w _) _
 have fW:W.heap[g]?=w.heap[g]?:=by rw[<-hW];exact Hg.o _ _
 have lf:ZM w W:=by rw[<-hW];exact((ZM.refl w).alloc _).alloc _
 have C:=ZA (HC.o W (w.heap.size+1) lc ZB fW ZB);have HE:=ZA lg;have fP:=ZA lf;rw[hW];clear hW lc lg fW lf HC jI Hg;refine C.o.mono ?_;first
 |obtain -:=V1;rintro e w2 ⟨rfl,bE⟩;have jJ:=ZA (Zl HE.o bE ZB);have j7:=ZA (JJ (YL fP.o (some g)) bE ZB);clear bE C HE fP
 |obtain -:=V2;rintro e w2 ⟨A,c,wm,rfl,bE,aA,cF,ho,hS⟩;obtain⟨A2,c2,cV,_,_,_⟩:=hS;have h0:=ZX1 cV 0 (.slice A2 rest.length c2);have ah:((rest.length:Int)==0)=false:=by
   rw[Zgb];have:=List.length_pos_iff.2 dL;omega
  have jJ:=ZA (Zl (Zl HE.o bE ZB) aA ZB);have j7:=ZA (ZEh fP.o bE aA ZB);clear bE aA cF ho cV C HE fP;go_wp2_with fail;refine(ZCR _ _).mono ?_;rintro e w' ⟨rfl,rfl⟩
 |rintro e w2 ⟨A,c,wm,rfl,bE,aA,cF,ho,hS⟩;obtain⟨A2,c2,cV,_,_,_⟩:=hS;have h0:=ZX1 cV 0 (.slice A2 0 c2);have jJ:=ZA (Zl (Zl HE.o bE ZB) aA ZB);have j7:=ZA (ZEh fP.o bE aA ZB);have rA:=ZA cF;have Ho:=ZA ho;have dq:W.heap.size<=w2.heap.size:=Zf8 bE.size aA.size;clear bE aA cF ho cV C HE fP;go_wp2_with fail;refine(ZAC _ _).mono ?_;rintro e w' ⟨rfl,rfl⟩;have e0:=ZE jJ.o 0;have f0:=ZG jJ.o 0
 go_wp2_with fail;refine Zgn (f:=162) (args:=#[.pointer (some ⟨w.heap.size,0,none⟩)]) ZXz (by simp[go_sem]) ?_;first|(obtain -:=V3;refine(ZHQ _ _).mono ?_)|refine(ZGE _ w.heap.size _ [] jJ.o).mono ?_
 rintro e u' fZ ⟨rfl,rfl,rfl⟩;first|(obtain -:=V4;have hG:=Ze w2 w.heap.size 0 (.int .i64 0);have cB:w2.ownsRow (w.heap.size+1) 5 1 (.slice A xs.length c) xs.length (ZT .u8 xs):=Zj Ho.o ZB;exact⟨_,ZCi rfl (ZR jJ.o 0 _),A,c,rfl,JQ j7.o (Zf6 _) 0 _,Yf rA.o hG ZB,Zj (cB.kept hG (ZAH cB ZB)) ZB⟩)|exact⟨_,ZCi rfl (ZR (ZQ jJ.o _) 0 _),rfl,JQ (Zq j7.o _) (Zf6 _) 0 _⟩):p:=h
theorem ZNN (w:World)(A0 n c0 g t)(cs:Option Addr->Nat->Array Value)(ys xs:List Nat)(hl:ys.length=n)(hn:n<=4096)(aI:n<=c0)(hr:Rd w A0 (ZT .u8 ys))(hg:g<w.heap.size)(S)(aL:S<=w.heap.size)(li:ys≠[]->∀a,A0=some a->a.block<S)(j8:∀W r,YU W r S ys->w.heap.size<=r->W.heap[g]?=w.heap[g]?->w.heap.size<=W.heap.size->Calls prog 158 #[.pointer (some ⟨r,0,none⟩),.pointer (some ⟨g,0,none⟩)] W (ByR t cs xs [] r S g W)): Calls prog 112 #[.slice A0 n c0,.func (.func 158) #[] #[.pointer (some ⟨g,0,none⟩)]] w λe w'=>∃A c,e=.returned (.int .i64 0)/\w.grownBy w' (some g)/\w'.heap[g]?=some (.cells (cs A c) t (0,0))/\w'.ownsRow w.heap.size 5 1 (.slice A xs.length c) xs.length (ZT .u8 xs):=by
 obtain⟨V3,V4⟩:=QA;exact QH
theorem ZNM (w:World)(A0 n c0 g t)(cs:Option Addr->Nat->Array Value)(ys xs rest:List Nat)(dL:rest≠[])(hl:ys.length=n)(hn:n<=4096)(aI:n<=c0)(hr:Rd w A0 (ZT .u8 ys))(hg:g<w.heap.size)(S)(aL:S<=w.heap.size)(li:ys≠[]->∀a,A0=some a->a.block<S)(j8:∀W r,YU W r S ys->w.heap.size<=r->W.heap[g]?=w.heap[g]?->w.heap.size<=W.heap.size->Calls prog 158 #[.pointer (some ⟨r,0,none⟩),.pointer (some ⟨g,0,none⟩)] W (ByR t cs xs rest r S g W)): Calls prog 112 #[.slice A0 n c0,.func (.func 158) #[] #[.pointer (some ⟨g,0,none⟩)]] w λe w'=>e=.returned (.int .i64 3)/\w.grownBy w' (some g):=by
 obtain⟨V2,_⟩:=QA;exact QH
theorem ZLf (w:World)(A0 n c0 g)(ys:List Nat)(hl:ys.length=n)(hn:n<=4096)(aI:n<=c0)(hr:Rd w A0 (ZT .u8 ys))(hg:g<w.heap.size)(S)(aL:S<=w.heap.size)(li:ys≠[]->∀a,A0=some a->a.block<S)(j8:∀W r,YU W r S ys->w.heap.size<=r->W.heap[g]?=w.heap[g]?->w.heap.size<=W.heap.size->Calls prog 158 #[.pointer (some ⟨r,0,none⟩),.pointer (some ⟨g,0,none⟩)] W (ZAb W r)): Calls prog 112 #[.slice A0 n c0,.func (.func 158) #[] #[.pointer (some ⟨g,0,none⟩)]] w λe w'=>e=.returned (.int .i64 3)/\w.grownBy w' (some g):=by
 obtain⟨V1,_⟩:=QA;exact QH
theorem ZV2 (w:World)(r S g ys op p N)(xs rest:List Nat)(hS:S<=w.heap.size)(hb:∀x ∈ ys,x<256)(hB:ZBK ys op p xs N rest)(h:YU w r S ys)(hg:S<=g)(gn:g<w.heap.size)(lR:g≠r)(hc:w.heap[g]?=some (.cells #[.int .u8 0,.int .i64 0,.slice none 0 0,.int .i64 0] 34 (0,0))): Calls prog 158 #[.pointer (some ⟨r,0,none⟩),.pointer (some ⟨g,0,none⟩)] w (ByR 34 (λA c=>#[.int .u8 op,.int .i64 p,.slice A xs.length c,.int .i64 N]) xs rest r S g w):=by
 have C:=ZA (ZRh ys op p xs N rest hb hB w r S hS h);have Hc:=ZA hc;clear hb hB h hc;go_enter func158,ntmps158;go_wp2_with fail;refine C.o.mono ?_;rintro e w1 ⟨A,c,rfl,ho,hI,hG⟩;have K:=ZA (Zl Hc.o hG lR);obtain⟨Ho,HI,HG⟩:=Z8 ho hI hG;clear ho hI hG C;have k0:=ZE K.o 0;have k1:=ZE K.o 1;have k2:=ZE K.o 2;have k3:=ZE K.o 3;have f0:=ZG K.o 0;have f1:=ZG K.o 1;have f2:=ZG K.o 2;have f3:=ZG K.o 3;go_wp2_with fail
 go_end0
 have hG:=ZU (ZU (ZU (Ze w1 g 0 (.int .u8 op)) 1 (.int .i64 p)) 2 (.slice A xs.length c)) 3 (.int .i64 N);refine⟨A,c,w1,rfl,HG.o,hG,ZBA K.o _ _ _ _,Ho.o.kept hG (ZAH Ho.o ZB),HI.o.grown hG (λk hk=>by injection hk with hk;omega)⟩
theorem ZMh (w:World)(r S g)(ys:List Nat)(hS:S<=w.heap.size)(hb:∀x ∈ ys,x<256)(hl:ys.length<=4096)(hB:¬∃op p xs N rest,ZBK ys op p xs N rest)(h:YU w r S ys): Calls prog 158 #[.pointer (some ⟨r,0,none⟩),.pointer (some ⟨g,0,none⟩)] w (ZAb w r):=by
 have C:=ZA (ZOf ys hb hl hB w r S hS h);clear hb hB h;go_enter func158,ntmps158;go_wp2_with fail;refine C.o.mono ?_;rintro e w1 ⟨rfl,hG⟩;exact⟨rfl,rfl,hG⟩
theorem ZGx (N w)(h:0<=N)(h':N<=4611686018427387903):Calls prog 55 #[.int .i64 N] w λe w'=>e=.returned (.bool true)/\w=w':=by
 go_enter func55,ntmps55;go_wp2_with fail;go_ret;exact⟨rfl,rfl⟩
theorem ZH4 (N w)(h:N<0\/4611686018427387903<N):Calls prog 55 #[.int .i64 N] w λe w'=>e=.returned (.bool false)/\w=w':=by
 rcases h with h|h
 ·go_enter func55,ntmps55;go_wp2_with fail;go_ret;exact⟨rfl,rfl⟩
 ·have h':0<=N:=by omega
  go_enter func55,ntmps55;go_wp2_with fail;go_ret;exact⟨ZB9 (by simp;omega),rfl⟩
theorem Qh {p:Prop}(h:p:=by
 have Ho:=ZA ho;have Hl:=ZA hl;clear ho hl;go_enter func108,ntmps108;go_wp2_with fail;first
 |obtain -:=V1;go_loopg [0,5] 8 (λg v0 v5 wr=>∃(j:Nat) (A':Option Addr) (c':Nat),j<=8/\g=8 - j/\v0=.slice A' (m+j) c'/\v5=.int .i64 (56 - 8*(j:Int))/\w.grownBy wr (Value.slice A m c).ownBlock/\
   wr.ownsRow base 5 1 (.slice A' (m+j) c') (m+j) (ZT .u8 (xs++(Zm v 8).take j))/\∀q,(Value.slice A' (m+j) c').ownBlock=some q->(Value.slice A m c).ownBlock=some q\/w.heap.size<=q)
 |go_loopg [0,5] 8 (λg v0 v5 wr=>∃(j:Nat) (A':Option Addr) (c':Nat),j<=8/\g=8 - j/\v0=.slice A' (m+j) c'/\v5=.int .i64 (56 - 8*(j:Int))/\ZM w0 wr/\w.heap.size<=wr.heap.size/\
   wr.ownsRow base 5 1 (.slice A' (m+j) c') (m+j) (ZT .u8 (xs++(Zm v 8).take j)))
 case atStart=>
  first|(obtain -:=V2;exact⟨0,A,c,ZgR _,rfl,rfl,by go_num,ZgX _ _,by simpa using Ho.o,λq hq=>.inl hq⟩)|exact⟨0,A,c,ZgR _,rfl,rfl,by go_num,hx,Zf6 _,by simpa using Ho.o⟩
 case round=>
  first|(obtain -:=V3;obtain⟨j,A',c',hj,rfl,rfl,rfl,hxr,gi,hrow⟩:=hrel)|obtain⟨j,A',c',hj,rfl,rfl,rfl,hxr,bZ,gi⟩:=hrel
  have mL:=ZA hxr;first|(obtain -:=V4;have qn:=ZA hrow;clear hxr hrow)|clear hxr
  by_cases ak:j<8
  ·have hg:=ZFe v 8 j ak;obtain⟨t,ht⟩:∃t,t=8*(7 - j):=⟨_,rfl⟩;have e1:(56 - 8*(j:Int))=(t:Int):=by omega
   have e2:v / 256 ^ (8 - 1 - j) % 256=v / 2 ^ t % 256:=by
    rw[ht,show(256:Nat)=2 ^ 8 from rfl,<-Nat.pow_mul]
   rw[e2]at hg;rw[e1];have Hg:=ZA hg;have sR:=ZA (show((v:Int) / 2 ^ t % 256)=((v / 2 ^ t % 256:Nat):Int) by simp only[Int.natCast_emod,Int.natCast_ediv,Int.natCast_pow];rfl);have wB:t<=56:=by omega
   have Ht:=ZA ht;first|(obtain -:=V5;have bZ:w.heap.size<=wr.heap.size:=mL.o.size)|skip
   clear hg e1 e2 ht;first
   |obtain -:=V6;go_wp2_with (first|(at_builtin;refine JV _ rfl (.tmp 10) (.tmp 16) rfl base rfl (gi.alloc _) rfl (m:=1) (news:=[v / 2 ^ t % 256]) rfl (ZNT _ _ _ sR.out) ZB (by simp;omega) ?_;intro A1 c1 w1 ax aT tq)|fail)
   |have aG:wr.heap.size>=base:=by omega
    go_wp2_with (first|(at_builtin;refine JV _ rfl (.tmp 10) (.tmp 16) rfl base rfl (gi.alloc _) rfl (m:=1) (news:=[v / 2 ^ t % 256]) rfl (ZNT _ _ _ sR.out) ZB (by simp;omega) ?_;intro A1 c1 w1 ax aT _)|fail)
   go_roundg (8 - (j+1));case measure=>omega
   case rel=>
    first
    |obtain -:=V7;refine⟨j+1,A1,c1,ak,rfl,rfl,by have:=Ht.o;go_num,ZFz (Zq mL.o _) aT qn.o,?_,λq hq=>?_⟩
     ·rw[Zv Hg.o,<-Zei];exact ax
     ·rcases tq with h|h
      ·exact qn.o q (h.symm.trans hq)
      ·have h2:=h.symm.trans hq;injection h2 with h2;right;simp at h2;omega
    |refine⟨j+1,A1,c1,ak,rfl,rfl,by have:=Ht.o;go_num,(mL.o.alloc _).grown aT (λk hk=>Zf8 an (Yw gi k hk)),by have:=aT.size;simp at this;omega,?_⟩;rw[Zv Hg.o,<-Zei];exact ax
  ·obtain rfl:j=8:=by omega
   have e:(Zm v 8).take 8=Zm v 8:=Zfp (by rw[Z4];omega);rw[e]at gi;have tT:=ZA gi;clear gi e;go_wp2_with fail;go_ret;first|(obtain -:=V8;exact⟨A',c',rfl,tT.o,mL.o,qn.o⟩)|exact⟨A',c',rfl,tT.o,mL.o,bZ⟩):p:=h
theorem ZK2 (w w0:World)(base:Nat)(A:Option Addr)(m c:Nat)(xs:List Nat)(v:Nat)(hl:xs.length=m)(ho:w.ownsRow base 5 1 (.slice A m c) m (ZT .u8 xs))(hx:ZM w0 w)(an:w0.heap.size<=base)(mB:base<=w.heap.size)(hv:v<9223372036854775808)(hm:m<=1000000): Calls prog 108 #[.slice A m c,.int .i64 v] w λe w'=>∃A' c',e=.returned (.slice A' (m+8) c')/\w'.ownsRow base 5 1 (.slice A' (m+8) c') (m+8) (ZT .u8 (xs++Zm v 8))/\ZM w0 w'/\w.heap.size<=w'.heap.size:=Qh
theorem ZUf (w op p N A n c)(L5:0<=op)(h:op<1\/6<op): Calls prog 61 #[Yp op p A n c N] w (Xc [] 1 w):=by
 have q1:(op==1)=false:=by rw[Zgb];omega
 have q2:(op==2)=false:=by rw[Zgb];omega
 have q3:(op==3)=false:=by rw[Zgb];omega
 have q4:(op==4)=false:=by rw[Zgb];omega
 have q5:(op==5)=false:=by rw[Zgb];omega
 have q6:(op==6)=false:=by rw[Zgb];omega
 go_enter func61,ntmps61;go_wp2_with fail
 go_ret2
 exact YZ ⟨rfl,(ZM.refl w).alloc _⟩
theorem Qp {p:Prop}(h:p:=by
 first|(obtain -:=V1)|(have HI:=ZA hI;clear hI;have ja:(q !=0)=true:=by simp[bne,hq])
 go_enter func61,ntmps61;first|(obtain -:=V2;go_wp2_with fail;refine(ZGx N _ h1 h2).mono ?_;rintro e w1 ⟨rfl,rfl⟩)|skip
 go_wp2_with fail;first|(obtain -:=V3;refine(ZH4 N _ h).mono ?_)|refine(HI.o _).mono ?_
 rintro e w1 ⟨rfl,rfl⟩;go_wp2_with fail;go_ret2;exact YZ ⟨rfl,(ZM.refl w).alloc _⟩):p:=h
theorem ZSY (w p N A n c)(h:N<0\/4611686018427387903<N): Calls prog 61 #[Yp 1 p A n c N] w (Xc [] 1 w):=by
 obtain⟨V1,V3⟩:=QA;exact Qp
theorem ZLb (w p N A n c q)(hq:(q==0)=false)(h1:0<=N)(h2:N<=4611686018427387903)(hI:∀w,Calls prog 72 #[.int .i64 p,.slice A n c] w λe w'=>e=.returned (.tuple #[.slice none 0 0,.int .i64 q])/\w=w'): Calls prog 61 #[Yp 1 p A n c N] w (Xc [] q w):=by
 obtain⟨V2,_⟩:=QA;exact Qp
theorem ZLa (w p N A n c q)(hq:(q==0)=false)(hI:∀w,Calls prog 72 #[.int .i64 p,.slice A n c] w λe w'=>e=.returned (.tuple #[.slice none 0 0,.int .i64 q])/\w=w'): Calls prog 61 #[Yp 2 p A n c N] w (Xc [] q w):=Qp
theorem ZLY (w p N A n c q)(hq:(q==0)=false)(hI:∀w,Calls prog 72 #[.int .i64 p,.slice A n c] w λe w'=>e=.returned (.tuple #[.slice none 0 0,.int .i64 q])/\w=w'): Calls prog 61 #[Yp 4 p A n c N] w (Xc [] q w):=Qp
theorem ZNa (w:World)(x:Int)(y:Nat)(h:x=(y:Int)):(w.alloc (.cells #[.int .u8 x] 5)).ownsRow w.heap.size 5 1 (.slice (some ⟨w.heap.size,0,none⟩) 1 1) 1 (ZT .u8 [y]):=by
 subst h;exact ZUu w y
theorem ZUh (w p N A n c): Calls prog 61 #[Yp 5 p A n c N] w (Xc [5] 0 w):=by
 go_enter func61,ntmps61;go_wp2_with fail
 go_ret2
 have h:=ZNa (w.alloc (.cells #[.int .u8 5,.int .i64 p,.slice A n c,.int .i64 N] 34)) 5 5 rfl;rw[Zga]at h;exact Jq rfl (Zj h ZB) (((ZM.refl w).alloc _).alloc _)
theorem ZUg (w p N A n c): Calls prog 61 #[Yp 6 p A n c N] w (Xc [6] 0 w):=by
 go_enter func61,ntmps61;go_wp2_with fail
 go_ret2
 have h:=ZNa (w.alloc (.cells #[.int .u8 6,.int .i64 p,.slice A n c,.int .i64 N] 34)) 6 6 rfl;rw[Zga]at h;exact Jq rfl (Zj h ZB) (((ZM.refl w).alloc _).alloc _)
theorem ZLZ (w p N A n c xs q)(hq:(q==0)=false)(hr:Rd w A (ZT .u8 xs))(hI:∀w,Rd w A (ZT .u8 xs)->Calls prog 32 #[ZJx p A n c N] w (Xc [] q w)): Calls prog 61 #[Yp 3 p A n c N] w (Xc [] q w):=by
 have HI:=ZA hI;have Hr:=ZA hr;clear hI hr;have ja:(q !=0)=true:=by simp[bne,hq]
 go_enter func61,ntmps61;go_wp2_with fail;refine(HI.o _ (Hr.o.alloc _)).mono ?_;rintro e w1 ⟨A1,c1,rfl,af,hy⟩;clear af;have hx:ZM w w1:=((ZM.refl w).alloc _).trans hy;go_wp2_with fail
 go_ret2
 exact YZ ⟨rfl,hx⟩
theorem ZUj (w p N A n c)(xs L:List Nat)(k)(hk:L.length=k)(nK:k<=1000)(hr:Rd w A (ZT .u8 xs))(hI:∀w,Rd w A (ZT .u8 xs)->Calls prog 32 #[ZJx p A n c N] w (Xc L 0 w)): Calls prog 61 #[Yp 3 p A n c N] w (Xc (3::L) 0 w):=by
 obtain⟨HI,Hr,Hk⟩:=Z8 hI hr hk;clear hI hr hk;go_enter func61,ntmps61;go_wp2_with fail;refine(HI.o _ (Hr.o.alloc _)).mono ?_;rintro e w1 ⟨A1,c1,rfl,af,hy⟩;rw[Hk.o]at af ⊢;have hx:ZM w w1:=((ZM.refl w).alloc _).trans hy;have R1:=ZA (Rd.of_own af);have k0:w1.cell? ⟨w.heap.size,0,none⟩=some (.int .u8 3):=by
  rw[hy.cell (p:=⟨w.heap.size,0,none⟩) ZXz];exact ZgU _ _ _ _
 clear af;have hs:w.heap.size<=w1.heap.size:=hx.size;go_wp2_with (first|(at_builtin;refine JV _ rfl (.tmp 35) (.tmp 36) rfl w1.heap.size rfl (ZNa w1 3 3 rfl) rfl Hk.o (R1.o.alloc _) ZB ZXz ?_;intro A2 c2 w2 bT bA _)|fail)
 go_ret2
 refine Jq ?_ (Zj bT hs) ((hx.alloc _).grown bA (λq hq=>by simp[Value.ownBlock]at hq;omega));show(3::L).length=_;rw[ZfF,Hk.o,Zfw]
end Go.Proofs.YtloidkmphigbdaaGreat
