import Derived.Shelf.Bytes.SlSmallAll
import Derived.Test.YtloidkmphigbdaaGreatBTopServed7
namespace Go.Proofs.YtloidkmphigbdaaGreat
open Tryz
set_option linter.all false
set_option maxHeartbeats 40000000
set_option maxRecDepth 100000
open Go.RowKit
variable {ys:List Nat}{xs:List Value}{rs:List Z7}{b' base c cb gc i j lv n r:Nat}{A B:Option Addr}{v:Value}{w w' w1 w2:World}{RO RO1 X:Zhf}
def Zeu := @List.eraseIdx_cons_succ
def Zev := @List.filter_append
def Zey := @List.flatten_cons
def ZfI := @List.length_eraseIdx_of_lt
def ZfW := @List.mem_of_mem_eraseIdx
def ZWC (w:World)(X:Zhf)(lv sh:Nat)(l:List ZL)(kk:List Z7):Prop:=kk.length=(JU l lv sh).length/\∀(i:Nat) (r:Z7) (c:ZL),kk[i]?=some r->(JU l lv sh)[i]?=some c->Yi w X r c
theorem ZBV (l)(c:ZL)(lv sh):JU (l++[c]) lv sh=JU l lv sh++(if ZA9 (Xw c.id) lv=sh then [c] else []):=by
 unfold JU;rw[Zev]
 congr 1
 by_cases h:ZA9 (Xw c.id) lv=sh
 ·rw[Zgl h];simp[h]
 ·rw[Zgk h];simp[h]
theorem ZTc (l:List ZL)(lv sh):(JU l lv sh).length<=l.length:=List.length_filter_le _ _
theorem ZL3 (w:World)(X:Zhf)(A:Option Addr)(n c lv sh:Nat)(l:List ZL)(rs:List Z7)(hX:YE w X)(hC:Zw w X A l rs)(hl:l.length=n)(hn:n<=5000)(hk:∀e ∈ l,ZAO e)(fD:lv<=4): Calls prog 39 #[.slice A n c,.int .i64 lv,.int .i64 sh] w (ZPV X (JU l lv sh) w):=by
 obtain⟨HE,Hn,HK,HX0⟩:=ZAU hC hl hk hX;clear hC hl hk hX;go_enter func39,ntmps39;go_wp2_with fail
 go_loopw [7,16] (λv i wr=>∃(k m:Nat) (B:Option Addr) (cb:Nat) (kk:List Z7),k<=n/\i=.int .i64 k/\v=.slice B m cb/\(JU (l.take k) lv sh).length=m/\wr.ownsRow w.heap.size 62 4 (.slice B m cb) m (Ya kk (JU (l.take k) lv sh))/\ZWC w X lv sh (l.take k) kk/\ZM w wr) (λ_ i _=>n - (intOf i).toNat)
 case atStart=>exact⟨0,0,none,0,[],ZgR _,rfl,rfl,by simp[JU],by simpa[JU,Ya]using ZgZ w w.heap.size 62 4,⟨by simp[JU],λi r c h=>by simp at h⟩,ZM.refl w⟩
 case round=>
  obtain⟨k,m,B,cb,kk,hk,rfl,rfl,hm,ho,eQ,hx⟩:=hrel;obtain⟨HO,HX,HM,HI⟩:=ZAU ho hx hm eQ;have bZ:w.heap.size<=wr.heap.size:=hx.size;have Lo:m<=5000:=by
   have:=ZTc (l.take k) lv sh;have h2:(l.take k).length<=l.length:=by rw[ZfL];omega
   have:=Hn.o;omega
  clear ho hx hm eQ;by_cases ak:k<n
  ·have eF:(k:Int)<(n:Int):=by omega
   obtain⟨e,he⟩:∃e,l[k]?=some e:=⟨_,Ze4 (by rw[Hn.o];exact ak)⟩;obtain⟨b,off,r,hA,jw,d0,d1,d2,d3,hpr⟩:=(HE.o.1.ext HX.o).at_ he;have HP:=ZA (HE.o.part jw he);have lP:=HK.o e (ZfU he);have HT:=ZA (Zv he);have aX:e.key.length<=255:=lP.2.1;obtain⟨kl,Hkl⟩:=ZX2 (e.key.length);obtain⟨hd,Hhd⟩:=ZX2 (e.held.length);rw[Hkl.o]at d1 aX;rw[Hhd.o]at d3;subst hA;obtain⟨W,hW,xW,KB⟩:=Za wr (.cells #[.int .i64 (e.pol:Int),.slice r.K kl r.kc,.int .i64 e.tat,.slice r.H hd r.hc] 62);obtain⟨il,Hil⟩:=ZX2 ((e.pol::e.key).length);have ID:=ZA (ZGu e.pol r.K kl r.kc il e.key W lP.1 Hkl.o aX (hpr.2.1.ext xW) Hil.o);have SH:=ZA (λu A2 c2 (hr:Rd u A2 (ZT .u8 (e.pol::e.key)))=>ZSO A2 il c2 (e.pol::e.key) lv u Hil.o (ZHx lP) (by have:=Hil.o;simp at this;have:=Hkl.o;omega) hr fD);obtain⟨sv,Hsv⟩:=ZX2 (ZA9 (Xw e.id) lv);have lM:ZA9 (upd 14695981039346656037 (e.pol::e.key)) lv=sv:=Hsv.o;rw[lM]at SH;have XW:=ZA xW;have gp:IntKind.i64.wrap ((k:Int)+1)=((k+1:Nat):Int):=by rw[Zee];omega
   have HW:=ZA hW;have e0:=ZX1 KB.o 0 (.int .i64 (e.pol:Int));have e1:=ZX1 KB.o 1 (.slice r.K kl r.kc);clear he jw hpr lP xW hW lM;go_upto_region 5 with fail
   (try rw[HW.o])
   clear HW d0 d1 d2 d3;go_wp2_with fail;refine ID.o.mono ?_;rintro e' w1 ⟨A1,c1,rfl,eB,x1⟩;have X1:=ZA x1;have F7:=ZA (SH.o w1 A1 c1 eB);clear eB x1 e0 e1;go_wp2_with fail;refine F7.o.mono ?_;rintro e' w2 ⟨rfl,q,rfl⟩;have X2:=ZA (XW.o.trans X1.o);have jH:=ZA (ZK KB.o X1.o);obtain⟨w2,cV⟩:=ZX3 (w1.drewN q);have vF:ZM w1 w2:=by rw[<-cV];exact(ZM.refl w1).drewN q
   rw[cV];have lu:=ZA (ZK jH.o vF);have X3:=ZA (X2.o.trans vF);clear cV vF;by_cases hs:sv=sh
   ·have hb:((sv:Int)==(sh:Int))=true:=by rw[Zgc];omega
    have f0:=ZX1 lu.o 0 (.int .i64 (e.pol:Int));have f1:=ZX1 lu.o 1 (.slice r.K kl r.kc);have f2:=ZX1 lu.o 2 (.int .i64 e.tat);have f3:=ZX1 lu.o 3 (.slice r.H hd r.hc);go_wp2_with (at_builtin;refine ZOe (m:=1) (news:=[.int .i64 (e.pol:Int),.slice r.K kl r.kc,.int .i64 e.tat,.slice r.H hd r.hc]) (w2.alloc (.cells #[.int .i64 (e.pol:Int),.slice r.K kl r.kc,.int .i64 e.tat,.slice r.H hd r.hc] 62)) rfl (.tmp 37) (.tmp 39) rfl w.heap.size rfl (Z5 HO.o (X3.o.alloc _)) rfl rfl (JP w2 [.int .i64 (e.pol:Int),.slice r.K kl r.kc,.int .i64 e.tat,.slice r.H hd r.hc] _ rfl) (by simp[Value.oneCell']) ZB (Zf8 bZ (X3.o.alloc _).size) ?_;intro B' au w6 o6 g6 b6;have O6:=ZA o6;have G6:=ZA (((HX.o.trans X3.o).alloc _).grown g6 (λq e=>(HO.o.lt q e).1));clear o6 g6 b6)
    go_roundw
    case rel=>
     refine⟨k+1,m+1,B',au,kk++[r],ak,by go_num,rfl,?_,?_,?_,G6.o⟩
     ·rw[HT.o,ZBV,Zgl (Hsv.o.trans hs),ZfE,HM.o];rfl
     ·rw[HT.o,ZBV,Zgl (Hsv.o.trans hs)];have ev:Ya (kk++[r]) (JU (l.take k) lv sh++[e])=Ya kk (JU (l.take k) lv sh)++[.int .i64 (e.pol:Int),.slice r.K kl r.kc,.int .i64 e.tat,.slice r.H hd r.hc]:=by
       unfold Ya;rw[ZEx Yh HI.o.1];simp[Yh,Hkl.o,Hhd.o]
      rw[ev];exact O6.o
     ·rw[HT.o];refine⟨?_,λi r' c' hr hc=>?_⟩
      ·rw[ZBV,Zgl (Hsv.o.trans hs),ZfE,ZfE,HI.o.1];rfl
      ·rw[ZBV,Zgl (Hsv.o.trans hs)]at hc;rcases ZgC i kk.length with h|h
       ·rw[Ze0 h]at hr;rw[Ze0 (by rw[<-HI.o.1];exact h)]at hc;exact HI.o.2 i r' c' hr hc
       ·rw[Ze1 h]at hr;rw[Ze1 (by rw[<-HI.o.1];exact h)]at hc;have hi:i - kk.length=0:=by
         have:=(Ze5.1 hr).1;simp at this;omega
        rw[hi]at hr;rw[<-HI.o.1,hi]at hc;simp at hr hc;subst hr hc;exact HP.o
    case measure=>simp[intOf];omega
   ·have hb:((sv:Int)==(sh:Int))=false:=by rw[Zgb];omega
    go_wp2_with fail
    go_roundw
    case rel=>
     refine⟨k+1,m,B,cb,kk,ak,by go_num,rfl,?_,?_,?_,HX.o.trans X3.o⟩
     ·rw[HT.o,ZBV,Zgk (λe=>hs (Hsv.o.symm.trans e)),Zek,HM.o]
     ·rw[HT.o,ZBV,Zgk (λe=>hs (Hsv.o.symm.trans e)),Zek];exact Z5 HO.o X3.o
     ·rw[HT.o];unfold ZWC;rw[ZBV,Zgk (λe=>hs (Hsv.o.symm.trans e)),Zek];exact HI.o
    case measure=>simp[intOf];omega
  ·have eF:¬(k:Int)<(n:Int):=by omega
   have qZ:k=n:=by omega
   go_wp2_with fail;go_ret;have e1:l.take k=l:=by rw[qZ,<-Hn.o];exact Zfo
   have hO:=HO.o;have hI:=HI.o;have hM:=HM.o;rw[e1]at hO hI hM;refine⟨B,m,cb,kk,hM,rfl,⟨⟨hI.1,XJ hO,λi r c hr hc=>(hI.2 i r c hr hc).1.ext HX.o⟩,ZBS hO HX0.o,λr hr=>?_⟩,HX.o⟩;obtain⟨i,hi⟩:=Ze7 hr;have eG:=(Ze5.1 hi).1;have h9:=hI.2 i r _ hi (Ze4 (by rw[<-hI.1];exact eG));have kp:Kp w wr X X:=Kp.ext X HX.o;exact⟨h9.2.1.kp kp,h9.2.2.kp kp⟩
theorem ZOz:(prog.info? 120).map (λi=>(i.zero,i.size,i.bytes))=some (some (.agg #[.int .i64 0,.slice none 0 0,.int .i64 0]),3,40):=by kernel_rfl
theorem ZOy:∀u:World,(sizeOf 120).run prog u=.ok 3 u:=λ_=>by kernel_rfl
theorem ZUQ:∀w:World,(zeroValue 120).run prog w=.ok (.agg #[.int .i64 0,.slice none 0 0,.int .i64 0]) w:=λ_=>by kernel_rfl
theorem ZPj (n):((Builtin.zeroCells (Value.cells (.agg #[.int .i64 0,.slice none 0 0,.int .i64 0])) n).toList).length=n*3/\∀v ∈ (Builtin.zeroCells (Value.cells (.agg #[.int .i64 0,.slice none 0 0,.int .i64 0])) n).toList,v.oneCell'=true:=ZYS
def ZO0 (base:Nat)(A:Option Addr)(n c:Nat)(xs:List Value)(k:Nat)(w:World)(e:Ending)(w':World):Prop:=e=.returned (.slice A (n - 1) c)/\w'.ownsRow base 120 3 (.slice A (n - 1) c) (n - 1) (ZRQ 3 xs k)/\w.grownBy w' (Value.slice A n c).ownBlock
theorem ZPk (w:World)(base A n c k xs)(aK:∀u ∈ xs,u.oneCell'=true)(hn:n<=100000)(hk:k<n)(ho:w.ownsRow base 120 3 (.slice A n c) n xs): Calls prog 156 #[.slice A n c,.int .i64 k,.int .i64 ((k:Int)+1)] w (ZO0 base A n c xs k w):=by
 obtain⟨V1,V2,V3,V4,V5,V6,V7,V8⟩:=QA;exact Ql
def ZGh (pr:ZL->Bool):List ZL->Option Nat
 |[]=>none
 |c::l=>if pr c=true then some 0 else (ZGh pr l).map (· +1)
theorem ZJS {pr:ZL->Bool}:∀{l:List ZL},(∀c ∈ l,pr c=false)->ZGh pr l=none
 |[],_=>rfl
 |c::l,h=>by
  unfold ZGh;rw[Zgk (by rw[h c ZfQ];exact ZeZ),ZJS (λd hd=>h d (ZfP _ hd))];rfl
theorem ZJR {pr:ZL->Bool}:∀{l:List ZL} {k:Nat} {c:ZL},l[k]?=some c->pr c=true->(∀d ∈ l.take k,pr d=false)->ZGh pr l=some k
 |[],k,c,h,_,_=>by simp at h
 |d::l,0,c,h,hp,_=>by
  simp at h;subst h;unfold ZGh;rw[Zgl hp]
 |d::l,k+1,c,h,hp,ha=>by
  unfold ZGh;rw[Zgk (by rw[ha d ZXz];exact ZeZ),ZJR (l:=l) (k:=k) (by simpa using h) hp (λe he=>ha e (by simp[he]))];rfl
theorem ZJQ {pr:ZL->Bool}:∀{l:List ZL},(ZGh pr l=none/\∀c ∈ l,pr c=false)\/∃k c,ZGh pr l=some k/\l[k]?=some c/\pr c=true/\∀d ∈ l.take k,pr d=false
 |[]=>.inl ⟨rfl,λc h=>by cases h⟩
 |d::l=>by
  cases hd:pr d with
  |true=>exact .inr ⟨0,d,by unfold ZGh;rw[Zgl hd],rfl,hd,λe he=>by simp at he⟩
  |false=>
   rcases ZJQ (pr:=pr) (l:=l)with⟨h1,h2⟩|⟨k,c,h1,h2,h3,h4⟩
   ·exact .inl ⟨by unfold ZGh;rw[Zgk (by rw[hd];exact ZeZ),h1];rfl,λc hc=>(ZfO.1 hc).elim (λe=>e ▸ hd) (h2 c)⟩
   ·refine .inr ⟨k+1,c,by unfold ZGh;rw[Zgk (by rw[hd];exact ZeZ),h1];rfl,by simpa using h2,h3,λe he=>?_⟩;rw[Zfq]at he;exact(ZfO.1 he).elim (λq=>q ▸ hd) (h4 e)
def ZXl:Option Nat->Int
 |none=>-1
 |some k=>(k:Int)
theorem ZNq (w A n c)(l:List ZL)(rs fn)(aa:Array Value)(pr:ZL->Bool)(hl:l.length=n)(hn:n<=5000)(hE:ZAm w A l rs)(hen:∀(ar:Array Value) (u:World),(callFunc fn (ar++aa)).run prog u=.ok (.enter fn (ar++aa)) u)(CB:∀(u:World) (r:Z7) (ce:ZL),ZM w u->r ∈ rs->ce ∈ l->Calls prog fn (#[.agg #[.int .i64 (ce.pol:Int),.slice r.K ce.key.length r.kc,.int .i64 ce.tat,.slice r.H ce.held.length r.hc]]++aa) u λe w'=>e=.returned (.bool (pr ce))/\ZM u w'): Calls prog 243 #[.slice A n c,YD fn aa] w λe w'=>e=.returned (.int .i64 (ZXl (ZGh pr l)))/\ZM w w':=by
 obtain⟨HE,Hn,HC⟩:=Z8 hE hl CB;clear hE hl CB;go_enter func243,ntmps243;go_wp2_with fail
 go_loopw [8] (λi wr=>∃(k:Nat),k<=n/\i=.int .i64 k/\(∀d ∈ l.take k,pr d=false)/\ZM w wr) (λi _=>n - (intOf i).toNat)
 case atStart=>exact⟨0,ZgR _,rfl,λd h=>by simp at h,ZM.refl w⟩
 case round=>
  obtain⟨k,hk,rfl,cd,hx⟩:=hrel;have HX:=ZA hx;have zj:=ZA cd;clear hx cd;by_cases ak:k<n
  ·have eF:(k:Int)<(n:Int):=by omega
   obtain⟨e,he⟩:∃e,l[k]?=some e:=⟨_,Ze4 (by rw[Hn.o];exact ak)⟩;obtain⟨b,off,r,hA,jw,d0,d1,d2,d3,-⟩:=(HE.o.ext HX.o).at_ he;have HT:=ZA (Zv he);have CB:=ZA (HC.o wr r e HX.o (ZfU jw) (ZfU he));obtain⟨q,Hq⟩:=ZX2 (pr e);rw[Hq.o]at CB;have He:=ZA he;have gp:IntKind.i64.wrap ((k:Int)+1)=((k+1:Nat):Int):=by rw[Zee];omega
   have iO:(0:Int)<=(k:Int):=by omega
   subst hA;clear he jw;go_wp2_with fail;refine CB.o.mono ?_;rintro e' w1 ⟨rfl,hx⟩;have HY:=ZA hx;clear hx;cases q with
   |true=>
    go_wp2_with fail;go_ret;refine⟨?_,HX.o.trans HY.o⟩;rw[ZJR He.o Hq.o zj.o];rfl
   |false=>
    go_wp2_with fail
    go_roundw
    case rel=>
     refine⟨k+1,ak,by go_num,λd hd=>?_,HX.o.trans HY.o⟩;rw[HT.o]at hd;exact(ZfN.1 hd).elim (zj.o d) (λh=>by rw[Zfa.1 h];exact Hq.o)
    case measure=>simp[intOf];omega
  ·have eF:¬(k:Int)<(n:Int):=by omega
   go_wp2_with fail;go_ret;refine⟨?_,HX.o⟩;have e1:l.take k=l:=by rw[show k=n by omega,<-Hn.o];exact Zfo
   rw[ZJS (λc hc=>zj.o c (by rw[e1];exact hc))];rfl
theorem ZGQ {pr:ZL->Bool}{l:List ZL}(h:∀c ∈ l,pr c=false):(l.filter λc=>!pr c)=l:=List.filter_eq_self.2 (λc hc=>by rw[h c hc];rfl)
theorem ZEn{l:List ZL}(h:rs.length=l.length):(Ya rs l).length=l.length*4:=ZCa Yh 4 Xa rs l h
theorem ZCm{g:Nat}{l:List ZL}{r:Z7}{e:ZL}(ho:w.ownsRow base 62 4 (.slice (some ⟨g,0,none⟩) n c) n (Ya rs l))(hn:l.length=n)(hr:rs[i]?=some r)(he:l[i]?=some e)(hj:j<4):w.cell? ⟨g,i*4+j,none⟩=(Yh r e)[j]?:=by
 have hi:i<n:=by rw[<-hn];exact(Ze5.1 he).1
 rw[ho.cellAt (i*4+j) ZB];exact ZEw Yh 4 Xa rs l i j r e hr he hj
def ZXX (w0:World)(X:Zhf)(A:Option Addr)(c:Nat)(l:List ZL)(e:Ending)(w':World):Prop:=∃m R,l.length=m/\m<=c/\e=.returned (.slice A m c)/\Zw w' X A l R/\ZM w0 w'
theorem ZQk (w0 w:World)(X A n c)(l:List ZL)(rs:List Z7)(fn)(aa:Array Value)(pr:ZL->Bool)(hX:YE w0 X)(x0:ZM w0 w)(hl:l.length=n)(hn:n<=5000)(dw:rs.length=l.length)(ho:w.ownsRow w0.heap.size 62 4 (.slice A n c) n (Ya rs l))(hP:∀(i:Nat) (r:Z7) (e:ZL),rs[i]?=some r->l[i]?=some e->Yi w0 X r e)(hen:∀(ar:Array Value) (u:World),(callFunc fn (ar++aa)).run prog u=.ok (.enter fn (ar++aa)) u)(CB:∀(u:World) (r:Z7) (ce:ZL),ZM w0 u->r ∈ rs->ce ∈ l->Calls prog fn (#[.agg #[.int .i64 (ce.pol:Int),.slice r.K ce.key.length r.kc,.int .i64 ce.tat,.slice r.H ce.held.length r.hc]]++aa) u λe w'=>e=.returned (.bool (pr ce))/\ZM u w'): Calls prog 183 #[.slice A n c,YD fn aa] w (ZXX w0 X A c (l.filter λc=>!pr c)):=by
 have aI:=YR ho;have uW:ZAm w A l rs:=⟨dw,XJ ho,λi r e hr he=>(hP i r e hr he).1.ext x0⟩;have IX:=ZA (ZNq w A n c l rs fn aa pr hl hn uW hen (λu r ce hu=>CB u r ce (x0.trans hu)));obtain⟨IJ,HP,Hl,Hrl,HO,X0⟩:=Ju CB hP hl dw ho x0;have HX:=ZA hX;rcases ZJQ (pr:=pr) (l:=l)with⟨h1,h2⟩|⟨k,ck,h1,h2,h3,h4⟩
 ·rw[h1]at IX;have HF:=ZA (ZGQ h2);have HR:=ZA uW;clear h1 h2 uW CB hP hl dw ho x0 hX;go_enter func183,ntmps183;go_wp2_with fail;refine IX.o.mono ?_;rintro e w1 ⟨he,hx⟩;have he:e=.returned (.int .i64 (-1)):=he;subst he;have X1:=ZA hx;clear hx;go_wp2_with fail;go_ret;refine⟨n,rs,by rw[HF.o,Hl.o],aI,rfl,?_,X0.o.trans X1.o⟩;rw[HF.o];refine⟨HR.o.ext X1.o,ZBS (Z5 HO.o X1.o) (λi hi=>HX.o i hi),λr hr=>?_⟩;obtain⟨i,hi⟩:=Ze7 hr;have eG:=(Ze5.1 hi).1;have h9:=HP.o i r _ hi (Ze4 (by rw[<-Hrl.o];exact eG));have kp:Kp w0 w1 X X:=Kp.ext X (X0.o.trans X1.o);exact⟨h9.2.1.kp kp,h9.2.2.kp kp⟩
 ·rw[h1]at IX;have qZ:k<n:=by rw[<-hl];exact(Ze5.1 h2).1
  obtain⟨g,rfl,bE,aA⟩:=JS ho ZB;have bv:((k:Int)==-1)=false:=by rw[Zgb];omega
  have cW:IntKind.i64.wrap ((k:Int)+1)=((k+1:Nat):Int):=by rw[Zee];omega
  have H0:=ZA (show(l.take (k+1)).filter (λc=>!pr c)=l.take k by
   rw[Zv h2,Zev,ZGQ h4];simp[h3])
  clear h1 h2 h3 h4 uW CB hP hl dw ho x0 hX;go_enter func183,ntmps183;go_wp2_with fail;refine IX.o.mono ?_;rintro e w1 ⟨he,hx⟩;have he:e=.returned (.int .i64 k):=he;subst he;have X1:=ZA hx;have O1:=ZA (Z5 HO.o hx);clear hx;go_wp2_with fail
  go_loopw [5,6] (λv5 v6 wr=>∃(i j:Nat) (R:List Z7) (Lc:List ZL),v5=.int .i64 i/\v6=.int .i64 j/\i<j/\j<=n/\R.length=Lc.length/\Lc.length=n/\wr.ownsRow w0.heap.size 62 4 (.slice (some ⟨g,0,none⟩) n c) n (Ya R Lc)/\Lc.take i=(l.take j).filter (λc=>!pr c)/\(∀t,j<=t->Lc[t]?=l[t]?/\R[t]?=rs[t]?)/\(∀(t:Nat) (r:Z7) (e:ZL),R[t]?=some r->Lc[t]?=some e->Yi w0 X r e)/\ZM w0 wr) (λ_ v6 _=>n - (intOf v6).toNat)
  case atStart=>exact⟨k,k+1,rs,l,rfl,by go_num,by omega,by omega,Hrl.o,Hl.o,O1.o,H0.o.symm,λt _=>⟨rfl,rfl⟩,HP.o,X0.o.trans X1.o⟩
  case round=>
   obtain⟨i,j,R,Lc,rfl,rfl,nL,hj,yc,hLn,ho,cS,eO,gf,hx⟩:=hrel;obtain⟨ma,fM,oq,HSM,vw,HRL⟩:=Ju ho hx cS eO gf yc;have iZ:=ZA hLn;clear hx cS gf;by_cases ak:j<n
   ·have eF:(j:Int)<(n:Int):=by omega
    obtain⟨e,he⟩:∃e,Lc[j]?=some e:=⟨_,Ze4 ZB⟩;obtain⟨r,hr⟩:∃r,R[j]?=some r:=⟨_,Ze4 ZB⟩;obtain⟨s1,s2⟩:=eO j (Zf6 _);rw[he]at s1;rw[hr]at s2;have HT:=ZA (Zv s1.symm);have qU:=ZA (vw.o j r e hr he);have d0:wr.cell? ⟨g,j*4,none⟩=some (.int .i64 (e.pol:Int)):=ZCm (j:=0) ho hLn hr he ZB;have d1:wr.cell? ⟨g,j*4+1,none⟩=some (.slice r.K e.key.length r.kc):=ZCm (j:=1) ho hLn hr he ZB;have d2:wr.cell? ⟨g,j*4+2,none⟩=some (.int .i64 e.tat):=ZCm (j:=2) ho hLn hr he ZB;have d3:wr.cell? ⟨g,j*4+3,none⟩=some (.slice r.H e.held.length r.hc):=ZCm (j:=3) ho hLn hr he ZB;obtain⟨kl,Hkl⟩:=ZX2 (e.key.length);obtain⟨hd,Hhd⟩:=ZX2 (e.held.length);have CB:=IJ.o (wr.alloc (.cells #[.int .i64 (e.pol:Int),.slice r.K e.key.length r.kc,.int .i64 e.tat,.slice r.H e.held.length r.hc] 62)) r e (fM.o.alloc _) (ZfU s2.symm) (ZfU s1.symm);obtain⟨q,Hq⟩:=ZX2 (pr e);rw[Hq.o]at CB;rw[Hkl.o]at CB d1;rw[Hhd.o]at CB d3;have CB:=ZA CB;have gp:IntKind.i64.wrap ((j:Int)+1)=((j+1:Nat):Int):=by rw[Zee];omega
    have E8:IntKind.i64.wrap ((i:Int)+1)=((i+1:Nat):Int):=by rw[Zee];omega
    have rf:(0:Int)<=(j:Int):=by omega
    clear he hr s1 s2 eO ho;go_wp2_with fail;refine CB.o.mono ?_;rintro e' w2 ⟨rfl,hy⟩;have XY:=ZA (((ZM.refl wr).alloc _).trans hy);have KB:=ZA (ZK (ZV wr (.cells #[.int .i64 (e.pol:Int),.slice r.K kl r.kc,.int .i64 e.tat,.slice r.H hd r.hc] 62)) hy);have O3:=ZA (Z5 ma.o XY.o);clear hy d0 d1 d2 d3 CB;cases q with
    |true=>
     go_wp2_with fail
     go_roundw
     case rel=>
      refine⟨i,j+1,R,Lc,rfl,by go_num,by omega,ak,HRL.o,iZ.o,O3.o,?_,λt ht=>HSM.o t ZB,vw.o,fM.o.trans XY.o⟩;rw[oq.o,HT.o,Zev];simp[Hq.o]
     case measure=>simp[intOf];omega
    |false=>
     have jz:i<n:=by omega
     have dF:(0:Int)<=(i:Int)/\(i:Int)<(n:Int):=⟨by omega,by omega⟩;have EF:=dF.1;have nM:=dF.2;have hs:∀t,t<4->∃v,w2.cell? ⟨g,i*4+t,none⟩=some v:=λt ht=>by
      rw[O3.o.cellAt (i*4+t) ZB,Ze4 (by rw[ZEn HRL.o,iZ.o];omega)];exact⟨_,rfl⟩
     obtain⟨v0,s0⟩:=hs 0 ZB;obtain⟨v1,s1⟩:=hs 1 ZB;obtain⟨v2,s2⟩:=hs 2 ZB;obtain⟨v3,s3⟩:=hs 3 ZB;rw[Zf2]at s0;have f0:=O3.o.frozenAt (i*4);have f1:=O3.o.frozenAt (i*4+1);have f2:=O3.o.frozenAt (i*4+2);have f3:=O3.o.frozenAt (i*4+3);have c0:=ZX1 KB.o 0 (.int .i64 (e.pol:Int));have c1:=ZX1 KB.o 1 (.slice r.K kl r.kc);have c2:=ZX1 KB.o 2 (.int .i64 e.tat);have c3:=ZX1 KB.o 3 (.slice r.H hd r.hc);clear hs;go_wp2_with fail;obtain⟨dd,be⟩:=JI (Yh r e) w2 _ (i*4) O3.o;rw[ZDB HRL.o i r e (by rw[iZ.o];exact jz)]at dd;obtain⟨w3,jr⟩:=ZX3 (w2.setCells g (i*4) (Yh r e));have kE:(((w2.setCell ⟨g,i*4,none⟩ (.int .i64 (e.pol:Int))).setCell ⟨g,i*4+1,none⟩ (.slice r.K kl r.kc)).setCell ⟨g,i*4+2,none⟩ (.int .i64 e.tat)).setCell ⟨g,i*4+3,none⟩ (.slice r.H hd r.hc)=w3:=by
      rw[<-jr,<-Hkl.o,<-Hhd.o];rfl
     rw[kE];rw[jr]at dd be;have j6:=ZA dd;have XF:=ZA (show ZM w0 w3 from Yr (fM.o.trans XY.o) be bE);clear dd be jr kE;go_wp2_with fail
     go_roundw
     case rel=>
      refine⟨i+1,j+1,R.set i r,Lc.set i e,by go_num,by go_num,by omega,ak,by rw[ZfK,ZfK];exact HRL.o,by rw[ZfK];exact iZ.o,j6.o,?_,λt ht=>?_,λt r' e' bC nN=>?_,XF.o⟩
      ·rw[HT.o,Zev,<-oq.o,Zv (xs:=Lc.set i e) (by rw[ZfA (by rw[iZ.o];exact jz)])];rw[List.take_set_of_le (Zf6 i)];simp[Hq.o]
      ·rw[Ze9 ZB,Ze9 ZB];exact HSM.o t ZB
      ·by_cases q:i=t
       ·subst q;rw[ZfA (by rw[HRL.o,iZ.o];exact jz)]at bC;rw[ZfA (by rw[iZ.o];exact jz)]at nN;injection bC with bC;injection nN with nN;subst bC nN;exact qU.out
       ·rw[Ze9 q]at bC nN;exact vw.o t r' e' bC nN
     case measure=>simp[intOf];omega
   ·have eF:¬(j:Int)<(n:Int):=by omega
    have xr:j=n:=by omega
    have jz:i<n:=by omega
    obtain⟨ZS,hZS⟩:=ZX3 ((Builtin.zeroCells (Value.cells (.agg #[.int .i64 0,.slice none 0 0,.int .i64 0,.slice none 0 0])) (n - i)).toList);have hZ:=ZRb (n - i);rw[hZS]at hZ;have aJ:(Ya R Lc).length=n*4:=by rw[ZEn yc,hLn]
    have hcl:∀ty,(Builtin.clear_ #[56] ty #[.slice (some ⟨g,i*4,none⟩) (n - i) (c - i)]).run prog wr=.ok (.tuple #[]) (wr.setCells g (i*4) ZS):=
     λty=>ZCP wr _ _ ty _ ZS underlying56 ZVb g (i*4) _ _ ZB hZS hZ.2 (λt ht=>by
      rw[hZ.1]at ht;rw[ho.cellAt _ ZB,Ze4 (by rw[aJ];omega)];rfl) (λt _=>ho.frozenAt _)
    obtain⟨W2,cN⟩:=ZX3 (wr.setCells g (i*4) ZS);have be:=JI ZS wr _ (i*4) ho;rw[cN]at be hcl;have dF:(0:Int)<=(i:Int):=by omega
    have xy:i<=c:=by omega
    have eQ:(i:Int)<=(n:Int):=by omega
    have bZ:=ZFS;have XF:=ZA (show ZM w0 W2 from Yr fM.o be.2 bE);obtain⟨iY,HZ1,oy⟩:=Z8 be.1 hZ.1 aJ;clear ho eO be cN hZ hZS aJ yc hLn;go_wp2_with fail;go_ret;have se:Lc.take i=l.filter λc=>!pr c:=by
     rw[oq.o,xr,<-Hl.o,Zfo]
    have Be:(R.take i).length=(Lc.take i).length:=by rw[ZfL,ZfL,HRL.o]
    have az:(Xg (Ya R Lc) (i*4) ZS).take (i*4)=Ya (R.take i) (Lc.take i):=by
     rw[Xy _ _ _ (by rw[oy.o,HZ1.o];omega),Zfn (by rw[ZfL,oy.o];omega)];exact(ZDt Yh 4 Xa R Lc i HRL.o).symm
    have jv:(Lc.take i).length=i:=by rw[ZfL,iZ.o];omega
    have hO:=ZFs iY.o (k:=i) ZB;rw[az]at hO;refine⟨i,R.take i,by rw[<-se];exact jv,xy,rfl,?_,XF.o⟩;rw[<-se];have kp:Kp w0 W2 X X:=Kp.ext X XF.o;have hq:∀(t:Nat) (r:Z7) (e:ZL),(R.take i)[t]?=some r->(Lc.take i)[t]?=some e->Yi w0 X r e:=λt r e hr he=>by
     rw[ZfB]at hr he
     split at hr
     ·next h=>rw[Zgl h]at he;exact vw.o t r e hr he
     ·cases hr
    refine⟨⟨Be,XJ hO,λt r e hr he=>(hq t r e hr he).1.ext XF.o⟩,ZBS hO (λi hi=>HX.o i hi),λr hr=>?_⟩;obtain⟨t,ht⟩:=Ze7 hr;have fl:=(Ze5.1 ht).1;have h9:=hq t r _ ht (Ze4 (by rw[<-Be];exact fl));exact⟨h9.2.1.kp kp,h9.2.2.kp kp⟩
def ZXH (w:World)(base g n c:Nat)(l:List ZL)(e:Ending)(w':World):Prop:=e=.returned (.tuple #[])/\∃l' rs',YF w' base (some ⟨g,0,none⟩) n c l' rs'/\l'.Perm l/\GB w w' (· =g)
theorem YF.cell {w:World}{base g n c:Nat}{l:List ZL}{rs:List Z7}(h:YF w base (some ⟨g,0,none⟩) n c l rs){i j:Nat}{r:Z7}{e:ZL}(hr:rs[i]?=some r)(he:l[i]?=some e)(hj:j<4):w.cell? ⟨g,i*4+j,none⟩=(Yh r e)[j]?:=ZCm h.2.2.1 h.2.1 hr he hj
theorem ZQd (w base g n c l rs)(h:YF w base (some ⟨g,0,none⟩) n c l rs)(hn:n<=5000)(hk:∀e ∈ l,ZAO e): Calls prog 218 #[.slice (some ⟨g,0,none⟩) n c,.int .i64 0,.int .i64 n,YD 120 #[]] w (ZXH w base g n c l):=by
 have aI:=YR h.2.2.1;have H:=ZA h;have HK:=ZA hk;clear h hk;go_enter func218,ntmps218;go_wp2_with fail
 go_loopw [8] (λv8 wr=>∃(i:Nat) (l':List ZL) (rs':List Z7),v8=.int .i64 i/\1<=i/\i<=n+1/\YF wr base (some ⟨g,0,none⟩) n c l' rs'/\l'.Perm l/\GB w wr (· =g)) (λv8 _=>n+1 - (intOf v8).toNat)
 case atStart=>exact⟨1,l,rs,rfl,by omega,by omega,H.o,List.Perm.refl _,GB.refl _ _⟩
 case round=>
  obtain⟨i,l1,zN,rfl,EF,eQ,hN,hp,hg⟩:=hrel;obtain⟨HN,HP,HG⟩:=Z8 hN hp hg;clear hN hp hg;by_cases ak:i<n
  ·have eF:(i:Int)<(n:Int):=by omega
   have gp:IntKind.i64.wrap ((i:Int)+1)=((i+1:Nat):Int):=by rw[Zee];omega
   go_wp2_with fail
   go_loopw [9] (λv9 wx=>∃(j:Nat) (l':List ZL) (rs':List Z7),v9=.int .i64 j/\j<=i/\YF wx base (some ⟨g,0,none⟩) n c l' rs'/\l'.Perm l/\GB w wx (· =g)) (λv9 _=>(intOf v9).toNat)
   case atStart=>exact⟨i,l1,zN,rfl,Zf6 _,HN.o,HP.o,HG.o⟩
   case round=>
    obtain⟨j,l2,kw,rfl,dg,hN,hp,hg⟩:=hrel;obtain⟨rC,iY,j7⟩:=Z8 hN hp hg;by_cases hj:0<j
    ·have Et:(0:Int)<(j:Int):=by omega
     obtain⟨k,Hk⟩:∃k,ZD (j=k+1):=⟨j - 1,ZA ZB⟩;have Ep:k<j:=by have:=Hk.o;omega
     have cW:IntKind.i64.wrap ((j:Int) - 1)=(k:Int):=by have:=Hk.o;rw[Zee];omega
     obtain⟨eb,Heb⟩:∃e,ZD (l2[j]?=some e):=⟨_,Ze4 (by rw[hN.2.1];omega)⟩;obtain⟨ea,Hea⟩:∃e,ZD (l2[k]?=some e):=⟨_,Ze4 (by rw[hN.2.1];omega)⟩;obtain⟨rb,Hrb⟩:∃e,ZD (kw[j]?=some e):=⟨_,Ze4 (by rw[hN.1,hN.2.1];omega)⟩;obtain⟨ra,Hra⟩:∃e,ZD (kw[k]?=some e):=⟨_,Ze4 (by rw[hN.1,hN.2.1];omega)⟩;have b0:wr.cell? ⟨g,j*4,none⟩=some (.int .i64 (eb.pol:Int)):=hN.cell (j:=0) Hrb.o Heb.o ZB;have b1:wr.cell? ⟨g,j*4+1,none⟩=some (.slice rb.K eb.key.length rb.kc):=hN.cell (j:=1) Hrb.o Heb.o ZB;have b2:wr.cell? ⟨g,j*4+2,none⟩=some (.int .i64 eb.tat):=hN.cell (j:=2) Hrb.o Heb.o ZB;have b3:wr.cell? ⟨g,j*4+3,none⟩=some (.slice rb.H eb.held.length rb.hc):=hN.cell (j:=3) Hrb.o Heb.o ZB;have a0:wr.cell? ⟨g,k*4,none⟩=some (.int .i64 (ea.pol:Int)):=hN.cell (j:=0) Hra.o Hea.o ZB;have a1:wr.cell? ⟨g,k*4+1,none⟩=some (.slice ra.K ea.key.length ra.kc):=hN.cell (j:=1) Hra.o Hea.o ZB;have a2:wr.cell? ⟨g,k*4+2,none⟩=some (.int .i64 ea.tat):=hN.cell (j:=2) Hra.o Hea.o ZB;have a3:wr.cell? ⟨g,k*4+3,none⟩=some (.slice ra.H ea.held.length ra.hc):=hN.cell (j:=3) Hra.o Hea.o ZB;have kb:ZAO eb:=HK.o eb (hp.mem_iff.1 (ZfU Heb.o));have ka:ZAO ea:=HK.o ea (hp.mem_iff.1 (ZfU Hea.o));obtain⟨pb,-,-⟩:=hN.2.2.2 j rb eb Hrb.o Heb.o;obtain⟨pa,-,-⟩:=hN.2.2.2 k ra ea Hra.o Hea.o;obtain⟨wo,Hkbl⟩:=ZX2 (eb.key.length);obtain⟨cw,Hhbl⟩:=ZX2 (eb.held.length);obtain⟨wq,Hkal⟩:=ZX2 (ea.key.length);obtain⟨lV,Hhal⟩:=ZX2 (ea.held.length);rw[Hkbl.o]at b1;rw[Hhbl.o]at b3;rw[Hkal.o]at a1;rw[Hhal.o]at a3;have OR:=ZA (λu (y:ZM wr u)=>ZIC u eb ea rb ra wo wq cw lV kb ka Hkbl.o Hkal.o (pb.2.1.ext y) (pa.2.1.ext y));obtain⟨ok,lx⟩:=ZX2 (ord eb.id ea.id);rw[lx.o]at OR;have xr:(0:Int)<=(j:Int)/\(j:Int)<(n:Int):=⟨by omega,by omega⟩;have qZ:(0:Int)<=(k:Int)/\(k:Int)<(n:Int):=⟨by omega,by omega⟩;clear hN hp hg kb ka pb pa;go_upto_region 4 with fail
     go_region_held3 (λw'=>w'.cell? ⟨g,j*4,none⟩=some (.int .i64 (eb.pol:Int))/\w'.cell? ⟨g,j*4+1,none⟩=some (.slice rb.K wo rb.kc)/\w'.cell? ⟨g,j*4+2,none⟩=some (.int .i64 eb.tat)/\w'.cell? ⟨g,j*4+3,none⟩=some (.slice rb.H cw rb.hc)/\w'.cell? ⟨g,k*4,none⟩=some (.int .i64 (ea.pol:Int))/\w'.cell? ⟨g,k*4+1,none⟩=some (.slice ra.K wq ra.kc)/\w'.cell? ⟨g,k*4+2,none⟩=some (.int .i64 ea.tat)/\w'.cell? ⟨g,k*4+3,none⟩=some (.slice ra.H lV ra.hc)) (((try go_split_ands);exact⟨ZX7,ZX7,ZX7,ZX7,ZX7,ZX7,ZX7,ZX7⟩)) ((go_at_call 120;(with_reducible refine(OR.o wr.drew (ZM.refl wr).drew).mono ?_);rintro e9 w9 ⟨rfl,hy⟩;have HY:=ZA ((ZM.refl wr).drew.trans hy);have iz:=ZF (HY.o) b0;have jM:=ZF (HY.o) b1;have iy:=ZF (HY.o) b2;have jL:=ZF (HY.o) b3;have Ks:=ZF (HY.o) a0;have Kr:=ZF (HY.o) a1;have Kq:=ZF (HY.o) a2;have Ko:=ZF (HY.o) a3;clear hy))
     all_goals
      have N9:=ZA (rC.o.ext HY.o);have G9:=ZA (j7.o.ext HY.o);by_cases jv:ok<0
      ·have f0:=N9.o.2.2.1.frozenAt (j*4);have f1:=N9.o.2.2.1.frozenAt (j*4+1);have f2:=N9.o.2.2.1.frozenAt (j*4+2);have f3:=N9.o.2.2.1.frozenAt (j*4+3);have f4:=N9.o.2.2.1.frozenAt (k*4);have f5:=N9.o.2.2.1.frozenAt (k*4+1);have f6:=N9.o.2.2.1.frozenAt (k*4+2);have f7:=N9.o.2.2.1.frozenAt (k*4+3);clear b0 b1 b2 b3 a0 a1 a2 a3;go_upto_region 6 with fail;go_region;obtain⟨s1,s2⟩:=N9.o.swap Hk.o Hea.o Heb.o Hra.o Hrb.o;obtain⟨W,hW⟩:=ZX3 (((w9.setCells g (j*4) (Yh ra ea)).setCells g (k*4) (Yh rb eb)));have kE:(((((((w9.setCell ⟨g,j*4,none⟩ (.int .i64 (ea.pol:Int))).setCell ⟨g,j*4+1,none⟩ (.slice ra.K wq ra.kc)).setCell ⟨g,j*4+2,none⟩ (.int .i64 ea.tat)).setCell ⟨g,j*4+3,none⟩ (.slice ra.H lV ra.hc)).setCell ⟨g,k*4,none⟩ (.int .i64 (eb.pol:Int))).setCell ⟨g,k*4+1,none⟩ (.slice rb.K wo rb.kc)).setCell ⟨g,k*4+2,none⟩ (.int .i64 eb.tat)).setCell ⟨g,k*4+3,none⟩ (.slice rb.H cw rb.hc)=W:=by
        rw[<-hW,<-Hkbl.o,<-Hhbl.o,<-Hkal.o,<-Hhal.o];rfl
       rw[kE];rw[hW]at s1 s2;have Gl:=ZA s1;have I4:=ZA (G9.o.trans s2 (λi e=>.inl e));have Gc:=ZA ((ZPt Hk.o Hea.o Heb.o).trans iY.o);clear s1 s2 kE hW f0 f1 f2 f3 f4 f5 f6 f7;go_wp2_with fail
       go_roundw
       case rel=>exact⟨k,_,_,rfl,by omega,Gl.o.ext (ZM.refl W).drew,Gc.o,I4.o.ext (ZM.refl W).drew⟩
       case measure=>simp[intOf];omega
      ·go_wp2_with fail
       go_roundw
       case rel=>exact⟨i+1,l2,kw,by go_num,by omega,by omega,N9.o,iY.o,G9.o⟩
       case measure=>simp[intOf];omega
    ·obtain rfl:j=0:=by omega
     have Ls:decide (((0:Nat):Int) > 0)=false:=by decide
     have Eu:decide ((0:Int)<((0:Nat):Int))=false:=by decide
     clear hN hp hg;go_upto_region 4 with fail
     go_quiet (fail)
     go_wp2_with fail
     go_roundw
     case rel=>exact⟨i+1,l2,kw,by go_num,by omega,by omega,rC.o.ext ((ZM.refl wr).drewN _),iY.o,j7.o.ext ((ZM.refl wr).drewN _)⟩
     case measure=>simp[intOf];omega
  ·have eF:¬(i:Int)<(n:Int):=by omega
   go_wp2_with fail
   go_end0
   exact⟨rfl,l1,zN,HN.o,HP.o,HG.o⟩
def ZUB (w:World)(base:Nat)(A:Option Addr)(n c:Nat)(l:List ZL)(e:Ending)(w':World):Prop:=e=.returned (.tuple #[])/\∃l' rs',YF w' base A n c l' rs'/\l'.Perm l/\GB w w' (λi=>(Value.slice A n c).ownBlock=some i)
theorem ZNm (w base A n c l rs)(h:YF w base A n c l rs)(hn:n<=5000)(hk:∀e ∈ l,ZAO e): Calls prog 218 #[.slice A n c,.int .i64 0,.int .i64 n,YD 120 #[]] w (ZUB w base A n c l):=by
 rcases ZgC 1 n with q|q
 ·have hc:=YR h.2.2.1;obtain⟨g,rfl,bE,aA⟩:=JS h.2.2.1 ZB;refine(ZQd w base g n c l rs h hn hk).mono ?_;rintro e w' ⟨he,l',rs',h1,h2,h3⟩;have bq:(Value.slice (some ⟨g,0,none⟩) n c).ownBlock=some g:=by
   simp[Value.ownBlock]
   try omega
  exact⟨he,l',rs',h1,h2,h3.more (λi _ e=>by rw[bq,show i=g from e])⟩
 ·refine(ZQc A n c 120 w ZB).mono ?_;rintro e w' ⟨he,rfl⟩;exact⟨he,l,rs,h,List.Perm.refl _,GB.refl _ _⟩
theorem ZS6 (w base A n c iD l rs)(h:YF w base A n c l rs)(hn:n<=12)(hk:∀e ∈ l,ZAO e): Calls prog 166 #[.slice A n c,.int .i64 0,.int .i64 n,.int .i64 iD,YD 120 #[]] w (ZUB w base A n c l):=by
 have IS:=ZA (ZNm w base A n c l rs h ZB hk);have h1:(n:Int)<=12:=by omega
 have hw:IntKind.i64.wrap ((n:Int) - 0)=(n:Int):=by rw[Zee];omega
 have cV:wrap64 (n:Int)=(n:Int):=by unfold wrap64;omega
 clear hn h hk;go_enter func166,ntmps166;go_wp2_with fail
 go_loopw [1,2,3] (λv1 v2 v3 wr=>v1=.int .i64 0/\v2=.int .i64 n/\v3=.int .i64 iD/\wr=w) (λ_ _ _ _=>0)
 case atStart=>exact⟨rfl,rfl,rfl,rfl⟩
 case round=>
  obtain⟨rfl,rfl,rfl,rfl⟩:=hrel;go_wp2_with fail;refine IS.o.mono ?_;rintro e w1 ⟨rfl,hs⟩;have HS:=ZA hs;clear hs;go_wp2_with fail
  (first|go_end0|refine Zgd (Zgr rfl _ _ _) rfl ?_)
  exact⟨rfl,HS.o⟩
theorem ZNn (w base A n c l rs)(h:YF w base A n c l rs)(hn:n<=12)(hk:∀e ∈ l,ZAO e): Calls prog 119 #[.slice A n c,YD 120 #[]] w (ZUB w base A n c l):=by
 have BL:=ZA (ZTy n ZB w);have PD:=ZA (λiD=>ZS6 w base A n c iD l rs h hn hk);have cV:IntKind.u64.wrap (n:Int)=(n:Int):=by rw[Zef];omega
 clear hn h hk;go_enter func119,ntmps119;go_wp2_with fail;refine BL.o.mono ?_;rintro e w1 ⟨⟨iD,rfl⟩,rfl⟩;go_wp2_with fail;refine(PD.o iD).mono ?_;rintro e w1 ⟨rfl,hs⟩;have HS:=ZA hs;clear hs;go_wp2_with fail
 go_end0
 exact⟨rfl,HS.o⟩
def XP (X:Zhf)(v:Value):Nat->Prop:=λi=>X i\/v.ownBlock=some i
theorem ZR2{e:TypeId}{s:Nat}(ho:w'.ownsRow base e s (.slice A n c) n xs)(x:ZM w w')(hb:w.heap.size<=base):Kp w w' X (XP X (.slice A n c)):=⟨λi h1 _=>x.block i h1,λi h1 h2=>h2.elim id (λq=>by have:=(ho.lt i q).1;omega),x.size⟩
theorem ZJr{m d:Nat}(g:w.grownBy w' (Value.slice A n c).ownBlock)(hb:(Value.slice B m d).ownBlock=(Value.slice A n c).ownBlock\/(Value.slice B m d).ownBlock=some w.heap.size):Kp w w' (XP X (.slice A n c)) (XP X (.slice B m d)):=by
 have g2:GB w w' (λi=>(Value.slice A n c).ownBlock=some i):=(GB.refl w _).grown g (λq e=>.inl e);refine Kp.of g2 (λi _ e=>.inr e) (λi hi e=>e.elim .inl (λq=>?_));rcases hb with hb|hb
 ·exact .inr (hb ▸ q)
 ·rw[hb]at q;injection q with q;omega
theorem ZBL.kp{X':Zhf}{hv:List Value}{ll:List (List ZL)}(h:ZBL w X hv ll)(k:Kp w w' X X'):ZBL w' X' hv ll:=⟨h.1,λi l hl=>by obtain⟨A,c,rs,h1,h2⟩:=h.2 i l hl;exact⟨A,c,rs,h1,h2.kp k⟩⟩
theorem ZWW(h:j<16):j<18446744073709551616:=by omega
theorem ZR3 {j:Nat}(h:j<16):IntKind.u64.wrap (j:Int)=(j:Int):=by rw[Zef];omega
theorem ZUL {q:Nat}(h:q<2):IntKind.i64.wrap ((q:Int)+1)=((q+1:Nat):Int):=by rw[Zee];omega
theorem ZR4 {lv:Nat}(h:lv<=3):wrap64 ((lv:Int)+1)=(lv:Int)+1:=by unfold wrap64;omega
theorem ZPe {lv:Nat}(h:lv<=3):IntKind.i64.wrap ((lv:Int)+1)=(lv:Int)+1:=by rw[Zee];omega
def ZDL (s:Z9)(lv i j:Nat):List ZL:=if s.ws.getD (ZO (lv+1) j) 0=0 then JU (s.hs.getD (ZO lv i) []) (lv+1) j else s.hs.getD (ZO (lv+1) j) []
def ZIp (s:Z9)(lv i:Nat):List (List ZL):=if Zb<=s.ws.getD (ZO lv i) 0 then [ZDL s lv i i,ZDL s lv i (i+2 ^ lv)] else [s.hs.getD (ZO lv i) []]
def ZGi (s:Z9)(lv k:Nat):List (List ZL):=(List.range k).flatMap (ZIp s lv)
theorem ZCu (s lv k):ZGi s lv (k+1)=ZGi s lv k++ZIp s lv k:=by
 unfold ZGi;rw[List.range_succ,Zew,Zex,List.flatMap_nil,Zek]
theorem ZT5 (s lv k):(ZGi s lv k).length<=2*k:=by
 induction k with
 |zero=>exact Zf6 _
 |succ k ih=>
  rw[ZCu,ZfE];have:(ZIp s lv k).length<=2:=by unfold ZIp;split<;>simp
  omega
theorem ZS7 (w:World)(g:Zz)(O C xb L)(s:Z9)(lv)(h:YQ w g O C xb L s)(hu:s.ws.getD 0 0=2*lv+1)(fD:lv<=3)(hk:∀i,∀e ∈ s.hs.getD i [],ZAO e)(hl:∀i,(s.hs.getD i []).length<=5000)(fw:∀i,s.ws.getD i 0<18446744073709551616): Calls prog 117 #[ZH g.gl] w λe w'=>∃n B cb hv,e=.returned (.slice B n cb)/\n<=16/\(ZGi s lv (2 ^ lv)).length=n/\w'.ownsRow w.heap.size 56 1 (.slice B n cb) n hv/\ZBL w' (XP (XO C O) (.slice B n cb)) hv (ZGi s lv (2 ^ lv))/\ZM w w':=by
 have LV:=ZA (ZHt w g O C xb L s (2*lv+1) h hu ZB);have e1:(2*lv+1) / 2=lv:=by omega
 have e2:decide ((2*lv+1) % 2=1)=true:=Zgg ZB;rw[e1,e2]at LV;have iQ:Zb=4611686018427387904:=rfl;obtain⟨N,hN⟩:=ZX3 (2 ^ lv);have Lz:N<=8:=by
  have:lv=0\/lv=1\/lv=2\/lv=3:=by omega
  rw[<-hN];rcases this with rfl|rfl|rfl|rfl<;>omega
 have pE:=ZDU (show lv<=4 by omega);rw[hN]at pE;have ua:=ZA pE;have sM:(0:Int)<=(lv:Int):=by omega
 rw[hN];obtain⟨H,HN,Ir,iZ,GP⟩:=ZBR h hN hk hl fw;have uf:=ZA (show YE w (XO C O)from λi hi=>hi.elim (h.lt i) (h.ol i));have d0:=h.rd.l0;have c1:=h.rd.l1;clear h hu e1 e2 pE hN hk hl fw;go_enter func117,ntmps117;go_wp2_with fail;refine LV.o.mono ?_;rintro e w1 ⟨rfl,hx⟩;have X1:=ZA hx;clear hx;go_wp2_with fail;(try rw[ua.o]);go_loopw [3,20] (λv3 oC wr=>∃(k m:Nat) (B:Option Addr) (cb:Nat) (hv:List Value),k<=N/\v3=.slice B m cb/\oC=.int .i64 k/\(ZGi s lv k).length=m/\wr.ownsRow w.heap.size 56 1 (.slice B m cb) m hv/\ZBL wr (XP (XO C O) (.slice B m cb)) hv (ZGi s lv k)/\ZM w wr) (λ_ oC _=>N - (intOf oC).toNat);case atStart=>exact⟨0,0,none,0,[],ZgR _,rfl,rfl,rfl,ZgZ _ _ _ _,ZBL.nil _ _,X1.o⟩
 case round=>
  obtain⟨T1,T2,T3,T4,T5⟩:=QA;exact ZYd
def ZEr (s:Z9):List (List ZL):=if s.ws.getD 0 0 % 2=0 then ZOn s (s.ws.getD 0 0 / 2) (2 ^ (s.ws.getD 0 0 / 2)) else ZGi s (s.ws.getD 0 0 / 2) (2 ^ (s.ws.getD 0 0 / 2))
def ZXc (w:World)(s:Z9)(e:Ending)(w':World):Prop:=∃n B cb hv X,e=.returned (.slice B n cb)/\n<=16/\(ZEr s).length=n/\w'.ownsRow w.heap.size 56 1 (.slice B n cb) n hv/\ZBL w' X hv (ZEr s)/\ZM w w'
theorem ZS8 (w)(g:Zz)(O C xb L)(s:Z9)(h:YQ w g O C xb L s)(hd:s.ws.getD 0 0<=8)(hk:∀i,∀e ∈ s.hs.getD i [],ZAO e)(hl:∀i,(s.hs.getD i []).length<=5000)(fw:∀i,s.ws.getD i 0<18446744073709551616): Calls prog 117 #[ZH g.gl] w (ZXc w s):=by
 by_cases q:s.ws.getD 0 0 % 2=0
 ·have e:ZEr s=ZOn s (s.ws.getD 0 0 / 2) (2 ^ (s.ws.getD 0 0 / 2)):=Zgl q;have hn:2 ^ (s.ws.getD 0 0 / 2)<=16:=ZgO (n:=2) (j:=4) ZB ZB;refine(ZQr w g O C xb L s (s.ws.getD 0 0 / 2) h ZB ZB).mono ?_;rintro e' w' ⟨B,cb,hv,he,ho,ha,hx⟩;exact⟨_,B,cb,hv,_,he,hn,by rw[e];unfold ZOn;rw[List.length_map,List.length_range],ho,by rw[e];exact ha.ext hx,hx⟩
 ·have e:ZEr s=ZGi s (s.ws.getD 0 0 / 2) (2 ^ (s.ws.getD 0 0 / 2)):=Zgk q;refine(ZS7 w g O C xb L s (s.ws.getD 0 0 / 2) h ZB ZB hk hl fw).mono ?_;rintro e' w' ⟨n,B,cb,hv,he,hn,aF,ho,ha,hx⟩;exact⟨n,B,cb,hv,_,he,hn,by rw[e];exact aF,ho,by rw[e];exact ha,hx⟩
theorem ZPU {s:Z9}{l:List ZL}(h:l ∈ ZEr s){c:ZL}(hc:c ∈ l):∃i,c ∈ s.hs.getD i []:=by
 unfold ZEr at h
 split at h
 ·obtain⟨i,-,rfl⟩:=ZfT.1 h;exact⟨_,hc⟩
 ·obtain⟨i,-,h⟩:=ZfS.1 h;have hf:∀lv i j,c ∈ ZDL s lv i j->∃i,c ∈ s.hs.getD i []:=λlv i j hc=>by
   unfold ZDL at hc
   split at hc
   ·exact⟨_,(ZfR.1 hc).1⟩
   ·exact⟨_,hc⟩
  unfold ZIp at h
  split at h
  ·rcases ZfO.1 h with rfl|h
   ·exact hf _ _ _ hc
   ·rw[Zfa]at h;subst h;exact hf _ _ _ hc
  ·rw[Zfa]at h;subst h;exact⟨_,hc⟩
theorem ZRF {α:Type}{ll:List (List α)}{k:Nat}{l:List α}(h:ll[k]?=some l):(ll.take (k+1)).flatten=(ll.take k).flatten++l:=by
 rw[List.take_add_one,h,List.flatten_append];simp
theorem ZPM {α:Type}(ll:List (List α))(k):(ll.take k).flatten.length<=ll.flatten.length:=by
 conv=>rhs;rw[<-Zfl k ll,List.flatten_append,ZfE]
 omega
def ZUJ (s:Z9)(w:World)(e:Ending)(w':World):Prop:=∃A n c l rs,e=.returned (.slice A n c)/\n<=12/\YF w' w.heap.size A n c l rs/\l.Perm (ZEr s).flatten/\ZM w w'
theorem ZNt (w)(g:Zz)(O C xb L)(s:Z9)(h:YQ w g O C xb L s)(hd:s.ws.getD 0 0<=8)(hk:∀i,∀e ∈ s.hs.getD i [],ZAO e/\e.held.length<=5000)(hl:∀i,(s.hs.getD i []).length<=5000)(fw:∀i,s.ws.getD i 0<18446744073709551616)(bL:(ZEr s).flatten.length<=12): Calls prog 70 #[ZH g.gx] w (ZUJ s w):=by
 have AL:=ZA (ZS8 w g O C xb L s h hd (λi e he=>(hk i e he).1) hl fw);have c2:=h.rd.c2;have aX:∀l ∈ ZEr s,∀e ∈ l,ZAO e/\e.held.length<=5000:=λl hl e he=>by
  obtain⟨i,hi⟩:=ZPU hl he;exact hk i e hi
 have HK:=ZA aX;obtain⟨ll,Hll⟩:=ZX2 (ZEr s);unfold ZXc ZUJ at*;rw[Hll.o]at AL HK bL ⊢;have Cl:=ZA bL;clear h hd aX hk hl fw bL;go_enter func70,ntmps70;go_wp2_with fail;refine AL.o.mono ?_;rintro e w1 ⟨n,B,cb,hv,X,rfl,hn,aF,ho,ha,hx⟩;have iZ:=ZA aF;have gE:=ZA (XJ ho);have HA:=ZA ha;have X1:=ZA hx;have SF:=ZA (λB q d u base l rs h (hq:q<=12) hk=>ZNn u base B q d l rs h hq hk);clear aF ho ha hx AL c2;go_wp2_with fail
 go_loopw [3,14] (λv3 vM wr=>∃(k q:Nat) (B:Option Addr) (cb:Nat) (kk:List Z7),k<=n/\vM=.int .i64 k/\v3=.slice B q cb/\ZM w1 wr/\YF wr w1.heap.size B q cb ((ll.take k).flatten) kk) (λ_ i _=>n - (intOf i).toNat)
 case atStart=>exact⟨0,0,none,0,[],by omega,rfl,rfl,ZM.refl w1,YF.nil _ _⟩
 case round=>
  obtain⟨k,q,B6,rx,kk,hk,rfl,rfl,hx,hN⟩:=hrel;have HX:=ZA hx;have HN:=ZA hN;have sA:q<=12:=by have:=ZPM ll k;have:=hN.2.1;have:=Cl.o;omega
  clear hN hx;by_cases ak:k<n
  ·have dy:(k:Int)<(n:Int):=by omega
   have iO:(0:Int)<=(k:Int):=by omega
   have gp:IntKind.i64.wrap ((k:Int)+1)=((k+1:Nat):Int):=by rw[Zee];omega
   obtain⟨l,Hl⟩:∃l,ZD (ll[k]?=some l):=⟨_,Ze4 (by rw[iZ.o];exact ak)⟩;obtain⟨A,c,rs,e0,bo⟩:=HA.o.2 k l Hl.o;obtain⟨m,Hm⟩:=ZX2 (l.length);rw[Hm.o]at e0;obtain⟨bb,off,hB,hc⟩:=gE.o (by intro e;rw[e]at e0;simp at e0);have d0:wr.cell? ⟨bb,off+k,none⟩=some (.slice A m c):=ZF HX.o (hc k _ e0);subst hB;have HF:=ZA (ZRF Hl.o);have Ei:q+m<=12:=by
    have h1:=ZPM ll (k+1);rw[HF.o,ZfE,Hm.o,HN.o.2.1]at h1;have:=Cl.o;omega
   have CP:=ZA (λu (y:ZM w1 u)=>ZRv u X A m c l rs (bo.ext y) Hm.o ZB (λe he=>⟨by have:=(HK.o l (ZfU Hl.o) e he).1.2.1;omega,(HK.o l (ZfU Hl.o) e he).2⟩));clear e0 bo hc;go_upto_region 7 with fail;go_wp2_with fail;refine(CP.o _ HX.o).mono ?_;rintro e w5 ⟨A5,c5,CZ,rfl,h5,x5⟩;rw[Hm.o]at h5 ⊢;have H5:=ZA h5;have X5:=ZA x5;have pK:q+m<=1000000:=by omega
   have bZ:=(HX.o.trans x5).size;clear h5 x5 d0;go_wp2_with (at_builtin;refine ZWn w5 rfl (.tmp 18) (.tmp 20) rfl w1.heap.size rfl (Z5 HN.o.2.2.1 X5.o) rfl (by rw[ZRa _ _ H5.o.1,Hm.o]) (XJ H5.o.2.2.1) (ZMa _ _) pK bZ ?_;intro B7 FH w6 o6 g6 b6;have N6:=ZA (HN.o.app X5.o H5.o (Zf6 _) HX.o.size o6 g6 b6);have X6:=ZA ((HX.o.trans X5.o).grown g6 (λq e=>(HN.o.2.2.1.lt q e).1));clear o6 g6 b6)
   go_roundw
   case rel=>exact⟨k+1,q+m,B7,FH,_,ak,by go_num,rfl,X6.o,by rw[HF.o];exact N6.o⟩
   case measure=>simp[intOf];omega
  ·have dy:¬(k:Int)<(n:Int):=by omega
   obtain rfl:k=n:=by omega
   have aU:(ll.take k).flatten=ll.flatten:=by rw[Zfp (by rw[iZ.o];exact Zf6 _)]
   rw[aU]at HN
   have F9:=ZA (SF.o B6 q rx wr w1.heap.size _ kk HN.o sA (λe he=>by
    obtain⟨l,hl,EX⟩:=List.mem_flatten.1 he;exact(HK.o l hl e EX).1))
   have GE:=ZA (HN.o.2.2.1.lt);clear aU;go_wp2_with fail;refine F9.o.mono ?_;rintro e w6 ⟨rfl,l',rs',bG,eK,jA⟩;have vx:=ZA bG;have Ik:=ZA eK;have IA:=ZA jA;clear bG eK jA;go_wp2_with fail;go_ret;have hz:=X1.o.size;exact⟨B6,q,rx,l',rs',rfl,sA,vx.o.base hz,Ik.o,IA.o.to_ext (X1.o.trans HX.o) (λi e=>Zf8 hz (GE.o i e).1)⟩
theorem ZLK {ι:Type}(K L)(f:ι->Nat):Xq (K++L) f=Xq K f+Xq L f:=by
 unfold Xq;rw[List.map_append,List.sum_append]
theorem ZHK {ι:Type}[DecidableEq ι](f:ι->Nat):∀(K L:List ι),K.Nodup->(∀a ∈ K,a ∈ L)->Xq K f<=Xq L f
 |[],L,_,_=>ZgR _
 |a::K,L,hn,hs=>by
  obtain⟨h1,h2⟩:=Zfc.1 hn;have ha:a ∈ L:=hs a ZfQ;have hp:=List.perm_cons_erase ha
  have ih:=ZHK f K (L.erase a) h2 (λb hb=>by
   have jC:=hs b (ZfP _ hb);have ag:b≠a:=λe=>h1 (e ▸ hb);exact(List.mem_erase_of_ne ag).2 jC)
  have e:Xq L f=Xq (a::L.erase a) f:=by
   unfold Xq;exact(hp.map f).sum_nat
  rw[e,Yd,Yd];omega
theorem ZE3 {ι κ:Type}(L:List ι)(g:ι->κ)(f:κ->Nat):Xq (L.map g) f=Xq L (λi=>f (g i)):=by
 unfold Xq;rw[List.map_map];rfl
theorem ZSH (n f):Xq (List.range (n+n)) f=Xq (List.range n) f+Xq (List.range n) (λi=>f (i+n)):=by
 rw[List.range_add,ZLK,ZE3]
 congr 1
 exact Zge (Xq (List.range n)) (funext λi=>Zge f (Zfw n i))
theorem ZO2 {ι:Type}{L:List ι}{f g:ι->Nat}(h:∀i ∈ L,f i<=g i):Xq L f<=Xq L g:=by
 induction L with
 |nil=>exact Zf6 _
 |cons a L ih=>
  rw[Yd,Yd];have:=h a ZfQ;have:=ih (λi hi=>h i (ZfP _ hi));omega
theorem ZLL {ι:Type}(L)(f g:ι->Nat):Xq L (λi=>f i+g i)=Xq L f+Xq L g:=by
 induction L with
 |nil=>rfl
 |cons a L ih=>rw[Yd,Yd,Yd,ih];omega
theorem ZSy (s)(h:lv<=3):Xq (List.range (2 ^ lv)) (λi=>con s lv i+(con s (lv+1) i+con s (lv+1) (i+2 ^ lv)))<=X9 s:=by
 have e:Xq (List.range (2 ^ lv)) (λi=>con s lv i+(con s (lv+1) i+con s (lv+1) (i+2 ^ lv)))=Xq ((List.range (2 ^ lv)).map (λi=>(lv,i))++(List.range (2 ^ lv+2 ^ lv)).map (λi=>(lv+1,i))) (λp=>con s p.1 p.2):=by
  rw[ZLK,ZE3,ZE3,ZSH,ZLL,ZLL]
 rw[e];refine ZHK _ _ _ ?_ (λp hp=>?_)
 ·refine List.nodup_append.2 ⟨?_,?_,λa ha b hb=>?_⟩
  ·exact List.Pairwise.map _ (λa b nQ e=>nQ (by injection e)) List.nodup_range
  ·exact List.Pairwise.map _ (λa b nQ e=>nQ (by injection e)) List.nodup_range
  ·obtain⟨i,-,rfl⟩:=ZfT.1 ha;obtain⟨j,-,rfl⟩:=ZfT.1 hb;intro e;injection e with e _;omega
 ·rcases ZfN.1 hp with hp|hp
  ·obtain⟨i,hi,rfl⟩:=ZfT.1 hp;exact ZCH ZB (ZfZ.1 hi)
  ·obtain⟨i,hi,rfl⟩:=ZfT.1 hp;exact ZCH ZB (by have:=ZfZ.1 hi;rw[ZgP];omega)
theorem ZS0 (s)(h:lv<=4):Xq (List.range (2 ^ lv)) (λi=>con s lv i)<=X9 s:=by
 have e:Xq (List.range (2 ^ lv)) (λi=>con s lv i)=Xq ((List.range (2 ^ lv)).map (λi=>(lv,i))) (λp=>con s p.1 p.2):=by rw[ZE3]
 rw[e];refine ZHK _ _ _ (List.Pairwise.map _ (λa b nQ e=>nQ (by injection e)) List.nodup_range) (λp hp=>?_);obtain⟨i,hi,rfl⟩:=ZfT.1 hp;exact ZCH h (ZfZ.1 hi)
theorem ZKV {ι:Type}(L:List ι)(f:ι->List ZL):(L.map f).flatten.length=Xq L (λi=>(f i).length):=by
 induction L with
 |nil=>rfl
 |cons a L ih=>rw[ZfM,Zey,ZfE,ih,Yd]
theorem ZIj {ι:Type}(L:List ι)(f:ι->List (List ZL)):(L.flatMap f).flatten.length=Xq L (λi=>(f i).flatten.length):=by
 induction L with
 |nil=>rfl
 |cons a L ih=>rw[Zex,List.flatten_append,ZfE,ih,Yd]
theorem ZVi {s:Z9}(T:TOk s.wh)(hd:s.ws.getD 0 0<=8):(ZEr s).flatten.length<=X9 s.wh:=by
 have hz:Zb=4611686018427387904:=rfl;unfold ZEr
 split
 ·next q=>
  unfold ZOn;rw[ZKV];refine Zf8 (ZO2 λi hi=>?_) (ZS0 s.wh (lv:=s.ws.getD 0 0 / 2) ZB);have h1:=T.made (s.ws.getD 0 0 / 2) i ZB (by show 2*(s.ws.getD 0 0 / 2)<=s.ws.getD 0 0;omega);have h2:wat s.wh (s.ws.getD 0 0 / 2) i<Zb:=by
   rcases ZgC (wat s.wh (s.ws.getD 0 0 / 2) i) Zb with h|h
   ·exact h
   ·have:=T.froze (s.ws.getD 0 0 / 2) i ZB h;have this:2*(s.ws.getD 0 0 / 2)+1<=s.ws.getD 0 0:=this;omega
  rw[ZDi h1 h2];exact Zf6 _
 ·next q=>
  unfold ZGi;rw[ZIj];have fD:s.ws.getD 0 0 / 2<=3:=by omega
  refine Zf8 (ZO2 λi hi=>?_) (ZSy s.wh (lv:=s.ws.getD 0 0 / 2) fD);have hi:=ZfZ.1 hi;have hh:∀j,j % 2 ^ (s.ws.getD 0 0 / 2)=i->j<2 ^ (s.ws.getD 0 0 / 2+1)->Zb<=wat s.wh (s.ws.getD 0 0 / 2) i->(ZDL s (s.ws.getD 0 0 / 2) i j).length<=con s.wh (s.ws.getD 0 0 / 2+1) j:=λj hj AP hf=>by
   have ed:ZO (s.ws.getD 0 0 / 2) j=ZO (s.ws.getD 0 0 / 2) i:=by rw[<-ZB4 _ j,hj]
   rw[Xo];unfold ZDL
   split
   ·next z=>
    have z:wat s.wh (s.ws.getD 0 0 / 2+1) j=0:=z;rw[Zgl z];have e1:wat s.wh (s.ws.getD 0 0 / 2) j=wat s.wh (s.ws.getD 0 0 / 2) i:=by unfold wat;rw[ed]
    have e2:Xt s.wh (s.ws.getD 0 0 / 2) j=Xt s.wh (s.ws.getD 0 0 / 2) i:=by unfold Xt;rw[ed]
    rw[e1,Zgl hf,e2,ZgF AP];exact Zf6 _
   ·next z=>
    have z:wat s.wh (s.ws.getD 0 0 / 2+1) j≠0:=z;rw[Zgk z];have h2:¬Zb<=wat s.wh (s.ws.getD 0 0 / 2+1) j:=λh=>by
     have:=T.froze (s.ws.getD 0 0 / 2+1) j ZB h;have this:2*(s.ws.getD 0 0 / 2+1)+1<=s.ws.getD 0 0:=this;omega
    rw[Zgk h2];exact Zf6 _
  unfold ZIp
  split
  ·next hf=>
   have hf:Zb<=wat s.wh (s.ws.getD 0 0 / 2) i:=hf;have e1:=hh i (ZgF hi) (by rw[ZgP];omega) hf;have e2:=hh (i+2 ^ (s.ws.getD 0 0 / 2)) (by rw[Nat.add_mod_right,ZgF hi]) (by rw[ZgP];omega) hf;simp only[Zey,List.flatten_nil,Zek,ZfE];omega
  ·next hf=>
   have hf:¬Zb<=wat s.wh (s.ws.getD 0 0 / 2) i:=hf;have h1:=T.made (s.ws.getD 0 0 / 2) i ZB (by show 2*(s.ws.getD 0 0 / 2)<=s.ws.getD 0 0;omega);have e:(Xt s.wh (s.ws.getD 0 0 / 2) i).length=con s.wh (s.ws.getD 0 0 / 2) i:=(ZDi h1 ZB).symm;have e9:(s.hs.getD (ZO (s.ws.getD 0 0 / 2) i) []).length=con s.wh (s.ws.getD 0 0 / 2) i:=e;simp only[Zey,List.flatten_nil,Zek];omega
theorem ZCw.cells_len {P:List YK}{room N M:Nat}{s:Z9}(h:ZCw P room N M s)(R:ZIQ room s):(ZEr s).flatten.length<=room:=by
 have h1:=ZVi h.t.t h.i.w.d;have h2:=h.q.le;have h3:=R.le;omega
structure Zy where
 op:Nat
 pol:Nat
 key:List Nat
 num:Nat
structure Jp where
 pol:Int
 key:List Nat
 ser:Int
variable {l:List Jp}
abbrev Xu:=Option Addr × Nat
variable {ks:List Xu}
def ZCt (k:Xu)(c:Zy):List Value:=[.int .u8 (c.op:Int),.int .i64 (c.pol:Int),.slice k.1 c.key.length k.2,.int .i64 (c.num:Int)]
def ZJz (k:Xu)(t:Jp):List Value:=[.int .i64 t.pol,.slice k.1 t.key.length k.2,.int .i64 t.ser]
def ZBX (ks:List Xu)(l:List Zy):List Value:=(ks.zip l).flatMap λp=>ZCt p.1 p.2
def ZBM (ks:List Xu)(l:List Jp):List Value:=(ks.zip l).flatMap λp=>ZJz p.1 p.2
theorem ZKy {α:Type}(f:Xu->α->List Value)(s)(hf:∀k x,(f k x).length=s):∀(ks:List Xu) (l:List α),ks.length=l.length->((ks.zip l).flatMap λp=>f p.1 p.2).length=l.length*s
 |[],[],_=>by simp
 |[],_::_,h=>by cases h
 |_::_,[],h=>by cases h
 |k::ks,x::l,h=>by
  have:=ZKy f s hf ks l (by simpa using h);rw[Zfu,Zex,ZfE,this,hf,ZfF,Zfz,ZgN,Zfw]
theorem ZG2 {α:Type}(f:Xu->α->List Value)(s)(hf:∀k x,(f k x).length=s):∀(ks:List Xu) (l:List α) (i j:Nat) (k:Xu) (x:α),ks[i]?=some k->l[i]?=some x->j<s->((ks.zip l).flatMap λp=>f p.1 p.2)[i*s+j]?=(f k x)[j]?
 |[],_,_,_,_,_,h,_,_=>by simp at h
 |_::_,[],_,_,_,_,_,h,_=>by simp at h
 |k0::ks,x0::l,0,j,k,x,h1,h2,hj=>by
  simp at h1 h2;subst h1 h2;rw[Zfu,Zex,ZgS,ZgQ,Ze0 (by rw[hf];exact hj)]
 |k0::ks,x0::l,i+1,j,k,x,h1,h2,hj=>by
  have:=ZG2 f s hf ks l i j k x (by simpa using h1) (by simpa using h2) hj;rw[Zfu,Zex,Ze1 (by rw[hf,Zfz,ZgN];omega),hf,show(i+1)*s+j - s=i*s+j by rw[Zfz,ZgN];omega];exact this
theorem ZDs {α:Type}(f:Xu->α->List Value){l:List α}(h:ks.length=l.length)(k)(x:α):((ks++[k]).zip (l++[x])).flatMap (λp=>f p.1 p.2)=((ks.zip l).flatMap λp=>f p.1 p.2)++f k x:=by
 rw[Zft h,Zew];simp
def ZAr {α:Type}(w:World)(key:α->List Nat)(ks:List Xu)(l:List α):Prop:=∀p ∈ ks.zip l,(key p.2).length<=p.1.2/\Rd w p.1.1 (ZT .u8 (key p.2))
theorem ZAr.ext {α:Type}{w w':World}{key:α->List Nat}{ks:List Xu}{l:List α}(h:ZAr w key ks l)(x:ZM w w'):ZAr w' key ks l:=λp hp=>⟨(h p hp).1,(h p hp).2.ext x⟩
theorem ZAr.snoc {α:Type}{w:World}{key:α->List Nat}{ks:List Xu}{l:List α}(h:ZAr w key ks l)(hl:ks.length=l.length){k:Xu}{x:α}(h1:(key x).length<=k.2)(h2:Rd w k.1 (ZT .u8 (key x))):ZAr w key (ks++[k]) (l++[x]):=λp hp=>by
 rw[Zft hl]at hp;rcases ZfN.1 hp with hp|hp
 ·exact h p hp
 ·simp at hp;subst hp;exact⟨h1,h2⟩
def ZEU (w:World)(A:Option Addr)(l:List Jp)(ks:List Xu):Prop:=ks.length=l.length/\Rd w A (ZBM ks l)/\ZAr w (λt=>t.key) ks l
theorem ZEU.ext(h:ZEU w A l ks)(x:ZM w w'):ZEU w' A l ks:=⟨h.1,h.2.1.ext x,h.2.2.ext x⟩
theorem ZEU.at_(h:ZEU w A l ks){t:Jp}(hi:l[i]?=some t): ∃b off K c,A=some ⟨b,off,none⟩/\ks[i]?=some (K,c)/\w.cell? ⟨b,off+i*3,none⟩=some (.int .i64 t.pol)/\w.cell? ⟨b,off+i*3+1,none⟩=some (.slice K t.key.length c)/\w.cell? ⟨b,off+i*3+2,none⟩=some (.int .i64 t.ser)/\t.key.length<=c/\Rd w K (ZT .u8 t.key):=by
 have eG:=(Ze5.1 hi).1;obtain⟨k,hk⟩:∃k,ks[i]?=some k:=⟨_,Ze4 (by rw[h.1];exact eG)⟩;have hg:=λj hj=>ZG2 ZJz 3 (λ_ _=>rfl) ks l i j k t hk hi hj;obtain⟨b,off,hA,hc⟩:=h.2.1 (λe0=>by have:=hg 0 ZB;unfold ZBM at e0;rw[e0]at this;simp[ZJz]at this);obtain⟨f1,f2⟩:=h.2.2 (k,t) (ZfU (ZfD.2 ⟨hk,hi⟩));refine⟨b,off,k.1,k.2,hA,hk,?_,?_,?_,f1,f2⟩
 ·exact hc (i*3+0) _ (hg 0 ZB)
 ·rw[Zfv];exact hc (i*3+1) _ (hg 1 ZB)
 ·rw[Zfv];exact hc (i*3+2) _ (hg 2 ZB)
structure XQ where
 ws:List Nat
 cl:Bool
 line:List Zy
 fin:Nat
 out:Option Zy
 wr:List Nat
 led:List Jp
 closed:Bool
 hung:Bool
variable {s s2:XQ}
def ZET:XQ:=⟨[],false,[],0,none,[],[],false,false⟩
noncomputable def ZCF (ys:List Nat):Option Zy:=by
 classical
 exact if h:∃c:Zy,ZBr c.op c.pol c.key c.num/\ys=JN c.op c.pol c.key c.num then some h.choose else none
theorem ZCq{c:Zy}(h:ZCF ys=some c):ZBr c.op c.pol c.key c.num/\ys=JN c.op c.pol c.key c.num:=by
 unfold ZCF at h
 split at h
 ·next h9=>
  injection h with h;rw[<-h];exact h9.choose_spec
 ·cases h
theorem ZJa(h:ZCF ys=none):¬ZIT ys:=by
 unfold ZCF at h
 split at h
 ·cases h
 ·next h9=>
  rintro⟨op,p,xs,N,h1,h2⟩;exact h9 ⟨⟨op,p,xs,N⟩,h1,h2⟩
theorem ZVS {c:Zy}(h:ZBr c.op c.pol c.key c.num):ZCF (JN c.op c.pol c.key c.num)=some c:=by
 cases hd:ZCF (JN c.op c.pol c.key c.num)with
 |none=>exact absurd ⟨c.op,c.pol,c.key,c.num,h,rfl⟩ (ZJa hd)
 |some d=>
  obtain⟨d1,d2⟩:=ZCq hd;obtain⟨e1,e2,e3,e4,_⟩:=ZOj (zs:=JN c.op c.pol c.key c.num) (rest:=[]) (rest':=[]) (show ZBK _ c.op c.pol c.key c.num []from⟨h,by rw[Zek],λ_=>rfl⟩) (show ZBK _ d.op d.pol d.key d.num []from⟨d1,by rw[Zek];exact d2,λ_=>rfl⟩);obtain⟨a,b,c',d'⟩:=c;obtain⟨a2,b2,c2,ru⟩:=d
  dsimp only at e1 e2 e3 e4
  subst e1 e2 e3 e4;rfl
noncomputable def Z1:List Zy->List (List Nat)->List Zy × Bool
 |l,[]=>(l,false)
 |l,ys::t=>match ZCF ys with
  |some c=>Z1 (l++[c]) t
  |none=>(l,true)
def ZPZ (L:List (Option Nat)):Prop:=L.Pairwise λx y=>∀b,x=some b->y≠some b
def ZGc (RO:Zhf)(k:Xu):Prop:=∀a,k.1=some a->RO a.block
def ZIR (w:World)(RO:Zhf)(ov:Value):Option Zy->Prop
 |none=>ov=.pointer none
 |some c=>∃o k,ov=.pointer (some ⟨o,0,none⟩)/\w.heap[o]?=some (.cells (ZCt k c).toArray 34 (0,0))/\c.key.length<=k.2/\Rd w k.1 (ZT .u8 c.key)/\RO o/\ZGc RO k
def Z3 (w:World)(base:Nat)(L:List (Option Nat))(RO:Zhf)(gc r:Nat)(s:XQ):Prop:=∃(S:Zhf) (lv ov:Value) (bW:Option Nat) (lk tk:List Xu) (WA TA:Option Addr) (wn wc tn tc:Nat),L=[some gc,some r,bW,(Value.slice WA wn wc).ownBlock,(Value.slice TA tn tc).ownBlock]/\ZPZ L/\ w.heap[gc]?=some (.cells #[.pointer (some ⟨r,0,none⟩),lv,.int .i64 (s.fin:Int),ov,.slice WA wn wc,.slice TA tn tc,.bool s.closed,.bool s.hung] 227 (0,0))/\ Xs w r s.ws s.cl S/\(∀b,S b->RO b)/\ lk.length=s.line.length/\ZBz w 4 bW lv s.line.length (ZBX lk s.line)/\ZAr w (λc=>c.key) lk s.line/\(∀k ∈ lk,ZGc RO k)/\ ZIR w RO ov s.out/\ s.wr.length=wn/\w.ownsRow base 5 1 (.slice WA wn wc) wn (ZT .u8 s.wr)/\ tk.length=s.led.length/\s.led.length=tn/\w.ownsRow base 120 3 (.slice TA tn tc) tn (ZBM tk s.led)/\ZAr w (λt=>t.key) tk s.led/\(∀k ∈ tk,ZGc RO k)/\ (∀b,RO b->some b ∉ L/\base<=b/\b<w.heap.size)/\∀b,some b ∈ L->base<=b/\b<w.heap.size
def ZB0 (s:XQ):Prop:=(∀x ∈ s.ws,x<256)/\(∀c ∈ s.line,ZBr c.op c.pol c.key c.num)/\(∀c,s.out=some c->ZBr c.op c.pol c.key c.num)/\(∀x ∈ s.wr,x<256)/\∀t ∈ s.led,∀x ∈ t.key,x<256
theorem ZAr.gbk {α:Type}{w w':World}{T RO:Zhf}{key:α->List Nat}{ks:List Xu}{l:List α}(h:ZAr w key ks l)(hk:∀k ∈ ks,ZGc RO k)(g:GB w w' T)(hT:∀b,RO b->¬T b):ZAr w' key ks l:=λp hp=>⟨(h p hp).1,g.rd (h p hp).2 (λa ha=>hT _ (hk p.1 (List.of_mem_zip hp).1 a ha))⟩
theorem ZIR.gbk{T:Zhf}{ov:Value}{c:Option Zy}(h:ZIR w RO ov c)(g:GB w w' T)(hT:∀b,RO b->¬T b):ZIR w' RO ov c:=by
 cases c with
 |none=>exact h
 |some c=>
  obtain⟨o,k,h1,h2,h3,h4,h5,h6⟩:=h;exact⟨o,k,h1,g.blk h2 (hT o h5),h3,g.rd h4 (λa ha=>hT _ (h6 a ha)),h5,h6⟩
theorem Z3.gb{L:List (Option Nat)}{T:Zhf}(h:Z3 w base L RO gc r s)(g:GB w w' T)(hT:∀b,T b->some b ∉ L/\¬RO b):Z3 w' base L RO gc r s:=by
 obtain⟨S,lv,ov,bW,lk,tk,WA,TA,wn,wc,tn,tc,h1,h2,h3,h4,h5,h6,h7,h8,h9,bD,bQ,bL,bP,bO,ei,eh,dj,h18,bK⟩:=h;have hL:∀b,some b ∈ L->¬T b:=λb hb e=>(hT b e).1 hb;have hR:∀b,RO b->¬T b:=λb hb e=>(hT b e).2 hb;refine⟨S,lv,ov,bW,lk,tk,WA,TA,wn,wc,tn,tc,h1,h2,g.blk h3 (hL gc (by rw[h1];simp)),?_,h5,h6,h7.gb g (λb e=>hL b (by rw[h1,<-e];simp)),h8.gbk h9 g hR,h9,bD.gbk g hR,bQ,g.own bL (λb e=>hL b (by rw[h1,<-e];simp)),bP,bO,g.own ei (λb e=>hL b (by rw[h1,<-e];simp)),eh.gbk dj g hR,dj,λb hb=>⟨(h18 b hb).1,(h18 b hb).2.1,ZgB (h18 b hb).2.2 g.size⟩,λb hb=>⟨(bK b hb).1,ZgB (bK b hb).2 g.size⟩⟩;exact Xs.gb h4 g (hL r (by rw[h1];simp)) (λb hb=>hR b (h5 b hb))
theorem Z3.ext{L:List (Option Nat)}(h:Z3 w base L RO gc r s)(x:ZM w w'):Z3 w' base L RO gc r s:=h.gb (GB.of_ext (λ_=>False) x) (λ_ e=>e.elim)
def Yk (w:World)(base:Nat)(L:List (Option Nat))(RO:Zhf)(gc r:Nat)(s:XQ)(w':World):Prop:=∃L' lr,Z3 w' base L' lr gc r s/\GB w w' (λb=>some b ∈ L)/\(∀b,some b ∈ L'->some b ∈ L\/w.heap.size<=b)/\(∀b,lr b->RO b\/some b ∈ L\/w.heap.size<=b)
theorem ZRw(h:gc≠r):ZPZ [some gc,some r,none,none,none]:=by
 refine Zff.2 ⟨λy hy b e=>?_,Zff.2 ⟨λy hy b e=>?_,Zff.2 ⟨(λy hy b e=>by cases e),Zff.2 ⟨(λy hy b e=>by cases e),Zff.2 ⟨(λy hy=>by cases hy),List.Pairwise.nil⟩⟩⟩⟩⟩
 ·injection e with e;subst e;simp at hy;rcases hy with rfl|rfl
  ·simpa using λe=>h e.symm
  ·simp
 ·simp at hy;subst hy;simp
theorem ZTg (w:World):Calls prog 99 #[] w λe w'=>∃gc r L RO,e=.returned (.pointer (some ⟨gc,0,none⟩))/\Z3 w' w.heap.size L RO gc r ZET/\ZM w w':=by
 go_enter func99,ntmps99;go_wp2_with fail;refine(ZXA w).mono ?_;rintro e w1 ⟨rfl,hr,x1,aG⟩;go_wp2_with fail;go_ret;have hb:=ZV w1 (.cells #[.pointer (some ⟨w.heap.size,0,none⟩),.slice none 0 0,.int .i64 0,.pointer none,.slice none 0 0,.slice none 0 0,.bool false,.bool false] 227);have xa:ZM w1 (w1.alloc (.cells #[.pointer (some ⟨w.heap.size,0,none⟩),.slice none 0 0,.int .i64 0,.pointer none,.slice none 0 0,.slice none 0 0,.bool false,.bool false] 227)):=(ZM.refl w1).alloc _;refine⟨w1.heap.size,w.heap.size,_,λ_=>False,rfl,⟨λ_=>False,.slice none 0 0,.pointer none,none,[],[],none,none,0,0,0,0,rfl,ZRw ZB,hb,Xs.gb hr (GB.of_ext (λ_=>False) xa) (λe=>e) (λ_ e=>e.elim),λ_ e=>e,rfl,ZLn _ _,λp hp=>by simp at hp,λk hk=>by simp at hk,rfl,rfl,ZgZ _ _ _ _,rfl,rfl,ZgZ _ _ _ _,λp hp=>by simp at hp,λk hk=>by simp at hk,λ_ e=>e.elim,λb hb=>?_⟩,x1.trans xa⟩;have:=xa.size;rw[Zga];simp[Value.ownBlock]at hb;omega
theorem ZCW{a b c:Option Nat}(h:ZPZ [some gc,some r,a,b,c]): gc≠r/\(∀q,a=some q->q≠gc/\q≠r)/\(∀q,b=some q->q≠gc/\q≠r/\a≠some q)/\∀q,c=some q->q≠gc/\q≠r/\a≠some q/\b≠some q:=by
 obtain⟨h1,h⟩:=Zff.1 h;obtain⟨h2,h⟩:=Zff.1 h;obtain⟨h3,h⟩:=Zff.1 h;obtain⟨h4,-⟩:=Zff.1 h;refine⟨λe=>h1 (some r) ZXz gc rfl (by rw[e]),λq e=>⟨λe2=>h1 a ZXz gc rfl (by rw[e,e2]),λe2=>h2 a ZXz r rfl (by rw[e,e2])⟩,λq e=>⟨λe2=>h1 b ZXz gc rfl (by rw[e,e2]),λe2=>h2 b ZXz r rfl (by rw[e,e2]),λe2=>h3 b ZXz q e2 e⟩,λq e=>⟨λe2=>h1 c ZXz gc rfl (by rw[e,e2]),λe2=>h2 c ZXz r rfl (by rw[e,e2]),λe2=>h3 c ZXz q e2 e,λe2=>h4 c ZXz q e2 e⟩⟩
theorem ZB8{a b c:Option Nat}(h1:gc≠r)(h2:∀q,a=some q->q≠gc/\q≠r)(h3:∀q,b=some q->q≠gc/\q≠r/\a≠some q)(h4:∀q,c=some q->q≠gc/\q≠r/\a≠some q/\b≠some q):ZPZ [some gc,some r,a,b,c]:=by
 refine Zff.2 ⟨λy hy q e=>?_,Zff.2 ⟨λy hy q e=>?_,Zff.2 ⟨λy hy q e=>?_,Zff.2 ⟨λy hy q e=>?_,Zff.2 ⟨(λy hy=>by cases hy),List.Pairwise.nil⟩⟩⟩⟩⟩
 ·injection e with e;subst e;simp at hy;rcases hy with rfl|rfl|rfl|rfl
  ·simpa using λe=>h1 e.symm
  ·exact λe=>(h2 _ e).1 rfl
  ·exact λe=>(h3 _ e).1 rfl
  ·exact λe=>(h4 _ e).1 rfl
 ·injection e with e;subst e;simp at hy;rcases hy with rfl|rfl|rfl
  ·exact λe=>(h2 _ e).2 rfl
  ·exact λe=>(h3 _ e).2.1 rfl
  ·exact λe=>(h4 _ e).2.1 rfl
 ·simp at hy;rcases hy with rfl|rfl
  ·exact λe2=>(h3 _ e2).2.2 e
  ·exact λe2=>(h4 _ e2).2.2.1 e
 ·simp at hy;subst hy;exact λe2=>(h4 _ e2).2.2.2 e
theorem ZY1 {p:Prop}(h:p:=by
 refine ZfP _ ?_;rcases ZfO.1 h with h|h
 ·rw[h];exact ZfQ
 ·refine ZfP _ (ZfP _ ?_);rcases ZfO.1 h with h|h
  ·cases h
  ·exact h):p:=h
theorem ZSr {b gc r:Nat}{x y z:Option Nat}(h:some b ∈ [some gc,some r,x,none,z]):some b ∈ [some gc,some r,x,y,z]:=by
 rcases ZfO.1 h with h|h
 ·rw[h];exact ZfQ
 ·refine ZfP _ ?_;rcases ZfO.1 h with h|h
  ·rw[h];exact ZfQ
  ·exact ZY1
theorem ZJb (w base gc r)(L:List (Option Nat))(RO)(s:XQ)(h:Z3 w base L RO gc r s): Calls prog 101 #[.pointer (some ⟨gc,0,none⟩)] w λe w'=>∃WA wc L',e=.returned (.slice WA s.wr.length wc)/\Z3 w' base L' RO gc r {s with wr:=[]}/\GB w w' (· =gc)/\(∀b,some b ∈ L'->some b ∈ L)/\
   w'.ownsRow base 5 1 (.slice WA s.wr.length wc) s.wr.length (ZT .u8 s.wr)/\∀b,(Value.slice WA s.wr.length wc).ownBlock=some b->some b ∉ L'/\¬RO b:=by
 obtain⟨S,lv,ov,bW,lk,tk,WA,TA,wn,wc,tn,tc,h1,h2,h3,h4,h5,h6,h7,h8,h9,bD,bQ,bL,bP,bO,ei,eh,dj,h18,bK⟩:=h;rw[h1]at h2;obtain⟨a1,a2,a3,a4⟩:=ZCW h2;have c4:=ZX1 h3 4 (.slice WA wn wc);have f4:=ZG h3 4;have g:GB w (w.setCell ⟨gc,4,none⟩ (.slice none 0 0)) (· =gc):=(GB.refl w (· =gc)).set gc 4 _ (.inl rfl);have hR:∀b,RO b->¬b=gc:=λb hb e=>(h18 b hb).1 (by rw[h1,e];simp)
 have Fin:=ZA (show ∃L',Z3 (w.setCell ⟨gc,4,none⟩ (.slice none 0 0)) base L' RO gc r {s with wr:=[]}/\(∀b,some b ∈ L'->some b ∈ L)/\∀b,(Value.slice WA wn wc).ownBlock=some b->some b ∉ L'/\¬RO b from by
  refine⟨[some gc,some r,bW,none,(Value.slice TA tn tc).ownBlock],⟨S,lv,ov,bW,lk,tk,none,TA,0,0,tn,tc,rfl,ZB8 a1 a2 (λq e=>by cases e) (λq e=>⟨(a4 q e).1,(a4 q e).2.1,(a4 q e).2.2.1,λe=>by cases e⟩),ZR h3 4 _,Xs.gb h4 g (λe=>a1 e.symm) (λb hb=>hR b (h5 b hb)),h5,h6,h7.gb g (λb e=>(a2 b e).1),h8.gbk h9 g hR,h9,bD.gbk g hR,rfl,ZgZ _ _ _ _,bP,bO,g.own ei (λb e=>(a4 b e).1),eh.gbk dj g hR,dj,λb hb=>⟨λe=>(h18 b hb).1 (by rw[h1];exact ZSr e),(h18 b hb).2.1,by simpa using(h18 b hb).2.2⟩,λb hb=>⟨(bK b (by rw[h1];exact ZSr hb)).1,by simpa using(bK b (by rw[h1];exact ZSr hb)).2⟩⟩,(λb hb=>by rw[h1];exact ZSr hb),λb e=>⟨λhb=>?_,λhb=>(h18 b hb).1 (by rw[h1,<-e];simp)⟩⟩;obtain⟨e1,e2,e3⟩:=a3 b e;simp at hb;rcases hb with hb|hb|hb|hb
  ·exact e1 hb
  ·exact e2 hb
  ·exact e3 hb.symm
  ·exact(a4 b hb.symm).2.2.2 e)
 have Gd:=ZA (g.own bL (λb e=>(a3 b e).1));rw[bQ];clear h1 h2 h3 h4 h5 h6 h7 h8 h9 bD bL bP bO ei eh dj h18 bK a1 a2 a3 a4 hR;go_enter func101,ntmps101;go_wp2_with fail;go_ret;obtain⟨L',k1,k2,k3⟩:=Fin.o;exact⟨WA,wc,L',rfl,k1,g,k2,Gd.o,k3⟩
def ZAM (w:World)(base:Nat)(A:Option Addr)(n c:Nat)(l:List Jp)(ks:List Xu):Prop:=ks.length=l.length/\l.length=n/\w.ownsRow base 120 3 (.slice A n c) n (ZBM ks l)/\∀(i:Nat) (q:Xu) (e:Jp),ks[i]?=some q->l[i]?=some e->w.ownsRow base 5 1 (.slice q.1 e.key.length q.2) e.key.length (ZT .u8 e.key)/\∀g,(Value.slice q.1 e.key.length q.2).ownBlock=some g->(Value.slice A n c).ownBlock≠some g
theorem ZAM.nil (w base):ZAM w base none 0 0 [] []:=⟨rfl,rfl,ZgZ _ _ _ _,λi q e h=>by simp at h⟩
theorem ZAM.ext(h:ZAM w base A n c l ks)(x:ZM w w'):ZAM w' base A n c l ks:=⟨h.1,h.2.1,Z5 h.2.2.1 x,λi q e h1 h2=>⟨Z5 (h.2.2.2 i q e h1 h2).1 x,(h.2.2.2 i q e h1 h2).2⟩⟩
theorem ZKG{s:Nat}{e:TypeId}{vs:List Value}(h:w.ownsRow base e s (.slice A n c) n vs):Rd w A vs:=λag=>by
 rcases h.2 with⟨h1,h2⟩|⟨g,cap,cO,h1,hb,hg,_⟩
 ·have h3:=h.1;rw[h2,ZgS]at h3;exact absurd (ZfH.1 h3) ag
 ·injection h1 with h1 _ _;refine⟨g,0,h1,λj u hu=>?_⟩;subst h1;have hj:=(Ze5.1 hu).1;rw[ZgQ];rw[h.cellAt j (by rw[<-h.1];exact hj)];exact hu
theorem ZAM.rd(h:ZAM w base A n c l ks):ZEU w A l ks:=by
 refine⟨h.1,ZKG h.2.2.1,λp hp=>?_⟩;obtain⟨i,hi⟩:=Ze7 hp;obtain⟨h1,h2⟩:=ZfD.1 hi;have:=(h.2.2.2 i p.1 p.2 h1 h2).1;exact⟨YR this,Rd.of_own this⟩
theorem QY {p:Prop}(h:p:=by
 subst hm;obtain⟨h1,h2,h3,h4⟩:=h;have ag:(Value.slice A4 x.length c4).ownBlock=none\/(Value.slice A4 x.length c4).ownBlock≠(Value.slice A k c).ownBlock:=by
  cases e:(Value.slice A4 x.length c4).ownBlock with
  |none=>exact .inl rfl
  |some g=>exact .inr λe2=>by have:=(o4.lt g e).1;have:=(h3.lt g e2.symm).2;omega
 have vX:w6.ownsRow b4 5 1 (.slice A4 x.length c4) x.length (ZT .u8 x):=(Z5 o4 x5).kept g6 ag;first|(obtain -:=V1;refine⟨by simp[h1],by simp[h2],by unfold ZBX at o6 ⊢;rw[ZDs ZCt h1 (A4,c4) ⟨o,p,x,v⟩];exact o6,λi q e hq he=>?_⟩)|refine⟨by simp[h1],by simp[h2],by unfold ZBM at o6 ⊢;rw[ZDs ZJz h1 (A4,c4) ⟨p,x,v⟩];exact o6,λi q e hq he=>?_⟩
 rcases ZgC i l.length with hi|hi
 ·rw[Ze0 (by rw[h1];exact hi)]at hq;rw[Ze0 hi]at he;obtain⟨k1,k2⟩:=h4 i q e hq he;refine⟨(Z5 (Z5 k1 x4) x5).kept g6 ?_,λg hg aA=>?_⟩
  ·cases e9:(Value.slice q.1 e.key.length q.2).ownBlock with
   |none=>exact .inl rfl
   |some g=>exact .inr λe2=>k2 g e9 e2.symm
  ·rcases b6 with b6|b6
   ·exact k2 g hg (b6 ▸ aA)
   ·rw[b6]at aA;injection aA with aA;have:=(k1.lt g hg).2;have:=x4.size;have:=x5.size;omega
 ·rw[Ze1 (by rw[h1];exact hi)]at hq;rw[Ze1 hi]at he;have hz:i - ks.length=0:=by
   have:=(Ze5.1 hq).1;simp at this;omega
  rw[hz]at hq;rw[<-h1,hz]at he;simp at hq he;subst hq he;refine⟨Zj vX (Zf8 mB hb),λg hg aA=>?_⟩;rcases b6 with b6|b6
  ·rw[b6]at aA;have:=(h3.lt g aA).2;have:=(o4.lt g hg).1;omega
  ·rw[b6]at aA;injection aA with aA;have:=(o4.lt g hg).2;have:=x5.size;omega):p:=h
theorem ZAM.snoc{w4 w5 w6:World}{b4 k m c4:Nat}{A4:Option Addr}{x:List Nat}{p v:Int}(h:ZAM w base A k c l ks)(x4:ZM w w4)(hm:x.length=m)(o4:w4.ownsRow b4 5 1 (.slice A4 m c4) m (ZT .u8 x))(hb:w.heap.size<=b4)(mB:base<=w.heap.size)(x5:ZM w4 w5)(o6:w6.ownsRow base 120 3 (.slice B (k+1) cb) (k+1) (ZBM ks l++[.int .i64 p,.slice A4 m c4,.int .i64 v]))(g6:w5.grownBy w6 (Value.slice A k c).ownBlock)(b6:(Value.slice B (k+1) cb).ownBlock=(Value.slice A k c).ownBlock\/(Value.slice B (k+1) cb).ownBlock=some w5.heap.size):ZAM w6 base B (k+1) cb (l++[⟨p,x,v⟩]) (ks++[(A4,c4)]):=QY
theorem ZE4 {aw:Array Oper}{o:Oper}{a:Act}{K:Act->World->Prop}{Q:Exit->Act->World->Prop}{E:Prop}(w:World)(bu:o.guard=none)(s x)(ho:o.op=.call {callee:=.builtin .append,args:=#[s,x],argTypes:=#[117,117]})(base)(hs:a.eval s=.slice B n cb)(af:w.ownsRow base 120 3 (.slice B n cb) n xs){y z u:Value}(hx:a.eval x=.slice A 1 c)(hr:Rd w A [y,z,u])(hy:y.oneCell'=true)(hz:z.oneCell'=true)(hu:u.oneCell'=true)(hb:n<=100000)(an:base<=w.heap.size)(h:∀B' au w',w'.ownsRow base 120 3 (.slice B' (n+1) au) (n+1) (xs++[y,z,u])->w.grownBy w' (Value.slice B n cb).ownBlock-> ((Value.slice B' (n+1) au).ownBlock=(Value.slice B n cb).ownBlock\/(Value.slice B' (n+1) au).ownBlock=some w.heap.size)->K (a.put o.dst (.slice B' (n+1) au)) w'): if Region.wanted o (yielded aw a.tmps)=true then Oper.wp prog o a w K Q else E:=by
 have hw:Region.wanted o (yielded aw a.tmps)=true:=by simp[Region.wanted,bu]
 rw[Zgl hw];obtain⟨i0,hi,bV,bY,aS⟩:=Zgm ZOz;exact Jl w s x 117 ho base 120 underlying117 hi bV bY aS rfl (by decide) hs af hx (m:=1) (news:=[y,z,u]) rfl hr (by intro v hv;simp at hv;rcases hv with rfl|rfl|rfl<;>assumption) (by unfold maxLen;omega) ZB an h
def ZXS (l:List Jp)(w:World)(e:Ending)(w':World):Prop:=∃A c ks,e=.returned (.slice A l.length c)/\ZAM w' w.heap.size A l.length c l ks/\ZM w w'
theorem ZGX (w base gc r)(L:List (Option Nat))(RO)(s:XQ)(h:Z3 w base L RO gc r s)(hn:s.led.length<=100000)(aX:∀t ∈ s.led,t.key.length<=5000): Calls prog 71 #[.pointer (some ⟨gc,0,none⟩)] w (ZXS s.led w):=Qq
theorem ZSq {b gc r:Nat}{x y y' z:Option Nat}(h:some b ∈ [some gc,some r,x,y',z]):some b ∈ [some gc,some r,x,y,z]\/y'=some b:=by
 by_cases e:y'=some b
 ·exact .inr e
 ·refine .inl (ZSr (y:=y) ?_);rcases ZfO.1 h with h|h
  ·rw[h];exact ZfQ
  ·refine ZfP _ ?_;rcases ZfO.1 h with h|h
   ·rw[h];exact ZfQ
   ·refine ZfP _ ?_;rcases ZfO.1 h with h|h
    ·rw[h];exact ZfQ
    ·refine ZfP _ ?_;rcases ZfO.1 h with h|h
     ·exact absurd h.symm e
     ·exact ZfP _ h
theorem ZNX(h:w.ownsRow base 5 1 (.slice A n c) n xs)(hn:(Value.slice A n c).ownBlock≠some gc):(w.setCell ⟨gc,i,none⟩ v).ownsRow base 5 1 (.slice A n c) n xs:=((GB.refl w (· =gc)).set gc i v (.inl rfl)).own h (λb e e2=>hn (by rw[e,e2]))
theorem Qs {p:Prop}(h:p:=by
 obtain⟨S,lv,ov,bW,lk,tk,WA,TA,wn,wc,tn,tc,h1,h2,h3,h4,h5,h6,h7,h8,h9,bD,bQ,bL,bP,bO,ei,eh,dj,h18,bK⟩:=h;first|(obtain -:=V1;subst bQ)|subst bO
 rw[h1]at h2;obtain⟨a1,a2,a3,a4⟩:=ZCW h2;have gQ:=(bK gc (by rw[h1];simp));first
 |obtain -:=V2;refine⟨WA,wc,ZE h3 4,ZE h3 7,ZG h3 4,λe=>(a3 gc e).1 rfl,bL,Zf8 gQ.1 (Zf5 gQ.2),λB n' cb w3 ys hl ho g hb=>?_⟩;have g2:GB w (w3.setCell ⟨gc,4,none⟩ (.slice B n' cb)) (λb=>b=gc\/(Value.slice WA s.wr.length wc).ownBlock=some b):=(g.more (λb _ e=>.inr e)).trans ((GB.refl w3 (· =gc)).set gc 4 _ (.inl rfl)) (λb e=>.inl (.inl e));have iF:∀b,(Value.slice WA s.wr.length wc).ownBlock=some b->some b ∈ L:=λb e=>by rw[h1,<-e];simp
  have hR:∀b,RO b->¬(b=gc\/(Value.slice WA s.wr.length wc).ownBlock=some b):=λb hb e=>(h18 b hb).1 (e.elim (λe=>by rw[h1,e];simp) (iF b));have bZ:=g.size;have hnew:∀q,(Value.slice B n' cb).ownBlock=some q->q≠gc/\q≠r/\bW≠some q:=λq e=>(hb q e).elim (λe=>a3 q e) (λe=>⟨λe2=>by omega,λe2=>by have:=(bK r (by rw[h1];simp)).2;omega,λe2=>by have:=(bK q (by rw[h1,<-e2];simp)).2;omega⟩);have sG:∀q,(Value.slice TA tn tc).ownBlock=some q->(Value.slice B n' cb).ownBlock≠some q:=λq e e2=>(hb q e2).elim (λe3=>(a4 q e).2.2.2 e3) (λe3=>by have:=(bK q (by rw[h1,<-e];simp)).2;omega);refine⟨[some gc,some r,bW,(Value.slice B n' cb).ownBlock,(Value.slice TA tn tc).ownBlock],RO,⟨S,lv,ov,bW,lk,tk,B,TA,n',cb,tn,tc,rfl,ZB8 a1 a2 hnew (λq e=>⟨(a4 q e).1,(a4 q e).2.1,(a4 q e).2.2.1,sG q e⟩),ZR (g.blk h3 (λe=>(a3 gc e).1 rfl)) 4 _,Xs.gb h4 g2 (λe=>e.elim (λe=>a1 e.symm) (λe=>(a3 r e).2.1 rfl)) (λb hb=>hR b (h5 b hb)),h5,h6,h7.gb g2 (λb e e2=>e2.elim (λe2=>(a2 b e).1 e2) (λe2=>(a3 b e2).2.2 e)),h8.gbk h9 g2 hR,h9,bD.gbk g2 hR,hl,(ZNX ho (λe=>(hnew gc e).1 rfl)),bP,bO,g2.own ei (λb e e2=>e2.elim (λe2=>(a4 b e).1 e2) (λe2=>(a4 b e).2.2.2 e2)),eh.gbk dj g2 hR,dj,λb gB=>⟨λe=>?_,(h18 b gB).2.1,ZgB (h18 b gB).2.2 g2.size⟩,λb jC=>?_⟩,g2.more (λb _ e=>e.elim (λe=>by rw[h1,e];simp) (iF b)),λb jC=>?_,λb e=>.inl e⟩
 |have iF:∀b,(Value.slice TA s.led.length tc).ownBlock=some b->some b ∈ L:=λb e=>by rw[h1,<-e];simp
  refine⟨TA,tc,tk,ZE h3 5,ZG h3 5,λe=>(a4 gc e).1 rfl,ei,bP,eh,dj,Zf8 gQ.1 (Zf5 gQ.2),iF,λB n' cb w3 l' qI hl aX ho dQ dy g hb=>?_⟩;have g2:GB w (w3.setCell ⟨gc,5,none⟩ (.slice B n' cb)) (λb=>b=gc\/(Value.slice TA s.led.length tc).ownBlock=some b):=(g.more (λb _ e=>.inr e)).trans ((GB.refl w3 (· =gc)).set gc 5 _ (.inl rfl)) (λb e=>.inl (.inl e));have hR:∀b,RO b->¬(b=gc\/(Value.slice TA s.led.length tc).ownBlock=some b):=λb hb e=>(h18 b hb).1 (e.elim (λe=>by rw[h1,e];simp) (iF b));have bZ:=g.size;have hnew:∀q,(Value.slice B n' cb).ownBlock=some q->q≠gc/\q≠r/\bW≠some q/\(Value.slice WA wn wc).ownBlock≠some q:=λq e=>(hb q e).elim (λe=>a4 q e) (λe=>⟨λe2=>by omega,λe2=>by have:=(bK r (by rw[h1];simp)).2;omega,λe2=>by have:=(bK q (by rw[h1,<-e2];simp)).2;omega,λe2=>by have:=(bK q (by rw[h1,<-e2];simp)).2;omega⟩);refine⟨[some gc,some r,bW,(Value.slice WA wn wc).ownBlock,(Value.slice B n' cb).ownBlock],RO,⟨S,lv,ov,bW,lk,qI,WA,B,wn,wc,n',cb,rfl,ZB8 a1 a2 a3 hnew,ZR (g.blk h3 (λe=>(a4 gc e).1 rfl)) 5 _,Xs.gb h4 g2 (λe=>e.elim (λe=>a1 e.symm) (λe=>(a4 r e).2.1 rfl)) (λb hb=>hR b (h5 b hb)),h5,h6,h7.gb g2 (λb e e2=>e2.elim (λe2=>(a2 b e).1 e2) (λe2=>(a4 b e2).2.2.1 e)),h8.gbk h9 g2 hR,h9,bD.gbk g2 hR,bQ,g2.own bL (λb e e2=>e2.elim (λe2=>(a3 b e).1 e2) (λe2=>(a4 b e2).2.2.2 e)),aX,hl,(((GB.refl w3 (· =gc)).set gc 5 _ (.inl rfl)).own ho (λb e e2=>(hnew b e).1 e2)),dQ.gbk dy g2 hR,dy,λb gB=>⟨λe=>?_,(h18 b gB).2.1,ZgB (h18 b gB).2.2 g2.size⟩,λb jC=>?_⟩,g2.more (λb _ e=>e.elim (λe=>by rw[h1,e];simp) (iF b)),λb jC=>?_,λb e=>.inl e⟩
 ·first|(obtain -:=V3;rcases ZSq (y:=(Value.slice WA s.wr.length wc).ownBlock) e with e|e)|rcases ZNg (z:=(Value.slice TA s.led.length tc).ownBlock) e with e|e
  ·exact(h18 b gB).1 (by rw[h1];exact e)
  ·rcases hb b e with e|e
   ·exact(h18 b gB).1 (iF b e)
   ·have:=(h18 b gB).2.2;omega
 ·first|(obtain -:=V4;rcases ZSq (y:=(Value.slice WA s.wr.length wc).ownBlock) jC with e|e)|rcases ZNg (z:=(Value.slice TA s.led.length tc).ownBlock) jC with e|e
  ·have:=bK b (by rw[h1];exact e);exact⟨this.1,ZgB this.2 g2.size⟩
  ·have:=ho.lt b e;exact⟨this.1,by simpa using this.2⟩
 ·first|(obtain -:=V5;rcases ZSq (y:=(Value.slice WA s.wr.length wc).ownBlock) jC with e|e)|rcases ZNg (z:=(Value.slice TA s.led.length tc).ownBlock) jC with e|e
  ·exact .inl (by rw[h1];exact e)
  ·exact(hb b e).imp (iF b) id):p:=h
theorem Z3.write{L:List (Option Nat)}(h:Z3 w base L RO gc r s): ∃(WA:Option Addr) (wc:Nat),w.cell? ⟨gc,4,none⟩=some (.slice WA s.wr.length wc)/\w.cell? ⟨gc,7,none⟩=some (.bool s.hung)/\w.frozen? ⟨gc,4,none⟩=false/\(Value.slice WA s.wr.length wc).ownBlock≠some gc/\w.ownsRow base 5 1 (.slice WA s.wr.length wc) s.wr.length (ZT .u8 s.wr)/\base<=w.heap.size/\ ∀(B:Option Addr) (n' cb:Nat) (w3:World) (ys:List Nat),(s.wr++ys).length=n'->w3.ownsRow base 5 1 (.slice B n' cb) n' (ZT .u8 (s.wr++ys))->GB w w3 (λb=>(Value.slice WA s.wr.length wc).ownBlock=some b)->(∀b,(Value.slice B n' cb).ownBlock=some b->(Value.slice WA s.wr.length wc).ownBlock=some b\/w.heap.size<=b)-> Yk w base L RO gc r {s with wr:=s.wr++ys} (w3.setCell ⟨gc,4,none⟩ (.slice B n' cb)):=by
 obtain⟨V1,V2,V3,V4,V5⟩:=QA;exact Qs
theorem Jf{p:Addr}(x:ZM w w')(h:w.cell? p=some v)(hf:w.frozen? p=false):w'.frozen? p=false:=(x.frozen (ZgT w p h)).trans hf
theorem ZBT{row:Option Nat}(g:w.grownBy w' row)(h:w.cell? ⟨gc,i,none⟩=some v)(hf:w.frozen? ⟨gc,i,none⟩=false)(hn:row≠some gc):w'.frozen? ⟨gc,i,none⟩=false:=by
 have hb:=g.block gc (ZgT w _ h) (λe=>hn e.symm);unfold World.frozen? at hf ⊢;simp only[hb];exact hf
def XK (s:XQ)(q:Int)(B:List Nat):XQ:=if q=0/\s.hung=false then {s with wr:=s.wr++(Js B.length++B)} else s
def ZXs (w:World)(base:Nat)(L:List (Option Nat))(RO:Zhf)(gc r:Nat)(s:XQ)(e:Int)(g:Bool)(N:List Int)(x:Ending)(w':World):Prop:=∃q B,ZDr e g N q B/\x=.returned (.int .i64 q)/\Yk w base L RO gc r (XK s q B) w'
theorem Yk.refl{L:List (Option Nat)}(h:Z3 w base L RO gc r s)(x:ZM w w'):Yk w base L RO gc r s w':=⟨L,RO,h.ext x,GB.of_ext _ x,λ_ e=>.inl e,λ_ e=>.inl e⟩
theorem Yk.back{w0:World}{L:List (Option Nat)}(x:ZM w0 w)(h:Yk w base L RO gc r s w'):Yk w0 base L RO gc r s w':=by
 obtain⟨L',lr,h1,h2,h3,h4⟩:=h;exact⟨L',lr,h1,GB.back x h2,λb e=>(h3 b e).imp id (Zf8 x.size),λb e=>(h4 b e).imp id (λe=>e.imp id (Zf8 x.size))⟩
theorem ZMT (w:World)(base gc r:Nat)(L:List (Option Nat))(RO:Zhf)(s:XQ)(h:Z3 w base L RO gc r s)(da:s.wr.length<=1000000)(e:Nat)(he:e<=16)(g:Bool)(l t sn nw:Int): Calls prog 151 #[.pointer (some ⟨gc,0,none⟩),.agg #[.int .i64 e,.bool g,.int .i64 l,.int .i64 t,.int .i64 sn,.int .i64 nw]] w (ZXs w base L RO gc r s (e:Int) g [l,t,sn,nw]):=by
 have RP:=ZA (λu=>show Calls prog 152 #[.agg #[.int .i64 e,.bool g,.int .i64 l,.int .i64 t,.int .i64 sn,.int .i64 nw]] u (ZOr (e:Int) g [l,t,sn,nw] u)from by
  cases g
  ·exact ZLd u e l t sn nw he
  ·exact ZNJ u e l t sn nw he)
 obtain⟨W,hW,xW,KP⟩:=Za w (.cells #[.int .i64 e,.bool g,.int .i64 l,.int .i64 t,.int .i64 sn,.int .i64 nw] 39);have H:=ZA h;have XW:=ZA xW;clear h xW;go_enter func151,ntmps151;go_upto_region 1 with fail
 (try rw[hW])
 clear hW;have p0:=ZX1 KP.o 0 (.int .i64 e);have p1:=ZX1 KP.o 1 (.bool g);have p2:=ZX1 KP.o 2 (.int .i64 l);have p3:=ZX1 KP.o 3 (.int .i64 t);have p4:=ZX1 KP.o 4 (.int .i64 sn);have p5:=ZX1 KP.o 5 (.int .i64 nw);go_wp2_with fail;refine(RP.o W).mono ?_;rintro x w1 ⟨q,B,i9,A1,c1,rfl,o1,x1⟩;clear p0 p1 p2 p3 p4 p5;have X1:=ZA (XW.o.trans x1);have it:=ZA i9;rcases i9 with⟨rfl,rfl,-⟩|⟨rfl,-,-,ns,⟨AE,-⟩,hB⟩
 ·clear x1 o1;go_wp2_with fail;go_ret;exact⟨1,[],it.o,rfl,by unfold XK;rw[Zgk ZB];exact Yk.refl H.o X1.o⟩
 ·obtain⟨m,Hm⟩:=ZX2 (B.length);have Eh:1<=m/\m<=60:=by rw[<-Hm.o,hB,ZDT,AE];omega
  have O1:=ZA o1;rw[Hm.o]at O1 ⊢;obtain⟨WA,wc,c4,c7,f4,cL,ow,mB,step⟩:=(H.o.ext X1.o).write;have gZ:=ZA step;obtain⟨wn,Hwn⟩:=ZX2 (s.wr.length);rw[Hwn.o]at c4 cL ow gZ da;have OW:=ZA ow;obtain⟨hg,Hhg⟩:=ZX2 (s.hung);rw[Hhg.o]at c7;clear x1 o1 ow step hB AE;cases hg with
  |true=>
   go_wp2_with fail;go_ret;exact⟨0,B,it.o,rfl,by unfold XK;rw[Zgk (by rw[Hhg.o];simp)];exact Yk.refl H.o X1.o⟩
  |false=>
   have EN:=ZA (ZGP w1 A1 m c1 B ZB ZB Hm.o (Rd.of_own O1.o));unfold Xc at EN;obtain⟨fr,Hfr⟩:=ZX2 (Js m++B);rw[Hfr.o]at EN;obtain⟨fn,Hfn⟩:=ZX2 (fr.length);have aj:fn<=100:=by rw[<-Hfn.o,<-Hfr.o,ZfE,Hm.o];simp[Js];omega
   rw[Hfn.o]at EN;go_wp2_with fail;refine EN.o.mono ?_;rintro x w2 ⟨A2,c2,rfl,o2,x2⟩;have O2:=ZA o2;have X2:=ZA x2;have d4:=ZF x2 c4;have g4:=Jf x2 c4 f4;have di:base<=w2.heap.size:=Zf8 mB x2.size;clear o2 x2 c4 f4 c7;go_wp2_with (at_builtin;refine JV w2 rfl (.tmp 31) (.tmp 32) rfl base rfl (Z5 OW.o X2.o) rfl Hfn.o (Rd.of_own O2.o) ZB di ?_;intro B3 FI w3 o3 g3 b3;have e4:w3.cell? ⟨gc,4,none⟩=some (.slice WA wn wc):=g3.cell d4 cL.symm;have h4:w3.frozen? ⟨gc,4,none⟩=false:=ZBT g3 d4 g4 cL;obtain⟨O3,G3,I8⟩:=Z8 o3 g3 b3;clear o3 g3 b3);go_ret;refine⟨0,B,it.o,rfl,?_⟩;unfold XK;rw[Zgl ⟨rfl,Hhg.o⟩,Hm.o,Hfr.o]
   exact Yk.back X1.o (gZ.o B3 (wn+fn) FI w3 fr (by rw[ZfE,Hwn.o,Hfn.o]) O3.o (((GB.refl w1 _).ext X2.o).grown G3.out (λq e=>.inl e)) (λb e=>by
    rcases I8.o with h9|h9
    ·exact .inl (h9 ▸ e)
    ·rw[h9]at e;injection e with e;exact .inr (by rw[<-e];exact X2.o.size)))
theorem ZPC {b gc r:Nat}{x y z:Option Nat}(h:some b ∈ [some gc,some r,none,y,z]):some b ∈ [some gc,some r,x,y,z]:=by
 rcases ZfO.1 h with h|h
 ·rw[h];exact ZfQ
 ·exact ZY1
def ZDe (s:XQ):XQ:={s with closed:=true,hung:=true,line:=[]}
theorem ZYH {p:Prop}(h:p:=by
 first|(obtain -:=V1;obtain⟨⟨v6,c6⟩,⟨v7,c7⟩,⟨v1,c1⟩,fz,L',hh,hL⟩:=h.hang;have f6:=fz 6;have f7:=fz 7;have f1:=fz 1;have LD:=ZA (ZGX _ base gc r L' RO (ZDe s) hh hn aX))|(obtain⟨S,lv,ov,bW,lk,tk,WA,TA,wn,wc,tn,tc,h1,h2,h3,h4,h5,h6,h7,h8,h9,bD,bQ,bL,bP,bO,ei,eh,dj,h18,bK⟩:=h;rw[h1]at h2;obtain⟨a1,a2,a3,a4⟩:=ZCW h2)
 have g:GB w (((w.setCell ⟨gc,6,none⟩ (.bool true)).setCell ⟨gc,7,none⟩ (.bool true)).setCell ⟨gc,1,none⟩ (.slice none 0 0)) (· =gc):=(((GB.refl w (· =gc)).set gc 6 _ (.inl rfl)).set gc 7 _ (.inl rfl)).set gc 1 _ (.inl rfl);first
 |obtain -:=V2;have bZ:(((w.setCell ⟨gc,6,none⟩ (.bool true)).setCell ⟨gc,7,none⟩ (.bool true)).setCell ⟨gc,1,none⟩ (.slice none 0 0)).heap.size=w.heap.size:=by simp
  obtain⟨X,hX⟩:=ZX3 ((((w.setCell ⟨gc,6,none⟩ (.bool true)).setCell ⟨gc,7,none⟩ (.bool true)).setCell ⟨gc,1,none⟩ (.slice none 0 0)));rw[hX]at LD g bZ hh;obtain⟨HH,HL,HX,HSZ,HG⟩:=ZBR hh hL hX bZ g;clear h hh hL hX fz bZ g;go_enter func107,ntmps107;go_upto_region 4 with fail;first|rw[HX.o]|rw[show((((w.setCell ⟨gc,6,none⟩ (.bool true)).setCell ⟨gc,7,none⟩ (.bool true)).setCell ⟨gc,1,none⟩ (.slice none 0 0))).drew=X.drew by rw[HX.o]]
  go_wp2_with fail;refine LD.o.mono ?_;rintro e w2 ⟨A,c,ks,rfl,hN,x2⟩;go_wp2_with fail;go_ret;exact⟨A,c,ks,L',rfl,HH.o.ext x2,by rw[<-HSZ.o];exact hN,HG.o.ext x2,HL.o⟩
 |have hR:∀b,RO b->¬b=gc:=λb hb e=>(h18 b hb).1 (by rw[h1,e];simp);refine⟨⟨_,ZE h3 6⟩,⟨_,ZE h3 7⟩,⟨_,ZE h3 1⟩,λi=>ZG h3 i,[some gc,some r,none,(Value.slice WA wn wc).ownBlock,(Value.slice TA tn tc).ownBlock],⟨S,.slice none 0 0,ov,none,[],tk,WA,TA,wn,wc,tn,tc,rfl,ZB8 a1 (λq e=>by cases e) (λq e=>⟨(a3 q e).1,(a3 q e).2.1,λe=>by cases e⟩) (λq e=>⟨(a4 q e).1,(a4 q e).2.1,(λe=>by cases e),(a4 q e).2.2.2⟩),ZR (ZR (ZR h3 6 _) 7 _) 1 _,Xs.gb h4 g (λe=>a1 e.symm) (λb hb=>hR b (h5 b hb)),h5,rfl,ZLn _ _,(λp hp=>by simp at hp),(λk hk=>by simp at hk),bD.gbk g hR,bQ,g.own bL (λb e=>(a3 b e).1),bP,bO,g.own ei (λb e=>(a4 b e).1),eh.gbk dj g hR,dj,λb hb=>⟨λe=>(h18 b hb).1 (by rw[h1];exact ZPC e),(h18 b hb).2.1,by simpa using(h18 b hb).2.2⟩,λb hb=>⟨(bK b (by rw[h1];exact ZPC hb)).1,by simpa using(bK b (by rw[h1];exact ZPC hb)).2⟩⟩,λb hb=>by rw[h1];exact ZPC hb⟩):p:=h
theorem Z3.hang{L:List (Option Nat)}(h:Z3 w base L RO gc r s): (∃v,w.cell? ⟨gc,6,none⟩=some v)/\(∃v,w.cell? ⟨gc,7,none⟩=some v)/\(∃v,w.cell? ⟨gc,1,none⟩=some v)/\(∀i,w.frozen? ⟨gc,i,none⟩=false)/\ ∃L',Z3 (((w.setCell ⟨gc,6,none⟩ (.bool true)).setCell ⟨gc,7,none⟩ (.bool true)).setCell ⟨gc,1,none⟩ (.slice none 0 0)) base L' RO gc r (ZDe s)/\∀b,some b ∈ L'->some b ∈ L:=ZYH
theorem ZMY (w:World)(base gc r)(L:List (Option Nat))(RO)(s:XQ)(h:Z3 w base L RO gc r s)(hn:s.led.length<=100000)(aX:∀t ∈ s.led,t.key.length<=5000): Calls prog 107 #[.pointer (some ⟨gc,0,none⟩)] w λe w'=>∃A c ks L',e=.returned (.slice A s.led.length c)/\Z3 w' base L' RO gc r (ZDe s)/\ZAM w' w.heap.size A s.led.length c s.led ks/\GB w w' (· =gc)/\∀b,some b ∈ L'->some b ∈ L:=by
 obtain⟨V1,V2⟩:=QA;exact ZYH
def ZFG (xs:List Nat):List Int:=xs.map λ(x:Nat)=>(x:Int)
theorem ZID (w A n c)(xs:List Nat)(hl:xs.length=n)(hr:Rd w A (ZT .u8 xs)):(convert 32 9 (.slice A n c)).run prog w=.ok (.string (strOfNums (ZFG xs))) w:=by
 rcases Zf4 n with hn|hn
 ·subst hn;obtain rfl:xs=[]:=Zet hl;exact run_convert_bytes_zero w _ _ underlying32 underlying5 A c _ underlying9
 ·obtain⟨b,off,rfl,hc⟩:=hr (λe=>by have:=Zge List.length e;rw[Xk,ZfJ]at this;omega)
  exact run_convert_bytes_arg (P:=prog) w _ _ underlying32 underlying5 b off n c (ZFG xs) (by unfold ZFG;rw[List.length_map,hl]) (λi hi=>by
   obtain⟨x,hx⟩:∃x,xs[i]?=some x:=⟨_,Ze4 ZB⟩;rw[hc i _ (ZBe hx)];unfold ZFG;rw[Zez,Ze6,hx];rfl) _ underlying9
theorem ZSI{xs:List Nat}(h:∀x ∈ xs,x<256)(h':∀x ∈ ys,x<256):strOfNums (ZFG xs)=strOfNums (ZFG ys)↔xs=ys:=by
 constructor
 ·intro e;have e2:=Zge (λs:ByteArray=>s.data.toList.map UInt8.toNat) e;have hm:∀(l:List Nat),(∀x ∈ l,x<256)->(strOfNums (ZFG l)).data.toList.map UInt8.toNat=l:=λl hl=>by
   rw[strOfNums_data];unfold ZFG;rw[List.map_map,List.map_map]
   conv=>rhs;rw[<-List.map_id l]
   refine List.map_congr_left λx hx=>?_;have:=hl x hx;simp[UInt8.toNat_ofNat'];omega
  rw[hm xs h,hm ys h']at e2;exact e2
 ·intro e;rw[e]
theorem ZOi (w A B n c m d)(xs ys:List Nat)(hl:xs.length=n)(cu:ys.length=m)(hb:∀x ∈ xs,x<256)(hb':∀x ∈ ys,x<256)(hr:Rd w A (ZT .u8 xs))(bC:Rd w B (ZT .u8 ys)): Calls prog 155 #[.slice A n c,.slice B m d] w λe w'=>e=.returned (.bool (decide (xs=ys)))/\w=w':=by
 have h1:=ZID w A n c xs hl hr;have h2:=ZID w B m d ys cu bC;obtain⟨s1,aG⟩:=ZX3 (strOfNums (ZFG xs));obtain⟨s2,dq⟩:=ZX3 (strOfNums (ZFG ys));have hq:=ZSI hb hb';rw[aG]at h1;rw[dq]at h2;rw[aG,dq]at hq;by_cases ie:xs=ys
 ·have h3:s1=s2:=hq.2 ie;subst h3;rw[Zgg ie];clear hq aG dq hl cu hb hb' hr bC ie;go_enter func155,ntmps155;go_wp2_with fail;go_ret;exact⟨rfl,rfl⟩
 ·have h3:(s1.toList==s2.toList)=false:=by
   rw[ByteArray.toList_eq,ByteArray.toList_eq];exact Zgb.2 (λe=>ie (hq.1 (ByteArray.ext (Array.toList_inj.1 e))))
  rw[Zgf ie];clear hq aG dq hl cu hb hb' hr bC ie;go_enter func155,ntmps155;go_wp2_with fail;go_ret;exact⟨rfl,rfl⟩
def ZGK (c:Zy)(t:Jp):Bool:=decide (t.pol=(c.pol:Int)/\t.key=c.key/\t.ser=(c.num:Int))
theorem ZRS (w:World)(o rz vp n m p N K1 K2 op)(key ck:List Nat)(pt ser)(aH:w.heap[o]?=some (.cells #[.int .u8 op,.int .i64 p,.slice K1 n rz,.int .i64 N] 34 (0,0)))(h1:ck.length=n)(h2:key.length=m)(dG:∀x ∈ ck,x<256)(di:∀x ∈ key,x<256)(eB:Rd w K1 (ZT .u8 ck))(d9:Rd w K2 (ZT .u8 key)): Calls prog 154 #[.agg #[.int .i64 pt,.slice K2 m vp,.int .i64 ser],.pointer (some ⟨o,0,none⟩)] w (Xj (.bool (ZGK ⟨op,p,ck,N⟩ ⟨pt,key,ser⟩)) w):=by
 have xW:ZM w (w.alloc (.cells #[.int .i64 pt,.slice K2 m vp,.int .i64 ser] 120)):=(ZM.refl w).alloc _;have EQ:=ZA (ZOi (w.alloc (.cells #[.int .i64 pt,.slice K2 m vp,.int .i64 ser] 120)) K2 K1 m vp n rz key ck h2 h1 di dG (d9.ext xW) (eB.ext xW));have kb:=ZK aH xW;have c1:=ZX1 kb 1 (.int .i64 p);have c2:=ZX1 kb 2 (.slice K1 n rz);have c3:=ZX1 kb 3 (.int .i64 N);have Ll:=ZX aH;unfold ZGK
 dsimp only
 clear aH kb h1 h2 dG di eB d9;by_cases e1:pt=(p:Int)
 ·subst e1;by_cases e2:key=ck
  ·rw[Zgg e2]at EQ;by_cases e3:ser=(N:Int)
   ·subst e3;rw[Zgg ⟨rfl,e2,rfl⟩];clear e2;go_enter func154,ntmps154;go_wp2_with fail;refine EQ.o.mono ?_;rintro e w1 ⟨rfl,rfl⟩;go_wp2_with fail;go_ret;exact⟨rfl,xW⟩
   ·rw[Zgf (λh=>e3 h.2.2)];have LO:(ser==(N:Int))=false:=by simpa using e3
    clear e2 e3;go_enter func154,ntmps154;go_wp2_with fail;refine EQ.o.mono ?_;rintro e w1 ⟨rfl,rfl⟩;go_wp2_with fail;go_ret;exact⟨rfl,xW⟩
  ·rw[Zgf e2]at EQ;rw[Zgf (λh=>e2 h.2.1)];clear e2;go_enter func154,ntmps154;go_wp2_with fail;refine EQ.o.mono ?_;rintro e w1 ⟨rfl,rfl⟩;go_wp2_with fail;go_ret;exact⟨rfl,xW⟩
 ·rw[Zgf (λh=>e1 h.1)];have LP:(pt==(p:Int))=false:=by simpa using e1
  clear e1;go_enter func154,ntmps154;go_wp2_with fail;go_ret;exact⟨rfl,xW⟩
def ZHw (c:Zy):List Jp->Option Nat
 |[]=>none
 |t::l=>if ZGK c t=true then some 0 else (ZHw c l).map (· +1)
theorem ZTI {c:Zy}:∀{l:List Jp} {j:Nat} {t:Jp},(∀(q:Nat) (x:Jp),q<j->l[q]?=some x->ZGK c x=false)->l[j]?=some t->ZGK c t=true->ZHw c l=some j
 |[],_,_,_,h,_=>by simp at h
 |y::l,0,t,_,h,ht=>by
  simp at h;subst h;exact Zgl ht
 |y::l,j+1,t,hn,h,ht=>by
  have hy:=hn 0 y ZB rfl;unfold ZHw;rw[Zgk (by rw[hy];exact ZeZ),ZTI (j:=j) (λq x hq hx=>hn (q+1) x ZB (by simpa using hx)) (by simpa using h) ht];rfl
theorem ZMC {c:Zy}:∀{l:List Jp},(∀(q:Nat) (x:Jp),l[q]?=some x->ZGK c x=false)->ZHw c l=none
 |[],_=>rfl
 |y::l,hn=>by
  have hy:=hn 0 y rfl;unfold ZHw;rw[Zgk (by rw[hy];exact ZeZ),ZMC (λq x hx=>hn (q+1) x (by simpa using hx))];rfl
def ZWb (o:Option Nat):Int:=match o with
 |some i=>(i:Int)
 |none=>-1
theorem ZOY (w:World)(A nl cl)(l:List Jp)(ks o rz n p N op K1)(ck:List Nat)(hl:l.length=nl)(cX:nl<=100000)(hE:ZEU w A l ks)(jx:∀t ∈ l,∀x ∈ t.key,x<256)(aH:w.heap[o]?=some (.cells #[.int .u8 op,.int .i64 p,.slice K1 n rz,.int .i64 N] 34 (0,0)))(h1:ck.length=n)(dG:∀x ∈ ck,x<256)(eB:Rd w K1 (ZT .u8 ck)): Calls prog 153 #[.slice A nl cl,.func (.func 154) #[] #[.pointer (some ⟨o,0,none⟩)]] w (Xj (.int .i64 (ZWb (ZHw ⟨op,p,ck,N⟩ l))) w):=by
 obtain⟨Hl,HE,HB,zC,H1,j9⟩:=Ju hl hE jx aH h1 dG;have Ie:=ZA eB;clear hl hE jx aH h1 dG eB;go_enter func153,ntmps153;go_wp2_with fail
 go_loopw [8] (λi wr=>∃j:Nat,j<=nl/\i=.int .i64 j/\ZM w wr/\∀q x,q<j->l[q]?=some x->ZGK ⟨op,p,ck,N⟩ x=false) (λi _=>nl - (intOf i).toNat)
 case atStart=>exact⟨0,ZgR _,rfl,ZM.refl w,λq e h=>absurd h (ZgL q)⟩
 case round=>
  obtain⟨j,hj,rfl,hx,ag⟩:=hrel;have HX:=ZA hx;have uf:=ZA ag;clear ag;by_cases ak:j<nl
  ·obtain⟨e,he⟩:∃e,l[j]?=some e:=⟨_,Ze4 (by rw[Hl.o];exact ak)⟩;obtain⟨b,off,K2,kc,hA,jw,d0,d1,d2,cM,dQ⟩:=(HE.o.ext hx).at_ he;have pQ:=HB.o e (ZfU he);have He:=ZA he;obtain⟨pt,x,ser⟩:=e
   dsimp only at d0 d1 d2 cM dQ pQ
   subst hA;obtain⟨m,Hm⟩:=ZX2 (x.length);rw[Hm.o]at d1 cM;have CR:=ZA (ZRS wr o rz kc n m p N K1 K2 op x ck pt ser (ZK zC.o hx) H1.o Hm.o j9.o pQ (Ie.o.ext hx) dQ);clear he dQ pQ hx jw;cases ht:ZGK ⟨op,p,ck,N⟩ ⟨pt,x,ser⟩with
   |true=>
    rw[ht]at CR;have HT:=ZA ht;clear ht;go_wp2_with fail;refine CR.o.mono ?_;rintro e w3 ⟨rfl,x3⟩;go_wp2_with fail;go_ret;refine⟨?_,HX.o.trans x3⟩;rw[ZTI uf.o He.o HT.o];rfl
   |false=>
    rw[ht]at CR;have HT:=ZA ht;clear ht;go_wp2_with fail;refine CR.o.mono ?_;rintro e w3 ⟨rfl,x3⟩;have X3:=ZA (HX.o.trans x3);clear x3;go_wp2_with fail
    go_roundw
    case rel=>exact⟨j+1,ak,by go_num,X3.o,λq y hq hy=>by
     rcases ZgC q j with h|h
     ·exact uf.o q y h hy
     ·obtain rfl:q=j:=by omega
      rw[He.o]at hy;injection hy with hy;subst hy;exact HT.o⟩
    case measure=>simp[intOf];omega
  ·obtain rfl:j=nl:=by omega
   go_wp2_with fail;go_ret;refine⟨?_,HX.o⟩;rw[ZMC (λq y hy=>uf.o q y (by rw[<-Hl.o];exact(Ze5.1 hy).1) hy)];rfl
theorem Qw {p:Prop}(h:p:=by
 obtain⟨S,lv,ov,bW,lk,tk,WA,TA,wn,wc,tn,tc,h1,h2,h3,h4,h5,h6,h7,h8,h9,bD,bQ,bL,bP,bO,ei,eh,dj,h18,bK⟩:=h;have fK:=h2;rw[h1]at fK;obtain⟨a1,a2,a3,a4⟩:=ZCW fK;first
 |obtain -:=V1;rw[hl]at h6 h7 h8;obtain⟨k,me,rfl⟩:∃k me,lk=k::me:=by
   cases lk with
   |nil=>simp at h6
   |cons k t=>exact⟨k,t,rfl⟩
  obtain⟨K,kc⟩:=k;obtain⟨ao,cap,fD,-,-,bB⟩:=h7.shape;subst fD;have mA:ZBX ((K,kc)::me) (c::rest)=ZCt (K,kc) c++ZBX me rest:=by unfold ZBX;rw[Zfu,Zex]
  obtain⟨b,off,rfl,fq⟩:=bB (by rw[mA];simp[ZCt]);rw[mA]at fq h7;obtain⟨v',du,aC,dS,dp⟩:=ZBz.drop (P:=prog) (t:=84) (e:=34) underlying84 ZVX h7 1 ZXz rfl;obtain⟨k1,k2⟩:=h8 ((K,kc),c) (by rw[Zfu];exact ZfQ);have Bl:ZBz w 4 du v' rest.length (ZBX me rest):=by
   have:(ZCt (K,kc) c++ZBX me rest).drop (1*4)=ZBX me rest:=by simp[ZCt]
   rw[this]at dS;simpa using dS
  refine⟨b,off,cap,K,kc,v',ZE h3 1,fq 0 _ rfl,fq 1 _ rfl,fq 2 _ rfl,fq 3 _ rfl,k1,k2,aC,by obtain⟨x1,x2,x3,_⟩:=Bl.shape;exact⟨x1,x2,x3⟩,h9 (K,kc) ZfQ,λw1 o x ho bZ=>?_⟩;have EP:=(bK gc (by rw[h1];simp));have gx:GB w w1 (· =gc):=GB.of_ext _ x;have g1:GB w (w1.setCell ⟨gc,1,none⟩ v') (· =gc):=gx.set gc 1 _ (.inl rfl);have g:GB w ((w1.setCell ⟨gc,1,none⟩ v').setCell ⟨gc,3,none⟩ (.pointer (some ⟨o,0,none⟩))) (· =gc):=g1.set gc 3 _ (.inl rfl);have D8:o≠gc:=λe=>by omega
  have hR:∀b,RO b->¬b=gc:=λb hb e=>(h18 b hb).1 (by rw[h1,e];simp);have bz:∀b,some b ∈ [some gc,some r,du,(Value.slice WA wn wc).ownBlock,(Value.slice TA tn tc).ownBlock]->some b ∈ L:=by
   intro b hb;rw[h1];rcases ZfO.1 hb with e|hb
   ·rw[e];exact ZfQ
   ·refine ZfP _ ?_;rcases ZfO.1 hb with e|hb
    ·rw[e];exact ZfQ
    ·refine ZfP _ ?_;rcases ZfO.1 hb with e|hb
     ·rw[dp b e.symm];exact ZfQ
     ·exact ZfP _ hb
  have aE:GB w1 ((w1.setCell ⟨gc,1,none⟩ v').setCell ⟨gc,3,none⟩ (.pointer (some ⟨o,0,none⟩))) (· =gc):=((GB.refl w1 (· =gc)).set gc 1 _ (.inl rfl)).set gc 3 _ (.inl rfl);refine⟨[some gc,some r,du,(Value.slice WA wn wc).ownBlock,(Value.slice TA tn tc).ownBlock],λb=>RO b\/b=o,⟨S,v',.pointer (some ⟨o,0,none⟩),du,me,tk,WA,TA,wn,wc,tn,tc,rfl,ZB8 a1 (λq e=>a2 q (dp q e)) (λq e=>⟨(a3 q e).1,(a3 q e).2.1,λe2=>(a3 q e).2.2 (dp q e2)⟩) (λq e=>⟨(a4 q e).1,(a4 q e).2.1,λe2=>(a4 q e).2.2.1 (dp q e2),(a4 q e).2.2.2⟩),?_,Xs.gb h4 g (λe=>a1 e.symm) (λb hb=>hR b (h5 b hb)),λb hb=>.inl (h5 b hb),by simpa using h6,Bl.gb g (λb e=>(a2 b (dp b e)).1),?_,λk hk a e=>.inl (h9 k (ZfP _ hk) a e),?_,bQ,g.own bL (λb e=>(a3 b e).1),bP,bO,g.own ei (λb e=>(a4 b e).1),eh.gbk dj g hR,λk hk a e=>.inl (dj k hk a e),λb hb=>?_,λb hb=>?_⟩,bz,λb e=>e⟩
  ·exact ZR (ZR (ZK h3 x) 1 _) 3 _
  ·have Fj:ZAr w (λc:Zy=>c.key) me rest:=λp hp=>h8 p (by rw[Zfu];exact ZfP _ hp);exact Fj.gbk (λk hk=>h9 k (ZfP _ hk)) g hR
  ·exact⟨o,(K,kc),rfl,aE.blk ho D8,k1,g.rd k2 (λa e=>hR _ (h9 (K,kc) ZfQ a e)),.inr rfl,λa e=>.inl (h9 (K,kc) ZfQ a e)⟩
  ·rcases hb with hb|rfl
   ·exact⟨λe=>(h18 b hb).1 (bz b e),(h18 b hb).2.1,ZgB (h18 b hb).2.2 g.size⟩
   ·refine⟨λe=>?_,by omega,ZgB (ZX ho) aE.size⟩;have:=(bK b (bz b e)).2;omega
  ·have:=bK b (bz b hb);exact⟨this.1,ZgB this.2 g.size⟩
 |obtain -:=V2;have g:GB w (w.setCell ⟨gc,3,none⟩ (.pointer none)) (· =gc):=(GB.refl w (· =gc)).set gc 3 _ (.inl rfl);have hR:∀b,RO b->¬b=gc:=λb hb e=>(h18 b hb).1 (by rw[h1,e];simp);exact⟨⟨S,lv,.pointer none,bW,lk,tk,WA,TA,wn,wc,tn,tc,h1,h2,ZR h3 3 _,Xs.gb h4 g (λe=>a1 e.symm) (λb hb=>hR b (h5 b hb)),h5,h6,h7.gb g (λb e=>(a2 b e).1),h8.gbk h9 g hR,h9,rfl,bQ,g.own bL (λb e=>(a3 b e).1),bP,bO,g.own ei (λb e=>(a4 b e).1),eh.gbk dj g hR,dj,λb hb=>⟨(h18 b hb).1,(h18 b hb).2.1,by simpa using(h18 b hb).2.2⟩,λb hb=>⟨(bK b hb).1,by simpa using(bK b hb).2⟩⟩,g⟩
 |obtain -:=V3;have g:GB w (w.setCell ⟨gc,2,none⟩ (.int .i64 e)) (· =gc):=(GB.refl w (· =gc)).set gc 2 _ (.inl rfl);have hR:∀b,RO b->¬b=gc:=λb hb e=>(h18 b hb).1 (by rw[h1,e];simp);exact⟨⟨S,lv,ov,bW,lk,tk,WA,TA,wn,wc,tn,tc,h1,h2,ZR h3 2 _,Xs.gb h4 g (λe=>a1 e.symm) (λb hb=>hR b (h5 b hb)),h5,h6,h7.gb g (λb e=>(a2 b e).1),h8.gbk h9 g hR,h9,bD.gbk g hR,bQ,g.own bL (λb e=>(a3 b e).1),bP,bO,g.own ei (λb e=>(a4 b e).1),eh.gbk dj g hR,dj,λb hb=>⟨(h18 b hb).1,(h18 b hb).2.1,by simpa using(h18 b hb).2.2⟩,λb hb=>⟨(bK b hb).1,by simpa using(bK b hb).2⟩⟩,g.more (λb _ e=>by rw[e,h1];simp)⟩
 |have g:GB w (w.setCell ⟨gc,6,none⟩ (.bool true)) (· =gc):=(GB.refl w (· =gc)).set gc 6 _ (.inl rfl);have hR:∀b,RO b->¬b=gc:=λb hb e=>(h18 b hb).1 (by rw[h1,e];simp);exact⟨S,lv,ov,bW,lk,tk,WA,TA,wn,wc,tn,tc,h1,h2,ZR h3 6 _,Xs.gb h4 g (λe=>a1 e.symm) (λb hb=>hR b (h5 b hb)),h5,h6,h7.gb g (λb e=>(a2 b e).1),h8.gbk h9 g hR,h9,bD.gbk g hR,bQ,g.own bL (λb e=>(a3 b e).1),bP,bO,g.own ei (λb e=>(a4 b e).1),eh.gbk dj g hR,dj,λb hb=>⟨(h18 b hb).1,(h18 b hb).2.1,by simpa using(h18 b hb).2.2⟩,λb hb=>⟨(bK b hb).1,by simpa using(bK b hb).2⟩⟩):p:=h
theorem Z3.outNone{L:List (Option Nat)}(h:Z3 w base L RO gc r s): Z3 (w.setCell ⟨gc,3,none⟩ (.pointer none)) base L RO gc r {s with out:=none}/\GB w (w.setCell ⟨gc,3,none⟩ (.pointer none)) (· =gc):=by
 obtain⟨V2,_⟩:=QA;exact Qw
theorem ZNg {b gc r:Nat}{x y z z':Option Nat}(h:some b ∈ [some gc,some r,x,y,z']):some b ∈ [some gc,some r,x,y,z]\/z'=some b:=by
 rcases ZfO.1 h with h|h
 ·rw[h];exact .inl ZfQ
 ·rcases ZfO.1 h with h|h
  ·rw[h];exact .inl (ZfP _ ZfQ)
  ·rcases ZfO.1 h with h|h
   ·rw[h];exact .inl (ZfP _ (ZfP _ ZfQ))
   ·rcases ZfO.1 h with h|h
    ·rw[h];exact .inl (ZfP _ (ZfP _ (ZfP _ ZfQ)))
    ·exact .inr (Zfa.1 h).symm
theorem Z3.ledger{L:List (Option Nat)}(h:Z3 w base L RO gc r s): ∃(TA:Option Addr) (tc:Nat) (tk:List Xu),w.cell? ⟨gc,5,none⟩=some (.slice TA s.led.length tc)/\w.frozen? ⟨gc,5,none⟩=false/\(Value.slice TA s.led.length tc).ownBlock≠some gc/\w.ownsRow base 120 3 (.slice TA s.led.length tc) s.led.length (ZBM tk s.led)/\tk.length=s.led.length/\ZAr w (λt=>t.key) tk s.led/\(∀k ∈ tk,ZGc RO k)/\base<=w.heap.size/\(∀b,(Value.slice TA s.led.length tc).ownBlock=some b->some b ∈ L)/\ ∀(B:Option Addr) (n' cb:Nat) (w3:World) (l':List Jp) (qI:List Xu),l'.length=n'->qI.length=l'.length->w3.ownsRow base 120 3 (.slice B n' cb) n' (ZBM qI l')->ZAr w (λt=>t.key) qI l'->(∀k ∈ qI,ZGc RO k)->GB w w3 (λb=>(Value.slice TA s.led.length tc).ownBlock=some b)->(∀b,(Value.slice B n' cb).ownBlock=some b->(Value.slice TA s.led.length tc).ownBlock=some b\/w.heap.size<=b)-> Yk w base L RO gc r {s with led:=l'} (w3.setCell ⟨gc,5,none⟩ (.slice B n' cb)):=Qs
theorem ZVY:(prog.info? 34).map (λi=>(i.zero,i.size,i.bytes))=some (some (.agg #[.int .u8 0,.int .i64 0,.slice none 0 0,.int .i64 0]),4,48):=by kernel_rfl
theorem ZVX:∀u:World,(sizeOf 34).run prog u=.ok 4 u:=λ_=>by kernel_rfl
theorem ZIY {aw:Array Oper}{o:Oper}{a:Act}{K:Act->World->Prop}{Q:Exit->Act->World->Prop}{E:Prop}(w:World)(bu:o.guard=none)(s x)(ho:o.op=.call {callee:=.builtin .append,args:=#[s,x],argTypes:=#[84,84]}){ob:Option Nat}(hs:a.eval s=v)(h:ZBz w 4 ob v n xs)(hn:n<=1000000){ad:Addr}{news:List Value}(hx:a.eval x=.slice (some ad) 1 c)(hl:news.length=4)(hr:∀j u,news[j]?=some u->w.cell? (ad.add j)=some u)(h1:∀u ∈ news,u.oneCell'=true)(hK:∀v' w' du,ZBz w' 4 du v' (n+1) (xs++news)->GB w w' (λb=>ob=some b)->(du=ob\/du=some w.heap.size)->K (a.put o.dst v') w'): if Region.wanted o (yielded aw a.tmps)=true then Oper.wp prog o a w K Q else E:=by
 have hw:Region.wanted o (yielded aw a.tmps)=true:=by simp[Region.wanted,bu]
 rw[Zgl hw];obtain⟨i0,hi,bV,bY,aS⟩:=Zgm ZVY;rw[<-bY]at h hl;obtain⟨v',w',du,aC,r1,r2,r3⟩:=ZST (P:=prog) w 84 o.type 34 i0 _ underlying84 hi bV (by rw[bY];rfl) ZB h hn ad c news hl hr h1;rw[bY]at r1;unfold Oper.wp;simp[execOp,ho,resolve,invoke,builtin,hs,hx,aC,Result.andThen];exact hK _ _ _ r1 r2 r3
theorem Z3.cells{L:List (Option Nat)}(h:Z3 w base L RO gc r s): ∃ao cap ov,w.cell? ⟨gc,1,none⟩=some (.slice ao s.line.length cap)/\w.cell? ⟨gc,2,none⟩=some (.int .i64 (s.fin:Int))/\w.cell? ⟨gc,3,none⟩=some ov/\w.cell? ⟨gc,6,none⟩=some (.bool s.closed)/\(∀i,w.frozen? ⟨gc,i,none⟩=false)/\ZIR w RO ov s.out/\gc<w.heap.size:=by
 obtain⟨S,lv,ov,bW,lk,tk,WA,TA,wn,wc,tn,tc,h1,h2,h3,h4,h5,h6,h7,h8,h9,bD,-⟩:=h;obtain⟨ao,cap,fD,-,-,-⟩:=h7.shape;rw[fD]at h3;exact⟨ao,cap,ov,ZE h3 1,ZE h3 2,ZE h3 3,ZE h3 6,λi=>ZG h3 i,bD,ZX h3⟩
theorem Z3.next{L:List (Option Nat)}(h:Z3 w base L RO gc r s){c:Zy}{rest:List Zy}(hl:s.line=c::rest): ∃b off cap K kc v',w.cell? ⟨gc,1,none⟩=some (.slice (some ⟨b,off,none⟩) (rest.length+1) cap)/\ w.cell? ⟨b,off,none⟩=some (.int .u8 (c.op:Int))/\w.cell? ⟨b,off+1,none⟩=some (.int .i64 (c.pol:Int))/\w.cell? ⟨b,off+2,none⟩=some (.slice K c.key.length kc)/\w.cell? ⟨b,off+3,none⟩=some (.int .i64 (c.num:Int))/\ c.key.length<=kc/\Rd w K (ZT .u8 c.key)/\(∀u:World,(Instr.slice 84 (.slice (some ⟨b,off,none⟩) (rest.length+1) cap) (some (.int .i64 1)) none none).run prog u=.ok v' u)/\(∃BH tJ,v'=.slice BH rest.length tJ)/\ZGc RO (K,kc)/\ ∀(w1:World) (o:Nat),ZM w w1->w1.heap[o]?=some (.cells (ZCt (K,kc) c).toArray 34 (0,0))->w.heap.size<=o-> ∃L' lr,Z3 ((w1.setCell ⟨gc,1,none⟩ v').setCell ⟨gc,3,none⟩ (.pointer (some ⟨o,0,none⟩))) base L' lr gc r {s with line:=rest,out:=some c}/\(∀b,some b ∈ L'->some b ∈ L)/\∀b,lr b->RO b\/b=o:=by
 obtain⟨V1,_⟩:=QA;exact Qw
theorem Z3.close{L:List (Option Nat)}(h:Z3 w base L RO gc r s): Z3 (w.setCell ⟨gc,6,none⟩ (.bool true)) base L RO gc r {s with closed:=true}:=Qw
theorem Z3.bounds{L:List (Option Nat)}(h:Z3 w base L RO gc r s):some gc ∈ L/\(∀b,some b ∈ L->base<=b/\b<w.heap.size)/\∀b,RO b->some b ∉ L/\base<=b/\b<w.heap.size:=by
 obtain⟨S,lv,ov,bW,lk,tk,WA,TA,wn,wc,tn,tc,h1,h2,h3,h4,h5,h6,h7,h8,h9,bD,bQ,bL,bP,bO,ei,eh,dj,h18,bK⟩:=h;exact⟨by rw[h1];simp,bK,h18⟩
theorem ZGV{W w3:World}{L L1:List (Option Nat)}(h:Z3 w base L RO gc r s)(x:ZM w W)(hW:w.heap.size<W.heap.size)(k2:GB W w1 (λb=>some b ∈ L))(k3:∀b,some b ∈ L1->some b ∈ L\/W.heap.size<=b)(k4:∀b,RO1 b->RO b\/some b ∈ L\/W.heap.size<=b)(k:Z3 w2 base L1 RO1 gc r s2)(g2:GB w1 w2 (· =gc))(g3:GB w2 w3 (· =w.heap.size)):Yk w base L RO gc r s2 w3:=by
 obtain⟨b1,b2,b3⟩:=h.bounds;have n1:some w.heap.size ∉ L:=λe=>Zf9 _ (b2 _ e).2;refine⟨L1,RO1,k.gb g3 (λb e=>?_),?_,λb e=>(k3 b e).imp id (λe=>Zf8 x.size e),λb e=>(k4 b e).imp id (λe=>e.imp id (λe=>Zf8 x.size e))⟩
 ·subst e;refine⟨λe=>(k3 _ e).elim (λe=>n1 e) (λe=>by omega),λe=>(k4 _ e).elim (λe=>Zf9 _ (b3 _ e).2.2) (λe=>e.elim (λe=>n1 e) (λe=>by omega))⟩
 ·exact((GB.back x k2).trans g2 (λi e=>.inl (by rw[e];exact b1))).trans g3 (λi e=>.inr (Nat.le_of_eq e.symm))
theorem ZYP {p:Prop}(h:p:=by
 first|(obtain -:=V1;obtain⟨ao,cap,ov,c1,c2,c3,c6,-,o1,kS⟩:=h.cells)|obtain⟨ao,cap,ov,c1,c2,c3,c6,-,o1,-⟩:=h.cells
 rw[ho]at o1;obtain rfl:=o1;rw[hc]at c6;rw[hl]at c1;rw[hf]at c2;simp only[ZfJ]at c1;have xa:ZM w (w.alloc (.cells #[.int .u8 0,.int .i64 0,.slice none 0 0,.int .i64 0] 34)):=(ZM.refl w).alloc _;first|(obtain -:=V2;have HW:=ZA (ZV w (.cells #[.int .u8 0,.int .i64 0,.slice none 0 0,.int .i64 0] 34));obtain⟨W,hW⟩:=ZX3 (w.alloc (.cells #[.int .u8 0,.int .i64 0,.slice none 0 0,.int .i64 0] 34));rw[hW]at xa HW;have d1:W.cell? ⟨gc,1,none⟩=some (.slice ao 0 cap):=ZF xa c1;have d2:W.cell? ⟨gc,2,none⟩=some (.int .i64 e):=ZF xa c2)|(have d1:(w.alloc (.cells #[.int .u8 0,.int .i64 0,.slice none 0 0,.int .i64 0] 34)).cell? ⟨gc,1,none⟩=some (.slice ao 0 cap):=ZF xa c1;have d2:(w.alloc (.cells #[.int .u8 0,.int .i64 0,.slice none 0 0,.int .i64 0] 34)).cell? ⟨gc,2,none⟩=some (.int .i64 0):=ZF xa c2)
 have d3:=ZF xa c3;have d6:=ZF xa c6;first
 |obtain -:=V3;have ag:((e:Int) !=0)=true:=by simpa using rh
  have PU:=ZA (λu (x:ZM w u)=>ZMT u base gc r L RO s (h.ext x) da e he false 0 0 0 0);have H:=ZA h;have hL0:some w.heap.size ∉ L:=λe=>by
   obtain⟨S,lv,ov,bW,lk,tk,WA,TA,wn,wc,tn,tc,h1,h2,h3,h4,h5,h6,h7,h8,h9,bD,bQ,bL,bP,bO,ei,eh,dj,h18,bK⟩:=h;exact Zf9 _ (bK _ e).2
  have uh:=ZA hL0;have XA:=ZA xa;clear h hc c1 c2 c3 c6 ho hl hf hL0 xa
 |clear h hc c1 c2 c3 c6 ho hl hf
 go_enter func103,ntmps103;first|(obtain -:=V4;go_upto_region 1 with fail;(try rw[hW]);clear hW)|skip
 go_wp2_with fail;first
 |obtain -:=V5;refine(PU.o _ (by first|exact XA.o|exact XA.o.drew)).mono ?_;rintro x w1 ⟨q,B,i9,rfl,aE⟩;have it:=ZA i9;obtain⟨L1,RO1,k1,k2,k3,k4⟩:=aE;obtain⟨FK,cap1,Dc,-,-,-,d6,fz,-,EM⟩:=k1.cells;have f6:=fz 6;have K9:=ZA k1.close;obtain⟨Cn,K3,K4⟩:=Z8 k2 k3 k4;obtain⟨cl,hcl⟩:=ZX3 ((XK s q B).closed);rw[hcl]at d6;clear hcl i9 k1 k2 k3 k4 fz d1 d2 d3;have z1:w1.heap[w.heap.size]?=some (.cells #[.int .u8 0,.int .i64 0,.slice none 0 0,.int .i64 0] 34 (0,0)):=Cn.o.blk HW.o uh.o;have y0:=ZE z1 0;have y1:=ZE z1 1;have y2:=ZE z1 2;have y3:=ZE z1 3;have e0:=ZG z1 0;have e1:=ZG z1 1;have e2:=ZG z1 2;have e3:=ZG z1 3;go_wp2_with fail;have g2:GB w1 (w1.setCell ⟨gc,6,none⟩ (.bool true)) (· =gc):=(GB.refl w1 (· =gc)).set gc 6 _ (.inl rfl);have qX:¬w.heap.size=gc:=by omega
  refine Zgd (Yy (p:=2) (u:=3) rfl _ _ w.heap.size _ #[.int .u8 0,.int .i64 0,.slice none 0 0,.int .i64 0] (0,0) _ rfl (ZR (ZR (ZR (ZR (g2.blk z1 qX) 0 _) 1 _) 2 _) 3 _) underlying34 ZX0 ZC) rfl ?_;exact⟨q,B,it.o,rfl,ZGV H.o XA.o (ZX HW.o) Cn.o K3.o K4.o K9.o g2 (((((GB.refl _ (· =w.heap.size)).set _ 0 _ (.inl rfl)).set _ 1 _ (.inl rfl)).set _ 2 _ (.inl rfl)).set _ 3 _ (.inl rfl))⟩
 |refine Zgd (Yy (p:=2) (u:=3) rfl _ _ w.heap.size _ #[.int .u8 0,.int .i64 0,.slice none 0 0,.int .i64 0] (0,0) _ rfl (ZV w _) underlying34 ZX0 ZC) rfl ?_;exact⟨rfl,(ZM.refl w).alloc _⟩):p:=h
theorem ZOV (w base gc r)(L:List (Option Nat))(RO)(s:XQ)(h:Z3 w base L RO gc r s)(ho:s.out=none)(hc:s.closed=false)(hl:s.line=[])(hf:s.fin=0): Calls prog 103 #[.pointer (some ⟨gc,0,none⟩)] w (Xj (.tuple #[ZCs,.int .i64 7]) w):=ZYP
theorem ZRV (w base gc r)(L:List (Option Nat))(RO)(s:XQ)(h:Z3 w base L RO gc r s)(da:s.wr.length<=1000000)(ho:s.out=none)(hc:s.closed=false)(hl:s.line=[])(e)(hf:s.fin=e)(rh:e≠0)(he:e<=16): Calls prog 103 #[.pointer (some ⟨gc,0,none⟩)] w λx w'=>∃q B,ZDr (e:Int) false [0,0,0,0] q B/\x=.returned (.tuple #[ZCs,.int .i64 13])/\Yk w base L RO gc r {XK s q B with closed:=true} w':=by
 obtain⟨V1,V2,V3,V4,V5⟩:=QA;exact ZYP
theorem cell_far{b:Nat}{x:Value}(h:w.cell? ⟨b',j,none⟩=some v)(ag:¬b'=b):(w.setCell ⟨b,i,none⟩ x).cell? ⟨b',j,none⟩=some v:=((GB.refl w (· =b)).set b i x (.inl rfl)).cell h ag
theorem ZEB{b:Nat}{x0 x1 x2 x3:Value}(h:w.cell? ⟨b',j,none⟩=some v)(ag:¬b'=b):((((w.setCell ⟨b,0,none⟩ x0).setCell ⟨b,1,none⟩ x1).setCell ⟨b,2,none⟩ x2).setCell ⟨b,3,none⟩ x3).cell? ⟨b',j,none⟩=some v:=cell_far (cell_far (cell_far (cell_far h ag) ag) ag) ag
theorem Jn{L L1:List (Option Nat)}(k2:GB w w1 (λb=>some b ∈ L))(k3:∀b,some b ∈ L1->some b ∈ L\/w.heap.size<=b)(k4:∀b,RO1 b->RO b\/some b ∈ L\/w.heap.size<=b)(h:Yk w1 base L1 RO1 gc r s2 w2):Yk w base L RO gc r s2 w2:=by
 obtain⟨L2,n7,h1,h2,h3,h4⟩:=h;have hs:=k2.size;refine⟨L2,n7,h1,k2.trans h2 k3,λb e=>?_,λb e=>?_⟩
 ·rcases h3 b e with e|e
  ·exact k3 b e
  ·exact .inr ZB
 ·rcases h4 b e with e|e|e
  ·exact k4 b e
  ·exact .inr (k3 b e)
  ·exact .inr (.inr ZB)
theorem ZG3 {α:Type}(f:Xu->α->List Value)(s)(hf:∀k x,(f k x).length=s):∀(ks:List Xu) (l:List α) (i:Nat),ks.length=l.length->i<l.length->((ks.eraseIdx i).zip (l.eraseIdx i)).flatMap (λp=>f p.1 p.2)=ZRQ s ((ks.zip l).flatMap λp=>f p.1 p.2) i
 |[],[],_,_,h=>by simp at h
 |[],_::_,_,h,_=>by cases h
 |_::_,[],_,h,_=>by cases h
 |k::ks,x::l,0,_,_=>by
  unfold ZRQ;rw[Zfu,Zex,ZgS,Zfs,ZgQ,Zeq (hf k x)];rfl
 |k::ks,x::l,i+1,h,hi=>by
  have ih:=ZG3 f s hf ks l i (by simpa using h) (by simpa using hi);unfold ZRQ at ih ⊢;rw[Zeu,Zeu,Zfu,Zex,ih,Zfu,Zex,<-Zei];have h1:(f k x++(ks.zip l).flatMap λp=>f p.1 p.2).take ((i+1)*s)=f k x++((ks.zip l).flatMap λp=>f p.1 p.2).take (i*s):=by
   rw[show(i+1)*s=(f k x).length+i*s by rw[hf,Zfz,ZgN,Zfw],List.take_length_add_append]
  have h2:(f k x++(ks.zip l).flatMap λp=>f p.1 p.2).drop ((i+1)*s+s)=((ks.zip l).flatMap λp=>f p.1 p.2).drop (i*s+s):=by
   rw[show(i+1)*s+s=(f k x).length+(i*s+s) by rw[hf,Zfz,ZgN];omega,List.drop_length_add_append]
  rw[h1,h2]
theorem ZEM {α β:Type}:∀(ks:List α) (l:List β) (i:Nat),ks.length=l.length->∀p ∈ (ks.eraseIdx i).zip (l.eraseIdx i),p ∈ ks.zip l
 |[],[],_,_,p,h=>by simp at h
 |[],_::_,_,h,_,_=>by cases h
 |_::_,[],_,h,_,_=>by cases h
 |k::ks,x::l,0,_,p,hp=>by
  rw[Zfu];exact ZfP _ hp
 |k::ks,x::l,i+1,h,p,hp=>by
  rw[Zeu,Zeu,Zfu]at hp;rw[Zfu];rcases ZfO.1 hp with hp|hp
  ·rw[hp];exact ZfQ
  ·exact ZfP _ (ZEM ks l i (by simpa using h) p hp)
theorem ZR9:∀u ∈ ZBM ks l,u.oneCell'=true:=λu hu=>by
 unfold ZBM at hu;obtain⟨p,_,hp⟩:=ZfS.1 hu;simp[ZJz]at hp;rcases hp with rfl|rfl|rfl<;>rfl
theorem ZTH {c:Zy}:∀{l:List Jp} {i:Nat},ZHw c l=some i->i<l.length
 |[],_,h=>by cases h
 |t::l,i,h=>by
  unfold ZHw at h
  split at h
  ·injection h with h;subst h;simp
  ·cases hx:ZHw c l with
   |none=>rw[hx]at h;cases h
   |some j=>
    rw[hx]at h;injection h with h;subst h;have:=ZTH hx;simpa using this
def YJ (s:XQ)(c:Zy)(e sn:Int)(B:List Nat):XQ:=if e=0 then
  (if c.op=2 then {XK s 0 B with out:=none,led:=s.led++[⟨(c.pol:Int),c.key,sn⟩]}
  else if c.op=3 then {XK s 0 B with out:=none,led:=match ZHw c s.led with|none=>s.led|some i=>s.led.eraseIdx i}
  else {XK s 0 B with out:=none})
 else {XK s 0 B with out:=none}
theorem ZBN (s:XQ)(q B):(XK s q B).led=s.led:=by unfold XK;split<;>rfl
theorem ZPc (s:XQ)(q B):(XK s q B).out=s.out:=by unfold XK;split<;>rfl
theorem ZPd (s B):XK s 1 B=s:=by unfold XK;rw[Zgk ZB]
def ZWr (w:World)(base:Nat)(L:List (Option Nat))(RO:Zhf)(gc r:Nat)(s:XQ)(c:Zy)(e:Int)(g:Bool)(N:List Int)(sn:Int)(x:Ending)(w':World):Prop:=∃q B,ZDr e g N q B/\x=.returned (.int .i64 q)/\Yk w base L RO gc r (if q=0 then YJ s c e sn B else s) w'
theorem ZYx {p:Prop}(h:p:=by
 rw[hx]at IX;have HX:=ZA hx;first|(obtain -:=T1;have eQ:i<n:=by rw[<-Hn.o];exact ZTH hx)|skip
 clear hx;unfold ZWb at IX;dsimp only at IX;go_wp2_with fail;refine IX.o.mono ?_;rintro e w5 ⟨rfl,x5⟩;first|(obtain -:=T2;have d5:=ZF x5 c5;have g5:=Jf x5 c5 f5;have DL:=ZA (ZPk w5 base TA n tc i (ZBM tk s.led) ZR9 ZB eQ (Z5 OW.o x5));have X5:=ZA x5;clear x5 c5 f5;go_wp2_with fail;refine DL.o.mono ?_;rintro e w7 ⟨rfl,o7,g7⟩;have O7:=ZA o7;have G7:=ZA g7;have q5:=g7.cell d5 NB.o.symm;have F5:=ZBT g7 d5 g5 NB.o;clear o7 g7 d5 g5)|skip
 go_wp2_with fail;go_ret;refine⟨0,B,it.o,rfl,?_⟩;rw[Zgl rfl];unfold YJ;dsimp only;rw[Zgl ZX0,Zgk ZB,Zgl ZX0,HX.o];dsimp only;first
 |obtain -:=T3;refine ul.o _ _ ?_;have uK:i<s.led.length:=by rw[Hn.o];exact eQ
  have:=gZ.o TA (n - 1) tc w7 (s.led.eraseIdx i) (tk.eraseIdx i) (by rw[ZfI uK,Hn.o]) (by rw[ZfI uK,ZfI (by rw[ah.out];exact uK),ah.out]) (by unfold ZBM;rw[ZG3 ZJz 3 (λ_ _=>rfl) tk s.led i ah.out uK];exact O7.o) (λp hp=>HKRD.o p (ZEM tk s.led i ah.out p hp)) (λk hk=>qC.o k (ZfW hk)) (((GB.refl X _).ext X5.o).grown G7.o (λq e=>.inl e)) (λb e=>.inl (by cases TA<;>exact e))
 |have:=ul.o _ _ (Yk.refl KX.o x5);rw[ZBN]at this
 exact this):p:=h
theorem ZYX {p:Prop}(h:p:=by
 first
 |obtain -:=T1;subst h2;have LG:=KX.o.ledger;dsimp only at LG;rw[ZBN]at LG;obtain⟨TA,tc,tk,c5,f5,cL,ow,cS,dQ,gP,Bb,bz,step⟩:=LG;obtain⟨n,Hn⟩:=ZX2 (s.led.length);rw[Hn.o]at c5 cL ow cS bz step cC;have a1:=ZX1 X8.o 1 (.int .i64 pol);have a2:=ZX1 X8.o 2 (.slice K m kc);have b4:=ZX1 X3.o 4 (.int .i64 sn);obtain⟨C5,OW,gZ,NB,oq,HKRD⟩:=Ju c5 ow step cL cS dQ;have qC:=ZA gP;have Aa:(Value.slice TA n tc).ownBlock≠some w1.heap.size:=λe=>Zf9 _ (K1.o.bounds.2.1 _ (bz _ e)).2;have Dm:(Value.slice TA n tc).ownBlock≠some w.heap.size:=λe=>(K3.o _ (bz _ e)).elim uh.o (λe=>by have:=ZX KP.o;omega);clear ow step cL cS dQ gP bz;go_upto_region 15 with fail;refine JK (λu=>u.cell? ⟨gc,5,none⟩=some (.slice TA n tc)/\u.cell? ⟨w1.heap.size,1,none⟩=some (.int .i64 pol)/\u.cell? ⟨w1.heap.size,2,none⟩=some (.slice K m kc)/\u.cell? ⟨w.heap.size,4,none⟩=some (.int .i64 sn)) [16] ZC ?_;have ae:=And.intro (ZJ c5) (And.intro (ZJ a1) (And.intro (ZJ a2) (ZJ b4)));have XD:ZM X X.drew:=(ZM.refl X).drew;clear a0 b0 a1 a2 b4 c5;generalize X.drew=U at XD ae ⊢;refine ZX4 (i:=0) (v:=?_) rfl (Or.inl ⟨by rfl,?_⟩) (YI.of ae) ?_
 |obtain -:=T2;obtain rfl:p=n9:=by omega
  have uE:¬(p:Int)<(p:Int):=by omega
  go_upto_region 19 with fail;have w4:=ZF cZ.o u4;have uk:=ZA (oA.o.ext cZ.o);have FA:wr.frozen? ⟨xg,4,none⟩=false:=ZG uk.o.1 4;have Dl:(Value.slice S9 p c9).ownBlock≠some br:=λe=>by
   rcases uc.o br e with e2|e2
   ·exact jp (.inr e2)
   ·have:=vm.o.size;omega
  have iC:=uk.o.2.2.2;have jU:=uk.o.2.2.1.lt;have CX:=ZA w4;clear v4 v0 v1 u4;refine JK (λu=>u.cell? ⟨xg,4,none⟩=some (.slice S9 p c9)/\u.cell? ⟨br,j*6+4,none⟩=some (.int .i64 r.ser)) [14] ZC ?_;have ae:=And.intro (ZJ w4) (ZJ zI);have yv:ZM wr wr.drew:=(ZM.refl wr).drew;clear w4 zI;generalize wr.drew=U at yv ae ⊢;refine ZX4 (i:=0) (v:=?_) rfl (Or.inl ⟨by rfl,?_⟩) (YI.of ae) ?_
 |refine JK (λu=>u.cell? ⟨gd,1+n*6+2,none⟩=some (.slice WA m wc)/\u.cell? ⟨gd,1+n*6,none⟩=some (ZH gc)) [13] ZC ?_;have ae:=And.intro (ZJ c2) (ZJ c0);have XD:ZM w w.drew:=(ZM.refl w).drew;clear c0 c2;generalize w.drew=U at XD ae ⊢;refine ZX4 (i:=0) (v:=?_) rfl (Or.inl ⟨by rfl,?_⟩) (YI.of ae) ?_
 rotate_left
 ·intro w _;go_simp;(try with_reducible rfl)
 (try simp only[Act.put]);refine ZX4 (i:=1) (v:=?_) rfl (Or.inl ⟨by rfl,?_⟩) (YI.of ae) ?_;rotate_left
 ·intro w _;go_simp;(try with_reducible rfl)
 (try simp only[Act.put]);refine ZX4 (i:=2) (v:=?_) rfl (Or.inl ⟨by rfl,?_⟩) (YI.of ae) ?_;rotate_left
 ·intro w _;go_simp;(try with_reducible rfl)
 (try simp only[Act.put]);refine ZX4 (i:=3) (v:=?_) rfl (Or.inl ⟨by rfl,?_⟩) (YI.of ae) ?_;rotate_left
 ·intro w _;go_simp;(try with_reducible rfl)
 (try simp only[Act.put]);first
 |obtain -:=T3;refine ZX5 (i:=4) (v:=?_) rfl (Or.inl ⟨by rfl,?_⟩) (by assumption) ?_;rotate_left
  ·intro w aL;(try dsimp only at aL);go_simp;(try with_reducible rfl)
  (try simp only[Act.put])
 |skip
 refine ZX4 (i:=5) (v:=?_) rfl (Or.inl ⟨by rfl,?_⟩) (YI.of ae) ?_;rotate_left
 ·intro w _;go_simp;(try with_reducible rfl)
 (try simp only[Act.put]);first
 |obtain -:=T4
 |refine ZX4 (i:=6) (v:=?_) rfl (Or.inl ⟨by rfl,?_⟩) (YI.of ae) ?_;rotate_left
  ·intro w _;go_simp;(try with_reducible rfl)
  (try simp only[Act.put])
 refine ZX4 (i:=7) (v:=?_) rfl (Or.inl ⟨by rfl,?_⟩) (YI.of ae) ?_;rotate_left
 ·intro w _;go_simp;(try with_reducible rfl)
 (try simp only[Act.put]);first
 |obtain -:=T5;refine ZX4 (i:=9) (v:=?_) rfl (Or.inl ⟨by rfl,?_⟩) (YI.of ae) ?_;rotate_left
  ·intro w _;go_simp;(try with_reducible rfl)
  (try simp only[Act.put]);refine ZX5 (i:=4) (v:=?_) rfl (Or.inl ⟨by rfl,?_⟩) (by assumption) ?_
 |obtain -:=T6;refine ZX4 (i:=8) (v:=?_) rfl (Or.inl ⟨by rfl,?_⟩) (YI.of ae) ?_;rotate_left
  ·intro w _;go_simp;(try with_reducible rfl)
  (try simp only[Act.put]);refine ZX5 (i:=4) (v:=?_) rfl (Or.inl ⟨by rfl,?_⟩) (by assumption) ?_
 |refine ZX5 (i:=8) (v:=?_) rfl (Or.inl ⟨by rfl,?_⟩) (by assumption) ?_
 rotate_left
 ·intro w aL;(try dsimp only at aL);go_simp;(try with_reducible rfl)
 (try simp only[Act.put]);first
 |obtain -:=T7;refine ZX5 (i:=6) (v:=?_) rfl (Or.inl ⟨by rfl,?_⟩) (by assumption) ?_;rotate_left
  ·intro w aL;(try dsimp only at aL);go_simp;(try with_reducible rfl)
 |obtain -:=T8;refine ZX5 (i:=9) (v:=?_) rfl (Or.inl ⟨by rfl,?_⟩) (by assumption) ?_;rotate_left
  ·intro w aL;(try dsimp only at aL);go_simp;(try with_reducible rfl)
 |refine ZY (rs:=[9]) ZC ZXz (ZN.cons (o:=_) rfl (λK' hK=>?_) ZN.nil);have d2:=ae.1;have d0:=ae.2;go_simp;refine(TK.out U XD).mono ?_;rintro e w1 ⟨TA,tc,L',rfl,bg,gA,dp,af,-⟩;have ib:=ZA bg;have Ix:=ZA gA;have dO:=ZA (GB.back XD gA);have qx:=ZA dp;have qA:=ZA af;have r2:=gA.cell d2 mJ.o;have r0:=gA.cell d0 mJ.o;have F2:=ZOF gA d2 (Jf XD C2.o f2) mJ.o;clear bg gA dp af d0 d2 ae;refine hK.out _ _ ⟨r2,r0⟩ ?_;clear hK K'
 (try simp only[Act.put]);first
 |obtain -:=T9;refine ZX5 (i:=8) (v:=?_) rfl (Or.inl ⟨by rfl,?_⟩) (by assumption) ?_;rotate_left
  ·intro w aL;(try dsimp only at aL);go_simp;(try with_reducible rfl)
  (try simp only[Act.put]);refine ZX5 (i:=10) (v:=?_) rfl (Or.inl ⟨by rfl,?_⟩) (by assumption) ?_;rotate_left
  ·intro w aL;(try dsimp only at aL);go_simp;(try with_reducible rfl)
  (try simp only[Act.put]);refine ZX4 (i:=11) (v:=?_) rfl (Or.inl ⟨by rfl,?_⟩) (YI.of ae) ?_;rotate_left
  ·intro w _;go_simp;(try with_reducible rfl)
  (try simp only[Act.put]);refine ZY (rs:=[12]) ZC ZXz (ZN.cons (o:=_) rfl (λK' hK=>?_) ZN.nil);have c5:=ae.1;have a1:=ae.2.1;have a2:=ae.2.2.1;have b4:=ae.2.2.2;go_simp;have yU:ZM U (U.alloc (.cells #[.int .i64 pol,.slice K m kc,.int .i64 sn] 120)):=(ZM.refl U).alloc _;have yX:=XD.trans yU;refine hK.out _ _ ⟨ZF yU c5,ZF yU a1,ZF yU a2,ZF yU b4⟩ ?_
 |obtain -:=T10;refine ZY (rs:=[10]) ZC ZXz (ZN.cons (o:=_) rfl (λK' hK=>?_) ZN.nil);have s4:=ae.1;have s5:=ae.2;go_simp;have yU:ZM U (U.alloc (.cells #[.int .i64 r.ser] 2)):=(ZM.refl U).alloc _;have yX:=yv.trans yU;refine hK.out _ _ ⟨ZF yU s4,ZF yU s5⟩ ?_
 |refine ZY (rs:=[10]) ZC ZXz (ZN.cons (o:=_) rfl (λK' hK=>?_) ZN.nil);refine ZAF w1 rfl (.tmp 6) (.tmp 11) rfl 0 ZX0 (dO.o.own HO.o (λq e=>(tO.o q e).2)) ZX0 Hs.o (Rd.of_own qA.o) ZB (ZgR _) ?_;intro B' au w6 o6 g6 b6;have fB:=g6.cell r2 (λe=>mI.o _ e.symm rfl);have ij:=g6.cell r0 (λe=>mI.o _ e.symm rfl);have Z2:=ZBT g6 r2 F2 (λe=>mI.o _ e rfl);obtain⟨O6,G6,B6⟩:=Z8 o6 g6 b6;clear o6 g6 b6 r2 r0;refine hK.out _ _ ⟨fB,ij⟩ ?_
 clear hK K';(try simp only[Act.put]);first
 |obtain -:=T11;have e5:=ZF yU c5;have e1:=ZF yU a1;have e2:=ZF yU a2;have e4:=ZF yU b4;have FB:=Jf yX C5.o f5;have yB:=ZA (Z5 OW.o yX);have yy:=ZA (show Rd (U.alloc (.cells #[.int .i64 pol,.slice K m kc,.int .i64 sn] 120)) (some ⟨U.heap.size,0,none⟩) [.int .i64 pol,.slice K m kc,.int .i64 sn]from JP U [.int .i64 pol,.slice K m kc,.int .i64 sn] _ rfl);have x9:=Zf8 Bb yX.size;refine ZY (rs:=[13]) ZC ZXz (ZN.cons (o:=_) rfl (λK' hK=>?_) ZN.nil);refine ZE4 (U.alloc (.cells #[.int .i64 pol,.slice K m kc,.int .i64 sn] 120)) rfl (.tmp 57) (.tmp 65) rfl base ZX0 yB.o ZX0 yy.o rfl rfl rfl ZB x9 ?_;intro B' au w6 o6 g6 b6;have Ac:=NB.o;have q5:=g6.cell e5 Ac.symm;have q1:=g6.cell e1 Aa.symm;have q2:=g6.cell e2 Aa.symm;have q4:=g6.cell e4 Dm.symm;have F5:=ZBT g6 e5 FB Ac;obtain⟨O6,G6,B6⟩:=Z8 o6 g6 b6;clear o6 g6 b6;refine hK.out _ _ ⟨q5,q1,q2,q4⟩ ?_
 |obtain -:=T12;have e4:=ZF yU s4;have e5:=ZF yU s5;have Fy:=Jf yX CX.o FA;have yB:=ZA (Z5 uk.o.2.2.1 yX);have yy:=ZA (show Rd (U.alloc (.cells #[.int .i64 r.ser] 2)) (some ⟨U.heap.size,0,none⟩) [.int .i64 r.ser]from JP U [.int .i64 r.ser] _ rfl);have x9:sb<=(U.alloc (.cells #[.int .i64 r.ser] 2)).heap.size:=by have:=yX.size;have:=cZ.o.size;have:=GA.o.size;have:=X2.o.size;omega
  refine ZY (rs:=[11]) ZC ZXz (ZN.cons (o:=_) rfl (λK' hK=>?_) ZN.nil);refine ZLN (U.alloc (.cells #[.int .i64 r.ser] 2)) rfl (.tmp 140) (.tmp 146) rfl sb ZX0 yB.o ZX0 yy.o rfl ZB x9 ?_;intro B' au w6 o6 g6 b6;have q4:=g6.cell e4 iC.symm;have q5:=g6.cell e5 Dl.symm;have F4:=ZBT g6 e4 Fy iC;obtain⟨O6,G6,B6⟩:=Z8 o6 g6 b6;clear o6 g6 b6;refine hK.out _ _ ⟨q4,q5⟩ ?_
 |refine ZY (rs:=[11]) ZC ZXz (ZN.cons (o:=_) rfl (λK' hK=>?_) ZN.nil);go_simp;refine hK.out _ _ ⟨fB,ij⟩ ?_
 clear hK K';(try simp only[Act.put]);first|(obtain -:=T13;refine ZY (rs:=[14]) ZC ZXz (ZN.cons (o:=_) rfl (λK' hK=>?_) ZN.nil))|refine ZY (rs:=[12]) ZC ZXz (ZN.cons (o:=_) rfl (λK' hK=>?_) ZN.nil)
 go_simp;first|(obtain -:=T14;refine hK.out _ _ ⟨q5,q1,q2,q4⟩ ?_)|(obtain -:=T15;refine hK.out _ _ ⟨q4,q5⟩ ?_)|refine hK.out _ _ ⟨fB,ij⟩ ?_
 clear hK K';(try simp only[Act.put]);first|(obtain -:=T16;refine ZY (rs:=[15]) ZC ZXz (ZN.cons (o:=_) rfl (λK' hK=>?_) ZN.nil);go_simp;refine hK.out _ _ ⟨q5,q1,q2,q4⟩ ?_;clear hK K';(try simp only[Act.put]);refine ZY (rs:=[16]) ZC ZXz (ZN.last (o:=_) ZC rfl (λK' hK=>?_) ZN.nil))|(obtain -:=T17;refine ZY (rs:=[13]) ZC ZXz (ZN.cons (o:=_) rfl (λK' hK=>?_) ZN.nil);go_simp;refine hK.out _ _ ⟨q4,q5⟩ ?_;clear hK K';(try simp only[Act.put]);refine ZY (rs:=[14]) ZC ZXz (ZN.last (o:=_) ZC rfl (λK' hK=>?_) ZN.nil))|refine ZY (rs:=[13]) ZC ZXz (ZN.last (o:=_) ZC rfl (λK' hK=>?_) ZN.nil)
 go_simp;refine hK.out _ _ ?_;clear hK K';first|(obtain -:=T18)|(try simp only[Act.put])
 refine JL ZC ?_ _;first|(obtain -:=T19;have iT:=((GB.refl w1 (λi=>(Value.slice WA m wc).ownBlock=some i)).grown G6.o (λq e=>.inl e)).blk (dO.o.blk HB.o mJ.o) (λe=>mI.o _ e rfl);obtain⟨lU,hv7,xt⟩:=JB iT (n:=n) (k0:=2) (v:=v) ZB HV.o (.slice B' (m+k) au);have g7:GB w6 (w6.setCell ⟨gd,1+n*6+2,none⟩ (.slice B' (m+k) au)) (· =gd):=(GB.refl w6 (· =gd)).set gd _ _ (.inl rfl);have yp:GB w w6 (λi=>i=gd\/D n i):=(dO.o.more (λi _ (e:i=gc)=>.inr (by rw[e];exact zx.o))).grown G6.o (λq e=>.inl (.inr (tO.o q e).1));have aF:=dP.o w1 L' ib.o dO.o qx.o w6 B' (m+k) au (by rw[ZfE,Hm.o,Hs.o]) O6.o (by rw[Hm.o];exact G6.o) (by rw[Hm.o];exact B6.o) _ (Zr v 2 (.slice B' (m+k) au)) gd g7 (λe=>(HD.o gd e).1 rfl) (ZX HB.o) (ZZ _ _ ZB) (ZZ _ _ ZB) (Zc _ _ _) (ZZ _ _ ZB) (ZZ _ _ ZB) (ZZ _ _ ZB);have tG:=yp.trans g7 (λi e=>.inl (.inl e));obtain⟨a1,a2,a3⟩:=i6.o _ _ _ _ _ tG lU hv7 xt aF (ZF6.ok (λi hi=>(HD.o i hi).2) tG.size))|skip
 go_wp2_with fail;first
 |obtain -:=T20;go_ret;refine⟨0,B,it.o,rfl,?_⟩;rw[Zgl rfl];unfold YJ;dsimp only;rw[Zgl ZX0,Zgl ZX0];refine ul.o _ _ ?_;have o6:=O6.o;rw[<-Hm.o]at o6;have ah:tk.length=s.led.length:=by rw[oq.o,Hn.o]
  have:=gZ.o B' (n+1) au w6 (s.led++[⟨(pol:Int),key,sn⟩]) (tk++[(K,kc)]) (by simp[Hn.o]) (by simp[oq.o,Hn.o]) (by unfold ZBM;rw[ZDs ZJz ah (K,kc) ⟨(pol:Int),key,sn⟩];exact o6) (HKRD.o.snoc ah (by dsimp only;rw[Hm.o];exact cM) rD.o) (λk hk=>by
   rcases ZfN.1 hk with hk|hk
   ·exact qC.o k hk
   ·rw[Zfa.1 hk];exact Iu.o) (((GB.refl X _).ext (XD.trans yU)).grown G6.o (λq e=>.inl e)) (λb e=>by
   rcases B6.o with h9|h9
   ·exact .inl (h9 ▸ e)
   ·rw[h9]at e;injection e with e;exact .inr (by rw[<-e];exact(XD.trans yU).size))
  exact this
 |obtain -:=T21;go_roundw;case rel=>
   obtain⟨k1,k2,k3⟩:=uk.o.append (yv.trans yU) O6.o G6.o B6.o;refine⟨j+1,B',p+1,au,ak,by go_num,by omega,?_,(GA.o.ext cZ.o).trans k2 ?_,?_⟩
   ·rw[px.out,show ZCL (c,r)=[r.ser]from Zgl ⟨H8.o,Hgr.o⟩,<-Zei];exact k1
   ·intro i e;rcases e with e|e
    ·exact .inl (.inl e)
    ·rcases uc.o i e with e|e
     ·exact .inl (.inr e)
     ·exact .inr e
   ·intro i e;rcases k3 i e with e|e
    ·exact uc.o i e
    ·exact .inr (by have:=GA.o.size;have:=cZ.o.size;omega)
  case measure=>simp[intOf];omega
 |go_meet;exact⟨_,a1,a2,a3⟩):p:=h
theorem ZGT (w:World)(base gc r:Nat)(L:List (Option Nat))(RO:Zhf)(s:XQ)(h:Z3 w base L RO gc r s)(hi:ZB0 s)(da:s.wr.length<=1000000)(cC:s.led.length<=100000 - 1)(c:Zy)(ho:s.out=some c)(e:Nat)(he:e<=16)(g:Bool)(l t sn nw:Int): Calls prog 104 #[.pointer (some ⟨gc,0,none⟩),.agg #[.int .i64 e,.bool g,.int .i64 l,.int .i64 t,.int .i64 sn,.int .i64 nw]] w (ZWr w base L RO gc r s c (e:Int) g [l,t,sn,nw] sn):=by
 obtain⟨W,hW,xW,KP⟩:=Za w (.cells #[.int .i64 e,.bool g,.int .i64 l,.int .i64 t,.int .i64 sn,.int .i64 nw] 39);have PU:=ZA (ZMT W base gc r L RO s (h.ext xW) da e he g l t sn nw);obtain⟨ao,cp,ov,-,-,d3,-,-,o1,-⟩:=(h.ext xW).cells;rw[ho]at o1;obtain⟨o,kk,rfl,-⟩:=o1;have hL0:some w.heap.size ∉ L:=λe=>Zf9 _ (h.bounds.2.1 _ e).2;obtain⟨uh,XW,H,HI,HO⟩:=ZBR hL0 xW h hi ho;clear h hi ho xW hL0;go_enter func104,ntmps104;go_upto_region 1 with fail
 (try rw[hW]);clear hW;have p0:=ZX1 KP.o 0 (.int .i64 e);have p1:=ZX1 KP.o 1 (.bool g);have p2:=ZX1 KP.o 2 (.int .i64 l);have p3:=ZX1 KP.o 3 (.int .i64 t);have p4:=ZX1 KP.o 4 (.int .i64 sn);have p5:=ZX1 KP.o 5 (.int .i64 nw);go_wp2_with fail;refine PU.o.mono ?_;rintro x w1 ⟨q,B,i9,rfl,L1,RO1,k1,k2,k3,k4⟩;have it:=ZA i9;obtain⟨K1,K2,K3,K4⟩:=ZAU k1 k2 k3 k4;have kp:=k2.blk KP.o uh.o;have Gn:=ZA kp;clear p0 p1 p2 p3 p4 p5 d3 k2 k3 k4;rcases i9 with⟨rfl,rfl,-⟩|⟨rfl,-⟩
 ·clear k1 kp;go_wp2_with fail;go_ret;refine⟨1,[],it.o,rfl,?_⟩;rw[Zgk ZB];have:=K1.o;rw[ZPd]at this;exact Yk.back XW.o ⟨L1,RO1,this,K2.o,K3.o,K4.o⟩
 ·obtain⟨FK,cp1,Dc,-,-,d3,-,fz,o1,kS⟩:=k1.cells;rw[ZPc,HO.o]at o1;obtain⟨o',⟨K,kc⟩,rfl,aH,cM,bB,DU,dy⟩:=o1;have f3:=fz 3;obtain⟨op,pol,key,num⟩:=c;dsimp only[ZCt]at aH cM bB;obtain⟨m,Hm⟩:=ZX2 (key.length);rw[Hm.o]at cM aH;have u0:=ZX1 aH 0 (.int .u8 op);have u1:=ZX1 aH 1 (.int .i64 pol);have u2:=ZX1 aH 2 (.slice K m kc);have u3:=ZX1 aH 3 (.int .i64 num);obtain⟨V,hV,xV,KV⟩:=Za w1 (.cells #[.int .u8 op,.int .i64 pol,.slice K m kc,.int .i64 num] 34);have qX:¬w1.heap.size=gc:=by omega
  have wX:¬w.heap.size=gc:=λe=>uh.o (by rw[e];exact H.o.bounds.1);have e3:=ZF xV d3;have h3:=Jf xV d3 f3;obtain⟨kX,gX⟩:=(k1.ext xV).outNone;clear k1 kp;go_upto_region 10 with fail
  (try rw[hV]);clear hV u0 u1 u2 u3 d3 f3;go_upto_region 11 with fail;obtain⟨X,hX⟩:=ZX3 (V.setCell ⟨gc,3,none⟩ (.pointer none));rw[hX]at kX gX;(try rw[hX]);have x8:=gX.blk KV.o qX;have x3:=gX.blk (ZK Gn.o xV) wX;have a0:=ZX1 x8 0 (.int .u8 op);have b0:=ZX1 x3 0 (.int .i64 e);have Bq:GB w1 X (· =gc):=GB.back xV gX;have ul:=ZA (λ(s2:XQ) (w2:World) (hh:Yk X base L1 RO1 gc r s2 w2)=>Yk.back XW.o (Jn K2.o K3.o K4.o (Jn (L1:=L1) (RO1:=RO1) (Bq.more (λb _ e=>by rw[e];exact K1.o.bounds.1)) (λb e=>.inl e) (λb e=>.inl e) hh)));have KX:=ZA kX;have X8:=ZA x8;have X3:=ZA x3;have rD:=ZA (gX.rd (bB.ext xV) (λp hp e=>(K1.o.bounds.2.2 _ (dy p hp)).1 (by rw[e];exact K1.o.bounds.1)));have Iu:=ZA dy;clear hX e3 h3 kX gX x8 x3 Bq bB dy fz aH DU xV;by_cases rh:e=0
  ·subst rh;by_cases h2:op=2
   ·obtain⟨T1,T4,T5,T7,T9,T11,T13,T14,T16,T20⟩:=QA;exact ZYX
   ·by_cases h3:op=3
    ·subst h3;have LG:=KX.o.ledger;dsimp only at LG;rw[ZBN]at LG;obtain⟨TA,tc,tk,c5,f5,cL,ow,cS,dQ,gP,Bb,bz,step⟩:=LG;obtain⟨n,Hn⟩:=ZX2 (s.led.length);have IX:=ZA (ZOY X TA n tc s.led tk w1.heap.size kc m pol num 3 K key Hn.o (by have:=Hn.o;omega) ⟨cS,ZKG ow,dQ⟩ HI.o.2.2.2.2 X8.o Hm.o (HI.o.2.2.1 _ HO.o).2.1 rD.o);rw[Hn.o]at c5 cL ow cS bz step cC;obtain⟨C5,OW,gZ,NB,oq,HKRD⟩:=Ju c5 ow step cL cS dQ;have qC:=ZA gP;clear ow step cL cS dQ gP bz h2;have ah:ZD (tk.length=s.led.length):=by rw[ZD,oq.o,Hn.o]
     cases hx:ZHw ⟨3,pol,key,num⟩ s.led with
     |none=>
      exact ZYx
     |some i=>
      obtain⟨T1,T2,T3⟩:=QA;exact ZYx
    ·have n2:((op:Int)==2)=false:=by simp;omega
     have n3:((op:Int)==3)=false:=by simp;omega
     have N2:=ZA h2;have N3:=ZA h3;clear h2 h3;go_wp2_with fail;go_ret;refine⟨0,B,it.o,rfl,?_⟩;rw[Zgl rfl];unfold YJ;dsimp only;rw[Zgl ZX0,Zgk N2.o,Zgk N3.o];exact ul.o _ _ (Yk.refl KX.o (ZM.refl _))
  ·have ne:((e:Int) !=0)=true:=by simpa using rh
   have NE:=ZA rh;clear rh;go_wp2_with fail;go_ret;refine⟨0,B,it.o,rfl,?_⟩;rw[Zgl rfl];unfold YJ;rw[Zgk (by have:=NE.o;omega)];exact ul.o _ _ (Yk.refl KX.o (ZM.refl _))
end Go.Proofs.YtloidkmphigbdaaGreat
