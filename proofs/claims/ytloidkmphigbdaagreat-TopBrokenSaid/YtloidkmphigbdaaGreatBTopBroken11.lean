/- Laid together: what 'TopBroken' needs, part 11 of 11. -/
import Derived.Laws.StructEq
import Derived.Lib.SlBytesConst
import Derived.Test.YtloidkmphigbdaaGreatBTopBroken1
import Derived.Test.YtloidkmphigbdaaGreatBTopBroken2
import Derived.Test.YtloidkmphigbdaaGreatBTopBroken3
import Derived.Test.YtloidkmphigbdaaGreatBTopBroken4
import Derived.Test.YtloidkmphigbdaaGreatBTopBroken5
import Derived.Test.YtloidkmphigbdaaGreatBTopBroken6
import Derived.Test.YtloidkmphigbdaaGreatBTopBroken7
import Derived.Test.YtloidkmphigbdaaGreatBTopBroken10
namespace Go.Proofs.YtloidkmphigbdaaGreat
set_option linter.all false
set_option maxHeartbeats 40000000
set_option maxRecDepth 100000
open Go.RowKit
def ZQJ:Nat->DSt
 |0=>ZDN
 |1=>{ZDN with ls:=Z5 ZDN.ls 0 ZEs}
 |_=>ZIj
theorem ZRn {g:YE}{i:Nat}(hi:i<2):ZQq g 1 i 0 0 (ZQJ i) (ZQJ (i+1)):=by
 have:i=0\/i=1:=by omega
 rcases this with rfl|rfl
 ·exact ZGc (g:=g) (n:=0) (a:=ZDN) ZB rfl rfl
 ·exact ZGc (g:=g) (n:=1) (a:={ZDN with ls:=Z5 ZDN.ls 0 ZEs}) ZB rfl rfl
theorem ZMa {w w1 w':World}{A:Option Addr}{vs:List Value}{bs:Nat}(h:Rd w A vs)(x:ZL w w1)(g:GB w1 w' (DWr bs (λ_=>False)))(hb:w.heap.size<=bs):Rd w' A vs:=λhne=>by
 obtain⟨b,off,e,hc⟩:=h hne;refine⟨b,off,e,λj u hu=>?_⟩;have c0:=hc j u hu
 exact g.cell (ZG x c0) (λe=>by
  have h1:=ZcO w _ c0;have h2:bs<=b:=e.1;have h1:b<w.heap.size:=h1;omega)
theorem ZPL (w:World)(C:Array Value)(t:TypeId)(fr:Nat × Nat):Rd (w.alloc (.cells C t fr)) (some ⟨w.heap.size,0,none⟩) C.toList:=λ_=>⟨w.heap.size,0,rfl,λj u hu=>by
 rw[ZcK];have:(w.alloc (.cells C t fr)).heap[w.heap.size]?=some (.cells C t fr):=by
  show(w.heap.push (.cells C t fr))[w.heap.size]?=_;simp
 simp only[World.cell?,this];simpa using hu⟩
theorem ZK3 {w:World}{A:Option Addr}{xs:List Nat}(h:Rd w A (ZV .u8 xs))(m:Nat):Rd w A (ZV .u8 (xs.take m)):=λhne=>by
 have hxs:ZV .u8 xs≠[]:=λe=>hne (by rw[JN,e];simp);obtain⟨bb,off,e,hc⟩:=h hxs;refine⟨bb,off,e,λj u hu=>hc j u ?_⟩;rw[JN,Za6]at hu
 split at hu
 ·exact hu
 ·cases hu
theorem ZRE (e:Int)(g:Bool)(l t s m:Int)(u:World):(binOp .neq 39 (ZHB e g l t s m) (ZHB e g l t s m)).run Tryz.prog u=.ok (.bool false) u:=by
 rw[run_neq_struct];rw[run_equalIn_agg u 9999 39 _ _ ZC ZC];simp only[Program.fieldsOf,Tryz.underlying39]
 go_simp
def ZTM (bad tl:List Nat)(e:Nat):Prop:=(e=12/\tl=[0,0,0,0])\/(e=3/\tl=XK bad.length++bad/\1<=bad.length/\¬ZCq bad)
theorem ZQ3 {bad tl rest:List Nat}{e nb nr:Nat}(hb:bad.length=nb)(h40:nb<=40)(hbb:∀x ∈ bad,x<256)(hr:rest.length=nr)(h200:nr<=200)(hrb:∀x ∈ rest,x<256)(h:ZTM bad tl e):ZIx (tl++rest) e/\(tl++rest).length<=400/\∀x ∈ tl++rest,x<256:=by
 rw[Za9];rcases h with⟨rfl,rfl⟩|⟨rfl,rfl,h1,h2⟩
 ·refine⟨.inl ⟨rfl,rest,rfl⟩,by show 4+rest.length<=400;omega,λx hx=>?_⟩;rcases ZbI.1 hx with hx|hx
  ·simp at hx;omega
  ·exact hrb x hx
 ·refine⟨.inr ⟨rfl,bad,rest,rfl,h1,by omega,h2⟩,?_,λx hx=>?_⟩
  ·rw[Za9,show(XK bad.length).length=4 from rfl];omega
  ·rcases ZbI.1 hx with hx|hx
   ·rcases ZbI.1 hx with hx|hx
    ·exact ZFM _ x hx
    ·exact hbb x hx
   ·exact hrb x hx
theorem topBroken_walk (w:World)(A:Option Addr)(n c:Nat)(R:List ZGt)(hl:R.length=n)(hb:∀r ∈ R,ZFW w r)(hr:Rd w A (R.flatMap ZAK))(_hnc:n<=c)(hz:c<=2932031007317)(A1:Option Addr)(n1 c1:Nat)(us:List Nat)(hl1:us.length=n1)(hb1:∀x ∈ us,x<256)(hr1:Rd w A1 (ZV .u8 us))(hnc1:n1<=c1)(_hz1:c1<=140737488351232)(A2:Option Addr)(n2 c2:Nat)(xs:List Nat)(hl2:xs.length=n2)(hb2:∀x ∈ xs,x<256)(hr2:Rd w A2 (ZV .u8 xs))(hnc2:n2<=c2)(_hz2:c2<=140737488351232): Calls Tryz.prog 4 #[.slice A n c,.slice A1 n1 c1,.slice A2 n2 c2] w (ZRx w):=by
 have Hl:=ZA hl;have Hb:=ZA hb;have Hr:=ZA hr;have Hl1:=ZA hl1;have Hb1:=ZA hb1;have Hr1:=ZA hr1;have Hl2:=ZA hl2;have Hb2:=ZA hb2;have Hr2:=ZA hr2;clear hl hb hr hl1 hb1 hr1 hl2 hb2 hr2;go_enter Tryz.func4,Tryz.ntmps4;go_wp2_with fail;refine(ZO2 _).mono ?_;rintro e w0 ⟨tb,rfl,hrt,x0⟩;have DN:=ZA (show Calls Tryz.prog 18 #[.slice (some ⟨tb,0,none⟩) 2 2,.int .i64 64] w0 (ZQr w0 PT 64)from ZRh PT (some ⟨tb,0,none⟩) 2 2 64 w0 rfl ZB ZR9 hrt ZB ZB);have X0:=ZA x0;clear hrt x0;go_wp2_with fail;refine DN.o.mono ?_;rintro e w1 ⟨gd,g,C0,xb0,L0,D0,rfl,hgP,hgr,hda,hL0,hx1,hge⟩;have H1:=ZA (show Xw w1 w0.heap.size gd g 1 ZDN (λ_=>False)from⟨hx1.size,λi e=>e.elim,C0,xb0,L0,D0,hda,hL0,λi hi=>⟨hge i hi,λe=>e.elim⟩⟩);have X1:=ZA (X0.o.trans hx1);have HgP:=ZA hgP;clear hgP hgr hda hL0 hx1 hge DN;obtain⟨bs,Hbs⟩:=ZTy (w0.heap.size);rw[Hbs.o]at H1;have hwb:=ZA (show w.heap.size<=bs by rw[<-Hbs.o];exact X0.o.size);go_wp2_with fail
 go_loopw [36] (λv36 wr=>∃i:Nat,i<=2/\v36=.int .i64 (i:Int)/\Xw wr bs gd g (1+i) (ZQJ i) (λ_=>False)/\GB w1 wr (DWr bs (λ_=>False))) (λv36 _=>2 - (intOf v36).toNat)
 case atStart=>exact⟨0,ZcL _,rfl,H1.o,GB.refl _ _⟩
 case round=>
  obtain⟨i,hi,rfl,hd,hg⟩:=hrel;have HD:=ZA hd;have HG:=ZA hg;clear hd hg;by_cases hlt:i<2
  ·have hlti:(i:Int)<2:=by omega
   have CN:=ZA (HD.o.do_ ZB (ZRn (g:=g) hlt));go_wp2_with fail;refine CN.o.mono ?_;rintro e w2 ⟨rfl,hd2,hg2⟩;have HD2:=ZA hd2;have HG2:=ZA (HG.o.trans hg2 (λi e=>.inl e));clear hd2 hg2 CN;go_wp2_with fail
   go_roundw
   case rel=>exact⟨i+1,by omega,by go_num,HD2.o,HG2.o⟩
   case measure=>simp[intOf];omega
  ·have hlti:¬(i:Int)<2:=by omega
   obtain rfl:i=2:=by omega
   clear hlti hlt hi;rw[show((2:Nat):Int)=2 from rfl];have R4:=ZA (ZMa Hr.o X1.o HG.o hwb.out);have R41:=ZA (ZMa Hr1.o X1.o HG.o hwb.out);have R42:=ZA (ZMa Hr2.o X1.o HG.o hwb.out);have K4:=ZA (λ(q:ZGt) (hq:q ∈ R)=>ZMa (Hb.o q hq).2.2.2.2.2.1 X1.o HG.o hwb.out);have H4:=ZA (show Xw wr bs gd g 3 ZIj (λ_=>False)from HD.o);have E4:=ZA (HG.o.to_ext X1.o (λi e=>Zb2 hwb.out e.1));clear HD HG;obtain⟨w4,e4⟩:∃v,v=wr:=⟨wr,rfl⟩;subst e4;go_wp2_with fail
   go_loopw [10,11,47] (λv10 v11 v47 wx=>∃(k na ca:Nat) (AA:Option Addr) (cs:List Z3),k<=n/\v10=.int .i64 (cs.length:Int)/\v11=.slice AA na ca/\v47=.int .i64 (k:Int)/\(cs.flatMap Zp).length=na/\cs.length<=20/\cs.length<=k/\(∀d ∈ cs,ZBj d/\ZMO PT d)/\wx.ownsRow w4.heap.size 5 1 (.slice AA na ca) na (ZV .u8 (cs.flatMap Zp))/\ZL w4 wx) (λ_ _ v47 _=>n - (intOf v47).toNat)
   case atStart=>exact⟨0,0,0,none,[],ZcL _,rfl,rfl,rfl,rfl,ZcL _,Zb0 _,(λd hd=>by cases hd),ZcU _ _ _ _,ZL.refl _⟩
   case round=>
    obtain⟨k,na,ca,AA,cs,hk,rfl,rfl,rfl,hna,h20,hck,hno,hown,hx⟩:=hrel;have HNA:=ZA hna;have HNO:=ZA hno;have HOA:=ZA hown;have HX:=ZA hx;have hna2:na<=20080:=by rw[<-hna];have:=(ZDb (λd hd=>(hno d hd).1)).1;omega
    clear hna hno hown hx;obtain⟨cn,Hcn⟩:=ZTy (cs.length);rw[Hcn.o]at h20 hck;by_cases hlt:k<n
    ·obtain⟨q,hq⟩:∃q,R[k]?=some q:=⟨_,Zaz (by rw[Hl.o];omega)⟩;have hqm:=ZbO hq;obtain⟨hq1,hq2,hq3,hq4,hq5,hq6,hq7⟩:=Hb.o q hqm;have hg:=λj hj=>ZGX ZAK 4 R (λ_ _=>rfl) k q hq j hj;obtain⟨b,off,hA,hcell⟩:=(R4.o.ext HX.o) (λe0=>by have:=hg 0 ZB;rw[e0]at this;simp[ZAK]at this);have d0:=hcell (k*4+0) _ (hg 0 ZB);have d1:=hcell (k*4+1) _ (hg 1 ZB);have d2:=hcell (k*4+2) _ (hg 2 ZB);have d3:=hcell (k*4+3) _ (hg 3 ZB);rw[<-Zbp]at d0 d1 d2 d3;rw[Zbw]at d0;have hrk:=K4.o q hqm;obtain⟨op,who,K,cap,key,val⟩:=q
     dsimp only at hq1 hq2 hq3 hq4 hq5 hq6 hq7 d0 d1 d2 d3 hrk
     subst hA;obtain⟨kl,Hkl⟩:=ZTy (key.length);rw[Hkl.o]at d2 hq4;have hval:val<=9223372036854775807:=(ZSl hq7).2;obtain⟨W,hW⟩:=ZTz (wr.alloc (.cells #[.int .u8 (op:Int),.int .i64 who,.slice K kl cap,.int .i64 val] 34));have xb:ZL wr W:=by rw[<-hW];exact(ZL.refl wr).alloc _
     have KB:=ZA (show W.heap[wr.heap.size]?=some (.cells #[.int .u8 (op:Int),.int .i64 who,.slice K kl cap,.int .i64 val] 34 (0,0)) by rw[<-hW];exact ZM wr _);have FT:=ZA (ZSn W op hq2 who val K kl cap hq4 hval);have HK:=ZA hrk;have HQ3:=ZA hq3;have XB:=ZA xb;have hki:(0:Int)<=(k:Int)/\(k:Int)<(n:Int):=⟨by omega,by omega⟩;clear hq hqm hq1 hq2 hq3 hq4 hq5 hq6 hq7 hg hcell xb hrk;go_upto_region 15 with fail
     (try rw[hW])
     clear hW d0 d1 d2 d3;have k0:=ZTx KB.o 0 (.int .u8 (op:Int));have k1:=ZTx KB.o 1 (.int .i64 who);have k2:=ZTx KB.o 2 (.slice K kl cap);have k3:=ZTx KB.o 3 (.int .i64 val);go_wp2_with fail;refine FT.o.mono ?_;rintro e w5 ⟨q,p',N',m,rfl,hm,hq6,hp,hall,hsem,hx5⟩;have X5:=ZA (XB.o.trans hx5);obtain⟨F,hF,hF2,hC⟩:=ZEA q ZB p' N' m (key.take m) (by rw[ZbG,Hkl.o];omega) (λx hx=>HQ3.o x (ZbR hx));have RQ:=ZA (hC K cap w5 (ZK3 (HK.o.ext (HX.o.trans X5.o)) m));have HFA:=ZA (show ZTY q p' (key.take m) N' from⟨hq6,hp,hall,hsem,by rw[ZbG];omega,λx hx=>HQ3.o x (ZbR hx)⟩);have HF:=ZA hF;have HF2:=ZA hF2;clear hm hq6 hp hall hsem hx5 hF hF2 hC k0 k1 k2 k3 FT;have hfd:∀u:World,(Instr.field 36 (.agg #[.int .u8 0,.int .i64 0,.int .u8 (q:Int),.int .i64 p',.slice K m cap,.int .i64 N',.int .i64 0]) 2).run Tryz.prog u=.ok (.agg #[.int .u8 (q:Int),.int .i64 p',.slice K m cap,.int .i64 N']) u:=λ_=>by kernel_rfl
     cases F with
     |none=>
      unfold ZKd at RQ
      dsimp only at RQ
      go_wp2_with fail;refine RQ.o.mono ?_;rintro e w6 ⟨rfl,x6⟩;have X6:=ZA (X5.o.trans x6);clear x6;by_cases hk20:k<20
      ·have b20:decide ((k:Int)<20)=true:=Zcb ZB;have b21:decide (k<20)=true:=Zcb hk20;go_wp2_with fail
       go_roundw
       case rel=>exact⟨k+1,na,ca,AA,cs,hlt,rfl,rfl,by go_num,HNA.o,by rw[Hcn.o];exact h20,by rw[Hcn.o];omega,HNO.o,YB HOA.o X6.o,HX.o.trans X6.o⟩
       case measure=>simp[intOf];omega
      ·have b20:decide ((k:Int)<20)=false:=Zca ZB;have b21:decide (k<20)=false:=Zca hk20;go_wp2_with fail
       go_roundw
       case rel=>exact⟨k+1,na,ca,AA,cs,hlt,rfl,rfl,by go_num,HNA.o,by rw[Hcn.o];exact h20,by rw[Hcn.o];omega,HNO.o,YB HOA.o X6.o,HX.o.trans X6.o⟩
       case measure=>simp[intOf];omega
     |some L=>
      unfold ZKd at RQ
      dsimp only at RQ
      obtain⟨cl,hc1,hc2,hc3⟩:=ZP9 HFA.o HF.o;obtain⟨ln,Hln⟩:=ZTy (L.length);rw[Hln.o]at RQ;have hln:ln<=1010:=by rw[<-Hln.o];exact(HF2.o L rfl).1
      go_wp2_with fail;refine RQ.o.mono ?_;rintro e w6 ⟨gq,cq,rfl,o6,x6⟩;have X6:=ZA (X5.o.trans x6);have O6:=ZA o6;clear x6 o6;by_cases hk20:k<20
      ·have b20:decide ((k:Int)<20)=true:=Zcb ZB;have b21:decide (k<20)=true:=Zcb hk20;go_upto_region 17 with fail;go_wp2_with (at_builtin;refine Y6 w6 rfl (.tmp 63) (.tmp 64) rfl w4.heap.size rfl (YB HOA.o X6.o) rfl Hln.o (Rd.of_own O6.o) ZB (HX.o.trans X6.o).size ?_;intro B7 cb7 w7 o7 g7 b7;have O7:=ZA o7;have X7:=ZA ((HX.o.trans X6.o).grown g7 (λq e=>(HOA.o.lt q e).1));clear o7 g7 b7)
       go_roundw
       case rel=>
        refine⟨k+1,na+ln,cb7,B7,cs++[cl],hlt,by rw[Za9,Hcn.o,ZKm ((cn:Int)+1) ZB ZB];rfl,rfl,by go_num,?_,by rw[Za9,Hcn.o];show cn+1<=20;omega,by rw[Za9,Hcn.o];show cn+1<=k+1;omega,λd hd=>?_,?_,X7.o⟩
        ·rw[Zas,Za9,HNA.o,Zat,List.flatMap_nil,Zag,<-hc3,Hln.o]
        ·rcases ZbI.1 hd with hd|hd
         ·exact HNO.o d hd
         ·rw[ZbU]at hd;subst hd;exact⟨hc1,hc2⟩
        ·rw[Zas,Zat,List.flatMap_nil,Zag,<-hc3];exact O7.o
       case measure=>simp[intOf];omega
      ·have b20:decide ((k:Int)<20)=false:=Zca ZB;have b21:decide (k<20)=false:=Zca hk20;go_wp2_with fail
       go_roundw
       case rel=>exact⟨k+1,na,ca,AA,cs,hlt,rfl,rfl,by go_num,HNA.o,by rw[Hcn.o];exact h20,by rw[Hcn.o];omega,HNO.o,YB HOA.o X6.o,HX.o.trans X6.o⟩
       case measure=>simp[intOf];omega
    ·obtain rfl:k=n:=by omega
     have hlti:¬(k:Int)<(k:Int):=by omega
     clear hlt hk;obtain⟨nb,Hnb⟩:∃nb:Nat,ZD (nb=min n1 40):=⟨_,ZA rfl⟩;have emin:min (n1:Int) 40=(nb:Int):=by have:=Hnb.o;omega
     have hnb:nb<=40/\nb<=n1:=by have:=Hnb.o;omega
     have hb1:(0:Int)<=(nb:Int):=by omega
     have hb2:¬(c1:Int)<(nb:Int):=by omega
     have hb3:(nb:Int)<=(c1:Int):=by omega
     obtain⟨bad,Hbad⟩:=ZTy (us.take nb);have Hbl:=ZA (show bad.length=nb by rw[<-Hbad.o,ZbG,Hl1.o];omega);have Hbb:=ZA (show ∀x ∈ bad,x<256 from λx hx=>Hb1.o x (ZbR (by rw[Hbad.o];exact hx)));have RK:=ZA (show Rd (wr.alloc (.cells #[] 5)) A1 (ZV .u8 bad) by rw[<-Hbad.o];exact ZK3 (R41.o.ext (HX.o.alloc _)) nb);have h0n:0+nb<=140737488355328:=by omega
     go_upto_region 20 with fail;go_upto_region 22 with(at_builtin;refine Y6 (wr.alloc (.cells #[] 5)) rfl (.tmp 69) (.tmp 74) rfl wr.heap.size rfl (ZPT wr) rfl Hbl.o RK.o h0n (((ZL.refl wr).alloc _).size) ?_;intro B2 cb2 w2 o2 g2 b2;have O2:=ZA o2;have X2:=ZA (HX.o.trans (((ZL.refl wr).alloc _).grown g2 (λq e=>((ZPT wr).lt q e).1)));have XR2:=ZA (((ZL.refl wr).alloc (.cells #[] 5)).grown g2 (λq e=>((ZPT wr).lt q e).1));clear o2 g2 b2);have O2':w2.ownsRow wr.heap.size 5 1 (.slice B2 nb cb2) nb (ZV .u8 bad):=by have:=O2.o;rw[ZcK,ZbV]at this;exact this
     have RB:=ZA (Rd.of_own O2');have hcap2:=Ys O2';clear O2' O2 RK emin hb1 hb2 hb3 h0n
     go_cut [17] (λv wd=>∃q:Int,v=.int .i64 q/\((q==0)=true\/((q==0)=false/\¬ZCq bad))/\ZL w2 wd)
     case first=>
      rcases ZK1 bad nb Hbl.o Hbb.o with⟨q,hq0,-,hno,-,hdoc⟩|⟨op,p,ks,N,-,-,-,-,hdoc⟩
      ·have DR:=ZA (hdoc w2 B2 cb2 RB.o hcap2);clear hdoc;go_wp2_with fail;refine DR.o.mono ?_;rintro e w3 ⟨rfl,hx⟩;have HX3:=ZA hx;clear hx DR;unfold ZCk YY;go_wp2_with fail
       go_meet
       exact⟨q,rfl,.inr ⟨hq0,λe=>hno ⟨by omega,e⟩⟩,HX3.o.alloc _⟩
      ·have DR:=ZA (hdoc w2 B2 cb2 RB.o hcap2);clear hdoc;go_wp2_with fail;refine DR.o.mono ?_;rintro e w3 ⟨A9,c9,rfl,-,hx⟩;have HX3:=ZA hx;clear hx DR;obtain⟨m9,Hm9⟩:=ZTy (ks.length);rw[Hm9.o];unfold YY;go_wp2_with fail
       go_meet
       exact⟨0,rfl,.inl rfl,HX3.o.alloc _⟩
     case rest=>
      obtain⟨q,rfl,hq,hx3⟩:=hcut;have X3:=ZA (X2.o.trans hx3);have RB3:=ZA (RB.o.ext hx3);have HOA3:=ZA (YB (YB HOA.o XR2.o) hx3);have HQ:=ZA hq;clear hq hx3;obtain⟨bb,Hbq⟩:=ZTy (((q==0)||decide (nb=0)));go_upto_region 23 with fail
      go_cut [87] (λv wd=>v=.bool bb/\wd=wc)
      case first=>
       cases hq0:(q==0)with
       |true=>
        have e:bb=true:=by rw[<-Hbq.o,hq0];rfl
        go_wp2_with fail
        go_meet
        exact⟨by rw[e],rfl⟩
       |false=>
        cases nb with
        |zero=>
         have e:bb=true:=by rw[<-Hbq.o,hq0];rfl
         go_wp2_with fail
         go_meet
         exact⟨by rw[e],rfl⟩
        |succ nb=>
         have e:bb=false:=by rw[<-Hbq.o,hq0];rfl
         have z1:(((nb+1:Nat):Int)==0)=false:=by rw[ZcW];omega
         have z2:((nb+1:Nat)==0)=false:=rfl;go_wp2_with fail
         go_meet
         exact⟨by rw[e];congr 1,rfl⟩
      case rest=>
       obtain⟨rfl,rfl⟩:=hcut
       go_upto_if 87 with fail
       go_cut [11,15] (λv11 v15 wd=>∃(B:Option Addr) (m cb e:Nat) (tl:List Nat),v11=.slice B m cb/\v15=.int .i64 (e:Int)/\m<=20200/\wd.ownsRow w4.heap.size 5 1 (.slice B m cb) m (ZV .u8 (cs.flatMap Zp++tl))/\(cs.flatMap Zp++tl).length=m/\ZTM bad tl e/\ZL w4 wd)
       case first=>
        cases bb with
        |true=>
         go_wp2_with (at_builtin;refine Y6 (wc.alloc (.cells #[.int .u8 0,.int .u8 0,.int .u8 0,.int .u8 0] 5)) rfl (.tmp 88) (.tmp 89) rfl w4.heap.size rfl (YB HOA3.o ((ZL.refl wc).alloc _)) rfl (m:=4) (news:=[0,0,0,0]) rfl (ZAU wc [.int .u8 0,.int .u8 0,.int .u8 0,.int .u8 0] _ rfl) ZB ((X3.o.alloc _).size) ?_;intro B5 cb5 w5 o5 g5 b5;have O5:=ZA o5;have X5:=ZA ((X3.o.alloc (.cells #[.int .u8 0,.int .u8 0,.int .u8 0,.int .u8 0] 5)).grown g5 (λq e=>(HOA3.o.lt q e).1));clear o5 g5 b5)
         go_meet
         exact⟨B5,na+4,cb5,12,[0,0,0,0],rfl,rfl,by omega,O5.o,by rw[Za9,HNA.o];rfl,.inl ⟨rfl,rfl⟩,X5.o⟩
        |false=>
         have hq0:(q==0)=false:=by cases e:(q==0)with
          |true=>have:=Hbq.o;rw[e]at this;cases this
          |false=>rfl
         have hnb0:1<=nb:=by
          rcases Zby nb with e|e
          ·exfalso;have:=Hbq.o;rw[hq0,Zcb e]at this;cases this
          ·exact e
         have hnr:¬ZCq bad:=by
          rcases HQ.o with e|e
          ·rw[hq0]at e;cases e
          ·exact e.2
         have EN:=ZA (ZCf wc B2 nb cb2 bad ZB hnb0 Hbl.o RB3.o);obtain⟨l5,Hl5⟩:=ZTy ((XK nb++bad).length);have hl5:l5<=44:=by rw[<-Hl5.o,Za9,Hbl.o,show(XK nb).length=4 from rfl];omega
         unfold Yu at EN;rw[Hl5.o]at EN;go_wp2_with fail;refine EN.o.mono ?_;rintro e w5 ⟨A5,c5,rfl,o5,x5⟩;have O5:=ZA o5;have X5:=ZA (X3.o.trans x5);have XC:=ZA x5;clear o5 x5 EN;go_wp2_with (at_builtin;refine Y6 w5 rfl (.tmp 96) (.tmp 97) rfl w4.heap.size rfl (YB HOA3.o XC.o) rfl Hl5.o (Rd.of_own O5.o) ZB X5.o.size ?_;intro B6 cb6 w6 o6 g6 b6;have O6:=ZA o6;have X6:=ZA (X5.o.grown g6 (λq e=>(HOA3.o.lt q e).1));clear o6 g6 b6)
         go_meet
         exact⟨B6,na+l5,cb6,3,XK nb++bad,rfl,rfl,by omega,O6.o,by rw[Za9,HNA.o,Hl5.o],.inr ⟨rfl,by rw[Hbl.o],by rw[Hbl.o];exact hnb0,hnr⟩,X6.o⟩
       case rest=>
        obtain⟨B6,m6,cb6,e6,tl,rfl,rfl,hm6,ho6,hl6,htl,hx6⟩:=hcut;have HO6:=ZA ho6;have HL6:=ZA hl6;have HTL:=ZA htl;have X6:=ZA hx6;clear ho6 hl6 htl hx6;obtain⟨nr,Hnr⟩:∃nr:Nat,ZD (nr=min n2 200):=⟨_,ZA rfl⟩;have emin:min (n2:Int) 200=(nr:Int):=by have:=Hnr.o;omega
        have hnr:nr<=200/\nr<=n2:=by have:=Hnr.o;omega
        have hb1:(0:Int)<=(nr:Int):=by omega
        have hb2:¬(c2:Int)<(nr:Int):=by omega
        have hb3:(nr:Int)<=(c2:Int):=by omega
        obtain⟨rest,Hrest⟩:=ZTy (xs.take nr);have Hrl:=ZA (show rest.length=nr by rw[<-Hrest.o,ZbG,Hl2.o];omega);have Hrb:=ZA (show ∀x ∈ rest,x<256 from λx hx=>Hb2.o x (ZbR (by rw[Hrest.o];exact hx)));have RR:=ZA (show Rd wc A2 (ZV .u8 rest) by rw[<-Hrest.o];exact ZK3 (R42.o.ext X6.o) nr);have h0n:m6+nr<=140737488355328:=by omega
        have TO:=ZA (ZQ3 Hbl.o hnb.1 Hbb.o Hrl.o hnr.1 Hrb.o HTL.o);obtain⟨a3,F1,hst3,k3,b3,rs,hk3,D1,hst,hdr,hwr,hrs,hrep,a5,F2,k5,d5,r5,hk5,D2,hw5,hr5,he5,hl5⟩:=ZL9 HgP.o (by rw[Hcn.o];exact h20) HNO.o TO.o.1 TO.o.2.1 TO.o.2.2;have Q1:=ZA F1;have Q2:=ZA D1;have Q3:=ZA hst;have Q4:=ZA hdr;have Q5:=ZA hwr;have Q6:=ZA hrs;have Q7:=ZA hrep;have Q8:=ZA F2;have Q9:=ZA D2;have Q10:=ZA hw5;have Q11:=ZA hr5;have Q12:=ZA he5;have Q13:=ZA hl5;have Q14:=ZA hst3;rw[Hcn.o]at hk3;clear F1 D1 hst hdr hwr hrs hrep F2 D2 hw5 hr5 he5 hl5 hst3;go_upto_region 29 with(at_builtin;refine Y6 wc rfl (.tmp 99) (.tmp 104) rfl w4.heap.size rfl HO6.o rfl Hrl.o RR.o h0n X6.o.size ?_;intro B7 cb7 w7 o7 g7 b7;have O7:=ZA o7;have X7:=ZA (X6.o.grown g7 (λq e=>(HO6.o.lt q e).1));clear o7 g7 b7);have H7:=ZA (H4.o.ext X7.o);have FE:=ZA (H7.o.feed_ (m:=m6+nr) (c:=cb7) (A:=B7) Q1.o (by rw[<-Zae,Za9,HL6.o,Hrl.o]) (by rw[<-Zae];exact Rd.of_own O7.o));clear emin hb1 hb2 hb3 h0n;go_wp2_with fail;refine FE.o.mono ?_;rintro e w8 ⟨rfl,h8,g8⟩;have H8:=ZA h8;have E8:=ZA (g8.to_ext (E4.o.trans X7.o) (λi e=>Zb2 hwb.out e.1));clear h8 g8 FE;go_wp2_with fail;rw[Hcn.o]
        go_loopw [20] (λv20 wx=>∃(i:Nat) (st:DSt),i<=k3/\v20=.int .i64 (i:Int)/\Xw wx bs gd g (3+i) st (λ_=>False)/\ZI2 g 0 (ZHI 0) (k3 - i) st b3/\GB w8 wx (DWr bs (λ_=>False))) (λv20 _=>k3 - (intOf v20).toNat)
        case atStart=>exact⟨0,_,ZcL _,rfl,H8.o,Q2.o,GB.refl _ _⟩
        case round=>
         obtain⟨i,st,hi,rfl,hd,hrun,hg⟩:=hrel;have HD:=ZA hd;have HG:=ZA hg;clear hd hg;have ST:=HD.o.state_ (n:=0) ZB;by_cases h1:(st.ls 0).st=1
         ·have hs0:ZHI 0 st=false:=Zca (λq=>q h1);obtain⟨p,hp⟩:∃p,k3 - i=p+1:=by
           rcases Zby (k3 - i)with e|e
           ·rw[e]at hrun;cases hrun with
            |done hs9=>rw[hs0]at hs9;cases hs9
           ·exact⟨k3 - i - 1,by omega⟩
          rw[hp]at hrun;cases hrun with
          |@step _ _ b _ _ hdo hrun2=>
           have DD:=ZA (HD.o.do_ ZB hdo);have HR:=ZA hrun2;rw[h1,show((1:Nat):Int)=1 from rfl]at ST;have ST:=ZA ST;have g1:¬(512*((cn:Int)+2)<(i:Int)):=by omega
           have g2:decide (512*((cn:Int)+2)<(i:Int))=false:=Zca g1;clear hrun2 hdo h1 hs0;go_wp2_with fail;refine ST.o.mono ?_;rintro e wy ⟨rfl,rfl⟩;go_wp2_with fail;refine ST.o.mono ?_;rintro e wy ⟨rfl,rfl⟩;go_wp2_with fail;refine DD.o.mono ?_;rintro e wy ⟨rfl,hd2,hg2⟩;have HD2:=ZA hd2;have HG2:=ZA (HG.o.trans hg2 (λi e=>.inl e));clear hd2 hg2 DD;go_wp2_with fail
           go_roundw
           case rel=>exact⟨i+1,b,by omega,by go_num,HD2.o,by rw[show k3 - (i+1)=p by omega];exact HR.o,HG2.o⟩
           case measure=>simp[intOf];omega
         ·have est:st=b3:=by
           generalize k3 - i=z at hrun;cases hrun with
           |done _=>rfl
           |step hs9 _ _=>exact absurd hs9 (by unfold ZHI;rw[Zcb h1];exact Bool.noConfusion)
          subst est;rw[Q3.o,show((2:Nat):Int)=2 from rfl]at ST;have ST:=ZA ST;have H9:=ZA (show Xw wr bs gd g (3+i) st (λ_=>False)from HD.o);have E9:=ZA (HG.o.to_ext E8.o (λi e=>Zb2 hwb.out e.1));clear hrun h1 HD;go_wp2_with fail;refine ST.o.mono ?_;rintro e wy ⟨rfl,rfl⟩;have hrl:(rs++[Yb e6]).length=cn+1:=by rw[Za9,Q6.o,Hcn.o];rfl
          have RE:=ZFt wr bs gd g (3+i) 0 st (λ_=>False) (rs++[Yb e6]) H9.o ZB Q5.o Q7.o (by rw[hrl];omega);unfold ZQp at RE;rw[hrl]at RE;have REh:=ZA RE;clear RE hrl;go_wp2_with fail;refine REh.o.mono ?_;rintro e w16 ⟨B16,c16,rfl,ho16,x16⟩;have RR16:=ZA (Y9 ho16);have X16:=ZA x16;clear ho16 x16 REh;obtain⟨bw,ow,hB16,hcw⟩:=RR16.o (λe=>by rw[ZFs]at e;simp[ZDx]at e);have hfg:=λk (hk:k<6)=>ZGX (λr:YH=>(ZDx r).toList) 6 (rs++[Yb e6]) (λ_ _=>rfl) cn (Yb e6) (by rw[Zaw (by rw[Q6.o,Hcn.o];exact Zb0 _),Q6.o,Hcn.o,Nat.sub_self];rfl) k hk;have r0:w16.cell? ⟨bw,ow+cn*6,none⟩=some (.int .i64 (e6:Int)):=by have:=hcw _ _ (hfg 0 ZB);rw[Zbw]at this;exact this
          have r1:w16.cell? ⟨bw,ow+cn*6+1,none⟩=some (.bool false):=by have:=hcw _ _ (hfg 1 ZB);rw[<-Zbp]at this;exact this
          have r2:w16.cell? ⟨bw,ow+cn*6+2,none⟩=some (.int .i64 0):=by have:=hcw _ _ (hfg 2 ZB);rw[<-Zbp]at this;exact this
          have r3:w16.cell? ⟨bw,ow+cn*6+3,none⟩=some (.int .i64 0):=by have:=hcw _ _ (hfg 3 ZB);rw[<-Zbp]at this;exact this
          have r4:w16.cell? ⟨bw,ow+cn*6+4,none⟩=some (.int .i64 0):=by have:=hcw _ _ (hfg 4 ZB);rw[<-Zbp]at this;exact this
          have r5':w16.cell? ⟨bw,ow+cn*6+5,none⟩=some (.int .i64 0):=by have:=hcw _ _ (hfg 5 ZB);rw[<-Zbp]at this;exact this
          subst hB16;have hneq:=λu=>ZRE (e6:Int) false 0 0 0 0 u;have hjx:(0:Int)<=(cn:Int)/\(cn:Int)<((cn+1:Nat):Int):=⟨by omega,by omega⟩;have hjx2:(0:Int)<=(cn:Int)/\(cn:Int)<(cn:Int)+1:=⟨by omega,by omega⟩;have hjb:(((cn:Int)+1) !=((cn:Int)+1))=false:=by simp
          have H10:=ZA (H9.o.ext X16.o);have CLO:=ZA (H10.o.closed_ (n:=0) (m:=n2) (c:=c2) (A:=A2) ZB Q3.o Q4.o);clear hcw hfg;go_wp2_with fail;refine CLO.o.mono ?_;rintro e w17 ⟨rfl,x17⟩;have H11:=ZA (H10.o.ext x17);have E11:=ZA ((E9.o.trans X16.o).trans x17);clear x17 CLO r0 r1 r2 r3 r4 r5';have kc:=λ(u:World) (C:Array Value) (n c:Nat)=>Lib.run_convert_bytes_const (P:=Tryz.prog) u 32 5 C n c Tryz.underlying32 Tryz.underlying5;obtain⟨lp,Hlp⟩:=ZTy ((Zp Ji).length);have RQ:=ZG8 Ji ZEV 3 rfl (some ⟨w17.heap.size,0,none⟩) 3 (w17.alloc (.cells #[.int .u8 122,.int .u8 122,.int .u8 122] 5 (3,4))) (ZPL w17 #[.int .u8 122,.int .u8 122,.int .u8 122] _ _);unfold ZKd at RQ
          dsimp only at RQ
          rw[Hlp.o]at RQ;have RQh:=ZA (show Calls Tryz.prog 20 #[.agg #[.int .u8 4,.int .i64 0,.slice (some ⟨w17.heap.size,0,none⟩) 3 3,.int .i64 0]] (w17.alloc (.cells #[.int .u8 122,.int .u8 122,.int .u8 122] 5 (3,4))) _ from RQ);clear RQ;go_wp2_with fail;refine RQh.o.mono ?_;rintro e w18 ⟨gp,cp,rfl,o18,x18⟩;have H12:=ZA ((H11.o.ext ((ZL.refl w17).alloc _)).ext x18);have E12:=ZA ((E11.o.alloc _).trans x18);have FP:=ZA (H12.o.feed_ (n:=1) (m:=lp) (c:=cp) (A:=some ⟨gp,0,none⟩) Q8.o Hlp.o (Rd.of_own o18));clear o18 x18 RQh;go_wp2_with fail;refine FP.o.mono ?_;rintro e w19 ⟨rfl,h19,g19⟩;have H19:=ZA h19;have E19:=ZA (g19.to_ext E12.o (λi e=>Zb2 hwb.out e.1));clear h19 g19 FP kc;obtain⟨N9,HN9⟩:=ZTy (3+i);rw[HN9.o]at H19;have hN9:N9<=5000:=by have:=HN9.o;omega
          go_wp2_with fail
          go_loopw [23] (λv23 wx=>∃(j:Nat) (st:DSt),j<=k5/\v23=.int .i64 (j:Int)/\Xw wx bs gd g (N9+j) st (λ_=>False)/\ZI2 g 1 (ZHH 1) (k5 - j) st d5/\ZL w wx) (λv23 _=>k5 - (intOf v23).toNat)
          case atStart=>exact⟨0,_,ZcL _,rfl,H19.o,Q9.o,E19.o⟩
          case round=>
           obtain⟨j,st,hj,rfl,hd,hrun,hxw⟩:=hrel;have HD:=ZA hd;have HXW:=ZA hxw;clear hd hxw;by_cases h1:(st.ls 1).wr=[]
           ·have hs0:ZHH 1 st=false:=Zca (λq=>q h1);obtain⟨p,hp⟩:∃p,k5 - j=p+1:=by
             rcases Zby (k5 - j)with e|e
             ·rw[e]at hrun;cases hrun with
              |done hs9=>rw[hs0]at hs9;cases hs9
             ·exact⟨k5 - j - 1,by omega⟩
            rw[hp]at hrun;cases hrun with
            |@step _ _ b _ _ hdo hrun2=>
             have OT:=HD.o.out_ (n:=1) (m:=0) ZB (by rw[h1];rfl) ZB;have OTh:=ZA OT;have HR:=ZA hrun2;have HDO:=ZA hdo;have g1:¬(512<(j:Int)):=by omega
             have g2:decide (512<(j:Int))=false:=Zca g1;have g3:decide (512<j)=false:=Zca ZB;clear hrun2 hdo h1 hs0 OT;go_wp2_with fail;refine OTh.o.mono ?_;rintro e w21 ⟨A21,c21,rfl,-,x21⟩;have DD:=ZA ((HD.o.ext x21).do_ ZB HDO.o);have X21:=ZA (HXW.o.trans x21);clear x21 OTh;go_wp2_with fail;refine DD.o.mono ?_;rintro e w22 ⟨rfl,hd2,g22⟩;have HD2:=ZA hd2;have E22:=ZA (g22.to_ext X21.o (λi e=>Zb2 hwb.out e.1));clear hd2 g22 DD;go_wp2_with fail
             go_roundw
             case rel=>exact⟨j+1,b,by omega,by go_num,HD2.o,by rw[show k5 - (j+1)=p by omega];exact HR.o,E22.o⟩
             case measure=>simp[intOf];omega
           ·have est:st=d5:=by
             generalize k5 - j=z at hrun;cases hrun with
             |done _=>rfl
             |step hs9 _ _=>exact absurd hs9 (by unfold ZHH;rw[Zcb h1];exact Bool.noConfusion)
            subst est;have hl38:(st.ls 1).wr.length=38:=by rw[Q10.o,ZB3 (λr hr=>by rw[ZbU]at hr;rw[hr];exact Q11.o)];rfl
            have OTh:=ZA (HD.o.out_ (n:=1) (m:=38) ZB hl38 ZB);clear hrun h1 hl38;go_wp2_with fail;refine OTh.o.mono ?_;rintro e w21 ⟨A21,c21,rfl,-,x21⟩;have H21:=ZA (HD.o.ext x21);have X21:=ZA x21;have RE:=ZFt w21 bs gd g (N9+j) 1 st (λ_=>False) [r5] H21.o ZB Q10.o (λr hr=>by rw[ZbU]at hr;rw[hr];exact Q11.o) (by show 1<=1000;omega);unfold ZQp at RE;rw[show([r5]:List YH).length=1 from rfl]at RE;have REh:=ZA RE;clear RE x21 OTh;go_wp2_with fail;refine REh.o.mono ?_;rintro e w22 ⟨B22,c22,rfl,ho22,x22⟩;obtain⟨bw2,ow2,hB22,hcw2⟩:=Y9 ho22 (λe=>by simp[ZHP,ZDx]at e);have s0:w22.cell? ⟨bw2,ow2,none⟩=some (.int .i64 0):=by
             have:=hcw2 0 (.int .i64 (r5.er:Int)) rfl;rw[Zbw,Q12.o]at this;exact this
            have s2:w22.cell? ⟨bw2,ow2+2,none⟩=some (.int .i64 3):=by
             have:=hcw2 2 (.int .i64 r5.left) rfl;rw[Q13.o]at this;exact this
            subst hB22;have E22:=ZA ((HXW.o.trans X21.o).trans x22);clear hcw2 ho22 x22 REh;go_wp2_with fail;go_ret;exact⟨rfl,E22.o⟩
end Go.Proofs.YtloidkmphigbdaaGreat
