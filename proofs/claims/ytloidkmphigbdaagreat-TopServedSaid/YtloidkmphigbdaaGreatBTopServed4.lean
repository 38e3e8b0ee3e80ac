import Derived.ProofKit
import Derived.OpenShut
import Derived.Deep.AppendSrc
import Derived.Shelf.Bits.Mul64
import Derived.Test.YtloidkmphigbdaaGreatBTopServed3
namespace Go.Proofs.YtloidkmphigbdaaGreat
open Tryz
set_option linter.all false
set_option maxHeartbeats 40000000
set_option maxRecDepth 100000
open Go.RowKit
variable {ki:Int}{d:Jv}{ys:List Nat}{xs:List Value}{L:List Zg}{c cap k len n s shards:Nat}{xb:Nat->Nat}{A:Option Addr}{ob:Option Nat}{e t:TypeId}{v:Value}{W W1 w w' w2:World}{C C' O X X':Zhf}{g:Zz}
def ZeU := @Array.getElem?_setIfInBounds_ne
def ZeV := @Array.getElem?_setIfInBounds_self_of_lt
def Zed := @Int.toNat_of_nonneg
def Zet := @List.eq_nil_of_length_eq_zero
def Zfd := @List.not_mem_nil
def Zgs := @run_firstCells_some
theorem QM {p:Prop}(h:p:=by
 have Hl:=ZA hl;have Hr:=ZA hr;clear hl hr;go_enter func61,ntmps61;first|(obtain -:=V1;go_wp2_with fail;refine(ZGx (N:Int) _ ZB ZB).mono ?_;rintro e w1 ⟨rfl,rfl⟩)|skip
 go_wp2_with fail;refine(ZDc p A n c xs _ h4 Hl.o hn (Hr.o.alloc _)).mono ?_;rintro e w1 ⟨A1,c1,rfl,ax,aK⟩;have cT:(p::xs).length=n+1:=by rw[ZfF,Hl.o]
 rw[cT]at ax ⊢;clear cT;obtain⟨g,rfl,hg,jA⟩:=ZB5 ax ZB;have bq:=ax.cellAt 0 ZB;have fI:w1.cell? ⟨g,0,none⟩=some (.int .u8 p):=by rw[bq];rfl
 first|(obtain -:=V2;have hK:ZD (w1.heap[w.heap.size]?=some (.cells #[.int .u8 2,.int .i64 p,.slice A n c,.int .i64 N] 34 (0,0))):=ZK (ZV w _) aK)|(obtain -:=V3;have hK:ZD (w1.heap[w.heap.size]?=some (.cells #[.int .u8 1,.int .i64 p,.slice A n c,.int .i64 N] 34 (0,0))):=ZK (ZV w _) aK)|have hK:ZD (w1.heap[w.heap.size]?=some (.cells #[.int .u8 4,.int .i64 p,.slice A n c,.int .i64 N] 34 (0,0))):=ZK (ZV w _) aK
 have b0:=ZE hK.out 0;have b2:=ZE hK.out 2;have d9:=ZA (Hr.o.ext (((ZM.refl w).alloc _).trans aK));have aG:w.heap.size+1<=w1.heap.size:=by have:=aK.size;simpa using this
 clear bq ax;go_upto_region 19 with fail;first|(obtain -:=V4;go_cut [8] (λv wd=>∃A6 c6,v=.slice A6 (3+n) c6/\wd.ownsRow w1.heap.size 5 1 (.slice A6 (3+n) c6) (3+n) (ZT .u8 ([2,p,n]++xs))/\ZM w1 wd))|(obtain -:=V5;go_cut [8] (λv wd=>∃A6 c6,v=.slice A6 (3+n) c6/\wd.ownsRow w1.heap.size 5 1 (.slice A6 (3+n) c6) (3+n) (ZT .u8 ([1,p,n]++xs))/\ZM w1 wd))|go_cut [8] (λv wd=>∃A6 c6,v=.slice A6 (3+n) c6/\wd.ownsRow w1.heap.size 5 1 (.slice A6 (3+n) c6) (3+n) (ZT .u8 ([4,p,n]++xs))/\ZM w1 wd)
 case first=>
  exact ZYt
 case rest=>
  obtain⟨A6,c6,rfl,bm,ic⟩:=hcut;have nS:=ZA (ZK hK.out ic);have d0:=ZE nS.out 0;have d3:=ZE nS.out 3;have cY:=ZA bm;clear bm b0 b2 fI;first|(obtain -:=V10;have kQ:([2,p,n]++xs).length=3+n:=by rw[ZfE,Hl.o];rfl)|(obtain -:=V11;have kQ:([1,p,n]++xs).length=3+n:=by rw[ZfE,Hl.o];rfl)|have kQ:([4,p,n]++xs).length=3+n:=by rw[ZfE,Hl.o];rfl
  have og:=ZA kQ;clear kQ;have mn:w1.heap.size<=wc.heap.size:=ic.size;have dZ:ZM w wc:=(((ZM.refl w).alloc _).trans aK).trans ic;go_wp2_with fail;first
  |obtain -:=V12;refine(ZK2 wc w1 w1.heap.size A6 (3+n) c6 _ N og.o cY.o ic (Zf6 _) mn ZB ZB).mono ?_;rintro e w7 ⟨A7,c7,rfl,cA,oZ,Aq⟩;have AM:([1,p,n]++xs++Zm N 8).length=3+n+8:=by rw[ZfE,og.o,Z4]
   have GF:=ZA AM;have jk:=ZA cA;clear AM cA;have DB:ZM w w7:=(((ZM.refl w).alloc _).trans aK).trans oZ;go_wp2_with fail
  |skip
  go_ret2;rw[Hl.o];first
  |obtain -:=V13;have e:(1::p::n::(xs++Zm N 8))=[1,p,n]++xs++Zm N 8:=by simp
   rw[e];exact Jq GF.o (Zj jk.o ZB) DB
  |exact Jq og.o (Zj cY.o ZB) dZ):p:=h
theorem ZUl (w:World)(p N:Nat)(A:Option Addr)(n c:Nat)(xs:List Nat)(hl:xs.length=n)(hr:Rd w A (ZT .u8 xs))(h4:p<32)(hn:n<=255)(hN:N<=4611686018427387903): Calls prog 61 #[Yp 1 (p:Int) A n c (N:Int)] w (Xc (1::p::xs.length::(xs++Zm N 8)) 0 w):=by
 obtain⟨V1,V3,V5,V7,V9,V11,V12,V13⟩:=QA;exact QM
theorem ZUk (w:World)(p:Nat)(N:Int)(A:Option Addr)(n c:Nat)(xs:List Nat)(hl:xs.length=n)(hr:Rd w A (ZT .u8 xs))(h4:p<32)(hn:n<=255): Calls prog 61 #[Yp 2 (p:Int) A n c N] w (Xc (2::p::xs.length::xs) 0 w):=by
 obtain⟨V2,V4,V6,V8,V10⟩:=QA;exact QM
theorem ZUi (w:World)(p:Nat)(N:Int)(A:Option Addr)(n c:Nat)(xs:List Nat)(hl:xs.length=n)(hr:Rd w A (ZT .u8 xs))(h4:p<32)(hn:n<=255): Calls prog 61 #[Yp 4 (p:Int) A n c N] w (Xc (4::p::xs.length::xs) 0 w):=QM
theorem ZHW (N w)(h:0<=N)(h':N<=4611686018427387903):Calls prog 48 #[.int .i64 N] w λe w'=>e=.returned (.bool true)/\w=w':=by
 go_enter func48,ntmps48;go_wp2_with fail;go_ret;exact⟨rfl,rfl⟩
theorem ZLe (N w)(h:N<0\/4611686018427387903<N):Calls prog 48 #[.int .i64 N] w λe w'=>e=.returned (.bool false)/\w=w':=by
 rcases h with h|h
 ·go_enter func48,ntmps48;go_wp2_with fail;go_ret;exact⟨rfl,rfl⟩
 ·have h':0<=N:=by omega
  go_enter func48,ntmps48;go_wp2_with fail;go_ret;exact⟨ZB9 (by simp;omega),rfl⟩
theorem ZKL{B:Nat}{size:Nat}(h:w.ownsRow B e size v n xs)(o):(w.alloc o).ownsRow B e size v n xs:=Z5 h ((ZM.refl w).alloc o)
theorem ZKN (w:World)(o:Obj)(y:Nat):((w.alloc o).alloc (.cells #[.int .u8 y] 5)).ownsRow w.heap.size 5 1 (.slice (some ⟨w.heap.size+1,0,none⟩) 1 1) 1 (ZT .u8 [y]):=by
 have h:=ZUu (w.alloc o) y;rw[Zga]at h;exact Zj h ZB
theorem ZPB (w:World)(o:Obj)(y:Nat):((w.alloc o).alloc (.cells #[.int .u8 y] 5)).ownsRow (w.heap.size+1) 5 1 (.slice (some ⟨w.heap.size+1,0,none⟩) 1 1) 1 (ZT .u8 [y]):=by
 have h:=ZUu (w.alloc o) y
 rwa [Zga]at h
theorem ZSd (w:World)(o:Nat)(ho:o=5\/o=6)(p N:Int)(A:Option Addr)(n c:Nat): Calls prog 111 #[Yp (o:Int) p A n c N] w (ZEs [o] w):=by
 have q3:((o:Int)==3)=false:=by rw[Zgb];omega
 have hh:((o:Int)==5)=true\/(((o:Int)==5)=false/\((o:Int)==6)=true):=by
  rcases ho with h|h
  ·left;rw[Zgc];omega
  ·right;exact⟨by rw[Zgb];omega,by rw[Zgc];omega⟩
 have Ho:=ZA ho;clear ho;rcases hh with h5|⟨h5,h6⟩
 ·go_enter func111,ntmps111;go_wp2_with fail;go_ret;exact ZBv rfl (ZKN w _ o) (((ZM.refl w).alloc _).alloc _)
 ·go_enter func111,ntmps111;go_wp2_with fail;go_ret;exact ZBv rfl (ZKN w _ o) (((ZM.refl w).alloc _).alloc _)
theorem ZUn (w:World)(p N:Nat)(A:Option Addr)(n c:Nat)(xs:List Nat)(hl:xs.length=n)(hb:∀x ∈ xs,x<256)(hr:Rd w A (ZT .u8 xs))(h1:1<=N)(h2:N<=4611686018427387903)(h4:p<32)(hn:n<=255): Calls prog 111 #[Yp 3 (p:Int) A n c (N:Int)] w (ZEs (3::Xm p xs N) w):=by
 have C:=ZA (λw1 bC=>ZHV w1 p N A n c xs hl hb bC h1 h2 h4 hn);have hL:(Xm p xs N).length=n+16:=by rw[ZA6,hl]
 have HL:=ZA hL;have Hr:=ZA hr;clear hl hr hb hL;have H0:=ZA (ZKN w (.cells #[.int .u8 3,.int .i64 p,.slice A n c,.int .i64 N] 34) 3);go_enter func111,ntmps111;go_wp2_with fail;refine(C.o _ ((Hr.o.alloc _).alloc _)).mono ?_;rintro e w1 ⟨A1,c1,rfl,af,hy⟩;rw[HL.o]at af ⊢;have hx:ZM w w1:=(((ZM.refl w).alloc _).alloc _).trans hy;have R1:=ZA (Rd.of_own af);have h0:=Z5 H0.o hy;have hs:w.heap.size<=w1.heap.size:=hx.size;clear af;go_wp2_with (first|(at_builtin;refine JV _ rfl (.tmp 11) (.tmp 19) rfl w.heap.size rfl h0 rfl HL.o R1.o ZB ZB ?_;intro A2 c2 w2 bT bA _)|fail);go_ret;refine ZBv ?_ bT (hx.grown bA (Yw h0));show(3::Xm p xs N).length=_;rw[ZfF,HL.o];omega
theorem ZSe (w:World)(o p:Nat)(ho:o=2\/o=4)(N:Int)(A:Option Addr)(n c:Nat)(xs:List Nat)(hl:xs.length=n)(hr:Rd w A (ZT .u8 xs))(h4:p<32)(hn:n<=255): Calls prog 111 #[Yp (o:Int) (p:Int) A n c N] w (ZEs (o::p::xs.length::xs) w):=by
 have q1:((o:Int)==1)=false:=by rw[Zgb];omega
 have q3:((o:Int)==3)=false:=by rw[Zgb];omega
 have q5:((o:Int)==5)=false:=by rw[Zgb];omega
 have q6:((o:Int)==6)=false:=by rw[Zgb];omega
 have Ho:=ZA ho;clear ho;have H0:=ZA (ZPB w (.cells #[.int .u8 o,.int .i64 p,.slice A n c,.int .i64 N] 34) o);have Hl:=ZA hl;have Hr:=ZA hr;clear hl hr;have mZ:IntKind.u8.wrap (n:Int)=(n:Int):=by rw[Zeg];omega
 have Al:IntKind.u8.wrap (p:Int)=(p:Int):=by rw[Zeg];omega
 go_enter func111,ntmps111
 go_wp2_with (first
  |(at_builtin;refine JV _ rfl (.tmp 25) (.tmp 33) rfl (w.heap.size+1) rfl (ZKL H0.o _) rfl (m:=2) (news:=[p,n]) rfl (JP _ _ _ ZXz) ZB (by simp<;>omega) ?_;intro A1 c1 w1 ax aT _;have aK:ZM w w1:=((((ZM.refl w).alloc _).alloc _).alloc _).grown aT (λk hk=>by have:=Yw H0.o k hk;omega);have k1:=ZA (aT.block w.heap.size (by simp<;>omega) (λe=>by have:=Yw H0.o _ e.symm;omega));have kk:ZD (w1.heap[w.heap.size]?=some (.cells #[.int .u8 o,.int .i64 p,.slice A n c,.int .i64 N] 34 (0,0))):=k1.out.trans (ZQ (ZQ (ZV w _) _) _);have g0:=ZE kk.out 0;have g2:=ZE kk.out 2)
  |(at_builtin;refine JV _ rfl (.tmp 35) (.tmp 37) rfl (w.heap.size+1) rfl ax rfl Hl.o (Hr.o.ext aK) ZB (ZX kk.out) ?_;intro A2 c2 w2 bT bA _;have bd:ZM w w2:=aK.grown bA (λk hk=>by have:=Yw ax k hk;omega);have k2:=ZA (bA.block w.heap.size (ZX kk.out) (λe=>by have:=Yw ax _ e.symm;omega));have rQ:ZD (w2.heap[w.heap.size]?=some (.cells #[.int .u8 o,.int .i64 p,.slice A n c,.int .i64 N] 34 (0,0))):=k2.out.trans kk.out;have j0:=ZE rQ.out 0)
  |fail)
 go_ret;have hx:ZM w w2:=bd;refine ZBv (n:=1+2+n) ?_ ?_ bd
 ·simp only[ZfF,Hl.o];omega
 ·rw[Hl.o];exact Zj bT ZB
theorem ZUo (w:World)(p N:Nat)(A:Option Addr)(n c:Nat)(xs:List Nat)(hl:xs.length=n)(hr:Rd w A (ZT .u8 xs))(h4:p<32)(hn:n<=255)(hN:N<=4611686018427387903): Calls prog 111 #[Yp 1 (p:Int) A n c (N:Int)] w (ZEs (1::p::xs.length::(xs++Zm N 8)) w):=by
 have H0:=ZA (ZPB w (.cells #[.int .u8 1,.int .i64 p,.slice A n c,.int .i64 N] 34) 1);have Hl:=ZA hl;have Hr:=ZA hr;clear hl hr;have mZ:IntKind.u8.wrap (n:Int)=(n:Int):=by rw[Zeg];omega
 have Al:IntKind.u8.wrap (p:Int)=(p:Int):=by rw[Zeg];omega
 go_enter func111,ntmps111
 go_wp2_with (first
  |(at_builtin;refine JV _ rfl (.tmp 25) (.tmp 33) rfl (w.heap.size+1) rfl (ZKL H0.o _) rfl (m:=2) (news:=[p,n]) rfl (JP _ _ _ ZXz) ZB (by simp<;>omega) ?_;intro A1 c1 w1 ax aT _;have aK:ZM w w1:=((((ZM.refl w).alloc _).alloc _).alloc _).grown aT (λk hk=>by have:=Yw H0.o k hk;omega);have k1:=ZA (aT.block w.heap.size (by simp<;>omega) (λe=>by have:=Yw H0.o _ e.symm;omega));have kk:ZD (w1.heap[w.heap.size]?=some (.cells #[.int .u8 1,.int .i64 p,.slice A n c,.int .i64 N] 34 (0,0))):=k1.out.trans (ZQ (ZQ (ZV w _) _) _);have g0:=ZE kk.out 0;have g2:=ZE kk.out 2)
  |(at_builtin;refine JV _ rfl (.tmp 35) (.tmp 37) rfl (w.heap.size+1) rfl ax rfl Hl.o (Hr.o.ext aK) ZB (ZX kk.out) ?_;intro A2 c2 w2 bT bA _;have bd:ZM w w2:=aK.grown bA (λk hk=>by have:=Yw ax k hk;omega);have k2:=ZA (bA.block w.heap.size (ZX kk.out) (λe=>by have:=Yw ax _ e.symm;omega));have rQ:ZD (w2.heap[w.heap.size]?=some (.cells #[.int .u8 1,.int .i64 p,.slice A n c,.int .i64 N] 34 (0,0))):=k2.out.trans kk.out;have j0:=ZE rQ.out 0;have j3:=ZE rQ.out 3)
  |fail)
 have dq:w.heap.size<w2.heap.size:=ZX rQ.out;have tS:=ZA bT;have Hx2:=ZA bd;clear ax aT aK k1 g0 g2 bA k2 bT bd;refine(ZDh w2 N 8 ZB ZB).mono ?_;rintro e w3 ⟨A3,c3,rfl,hown3,cI⟩;rw[Z4]at hown3 ⊢;have R3:=ZA (Rd.of_own hown3);have h2:=Z5 tS.o cI;have gL:w2.heap.size<=w3.heap.size:=cI.size;clear hown3;go_wp2_with (first|(at_builtin;refine JV _ rfl (.tmp 42) (.tmp 46) rfl (w.heap.size+1) rfl h2 rfl (Z4 N 8) R3.o ZB ZB ?_;intro A4 c4 w4 ay pT _)|fail);go_ret;have e:1::p::n::(xs++Zm N 8)=[1]++[p,n]++xs++Zm N 8:=by simp
 rw[Hl.o,e];refine ZBv ?_ (Zj ay ZB) ((Hx2.o.trans cI).grown pT (λk hk=>by have:=Yw h2 k hk;omega));simp only[ZfE,ZfF,ZfJ,Hl.o,Z4]
theorem Q0 {p:Prop}(h:p:=by
 first|(obtain -:=V1;have h6:op<=6:=by omega)|skip
 rcases h with h|h
 ·go_enter func63,ntmps63;go_wp2_with fail;go_ret2;exact YZ ⟨rfl,(ZM.refl w).alloc _⟩
 ·first|(obtain -:=V2;have h':¬op<1:=by omega)|(obtain -:=V3;have h':¬N<1:=by omega)|have h':¬p<0:=by omega
  go_enter func63,ntmps63;go_wp2_with fail;go_ret2;exact YZ ⟨rfl,(ZM.refl w).alloc _⟩):p:=h
theorem ZRJ (w op p N A n c)(h:op<1\/6<op): Calls prog 63 #[Yp op p A n c N] w (Xc [] 1 w):=by
 obtain⟨V2,_⟩:=QA;exact Q0
theorem ZFQ (w op p N A n c)(h1:1<=op)(h5:op<5)(h:p<0\/32<=p): Calls prog 63 #[Yp op p A n c N] w (Xc [] 1 w):=by
 obtain⟨V1,_⟩:=QA;exact Q0
theorem ZRL (w p N A n c)(hp:0<=p)(eK:p<32)(h:N<0\/4611686018427387903<N): Calls prog 63 #[Yp 1 p A n c N] w (Xc [] 1 w):=by
 go_enter func63,ntmps63;go_wp2_with fail;refine(ZLe N _ h).mono ?_;rintro e w1 ⟨rfl,rfl⟩;go_wp2_with fail
 go_ret2
 exact YZ ⟨rfl,(ZM.refl w).alloc _⟩
theorem ZRK (w p N A n c)(hp:0<=p)(eK:p<32)(h:N<1\/4611686018427387903<N): Calls prog 63 #[Yp 3 p A n c N] w (Xc [] 1 w):=by
 obtain⟨V3,_⟩:=QA;exact Q0
theorem ZKY (w p N A n c)(hp:0<=p)(eK:p<32)(h1:0<=N)(h2:N<=4611686018427387903)(hn:255<n): Calls prog 63 #[Yp 1 p A n c N] w (Xc [] 2 w):=by
 go_enter func63,ntmps63;go_wp2_with fail;refine(ZHW N _ h1 h2).mono ?_;rintro e w1 ⟨rfl,rfl⟩;go_wp2_with fail
 go_ret2
 exact YZ ⟨rfl,(ZM.refl w).alloc _⟩
theorem ZKX (w p N A n c)(hp:0<=p)(eK:p<32)(h1:1<=N)(h2:N<=4611686018427387903)(hn:255<n): Calls prog 63 #[Yp 3 p A n c N] w (Xc [] 2 w):=by
 go_enter func63,ntmps63;go_wp2_with fail
 go_ret2
 exact YZ ⟨rfl,(ZM.refl w).alloc _⟩
theorem ZIl (w op p N A n c)(h:op=2\/op=4)(hp:0<=p)(eK:p<32)(hn:255<n): Calls prog 63 #[Yp op p A n c N] w (Xc [] 2 w):=by
 have q1:(op==1)=false:=by rw[Zgb];omega
 have q3:(op==3)=false:=by rw[Zgb];omega
 have h1:1<=op:=by omega
 have h2:op<5:=by omega
 have h3:op<=6:=by omega
 clear h;go_enter func63,ntmps63;go_wp2_with fail
 go_ret2
 exact YZ ⟨rfl,(ZM.refl w).alloc _⟩
theorem ZE9 {L:List Nat}{q:Int}{w1:World}(hx:ZM w w1)(hk:L.length=k)(ho:w2.ownsRow w1.heap.size 5 1 (.slice A k c) k (ZT .u8 L))(hy:ZM w1 w2): Xc L q w (.returned (.tuple #[.slice A k c,.int .i64 q])) w2:=Jq hk (Zj ho hx.size) (hx.trans hy)
theorem Q6 {p:Prop}(h:p:=by
 obtain⟨HC,Hr,Hk⟩:=Z8 hC hr hk;clear hC hr hk;go_enter func63,ntmps63;first|(obtain -:=V1;go_wp2_with fail;refine(ZHW N _ h1 h2).mono ?_;rintro e w1 ⟨rfl,rfl⟩)|skip
 go_wp2_with fail;refine(HC.o _ (Hr.o.alloc _)).mono ?_;rintro e w1 ⟨A1,c1,rfl,af,hy⟩;rw[Hk.o]at af ⊢;have dH:=ZA af;clear af;go_wp2_with fail;go_ret2;exact ZE9 ((ZM.refl w).alloc _) Hk.o dH.o hy):p:=h
theorem ZOM (w p N A n c)(xs L:List Nat)(k)(hk:L.length=k)(hr:Rd w A (ZT .u8 xs))(hp:0<=p)(eK:p<32)(h1:0<=N)(h2:N<=4611686018427387903)(hn:n<=255)(hC:∀w,Rd w A (ZT .u8 xs)->Calls prog 111 #[Yp 1 p A n c N] w (ZEs L w)): Calls prog 63 #[Yp 1 p A n c N] w (Xc L 0 w):=by
 obtain⟨V1,_⟩:=QA;exact Q6
theorem ZOL (w p N A n c)(xs L:List Nat)(k)(hk:L.length=k)(hr:Rd w A (ZT .u8 xs))(hp:0<=p)(eK:p<32)(h1:1<=N)(h2:N<=4611686018427387903)(hn:n<=255)(hC:∀w,Rd w A (ZT .u8 xs)->Calls prog 111 #[Yp 3 p A n c N] w (ZEs L w)): Calls prog 63 #[Yp 3 p A n c N] w (Xc L 0 w):=Q6
theorem Q4 {p:Prop}(h:p:=by
 first|(obtain -:=V1;obtain⟨HC,Hr,Hk⟩:=Z8 hC hr hk;clear hC hr hk)|(have HC:=ZA hC;have Hk:=ZA hk;clear hC hk)
 have q1:(op==1)=false:=by rw[Zgb];omega
 have q3:(op==3)=false:=by rw[Zgb];omega
 have h1:1<=op:=by omega
 first|(obtain -:=V2;have h2:op<5:=by omega)|have h2:5<=op:=by omega
 have h3:op<=6:=by omega
 clear h;go_enter func63,ntmps63;go_wp2_with fail;first|(obtain -:=V3;refine(HC.o _ (Hr.o.alloc _)).mono ?_)|refine(HC.o _).mono ?_
 rintro e w1 ⟨A1,c1,rfl,af,hy⟩;rw[Hk.o]at af ⊢;have dH:=ZA af;clear af;go_wp2_with fail;go_ret2;exact ZE9 ((ZM.refl w).alloc _) Hk.o dH.o hy):p:=h
theorem ZMO (w op p N A n c)(xs L:List Nat)(k)(hk:L.length=k)(hr:Rd w A (ZT .u8 xs))(h:op=2\/op=4)(hp:0<=p)(eK:p<32)(hn:n<=255)(hC:∀w,Rd w A (ZT .u8 xs)->Calls prog 111 #[Yp op p A n c N] w (ZEs L w)): Calls prog 63 #[Yp op p A n c N] w (Xc L 0 w):=by
 obtain⟨V1,V2,V3⟩:=QA;exact Q4
theorem ZMN (w op p N A n c)(L:List Nat)(k)(hk:L.length=k)(h:op=5\/op=6)(hC:∀w,Calls prog 111 #[Yp op p A n c N] w (ZEs L w)): Calls prog 63 #[Yp op p A n c N] w (Xc L 0 w):=Q4
theorem ZFj (op)(FL:op<256)(p N n)(xs:List Nat)(hl:xs.length=n)(hb:∀x ∈ xs,x<256): ∃(q:Int) (L:List Nat),ZXN op p xs N q L/\(∀A c w,Rd w A (ZT .u8 xs)->Calls prog 61 #[Yp (op:Int) p A n c N] w (Xc L q w))/\ (∀A c w,Rd w A (ZT .u8 xs)->Calls prog 63 #[Yp (op:Int) p A n c N] w (Xc L q w)):=by
 by_cases h0:op<1\/6<op
 ·exact⟨1,[],(.inl ⟨rfl,rfl,ZAw ZB⟩),λA c w _=>ZUf w _ p N A n c ZB ZB,λA c w _=>ZRJ w _ p N A n c ZB⟩
 by_cases h56:op=5\/op=6
 ·have hR:ZBZ op 0 xs 0:=⟨by omega,by omega,λh=>by omega,λh=>by omega,λh=>by omega⟩;have hB:JN op 0 xs 0=[op]:=by unfold JN;rw[Zgk ZB,Zgl h56]
  refine⟨0,[op],.inr ⟨rfl,0,0,λh=>by omega,λh=>by omega,hR,hB.symm⟩,λA c w _=>?_,λA c w _=>ZMN w _ p N A n c [op] 1 rfl ZB (λw=>ZSd w op h56 p N A n c)⟩;rcases h56 with rfl|rfl
  ·exact ZUh w p N A n c
  ·exact ZUg w p N A n c
 by_cases h3:op=3
 ·subst h3;by_cases h1:N<1\/4611686018427387903<N\/p<0\/32<=p
  ·refine⟨1,[],(.inl ⟨rfl,rfl,ZAw ZB⟩),λA c w hr=>ZLZ w p N A n c xs 1 rfl hr (λw' _=>(ZIW w' p N A n c h1).mono λ_ _ h=>YZ h),λA c w hr=>?_⟩;by_cases hp:p<0\/32<=p
   ·exact ZFQ w 3 p N A n c ZB ZB hp
   ·exact ZRK w p N A n c ZB ZB ZB
  ·by_cases h2:255<n
   ·exact⟨2,[],(.inl ⟨rfl,rfl,ZAw ZB⟩),λA c w hr=>ZLZ w p N A n c xs 2 rfl hr (λw' _=>(ZHG w' p N A n c ZB ZB ZB ZB h2).mono λ_ _ h=>YZ h),λA c w hr=>ZKX w p N A n c ZB ZB ZB ZB h2⟩
   ·have ah:(Xm p.toNat xs N.toNat).length=n+16:=by rw[ZA6,hl]
    have hR:ZBZ 3 p.toNat xs N.toNat:=⟨by omega,by omega,λ_=>⟨by omega,by omega⟩,λh=>by omega,λ_=>⟨by omega,by omega⟩⟩;refine⟨0,3::Xm p.toNat xs N.toNat,.inr ⟨rfl,p.toNat,N.toNat,λ_=>by omega,λ_=>by omega,hR,rfl⟩,λA c w hr=>ZUj w p N A n c xs _ _ ah ZB hr (λw' bC=>?_),λA c w hr=>ZOL w p N A n c xs _ _ (by rw[ZfF,ah]) hr ZB ZB ZB ZB ZB (λw' bC=>?_)⟩
    ·have:=ZJy w' p.toNat N.toNat A n c xs hl hb bC ZB ZB ZB ZB
     rwa [show((p.toNat:Nat):Int)=p by omega,show((N.toNat:Nat):Int)=N by omega]at this
    ·have:=ZUn w' p.toNat N.toNat A n c xs hl hb bC ZB ZB ZB ZB
     rwa [show((p.toNat:Nat):Int)=p by omega,show((N.toNat:Nat):Int)=N by omega]at this
 by_cases h1:op=1
 ·subst h1;by_cases hN:N<0\/4611686018427387903<N
  ·refine⟨1,[],(.inl ⟨rfl,rfl,ZAw ZB⟩),λA c w _=>ZSY w p N A n c hN,λA c w _=>?_⟩;by_cases hp:p<0\/32<=p
   ·exact ZFQ w 1 p N A n c ZB ZB hp
   ·exact ZRL w p N A n c ZB ZB hN
  ·by_cases hp:p<0\/32<=p
   ·exact⟨1,[],(.inl ⟨rfl,rfl,ZAw ZB⟩),λA c w _=>ZLb w p N A n c 1 rfl ZB ZB (λw=>ZD7 p A n c w hp),λA c w _=>ZFQ w 1 p N A n c ZB ZB hp⟩
   ·by_cases h2:255<n
    ·exact⟨2,[],(.inl ⟨rfl,rfl,ZAw ZB⟩),λA c w _=>ZLb w p N A n c 2 rfl ZB ZB (λw=>ZC8 p A n c w ZB ZB h2),λA c w _=>ZKY w p N A n c ZB ZB ZB ZB h2⟩
    ·obtain⟨P,rfl⟩:∃P:Nat,p=(P:Int):=⟨p.toNat,by omega⟩;obtain⟨M,rfl⟩:∃M:Nat,N=(M:Int):=⟨N.toNat,by omega⟩;have hR:ZBZ 1 P xs M:=⟨by omega,by omega,λ_=>⟨by omega,by omega⟩,λ_=>by omega,λh=>by omega⟩;refine⟨0,JN 1 P xs M,.inr ⟨rfl,P,M,λ_=>rfl,λ_=>rfl,hR,rfl⟩,λA c w hr=>ZUl w P M A n c xs hl hr ZB ZB ZB,λA c w hr=>ZOM w _ _ A n c xs _ _ rfl hr ZB ZB ZB ZB ZB (λw' bC=>ZUo w' P M A n c xs hl bC ZB ZB ZB)⟩
 ·have h24:op=2\/op=4:=by omega
  by_cases hp:p<0\/32<=p
  ·refine⟨1,[],(.inl ⟨rfl,rfl,ZAw ZB⟩),λA c w _=>?_,λA c w _=>ZFQ w _ p N A n c ZB ZB hp⟩;rcases h24 with rfl|rfl
   ·exact ZLa w p N A n c 1 rfl (λw=>ZD7 p A n c w hp)
   ·exact ZLY w p N A n c 1 rfl (λw=>ZD7 p A n c w hp)
  ·by_cases h2:255<n
   ·refine⟨2,[],(.inl ⟨rfl,rfl,ZAw ZB⟩),λA c w _=>?_,λA c w _=>ZIl w _ p N A n c ZB ZB ZB h2⟩;rcases h24 with rfl|rfl
    ·exact ZLa w p N A n c 2 rfl (λw=>ZC8 p A n c w ZB ZB h2)
    ·exact ZLY w p N A n c 2 rfl (λw=>ZC8 p A n c w ZB ZB h2)
   ·obtain⟨P,rfl⟩:∃P:Nat,p=(P:Int):=⟨p.toNat,by omega⟩;have hR:ZBZ op P xs 0:=⟨by omega,by omega,λ_=>⟨by omega,by omega⟩,λh=>by omega,λh=>by omega⟩;have hB:JN op P xs 0=op::P::xs.length::xs:=by unfold JN;rw[Zgk ZB,Zgk ZB,Zgk ZB,Zek]
    refine⟨0,JN op P xs 0,.inr ⟨rfl,P,0,λ_=>rfl,λh=>by omega,hR,rfl⟩,λA c w hr=>?_,λA c w hr=>?_⟩
    ·rw[hB];rcases h24 with rfl|rfl
     ·exact ZUk w P N A n c xs hl hr ZB ZB
     ·exact ZUi w P N A n c xs hl hr ZB ZB
    ·rw[hB];exact ZMO w _ _ N A n c xs _ _ rfl hr ZB ZB ZB ZB (λw' bC=>ZSe w' op P h24 N A n c xs hl bC ZB ZB)
theorem Ye {fn:Func}(h:fn.results=#[.cell 2 34,.tmp 3]){tmps:Array Value}{g:Nat}{a b c d:Value}{fr:Nat × Nat}(hp:tmps.getD 2 undef=.pointer (some ⟨g,0,none⟩))(hg:w.heap[g]?=some (.cells #[a,b,c,d] t fr)): (results fn tmps).run prog w=.ok (.tuple #[.agg #[a,b,c,d],tmps.getD 3 undef]) w:=Yy h tmps w g t #[a,b,c,d] fr _ hp hg underlying34 ZX0 ZC
def ZEF (op p:Nat)(xs:List Nat)(N:Nat)(w:World)(e:Ending)(w':World):Prop:=∃A c,e=.returned (.tuple #[Yp (op:Int) (p:Int) A xs.length c (N:Int),.int .i64 0])/\w'.ownsRow w.heap.size 5 1 (.slice A xs.length c) xs.length (ZT .u8 xs)/\ZM w w'
theorem ZKH(hr:Rd w A (ZT .u8 ys)):ys≠[]->∀a,A=some a->a.block<w.heap.size:=λag a ha=>by
 obtain⟨b,off,hA,hc⟩:=hr (by simpa[ZT]using ag);cases ys with
 |nil=>exact absurd rfl ag
 |cons x t=>rw[hA]at ha;injection ha with ha;subst ha;exact ZgT w _ (hc 0 _ rfl)
theorem Xn{g:Nat}(h:ZM w w2)(hg:w.heap.size<=g)(a b d e):ZM w ((((w2.setCell ⟨g,0,none⟩ a).setCell ⟨g,1,none⟩ b).setCell ⟨g,2,none⟩ d).setCell ⟨g,3,none⟩ e):=(((h.setCell (p:=⟨g,0,none⟩) hg a).setCell (p:=⟨g,1,none⟩) hg b).setCell (p:=⟨g,2,none⟩) hg d).setCell (p:=⟨g,3,none⟩) hg e
theorem ZGF (w:World)(A n c q)(hq:(q==0)=false)(ys)(hr:Rd w A (ZT .u8 ys))(hC:∀W g,Rd W A (ZT .u8 ys)->w.heap.size<=W.heap.size->w.heap.size<=g->g<W.heap.size->W.heap[g]?=some (.cells #[.int .u8 0,.int .i64 0,.slice none 0 0,.int .i64 0] 34 (0,0))->Calls prog 112 #[.slice A n c,.func (.func 158) #[] #[.pointer (some ⟨g,0,none⟩)]] W λe w'=>e=.returned (.int .i64 q)/\W.grownBy w' (some g)): Calls prog 106 #[.slice A n c] w (Xj (.tuple #[ZCs,.int .i64 q]) w):=by
 have bU:∀(fn:Fn) (first cap:Array Value) (w:World),(Instr.makeFunc fn first cap).run prog w=.ok (.func fn first cap) w:=λ_ _ _ _=>rfl;have HC:=ZA hC;have Hr:=ZA hr;clear hC hr;have ja:(q !=0)=true:=by simp[bne,hq]
 go_enter func106,ntmps106;go_wp2_with fail;refine(HC.o _ (w.heap.size+1) ((Hr.o.alloc _).alloc _) (by simp;omega) ZB ZXz (Zi _ _ ZXz)).mono ?_;rintro e w2 ⟨rfl,hG⟩;have K:=ZA (Zl (ZQ (ZV w _) _) hG ZB);have hx:=Yr (((ZM.refl w).alloc _).alloc _) hG ZB;clear hG;have k0:=ZE K.o 0;have k1:=ZE K.o 1;have k2:=ZE K.o 2;have k3:=ZE K.o 3;have f0:=ZG K.o 0;have f1:=ZG K.o 1;have f2:=ZG K.o 2;have f3:=ZG K.o 3;go_wp2_with fail;refine Zgd (Ye rfl rfl (ZBA K.o _ _ _ _)) rfl ?_;exact⟨rfl,Xn hx (Zf6 _) _ _ _ _⟩
theorem ZKD (w:World)(A:Option Addr)(n c:Nat)(ys xs:List Nat)(op p N:Nat)(hr:Rd w A (ZT .u8 ys))(hC:∀W g,Rd W A (ZT .u8 ys)->w.heap.size<=W.heap.size->w.heap.size<=g->g<W.heap.size->W.heap[g]?=some (.cells #[.int .u8 0,.int .i64 0,.slice none 0 0,.int .i64 0] 34 (0,0))->Calls prog 112 #[.slice A n c,.func (.func 158) #[] #[.pointer (some ⟨g,0,none⟩)]] W λe w'=>∃A c,e=.returned (.int .i64 0)/\W.grownBy w' (some g)/\w'.heap[g]?=some (.cells #[.int .u8 op,.int .i64 p,.slice A xs.length c,.int .i64 N] 34 (0,0))/\w'.ownsRow W.heap.size 5 1 (.slice A xs.length c) xs.length (ZT .u8 xs)): Calls prog 106 #[.slice A n c] w (ZEF op p xs N w):=by
 have bU:∀(fn:Fn) (first cap:Array Value) (w:World),(Instr.makeFunc fn first cap).run prog w=.ok (.func fn first cap) w:=λ_ _ _ _=>rfl;have HC:=ZA hC;have Hr:=ZA hr;clear hC hr;go_enter func106,ntmps106;go_wp2_with fail;refine(HC.o _ (w.heap.size+1) ((Hr.o.alloc _).alloc _) (by simp;omega) ZB ZXz (Zi _ _ ZXz)).mono ?_;rintro e w2 ⟨A1,c1,rfl,hG,hc,ho⟩;have K:=ZA (Zl (ZQ (ZV w _) _) hG ZB);have hx:=Yr (((ZM.refl w).alloc _).alloc _) hG ZB;have KC:=ZA hc;have Ho:ZD (w2.ownsRow (w.heap.size+1) 5 1 (.slice A1 xs.length c1) xs.length (ZT .u8 xs)):=Zj ho ZXz;clear hG hc ho;have k0:=ZE K.o 0;have k1:=ZE K.o 1;have k2:=ZE K.o 2;have k3:=ZE K.o 3;have f0:=ZG K.o 0;have f1:=ZG K.o 1;have f2:=ZG K.o 2;have f3:=ZG K.o 3;have c0:=ZE KC.out 0;have c1:=ZE KC.out 1;have c2:=ZE KC.out 2;have c3:=ZE KC.out 3;go_wp2_with fail;refine Zgd (Ye rfl rfl (ZBA K.o _ _ _ _)) rfl ?_;exact⟨A1,_,rfl,ZAg Ho.o ZB _ _ _ _,Xn hx (Zf6 _) _ _ _ _⟩
theorem ZHa (w A n c)(ys xs:List Nat)(op p N)(hl:ys.length=n)(hn:n<=4096)(aI:n<=c)(hb:∀x ∈ ys,x<256)(hr:Rd w A (ZT .u8 ys))(hB:ZBK ys op p xs N []): Calls prog 106 #[.slice A n c] w (ZEF op p xs N w):=by
 refine ZKD w A n c ys xs op p N hr λW g hR aG dq gL hc=>?_;exact ZNN W A n c g 34 (λA c=>#[.int .u8 op,.int .i64 p,.slice A xs.length c,.int .i64 N]) ys xs hl hn aI hR gL w.heap.size aG (ZKH hr) λW' r hI iG fW px=>ZV2 W' r w.heap.size g ys op p N xs [] ZB hb hB hI dq ZB ZB (fW.trans hc)
theorem ZFB (w A n c)(ys:List Nat)(hl:ys.length=n)(hn:n<=4096)(aI:n<=c)(hb:∀x ∈ ys,x<256)(hr:Rd w A (ZT .u8 ys))(cd:¬ZIT ys): Calls prog 106 #[.slice A n c] w (Xj (.tuple #[ZCs,.int .i64 3]) w):=by
 refine ZGF w A n c 3 rfl ys hr λW g hR aG dq gL hc=>?_;by_cases hB:∃op p xs N rest,ZBK ys op p xs N rest
 ·obtain⟨op,p,xs,N,rest,hB⟩:=hB;have dL:rest≠[]:=by rintro rfl;exact cd (ZFW.2 ⟨op,p,xs,N,hB⟩)
  exact ZNM W A n c g 34 (λA c=>#[.int .u8 op,.int .i64 p,.slice A xs.length c,.int .i64 N]) ys xs rest dL hl hn aI hR gL w.heap.size aG (ZKH hr) λW' r hI iG fW px=>ZV2 W' r w.heap.size g ys op p N xs rest ZB hb hB hI dq ZB ZB (fW.trans hc)
 ·exact ZLf W A n c g ys hl hn aI hR gL w.heap.size aG (ZKH hr) λW' r hI iG fW px=>ZMh W' r w.heap.size g ys ZB hb ZB hB hI
theorem ZKC (w A n c ys)(hr:Rd w A (ZT .u8 ys))(hn:4096<n): Calls prog 106 #[.slice A n c] w (Xj (.tuple #[ZCs,.int .i64 2]) w):=by
 refine ZGF w A n c 2 rfl ys hr λW g hR aG dq gL hc=>?_;exact(ZP6 W A n c _ hn).mono λe w' ⟨he,hx⟩=>⟨he,YL hx _⟩
def ZWs (w:World)(A:Option Addr)(cR:List (List Nat)):Prop:=∃vs:List Value,vs.length=cR.length/\Rd w A vs/\∀(i:Nat) (ps:List Nat),cR[i]?=some ps->∃(Ai:Option Addr) (ci:Nat),vs[i]?=some (Value.slice Ai ps.length ci)/\ps.length<=ci/\Rd w Ai (ZT .u8 ps)
theorem PL.rd{base:Nat}{cR:List (List Nat)}(h:PL w base A n c cR):ZWs w A cR:=by
 obtain⟨hl,vs,gs,ho,_,_,_,aU⟩:=h;refine⟨vs,by rw[hl];have:=ho.1;omega,Rd.of_own ho,λi ps hi=>?_⟩;obtain⟨g,ci,_,h2,h3⟩:=aU i ps hi;exact⟨_,ci,h2,YR h3,Rd.of_own h3⟩
theorem ZWs.at_{cR:List (List Nat)}(h:ZWs w A cR){ps:List Nat}(hk:cR[k]?=some ps): ∃b off Ai ci,A=some ⟨b,off,none⟩/\w.cell? ⟨b,off+k,none⟩=some (.slice Ai ps.length ci)/\ps.length<=ci/\Rd w Ai (ZT .u8 ps):=by
 obtain⟨vs,hl,hr,aU⟩:=h;obtain⟨Ai,ci,h1,h2,h3⟩:=aU k ps hk;obtain⟨b,off,hA,hc⟩:=hr (by intro e;rw[e]at h1;simp at h1);exact⟨b,off,Ai,ci,hA,hc k _ h1,h2,h3⟩
section
open Go.ChangeShapes Go.WideShapes Go.ChangeAt
def ZPX (w:World)(e:Ending)(w':World):Prop:=e=.returned (.bool true)/\ZM w w'
theorem ZO6(h:ZM w w'):ZPX w (.returned (.bool true)) w':=⟨rfl,h⟩
def ZCd:IntKind->Bool
 |.u8|.u16|.u32|.u64=>true
 |_=>false
section
variable {H:Type} {enc:TypeId × Value->H} {P:Program}
theorem ZGG{a:Addr}{vs:List Value}(hc:∀i u,vs[i]?=some u->w.cell? (a.add i)=some u):Rd w (some a) vs:=by
 intro ag;obtain⟨b,off,spot⟩:=a;have h0:∃u,vs[0]?=some u:=by
  cases vs with
  |nil=>exact absurd rfl ag
  |cons v vs=>exact⟨v,rfl⟩
 obtain⟨u,hu⟩:=h0;have bq:=hc 0 u hu;have sl:spot=none:=by simpa[Addr.add]using World.cell?_spot bq
 subst sl;refine⟨b,off,rfl,λj u hu=>?_⟩;have:=hc j u hu
 rwa [ZeS]at this
def ZKq (d:DataW H)(len cap:Nat):Prop:=(d=.nil/\len=0/\cap=0)\/∃es sp:List (DataW H),d=.slice es sp/\es.length=len/\es.length+sp.length=cap
theorem ZNb{k:IntKind}{a:Option Addr}{d:DataW H}{p:List MemPlace}(ht:P.underlying t=some (.slice e))(he:P.underlying e=some (.int k))(hc:P.cellsOf e=1)(h:DataW.Trod enc P W 0 (λ_=>true) true t (.slice a len cap) d p): ∃zs:List Int,zs.length=len/\(∀z ∈ zs,(Lit.int k z).wf=true)/\Rd W a (zs.map (Value.int k))/\len<=cap/\cap<=maxLen/\ZKq d len cap:=by
 obtain⟨fuel,hf⟩:=h;rcases open_ints ht he hc hf with⟨cF,hx⟩|⟨x,l,c,zs,cF,_,hl,hm,hz,hx,aq,hwz⟩
 ·simp[Value.cells]at cF;obtain⟨rfl,rfl,rfl⟩:=cF;simp only[Prod.mk.injEq]at hx;exact⟨[],rfl,by simp,Rd.nil _ _,Zf6 _,ZgR _,.inl ⟨hx.1,rfl,rfl⟩⟩
 ·simp[Value.cells]at cF;obtain⟨rfl,rfl,rfl⟩:=cF;simp only[Prod.mk.injEq]at hx;simp only[if_true]at hz;have hz:zs.length=cap:=hz;refine⟨zs.take len,by simp;omega,λz hz=>hwz z (ZfX hz),?_,hl,hm,.inr ⟨_,_,hx.1,by simp[lits];omega,by simp[lits];omega⟩⟩;refine ZGG λi u hu=>?_;rw[Ze6]at hu;cases hi:(zs.take len)[i]? with
  |none=>rw[hi]at hu;cases hu
  |some z=>
   rw[hi]at hu;injection hu with hu;subst hu;have eG:=(Ze5.1 hi).1;have xv:i<zs.length:=by simp at eG;omega
   rw[aq i xv];rw[ZfB]at hi
   split at hi
   ·rw[Zez,hi];rfl
   ·cases hi
theorem ZQH{k:IntKind}{a:Option Addr}{d:DataW H}{p:List MemPlace}(ht:P.underlying t=some (.slice e))(he:P.underlying e=some (.int k))(hc:P.cellsOf e=1)(hk:ZCd k=true)(h:DataW.Trod enc P W 0 (λ_=>true) true t (.slice a len cap) d p): ∃xs:List Nat,xs.length=len/\(∀x ∈ xs,x<2 ^ k.bits)/\Rd W a (ZT k xs)/\len<=cap/\cap<=maxLen/\ZKq d len cap:=by
 obtain⟨zs,hl,hw,hr,h1,h2,h3⟩:=ZNb ht he hc h;have hb:∀z ∈ zs,0<=z/\z.toNat<2 ^ k.bits:=by
  intro z hz;have:=hw z hz;cases k<;>simp[ZCd]at hk<;>simp[Lit.wf,IntKind.min,IntKind.max,IntKind.signed,IntKind.bits]at this ⊢<;>omega
 refine⟨zs.map Int.toNat,by simpa using hl,?_,?_,h1,h2,h3⟩
 ·intro x hx;obtain⟨z,hz,rfl⟩:=ZfT.1 hx;exact(hb z hz).2
 ·have e:ZT k (zs.map Int.toNat)=zs.map (Value.int k):=by
   unfold ZT;rw[List.map_map];refine List.map_congr_left λz hz=>?_;simp only[Function.comp,Zed (hb z hz).1]
  rw[e];exact hr
theorem reach_of {ts:List TypeId}{ds:List (DataW H)}(h:(DataW.weightsEach P ts ds).all (· <=reachBytes)=true){j:Nat}{t e:TypeId}{d:DataW H}{len cap:Nat}(ht:ts[j]?=some t)(hd:ds[j]?=some d)(hu:P.underlying t=some (.slice e))(hs:ZKq d len cap): cap*P.bytesOf e<=140737488351232:=by
 rcases hs with⟨_,_,rfl⟩|⟨es,sp,rfl,_,hc⟩
 ·omega
 ·have:=sized_slice h ht hd hu;rw[hc]at this;exact this
theorem nat_of {k:IntKind}{a:Int}(hk:ZCd k=true)(h:(Lit.int k a).wf=true):∃n:Nat,a=(n:Int)/\n<2 ^ k.bits:=by
 refine⟨a.toNat,?_,?_⟩
 ·cases k<;>simp[ZCd]at hk<;>simp[Lit.wf,IntKind.min,IntKind.max,IntKind.signed,IntKind.bits]at h ⊢<;>omega
 ·cases k<;>simp[ZCd]at hk<;>simp[Lit.wf,IntKind.min,IntKind.max,IntKind.signed,IntKind.bits]at h ⊢<;>omega
theorem ZN4 {a:Int}(h:(Lit.int .i64 a).wf=true): -9223372036854775808<=a/\a<=9223372036854775807:=by
 simpa[Lit.wf,IntKind.min,IntKind.max,IntKind.signed,IntKind.bits]using h
end
end
theorem ZJU {xs:List Nat}(ys)(h:Y9 xs≠0):4<=xs.length/\Y9 (xs++ys)=Y9 xs:=by
 unfold Y9 at h ⊢;by_cases h4:xs.length<4
 ·rw[Zgl h4]at h;exact absurd rfl h
 ·refine⟨by omega,?_⟩;rw[Zgk h4]at h ⊢;have e1:(xs++ys).take 4=xs.take 4:=by rw[Zfm ZB]
  have e2:¬(xs++ys).length<4:=by rw[ZfE];omega
  rw[Zgk e2,e1];by_cases h5:YG (xs.take 4)=0\/4096<YG (xs.take 4)
  ·rw[Zgl h5,Zgl h5]
  ·rw[Zgk h5]at h ⊢;rw[Zgk h5];by_cases h6:xs.length - 4<YG (xs.take 4)
   ·rw[Zgl h6]at h;exact absurd rfl h
   ·rw[Zgk h6,Zgk (by rw[ZfE];omega)]
theorem ZSl {xs:List Nat}(ys)(h:Y9 xs=2):ZA1 (xs++ys)=ZA1 xs/\JW (xs++ys)=JW xs++ys:=by
 have h1:=ZCA h;have e1:(xs++ys).take 4=xs.take 4:=by rw[Zfm ZB]
 have e2:(xs++ys).drop 4=xs.drop 4++ys:=by rw[Zeo ZB]
 unfold ZA1 JW;rw[e1,e2];have hl:(xs.drop 4).length=xs.length - 4:=by rw[ZfG]
 exact⟨by rw[Zfm ZB],by rw[Zeo ZB]⟩
theorem ZJD:∀(n:Nat) (xs ys:List Nat),xs.length<n-> ((Zp xs).2.2=true->(Zp (xs++ys)).1=(Zp xs).1/\(Zp (xs++ys)).2.2=true)/\ ((Zp xs).2.2=false->(Zp (xs++ys)).1=(Zp xs).1++(Zp ((Zp xs).2.1++ys)).1/\(Zp (xs++ys)).2=(Zp ((Zp xs).2.1++ys)).2)
 |0,_,_,h=>by omega
 |n+1,xs,ys,hn=>by
  rcases ZDd xs with h|h|h
  ·rw[ZBP h];exact⟨(λe=>by cases e),λ_=>⟨rfl,rfl⟩⟩
  ·rw[ZCl h];have h':=(ZJU (xs:=xs) ys ZB).2;rw[h]at h';rw[ZCl h'];exact⟨λ_=>⟨rfl,rfl⟩,λe=>by cases e⟩
  ·have h1:=(ZCA h).1;have h':=(ZJU (xs:=xs) ys ZB).2;rw[h]at h';obtain⟨e1,e2⟩:=ZSl ys h;rw[ZAv h,ZAv h',e1,e2];have ih:=ZJD n (JW xs) ys ZB;refine⟨λe=>?_,λe=>?_⟩
   ·obtain⟨k1,k2⟩:=ih.1 e;exact⟨by simp only[k1],k2⟩
   ·obtain⟨k1,k2⟩:=ih.2 e;refine⟨by simp only[k1,Zen],?_⟩;simp only[k2]
theorem ZBh:∀(n:Nat) (xs:List Nat),xs.length<n-> (Zp xs).1.length+(Zp xs).2.1.length<=xs.length/\(∀x ∈ (Zp xs).2.1,x ∈ xs)/\∀ps ∈ (Zp xs).1,ps.length<=4096/\∀x ∈ ps,x ∈ xs
 |0,_,h=>by omega
 |n+1,xs,hn=>by
  rcases ZDd xs with h|h|h
  ·rw[ZBP h];simp
  ·rw[ZCl h];simp
  ·have h1:=ZCA h;rw[ZAv h];obtain⟨i1,i2,i3⟩:=ZBh n (JW xs) ZB;have hm:∀x ∈ JW xs,x ∈ xs:=λx hx=>ZfV (ZfV hx);refine⟨by simp only[ZfF];omega,λx hx=>hm x (i2 x hx),λps hp=>?_⟩;rcases ZfO.1 hp with rfl|hp
   ·exact⟨by omega,λx hx=>ZfV (ZfX hx)⟩
   ·exact⟨(i3 ps hp).1,λx hx=>hm x ((i3 ps hp).2 x hx)⟩
def ZML (ws:List Nat):Int:=if (Zp ws).2.2=true then 12 else 0
def Jc (ws:List Nat):List Nat:=if (Zp ws).2.2=true then [] else (Zp ws).2.1
theorem ZGI (ws:List Nat):(Jc ws).length<=ws.length/\∀x ∈ Jc ws,x ∈ ws:=by
 obtain⟨h1,h2,_⟩:=ZBh (ws.length+1) ws ZB;unfold Jc
 split
 ·simp
 ·exact⟨by omega,h2⟩
theorem ZD2:Zp []=([],[],false):=ZBP rfl
theorem ZNV{xs:List Nat}(h:(Zp xs).2.2=false):(Zp (xs++ys)).1=(Zp xs).1++(Zp (Jc xs++ys)).1/\ZML (xs++ys)=ZML (Jc xs++ys)/\Jc (xs++ys)=Jc (Jc xs++ys)/\(Zp (xs++ys)).2.2=(Zp (Jc xs++ys)).2.2:=by
 obtain⟨h1,h2⟩:=(ZJD (xs.length+1) xs ys ZB).2 h;have e:Jc xs=(Zp xs).2.1:=by unfold Jc;rw[Zgk (by rw[h];simp)]
 rw[e];unfold ZML Jc;rw[h1,h2];exact⟨rfl,rfl,rfl,rfl⟩
theorem ZEO {P:Program}(ht:P.underlying t=some (.slice e))(hz:∀u:World,(sizeOf e).run P u=.ok 1 u){m d:Nat}(k h:Nat){hi:Int}(dy:ki=(k:Int))(sS:hi=(h:Int))(AS:h<=n)(aI:n<=c)(hm:h=m+k)(hd:c=d+k): ∃A':Option Addr,(∀u:World,(Instr.slice t (.slice A n c) (some (.int .i64 ki)) (some (.int .i64 hi)) none).run P u=.ok (.slice A' m d) u)/\ (∀(w:World) (vs:List Value),vs.length=n->Rd w A vs->Rd w A' ((vs.drop k).take m)):=Qi
theorem ZRH {al:List Nat}{r:Nat}{e:Ending}(h:ZWB al w r e w'): ∃S A n c,e=.returned (.tuple #[.slice A n c,.int .i64 (ZML al)])/\(Zp al).1.length=n/\(w.heap.size<=S/\S<=w'.heap.size)/\PL w' S A n c (Zp al).1/\Xs w' r (Jc al) (Zp al).2.2 (λb=>w.heap.size<=b/\b<S)/\w.grownBy w' (some r):=by
 obtain⟨S,A,n,c,h1,h2,h3,h4,h5⟩:=h;refine⟨S,A,n,c,?_,h2.1,h1,h2,?_,h3⟩
 ·unfold ZML;by_cases hb:(Zp al).2.2=true
  ·rw[Zgl hb];exact(h4 hb).1
  ·rw[Zgk hb];exact(h5 (by simpa using hb)).1
 ·unfold Jc;by_cases hb:(Zp al).2.2=true
  ·rw[Zgl hb,hb];exact(h4 hb).2
  ·rw[Zgk hb,show(Zp al).2.2=false by simpa using hb];exact(h5 (by simpa using hb)).2
theorem Xs.gb{r:Nat}{ws:List Nat}{cl:Bool}{S M:Zhf}(h:Xs w r ws cl S)(g:GB w w' M)(hr:¬M r)(hs:∀b,S b->¬M b):Xs w' r ws cl S:=by
 obtain⟨A,n,c,h1,h2,h3,h4,h5⟩:=h;exact⟨A,n,c,g.blk h1 hr,h2,h3,g.rd h4 (λp hp=>hs _ (h5 p hp)),h5⟩
theorem ZDa (n):(Js n).length=4:=rfl
theorem ZKQ (n):∀x ∈ Js n,x<256:=by
 intro x hx;simp only[Js,ZfO,Zfd,or_false]at hx;rcases hx with rfl|rfl|rfl|rfl<;>exact ZgG _ ZB
theorem ZSE (n ys):(Js n++ys).take 4=Js n:=by
 rw[Zfm (by rw[ZDa];omega),Zfp (by rw[ZDa];omega)]
theorem ZV0 (n ys):(Js n++ys).drop 4=ys:=by
 rw[Zeo (by rw[ZDa];omega),Zer (by rw[ZDa];omega),Zfb]
theorem ZQB (p ys:List Nat)(h0:1<=p.length)(h:p.length<=4096):Zp (Js p.length++(p++ys))=(p::(Zp ys).1,(Zp ys).2.1,(Zp ys).2.2):=by
 have hn:=ZS2 p.length ZB;have e0:(Js p.length++(p++ys)).length=4+(p.length+ys.length):=by rw[ZfE,ZDa,ZfE]
 have hh:Y9 (Js p.length++(p++ys))=2:=by
  unfold Y9;rw[e0,ZSE,hn,Zgk ZB,Zgk ZB,Zgk ZB]
 have hp:ZA1 (Js p.length++(p++ys))=p:=by
  unfold ZA1;rw[ZSE,ZV0,hn,Zfm ZB,Zfp ZB]
 have hr:JW (Js p.length++(p++ys))=ys:=by
  unfold JW;rw[ZSE,ZV0,hn,Zeo ZB,Zer ZB,Zfb]
 rw[ZAv hh,hp,hr]
abbrev ZOt (e:Int)(g:Bool)(l t s n:Int):Value:=.agg #[.int .i64 e,.bool g,.int .i64 l,.int .i64 t,.int .i64 s,.int .i64 n]
def ZCc (ns:List Nat):List Nat:=ns.flatMap λn=>Zm n 8
def ZER (g:Bool):Nat:=if g then 1 else 0
def ZIc (e:Nat)(g:Bool)(ns:List Nat):List Nat:=e::ZER g::ZCc ns
theorem ZFd (ns:List Nat):(ZCc ns).length=8*ns.length:=by
 induction ns with
 |nil=>rfl
 |cons n ns ih=>show(Zm n 8++ZCc ns).length=_;rw[ZfE,Z4,ih,ZfF];omega
theorem ZG7 (ns n):ZCc (ns++[n])=ZCc ns++Zm n 8:=by simp[ZCc,Zew]
theorem ZDT (e g)(ns:List Nat):(ZIc e g ns).length=8*ns.length+2:=by
 show(e::ZER g::ZCc ns).length=_;rw[ZfF,ZfF,ZFd]
def okN (n:Int):Prop:=0<=n/\n<=4611686018427387903
def ZF5 (L:List Int)(k:Nat)(ns:List Nat):Prop:=ns.length=k/\ns.map (λ(x:Nat)=>(x:Int))=L.take k/\∀x ∈ ns,x<=4611686018427387903
theorem ZGL {L:List Int}{ns:List Nat}{v:Int}(h:ZF5 L k ns)(hv:L[k]?=some v)(h1:0<=v)(h2:v<=4611686018427387903):ZF5 L (k+1) (ns++[v.toNat]):=by
 obtain⟨a,b,c⟩:=h;refine⟨by simp[a],?_,?_⟩
 ·rw[List.map_append,b,Zv hv];simp only[ZfM,List.map_nil];rw[Zed h1]
 ·intro x hx;rcases ZfN.1 hx with hx|hx
  ·exact c x hx
  ·rw[Zfa.1 hx];omega
def ZDr (e:Int)(g:Bool)(L:List Int)(q:Int)(B:List Nat):Prop:=(q=1/\B=[]/\¬(0<=e/\e<=16/\∀x ∈ L,okN x))\/(q=0/\0<=e/\e<=16/\∃ns,ZF5 L 4 ns/\B=ZIc e.toNat g ns)
def ZOr (e:Int)(g:Bool)(L:List Int)(w:World)(x:Ending)(w':World):Prop:=∃q B,ZDr e g L q B/\Xc B q w x w'
theorem ZFz{a b:World}{row rN:Option Nat}(h:w.grownBy a row)(k:a.grownBy b rN)(hr:∀q,rN=some q->row=some q\/w.heap.size<=q):w.grownBy b row:=
 ⟨k.os.trans h.os,k.tape.trans h.tape,k.output.trans h.output,Zf8 h.size k.size,λi hi ag=>(k.block i (ZgB hi h.size) (λe=>by
  rcases hr i e.symm with h'|h'
  ·exact ag h'.symm
  ·omega)).trans (h.block i hi ag)⟩
theorem ZK3 (w:World)(base:Nat)(A:Option Addr)(m c:Nat)(xs:List Nat)(v:Nat)(hl:xs.length=m)(ho:w.ownsRow base 5 1 (.slice A m c) m (ZT .u8 xs))(mB:base<=w.heap.size)(hv:v<9223372036854775808)(hm:m<=1000000): Calls prog 108 #[.slice A m c,.int .i64 v] w λe w'=>∃A' c',e=.returned (.slice A' (m+8) c')/\w'.ownsRow base 5 1 (.slice A' (m+8) c') (m+8) (ZT .u8 (xs++Zm v 8))/\w.grownBy w' (Value.slice A m c).ownBlock/\
   ∀q,(Value.slice A' (m+8) c').ownBlock=some q->(Value.slice A m c).ownBlock=some q\/w.heap.size<=q:=by
 obtain⟨V1,V2,V3,V4,V5,V6,V7,V8⟩:=QA;exact Qh
theorem ZFP{a:World}(h:w.grownBy a none):ZM w a:=⟨h.os,h.tape,h.output,h.size,λi hi=>h.block i hi ZXz⟩
theorem QO {p:Prop}(h:p:=by
 have hw:IntKind.u8.wrap (e:Int)=(e:Int):=by rw[Zeg];omega
 go_enter func152,ntmps152;go_wp2_with fail;first
 |obtain -:=V1;go_loopg [4,33] 4 (λx v4 vL wr=>∃(k:Nat) (A:Option Addr) (c:Nat) (ns:List Nat),k<=4/\x=4 - k/\v4=.slice A (2+8*k) c/\vL=.int .i64 k/\ZF5 [l,t,s,n] k ns/\w.grownBy wr none/\
   wr.heap[w.heap.size+1+1]?=some (.cells #[.int .i64 l,.int .i64 t,.int .i64 s,.int .i64 n] 2 (0,0))/\(Value.slice A (2+8*k) c).ownBlock≠some (w.heap.size+1+1)/\
   wr.ownsRow (w.heap.size+1) 5 1 (.slice A (2+8*k) c) (2+8*k) (ZT .u8 (e::ZER true::ZCc ns)))
 |go_loopg [4,33] 4 (λx v4 vL wr=>∃(k:Nat) (A:Option Addr) (c:Nat) (ns:List Nat),k<=4/\x=4 - k/\v4=.slice A (2+8*k) c/\vL=.int .i64 k/\ZF5 [l,t,s,n] k ns/\w.grownBy wr none/\
   wr.heap[w.heap.size+1+1]?=some (.cells #[.int .i64 l,.int .i64 t,.int .i64 s,.int .i64 n] 2 (0,0))/\(Value.slice A (2+8*k) c).ownBlock≠some (w.heap.size+1+1)/\
   wr.ownsRow (w.heap.size+1) 5 1 (.slice A (2+8*k) c) (2+8*k) (ZT .u8 (e::ZER false::ZCc ns)))
 case atStart=>
  refine⟨0,some ⟨w.heap.size+1,0,none⟩,2,[],by omega,rfl,rfl,rfl,⟨rfl,rfl,by simp⟩,Zq (Zq (Zq (ZgX w none) _) _) _,Zi _ _ ZXz,by simp[Value.ownBlock],?_⟩;first|(obtain -:=V2;exact ZKL (ZJF _ [.int .u8 e,.int .u8 1] 5 1 2 rfl (by unfold maxLen;omega) ZXz (Zf6 _)) _)|exact ZKL (ZJF _ [.int .u8 e,.int .u8 0] 5 1 2 rfl (by unfold maxLen;omega) ZXz (Zf6 _)) _
 case round=>
  obtain⟨k,A,c,ns,hk,rfl,rfl,rfl,hH,hG,hL,ag,ho⟩:=hrel;obtain⟨HH,HG,HL,Hne,Ho⟩:=ZBR hH hG hL ag ho;clear hH hG hL ag ho;by_cases ak:k<4
  ·obtain⟨v,hv⟩:∃v:Int,([l,t,s,n]:List Int)[k]?=some v:=⟨_,Ze4 ak⟩;have mA:wr.cell? ⟨w.heap.size+1+1,k,none⟩=some (.int .i64 v):=by
    rw[ZE HL.o k];have lQ:k=0\/k=1\/k=2\/k=3:=by omega
    rcases lQ with rfl|rfl|rfl|rfl<;>(simp at hv;subst hv;rfl)
   have Hv:=ZA hv;clear hv;first
   |obtain -:=V3;have ah:(e::ZER true::ZCc ns).length=2+8*k:=by
     rw[ZfF,ZfF,ZFd,HH.o.1];omega
   |have ah:(e::ZER false::ZCc ns).length=2+8*k:=by
     rw[ZfF,ZfF,ZFd,HH.o.1];omega
   have dI:=ZA ah;clear ah;have cU:w.heap.size+1+1<wr.heap.size:=ZX HL.o;by_cases aP:v<0\/4611686018427387903<v
   ·have lx:=ZA aP;go_wp2_with fail;refine(ZH4 v _ aP).mono ?_;rintro e' w1 ⟨rfl,rfl⟩;go_wp2_with fail;go_ret2;refine⟨1,[],.inl ⟨rfl,rfl,λh=>?_⟩,YZ ⟨rfl,ZFP HG.o⟩⟩;have:=h.2.2 v (ZfU Hv.o);have:=lx.o;unfold okN at*;omega
   ·obtain⟨V,rfl⟩:∃V:Nat,v=(V:Int):=⟨v.toNat,by omega⟩;have hV:V<=4611686018427387903:=by omega
    clear aP;have C:=ZA (ZK3 wr (w.heap.size+1) A (2+8*k) c _ V dI.o Ho.o ZB ZB ZB);go_wp2_with fail;refine(ZGx (V:Int) _ ZB ZB).mono ?_;rintro e' w1 ⟨rfl,rfl⟩;go_wp2_with fail;refine C.o.mono ?_;rintro e' w1 ⟨A1,c1,rfl,iL,bE,eB⟩;obtain⟨yS,oh,yR⟩:=Z8 iL bE eB;clear iL bE eB C;go_wp2_with fail;go_roundg (4 - (k+1));case measure=>omega
    case rel=>
     have hH:=ZGL HH.o Hv.o ZB ZB;rw[Zec]at hH;refine⟨k+1,A1,c1,ns++[V],by omega,rfl,by rw[show 2+8*(k+1)=2+8*k+8 by omega],by go_num,hH,?_,?_,?_,?_⟩
     ·exact ZFz HG.o oh.o (λq hq=>.inr (by have:=Yw Ho.o q hq;omega))
     ·exact(oh.o.block _ (ZX HL.o) (λe=>Hne.o e.symm)).trans HL.o
     ·rw[show 2+8*(k+1)=2+8*k+8 by omega];intro h;rcases yR.o _ h with h'|h'
      ·exact Hne.o h'
      ·omega
     ·rw[ZG7,show 2+8*(k+1)=2+8*k+8 by omega];exact yS.o
  ·obtain rfl:k=4:=by omega
   go_wp2_with fail;go_ret2;first|(obtain -:=V4;refine⟨0,ZIc e true ns,.inr ⟨rfl,by omega,by omega,ns,HH.o,rfl⟩,?_⟩)|refine⟨0,ZIc e false ns,.inr ⟨rfl,by omega,by omega,ns,HH.o,rfl⟩,?_⟩
   exact Jq (by rw[ZDT,HH.o.1]) (Zj Ho.o ZB) (ZFP HG.o)):p:=h
theorem ZLd (w:World)(e:Nat)(l t s n:Int)(he:e<=16):Calls prog 152 #[ZOt (e:Int) false l t s n] w (ZOr (e:Int) false [l,t,s,n] w):=QO
theorem ZNJ (w:World)(e:Nat)(l t s n:Int)(he:e<=16):Calls prog 152 #[ZOt (e:Int) true l t s n] w (ZOr (e:Int) true [l,t,s,n] w):=by
 obtain⟨V1,V2,V3,V4⟩:=QA;exact QO
theorem ZE7 {b:Nat}:∀(ys:List Value) (w:World) (k:Nat) (cs:Array Value),w.heap[b]?=some (.cells cs t (0,0))->k+ys.length<=cs.size-> ∃gt,(w.setCells b k ys).heap[b]?=some (.cells gt t (0,0))/\gt.size=cs.size/\(∀j,j<ys.length->gt[k+j]?=ys[j]?)/\(∀i,i<k\/k+ys.length<=i->gt[i]?=cs[i]?)/\GB w (w.setCells b k ys) (· =b)
 |[],w,k,cs,h,_=>⟨cs,h,rfl,λj hj=>absurd hj (ZgL j),λ_ _=>rfl,GB.refl w _⟩
 |y::ys,w,k,cs,h,hk=>by
  simp only[ZfF]at hk;obtain⟨gt,h1,h2,h3,h4,h5⟩:=ZE7 ys (w.setCell ⟨b,k,none⟩ y) (k+1) _ (ZR h k y) (by simpa using(by omega:k+1+ys.length<=cs.size));refine⟨gt,h1,by simpa using h2,λj hj=>?_,λi hi=>?_,((GB.refl w (· =b)).set b k y (.inl rfl)).trans h5 (λi e=>.inl e)⟩
  ·cases j with
   |zero=>
    rw[Zf2,h4 k (.inl ZB),ZeV ZB];rfl
   |succ j=>
    rw[show k+(j+1)=k+1+j by omega,h3 j (by simp only[ZfF]at hj;omega)];rfl
  ·simp only[ZfF]at hi;rw[h4 i ZB,ZeU ZB]
def ZBz (w:World)(s:Nat)(ob:Option Nat)(v:Value)(n:Nat)(xs:List Value):Prop:=∃(ao:Option Addr) (cap:Nat),v=.slice ao n cap/\n<=cap/\cap<=maxLen/\xs.length=n*s/\ ((cap=0/\ob=none)\/∃b off cs t,ob=some b/\ao=some ⟨b,off,none⟩/\w.heap[b]?=some (.cells cs t (0,0))/\off+cap*s<=cs.size/\∀j u,xs[j]?=some u->cs[off+j]?=some u)
theorem ZBz.gb{S:Zhf}(h:ZBz w s ob v n xs)(g:GB w w' S)(hs:∀b,ob=some b->¬S b):ZBz w' s ob v n xs:=by
 obtain⟨ao,cap,h1,h2,h3,h4,h5⟩:=h;refine⟨ao,cap,h1,h2,h3,h4,h5.imp id ?_⟩;rintro⟨b,off,cs,t,e1,e2,e3,e4,e5⟩;exact⟨b,off,cs,t,e1,e2,g.blk e3 (hs b e1),e4,e5⟩
theorem ZBz.ext(h:ZBz w s ob v n xs)(x:ZM w w'):ZBz w' s ob v n xs:=h.gb (GB.of_ext (λ_=>False) x) (λ_ _=>id)
theorem ZBz.lt(h:ZBz w s ob v n xs):∀b,ob=some b->b<w.heap.size:=by
 obtain⟨ao,cap,h1,h2,h3,h4,h5⟩:=h;rcases h5 with⟨_,e⟩|⟨b,off,cs,t,e1,_,e3,_⟩
 ·intro b e';rw[e]at e';cases e'
 ·intro b' e';rw[e1]at e';injection e' with e';rw[<-e'];exact ZX e3
theorem ZLn (w s):ZBz w s none (.slice none 0 0) 0 []:=⟨none,0,rfl,Zf6 _,ZgR _,by simp,.inl ⟨rfl,rfl⟩⟩
theorem ZBz.shape(h:ZBz w s ob v n xs):∃ao cap,v=.slice ao n cap/\n<=cap/\cap<=maxLen/\Rd w ao xs:=by
 obtain⟨ao,cap,h1,h2,h3,h4,h5⟩:=h;refine⟨ao,cap,h1,h2,h3,λag=>?_⟩;rcases h5 with⟨e0,_⟩|⟨b,off,cs,t,e1,e2,e3,e4,e5⟩
 ·obtain rfl:n=0:=by omega
  rw[ZgS]at h4;exact absurd (Zet h4) ag
 ·exact⟨b,off,e2,λj u hu=>(ZE e3 _).trans (e5 j u hu)⟩
theorem ZBz.drop {P:Program}(ht:P.underlying t=some (.slice e))(hz:∀u:World,(sizeOf e).run P u=.ok s u){ao:Option Addr}(h:ZBz w s ob (.slice ao n cap) n xs)(k)(hk:k<=n)(dy:ki=(k:Int)): ∃v' du,(∀u:World,(Instr.slice t (.slice ao n cap) (some (.int .i64 ki)) none none).run P u=.ok v' u)/\ZBz w s du v' (n - k) (xs.drop (k*s))/\∀b,du=some b->ob=some b:=by
 obtain⟨BH,tJ,h1,h2,h3,h4,h5⟩:=h;injection h1 with h1 _ rn;subst h1 rn;subst dy;have he:P.elem t=e:=by simp[Program.elem,ht]
 have aC:∀u:World,(Instr.slice t (.slice ao n cap) (some (.int .i64 k)) none none).run P u=.ok (.slice (if cap=k then ao else ao.map (·.add (k*s))) (n - k) (cap - k)) u:=λu=>by
  rw[run_slice_l (P:=P) u t ao n cap (by rw[he];exact ht) .i64 (k:Int) ZB ZB,he,hz];simp only[Result.andThen,sliced,Zec]
 have ah:(xs.drop (k*s)).length=(n - k)*s:=by rw[ZfG,h4,Nat.sub_mul]
 by_cases jS:cap=k
 ·refine⟨_,none,aC,⟨_,cap - k,rfl,by omega,by omega,ah,.inl ⟨by omega,rfl⟩⟩,λb e=>by cases e⟩
 ·rcases h5 with⟨e0,_⟩|⟨b,off,cs,tt,e1,e2,e3,e4,e5⟩
  ·omega
  ·refine⟨_,some b,aC,⟨_,cap - k,rfl,by omega,by omega,ah,.inr ⟨b,off+k*s,cs,tt,rfl,by rw[Zgk jS,e2];simp[ZeS],e3,?_,λj u hu=>?_⟩⟩,λb' e=>by rw[e1];exact e⟩
   ·have:k*s+(cap - k)*s=cap*s:=by rw[<-Zfz];congr 1;omega
    omega
   ·rw[Zfv];exact e5 (k*s+j) u (by rw[<-hu,Ze3])
theorem ZST {P:Program}(w:World)(t ty e)(i:TypeInfo)(z:Value)(ht:P.underlying t=some (.slice e))(hi:P.info? e=some i)(hz:i.zero=some z)(jq:z.cells.size=i.size)(hb:i.bytes<=1000)(h:ZBz w i.size ob v n xs)(hn:n<=1000000)(a:Addr)(c)(news:List Value)(hl:news.length=i.size)(hx:∀j u,news[j]?=some u->w.cell? (a.add j)=some u)(aK:∀u ∈ news,u.oneCell'=true): ∃v' w' du,(Builtin.append_ #[t,t] ty #[v,.slice (some a) 1 c]).run P w=.ok v' w'/\ZBz w' i.size du v' (n+1) (xs++news)/\GB w w' (λb=>ob=some b)/\(du=ob\/du=some w.heap.size):=by
 obtain⟨ao,cap,rfl,h2,h3,h4,h5⟩:=h;have dJ:Src P i.size t (.slice (some a) 1 c) 1 news w:=Src.ofSlice (w:=w) ht a 1 c news (by rw[ZgN];exact hl) hx aK;have jc:(n+1)*i.size=n*i.size+i.size:=by rw[Zfz,ZgN]
 by_cases dK:n+1<=cap
 ·rcases h5 with⟨e0,_⟩|⟨b,off,cs,tt,e1,e2,e3,e4,e5⟩
  ·omega
  ·subst e2;have eW:(n+1)*i.size<=cap*i.size:=ZgI _ dK
   have aC:=run_append_room_src (P:=P) w t t ty e i ht hi b off n cap (.slice (some a) 1 c) 1 news dJ dK (λj hj=>by
    rw[ZE e3,Array.getElem?_eq_getElem ZB];rfl) (λj hj=>ZG e3 _)
   obtain⟨gt,k1,k2,k3,k4,k5⟩:=ZE7 (b:=b) news w (off+n*i.size) cs e3 ZB;refine⟨_,_,ob,aC,?_,k5.more (λi _ e=>e ▸ e1),.inl rfl⟩;refine⟨_,cap,rfl,dK,h3,by rw[ZfE,h4,hl,jc],.inr ⟨b,off,gt,tt,e1,rfl,k1,by omega,λj u hu=>?_⟩⟩;by_cases hj:j<n*i.size
   ·rw[Ze0 ZB]at hu;rw[k4 _ (.inl ZB)];exact e5 j u hu
   ·rw[Ze1 ZB,h4]at hu;have jy:=(Ze5.1 hu).1;have:=k3 (j - n*i.size) jy;rw[show off+n*i.size+(j - n*i.size)=off+j by omega]at this;rw[this];exact hu
 ·have iJ:(Builtin.firstCells i.size n (.slice ao n cap)).run P w.drew=.ok xs.toArray w.drew:=by
   rcases h5 with⟨e0,_⟩|⟨b,off,cs,tt,e1,e2,e3,e4,e5⟩
   ·obtain rfl:n=0:=by omega
    rw[ZgS]at h4;obtain rfl:xs=[]:=Zet h4;cases ao with
    |none=>exact run_firstCells_none w.drew i.size 0 0 cap
    |some a'=>exact Zgs w.drew i.size 0 a' 0 cap [] ZXz (by intro _ _ h';simp at h')
   ·subst e2;refine Zgs w.drew i.size n ⟨b,off,none⟩ n cap xs h4 (λj u hu=>?_);rw[ZeS];exact(ZE e3 _).trans (e5 j u hu)
  have hg:cap<n+1:=by omega
  have aC:=run_append_grow_src (P:=P) w t t ty e i z ht hi hz ao n cap xs iJ (.slice (some a) 1 c) 1 news dJ hg ZB (growslice_fits hg (Zf8 (Nat.mul_le_mul (show n+1<=1000001 by omega) hb) (by decide)));have jR:=grownCap_ge w (n+1) cap e;have eW:=grownCap_le_maxLen w (n+1) cap e (by unfold maxLen;omega);obtain⟨GC,hGC⟩:=ZX3 (grownCap w (n+1) cap e);rw[hGC]at aC jR eW;refine⟨_,_,some w.heap.size,aC,⟨_,_,rfl,jR,eW,by rw[ZfE,h4,hl,jc],.inr ⟨w.heap.size,0,_,e,rfl,rfl,ZV w.drew _,?_,λj u hu=>?_⟩⟩,((GB.refl w _).drew).alloc _,.inr rfl⟩
  ·rw[Array.size_append,size_zeroCells,jq,Zfk,ZfE,h4,hl];have:(GC - (n+1))*i.size+(n+1)*i.size=GC*i.size:=by rw[<-Zfz];congr 1;omega
   omega
  ·rw[ZgQ,Array.getElem?_append_left (by have:=(Ze5.1 hu).1;simpa using this),ZfC];exact hu
theorem ZSj (p:YK)(w)(h:Yt p):Calls prog 123 #[.agg #[.int .u8 (p.kind:Int),.int .i64 p.T,.int .i64 p.Tau,.int .i64 p.perm]] w (Xj (.bool true) w):=by
 obtain⟨kind,T,Tau,perm⟩:=p;rcases h with⟨h0,h1,h2,h3,h4⟩|⟨h0,h1,h2⟩
 ·dsimp only at h0 h1 h2 h3 h4 ⊢
  subst h0;have RC:=ZA (λw=>ZFo T Tau w h1 h2 h3 h4);clear h1 h2 h3 h4;go_enter func123,ntmps123;go_wp2_with fail;refine(RC.o _).mono ?_;rintro e w1 ⟨rfl,hx⟩;have HX:=ZA hx;clear hx;go_wp2_with fail;go_ret;exact⟨rfl,((ZM.refl w).alloc _).trans HX.o⟩
 ·dsimp only at h0 h1 h2 ⊢
  subst h0;go_enter func123,ntmps123;go_wp2_with fail;go_ret;exact⟨rfl,(ZM.refl w).alloc _⟩
theorem ZYL {p:Prop}(h:p:=by
 first
 |obtain -:=V1;have RC:=ZA (λw=>ZFo T Tau w h1 h2 h3 h4);obtain⟨W,hW,xW,-⟩:=Za w (.cells #[.int .i64 T,.int .i64 Tau] 78);have k0:W.heap[w.heap.size]?=some (.cells #[.int .i64 T,.int .i64 Tau] 78 (0,0)):=by rw[<-hW];exact ZV w _
  have HR:=ZA (hr.ext xW);obtain⟨HK,HL,K0,XW,HW⟩:=ZBR hk hl k0 xW hW;clear h1 h2 h3 h4 hr hk hl hW xW k0;go_enter func52,ntmps52;go_upto_region 1 with fail;(try rw[HW.o]);clear HW
 |obtain⟨Hr,HP,Hn⟩:=Z8 hr hP hn;have cX:¬(32:Int)<(n:Int):=by omega
  clear hr hP hn;go_enter func78,ntmps78
 go_wp2_with fail;first|(obtain -:=V2;go_loopw [9] (λv9 wr=>∃i:Nat,v9=.int .i64 i/\i<=n/\ZM W wr) (λv9 _=>n - (intOf v9).toNat);case atStart=>exact⟨0,rfl,ZgR _,ZM.refl W⟩)|(go_loopw [10] (λoE wr=>∃i:Nat,oE=.int .i64 i/\i<=n/\ZM w wr) (λoE _=>n - (intOf oE).toNat);case atStart=>exact⟨0,rfl,ZgR _,ZM.refl w⟩)
 case round=>
  obtain⟨i,rfl,hi,hx⟩:=hrel;have HX:=ZA hx;clear hx;by_cases ak:i<n
  ·have eF:(i:Int)<(n:Int):=by omega
   first
   |obtain -:=V3;obtain⟨b,off,hA,-,d0⟩:=(HR.o.ext HX.o).atI (j:=i) (by rw[HL.o];exact ak);have hm:l.getD i 0 ∈ l:=by
     rw[ZDY];exact⟨i,by rw[HL.o];exact ak,rfl⟩
    have hk:=HK.o _ hm;obtain⟨t,ht⟩:=ZX3 (l.getD i 0);rw[ht]at d0 hk;have TF:=ZA (ZA7 t wr hk.1 hk.2)
   |have e:=λj (hj:j<4)=>ZB3 P i j _ (ZBO (by rw[Hn.o];exact ak)) hj;obtain⟨b,off,hA,hc⟩:=(Hr.o.ext HX.o) (λe0=>by have:=e 0 ZB;rw[e0]at this;simp[ZC5]at this);have bz:Zf P i ∈ P:=ZfU (ZBO (by rw[Hn.o];exact ak));obtain⟨p,Hp⟩:=ZX2 (Zf P i);rw[Hp.o]at e bz;have d0:wr.cell? ⟨b,off+i*4,none⟩=some (.int .u8 (p.kind:Int)):=hc _ _ (e 0 ZB);have d1:wr.cell? ⟨b,off+i*4+1,none⟩=some (.int .i64 p.T):=by rw[Zfv];exact hc _ _ (e 1 ZB)
    have d2:wr.cell? ⟨b,off+i*4+2,none⟩=some (.int .i64 p.Tau):=by rw[Zfv];exact hc _ _ (e 2 ZB)
    have d3:wr.cell? ⟨b,off+i*4+3,none⟩=some (.int .i64 p.perm):=by rw[Zfv];exact hc _ _ (e 3 ZB)
    have FM:=ZA (λu=>ZSj p u (HP.o p bz));have LQ:=ZI d0 (.cells #[.int .u8 0,.int .i64 0,.int .i64 0,.int .i64 0] 80);have tI:=ZI d1 (.cells #[.int .u8 0,.int .i64 0,.int .i64 0,.int .i64 0] 80);have ru:=ZI d2 (.cells #[.int .u8 0,.int .i64 0,.int .i64 0,.int .i64 0] 80);have BA:=ZI d3 (.cells #[.int .u8 0,.int .i64 0,.int .i64 0,.int .i64 0] 80)
   have rW:IntKind.i64.wrap ((i:Int)+1)=(i:Int)+1:=by rw[Zee];omega
   subst hA;first|(obtain -:=V4;clear ht hm hk)|clear e hc bz
   go_wp2_with fail;first|(obtain -:=V5;refine TF.out.mono ?_;rintro e w1 ⟨rfl,rfl⟩)|(refine(FM.o _).mono ?_;rintro e w1 ⟨rfl,hx⟩;have HY:=ZA hx;clear hx)
   go_wp2_with fail;go_roundw;first|(obtain -:=V6;case rel=>exact⟨i+1,by go_num,by omega,HX.o⟩)|case rel=>exact⟨i+1,by go_num,by omega,HX.o.trans (((ZM.refl wr).alloc _).trans HY.o)⟩
   case measure=>simp[intOf];omega
  ·have eF:¬(i:Int)<(n:Int):=by omega
   first|(obtain -:=V7;have k1:=ZK K0.o HX.o;have c0:=ZX1 k1 0 (.int .i64 T);have c1:=ZX1 k1 1 (.int .i64 Tau);clear k1;go_wp2_with fail;refine(RC.o _).mono ?_;rintro e w1 ⟨rfl,hx⟩;have HY:=ZA hx;clear hx)|skip
   go_wp2_with fail;go_ret;first|(obtain -:=V8;exact⟨rfl,XW.o.trans (HX.o.trans HY.o)⟩)|exact⟨rfl,HX.o⟩):p:=h
theorem ZBg (P:List YK)(A n c w)(hn:P.length=n)(aZ:n<=32)(hP:∀p ∈ P,Yt p)(hr:Rd w A (ZAB P)):Calls prog 78 #[.slice A n c] w (Xj (.int .i64 0) w):=ZYL
theorem ZS3 (pol:Nat)(K:Option Addr)(kl kc:Nat)(key:List Nat)(w:World)(hp:pol<32)(hl:key.length=kl)(hn:kl<=255)(hb:∀x ∈ key,x<256)(hr:Rd w K (ZT .u8 key)): Calls prog 86 #[.int .i64 pol,.slice K kl kc] w (Xj (.int .u64 (Xw (pol::key):Int)) w):=by
 obtain⟨l,dI⟩:=ZX2 ((pol::key).length);have ID:=ZA (ZGu pol K kl kc l key w hp hl hn hr dI.o)
 have HB:=ZA (show ∀x ∈ pol::key,x<256 from λx hx=>by
  rcases ZfO.1 hx with hx|hx
  ·omega
  ·exact hb x hx)
 have nI:l<=9223372036854775807:=by rw[<-dI.o,ZfF,hl];omega
 clear hp hl hn hb hr;go_enter func86,ntmps86;go_wp2_with fail;refine ID.o.mono ?_;rintro e w1 ⟨A,c,rfl,hr,hx⟩;have SM:=ZA (ZE2 A l c (pol::key) w1 dI.o HB.o nI hr);have HX:=ZA hx;clear hr hx;go_wp2_with fail;refine SM.o.mono ?_;rintro e w2 ⟨rfl,rfl⟩;go_wp2_with fail;go_ret;exact⟨rfl,HX.o⟩
theorem Qz {p:Prop}(h:p:=by
 have bU:=Jt;obtain⟨W,hW,xW,-⟩:=Za w (.cells #[ZH xb] 203);first|(obtain -:=V1;have BG:=ZA (ZMf W X g who xb x res ser (hX.ext xW) (hx.ext xW) (hg.ext xW) hp jt))|(obtain -:=V2;have KA:Zk W X (Zo g who xb x) (YD 131 #[ZH w.heap.size]) .evFirst:=by rw[<-hW];exact⟨_,rfl,(Zh.new rfl (hX.not ZB))⟩)|skip
 have e0:W.cell? ⟨w.heap.size,0,none⟩=some (ZH xb):=by rw[<-hW];exact((Zh.new rfl (hX.not ZB))).cell 0
 first
 |obtain -:=V3;obtain⟨K,kc,x0,-⟩:=(hx.ext xW).cells;have b6:((x.op:Int)==6)=false:=by rw[Zgb];omega
  have b5:((x.op:Int)==5)=false:=by rw[Zgb];omega
  have XW:=ZA xW;have HW:=ZA hW;clear hx hg hX xW hW hp jt h6 h5
 |obtain -:=V4;obtain⟨K,kc,x0,-⟩:=(hx.ext xW).cells;rw[h5]at x0;have x0:W.cell? ⟨xb,0,none⟩=some (.int .u8 5):=x0;obtain⟨XW,HW,HK⟩:=Z8 xW hW KA;clear hx hX xW hW h5 KA
 |have F6:=ZA (λu (y:ZM W u)=>ZHq u X (Zo g who xb x) ((hX.ext xW).ext y));obtain⟨K,kc,x0,-,-,-,x4,x5,-⟩:=(hx.ext xW).cells;have c2:=(hg.ext xW).c2;rw[h6]at x0;have x0:W.cell? ⟨xb,0,none⟩=some (.int .u8 6):=x0;have XW:=ZA xW;have HW:=ZA hW;clear hx hX hg xW hW h6
 go_enter func87,ntmps87;go_upto_region 1 with fail;(try rw[HW.o]);clear HW;first
 |obtain -:=V5;go_wp2_with fail;refine BG.o.mono ?_;rintro e w1 ⟨v,rfl,hk,hx⟩;have HK:=ZA hk;have HX:=ZA hx;clear hk hx;go_wp2_with fail;go_ret;exact⟨_,rfl,HK.o,XW.o.trans HX.o⟩
 |obtain -:=V6;go_wp2_with fail;go_ret;exact⟨_,rfl,HK.o,XW.o⟩
 |go_upto_region 3 with fail;go_region_held3 (λw'=>w'.cell? ⟨w.heap.size,0,none⟩=some (ZH xb)/\w'.cell? ⟨xb,4,none⟩=some (ZH g.gx)/\w'.cell? ⟨g.gx,2,none⟩=some (ZH g.gl)/\w'.cell? ⟨xb,5,none⟩=some (.int .i64 who)) (((try go_split_ands);exact⟨ZX7,ZX7,ZX7,ZX7⟩)) ((go_at_call 129;(with_reducible refine(F6.o _ (by with_reducible first|exact ZM.refl _|exact(ZM.refl _).drew)).mono ?_);rintro e w2 ⟨v,rfl,hk,hx⟩;have HK:=ZA hk;have X2:=ZA ((show ZM W _ from by with_reducible first|exact ZM.refl _|exact(ZM.refl _).drew).trans hx);have cy:=ZF (X2.o) e0;have Kj:=ZF (X2.o) x4;have oR:=ZF (X2.o) c2;have Ki:=ZF (X2.o) x5;clear hk hx));all_goals
   go_wp2_with fail;go_ret;exact⟨_,rfl,HK.o,XW.o.trans X2.o⟩):p:=h
theorem ZKe (w X)(g:Zz)(who xb)(x:ZW)(res ser)(hX:YE w X)(hx:XAt w X g.gx who x res ser xb)(hg:ZBi w X g)(hp:x.pol<g.P.length)(jt:g.P.length<=32)(h6:x.op≠6)(h5:x.op≠5): Calls prog 87 #[ZH xb] w (ClR (λw' v=>Zk w' X (Zo g who xb x) v (.find (Xw x.id) .begin)) w):=by
 obtain⟨V1,V3,V5⟩:=QA;exact Qz
theorem ZUs:(prog.info? 80).map (λi=>(i.zero,i.size,i.bytes))=some (some (.agg #[.int .u8 0,.int .i64 0,.int .i64 0,.int .i64 0]),4,32):=by kernel_rfl
theorem ZWN {aw:Array Oper}{rest:List Oper}{o:Oper}{a:Act}{Q:Exit->Act->World->Prop}(w:World)(bu:o.guard=none)(s x)(ho:o.op=.call {callee:=.builtin .append,args:=#[s,x],argTypes:=#[26,26]})(base){B:Option Addr}{cb:Nat}(hs:a.eval s=.slice B n cb)(af:w.ownsRow base 80 4 (.slice B n cb) n xs){m:Nat}{news:List Value}(hx:a.eval x=.slice A m c)(hl:news.length=m*4)(hr:Rd w A news)(h1:∀u ∈ news,u.oneCell'=true)(hb:n+m<=1000000)(an:base<=w.heap.size)(h:∀B' au w',w'.ownsRow base 80 4 (.slice B' (n+m) au) (n+m) (xs++news)->w.grownBy w' (Value.slice B n cb).ownBlock-> ((Value.slice B' (n+m) au).ownBlock=(Value.slice B n cb).ownBlock\/(Value.slice B' (n+m) au).ownBlock=some w.heap.size)->wpList prog aw Q rest (a.put o.dst (.slice B' (n+m) au)) w'): wpList prog aw Q (o::rest) a w:=by
 obtain⟨i0,hi,bV,bY,aS⟩:=Zgm ZUs;exact Yj w bu s x 26 ho base 80 underlying26 hi bV bY aS rfl (by decide) hs af hx hl hr h1 (by unfold maxLen;omega) ZB an h
theorem ZUr (w)(A:Option Addr)(n c n' c'):(binOp .eql 26 (.slice A n c) (.slice none n' c')).run prog w=.ok (.bool A.isNone) w:=Zeh w _ _ A n c n' c' underlying26
def ZP8 (n:Nat)(xs:List Value)(w:World)(e:Ending)(w':World):Prop:=∃B d,e=.returned (.slice B n d)/\w'.ownsRow w.heap.size 80 4 (.slice B n d) n xs/\ZM w w'
theorem Qx {p:Prop}(h:p:=by
 first|(obtain -:=V1;have q:=ZUr)|have q:=ZVc
 obtain⟨Hl,Hr,H1⟩:=Z8 hl hr h1;cases A with
 |none=>
  have hx:xs=[]:=by
   rcases Classical.em (xs=[])with h|h
   ·exact h
   ·obtain⟨b,off,e,_⟩:=hr h;cases e
  have eL:n=0:=by rw[hx]at hl;simp at hl;omega
  subst eL hx;clear hl hr h1;first|(obtain -:=V2;go_enter func37,ntmps37)|go_enter func184,ntmps184
  go_wp2_with fail;go_ret;exact⟨none,0,rfl,ZgZ _ _ _ _,ZM.refl _⟩
 |some a=>
  clear hl hr h1;first|(obtain -:=V3;have h0:(w.alloc (.cells #[] 80)).ownsRow w.heap.size 80 4 (.slice (some ⟨w.heap.size,0,none⟩) 0 0) 0 []:=X7 w [] 80 4 0 rfl (ZgR _) (Zf6 _);go_enter func37,ntmps37;go_wp2_with (at_builtin;refine ZWN _ rfl (.tmp 5) (.tmp 6) rfl w.heap.size rfl h0 rfl Hl.o (Hr.o.alloc _) H1.o ZB ZXz ?_;intro A' c' w1 af aY _;simp only[ZgQ,Zfb]at af))|(have h0:(w.alloc (.cells #[] 62)).ownsRow w.heap.size 62 4 (.slice (some ⟨w.heap.size,0,none⟩) 0 0) 0 []:=X7 w [] 62 4 0 rfl (ZgR _) (Zf6 _);go_enter func184,ntmps184;go_wp2_with (at_builtin;refine ZOe _ rfl (.tmp 5) (.tmp 6) rfl w.heap.size rfl h0 rfl Hl.o (Hr.o.alloc _) H1.o ZB ZXz ?_;intro A' c' w1 af aY _;simp only[ZgQ,Zfb]at af))
  go_ret;exact⟨A',c',rfl,af,((ZM.refl w).alloc _).grown aY (by simp[Value.ownBlock])⟩):p:=h
theorem ZLi (w A n c)(xs:List Value)(hl:xs.length=n*4)(hn:n<=100000)(hr:Rd w A xs)(h1:∀u ∈ xs,u.oneCell'=true): Calls prog 37 #[.slice A n c] w (ZP8 n xs w):=by
 obtain⟨V1,V2,V3⟩:=QA;exact Qx
theorem ZEE (op kd w)(h:(op=1/\kd=1)\/(op=2/\kd=2)\/(op=3/\kd=2)\/(op=4/\kd=0)):Calls prog 128 #[.int .u8 op] w λe w'=>e=.returned (.int .u8 kd)/\w=w':=by
 rcases h with⟨rfl,rfl⟩|⟨rfl,rfl⟩|⟨rfl,rfl⟩|⟨rfl,rfl⟩
 all_goals
  go_enter func128,ntmps128;go_wp2_with fail;go_ret;exact⟨rfl,rfl⟩
theorem ZYV {p:Prop}(h:p:=by
 first|(obtain -:=T1;have gy:=ZA (show w.cell? ⟨b,off+pol*4,none⟩=some (.int .u8 2) by rw[gy.o,hk];rfl);have FM:=ZA (λw=>ZA7 N w (hN rfl).1 (hN rfl).2);have KD:=ZA (λw=>ZEE 1 1 w (.inl ⟨rfl,rfl⟩));clear hk hN)|(obtain -:=T2;have gy:=ZA (show w.cell? ⟨b,off+pol*4,none⟩=some (.int .u8 1) by rw[gy.o,hk];rfl);have KD:=ZA (λw=>ZEE 2 2 w (.inr (.inl ⟨rfl,rfl⟩)));clear hk hN)|(obtain -:=T3;have gy:=ZA (show w.cell? ⟨b,off+pol*4,none⟩=some (.int .u8 1) by rw[gy.o,hk];rfl);have KD:=ZA (λw=>ZEE 3 2 w (.inr (.inr (.inl ⟨rfl,rfl⟩))));clear hk hN)|(obtain -:=T4;have FM:=ZA (λw=>ZA7 N w (hN rfl).1 (hN rfl).2);clear hN)|(obtain -:=T5;have gy:=ZA (show w.cell? ⟨b,off+pol*4,none⟩=some (.int .u8 1) by rw[gy.o,hk (by decide)]);have FM:=ZA (λw=>ZA7 N w (hN rfl).1 (hN rfl).2);clear hk hN)|(obtain -:=T6;clear hk hN;have p7:decide (n<=pol)=false:=Zgf ZB;have p8:¬n<=pol:=by omega)|(have gy:=ZA (show w.cell? ⟨b,off+pol*4,none⟩=some (.int .u8 2) by rw[gy.o,hk (by decide)]);clear hk hN)
 go_enter func85,ntmps85;go_upto_region 1 with fail;(try rw[HW.o]);clear HW;first|(obtain -:=T7;go_wp2_with fail;refine(FM.o _).mono ?_;rintro e w1 ⟨rfl,rfl⟩)|skip
 go_wp2_with fail;refine PO.out.mono ?_;rintro e w1 ⟨rfl,hx⟩;have HX:=ZA hx;have K1:=ZA (ZK K0.o hx);clear c0 c1 c2 c3;have c0:=ZX1 K1.o 0 (.int .u8 _);have c1:=ZX1 K1.o 1 (.int .i64 pol);first|(obtain -:=T8)|have hq:=ZF (XW.o.trans hx) gy.o
 clear hx;go_upto_region 9 with fail;first|(obtain -:=T9;go_quiet (fail))|(obtain -:=T10;go_quiet ((go_at_call 128;with_reducible exact Jr (KD.o _))))|go_quiet ((go_at_call 128;exact Jr (KD.o _)))
 go_wp2_with fail;go_ret;exact⟨rfl,XW.o.trans (HX.o.trans ((ZM.refl w1).drewN _))⟩):p:=h
theorem QS {p:Prop}(h:p:=by
 first
 |obtain -:=V1;have e:=ZB3 P pol 0 _ (ZBO (by rw[hn];exact fC)) ZB;obtain⟨b,off,hA,hc⟩:=id hr (λe0=>by rw[e0]at e;simp[ZC5]at e);have cM:w.cell? ⟨b,off+pol*4,none⟩=some (.int .u8 ((Zf P pol).kind:Int)):=by
   have h0:=hc _ _ e;rw[Zf2]at h0;exact h0
  have KD:=ZA (λw=>ZEE op kd w hop)
 |obtain -:=V2;have e:=ZB3 P pol 0 _ (ZBO (by rw[hn];exact fC)) ZB;obtain⟨b,off,hA,hc⟩:=id hr (λe0=>by rw[e0]at e;simp[ZC5]at e);have cM:w.cell? ⟨b,off+pol*4,none⟩=some (.int .u8 ((Zf P pol).kind:Int)):=by
   have h0:=hc _ _ e;rw[Zf2]at h0;exact h0
 |skip
 obtain⟨W,hW,xW,-⟩:=Za w (.cells #[.int .u8 op,.int .i64 pol,.slice K kl kc,.int .i64 N] 34);first|(obtain -:=V3;have IS:=ZA (ZKR who W hw))|have PO:=ZA (ZBg P A n c W hn aZ hP (hr.ext xW))
 have K0:=ZA (show W.heap[w.heap.size]?=some (.cells #[.int .u8 op,.int .i64 pol,.slice K kl kc,.int .i64 N] 34 (0,0)) by rw[<-hW];exact ZV w _);first
 |obtain -:=V4;have XW:=ZA xW;have HW:=ZA hW;have p0:¬(pol:Int)<0:=by omega
  have p1:(n:Int)<=(pol:Int):=by omega
  have p3:¬(255:Int)<(kl:Int):=by omega
  have p4:decide ((255:Int)<(kl:Int))=false:=Zgf p3;have p5:decide ((pol:Int)<0)=false:=Zgf p0;have p6:decide ((n:Int)<=(pol:Int))=true:=Zgg p1;have p7:decide (n<=pol)=true:=Zgg fC
 |obtain -:=V5;have rd:=h.rd;have a0:=ZF xW rd.c0;have CH:=ZA (ZTl g.P g.PA K g.P.length g.pc pol kl kc op N key W rfl aZ hP (rd.prd.ext xW) aP hn);obtain⟨f,xf,-,-,pv,-⟩:=h.pend hw;rw[hi]at pv;obtain rfl:f=.nilFunc:=pv;have XF:=ZA xf;have HK:=ZA (λu (y:ZM W u)=>ZCS K kl kc key u hl ZB ((hr.ext xW).ext y));have HH:=ZA h;have Hi:=ZA hi;have XW:=ZA xW;have HW:=ZA hW
 |obtain -:=V6;have rd:=h.rd;have a0:=ZF xW rd.c0;have CH:=ZA (CK W (rd.prd.ext xW));have XW:=ZA xW;have HW:=ZA hW
 |obtain⟨gy,XW,HW⟩:=Z8 cM xW hW;have p0:¬(pol:Int)<0:=by omega
  have p1:¬(n:Int)<=(pol:Int):=by omega
  have p2:(pol:Int)<(n:Int):=by omega
  have p3:¬(255:Int)<(kl:Int):=by omega
  have p4:decide ((255:Int)<(kl:Int))=false:=Zgf p3;have p5:decide ((pol:Int)<0)=false:=Zgf p0;have p6:decide ((n:Int)<=(pol:Int))=false:=Zgf p1
 have c0:=ZX1 K0.o 0 (.int .u8 op);have c1:=ZX1 K0.o 1 (.int .i64 pol);have c2:=ZX1 K0.o 2 (.slice K kl kc);have c3:=ZX1 K0.o 3 (.int .i64 N);first
 |obtain -:=V7;subst hA;clear hr hP hn e hc cM xW hW aX aZ;rcases hop with⟨rfl,hk⟩|⟨rfl,hk⟩|⟨rfl,hk⟩
  case inl=>
   obtain⟨T1,T7⟩:=QA;exact ZYV
  case inr.inl=>
   obtain⟨T2,_⟩:=QA;exact ZYV
  case inr.inr=>
   obtain⟨T3,_⟩:=QA;exact ZYV
 |obtain -:=V8;clear hr hP hn xW hW aX aZ;rcases hop with rfl|rfl|rfl|rfl
  case inl=>
   obtain⟨T4,T7,T8,T9⟩:=QA;exact ZYV
  all_goals
   clear hN;go_enter func85,ntmps85;go_upto_region 1 with fail
   (try rw[HW.o])
   clear HW;go_wp2_with fail;refine PO.out.mono ?_;rintro e w1 ⟨rfl,hx⟩;have HX:=ZA hx;have K1:=ZA (ZK K0.o hx);clear c0 c1 c2 c3;have c0:=ZX1 K1.o 0 (.int .u8 _);have c1:=ZX1 K1.o 1 (.int .i64 pol);clear hx;go_upto_region 9 with fail
   go_quiet (fail)
   go_wp2_with fail;go_ret;exact⟨rfl,XW.o.trans (HX.o.trans ((ZM.refl w1).drewN _))⟩
 |obtain -:=V9;have lx:=ZA aP;have HP:=ZA hP;have HB:=ZA hb;have dI:=ZA hl;have rW:(who:Int)<64:=by omega
  have ij:∀(u:World),(binOp .neq 139 .nilFunc .nilFunc).run prog u=.ok (.bool false) u:=λ_=>rfl;clear h rd hr xW hW hP hb hl xf hi aP;go_enter func41,ntmps41;go_upto_region 1 with fail
  (try rw[HW.o]);clear HW;go_wp2_with fail;refine IS.o.mono ?_;rintro e w1 ⟨rfl,rfl⟩;go_wp2_with fail;refine CH.o.mono ?_;rintro e w1 ⟨rfl,hx⟩;have HX:=ZA hx;have K1:=ZA (ZK K0.o hx);clear c0 c1 c2 c3;have c0:=ZX1 K1.o 0 (.int .u8 op);have c1:=ZX1 K1.o 1 (.int .i64 pol);have c2:=ZX1 K1.o 2 (.slice K kl kc);have c3:=ZX1 K1.o 3 (.int .i64 N);have xf:=ZF (XW.o.trans hx) XF.o;have z2:w1.frozen? ⟨w.heap.size,2,none⟩=false:=ZG K1.o 2;clear hx;go_upto_region 13 with fail;clear IS CH;go_wp2_with fail;refine(HK.o _ HX.o).mono ?_;rintro e w2 ⟨K2,kz,rfl,ho,hx⟩;rw[dI.o]at ho ⊢;have HO:=ZA ho;have yJ:=ZA (ZK K1.o hx);have X2:=ZA ((XW.o.trans HX.o).trans hx);obtain⟨w3,jr⟩:=ZX3 (w2.setCell ⟨w.heap.size,2,none⟩ (.slice K2 kl kz));have x3:ZM w w3:=by rw[<-jr];exact X2.o.setCell (p:=⟨w.heap.size,2,none⟩) (Zf6 _) _
  have k3:w3.heap[w.heap.size]?=some (.cells #[.int .u8 op,.int .i64 pol,.slice K2 kl kz,.int .i64 N] 34 (0,0)):=by rw[<-jr];exact ZR yJ.o 2 _
  have g3:GB w2 w3 (· =w.heap.size):=by rw[<-jr];exact(GB.refl w2 (· =w.heap.size)).set w.heap.size 2 _ (.inl rfl)
  have dU:∀a,K2=some a->w.heap.size<a.block/\a.block<w2.heap.size:=λa ha=>by
   obtain⟨a1,a2,-⟩:=ZAS ho a ha;exact⟨ZgB (ZX K1.o) a1,a2⟩
  have r3:Rd w3 K2 (ZT .u8 key):=λag=>by
   obtain⟨b,off,e,hc⟩:=XJ ho ag;have fb:=dU _ e;exact⟨b,off,e,λj u hu=>(ZgV (g3.block b fb.2 (λe9=>Zf9 _ (e9 ▸ fb.1)))).trans (hc j u hu)⟩
  have b3:∀a,K2=some a->w.heap.size<=a.block/\a.block<w3.heap.size:=λa ha=>⟨Zf5 (dU a ha).1,ZgB (dU a ha).2 g3.size⟩;have sO:=YR ho;have A3:=ZA (HH.o.ext x3);obtain⟨f3,xf3,Cp,hCgx,zS,-⟩:=A3.o.pend hw;rw[Hi.o]at zS;obtain rfl:f3=.nilFunc:=zS;have mu:=HH.o.lt;have pO:=HH.o.ol;have ut:w.heap.size≠g.gx:=λe=>by have:=mu g.gx hCgx;omega
  have SM:=ZA (λu (y:ZM w3 u)=>ZS3 pol K2 kl kz key u ee dI.o hn HB.o (r3.ext y));have XS:=ZA (λu v (y:ZM w3 u) (y2:ZM (u.alloc (.cells #[.int .u8 op,.int .i64 pol,.slice K2 kl kz,.int .i64 N,ZH g.gx,.int .i64 who,.int .u64 (Xw (pol::key):Int),.bool false,.int .i64 0] 206 (0,0))) v)=>
   (⟨⟨_,K2,kz,(ZK (ZV u _) y2).trans (by rw[<-dI.o];rfl),by show key.length<=kz;rw[dI.o];exact sO,(r3.ext y).ext (((ZM.refl u).alloc _).trans y2),λa ha=>by
     have h9:=b3 a ha;have h2:=y.size;have h3:=y2.size;simp at h3;refine⟨λe=>?_,by omega⟩;rcases e with(e|e)|e
     ·have:=mu _ e;omega
     ·omega
     ·have:=pO _ e;omega⟩,by have h3:=y2.size;simp at h3;omega,by have h3:=y.size;have h4:=x3.size;omega⟩:
    XAt v (XO (λi=>C i\/i=u.heap.size) O) g.gx who ⟨op,pol,key,N⟩ false 0 u.heap.size/\u.heap.size<v.heap.size/\w.heap.size<=u.heap.size))
  have FS:=ZA (λu v (y:ZM w3 u) (y2:ZM (u.alloc (.cells #[.int .u8 op,.int .i64 pol,.slice K2 kl kz,.int .i64 N,ZH g.gx,.int .i64 who,.int .u64 (Xw (pol::key):Int),.bool false,.int .i64 0] 206 (0,0))) v)=>
   ZOZ v (XO (λi=>C i\/i=u.heap.size) O) g who u.heap.size ⟨op,pol,key,N⟩ false 0
    (λi hi=>by
     have h1:=x3.size;have h2:=y.size;have h3:=y2.size;simp at h3;rcases hi with(hi|hi)|hi
     ·have:=mu i hi;omega
     ·omega
     ·have:=pO i hi;omega)
    (XS.o u v y y2).1
    (((A3.o.rd.ext y).ext (((ZM.refl u).alloc _).trans y2)).more (λa ha=>by have:=(A3.o.rd.pfz a ha).2;have h2:=y.size;omega)) lx.o aZ)
  have d0:=ZX1 k3 0 (.int .u8 op);have d1:=ZX1 k3 1 (.int .i64 pol);have d2:=ZX1 k3 2 (.slice K2 kl kz);have d3:=ZX1 k3 3 (.int .i64 N);have GQ:=ZA jr;have X3:=ZA x3;have BC:=ZX1 yJ.o 2 (.slice K kl kc);have Kb:w2.frozen? ⟨w.heap.size,2,none⟩=false:=ZG yJ.o 2;clear ho hx c0 c1 c2 c3 xf z2 jr x3 k3 g3 dU r3 b3 sO mu pO;go_upto_region 14 with fail;rw[GQ.o];go_region_held3 (λw'=>w'.cell? ⟨w.heap.size,0,none⟩=some (.int .u8 op)/\w'.cell? ⟨w.heap.size,1,none⟩=some (.int .i64 pol)/\w'.cell? ⟨w.heap.size,2,none⟩=some (.slice K2 kl kz)/\w'.cell? ⟨w.heap.size,3,none⟩=some (.int .i64 N)) (((try go_split_ands);exact⟨ZX7,ZX7,ZX7,ZX7⟩))
   (first
    |(go_at_call 86;(with_reducible refine(SM.o _ (by with_reducible first|exact ZM.refl _|exact(ZM.refl _).drew)).mono ?_);rintro e w4 ⟨rfl,hy⟩;have HY:=ZA ((ZM.refl w3).drew.trans hy);have ey:=ZF (HY.o) d0;have dY:=ZF (HY.o) d1;have eo:=ZF (HY.o) d2;have ex:=ZF (HY.o) d3;have vQ:=ZF (HY.o) xf3;clear hy)
    |(go_at_call 87;(with_reducible refine(FS.o _ _ HY.o (by with_reducible first|exact ZM.refl _|exact(ZM.refl _).drew)).mono ?_);rintro e w6 ⟨f,rfl,hk,hx⟩;obtain⟨fi,ci,rfl⟩:=Zk.fn hk;have It:=ZA hk;have qu:=ZA (XS.o _ _ HY.o hx);have qv:=ZA (((ZM.refl w4).alloc _).trans hx);have u0:=ZF qv.o ey;have u1:=ZF qv.o dY;have u2:=ZF qv.o eo;have u3:=ZF qv.o ex;have Kd:=ZF qv.o vQ;have I9:=ZPL (HY.o.trans qv.o) xf3 Cp;have v0:=Zd (i:=3+who) (u:=YD fi ci) u0 ut;have v1:=Zd (i:=3+who) (u:=YD fi ci) u1 ut;have v2:=Zd (i:=3+who) (u:=YD fi ci) u2 ut;have v3:=Zd (i:=3+who) (u:=YD fi ci) u3 ut;clear hk hx))
  all_goals
   go_wp2_with fail;go_ret;exact⟨_,_,rfl,HH.o.start hw Hi.o (X3.o.trans (HY.o.trans qv.o)) qu.o.2.2 qu.o.2.1 qu.o.1 It.o⟩
 |obtain -:=V10;have rW:(who:Int)<64:=by omega
  clear h rd xW hW CK;go_enter func41,ntmps41;go_upto_region 1 with fail;(try rw[HW.o]);clear HW;go_wp2_with fail;refine IS.o.mono ?_;rintro e w1 ⟨rfl,rfl⟩;go_wp2_with fail;refine CH.o.mono ?_;rintro e w1 ⟨rfl,hx⟩;have HX:=ZA hx;clear hx;go_wp2_with fail;go_ret;exact⟨rfl,XW.o.trans HX.o⟩
 |subst hA;clear hr hP hn e hc cM xW hW aX aZ;rcases hop with⟨rfl,rfl⟩|⟨rfl,rfl⟩|⟨rfl,rfl⟩|⟨rfl,rfl⟩
  case inl=>
   obtain⟨T5,T7⟩:=QA;exact ZYV
  case inr.inl=>
   exact ZYV
  case inr.inr.inl=>
   exact ZYV
  case inr.inr.inr=>
   obtain⟨T6,T8,T10⟩:=QA;exact ZYV):p:=h
theorem ZCU (P:List YK)(A K n c pol kl kc op kd N w)(hn:P.length=n)(aZ:n<=32)(hP:∀p ∈ P,Yt p)(hr:Rd w A (ZAB P))(hop:(op=1/\kd=1)\/(op=2/\kd=2)\/(op=3/\kd=2)\/(op=4/\kd=0))(fC:pol<n)(hN:op=1->0<=N/\N<=4611686018427387903)(hk:kd≠0->((Zf P pol).kind:Int)=kd)(aX:kl<=255): Calls prog 85 #[.slice A n c,.agg #[.int .u8 op,.int .i64 pol,.slice K kl kc,.int .i64 N]] w (Xj (.int .i64 0) w):=by
 obtain⟨V1,_⟩:=QA;exact QS
theorem ZMV (P:List YK)(A K n c kl kc op pol N w)(hn:P.length=n)(aZ:n<=32)(hP:∀p ∈ P,Yt p)(hr:Rd w A (ZAB P))(hop:op=5\/op=6): Calls prog 85 #[.slice A n c,.agg #[.int .u8 op,.int .i64 pol,.slice K kl kc,.int .i64 N]] w (Xj (.int .i64 0) w):=by
 obtain⟨W,hW,xW,-⟩:=Za w (.cells #[.int .u8 op,.int .i64 pol,.slice K kl kc,.int .i64 N] 34);have PO:=ZA (ZBg P A n c W hn aZ hP (hr.ext xW));have K0:=ZA (show W.heap[w.heap.size]?=some (.cells #[.int .u8 op,.int .i64 pol,.slice K kl kc,.int .i64 N] 34 (0,0)) by rw[<-hW];exact ZV w _);have XW:=ZA xW;have HW:=ZA hW;have c0:=ZX1 K0.o 0 (.int .u8 op);clear hr hP hn xW hW aZ;rcases hop with rfl|rfl
 all_goals
  go_enter func85,ntmps85;go_upto_region 1 with fail
  (try rw[HW.o])
  clear HW;go_wp2_with fail;refine PO.out.mono ?_;rintro e w1 ⟨rfl,hx⟩;have HX:=ZA hx;clear c0 hx;go_upto_region 9 with fail
  go_quiet (fail)
  go_wp2_with fail;go_ret;exact⟨rfl,XW.o.trans (HX.o.trans ((ZM.refl w1).drewN _))⟩
theorem ZRY (w X)(g:Zz)(who xb)(x:ZW)(res ser)(hX:YE w X)(hx:XAt w X g.gx who x res ser xb)(h5:x.op=5): Calls prog 87 #[ZH xb] w (ClR (λw' v=>Zk w' X (Zo g who xb x) v .evFirst) w):=by
 obtain⟨V2,V4,V6⟩:=QA;exact Qz
theorem ZKd (w X)(g:Zz)(who xb)(x:ZW)(res ser)(hX:YE w X)(hx:XAt w X g.gx who x res ser xb)(hg:ZBi w X g)(h6:x.op=6): Calls prog 87 #[ZH xb] w (ClR (λw' v=>Zk w' X (Zo g who xb x) v .split) w):=Qz
theorem ZOZ (w X)(g:Zz)(who xb x res ser)(hX:YE w X)(hx:XAt w X g.gx who x res ser xb)(hg:ZBi w X g)(ho:Yn g.P x)(jt:g.P.length<=32): Calls prog 87 #[ZH xb] w (ClR (λw' v=>Zk w' X (Zo g who xb x) v (JD x)) w):=by
 obtain⟨h1,h6,hk,-⟩:=ho;unfold JD
 split
 ·next e=>exact ZKd w X g who xb x res ser hX hx hg e
 split
 ·next e=>exact ZRY w X g who xb x res ser hX hx e
 ·next a b=>exact ZKe w X g who xb x res ser hX hx hg (hk ZB).1 jt a b
theorem ZN0 (w g O C xb)(L:List Zg)(s:Z9)(who u sum x res ser t f)(aa:Array Value)(h:YQ w g O C xb L s)(hc:s.call who=.run x res ser (.find sum t))(hL:L.length<=100000)(hw:who<64)(hu:s.ws.getD 0 0=2*u+1)(qP:u<=3)(hs:sum<18446744073709551616)(hk:Zk w (XO C O) (Zo g who (xb who) x) (YD f aa) (.find sum t)): Calls prog f aa w (SK w g O C xb who (L.length+1) x s (.on (.frz (ZO u sum) (.find sum u t)))):=by
 obtain⟨V4,V6,V15,V18⟩:=QA;exact QF
theorem Jg.hen{f:FuncId}{aa:Array Value}{t:ZAc}(h:Jg w X d (YD f aa) t):∀(ar:Array Value) (u:World),(callFunc f (ar++aa)).run prog u=.ok (.enter f (ar++aa)) u:=by
 cases t with
 |begin=>
  obtain⟨q0,q1,h0,_⟩:=h;injection h0 with h0 _ h2;injection h0 with h0;subst h0;exact λ_ _=>rfl
 |evict j shards gone=>
  obtain⟨q0,q1,q2,fv,h0,_⟩:=h;injection h0 with h0 _ h2;injection h0 with h0;subst h0;exact λ_ _=>rfl
theorem ZFH (w:World)(X:Zhf)(d:Jv)(sum word v n c:Nat)(f:FuncId)(aa:Array Value)(A:Option Addr)(t:ZAc)(out:Zs)(hX:YE w X)(h:Jg w X d (YD f aa) t)(eC:v=0\/Zb<=v->out=.on (.find sum t))(TH:¬(v=0\/Zb<=v)->∀u,ZM w u->w.heap.size<u.heap.size->Calls prog f (#[.int .i64 word,.int .u64 v,.slice A n c]++aa) u (ZAi (XG X w.heap.size) d out u)): Calls prog 241 #[ZH d.gl,.int .i64 (d.who:Int),.int .u64 sum,.int .i64 word,.int .u64 v,.slice A n c,YD f aa] w (ZAi X d out w):=by
 by_cases hv:v=0\/Zb<=v
 ·rw[eC hv];obtain⟨W,hW⟩:=ZX3 (((w.alloc ZYE).alloc ZYE));have xW:ZM w W:=by rw[<-hW];exact(((ZM.refl w).alloc _).alloc _)
  have K0:=ZA (show W.heap[w.heap.size]?=some ZYE by rw[<-hW];exact ZQ (ZV w _) _);have K1:=ZA (show W.heap[w.heap.size+1]?=some ZYE by rw[<-hW];exact Zi _ _ ZXz);have FD:=ZA (ZFw W.drew (XG X w.heap.size) d sum (YD f aa) t ((hX.xg xW (ZX K0.o)).ext (ZM.refl W).drew) (h.kp ((kpg xW (Zf6 _)).trans (Kp.ext _ (ZM.refl W).drew))));have XW:=ZA xW;have HW:=ZA hW;have b:((v:Int)==0)=true\/(((v:Int)==0)=false/\(4611686018427387904:Int)<=(v:Int)):=by
   unfold Zb at hv;by_cases h0:v=0
   ·exact .inl (by rw[Zgc];omega)
   ·exact .inr ⟨by rw[Zgb];omega,by omega⟩
  clear h hX xW hW eC TH hv;obtain⟨n0,m0,n1,m1,n2,m2,n3,m3,n4,m4,n5,m5,n6,m6⟩:=ZYD K1.o;have aW:w.heap.size+1≠w.heap.size:=by omega
  rcases b with b1|⟨b1,b2⟩
  all_goals
   (try have b3:decide ((4611686018427387904:Int)<=(v:Int))=true:=Zgg b2)
   go_enter func241,ntmps241;go_upto_region 3 with fail
   (try rw[HW.o])
   clear HW
   go_region_with ((go_at_call 179;(with_reducible refine FD.o.mono ?_);rintro e w2 ⟨v,rfl,hk,hx⟩;have ap:=(ZM.refl W).drew.trans hx;have HK:=ZA hk;have HX:=ZA ap;have bR:=ZA (ZK K0.o ap);obtain⟨r0,z0,r1,z1,r2,z2,r3,z3,r4,z4,r5,z5,r6,z6⟩:=ZYD bR.o;have ku:=ZF (ap) n0;have ko:=ZF (ap) n1;have km:=ZF (ap) n2;have kj:=ZF (ap) n3;have kh:=ZF (ap) n4;have kg:=ZF (ap) n5;have ke:=ZF (ap) n6;clear hk hx ap))
   all_goals
    go_wp2_with fail;refine Zgd (ZP (p:=15) (u:=14) rfl _ _ w.heap.size _ #[.bool false,.int .i64 0,.bool false,.int .i64 0,.int .i64 0,.int .i64 0,.int .i64 0] (0,0) _ rfl (Yv bR.o _ _ _ _ _ _ _) underlying41 ZX0 ZC) rfl ?_;exact Yz (r:=ZAG) (ZAo HK.o) (XW.o.trans HX.o) (Zf6 _) _ _ _ _ _ _ _
 ·have K7:v≠0:=λe=>hv (.inl e);have hf:v<4611686018427387904:=Nat.lt_of_not_le (λe=>hv (.inr e));obtain⟨W,hW,xW,K0⟩:=Za w ZYE;have CL:=ZA (TH hv W xW (ZX K0.o));have XW:=ZA xW;have HW:=ZA hW;have b1:((v:Int)==0)=false:=by rw[Zgb];omega
  have b2:¬(4611686018427387904:Int)<=(v:Int):=by omega
  have b3:decide ((4611686018427387904:Int)<=(v:Int))=false:=Zgf b2;have hen:=h.hen;clear TH xW hW hv hf eC h hX;go_enter func241,ntmps241;go_upto_region 1 with fail
  (try rw[HW.o])
  clear HW;go_wp2_with fail;refine CL.o.mono ?_;rintro e w2 ⟨nv,done,r',rfl,ho,hx⟩;have HO:=ZA ho;have aV:=ZA hx;have K3:=ZA (ZK K0.o hx);obtain⟨r0,z0,r1,z1,r2,z2,r3,z3,r4,z4,r5,z5,r6,z6⟩:=ZYD K3.o;clear ho hx;go_wp2_with fail;refine Zgd (ZP (p:=15) (u:=14) rfl _ _ (w.heap.size) _ #[.bool done,.int .i64 (r'.er:Int),.bool r'.granted,.int .i64 r'.left,.int .i64 r'.wait,.int .i64 r'.ser,.int .i64 r'.now] (0,0) _ rfl (Yv K3.o _ _ _ _ _ _ _) underlying41 ZX0 ZC) rfl ?_;exact Yz HO.o (XW.o.trans aV.o) (Zf6 _) _ _ _ _ _ _ _
section
open Go.Shelf
def ZLy:Go.Shelf.Ren:=⟨λ|264=>214|n=>n,λ|53=>52|46=>111|n=>n,λ|n=>n⟩
theorem ZU3:Go.Proofs.Lays.n264 prog ZLy where
 mixed:=by kernel_rfl
 f264:=func214.trans (Zge some ZC)
 t46:=underlying111
 a46:=Tryz.isAgg111
 z46:=Tryz.sizeOf111
 v46:=Tryz.zeroValue111
 t53:=underlying52
 a53:=Tryz.isAgg52
 z53:=Tryz.sizeOf52
 v53:=Tryz.zeroValue52
open Go.RowKit in
theorem ZJK (x y:Nat)(hx:x<18446744073709551616)(hy:y<18446744073709551616)(w:World): Calls prog 214 #[.int .u64 x,.int .u64 y] w λe w'=>e=.returned (.tuple #[.int .u64 ((x*y / 18446744073709551616:Nat):Int),.int .u64 ((x*y % 18446744073709551616:Nat):Int)])/\w'=w:=Any.bits_Mul64 ZU3 x y hx hy w
end
theorem ZJV (t k Tau w)(h1:1<=t)(h2:t<=4611686018427387903)(h4:Tau<=4611686018427387903)(hk:k<=4611686018427387903)(hm:((k*t:Nat):Int)<=Tau): Calls prog 149 #[.agg #[.int .i64 t,.int .i64 Tau],.int .i64 ((k:Int)+1)] w λe w'=>e=.returned (.tuple #[.int .i64 ((k*t:Nat):Int),.bool true])/\ZM w w':=by
 have hw:((k:Int)+1) - 1=(k:Int):=by omega
 have M:=ZJK k t ZB ZB (w.alloc (.cells #[.int .i64 t,.int .i64 Tau] 78));generalize k*t=m at*;have hd:m / 18446744073709551616=0:=by omega
 have hr:m % 18446744073709551616=m:=by omega
 rw[hd,hr]at M;have Hm:=ZA hd;clear hd hr;go_enter func149,ntmps149;go_wp2_with fail;refine M.mono ?_;rintro e w1 ⟨rfl,rfl⟩;go_wp2_with fail
 go_quiet (fail)
 go_wp2_with fail
 go_ret2
 exact⟨rfl,((ZM.refl w).alloc _).drewN _⟩
theorem ZRC (t k Tau w)(h1:1<=t)(h2:t<=4611686018427387903)(h3:0<=Tau)(h4:Tau<=4611686018427387903)(hk:k<=4611686018427387903)(hm:Tau<((k*t:Nat):Int)): Calls prog 149 #[.agg #[.int .i64 t,.int .i64 Tau],.int .i64 ((k:Int)+1)] w λe w'=>(∃x:Int,e=.returned (.tuple #[.int .i64 x,.bool false]))/\ZM w w':=by
 have hw:((k:Int)+1) - 1=(k:Int):=by omega
 have M:=ZJK k t ZB ZB (w.alloc (.cells #[.int .i64 t,.int .i64 Tau] 78));obtain⟨H2,H1,HK⟩:=Z8 h2 h1 hk;generalize k*t=m at*;by_cases hz:m / 18446744073709551616=0
 ·have hr:m % 18446744073709551616=m:=by omega
  have hx:m<18446744073709551616:=by omega
  rw[hz,hr]at M;clear hz hr;go_enter func149,ntmps149;go_wp2_with fail;refine M.mono ?_;rintro e w1 ⟨rfl,rfl⟩;go_wp2_with fail
  go_quiet (fail)
  go_wp2_with fail
  go_ret2
  exact⟨⟨_,ZAn rfl (ZED (Zgf ZB))⟩,((ZM.refl w).alloc _).drewN _⟩
 ·have hr:m % 18446744073709551616<18446744073709551616:=by omega
  generalize m / 18446744073709551616=q at*;generalize m % 18446744073709551616=r at*;have hq:decide (((q:Nat):Int)=0)=false:=Zgf ZB;have fB:decide (q=0)=false:=Zgf ZB;have DZ:(((q:Nat):Int)==0)=false:=by simpa using hz
  have Lj:(q==0)=false:=by simpa using hz
  clear hz;go_enter func149,ntmps149;go_wp2_with fail;refine M.mono ?_;rintro e w1 ⟨rfl,rfl⟩;go_wp2_with fail
  go_quiet (fail)
  go_wp2_with fail
  go_ret2
  exact⟨⟨_,rfl⟩,((ZM.refl w).alloc _).drewN _⟩
theorem ZTL (t k Tau tat now w)(h1:1<=t)(h2:t<=4611686018427387903)(h3:0<=Tau)(h4:Tau<=4611686018427387903)(hk:k<=4611686018427387903)(hm:Tau<((k*t:Nat):Int)): Calls prog 98 #[.agg #[.int .i64 t,.int .i64 Tau],.int .i64 tat,.int .i64 now,.int .i64 ((k:Int)+1)] w λe w'=>e=.returned (.int .i64 4611686018427387903)/\ZM w w':=by
 have M:=ZA (ZRC t k Tau (w.alloc (.cells #[.int .i64 t,.int .i64 Tau] 78)) h1 h2 h3 h4 hk hm);clear hm;go_enter func98,ntmps98;go_wp2_with fail;refine M.o.mono ?_;rintro e w1 ⟨⟨x,rfl⟩,hx⟩;go_wp2_with fail;go_ret;exact⟨rfl,((ZM.refl w).alloc _).trans hx⟩
theorem ZYv {p:Prop}(h:p:=by
 first|(obtain -:=T1;have eq:max tat now=tat:=by omega)|have eq:max tat now=now:=by omega
 rw[eq]at hq;first|(obtain -:=T2;have fB:0<=(4611686018427387903 - tat) / (t:Int):=Zeb ZB ZB;first|(obtain -:=V5;have ja:(4611686018427387903 - tat) / (t:Int)<(k:Int)+1:=hq)|have ja:¬(4611686018427387903 - tat) / (t:Int)<(k:Int)+1:=hq)|(have fB:0<=(4611686018427387903 - now) / (t:Int):=Zeb ZB ZB;first|(obtain -:=V2;have ja:(4611686018427387903 - now) / (t:Int)<(k:Int)+1:=hq)|have ja:¬(4611686018427387903 - now) / (t:Int)<(k:Int)+1:=hq)
 clear hq;go_enter func98,ntmps98;go_wp2_with fail;refine M.o.mono ?_;rintro e w1 ⟨rfl,hx⟩;have hb:w1.heap[w.heap.size]?=some (.cells #[.int .i64 t,.int .i64 Tau] 78):=(hx.block _ (by rw[Zga];omega)).trans (ZV w _);have c0:=ZX1 hb 0 (.int .i64 t);first|(obtain -:=T3;first|(obtain -:=V6)|have c1:=ZX1 hb 1 (.int .i64 Tau))|first|(obtain -:=V3)|have c1:=ZX1 hb 1 (.int .i64 Tau)
 go_wp2_with fail;go_ret;first|(obtain -:=T4;first|(obtain -:=V7;exact⟨rfl,((ZM.refl w).alloc _).trans hx⟩)|exact⟨ZBC ZB,((ZM.refl w).alloc _).trans hx⟩)|first|(obtain -:=V4;exact⟨rfl,((ZM.refl w).alloc _).trans hx⟩)|exact⟨ZBC ZB,((ZM.refl w).alloc _).trans hx⟩):p:=h
theorem Qe {p:Prop}(h:p:=by
 first|(obtain -:=V1;have M:=ZA (ZJV t k Tau (w.alloc (.cells #[.int .i64 t,.int .i64 Tau] 78)) h1 h2 h4 hk hm);clear hm)|(have M:=ZA (ZJV t k Tau (w.alloc (.cells #[.int .i64 t,.int .i64 Tau] 78)) h1 h2 h4 hk (by rw[he];exact hm));rw[he]at M;clear he)
 have hT:(t:Int)≠0:=by omega
 by_cases hc:tat<now
 ·exact ZYv
 ·obtain⟨T1,T2,T3,T4⟩:=QA;exact ZYv):p:=h
theorem ZQ1 (t k Tau tat now w)(h1:1<=t)(h2:t<=4611686018427387903)(h4:Tau<=4611686018427387903)(hk:k<=4611686018427387903)(ht:0<=tat)(cj:tat<=4611686018427387903)(hn:0<=now)(bG:now<=4611686018427387903)(hm:((k*t:Nat):Int)<=Tau)(hq:(4611686018427387903 - max tat now) / (t:Int)<(k:Int)+1): Calls prog 98 #[.agg #[.int .i64 t,.int .i64 Tau],.int .i64 tat,.int .i64 now,.int .i64 ((k:Int)+1)] w λe w'=>e=.returned (.int .i64 4611686018427387903)/\ZM w w':=by
 obtain⟨V1,V2,V3,V4,V5,V6,V7⟩:=QA;exact Qe
theorem ZN8 (t k:Nat)(Tau tat now:Int)(w:World)(h1:1<=t)(h2:t<=4611686018427387903)(h4:Tau<=4611686018427387903)(hk:k<=4611686018427387903)(ht:0<=tat)(cj:tat<=4611686018427387903)(hn:0<=now)(bG:now<=4611686018427387903)(m:Nat)(he:k*t=m)(hm:(m:Int)<=Tau)(hq:¬(4611686018427387903 - max tat now) / (t:Int)<(k:Int)+1): Calls prog 98 #[.agg #[.int .i64 t,.int .i64 Tau],.int .i64 tat,.int .i64 now,.int .i64 ((k:Int)+1)] w λe w'=>e=.returned (.int .i64 (tat - now - (Tau - (m:Int))))/\ZM w w':=Qe
theorem ZCo (T Tau tat now w)(h1:1<=T)(h2:T<=4611686018427387903)(h3:0<=Tau)(h4:Tau<=4611686018427387903)(ht:0<=tat)(cj:tat<=4611686018427387903)(hn:0<=now)(bG:now<=4611686018427387903): Calls prog 97 #[.agg #[.int .i64 T,.int .i64 Tau],.int .i64 tat,.int .i64 now] w λe w'=>e=.returned (.int .i64 (Xh T Tau tat now))/\ZM w w':=by
 by_cases h:Tau<max tat now - now
 ·exact ZRB T Tau tat now w h3 ht cj hn bG h
 ·exact ZOD T Tau tat now w h1 h2 h3 h4 ht cj hn bG h
theorem ZHz (T Tau tat now)(h1:1<=T)(ht:0<=tat)(cj:tat<=4611686018427387903)(bG:now<=4611686018427387903):0<=Xh T Tau tat now:=by
 unfold Xh
 split
 ·omega
 ·have a:=Zeb (a:=Tau - (max tat now - now)) (b:=T) ZB ZB;have b:=Zeb (a:=4611686018427387903 - max tat now) (b:=T) ZB ZB;omega
theorem ZKU (T Tau tat now w)(h1:1<=T)(h2:T<=4611686018427387903)(h3:0<=Tau)(h4:Tau<=4611686018427387903)(ht:0<=tat)(cj:tat<=4611686018427387903)(hn:0<=now)(bG:now<=4611686018427387903): Calls prog 53 #[.agg #[.int .i64 T,.int .i64 Tau],.int .i64 tat,.int .i64 now,.int .i64 0] w λe w'=>e=.returned (.agg #[.bool true,.int .i64 tat,.int .i64 0,.int .i64 (Xh T Tau tat now)])/\ZM w w':=by
 have hl:=ZHz T Tau tat now h1 ht cj bG;have G:=λw=>ZCo T Tau tat now w h1 h2 h3 h4 ht cj hn bG;generalize Xh T Tau tat now=l at*;go_enter func53,ntmps53;go_wp2_with fail;refine(G _).mono ?_;rintro e w1 ⟨rfl,hx⟩;have hs:=hx.size;simp only[Zga]at hs;have b0:w1.heap[w.heap.size]?=some (.cells #[.int .i64 T,.int .i64 Tau] 78):=(hx.block _ (by simp only[Zga];omega)).trans (ZQ (ZV w _) _);have b1:w1.heap[w.heap.size+1]?=some (.cells #[.bool false,.int .i64 0,.int .i64 0,.int .i64 0] 82):=(hx.block _ (by simp only[Zga];omega)).trans (ZV (w.alloc _) _ |> λh=>by rwa [Zga]at h);have yu:=ZX1 b0 0 (.int .i64 T);have yt:=ZX1 b0 1 (.int .i64 Tau);have d0:(w1.alloc (.cells #[.bool true,.int .i64 tat,.int .i64 0,.int .i64 0] 82)).cell? ⟨w.heap.size,0,none⟩=some (.int .i64 T):=ZE (ZQ b0 _) 0;have d1:(w1.alloc (.cells #[.bool true,.int .i64 tat,.int .i64 0,.int .i64 0] 82)).cell? ⟨w.heap.size,1,none⟩=some (.int .i64 Tau):=ZE (ZQ b0 _) 1;go_wp2_with fail;refine(G _).mono ?_;rintro e w2 ⟨rfl,hy⟩;have ha:w2.heap[w1.heap.size]?=some (.cells #[.bool true,.int .i64 tat,.int .i64 0,.int .i64 0] 82):=(hy.block _ (by simp only[Zga];omega)).trans (ZV w1 _);have b2:w2.heap[w.heap.size+1]?=some (.cells #[.bool false,.int .i64 0,.int .i64 0,.int .i64 0] 82):=(hy.block _ (by simp only[Zga];omega)).trans (ZQ b1 _);have a0:=ZX1 ha 0 (.bool true);have a1:=ZX1 ha 1 (.int .i64 tat);have a2:=ZX1 ha 2 (.int .i64 0);have a3:=ZX1 ha 3 (.int .i64 0);have r0:=ZX1 b2 0 (.bool false);have r1:=ZX1 b2 1 (.int .i64 0);have r2:=ZX1 b2 2 (.int .i64 0);have r3:=ZX1 b2 3 (.int .i64 0);have By:=ZG ha 0;have vh:=ZG b2 0;have Bx:=ZG ha 1;have vg:=ZG b2 1;have Bw:=ZG ha 2;have vf:=ZG b2 2;have yq:=ZG ha 3;have ve:=ZG b2 3;have ag:w1.heap.size≠w.heap.size+1:=by omega
 have gk:w.heap.size+1≠w1.heap.size:=by omega
 go_wp2_with fail;have b3:(w2.setCell ⟨w1.heap.size,3,none⟩ (.int .i64 l)).heap[w.heap.size+1]?=some (.cells #[.bool false,.int .i64 0,.int .i64 0,.int .i64 0] 82):=(Zgj w2 ⟨w1.heap.size,3,none⟩ (w.heap.size+1) _ gk).trans b2;refine Zgd (Zgq (p:=8) rfl _ _ (w.heap.size+1) _ #[.bool true,.int .i64 tat,.int .i64 0,.int .i64 l] (0,0) _ rfl (ZBA b3 _ _ _ _) underlying82 ZX0 ZC) rfl ?_;refine⟨rfl,?_⟩;have E1:ZM w w1:=(((ZM.refl w).alloc _).alloc _).trans hx;have E2:ZM w w2:=(E1.alloc _).trans hy;exact((((E2.setCell (by show _<=w1.heap.size;omega) _).setCell (by show _<=w.heap.size+1;omega) _).setCell (by show _<=w.heap.size+1;omega) _).setCell (by show _<=w.heap.size+1;omega) _).setCell (by show _<=w.heap.size+1;omega) _
theorem ZYY {p:Prop}(h:p:=by
 first|(obtain -:=T1;have eq:max tat now=tat:=by omega)|have eq:max tat now=now:=by omega
 rw[eq]at G2 bd ⊢;clear eq;go_enter func53,ntmps53;go_wp2_with fail;refine(G _).mono ?_;rintro e w1 ⟨rfl,hx⟩;have hs:=hx.size;simp only[Zga]at hs;have b0:w1.heap[w.heap.size]?=some (.cells #[.int .i64 T,.int .i64 Tau] 78):=(hx.block _ (by simp only[Zga];omega)).trans (ZQ (ZV w _) _);have b1:w1.heap[w.heap.size+1]?=some (.cells #[.bool false,.int .i64 0,.int .i64 0,.int .i64 0] 82):=(hx.block _ (by simp only[Zga];omega)).trans (ZV (w.alloc _) _ |> λh=>by rwa [Zga]at h);have yu:=ZX1 b0 0 (.int .i64 T);have yt:=ZX1 b0 1 (.int .i64 Tau);have e0:(w1.alloc (.cells #[.bool true,.int .i64 tat,.int .i64 0,.int .i64 0] 82)).cell? ⟨w.heap.size,0,none⟩=some (.int .i64 T):=ZE (ZQ b0 _) 0;first|(obtain -:=T2;have d0:(w1.alloc (.cells #[.bool true,.int .i64 (tat+n*T),.int .i64 0,.int .i64 0] 82)).cell? ⟨w.heap.size,0,none⟩=some (.int .i64 T):=ZE (ZQ b0 _) 0;have d1:(w1.alloc (.cells #[.bool true,.int .i64 (tat+n*T),.int .i64 0,.int .i64 0] 82)).cell? ⟨w.heap.size,1,none⟩=some (.int .i64 Tau):=ZE (ZQ b0 _) 1)|(have d0:(w1.alloc (.cells #[.bool true,.int .i64 (now+n*T),.int .i64 0,.int .i64 0] 82)).cell? ⟨w.heap.size,0,none⟩=some (.int .i64 T):=ZE (ZQ b0 _) 0;have d1:(w1.alloc (.cells #[.bool true,.int .i64 (now+n*T),.int .i64 0,.int .i64 0] 82)).cell? ⟨w.heap.size,1,none⟩=some (.int .i64 Tau):=ZE (ZQ b0 _) 1)
 go_wp2_with fail;refine(G2.o _).mono ?_;rintro e w2 ⟨rfl,hy⟩;first|(obtain -:=T3;have ha:w2.heap[w1.heap.size]?=some (.cells #[.bool true,.int .i64 (tat+n*T),.int .i64 0,.int .i64 0] 82):=(hy.block _ (by simp only[Zga];omega)).trans (ZV w1 _))|have ha:w2.heap[w1.heap.size]?=some (.cells #[.bool true,.int .i64 (now+n*T),.int .i64 0,.int .i64 0] 82):=(hy.block _ (by simp only[Zga];omega)).trans (ZV w1 _)
 have b2:w2.heap[w.heap.size+1]?=some (.cells #[.bool false,.int .i64 0,.int .i64 0,.int .i64 0] 82):=(hy.block _ (by simp only[Zga];omega)).trans (ZQ b1 _);have a0:=ZX1 ha 0 (.bool true);first|(obtain -:=T4;have a1:=ZX1 ha 1 (.int .i64 (tat+n*T)))|have a1:=ZX1 ha 1 (.int .i64 (now+n*T))
 have a2:=ZX1 ha 2 (.int .i64 0);have a3:=ZX1 ha 3 (.int .i64 0);have r0:=ZX1 b2 0 (.bool false);have r1:=ZX1 b2 1 (.int .i64 0);have r2:=ZX1 b2 2 (.int .i64 0);have r3:=ZX1 b2 3 (.int .i64 0);have By:=ZG ha 0;have vh:=ZG b2 0;have Bx:=ZG ha 1;have vg:=ZG b2 1;have Bw:=ZG ha 2;have vf:=ZG b2 2;have yq:=ZG ha 3;have ve:=ZG b2 3;have ag:w1.heap.size≠w.heap.size+1:=by omega
 have gk:w.heap.size+1≠w1.heap.size:=by omega
 go_wp2_with fail;have b3:(w2.setCell ⟨w1.heap.size,3,none⟩ (.int .i64 l2)).heap[w.heap.size+1]?=some (.cells #[.bool false,.int .i64 0,.int .i64 0,.int .i64 0] 82):=(Zgj w2 ⟨w1.heap.size,3,none⟩ (w.heap.size+1) _ gk).trans b2;first|(obtain -:=T5;refine Zgd (Zgq (p:=8) rfl _ _ (w.heap.size+1) _ #[.bool true,.int .i64 (tat+n*T),.int .i64 0,.int .i64 l2] (0,0) _ rfl (ZBA b3 _ _ _ _) underlying82 ZX0 ZC) rfl ?_)|refine Zgd (Zgq (p:=8) rfl _ _ (w.heap.size+1) _ #[.bool true,.int .i64 (now+n*T),.int .i64 0,.int .i64 l2] (0,0) _ rfl (ZBA b3 _ _ _ _) underlying82 ZX0 ZC) rfl ?_
 refine⟨rfl,?_⟩;have E1:ZM w w1:=(((ZM.refl w).alloc _).alloc _).trans hx;have E2:ZM w w2:=(E1.alloc _).trans hy;exact((((E2.setCell (by show _<=w1.heap.size;omega) _).setCell (by show _<=w.heap.size+1;omega) _).setCell (by show _<=w.heap.size+1;omega) _).setCell (by show _<=w.heap.size+1;omega) _).setCell (by show _<=w.heap.size+1;omega) _):p:=h
theorem ZIi (T Tau tat now n w)(h1:1<=T)(h2:T<=4611686018427387903)(h3:0<=Tau)(h4:Tau<=4611686018427387903)(ht:0<=tat)(cj:tat<=4611686018427387903)(hn:0<=now)(bG:now<=4611686018427387903)(hN:0<n)(hG:n<=Xh T Tau tat now)(aK:0<=n*T)(bd:max tat now+n*T<=4611686018427387903): Calls prog 53 #[.agg #[.int .i64 T,.int .i64 Tau],.int .i64 tat,.int .i64 now,.int .i64 n] w λe w'=>e=.returned (.agg #[.bool true,.int .i64 (max tat now+n*T),.int .i64 0,.int .i64 (Xh T Tau (max tat now+n*T) now)])/\ZM w w':=by
 have hl:=ZHz T Tau tat now h1 ht cj bG;have G:=λw=>ZCo T Tau tat now w h1 h2 h3 h4 ht cj hn bG;have G2:=ZA (λw=>ZCo T Tau (max tat now+n*T) now w h1 h2 h3 h4 ZB bd hn bG);generalize Xh T Tau (max tat now+n*T) now=l2 at*;generalize Xh T Tau tat now=l at*;have hd:¬l<n:=by omega
 by_cases hc:tat<now
 ·exact ZYY
 ·obtain⟨T1,T2,T3,T4,T5⟩:=QA;exact ZYY
theorem ZUN (a b w)(h:0<=a)(h':a<=4611686018427387903)(k:0<=b)(k':b<=4611686018427387903):Calls prog 260 #[.int .i64 a,.int .i64 b] w λe w'=>e=.returned (.tuple #[.int .i64 (max (a - b) 0),.int .i64 0])/\w=w':=by
 have CL:∀w,Calls prog 199 #[.int .i64 (a - b)] w λe w'=>e=.returned (.int .i64 (max (a - b) 0))/\w=w':=λw=>by
  by_cases h0:a - b<0
  ·obtain⟨d,hd⟩:=ZX3 (a - b);rw[hd]at h0 ⊢;rw[show max d 0=0 by omega];clear hd;go_enter func199,ntmps199;go_wp2;go_ret;exact⟨rfl,rfl⟩
  ·rw[show max (a - b) 0=min (a - b) 4611686018427387903 by omega];exact ZHH (a - b) w ZB ZB
 go_enter func260,ntmps260;go_wp2_with fail;refine(ZLB a b w h h' k k').mono ?_;rintro e w1 ⟨rfl,rfl⟩;go_wp2_with fail;refine(CL w).mono ?_;rintro e w1 ⟨rfl,rfl⟩;go_wp2_with fail
 go_ret2
 exact⟨rfl,rfl⟩
theorem ZQ2 (T Tau tat now n w)(h1:1<=T)(h2:T<=4611686018427387903)(h3:0<=Tau)(h4:Tau<=4611686018427387903)(ht:0<=tat)(cj:tat<=4611686018427387903)(hn:0<=now)(bG:now<=4611686018427387903)(hN:1<=n)(io:n<=4611686018427387903): Calls prog 98 #[.agg #[.int .i64 T,.int .i64 Tau],.int .i64 tat,.int .i64 now,.int .i64 n] w λe w'=>e=.returned (.int .i64 (ZDf T Tau tat now n))/\ZM w w':=by
 obtain⟨t,rfl⟩:∃t:Nat,T=(t:Int):=⟨T.toNat,by omega⟩;obtain⟨k,rfl⟩:∃k:Nat,n=(k:Int)+1:=⟨(n - 1).toNat,by omega⟩;have nJ:((k:Int)+1 - 1)*(t:Int)=((k*t:Nat):Int):=by rw[show(k:Int)+1 - 1=k by omega,Int.natCast_mul]
 unfold ZDf;rw[nJ];by_cases hm:Tau<((k*t:Nat):Int)
 ·rw[Zgl (.inl hm)];exact ZTL t k Tau tat now w ZB ZB h3 h4 ZB hm
 ·by_cases hq:(4611686018427387903 - max tat now) / (t:Int)<(k:Int)+1
  ·rw[Zgl (.inr hq)];exact ZQ1 t k Tau tat now w ZB ZB h4 ZB ht cj hn bG ZB hq
  ·rw[Zgk (λe=>e.elim hm hq)];exact ZN8 t k Tau tat now w ZB ZB h4 ZB ht cj hn bG (k*t) rfl ZB hq
theorem ZOE (T Tau tat now n w)(h1:1<=T)(h2:T<=4611686018427387903)(h3:0<=Tau)(h4:Tau<=4611686018427387903)(ht:0<=tat)(cj:tat<=4611686018427387903)(hn:0<=now)(bG:now<=4611686018427387903)(io:n<=4611686018427387903)(hG:Xh T Tau tat now<n): Calls prog 53 #[.agg #[.int .i64 T,.int .i64 Tau],.int .i64 tat,.int .i64 now,.int .i64 n] w λe w'=>e=.returned (.agg #[.bool false,.int .i64 tat,.int .i64 (ZDf T Tau tat now n),.int .i64 (Xh T Tau tat now)])/\ZM w w':=by
 have hl:=ZHz T Tau tat now h1 ht cj bG;have G:=λw=>ZCo T Tau tat now w h1 h2 h3 h4 ht cj hn bG;have WT:=ZA (λw=>ZQ2 T Tau tat now n w h1 h2 h3 h4 ht cj hn bG ZB io);generalize Xh T Tau tat now=l at*;generalize ZDf T Tau tat now n=q at*;have cd:¬n<=l:=by omega
 have Lx:=Zgf cd;go_enter func53,ntmps53;go_wp2_with fail;refine(G _).mono ?_;rintro e w1 ⟨rfl,hx⟩;have hs:=hx.size;simp only[Zga]at hs;have b0:w1.heap[w.heap.size]?=some (.cells #[.int .i64 T,.int .i64 Tau] 78):=(hx.block _ (by simp only[Zga];omega)).trans (ZQ (ZV w _) _);have b1:w1.heap[w.heap.size+1]?=some (.cells #[.bool false,.int .i64 0,.int .i64 0,.int .i64 0] 82):=(hx.block _ (by simp only[Zga];omega)).trans (ZV (w.alloc _) _ |> λh=>by rwa [Zga]at h);have E1:=ZA ((((ZM.refl w).alloc _).alloc _).trans hx);have yu:=ZX1 b0 0 (.int .i64 T);have yt:=ZX1 b0 1 (.int .i64 Tau);clear hx;obtain⟨V,hV,xV,-⟩:=Za w1 (.cells #[.bool false,.int .i64 tat,.int .i64 0,.int .i64 0] 82);have ha:V.heap[w1.heap.size]?=some (.cells #[.bool false,.int .i64 tat,.int .i64 0,.int .i64 0] 82 (0,0)):=by rw[<-hV];exact ZV w1 _
 have d0:=ZK b0 xV;have d1:=ZK b1 xV;have e0:=ZX1 d0 0 (.int .i64 T);have e1:=ZX1 d0 1 (.int .i64 Tau);have a0:=ZX1 ha 0 (.bool false);have XV:=ZA (E1.o.trans xV);have hz:w.heap.size+2<=w1.heap.size:=hs;have HV:=ZA hV;clear xV b0 b1 hs hV;go_upto_region 3 with fail
 (try rw[HV.o])
 clear HV;go_wp2_with fail;refine(WT.o _).mono ?_;rintro e w2 ⟨rfl,hy⟩;have jD:=ZK ha hy;have d2:=ZK d0 hy;have d3:=ZK d1 hy;have XW:=ZA (XV.o.trans hy);have dq:=hy.size;have wu:=ZX jD;clear e0 e1 a0 ha d0 d1 hy;have s2:=ZX1 jD 2 (.int .i64 0);have f2:=ZG jD 2;obtain⟨U,hU⟩:=ZX3 (w2.setCell ⟨w1.heap.size,2,none⟩ (.int .i64 q));have yb:U.heap[w1.heap.size]?=some (.cells #[.bool false,.int .i64 tat,.int .i64 q,.int .i64 0] 82 (0,0)):=by rw[<-hU];exact ZR jD 2 _
 have ag:w.heap.size≠w1.heap.size:=by omega
 have bv:w.heap.size+1≠w1.heap.size:=by omega
 have d4:U.heap[w.heap.size]?=some (.cells #[.int .i64 T,.int .i64 Tau] 78):=by rw[<-hU];exact(Zgj w2 ⟨w1.heap.size,2,none⟩ w.heap.size _ ag).trans d2
 have d5:U.heap[w.heap.size+1]?=some (.cells #[.bool false,.int .i64 0,.int .i64 0,.int .i64 0] 82):=by rw[<-hU];exact(Zgj w2 ⟨w1.heap.size,2,none⟩ (w.heap.size+1) _ bv).trans d3
 have XU:=ZA (show ZM w U by rw[<-hU];exact XW.o.setCell (by show _<=w1.heap.size;omega) _);have u0:=ZX1 d4 0 (.int .i64 T);have u1:=ZX1 d4 1 (.int .i64 Tau);have v1:=ZX1 yb 1 (.int .i64 tat);have HU:=ZA hU;clear d2 d3 jD dq hU;go_upto_region 6 with fail
 (try rw[HU.o])
 clear HU s2 f2;go_wp2_with fail;refine(G _).mono ?_;rintro e w3 ⟨rfl,hy⟩;have tr:=ZK yb hy;have d6:=ZK d5 hy;have XZ:=ZA (XU.o.trans hy);clear d4 d5 yb hy u0 u1 v1 G;have a0:=ZX1 tr 0 (.bool false);have a1:=ZX1 tr 1 (.int .i64 tat);have a2:=ZX1 tr 2 (.int .i64 q);have a3:=ZX1 tr 3 (.int .i64 0);have r0:=ZX1 d6 0 (.bool false);have r1:=ZX1 d6 1 (.int .i64 0);have r2:=ZX1 d6 2 (.int .i64 0);have r3:=ZX1 d6 3 (.int .i64 0);have yq:=ZG tr 3;have vh:=ZG d6 0;have vg:=ZG d6 1;have vf:=ZG d6 2;have ve:=ZG d6 3;go_wp2_with fail;have b3:(w3.setCell ⟨w1.heap.size,3,none⟩ (.int .i64 l)).heap[w.heap.size+1]?=some (.cells #[.bool false,.int .i64 0,.int .i64 0,.int .i64 0] 82):=(Zgj w3 ⟨w1.heap.size,3,none⟩ (w.heap.size+1) _ bv).trans d6;refine Zgd (Zgq (p:=8) rfl _ _ (w.heap.size+1) _ #[.bool false,.int .i64 tat,.int .i64 q,.int .i64 l] (0,0) _ rfl (ZBA b3 _ _ _ _) underlying82 ZX0 ZC) rfl ?_;refine⟨rfl,?_⟩;exact((((XZ.o.setCell (by show _<=w1.heap.size;omega) _).setCell (by show _<=w.heap.size+1;omega) _).setCell (by show _<=w.heap.size+1;omega) _).setCell (by show _<=w.heap.size+1;omega) _).setCell (by show _<=w.heap.size+1;omega) _
theorem ZMG (T Tau tat now n w)(h1:1<=T)(h2:T<=4611686018427387903)(h3:0<=Tau)(h4:Tau<=4611686018427387903)(ht:0<=tat)(cj:tat<=4611686018427387903)(hn:0<=now)(bG:now<=4611686018427387903)(hN:0<=n)(io:n<=4611686018427387903): Calls prog 53 #[.agg #[.int .i64 T,.int .i64 Tau],.int .i64 tat,.int .i64 now,.int .i64 n] w λe w'=>e=.returned (.agg #[.bool (ZBq T Tau tat now n).1,.int .i64 (ZBq T Tau tat now n).2.1,.int .i64 (ZBq T Tau tat now n).2.2.1,.int .i64 (ZBq T Tau tat now n).2.2.2])/\ZM w w':=by
 unfold ZBq;by_cases hG:n<=Xh T Tau tat now
 ·rw[Zgl hG];by_cases h0:0<n
  ·rw[Zgl h0];have hb:n*T<=4611686018427387903 - max tat now:=by
    have h9:n<=(4611686018427387903 - max tat now) / T:=by
     unfold Xh at hG
     split at hG
     ·omega
     ·omega
    have h8:=Int.mul_le_mul_of_nonneg_right h9 (show 0<=T by omega);have h7:=Int.ediv_mul_le (4611686018427387903 - max tat now) (show T≠0 by omega);omega
   exact ZIi T Tau tat now n w h1 h2 h3 h4 ht cj hn bG h0 hG (Int.mul_nonneg hN ZB) ZB
  ·rw[Zgk h0];have:n=0:=by omega
   subst this;exact ZKU T Tau tat now w h1 h2 h3 h4 ht cj hn bG
 ·rw[Zgk hG];exact ZOE T Tau tat now n w h1 h2 h3 h4 ht cj hn bG io ZB
theorem ZH0 (T Tau A n c)(l:List Int)(w)(h1:1<=T)(h2:T<=4611686018427387903)(h3:0<=Tau)(h4:Tau<=4611686018427387903)(hl:l.length=n)(hn:n<=1000)(hr:Rd w A (Zn l))(hk:∀t ∈ l,0<=t/\t<=4611686018427387903): Calls prog 52 #[.agg #[.int .i64 T,.int .i64 Tau],.slice A n c] w (Xj (.int .i64 0) w):=by
 obtain⟨V1,V2,V3,V4,V5,V6,V7,V8⟩:=QA;exact ZYL
theorem ZMH (T Tau tat now n w)(h1:1<=T)(h2:T<=4611686018427387903)(h3:0<=Tau)(h4:Tau<=4611686018427387903)(ht:0<=tat)(cj:tat<=4611686018427387903)(hn:0<=now)(bG:now<=4611686018427387903)(hN:0<=n)(io:n<=4611686018427387903): Calls prog 280 #[.agg #[.int .i64 T,.int .i64 Tau],.int .i64 tat,.int .i64 now,.int .i64 n] w λe w'=>e=.returned (.tuple #[.agg #[.bool (ZBq T Tau tat now n).1,.int .i64 (ZBq T Tau tat now n).2.1,.int .i64 (ZBq T Tau tat now n).2.2.1,.int .i64 (ZBq T Tau tat now n).2.2.2],.int .i64 0])/\ZM w w':=by
 have DC:=ZA (λw=>ZMG T Tau tat now n w h1 h2 h3 h4 ht cj hn bG hN io);obtain⟨q,Hq⟩:=ZX2 (ZBq T Tau tat now n);rw[Hq.o]at DC ⊢;have CK:=ZA (λ(w:World) (A:Option Addr) (c:Nat) (hr:Rd w A (Zn [tat,now,n]))=>ZH0 T Tau A 3 c [tat,now,n] w h1 h2 h3 h4 rfl ZB hr (by simp;omega));clear h1 h2 h3 h4 ht cj hn bG hN io;go_enter func280,ntmps280;go_wp2_with fail;refine(CK.o _ _ _ (JP _ [Value.int .i64 tat,.int .i64 now,.int .i64 n] _ ZXz)).mono ?_;rintro e w1 ⟨rfl,hx⟩;have b0:=ZK (ZQ (ZQ (ZV w (.cells #[.int .i64 T,.int .i64 Tau] 78)) _) _) hx;have b1:=ZK (ZQ (Zi (w.alloc (.cells #[.int .i64 T,.int .i64 Tau] 78)) (.cells #[.bool false,.int .i64 0,.int .i64 0,.int .i64 0] 82) (k:=w.heap.size+1) ZXz) _) hx;have X1:=ZA (((((ZM.refl w).alloc _).alloc _).alloc _).trans hx);have c0:=ZX1 b0 0 (.int .i64 T);have c1:=ZX1 b0 1 (.int .i64 Tau);have B1:=ZA b1;clear hx b0 b1;go_wp2_with fail;refine(DC.o _).mono ?_;rintro e w2 ⟨rfl,hx⟩;have b2:=ZK B1.o hx;have X2:=ZA (X1.o.trans hx);have r0:=ZX1 b2 0 (.bool false);have r1:=ZX1 b2 1 (.int .i64 0);have r2:=ZX1 b2 2 (.int .i64 0);have r3:=ZX1 b2 3 (.int .i64 0);have vh:=ZG b2 0;have vg:=ZG b2 1;have vf:=ZG b2 2;have ve:=ZG b2 3;have B2:=ZA b2;clear hx b2;go_wp2_with fail;refine Zgd (Yy (p:=8) (u:=9) rfl _ _ (w.heap.size+1) _ #[.bool q.1,.int .i64 q.2.1,.int .i64 q.2.2.1,.int .i64 q.2.2.2] (0,0) _ rfl (ZBA B2.o _ _ _ _) underlying82 ZX0 ZC) rfl ?_;exact⟨rfl,(((X2.o.setCell (by show _<=w.heap.size+1;omega) _).setCell (by show _<=w.heap.size+1;omega) _).setCell (by show _<=w.heap.size+1;omega) _).setCell (by show _<=w.heap.size+1;omega) _⟩
theorem ZRD (T Tau tat now w)(h1:1<=T)(h2:T<=4611686018427387903)(h3:0<=Tau)(h4:Tau<=4611686018427387903)(ht:0<=tat)(cj:tat<=4611686018427387903)(hn:0<=now)(bG:now<=4611686018427387903): Calls prog 259 #[.agg #[.int .i64 T,.int .i64 Tau],.int .i64 tat,.int .i64 now] w λe w'=>e=.returned (.tuple #[.int .i64 (Xh T Tau tat now),.int .i64 0])/\ZM w w':=by
 have LF:=ZA (λw=>ZCo T Tau tat now w h1 h2 h3 h4 ht cj hn bG);obtain⟨q,Hq⟩:=ZX2 (Xh T Tau tat now);rw[Hq.o]at LF ⊢;have CK:=ZA (λ(w:World) (A:Option Addr) (c:Nat) (hr:Rd w A (Zn [tat,now]))=>ZH0 T Tau A 2 c [tat,now] w h1 h2 h3 h4 rfl ZB hr (by simp;omega));clear h1 h2 h3 h4 ht cj hn bG;go_enter func259,ntmps259;go_wp2_with fail;refine(CK.o _ _ _ (JP _ [Value.int .i64 tat,.int .i64 now] _ ZXz)).mono ?_;rintro e w1 ⟨rfl,hx⟩;have b0:=ZK (ZQ (ZV w (.cells #[.int .i64 T,.int .i64 Tau] 78)) _) hx;have X1:=ZA ((((ZM.refl w).alloc _).alloc _).trans hx);have c0:=ZX1 b0 0 (.int .i64 T);have c1:=ZX1 b0 1 (.int .i64 Tau);clear hx b0;go_wp2_with fail;refine(LF.o _).mono ?_;rintro e w2 ⟨rfl,hx⟩;have X2:=ZA (X1.o.trans hx);clear hx;go_wp2_with fail
 go_ret2
 exact⟨rfl,X2.o⟩
theorem ZMZ (w:World)(X:Zhf)(g:Zz)(who xb j shards:Nat)(gone:Int)(x:ZW)(res:Bool)(ser:Int)(hX:YE w X)(hx:XAt w X g.gx who x res ser xb)(hg:ZBi w X g)(hj:j<=31): Calls prog 134 #[ZH xb,.int .i64 j,.int .i64 shards,.int .i64 gone] w (ClR (λw' v=>Zk w' X (Zo g who xb x) v (.find j (.evict j shards gone))) w):=by
 have bU:=Jt;obtain⟨K,kc,x0,x1,x2,x3,x4,x5,x6,x7,x8,-,-,-⟩:=hx.cells;obtain⟨W,hW⟩:=ZX3 (((((w.alloc (.cells #[ZH xb] 203)).alloc (.cells #[.int .i64 j] 3)).alloc (.cells #[.int .i64 shards] 3)).alloc (.cells #[.int .i64 gone] 2)));have xW:ZM w W:=by rw[<-hW];exact(((((ZM.refl w).alloc _).alloc _).alloc _).alloc _)
 have r0:Zh W X (ZH w.heap.size) #[ZH xb]:=by rw[<-hW];exact((((Zh.new rfl (hX.not ZB)).past _).past _).past _)
 have r1:Zh W X (ZH (w.heap.size+1)) #[.int .i64 j]:=by rw[<-hW];exact(((Zh.new ZXz (hX.not ZB)).past _).past _)
 have r2:Zh W X (ZH (w.heap.size+1+1)) #[.int .i64 shards]:=by rw[<-hW];exact((Zh.new ZXz (hX.not ZB)).past _)
 have r3:Zh W X (ZH (w.heap.size+1+1+1)) #[.int .i64 gone]:=by rw[<-hW];exact(Zh.new ZXz (hX.not ZB))
 obtain⟨W2,cN,el,-⟩:=Za W (.cells #[YD 177 #[ZH (w.heap.size+1),ZH (w.heap.size+1+1),ZH w.heap.size]] 311);have aG:W.heap.size=w.heap.size+4:=by rw[<-hW];simp
 have r4:Zh W2 X (ZH W.heap.size) #[YD 177 #[ZH (w.heap.size+1),ZH (w.heap.size+1+1),ZH w.heap.size]]:=by rw[<-cN];exact Zh.new rfl (hX.not ZB)
 have oS:=r0.ext el;have vV:=r1.ext el;have zP:=r2.ext el;have zO:=r3.ext el
 have FD:=ZA (λu (y:ZM W2 u)=>ZFw u X (Zo g who xb x) j (YD 180 #[ZH W.heap.size,ZH (w.heap.size+1+1+1),ZH w.heap.size]) (.evict j shards gone) (hX.ext ((xW.trans el).trans y))
  ⟨_,_,_,_,rfl,r4.ext y,⟨_,_,_,rfl,vV.ext y,zP.ext y,oS.ext y⟩,zO.ext y,oS.ext y⟩)
 have f0:=oS.ZX6 0 (ZH xb);have f1:=vV.ZX6 0 (.int .i64 j);have f4:=ZF (xW.trans el) x4;have f5:=ZF (xW.trans el) x5;have f2:=ZF (xW.trans el) hg.c2;have XW:=ZA (xW.trans el);have Lq:IntKind.u64.wrap (j:Int)=(j:Int):=by rw[Zef];omega
 clear hx hg x0 x1 x2 x3 x4 x5 x6 x7 x8 r0 r1 r2 r3 r4 oS vV zP zO xW el hX aG;go_enter func134,ntmps134;go_upto_region 1 with fail
 (try rw[hW])
 clear hW;go_upto_region 2 with fail
 (try rw[cN])
 clear cN
 go_region_held3 (λw'=>w'.cell? ⟨w.heap.size,0,none⟩=some (ZH xb)/\w'.cell? ⟨w.heap.size+1,0,none⟩=some (.int .i64 j)/\w'.cell? ⟨xb,4,none⟩=some (ZH g.gx)/\w'.cell? ⟨g.gx,2,none⟩=some (ZH g.gl)/\w'.cell? ⟨xb,5,none⟩=some (.int .i64 who)) (((try go_split_ands);exact⟨ZX7,ZX7,ZX7,ZX7,ZX7⟩)) ((go_at_call 179;(with_reducible refine(FD.o _ (ZM.refl W2).drew).mono ?_);rintro e w2 ⟨v,rfl,hk,hx⟩;have HK:=ZA hk;have HX:=ZA hx;have bd:=(ZM.refl W2).drew.trans hx;have fQ:=ZF bd f0;have kv:=ZF bd f1;have mT:=ZF bd f4;have jn:=ZF bd f2;have oO:=ZF bd f5;clear hk hx bd))
 all_goals
  go_wp2_with fail;go_ret;exact⟨_,rfl,HK.o,XW.o.trans ((ZM.refl W2).drew.trans HX.o)⟩
theorem XH.fn{j:Nat}(h:XH w X d v j shards):∃f c,v=YD f c:=by
 obtain⟨r0,r1,r2,h0,_⟩:=h;exact⟨_,_,h0⟩
theorem XH.hen{f:FuncId}{aa:Array Value}{j:Nat}(h:XH w X d (YD f aa) j shards):∀(ar:Array Value) (u:World),(callFunc f (ar++aa)).run prog u=.ok (.enter f (ar++aa)) u:=by
 obtain⟨r0,r1,r2,h0,_⟩:=h;injection h0 with h0 _ h2;injection h0 with h0;subst h0;exact λ_ _=>rfl
theorem ZYW {p:Prop}(h:p:=by
 first
 |obtain -:=T1;have HE:=ZA (show Zs.on (.find j1 (.evict j1 shards gone))=out by rw[<-Hout.o];unfold Zu;rw[Zgk (by rw[Hj.o];exact hl),Hj.o]);have hb:((j1:Int)==(shards:Int))=false:=by rw[Zgb];omega
  clear hl hj hs EN;go_enter func177,ntmps177;go_upto_region 1 with fail;(try rw[HW.o]);clear HW;go_wp2_with fail;refine EV.o.mono ?_;rintro e w2 ⟨v,rfl,hk,hx⟩;have ON:=ZAI hk;rw[HE.o]at ON;have ON:=ZA ON;have X1:=ZA (XW.o.trans hx);have K2:=ZA (ZK K0.o hx);clear hk hx;go_wp2_with fail;refine ON.o.mono ?_;rintro e w3 ⟨nv,done,r',rfl,ho,hx⟩
 |obtain -:=T2;have HE:=ZA (show Zu j shards gone=out by rw[<-Hout.o,Zgl hl]);rw[HE.o]at FU;have hb:((n:Int)==0)=true:=by rw[Zgc];omega
  clear hl hj hs hn;go_enter func180,ntmps180;go_upto_region 1 with fail;(try rw[HW.o]);clear HW;go_wp2_with fail;refine FU.o.mono ?_;rintro e w2 ⟨nv,done,r',rfl,ho,hx⟩
 |obtain -:=T3;have HE:=ZA (show Zs.on (.evScan j shards gone word u cells)=out by rw[<-Hout.o,Zgk hl]);have hb:((n:Int)==0)=false:=by rw[Zgb];omega
  have ON:=ZAI HKT.o;rw[HE.o]at ON;have ON:=ZA ON;clear hl hj hs hn FU;go_enter func180,ntmps180;go_upto_region 1 with fail;(try rw[HW.o]);clear HW;go_wp2_with fail;refine ON.o.mono ?_;rintro e w3 ⟨nv,done,r',rfl,ho,hx⟩
 |obtain -:=T4;have AL:=ZA (show Calls prog 192 #[ZH xb,.agg #[.int .u8 (p.kind:Int),.int .i64 p.T,.int .i64 p.Tau,.int .i64 p.perm],.agg #[.int .i64 word,.int .u64 u,.slice A n c],.int .i64 at_,.bool has,.agg #[.int .i64 (ce.pol:Int),.slice r.K ce.key.length r.kc,.int .i64 ce.tat,.slice r.H ce.held.length r.hc]] wc (ClR (λw' v=>Zk w' (XG X w.heap.size) ⟨jW,who,xb,p⟩ v (.allow ⟨word,u,cells,at_,has⟩ ce)) wc)from ZTq wc (XG X w.heap.size) ⟨jW,who,xb,p⟩ ⟨word,u,cells,at_,has⟩ n c A rs ce r rB.o HN.o vB.o mO.o);rw[hop]at x0;have HE:=ZA (show Zs.on (.allow ⟨word,u,cells,at_,has⟩ ce)=out by rw[<-Hout.o];unfold ZDm;rw[Zgl hop]);go_wp2_with fail;refine AL.o.mono ?_;rintro e w2 ⟨v,rfl,hk,hx⟩;have ON:=ZAI hk;rw[HE.o]at ON;have ON:=ZA ON;have X1:=ZA (XX.o.trans hx);have K2:=ZA (ZK fL.o hx);clear hk hx;go_wp2_with fail;refine ON.o.mono ?_;rintro e w2 ⟨nv,done,r',rfl,ho,hx⟩
 |obtain -:=T5;have AC:=ZA (show Calls prog 193 #[ZH xb,.agg #[.int .u8 (p.kind:Int),.int .i64 p.T,.int .i64 p.Tau,.int .i64 p.perm],.agg #[.int .i64 word,.int .u64 u,.slice A n c],.int .i64 at_,.bool has,.agg #[.int .i64 (ce.pol:Int),.slice r.K ce.key.length r.kc,.int .i64 ce.tat,.slice r.H ce.held.length r.hc]] wc (ZAi (XG X w.heap.size) ⟨jW,who,xb,p⟩ (Xd p g.room res ser ⟨word,u,cells,at_,has⟩ ce) wc)from by
   have hF:=ZMc (P:=g.P) HCOK.o (by rw[rE.o];exact HPK.o) (by rw[rE.o];exact HOS.o (.inl hop));rw[rE.o,Hp.o]at hF;unfold Xd;by_cases hb:(ce.held.length:Int)=p.perm
   ·rw[Zgl hb];exact ZIo wc (XG X w.heap.size) ⟨jW,who,xb,p⟩ ⟨word,u,cells,at_,has⟩ n c A ce r res rB.o HN.o hb y7.out
   ·rw[Zgk hb];rcases lA.o with hs|⟨hs,hm⟩
    ·subst hs;rw[Zgk ZB];exact ZII wc (XG X w.heap.size) ⟨jW,who,xb,p⟩ ⟨word,u,cells,at_,has⟩ n c A rs ce r rB.o HN.o vB.o mO.o hb y8.out
    ·rw[Zgl (by have:=hs.1;omega)];exact ZIn wc (XG X w.heap.size) ⟨jW,who,xb,p⟩ ⟨word,u,cells,at_,has⟩ n c A rs ce r ser res g.gx g.room rB.o HN.o vB.o mO.o (show(ce.held.length:Int)<p.perm by have:=hF.2.2.1;omega) y8.out hs hF hm y4.out y7.out R1.o)
  rw[hop]at x0;have HE:=ZA (show Xd p g.room res ser ⟨word,u,cells,at_,has⟩ ce=out by rw[<-Hout.o];unfold ZDm;rw[Zgk ZB,Zgl hop]);rw[HE.o]at AC;go_wp2_with fail;refine AC.o.mono ?_;rintro e w2 ⟨nv,done,r',rfl,ho,hx⟩
 |obtain -:=T6;have fb:((rep.er:Int)==0)=false:=by rw[Zgb];omega
  have HE:=ZA (show Zs.fin rep=out by rw[<-Hout.o];unfold ZDm;rw[Zgk ZB,Zgk ZB,Zgl hop,Hrep.o,Zgl uO]);have EN:=ZA (λv=>ZCT v (XG X w.heap.size) ⟨jW,who,xb,p⟩ rep);rw[HE.o]at EN;clear kb7 fR lU lT be bd ux x0 x3 g0 p0 p1 p2 p3 c0 c1 c2 c3 uO;go_wp2_with fail;refine(EN.o _).mono ?_;rintro e w2 ⟨nv,done,r',rfl,ho,hx⟩
 |obtain -:=T7;have fb:((rep.er:Int)==0)=true:=by rw[Zgc];omega
  have HE:=ZA (show Zs.on (Ji g.room res ⟨word,u,cells,at_,has⟩ cP rep)=out by rw[<-Hout.o];unfold ZDm;rw[Zgk ZB,Zgk ZB,Zgl hop,Hrep.o,Zgk uO,Hce2.o]);obtain⟨Dd,Houtk⟩:=ZX2 (Ji g.room res ⟨word,u,cells,at_,has⟩ cP rep);have PT:=ZOR wc (XG X w.heap.size) ⟨jW,who,xb,p⟩ ⟨word,u,cells,at_,has⟩ n c A rs cP r9 rep res g.gx g.room (rB.o.ext bd) HN.o (vB.o.kp (Kp.ext _ bd)) be (ZF bd y4.out) (ZF bd y7.out) (ZF bd R1.o);rw[Houtk.o]at PT HE;dsimp only at PT;have PT:=ZA PT;have uu:=ZK tP.o (fM.o.trans bd);have f0:=ZX1 uu 0 (.int .i64 word);have f1:=ZX1 uu 1 (.int .u64 u);have f2:=ZX1 uu 2 (.slice A n c);have LL:=(H0.o.ext ux).ZX6 0 (ZH xb);have d0:=ZX1 fR 0 (.int .i64 (cP.pol:Int));have d1:=ZX1 fR 1 (.slice r9.K cP.key.length r9.kc);have d2:=ZX1 fR 2 (.int .i64 cP.tat);have d3:=ZX1 fR 3 (.slice r9.H cP.held.length r9.hc);clear kb7 fR lU lT be bd ux uu x0 x3 g0 p0 p1 p2 p3 c0 c1 c2 c3 uO;go_wp2_with fail;refine PT.out.mono ?_;rintro e w2 ⟨v,rfl,hk,hx⟩;have ON:=ZAI hk;rw[HE.o]at ON;have ON:=ZA ON;have X1:=ZA (BI.o.trans hx);have K2:=ZA (ZK bR.o hx);clear hk hx;go_wp2_with fail;refine ON.o.mono ?_;rintro e w3 ⟨nv,done,r',rfl,ho,hx⟩
 |obtain -:=T8;have HE:=ZA (show Zs.fin (ZHk p ce)=out by rw[<-Hout.o];unfold ZDm;rw[Zgk ZB,Zgk ZB,Zgk ZB,Zgl h2]);have pG:=HPK.o;rw[Hp.o]at pG;have PK:=ZA (λv=>ZOg v p ce r 0 h2 HCOK.o.2.2.2.2.2.2.1 (by rcases pG with h|h<;>omega) (by rcases pG with h|h<;>omega));have EN:=ZA (λv=>ZCT v (XG X w.heap.size) ⟨jW,who,xb,p⟩ (ZHk p ce));clear pG;rw[h2]at p0 PK;rw[HE.o]at EN;go_wp2_with fail;refine(PK.o _).mono ?_;rintro e w2 ⟨rfl,hx⟩;have X1:=ZA (XX.o.trans hx);have K2:=ZA (ZK fL.o hx);clear hx;go_wp2_with fail;refine(EN.o _).mono ?_;rintro e w2 ⟨nv,done,r',rfl,ho,hx⟩
 |obtain -:=T9;have HE:=ZA (show Zs.on (.peek ce)=out by rw[<-Hout.o];unfold ZDm;rw[Zgk ZB,Zgk ZB,Zgk ZB,Zgk h2]);have di:((p.kind:Int)==2)=false:=by rw[Zgb];omega
  have bU:=Jt;have KT:Zk wc (XG X w.heap.size) ⟨jW,who,xb,p⟩ (YD 197 #[ZH q1,ZH b,ZH q0]) (.peek ce):=by
   have kp:=vz.o.trans (Kp.ext (XG X w.heap.size) fM.o);have h1:=H1.o.kp kp;rw[Hp.o]at h1;exact⟨_,_,_,rfl,h1,⟨r,⟨b,t,rfl,kB.out,ir.o.not E6.out⟩,mO.o⟩,H0.o.kp kp⟩
  have ON:=ZAI KT;rw[HE.o]at ON;have ON:=ZA ON;clear KT;go_wp2_with fail;refine ON.o.mono ?_;rintro e w2 ⟨nv,done,r',rfl,ho,hx⟩
 |have HE:=ZA (show Zs.fin ⟨0,false,gone,0,0,0⟩=out by rw[<-Hout.o];unfold Zu;rw[Zgl (Hj.o.trans hl)]);rw[HE.o]at EN;have hb:((j1:Int)==(shards:Int))=true:=by rw[Zgc];omega
  clear hl hj hs EV;go_enter func177,ntmps177;go_upto_region 1 with fail;(try rw[HW.o]);clear HW;go_wp2_with fail;refine EN.o.mono ?_;rintro e w2 ⟨nv,done,r',rfl,ho,hx⟩
 have HO:=ZA ho;first|(obtain -:=T10;have cZ:=ZA (XW.o.trans hx);have K3:=ZA (ZK K0.o hx))|(obtain -:=T11;have cZ:=ZA (XX.o.trans hx);have K3:=ZA (ZK fL.o hx))|(obtain -:=T12;have cZ:=ZA (BI.o.trans hx);have K3:=ZA (ZK bR.o hx))|(have cZ:=ZA (X1.o.trans hx);have K3:=ZA (ZK K2.o hx))
 obtain⟨s0,z0,s1,z1,s2,z2,s3,z3,s4,z4,s5,z5,s6,z6⟩:=ZYD K3.o;clear ho hx;go_wp2_with fail;first|(obtain -:=T13;refine Zgd (ZP (p:=6) (u:=5) rfl _ _ (w.heap.size) _ #[.bool done,.int .i64 (r'.er:Int),.bool r'.granted,.int .i64 r'.left,.int .i64 r'.wait,.int .i64 r'.ser,.int .i64 r'.now] (0,0) _ rfl (Yv K3.o _ _ _ _ _ _ _) underlying41 ZX0 ZC) rfl ?_)|(obtain -:=T14;refine Zgd (ZP (p:=10) (u:=9) rfl _ _ (w.heap.size+1+1+1) _ #[.bool done,.int .i64 (r'.er:Int),.bool r'.granted,.int .i64 r'.left,.int .i64 r'.wait,.int .i64 r'.ser,.int .i64 r'.now] (0,0) _ rfl (Yv K3.o _ _ _ _ _ _ _) underlying41 ZX0 ZC) rfl ?_)|refine Zgd (ZP (p:=9) (u:=8) rfl _ _ (w.heap.size) _ #[.bool done,.int .i64 (r'.er:Int),.bool r'.granted,.int .i64 r'.left,.int .i64 r'.wait,.int .i64 r'.ser,.int .i64 r'.now] (0,0) _ rfl (Yv K3.o _ _ _ _ _ _ _) underlying41 ZX0 ZC) rfl ?_
 first|(obtain -:=T15;exact Yz HO.o cZ.o ZB _ _ _ _ _ _ _)|exact Yz HO.o cZ.o (Zf6 _) _ _ _ _ _ _ _):p:=h
theorem ZDA (w X)(g:Zz)(who xb j shards gone x res ser f)(aa:Array Value)(hX:YE w X)(hx:XAt w X g.gx who x res ser xb)(hg:ZBi w X g)(h:XH w X (Zo g who xb x) (YD f aa) j shards)(hj:j<shards)(hs:shards<=16): Calls prog f (#[.int .i64 gone]++aa) w (ZAi X (Zo g who xb x) (Zu j shards gone) w):=by
 obtain⟨r0,r1,r2,aj,k0,k1,k2⟩:=h;injection aj with aj h1 h2;injection aj with aj;subst aj h2;obtain⟨b0,rfl,l0⟩:=k0.ptr;obtain⟨b1,rfl,l1⟩:=k1.ptr;obtain⟨b2,rfl,l2⟩:=k2.ptr;obtain⟨W,hW,xW,K0⟩:=Za w ZYE;have e0:=(k0.ext xW).ZX6 0 (.int .i64 j);have e1:=(k1.ext xW).ZX6 0 (.int .i64 shards);have e2:=(k2.ext xW).ZX6 0 (ZH xb);obtain⟨j1,Hj⟩:=ZX2 (j+1);have Lp:IntKind.i64.wrap ((j:Int)+1)=(j1:Int):=by have:=Hj.o;rw[Zee];omega
 have kp:=kpg (X:=X) xW (Zf6 w.heap.size);have EV:=ZA (ZMZ W (XG X w.heap.size) g who xb j1 shards gone x res ser (hX.xg xW (ZX K0.o)) (hx.kp kp (xW.block _ (by obtain⟨t,K,kc,e,_⟩:=hx;exact ZX e))) ⟨ZF xW hg.c0,ZF xW hg.c1,ZF xW hg.c2,ZF xW hg.l0,ZF xW hg.l1,ZF xW hg.b0,hg.prd.ext xW,hg.pfz.kp kp⟩ (by have:=Hj.o;omega));have EN:=ZA (ZCT W (XG X w.heap.size) (Zo g who xb x) ⟨0,false,gone,0,0,0⟩);have XW:=ZA xW;have HW:=ZA hW;obtain⟨out,Hout⟩:=ZX2 (Zu j shards gone);rw[Hout.o];clear k0 k1 k2 hX hx hg xW hW kp l0 l1 l2;show Calls prog 177 #[.int .i64 gone,ZH b0,ZH b1,ZH b2] w _;by_cases hl:j1=shards
 ·obtain⟨T10,T13⟩:=QA;exact ZYW
 ·obtain⟨T1,T13⟩:=QA;exact ZYW
theorem ZBi.kp2(h:ZBi w X g)(k:Kp w w' X X')(x:ZM w w'):ZBi w' X' g:=⟨ZF x h.c0,ZF x h.c1,ZF x h.c2,ZF x h.l0,ZF x h.l1,ZF x h.b0,h.prd.ext x,h.pfz.kp k⟩
theorem XAt.kp2{gx who xb:Nat}{x:ZW}{res:Bool}{ser:Int}(h:XAt w X gx who x res ser xb)(k:Kp w w' X X')(y:ZM w w'):XAt w' X' gx who x res ser xb:=h.kp k (y.block _ (by obtain⟨t,K,kc,e,_⟩:=h;exact ZX e))
theorem ZYk {p:Prop}(h:p:=by
 obtain⟨b,t,e1,e2,e3⟩:=h;refine⟨b,t,e1,e2,λe=>e.elim e3 (λe=>?_)⟩;injection e1 with e1;injection e1 with e1;injection e1 with e1;omega):p:=h
theorem ZNr (w X)(g:Zz)(who xb j shards word u n c gone x res ser A)(cells:List ZL)(rs f)(aa:Array Value)(hX:YE w X)(hx:XAt w X g.gx who x res ser xb)(hg:ZBi w X g)(h:Jg w X (Zo g who xb x) (YD f aa) (.evict j shards gone))(hj:j<shards)(hs:shards<=16)(hn:cells.length=n)(hC:Zw w X A cells rs): Calls prog f (#[.int .i64 word,.int .u64 u,.slice A n c]++aa) w (ZAi X (Zo g who xb x) (if cells.length=0 then Zu j shards gone else .on (.evScan j shards gone word u cells)) w):=by
 have bU:=Jt;obtain⟨q0,q1,q2,fv,aj,k0,kf,k1,k2⟩:=h;injection aj with aj h1 h2;injection aj with aj;subst aj h2;obtain⟨ff,fc,rfl⟩:=kf.fn;obtain⟨b0,rfl,l0⟩:=k0.ptr;obtain⟨b1,rfl,l1⟩:=k1.ptr;obtain⟨b2,rfl,l2⟩:=k2.ptr;obtain⟨W,hW⟩:=ZX3 (((((w.alloc (.cells #[.int .i64 word] 3)).alloc (.cells #[.int .u64 u] 52)).alloc (.cells #[.slice A n c] 56)).alloc ZYE));have xW:ZM w W:=by rw[<-hW];exact(((((ZM.refl w).alloc _).alloc _).alloc _).alloc _)
 have K0:=ZA (show W.heap[w.heap.size+1+1+1]?=some ZYE by rw[<-hW];exact Zi _ _ ZXz);have e0:=(k0.ext xW).ZX6 0 (YD ff fc);have e1:=(k1.ext xW).ZX6 0 (.int .i64 gone);have e8:W.cell? ⟨w.heap.size+1+1,0,none⟩=some (.slice A n c):=by rw[<-hW];exact(((Zh.new ZXz (hX.not ZB)).past _):Zh _ X _ #[.slice A n c]).cell 0
 have kp:=kpg (X:=X) xW (show w.heap.size<=w.heap.size+1+1+1 by omega);have pZ:=hX.xg xW (ZX K0.o);obtain⟨out,Hout⟩:=ZX2 ((if cells.length=0 then Zu j shards gone else .on (.evScan j shards gone word u cells)));rw[Hout.o];rw[hn]at Hout;have rr:∀(i:Nat) (cs:Array Value),Zh W X (ZH i) cs->i≠w.heap.size+1+1+1->Zh W (XG X (w.heap.size+1+1+1)) (ZH i) cs:=λi cs h hi=>by
  exact ZYk
 have FU:=ZA (ZDA W (XG X (w.heap.size+1+1+1)) g who xb j shards gone x res ser ff fc pZ (hx.kp2 kp xW) (hg.kp2 kp xW) (kf.kp kp) hj hs);have KT:Zk W (XG X (w.heap.size+1+1+1)) (Zo g who xb x) (YD 181 #[ZH b2,ZH (w.heap.size+1+1),ZH b0,ZH b1,ZH w.heap.size,ZH (w.heap.size+1)]) (.evScan j shards gone word u cells):=⟨_,_,_,_,_,_,_,rfl,k2.kp kp,⟨A,c,rs,by rw[hn];exact rr _ _ (by rw[<-hW];exact((Zh.new ZXz (hX.not ZB)).past _)) ZB,hC.kp kp⟩,k0.kp kp,kf.kp kp,k1.kp kp,rr _ _ (by rw[<-hW];exact((((Zh.new rfl (hX.not ZB)).past _).past _).past _)) ZB,rr _ _ (by rw[<-hW];exact(((Zh.new ZXz (hX.not ZB)).past _).past _)) ZB⟩;have HKT:=ZA KT;have XW:=ZA xW;have HW:=ZA hW;have hen:=kf.hen;clear k0 k1 k2 hX hx hg xW hW kp l0 l1 l2 hC rr KT pZ kf;show Calls prog 180 #[.int .i64 word,.int .u64 u,.slice A n c,ZH b0,ZH b1,ZH b2] w _;by_cases hl:n=0
 ·obtain⟨T2,T10,T14,T15⟩:=QA;exact ZYW
 ·obtain⟨T3,T10,T14,T15⟩:=QA;exact ZYW
theorem ZQv (w g O C xb)(L:List Zg)(s:Z9)(who u x res ser f)(aa:Array Value)(h:YQ w g O C xb L s)(hc:s.call who=.run x res ser .evFirst)(hL:L.length<=100000)(hw:who<64)(hu:s.ws.getD 0 0=u)(DJ:u<=8)(hk:Zk w (XO C O) (Zo g who (xb who) x) (YD f aa) .evFirst): Calls prog f aa w (SK w g O C xb who (L.length+1) x s (.on (.find 0 (.evict 0 (2 ^ ((u+1) / 2)) 0)))):=by
 obtain⟨V1,V3,V4,V6,V8,V10,V12,V14,V16,V18,V19,V20⟩:=QA;exact QU
theorem ZGY (e:Nat)(w:World): Calls prog 130 #[.int .i64 e] w λen w'=>en=.returned (.agg #[.bool true,.int .i64 e,.bool false,.int .i64 0,.int .i64 0,.int .i64 0,.int .i64 0])/\ZM w w':=by
 go_enter func130,ntmps130;go_wp2_with fail;refine Zgd (Zgq (p:=2) rfl _ _ w.heap.size _ #[.bool true,.int .i64 e,.bool false,.int .i64 0,.int .i64 0,.int .i64 0,.int .i64 0] (0,0) _ rfl (ZV w _) underlying41 ZX0 ZC) rfl ?_;exact⟨rfl,(ZM.refl w).alloc _⟩
theorem ZIF (w X):Zw w X none [] []:=Zw.nil w X
theorem QV {p:Prop}(h:p:=by
 first|(obtain -:=V1;obtain⟨p0,p1,p2,p3,aj,⟨k0,k1⟩,k2,k3⟩:=hk)|obtain⟨p0,p1,p2,p3,p4,p5,aj,⟨k0,k1⟩,k2,k3,k4,k5⟩:=hk
 injection aj with aj h1 h2;injection aj with aj;subst aj h2;first|(obtain -:=V2;rw[show d / 2=lv by omega]at k5)|skip
 obtain⟨b0,rfl,l0⟩:=k0.ptr;obtain⟨b1,rfl,l1⟩:=k1.ptr;obtain⟨b2,rfl,l2⟩:=k2.ptr;obtain⟨b3,rfl,l3⟩:=k3.ptr;first|(obtain -:=V3)|(obtain⟨b4,rfl,l4⟩:=k4.ptr;obtain⟨b5,rfl,l5⟩:=k5.ptr)
 obtain⟨W,hW,xW,K0⟩:=Za w ZYE;have hA:=h.xg xW (Zf6 _) (ZX K0.o);first
 |obtain -:=V4;obtain⟨d2,Hd2⟩:=ZX2 (d+1);have SW:=ZA (λu' (y:ZM W u')=>(show Calls prog 80 #[ZH g.gb,.int .i64 who,.int .i64 0,.int .u64 d,.int .u64 d2,.slice none 0 0] u' _ from ZAp u' g (XG O w.heap.size) C xb L s who 0 u d d2 0 0 (d2:Int) none (hA.ext y) ZB hw ZB hu ag rfl))
 |obtain -:=V5;obtain⟨d2,Hd2⟩:=ZX2 (d+1);rw[Hd2.o];have SW:=ZA (λu (y:ZM W u)=>(show Calls prog 80 #[ZH g.gb,.int .i64 who,.int .i64 0,.int .u64 d,.int .u64 d2,.slice none 0 0] u _ from ZAT u g (XG O w.heap.size) C xb L s who 0 d d2 0 0 (d2:Int) none [] [] (hA.ext y) ZB hw ZB hu rfl rfl (ZIF _ _)))
 |obtain⟨d,Hd⟩:=ZX2 (2*lv+1);obtain⟨d2,Hd2⟩:=ZX2 (2*lv+2);rw[Hd.o,Hd2.o]at aG;have SW:=ZA (λu' (y:ZM W u')=>(show Calls prog 80 #[ZH g.gb,.int .i64 who,.int .i64 0,.int .u64 d,.int .u64 d2,.slice none 0 0] u' (λe w'=>∃b L',L'.length<=L.length+1/\e=.returned (.bool b)/\ZBo u' g (XG O w.heap.size) C xb L' s1 w')from by
   by_cases h0:u=d
   ·rw[Zgl h0]at aG;refine(ZAT u' g (XG O w.heap.size) C xb L s who 0 d d2 0 0 (d2:Int) none [] [] (hA.ext y) ZB hw ZB (hu.trans h0) rfl rfl (ZIF _ _)).mono ?_;rintro e w' ⟨rfl,hg⟩;exact⟨_,L++[⟨who,2,0,d,d2,true⟩],by simp,rfl,by rw[aG];exact hg⟩
   ·rw[Zgk h0]at aG;refine(ZAp u' g (XG O w.heap.size) C xb L s who 0 u d d2 0 0 (d2:Int) none (hA.ext y) ZB hw ZB hu h0 rfl).mono ?_;rintro e w' ⟨rfl,hg⟩;exact⟨_,L++[⟨who,2,0,d,d2,false⟩],by simp,rfl,by rw[aG];exact hg⟩))
 have e0:=(k0.ext xW).ZX6 0 (ZH g.gl);have e1:=(k1.ext xW).ZX6 0 (.int .i64 who);first|(obtain -:=V6;have e2:=(k2.ext xW).ZX6 0 (.int .i64 lv))|have e2:=(k2.ext xW).ZX6 0 (.int .u64 d)
 have dl:W.cell? ⟨g.gl,0,none⟩=some (ZH g.gb):=hA.rd.l0;first
 |obtain -:=V7;have gO:IntKind.i64.wrap (2*(lv:Int))=2*(lv:Int):=by rw[Zee];omega
  have cT:IntKind.i64.wrap (2*(lv:Int)+1)=(d:Int):=by have:=Hd.o;rw[Zee];omega
  have eg:IntKind.i64.wrap (2*(lv:Int)+2)=(d2:Int):=by have:=Hd2.o;rw[Zee];omega
  have La:IntKind.u64.wrap (d:Int)=(d:Int):=by have:=Hd.o;rw[Zef];omega
  have uz:IntKind.u64.wrap (d2:Int)=(d2:Int):=by have:=Hd2.o;rw[Zef];omega
 |have eg:IntKind.u64.wrap ((d:Int)+1)=(d2:Int):=by have:=Hd2.o;rw[Zef];omega
 have aM:=ZA h.lt;first|(obtain -:=V8;obtain⟨bX,aQ,aO,bj,cQ⟩:=ZBR k3 k0 k1 k2 k4)|(obtain -:=V9;obtain⟨bX,aQ,aO,bj,cQ,HK5⟩:=Ju k3 k0 k1 k2 k4 k5)|obtain⟨bX,aQ,aO,bj⟩:=ZAU k3 k0 k1 k2
 have XW:=ZA xW;have HW:=ZA hW;first|(obtain -:=V10;have bp:=ZA (show(L++[(⟨who,2,0,d,d2,false⟩:Zg)]).length<=L.length+1 by simp);clear h hc hu ag k0 k1 k2 k3 k4 k5 hA xW hW hL hd;go_enter func176,ntmps176)|(obtain -:=V11;have bp:=ZA (show(L++[(⟨who,2,0,d,d2,true⟩:Zg)]).length<=L.length+1 by simp);clear h hc hu k0 k1 k2 k3 k4 k5 hA xW hW hL hd;go_enter func176,ntmps176)|(clear h hc hu aG k0 k1 k2 k3 hA xW hW l0 l1 l2 l3 hL fD;go_enter func231,ntmps231)
 go_upto_region 2 with fail;(try rw[HW.o]);clear HW;first|(obtain -:=V12;go_region_held3 (λw'=>w'.cell? ⟨b0,0,none⟩=some (ZH g.gl)/\w'.cell? ⟨b1,0,none⟩=some (.int .i64 who)/\w'.cell? ⟨b2,0,none⟩=some (.int .i64 lv)/\w'.cell? ⟨g.gl,0,none⟩=some (ZH g.gb)) (((try go_split_ands);exact⟨ZX7,ZX7,ZX7,ZX7⟩)) ((go_at_call 80;(with_reducible refine(SW.o _ (ZM.refl W).drew).mono ?_);rintro e w2 ⟨bb,L',cu,rfl,hg⟩;obtain⟨C',hm⟩:=hg.mov;have bp:=ZA cu;have HM:=ZA (hm.back (ZM.refl W).drew);have ab:=HM.o.kpg XW.o (Zf6 w.heap.size);have cy:=(aQ.o.kp ab).ZX6 0 (ZH g.gl);have dk:=(aO.o.kp ab).ZX6 0 (.int .i64 who);have dC:=(bj.o.kp ab).ZX6 0 (.int .i64 lv);have fu:w2.cell? ⟨g.gl,0,none⟩=some (ZH g.gb):=HM.o.1.rd.l0;clear hm hg ab cu)))|go_region_held3 (λw'=>w'.cell? ⟨b0,0,none⟩=some (ZH g.gl)/\w'.cell? ⟨b1,0,none⟩=some (.int .i64 who)/\w'.cell? ⟨b2,0,none⟩=some (.int .u64 d)/\w'.cell? ⟨g.gl,0,none⟩=some (ZH g.gb)) (((try go_split_ands);exact⟨ZX7,ZX7,ZX7,ZX7⟩)) ((go_at_call 80;(with_reducible refine(SW.o _ (ZM.refl W).drew).mono ?_);rintro e w2 ⟨rfl,hg⟩;obtain⟨C',hm⟩:=hg.mov;have HM:=ZA (hm.back (ZM.refl W).drew);have ab:=HM.o.kpg XW.o (Zf6 w.heap.size);have cy:=(aQ.o.kp ab).ZX6 0 (ZH g.gl);have dk:=(aO.o.kp ab).ZX6 0 (.int .i64 who);have dC:=(bj.o.kp ab).ZX6 0 (.int .u64 d);have fu:w2.cell? ⟨g.gl,0,none⟩=some (ZH g.gb):=HM.o.1.rd.l0;clear hm hg ab))
 first
 |obtain -:=V13;all_goals
   have ab:=HM.o.kpg XW.o (Zf6 w.heap.size);have KR:=ZA (HM.o.2.1.blk K0.o (λe=>Zf9 _ (aM.o _ e)));have f0:=(aQ.o.kp ab).ZX6 0 (ZH g.gl);have f1:=(aO.o.kp ab).ZX6 0 (.int .i64 who);have f3:=(bX.o.kp ab).ZX6 0 (YD 130 #[]);have KN:=cQ.o.kp ab;have n0:=KN.ZX6 0 (.bool false);have n1:=KN.ZX6 1 (.int .i64 0);have n2:=KN.ZX6 2 (.bool false);have n3:=KN.ZX6 3 (.int .i64 0);have n4:=KN.ZX6 4 (.int .i64 0);have n5:=KN.ZX6 5 (.int .i64 0);have n6:=KN.ZX6 6 (.int .i64 0);have MV:=ZA (show Calls prog 129 #[ZH g.gl,.int .i64 who,YD 130 #[]] w2.drew (ClR (λw' v=>Zk w' (XO C' (XG O w.heap.size)) (Zo g who (xb who) x) v .split) w2.drew)from ZHq w2.drew _ (Zo g who (xb who) x) (HM.o.1.newer.ext (ZM.refl w2).drew));have mb:b0≠w.heap.size:=by omega
   have mU:b1≠w.heap.size:=by omega
   have oT:b3≠w.heap.size:=by omega
   have aW:b4≠w.heap.size:=by omega
   have lJ:=aW;have lI:=aW;have lH:=aW;have lG:=aW;have lE:=aW;have lD:=aW;clear ab KN e0 e1 e2 dl l0 l1 l2 l3 l4 l5;go_upto_region 3 with fail
   go_region_held3 (λw'=>w'.cell? ⟨b0,0,none⟩=some (ZH g.gl)/\w'.cell? ⟨b1,0,none⟩=some (.int .i64 who)/\w'.cell? ⟨b3,0,none⟩=some (YD 130 #[])/\w'.cell? ⟨b4,0,none⟩=some (.bool false)/\w'.cell? ⟨b4,1,none⟩=some (.int .i64 0)/\w'.cell? ⟨b4,2,none⟩=some (.bool false)/\w'.cell? ⟨b4,3,none⟩=some (.int .i64 0)/\w'.cell? ⟨b4,4,none⟩=some (.int .i64 0)/\w'.cell? ⟨b4,5,none⟩=some (.int .i64 0)/\w'.cell? ⟨b4,6,none⟩=some (.int .i64 0)) (((try go_split_ands);exact⟨ZX8,ZX8,ZX8,ZX8,ZX8,ZX8,ZX8,ZX8,ZX8,ZX8⟩)) ((go_at_call 129;(with_reducible refine MV.o.mono ?_);rintro e w3 ⟨v,rfl,hk,hx⟩;have ap:=(ZM.refl w2).drew.trans hx;have HK:=ZA hk;have aV:=ZA ap;have bR:=ZA (ZK KR.o ap);obtain⟨r0,z0,r1,z1,r2,z2,r3,z3,r4,z4,r5,z5,r6,z6⟩:=ZYD bR.o;have fQ:=ZF (ap) f0;have kv:=ZF (ap) f1;have oP:=ZF (ap) f3;have ku:=ZF (ap) n0;have ko:=ZF (ap) n1;have km:=ZF (ap) n2;have kj:=ZF (ap) n3;have kh:=ZF (ap) n4;have kg:=ZF (ap) n5;have ke:=ZF (ap) n6;clear hk hx ap))
   all_goals
    go_wp2_with fail;refine Zgd (ZP (p:=7) (u:=6) rfl _ _ w.heap.size _ #[.bool false,.int .i64 0,.bool false,.int .i64 0,.int .i64 0,.int .i64 0,.int .i64 0] (0,0) _ rfl (Yv bR.o _ _ _ _ _ _ _) underlying41 ZX0 ZC) rfl ?_;exact Yl (r:=ZAG) bp.o XW.o (Zf6 _) (HM.o.ext aV.o) (ZAo HK.o) _ _ _ _ _ _ _
 |obtain -:=V14;all_goals
   have ab:=HM.o.kpg XW.o (Zf6 w.heap.size);have KR:=ZA (HM.o.2.1.blk K0.o (λe=>Zf9 _ (aM.o _ e)));have f0:=(aQ.o.kp ab).ZX6 0 (ZH g.gl);have f1:=(aO.o.kp ab).ZX6 0 (.int .i64 who);have f3:=(bX.o.kp ab).ZX6 0 (YD 130 #[]);have f5:=(HK5.o.kp ab).ZX6 0 (.int .i64 lv);have KN:=cQ.o.kp ab;have n0:=KN.ZX6 0 (.bool false);have n1:=KN.ZX6 1 (.int .i64 0);have n2:=KN.ZX6 2 (.bool false);have n3:=KN.ZX6 3 (.int .i64 0);have n4:=KN.ZX6 4 (.int .i64 0);have n5:=KN.ZX6 5 (.int .i64 0);have n6:=KN.ZX6 6 (.int .i64 0);have MV:=ZA (show Calls prog 175 #[ZH g.gl,.int .i64 who,.int .i64 lv,.int .i64 0,YD 130 #[]] w2.drew (ClR (λw' v=>Zk w' (XO C' (XG O w.heap.size)) (Zo g who (xb who) x) v (XM lv 0)) w2.drew)from ZFu w2.drew _ (Zo g who (xb who) x) lv 0 (HM.o.1.newer.ext (ZM.refl w2).drew) fD (ZgR _));have mb:b0≠w.heap.size:=by omega
   have mU:b1≠w.heap.size:=by omega
   have oT:b3≠w.heap.size:=by omega
   have zR:b5≠w.heap.size:=by omega
   have aW:b4≠w.heap.size:=by omega
   have lJ:=aW;have lI:=aW;have lH:=aW;have lG:=aW;have lE:=aW;have lD:=aW;clear ab KN e0 e1 e2 dl l0 l1 l2 l3 l4 l5 fD;go_upto_region 4 with fail
   go_region_held3 (λw'=>w'.cell? ⟨b0,0,none⟩=some (ZH g.gl)/\w'.cell? ⟨b1,0,none⟩=some (.int .i64 who)/\w'.cell? ⟨b5,0,none⟩=some (.int .i64 lv)/\w'.cell? ⟨b3,0,none⟩=some (YD 130 #[])/\w'.cell? ⟨b4,0,none⟩=some (.bool false)/\w'.cell? ⟨b4,1,none⟩=some (.int .i64 0)/\w'.cell? ⟨b4,2,none⟩=some (.bool false)/\w'.cell? ⟨b4,3,none⟩=some (.int .i64 0)/\w'.cell? ⟨b4,4,none⟩=some (.int .i64 0)/\w'.cell? ⟨b4,5,none⟩=some (.int .i64 0)/\w'.cell? ⟨b4,6,none⟩=some (.int .i64 0)) (((try go_split_ands);exact⟨ZX8,ZX8,ZX8,ZX8,ZX8,ZX8,ZX8,ZX8,ZX8,ZX8,ZX8⟩)) ((go_at_call 175;(with_reducible refine MV.o.mono ?_);rintro e w3 ⟨v,rfl,hk,hx⟩;have ap:=(ZM.refl w2).drew.trans hx;have HK:=ZA hk;have aV:=ZA ap;have bR:=ZA (ZK KR.o ap);obtain⟨r0,z0,r1,z1,r2,z2,r3,z3,r4,z4,r5,z5,r6,z6⟩:=ZYD bR.o;have fQ:=ZF (ap) f0;have kv:=ZF (ap) f1;have oP:=ZF (ap) f3;have oO:=ZF (ap) f5;have ku:=ZF (ap) n0;have ko:=ZF (ap) n1;have km:=ZF (ap) n2;have kj:=ZF (ap) n3;have kh:=ZF (ap) n4;have kg:=ZF (ap) n5;have ke:=ZF (ap) n6;clear hk hx ap))
   all_goals
    go_wp2_with fail;refine Zgd (ZP (p:=7) (u:=6) rfl _ _ w.heap.size _ #[.bool false,.int .i64 0,.bool false,.int .i64 0,.int .i64 0,.int .i64 0,.int .i64 0] (0,0) _ rfl (Yv bR.o _ _ _ _ _ _ _) underlying41 ZX0 ZC) rfl ?_;exact Yl (r:=ZAG) bp.o XW.o (Zf6 _) (HM.o.ext aV.o) (ZAo HK.o) _ _ _ _ _ _ _
 |all_goals
   have ab:=HM.o.kpg XW.o (Zf6 w.heap.size);have J3:=ZA (bX.o.kp ab);have KR:=ZA (HM.o.2.1.blk K0.o (λe=>Zf9 _ (aM.o _ e)));have f3:w2.cell? ⟨b3,0,none⟩=some ZGR:=J3.o.cell 0;clear ab;unfold ZGR at f3;go_wp2_with fail;refine(show Calls prog 130 #[.int .i64 0] w2 _ from ZGY 0 w2).mono ?_;rintro e w3 ⟨rfl,hx⟩;have aV:=ZA hx;have K3:=ZA (ZK KR.o hx);obtain⟨r0,z0,r1,z1,r2,z2,r3,z3,r4,z4,r5,z5,r6,z6⟩:=ZYD K3.o;clear hx f3;go_wp2_with fail;refine Zgd (ZP (p:=5) (u:=4) rfl _ _ (w.heap.size) _ #[.bool true,.int .i64 ((YY 0).er:Int),.bool (YY 0).granted,.int .i64 (YY 0).left,.int .i64 (YY 0).wait,.int .i64 (YY 0).ser,.int .i64 (YY 0).now] (0,0) _ rfl (Yv K3.o _ _ _ _ _ _ _) underlying41 ZX0 ZC) rfl ?_;exact Yl (out:=.fin (YY 0)) (nv:=.nilFunc) (done:=true) (r:=YY 0) (x:=x) (who:=who) bp.o XW.o (Zf6 _) (HM.o.ext aV.o) ⟨rfl,rfl,rfl⟩ _ _ _ _ _ _ _):p:=h
theorem ZS9 (w g O C xb)(L:List Zg)(s:Z9)(who lv d x res ser f)(aa:Array Value)(h:YQ w g O C xb L s)(hc:s.call who=.run x res ser (.splitS d))(hL:L.length<=100000)(hw:who<64)(fD:lv<=3)(hd:2*lv=d)(hu:s.ws.getD 0 0=d)(hk:Zk w (XO C O) (Zo g who (xb who) x) (YD f aa) (.splitS d)): Calls prog f aa w (SK w g O C xb who (L.length+1) x {s with ws:=s.ws.set 0 (d+1),hs:=s.hs.set 0 []} (.on (XM lv 0))):=by
 obtain⟨V2,V5,V9,V11,V14⟩:=QA;exact QV
theorem YS.box{s:Z9}(x:ZM W W1)(hk:W.heap.size<=k)(hm:YS W1 g (XG O k) C xb L s C' w2)(v):YS W g O C xb L s C' (w2.setCell ⟨k,0,none⟩ v):=
 ⟨hm.1.far (S:=(· =k)) ((GB.refl w2 _).set k 0 v (.inl rfl)) (λ_ _ e=>.inr e) (λ_ _ e=>.inl e) (λi hi=>ZgB (hm.1.ol i (.inl hi)) (Ze w2 k 0 v).size),(GB.back x hm.2.1).set k 0 v (.inr hk),λi hi=>(hm.2.2 i hi).imp id (Zf8 x.size)⟩
theorem Zh.box{s:Z9}{u:Value}(hm:YS W1 g (XG O k) C xb L s C' w2)(h:W1.heap[k]?=some (.cells #[u] t (0,0)))(hO:¬O k)(hC:¬C k)(v):Zh (w2.setCell ⟨k,0,none⟩ v) (XO C' O) (ZH k) #[v]:=⟨k,t,rfl,ZR (hm.2.1.blk h hC) 0 v,λe=>e.elim (λe=>(hm.2.2 k e).elim hC (λe=>Zf9 _ (ZgA e (ZX h)))) hO⟩
theorem YS.kpb{s:Z9}{gg:Nat}(h:YS W1 g (XG (XG O gg) k) C xb L s C' w2)(x:ZM w W)(x1:ZM W W1)(hg:w.heap.size<=gg)(hk:W.heap.size<=k):Kp w w2 (XO C O) (XO C' (XG (XG O gg) k)):=Kp.of (GB.back (x.trans x1) h.2.1) (λi _ e=>.inl e) (λi hi e=>e.elim (λe=>.inl ((h.2.2 i e).resolve_right (by have:=(x.trans x1).size;omega))) (λe=>e.elim (λe=>e.elim .inr (λe=>by omega)) (λe=>by have:=x.size;omega)))
theorem ZU6 (w g O C xb)(L:List Zg)(s:Z9)(who lv d x res ser f)(aa:Array Value)(h:YQ w g O C xb L s)(hc:s.call who=.run x res ser .split)(hL:L.length<=100000)(hw:who<64)(fD:lv<=4)(hd:2*lv=d)(hu:s.ws.getD 0 0=d)(hk:Zk w (XO C O) (Zo g who (xb who) x) (YD f aa) .split): Calls prog f aa w (SK w g O C xb who (L.length+1) x s (if lv=4 then .fin (YY 5) else .on (.splitS d))):=by
 obtain⟨V1,V2,V7,V8,V9,V10,V11,V12,V13,V16,V19⟩:=QA;exact QF
theorem ZYU {p:Prop}(h:p:=by
 first
 |obtain -:=T1;have HE:=ZA (show XR g.P g.room x res ser word u (s.hs.getD word []) t=out by rw[<-Hout.o,Zgl kG]);have HT:=ZQx wc (XO C' (XG O w.heap.size)) g who (xb who) word u n c x res ser A (s.hs.getD word []) rs tf tc t kG HX.o (hm.1.xat hw HC.o).1 hm.1.rd JT.o Hn.o bo cD HP.o HCALL.o l7.o fj.o lA.o;rw[HE.o]at HT;have HT:=ZA HT;have hb:((u:Int)==0)=false:=by rw[Zgb];omega
  clear hm ab gD e0 e1 e2 dl h6 iA jo mV mc bo kG
 |obtain -:=T2;have HE:=ZA (show Zu j shards gone=out by rw[<-Hout.o,Zgl h0]);have hb:((nm:Int)==0)=true:=by rw[Zgc];omega
  have hen:=jm.o;have FU:=ZDA T (XO C' (XG O w.heap.size)) g who (xb who) j shards gone x res ser ff fc (HX.o.ext iV.o) (qu.o.ext iV.o) (gE.o.ext iV.o) (JF.o.ext iV.o) hj hs;rw[HE.o]at FU;have FU:=ZA FU;clear h0
 |obtain -:=T3;have HE:=ZA (show Zs.on (.evSwap j shards gone word u rest nm)=out by rw[<-Hout.o,Zgk h0]);have hb:((nm:Int)==0)=false:=by rw[Zgb];omega
  have KT:Zk T (XO C' (XG O w.heap.size)) (Zo g who (xb who) x) (YD 187 #[ZH b0,ZH b4,ZH b5,ZH w4.heap.size,ZH b2,ZH b3,ZH U.heap.size]) (.evSwap j shards gone word u rest nm):=⟨_,_,_,_,_,_,_,_,rfl,J0.o.ext iV.o,J4.o.ext iV.o,J5.o.ext iV.o,⟨B,d,R',by rw[Hm.o];exact r9.out.ext XT.o,IH.o.ext (XU.o.trans XT.o)⟩,J2.o.ext iV.o,JF.o.ext iV.o,J3.o.ext iV.o,zQ.out⟩;have ON:=ZAI KT;rw[HE.o]at ON;have ON:=ZA ON;clear h0 KT
 |obtain -:=T4;have ag:=Zgo mQ;have HE:=ZA (show Zu j shards gone=out by rw[<-Hout.o,Zgk ag]);clear ag mQ dN;have hen:=jm.o;have FU:=ZDA wc (XO C' (XG O w.heap.size)) g who (xb who) j shards gone x res ser ff fc HX.o qu.o gE.o JF.o hj hs;rw[HE.o]at FU;have FU:=ZA FU
 |obtain -:=T5;have ag:=Zgo mQ;have HE:=ZA (show Zs.on (.find (Xw x.id) .begin)=out by rw[<-Hout.o,Zgk ag]);clear ag mQ dN
 |obtain -:=T6;obtain⟨C',L',cu,hm⟩:=hcut;have HM:=ZA hm;have qB:=ZA cu;have ab:=HM.o.kpg XW.o (Zf6 w.heap.size);have KR:=ZA (HM.o.2.1.blk K0.o (λe=>Zf9 _ (aM.o _ e)));have f5:=(HK5.o.kp ab).ZX6 0 (YD tf tc);have f2:=(bj.o.kp ab).ZX6 0 (.int .i64 word);have f6:=(ia.o.kp ab).ZX6 0 (.slice Ab nb cb);have hen:=jm.o;have HT:=ZA (ZN5 wc (XO C' (XG O w.heap.size)) (Zo g who (xb who) x) g.P g.room word nb cb x res ser Ab tf tc t HM.o.1.newer (HKT.o.kp ab) l7.o);clear ab e0 e1 e2 e3 e4 dl dc l0 l1 l2 l3 l4 l5 l6 hm cu
 |obtain -:=T7;have HE:=ZA (show YP res rep=out by rw[<-Hout.o,Zgl (.inl Hgr.o)])
 |obtain -:=T8;have HE:=ZA (show YP res rep=out by rw[<-Hout.o,Zgl (.inr (Hnn.o.trans eL))]);subst eL
 |obtain -:=T9;have HE:=ZA (show Zs.on (Ji g.room res f cP rep)=out by rw[<-Hout.o,Zgk (λe=>e.elim (λe=>by rw[Hgr.o]at e;cases e) (λe=>eL (Hnn.o.symm.trans e)))]);have la:(nn==0)=false:=by rw[Zgb];exact eL
 |skip
 go_wp2_with fail;first|(obtain -:=T10;refine LV.o.mono ?_;rintro e w2 ⟨nv,done,r9,rfl,ho,hx⟩;rw[HE.o]at ho)|(obtain -:=T11;refine FU.o.mono ?_;rintro e w5 ⟨nv,done,r',rfl,ho,hx⟩)|(obtain -:=T12;refine ON.o.mono ?_;rintro e w5 ⟨nv,done,r',rfl,ho,hx⟩)|(obtain -:=T13;refine FU.o.mono ?_;rintro e w2 ⟨nv,done,r',rfl,ho,hx⟩)|(obtain -:=T14;refine BG.o.mono ?_;rintro e w2 ⟨v,rfl,hk,hx⟩;rw[<-Hxw.o]at hk;have ON:=ZAI hk;rw[HE.o,Hxw.o]at ON;have ON:=ZA ON;have X1:=ZA hx;have K2:=ZA (ZK KR.o hx);clear hk hx;go_wp2_with fail;refine ON.o.mono ?_;rintro e w3 ⟨nv,done,r',rfl,ho,hx⟩;rw[<-Hxw.o]at ho)|(obtain -:=T15;refine EN.o.mono ?_;rintro e w2 ⟨nv,done,r',rfl,ho,hx⟩;rw[show Zs.fin rp=out by rw[<-HQ.o];first|exact(Zgl rfl).symm|exact(Zgl trivial).symm]at ho)|(obtain -:=T16;refine LV.o.mono ?_;rintro e w2 ⟨nv,done,r',rfl,ho,hx⟩;rw[show YP res rp=out by rw[<-HQ.o];first|exact(Zgk (by decide)).symm|simp]at ho)|(obtain -:=T17;refine PT.out.mono ?_;rintro e w2 ⟨v,rfl,hk,hx⟩;have ON:=ZAI hk;rw[HE.o]at ON;have ON:=ZA ON;have X1:=ZA hx;have K2:=ZA (ZK KR.o hx);clear hk hx;go_wp2_with fail;refine ON.o.mono ?_;rintro e w3 ⟨nv,done,r9,rfl,ho,hx⟩)|(refine HT.o.mono ?_;rintro e w2 ⟨nv,done,r',rfl,ho,hx⟩)
 have HO:=ZA ho;first|(obtain -:=T18;have aV:=ZA (iV.o.trans hx);have K3:=ZA (ZK BT.o hx))|(obtain -:=T19;have aV:=ZA (X1.o.trans hx);have K3:=ZA (ZK K2.o hx))|(have aV:=ZA hx;have K3:=ZA (ZK KR.o hx))
 obtain⟨r0,z0,r1,z1,r2,z2,r3,z3,r4,z4,r5,z5,r6,z6⟩:=ZYD K3.o;clear ho hx;go_wp2_with fail;first|(obtain -:=T20;refine Zgd (ZP (p:=7) (u:=6) rfl _ _ (w.heap.size) _ #[.bool done,.int .i64 (r9.er:Int),.bool r9.granted,.int .i64 r9.left,.int .i64 r9.wait,.int .i64 r9.ser,.int .i64 r9.now] (0,0) _ rfl (Yv K3.o _ _ _ _ _ _ _) underlying41 ZX0 ZC) rfl ?_)|(obtain -:=T21;refine Zgd (ZP (p:=8) (u:=7) rfl _ _ (w.heap.size) _ #[.bool done,.int .i64 (r'.er:Int),.bool r'.granted,.int .i64 r'.left,.int .i64 r'.wait,.int .i64 r'.ser,.int .i64 r'.now] (0,0) _ rfl (Yv K3.o _ _ _ _ _ _ _) underlying41 ZX0 ZC) rfl ?_)|refine Zgd (ZP (p:=7) (u:=6) rfl _ _ (w.heap.size) _ #[.bool done,.int .i64 (r'.er:Int),.bool r'.granted,.int .i64 r'.left,.int .i64 r'.wait,.int .i64 r'.ser,.int .i64 r'.now] (0,0) _ rfl (Yv K3.o _ _ _ _ _ _ _) underlying41 ZX0 ZC) rfl ?_
 first|(obtain -:=T22;exact Yl qB.o XW.o (Zf6 _) (HM.o.ext aV.o) HO.o _ _ _ _ _ _ _)|exact Yl bp.o XW.o (Zf6 _) (HM.o.ext aV.o) HO.o _ _ _ _ _ _ _):p:=h
theorem Qu {p:Prop}(h:p:=by
 have bU:=Jt;first|(obtain -:=V1;obtain⟨p0,p1,p2,p3,p4,p5,aj,⟨k0,k1⟩,k2,k3,k4,k5⟩:=h)|(obtain -:=V2;obtain⟨p0,p1,p2,p3,p4,p5,fv,aj,k0,⟨A,c,rs,k1,hcl⟩,k2,kf,k3,k4,k5⟩:=hk)|obtain⟨p0,p1,p2,p3,p4,p5,tv,aj,⟨k0,k1⟩,k2,k3,k4,kt,k5⟩:=h
 injection aj with aj h1 h2;injection aj with aj;subst aj h2;obtain⟨b0,rfl,l0⟩:=k0.ptr;obtain⟨b1,rfl,l1⟩:=k1.ptr;obtain⟨b2,rfl,l2⟩:=k2.ptr;obtain⟨b3,rfl,l3⟩:=k3.ptr;obtain⟨b4,rfl,l4⟩:=k4.ptr;first
 |obtain -:=V3;obtain⟨b5,rfl,l5⟩:=k5.ptr;obtain⟨W,hW,xW,-⟩:=Za w (.cells #[.slice A n c] 56);have r0:Zh W X (ZH w.heap.size) #[.slice A n c]:=by rw[<-hW];exact(Zh.new rfl (hX.not ZB))
  have xz:i<8:=ZgB hi (ZHe hl);subst hn;have HF:=ZA (ZFv W X d (lv+1) i holds.length c A holds rs (YD 235 #[ZH b0,ZH b1,ZH b2,ZH b3,ZH w.heap.size,ZH b4,ZH b5]) (.move1 lv i holds) (hX.ext xW) ⟨_,_,_,_,_,_,_,rfl,⟨k0.ext xW,k1.ext xW⟩,k2.ext xW,k3.ext xW,⟨A,c,rs,r0,hC.ext xW⟩,k4.ext xW,k5.ext xW⟩ ZB ZB rfl (hC.ext xW));have e0:=(k0.ext xW).ZX6 0 (ZH d.gl);have e1:=(k1.ext xW).ZX6 0 (.int .i64 (d.who:Int));have e2:=(k2.ext xW).ZX6 0 (.int .i64 lv);have e3:=(k3.ext xW).ZX6 0 (.int .i64 i);have e5:=r0.ZX6 0 (.slice A holds.length c);have gO:IntKind.i64.wrap ((lv:Int)+1)=((lv+1:Nat):Int):=by rw[Zee];omega
  have Ey:IntKind.u64.wrap (i:Int)=(i:Int):=by rw[Zef];omega
  have XW:=ZA xW;clear k0 k1 k2 k3 k4 k5 r0 xW hC hX l0 l1 l2 l3 l4 l5 hi;show Calls prog 233 #[.slice A holds.length c,ZH b0,ZH b1,ZH b2,ZH b3,ZH b4,ZH b5] w _;go_enter func233,ntmps233;go_upto_region 1 with fail;(try rw[hW]);clear hW
 |obtain -:=V4;obtain⟨b5,rfl,l5⟩:=k5.ptr;obtain⟨ff,fc,rfl⟩:=kf.fn;obtain⟨W,hW,xW,K0⟩:=Za w ZYE;have hA:=h.xg xW (Zf6 _) (ZX K0.o);have NW:=ZA (ZG5 W g (XG O w.heap.size) C xb L s who x res ser _ hA hc ZB hw fG);obtain⟨clk,Hck⟩:∃q:Int,ZD ((s.clk:Int)=q):=⟨_,ZA rfl⟩;rw[Hck.o]at NW ⊢;obtain⟨n,Hn⟩:=ZX2 (cells.length);obtain⟨rest,fh⟩:=ZX2 ((cells.filter λc=>!ZAD g.P clk c));have dw:rest.length<=n:=by rw[<-fh.o,<-Hn.o];exact List.length_filter_le _ _
  rw[Hn.o]at k1 ⊢;rw[fh.o];obtain⟨m,Hm⟩:=ZX2 (rest.length);rw[Hm.o]at dw ⊢;obtain⟨nm,iW⟩:=ZX2 (n - m);rw[iW.o];obtain⟨out,Hout⟩:=ZX2 ((if nm=0 then Zu j shards gone else Zs.on (.evSwap j shards gone word u rest nm)));rw[Hout.o];have e0:=(k0.ext xW).ZX6 0 (ZH (xb who));have aM:=ZA h.lt;have Hc:=ZA hc;obtain⟨aQ,aO,bj,bX,cQ,HK5⟩:=Ju k0 k1 k2 k3 k4 k5;have qD:=ZA kf;have HCL:=ZA hcl;obtain⟨XW,HW,fj,jm⟩:=ZAU xW hW aP kf.hen;have bp:=ZA (show(L++[(⟨who,3,0,s.clk,0,true⟩:Zg)]).length<=L.length+1 by simp);have mt:n<=5000:=by have:=aP.2.2;have:=Hn.o;omega
  have KM:IntKind.i64.wrap ((n:Int) - (m:Int))=(nm:Int):=by have:=iW.o;rw[Zee];omega
  clear h hc hL fG k0 k1 k2 k3 k4 k5 kf hcl hA xW hW aP l0 l1 l2 l3 l4 l5;go_enter func181,ntmps181;go_upto_region 1 with fail;(try rw[HW.o]);clear HW
 |obtain⟨b5,rfl,l5⟩:=Zh.ptr k5;subst hn;have HF:=ZA (ZFv w X d (lv+1) sum holds.length c A holds rs (YD 240 #[ZH b0,ZH b1,ZH b3,ZH b4,ZH b5]) (.find sum t) hX ⟨_,_,_,_,_,_,rfl,⟨k0,k1⟩,k3,k4,kt,k5⟩ ZB hs rfl hC);have e0:=k0.ZX6 0 (ZH d.gl);have e1:=k1.ZX6 0 (.int .i64 (d.who:Int));have e2:=k2.ZX6 0 (.int .i64 lv);have e3:=k3.ZX6 0 (.int .u64 sum);have gO:IntKind.i64.wrap ((lv:Int)+1)=((lv+1:Nat):Int):=by rw[Zee];omega
  clear k0 k1 k2 k3 k4 k5 hC hX l0 l1 l2 l3 l4 l5 kt;show Calls prog 239 #[.slice A holds.length c,ZH b0,ZH b1,ZH b2,ZH b3,ZH b4,ZH b5] w _;go_enter func239,ntmps239
 go_wp2_with fail;first
 |obtain -:=V5;refine NW.o.mono ?_;rintro e w2 ⟨rfl,hg⟩;obtain⟨C',hm⟩:=hg.mov;have HM:=ZA hm;have ab:=hm.kpg XW.o (Zf6 w.heap.size);have KR:=ZA (hm.2.1.blk K0.o (λe=>Zf9 _ (aM.o _ e)));have HX:=ZA hm.1.newer;have J0:=ZA (aQ.o.kp ab);have J1:=ZA (aO.o.kp ab);have J2:=ZA (bj.o.kp ab);have J3:=ZA (bX.o.kp ab);have J4:=ZA (cQ.o.kp ab);have J5:=ZA (HK5.o.kp ab);have JF:=ZA (qD.o.kp ab);have JC:=ZA (HCL.o.kp ab);have gE:=ZA hm.1.rd;have qu:=ZA (hm.1.xat hw Hc.o).1;have za:=ZA (hm.1.call hw Hc.o).1;obtain⟨V,hV,xV,-⟩:=Za w2 (.cells #[.int .i64 clk] 2);have Bu:V.cell? ⟨w2.heap.size,0,none⟩=some (.int .i64 clk):=by rw[<-hV];exact ZE (ZV w2 _) 0
  have f1:=(J1.o.ext xV).ZX6 0 (.slice A n c);have ah:(Ya rs cells).length=n*4:=by rw[<-Hn.o];exact ZEn JC.o.1.1
  have I7:=ZA (ZIG V A n c (Ya rs cells) ah ZB (JC.o.1.2.1.ext xV) (ZDC rs cells));obtain⟨XV,HV,I5⟩:=Z8 xV hV Bu;clear hm ab hg e0 xV hV Bu ah;go_upto_region 2 with fail;(try rw[HV.o]);clear HV
 |refine HF.o.mono ?_;rintro e w2 ⟨v,rfl,hk,hx⟩
 go_wp2_with fail;first
 |obtain -:=V6;go_ret;exact⟨_,rfl,hk,XW.o.trans hx⟩
 |obtain -:=V7;refine I7.o.mono ?_;rintro e w3 ⟨B,d,rfl,ho,hx⟩;have X3:=ZA hx;have DF:=ZA (ZQk V w3 (XO C' (XG O w.heap.size)) B n d cells rs 185 #[ZH b0,ZH w2.heap.size] (λc=>ZAD g.P clk c) (HX.o.ext XV.o) hx Hn.o mt JC.o.1.1 ho (λi r e hr he=>(JC.o.part hr he).ext XV.o) (λ_ _=>rfl) (λv r ce hv _ fq=>ZRZ v (XO C' (XG O w.heap.size)) g (xb who) b0 w2.heap.size clk ce r (gE.o.ext (XV.o.trans hv)) ((J0.o.ext (XV.o.trans hv)).cell 0) (ZF (XV.o.trans hv) za.o) (ZF hv I5.o) (fj.o.2.1 ce fq).1 aZ));clear ho hx f1;go_wp2_with fail;refine DF.o.mono ?_;rintro e w4 ⟨m',R',lO,qY,rfl,hcr,hx⟩;have eq:m'=m:=by
   have:=Hm.o;have h9:=fh.o;rw[h9]at lO;omega
  subst eq;rw[fh.o]at hcr;have X4:=ZA hx;have IH:=ZA hcr;obtain⟨U,hU,xU,-⟩:=Za w4 (.cells #[.slice B m' d] 56);have yx:=ZA (XV.o.trans (X4.o.trans xU));have r9:=ZA (show Zh U (XO C' (XG O w.heap.size)) (ZH w4.heap.size) #[.slice B m' d] by rw[<-hU];exact Zh.new rfl ((HX.o.ext (XV.o.trans X4.o)).not (Zf6 _)));have f1:=(J1.o.ext yx.o).ZX6 0 (.slice A n c);have f9:=r9.out.ZX6 0 (.slice B m' d);have XU:=ZA xU;have HU:=ZA hU;clear lO qY hx hcr xU hU;go_upto_region 3 with fail;(try rw[HU.o]);clear HU;obtain⟨T,hT,xT,-⟩:=Za U (.cells #[.int .i64 nm] 3);have iV:=ZA (yx.o.trans xT);have zQ:=ZA (show Zh T (XO C' (XG O w.heap.size)) (ZH U.heap.size) #[.int .i64 nm] by rw[<-hT];exact Zh.new rfl ((HX.o.ext yx.o).not (Zf6 _)));have f10:=zQ.out.ZX6 0 (.int .i64 nm);have f2:=(J2.o.ext iV.o).ZX6 0 (YD ff fc);have f3:=(J3.o.ext iV.o).ZX6 0 (.int .i64 gone);have XT:=ZA xT;have HT:=ZA hT;have BT:=ZA (ZK KR.o iV.o);clear xT hT;go_upto_region 4 with fail;(try rw[HT.o]);clear HT;by_cases h0:nm=0
  ·obtain⟨T2,T11,T18⟩:=QA;exact ZYU
  ·obtain⟨T3,T12,T18⟩:=QA;exact ZYU
 |go_ret;exact⟨_,rfl,hk,hx⟩):p:=h
theorem ZSx (w X d lv i n c A)(holds:List ZL)(rs f)(aa:Array Value)(hX:YE w X)(h:JE w X d (YD f aa) (.move lv i))(hl:lv<=3)(hi:i<2 ^ lv)(hn:holds.length=n)(hC:Zw w X A holds rs): Calls prog f (#[.slice A n c]++aa) w (ClR (λw' v=>Zk w' X d v (.half (lv+1) i holds (.move1 lv i holds))) w):=by
 obtain⟨V1,V3,V6⟩:=QA;exact Qu
end Go.Proofs.YtloidkmphigbdaaGreat
