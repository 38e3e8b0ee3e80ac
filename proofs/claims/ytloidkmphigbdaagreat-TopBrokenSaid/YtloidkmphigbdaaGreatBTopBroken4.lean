/- Laid together: what 'TopBroken' needs, part 4 of 11. -/
import Derived.ProofKit
import Derived.OpenShut
import Derived.SizedLaws
import Derived.Deep.AppendSrc
import Derived.Deep.DeepCutAuto
import Derived.BigQuiet
import Derived.Shelf.Bits.Mul64
import Derived.Test.YtloidkmphigbdaaGreatProg
import Derived.Test.YtloidkmphigbdaaGreatBTopBroken1
import Derived.Test.YtloidkmphigbdaaGreatBTopBroken2
import Derived.Test.YtloidkmphigbdaaGreatBTopBroken3
namespace Go.Proofs.YtloidkmphigbdaaGreat
set_option linter.all false
set_option maxHeartbeats 40000000
set_option maxRecDepth 100000
open Go.RowKit
def ZaQ := @Array.getElem?_setIfInBounds_ne
def ZaR := @Array.getElem?_setIfInBounds_self_of_lt
def ZaZ := @Int.toNat_of_nonneg
def Zap := @List.eq_nil_of_length_eq_zero
def ZbX := @List.not_mem_nil
def ZcN := @Prod.mk.injEq
def Zcm := @run_firstCells_some
theorem YO {fn:Func}(h:fn.results=#[.cell 2 34,.tmp 3]){tmps:Array Value}{w:World}{g:Nat}{a b c d:Value}{t:TypeId}{fr:Nat × Nat}(hp:tmps.getD 2 undef=.pointer (some ⟨g,0,none⟩))(hg:w.heap[g]?=some (.cells #[a,b,c,d] t fr)): (results fn tmps).run Tryz.prog w=.ok (.tuple #[.agg #[a,b,c,d],tmps.getD 3 undef]) w:=Yq h tmps w g t #[a,b,c,d] fr _ hp hg Tryz.underlying34 ZTw ZC
def ZEH (op p:Nat)(xs:List Nat)(N:Nat)(w:World)(e:Ending)(w':World):Prop:=∃A c,e=.returned (.tuple #[YY (op:Int) (p:Int) A xs.length c (N:Int),.int .i64 0])/\w'.ownsRow w.heap.size 5 1 (.slice A xs.length c) xs.length (ZV .u8 xs)/\ZL w w'
theorem ZIP {w:World}{A:Option Addr}{ys:List Nat}(hr:Rd w A (ZV .u8 ys)):ys≠[]->∀a,A=some a->a.block<w.heap.size:=λhne a ha=>by
 obtain⟨b,off,hA,hc⟩:=hr (by simpa[ZV]using hne);cases ys with
 |nil=>exact absurd rfl hne
 |cons x t=>rw[hA]at ha;injection ha with ha;subst ha;exact ZcO w _ (hc 0 _ rfl)
theorem Y5 {w w2:World}{g:Nat}(h:ZL w w2)(hg:w.heap.size<=g)(a b d e:Value):ZL w ((((w2.setCell ⟨g,0,none⟩ a).setCell ⟨g,1,none⟩ b).setCell ⟨g,2,none⟩ d).setCell ⟨g,3,none⟩ e):=(((h.setCell (p:=⟨g,0,none⟩) hg a).setCell (p:=⟨g,1,none⟩) hg b).setCell (p:=⟨g,2,none⟩) hg d).setCell (p:=⟨g,3,none⟩) hg e
theorem ZEo (w:World)(A:Option Addr)(n c:Nat)(q:Int)(hq:(q==0)=false)(ys:List Nat)(hr:Rd w A (ZV .u8 ys))(hC:∀W g,Rd W A (ZV .u8 ys)->w.heap.size<=W.heap.size->w.heap.size<=g->g<W.heap.size->W.heap[g]?=some (.cells #[.int .u8 0,.int .i64 0,.slice none 0 0,.int .i64 0] 34 (0,0))->Calls Tryz.prog 112 #[.slice A n c,.func (.func 158) #[] #[.pointer (some ⟨g,0,none⟩)]] W λe w'=>e=.returned (.int .i64 q)/\W.grownBy w' (some g)): Calls Tryz.prog 106 #[.slice A n c] w (Xu (.tuple #[ZCk,.int .i64 q]) w):=by
 have hmf:∀(fn:Fn) (first cap:Array Value) (w:World),(Instr.makeFunc fn first cap).run Tryz.prog w=.ok (.func fn first cap) w:=λ_ _ _ _=>rfl;have HC:=ZA hC;have Hr:=ZA hr;clear hC hr;have hq':(q !=0)=true:=by simp[bne,hq]
 go_enter Tryz.func106,Tryz.ntmps106;go_wp2_with fail;refine(HC.o _ (w.heap.size+1) ((Hr.o.alloc _).alloc _) (by simp;omega) ZB ZTv (Zd _ _ ZTv)).mono ?_;rintro e w2 ⟨rfl,hG⟩;have K:=ZA (Zj (ZR (ZM w _) _) hG ZB);have hx:=Ya (((ZL.refl w).alloc _).alloc _) hG ZB;clear hG;have k0:=ZE K.o 0;have k1:=ZE K.o 1;have k2:=ZE K.o 2;have k3:=ZE K.o 3;have f0:=ZF K.o 0;have f1:=ZF K.o 1;have f2:=ZF K.o 2;have f3:=ZF K.o 3;go_wp2_with fail;refine ZcY (YO rfl rfl (ZAS K.o _ _ _ _)) rfl ?_;exact⟨rfl,Y5 hx (Zb0 _) _ _ _ _⟩
theorem ZIM (w:World)(A:Option Addr)(n c:Nat)(ys xs:List Nat)(op p N:Nat)(hr:Rd w A (ZV .u8 ys))(hC:∀W g,Rd W A (ZV .u8 ys)->w.heap.size<=W.heap.size->w.heap.size<=g->g<W.heap.size->W.heap[g]?=some (.cells #[.int .u8 0,.int .i64 0,.slice none 0 0,.int .i64 0] 34 (0,0))->Calls Tryz.prog 112 #[.slice A n c,.func (.func 158) #[] #[.pointer (some ⟨g,0,none⟩)]] W λe w'=>∃A c,e=.returned (.int .i64 0)/\W.grownBy w' (some g)/\w'.heap[g]?=some (.cells #[.int .u8 (op:Int),.int .i64 (p:Int),.slice A xs.length c,.int .i64 (N:Int)] 34 (0,0))/\w'.ownsRow W.heap.size 5 1 (.slice A xs.length c) xs.length (ZV .u8 xs)): Calls Tryz.prog 106 #[.slice A n c] w (ZEH op p xs N w):=by
 have hmf:∀(fn:Fn) (first cap:Array Value) (w:World),(Instr.makeFunc fn first cap).run Tryz.prog w=.ok (.func fn first cap) w:=λ_ _ _ _=>rfl;have HC:=ZA hC;have Hr:=ZA hr;clear hC hr;go_enter Tryz.func106,Tryz.ntmps106;go_wp2_with fail;refine(HC.o _ (w.heap.size+1) ((Hr.o.alloc _).alloc _) (by simp;omega) ZB ZTv (Zd _ _ ZTv)).mono ?_;rintro e w2 ⟨A1,c1,rfl,hG,hc,ho⟩;have K:=ZA (Zj (ZR (ZM w _) _) hG ZB);have hx:=Ya (((ZL.refl w).alloc _).alloc _) hG ZB;have KC:=ZA hc;have Ho:ZD (w2.ownsRow (w.heap.size+1) 5 1 (.slice A1 xs.length c1) xs.length (ZV .u8 xs)):=Zg ho ZTv;clear hG hc ho;have k0:=ZE K.o 0;have k1:=ZE K.o 1;have k2:=ZE K.o 2;have k3:=ZE K.o 3;have f0:=ZF K.o 0;have f1:=ZF K.o 1;have f2:=ZF K.o 2;have f3:=ZF K.o 3;have c0:=ZE KC.out 0;have c1:=ZE KC.out 1;have c2:=ZE KC.out 2;have c3:=ZE KC.out 3;go_wp2_with fail;refine ZcY (YO rfl rfl (ZAS K.o _ _ _ _)) rfl ?_;exact⟨A1,_,rfl,Jv Ho.o ZB _ _ _ _,Y5 hx (Zb0 _) _ _ _ _⟩
theorem ZFz (w:World)(A:Option Addr)(n c:Nat)(ys xs:List Nat)(op p N:Nat)(hl:ys.length=n)(hn:n<=4096)(hnc:n<=c)(hb:∀x ∈ ys,x<256)(hr:Rd w A (ZV .u8 ys))(hB:ZAg ys op p xs N []): Calls Tryz.prog 106 #[.slice A n c] w (ZEH op p xs N w):=by
 refine ZIM w A n c ys xs op p N hr λW g hR hs1 hs2 hs3 hc=>?_;exact ZKz W A n c g 34 (λA c=>#[.int .u8 (op:Int),.int .i64 (p:Int),.slice A xs.length c,.int .i64 (N:Int)]) ys xs hl hn hnc hR hs3 w.heap.size hs1 (ZIP hr) λW' r hI hrr hgW hss=>ZSD W' r w.heap.size g ys op p N xs [] ZB hb hB hI hs2 ZB ZB (hgW.trans hc)
theorem ZDy (w:World)(A:Option Addr)(n c:Nat)(ys:List Nat)(hl:ys.length=n)(hn:n<=4096)(hnc:n<=c)(hb:∀x ∈ ys,x<256)(hr:Rd w A (ZV .u8 ys))(hno:¬ZCq ys): Calls Tryz.prog 106 #[.slice A n c] w (Xu (.tuple #[ZCk,.int .i64 3]) w):=by
 refine ZEo w A n c 3 rfl ys hr λW g hR hs1 hs2 hs3 hc=>?_;by_cases hB:∃op p xs N rest,ZAg ys op p xs N rest
 ·obtain⟨op,p,xs,N,rest,hB⟩:=hB;have hrest:rest≠[]:=by rintro rfl;exact hno (ZEF.2 ⟨op,p,xs,N,hB⟩)
  exact ZKy W A n c g 34 (λA c=>#[.int .u8 (op:Int),.int .i64 (p:Int),.slice A xs.length c,.int .i64 (N:Int)]) ys xs rest hrest hl hn hnc hR hs3 w.heap.size hs1 (ZIP hr) λW' r hI hrr hgW hss=>ZSD W' r w.heap.size g ys op p N xs rest ZB hb hB hI hs2 ZB ZB (hgW.trans hc)
 ·exact ZJW W A n c g ys hl hn hnc hR hs3 w.heap.size hs1 (ZIP hr) λW' r hI hrr hgW hss=>ZKU W' r w.heap.size g ys ZB hb ZB hB hI
theorem ZIL (w:World)(A:Option Addr)(n c:Nat)(ys:List Nat)(hr:Rd w A (ZV .u8 ys))(hn:4096<n): Calls Tryz.prog 106 #[.slice A n c] w (Xu (.tuple #[ZCk,.int .i64 2]) w):=by
 refine ZEo w A n c 2 rfl ys hr λW g hR hs1 hs2 hs3 hc=>?_;exact(ZNL W A n c _ hn).mono λe w' ⟨he,hx⟩=>⟨he,Z6 hx _⟩
def ZSM (all:List Nat)(w:World)(r:Nat)(e:Ending)(w':World):Prop:=∃S A n c,(w.heap.size<=S/\S<=w'.heap.size)/\PL w' S A n c (Zy all).1/\w.grownBy w' (some r)/\ ((Zy all).2.2=true->e=.returned (.tuple #[.slice A n c,.int .i64 12])/\XH w' r [] true (λb=>w.heap.size<=b/\b<S))/\ ((Zy all).2.2=false->e=.returned (.tuple #[.slice A n c,.int .i64 0])/\XH w' r (Zy all).2.1 false (λb=>w.heap.size<=b/\b<S))
theorem ZSc (w:World)(r:Nat)(S:Zdb)(ws:List Nat)(h:XH w r ws false S)(hb:∀x ∈ ws,x<256)(hN:ws.length<=9223372036854775807)(hh:Yx ws=0): Calls Tryz.prog 157 #[.pointer (some ⟨r,0,none⟩)] w λe w'=>e=.returned (.tuple #[.slice none 0 0,.bool false,.int .i64 0])/\XH w' r ws false S/\w.grownBy w' (some r):=
 (ZGE w r S ws h hb hN).mono λe w' ⟨hg,hc⟩=>by
  rcases hc with⟨_,h2,h3⟩|⟨h1,_⟩|⟨h1,_⟩
  ·exact⟨h2,h3,hg⟩
  ·omega
  ·omega
theorem ZSe (w:World)(r:Nat)(S:Zdb)(ws:List Nat)(h:XH w r ws false S)(hb:∀x ∈ ws,x<256)(hN:ws.length<=9223372036854775807)(hh:Yx ws=1): Calls Tryz.prog 157 #[.pointer (some ⟨r,0,none⟩)] w λe w'=>e=.returned (.tuple #[.slice none 0 0,.bool false,.int .i64 12])/\(∃A n c,w'.heap[r]?=some (.cells #[.slice A n c,.bool false] 283 (0,0)))/\w.grownBy w' (some r):=
 (ZGE w r S ws h hb hN).mono λe w' ⟨hg,hc⟩=>by
  rcases hc with⟨h1,_⟩|⟨_,h2,h3⟩|⟨h1,_⟩
  ·omega
  ·exact⟨h2,h3,hg⟩
  ·omega
theorem ZSd (w:World)(r:Nat)(S:Zdb)(ws:List Nat)(h:XH w r ws false S)(hb:∀x ∈ ws,x<256)(hN:ws.length<=9223372036854775807)(hh:Yx ws=2): Calls Tryz.prog 157 #[.pointer (some ⟨r,0,none⟩)] w λe w'=>∃A c,e=.returned (.tuple #[.slice A (ZAj ws).length c,.bool true,.int .i64 0])/\w'.ownsRow w.heap.size 5 1 (.slice A (ZAj ws).length c) (ZAj ws).length (ZV .u8 (ZAj ws))/\XH w' r (JW ws) false S/\w.grownBy w' (some r):=
 (ZGE w r S ws h hb hN).mono λe w' ⟨hg,hc⟩=>by
  rcases hc with⟨h1,_⟩|⟨h1,_⟩|⟨_,⟨A,c,h2,h3⟩,h4⟩
  ·omega
  ·omega
  ·exact⟨A,c,h2,h3,h4,hg⟩
theorem ZN8 (w:World)(r:Nat)(S:Zdb)(ws:List Nat)(A:Option Addr)(n c:Nat)(xs:List Nat)(h:XH w r ws false S)(hws:∀x ∈ ws,x<256)(hl:xs.length=n)(hb:∀x ∈ xs,x<256)(hr:Rd w A (ZV .u8 xs))(hN:ws.length+n<=5000000000000): Calls Tryz.prog 105 #[.pointer (some ⟨r,0,none⟩),.slice A n c] w (ZSM (ws++xs) w r):=by
 obtain⟨A0,n0,c0,hblk,hl0,hnc0,hr0,hAS⟩:=h;have h0:=ZTx hblk 0 (.slice A0 n0 c0);have h1:=ZTx hblk 1 (.bool false);have hrl:=ZW hblk;have C1:=ZA (ZAp A0 n0 c0 ws w hl0 ZB hr0);have hN0:n0+n<=5000000000000:=by omega
 have Hblk:=ZA hblk;have Hl0:=ZA hl0;have Hr0:=ZA hr0;have HAS:=ZA hAS;clear hblk hl0 hr0 hAS;have Hl:=ZA hl;have Hr:=ZA hr;have Hb:=ZA hb;have Hws:=ZA hws;clear hl hr hb hws;go_enter Tryz.func105,Tryz.ntmps105;go_wp2_with fail;refine C1.o.mono ?_;rintro e w1 ⟨A1,c1,rfl,hown1,hx1⟩;rw[Hl0.o]at hown1 ⊢;go_wp2_with (first|(at_builtin;refine Y6 _ rfl (.tmp 23) (.tmp 24) rfl w.heap.size rfl hown1 rfl Hl.o (Hr.o.ext hx1) ZB hx1.size ?_;intro A2 c2 w2 hown2 hgrow2 _;have hx2:ZL w w2:=hx1.grown hgrow2 (Yg hown1);have h02:w2.cell? ⟨r,0,none⟩=some (.slice A0 n0 c0):=(hx2.cell (p:=⟨r,0,none⟩) hrl).trans h0;have hf2:w2.frozen? ⟨r,0,none⟩=false:=(hx2.frozen (p:=⟨r,0,none⟩) hrl).trans (ZF Hblk.o 0))|fail);have hblk2:(w2.setCell ⟨r,0,none⟩ (.slice A2 (n0+n) c2)).heap[r]?=some (.cells #[.slice A2 (n0+n) c2,.bool false] 283 (0,0)):=ZU (ZJ Hblk.o hx2) 0 _;have hg2:w.grownBy (w2.setCell ⟨r,0,none⟩ (.slice A2 (n0+n) c2)) (some r):=ZT (Jm (ZcS w _) hx2) 0 _;have hall:(ws++xs).length=n0+n:=by rw[Za9,Hl0.o,Hl.o]
 have hrd2:XH (w2.setCell ⟨r,0,none⟩ (.slice A2 (n0+n) c2)) r (ws++xs) false (λb=>w.heap.size<=b/\b<w2.heap.size):=by
  refine⟨A2,n0+n,c2,hblk2,hall,Ys hown2,?_,λa ha=>⟨Yg hown2 _ (by rw[ha];rfl),ZSZ hown2 a ha⟩⟩
  exact(Rd.of_own hown2).grown (Zc _ _ _ _) (λa ha hr=>by
   injection hr with hr;have:=(hown2.lt a.block (by rw[ha];rfl)).1;omega)
 have hsz2:w.heap.size<=w2.heap.size:=hx2.size;have hball:∀x ∈ ws++xs,x<256:=λx hx=>by
  rcases ZbI.1 hx with hx|hx
  ·exact Hws.o x hx
  ·exact Hb.o x hx
 have Hg2:=ZA hg2;have Hrd2:=ZA hrd2;have Hball:=ZA hball;have Hall:=ZA hall;clear hown1 hgrow2 hx1 hown2 h02 hf2 hblk2 hg2 hrd2 hball hall h0 h1;generalize hS:w2.heap.size=S2 at*;have HS:=ZA hS;clear hS;generalize hAL:ws++xs=al at*;clear hAL
 go_loopg [6] (n0+n) (λg out wr=>∃done todo A n' c,todo.length=g/\out=.slice A n' c/\PL wr S2 A n' c done/\XH wr r todo false (λb=>w.heap.size<=b/\b<S2)/\w.grownBy wr (some r)/\S2<=wr.heap.size/\(∀x ∈ todo,x<256)/\n'+todo.length<=n0+n/\done++(Zy todo).1=(Zy al).1/\(Zy todo).2=(Zy al).2)
 case atStart=>exact⟨[],al,none,0,0,Hall.o,rfl,PL.nil _ _,Hrd2.o,Hg2.o,by have:=HS.o;simp;omega,Hball.o,by have:=Hall.o;omega,rfl,rfl⟩
 case round=>
  obtain⟨done,todo,Ao,no,co,hgk,rfl,hPL,hR,hgw,hSw,hbt,hle,hp1,hp2⟩:=hrel;have hrS2:r<S2:=by omega
  have HP1:=ZA hp1;have HP2:=ZA hp2;have HPL:=ZA hPL;have HR:=ZA hR;have HGW:=ZA hgw;have HBT:=ZA hbt;have HGK:=ZA hgk;clear hp1 hp2 hPL hR hgw hbt hgk;rcases ZEv todo with hh|hh|hh
  ·have C:=ZA (ZSc wr r _ todo HR.o HBT.o ZB hh);have HH:=ZA hh;clear hh;go_wp2_with fail;refine C.o.mono ?_;rintro e w4 ⟨rfl,hR4,hg4⟩;have HR4:=ZA hR4;have HG4:=ZA hg4;clear hR4 hg4;go_wp2_with fail
   go_ret2
   have e1:=ZBO HH.o;refine⟨S2,Ao,no,co,⟨hsz2,Zb2 hSw HG4.o.size⟩,?_,World.grown_trans HGW.o HG4.o,?_,?_⟩
   ·rw[<-HP1.o,e1,Zag];exact HPL.o.keep HG4.o (λk hk=>by injection hk with hk;omega)
   ·intro h;rw[<-HP2.o,e1]at h;cases h
   ·intro _;rw[<-HP2.o,e1];exact⟨rfl,HR4.o⟩
  ·have C:=ZA (ZSe wr r _ todo HR.o HBT.o ZB hh);have HH:=ZA hh;clear hh;go_wp2_with fail;refine C.o.mono ?_;rintro e w4 ⟨rfl,⟨A4,n4,c4,hb4⟩,hg4⟩;have k0:=ZTx hb4 0 (.slice A4 n4 c4);have k1:=ZTx hb4 1 (.bool false);have f0:=ZF hb4 0;have f1:=ZF hb4 1;have HB4:=ZA hb4;have HG4:=ZA hg4;clear hb4 hg4;go_wp2_with fail
   go_ret2
   have e1:=ZC0 HH.o;have hg5:=ZT (ZT (World.grown_trans HGW.o HG4.o) 1 (.bool true)) 0 (.slice none 0 0);refine⟨S2,Ao,no,co,⟨hsz2,by simpa using Zb2 hSw HG4.o.size⟩,?_,hg5,?_,?_⟩
   ·rw[<-HP1.o,e1,Zag];exact(HPL.o.keep HG4.o (λk hk=>by injection hk with hk;omega)).keep (ZT (Zc _ _ _ _) 0 _) (λk hk=>by injection hk with hk;omega)
   ·intro _;exact⟨rfl,none,0,0,ZU (ZU HB4.o 1 _) 0 _,rfl,Zb0 _,Rd.nil _ _,λa ha=>by cases ha⟩
   ·intro h;rw[<-HP2.o,e1]at h;cases h
  ·have C:=ZA (ZSd wr r _ todo HR.o HBT.o ZB hh);have hrl:=ZCT hh;have hrl1:(JW todo).length<todo.length:=hrl.1;have hps:0<(ZAj todo).length:=by omega
   clear hrl;have hpm:∀x ∈ JW todo,x<256:=λx hx=>HBT.o x (ZbP (ZbP hx));have HPM:=ZA hpm;clear hpm;have HH:=ZA hh;clear hh;go_wp2_with fail;refine C.o.mono ?_;rintro e w4 ⟨A4,c4,rfl,hown4,hR4,hg4⟩;obtain⟨vs,hPv⟩:=HPL.o.open_ hg4 (λk hk=>by injection hk with hk;omega);have hov:=hPv.own;have HOWN4:=ZA hown4;have HR4:=ZA hR4;have HG4:=ZA hg4;have HPV:=ZA hPv;clear hown4 hR4 hg4 hPv;have hsz4:wr.heap.size<=w4.heap.size:=HG4.o.size;go_wp2_with (first|(at_builtin;refine ZQf _ rfl (.tmp 47) (.tmp 49) rfl S2 rfl (hov.alloc _) rfl (m:=1) (news:=[.slice A4 (ZAj todo).length c4]) rfl (ZES _ _ _) (λu hu=>by rw[ZbU.1 hu];rfl) ZB (by simp;omega) ?_;intro B5 cb5 w5 hown5 hgrow5 _)|fail)
   go_roundg (JW todo).length
   case measure=>have:=HGK.o;omega
   case rel=>
    have hx5:w4.grownBy w5 (Value.slice Ao no co).ownBlock:=World.grown_trans (ZcT _ _ _) hgrow5;have e1:=ZBX HH.o;have hrow:∀k,(Value.slice Ao no co).ownBlock=some k->S2<=k:=Yg hov;obtain⟨A6,n6,c6,q1,q2,q3,q4,q6⟩:=HR4.o;have q7:w5.heap[r]?=some (.cells #[.slice A6 n6 c6,.bool false] 283 (0,0)):=(hx5.block r (ZW q1) (λe=>by have:=hrow r e.symm;omega)).trans q1;refine⟨done++[ZAj todo],JW todo,B5,no+1,cb5,rfl,rfl,?_,⟨A6,n6,c6,q7,q2,q3,q4.grown hx5 (λa ha hr=>by have:=hrow _ hr;have:=(q6 a ha).2;omega),q6⟩,?_,?_,HPM.o,?_,?_,?_⟩
    ·exact HPV.o.snoc HOWN4.o hps hSw hsz4 (ZcT _ _ _) hown5 hgrow5
    ·have hg:=World.grown_trans HGW.o HG4.o;exact⟨hx5.os.trans hg.os,hx5.tape.trans hg.tape,hx5.output.trans hg.output,Zb2 hg.size hx5.size,λi hi hne=>(hx5.block i (Zb5 hi hg.size) (λe=>by have:=hrow i e.symm;omega)).trans (hg.block i hi hne)⟩
    ·have:=hx5.size;omega
    ·omega
    ·rw[<-HP1.o,e1];simp
    ·rw[<-HP2.o,e1]
theorem ZTF (w:World): Calls Tryz.prog 150 #[] w λe w'=>e=.returned (.pointer (some ⟨w.heap.size,0,none⟩))/\XH w' w.heap.size [] false (λ_=>False)/\ZL w w'/\w.heap.size+1=w'.heap.size:=by
 go_enter Tryz.func150,Tryz.ntmps150;go_wp2_with fail;go_ret;exact⟨rfl,⟨none,0,0,ZM w _,rfl,Zb0 _,Rd.nil _ _,λa ha=>by cases ha⟩,(ZL.refl w).alloc _,by simp⟩
def XK (n:Nat):List Nat:=[n / 16777216 % 256,n / 65536 % 256,n / 256 % 256,n % 256]
theorem ZJl (n:Nat)(h:n<4294967296):Z4 (XK n)=n:=by
 have e:Z4 (XK n)=(((0*256+n / 16777216 % 256)*256+n / 65536 % 256)*256+n / 256 % 256)*256+n % 256:=rfl;rw[e];omega
theorem ZCf (w:World)(A:Option Addr)(n c:Nat)(xs:List Nat)(h:n<=4096)(h0:1<=n)(hl:xs.length=n)(hr:Rd w A (ZV .u8 xs)): Calls Tryz.prog 22 #[.slice A n c] w (Yu (XK n++xs) 0 w):=by
 have hne:((n:Int)==0)=false:=by rw[ZcW];omega
 have Hl:=ZA hl;have Hr:=ZA hr;clear hl hr;have ho:=λ(x0 x1 x2 x3:Int) (e0:x0=((n / 16777216 % 256:Nat):Int)) (e1:x1=((n / 65536 % 256:Nat):Int)) (e2:x2=((n / 256 % 256:Nat):Int)) (e3:x3=((n % 256:Nat):Int))=>show(w.alloc (.cells #[.int .u8 x0,.int .u8 x1,.int .u8 x2,.int .u8 x3] 5)).ownsRow w.heap.size 5 1 (.slice (some ⟨w.heap.size,0,none⟩) 4 4) 4 (ZV .u8 (XK n)) by
  subst e0 e1 e2 e3;exact XR w _ 5 1 4 rfl (by unfold maxLen;omega) (Zb0 _)
 go_enter Tryz.func22,Tryz.ntmps22;go_wp2_with (first|(at_builtin;refine Y6 _ rfl (.tmp 24) (.tmp 25) rfl w.heap.size rfl (ho _ _ _ _ ZB ZB ZB ZB) rfl Hl.o (Hr.o.alloc _) ZB ZTv ?_;intro A1 c1 w1 hown1 hgrow1 _)|fail)
 go_ret2
 exact JE (by rw[Za9,Hl.o];rfl) hown1 (((ZL.refl w).alloc _).grown hgrow1 (by simp[Value.ownBlock]))
def ZS0 (w:World)(A:Option Addr)(pss:List (List Nat)):Prop:=∃vs:List Value,vs.length=pss.length/\Rd w A vs/\∀(i:Nat) (ps:List Nat),pss[i]?=some ps->∃(Ai:Option Addr) (ci:Nat),vs[i]?=some (Value.slice Ai ps.length ci)/\ps.length<=ci/\Rd w Ai (ZV .u8 ps)
theorem PL.rd {w:World}{base:Nat}{A:Option Addr}{n c:Nat}{pss:List (List Nat)}(h:PL w base A n c pss):ZS0 w A pss:=by
 obtain⟨hl,vs,gs,ho,_,_,_,hall⟩:=h;refine⟨vs,by rw[hl];have:=ho.1;omega,Rd.of_own ho,λi ps hi=>?_⟩;obtain⟨g,ci,_,h2,h3⟩:=hall i ps hi;exact⟨_,ci,h2,Ys h3,Rd.of_own h3⟩
theorem ZS0.at_ {w:World}{A:Option Addr}{pss:List (List Nat)}(h:ZS0 w A pss){k:Nat}{ps:List Nat}(hk:pss[k]?=some ps): ∃b off Ai ci,A=some ⟨b,off,none⟩/\w.cell? ⟨b,off+k,none⟩=some (.slice Ai ps.length ci)/\ps.length<=ci/\Rd w Ai (ZV .u8 ps):=by
 obtain⟨vs,hl,hr,hall⟩:=h;obtain⟨Ai,ci,h1,h2,h3⟩:=hall k ps hk;obtain⟨b,off,hA,hc⟩:=hr (by intro e;rw[e]at h1;simp at h1);exact⟨b,off,Ai,ci,hA,hc k _ h1,h2,h3⟩
section
open Go.ChangeShapes Go.WideShapes Go.ChangeAt
def ZRx (w:World)(e:Ending)(w':World):Prop:=e=.returned (.bool true)/\ZL w w'
def ZHD:IntKind->Bool
 |.u8|.u16|.u32|.u64=>true
 |_=>false
section
variable {H:Type} {enc:TypeId × Value->H} {P:Program}
theorem ZEp {w:World}{a:Addr}{vs:List Value}(hc:∀i u,vs[i]?=some u->w.cell? (a.add i)=some u):Rd w (some a) vs:=by
 intro hne;obtain⟨b,off,spot⟩:=a;have h0:∃u,vs[0]?=some u:=by
  cases vs with
  |nil=>exact absurd rfl hne
  |cons v vs=>exact⟨v,rfl⟩
 obtain⟨u,hu⟩:=h0;have hc0:=hc 0 u hu;have hspot:spot=none:=by simpa[Addr.add]using World.cell?_spot hc0
 subst hspot;refine⟨b,off,rfl,λj u hu=>?_⟩;have:=hc j u hu
 rwa [ZaO]at this
def ZIy (d:DataW H)(len cap:Nat):Prop:=(d=.nil/\len=0/\cap=0)\/∃es sp:List (DataW H),d=.slice es sp/\es.length=len/\es.length+sp.length=cap
theorem ZLB {t e:TypeId}{k:IntKind}{W:World}{a:Option Addr}{len cap:Nat}{d:DataW H}{p:List MemPlace}(ht:P.underlying t=some (.slice e))(he:P.underlying e=some (.int k))(hc:P.cellsOf e=1)(h:DataW.Trod enc P W 0 (λ_=>true) true t (.slice a len cap) d p): ∃zs:List Int,zs.length=len/\(∀z ∈ zs,(Lit.int k z).wf=true)/\Rd W a (zs.map (Value.int k))/\len<=cap/\cap<=maxLen/\ZIy d len cap:=by
 obtain⟨fuel,hf⟩:=h;rcases open_ints ht he hc hf with⟨hcs,hx⟩|⟨x,l,c,zs,hcs,_,hl,hm,hz,hx,hcell,hwz⟩
 ·simp[Value.cells]at hcs;obtain⟨rfl,rfl,rfl⟩:=hcs;simp only[ZcN]at hx;exact⟨[],rfl,by simp,Rd.nil _ _,Zb0 _,ZcL _,.inl ⟨hx.1,rfl,rfl⟩⟩
 ·simp[Value.cells]at hcs;obtain⟨rfl,rfl,rfl⟩:=hcs;simp only[ZcN]at hx;simp only[if_true]at hz;have hz:zs.length=cap:=hz;refine⟨zs.take len,by simp;omega,λz hz=>hwz z (ZbR hz),?_,hl,hm,.inr ⟨_,_,hx.1,by simp[lits];omega,by simp[lits];omega⟩⟩;refine ZEp λi u hu=>?_;rw[Za1]at hu;cases hi:(zs.take len)[i]? with
  |none=>rw[hi]at hu;cases hu
  |some z=>
   rw[hi]at hu;injection hu with hu;subst hu;have hil:=(Za0.1 hi).1;have hil':i<zs.length:=by simp at hil;omega
   rw[hcell i hil'];rw[Za6]at hi
   split at hi
   ·rw[Zau,hi];rfl
   ·cases hi
theorem open_nats {t e:TypeId}{k:IntKind}{W:World}{a:Option Addr}{len cap:Nat}{d:DataW H}{p:List MemPlace}(ht:P.underlying t=some (.slice e))(he:P.underlying e=some (.int k))(hc:P.cellsOf e=1)(hk:ZHD k=true)(h:DataW.Trod enc P W 0 (λ_=>true) true t (.slice a len cap) d p): ∃xs:List Nat,xs.length=len/\(∀x ∈ xs,x<2 ^ k.bits)/\Rd W a (ZV k xs)/\len<=cap/\cap<=maxLen/\ZIy d len cap:=by
 obtain⟨zs,hl,hw,hr,h1,h2,h3⟩:=ZLB ht he hc h;have hb:∀z ∈ zs,0<=z/\z.toNat<2 ^ k.bits:=by
  intro z hz;have:=hw z hz;cases k<;>simp[ZHD]at hk<;>simp[Lit.wf,IntKind.min,IntKind.max,IntKind.signed,IntKind.bits]at this ⊢<;>omega
 refine⟨zs.map Int.toNat,by simpa using hl,?_,?_,h1,h2,h3⟩
 ·intro x hx;obtain⟨z,hz,rfl⟩:=ZbN.1 hx;exact(hb z hz).2
 ·have e:ZV k (zs.map Int.toNat)=zs.map (Value.int k):=by
   unfold ZV;rw[List.map_map];refine List.map_congr_left λz hz=>?_;simp only[Function.comp,ZaZ (hb z hz).1]
  rw[e];exact hr
theorem reach_of {ts:List TypeId}{ds:List (DataW H)}(h:(DataW.weightsEach P ts ds).all (· <=reachBytes)=true){j:Nat}{t e:TypeId}{d:DataW H}{len cap:Nat}(ht:ts[j]?=some t)(hd:ds[j]?=some d)(hu:P.underlying t=some (.slice e))(hs:ZIy d len cap): cap*P.bytesOf e<=140737488351232:=by
 rcases hs with⟨_,_,rfl⟩|⟨es,sp,rfl,_,hc⟩
 ·omega
 ·have:=sized_slice h ht hd hu;rw[hc]at this;exact this
theorem ZSl {a:Int}(h:(Lit.int .i64 a).wf=true): -9223372036854775808<=a/\a<=9223372036854775807:=by
 simpa[Lit.wf,IntKind.min,IntKind.max,IntKind.signed,IntKind.bits]using h
end
end
theorem ZBW:∀(n:Nat) (xs:List Nat),xs.length<n-> (Zy xs).1.length+(Zy xs).2.1.length<=xs.length/\(∀x ∈ (Zy xs).2.1,x ∈ xs)/\∀ps ∈ (Zy xs).1,ps.length<=4096/\∀x ∈ ps,x ∈ xs
 |0,_,h=>by omega
 |n+1,xs,hn=>by
  rcases ZEv xs with h|h|h
  ·rw[ZBO h];simp
  ·rw[ZC0 h];simp
  ·have h1:=ZCT h;rw[ZBX h];obtain⟨i1,i2,i3⟩:=ZBW n (JW xs) ZB;have hm:∀x ∈ JW xs,x ∈ xs:=λx hx=>ZbP (ZbP hx);refine⟨by simp only[ZbA];omega,λx hx=>hm x (i2 x hx),λps hp=>?_⟩;rcases ZbJ.1 hp with rfl|hp
   ·exact⟨by omega,λx hx=>ZbP (ZbR hx)⟩
   ·exact⟨(i3 ps hp).1,λx hx=>hm x ((i3 ps hp).2 x hx)⟩
def ZQC (ws:List Nat):Int:=if (Zy ws).2.2=true then 12 else 0
def ZGI (ws:List Nat):List Nat:=if (Zy ws).2.2=true then [] else (Zy ws).2.1
theorem ZJm (ws:List Nat):(ZGI ws).length<=ws.length/\∀x ∈ ZGI ws,x ∈ ws:=by
 obtain⟨h1,h2,_⟩:=ZBW (ws.length+1) ws ZB;unfold ZGI
 split
 ·simp
 ·exact⟨by omega,h2⟩
theorem ZHV:Zy []=([],[],false):=ZBO rfl
theorem ZDI {P:Program}{t e:TypeId}(ht:P.underlying t=some (.slice e))(hz:∀u:World,(sizeOf e).run P u=.ok 1 u){A:Option Addr}{n c m d:Nat}(k h:Nat){ki hi:Int}(hki:ki=(k:Int))(hhi:hi=(h:Int))(hhn:h<=n)(hnc:n<=c)(hm:h=m+k)(hd:c=d+k): ∃A':Option Addr,(∀u:World,(Instr.slice t (.slice A n c) (some (.int .i64 ki)) (some (.int .i64 hi)) none).run P u=.ok (.slice A' m d) u)/\ (∀(w:World) (vs:List Value),vs.length=n->Rd w A vs->Rd w A' ((vs.drop k).take m)):=by
 subst hki hhi;have he:P.elem t=e:=by simp[Program.elem,ht]
 refine⟨if c=k then A else A.map (·.add k),λu=>?_,λw vs hl hr hne=>?_⟩
 ·rw[run_slice_lh (P:=P) u t A n c (by rw[he];exact ht) .i64 .i64 (k:Int) (h:Int) ZB ZB ZB,he,hz];simp only[Result.andThen,sliced,ZaY,ZcD]
  congr 2<;>omega
 ·have hvn:vs≠[]:=by rintro rfl;simp at hne
  obtain⟨b,off,rfl,hc⟩:=hr hvn;have hck:¬c=k:=by
   intro h;apply hne;rw[Zan ZB];simp
  rw[Zcf hck];refine⟨b,off+k,by simp[ZaO],λj u hu=>?_⟩;rw[Zbp];refine hc (k+j) u ?_;rw[Za6]at hu
  split at hu
  ·rw[<-hu,Zay]
  ·cases hu
theorem ZN9 {al:List Nat}{w:World}{r:Nat}{e:Ending}{w':World}(h:ZSM al w r e w'): ∃S A n c,e=.returned (.tuple #[.slice A n c,.int .i64 (ZQC al)])/\(Zy al).1.length=n/\(w.heap.size<=S/\S<=w'.heap.size)/\PL w' S A n c (Zy al).1/\XH w' r (ZGI al) (Zy al).2.2 (λb=>w.heap.size<=b/\b<S)/\w.grownBy w' (some r):=by
 obtain⟨S,A,n,c,h1,h2,h3,h4,h5⟩:=h;refine⟨S,A,n,c,?_,h2.1,h1,h2,?_,h3⟩
 ·unfold ZQC;by_cases hb:(Zy al).2.2=true
  ·rw[Zcg hb];exact(h4 hb).1
  ·rw[Zcf hb];exact(h5 (by simpa using hb)).1
 ·unfold ZGI;by_cases hb:(Zy al).2.2=true
  ·rw[Zcg hb,hb];exact(h4 hb).2
  ·rw[Zcf hb,show(Zy al).2.2=false by simpa using hb];exact(h5 (by simpa using hb)).2
theorem XH.gb {w w':World}{r:Nat}{ws:List Nat}{cl:Bool}{S M:Zdb}(h:XH w r ws cl S)(g:GB w w' M)(hr:¬M r)(hs:∀b,S b->¬M b):XH w' r ws cl S:=by
 obtain⟨A,n,c,h1,h2,h3,h4,h5⟩:=h;exact⟨A,n,c,g.blk h1 hr,h2,h3,g.rd h4 (λp hp=>hs _ (h5 p hp)),h5⟩
theorem ZBx (n:Nat):(XK n).length=4:=rfl
theorem ZFM (n:Nat):∀x ∈ XK n,x<256:=by
 intro x hx;simp only[XK,ZbJ,ZbX,or_false]at hx;rcases hx with rfl|rfl|rfl|rfl<;>exact ZcA _ ZB
theorem ZMV (n:Nat)(ys:List Nat):(XK n++ys).take 4=XK n:=by
 rw[Zbh (by rw[ZBx];omega),Zbk (by rw[ZBx];omega)]
theorem ZSC (n:Nat)(ys:List Nat):(XK n++ys).drop 4=ys:=by
 rw[Zak (by rw[ZBx];omega),Zan (by rw[ZBx];omega),ZbV]
theorem ZEW (p ys:List Nat)(h0:1<=p.length)(h:p.length<=4096):Zy (XK p.length++(p++ys))=(p::(Zy ys).1,(Zy ys).2.1,(Zy ys).2.2):=by
 have hn:=ZJl p.length ZB;have e0:(XK p.length++(p++ys)).length=4+(p.length+ys.length):=by rw[Za9,ZBx,Za9]
 have hh:Yx (XK p.length++(p++ys))=2:=by
  unfold Yx;rw[e0,ZMV,hn,Zcf ZB,Zcf ZB,Zcf ZB]
 have hp:ZAj (XK p.length++(p++ys))=p:=by
  unfold ZAj;rw[ZMV,ZSC,hn,Zbh ZB,Zbk ZB]
 have hr:JW (XK p.length++(p++ys))=ys:=by
  unfold JW;rw[ZMV,ZSC,hn,Zak ZB,Zan ZB,ZbV]
 rw[ZBX hh,hp,hr]
theorem ZIS (b:Nat)(ys:List Nat)(hb:b<4294967296)(h:b=0\/4096<b):Zy (XK b++ys)=([],XK b++ys,true):=by
 apply ZC0;unfold Yx;rw[ZMV,ZJl b hb,Zcf (by rw[Za9,ZBx];omega),Zcg h]
abbrev ZHB (e:Int)(g:Bool)(l t s n:Int):Value:=.agg #[.int .i64 e,.bool g,.int .i64 l,.int .i64 t,.int .i64 s,.int .i64 n]
def ZBl (ns:List Nat):List Nat:=ns.flatMap λn=>Zh n 8
def ZDL (g:Bool):Nat:=if g then 1 else 0
def ZGy (e:Nat)(g:Bool)(ns:List Nat):List Nat:=e::ZDL g::ZBl ns
theorem ZEO (ns:List Nat):(ZBl ns).length=8*ns.length:=by
 induction ns with
 |nil=>rfl
 |cons n ns ih=>show(Zh n 8++ZBl ns).length=_;rw[Za9,Zs,ih,ZbA];omega
theorem ZFd (ns:List Nat)(n:Nat):ZBl (ns++[n])=ZBl ns++Zh n 8:=by simp[ZBl,Zas]
theorem ZCW (e:Nat)(g:Bool)(ns:List Nat):(ZGy e g ns).length=8*ns.length+2:=by
 show(e::ZDL g::ZBl ns).length=_;rw[ZbA,ZbA,ZEO]
def okN (n:Int):Prop:=0<=n/\n<=4611686018427387903
def ZEj (L:List Int)(k:Nat)(ns:List Nat):Prop:=ns.length=k/\ns.map (λ(x:Nat)=>(x:Int))=L.take k/\∀x ∈ ns,x<=4611686018427387903
theorem ZEu {L:List Int}{k:Nat}{ns:List Nat}{v:Int}(h:ZEj L k ns)(hv:L[k]?=some v)(h1:0<=v)(h2:v<=4611686018427387903):ZEj L (k+1) (ns++[v.toNat]):=by
 obtain⟨a,b,c⟩:=h;refine⟨by simp[a],?_,?_⟩
 ·rw[List.map_append,b,Zr hv];simp only[ZbH,List.map_nil];rw[ZaZ h1]
 ·intro x hx;rcases ZbI.1 hx with hx|hx
  ·exact c x hx
  ·rw[ZbU.1 hx];omega
def ZCp (e:Int)(g:Bool)(L:List Int)(q:Int)(B:List Nat):Prop:=(q=1/\B=[]/\¬(0<=e/\e<=16/\∀x ∈ L,okN x))\/(q=0/\0<=e/\e<=16/\∃ns,ZEj L 4 ns/\B=ZGy e.toNat g ns)
def ZMM (e:Int)(g:Bool)(L:List Int)(w:World)(x:Ending)(w':World):Prop:=∃q B,ZCp e g L q B/\Yu B q w x w'
theorem ZEe {w a b:World}{row row':Option Nat}(h:w.grownBy a row)(k:a.grownBy b row')(hr:∀q,row'=some q->row=some q\/w.heap.size<=q):w.grownBy b row:=
 ⟨k.os.trans h.os,k.tape.trans h.tape,k.output.trans h.output,Zb2 h.size k.size,λi hi hne=>(k.block i (Zb5 hi h.size) (λe=>by
  rcases hr i e.symm with h'|h'
  ·exact hne h'.symm
  ·omega)).trans (h.block i hi hne)⟩
theorem ZI7 (w:World)(base:Nat)(A:Option Addr)(m c:Nat)(xs:List Nat)(v:Nat)(hl:xs.length=m)(ho:w.ownsRow base 5 1 (.slice A m c) m (ZV .u8 xs))(hbw:base<=w.heap.size)(hv:v<9223372036854775808)(hm:m<=1000000): Calls Tryz.prog 108 #[.slice A m c,.int .i64 (v:Int)] w λe w'=>∃A' c',e=.returned (.slice A' (m+8) c')/\w'.ownsRow base 5 1 (.slice A' (m+8) c') (m+8) (ZV .u8 (xs++Zh v 8))/\w.grownBy w' (Value.slice A m c).ownBlock/\
   ∀q,(Value.slice A' (m+8) c').ownBlock=some q->(Value.slice A m c).ownBlock=some q\/w.heap.size<=q:=by
 have Ho:=ZA ho;have Hl:=ZA hl;clear ho hl;go_enter Tryz.func108,Tryz.ntmps108;go_wp2_with fail
 go_loopg [0,5] 8 (λg v0 v5 wr=>∃(j:Nat) (A':Option Addr) (c':Nat),j<=8/\g=8 - j/\v0=.slice A' (m+j) c'/\v5=.int .i64 (56 - 8*(j:Int))/\w.grownBy wr (Value.slice A m c).ownBlock/\
  wr.ownsRow base 5 1 (.slice A' (m+j) c') (m+j) (ZV .u8 (xs++(Zh v 8).take j))/\∀q,(Value.slice A' (m+j) c').ownBlock=some q->(Value.slice A m c).ownBlock=some q\/w.heap.size<=q)
 case atStart=>
  exact⟨0,A,c,ZcL _,rfl,rfl,by go_num,ZcS _ _,by simpa using Ho.o,λq hq=>.inl hq⟩
 case round=>
  obtain⟨j,A',c',hj,rfl,rfl,rfl,hxr,hor,hrow⟩:=hrel;have Hxr:=ZA hxr;have Hrow:=ZA hrow;clear hxr hrow;by_cases hlt:j<8
  ·have hg:=ZEP v 8 j hlt;obtain⟨t,ht⟩:∃t,t=8*(7 - j):=⟨_,rfl⟩;have e1:(56 - 8*(j:Int))=(t:Int):=by omega
   have e2:v / 256 ^ (8 - 1 - j) % 256=v / 2 ^ t % 256:=by
    rw[ht,show(256:Nat)=2 ^ 8 from rfl,<-Nat.pow_mul]
   rw[e2]at hg;rw[e1];have Hg:=ZA hg;have hib:=ZA (show((v:Int) / 2 ^ t % 256)=((v / 2 ^ t % 256:Nat):Int) by simp only[Int.natCast_emod,Int.natCast_ediv,Int.natCast_pow];rfl);have ht56:t<=56:=by omega
   have Ht:=ZA ht;have hsz:w.heap.size<=wr.heap.size:=Hxr.o.size;clear hg e1 e2 ht;go_wp2_with (first|(at_builtin;refine Y6 _ rfl (.tmp 10) (.tmp 16) rfl base rfl (hor.alloc _) rfl (m:=1) (news:=[v / 2 ^ t % 256]) rfl (ZK4 _ _ _ hib.out) ZB (by simp;omega) ?_;intro A1 c1 w1 hown1 hgrow1 hblk1)|fail)
   go_roundg (8 - (j+1))
   case measure=>omega
   case rel=>
    refine⟨j+1,A1,c1,hlt,rfl,rfl,by have:=Ht.o;go_num,ZEe (Zl Hxr.o _) hgrow1 Hrow.o,?_,λq hq=>?_⟩
    ·rw[Zr Hg.o,<-Zae];exact hown1
    ·rcases hblk1 with h|h
     ·exact Hrow.o q (h.symm.trans hq)
     ·have h2:=h.symm.trans hq;injection h2 with h2;right;simp at h2;omega
  ·obtain rfl:j=8:=by omega
   have e:(Zh v 8).take 8=Zh v 8:=Zbk (by rw[Zs];omega);rw[e]at hor;have Hor:=ZA hor;clear hor e;go_wp2_with fail;go_ret;exact⟨A',c',rfl,Hor.o,Hxr.o,Hrow.o⟩
theorem ZD7 {w a:World}(h:w.grownBy a none):ZL w a:=⟨h.os,h.tape,h.output,h.size,λi hi=>h.block i hi ZTv⟩
theorem ZJU (w:World)(e:Nat)(l t s n:Int)(he:e<=16):Calls Tryz.prog 152 #[ZHB (e:Int) false l t s n] w (ZMM (e:Int) false [l,t,s,n] w):=by
 have hw:IntKind.u8.wrap (e:Int)=(e:Int):=by rw[Zac];omega
 go_enter Tryz.func152,Tryz.ntmps152;go_wp2_with fail
 go_loopg [4,33] 4 (λx v4 v33 wr=>∃(k:Nat) (A:Option Addr) (c:Nat) (ns:List Nat),k<=4/\x=4 - k/\v4=.slice A (2+8*k) c/\v33=.int .i64 (k:Int)/\ZEj [l,t,s,n] k ns/\w.grownBy wr none/\
  wr.heap[w.heap.size+1+1]?=some (.cells #[.int .i64 l,.int .i64 t,.int .i64 s,.int .i64 n] 2 (0,0))/\(Value.slice A (2+8*k) c).ownBlock≠some (w.heap.size+1+1)/\
  wr.ownsRow (w.heap.size+1) 5 1 (.slice A (2+8*k) c) (2+8*k) (ZV .u8 (e::ZDL false::ZBl ns)))
 case atStart=>
  refine⟨0,some ⟨w.heap.size+1,0,none⟩,2,[],by omega,rfl,rfl,rfl,⟨rfl,rfl,by simp⟩,Zl (Zl (Zl (ZcS w none) _) _) _,Zd _ _ ZTv,by simp[Value.ownBlock],?_⟩;exact ZIT (ZHY _ [.int .u8 (e:Int),.int .u8 0] 5 1 2 rfl (by unfold maxLen;omega) ZTv (Zb0 _)) _
 case round=>
  obtain⟨k,A,c,ns,hk,rfl,rfl,rfl,hH,hG,hL,hne,ho⟩:=hrel;have HH:=ZA hH;have HG:=ZA hG;have HL:=ZA hL;have Hne:=ZA hne;have Ho:=ZA ho;clear hH hG hL hne ho;by_cases hlt:k<4
  ·obtain⟨v,hv⟩:∃v:Int,([l,t,s,n]:List Int)[k]?=some v:=⟨_,Zaz hlt⟩;have hcv:wr.cell? ⟨w.heap.size+1+1,k,none⟩=some (.int .i64 v):=by
    rw[ZE HL.o k];have hk4:k=0\/k=1\/k=2\/k=3:=by omega
    rcases hk4 with rfl|rfl|rfl|rfl<;>(simp at hv;subst hv;rfl)
   have Hv:=ZA hv;clear hv;have hlen:(e::ZDL false::ZBl ns).length=2+8*k:=by
    rw[ZbA,ZbA,ZEO,HH.o.1];omega
   have Hlen:=ZA hlen;clear hlen;have hws:w.heap.size+1+1<wr.heap.size:=ZW HL.o;by_cases hok:v<0\/4611686018427387903<v
   ·have Hok:=ZA hok;go_wp2_with fail;refine(ZGV v _ hok).mono ?_;rintro e' w1 ⟨rfl,rfl⟩;go_wp2_with fail
    go_ret2
    refine⟨1,[],.inl ⟨rfl,rfl,λh=>?_⟩,YM ⟨rfl,ZD7 HG.o⟩⟩;have:=h.2.2 v (ZbO Hv.o);have:=Hok.o;unfold okN at*;omega
   ·obtain⟨V,rfl⟩:∃V:Nat,v=(V:Int):=⟨v.toNat,by omega⟩;have hV:V<=4611686018427387903:=by omega
    clear hok;have C:=ZA (ZI7 wr (w.heap.size+1) A (2+8*k) c _ V Hlen.o Ho.o ZB ZB ZB);go_wp2_with fail;refine(ZFQ (V:Int) _ ZB ZB).mono ?_;rintro e' w1 ⟨rfl,rfl⟩;go_wp2_with fail;refine C.o.mono ?_;rintro e' w1 ⟨A1,c1,rfl,ho1,hg1,hr1⟩;have Ho1:=ZA ho1;have Hg1:=ZA hg1;have Hr1:=ZA hr1;clear ho1 hg1 hr1 C;go_wp2_with fail
    go_roundg (4 - (k+1))
    case measure=>omega
    case rel=>
     have hH:=ZEu HH.o Hv.o ZB ZB;rw[ZaY]at hH;refine⟨k+1,A1,c1,ns++[V],by omega,rfl,by rw[show 2+8*(k+1)=2+8*k+8 by omega],by go_num,hH,?_,?_,?_,?_⟩
     ·exact ZEe HG.o Hg1.o (λq hq=>.inr (by have:=Yg Ho.o q hq;omega))
     ·exact(Hg1.o.block _ (ZW HL.o) (λe=>Hne.o e.symm)).trans HL.o
     ·rw[show 2+8*(k+1)=2+8*k+8 by omega];intro h;rcases Hr1.o _ h with h'|h'
      ·exact Hne.o h'
      ·omega
     ·rw[ZFd,show 2+8*(k+1)=2+8*k+8 by omega];exact Ho1.o
  ·obtain rfl:k=4:=by omega
   go_wp2_with fail
   go_ret2
   refine⟨0,ZGy e false ns,.inr ⟨rfl,by omega,by omega,ns,HH.o,rfl⟩,?_⟩;exact JE (by rw[ZCW,HH.o.1]) (Zg Ho.o ZB) (ZD7 HG.o)
theorem ZKv (w:World)(e:Nat)(l t s n:Int)(he:e<=16):Calls Tryz.prog 152 #[ZHB (e:Int) true l t s n] w (ZMM (e:Int) true [l,t,s,n] w):=by
 have hw:IntKind.u8.wrap (e:Int)=(e:Int):=by rw[Zac];omega
 go_enter Tryz.func152,Tryz.ntmps152;go_wp2_with fail
 go_loopg [4,33] 4 (λx v4 v33 wr=>∃(k:Nat) (A:Option Addr) (c:Nat) (ns:List Nat),k<=4/\x=4 - k/\v4=.slice A (2+8*k) c/\v33=.int .i64 (k:Int)/\ZEj [l,t,s,n] k ns/\w.grownBy wr none/\
  wr.heap[w.heap.size+1+1]?=some (.cells #[.int .i64 l,.int .i64 t,.int .i64 s,.int .i64 n] 2 (0,0))/\(Value.slice A (2+8*k) c).ownBlock≠some (w.heap.size+1+1)/\
  wr.ownsRow (w.heap.size+1) 5 1 (.slice A (2+8*k) c) (2+8*k) (ZV .u8 (e::ZDL true::ZBl ns)))
 case atStart=>
  refine⟨0,some ⟨w.heap.size+1,0,none⟩,2,[],by omega,rfl,rfl,rfl,⟨rfl,rfl,by simp⟩,Zl (Zl (Zl (ZcS w none) _) _) _,Zd _ _ ZTv,by simp[Value.ownBlock],?_⟩;exact ZIT (ZHY _ [.int .u8 (e:Int),.int .u8 1] 5 1 2 rfl (by unfold maxLen;omega) ZTv (Zb0 _)) _
 case round=>
  obtain⟨k,A,c,ns,hk,rfl,rfl,rfl,hH,hG,hL,hne,ho⟩:=hrel;have HH:=ZA hH;have HG:=ZA hG;have HL:=ZA hL;have Hne:=ZA hne;have Ho:=ZA ho;clear hH hG hL hne ho;by_cases hlt:k<4
  ·obtain⟨v,hv⟩:∃v:Int,([l,t,s,n]:List Int)[k]?=some v:=⟨_,Zaz hlt⟩;have hcv:wr.cell? ⟨w.heap.size+1+1,k,none⟩=some (.int .i64 v):=by
    rw[ZE HL.o k];have hk4:k=0\/k=1\/k=2\/k=3:=by omega
    rcases hk4 with rfl|rfl|rfl|rfl<;>(simp at hv;subst hv;rfl)
   have Hv:=ZA hv;clear hv;have hlen:(e::ZDL true::ZBl ns).length=2+8*k:=by
    rw[ZbA,ZbA,ZEO,HH.o.1];omega
   have Hlen:=ZA hlen;clear hlen;have hws:w.heap.size+1+1<wr.heap.size:=ZW HL.o;by_cases hok:v<0\/4611686018427387903<v
   ·have Hok:=ZA hok;go_wp2_with fail;refine(ZGV v _ hok).mono ?_;rintro e' w1 ⟨rfl,rfl⟩;go_wp2_with fail
    go_ret2
    refine⟨1,[],.inl ⟨rfl,rfl,λh=>?_⟩,YM ⟨rfl,ZD7 HG.o⟩⟩;have:=h.2.2 v (ZbO Hv.o);have:=Hok.o;unfold okN at*;omega
   ·obtain⟨V,rfl⟩:∃V:Nat,v=(V:Int):=⟨v.toNat,by omega⟩;have hV:V<=4611686018427387903:=by omega
    clear hok;have C:=ZA (ZI7 wr (w.heap.size+1) A (2+8*k) c _ V Hlen.o Ho.o ZB ZB ZB);go_wp2_with fail;refine(ZFQ (V:Int) _ ZB ZB).mono ?_;rintro e' w1 ⟨rfl,rfl⟩;go_wp2_with fail;refine C.o.mono ?_;rintro e' w1 ⟨A1,c1,rfl,ho1,hg1,hr1⟩;have Ho1:=ZA ho1;have Hg1:=ZA hg1;have Hr1:=ZA hr1;clear ho1 hg1 hr1 C;go_wp2_with fail
    go_roundg (4 - (k+1))
    case measure=>omega
    case rel=>
     have hH:=ZEu HH.o Hv.o ZB ZB;rw[ZaY]at hH;refine⟨k+1,A1,c1,ns++[V],by omega,rfl,by rw[show 2+8*(k+1)=2+8*k+8 by omega],by go_num,hH,?_,?_,?_,?_⟩
     ·exact ZEe HG.o Hg1.o (λq hq=>.inr (by have:=Yg Ho.o q hq;omega))
     ·exact(Hg1.o.block _ (ZW HL.o) (λe=>Hne.o e.symm)).trans HL.o
     ·rw[show 2+8*(k+1)=2+8*k+8 by omega];intro h;rcases Hr1.o _ h with h'|h'
      ·exact Hne.o h'
      ·omega
     ·rw[ZFd,show 2+8*(k+1)=2+8*k+8 by omega];exact Ho1.o
  ·obtain rfl:k=4:=by omega
   go_wp2_with fail
   go_ret2
   refine⟨0,ZGy e true ns,.inr ⟨rfl,by omega,by omega,ns,HH.o,rfl⟩,?_⟩;exact JE (by rw[ZCW,HH.o.1]) (Zg Ho.o ZB) (ZD7 HG.o)
theorem ZDu {b:Nat}{t:TypeId}:∀(ys:List Value) (w:World) (k:Nat) (cs:Array Value),w.heap[b]?=some (.cells cs t (0,0))->k+ys.length<=cs.size-> ∃cs',(w.setCells b k ys).heap[b]?=some (.cells cs' t (0,0))/\cs'.size=cs.size/\(∀j,j<ys.length->cs'[k+j]?=ys[j]?)/\(∀i,i<k\/k+ys.length<=i->cs'[i]?=cs[i]?)/\GB w (w.setCells b k ys) (· =b)
 |[],w,k,cs,h,_=>⟨cs,h,rfl,λj hj=>absurd hj (ZcF j),λ_ _=>rfl,GB.refl w _⟩
 |y::ys,w,k,cs,h,hk=>by
  simp only[ZbA]at hk;obtain⟨cs',h1,h2,h3,h4,h5⟩:=ZDu ys (w.setCell ⟨b,k,none⟩ y) (k+1) _ (ZU h k y) (by simpa using(by omega:k+1+ys.length<=cs.size));refine⟨cs',h1,by simpa using h2,λj hj=>?_,λi hi=>?_,((GB.refl w (· =b)).set b k y (.inl rfl)).trans h5 (λi e=>.inl e)⟩
  ·cases j with
   |zero=>
    rw[Zbw,h4 k (.inl ZB),ZaR ZB];rfl
   |succ j=>
    rw[show k+(j+1)=k+1+j by omega,h3 j (by simp only[ZbA]at hj;omega)];rfl
  ·simp only[ZbA]at hi;rw[h4 i ZB,ZaQ ZB]
def ZBD (w:World)(s:Nat)(ob:Option Nat)(v:Value)(n:Nat)(xs:List Value):Prop:=∃(ao:Option Addr) (cap:Nat),v=.slice ao n cap/\n<=cap/\cap<=maxLen/\xs.length=n*s/\ ((cap=0/\ob=none)\/∃b off cs t,ob=some b/\ao=some ⟨b,off,none⟩/\w.heap[b]?=some (.cells cs t (0,0))/\off+cap*s<=cs.size/\∀j u,xs[j]?=some u->cs[off+j]?=some u)
theorem ZBD.gb {w w':World}{S:Zdb}{s:Nat}{ob:Option Nat}{v:Value}{n:Nat}{xs:List Value}(h:ZBD w s ob v n xs)(g:GB w w' S)(hs:∀b,ob=some b->¬S b):ZBD w' s ob v n xs:=by
 obtain⟨ao,cap,h1,h2,h3,h4,h5⟩:=h;refine⟨ao,cap,h1,h2,h3,h4,h5.imp id ?_⟩;rintro⟨b,off,cs,t,e1,e2,e3,e4,e5⟩;exact⟨b,off,cs,t,e1,e2,g.blk e3 (hs b e1),e4,e5⟩
theorem ZBD.ext {w w':World}{s:Nat}{ob:Option Nat}{v:Value}{n:Nat}{xs:List Value}(h:ZBD w s ob v n xs)(x:ZL w w'):ZBD w' s ob v n xs:=h.gb (GB.of_ext (λ_=>False) x) (λ_ _=>id)
theorem ZBD.lt {w:World}{s:Nat}{ob:Option Nat}{v:Value}{n:Nat}{xs:List Value}(h:ZBD w s ob v n xs):∀b,ob=some b->b<w.heap.size:=by
 obtain⟨ao,cap,h1,h2,h3,h4,h5⟩:=h;rcases h5 with⟨_,e⟩|⟨b,off,cs,t,e1,_,e3,_⟩
 ·intro b e';rw[e]at e';cases e'
 ·intro b' e';rw[e1]at e';injection e' with e';rw[<-e'];exact ZW e3
theorem ZJe (w:World)(s:Nat):ZBD w s none (.slice none 0 0) 0 []:=⟨none,0,rfl,Zb0 _,ZcL _,by simp,.inl ⟨rfl,rfl⟩⟩
theorem ZBD.shape {w:World}{s:Nat}{ob:Option Nat}{v:Value}{n:Nat}{xs:List Value}(h:ZBD w s ob v n xs):∃ao cap,v=.slice ao n cap/\n<=cap/\cap<=maxLen/\Rd w ao xs:=by
 obtain⟨ao,cap,h1,h2,h3,h4,h5⟩:=h;refine⟨ao,cap,h1,h2,h3,λhne=>?_⟩;rcases h5 with⟨e0,_⟩|⟨b,off,cs,t,e1,e2,e3,e4,e5⟩
 ·obtain rfl:n=0:=by omega
  rw[ZcM]at h4;exact absurd (Zap h4) hne
 ·exact⟨b,off,e2,λj u hu=>(ZE e3 _).trans (e5 j u hu)⟩
theorem ZBD.drop {P:Program}{t e:TypeId}{s:Nat}(ht:P.underlying t=some (.slice e))(hz:∀u:World,(sizeOf e).run P u=.ok s u){w:World}{ob:Option Nat}{ao:Option Addr}{n cap:Nat}{xs:List Value}(h:ZBD w s ob (.slice ao n cap) n xs)(k:Nat)(hk:k<=n){ki:Int}(hki:ki=(k:Int)): ∃v' ob',(∀u:World,(Instr.slice t (.slice ao n cap) (some (.int .i64 ki)) none none).run P u=.ok v' u)/\ZBD w s ob' v' (n - k) (xs.drop (k*s))/\∀b,ob'=some b->ob=some b:=by
 obtain⟨ao',cap',h1,h2,h3,h4,h5⟩:=h;injection h1 with h1 _ h1';subst h1 h1';subst hki;have he:P.elem t=e:=by simp[Program.elem,ht]
 have hrun:∀u:World,(Instr.slice t (.slice ao n cap) (some (.int .i64 (k:Int))) none none).run P u=.ok (.slice (if cap=k then ao else ao.map (·.add (k*s))) (n - k) (cap - k)) u:=λu=>by
  rw[run_slice_l (P:=P) u t ao n cap (by rw[he];exact ht) .i64 (k:Int) ZB ZB,he,hz];simp only[Result.andThen,sliced,ZaY]
 have hlen:(xs.drop (k*s)).length=(n - k)*s:=by rw[ZbB,h4,Nat.sub_mul]
 by_cases hck:cap=k
 ·refine⟨_,none,hrun,⟨_,cap - k,rfl,by omega,by omega,hlen,.inl ⟨by omega,rfl⟩⟩,λb e=>by cases e⟩
 ·rcases h5 with⟨e0,_⟩|⟨b,off,cs,tt,e1,e2,e3,e4,e5⟩
  ·omega
  ·refine⟨_,some b,hrun,⟨_,cap - k,rfl,by omega,by omega,hlen,.inr ⟨b,off+k*s,cs,tt,rfl,by rw[Zcf hck,e2];simp[ZaO],e3,?_,λj u hu=>?_⟩⟩,λb' e=>by rw[e1];exact e⟩
   ·have:k*s+(cap - k)*s=cap*s:=by rw[<-Zbt];congr 1;omega
    omega
   ·rw[Zbp];exact e5 (k*s+j) u (by rw[<-hu,Zay])
theorem ZO9 {P:Program}(w:World)(t ty e:TypeId)(i:TypeInfo)(z:Value)(ht:P.underlying t=some (.slice e))(hi:P.info? e=some i)(hz:i.zero=some z)(hzs:z.cells.size=i.size)(hb:i.bytes<=1000){ob:Option Nat}{v:Value}{n:Nat}{xs:List Value}(h:ZBD w i.size ob v n xs)(hn:n<=1000000)(a:Addr)(c:Nat)(news:List Value)(hl:news.length=i.size)(hx:∀j u,news[j]?=some u->w.cell? (a.add j)=some u)(hx1:∀u ∈ news,u.oneCell'=true): ∃v' w' ob',(Builtin.append_ #[t,t] ty #[v,.slice (some a) 1 c]).run P w=.ok v' w'/\ZBD w' i.size ob' v' (n+1) (xs++news)/\GB w w' (λb=>ob=some b)/\(ob'=ob\/ob'=some w.heap.size):=by
 obtain⟨ao,cap,rfl,h2,h3,h4,h5⟩:=h;have hsrc:Src P i.size t (.slice (some a) 1 c) 1 news w:=Src.ofSlice (w:=w) ht a 1 c news (by rw[ZcH];exact hl) hx hx1;have hnm:(n+1)*i.size=n*i.size+i.size:=by rw[Zbt,ZcH]
 by_cases hroom:n+1<=cap
 ·rcases h5 with⟨e0,_⟩|⟨b,off,cs,tt,e1,e2,e3,e4,e5⟩
  ·omega
  ·subst e2;have hcm:(n+1)*i.size<=cap*i.size:=ZcC _ hroom
   have hrun:=run_append_room_src (P:=P) w t t ty e i ht hi b off n cap (.slice (some a) 1 c) 1 news hsrc hroom (λj hj=>by
    rw[ZE e3,Array.getElem?_eq_getElem ZB];rfl) (λj hj=>ZF e3 _)
   obtain⟨cs',k1,k2,k3,k4,k5⟩:=ZDu (b:=b) news w (off+n*i.size) cs e3 ZB;refine⟨_,_,ob,hrun,?_,k5.more (λi _ e=>e ▸ e1),.inl rfl⟩;refine⟨_,cap,rfl,hroom,h3,by rw[Za9,h4,hl,hnm],.inr ⟨b,off,cs',tt,e1,rfl,k1,by omega,λj u hu=>?_⟩⟩;by_cases hj:j<n*i.size
   ·rw[Zav ZB]at hu;rw[k4 _ (.inl ZB)];exact e5 j u hu
   ·rw[Zaw ZB,h4]at hu;have hjl:=(Za0.1 hu).1;have:=k3 (j - n*i.size) hjl;rw[show off+n*i.size+(j - n*i.size)=off+j by omega]at this;rw[this];exact hu
 ·have hold:(Builtin.firstCells i.size n (.slice ao n cap)).run P w.drew=.ok xs.toArray w.drew:=by
   rcases h5 with⟨e0,_⟩|⟨b,off,cs,tt,e1,e2,e3,e4,e5⟩
   ·obtain rfl:n=0:=by omega
    rw[ZcM]at h4;obtain rfl:xs=[]:=Zap h4;cases ao with
    |none=>exact run_firstCells_none w.drew i.size 0 0 cap
    |some a'=>exact Zcm w.drew i.size 0 a' 0 cap [] ZTv (by intro _ _ h';simp at h')
   ·subst e2;refine Zcm w.drew i.size n ⟨b,off,none⟩ n cap xs h4 (λj u hu=>?_);rw[ZaO];exact(ZE e3 _).trans (e5 j u hu)
  have hg:cap<n+1:=by omega
  have hrun:=run_append_grow_src (P:=P) w t t ty e i z ht hi hz ao n cap xs hold (.slice (some a) 1 c) 1 news hsrc hg ZB (growslice_fits hg (Zb2 (Nat.mul_le_mul (show n+1<=1000001 by omega) hb) (by decide)));have hge:=grownCap_ge w (n+1) cap e;have hcm:=grownCap_le_maxLen w (n+1) cap e (by unfold maxLen;omega);obtain⟨GC,hGC⟩:=ZTz (grownCap w (n+1) cap e);rw[hGC]at hrun hge hcm;refine⟨_,_,some w.heap.size,hrun,⟨_,_,rfl,hge,hcm,by rw[Za9,h4,hl,hnm],.inr ⟨w.heap.size,0,_,e,rfl,rfl,ZM w.drew _,?_,λj u hu=>?_⟩⟩,((GB.refl w _).drew).alloc _,.inr rfl⟩
  ·rw[Array.size_append,size_zeroCells,hzs,Zbf,Za9,h4,hl];have:(GC - (n+1))*i.size+(n+1)*i.size=GC*i.size:=by rw[<-Zbt];congr 1;omega
   omega
  ·rw[ZcK,Array.getElem?_append_left (by have:=(Za0.1 hu).1;simpa using this),Za7];exact hu
theorem ZPP (p:YR)(w:World)(h:Yd p):Calls Tryz.prog 123 #[.agg #[.int .u8 (p.kind:Int),.int .i64 p.T,.int .i64 p.Tau,.int .i64 p.perm]] w (Xu (.bool true) w):=by
 obtain⟨kind,T,Tau,perm⟩:=p;rcases h with⟨h0,h1,h2,h3,h4⟩|⟨h0,h1,h2⟩
 ·dsimp only at h0 h1 h2 h3 h4 ⊢
  subst h0;have RC:=ZA (λw=>ZHR T Tau w h1 h2 h3 h4);clear h1 h2 h3 h4;go_enter Tryz.func123,Tryz.ntmps123;go_wp2_with fail;refine(RC.o _).mono ?_;rintro e w1 ⟨rfl,hx⟩;have HX:=ZA hx;clear hx;go_wp2_with fail;go_ret;exact⟨rfl,((ZL.refl w).alloc _).trans HX.o⟩
 ·dsimp only at h0 h1 h2 ⊢
  subst h0;go_enter Tryz.func123,Tryz.ntmps123;go_wp2_with fail;go_ret;exact⟨rfl,(ZL.refl w).alloc _⟩
theorem ZCX (P:List YR)(A:Option Addr)(n c:Nat)(w:World)(hn:P.length=n)(h32:n<=32)(hP:∀p ∈ P,Yd p)(hr:Rd w A (ZAI P)):Calls Tryz.prog 78 #[.slice A n c] w (Xu (.int .i64 0) w):=by
 have Hr:=ZA hr;have HP:=ZA hP;have Hn:=ZA hn;have hnl:¬(32:Int)<(n:Int):=by omega
 clear hr hP hn;go_enter Tryz.func78,Tryz.ntmps78;go_wp2_with fail
 go_loopw [10] (λv10 wr=>∃i:Nat,v10=.int .i64 (i:Int)/\i<=n/\ZL w wr) (λv10 _=>n - (intOf v10).toNat)
 case atStart=>exact⟨0,rfl,ZcL _,ZL.refl w⟩
 case round=>
  obtain⟨i,rfl,hi,hx⟩:=hrel;have HX:=ZA hx;clear hx;by_cases hlt:i<n
  ·have hlti:(i:Int)<(n:Int):=by omega
   have e:=λj (hj:j<4)=>ZBt P i j _ (ZBI (by rw[Hn.o];exact hlt)) hj;obtain⟨b,off,hA,hc⟩:=(Hr.o.ext HX.o) (λe0=>by have:=e 0 ZB;rw[e0]at this;simp[ZCY]at this);have hmem:Zk P i ∈ P:=ZbO (ZBI (by rw[Hn.o];exact hlt));obtain⟨p,Hp⟩:=ZTy (Zk P i);rw[Hp.o]at e hmem;have d0:wr.cell? ⟨b,off+i*4,none⟩=some (.int .u8 (p.kind:Int)):=hc _ _ (e 0 ZB);have d1:wr.cell? ⟨b,off+i*4+1,none⟩=some (.int .i64 p.T):=by rw[Zbp];exact hc _ _ (e 1 ZB)
   have d2:wr.cell? ⟨b,off+i*4+2,none⟩=some (.int .i64 p.Tau):=by rw[Zbp];exact hc _ _ (e 2 ZB)
   have d3:wr.cell? ⟨b,off+i*4+3,none⟩=some (.int .i64 p.perm):=by rw[Zbp];exact hc _ _ (e 3 ZB)
   have FM:=ZA (λu=>ZPP p u (HP.o p hmem));have d0':=ZI d0 (.cells #[.int .u8 0,.int .i64 0,.int .i64 0,.int .i64 0] 80);have d1':=ZI d1 (.cells #[.int .u8 0,.int .i64 0,.int .i64 0,.int .i64 0] 80);have d2':=ZI d2 (.cells #[.int .u8 0,.int .i64 0,.int .i64 0,.int .i64 0] 80);have d3':=ZI d3 (.cells #[.int .u8 0,.int .i64 0,.int .i64 0,.int .i64 0] 80);have hwi:IntKind.i64.wrap ((i:Int)+1)=(i:Int)+1:=by rw[Zaa];omega
   subst hA;clear e hc hmem;go_wp2_with fail;refine(FM.o _).mono ?_;rintro e w1 ⟨rfl,hx⟩;have HY:=ZA hx;clear hx;go_wp2_with fail
   go_roundw
   case rel=>exact⟨i+1,by go_num,by omega,HX.o.trans (((ZL.refl wr).alloc _).trans HY.o)⟩
   case measure=>simp[intOf];omega
  ·have hlti:¬(i:Int)<(n:Int):=by omega
   go_wp2_with fail;go_ret;exact⟨rfl,HX.o⟩
theorem ZPi (pol:Nat)(K:Option Addr)(kl kc:Nat)(key:List Nat)(w:World)(hp:pol<32)(hl:key.length=kl)(hn:kl<=255)(hb:∀x ∈ key,x<256)(hr:Rd w K (ZV .u8 key)): Calls Tryz.prog 86 #[.int .i64 (pol:Int),.slice K kl kc] w (Xu (.int .u64 (JD (pol::key):Int)) w):=by
 obtain⟨l,Hlen⟩:=ZTy ((pol::key).length);have ID:=ZA (ZFN pol K kl kc l key w hp hl hn hr Hlen.o)
 have HB:=ZA (show ∀x ∈ pol::key,x<256 from λx hx=>by
  rcases ZbJ.1 hx with hx|hx
  ·omega
  ·exact hb x hx)
 have hl9:l<=9223372036854775807:=by rw[<-Hlen.o,ZbA,hl];omega
 clear hp hl hn hb hr;go_enter Tryz.func86,Tryz.ntmps86;go_wp2_with fail;refine ID.o.mono ?_;rintro e w1 ⟨A,c,rfl,hr,hx⟩;have SM:=ZA (ZDp A l c (pol::key) w1 Hlen.o HB.o hl9 hr);have HX:=ZA hx;clear hr hx;go_wp2_with fail;refine SM.o.mono ?_;rintro e w2 ⟨rfl,rfl⟩;go_wp2_with fail;go_ret;exact⟨rfl,HX.o⟩
theorem ZIo (w:World)(X:Zdb)(g:YE)(who xb:Nat)(x:ZX)(res:Bool)(ser:Int)(hX:Z0 w X)(hx:XAt w X g.gx who x res ser xb)(hg:ZAy w X g)(hp:x.pol<g.P.length)(hpm:g.P.length<=32)(h6:x.op≠6)(h5:x.op≠5): Calls Tryz.prog 87 #[ZH xb] w (ClR (λw' v=>Ze w' X (Zi g who xb x) v (.find (JD x.id) .begin)) w):=by
 have hmf:=Jg;obtain⟨W,hW⟩:=ZTz ((w.alloc (.cells #[ZH xb] 203)));have xW:ZL w W:=by rw[<-hW];exact((ZL.refl w).alloc _)
 have BG:=ZA (ZKS W X g who xb x res ser (hX.ext xW) (hx.ext xW) (hg.ext xW) hp hpm);have e0:W.cell? ⟨w.heap.size,0,none⟩=some (ZH xb):=by rw[<-hW];exact((Zb.new rfl (hX.not ZB))).cell 0
 obtain⟨K,kc,x0,-⟩:=(hx.ext xW).cells;have b6:((x.op:Int)==6)=false:=by rw[ZcW];omega
 have b5:((x.op:Int)==5)=false:=by rw[ZcW];omega
 have XW:=ZA xW;have HW:=ZA hW;clear hx hg hX xW hW hp hpm h6 h5;go_enter Tryz.func87,Tryz.ntmps87;go_upto_region 1 with fail
 (try rw[HW.o])
 clear HW;go_wp2_with fail;refine BG.o.mono ?_;rintro e w1 ⟨v,rfl,hk,hx⟩;have HK:=ZA hk;have HX:=ZA hx;clear hk hx;go_wp2_with fail;go_ret;exact⟨_,rfl,HK.o,XW.o.trans HX.o⟩
theorem ZRL:(Tryz.prog.info? 80).map (λi=>(i.zero,i.size,i.bytes))=some (some (.agg #[.int .u8 0,.int .i64 0,.int .i64 0,.int .i64 0]),4,32):=by kernel_rfl
theorem ZSX {ops:Array Oper}{rest:List Oper}{o:Oper}{a:Act}{Q:Exit->Act->World->Prop}(w:World)(hgd:o.guard=none)(s x:Operand)(ho:o.op=.call {callee:=.builtin .append,args:=#[s,x],argTypes:=#[26,26]})(base:Nat){B:Option Addr}{n cb:Nat}{xs:List Value}(hs:a.eval s=.slice B n cb)(hown:w.ownsRow base 80 4 (.slice B n cb) n xs){A:Option Addr}{m c:Nat}{news:List Value}(hx:a.eval x=.slice A m c)(hl:news.length=m*4)(hr:Rd w A news)(h1:∀u ∈ news,u.oneCell'=true)(hb:n+m<=1000000)(hbase:base<=w.heap.size)(h:∀B' cb' w',w'.ownsRow base 80 4 (.slice B' (n+m) cb') (n+m) (xs++news)->w.grownBy w' (Value.slice B n cb).ownBlock-> ((Value.slice B' (n+m) cb').ownBlock=(Value.slice B n cb).ownBlock\/(Value.slice B' (n+m) cb').ownBlock=some w.heap.size)->wpList Tryz.prog ops Q rest (a.put o.dst (.slice B' (n+m) cb')) w'): wpList Tryz.prog ops Q (o::rest) a w:=by
 obtain⟨i0,hi,hz0,hz1,hz2⟩:=Zch ZRL;exact Yv w hgd s x 26 ho base 80 Tryz.underlying26 hi hz0 hz1 hz2 rfl (by decide) hs hown hx hl hr h1 (by unfold maxLen;omega) ZB hbase h
theorem ZRK (w:World)(A:Option Addr)(n c n' c':Nat):(binOp .eql 26 (.slice A n c) (.slice none n' c')).run Tryz.prog w=.ok (.bool A.isNone) w:=Zad w _ _ A n c n' c' Tryz.underlying26
def ZNM (n:Nat)(xs:List Value)(w:World)(e:Ending)(w':World):Prop:=∃B d,e=.returned (.slice B n d)/\w'.ownsRow w.heap.size 80 4 (.slice B n d) n xs/\ZL w w'
theorem ZJY (w:World)(A:Option Addr)(n c:Nat)(xs:List Value)(hl:xs.length=n*4)(hn:n<=100000)(hr:Rd w A xs)(h1:∀u ∈ xs,u.oneCell'=true): Calls Tryz.prog 37 #[.slice A n c] w (ZNM n xs w):=by
 have q:=ZRK;have Hl:=ZA hl;have Hr:=ZA hr;have H1:=ZA h1;cases A with
 |none=>
  have hx:xs=[]:=by
   rcases Classical.em (xs=[])with h|h
   ·exact h
   ·obtain⟨b,off,e,_⟩:=hr h;cases e
  have hn0:n=0:=by rw[hx]at hl;simp at hl;omega
  subst hn0 hx;clear hl hr h1;go_enter Tryz.func37,Tryz.ntmps37;go_wp2_with fail;go_ret;exact⟨none,0,rfl,ZcU _ _ _ _,ZL.refl _⟩
 |some a=>
  clear hl hr h1;have h0:(w.alloc (.cells #[] 80)).ownsRow w.heap.size 80 4 (.slice (some ⟨w.heap.size,0,none⟩) 0 0) 0 []:=XR w [] 80 4 0 rfl (ZcL _) (Zb0 _);go_enter Tryz.func37,Tryz.ntmps37;go_wp2_with (at_builtin;refine ZSX _ rfl (.tmp 5) (.tmp 6) rfl w.heap.size rfl h0 rfl Hl.o (Hr.o.alloc _) H1.o ZB ZTv ?_;intro A' c' w1 hown hgrow _;simp only[ZcK,ZbV]at hown);go_ret;exact⟨A',c',rfl,hown,((ZL.refl w).alloc _).grown hgrow (by simp[Value.ownBlock])⟩
theorem ZOg (op kd:Int)(w:World)(h:(op=1/\kd=1)\/(op=2/\kd=2)\/(op=3/\kd=2)\/(op=4/\kd=0)):Calls Tryz.prog 128 #[.int .u8 op] w λe w'=>e=.returned (.int .u8 kd)/\w=w':=by
 rcases h with⟨rfl,rfl⟩|⟨rfl,rfl⟩|⟨rfl,rfl⟩|⟨rfl,rfl⟩
 all_goals
  go_enter Tryz.func128,Tryz.ntmps128;go_wp2_with fail;go_ret;exact⟨rfl,rfl⟩
theorem ZBb (P:List YR)(A K:Option Addr)(n c pol kl kc:Nat)(op kd N:Int)(w:World)(hn:P.length=n)(h32:n<=32)(hP:∀p ∈ P,Yd p)(hr:Rd w A (ZAI P))(hop:(op=1/\kd=1)\/(op=2/\kd=2)\/(op=3/\kd=2)\/(op=4/\kd=0))(hpol:pol<n)(hN:op=1->0<=N/\N<=4611686018427387903)(hk:kd≠0->((Zk P pol).kind:Int)=kd)(hkl:kl<=255): Calls Tryz.prog 85 #[.slice A n c,.agg #[.int .u8 op,.int .i64 (pol:Int),.slice K kl kc,.int .i64 N]] w (Xu (.int .i64 0) w):=by
 have e:=ZBt P pol 0 _ (ZBI (by rw[hn];exact hpol)) ZB;obtain⟨b,off,hA,hc⟩:=id hr (λe0=>by rw[e0]at e;simp[ZCY]at e);have hkc:w.cell? ⟨b,off+pol*4,none⟩=some (.int .u8 ((Zk P pol).kind:Int)):=by
  have h0:=hc _ _ e;rw[Zbw]at h0;exact h0
 have KD:=ZA (λw=>ZOg op kd w hop);obtain⟨W,hW⟩:=ZTz ((w.alloc (.cells #[.int .u8 op,.int .i64 (pol:Int),.slice K kl kc,.int .i64 N] 34)));have xW:ZL w W:=by rw[<-hW];exact((ZL.refl w).alloc _)
 have PO:=ZA (ZCX P A n c W hn h32 hP (hr.ext xW));have K0:=ZA (show W.heap[w.heap.size]?=some (.cells #[.int .u8 op,.int .i64 (pol:Int),.slice K kl kc,.int .i64 N] 34 (0,0)) by rw[<-hW];exact ZM w _);have HKC:=ZA hkc;have XW:=ZA xW;have HW:=ZA hW;have p0:¬(pol:Int)<0:=by omega
 have p1:¬(n:Int)<=(pol:Int):=by omega
 have p2:(pol:Int)<(n:Int):=by omega
 have p3:¬(255:Int)<(kl:Int):=by omega
 have p4:decide ((255:Int)<(kl:Int))=false:=Zca p3;have p5:decide ((pol:Int)<0)=false:=Zca p0;have p6:decide ((n:Int)<=(pol:Int))=false:=Zca p1;have c0:=ZTx K0.o 0 (.int .u8 op);have c1:=ZTx K0.o 1 (.int .i64 (pol:Int));have c2:=ZTx K0.o 2 (.slice K kl kc);have c3:=ZTx K0.o 3 (.int .i64 N);subst hA;clear hr hP hn e hc hkc xW hW hkl h32;rcases hop with⟨rfl,rfl⟩|⟨rfl,rfl⟩|⟨rfl,rfl⟩|⟨rfl,rfl⟩
 case inl=>
  have HKC:=ZA (show w.cell? ⟨b,off+pol*4,none⟩=some (.int .u8 1) by rw[HKC.o,hk (by decide)]);have FM:=ZA (λw=>ZDo N w (hN rfl).1 (hN rfl).2);clear hk hN;go_enter Tryz.func85,Tryz.ntmps85;go_upto_region 1 with fail
  (try rw[HW.o])
  clear HW;go_wp2_with fail;refine(FM.o _).mono ?_;rintro e w1 ⟨rfl,rfl⟩;go_wp2_with fail;refine PO.out.mono ?_;rintro e w1 ⟨rfl,hx⟩;have HX:=ZA hx;have K1:=ZA (ZJ K0.o hx);clear c0 c1 c2 c3;have c0:=ZTx K1.o 0 (.int .u8 _);have c1:=ZTx K1.o 1 (.int .i64 (pol:Int));have hq:=ZG (XW.o.trans hx) HKC.o;clear hx;go_upto_region 9 with fail
  go_quiet ((go_at_call 128;exact ZAW (KD.o _)))
  go_wp2_with fail;go_ret;exact⟨rfl,XW.o.trans (HX.o.trans ((ZL.refl w1).drewN _))⟩
 case inr.inl=>
  have HKC:=ZA (show w.cell? ⟨b,off+pol*4,none⟩=some (.int .u8 2) by rw[HKC.o,hk (by decide)]);clear hk hN;go_enter Tryz.func85,Tryz.ntmps85;go_upto_region 1 with fail
  (try rw[HW.o])
  clear HW;go_wp2_with fail;refine PO.out.mono ?_;rintro e w1 ⟨rfl,hx⟩;have HX:=ZA hx;have K1:=ZA (ZJ K0.o hx);clear c0 c1 c2 c3;have c0:=ZTx K1.o 0 (.int .u8 _);have c1:=ZTx K1.o 1 (.int .i64 (pol:Int));have hq:=ZG (XW.o.trans hx) HKC.o;clear hx;go_upto_region 9 with fail
  go_quiet ((go_at_call 128;exact ZAW (KD.o _)))
  go_wp2_with fail;go_ret;exact⟨rfl,XW.o.trans (HX.o.trans ((ZL.refl w1).drewN _))⟩
 case inr.inr.inl=>
  have HKC:=ZA (show w.cell? ⟨b,off+pol*4,none⟩=some (.int .u8 2) by rw[HKC.o,hk (by decide)]);clear hk hN;go_enter Tryz.func85,Tryz.ntmps85;go_upto_region 1 with fail
  (try rw[HW.o])
  clear HW;go_wp2_with fail;refine PO.out.mono ?_;rintro e w1 ⟨rfl,hx⟩;have HX:=ZA hx;have K1:=ZA (ZJ K0.o hx);clear c0 c1 c2 c3;have c0:=ZTx K1.o 0 (.int .u8 _);have c1:=ZTx K1.o 1 (.int .i64 (pol:Int));have hq:=ZG (XW.o.trans hx) HKC.o;clear hx;go_upto_region 9 with fail
  go_quiet ((go_at_call 128;exact ZAW (KD.o _)))
  go_wp2_with fail;go_ret;exact⟨rfl,XW.o.trans (HX.o.trans ((ZL.refl w1).drewN _))⟩
 case inr.inr.inr=>
  clear hk hN;have p7:decide (n<=pol)=false:=Zca ZB;have p8:¬n<=pol:=by omega
  go_enter Tryz.func85,Tryz.ntmps85;go_upto_region 1 with fail
  (try rw[HW.o])
  clear HW;go_wp2_with fail;refine PO.out.mono ?_;rintro e w1 ⟨rfl,hx⟩;have HX:=ZA hx;have K1:=ZA (ZJ K0.o hx);clear c0 c1 c2 c3;have c0:=ZTx K1.o 0 (.int .u8 _);have c1:=ZTx K1.o 1 (.int .i64 (pol:Int));clear hx;go_upto_region 9 with fail
  go_quiet ((go_at_call 128;with_reducible exact ZAW (KD.o _)))
  go_wp2_with fail;go_ret;exact⟨rfl,XW.o.trans (HX.o.trans ((ZL.refl w1).drewN _))⟩
theorem ZKL (P:List YR)(A K:Option Addr)(n c kl kc:Nat)(op pol N:Int)(w:World)(hn:P.length=n)(h32:n<=32)(hP:∀p ∈ P,Yd p)(hr:Rd w A (ZAI P))(hop:op=5\/op=6): Calls Tryz.prog 85 #[.slice A n c,.agg #[.int .u8 op,.int .i64 pol,.slice K kl kc,.int .i64 N]] w (Xu (.int .i64 0) w):=by
 obtain⟨W,hW⟩:=ZTz ((w.alloc (.cells #[.int .u8 op,.int .i64 pol,.slice K kl kc,.int .i64 N] 34)));have xW:ZL w W:=by rw[<-hW];exact((ZL.refl w).alloc _)
 have PO:=ZA (ZCX P A n c W hn h32 hP (hr.ext xW));have K0:=ZA (show W.heap[w.heap.size]?=some (.cells #[.int .u8 op,.int .i64 pol,.slice K kl kc,.int .i64 N] 34 (0,0)) by rw[<-hW];exact ZM w _);have XW:=ZA xW;have HW:=ZA hW;have c0:=ZTx K0.o 0 (.int .u8 op);clear hr hP hn xW hW h32;rcases hop with rfl|rfl
 all_goals
  go_enter Tryz.func85,Tryz.ntmps85;go_upto_region 1 with fail
  (try rw[HW.o])
  clear HW;go_wp2_with fail;refine PO.out.mono ?_;rintro e w1 ⟨rfl,hx⟩;have HX:=ZA hx;clear c0 hx;go_upto_region 9 with fail
  go_quiet (fail)
  go_wp2_with fail;go_ret;exact⟨rfl,XW.o.trans (HX.o.trans ((ZL.refl w1).drewN _))⟩
theorem ZOQ (w:World)(X:Zdb)(g:YE)(who xb:Nat)(x:ZX)(res:Bool)(ser:Int)(hX:Z0 w X)(hx:XAt w X g.gx who x res ser xb)(h5:x.op=5): Calls Tryz.prog 87 #[ZH xb] w (ClR (λw' v=>Ze w' X (Zi g who xb x) v .evFirst) w):=by
 have hmf:=Jg;obtain⟨W,hW⟩:=ZTz ((w.alloc (.cells #[ZH xb] 203)));have xW:ZL w W:=by rw[<-hW];exact((ZL.refl w).alloc _)
 have KA:Ze W X (Zi g who xb x) (Z1 131 #[ZH w.heap.size]) .evFirst:=by rw[<-hW];exact⟨_,rfl,(Zb.new rfl (hX.not ZB))⟩
 have e0:W.cell? ⟨w.heap.size,0,none⟩=some (ZH xb):=by rw[<-hW];exact((Zb.new rfl (hX.not ZB))).cell 0
 obtain⟨K,kc,x0,-⟩:=(hx.ext xW).cells;rw[h5]at x0;have x0:W.cell? ⟨xb,0,none⟩=some (.int .u8 5):=x0;have XW:=ZA xW;have HW:=ZA hW;have HK:=ZA KA;clear hx hX xW hW h5 KA;go_enter Tryz.func87,Tryz.ntmps87;go_upto_region 1 with fail
 (try rw[HW.o])
 clear HW;go_wp2_with fail;go_ret;exact⟨_,rfl,HK.o,XW.o⟩
theorem ZIn (w:World)(X:Zdb)(g:YE)(who xb:Nat)(x:ZX)(res:Bool)(ser:Int)(hX:Z0 w X)(hx:XAt w X g.gx who x res ser xb)(hg:ZAy w X g)(h6:x.op=6): Calls Tryz.prog 87 #[ZH xb] w (ClR (λw' v=>Ze w' X (Zi g who xb x) v .split) w):=by
 have hmf:=Jg;obtain⟨W,hW⟩:=ZTz ((w.alloc (.cells #[ZH xb] 203)));have xW:ZL w W:=by rw[<-hW];exact((ZL.refl w).alloc _)
 have e0:W.cell? ⟨w.heap.size,0,none⟩=some (ZH xb):=by rw[<-hW];exact((Zb.new rfl (hX.not ZB))).cell 0
 have SPL:=ZA (λu (y:ZL W u)=>ZGF u X (Zi g who xb x) ((hX.ext xW).ext y));obtain⟨K,kc,x0,-,-,-,x4,x5,-⟩:=(hx.ext xW).cells;have c2:=(hg.ext xW).c2;rw[h6]at x0;have x0:W.cell? ⟨xb,0,none⟩=some (.int .u8 6):=x0;have XW:=ZA xW;have HW:=ZA hW;clear hx hX hg xW hW h6;go_enter Tryz.func87,Tryz.ntmps87;go_upto_region 1 with fail
 (try rw[HW.o])
 clear HW;go_upto_region 3 with fail
 go_region_held3 (λw'=>w'.cell? ⟨w.heap.size,0,none⟩=some (ZH xb)/\w'.cell? ⟨xb,4,none⟩=some (ZH g.gx)/\w'.cell? ⟨g.gx,2,none⟩=some (ZH g.gl)/\w'.cell? ⟨xb,5,none⟩=some (.int .i64 (who:Int))) (((try go_split_ands);exact⟨ZT3,ZT3,ZT3,ZT3⟩)) ((go_at_call 129;(with_reducible refine(SPL.o _ (by with_reducible first|exact ZL.refl _|exact(ZL.refl _).drew)).mono ?_);rintro e w2 ⟨v,rfl,hk,hx⟩;have HK:=ZA hk;have X2:=ZA ((show ZL W _ from by with_reducible first|exact ZL.refl _|exact(ZL.refl _).drew).trans hx);have te0:=ZG (X2.o) e0;have tx4:=ZG (X2.o) x4;have tc2:=ZG (X2.o) c2;have tx5:=ZG (X2.o) x5;clear hk hx))
 all_goals
  go_wp2_with fail;go_ret;exact⟨_,rfl,HK.o,XW.o.trans X2.o⟩
theorem ZL3 (w:World)(X:Zdb)(g:YE)(who xb:Nat)(x:ZX)(res:Bool)(ser:Int)(hX:Z0 w X)(hx:XAt w X g.gx who x res ser xb)(hg:ZAy w X g)(ho:Y3 g.P x)(hpm:g.P.length<=32): Calls Tryz.prog 87 #[ZH xb] w (ClR (λw' v=>Ze w' X (Zi g who xb x) v (Xz x)) w):=by
 obtain⟨h1,h6,hk,-⟩:=ho;unfold Xz
 split
 ·next e=>exact ZIn w X g who xb x res ser hX hx hg e
 split
 ·next e=>exact ZOQ w X g who xb x res ser hX hx e
 ·next a b=>exact ZIo w X g who xb x res ser hX hx hg (hk ZB).1 hpm a b
theorem ZLY (w:World)(g:YE)(O C:Zdb)(xb:Nat->Nat)(L:List Zf)(s:YF)(who u sum:Nat)(x:ZX)(res:Bool)(ser:Int)(t:ZAN)(f:FuncId)(caps:Array Value)(h:YK w g O C xb L s)(hc:s.call who=.run x res ser (.find sum t))(hL:L.length<=100000)(hw:who<64)(hu:s.ws.getD 0 0=2*u+1)(hu4:u<=3)(hs:sum<18446744073709551616)(hk:Ze w (XO C O) (Zi g who (xb who) x) (Z1 f caps) (.find sum t)): Calls Tryz.prog f caps w (SK w g O C xb who (L.length+1) x s (.on (.frz (ZP u sum) (.find sum u t)))):=by
 obtain⟨p0,p1,p2,p3,tv,hfn,⟨k0,k1⟩,k2,k3,k4⟩:=hk;obtain⟨fi,ci,rfl⟩:=k4.fn;injection hfn with hfn h1 h2;injection hfn with hfn;subst hfn h2;obtain⟨b0,rfl,l0⟩:=k0.ptr;obtain⟨b1,rfl,l1⟩:=k1.ptr;obtain⟨b2,rfl,l2⟩:=k2.ptr;obtain⟨b3,rfl,l3⟩:=k3.ptr;obtain⟨W,hW⟩:=ZTz (((w.alloc ZUA).alloc ZUA));have xW:ZL w W:=by rw[<-hW];exact(((ZL.refl w).alloc _).alloc _)
 have K0:=ZA (show W.heap[w.heap.size]?=some ZUA by rw[<-hW];exact ZR (ZM w _) _);have K1:=ZA (show W.heap[w.heap.size+1]?=some ZUA by rw[<-hW];exact Zd _ _ ZTv);have hA:=h.xg xW (Zb0 _) (ZW K0.o);have LD:=ZA (ZAa W.drew g (XG O w.heap.size) C xb L s who 0 (2*u+1) _ 0 (hA.ext (ZL.refl W).drew) ZB hw ZB hu rfl rfl);have HA:=ZA hA;have HLT:=ZA h.lt;have HOL:=ZA h.ol;have Hc:=ZA hc;have d0:=(k0.ext xW).cell 0;have d1:=(k1.ext xW).cell 0;have dl:=hA.rd.l0;have HK0:=ZA k0;have HK1:=ZA k1;have HK2:=ZA k2;have HK3:=ZA k3;have HK4:=ZA k4;have XW:=ZA xW;have hNL:(L++[(⟨who,1,0,2*u+1,0,true⟩:Zf)]).length<=L.length+1:=by simp
 obtain⟨d,Hd⟩:=ZTy (2*u+1);rw[Hd.o]at LD hNL;have PL:=ZA (λw=>ZBv u sum w ZB hs);obtain⟨pl,Hp⟩:=ZTy (ZP u sum);rw[Hp.o]at PL ⊢;have e0:W.cell? ⟨b0,0,none⟩=some (ZH g.gl):=d0;have e1:W.cell? ⟨b1,0,none⟩=some (.int .i64 (who:Int)):=d1;have HW:=ZA hW;have hgw:=ZW K1.o;obtain⟨n,Hn⟩:=ZTy ((s.hs.getD 0 []).length);rw[Hn.o]at LD;clear h hc hu k0 k1 k2 k3 k4 d0 d1 hA xW hW;go_enter Tryz.func237,Tryz.ntmps237;go_upto_region 2 with fail
 (try rw[HW.o])
 clear HW
 go_cut [7] (λv7 wd=>v7=.int .u64 (d:Int)/\∃C',Z9 W g (XG O w.heap.size) C xb (L++[⟨who,1,0,d,0,true⟩]) s C' wd)
 case first=>
  go_region_held3 (λw'=>w'.cell? ⟨b0,0,none⟩=some (ZH g.gl)/\w'.cell? ⟨b1,0,none⟩=some (.int .i64 (who:Int))/\w'.cell? ⟨g.gl,0,none⟩=some (ZH g.gb)) (((try go_split_ands);exact⟨ZT3,ZT3,ZT3⟩)) ((go_at_call 174;(with_reducible refine LD.o.mono ?_);rintro e w2 ⟨A,c,rs,C',rfl,-,hm⟩;have HM:=ZA (hm.back (ZL.refl W).drew);have hkp:=HM.o.kpg XW.o (Zb0 w.heap.size);have te0:=(HK0.o.kp hkp).ZT2 0 (ZH g.gl);have te1:=(HK1.o.kp hkp).ZT2 0 (.int .i64 (who:Int));have tdl:=hm.1.rd.l0;clear hm hkp))
  all_goals
   go_wp2_with fail
   go_meet
   exact⟨rfl,_,HM.o⟩
 case rest=>
  obtain⟨rfl,C',hm⟩:=hcut;have HM:=ZA hm;have hkp:=hm.kpg XW.o (Zb0 w.heap.size);have J0:=ZA (HK0.o.kp hkp);have J1:=ZA (HK1.o.kp hkp);have J2:=ZA (HK2.o.kp hkp);have J3:=ZA (HK3.o.kp hkp);have J4:=ZA (HK4.o.kp hkp);have hC0:¬C w.heap.size:=λe=>Zb3 _ (HLT.o _ e);have hC1:¬C (w.heap.size+1):=λe=>by have:=HLT.o _ e;omega
  have KR:=ZA (hm.2.1.blk K0.o hC0);have KN:=ZA (hm.2.1.blk K1.o hC1);have HX:=ZA hm.1.newer;have HN1:=ZA (show ¬XO C' (XG O w.heap.size) (w.heap.size+1)from λe=>e.elim (λe=>(hm.2.2 _ e).elim hC1 (λe=>by omega)) (λe=>e.elim (λe=>by have:=HOL.o _ e;omega) (λe=>by omega)));have hmf:=Jg;have hq:(d:Int) / 2=(u:Int):=by have:=Hd.o;omega
  have hr:(d:Int) % 2=1:=by have:=Hd.o;omega
  clear hm hkp hC0 hC1 e0 e1 dl;go_upto_region 6 with fail;obtain⟨V,hV⟩:=ZTz (wc.alloc (.cells #[.int .i64 (u:Int)] 3));have xV:ZL wc V:=by rw[<-hV];exact(ZL.refl wc).alloc _
  have f4:V.cell? ⟨wc.heap.size,0,none⟩=some (.int .i64 (u:Int)):=by rw[<-hV];exact ZE (ZM wc _) 0
  have f0:=(J0.o.ext xV).ZT2 0 (ZH g.gl);have f1:=(J1.o.ext xV).ZT2 0 (.int .i64 (who:Int));have f2:=(J2.o.ext xV).ZT2 0 (.int .u64 (sum:Int));have f3:=(J3.o.ext xV).ZT2 0 (Z1 fi ci);have KR2:=ZA (ZJ KR.o xV);have KN2:=ZJ KN.o xV;have n0:=ZTx KN2 0 (.bool false);have n1:=ZTx KN2 1 (.int .i64 0);have n2:=ZTx KN2 2 (.bool false);have n3:=ZTx KN2 3 (.int .i64 0);have n4:=ZTx KN2 4 (.int .i64 0);have n5:=ZTx KN2 5 (.int .i64 0);have n6:=ZTx KN2 6 (.int .i64 0);have FTA:Xc V (XO C' (XG O w.heap.size)) (Zi g who (xb who) x) (Z1 239 #[ZH b0,ZH b1,ZH wc.heap.size,ZH b2,ZH b3,ZH (w.heap.size+1)]) (.find sum u t):=⟨_,_,_,_,_,_,_,rfl,⟨J0.o.ext xV,J1.o.ext xV⟩,by rw[<-hV];exact Zb.new rfl (HX.o.not (Zb0 _)),J2.o.ext xV,J3.o.ext xV,J4.o.ext xV,⟨_,_,rfl,KN2,HN1.o⟩⟩;have EN:=ZA (ZCb V.drew (XO C' (XG O w.heap.size)) (Zi g who (xb who) x) pl _ (.find sum u t) (HX.o.ext (xV.trans (ZL.refl V).drew)) (FTA.ext (ZL.refl V).drew));clear FTA;have XV:=ZA xV;have HNL:=ZA hNL;have HU4:=ZA hu4;rw[hV];clear hV xV KN2 hq hr;have hwc:w.heap.size<wc.heap.size:=ZW KR.o;have qf0:b0≠w.heap.size:=by omega
  have qf1:b1≠w.heap.size:=by omega
  have qf2:b2≠w.heap.size:=by omega
  have qf3:b3≠w.heap.size:=by omega
  have qf4:wc.heap.size≠w.heap.size:=by omega
  have qn0:w.heap.size+1≠w.heap.size:=by omega
  have qn1:w.heap.size+1≠w.heap.size:=by omega
  have qn2:w.heap.size+1≠w.heap.size:=by omega
  have qn3:w.heap.size+1≠w.heap.size:=by omega
  have qn4:w.heap.size+1≠w.heap.size:=by omega
  have qn5:w.heap.size+1≠w.heap.size:=by omega
  have qn6:w.heap.size+1≠w.heap.size:=by omega
  clear hNL hu4 hs hL hgw l0 l1 l2 l3 hwc
  go_region_held3 (λw'=>w'.cell? ⟨b0,0,none⟩=some (ZH g.gl)/\w'.cell? ⟨b1,0,none⟩=some (.int .i64 (who:Int))/\w'.cell? ⟨b2,0,none⟩=some (.int .u64 (sum:Int))/\w'.cell? ⟨wc.heap.size,0,none⟩=some (.int .i64 (u:Int))/\w'.cell? ⟨b3,0,none⟩=some (Z1 fi ci)/\w'.cell? ⟨w.heap.size+1,0,none⟩=some (.bool false)/\w'.cell? ⟨w.heap.size+1,1,none⟩=some (.int .i64 0)/\w'.cell? ⟨w.heap.size+1,2,none⟩=some (.bool false)/\w'.cell? ⟨w.heap.size+1,3,none⟩=some (.int .i64 0)/\w'.cell? ⟨w.heap.size+1,4,none⟩=some (.int .i64 0)/\w'.cell? ⟨w.heap.size+1,5,none⟩=some (.int .i64 0)/\w'.cell? ⟨w.heap.size+1,6,none⟩=some (.int .i64 0)) (((try go_split_ands);exact⟨ZT4,ZT4,ZT4,ZT4,ZT4,ZT4,ZT4,ZT4,ZT4,ZT4,ZT4,ZT4⟩))
   (first
    |(go_at_call 81;(with_reducible refine(PL.out _).mono ?_);rintro e w8 ⟨rfl,rfl⟩)
    |(go_at_call 232;(with_reducible refine EN.o.mono ?_);rintro e w2 ⟨v,rfl,hk,hx⟩;have hx':=(ZL.refl V).drew.trans hx;have HK:=ZA hk;have HXX:=ZA hx';have KR3:=ZA (ZJ KR2.o hx');obtain⟨r0,z0,r1,z1,r2,z2,r3,z3,r4,z4,r5,z5,r6,z6⟩:=ZT9 KR3.o;have tf0:=ZG (hx') f0;have tf1:=ZG (hx') f1;have tf2:=ZG (hx') f2;have tf3:=ZG (hx') f3;have tf4:=ZG (hx') f4;have tn0:=ZG (hx') n0;have tn1:=ZG (hx') n1;have tn2:=ZG (hx') n2;have tn3:=ZG (hx') n3;have tn4:=ZG (hx') n4;have tn5:=ZG (hx') n5;have tn6:=ZG (hx') n6;clear hk hx hx'))
  all_goals
   go_wp2_with fail;refine ZcY (ZQ (p:=5) (u:=4) rfl _ _ w.heap.size _ #[.bool false,.int .i64 0,.bool false,.int .i64 0,.int .i64 0,.int .i64 0,.int .i64 0] (0,0) _ rfl (Yf KR3.o _ _ _ _ _ _ _) Tryz.underlying41 ZTw ZC) rfl ?_;exact YS (r:=Jc) HNL.o XW.o (Zb0 _) (HM.o.ext (XV.o.trans HXX.o)) (ZAB HK.o) _ _ _ _ _ _ _
theorem Xs.hen {w:World}{X:Zdb}{d:JM}{f:FuncId}{caps:Array Value}{t:ZAN}(h:Xs w X d (Z1 f caps) t):∀(ar:Array Value) (u:World),(callFunc f (ar++caps)).run Tryz.prog u=.ok (.enter f (ar++caps)) u:=by
 cases t with
 |begin=>
  obtain⟨q0,q1,h0,_⟩:=h;injection h0 with h0 _ h2;injection h0 with h0;subst h0;exact λ_ _=>rfl
 |evict j shards gone=>
  obtain⟨q0,q1,q2,fv,h0,_⟩:=h;injection h0 with h0 _ h2;injection h0 with h0;subst h0;exact λ_ _=>rfl
theorem ZD2 (w:World)(X:Zdb)(d:JM)(sum word v n c:Nat)(f:FuncId)(caps:Array Value)(A:Option Addr)(t:ZAN)(out:Zn)(hX:Z0 w X)(h:Xs w X d (Z1 f caps) t)(hout:v=0\/Za<=v->out=.on (.find sum t))(TH:¬(v=0\/Za<=v)->∀u,ZL w u->w.heap.size<u.heap.size->Calls Tryz.prog f (#[.int .i64 (word:Int),.int .u64 (v:Int),.slice A n c]++caps) u (Jx (XG X w.heap.size) d out u)): Calls Tryz.prog 241 #[ZH d.gl,.int .i64 (d.who:Int),.int .u64 (sum:Int),.int .i64 (word:Int),.int .u64 (v:Int),.slice A n c,Z1 f caps] w (Jx X d out w):=by
 by_cases hv:v=0\/Za<=v
 ·rw[hout hv];obtain⟨W,hW⟩:=ZTz (((w.alloc ZUA).alloc ZUA));have xW:ZL w W:=by rw[<-hW];exact(((ZL.refl w).alloc _).alloc _)
  have K0:=ZA (show W.heap[w.heap.size]?=some ZUA by rw[<-hW];exact ZR (ZM w _) _);have K1:=ZA (show W.heap[w.heap.size+1]?=some ZUA by rw[<-hW];exact Zd _ _ ZTv);have FD:=ZA (ZEc W.drew (XG X w.heap.size) d sum (Z1 f caps) t ((hX.xg xW (ZW K0.o)).ext (ZL.refl W).drew) (h.kp ((kpg xW (Zb0 _)).trans (Kp.ext _ (ZL.refl W).drew))));have XW:=ZA xW;have HW:=ZA hW;have b:((v:Int)==0)=true\/(((v:Int)==0)=false/\(4611686018427387904:Int)<=(v:Int)):=by
   unfold Za at hv;by_cases h0:v=0
   ·exact .inl (by rw[ZcX];omega)
   ·exact .inr ⟨by rw[ZcW];omega,by omega⟩
  clear h hX xW hW hout TH hv;obtain⟨n0,m0,n1,m1,n2,m2,n3,m3,n4,m4,n5,m5,n6,m6⟩:=ZT9 K1.o;have qn0:w.heap.size+1≠w.heap.size:=by omega
  rcases b with b1|⟨b1,b2⟩
  all_goals
   (try have b3:decide ((4611686018427387904:Int)<=(v:Int))=true:=Zcb b2)
   go_enter Tryz.func241,Tryz.ntmps241;go_upto_region 3 with fail
   (try rw[HW.o])
   clear HW
   go_region_with ((go_at_call 179;(with_reducible refine FD.o.mono ?_);rintro e w2 ⟨v,rfl,hk,hx⟩;have hx':=(ZL.refl W).drew.trans hx;have HK:=ZA hk;have HX:=ZA hx';have KR3:=ZA (ZJ K0.o hx');obtain⟨r0,z0,r1,z1,r2,z2,r3,z3,r4,z4,r5,z5,r6,z6⟩:=ZT9 KR3.o;have tn0:=ZG (hx') n0;have tn1:=ZG (hx') n1;have tn2:=ZG (hx') n2;have tn3:=ZG (hx') n3;have tn4:=ZG (hx') n4;have tn5:=ZG (hx') n5;have tn6:=ZG (hx') n6;clear hk hx hx'))
   all_goals
    go_wp2_with fail;refine ZcY (ZQ (p:=15) (u:=14) rfl _ _ w.heap.size _ #[.bool false,.int .i64 0,.bool false,.int .i64 0,.int .i64 0,.int .i64 0,.int .i64 0] (0,0) _ rfl (Yf KR3.o _ _ _ _ _ _ _) Tryz.underlying41 ZTw ZC) rfl ?_;exact Yj (r:=Jc) (ZAB HK.o) (XW.o.trans HX.o) (Zb0 _) _ _ _ _ _ _ _
 ·have hv0:v≠0:=λe=>hv (.inl e);have hf:v<4611686018427387904:=Nat.lt_of_not_le (λe=>hv (.inr e));obtain⟨W,hW⟩:=ZTz ((w.alloc ZUA));have xW:ZL w W:=by rw[<-hW];exact((ZL.refl w).alloc _)
  have K0:=ZA (show W.heap[w.heap.size]?=some ZUA by rw[<-hW];exact ZM w _);have CL:=ZA (TH hv W xW (ZW K0.o));have XW:=ZA xW;have HW:=ZA hW;have b1:((v:Int)==0)=false:=by rw[ZcW];omega
  have b2:¬(4611686018427387904:Int)<=(v:Int):=by omega
  have b3:decide ((4611686018427387904:Int)<=(v:Int))=false:=Zca b2;have hen:=h.hen;clear TH xW hW hv hf hout h hX;go_enter Tryz.func241,Tryz.ntmps241;go_upto_region 1 with fail
  (try rw[HW.o])
  clear HW;go_wp2_with fail;refine CL.o.mono ?_;rintro e w2 ⟨nv,done,r',rfl,ho,hx⟩;have HO:=ZA ho;have HXX:=ZA hx;have K3:=ZA (ZJ K0.o hx);obtain⟨r0,z0,r1,z1,r2,z2,r3,z3,r4,z4,r5,z5,r6,z6⟩:=ZT9 K3.o;clear ho hx;go_wp2_with fail;refine ZcY (ZQ (p:=15) (u:=14) rfl _ _ (w.heap.size) _ #[.bool done,.int .i64 (r'.er:Int),.bool r'.granted,.int .i64 r'.left,.int .i64 r'.wait,.int .i64 r'.ser,.int .i64 r'.now] (0,0) _ rfl (Yf K3.o _ _ _ _ _ _ _) Tryz.underlying41 ZTw ZC) rfl ?_;exact Yj HO.o (XW.o.trans HXX.o) (Zb0 _) _ _ _ _ _ _ _
section
open Go.Shelf
def ZJn:Go.Shelf.Ren:=⟨λ|264=>214|n=>n,λ|53=>52|46=>111|n=>n,λ|n=>n⟩
theorem ZRU:Go.Proofs.Lays.n264 Tryz.prog ZJn where
 mixed:=by kernel_rfl
 f264:=Tryz.func214.trans (ZcZ some ZC)
 t46:=Tryz.underlying111
 a46:=Tryz.isAgg111
 z46:=Tryz.sizeOf111
 v46:=Tryz.zeroValue111
 t53:=Tryz.underlying52
 a53:=Tryz.isAgg52
 z53:=Tryz.sizeOf52
 v53:=Tryz.zeroValue52
open Go.RowKit in
theorem ZHd (x y:Nat)(hx:x<18446744073709551616)(hy:y<18446744073709551616)(w:World): Calls Tryz.prog 214 #[.int .u64 x,.int .u64 y] w λe w'=>e=.returned (.tuple #[.int .u64 ((x*y / 18446744073709551616:Nat):Int),.int .u64 ((x*y % 18446744073709551616:Nat):Int)])/\w'=w:=Any.bits_Mul64 ZRU x y hx hy w
end
theorem ZHo (t k:Nat)(Tau:Int)(w:World)(h1:1<=t)(h2:t<=4611686018427387903)(h4:Tau<=4611686018427387903)(hk:k<=4611686018427387903)(hm:((k*t:Nat):Int)<=Tau): Calls Tryz.prog 149 #[.agg #[.int .i64 (t:Int),.int .i64 Tau],.int .i64 ((k:Int)+1)] w λe w'=>e=.returned (.tuple #[.int .i64 ((k*t:Nat):Int),.bool true])/\ZL w w':=by
 have hw:((k:Int)+1) - 1=(k:Int):=by omega
 have M:=ZHd k t ZB ZB (w.alloc (.cells #[.int .i64 (t:Int),.int .i64 Tau] 78));generalize k*t=m at*;have hd:m / 18446744073709551616=0:=by omega
 have hr:m % 18446744073709551616=m:=by omega
 rw[hd,hr]at M;have Hm:=ZA hd;clear hd hr;go_enter Tryz.func149,Tryz.ntmps149;go_wp2_with fail;refine M.mono ?_;rintro e w1 ⟨rfl,rfl⟩;go_wp2_with fail
 go_quiet (fail)
 go_wp2_with fail
 go_ret2
 exact⟨rfl,((ZL.refl w).alloc _).drewN _⟩
theorem ZN5 (t k:Nat)(Tau:Int)(w:World)(h1:1<=t)(h2:t<=4611686018427387903)(h3:0<=Tau)(h4:Tau<=4611686018427387903)(hk:k<=4611686018427387903)(hm:Tau<((k*t:Nat):Int)): Calls Tryz.prog 149 #[.agg #[.int .i64 (t:Int),.int .i64 Tau],.int .i64 ((k:Int)+1)] w λe w'=>(∃x:Int,e=.returned (.tuple #[.int .i64 x,.bool false]))/\ZL w w':=by
 have hw:((k:Int)+1) - 1=(k:Int):=by omega
 have M:=ZHd k t ZB ZB (w.alloc (.cells #[.int .i64 (t:Int),.int .i64 Tau] 78));have H2:=ZA h2;have H1:=ZA h1;have HK:=ZA hk;generalize k*t=m at*;by_cases hz:m / 18446744073709551616=0
 ·have hr:m % 18446744073709551616=m:=by omega
  have hx:m<18446744073709551616:=by omega
  rw[hz,hr]at M;clear hz hr;go_enter Tryz.func149,Tryz.ntmps149;go_wp2_with fail;refine M.mono ?_;rintro e w1 ⟨rfl,rfl⟩;go_wp2_with fail
  go_quiet (fail)
  go_wp2_with fail
  go_ret2
  exact⟨⟨_,ZAz rfl (ZDC (Zca ZB))⟩,((ZL.refl w).alloc _).drewN _⟩
 ·have hr:m % 18446744073709551616<18446744073709551616:=by omega
  generalize m / 18446744073709551616=q at*;generalize m % 18446744073709551616=r at*;have hq:decide (((q:Nat):Int)=0)=false:=Zca ZB;have hq2:decide (q=0)=false:=Zca ZB;have hq3:(((q:Nat):Int)==0)=false:=by simpa using hz
  have hq4:(q==0)=false:=by simpa using hz
  clear hz;go_enter Tryz.func149,Tryz.ntmps149;go_wp2_with fail;refine M.mono ?_;rintro e w1 ⟨rfl,rfl⟩;go_wp2_with fail
  go_quiet (fail)
  go_wp2_with fail
  go_ret2
  exact⟨⟨_,rfl⟩,((ZL.refl w).alloc _).drewN _⟩
theorem ZP1 (t k:Nat)(Tau tat now:Int)(w:World)(h1:1<=t)(h2:t<=4611686018427387903)(h3:0<=Tau)(h4:Tau<=4611686018427387903)(hk:k<=4611686018427387903)(hm:Tau<((k*t:Nat):Int)): Calls Tryz.prog 98 #[.agg #[.int .i64 (t:Int),.int .i64 Tau],.int .i64 tat,.int .i64 now,.int .i64 ((k:Int)+1)] w λe w'=>e=.returned (.int .i64 4611686018427387903)/\ZL w w':=by
 have M:=ZA (ZN5 t k Tau (w.alloc (.cells #[.int .i64 (t:Int),.int .i64 Tau] 78)) h1 h2 h3 h4 hk hm);clear hm;go_enter Tryz.func98,Tryz.ntmps98;go_wp2_with fail;refine M.o.mono ?_;rintro e w1 ⟨⟨x,rfl⟩,hx⟩;go_wp2_with fail;go_ret;exact⟨rfl,((ZL.refl w).alloc _).trans hx⟩
theorem ZNu (t k:Nat)(Tau tat now:Int)(w:World)(h1:1<=t)(h2:t<=4611686018427387903)(h4:Tau<=4611686018427387903)(hk:k<=4611686018427387903)(ht:0<=tat)(ht':tat<=4611686018427387903)(hn:0<=now)(hn':now<=4611686018427387903)(hm:((k*t:Nat):Int)<=Tau)(hq:(4611686018427387903 - max tat now) / (t:Int)<(k:Int)+1): Calls Tryz.prog 98 #[.agg #[.int .i64 (t:Int),.int .i64 Tau],.int .i64 tat,.int .i64 now,.int .i64 ((k:Int)+1)] w λe w'=>e=.returned (.int .i64 4611686018427387903)/\ZL w w':=by
 have M:=ZA (ZHo t k Tau (w.alloc (.cells #[.int .i64 (t:Int),.int .i64 Tau] 78)) h1 h2 h4 hk hm);clear hm;have hT:(t:Int)≠0:=by omega
 by_cases hc:tat<now
 ·have hmm:max tat now=now:=by omega
  rw[hmm]at hq;have hq2:0<=(4611686018427387903 - now) / (t:Int):=ZaX ZB ZB;have hq':(4611686018427387903 - now) / (t:Int)<(k:Int)+1:=hq;clear hq;go_enter Tryz.func98,Tryz.ntmps98;go_wp2_with fail;refine M.o.mono ?_;rintro e w1 ⟨rfl,hx⟩;have hb:w1.heap[w.heap.size]?=some (.cells #[.int .i64 (t:Int),.int .i64 Tau] 78):=(hx.block _ (by rw[ZcV];omega)).trans (ZM w _);have c0:=ZTx hb 0 (.int .i64 (t:Int));go_wp2_with fail;go_ret;exact⟨rfl,((ZL.refl w).alloc _).trans hx⟩
 ·have hmm:max tat now=tat:=by omega
  rw[hmm]at hq;have hq2:0<=(4611686018427387903 - tat) / (t:Int):=ZaX ZB ZB;have hq':(4611686018427387903 - tat) / (t:Int)<(k:Int)+1:=hq;clear hq;go_enter Tryz.func98,Tryz.ntmps98;go_wp2_with fail;refine M.o.mono ?_;rintro e w1 ⟨rfl,hx⟩;have hb:w1.heap[w.heap.size]?=some (.cells #[.int .i64 (t:Int),.int .i64 Tau] 78):=(hx.block _ (by rw[ZcV];omega)).trans (ZM w _);have c0:=ZTx hb 0 (.int .i64 (t:Int));go_wp2_with fail;go_ret;exact⟨rfl,((ZL.refl w).alloc _).trans hx⟩
theorem ZLf (t k:Nat)(Tau tat now:Int)(w:World)(h1:1<=t)(h2:t<=4611686018427387903)(h4:Tau<=4611686018427387903)(hk:k<=4611686018427387903)(ht:0<=tat)(ht':tat<=4611686018427387903)(hn:0<=now)(hn':now<=4611686018427387903)(m:Nat)(he:k*t=m)(hm:(m:Int)<=Tau)(hq:¬(4611686018427387903 - max tat now) / (t:Int)<(k:Int)+1): Calls Tryz.prog 98 #[.agg #[.int .i64 (t:Int),.int .i64 Tau],.int .i64 tat,.int .i64 now,.int .i64 ((k:Int)+1)] w λe w'=>e=.returned (.int .i64 (tat - now - (Tau - (m:Int))))/\ZL w w':=by
 have M:=ZA (ZHo t k Tau (w.alloc (.cells #[.int .i64 (t:Int),.int .i64 Tau] 78)) h1 h2 h4 hk (by rw[he];exact hm));rw[he]at M;clear he;have hT:(t:Int)≠0:=by omega
 by_cases hc:tat<now
 ·have hmm:max tat now=now:=by omega
  rw[hmm]at hq;have hq2:0<=(4611686018427387903 - now) / (t:Int):=ZaX ZB ZB;have hq':¬(4611686018427387903 - now) / (t:Int)<(k:Int)+1:=hq;clear hq;go_enter Tryz.func98,Tryz.ntmps98;go_wp2_with fail;refine M.o.mono ?_;rintro e w1 ⟨rfl,hx⟩;have hb:w1.heap[w.heap.size]?=some (.cells #[.int .i64 (t:Int),.int .i64 Tau] 78):=(hx.block _ (by rw[ZcV];omega)).trans (ZM w _);have c0:=ZTx hb 0 (.int .i64 (t:Int));have c1:=ZTx hb 1 (.int .i64 Tau);go_wp2_with fail;go_ret;exact⟨ZAT ZB,((ZL.refl w).alloc _).trans hx⟩
 ·have hmm:max tat now=tat:=by omega
  rw[hmm]at hq;have hq2:0<=(4611686018427387903 - tat) / (t:Int):=ZaX ZB ZB;have hq':¬(4611686018427387903 - tat) / (t:Int)<(k:Int)+1:=hq;clear hq;go_enter Tryz.func98,Tryz.ntmps98;go_wp2_with fail;refine M.o.mono ?_;rintro e w1 ⟨rfl,hx⟩;have hb:w1.heap[w.heap.size]?=some (.cells #[.int .i64 (t:Int),.int .i64 Tau] 78):=(hx.block _ (by rw[ZcV];omega)).trans (ZM w _);have c0:=ZTx hb 0 (.int .i64 (t:Int));have c1:=ZTx hb 1 (.int .i64 Tau);go_wp2_with fail;go_ret;exact⟨ZAT ZB,((ZL.refl w).alloc _).trans hx⟩
theorem ZBy (T Tau tat now:Int)(w:World)(h1:1<=T)(h2:T<=4611686018427387903)(h3:0<=Tau)(h4:Tau<=4611686018427387903)(ht:0<=tat)(ht':tat<=4611686018427387903)(hn:0<=now)(hn':now<=4611686018427387903): Calls Tryz.prog 97 #[.agg #[.int .i64 T,.int .i64 Tau],.int .i64 tat,.int .i64 now] w λe w'=>e=.returned (.int .i64 (XE T Tau tat now))/\ZL w w':=by
 by_cases h:Tau<max tat now - now
 ·exact ZN4 T Tau tat now w h3 ht ht' hn hn' h
 ·exact ZLk T Tau tat now w h1 h2 h3 h4 ht ht' hn hn' h
theorem ZGR (T Tau tat now:Int)(h1:1<=T)(ht:0<=tat)(ht':tat<=4611686018427387903)(hn':now<=4611686018427387903):0<=XE T Tau tat now:=by
 unfold XE
 split
 ·omega
 ·have a:=ZaX (a:=Tau - (max tat now - now)) (b:=T) ZB ZB;have b:=ZaX (a:=4611686018427387903 - max tat now) (b:=T) ZB ZB;omega
theorem ZIe (T Tau tat now:Int)(w:World)(h1:1<=T)(h2:T<=4611686018427387903)(h3:0<=Tau)(h4:Tau<=4611686018427387903)(ht:0<=tat)(ht':tat<=4611686018427387903)(hn:0<=now)(hn':now<=4611686018427387903): Calls Tryz.prog 53 #[.agg #[.int .i64 T,.int .i64 Tau],.int .i64 tat,.int .i64 now,.int .i64 0] w λe w'=>e=.returned (.agg #[.bool true,.int .i64 tat,.int .i64 0,.int .i64 (XE T Tau tat now)])/\ZL w w':=by
 have hl:=ZGR T Tau tat now h1 ht ht' hn';have G:=λw=>ZBy T Tau tat now w h1 h2 h3 h4 ht ht' hn hn';generalize XE T Tau tat now=l at*;go_enter Tryz.func53,Tryz.ntmps53;go_wp2_with fail;refine(G _).mono ?_;rintro e w1 ⟨rfl,hx⟩;have hs:=hx.size;simp only[ZcV]at hs;have b0:w1.heap[w.heap.size]?=some (.cells #[.int .i64 T,.int .i64 Tau] 78):=(hx.block _ (by simp only[ZcV];omega)).trans (ZR (ZM w _) _);have b1:w1.heap[w.heap.size+1]?=some (.cells #[.bool false,.int .i64 0,.int .i64 0,.int .i64 0] 82):=(hx.block _ (by simp only[ZcV];omega)).trans (ZM (w.alloc _) _ |> λh=>by rwa [ZcV]at h);have c00:=ZTx b0 0 (.int .i64 T);have c01:=ZTx b0 1 (.int .i64 Tau);have d0:(w1.alloc (.cells #[.bool true,.int .i64 tat,.int .i64 0,.int .i64 0] 82)).cell? ⟨w.heap.size,0,none⟩=some (.int .i64 T):=ZE (ZR b0 _) 0;have d1:(w1.alloc (.cells #[.bool true,.int .i64 tat,.int .i64 0,.int .i64 0] 82)).cell? ⟨w.heap.size,1,none⟩=some (.int .i64 Tau):=ZE (ZR b0 _) 1;go_wp2_with fail;refine(G _).mono ?_;rintro e w2 ⟨rfl,hy⟩;have ha:w2.heap[w1.heap.size]?=some (.cells #[.bool true,.int .i64 tat,.int .i64 0,.int .i64 0] 82):=(hy.block _ (by simp only[ZcV];omega)).trans (ZM w1 _);have b2:w2.heap[w.heap.size+1]?=some (.cells #[.bool false,.int .i64 0,.int .i64 0,.int .i64 0] 82):=(hy.block _ (by simp only[ZcV];omega)).trans (ZR b1 _);have a0:=ZTx ha 0 (.bool true);have a1:=ZTx ha 1 (.int .i64 tat);have a2:=ZTx ha 2 (.int .i64 0);have a3:=ZTx ha 3 (.int .i64 0);have r0:=ZTx b2 0 (.bool false);have r1:=ZTx b2 1 (.int .i64 0);have r2:=ZTx b2 2 (.int .i64 0);have r3:=ZTx b2 3 (.int .i64 0);have fa0:=ZF ha 0;have fb0:=ZF b2 0;have fa1:=ZF ha 1;have fb1:=ZF b2 1;have fa2:=ZF ha 2;have fb2:=ZF b2 2;have fa3:=ZF ha 3;have fb3:=ZF b2 3;have hne:w1.heap.size≠w.heap.size+1:=by omega
 have hne2:w.heap.size+1≠w1.heap.size:=by omega
 go_wp2_with fail;have b3:(w2.setCell ⟨w1.heap.size,3,none⟩ (.int .i64 l)).heap[w.heap.size+1]?=some (.cells #[.bool false,.int .i64 0,.int .i64 0,.int .i64 0] 82):=(Zce w2 ⟨w1.heap.size,3,none⟩ (w.heap.size+1) _ hne2).trans b2;refine ZcY (Zck (p:=8) rfl _ _ (w.heap.size+1) _ #[.bool true,.int .i64 tat,.int .i64 0,.int .i64 l] (0,0) _ rfl (ZAS b3 _ _ _ _) Tryz.underlying82 ZTw ZC) rfl ?_;refine⟨rfl,?_⟩;have E1:ZL w w1:=(((ZL.refl w).alloc _).alloc _).trans hx;have E2:ZL w w2:=(E1.alloc _).trans hy;exact((((E2.setCell (by show _<=w1.heap.size;omega) _).setCell (by show _<=w.heap.size+1;omega) _).setCell (by show _<=w.heap.size+1;omega) _).setCell (by show _<=w.heap.size+1;omega) _).setCell (by show _<=w.heap.size+1;omega) _
theorem ZG5 (T Tau tat now n:Int)(w:World)(h1:1<=T)(h2:T<=4611686018427387903)(h3:0<=Tau)(h4:Tau<=4611686018427387903)(ht:0<=tat)(ht':tat<=4611686018427387903)(hn:0<=now)(hn':now<=4611686018427387903)(hN:0<n)(hG:n<=XE T Tau tat now)(hx1:0<=n*T)(hx2:max tat now+n*T<=4611686018427387903): Calls Tryz.prog 53 #[.agg #[.int .i64 T,.int .i64 Tau],.int .i64 tat,.int .i64 now,.int .i64 n] w λe w'=>e=.returned (.agg #[.bool true,.int .i64 (max tat now+n*T),.int .i64 0,.int .i64 (XE T Tau (max tat now+n*T) now)])/\ZL w w':=by
 have hl:=ZGR T Tau tat now h1 ht ht' hn';have G:=λw=>ZBy T Tau tat now w h1 h2 h3 h4 ht ht' hn hn';have G2:=ZA (λw=>ZBy T Tau (max tat now+n*T) now w h1 h2 h3 h4 ZB hx2 hn hn');generalize XE T Tau (max tat now+n*T) now=l2 at*;generalize XE T Tau tat now=l at*;have hd:¬l<n:=by omega
 by_cases hc:tat<now
 ·have hmm:max tat now=now:=by omega
  rw[hmm]at G2 hx2 ⊢;clear hmm;go_enter Tryz.func53,Tryz.ntmps53;go_wp2_with fail;refine(G _).mono ?_;rintro e w1 ⟨rfl,hx⟩;have hs:=hx.size;simp only[ZcV]at hs;have b0:w1.heap[w.heap.size]?=some (.cells #[.int .i64 T,.int .i64 Tau] 78):=(hx.block _ (by simp only[ZcV];omega)).trans (ZR (ZM w _) _);have b1:w1.heap[w.heap.size+1]?=some (.cells #[.bool false,.int .i64 0,.int .i64 0,.int .i64 0] 82):=(hx.block _ (by simp only[ZcV];omega)).trans (ZM (w.alloc _) _ |> λh=>by rwa [ZcV]at h);have c00:=ZTx b0 0 (.int .i64 T);have c01:=ZTx b0 1 (.int .i64 Tau);have e0:(w1.alloc (.cells #[.bool true,.int .i64 tat,.int .i64 0,.int .i64 0] 82)).cell? ⟨w.heap.size,0,none⟩=some (.int .i64 T):=ZE (ZR b0 _) 0;have d0:(w1.alloc (.cells #[.bool true,.int .i64 (now+n*T),.int .i64 0,.int .i64 0] 82)).cell? ⟨w.heap.size,0,none⟩=some (.int .i64 T):=ZE (ZR b0 _) 0;have d1:(w1.alloc (.cells #[.bool true,.int .i64 (now+n*T),.int .i64 0,.int .i64 0] 82)).cell? ⟨w.heap.size,1,none⟩=some (.int .i64 Tau):=ZE (ZR b0 _) 1;go_wp2_with fail;refine(G2.o _).mono ?_;rintro e w2 ⟨rfl,hy⟩;have ha:w2.heap[w1.heap.size]?=some (.cells #[.bool true,.int .i64 (now+n*T),.int .i64 0,.int .i64 0] 82):=(hy.block _ (by simp only[ZcV];omega)).trans (ZM w1 _);have b2:w2.heap[w.heap.size+1]?=some (.cells #[.bool false,.int .i64 0,.int .i64 0,.int .i64 0] 82):=(hy.block _ (by simp only[ZcV];omega)).trans (ZR b1 _);have a0:=ZTx ha 0 (.bool true);have a1:=ZTx ha 1 (.int .i64 (now+n*T));have a2:=ZTx ha 2 (.int .i64 0);have a3:=ZTx ha 3 (.int .i64 0);have r0:=ZTx b2 0 (.bool false);have r1:=ZTx b2 1 (.int .i64 0);have r2:=ZTx b2 2 (.int .i64 0);have r3:=ZTx b2 3 (.int .i64 0);have fa0:=ZF ha 0;have fb0:=ZF b2 0;have fa1:=ZF ha 1;have fb1:=ZF b2 1;have fa2:=ZF ha 2;have fb2:=ZF b2 2;have fa3:=ZF ha 3;have fb3:=ZF b2 3;have hne:w1.heap.size≠w.heap.size+1:=by omega
  have hne2:w.heap.size+1≠w1.heap.size:=by omega
  go_wp2_with fail;have b3:(w2.setCell ⟨w1.heap.size,3,none⟩ (.int .i64 l2)).heap[w.heap.size+1]?=some (.cells #[.bool false,.int .i64 0,.int .i64 0,.int .i64 0] 82):=(Zce w2 ⟨w1.heap.size,3,none⟩ (w.heap.size+1) _ hne2).trans b2;refine ZcY (Zck (p:=8) rfl _ _ (w.heap.size+1) _ #[.bool true,.int .i64 (now+n*T),.int .i64 0,.int .i64 l2] (0,0) _ rfl (ZAS b3 _ _ _ _) Tryz.underlying82 ZTw ZC) rfl ?_;refine⟨rfl,?_⟩;have E1:ZL w w1:=(((ZL.refl w).alloc _).alloc _).trans hx;have E2:ZL w w2:=(E1.alloc _).trans hy;exact((((E2.setCell (by show _<=w1.heap.size;omega) _).setCell (by show _<=w.heap.size+1;omega) _).setCell (by show _<=w.heap.size+1;omega) _).setCell (by show _<=w.heap.size+1;omega) _).setCell (by show _<=w.heap.size+1;omega) _
 ·have hmm:max tat now=tat:=by omega
  rw[hmm]at G2 hx2 ⊢;clear hmm;go_enter Tryz.func53,Tryz.ntmps53;go_wp2_with fail;refine(G _).mono ?_;rintro e w1 ⟨rfl,hx⟩;have hs:=hx.size;simp only[ZcV]at hs;have b0:w1.heap[w.heap.size]?=some (.cells #[.int .i64 T,.int .i64 Tau] 78):=(hx.block _ (by simp only[ZcV];omega)).trans (ZR (ZM w _) _);have b1:w1.heap[w.heap.size+1]?=some (.cells #[.bool false,.int .i64 0,.int .i64 0,.int .i64 0] 82):=(hx.block _ (by simp only[ZcV];omega)).trans (ZM (w.alloc _) _ |> λh=>by rwa [ZcV]at h);have c00:=ZTx b0 0 (.int .i64 T);have c01:=ZTx b0 1 (.int .i64 Tau);have e0:(w1.alloc (.cells #[.bool true,.int .i64 tat,.int .i64 0,.int .i64 0] 82)).cell? ⟨w.heap.size,0,none⟩=some (.int .i64 T):=ZE (ZR b0 _) 0;have d0:(w1.alloc (.cells #[.bool true,.int .i64 (tat+n*T),.int .i64 0,.int .i64 0] 82)).cell? ⟨w.heap.size,0,none⟩=some (.int .i64 T):=ZE (ZR b0 _) 0;have d1:(w1.alloc (.cells #[.bool true,.int .i64 (tat+n*T),.int .i64 0,.int .i64 0] 82)).cell? ⟨w.heap.size,1,none⟩=some (.int .i64 Tau):=ZE (ZR b0 _) 1;go_wp2_with fail;refine(G2.o _).mono ?_;rintro e w2 ⟨rfl,hy⟩;have ha:w2.heap[w1.heap.size]?=some (.cells #[.bool true,.int .i64 (tat+n*T),.int .i64 0,.int .i64 0] 82):=(hy.block _ (by simp only[ZcV];omega)).trans (ZM w1 _);have b2:w2.heap[w.heap.size+1]?=some (.cells #[.bool false,.int .i64 0,.int .i64 0,.int .i64 0] 82):=(hy.block _ (by simp only[ZcV];omega)).trans (ZR b1 _);have a0:=ZTx ha 0 (.bool true);have a1:=ZTx ha 1 (.int .i64 (tat+n*T));have a2:=ZTx ha 2 (.int .i64 0);have a3:=ZTx ha 3 (.int .i64 0);have r0:=ZTx b2 0 (.bool false);have r1:=ZTx b2 1 (.int .i64 0);have r2:=ZTx b2 2 (.int .i64 0);have r3:=ZTx b2 3 (.int .i64 0);have fa0:=ZF ha 0;have fb0:=ZF b2 0;have fa1:=ZF ha 1;have fb1:=ZF b2 1;have fa2:=ZF ha 2;have fb2:=ZF b2 2;have fa3:=ZF ha 3;have fb3:=ZF b2 3;have hne:w1.heap.size≠w.heap.size+1:=by omega
  have hne2:w.heap.size+1≠w1.heap.size:=by omega
  go_wp2_with fail;have b3:(w2.setCell ⟨w1.heap.size,3,none⟩ (.int .i64 l2)).heap[w.heap.size+1]?=some (.cells #[.bool false,.int .i64 0,.int .i64 0,.int .i64 0] 82):=(Zce w2 ⟨w1.heap.size,3,none⟩ (w.heap.size+1) _ hne2).trans b2;refine ZcY (Zck (p:=8) rfl _ _ (w.heap.size+1) _ #[.bool true,.int .i64 (tat+n*T),.int .i64 0,.int .i64 l2] (0,0) _ rfl (ZAS b3 _ _ _ _) Tryz.underlying82 ZTw ZC) rfl ?_;refine⟨rfl,?_⟩;have E1:ZL w w1:=(((ZL.refl w).alloc _).alloc _).trans hx;have E2:ZL w w2:=(E1.alloc _).trans hy;exact((((E2.setCell (by show _<=w1.heap.size;omega) _).setCell (by show _<=w.heap.size+1;omega) _).setCell (by show _<=w.heap.size+1;omega) _).setCell (by show _<=w.heap.size+1;omega) _).setCell (by show _<=w.heap.size+1;omega) _
theorem ZQv (a b:Int)(w:World)(h:0<=a)(h':a<=4611686018427387903)(k:0<=b)(k':b<=4611686018427387903):Calls Tryz.prog 260 #[.int .i64 a,.int .i64 b] w λe w'=>e=.returned (.tuple #[.int .i64 (max (a - b) 0),.int .i64 0])/\w=w':=by
 have CL:∀w,Calls Tryz.prog 199 #[.int .i64 (a - b)] w λe w'=>e=.returned (.int .i64 (max (a - b) 0))/\w=w':=λw=>by
  by_cases h0:a - b<0
  ·obtain⟨d,hd⟩:=ZTz (a - b);rw[hd]at h0 ⊢;rw[show max d 0=0 by omega];clear hd;go_enter Tryz.func199,Tryz.ntmps199;go_wp2;go_ret;exact⟨rfl,rfl⟩
  ·rw[show max (a - b) 0=min (a - b) 4611686018427387903 by omega];exact ZKr (a - b) w ZB ZB
 go_enter Tryz.func260,Tryz.ntmps260;go_wp2_with fail;refine(ZO0 a b w h h' k k').mono ?_;rintro e w1 ⟨rfl,rfl⟩;go_wp2_with fail;refine(CL w).mono ?_;rintro e w1 ⟨rfl,rfl⟩;go_wp2_with fail
 go_ret2
 exact⟨rfl,rfl⟩
theorem ZNv (T Tau tat now n:Int)(w:World)(h1:1<=T)(h2:T<=4611686018427387903)(h3:0<=Tau)(h4:Tau<=4611686018427387903)(ht:0<=tat)(ht':tat<=4611686018427387903)(hn:0<=now)(hn':now<=4611686018427387903)(hN:1<=n)(hN2:n<=4611686018427387903): Calls Tryz.prog 98 #[.agg #[.int .i64 T,.int .i64 Tau],.int .i64 tat,.int .i64 now,.int .i64 n] w λe w'=>e=.returned (.int .i64 (ZCe T Tau tat now n))/\ZL w w':=by
 obtain⟨t,rfl⟩:∃t:Nat,T=(t:Int):=⟨T.toNat,by omega⟩;obtain⟨k,rfl⟩:∃k:Nat,n=(k:Int)+1:=⟨(n - 1).toNat,by omega⟩;have hkt:((k:Int)+1 - 1)*(t:Int)=((k*t:Nat):Int):=by rw[show(k:Int)+1 - 1=k by omega,Int.natCast_mul]
 unfold ZCe;rw[hkt];by_cases hm:Tau<((k*t:Nat):Int)
 ·rw[Zcg (.inl hm)];exact ZP1 t k Tau tat now w ZB ZB h3 h4 ZB hm
 ·by_cases hq:(4611686018427387903 - max tat now) / (t:Int)<(k:Int)+1
  ·rw[Zcg (.inr hq)];exact ZNu t k Tau tat now w ZB ZB h4 ZB ht ht' hn hn' ZB hq
  ·rw[Zcf (λe=>e.elim hm hq)];exact ZLf t k Tau tat now w ZB ZB h4 ZB ht ht' hn hn' (k*t) rfl ZB hq
theorem ZLl (T Tau tat now n:Int)(w:World)(h1:1<=T)(h2:T<=4611686018427387903)(h3:0<=Tau)(h4:Tau<=4611686018427387903)(ht:0<=tat)(ht':tat<=4611686018427387903)(hn:0<=now)(hn':now<=4611686018427387903)(hN2:n<=4611686018427387903)(hG:XE T Tau tat now<n): Calls Tryz.prog 53 #[.agg #[.int .i64 T,.int .i64 Tau],.int .i64 tat,.int .i64 now,.int .i64 n] w λe w'=>e=.returned (.agg #[.bool false,.int .i64 tat,.int .i64 (ZCe T Tau tat now n),.int .i64 (XE T Tau tat now)])/\ZL w w':=by
 have hl:=ZGR T Tau tat now h1 ht ht' hn';have G:=λw=>ZBy T Tau tat now w h1 h2 h3 h4 ht ht' hn hn';have WT:=ZA (λw=>ZNv T Tau tat now n w h1 h2 h3 h4 ht ht' hn hn' ZB hN2);generalize XE T Tau tat now=l at*;generalize ZCe T Tau tat now n=q at*;have hno:¬n<=l:=by omega
 have hdd:=Zca hno;go_enter Tryz.func53,Tryz.ntmps53;go_wp2_with fail;refine(G _).mono ?_;rintro e w1 ⟨rfl,hx⟩;have hs:=hx.size;simp only[ZcV]at hs;have b0:w1.heap[w.heap.size]?=some (.cells #[.int .i64 T,.int .i64 Tau] 78):=(hx.block _ (by simp only[ZcV];omega)).trans (ZR (ZM w _) _);have b1:w1.heap[w.heap.size+1]?=some (.cells #[.bool false,.int .i64 0,.int .i64 0,.int .i64 0] 82):=(hx.block _ (by simp only[ZcV];omega)).trans (ZM (w.alloc _) _ |> λh=>by rwa [ZcV]at h);have E1:=ZA ((((ZL.refl w).alloc _).alloc _).trans hx);have c00:=ZTx b0 0 (.int .i64 T);have c01:=ZTx b0 1 (.int .i64 Tau);clear hx;obtain⟨V,hV⟩:=ZTz (w1.alloc (.cells #[.bool false,.int .i64 tat,.int .i64 0,.int .i64 0] 82));have xV:ZL w1 V:=by rw[<-hV];exact(ZL.refl w1).alloc _
 have ha:V.heap[w1.heap.size]?=some (.cells #[.bool false,.int .i64 tat,.int .i64 0,.int .i64 0] 82 (0,0)):=by rw[<-hV];exact ZM w1 _
 have d0:=ZJ b0 xV;have d1:=ZJ b1 xV;have e0:=ZTx d0 0 (.int .i64 T);have e1:=ZTx d0 1 (.int .i64 Tau);have a0:=ZTx ha 0 (.bool false);have XV:=ZA (E1.o.trans xV);have hz:w.heap.size+2<=w1.heap.size:=hs;have HV:=ZA hV;clear xV b0 b1 hs hV;go_upto_region 3 with fail
 (try rw[HV.o])
 clear HV;go_wp2_with fail;refine(WT.o _).mono ?_;rintro e w2 ⟨rfl,hy⟩;have ha2:=ZJ ha hy;have d2:=ZJ d0 hy;have d3:=ZJ d1 hy;have XW:=ZA (XV.o.trans hy);have hs2:=hy.size;have hzz:=ZW ha2;clear e0 e1 a0 ha d0 d1 hy;have s2:=ZTx ha2 2 (.int .i64 0);have f2:=ZF ha2 2;obtain⟨U,hU⟩:=ZTz (w2.setCell ⟨w1.heap.size,2,none⟩ (.int .i64 q));have ha3:U.heap[w1.heap.size]?=some (.cells #[.bool false,.int .i64 tat,.int .i64 q,.int .i64 0] 82 (0,0)):=by rw[<-hU];exact ZU ha2 2 _
 have hne:w.heap.size≠w1.heap.size:=by omega
 have hne1:w.heap.size+1≠w1.heap.size:=by omega
 have d4:U.heap[w.heap.size]?=some (.cells #[.int .i64 T,.int .i64 Tau] 78):=by rw[<-hU];exact(Zce w2 ⟨w1.heap.size,2,none⟩ w.heap.size _ hne).trans d2
 have d5:U.heap[w.heap.size+1]?=some (.cells #[.bool false,.int .i64 0,.int .i64 0,.int .i64 0] 82):=by rw[<-hU];exact(Zce w2 ⟨w1.heap.size,2,none⟩ (w.heap.size+1) _ hne1).trans d3
 have XU:=ZA (show ZL w U by rw[<-hU];exact XW.o.setCell (by show _<=w1.heap.size;omega) _);have u0:=ZTx d4 0 (.int .i64 T);have u1:=ZTx d4 1 (.int .i64 Tau);have v1:=ZTx ha3 1 (.int .i64 tat);have HU:=ZA hU;clear d2 d3 ha2 hs2 hU;go_upto_region 6 with fail
 (try rw[HU.o])
 clear HU s2 f2;go_wp2_with fail;refine(G _).mono ?_;rintro e w3 ⟨rfl,hy⟩;have ha4:=ZJ ha3 hy;have d6:=ZJ d5 hy;have XZ:=ZA (XU.o.trans hy);clear d4 d5 ha3 hy u0 u1 v1 G;have a0:=ZTx ha4 0 (.bool false);have a1:=ZTx ha4 1 (.int .i64 tat);have a2:=ZTx ha4 2 (.int .i64 q);have a3:=ZTx ha4 3 (.int .i64 0);have r0:=ZTx d6 0 (.bool false);have r1:=ZTx d6 1 (.int .i64 0);have r2:=ZTx d6 2 (.int .i64 0);have r3:=ZTx d6 3 (.int .i64 0);have fa3:=ZF ha4 3;have fb0:=ZF d6 0;have fb1:=ZF d6 1;have fb2:=ZF d6 2;have fb3:=ZF d6 3;go_wp2_with fail;have b3:(w3.setCell ⟨w1.heap.size,3,none⟩ (.int .i64 l)).heap[w.heap.size+1]?=some (.cells #[.bool false,.int .i64 0,.int .i64 0,.int .i64 0] 82):=(Zce w3 ⟨w1.heap.size,3,none⟩ (w.heap.size+1) _ hne1).trans d6;refine ZcY (Zck (p:=8) rfl _ _ (w.heap.size+1) _ #[.bool false,.int .i64 tat,.int .i64 q,.int .i64 l] (0,0) _ rfl (ZAS b3 _ _ _ _) Tryz.underlying82 ZTw ZC) rfl ?_;refine⟨rfl,?_⟩;exact((((XZ.o.setCell (by show _<=w1.heap.size;omega) _).setCell (by show _<=w.heap.size+1;omega) _).setCell (by show _<=w.heap.size+1;omega) _).setCell (by show _<=w.heap.size+1;omega) _).setCell (by show _<=w.heap.size+1;omega) _
theorem ZJ3 (T Tau tat now n:Int)(w:World)(h1:1<=T)(h2:T<=4611686018427387903)(h3:0<=Tau)(h4:Tau<=4611686018427387903)(ht:0<=tat)(ht':tat<=4611686018427387903)(hn:0<=now)(hn':now<=4611686018427387903)(hN:0<=n)(hN2:n<=4611686018427387903): Calls Tryz.prog 53 #[.agg #[.int .i64 T,.int .i64 Tau],.int .i64 tat,.int .i64 now,.int .i64 n] w λe w'=>e=.returned (.agg #[.bool (ZB1 T Tau tat now n).1,.int .i64 (ZB1 T Tau tat now n).2.1,.int .i64 (ZB1 T Tau tat now n).2.2.1,.int .i64 (ZB1 T Tau tat now n).2.2.2])/\ZL w w':=by
 unfold ZB1;by_cases hG:n<=XE T Tau tat now
 ·rw[Zcg hG];by_cases h0:0<n
  ·rw[Zcg h0];have hb:n*T<=4611686018427387903 - max tat now:=by
    have h9:n<=(4611686018427387903 - max tat now) / T:=by
     unfold XE at hG
     split at hG
     ·omega
     ·omega
    have h8:=Int.mul_le_mul_of_nonneg_right h9 (show 0<=T by omega);have h7:=Int.ediv_mul_le (4611686018427387903 - max tat now) (show T≠0 by omega);omega
   exact ZG5 T Tau tat now n w h1 h2 h3 h4 ht ht' hn hn' h0 hG (Int.mul_nonneg hN ZB) ZB
  ·rw[Zcf h0];have:n=0:=by omega
   subst this;exact ZIe T Tau tat now w h1 h2 h3 h4 ht ht' hn hn'
 ·rw[Zcf hG];exact ZLl T Tau tat now n w h1 h2 h3 h4 ht ht' hn hn' hN2 ZB
theorem ZGS (T Tau:Int)(A:Option Addr)(n c:Nat)(l:List Int)(w:World)(h1:1<=T)(h2:T<=4611686018427387903)(h3:0<=Tau)(h4:Tau<=4611686018427387903)(hl:l.length=n)(hn:n<=1000)(hr:Rd w A (Zm l))(hk:∀t ∈ l,0<=t/\t<=4611686018427387903): Calls Tryz.prog 52 #[.agg #[.int .i64 T,.int .i64 Tau],.slice A n c] w (Xu (.int .i64 0) w):=by
 have RC:=ZA (λw=>ZHR T Tau w h1 h2 h3 h4);obtain⟨W,hW⟩:=ZTz ((w.alloc (.cells #[.int .i64 T,.int .i64 Tau] 78)));have xW:ZL w W:=by rw[<-hW];exact(ZL.refl w).alloc _
 have k0:W.heap[w.heap.size]?=some (.cells #[.int .i64 T,.int .i64 Tau] 78 (0,0)):=by rw[<-hW];exact ZM w _
 have HR:=ZA (hr.ext xW);have HK:=ZA hk;have HL:=ZA hl;have K0:=ZA k0;have XW:=ZA xW;have HW:=ZA hW;clear h1 h2 h3 h4 hr hk hl hW xW k0;go_enter Tryz.func52,Tryz.ntmps52;go_upto_region 1 with fail
 (try rw[HW.o])
 clear HW;go_wp2_with fail
 go_loopw [9] (λv9 wr=>∃i:Nat,v9=.int .i64 (i:Int)/\i<=n/\ZL W wr) (λv9 _=>n - (intOf v9).toNat)
 case atStart=>exact⟨0,rfl,ZcL _,ZL.refl W⟩
 case round=>
  obtain⟨i,rfl,hi,hx⟩:=hrel;have HX:=ZA hx;clear hx;by_cases hlt:i<n
  ·have hlti:(i:Int)<(n:Int):=by omega
   obtain⟨b,off,hA,-,d0⟩:=(HR.o.ext HX.o).atI (j:=i) (by rw[HL.o];exact hlt);have hm:l.getD i 0 ∈ l:=by
    rw[ZCa];exact⟨i,by rw[HL.o];exact hlt,rfl⟩
   have hk:=HK.o _ hm;obtain⟨t,ht⟩:=ZTz (l.getD i 0);rw[ht]at d0 hk;have TF:=ZA (ZDo t wr hk.1 hk.2);have hwi:IntKind.i64.wrap ((i:Int)+1)=(i:Int)+1:=by rw[Zaa];omega
   subst hA;clear ht hm hk;go_wp2_with fail;refine TF.out.mono ?_;rintro e w1 ⟨rfl,rfl⟩;go_wp2_with fail
   go_roundw
   case rel=>exact⟨i+1,by go_num,by omega,HX.o⟩
   case measure=>simp[intOf];omega
  ·have hlti:¬(i:Int)<(n:Int):=by omega
   have k1:=ZJ K0.o HX.o;have c0:=ZTx k1 0 (.int .i64 T);have c1:=ZTx k1 1 (.int .i64 Tau);clear k1;go_wp2_with fail;refine(RC.o _).mono ?_;rintro e w1 ⟨rfl,hx⟩;have HY:=ZA hx;clear hx;go_wp2_with fail;go_ret;exact⟨rfl,XW.o.trans (HX.o.trans HY.o)⟩
theorem ZJ4 (T Tau tat now n:Int)(w:World)(h1:1<=T)(h2:T<=4611686018427387903)(h3:0<=Tau)(h4:Tau<=4611686018427387903)(ht:0<=tat)(ht':tat<=4611686018427387903)(hn:0<=now)(hn':now<=4611686018427387903)(hN:0<=n)(hN2:n<=4611686018427387903): Calls Tryz.prog 280 #[.agg #[.int .i64 T,.int .i64 Tau],.int .i64 tat,.int .i64 now,.int .i64 n] w λe w'=>e=.returned (.tuple #[.agg #[.bool (ZB1 T Tau tat now n).1,.int .i64 (ZB1 T Tau tat now n).2.1,.int .i64 (ZB1 T Tau tat now n).2.2.1,.int .i64 (ZB1 T Tau tat now n).2.2.2],.int .i64 0])/\ZL w w':=by
 have DC:=ZA (λw=>ZJ3 T Tau tat now n w h1 h2 h3 h4 ht ht' hn hn' hN hN2);obtain⟨q,Hq⟩:=ZTy (ZB1 T Tau tat now n);rw[Hq.o]at DC ⊢;have CK:=ZA (λ(w:World) (A:Option Addr) (c:Nat) (hr:Rd w A (Zm [tat,now,n]))=>ZGS T Tau A 3 c [tat,now,n] w h1 h2 h3 h4 rfl ZB hr (by simp;omega));clear h1 h2 h3 h4 ht ht' hn hn' hN hN2;go_enter Tryz.func280,Tryz.ntmps280;go_wp2_with fail;refine(CK.o _ _ _ (ZAU _ [Value.int .i64 tat,.int .i64 now,.int .i64 n] _ ZTv)).mono ?_;rintro e w1 ⟨rfl,hx⟩;have b0:=ZJ (ZR (ZR (ZM w (.cells #[.int .i64 T,.int .i64 Tau] 78)) _) _) hx;have b1:=ZJ (ZR (Zd (w.alloc (.cells #[.int .i64 T,.int .i64 Tau] 78)) (.cells #[.bool false,.int .i64 0,.int .i64 0,.int .i64 0] 82) (k:=w.heap.size+1) ZTv) _) hx;have X1:=ZA (((((ZL.refl w).alloc _).alloc _).alloc _).trans hx);have c0:=ZTx b0 0 (.int .i64 T);have c1:=ZTx b0 1 (.int .i64 Tau);have B1:=ZA b1;clear hx b0 b1;go_wp2_with fail;refine(DC.o _).mono ?_;rintro e w2 ⟨rfl,hx⟩;have b2:=ZJ B1.o hx;have X2:=ZA (X1.o.trans hx);have r0:=ZTx b2 0 (.bool false);have r1:=ZTx b2 1 (.int .i64 0);have r2:=ZTx b2 2 (.int .i64 0);have r3:=ZTx b2 3 (.int .i64 0);have fb0:=ZF b2 0;have fb1:=ZF b2 1;have fb2:=ZF b2 2;have fb3:=ZF b2 3;have B2:=ZA b2;clear hx b2;go_wp2_with fail;refine ZcY (Yq (p:=8) (u:=9) rfl _ _ (w.heap.size+1) _ #[.bool q.1,.int .i64 q.2.1,.int .i64 q.2.2.1,.int .i64 q.2.2.2] (0,0) _ rfl (ZAS B2.o _ _ _ _) Tryz.underlying82 ZTw ZC) rfl ?_;exact⟨rfl,(((X2.o.setCell (by show _<=w.heap.size+1;omega) _).setCell (by show _<=w.heap.size+1;omega) _).setCell (by show _<=w.heap.size+1;omega) _).setCell (by show _<=w.heap.size+1;omega) _⟩
theorem ZN6 (T Tau tat now:Int)(w:World)(h1:1<=T)(h2:T<=4611686018427387903)(h3:0<=Tau)(h4:Tau<=4611686018427387903)(ht:0<=tat)(ht':tat<=4611686018427387903)(hn:0<=now)(hn':now<=4611686018427387903): Calls Tryz.prog 259 #[.agg #[.int .i64 T,.int .i64 Tau],.int .i64 tat,.int .i64 now] w λe w'=>e=.returned (.tuple #[.int .i64 (XE T Tau tat now),.int .i64 0])/\ZL w w':=by
 have LF:=ZA (λw=>ZBy T Tau tat now w h1 h2 h3 h4 ht ht' hn hn');obtain⟨q,Hq⟩:=ZTy (XE T Tau tat now);rw[Hq.o]at LF ⊢;have CK:=ZA (λ(w:World) (A:Option Addr) (c:Nat) (hr:Rd w A (Zm [tat,now]))=>ZGS T Tau A 2 c [tat,now] w h1 h2 h3 h4 rfl ZB hr (by simp;omega));clear h1 h2 h3 h4 ht ht' hn hn';go_enter Tryz.func259,Tryz.ntmps259;go_wp2_with fail;refine(CK.o _ _ _ (ZAU _ [Value.int .i64 tat,.int .i64 now] _ ZTv)).mono ?_;rintro e w1 ⟨rfl,hx⟩;have b0:=ZJ (ZR (ZM w (.cells #[.int .i64 T,.int .i64 Tau] 78)) _) hx;have X1:=ZA ((((ZL.refl w).alloc _).alloc _).trans hx);have c0:=ZTx b0 0 (.int .i64 T);have c1:=ZTx b0 1 (.int .i64 Tau);clear hx b0;go_wp2_with fail;refine(LF.o _).mono ?_;rintro e w2 ⟨rfl,hx⟩;have X2:=ZA (X1.o.trans hx);clear hx;go_wp2_with fail
 go_ret2
 exact⟨rfl,X2.o⟩
theorem ZKN (w:World)(X:Zdb)(g:YE)(who xb j shards:Nat)(gone:Int)(x:ZX)(res:Bool)(ser:Int)(hX:Z0 w X)(hx:XAt w X g.gx who x res ser xb)(hg:ZAy w X g)(hj:j<=31): Calls Tryz.prog 134 #[ZH xb,.int .i64 (j:Int),.int .i64 (shards:Int),.int .i64 gone] w (ClR (λw' v=>Ze w' X (Zi g who xb x) v (.find j (.evict j shards gone))) w):=by
 have hmf:=Jg;obtain⟨K,kc,x0,x1,x2,x3,x4,x5,x6,x7,x8,-,-,-⟩:=hx.cells;obtain⟨W,hW⟩:=ZTz (((((w.alloc (.cells #[ZH xb] 203)).alloc (.cells #[.int .i64 (j:Int)] 3)).alloc (.cells #[.int .i64 (shards:Int)] 3)).alloc (.cells #[.int .i64 gone] 2)));have xW:ZL w W:=by rw[<-hW];exact(((((ZL.refl w).alloc _).alloc _).alloc _).alloc _)
 have r0:Zb W X (ZH w.heap.size) #[ZH xb]:=by rw[<-hW];exact((((Zb.new rfl (hX.not ZB)).past _).past _).past _)
 have r1:Zb W X (ZH (w.heap.size+1)) #[.int .i64 (j:Int)]:=by rw[<-hW];exact(((Zb.new ZTv (hX.not ZB)).past _).past _)
 have r2:Zb W X (ZH (w.heap.size+1+1)) #[.int .i64 (shards:Int)]:=by rw[<-hW];exact((Zb.new ZTv (hX.not ZB)).past _)
 have r3:Zb W X (ZH (w.heap.size+1+1+1)) #[.int .i64 gone]:=by rw[<-hW];exact(Zb.new ZTv (hX.not ZB))
 obtain⟨W2,hW2⟩:=ZTz ((W.alloc (.cells #[Z1 177 #[ZH (w.heap.size+1),ZH (w.heap.size+1+1),ZH w.heap.size]] 311)));have xW2:ZL W W2:=by rw[<-hW2];exact(ZL.refl W).alloc _
 have hs1:W.heap.size=w.heap.size+4:=by rw[<-hW];simp
 have r4:Zb W2 X (ZH W.heap.size) #[Z1 177 #[ZH (w.heap.size+1),ZH (w.heap.size+1+1),ZH w.heap.size]]:=by rw[<-hW2];exact Zb.new rfl (hX.not ZB)
 have r0':=r0.ext xW2;have r1':=r1.ext xW2;have r2':=r2.ext xW2;have r3':=r3.ext xW2
 have FD:=ZA (λu (y:ZL W2 u)=>ZEc u X (Zi g who xb x) j (Z1 180 #[ZH W.heap.size,ZH (w.heap.size+1+1+1),ZH w.heap.size]) (.evict j shards gone) (hX.ext ((xW.trans xW2).trans y))
  ⟨_,_,_,_,rfl,r4.ext y,⟨_,_,_,rfl,r1'.ext y,r2'.ext y,r0'.ext y⟩,r3'.ext y,r0'.ext y⟩)
 have f0:=r0'.ZT2 0 (ZH xb);have f1:=r1'.ZT2 0 (.int .i64 (j:Int));have f4:=ZG (xW.trans xW2) x4;have f5:=ZG (xW.trans xW2) x5;have f2:=ZG (xW.trans xW2) hg.c2;have XW:=ZA (xW.trans xW2);have hju:IntKind.u64.wrap (j:Int)=(j:Int):=by rw[Zab];omega
 clear hx hg x0 x1 x2 x3 x4 x5 x6 x7 x8 r0 r1 r2 r3 r4 r0' r1' r2' r3' xW xW2 hX hs1;go_enter Tryz.func134,Tryz.ntmps134;go_upto_region 1 with fail
 (try rw[hW])
 clear hW;go_upto_region 2 with fail
 (try rw[hW2])
 clear hW2
 go_region_held3 (λw'=>w'.cell? ⟨w.heap.size,0,none⟩=some (ZH xb)/\w'.cell? ⟨w.heap.size+1,0,none⟩=some (.int .i64 (j:Int))/\w'.cell? ⟨xb,4,none⟩=some (ZH g.gx)/\w'.cell? ⟨g.gx,2,none⟩=some (ZH g.gl)/\w'.cell? ⟨xb,5,none⟩=some (.int .i64 (who:Int))) (((try go_split_ands);exact⟨ZT3,ZT3,ZT3,ZT3,ZT3⟩)) ((go_at_call 179;(with_reducible refine(FD.o _ (ZL.refl W2).drew).mono ?_);rintro e w2 ⟨v,rfl,hk,hx⟩;have HK:=ZA hk;have HX:=ZA hx;have hx2:=(ZL.refl W2).drew.trans hx;have tf0:=ZG hx2 f0;have tf1:=ZG hx2 f1;have tf4:=ZG hx2 f4;have tf2:=ZG hx2 f2;have tf5:=ZG hx2 f5;clear hk hx hx2))
 all_goals
  go_wp2_with fail;go_ret;exact⟨_,rfl,HK.o,XW.o.trans ((ZL.refl W2).drew.trans HX.o)⟩
theorem Yp.fn {w:World}{X:Zdb}{d:JM}{v:Value}{j shards:Nat}(h:Yp w X d v j shards):∃f c,v=Z1 f c:=by
 obtain⟨r0,r1,r2,h0,_⟩:=h;exact⟨_,_,h0⟩
theorem Yp.hen {w:World}{X:Zdb}{d:JM}{f:FuncId}{caps:Array Value}{j shards:Nat}(h:Yp w X d (Z1 f caps) j shards):∀(ar:Array Value) (u:World),(callFunc f (ar++caps)).run Tryz.prog u=.ok (.enter f (ar++caps)) u:=by
 obtain⟨r0,r1,r2,h0,_⟩:=h;injection h0 with h0 _ h2;injection h0 with h0;subst h0;exact λ_ _=>rfl
theorem ZCF (w:World)(X:Zdb)(g:YE)(who xb j shards:Nat)(gone:Int)(x:ZX)(res:Bool)(ser:Int)(f:FuncId)(caps:Array Value)(hX:Z0 w X)(hx:XAt w X g.gx who x res ser xb)(hg:ZAy w X g)(h:Yp w X (Zi g who xb x) (Z1 f caps) j shards)(hj:j<shards)(hs:shards<=16): Calls Tryz.prog f (#[.int .i64 gone]++caps) w (Jx X (Zi g who xb x) (Zo j shards gone) w):=by
 obtain⟨r0,r1,r2,hfn,k0,k1,k2⟩:=h;injection hfn with hfn h1 h2;injection hfn with hfn;subst hfn h2;obtain⟨b0,rfl,l0⟩:=k0.ptr;obtain⟨b1,rfl,l1⟩:=k1.ptr;obtain⟨b2,rfl,l2⟩:=k2.ptr;obtain⟨W,hW⟩:=ZTz ((w.alloc ZUA));have xW:ZL w W:=by rw[<-hW];exact((ZL.refl w).alloc _)
 have K0:=ZA (show W.heap[w.heap.size]?=some ZUA by rw[<-hW];exact ZM w _);have e0:=(k0.ext xW).ZT2 0 (.int .i64 (j:Int));have e1:=(k1.ext xW).ZT2 0 (.int .i64 (shards:Int));have e2:=(k2.ext xW).ZT2 0 (ZH xb);obtain⟨j1,Hj⟩:=ZTy (j+1);have hjw:IntKind.i64.wrap ((j:Int)+1)=(j1:Int):=by have:=Hj.o;rw[Zaa];omega
 have kp:=kpg (X:=X) xW (Zb0 w.heap.size);have EV:=ZA (ZKN W (XG X w.heap.size) g who xb j1 shards gone x res ser (hX.xg xW (ZW K0.o)) (hx.kp kp (xW.block _ (by obtain⟨t,K,kc,e,_⟩:=hx;exact ZW e))) ⟨ZG xW hg.c0,ZG xW hg.c1,ZG xW hg.c2,ZG xW hg.l0,ZG xW hg.l1,ZG xW hg.b0,hg.prd.ext xW,hg.pfz.kp kp⟩ (by have:=Hj.o;omega));have EN:=ZA (ZBa W (XG X w.heap.size) (Zi g who xb x) ⟨0,false,gone,0,0,0⟩);have XW:=ZA xW;have HW:=ZA hW;obtain⟨out,Hout⟩:=ZTy (Zo j shards gone);rw[Hout.o];clear k0 k1 k2 hX hx hg xW hW kp l0 l1 l2;show Calls Tryz.prog 177 #[.int .i64 gone,ZH b0,ZH b1,ZH b2] w _;by_cases hl:j1=shards
 ·have HE:=ZA (show Zn.fin ⟨0,false,gone,0,0,0⟩=out by rw[<-Hout.o];unfold Zo;rw[Zcg (Hj.o.trans hl)]);rw[HE.o]at EN;have hb:((j1:Int)==(shards:Int))=true:=by rw[ZcX];omega
  clear hl hj hs EV;go_enter Tryz.func177,Tryz.ntmps177;go_upto_region 1 with fail
  (try rw[HW.o])
  clear HW;go_wp2_with fail;refine EN.o.mono ?_;rintro e w2 ⟨nv,done,r',rfl,ho,hx⟩;have HO:=ZA ho;have HXY:=ZA (XW.o.trans hx);have K3:=ZA (ZJ K0.o hx);obtain⟨s0,z0,s1,z1,s2,z2,s3,z3,s4,z4,s5,z5,s6,z6⟩:=ZT9 K3.o;clear ho hx;go_wp2_with fail;refine ZcY (ZQ (p:=6) (u:=5) rfl _ _ (w.heap.size) _ #[.bool done,.int .i64 (r'.er:Int),.bool r'.granted,.int .i64 r'.left,.int .i64 r'.wait,.int .i64 r'.ser,.int .i64 r'.now] (0,0) _ rfl (Yf K3.o _ _ _ _ _ _ _) Tryz.underlying41 ZTw ZC) rfl ?_;exact Yj HO.o HXY.o (Zb0 _) _ _ _ _ _ _ _
 ·have HE:=ZA (show Zn.on (.find j1 (.evict j1 shards gone))=out by rw[<-Hout.o];unfold Zo;rw[Zcf (by rw[Hj.o];exact hl),Hj.o]);have hb:((j1:Int)==(shards:Int))=false:=by rw[ZcW];omega
  clear hl hj hs EN;go_enter Tryz.func177,Tryz.ntmps177;go_upto_region 1 with fail
  (try rw[HW.o])
  clear HW;go_wp2_with fail;refine EV.o.mono ?_;rintro e w2 ⟨v,rfl,hk,hx⟩;have ON:=Jf hk;rw[HE.o]at ON;have ON:=ZA ON;have X1:=ZA (XW.o.trans hx);have K2:=ZA (ZJ K0.o hx);clear hk hx;go_wp2_with fail;refine ON.o.mono ?_;rintro e w3 ⟨nv,done,r',rfl,ho,hx⟩;have HO:=ZA ho;have HXY:=ZA (X1.o.trans hx);have K3:=ZA (ZJ K2.o hx);obtain⟨s0,z0,s1,z1,s2,z2,s3,z3,s4,z4,s5,z5,s6,z6⟩:=ZT9 K3.o;clear ho hx;go_wp2_with fail;refine ZcY (ZQ (p:=6) (u:=5) rfl _ _ (w.heap.size) _ #[.bool done,.int .i64 (r'.er:Int),.bool r'.granted,.int .i64 r'.left,.int .i64 r'.wait,.int .i64 r'.ser,.int .i64 r'.now] (0,0) _ rfl (Yf K3.o _ _ _ _ _ _ _) Tryz.underlying41 ZTw ZC) rfl ?_;exact Yj HO.o HXY.o (Zb0 _) _ _ _ _ _ _ _
theorem ZAy.kp2 {w w':World}{X X':Zdb}{g:YE}(h:ZAy w X g)(k:Kp w w' X X')(x:ZL w w'):ZAy w' X' g:=⟨ZG x h.c0,ZG x h.c1,ZG x h.c2,ZG x h.l0,ZG x h.l1,ZG x h.b0,h.prd.ext x,h.pfz.kp k⟩
theorem XAt.kp2 {w w':World}{X X':Zdb}{gx who xb:Nat}{x:ZX}{res:Bool}{ser:Int}(h:XAt w X gx who x res ser xb)(k:Kp w w' X X')(y:ZL w w'):XAt w' X' gx who x res ser xb:=h.kp k (y.block _ (by obtain⟨t,K,kc,e,_⟩:=h;exact ZW e))
theorem ZLQ (w:World)(X:Zdb)(g:YE)(who xb j shards word u n c:Nat)(gone:Int)(x:ZX)(res:Bool)(ser:Int)(A:Option Addr)(cells:List ZO)(rs:List YI)(f:FuncId)(caps:Array Value)(hX:Z0 w X)(hx:XAt w X g.gx who x res ser xb)(hg:ZAy w X g)(h:Xs w X (Zi g who xb x) (Z1 f caps) (.evict j shards gone))(hj:j<shards)(hs:shards<=16)(hn:cells.length=n)(hC:Zq w X A cells rs): Calls Tryz.prog f (#[.int .i64 (word:Int),.int .u64 (u:Int),.slice A n c]++caps) w (Jx X (Zi g who xb x) (if cells.length=0 then Zo j shards gone else .on (.evScan j shards gone word u cells)) w):=by
 have hmf:=Jg;obtain⟨q0,q1,q2,fv,hfn,k0,kf,k1,k2⟩:=h;injection hfn with hfn h1 h2;injection hfn with hfn;subst hfn h2;obtain⟨ff,fc,rfl⟩:=kf.fn;obtain⟨b0,rfl,l0⟩:=k0.ptr;obtain⟨b1,rfl,l1⟩:=k1.ptr;obtain⟨b2,rfl,l2⟩:=k2.ptr;obtain⟨W,hW⟩:=ZTz (((((w.alloc (.cells #[.int .i64 (word:Int)] 3)).alloc (.cells #[.int .u64 (u:Int)] 52)).alloc (.cells #[.slice A n c] 56)).alloc ZUA));have xW:ZL w W:=by rw[<-hW];exact(((((ZL.refl w).alloc _).alloc _).alloc _).alloc _)
 have K0:=ZA (show W.heap[w.heap.size+1+1+1]?=some ZUA by rw[<-hW];exact Zd _ _ ZTv);have e0:=(k0.ext xW).ZT2 0 (Z1 ff fc);have e1:=(k1.ext xW).ZT2 0 (.int .i64 gone);have e8:W.cell? ⟨w.heap.size+1+1,0,none⟩=some (.slice A n c):=by rw[<-hW];exact(((Zb.new ZTv (hX.not ZB)).past _):Zb _ X _ #[.slice A n c]).cell 0
 have kp:=kpg (X:=X) xW (show w.heap.size<=w.heap.size+1+1+1 by omega);have hXW:=hX.xg xW (ZW K0.o);obtain⟨out,Hout⟩:=ZTy ((if cells.length=0 then Zo j shards gone else .on (.evScan j shards gone word u cells)));rw[Hout.o];rw[hn]at Hout;have rr:∀(i:Nat) (cs:Array Value),Zb W X (ZH i) cs->i≠w.heap.size+1+1+1->Zb W (XG X (w.heap.size+1+1+1)) (ZH i) cs:=λi cs h hi=>by
  obtain⟨b,t,e1,e2,e3⟩:=h;refine⟨b,t,e1,e2,λe=>e.elim e3 (λe=>?_)⟩;injection e1 with e1;injection e1 with e1;injection e1 with e1;omega
 have FU:=ZA (ZCF W (XG X (w.heap.size+1+1+1)) g who xb j shards gone x res ser ff fc hXW (hx.kp2 kp xW) (hg.kp2 kp xW) (kf.kp kp) hj hs);have KT:Ze W (XG X (w.heap.size+1+1+1)) (Zi g who xb x) (Z1 181 #[ZH b2,ZH (w.heap.size+1+1),ZH b0,ZH b1,ZH w.heap.size,ZH (w.heap.size+1)]) (.evScan j shards gone word u cells):=⟨_,_,_,_,_,_,_,rfl,k2.kp kp,⟨A,c,rs,by rw[hn];exact rr _ _ (by rw[<-hW];exact((Zb.new ZTv (hX.not ZB)).past _)) ZB,hC.kp kp⟩,k0.kp kp,kf.kp kp,k1.kp kp,rr _ _ (by rw[<-hW];exact((((Zb.new rfl (hX.not ZB)).past _).past _).past _)) ZB,rr _ _ (by rw[<-hW];exact(((Zb.new ZTv (hX.not ZB)).past _).past _)) ZB⟩;have HKT:=ZA KT;have XW:=ZA xW;have HW:=ZA hW;have hen:=kf.hen;clear k0 k1 k2 hX hx hg xW hW kp l0 l1 l2 hC rr KT hXW kf;show Calls Tryz.prog 180 #[.int .i64 (word:Int),.int .u64 (u:Int),.slice A n c,ZH b0,ZH b1,ZH b2] w _;by_cases hl:n=0
 ·have HE:=ZA (show Zo j shards gone=out by rw[<-Hout.o,Zcg hl]);rw[HE.o]at FU;have hb:((n:Int)==0)=true:=by rw[ZcX];omega
  clear hl hj hs hn;go_enter Tryz.func180,Tryz.ntmps180;go_upto_region 1 with fail
  (try rw[HW.o])
  clear HW;go_wp2_with fail;refine FU.o.mono ?_;rintro e w2 ⟨nv,done,r',rfl,ho,hx⟩;have HO:=ZA ho;have HXY:=ZA (XW.o.trans hx);have K3:=ZA (ZJ K0.o hx);obtain⟨s0,z0,s1,z1,s2,z2,s3,z3,s4,z4,s5,z5,s6,z6⟩:=ZT9 K3.o;clear ho hx;go_wp2_with fail;refine ZcY (ZQ (p:=10) (u:=9) rfl _ _ (w.heap.size+1+1+1) _ #[.bool done,.int .i64 (r'.er:Int),.bool r'.granted,.int .i64 r'.left,.int .i64 r'.wait,.int .i64 r'.ser,.int .i64 r'.now] (0,0) _ rfl (Yf K3.o _ _ _ _ _ _ _) Tryz.underlying41 ZTw ZC) rfl ?_;exact Yj HO.o HXY.o ZB _ _ _ _ _ _ _
 ·have HE:=ZA (show Zn.on (.evScan j shards gone word u cells)=out by rw[<-Hout.o,Zcf hl]);have hb:((n:Int)==0)=false:=by rw[ZcW];omega
  have ON:=Jf HKT.o;rw[HE.o]at ON;have ON:=ZA ON;clear hl hj hs hn FU;go_enter Tryz.func180,Tryz.ntmps180;go_upto_region 1 with fail
  (try rw[HW.o])
  clear HW;go_wp2_with fail;refine ON.o.mono ?_;rintro e w3 ⟨nv,done,r',rfl,ho,hx⟩;have HO:=ZA ho;have HXY:=ZA (XW.o.trans hx);have K3:=ZA (ZJ K0.o hx);obtain⟨s0,z0,s1,z1,s2,z2,s3,z3,s4,z4,s5,z5,s6,z6⟩:=ZT9 K3.o;clear ho hx;go_wp2_with fail;refine ZcY (ZQ (p:=10) (u:=9) rfl _ _ (w.heap.size+1+1+1) _ #[.bool done,.int .i64 (r'.er:Int),.bool r'.granted,.int .i64 r'.left,.int .i64 r'.wait,.int .i64 r'.ser,.int .i64 r'.now] (0,0) _ rfl (Yf K3.o _ _ _ _ _ _ _) Tryz.underlying41 ZTw ZC) rfl ?_;exact Yj HO.o HXY.o ZB _ _ _ _ _ _ _
theorem ZNq (w:World)(g:YE)(O C:Zdb)(xb:Nat->Nat)(L:List Zf)(s:YF)(who u:Nat)(x:ZX)(res:Bool)(ser:Int)(f:FuncId)(caps:Array Value)(h:YK w g O C xb L s)(hc:s.call who=.run x res ser .evFirst)(hL:L.length<=100000)(hw:who<64)(hu:s.ws.getD 0 0=u)(hu8:u<=8)(hk:Ze w (XO C O) (Zi g who (xb who) x) (Z1 f caps) .evFirst): Calls Tryz.prog f caps w (SK w g O C xb who (L.length+1) x s (.on (.find 0 (.evict 0 (2 ^ ((u+1) / 2)) 0)))):=by
 obtain⟨p0,hfn,k0⟩:=hk;injection hfn with hfn h1 h2;injection hfn with hfn;subst hfn h2;obtain⟨b0,rfl,l0⟩:=k0.ptr;obtain⟨W,hW⟩:=ZTz ((w.alloc ZUA));have xW:ZL w W:=by rw[<-hW];exact((ZL.refl w).alloc _)
 have K0:=ZA (show W.heap[w.heap.size]?=some ZUA by rw[<-hW];exact ZM w _);have hA:=h.xg xW (Zb0 _) (ZW K0.o);have LD:=ZA (ZEN W g (XG O w.heap.size) C xb L s who 0 u x res ser _ hA hc ZB hw ZB hu);have e0:=(k0.ext xW).ZT2 0 (ZH (xb who));have HLT:=ZA h.lt;have HK0:=ZA k0;have HC:=ZA hc;have HU8:=ZA hu8;have XW:=ZA xW;have HW:=ZA hW;have HNL:=ZA (show(L++[(⟨who,1,0,u,0,true⟩:Zf)]).length<=L.length+1 by simp);obtain⟨m,Hm⟩:=ZTy ((u+1) / 2);have Hm4:=ZA (show m<=4 by have:=Hm.o;omega);rw[Hm.o];clear h hc hu k0 hA xW hW l0 hL;go_enter Tryz.func131,Tryz.ntmps131;go_upto_region 1 with fail
 (try rw[HW.o])
 clear HW;go_wp2_with fail;refine LD.o.mono ?_;rintro e w2 ⟨rfl,hg⟩;obtain⟨C',hm⟩:=hg.mov;have HM:=ZA hm;have hkp:=hm.kpg XW.o (Zb0 w.heap.size);have J0:=ZA (HK0.o.kp hkp);have KR:=ZA (hm.2.1.blk K0.o (λe=>Zb3 _ (HLT.o _ e)));have f0:=J0.o.ZT2 0 (ZH (xb who));obtain⟨P,HP⟩:∃P:Nat,ZD (2 ^ m=P):=⟨_,rfl⟩;have EV:=ZA (show Calls Tryz.prog 134 #[ZH (xb who),.int .i64 0,.int .i64 (P:Int),.int .i64 0] w2 (ClR (λw' v=>Ze w' (XO C' (XG O w.heap.size)) (Zi g who (xb who) x) v (.find 0 (.evict 0 P 0))) w2)from ZKN w2 (XO C' (XG O w.heap.size)) g who (xb who) 0 P 0 x res ser hm.1.newer (hm.1.xat hw HC.o).1 hm.1.rd ZB);have hq:((u:Int)+1) / 2=(m:Int):=by have:=Hm.o;omega
 have hp:wrap64 (2 ^ m)=(P:Int):=by rw[<-HP.o];exact ZF2 Hm4.o
 clear hm hkp hg e0;go_upto_region 2 with fail;go_wp2_with fail;refine EV.o.mono ?_;rintro e w3 ⟨v,rfl,hk,hx⟩;obtain⟨fk,ck,rfl⟩:=hk.fn;have ON:=ZA (Jf hk);have XV:=ZA hx;have KR2:=ZA (ZJ KR.o hx);clear hk hx EV f0;go_wp2_with fail;refine ON.o.mono ?_;rintro e w4 ⟨nv,done,r',rfl,ho,hx⟩;have HO:=ZA ho;have HXX:=ZA hx;have K3:=ZA (ZJ KR2.o hx);obtain⟨r0,z0,r1,z1,r2,z2,r3,z3,r4,z4,r5,z5,r6,z6⟩:=ZT9 K3.o;clear ho hx ON;go_wp2_with fail;refine ZcY (ZQ (p:=2) (u:=1) rfl _ _ (w.heap.size) _ #[.bool done,.int .i64 (r'.er:Int),.bool r'.granted,.int .i64 r'.left,.int .i64 r'.wait,.int .i64 r'.ser,.int .i64 r'.now] (0,0) _ rfl (Yf K3.o _ _ _ _ _ _ _) Tryz.underlying41 ZTw ZC) rfl ?_;rw[HP.o];exact YS HNL.o XW.o (Zb0 _) (HM.o.ext (XV.o.trans HXX.o)) HO.o _ _ _ _ _ _ _
theorem ZE4 (e:Nat)(w:World): Calls Tryz.prog 130 #[.int .i64 (e:Int)] w λen w'=>en=.returned (.agg #[.bool true,.int .i64 (e:Int),.bool false,.int .i64 0,.int .i64 0,.int .i64 0,.int .i64 0])/\ZL w w':=by
 go_enter Tryz.func130,Tryz.ntmps130;go_wp2_with fail;refine ZcY (Zck (p:=2) rfl _ _ w.heap.size _ #[.bool true,.int .i64 (e:Int),.bool false,.int .i64 0,.int .i64 0,.int .i64 0,.int .i64 0] (0,0) _ rfl (ZM w _) Tryz.underlying41 ZTw ZC) rfl ?_;exact⟨rfl,(ZL.refl w).alloc _⟩
theorem ZGg (w:World)(X:Zdb):Zq w X none [] []:=Zq.nil w X
theorem ZPn (w:World)(g:YE)(O C:Zdb)(xb:Nat->Nat)(L:List Zf)(s:YF)(who lv d:Nat)(x:ZX)(res:Bool)(ser:Int)(f:FuncId)(caps:Array Value)(h:YK w g O C xb L s)(hc:s.call who=.run x res ser (.splitS d))(hL:L.length<=100000)(hw:who<64)(hlv:lv<=3)(hd:2*lv=d)(hu:s.ws.getD 0 0=d)(hk:Ze w (XO C O) (Zi g who (xb who) x) (Z1 f caps) (.splitS d)): Calls Tryz.prog f caps w (SK w g O C xb who (L.length+1) x {s with ws:=s.ws.set 0 (d+1),hs:=s.hs.set 0 []} (.on (Xi lv 0))):=by
 obtain⟨p0,p1,p2,p3,p4,p5,hfn,⟨k0,k1⟩,k2,k3,k4,k5⟩:=hk;injection hfn with hfn h1 h2;injection hfn with hfn;subst hfn h2;rw[show d / 2=lv by omega]at k5;obtain⟨b0,rfl,l0⟩:=k0.ptr;obtain⟨b1,rfl,l1⟩:=k1.ptr;obtain⟨b2,rfl,l2⟩:=k2.ptr;obtain⟨b3,rfl,l3⟩:=k3.ptr;obtain⟨b4,rfl,l4⟩:=k4.ptr;obtain⟨b5,rfl,l5⟩:=k5.ptr;obtain⟨W,hW⟩:=ZTz ((w.alloc ZUA));have xW:ZL w W:=by rw[<-hW];exact((ZL.refl w).alloc _)
 have K0:=ZA (show W.heap[w.heap.size]?=some ZUA by rw[<-hW];exact ZM w _);have hA:=h.xg xW (Zb0 _) (ZW K0.o);obtain⟨d2,Hd2⟩:=ZTy (d+1);rw[Hd2.o];have SW:=ZA (λu (y:ZL W u)=>(show Calls Tryz.prog 80 #[ZH g.gb,.int .i64 (who:Int),.int .i64 0,.int .u64 (d:Int),.int .u64 (d2:Int),.slice none 0 0] u _ from Jl u g (XG O w.heap.size) C xb L s who 0 d d2 0 0 (d2:Int) none [] [] (hA.ext y) ZB hw ZB hu rfl rfl (ZGg _ _)));have e0:=(k0.ext xW).ZT2 0 (ZH g.gl);have e1:=(k1.ext xW).ZT2 0 (.int .i64 (who:Int));have e2:=(k2.ext xW).ZT2 0 (.int .u64 (d:Int));have dl:W.cell? ⟨g.gl,0,none⟩=some (ZH g.gb):=hA.rd.l0;have hl2:IntKind.u64.wrap ((d:Int)+1)=(d2:Int):=by have:=Hd2.o;rw[Zab];omega
 have HLT:=ZA h.lt;have HK3:=ZA k3;have HK0:=ZA k0;have HK1:=ZA k1;have HK2:=ZA k2;have HK4:=ZA k4;have HK5:=ZA k5;have XW:=ZA xW;have HW:=ZA hW;have HNL:=ZA (show(L++[(⟨who,2,0,d,d2,true⟩:Zf)]).length<=L.length+1 by simp);clear h hc hu k0 k1 k2 k3 k4 k5 hA xW hW hL hd;go_enter Tryz.func176,Tryz.ntmps176;go_upto_region 2 with fail
 (try rw[HW.o])
 clear HW
 go_region_held3 (λw'=>w'.cell? ⟨b0,0,none⟩=some (ZH g.gl)/\w'.cell? ⟨b1,0,none⟩=some (.int .i64 (who:Int))/\w'.cell? ⟨b2,0,none⟩=some (.int .u64 (d:Int))/\w'.cell? ⟨g.gl,0,none⟩=some (ZH g.gb)) (((try go_split_ands);exact⟨ZT3,ZT3,ZT3,ZT3⟩)) ((go_at_call 80;(with_reducible refine(SW.o _ (ZL.refl W).drew).mono ?_);rintro e w2 ⟨rfl,hg⟩;obtain⟨C',hm⟩:=hg.mov;have HM:=ZA (hm.back (ZL.refl W).drew);have hkp:=HM.o.kpg XW.o (Zb0 w.heap.size);have te0:=(HK0.o.kp hkp).ZT2 0 (ZH g.gl);have te1:=(HK1.o.kp hkp).ZT2 0 (.int .i64 (who:Int));have te2:=(HK2.o.kp hkp).ZT2 0 (.int .u64 (d:Int));have tdl:w2.cell? ⟨g.gl,0,none⟩=some (ZH g.gb):=HM.o.1.rd.l0;clear hm hg hkp))
 all_goals
  have hkp:=HM.o.kpg XW.o (Zb0 w.heap.size);have KR:=ZA (HM.o.2.1.blk K0.o (λe=>Zb3 _ (HLT.o _ e)));have f0:=(HK0.o.kp hkp).ZT2 0 (ZH g.gl);have f1:=(HK1.o.kp hkp).ZT2 0 (.int .i64 (who:Int));have f3:=(HK3.o.kp hkp).ZT2 0 (Z1 130 #[]);have f5:=(HK5.o.kp hkp).ZT2 0 (.int .i64 (lv:Int));have KN:=HK4.o.kp hkp;have n0:=KN.ZT2 0 (.bool false);have n1:=KN.ZT2 1 (.int .i64 0);have n2:=KN.ZT2 2 (.bool false);have n3:=KN.ZT2 3 (.int .i64 0);have n4:=KN.ZT2 4 (.int .i64 0);have n5:=KN.ZT2 5 (.int .i64 0);have n6:=KN.ZT2 6 (.int .i64 0);have MV:=ZA (show Calls Tryz.prog 175 #[ZH g.gl,.int .i64 (who:Int),.int .i64 (lv:Int),.int .i64 0,Z1 130 #[]] w2.drew (ClR (λw' v=>Ze w' (XO C' (XG O w.heap.size)) (Zi g who (xb who) x) v (Xi lv 0)) w2.drew)from ZEa w2.drew _ (Zi g who (xb who) x) lv 0 (HM.o.1.newer.ext (ZL.refl w2).drew) hlv (ZcL _));have qf0:b0≠w.heap.size:=by omega
  have qf1:b1≠w.heap.size:=by omega
  have qf3:b3≠w.heap.size:=by omega
  have qf5:b5≠w.heap.size:=by omega
  have qn0:b4≠w.heap.size:=by omega
  have qn1:=qn0;have qn2:=qn0;have qn3:=qn0;have qn4:=qn0;have qn5:=qn0;have qn6:=qn0;clear hkp KN e0 e1 e2 dl l0 l1 l2 l3 l4 l5 hlv;go_upto_region 4 with fail
  go_region_held3 (λw'=>w'.cell? ⟨b0,0,none⟩=some (ZH g.gl)/\w'.cell? ⟨b1,0,none⟩=some (.int .i64 (who:Int))/\w'.cell? ⟨b5,0,none⟩=some (.int .i64 (lv:Int))/\w'.cell? ⟨b3,0,none⟩=some (Z1 130 #[])/\w'.cell? ⟨b4,0,none⟩=some (.bool false)/\w'.cell? ⟨b4,1,none⟩=some (.int .i64 0)/\w'.cell? ⟨b4,2,none⟩=some (.bool false)/\w'.cell? ⟨b4,3,none⟩=some (.int .i64 0)/\w'.cell? ⟨b4,4,none⟩=some (.int .i64 0)/\w'.cell? ⟨b4,5,none⟩=some (.int .i64 0)/\w'.cell? ⟨b4,6,none⟩=some (.int .i64 0)) (((try go_split_ands);exact⟨ZT4,ZT4,ZT4,ZT4,ZT4,ZT4,ZT4,ZT4,ZT4,ZT4,ZT4⟩)) ((go_at_call 175;(with_reducible refine MV.o.mono ?_);rintro e w3 ⟨v,rfl,hk,hx⟩;have hx':=(ZL.refl w2).drew.trans hx;have HK:=ZA hk;have HXX:=ZA hx';have KR3:=ZA (ZJ KR.o hx');obtain⟨r0,z0,r1,z1,r2,z2,r3,z3,r4,z4,r5,z5,r6,z6⟩:=ZT9 KR3.o;have tf0:=ZG (hx') f0;have tf1:=ZG (hx') f1;have tf3:=ZG (hx') f3;have tf5:=ZG (hx') f5;have tn0:=ZG (hx') n0;have tn1:=ZG (hx') n1;have tn2:=ZG (hx') n2;have tn3:=ZG (hx') n3;have tn4:=ZG (hx') n4;have tn5:=ZG (hx') n5;have tn6:=ZG (hx') n6;clear hk hx hx'))
  all_goals
   go_wp2_with fail;refine ZcY (ZQ (p:=7) (u:=6) rfl _ _ w.heap.size _ #[.bool false,.int .i64 0,.bool false,.int .i64 0,.int .i64 0,.int .i64 0,.int .i64 0] (0,0) _ rfl (Yf KR3.o _ _ _ _ _ _ _) Tryz.underlying41 ZTw ZC) rfl ?_;exact YS (r:=Jc) HNL.o XW.o (Zb0 _) (HM.o.ext HXX.o) (ZAB HK.o) _ _ _ _ _ _ _
theorem Z9.box {W W1 w2:World}{g:YE}{O C C':Zdb}{xb:Nat->Nat}{L:List Zf}{s:YF}{k:Nat}(x:ZL W W1)(hk:W.heap.size<=k)(hm:Z9 W1 g (XG O k) C xb L s C' w2)(v:Value):Z9 W g O C xb L s C' (w2.setCell ⟨k,0,none⟩ v):=
 ⟨hm.1.far (S:=(· =k)) ((GB.refl w2 _).set k 0 v (.inl rfl)) (λ_ _ e=>.inr e) (λ_ _ e=>.inl e) (λi hi=>Zb5 (hm.1.ol i (.inl hi)) (Zc w2 k 0 v).size),(GB.back x hm.2.1).set k 0 v (.inr hk),λi hi=>(hm.2.2 i hi).imp id (Zb2 x.size)⟩
theorem Zb.box {W1 w2:World}{g:YE}{O C C':Zdb}{xb:Nat->Nat}{L:List Zf}{s:YF}{k:Nat}{t:TypeId}{u:Value}(hm:Z9 W1 g (XG O k) C xb L s C' w2)(h:W1.heap[k]?=some (.cells #[u] t (0,0)))(hO:¬O k)(hC:¬C k)(v:Value):Zb (w2.setCell ⟨k,0,none⟩ v) (XO C' O) (ZH k) #[v]:=⟨k,t,rfl,ZU (hm.2.1.blk h hC) 0 v,λe=>e.elim (λe=>(hm.2.2 k e).elim hC (λe=>Zb3 _ (Zb4 e (ZW h)))) hO⟩
theorem Z9.kpb {w W W1 w2:World}{g:YE}{O C C':Zdb}{xb:Nat->Nat}{L:List Zf}{s:YF}{gg k:Nat}(h:Z9 W1 g (XG (XG O gg) k) C xb L s C' w2)(x:ZL w W)(x1:ZL W W1)(hg:w.heap.size<=gg)(hk:W.heap.size<=k):Kp w w2 (XO C O) (XO C' (XG (XG O gg) k)):=Kp.of (GB.back (x.trans x1) h.2.1) (λi _ e=>.inl e) (λi hi e=>e.elim (λe=>.inl ((h.2.2 i e).resolve_right (by have:=(x.trans x1).size;omega))) (λe=>e.elim (λe=>e.elim .inr (λe=>by omega)) (λe=>by have:=x.size;omega)))
theorem ZRV (w:World)(g:YE)(O C:Zdb)(xb:Nat->Nat)(L:List Zf)(s:YF)(who lv d:Nat)(x:ZX)(res:Bool)(ser:Int)(f:FuncId)(caps:Array Value)(h:YK w g O C xb L s)(hc:s.call who=.run x res ser .split)(hL:L.length<=100000)(hw:who<64)(hlv:lv<=4)(hd:2*lv=d)(hu:s.ws.getD 0 0=d)(hk:Ze w (XO C O) (Zi g who (xb who) x) (Z1 f caps) .split): Calls Tryz.prog f caps w (SK w g O C xb who (L.length+1) x s (if lv=4 then .fin (Yb 5) else .on (.splitS d))):=by
 obtain⟨p0,p1,p2,hfn,⟨k0,k1⟩,k2⟩:=hk;injection hfn with hfn h1 h2;injection hfn with hfn;subst hfn h2;obtain⟨b0,rfl,l0⟩:=k0.ptr;obtain⟨b1,rfl,l1⟩:=k1.ptr;obtain⟨b2,rfl,l2⟩:=k2.ptr;obtain⟨W,hW⟩:=ZTz (((w.alloc ZUA).alloc ZUA));have xW:ZL w W:=by rw[<-hW];exact(((ZL.refl w).alloc _).alloc _)
 have K0:=ZA (show W.heap[w.heap.size]?=some ZUA by rw[<-hW];exact ZR (ZM w _) _);have K1:=ZA (show W.heap[w.heap.size+1]?=some ZUA by rw[<-hW];exact Zd _ _ ZTv);have hA:=h.xg xW (Zb0 _) (ZW K0.o);have LD:=ZA (λu (y:ZL W u)=>(show Calls Tryz.prog 174 #[ZH g.gb,.int .i64 (who:Int),.int .i64 0] u _ from ZAa u g (XG O w.heap.size) C xb L s who 0 d _ 0 (hA.ext y) ZB hw ZB hu rfl rfl));have LD1:=ZA (λu (y:ZL W u) (hk:W.heap.size<u.heap.size)=>(show Calls Tryz.prog 174 #[ZH g.gb,.int .i64 (who:Int),.int .i64 0] u _ from ZAa u g (XG (XG O w.heap.size) W.heap.size) C xb L s who 0 d _ 0 (hA.xg y (Zb0 _) hk) ZB hw ZB hu rfl rfl));have HLT:=ZA (show ∀i,C i->i<w.heap.size from h.lt);have HOL:=ZA (show ∀i,O i->i<w.heap.size from h.ol);have dl:W.cell? ⟨g.gl,0,none⟩=some (ZH g.gb):=hA.rd.l0;have HK0:=ZA k0;have HK1:=ZA k1;have HK2:=ZA k2;have XW:=ZA xW;have HW:=ZA hW;have e0:=(k0.ext xW).ZT2 0 (ZH g.gl);have e1:=(k1.ext xW).ZT2 0 (.int .i64 (who:Int));have HNL:=ZA (show(L++[(⟨who,1,0,d,0,true⟩:Zf)]).length<=L.length+1 by simp);have hgw:=ZW K1.o;have HGW:=ZA hgw;have qe0:b0≠W.heap.size:=by omega
 have qe1:b1≠W.heap.size:=by omega
 have qdl:g.gl≠W.heap.size:=by have:=ZcO W _ dl;exact ZcE this
 obtain⟨n,Hn⟩:=ZTy ((s.hs.getD 0 []).length);rw[Hn.o]at LD LD1;have HOW:=ZA (show ¬XG O w.heap.size W.heap.size from λe=>e.elim (λe=>by have:=h.ol _ e;omega) (λe=>by omega));have HCW:=ZA (show ¬C W.heap.size from λe=>by have:=h.lt _ e;omega);clear h hc hu k0 k1 k2 hA xW hW hL;go_enter Tryz.func173,Tryz.ntmps173;go_upto_region 2 with fail
 (try rw[HW.o])
 clear HW
 go_cut [6] (λv6 wd=>∃k C',v6=ZH k/\Z9 W g (XG O w.heap.size) C xb (L++[⟨who,1,0,d,0,true⟩]) s C' wd/\Zb wd (XO C' (XG O w.heap.size)) (ZH k) #[.int .u64 (d:Int)])
 case first=>
  go_region_held3 (λw'=>w'.cell? ⟨b0,0,none⟩=some (ZH g.gl)/\w'.cell? ⟨b1,0,none⟩=some (.int .i64 (who:Int))/\w'.cell? ⟨g.gl,0,none⟩=some (ZH g.gb)) (((try go_split_ands);exact⟨ZT5,ZT5,ZT5⟩))
   (first
    |(go_at_call 174;(with_reducible refine(LD.o _ (ZL.refl W).drew).mono ?_);rintro e w2 ⟨A,c,rs,C',rfl,-,hm⟩;have HM:=ZA (hm.back (ZL.refl W).drew);have hkp:=HM.o.kpg XW.o (Zb0 w.heap.size);have te0:=(HK0.o.kp hkp).ZT2 0 (ZH g.gl);have te1:=(HK1.o.kp hkp).ZT2 0 (.int .i64 (who:Int));have tdl:w2.cell? ⟨g.gl,0,none⟩=some (ZH g.gb):=HM.o.1.rd.l0;clear hm hkp)
    |(go_at_call 174;(with_reducible refine(LD1.o _ ((ZL.refl W).alloc _).drew ZTv).mono ?_);rintro e w2 ⟨A,c,rs,C',rfl,-,hm⟩;have HM1:=ZA hm;have hkp:=hm.kpb XW.o ((ZL.refl W).alloc _).drew (Zb0 w.heap.size) (Zb0 W.heap.size);have te0:=(HK0.o.kp hkp).ZT2 0 (ZH g.gl);have te1:=(HK1.o.kp hkp).ZT2 0 (.int .i64 (who:Int));have tdl:w2.cell? ⟨g.gl,0,none⟩=some (ZH g.gb):=hm.1.rd.l0;have KB:=ZA (show w2.heap[W.heap.size]?=some (.cells #[.int .u64 0] 52 (0,0))from hm.2.1.blk (Yw (ZM W _)) HCW.o);have r6:=ZE KB.o 0;have z6:=ZF KB.o 0;clear hm hkp))
  all_goals
   go_wp2_with fail
   go_meet
   first
    |exact⟨_,C',rfl,HM.o.ext ((ZL.refl w2).alloc _),Zb.new rfl (HM.o.1.newer.not (Zb0 _))⟩
    |exact⟨_,C',rfl,Z9.box ((ZL.refl W).alloc _).drew (Zb0 _) HM1.o _,Zb.box HM1.o (Yw (ZM W _)) HOW.o HCW.o _⟩
 case rest=>
  obtain⟨k,C',rfl,hm,h6⟩:=hcut;have HM:=ZA hm;have hkp:=hm.kpg XW.o (Zb0 w.heap.size);have J0:=ZA (HK0.o.kp hkp);have J1:=ZA (HK1.o.kp hkp);have J2:=ZA (HK2.o.kp hkp);have J6:=ZA h6;have hC0:¬C w.heap.size:=λe=>Zb3 _ (HLT.o _ e);have hC1:¬C (w.heap.size+1):=λe=>by have:=HLT.o _ e;omega
  have KR:=ZA (hm.2.1.blk K0.o hC0);have KN:=ZA (hm.2.1.blk K1.o hC1);have HX:=ZA hm.1.newer;have HN1:=ZA (show ¬XO C' (XG O w.heap.size) (w.heap.size+1)from λe=>e.elim (λe=>(hm.2.2 _ e).elim hC1 (λe=>by have:=HGW.o;omega)) (λe=>e.elim (λe=>by have:=HOL.o _ e;omega) (λe=>by omega)));have hq:(d:Int) / 2=(lv:Int):=by omega
  have hr:(d:Int) % 2=0:=by omega
  have f6:=h6.ZT2 0 (.int .u64 (d:Int));have hlw:IntKind.i64.wrap (lv:Int)=(lv:Int):=by rw[Zaa];omega
  clear hm hkp hC0 hC1 e0 e1 dl h6 qe0 qe1 qdl;obtain⟨V,hV⟩:=ZTz (wc.alloc (.cells #[.int .i64 (lv:Int)] 3));have xV:ZL wc V:=by rw[<-hV];exact(ZL.refl wc).alloc _
  have f8:V.cell? ⟨wc.heap.size,0,none⟩=some (.int .i64 (lv:Int)):=by rw[<-hV];exact ZE (ZM wc _) 0
  have r8:Zb V (XO C' (XG O w.heap.size)) (ZH wc.heap.size) #[.int .i64 (lv:Int)]:=by rw[<-hV];exact Zb.new rfl (HX.o.not (Zb0 _))
  have g6:=ZG xV f6;have f2:=(J2.o.ext xV).ZT2 0 (Z1 130 #[]);have KR2:=ZA (ZJ KR.o xV);have KN2:=ZJ KN.o xV;have n0:=ZTx KN2 0 (.bool false);have n1:=ZTx KN2 1 (.int .i64 0);have n2:=ZTx KN2 2 (.bool false);have n3:=ZTx KN2 3 (.int .i64 0);have n4:=ZTx KN2 4 (.int .i64 0);have n5:=ZTx KN2 5 (.int .i64 0);have n6:=ZTx KN2 6 (.int .i64 0);have XV:=ZA xV;have HV:=ZA hV;have HR8:=ZA r8;clear hV xV r8;go_upto_region 4 with fail
  (try rw[HV.o])
  clear HV;by_cases hl4:lv=4
  ·subst hl4;go_wp2_with fail;refine(show Calls Tryz.prog 130 #[.int .i64 5] V _ from ZE4 5 V).mono ?_;rintro e w3 ⟨rfl,hx⟩;have HXX:=ZA hx;have K3:=ZA (ZJ KR2.o hx);obtain⟨r0,z0,r1,z1,r2,z2,r3,z3,r4,z4,r5,z5,r6,z6⟩:=ZT9 K3.o;clear hx;go_wp2_with fail;refine ZcY (ZQ (p:=4) (u:=3) rfl _ _ (w.heap.size) _ #[.bool true,.int .i64 ((Yb 5).er:Int),.bool (Yb 5).granted,.int .i64 (Yb 5).left,.int .i64 (Yb 5).wait,.int .i64 (Yb 5).ser,.int .i64 (Yb 5).now] (0,0) _ rfl (Yf K3.o _ _ _ _ _ _ _) Tryz.underlying41 ZTw ZC) rfl ?_;exact YS (out:=.fin (Yb 5)) (nv:=.nilFunc) (done:=true) (r:=Yb 5) (x:=x) (who:=who) HNL.o XW.o (Zb0 _) (HM.o.ext (XV.o.trans HXX.o)) ⟨rfl,rfl,rfl⟩ _ _ _ _ _ _ _
  ·clear hw;have hne:((lv:Int)==4)=false:=by rw[ZcW];omega
   have KT:=ZA (show Ze V (XO C' (XG O w.heap.size)) (Zi g who (xb who) x) (Z1 176 #[ZH b0,ZH b1,ZH k,ZH b2,ZH (w.heap.size+1),ZH wc.heap.size]) (.splitS d)from
    ⟨_,_,_,_,_,_,rfl,⟨J0.o.ext XV.o,J1.o.ext XV.o⟩,J6.o.ext XV.o,J2.o.ext XV.o,⟨_,_,rfl,KN2,HN1.o⟩,by rw[show d / 2=lv by omega];exact HR8.o⟩)
   have hmf:=Jg;obtain⟨r0,z0,r1,z1,r2,z2,r3,z3,r4,z4,r5,z5,r6,z6⟩:=ZT9 KR2.o;go_upto_region 8 with fail;go_region;go_wp2_with fail;refine ZcY (ZQ (p:=4) (u:=3) rfl _ _ w.heap.size _ #[.bool false,.int .i64 0,.bool false,.int .i64 0,.int .i64 0,.int .i64 0,.int .i64 0] (0,0) _ rfl (Yw (Yf KR2.o _ _ _ _ _ _ _)) Tryz.underlying41 ZTw ZC) rfl ?_;exact ZIH (YS (r:=Jc) HNL.o XW.o (Zb0 _) (HM.o.ext XV.o) (ZAB KT.o) _ _ _ _ _ _ _)
theorem ZPf (w:World)(X:Zdb)(d:JM)(lv i n c:Nat)(A:Option Addr)(holds:List ZO)(rs:List YI)(f:FuncId)(caps:Array Value)(hX:Z0 w X)(h:Xc w X d (Z1 f caps) (.move lv i))(hl:lv<=3)(hi:i<2 ^ lv)(hn:holds.length=n)(hC:Zq w X A holds rs): Calls Tryz.prog f (#[.slice A n c]++caps) w (ClR (λw' v=>Ze w' X d v (.half (lv+1) i holds (.move1 lv i holds))) w):=by
 have hmf:=Jg;obtain⟨p0,p1,p2,p3,p4,p5,hfn,⟨k0,k1⟩,k2,k3,k4,k5⟩:=h;injection hfn with hfn h1 h2;injection hfn with hfn;subst hfn h2;obtain⟨b0,rfl,l0⟩:=k0.ptr;obtain⟨b1,rfl,l1⟩:=k1.ptr;obtain⟨b2,rfl,l2⟩:=k2.ptr;obtain⟨b3,rfl,l3⟩:=k3.ptr;obtain⟨b4,rfl,l4⟩:=k4.ptr;obtain⟨b5,rfl,l5⟩:=k5.ptr;obtain⟨W,hW⟩:=ZTz ((w.alloc (.cells #[.slice A n c] 56)));have xW:ZL w W:=by rw[<-hW];exact((ZL.refl w).alloc _)
 have r0:Zb W X (ZH w.heap.size) #[.slice A n c]:=by rw[<-hW];exact(Zb.new rfl (hX.not ZB))
 have hi8:i<8:=Zb5 hi (ZF3 hl);subst hn
 have HF:=ZA (ZEb W X d (lv+1) i holds.length c A holds rs (Z1 235 #[ZH b0,ZH b1,ZH b2,ZH b3,ZH w.heap.size,ZH b4,ZH b5]) (.move1 lv i holds) (hX.ext xW) ⟨_,_,_,_,_,_,_,rfl,⟨k0.ext xW,k1.ext xW⟩,k2.ext xW,k3.ext xW,⟨A,c,rs,r0,hC.ext xW⟩,k4.ext xW,k5.ext xW⟩ ZB ZB rfl (hC.ext xW));have e0:=(k0.ext xW).ZT2 0 (ZH d.gl);have e1:=(k1.ext xW).ZT2 0 (.int .i64 (d.who:Int));have e2:=(k2.ext xW).ZT2 0 (.int .i64 (lv:Int));have e3:=(k3.ext xW).ZT2 0 (.int .i64 (i:Int));have e5:=r0.ZT2 0 (.slice A holds.length c);have hlw:IntKind.i64.wrap ((lv:Int)+1)=((lv+1:Nat):Int):=by rw[Zaa];omega
 have hiu:IntKind.u64.wrap (i:Int)=(i:Int):=by rw[Zab];omega
 have XW:=ZA xW;clear k0 k1 k2 k3 k4 k5 r0 xW hC hX l0 l1 l2 l3 l4 l5 hi;show Calls Tryz.prog 233 #[.slice A holds.length c,ZH b0,ZH b1,ZH b2,ZH b3,ZH b4,ZH b5] w _;go_enter Tryz.func233,Tryz.ntmps233;go_upto_region 1 with fail
 (try rw[hW])
 clear hW;go_wp2_with fail;refine HF.o.mono ?_;rintro e w2 ⟨v,rfl,hk,hx⟩;go_wp2_with fail;go_ret;exact⟨_,rfl,hk,XW.o.trans hx⟩
theorem ZGG (w:World)(X:Zdb)(d:JM)(lv i n c:Nat)(z y:Int)(A:Option Addr)(f:FuncId)(caps:Array Value)(hX:Z0 w X)(h:Y8 w X d (Z1 f caps) (.move2 lv i))(hl:lv<=3)(hi:i<2 ^ lv): Calls Tryz.prog f (#[.int .i64 z,.int .u64 y,.slice A n c]++caps) w (Jx X d (.on (Xi lv (i+1))) w):=by
 obtain⟨p0,p1,p2,p3,p4,p5,hfn,⟨k0,k1⟩,k2,k3,k4,k5⟩:=h;injection hfn with hfn h1 h2;injection hfn with hfn;subst hfn h2;obtain⟨b0,rfl,l0⟩:=k0.ptr;obtain⟨b1,rfl,l1⟩:=k1.ptr;obtain⟨b2,rfl,l2⟩:=k2.ptr;obtain⟨b3,rfl,l3⟩:=k3.ptr;obtain⟨b4,rfl,l4⟩:=k4.ptr;obtain⟨b5,rfl,l5⟩:=k5.ptr;obtain⟨W,hW⟩:=ZTz ((w.alloc ZUA));have xW:ZL w W:=by rw[<-hW];exact((ZL.refl w).alloc _)
 have K0:=ZA (show W.heap[w.heap.size]?=some ZUA by rw[<-hW];exact ZM w _);have hi8:i<8:=Zb5 hi (ZF3 hl);obtain⟨i1,Hi1⟩:=ZTy (i+1);rw[Hi1.o];have MV:=ZA (ZEa W.drew (XG X w.heap.size) d lv i1 ((hX.xg xW (ZW K0.o)).ext (ZL.refl W).drew) hl (by have:=Hi1.o;omega));have f0:=(k0.ext xW).ZT2 0 (ZH d.gl);have f1:=(k1.ext xW).ZT2 0 (.int .i64 (d.who:Int));have f2:=(k2.ext xW).ZT2 0 (.int .i64 (lv:Int));have f3:=(k3.ext xW).ZT2 0 (.int .i64 (i:Int));have f4:=(k4.ext xW).ZT2 0 (Z1 130 #[]);have KN:=k5.ext xW;have n0:=KN.ZT2 0 (.bool false);have n1:=KN.ZT2 1 (.int .i64 0);have n2:=KN.ZT2 2 (.bool false);have n3:=KN.ZT2 3 (.int .i64 0);have n4:=KN.ZT2 4 (.int .i64 0);have n5:=KN.ZT2 5 (.int .i64 0);have n6:=KN.ZT2 6 (.int .i64 0);have hiw:IntKind.i64.wrap ((i:Int)+1)=(i1:Int):=by have:=Hi1.o;rw[Zaa];omega
 have qf0:b0≠w.heap.size:=by omega
 have qf1:b1≠w.heap.size:=by omega
 have qf2:b2≠w.heap.size:=by omega
 have qf3:b3≠w.heap.size:=by omega
 have qf4:b4≠w.heap.size:=by omega
 have qn0:b5≠w.heap.size:=by omega
 have qn1:=qn0;have qn2:=qn0;have qn3:=qn0;have qn4:=qn0;have qn5:=qn0;have qn6:=qn0;have XW:=ZA xW;have HW:=ZA hW;clear k0 k1 k2 k3 k4 k5 KN hX xW hW l0 l1 l2 l3 l4 l5 hi hl;show Calls Tryz.prog 236 #[.int .i64 z,.int .u64 y,.slice A n c,ZH b0,ZH b1,ZH b2,ZH b3,ZH b4,ZH b5] w _;go_enter Tryz.func236,Tryz.ntmps236;go_upto_region 1 with fail
 (try rw[HW.o])
 clear HW
 go_region_held3 (λw'=>w'.cell? ⟨b0,0,none⟩=some (ZH d.gl)/\w'.cell? ⟨b1,0,none⟩=some (.int .i64 (d.who:Int))/\w'.cell? ⟨b2,0,none⟩=some (.int .i64 (lv:Int))/\w'.cell? ⟨b3,0,none⟩=some (.int .i64 (i:Int))/\w'.cell? ⟨b4,0,none⟩=some (Z1 130 #[])/\w'.cell? ⟨b5,0,none⟩=some (.bool false)/\w'.cell? ⟨b5,1,none⟩=some (.int .i64 0)/\w'.cell? ⟨b5,2,none⟩=some (.bool false)/\w'.cell? ⟨b5,3,none⟩=some (.int .i64 0)/\w'.cell? ⟨b5,4,none⟩=some (.int .i64 0)/\w'.cell? ⟨b5,5,none⟩=some (.int .i64 0)/\w'.cell? ⟨b5,6,none⟩=some (.int .i64 0)) (((try go_split_ands);exact⟨ZT4,ZT4,ZT4,ZT4,ZT4,ZT4,ZT4,ZT4,ZT4,ZT4,ZT4,ZT4⟩)) ((go_at_call 175;(with_reducible refine MV.o.mono ?_);rintro e w3 ⟨v,rfl,hk,hx⟩;have hx':=(ZL.refl W).drew.trans hx;have HK:=ZA hk;have HXX:=ZA hx';have KR3:=ZA (ZJ K0.o hx');obtain⟨r0,z0,r1,z1,r2,z2,r3,z3,r4,z4,r5,z5,r6,z6⟩:=ZT9 KR3.o;have tf0:=ZG (hx') f0;have tf1:=ZG (hx') f1;have tf2:=ZG (hx') f2;have tf3:=ZG (hx') f3;have tf4:=ZG (hx') f4;have tn0:=ZG (hx') n0;have tn1:=ZG (hx') n1;have tn2:=ZG (hx') n2;have tn3:=ZG (hx') n3;have tn4:=ZG (hx') n4;have tn5:=ZG (hx') n5;have tn6:=ZG (hx') n6;clear hk hx hx'))
 all_goals
  go_wp2_with fail;refine ZcY (ZQ (p:=13) (u:=12) rfl _ _ w.heap.size _ #[.bool false,.int .i64 0,.bool false,.int .i64 0,.int .i64 0,.int .i64 0,.int .i64 0] (0,0) _ rfl (Yf KR3.o _ _ _ _ _ _ _) Tryz.underlying41 ZTw ZC) rfl ?_;exact Yj (r:=Jc) (ZAB HK.o) (XW.o.trans HXX.o) (Zb0 _) _ _ _ _ _ _ _
theorem ZJN {lv:Nat}(h:lv<=4):IntKind.i64.wrap (2 ^ min lv 64)=((2 ^ lv:Nat):Int):=by
 have:lv=0\/lv=1\/lv=2\/lv=3\/lv=4:=by omega
 rcases this with rfl|rfl|rfl|rfl|rfl<;>rfl
theorem ZHf (w:World)(X:Zdb)(d:JM)(lv i n c:Nat)(z y:Int)(A:Option Addr)(holds:List ZO)(f:FuncId)(caps:Array Value)(hX:Z0 w X)(h:Y8 w X d (Z1 f caps) (.move1 lv i holds))(hl:lv<=3)(hi:i<2 ^ lv): Calls Tryz.prog f (#[.int .i64 z,.int .u64 y,.slice A n c]++caps) w (Jx X d (.on (.half (lv+1) (i+2 ^ lv) holds (.move2 lv i))) w):=by
 have hmf:=Jg;obtain⟨p0,p1,p2,p3,p6,p4,p5,hfn,⟨k0,k1⟩,k2,k3,⟨Ah,ch,rs,k6,hcl⟩,k4,k5⟩:=h;injection hfn with hfn h1 h2;injection hfn with hfn;subst hfn h2;obtain⟨b0,rfl,l0⟩:=k0.ptr;obtain⟨b1,rfl,l1⟩:=k1.ptr;obtain⟨b2,rfl,l2⟩:=k2.ptr;obtain⟨b3,rfl,l3⟩:=k3.ptr;obtain⟨b4,rfl,l4⟩:=k4.ptr;obtain⟨b5,rfl,l5⟩:=k5.ptr;obtain⟨b6,rfl,l6⟩:=k6.ptr;obtain⟨W,hW⟩:=ZTz ((w.alloc ZUA));have xW:ZL w W:=by rw[<-hW];exact((ZL.refl w).alloc _)
 have K0:=ZA (show W.heap[w.heap.size]?=some ZUA by rw[<-hW];exact ZM w _);have hi8:i<8:=Zb5 hi (ZF3 hl);have hP8:=ZF3 hl;obtain⟨P,HP⟩:∃q:Nat,ZD ((2:Nat) ^ lv=q):=⟨2 ^ lv,ZA rfl⟩;rw[HP.o]at hP8 ⊢;obtain⟨i1,Hi1⟩:=ZTy (i+P);obtain⟨l1',Hl1⟩:=ZTy (lv+1);rw[Hi1.o,Hl1.o];have kp:=kpg (X:=X) xW (Zb0 w.heap.size);obtain⟨m,Hm⟩:=ZTy (holds.length);rw[Hm.o]at k6;have dX:ZL W W.drew:=(ZL.refl W).drew
 have MV:=ZA (ZEb W.drew (XG X w.heap.size) d l1' i1 m ch Ah holds rs (Z1 236 #[ZH b0,ZH b1,ZH b2,ZH b3,ZH b4,ZH b5]) (.move2 lv i) ((hX.xg xW (ZW K0.o)).ext dX) ⟨_,_,_,_,_,_,rfl,⟨(k0.kp kp).ext dX,(k1.kp kp).ext dX⟩,(k2.kp kp).ext dX,(k3.kp kp).ext dX,(k4.kp kp).ext dX,Zb.ext (Zb.kp k5 kp) dX⟩ (by have:=Hl1.o;omega) (by have:=Hi1.o;omega) Hm.o ((hcl.kp kp).ext dX));have f6:=(k6.ext xW).ZT2 0 (.slice Ah m ch);have hlw:IntKind.i64.wrap ((lv:Int)+1)=(l1':Int):=by have:=Hl1.o;rw[Zaa];omega
 have hiu:IntKind.u64.wrap (i1:Int)=(i1:Int):=by have:=Hi1.o;rw[Zab];omega
 have hsg:¬(lv:Int)<0:=by omega
 have f0:=(k0.ext xW).ZT2 0 (ZH d.gl);have f1:=(k1.ext xW).ZT2 0 (.int .i64 (d.who:Int));have f2:=(k2.ext xW).ZT2 0 (.int .i64 (lv:Int));have f3:=(k3.ext xW).ZT2 0 (.int .i64 (i:Int));have f4:=(k4.ext xW).ZT2 0 (Z1 130 #[]);have KN:=k5.ext xW;have n0:=KN.ZT2 0 (.bool false);have n1:=KN.ZT2 1 (.int .i64 0);have n2:=KN.ZT2 2 (.bool false);have n3:=KN.ZT2 3 (.int .i64 0);have n4:=KN.ZT2 4 (.int .i64 0);have n5:=KN.ZT2 5 (.int .i64 0);have n6:=KN.ZT2 6 (.int .i64 0);have hiw:IntKind.i64.wrap ((i:Int)+(P:Int))=(i1:Int):=by have:=Hi1.o;rw[Zaa];omega
 have qf0:b0≠w.heap.size:=by omega
 have qf1:b1≠w.heap.size:=by omega
 have qf2:b2≠w.heap.size:=by omega
 have qf3:b3≠w.heap.size:=by omega
 have qf4:b4≠w.heap.size:=by omega
 have qf6:b6≠w.heap.size:=by omega
 have qn0:b5≠w.heap.size:=by omega
 have qn1:=qn0;have qn2:=qn0;have qn3:=qn0;have qn4:=qn0;have qn5:=qn0;have qn6:=qn0;have hsh:IntKind.i64.wrap (2 ^ min lv 64)=(P:Int):=by rw[<-HP.o];exact ZJN ZB
 have XW:=ZA xW;have HW:=ZA hW;clear k0 k1 k2 k3 k4 k5 k6 KN hX xW hW l0 l1 l2 l3 l4 l5 l6 hi hl kp dX hcl hP8;show Calls Tryz.prog 235 #[.int .i64 z,.int .u64 y,.slice A n c,ZH b0,ZH b1,ZH b2,ZH b3,ZH b6,ZH b4,ZH b5] w _;go_enter Tryz.func235,Tryz.ntmps235;go_upto_region 1 with fail
 (try rw[HW.o])
 clear HW
 go_region_held3 (λw'=>w'.cell? ⟨b0,0,none⟩=some (ZH d.gl)/\w'.cell? ⟨b1,0,none⟩=some (.int .i64 (d.who:Int))/\w'.cell? ⟨b2,0,none⟩=some (.int .i64 (lv:Int))/\w'.cell? ⟨b3,0,none⟩=some (.int .i64 (i:Int))/\w'.cell? ⟨b6,0,none⟩=some (.slice Ah m ch)/\w'.cell? ⟨b5,0,none⟩=some (.bool false)/\w'.cell? ⟨b5,1,none⟩=some (.int .i64 0)/\w'.cell? ⟨b5,2,none⟩=some (.bool false)/\w'.cell? ⟨b5,3,none⟩=some (.int .i64 0)/\w'.cell? ⟨b5,4,none⟩=some (.int .i64 0)/\w'.cell? ⟨b5,5,none⟩=some (.int .i64 0)/\w'.cell? ⟨b5,6,none⟩=some (.int .i64 0)) (((try go_split_ands);exact⟨ZT4,ZT4,ZT4,ZT4,ZT4,ZT4,ZT4,ZT4,ZT4,ZT4,ZT4,ZT4⟩)) ((go_at_call 234;(with_reducible refine MV.o.mono ?_);rintro e w3 ⟨v,rfl,hk,hx⟩;have hx':=(ZL.refl W).drew.trans hx;have HK:=ZA hk;have HXX:=ZA hx';have KR3:=ZA (ZJ K0.o hx');obtain⟨r0,z0,r1,z1,r2,z2,r3,z3,r4,z4,r5,z5,r6,z6⟩:=ZT9 KR3.o;have tf0:=ZG (hx') f0;have tf1:=ZG (hx') f1;have tf2:=ZG (hx') f2;have tf3:=ZG (hx') f3;have tf6:=ZG (hx') f6;have tn0:=ZG (hx') n0;have tn1:=ZG (hx') n1;have tn2:=ZG (hx') n2;have tn3:=ZG (hx') n3;have tn4:=ZG (hx') n4;have tn5:=ZG (hx') n5;have tn6:=ZG (hx') n6;clear hk hx hx'))
 all_goals
  go_wp2_with fail;refine ZcY (ZQ (p:=14) (u:=13) rfl _ _ w.heap.size _ #[.bool false,.int .i64 0,.bool false,.int .i64 0,.int .i64 0,.int .i64 0,.int .i64 0] (0,0) _ rfl (Yf KR3.o _ _ _ _ _ _ _) Tryz.underlying41 ZTw ZC) rfl ?_;exact Yj (r:=Jc) (ZAB HK.o) (XW.o.trans HXX.o) (Zb0 _) _ _ _ _ _ _ _
end Go.Proofs.YtloidkmphigbdaaGreat
