/- Laid together: what 'TopBroken' needs, part 8 of 11. -/
import Derived.Lib.SlBytesConst
import Derived.Defers
import Derived.Shelf.Small.Bits
import Derived.Test.YtloidkmphigbdaaGreatProg
import Derived.Test.YtloidkmphigbdaaGreatBTopBroken1
import Derived.Test.YtloidkmphigbdaaGreatBTopBroken2
import Derived.Test.YtloidkmphigbdaaGreatBTopBroken3
import Derived.Test.YtloidkmphigbdaaGreatBTopBroken4
import Derived.Test.YtloidkmphigbdaaGreatBTopBroken6
import Derived.Test.YtloidkmphigbdaaGreatBTopBroken7
namespace Go.Proofs.YtloidkmphigbdaaGreat
set_option linter.all false
set_option maxHeartbeats 40000000
set_option maxRecDepth 100000
open Go.RowKit
def Zaq := @List.eraseIdx_cons_succ
def ZbD := @List.length_eraseIdx_of_lt
def ZbQ := @List.mem_of_mem_eraseIdx
theorem ZRp:(Tryz.prog.info? 34).map (λi=>(i.zero,i.size,i.bytes))=some (some (.agg #[.int .u8 0,.int .i64 0,.slice none 0 0,.int .i64 0]),4,48):=by kernel_rfl
theorem ZRo:∀u:World,(sizeOf 34).run Tryz.prog u=.ok 4 u:=λ_=>by kernel_rfl
theorem ZGv {ops:Array Oper}{o:Oper}{a:Act}{K:Act->World->Prop}{Q:Exit->Act->World->Prop}{E:Prop}(w:World)(hgd:o.guard=none)(s x:Operand)(ho:o.op=.call {callee:=.builtin .append,args:=#[s,x],argTypes:=#[84,84]}){ob:Option Nat}{v:Value}{n:Nat}{xs:List Value}(hs:a.eval s=v)(h:ZBD w 4 ob v n xs)(hn:n<=1000000){ad:Addr}{c:Nat}{news:List Value}(hx:a.eval x=.slice (some ad) 1 c)(hl:news.length=4)(hr:∀j u,news[j]?=some u->w.cell? (ad.add j)=some u)(h1:∀u ∈ news,u.oneCell'=true)(hK:∀v' w' ob',ZBD w' 4 ob' v' (n+1) (xs++news)->GB w w' (λb=>ob=some b)->(ob'=ob\/ob'=some w.heap.size)->K (a.put o.dst v') w'): if Region.wanted o (yielded ops a.tmps)=true then Oper.wp Tryz.prog o a w K Q else E:=by
 have hw:Region.wanted o (yielded ops a.tmps)=true:=by simp[Region.wanted,hgd]
 rw[Zcg hw];obtain⟨i0,hi,hz0,hz1,hz2⟩:=Zch ZRp;rw[<-hz1]at h hl;obtain⟨v',w',ob',hrun,r1,r2,r3⟩:=ZO9 (P:=Tryz.prog) w 84 o.type 34 i0 _ Tryz.underlying84 hi hz0 (by rw[hz1];rfl) ZB h hn ad c news hl hr h1;rw[hz1]at r1;unfold Oper.wp;simp[execOp,ho,resolve,invoke,builtin,hs,hx,hrun,Result.andThen];exact hK _ _ _ r1 r2 r3
theorem Zu.cells {w:World}{base gc r:Nat}{L:List (Option Nat)}{RO:Zdb}{s:JS}(h:Zu w base L RO gc r s): ∃ao cap ov,w.cell? ⟨gc,1,none⟩=some (.slice ao s.line.length cap)/\w.cell? ⟨gc,2,none⟩=some (.int .i64 (s.fin:Int))/\w.cell? ⟨gc,3,none⟩=some ov/\w.cell? ⟨gc,6,none⟩=some (.bool s.closed)/\(∀i,w.frozen? ⟨gc,i,none⟩=false)/\ZGq w RO ov s.out/\gc<w.heap.size:=by
 obtain⟨S,lv,ov,lob,lk,tk,WA,TA,wn,wc,tn,tc,h1,h2,h3,h4,h5,h6,h7,h8,h9,h10,-⟩:=h;obtain⟨ao,cap,hlv,-,-,-⟩:=h7.shape;rw[hlv]at h3;exact⟨ao,cap,ov,ZE h3 1,ZE h3 2,ZE h3 3,ZE h3 6,λi=>ZF h3 i,h10,ZW h3⟩
theorem Zu.next {w:World}{base gc r:Nat}{L:List (Option Nat)}{RO:Zdb}{s:JS}(h:Zu w base L RO gc r s){c:Z3}{rest:List Z3}(hl:s.line=c::rest): ∃b off cap K kc v',w.cell? ⟨gc,1,none⟩=some (.slice (some ⟨b,off,none⟩) (rest.length+1) cap)/\ w.cell? ⟨b,off,none⟩=some (.int .u8 (c.op:Int))/\w.cell? ⟨b,off+1,none⟩=some (.int .i64 (c.pol:Int))/\w.cell? ⟨b,off+2,none⟩=some (.slice K c.key.length kc)/\w.cell? ⟨b,off+3,none⟩=some (.int .i64 (c.num:Int))/\ c.key.length<=kc/\Rd w K (ZV .u8 c.key)/\(∀u:World,(Instr.slice 84 (.slice (some ⟨b,off,none⟩) (rest.length+1) cap) (some (.int .i64 1)) none none).run Tryz.prog u=.ok v' u)/\(∃ao' cap',v'=.slice ao' rest.length cap')/\ZE8 RO (K,kc)/\ ∀(w1:World) (o:Nat),ZL w w1->w1.heap[o]?=some (.cells (ZCl (K,kc) c).toArray 34 (0,0))->w.heap.size<=o-> ∃L' RO',Zu ((w1.setCell ⟨gc,1,none⟩ v').setCell ⟨gc,3,none⟩ (.pointer (some ⟨o,0,none⟩))) base L' RO' gc r {s with line:=rest,out:=some c}/\(∀b,some b ∈ L'->some b ∈ L)/\∀b,RO' b->RO b\/b=o:=by
 obtain⟨S,lv,ov,lob,lk,tk,WA,TA,wn,wc,tn,tc,h1,h2,h3,h4,h5,h6,h7,h8,h9,h10,h11,h12,h13,h14,h15,h16,h17,h18,h19⟩:=h;have h2':=h2;rw[h1]at h2';obtain⟨a1,a2,a3,a4⟩:=ZBg h2';rw[hl]at h6 h7 h8;obtain⟨k,lk',rfl⟩:∃k lk',lk=k::lk':=by
  cases lk with
  |nil=>simp at h6
  |cons k t=>exact⟨k,t,rfl⟩
 obtain⟨K,kc⟩:=k;obtain⟨ao,cap,hlv,-,-,hrd⟩:=h7.shape;subst hlv;have hcv:ZBf ((K,kc)::lk') (c::rest)=ZCl (K,kc) c++ZBf lk' rest:=by unfold ZBf;rw[Zbo,Zat]
 obtain⟨b,off,rfl,hce⟩:=hrd (by rw[hcv];simp[ZCl]);rw[hcv]at hce h7;obtain⟨v',ob',hrun,hdr,hsub⟩:=ZBD.drop (P:=Tryz.prog) (t:=84) (e:=34) Tryz.underlying84 ZRo h7 1 ZTv rfl;obtain⟨k1,k2⟩:=h8 ((K,kc),c) (by rw[Zbo];exact ZbL);have h7':ZBD w 4 ob' v' rest.length (ZBf lk' rest):=by
  have:(ZCl (K,kc) c++ZBf lk' rest).drop (1*4)=ZBf lk' rest:=by simp[ZCl]
  rw[this]at hdr;simpa using hdr
 refine⟨b,off,cap,K,kc,v',ZE h3 1,hce 0 _ rfl,hce 1 _ rfl,hce 2 _ rfl,hce 3 _ rfl,k1,k2,hrun,by obtain⟨x1,x2,x3,_⟩:=h7'.shape;exact⟨x1,x2,x3⟩,h9 (K,kc) ZbL,λw1 o x ho hsz=>?_⟩;have hgc:=(h19 gc (by rw[h1];simp));have gx:GB w w1 (· =gc):=GB.of_ext _ x;have g1:GB w (w1.setCell ⟨gc,1,none⟩ v') (· =gc):=gx.set gc 1 _ (.inl rfl);have g:GB w ((w1.setCell ⟨gc,1,none⟩ v').setCell ⟨gc,3,none⟩ (.pointer (some ⟨o,0,none⟩))) (· =gc):=g1.set gc 3 _ (.inl rfl);have hog:o≠gc:=λe=>by omega
 have hR:∀b,RO b->¬b=gc:=λb hb e=>(h18 b hb).1 (by rw[h1,e];simp);have hmem:∀b,some b ∈ [some gc,some r,ob',(Value.slice WA wn wc).ownBlock,(Value.slice TA tn tc).ownBlock]->some b ∈ L:=by
  intro b hb;rw[h1];rcases ZbJ.1 hb with e|hb
  ·rw[e];exact ZbL
  ·refine ZbK _ ?_;rcases ZbJ.1 hb with e|hb
   ·rw[e];exact ZbL
   ·refine ZbK _ ?_;rcases ZbJ.1 hb with e|hb
    ·rw[hsub b e.symm];exact ZbL
    ·exact ZbK _ hb
 have hgo:GB w1 ((w1.setCell ⟨gc,1,none⟩ v').setCell ⟨gc,3,none⟩ (.pointer (some ⟨o,0,none⟩))) (· =gc):=((GB.refl w1 (· =gc)).set gc 1 _ (.inl rfl)).set gc 3 _ (.inl rfl);refine⟨[some gc,some r,ob',(Value.slice WA wn wc).ownBlock,(Value.slice TA tn tc).ownBlock],λb=>RO b\/b=o,⟨S,v',.pointer (some ⟨o,0,none⟩),ob',lk',tk,WA,TA,wn,wc,tn,tc,rfl,ZBK a1 (λq e=>a2 q (hsub q e)) (λq e=>⟨(a3 q e).1,(a3 q e).2.1,λe2=>(a3 q e).2.2 (hsub q e2)⟩) (λq e=>⟨(a4 q e).1,(a4 q e).2.1,λe2=>(a4 q e).2.2.1 (hsub q e2),(a4 q e).2.2.2⟩),?_,XH.gb h4 g (λe=>a1 e.symm) (λb hb=>hR b (h5 b hb)),λb hb=>.inl (h5 b hb),by simpa using h6,h7'.gb g (λb e=>(a2 b (hsub b e)).1),?_,λk hk a e=>.inl (h9 k (ZbK _ hk) a e),?_,h11,g.own h12 (λb e=>(a3 b e).1),h13,h14,g.own h15 (λb e=>(a4 b e).1),h16.gbk h17 g hR,λk hk a e=>.inl (h17 k hk a e),λb hb=>?_,λb hb=>?_⟩,hmem,λb e=>e⟩
 ·exact ZU (ZU (ZJ h3 x) 1 _) 3 _
 ·have h8':ZAG w (λc:Z3=>c.key) lk' rest:=λp hp=>h8 p (by rw[Zbo];exact ZbK _ hp);exact h8'.gbk (λk hk=>h9 k (ZbK _ hk)) g hR
 ·exact⟨o,(K,kc),rfl,hgo.blk ho hog,k1,g.rd k2 (λa e=>hR _ (h9 (K,kc) ZbL a e)),.inr rfl,λa e=>.inl (h9 (K,kc) ZbL a e)⟩
 ·rcases hb with hb|rfl
  ·exact⟨λe=>(h18 b hb).1 (hmem b e),(h18 b hb).2.1,Zb5 (h18 b hb).2.2 g.size⟩
  ·refine⟨λe=>?_,by omega,Zb5 (ZW ho) hgo.size⟩;have:=(h19 b (hmem b e)).2;omega
 ·have:=h19 b (hmem b hb);exact⟨this.1,Zb5 this.2 g.size⟩
theorem Zu.close {w:World}{base gc r:Nat}{L:List (Option Nat)}{RO:Zdb}{s:JS}(h:Zu w base L RO gc r s): Zu (w.setCell ⟨gc,6,none⟩ (.bool true)) base L RO gc r {s with closed:=true}:=by
 obtain⟨S,lv,ov,lob,lk,tk,WA,TA,wn,wc,tn,tc,h1,h2,h3,h4,h5,h6,h7,h8,h9,h10,h11,h12,h13,h14,h15,h16,h17,h18,h19⟩:=h;have h2':=h2;rw[h1]at h2';obtain⟨a1,a2,a3,a4⟩:=ZBg h2';have g:GB w (w.setCell ⟨gc,6,none⟩ (.bool true)) (· =gc):=(GB.refl w (· =gc)).set gc 6 _ (.inl rfl);have hR:∀b,RO b->¬b=gc:=λb hb e=>(h18 b hb).1 (by rw[h1,e];simp);exact⟨S,lv,ov,lob,lk,tk,WA,TA,wn,wc,tn,tc,h1,h2,ZU h3 6 _,XH.gb h4 g (λe=>a1 e.symm) (λb hb=>hR b (h5 b hb)),h5,h6,h7.gb g (λb e=>(a2 b e).1),h8.gbk h9 g hR,h9,h10.gbk g hR,h11,g.own h12 (λb e=>(a3 b e).1),h13,h14,g.own h15 (λb e=>(a4 b e).1),h16.gbk h17 g hR,h17,λb hb=>⟨(h18 b hb).1,(h18 b hb).2.1,by simpa using(h18 b hb).2.2⟩,λb hb=>⟨(h19 b hb).1,by simpa using(h19 b hb).2⟩⟩
theorem Zu.bounds {w:World}{base gc r:Nat}{L:List (Option Nat)}{RO:Zdb}{s:JS}(h:Zu w base L RO gc r s):some gc ∈ L/\(∀b,some b ∈ L->base<=b/\b<w.heap.size)/\∀b,RO b->some b ∉ L/\base<=b/\b<w.heap.size:=by
 obtain⟨S,lv,ov,lob,lk,tk,WA,TA,wn,wc,tn,tc,h1,h2,h3,h4,h5,h6,h7,h8,h9,h10,h11,h12,h13,h14,h15,h16,h17,h18,h19⟩:=h;exact⟨by rw[h1];simp,h19,h18⟩
theorem ZE2 {w W w1 w2 w3:World}{base gc r:Nat}{L L1:List (Option Nat)}{RO RO1:Zdb}{s s2:JS}(h:Zu w base L RO gc r s)(x:ZL w W)(hW:w.heap.size<W.heap.size)(k2:GB W w1 (λb=>some b ∈ L))(k3:∀b,some b ∈ L1->some b ∈ L\/W.heap.size<=b)(k4:∀b,RO1 b->RO b\/some b ∈ L\/W.heap.size<=b)(k:Zu w2 base L1 RO1 gc r s2)(g2:GB w1 w2 (· =gc))(g3:GB w2 w3 (· =w.heap.size)):YX w base L RO gc r s2 w3:=by
 obtain⟨b1,b2,b3⟩:=h.bounds;have n1:some w.heap.size ∉ L:=λe=>Zb3 _ (b2 _ e).2;refine⟨L1,RO1,k.gb g3 (λb e=>?_),?_,λb e=>(k3 b e).imp id (λe=>Zb2 x.size e),λb e=>(k4 b e).imp id (λe=>e.imp id (λe=>Zb2 x.size e))⟩
 ·subst e;refine⟨λe=>(k3 _ e).elim (λe=>n1 e) (λe=>by omega),λe=>(k4 _ e).elim (λe=>Zb3 _ (b3 _ e).2.2) (λe=>e.elim (λe=>n1 e) (λe=>by omega))⟩
 ·exact((GB.back x k2).trans g2 (λi e=>.inl (by rw[e];exact b1))).trans g3 (λi e=>.inr (Nat.le_of_eq e.symm))
theorem ZOM (w:World)(base gc r:Nat)(L:List (Option Nat))(RO:Zdb)(s:JS)(h:Zu w base L RO gc r s)(hwr:s.wr.length<=1000000)(ho:s.out=none)(hc:s.closed=false)(hl:s.line=[])(e:Nat)(hf:s.fin=e)(he0:e≠0)(he:e<=16): Calls Tryz.prog 103 #[.pointer (some ⟨gc,0,none⟩)] w λx w'=>∃q B,ZCp (e:Int) false [0,0,0,0] q B/\x=.returned (.tuple #[ZCk,.int .i64 13])/\YX w base L RO gc r {Ju s q B with closed:=true} w':=by
 obtain⟨ao,cap,ov,c1,c2,c3,c6,-,o1,hgl⟩:=h.cells;rw[ho]at o1;obtain rfl:=o1;rw[hc]at c6;rw[hl]at c1;rw[hf]at c2;simp only[ZbE]at c1;have xa:ZL w (w.alloc (.cells #[.int .u8 0,.int .i64 0,.slice none 0 0,.int .i64 0] 34)):=(ZL.refl w).alloc _;have HW:=ZA (ZM w (.cells #[.int .u8 0,.int .i64 0,.slice none 0 0,.int .i64 0] 34));obtain⟨W,hW⟩:=ZTz (w.alloc (.cells #[.int .u8 0,.int .i64 0,.slice none 0 0,.int .i64 0] 34));rw[hW]at xa HW;have d1:W.cell? ⟨gc,1,none⟩=some (.slice ao 0 cap):=ZG xa c1;have d2:W.cell? ⟨gc,2,none⟩=some (.int .i64 (e:Int)):=ZG xa c2;have d3:=ZG xa c3;have d6:=ZG xa c6;have hne:((e:Int) !=0)=true:=by simpa using he0
 have PU:=ZA (λu (x:ZL w u)=>ZKG u base gc r L RO s (h.ext x) hwr e he false 0 0 0 0);have H:=ZA h;have hL0:some w.heap.size ∉ L:=λe=>by
  obtain⟨S,lv,ov,lob,lk,tk,WA,TA,wn,wc,tn,tc,h1,h2,h3,h4,h5,h6,h7,h8,h9,h10,h11,h12,h13,h14,h15,h16,h17,h18,h19⟩:=h;exact Zb3 _ (h19 _ e).2
 have HL0:=ZA hL0;have XA:=ZA xa;clear h hc c1 c2 c3 c6 ho hl hf hL0 xa;go_enter Tryz.func103,Tryz.ntmps103;go_upto_region 1 with fail
 (try rw[hW])
 clear hW;go_wp2_with fail;refine(PU.o _ (by first|exact XA.o|exact XA.o.drew)).mono ?_;rintro x w1 ⟨q,B,hri,rfl,hgo⟩;have HRI:=ZA hri;obtain⟨L1,RO1,k1,k2,k3,k4⟩:=hgo;obtain⟨ao1,cap1,ov1,-,-,-,d6,fz,-,hgl1⟩:=k1.cells;have f6:=fz 6;have K9:=ZA k1.close;have GB1:=ZA k2;have K3:=ZA k3;have K4:=ZA k4;obtain⟨cl,hcl⟩:=ZTz ((Ju s q B).closed);rw[hcl]at d6;clear hcl hri k1 k2 k3 k4 fz d1 d2 d3;have z1:w1.heap[w.heap.size]?=some (.cells #[.int .u8 0,.int .i64 0,.slice none 0 0,.int .i64 0] 34 (0,0)):=GB1.o.blk HW.o HL0.o;have y0:=ZE z1 0;have y1:=ZE z1 1;have y2:=ZE z1 2;have y3:=ZE z1 3;have e0:=ZF z1 0;have e1:=ZF z1 1;have e2:=ZF z1 2;have e3:=ZF z1 3;go_wp2_with fail;have g2:GB w1 (w1.setCell ⟨gc,6,none⟩ (.bool true)) (· =gc):=(GB.refl w1 (· =gc)).set gc 6 _ (.inl rfl);have hng:¬w.heap.size=gc:=by omega
 refine ZcY (Yq (p:=2) (u:=3) rfl _ _ w.heap.size _ #[.int .u8 0,.int .i64 0,.slice none 0 0,.int .i64 0] (0,0) _ rfl (ZU (ZU (ZU (ZU (g2.blk z1 hng) 0 _) 1 _) 2 _) 3 _) Tryz.underlying34 ZTw ZC) rfl ?_;exact⟨q,B,HRI.o,rfl,ZE2 H.o XA.o (ZW HW.o) GB1.o K3.o K4.o K9.o g2 (((((GB.refl _ (· =w.heap.size)).set _ 0 _ (.inl rfl)).set _ 1 _ (.inl rfl)).set _ 2 _ (.inl rfl)).set _ 3 _ (.inl rfl))⟩
theorem cell_far {w:World}{b b' i j:Nat}{v x:Value}(h:w.cell? ⟨b',j,none⟩=some v)(hne:¬b'=b):(w.setCell ⟨b,i,none⟩ x).cell? ⟨b',j,none⟩=some v:=((GB.refl w (· =b)).set b i x (.inl rfl)).cell h hne
theorem ZC9 {w:World}{b b' j:Nat}{v x0 x1 x2 x3:Value}(h:w.cell? ⟨b',j,none⟩=some v)(hne:¬b'=b):((((w.setCell ⟨b,0,none⟩ x0).setCell ⟨b,1,none⟩ x1).setCell ⟨b,2,none⟩ x2).setCell ⟨b,3,none⟩ x3).cell? ⟨b',j,none⟩=some v:=cell_far (cell_far (cell_far (cell_far h hne) hne) hne) hne
theorem X9 {w w1 w2:World}{base gc r:Nat}{L L1:List (Option Nat)}{RO RO1:Zdb}{s2:JS}(k2:GB w w1 (λb=>some b ∈ L))(k3:∀b,some b ∈ L1->some b ∈ L\/w.heap.size<=b)(k4:∀b,RO1 b->RO b\/some b ∈ L\/w.heap.size<=b)(h:YX w1 base L1 RO1 gc r s2 w2):YX w base L RO gc r s2 w2:=by
 obtain⟨L2,RO2,h1,h2,h3,h4⟩:=h;have hs:=k2.size;refine⟨L2,RO2,h1,k2.trans h2 k3,λb e=>?_,λb e=>?_⟩
 ·rcases h3 b e with e|e
  ·exact k3 b e
  ·exact .inr ZB
 ·rcases h4 b e with e|e|e
  ·exact k4 b e
  ·exact .inr (k3 b e)
  ·exact .inr (.inr ZB)
theorem ZFX {α:Type}(f:Jt->α->List Value)(s:Nat)(hf:∀k x,(f k x).length=s):∀(ks:List Jt) (l:List α) (i:Nat),ks.length=l.length->i<l.length->((ks.eraseIdx i).zip (l.eraseIdx i)).flatMap (λp=>f p.1 p.2)=ZOG s ((ks.zip l).flatMap λp=>f p.1 p.2) i
 |[],[],_,_,h=>by simp at h
 |[],_::_,_,h,_=>by cases h
 |_::_,[],_,h,_=>by cases h
 |k::ks,x::l,0,_,_=>by
  unfold ZOG;rw[Zbo,Zat,ZcM,Zbn,ZcK,Zam (hf k x)];rfl
 |k::ks,x::l,i+1,h,hi=>by
  have ih:=ZFX f s hf ks l i (by simpa using h) (by simpa using hi);unfold ZOG at ih ⊢;rw[Zaq,Zaq,Zbo,Zat,ih,Zbo,Zat,<-Zae];have h1:(f k x++(ks.zip l).flatMap λp=>f p.1 p.2).take ((i+1)*s)=f k x++((ks.zip l).flatMap λp=>f p.1 p.2).take (i*s):=by
   rw[show(i+1)*s=(f k x).length+i*s by rw[hf,Zbt,ZcH,Zbq],List.take_length_add_append]
  have h2:(f k x++(ks.zip l).flatMap λp=>f p.1 p.2).drop ((i+1)*s+s)=((ks.zip l).flatMap λp=>f p.1 p.2).drop (i*s+s):=by
   rw[show(i+1)*s+s=(f k x).length+(i*s+s) by rw[hf,Zbt,ZcH];omega,List.drop_length_add_append]
  rw[h1,h2]
theorem ZDH {α β:Type}:∀(ks:List α) (l:List β) (i:Nat),ks.length=l.length->∀p ∈ (ks.eraseIdx i).zip (l.eraseIdx i),p ∈ ks.zip l
 |[],[],_,_,p,h=>by simp at h
 |[],_::_,_,h,_,_=>by cases h
 |_::_,[],_,h,_,_=>by cases h
 |k::ks,x::l,0,_,p,hp=>by
  rw[Zbo];exact ZbK _ hp
 |k::ks,x::l,i+1,h,p,hp=>by
  rw[Zaq,Zaq,Zbo]at hp;rw[Zbo];rcases ZbJ.1 hp with hp|hp
  ·rw[hp];exact ZbL
  ·exact ZbK _ (ZDH ks l i (by simpa using h) p hp)
theorem ZOu {ks:List Jt}{l:List ZBF}:∀u ∈ ZBn ks l,u.oneCell'=true:=λu hu=>by
 unfold ZBn at hu;obtain⟨p,_,hp⟩:=ZbM.1 hu;simp[ZKp]at hp;rcases hp with rfl|rfl|rfl<;>rfl
theorem ZPv {c:Z3}:∀{l:List ZBF} {i:Nat},ZGM c l=some i->i<l.length
 |[],_,h=>by cases h
 |t::l,i,h=>by
  unfold ZGM at h
  split at h
  ·injection h with h;subst h;simp
  ·cases hx:ZGM c l with
   |none=>rw[hx]at h;cases h
   |some j=>
    rw[hx]at h;injection h with h;subst h;have:=ZPv hx;simpa using this
def JG (s:JS)(c:Z3)(e sn:Int)(B:List Nat):JS:=if e=0 then
  (if c.op=2 then {Ju s 0 B with out:=none,led:=s.led++[⟨(c.pol:Int),c.key,sn⟩]}
  else if c.op=3 then {Ju s 0 B with out:=none,led:=match ZGM c s.led with|none=>s.led|some i=>s.led.eraseIdx i}
  else {Ju s 0 B with out:=none})
 else {Ju s 0 B with out:=none}
theorem ZBG (s:JS)(q:Int)(B:List Nat):(Ju s q B).led=s.led:=by unfold Ju;split<;>rfl
theorem ZM5 (s:JS)(q:Int)(B:List Nat):(Ju s q B).out=s.out:=by unfold Ju;split<;>rfl
theorem ZM6 (s:JS)(B:List Nat):Ju s 1 B=s:=by unfold Ju;rw[Zcf ZB]
def ZSz (w:World)(base:Nat)(L:List (Option Nat))(RO:Zdb)(gc r:Nat)(s:JS)(c:Z3)(e:Int)(g:Bool)(N:List Int)(sn:Int)(x:Ending)(w':World):Prop:=∃q B,ZCp e g N q B/\x=.returned (.int .i64 q)/\YX w base L RO gc r (if q=0 then JG s c e sn B else s) w'
theorem ZKF (w:World)(base gc r:Nat)(L:List (Option Nat))(RO:Zdb)(s:JS)(h:Zu w base L RO gc r s)(hi:ZBk s)(hwr:s.wr.length<=1000000)(hled:s.led.length<=100000 - 1)(c:Z3)(ho:s.out=some c)(e:Nat)(he:e<=16)(g:Bool)(l t sn nw:Int): Calls Tryz.prog 104 #[.pointer (some ⟨gc,0,none⟩),.agg #[.int .i64 (e:Int),.bool g,.int .i64 l,.int .i64 t,.int .i64 sn,.int .i64 nw]] w (ZSz w base L RO gc r s c (e:Int) g [l,t,sn,nw] sn):=by
 obtain⟨W,hW⟩:=ZTz (w.alloc (.cells #[.int .i64 (e:Int),.bool g,.int .i64 l,.int .i64 t,.int .i64 sn,.int .i64 nw] 39));have xW:ZL w W:=by rw[<-hW];exact(ZL.refl w).alloc _
 have KP:=ZA (show W.heap[w.heap.size]?=some (.cells #[.int .i64 (e:Int),.bool g,.int .i64 l,.int .i64 t,.int .i64 sn,.int .i64 nw] 39 (0,0)) by rw[<-hW];exact ZM w _);have PU:=ZA (ZKG W base gc r L RO s (h.ext xW) hwr e he g l t sn nw);obtain⟨ao,cp,ov,-,-,d3,-,-,o1,-⟩:=(h.ext xW).cells;rw[ho]at o1;obtain⟨o,kk,rfl,-⟩:=o1;have hL0:some w.heap.size ∉ L:=λe=>Zb3 _ (h.bounds.2.1 _ e).2;have HL0:=ZA hL0;have XW:=ZA xW;have H:=ZA h;have HI:=ZA hi;have HO:=ZA ho;clear h hi ho xW hL0;go_enter Tryz.func104,Tryz.ntmps104;go_upto_region 1 with fail
 (try rw[hW])
 clear hW;have p0:=ZTx KP.o 0 (.int .i64 (e:Int));have p1:=ZTx KP.o 1 (.bool g);have p2:=ZTx KP.o 2 (.int .i64 l);have p3:=ZTx KP.o 3 (.int .i64 t);have p4:=ZTx KP.o 4 (.int .i64 sn);have p5:=ZTx KP.o 5 (.int .i64 nw);go_wp2_with fail;refine PU.o.mono ?_;rintro x w1 ⟨q,B,hri,rfl,L1,RO1,k1,k2,k3,k4⟩;have HRI:=ZA hri;have K1:=ZA k1;have K2:=ZA k2;have K3:=ZA k3;have K4:=ZA k4;have kp:=k2.blk KP.o HL0.o;have KP1:=ZA kp;clear p0 p1 p2 p3 p4 p5 d3 k2 k3 k4;rcases hri with⟨rfl,rfl,-⟩|⟨rfl,-⟩
 ·clear k1 kp;go_wp2_with fail;go_ret;refine⟨1,[],HRI.o,rfl,?_⟩;rw[Zcf ZB];have:=K1.o;rw[ZM6]at this;exact YX.back XW.o ⟨L1,RO1,this,K2.o,K3.o,K4.o⟩
 ·obtain⟨ao1,cp1,ov1,-,-,d3,-,fz,o1,hgl⟩:=k1.cells;rw[ZM5,HO.o]at o1;obtain⟨o',⟨K,kc⟩,rfl,hblk,hkc,hrd,hro,hki⟩:=o1;have f3:=fz 3;obtain⟨op,pol,key,num⟩:=c
  dsimp only[ZCl]at hblk hkc hrd
  obtain⟨m,Hm⟩:=ZTy (key.length);rw[Hm.o]at hkc hblk;have u0:=ZTx hblk 0 (.int .u8 (op:Int));have u1:=ZTx hblk 1 (.int .i64 (pol:Int));have u2:=ZTx hblk 2 (.slice K m kc);have u3:=ZTx hblk 3 (.int .i64 (num:Int));obtain⟨V,hV⟩:=ZTz (w1.alloc (.cells #[.int .u8 (op:Int),.int .i64 (pol:Int),.slice K m kc,.int .i64 (num:Int)] 34));have xV:ZL w1 V:=by rw[<-hV];exact(ZL.refl w1).alloc _
  have KV:=ZA (show V.heap[w1.heap.size]?=some (.cells #[.int .u8 (op:Int),.int .i64 (pol:Int),.slice K m kc,.int .i64 (num:Int)] 34 (0,0)) by rw[<-hV];exact ZM w1 _);have hng:¬w1.heap.size=gc:=by omega
  have hng0:¬w.heap.size=gc:=λe=>HL0.o (by rw[e];exact H.o.bounds.1);have e3:=ZG xV d3;have h3:=ZAc xV d3 f3;obtain⟨kX,gX⟩:=(k1.ext xV).outNone;clear k1 kp;go_upto_region 10 with fail
  (try rw[hV])
  clear hV u0 u1 u2 u3 d3 f3;go_upto_region 11 with fail;obtain⟨X,hX⟩:=ZTz (V.setCell ⟨gc,3,none⟩ (.pointer none));rw[hX]at kX gX
  (try rw[hX])
  have x8:=gX.blk KV.o hng;have x3:=gX.blk (ZJ KP1.o xV) hng0;have a0:=ZTx x8 0 (.int .u8 (op:Int));have b0:=ZTx x3 0 (.int .i64 (e:Int));have gwX:GB w1 X (· =gc):=GB.back xV gX;have GO1:=ZA (λ(s2:JS) (w2:World) (hh:YX X base L1 RO1 gc r s2 w2)=>YX.back XW.o (X9 K2.o K3.o K4.o (X9 (L1:=L1) (RO1:=RO1) (gwX.more (λb _ e=>by rw[e];exact K1.o.bounds.1)) (λb e=>.inl e) (λb e=>.inl e) hh)));have KX:=ZA kX;have X8:=ZA x8;have X3:=ZA x3;have HKR:=ZA (gX.rd (hrd.ext xV) (λp hp e=>(K1.o.bounds.2.2 _ (hki p hp)).1 (by rw[e];exact K1.o.bounds.1)));have HKI:=ZA hki;clear hX e3 h3 kX gX x8 x3 gwX hrd hki fz hblk hro xV;by_cases he0:e=0
  ·subst he0;by_cases h2:op=2
   ·subst h2;have LG:=KX.o.ledger
    dsimp only at LG
    rw[ZBG]at LG;obtain⟨TA,tc,tk,c5,f5,hnb,ow,htk,hkr,hkin,hbX,hmem,step⟩:=LG;obtain⟨n,Hn⟩:=ZTy (s.led.length);rw[Hn.o]at c5 hnb ow htk hmem step hled;have a1:=ZTx X8.o 1 (.int .i64 (pol:Int));have a2:=ZTx X8.o 2 (.slice K m kc);have b4:=ZTx X3.o 4 (.int .i64 sn);have C5:=ZA c5;have OW:=ZA ow;have STEP:=ZA step;have NB:=ZA hnb;have HTK:=ZA htk;have HKRD:=ZA hkr;have HKIN:=ZA hkin;have nb8:(Value.slice TA n tc).ownBlock≠some w1.heap.size:=λe=>Zb3 _ (K1.o.bounds.2.1 _ (hmem _ e)).2;have nb3:(Value.slice TA n tc).ownBlock≠some w.heap.size:=λe=>(K3.o _ (hmem _ e)).elim HL0.o (λe=>by have:=ZW KP.o;omega);clear ow step hnb htk hkr hkin hmem;go_upto_region 15 with fail;refine JZ (λu=>u.cell? ⟨gc,5,none⟩=some (.slice TA n tc)/\u.cell? ⟨w1.heap.size,1,none⟩=some (.int .i64 (pol:Int))/\u.cell? ⟨w1.heap.size,2,none⟩=some (.slice K m kc)/\u.cell? ⟨w.heap.size,4,none⟩=some (.int .i64 sn)) [16] ZC ?_;have hHeld:=And.intro (ZK c5) (And.intro (ZK a1) (And.intro (ZK a2) (ZK b4)));have XD:ZL X X.drew:=(ZL.refl X).drew;clear a0 b0 a1 a2 b4 c5;generalize X.drew=U at XD hHeld ⊢;refine ZT0 (i:=0) (v:=?_) rfl (Or.inl ⟨by rfl,?_⟩) (YL.of hHeld) ?_
    rotate_left
    ·intro w _;go_simp
     (try with_reducible rfl)
    (try simp only[Act.put])
    refine ZT0 (i:=1) (v:=?_) rfl (Or.inl ⟨by rfl,?_⟩) (YL.of hHeld) ?_
    rotate_left
    ·intro w _;go_simp
     (try with_reducible rfl)
    (try simp only[Act.put])
    refine ZT0 (i:=2) (v:=?_) rfl (Or.inl ⟨by rfl,?_⟩) (YL.of hHeld) ?_
    rotate_left
    ·intro w _;go_simp
     (try with_reducible rfl)
    (try simp only[Act.put])
    refine ZT0 (i:=3) (v:=?_) rfl (Or.inl ⟨by rfl,?_⟩) (YL.of hHeld) ?_
    rotate_left
    ·intro w _;go_simp
     (try with_reducible rfl)
    (try simp only[Act.put])
    refine ZT0 (i:=5) (v:=?_) rfl (Or.inl ⟨by rfl,?_⟩) (YL.of hHeld) ?_
    rotate_left
    ·intro w _;go_simp
     (try with_reducible rfl)
    (try simp only[Act.put])
    refine ZT0 (i:=7) (v:=?_) rfl (Or.inl ⟨by rfl,?_⟩) (YL.of hHeld) ?_
    rotate_left
    ·intro w _;go_simp
     (try with_reducible rfl)
    (try simp only[Act.put])
    refine ZT0 (i:=9) (v:=?_) rfl (Or.inl ⟨by rfl,?_⟩) (YL.of hHeld) ?_
    rotate_left
    ·intro w _;go_simp
     (try with_reducible rfl)
    (try simp only[Act.put])
    refine ZT1 (i:=4) (v:=?_) rfl (Or.inl ⟨by rfl,?_⟩) (by assumption) ?_
    rotate_left
    ·intro w hSw;(try dsimp only at hSw);go_simp
     (try with_reducible rfl)
    (try simp only[Act.put])
    refine ZT1 (i:=6) (v:=?_) rfl (Or.inl ⟨by rfl,?_⟩) (by assumption) ?_
    rotate_left
    ·intro w hSw;(try dsimp only at hSw);go_simp
     (try with_reducible rfl)
    (try simp only[Act.put])
    refine ZT1 (i:=8) (v:=?_) rfl (Or.inl ⟨by rfl,?_⟩) (by assumption) ?_
    rotate_left
    ·intro w hSw;(try dsimp only at hSw);go_simp
     (try with_reducible rfl)
    (try simp only[Act.put])
    refine ZT1 (i:=10) (v:=?_) rfl (Or.inl ⟨by rfl,?_⟩) (by assumption) ?_
    rotate_left
    ·intro w hSw;(try dsimp only at hSw);go_simp
     (try with_reducible rfl)
    (try simp only[Act.put])
    refine ZT0 (i:=11) (v:=?_) rfl (Or.inl ⟨by rfl,?_⟩) (YL.of hHeld) ?_
    rotate_left
    ·intro w _;go_simp
     (try with_reducible rfl)
    (try simp only[Act.put])
    refine ZY (rs:=[12]) ZC ZTv (ZN.cons (o:=_) rfl (λK' hK=>?_) ZN.nil);have c5:=hHeld.1;have a1:=hHeld.2.1;have a2:=hHeld.2.2.1;have b4:=hHeld.2.2.2
    go_simp
    have yU:ZL U (U.alloc (.cells #[.int .i64 (pol:Int),.slice K m kc,.int .i64 sn] 120)):=(ZL.refl U).alloc _;have yX:=XD.trans yU;refine hK.out _ _ ⟨ZG yU c5,ZG yU a1,ZG yU a2,ZG yU b4⟩ ?_;clear hK K'
    (try simp only[Act.put])
    have e5:=ZG yU c5;have e1:=ZG yU a1;have e2:=ZG yU a2;have e4:=ZG yU b4;have f5Y:=ZAc yX C5.o f5;have OWY:=ZA (YB OW.o yX);have RDY:=ZA (show Rd (U.alloc (.cells #[.int .i64 (pol:Int),.slice K m kc,.int .i64 sn] 120)) (some ⟨U.heap.size,0,none⟩) [.int .i64 (pol:Int),.slice K m kc,.int .i64 sn]from ZAU U [.int .i64 (pol:Int),.slice K m kc,.int .i64 sn] _ rfl);have hbY:=Zb2 hbX yX.size;refine ZY (rs:=[13]) ZC ZTv (ZN.cons (o:=_) rfl (λK' hK=>?_) ZN.nil);refine ZDq (U.alloc (.cells #[.int .i64 (pol:Int),.slice K m kc,.int .i64 sn] 120)) rfl (.tmp 57) (.tmp 65) rfl base ZTw OWY.o ZTw RDY.o rfl rfl rfl ZB hbY ?_;intro B' cb' w6 o6 g6 b6;have nb5:=NB.o;have q5:=g6.cell e5 nb5.symm;have q1:=g6.cell e1 nb8.symm;have q2:=g6.cell e2 nb8.symm;have q4:=g6.cell e4 nb3.symm;have F5:=ZB2 g6 e5 f5Y nb5;have O6:=ZA o6;have G6:=ZA g6;have B6:=ZA b6;clear o6 g6 b6;refine hK.out _ _ ⟨q5,q1,q2,q4⟩ ?_;clear hK K'
    (try simp only[Act.put])
    refine ZY (rs:=[14]) ZC ZTv (ZN.cons (o:=_) rfl (λK' hK=>?_) ZN.nil)
    go_simp
    refine hK.out _ _ ⟨q5,q1,q2,q4⟩ ?_;clear hK K'
    (try simp only[Act.put])
    refine ZY (rs:=[15]) ZC ZTv (ZN.cons (o:=_) rfl (λK' hK=>?_) ZN.nil)
    go_simp
    refine hK.out _ _ ⟨q5,q1,q2,q4⟩ ?_;clear hK K'
    (try simp only[Act.put])
    refine ZY (rs:=[16]) ZC ZTv (ZN.last (o:=_) ZC rfl (λK' hK=>?_) ZN.nil)
    go_simp
    refine hK.out _ _ ?_;clear hK K'
    (try simp only[Act.put])
    refine Ja ZC ?_ _;go_wp2_with fail;go_ret;refine⟨0,B,HRI.o,rfl,?_⟩;rw[Zcg rfl];unfold JG
    dsimp only
    rw[Zcg ZTw,Zcg ZTw];refine GO1.o _ _ ?_;have o6:=O6.o;rw[<-Hm.o]at o6;have hlen:tk.length=s.led.length:=by rw[HTK.o,Hn.o]
    have:=STEP.o B' (n+1) cb' w6 (s.led++[⟨(pol:Int),key,sn⟩]) (tk++[(K,kc)]) (by simp[Hn.o]) (by simp[HTK.o,Hn.o]) (by unfold ZBn;rw[ZEL ZKp hlen (K,kc) ⟨(pol:Int),key,sn⟩];exact o6) (HKRD.o.snoc hlen (by dsimp only;rw[Hm.o];exact hkc) HKR.o) (λk hk=>by
     rcases ZbI.1 hk with hk|hk
     ·exact HKIN.o k hk
     ·rw[ZbU.1 hk];exact HKI.o) (((GB.refl X _).ext (XD.trans yU)).grown G6.o (λq e=>.inl e)) (λb e=>by
     rcases B6.o with h9|h9
     ·exact .inl (h9 ▸ e)
     ·rw[h9]at e;injection e with e;exact .inr (by rw[<-e];exact(XD.trans yU).size))
    exact this
   ·by_cases h3:op=3
    ·subst h3;have LG:=KX.o.ledger
     dsimp only at LG
     rw[ZBG]at LG;obtain⟨TA,tc,tk,c5,f5,hnb,ow,htk,hkr,hkin,hbX,hmem,step⟩:=LG;obtain⟨n,Hn⟩:=ZTy (s.led.length);have IX:=ZA (ZL2 X TA n tc s.led tk w1.heap.size kc m pol num 3 K key Hn.o (by have:=Hn.o;omega) ⟨htk,ZMZ ow,hkr⟩ HI.o.2.2.2.2 X8.o Hm.o (HI.o.2.2.1 _ HO.o).2.1 HKR.o);rw[Hn.o]at c5 hnb ow htk hmem step hled;have C5:=ZA c5;have OW:=ZA ow;have STEP:=ZA step;have NB:=ZA hnb;have HTK:=ZA htk;have HKRD:=ZA hkr;have HKIN:=ZA hkin;clear ow step hnb htk hkr hkin hmem h2;have hlen:ZD (tk.length=s.led.length):=by rw[ZD,HTK.o,Hn.o]
     cases hx:ZGM ⟨3,pol,key,num⟩ s.led with
     |none=>
      rw[hx]at IX;have HX:=ZA hx;clear hx;unfold ZSk at IX
      dsimp only at IX
      go_wp2_with fail;refine IX.o.mono ?_;rintro e w5 ⟨rfl,x5⟩;go_wp2_with fail;go_ret;refine⟨0,B,HRI.o,rfl,?_⟩;rw[Zcg rfl];unfold JG
      dsimp only
      rw[Zcg ZTw,Zcf ZB,Zcg ZTw,HX.o]
      dsimp only
      have:=GO1.o _ _ (YX.refl KX.o x5);rw[ZBG]at this;exact this
     |some i=>
      rw[hx]at IX;have HX:=ZA hx;have hin:i<n:=by rw[<-Hn.o];exact ZPv hx
      clear hx;unfold ZSk at IX
      dsimp only at IX
      go_wp2_with fail;refine IX.o.mono ?_;rintro e w5 ⟨rfl,x5⟩;have d5:=ZG x5 c5;have g5:=ZAc x5 c5 f5;have DL:=ZA (ZNA w5 base TA n tc i (ZBn tk s.led) ZOu ZB hin (YB OW.o x5));have X5:=ZA x5;clear x5 c5 f5;go_wp2_with fail;refine DL.o.mono ?_;rintro e w7 ⟨rfl,o7,g7⟩;have O7:=ZA o7;have G7:=ZA g7;have q5:=g7.cell d5 NB.o.symm;have F5:=ZB2 g7 d5 g5 NB.o;clear o7 g7 d5 g5;go_wp2_with fail;go_ret;refine⟨0,B,HRI.o,rfl,?_⟩;rw[Zcg rfl];unfold JG
      dsimp only
      rw[Zcg ZTw,Zcf ZB,Zcg ZTw,HX.o]
      dsimp only
      refine GO1.o _ _ ?_;have hi9:i<s.led.length:=by rw[Hn.o];exact hin
      have:=STEP.o TA (n - 1) tc w7 (s.led.eraseIdx i) (tk.eraseIdx i) (by rw[ZbD hi9,Hn.o]) (by rw[ZbD hi9,ZbD (by rw[hlen.out];exact hi9),hlen.out]) (by unfold ZBn;rw[ZFX ZKp 3 (λ_ _=>rfl) tk s.led i hlen.out hi9];exact O7.o) (λp hp=>HKRD.o p (ZDH tk s.led i hlen.out p hp)) (λk hk=>HKIN.o k (ZbQ hk)) (((GB.refl X _).ext X5.o).grown G7.o (λq e=>.inl e)) (λb e=>.inl (by cases TA<;>exact e));exact this
    ·have n2:((op:Int)==2)=false:=by simp;omega
     have n3:((op:Int)==3)=false:=by simp;omega
     have N2:=ZA h2;have N3:=ZA h3;clear h2 h3;go_wp2_with fail;go_ret;refine⟨0,B,HRI.o,rfl,?_⟩;rw[Zcg rfl];unfold JG
     dsimp only
     rw[Zcg ZTw,Zcf N2.o,Zcf N3.o];exact GO1.o _ _ (YX.refl KX.o (ZL.refl _))
  ·have ne:((e:Int) !=0)=true:=by simpa using he0
   have NE:=ZA he0;clear he0;go_wp2_with fail;go_ret;refine⟨0,B,HRI.o,rfl,?_⟩;rw[Zcg rfl];unfold JG;rw[Zcf (by have:=NE.o;omega)];exact GO1.o _ _ (YX.refl KX.o (ZL.refl _))
theorem PL.gb {w w':World}{base:Nat}{A:Option Addr}{n c:Nat}{pss:List (List Nat)}{T:Zdb}(h:PL w base A n c pss)(g:GB w w' T)(hT:∀b,T b->b<base):PL w' base A n c pss:=by
 obtain⟨h1,vs,gs,h2,h3,h4,h5,h6⟩:=h;refine⟨h1,vs,gs,g.own h2 (λb e t=>by have:=(h2.lt b e).1;have:=hT b t;omega),h3,h4,λb hb=>Zb5 (h5 b hb) g.size,λi ps hi=>?_⟩;obtain⟨q,ci,k1,k2,k3⟩:=h6 i ps hi;exact⟨q,ci,k1,k2,g.own k3 (λb e t=>by have:=(k3.lt b e).1;have:=hT b t;omega)⟩
def ZIf (ws:List Nat):Nat:=if (Zy ws).2.2=true then 12 else 0
theorem ZQA (ws:List Nat):((ZIf ws:Nat):Int)=ZQC ws:=by
 unfold ZIf ZQC
 split<;>rfl
theorem Zu.fed {w:World}{base gc r:Nat}{L:List (Option Nat)}{RO:Zdb}{s:JS}(h:Zu w base L RO gc r s): w.cell? ⟨gc,0,none⟩=some (.pointer (some ⟨r,0,none⟩))/\w.cell? ⟨gc,2,none⟩=some (.int .i64 (s.fin:Int))/\w.cell? ⟨gc,6,none⟩=some (.bool s.closed)/\(∃S,XH w r s.ws s.cl S)/\gc≠r/\some r ∈ L/\ ∀(w1:World) (ws:List Nat) (cl:Bool) (S:Nat),w.grownBy w1 (some r)->S<=w1.heap.size->XH w1 r ws cl (λb=>w.heap.size<=b/\b<S)->Zu w1 base L (λb=>RO b\/(w.heap.size<=b/\b<S)) gc r {s with ws:=ws,cl:=cl}:=by
 obtain⟨S0,lv,ov,lob,lk,tk,WA,TA,wn,wc,tn,tc,h1,h2,h3,h4,h5,h6,h7,h8,h9,h10,h11,h12,h13,h14,h15,h16,h17,h18,h19⟩:=h;have h2':=h2;rw[h1]at h2';obtain⟨a1,a2,a3,a4⟩:=ZBg h2';have hrL:some r ∈ L:=by rw[h1];simp
 refine⟨ZE h3 0,ZE h3 2,ZE h3 6,⟨S0,h4⟩,a1,hrL,λw1 ws cl S g1 hS hr=>?_⟩;have g:GB w w1 (· =r):=(GB.refl w _).grown g1 (λq e=>by injection e with e;exact .inl e.symm);have hR:∀b,RO b->¬b=r:=λb hb e=>(h18 b hb).1 (by rw[h1,e];simp);have hgc:=(h19 gc (by rw[h1];simp));refine⟨λb=>w.heap.size<=b/\b<S,lv,ov,lob,lk,tk,WA,TA,wn,wc,tn,tc,h1,h2,g.blk h3 a1,hr,λb hb=>.inr hb,h6,h7.gb g (λb e=>(a2 b e).2),h8.gbk h9 g hR,λk hk a e=>.inl (h9 k hk a e),?_,h11,g.own h12 (λb e=>(a3 b e).2.1),h13,h14,g.own h15 (λb e=>(a4 b e).2.1),h16.gbk h17 g hR,λk hk a e=>.inl (h17 k hk a e),λb hb=>?_,λb hb=>⟨(h19 b hb).1,Zb5 (h19 b hb).2 g.size⟩⟩
 ·have o1:=h10.gbk g hR;revert o1;cases s.out with
  |none=>exact id
  |some c=>
   rintro⟨o,k,e1,e2,e3,e4,e5,e6⟩;exact⟨o,k,e1,e2,e3,e4,.inl e5,λa e=>.inl (e6 a e)⟩
 ·rcases hb with hb|hb
  ·exact⟨(h18 b hb).1,(h18 b hb).2.1,Zb5 (h18 b hb).2.2 g.size⟩
  ·exact⟨λe=>by have:=(h19 b e).2;omega,by omega,by omega⟩
theorem Zu.lines {w:World}{base gc r:Nat}{L:List (Option Nat)}{RO:Zdb}{s:JS}(h:Zu w base L RO gc r s): ∃(lv:Value) (lob:Option Nat) (lk:List Jt),w.cell? ⟨gc,1,none⟩=some lv/\w.frozen? ⟨gc,1,none⟩=false/\(∀b,lob=some b->some b ∈ L/\b≠gc)/\ZBD w 4 lob lv s.line.length (ZBf lk s.line)/\lk.length=s.line.length/\ ∀(w3:World) (v':Value) (ob':Option Nat) (K:Option Addr) (kc:Nat) (c:Z3),ZBD w3 4 ob' v' (s.line.length+1) (ZBf lk s.line++ZCl (K,kc) c)->GB w w3 (λb=>lob=some b)->(∀b,ob'=some b->lob=some b\/w.heap.size<=b)-> c.key.length<=kc->Rd w3 K (ZV .u8 c.key)->(∀a,K=some a->some a.block ∉ L/\base<=a.block/\a.block<w.heap.size)-> Zu (w3.setCell ⟨gc,1,none⟩ v') base ([some gc,some r,ob']++L.drop 3) (λb=>RO b\/∃a,K=some a/\a.block=b) gc r {s with line:=s.line++[c]}/\GB w (w3.setCell ⟨gc,1,none⟩ v') (λb=>some b ∈ L)/\∀b,some b ∈ [some gc,some r,ob']++L.drop 3->some b ∈ L\/w.heap.size<=b:=by
 obtain⟨S,lv,ov,lob,lk,tk,WA,TA,wn,wc,tn,tc,h1,h2,h3,h4,h5,h6,h7,h8,h9,h10,h11,h12,h13,h14,h15,h16,h17,h18,h19⟩:=h;rw[h1]at h2;obtain⟨a1,a2,a3,a4⟩:=ZBg h2;have hgcl:=(h19 gc (by rw[h1];simp));have hwL:∀b,lob=some b->some b ∈ L:=λb e=>by rw[h1,<-e];simp
 refine⟨lv,lob,lk,ZE h3 1,ZF h3 1,λb e=>⟨hwL b e,(a2 b e).1⟩,h7,h6,λw3 v' ob' K kc c ho g hb hkc hkr hK=>?_⟩;have g2:GB w (w3.setCell ⟨gc,1,none⟩ v') (λb=>b=gc\/lob=some b):=(g.more (λb _ e=>.inr e)).trans ((GB.refl w3 (· =gc)).set gc 1 _ (.inl rfl)) (λb e=>.inl (.inl e));have gs:GB w3 (w3.setCell ⟨gc,1,none⟩ v') (· =gc):=(GB.refl w3 (· =gc)).set gc 1 _ (.inl rfl);have hR:∀b,RO b->¬(b=gc\/lob=some b):=λb hb e=>(h18 b hb).1 (e.elim (λe=>by rw[h1,e];simp) (hwL b));have hsz:=g.size;have hlt:∀b,some b ∈ L->b<w.heap.size:=λb e=>(h19 b e).2;have hnew:∀q,ob'=some q->q≠gc/\q≠r:=λq e=>(hb q e).elim (λe=>a2 q e) (λe=>⟨λe2=>by omega,λe2=>by have:=(h19 r (by rw[h1];simp)).2;omega⟩);have hnot:∀q,ob'=some q->(Value.slice WA wn wc).ownBlock≠some q/\(Value.slice TA tn tc).ownBlock≠some q:=λq e=>(hb q e).elim (λe=>⟨λe2=>(a3 q e2).2.2 e,λe2=>(a4 q e2).2.2.1 e⟩) (λe=>⟨λe2=>by have:=(h19 q (by rw[h1,<-e2];simp)).2;omega,λe2=>by have:=(h19 q (by rw[h1,<-e2];simp)).2;omega⟩);have hL':[some gc,some r,ob']++L.drop 3=[some gc,some r,ob',(Value.slice WA wn wc).ownBlock,(Value.slice TA tn tc).ownBlock]:=by rw[h1];rfl
 have hmem:∀b,some b ∈ [some gc,some r,ob']++L.drop 3->some b ∈ L\/w.heap.size<=b:=λb hb'=>by
  rw[hL']at hb';rcases ZbJ.1 hb' with e|hb'
  ·exact .inl (by rw[e,h1];simp)
  ·rcases ZbJ.1 hb' with e|hb'
   ·exact .inl (by rw[e,h1];simp)
   ·rcases ZbJ.1 hb' with e|hb'
    ·exact(hb b e.symm).imp (hwL b) id
    ·exact .inl (by rw[h1];exact ZbK _ (ZbK _ (ZbK _ hb')))
 have hKg:∀a,K=some a->¬a.block=gc:=λa e e2=>(hK a e).1 (by rw[e2,h1];simp);have hKb:∀a,K=some a->¬(some a.block ∈ [some gc,some r,ob']++L.drop 3):=λa e e2=>(hmem _ e2).elim (hK a e).1 (λe3=>by have:=(hK a e).2.2;omega);refine⟨?_,g2.more (λb _ e=>e.elim (λe=>by rw[h1,e];simp) (hwL b)),hmem⟩;refine⟨S,v',ov,ob',lk++[(K,kc)],tk,WA,TA,wn,wc,tn,tc,hL',?_,ZU (g.blk h3 (λe=>(a2 gc e).1 rfl)) 1 _,XH.gb h4 g2 (λe=>e.elim (λe=>a1 e.symm) (λe=>(a2 r e).2 rfl)) (λb hb=>hR b (h5 b hb)),λb hb=>.inl (h5 b hb),by simp[h6],?_,?_,?_,?_,h11,g2.own h12 (λb e e2=>e2.elim (λe2=>(a3 b e).1 e2) (λe2=>(a3 b e).2.2 e2)),h13,h14,g2.own h15 (λb e e2=>e2.elim (λe2=>(a4 b e).1 e2) (λe2=>(a4 b e).2.2.1 e2)),h16.gbk h17 g2 hR,λk hk a e=>.inl (h17 k hk a e),λb hbR=>?_,λb hbL=>?_⟩
 ·rw[hL'];exact ZBK a1 hnew (λq e=>⟨(a3 q e).1,(a3 q e).2.1,λe2=>(hnot q e2).1 e⟩) (λq e=>⟨(a4 q e).1,(a4 q e).2.1,(λe2=>(hnot q e2).2 e),(a4 q e).2.2.2⟩)
 ·rw[Za9];have:=ho.gb gs (λb e=>(hnew b e).1);unfold ZBf at this ⊢;rw[ZEL ZCl h6 (K,kc) c];exact this
 ·refine(h8.gbk h9 g2 hR).snoc h6 hkc (gs.rd hkr hKg)
 ·intro k hk a e;rcases ZbI.1 hk with hk|hk
  ·exact .inl (h9 k hk a e)
  ·rw[ZbU.1 hk]at e;exact .inr ⟨a,e,rfl⟩
 ·have o1:=h10.gbk g2 hR;revert o1;cases s.out with
  |none=>exact id
  |some c=>
   rintro⟨o,k,e1,e2,e3,e4,e5,e6⟩;exact⟨o,k,e1,e2,e3,e4,.inl e5,λa e=>.inl (e6 a e)⟩
 ·rcases hbR with hbR|⟨a,e1,e2⟩
  ·refine⟨λe=>(hmem b e).elim (h18 b hbR).1 (λe=>by have:=(h18 b hbR).2.2;omega),(h18 b hbR).2.1,Zb5 (h18 b hbR).2.2 g2.size⟩
  ·subst e2;exact⟨hKb a e1,(hK a e1).2.1,Zb5 (hK a e1).2.2 g2.size⟩
 ·rcases ZbJ.1 (show some b ∈ some gc::some r::ob'::L.drop 3 from hbL)with e|hbL'
  ·injection e with e;subst e;exact⟨hgcl.1,Zb5 hgcl.2 g2.size⟩
  ·rcases hmem b hbL with e|e
   ·exact⟨(h19 b e).1,Zb5 (h19 b e).2 g2.size⟩
   ·refine⟨by omega,?_⟩;rw[World.size_setCell];rw[hL']at hbL;rcases ZbJ.1 hbL' with e1|hbL'
    ·injection e1 with e1;subst e1;have:=hlt b (by rw[h1];simp);omega
    ·rcases ZbJ.1 hbL' with e1|hbL'
     ·exact ho.lt b e1.symm
     ·have:some b ∈ L:=ZbP hbL';have:=hlt b this;omega
theorem Zu.setFin {w:World}{base gc r:Nat}{L:List (Option Nat)}{RO:Zdb}{s:JS}(h:Zu w base L RO gc r s)(e:Nat): Zu (w.setCell ⟨gc,2,none⟩ (.int .i64 (e:Int))) base L RO gc r {s with fin:=e}/\GB w (w.setCell ⟨gc,2,none⟩ (.int .i64 (e:Int))) (λb=>some b ∈ L):=by
 obtain⟨S,lv,ov,lob,lk,tk,WA,TA,wn,wc,tn,tc,h1,h2,h3,h4,h5,h6,h7,h8,h9,h10,h11,h12,h13,h14,h15,h16,h17,h18,h19⟩:=h;have h2':=h2;rw[h1]at h2';obtain⟨a1,a2,a3,a4⟩:=ZBg h2';have g:GB w (w.setCell ⟨gc,2,none⟩ (.int .i64 (e:Int))) (· =gc):=(GB.refl w (· =gc)).set gc 2 _ (.inl rfl);have hR:∀b,RO b->¬b=gc:=λb hb e=>(h18 b hb).1 (by rw[h1,e];simp);exact⟨⟨S,lv,ov,lob,lk,tk,WA,TA,wn,wc,tn,tc,h1,h2,ZU h3 2 _,XH.gb h4 g (λe=>a1 e.symm) (λb hb=>hR b (h5 b hb)),h5,h6,h7.gb g (λb e=>(a2 b e).1),h8.gbk h9 g hR,h9,h10.gbk g hR,h11,g.own h12 (λb e=>(a3 b e).1),h13,h14,g.own h15 (λb e=>(a4 b e).1),h16.gbk h17 g hR,h17,λb hb=>⟨(h18 b hb).1,(h18 b hb).2.1,by simpa using(h18 b hb).2.2⟩,λb hb=>⟨(h19 b hb).1,by simpa using(h19 b hb).2⟩⟩,g.more (λb _ e=>by rw[e,h1];simp)⟩
theorem ZDW (y:List Nat):∀(l:List Z3) (xs:List (List Nat)),(Yz l xs).2=false->Yz l (xs++[y])=match ZB4 y with|some c=>((Yz l xs).1++[c],false)|none=>((Yz l xs).1,true)
 |l,[],_=>by
  rw[ZbV,Yz];cases hd:ZB4 y<;>simp[Yz,hd]
 |l,x::xs,h=>by
  rw[Zaj];unfold Yz at h ⊢;cases hx:ZB4 x with
  |none=>rw[hx]at h;cases h
  |some c=>
   rw[hx]at h
   dsimp only at h ⊢
   exact ZDW y (l++[c]) xs h
theorem ZF0 (ys:List (List Nat)):∀(l:List Z3) (xs:List (List Nat)),(Yz l xs).2=true->Yz l (xs++ys)=Yz l xs
 |l,[],h=>by cases h
 |l,x::xs,h=>by
  rw[Zaj];unfold Yz at h ⊢;cases hx:ZB4 x with
  |none=>rfl
  |some c=>
   rw[hx]at h
   dsimp only at h ⊢
   exact ZF0 ys (l++[c]) xs h
theorem ZHQ:∀(l:List Z3) (xs:List (List Nat)),(Yz l xs).1.length<=l.length+xs.length
 |l,[]=>by unfold Yz;simp
 |l,x::xs=>by
  unfold Yz;cases hx:ZB4 x with
  |none=>simp
  |some c=>
   have:=ZHQ (l++[c]) xs;simp only[Za9,ZbA,ZbE]at this ⊢;omega
noncomputable def ZD6 (s:JS)(al:List Nat):JS:={s with ws:=ZGI al,cl:=(Zy al).2.2,line:=(Yz s.line (Zy al).1).1,fin:=if (Yz s.line (Zy al).1).2=true then 3 else ZIf al}
theorem YX.trans {w w1 w2:World}{base gc r:Nat}{L:List (Option Nat)}{RO:Zdb}{s s2:JS}(h:YX w base L RO gc r s w1)(k:∀L1 RO1,Zu w1 base L1 RO1 gc r s->YX w1 base L1 RO1 gc r s2 w2):YX w base L RO gc r s2 w2:=by
 obtain⟨L1,RO1,h1,h2,h3,h4⟩:=h;exact X9 h2 h3 h4 (k L1 RO1 h1)
theorem ZLm {w w':World}{S:Zdb}{gc i:Nat}{v:Value}(g:GB w w' S)(h:w.cell? ⟨gc,i,none⟩=some v)(hf:w.frozen? ⟨gc,i,none⟩=false)(hn:¬S gc):w'.frozen? ⟨gc,i,none⟩=false:=by
 have hb:=g.block gc (ZcO w _ h) hn;unfold World.frozen? at hf ⊢;simp only[hb];exact hf
def ZTZ (w:World)(base:Nat)(L:List (Option Nat))(RO:Zdb)(gc r:Nat)(s:JS)(al:List Nat)(e:Ending)(w':World):Prop:=e=.returned (.int .i64 0)/\YX w base L RO gc r (ZD6 s al) w'
theorem ZL4 (w:World)(base gc r:Nat)(L:List (Option Nat))(RO:Zdb)(s:JS)(h:Zu w base L RO gc r s)(hi:ZBk s)(hc:s.closed=false)(hf:s.fin=0)(hcl:s.cl=false)(A:Option Addr)(n c:Nat)(xs:List Nat)(hl:xs.length=n)(hb:∀x ∈ xs,x<256)(hr:Rd w A (ZV .u8 xs))(hN:s.ws.length+n<=5000000000000)(hP:s.line.length+(Zy (s.ws++xs)).1.length<=1000000): Calls Tryz.prog 59 #[.pointer (some ⟨gc,0,none⟩),.slice A n c] w (ZTZ w base L RO gc r s (s.ws++xs)):=by
 obtain⟨c0,c2,c6,⟨S,hrd⟩,hgr,hrL,fed⟩:=h.fed;have B:=h.bounds;rw[hc]at c6;rw[hf]at c2;rw[hcl]at hrd;have FD:=ZA (ZN8 w r S s.ws A n c xs hrd hi.1 hl hb hr hN);have hba:∀x ∈ s.ws++xs,x<256:=λx hx=>(ZbI.1 hx).elim (hi.1 x) (hb x);obtain⟨al,Hal⟩:=ZTy (s.ws++xs);rw[Hal.o]at FD hP hba ⊢;obtain⟨-,-,hps⟩:=ZBW (al.length+1) al ZB;have HPS:=ZA (show ∀ps ∈ (Zy al).1,ps.length<=4096/\∀x ∈ ps,x<256 from λps h=>⟨(hps ps h).1,λx hx=>hba x ((hps ps h).2 x hx)⟩);have FED:=ZA fed;have BB:=ZA B;have H:=ZA h;clear h hrd hi hb hr hl fed B hps hba hc hf hcl;go_enter Tryz.func59,Tryz.ntmps59;go_wp2_with fail;refine FD.o.mono ?_;intro e w1 hF;obtain⟨S1,A1,n1,c1,rfl,hn1,hS1,hP1,hR1,hg1⟩:=ZN9 hF;have hca:=FED.o w1 _ _ S1 hg1 hS1.2 hR1;have g1:GB w w1 (λb=>some b ∈ L):=(GB.refl w _).grown hg1 (λq e=>by injection e with e;exact .inl (by rw[<-e];exact hrL));obtain⟨en,Hen⟩:∃en,ZD (ZQC al=((en:Nat):Int)/\ZIf al=en):=⟨ZIf al,(ZQA al).symm,rfl⟩;rw[Hen.o.1];have hlt:∀b,some b ∈ L->b<S1:=λb e=>by have:=(BB.o.2.1 b e).2;omega
 have HCA:=ZA hca;have G1:=ZA g1;have HP1:=ZA hP1;have HLT:=ZA hlt;have HN1:=ZA hn1;have hsl:s.line.length+n1<=1000000:=by rw[<-hn1];exact hP
 have d2':=(hca.cells);clear hF hR1 hg1 hca g1 hP1 hlt c0 c2 c6 d2' hP hn1;go_wp2_with fail
 go_loopw [37] (λi wr=>∃k:Nat,k<=n1/\i=.int .i64 (k:Int)/\(Yz s.line ((Zy al).1.take k)).2=false/\YX w1 base L (λb=>RO b\/(w.heap.size<=b/\b<S1)) gc r {s with ws:=ZGI al,cl:=(Zy al).2.2,line:=(Yz s.line ((Zy al).1.take k)).1} wr) (λi _=>n1 - (intOf i).toNat)
 case atStart=>exact⟨0,ZcL _,rfl,by rw[Zbn];rfl,by rw[Zbn];exact YX.refl HCA.o (ZL.refl _)⟩
 case round=>
  obtain⟨k,hk,rfl,hbad,hgo⟩:=hrel;by_cases hlt:k<n1
  ·obtain⟨ys,hys⟩:∃ys,(Zy al).1[k]?=some ys:=⟨_,Zaz (by rw[HN1.o];exact hlt)⟩;obtain⟨L2,RO2,k1,k2,k3,k4⟩:=hgo;have hpl:=HP1.o.gb k2 HLT.o;obtain⟨b,off,Ai,ci,hA,d0,hci,hrd⟩:=hpl.rd.at_ hys;obtain⟨hy1,hy2⟩:=HPS.o ys (ZbO hys);have HT:=ZA (Zr hys);have hll:=ZHQ s.line ((Zy al).1.take k);have hlk0:(Yz s.line ((Zy al).1.take k)).1.length<=1000000:=by rw[ZbG]at hll;omega
   have HB:=ZA hbad;subst hA;have K1:=ZA k1;have K2:=ZA k2;have K3:=ZA k3;have K4:=ZA k4;obtain⟨m,Hm⟩:=ZTy (ys.length);rw[Hm.o]at d0 hci hy1;have HYS:=ZA hys;have HRD:=ZA hrd;have HY2:=ZA hy2;clear hbad k1 k2 k3 k4 hpl hrd hys hy2 hll;cases hd:ZB4 ys with
   |none=>
    have RQ:=ZA (ZDy wr Ai m ci ys Hm.o hy1 hci HY2.o HRD.o (ZHt hd));have HD:=ZA hd;clear hd;go_wp2_with fail;refine RQ.o.mono ?_;rintro e w2 ⟨rfl,x2⟩;obtain⟨-,-,-,-,d2,-,-,fz,-,hgl⟩:=(K1.o.ext x2).cells;have f2:=fz 2;have X2:=ZA x2;clear fz x2 d0;go_wp2_with fail;go_ret;refine⟨rfl,?_⟩;have hs0:=(K1.o.ext X2.o).setFin 3;have xB:=(ZL.refl (w2.setCell ⟨gc,2,none⟩ (.int .i64 3))).alloc (.cells #[.int .u8 0,.int .i64 0,.slice none 0 0,.int .i64 0] 34);have hs:=And.intro (hs0.1.ext xB) (hs0.2.ext xB);refine X9 G1.o (λb e=>.inl e) (λb e=>e.elim .inl (λe=>.inr (.inr e.1))) (X9 K2.o K3.o K4.o (s2:=ZD6 s al) ⟨L2,RO2,?_,GB.back X2.o hs.2,λb e=>.inl e,λb e=>.inl e⟩);have e1:=ZDW ys s.line _ HB.o;rw[<-HT.o,HD.o]at e1
    dsimp only at e1
    have e2:=ZF0 ((Zy al).1.drop (k+1)) s.line ((Zy al).1.take (k+1)) (by rw[e1]);rw[Zbg,e1]at e2;unfold ZD6;rw[e2];exact hs.1
   |some c=>
    obtain⟨hn,he⟩:=ZEf hd;have RQ:=ZA (ZFz wr Ai m ci ys c.key c.op c.pol c.num Hm.o hy1 hci HY2.o HRD.o ⟨hn,by rw[Zag];exact he,λ_=>rfl⟩);have HD:=ZA hd;clear hd hn he;go_wp2_with fail;refine RQ.o.mono ?_;rintro e w2 ⟨Ak,kc,rfl,ho2,x2⟩;obtain⟨op,pol,key,num⟩:=c
    dsimp only at ho2 RQ ⊢
    obtain⟨kl,Hkl⟩:=ZTy (key.length);have hko:w2.ownsRow wr.heap.size 5 1 (.slice Ak kl kc) kl (ZV .u8 key):=by rw[<-Hkl.o];exact ho2
    rw[Hkl.o];obtain⟨X,hX⟩:=ZTz (w2.alloc (.cells #[.int .u8 (op:Int),.int .i64 (pol:Int),.slice Ak kl kc,.int .i64 (num:Int)] 34));have xX:ZL w2 X:=by rw[<-hX];exact(ZL.refl w2).alloc _
    have KX:=ZA (show X.heap[w2.heap.size]?=some (.cells #[.int .u8 (op:Int),.int .i64 (pol:Int),.slice Ak kl kc,.int .i64 (num:Int)] 34 (0,0)) by rw[<-hX];exact ZM w2 _);have xw:=x2.trans xX;obtain⟨lv,lob,lk,c1,f1,hlob,hoff,hlk,step⟩:=(K1.o.ext xw).lines
    dsimp only at hoff hlk step
    obtain⟨q,Hq⟩:=ZTy ((Yz s.line ((Zy al).1.take k)).1.length);have hlk_:q<=1000000:=by rw[<-Hq.o];exact hlk0
    rw[Hq.o]at hoff hlk step;obtain⟨ao,cap,rfl,-,-,-⟩:=hoff.shape;have hsz:=x2.size;have nbo:∀b,lob=some b->b<wr.heap.size:=λb e=>(K1.o.bounds.2.1 b (hlob b e).1).2;have nbg:¬lob=some gc:=λe=>(hlob gc e).2 rfl;have nbx:¬lob=some w2.heap.size:=λe=>by have:=nbo _ e;omega
    have XW:=ZA xw;have OFF:=ZA hoff;have HLK:=ZA hlk;have STEP:=ZA step;have HKO:=ZA hko;have XX:=ZA xX;have HLOB:=ZA hlob;have X2:=ZA x2;have NBO:=ZA nbo;have C1:=ZA c1;clear ho2 hko x2 xX xw hoff hlk step d0 hlob nbo;go_upto_region 10 with fail
    (try rw[hX])
    clear hX;have u0:=ZTx KX.o 0 (.int .u8 (op:Int));have u1:=ZTx KX.o 1 (.int .i64 (pol:Int));have u2:=ZTx KX.o 2 (.slice Ak kl kc);have u3:=ZTx KX.o 3 (.int .i64 (num:Int));go_upto_region 13 with fail;refine JZ (λu=>u.cell? ⟨gc,1,none⟩=some (.slice ao q cap)/\u.cell? ⟨w2.heap.size,0,none⟩=some (.int .u8 (op:Int))/\u.cell? ⟨w2.heap.size,1,none⟩=some (.int .i64 (pol:Int))/\u.cell? ⟨w2.heap.size,2,none⟩=some (.slice Ak kl kc)/\u.cell? ⟨w2.heap.size,3,none⟩=some (.int .i64 (num:Int))) [10] ZC ?_;have hHeld:=And.intro (ZK c1) (And.intro (ZK u0) (And.intro (ZK u1) (And.intro (ZK u2) (ZK u3))));have XD:ZL X X.drew:=(ZL.refl X).drew;clear u0 u1 u2 u3 c1;generalize X.drew=U at XD hHeld ⊢;refine ZT0 (i:=0) (v:=?_) rfl (Or.inl ⟨by rfl,?_⟩) (YL.of hHeld) ?_
    rotate_left
    ·intro w _;go_simp
     (try with_reducible rfl)
    (try simp only[Act.put])
    refine ZT0 (i:=1) (v:=?_) rfl (Or.inl ⟨by rfl,?_⟩) (YL.of hHeld) ?_
    rotate_left
    ·intro w _;go_simp
     (try with_reducible rfl)
    (try simp only[Act.put])
    refine ZT0 (i:=2) (v:=?_) rfl (Or.inl ⟨by rfl,?_⟩) (YL.of hHeld) ?_
    rotate_left
    ·intro w _;go_simp
     (try with_reducible rfl)
    (try simp only[Act.put])
    refine ZT0 (i:=3) (v:=?_) rfl (Or.inl ⟨by rfl,?_⟩) (YL.of hHeld) ?_
    rotate_left
    ·intro w _;go_simp
     (try with_reducible rfl)
    (try simp only[Act.put])
    refine ZT1 (i:=4) (v:=?_) rfl (Or.inl ⟨by rfl,?_⟩) (by assumption) ?_
    rotate_left
    ·intro w hSw;(try dsimp only at hSw);go_simp
     (try with_reducible rfl)
    (try simp only[Act.put])
    refine ZT1 (i:=5) (v:=?_) rfl (Or.inl ⟨by rfl,?_⟩) (by assumption) ?_
    rotate_left
    ·intro w hSw;(try dsimp only at hSw);go_simp
     (try with_reducible rfl)
    (try simp only[Act.put])
    refine ZY (rs:=[6]) ZC ZTv (ZN.cons (o:=_) rfl (λK' hK=>?_) ZN.nil);have q1:=hHeld.1;have u0:=hHeld.2.1;have u1:=hHeld.2.2.1;have u2:=hHeld.2.2.2.1;have u3:=hHeld.2.2.2.2
    go_simp
    have yU:ZL U (U.alloc (.cells #[.int .u8 (op:Int),.int .i64 (pol:Int),.slice Ak kl kc,.int .i64 (num:Int)] 34)):=(ZL.refl U).alloc _;have yX:=XD.trans yU;refine hK.out _ _ ⟨ZG yU q1,ZG yU u0,ZG yU u1,ZG yU u2,ZG yU u3⟩ ?_;clear hK K'
    (try simp only[Act.put])
    have d1:=ZG yU q1;have e0:=ZG yU u0;have e1:=ZG yU u1;have e2:=ZG yU u2;have e3:=ZG yU u3;have f1Y:=ZAc yX C1.o f1;have nx:=ZM U (.cells #[.int .u8 (op:Int),.int .i64 (pol:Int),.slice Ak kl kc,.int .i64 (num:Int)] 34)
    have NX:=ZA (show ∀j u,[Value.int .u8 (op:Int),.int .i64 (pol:Int),.slice Ak kl kc,.int .i64 (num:Int)][j]?=some u->(U.alloc (.cells #[.int .u8 (op:Int),.int .i64 (pol:Int),.slice Ak kl kc,.int .i64 (num:Int)] 34)).cell? ((⟨U.heap.size,0,none⟩:Addr).add j)=some u from λj u hu=>by
     rw[ZaO,ZcK];exact(ZE nx j).trans (by rw[<-hu];simp))
    clear nx q1 u0 u1 u2 u3;refine ZY (rs:=[7]) ZC ZTv (ZN.cons (o:=_) rfl (λK' hK=>?_) ZN.nil);refine ZGv (U.alloc (.cells #[.int .u8 (op:Int),.int .i64 (pol:Int),.slice Ak kl kc,.int .i64 (num:Int)] 34)) rfl (.tmp 55) (.tmp 57) rfl ZTw (OFF.o.ext yX) hlk_ ZTw rfl NX.o (λu hu=>by simp at hu;rcases hu with rfl|rfl|rfl|rfl<;>rfl) ?_;intro v' w6 ob' o6 g6 b6;obtain⟨va,vc,rfl,-,-,-⟩:=o6.shape;have q1:=g6.cell d1 nbg;have u0:=g6.cell e0 nbx;have u1:=g6.cell e1 nbx;have u2:=g6.cell e2 nbx;have u3:=g6.cell e3 nbx;have F1:=ZLm g6 d1 f1Y nbg;have O6:=ZA o6;have G6:=ZA g6;have B6:=ZA b6;clear o6 g6 b6;refine hK.out _ _ ⟨q1,u0,u1,u2,u3⟩ ?_;clear hK K'
    (try simp only[Act.put])
    refine ZY (rs:=[8]) ZC ZTv (ZN.cons (o:=_) rfl (λK' hK=>?_) ZN.nil)
    go_simp
    refine hK.out _ _ ⟨q1,u0,u1,u2,u3⟩ ?_;clear hK K'
    (try simp only[Act.put])
    refine ZY (rs:=[9]) ZC ZTv (ZN.cons (o:=_) rfl (λK' hK=>?_) ZN.nil)
    go_simp
    refine hK.out _ _ ⟨q1,u0,u1,u2,u3⟩ ?_;clear hK K'
    (try simp only[Act.put])
    refine ZY (rs:=[10]) ZC ZTv (ZN.last (o:=_) ZC rfl (λK' hK=>?_) ZN.nil)
    go_simp
    refine hK.out _ _ ?_;clear hK K'
    (try simp only[Act.put])
    refine Ja ZC ?_ _;have e1r:=ZDW ys s.line _ HB.o;rw[<-HT.o,HD.o]at e1r
    dsimp only at e1r
    have RD:=ZA e1r;clear e1r;go_wp2_with fail
    go_roundw
    case rel=>
     have gX6:GB X w6 (λb=>lob=some b):=((GB.refl X _).ext yX).trans G6.o (λb e=>.inl e);have hkey:Rd w6 Ak (ZV .u8 key):=gX6.rd ((Rd.of_own HKO.o).ext XX.o) (λa e e2=>by have:=(HKO.o.lt a.block (by rw[e];rfl)).1;have:=NBO.o _ e2;omega)
     obtain⟨m1,m2,m3⟩:=STEP.o w6 (.slice va (q+1) vc) ob' Ak kc ⟨op,pol,key,num⟩ (by show ZBD _ _ _ _ _ (_++[_,_,Value.slice _ key.length _,_]);rw[Hkl.o];exact O6.o) gX6 (λb e=>by
      rcases B6.o with h9|h9
      ·exact .inl (h9 ▸ e)
      ·rw[h9]at e;injection e with e;exact .inr (by rw[<-e];exact yX.size)) (by dsimp only;rw[Hkl.o];exact Ys HKO.o) hkey (λa e=>by
      have hl9:=HKO.o.lt a.block (by rw[e];rfl);have hB:=K1.o.bounds;refine⟨λe2=>by have:=(hB.2.1 _ e2).2;omega,?_,Zb5 hl9.2 XX.o.size⟩;have:=hB.2.1 gc hB.1;omega)
     refine⟨k+1,hlt,by go_num,by rw[RD.o],X9 K2.o K3.o K4.o ⟨_,_,?_,GB.back XW.o m2,λb e=>(m3 b e).imp id (λe=>Zb2 XW.o.size e),λb e=>(show RO2 b\/∃a,Ak=some a/\a.block=b from e).imp id ?_⟩⟩
     ·rw[RD.o];exact m1
     ·rintro⟨a,ea,eb⟩;have:=(HKO.o.lt a.block (by rw[ea];rfl)).1;exact .inr ZB
    case measure=>simp[intOf];omega
  ·obtain rfl:k=n1:=by omega
   have HB:=ZA hbad;have HGO:=ZA hgo;rw[Zbk (by rw[HN1.o];exact Zb0 _)]at HB HGO;clear hbad hgo;obtain⟨L2,RO2,k1,k2,k3,k4⟩:=HGO.o;obtain⟨-,-,-,-,d2,-,-,fz,-⟩:=k1.cells;have f2:=fz 2;clear k1 k2 k3 k4 fz;go_wp2_with fail;go_ret;refine⟨rfl,?_⟩;refine X9 G1.o (λb e=>.inl e) (λb e=>e.elim .inl (λe=>.inr (.inr e.1))) (YX.trans HGO.o λL1 RO1 k1=>?_);have SF:=k1.setFin en;refine⟨L1,RO1,?_,SF.2,λb e=>.inl e,λb e=>.inl e⟩;unfold ZD6;rw[Zcf (by rw[HB.o];exact ZaV),Hen.o.2];exact SF.1
theorem ZHN (op p N:Nat)(xs:List Nat):1<=(Yt op p xs N).length:=by
 unfold Yt
 split
 ·simp
 ·split
  ·simp
  ·simp
theorem ZHO {op p N:Nat}{xs:List Nat}(h:xs.length<=255):(Yt op p xs N).length<=1000:=by
 unfold Yt
 split
 ·rw[ZbA,ZAQ];omega
 ·split
  ·simp
  ·simp only[ZbA,Za9]
   split
   ·rw[Zs];omega
   ·simp;omega
def ZKd (F:Option (List Nat))(w:World)(e:Ending)(w':World):Prop:=match F with
 |none=>e=.returned (.slice none 0 0)/\ZL w w'
 |some L=>∃g c,e=.returned (.slice (some ⟨g,0,none⟩) L.length c)/\w'.ownsRow w.heap.size 5 1 (.slice (some ⟨g,0,none⟩) L.length c) L.length (ZV .u8 L)/\ZL w w'
def ZTX (op:Nat)(p:Int)(xs:List Nat)(N:Int)(F:Option (List Nat)):Prop:=(F=none/\∀P M:Nat,(op<5->p=(P:Int))->(op=1\/op=3->N=(M:Int))->¬ZAs op P xs M)\/ ∃P M:Nat,(op<5->p=(P:Int))/\(op=1\/op=3->N=(M:Int))/\ZAs op P xs M/\F=some (XK (Yt op P xs M).length++Yt op P xs M)
theorem ZC8:ZBk ZA5:=⟨(λx h=>by cases h),(λc h=>by cases h),(λc h=>by cases h),(λx h=>by cases h),(λt h=>by cases h)⟩
theorem ZF1:∀(l:List Z3) (xs:List (List Nat)),(∀c ∈ l,ZA6 c.op c.pol c.key c.num)->∀c ∈ (Yz l xs).1,ZA6 c.op c.pol c.key c.num
 |l,[],h=>h
 |l,x::xs,h=>by
  unfold Yz;cases hx:ZB4 x with
  |none=>exact h
  |some c=>
   refine ZF1 (l++[c]) xs λd hd=>?_;rcases ZbI.1 hd with hd|hd
   ·exact h d hd
   ·rw[ZbU.1 hd];exact(ZEf hx).1
theorem ZKK {s:JS}(h:ZBk s){xs:List Nat}(hb:∀x ∈ xs,x<256):ZBk (ZD6 s (s.ws++xs)):=by
 obtain⟨h1,h2,h3,h4,h5⟩:=h;refine⟨λx hx=>?_,ZF1 s.line _ h2,h3,h4,h5⟩;exact(ZbI.1 ((ZJm _).2 x hx)).elim (h1 x) (hb x)
theorem ZOP {s:JS}(h:ZBk s){c:Z3}{rest:List Z3}(hl:s.line=c::rest):ZBk {s with line:=rest,out:=some c}:=by
 obtain⟨h1,h2,h3,h4,h5⟩:=h;refine⟨h1,λd hd=>h2 d (by rw[hl];exact ZbK _ hd),λd hd=>?_,h4,h5⟩;injection hd with hd;rw[<-hd];exact h2 c (by rw[hl];exact ZbL)
theorem ZOs (ns:List Nat):∀x ∈ ZBl ns,x<256:=λx hx=>by
 obtain⟨n,_,h⟩:=ZbM.1 hx;exact Xf n 8 x h
theorem ZPD {e:Int}{g:Bool}{N:List Int}{q:Int}{B:List Nat}(h:ZCp e g N q B):∀x ∈ B,x<256:=λx hx=>by
 rcases h with⟨_,h,_⟩|⟨_,h1,h2,ns,_,h⟩
 ·rw[h]at hx;cases hx
 ·rw[h]at hx;rcases ZbJ.1 hx with hx|hx
  ·omega
  ·rcases ZbJ.1 hx with hx|hx
   ·rw[hx];cases g<;>simp[ZDL]
   ·exact ZOs ns x hx
theorem ZFH {e:Int}{g:Bool}{N:List Int}{B:List Nat}(h:ZCp e g N 0 B):B.length=34:=by
 rcases h with⟨h,_⟩|⟨_,h1,h2,ns,h3,h⟩
 ·cases h
 ·rw[h,ZCW,h3.1]
theorem ZRD {e:Int}{g:Bool}{N:List Int}(hN:N.length=4){q q':Int}{B B':List Nat}(h:ZCp e g N q B)(h':ZCp e g N q' B'):q=q'/\B=B':=by
 have key:∀{ns:List Nat},ZEj N 4 ns->∀x ∈ N,okN x:=λ{ns} h x hx=>by
  obtain⟨h1,h2,h3⟩:=h;rw[Zbk (by rw[hN];exact Zb0 _)]at h2;rw[<-h2]at hx;obtain⟨y,hy,rfl⟩:=ZbN.1 hx;have:=h3 y hy;unfold okN;omega
 rcases h with⟨h1,h2,h3⟩|⟨h1,h2,h3,ns,h4,h5⟩
 ·rcases h' with⟨k1,k2,k3⟩|⟨k1,k2,k3,ns',k4,k5⟩
  ·exact⟨by rw[h1,k1],by rw[h2,k2]⟩
  ·exact absurd ⟨k2,k3,key k4⟩ h3
 ·rcases h' with⟨k1,k2,k3⟩|⟨k1,k2,k3,ns',k4,k5⟩
  ·exact absurd ⟨h2,h3,key h4⟩ k3
  ·refine⟨by rw[h1,k1],?_⟩;have e1:ns=ns':=by
    have e2:=h4.2.1.trans k4.2.1.symm;exact(List.map_inj_right (λx y e=>Int.ofNat.inj e)).1 e2
   rw[h5,k5,e1]
theorem ZL1 {s:JS}(h:ZBk s)(q:Int){B:List Nat}(hB:∀x ∈ B,x<256):ZBk (Ju s q B):=by
 obtain⟨h1,h2,h3,h4,h5⟩:=h;unfold Ju
 split
 ·refine⟨h1,h2,h3,λx hx=>?_,h5⟩;rcases ZbI.1 hx with hx|hx
  ·exact h4 x hx
  ·exact(ZbI.1 hx).elim (ZFM _ x) (hB x)
 ·exact⟨h1,h2,h3,h4,h5⟩
theorem ZIm {s:JS}(h:ZBk s){c:Z3}(ho:s.out=some c)(e sn:Int){B:List Nat}(hB:∀x ∈ B,x<256):ZBk (JG s c e sn B):=by
 have hc:=(h.2.2.1 c ho).2.1;have hl:=h.2.2.2.2;obtain⟨h1,h2,h3,h4,h5⟩:=ZL1 h 0 hB;rw[ZBG]at h5;unfold JG
 split
 ·split
  ·refine⟨h1,h2,(λd hd=>by cases hd),h4,λt ht=>?_⟩;rcases ZbI.1 ht with ht|ht
   ·exact hl t ht
   ·rw[ZbU.1 ht];exact hc
  ·split
   ·refine⟨h1,h2,(λd hd=>by cases hd),h4,λt ht=>?_⟩
    dsimp only at ht
    split at ht
    ·exact hl t ht
    ·exact hl t (ZbQ ht)
   ·exact⟨h1,h2,(λd hd=>by cases hd),h4,by dsimp only;rw[ZBG];exact hl⟩
 ·exact⟨h1,h2,(λd hd=>by cases hd),h4,by dsimp only;rw[ZBG];exact hl⟩
theorem ZOO {s:JS}(h:ZBk s):ZBk {s with wr:=[]}:=⟨h.1,h.2.1,h.2.2.1,(λx hx=>by cases hx),h.2.2.2.2⟩
def ZTu (s:JS):Prop:=s.ws=[]/\s.cl=false/\s.line=[]/\s.fin=0/\s.out=none/\s.closed=false/\s.hung=false
def Zp (c:Z3):List Nat:=XK (Yt c.op c.pol c.key c.num).length++Yt c.op c.pol c.key c.num
theorem ZHc {c:Z3}(h:ZA6 c.op c.pol c.key c.num):c.key.length<=255/\1<=(Yt c.op c.pol c.key c.num).length/\(Yt c.op c.pol c.key c.num).length<=1000/\(∀x ∈ Yt c.op c.pol c.key c.num,x<256):=by
 have hk:c.key.length<=255:=by
  by_cases h5:5<=c.op
  ·rw[(h.2.2.1 h5).2.1];simp
  ·exact(h.1.2.2.1 ZB).2
 exact⟨hk,ZHN _ _ _ _,ZHO hk,ZIJ h.1 h.2.1⟩
structure LSt where
 cn:Option JS
 st:Nat
 wr:List Nat
 rel:Bool
 toks:List ZBF
 looked:Bool
def lnZ:LSt:=⟨none,0,[],false,[],false⟩
def ZTt (w:World)(D:Zdb)(v0:Value)(Lb:List (Option Nat))(wb:Option Nat):Option JS->Prop
 |none=>v0=.pointer none/\Lb=[]
 |some s=>∃base gc r RO,v0=ZH gc/\Zu w base Lb RO gc r s/\∀b,RO b->D b/\wb≠some b
def ZAx (w:World)(D:Zdb)(v:Nat->Value)(l:LSt):Prop:=∃(WA TA:Option Addr) (wc tc:Nat) (tk:List Jt) (Lb:List (Option Nat)) (T:Zdb),v 1=.int .i64 (l.st:Int)/\v 2=.slice WA l.wr.length wc/\v 3=.bool l.rel/\v 4=.slice TA l.toks.length tc/\v 5=.bool l.looked/\ w.ownsRow 0 5 1 (.slice WA l.wr.length wc) l.wr.length (ZV .u8 l.wr)/\(∀q,(Value.slice WA l.wr.length wc).ownBlock=some q->D q/\some q ∉ Lb/\¬T q)/\ l.toks.length<=tc/\ZE5 w TA l.toks tk/\(∀a,TA=some a->T a.block)/\(∀k ∈ tk,ZE8 T k)/\(∀b,T b->D b/\some b ∉ Lb)/\(∀b,some b ∈ Lb->D b)/\ ZTt w D (v 0) Lb (Value.slice WA l.wr.length wc).ownBlock l.cn
theorem ZAx.gb {w w':World}{D S:Zdb}{v:Nat->Value}{l:LSt}(h:ZAx w D v l)(g:GB w w' S)(hS:∀i,D i->¬S i):ZAx w' D v l:=by
 obtain⟨WA,TA,wc,tc,tk,Lb,T,h1,h2,h3,h4,h5,h6,h7,h8,h9,h10,h11,h12,h13,h14⟩:=h;have hT:∀b,T b->¬S b:=λb hb=>hS b (h12 b hb).1;refine⟨WA,TA,wc,tc,tk,Lb,T,h1,h2,h3,h4,h5,g.own h6 (λq e=>hS q (h7 q e).1),h7,h8,⟨h9.1,g.rd h9.2.1 (λa ha=>hT _ (h10 a ha)),h9.2.2.gbk h11 g hT⟩,h10,h11,h12,h13,?_⟩;cases hc:l.cn with
 |none=>rw[hc]at h14;exact h14
 |some s=>
  rw[hc]at h14;obtain⟨base,gc,r,RO,e1,e2,e3⟩:=h14;exact⟨base,gc,r,RO,e1,e2.gb g (λb hb=>⟨λe=>hS b (h13 b e) hb,λe=>hS b (e3 b e).1 hb⟩),e3⟩
theorem ZAx.ext {w w':World}{D:Zdb}{v:Nat->Value}{l:LSt}(h:ZAx w D v l)(x:ZL w w'):ZAx w' D v l:=h.gb (GB.of_ext (λ_=>False) x) (λ_ _ e=>e)
theorem ZAx.zero (w:World)(D:Zdb)(v:Nat->Value)(h0:v 0=.pointer none)(h1:v 1=.int .i64 0)(h2:v 2=.slice none 0 0)(h3:v 3=.bool false)(h4:v 4=.slice none 0 0)(h5:v 5=.bool false):ZAx w D v lnZ:=⟨none,none,0,0,[],[],λ_=>False,h1,h2,h3,h4,h5,ZcU _ _ _ _,(λq e=>by simp[Value.ownBlock]at e),Zb0 _,⟨rfl,Rd.nil _ _,λp hp=>by cases hp⟩,(λa e=>by cases e),(λk hk=>by cases hk),(λ_ e=>e.elim),(λb e=>by cases e),⟨h0,rfl⟩⟩
abbrev ZGs (D:Zdb)(w w':World):Nat->Prop:=λi=>D i\/(w.heap.size<=i/\i<w'.heap.size)
theorem ZAx.conn {w:World}{D:Zdb}{v:Nat->Value}{l:LSt}{s:JS}(h:ZAx w D v l)(hD:∀i,D i->i<w.heap.size)(hs:l.cn=some s): ∃base gc r L RO,v 0=ZH gc/\Zu w base L RO gc r s/\(∀b,some b ∈ L->D b)/\∀w' s',YX w base L RO gc r s' w'->ZAx w' (ZGs D w w') v {l with cn:=some s'}:=by
 obtain⟨WA,TA,wc,tc,tk,Lb,T,h1,h2,h3,h4,h5,h6,h7,h8,h9,h10,h11,h12,h13,h14⟩:=h;rw[hs]at h14;obtain⟨base,gc,r,RO,e1,e2,e3⟩:=h14;refine⟨base,gc,r,Lb,RO,e1,e2,h13,λw' s' hgo=>?_⟩;obtain⟨L',RO',g1,g2,g3,g4⟩:=hgo;have hnew:∀b,D b->some b ∉ Lb->some b ∉ L':=λb hb hn e=>(g3 b e).elim hn (λe=>by have:=hD b hb;omega);have hT:∀b,T b->¬some b ∈ Lb:=λb hb=>(h12 b hb).2;have hlt:=g1.bounds
 refine⟨WA,TA,wc,tc,tk,L',T,h1,h2,h3,h4,h5,g2.own h6 (λq e=>(h7 q e).2.1),λq e=>⟨.inl (h7 q e).1,hnew q (h7 q e).1 (h7 q e).2.1,(h7 q e).2.2⟩,h8,⟨h9.1,g2.rd h9.2.1 (λa ha=>hT _ (h10 a ha)),h9.2.2.gbk h11 g2 hT⟩,h10,h11,λb hb=>⟨.inl (h12 b hb).1,hnew b (h12 b hb).1 (h12 b hb).2⟩,
  λb hb=>(g3 b hb).imp (h13 b) (λe=>⟨e,(hlt.2.1 b hb).2⟩),base,gc,r,RO',e1,g1,λb hb=>⟨?_,λe=>?_⟩⟩
 ·rcases g4 b hb with e|e|e
  ·exact .inl (e3 b e).1
  ·exact .inl (h13 b e)
  ·exact .inr ⟨e,(hlt.2.2 b hb).2.2⟩
 ·rcases g4 b hb with e4|e4|e4
  ·exact(e3 b e4).2 e
  ·exact(h7 b e).2.1 e4
  ·have:=hD b (h7 b e).1;omega
def DO (gd:Nat)(D:Nat->Nat->Prop):Nat->Prop:=λi=>i=gd\/∃n,D n i
def Xm (gd:Nat)(C:Zdb)(D:Nat->Nat->Prop):Nat->Prop:=λi=>C i\/DO gd D i
def Z5 {α:Type}(f:Nat->α)(n:Nat)(x:α):Nat->α:=λi=>if i=n then x else f i
theorem Zt {α:Type}(f:Nat->α)(n:Nat)(x:α):Z5 f n x n=x:=Zcg rfl
theorem Zx {α:Type}(f:Nat->α){n i:Nat}(x:α)(h:i≠n):Z5 f n x i=f i:=Zcf h
def Ym (w:World)(gd:Nat)(g:YE)(C:Zdb)(xb:Nat->Nat)(L:List Zf)(ks:YF)(dr:Bool)(ls:Nat->LSt)(D:Nat->Nat->Prop):Prop:=∃lv:Nat->Nat->Value,YK w g (DO gd D) C xb L ks/\(∃cs t,w.heap[gd]?=some (.cells cs t (0,0)))/\w.cell? ⟨gd,0,none⟩=some (ZH g.gx)/\w.cell? ⟨gd,379,none⟩=some (.bool dr)/\ (∀n k,n<63->k<6->w.cell? ⟨gd,1+n*6+k,none⟩=some (lv n k))/\(∀n,n<63->ZAx w (D n) (lv n) (ls n))/\(∀n i,D n i->i≠gd/\i<w.heap.size)/\∀n m i,D n i->D m i->n=m
def Xt (w:World)(gd:Nat)(g:YE)(C:Zdb)(D:Nat->Nat->Prop)(N:Nat)(ks:YF)(dr:Bool)(ls:Nat->LSt)(w':World):Prop:=∃C' xb' L' D',L'.length<=N/\Ym w' gd g C' xb' L' ks dr ls D'/\GB w w' (Xm gd C D)/\∀i,Xm gd C' D' i->Xm gd C D i\/w.heap.size<=i
theorem Ym.lt {w:World}{gd:Nat}{g:YE}{C:Zdb}{xb:Nat->Nat}{L:List Zf}{ks:YF}{dr:Bool}{ls:Nat->LSt}{D:Nat->Nat->Prop}(h:Ym w gd g C xb L ks dr ls D):∀i,Xm gd C D i->i<w.heap.size:=by
 obtain⟨lv,h1,-⟩:=h;exact λi hi=>hi.elim (h1.lt i) (h1.ol i)
theorem Ym.ext {w w':World}{gd:Nat}{g:YE}{C:Zdb}{xb:Nat->Nat}{L:List Zf}{ks:YF}{dr:Bool}{ls:Nat->LSt}{D:Nat->Nat->Prop}(h:Ym w gd g C xb L ks dr ls D)(x:ZL w w'):Ym w' gd g C xb L ks dr ls D:=by
 obtain⟨lv,h1,⟨cs,t,h2⟩,h3,h4,h5,h6,h7,h8⟩:=h;exact⟨lv,h1.ext x,⟨cs,t,ZJ h2 x⟩,ZG x h3,ZG x h4,λn k hn hk=>ZG x (h5 n k hn hk),λn hn=>(h6 n hn).ext x,λn i hi=>⟨(h7 n i hi).1,Zb5 (h7 n i hi).2 x.size⟩,h8⟩
theorem Xt.back {w0 w w1:World}{gd N:Nat}{g:YE}{C:Zdb}{ks:YF}{dr:Bool}{ls:Nat->LSt}{D:Nat->Nat->Prop}(x:ZL w0 w)(h:Xt w gd g C D N ks dr ls w1):Xt w0 gd g C D N ks dr ls w1:=by
 obtain⟨C',xb',L',D',h1,h2,h3,h4⟩:=h;exact⟨C',xb',L',D',h1,h2,GB.back x h3,λi hi=>(h4 i hi).imp id (Zb2 x.size)⟩
theorem Xt.trans {w w1 w2:World}{gd N:Nat}{g:YE}{C C1:Zdb}{ks:YF}{dr:Bool}{ls:Nat->LSt}{D D1:Nat->Nat->Prop}(k:GB w w1 (Xm gd C D))(hC:∀i,Xm gd C1 D1 i->Xm gd C D i\/w.heap.size<=i)(h:Xt w1 gd g C1 D1 N ks dr ls w2):Xt w gd g C D N ks dr ls w2:=by
 obtain⟨C',xb',L',D',h1,h2,h3,h4⟩:=h;exact⟨C',xb',L',D',h1,h2,k.trans h3 hC,λi hi=>(h4 i hi).elim (hC i) (λe=>.inr (Zb2 k.size e))⟩
theorem Ym.core {w:World}{gd:Nat}{g:YE}{C:Zdb}{xb:Nat->Nat}{L:List Zf}{ks:YF}{dr:Bool}{ls:Nat->LSt}{D:Nat->Nat->Prop}(h:Ym w gd g C xb L ks dr ls D): YK w g (DO gd D) C xb L ks/\w.cell? ⟨gd,0,none⟩=some (ZH g.gx)/\gd<w.heap.size/\ ∀w' C' xb' L' ks',Z9 w g (DO gd D) C xb' L' ks' C' w'->Ym w' gd g C' xb' L' ks' dr ls D/\GB w w' (Xm gd C D)/\∀i,Xm gd C' D i->Xm gd C D i\/w.heap.size<=i:=by
 obtain⟨lv,h1,⟨cs,t,h2⟩,h3,h4,h5,h6,h7,h8⟩:=h;refine⟨h1,h3,ZW h2,λw' C' xb' L' ks' hm=>?_⟩;obtain⟨m1,m2,m3⟩:=hm;have nC:∀i,DO gd D i->¬C i:=λi hi e=>h1.co i e hi;have ngd:¬C gd:=nC gd (.inl rfl)
 exact⟨⟨lv,m1,⟨cs,t,m2.blk h2 ngd⟩,m2.cell h3 ngd,m2.cell h4 ngd,λn k hn hk=>m2.cell (h5 n k hn hk) ngd,λn hn=>(h6 n hn).gb m2 (λi hi=>nC i (.inr ⟨n,hi⟩)),λn i hi=>⟨(h7 n i hi).1,Zb5 (h7 n i hi).2 m2.size⟩,h8⟩,m2.more (λ_ _ e=>.inl e),λi hi=>hi.elim (λe=>(m3 i e).imp .inl id) (λe=>.inl (.inr e))⟩
theorem Ym.line {w:World}{gd:Nat}{g:YE}{C:Zdb}{xb:Nat->Nat}{L:List Zf}{ks:YF}{dr:Bool}{ls:Nat->LSt}{D:Nat->Nat->Prop}(h:Ym w gd g C xb L ks dr ls D){n:Nat}(hn:n<63): ∃v:Nat->Value,(∀k,k<6->w.cell? ⟨gd,1+n*6+k,none⟩=some (v k))/\(∀j,w.frozen? ⟨gd,j,none⟩=false)/\ZAx w (D n) v (ls n)/\(∀i,D n i->i≠gd/\i<w.heap.size)/\gd<w.heap.size/\w.cell? ⟨gd,379,none⟩=some (.bool dr)/\(∀i,D n i->¬C i)/\¬C gd/\ ∀w' D2 v2 l2,GB w w' (λi=>i=gd\/D n i)->(∃cs t,w'.heap[gd]?=some (.cells cs t (0,0)))->(∀k,k<6->w'.cell? ⟨gd,1+n*6+k,none⟩=some (v2 k))->(∀j,j<1+n*6\/7+n*6<=j->w'.cell? ⟨gd,j,none⟩=w.cell? ⟨gd,j,none⟩)-> ZAx w' D2 v2 l2->(∀i,D2 i->(D n i\/w.heap.size<=i)/\i<w'.heap.size)-> Ym w' gd g C xb L ks dr (Z5 ls n l2) (Z5 D n D2)/\GB w w' (Xm gd C D)/\∀i,Xm gd C (Z5 D n D2) i->Xm gd C D i\/w.heap.size<=i:=by
 obtain⟨lv,h1,⟨cs,t,h2⟩,h3,h4,h5,h6,h7,h8⟩:=h;have hgd:=ZW h2;refine⟨lv n,λk hk=>h5 n k hn hk,λj=>ZF h2 j,h6 n hn,h7 n,hgd,h4,λi hi e=>h1.co i e (.inr ⟨n,hi⟩),λe=>h1.co gd e (.inl rfl),λw' D2 v2 l2 gb hb hv hj hl hD=>?_⟩;have hgrow:∀i,DO gd (Z5 D n D2) i->DO gd D i\/w.heap.size<=i:=λi hi=>by
  rcases hi with e|⟨m,e⟩
  ·exact .inl (.inl e)
  ·by_cases hm:m=n
   ·subst hm;rw[Zt]at e;exact(hD i e).1.imp (λe=>.inr ⟨m,e⟩) id
   ·rw[Zx D D2 hm]at e;exact .inl (.inr ⟨m,e⟩)
 have hlt:∀m i,Z5 D n D2 m i->i≠gd/\i<w'.heap.size:=λm i e=>by
  by_cases hm:m=n
  ·subst hm;rw[Zt]at e;refine⟨λe2=>?_,(hD i e).2⟩;rcases(hD i e).1 with e3|e3
   ·exact(h7 m i e3).1 e2
   ·omega
  ·rw[Zx D D2 hm]at e;exact⟨(h7 m i e).1,Zb5 (h7 m i e).2 gb.size⟩
 refine⟨⟨λm=>if m=n then v2 else lv m,h1.far gb (λi _ e=>e.elim .inl (λe=>.inr ⟨n,e⟩)) (λi hi e=>(hgrow i e).resolve_right ZB) (λi e=>?_),hb,(hj 0 ZB).trans h3,(hj 379 ZB).trans h4,λm k hm hk=>?_,λm hm=>?_,hlt,λm q i e1 e2=>?_⟩,gb.more (λi _ e=>.inr (e.elim .inl (λe=>.inr ⟨n,e⟩))),λi hi=>hi.elim (λe=>.inl (.inl e)) (λe=>(hgrow i e).imp .inr id)⟩
 ·rcases e with e|⟨m,e⟩
  ·exact e ▸ Zb5 hgd gb.size
  ·exact(hlt m i e).2
 ·by_cases e:m=n
  ·subst e
   dsimp only
   rw[Zcg rfl];exact hv k hk
  ·dsimp only
   rw[Zcf e];exact(hj _ ZB).trans (h5 m k hm hk)
 ·by_cases e:m=n
  ·subst e
   dsimp only
   rw[Zcg rfl,Zt,Zt];exact hl
  ·dsimp only
   rw[Zcf e,Zx _ _ e,Zx _ _ e];refine(h6 m hm).gb gb (λi hi e2=>?_);rcases e2 with e2|e2
   ·exact(h7 m i hi).1 e2
   ·exact e (h8 m n i hi e2)
 ·have key:∀m i,m≠n->Z5 D n D2 m i->Z5 D n D2 n i->False:=λm i hm e1 e2=>by
   rw[Zx D D2 hm]at e1;rw[Zt]at e2;rcases(hD i e2).1 with e3|e3
   ·exact hm (h8 m n i e1 e3)
   ·have:=(h7 m i e1).2;omega
  by_cases hm:m=n
  ·by_cases hq:q=n
   ·rw[hm,hq]
   ·subst hm;exact(key q i hq e2 e1).elim
  ·by_cases hq:q=n
   ·subst hq;exact(key m i hm e1 e2).elim
   ·rw[Zx D D2 hm]at e1;rw[Zx D D2 hq]at e2;exact h8 m q i e1 e2
structure DSt where
 ks:YF
 ls:Nat->LSt
 dr:Bool
def Xn (r:YH):List Nat:=ZGy r.er r.granted [r.left.toNat,r.wait.toNat,r.ser.toNat,r.now.toNat]
def ZBc (r:YH):Prop:=r.er<=16/\okN r.left/\okN r.wait/\okN r.ser/\okN r.now
theorem ZBM {r:YH}(h:ZBc r):ZCp (r.er:Int) r.granted [r.left,r.wait,r.ser,r.now] 0 (Xn r):=by
 obtain⟨h1,⟨a1,a2⟩,⟨b1,b2⟩,⟨c1,c2⟩,⟨d1,d2⟩⟩:=h;refine .inr ⟨rfl,by omega,by omega,[r.left.toNat,r.wait.toNat,r.ser.toNat,r.now.toNat],⟨rfl,?_,?_⟩,rfl⟩
 ·simp only[ZbH,List.map_nil,Zbl,Zbn];rw[ZaZ a1,ZaZ b1,ZaZ c1,ZaZ d1]
 ·intro x hx;simp at hx;rcases hx with rfl|rfl|rfl|rfl<;>omega
def Xh (l:LSt)(r:YH):LSt:=match l.cn with
 |none=>l
 |some s=>match s.out with
  |none=>l
  |some c=>{l with cn:=some (JG s c (r.er:Int) r.ser (Xn r))}
def Jo (l:LSt):LSt:=match l.cn with
 |none=>l
 |some s=>{l with cn:=some {s with wr:=[]},wr:=l.wr++s.wr}
def ZGQ (l:LSt):LSt:=match l.cn with
 |none=>{l with st:=2}
 |some s=>{l with cn:=some (ZEw {s with wr:=[]}),wr:=l.wr++s.wr,st:=2}
def JJ (c:Z3):ZX:=⟨c.op,c.pol,c.key,(c.num:Int)⟩
def ZFk (ks:YF)(n:Nat)(x:ZX):YF:=ks.put n (.run x false 0 (Xz x))
theorem ZBH {α:Type}(f:Nat->α)(n:Nat)(x y:α):Z5 (Z5 f n x) n y=Z5 f n y:=by
 funext i
 unfold Z5
 split<;>rfl
theorem ZQu {α:Type}(f:Nat->α)(n:Nat):Z5 f n (f n)=f:=by
 funext i
 unfold Z5
 split
 ·next h=>rw[h]
 ·rfl
theorem ZDS {l:LSt}{s:JS}(h:l.cn=some s):Jo l={l with cn:=some {s with wr:=[]},wr:=l.wr++s.wr}:=by
 unfold Jo;rw[h]
theorem ZAx.state {w:World}{D:Zdb}{v v':Nat->Value}{l:LSt}(h:ZAx w D v l){st:Nat}(h0:v' 0=v 0)(h1:v' 1=.int .i64 (st:Int))(h2:v' 2=v 2)(h3:v' 3=v 3)(h4:v' 4=v 4)(h5:v' 5=v 5):ZAx w D v' {l with st:=st}:=by
 obtain⟨WA,TA,wc,tc,tk,Lb,T,-,k2,k3,k4,k5,h6,h7,h8,h9,h10,h11,h12,h13,h14⟩:=h;exact⟨WA,TA,wc,tc,tk,Lb,T,h1,h2.trans k2,h3.trans k3,h4.trans k4,h5.trans k5,h6,h7,h8,h9,h10,h11,h12,h13,by rw[h0];exact h14⟩
theorem ZLe {l:LSt}{s:JS}(h:l.cn=some s):(⟨some (ZEw {s with wr:=[]}),2,(Jo l).wr,(Jo l).rel,(Jo l).toks,(Jo l).looked⟩:LSt)=ZGQ l:=by
 unfold ZGQ;rw[ZDS h,h]
theorem ZAx.taken {w:World}{D:Zdb}{v:Nat->Value}{l:LSt}{s:JS}(h:ZAx w D v l)(hD:∀i,D i->i<w.heap.size)(hs:l.cn=some s): ∃(WA:Option Addr) (wc base gc r:Nat) (Lb:List (Option Nat)) (RO:Zdb),v 0=ZH gc/\v 2=.slice WA l.wr.length wc/\Zu w base Lb RO gc r s/\D gc/\ w.ownsRow 0 5 1 (.slice WA l.wr.length wc) l.wr.length (ZV .u8 l.wr)/\(∀q,(Value.slice WA l.wr.length wc).ownBlock=some q->D q/\q≠gc)/\ ∀(w1:World) (L':List (Option Nat)),Zu w1 base L' RO gc r {s with wr:=[]}->GB w w1 (· =gc)->(∀b,some b ∈ L'->some b ∈ Lb)-> ∀(w2:World) (B:Option Addr) (nb cb:Nat),(l.wr++s.wr).length=nb->w2.ownsRow 0 5 1 (.slice B nb cb) nb (ZV .u8 (l.wr++s.wr))->w1.grownBy w2 (Value.slice WA l.wr.length wc).ownBlock-> ((Value.slice B nb cb).ownBlock=(Value.slice WA l.wr.length wc).ownBlock\/(Value.slice B nb cb).ownBlock=some w1.heap.size)-> ∀(w3:World) (v':Nat->Value) (gd:Nat),GB w2 w3 (· =gd)->¬D gd->gd<w.heap.size->v' 0=v 0->v' 1=v 1->v' 2=.slice B nb cb->v' 3=v 3->v' 4=v 4->v' 5=v 5-> ZAx w3 (ZGs D w w3) v' (Jo l):=by
 obtain⟨WA,TA,wc,tc,tk,Lb,T,h1,h2,h3,h4,h5,h6,h7,h8,h9,h10,h11,h12,h13,h14⟩:=h;rw[hs]at h14;obtain⟨base,gc,r,RO,e1,e2,e3⟩:=h14;have hb:=e2.bounds;refine⟨WA,wc,base,gc,r,Lb,RO,e1,h2,e2,h13 gc hb.1,h6,λq e=>⟨(h7 q e).1,λe9=>(h7 q e).2.1 (by rw[e9];exact hb.1)⟩,λw1 L' k1 k2 k3 w2 B nb cb hnb o2 g2 b2 w3 v' gd g3 hgd hgdl q0 q1 q2 q3 q4 q5=>?_⟩;subst hnb;have x13:GB w1 w3 (λi=>(Value.slice WA l.wr.length wc).ownBlock=some i\/i=gd):=((GB.refl w1 _).grown g2 (λq e=>.inl (.inl e))).trans g3 (λi e=>.inl (.inr e));have x03:GB w w3 (λi=>i=gc\/(Value.slice WA l.wr.length wc).ownBlock=some i\/i=gd):=(k2.more (λi _ e=>.inl e)).trans x13 (λi e=>.inl (.inr e));have hT:∀b,T b->¬(b=gc\/(Value.slice WA l.wr.length wc).ownBlock=some b\/b=gd):=λb hb9 e=>by
  rcases e with e|e|e
  ·exact(h12 b hb9).2 (by rw[e];exact hb.1)
  ·exact(h7 b e).2.2 hb9
  ·exact hgd (e ▸ (h12 b hb9).1)
 have hz1:=k2.size;rw[ZDS hs];refine⟨B,TA,cb,tc,tk,L',T,q1.trans h1,q2,q3.trans h3,q4.trans h4,q5.trans h5,g3.own o2 (λq e e9=>?_),λq e=>?_,h8,⟨h9.1,x03.rd h9.2.1 (λa ha=>hT _ (h10 a ha)),h9.2.2.gbk h11 x03 hT⟩,h10,h11,λb hb9=>⟨.inl (h12 b hb9).1,λe=>(h12 b hb9).2 (k3 b e)⟩,λb hb9=>.inl (h13 b (k3 b hb9)),base,gc,r,RO,q0.trans e1,k1.gb x13 (λb e=>?_),λb hb9=>⟨.inl (e3 b hb9).1,λe=>?_⟩⟩
 ·rcases b2 with b2|b2
  ·rw[b2]at e;exact hgd (e9 ▸ (h7 q e).1)
  ·rw[b2]at e;injection e with e;omega
 ·rcases b2 with b2|b2
  ·rw[b2]at e;exact⟨.inl (h7 q e).1,λe9=>(h7 q e).2.1 (k3 q e9),(h7 q e).2.2⟩
  ·have hq:=(o2.lt q e).2;have hq3:=g3.size;rw[b2]at e;injection e with e;exact⟨.inr ⟨by omega,by omega⟩,λe9=>by have:=(hb.2.1 q (k3 q e9)).2;omega,λe9=>by have:=hD q (h12 q e9).1;omega⟩
 ·rcases e with e|e
  ·exact⟨λe9=>(h7 b e).2.1 (k3 b e9),λe9=>(e3 b e9).2 e⟩
  ·exact⟨λe9=>hgd (e ▸ h13 b (k3 b e9)),λe9=>hgd (e ▸ (e3 b e9).1)⟩
 ·rcases b2 with b2|b2
  ·rw[b2]at e;exact(e3 b hb9).2 e
  ·rw[b2]at e;injection e with e;have:=(hb.2.2 b hb9).2.2;omega
theorem ZAZ {W:World}{gd:Nat}{cs:Array Value}{t:TypeId}(hb:W.heap[gd]?=some (.cells cs t (0,0))){n k0:Nat}{v:Nat->Value}(hk0:k0<6)(hv:∀k,k<6->cs[1+n*6+k]?=some (v k))(x:Value): (W.setCell ⟨gd,1+n*6+k0,none⟩ x).heap[gd]?=some (.cells (cs.setIfInBounds (1+n*6+k0) x) t (0,0))/\(∀k,k<6->(cs.setIfInBounds (1+n*6+k0) x)[1+n*6+k]?=some (Z5 v k0 x k))/\ ∀j,j<1+n*6\/7+n*6<=j->(cs.setIfInBounds (1+n*6+k0) x)[j]?=cs[j]?:=by
 refine⟨ZU hb _ x,λk hk=>?_,λj hj=>?_⟩
 ·by_cases e:k=k0
  ·subst e;rw[Zt,ZaR];exact(ZaP.1 (hv k hk)).1
  ·rw[Zx _ _ e,ZaQ ZB];exact hv k hk
 ·rw[ZaQ ZB]
theorem Ym.lineA {w:World}{gd:Nat}{g:YE}{C:Zdb}{xb:Nat->Nat}{L:List Zf}{ks:YF}{dr:Bool}{ls:Nat->LSt}{D:Nat->Nat->Prop}(h:Ym w gd g C xb L ks dr ls D){n:Nat}(hn:n<63): ∃(cs:Array Value) (t:TypeId) (v:Nat->Value),w.heap[gd]?=some (.cells cs t (0,0))/\(∀k,k<6->cs[1+n*6+k]?=some (v k))/\ZAx w (D n) v (ls n)/\(∀i,D n i->i≠gd/\i<w.heap.size)/\cs[379]?=some (.bool dr)/\(∀i,D n i->¬C i)/\¬C gd/\ ∀w' cs' D2 v2 l2,GB w w' (λi=>i=gd\/D n i)->w'.heap[gd]?=some (.cells cs' t (0,0))->(∀k,k<6->cs'[1+n*6+k]?=some (v2 k))->(∀j,j<1+n*6\/7+n*6<=j->cs'[j]?=cs[j]?)-> ZAx w' D2 v2 l2->(∀i,D2 i->(D n i\/w.heap.size<=i)/\i<w'.heap.size)-> Ym w' gd g C xb L ks dr (Z5 ls n l2) (Z5 D n D2)/\GB w w' (Xm gd C D)/\∀i,Xm gd C (Z5 D n D2) i->Xm gd C D i\/w.heap.size<=i:=by
 obtain⟨v,hv,-,hln,hD,hgd,hdr,nC,ng,hgo⟩:=h.line hn;obtain⟨cs,t,hb⟩:∃cs t,w.heap[gd]?=some (.cells cs t (0,0)):=by
  obtain⟨lv,-,h2,-⟩:=h;exact h2
 refine⟨cs,t,v,hb,λk hk=>(ZE hb _).symm.trans (hv k hk),hln,hD,(ZE hb _).symm.trans hdr,nC,ng,λw' cs' D2 v2 l2 gb hb' hv' hj hl hd=>?_⟩;exact hgo w' D2 v2 l2 gb ⟨cs',t,hb'⟩ (λk hk=>(ZE hb' _).trans (hv' k hk)) (λj hj'=>by rw[ZE hb',ZE hb];exact hj j hj') hl hd
theorem ZGs.ok {D:Zdb}{w w':World}(hD:∀i,D i->i<w.heap.size)(hs:w.heap.size<=w'.heap.size):∀i,ZGs D w w' i->(D i\/w.heap.size<=i)/\i<w'.heap.size:=λi hi=>by
 rcases hi with hi|hi
 ·exact⟨.inl hi,Zb5 (hD i hi) hs⟩
 ·exact⟨.inr hi.1,hi.2⟩
theorem Ym.conn {w:World}{gd:Nat}{g:YE}{C:Zdb}{xb:Nat->Nat}{L:List Zf}{ks:YF}{dr:Bool}{ls:Nat->LSt}{D:Nat->Nat->Prop}(h:Ym w gd g C xb L ks dr ls D){n:Nat}(hn:n<63){s:JS}(hs:(ls n).cn=some s): ∃base gc r Lb RO,w.cell? ⟨gd,1+n*6,none⟩=some (ZH gc)/\Zu w base Lb RO gc r s/\some gd ∉ Lb/\(∀b,some b ∈ Lb->b<w.heap.size)/\some g.gx ∉ Lb/\gd<w.heap.size/\ ∀w' s',YX w base Lb RO gc r s' w'->Ym w' gd g C xb L ks dr (Z5 ls n {ls n with cn:=some s'}) (Z5 D n (ZGs (D n) w w'))/\GB w w' (Xm gd C D)/\∀i,Xm gd C (Z5 D n (ZGs (D n) w w')) i->Xm gd C D i\/w.heap.size<=i:=by
 obtain⟨v,hv,hf,hl,hD,hgd,hdr,nC,ngd,hgo⟩:=h.line hn;obtain⟨base,gc,r,Lb,RO,h0,hc,hLD,hcg⟩:=hl.conn (λi hi=>(hD i hi).2) hs;have hnb:some gd ∉ Lb:=λe=>(hD gd (hLD gd e)).1 rfl;have hgx:C g.gx:=by
  obtain⟨lv,h1,-⟩:=h;obtain⟨Fm,fs,hv,tx,tl,tb,th,h1⟩:=h1;exact h1.cx
 refine⟨base,gc,r,Lb,RO,by have:=hv 0 ZB;rw[h0]at this;exact this,hc,hnb,λb hb=>(hD b (hLD b hb)).2,λe=>nC _ (hLD _ e) hgx,hgd,λw' s' hg=>?_⟩;have hl':=hcg w' s' hg;obtain⟨L',RO',g1,g2,g3,g4⟩:=hg;have ng:¬(some gd ∈ Lb):=hnb;obtain⟨cs,t,hb⟩:∃cs t,w.heap[gd]?=some (.cells cs t (0,0)):=by
  obtain⟨lv,-,h2,-⟩:=h;exact h2
 refine hgo w' _ v _ (g2.more (λi _ e=>.inr (hLD i e))) ⟨cs,t,g2.blk hb ng⟩ (λk hk=>g2.cell (hv k hk) ng) (λj _=>ZcQ (g2.block gd hgd ng)) hl' (λi hi=>⟨hi.imp id (λe=>e.1),hi.elim (λe=>Zb5 (hD i e).2 g2.size) (λe=>e.2)⟩)
def ZQm (w:World)(gd:Nat)(g:YE)(C:Zdb)(xb:Nat->Nat)(L:List Zf)(ks:YF)(dr:Bool)(ls:Nat->LSt)(D:Nat->Nat->Prop)(n:Nat)(w':World):Prop:=∃D',Ym w' gd g C xb L ks dr (Z5 ls n (Jo (ls n))) D'/\GB w w' (Xm gd C D)/\∀i,Xm gd C D' i->Xm gd C D i\/w.heap.size<=i
theorem ZLw (w:World)(gd:Nat)(g:YE)(C:Zdb)(xb:Nat->Nat)(L:List Zf)(ks:YF)(dr:Bool)(ls:Nat->LSt)(D:Nat->Nat->Prop)(n bx:Nat)(s:JS)(u:FrameMode)(h:Ym w gd g C xb L ks dr ls D)(hn:n<63)(hs:(ls n).cn=some s)(cb:w.cell? ⟨bx,0,none⟩=some (.pointer (some ⟨gd,1+n*6,none⟩)))(hbx:¬Xm gd C D bx)(hl1:(ls n).wr.length<=1000000)(hl2:s.wr.length<=1000000): CallsD Tryz.prog 100 #[.pointer (some ⟨bx,0,none⟩)] u w λe u' w'=>u'=u/\(e=.returned (.tuple #[])/\ZQm w gd g C xb L ks dr ls D n w'):=by
 obtain⟨cs,tt,v,hb,hv,hln,hD,-,-,-,hgo⟩:=h.lineA hn;have hgd:=ZW hb;obtain⟨WA,wc,base,gc,r,Lb,RO,v0,v2,hca,hDc,how,hwa,hfin⟩:=hln.taken (λi hi=>(hD i hi).2) hs;have c0:w.cell? ⟨gd,1+n*6,none⟩=some (ZH gc):=(ZE hb _).trans (by rw[<-v0];exact hv 0 ZB);have c2:w.cell? ⟨gd,1+n*6+2,none⟩=some (.slice WA (ls n).wr.length wc):=(ZE hb _).trans (by rw[<-v2];exact hv 2 ZB);have f2:=ZF hb (1+n*6+2);have TK:=ZA (λu (y:ZL w u)=>ZHu u base gc r Lb RO s (hca.ext y));obtain⟨m,Hm⟩:=ZTy ((ls n).wr.length);obtain⟨k,Hs⟩:=ZTy (s.wr.length);rw[Hm.o]at c2 how hl1 hwa;rw[Hs.o]at TK hl2;have HO:=ZA how;have C2:=ZA c2;have NGD:=ZA (show ¬gd=gc from λe=>(hD gc hDc).1 e.symm);have NBX:=ZA (show ¬bx=gc from λe=>hbx (.inr (.inr ⟨n,e ▸ hDc⟩)));have NWA:=ZA hwa;have NGW:=ZA (show ∀q,(Value.slice WA m wc).ownBlock=some q->¬q=gd from λq e=>(hD q (hwa q e).1).1);have NBW:=ZA (show ∀q,(Value.slice WA m wc).ownBlock=some q->¬q=bx from λq e e9=>hbx (.inr (.inr ⟨n,e9 ▸ (hwa q e).1⟩)));have HB:=ZA hb;have HGO:=ZA hgo;have HFIN:=ZA hfin;have HV:=ZA hv;have HD:=ZA hD;have HS:=ZA hs;have HDG:=ZA hDc;clear h hgo hfin hv hD how hwa hca hbx hb v0 v2 hln hs hDc
 go_enter_d Tryz.func100,Tryz.ntmps100
 go_upto_region 0 with fail;refine JZ (λu=>u.cell? ⟨bx,0,none⟩=some (.pointer (some ⟨gd,1+n*6,none⟩))/\u.cell? ⟨gd,1+n*6+2,none⟩=some (.slice WA m wc)/\u.cell? ⟨gd,1+n*6,none⟩=some (ZH gc)) [13] ZC ?_;have hHeld:=And.intro (ZK cb) (And.intro (ZK c2) (ZK c0));have XD:ZL w w.drew:=(ZL.refl w).drew;clear c0 c2 cb;generalize w.drew=U at XD hHeld ⊢;refine ZT1 (i:=0) (v:=?_) rfl (Or.inl ⟨by rfl,?_⟩) (by assumption) ?_
 rotate_left
 ·intro w hSw;(try dsimp only at hSw);go_simp
  (try with_reducible rfl)
 (try simp only[Act.put])
 refine ZT1 (i:=1) (v:=?_) rfl (Or.inl ⟨by rfl,?_⟩) (by assumption) ?_
 rotate_left
 ·intro w hSw;(try dsimp only at hSw);go_simp
  (try with_reducible rfl)
 (try simp only[Act.put])
 refine ZT0 (i:=2) (v:=?_) rfl (Or.inl ⟨by rfl,?_⟩) (YL.of hHeld) ?_
 rotate_left
 ·intro w _;go_simp
  (try with_reducible rfl)
 (try simp only[Act.put])
 refine ZT0 (i:=3) (v:=?_) rfl (Or.inl ⟨by rfl,?_⟩) (YL.of hHeld) ?_
 rotate_left
 ·intro w _;go_simp
  (try with_reducible rfl)
 (try simp only[Act.put])
 refine ZT1 (i:=4) (v:=?_) rfl (Or.inl ⟨by rfl,?_⟩) (by assumption) ?_
 rotate_left
 ·intro w hSw;(try dsimp only at hSw);go_simp
  (try with_reducible rfl)
 (try simp only[Act.put])
 refine ZT1 (i:=5) (v:=?_) rfl (Or.inl ⟨by rfl,?_⟩) (by assumption) ?_
 rotate_left
 ·intro w hSw;(try dsimp only at hSw);go_simp
  (try with_reducible rfl)
 (try simp only[Act.put])
 refine ZT0 (i:=6) (v:=?_) rfl (Or.inl ⟨by rfl,?_⟩) (YL.of hHeld) ?_
 rotate_left
 ·intro w _;go_simp
  (try with_reducible rfl)
 (try simp only[Act.put])
 refine ZT0 (i:=7) (v:=?_) rfl (Or.inl ⟨by rfl,?_⟩) (YL.of hHeld) ?_
 rotate_left
 ·intro w _;go_simp
  (try with_reducible rfl)
 (try simp only[Act.put])
 refine ZT1 (i:=8) (v:=?_) rfl (Or.inl ⟨by rfl,?_⟩) (by assumption) ?_
 rotate_left
 ·intro w hSw;(try dsimp only at hSw);go_simp
  (try with_reducible rfl)
 (try simp only[Act.put])
 refine ZY (rs:=[9]) ZC ZTv (ZN.cons (o:=_) rfl (λK' hK=>?_) ZN.nil);have d2:=hHeld.2.1;have d0:=hHeld.2.2;have db:=hHeld.1
 go_simp
 refine(TK.out U XD).mono ?_;rintro e w1 ⟨TA,tc,L',rfl,hca,hgb,hsub,hown,-⟩;have HCA:=ZA hca;have HGU:=ZA hgb;have HGB:=ZA (GB.back XD hgb);have HSUB:=ZA hsub;have HOWN:=ZA hown;have r2:=hgb.cell d2 NGD.o;have r0:=hgb.cell d0 NGD.o;have F2:=ZLm hgb d2 (ZAc XD C2.o f2) NGD.o;have rb:=hgb.cell db NBX.o;clear hca hgb hsub hown d0 d2 hHeld db;refine hK.out _ _ ⟨rb,r2,r0⟩ ?_;clear hK K'
 (try simp only[Act.put])
 refine ZY (rs:=[10]) ZC ZTv (ZN.cons (o:=_) rfl (λK' hK=>?_) ZN.nil);refine Jb w1 rfl (.tmp 5) (.tmp 10) rfl 0 ZTw (HGB.o.own HO.o (λq e=>(NWA.o q e).2)) ZTw Hs.o (Rd.of_own HOWN.o) ZB (ZcL _) ?_;intro B' cb' w6 o6 g6 b6;have hq2:=g6.cell r2 (λe=>NGW.o _ e.symm rfl);have hq0:=g6.cell r0 (λe=>NGW.o _ e.symm rfl);have Z2:=ZB2 g6 r2 F2 (λe=>NGW.o _ e rfl);have hqb:=g6.cell rb (λe=>NBW.o _ e.symm rfl);have O6:=ZA o6;have G6:=ZA g6;have B6:=ZA b6;clear o6 g6 b6 r2 r0 rb;refine hK.out _ _ ⟨hqb,hq2,hq0⟩ ?_;clear hK K'
 (try simp only[Act.put])
 refine ZY (rs:=[11]) ZC ZTv (ZN.cons (o:=_) rfl (λK' hK=>?_) ZN.nil)
 go_simp
 refine hK.out _ _ ⟨hqb,hq2,hq0⟩ ?_;clear hK K'
 (try simp only[Act.put])
 refine ZY (rs:=[12]) ZC ZTv (ZN.cons (o:=_) rfl (λK' hK=>?_) ZN.nil)
 go_simp
 refine hK.out _ _ ⟨hqb,hq2,hq0⟩ ?_;clear hK K'
 (try simp only[Act.put])
 refine ZY (rs:=[13]) ZC ZTv (ZN.last (o:=_) ZC rfl (λK' hK=>?_) ZN.nil)
 go_simp
 refine hK.out _ _ ?_;clear hK K';refine Ja ZC ?_ _
 go_end0
 refine⟨rfl,?_⟩;have hb6:=((GB.refl w1 (λi=>(Value.slice WA m wc).ownBlock=some i)).grown G6.o (λq e=>.inl e)).blk (HGB.o.blk HB.o NGD.o) (λe=>NGW.o _ e rfl);obtain⟨hb7,hv7,hj7⟩:=ZAZ hb6 (n:=n) (k0:=2) (v:=v) ZB HV.o (.slice B' (m+k) cb');have g7:GB w6 (w6.setCell ⟨gd,1+n*6+2,none⟩ (.slice B' (m+k) cb')) (· =gd):=(GB.refl w6 (· =gd)).set gd _ _ (.inl rfl);have g06:GB w w6 (λi=>i=gd\/D n i):=(HGB.o.more (λi _ (e:i=gc)=>.inr (by rw[e];exact HDG.o))).grown G6.o (λq e=>.inl (.inr (NWA.o q e).1));have hln:=HFIN.o w1 L' HCA.o HGB.o HSUB.o w6 B' (m+k) cb' (by rw[Za9,Hm.o,Hs.o]) O6.o (by rw[Hm.o];exact G6.o) (by rw[Hm.o];exact B6.o) _ (Z5 v 2 (.slice B' (m+k) cb')) gd g7 (λe=>(HD.o gd e).1 rfl) (ZW HB.o) (Zx _ _ ZB) (Zx _ _ ZB) (Zt _ _ _) (Zx _ _ ZB) (Zx _ _ ZB) (Zx _ _ ZB);have g07:=g06.trans g7 (λi e=>.inl (.inl e));obtain⟨a1,a2,a3⟩:=HGO.o _ _ _ _ _ g07 hb7 hv7 hj7 hln (ZGs.ok (λi hi=>(HD.o i hi).2) g07.size);exact⟨_,a1,a2,a3⟩
def ZTW (w:World)(gd:Nat)(g:YE)(C:Zdb)(xb:Nat->Nat)(L:List Zf)(ks:YF)(dr:Bool)(ls:Nat->LSt)(D:Nat->Nat->Prop)(n:Nat)(w':World):Prop:=∃D',Ym w' gd g C xb L ks dr (Z5 ls n (ZGQ (ls n))) D'/\GB w w' (Xm gd C D)/\∀i,Xm gd C D' i->Xm gd C D i\/w.heap.size<=i
theorem ZTH (w:World)(gd:Nat)(g:YE)(C:Zdb)(xb:Nat->Nat)(L:List Zf)(ks:YF)(dr:Bool)(ls:Nat->LSt)(D:Nat->Nat->Prop)(n:Nat)(s:JS)(h:Ym w gd g C xb L ks dr ls D)(hn:n<63)(hs:(ls n).cn=some s)(hl1:(ls n).wr.length<=1000000)(hl2:s.wr.length<=1000000)(hl3:s.led.length<=100000)(hkl:∀t ∈ s.led,t.key.length<=5000): Calls Tryz.prog 60 #[.pointer (some ⟨gd,1+n*6,none⟩)] w λe w'=>e=.returned (.tuple #[])/\ZTW w gd g C xb L ks dr ls D n w':=by
 obtain⟨cs,tt,v,hb,hv,hln,hD,-,-,-,hgo⟩:=h.lineA hn;have hgd:=ZW hb;obtain⟨WA,wc,base,gc,r,Lb,RO,v0,v2,hca,hDc,how,hwa,hfin⟩:=hln.taken (λi hi=>(hD i hi).2) hs;have c0:w.cell? ⟨gd,1+n*6,none⟩=some (ZH gc):=(ZE hb _).trans (by rw[<-v0];exact hv 0 ZB);have c2:w.cell? ⟨gd,1+n*6+2,none⟩=some (.slice WA (ls n).wr.length wc):=(ZE hb _).trans (by rw[<-v2];exact hv 2 ZB);have f2:=ZF hb (1+n*6+2);have TK:=ZA (λu (y:ZL w u)=>ZHu u base gc r Lb RO s (hca.ext y));obtain⟨m,Hm⟩:=ZTy ((ls n).wr.length);obtain⟨k,Hs⟩:=ZTy (s.wr.length);rw[Hm.o]at c2 how hl1 hwa;rw[Hs.o]at TK hl2;have HO:=ZA how;have C2:=ZA c2;have NGD:=ZA (show ¬gd=gc from λe=>(hD gc hDc).1 e.symm);have NWA:=ZA hwa;have NGW:=ZA (show ∀q,(Value.slice WA m wc).ownBlock=some q->¬q=gd from λq e=>(hD q (hwa q e).1).1);have HB:=ZA hb;have HGO:=ZA hgo;have HFIN:=ZA hfin;have HV:=ZA hv;have HD:=ZA hD;have HS:=ZA hs;have HDG:=ZA hDc;clear h hgo hfin hv hD how hwa hca hb v0 v2 hln hs hDc;go_enter Tryz.func60,Tryz.ntmps60;go_upto_region 0 with fail
 go_cut [] (λwd=>ZQm w gd g C xb L ks dr ls D n wd)
 case first=>
  refine JZ (λu=>u.cell? ⟨gd,1+n*6+2,none⟩=some (.slice WA m wc)/\u.cell? ⟨gd,1+n*6,none⟩=some (ZH gc)) [13] ZC ?_;have hHeld:=And.intro (ZK c2) (ZK c0);have XD:ZL w w.drew:=(ZL.refl w).drew;clear c0 c2;generalize w.drew=U at XD hHeld ⊢;refine ZT0 (i:=0) (v:=?_) rfl (Or.inl ⟨by rfl,?_⟩) (YL.of hHeld) ?_
  rotate_left
  ·intro w _;go_simp
   (try with_reducible rfl)
  (try simp only[Act.put])
  refine ZT0 (i:=1) (v:=?_) rfl (Or.inl ⟨by rfl,?_⟩) (YL.of hHeld) ?_
  rotate_left
  ·intro w _;go_simp
   (try with_reducible rfl)
  (try simp only[Act.put])
  refine ZT0 (i:=2) (v:=?_) rfl (Or.inl ⟨by rfl,?_⟩) (YL.of hHeld) ?_
  rotate_left
  ·intro w _;go_simp
   (try with_reducible rfl)
  (try simp only[Act.put])
  refine ZT0 (i:=3) (v:=?_) rfl (Or.inl ⟨by rfl,?_⟩) (YL.of hHeld) ?_
  rotate_left
  ·intro w _;go_simp
   (try with_reducible rfl)
  (try simp only[Act.put])
  refine ZT1 (i:=4) (v:=?_) rfl (Or.inl ⟨by rfl,?_⟩) (by assumption) ?_
  rotate_left
  ·intro w hSw;(try dsimp only at hSw);go_simp
   (try with_reducible rfl)
  (try simp only[Act.put])
  refine ZT0 (i:=5) (v:=?_) rfl (Or.inl ⟨by rfl,?_⟩) (YL.of hHeld) ?_
  rotate_left
  ·intro w _;go_simp
   (try with_reducible rfl)
  (try simp only[Act.put])
  refine ZT0 (i:=6) (v:=?_) rfl (Or.inl ⟨by rfl,?_⟩) (YL.of hHeld) ?_
  rotate_left
  ·intro w _;go_simp
   (try with_reducible rfl)
  (try simp only[Act.put])
  refine ZT0 (i:=7) (v:=?_) rfl (Or.inl ⟨by rfl,?_⟩) (YL.of hHeld) ?_
  rotate_left
  ·intro w _;go_simp
   (try with_reducible rfl)
  (try simp only[Act.put])
  refine ZT1 (i:=8) (v:=?_) rfl (Or.inl ⟨by rfl,?_⟩) (by assumption) ?_
  rotate_left
  ·intro w hSw;(try dsimp only at hSw);go_simp
   (try with_reducible rfl)
  (try simp only[Act.put])
  refine ZY (rs:=[9]) ZC ZTv (ZN.cons (o:=_) rfl (λK' hK=>?_) ZN.nil);have d2:=hHeld.1;have d0:=hHeld.2
  go_simp
  refine(TK.out U XD).mono ?_;rintro e w1 ⟨TA,tc,L',rfl,hca,hgb,hsub,hown,-⟩;have HCA:=ZA hca;have HGU:=ZA hgb;have HGB:=ZA (GB.back XD hgb);have HSUB:=ZA hsub;have HOWN:=ZA hown;have r2:=hgb.cell d2 NGD.o;have r0:=hgb.cell d0 NGD.o;have F2:=ZLm hgb d2 (ZAc XD C2.o f2) NGD.o;clear hca hgb hsub hown d0 d2 hHeld;refine hK.out _ _ ⟨r2,r0⟩ ?_;clear hK K'
  (try simp only[Act.put])
  refine ZY (rs:=[10]) ZC ZTv (ZN.cons (o:=_) rfl (λK' hK=>?_) ZN.nil);refine Jb w1 rfl (.tmp 6) (.tmp 11) rfl 0 ZTw (HGB.o.own HO.o (λq e=>(NWA.o q e).2)) ZTw Hs.o (Rd.of_own HOWN.o) ZB (ZcL _) ?_;intro B' cb' w6 o6 g6 b6;have hq2:=g6.cell r2 (λe=>NGW.o _ e.symm rfl);have hq0:=g6.cell r0 (λe=>NGW.o _ e.symm rfl);have Z2:=ZB2 g6 r2 F2 (λe=>NGW.o _ e rfl);have O6:=ZA o6;have G6:=ZA g6;have B6:=ZA b6;clear o6 g6 b6 r2 r0;refine hK.out _ _ ⟨hq2,hq0⟩ ?_;clear hK K'
  (try simp only[Act.put])
  refine ZY (rs:=[11]) ZC ZTv (ZN.cons (o:=_) rfl (λK' hK=>?_) ZN.nil)
  go_simp
  refine hK.out _ _ ⟨hq2,hq0⟩ ?_;clear hK K'
  (try simp only[Act.put])
  refine ZY (rs:=[12]) ZC ZTv (ZN.cons (o:=_) rfl (λK' hK=>?_) ZN.nil)
  go_simp
  refine hK.out _ _ ⟨hq2,hq0⟩ ?_;clear hK K'
  (try simp only[Act.put])
  refine ZY (rs:=[13]) ZC ZTv (ZN.last (o:=_) ZC rfl (λK' hK=>?_) ZN.nil)
  go_simp
  refine hK.out _ _ ?_;clear hK K';refine Ja ZC ?_ _;have hb6:=((GB.refl w1 (λi=>(Value.slice WA m wc).ownBlock=some i)).grown G6.o (λq e=>.inl e)).blk (HGB.o.blk HB.o NGD.o) (λe=>NGW.o _ e rfl);obtain⟨hb7,hv7,hj7⟩:=ZAZ hb6 (n:=n) (k0:=2) (v:=v) ZB HV.o (.slice B' (m+k) cb');have g7:GB w6 (w6.setCell ⟨gd,1+n*6+2,none⟩ (.slice B' (m+k) cb')) (· =gd):=(GB.refl w6 (· =gd)).set gd _ _ (.inl rfl);have g06:GB w w6 (λi=>i=gd\/D n i):=(HGB.o.more (λi _ (e:i=gc)=>.inr (by rw[e];exact HDG.o))).grown G6.o (λq e=>.inl (.inr (NWA.o q e).1));have hln:=HFIN.o w1 L' HCA.o HGB.o HSUB.o w6 B' (m+k) cb' (by rw[Za9,Hm.o,Hs.o]) O6.o (by rw[Hm.o];exact G6.o) (by rw[Hm.o];exact B6.o) _ (Z5 v 2 (.slice B' (m+k) cb')) gd g7 (λe=>(HD.o gd e).1 rfl) (ZW HB.o) (Zx _ _ ZB) (Zx _ _ ZB) (Zt _ _ _) (Zx _ _ ZB) (Zx _ _ ZB) (Zx _ _ ZB);have g07:=g06.trans g7 (λi e=>.inl (.inl e));obtain⟨a1,a2,a3⟩:=HGO.o _ _ _ _ _ g07 hb7 hv7 hj7 hln (ZGs.ok (λi hi=>(HD.o i hi).2) g07.size);go_wp2_with fail
  go_meet
  exact⟨_,a1,a2,a3⟩
 case rest=>
  obtain⟨D',h1,g1,n1⟩:=hcut;obtain⟨base,gc,r,Lb,RO,c0,hcn,ngd,-,-,-,hcg⟩:=h1.conn hn (s:={s with wr:=[]}) (by rw[Zt,ZDS HS.o]);have hcb:=hcn.bounds.1;have HU:=ZA (ZKM wc base gc r Lb RO {s with wr:=[]} hcn hl3 hkl);have HCG:=ZA hcg;have G1:=ZA g1;have N1:=ZA n1;clear h1 g1 n1 hcn hcg;go_wp2_with fail;refine HU.o.mono ?_;rintro e w2 ⟨A2,c2,k2,L2,rfl,h2,-,x2,y2⟩;obtain⟨b1,b2,b3⟩:=HCG.o w2 (ZEw {s with wr:=[]}) ⟨L2,RO,h2,x2.more (λi _ (e:i=gc)=>by rw[e];exact hcb),λb e=>.inl (y2 b e),λb e=>.inl e⟩;rw[ZBH,Zt]at b1;obtain⟨cs2,t2,v2,hb2,hv2,hln2,hD2,-,-,-,hgo2⟩:=b1.lineA hn;rw[Zt,Zt]at hln2;rw[Zt]at hD2 hgo2;obtain⟨hb8,hv8,hj8⟩:=ZAZ hb2 (n:=n) (k0:=1) (v:=v2) ZB hv2 (.int .i64 2);have q1:w2.cell? ⟨gd,1+n*6+1,none⟩=some (v2 1):=(ZE hb2 _).trans (hv2 1 ZB);have q1f:=ZF hb2 (1+n*6+1);have HGO2:=ZA hgo2;have HD2:=ZA hD2;have HLN2:=ZA hln2;have HB8:=ZA hb8;have HV8:=ZA hv8;have HJ8:=ZA hj8;have B2:=ZA b2;have B3:=ZA b3;have HB2:=ZA hb2;clear hgo2 hD2 hln2 hb8 hv8 hj8 b1 b2 b3 hb2 hv2 h2 x2 y2;go_wp2_with fail
  go_end0
  refine⟨rfl,?_⟩;have g8:GB w2 (w2.setCell ⟨gd,1+n*6+1,none⟩ (.int .i64 2)) (· =gd):=(GB.refl w2 (· =gd)).set gd _ _ (.inl rfl);have hln:=(HLN2.o.gb g8 (λi hi e=>(HD2.o i hi).1 e)).state (v':=Z5 v2 1 (.int .i64 2)) (st:=2) (Zx _ _ ZB) (Zt _ _ _) (Zx _ _ ZB) (Zx _ _ ZB) (Zx _ _ ZB) (Zx _ _ ZB);obtain⟨a1,a2,a3⟩:=HGO2.o _ _ _ _ _ (g8.more (λi _ e=>.inl e)) HB8.o HV8.o HJ8.o hln (λi hi=>⟨.inl hi,by simpa using(HD2.o i hi).2⟩);rw[ZBH,ZLe HS.o]at a1;refine⟨_,a1,?_,λi hi=>?_⟩
  ·exact(G1.o.trans B2.o N1.o).trans a2 (λi hi=>(B3.o i hi).elim (N1.o i) (λe=>.inr (Zb2 G1.o.size e)))
  ·rcases a3 i hi with e|e
   ·rcases B3.o i e with e|e
    ·exact N1.o i e
    ·exact .inr (Zb2 G1.o.size e)
   ·exact .inr (Zb2 (Zb2 G1.o.size B2.o.size) e)
def ZKf (g:YE)(ks:YF)(who:Nat):Prop:=∀(w:World) (O C:Zdb) (xb:Nat->Nat) (L:List Zf),YK w g O C xb L ks->L.length<=100000-> Calls Tryz.prog 16 #[ZH g.gx,.int .i64 (who:Int)] w (ZCr w g O C xb L ks who)
theorem ZRj (w:World)(gd:Nat)(g:YE)(C:Zdb)(xb:Nat->Nat)(L:List Zf)(ks:YF)(dr:Bool)(ls:Nat->LSt)(D:Nat->Nat->Prop)(n:Nat)(h:Ym w gd g C xb L ks dr ls D)(hn:n<63)(hL:L.length<=100000)(ok:ZKf g ks n)(hk:(YA g.P g.room ks n).2=none): Calls Tryz.prog 102 #[ZH gd,.int .i64 (n:Int),.pointer (some ⟨gd,1+n*6,none⟩)] w λe w'=>e=.returned (.tuple #[])/\Xt w gd g C D (L.length+1) (YA g.P g.room ks n).1 dr ls w':=by
 obtain⟨h1,c0,hgd,hgo⟩:=h.core;have ST:=ZA (ok w (DO gd D) C xb L h1 hL);unfold ZCr at ST;rw[hk]at ST;have HG:=ZA hgo;clear h h1 hgo;go_enter Tryz.func102,Tryz.ntmps102;go_wp2_with fail;refine ST.o.mono ?_;rintro e w1 ⟨L',C',hl,rfl,hm⟩;have HM:=ZA hm;clear hm;go_wp2_with fail
 go_end0
 obtain⟨a1,a2,a3⟩:=HG.o _ _ _ _ _ HM.o;exact⟨rfl,C',xb,L',D,hl,a1.ext ((ZL.refl w1).alloc _),a2.alloc _,a3⟩
theorem ZQI (w:World)(gd:Nat)(g:YE)(C:Zdb)(xb:Nat->Nat)(L:List Zf)(ks:YF)(dr:Bool)(ls:Nat->LSt)(D:Nat->Nat->Prop)(n:Nat)(h:Ym w gd g C xb L ks dr ls D)(hn:n<63)(hL:L.length<=100000)(ok:ZKf g ks n)(rp:YH)(hk:(YA g.P g.room ks n).2=some rp)(hrel:(ls n).rel=false)(s:JS)(hs:(ls n).cn=some s)(hi:ZBk s)(hwr:s.wr.length<=1000000)(hled:s.led.length<=100000 - 1)(c:Z3)(ho:s.out=some c)(hrp:ZBc rp): Calls Tryz.prog 102 #[ZH gd,.int .i64 (n:Int),.pointer (some ⟨gd,1+n*6,none⟩)] w λe w'=>e=.returned (.tuple #[])/\Xt w gd g C D (L.length+1) (YA g.P g.room ks n).1 dr (Z5 ls n (Xh (ls n) rp)) w':=by
 obtain⟨h1,c0,hgd,hgo⟩:=h.core;have ST:=ZA (ok w (DO gd D) C xb L h1 hL);unfold ZCr at ST;rw[hk]at ST
 dsimp only[Option.isSome,Option.getD]at ST
 have HG:=ZA hgo;clear h h1 hgo;obtain⟨s2,Hs2⟩:=ZTy ((YA g.P g.room ks n).1);rw[Hs2.o]at ST ⊢;go_enter Tryz.func102,Tryz.ntmps102;go_wp2_with fail;refine ST.o.mono ?_;rintro e w1 ⟨L',C',hl,rfl,hm⟩;obtain⟨a1,a2,a3⟩:=HG.o _ _ _ _ _ hm;obtain⟨W,hW⟩:=ZTz ((w1.alloc (.cells #[.bool true,.int .i64 (rp.er:Int),.bool rp.granted,.int .i64 rp.left,.int .i64 rp.wait,.int .i64 rp.ser,.int .i64 rp.now] 41)));have xW:ZL w1 W:=by rw[<-hW];exact(ZL.refl w1).alloc _
 have K0:=ZA (show W.heap[w1.heap.size]?=some (.cells #[.bool true,.int .i64 (rp.er:Int),.bool rp.granted,.int .i64 rp.left,.int .i64 rp.wait,.int .i64 rp.ser,.int .i64 rp.now] 41 (0,0)) by rw[<-hW];exact ZM w1 _);have A2:=ZA a2;have A3:=ZA a3;have XW:=ZA xW;obtain⟨base,gc,r,Lb,RO,l0,hc,ngd,hlt,-,-,hcg⟩:=a1.conn hn hs;obtain⟨cs,t,v,hb,hv,hln,-⟩:=a1.lineA hn;obtain⟨-,-,-,-,-,-,-,-,-,v3,-⟩:=hln;rw[hrel]at v3;have l3:w1.cell? ⟨gd,1+n*6+3,none⟩=some (.bool false):=(ZE hb _).trans (by rw[<-v3];exact hv 3 ZB);have RP:=ZA (λu (y:ZL W u)=>ZKF u base gc r Lb RO s (hc.ext (xW.trans y)) hi hwr hled c ho rp.er hrp.1 rp.granted rp.left rp.wait rp.ser rp.now);have HCG:=ZA hcg;have HR:=ZA (ZBM hrp);have HS:=ZA hs;have HO:=ZA ho;have HL:=ZA hl;clear hm a1 a2 a3 hc hcg hb hv v3 hi hwr hled hrp hrel hl hs ho;have p3:=ZG xW l3;have e0:=ZTx K0.o 0 (.bool true);have e1:=ZTx K0.o 1 (.int .i64 (rp.er:Int));have e2:=ZTx K0.o 2 (.bool rp.granted);have e3:=ZTx K0.o 3 (.int .i64 rp.left);have e4:=ZTx K0.o 4 (.int .i64 rp.wait);have e5:=ZTx K0.o 5 (.int .i64 rp.ser);have e6:=ZTx K0.o 6 (.int .i64 rp.now);have NL:=ZA (show ¬some w1.heap.size ∈ Lb from λe=>Zb3 _ (hlt _ e));have NG:=ZA ngd;have l0:=ZG xW l0;clear xW hlt ngd;go_upto_region 1 with fail
 (try rw[hW])
 clear hW;clear l3 c0 e0 p3
 go_region_held3 (λw'=>w'.cell? ⟨gd,1+n*6,none⟩=some (ZH gc)/\w'.cell? ⟨w1.heap.size,1,none⟩=some (.int .i64 (rp.er:Int))/\w'.cell? ⟨w1.heap.size,2,none⟩=some (.bool rp.granted)/\w'.cell? ⟨w1.heap.size,3,none⟩=some (.int .i64 rp.left)/\w'.cell? ⟨w1.heap.size,4,none⟩=some (.int .i64 rp.wait)/\w'.cell? ⟨w1.heap.size,5,none⟩=some (.int .i64 rp.ser)/\w'.cell? ⟨w1.heap.size,6,none⟩=some (.int .i64 rp.now)) (((try go_split_ands);exact⟨ZT3,ZT3,ZT3,ZT3,ZT3,ZT3,ZT3⟩)) ((go_at_call 104;(with_reducible refine(RP.o _ (by with_reducible first|exact ZL.refl _|exact(ZL.refl _).drew)).mono ?_);rintro e w2 ⟨q,B,hri,rfl,hgo2⟩;have HRI:=ZA hri;have HGO:=ZA (YX.back (XW.o.trans (by with_reducible first|exact ZL.refl _|exact(ZL.refl _).drew)) hgo2);obtain⟨_,_,_,gg,_⟩:=hgo2;have tl0:=gg.cell (by with_reducible first|exact l0|exact ZK l0) NG.o;have te1:=gg.cell (by with_reducible first|exact e1|exact ZK e1) NL.o;have te2:=gg.cell (by with_reducible first|exact e2|exact ZK e2) NL.o;have te3:=gg.cell (by with_reducible first|exact e3|exact ZK e3) NL.o;have te4:=gg.cell (by with_reducible first|exact e4|exact ZK e4) NL.o;have te5:=gg.cell (by with_reducible first|exact e5|exact ZK e5) NL.o;have te6:=gg.cell (by with_reducible first|exact e6|exact ZK e6) NL.o;clear hri gg))
 all_goals
  go_wp2_with fail
  go_end0
  refine⟨rfl,?_⟩;obtain⟨rfl,rfl⟩:=ZRD rfl HRI.o HR.o;have hgo:=HGO.o;rw[Zcg rfl]at hgo;obtain⟨b1,b2,b3⟩:=HCG.o _ _ hgo;have e9:Xh (ls n) rp={ls n with cn:=some (JG s c (rp.er:Int) rp.ser (Xn rp))}:=by
   unfold Xh;rw[HS.o]
   dsimp only
   rw[HO.o]
  rw[e9];exact⟨C',xb,L',_,HL.o,b1,A2.o.trans b2 A3.o,λi hi=>(b3 i hi).elim (A3.o i) (λe=>.inr (Zb2 A2.o.size e))⟩
theorem ZDc (n:Nat)(w:World)(h:n<63):Calls Tryz.prog 54 #[.int .i64 (n:Int)] w λe w'=>e=.returned (.bool true)/\w=w':=by
 have h1:(0:Int)<=(n:Int):=by omega
 have h2:(n:Int)<63:=by omega
 go_enter Tryz.func54,Tryz.ntmps54;go_wp2_with fail;go_ret;exact⟨rfl,rfl⟩
theorem ZD9 (w:World)(gd:Nat)(g:YE)(C:Zdb)(xb:Nat->Nat)(L:List Zf)(ks:YF)(dr:Bool)(ls:Nat->LSt)(D:Nat->Nat->Prop)(n:Nat)(h:Ym w gd g C xb L ks dr ls D)(hn:n<63)(hst:(ls n).st≠0): Calls Tryz.prog 56 #[ZH gd,.int .i64 (n:Int)] w λe w'=>e=.returned (.pointer (some ⟨gd,1+n*6,none⟩))/\w=w':=by
 obtain⟨cs,t,v,hb,hv,hln,-⟩:=h.lineA hn;obtain⟨-,-,-,-,-,-,-,v1,-⟩:=hln;obtain⟨st,Hst⟩:=ZTy ((ls n).st);rw[Hst.o]at v1 hst;have c1:w.cell? ⟨gd,1+n*6+1,none⟩=some (.int .i64 (st:Int)):=(ZE hb _).trans (by rw[<-v1];exact hv 1 ZB);have IS:=ZA (ZDc n w hn);have b1:((st:Int)==0)=false:=by rw[ZcW];omega
 have hi:(0:Int)<=(n:Int)/\(n:Int)<((63:Nat):Int):=⟨by omega,by omega⟩;have hi2:(0:Int)<=(n:Int)/\(n:Int)<63:=⟨by omega,by omega⟩;clear h hb hv v1;go_enter Tryz.func56,Tryz.ntmps56;go_wp2_with fail;refine IS.o.mono ?_;rintro e w1 ⟨rfl,rfl⟩;go_wp2_with fail;go_ret;exact⟨rfl,rfl⟩
theorem ZHs (w:World)(gd:Nat)(g:YE)(C:Zdb)(xb:Nat->Nat)(L:List Zf)(ks:YF)(dr:Bool)(ls:Nat->LSt)(D:Nat->Nat->Prop)(n:Nat)(h:Ym w gd g C xb L ks dr ls D)(hn:n<63)(hst:(ls n).st=0): Calls Tryz.prog 56 #[ZH gd,.int .i64 (n:Int)] w λe w'=>e=.returned (.pointer none)/\w=w':=by
 obtain⟨cs,t,v,hb,hv,hln,-⟩:=h.lineA hn;obtain⟨-,-,-,-,-,-,-,v1,-⟩:=hln;rw[hst]at v1;have c1:w.cell? ⟨gd,1+n*6+1,none⟩=some (.int .i64 0):=(ZE hb _).trans (by have:=hv 1 ZB;rw[v1]at this;exact this);have IS:=ZA (ZDc n w hn);have hi2:(0:Int)<=(n:Int)/\(n:Int)<63:=⟨by omega,by omega⟩;clear h hb hv v1;go_enter Tryz.func56,Tryz.ntmps56;go_wp2_with fail;refine IS.o.mono ?_;rintro e w1 ⟨rfl,rfl⟩;go_wp2_with fail;go_ret;exact⟨rfl,rfl⟩
theorem ZLr (w:World)(gd:Nat)(g:YE)(C:Zdb)(xb:Nat->Nat)(L:List Zf)(ks:YF)(dr:Bool)(ls:Nat->LSt)(D:Nat->Nat->Prop)(n:Nat)(h:Ym w gd g C xb L ks dr ls D)(hn:n<63): Calls Tryz.prog 23 #[ZH gd,.int .i64 (n:Int)] w λe w'=>e=.returned (.int .i64 ((ls n).st:Int))/\w=w':=by
 by_cases hst:(ls n).st=0
 ·have LN:=ZA (ZHs w gd g C xb L ks dr ls D n h hn hst);rw[hst];clear h;go_enter Tryz.func23,Tryz.ntmps23;go_wp2_with fail;refine LN.o.mono ?_;rintro e w1 ⟨rfl,rfl⟩;go_wp2_with fail;go_ret;exact⟨rfl,rfl⟩
 ·have LN:=ZA (ZD9 w gd g C xb L ks dr ls D n h hn hst);obtain⟨cs,t,v,hb,hv,hln,-⟩:=h.lineA hn;obtain⟨-,-,-,-,-,-,-,v1,-⟩:=hln;obtain⟨st,Hst⟩:=ZTy ((ls n).st);rw[Hst.o]at v1 ⊢;have c1:w.cell? ⟨gd,1+n*6+1,none⟩=some (.int .i64 (st:Int)):=(ZE hb _).trans (by rw[<-v1];exact hv 1 ZB);clear h hb hv v1;go_enter Tryz.func23,Tryz.ntmps23;go_wp2_with fail;refine LN.o.mono ?_;rintro e w1 ⟨rfl,rfl⟩;go_wp2_with fail;go_ret;exact⟨rfl,rfl⟩
theorem ZQE (w:World)(gd:Nat)(g:YE)(C:Zdb)(xb:Nat->Nat)(L:List Zf)(ks:YF)(dr:Bool)(ls:Nat->LSt)(D:Nat->Nat->Prop)(n m:Nat)(h:Ym w gd g C xb L ks dr ls D)(hn:n<63)(hm:(ls n).wr.length=m)(hm2:m<=1000000): Calls Tryz.prog 25 #[ZH gd,.int .i64 (n:Int)] w λe w'=>∃A c,e=.returned (.slice A m c)/\w'.ownsRow w.heap.size 5 1 (.slice A m c) m (ZV .u8 (ls n).wr)/\ZL w w':=by
 obtain⟨cs,t,v,hb,hv,hln,-⟩:=h.lineA hn;obtain⟨WA,-,wc,-,-,-,-,-,v2,-,-,-,ho,-⟩:=hln;rw[hm]at v2 ho;have c2:w.cell? ⟨gd,1+n*6+2,none⟩=some (.slice WA m wc):=(ZE hb _).trans (by rw[<-v2];exact hv 2 ZB);have CL:=ZA (ZCc WA m wc (ls n).wr w hm ZB (Rd.of_own ho));have IS:=ZA (ZDc n w hn);have hi2:(0:Int)<=(n:Int)/\(n:Int)<63:=⟨by omega,by omega⟩;have Hm:=ZA hm;clear h hb hv v2 ho hm;go_enter Tryz.func25,Tryz.ntmps25;go_wp2_with fail;refine IS.o.mono ?_;rintro e w1 ⟨rfl,rfl⟩;go_wp2_with fail;refine CL.o.mono ?_;rintro e w1 ⟨A,c,rfl,ho,hx⟩;have HO:=ZA ho;have HX:=ZA hx;clear ho hx;go_wp2_with fail;go_ret;rw[<-Hm.o];exact⟨A,c,rfl,HO.o,HX.o⟩
def ZR2 (w:World)(base:Nat)(c:Z3)(v:Value):Prop:=∃A k,v=.agg #[.int .u8 (c.op:Int),.int .i64 (c.pol:Int),.slice A c.key.length k,.int .i64 (c.num:Int)]/\w.ownsRow base 5 1 (.slice A c.key.length k) c.key.length (ZV .u8 c.key)
theorem ZOL (w:World)(base gc r:Nat)(L:List (Option Nat))(RO:Zdb)(s:JS)(h:Zu w base L RO gc r s)(ho:s.out=none)(hc:s.closed=false)(c:Z3)(rest:List Z3)(hl:s.line=c::rest)(hk:c.key.length<=5000): Calls Tryz.prog 103 #[.pointer (some ⟨gc,0,none⟩)] w λx w'=>∃v,x=.returned (.tuple #[v,.int .i64 0])/\ZR2 w' w.heap.size c v/\YX w base L RO gc r {s with line:=rest,out:=some c} w':=by
 obtain⟨W,hW⟩:=ZTz (w.alloc (.cells #[.int .u8 0,.int .i64 0,.slice none 0 0,.int .i64 0] 34));have xW:ZL w W:=by rw[<-hW];exact(ZL.refl w).alloc _
 have KW:=ZA (show W.heap[w.heap.size]?=some (.cells #[.int .u8 0,.int .i64 0,.slice none 0 0,.int .i64 0] 34 (0,0)) by rw[<-hW];exact ZM w _);obtain⟨ao,cp,ov,d1,-,d3,d6,fz,o1,hgl⟩:=(h.ext xW).cells;rw[ho]at o1;obtain rfl:=o1;rw[hc]at d6;rw[hl]at d1;simp only[ZbA]at d1;have f1:=fz 1;have f3:=fz 3;obtain⟨b,off,cap,K,kc,v',d1',q0,q1,q2,q3,hkc,hrd,hrun,⟨va,vc,rfl⟩,hki,hgo⟩:=(h.ext xW).next hl
 rw[d1]at d1';injection d1' with d1';injection d1' with e1 _ e2;subst e1 e2;obtain⟨op,pol,key,num⟩:=c
 dsimp only[ZCl]at q0 q1 q2 q3 hkc hrd hgo hk ⊢
 obtain⟨m,Hm⟩:=ZTy (key.length);rw[Hm.o]at q2 hkc hgo hk;obtain⟨n,Hn⟩:=ZTy (rest.length);rw[Hn.o]at d1 hrun hgo;obtain⟨V,hV⟩:=ZTz (W.alloc (.cells #[.int .u8 (op:Int),.int .i64 (pol:Int),.slice K m kc,.int .i64 (num:Int)] 34));have xV:ZL W V:=by rw[<-hV];exact(ZL.refl W).alloc _
 have KV:=ZA (show V.heap[W.heap.size]?=some (.cells #[.int .u8 (op:Int),.int .i64 (pol:Int),.slice K m kc,.int .i64 (num:Int)] 34 (0,0)) by rw[<-hV];exact ZM W _);obtain⟨L',RO',k1,k2,k3⟩:=hgo V W.heap.size xV KV.o (Zb0 _);have K1:=ZA k1;have K2:=ZA k2;have K3:=ZA k3;have H:=ZA h;have XW:=ZA xW;have XV:=ZA xV;have HRD:=ZA hrd;have e1:V.cell? ⟨gc,1,none⟩=some (.slice (some ⟨b,off,none⟩) (n+1) cp):=ZG xV d1;have e3:=ZG xV d3;have h1:=ZAc xV d1 f1;have h3:=ZAc xV d3 f3;clear h ho hc hl fz hrd hgo k1 k2 k3 xW xV;go_enter Tryz.func103,Tryz.ntmps103;go_upto_region 1 with fail
 (try rw[hW])
 clear hW;go_upto_region 11 with fail
 (try rw[hV])
 clear hV d1 d3 q0 q1 q2 q3;go_upto_region 13 with fail;obtain⟨X,hX⟩:=ZTz ((V.setCell ⟨gc,1,none⟩ (.slice va n vc)).setCell ⟨gc,3,none⟩ (.pointer (some ⟨W.heap.size,0,none⟩)));have gX:GB V X (· =gc):=by rw[<-hX];exact((GB.refl V (· =gc)).set gc 1 _ (.inl rfl)).set gc 3 _ (.inl rfl)
 rw[hX]at K1
 (try rw[hX])
 clear hX;have ng0:¬w.heap.size=gc:=by have:=(H.o.bounds.2.1 gc H.o.bounds.1).2;omega
 have ng1:¬W.heap.size=gc:=by omega
 have x4:=gX.blk KV.o ng1;have x2:=gX.blk (ZJ KW.o XV.o) ng0;have X2:=ZA x2;have nb:¬W.heap.size=w.heap.size:=by have:=ZW KW.o;omega
 have a0:=ZTx x4 0 (.int .u8 (op:Int));have a1:=ZTx x4 1 (.int .i64 (pol:Int));have a2:=ZTx x4 2 (.slice K m kc);have a3:=ZTx x4 3 (.int .i64 (num:Int));have CL:=ZA (λu (y:ZL X u)=>ZAp K m kc key u Hm.o ZB ((gX.rd (HRD.o.ext XV.o) (λp hp e=>(H.o.bounds.2.2 _ (hki p hp)).1 (by rw[e];exact H.o.bounds.1))).ext y));have GX:=ZA gX;clear e1 e3 h1 h3 f1 f3 x4 x2 gX d6
 go_region_held3 (λu=>u.cell? ⟨W.heap.size,0,none⟩=some (.int .u8 (op:Int))/\u.cell? ⟨W.heap.size,1,none⟩=some (.int .i64 (pol:Int))/\u.cell? ⟨W.heap.size,2,none⟩=some (.slice K m kc)/\u.cell? ⟨W.heap.size,3,none⟩=some (.int .i64 (num:Int))) (((try dsimp only);refine⟨?_,?_,?_,?_⟩<;>with_reducible first|assumption|exact ZK a0|exact ZK a1|exact ZK a2|exact ZK a3|exact ZC9 b0 nb|exact ZC9 b1 nb|exact ZC9 b2 nb|exact ZC9 b3 nb)) (first|(go_at_call 67;(with_reducible refine(CL.o _ (by first|exact ZL.refl X|exact(ZL.refl X).drew)).mono ?_);rintro e w4 ⟨A4,c4,rfl,ho4,y0⟩;have y:=(ZL.refl X).drew.trans y0;rw[Hm.o]at ho4 ⊢;have Y:=ZA y;have k4:=ZJ X2.o y;have HO4:=ZA ho4;have b0:=ZG y a0;have b1:=ZG y a1;have b2:=ZG y a2;have b3:=ZG y a3;have z0:=ZE k4 0;have z1:=ZE k4 1;have z2:=ZE k4 2;have z3:=ZE k4 3;have t0:=ZF k4 0;have t1:=ZF k4 1;have t2:=ZF k4 2;have t3:=ZF k4 3;have K4:=ZA k4;clear ho4 y y0 k4))
 all_goals
  have hb1:=ZU (ZU (ZU (ZU K4.o 0 (.int .u8 (op:Int))) 1 (.int .i64 (pol:Int))) 2 (.slice A4 m c4)) 3 (.int .i64 (num:Int));go_wp2_with fail;refine ZcY (Yq (p:=2) (u:=3) rfl _ _ w.heap.size _ #[.int .u8 (op:Int),.int .i64 (pol:Int),.slice A4 m c4,.int .i64 (num:Int)] (0,0) _ rfl hb1 Tryz.underlying34 ZTw ZC) rfl ?_;refine⟨_,rfl,⟨A4,c4,by rw[Hm.o],?_⟩,ZE2 H.o XW.o (ZW KW.o) (GB.of_ext _ XV.o) (λb e=>.inl (K2.o b e)) (λb e=>(K3.o b e).imp id (λe=>.inr (Nat.le_of_eq e.symm))) (K1.o.ext Y.o) (GX.o.ext Y.o) (((((GB.refl _ (· =w.heap.size)).set _ 0 _ (.inl rfl)).set _ 1 _ (.inl rfl)).set _ 2 _ (.inl rfl)).set _ 3 _ (.inl rfl))⟩;rw[Hm.o];have hz:w.heap.size<=X.heap.size:=Zb2 (Zb2 XW.o.size XV.o.size) GX.o.size;have hz1:w.heap.size<X.heap.size:=Zb5 (ZW KW.o) (Zb2 XV.o.size GX.o.size);exact Zg ((((((GB.refl w4 (· =w.heap.size)).set _ 0 _ (.inl rfl)).set _ 1 _ (.inl rfl)).set _ 2 _ (.inl rfl)).set _ 3 _ (.inl rfl)).own HO4.o (λq e e2=>by have:=(HO4.o.lt q e).1;have h9:X.heap.size<=q:=this;omega)) hz
theorem ZAy.more {w:World}{C O:Zdb}{g:YE}{q:Nat}(h:ZAy w (XO C O) g)(hq:∀a,g.PA=some a->a.block<q):ZAy w (XO (λi=>C i\/i=q) O) g:=
 ⟨h.c0,h.c1,h.c2,h.l0,h.l1,h.b0,h.prd,λa ha=>⟨λe=>by
  rcases e with(e|e)|e
  ·exact(h.pfz a ha).1 (.inl e)
  ·have:=hq a ha;omega
  ·exact(h.pfz a ha).1 (.inr e),(h.pfz a ha).2⟩⟩
theorem ZF7 {w:World}{gd:Nat}{g:YE}{C:Zdb}{xb:Nat->Nat}{L:List Zf}{ks:YF}{dr:Bool}{ls:Nat->LSt}{D:Nat->Nat->Prop}(h:Ym w gd g C xb L ks dr ls D)(n:Nat)(hn:n<63): Calls Tryz.prog 15 #[ZH g.gx,.int .i64 (n:Int)] w λe w'=>e=.returned (.bool (ZAh (ks.call n)))/\w=w':=by
 obtain⟨h1,-⟩:=h.core;exact ZHg w g _ C xb L ks n h1 ZB
theorem Xt.box {w W w1:World}{gd bx N:Nat}{g:YE}{C:Zdb}{D:Nat->Nat->Prop}{ks:YF}{dr:Bool}{ls:Nat->LSt}{v:Value}(h:Xt W gd g C D N ks dr ls w1)(hlt:∀i,Xm gd C D i->i<w.heap.size)(hb:w.heap.size<=bx)(hbW:bx<W.heap.size)(hc:W.cell? ⟨bx,0,none⟩=some v): ∃C' xb' L' D',L'.length<=N/\Ym w1 gd g C' xb' L' ks dr ls D'/\GB W w1 (Xm gd C D)/\(∀i,Xm gd C' D' i->Xm gd C D i\/W.heap.size<=i)/\w1.cell? ⟨bx,0,none⟩=some v/\¬Xm gd C' D' bx:=by
 obtain⟨C',xb',L',D',h1,h2,h3,h4⟩:=h;have hn:¬Xm gd C D bx:=λe=>by have:=hlt _ e;omega
 exact⟨C',xb',L',D',h1,h2,h3,h4,h3.cell hc hn,λe=>(h4 _ e).elim hn (λe=>by omega)⟩
theorem Xt.took {w W w1 w2:World}{gd N n:Nat}{g:YE}{C C1:Zdb}{D D1:Nat->Nat->Prop}{ks:YF}{dr:Bool}{ls:Nat->LSt}{xb:Nat->Nat}{L:List Zf}{l:LSt}(x:ZL w W)(hN:L.length<=N)(g1:GB W w1 (Xm gd C D))(n1:∀i,Xm gd C1 D1 i->Xm gd C D i\/W.heap.size<=i)(h:ZQm w1 gd g C1 xb L ks dr (Z5 ls n l) D1 n w2): Xt w gd g C D N ks dr (Z5 ls n (Jo l)) w2:=by
 obtain⟨D2,a1,a2,a3⟩:=h;rw[Zt,ZBH]at a1;refine Xt.back x ⟨C1,xb,L,D2,hN,a1,g1.trans a2 n1,λi hi=>?_⟩;rcases a3 i hi with e|e
 ·exact n1 i e
 ·exact .inr (Zb2 g1.size e)
def ZFA (g:YE)(n:Nat)(a b:DSt):Prop:=∀(w:World) (gd:Nat) (C:Zdb) (xb:Nat->Nat) (L:List Zf) (D:Nat->Nat->Prop),Ym w gd g C xb L a.ks a.dr a.ls D->L.length<=100000-> Calls Tryz.prog 102 #[ZH gd,.int .i64 (n:Int),.pointer (some ⟨gd,1+n*6,none⟩)] w λe w'=>e=.returned (.tuple #[])/\Xt w gd g C D (L.length+1) b.ks b.dr b.ls w'
def ZGo (g:YE)(n:Nat)(a b:DSt):Prop:=∀(w:World) (gd:Nat) (C:Zdb) (xb:Nat->Nat) (L:List Zf) (D:Nat->Nat->Prop),Ym w gd g C xb L a.ks a.dr a.ls D->L.length<=100000-> Calls Tryz.prog 58 #[ZH gd,.int .i64 (n:Int),.pointer (some ⟨gd,1+n*6,none⟩)] w λe w'=>e=.returned (.tuple #[])/\Xt w gd g C D (L.length+1) b.ks b.dr b.ls w'
def ZM1 (g:YE)(n:Nat)(ks:YF)(x:ZX):Prop:=∀(u:World) (O C:Zdb) (xb:Nat->Nat) (L:List Zf) (K:Option Addr) (m kc:Nat),YK u g O C xb L ks->x.key.length=m->m<=kc->Rd u K (ZV .u8 x.key)-> Calls Tryz.prog 41 #[ZH g.gx,.int .i64 (n:Int),.agg #[.int .u8 (x.op:Int),.int .i64 (x.pol:Int),.slice K m kc,.int .i64 x.n]] u λe w'=>∃q C',e=.returned (.int .i64 0)/\Z9 u g O C (ZI4 xb n q) L (ZFk ks n x) C' w'
theorem ZQl {g:YE}{n:Nat}{a:DSt}(hn:n<63)(ok:ZKf g a.ks n)(hk:(YA g.P g.room a.ks n).2=none):ZFA g n a {a with ks:=(YA g.P g.room a.ks n).1}:=λw gd C xb L D h hL=>ZRj w gd g C xb L a.ks a.dr a.ls D n h hn hL ok hk
theorem ZOn {g:YE}{n:Nat}{a:DSt}(hn:n<63)(ok:ZKf g a.ks n){rp:YH}(hk:(YA g.P g.room a.ks n).2=some rp)(hrel:(a.ls n).rel=false){s:JS}(hs:(a.ls n).cn=some s)(hi:ZBk s)(hwr:s.wr.length<=1000000)(hled:s.led.length<=100000 - 1){c:Z3}(ho:s.out=some c)(hrp:ZBc rp): ZFA g n a {a with ks:=(YA g.P g.room a.ks n).1,ls:=Z5 a.ls n (Xh (a.ls n) rp)}:=λw gd C xb L D h hL=>ZQI w gd g C xb L a.ks a.dr a.ls D n h hn hL ok rp hk hrel s hs hi hwr hled c ho hrp
theorem ZJI {g:YE}{n:Nat}{a:DSt}{ks':YF}{l':LSt}{s':JS}(hn:n<63)(hrun:ZAh (a.ks.call n)=true)(AC:ZFA g n a ⟨ks',Z5 a.ls n l',a.dr⟩)(hs:l'.cn=some s')(hl1:l'.wr.length<=1000000)(hl2:s'.wr.length<=1000000): ZGo g n a ⟨ks',Z5 a.ls n (Jo l'),a.dr⟩:=by
 intro w gd C xb L D h hL;obtain⟨ks,ls,dr⟩:=a
 dsimp only at hrun AC h ⊢
 have hmf:=Jg;obtain⟨W,hW⟩:=ZTz ((w.alloc (.cells #[.pointer (some ⟨gd,1+n*6,none⟩)] 165)));have xW:ZL w W:=by rw[<-hW];exact(ZL.refl w).alloc _
 have k0:W.heap[w.heap.size]?=some (.cells #[.pointer (some ⟨gd,1+n*6,none⟩)] 165 (0,0)):=by rw[<-hW];exact ZM w _
 have hA:=h.ext xW;have PN:=ZA (ZF7 hA n hn);rw[hrun]at PN;have ACC:=ZA (AC W gd C xb L D hA hL);have HLT:=ZA h.lt;obtain⟨-,c0,-⟩:=hA.core;have b0:=ZTx k0 0 (.pointer (some ⟨gd,1+n*6,none⟩));have HB:=ZA b0;have HK:=ZA (ZW k0);have XW:=ZA xW;clear h hA AC k0 xW hrun hL
 go_enter_defers Tryz.func58,Tryz.ntmps58
 go_upto_region 2 with fail
 (try rw[hW])
 clear hW;go_wp2_with fail;refine PN.o.mono ?_;rintro e w1 ⟨rfl,rfl⟩;go_wp2_with fail;refine ACC.o.mono ?_;rintro e w1 ⟨rfl,hgo⟩;have HG:=ZA hgo;clear hgo;go_wp2_with fail;obtain⟨C',xb',L',D',hl,h1,g1,n1,hb,hnb⟩:=HG.o.box HLT.o (Zb0 _) HK.o HB.o;refine Zci (f:=100) (args:=#[.pointer (some ⟨w.heap.size,0,none⟩)]) ZTv (by simp[go_sem]) ?_;refine(ZLw w1 gd g C' xb' L' ks' dr _ D' n w.heap.size s' .returning h1 hn (by rw[Zt];exact hs) hb hnb (by rw[Zt];exact hl1) hl2).mono ?_;rintro e u' w2 ⟨rfl,rfl,htk⟩;exact⟨_,Zcl rfl _ _ _,rfl,Xt.took XW.o hl g1 n1 htk⟩
theorem Xm.not_new {w:World}{gd:Nat}{g:YE}{C:Zdb}{xb:Nat->Nat}{L:List Zf}{ks:YF}{dr:Bool}{ls:Nat->LSt}{D:Nat->Nat->Prop}(h:Ym w gd g C xb L ks dr ls D){q:Nat}(hq:w.heap.size<=q):¬Xm gd C D q:=λe=>by have:=h.lt _ e;omega
theorem ZJJ {g:YE}{n:Nat}{a:DSt}{ks':YF}{l':LSt}{s s':JS}{c:Z3}{rest:List Z3}(hn:n<63)(hrun:ZAh (a.ks.call n)=false)(hst:(a.ls n).st=1)(hcn:(a.ls n).cn=some s)(ho:s.out=none)(hcl:s.closed=false)(hli:s.line=c::rest)(hkl:c.key.length<=255)(SC:ZM1 g n a.ks (JJ c))(AC:ZFA g n ⟨ZFk a.ks n (JJ c),Z5 a.ls n {a.ls n with cn:=some {s with line:=rest,out:=some c}},a.dr⟩ ⟨ks',Z5 a.ls n l',a.dr⟩)(hs:l'.cn=some s')(hl1:l'.wr.length<=1000000)(hl2:s'.wr.length<=1000000): ZGo g n a ⟨ks',Z5 a.ls n (Jo l'),a.dr⟩:=by
 intro w gd C xb L D h hL;obtain⟨ks,ls,dr⟩:=a
 dsimp only at hrun hst hcn SC AC h ⊢
 have hmf:=Jg;obtain⟨W,hW⟩:=ZTz ((w.alloc (.cells #[.pointer (some ⟨gd,1+n*6,none⟩)] 165)));have xW:ZL w W:=by rw[<-hW];exact(ZL.refl w).alloc _
 have k0:W.heap[w.heap.size]?=some (.cells #[.pointer (some ⟨gd,1+n*6,none⟩)] 165 (0,0)):=by rw[<-hW];exact ZM w _
 have hA:=h.ext xW;have PN:=ZA (ZF7 hA n hn);rw[hrun]at PN;have HLT:=ZA h.lt;obtain⟨-,c0,-⟩:=hA.core;have b0:=ZTx k0 0 (.pointer (some ⟨gd,1+n*6,none⟩));obtain⟨cs,t,v,hb,hv,hln,-⟩:=hA.lineA hn;obtain⟨-,-,-,-,-,-,-,v1,-⟩:=id hln;rw[hst]at v1;have c1:W.cell? ⟨gd,1+n*6+1,none⟩=some (.int .i64 1):=(ZE hb _).trans (by have:=hv 1 ZB;rw[v1]at this;exact this);obtain⟨base,gc,r,Lb,RO,cc0,hca,ngd,hLlt,-,-,hcg⟩:=hA.conn hn hcn;have NX:=ZA (ZOL W base gc r Lb RO s hca ho hcl c rest hli ZB);have HB:=ZA b0;have HK:=ZA (ZW k0);have XW:=ZA xW;have HCG:=ZA hcg;have HNB:=ZA (λe=>Xm.not_new h (Zb0 w.heap.size) e);have HLI:=ZA hli;have HAC:=ZA AC;have HSC:=ZA SC;have HCN:=ZA hcn;have HC0:=ZA c0;clear h hA AC SC k0 xW hrun hst hcn ho hcl hli hb hv hln v1 hca hcg ngd hLlt
 go_enter_defers Tryz.func58,Tryz.ntmps58
 go_upto_region 2 with fail
 (try rw[hW])
 clear hW;go_wp2_with fail;refine PN.o.mono ?_;rintro e w1 ⟨rfl,rfl⟩;go_wp2_with fail;refine NX.o.mono ?_;rintro e w1 ⟨cv,rfl,⟨K,kc,rfl,hown⟩,hgo⟩;obtain⟨d1,d2,d3⟩:=HCG.o _ _ hgo;obtain⟨m,Hm⟩:=ZTy (c.key.length);rw[Hm.o]at hown hkl ⊢;have hkc:=Ys hown;have hb1:=d2.cell HB.o HNB.o;obtain⟨W1,hW1⟩:=ZTz ((w1.alloc (.cells #[.int .u8 (c.op:Int),.int .i64 (c.pol:Int),.slice K m kc,.int .i64 (c.num:Int)] 34)));have xW1:ZL w1 W1:=by rw[<-hW1];exact(ZL.refl w1).alloc _
 have K1:=ZA (show W1.heap[w1.heap.size]?=some (.cells #[.int .u8 (c.op:Int),.int .i64 (c.pol:Int),.slice K m kc,.int .i64 (c.num:Int)] 34 (0,0)) by rw[<-hW1];exact ZM w1 _);have D1:=ZA (d1.ext xW1);have G1:=ZA (d2.ext xW1);have N1:=ZA d3;have R1:=ZA ((Rd.of_own hown).ext xW1);have XW1:=ZA xW1;have LT1:=ZA d1.lt;have HB1:=ZA (ZG xW1 hb1);have e0:=ZTx K1.o 0 (.int .u8 (c.op:Int));have e1:=ZTx K1.o 1 (.int .i64 (c.pol:Int));have e2:=ZTx K1.o 2 (.slice K m kc);have e3:=ZTx K1.o 3 (.int .i64 (c.num:Int));obtain⟨hco,g0,-,hfin⟩:=D1.o.core;have SCC:=λu (y:ZL W1 u)=>HSC.o u (DO gd (Z5 D n (ZGs (D n) W w1))) C xb L K m kc (hco.ext y) Hm.o hkc (R1.o.ext y)
 dsimp only[JJ]at SCC
 have SCC:=ZA SCC;have HFIN:=ZA hfin;have HCL:=ZA hco.lt;have NCN:=ZA (show ¬C w1.heap.size from λe=>by have:=LT1.o _ (.inl e);omega);have NCG:=ZA (show ¬C gd from λe=>hco.co _ e (.inl rfl));clear hown hgo d1 d2 d3 hb1 hco hfin b0 c0 c1 cc0 xW1 hkc;go_upto_region 7 with fail
 (try rw[hW1])
 clear hW1
 go_region_held3 (λw'=>w'.cell? ⟨gd,0,none⟩=some (ZH g.gx)/\w'.cell? ⟨w1.heap.size,0,none⟩=some (.int .u8 (c.op:Int))/\w'.cell? ⟨w1.heap.size,1,none⟩=some (.int .i64 (c.pol:Int))/\w'.cell? ⟨w1.heap.size,2,none⟩=some (.slice K m kc)/\w'.cell? ⟨w1.heap.size,3,none⟩=some (.int .i64 (c.num:Int))) (((try go_split_ands);exact⟨ZT3,ZT3,ZT3,ZT3,ZT3⟩)) ((go_at_call 41;(with_reducible refine(SCC.o _ (by with_reducible first|exact ZL.refl _|exact(ZL.refl _).drew)).mono ?_);rintro e w3 ⟨q,C',rfl,hm⟩;have HM:=ZA (hm.back (show ZL W1 _ from by with_reducible first|exact ZL.refl _|exact(ZL.refl _).drew));obtain⟨_,gg,_⟩:=hm;have tg0:=gg.cell (by with_reducible first|exact g0|exact ZK g0) NCG.o;have te0:=gg.cell (by with_reducible first|exact e0|exact ZK e0) NCN.o;have te1:=gg.cell (by with_reducible first|exact e1|exact ZK e1) NCN.o;have te2:=gg.cell (by with_reducible first|exact e2|exact ZK e2) NCN.o;have te3:=gg.cell (by with_reducible first|exact e3|exact ZK e3) NCN.o;clear gg))
 all_goals
  obtain⟨a1,a2,a3⟩:=HFIN.o _ _ _ _ _ HM.o;have nbx:¬Xm gd C (Z5 D n (ZGs (D n) W w1)) w.heap.size:=λe=>(N1.o _ e).elim HNB.o (λe=>by have:=HK.o;omega);have hb3:=a2.cell HB1.o nbx;have ACC:=ZA (HAC.o _ _ _ _ _ _ a1 hL);have GG:=ZA (λw4 (hg:Xt w3 gd g C' (Z5 D n (ZGs (D n) W w1)) (L.length+1) ks' dr (Z5 ls n l') w4)=>Xt.trans (G1.o.trans a2 N1.o) (λi hi=>(a3 i hi).elim (N1.o i) (λe=>.inr (Zb2 G1.o.size e))) hg);clear a1 a2 a3 nbx;go_wp2_with fail;refine ACC.o.mono ?_;rintro e w4 ⟨rfl,hgo⟩;have HG:=ZA (GG.o _ hgo);clear hgo;go_wp2_with fail;obtain⟨C2,xb2,L2,D2,hl,h1,g1,n1,hb,hnb⟩:=HG.o.box HLT.o (Zb0 _) HK.o HB.o;refine Zci (f:=100) (args:=#[.pointer (some ⟨w.heap.size,0,none⟩)]) ZTv (by simp[go_sem]) ?_;refine(ZLw _ gd g C2 xb2 L2 ks' dr _ D2 n w.heap.size s' .returning h1 hn (by rw[Zt];exact hs) hb hnb (by rw[Zt];exact hl1) hl2).mono ?_;rintro e u' w5 ⟨rfl,rfl,htk⟩;exact⟨_,Zcl rfl _ _ _,rfl,Xt.took XW.o hl g1 n1 htk⟩
def ZQq (g:YE)(kind n:Nat)(N:Int)(err:Nat)(a b:DSt):Prop:=∀(w:World) (gd:Nat) (C:Zdb) (xb:Nat->Nat) (L:List Zf) (D:Nat->Nat->Prop),Ym w gd g C xb L a.ks a.dr a.ls D->L.length<=100000-> Calls Tryz.prog 19 #[ZH gd,.agg #[.int .u8 (kind:Int),.int .i64 (n:Int),.slice none 0 0,.int .i64 N]] w λe w'=>e=.returned (.int .i64 (err:Int))/\Xt w gd g C D (L.length+1) b.ks b.dr b.ls w'
theorem ZFR {g:YE}{n:Nat}{a b:DSt}(hn:n<63)(hst:(a.ls n).st≠0)(SP:ZGo g n a b):ZQq g 3 n 0 0 a b:=by
 intro w gd C xb L D h hL;obtain⟨W,hW⟩:=ZTz ((w.alloc (.cells #[.int .u8 3,.int .i64 (n:Int),.slice none 0 0,.int .i64 0] 90)));have xW:ZL w W:=by rw[<-hW];exact(ZL.refl w).alloc _
 have k0:=ZA (show W.heap[w.heap.size]?=some (.cells #[.int .u8 3,.int .i64 (n:Int),.slice none 0 0,.int .i64 0] 90 (0,0)) by rw[<-hW];exact ZM w _);have hA:=h.ext xW;have IS:=ZA (ZDc n W hn);have LN:=ZA (ZD9 W gd g C xb L a.ks a.dr a.ls D n hA hn hst);have SPP:=ZA (SP W gd C xb L D hA hL);have e0:=ZTx k0.out 0 (.int .u8 3);have e1:=ZTx k0.out 1 (.int .i64 (n:Int));have HLT:=ZA h.lt;have XW:=ZA xW;have NE:=ZA (λe=>Xm.not_new h (Zb0 w.heap.size) e);clear h hA SP hL xW hst;go_enter Tryz.func19,Tryz.ntmps19;go_upto_region 1 with fail
 (try rw[hW])
 clear hW;go_wp2_with fail;refine IS.o.mono ?_;rintro e w1 ⟨rfl,rfl⟩;go_wp2_with fail;refine LN.o.mono ?_;rintro e w1 ⟨rfl,rfl⟩;go_wp2_with fail;refine SPP.o.mono ?_;rintro e w1 ⟨rfl,hgo⟩;have HG:=ZA hgo;clear hgo;go_wp2_with fail;go_ret;exact⟨rfl,Xt.back XW.o HG.o⟩
def ZEk (g:YE)(n:Nat)(xs:List Nat)(a b:DSt):Prop:=∀(w:World) (gd:Nat) (C:Zdb) (xb:Nat->Nat) (L:List Zf) (D:Nat->Nat->Prop) (A:Option Addr) (m c:Nat),Ym w gd g C xb L a.ks a.dr a.ls D->xs.length=m->Rd w A (ZV .u8 xs)-> Calls Tryz.prog 19 #[ZH gd,.agg #[.int .u8 2,.int .i64 (n:Int),.slice A m c,.int .i64 0]] w λe w'=>e=.returned (.int .i64 0)/\Xt w gd g C D L.length b.ks b.dr b.ls w'
theorem ZMs {g:YE}{n:Nat}{a:DSt}{s:JS}{xs:List Nat}(hn:n<63)(hst:(a.ls n).st=1)(hdr:a.dr=false)(hs:(a.ls n).cn=some s)(hi:ZBk s)(hc:s.closed=false)(hf:s.fin=0)(hcl:s.cl=false)(hb:∀x ∈ xs,x<256)(hN:s.ws.length+xs.length<=5000000000000)(hP:s.line.length+(Zy (s.ws++xs)).1.length<=1000000): ZEk g n xs a {a with ls:=Z5 a.ls n {a.ls n with cn:=some (ZD6 s (s.ws++xs))}}:=by
 intro w gd C xb L D A m c h hm hr;obtain⟨W,hW⟩:=ZTz ((w.alloc (.cells #[.int .u8 2,.int .i64 (n:Int),.slice A m c,.int .i64 0] 90)));have xW:ZL w W:=by rw[<-hW];exact(ZL.refl w).alloc _
 have k0:=ZA (show W.heap[w.heap.size]?=some (.cells #[.int .u8 2,.int .i64 (n:Int),.slice A m c,.int .i64 0] 90 (0,0)) by rw[<-hW];exact ZM w _);have hA:=h.ext xW;have IS:=ZA (ZDc n W hn);have LN:=ZA (ZD9 W gd g C xb L a.ks a.dr a.ls D n hA hn ZB);obtain⟨cs,t,v,hbk,hv,hln,-,d3,-⟩:=hA.lineA hn;obtain⟨-,-,-,-,-,-,-,v1,-⟩:=hln;rw[hst]at v1;rw[hdr]at d3;have c1:W.cell? ⟨gd,1+n*6+1,none⟩=some (.int .i64 1):=(ZE hbk _).trans (by have:=hv 1 ZB;rw[v1]at this;exact this);have c3:W.cell? ⟨gd,379,none⟩=some (.bool false):=(ZE hbk _).trans d3;obtain⟨base,gc,r,Lb,RO,cc1,hca,ngd,hLlt,-,-,hcg⟩:=h.conn hn hs;have cc0:=ZG xW cc1;have FD:=ZA (λu (y:ZL W u)=>ZL4 u base gc r Lb RO s (hca.ext (xW.trans y)) hi hc hf hcl A m c xs hm hb ((hr.ext xW).ext y) ZB hP);have HCG:=ZA hcg;have NG:=ZA ngd;have e0:=ZTx k0.out 0 (.int .u8 2);have e1:=ZTx k0.out 1 (.int .i64 (n:Int));have e2:=ZTx k0.out 2 (.slice A m c);have XW:=ZA xW;have NE:=ZA (show ¬some w.heap.size ∈ Lb from λe=>Zb3 _ (hLlt _ e));clear h hA xW hst hbk hv v1 hs hca hcg ngd hLlt hi hb hr d3 cc1;go_enter Tryz.func19,Tryz.ntmps19;go_upto_region 1 with fail
 (try rw[hW])
 clear hW;go_wp2_with fail;refine IS.o.mono ?_;rintro e w1 ⟨rfl,rfl⟩;go_wp2_with fail;refine LN.o.mono ?_;rintro e w1 ⟨rfl,rfl⟩;go_upto_region 23 with fail
 go_region_held3 (λw'=>w'.cell? ⟨gd,1+n*6,none⟩=some (ZH gc)/\w'.cell? ⟨w.heap.size,2,none⟩=some (.slice A m c)) (((try go_split_ands);exact⟨ZT3,ZT3⟩)) ((go_at_call 59;(with_reducible refine(FD.o _ (by with_reducible first|exact ZL.refl _|exact(ZL.refl _).drew)).mono ?_);rintro e w3 ⟨rfl,hgo⟩;have HGO:=ZA (YX.back (XW.o.trans (show ZL W _ from by with_reducible first|exact ZL.refl _|exact(ZL.refl _).drew)) hgo);obtain⟨_,_,_,gg,_⟩:=hgo;have tcc0:=gg.cell (by with_reducible first|exact cc0|exact ZK cc0) NG.o;have te2:=gg.cell (by with_reducible first|exact e2|exact ZK e2) NE.o;clear gg))
 all_goals
  go_wp2_with fail;go_ret;obtain⟨a1,a2,a3⟩:=HCG.o _ _ HGO.o;exact⟨rfl,C,xb,L,_,Zb0 _,a1,a2,a3⟩
theorem ZLT (w:World)(Fm:Zdb)(gm gb gh:Nat)(t:TypeId)(cs:Array Value)(u:Value)(h:Y7 w Fm gm (List.replicate 34 0) 0 [])(b0:w.cell? ⟨gb,0,none⟩=some (ZH gm))(b1:w.cell? ⟨gb,1,none⟩=some (.slice (some ⟨gh,0,none⟩) 34 34))(hh:w.heap[gh]?=some (.cells cs t (0,0)))(hc:cs[1]?=some u)(hu:u=.slice none 0 0)(hb:¬Fm gb)(hg:¬Fm gh): Calls Tryz.prog 80 #[ZH gb,.int .i64 0,.int .i64 1,.int .u64 0,.int .u64 1,.slice none 0 0] w (λe w'=>e=.returned (.bool true)/\∃w1,ZAF w Fm gm ((List.replicate 34 0).set 1 1) 0 [⟨0,2,1,0,1,true⟩] w1/\w'=w1.setCell ⟨gh,1,none⟩ (.slice none 0 0)):=by
 have LD:=ZA (show Calls Tryz.prog 125 #[.pointer (some ⟨gm,0,none⟩),.int .i64 0,.int .i64 1,.int .u64 0,.int .u64 1] w λe w'=>e=.returned (.tuple #[.bool true,.int .i64 0])/\ZAF w Fm gm ((List.replicate 34 0).set 1 1) 0 [⟨0,2,1,0,1,true⟩] w' from
  ZJH w Fm gm (List.replicate 34 0) 0 [] 0 1 0 1 h ZTv ZB ZB rfl)
 have g0:w.cell? ⟨gh,1,none⟩=some (.slice none 0 0):=by rw[<-hu];exact(ZE hh 1).trans hc
 clear h hc hu;go_enter Tryz.func80,Tryz.ntmps80;go_wp2_with fail;refine LD.o.mono ?_;rintro e w1 ⟨rfl,hgo⟩;have HG:=ZA hgo;obtain⟨_,_,g,_⟩:=hgo;have c0:=g.cell b0 hb;have c1:=g.cell b1 hb;have d0:=g.cell g0 hg;have fz:=ZF (g.blk hh hg) 1;clear b0 b1 g0 g hh;go_wp2_with fail;go_ret;exact⟨rfl,w1,HG.o,rfl⟩
def ZTd (w:World)(e:Ending)(w':World):Prop:=∃(gb gm gh:Nat) (Fm:Zdb) (tb th:TypeId),e=.returned (ZH gb)/\Y7 w' Fm gm (List.replicate 34 0) 0 []/\w'.heap[gb]?=some (.cells #[ZH gm,.slice (some ⟨gh,0,none⟩) 34 34] tb (0,0))/\w'.heap[gh]?=some (.cells (List.replicate 34 (.slice none 0 0)).toArray th (0,0))/\ZL w w'/\(∀i,Fm i->w.heap.size<=i)/\w.heap.size<=gb/\w.heap.size<=gh/\¬Fm gb/\¬Fm gh/\gb≠gh
theorem ZLb:(Tryz.prog.info? 56).map (λi=>(i.zero,i.size,i.bytes))=some (some (.slice none 0 0),1,24):=by kernel_rfl
theorem ZRS:madeCells #[.slice none 0 0] 34=(List.replicate 34 (Value.slice none 0 0)).toArray:=by kernel_rfl
theorem ZNl (w:World):Calls Tryz.prog 79 #[.int .i64 34] w (ZTd w):=by
 have hmk:∀w:World,(Instr.makeSlice 209 (.int .i64 34) (.int .i64 34)).run Tryz.prog w=.ok (.slice (some ⟨w.heap.size,0,none⟩) 34 34) (w.alloc (.cells (madeCells #[.slice none 0 0] 34) 56)):=run_make_row' (P:=Tryz.prog) 209 56 (.slice none 0 0) 24 Tryz.underlying209 ZLb rfl .i64 .i64 34 ZB ZB;go_enter Tryz.func79,Tryz.ntmps79;go_wp2_with fail;refine(ZRR 34 w ZB ZB).mono ?_;rintro e w1 ⟨gm,Fm,rfl,m1,x1,f1,hg⟩;have M1:=ZA m1;clear m1;go_wp2_with fail;go_ret;have hlt:=M1.o.lt;refine⟨w1.heap.size+1,gm,w1.heap.size,Fm,_,56,rfl,M1.o.ext (((ZL.refl w1).alloc _).alloc _),Zd _ _ ZTv,(ZR (ZM w1 _) _).trans (by rw[ZRS]),(x1.alloc _).alloc _,f1,by have:=x1.size;omega,x1.size,λe=>?_,λe=>?_,by omega⟩
 ·have:=hlt _ e;omega
 ·have:=hlt _ e;omega
def ZTU (w:World)(e:Ending)(w':World):Prop:=∃(gl gb gm gh:Nat) (Fm:Zdb) (tl tb th:TypeId),e=.returned (ZH gl)/\Y7 w' Fm gm ((List.replicate 34 0).set 1 1) 0 [⟨0,2,1,0,1,true⟩]/\w'.heap[gl]?=some (.cells #[ZH gb,Z1 39 #[]] tl (0,0))/\w'.heap[gb]?=some (.cells #[ZH gm,.slice (some ⟨gh,0,none⟩) 34 34] tb (0,0))/\ w'.heap[gh]?=some (.cells (List.replicate 34 (.slice none 0 0)).toArray th (0,0))/\ZL w w'/\(∀i,Fm i->w.heap.size<=i)/\w.heap.size<=gl/\w.heap.size<=gb/\w.heap.size<=gh/\¬Fm gl/\¬Fm gb/\¬Fm gh/\gb≠gh/\gl≠gh
theorem ZNe (w:World):Calls Tryz.prog 38 #[.int .i64 2,.slice none 0 0,Z1 39 #[]] w (ZTU w):=by
 have BN:=ZA (ZNl w);have PL:=ZA (λw=>show Calls Tryz.prog 81 #[.int .i64 0,.int .u64 0] w λe w'=>e=.returned (.int .i64 1)/\w=w' from ZBv 0 0 w ZB ZB);go_enter Tryz.func38,Tryz.ntmps38;go_wp2_with fail;refine BN.o.mono ?_;rintro e w1 ⟨gb,gm,gh,Fm,tb,th,rfl,m1,hb,hh,x1,f1,gb1,gh1,nb,nh,ne⟩;obtain⟨W,hW⟩:=ZTz ((w1.alloc (.cells #[ZH gb,Z1 39 #[]] 194)));have xW:ZL w1 W:=by rw[<-hW];exact(ZL.refl w1).alloc _
 have k0:W.heap[w1.heap.size]?=some (.cells #[ZH gb,Z1 39 #[]] 194 (0,0)):=by rw[<-hW];exact ZM w1 _
 have SW:=ZA (ZLT W.drew Fm gm gb gh th _ _ ((m1.ext xW).ext (ZL.refl W).drew) (ZE (ZJ hb xW.drew) 0) (ZE (ZJ hb xW.drew) 1) (ZJ hh xW.drew) ZTw rfl nb nh);have e0:=ZTx k0 0 (ZH gb);have hgh:gh<w1.heap.size:=ZW hh;have hgb:gb<w1.heap.size:=ZW hb;have hlt:=m1.lt;have nwf:¬Fm w1.heap.size:=λe=>Zb3 _ (hlt _ e);have ngh:w1.heap.size≠gh:=by omega
 have KB:=ZA (ZJ hb xW);have KH:=ZA (ZJ hh xW);have K0:=ZA k0;have XW:=ZA (x1.trans xW);have F1:=ZA f1;have HW:=ZA hW;have X1:=ZA x1;have HS:=ZA xW.size;clear m1 hb hh x1 f1 xW k0 hW hlt;go_upto_region 2 with fail
 (try rw[HW.o])
 clear HW
 go_region_held3 (λw'=>w'.cell? ⟨w1.heap.size,0,none⟩=some (ZH gb)) (((try go_split_ands);exact ZT3))
  (first
   |(go_at_call 81;(with_reducible refine(PL.out _).mono ?_);rintro e w2 ⟨rfl,rfl⟩)
   |(go_at_call 80;(with_reducible refine SW.o.mono ?_);rintro e w2 ⟨rfl,wm,hgo,rfl⟩;have HG:=ZA hgo;obtain⟨-,-,gg,-⟩:=hgo;have te0:=ZZ (i:=1) (u:=Value.slice none 0 0) (gg.cell (ZK e0) nwf) ngh;clear gg))
 all_goals
  go_wp2_with fail;go_ret;obtain⟨Fm',m,g,f⟩:=HG.o;have gs:GB wm (wm.setCell ⟨gh,1,none⟩ (.slice none 0 0)) (· =gh):=(GB.refl wm (· =gh)).set gh _ _ (.inl rfl);have hs:=HS.o;have hs1:=X1.o.size;have hf':∀q,q<W.heap.size->¬Fm q->¬Fm' q:=λq hq h e=>by
   rcases f q e with f|f
   ·exact h f
   ·have h9:W.heap.size<=q:=f;omega
  have hFm':∀i,Fm' i->w.heap.size<=i:=λi hi=>(f i hi).elim (F1.o i) (λh=>by have h9:W.heap.size<=i:=h;omega);have g':GB W wm Fm:=GB.back (ZL.refl W).drew g;have xx:ZL w (wm.setCell ⟨gh,1,none⟩ (.slice none 0 0)):=(g'.to_ext XW.o F1.o).grown (Zc wm gh 1 _) (λq hq=>by injection hq with hq;omega);have hz1:w1.heap.size<W.heap.size:=ZW K0.o;refine⟨w1.heap.size,gb,gm,gh,Fm',_,tb,th,rfl,m.gb gs (λi hi e=>hf' gh ZB nh (e ▸ hi)),gs.blk (g'.blk K0.o nwf) ngh,gs.blk (g'.blk KB.o nb) ne,?_,xx,hFm',by omega,gb1,gh1,hf' _ hz1 nwf,hf' _ ZB nb,hf' _ ZB nh,ne,ngh⟩;exact ZU (g'.blk KH.o nh) 1 _
theorem ZHS (P:List YR):∀u ∈ ZAI P,u.oneCell'=true:=λu hu=>by
 obtain⟨p,-,hp⟩:=ZbM.1 hu;simp[ZCY]at hp;rcases hp with rfl|rfl|rfl|rfl<;>rfl
theorem ZQb (P:List YR)(A:Option Addr)(n c room:Nat)(w:World)(hn:P.length=n)(h32:n<=32)(hP:∀p ∈ P,Yd p)(hr:Rd w A (ZAI P))(h1:1<=room)(h2:room<=4096): Calls Tryz.prog 36 #[.slice A n c,.int .i64 (room:Int)] w λe w'=>(∃p,e=.returned (.tuple #[p,.int .i64 0]))/\ZL w w':=by
 have PO:=ZA (ZCX P A n c w hn h32 hP hr);have CL:=ZA (λu (x:ZL w u)=>ZJY u A n c (ZAI P) (by rw[ZET,hn]) ZB (hr.ext x) (ZHS P));have b1:¬(room:Int)<1:=by omega
 have b2:¬(4096:Int)<(room:Int):=by omega
 clear hr hP hn;go_enter Tryz.func36,Tryz.ntmps36;go_wp2_with fail;refine PO.out.mono ?_;rintro e w1 ⟨rfl,hx⟩;have HX:=ZA hx;clear hx;go_wp2_with fail;refine(CL.o _ HX.o).mono ?_;rintro e w2 ⟨B,d,rfl,-,hx⟩;have HX2:=ZA (HX.o.trans hx);clear hx;go_wp2_with fail
 go_ret2
 exact⟨⟨_,ZAz rfl rfl⟩,HX2.o.alloc _⟩
def ZTc (w:World)(P:List YR)(room:Nat)(e:Ending)(w':World):Prop:=∃(g:YE) (C:Zdb) (L:List Zf),e=.returned (.tuple #[ZH g.gx,.int .i64 0])/\g.P=P/\g.room=room/\YK w' g (λ_=>False) C (λ_=>0) L JY/\L.length<=1/\ZL w w'/\w.heap.size<=g.gx/\w.heap.size<=g.gl/\w.heap.size<=g.gb/\∀i,C i->w.heap.size<=i
theorem ZLy (P:List YR)(A:Option Addr)(n c room:Nat)(w:World)(hn:P.length=n)(h32:n<=32)(hP:∀p ∈ P,Yd p)(hr:Rd w A (ZAI P))(h1:1<=room)(h2:room<=4096): Calls Tryz.prog 9 #[.slice A n c,.int .i64 (room:Int)] w (ZTc w P room):=by
 have BK:=ZA (ZQb P A n c room w hn h32 hP hr h1 h2);have CL:=ZA (λu (x:ZL w u)=>ZJY u A n c (ZAI P) (by rw[ZET,hn]) ZB (hr.ext x) (ZHS P));have LN:=ZA (λu=>ZNe u);have hcv:IntKind.u64.wrap (room:Int)=(room:Int):=by rw[Zab];omega
 have Hn:=ZA hn;clear hr hP hn;go_enter Tryz.func9,Tryz.ntmps9;go_wp2_with fail;refine BK.o.mono ?_;rintro e w1 ⟨⟨p,rfl⟩,hx⟩;have HX:=ZA hx;clear hx;go_wp2_with fail;refine(CL.o _ HX.o).mono ?_;rintro e w2 ⟨B,d,rfl,ho,hx⟩;have HX2:=ZA (HX.o.trans hx);have HO:=ZA ho;clear hx ho;go_wp2_with fail;refine(LN.o _).mono ?_;rintro e w3 ⟨gl,gb,gm,gh,Fm,tl,tb,th,rfl,m,hl,hb,hh,x3,f3,zl,zb,zh,nl,nb,nh,ne,ne2⟩;have Hm:=ZA m;have Hl:=ZA hl;have Hb:=ZA hb;have Hh:=ZA hh;have X3:=ZA x3;have F3:=ZA f3;clear m hl hb hh x3 f3;go_wp2_with fail
 go_ret2
 have x3:=X3.o;have hm:=Hm.o.lt;have xx:=HX2.o.trans x3;have hz2:=HX2.o.size;have hz3:=x3.size;have hgl:=ZW Hl.o;have hgb:=ZW Hb.o;have hgh:=ZW Hh.o;have hrd:=λo=>((Y9 HO.o).ext x3).alloc o
 refine⟨⟨w3.heap.size,gl,gb,gm,gh,B,d,P,room⟩,λi=>Fm i\/i=gh\/i=w3.heap.size,_,ZAz rfl rfl,rfl,rfl,
  ⟨Fm,List.replicate 64 .nilFunc,List.replicate 34 (.slice none 0 0),143,_,_,_,⟨Hm.o.ext ((ZL.refl w3).alloc _),rfl,rfl,?_,rfl,ZR Hl.o _,ZR Hb.o _,ZR Hh.o _,rfl,λi l hl=>?_,hrd _,?_,λi v hv=>?_,?_,nh,?_,?_,?_,.inr (.inr rfl),.inr (.inl rfl),λi hi=>.inl hi,λi _ hr=>?_,λi j _ _ hr=>?_,λi hi=>?_,λi _ e=>e,λi e=>e.elim⟩⟩,Zb0 1,xx.alloc _,?_,?_,?_,λi hi=>?_⟩
 ·show(w3.alloc _).heap[w3.heap.size]?=some (.cells (Value.slice B P.length d::_).toArray _ (0,0));rw[Hn.o];exact ZM w3 _
 ·have e:l=[]:=by
   have:=ZbO hl;exact List.eq_of_mem_replicate this
  subst e;have hi:i<34:=by have:=(Za0.1 hl).1;simpa[JY]using this
  exact⟨none,0,[],by rw[Za3,Zcg hi];rfl,Zq.nil _ _⟩
 ·intro a ha;obtain⟨a1,a2,-⟩:=ZC2 HO.o a ha;refine⟨λe=>?_,by simp;omega⟩;rcases e with(e|e|e)|e
  ·have:=F3.o _ e;omega
  ·omega
  ·omega
  ·exact e
 ·exact List.eq_of_mem_replicate (ZbO hv)
 ·exact λe=>Zb3 _ (hm _ e)
 ·show w3.heap.size≠gh;omega
 ·rintro((e|e|e)|e)
  ·exact nl e
  ·exact ne2 e
  ·have:gl=w3.heap.size:=e;omega
  ·exact e
 ·rintro((e|e|e)|e)
  ·exact nb e
  ·exact ne e
  ·have:gb=w3.heap.size:=e;omega
  ·exact e
 ·cases hr
 ·cases hr
 ·rw[ZcV];rcases hi with e|e|e
  ·have:=hm _ e;omega
  ·omega
  ·omega
 ·show w.heap.size<=w3.heap.size;omega
 ·show w.heap.size<=gl;omega
 ·show w.heap.size<=gb;omega
 ·rcases hi with e|e|e
  ·have:=F3.o _ e;omega
  ·omega
  ·omega
def ZEs:LSt:=⟨some ZA5,1,[],false,[],false⟩
theorem ZAx.new {w:World}{base gc r:Nat}{L:List (Option Nat)}{RO:Zdb}(h:Zu w base L RO gc r ZA5){v:Nat->Value}(h0:v 0=ZH gc)(h1:v 1=.int .i64 1)(h2:v 2=.slice none 0 0)(h3:v 3=.bool false)(h4:v 4=.slice none 0 0)(h5:v 5=.bool false): ZAx w (λi=>base<=i/\i<w.heap.size) v ZEs:=by
 have hb:=h.bounds;exact⟨none,none,0,0,[],L,λ_=>False,h1,h2,h3,h4,h5,ZcU _ _ _ _,(λq e=>by simp[Value.ownBlock]at e),Zb0 _,⟨rfl,Rd.nil _ _,λp hp=>by cases hp⟩,(λa e=>by cases e),(λk hk=>by cases hk),(λ_ e=>e.elim),(λb e=>hb.2.1 b e),base,gc,r,RO,h0,h,λb e=>⟨(hb.2.2 b e).2,λe9=>by simp[Value.ownBlock]at e9⟩⟩
theorem ZQH (w:World)(gd:Nat)(g:YE)(C:Zdb)(xb:Nat->Nat)(L:List Zf)(ks:YF)(dr:Bool)(ls:Nat->LSt)(D:Nat->Nat->Prop)(n:Nat)(h:Ym w gd g C xb L ks dr ls D)(hn:n<63)(hdr:dr=false): Calls Tryz.prog 57 #[ZH gd,.int .i64 (n:Int),.bool false] w λe w'=>e=.returned (.int .i64 0)/\Xt w gd g C D L.length ks dr (Z5 ls n ZEs) w':=by
 obtain⟨cs,t,v,hb,hv,-,hD,d3,-,-,hfin⟩:=h.lineA hn;have hgd:=ZW hb;rw[hdr]at d3;have c3:w.cell? ⟨gd,379,none⟩=some (.bool false):=(ZE hb _).trans d3;have hi:(0:Int)<=(n:Int)/\(n:Int)<((63:Nat):Int):=⟨by omega,by omega⟩;have hi2:(0:Int)<=(n:Int)/\(n:Int)<63:=⟨by omega,by omega⟩;have CN:=ZA (λu=>ZQM u);have HB:=ZA hb;have HV:=ZA hv;have HD:=ZA hD;have HF:=ZA hfin;have HC:=ZA (λk (hk:k<6)=>(ZE hb (1+n*6+k)).trans (hv k hk));have HZ:=ZA (λk=>ZF hb k);clear h hb hv hD hfin d3;go_enter Tryz.func57,Tryz.ntmps57;go_upto_region 5 with fail
 go_region_held3 (λ_=>True) (trivial) ((go_at_call 99;(with_reducible refine(CN.o _).mono ?_);rintro e w3 ⟨gc,r,Lc,RO,rfl,hca,hx⟩;have HCA:=ZA hca;have HX:=ZA ((show ZL w _ from by with_reducible first|exact ZL.refl _|exact(ZL.refl _).drew).trans hx);have K3:=ZJ HB.o HX.o;have p0:w3.cell? ⟨gd,1+n*6,none⟩=some (v 0):=((ZE K3 (1+n*6+0)).trans (HV.o 0 ZB):w3.cell? ⟨gd,1+n*6,none⟩=some (v 0));have z0:w3.frozen? ⟨gd,1+n*6,none⟩=false:=ZF K3 _;have p1:(w3.setCell ⟨gd,1+n*6,none⟩ (ZH gc)).cell? ⟨gd,1+n*6+1,none⟩=some (v 1):=(Xb (u:=(ZH gc)) ((ZE K3 (1+n*6+1)).trans (HV.o 1 ZB):w3.cell? ⟨gd,1+n*6+1,none⟩=some (v 1)) (by omega:¬1+n*6+1=1+n*6));have z1:(w3.setCell ⟨gd,1+n*6,none⟩ (ZH gc)).frozen? ⟨gd,1+n*6+1,none⟩=false:=ZF (ZU K3 (1+n*6) (ZH gc)) _;have p2:((w3.setCell ⟨gd,1+n*6,none⟩ (ZH gc)).setCell ⟨gd,1+n*6+1,none⟩ (.int .i64 1)).cell? ⟨gd,1+n*6+2,none⟩=some (v 2):=(Xb (u:=(.int .i64 1)) (Xb (u:=(ZH gc)) ((ZE K3 (1+n*6+2)).trans (HV.o 2 ZB):w3.cell? ⟨gd,1+n*6+2,none⟩=some (v 2)) (by omega:¬1+n*6+2=1+n*6)) (by omega:¬1+n*6+2=1+n*6+1));have z2:((w3.setCell ⟨gd,1+n*6,none⟩ (ZH gc)).setCell ⟨gd,1+n*6+1,none⟩ (.int .i64 1)).frozen? ⟨gd,1+n*6+2,none⟩=false:=ZF (ZU (ZU K3 (1+n*6) (ZH gc)) (1+n*6+1) (.int .i64 1)) _;have p3:(((w3.setCell ⟨gd,1+n*6,none⟩ (ZH gc)).setCell ⟨gd,1+n*6+1,none⟩ (.int .i64 1)).setCell ⟨gd,1+n*6+2,none⟩ (.slice none 0 0)).cell? ⟨gd,1+n*6+3,none⟩=some (v 3):=(Xb (u:=(.slice none 0 0)) (Xb (u:=(.int .i64 1)) (Xb (u:=(ZH gc)) ((ZE K3 (1+n*6+3)).trans (HV.o 3 ZB):w3.cell? ⟨gd,1+n*6+3,none⟩=some (v 3)) (by omega:¬1+n*6+3=1+n*6)) (by omega:¬1+n*6+3=1+n*6+1)) (by omega:¬1+n*6+3=1+n*6+2));have z3:(((w3.setCell ⟨gd,1+n*6,none⟩ (ZH gc)).setCell ⟨gd,1+n*6+1,none⟩ (.int .i64 1)).setCell ⟨gd,1+n*6+2,none⟩ (.slice none 0 0)).frozen? ⟨gd,1+n*6+3,none⟩=false:=ZF (ZU (ZU (ZU K3 (1+n*6) (ZH gc)) (1+n*6+1) (.int .i64 1)) (1+n*6+2) (.slice none 0 0)) _;have p4:((((w3.setCell ⟨gd,1+n*6,none⟩ (ZH gc)).setCell ⟨gd,1+n*6+1,none⟩ (.int .i64 1)).setCell ⟨gd,1+n*6+2,none⟩ (.slice none 0 0)).setCell ⟨gd,1+n*6+3,none⟩ (.bool false)).cell? ⟨gd,1+n*6+4,none⟩=some (v 4):=(Xb (u:=(.bool false)) (Xb (u:=(.slice none 0 0)) (Xb (u:=(.int .i64 1)) (Xb (u:=(ZH gc)) ((ZE K3 (1+n*6+4)).trans (HV.o 4 ZB):w3.cell? ⟨gd,1+n*6+4,none⟩=some (v 4)) (by omega:¬1+n*6+4=1+n*6)) (by omega:¬1+n*6+4=1+n*6+1)) (by omega:¬1+n*6+4=1+n*6+2)) (by omega:¬1+n*6+4=1+n*6+3));have z4:((((w3.setCell ⟨gd,1+n*6,none⟩ (ZH gc)).setCell ⟨gd,1+n*6+1,none⟩ (.int .i64 1)).setCell ⟨gd,1+n*6+2,none⟩ (.slice none 0 0)).setCell ⟨gd,1+n*6+3,none⟩ (.bool false)).frozen? ⟨gd,1+n*6+4,none⟩=false:=ZF (ZU (ZU (ZU (ZU K3 (1+n*6) (ZH gc)) (1+n*6+1) (.int .i64 1)) (1+n*6+2) (.slice none 0 0)) (1+n*6+3) (.bool false)) _;have p5:(((((w3.setCell ⟨gd,1+n*6,none⟩ (ZH gc)).setCell ⟨gd,1+n*6+1,none⟩ (.int .i64 1)).setCell ⟨gd,1+n*6+2,none⟩ (.slice none 0 0)).setCell ⟨gd,1+n*6+3,none⟩ (.bool false)).setCell ⟨gd,1+n*6+4,none⟩ (.slice none 0 0)).cell? ⟨gd,1+n*6+5,none⟩=some (v 5):=(Xb (u:=(.slice none 0 0)) (Xb (u:=(.bool false)) (Xb (u:=(.slice none 0 0)) (Xb (u:=(.int .i64 1)) (Xb (u:=(ZH gc)) ((ZE K3 (1+n*6+5)).trans (HV.o 5 ZB):w3.cell? ⟨gd,1+n*6+5,none⟩=some (v 5)) (by omega:¬1+n*6+5=1+n*6)) (by omega:¬1+n*6+5=1+n*6+1)) (by omega:¬1+n*6+5=1+n*6+2)) (by omega:¬1+n*6+5=1+n*6+3)) (by omega:¬1+n*6+5=1+n*6+4));have z5:(((((w3.setCell ⟨gd,1+n*6,none⟩ (ZH gc)).setCell ⟨gd,1+n*6+1,none⟩ (.int .i64 1)).setCell ⟨gd,1+n*6+2,none⟩ (.slice none 0 0)).setCell ⟨gd,1+n*6+3,none⟩ (.bool false)).setCell ⟨gd,1+n*6+4,none⟩ (.slice none 0 0)).frozen? ⟨gd,1+n*6+5,none⟩=false:=ZF (ZU (ZU (ZU (ZU (ZU K3 (1+n*6) (ZH gc)) (1+n*6+1) (.int .i64 1)) (1+n*6+2) (.slice none 0 0)) (1+n*6+3) (.bool false)) (1+n*6+4) (.slice none 0 0)) _;clear hca hx K3))
 all_goals
  go_wp2_with fail;go_ret;refine⟨rfl,?_⟩;obtain⟨b0,v0,j0⟩:=ZAZ (ZJ HB.o HX.o) (n:=n) (k0:=0) (v:=v) ZB HV.o (ZH gc);obtain⟨b1,v1,j1⟩:=ZAZ b0 (n:=n) (k0:=1) (v:=(Z5 v 0 (ZH gc))) ZB v0 (.int .i64 1);obtain⟨b2,v2,j2⟩:=ZAZ b1 (n:=n) (k0:=2) (v:=(Z5 (Z5 v 0 (ZH gc)) 1 (.int .i64 1))) ZB v1 (.slice none 0 0);obtain⟨b3,v3,j3⟩:=ZAZ b2 (n:=n) (k0:=3) (v:=(Z5 (Z5 (Z5 v 0 (ZH gc)) 1 (.int .i64 1)) 2 (.slice none 0 0))) ZB v2 (.bool false);obtain⟨b4,v4,j4⟩:=ZAZ b3 (n:=n) (k0:=4) (v:=(Z5 (Z5 (Z5 (Z5 v 0 (ZH gc)) 1 (.int .i64 1)) 2 (.slice none 0 0)) 3 (.bool false))) ZB v3 (.slice none 0 0);obtain⟨b5,v5,j5⟩:=ZAZ b4 (n:=n) (k0:=5) (v:=(Z5 (Z5 (Z5 (Z5 (Z5 v 0 (ZH gc)) 1 (.int .i64 1)) 2 (.slice none 0 0)) 3 (.bool false)) 4 (.slice none 0 0))) ZB v4 (.bool false);have gs:GB w3 ((((((w3.setCell ⟨gd,1+n*6,none⟩ (ZH gc)).setCell ⟨gd,1+n*6+1,none⟩ (.int .i64 1)).setCell ⟨gd,1+n*6+2,none⟩ (.slice none 0 0)).setCell ⟨gd,1+n*6+3,none⟩ (.bool false)).setCell ⟨gd,1+n*6+4,none⟩ (.slice none 0 0)).setCell ⟨gd,1+n*6+5,none⟩ (.bool false)) (· =gd):=(((((((GB.refl w3 (· =gd)).set gd (1+n*6) (ZH gc) (.inl rfl)).set gd (1+n*6+1) (.int .i64 1) (.inl rfl)).set gd (1+n*6+2) (.slice none 0 0) (.inl rfl)).set gd (1+n*6+3) (.bool false) (.inl rfl)).set gd (1+n*6+4) (.slice none 0 0) (.inl rfl)).set gd (1+n*6+5) (.bool false) (.inl rfl));have hln:=(ZAx.new (HCA.o.gb gs (λb (e:b=gd)=>⟨λe9=>by have:=(HCA.o.bounds.2.1 b e9).1;rw[e]at this;exact Zb3 _ (Zb5 hgd this),λe9=>by have:=(HCA.o.bounds.2.2 b e9).2.1;rw[e]at this;exact Zb3 _ (Zb5 hgd this)⟩)) (v:=(Z5 (Z5 (Z5 (Z5 (Z5 (Z5 v 0 (ZH gc)) 1 (.int .i64 1)) 2 (.slice none 0 0)) 3 (.bool false)) 4 (.slice none 0 0)) 5 (.bool false))) (by simp[Z5]) (by simp[Z5]) (by simp[Z5]) (by simp[Z5]) (by simp[Z5]) (by simp[Z5]));obtain⟨a1,a2,a3⟩:=HF.o _ _ _ _ _ ((GB.of_ext (λi=>i=gd\/D n i) HX.o).trans gs (λi e=>.inl (.inl e))) b5 v5 (λj hj=>(j5 j hj).trans ((j4 j hj).trans ((j3 j hj).trans ((j2 j hj).trans ((j1 j hj).trans (j0 j hj)))))) hln (λi hi=>⟨.inr hi.1,hi.2⟩);exact⟨C,xb,L,_,Zb0 _,a1,a2,a3⟩
theorem ZGc {g:YE}{n:Nat}{a:DSt}(hn:n<63)(hst:(a.ls n).st=0)(hdr:a.dr=false):ZQq g 1 n 0 0 a {a with ls:=Z5 a.ls n ZEs}:=by
 intro w gd C xb L D h hL;obtain⟨W,hW⟩:=ZTz ((w.alloc (.cells #[.int .u8 1,.int .i64 (n:Int),.slice none 0 0,.int .i64 0] 90)));have xW:ZL w W:=by rw[<-hW];exact(ZL.refl w).alloc _
 have k0:=ZA (show W.heap[w.heap.size]?=some (.cells #[.int .u8 1,.int .i64 (n:Int),.slice none 0 0,.int .i64 0] 90 (0,0)) by rw[<-hW];exact ZM w _);have hA:=h.ext xW;have IS:=ZA (ZDc n W hn);have LN:=ZA (ZHs W gd g C xb L a.ks a.dr a.ls D n hA hn hst);have SPP:=ZA (ZQH W gd g C xb L a.ks a.dr a.ls D n hA hn hdr);have e0:=ZTx k0.out 0 (.int .u8 1);have e1:=ZTx k0.out 1 (.int .i64 (n:Int));have XW:=ZA xW;clear h hA xW hst hL;go_enter Tryz.func19,Tryz.ntmps19;go_upto_region 1 with fail
 (try rw[hW])
 clear hW;go_wp2_with fail;refine IS.o.mono ?_;rintro e w1 ⟨rfl,rfl⟩;go_wp2_with fail;refine LN.o.mono ?_;rintro e w1 ⟨rfl,rfl⟩;go_wp2_with fail;refine SPP.o.mono ?_;rintro e w1 ⟨rfl,hgo⟩;have HG:=ZA hgo;clear hgo;go_wp2_with fail;go_ret;obtain⟨C',xb',L',D',h1,h2,h3,h4⟩:=Xt.back XW.o HG.o;exact⟨rfl,C',xb',L',D',Nat.le_succ_of_le h1,h2,h3,h4⟩
def lz:List Value:=[.pointer none,.int .i64 0,.slice none 0 0,.bool false,.slice none 0 0,.bool false]
def dz:List Value:=.pointer none::((List.replicate 63 lz).flatten++[.bool false])
theorem ZTG:Tryz.zeroCells164=dz.toArray:=by kernel_rfl
theorem ZPe:∀(m n k:Nat),n<m->k<6->(List.replicate m lz).flatten[n*6+k]?=lz[k]?
 |0,n,k,h,_=>by omega
 |m+1,0,k,_,hk=>by
  rw[List.replicate_succ,List.flatten_cons,ZcM,ZcK,Zav (by exact hk)]
 |m+1,n+1,k,h,hk=>by
  have:=ZPe m n k ZB hk;rw[List.replicate_succ,List.flatten_cons,Zaw (by show 6<=_;omega),show(n+1)*6+k - lz.length=n*6+k by show(n+1)*6+k - 6=_;omega];exact this
theorem ZMj:∀m,(List.replicate m lz).flatten.length=m*6
 |0=>rfl
 |m+1=>by
  rw[List.replicate_succ,List.flatten_cons,Za9,ZMj m,show lz.length=6 from rfl];omega
theorem ZLH:(List.replicate 63 lz).flatten.length=378:=ZMj 63
theorem ZSo (p:Value){n k:Nat}(hn:n<63)(hk:k<6):(dz.toArray.setIfInBounds 0 p)[1+n*6+k]?=lz[k]?:=by
 rw[ZaQ ZB,Za7,show 1+n*6+k=(n*6+k)+1 by omega];unfold dz;rw[Zax,Zav (by rw[ZLH];omega)];exact ZPe 63 n k hn hk
theorem ZTm (p:Value):(dz.toArray.setIfInBounds 0 p)[0]?=some p:=by
 rw[ZaR];exact(by show 0<dz.length;unfold dz;simp)
theorem ZSp (p:Value):(dz.toArray.setIfInBounds 0 p)[379]?=some (.bool false):=by
 rw[ZaQ ZB,Za7];unfold dz;rw[show 379=378+1 from rfl,Zax,Zaw (by rw[ZLH];omega),ZLH];rfl
def ZDN:DSt:=⟨JY,λ_=>lnZ,false⟩
def ZQr (w:World)(P:List YR)(room:Nat)(e:Ending)(w':World):Prop:=∃(gd:Nat) (g:YE) (C:Zdb) (xb:Nat->Nat) (L:List Zf) (D:Nat->Nat->Prop),e=.returned (.tuple #[ZH gd,.int .i64 0])/\g.P=P/\g.room=room/\Ym w' gd g C xb L ZDN.ks ZDN.dr ZDN.ls D/\L.length<=1/\ZL w w'/\∀i,Xm gd C D i->w.heap.size<=i
theorem ZRh (P:List YR)(A:Option Addr)(n c room:Nat)(w:World)(hn:P.length=n)(h32:n<=32)(hP:∀p ∈ P,Yd p)(hr:Rd w A (ZAI P))(h1:1<=room)(h2:room<=4096): Calls Tryz.prog 18 #[.slice A n c,.int .i64 (room:Int)] w (ZQr w P room):=by
 have CN:=ZA (ZLy P A n c room w hn h32 hP hr h1 h2);clear hn h32 hP hr h1 h2;go_enter Tryz.func18,Tryz.ntmps18;go_wp2_with fail;refine CN.o.mono ?_;rintro e w1 ⟨g,C,L,rfl,hP,hroom,hco,hL,hx,-,-,-,hC⟩;have HCO:=ZA hco;have HX:=ZA hx;have HC:=ZA hC;have HP:=ZA hP;have HR:=ZA hroom;have HL:=ZA hL;clear hco hx hC hP hroom hL;go_wp2_with fail
 go_ret2
 have hz:=HX.o.size;have hb:∀(o:Obj),(w1.alloc o).heap[w1.heap.size]?=some o:=λo=>ZM w1 o;rw[ZTG];have hb9:=hb (.cells (dz.toArray.setIfInBounds 0 (ZH g.gx)) 164 (0,0));refine⟨w1.heap.size,g,C,λ_=>0,L,λ_ _=>False,ZAz rfl rfl,HP.o,HR.o,⟨λ_ k=>(lz[k]?).getD (.bool false),?_,⟨_,_,hb9⟩,(ZE hb9 0).trans (ZTm _),(ZE hb9 379).trans (ZSp _),λn k hn hk=>?_,λn hn=>ZAx.zero _ _ _ rfl rfl rfl rfl rfl rfl,λn i hi=>hi.elim,λn m i hi=>hi.elim⟩,HL.o,HX.o.alloc _,λi hi=>?_⟩
 ·refine HCO.o.far (GB.of_ext (λ_=>False) ((ZL.refl w1).alloc _)) (λ_ _ e=>e.elim) (λi hi e=>?_) (λi e=>?_)
  ·rcases e with e|⟨_,e⟩
   ·omega
   ·exact e.elim
  ·rcases e with e|⟨_,e⟩
   ·rw[e];exact ZW hb9
   ·exact e.elim
 ·refine(ZE hb9 _).trans ((ZSo _ hn hk).trans ?_);have hl:k<lz.length:=hk
  dsimp only
  rw[Zaz hl];rfl
 ·rcases hi with e|e|⟨_,e⟩
  ·exact HC.o i e
  ·omega
  ·exact e.elim
section
open Go.Shelf
end
def Xw (w:World)(base gd:Nat)(g:YE)(N:Nat)(a:DSt)(F:Zdb):Prop:=base<=w.heap.size/\(∀i,F i->i<w.heap.size)/\∃C xb L D,Ym w gd g C xb L a.ks a.dr a.ls D/\L.length<=N/\∀i,Xm gd C D i->base<=i/\¬F i
abbrev DWr (base:Nat)(F:Zdb):Nat->Prop:=λi=>base<=i/\¬F i
theorem Xw.ext {w w':World}{base gd:Nat}{g:YE}{N:Nat}{a:DSt}{F:Zdb}(h:Xw w base gd g N a F)(x:ZL w w'):Xw w' base gd g N a F:=by
 obtain⟨h1,h2,C,xb,L,D,h3,h4,h5⟩:=h;exact⟨Zb2 h1 x.size,λi hi=>Zb5 (h2 i hi) x.size,C,xb,L,D,h3.ext x,h4,h5⟩
theorem Xw.go {w w':World}{base gd:Nat}{g:YE}{N N':Nat}{b:DSt}{F:Zdb}{C:Zdb}{D:Nat->Nat->Prop}(h1:base<=w.heap.size)(h2:∀i,F i->i<w.heap.size)(h5:∀i,Xm gd C D i->base<=i/\¬F i)(hN:N<=N')(h:Xt w gd g C D N b.ks b.dr b.ls w'):Xw w' base gd g N' b F/\GB w w' (DWr base F):=by
 obtain⟨C',xb',L',D',k1,k2,k3,k4⟩:=h;refine⟨⟨Zb2 h1 k3.size,λi hi=>Zb5 (h2 i hi) k3.size,C',xb',L',D',k2,Zb2 k1 hN,λi hi=>?_⟩,k3.more (λi _ e=>h5 i e)⟩;rcases k4 i hi with e|e
 ·exact h5 i e
 ·exact⟨Zb2 h1 e,λe9=>by have:=h2 i e9;omega⟩
theorem Xw.do_ {base gd:Nat}{g:YE}{N kind n err:Nat}{X:Int}{a b:DSt}{F:Zdb}{w:World}(h:Xw w base gd g N a F)(hN:N<=100000)(d:ZQq g kind n X err a b): Calls Tryz.prog 19 #[ZH gd,.agg #[.int .u8 (kind:Int),.int .i64 (n:Int),.slice none 0 0,.int .i64 X]] w λe w'=>e=.returned (.int .i64 (err:Int))/\Xw w' base gd g (N+1) b F/\GB w w' (DWr base F):=by
 obtain⟨h1,h2,C,xb,L,D,h3,h4,h5⟩:=h;refine(d w gd C xb L D h3 ZB).mono ?_;rintro e w' ⟨he,hg⟩;obtain⟨k1,k2⟩:=Xw.go h1 h2 h5 (by omega:L.length+1<=N+1) hg;exact⟨he,k1,k2⟩
theorem Xw.feed_ {base gd:Nat}{g:YE}{N n m c:Nat}{A:Option Addr}{xs:List Nat}{a b:DSt}{F:Zdb}{w:World}(h:Xw w base gd g N a F)(d:ZEk g n xs a b)(hm:xs.length=m)(hr:Rd w A (ZV .u8 xs)): Calls Tryz.prog 19 #[ZH gd,.agg #[.int .u8 2,.int .i64 (n:Int),.slice A m c,.int .i64 0]] w λe w'=>e=.returned (.int .i64 0)/\Xw w' base gd g N b F/\GB w w' (DWr base F):=by
 obtain⟨h1,h2,C,xb,L,D,h3,h4,h5⟩:=h;refine(d w gd C xb L D A m c h3 hm hr).mono ?_;rintro e w' ⟨he,hg⟩;obtain⟨k1,k2⟩:=Xw.go h1 h2 h5 h4 hg;exact⟨he,k1,k2⟩
theorem Xw.state_ {base gd:Nat}{g:YE}{N n:Nat}{a:DSt}{F:Zdb}{w:World}(h:Xw w base gd g N a F)(hn:n<63): Calls Tryz.prog 23 #[ZH gd,.int .i64 (n:Int)] w λe w'=>e=.returned (.int .i64 ((a.ls n).st:Int))/\w=w':=by
 obtain⟨h1,h2,C,xb,L,D,h3,h4,h5⟩:=h;exact ZLr w gd g C xb L a.ks a.dr a.ls D n h3 hn
theorem Xw.out_ {base gd:Nat}{g:YE}{N n m:Nat}{a:DSt}{F:Zdb}{w:World}(h:Xw w base gd g N a F)(hn:n<63)(hm:(a.ls n).wr.length=m)(hm2:m<=1000000): Calls Tryz.prog 25 #[ZH gd,.int .i64 (n:Int)] w λe w'=>∃A c,e=.returned (.slice A m c)/\w'.ownsRow w.heap.size 5 1 (.slice A m c) m (ZV .u8 (a.ls n).wr)/\ZL w w':=by
 obtain⟨h1,h2,C,xb,L,D,h3,h4,h5⟩:=h;exact ZQE w gd g C xb L a.ks a.dr a.ls D n m h3 hn hm hm2
inductive ZI2 (g:YE) (n:Nat) (stop:DSt->Bool):Nat->DSt->DSt->Prop
 |done {a:DSt}:stop a=true->ZI2 g n stop 0 a a
 |step {k:Nat} {a b c:DSt}:stop a=false->ZQq g 3 n 0 0 a b->ZI2 g n stop k b c->ZI2 g n stop (k+1) a c
theorem ZQQ (P:List YR)(A K:Option Addr)(n c pol kl kc op:Nat)(N:Int)(key:List Nat)(w:World)(hn:P.length=n)(h32:n<=32)(hP:∀p ∈ P,Yd p)(hr:Rd w A (ZAI P))(ho:Y3 P ⟨op,pol,key,N⟩)(hkl:kl<=255): Calls Tryz.prog 85 #[.slice A n c,.agg #[.int .u8 (op:Int),.int .i64 (pol:Int),.slice K kl kc,.int .i64 N]] w (Xu (.int .i64 0) w):=by
 obtain⟨h1,h6,h4,ha,hs⟩:=ho
 dsimp only at h1 h6 h4 ha hs
 by_cases h:op<=4
 ·have hp:pol<n:=by rw[<-hn];exact(h4 h).1
  have:op=1\/op=2\/op=3\/op=4:=by omega
  rcases this with rfl|rfl|rfl|rfl
  ·exact ZBb P A K n c pol kl kc 1 1 N w hn h32 hP hr (.inl ⟨rfl,rfl⟩) hp (λ_=>(ha rfl).2) (λ_=>by rw[(ha rfl).1];rfl) hkl
  ·exact ZBb P A K n c pol kl kc 2 2 N w hn h32 hP hr (.inr (.inl ⟨rfl,rfl⟩)) hp (λe=>absurd e (by decide)) (λ_=>by rw[hs (.inl rfl)];rfl) hkl
  ·exact ZBb P A K n c pol kl kc 3 2 N w hn h32 hP hr (.inr (.inr (.inl ⟨rfl,rfl⟩))) hp (λe=>absurd e (by decide)) (λ_=>by rw[hs (.inr rfl)];rfl) hkl
  ·exact ZBb P A K n c pol kl kc 4 0 N w hn h32 hP hr (.inr (.inr (.inr ⟨rfl,rfl⟩))) hp (λe=>absurd e (by decide)) (λe=>absurd rfl e) hkl
 ·exact ZKL P A K n c kl kc (op:Int) pol N w hn h32 hP hr ZB
def ZSy (w:World)(g:YE)(O C:Zdb)(xb:Nat->Nat)(L:List Zf)(s:YF)(who:Nat)(x:ZX)(e:Ending)(w':World):Prop:=∃q C',e=.returned (.int .i64 0)/\Z9 w g O C (ZI4 xb who q) L (s.put who (.run x false 0 (Xz x))) C' w'
theorem ZLL (w:World)(g:YE)(O C:Zdb)(xb:Nat->Nat)(L:List Zf)(s:YF)(who pol kl kc op:Nat)(N:Int)(K:Option Addr)(key:List Nat)(h:YK w g O C xb L s)(hi:s.call who=.idle)(hw:who<64)(h32:g.P.length<=32)(hP:∀p ∈ g.P,Yd p)(hok:Y3 g.P ⟨op,pol,key,N⟩)(hp32:pol<32)(hl:key.length=kl)(hn:kl<=255)(hb:∀x ∈ key,x<256)(hr:Rd w K (ZV .u8 key))(_hkc:kl<=kc): Calls Tryz.prog 41 #[ZH g.gx,.int .i64 (who:Int),.agg #[.int .u8 (op:Int),.int .i64 (pol:Int),.slice K kl kc,.int .i64 N]] w (ZSy w g O C xb L s who ⟨op,pol,key,N⟩):=by
 obtain⟨W,hW⟩:=ZTz ((w.alloc (.cells #[.int .u8 (op:Int),.int .i64 (pol:Int),.slice K kl kc,.int .i64 N] 34)));have xW:ZL w W:=by rw[<-hW];exact((ZL.refl w).alloc _)
 have IS:=ZA (ZLN who W hw);have K0:=ZA (show W.heap[w.heap.size]?=some (.cells #[.int .u8 (op:Int),.int .i64 (pol:Int),.slice K kl kc,.int .i64 N] 34 (0,0)) by rw[<-hW];exact ZM w _);have rd:=h.rd;have a0:=ZG xW rd.c0;have CH:=ZA (ZQQ g.P g.PA K g.P.length g.pc pol kl kc op N key W rfl h32 hP (rd.prd.ext xW) hok hn);obtain⟨f,xf,-,-,pv,-⟩:=h.pend hw;rw[hi]at pv;obtain rfl:f=.nilFunc:=pv;have XF:=ZA xf;have HK:=ZA (λu (y:ZL W u)=>ZCc K kl kc key u hl ZB ((hr.ext xW).ext y));have HH:=ZA h;have Hi:=ZA hi;have XW:=ZA xW;have HW:=ZA hW;have c0:=ZTx K0.o 0 (.int .u8 (op:Int));have c1:=ZTx K0.o 1 (.int .i64 (pol:Int));have c2:=ZTx K0.o 2 (.slice K kl kc);have c3:=ZTx K0.o 3 (.int .i64 N);have Hok:=ZA hok;have HP:=ZA hP;have HB:=ZA hb;have Hlen:=ZA hl;have hwi:(who:Int)<64:=by omega
 have hq0:∀(u:World),(binOp .neq 139 .nilFunc .nilFunc).run Tryz.prog u=.ok (.bool false) u:=λ_=>rfl;clear h rd hr xW hW hP hb hl xf hi hok;go_enter Tryz.func41,Tryz.ntmps41;go_upto_region 1 with fail
 (try rw[HW.o])
 clear HW;go_wp2_with fail;refine IS.o.mono ?_;rintro e w1 ⟨rfl,rfl⟩;go_wp2_with fail;refine CH.o.mono ?_;rintro e w1 ⟨rfl,hx⟩;have HX:=ZA hx;have K1:=ZA (ZJ K0.o hx);clear c0 c1 c2 c3;have c0:=ZTx K1.o 0 (.int .u8 (op:Int));have c1:=ZTx K1.o 1 (.int .i64 (pol:Int));have c2:=ZTx K1.o 2 (.slice K kl kc);have c3:=ZTx K1.o 3 (.int .i64 N);have xf:=ZG (XW.o.trans hx) XF.o;have z2:w1.frozen? ⟨w.heap.size,2,none⟩=false:=ZF K1.o 2;clear hx;go_upto_region 13 with fail;clear IS CH;go_wp2_with fail;refine(HK.o _ HX.o).mono ?_;rintro e w2 ⟨K2,kc2,rfl,ho,hx⟩;rw[Hlen.o]at ho ⊢;have HO:=ZA ho;have K2b:=ZA (ZJ K1.o hx);have X2:=ZA ((XW.o.trans HX.o).trans hx);obtain⟨w3,hw3⟩:=ZTz (w2.setCell ⟨w.heap.size,2,none⟩ (.slice K2 kl kc2));have x3:ZL w w3:=by rw[<-hw3];exact X2.o.setCell (p:=⟨w.heap.size,2,none⟩) (Zb0 _) _
 have k3:w3.heap[w.heap.size]?=some (.cells #[.int .u8 (op:Int),.int .i64 (pol:Int),.slice K2 kl kc2,.int .i64 N] 34 (0,0)):=by rw[<-hw3];exact ZU K2b.o 2 _
 have g3:GB w2 w3 (· =w.heap.size):=by rw[<-hw3];exact(GB.refl w2 (· =w.heap.size)).set w.heap.size 2 _ (.inl rfl)
 have hbk:∀a,K2=some a->w.heap.size<a.block/\a.block<w2.heap.size:=λa ha=>by
  obtain⟨a1,a2,-⟩:=ZC2 ho a ha;exact⟨Zb5 (ZW K1.o) a1,a2⟩
 have r3:Rd w3 K2 (ZV .u8 key):=λhne=>by
  obtain⟨b,off,e,hc⟩:=Y9 ho hne;have hb9:=hbk _ e;exact⟨b,off,e,λj u hu=>(ZcQ (g3.block b hb9.2 (λe9=>Zb3 _ (e9 ▸ hb9.1)))).trans (hc j u hu)⟩
 have b3:∀a,K2=some a->w.heap.size<=a.block/\a.block<w3.heap.size:=λa ha=>⟨Zbz (hbk a ha).1,Zb5 (hbk a ha).2 g3.size⟩;have hkc2:=Ys ho;have A3:=ZA (HH.o.ext x3);obtain⟨f3,xf3,zf3,hCgx,pf3,-⟩:=A3.o.pend hw;rw[Hi.o]at pf3;obtain rfl:f3=.nilFunc:=pf3;have hltC:=HH.o.lt;have hltO:=HH.o.ol;have ngx:w.heap.size≠g.gx:=λe=>by have:=hltC g.gx hCgx;omega
 have SM:=ZA (λu (y:ZL w3 u)=>ZPi pol K2 kl kc2 key u hp32 Hlen.o hn HB.o (r3.ext y))
 have XS:=ZA (λu v (y:ZL w3 u) (y2:ZL (u.alloc (.cells #[.int .u8 (op:Int),.int .i64 (pol:Int),.slice K2 kl kc2,.int .i64 N,ZH g.gx,.int .i64 (who:Int),.int .u64 (JD (pol::key):Int),.bool false,.int .i64 0] 206 (0,0))) v)=>
  (⟨⟨_,K2,kc2,(ZJ (ZM u _) y2).trans (by rw[<-Hlen.o];rfl),by show key.length<=kc2;rw[Hlen.o];exact hkc2,(r3.ext y).ext (((ZL.refl u).alloc _).trans y2),λa ha=>by
    have h9:=b3 a ha;have h2:=y.size;have h3:=y2.size;simp at h3;refine⟨λe=>?_,by omega⟩;rcases e with(e|e)|e
    ·have:=hltC _ e;omega
    ·omega
    ·have:=hltO _ e;omega⟩,by have h3:=y2.size;simp at h3;omega,by have h3:=y.size;have h4:=x3.size;omega⟩:
   XAt v (XO (λi=>C i\/i=u.heap.size) O) g.gx who ⟨op,pol,key,N⟩ false 0 u.heap.size/\u.heap.size<v.heap.size/\w.heap.size<=u.heap.size))
 have FS:=ZA (λu v (y:ZL w3 u) (y2:ZL (u.alloc (.cells #[.int .u8 (op:Int),.int .i64 (pol:Int),.slice K2 kl kc2,.int .i64 N,ZH g.gx,.int .i64 (who:Int),.int .u64 (JD (pol::key):Int),.bool false,.int .i64 0] 206 (0,0))) v)=>
  ZL3 v (XO (λi=>C i\/i=u.heap.size) O) g who u.heap.size ⟨op,pol,key,N⟩ false 0
   (λi hi=>by
    have h1:=x3.size;have h2:=y.size;have h3:=y2.size;simp at h3;rcases hi with(hi|hi)|hi
    ·have:=hltC i hi;omega
    ·omega
    ·have:=hltO i hi;omega)
   (XS.o u v y y2).1
   (((A3.o.rd.ext y).ext (((ZL.refl u).alloc _).trans y2)).more (λa ha=>by have:=(A3.o.rd.pfz a ha).2;have h2:=y.size;omega)) Hok.o h32)
 have d0:=ZTx k3 0 (.int .u8 (op:Int));have d1:=ZTx k3 1 (.int .i64 (pol:Int));have d2:=ZTx k3 2 (.slice K2 kl kc2);have d3:=ZTx k3 3 (.int .i64 N);have HW3:=ZA hw3;have X3:=ZA x3;have c2':=ZTx K2b.o 2 (.slice K kl kc);have z2':w2.frozen? ⟨w.heap.size,2,none⟩=false:=ZF K2b.o 2;clear ho hx c0 c1 c2 c3 xf z2 hw3 x3 k3 g3 hbk r3 b3 hkc2 hltC hltO;go_upto_region 14 with fail;rw[HW3.o]
 go_region_held3 (λw'=>w'.cell? ⟨w.heap.size,0,none⟩=some (.int .u8 (op:Int))/\w'.cell? ⟨w.heap.size,1,none⟩=some (.int .i64 (pol:Int))/\w'.cell? ⟨w.heap.size,2,none⟩=some (.slice K2 kl kc2)/\w'.cell? ⟨w.heap.size,3,none⟩=some (.int .i64 N)) (((try go_split_ands);exact⟨ZT3,ZT3,ZT3,ZT3⟩))
  (first
   |(go_at_call 86;(with_reducible refine(SM.o _ (by with_reducible first|exact ZL.refl _|exact(ZL.refl _).drew)).mono ?_);rintro e w4 ⟨rfl,hy⟩;have HY:=ZA ((ZL.refl w3).drew.trans hy);have td0:=ZG (HY.o) d0;have td1:=ZG (HY.o) d1;have td2:=ZG (HY.o) d2;have td3:=ZG (HY.o) d3;have txf3:=ZG (HY.o) xf3;clear hy)
   |(go_at_call 87;(with_reducible refine(FS.o _ _ HY.o (by with_reducible first|exact ZL.refl _|exact(ZL.refl _).drew)).mono ?_);rintro e w6 ⟨f,rfl,hk,hx⟩;obtain⟨fi,ci,rfl⟩:=Ze.fn hk;have HKK:=ZA hk;have HXA:=ZA (XS.o _ _ HY.o hx);have HX6:=ZA (((ZL.refl w4).alloc _).trans hx);have u0:=ZG HX6.o td0;have u1:=ZG HX6.o td1;have u2:=ZG HX6.o td2;have u3:=ZG HX6.o td3;have xf6:=ZG HX6.o txf3;have zf6:=ZRd (HY.o.trans HX6.o) xf3 zf3;have v0:=ZZ (i:=3+who) (u:=Z1 fi ci) u0 ngx;have v1:=ZZ (i:=3+who) (u:=Z1 fi ci) u1 ngx;have v2:=ZZ (i:=3+who) (u:=Z1 fi ci) u2 ngx;have v3:=ZZ (i:=3+who) (u:=Z1 fi ci) u3 ngx;clear hk hx))
 all_goals
  go_wp2_with fail;go_ret;exact⟨_,_,rfl,HH.o.start hw Hi.o (X3.o.trans (HY.o.trans HX6.o)) HXA.o.2.2 HXA.o.2.1 HXA.o.1 HKK.o⟩
end Go.Proofs.YtloidkmphigbdaaGreat
