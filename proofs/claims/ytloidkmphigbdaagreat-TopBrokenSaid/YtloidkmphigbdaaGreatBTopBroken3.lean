/- Laid together: what 'TopBroken' needs, part 3 of 11. -/
import Derived.Deep.DeepCutAuto
import Derived.Deep.RegionWith
import Derived.Recover
import Derived.Deep.RegionHeld3
import Derived.Deep.CutBlock
import Derived.Deep.LoopGhost
import Derived.Test.YtloidkmphigbdaaGreatBTopBroken1
import Derived.Test.YtloidkmphigbdaaGreatBTopBroken2
namespace Go.Proofs.YtloidkmphigbdaaGreat
set_option linter.all false
set_option maxHeartbeats 40000000
set_option maxRecDepth 100000
open Go.RowKit
def Zaf := @List.append_inj
def Zag := @List.append_nil
def Zai := @List.cons.injEq
def Zam := @List.drop_left'
def ZbU := @List.mem_singleton
def Zbh := @List.take_append_of_le_length
def Zbi := @List.take_left'
def Zbj := @List.take_length
def Zci := @leaves_cons
abbrev ZH9:Value:=ZIA 0 none 0 0 0
theorem JU {fn:Func}(h:fn.results=#[.cell 2 120,.tmp 3]){tmps:Array Value}{w:World}{g:Nat}{a b c:Value}{t:TypeId}{fr:Nat × Nat}(hp:tmps.getD 2 undef=.pointer (some ⟨g,0,none⟩))(hg:w.heap[g]?=some (.cells #[a,b,c] t fr)): (results fn tmps).run Tryz.prog w=.ok (.tuple #[.agg #[a,b,c],tmps.getD 3 undef]) w:=Yq h tmps w g t #[a,b,c] fr _ hp hg Tryz.underlying120 ZTw ZC
def ZIz (p:Nat)(xs:List Nat)(s:Nat)(w:World)(e:Ending)(w':World):Prop:=∃A c,e=.returned (.tuple #[ZIA (p:Int) A xs.length c (s:Int),.int .i64 0])/\w'.ownsRow w.heap.size 5 1 (.slice A xs.length c) xs.length (ZV .u8 xs)/\ZL w w'
theorem ZMR (p:Nat)(xs:List Nat)(s:Nat):(((Y4 p xs s).drop (xs.length+4)).take 8)=Zh s 8:=by
 have e:Y4 p xs s=([83,71,p,xs.length]++xs)++(Zh s 8++Zh (ZDT (Yc p xs s)) 4):=by simp[Y4,Yc]
 rw[e,Zak ZTv,Zan ZTv,ZbV,Zbh (by rw[Zs];omega),Zbk (by rw[Zs];omega)]
theorem ZQx (p:Nat)(xs:List Nat)(s:Nat):(Y4 p xs s).drop (xs.length+12)=Zh (ZDT (Yc p xs s)) 4:=by
 rw[Y4,Zak (by rw[ZAL];omega),Zan (by rw[ZAL];omega),ZbV]
theorem ZOv (p:Nat)(xs:List Nat)(s:Nat):(Y4 p xs s).take (xs.length+12)=Yc p xs s:=by
 rw[Y4,Zbh (by rw[ZAL];omega),Zbk (by rw[ZAL];omega)]
theorem ZMS (p:Nat)(xs:List Nat)(s:Nat):(((Y4 p xs s).drop 4).take xs.length)=xs:=by
 have e:Y4 p xs s=[83,71,p,xs.length]++(xs++(Zh s 8++Zh (ZDT (Yc p xs s)) 4)):=by simp[Y4,Yc]
 rw[e,Zak ZTv,Zan ZTv,ZbV,Zbh ZB,Zbk ZB]
theorem ZHJ {P:Program}{t e:TypeId}(ht:P.underlying t=some (.slice e))(hz:∀u:World,(sizeOf e).run P u=.ok 1 u){b off n c m d:Nat}(k h:Nat){ki hi:Int}(hki:ki=(k:Int))(hhi:hi=(h:Int))(hhn:h<=n)(hnc:n<=c)(h2:¬c=k)(hm:h=m+k)(hd:c=d+k)(u:World): (Instr.slice t (.slice (some ⟨b,off,none⟩) n c) (some (.int .i64 ki)) (some (.int .i64 hi)) none).run P u=.ok (.slice (some ⟨b,off+k,none⟩) m d) u:=by
 subst hki hhi;have he:P.elem t=e:=by simp[Program.elem,ht]
 rw[run_slice_lh (P:=P) u t _ n c (by rw[he];exact ht) .i64 .i64 (k:Int) (h:Int) ZB ZB ZB,he,hz];simp only[Result.andThen,sliced,ZaY,Zcf h2,Option.map_some,ZaO,ZcD]
 congr 2<;>omega
theorem ZSU {w:World}{b off:Nat}{vs:List Value}(h:Rd w (some ⟨b,off,none⟩) vs)(j:Nat):Rd w (some ⟨b,off+j,none⟩) (vs.drop j):=by
 intro hne;obtain⟨b',off',hA,hc⟩:=h (by rintro rfl;simp at hne);injection hA with hA;injection hA with e1 e2 _;subst e1 e2;exact⟨b,off+j,rfl,λi u hu=>by rw[Zbp];exact hc (j+i) u (by rw[<-hu,Zay])⟩
theorem ZAV {w:World}{b off:Nat}{ys zs:List Nat}(h:Rd w (some ⟨b,off,none⟩) (ZV .u8 ys))(j m:Nat)(e:(ys.drop j).take m=zs):Rd w (some ⟨b,off+j,none⟩) (ZV .u8 zs):=by
 have h1:=ZSU h j;rw[<-JO]at h1;rw[<-e];exact ZIO (ys:=(ys.drop j).drop m) (by rw[Zbg];exact h1)
theorem ZMY {w:World}{g:Nat}{x y z:Value}{t:TypeId}(h:ZD (w.heap[g]?=some (.cells #[x,y,z] t (0,0))))(a b c:Value):(((w.setCell ⟨g,0,none⟩ a).setCell ⟨g,1,none⟩ b).setCell ⟨g,2,none⟩ c).heap[g]?=some (.cells #[a,b,c] t (0,0)):=ZS7 h.out a b c
theorem ZQG {w w2 w6:World}{p k s c6:Nat}{xs:List Nat}{A6:Option Addr}{a b c:Value}(hk:xs.length=k)(ho:w6.ownsRow w2.heap.size 5 1 (.slice A6 (0+k) c6) (0+k) (ZV .u8 ([]++xs)))(hs:w.heap.size<w2.heap.size)(hx:ZL w w2)(hx6:ZL w2 w6): ZIz p xs s w (.returned (.tuple #[ZIA (p:Int) A6 k c6 (s:Int),.int .i64 0])) (((w6.setCell ⟨w.heap.size,0,none⟩ a).setCell ⟨w.heap.size,1,none⟩ b).setCell ⟨w.heap.size,2,none⟩ c):=by
 subst hk;rw[ZcK,ZbV]at ho;have hg:=ZT (ZT (Zc w6 w.heap.size 0 a) 1 b) 2 c;refine⟨A6,c6,rfl,Zg (ho.kept hg ?_) (Zbz hs),?_⟩
 ·cases hA:(Value.slice A6 xs.length c6).ownBlock with
  |none=>exact .inl rfl
  |some q=>right;intro e;injection e with e;have:=Yg ho q hA;omega
 ·exact(hx.trans hx6).grown hg (λk hk=>by injection hk with hk;omega)
theorem ZOH (w:World)(p s k:Nat)(A:Option Addr)(n c:Nat)(xs:List Nat)(hk:xs.length=k)(hn:n=k+16)(hb:∀x ∈ xs,x<256)(hr:Rd w A (ZV .u8 (Y4 p xs s)))(hnc:n<=c)(h1:1<=s)(h2:s<=4611686018427387903)(h4:p<32)(hk':k<=255): Calls Tryz.prog 33 #[.slice A n c] w (ZIz p xs s w):=by
 obtain⟨b,off,hA,hc⟩:=hr (by simp[ZV,Y4,Yc]);subst hA;have c0:w.cell? ⟨b,off,none⟩=some (.int .u8 83):=hc 0 _ rfl;have c1:w.cell? ⟨b,off+1,none⟩=some (.int .u8 71):=hc 1 _ rfl;have c2:w.cell? ⟨b,off+2,none⟩=some (.int .u8 (p:Int)):=hc 2 _ rfl;have c3:w.cell? ⟨b,off+3,none⟩=some (.int .u8 (k:Int)):=by rw[<-hk];exact hc 3 _ rfl
 have Hr:=ZA hr;have Hk:=ZA hk;have Hb:=ZA hb;clear hc hr hk hb;have d0:=ZI c0;have d1:=ZI c1;have d2:=ZI c2;have d3:=ZI c3;have hne:((n:Int) !=4+(k:Int)+12)=false:=by simp;omega
 have n1:k+16<=n:=by omega
 have n2:n<=k+16:=by omega
 have n3:¬c=4+k:=by omega
 have n4:¬c=4+k+8:=by omega
 have r1:=ZAV (zs:=Zh s 8) Hr.o (4+k) 8 (by have:=ZMR p xs s;rw[Hk.o,Zbq]at this;exact this)
 have r2:=ZAV (zs:=Zh (ZDT (Yc p xs s)) 4) Hr.o (4+k+8) 4 (by
  have:=ZQx p xs s;rw[Hk.o,show k+12=4+k+8 by omega]at this;rw[this,Zbk (by rw[Zs];omega)])
 have r3:Rd w (some ⟨b,off,none⟩) (ZV .u8 (Yc p xs s)):=ZAV Hr.o 0 (k+12) (by rw[List.drop_zero,<-Hk.o];exact ZOv p xs s);have r4:=ZAV (zs:=xs) Hr.o 4 k (by have:=ZMS p xs s;rw[Hk.o]at this;exact this);have R1:=ZA r1;have R2:=ZA r2;have R3:=ZA r3;have R4:=ZA r4;clear r1 r2 r3 r4 hn;go_enter Tryz.func33,Tryz.ntmps33;go_wp2_with fail;have hnum8:Z4 (Zh s 8)=s:=by
  rw[Xx];exact Zb9 (Zb4 h2 (by decide))
 refine(ZAt _ _ 8 _ (Zh s 8) (Zs s 8) ZB (Xf s 8) (R1.o.alloc _)).mono ?_;rintro e w1 ⟨rfl,hw1⟩;rw[hnum8];obtain⟨U,hU⟩:=ZTz (upd 14695981039346656037 (Yc p xs s));have hUlt:U<18446744073709551616:=by rw[<-hU];exact ZDR _ _ ZB
 have hs4:ZDT (Yc p xs s)=U % 4294967296:=by rw[ZDT,hU]
 have hnum4:Z4 (Zh (ZDT (Yc p xs s)) 4)=U % 4294967296:=by
  rw[Xx,hs4];exact Nat.mod_mod _ _
 have hbl:(Yc p xs s).length=4+k+8:=by rw[ZAL,Hk.o];omega
 have hbb:∀x ∈ Yc p xs s,x<256:=λx hx=>by
  simp only[Yc,ZbJ,ZbI]at hx;rcases hx with rfl|rfl|rfl|rfl|hx|hx
  ·omega
  ·omega
  ·omega
  ·have:=Hk.o;omega
  ·exact Hb.o x hx
  ·exact Xf _ _ x hx
 have C2:=ZA (λq=>ZAt (w1.drewN q) (some ⟨b,off+(4+k+8),none⟩) (n - (4+k+8)) (c - (4+k+8)) (Zh (ZDT (Yc p xs s)) 4) (by rw[Zs];omega) ZB (Xf _ 4) (by rw[<-hw1];exact(R2.o.alloc _).drewN q));have C3:=ZA (λq=>ZDp (some ⟨b,off,none⟩) (4+k+8) c (Yc p xs s) (w1.drewN q) hbl hbb ZB (by rw[<-hw1];exact(R3.o.alloc _).drewN q));rw[hnum4]at C2;rw[hU]at C3;have hand:=ZIw U hUlt;have k0:w1.heap[w.heap.size]?=some (.cells #[.int .i64 0,.slice none 0 0,.int .i64 0] 120 (0,0)):=by rw[<-hw1];exact Zcd w _
 have k2:w1.cell? ⟨b,off+2,none⟩=some (.int .u8 (p:Int)):=by rw[<-hw1];exact d2 _
 have hx1:ZL w w1:=by rw[<-hw1];exact(ZL.refl w).alloc _
 have R4':=ZA (R4.o.ext hx1);clear hw1 hU hs4 hnum4 hbl hbb hnum8 c0 c1 c2 c3 d0 d1 d2 d3 R1 R2 R3;have q1:decide ((s:Int)<1)=false:=by simp;omega
 have q2:decide (4611686018427387903<(s:Int))=false:=by simp;omega
 go_upto_region 7 with fail
 go_quiet ((first
  |(go_at_call 75;exact ZAW (C2.o _))
  |(go_at_call 75;exact ZBB (C2.o _))
  |(go_at_call 74;exact ZAW (C3.o _))
  |(go_at_call 74;exact ZBB (C3.o _))))
 clear hand C2 C3 q1 q2 hUlt;go_upto_region 9 with fail;obtain⟨w2,hw2⟩:=ZTz (w1.drewN nq);have k0':w2.heap[w.heap.size]?=some (.cells #[.int .i64 0,.slice none 0 0,.int .i64 0] 120 (0,0)):=by rw[<-hw2];exact k0
 have k2':w2.cell? ⟨b,off+2,none⟩=some (.int .u8 (p:Int)):=by rw[<-hw2];exact k2
 have hx2:ZL w w2:=by rw[<-hw2];exact hx1.drewN nq
 have hs2:w.heap.size<w2.heap.size:=by rw[<-hw2];exact ZW k0
 have R5:=ZA (R4.o.ext hx2);rw[hw2];clear hw2 k0 k2 hx1 R4';have w1s:IntKind.i64.wrap (s:Int)=(s:Int):=by rw[Zaa];omega
 have w1p:IntKind.i64.wrap (p:Int)=(p:Int):=by rw[Zaa];omega
 have hsl:∀u:World,(Instr.slice 32 (.slice (some ⟨b,off,none⟩) n c) (some (.int .i64 4)) (some (.int .i64 (4+(k:Int)))) none).run Tryz.prog u=.ok (.slice (some ⟨b,off+4,none⟩) k (c - 4)) u:=λu=>ZHJ Tryz.underlying32 Xo 4 (4+k) rfl ZB ZB hnc ZB ZB ZB u
 go_region_law ((refine Jb w2.drew rfl (.const (.slice none 0 0)) (.tmp 81) rfl w2.heap.size (B:=none) (n:=0) (cb:=0) (xs:=[]) (by simp[Act.eval]) (ZcU _ _ _ _) (A:=some ⟨b,off+4,none⟩) (m:=k) (c:=c - 4) (news:=xs) (by simp[Act.eval,Act.put]) Hk.o (show Rd w2.drew _ _ from R5.o) ZB ZTv ?_;intro A6 c6 w6 hown6 hgrow6 _;have hx6:ZL w2 w6:=((ZL.refl w2).drew).grown hgrow6 (by simp[Value.ownBlock]);have k6:w6.cell? ⟨b,off+2,none⟩=some (.int .u8 (p:Int)):=(hx6.cell (p:=⟨b,off+2,none⟩) (ZcO w2 _ k2')).trans k2';have k60:=ZA (ZJ k0' hx6);have g0:=ZE k60.out 0;have g1:=ZE k60.out 1;have g2:=ZE k60.out 2;have f0:=ZF k60.out 0;have f1:=ZF k60.out 1;have f2:=ZF k60.out 2))
 all_goals
  go_wp2_with fail;refine ZcY (JU rfl rfl (ZMY (by assumption) _ _ _)) rfl ?_;exact ZQG Hk.o (by assumption) hs2 hx2 (by assumption)
theorem ZLv (w:World)(A:Option Addr)(n c:Nat)(hn:n<16): Calls Tryz.prog 33 #[.slice A n c] w (Xu (.tuple #[ZH9,.int .i64 3]) w):=by
 go_enter Tryz.func33,Tryz.ntmps33;go_wp2_with fail;refine ZcY (JU rfl rfl (Zcd w _)) rfl ?_;exact⟨rfl,(ZL.refl w).alloc _⟩
theorem ZSA {w:World}{A:Option Addr}{ys:List Nat}(hr:Rd w A (ZV .u8 ys))(hl:4<=ys.length): ∃b off y0 y1 y2 y3:Nat,A=some ⟨b,off,none⟩/\w.cell? ⟨b,off,none⟩=some (.int .u8 (y0:Int))/\w.cell? ⟨b,off+1,none⟩=some (.int .u8 (y1:Int))/\w.cell? ⟨b,off+2,none⟩=some (.int .u8 (y2:Int))/\w.cell? ⟨b,off+3,none⟩=some (.int .u8 (y3:Int))/\ ys[0]?=some y0/\ys[1]?=some y1/\ys[2]?=some y2/\ys[3]?=some y3:=by
 match ys,hl with
 |a::b::c::d::r,_=>
  obtain⟨bb,off,hA,hc⟩:=hr (by simp[ZV]);exact⟨bb,off,a,b,c,d,hA,hc 0 _ rfl,hc 1 _ rfl,hc 2 _ rfl,hc 3 _ rfl,rfl,rfl,rfl,rfl⟩
theorem ZKE (w:World)(b off n c y0 y1 y2 y3:Nat)(hn:16<=n)(hn':n<=4096)(hy0:y0<256)(hy1:y1<256)(hy2:y2<256)(hy3:y3<256)(c0:w.cell? ⟨b,off,none⟩=some (.int .u8 (y0:Int)))(c1:w.cell? ⟨b,off+1,none⟩=some (.int .u8 (y1:Int)))(c2:w.cell? ⟨b,off+2,none⟩=some (.int .u8 (y2:Int)))(c3:w.cell? ⟨b,off+3,none⟩=some (.int .u8 (y3:Int)))(h:y0≠83\/y1≠71\/32<=y2\/n≠4+y3+12): Calls Tryz.prog 33 #[.slice (some ⟨b,off,none⟩) n c] w (Xu (.tuple #[ZH9,.int .i64 3]) w):=by
 have d0:=ZI c0;have d1:=ZI c1;have d2:=ZI c2;have d3:=ZI c3;clear c0 c1 c2 c3;have q0:y0≠83->((y0:Int) !=83)=true:=λh=>by simp;omega
 have q1:y1≠71->((y1:Int) !=71)=true:=λh=>by simp;omega
 have q3:n≠4+y3+12->((n:Int) !=4+(y3:Int)+12)=true:=λh=>by simp;omega
 by_cases h0:y0=83
 ·subst h0;by_cases h1:y1=71
  ·subst h1;by_cases h2:32<=y2
   ·clear q0 q1 q3 h;go_enter Tryz.func33,Tryz.ntmps33;go_wp2_with fail;refine ZcY (JU rfl rfl (Zcd w _)) rfl ?_;exact⟨rfl,(ZL.refl w).alloc _⟩
   ·have h2':y2<32:=by omega
    have hne:=q3 ZB;clear q0 q1 q3 h h2;go_enter Tryz.func33,Tryz.ntmps33;go_wp2_with fail;refine ZcY (JU rfl rfl (Zcd w _)) rfl ?_;exact⟨rfl,(ZL.refl w).alloc _⟩
  ·have hne:=q1 h1;clear q0 q1 q3 h h1;go_enter Tryz.func33,Tryz.ntmps33;go_wp2_with fail;refine ZcY (JU rfl rfl (Zcd w _)) rfl ?_;exact⟨rfl,(ZL.refl w).alloc _⟩
 ·have hne:=q0 h0;clear q0 q1 q3 h h0;go_enter Tryz.func33,Tryz.ntmps33;go_wp2_with fail;refine ZcY (JU rfl rfl (Zcd w _)) rfl ?_;exact⟨rfl,(ZL.refl w).alloc _⟩
theorem ZR7 (w:World)(x y z:Value)(t:TypeId)(q:Nat)(a b c:Value):(((((w.alloc (.cells #[x,y,z] t)).drewN q).setCell ⟨w.heap.size,0,none⟩ a).setCell ⟨w.heap.size,1,none⟩ b).setCell ⟨w.heap.size,2,none⟩ c).heap[w.heap.size]?=some (.cells #[a,b,c] t (0,0)):=ZS7 (w:=(w.alloc (.cells #[x,y,z] t)).drewN q) (Zcd w _) a b c
theorem ZSB (w:World)(o:Obj)(q:Nat)(a b c:Value):ZL w (((((w.alloc o).drewN q).setCell ⟨w.heap.size,0,none⟩ a).setCell ⟨w.heap.size,1,none⟩ b).setCell ⟨w.heap.size,2,none⟩ c):=(((((ZL.refl w).alloc o).drewN q).setCell (p:=⟨w.heap.size,0,none⟩) (Zb0 _) a).setCell (p:=⟨w.heap.size,1,none⟩) (Zb0 _) b).setCell (p:=⟨w.heap.size,2,none⟩) (Zb0 _) c
theorem ZKD (w:World)(b off n c p k:Nat)(ys:List Nat)(hl:ys.length=n)(hb:∀x ∈ ys,x<256)(hr:Rd w (some ⟨b,off,none⟩) (ZV .u8 ys))(hnc:n<=c)(hn:n=k+16)(hk:k<256)(hp:p<32)(c0:w.cell? ⟨b,off,none⟩=some (.int .u8 83))(c1:w.cell? ⟨b,off+1,none⟩=some (.int .u8 71))(c2:w.cell? ⟨b,off+2,none⟩=some (.int .u8 (p:Int)))(c3:w.cell? ⟨b,off+3,none⟩=some (.int .u8 (k:Int)))(h:Z4 ((ys.drop (4+k)).take 8)<1\/4611686018427387903<Z4 ((ys.drop (4+k)).take 8)\/Z4 (ys.drop (4+k+8))≠upd 14695981039346656037 (ys.take (4+k+8)) % 4294967296): Calls Tryz.prog 33 #[.slice (some ⟨b,off,none⟩) n c] w (Xu (.tuple #[ZH9,.int .i64 3]) w):=by
 have d0:=ZI c0;have d1:=ZI c1;have d2:=ZI c2;have d3:=ZI c3;clear c0 c1 c2 c3;have hne:((n:Int) !=4+(k:Int)+12)=false:=by simp;omega
 have n1:k+16<=n:=by omega
 have n2:n<=k+16:=by omega
 have n3:¬c=4+k:=by omega
 have n4:¬c=4+k+8:=by omega
 have r1:=ZAV (zs:=(ys.drop (4+k)).take 8) hr (4+k) 8 rfl;have r2:=ZAV (zs:=ys.drop (4+k+8)) hr (4+k+8) 4 (by rw[Zbk (by rw[ZbB];omega)]);have r3:Rd w (some ⟨b,off,none⟩) (ZV .u8 (ys.take (4+k+8))):=ZAV hr 0 (4+k+8) (by rw[List.drop_zero]);have l1:((ys.drop (4+k)).take 8).length=8:=by rw[ZbG,ZbB];omega
 have l2:(ys.drop (4+k+8)).length=n - (4+k+8):=by rw[ZbB];omega
 have l3:(ys.take (4+k+8)).length=4+k+8:=by rw[ZbG];omega
 have b1:∀x ∈ (ys.drop (4+k)).take 8,x<256:=λx hx=>hb x (ZbP (ZbR hx));have b2:∀x ∈ ys.drop (4+k+8),x<256:=λx hx=>hb x (ZbP hx);have b3:∀x ∈ ys.take (4+k+8),x<256:=λx hx=>hb x (ZbR hx);have C1:=ZA (λ(o:Obj)=>ZAt (w.alloc o) (some ⟨b,off+(4+k),none⟩) 8 (c - (4+k)) _ l1 ZB b1 (r1.alloc o));have C2:=ZA (λ(o:Obj) q=>ZAt ((w.alloc o).drewN q) (some ⟨b,off+(4+k+8),none⟩) (n - (4+k+8)) (c - (4+k+8)) _ l2 ZB b2 ((r2.alloc o).drewN q));have C3:=ZA (λ(o:Obj) q=>ZDp (some ⟨b,off,none⟩) (4+k+8) c _ ((w.alloc o).drewN q) l3 b3 ZB ((r3.alloc o).drewN q));have hS:=ZCC _ b1 ZB;have hQ:=ZCC _ b2 ZB;have hU:=ZDR 14695981039346656037 (ys.take (4+k+8)) ZB;generalize Z4 ((ys.drop (4+k)).take 8)=s at*;generalize Z4 (ys.drop (4+k+8))=q at*;generalize upd 14695981039346656037 (ys.take (4+k+8))=U at*;have hand:=ZIw U hU;clear hl hb hr r1 r2 r3 l1 l2 l3 b1 b2 b3 hn;by_cases hs:s<1\/4611686018427387903<s
 ·have hcase:(decide ((s:Int)<1)=true)\/(decide ((s:Int)<1)=false/\decide (4611686018427387903<(s:Int))=true):=by
   by_cases h1:s<1
   ·left;simp;omega
   ·right;simp;omega
  clear h hs hand C2 C3;rcases hcase with q1|⟨q1,q2⟩
  all_goals
   go_enter Tryz.func33,Tryz.ntmps33;go_wp2_with fail;refine(C1.o _).mono ?_;rintro e w1 ⟨rfl,rfl⟩;go_upto_region 7 with fail
   go_quiet (fail)
   go_wp2_with fail;refine ZcY (JU rfl rfl (ZR7 w _ _ _ _ _ _ _ _)) rfl ?_;exact⟨rfl,ZSB w _ _ _ _ _⟩
 ·have q1:decide ((s:Int)<1)=false:=by simp;omega
  have q2:decide (4611686018427387903<(s:Int))=false:=by simp;omega
  have hqq:((q:Int) !=((U % 4294967296:Nat):Int))=true:=by
   have:q≠U % 4294967296:=by omega
   simp;omega
  clear h hs;go_enter Tryz.func33,Tryz.ntmps33;go_wp2_with fail;refine(C1.o _).mono ?_;rintro e w1 ⟨rfl,rfl⟩;go_upto_region 7 with fail
  go_quiet ((first
   |(go_at_call 75;exact ZAW (C2.o _ _))
   |(go_at_call 75;exact ZBB (C2.o _ _))
   |(go_at_call 74;exact ZAW (C3.o _ _))
   |(go_at_call 74;exact ZBB (C3.o _ _))))
  go_wp2_with fail;refine ZcY (JU rfl rfl (ZR7 w _ _ _ _ _ _ _ _)) rfl ?_;exact⟨rfl,ZSB w _ _ _ _ _⟩
theorem ZKC (w:World)(A:Option Addr)(n c:Nat)(ys:List Nat)(hl:ys.length=n)(hb:∀x ∈ ys,x<256)(hr:Rd w A (ZV .u8 ys))(hnc:n<=c)(hn:n<=4096)(h:¬ZGr ys): Calls Tryz.prog 33 #[.slice A n c] w (Xu (.tuple #[ZH9,.int .i64 3]) w):=by
 by_cases hf:n<16
 ·exact ZLv w A n c hf
 ·obtain⟨b,off,y0,y1,y2,y3,rfl,c0,c1,c2,c3,e0,e1,e2,e3⟩:=ZSA hr ZB;have b0:=hb y0 (ZbO e0);have b1:=hb y1 (ZbO e1);have b2:=hb y2 (ZbO e2);have b3:=hb y3 (ZbO e3);by_cases hc:y0≠83\/y1≠71\/32<=y2\/n≠4+y3+12
  ·exact ZKE w b off n c y0 y1 y2 y3 ZB hn b0 b1 b2 b3 c0 c1 c2 c3 hc
  ·obtain rfl:y0=83:=by omega
   obtain rfl:y1=71:=by omega
   refine ZKD w b off n c y2 y3 ys hl hb hr hnc ZB b3 ZB c0 c1 c2 c3 ?_;refine ZaW λhh=>h ?_;exact ZPr ys y2 y3 _ hb ZB e0 e1 e2 e3 ZB b3 rfl ZB ZB (ZaW λhq=>hh (.inr (.inr hq)))
theorem ZG0 (w:World)(A:Option Addr)(n c:Nat)(hn:n<16): Calls Tryz.prog 109 #[.slice A n c] w (Xu (.tuple #[ZH9,.int .i64 3]) w):=by
 go_enter Tryz.func109,Tryz.ntmps109;go_wp2_with fail;refine ZcY (JU rfl rfl (Zcd w _)) rfl ?_;exact⟨rfl,(ZL.refl w).alloc _⟩
theorem ZFy (w:World)(b off n c y2 y3:Nat)(hn:16<=n)(hn':n<=4096)(hy2:y2<256)(hy3:y3<256)(c2:w.cell? ⟨b,off+2,none⟩=some (.int .u8 (y2:Int)))(c3:w.cell? ⟨b,off+3,none⟩=some (.int .u8 (y3:Int)))(h:32<=y2\/n≠4+y3+12): Calls Tryz.prog 109 #[.slice (some ⟨b,off,none⟩) n c] w (Xu (.tuple #[ZH9,.int .i64 3]) w):=by
 have d2:=ZI c2;have d3:=ZI c3;clear c2 c3;by_cases h1:n=4+y3+12
 ·have hne:((n:Int) !=16+(y3:Int))=false:=by simp;omega
  have h2:32<=y2:=by omega
  clear h h1;go_enter Tryz.func109,Tryz.ntmps109;go_wp2_with fail;refine ZcY (JU rfl rfl (Zcd w _)) rfl ?_;exact⟨rfl,(ZL.refl w).alloc _⟩
 ·have hne:((n:Int) !=16+(y3:Int))=true:=by simp;omega
  clear h h1;go_enter Tryz.func109,Tryz.ntmps109;go_wp2_with fail;refine ZcY (JU rfl rfl (Zcd w _)) rfl ?_;exact⟨rfl,(ZL.refl w).alloc _⟩
theorem ZFx (w:World)(b off n c p k:Nat)(ys:List Nat)(hl:ys.length=n)(hb:∀x ∈ ys,x<256)(hr:Rd w (some ⟨b,off,none⟩) (ZV .u8 ys))(hnc:n<=c)(hn:n=k+16)(hk:k<256)(hp:p<32)(c2:w.cell? ⟨b,off+2,none⟩=some (.int .u8 (p:Int)))(c3:w.cell? ⟨b,off+3,none⟩=some (.int .u8 (k:Int)))(h:Z4 ((ys.drop (4+k)).take 8)<1\/4611686018427387903<Z4 ((ys.drop (4+k)).take 8)): Calls Tryz.prog 109 #[.slice (some ⟨b,off,none⟩) n c] w (Xu (.tuple #[ZH9,.int .i64 3]) w):=by
 have d2:=ZI c2;have d3:=ZI c3;clear c2 c3;have hne:((n:Int) !=16+(k:Int))=false:=by simp;omega
 have n1:k+16<=n:=by omega
 have n2:n<=k+16:=by omega
 have n3:¬c=4+k:=by omega
 have r1:=ZAV (zs:=(ys.drop (4+k)).take 8) hr (4+k) 8 rfl;have l1:((ys.drop (4+k)).take 8).length=8:=by rw[ZbG,ZbB];omega
 have b1:∀x ∈ (ys.drop (4+k)).take 8,x<256:=λx hx=>hb x (ZbP (ZbR hx));have C1:=ZA (λ(o:Obj)=>Jw (w.alloc o) (some ⟨b,off+(4+k),none⟩) 8 (c - (4+k)) _ l1 ZB b1 (r1.alloc o));have hS:=ZCC _ b1 ZB;generalize Z4 ((ys.drop (4+k)).take 8)=s at*;clear hl hb hr r1 l1 b1 hn;have hcase:(decide ((s:Int)<1)=true)\/(decide ((s:Int)<1)=false/\decide (4611686018427387903<(s:Int))=true):=by
  by_cases h1:s<1
  ·left;simp;omega
  ·right;simp;omega
 clear h;rcases hcase with q1|⟨q1,q2⟩
 all_goals
  go_enter Tryz.func109,Tryz.ntmps109;go_wp2_with fail;refine(C1.o _).mono ?_;rintro e w1 ⟨rfl,rfl⟩;go_wp2_with fail;refine ZcY (JU rfl rfl (Zcd w _)) rfl ?_;exact⟨rfl,(ZL.refl w).alloc _⟩
theorem ZJa {w:World}{B g n c:Nat}{e:TypeId}{A:Option Addr}{xs:List Value}(h:w.ownsRow B e 1 (.slice A n c) n xs)(hg:g<B)(a b d:Value):(((w.setCell ⟨g,0,none⟩ a).setCell ⟨g,1,none⟩ b).setCell ⟨g,2,none⟩ d).ownsRow g e 1 (.slice A n c) n xs:=by
 refine Zg (h.kept (ZT (ZT (Zc w g 0 a) 1 b) 2 d) ?_) (Zbz hg);cases hA:(Value.slice A n c).ownBlock with
 |none=>exact .inl rfl
 |some q=>right;intro e;injection e with e;have:=Yg h q hA;omega
theorem ZGY {w w2:World}{g:Nat}(h:ZL w w2)(hg:w.heap.size<=g)(a b d:Value):ZL w (((w2.setCell ⟨g,0,none⟩ a).setCell ⟨g,1,none⟩ b).setCell ⟨g,2,none⟩ d):=((h.setCell (p:=⟨g,0,none⟩) hg a).setCell (p:=⟨g,1,none⟩) hg b).setCell (p:=⟨g,2,none⟩) hg d
def ZQo (p k s:Nat)(ys:List Nat)(w:World)(e:Ending)(w':World):Prop:=(Y4 p ((ys.drop 4).take k) s=ys->ZIz p ((ys.drop 4).take k) s w e w')/\(Y4 p ((ys.drop 4).take k) s≠ys->Xu (.tuple #[ZH9,.int .i64 3]) w e w')
theorem ZDJ (w:World)(b off n c p k:Nat)(ys:List Nat)(hl:ys.length=n)(hb:∀x ∈ ys,x<256)(hr:Rd w (some ⟨b,off,none⟩) (ZV .u8 ys))(hnc:n<=c)(hn:n=k+16)(hk:k<256)(hp:p<32)(c2:w.cell? ⟨b,off+2,none⟩=some (.int .u8 (p:Int)))(c3:w.cell? ⟨b,off+3,none⟩=some (.int .u8 (k:Int)))(s:Nat)(hs:Z4 ((ys.drop (4+k)).take 8)=s)(hs1:1<=s)(hs2:s<=4611686018427387903): Calls Tryz.prog 109 #[.slice (some ⟨b,off,none⟩) n c] w (ZQo p k s ys w):=by
 have d2:=ZI c2;have d3:=ZI c3;have hblk:=ZcO w _ c2;have hne:((n:Int) !=16+(k:Int))=false:=by simp;omega
 have n1:k+16<=n:=by omega
 have n2:n<=k+16:=by omega
 have n3:¬c=4+k:=by omega
 have n4:¬c=4:=by omega
 have r1:=ZAV (zs:=(ys.drop (4+k)).take 8) hr (4+k) 8 rfl;have l1:((ys.drop (4+k)).take 8).length=8:=by rw[ZbG,ZbB];omega
 have b1:∀x ∈ (ys.drop (4+k)).take 8,x<256:=λx hx=>hb x (ZbP (ZbR hx));have C1:=ZA (λ(o:Obj)=>Jw (w.alloc o) (some ⟨b,off+(4+k),none⟩) 8 (c - (4+k)) _ l1 ZB b1 (r1.alloc o));rw[hs]at C1;have r4:=ZAV (zs:=(ys.drop 4).take k) hr 4 k rfl;have lk:((ys.drop 4).take k).length=k:=by rw[ZbG,ZbB];omega
 have bk:∀x ∈ (ys.drop 4).take k,x<256:=λx hx=>hb x (ZbP (ZbR hx));have hL:(Y4 p ((ys.drop 4).take k) s).length=n:=by rw[ZAQ,lk];omega
 have bt:=ZIC p s _ ZB ZB bk;unfold ZQo;generalize (ys.drop 4).take k=xs at*;have Hl:=ZA hl;have Hb:=ZA hb;have Hr:=ZA hr;have Hlk:=ZA lk;have Hbk:=ZA bk;have HL:=ZA hL;have Hbt:=ZA bt;have R4:=ZA r4;clear hl hb hr r1 l1 b1 hn hs lk bk hL bt r4 c2 c3;go_enter Tryz.func109,Tryz.ntmps109;go_wp2_with fail;refine(C1.o _).mono ?_;rintro e w1 ⟨rfl,hw1⟩;have hx1:ZL w w1:=by rw[<-hw1];exact(ZL.refl w).alloc _
 have k0:w1.heap[w.heap.size]?=some (.cells #[.int .i64 0,.slice none 0 0,.int .i64 0] 120 (0,0)):=by rw[<-hw1];exact Zcd w _
 have d2':w1.cell? ⟨b,off+2,none⟩=some (.int .u8 (p:Int)):=by rw[<-hw1];exact d2 _
 have K0:=ZA k0;have R5:=ZA (R4.o.ext hx1);have hs1':w.heap.size<w1.heap.size:=ZW k0;clear hw1 k0 d2 d3 R4 C1;go_upto_region 9 with fail
 go_cut [6] (λv wd=>∃g A6 c6,v=.pointer (some ⟨g,0,none⟩)/\wd.heap[g]?=some (.cells #[.int .i64 (p:Int),.slice A6 xs.length c6,.int .i64 (s:Int)] 120 (0,0))/\wd.ownsRow w1.heap.size 5 1 (.slice A6 xs.length c6) xs.length (ZV .u8 xs)/\ZL w1 wd)
 case first=>
  have w1s:IntKind.i64.wrap (s:Int)=(s:Int):=by rw[Zaa];omega
  have w1p:IntKind.i64.wrap (p:Int)=(p:Int):=by rw[Zaa];omega
  have hsl:∀u:World,(Instr.slice 32 (.slice (some ⟨b,off,none⟩) n c) (some (.int .i64 4)) (some (.int .i64 (4+(k:Int)))) none).run Tryz.prog u=.ok (.slice (some ⟨b,off+4,none⟩) k (c - 4)) u:=λu=>ZHJ Tryz.underlying32 Xo 4 (4+k) rfl ZB ZB hnc ZB ZB ZB u;have C2:=ZA (λ(W:World) (h:ZL w1 W)=>ZBm (some ⟨b,off+4,none⟩) k (c - 4) xs W Hlk.o ZB (R5.o.ext h));have C3:=ZA (C2.o w1.drew (ZL.refl w1).drew);have C4:=ZA (C2.o (w1.alloc (.cells #[.int .i64 0,.slice none 0 0,.int .i64 0] 120)).drew ((ZL.refl w1).alloc _).drew);have D2:=ZA d2';have D3:=ZI d2';clear C2
  go_region_with (first
   |(go_at_call 45;(with_reducible refine C3.o.mono ?_);rintro e w2 ⟨A2,c2,rfl,hown,hext⟩;have hx:ZL w1 w2:=(ZL.refl w1).drew.trans hext;have hcw:w2.cell? ⟨b,off+2,none⟩=some (.int .u8 (p:Int)):=(hx.cell (p:=⟨b,off+2,none⟩) (ZcO w1 _ D2.o)).trans D2.o;have hcp:=ZI hcw)
   |(go_at_call 45;(with_reducible refine C4.o.mono ?_);rintro e w2 ⟨A2,c2,rfl,hown,hext⟩;have hx:ZL w1 w2:=((ZL.refl w1).alloc _).drew.trans hext;have hcw:w2.cell? ⟨b,off+2,none⟩=some (.int .u8 (p:Int)):=(hx.cell (p:=⟨b,off+2,none⟩) (ZcO w1 _ D2.o)).trans D2.o;have hcp:=ZI hcw;have kk:=ZA (ZJ (show(w1.alloc (.cells #[.int .i64 0,.slice none 0 0,.int .i64 0] 120)).drew.heap[w1.heap.size]?=some (.cells #[.int .i64 0,.slice none 0 0,.int .i64 0] 120 (0,0))from ZM w1 _) hext);have g0:=ZE kk.out 0;have g1:=ZE kk.out 1;have g2:=ZE kk.out 2;have f0:=ZF kk.out 0;have f1:=ZF kk.out 1;have f2:=ZF kk.out 2))
  all_goals
   go_wp2_with fail
   go_meet
   first
   |exact⟨_,A2,c2,rfl,Zcd w2 _,YB hown ((ZL.refl w2).alloc _),hx.alloc _⟩
   |exact⟨_,A2,c2,rfl,ZMY kk _ _ _,ZJa (Zg (base':=w1.heap.size+1) hown (by simp[World.drew])) ZB _ _ _,ZGY hx (Zb0 _) _ _ _⟩
 case rest=>
  obtain⟨g,A6,c6,rfl,hg,hown,hx6⟩:=hcut;have Hg:=ZA hg;have Hown:=ZA hown;clear hg hown;have g0:=ZE Hg.o 0;have g1:=ZE Hg.o 1;have g2:=ZE Hg.o 2;have K6:=ZA (ZJ K0.o hx6);have C5:=ZA (ZFu wc p s A6 xs.length c6 xs rfl Hbk.o (Rd.of_own Hown.o) hs1 hs2 hp (by have:=Hlk.o;omega));go_wp2_with fail;refine C5.o.mono ?_;rintro e w3 ⟨A3,c3,rfl,hown3,hy3⟩;rw[HL.o]at hown3 ⊢;have hx3:=(hx1.trans hx6).trans hy3;have C6:=ZA (ZJP A3 (some ⟨b,off,none⟩) n c3 n c _ ys w3 HL.o Hl.o ZB Hbt.o Hb.o (Rd.of_own hown3) (Hr.o.ext hx3));have Hg3:=ZA (ZJ Hg.o hy3);have K3:=ZA (ZJ K6.o hy3);clear g0 g1 g2 hown3 C5;go_wp2_with fail;refine(ZOw C6.o).mono ?_;rintro e w4 ⟨rfl,hy4⟩;have hx4:=hx3.trans hy4;have Hg4:=ZA (ZJ Hg3.o hy4);have K4:=ZA (ZJ K3.o hy4);have g0:=ZE Hg4.o 0;have g1:=ZE Hg4.o 1;have g2:=ZE Hg4.o 2;have k0:=ZE K4.o 0;have k1:=ZE K4.o 1;have k2:=ZE K4.o 2;have f0:=ZF K4.o 0;have f1:=ZF K4.o 1;have f2:=ZF K4.o 2;by_cases hsm:Y4 p xs s=ys
  ·have hs1:same (Y4 p xs s) ys=true:=Zcb hsm;rw[hs1];have Hsm:=ZA hsm;clear hsm hs1 C6;go_wp2_with fail;refine ZcY (JU rfl rfl (ZMY K4 _ _ _)) rfl ?_;refine⟨λ_=>?_,λh=>absurd Hsm.o h⟩;have ho:wc.ownsRow (w.heap.size+1) 5 1 (.slice A6 xs.length c6) xs.length (ZV .u8 xs):=Zg Hown.o ZB;exact⟨A6,c6,rfl,ZJa (YB ho (hy3.trans hy4)) ZB _ _ _,ZGY hx4 (Zb0 _) _ _ _⟩
  ·have hs1:same (Y4 p xs s) ys=false:=Zca hsm;rw[hs1];have Hsm:=ZA hsm;clear hsm hs1 C6;go_wp2_with fail;refine ZcY (JU rfl rfl (ZMY K4 _ _ _)) rfl ?_;refine⟨λh=>absurd h Hsm.o,λ_=>⟨rfl,ZGY hx4 (Zb0 _) _ _ _⟩⟩
theorem ZPW (p s:Nat)(xs:List Nat)(hs:s<=4611686018427387903):Z4 (((Y4 p xs s).drop (4+xs.length)).take 8)=s:=by
 rw[show 4+xs.length=xs.length+4 by omega,ZMR,Xx];exact Zb9 (Zb4 hs (by decide))
theorem ZIK (w:World)(p s:Nat)(A:Option Addr)(n c:Nat)(xs:List Nat)(hn:n=xs.length+16)(hb:∀x ∈ xs,x<256)(hr:Rd w A (ZV .u8 (Y4 p xs s)))(hnc:n<=c)(h1:1<=s)(h2:s<=4611686018427387903)(h4:p<32)(hk':xs.length<=255): Calls Tryz.prog 109 #[.slice A n c] w (ZIz p xs s w):=by
 obtain⟨b,off,hA,hc⟩:=hr (by simp[ZV,Y4,Yc]);subst hA;have c2:w.cell? ⟨b,off+2,none⟩=some (.int .u8 (p:Int)):=hc 2 _ rfl;have c3:w.cell? ⟨b,off+3,none⟩=some (.int .u8 (xs.length:Int)):=hc 3 _ rfl;refine(ZDJ w b off n c p xs.length (Y4 p xs s) (by rw[ZAQ];omega) (ZIC p s xs ZB ZB hb) hr hnc hn ZB h4 c2 c3 s (ZPW p s xs h2) h1 h2).mono ?_;rintro e w' ⟨h,_⟩;rw[ZMS]at h;exact h rfl
theorem ZFw (w:World)(A:Option Addr)(n c:Nat)(ys:List Nat)(hl:ys.length=n)(hb:∀x ∈ ys,x<256)(hr:Rd w A (ZV .u8 ys))(hnc:n<=c)(hn:n<=4096)(h:¬ZGr ys): Calls Tryz.prog 109 #[.slice A n c] w (Xu (.tuple #[ZH9,.int .i64 3]) w):=by
 by_cases hf:n<16
 ·exact ZG0 w A n c hf
 ·obtain⟨b,off,y0,y1,y2,y3,rfl,c0,c1,c2,c3,e0,e1,e2,e3⟩:=ZSA hr ZB;have b2:=hb y2 (ZbO e2);have b3:=hb y3 (ZbO e3);by_cases hc:32<=y2\/n≠4+y3+12
  ·exact ZFy w b off n c y2 y3 ZB hn b2 b3 c2 c3 hc
  ·by_cases hs:Z4 ((ys.drop (4+y3)).take 8)<1\/4611686018427387903<Z4 ((ys.drop (4+y3)).take 8)
   ·exact ZFx w b off n c y2 y3 ys hl hb hr hnc ZB b3 ZB c2 c3 hs
   ·refine(ZDJ w b off n c y2 y3 ys hl hb hr hnc ZB b3 ZB c2 c3 _ rfl ZB ZB).mono ?_;rintro e w' ⟨_,h'⟩;refine h' λe=>h ?_;exact⟨y2,_,(ys.drop 4).take y3,by omega,by omega,by omega,by rw[ZbG];omega,λx hx=>hb x (ZbP (ZbR hx)),e.symm⟩
theorem ZHC {k v v':Nat}(h:Zh v k=Zh v' k)(hv:v<256 ^ k)(hv':v'<256 ^ k):v=v':=by
 have:=ZcZ Z4 h;rw[Xx,Xx,Zb9 hv,Zb9 hv']at this;exact this
theorem ZJC {p p' s s':Nat}{xs xs':List Nat}(h:Y4 p xs s=Y4 p' xs' s')(h2:s<=4611686018427387903)(h2':s'<=4611686018427387903):p=p'/\xs=xs'/\s=s':=by
 have e:∀p s (xs:List Nat),Y4 p xs s=83::71::p::xs.length::(xs++(Zh s 8++Zh (ZDT (Yc p xs s)) 4)):=by intro p s xs;simp[Y4,Yc]
 rw[e p s xs,e p' s' xs']at h;simp only[Zai,true_and]at h;obtain⟨h1,h3,h4⟩:=h;obtain⟨h5,h6⟩:=Zaf h4 h3;obtain⟨h7,_⟩:=Zaf h6 (by rw[Zs,Zs]);exact⟨h1,h5,ZHC h7 (Zb4 h2 (by decide)) (Zb4 h2' (by decide))⟩
theorem YM {q:Int}{w w':World}{e:Ending}(h:Xu (.tuple #[.slice none 0 0,.int .i64 q]) w e w'):Yu [] q w e w':=⟨none,0,h.1,ZcU _ _ _ _,h.2⟩
abbrev YY (op p:Int)(A:Option Addr)(n c:Nat)(N:Int):Value:=.agg #[.int .u8 op,.int .i64 p,.slice A n c,.int .i64 N]
abbrev ZCk:Value:=YY 0 0 none 0 0 0
def Yt (op p:Nat)(xs:List Nat)(N:Nat):List Nat:=if op=3 then 3::Y4 p xs N else if op=5\/op=6 then [op] else op::p::xs.length::(xs++if op=1 then Zh N 8 else [])
def ZAs (op p:Nat)(xs:List Nat)(N:Nat):Prop:=1<=op/\op<=6/\(op<5->p<32/\xs.length<=255)/\(op=1->N<=4611686018427387903)/\(op=3->1<=N/\N<=4611686018427387903)
def ZA6 (op p:Nat)(xs:List Nat)(N:Nat):Prop:=ZAs op p xs N/\(∀x ∈ xs,x<256)/\(5<=op->p=0/\xs=[]/\N=0)/\(op=2\/op=4->N=0)
def ZCq (ys:List Nat):Prop:=∃op p xs N,ZA6 op p xs N/\ys=Yt op p xs N
theorem ZIJ {op p N:Nat}{xs:List Nat}(h:ZAs op p xs N)(hb:∀x ∈ xs,x<256):∀x ∈ Yt op p xs N,x<256:=by
 obtain⟨h1,h2,h3,_,_⟩:=h;intro x hx;unfold Yt at hx
 split at hx
 ·rename_i ho;obtain⟨hp,hl⟩:=h3 ZB;rcases ZbJ.1 hx with rfl|hx
  ·omega
  ·exact ZIC p N xs ZB ZB hb x hx
 ·split at hx
  ·rw[ZbU.1 hx];omega
  ·obtain⟨hp,hl⟩:=h3 ZB;simp only[ZbJ,ZbI]at hx;rcases hx with rfl|rfl|rfl|hx|hx
   ·omega
   ·omega
   ·omega
   ·exact hb x hx
   ·split at hx
    ·exact Xf _ _ x hx
    ·cases hx
def ZTS (op:Nat)(p:Int)(xs:List Nat)(N:Int)(q:Int)(L:List Nat):Prop:=((q==0)=false/\L=[]/\¬∃P M:Nat,(op<5->p=(P:Int))/\(op=1\/op=3->N=(M:Int))/\ZAs op P xs M)\/(q=0/\∃P M:Nat,(op<5->p=(P:Int))/\(op=1\/op=3->N=(M:Int))/\ZAs op P xs M/\L=Yt op P xs M)
theorem ZAJ {op:Nat}{p:Int}{xs:List Nat}{N:Int}(h:op<1\/6<op\/(op<5/\(p<0\/32<=p\/255<xs.length))\/(op=1/\(N<0\/4611686018427387903<N))\/(op=3/\(N<1\/4611686018427387903<N))): ¬∃P M:Nat,(op<5->p=(P:Int))/\(op=1\/op=3->N=(M:Int))/\ZAs op P xs M:=by
 rintro⟨P,M,h1,h2,h3,h4,h5,h6,h7⟩;rcases h with h|h|⟨h,h'⟩|⟨rfl,h⟩|⟨rfl,h⟩
 ·omega
 ·omega
 ·have:=h1 h;have:=h5 h;omega
 ·have:=h2 (.inl rfl);have:=h6 rfl;omega
 ·have:=h2 (.inr rfl);have:=h7 rfl;omega
theorem ZLD (w:World)(r:Nat)(A:Option Addr)(n c:Nat)(h:w.heap[r]?=some (.cells #[.slice A n c,.bool false] 283 (0,0)))(hn:n<4): Calls Tryz.prog 157 #[.pointer (some ⟨r,0,none⟩)] w λe w'=>e=.returned (.tuple #[.slice none 0 0,.bool false,.int .i64 0])/\w'.heap[r]?=some (.cells #[.slice A n c,.bool false] 283 (0,0))/\w.grownBy w' (some r):=by
 have hmf:∀(fn:Fn) (first cap:Array Value) (w:World),(Instr.makeFunc fn first cap).run Tryz.prog w=.ok (.func fn first cap) w:=λ_ _ _ _=>rfl;have h0:=ZTx h 0 (.slice A n c);have hr:=ZW h;have p0:=ZI h0;have p1:=λo o'=>ZI (ZI h0 o) o';have H:=ZA h;clear h
 go_enter_defers Tryz.func157,Tryz.ntmps157
 go_wp2_with fail;refine(ZJF _ r 4 A n c false (ZR (ZR H.o _) _) hn).mono ?_;rintro e w' ⟨rfl,rfl⟩;go_wp2_with fail;refine Zci (f:=215) (args:=#[.pointer (some ⟨w.heap.size+1,0,none⟩),.pointer (some ⟨w.heap.size,0,none⟩)]) ZTv (by simp[go_sem]) ?_;refine(ZCS _ r w.heap.size (w.heap.size+1) A A n c n c false [] (ZR (ZR H.o _) _) (by simp[go_sem]) (by simp[go_sem])).mono ?_;rintro e u' w'' ⟨rfl,rfl,rfl⟩;exact⟨_,results_tmp3 rfl _ _ _,rfl,ZU (ZR (ZR (ZR H.o _) _) _) 0 _,ZT (Zl (Zl (Zl (ZcS w _) _) _) _) 0 _⟩
theorem ZGC (a:Nat)(ha:a<9223372036854775808):(BitVec.ofInt 64 (a:Int)).toNat=a:=by
 rw[BitVec.ofInt_natCast,BitVec.toNat_ofNat];exact Zb9 ZB
theorem ZJ1 (a b:Nat)(ha:a<9223372036854775808)(hb:b<9223372036854775808):bits .or .i64 (a:Int) (b:Int)=((a|||b:Nat):Int):=by
 have hx:a|||b<2 ^ 63:=Nat.or_lt_two_pow ZB ZB
 show IntKind.i64.wrap ((BitVec.ofInt 64 (a:Int)|||BitVec.ofInt 64 (b:Int)).toNat:Int)=_;rw[BitVec.toNat_or,ZGC a ha,ZGC b hb,Zaa];omega
theorem ZRP (a x:Nat)(ha:a<16777216)(hx:x<256):bits .or .i64 ((a:Int)*256) (x:Int)=((a*256+x:Nat):Int):=by
 have e:((a:Int)*256)=((a*256:Nat):Int):=by omega
 rw[e,ZJ1 _ _ ZB ZB]
 congr 1
 have h:=Nat.two_pow_add_eq_or_of_lt (i:=8) (b:=x) ZB a;simp only[Nat.reducePow]at h;rw[ZcB a 256];exact h.symm
def ZSJ (ws:List Nat)(w:World)(r:Nat)(S:Zdb)(e:Ending)(w':World):Prop:=w.grownBy w' (some r)/\
 ((Yx ws=0/\e=.returned (.tuple #[.slice none 0 0,.bool false,.int .i64 0])/\XH w' r ws false S)\/ (Yx ws=1/\e=.returned (.tuple #[.slice none 0 0,.bool false,.int .i64 12])/\∃A n c,w'.heap[r]?=some (.cells #[.slice A n c,.bool false] 283 (0,0)))\/ (Yx ws=2/\(∃A c,e=.returned (.tuple #[.slice A (ZAj ws).length c,.bool true,.int .i64 0])/\w'.ownsRow w.heap.size 5 1 (.slice A (ZAj ws).length c) (ZAj ws).length (ZV .u8 (ZAj ws)))/\XH w' r (JW ws) false S))
theorem ZNW (w:World)(r b off n c m d:Nat)(S:Zdb)(A':Option Addr)(ws:List Nat)(h:w.heap[r]?=some (.cells #[.slice (some ⟨b,off,none⟩) n c,.bool false] 283 (0,0)))(hn:4<=n)(hnc:n<=c)(hm:n=m+4)(hd:c=d+4)(hl:ws.length=n)(hb:∀x ∈ ws,x<256)(hr:Rd w (some ⟨b,off,none⟩) (ZV .u8 ws))(hbr:b≠r)(hbS:S b)(hN:n<=9223372036854775807)(hsl:∀u:World,(Instr.slice 32 (.slice (some ⟨b,off,none⟩) n c) (some (.int .i64 ((4:Nat):Int))) none none).run Tryz.prog u=.ok (.slice A' m d) u)(hrd:∀(w:World) (vs:List Value),vs.length=n->Rd w (some ⟨b,off,none⟩) vs->Rd w A' (vs.drop 4))(hA':∃a',A'=some a'/\a'.block=b): Calls Tryz.prog 157 #[.pointer (some ⟨r,0,none⟩)] w (ZSJ ws w r S):=by
 have hmf:∀(fn:Fn) (first cap:Array Value) (w:World),(Instr.makeFunc fn first cap).run Tryz.prog w=.ok (.func fn first cap) w:=λ_ _ _ _=>rfl;have h0:=ZTx h 0 (.slice (some ⟨b,off,none⟩) n c);have hr':=ZW h;have p0:=ZI h0;have p1:=λo o'=>ZI (ZI h0 o) o';have H:=ZA h;clear h;have Hsl:=ZA hsl;clear hsl;have Hr:=ZA hr;have Hl:=ZA hl;have Hb:=ZA hb;clear hr hl hb;have Hm:=ZA hm;have Hd:=ZA hd;clear hm hd;have Hrd:=ZA hrd;have HA':=ZA hA';clear hrd hA'
 go_enter_defers Tryz.func157,Tryz.ntmps157
 go_wp2_with fail;refine(ZHF _ r 4 (some ⟨b,off,none⟩) A' n c m d false (ZR (ZR H.o _) _) hn hnc Hsl.o).mono ?_;rintro e w' ⟨rfl,hw'⟩;have hwr:∀(j x:Nat),ws[j]?=some x->w'.cell? ⟨b,off+j,none⟩=some (.int .u8 (x:Int)):=λj x hx=>by
  obtain⟨b',off',hA,hc⟩:=Hr.o (by intro e;have:=ZAw (k:=.u8) hx;rw[e]at this;simp at this);injection hA with hA;injection hA with e1 e2 _;subst e1 e2;rw[<-hw',ZcR _ _ _ _ (λe=>hbr (by injection e with e;exact e.symm))];exact ZI (ZI (hc j _ (ZAw hx)) _) _
 have hgw:w.grownBy w' (some r):=by rw[<-hw'];exact ZT (Zl (Zl (ZcS w _) _) _) 0 _
 have hblk:w'.heap[r]?=some (.cells #[.slice A' m d,.bool false] 283 (0,0)):=by rw[<-hw'];exact ZU (ZR (ZR H.o _) _) 0 _
 have hb1:w'.cell? ⟨w.heap.size,0,none⟩=some (.pointer (some ⟨r,0,none⟩)):=by
  rw[<-hw',ZcR _ _ _ _ (λe=>by injection e with e;omega)];exact ZI ZTv _
 have hb2:w'.cell? ⟨w.heap.size+1,0,none⟩=some (.slice (some ⟨b,off,none⟩) n c):=by
  rw[<-hw',ZcR _ _ _ _ (λe=>by injection e with e;omega)];have:=ZcP (w.alloc (.cells #[.pointer (some ⟨r,0,none⟩)] 224)) #[.slice (some ⟨b,off,none⟩) n c] 32 0;rw[ZcV]at this;exact this
 have hc1:=ZTx hblk 0 (.slice A' m d);have Hgw:=ZA hgw;have Hblk:=ZA hblk;have Hb2:=ZA hb2;clear hgw hblk hb2 h0 p0 p1;have Hw':=ZA hw';have Hwr:=ZA hwr;clear hw' hwr;go_wp2_with fail
 go_loop [6,17] (λnn i=>∃k:Nat,k<=4/\i=.int .i64 k/\nn=.int .i64 ((Z4 (ws.take k):Nat):Int)) (λ_ i=>4 - (intOf i).toNat)
 case atStart=>exact⟨0,by omega,rfl,rfl⟩
 case round=>
  obtain⟨k,hk,rfl,rfl⟩:=hrel;by_cases hlt:k<4
  ·obtain⟨x,hx⟩:=JR (xs:=ws) (j:=k) (by rw[Hl.o];omega);have hx256:x<256:=Hb.o x (ZbO hx);have hc:=Hwr.o k x hx;have hnl:=ZBY (ws.take k) (λy hy=>Hb.o y (ZbR hy));have hn24:Z4 (ws.take k)<16777216:=by
    have e:(ws.take k).length=k:=by rw[ZbG,Hl.o];omega
    rw[e]at hnl;have:k=0\/k=1\/k=2\/k=3:=by omega
    rcases this with rfl|rfl|rfl|rfl<;>omega
   have Hx:=ZA hx;clear hx hnl;go_wp2
   go_round
   case rel=>exact⟨k+1,by omega,by go_num,by rw[Zr Hx.o,ZC3,ZRP _ _ hn24 hx256]⟩
   case measure=>simp[intOf];omega
  ·obtain rfl:k=4:=by omega
   have hnl:=ZBY (ws.take 4) (λy hy=>Hb.o y (ZbR hy));rw[show(ws.take 4).length=4 by rw[ZbG,Hl.o];omega]at hnl;have hL:Yx ws=if Z4 (ws.take 4)=0\/4096<Z4 (ws.take 4) then 1 else if n - 4<Z4 (ws.take 4) then 0 else 2:=by
    unfold Yx;rw[Zcf (by rw[Hl.o];omega),Hl.o]
   have hpay:ZAj ws=(ws.drop 4).take (Z4 (ws.take 4)):=rfl;have hrest:JW ws=(ws.drop 4).drop (Z4 (ws.take 4)):=rfl;generalize Z4 (ws.take 4)=L at*;have HL:=ZA hL;have Hpay:=ZA hpay;have Hrest:=ZA hrest;clear hL hpay hrest hk;by_cases hL0:L=0\/4096<L
   ·have HL1:=ZA (show Yx ws=1 by rw[HL.o,Zcg hL0]);rcases hL0 with rfl|hL0
    all_goals
     go_wp2_with fail;refine Zci (f:=215) (args:=#[.pointer (some ⟨w.heap.size+1,0,none⟩),.pointer (some ⟨w.heap.size,0,none⟩)]) ZTv (by simp[go_sem]) ?_;refine(ZHE _ _ _).mono ?_;rintro e u' w'' ⟨rfl,rfl,rfl⟩;exact⟨_,results_tmp3 rfl _ _ _,Hgw.o,.inr (.inl ⟨HL1.o,rfl,_,_,_,Hblk.o⟩)⟩
   ·have hL1:1<=L:=by omega
    have hL2:L<=4096:=by omega
    have hLne:((L:Int)==0)=false:=by rw[ZcW];omega
    by_cases hlm:m<L
    ·have HL1:=ZA (show Yx ws=0 by rw[HL.o,Zcf hL0,Zcg (by have:=Hm.o;omega)]);clear hL0;go_wp2_with fail;refine(ZJF w' r L A' m d false Hblk.o hlm).mono ?_;rintro e w'' ⟨rfl,rfl⟩;go_wp2_with fail;refine Zci (f:=215) (args:=#[.pointer (some ⟨w.heap.size+1,0,none⟩),.pointer (some ⟨w.heap.size,0,none⟩)]) ZTv (by simp[go_sem]) ?_;refine(ZCS w' r w.heap.size (w.heap.size+1) A' (some ⟨b,off,none⟩) m d n c false [] Hblk.o hb1 Hb2.o).mono ?_;rintro e u' w'' ⟨rfl,rfl,rfl⟩;have hg:=ZT (Zl Hgw.o (.cells #[] 340)) 0 (.slice (some ⟨b,off,none⟩) n c);exact⟨_,results_tmp3 rfl _ _ _,hg,.inl ⟨HL1.o,rfl,_,_,_,ZU (ZR Hblk.o _) 0 _,Hl.o,hnc,Hr.o.grown hg (λa ha hr=>by injection ha with ha;injection hr with hr;subst ha;exact hbr hr.symm),λa ha=>by injection ha with ha;subst ha;exact hbS⟩⟩
    ·have HL1:=ZA (show Yx ws=2 by rw[HL.o,Zcf hL0,Zcf (by have:=Hm.o;omega)]);clear hL0;have hlm':L<=m:=by omega
     have hmd:m<=d:=by have:=Hm.o;have:=Hd.o;omega
     obtain⟨a',rfl,hab⟩:=HA'.o;obtain⟨A2,hsl2,hrd2,hA2⟩:=XP Tryz.underlying32 Xo (A:=some a') (n:=m) (c:=d) (m:=m - L) (d:=d - L) L (ki:=(L:Int)) rfl hmd ZB ZB;have Hrd2:=ZA hrd2;have HA2:=ZA hA2;have Hsl2:=ZA hsl2;clear hrd2 hA2 hsl2;have Hab:=ZA hab;clear hab;go_wp2_with fail;refine(ZHF w' r L (some a') A2 m d (m - L) (d - L) false Hblk.o hlm' hmd Hsl2.o).mono ?_;rintro e w'' ⟨rfl,hw''⟩;have hg2:w'.grownBy w'' (some r):=by rw[<-hw''];exact Zc _ _ _ _
     have hblk2:w''.heap[r]?=some (.cells #[.slice A2 (m - L) (d - L),.bool false] 283 (0,0)):=by rw[<-hw''];exact ZU Hblk.o 0 _
     clear hw'';have hg3:=World.grown_trans Hgw.o hg2;have hrw:Rd w'' (some ⟨b,off,none⟩) (ZV .u8 ws):=Hr.o.grown hg3 (λa ha hr=>by injection ha with ha;injection hr with hr;subst ha;exact hbr hr.symm);have hrp:Rd w'' (some a') (ZV .u8 (ws.drop 4)):=by rw[JO];exact Hrd.o w'' _ (by rw[XM,Hl.o]) hrw
     have hlp:(ZAj ws).length=L:=by rw[Hpay.o,ZbG,ZbB,Hl.o];have:=Hm.o;omega
     have hrp2:Rd w'' (some a') (ZV .u8 (ZAj ws)):=by
      rw[Hpay.o];exact ZIO (ys:=(ws.drop 4).drop L) (by rw[Zbg];exact hrp)
     have C1:=ZA (ZDd a' L d (ZAj ws) w'' hlp ZB hrp2);have Hlp:=ZA hlp;have Hrp:=ZA hrp;have Hrw:=ZA hrw;have Hg3:=ZA hg3;have Hblk2:=ZA hblk2;clear hlp hrp hrp2 hrw hg3 hg2 hblk2;go_wp2_with fail;refine C1.o.mono ?_;rintro e w3 ⟨A3,c3,rfl,hown,hx3⟩;rw[Hlp.o]at hown ⊢;have Hown:=ZA hown;have Hx3:=ZA hx3;clear hown hx3;go_wp2_with fail;refine Zci (f:=215) (args:=#[.pointer (some ⟨w.heap.size+1,0,none⟩),.pointer (some ⟨w.heap.size,0,none⟩)]) ZTv (by simp[go_sem]) ?_;refine(ZHE _ _ _).mono ?_;rintro e u' w4 ⟨rfl,rfl,rfl⟩;refine⟨_,results_tmp3 rfl _ _ _,Jm Hg3.o Hx3.o,.inr (.inr ⟨HL1.o,⟨A3,c3,?_,?_⟩,A2,m - L,d - L,ZJ Hblk2.o Hx3.o,?_,by omega,?_,?_⟩)⟩
     ·rw[Hlp.o];rfl
     ·rw[Hlp.o];exact Zg Hown.o Hg3.o.size
     ·rw[Hrest.o,ZbB,ZbB,Hl.o];have:=Hm.o;omega
     ·rw[Hrest.o,JO];exact Hrd2.o w3 _ (by rw[XM,ZbB,Hl.o];have:=Hm.o;omega) (Hrp.o.ext Hx3.o)
     ·intro a ha;obtain⟨a2,ha2,hb2⟩:=HA2.o a' rfl;rw[ha]at ha2;injection ha2 with ha2;subst ha2;rw[hb2,Hab.o];exact hbS
theorem ZR8 {w:World}{r n c:Nat}{A B:Option Addr}{cl:Bool}{t:TypeId}{ws:List Nat}{a:Addr}(h:w.heap[r]?=some (.cells #[.slice A n c,.bool cl] t (0,0)))(hr:Rd w B (ZV .u8 ws))(ha:B=some a)(hws:ws≠[]):a.block≠r:=by
 rintro rfl;cases ws with
 |nil=>exact hws rfl
 |cons x t=>
  obtain⟨b,off,hB,hc⟩:=hr (by simp[ZV]);rw[ha]at hB;injection hB with hB;subst hB;have h1:=hc 0 _ rfl;rw[Zbw,ZE h off]at h1
  match off,h1 with
  |0,h1=>simp at h1
  |1,h1=>simp at h1
  |_+2,h1=>simp at h1
theorem ZHn {ws:List Nat}(h:ws.length<4):Yx ws=0:=by unfold Yx;rw[Zcg h]
theorem ZGE (w:World)(r:Nat)(S:Zdb)(ws:List Nat)(h:XH w r ws false S)(hb:∀x ∈ ws,x<256)(hN:ws.length<=9223372036854775807): Calls Tryz.prog 157 #[.pointer (some ⟨r,0,none⟩)] w (ZSJ ws w r S):=by
 obtain⟨A,n,c,hblk,hl,hnc,hr,hAS⟩:=h;by_cases hn:n<4
 ·refine(ZLD w r A n c hblk hn).mono ?_;rintro e w' ⟨he,hb',hg⟩;have hne:∀a,A=some a->ws≠[]->a.block≠r:=λa ha hws=>ZR8 hblk hr ha hws;refine⟨hg,.inl ⟨ZHn ZB,he,A,n,c,hb',hl,hnc,?_,hAS⟩⟩;by_cases hws:ws=[]
  ·subst hws;exact Rd.nil _ _
  ·exact hr.grown hg (λa ha hr'=>hne a ha hws (by injection hr' with hr';exact hr'.symm))
 ·have hws:ws≠[]:=by rintro rfl;simp at hl;omega
  obtain⟨b,off,rfl,_⟩:=hr (by simpa[ZV]using hws);obtain⟨A',hsl,hrd,hA'⟩:=XP Tryz.underlying32 Xo (A:=some ⟨b,off,none⟩) (n:=n) (c:=c) (m:=n - 4) (d:=c - 4) 4 (ki:=((4:Nat):Int)) rfl hnc ZB ZB;exact ZNW w r b off n c (n - 4) (c - 4) S A' ws hblk ZB hnc ZB ZB hl hb hr (ZR8 hblk hr rfl hws) (hAS _ rfl) ZB hsl hrd (hA' _ rfl)
abbrev ZKc:Ending:=.panicked [{v:=.iface 290 (.agg #[]),recovered:=false}]
theorem JX (w:World)(r:Value):Calls Tryz.prog 115 #[r,.bool true] w λe w'=>e=.returned (.tuple #[])/\w=w':=by
 go_enter Tryz.func115,Tryz.ntmps115;go_wp2_with fail
 go_end0
 exact⟨rfl,rfl⟩
theorem ZBZ (w:World)(r:Value):Calls Tryz.prog 115 #[r,.bool false] w λe w'=>e=ZKc/\w=w':=by
 go_enter Tryz.func115,Tryz.ntmps115;go_wp2_with fail;exact⟨rfl,rfl,rfl⟩
def ZS1 (w:World)(r:Nat)(A:Option Addr)(n c:Nat):Prop:=w.heap[r]?=some (.cells #[.slice A n c] 292 (0,0))
theorem ZM4 (w:World)(r:Nat)(k:Int)(A:Option Addr)(n c:Nat)(h:ZS1 w r A n c)(hk:(n:Int)<k): Calls Tryz.prog 114 #[.pointer (some ⟨r,0,none⟩),.int .i64 k] w λe w'=>e=ZKc/\w=w':=by
 have h0:=ZTx h 0 (.slice A n c);have hd:decide (k<=(n:Int))=false:=by simp;omega
 have H:=ZA h;clear h;go_enter Tryz.func114,Tryz.ntmps114;go_wp2_with fail;refine(ZBZ _ _).mono ?_;rintro e w' ⟨rfl,rfl⟩;exact⟨rfl,rfl,rfl⟩
theorem ZKi (w:World)(r k:Nat)(A:Option Addr)(n c m d:Nat)(h:ZS1 w r A n c)(hk:k<=n)(hnc:n<=c)(A':Option Addr)(hsl:∀u:World,(Instr.slice 32 (.slice A n c) (some (.int .i64 (k:Int))) none none).run Tryz.prog u=.ok (.slice A' m d) u): Calls Tryz.prog 114 #[.pointer (some ⟨r,0,none⟩),.int .i64 (k:Int)] w λe w'=>e=.returned (.slice A k c)/\w.setCell ⟨r,0,none⟩ (.slice A' m d)=w':=by
 have h0:=ZTx h 0 (.slice A n c);have hf:=ZF h 0;have hd:decide ((k:Int)<=(n:Int))=true:=by simp;omega
 have H:=ZA h;clear h;go_enter Tryz.func114,Tryz.ntmps114;go_wp2_with fail;refine(JX _ _).mono ?_;rintro e w' ⟨rfl,rfl⟩;go_wp2_with fail;go_ret;exact⟨rfl,rfl⟩
def YJ (w:World)(r S:Nat)(zs:List Nat):Prop:=∃A c,ZS1 w r A zs.length c/\zs.length<=c/\Rd w A (ZV .u8 zs)/\(zs≠[]->∀a,A=some a->a.block≠r/\a.block<S)
theorem YJ.ext {w w':World}{r S:Nat}{zs:List Nat}(h:YJ w r S zs)(hx:ZL w w'):YJ w' r S zs:=by
 obtain⟨A,c,h1,h2,h3,h4⟩:=h;exact⟨A,c,ZJ h1 hx,h2,h3.ext hx,h4⟩
theorem YJ.grown {w w':World}{r S:Nat}{zs:List Nat}(h:YJ w r S zs){row:Option Nat}(hg:w.grownBy w' row)(h1:∀k,row=some k->k≠r/\S<=k):YJ w' r S zs:=by
 obtain⟨A,c,k1,k2,k3,k4⟩:=h;refine⟨A,c,(hg.block r (ZW k1) (λe=>(h1 r e.symm).1 rfl)).trans k1,k2,?_,k4⟩;by_cases hz:zs=[]
 ·subst hz;exact Rd.nil _ _
 ·exact k3.grown hg (λa ha e=>by have:=(h1 _ e).2;have:=(k4 hz a ha).2;omega)
theorem YJ.lt {w:World}{r S:Nat}{zs:List Nat}(h:YJ w r S zs):r<w.heap.size:=by
 obtain⟨A,c,h1,_⟩:=h;exact ZW h1
def ZTN (zs:List Nat)(k:Nat)(w:World)(r S:Nat)(e:Ending)(w':World):Prop:=∃A c,e=.returned (.slice A k c)/\k<=c/\Rd w' A (ZV .u8 (zs.take k))/\YJ w' r S (zs.drop k)/\w.grownBy w' (some r)/\w.heap.size=w'.heap.size/\(zs≠[]->∀a,A=some a->a.block≠r/\a.block<S)
theorem Zw (w:World)(r S k:Nat)(zs:List Nat)(h:YJ w r S zs)(hk:k<=zs.length): Calls Tryz.prog 114 #[.pointer (some ⟨r,0,none⟩),.int .i64 (k:Int)] w (ZTN zs k w r S):=by
 obtain⟨A,c,h1,h2,h3,h4⟩:=h;obtain⟨A',hsl,hrd,hA'⟩:=XP Tryz.underlying32 Xo (A:=A) (n:=zs.length) (c:=c) (m:=zs.length - k) (d:=c - k) k (ki:=(k:Int)) rfl h2 ZB ZB;refine(ZKi w r k A zs.length c (zs.length - k) (c - k) h1 hk h2 A' hsl).mono ?_;rintro e w' ⟨rfl,rfl⟩;have hg:=Zc w r 0 (.slice A' (zs.length - k) (c - k));have hr:Rd (w.setCell ⟨r,0,none⟩ (.slice A' (zs.length - k) (c - k))) A (ZV .u8 zs):=by
  by_cases hz:zs=[]
  ·subst hz;exact Rd.nil _ _
  ·exact h3.grown hg (λa ha e=>(h4 hz a ha).1 (by injection e with e;exact e.symm))
 refine⟨A,c,rfl,by omega,?_,⟨A',c - k,?_,?_,?_,?_⟩,hg,by simp,h4⟩
 ·exact ZIO (ys:=zs.drop k) (by rw[Zbg];exact hr)
 ·rw[ZbB];exact ZU h1 0 _
 ·rw[ZbB];omega
 ·rw[JO];exact hrd _ _ (XM _ _) hr
 ·intro hz a ha;have hz':zs≠[]:=by rintro rfl;simp at hz
  obtain⟨b,off,hA,_⟩:=h3 (by simpa[ZV]using hz');obtain⟨a',ha',hb⟩:=hA' _ hA;rw[ha]at ha';injection ha' with ha';subst ha';rw[hb];exact h4 hz' _ hA
theorem ZAv (w:World)(r S:Nat)(k:Nat)(zs:List Nat)(h:YJ w r S zs)(hk:zs.length<k): Calls Tryz.prog 114 #[.pointer (some ⟨r,0,none⟩),.int .i64 (k:Int)] w λe w'=>e=ZKc/\w=w':=by
 obtain⟨A,c,h1,h2,h3,h4⟩:=h;exact ZM4 w r k A zs.length c h1 ZB
def ZTT (zs:List Nat)(w:World)(r S:Nat)(e:Ending)(w':World):Prop:=w.grownBy w' (some r)/\w.heap.size=w'.heap.size/\((8<=zs.length/\Z4 (zs.take 8)<=4611686018427387903/\e=.returned (.int .i64 (Z4 (zs.take 8):Int))/\YJ w' r S (zs.drop 8))\/(¬(8<=zs.length/\Z4 (zs.take 8)<=4611686018427387903)/\e=ZKc))
theorem ZCR (w:World)(r S:Nat)(zs:List Nat)(hb:∀x ∈ zs,x<256)(h:YJ w r S zs): Calls Tryz.prog 116 #[.pointer (some ⟨r,0,none⟩)] w (ZTT zs w r S):=by
 by_cases h8:8<=zs.length
 ·have C:=ZA (Zw w r S 8 zs h h8);have hl8:(zs.take 8).length=8:=by rw[ZbG];omega
  have hb8:∀x ∈ zs.take 8,x<256:=λx hx=>hb x (ZbR hx);have Hl8:=ZA hl8;have Hb8:=ZA hb8;clear hl8 hb8;unfold ZTT;obtain⟨ys,hys⟩:=ZTz (zs.take 8);rw[hys]at Hl8 Hb8 ⊢;have Hys:=ZA hys;clear hys;go_enter Tryz.func116,Tryz.ntmps116;go_wp2_with fail;refine C.o.mono ?_;rintro e w1 ⟨A,c,rfl,hc,hr,hS,hg,hz,_⟩;rw[Hys.o]at hr;have HR:=ZA hr;have HS:=ZA hS;have HG:=ZA hg;have hsz:w.heap.size=w1.heap.size:=hz;clear hr hS hg C hz;go_wp2_with fail
  go_loop [3,9] (λx i=>∃k:Nat,k<=8/\i=.int .i64 k/\x=.int .u64 ((Z4 (ys.take k):Nat):Int)) (λ_ i=>8 - (intOf i).toNat)
  case atStart=>exact⟨0,ZcL _,rfl,by rw[Zbn,ZGD];rfl⟩
  case round=>
   obtain⟨k,hk,rfl,rfl⟩:=hrel;by_cases hlt:k<8
   ·obtain⟨x,hx⟩:=JR (xs:=ys) (j:=k) (by rw[Hl8.o];exact hlt);have hx256:x<256:=Hb8.o x (ZbO hx);obtain⟨b,off,hA,hc⟩:=HR.o.at_ hx;subst hA;have hnl:=ZBY (ys.take k) (λy hy=>Hb8.o y (ZbR hy));have hle:Z4 (ys.take k)<72057594037927936:=by
     refine Zb5 hnl ?_;rw[show(72057594037927936:Nat)=256 ^ 7 by rfl];exact ZcI ZB (by rw[ZbG,Hl8.o];omega)
    have Hx:=ZA hx;clear hx hnl;go_wp2
    go_round
    case rel=>exact⟨k+1,by omega,by go_num,by rw[Zr Hx.o,ZC3,ZHa _ _ hle hx256]⟩
    case measure=>simp[intOf];omega
   ·obtain rfl:k=8:=by omega
    have e1:ys.take 8=ys:=Zbk (by rw[Hl8.o];omega);rw[e1];have hlt:=ZCC ys Hb8.o (by rw[Hl8.o];omega);clear e1;obtain⟨s,hsE⟩:=ZTz (Z4 ys);rw[hsE]at hlt ⊢;have HsE:=ZA hsE;clear hsE;by_cases hs:s<=4611686018427387903
    ·have hd:decide ((s:Int)<=4611686018427387903)=true:=by simp;omega
     go_wp2_with fail;refine(JX _ _).mono ?_;rintro e w' ⟨rfl,rfl⟩;have w1s:IntKind.i64.wrap (s:Int)=(s:Int):=by rw[Zaa];omega
     go_wp2_with fail;go_ret;exact⟨HG.o,hsz,.inl ⟨h8,by rw[HsE.o];exact hs,by rw[HsE.o];rfl,HS.o⟩⟩
    ·have hd:decide ((s:Int)<=4611686018427387903)=false:=by simp;omega
     go_wp2_with fail;refine(ZBZ _ _).mono ?_;rintro e w' ⟨rfl,rfl⟩;exact⟨rfl,HG.o,hsz,.inr ⟨λhh=>hs (by have:=hh.2;rwa [HsE.o]at this),rfl⟩⟩
 ·go_enter Tryz.func116,Tryz.ntmps116;go_wp2_with fail;refine(ZAv w r S 8 zs h ZB).mono ?_;rintro e w' ⟨rfl,rfl⟩;exact⟨rfl,ZcS _ _,rfl,.inr ⟨λhh=>h8 hh.1,rfl⟩⟩
theorem ZBq {fn:Func}(h:fn.results=#[.cell 2 34]){tmps:Array Value}{w:World}{g:Nat}{a b c d:Value}{t:TypeId}{fr:Nat × Nat}(hp:tmps.getD 2 undef=.pointer (some ⟨g,0,none⟩))(hg:w.heap[g]?=some (.cells #[a,b,c,d] t fr)): (results fn tmps).run Tryz.prog w=.ok (.agg #[a,b,c,d]) w:=Zck h tmps w g t #[a,b,c,d] fr _ hp hg Tryz.underlying34 ZTw ZC
def ZH4 (op p:Nat)(xs:List Nat)(N:Nat)(rest:List Nat)(w:World)(r S:Nat)(e:Ending)(w':World):Prop:=∃A c,e=.returned (YY (op:Int) (p:Int) A xs.length c (N:Int))/\w'.ownsRow w.heap.size 5 1 (.slice A xs.length c) xs.length (ZV .u8 xs)/\YJ w' r S rest/\w.grownBy w' (some r)
def Js (w:World)(r:Nat)(e:Ending)(w':World):Prop:=e=ZKc/\w.grownBy w' (some r)
theorem YU {w:World}{A:Option Addr}{x:Nat}{t:List Nat}(h:Rd w A (ZV .u8 (x::t))):∃b off,A=some ⟨b,off,none⟩/\w.cell? ⟨b,off,none⟩=some (.int .u8 (x:Int)):=by
 obtain⟨b,off,hA,hc⟩:=h (by simp[ZV]);exact⟨b,off,hA,hc 0 _ rfl⟩
theorem Xk {w a:World}{row:Option Nat}(h:w.grownBy a row){g:Nat}(hg:w.heap.size<=g)(i:Nat)(u:Value):w.grownBy (a.setCell ⟨g,i,none⟩ u) row:=⟨h.os,h.tape,h.output,by simpa using h.size,λk hk hne=>(Zce a ⟨g,i,none⟩ k u (by simp;omega)).trans (h.block k hk hne)⟩
theorem ZBQ {w a:World}{row:Option Nat}(h:w.grownBy a row){g:Nat}(hg:w.heap.size<=g)(x y z u:Value):w.grownBy ((((a.setCell ⟨g,0,none⟩ x).setCell ⟨g,1,none⟩ y).setCell ⟨g,2,none⟩ z).setCell ⟨g,3,none⟩ u) row:=Xk (Xk (Xk (Xk h hg 0 x) hg 1 y) hg 2 z) hg 3 u
theorem ZDl {w:World}{r S g:Nat}{zs:List Nat}(h:YJ w r S zs)(hr:r<g)(hS:S<=g)(x y z u:Value):YJ ((((w.setCell ⟨g,0,none⟩ x).setCell ⟨g,1,none⟩ y).setCell ⟨g,2,none⟩ z).setCell ⟨g,3,none⟩ u) r S zs:=h.grown (ZT (ZT (ZT (Zc w g 0 x) 1 y) 2 z) 3 u) (λk hk=>by injection hk with hk;omega)
theorem ZQU (w:World)(r S:Nat)(h:YJ w r S []): Calls Tryz.prog 159 #[.pointer (some ⟨r,0,none⟩)] w (Js w r):=by
 have H:=ZA (λo:Obj=>h.ext ((ZL.refl w).alloc o));clear h;go_enter Tryz.func159,Tryz.ntmps159;go_wp2_with fail;refine(ZAv _ r S 1 [] (H.o _) (by decide)).mono ?_;rintro e w' ⟨rfl,rfl⟩;exact⟨rfl,rfl,Z6 ((ZL.refl w).alloc _) _⟩
theorem ZSt (w:World)(r S o:Nat)(hSw:S<=w.heap.size)(ho:o=5\/o=6)(rest:List Nat)(h:YJ w r S (o::rest)): Calls Tryz.prog 159 #[.pointer (some ⟨r,0,none⟩)] w (ZH4 o 0 [] 0 rest w r S):=by
 have q1:((o:Int)==1)=false:=by rw[ZcW];omega
 have q2:((o:Int)==2)=false:=by rw[ZcW];omega
 have q3:((o:Int)==3)=false:=by rw[ZcW];omega
 have q4:((o:Int)==4)=false:=by rw[ZcW];omega
 have q5:((o:Int)==5)=true\/(((o:Int)==5)=false/\((o:Int)==6)=true):=by
  rcases ho with h|h
  ·left;rw[ZcX];omega
  ·right;exact⟨by rw[ZcW];omega,by rw[ZcX];omega⟩
 have hr:=h.lt;have H:=ZA (λo:Obj=>h.ext ((ZL.refl w).alloc o));clear h ho;rcases q5 with q5|⟨q5,q6⟩
 all_goals
  go_enter Tryz.func159,Tryz.ntmps159;go_wp2_with fail;refine(Zw _ r S 1 _ (H.o _) ZTv).mono ?_;rintro e w1 ⟨A,c,rfl,hc,hR,hS,hg,hz,hbl⟩;obtain⟨b,off,rfl,hc0⟩:=YU hR;have K2:=ZA (Zj (ZM w _) hg ZB);have HS:=ZA hS;have HG:=ZA hg;rw[ZcV]at hz;clear hR hS hg;go_wp2_with fail;refine(JX _ _).mono ?_;rintro e w' ⟨rfl,rfl⟩;have k0:=ZI (ZE K2.o 0);have k1:=ZI (ZE K2.o 1);have k2:=ZI (ZE K2.o 2);have k3:=ZI (ZE K2.o 3);have f0:=Jz K2.o 0;have f1:=Jz K2.o 1;have f2:=Jz K2.o 2;have f3:=Jz K2.o 3;go_wp2_with fail;refine ZcY (ZBq rfl rfl (ZAS (ZR K2.o _) _ _ _ _)) rfl ?_;exact⟨none,0,rfl,ZcU _ _ _ _,ZDl (HS.o.ext ((ZL.refl w1).alloc _)) ZB hSw _ _ _ _,ZBQ (Zl (World.grown_trans (Z6 ((ZL.refl w).alloc _) _) HG.o) _) (Zb0 _) _ _ _ _⟩
theorem Xl {w:World}{p:Addr}{v:Value}{g i:Nat}{u:Value}(h:w.cell? p=some v)(hne:p.block≠g):(w.setCell ⟨g,i,none⟩ u).drew.cell? p=some v:=ZZ h hne
theorem YP {w w':World}{g r:Nat}{o:Obj}(h:w.heap[g]?=some o)(hg:w.grownBy w' (some r))(hne:g≠r):w'.heap[g]?=some o:=Zj h hg hne
theorem Jv {w:World}{B g n c:Nat}{e:TypeId}{A:Option Addr}{xs:List Value}(h:w.ownsRow B e 1 (.slice A n c) n xs)(hg:g<B)(x y z u:Value):((((w.setCell ⟨g,0,none⟩ x).setCell ⟨g,1,none⟩ y).setCell ⟨g,2,none⟩ z).setCell ⟨g,3,none⟩ u).ownsRow g e 1 (.slice A n c) n xs:=Zg (h.kept (ZT (ZT (ZT (Zc w g 0 x) 1 y) 2 z) 3 u) (Je h hg)) (Zbz hg)
theorem ZRs (w:World)(r S o:Nat)(_hSw:S<=w.heap.size)(ho:o=0\/7<=o)(rest:List Nat)(h:YJ w r S (o::rest)): Calls Tryz.prog 159 #[.pointer (some ⟨r,0,none⟩)] w (Js w r):=by
 have q1:((o:Int)==1)=false:=by rw[ZcW];omega
 have q2:((o:Int)==2)=false:=by rw[ZcW];omega
 have q3:((o:Int)==3)=false:=by rw[ZcW];omega
 have q4:((o:Int)==4)=false:=by rw[ZcW];omega
 have q5:((o:Int)==5)=false:=by rw[ZcW];omega
 have q6:((o:Int)==6)=false:=by rw[ZcW];omega
 have hr:=h.lt;have H:=ZA (λo:Obj=>h.ext ((ZL.refl w).alloc o));clear h ho;go_enter Tryz.func159,Tryz.ntmps159;go_wp2_with fail;refine(Zw _ r S 1 _ (H.o _) ZTv).mono ?_;rintro e w1 ⟨A,c,rfl,hc,hR,hS,hg,hz,hbl⟩;obtain⟨b,off,rfl,hc0⟩:=YU hR;have HG:=ZA hg;clear hR hS hg hz;go_wp2_with fail;refine(ZBZ _ _).mono ?_;rintro e w' ⟨rfl,rfl⟩;exact⟨rfl,rfl,Zl (World.grown_trans (Z6 ((ZL.refl w).alloc _) _) HG.o) _⟩
def ZFV (op p:Nat)(xs:List Nat)(N:Nat)(rest:List Nat)(w:World)(r S g:Nat)(wd:World):Prop:=∃A c,wd.heap[g]?=some (.cells #[.int .u8 (op:Int),.int .i64 (p:Int),.slice A xs.length c,.int .i64 (N:Int)] 34 (0,0))/\ wd.heap[w.heap.size]?=some (.cells #[.int .u8 0,.int .i64 0,.slice none 0 0,.int .i64 0] 34 (0,0))/\ wd.ownsRow (w.heap.size+1) 5 1 (.slice A xs.length c) xs.length (ZV .u8 xs)/\YJ wd r S rest/\w.grownBy wd (some r)
theorem ZQW (w:World)(r S p N:Nat)(xs:List Nat)(hSw:S<=w.heap.size)(hb:∀x ∈ xs,x<256)(hp:p<32)(h1:1<=N)(h2:N<=4611686018427387903)(hx:xs.length<=255)(h:YJ w r S (3::Y4 p xs N)): Calls Tryz.prog 159 #[.pointer (some ⟨r,0,none⟩)] w (ZH4 3 p xs N [] w r S):=by
 have hr:=h.lt;have H:=ZA (λo:Obj=>h.ext ((ZL.refl w).alloc o));clear h;have HL:=ZA (ZAQ p xs N);have Hb:=ZA hb;clear hb;go_enter Tryz.func159,Tryz.ntmps159;go_wp2_with fail;refine(Zw _ r S 1 _ (H.o _) ZTv).mono ?_;rintro e w1 ⟨A,c,rfl,hc,hR,hS,hg,hz,hbl⟩;obtain⟨b,off,rfl,hc0⟩:=YU hR;have K2:=ZA (Zj (ZM w _) hg ZB);have HS:=ZA (show YJ w1 r S (Y4 p xs N)from hS);have HG:=ZA hg;rw[ZcV]at hz;clear hR hS hg
 go_upto_block 0 with fail
 go_cut [6] (λ_ wd=>ZFV 3 p xs N [] w r S w1.heap.size wd)
 case first=>
  obtain⟨A1,c1,hw1,_,_,_⟩:=HS.o;have h0:=ZI (ZE hw1 0);clear hw1;go_wp2_with fail;refine(Zw _ r S (Y4 p xs N).length _ (HS.o.ext ((ZL.refl w1).alloc _)) (Zb0 _)).mono ?_;rintro e w2 ⟨A2,c2,rfl,hc2,hR2,hS2,hg2,hz2,hbl2⟩;rw[Zbj]at hR2;rw[List.drop_length]at hS2;rw[ZcV]at hz2;have K3:=ZA (Zj (ZM w1 _) hg2 ZB);have K2':=ZA (Zj (ZR K2.o _) hg2 ZB);have HS2:=ZA hS2;have hgA:=World.grown_trans (Zl (World.grown_trans (Z6 ((ZL.refl w).alloc (.cells #[.int .u8 0,.int .i64 0,.slice none 0 0,.int .i64 0] 34)) (some r)) HG.o) _) hg2;have HGA:=ZA hgA;have C:=ZA (ZOH w2 p N xs.length A2 (Y4 p xs N).length c2 xs rfl HL.o Hb.o hR2 hc2 h1 h2 hp hx);clear hS2 hg2 hgA hR2 h0 HS K2 hc0;go_wp2_with fail;refine C.o.mono ?_;rintro e w3 ⟨A3,c3,rfl,hown3,hy3⟩;have K3':=ZA (ZJ K3.o hy3);have K2:=ZA (ZJ K2'.o hy3);have HS3:=ZA (HS2.o.ext hy3);have HG3:=ZA (Jm HGA.o hy3);have Hown:=ZA hown3;have hs3:w2.heap.size<=w3.heap.size:=hy3.size;clear hown3 HS2 HGA K3 K2' C;go_wp2_with fail;refine(JX _ _).mono ?_;rintro e w' ⟨rfl,rfl⟩;obtain⟨W,hW⟩:=ZTz (w3.alloc (.cells #[.int .i64 (p:Int),.slice A3 xs.length c3,.int .i64 (N:Int)] 120));have hyW:ZL w3 W:=by rw[<-hW];exact(ZL.refl w3).alloc _
  have KT:ZD (W.heap[w3.heap.size]?=some (.cells #[.int .i64 (p:Int),.slice A3 xs.length c3,.int .i64 (N:Int)] 120 (0,0))):=by rw[<-hW];exact ZM _ _
  have KC:=ZA (ZJ K3'.o hyW);have KR:=ZA (ZJ K2.o hyW);have HSW:=ZA (HS3.o.ext hyW);have HGW:=ZA (Jm HG3.o hyW);have HoW:=ZA (YB Hown.o hyW);rw[hW];clear hW hyW K3' K2 HS3 HG3 Hown;have t0:=ZE KT.o 0;have t1:=ZE KT.o 1;have t2:=ZE KT.o 2;have u0:=ZE KC.out 0;have u1:=ZE KC.out 1;have u2:=ZE KC.out 2;have u3:=ZE KC.out 3;have f0:=ZF KC.out 0;have f1:=ZF KC.out 1;have f2:=ZF KC.out 2;have f3:=ZF KC.out 3;have hne:w3.heap.size≠w1.heap.size:=by omega
  go_upto_region 7 with fail
  go_region_held3 (λw'=>w'.cell? ⟨w3.heap.size,0,none⟩=some (.int .i64 (p:Int))/\w'.cell? ⟨w3.heap.size,1,none⟩=some (.slice A3 xs.length c3)/\w'.cell? ⟨w3.heap.size,2,none⟩=some (.int .i64 (N:Int))) (((try go_split_ands);refine⟨?_,?_,?_⟩<;>first|exact Xl (by assumption) hne|exact ZZ (by assumption) hne|assumption)) (fail)
  go_wp2_with fail
  go_meet
  have hG:=Jh (ZT (ZT (Zc W w1.heap.size 1 (.int .i64 (p:Int))) 2 (.slice A3 xs.length c3)) 3 (.int .i64 (N:Int)));exact⟨A3,c3,ZU (ZU (ZU KC.out 1 _) 2 _) 3 _,YP KR.o hG ZB,Zg (HoW.o.kept hG (Je HoW.o ZB)) ZB,HSW.o.grown hG (λk hk=>by injection hk with hk;omega),Xe HGW.o hG ZB⟩
 case rest=>
  obtain⟨A3,c3,hC,hR,ho,hS,hG⟩:=hcut;have KC:=ZA hC;have KR:=ZA hR;have Ho:=ZA ho;have HSc:=ZA hS;have HGc:=ZA hG;clear hC hR ho hS hG;have c0:=ZE KC.out 0;have c1:=ZE KC.out 1;have c2:=ZE KC.out 2;have c3:=ZE KC.out 3;have k0:=ZE KR.o 0;have k1:=ZE KR.o 1;have k2:=ZE KR.o 2;have k3:=ZE KR.o 3;have f0:=ZF KR.o 0;have f1:=ZF KR.o 1;have f2:=ZF KR.o 2;have f3:=ZF KR.o 3;go_wp2_with fail;refine ZcY (ZBq rfl rfl (ZAS KR.o _ _ _ _)) rfl ?_;exact⟨A3,_,rfl,Jv Ho.o ZB _ _ _ _,ZDl HSc.o ZB hSw _ _ _ _,ZBQ HGc.o (Zb0 _) _ _ _ _⟩
theorem ZOY (w:World)(r S:Nat)(ts:List Nat)(_hSw:S<=w.heap.size)(hb:∀x ∈ ts,x<256)(hl:ts.length<=4096)(hno:¬ZGr ts)(h:YJ w r S (3::ts)): Calls Tryz.prog 159 #[.pointer (some ⟨r,0,none⟩)] w (Js w r):=by
 have hr:=h.lt;have H:=ZA (λo:Obj=>h.ext ((ZL.refl w).alloc o));clear h;have Hb:=ZA hb;have Hno:=ZA hno;clear hb hno;go_enter Tryz.func159,Tryz.ntmps159;go_wp2_with fail;refine(Zw _ r S 1 _ (H.o _) ZTv).mono ?_;rintro e w1 ⟨A,c,rfl,hc,hR,hS,hg,hz,hbl⟩;obtain⟨b,off,rfl,hc0⟩:=YU hR;have HS:=ZA (show YJ w1 r S ts from hS);have HG:=ZA hg;rw[ZcV]at hz;clear hR hS hg;obtain⟨A1,c1,hw1,_,_,_⟩:=HS.o;have h0:=ZI (ZE hw1 0);clear hw1;go_wp2_with fail;refine(Zw _ r S ts.length _ (HS.o.ext ((ZL.refl w1).alloc _)) (Zb0 _)).mono ?_;rintro e w2 ⟨A2,c2,rfl,hc2,hR2,hS2,hg2,hz2,hbl2⟩;rw[Zbj]at hR2;have hgA:=World.grown_trans (Zl (World.grown_trans (Z6 ((ZL.refl w).alloc (.cells #[.int .u8 0,.int .i64 0,.slice none 0 0,.int .i64 0] 34)) (some r)) HG.o) _) hg2;have HGA:=ZA hgA;have C:=ZA (ZKC w2 A2 ts.length c2 ts rfl Hb.o hR2 hc2 hl Hno.o);clear hS2 hg2 hgA hR2 h0 HS hc0;go_wp2_with fail;refine C.o.mono ?_;rintro e w3 ⟨rfl,hy3⟩;have HG3:=ZA (Jm HGA.o hy3);clear HGA C;go_wp2_with fail;refine(ZBZ _ _).mono ?_;rintro e w' ⟨rfl,rfl⟩;exact⟨rfl,rfl,Zl HG3.o _⟩
theorem ZRJ {w:World}{xs:List Nat}(h:Rd w none (ZV .u8 xs)):xs=[]:=by
 cases xs with
 |nil=>rfl
 |cons x t=>
  obtain⟨b,off,hA,_⟩:=h (by simp[ZV]);cases hA
theorem ZAp (A:Option Addr)(n c:Nat)(xs:List Nat)(w:World)(hl:xs.length=n)(hn:n<=140737488355328)(hr:Rd w A (ZV .u8 xs)): Calls Tryz.prog 67 #[.slice A n c] w (ZDi xs w):=by
 cases A with
 |none=>
  have:=ZRJ hr;subst this;exact(ZHv w n c).mono λe w' ⟨he,hw⟩=>⟨none,0,he,ZcU _ _ _ _,hw ▸ ZL.refl w⟩
 |some a=>exact ZDd a n c xs w hl hn hr
theorem ZRZ:(Tryz.prog.info? 32).map (λi=>(i.zero,i.size,i.bytes))=some (some (.slice none 0 0),1,24):=by kernel_rfl
theorem ZQf {ops:Array Oper}{rest:List Oper}{o:Oper}{a:Act}{Q:Exit->Act->World->Prop}(w:World)(hgd:o.guard=none)(s x:Operand)(ho:o.op=.call {callee:=.builtin .append,args:=#[s,x],argTypes:=#[176,176]})(base:Nat){B:Option Addr}{n cb:Nat}{xs:List Value}(hs:a.eval s=.slice B n cb)(hown:w.ownsRow base 32 1 (.slice B n cb) n xs){A:Option Addr}{m c:Nat}{news:List Value}(hx:a.eval x=.slice A m c)(hl:news.length=m)(hr:Rd w A news)(h1:∀u ∈ news,u.oneCell'=true)(hb:(n+m)*24<=140737488355328)(hbase:base<=w.heap.size)(h:∀B' cb' w',w'.ownsRow base 32 1 (.slice B' (n+m) cb') (n+m) (xs++news)->w.grownBy w' (Value.slice B n cb).ownBlock-> ((Value.slice B' (n+m) cb').ownBlock=(Value.slice B n cb).ownBlock\/(Value.slice B' (n+m) cb').ownBlock=some w.heap.size)->wpList Tryz.prog ops Q rest (a.put o.dst (.slice B' (n+m) cb')) w'): wpList Tryz.prog ops Q (o::rest) a w:=by
 obtain⟨i0,hi,hz0,hz1,hz2⟩:=Zch ZRZ;exact Yv w hgd s x 176 ho base 32 Tryz.underlying176 hi hz0 hz1 hz2 rfl (by decide) hs hown hx (by rw[hl,ZcD]) hr h1 (by unfold maxLen;omega) hb hbase h
def PL (w:World)(base:Nat)(A:Option Addr)(n c:Nat)(pss:List (List Nat)):Prop:=pss.length=n/\∃(vs:List Value) (gs:List Nat),w.ownsRow base 32 1 (.slice A n c) n vs/\gs.length=n/\gs.Pairwise (· <·)/\(∀g ∈ gs,g<w.heap.size)/\ ∀(i:Nat) (ps:List Nat),pss[i]?=some ps->∃g ci:Nat,gs[i]?=some g/\vs[i]?=some (Value.slice (some ⟨g,0,none⟩) ps.length ci)/\w.ownsRow base 5 1 (.slice (some ⟨g,0,none⟩) ps.length ci) ps.length (ZV .u8 ps)
theorem PL.nil (w:World)(base:Nat):PL w base none 0 0 []:=⟨rfl,[],[],ZcU _ _ _ _,rfl,List.Pairwise.nil,by simp,by simp⟩
theorem ZHX {w:World}{base base':Nat}{e e':TypeId}{size size' n n':Nat}{v v':Value}{xs xs':List Value}(h:w.ownsRow base e size v n xs)(h':w.ownsRow base' e' size' v' n' xs')(hne:e≠e'):v.ownBlock=none\/v.ownBlock≠v'.ownBlock:=by
 rcases h.2 with⟨rfl,_⟩|⟨g,_,_,rfl,_,hg,_⟩
 ·exact .inl rfl
 ·rcases h'.2 with⟨rfl,_⟩|⟨g',_,_,rfl,_,hg',_⟩
  ·exact .inr (by simp[Value.ownBlock])
  ·right;intro e1;simp only[Value.ownBlock,Option.some.injEq]at e1;subst e1;rw[hg]at hg';injection hg' with hg';injection hg' with _ ht;exact hne ht
theorem PL.keep {w w':World}{base:Nat}{A:Option Addr}{n c:Nat}{pss:List (List Nat)}(h:PL w base A n c pss){row:Option Nat}(hg:w.grownBy w' row)(hrow:∀k,row=some k->k<base):PL w' base A n c pss:=by
 obtain⟨hl,vs,gs,ho,hgl,hp,hgs,hall⟩:=h;have ne:∀{v:Value} {n:Nat} {e:TypeId} {xs:List Value},w.ownsRow base e 1 v n xs->v.ownBlock=none\/v.ownBlock≠row:=by
  intro v n e xs hv;by_cases hn:v.ownBlock=none
  ·exact .inl hn
  ·right;intro e1;cases hb:v.ownBlock with
   |none=>exact hn hb
   |some k=>
    have h1:=(hv.lt k hb).1;have h2:=hrow k (by rw[<-e1,hb]);omega
 exact⟨hl,vs,gs,ho.kept hg (ne ho),hgl,hp,λg hg'=>Zb5 (hgs g hg') hg.size,λi ps hi=>by
  obtain⟨g,ci,h1,h2,h3⟩:=hall i ps hi;exact⟨g,ci,h1,h2,h3.kept hg (ne h3)⟩⟩
def PLv (w:World)(base lim:Nat)(A:Option Addr)(n c:Nat)(pss:List (List Nat))(vs:List Value):Prop:=pss.length=n/\∃gs:List Nat,w.ownsRow base 32 1 (.slice A n c) n vs/\gs.length=n/\gs.Pairwise (· <·)/\(∀g ∈ gs,g<lim)/\ ∀(i:Nat) (ps:List Nat),pss[i]?=some ps->∃g ci:Nat,gs[i]?=some g/\vs[i]?=some (Value.slice (some ⟨g,0,none⟩) ps.length ci)/\w.ownsRow base 5 1 (.slice (some ⟨g,0,none⟩) ps.length ci) ps.length (ZV .u8 ps)
theorem PL.open_ {w w':World}{base:Nat}{A:Option Addr}{n c:Nat}{pss:List (List Nat)}(h:PL w base A n c pss){row:Option Nat}(hg:w.grownBy w' row)(hrow:∀k,row=some k->k<base):∃vs,PLv w' base w.heap.size A n c pss vs:=by
 obtain⟨hl,vs,gs,ho,hgl,hp,hgs,hall⟩:=h;have ne:∀{v:Value} {n:Nat} {e:TypeId} {xs:List Value},w.ownsRow base e 1 v n xs->v.ownBlock=none\/v.ownBlock≠row:=by
  intro v n e xs hv;by_cases hn:v.ownBlock=none
  ·exact .inl hn
  ·right;intro e1;cases hb:v.ownBlock with
   |none=>exact hn hb
   |some k=>
    have h1:=(hv.lt k hb).1;have h2:=hrow k (by rw[<-e1,hb]);omega
 exact⟨vs,hl,gs,ho.kept hg (ne ho),hgl,hp,hgs,λi ps hi=>by
  obtain⟨g,ci,h1,h2,h3⟩:=hall i ps hi;exact⟨g,ci,h1,h2,h3.kept hg (ne h3)⟩⟩
theorem PLv.own {w:World}{base lim:Nat}{A:Option Addr}{n c:Nat}{pss:List (List Nat)}{vs:List Value}(h:PLv w base lim A n c pss vs):w.ownsRow base 32 1 (.slice A n c) n vs:=by
 obtain⟨_,gs,h,_⟩:=h;exact h
theorem PLv.snoc {w w1 w2:World}{base lim:Nat}{A:Option Addr}{n c:Nat}{pss:List (List Nat)}{vs:List Value}(h:PLv w base lim A n c pss vs){ps:List Nat}{Ap:Option Addr}{cp:Nat}(hp:w.ownsRow lim 5 1 (.slice Ap ps.length cp) ps.length (ZV .u8 ps))(hps:0<ps.length)(hbase:base<=lim)(hlim:lim<=w.heap.size)(hx:w.grownBy w1 none){B':Option Addr}{cb':Nat}(ho:w2.ownsRow base 32 1 (.slice B' (n+1) cb') (n+1) (vs++[.slice Ap ps.length cp]))(hg:w1.grownBy w2 (Value.slice A n c).ownBlock):PL w2 base B' (n+1) cb' (pss++[ps]):=by
 obtain⟨hl,gs,h1,h2,h3,h4,h5⟩:=h;obtain⟨g,rfl,hg1,hg2⟩:=ZBJ hp hps;have hvl:vs.length=n:=by have:=h1.1;omega
 have hw1:w1.ownsRow base 32 1 (.slice A n c) n vs:=h1.kept hx (by cases (Value.slice A n c).ownBlock<;>simp);refine⟨by simp[hl],vs++[.slice (some ⟨g,0,none⟩) ps.length cp],gs++[g],ho,by simp[h2],?_,?_,?_⟩
 ·rw[ZbY];exact⟨h3,by simp,λa ha b hb=>by rw[ZbU.1 hb];have:=h4 a ha;omega⟩
 ·intro a ha;rcases ZbI.1 ha with ha|ha
  ·have:=h4 a ha;have:=hx.size;have:=hg.size;omega
  ·rw[ZbU.1 ha];have:=hx.size;have:=hg.size;omega
 ·intro i qs hi;by_cases hin:i<pss.length
  ·rw[Zav hin]at hi;obtain⟨g',ci,k1,k2,k3⟩:=h5 i qs hi;have k4:w1.ownsRow base 5 1 (.slice (some ⟨g',0,none⟩) qs.length ci) qs.length (ZV .u8 qs):=k3.kept hx (by simp[Value.ownBlock]);exact⟨g',ci,by rw[Zav ZB];exact k1,by rw[Zav ZB];exact k2,k4.kept hg (ZHX k4 hw1 (by decide))⟩
  ·rw[Zaw ZB]at hi;have hi0:i=pss.length:=by
    have:=(Za0.1 hi).1;simp at this;omega
   subst hi0;simp at hi;subst hi;have k4:w1.ownsRow base 5 1 (.slice (some ⟨g,0,none⟩) ps.length cp) ps.length (ZV .u8 ps):=(Zg hp hbase).kept hx (by simp[Value.ownBlock]);exact⟨g,cp,by rw[Zaw ZB];simp[h2,hl],by rw[Zaw ZB];simp[hvl,hl],k4.kept hg (ZHX k4 hw1 (by decide))⟩
theorem ZQX (w:World)(r S p:Nat)(xs rest:List Nat)(hSw:S<=w.heap.size)(hb:∀x ∈ xs,x<256)(hp:p<32)(hx:xs.length<=255)(h:YJ w r S (2::p::xs.length::(xs++rest))): Calls Tryz.prog 159 #[.pointer (some ⟨r,0,none⟩)] w (ZH4 2 p xs 0 rest w r S):=by
 have hr:=h.lt;have H:=ZA (λo:Obj=>h.ext ((ZL.refl w).alloc o));clear h;have Hb:=ZA hb;clear hb;obtain⟨k,Hk⟩:=ZTy (xs.length);rw[Hk.o]at H hx;go_enter Tryz.func159,Tryz.ntmps159;go_wp2_with fail;refine(Zw _ r S 1 _ (H.o _) ZTv).mono ?_;rintro e w1 ⟨A,c,rfl,hc,hR,hS,hg,hz,hbl⟩;obtain⟨b,off,rfl,hc0⟩:=YU hR;have K2:=ZA (Zj (ZM w _) hg ZB);have HS:=ZA (show YJ w1 r S (p::k::(xs++rest))from hS);have HG:=ZA hg;rw[ZcV]at hz;clear hR hS hg hbl
 go_upto_block 0 with fail
 go_cut [6] (λ_ wd=>ZFV 2 p xs 0 rest w r S w1.heap.size wd)
 case first=>
  go_wp2_with fail;refine(Zw _ r S 2 _ (HS.o.ext ((ZL.refl w1).alloc _)) ZTv).mono ?_;rintro e w2 ⟨A2,c2,rfl,hc2,hR2,hS2,hg2,hz2,hbl2⟩;rw[ZcV]at hz2;have HS2:=ZA (show YJ w2 r S (xs++rest)from hS2);obtain⟨b2,off2,rfl,hcc⟩:=hR2 (by simp[ZV]);have h0:w2.cell? ⟨b2,off2,none⟩=some (.int .u8 (p:Int)):=hcc 0 _ rfl;have h1:w2.cell? ⟨b2,off2+1,none⟩=some (.int .u8 (k:Int)):=hcc 1 _ rfl;obtain⟨hbr,hbS⟩:=hbl2 ZTv _ rfl;have hbr:b2≠r:=hbr;have hbS:b2<S:=hbS;have K3:=ZA (Zj (ZM w1 _) hg2 ZB);have K2':=ZA (Zj (ZR K2.o _) hg2 ZB);have HGA:=ZA (World.grown_trans (Zl (World.grown_trans (Z6 ((ZL.refl w).alloc (.cells #[.int .u8 0,.int .i64 0,.slice none 0 0,.int .i64 0] 34)) (some r)) HG.o) _) hg2);clear hcc hR2 hS2 hg2 HS K2 HG hbl2 hc0;have hp32:decide ((p:Int)<32)=true:=by simp;omega
  go_wp2_with fail;refine(JX _ _).mono ?_;rintro e w' ⟨rfl,rfl⟩;have w1p:IntKind.i64.wrap (p:Int)=(p:Int):=by rw[Zaa];omega
  have w1k:IntKind.i64.wrap (k:Int)=(k:Int):=by rw[Zaa];omega
  have C3:=ZA (Zw w2.drew r S k _ (show YJ w2.drew r S (xs++rest)from HS2.o) (by rw[Za9,Hk.o];omega));have hne1:b2≠w1.heap.size:=by omega
  have hk47:k<=140737488355328:=by omega
  have hner:w1.heap.size≠r:=by omega
  go_upto_region 13 with fail
  go_cut [4] (λ_ wd=>∃A4 c4,wd.heap[w1.heap.size]?=some (.cells #[.int .u8 (2:Int),.int .i64 (p:Int),.slice A4 k c4,.int .i64 0] 34 (0,0))/\wd.ownsRow w2.heap.size 5 1 (.slice A4 k c4) k (ZV .u8 xs)/\YJ wd r S (rest)/\w.grownBy wd (some r)/\wd.heap[w.heap.size]?=some (.cells #[.int .u8 0,.int .i64 0,.slice none 0 0,.int .i64 0] 34 (0,0)))
  case first=>
   go_region_held3 (λw'=>w'.cell? ⟨b2,off2,none⟩=some (.int .u8 (p:Int))/\w'.cell? ⟨b2,off2+1,none⟩=some (.int .u8 (k:Int))) (((try go_split_ands);refine⟨?_,?_⟩<;>first|assumption|exact Xl (by assumption) hne1|exact ZZ (by assumption) hne1))
    (first
     |(go_at_call 114;refine C3.o.mono ?_;rintro e w3 ⟨A3,c3,rfl,hc3,hR3,hS3,hg3,hz3,_⟩;have s0:w3.cell? ⟨b2,off2,none⟩=some (.int .u8 (p:Int)):=(hg3.cell_far ⟨b2,off2,none⟩ (ZcO w2 _ h0) (λe=>hbr (by injection e))).trans h0;have s1:w3.cell? ⟨b2,off2+1,none⟩=some (.int .u8 (k:Int)):=(hg3.cell_far ⟨b2,off2+1,none⟩ (ZcO w2 _ h1) (λe=>hbr (by injection e))).trans h1;rw[Zbi Hk.o]at hR3;rw[Zam Hk.o]at hS3;have HR3:=ZA hR3;have HS3:=ZA hS3;have HG3:=ZA hg3;clear hR3 hS3 hg3)
     |(go_at_call 67;refine(ZAp A3 k c3 xs w3 Hk.o hk47 HR3.o).mono ?_;rintro e w4 ⟨A4,c4,rfl,hown4,hy4⟩;rw[Hk.o]at hown4 ⊢;have t0:=ZG hy4 s0;have t1:=ZG hy4 s1;have KC4:=ZA (ZJ (Zj (show w2.drew.heap[w1.heap.size]?=_ from K3.o) HG3.o hner) hy4);have u1:=ZE KC4.o 1;have u2:=ZE KC4.o 2;have f1:=ZF KC4.o 1;have f2:=ZF KC4.o 2;have Hown4:=ZA hown4;have Hy4:=ZA hy4;clear hown4 hy4))
   all_goals
    go_wp2_with fail
    go_meet
    have hG:=ZT (Zc w4 w1.heap.size 1 (.int .i64 (p:Int))) 2 (.slice A4 k c4);have hs3:w2.heap.size=w3.heap.size:=hz3;have hG3:w2.grownBy w3 (some r):=Yn HG3.o;have hG4:=Jm (World.grown_trans HGA.o hG3) Hy4.o;have hoo:w4.ownsRow w2.heap.size 5 1 (.slice A4 k c4) k (ZV .u8 xs):=Zg Hown4.o ZB;exact⟨A4,c4,ZU (ZU KC4.o 1 _) 2 _,hoo.kept hG (Je hoo ZB),(HS3.o.ext Hy4.o).grown hG (λk hk=>by injection hk with hk;omega),Xe hG4 hG ZB,YP (ZJ (YP K2'.o hG3 ZB) Hy4.o) hG ZB⟩
  case rest=>
   obtain⟨A4,c4,hC,ho,hSx,hGx,hR⟩:=hcut;have KC:=ZA hC;have Ho:=ZA ho;have HSx:=ZA hSx;have HGx:=ZA hGx;have KR:=ZA hR;have g0:=ZE KC.out 0;clear hC ho hSx hGx hR h0 h1;go_wp2_with fail
   go_meet
   refine⟨A4,c4,?_,KR.o,?_,HSx.o,HGx.o⟩
   ·rw[Hk.o];exact KC.out
   ·rw[Hk.o];exact Zg Ho.o ZB
 case rest=>
  obtain⟨A3,c3,hC,hR,ho,hS,hG⟩:=hcut;have KC:=ZA hC;have KR:=ZA hR;have Ho:=ZA ho;have HSc:=ZA hS;have HGc:=ZA hG;clear hC hR ho hS hG;have c0:=ZE KC.out 0;have c1:=ZE KC.out 1;have c2:=ZE KC.out 2;have c3:=ZE KC.out 3;have k0:=ZE KR.o 0;have k1:=ZE KR.o 1;have k2:=ZE KR.o 2;have k3:=ZE KR.o 3;have f0:=ZF KR.o 0;have f1:=ZF KR.o 1;have f2:=ZF KR.o 2;have f3:=ZF KR.o 3;go_wp2_with fail;refine ZcY (ZBq rfl rfl (ZAS KR.o _ _ _ _)) rfl ?_;exact⟨A3,_,rfl,Jv Ho.o ZB _ _ _ _,ZDl HSc.o ZB hSw _ _ _ _,ZBQ HGc.o (Zb0 _) _ _ _ _⟩
theorem ZQV (w:World)(r S p:Nat)(xs rest:List Nat)(hSw:S<=w.heap.size)(hb:∀x ∈ xs,x<256)(hp:p<32)(hx:xs.length<=255)(h:YJ w r S (4::p::xs.length::(xs++rest))): Calls Tryz.prog 159 #[.pointer (some ⟨r,0,none⟩)] w (ZH4 4 p xs 0 rest w r S):=by
 have hr:=h.lt;have H:=ZA (λo:Obj=>h.ext ((ZL.refl w).alloc o));clear h;have Hb:=ZA hb;clear hb;obtain⟨k,Hk⟩:=ZTy (xs.length);rw[Hk.o]at H hx;go_enter Tryz.func159,Tryz.ntmps159;go_wp2_with fail;refine(Zw _ r S 1 _ (H.o _) ZTv).mono ?_;rintro e w1 ⟨A,c,rfl,hc,hR,hS,hg,hz,hbl⟩;obtain⟨b,off,rfl,hc0⟩:=YU hR;have K2:=ZA (Zj (ZM w _) hg ZB);have HS:=ZA (show YJ w1 r S (p::k::(xs++rest))from hS);have HG:=ZA hg;rw[ZcV]at hz;clear hR hS hg hbl
 go_upto_block 0 with fail
 go_cut [6] (λ_ wd=>ZFV 4 p xs 0 rest w r S w1.heap.size wd)
 case first=>
  go_wp2_with fail;refine(Zw _ r S 2 _ (HS.o.ext ((ZL.refl w1).alloc _)) ZTv).mono ?_;rintro e w2 ⟨A2,c2,rfl,hc2,hR2,hS2,hg2,hz2,hbl2⟩;rw[ZcV]at hz2;have HS2:=ZA (show YJ w2 r S (xs++rest)from hS2);obtain⟨b2,off2,rfl,hcc⟩:=hR2 (by simp[ZV]);have h0:w2.cell? ⟨b2,off2,none⟩=some (.int .u8 (p:Int)):=hcc 0 _ rfl;have h1:w2.cell? ⟨b2,off2+1,none⟩=some (.int .u8 (k:Int)):=hcc 1 _ rfl;obtain⟨hbr,hbS⟩:=hbl2 ZTv _ rfl;have hbr:b2≠r:=hbr;have hbS:b2<S:=hbS;have K3:=ZA (Zj (ZM w1 _) hg2 ZB);have K2':=ZA (Zj (ZR K2.o _) hg2 ZB);have HGA:=ZA (World.grown_trans (Zl (World.grown_trans (Z6 ((ZL.refl w).alloc (.cells #[.int .u8 0,.int .i64 0,.slice none 0 0,.int .i64 0] 34)) (some r)) HG.o) _) hg2);clear hcc hR2 hS2 hg2 HS K2 HG hbl2 hc0;have hp32:decide ((p:Int)<32)=true:=by simp;omega
  go_wp2_with fail;refine(JX _ _).mono ?_;rintro e w' ⟨rfl,rfl⟩;have w1p:IntKind.i64.wrap (p:Int)=(p:Int):=by rw[Zaa];omega
  have w1k:IntKind.i64.wrap (k:Int)=(k:Int):=by rw[Zaa];omega
  have C3:=ZA (Zw w2.drew r S k _ (show YJ w2.drew r S (xs++rest)from HS2.o) (by rw[Za9,Hk.o];omega));have hne1:b2≠w1.heap.size:=by omega
  have hk47:k<=140737488355328:=by omega
  have hner:w1.heap.size≠r:=by omega
  go_upto_region 13 with fail
  go_cut [4] (λ_ wd=>∃A4 c4,wd.heap[w1.heap.size]?=some (.cells #[.int .u8 (4:Int),.int .i64 (p:Int),.slice A4 k c4,.int .i64 0] 34 (0,0))/\wd.ownsRow w2.heap.size 5 1 (.slice A4 k c4) k (ZV .u8 xs)/\YJ wd r S (rest)/\w.grownBy wd (some r)/\wd.heap[w.heap.size]?=some (.cells #[.int .u8 0,.int .i64 0,.slice none 0 0,.int .i64 0] 34 (0,0)))
  case first=>
   go_region_held3 (λw'=>w'.cell? ⟨b2,off2,none⟩=some (.int .u8 (p:Int))/\w'.cell? ⟨b2,off2+1,none⟩=some (.int .u8 (k:Int))) (((try go_split_ands);refine⟨?_,?_⟩<;>first|assumption|exact Xl (by assumption) hne1|exact ZZ (by assumption) hne1))
    (first
     |(go_at_call 114;refine C3.o.mono ?_;rintro e w3 ⟨A3,c3,rfl,hc3,hR3,hS3,hg3,hz3,_⟩;have s0:w3.cell? ⟨b2,off2,none⟩=some (.int .u8 (p:Int)):=(hg3.cell_far ⟨b2,off2,none⟩ (ZcO w2 _ h0) (λe=>hbr (by injection e))).trans h0;have s1:w3.cell? ⟨b2,off2+1,none⟩=some (.int .u8 (k:Int)):=(hg3.cell_far ⟨b2,off2+1,none⟩ (ZcO w2 _ h1) (λe=>hbr (by injection e))).trans h1;rw[Zbi Hk.o]at hR3;rw[Zam Hk.o]at hS3;have HR3:=ZA hR3;have HS3:=ZA hS3;have HG3:=ZA hg3;clear hR3 hS3 hg3)
     |(go_at_call 67;refine(ZAp A3 k c3 xs w3 Hk.o hk47 HR3.o).mono ?_;rintro e w4 ⟨A4,c4,rfl,hown4,hy4⟩;rw[Hk.o]at hown4 ⊢;have t0:=ZG hy4 s0;have t1:=ZG hy4 s1;have KC4:=ZA (ZJ (Zj (show w2.drew.heap[w1.heap.size]?=_ from K3.o) HG3.o hner) hy4);have u1:=ZE KC4.o 1;have u2:=ZE KC4.o 2;have f1:=ZF KC4.o 1;have f2:=ZF KC4.o 2;have Hown4:=ZA hown4;have Hy4:=ZA hy4;clear hown4 hy4))
   all_goals
    go_wp2_with fail
    go_meet
    have hG:=ZT (Zc w4 w1.heap.size 1 (.int .i64 (p:Int))) 2 (.slice A4 k c4);have hs3:w2.heap.size=w3.heap.size:=hz3;have hG3:w2.grownBy w3 (some r):=Yn HG3.o;have hG4:=Jm (World.grown_trans HGA.o hG3) Hy4.o;have hoo:w4.ownsRow w2.heap.size 5 1 (.slice A4 k c4) k (ZV .u8 xs):=Zg Hown4.o ZB;exact⟨A4,c4,ZU (ZU KC4.o 1 _) 2 _,hoo.kept hG (Je hoo ZB),(HS3.o.ext Hy4.o).grown hG (λk hk=>by injection hk with hk;omega),Xe hG4 hG ZB,YP (ZJ (YP K2'.o hG3 ZB) Hy4.o) hG ZB⟩
  case rest=>
   obtain⟨A4,c4,hC,ho,hSx,hGx,hR⟩:=hcut;have KC:=ZA hC;have Ho:=ZA ho;have HSx:=ZA hSx;have HGx:=ZA hGx;have KR:=ZA hR;have g0:=ZE KC.out 0;clear hC ho hSx hGx hR h0 h1;go_wp2_with fail
   go_meet
   refine⟨A4,c4,?_,KR.o,?_,HSx.o,HGx.o⟩
   ·rw[Hk.o];exact KC.out
   ·rw[Hk.o];exact Zg Ho.o ZB
 case rest=>
  obtain⟨A3,c3,hC,hR,ho,hS,hG⟩:=hcut;have KC:=ZA hC;have KR:=ZA hR;have Ho:=ZA ho;have HSc:=ZA hS;have HGc:=ZA hG;clear hC hR ho hS hG;have c0:=ZE KC.out 0;have c1:=ZE KC.out 1;have c2:=ZE KC.out 2;have c3:=ZE KC.out 3;have k0:=ZE KR.o 0;have k1:=ZE KR.o 1;have k2:=ZE KR.o 2;have k3:=ZE KR.o 3;have f0:=ZF KR.o 0;have f1:=ZF KR.o 1;have f2:=ZF KR.o 2;have f3:=ZF KR.o 3;go_wp2_with fail;refine ZcY (ZBq rfl rfl (ZAS KR.o _ _ _ _)) rfl ?_;exact⟨A3,_,rfl,Jv Ho.o ZB _ _ _ _,ZDl HSc.o ZB hSw _ _ _ _,ZBQ HGc.o (Zb0 _) _ _ _ _⟩
theorem ZQY (w:World)(r S p N:Nat)(xs rest:List Nat)(hSw:S<=w.heap.size)(hb:∀x ∈ xs,x<256)(hp:p<32)(hx:xs.length<=255)(hN:N<=4611686018427387903)(hbr':∀x ∈ rest,x<256)(h:YJ w r S (1::p::xs.length::(xs++(Zh N 8++rest)))): Calls Tryz.prog 159 #[.pointer (some ⟨r,0,none⟩)] w (ZH4 1 p xs N rest w r S):=by
 have hr:=h.lt;have H:=ZA (λo:Obj=>h.ext ((ZL.refl w).alloc o));clear h;have Hb:=ZA hb;clear hb;obtain⟨k,Hk⟩:=ZTy (xs.length);rw[Hk.o]at H hx;go_enter Tryz.func159,Tryz.ntmps159;go_wp2_with fail;refine(Zw _ r S 1 _ (H.o _) ZTv).mono ?_;rintro e w1 ⟨A,c,rfl,hc,hR,hS,hg,hz,hbl⟩;obtain⟨b,off,rfl,hc0⟩:=YU hR;have K2:=ZA (Zj (ZM w _) hg ZB);have HS:=ZA (show YJ w1 r S (p::k::(xs++(Zh N 8++rest)))from hS);have HG:=ZA hg;rw[ZcV]at hz;clear hR hS hg hbl
 go_upto_block 0 with fail
 go_cut [6] (λ_ wd=>ZFV 1 p xs N rest w r S w1.heap.size wd)
 case first=>
  go_wp2_with fail;refine(Zw _ r S 2 _ (HS.o.ext ((ZL.refl w1).alloc _)) ZTv).mono ?_;rintro e w2 ⟨A2,c2,rfl,hc2,hR2,hS2,hg2,hz2,hbl2⟩;rw[ZcV]at hz2;have HS2:=ZA (show YJ w2 r S (xs++(Zh N 8++rest))from hS2);obtain⟨b2,off2,rfl,hcc⟩:=hR2 (by simp[ZV]);have h0:w2.cell? ⟨b2,off2,none⟩=some (.int .u8 (p:Int)):=hcc 0 _ rfl;have h1:w2.cell? ⟨b2,off2+1,none⟩=some (.int .u8 (k:Int)):=hcc 1 _ rfl;obtain⟨hbr,hbS⟩:=hbl2 ZTv _ rfl;have hbr:b2≠r:=hbr;have hbS:b2<S:=hbS;have K3:=ZA (Zj (ZM w1 _) hg2 ZB);have K2':=ZA (Zj (ZR K2.o _) hg2 ZB);have HGA:=ZA (World.grown_trans (Zl (World.grown_trans (Z6 ((ZL.refl w).alloc (.cells #[.int .u8 0,.int .i64 0,.slice none 0 0,.int .i64 0] 34)) (some r)) HG.o) _) hg2);clear hcc hR2 hS2 hg2 HS K2 HG hbl2 hc0;have hp32:decide ((p:Int)<32)=true:=by simp;omega
  go_wp2_with fail;refine(JX _ _).mono ?_;rintro e w' ⟨rfl,rfl⟩;have w1p:IntKind.i64.wrap (p:Int)=(p:Int):=by rw[Zaa];omega
  have w1k:IntKind.i64.wrap (k:Int)=(k:Int):=by rw[Zaa];omega
  have C3:=ZA (Zw w2.drew r S k _ (show YJ w2.drew r S (xs++(Zh N 8++rest))from HS2.o) (by rw[Za9,Hk.o];omega));have hne1:b2≠w1.heap.size:=by omega
  have hk47:k<=140737488355328:=by omega
  have hner:w1.heap.size≠r:=by omega
  go_upto_region 13 with fail
  go_cut [4] (λ_ wd=>∃A4 c4,wd.heap[w1.heap.size]?=some (.cells #[.int .u8 (1:Int),.int .i64 (p:Int),.slice A4 k c4,.int .i64 0] 34 (0,0))/\wd.ownsRow w2.heap.size 5 1 (.slice A4 k c4) k (ZV .u8 xs)/\YJ wd r S (Zh N 8++rest)/\w.grownBy wd (some r)/\wd.heap[w.heap.size]?=some (.cells #[.int .u8 0,.int .i64 0,.slice none 0 0,.int .i64 0] 34 (0,0)))
  case first=>
   go_region_held3 (λw'=>w'.cell? ⟨b2,off2,none⟩=some (.int .u8 (p:Int))/\w'.cell? ⟨b2,off2+1,none⟩=some (.int .u8 (k:Int))) (((try go_split_ands);refine⟨?_,?_⟩<;>first|assumption|exact Xl (by assumption) hne1|exact ZZ (by assumption) hne1))
    (first
     |(go_at_call 114;refine C3.o.mono ?_;rintro e w3 ⟨A3,c3,rfl,hc3,hR3,hS3,hg3,hz3,_⟩;have s0:w3.cell? ⟨b2,off2,none⟩=some (.int .u8 (p:Int)):=(hg3.cell_far ⟨b2,off2,none⟩ (ZcO w2 _ h0) (λe=>hbr (by injection e))).trans h0;have s1:w3.cell? ⟨b2,off2+1,none⟩=some (.int .u8 (k:Int)):=(hg3.cell_far ⟨b2,off2+1,none⟩ (ZcO w2 _ h1) (λe=>hbr (by injection e))).trans h1;rw[Zbi Hk.o]at hR3;rw[Zam Hk.o]at hS3;have HR3:=ZA hR3;have HS3:=ZA hS3;have HG3:=ZA hg3;clear hR3 hS3 hg3)
     |(go_at_call 67;refine(ZAp A3 k c3 xs w3 Hk.o hk47 HR3.o).mono ?_;rintro e w4 ⟨A4,c4,rfl,hown4,hy4⟩;rw[Hk.o]at hown4 ⊢;have t0:=ZG hy4 s0;have t1:=ZG hy4 s1;have KC4:=ZA (ZJ (Zj (show w2.drew.heap[w1.heap.size]?=_ from K3.o) HG3.o hner) hy4);have u1:=ZE KC4.o 1;have u2:=ZE KC4.o 2;have f1:=ZF KC4.o 1;have f2:=ZF KC4.o 2;have Hown4:=ZA hown4;have Hy4:=ZA hy4;clear hown4 hy4))
   all_goals
    go_wp2_with fail
    go_meet
    have hG:=ZT (Zc w4 w1.heap.size 1 (.int .i64 (p:Int))) 2 (.slice A4 k c4);have hs3:w2.heap.size=w3.heap.size:=hz3;have hG3:w2.grownBy w3 (some r):=Yn HG3.o;have hG4:=Jm (World.grown_trans HGA.o hG3) Hy4.o;have hoo:w4.ownsRow w2.heap.size 5 1 (.slice A4 k c4) k (ZV .u8 xs):=Zg Hown4.o ZB;exact⟨A4,c4,ZU (ZU KC4.o 1 _) 2 _,hoo.kept hG (Je hoo ZB),(HS3.o.ext Hy4.o).grown hG (λk hk=>by injection hk with hk;omega),Xe hG4 hG ZB,YP (ZJ (YP K2'.o hG3 ZB) Hy4.o) hG ZB⟩
  case rest=>
   obtain⟨A4,c4,hC,ho,hSx,hGx,hR⟩:=hcut;have KC:=ZA hC;have Ho:=ZA ho;have HSx:=ZA hSx;have HGx:=ZA hGx;have KR:=ZA hR;have g0:=ZE KC.out 0;clear hC ho hSx hGx hR h0 h1;have hw8:(Zh N 8++rest).take 8=Zh N 8:=Zbi (Zs N 8);have hd8:(Zh N 8++rest).drop 8=rest:=Zam (Zs N 8);have hn8:Z4 (Zh N 8)=N:=by rw[Xx];exact Zb9 (Zb4 hN (by decide))
   have hbt:∀x ∈ Zh N 8++rest,x<256:=λx hx=>by
    rcases ZbI.1 hx with hx|hx
    ·exact Xf _ _ x hx
    ·exact hbr' x hx
   have C5:=ZA (ZCR wc r S (Zh N 8++rest) hbt HSx.o);clear hbt;go_wp2_with fail;refine C5.o.mono ?_;rintro e w5 ⟨hg5,hz5,hh⟩;rw[hw8,hd8,hn8]at hh;rcases hh with⟨_,_,rfl,hS5⟩|⟨hno,_⟩
   ·have KC5:=ZA (YP KC.out hg5 ZB);have HS5:=ZA hS5;have HG5:=ZA hg5;have u3:=ZE KC5.o 3;have f3:=ZF KC5.o 3;clear hS5 hg5 hw8 hd8 hn8 g0 C5;go_wp2_with fail
    go_meet
    have hG:=Zc w5 w1.heap.size 3 (.int .i64 (N:Int));have hoo:=Ho.o.kept HG5.o (Je Ho.o ZB);refine⟨A4,c4,?_,YP (YP KR.o HG5.o ZB) hG ZB,?_,HS5.o.grown hG (λk hk=>by injection hk with hk;omega),Xe (World.grown_trans HGx.o HG5.o) hG ZB⟩
    ·rw[Hk.o];exact ZU KC5.o 3 _
    ·rw[Hk.o];exact Zg (hoo.kept hG (Je hoo ZB)) ZB
   ·exact absurd ⟨by rw[Za9,Zs];omega,hN⟩ hno
 case rest=>
  obtain⟨A3,c3,hC,hR,ho,hS,hG⟩:=hcut;have KC:=ZA hC;have KR:=ZA hR;have Ho:=ZA ho;have HSc:=ZA hS;have HGc:=ZA hG;clear hC hR ho hS hG;have c0:=ZE KC.out 0;have c1:=ZE KC.out 1;have c2:=ZE KC.out 2;have c3:=ZE KC.out 3;have k0:=ZE KR.o 0;have k1:=ZE KR.o 1;have k2:=ZE KR.o 2;have k3:=ZE KR.o 3;have f0:=ZF KR.o 0;have f1:=ZF KR.o 1;have f2:=ZF KR.o 2;have f3:=ZF KR.o 3;go_wp2_with fail;refine ZcY (ZBq rfl rfl (ZAS KR.o _ _ _ _)) rfl ?_;exact⟨A3,_,rfl,Jv Ho.o ZB _ _ _ _,ZDl HSc.o ZB hSw _ _ _ _,ZBQ HGc.o (Zb0 _) _ _ _ _⟩
theorem ZGB {p:Prop}{w:World}(h:p):wpAny Tryz.prog .text #[] (λ_ _ _=>True) 0 #[] {tmps:=#[],defers:=[]} w->p:=λ_=>h
theorem ZH0 (w:World)(r S:Nat)(z:List Nat)(_hSw:S<=w.heap.size)(hlen:z.length<2)(h:YJ w r S (1::z)): Calls Tryz.prog 159 #[.pointer (some ⟨r,0,none⟩)] w (Js w r):=by
 have hr:=h.lt;have H:=ZA (λo:Obj=>h.ext ((ZL.refl w).alloc o));clear h;go_enter Tryz.func159,Tryz.ntmps159;go_wp2_with fail;refine(Zw _ r S 1 _ (H.o _) ZTv).mono ?_;rintro e w1 ⟨A,c,rfl,hc,hR,hS,hg,hz,hbl⟩;obtain⟨b,off,rfl,hc0⟩:=YU hR;have HS:=ZA (show YJ w1 r S (z)from hS);have HG:=ZA hg;rw[ZcV]at hz;clear hR hS hg hbl;have HGB:=ZA (λo:Obj=>Zl (World.grown_trans (Z6 ((ZL.refl w).alloc (.cells #[.int .u8 0,.int .i64 0,.slice none 0 0,.int .i64 0] 34)) (some r)) HG.o) o);go_wp2_with fail;refine(ZAv _ r S 2 _ (HS.o.ext ((ZL.refl w1).alloc _)) hlen).mono ?_;rintro e w' ⟨rfl,rfl⟩;exact⟨rfl,rfl,HGB.o _⟩
theorem ZOb (w:World)(r S:Nat)(p k:Nat)(t:List Nat)(_hSw:S<=w.heap.size)(hp:32<=p)(h:YJ w r S (1::p::k::t)): Calls Tryz.prog 159 #[.pointer (some ⟨r,0,none⟩)] w (Js w r):=by
 have hr:=h.lt;have H:=ZA (λo:Obj=>h.ext ((ZL.refl w).alloc o));clear h;go_enter Tryz.func159,Tryz.ntmps159;go_wp2_with fail;refine(Zw _ r S 1 _ (H.o _) ZTv).mono ?_;rintro e w1 ⟨A,c,rfl,hc,hR,hS,hg,hz,hbl⟩;obtain⟨b,off,rfl,hc0⟩:=YU hR;have HS:=ZA (show YJ w1 r S (p::k::t)from hS);have HG:=ZA hg;rw[ZcV]at hz;clear hR hS hg hbl;have HGB:=ZA (λo:Obj=>Zl (World.grown_trans (Z6 ((ZL.refl w).alloc (.cells #[.int .u8 0,.int .i64 0,.slice none 0 0,.int .i64 0] 34)) (some r)) HG.o) o);go_wp2_with fail;refine(Zw _ r S 2 _ (HS.o.ext ((ZL.refl w1).alloc _)) ZTv).mono ?_;rintro e w2 ⟨A2,c2,rfl,hc2,hR2,hS2,hg2,hz2,hbl2⟩;rw[ZcV]at hz2;have HS2:=ZA (show YJ w2 r S (t)from hS2);obtain⟨b2,off2,rfl,hcc⟩:=hR2 (by simp[ZV]);have h0:w2.cell? ⟨b2,off2,none⟩=some (.int .u8 (p:Int)):=hcc 0 _ rfl;have h1:w2.cell? ⟨b2,off2+1,none⟩=some (.int .u8 (k:Int)):=hcc 1 _ rfl;obtain⟨hbr,hbS⟩:=hbl2 ZTv _ rfl;have hbr:b2≠r:=hbr;have hbS:b2<S:=hbS;have HGA:=ZA (World.grown_trans (HGB.o _) hg2);clear hcc hR2 hS2 hg2 HS HG hbl2 hc0;have hp32:decide ((p:Int)<32)=false:=by simp;omega
 go_wp2_with fail;refine(ZBZ _ _).mono ?_;rintro e w' ⟨rfl,rfl⟩;exact⟨rfl,rfl,HGA.o⟩
theorem ZOd (w:World)(r S:Nat)(p k:Nat)(t:List Nat)(_hSw:S<=w.heap.size)(hp:p<32)(hk:k<256)(hlen:t.length<k)(h:YJ w r S (1::p::k::t)): Calls Tryz.prog 159 #[.pointer (some ⟨r,0,none⟩)] w (Js w r):=by
 have hr:=h.lt;have H:=ZA (λo:Obj=>h.ext ((ZL.refl w).alloc o));clear h;go_enter Tryz.func159,Tryz.ntmps159;go_wp2_with fail;refine(Zw _ r S 1 _ (H.o _) ZTv).mono ?_;rintro e w1 ⟨A,c,rfl,hc,hR,hS,hg,hz,hbl⟩;obtain⟨b,off,rfl,hc0⟩:=YU hR;have HS:=ZA (show YJ w1 r S (p::k::t)from hS);have HG:=ZA hg;rw[ZcV]at hz;clear hR hS hg hbl;have HGB:=ZA (λo:Obj=>Zl (World.grown_trans (Z6 ((ZL.refl w).alloc (.cells #[.int .u8 0,.int .i64 0,.slice none 0 0,.int .i64 0] 34)) (some r)) HG.o) o);go_wp2_with fail;refine(Zw _ r S 2 _ (HS.o.ext ((ZL.refl w1).alloc _)) ZTv).mono ?_;rintro e w2 ⟨A2,c2,rfl,hc2,hR2,hS2,hg2,hz2,hbl2⟩;rw[ZcV]at hz2;have HS2:=ZA (show YJ w2 r S (t)from hS2);obtain⟨b2,off2,rfl,hcc⟩:=hR2 (by simp[ZV]);have h0:w2.cell? ⟨b2,off2,none⟩=some (.int .u8 (p:Int)):=hcc 0 _ rfl;have h1:w2.cell? ⟨b2,off2+1,none⟩=some (.int .u8 (k:Int)):=hcc 1 _ rfl;obtain⟨hbr,hbS⟩:=hbl2 ZTv _ rfl;have hbr:b2≠r:=hbr;have hbS:b2<S:=hbS;have HGA:=ZA (World.grown_trans (HGB.o _) hg2);clear hcc hR2 hS2 hg2 HS HG hbl2 hc0;have hp32:decide ((p:Int)<32)=true:=by simp;omega
 go_wp2_with fail;refine(JX _ _).mono ?_;rintro e w' ⟨rfl,rfl⟩;have C3:=ZA (ZAv w2.drew r S k _ (show YJ w2.drew r S t from HS2.o) hlen);have w1p:IntKind.i64.wrap (p:Int)=(p:Int):=by rw[Zaa];omega
 have w1k:IntKind.i64.wrap (k:Int)=(k:Int):=by rw[Zaa];omega
 have hfin:w.grownBy w2.drew (some r):=Jh HGA.o;go_upto_region 13 with fail
 go_region_with (go_at_call 114;refine C3.o.mono ?_;rintro e w3 ⟨rfl,rfl⟩;refine ZGB (w:=w2) ⟨rfl,rfl,hfin⟩ ?_)
 all_goals exact trivial
theorem ZHz (w:World)(r S:Nat)(z:List Nat)(_hSw:S<=w.heap.size)(hlen:z.length<2)(h:YJ w r S (2::z)): Calls Tryz.prog 159 #[.pointer (some ⟨r,0,none⟩)] w (Js w r):=by
 have hr:=h.lt;have H:=ZA (λo:Obj=>h.ext ((ZL.refl w).alloc o));clear h;go_enter Tryz.func159,Tryz.ntmps159;go_wp2_with fail;refine(Zw _ r S 1 _ (H.o _) ZTv).mono ?_;rintro e w1 ⟨A,c,rfl,hc,hR,hS,hg,hz,hbl⟩;obtain⟨b,off,rfl,hc0⟩:=YU hR;have HS:=ZA (show YJ w1 r S (z)from hS);have HG:=ZA hg;rw[ZcV]at hz;clear hR hS hg hbl;have HGB:=ZA (λo:Obj=>Zl (World.grown_trans (Z6 ((ZL.refl w).alloc (.cells #[.int .u8 0,.int .i64 0,.slice none 0 0,.int .i64 0] 34)) (some r)) HG.o) o);go_wp2_with fail;refine(ZAv _ r S 2 _ (HS.o.ext ((ZL.refl w1).alloc _)) hlen).mono ?_;rintro e w' ⟨rfl,rfl⟩;exact⟨rfl,rfl,HGB.o _⟩
theorem ZOZ (w:World)(r S:Nat)(p k:Nat)(t:List Nat)(_hSw:S<=w.heap.size)(hp:32<=p)(h:YJ w r S (2::p::k::t)): Calls Tryz.prog 159 #[.pointer (some ⟨r,0,none⟩)] w (Js w r):=by
 have hr:=h.lt;have H:=ZA (λo:Obj=>h.ext ((ZL.refl w).alloc o));clear h;go_enter Tryz.func159,Tryz.ntmps159;go_wp2_with fail;refine(Zw _ r S 1 _ (H.o _) ZTv).mono ?_;rintro e w1 ⟨A,c,rfl,hc,hR,hS,hg,hz,hbl⟩;obtain⟨b,off,rfl,hc0⟩:=YU hR;have HS:=ZA (show YJ w1 r S (p::k::t)from hS);have HG:=ZA hg;rw[ZcV]at hz;clear hR hS hg hbl;have HGB:=ZA (λo:Obj=>Zl (World.grown_trans (Z6 ((ZL.refl w).alloc (.cells #[.int .u8 0,.int .i64 0,.slice none 0 0,.int .i64 0] 34)) (some r)) HG.o) o);go_wp2_with fail;refine(Zw _ r S 2 _ (HS.o.ext ((ZL.refl w1).alloc _)) ZTv).mono ?_;rintro e w2 ⟨A2,c2,rfl,hc2,hR2,hS2,hg2,hz2,hbl2⟩;rw[ZcV]at hz2;have HS2:=ZA (show YJ w2 r S (t)from hS2);obtain⟨b2,off2,rfl,hcc⟩:=hR2 (by simp[ZV]);have h0:w2.cell? ⟨b2,off2,none⟩=some (.int .u8 (p:Int)):=hcc 0 _ rfl;have h1:w2.cell? ⟨b2,off2+1,none⟩=some (.int .u8 (k:Int)):=hcc 1 _ rfl;obtain⟨hbr,hbS⟩:=hbl2 ZTv _ rfl;have hbr:b2≠r:=hbr;have hbS:b2<S:=hbS;have HGA:=ZA (World.grown_trans (HGB.o _) hg2);clear hcc hR2 hS2 hg2 HS HG hbl2 hc0;have hp32:decide ((p:Int)<32)=false:=by simp;omega
 go_wp2_with fail;refine(ZBZ _ _).mono ?_;rintro e w' ⟨rfl,rfl⟩;exact⟨rfl,rfl,HGA.o⟩
theorem ZOa (w:World)(r S:Nat)(p k:Nat)(t:List Nat)(_hSw:S<=w.heap.size)(hp:p<32)(hk:k<256)(hlen:t.length<k)(h:YJ w r S (2::p::k::t)): Calls Tryz.prog 159 #[.pointer (some ⟨r,0,none⟩)] w (Js w r):=by
 have hr:=h.lt;have H:=ZA (λo:Obj=>h.ext ((ZL.refl w).alloc o));clear h;go_enter Tryz.func159,Tryz.ntmps159;go_wp2_with fail;refine(Zw _ r S 1 _ (H.o _) ZTv).mono ?_;rintro e w1 ⟨A,c,rfl,hc,hR,hS,hg,hz,hbl⟩;obtain⟨b,off,rfl,hc0⟩:=YU hR;have HS:=ZA (show YJ w1 r S (p::k::t)from hS);have HG:=ZA hg;rw[ZcV]at hz;clear hR hS hg hbl;have HGB:=ZA (λo:Obj=>Zl (World.grown_trans (Z6 ((ZL.refl w).alloc (.cells #[.int .u8 0,.int .i64 0,.slice none 0 0,.int .i64 0] 34)) (some r)) HG.o) o);go_wp2_with fail;refine(Zw _ r S 2 _ (HS.o.ext ((ZL.refl w1).alloc _)) ZTv).mono ?_;rintro e w2 ⟨A2,c2,rfl,hc2,hR2,hS2,hg2,hz2,hbl2⟩;rw[ZcV]at hz2;have HS2:=ZA (show YJ w2 r S (t)from hS2);obtain⟨b2,off2,rfl,hcc⟩:=hR2 (by simp[ZV]);have h0:w2.cell? ⟨b2,off2,none⟩=some (.int .u8 (p:Int)):=hcc 0 _ rfl;have h1:w2.cell? ⟨b2,off2+1,none⟩=some (.int .u8 (k:Int)):=hcc 1 _ rfl;obtain⟨hbr,hbS⟩:=hbl2 ZTv _ rfl;have hbr:b2≠r:=hbr;have hbS:b2<S:=hbS;have HGA:=ZA (World.grown_trans (HGB.o _) hg2);clear hcc hR2 hS2 hg2 HS HG hbl2 hc0;have hp32:decide ((p:Int)<32)=true:=by simp;omega
 go_wp2_with fail;refine(JX _ _).mono ?_;rintro e w' ⟨rfl,rfl⟩;have C3:=ZA (ZAv w2.drew r S k _ (show YJ w2.drew r S t from HS2.o) hlen);have w1p:IntKind.i64.wrap (p:Int)=(p:Int):=by rw[Zaa];omega
 have w1k:IntKind.i64.wrap (k:Int)=(k:Int):=by rw[Zaa];omega
 have hfin:w.grownBy w2.drew (some r):=Jh HGA.o;go_upto_region 13 with fail
 go_region_with (go_at_call 114;refine C3.o.mono ?_;rintro e w3 ⟨rfl,rfl⟩;refine ZGB (w:=w2) ⟨rfl,rfl,hfin⟩ ?_)
 all_goals exact trivial
theorem ZHy (w:World)(r S:Nat)(z:List Nat)(_hSw:S<=w.heap.size)(hlen:z.length<2)(h:YJ w r S (4::z)): Calls Tryz.prog 159 #[.pointer (some ⟨r,0,none⟩)] w (Js w r):=by
 have hr:=h.lt;have H:=ZA (λo:Obj=>h.ext ((ZL.refl w).alloc o));clear h;go_enter Tryz.func159,Tryz.ntmps159;go_wp2_with fail;refine(Zw _ r S 1 _ (H.o _) ZTv).mono ?_;rintro e w1 ⟨A,c,rfl,hc,hR,hS,hg,hz,hbl⟩;obtain⟨b,off,rfl,hc0⟩:=YU hR;have HS:=ZA (show YJ w1 r S (z)from hS);have HG:=ZA hg;rw[ZcV]at hz;clear hR hS hg hbl;have HGB:=ZA (λo:Obj=>Zl (World.grown_trans (Z6 ((ZL.refl w).alloc (.cells #[.int .u8 0,.int .i64 0,.slice none 0 0,.int .i64 0] 34)) (some r)) HG.o) o);go_wp2_with fail;refine(ZAv _ r S 2 _ (HS.o.ext ((ZL.refl w1).alloc _)) hlen).mono ?_;rintro e w' ⟨rfl,rfl⟩;exact⟨rfl,rfl,HGB.o _⟩
theorem ZOW (w:World)(r S:Nat)(p k:Nat)(t:List Nat)(_hSw:S<=w.heap.size)(hp:32<=p)(h:YJ w r S (4::p::k::t)): Calls Tryz.prog 159 #[.pointer (some ⟨r,0,none⟩)] w (Js w r):=by
 have hr:=h.lt;have H:=ZA (λo:Obj=>h.ext ((ZL.refl w).alloc o));clear h;go_enter Tryz.func159,Tryz.ntmps159;go_wp2_with fail;refine(Zw _ r S 1 _ (H.o _) ZTv).mono ?_;rintro e w1 ⟨A,c,rfl,hc,hR,hS,hg,hz,hbl⟩;obtain⟨b,off,rfl,hc0⟩:=YU hR;have HS:=ZA (show YJ w1 r S (p::k::t)from hS);have HG:=ZA hg;rw[ZcV]at hz;clear hR hS hg hbl;have HGB:=ZA (λo:Obj=>Zl (World.grown_trans (Z6 ((ZL.refl w).alloc (.cells #[.int .u8 0,.int .i64 0,.slice none 0 0,.int .i64 0] 34)) (some r)) HG.o) o);go_wp2_with fail;refine(Zw _ r S 2 _ (HS.o.ext ((ZL.refl w1).alloc _)) ZTv).mono ?_;rintro e w2 ⟨A2,c2,rfl,hc2,hR2,hS2,hg2,hz2,hbl2⟩;rw[ZcV]at hz2;have HS2:=ZA (show YJ w2 r S (t)from hS2);obtain⟨b2,off2,rfl,hcc⟩:=hR2 (by simp[ZV]);have h0:w2.cell? ⟨b2,off2,none⟩=some (.int .u8 (p:Int)):=hcc 0 _ rfl;have h1:w2.cell? ⟨b2,off2+1,none⟩=some (.int .u8 (k:Int)):=hcc 1 _ rfl;obtain⟨hbr,hbS⟩:=hbl2 ZTv _ rfl;have hbr:b2≠r:=hbr;have hbS:b2<S:=hbS;have HGA:=ZA (World.grown_trans (HGB.o _) hg2);clear hcc hR2 hS2 hg2 HS HG hbl2 hc0;have hp32:decide ((p:Int)<32)=false:=by simp;omega
 go_wp2_with fail;refine(ZBZ _ _).mono ?_;rintro e w' ⟨rfl,rfl⟩;exact⟨rfl,rfl,HGA.o⟩
theorem ZOX (w:World)(r S:Nat)(p k:Nat)(t:List Nat)(_hSw:S<=w.heap.size)(hp:p<32)(hk:k<256)(hlen:t.length<k)(h:YJ w r S (4::p::k::t)): Calls Tryz.prog 159 #[.pointer (some ⟨r,0,none⟩)] w (Js w r):=by
 have hr:=h.lt;have H:=ZA (λo:Obj=>h.ext ((ZL.refl w).alloc o));clear h;go_enter Tryz.func159,Tryz.ntmps159;go_wp2_with fail;refine(Zw _ r S 1 _ (H.o _) ZTv).mono ?_;rintro e w1 ⟨A,c,rfl,hc,hR,hS,hg,hz,hbl⟩;obtain⟨b,off,rfl,hc0⟩:=YU hR;have HS:=ZA (show YJ w1 r S (p::k::t)from hS);have HG:=ZA hg;rw[ZcV]at hz;clear hR hS hg hbl;have HGB:=ZA (λo:Obj=>Zl (World.grown_trans (Z6 ((ZL.refl w).alloc (.cells #[.int .u8 0,.int .i64 0,.slice none 0 0,.int .i64 0] 34)) (some r)) HG.o) o);go_wp2_with fail;refine(Zw _ r S 2 _ (HS.o.ext ((ZL.refl w1).alloc _)) ZTv).mono ?_;rintro e w2 ⟨A2,c2,rfl,hc2,hR2,hS2,hg2,hz2,hbl2⟩;rw[ZcV]at hz2;have HS2:=ZA (show YJ w2 r S (t)from hS2);obtain⟨b2,off2,rfl,hcc⟩:=hR2 (by simp[ZV]);have h0:w2.cell? ⟨b2,off2,none⟩=some (.int .u8 (p:Int)):=hcc 0 _ rfl;have h1:w2.cell? ⟨b2,off2+1,none⟩=some (.int .u8 (k:Int)):=hcc 1 _ rfl;obtain⟨hbr,hbS⟩:=hbl2 ZTv _ rfl;have hbr:b2≠r:=hbr;have hbS:b2<S:=hbS;have HGA:=ZA (World.grown_trans (HGB.o _) hg2);clear hcc hR2 hS2 hg2 HS HG hbl2 hc0;have hp32:decide ((p:Int)<32)=true:=by simp;omega
 go_wp2_with fail;refine(JX _ _).mono ?_;rintro e w' ⟨rfl,rfl⟩;have C3:=ZA (ZAv w2.drew r S k _ (show YJ w2.drew r S t from HS2.o) hlen);have w1p:IntKind.i64.wrap (p:Int)=(p:Int):=by rw[Zaa];omega
 have w1k:IntKind.i64.wrap (k:Int)=(k:Int):=by rw[Zaa];omega
 have hfin:w.grownBy w2.drew (some r):=Jh HGA.o;go_upto_region 13 with fail
 go_region_with (go_at_call 114;refine C3.o.mono ?_;rintro e w3 ⟨rfl,rfl⟩;refine ZGB (w:=w2) ⟨rfl,rfl,hfin⟩ ?_)
 all_goals exact trivial
theorem ZOc (w:World)(r S:Nat)(p k:Nat)(xs u:List Nat)(_hSw:S<=w.heap.size)(hp:p<32)(hk:k<256)(hxk:xs.length=k)(hub:∀x ∈ u,x<256)(hno:¬(8<=u.length/\Z4 (u.take 8)<=4611686018427387903))(h:YJ w r S (1::p::k::(xs++u))): Calls Tryz.prog 159 #[.pointer (some ⟨r,0,none⟩)] w (Js w r):=by
 have hr:=h.lt;have H:=ZA (λo:Obj=>h.ext ((ZL.refl w).alloc o));clear h;have Hk:=ZA hxk;have Hub:=ZA hub;have Hno:=ZA hno;clear hxk hub hno;go_enter Tryz.func159,Tryz.ntmps159;go_wp2_with fail;refine(Zw _ r S 1 _ (H.o _) ZTv).mono ?_;rintro e w1 ⟨A,c,rfl,hc,hR,hS,hg,hz,hbl⟩;obtain⟨b,off,rfl,hc0⟩:=YU hR;have HS:=ZA (show YJ w1 r S (p::k::(xs++u))from hS);have HG:=ZA hg;rw[ZcV]at hz;clear hR hS hg hbl;have HGB:=ZA (λo:Obj=>Zl (World.grown_trans (Z6 ((ZL.refl w).alloc (.cells #[.int .u8 0,.int .i64 0,.slice none 0 0,.int .i64 0] 34)) (some r)) HG.o) o);go_wp2_with fail;refine(Zw _ r S 2 _ (HS.o.ext ((ZL.refl w1).alloc _)) ZTv).mono ?_;rintro e w2 ⟨A2,c2,rfl,hc2,hR2,hS2,hg2,hz2,hbl2⟩;rw[ZcV]at hz2;have HS2:=ZA (show YJ w2 r S (xs++u)from hS2);obtain⟨b2,off2,rfl,hcc⟩:=hR2 (by simp[ZV]);have h0:w2.cell? ⟨b2,off2,none⟩=some (.int .u8 (p:Int)):=hcc 0 _ rfl;have h1:w2.cell? ⟨b2,off2+1,none⟩=some (.int .u8 (k:Int)):=hcc 1 _ rfl;obtain⟨hbr,hbS⟩:=hbl2 ZTv _ rfl;have hbr:b2≠r:=hbr;have hbS:b2<S:=hbS;have HGA:=ZA (World.grown_trans (HGB.o _) hg2);have K3:=ZA (Zj (ZM w1 _) hg2 ZB);clear hcc hR2 hS2 hg2 HS HG hbl2 hc0;have hp32:decide ((p:Int)<32)=true:=by simp;omega
 go_wp2_with fail;refine(JX _ _).mono ?_;rintro e w' ⟨rfl,rfl⟩;have hne1:b2≠w1.heap.size:=by omega
 have hk47:k<=140737488355328:=by omega
 have hner:w1.heap.size≠r:=by omega
 have w1p:IntKind.i64.wrap (p:Int)=(p:Int):=by rw[Zaa];omega
 have w1k:IntKind.i64.wrap (k:Int)=(k:Int):=by rw[Zaa];omega
 have C3:=ZA (Zw w2.drew r S k _ (show YJ w2.drew r S (xs++u)from HS2.o) (by rw[Za9,Hk.o];omega));go_upto_region 13 with fail
 go_cut [4] (λ_ wd=>(∃A4 c4,wd.heap[w1.heap.size]?=some (.cells #[.int .u8 1,.int .i64 (p:Int),.slice A4 k c4,.int .i64 0] 34 (0,0)))/\YJ wd r S u/\w.grownBy wd (some r))
 case first=>
  go_region_held3 (λw'=>w'.cell? ⟨b2,off2,none⟩=some (.int .u8 (p:Int))/\w'.cell? ⟨b2,off2+1,none⟩=some (.int .u8 (k:Int))) (((try go_split_ands);refine⟨?_,?_⟩<;>first|assumption|exact Xl (by assumption) hne1|exact ZZ (by assumption) hne1))
   (first
    |(go_at_call 114;refine C3.o.mono ?_;rintro e w3 ⟨A3,c3,rfl,hc3,hR3,hS3,hg3,hz3,_⟩;have s0:w3.cell? ⟨b2,off2,none⟩=some (.int .u8 (p:Int)):=(hg3.cell_far ⟨b2,off2,none⟩ (ZcO w2 _ h0) (λe=>hbr (by injection e))).trans h0;have s1:w3.cell? ⟨b2,off2+1,none⟩=some (.int .u8 (k:Int)):=(hg3.cell_far ⟨b2,off2+1,none⟩ (ZcO w2 _ h1) (λe=>hbr (by injection e))).trans h1;rw[Zbi Hk.o]at hR3;rw[Zam Hk.o]at hS3;have HR3:=ZA hR3;have HS3:=ZA hS3;have HG3:=ZA hg3;clear hR3 hS3 hg3)
    |(go_at_call 67;refine(ZAp A3 k c3 xs w3 Hk.o hk47 HR3.o).mono ?_;rintro e w4 ⟨A4,c4,rfl,hown4,hy4⟩;rw[Hk.o]at hown4 ⊢;have t0:=ZG hy4 s0;have t1:=ZG hy4 s1;have KC4:=ZA (ZJ (Zj (show w2.drew.heap[w1.heap.size]?=_ from K3.o) HG3.o hner) hy4);have u1:=ZE KC4.o 1;have u2:=ZE KC4.o 2;have f1:=ZF KC4.o 1;have f2:=ZF KC4.o 2;have Hy4:=ZA hy4;clear hown4 hy4))
  all_goals
   go_wp2_with fail
   go_meet
   have hG:=ZT (Zc w4 w1.heap.size 1 (.int .i64 (p:Int))) 2 (.slice A4 k c4);have hG4:=Jm (World.grown_trans HGA.o (Yn HG3.o)) Hy4.o;exact⟨⟨A4,c4,ZU (ZU KC4.o 1 _) 2 _⟩,(HS3.o.ext Hy4.o).grown hG (λk hk=>by injection hk with hk;omega),Xe hG4 hG ZB⟩
 case rest=>
  obtain⟨⟨A4,c4,hC⟩,hSx,hGx⟩:=hcut;have KC:=ZA hC;have HSx:=ZA hSx;have HGx:=ZA hGx;have g0:=ZE KC.out 0;clear hC hSx hGx h0 h1;have C5:=ZA (ZCR wc r S u Hub.o HSx.o);go_wp2_with fail;refine C5.o.mono ?_;rintro e w5 ⟨hg5,hz5,hh⟩;rcases hh with⟨h5,h6,_,_⟩|⟨_,rfl⟩
  ·exact absurd ⟨h5,h6⟩ Hno.o
  ·exact⟨rfl,rfl,World.grown_trans HGx.o hg5⟩
def ZAg (zs:List Nat)(op p:Nat)(xs:List Nat)(N:Nat)(rest:List Nat):Prop:=ZA6 op p xs N/\zs=Yt op p xs N++rest/\(op=3->rest=[])
theorem ZFr (p:Nat)(xs:List Nat)(N:Nat):Yt 1 p xs N=1::p::xs.length::(xs++Zh N 8):=rfl
theorem ZCV (p:Nat)(xs:List Nat)(N:Nat):Yt 2 p xs N=2::p::xs.length::xs:=by simp[Yt]
theorem ZCU (p:Nat)(xs:List Nat)(N:Nat):Yt 4 p xs N=4::p::xs.length::xs:=by simp[Yt]
theorem ZPX {p N:Nat}{xs:List Nat}(h1:p<32)(h2:xs.length<=255)(h3:N<=4611686018427387903)(hb:∀x ∈ xs,x<256):ZA6 1 p xs N:=⟨⟨by omega,by omega,λ_=>⟨h1,h2⟩,λ_=>h3,λh=>by omega⟩,hb,λh=>by omega,λh=>by omega⟩
theorem ZIX {o p:Nat}{xs:List Nat}(ho:o=2\/o=4)(h1:p<32)(h2:xs.length<=255)(hb:∀x ∈ xs,x<256):ZA6 o p xs 0:=⟨⟨by omega,by omega,λ_=>⟨h1,h2⟩,λh=>by omega,λh=>by omega⟩,hb,λh=>by omega,λ_=>rfl⟩
theorem ZIW {o:Nat}(ho:o=5\/o=6):ZA6 o 0 [] 0:=⟨⟨by omega,by omega,λh=>by omega,λh=>by omega,λh=>by omega⟩,by simp,λ_=>⟨rfl,rfl,rfl⟩,λ_=>rfl⟩
theorem ZBA {o:Nat}(ho:o=5\/o=6)(p:Nat)(xs:List Nat)(N:Nat):Yt o p xs N=[o]:=by unfold Yt;rw[Zcf ZB,Zcg ho]
theorem ZFq (p:Nat)(xs:List Nat)(N:Nat):Yt 3 p xs N=3::Y4 p xs N:=rfl
theorem ZOV (zs:List Nat)(op p:Nat)(xs:List Nat)(N:Nat)(rest:List Nat)(hb:∀x ∈ zs,x<256)(h:ZAg zs op p xs N rest)(w:World)(r S:Nat)(hS:S<=w.heap.size)(hw:YJ w r S zs): Calls Tryz.prog 159 #[.pointer (some ⟨r,0,none⟩)] w (ZH4 op p xs N rest w r S):=by
 obtain⟨⟨⟨h1,h2,h3,h4,h5⟩,hxb,h6,h7⟩,rfl,h8⟩:=h;have hops:op=1\/op=2\/op=3\/op=4\/(op=5\/op=6):=by omega
 rcases hops with rfl|rfl|rfl|rfl|h56
 ·obtain⟨hp,hx⟩:=h3 ZB;rw[ZFr]at hw hb;refine ZQY w r S p N xs rest hS hxb hp hx (h4 rfl) (λx hx=>hb x (by simp[hx])) ?_;simpa using hw
 ·obtain⟨hp,hx⟩:=h3 ZB;obtain rfl:=h7 (.inl rfl);rw[ZCV]at hw;exact ZQX w r S p xs rest hS hxb hp hx (by simpa using hw)
 ·obtain⟨hp,hx⟩:=h3 ZB;obtain rfl:=h8 rfl;rw[ZFq]at hw;obtain⟨k1,k2⟩:=h5 rfl;exact ZQW w r S p N xs hS hxb hp k1 k2 hx (by simpa using hw)
 ·obtain⟨hp,hx⟩:=h3 ZB;obtain rfl:=h7 (.inr rfl);rw[ZCU]at hw;exact ZQV w r S p xs rest hS hxb hp hx (by simpa using hw)
 ·obtain⟨rfl,rfl,rfl⟩:=h6 ZB;rw[ZBA h56]at hw;exact ZSt w r S op hS h56 rest (by simpa using hw)
theorem ZL8 (zs:List Nat)(hb:∀x ∈ zs,x<256)(hl:zs.length<=4096)(h:¬∃op p xs N rest,ZAg zs op p xs N rest)(w:World)(r S:Nat)(hS:S<=w.heap.size)(hw:YJ w r S zs): Calls Tryz.prog 159 #[.pointer (some ⟨r,0,none⟩)] w (Js w r):=by
 match zs,hb,hl,h,hw with
 |[],_,_,_,hw=>exact ZQU w r S hw
 |o::z,hb,hl,h,hw=>
  have hzb:∀x ∈ z,x<256:=λx hx=>hb x (by simp[hx]);by_cases ho:o=0\/7<=o
  ·exact ZRs w r S o hS ho z hw
  by_cases h56:o=5\/o=6
  ·exact absurd ⟨o,0,[],0,z,ZIW h56,by rw[ZBA h56];rfl,λh=>by omega⟩ h
  by_cases h3:o=3
  ·subst h3;refine ZOY w r S z hS hzb (by simp at hl;omega) (λht=>h ?_) hw;obtain⟨p,s,xs,hp,h1,h2,hx,hxb,rfl⟩:=ht;exact⟨3,p,xs,s,[],⟨⟨by omega,by omega,λ_=>⟨hp,hx⟩,λh=>by omega,λ_=>⟨h1,h2⟩⟩,hxb,λh=>by omega,λh=>by omega⟩,by rw[ZFq];simp,λ_=>rfl⟩
  have h124:o=1\/o=2\/o=4:=by omega
  match z,hzb,hl,h,hw with
  |[],_,_,_,hw=>
   rcases h124 with rfl|rfl|rfl
   ·exact ZH0 w r S [] hS (by decide) hw
   ·exact ZHz w r S [] hS (by decide) hw
   ·exact ZHy w r S [] hS (by decide) hw
  |[a],_,_,_,hw=>
   rcases h124 with rfl|rfl|rfl
   ·exact ZH0 w r S [a] hS ZTv hw
   ·exact ZHz w r S [a] hS ZTv hw
   ·exact ZHy w r S [a] hS ZTv hw
  |p::k::t,hzb,hl,h,hw=>
   have hk:k<256:=hzb k ZTv;have htb:∀x ∈ t,x<256:=λx hx=>hzb x (by simp[hx]);by_cases hp:32<=p
   ·rcases h124 with rfl|rfl|rfl
    ·exact ZOb w r S p k t hS hp hw
    ·exact ZOZ w r S p k t hS hp hw
    ·exact ZOW w r S p k t hS hp hw
   by_cases hlt:t.length<k
   ·rcases h124 with rfl|rfl|rfl
    ·exact ZOd w r S p k t hS ZB hk hlt hw
    ·exact ZOa w r S p k t hS ZB hk hlt hw
    ·exact ZOX w r S p k t hS ZB hk hlt hw
   have hlk:(t.take k).length=k:=by rw[ZbG];omega
   have hxb:∀x ∈ t.take k,x<256:=λx hx=>htb x (ZbR hx);by_cases h1:o=1
   ·subst h1;refine ZOc w r S p k (t.take k) (t.drop k) hS ZB hk hlk (λx hx=>htb x (ZbP hx)) (λhh=>h ?_) (by rw[Zbg];exact hw);obtain⟨h8,hN⟩:=hh;refine⟨1,p,t.take k,Z4 ((t.drop k).take 8),(t.drop k).drop 8,ZPX ZB ZB hN hxb,?_,λh=>by omega⟩;have e:Zh (Z4 ((t.drop k).take 8)) 8=(t.drop k).take 8:=ZFe _ 8 _ (λx hx=>htb x (ZbP (ZbR hx))) (by rw[ZbG];omega) rfl;rw[ZFr,e,hlk];simp only[Zaj,Zae,Zbg]
   ·have h24:o=2\/o=4:=by omega
    refine absurd ⟨o,p,t.take k,0,t.drop k,ZIX h24 ZB ZB hxb,?_,λh=>by omega⟩ h;rcases h24 with rfl|rfl
    ·rw[ZCV,hlk];simp
    ·rw[ZCU,hlk];simp
theorem ZMD {zs:List Nat}{op p N op' p' N':Nat}{xs rest xs' rest':List Nat}(h:ZAg zs op p xs N rest)(h':ZAg zs op' p' xs' N' rest'):op=op'/\p=p'/\xs=xs'/\N=N'/\rest=rest':=by
 obtain⟨⟨⟨h1,h2,h3,h4,h5⟩,_,h6,h7⟩,e,h8⟩:=h;obtain⟨⟨⟨g1,g2,g3,g4,g5⟩,_,g6,g7⟩,e',g8⟩:=h';rw[e]at e';have hops:op=1\/(op=2\/op=4)\/op=3\/(op=5\/op=6):=by omega
 have gops:op'=1\/(op'=2\/op'=4)\/op'=3\/(op'=5\/op'=6):=by omega
 have hd:∀o p N (xs:List Nat),1<=o->o<=6->(Yt o p xs N).head?=some o:=by
  intro o p N xs k1 k2;unfold Yt
  split
  ·rename_i h;subst h;rfl
  ·split<;>rfl
 have hop:op=op':=by
  have k1:=hd op p N xs h1 h2;have k2:=hd op' p' N' xs' g1 g2;have:=ZcZ List.head? e';rw[List.head?_append,List.head?_append,k1,k2]at this;simpa using this
 subst hop;refine⟨rfl,?_⟩;rcases hops with rfl|h24|rfl|h56
 ·rw[ZFr,ZFr]at e';simp only[Zaj,Zai,true_and,Zae]at e';obtain⟨k1,k2,k3⟩:=e';obtain⟨k4,k5⟩:=Zaf k3 k2;obtain⟨k6,k7⟩:=Zaf k5 (by rw[Zs,Zs]);exact⟨k1,k4,ZHC k6 (Zb4 (h4 rfl) (by decide)) (Zb4 (g4 rfl) (by decide)),k7⟩
 ·have k:∀p (xs:List Nat) N,Yt op p xs N=op::p::xs.length::xs:=by
   intro p xs N;rcases h24 with rfl|rfl
   ·exact ZCV p xs N
   ·exact ZCU p xs N
  rw[k,k]at e';simp only[Zaj,Zai,true_and]at e';obtain⟨k1,k2,k3⟩:=e';obtain⟨k4,k5⟩:=Zaf k3 k2;exact⟨k1,k4,by rw[h7 h24,g7 h24],k5⟩
 ·obtain rfl:=h8 rfl;obtain rfl:=g8 rfl;rw[ZFq,ZFq]at e';simp only[Zag,Zai,true_and]at e';obtain⟨k1,k2,k3⟩:=ZJC e' (h5 rfl).2 (g5 rfl).2;exact⟨k1,k2,k3,rfl⟩
 ·obtain⟨rfl,rfl,rfl⟩:=h6 ZB;obtain⟨rfl,rfl,rfl⟩:=g6 ZB;rw[ZBA h56]at e';exact⟨rfl,rfl,rfl,by simpa using e'⟩
theorem ZEF {zs:List Nat}:ZCq zs↔∃op p xs N,ZAg zs op p xs N []:=by
 constructor
 ·rintro⟨op,p,xs,N,h,e⟩;exact⟨op,p,xs,N,h,by simpa using e,λ_=>rfl⟩
 ·rintro⟨op,p,xs,N,h,e,_⟩;exact⟨op,p,xs,N,h,by simpa using e⟩
theorem ZEn (w:World)(ec:Nat)(v:Value)(older:List PanicEntry)(he:w.heap[ec]?=some (.cells #[v] 29 (0,0))): CallsD Tryz.prog 162 #[.pointer (some ⟨ec,0,none⟩)] (.panicking ({v:=.iface 290 (.agg #[]),recovered:=false}::older)) w λe u' w'=>
   e=.returned (.tuple #[])/\u'=.panicking ({v:=.iface 290 (.agg #[]),recovered:=true}::older)/\(w.alloc (.cells #[] 290)).setCell ⟨ec,0,none⟩ (.int .i64 3)=w':=by
 refine callsD_of_wpS Tryz.func162 rfl λc₀ cs hu=>?_;have hta:∀u:World,(Instr.typeAssert (.iface 290 (.agg #[])) 20 290 true).run Tryz.prog u=.ok (.tuple #[.agg #[],.bool true]) u:=λ_=>by kernel_rfl
 have p3:=ZI (ZE he 0);have p4:=Jz he 0;have He:=ZA he;clear he;simp only[Tryz.ntmps162,Zbf,ZbA,ZbE,Nat.reduceAdd,Nat.reduceSub,ZaS,ZaT,Zbb,Zah,ZbV,Zaj];apply wpS_seq;apply wpS_region;simp[wpOpsS,go_sem,recoverD,hu,Exit.thenS];refine wpS_of_wp ?_;refine ZDm λQ hQ=>?_;have Hu:=ZA hu;clear hu;go_wp2_with fail;have hu:=Hu.o;exact⟨rfl,_,rfl,_,Zcl rfl _ _ _,rfl,rfl,rfl⟩
theorem ZFo (w:World)(p:Value): CallsD Tryz.prog 162 #[p] .returning w λe u' w'=>e=.returned (.tuple #[])/\u'=.returning/\w=w':=by
 refine callsD_of_wpS Tryz.func162 rfl λc₀ cs hu=>?_;simp only[Tryz.ntmps162,Zbf,ZbA,ZbE,Nat.reduceAdd,Nat.reduceSub,ZaS,ZaT,Zbb,Zah,ZbV,Zaj];apply wpS_seq;apply wpS_region;simp[wpOpsS,go_sem,recoverD,hu,Exit.thenS];refine wpS_of_wp ?_;refine ZDm λQ hQ=>?_;have Hu:=ZA hu;clear hu;go_wp2_with fail;have hu:=Hu.o;exact⟨rfl,.returning,by cases c₀;simp at hu;subst hu;rfl,_,Zcl rfl _ _ _,rfl,rfl,rfl⟩
theorem ZBs {tmps:Array Value}{w:World}{ec:Nat}{v:Value}{t:TypeId}(hp:tmps.getD 4 undef=.pointer (some ⟨ec,0,none⟩))(hc:w.heap[ec]?=some (.cells #[v] t (0,0))): (results Tryz.f112 tmps).run Tryz.prog w=.ok v w:=by
 have h0:=ZE hc 0;have hp':tmps[4]?.getD undef=.pointer (some ⟨ec,0,none⟩):=by simpa using hp
 simp[results,hp',asAddr,loadVar,h0,go_sem]
theorem ZNL (w:World)(A:Option Addr)(n c:Nat)(f:Value)(hn:4096<n): Calls Tryz.prog 112 #[.slice A n c,f] w (Xu (.int .i64 2) w):=by
 go_enter_defers Tryz.func112,Tryz.ntmps112
 go_wp2_with fail;refine⟨_,ZBs rfl (Zcd w _),?_⟩;exact⟨rfl,(ZL.refl w).alloc _⟩
def ByR (t:TypeId)(cs:Option Addr->Nat->Array Value)(xs rest:List Nat)(r S g:Nat)(W:World)(e:Ending)(w':World):Prop:=∃A c wm,e=.returned (.tuple #[])/\W.grownBy wm (some r)/\wm.grownBy w' (some g)/\w'.heap[g]?=some (.cells (cs A c) t (0,0))/\w'.ownsRow W.heap.size 5 1 (.slice A xs.length c) xs.length (ZV .u8 xs)/\YJ w' r S rest
theorem ZED (w:World)(o o':Obj)(g:Nat)(hg:g<w.heap.size):((w.alloc o).alloc o').heap[g]?=w.heap[g]?:=(Below.heap_alloc (w.alloc o) o' g (by simp;omega)).trans (Below.heap_alloc w o g hg)
theorem ZDa {w W wm w2:World}{r g:Nat}(h:ZL w W)(h1:W.grownBy wm (some r))(h2:wm.grownBy w2 (some g))(hr:w.heap.size<=r):w.grownBy w2 (some g):=World.grown_trans (Xe (Z6 h (some g)) h1 hr) h2
theorem ZKz (w:World)(A0:Option Addr)(n c0 g:Nat)(t:TypeId)(cs:Option Addr->Nat->Array Value)(ys xs:List Nat)(hl:ys.length=n)(hn:n<=4096)(hnc:n<=c0)(hr:Rd w A0 (ZV .u8 ys))(hg:g<w.heap.size)(S:Nat)(hSw:S<=w.heap.size)(hA0:ys≠[]->∀a,A0=some a->a.block<S)(HC0:∀W r,YJ W r S ys->w.heap.size<=r->W.heap[g]?=w.heap[g]?->w.heap.size<=W.heap.size->Calls Tryz.prog 158 #[.pointer (some ⟨r,0,none⟩),.pointer (some ⟨g,0,none⟩)] W (ByR t cs xs [] r S g W)): Calls Tryz.prog 112 #[.slice A0 n c0,.func (.func 158) #[] #[.pointer (some ⟨g,0,none⟩)]] w λe w'=>∃A c,e=.returned (.int .i64 0)/\w.grownBy w' (some g)/\w'.heap[g]?=some (.cells (cs A c) t (0,0))/\w'.ownsRow w.heap.size 5 1 (.slice A xs.length c) xs.length (ZV .u8 xs):=by
 have hmf:∀(fn:Fn) (first cap:Array Value) (w:World),(Instr.makeFunc fn first cap).run Tryz.prog w=.ok (.func fn first cap) w:=λ_ _ _ _=>rfl;have HC:=ZA HC0;clear HC0;have hws:∀o o':Obj,Rd ((w.alloc o).alloc o') A0 (ZV .u8 ys):=λo o'=>(hr.alloc o).alloc o';have hlt:∀a,A0=some a->ys≠[]->a.block<S:=λa ha hne=>hA0 hne a ha;have Hws:=ZA hws;have Hlt:=ZA hlt;have Hl:=ZA hl;have Hg:=ZA (λo o':Obj=>(ZED w o o' g hg));clear hws hlt hl hr hA0
 go_enter_defers Tryz.func112,Tryz.ntmps112
 go_wp2_with fail;obtain⟨W,hW⟩:=ZTz ((w.alloc (.cells #[.int .i64 0] 29)).alloc (.cells #[.slice A0 n c0] 292));have hsW:w.heap.size+2=W.heap.size:=by rw[<-hW];simp
 have hIW:YJ W (w.heap.size+1) S ys:=by
  rw[<-hW];refine⟨A0,c0,?_,by rw[Hl.o];exact hnc,Hws.o _ _,λhne a ha=>?_⟩
  ·rw[Hl.o];exact Zd _ _ ZTv
  ·have:=Hlt.o a ha hne;exact⟨by omega,this⟩
 have hEW:W.heap[w.heap.size]?=some (.cells #[.int .i64 0] 29 (0,0)):=by rw[<-hW];exact ZR (ZM w _) _
 have hgW:W.heap[g]?=w.heap[g]?:=by rw[<-hW];exact Hg.o _ _
 have hGW:ZL w W:=by rw[<-hW];exact((ZL.refl w).alloc _).alloc _
 have C:=ZA (HC.o W (w.heap.size+1) hIW ZB hgW ZB);have HE:=ZA hEW;have HGW:=ZA hGW;rw[hW];clear hW hIW hEW hgW hGW HC Hws Hg;refine C.o.mono ?_;rintro e w2 ⟨A,c,wm,rfl,hg1,hg2,hcs,ho,hS⟩;obtain⟨A2,c2,hw2,_,_,_⟩:=hS;have h0:=ZTx hw2 0 (.slice A2 0 c2);have HE2:=ZA (Zj (Zj HE.o hg1 ZB) hg2 ZB);have HG2:=ZA (ZDa HGW.o hg1 hg2 ZB);have Hcs:=ZA hcs;have Ho:=ZA ho;have hs2:W.heap.size<=w2.heap.size:=Zb2 hg1.size hg2.size;clear hg1 hg2 hcs ho hw2 C HE HGW;go_wp2_with fail;refine(JX _ _).mono ?_;rintro e w' ⟨rfl,rfl⟩;have e0:=ZE HE2.o 0;have f0:=ZF HE2.o 0;go_wp2_with fail;refine Zci (f:=162) (args:=#[.pointer (some ⟨w.heap.size,0,none⟩)]) ZTv (by simp[go_sem]) ?_;refine(ZFo _ _).mono ?_;rintro e u' w'' ⟨rfl,rfl,rfl⟩;have hG:=Zc w2 w.heap.size 0 (.int .i64 0);have hoo:w2.ownsRow (w.heap.size+1) 5 1 (.slice A xs.length c) xs.length (ZV .u8 xs):=Zg Ho.o ZB;exact⟨_,ZBs rfl (ZU HE2.o 0 _),A,c,rfl,Xk HG2.o (Zb0 _) 0 _,YP Hcs.o hG ZB,Zg (hoo.kept hG (Je hoo ZB)) ZB⟩
theorem ZKy (w:World)(A0:Option Addr)(n c0 g:Nat)(t:TypeId)(cs:Option Addr->Nat->Array Value)(ys xs rest:List Nat)(hrest:rest≠[])(hl:ys.length=n)(hn:n<=4096)(hnc:n<=c0)(hr:Rd w A0 (ZV .u8 ys))(hg:g<w.heap.size)(S:Nat)(hSw:S<=w.heap.size)(hA0:ys≠[]->∀a,A0=some a->a.block<S)(HC0:∀W r,YJ W r S ys->w.heap.size<=r->W.heap[g]?=w.heap[g]?->w.heap.size<=W.heap.size->Calls Tryz.prog 158 #[.pointer (some ⟨r,0,none⟩),.pointer (some ⟨g,0,none⟩)] W (ByR t cs xs rest r S g W)): Calls Tryz.prog 112 #[.slice A0 n c0,.func (.func 158) #[] #[.pointer (some ⟨g,0,none⟩)]] w λe w'=>e=.returned (.int .i64 3)/\w.grownBy w' (some g):=by
 have hmf:∀(fn:Fn) (first cap:Array Value) (w:World),(Instr.makeFunc fn first cap).run Tryz.prog w=.ok (.func fn first cap) w:=λ_ _ _ _=>rfl;have HC:=ZA HC0;clear HC0;have hws:∀o o':Obj,Rd ((w.alloc o).alloc o') A0 (ZV .u8 ys):=λo o'=>(hr.alloc o).alloc o';have hlt:∀a,A0=some a->ys≠[]->a.block<S:=λa ha hne=>hA0 hne a ha;have Hws:=ZA hws;have Hlt:=ZA hlt;have Hl:=ZA hl;have Hg:=ZA (λo o':Obj=>(ZED w o o' g hg));clear hws hlt hl hr hA0
 go_enter_defers Tryz.func112,Tryz.ntmps112
 go_wp2_with fail;obtain⟨W,hW⟩:=ZTz ((w.alloc (.cells #[.int .i64 0] 29)).alloc (.cells #[.slice A0 n c0] 292));have hsW:w.heap.size+2=W.heap.size:=by rw[<-hW];simp
 have hIW:YJ W (w.heap.size+1) S ys:=by
  rw[<-hW];refine⟨A0,c0,?_,by rw[Hl.o];exact hnc,Hws.o _ _,λhne a ha=>?_⟩
  ·rw[Hl.o];exact Zd _ _ ZTv
  ·have:=Hlt.o a ha hne;exact⟨by omega,this⟩
 have hEW:W.heap[w.heap.size]?=some (.cells #[.int .i64 0] 29 (0,0)):=by rw[<-hW];exact ZR (ZM w _) _
 have hgW:W.heap[g]?=w.heap[g]?:=by rw[<-hW];exact Hg.o _ _
 have hGW:ZL w W:=by rw[<-hW];exact((ZL.refl w).alloc _).alloc _
 have C:=ZA (HC.o W (w.heap.size+1) hIW ZB hgW ZB);have HE:=ZA hEW;have HGW:=ZA hGW;rw[hW];clear hW hIW hEW hgW hGW HC Hws Hg;refine C.o.mono ?_;rintro e w2 ⟨A,c,wm,rfl,hg1,hg2,hcs,ho,hS⟩;obtain⟨A2,c2,hw2,_,_,_⟩:=hS;have h0:=ZTx hw2 0 (.slice A2 rest.length c2);have hlen:((rest.length:Int)==0)=false:=by
  rw[ZcW];have:=List.length_pos_iff.2 hrest;omega
 have HE2:=ZA (Zj (Zj HE.o hg1 ZB) hg2 ZB);have HG2:=ZA (ZDa HGW.o hg1 hg2 ZB);clear hg1 hg2 hcs ho hw2 C HE HGW;go_wp2_with fail;refine(ZBZ _ _).mono ?_;rintro e w' ⟨rfl,rfl⟩;go_wp2_with fail;refine Zci (f:=162) (args:=#[.pointer (some ⟨w.heap.size,0,none⟩)]) ZTv (by simp[go_sem]) ?_;refine(ZEn _ w.heap.size _ [] HE2.o).mono ?_;rintro e u' w'' ⟨rfl,rfl,rfl⟩;exact⟨_,ZBs rfl (ZU (ZR HE2.o _) 0 _),rfl,Xk (Zl HG2.o _) (Zb0 _) 0 _⟩
theorem ZJW (w:World)(A0:Option Addr)(n c0 g:Nat)(ys:List Nat)(hl:ys.length=n)(hn:n<=4096)(hnc:n<=c0)(hr:Rd w A0 (ZV .u8 ys))(hg:g<w.heap.size)(S:Nat)(hSw:S<=w.heap.size)(hA0:ys≠[]->∀a,A0=some a->a.block<S)(HC0:∀W r,YJ W r S ys->w.heap.size<=r->W.heap[g]?=w.heap[g]?->w.heap.size<=W.heap.size->Calls Tryz.prog 158 #[.pointer (some ⟨r,0,none⟩),.pointer (some ⟨g,0,none⟩)] W (Js W r)): Calls Tryz.prog 112 #[.slice A0 n c0,.func (.func 158) #[] #[.pointer (some ⟨g,0,none⟩)]] w λe w'=>e=.returned (.int .i64 3)/\w.grownBy w' (some g):=by
 have hmf:∀(fn:Fn) (first cap:Array Value) (w:World),(Instr.makeFunc fn first cap).run Tryz.prog w=.ok (.func fn first cap) w:=λ_ _ _ _=>rfl;have HC:=ZA HC0;clear HC0;have hws:∀o o':Obj,Rd ((w.alloc o).alloc o') A0 (ZV .u8 ys):=λo o'=>(hr.alloc o).alloc o';have hlt:∀a,A0=some a->ys≠[]->a.block<S:=λa ha hne=>hA0 hne a ha;have Hws:=ZA hws;have Hlt:=ZA hlt;have Hl:=ZA hl;have Hg:=ZA (λo o':Obj=>(ZED w o o' g hg));clear hws hlt hl hr hA0
 go_enter_defers Tryz.func112,Tryz.ntmps112
 go_wp2_with fail;obtain⟨W,hW⟩:=ZTz ((w.alloc (.cells #[.int .i64 0] 29)).alloc (.cells #[.slice A0 n c0] 292));have hsW:w.heap.size+2=W.heap.size:=by rw[<-hW];simp
 have hIW:YJ W (w.heap.size+1) S ys:=by
  rw[<-hW];refine⟨A0,c0,?_,by rw[Hl.o];exact hnc,Hws.o _ _,λhne a ha=>?_⟩
  ·rw[Hl.o];exact Zd _ _ ZTv
  ·have:=Hlt.o a ha hne;exact⟨by omega,this⟩
 have hEW:W.heap[w.heap.size]?=some (.cells #[.int .i64 0] 29 (0,0)):=by rw[<-hW];exact ZR (ZM w _) _
 have hgW:W.heap[g]?=w.heap[g]?:=by rw[<-hW];exact Hg.o _ _
 have hGW:ZL w W:=by rw[<-hW];exact((ZL.refl w).alloc _).alloc _
 have C:=ZA (HC.o W (w.heap.size+1) hIW ZB hgW ZB);have HE:=ZA hEW;have HGW:=ZA hGW;rw[hW];clear hW hIW hEW hgW hGW HC Hws Hg;refine C.o.mono ?_;rintro e w2 ⟨rfl,hg1⟩;have HE2:=ZA (Zj HE.o hg1 ZB);have HG2:=ZA (Xe (Z6 HGW.o (some g)) hg1 ZB);clear hg1 C HE HGW;go_wp2_with fail;refine Zci (f:=162) (args:=#[.pointer (some ⟨w.heap.size,0,none⟩)]) ZTv (by simp[go_sem]) ?_;refine(ZEn _ w.heap.size _ [] HE2.o).mono ?_;rintro e u' w'' ⟨rfl,rfl,rfl⟩;exact⟨_,ZBs rfl (ZU (ZR HE2.o _) 0 _),rfl,Xk (Zl HG2.o _) (Zb0 _) 0 _⟩
theorem ZSD (w:World)(r S g:Nat)(ys:List Nat)(op p N:Nat)(xs rest:List Nat)(hS:S<=w.heap.size)(hb:∀x ∈ ys,x<256)(hB:ZAg ys op p xs N rest)(h:YJ w r S ys)(hg:S<=g)(hgw:g<w.heap.size)(hgr:g≠r)(hc:w.heap[g]?=some (.cells #[.int .u8 0,.int .i64 0,.slice none 0 0,.int .i64 0] 34 (0,0))): Calls Tryz.prog 158 #[.pointer (some ⟨r,0,none⟩),.pointer (some ⟨g,0,none⟩)] w (ByR 34 (λA c=>#[.int .u8 (op:Int),.int .i64 (p:Int),.slice A xs.length c,.int .i64 (N:Int)]) xs rest r S g w):=by
 have C:=ZA (ZOV ys op p xs N rest hb hB w r S hS h);have Hc:=ZA hc;clear hb hB h hc;go_enter Tryz.func158,Tryz.ntmps158;go_wp2_with fail;refine C.o.mono ?_;rintro e w1 ⟨A,c,rfl,ho,hI,hG⟩;have K:=ZA (Zj Hc.o hG hgr);have Ho:=ZA ho;have HI:=ZA hI;have HG:=ZA hG;clear ho hI hG C;have k0:=ZE K.o 0;have k1:=ZE K.o 1;have k2:=ZE K.o 2;have k3:=ZE K.o 3;have f0:=ZF K.o 0;have f1:=ZF K.o 1;have f2:=ZF K.o 2;have f3:=ZF K.o 3;go_wp2_with fail
 go_end0
 have hG:=ZT (ZT (ZT (Zc w1 g 0 (.int .u8 (op:Int))) 1 (.int .i64 (p:Int))) 2 (.slice A xs.length c)) 3 (.int .i64 (N:Int));refine⟨A,c,w1,rfl,HG.o,hG,ZAS K.o _ _ _ _,Ho.o.kept hG (Je Ho.o ZB),HI.o.grown hG (λk hk=>by injection hk with hk;omega)⟩
theorem ZKU (w:World)(r S g:Nat)(ys:List Nat)(hS:S<=w.heap.size)(hb:∀x ∈ ys,x<256)(hl:ys.length<=4096)(hB:¬∃op p xs N rest,ZAg ys op p xs N rest)(h:YJ w r S ys): Calls Tryz.prog 158 #[.pointer (some ⟨r,0,none⟩),.pointer (some ⟨g,0,none⟩)] w (Js w r):=by
 have C:=ZA (ZL8 ys hb hl hB w r S hS h);clear hb hB h;go_enter Tryz.func158,Tryz.ntmps158;go_wp2_with fail;refine C.o.mono ?_;rintro e w1 ⟨rfl,hG⟩;exact⟨rfl,rfl,hG⟩
theorem ZFQ (N:Int)(w:World)(h:0<=N)(h':N<=4611686018427387903):Calls Tryz.prog 55 #[.int .i64 N] w λe w'=>e=.returned (.bool true)/\w=w':=by
 go_enter Tryz.func55,Tryz.ntmps55;go_wp2_with fail;go_ret;exact⟨rfl,rfl⟩
theorem ZGV (N:Int)(w:World)(h:N<0\/4611686018427387903<N):Calls Tryz.prog 55 #[.int .i64 N] w λe w'=>e=.returned (.bool false)/\w=w':=by
 rcases h with h|h
 ·go_enter Tryz.func55,Tryz.ntmps55;go_wp2_with fail;go_ret;exact⟨rfl,rfl⟩
 ·have h':0<=N:=by omega
  go_enter Tryz.func55,Tryz.ntmps55;go_wp2_with fail;go_ret;exact⟨ZBL (by simp;omega),rfl⟩
theorem ZI6 (w w0:World)(base:Nat)(A:Option Addr)(m c:Nat)(xs:List Nat)(v:Nat)(hl:xs.length=m)(ho:w.ownsRow base 5 1 (.slice A m c) m (ZV .u8 xs))(hx:ZL w0 w)(hbase:w0.heap.size<=base)(hbw:base<=w.heap.size)(hv:v<9223372036854775808)(hm:m<=1000000): Calls Tryz.prog 108 #[.slice A m c,.int .i64 (v:Int)] w λe w'=>∃A' c',e=.returned (.slice A' (m+8) c')/\w'.ownsRow base 5 1 (.slice A' (m+8) c') (m+8) (ZV .u8 (xs++Zh v 8))/\ZL w0 w'/\w.heap.size<=w'.heap.size:=by
 have Ho:=ZA ho;have Hl:=ZA hl;clear ho hl;go_enter Tryz.func108,Tryz.ntmps108;go_wp2_with fail
 go_loopg [0,5] 8 (λg v0 v5 wr=>∃(j:Nat) (A':Option Addr) (c':Nat),j<=8/\g=8 - j/\v0=.slice A' (m+j) c'/\v5=.int .i64 (56 - 8*(j:Int))/\ZL w0 wr/\w.heap.size<=wr.heap.size/\
  wr.ownsRow base 5 1 (.slice A' (m+j) c') (m+j) (ZV .u8 (xs++(Zh v 8).take j)))
 case atStart=>
  exact⟨0,A,c,ZcL _,rfl,rfl,by go_num,hx,Zb0 _,by simpa using Ho.o⟩
 case round=>
  obtain⟨j,A',c',hj,rfl,rfl,rfl,hxr,hsz,hor⟩:=hrel;have Hxr:=ZA hxr;clear hxr;by_cases hlt:j<8
  ·have hg:=ZEP v 8 j hlt;obtain⟨t,ht⟩:∃t,t=8*(7 - j):=⟨_,rfl⟩;have e1:(56 - 8*(j:Int))=(t:Int):=by omega
   have e2:v / 256 ^ (8 - 1 - j) % 256=v / 2 ^ t % 256:=by
    rw[ht,show(256:Nat)=2 ^ 8 from rfl,<-Nat.pow_mul]
   rw[e2]at hg;rw[e1];have Hg:=ZA hg;have hib:=ZA (show((v:Int) / 2 ^ t % 256)=((v / 2 ^ t % 256:Nat):Int) by simp only[Int.natCast_emod,Int.natCast_ediv,Int.natCast_pow];rfl);have ht56:t<=56:=by omega
   have Ht:=ZA ht;clear hg e1 e2 ht;have hs1:wr.heap.size>=base:=by omega
   go_wp2_with (first|(at_builtin;refine Y6 _ rfl (.tmp 10) (.tmp 16) rfl base rfl (hor.alloc _) rfl (m:=1) (news:=[v / 2 ^ t % 256]) rfl (ZK4 _ _ _ hib.out) ZB (by simp;omega) ?_;intro A1 c1 w1 hown1 hgrow1 _)|fail)
   go_roundg (8 - (j+1))
   case measure=>omega
   case rel=>
    refine⟨j+1,A1,c1,hlt,rfl,rfl,by have:=Ht.o;go_num,(Hxr.o.alloc _).grown hgrow1 (λk hk=>Zb2 hbase (Yg hor k hk)),by have:=hgrow1.size;simp at this;omega,?_⟩;rw[Zr Hg.o,<-Zae];exact hown1
  ·obtain rfl:j=8:=by omega
   have e:(Zh v 8).take 8=Zh v 8:=Zbk (by rw[Zs];omega);rw[e]at hor;have Hor:=ZA hor;clear hor e;go_wp2_with fail;go_ret;exact⟨A',c',rfl,Hor.o,Hxr.o,hsz⟩
theorem ZQ6 (w:World)(op p N:Int)(A:Option Addr)(n c:Nat)(_h0:0<=op)(h:op<1\/6<op): Calls Tryz.prog 61 #[YY op p A n c N] w (Yu [] 1 w):=by
 have q1:(op==1)=false:=by rw[ZcW];omega
 have q2:(op==2)=false:=by rw[ZcW];omega
 have q3:(op==3)=false:=by rw[ZcW];omega
 have q4:(op==4)=false:=by rw[ZcW];omega
 have q5:(op==5)=false:=by rw[ZcW];omega
 have q6:(op==6)=false:=by rw[ZcW];omega
 go_enter Tryz.func61,Tryz.ntmps61;go_wp2_with fail
 go_ret2
 exact YM ⟨rfl,(ZL.refl w).alloc _⟩
theorem ZPC (w:World)(p N:Int)(A:Option Addr)(n c:Nat)(h:N<0\/4611686018427387903<N): Calls Tryz.prog 61 #[YY 1 p A n c N] w (Yu [] 1 w):=by
 go_enter Tryz.func61,Tryz.ntmps61;go_wp2_with fail;refine(ZGV N _ h).mono ?_;rintro e w1 ⟨rfl,rfl⟩;go_wp2_with fail
 go_ret2
 exact YM ⟨rfl,(ZL.refl w).alloc _⟩
theorem ZJT (w:World)(p N:Int)(A:Option Addr)(n c:Nat)(q:Int)(hq:(q==0)=false)(h1:0<=N)(h2:N<=4611686018427387903)(hI:∀w,Calls Tryz.prog 72 #[.int .i64 p,.slice A n c] w λe w'=>e=.returned (.tuple #[.slice none 0 0,.int .i64 q])/\w=w'): Calls Tryz.prog 61 #[YY 1 p A n c N] w (Yu [] q w):=by
 have HI:=ZA hI;clear hI;have hq':(q !=0)=true:=by simp[bne,hq]
 go_enter Tryz.func61,Tryz.ntmps61;go_wp2_with fail;refine(ZFQ N _ h1 h2).mono ?_;rintro e w1 ⟨rfl,rfl⟩;go_wp2_with fail;refine(HI.o _).mono ?_;rintro e w1 ⟨rfl,rfl⟩;go_wp2_with fail
 go_ret2
 exact YM ⟨rfl,(ZL.refl w).alloc _⟩
theorem ZJS (w:World)(p N:Int)(A:Option Addr)(n c:Nat)(q:Int)(hq:(q==0)=false)(hI:∀w,Calls Tryz.prog 72 #[.int .i64 p,.slice A n c] w λe w'=>e=.returned (.tuple #[.slice none 0 0,.int .i64 q])/\w=w'): Calls Tryz.prog 61 #[YY 2 p A n c N] w (Yu [] q w):=by
 have HI:=ZA hI;clear hI;have hq':(q !=0)=true:=by simp[bne,hq]
 go_enter Tryz.func61,Tryz.ntmps61;go_wp2_with fail;refine(HI.o _).mono ?_;rintro e w1 ⟨rfl,rfl⟩;go_wp2_with fail
 go_ret2
 exact YM ⟨rfl,(ZL.refl w).alloc _⟩
theorem ZJQ (w:World)(p N:Int)(A:Option Addr)(n c:Nat)(q:Int)(hq:(q==0)=false)(hI:∀w,Calls Tryz.prog 72 #[.int .i64 p,.slice A n c] w λe w'=>e=.returned (.tuple #[.slice none 0 0,.int .i64 q])/\w=w'): Calls Tryz.prog 61 #[YY 4 p A n c N] w (Yu [] q w):=by
 have HI:=ZA hI;clear hI;have hq':(q !=0)=true:=by simp[bne,hq]
 go_enter Tryz.func61,Tryz.ntmps61;go_wp2_with fail;refine(HI.o _).mono ?_;rintro e w1 ⟨rfl,rfl⟩;go_wp2_with fail
 go_ret2
 exact YM ⟨rfl,(ZL.refl w).alloc _⟩
theorem ZLA (w:World)(x:Int)(y:Nat)(h:x=(y:Int)):(w.alloc (.cells #[.int .u8 x] 5)).ownsRow w.heap.size 5 1 (.slice (some ⟨w.heap.size,0,none⟩) 1 1) 1 (ZV .u8 [y]):=by
 subst h;exact ZRO w y
theorem ZQ8 (w:World)(p N:Int)(A:Option Addr)(n c:Nat): Calls Tryz.prog 61 #[YY 5 p A n c N] w (Yu [5] 0 w):=by
 go_enter Tryz.func61,Tryz.ntmps61;go_wp2_with fail
 go_ret2
 have h:=ZLA (w.alloc (.cells #[.int .u8 5,.int .i64 p,.slice A n c,.int .i64 N] 34)) 5 5 rfl;rw[ZcV]at h;exact JE rfl (Zg h ZB) (((ZL.refl w).alloc _).alloc _)
theorem ZQ7 (w:World)(p N:Int)(A:Option Addr)(n c:Nat): Calls Tryz.prog 61 #[YY 6 p A n c N] w (Yu [6] 0 w):=by
 go_enter Tryz.func61,Tryz.ntmps61;go_wp2_with fail
 go_ret2
 have h:=ZLA (w.alloc (.cells #[.int .u8 6,.int .i64 p,.slice A n c,.int .i64 N] 34)) 6 6 rfl;rw[ZcV]at h;exact JE rfl (Zg h ZB) (((ZL.refl w).alloc _).alloc _)
theorem ZJR (w:World)(p N:Int)(A:Option Addr)(n c:Nat)(xs:List Nat)(q:Int)(hq:(q==0)=false)(hr:Rd w A (ZV .u8 xs))(hI:∀w,Rd w A (ZV .u8 xs)->Calls Tryz.prog 32 #[ZIA p A n c N] w (Yu [] q w)): Calls Tryz.prog 61 #[YY 3 p A n c N] w (Yu [] q w):=by
 have HI:=ZA hI;have Hr:=ZA hr;clear hI hr;have hq':(q !=0)=true:=by simp[bne,hq]
 go_enter Tryz.func61,Tryz.ntmps61;go_wp2_with fail;refine(HI.o _ (Hr.o.alloc _)).mono ?_;rintro e w1 ⟨A1,c1,rfl,hown,hy⟩;clear hown;have hx:ZL w w1:=((ZL.refl w).alloc _).trans hy;go_wp2_with fail
 go_ret2
 exact YM ⟨rfl,hx⟩
theorem ZRA (w:World)(p N:Int)(A:Option Addr)(n c:Nat)(xs L:List Nat)(k:Nat)(hk:L.length=k)(hk':k<=1000)(hr:Rd w A (ZV .u8 xs))(hI:∀w,Rd w A (ZV .u8 xs)->Calls Tryz.prog 32 #[ZIA p A n c N] w (Yu L 0 w)): Calls Tryz.prog 61 #[YY 3 p A n c N] w (Yu (3::L) 0 w):=by
 have HI:=ZA hI;have Hr:=ZA hr;have Hk:=ZA hk;clear hI hr hk;go_enter Tryz.func61,Tryz.ntmps61;go_wp2_with fail;refine(HI.o _ (Hr.o.alloc _)).mono ?_;rintro e w1 ⟨A1,c1,rfl,hown,hy⟩;rw[Hk.o]at hown ⊢;have hx:ZL w w1:=((ZL.refl w).alloc _).trans hy;have R1:=ZA (Rd.of_own hown);have k0:w1.cell? ⟨w.heap.size,0,none⟩=some (.int .u8 3):=by
  rw[hy.cell (p:=⟨w.heap.size,0,none⟩) ZTv];exact ZcP _ _ _ _
 clear hown;have hs:w.heap.size<=w1.heap.size:=hx.size;go_wp2_with (first|(at_builtin;refine Y6 _ rfl (.tmp 35) (.tmp 36) rfl w1.heap.size rfl (ZLA w1 3 3 rfl) rfl Hk.o (R1.o.alloc _) ZB ZTv ?_;intro A2 c2 w2 hown2 hgrow2 _)|fail)
 go_ret2
 refine JE ?_ (Zg hown2 hs) ((hx.alloc _).grown hgrow2 (λq hq=>by simp[Value.ownBlock]at hq;omega));show(3::L).length=_;rw[ZbA,Hk.o,Zbq]
theorem ZRC (w:World)(p N:Nat)(A:Option Addr)(n c:Nat)(xs:List Nat)(hl:xs.length=n)(hr:Rd w A (ZV .u8 xs))(h4:p<32)(hn:n<=255)(hN:N<=4611686018427387903): Calls Tryz.prog 61 #[YY 1 (p:Int) A n c (N:Int)] w (Yu (1::p::xs.length::(xs++Zh N 8)) 0 w):=by
 have Hl:=ZA hl;have Hr:=ZA hr;clear hl hr;go_enter Tryz.func61,Tryz.ntmps61;go_wp2_with fail;refine(ZFQ (N:Int) _ ZB ZB).mono ?_;rintro e w1 ⟨rfl,rfl⟩;go_wp2_with fail;refine(ZCd p A n c xs _ h4 Hl.o hn (Hr.o.alloc _)).mono ?_;rintro e w1 ⟨A1,c1,rfl,hown1,hx1⟩;have hl1:(p::xs).length=n+1:=by rw[ZbA,Hl.o]
 rw[hl1]at hown1 ⊢;clear hl1;obtain⟨g,rfl,hg,hg'⟩:=ZBJ hown1 ZB;have hc0:=hown1.cellAt 0 ZB;have hc0':w1.cell? ⟨g,0,none⟩=some (.int .u8 (p:Int)):=by rw[hc0];rfl
 have hK:ZD (w1.heap[w.heap.size]?=some (.cells #[.int .u8 1,.int .i64 p,.slice A n c,.int .i64 (N:Int)] 34 (0,0))):=ZJ (ZM w _) hx1;have b0:=ZE hK.out 0;have b2:=ZE hK.out 2;have hr2:=ZA (Hr.o.ext (((ZL.refl w).alloc _).trans hx1));have hs1:w.heap.size+1<=w1.heap.size:=by have:=hx1.size;simpa using this
 clear hc0 hown1;go_upto_region 19 with fail
 go_cut [8] (λv wd=>∃A6 c6,v=.slice A6 (3+n) c6/\wd.ownsRow w1.heap.size 5 1 (.slice A6 (3+n) c6) (3+n) (ZV .u8 ([1,p,n]++xs))/\ZL w1 wd)
 case first=>
  have hwn:IntKind.u8.wrap (n:Int)=(n:Int):=by rw[Zac];omega
  have hoo:(w1.alloc (.cells #[.int .u8 1,.int .u8 (p:Int),.int .u8 (n:Int)] 5)).drew.ownsRow w1.heap.size 5 1 (.slice (some ⟨w1.heap.size,0,none⟩) 3 3) 3 (ZV .u8 [1,p,n]):=XR w1 _ 5 1 3 rfl (by unfold maxLen;omega) (Zb0 _);have hrr:Rd (w1.alloc (.cells #[.int .u8 1,.int .u8 (p:Int),.int .u8 (n:Int)] 5)).drew A (ZV .u8 xs):=(hr2.out.alloc _).drew;have b2':=ZI b2;have Hoo:=ZA hoo;have Hrr:=ZA hrr;clear hoo hrr
  go_region_held3 (λw'=>w'.cell? ⟨w.heap.size,0,none⟩=some (.int .u8 1)/\w'.cell? ⟨w.heap.size,2,none⟩=some (.slice A n c)/\w'.cell? ⟨g,0,none⟩=some (.int .u8 (p:Int))) (first|exact⟨ZG hx6 b0,ZG hx6 b2,ZG hx6 hc0'⟩|go_keep|(simp;assumption)) ((refine Jb (w1.alloc (.cells #[.int .u8 1,.int .u8 (p:Int),.int .u8 (n:Int)] 5)).drew rfl (.tmp 67) (.tmp 69) rfl w1.heap.size (B:=some ⟨w1.heap.size,0,none⟩) (n:=3) (cb:=3) (xs:=[1,p,n]) (by simp[Act.eval]) Hoo.o (A:=A) (m:=n) (c:=c) (news:=xs) (by simp[Act.eval]) Hl.o Hrr.o ZB ZTv ?_;intro A6 c6 w6 hown6 hgrow6 _;have hx6:ZL w1 w6:=(((ZL.refl w1).alloc _).drew).grown hgrow6 (by simp[Value.ownBlock])))
  all_goals
   go_wp2_with fail
   go_meet
   exact⟨_,_,rfl,by assumption,(((ZL.refl w1).alloc _).drew).grown (by assumption) (by simp[Value.ownBlock])⟩
 case rest=>
  obtain⟨A6,c6,rfl,hown6,hy6⟩:=hcut;have hK6:=ZA (ZJ hK.out hy6);have d0:=ZE hK6.out 0;have d3:=ZE hK6.out 3;have Hown6:=ZA hown6;clear hown6 b0 b2 hc0';have hl6:([1,p,n]++xs).length=3+n:=by rw[Za9,Hl.o];rfl
  have Hl6:=ZA hl6;clear hl6;have hs6:w1.heap.size<=wc.heap.size:=hy6.size;have hx6:ZL w wc:=(((ZL.refl w).alloc _).trans hx1).trans hy6;go_wp2_with fail;refine(ZI6 wc w1 w1.heap.size A6 (3+n) c6 _ N Hl6.o Hown6.o hy6 (Zb0 _) hs6 ZB ZB).mono ?_;rintro e w7 ⟨A7,c7,rfl,hown7,hy7,hs7⟩;have hl7:([1,p,n]++xs++Zh N 8).length=3+n+8:=by rw[Za9,Hl6.o,Zs]
  have Hl7:=ZA hl7;have Hown7:=ZA hown7;clear hl7 hown7;have hx7:ZL w w7:=(((ZL.refl w).alloc _).trans hx1).trans hy7;go_wp2_with fail
  go_ret2
  rw[Hl.o];have e:(1::p::n::(xs++Zh N 8))=[1,p,n]++xs++Zh N 8:=by simp
  rw[e];exact JE Hl7.o (Zg Hown7.o ZB) hx7
theorem ZRB (w:World)(p:Nat)(N:Int)(A:Option Addr)(n c:Nat)(xs:List Nat)(hl:xs.length=n)(hr:Rd w A (ZV .u8 xs))(h4:p<32)(hn:n<=255): Calls Tryz.prog 61 #[YY 2 (p:Int) A n c N] w (Yu (2::p::xs.length::xs) 0 w):=by
 have Hl:=ZA hl;have Hr:=ZA hr;clear hl hr;go_enter Tryz.func61,Tryz.ntmps61;go_wp2_with fail;refine(ZCd p A n c xs _ h4 Hl.o hn (Hr.o.alloc _)).mono ?_;rintro e w1 ⟨A1,c1,rfl,hown1,hx1⟩;have hl1:(p::xs).length=n+1:=by rw[ZbA,Hl.o]
 rw[hl1]at hown1 ⊢;clear hl1;obtain⟨g,rfl,hg,hg'⟩:=ZBJ hown1 ZB;have hc0:=hown1.cellAt 0 ZB;have hc0':w1.cell? ⟨g,0,none⟩=some (.int .u8 (p:Int)):=by rw[hc0];rfl
 have hK:ZD (w1.heap[w.heap.size]?=some (.cells #[.int .u8 2,.int .i64 p,.slice A n c,.int .i64 N] 34 (0,0))):=ZJ (ZM w _) hx1;have b0:=ZE hK.out 0;have b2:=ZE hK.out 2;have hr2:=ZA (Hr.o.ext (((ZL.refl w).alloc _).trans hx1));have hs1:w.heap.size+1<=w1.heap.size:=by have:=hx1.size;simpa using this
 clear hc0 hown1;go_upto_region 19 with fail
 go_cut [8] (λv wd=>∃A6 c6,v=.slice A6 (3+n) c6/\wd.ownsRow w1.heap.size 5 1 (.slice A6 (3+n) c6) (3+n) (ZV .u8 ([2,p,n]++xs))/\ZL w1 wd)
 case first=>
  have hwn:IntKind.u8.wrap (n:Int)=(n:Int):=by rw[Zac];omega
  have hoo:(w1.alloc (.cells #[.int .u8 2,.int .u8 (p:Int),.int .u8 (n:Int)] 5)).drew.ownsRow w1.heap.size 5 1 (.slice (some ⟨w1.heap.size,0,none⟩) 3 3) 3 (ZV .u8 [2,p,n]):=XR w1 _ 5 1 3 rfl (by unfold maxLen;omega) (Zb0 _);have hrr:Rd (w1.alloc (.cells #[.int .u8 2,.int .u8 (p:Int),.int .u8 (n:Int)] 5)).drew A (ZV .u8 xs):=(hr2.out.alloc _).drew;have b2':=ZI b2;have Hoo:=ZA hoo;have Hrr:=ZA hrr;clear hoo hrr
  go_region_held3 (λw'=>w'.cell? ⟨w.heap.size,0,none⟩=some (.int .u8 2)/\w'.cell? ⟨w.heap.size,2,none⟩=some (.slice A n c)/\w'.cell? ⟨g,0,none⟩=some (.int .u8 (p:Int))) (first|exact⟨ZG hx6 b0,ZG hx6 b2,ZG hx6 hc0'⟩|go_keep|(simp;assumption)) ((refine Jb (w1.alloc (.cells #[.int .u8 2,.int .u8 (p:Int),.int .u8 (n:Int)] 5)).drew rfl (.tmp 67) (.tmp 69) rfl w1.heap.size (B:=some ⟨w1.heap.size,0,none⟩) (n:=3) (cb:=3) (xs:=[2,p,n]) (by simp[Act.eval]) Hoo.o (A:=A) (m:=n) (c:=c) (news:=xs) (by simp[Act.eval]) Hl.o Hrr.o ZB ZTv ?_;intro A6 c6 w6 hown6 hgrow6 _;have hx6:ZL w1 w6:=(((ZL.refl w1).alloc _).drew).grown hgrow6 (by simp[Value.ownBlock])))
  all_goals
   go_wp2_with fail
   go_meet
   exact⟨_,_,rfl,by assumption,(((ZL.refl w1).alloc _).drew).grown (by assumption) (by simp[Value.ownBlock])⟩
 case rest=>
  obtain⟨A6,c6,rfl,hown6,hy6⟩:=hcut;have hK6:=ZA (ZJ hK.out hy6);have d0:=ZE hK6.out 0;have d3:=ZE hK6.out 3;have Hown6:=ZA hown6;clear hown6 b0 b2 hc0';have hl6:([2,p,n]++xs).length=3+n:=by rw[Za9,Hl.o];rfl
  have Hl6:=ZA hl6;clear hl6;have hs6:w1.heap.size<=wc.heap.size:=hy6.size;have hx6:ZL w wc:=(((ZL.refl w).alloc _).trans hx1).trans hy6;go_wp2_with fail
  go_ret2
  rw[Hl.o];exact JE Hl6.o (Zg Hown6.o ZB) hx6
theorem ZQ9 (w:World)(p:Nat)(N:Int)(A:Option Addr)(n c:Nat)(xs:List Nat)(hl:xs.length=n)(hr:Rd w A (ZV .u8 xs))(h4:p<32)(hn:n<=255): Calls Tryz.prog 61 #[YY 4 (p:Int) A n c N] w (Yu (4::p::xs.length::xs) 0 w):=by
 have Hl:=ZA hl;have Hr:=ZA hr;clear hl hr;go_enter Tryz.func61,Tryz.ntmps61;go_wp2_with fail;refine(ZCd p A n c xs _ h4 Hl.o hn (Hr.o.alloc _)).mono ?_;rintro e w1 ⟨A1,c1,rfl,hown1,hx1⟩;have hl1:(p::xs).length=n+1:=by rw[ZbA,Hl.o]
 rw[hl1]at hown1 ⊢;clear hl1;obtain⟨g,rfl,hg,hg'⟩:=ZBJ hown1 ZB;have hc0:=hown1.cellAt 0 ZB;have hc0':w1.cell? ⟨g,0,none⟩=some (.int .u8 (p:Int)):=by rw[hc0];rfl
 have hK:ZD (w1.heap[w.heap.size]?=some (.cells #[.int .u8 4,.int .i64 p,.slice A n c,.int .i64 N] 34 (0,0))):=ZJ (ZM w _) hx1;have b0:=ZE hK.out 0;have b2:=ZE hK.out 2;have hr2:=ZA (Hr.o.ext (((ZL.refl w).alloc _).trans hx1));have hs1:w.heap.size+1<=w1.heap.size:=by have:=hx1.size;simpa using this
 clear hc0 hown1;go_upto_region 19 with fail
 go_cut [8] (λv wd=>∃A6 c6,v=.slice A6 (3+n) c6/\wd.ownsRow w1.heap.size 5 1 (.slice A6 (3+n) c6) (3+n) (ZV .u8 ([4,p,n]++xs))/\ZL w1 wd)
 case first=>
  have hwn:IntKind.u8.wrap (n:Int)=(n:Int):=by rw[Zac];omega
  have hoo:(w1.alloc (.cells #[.int .u8 4,.int .u8 (p:Int),.int .u8 (n:Int)] 5)).drew.ownsRow w1.heap.size 5 1 (.slice (some ⟨w1.heap.size,0,none⟩) 3 3) 3 (ZV .u8 [4,p,n]):=XR w1 _ 5 1 3 rfl (by unfold maxLen;omega) (Zb0 _);have hrr:Rd (w1.alloc (.cells #[.int .u8 4,.int .u8 (p:Int),.int .u8 (n:Int)] 5)).drew A (ZV .u8 xs):=(hr2.out.alloc _).drew;have b2':=ZI b2;have Hoo:=ZA hoo;have Hrr:=ZA hrr;clear hoo hrr
  go_region_held3 (λw'=>w'.cell? ⟨w.heap.size,0,none⟩=some (.int .u8 4)/\w'.cell? ⟨w.heap.size,2,none⟩=some (.slice A n c)/\w'.cell? ⟨g,0,none⟩=some (.int .u8 (p:Int))) (first|exact⟨ZG hx6 b0,ZG hx6 b2,ZG hx6 hc0'⟩|go_keep|(simp;assumption)) ((refine Jb (w1.alloc (.cells #[.int .u8 4,.int .u8 (p:Int),.int .u8 (n:Int)] 5)).drew rfl (.tmp 67) (.tmp 69) rfl w1.heap.size (B:=some ⟨w1.heap.size,0,none⟩) (n:=3) (cb:=3) (xs:=[4,p,n]) (by simp[Act.eval]) Hoo.o (A:=A) (m:=n) (c:=c) (news:=xs) (by simp[Act.eval]) Hl.o Hrr.o ZB ZTv ?_;intro A6 c6 w6 hown6 hgrow6 _;have hx6:ZL w1 w6:=(((ZL.refl w1).alloc _).drew).grown hgrow6 (by simp[Value.ownBlock])))
  all_goals
   go_wp2_with fail
   go_meet
   exact⟨_,_,rfl,by assumption,(((ZL.refl w1).alloc _).drew).grown (by assumption) (by simp[Value.ownBlock])⟩
 case rest=>
  obtain⟨A6,c6,rfl,hown6,hy6⟩:=hcut;have hK6:=ZA (ZJ hK.out hy6);have d0:=ZE hK6.out 0;have d3:=ZE hK6.out 3;have Hown6:=ZA hown6;clear hown6 b0 b2 hc0';have hl6:([4,p,n]++xs).length=3+n:=by rw[Za9,Hl.o];rfl
  have Hl6:=ZA hl6;clear hl6;have hs6:w1.heap.size<=wc.heap.size:=hy6.size;have hx6:ZL w wc:=(((ZL.refl w).alloc _).trans hx1).trans hy6;go_wp2_with fail
  go_ret2
  rw[Hl.o];exact JE Hl6.o (Zg Hown6.o ZB) hx6
theorem ZFv (N:Int)(w:World)(h:0<=N)(h':N<=4611686018427387903):Calls Tryz.prog 48 #[.int .i64 N] w λe w'=>e=.returned (.bool true)/\w=w':=by
 go_enter Tryz.func48,Tryz.ntmps48;go_wp2_with fail;go_ret;exact⟨rfl,rfl⟩
theorem ZJV (N:Int)(w:World)(h:N<0\/4611686018427387903<N):Calls Tryz.prog 48 #[.int .i64 N] w λe w'=>e=.returned (.bool false)/\w=w':=by
 rcases h with h|h
 ·go_enter Tryz.func48,Tryz.ntmps48;go_wp2_with fail;go_ret;exact⟨rfl,rfl⟩
 ·have h':0<=N:=by omega
  go_enter Tryz.func48,Tryz.ntmps48;go_wp2_with fail;go_ret;exact⟨ZBL (by simp;omega),rfl⟩
theorem ZIT {w:World}{B:Nat}{e:TypeId}{size:Nat}{v:Value}{n:Nat}{xs:List Value}(h:w.ownsRow B e size v n xs)(o:Obj):(w.alloc o).ownsRow B e size v n xs:=YB h ((ZL.refl w).alloc o)
theorem ZIU (w:World)(o:Obj)(y:Nat):((w.alloc o).alloc (.cells #[.int .u8 (y:Int)] 5)).ownsRow w.heap.size 5 1 (.slice (some ⟨w.heap.size+1,0,none⟩) 1 1) 1 (ZV .u8 [y]):=by
 have h:=ZRO (w.alloc o) y;rw[ZcV]at h;exact Zg h ZB
theorem ZMd (w:World)(o:Obj)(y:Nat):((w.alloc o).alloc (.cells #[.int .u8 (y:Int)] 5)).ownsRow (w.heap.size+1) 5 1 (.slice (some ⟨w.heap.size+1,0,none⟩) 1 1) 1 (ZV .u8 [y]):=by
 have h:=ZRO (w.alloc o) y
 rwa [ZcV]at h
theorem ZPI (w:World)(o:Nat)(ho:o=5\/o=6)(p N:Int)(A:Option Addr)(n c:Nat): Calls Tryz.prog 111 #[YY (o:Int) p A n c N] w (ZDi [o] w):=by
 have q3:((o:Int)==3)=false:=by rw[ZcW];omega
 have hh:((o:Int)==5)=true\/(((o:Int)==5)=false/\((o:Int)==6)=true):=by
  rcases ho with h|h
  ·left;rw[ZcX];omega
  ·right;exact⟨by rw[ZcW];omega,by rw[ZcX];omega⟩
 have Ho:=ZA ho;clear ho;rcases hh with h5|⟨h5,h6⟩
 ·go_enter Tryz.func111,Tryz.ntmps111;go_wp2_with fail;go_ret;exact ZA9 rfl (ZIU w _ o) (((ZL.refl w).alloc _).alloc _)
 ·go_enter Tryz.func111,Tryz.ntmps111;go_wp2_with fail;go_ret;exact ZA9 rfl (ZIU w _ o) (((ZL.refl w).alloc _).alloc _)
theorem ZRG (w:World)(p N:Nat)(A:Option Addr)(n c:Nat)(xs:List Nat)(hl:xs.length=n)(hb:∀x ∈ xs,x<256)(hr:Rd w A (ZV .u8 xs))(h1:1<=N)(h2:N<=4611686018427387903)(h4:p<32)(hn:n<=255): Calls Tryz.prog 111 #[YY 3 (p:Int) A n c (N:Int)] w (ZDi (3::Y4 p xs N) w):=by
 have C:=ZA (λw1 hr'=>ZFu w1 p N A n c xs hl hb hr' h1 h2 h4 hn);have hL:(Y4 p xs N).length=n+16:=by rw[ZAQ,hl]
 have HL:=ZA hL;have Hr:=ZA hr;clear hl hr hb hL;have H0:=ZA (ZIU w (.cells #[.int .u8 3,.int .i64 p,.slice A n c,.int .i64 N] 34) 3);go_enter Tryz.func111,Tryz.ntmps111;go_wp2_with fail;refine(C.o _ ((Hr.o.alloc _).alloc _)).mono ?_;rintro e w1 ⟨A1,c1,rfl,hown,hy⟩;rw[HL.o]at hown ⊢;have hx:ZL w w1:=(((ZL.refl w).alloc _).alloc _).trans hy;have R1:=ZA (Rd.of_own hown);have h0:=YB H0.o hy;have hs:w.heap.size<=w1.heap.size:=hx.size;clear hown;go_wp2_with (first|(at_builtin;refine Y6 _ rfl (.tmp 11) (.tmp 19) rfl w.heap.size rfl h0 rfl HL.o R1.o ZB ZB ?_;intro A2 c2 w2 hown2 hgrow2 _)|fail);go_ret;refine ZA9 ?_ hown2 (hx.grown hgrow2 (Yg h0));show(3::Y4 p xs N).length=_;rw[ZbA,HL.o];omega
theorem ZPJ (w:World)(o p:Nat)(ho:o=2\/o=4)(N:Int)(A:Option Addr)(n c:Nat)(xs:List Nat)(hl:xs.length=n)(hr:Rd w A (ZV .u8 xs))(h4:p<32)(hn:n<=255): Calls Tryz.prog 111 #[YY (o:Int) (p:Int) A n c N] w (ZDi (o::p::xs.length::xs) w):=by
 have q1:((o:Int)==1)=false:=by rw[ZcW];omega
 have q3:((o:Int)==3)=false:=by rw[ZcW];omega
 have q5:((o:Int)==5)=false:=by rw[ZcW];omega
 have q6:((o:Int)==6)=false:=by rw[ZcW];omega
 have Ho:=ZA ho;clear ho;have H0:=ZA (ZMd w (.cells #[.int .u8 (o:Int),.int .i64 p,.slice A n c,.int .i64 N] 34) o);have Hl:=ZA hl;have Hr:=ZA hr;clear hl hr;have hwn:IntKind.u8.wrap (n:Int)=(n:Int):=by rw[Zac];omega
 have hwp:IntKind.u8.wrap (p:Int)=(p:Int):=by rw[Zac];omega
 go_enter Tryz.func111,Tryz.ntmps111
 go_wp2_with (first
  |(at_builtin;refine Y6 _ rfl (.tmp 25) (.tmp 33) rfl (w.heap.size+1) rfl (ZIT H0.o _) rfl (m:=2) (news:=[p,n]) rfl (ZAU _ _ _ ZTv) ZB (by simp<;>omega) ?_;intro A1 c1 w1 hown1 hgrow1 _;have hx1:ZL w w1:=((((ZL.refl w).alloc _).alloc _).alloc _).grown hgrow1 (λk hk=>by have:=Yg H0.o k hk;omega);have k1:=ZA (hgrow1.block w.heap.size (by simp<;>omega) (λe=>by have:=Yg H0.o _ e.symm;omega));have kk:ZD (w1.heap[w.heap.size]?=some (.cells #[.int .u8 (o:Int),.int .i64 p,.slice A n c,.int .i64 N] 34 (0,0))):=k1.out.trans (ZR (ZR (ZM w _) _) _);have g0:=ZE kk.out 0;have g2:=ZE kk.out 2)
  |(at_builtin;refine Y6 _ rfl (.tmp 35) (.tmp 37) rfl (w.heap.size+1) rfl hown1 rfl Hl.o (Hr.o.ext hx1) ZB (ZW kk.out) ?_;intro A2 c2 w2 hown2 hgrow2 _;have hx2:ZL w w2:=hx1.grown hgrow2 (λk hk=>by have:=Yg hown1 k hk;omega);have k2:=ZA (hgrow2.block w.heap.size (ZW kk.out) (λe=>by have:=Yg hown1 _ e.symm;omega));have kk2:ZD (w2.heap[w.heap.size]?=some (.cells #[.int .u8 (o:Int),.int .i64 p,.slice A n c,.int .i64 N] 34 (0,0))):=k2.out.trans kk.out;have j0:=ZE kk2.out 0)
  |fail)
 go_ret;have hx:ZL w w2:=hx2;refine ZA9 (n:=1+2+n) ?_ ?_ hx2
 ·simp only[ZbA,Hl.o];omega
 ·rw[Hl.o];exact Zg hown2 ZB
theorem ZRH (w:World)(p N:Nat)(A:Option Addr)(n c:Nat)(xs:List Nat)(hl:xs.length=n)(hr:Rd w A (ZV .u8 xs))(h4:p<32)(hn:n<=255)(hN:N<=4611686018427387903): Calls Tryz.prog 111 #[YY 1 (p:Int) A n c (N:Int)] w (ZDi (1::p::xs.length::(xs++Zh N 8)) w):=by
 have H0:=ZA (ZMd w (.cells #[.int .u8 1,.int .i64 p,.slice A n c,.int .i64 N] 34) 1);have Hl:=ZA hl;have Hr:=ZA hr;clear hl hr;have hwn:IntKind.u8.wrap (n:Int)=(n:Int):=by rw[Zac];omega
 have hwp:IntKind.u8.wrap (p:Int)=(p:Int):=by rw[Zac];omega
 go_enter Tryz.func111,Tryz.ntmps111
 go_wp2_with (first
  |(at_builtin;refine Y6 _ rfl (.tmp 25) (.tmp 33) rfl (w.heap.size+1) rfl (ZIT H0.o _) rfl (m:=2) (news:=[p,n]) rfl (ZAU _ _ _ ZTv) ZB (by simp<;>omega) ?_;intro A1 c1 w1 hown1 hgrow1 _;have hx1:ZL w w1:=((((ZL.refl w).alloc _).alloc _).alloc _).grown hgrow1 (λk hk=>by have:=Yg H0.o k hk;omega);have k1:=ZA (hgrow1.block w.heap.size (by simp<;>omega) (λe=>by have:=Yg H0.o _ e.symm;omega));have kk:ZD (w1.heap[w.heap.size]?=some (.cells #[.int .u8 1,.int .i64 p,.slice A n c,.int .i64 N] 34 (0,0))):=k1.out.trans (ZR (ZR (ZM w _) _) _);have g0:=ZE kk.out 0;have g2:=ZE kk.out 2)
  |(at_builtin;refine Y6 _ rfl (.tmp 35) (.tmp 37) rfl (w.heap.size+1) rfl hown1 rfl Hl.o (Hr.o.ext hx1) ZB (ZW kk.out) ?_;intro A2 c2 w2 hown2 hgrow2 _;have hx2:ZL w w2:=hx1.grown hgrow2 (λk hk=>by have:=Yg hown1 k hk;omega);have k2:=ZA (hgrow2.block w.heap.size (ZW kk.out) (λe=>by have:=Yg hown1 _ e.symm;omega));have kk2:ZD (w2.heap[w.heap.size]?=some (.cells #[.int .u8 1,.int .i64 p,.slice A n c,.int .i64 N] 34 (0,0))):=k2.out.trans kk.out;have j0:=ZE kk2.out 0;have j3:=ZE kk2.out 3)
  |fail)
 have hs2:w.heap.size<w2.heap.size:=ZW kk2.out;have Hown2:=ZA hown2;have Hx2:=ZA hx2;clear hown1 hgrow1 hx1 k1 g0 g2 hgrow2 k2 hown2 hx2;refine(ZCh w2 N 8 ZB ZB).mono ?_;rintro e w3 ⟨A3,c3,rfl,hown3,hy3⟩;rw[Zs]at hown3 ⊢;have R3:=ZA (Rd.of_own hown3);have h2:=YB Hown2.o hy3;have hs3:w2.heap.size<=w3.heap.size:=hy3.size;clear hown3;go_wp2_with (first|(at_builtin;refine Y6 _ rfl (.tmp 42) (.tmp 46) rfl (w.heap.size+1) rfl h2 rfl (Zs N 8) R3.o ZB ZB ?_;intro A4 c4 w4 hown4 hgrow4 _)|fail);go_ret;have e:1::p::n::(xs++Zh N 8)=[1]++[p,n]++xs++Zh N 8:=by simp
 rw[Hl.o,e];refine ZA9 ?_ (Zg hown4 ZB) ((Hx2.o.trans hy3).grown hgrow4 (λk hk=>by have:=Yg h2 k hk;omega));simp only[Za9,ZbA,ZbE,Hl.o,Zs]
theorem ZOB (w:World)(op p N:Int)(A:Option Addr)(n c:Nat)(h:op<1\/6<op): Calls Tryz.prog 63 #[YY op p A n c N] w (Yu [] 1 w):=by
 rcases h with h|h
 ·go_enter Tryz.func63,Tryz.ntmps63;go_wp2_with fail
  go_ret2
  exact YM ⟨rfl,(ZL.refl w).alloc _⟩
 ·have h':¬op<1:=by omega
  go_enter Tryz.func63,Tryz.ntmps63;go_wp2_with fail
  go_ret2
  exact YM ⟨rfl,(ZL.refl w).alloc _⟩
theorem ZD8 (w:World)(op p N:Int)(A:Option Addr)(n c:Nat)(h1:1<=op)(h5:op<5)(h:p<0\/32<=p): Calls Tryz.prog 63 #[YY op p A n c N] w (Yu [] 1 w):=by
 have h6:op<=6:=by omega
 rcases h with h|h
 ·go_enter Tryz.func63,Tryz.ntmps63;go_wp2_with fail
  go_ret2
  exact YM ⟨rfl,(ZL.refl w).alloc _⟩
 ·have h':¬p<0:=by omega
  go_enter Tryz.func63,Tryz.ntmps63;go_wp2_with fail
  go_ret2
  exact YM ⟨rfl,(ZL.refl w).alloc _⟩
theorem ZOD (w:World)(p N:Int)(A:Option Addr)(n c:Nat)(hp:0<=p)(hp':p<32)(h:N<0\/4611686018427387903<N): Calls Tryz.prog 63 #[YY 1 p A n c N] w (Yu [] 1 w):=by
 go_enter Tryz.func63,Tryz.ntmps63;go_wp2_with fail;refine(ZJV N _ h).mono ?_;rintro e w1 ⟨rfl,rfl⟩;go_wp2_with fail
 go_ret2
 exact YM ⟨rfl,(ZL.refl w).alloc _⟩
theorem ZOC (w:World)(p N:Int)(A:Option Addr)(n c:Nat)(hp:0<=p)(hp':p<32)(h:N<1\/4611686018427387903<N): Calls Tryz.prog 63 #[YY 3 p A n c N] w (Yu [] 1 w):=by
 rcases h with h|h
 ·go_enter Tryz.func63,Tryz.ntmps63;go_wp2_with fail
  go_ret2
  exact YM ⟨rfl,(ZL.refl w).alloc _⟩
 ·have h':¬N<1:=by omega
  go_enter Tryz.func63,Tryz.ntmps63;go_wp2_with fail
  go_ret2
  exact YM ⟨rfl,(ZL.refl w).alloc _⟩
theorem ZIh (w:World)(p N:Int)(A:Option Addr)(n c:Nat)(hp:0<=p)(hp':p<32)(h1:0<=N)(h2:N<=4611686018427387903)(hn:255<n): Calls Tryz.prog 63 #[YY 1 p A n c N] w (Yu [] 2 w):=by
 go_enter Tryz.func63,Tryz.ntmps63;go_wp2_with fail;refine(ZFv N _ h1 h2).mono ?_;rintro e w1 ⟨rfl,rfl⟩;go_wp2_with fail
 go_ret2
 exact YM ⟨rfl,(ZL.refl w).alloc _⟩
theorem ZIg (w:World)(p N:Int)(A:Option Addr)(n c:Nat)(hp:0<=p)(hp':p<32)(h1:1<=N)(h2:N<=4611686018427387903)(hn:255<n): Calls Tryz.prog 63 #[YY 3 p A n c N] w (Yu [] 2 w):=by
 go_enter Tryz.func63,Tryz.ntmps63;go_wp2_with fail
 go_ret2
 exact YM ⟨rfl,(ZL.refl w).alloc _⟩
theorem ZG7 (w:World)(op p N:Int)(A:Option Addr)(n c:Nat)(h:op=2\/op=4)(hp:0<=p)(hp':p<32)(hn:255<n): Calls Tryz.prog 63 #[YY op p A n c N] w (Yu [] 2 w):=by
 have q1:(op==1)=false:=by rw[ZcW];omega
 have q3:(op==3)=false:=by rw[ZcW];omega
 have h1:1<=op:=by omega
 have h2:op<5:=by omega
 have h3:op<=6:=by omega
 clear h;go_enter Tryz.func63,Tryz.ntmps63;go_wp2_with fail
 go_ret2
 exact YM ⟨rfl,(ZL.refl w).alloc _⟩
theorem ZDv {L:List Nat}{q:Int}{w w1 w2:World}{A:Option Addr}{c k:Nat}(hx:ZL w w1)(hk:L.length=k)(ho:w2.ownsRow w1.heap.size 5 1 (.slice A k c) k (ZV .u8 L))(hy:ZL w1 w2): Yu L q w (.returned (.tuple #[.slice A k c,.int .i64 q])) w2:=JE hk (Zg ho hx.size) (hx.trans hy)
theorem ZLt (w:World)(p N:Int)(A:Option Addr)(n c:Nat)(xs L:List Nat)(k:Nat)(hk:L.length=k)(hr:Rd w A (ZV .u8 xs))(hp:0<=p)(hp':p<32)(h1:0<=N)(h2:N<=4611686018427387903)(hn:n<=255)(hC:∀w,Rd w A (ZV .u8 xs)->Calls Tryz.prog 111 #[YY 1 p A n c N] w (ZDi L w)): Calls Tryz.prog 63 #[YY 1 p A n c N] w (Yu L 0 w):=by
 have HC:=ZA hC;have Hr:=ZA hr;have Hk:=ZA hk;clear hC hr hk;go_enter Tryz.func63,Tryz.ntmps63;go_wp2_with fail;refine(ZFv N _ h1 h2).mono ?_;rintro e w1 ⟨rfl,rfl⟩;go_wp2_with fail;refine(HC.o _ (Hr.o.alloc _)).mono ?_;rintro e w1 ⟨A1,c1,rfl,hown,hy⟩;rw[Hk.o]at hown ⊢;have Hown:=ZA hown;clear hown;go_wp2_with fail
 go_ret2
 exact ZDv ((ZL.refl w).alloc _) Hk.o Hown.o hy
theorem ZLs (w:World)(p N:Int)(A:Option Addr)(n c:Nat)(xs L:List Nat)(k:Nat)(hk:L.length=k)(hr:Rd w A (ZV .u8 xs))(hp:0<=p)(hp':p<32)(h1:1<=N)(h2:N<=4611686018427387903)(hn:n<=255)(hC:∀w,Rd w A (ZV .u8 xs)->Calls Tryz.prog 111 #[YY 3 p A n c N] w (ZDi L w)): Calls Tryz.prog 63 #[YY 3 p A n c N] w (Yu L 0 w):=by
 have HC:=ZA hC;have Hr:=ZA hr;have Hk:=ZA hk;clear hC hr hk;go_enter Tryz.func63,Tryz.ntmps63;go_wp2_with fail;refine(HC.o _ (Hr.o.alloc _)).mono ?_;rintro e w1 ⟨A1,c1,rfl,hown,hy⟩;rw[Hk.o]at hown ⊢;have Hown:=ZA hown;clear hown;go_wp2_with fail
 go_ret2
 exact ZDv ((ZL.refl w).alloc _) Hk.o Hown.o hy
theorem ZKA (w:World)(op p N:Int)(A:Option Addr)(n c:Nat)(xs L:List Nat)(k:Nat)(hk:L.length=k)(hr:Rd w A (ZV .u8 xs))(h:op=2\/op=4)(hp:0<=p)(hp':p<32)(hn:n<=255)(hC:∀w,Rd w A (ZV .u8 xs)->Calls Tryz.prog 111 #[YY op p A n c N] w (ZDi L w)): Calls Tryz.prog 63 #[YY op p A n c N] w (Yu L 0 w):=by
 have HC:=ZA hC;have Hr:=ZA hr;have Hk:=ZA hk;clear hC hr hk;have q1:(op==1)=false:=by rw[ZcW];omega
 have q3:(op==3)=false:=by rw[ZcW];omega
 have h1:1<=op:=by omega
 have h2:op<5:=by omega
 have h3:op<=6:=by omega
 clear h;go_enter Tryz.func63,Tryz.ntmps63;go_wp2_with fail;refine(HC.o _ (Hr.o.alloc _)).mono ?_;rintro e w1 ⟨A1,c1,rfl,hown,hy⟩;rw[Hk.o]at hown ⊢;have Hown:=ZA hown;clear hown;go_wp2_with fail
 go_ret2
 exact ZDv ((ZL.refl w).alloc _) Hk.o Hown.o hy
theorem ZJ9 (w:World)(op p N:Int)(A:Option Addr)(n c:Nat)(L:List Nat)(k:Nat)(hk:L.length=k)(h:op=5\/op=6)(hC:∀w,Calls Tryz.prog 111 #[YY op p A n c N] w (ZDi L w)): Calls Tryz.prog 63 #[YY op p A n c N] w (Yu L 0 w):=by
 have HC:=ZA hC;have Hk:=ZA hk;clear hC hk;have q1:(op==1)=false:=by rw[ZcW];omega
 have q3:(op==3)=false:=by rw[ZcW];omega
 have h1:1<=op:=by omega
 have h2:5<=op:=by omega
 have h3:op<=6:=by omega
 clear h;go_enter Tryz.func63,Tryz.ntmps63;go_wp2_with fail;refine(HC.o _).mono ?_;rintro e w1 ⟨A1,c1,rfl,hown,hy⟩;rw[Hk.o]at hown ⊢;have Hown:=ZA hown;clear hown;go_wp2_with fail
 go_ret2
 exact ZDv ((ZL.refl w).alloc _) Hk.o Hown.o hy
theorem ZER (op:Nat)(_hop:op<256)(p N:Int)(n:Nat)(xs:List Nat)(hl:xs.length=n)(hb:∀x ∈ xs,x<256): ∃(q:Int) (L:List Nat),ZTS op p xs N q L/\(∀A c w,Rd w A (ZV .u8 xs)->Calls Tryz.prog 61 #[YY (op:Int) p A n c N] w (Yu L q w))/\ (∀A c w,Rd w A (ZV .u8 xs)->Calls Tryz.prog 63 #[YY (op:Int) p A n c N] w (Yu L q w)):=by
 by_cases h0:op<1\/6<op
 ·exact⟨1,[],(.inl ⟨rfl,rfl,ZAJ ZB⟩),λA c w _=>ZQ6 w _ p N A n c ZB ZB,λA c w _=>ZOB w _ p N A n c ZB⟩
 by_cases h56:op=5\/op=6
 ·have hR:ZAs op 0 xs 0:=⟨by omega,by omega,λh=>by omega,λh=>by omega,λh=>by omega⟩;have hB:Yt op 0 xs 0=[op]:=by unfold Yt;rw[Zcf ZB,Zcg h56]
  refine⟨0,[op],.inr ⟨rfl,0,0,λh=>by omega,λh=>by omega,hR,hB.symm⟩,λA c w _=>?_,λA c w _=>ZJ9 w _ p N A n c [op] 1 rfl ZB (λw=>ZPI w op h56 p N A n c)⟩;rcases h56 with rfl|rfl
  ·exact ZQ8 w p N A n c
  ·exact ZQ7 w p N A n c
 by_cases h3:op=3
 ·subst h3;by_cases h1:N<1\/4611686018427387903<N\/p<0\/32<=p
  ·refine⟨1,[],(.inl ⟨rfl,rfl,ZAJ ZB⟩),λA c w hr=>ZJR w p N A n c xs 1 rfl hr (λw' _=>(ZGu w' p N A n c h1).mono λ_ _ h=>YM h),λA c w hr=>?_⟩;by_cases hp:p<0\/32<=p
   ·exact ZD8 w 3 p N A n c ZB ZB hp
   ·exact ZOC w p N A n c ZB ZB ZB
  ·by_cases h2:255<n
   ·exact⟨2,[],(.inl ⟨rfl,rfl,ZAJ ZB⟩),λA c w hr=>ZJR w p N A n c xs 2 rfl hr (λw' _=>(ZFh w' p N A n c ZB ZB ZB ZB h2).mono λ_ _ h=>YM h),λA c w hr=>ZIg w p N A n c ZB ZB ZB ZB h2⟩
   ·have hlen:(Y4 p.toNat xs N.toNat).length=n+16:=by rw[ZAQ,hl]
    have hR:ZAs 3 p.toNat xs N.toNat:=⟨by omega,by omega,λ_=>⟨by omega,by omega⟩,λh=>by omega,λ_=>⟨by omega,by omega⟩⟩;refine⟨0,3::Y4 p.toNat xs N.toNat,.inr ⟨rfl,p.toNat,N.toNat,λ_=>by omega,λ_=>by omega,hR,rfl⟩,λA c w hr=>ZRA w p N A n c xs _ _ hlen ZB hr (λw' hr'=>?_),λA c w hr=>ZLs w p N A n c xs _ _ (by rw[ZbA,hlen]) hr ZB ZB ZB ZB ZB (λw' hr'=>?_)⟩
    ·have:=ZIB w' p.toNat N.toNat A n c xs hl hb hr' ZB ZB ZB ZB
     rwa [show((p.toNat:Nat):Int)=p by omega,show((N.toNat:Nat):Int)=N by omega]at this
    ·have:=ZRG w' p.toNat N.toNat A n c xs hl hb hr' ZB ZB ZB ZB
     rwa [show((p.toNat:Nat):Int)=p by omega,show((N.toNat:Nat):Int)=N by omega]at this
 by_cases h1:op=1
 ·subst h1;by_cases hN:N<0\/4611686018427387903<N
  ·refine⟨1,[],(.inl ⟨rfl,rfl,ZAJ ZB⟩),λA c w _=>ZPC w p N A n c hN,λA c w _=>?_⟩;by_cases hp:p<0\/32<=p
   ·exact ZD8 w 1 p N A n c ZB ZB hp
   ·exact ZOD w p N A n c ZB ZB hN
  ·by_cases hp:p<0\/32<=p
   ·exact⟨1,[],(.inl ⟨rfl,rfl,ZAJ ZB⟩),λA c w _=>ZJT w p N A n c 1 rfl ZB ZB (λw=>ZC5 p A n c w hp),λA c w _=>ZD8 w 1 p N A n c ZB ZB hp⟩
   ·by_cases h2:255<n
    ·exact⟨2,[],(.inl ⟨rfl,rfl,ZAJ ZB⟩),λA c w _=>ZJT w p N A n c 2 rfl ZB ZB (λw=>ZCD p A n c w ZB ZB h2),λA c w _=>ZIh w p N A n c ZB ZB ZB ZB h2⟩
    ·obtain⟨P,rfl⟩:∃P:Nat,p=(P:Int):=⟨p.toNat,by omega⟩;obtain⟨M,rfl⟩:∃M:Nat,N=(M:Int):=⟨N.toNat,by omega⟩;have hR:ZAs 1 P xs M:=⟨by omega,by omega,λ_=>⟨by omega,by omega⟩,λ_=>by omega,λh=>by omega⟩;refine⟨0,Yt 1 P xs M,.inr ⟨rfl,P,M,λ_=>rfl,λ_=>rfl,hR,rfl⟩,λA c w hr=>ZRC w P M A n c xs hl hr ZB ZB ZB,λA c w hr=>ZLt w _ _ A n c xs _ _ rfl hr ZB ZB ZB ZB ZB (λw' hr'=>ZRH w' P M A n c xs hl hr' ZB ZB ZB)⟩
 ·have h24:op=2\/op=4:=by omega
  by_cases hp:p<0\/32<=p
  ·refine⟨1,[],(.inl ⟨rfl,rfl,ZAJ ZB⟩),λA c w _=>?_,λA c w _=>ZD8 w _ p N A n c ZB ZB hp⟩;rcases h24 with rfl|rfl
   ·exact ZJS w p N A n c 1 rfl (λw=>ZC5 p A n c w hp)
   ·exact ZJQ w p N A n c 1 rfl (λw=>ZC5 p A n c w hp)
  ·by_cases h2:255<n
   ·refine⟨2,[],(.inl ⟨rfl,rfl,ZAJ ZB⟩),λA c w _=>?_,λA c w _=>ZG7 w _ p N A n c ZB ZB ZB h2⟩;rcases h24 with rfl|rfl
    ·exact ZJS w p N A n c 2 rfl (λw=>ZCD p A n c w ZB ZB h2)
    ·exact ZJQ w p N A n c 2 rfl (λw=>ZCD p A n c w ZB ZB h2)
   ·obtain⟨P,rfl⟩:∃P:Nat,p=(P:Int):=⟨p.toNat,by omega⟩;have hR:ZAs op P xs 0:=⟨by omega,by omega,λ_=>⟨by omega,by omega⟩,λh=>by omega,λh=>by omega⟩;have hB:Yt op P xs 0=op::P::xs.length::xs:=by unfold Yt;rw[Zcf ZB,Zcf ZB,Zcf ZB,Zag]
    refine⟨0,Yt op P xs 0,.inr ⟨rfl,P,0,λ_=>rfl,λh=>by omega,hR,rfl⟩,λA c w hr=>?_,λA c w hr=>?_⟩
    ·rw[hB];rcases h24 with rfl|rfl
     ·exact ZRB w P N A n c xs hl hr ZB ZB
     ·exact ZQ9 w P N A n c xs hl hr ZB ZB
    ·rw[hB];exact ZKA w _ _ N A n c xs _ _ rfl hr ZB ZB ZB ZB (λw' hr'=>ZPJ w' op P h24 N A n c xs hl hr' ZB ZB)
end Go.Proofs.YtloidkmphigbdaaGreat
