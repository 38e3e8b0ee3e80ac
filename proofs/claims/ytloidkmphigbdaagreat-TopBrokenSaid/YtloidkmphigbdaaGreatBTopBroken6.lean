/- Laid together: what 'TopBroken' needs, part 6 of 11. -/
import Derived.Shelf.Spec.SlicesInsertGrow
import Derived.Deep.DeepCutAuto
import Derived.Shelf.Slices.Delete
import Derived.Deep.RegionHeld3
import Derived.Test.YtloidkmphigbdaaGreatBTopBroken1
import Derived.Test.YtloidkmphigbdaaGreatBTopBroken2
import Derived.Test.YtloidkmphigbdaaGreatBTopBroken3
import Derived.Test.YtloidkmphigbdaaGreatBTopBroken4
namespace Go.Proofs.YtloidkmphigbdaaGreat
set_option linter.all false
set_option maxHeartbeats 40000000
set_option maxRecDepth 100000
open Go.RowKit
def Za8 := @List.getElem?_zip_eq_some
def Zb7 := @Nat.min_def
def ZbC := @List.length_eq_zero_iff
def ZcG := @Nat.one_le_two_pow
theorem ZMv:(Tryz.prog.info? 62).map (λi=>(i.zero,i.size,i.bytes))=some (some (.agg #[.int .i64 0,.slice none 0 0,.int .i64 0,.slice none 0 0]),4,64):=by kernel_rfl
theorem ZEB:∀u:World,(sizeOf 62).run Tryz.prog u=.ok 4 u:=λ_=>by kernel_rfl
theorem ZEC:(Tryz.prog.info? 62).map (·.size)=some 4:=by kernel_rfl
theorem ZRq:∀w:World,(zeroValue 62).run Tryz.prog w=.ok (.agg #[.int .i64 0,.slice none 0 0,.int .i64 0,.slice none 0 0]) w:=λ_=>by kernel_rfl
theorem ZOS (n:Nat):((Builtin.zeroCells (Value.cells (.agg #[.int .i64 0,.slice none 0 0,.int .i64 0,.slice none 0 0])) n).toList).length=n*4/\∀v ∈ (Builtin.zeroCells (Value.cells (.agg #[.int .i64 0,.slice none 0 0,.int .i64 0,.slice none 0 0])) n).toList,v.oneCell'=true:=by
 refine⟨by rw[Array.length_toList,size_zeroCells];rfl,λv hv=>?_⟩;simp only[Builtin.zeroCells,Array.toList_map,ZbN]at hv;obtain⟨i,_,rfl⟩:=hv;have hi:i % 4<4:=ZcA _ ZB;show((.agg #[.int .i64 0,.slice none 0 0,.int .i64 0,.slice none 0 0]:Value).cells[i % 4]!).oneCell'=true;have h9:∀j,j<4->((.agg #[.int .i64 0,.slice none 0 0,.int .i64 0,.slice none 0 0]:Value).cells[j]!).oneCell'=true:=by decide
 exact h9 _ hi
theorem ZL7 {ops:Array Oper}{rest:List Oper}{o:Oper}{a:Act}{Q:Exit->Act->World->Prop}(w:World)(hgd:o.guard=none)(s x:Operand)(ho:o.op=.call {callee:=.builtin .append,args:=#[s,x],argTypes:=#[56,56]})(base:Nat){B:Option Addr}{n cb:Nat}{xs:List Value}(hs:a.eval s=.slice B n cb)(hown:w.ownsRow base 62 4 (.slice B n cb) n xs){A:Option Addr}{m c:Nat}{news:List Value}(hx:a.eval x=.slice A m c)(hl:news.length=m*4)(hr:Rd w A news)(h1:∀u ∈ news,u.oneCell'=true)(hb:n+m<=1000000)(hbase:base<=w.heap.size)(h:∀B' cb' w',w'.ownsRow base 62 4 (.slice B' (n+m) cb') (n+m) (xs++news)->w.grownBy w' (Value.slice B n cb).ownBlock-> ((Value.slice B' (n+m) cb').ownBlock=(Value.slice B n cb).ownBlock\/(Value.slice B' (n+m) cb').ownBlock=some w.heap.size)->wpList Tryz.prog ops Q rest (a.put o.dst (.slice B' (n+m) cb')) w'): wpList Tryz.prog ops Q (o::rest) a w:=by
 obtain⟨i0,hi,hz0,hz1,hz2⟩:=Zch ZMv;exact Yv w hgd s x 56 ho base 62 Tryz.underlying56 hi hz0 hz1 hz2 rfl (by decide) hs hown hx hl hr h1 (by unfold maxLen;omega) ZB hbase h
theorem ZRr (w:World)(A:Option Addr)(n c n' c':Nat):(binOp .eql 56 (.slice A n c) (.slice none n' c')).run Tryz.prog w=.ok (.bool A.isNone) w:=Zad w _ _ A n c n' c' Tryz.underlying56
def ZOU (n:Nat)(xs:List Value)(w:World)(e:Ending)(w':World):Prop:=∃B d,e=.returned (.slice B n d)/\w'.ownsRow w.heap.size 62 4 (.slice B n d) n xs/\ZL w w'
theorem ZGh (w:World)(A:Option Addr)(n c:Nat)(xs:List Value)(hl:xs.length=n*4)(hn:n<=100000)(hr:Rd w A xs)(h1:∀u ∈ xs,u.oneCell'=true): Calls Tryz.prog 184 #[.slice A n c] w (ZOU n xs w):=by
 have q:=ZRr;have Hl:=ZA hl;have Hr:=ZA hr;have H1:=ZA h1;cases A with
 |none=>
  have hx:xs=[]:=by
   rcases Classical.em (xs=[])with h|h
   ·exact h
   ·obtain⟨b,off,e,_⟩:=hr h;cases e
  have hn0:n=0:=by rw[hx]at hl;simp at hl;omega
  subst hn0 hx;clear hl hr h1;go_enter Tryz.func184,Tryz.ntmps184;go_wp2_with fail;go_ret;exact⟨none,0,rfl,ZcU _ _ _ _,ZL.refl _⟩
 |some a=>
  clear hl hr h1;have h0:(w.alloc (.cells #[] 62)).ownsRow w.heap.size 62 4 (.slice (some ⟨w.heap.size,0,none⟩) 0 0) 0 []:=XR w [] 62 4 0 rfl (ZcL _) (Zb0 _);go_enter Tryz.func184,Tryz.ntmps184;go_wp2_with (at_builtin;refine ZL7 _ rfl (.tmp 5) (.tmp 6) rfl w.heap.size rfl h0 rfl Hl.o (Hr.o.alloc _) H1.o ZB ZTv ?_;intro A' c' w1 hown hgrow _;simp only[ZcK,ZbV]at hown);go_ret;exact⟨A',c',rfl,hown,((ZL.refl w).alloc _).grown hgrow (by simp[Value.ownBlock])⟩
def ZDB (base:Nat)(A:Option Addr)(n c:Nat)(xs:List Value)(k:Nat)(nv:List Value)(w:World)(e:Ending)(w':World):Prop:=∃A' c',e=.returned (.slice A' (n+1) c')/\w'.ownsRow base 62 4 (.slice A' (n+1) c') (n+1) (ZIb 4 xs k nv)/\w.grownBy w' (Value.slice A n c).ownBlock
theorem ZSs {w:World}{vb:Nat}{nv:List Value}(h:w.heap[vb]?=some (.cells nv.toArray 62 (0,0))):Rd w (some ⟨vb,0,none⟩) nv:=λ_=>⟨vb,0,rfl,λj u hu=>by
 rw[ZcK,ZE h j,Za7];exact hu⟩
theorem ZL6 (w:World)(base:Nat)(A:Option Addr)(n c vb:Nat)(xs nv:List Value)(hnl:nv.length=4)(hn1:∀u ∈ nv,u.oneCell'=true)(hn:n<=100000)(ho:w.ownsRow base 62 4 (.slice A n c) n xs)(hv:w.heap[vb]?=some (.cells nv.toArray 62 (0,0)))(hbase:base<=w.heap.size): Calls Tryz.prog 286 #[.slice A n c,.int .i64 (n:Int),.slice (some ⟨vb,0,none⟩) 1 1] w (ZDB base A n c xs n nv w):=by
 have hnc:=Ys ho;have Ho:=ZA ho;have R:=ZA (ZSs hv);have Hl:=ZA ho.1;have Hn1:=ZA hn1;have Hnl:=ZA hnl;clear ho hv hn1 hnl;obtain⟨A0,hsl,_,_⟩:=ZDt (s:=4) Tryz.underlying56 ZEB (A:=A) (n:=n) (c:=c) (m:=0) (d:=c - n) n (ki:=(n:Int)) rfl hnc ZB ZB;go_enter Tryz.func286,Tryz.ntmps286;go_wp2_with (at_builtin;refine ZL7 _ rfl (.tmp 23) (.tmp 24) rfl base rfl Ho.o rfl (m:=1) (news:=nv) (by rw[ZcH];exact Hnl.o) R.o Hn1.o ZB hbase ?_;intro A' c' w1 hown hgrow _);go_ret;refine⟨A',c',rfl,?_,hgrow⟩;have e:ZIb 4 xs n nv=xs++nv:=by
  unfold ZIb;rw[Zbk (by rw[Hl.o];exact Zb0 _),Zan (by rw[Hl.o];exact Zb0 _),Zag]
 rw[e];exact hown
theorem ZKQ (w:World)(base:Nat)(A:Option Addr)(n c vb k:Nat)(xs nv:List Value)(hx1:∀u ∈ xs,u.oneCell'=true)(hnl:nv.length=4)(hn1:∀u ∈ nv,u.oneCell'=true)(hn:n<=100000)(hk:k<n)(hc:n<c)(hcm:c<=9223372036854775807)(ho:w.ownsRow base 62 4 (.slice A n c) n xs)(hv:w.heap[vb]?=some (.cells nv.toArray 62 (0,0)))(hne:(Value.slice A n c).ownBlock≠some vb): Calls Tryz.prog 286 #[.slice A n c,.int .i64 (k:Int),.slice (some ⟨vb,0,none⟩) 1 1] w (ZDB base A n c xs k nv w):=by
 have hl:xs.length=n*4:=ho.1;obtain⟨g,rfl,hg1,hg2⟩:=ZAk ho ZB;have hgv:vb≠g:=λe=>hne (by simp[Value.ownBlock,e]);obtain⟨us,hus,hm⟩:=ZK8 ho hc;have hshg:∃k',w.shape? g=some (62,k')/\k'≠0:=by
  rcases ho.2 with⟨h1,_⟩|⟨g',cap,cur,h1,_,hg,_,_,hcs,_⟩
  ·injection h1 with h1;cases h1
  ·injection h1 with h1 h3 h4;injection h1 with h1;injection h1 with h1;subst h1;refine⟨cur.size,?_,by omega⟩;simp[World.shape?,hg]
 obtain⟨kB,hsb,hkB⟩:=hshg;have hsa:w.shape? vb=some (62,4):=by simp[World.shape?,hv,hnl]
 have hov:∀lb cb,(callFunc 295 #[.slice (some ⟨vb,0,none⟩) 1 1,.slice (some ⟨g,(k+1)*4,none⟩) lb cb]).run Tryz.prog w=.ok (.value (.bool false)) w:=λlb cb=>by
  rw[run_callFunc_extern Tryz.func295 ZC ZC ZC (e:=Extern.SlicesOverlaps.overlaps #[56,56] #[4]) ZC,Lib.run_overlaps_apart w 56 4 62 Tryz.underlying56 4 ZEB ⟨vb,0,none⟩ ⟨g,(k+1)*4,none⟩ 1 1 lb cb hgv 62 62 4 kB hsa hsb hkB (ZF hv 0) (ZF hv 4)];rfl
 have hlen:(xs++us).length=(n+1)*4:=by rw[Za9,hl,hus];omega
 have hdl:(xs.drop (k*4)).length=(n - k)*4:=by rw[ZbB,hl];omega
 have hcell:∀j,j<(n+1)*4->w.cell? ⟨g,j,none⟩=(xs++us)[j]?:=λj hj=>hm.cellAt j hj;have hsome:∀j,j<(n+1)*4->(w.cell? ⟨g,j,none⟩).isSome=true:=λj hj=>by rw[hcell j hj,Zaz ZB];rfl
 have hfz:∀j,w.frozen? ⟨g,j,none⟩=false:=λj=>hm.frozenAt j;have hcp1:∀ty dc sc,(Builtin.copy_ #[56,56] ty #[.slice (some ⟨g,(k+1)*4,none⟩) (n - k) dc,.slice (some ⟨g,k*4,none⟩) (n+1 - k) sc]).run Tryz.prog w.drew=.ok (goInt ((n - k:Nat):Int)) (w.drew.setCells g ((k+1)*4) (xs.drop (k*4))):=λty dc sc=>
  Jj w.drew _ _ ty 62 4 g ((k+1)*4) (n - k) dc ⟨g,k*4,none⟩ (n+1 - k) sc (n - k) _ Tryz.underlying56 ZEC (by simp only[Zb7];split<;>omega) hdl
   (λj v hj=>by
    rw[ZaO];have hjl:j<(n - k)*4:=by rw[<-hdl];exact(Za0.1 hj).1
    refine(hcell (k*4+j) ZB).trans ?_;rw[Zav (by rw[hl];omega),<-hj,Zay])
   (λj hj=>hsome _ (by rw[hdl]at hj;omega)) (λj _=>hfz _) (λv hv=>hx1 v (ZbP hv))
 obtain⟨W1,hW1⟩:=ZTz (w.drew.setCells g ((k+1)*4) (xs.drop (k*4)));have hp1:=JP (xs.drop (k*4)) w.drew _ ((k+1)*4) hm.drew;rw[hW1]at hp1 hcp1;obtain⟨hm1,hG1⟩:=hp1;have hput1:Y0 (xs++us) ((k+1)*4) (xs.drop (k*4))=(xs++us).take ((k+1)*4)++xs.drop (k*4):=by
  rw[XQ _ _ _ (by rw[hlen,hdl];omega),show(xs++us).drop ((k+1)*4+(xs.drop (k*4)).length)=[]from Zan (by rw[hlen,hdl];omega),Zag]
 have hvW:W1.heap[vb]?=some (.cells nv.toArray 62 (0,0)):=Zj (show w.drew.heap[vb]?=_ from hv) hG1 hgv;have hlen1:(Y0 (xs++us) ((k+1)*4) (xs.drop (k*4))).length=(n+1)*4:=by rw[hput1,Za9,ZbG,hlen,hdl];omega
 have hcp2:∀ty dc,(Builtin.copy_ #[56,56] ty #[.slice (some ⟨g,k*4,none⟩) (n+1 - k) dc,.slice (some ⟨vb,0,none⟩) 1 1]).run Tryz.prog W1=.ok (goInt 1) (W1.setCells g (k*4) nv):=λty dc=>
  Jj W1 _ _ ty 62 4 g (k*4) (n+1 - k) dc ⟨vb,0,none⟩ 1 1 1 nv Tryz.underlying56 ZEC (by simp only[Zb7];split<;>omega) (by rw[hnl])
   (λj v hj=>by
    rw[ZaO,ZcK];exact(ZE hvW j).trans (by rw[Za7];exact hj))
   (λj hj=>by
    rw[hnl]at hj;rw[hm1.cellAt (k*4+j) ZB,Zaz ZB];rfl)
   (λj _=>hm1.frozenAt _) hn1
 have hp2:=JP nv W1 _ (k*4) hm1;obtain⟨W2,hW2⟩:=ZTz (W1.setCells g (k*4) nv);rw[hW2]at hp2 hcp2;have hfin:Y0 (Y0 (xs++us) ((k+1)*4) (xs.drop (k*4))) (k*4) nv=ZIb 4 xs k nv:=by
  rw[XQ _ _ _ (by rw[hlen1,hnl];omega),hput1];unfold ZIb;have h1:((xs++us).take ((k+1)*4)++xs.drop (k*4)).take (k*4)=xs.take (k*4):=by
   rw[Zbh (by rw[ZbG,hlen];omega),Zbm,Zb8 ZB,Zbh (by rw[hl];omega)]
  have h2:((xs++us).take ((k+1)*4)++xs.drop (k*4)).drop (k*4+nv.length)=xs.drop (k*4):=Zam (by rw[ZbG,hlen,hnl];omega);rw[h1,h2]
 have Fin:=ZA (show ZDB base (some ⟨g,0,none⟩) n c xs k nv w (.returned (.slice (some ⟨g,0,none⟩) (n+1) c)) W2 from⟨_,_,rfl,by rw[<-hfin];exact hp2.1,World.grown_trans (Yn hG1) hp2.2⟩);have HW1:=ZA hW1;have HW2:=ZA hW2;clear hp2 hfin hm hm1 hG1 hput1 hlen1 hsome hcell hfz hsa hsb hkB hlen hdl ho hv hvW hl hW1 hW2 hg1 hg2 hne hgv hx1 hn1;have hw1:IntKind.i64.wrap ((k:Int)+1)=(k:Int)+1:=by rw[Zaa];omega
 have hw2:IntKind.i64.wrap ((n:Int)+1)=(n:Int)+1:=by rw[Zaa];omega
 have hz2:¬((k:Int)=(n:Int)):=by omega
 have hb1:(0:Int)<=(k:Int)+1:=by omega
 have hin:k<=n:=by omega
 have htn:((k:Int)+1).toNat=k+1:=by omega
 have htn2:((n:Int)+1).toNat=n+1:=by omega
 have hb0:(0:Int)<=(n:Int)+1:=by omega
 have hb2:¬(c=k+1):=by omega
 have hb3:(k:Int)<=(n:Int)+1:=by omega
 have hb4:¬(c=k):=by omega
 have hb5:¬((c:Int)<(n:Int)+1):=by omega
 have hb6:(n:Int)+1<=(c:Int):=by omega
 have mixed:Tryz.prog.follows Departure.mixedOrders=true:=by kernel_rfl
 have hsz:=ZEB;go_enter Tryz.func286,Tryz.ntmps286;go_wp2_with (simp only[hov])
 go_region_law_o (refine step_copy_runI rfl _ _ 56 56 rfl _ _ (by simp[Act.eval,Act.put]) (by simp[Act.eval,Act.put]) (hcp1 _ _ _) ?_)
 go_wp2_with (at_builtin;refine wpList_copy_runI _ rfl _ _ 56 56 rfl _ _ rfl rfl (hcp2 _ _) ?_);go_ret;exact Fin.o
theorem ZKR (w:World)(base:Nat)(A:Option Addr)(n c vb k:Nat)(xs nv:List Value)(hx1:∀u ∈ xs,u.oneCell'=true)(hnl:nv.length=4)(hn1:∀u ∈ nv,u.oneCell'=true)(hn:n<=100000)(hk:k<n)(hnc:n<=c)(hc:c<n+1)(ho:w.ownsRow base 62 4 (.slice A n c) n xs)(hv:w.heap[vb]?=some (.cells nv.toArray 62 (0,0)))(hbase:base<=w.heap.size): Calls Tryz.prog 286 #[.slice A n c,.int .i64 (k:Int),.slice (some ⟨vb,0,none⟩) 1 1] w (ZDB base A n c xs k nv w):=by
 have hl:xs.length=n*4:=ho.1;obtain⟨g,rfl,hg1,hg2⟩:=ZAk ho ZB;obtain⟨i0,hi0,hz0,hzs,hzb⟩:=Zch ZMv;have hdl:(xs.drop (k*4)).length=(n - k)*4:=by rw[ZbB,hl];omega
 have htl:(xs.take (k*4)).length=k*4:=by rw[ZbG,hl];omega
 have hcell:∀j,j<n*4->w.cell? ⟨g,j,none⟩=xs[j]?:=λj hj=>ho.cellAt j hj;have hold:(Builtin.firstCells i0.size k (.slice (some ⟨g,0,none⟩) k c)).run Tryz.prog w.drew=.ok (xs.take (k*4)).toArray w.drew:=by
  rw[hzs]
  exact Zcm w.drew 4 k ⟨g,0,none⟩ k c (xs.take (k*4)) (by rw[htl]) (λj v hj=>by
   rw[ZaO,ZcK];have hjk:j<k*4:=by rw[<-htl];exact(Za0.1 hj).1
   rw[Za6,Zcg hjk]at hj;exact(hcell j ZB).trans hj)
 obtain⟨G,hG⟩:=ZTz (grownCap w (n+1) c 62);obtain⟨ROW,hROW⟩:∃ROW:Array Value,(xs.take (k*4)).toArray++Builtin.zeroCells (Value.cells (.agg #[.int .i64 0,.slice none 0 0,.int .i64 0,.slice none 0 0])) (n+1 - k)++Builtin.zeroCells (Value.cells (.agg #[.int .i64 0,.slice none 0 0,.int .i64 0,.slice none 0 0])) (G - (n+1))=ROW:=⟨_,rfl⟩;have hGn:n+1<=G:=by rw[<-hG];exact grownCap_ge w _ _ _
 have hGm:G<=maxLen:=by rw[<-hG];exact grownCap_le_maxLen w (n+1) c 62 (by unfold maxLen;omega)
 have hG63:G<=9223372036854775807:=by unfold maxLen at hGm;omega
 have hzz:(Value.cells (.agg #[.int .i64 0,.slice none 0 0,.int .i64 0,.slice none 0 0])).size=4:=rfl;have hRs:ROW.size=G*4:=by
  rw[<-hROW];simp only[Array.size_append,Zbf,size_zeroCells,hzz,htl];omega
 obtain⟨W1,hW1⟩:=ZTz (w.drew.alloc (.cells ROW 62));have hkk:(n:Int)+1 - (k:Int)=((n+1 - k:Nat):Int):=by omega
 have hrz:∀ty,(Builtin.append_ #[56,3] ty #[.slice (some ⟨g,0,none⟩) k c,.int .i64 ((n:Int)+1 - (k:Int))]).run Tryz.prog w=.ok (.slice (some ⟨w.heap.size,0,none⟩) (n+1) G) W1:=λty=>by
  have h:=Lib.run_append_grow_zeros w 56 3 ty 62 i0 _ .i64 .i64 Tryz.underlying56 Tryz.underlying3 hi0 hz0 (some ⟨g,0,none⟩) k c (xs.take (k*4)) hold (n+1 - k) ZB ZB ZB ZB (by rw[hzb];omega) (by rw[hzb,show k+(n+1 - k)=n+1 by omega];exact growslice_fits hc ZB);rw[show k+(n+1 - k)=n+1 by omega,hG,hROW,hW1]at h;rw[hkk];exact h
 have hO:W1.ownsRow base 62 4 (.slice (some ⟨w.heap.size,0,none⟩) (n+1) G) (n+1) (ROW.toList.take ((n+1)*4)):=by
  have h:=XR w.drew ROW.toList 62 4 G (by simpa using hRs) hGm (base:=base) hbase;rw[show ROW.toList.toArray=ROW by simp,hW1]at h;exact ZEX h hGn
 have hRl:(ROW.toList.take ((n+1)*4)).length=(n+1)*4:=by rw[ZbG,Array.length_toList,hRs];omega
 have hRt:(ROW.toList.take ((n+1)*4)).take (k*4)=xs.take (k*4):=by
  rw[Zbm,Zb8 ZB,<-hROW];simp only[Array.toList_append,Zae];exact Zbi htl
 have hE1:ZL w W1:=by rw[<-hW1];exact((ZL.refl w).drew).alloc _
 have hv1:=ZJ hv hE1;have hcp1:∀ty dc,(Builtin.copy_ #[56,56] ty #[.slice (some ⟨w.heap.size,k*4,none⟩) (n+1 - k) dc,.slice (some ⟨vb,0,none⟩) 1 1]).run Tryz.prog W1=.ok (goInt 1) (W1.setCells w.heap.size (k*4) nv):=λty dc=>
  Jj W1 _ _ ty 62 4 w.heap.size (k*4) (n+1 - k) dc ⟨vb,0,none⟩ 1 1 1 nv Tryz.underlying56 ZEC (by simp only[Zb7];split<;>omega) (by rw[hnl])
   (λj v hj=>by
    rw[ZaO,ZcK];exact(ZE hv1 j).trans (by rw[Za7];exact hj))
   (λj hj=>by
    rw[hnl]at hj;rw[hO.cellAt (k*4+j) ZB,Zaz ZB];rfl)
   (λj _=>hO.frozenAt _) hn1
 have hp1:=JP nv W1 _ (k*4) hO;obtain⟨W2,hW2⟩:=ZTz (W1.setCells w.heap.size (k*4) nv);rw[hW2]at hp1 hcp1;obtain⟨hm1,hG1⟩:=hp1;have hput1:Y0 (ROW.toList.take ((n+1)*4)) (k*4) nv=xs.take (k*4)++(nv++(ROW.toList.take ((n+1)*4)).drop (k*4+4)):=by
  rw[XQ _ _ _ (by rw[hRl,hnl];omega),hRt,hnl]
 have hlen1:(Y0 (ROW.toList.take ((n+1)*4)) (k*4) nv).length=(n+1)*4:=by rw[hput1,Za9,Za9,ZbB,htl,hnl,hRl];omega
 have hgN:g≠w.heap.size:=by omega
 have hsrc:∀j,j<n*4->W2.cell? ⟨g,j,none⟩=xs[j]?:=λj hj=>by
  have hc1:w.cell? ⟨g,j,none⟩=some (xs[j]'ZB):=by rw[hcell j hj,Zaz]
  have hc2:=ZG hE1 hc1;rw[Zaz ZB];exact(ZcQ (hG1.block g (ZcO W1 ⟨g,j,none⟩ hc2) (λq=>hgN (by injection q)))).trans hc2
 have hcp2:∀ty dc sc,(Builtin.copy_ #[56,56] ty #[.slice (some ⟨w.heap.size,(k+1)*4,none⟩) (n - k) dc,.slice (some ⟨g,k*4,none⟩) (n - k) sc]).run Tryz.prog W2.drew=.ok (goInt ((n - k:Nat):Int)) (W2.drew.setCells w.heap.size ((k+1)*4) (xs.drop (k*4))):=λty dc sc=>
  Jj W2.drew _ _ ty 62 4 w.heap.size ((k+1)*4) (n - k) dc ⟨g,k*4,none⟩ (n - k) sc (n - k) _ Tryz.underlying56 ZEC (by simp only[Zb7];split<;>omega) hdl
   (λj v hj=>by
    rw[ZaO];have hjl:j<(n - k)*4:=by rw[<-hdl];exact(Za0.1 hj).1
    refine(hsrc (k*4+j) ZB).trans ?_;rw[<-hj,Zay])
   (λj hj=>by
    rw[hdl]at hj;show(W2.cell? _).isSome=true;rw[hm1.cellAt _ ZB,Zaz ZB];rfl)
   (λj _=>hm1.frozenAt _) (λv hv=>hx1 v (ZbP hv))
 have hp2:=JP (xs.drop (k*4)) W2.drew _ ((k+1)*4) hm1.drew;obtain⟨W3,hW3⟩:=ZTz (W2.drew.setCells w.heap.size ((k+1)*4) (xs.drop (k*4)));rw[hW3]at hp2 hcp2;have hfin:Y0 (Y0 (ROW.toList.take ((n+1)*4)) (k*4) nv) ((k+1)*4) (xs.drop (k*4))=ZIb 4 xs k nv:=by
  rw[XQ _ _ _ (by rw[hlen1,hdl];omega)];rw[show(Y0 (ROW.toList.take ((n+1)*4)) (k*4) nv).drop ((k+1)*4+(xs.drop (k*4)).length)=[]from Zan (by rw[hlen1,hdl];omega),Zag,hput1];unfold ZIb;have h1:(xs.take (k*4)++(nv++(ROW.toList.take ((n+1)*4)).drop (k*4+4))).take ((k+1)*4)=xs.take (k*4)++nv:=by
   rw[<-Zae];exact Zbi (by rw[Za9,htl,hnl];omega)
  rw[h1,Zae]
 have Fin:=ZA (show ZDB base (some ⟨g,0,none⟩) n c xs k nv w (.returned (.slice (some ⟨w.heap.size,0,none⟩) (n+1) G)) W3 from⟨_,_,rfl,by rw[<-hfin];exact hp2.1,Xe (Jh (Xe (Z6 hE1 _) hG1 (Zb0 _))) hp2.2 (Zb0 _)⟩);clear hp2 hfin hm1 hG1 hput1 hlen1 hsrc hO hRl hRt hE1 hv1 hRs hROW hG hkk hold hcell hdl htl ho hv hl hW1 hW2 hW3 hg1 hGm hi0 hz0 hzs hzb hx1 hn1 hzz;have hw1:IntKind.i64.wrap ((k:Int)+1)=(k:Int)+1:=by rw[Zaa];omega
 have hw2:IntKind.i64.wrap ((n:Int)+1)=(n:Int)+1:=by rw[Zaa];omega
 have hw3:IntKind.i64.wrap ((n:Int)+1 - (k:Int))=(n:Int)+1 - (k:Int):=by rw[Zaa];omega
 have hz2:¬((k:Int)=(n:Int)):=by omega
 have hb1:(0:Int)<=(k:Int)+1:=by omega
 have hin:k<=n:=by omega
 have htn:((k:Int)+1).toNat=k+1:=by omega
 have hb2:¬(G=k+1):=by omega
 have hb3:(k:Int)<=(n:Int)+1:=by omega
 have hb4:¬(c=k):=by omega
 have hb7:¬(G=k):=by omega
 have hb5:(c:Int)<(n:Int)+1:=by omega
 have hb6:(k:Int)<=(c:Int):=by omega
 have mixed:Tryz.prog.follows Departure.mixedOrders=true:=by kernel_rfl
 have hsz:=ZEB;go_enter Tryz.func286,Tryz.ntmps286
 go_wp2_with (first
  |(at_builtin;refine Lib.wpList_append_run _ rfl _ _ _ _ rfl _ _ rfl rfl _ _ (hrz _) ?_)
  |(at_builtin;refine wpList_copy_runI _ rfl _ _ 56 56 rfl _ _ rfl rfl (hcp1 _ _) ?_))
 go_region_law_o (refine step_copy_runI rfl _ _ 56 56 rfl _ _ (by simp[Act.eval,Act.put]) (by simp[Act.eval,Act.put]) (hcp2 _ _ _) ?_)
 go_wp2;go_ret;exact Fin.o
theorem ZOT (w:World)(base:Nat)(A:Option Addr)(n c vb k:Nat)(xs nv:List Value)(hx1:∀u ∈ xs,u.oneCell'=true)(hnl:nv.length=4)(hn1:∀u ∈ nv,u.oneCell'=true)(hn:n<=100000)(hk:k<=n)(ho:w.ownsRow base 62 4 (.slice A n c) n xs)(hv:w.heap[vb]?=some (.cells nv.toArray 62 (0,0)))(hne:(Value.slice A n c).ownBlock≠some vb)(hbase:base<=w.heap.size): Calls Tryz.prog 286 #[.slice A n c,.int .i64 (k:Int),.slice (some ⟨vb,0,none⟩) 1 1] w (ZDB base A n c xs k nv w):=by
 have hnc:=Ys ho;by_cases h1:k=n
 ·subst h1;exact ZL6 w base A k c vb xs nv hnl hn1 hn ho hv hbase
 ·by_cases h2:n<c
  ·have hcm:c<=9223372036854775807:=by
    rcases ho.2 with⟨h3,h4⟩|⟨g,cap,cur,h3,_,_,_,h4,_⟩
    ·omega
    ·injection h3 with _ _ h3;unfold maxLen at h4;omega
   exact ZKQ w base A n c vb k xs nv hx1 hnl hn1 hn ZB h2 hcm ho hv hne
  ·exact ZKR w base A n c vb k xs nv hx1 hnl hn1 hn ZB hnc ZB ho hv hbase
def ZM0 (X:Zdb)(l:List ZO)(w:World)(e:Ending)(w':World):Prop:=∃A n c rs,l.length=n/\e=.returned (.slice A n c)/\Zq w' X A l rs/\ZL w w'
theorem ZGf {rs:List YI}{l:List ZO}(h:rs.length=l.length)(i:Nat)(r:YI)(c:ZO)(hi:i<l.length):Y0 (Yr rs l) (i*4) (Y1 r c)=Yr (rs.set i r) (l.set i c):=by
 have hlen:(Yr rs l).length=l.length*4:=ZCQ Y1 4 XL rs l h;rw[XQ _ _ _ (by rw[hlen,XL];omega),List.set_eq_take_append_cons_drop,Zcg (by rw[h];exact hi),List.set_eq_take_append_cons_drop,Zcg hi];unfold Yr;rw[ZFZ Y1 (by rw[ZbG,ZbG,h]),ZCs Y1 4 XL _ _ _ h,Zbo,Zat,ZEM Y1 4 XL _ _ _ h,XL,Zbt,ZcH]
theorem ZL5 {rs:List YI}{l:List ZO}(h:rs.length=l.length)(i:Nat)(r:YI)(c:ZO):ZIb 4 (Yr rs l) i (Y1 r c)=Yr (rs.take i++r::rs.drop i) (l.take i++c::l.drop i):=by
 unfold Yr ZIb;rw[ZFZ Y1 (by rw[ZbG,ZbG,h]),ZCs Y1 4 XL _ _ _ h,Zbo,Zat,ZEM Y1 4 XL _ _ _ h]
theorem ZCG (rs:List YI)(l:List ZO):∀v ∈ Yr rs l,v.oneCell'=true:=ZOq Y1 ZHx rs l
theorem Y9 {w:World}{base s:Nat}{e:TypeId}{A:Option Addr}{n c:Nat}{vs:List Value}(h:w.ownsRow base e s (.slice A n c) n vs):Rd w A vs:=λhne=>by
 rcases h.2 with⟨h1,h2⟩|⟨g,cap,cur,h1,_⟩
 ·exact absurd (ZbC.1 (by rw[h.1,h2,ZcM])) hne
 ·injection h1 with h1;subst h1;exact⟨g,0,rfl,λj u hu=>by rw[ZcK,h.cellAt j (by have:=(Za0.1 hu).1;have:=h.1;omega)];exact hu⟩
theorem ZAm {w:World}{X:Zdb}{base s:Nat}{e:TypeId}{A:Option Addr}{n c:Nat}{vs:List Value}(h:w.ownsRow base e s (.slice A n c) n vs)(hb:∀i,X i->i<base):Fz w X A:=λa ha=>by
 rcases h.2 with⟨h1,_⟩|⟨g,cap,cur,h1,hg,hh,_⟩
 ·injection h1 with h1;rw[h1]at ha;cases ha
 ·injection h1 with h1;rw[h1]at ha;injection ha with ha;subst ha;exact⟨λe=>by have h9:g<base:=hb _ e;omega,(ZaP.1 hh).1⟩
theorem ZC2 {w:World}{base s:Nat}{e:TypeId}{A:Option Addr}{n c:Nat}{vs:List Value}(h:w.ownsRow base e s (.slice A n c) n vs):∀a,A=some a->base<=a.block/\a.block<w.heap.size/\(Value.slice A n c).ownBlock=some a.block:=λa ha=>by
 rcases h.2 with⟨h1,_⟩|⟨g,cap,cur,h1,hg,hh,_⟩
 ·injection h1 with h1;rw[h1]at ha;cases ha
 ·injection h1 with h1;subst h1;injection ha with ha;subst ha;exact⟨hg,(ZaP.1 hh).1,rfl⟩
theorem ZLF {α:Type}{l:List α}{i:Nat}{a b:α}(h:b ∈ l.set i a):b=a\/b ∈ l:=(ZbS h).symm
theorem ZCc (A:Option Addr)(n c:Nat)(xs:List Nat)(w:World)(hl:xs.length=n)(hn:n<=140737488355328)(hr:Rd w A (ZV .u8 xs)):Calls Tryz.prog 67 #[.slice A n c] w (ZDi xs w):=by
 cases A with
 |none=>
  have hx:xs=[]:=by
   cases xs with
   |nil=>rfl
   |cons x t=>
    obtain⟨b,off,hA,_⟩:=hr (by simp[ZV]);cases hA
  subst hx;exact(ZHv w n c).mono λe w' ⟨he,hw⟩=>⟨none,0,he,ZcU _ _ _ _,hw ▸ ZL.refl w⟩
 |some a=>exact ZDd a n c xs w hl hn hr
theorem ZOf (w:World)(X:Zdb)(A:Option Addr)(n c at_:Nat)(l:List ZO)(rs:List YI)(ce:ZO)(r:YI)(hX:Z0 w X)(hl:l.length=n)(hn:n<=5000)(hE:Zq w X A l rs)(hP:YQ w X r ce)(JQ:at_<n): Calls Tryz.prog 256 #[.slice A n c,.int .i64 (at_:Int),.bool true,.agg #[.int .i64 (ce.pol:Int),.slice r.K ce.key.length r.kc,.int .i64 ce.tat,.slice r.H ce.held.length r.hc]] w (ZM0 X (l.set at_ ce) w):=by
 obtain⟨W,hW⟩:=ZTz ((w.alloc (.cells #[.int .i64 (ce.pol:Int),.slice r.K ce.key.length r.kc,.int .i64 ce.tat,.slice r.H ce.held.length r.hc] 62)));have xW:ZL w W:=by rw[<-hW];exact((ZL.refl w).alloc _)
 have K0:=ZA (show W.heap[w.heap.size]?=some (.cells #[.int .i64 (ce.pol:Int),.slice r.K ce.key.length r.kc,.int .i64 ce.tat,.slice r.H ce.held.length r.hc] 62 (0,0)) by rw[<-hW];exact ZM w _);have hlen:(Yr rs l).length=n*4:=by rw[<-hl];exact ZCQ Y1 4 XL rs l hE.1.1
 have CL:=ZA (ZGh W A n c (Yr rs l) hlen ZB (hE.1.2.1.ext xW) (ZCG rs l));have HE:=ZA hE;have HP:=ZA hP;have XW:=ZA xW;have HX:=ZA hX;have Hl:=ZA hl;have Hlen:=ZA hlen;clear hE hP xW hX hl hlen;go_enter Tryz.func256,Tryz.ntmps256;go_upto_region 1 with fail
 (try rw[hW])
 clear hW;go_wp2_with fail;refine CL.o.mono ?_;rintro e w1 ⟨B,d,rfl,ho,hx⟩;obtain⟨g,rfl,hg1,hg2⟩:=ZAk ho (by have:=Ys ho;omega);have KB:=ZJ K0.o hx;have b0:=ZE KB 0;have b1:=ZE KB 1;have b2:=ZE KB 2;have b3:=ZE KB 3;have hs:∀j,j<4->∃v,w1.cell? ⟨g,at_*4+j,none⟩=some v:=λj hj=>by
  rw[ho.cellAt (at_*4+j) ZB,Zaz (by have:=Hlen.o;omega)];exact⟨_,rfl⟩
 obtain⟨v0,s0⟩:=hs 0 ZB;obtain⟨v1,s1⟩:=hs 1 ZB;obtain⟨v2,s2⟩:=hs 2 ZB;obtain⟨v3,s3⟩:=hs 3 ZB;rw[Zbw]at s0;have f0:=ho.frozenAt (at_*4);have f1:=ho.frozenAt (at_*4+1);have f2:=ho.frozenAt (at_*4+2);have f3:=ho.frozenAt (at_*4+3);have HO:=ZA ho;have X1:=ZA hx;have hg0:g≠w.heap.size:=λe=>by have:=ZW K0.o;omega
 clear ho hx KB hs;go_wp2_with fail;go_ret;obtain⟨hp1,hp2⟩:=JP (Y1 r ce) w1 _ (at_*4) HO.o;rw[ZGf HE.o.1.1 at_ r ce (by rw[Hl.o];exact JQ)]at hp1;obtain⟨w2,hw2⟩:=ZTz (w1.setCells g (at_*4) (Y1 r ce));have hw3:(((w1.setCell ⟨g,at_*4,none⟩ (.int .i64 (ce.pol:Int))).setCell ⟨g,at_*4+1,none⟩ (.slice r.K ce.key.length r.kc)).setCell ⟨g,at_*4+2,none⟩ (.int .i64 ce.tat)).setCell ⟨g,at_*4+3,none⟩ (.slice r.H ce.held.length r.hc)=w2:=hw2;rw[hw3];rw[hw2]at hp1 hp2;have xF:ZL w w2:=Ya (XW.o.trans X1.o) hp2 (by have:=XW.o.size;omega);refine⟨some ⟨g,0,none⟩,n,d,rs.set at_ r,by rw[ZbF];exact Hl.o,rfl,⟨⟨by rw[ZbF,ZbF];exact HE.o.1.1,Y9 hp1,λi r' c' hr' hc'=>?_⟩,ZAm hp1 (λi hi=>Zb5 (HX.o i hi) XW.o.size),λr' hr'=>?_⟩,xF⟩
 ·by_cases e:at_=i
  ·subst e;rw[Za5 (by rw[HE.o.1.1,Hl.o];exact JQ)]at hr';rw[Za5 (by rw[Hl.o];exact JQ)]at hc';injection hr' with hr';injection hc' with hc';subst hr' hc';exact(HP.o.ext xF).1
  ·rw[Za4 e]at hr' hc';exact(HE.o.1.2.2 i r' c' hr' hc').ext xF
 ·rcases ZLF hr' with h|h
  ·rw[h];exact(HP.o.ext xF).2
  ·exact((HE.o.ext xF).2.2 r' h)
theorem ZOe (w:World)(X:Zdb)(A:Option Addr)(n c at_:Nat)(l:List ZO)(rs:List YI)(ce:ZO)(r:YI)(hX:Z0 w X)(hl:l.length=n)(hn:n<=5000)(hE:Zq w X A l rs)(hP:YQ w X r ce)(JQ:at_<=n)(hk:ce.key.length<=255): Calls Tryz.prog 256 #[.slice A n c,.int .i64 (at_:Int),.bool false,.agg #[.int .i64 (ce.pol:Int),.slice r.K ce.key.length r.kc,.int .i64 ce.tat,.slice r.H ce.held.length r.hc]] w (ZM0 X (l.take at_++ce::l.drop at_) w):=by
 obtain⟨W,hW⟩:=ZTz ((w.alloc (.cells #[.int .i64 (ce.pol:Int),.slice r.K ce.key.length r.kc,.int .i64 ce.tat,.slice r.H ce.held.length r.hc] 62)));have xW:ZL w W:=by rw[<-hW];exact((ZL.refl w).alloc _)
 have K0:=ZA (show W.heap[w.heap.size]?=some (.cells #[.int .i64 (ce.pol:Int),.slice r.K ce.key.length r.kc,.int .i64 ce.tat,.slice r.H ce.held.length r.hc] 62 (0,0)) by rw[<-hW];exact ZM w _);have hlen:(Yr rs l).length=n*4:=by rw[<-hl];exact ZCQ Y1 4 XL rs l hE.1.1
 have CL:=ZA (ZGh W A n c (Yr rs l) hlen ZB (hE.1.2.1.ext xW) (ZCG rs l));have HE:=ZA hE;have HP:=ZA hP;have XW:=ZA xW;have HX:=ZA hX;have Hl:=ZA hl;have Hlen:=ZA hlen;have KC:=ZA (λu (x:ZL w u)=>ZCc r.K ce.key.length r.kc ce.key u rfl ZB (hP.1.2.1.ext x));clear hE hP xW hX hl hlen;go_enter Tryz.func256,Tryz.ntmps256;go_upto_region 1 with fail
 (try rw[hW])
 clear hW;go_wp2_with fail;refine CL.o.mono ?_;rintro e w1 ⟨B,d,rfl,ho,hx⟩;have HO:=ZA ho;have X1:=ZA hx;have K1:=ZA (ZJ K0.o hx);have b1:=ZE K1.o 1;clear ho hx;go_wp2_with fail;refine(KC.out w1 (XW.o.trans X1.o)).mono ?_;rintro e w2 ⟨K',kc',rfl,ok,hx⟩;have HOK:=ZA ok;have X2:=ZA hx;have K2:=ZA (ZJ K1.o hx);clear ok hx b1;have b0:=ZE K2.o 0;have b1:=ZE K2.o 1;have b2:=ZE K2.o 2;have b3:=ZE K2.o 3;have y1:=ZF K2.o 1;have hw0:w.heap.size<W.heap.size:=ZW K0.o;have z12:=X1.o.size;have z22:=X2.o.size;obtain⟨V,hV⟩:=ZTz ((w2.setCell ⟨w.heap.size,1,none⟩ (.slice K' ce.key.length kc')).alloc (.cells #[.int .i64 (ce.pol:Int),.slice K' ce.key.length kc',.int .i64 ce.tat,.slice r.H ce.held.length r.hc] 62));have gV:GB w1 V (· =w.heap.size):=by rw[<-hV];exact(((GB.refl w1 (· =w.heap.size)).ext X2.o).set w.heap.size 1 _ (.inl rfl)).alloc _
 have gV2:GB w2 V (· =w.heap.size):=by rw[<-hV];exact((GB.refl w2 (· =w.heap.size)).set w.heap.size 1 _ (.inl rfl)).alloc _
 have hv:V.heap[w2.heap.size]?=some (.cells (Y1 ⟨K',kc',r.H,r.hc⟩ ce).toArray 62 (0,0)):=by rw[<-hV];exact Zd _ _ ZTv
 have hoV:=gV.own HO.o (λq e e2=>by have:=Yg HO.o q e;omega);have IN:=ZA (ZOT V W.heap.size B n d w2.heap.size at_ (Yr rs l) (Y1 ⟨K',kc',r.H,r.hc⟩ ce) (ZCG rs l) rfl (ZHx _ _) ZB JQ hoV hv (λe=>by have:=(HO.o.lt _ e).2;omega) (by have:=gV.size;omega));have HV:=ZA hV;have GV2:=ZA gV2;clear gV gV2 hv hoV hV;go_upto_region 6 with fail;go_wp2_with fail
 (try rw[HV.o])
 refine IN.o.mono ?_;rintro e w3 ⟨A3,c3,rfl,o3,g3⟩;have O3:=ZA o3;have G3:=ZA g3;clear o3 g3 b0 b1 b2 b3 y1;go_wp2_with fail;go_ret;have o3:=O3.o;rw[ZL5 HE.o.1.1]at o3;have g23:GB w2 w3 (λi=>i=w.heap.size\/(Value.slice B n d).ownBlock=some i):=(GV2.o.more (λi _ e=>.inl e)).grown G3.out (λq e=>.inl (.inr e));have xF:ZL w w3:=GB.to_ext g23 (XW.o.trans (X1.o.trans X2.o)) (λi e=>e.elim (λe=>by omega) (λe=>by have:=Yg HO.o i e;omega));have hlr:=HE.o.1.1
 have hKr:Rd w3 K' (ZV .u8 ce.key):=g23.rd (Rd.of_own HOK.o) (λp hp e=>by
  obtain⟨h1,h2,h3⟩:=ZC2 HOK.o p hp;rcases e with e|e
  ·omega
  ·have:=(HO.o.lt _ e).2;omega)
 have hKf:Fz w3 X K':=λa ha=>by
  obtain⟨h1,h2,h3⟩:=ZC2 HOK.o a ha;exact⟨HX.o.not (by have:=XW.o.size;omega),Zb5 h2 g23.size⟩
 have hPr:ZBd w3 ⟨K',kc',r.H,r.hc⟩ ce:=⟨Ys HOK.o,hKr,(HP.o.ext xF).1.2.2⟩;refine⟨A3,n+1,c3,rs.take at_++⟨K',kc',r.H,r.hc⟩::rs.drop at_,?_,rfl,⟨⟨?_,Y9 o3,λi r' c' hr' hc'=>?_⟩,ZAm o3 (λi hi=>Zb5 (HX.o i hi) XW.o.size),λr' hr'=>?_⟩,xF⟩
 ·rw[Za9,ZbG,ZbA,ZbB,Hl.o];omega
 ·rw[Za9,ZbG,ZbA,ZbB,Za9,ZbG,ZbA,ZbB,hlr]
 ·have hz:(rs.take at_++(⟨K',kc',r.H,r.hc⟩:YI)::rs.drop at_).zip (l.take at_++ce::l.drop at_)=(rs.take at_).zip (l.take at_)++(⟨K',kc',r.H,r.hc⟩,ce)::(rs.drop at_).zip (l.drop at_):=by
   rw[List.zip_append (by rw[ZbG,ZbG,hlr]),Zbo]
  have hm:(r',c') ∈ (rs.take at_).zip (l.take at_)++(⟨K',kc',r.H,r.hc⟩,ce)::(rs.drop at_).zip (l.drop at_):=by
   rw[<-hz];exact ZbO (Za8.2 ⟨hr',hc'⟩)
  have hall:∀p ∈ rs.zip l,ZBd w3 p.1 p.2:=λp hp=>by
   obtain⟨j,hj⟩:=Za2 hp;obtain⟨h1,h2⟩:=Za8.1 hj;exact(HE.o.1.2.2 j _ _ h1 h2).ext xF
  rcases ZbI.1 hm with h|h
  ·refine hall (r',c') ?_;unfold List.zip at h ⊢;rw[<-List.take_zipWith]at h;exact ZbR h
  ·rcases ZbJ.1 h with h|h
   ·injection h with h1 h2;rw[h1,h2];exact hPr
   ·refine hall (r',c') ?_;unfold List.zip at h ⊢;rw[<-List.drop_zipWith]at h;exact ZbP h
 ·rcases ZbI.1 hr' with h|h
  ·exact(HE.o.ext xF).2.2 r' (ZbR h)
  ·rcases ZbJ.1 h with h|h
   ·rw[h];exact⟨hKf,(HP.o.ext xF).2.2⟩
   ·exact(HE.o.ext xF).2.2 r' (ZbP h)
def ZOp (base:Nat)(A:Option Addr)(n c:Nat)(xs:List Int)(k:Nat)(t:Int)(w:World)(e:Ending)(w':World):Prop:=∃A' c',e=.returned (.slice A' (n+1) c')/\w'.ownsRow base 2 1 (.slice A' (n+1) c') (n+1) (Zm (ZBP xs k t))/\w.grownBy w' (Value.slice A n c).ownBlock
theorem ZRI {w:World}{vb:Nat}{t:Int}(h:w.heap[vb]?=some (.cells #[.int .i64 t] 2 (0,0))):Rd w (some ⟨vb,0,none⟩) (Zm [t]):=λ_=>⟨vb,0,rfl,λj u hu=>by
 cases j with
 |zero=>rw[ZE h 0];exact hu
 |succ j=>simp[Zm]at hu⟩
theorem ZLa (w:World)(base:Nat)(A:Option Addr)(n c vb:Nat)(xs:List Int)(t:Int)(hl:xs.length=n)(hn:n<=1000)(ho:w.ownsRow base 2 1 (.slice A n c) n (Zm xs))(hv:w.heap[vb]?=some (.cells #[.int .i64 t] 2 (0,0)))(hbase:base<=w.heap.size): Calls Tryz.prog 292 #[.slice A n c,.int .i64 (n:Int),.slice (some ⟨vb,0,none⟩) 1 1] w (ZOp base A n c xs n t w):=by
 have hnc:=Ys ho;have Ho:=ZA ho;have R:=ZA (ZRI hv);have Hl:=ZA hl;clear ho hv hl;obtain⟨A0,hsl,_,_⟩:=XP Tryz.underlying60 ZJM (A:=A) (n:=n) (c:=c) (m:=0) (d:=c - n) n (ki:=(n:Int)) rfl hnc ZB ZB;go_enter Tryz.func292,Tryz.ntmps292;go_wp2_with (at_builtin;refine ZMx _ rfl (.tmp 23) (.tmp 24) rfl base rfl Ho.o rfl (m:=1) (news:=[t]) rfl R.o ZB hbase ?_;intro A' c' w1 hown hgrow _);go_ret;refine⟨A',c',rfl,?_,hgrow⟩;have e:ZBP xs n t=xs++[t]:=by
  unfold ZBP;rw[Zbk (by rw[Hl.o];exact Zb0 _),Zan (by rw[Hl.o];exact Zb0 _)]
 rw[e];exact hown
theorem ZMn:(Tryz.prog.info? 2).map (·.size)=some 1:=by kernel_rfl
theorem ZHi (xs:List Int)(k:Nat)(t:Int):Zm (ZBP xs k t)=(Zm xs).take k++([.int .i64 t]++(Zm xs).drop k):=by
 simp[Zm,ZBP,List.map_take,List.map_drop]
theorem ZJw (w:World)(base:Nat)(A:Option Addr)(n c vb k:Nat)(xs:List Int)(t:Int)(hl:xs.length=n)(hn:n<=1000)(hk:k<n)(hc:n<c)(hcm:c<=9223372036854775807)(ho:w.ownsRow base 2 1 (.slice A n c) n (Zm xs))(hv:w.heap[vb]?=some (.cells #[.int .i64 t] 2 (0,0)))(hne:(Value.slice A n c).ownBlock≠some vb): Calls Tryz.prog 292 #[.slice A n c,.int .i64 (k:Int),.slice (some ⟨vb,0,none⟩) 1 1] w (ZOp base A n c xs k t w):=by
 obtain⟨g,rfl,hg1,hg2⟩:=ZGA ho ZB;have hgv:vb≠g:=λe=>hne (by simp[Value.ownBlock,e]);obtain⟨u,hm⟩:=ZPR ho hc;have hshg:∃k',w.shape? g=some (2,k')/\k'≠0:=by
  rcases ho.2 with⟨h1,_⟩|⟨g',cap,cur,h1,_,hg,_,_,hcs,_⟩
  ·injection h1 with h1;cases h1
  ·injection h1 with h1 h3 h4;injection h1 with h1;injection h1 with h1;subst h1;refine⟨cur.size,?_,by omega⟩;simp[World.shape?,hg]
 obtain⟨kB,hsb,hkB⟩:=hshg;have hsa:w.shape? vb=some (2,1):=by simp[World.shape?,hv]
 have hov:∀lb cb,(callFunc 297 #[.slice (some ⟨vb,0,none⟩) 1 1,.slice (some ⟨g,k+1,none⟩) lb cb]).run Tryz.prog w=.ok (.value (.bool false)) w:=λlb cb=>by
  rw[run_callFunc_extern Tryz.func297 ZC ZC ZC (e:=Extern.SlicesOverlaps.overlaps #[60,60] #[4]) ZC,Lib.run_overlaps_apart w 60 4 2 Tryz.underlying60 1 ZJM ⟨vb,0,none⟩ ⟨g,k+1,none⟩ 1 1 lb cb hgv 2 2 1 kB hsa hsb hkB (ZF hv 0) (ZF hv 1)];rfl
 have hlen:(Zm xs++[u]).length=n+1:=by simp[YZ,hl]
 have hdl:((Zm xs).drop k).length=n - k:=by rw[ZbB,YZ,hl]
 have hcell:∀j,j<n+1->w.cell? ⟨g,j,none⟩=(Zm xs++[u])[j]?:=λj hj=>hm.cellAt j ZB;have hsome:∀j,j<n+1->(w.cell? ⟨g,j,none⟩).isSome=true:=λj hj=>by rw[hcell j hj,Zaz ZB];rfl
 have hfz:∀j,w.frozen? ⟨g,j,none⟩=false:=λj=>hm.frozenAt j;have hcp1:∀ty dc sc,(Builtin.copy_ #[60,60] ty #[.slice (some ⟨g,k+1,none⟩) (n - k) dc,.slice (some ⟨g,k,none⟩) (n+1 - k) sc]).run Tryz.prog w.drew=.ok (goInt ((Zm xs).drop k).length) (w.drew.setCells g (k+1) ((Zm xs).drop k)):=λty dc sc=>
  run_copy_cells w.drew _ _ ty 2 g (k+1) (n - k) dc ⟨g,k,none⟩ (n+1 - k) sc _ Tryz.underlying60 ZMn (by rw[hdl];simp only[Zb7];split<;>omega)
   (λj v hj=>by
    rw[ZaO];have hjl:j<n - k:=by rw[<-hdl];exact(Za0.1 hj).1
    refine(hcell (k+j) ZB).trans ?_;rw[Zav (by rw[YZ,hl];omega),<-hj,Zay])
   (λj hj=>hsome _ (by rw[hdl]at hj;omega)) (λj _=>hfz _) (λv hv=>ZC4 xs v (ZbP hv))
 obtain⟨W1,hW1⟩:=ZTz (w.drew.setCells g (k+1) ((Zm xs).drop k));have hp1:=ZCB ((Zm xs).drop k) w.drew _ (k+1) hm.drew;rw[hW1]at hp1 hcp1;obtain⟨hm1,hG1⟩:=hp1;have hput1:Y0 (Zm xs++[u]) (k+1) ((Zm xs).drop k)=(Zm xs++[u]).take (k+1)++(Zm xs).drop k:=by
  rw[XQ _ _ _ (by rw[hlen,hdl];omega),show(Zm xs++[u]).drop (k+1+((Zm xs).drop k).length)=[]from Zan (by rw[hlen,hdl];omega),Zag]
 have hvW:W1.heap[vb]?=some (.cells #[.int .i64 t] 2 (0,0)):=Zj (show w.drew.heap[vb]?=_ from hv) hG1 hgv;have hlen1:(Y0 (Zm xs++[u]) (k+1) ((Zm xs).drop k)).length=n+1:=by rw[hput1];simp[YZ,hl];omega
 have hcp2:∀ty dc,(Builtin.copy_ #[60,60] ty #[.slice (some ⟨g,k,none⟩) (n+1 - k) dc,.slice (some ⟨vb,0,none⟩) 1 1]).run Tryz.prog W1=.ok (goInt ([Value.int .i64 t]).length) (W1.setCells g k [.int .i64 t]):=λty dc=>
  run_copy_cells W1 _ _ ty 2 g k (n+1 - k) dc ⟨vb,0,none⟩ 1 1 [.int .i64 t] Tryz.underlying60 ZMn (by simp only[Zb7,List.length_singleton];split<;>omega)
   (λj v hj=>by
    cases j with
    |zero=>rw[ZaO];exact(ZE hvW 0).trans (by simpa using hj)
    |succ j=>simp at hj)
   (λj hj=>by
    have hj0:j=0:=by simpa using hj
    subst hj0;rw[hm1.cellAt (k+0) ZB,Zaz ZB];rfl)
   (λj _=>hm1.frozenAt _) (by intro v hv;simp at hv;subst hv;rfl)
 have hp2:=ZCB [.int .i64 t] W1 _ k hm1;obtain⟨W2,hW2⟩:=ZTz (W1.setCells g k [.int .i64 t]);rw[hW2]at hp2 hcp2;have hfin:Y0 (Y0 (Zm xs++[u]) (k+1) ((Zm xs).drop k)) k [.int .i64 t]=Zm (ZBP xs k t):=by
  rw[XQ _ _ _ (by rw[hlen1];simp;omega),hput1,ZHi];have h1:((Zm xs++[u]).take (k+1)++(Zm xs).drop k).take k=(Zm xs).take k:=by
   rw[Zbh (by simp[YZ,hl];omega),Zbm,Zb8 ZB,Zbh (by rw[YZ,hl];omega)]
  have h2:((Zm xs++[u]).take (k+1)++(Zm xs).drop k).drop (k+1)=(Zm xs).drop k:=Zam (by simp[YZ,hl];omega);rw[h1,List.length_singleton,h2]
 have Fin:=ZA (show ZOp base (some ⟨g,0,none⟩) n c xs k t w (.returned (.slice (some ⟨g,0,none⟩) (n+1) c)) W2 from⟨_,_,rfl,by rw[<-hfin];exact hp2.1,World.grown_trans (Yn hG1) hp2.2⟩);have HW1:=ZA hW1;have HW2:=ZA hW2;clear hp2 hfin hm hm1 hG1 hput1 hlen1 hsome hcell hfz hsa hsb hkB hlen hdl ho hv hvW hl hW1 hW2 hg1 hg2 hne hgv;have hw1:IntKind.i64.wrap ((k:Int)+1)=(k:Int)+1:=by rw[Zaa];omega
 have hw2:IntKind.i64.wrap ((n:Int)+1)=(n:Int)+1:=by rw[Zaa];omega
 have hz2:¬((k:Int)=(n:Int)):=by omega
 have hb1:(0:Int)<=(k:Int)+1:=by omega
 have hin:k<=n:=by omega
 have htn:((k:Int)+1).toNat=k+1:=by omega
 have htn2:((n:Int)+1).toNat=n+1:=by omega
 have hb0:(0:Int)<=(n:Int)+1:=by omega
 have hb2:¬(c=k+1):=by omega
 have hb3:(k:Int)<=(n:Int)+1:=by omega
 have hb4:¬(c=k):=by omega
 have hb5:¬((c:Int)<(n:Int)+1):=by omega
 have hb6:(n:Int)+1<=(c:Int):=by omega
 have mixed:Tryz.prog.follows Departure.mixedOrders=true:=by kernel_rfl
 go_enter Tryz.func292,Tryz.ntmps292;go_wp2_with (simp only[hov])
 go_region_law_o (refine step_copy_runI rfl _ _ 60 60 rfl _ _ (by simp[Act.eval,Act.put]) (by simp[Act.eval,Act.put]) (hcp1 _ _ _) ?_)
 go_wp2_with (at_builtin;refine wpList_copy_runI _ rfl _ _ 60 60 rfl _ _ rfl rfl (hcp2 _ _) ?_);go_ret;exact Fin.o
theorem ZJx (w:World)(base:Nat)(A:Option Addr)(n c vb k:Nat)(xs:List Int)(t:Int)(hl:xs.length=n)(hn:n<=1000)(hk:k<n)(hnc:n<=c)(hc:c<n+1)(ho:w.ownsRow base 2 1 (.slice A n c) n (Zm xs))(hv:w.heap[vb]?=some (.cells #[.int .i64 t] 2 (0,0)))(hbase:base<=w.heap.size): Calls Tryz.prog 292 #[.slice A n c,.int .i64 (k:Int),.slice (some ⟨vb,0,none⟩) 1 1] w (ZOp base A n c xs k t w):=by
 obtain⟨g,rfl,hg1,hg2⟩:=ZGA ho ZB;obtain⟨i0,hi0,hz0,hzs,hzb⟩:=Zch ZGL;have hdl:((Zm xs).drop k).length=n - k:=by rw[ZbB,YZ,hl]
 have htl:((Zm xs).take k).length=k:=by rw[ZbG,YZ,hl];omega
 have hcell:∀j,j<n->w.cell? ⟨g,j,none⟩=(Zm xs)[j]?:=λj hj=>ho.cellAt j ZB;have hold:(Builtin.firstCells i0.size k (.slice (some ⟨g,0,none⟩) k c)).run Tryz.prog w.drew=.ok ((Zm xs).take k).toArray w.drew:=by
  rw[hzs]
  exact Zcm w.drew 1 k ⟨g,0,none⟩ k c ((Zm xs).take k) (by rw[htl];omega) (λj v hj=>by
   rw[ZaO,ZcK];have hjk:j<k:=by rw[<-htl];exact(Za0.1 hj).1
   rw[Za6,Zcg hjk]at hj;exact(hcell j ZB).trans hj)
 obtain⟨G,hG⟩:=ZTz (grownCap w (n+1) c 2);obtain⟨ROW,hROW⟩:∃ROW:Array Value,((Zm xs).take k).toArray++Builtin.zeroCells (Value.int .i64 0).cells (n+1 - k)++Builtin.zeroCells (Value.int .i64 0).cells (G - (n+1))=ROW:=⟨_,rfl⟩;have hGn:n+1<=G:=by rw[<-hG];exact grownCap_ge w _ _ _
 have hGm:G<=maxLen:=by rw[<-hG];exact grownCap_le_maxLen w (n+1) c 2 (by unfold maxLen;omega)
 have hG63:G<=9223372036854775807:=by unfold maxLen at hGm;omega
 have hRs:ROW.size=G:=by
  rw[<-hROW];simp[Builtin.zeroCells,Value.cells,YZ,hl];omega
 obtain⟨W1,hW1⟩:=ZTz (w.drew.alloc (.cells ROW 2));have hkk:(n:Int)+1 - (k:Int)=((n+1 - k:Nat):Int):=by omega
 have hrz:∀ty,(Builtin.append_ #[60,3] ty #[.slice (some ⟨g,0,none⟩) k c,.int .i64 ((n:Int)+1 - (k:Int))]).run Tryz.prog w=.ok (.slice (some ⟨w.heap.size,0,none⟩) (n+1) G) W1:=λty=>by
  have h:=Lib.run_append_grow_zeros w 60 3 ty 2 i0 _ .i64 .i64 Tryz.underlying60 Tryz.underlying3 hi0 hz0 (some ⟨g,0,none⟩) k c ((Zm xs).take k) hold (n+1 - k) ZB ZB ZB ZB (by rw[hzb];omega) (by rw[hzb,show k+(n+1 - k)=n+1 by omega];exact growslice_fits hc ZB);rw[show k+(n+1 - k)=n+1 by omega,hG,hROW,hW1]at h;rw[hkk];exact h
 have hO:W1.ownsRow base 2 1 (.slice (some ⟨w.heap.size,0,none⟩) (n+1) G) (n+1) (ROW.toList.take (n+1)):=by
  have h:=XR w.drew ROW.toList 2 1 G (by rw[ZcD];simpa using hRs) hGm (base:=base) hbase;rw[show ROW.toList.toArray=ROW by simp,hW1]at h;exact ZMb h hGn
 have hRl:(ROW.toList.take (n+1)).length=n+1:=by rw[ZbG];simp[hRs];omega
 have hRt:(ROW.toList.take (n+1)).take k=(Zm xs).take k:=by
  rw[Zbm,Zb8 ZB,<-hROW];simp only[Array.toList_append,Zae];exact Zbi htl
 have hE1:ZL w W1:=by rw[<-hW1];exact((ZL.refl w).drew).alloc _
 have hv1:=ZJ hv hE1;have hcp1:∀ty dc,(Builtin.copy_ #[60,60] ty #[.slice (some ⟨w.heap.size,k,none⟩) (n+1 - k) dc,.slice (some ⟨vb,0,none⟩) 1 1]).run Tryz.prog W1=.ok (goInt ([Value.int .i64 t]).length) (W1.setCells w.heap.size k [.int .i64 t]):=λty dc=>
  run_copy_cells W1 _ _ ty 2 w.heap.size k (n+1 - k) dc ⟨vb,0,none⟩ 1 1 [.int .i64 t] Tryz.underlying60 ZMn (by simp only[Zb7,List.length_singleton];split<;>omega)
   (λj v hj=>by
    cases j with
    |zero=>rw[ZaO];exact(ZE hv1 0).trans (by simpa using hj)
    |succ j=>simp at hj)
   (λj hj=>by
    have hj0:j=0:=by simpa using hj
    subst hj0;rw[hO.cellAt (k+0) ZB,Zaz ZB];rfl)
   (λj _=>hO.frozenAt _) (by intro v hv;simp at hv;subst hv;rfl)
 have hp1:=ZCB [.int .i64 t] W1 _ k hO;obtain⟨W2,hW2⟩:=ZTz (W1.setCells w.heap.size k [.int .i64 t]);rw[hW2]at hp1 hcp1;obtain⟨hm1,hG1⟩:=hp1;have hput1:Y0 (ROW.toList.take (n+1)) k [.int .i64 t]=(Zm xs).take k++([.int .i64 t]++(ROW.toList.take (n+1)).drop (k+1)):=by
  rw[XQ _ _ _ (by rw[hRl];simp;omega),hRt];rfl
 have hlen1:(Y0 (ROW.toList.take (n+1)) k [.int .i64 t]).length=n+1:=by rw[hput1];simp[YZ,hl,hRl];omega
 have hgN:g≠w.heap.size:=by omega
 have hsrc:∀j,j<n->W2.cell? ⟨g,j,none⟩=(Zm xs)[j]?:=λj hj=>by
  have hc1:w.cell? ⟨g,j,none⟩=some ((Zm xs)[j]'(by rw[YZ,hl];exact hj)):=by rw[hcell j hj,Zaz]
  have hc2:=ZG hE1 hc1;rw[Zaz (by rw[YZ,hl];exact hj)];exact(ZcQ (hG1.block g (ZcO W1 ⟨g,j,none⟩ hc2) (λq=>hgN (by injection q)))).trans hc2
 have hcp2:∀ty dc sc,(Builtin.copy_ #[60,60] ty #[.slice (some ⟨w.heap.size,k+1,none⟩) (n - k) dc,.slice (some ⟨g,k,none⟩) (n - k) sc]).run Tryz.prog W2.drew=.ok (goInt ((Zm xs).drop k).length) (W2.drew.setCells w.heap.size (k+1) ((Zm xs).drop k)):=λty dc sc=>
  run_copy_cells W2.drew _ _ ty 2 w.heap.size (k+1) (n - k) dc ⟨g,k,none⟩ (n - k) sc _ Tryz.underlying60 ZMn (by rw[hdl];simp only[Zb7];split<;>omega)
   (λj v hj=>by
    rw[ZaO];have hjl:j<n - k:=by rw[<-hdl];exact(Za0.1 hj).1
    refine(hsrc (k+j) ZB).trans ?_;rw[<-hj,Zay])
   (λj hj=>by
    rw[hdl]at hj;show(W2.cell? _).isSome=true;rw[hm1.cellAt _ ZB,Zaz ZB];rfl)
   (λj _=>hm1.frozenAt _) (λv hv=>ZC4 xs v (ZbP hv))
 have hp2:=ZCB ((Zm xs).drop k) W2.drew _ (k+1) hm1.drew;obtain⟨W3,hW3⟩:=ZTz (W2.drew.setCells w.heap.size (k+1) ((Zm xs).drop k));rw[hW3]at hp2 hcp2;have hfin:Y0 (Y0 (ROW.toList.take (n+1)) k [.int .i64 t]) (k+1) ((Zm xs).drop k)=Zm (ZBP xs k t):=by
  rw[XQ _ _ _ (by rw[hlen1,hdl];omega),ZHi];rw[show(Y0 (ROW.toList.take (n+1)) k [.int .i64 t]).drop (k+1+((Zm xs).drop k).length)=[]from Zan (by rw[hlen1,hdl];omega),Zag,hput1];have h1:((Zm xs).take k++(([.int .i64 t]:List Value)++(ROW.toList.take (n+1)).drop (k+1))).take (k+1)=(Zm xs).take k++[.int .i64 t]:=by
   rw[<-Zae];exact Zbi (by rw[Za9,htl];rfl)
  rw[h1,Zae]
 have Fin:=ZA (show ZOp base (some ⟨g,0,none⟩) n c xs k t w (.returned (.slice (some ⟨w.heap.size,0,none⟩) (n+1) G)) W3 from⟨_,_,rfl,by rw[<-hfin];exact hp2.1,Xe (Jh (Xe (Z6 hE1 _) hG1 (Zb0 _))) hp2.2 (Zb0 _)⟩);clear hp2 hfin hm1 hG1 hput1 hlen1 hsrc hO hRl hRt hE1 hv1 hRs hROW hG hkk hold hcell hdl htl ho hv hl hW1 hW2 hW3 hg1 hGm hi0 hz0 hzs hzb;have hw1:IntKind.i64.wrap ((k:Int)+1)=(k:Int)+1:=by rw[Zaa];omega
 have hw2:IntKind.i64.wrap ((n:Int)+1)=(n:Int)+1:=by rw[Zaa];omega
 have hw3:IntKind.i64.wrap ((n:Int)+1 - (k:Int))=(n:Int)+1 - (k:Int):=by rw[Zaa];omega
 have hz2:¬((k:Int)=(n:Int)):=by omega
 have hb1:(0:Int)<=(k:Int)+1:=by omega
 have hin:k<=n:=by omega
 have htn:((k:Int)+1).toNat=k+1:=by omega
 have hb2:¬(G=k+1):=by omega
 have hb3:(k:Int)<=(n:Int)+1:=by omega
 have hb4:¬(c=k):=by omega
 have hb7:¬(G=k):=by omega
 have hb5:(c:Int)<(n:Int)+1:=by omega
 have hb6:(k:Int)<=(c:Int):=by omega
 have mixed:Tryz.prog.follows Departure.mixedOrders=true:=by kernel_rfl
 go_enter Tryz.func292,Tryz.ntmps292
 go_wp2_with (first
  |(at_builtin;refine Lib.wpList_append_run _ rfl _ _ _ _ rfl _ _ rfl rfl _ _ (hrz _) ?_)
  |(at_builtin;refine wpList_copy_runI _ rfl _ _ 60 60 rfl _ _ rfl rfl (hcp1 _ _) ?_))
 go_region_law_o (refine step_copy_runI rfl _ _ 60 60 rfl _ _ (by simp[Act.eval,Act.put]) (by simp[Act.eval,Act.put]) (hcp2 _ _ _) ?_)
 go_wp2;go_ret;exact Fin.o
theorem ZGK (w:World)(base:Nat)(A:Option Addr)(n c vb k:Nat)(xs:List Int)(t:Int)(hl:xs.length=n)(hn:n<=1000)(hk:k<=n)(ho:w.ownsRow base 2 1 (.slice A n c) n (Zm xs))(hv:w.heap[vb]?=some (.cells #[.int .i64 t] 2 (0,0)))(hne:(Value.slice A n c).ownBlock≠some vb)(hbase:base<=w.heap.size): Calls Tryz.prog 292 #[.slice A n c,.int .i64 (k:Int),.slice (some ⟨vb,0,none⟩) 1 1] w (ZOp base A n c xs k t w):=by
 have hnc:=Ys ho;by_cases h1:k=n
 ·subst h1;exact ZLa w base A k c vb xs t hl hn ho hv hbase
 ·by_cases h2:n<c
  ·have hcm:c<=9223372036854775807:=by
    rcases ho.2 with⟨h3,h4⟩|⟨g,cap,cur,h3,_,_,_,h4,_⟩
    ·omega
    ·injection h3 with _ _ h3;unfold maxLen at h4;omega
   exact ZJw w base A n c vb k xs t hl hn ZB h2 hcm ho hv hne
  ·exact ZJx w base A n c vb k xs t hl hn ZB hnc ZB ho hv hbase
def ZTb (base:Nat)(A:Option Addr)(n c:Nat)(xs:List Int)(k:Nat)(w:World)(e:Ending)(w':World):Prop:=e=.returned (.slice A (n - 1) c)/\w'.ownsRow base 2 1 (.slice A (n - 1) c) (n - 1) (Zm (ZDE xs k))/\w.grownBy w' (Value.slice A n c).ownBlock
theorem ZOr:∀w:World,(zeroValue 2).run Tryz.prog w=.ok (.int .i64 0) w:=λ_=>by kernel_rfl
theorem ZLu (w:World)(base:Nat)(A:Option Addr)(n c k:Nat)(xs:List Int)(hl:xs.length=n)(hn:n<=1000)(hk:k<n)(ho:w.ownsRow base 2 1 (.slice A n c) n (Zm xs)): Calls Tryz.prog 285 #[.slice A n c,.int .i64 (k:Int),.int .i64 ((k:Int)+1)] w (ZTb base A n c xs k w):=by
 have hnc:=Ys ho;obtain⟨g,rfl,hg1,hg2⟩:=ZGA ho ZB;have hcm:c<=9223372036854775807:=by
  rcases ho.2 with⟨h3,h4⟩|⟨g,cap,cur,h3,_,_,_,h4,_⟩
  ·omega
  ·injection h3 with _ _ h3;unfold maxLen at h4;omega
 obtain⟨i0,hi0,hz0,hz1,hz2⟩:=Zch ZGL;obtain⟨news,hnews⟩:=ZTz ((Zm xs).drop (k+1));have hlen:news.length=n - (k+1):=by rw[<-hnews,ZbB,YZ,hl]
 have hcell:∀j,j<n->w.cell? ⟨g,j,none⟩=(Zm xs)[j]?:=λj hj=>ho.cellAt j ZB;obtain⟨B,hA,hsrc⟩:∃B:Addr,(if c=k+1 then (some ⟨g,0,none⟩:Option Addr) else some ⟨g,k+1,none⟩)=some B/\ZD (∀t u,news[t]?=some u->w.drew.cell? (B.add t)=some u):=by
  by_cases h:c=k+1
  ·refine⟨⟨g,0,none⟩,by simp[h],λt u hu=>?_⟩;have h0:news.length=0:=by rw[hlen];omega
   rw[ZbC.1 h0]at hu;simp at hu
  ·refine⟨⟨g,k+1,none⟩,by simp[h],λt u hu=>?_⟩;have ht:t<n - (k+1):=by rw[<-hlen];exact(Za0.1 hu).1
   rw[ZaO];refine(hcell (k+1+t) ZB).trans ?_;rw[<-hu,<-hnews,Zay]
 have s1:ZD (news.length=(n - (k+1))*1):=by rw[ZcD];exact hlen
 have s2:ZD (∀u ∈ news,u.oneCell'=true):=λu hu=>ZC4 xs u (by rw[<-hnews]at hu;exact ZbP hu);have s3:ZD (∀t,t<news.length->(w.drew.cell? ⟨g,0+k*1+t,none⟩).isSome=true/\w.drew.frozen? ⟨g,0+k*1+t,none⟩=false):=λt ht=>by
  rw[hlen]at ht;rw[ZcD,ZcK];refine⟨?_,ho.frozenAt _⟩;show(w.cell? _).isSome=true;rw[hcell _ ZB,Zaz (by rw[YZ,hl];omega)];rfl
 obtain⟨W1,hW1⟩:∃W1,W1=w.drew.setCells g (0+k*1) news:=⟨_,rfl⟩;have hp1:=ZCB news w.drew _ (0+k*1) ho.drew;rw[<-hW1]at hp1;obtain⟨hm1,hG1⟩:=hp1;rw[ZcD,ZcK]at hm1;have hput1:Y0 (Zm xs) k news=(Zm xs).take k++(news++(Zm xs).drop (k+news.length)):=XQ _ _ _ (by rw[YZ,hl,hlen];omega);have hlen1:(Y0 (Zm xs) k news).length=n:=by rw[hput1];simp[YZ,hl,hlen];omega
 have hcl:∀ty,(Builtin.clear_ #[60] ty #[.slice (some ⟨g,k+(n - (k+1)),none⟩) (n - (k+(n - (k+1)))) (c - (k+(n - (k+1))))]).run Tryz.prog W1=.ok (.tuple #[]) (W1.setCells g (k+(n - (k+1))) (List.replicate (n - (k+(n - (k+1)))) (.int .i64 0))):=
  λty=>Lib.run_clear_slice W1 _ _ ty _ Tryz.underlying60 ZOr rfl rfl g (k+(n - (k+1))) _ _ ZB (λt ht=>by
   rw[hm1.cellAt _ ZB,Zaz (by rw[hlen1];omega)];rfl) (λt _=>hm1.frozenAt _)
 obtain⟨W2,hW2⟩:=ZTz (W1.setCells g (k+(n - (k+1))) (List.replicate (n - (k+(n - (k+1)))) (.int .i64 0)));have hp2:=ZCB (List.replicate (n - (k+(n - (k+1)))) (Value.int .i64 0)) W1 _ (k+(n - (k+1))) hm1;rw[hW2]at hp2 hcl;have hfin:(Y0 (Y0 (Zm xs) k news) (k+(n - (k+1))) (List.replicate (n - (k+(n - (k+1)))) (Value.int .i64 0))).take (n - 1)=Zm (ZDE xs k):=by
  rw[XQ _ _ _ (by rw[hlen1,List.length_replicate];omega),show k+(n - (k+1))=n - 1 by omega];rw[Zbi (by rw[ZbG,hlen1];omega),hput1,<-Zae];rw[Zbi (by simp[YZ,hl,hlen];omega),<-hnews];simp[Zm,ZDE,List.map_take,List.map_drop]
 have Fin:=ZA (show ZTb base (some ⟨g,0,none⟩) n c xs k w (.returned (.slice (some ⟨g,0,none⟩) (n - 1) c)) W2 from⟨rfl,by rw[<-hfin];exact ZMb hp2.1 ZB,World.grown_trans (Yn hG1) hp2.2⟩);have hW:ZD (W1=w.drew.setCells g (0+k*1) news):=hW1;have hic:k<=c:=by omega
 have hjc:k+1<=c:=by omega
 have hkn:k+1<=n:=by omega
 have hw1:IntKind.i64.wrap ((k:Int)+1)=(k:Int)+1:=by rw[Zaa];omega
 have hz2:¬((k:Int)=(k:Int)+1):=by omega
 have hb1:(0:Int)<=(k:Int)+1:=by omega
 have htn:((k:Int)+1).toNat=k+1:=by omega
 have hb3:(k:Int)+1<=(n:Int):=by omega
 have hb4:(k:Int)<=(k:Int)+1:=by omega
 have hb6:(k:Int)+1<=(c:Int):=by omega
 have mixed:Tryz.prog.follows Departure.mixedOrders=true:=by kernel_rfl
 clear hW1 hp2 hfin hm1 hG1 hput1 hlen1 hcell hlen hnews ho hl hW2 hg1 hg2;go_enter Tryz.func285,Tryz.ntmps285;go_wp2_with fail
 go_region_law_o (refine step_append_room rfl (.tmp 22) (.tmp 25) 60 rfl 2 i0 1 Tryz.underlying60 hi0 hz1 g 0 k c (by simp[Act.eval,Act.put]) B (n - (k+1)) (c - (k+1)) news (by simp[Act.eval,Act.put]) s1.out hsrc.out s2.out ZB s3.out ?_;rw[<-hW.out])
 go_wp2;go_ret;have e:k+(n - (k+1))=n - 1:=by omega
 first|exact Fin.o|(rw[e];exact Fin.o)
abbrev ZJO (p:Int)(A:Option Addr)(n c:Nat):Value:=.agg #[.int .i64 p,.slice A n c]
def ZRy (p:Int)(m:Nat)(xs:List Int)(q:Int)(w:World)(e:Ending)(w':World):Prop:=∃A c,e=.returned (.tuple #[ZJO p A m c,.int .i64 q])/\w'.ownsRow w.heap.size 2 1 (.slice A m c) m (Zm xs)/\ZL w w'
theorem ZFG {fn:Func}{p u:Tmp}(h:fn.results=#[.cell p 369,.tmp u]){tmps:Array Value}{w:World}{g:Nat}{a b:Value}{t:TypeId}{fr:Nat × Nat}(hp:tmps.getD p undef=.pointer (some ⟨g,0,none⟩))(hg:w.heap[g]?=some (.cells #[a,b] t fr)): (results fn tmps).run Tryz.prog w=.ok (.tuple #[.agg #[a,b],tmps.getD u undef]) w:=Yq h tmps w g t #[a,b] fr _ hp hg Tryz.underlying369 ZTw ZC
theorem ZHL {w w2:World}{g:Nat}{q:Int}(h:ZL w w2)(hg:w.heap.size<=g)(a b:Value):ZRy 0 0 [] q w (.returned (.tuple #[ZJO 0 none 0 0,.int .i64 q])) ((w2.setCell ⟨g,0,none⟩ a).setCell ⟨g,1,none⟩ b):=⟨none,0,rfl,ZcU _ _ _ _,ZGZ h hg _ _⟩
theorem ZK6 {w a:World}{n:Nat}{e:TypeId}{v:Value}{xs:List Value}(h:w.ownsRow a.drew.heap.size e 1 v n xs):w.ownsRow a.heap.size e 1 v n xs:=h
theorem ZLq {a b:World}(h:ZL a.drew b):ZL a b:=⟨h.os,h.tape,h.output,h.size,h.block⟩
def ZTV (W:World)(n:Nat)(ys:List Int)(e:Ending)(w':World):Prop:=∃A c,e=.returned (.slice A (n+1) c)/\w'.ownsRow W.heap.size 2 1 (.slice A (n+1) c) (n+1) (Zm ys)/\ZL W w'
theorem ZPs (W w4:World)(A4:Option Addr)(n c4 k:Nat)(xs:List Int)(t:Int)(hl:xs.length=n)(hn:n<=1000)(hk:k<=n)(ho:w4.ownsRow W.heap.size 2 1 (.slice A4 n c4) n (Zm xs))(hy:ZL W w4): Calls Tryz.prog 292 #[.slice A4 n c4,.int .i64 (k:Int),.slice (some ⟨w4.heap.size,0,none⟩) 1 1] (w4.alloc (.cells #[.int .i64 t] 2)) (ZTV W n (ZBP xs k t)):=by
 refine(ZGK _ W.heap.size A4 n c4 w4.heap.size k xs t hl hn hk (ho.alloc _) (ZM w4 _) (ZMc ho (.inr (Zb0 _))) (by have:=hy.size;rw[ZcV];omega)).mono ?_;rintro e w5 ⟨A5,c5,rfl,ho5,hg5⟩;exact⟨A5,c5,rfl,ho5,(hy.alloc _).grown hg5 (λk hk=>Yg ho k hk)⟩
theorem ZPt (W w4:World)(A4:Option Addr)(n c4 k:Nat)(xs:List Int)(t:Int)(hl:xs.length=n)(hn:n<=1000)(hk:k<=n)(ho:w4.ownsRow (W.alloc (.cells #[.int .i64 t] 2)).heap.size 2 1 (.slice A4 n c4) n (Zm xs))(hy:ZL (W.alloc (.cells #[.int .i64 t] 2)) w4): Calls Tryz.prog 292 #[.slice A4 n c4,.int .i64 (k:Int),.slice (some ⟨W.heap.size,0,none⟩) 1 1] w4 (ZTV W n (ZBP xs k t)):=by
 rw[ZcV]at ho;refine(ZGK w4 W.heap.size A4 n c4 W.heap.size k xs t hl hn hk (Zg ho ZB) (ZJ (ZM W _) hy) (ZMc ho (.inl ZB)) (by have:=hy.size;rw[ZcV]at this;omega)).mono ?_;rintro e w5 ⟨A5,c5,rfl,ho5,hg5⟩;exact⟨A5,c5,rfl,ho5,(((ZL.refl W).alloc _).trans hy).grown hg5 (λk hk=>by have:=Yg ho k hk;omega)⟩
theorem ZQ2 (w:World)(p t:Int)(A:Option Addr)(n c at_:Nat)(xs:List Int)(hl:xs.length=n)(hr:Rd w A (Zm xs))(hs:Ser t)(hF:ZDG p xs)(ha:At xs t at_)(hm:t ∉ xs)(hnp:(n:Int)<p): Calls Tryz.prog 282 #[ZJO p A n c,.int .i64 t] w (ZRy p (n+1) (ZBP xs at_ t) 0 w):=by
 have hn64:n<=64:=by have:=hF.2.1;omega
 have KB0:=ZA (ZR (ZM w (.cells #[.int .i64 p,.slice A n c] 369 (0,0))) (.cells #[.int .i64 0,.slice none 0 0] 369 (0,0)));have K0:=ZA (Zd (w.alloc (.cells #[.int .i64 p,.slice A n c] 369 (0,0))) (.cells #[.int .i64 0,.slice none 0 0] 369 (0,0)) (k:=w.heap.size+1) ZTv);have Hl:=ZA hl;have Hr:=ZA hr;have JQ:at_<=n:=by rw[<-hl];exact ha.1
 have C:=ZA (λW (hx:ZL w W)=>ZDU W t A n c xs hl ZB (hr.ext hx) hF.2.2.2 at_ ha);have Cc:=ZA (λW (hx:ZL w W)=>ZEg W p A n c xs hl ZB (hr.ext hx));have Hfe:=ZA (ZC6 hF);have Hm:=ZA (Zca hm);have hb:((n:Int)==p)=false:=by rw[ZcW];omega
 clear hl hr ha hm hF hnp;go_enter Tryz.func282,Tryz.ntmps282;go_wp2_with fail;refine(ZOw (ZFn _ t)).mono ?_;rintro e w1 ⟨rfl,hy1⟩;rw[Zcb hs];have KB1:=ZA (ZJ KB0.o hy1);have K1:=ZA (ZJ K0.o hy1);have hx1:ZL w w1:=(((ZL.refl w).alloc _).alloc _).trans hy1;have b0:=ZE KB1.o 0;have b1:=ZE KB1.o 1;clear hy1 hs;go_wp2_with fail;refine(Cc.o w1 hx1).mono ?_;rintro e w2 ⟨rfl,hy2⟩;rw[Hfe.o];have KB2:=ZA (ZJ KB1.o hy2);have K2:=ZA (ZJ K1.o hy2);have hx2:=hx1.trans hy2;clear b0 b1 hy2;have b0:=ZE KB2.o 0;have b1:=ZE KB2.o 1;go_wp2_with fail;refine(C.o w2 hx2).mono ?_;rintro e w3 ⟨rfl,hy3⟩;rw[Hm.o];have KB3:=ZA (ZJ KB2.o hy3);have K3:=ZA (ZJ K2.o hy3);have hx3:=hx2.trans hy3;clear b0 b1 hy3 C Cc;have hs3:w.heap.size+2<=w3.heap.size:=by have:=ZW K3.o;omega
 have b0:=ZE KB3.o 0;have b1:=ZE KB3.o 1;have hne:w.heap.size≠w.heap.size+1:=by omega
 have Hr3:=ZA (show Rd w3.drew A (Zm xs)from Hr.o.ext hx3.drew);have Hr3a:=ZA (λo:Obj=>(show Rd (w3.alloc o).drew A (Zm xs)from(Hr.o.ext (hx3.alloc o).drew)));have hsd:w3.drew.heap.size=w3.heap.size:=rfl;have hn1000:n<=1000:=by omega
 have r0:w3.cell? ⟨w.heap.size,0,none⟩=some (.int .i64 p):=b0;have r1:w3.cell? ⟨w.heap.size,1,none⟩=some (.slice A n c):=b1;have d0:w3.drew.cell? ⟨w.heap.size,0,none⟩=some (.int .i64 p):=b0;have d1:w3.drew.cell? ⟨w.heap.size,1,none⟩=some (.slice A n c):=b1;go_upto_region 11 with fail
 go_region_held3 (λw'=>w'.cell? ⟨w.heap.size,0,none⟩=some (.int .i64 p)/\w'.cell? ⟨w.heap.size,1,none⟩=some (.slice A n c)) (((try go_split_ands);refine⟨?_,?_⟩<;>first|assumption|with_reducible first|exact d0|exact d1|exact q0|exact q1|exact s0|exact s1|exact ZK (ZI r0 _)|exact ZK (ZI r1 _)|exact ZI d0 _|exact ZI d1 _|exact ZI r0 _|exact ZI r1 _|exact ZI q0 _|exact ZI q1 _|exact ZZ (ZZ s0 hne) hne|exact ZZ (ZZ s1 hne) hne|exact ZK (ZZ (ZZ s0 hne) hne)|exact ZK (ZZ (ZZ s1 hne) hne)))
  (first
   |(go_at_call 165;refine(ZGO A n c xs _ Hl.o ZB (by first|exact Hr3.o|exact Hr3a.o _)).mono ?_;rintro e4 w4 ⟨A4,c4,rfl,ho4,hy4⟩;rw[Hl.o]at ho4 ⊢;have HO4:=ZA ho4;have HY4:=ZA hy4;have hx34:ZL w3 w4:=(by first|exact((ZL.refl w3).drew).trans hy4|exact(((ZL.refl w3).alloc _).drew).trans hy4);have q0:=ZG hx34 r0;have q1:=ZG hx34 r1;clear ho4 hy4 hx34)
   |(go_at_call 292;(with_reducible refine(ZPs w3.drew w4 A4 n c4 at_ xs t Hl.o hn1000 JQ HO4.o HY4.o).mono ?_);rintro e5 w5 ⟨A5,c5,rfl,ho5,hy5⟩;have HO5:=ZA ho5;have hx35:ZL w3 w5:=((ZL.refl w3).drew).trans hy5;have s0:=ZG hx35 r0;have s1:=ZG hx35 r1;have KT5:=ZA (ZJ K3.o hx35);have u0:=ZE KT5.o 0;have u1:=ZE KT5.o 1;have v0:=ZF KT5.o 0;have v1:=ZF KT5.o 1;clear ho5 hy5)
   |(go_at_call 292;(with_reducible refine(ZPt w3 w4 A4 n c4 at_ xs t Hl.o hn1000 JQ (ZK6 HO4.o) (ZLq HY4.o)).mono ?_);rintro e5 w5 ⟨A5,c5,rfl,ho5,hy5⟩;have HO5:=ZA ho5;have hx35:ZL w3 w5:=hy5;have s0:=ZG hx35 r0;have s1:=ZG hx35 r1;have KT5:=ZA (ZJ K3.o hx35);have u0:=ZE KT5.o 0;have u1:=ZE KT5.o 1;have v0:=ZF KT5.o 0;have v1:=ZF KT5.o 1;clear ho5 hy5))
 all_goals
  go_wp2_with fail;refine ZcY (ZFG rfl rfl (ZQ5 KT5.o _ _)) rfl ?_;exact⟨A5,c5,rfl,Zg (ZJb (Zg (base':=w.heap.size+2) HO5.o ZB) ZB _ _) ZB,ZGZ (hx3.trans hx35) ZB _ _⟩
theorem ZP6 (w:World)(p t:Int)(A:Option Addr)(n c:Nat)(xs:List Int)(q:Int)(hl:xs.length=n)(hn:n<=17592186044416)(hr:Rd w A (Zm xs))(h:(¬ZDG p xs/\q=3)\/(ZDG p xs/\t ∉ xs/\q=11)): Calls Tryz.prog 254 #[ZJO p A n c,.int .i64 t] w (ZRy 0 0 [] q w):=by
 have KB0:=ZA (ZR (ZM w (.cells #[.int .i64 p,.slice A n c] 369 (0,0))) (.cells #[.int .i64 0,.slice none 0 0] 369 (0,0)));have K0:=ZA (Zd (w.alloc (.cells #[.int .i64 p,.slice A n c] 369 (0,0))) (.cells #[.int .i64 0,.slice none 0 0] 369 (0,0)) (k:=w.heap.size+1) ZTv);have Hl:=ZA hl;have Hr:=ZA hr;clear hl hr;have hx1:∀o o':Obj,ZL w ((w.alloc o).alloc o'):=λo o'=>((ZL.refl w).alloc o).alloc o';go_enter Tryz.func254,Tryz.ntmps254;go_wp2_with fail;refine(ZEg _ p A n c xs Hl.o hn (Hr.o.ext (hx1 _ _))).mono ?_;rintro e w2 ⟨rfl,hy2⟩;have KB2:=ZA (ZJ KB0.o hy2);have K2:=ZA (ZJ K0.o hy2);have hx2:=(hx1 _ _).trans hy2;clear hy2 hx1;rcases h with⟨hF,rfl⟩|⟨hF,hm,rfl⟩
 ·rw[ZGW hF];have k0:=ZE K2.o 0;have k1:=ZE K2.o 1;have f0:=ZF K2.o 0;have f1:=ZF K2.o 1;clear hF;go_wp2_with fail;refine ZcY (ZFG rfl rfl (ZQ5 K2.o _ _)) rfl ?_;exact ZHL hx2 ZB _ _
 ·rw[ZC6 hF];obtain⟨at_,ha⟩:=ZRt hF.2.2.2 t;have C:=ZA (λW (hx:ZL w W)=>ZDU W t A n c xs Hl.o hn (Hr.o.ext hx) hF.2.2.2 at_ ha);clear ha hF;have b0:=ZE KB2.o 0;have b1:=ZE KB2.o 1;go_wp2_with fail;refine(C.o w2 hx2).mono ?_;rintro e w3 ⟨rfl,hy3⟩;have KB3:=ZA (ZJ KB2.o hy3);have K3:=ZA (ZJ K2.o hy3);have hx3:=hx2.trans hy3;clear b0 b1 hy3 C;have k0:=ZE K3.o 0;have k1:=ZE K3.o 1;have f0:=ZF K3.o 0;have f1:=ZF K3.o 1;rw[Zca hm];clear hm;go_wp2_with fail;refine ZcY (ZFG rfl rfl (ZQ5 K3.o _ _)) rfl ?_;exact ZHL hx3 ZB _ _
theorem ZRb (w:World)(p t:Int)(A:Option Addr)(n c at_:Nat)(xs:List Int)(hl:xs.length=n)(hr:Rd w A (Zm xs))(hF:ZDG p xs)(ha:At xs t at_)(hm:t ∈ xs): Calls Tryz.prog 254 #[ZJO p A n c,.int .i64 t] w (ZRy p (n - 1) (ZDE xs at_) 0 w):=by
 have hn64:n<=64:=by have:=hF.2.1;have:=hF.2.2.1;omega
 have KB0:=ZA (ZR (ZM w (.cells #[.int .i64 p,.slice A n c] 369 (0,0))) (.cells #[.int .i64 0,.slice none 0 0] 369 (0,0)));have K0:=ZA (Zd (w.alloc (.cells #[.int .i64 p,.slice A n c] 369 (0,0))) (.cells #[.int .i64 0,.slice none 0 0] 369 (0,0)) (k:=w.heap.size+1) ZTv);have Hl:=ZA hl;have Hr:=ZA hr;have JQ:at_<n:=by rw[<-hl];exact((ZMF ha hF.2.2.2).1 hm).1
 have C:=ZA (λW (hx:ZL w W)=>ZDU W t A n c xs hl ZB (hr.ext hx) hF.2.2.2 at_ ha);have Cc:=ZA (λW (hx:ZL w W)=>ZEg W p A n c xs hl ZB (hr.ext hx));have Hfe:=ZA (ZC6 hF);have Hm:=ZA (Zcb hm);have hx1:∀o o':Obj,ZL w ((w.alloc o).alloc o'):=λo o'=>((ZL.refl w).alloc o).alloc o';clear hl hr ha hm hF;go_enter Tryz.func254,Tryz.ntmps254;go_wp2_with fail;refine(Cc.o _ (hx1 _ _)).mono ?_;rintro e w2 ⟨rfl,hy2⟩;rw[Hfe.o];have KB2:=ZA (ZJ KB0.o hy2);have K2:=ZA (ZJ K0.o hy2);have hx2:=(hx1 _ _).trans hy2;clear hy2 hx1;have b0:=ZE KB2.o 0;have b1:=ZE KB2.o 1;go_wp2_with fail;refine(C.o w2 hx2).mono ?_;rintro e w3 ⟨rfl,hy3⟩;rw[Hm.o];have KB3:=ZA (ZJ KB2.o hy3);have K3:=ZA (ZJ K2.o hy3);have hx3:=hx2.trans hy3;clear b0 b1 hy3 C Cc;have hs3:w.heap.size+2<=w3.heap.size:=by have:=ZW K3.o;omega
 have hne:w.heap.size≠w.heap.size+1:=by omega
 have Hr3:=ZA (show Rd w3.drew A (Zm xs)from Hr.o.ext hx3.drew);have hsd:w3.drew.heap.size=w3.heap.size:=rfl;have hn1000:n<=1000:=by omega
 have hwa:IntKind.i64.wrap ((at_:Int)+1)=(at_:Int)+1:=by rw[Zaa];omega
 have r0:=ZTx KB3.o 0 (.int .i64 p);have r1:=ZTx KB3.o 1 (.slice A n c);have d0:w3.drew.cell? ⟨w.heap.size,0,none⟩=some (.int .i64 p):=r0;have d1:w3.drew.cell? ⟨w.heap.size,1,none⟩=some (.slice A n c):=r1;go_upto_region 7 with fail
 go_region_held3 (λw'=>w'.cell? ⟨w.heap.size,0,none⟩=some (.int .i64 p)/\w'.cell? ⟨w.heap.size,1,none⟩=some (.slice A n c)) (((try go_split_ands);refine⟨?_,?_⟩<;>first|assumption|with_reducible first|exact d0|exact d1|exact q0|exact q1|exact s0|exact s1|exact ZZ (ZZ s0 hne) hne|exact ZZ (ZZ s1 hne) hne|exact ZK (ZZ (ZZ s0 hne) hne)|exact ZK (ZZ (ZZ s1 hne) hne)))
  (first
   |(go_at_call 165;refine(ZGO A n c xs _ Hl.o ZB Hr3.o).mono ?_;rintro e4 w4 ⟨A4,c4,rfl,ho4,hy4⟩;rw[Hl.o]at ho4 ⊢;have HO4:=ZA ho4;have HY4:=ZA hy4;have hx34:ZL w3 w4:=((ZL.refl w3).drew).trans hy4;have q0:=ZG hx34 r0;have q1:=ZG hx34 r1;clear ho4 hy4 hx34)
   |(go_at_call 285;(with_reducible refine(ZLu w4 w3.drew.heap.size A4 n c4 at_ xs Hl.o hn1000 JQ HO4.o).mono ?_);rintro e5 w5 ⟨rfl,ho5,hg5⟩;have HO5:=ZA ho5;have hx35:ZL w3 w5:=(((ZL.refl w3).drew).trans HY4.o).grown hg5 (λk hk=>by have:=Yg HO4.o k hk;omega);have s0:=ZG hx35 r0;have s1:=ZG hx35 r1;have KT5:=ZA (ZJ K3.o hx35);have u0:=ZE KT5.o 0;have u1:=ZE KT5.o 1;have v0:=ZF KT5.o 0;have v1:=ZF KT5.o 1;clear ho5 hg5))
 all_goals
  go_wp2_with fail;refine ZcY (ZFG rfl rfl (ZQ5 KT5.o _ _)) rfl ?_;exact⟨A4,c4,rfl,Zg (ZJb (Zg (base':=w.heap.size+2) HO5.o ZB) ZB _ _) ZB,ZGZ (hx3.trans hx35) ZB _ _⟩
theorem ZGx {fn:Func}{p q:Tmp}{ty tz:TypeId}(h:fn.results=#[.cell p ty,.cell q tz])(tmps:Array Value)(P:Program)(w:World): (results fn tmps).run P w=((asAddr (tmps.getD p undef)).run P w).andThen λa w=>((loadVar ty a).run P w).andThen λx w=>((asAddr (tmps.getD q undef)).run P w).andThen λb w=>((loadVar tz b).run P w).andThen λy w=>.ok (.tuple #[x,y]) w:=by
 simp[results,h,Result.andThen]
theorem JV {P:Program}{fn:Func}{p q:Tmp}{ty tz:TypeId}(h:fn.results=#[.cell p ty,.cell q tz])(tmps:Array Value)(w:World)(g i:Nat)(t u:TypeId)(cs ds:Array Value)(fr fs:Nat × Nat)(d e:TypeDesc)(hp:tmps.getD p undef=.pointer (some ⟨g,0,none⟩))(hg:w.heap[g]?=some (.cells cs t fr))(hq:tmps.getD q undef=.pointer (some ⟨i,0,none⟩))(hi:w.heap[i]?=some (.cells ds u fs))(hu:P.underlying ty=some d)(hd:(match d with|.struct _|.array _ _=>true|_=>false)=true)(hs:(P.info? ty).map (·.size)=some cs.size)(hu':P.underlying tz=some e)(hd':(match e with|.struct _|.array _ _=>true|_=>false)=true)(hs':(P.info? tz).map (·.size)=some ds.size): (results fn tmps).run P w=.ok (.tuple #[.agg cs,.agg ds]) w:=by
 rw[ZGx h,hp,hq];simp[asAddr,Zcn w g t ty cs fr d hg hu hd hs,Zcn w i u tz ds fs e hi hu' hd' hs',Result.andThen]
theorem ZS6 {w:World}{g:Nat}{a0 a1 a2 a3 a4 a5:Value}{t:TypeId}(h:w.heap[g]?=some (.cells #[a0,a1,a2,a3,a4,a5] t (0,0)))(b0 b1 b2 b3 b4 b5:Value): ((((((w.setCell ⟨g,0,none⟩ b0).setCell ⟨g,1,none⟩ b1).setCell ⟨g,2,none⟩ b2).setCell ⟨g,3,none⟩ b3).setCell ⟨g,4,none⟩ b4).setCell ⟨g,5,none⟩ b5).heap[g]?=some (.cells #[b0,b1,b2,b3,b4,b5] t (0,0)):=by
 have h1:_=some (Obj.cells #[b0,a1,a2,a3,a4,a5] t (0,0)):=ZU h 0 b0;have h2:_=some (Obj.cells #[b0,b1,a2,a3,a4,a5] t (0,0)):=ZU h1 1 b1;have h3:_=some (Obj.cells #[b0,b1,b2,a3,a4,a5] t (0,0)):=ZU h2 2 b2;have h4:_=some (Obj.cells #[b0,b1,b2,b3,a4,a5] t (0,0)):=ZU h3 3 b3;have h5:_=some (Obj.cells #[b0,b1,b2,b3,b4,a5] t (0,0)):=ZU h4 4 b4;exact ZU h5 5 b5
theorem ZP4 (w:World)(g:Nat)(b0 b1 b2 b3 b4 b5:Value):w.grownBy ((((((w.setCell ⟨g,0,none⟩ b0).setCell ⟨g,1,none⟩ b1).setCell ⟨g,2,none⟩ b2).setCell ⟨g,3,none⟩ b3).setCell ⟨g,4,none⟩ b4).setCell ⟨g,5,none⟩ b5) (some g):=by
 have h0:=Zc w g 0 b0;have h1:=ZT h0 1 b1;have h2:=ZT h1 2 b2;have h3:=ZT h2 3 b3;have h4:=ZT h3 4 b4;exact ZT h4 5 b5
theorem ZLj (w:World)(g:Nat)(b0 b1 b2 b3:Value):w.grownBy ((((w.setCell ⟨g,0,none⟩ b0).setCell ⟨g,1,none⟩ b1).setCell ⟨g,2,none⟩ b2).setCell ⟨g,3,none⟩ b3) (some g):=by
 have h0:=Zc w g 0 b0;have h1:=ZT h0 1 b1;have h2:=ZT h1 2 b2;exact ZT h2 3 b3
theorem ZFT {w V:World}{g h:Nat}{a0 a1 a2 a3 a4 a5 c0 c1 c2 c3:Value}{t u:TypeId}(x:ZL w V)(hne:g≠h)(hg:w.heap.size<=g)(hh:w.heap.size<=h)(J:V.heap[g]?=some (.cells #[a0,a1,a2,a3,a4,a5] t (0,0)))(I:V.heap[h]?=some (.cells #[c0,c1,c2,c3] u (0,0)))(b0 b1 b2 b3 b4 b5 d0 d1 d2 d3:Value): ((((((((((V.setCell ⟨g,0,none⟩ b0).setCell ⟨g,1,none⟩ b1).setCell ⟨g,2,none⟩ b2).setCell ⟨g,3,none⟩ b3).setCell ⟨g,4,none⟩ b4).setCell ⟨g,5,none⟩ b5).setCell ⟨h,0,none⟩ d0).setCell ⟨h,1,none⟩ d1).setCell ⟨h,2,none⟩ d2).setCell ⟨h,3,none⟩ d3).drew.heap[g]?=some (.cells #[b0,b1,b2,b3,b4,b5] t (0,0))/\((((((((((V.setCell ⟨g,0,none⟩ b0).setCell ⟨g,1,none⟩ b1).setCell ⟨g,2,none⟩ b2).setCell ⟨g,3,none⟩ b3).setCell ⟨g,4,none⟩ b4).setCell ⟨g,5,none⟩ b5).setCell ⟨h,0,none⟩ d0).setCell ⟨h,1,none⟩ d1).setCell ⟨h,2,none⟩ d2).setCell ⟨h,3,none⟩ d3).drew.heap[h]?=some (.cells #[d0,d1,d2,d3] u (0,0))/\ZL w ((((((((((V.setCell ⟨g,0,none⟩ b0).setCell ⟨g,1,none⟩ b1).setCell ⟨g,2,none⟩ b2).setCell ⟨g,3,none⟩ b3).setCell ⟨g,4,none⟩ b4).setCell ⟨g,5,none⟩ b5).setCell ⟨h,0,none⟩ d0).setCell ⟨h,1,none⟩ d1).setCell ⟨h,2,none⟩ d2).setCell ⟨h,3,none⟩ d3).drew/\GB V ((((((((((V.setCell ⟨g,0,none⟩ b0).setCell ⟨g,1,none⟩ b1).setCell ⟨g,2,none⟩ b2).setCell ⟨g,3,none⟩ b3).setCell ⟨g,4,none⟩ b4).setCell ⟨g,5,none⟩ b5).setCell ⟨h,0,none⟩ d0).setCell ⟨h,1,none⟩ d1).setCell ⟨h,2,none⟩ d2).setCell ⟨h,3,none⟩ d3).drew (λi=>i=g\/i=h):=by
 obtain⟨V6,h6⟩:=ZTz (((((((V.setCell ⟨g,0,none⟩ b0).setCell ⟨g,1,none⟩ b1).setCell ⟨g,2,none⟩ b2).setCell ⟨g,3,none⟩ b3).setCell ⟨g,4,none⟩ b4).setCell ⟨g,5,none⟩ b5));have r6:=ZS6 J b0 b1 b2 b3 b4 b5;have g6:=ZP4 V g b0 b1 b2 b3 b4 b5;rw[h6]at r6 g6 ⊢;have g4:=ZLj V6 h d0 d1 d2 d3;exact⟨ZEE (Zj r6 g4 hne),ZEE (ZAS (Zj I g6 (λe=>hne e.symm)) d0 d1 d2 d3),(Ya (Ya x g6 hg) g4 hh).drew,(((GB.refl V (λi=>i=g\/i=h)).grown g6 (λq e=>by injection e with e;exact .inl (.inl e.symm))).grown g4 (λq e=>by injection e with e;exact .inl (.inr e.symm))).drew⟩
def ZKg (X:Zdb)(rep:YH)(ce:ZO)(w:World)(e:Ending)(w':World):Prop:=∃r,e=.returned (.tuple #[.agg #[.int .i64 (rep.er:Int),.bool rep.granted,.int .i64 rep.left,.int .i64 rep.wait,.int .i64 rep.ser,.int .i64 rep.now],.agg #[.int .i64 (ce.pol:Int),.slice r.K ce.key.length r.kc,.int .i64 ce.tat,.slice r.H ce.held.length r.hc]])/\YQ w' X r ce/\ZL w w'
theorem ZKX (w:World)(X:Zdb)(p:YR)(ce:ZO)(r:YI)(ser:Int)(hX:Z0 w X)(hP:YQ w X r ce)(hs:Ser ser)(hF:ZDG p.perm ce.held)(hm:ser ∉ ce.held)(hlt:(ce.held.length:Int)<p.perm): Calls Tryz.prog 251 #[.agg #[.int .u8 (p.kind:Int),.int .i64 p.T,.int .i64 p.Tau,.int .i64 p.perm],.agg #[.int .i64 (ce.pol:Int),.slice r.K ce.key.length r.kc,.int .i64 ce.tat,.slice r.H ce.held.length r.hc],.int .i64 ser] w (ZKg X (ZAE p ce ser).1 (ZAE p ce ser).2 w):=by
 obtain⟨n,Hn⟩:=ZTy (ce.held.length);obtain⟨kl,Hk⟩:=ZTy (ce.key.length);obtain⟨xs,Hxs⟩:=ZTy (ZBP ce.held (atI ce.held ser) ser);have JQ:=ZIv hF.2.2.2 ser;have hxl:xs.length=n+1:=by rw[<-Hxs.o,ZJy ser JQ.1,Hn.o]
 obtain⟨W,hW⟩:=ZTz (((((w.alloc (.cells #[.int .u8 (p.kind:Int),.int .i64 p.T,.int .i64 p.Tau,.int .i64 p.perm] 80)).alloc (.cells #[.int .i64 (ce.pol:Int),.slice r.K kl r.kc,.int .i64 ce.tat,.slice r.H n r.hc] 62)).alloc (.cells #[.int .i64 0,.bool false,.int .i64 0,.int .i64 0,.int .i64 0,.int .i64 0] 39)).alloc (.cells #[.int .i64 0,.slice none 0 0,.int .i64 0,.slice none 0 0] 62)));have xW:ZL w W:=by rw[<-hW];exact(((((ZL.refl w).alloc _).alloc _).alloc _).alloc _)
 have K0:=show W.heap[w.heap.size]?=some (.cells #[.int .u8 (p.kind:Int),.int .i64 p.T,.int .i64 p.Tau,.int .i64 p.perm] 80 (0,0)) by rw[<-hW];exact ZR (ZR (ZR (ZM w _) _) _) _
 have K1:=show W.heap[w.heap.size+1]?=some (.cells #[.int .i64 (ce.pol:Int),.slice r.K kl r.kc,.int .i64 ce.tat,.slice r.H n r.hc] 62 (0,0)) by rw[<-hW];exact ZR (ZR (Zd _ _ ZTv) _) _
 have K2:=show W.heap[w.heap.size+1+1]?=some (.cells #[.int .i64 0,.bool false,.int .i64 0,.int .i64 0,.int .i64 0,.int .i64 0] 39 (0,0)) by rw[<-hW];exact ZR (Zd _ _ ZTv) _
 have K3:=show W.heap[w.heap.size+1+1+1]?=some (.cells #[.int .i64 0,.slice none 0 0,.int .i64 0,.slice none 0 0] 62 (0,0)) by rw[<-hW];exact Zd _ _ ZTv
 have TK:=ZA (ZQ2 W p.perm ser r.H n r.hc (atI ce.held ser) ce.held Hn.o (hP.1.2.2.2.ext xW) hs hF JQ hm (by rw[<-Hn.o];exact hlt));rw[Hxs.o]at TK;have H0:=ZA K0;have H1:=ZA K1;have H2:=ZA K2;have H3:=ZA K3;have hn64:n<=64:=by have:=hF.2.1;have:=hF.2.2.1;have:=Hn.o;omega
 have hp64:p.perm<=64:=hF.2.1;have hp0:0<=p.perm:=by have:=hF.1;omega
 have HP:=ZA hP;have XW:=ZA xW;have HX:=ZA hX;have HL:=ZA hxl;have a2:=ZE K0 3;have b3:=ZE K1 3;rw[Hk.o,Hn.o];clear hP hs hF hm hlt JQ xW K0 K1 K2 K3 hX hxl;have HW:=ZA hW;clear hW;go_enter Tryz.func251,Tryz.ntmps251;go_upto_region 1 with fail
 (try rw[HW.o])
 clear HW;go_wp2_with fail;refine TK.out.mono ?_;rintro e w1 ⟨A1,c1,rfl,o1,x1⟩;have O1:=ZA o1;have X1:=ZA x1;have I0:=ZA (ZJ H0.o x1);have I1:=ZA (ZJ H1.o x1);have I2:=ZA (ZJ H2.o x1);have I3:=ZA (ZJ H3.o x1);clear a2 b3 o1 x1;have a3:=ZE I0.o 3;have b0:=ZE I1.o 0;have b1:=ZE I1.o 1;have b2:=ZE I1.o 2;have b3:=ZE I1.o 3;have y3:=ZF I1.o 3;have r0:=ZE I2.o 0;have r1:=ZE I2.o 1;have r2:=ZE I2.o 2;have r3:=ZE I2.o 3;have r4:=ZE I2.o 4;have r5:=ZE I2.o 5;have z0:=ZF I2.o 0;have z1:=ZF I2.o 1;have z2:=ZF I2.o 2;have z3:=ZF I2.o 3;have z4:=ZF I2.o 4;have z5:=ZF I2.o 5;have s0:=ZE I3.o 0;have s1:=ZE I3.o 1;have s2:=ZE I3.o 2;have s3:=ZE I3.o 3;have u0:=ZF I3.o 0;have u1:=ZF I3.o 1;have u2:=ZF I3.o 2;have u3:=ZF I3.o 3;have hz:=X1.o.size;have hz0:=ZW H3.o;have y3':=Jz I1.o 3 (.cells #[.int .i64 p.perm,.slice A1 (n+1) c1] 369);have b3':=ZI b3 (.cells #[.int .i64 p.perm,.slice A1 (n+1) c1] 369);go_upto_region 5 with fail;obtain⟨V,hV⟩:=ZTz ((w1.alloc (.cells #[.int .i64 p.perm,.slice A1 (n+1) c1] 369)).setCell ⟨w.heap.size+1,3,none⟩ (.slice A1 (n+1) c1));have gV:GB w1 V (· =w.heap.size+1):=by rw[<-hV];exact((GB.refl w1 (· =w.heap.size+1)).alloc _).set _ 3 _ (.inl rfl)
 have J0:=ZA (gV.blk I0.o ZB);have J2:=ZA (gV.blk I2.o ZB);have J3:=ZA (gV.blk I3.o ZB);have J1:=ZA (show V.heap[w.heap.size+1]?=some (.cells #[.int .i64 (ce.pol:Int),.slice r.K kl r.kc,.int .i64 ce.tat,.slice A1 (n+1) c1] 62 (0,0)) by rw[<-hV];exact ZU (ZR I1.o _) 3 _);rw[hV];have GV:=ZA gV;clear a3 b0 b1 b2 b3 y3 r0 r1 r2 r3 r4 r5 z0 z1 z2 z3 z4 z5 s0 s1 s2 s3 u0 u1 u2 u3 hV gV y3' b3';have a3:=ZE J0.o 3;have b0:=ZE J1.o 0;have b1:=ZE J1.o 1;have b2:=ZE J1.o 2;have b3:=ZE J1.o 3;have r0:=ZE J2.o 0;have r1:=ZE J2.o 1;have r2:=ZE J2.o 2;have r3:=ZE J2.o 3;have r4:=ZE J2.o 4;have r5:=ZE J2.o 5;have z0:=ZF J2.o 0;have z1:=ZF J2.o 1;have z2:=ZF J2.o 2;have z3:=ZF J2.o 3;have z4:=ZF J2.o 4;have z5:=ZF J2.o 5;have s0:=ZE J3.o 0;have s1:=ZE J3.o 1;have s2:=ZE J3.o 2;have s3:=ZE J3.o 3;have u0:=ZF J3.o 0;have u1:=ZF J3.o 1;have u2:=ZF J3.o 2;have u3:=ZF J3.o 3;go_region;go_wp2_with fail;have hwV:ZL w V:=GB.to_ext (GV.o.more (S':=λi=>w.heap.size<=i) (λi _ e=>by omega)) (XW.o.trans X1.o) (λi e=>e);obtain⟨e1,e2,e3,e4⟩:=ZFT hwV (by omega:w.heap.size+1+1≠w.heap.size+1+1+1) ZB ZB J2.o J3.o (.int .i64 0) (.bool true) (.int .i64 (p.perm - ((n:Int)+1))) (.int .i64 0) (.int .i64 ser) (.int .i64 0) (.int .i64 (ce.pol:Int)) (.slice r.K kl r.kc) (.int .i64 ce.tat) (.slice A1 (n+1) c1);refine ZcY (JV (p:=6) (q:=7) rfl _ _ (w.heap.size+1+1) (w.heap.size+1+1+1) _ _ _ _ (0,0) (0,0) _ _ rfl e1 rfl e2 Tryz.underlying39 ZTw ZC Tryz.underlying62 ZTw ZC) rfl ?_;have hxl:=HL.o;have hwW:=XW.o.size;have hO:=e4.own (GV.o.own O1.o (λq e e2=>by have:=Yg O1.o q e;have:=ZW H3.o;omega)) (λq e e2=>by have:=Yg O1.o q e;have:=ZW H3.o;omega);have hPx:=HP.o.ext e3;refine⟨⟨r.K,r.kc,A1,c1⟩,?_,⟨⟨hPx.1.1,hPx.1.2.1,?_,?_⟩,hPx.2.1,ZAm hO (λi hi=>Zb5 (HX.o i hi) hwW)⟩,e3⟩
 ·unfold ZAE;rw[Hxs.o,hxl,Hk.o,Hn.o];rfl
 ·show(ZBP ce.held (atI ce.held ser) ser).length<=c1;rw[Hxs.o,hxl];exact Ys hO
 ·show Rd _ A1 (Zm (ZBP ce.held (atI ce.held ser) ser));rw[Hxs.o];exact Rd.of_own hO
theorem ZKW (w:World)(X:Zdb)(p:YR)(ce:ZO)(r:YI)(ser:Int)(hX:Z0 w X)(hP:YQ w X r ce)(hF:ZDG p.perm ce.held)(hm:ser ∈ ce.held): Calls Tryz.prog 194 #[.agg #[.int .u8 (p.kind:Int),.int .i64 p.T,.int .i64 p.Tau,.int .i64 p.perm],.agg #[.int .i64 (ce.pol:Int),.slice r.K ce.key.length r.kc,.int .i64 ce.tat,.slice r.H ce.held.length r.hc],.int .i64 ser] w (ZKg X (ZA0 p ce ser).1 (ZA0 p ce ser).2 w):=by
 obtain⟨n,Hn⟩:=ZTy (ce.held.length);obtain⟨kl,Hk⟩:=ZTy (ce.key.length);obtain⟨xs,Hxs⟩:=ZTy (ZDE ce.held (atI ce.held ser));have JQ:=ZIv hF.2.2.2 ser;have hka:=((ZMF JQ hF.2.2.2).1 hm).1;obtain⟨m,Hm⟩:∃m,ZD (n=m+1):=⟨n - 1,by have:=Hn.o;unfold ZD;omega⟩;have hxl:xs.length=m:=by rw[<-Hxs.o,ZKB hka,Hn.o,Hm.o,Zbu]
 have HR:=ZA (show ZA0 p ce ser=(⟨0,true,p.perm - (m:Int),0,0,0⟩,{ce with held:=xs}) by
  unfold ZA0;rw[Zcg hm,Hxs.o,Hn.o,Hm.o]
  congr 2
  omega)
 obtain⟨W,hW⟩:=ZTz (((((w.alloc (.cells #[.int .u8 (p.kind:Int),.int .i64 p.T,.int .i64 p.Tau,.int .i64 p.perm] 80)).alloc (.cells #[.int .i64 (ce.pol:Int),.slice r.K kl r.kc,.int .i64 ce.tat,.slice r.H n r.hc] 62)).alloc (.cells #[.int .i64 0,.bool false,.int .i64 0,.int .i64 0,.int .i64 0,.int .i64 0] 39)).alloc (.cells #[.int .i64 0,.slice none 0 0,.int .i64 0,.slice none 0 0] 62)));have xW:ZL w W:=by rw[<-hW];exact(((((ZL.refl w).alloc _).alloc _).alloc _).alloc _)
 have K0:=show W.heap[w.heap.size]?=some (.cells #[.int .u8 (p.kind:Int),.int .i64 p.T,.int .i64 p.Tau,.int .i64 p.perm] 80 (0,0)) by rw[<-hW];exact ZR (ZR (ZR (ZM w _) _) _) _
 have K1:=show W.heap[w.heap.size+1]?=some (.cells #[.int .i64 (ce.pol:Int),.slice r.K kl r.kc,.int .i64 ce.tat,.slice r.H n r.hc] 62 (0,0)) by rw[<-hW];exact ZR (ZR (Zd _ _ ZTv) _) _
 have K2:=show W.heap[w.heap.size+1+1]?=some (.cells #[.int .i64 0,.bool false,.int .i64 0,.int .i64 0,.int .i64 0,.int .i64 0] 39 (0,0)) by rw[<-hW];exact ZR (Zd _ _ ZTv) _
 have K3:=show W.heap[w.heap.size+1+1+1]?=some (.cells #[.int .i64 0,.slice none 0 0,.int .i64 0,.slice none 0 0] 62 (0,0)) by rw[<-hW];exact Zd _ _ ZTv
 have TK:=ZA (ZRb W p.perm ser r.H n r.hc (atI ce.held ser) ce.held Hn.o (hP.1.2.2.2.ext xW) hF JQ hm);rw[Hxs.o,show n - 1=m by rw[Hm.o,Zbu]]at TK;have H0:=ZA K0;have H1:=ZA K1;have H2:=ZA K2;have H3:=ZA K3;have hn64:n<=64:=by have:=hF.2.1;have:=hF.2.2.1;have:=Hn.o;omega
 have hm64:m<=64:=by have:=Hm.o;omega
 have hp64:p.perm<=64:=hF.2.1;have hp0:0<=p.perm:=by have:=hF.1;omega
 have HP:=ZA hP;have XW:=ZA xW;have HX:=ZA hX;have HL:=ZA hxl;have a2:=ZE K0 3;have b3:=ZE K1 3;rw[Hk.o,Hn.o];clear hP hF hm JQ hka xW K0 K1 K2 K3 hX hxl;have HW:=ZA hW;clear hW;go_enter Tryz.func194,Tryz.ntmps194;go_upto_region 1 with fail
 (try rw[HW.o])
 clear HW;go_wp2_with fail;refine TK.out.mono ?_;rintro e w1 ⟨A1,c1,rfl,o1,x1⟩;have O1:=ZA o1;have X1:=ZA x1;have I0:=ZA (ZJ H0.o x1);have I1:=ZA (ZJ H1.o x1);have I2:=ZA (ZJ H2.o x1);have I3:=ZA (ZJ H3.o x1);clear a2 b3 o1 x1;have a3:=ZE I0.o 3;have b0:=ZE I1.o 0;have b1:=ZE I1.o 1;have b2:=ZE I1.o 2;have b3:=ZE I1.o 3;have y3:=ZF I1.o 3;have r0:=ZE I2.o 0;have r1:=ZE I2.o 1;have r2:=ZE I2.o 2;have r3:=ZE I2.o 3;have r4:=ZE I2.o 4;have r5:=ZE I2.o 5;have z0:=ZF I2.o 0;have z1:=ZF I2.o 1;have z2:=ZF I2.o 2;have z3:=ZF I2.o 3;have z4:=ZF I2.o 4;have z5:=ZF I2.o 5;have s0:=ZE I3.o 0;have s1:=ZE I3.o 1;have s2:=ZE I3.o 2;have s3:=ZE I3.o 3;have u0:=ZF I3.o 0;have u1:=ZF I3.o 1;have u2:=ZF I3.o 2;have u3:=ZF I3.o 3;have hz:=X1.o.size;have hz0:=ZW H3.o;have y3':=Jz I1.o 3 (.cells #[.int .i64 p.perm,.slice A1 m c1] 369);have b3':=ZI b3 (.cells #[.int .i64 p.perm,.slice A1 m c1] 369);go_upto_region 5 with fail;obtain⟨V,hV⟩:=ZTz ((w1.alloc (.cells #[.int .i64 p.perm,.slice A1 m c1] 369)).setCell ⟨w.heap.size+1,3,none⟩ (.slice A1 m c1));have gV:GB w1 V (· =w.heap.size+1):=by rw[<-hV];exact((GB.refl w1 (· =w.heap.size+1)).alloc _).set _ 3 _ (.inl rfl)
 have J0:=ZA (gV.blk I0.o ZB);have J2:=ZA (gV.blk I2.o ZB);have J3:=ZA (gV.blk I3.o ZB);have J1:=ZA (show V.heap[w.heap.size+1]?=some (.cells #[.int .i64 (ce.pol:Int),.slice r.K kl r.kc,.int .i64 ce.tat,.slice A1 m c1] 62 (0,0)) by rw[<-hV];exact ZU (ZR I1.o _) 3 _);rw[hV];have GV:=ZA gV;clear a3 b0 b1 b2 b3 y3 r0 r1 r2 r3 r4 r5 z0 z1 z2 z3 z4 z5 s0 s1 s2 s3 u0 u1 u2 u3 hV gV y3' b3';have a3:=ZE J0.o 3;have b0:=ZE J1.o 0;have b1:=ZE J1.o 1;have b2:=ZE J1.o 2;have b3:=ZE J1.o 3;have r0:=ZE J2.o 0;have r1:=ZE J2.o 1;have r2:=ZE J2.o 2;have r3:=ZE J2.o 3;have r4:=ZE J2.o 4;have r5:=ZE J2.o 5;have z0:=ZF J2.o 0;have z1:=ZF J2.o 1;have z2:=ZF J2.o 2;have z3:=ZF J2.o 3;have z4:=ZF J2.o 4;have z5:=ZF J2.o 5;have s0:=ZE J3.o 0;have s1:=ZE J3.o 1;have s2:=ZE J3.o 2;have s3:=ZE J3.o 3;have u0:=ZF J3.o 0;have u1:=ZF J3.o 1;have u2:=ZF J3.o 2;have u3:=ZF J3.o 3;go_region;go_wp2_with fail;have hwV:ZL w V:=GB.to_ext (GV.o.more (S':=λi=>w.heap.size<=i) (λi _ e=>by omega)) (XW.o.trans X1.o) (λi e=>e);obtain⟨e1,e2,e3,e4⟩:=ZFT hwV (by omega:w.heap.size+1+1≠w.heap.size+1+1+1) ZB ZB J2.o J3.o (.int .i64 0) (.bool true) (.int .i64 (p.perm - (m:Int))) (.int .i64 0) (.int .i64 0) (.int .i64 0) (.int .i64 (ce.pol:Int)) (.slice r.K kl r.kc) (.int .i64 ce.tat) (.slice A1 m c1);refine ZcY (JV (p:=6) (q:=7) rfl _ _ (w.heap.size+1+1) (w.heap.size+1+1+1) _ _ _ _ (0,0) (0,0) _ _ rfl e1 rfl e2 Tryz.underlying39 ZTw ZC Tryz.underlying62 ZTw ZC) rfl ?_;have hxl:=HL.o;have hwW:=XW.o.size;have hO:=e4.own (GV.o.own O1.o (λq e e2=>by have:=Yg O1.o q e;have:=ZW H3.o;omega)) (λq e e2=>by have:=Yg O1.o q e;have:=ZW H3.o;omega);have hPx:=HP.o.ext e3;rw[HR.o];refine⟨⟨r.K,r.kc,A1,c1⟩,?_,⟨⟨hPx.1.1,hPx.1.2.1,?_,?_⟩,hPx.2.1,ZAm hO (λi hi=>Zb5 (HX.o i hi) hwW)⟩,e3⟩
 ·dsimp only
  rw[hxl,Hk.o];rfl
 ·show xs.length<=c1;rw[hxl];exact Ys hO
 ·exact Rd.of_own hO
theorem ZIr (w:World)(X:Zdb)(p:YR)(ce:ZO)(r:YI)(ser:Int)(hX:Z0 w X)(hP:YQ w X r ce)(hF:ZDG p.perm ce.held)(hm:ser ∉ ce.held): Calls Tryz.prog 194 #[.agg #[.int .u8 (p.kind:Int),.int .i64 p.T,.int .i64 p.Tau,.int .i64 p.perm],.agg #[.int .i64 (ce.pol:Int),.slice r.K ce.key.length r.kc,.int .i64 ce.tat,.slice r.H ce.held.length r.hc],.int .i64 ser] w (ZKg X (Yb 11) ce w):=by
 obtain⟨n,Hn⟩:=ZTy (ce.held.length);obtain⟨kl,Hk⟩:=ZTy (ce.key.length);have hn0:n<=17592186044416:=by have:=hF.2.1;have:=hF.2.2.1;have:=Hn.o;omega
 obtain⟨W,hW⟩:=ZTz (((((w.alloc (.cells #[.int .u8 (p.kind:Int),.int .i64 p.T,.int .i64 p.Tau,.int .i64 p.perm] 80)).alloc (.cells #[.int .i64 (ce.pol:Int),.slice r.K kl r.kc,.int .i64 ce.tat,.slice r.H n r.hc] 62)).alloc (.cells #[.int .i64 0,.bool false,.int .i64 0,.int .i64 0,.int .i64 0,.int .i64 0] 39)).alloc (.cells #[.int .i64 0,.slice none 0 0,.int .i64 0,.slice none 0 0] 62)));have xW:ZL w W:=by rw[<-hW];exact(((((ZL.refl w).alloc _).alloc _).alloc _).alloc _)
 have K0:=show W.heap[w.heap.size]?=some (.cells #[.int .u8 (p.kind:Int),.int .i64 p.T,.int .i64 p.Tau,.int .i64 p.perm] 80 (0,0)) by rw[<-hW];exact ZR (ZR (ZR (ZM w _) _) _) _
 have K1:=show W.heap[w.heap.size+1]?=some (.cells #[.int .i64 (ce.pol:Int),.slice r.K kl r.kc,.int .i64 ce.tat,.slice r.H n r.hc] 62 (0,0)) by rw[<-hW];exact ZR (ZR (Zd _ _ ZTv) _) _
 have K2:=show W.heap[w.heap.size+1+1]?=some (.cells #[.int .i64 0,.bool false,.int .i64 0,.int .i64 0,.int .i64 0,.int .i64 0] 39 (0,0)) by rw[<-hW];exact ZR (Zd _ _ ZTv) _
 have K3:=show W.heap[w.heap.size+1+1+1]?=some (.cells #[.int .i64 0,.slice none 0 0,.int .i64 0,.slice none 0 0] 62 (0,0)) by rw[<-hW];exact Zd _ _ ZTv
 have TK:=ZA (ZP6 W p.perm ser r.H n r.hc ce.held 11 Hn.o hn0 (hP.1.2.2.2.ext xW) (.inr ⟨hF,hm,rfl⟩));have H0:=ZA K0;have H1:=ZA K1;have H2:=ZA K2;have H3:=ZA K3;have hn64:n<=64:=by have:=hF.2.1;have:=hF.2.2.1;have:=Hn.o;omega
 have hp64:p.perm<=64:=hF.2.1;have hp0:0<=p.perm:=by have:=hF.1;omega
 have HP:=ZA hP;have XW:=ZA xW;have HX:=ZA hX;have a2:=ZE K0 3;have b3:=ZE K1 3;rw[Hk.o,Hn.o];clear hP hF hm xW K0 K1 K2 K3 hX;have HW:=ZA hW;clear hW;go_enter Tryz.func194,Tryz.ntmps194;go_upto_region 1 with fail
 (try rw[HW.o])
 clear HW;go_wp2_with fail;refine TK.out.mono ?_;rintro e w1 ⟨A1,c1,rfl,o1,x1⟩;have X1:=ZA x1;have I1:=ZA (ZJ H1.o x1);have I2:=ZA (ZJ H2.o x1);have I3:=ZA (ZJ H3.o x1);clear a2 b3 o1 x1;have hz:=X1.o.size;have hz0:=ZW H3.o;obtain⟨V,hV⟩:=ZTz (w1.alloc (.cells #[.int .i64 0,.slice A1 0 c1] 369));have xV:ZL w1 V:=by rw[<-hV];exact(ZL.refl w1).alloc _
 have J1:=ZA (ZJ I1.o xV);have J2:=ZA (ZJ I2.o xV);have J3:=ZA (ZJ I3.o xV);have XV:=ZA xV;have HV:=ZA hV;clear hV xV;go_upto_region 3 with fail
 (try rw[HV.o])
 have b0:=ZE J1.o 0;have b1:=ZE J1.o 1;have b2:=ZE J1.o 2;have b3:=ZE J1.o 3;have r0:=ZE J2.o 0;have r1:=ZE J2.o 1;have r2:=ZE J2.o 2;have r3:=ZE J2.o 3;have r4:=ZE J2.o 4;have r5:=ZE J2.o 5;have z0:=ZF J2.o 0;have z1:=ZF J2.o 1;have z2:=ZF J2.o 2;have z3:=ZF J2.o 3;have z4:=ZF J2.o 4;have z5:=ZF J2.o 5;have s0:=ZE J3.o 0;have s1:=ZE J3.o 1;have s2:=ZE J3.o 2;have s3:=ZE J3.o 3;have u0:=ZF J3.o 0;have u1:=ZF J3.o 1;have u2:=ZF J3.o 2;have u3:=ZF J3.o 3;go_region;go_wp2_with fail;have hwV:ZL w V:=XW.o.trans (X1.o.trans XV.o);obtain⟨e1,e2,e3,-⟩:=ZFT hwV (by omega:w.heap.size+1+1≠w.heap.size+1+1+1) ZB ZB J2.o J3.o (.int .i64 11) (.bool false) (.int .i64 0) (.int .i64 0) (.int .i64 0) (.int .i64 0) (.int .i64 (ce.pol:Int)) (.slice r.K kl r.kc) (.int .i64 ce.tat) (.slice r.H n r.hc);refine ZcY (JV (p:=6) (q:=7) rfl _ _ (w.heap.size+1+1) (w.heap.size+1+1+1) _ _ _ _ (0,0) (0,0) _ _ rfl e1 rfl e2 Tryz.underlying39 ZTw ZC Tryz.underlying62 ZTw ZC) rfl ?_;exact⟨r,by rw[Hk.o,Hn.o];rfl,HP.o.ext e3,e3⟩
theorem ZTf {w:World}{p:Addr}{v:Value}{g:Nat}{b0 b1 b2 b3:Value}(h:w.cell? p=some v)(hne:p.block≠g):((((w.setCell ⟨g,0,none⟩ b0).setCell ⟨g,1,none⟩ b1).setCell ⟨g,2,none⟩ b2).setCell ⟨g,3,none⟩ b3).cell? p=some v:=by
 have h0:=ZZ (g:=g) (i:=0) (u:=b0) h hne;have h1:=ZZ (g:=g) (i:=1) (u:=b1) h0 hne;have h2:=ZZ (g:=g) (i:=2) (u:=b2) h1 hne;exact ZZ (g:=g) (i:=3) (u:=b3) h2 hne
def ZR1 (W:World)(X:Zdb)(at_:Nat)(has:Bool)(ce:ZO)(v11 v12 v13:Value)(wd:World):Prop:=∃b t r,v11=.int .i64 (at_:Int)/\v12=.bool has/\v13=.pointer (some ⟨b,0,none⟩)/\wd.heap[b]?=some (.cells #[.int .i64 (ce.pol:Int),.slice r.K ce.key.length r.kc,.int .i64 ce.tat,.slice r.H ce.held.length r.hc] t (0,0))/\W.heap.size<=b/\YQ wd X r ce/\ZL W wd
theorem ZN7 {W w2:World}{X:Zdb}{at_:Nat}{has:Bool}{ce:ZO}{r:YI}{t:TypeId}(hp:YQ w2 X r ce)(hx:ZL W w2): ZR1 W X at_ has ce (.int .i64 (at_:Int)) (.bool has) (.pointer (some ⟨w2.heap.size,0,none⟩)) (w2.alloc (.cells #[.int .i64 (ce.pol:Int),.slice r.K ce.key.length r.kc,.int .i64 ce.tat,.slice r.H ce.held.length r.hc] t)):=⟨_,t,r,rfl,rfl,rfl,ZM w2 _,hx.size,hp.ext ((ZL.refl w2).alloc _),hx.alloc _⟩
theorem ZLp {W w2:World}{X:Zdb}{at_:Nat}{has:Bool}{ce:ZO}{r:YI}{t:TypeId}{b:Nat}{a0 a1 a2 a3:Value}(hp:YQ w2 X r ce)(hx:ZL W w2)(hb:w2.heap[b]?=some (.cells #[a0,a1,a2,a3] t (0,0)))(hW:W.heap.size<=b)(hpb:∀u,GB w2 u (· =b)->YQ u X r ce): ZR1 W X at_ has ce (.int .i64 (at_:Int)) (.bool has) (.pointer (some ⟨b,0,none⟩)) ((((w2.setCell ⟨b,0,none⟩ (.int .i64 (ce.pol:Int))).setCell ⟨b,1,none⟩ (.slice r.K ce.key.length r.kc)).setCell ⟨b,2,none⟩ (.int .i64 ce.tat)).setCell ⟨b,3,none⟩ (.slice r.H ce.held.length r.hc)):=⟨b,t,r,rfl,rfl,rfl,ZAS hb _ _ _ _,hW,hpb _ ((GB.refl w2 (· =b)).grown (ZLj w2 b _ _ _ _) (λq e=>by injection e with e;exact .inl e.symm)),ZRf hx hW _ _ _ _⟩
theorem ZP8 {W w2:World}{X:Zdb}{at_:Nat}{has:Bool}{ce:ZO}{r:YI}{t:TypeId}{a0 a1 a2 a3:Value}(hp:YQ w2 (XG X W.heap.size) r ce)(hx:ZL W w2)(hb:w2.heap[W.heap.size]?=some (.cells #[a0,a1,a2,a3] t (0,0))): ZR1 W X at_ has ce (.int .i64 (at_:Int)) (.bool has) (.pointer (some ⟨W.heap.size,0,none⟩)) ((((w2.setCell ⟨W.heap.size,0,none⟩ (.int .i64 (ce.pol:Int))).setCell ⟨W.heap.size,1,none⟩ (.slice r.K ce.key.length r.kc)).setCell ⟨W.heap.size,2,none⟩ (.int .i64 ce.tat)).setCell ⟨W.heap.size,3,none⟩ (.slice r.H ce.held.length r.hc)):=ZLp (hp.kp (Kp.of (S:=λ_=>False) (GB.refl w2 _) (λ_ _ e=>e.elim) (λ_ _ e=>.inl e))) hx hb (Zb0 _) (λu gb=>hp.kp (Kp.of gb (λ_ _ e=>.inr e) (λ_ _ e=>.inl e)))
theorem ZT6 {p : Prop} (h : p := by with_reducible first | assumption | (refine ZK ?_; assumption) | (refine ZI ?_ _; assumption) | (refine ZK (ZI ?_ _); assumption) | (refine ZTf ?_ ?_ <;> assumption) | (refine ZK (ZTf ?_ ?_) <;> assumption)) : p := h
theorem ZGj (w:World)(X:Zdb)(d:JM)(f:Yi)(n c:Nat)(A:Option Addr)(rs:List YI)(ce:ZO)(r:YI)(hX:Z0 w X)(hn:f.cells.length=n)(hf:Zq w X A f.cells rs)(hP:YQ w X r ce)(hne:(ce.held.length:Int)≠d.pol.perm)(h8:w.cell? ⟨d.xb,8,none⟩=some (.int .i64 0)): Calls Tryz.prog 193 #[ZH d.xb,.agg #[.int .u8 (d.pol.kind:Int),.int .i64 d.pol.T,.int .i64 d.pol.Tau,.int .i64 d.pol.perm],.agg #[.int .i64 (f.word:Int),.int .u64 (f.v:Int),.slice A n c],.int .i64 (f.at_:Int),.bool f.there,.agg #[.int .i64 (ce.pol:Int),.slice r.K ce.key.length r.kc,.int .i64 ce.tat,.slice r.H ce.held.length r.hc]] w (Jx X d (.on (.mv 33 1 4611686018427387903 (.serial f ce))) w):=by
 have hmf:=Jg;subst hn;obtain⟨W,hW⟩:=ZTz (((((((((w.alloc (.cells #[ZH d.xb] 203)).alloc (.cells #[.int .u8 (d.pol.kind:Int),.int .i64 d.pol.T,.int .i64 d.pol.Tau,.int .i64 d.pol.perm] 80)).alloc (.cells #[.int .i64 (f.word:Int),.int .u64 (f.v:Int),.slice A f.cells.length c] 319)).alloc (.cells #[.int .i64 (f.at_:Int)] 3)).alloc (.cells #[.bool f.there] 4)).alloc (.cells #[.int .i64 (ce.pol:Int),.slice r.K ce.key.length r.kc,.int .i64 ce.tat,.slice r.H ce.held.length r.hc] 62)).alloc ZUA).alloc (.cells #[Z1 250 #[ZH (w.heap.size+1),ZH (w.heap.size+1+1+1+1+1),ZH w.heap.size,ZH (w.heap.size+1+1),ZH (w.heap.size+1+1+1),ZH (w.heap.size+1+1+1+1)]] 207)));have xW:ZL w W:=by rw[<-hW];exact(((((((((ZL.refl w).alloc _).alloc _).alloc _).alloc _).alloc _).alloc _).alloc _).alloc _)
 have hg6:∀k,w.heap.size<=k->k≠w.heap.size+1+1+1+1+1+1->¬XG X (w.heap.size+1+1+1+1+1+1) k:=λk h1 h2 e=>e.elim (hX.not h1) h2;have rr:∀(i:Nat) (cs:Array Value),Zb W X (ZH i) cs->i≠w.heap.size+1+1+1+1+1+1->Zb W (XG X (w.heap.size+1+1+1+1+1+1)) (ZH i) cs:=λi cs h hi=>by
  obtain⟨b,t,e1,e2,e3⟩:=h;refine⟨b,t,e1,e2,λe=>e.elim e3 (λe=>?_)⟩;injection e1 with e1;injection e1 with e1;injection e1 with e1;omega
 have r0:=rr w.heap.size #[ZH d.xb] (by rw[<-hW];exact((((((((Zb.new rfl (hX.not ZB)).past _).past _).past _).past _).past _).past _).past _)) ZB;have r1:=rr (w.heap.size+1) (ZCY d.pol) (by rw[<-hW];exact(((((((Zb.new ZTv (hX.not ZB)).past _).past _).past _).past _).past _).past _)) ZB;have r2:=rr (w.heap.size+1+1) #[.int .i64 (f.word:Int),.int .u64 (f.v:Int),.slice A f.cells.length c] (by rw[<-hW];exact((((((Zb.new ZTv (hX.not ZB)).past _).past _).past _).past _).past _)) ZB;have r3:=rr (w.heap.size+1+1+1) #[.int .i64 (f.at_:Int)] (by rw[<-hW];exact(((((Zb.new ZTv (hX.not ZB)).past _).past _).past _).past _)) ZB;have r4:=rr (w.heap.size+1+1+1+1) #[.bool f.there] (by rw[<-hW];exact((((Zb.new ZTv (hX.not ZB)).past _).past _).past _)) ZB;have r5:=rr (w.heap.size+1+1+1+1+1) (Y1 r ce).toArray (by rw[<-hW];exact(((Zb.new ZTv (hX.not ZB)).past _).past _)) ZB;have r7:=rr (w.heap.size+1+1+1+1+1+1+1) #[Z1 250 #[ZH (w.heap.size+1),ZH (w.heap.size+1+1+1+1+1),ZH w.heap.size,ZH (w.heap.size+1+1),ZH (w.heap.size+1+1+1),ZH (w.heap.size+1+1+1+1)]] (by rw[<-hW];exact(Zb.new ZTv (hX.not ZB))) ZB;have kp:=kpg (X:=X) xW (by omega:w.heap.size<=w.heap.size+1+1+1+1+1+1);have K6:=ZA (show W.heap[w.heap.size+1+1+1+1+1+1]?=some ZUA by rw[<-hW];exact ZR (Zd _ _ ZTv) _);have AQ:ZE9 W (XG X (w.heap.size+1+1+1+1+1+1)) d (Z1 250 #[ZH (w.heap.size+1),ZH (w.heap.size+1+1+1+1+1),ZH w.heap.size,ZH (w.heap.size+1+1),ZH (w.heap.size+1+1+1),ZH (w.heap.size+1+1+1+1)]) f ce:=⟨_,_,_,_,_,_,rfl,r1,⟨r,r5,hP.kp kp⟩,r0,⟨A,c,rs,r2,hf.kp kp⟩,r3,r4⟩;have MV:=ZA (ZMt W (XG X (w.heap.size+1+1+1+1+1+1)) d 33 1 4611686018427387903 33 1 4611686018427387903 (Z1 252 #[ZH w.heap.size]) (Z1 253 #[ZH w.heap.size,ZH (w.heap.size+1+1+1+1+1+1+1)]) (.serial f ce) rfl rfl rfl (hX.xg xW (ZW K6.o)) ⟨_,_,_,_,rfl,r0,rfl,r0,r7,AQ⟩);have y8:=ZG xW h8;have e0:=r0.ZT2 0 (ZH d.xb);have XW:=ZA xW;obtain⟨hl,Hhl⟩:=ZTy (ce.held.length);have HW:=ZA hW;rw[Hhl.o]at hne;rw[Hhl.o]at HW;rw[Hhl.o];clear hf hP hX rr hg6 r0 r1 r2 r3 r4 r5 r7 kp AQ xW hW;go_enter Tryz.func193,Tryz.ntmps193;go_upto_region 4 with fail
 (try rw[HW.o])
 clear HW;go_wp2_with fail;refine MV.o.mono ?_;rintro e w1 ⟨v,rfl,hk,hx⟩;have ON:=ZA (Jf hk);have X1:=ZA (XW.o.trans hx);have K2:=ZA (ZJ K6.o hx);clear hk hx;go_wp2_with fail;refine ON.o.mono ?_;rintro e w2 ⟨nv,done,r',rfl,ho,hx⟩;have HO:=ZA ho;have HX:=ZA hx;have K3:=ZA (ZJ K2.o hx);obtain⟨s0,z0,s1,z1,s2,z2,s3,z3,s4,z4,s5,z5,s6,z6⟩:=ZT9 K3.o;clear ho hx;go_wp2_with fail;refine ZcY (ZQ (p:=13) (u:=12) rfl _ _ (w.heap.size+1+1+1+1+1+1) _ #[.bool done,.int .i64 (r'.er:Int),.bool r'.granted,.int .i64 r'.left,.int .i64 r'.wait,.int .i64 r'.ser,.int .i64 r'.now] (0,0) _ rfl (Yf K3.o _ _ _ _ _ _ _) Tryz.underlying41 ZTw ZC) rfl ?_;exact Yj HO.o (X1.o.trans HX.o) ZB _ _ _ _ _ _ _
section
theorem ZP7 {w a:World}{S:Zdb}{g:Nat}(h:GB w a S)(hg:S g\/w.heap.size<=g)(b0 b1 b2 b3 b4 b5:Value):GB w ((((((a.setCell ⟨g,0,none⟩ b0).setCell ⟨g,1,none⟩ b1).setCell ⟨g,2,none⟩ b2).setCell ⟨g,3,none⟩ b3).setCell ⟨g,4,none⟩ b4).setCell ⟨g,5,none⟩ b5) S:=h.grown (ZP4 a g b0 b1 b2 b3 b4 b5) (λq e=>by injection e with e;subst e;exact hg)
theorem ZMq {w a:World}{S:Zdb}{g:Nat}(h:GB w a S)(hg:S g\/w.heap.size<=g)(b0 b1 b2 b3:Value):GB w ((((a.setCell ⟨g,0,none⟩ b0).setCell ⟨g,1,none⟩ b1).setCell ⟨g,2,none⟩ b2).setCell ⟨g,3,none⟩ b3) S:=h.grown (ZLj a g b0 b1 b2 b3) (λq e=>by injection e with e;subst e;exact hg)
def ZMK (W:World)(X:Zdb)(rep:YH)(ce:ZO)(v7 v8:Value)(wd:World):Prop:=∃b7 b8 r,v7=.pointer (some ⟨b7,0,none⟩)/\v8=.pointer (some ⟨b8,0,none⟩)/\wd.heap[b7]?=some (.cells #[.int .i64 (rep.er:Int),.bool rep.granted,.int .i64 rep.left,.int .i64 rep.wait,.int .i64 rep.ser,.int .i64 rep.now] 39 (0,0))/\wd.heap[b8]?=some (.cells #[.int .i64 (ce.pol:Int),.slice r.K ce.key.length r.kc,.int .i64 ce.tat,.slice r.H ce.held.length r.hc] 62 (0,0))/\W.heap.size<=b7/\W.heap.size<=b8/\YQ wd X r ce/\ZL W wd
abbrev ZAO:Obj:=.cells #[.int .i64 0,.bool false,.int .i64 0,.int .i64 0,.int .i64 0,.int .i64 0] 39 (0,0)
abbrev ZAP:Obj:=.cells #[.int .i64 0,.slice none 0 0,.int .i64 0,.slice none 0 0] 62 (0,0)
abbrev XN (X:Zdb)(W v:World):Nat->Prop:=λi=>X i\/(W.heap.size<=i/\i<v.heap.size)
abbrev XI (X:Zdb)(W:World):Nat->Prop:=λi=>X i\/W.heap.size<=i
def OX (OO:Zdb)(p8 p9:Option Nat):Nat->Prop:=λi=>OO i\/p8=some i\/p9=some i
structure AJ0 (W u:World)(p8 p9:Option Nat):Prop where
 x:ZL W u
 b8:∀k,p8=some k->W.heap.size<=k/\u.heap[k]?=some ZAO
 b9:∀k,p9=some k->W.heap.size<=k/\u.heap[k]?=some ZAP
 ne:∀k k',p8=some k->p9=some k'->k≠k'
theorem AJ0.start {W u:World}(x:ZL W u):AJ0 W u none none:=⟨x,λ_ e=>(by cases e),λ_ e=>(by cases e),λ_ _ e=>(by cases e)⟩
theorem AJ0.a8 {W u:World}{p9:Option Nat}(h:AJ0 W u none p9):AJ0 W (u.alloc ZAO) (some u.heap.size) p9:=⟨h.x.alloc _,λk e=>by injection e with e;subst e;exact⟨h.x.size,ZM u _⟩,λk e=>⟨(h.b9 k e).1,ZR (h.b9 k e).2 _⟩,λk k' e e'=>by injection e with e;subst e;have:=ZW (h.b9 _ e').2;omega⟩
theorem AJ0.a9 {W u:World}{p8:Option Nat}(h:AJ0 W u p8 none):AJ0 W (u.alloc ZAP) p8 (some u.heap.size):=⟨h.x.alloc _,λk e=>⟨(h.b8 k e).1,ZR (h.b8 k e).2 _⟩,λk e=>by injection e with e;subst e;exact⟨h.x.size,ZM u _⟩,λk k' e e'=>by injection e' with e';subst e';have:=ZW (h.b8 _ e).2;omega⟩
theorem AJ0.a8' {W u:World}{p9:Option Nat}(h:AJ0 W u none p9):∃k v,u.heap.size=k/\u.alloc ZAO=v/\AJ0 W v (some k) p9:=⟨_,_,rfl,rfl,h.a8⟩
theorem AJ0.a9' {W u:World}{p8:Option Nat}(h:AJ0 W u p8 none):∃k v,u.heap.size=k/\u.alloc ZAP=v/\AJ0 W v p8 (some k):=⟨_,_,rfl,rfl,h.a9⟩
theorem ZQZ {u:World}{k:Nat}{t:TypeId}{z0 z1 z2 z3 z4 z5:Value}(h:u.heap[k]?=some (.cells #[z0,z1,z2,z3,z4,z5] t (0,0)))(b0 b1 b2 b3 b4 b5:Value):((((((u.setCell ⟨k,0,none⟩ b0).setCell ⟨k,1,none⟩ b1).setCell ⟨k,2,none⟩ b2).setCell ⟨k,3,none⟩ b3).setCell ⟨k,4,none⟩ b4).setCell ⟨k,5,none⟩ b5).heap[k]?=some (.cells #[b0,b1,b2,b3,b4,b5] t (0,0)):=by
 have h0:(u.setCell ⟨k,0,none⟩ b0).heap[k]?=some (.cells #[b0,z1,z2,z3,z4,z5] t (0,0)):=ZU h 0 b0;have h1:=ZU h0 1 b1;have h2:=ZU h1 2 b2;have h3:=ZU h2 3 b3;have h4:=ZU h3 4 b4;exact ZU h4 5 b5
theorem ZQa {u:World}{k:Nat}{t:TypeId}{z0 z1 z2 z3:Value}(h:u.heap[k]?=some (.cells #[z0,z1,z2,z3] t (0,0)))(b0 b1 b2 b3:Value):((((u.setCell ⟨k,0,none⟩ b0).setCell ⟨k,1,none⟩ b1).setCell ⟨k,2,none⟩ b2).setCell ⟨k,3,none⟩ b3).heap[k]?=some (.cells #[b0,b1,b2,b3] t (0,0)):=by
 have h0:(u.setCell ⟨k,0,none⟩ b0).heap[k]?=some (.cells #[b0,z1,z2,z3] t (0,0)):=ZU h 0 b0;have h1:=ZU h0 1 b1;have h2:=ZU h1 2 b2;exact ZU h2 3 b3
structure BJ (W u:World)(X:Zdb)(r:YI)(ce:ZO)(o8 o9:Obj)(p8 p9:Option Nat):Prop where
 x:ZL W u
 pt:YQ u (OX X p8 p9) r ce
 b8:∀k,p8=some k->W.heap.size<=k/\u.heap[k]?=some o8
 b9:∀k,p9=some k->W.heap.size<=k/\u.heap[k]?=some o9
 ne:∀k k',p8=some k->p9=some k'->k≠k'
section
variable {W u:World} {X:Zdb} {r:YI} {ce:ZO} {o8 o9:Obj} {p8 p9:Option Nat}
theorem AJ0.kp (h:AJ0 W u p8 p9):Kp W u X (OX X p8 p9):=Kp.of (S:=λ_=>False) (GB.of_ext _ h.x) (λ_ _ e=>e.elim) (λi hi e=>e.elim id (λe=>e.elim (λe=>by have:=(h.b8 i e).1;omega) (λe=>by have:=(h.b9 i e).1;omega)))
theorem AJ0.nw (h:AJ0 W u p8 p9)(hX:Z0 W X):Z0 u (OX X p8 p9):=λi hi=>hi.elim (λe=>Zb5 (hX i e) h.x.size) (λe=>e.elim (λe=>ZW (h.b8 i e).2) (λe=>ZW (h.b9 i e).2))
theorem AJ0.act {w2:World}(h:AJ0 W u p8 p9)(hx:ZL u w2)(hp:YQ w2 (OX X p8 p9) r ce):BJ W w2 X r ce ZAO ZAP p8 p9:=⟨h.x.trans hx,hp,λk e=>⟨(h.b8 k e).1,ZJ (h.b8 k e).2 hx⟩,λk e=>⟨(h.b9 k e).1,ZJ (h.b9 k e).2 hx⟩,h.ne⟩
theorem BJ.a8' (h:BJ W u X r ce ZAO o9 none p9):∃k v,u.heap.size=k/\u.alloc ZAO=v/\BJ W v X r ce ZAO o9 (some k) p9:=by
 have x:ZL u (u.alloc ZAO):=(ZL.refl u).alloc _;refine⟨_,_,rfl,rfl,h.x.alloc _,h.pt.kp (Kp.of (GB.of_ext (λ_=>False) x) (λ_ _ e=>e.elim) (λi hi e=>e.elim .inl (λe=>e.elim (λe=>by injection e with e;omega) (λe=>.inr (.inr e))))),λk e=>?_,λk e=>⟨(h.b9 k e).1,ZR (h.b9 k e).2 _⟩,λk k' e e'=>?_⟩
 ·injection e with e;subst e;exact⟨h.x.size,ZM u _⟩
 ·injection e with e;subst e;have:=ZW (h.b9 _ e').2;omega
theorem BJ.a9' (h:BJ W u X r ce o8 ZAP p8 none):∃k v,u.heap.size=k/\u.alloc ZAP=v/\BJ W v X r ce o8 ZAP p8 (some k):=by
 have x:ZL u (u.alloc ZAP):=(ZL.refl u).alloc _;refine⟨_,_,rfl,rfl,h.x.alloc _,h.pt.kp (Kp.of (GB.of_ext (λ_=>False) x) (λ_ _ e=>e.elim) (λi hi e=>e.elim .inl (λe=>e.elim (λe=>.inr (.inl e)) (λe=>by injection e with e;omega)))),λk e=>⟨(h.b8 k e).1,ZR (h.b8 k e).2 _⟩,λk e=>?_,λk k' e e'=>?_⟩
 ·injection e with e;subst e;exact⟨h.x.size,ZM u _⟩
 ·injection e' with e';subst e';have:=ZW (h.b8 _ e).2;omega
theorem BJ.k8 {k:Nat}(h:BJ W u X r ce o8 o9 (some k) p9):u.heap[k]?=some o8:=(h.b8 k rfl).2
theorem BJ.k9 {k:Nat}(h:BJ W u X r ce o8 o9 p8 (some k)):u.heap[k]?=some o9:=(h.b9 k rfl).2
theorem BJ.wr {u':World}{k:Nat}{o8' o9':Obj}(h:BJ W u X r ce o8 o9 p8 p9)(gb:GB u u' (· =k))(hO:OX X p8 p9 k)(hk:W.heap.size<=k)(h8:∀k,p8=some k->u'.heap[k]?=some o8')(h9:∀k,p9=some k->u'.heap[k]?=some o9'):BJ W u' X r ce o8' o9' p8 p9:=⟨gb.to_ext h.x (λi e=>by rw[e];exact hk),h.pt.kp (Kp.of gb (λi _ e=>by rw[e];exact hO) (λi _ e=>e)),λk e=>⟨(h.b8 k e).1,h8 k e⟩,λk e=>⟨(h.b9 k e).1,h9 k e⟩,h.ne⟩
theorem BJ.s8' {k:Nat}(h:BJ W u X r ce ZAO o9 (some k) p9)(b0 b1 b2 b3 b4 b5:Value):∃v,((((((u.setCell ⟨k,0,none⟩ b0).setCell ⟨k,1,none⟩ b1).setCell ⟨k,2,none⟩ b2).setCell ⟨k,3,none⟩ b3).setCell ⟨k,4,none⟩ b4).setCell ⟨k,5,none⟩ b5)=v/\BJ W v X r ce (.cells #[b0,b1,b2,b3,b4,b5] 39 (0,0)) o9 (some k) p9:=by
 have gb:=ZP7 (GB.refl u (· =k)) (g:=k) (.inl rfl) b0 b1 b2 b3 b4 b5;refine⟨_,rfl,h.wr gb (.inr (.inl rfl)) (h.b8 k rfl).1 (λk' e=>?_) (λk' e=>gb.blk (h.b9 k' e).2 (λq=>h.ne k k' rfl e q.symm))⟩;obtain rfl:=Option.some.inj e;have hb:u.heap[k]?=some (.cells #[.int .i64 0,.bool false,.int .i64 0,.int .i64 0,.int .i64 0,.int .i64 0] 39 (0,0)):=(h.b8 k rfl).2;exact ZQZ hb b0 b1 b2 b3 b4 b5
theorem BJ.s9' {k:Nat}(h:BJ W u X r ce o8 ZAP p8 (some k))(b0 b1 b2 b3:Value):∃v,((((u.setCell ⟨k,0,none⟩ b0).setCell ⟨k,1,none⟩ b1).setCell ⟨k,2,none⟩ b2).setCell ⟨k,3,none⟩ b3)=v/\BJ W v X r ce o8 (.cells #[b0,b1,b2,b3] 62 (0,0)) p8 (some k):=by
 have gb:=ZMq (GB.refl u (· =k)) (g:=k) (.inl rfl) b0 b1 b2 b3;refine⟨_,rfl,h.wr gb (.inr (.inr rfl)) (h.b9 k rfl).1 (λk' e=>gb.blk (h.b8 k' e).2 (λq=>h.ne k' k e rfl q)) (λk' e=>?_)⟩;obtain rfl:=Option.some.inj e;have hb:u.heap[k]?=some (.cells #[.int .i64 0,.slice none 0 0,.int .i64 0,.slice none 0 0] 62 (0,0)):=(h.b9 k rfl).2;exact ZQa hb b0 b1 b2 b3
theorem BJ.two {rep:YH}{k k':Nat}(h:BJ W u X r ce (.cells #[.int .i64 (rep.er:Int),.bool rep.granted,.int .i64 rep.left,.int .i64 rep.wait,.int .i64 rep.ser,.int .i64 rep.now] 39 (0,0)) (.cells #[.int .i64 (ce.pol:Int),.slice r.K ce.key.length r.kc,.int .i64 ce.tat,.slice r.H ce.held.length r.hc] 62 (0,0)) (some k) (some k')):ZMK W X rep ce (.pointer (some ⟨k,0,none⟩)) (.pointer (some ⟨k',0,none⟩)) u:=⟨_,_,r,rfl,rfl,(h.b8 k rfl).2,(h.b9 k' rfl).2,(h.b8 k rfl).1,(h.b9 k' rfl).1,h.pt.kp (Kp.of (GB.refl u (λ_=>False)) (λ_ _ e=>e.elim) (λi _ e=>.inl e)),h.x⟩
end
end
theorem ZKT (W:World)(X:Zdb)(d:JM)(q0 q1 q2 q3 q4 q5:Nat)(f:Yi)(ce:ZO)(ser:Int)(hX:Z0 W X)(h:ZE9 W X d (Z1 250 #[ZH q0,ZH q1,ZH q2,ZH q3,ZH q4,ZH q5]) f ce)(h8:W.cell? ⟨d.xb,8,none⟩=some (.int .i64 ser))(hs:Ser ser)(hF:ZDG d.pol.perm ce.held)(hm:ser ∉ ce.held)(hlt:(ce.held.length:Int)<d.pol.perm)(res:Bool)(gx room:Nat)(h4:W.cell? ⟨d.xb,4,none⟩=some (ZH gx))(h7:W.cell? ⟨d.xb,7,none⟩=some (.bool res))(hr:W.cell? ⟨gx,1,none⟩=some (.int .u64 (room:Int))): Calls Tryz.prog 250 #[ZH q0,ZH q1,ZH q2,ZH q3,ZH q4,ZH q5] W (ClR (λw' v=>Ze w' X d v (Jk room res f (ZAE d.pol ce ser).2 (ZAE d.pol ce ser).1)) W):=by
 obtain⟨_,_,_,_,_,_,hq,k0,⟨r,k1,hp⟩,k2,⟨Af,cf,rsf,kf,hcf⟩,k4,k5⟩:=h;injection hq with _ _ hq;have e:=ZcZ Array.toList hq;simp only[Zai,and_true]at e;obtain⟨rfl,rfl,rfl,rfl,rfl,rfl⟩:=e;obtain⟨rep,Hrep⟩:=ZTy ((ZAE d.pol ce ser).1);obtain⟨ce',Hce⟩:=ZTy ((ZAE d.pol ce ser).2);have AQ:=ZA (λu (x:ZL W u) (X':Zdb) (kp:Kp W u X X') (hn:Z0 u X')=>ZKX u X' d.pol ce r ser hn (hp.kp kp) hs hF hm hlt);rw[Hrep.o,Hce.o]at AQ ⊢;have H4':=ZA h4;have H7':=ZA h7;have HR':=ZA hr;have XA:=ZA (show ZL W (W.alloc ZAO).drew from((ZL.refl W).alloc _).drew);have XB:=ZA (show ZL W (W.alloc ZAP).drew from((ZL.refl W).alloc _).drew);have XAB:=ZA (show ZL W ((W.alloc ZAO).alloc ZAP).drew from(((ZL.refl W).alloc _).alloc _).drew);have XBA:=ZA (show ZL W ((W.alloc ZAP).alloc ZAO).drew from(((ZL.refl W).alloc _).alloc _).drew);have e0:=k0.ZT2 0 (.int .u8 (d.pol.kind:Int));have e1:=k0.ZT2 1 (.int .i64 d.pol.T);have e2:=k0.ZT2 2 (.int .i64 d.pol.Tau);have e3:=k0.ZT2 3 (.int .i64 d.pol.perm);have f0:=k1.ZT2 0 (.int .i64 (ce.pol:Int));have f1:=k1.ZT2 1 (.slice r.K ce.key.length r.kc);have f2:=k1.ZT2 2 (.int .i64 ce.tat);have f3:=k1.ZT2 3 (.slice r.H ce.held.length r.hc);have g0:=k2.ZT2 0 (ZH d.xb);have H0:=ZA k0;have H2:=ZA k2;have HKF:=ZA kf;have H4:=ZA k4;have H5:=ZA k5;have HX:=ZA hX;have HCF:=ZA hcf;clear h4 h7 hr hcf;clear k0 k1 k2 kf k4 k5 hp hX hs hF hm hlt hq;go_enter Tryz.func250,Tryz.ntmps250;go_upto_region 1 with fail;have HS:=ZA (λ(w':World) (hE:ZL W w')=>(⟨ZG hE e0,ZG hE e1,ZG hE e2,ZG hE e3,ZG hE f0,ZG hE f1,ZG hE f2,ZG hE f3,ZG hE g0,ZG hE h8⟩:w'.cell? ⟨q0,0,none⟩=some (.int .u8 (d.pol.kind:Int))/\w'.cell? ⟨q0,1,none⟩=some (.int .i64 d.pol.T)/\w'.cell? ⟨q0,2,none⟩=some (.int .i64 d.pol.Tau)/\w'.cell? ⟨q0,3,none⟩=some (.int .i64 d.pol.perm)/\w'.cell? ⟨q1,0,none⟩=some (.int .i64 (ce.pol:Int))/\w'.cell? ⟨q1,1,none⟩=some (.slice r.K ce.key.length r.kc)/\w'.cell? ⟨q1,2,none⟩=some (.int .i64 ce.tat)/\w'.cell? ⟨q1,3,none⟩=some (.slice r.H ce.held.length r.hc)/\w'.cell? ⟨q2,0,none⟩=some (ZH d.xb)/\w'.cell? ⟨d.xb,8,none⟩=some (.int .i64 ser)))
 go_cut [7,8] (λv7 v8 wd=>ZMK W X rep ce' v7 v8 wd)
 case first=>
  refine JZ (λu=>u.cell? ⟨q0,0,none⟩=some (.int .u8 (d.pol.kind:Int))/\u.cell? ⟨q0,1,none⟩=some (.int .i64 d.pol.T)/\u.cell? ⟨q0,2,none⟩=some (.int .i64 d.pol.Tau)/\u.cell? ⟨q0,3,none⟩=some (.int .i64 d.pol.perm)/\u.cell? ⟨q1,0,none⟩=some (.int .i64 (ce.pol:Int))/\u.cell? ⟨q1,1,none⟩=some (.slice r.K ce.key.length r.kc)/\u.cell? ⟨q1,2,none⟩=some (.int .i64 ce.tat)/\u.cell? ⟨q1,3,none⟩=some (.slice r.H ce.held.length r.hc)/\u.cell? ⟨q2,0,none⟩=some (ZH d.xb)/\u.cell? ⟨d.xb,8,none⟩=some (.int .i64 ser)) [6] ZC ?_;have J:=ZA (AJ0.start (show ZL W W.drew from(ZL.refl W).drew));have hHeld:=HS.o _ J.o.x;generalize W.drew=u0 at hHeld J ⊢;refine ZT1 (i:=0) (v:=?_) rfl (Or.inl ⟨by rfl,?_⟩) (by assumption) ?_
  rotate_left
  ·intro w' hSw;obtain⟨e0,e1,e2,e3,f0,f1,f2,f3,g0,h8⟩:=hSw;go_simp
   (try with_reducible rfl)
  (try simp only[Act.put])
  refine ZT1 (i:=1) (v:=?_) rfl (Or.inl ⟨by rfl,?_⟩) (by assumption) ?_
  rotate_left
  ·intro w' hSw;obtain⟨e0,e1,e2,e3,f0,f1,f2,f3,g0,h8⟩:=hSw;go_simp
   (try with_reducible rfl)
  (try simp only[Act.put])
  refine ZT1 (i:=2) (v:=?_) rfl (Or.inl ⟨by rfl,?_⟩) (by assumption) ?_
  rotate_left
  ·intro w' hSw;obtain⟨e0,e1,e2,e3,f0,f1,f2,f3,g0,h8⟩:=hSw;go_simp
   (try with_reducible rfl)
  (try simp only[Act.put])
  refine ZT0 (i:=3) (v:=?_) rfl (Or.inl ⟨by rfl,?_⟩) (YL.of hHeld) ?_
  rotate_left
  ·intro w' _;go_simp
   (try with_reducible rfl)
  (try simp only[Act.put])
  refine ZT0 (i:=4) (v:=?_) rfl (Or.inl ⟨by rfl,?_⟩) (YL.of hHeld) ?_
  rotate_left
  ·intro w' _;go_simp
   (try with_reducible rfl)
  (try simp only[Act.put])
  refine ZT1 (i:=5) (v:=?_) rfl (Or.inl ⟨by rfl,?_⟩) (by assumption) ?_
  rotate_left
  ·intro w' hSw;obtain⟨e0,e1,e2,e3,f0,f1,f2,f3,g0,h8⟩:=hSw;go_simp
   (try with_reducible rfl)
  (try simp only[Act.put])
  clear hHeld
  iterate 3
   all_goals
    first
     |(have:=(J.o:AJ0 _ _ none none);clear this;refine ZY (rs:=[6,10,11]) ZC ZTv (ZN.last (o:=_) ZC rfl (λK' hK=>?_) (ZN.cons (o:=_) rfl (λK' hK=>?_) (ZN.cons (o:=_) rfl (λK' hK=>?_) ZN.nil))))
     |(have:=(J.o:AJ0 _ _ none (some _));clear this;refine ZY (rs:=[6,10]) ZC ZTv (ZN.last (o:=_) ZC rfl (λK' hK=>?_) (ZN.cons (o:=_) rfl (λK' hK=>?_) ZN.nil)))
     |(have:=(J.o:AJ0 _ _ (some _) none);clear this;refine ZY (rs:=[6,11]) ZC ZTv (ZN.last (o:=_) ZC rfl (λK' hK=>?_) (ZN.cons (o:=_) rfl (λK' hK=>?_) ZN.nil)))
     |(have:=(J.o:AJ0 _ _ (some _) (some _));clear this;refine ZY (rs:=[6]) ZC ZTv (ZN.last (o:=_) ZC rfl (λK' hK=>?_) ZN.nil))
     |(have:=(J.o:BJ _ _ _ _ _ _ _ none none);clear this;refine ZY (rs:=[10,11]) ZC ZTv (ZN.last (o:=_) ZC rfl (λK' hK=>?_) (ZN.last (o:=_) ZC rfl (λK' hK=>?_) ZN.nil)))
     |(have:=(J.o:BJ _ _ _ _ _ _ _ none (some _));clear this;refine ZY (rs:=[10]) ZC ZTv (ZN.last (o:=_) ZC rfl (λK' hK=>?_) ZN.nil))
     |(have:=(J.o:BJ _ _ _ _ _ _ _ (some _) none);clear this;refine ZY (rs:=[11]) ZC ZTv (ZN.last (o:=_) ZC rfl (λK' hK=>?_) ZN.nil))
    all_goals
     go_simp
     first
      |((with_reducible refine(AQ.o _ J.o.x _ J.o.kp (J.o.nw HX.o)).mono ?_);rintro e u ⟨r',rfl,hp',hx⟩;have J:=ZA (J.o.act hx hp');clear hp' hx;refine hK.out _ _ ?_;clear hK K';(try simp only[Act.put]);refine ZT0 (i:=7) (v:=?_) rfl (Or.inl ⟨by rfl,?_⟩) (YL.past ZC) ?_;rotate_left;(focus (intro w' _;go_simp;(try with_reducible rfl)));(try simp only[Act.put]);refine ZT0 (i:=8) (v:=?_) rfl (Or.inl ⟨by rfl,?_⟩) (YL.past ZC) ?_;rotate_left;(focus (intro w' _;go_simp;(try with_reducible rfl)));(try simp only[Act.put]);refine ZT0 (i:=9) (v:=?_) rfl (Or.inl ⟨by rfl,?_⟩) (YL.past ZC) ?_;rotate_left;(focus (intro w' _;go_simp;(try with_reducible rfl)));(try simp only[Act.put]))
      |(refine hK.out _ _ (HS.o _ (J.o.x.alloc ZAO)) ?_;clear hK K';(try simp only[Act.put]);obtain⟨k8,v,hq,hv,J⟩:=J.o.a8';rw[hv,hq];have J:=ZA J;clear hv hq)
      |(refine hK.out _ _ ?_;clear hK K';(try simp only[Act.put]);obtain⟨k8,v,hq,hv,J⟩:=J.o.a8';rw[hv,hq];have J:=ZA J;clear hv hq)
      |(refine hK.out _ _ (HS.o _ (J.o.x.alloc ZAP)) ?_;clear hK K';(try simp only[Act.put]);obtain⟨k9,v,hq,hv,J⟩:=J.o.a9';rw[hv,hq];have J:=ZA J;clear hv hq)
      |(refine hK.out _ _ ?_;clear hK K';(try simp only[Act.put]);obtain⟨k9,v,hq,hv,J⟩:=J.o.a9';rw[hv,hq];have J:=ZA J;clear hv hq)
  all_goals
   refine ZY (rs:=[12]) ZC ZTv (ZN.last (o:=_) ZC rfl (λK' hK=>?_) ZN.nil);have hb:=J.o.k8;obtain⟨s0,z0,s1,z1,s2,z2,s3,z3,s4,z4,s5,z5⟩:=ZT8 hb;clear hb
   go_simp
   refine hK.out _ _ ?_;clear hK K' s0 z0 s1 z1 s2 z2 s3 z3 s4 z4 s5 z5
   (try simp only[Act.put])
   obtain⟨v,hv,J⟩:=J.o.s8' (.int .i64 (rep.er:Int)) (.bool rep.granted) (.int .i64 rep.left) (.int .i64 rep.wait) (.int .i64 rep.ser) (.int .i64 rep.now);rw[hv];have J:=ZA J;clear hv;refine ZY (rs:=[13]) ZC ZTv (ZN.last (o:=_) ZC rfl (λK' hK=>?_) ZN.nil);have hb:=J.o.k9;obtain⟨s0,z0,s1,z1,s2,z2,s3,z3⟩:=ZT7 hb;clear hb
   go_simp
   refine hK.out _ _ ?_;clear hK K' s0 z0 s1 z1 s2 z2 s3 z3
   (try simp only[Act.put])
   obtain⟨v,hv,J⟩:=J.o.s9' (.int .i64 (ce'.pol:Int)) (.slice r'.K ce'.key.length r'.kc) (.int .i64 ce'.tat) (.slice r'.H ce'.held.length r'.hc);rw[hv];have J:=ZA J;clear hv;refine Ja ZC ?_ _;go_wp2_with fail
   go_meet
   exact J.o.two
 case rest=>
  obtain⟨b7,b8,r9,rfl,rfl,kb7,kb8,hb7,hb8,hp,hx⟩:=hcut;have PT:=ZA (ZLx wc X d f _ cf Af rsf ce' r9 rep res gx room (HX.o.ext hx) rfl (HCF.o.ext hx) hp (ZG hx H4'.o) (ZG hx H7'.o) (ZG hx HR'.o));have g0:=(H2.o.ext hx).ZT2 0 (ZH d.xb);have a0:=(HKF.o.ext hx).ZT2 0 (.int .i64 (f.word:Int));have a1:=(HKF.o.ext hx).ZT2 1 (.int .u64 (f.v:Int));have a2:=(HKF.o.ext hx).ZT2 2 (.slice Af f.cells.length cf);have a4:=(H4.o.ext hx).ZT2 0 (.int .i64 (f.at_:Int));have a5:=(H5.o.ext hx).ZT2 0 (.bool f.there);have c0:=ZE kb8 0;have c1:=ZE kb8 1;have c2:=ZE kb8 2;have c3:=ZE kb8 3;have s0:=ZE kb7 0;have s1:=ZE kb7 1;have s2:=ZE kb7 2;have s3:=ZE kb7 3;have s4:=ZE kb7 4;have s5:=ZE kb7 5;have XX:=ZA hx;clear kb7 kb8 hb7 hb8 hp hx e0 e1 e2 e3 f0 f1 f2 f3 h8;go_wp2_with fail;refine PT.out.mono ?_;rintro e w2 ⟨v,rfl,hk,hx⟩;have HK:=ZA hk;have HY:=ZA hx;clear hk hx;go_wp2_with fail;go_ret;exact⟨_,rfl,HK.o,XX.o.trans HY.o⟩
theorem YG {w:World}{X:Zdb}{p v:Value}(h:Zz w X p v):∃b,p=.pointer (some ⟨b,0,none⟩):=by
 obtain⟨b,h,_⟩:=h.ptr;exact⟨b,h⟩
theorem ZSj (w:World)(g:YE)(O C:Zdb)(xb:Nat->Nat)(L:List Zf)(s:YF)(who now q0 q1 N:Nat)(x:ZX)(res:Bool)(ser:Int)(k:YN)(f:Yi)(c:ZO)(av:Value)(h:YK w g O C xb L s)(hc:s.call who=.run x res ser k)(hN:L.length<=N)(hw:who<64)(hn1:1<=now)(hn2:now<=4611686018427387903)(k0:Zz w (XO C O) (ZH q0) (ZH (xb who)))(k1:Zz w (XO C O) (ZH q1) av)(ka:ZE9 w (XO C O) (Zi g who (xb who) x) av f c)(hF:ZDG (Zk g.P x.pol).perm c.held)(hm:(now:Int) ∉ c.held)(hlt:(c.held.length:Int)<(Zk g.P x.pol).perm): Calls Tryz.prog 253 #[.int .u64 (now:Int),ZH q0,ZH q1] w (SK w g O C xb who N x (s.put who (.run x res (now:Int) k)) (.on (Jk g.room res f (ZAE (Zk g.P x.pol) c now).2 (ZAE (Zk g.P x.pol) c now).1))):=by
 obtain⟨_,_,_,_,_,_,rfl,a0,a1,a2,a3,a4,a5⟩:=ka;obtain⟨c0,rfl⟩:=YG a2;obtain⟨c1,rfl,_⟩:=a0.ptr;obtain⟨c2,rfl⟩:∃b,_=Value.pointer (some ⟨b,0,none⟩):=by obtain⟨r,a1,_⟩:=a1;obtain⟨b,e,_⟩:=a1.ptr;exact⟨b,e⟩
 obtain⟨c3,rfl⟩:∃b,_=Value.pointer (some ⟨b,0,none⟩):=by obtain⟨A,n,r,a3,_⟩:=a3;obtain⟨b,e,_⟩:=a3.ptr;exact⟨b,e⟩
 obtain⟨c4,rfl⟩:=YG a4;obtain⟨c5,rfl⟩:=YG a5;obtain⟨W,hW⟩:=ZTz ((w.alloc ZUA));have xW:ZL w W:=by rw[<-hW];exact((ZL.refl w).alloc _)
 have K0:=ZA (show W.heap[w.heap.size]?=some ZUA by rw[<-hW];exact ZM w _);have hA:=h.xg xW (Zb0 _) (ZW K0.o);obtain⟨V,hV⟩:=ZTz (W.setCell ⟨xb who,8,none⟩ (.int .i64 (now:Int)));obtain⟨⟨tx,Kx,kcx,hxb,-,-,-⟩,hCx⟩:=hA.xat hw hc;have gV:GB W V (· =xb who):=by rw[<-hV];exact(GB.refl W (· =xb who)).set (xb who) 8 _ (.inl rfl)
 have hgo:=hA.setx (res':=res) (ser':=(now:Int)) hw hc gV (λt K kc e=>by rw[<-hV];exact ZU e 8 _);obtain⟨C',hmv⟩:=hgo.mov;have hkp:=hmv.kpg xW (Zb0 w.heap.size);have hcall:=hmv.1.call hw (YD s who _);have APUT:=ZA (ZKT V (XO C' (XG O w.heap.size)) (Zi g who (xb who) x) c1 c2 c0 c3 c4 c5 f c (now:Int) hmv.1.newer ⟨_,_,_,_,_,_,rfl,a0.kp hkp,a1.kp hkp,a2.kp hkp,a3.kp hkp,a4.kp hkp,a5.kp hkp⟩ hcall.2.2.2.1 ⟨by omega,by omega⟩ hF hm hlt res g.gx g.room hcall.1 hcall.2.2.1 hmv.1.rd.c1);have y8:=ZTx hxb 8 (.int .i64 ser);have z8:=ZF hxb 8;have e0:=(k0.ext xW).ZT2 0 (ZH (xb who));have f1:=(k1.kp hkp).ZT2 0 (Z1 250 #[ZH c1,ZH c2,ZH c0,ZH c3,ZH c4,ZH c5]);have hwn:IntKind.i64.wrap (now:Int)=(now:Int):=by rw[Zaa];omega
 have HM:=ZA hmv;have KV:=ZA (hmv.2.1.blk K0.o (λe=>Zb3 _ (h.lt _ e)));have XW:=ZA xW;have HW:=ZA hW;have HV:=ZA hV;obtain⟨xw,Hxw⟩:=ZTy (xb who);rw[Hxw.o]at y8 z8 e0 HV;obtain⟨pk,Hpk⟩:=ZTy (Jk g.room res f (ZAE (Zk g.P x.pol) c now).2 (ZAE (Zk g.P x.pol) c now).1);rw[show(Zi g who (xb who) x).pol=Zk g.P x.pol from rfl,Hpk.o]at APUT;rw[Hpk.o];clear h hc k0 k1 a0 a1 a2 a3 a4 a5 hA hxb hCx gV hgo hmv hkp hcall hW hV xW hF hm hlt hn1 hn2;go_enter Tryz.func253,Tryz.ntmps253;go_upto_region 1 with fail
 (try rw[HW.o])
 clear HW;go_upto_region 2 with fail
 (try rw[HV.o])
 clear HV;go_wp2_with fail;refine APUT.o.mono ?_;rintro e w1 ⟨v,rfl,hk,hx⟩;have ON:=ZA (Jf hk);have X1:=ZA hx;have K2:=ZA (ZJ KV.o hx);clear hk hx y8 z8 e0 f1 hwn;go_wp2_with fail;refine ON.o.mono ?_;rintro e w2 ⟨nv,done,r',rfl,ho,hx⟩;have HO:=ZA ho;have HX:=ZA hx;have K3:=ZA (ZJ K2.o hx);obtain⟨s0,z0,s1,z1,s2,z2,s3,z3,s4,z4,s5,z5,s6,z6⟩:=ZT9 K3.o;clear ho hx;go_wp2_with fail;refine ZcY (ZQ (p:=5) (u:=4) rfl _ _ (w.heap.size) _ #[.bool done,.int .i64 (r'.er:Int),.bool r'.granted,.int .i64 r'.left,.int .i64 r'.wait,.int .i64 r'.ser,.int .i64 r'.now] (0,0) _ rfl (Yf K3.o _ _ _ _ _ _ _) Tryz.underlying41 ZTw ZC) rfl ?_;exact YS hN XW.o (Zb0 _) (HM.o.ext (X1.o.trans HX.o)) HO.o _ _ _ _ _ _ _
theorem Z9.trans {w w1 w2:World}{g:YE}{O C C1 C2:Zdb}{xb:Nat->Nat}{L L2:List Zf}{s s2:YF}(h:Z9 w g O C xb L s C1 w1)(k:Z9 w1 g O C1 xb L2 s2 C2 w2):Z9 w g O C xb L2 s2 C2 w2:=⟨k.1,h.2.1.trans k.2.1 h.2.2,λi hi=>(k.2.2 i hi).elim (h.2.2 i) (λe=>.inr (Zb2 h.2.1.size e))⟩
theorem ZIZ (w:World)(g:YE)(O C:Zdb)(xb:Nat->Nat)(L:List Zf)(s:YF)(who u:Nat)(x:ZX)(res:Bool)(ser:Int)(f:Yi)(ce:ZO)(fn:FuncId)(caps:Array Value)(h:YK w g O C xb L s)(hc:s.call who=.run x res ser (.mvS 33 1 4611686018427387903 u (.serial f ce)))(hL:L.length<=100000)(hw:who<64)(hu:s.ws.getD 33 0=u)(hu2:u+1<=4611686018427387903)(hk:Ze w (XO C O) (Zi g who (xb who) x) (Z1 fn caps) (.mvS 33 1 4611686018427387903 u (.serial f ce)))(hF:ZDG (Zk g.P x.pol).perm ce.held)(hm:((u+1:Nat):Int) ∉ ce.held)(hlt:(ce.held.length:Int)<(Zk g.P x.pol).perm):
  Calls Tryz.prog fn caps w (SK w g O C xb who (L.length+1) x ({s with ws:=s.ws.set 33 (u+1),hs:=s.hs.set 33 []}.put who (.run x res ((u+1:Nat):Int) (.mvS 33 1 4611686018427387903 u (.serial f ce)))) (.on (Jk g.room res f (ZAE (Zk g.P x.pol) ce ((u+1:Nat):Int)).2 (ZAE (Zk g.P x.pol) ce ((u+1:Nat):Int)).1))):=by
 obtain⟨p0,p1,p2,p3,p4,p5,p6,sv,tv,hfn,k0,k1,k2,k3,k4,k5,k6,s0,q0,q1,av,hsv,ks0,htv,kq0,kq1,ka⟩:=hk;subst hsv htv;injection hfn with hfn h1 h2;injection hfn with hfn;subst hfn h2;obtain⟨b0,rfl⟩:=YG k0;obtain⟨b1,rfl⟩:=YG k1;obtain⟨b2,rfl⟩:=YG k2;obtain⟨b3,rfl⟩:=YG k3;obtain⟨b4,rfl⟩:=YG k4;obtain⟨b5,rfl⟩:=YG k5;obtain⟨b6,rfl⟩:=YG k6;obtain⟨c0,rfl⟩:=YG kq0;obtain⟨c1,rfl⟩:=YG kq1;obtain⟨W,hW⟩:=ZTz ((w.alloc ZUA));have xW:ZL w W:=by rw[<-hW];exact((ZL.refl w).alloc _)
 have K0:=ZA (show W.heap[w.heap.size]?=some ZUA by rw[<-hW];exact ZM w _);have hA:=h.xg xW (Zb0 _) (ZW K0.o);obtain⟨v,hv⟩:=ZTz (u+1);rw[hv]at hm hu2 ⊢
 have SW:=ZA (ZCt W g (XG O w.heap.size) C xb L (L++[⟨who,2,33,u,v,true⟩]) s {s with ws:=s.ws.set 33 v,hs:=s.hs.set 33 []} who 33 u (v:Int) x res ser _ true hA hc hc hw (λz hz=>Jl z g (XG O w.heap.size) C xb L s who 33 u v 0 0 (v:Int) none [] [] (hA.ext hz) ZB hw ZB hu rfl rfl (Zq.nil z _)));have e0:=(k0.ext xW).ZT2 0 (ZH (xb who));have e1:=(k1.ext xW).ZT2 0 (.int .i64 33);have e2:=(k2.ext xW).ZT2 0 (.int .u64 (u:Int));have e3:=(k3.ext xW).ZT2 0 (.int .u64 1);have HLT:=ZA h.lt;have Hc:=ZA hc;have HK2:=ZA k2;have HK3:=ZA k3;have HK6:=ZA k6;have HQ0:=ZA kq0;have HQ1:=ZA kq1;have HKA:=ZA ka;have HF:=ZA hF;have Hm:=ZA hm;have Hlt:=ZA hlt;have XW:=ZA xW;have HW:=ZA hW;have HNL:=ZA (show(L++[(⟨who,2,33,u,v,true⟩:Zf)]).length<=L.length+1 by simp);have hwv:IntKind.u64.wrap ((u:Int)+1)=(v:Int):=by rw[Zab];omega
 have HV:=ZA hv;have HU2:=ZA hu2;clear h hc hu k0 k1 k2 k3 k4 k5 k6 kq0 kq1 ka ks0 hA xW hW hL hF hm hlt hv hu2;go_enter Tryz.func278,Tryz.ntmps278;go_upto_region 1 with fail
 (try rw[HW.o])
 clear HW;go_wp2_with fail;refine SW.o.mono ?_;rintro e w2 ⟨rfl,hg⟩;obtain⟨C',hmv⟩:=hg.mov;have HM:=ZA hmv;have hkp:=hmv.kpg XW.o (Zb0 w.heap.size);have KR:=ZA (hmv.2.1.blk K0.o (λe=>Zb3 _ (HLT.o _ e)));have f2:=(HK2.o.kp hkp).ZT2 0 (.int .u64 (u:Int));have f3:=(HK3.o.kp hkp).ZT2 0 (.int .u64 1);have f6:=(HK6.o.kp hkp).ZT2 0 (Z1 253 #[ZH c0,ZH c1]);have TH:=ZA (ZSj w2 g (XG O w.heap.size) C' xb _ _ who v c0 c1 (L.length+1) x res ser _ f ce av hmv.1 Hc.o HNL.o hw (by have:=HV.o;omega) HU2.o (HQ0.o.kp hkp) (HQ1.o.kp hkp) (HKA.o.kp hkp) HF.o Hm.o Hlt.o);clear hmv hg hkp e0 e1 e2 e3;go_wp2_with fail;refine TH.out.mono ?_;rintro e w3 ⟨nv,done,r',C2,L2,hl2,rfl,hm2,ho⟩;have HO:=ZA ho;have HL2:=ZA hl2;have HM2:=ZA (HM.o.trans hm2);have hnC:¬C' w.heap.size:=λe=>HM.o.1.co _ e (.inr rfl);have K3:=ZA (hm2.2.1.blk KR.o hnC);obtain⟨r0,z0,r1,z1,r2,z2,r3,z3,r4,z4,r5,z5,r6,z6⟩:=ZT9 K3.o;clear ho hl2 hm2 hnC f2 f3 f6;go_wp2_with fail;refine ZcY (ZQ (p:=8) (u:=7) rfl _ _ (w.heap.size) _ #[.bool done,.int .i64 (r'.er:Int),.bool r'.granted,.int .i64 r'.left,.int .i64 r'.wait,.int .i64 r'.ser,.int .i64 r'.now] (0,0) _ rfl (Yf K3.o _ _ _ _ _ _ _) Tryz.underlying41 ZTw ZC) rfl ?_;exact YS HL2.o XW.o (Zb0 _) HM2.o HO.o _ _ _ _ _ _ _
theorem ZSg (w:World)(g:YE)(O C:Zdb)(xb:Nat->Nat)(L:List Zf)(s:YF)(who now q0 q1 N:Nat)(x:ZX)(res:Bool)(ser:Int)(k:YN)(f:Yi)(c:ZO)(rp:YH)(av:Value)(h:YK w g O C xb L s)(hc:s.call who=.run x res ser k)(hN:L.length<=N)(hw:who<64)(k0:Zz w (XO C O) (ZH q0) (ZH (xb who)))(k1:Zz w (XO C O) (ZH q1) av)(ka:ZCM w (XO C O) (Zi g who (xb who) x) av f c rp): Calls Tryz.prog 258 #[.int .u64 (now:Int),ZH q0,ZH q1] w (SK w g O C xb who N x (s.put who (.run x true ser k)) (.on (.put f c rp))):=by
 obtain⟨fa,ca,rfl⟩:∃fa ca,av=Z1 fa ca:=by obtain⟨_,_,_,_,_,_,e,_⟩:=ka;exact⟨_,_,e⟩
 obtain⟨W,hW⟩:=ZTz ((w.alloc ZUA));have xW:ZL w W:=by rw[<-hW];exact((ZL.refl w).alloc _)
 have K0:=ZA (show W.heap[w.heap.size]?=some ZUA by rw[<-hW];exact ZM w _);have hA:=h.xg xW (Zb0 _) (ZW K0.o);obtain⟨V,hV⟩:=ZTz (W.setCell ⟨xb who,7,none⟩ (.bool true));obtain⟨⟨tx,Kx,kcx,hxb,-,-,-⟩,hCx⟩:=hA.xat hw hc;have gV:GB W V (· =xb who):=by rw[<-hV];exact(GB.refl W (· =xb who)).set (xb who) 7 _ (.inl rfl)
 have hgo:=hA.setx (res':=true) (ser':=ser) hw hc gV (λt K kc e=>by rw[<-hV];exact ZU e 7 _);obtain⟨C',hmv⟩:=hgo.mov;have hkp:=hmv.kpg xW (Zb0 w.heap.size);have ON:=ZA (Jf (show Ze V (XO C' (XG O w.heap.size)) (Zi g who (xb who) x) (Z1 fa ca) (.put f c rp)from ka.kp hkp));have y7:=ZTx hxb 7 (.bool res);have z7:=ZF hxb 7;have e0:=(k0.ext xW).ZT2 0 (ZH (xb who));have f1:=(k1.kp hkp).ZT2 0 (Z1 fa ca);have HM:=ZA hmv;have KV:=ZA (hmv.2.1.blk K0.o (λe=>Zb3 _ (h.lt _ e)));have XW:=ZA xW;have HW:=ZA hW;have HV:=ZA hV;obtain⟨xw,Hxw⟩:=ZTy (xb who);rw[Hxw.o]at y7 z7 e0 HV;clear h hc k0 k1 ka hA hxb hCx gV hgo hmv hkp hW hV xW;go_enter Tryz.func258,Tryz.ntmps258;go_upto_region 1 with fail
 (try rw[HW.o])
 clear HW;go_upto_region 2 with fail
 (try rw[HV.o])
 clear HV;go_wp2_with fail;refine ON.o.mono ?_;rintro e w2 ⟨nv,done,r',rfl,ho,hx⟩;have HO:=ZA ho;have HX:=ZA hx;have K3:=ZA (ZJ KV.o hx);obtain⟨s0,z0,s1,z1,s2,z2,s3,z3,s4,z4,s5,z5,s6,z6⟩:=ZT9 K3.o;clear ho hx y7 z7;go_wp2_with fail;refine ZcY (ZQ (p:=5) (u:=4) rfl _ _ (w.heap.size) _ #[.bool done,.int .i64 (r'.er:Int),.bool r'.granted,.int .i64 r'.left,.int .i64 r'.wait,.int .i64 r'.ser,.int .i64 r'.now] (0,0) _ rfl (Yf K3.o _ _ _ _ _ _ _) Tryz.underlying41 ZTw ZC) rfl ?_;exact YS hN XW.o (Zb0 _) (HM.o.ext HX.o) HO.o _ _ _ _ _ _ _
theorem ZPj {P:List YR}{room who:Nat}{s:YF}{x:ZX}{res:Bool}{ser:Int}{k:YN}{c:KC}{out:Zn}(hc:s.call who=.run x res ser k)(hr:Yk P room x (s.kc res ser) k=(c,out)): (YA P room s who).1=(s.of c).put who (ZAX x c.res c.ser out)/\(YA P room s who).2.isSome=ZDz out/\(YA P room s who).2.getD Jc=Xq out:=by
 unfold YA;rw[hc]
 dsimp only
 rw[hr];cases out<;>exact⟨rfl,rfl,rfl⟩
theorem ZJq (s:YF)(who:Nat)(a b:ZBS):(s.put who a).put who b=s.put who b:=by
 unfold YF.put
 dsimp only
 congr 1
 funext i
 split<;>rfl
theorem YK.kont {w:World}{g:YE}{O C:Zdb}{xb:Nat->Nat}{L:List Zf}{s:YF}(h:YK w g O C xb L s){who:Nat}(hw:who<64){x:ZX}{res:Bool}{ser:Int}{k:YN}(hc:s.call who=.run x res ser k): ∃v,w.cell? ⟨g.gx,3+who,none⟩=some v/\Ze w (XO C O) (Zi g who (xb who) x) v k:=by
 obtain⟨f,h1,-,-,h2,-⟩:=h.pend hw;rw[hc]at h2;exact⟨f,h1,h2.2⟩
def ZCr (w:World)(g:YE)(O C:Zdb)(xb:Nat->Nat)(L:List Zf)(s:YF)(who:Nat)(e:Ending)(w':World):Prop:=ZGp w g O C xb (L.length+1) (YA g.P g.room s who).1 (.tuple #[.agg #[.bool (YA g.P g.room s who).2.isSome,.int .i64 (((YA g.P g.room s who).2.getD Jc).er:Int),.bool ((YA g.P g.room s who).2.getD Jc).granted,.int .i64 ((YA g.P g.room s who).2.getD Jc).left,.int .i64 ((YA g.P g.room s who).2.getD Jc).wait,.int .i64 ((YA g.P g.room s who).2.getD Jc).ser,.int .i64 ((YA g.P g.room s who).2.getD Jc).now],.int .i64 0]) e w'
theorem ZQL {w:World}{g:YE}{O C:Zdb}{xb:Nat->Nat}{L:List Zf}{s s2:YF}{who:Nat}{x:ZX}{res:Bool}{ser:Int}{k:YN}{c:KC}{out:Zn}(hc:s.call who=.run x res ser k)(hr:Yk g.P g.room x (s.kc res ser) k=(c,out))(h2:s2=(s.of c).put who (ZAX x c.res c.ser out)){e:Ending}{w':World}(h:ZGp w g O C xb (L.length+1) s2 (.tuple #[.agg #[.bool (ZDz out),.int .i64 ((Xq out).er:Int),.bool (Xq out).granted,.int .i64 (Xq out).left,.int .i64 (Xq out).wait,.int .i64 (Xq out).ser,.int .i64 (Xq out).now],.int .i64 0]) e w'):ZCr w g O C xb L s who e w':=by
 obtain⟨e1,e2,e3⟩:=ZPj hc hr;unfold ZCr;rw[e1,e2,e3,<-h2];exact h
def ZS5 (lo n:Nat):List Int:=(List.range n).map λi=>((lo+i:Nat):Int)
def f1 (key:List Nat)(lo n v:Nat)(th:Bool):Yi:=⟨1,v,if th=true then [⟨0,key,0,ZS5 lo n⟩] else [],0,th⟩
def c1 (key:List Nat)(lo n:Nat):ZO:=⟨0,key,0,ZS5 lo n⟩
theorem Z8 {α:Type}(l:List α)(i j:Nat)(v d:α)(h:i<l.length):(l.set i v).getD j d=if j=i then v else l.getD j d:=by
 rw[Zau,Zau,List.getElem?_set];by_cases e:i=j
 ·rw[Zcg e,Zcg h,Zcg e.symm];rfl
 ·rw[Zcf e,Zcf (λe2=>e e2.symm)]
theorem ZAf.refl (s:WH):ZAf s s:=⟨λ_ _ _=>.inl ⟨rfl,rfl⟩,Zb0 _⟩
theorem WOk.mono {P:List YR}{N N' M M':Nat}{s:WH}(h:WOk P N M s)(a:N<=N')(b:M<=M'):WOk P N' M' s:=⟨h.lw,h.lh,h.d,λi h1 h2=>by have:=h.word i h1 h2;omega,by have:=h.n33;omega,λi=>⟨(h.cells i).1,by have:=(h.cells i).2;omega⟩,h.held⟩
theorem Z7 {P:List YR}{room N M clk:Nat}{w:WH}{x:ZX}{ser:Int}{k:YN}{c:KC}{out:Zn}(h:WOk P N M w)(hw:c.wh=w)(hk:c.clk=clk)(hs:c.ser=ser)(hf:out.fresh->k.fresh)(ho:ZCN P room (N+1) w x c.res ser out):ZML P room N M w clk x ser k c out:=by
 subst hw hs;exact⟨ZAf.refl _,h.mono (Zb1 _) (Zb0 _),hk,.inl rfl,.inl λi c' hc z hz=>⟨i,c',hc,hz⟩,hf,ho⟩
theorem ZFE {P:List YR}{N M M' word new:Nat}{w:WH}{l:List ZO}(h:WOk P N M w)(hM:M<=M')(h1:1<=word)(h2:word<32)(hf:w.ws.getD word 0<Za)(hn:w.ws.getD word 0<new)(hN:new<=N+1\/(Za<=new/\new<=Za+(N+1)))(hl:Ye P l)(hlM:l.length<=M')(hh:∀c ∈ l,∀z ∈ c.held,z<=(w.ws.getD 33 0:Int)): WOk P (N+1) M' ⟨w.ws.set word new,w.hs.set word l⟩/\ZAf w ⟨w.ws.set word new,w.hs.set word l⟩:=by
 have W:=λj=>Z8 w.ws word j new 0 (by rw[h.lw];omega);have H:=λj=>Z8 w.hs word j l [] (by rw[h.lh];omega);have e33:(w.ws.set word new).getD 33 0=w.ws.getD 33 0:=by rw[W,Zcf ZB]
 refine⟨⟨by show(w.ws.set word new).length=34;rw[ZbF];exact h.lw,by show(w.hs.set word l).length=34;rw[ZbF];exact h.lh,?_,λi a b=>?_,?_,λi=>?_,λi c hc z hz=>?_⟩,⟨λi a b=>?_,?_⟩⟩
 ·show(w.ws.set word new).getD 0 0<=8;rw[W,Zcf ZB];exact h.d
 ·show(w.ws.set word new).getD i 0<=_\/(_<=(w.ws.set word new).getD i 0/\(w.ws.set word new).getD i 0<=_);rw[W];by_cases e:i=word
  ·rw[Zcg e];exact hN
  ·rw[Zcf e];have:=h.word i a b;omega
 ·show(w.ws.set word new).getD 33 0<=_;rw[e33];have:=h.n33;omega
 ·show Ye P ((w.hs.set word l).getD i [])/\((w.hs.set word l).getD i []).length<=M';rw[H];by_cases e:i=word
  ·rw[Zcg e];exact⟨hl,hlM⟩
  ·rw[Zcf e];exact⟨(h.cells i).1,by have:=(h.cells i).2;omega⟩
 ·show z<=((w.ws.set word new).getD 33 0:Int);rw[e33];have hc:c ∈ (w.hs.set word l).getD i []:=hc;rw[H]at hc;by_cases e:i=word
  ·rw[Zcg e]at hc;exact hh c hc z hz
  ·rw[Zcf e]at hc;exact h.held i c hc z hz
 ·show((w.ws.set word new).getD i 0=_/\(w.hs.set word l).getD i []=_)\/(_<(w.ws.set word new).getD i 0/\_);rw[W,H];by_cases e:i=word
  ·rw[Zcg e];subst e;exact .inr ⟨hn,hf⟩
  ·rw[Zcf e,Zcf e];exact .inl ⟨rfl,rfl⟩
 ·show w.ws.getD 33 0<=(w.ws.set word new).getD 33 0;rw[e33];exact Zb0 _
theorem ZCv {P:List YR}{N M word new:Nat}{w:WH}(h:WOk P N M w)(h1:word=0\/word=32\/word=33)(h0:word=0->new<=8)(h3:word=33->w.ws.getD 33 0<=new/\new<=N+1): WOk P (N+1) M ⟨w.ws.set word new,w.hs.set word []⟩/\ZAf w ⟨w.ws.set word new,w.hs.set word []⟩:=by
 have W:=λj=>Z8 w.ws word j new 0 (by rw[h.lw];omega);have H:=λj=>Z8 w.hs word j ([]:List ZO) [] (by rw[h.lh];omega);have e33:w.ws.getD 33 0<=(w.ws.set word new).getD 33 0:=by
  rw[W];by_cases e:33=word
  ·rw[Zcg e];exact(h3 e.symm).1
  ·rw[Zcf e];exact Zb0 _
 refine⟨⟨by show(w.ws.set word new).length=34;rw[ZbF];exact h.lw,by show(w.hs.set word []).length=34;rw[ZbF];exact h.lh,?_,λi a b=>?_,?_,λi=>?_,λi c hc z hz=>?_⟩,⟨λi a b=>?_,e33⟩⟩
 ·show(w.ws.set word new).getD 0 0<=8;rw[W];by_cases e:0=word
  ·rw[Zcg e];exact h0 e.symm
  ·rw[Zcf e];exact h.d
 ·show(w.ws.set word new).getD i 0<=_\/(_<=(w.ws.set word new).getD i 0/\(w.ws.set word new).getD i 0<=_);rw[W,Zcf ZB];have:=h.word i a b;omega
 ·show(w.ws.set word new).getD 33 0<=_;rw[W];by_cases e:33=word
  ·rw[Zcg e];exact(h3 e.symm).2
  ·rw[Zcf e];have:=h.n33;omega
 ·show Ye P ((w.hs.set word []).getD i [])/\((w.hs.set word []).getD i []).length<=M;rw[H];by_cases e:i=word
  ·rw[Zcg e];exact⟨⟨List.Pairwise.nil,(λc hc=>by cases hc),ZcL _⟩,ZcL _⟩
  ·rw[Zcf e];exact h.cells i
 ·show z<=((w.ws.set word new).getD 33 0:Int);have hc:c ∈ (w.hs.set word []).getD i []:=hc;rw[H]at hc;by_cases e:i=word
  ·rw[Zcg e]at hc;cases hc
  ·rw[Zcf e]at hc;have:=h.held i c hc z hz;omega
 ·show((w.ws.set word new).getD i 0=_/\(w.hs.set word []).getD i []=_)\/_;rw[W,H,Zcf ZB,Zcf ZB];exact .inl ⟨rfl,rfl⟩
theorem ZJc {w:WH}{word:Nat}{l:List ZO}{Q:Int->Prop}(hl:w.hs.length=34)(h2:word<34)(ho:∀c ∈ l,∀z ∈ c.held,Old w z\/Q z)(ws:List Nat):∀i,∀c' ∈ (WH.mk ws (w.hs.set word l)).hs.getD i [],∀z ∈ c'.held,Old w z\/Q z:=by
 intro i c' hc z hz;have hc:c' ∈ (w.hs.set word l).getD i []:=hc;rw[Z8 w.hs word i l [] ZB]at hc;by_cases e:i=word
 ·rw[Zcg e]at hc;exact ho c' hc z hz
 ·rw[Zcf e]at hc;exact .inl ⟨i,c',hc,hz⟩
theorem ZAY {w:WH}{word:Nat}{l:List ZO}(hl:w.hs.length=34)(h2:word<34)(ho:∀c ∈ l,∀z ∈ c.held,Old w z)(ws:List Nat):∀i,∀c' ∈ (WH.mk ws (w.hs.set word l)).hs.getD i [],∀z ∈ c'.held,Old w z:=λi c' hc z hz=>(ZJc (Q:=λ_=>False) hl h2 (λc hc z hz=>.inl (ho c hc z hz)) ws i c' hc z hz).resolve_right id
theorem ZDX {P:List YR}(hP:∀p ∈ P,Yd p){i:Nat}(h:i<P.length):Yd (Zk P i):=hP _ (by
 unfold Zk;rw[Zau,Zaz h];exact List.getElem_mem h)
theorem ZFJ {p:YR}(h:Yd p)(k:p.kind=2):1<=p.perm/\p.perm<=64:=h.elim (λh=>by have:=h.1;omega) (λh=>h.2)
theorem ZFK {p:YR}(h:Yd p)(k:p.kind=1):1<=p.T/\p.T<=4611686018427387903/\0<=p.Tau/\p.Tau<=4611686018427387903:=h.elim (λh=>h.2) (λh=>by have:=h.1;omega)
theorem ZPM {p:YR}(h:Yd p)(k:p.kind≠2):p.kind=1:=h.elim (λh=>h.1) (λh=>absurd h.1 k)
theorem ZSu {l:List Int}{t:Int}(hg:ZBT l)(h:t ∈ l):atI l t<l.length:=by
 have ha:=ZIv hg t;obtain⟨i,hi⟩:=Za2 h;have hil:=(Za0.1 hi).1;rcases Zb6 (atI l t) l.length with q|q
 ·exact q
 ·have:=ha.2.1 i ZB;rw[Zau,hi]at this;exact absurd this (Int.lt_irrefl _)
theorem ZPY {l:List Int}{k:Nat}{z:Int}(h:z ∈ ZDE l k):z ∈ l:=by
 unfold ZDE at h;rcases ZbI.1 h with h|h
 ·exact ZbR h
 ·exact ZbP h
theorem ZDV {e:Nat}{g:Bool}{l w s n:Int}(he:e<=16)(hl:0<=l/\l<=4611686018427387903)(hw:0<=w/\w<=4611686018427387903)(hs:0<=s/\s<=4611686018427387903)(hn:0<=n/\n<=4611686018427387903):RIn ⟨e,g,l,w,s,n⟩:=⟨he,hl,hw,hs,hn⟩
theorem ZDD:(0:Int)<=0/\(0:Int)<=4611686018427387903:=by decide
theorem ZSw {p:YR}{c:ZO}{ser:Int}(hp:1<=p.perm/\p.perm<=64)(hl:(c.held.length:Int)<p.perm)(hs:Ser ser):RIn (ZAE p c ser).1:=ZDV (ZcL _) ⟨by omega,by omega⟩ ZDD ⟨by have:=hs.1;omega,hs.2⟩ ZDD
theorem ZQi {P:List YR}{c:ZO}{ser:Int}(h:ZA4 P c)(hk:(Zk P c.pol).kind=2)(hp:1<=(Zk P c.pol).perm/\(Zk P c.pol).perm<=64)(hl:(c.held.length:Int)<(Zk P c.pol).perm)(hs:Ser ser)(hm:ser ∉ c.held):ZA4 P (ZAE (Zk P c.pol) c ser).2:=by
 obtain⟨a,b,c1,d,e,f,g,i⟩:=h;have hlen:(ZBP c.held (atI c.held ser) ser).length=c.held.length+1:=ZJy ser (ZMG _ _);exact⟨a,b,c1,d,e,ZPu (ZIv f ser) f hm hs,by show(ZBP c.held (atI c.held ser) ser).length<=64;omega,λ_=>by show((ZBP c.held (atI c.held ser) ser).length:Int)<=_;rw[hlen];show((c.held.length+1:Nat):Int)<=(Zk P c.pol).perm;omega⟩
theorem ZSS {p:YR}{c:ZO}{n:Int}(hp:1<=p.perm/\p.perm<=64)(hl:(c.held.length:Int)<=p.perm):RIn (ZA0 p c n).1:=by
 unfold ZA0
 split
 ·next h=>
  have:0<c.held.length:=List.length_pos_of_mem h;exact ZDV (ZcL _) ⟨by omega,by omega⟩ ZDD ZDD ZDD
 ·exact ZA8 (by decide)
theorem ZPG {P:List YR}{p:YR}{c:ZO}{n:Int}(h:ZA4 P c):ZA4 P (ZA0 p c n).2:=by
 unfold ZA0
 split
 ·next hm=>
  obtain⟨a,b,c1,d,e,f,g,i⟩:=h;have hlen:(ZDE c.held (atI c.held n)).length=c.held.length - 1:=ZKB (ZSu f hm);exact⟨a,b,c1,d,e,ZQF _ f,by show(ZDE c.held (atI c.held n)).length<=64;omega,λk=>by have:=i k;show((ZDE c.held (atI c.held n)).length:Int)<=(Zk P c.pol).perm;rw[hlen];omega⟩
 ·exact h
theorem ZPF {p:YR}{c:ZO}{n:Int}{z:Int}(h:z ∈ (ZA0 p c n).2.held):z ∈ c.held:=by
 unfold ZA0 at h
 split at h
 ·exact ZPY h
 ·exact h
theorem ZST {p:YR}{c:ZO}{n:Int}:(ZA0 p c n).2.id=c.id:=by
 unfold ZA0
 split<;>rfl
theorem ZPQ {p:YR}{c:ZO}(hp:1<=p.perm/\p.perm<=64)(hl:(c.held.length:Int)<=p.perm):RIn (ZF8 p c):=ZDV (ZcL _) ⟨by omega,by omega⟩ ZDD ZDD ZDD
theorem ZD5 {T Tau tat now:Int}(h1:1<=T)(h3:0<=Tau)(ht:0<=tat)(ht':tat<=4611686018427387903)(hn:0<=now)(hn':now<=4611686018427387903):0<=XE T Tau tat now/\XE T Tau tat now<=4611686018427387903:=by
 unfold XE
 split
 ·exact ZDD
 ·next h=>
  have a:=ZaX (a:=Tau - (max tat now - now)) (b:=T) ZB ZB;have b:=ZaX (a:=4611686018427387903 - max tat now) (b:=T) ZB ZB;have c:=Int.ediv_le_self T (a:=4611686018427387903 - max tat now) ZB;omega
theorem ZN3 {T Tau tat now n:Int}(h1:1<=T)(hn:n<=XE T Tau tat now)(h0:0<n):max tat now+n*T<=4611686018427387903:=by
 unfold XE at hn
 split at hn
 ·omega
 ·next h=>
  have:=Int.mul_le_of_le_ediv (a:=n) (b:=4611686018427387903 - max tat now) (c:=T) ZB ZB;omega
theorem ZP2 {T Tau tat now n:Int}(h1:1<=T)(h3:0<=Tau)(ht:0<=tat)(ht':tat<=4611686018427387903)(hn:0<=now)(hn':now<=4611686018427387903)(h0:0<=n)(hg:¬n<=XE T Tau tat now):0<=ZCe T Tau tat now n/\ZCe T Tau tat now n<=4611686018427387903:=by
 unfold ZCe
 split
 ·exact⟨by decide,by decide⟩
 ·next h=>
  have h5:¬Tau<(n - 1)*T:=λq=>h (.inl q);have h6:¬(4611686018427387903 - max tat now) / T<n:=λq=>h (.inr q);have hg0:=(ZD5 h1 h3 ht ht' hn hn').1;have hm:0<=(n - 1)*T:=Int.mul_nonneg ZB ZB;unfold XE at hg
  split at hg
  ·omega
  ·next h7=>
   have h8:(Tau - (max tat now - now)) / T<n - 1:=by omega
   have h9:=Int.lt_mul_of_ediv_lt (a:=Tau - (max tat now - now)) (b:=n - 1) (c:=T) ZB h8;omega
theorem ZQh {p:YR}{c:ZO}{now n:Int}(hp:1<=p.T/\p.T<=4611686018427387903/\0<=p.Tau/\p.Tau<=4611686018427387903)(ht:0<=c.tat)(ht':c.tat<=4611686018427387903)(hn:0<=now)(hn':now<=4611686018427387903)(h0:0<=n): RIn (Yo p c now n).1/\0<=(Yo p c now n).2.tat/\(Yo p c now n).2.tat<=4611686018427387903:=by
 unfold Yo ZB1
 split
 ·next h=>
  have ht2:0<=(if 0<n then max c.tat now+n*p.T else c.tat)/\(if 0<n then max c.tat now+n*p.T else c.tat)<=4611686018427387903:=by
   split
   ·next q=>
    have:=ZN3 hp.1 h q;have h2:0<=n*p.T:=Int.mul_nonneg h0 ZB;exact⟨by omega,this⟩
   ·exact⟨ht,ht'⟩
  exact⟨ZDV (ZcL _) (ZD5 hp.1 hp.2.2.1 ht2.1 ht2.2 hn hn') ZDD ZDD ⟨hn,hn'⟩,ht2⟩
 ·next h=>exact⟨ZDV (ZcL _) (ZD5 hp.1 hp.2.2.1 ht ht' hn hn') (ZP2 hp.1 hp.2.2.1 ht ht' hn hn' h0 h) ZDD ⟨hn,hn'⟩,ht,ht'⟩
theorem ZRN {p:YR}{c:ZO}{now:Int}(hp:1<=p.T/\p.T<=4611686018427387903/\0<=p.Tau/\p.Tau<=4611686018427387903)(ht:0<=c.tat)(ht':c.tat<=4611686018427387903)(hn:0<=now)(hn':now<=4611686018427387903):RIn (ZF9 p c now):=ZDV (ZcL _) (ZD5 hp.1 hp.2.2.1 ht ht' hn hn') ⟨by omega,by omega⟩ ZDD ⟨hn,hn'⟩
theorem ZMX (k:List Nat):JD k<18446744073709551616:=ZDR _ _ (by decide)
theorem ZD3 {P:List YR}{room N:Nat}{s:WH}{x:ZX}{res:Bool}{ser:Int}{r:YH}(res':Bool)(h:RIn r):ZCN P room N s x res ser (YT res' r)/\¬(YT res' r).fresh:=by
 unfold YT
 split
 ·exact⟨⟨rfl,rfl,rfl,h⟩,id⟩
 ·exact⟨h,id⟩
theorem ZFI {P:List YR}{room N:Nat}{s:WH}{x:ZX}{res:Bool}{ser:Int}{f:Yi}{c:ZO}{r:YH}(res':Bool)(h1:x.op<=3)(h2:J9 P N s x f)(h3:ZDk P s x ser f c)(h4:RIn r):ZBR P room N s x res ser (Jk room res' f c r):=by
 unfold Jk
 split
 ·exact⟨h1,h2,h3,h4⟩
 ·exact⟨rfl,rfl,rfl,h1,h2,h3,h4⟩
theorem ZAn {P:List YR}{N:Nat}{s:WH}{x:ZX}{f:Yi}(hP:∀p ∈ P,Yd p)(hx:Y3 P x)(ho:x.op<=4)(h:J9 P N s x f):ZA4 P (YV f.cells x.pol x.key):=
 have q:=hx.2.2.1 ho
 ZKO h.ok.2.1 q.1 q.2.1 q.2.2 hP
theorem ZIp (l:List ZO)(x:ZX):(YV l x.pol x.key).id=x.id:=by
 have:=ZB6 l x.pol x.key;unfold ZO.id ZX.id;rw[this.1,this.2]
theorem ZCj {l:List ZO}{pol:Nat}{key:List Nat}{z:Int}(h:z ∈ (YV l pol key).held):∃c ∈ l,z ∈ c.held:=by
 cases hh:ZAD l (pol::key)with
 |true=>
  obtain⟨c,hc,_,_,e⟩:=ZDA hh;rw[e]at h;exact⟨c,ZbO hc,h⟩
 |false=>rw[ZB5 hh]at h;cases h
theorem ZKZ {P:List YR}{N:Nat}{s:WH}{x:ZX}{f:Yi}{ser:Int}(hP:∀p ∈ P,Yd p)(hx:Y3 P x)(ho:x.op=2)(h:J9 P N s x f)(hl:((YV f.cells x.pol x.key).held.length:Int)<(Zk P x.pol).perm)(hs:Ser ser)(hm:ser ∉ (YV f.cells x.pol x.key).held): ZDk P s x ser f (ZAE (Zk P x.pol) (YV f.cells x.pol x.key) ser).2/\RIn (ZAE (Zk P x.pol) (YV f.cells x.pol x.key) ser).1:=by
 have q:=hx.2.2.1 ZB;have hk:=hx.2.2.2.2 (.inl ho);have e:=(ZB6 f.cells x.pol x.key).1;have hp:=ZFJ (ZDX hP q.1) hk;have:=ZQi (ser:=ser) (ZAn hP hx ZB h) (by rw[e];exact hk) (by rw[e];exact hp) (by rw[e];exact hl) hs hm;rw[e]at this;refine⟨⟨this,ZIp f.cells x,λz hz=>?_⟩,ZSw hp hl hs⟩;rcases ZJi.1 hz with hz|hz
 ·exact .inr ⟨hz,by have:=hs.1;omega⟩
 ·exact .inl hz
theorem ZMI {P:List YR}{room N:Nat}{s:WH}{x:ZX}{res:Bool}{ser:Int}{f:Yi}(hP:∀p ∈ P,Yd p)(hx:Y3 P x)(ho:x.op=2)(h:J9 P N s x f)(hs:ser=0\/(Ser ser/\ser ∉ (YV f.cells x.pol x.key).held)):ZCN P room N s x res ser (JK (Zk P x.pol) room res ser f (YV f.cells x.pol x.key)):=by
 have q:=hx.2.2.1 ZB;have hk:=hx.2.2.2.2 (.inl ho);have hc:=ZAn hP hx ZB h;have hle:=hc.2.2.2.2.2.2.2 (by rw[(ZB6 f.cells x.pol x.key).1];exact hk);rw[(ZB6 f.cells x.pol x.key).1]at hle;unfold JK
 split
 ·exact(ZD3 res (ZA8 (by decide))).1
 ·next hn=>
  split
  ·next h0=>
   obtain⟨h1,h2⟩:=hs.resolve_left ZB;obtain⟨a,b⟩:=ZKZ hP hx ho h ZB h1 h2;exact ZFI res ZB h a b
  ·next h0=>exact⟨rfl,rfl,rfl,ho,hs.elim id (λe=>absurd e.1.1 ZB),h,rfl,by omega⟩
theorem ZQc {P:List YR}{room N word v:Nat}{s:WH}{x:ZX}{res:Bool}{ser:Int}{l:List ZO}(hP:∀p ∈ P,Yd p)(hx:Y3 P x)(ho:x.op<=4)(hs:ZCH N s word v l)(hl:Ye P l)(hh:∀c ∈ l,∀z ∈ c.held,z<=(s.ws.getD 33 0:Int))(hz:ser=0\/(Ser ser/\ser ∉ (YV l x.pol x.key).held)): ZCN P room N s x res ser (ZAr P room x res ser word v l):=by
 have hF:J9 P N s x ⟨word,v,l,atK l x.id,ZAD l x.id⟩:=⟨hs,hl,rfl,rfl,hh⟩;have q:=hx.2.2.1 ho;have hp:=ZDX hP q.1;have hc:ZA4 P (YV l x.pol x.key):=ZAn hP hx ho hF;have e:=(ZB6 l x.pol x.key).1;unfold ZAr
 dsimp only
 split
 ·next h1=>exact⟨h1,hF,rfl⟩
 ·split
  ·next h2=>exact ZMI (f:=⟨word,v,l,atK l x.id,ZAD l x.id⟩) hP hx h2 hF hz
  ·split
   ·next h3=>
    have hk:=hx.2.2.2.2 (.inr h3);have hle:=hc.2.2.2.2.2.2.2 (by rw[e];exact hk);rw[e]at hle;have hr:=ZSS (n:=x.n) (ZFJ hp hk) hle
    split
    ·exact hr
    ·exact ZFI res ZB hF ⟨ZPG hc,by rw[ZST];exact ZIp l x,λz hz=>.inl (ZPF hz)⟩ hr
   ·split
    ·next h5=>
     have hle:=hc.2.2.2.2.2.2.2 (by rw[e];exact h5);rw[e]at hle;exact ZPQ (ZFJ hp h5) hle
    ·next h5=>exact⟨by have:=hx.1;omega,ZPM hp h5,hc⟩
theorem ZCE {P:List YR}{room N j shards:Nat}{gone:Int}{s:WH}{x:ZX}{res:Bool}{ser:Int}(ho:x.op=5)(hj:j<shards)(hs:shards<=16)(h0:0<=gone)(hg:gone<=5000*(j+1:Nat)):ZCN P room N s x res ser (Zo j shards gone):=by
 unfold Zo
 split
 ·exact ZDV (ZcL _) ⟨h0,by omega⟩ ZDD ZDD ZDD
 ·exact⟨⟨ho,by omega,hs,h0,by omega⟩,rfl,by omega⟩
theorem ZQ0 {P:List YR}{room N word v:Nat}{s:WH}{x:ZX}{res:Bool}{ser:Int}{l:List ZO}{t:ZAN}(hP:∀p ∈ P,Yd p)(hx:Y3 P x)(ht:ZA3 x t)(hs:ZCH N s word v l)(hl:Ye P l)(hh:∀c ∈ l,∀z ∈ c.held,z<=(s.ws.getD 33 0:Int))(hz:ser=0\/(Ser ser/\ser ∉ (YV l x.pol x.key).held)): ZCN P room N s x res ser (ZEm P room x res ser word v l t):=by
 cases t with
 |begin=>exact ZQc hP hx ht hs hl hh hz
 |evict j shards gone=>
  obtain⟨a,b,c,d,e⟩:=ht;unfold ZEm
  dsimp only
  split
  ·exact ZCE a b c d ZB
  ·exact⟨a,b,c,d,e,hs,hl⟩
theorem ZGa {P:List YR}{room N word sum:Nat}{s:WH}{x:ZX}{res:Bool}{ser:Int}{t:ZAN}(hP:∀p ∈ P,Yd p)(hx:Y3 P x)(ht:ZA3 x t)(hS:ZH3 x sum t)(hs:sum<18446744073709551616)(h1:1<=word)(h2:word<32){M:Nat}(W:WOk P N M s)(hz:ser=0\/(Ser ser/\ser ∉ (YV (s.hs.getD word []) x.pol x.key).held)): ZCN P room N s x res ser (Yh P room x res ser sum word (s.ws.getD word 0) (s.hs.getD word []) t):=by
 unfold Yh
 split
 ·exact⟨ht,hS,hs⟩
 ·next h=>exact ZQ0 hP hx ht ⟨h1,h2,by have:=W.word word h1 h2;omega,Zb0 _,λ_=>rfl⟩ (W.cells word).1 (W.held word) hz
theorem ZIY {P:List YR}{room N level i:Nat}{s:WH}{x:ZX}{res:Bool}{ser:Int}(hl:level<=3)(hi:i<=2 ^ level):ZCN P room N s x res ser (.on (Xi level i)):=by
 unfold Xi
 split
 ·exact hl
 ·next h=>
  have hp:2 ^ level<=8:=ZcI ZB hl;have hq:1<=2 ^ level:=ZcG;refine⟨⟨hl,by omega⟩,?_,?_⟩
  ·show 1<=2 ^ level+i % 2 ^ level;omega
  ·show 2 ^ level+i % 2 ^ level<32;have:=ZcA i (y:=2 ^ level) ZB;omega
theorem Xp {level shard:Nat}(h:level<=4):1<=ZP level shard/\ZP level shard<32:=by
 have hp:2 ^ level<=16:=ZcI ZB h;have hq:1<=2 ^ level:=ZcG;have:=ZcA shard (y:=2 ^ level) ZB;unfold ZP;omega
theorem ZJ5 {P:List YR}{room N:Nat}{s:WH}{x:ZX}{res:Bool}{ser:Int}{l:List ZO}{t:JL}(h:FOk P s x t)(hl:Ye P l)(hf:ZCJ s l):ZCN P room N s x res ser (.on (Xy l t)):=by
 cases t with
 |find sum level t=>exact⟨by omega,by have:=h.2.2.2;omega,⟨h.1,h.2.1,h.2.2.1⟩,hl,hf⟩
 |move level i=>exact⟨by omega,by have:=h.1;omega,⟨h.1,h.2,hl,hf⟩,hl,hf⟩
theorem ZGP {P:List YR}{room N word:Nat}{s:WH}{x:ZX}{res:Bool}{ser:Int}{t:Xv}(hP:∀p ∈ P,Yd p)(hx:Y3 P x)(h:HOk P s x t)(h1:1<=word)(h2:word<32){M:Nat}(W:WOk P N M s)(v:Nat)(hz:v≠0->ser=0\/(Ser ser/\ser ∉ (YV (s.hs.getD word []) x.pol x.key).held))(l:List ZO)(hv:(v=0/\l=[])\/(v=s.ws.getD word 0/\l=s.hs.getD word [])): ZCN P room N s x res ser (Xd P room x res ser word v l t):=by
 cases t with
 |find sum t=>
  unfold Xd
  dsimp only
  split
  ·exact⟨h.1,h.2.1,h.2.2,h1,h2⟩
  ·next q=>
   obtain⟨rfl,rfl⟩:=hv.resolve_left (λe=>q e.1);exact ZGa hP hx h.1 h.2.1 h.2.2 h1 h2 W (hz q)
 |move1 level i holds=>exact⟨by omega,by have:=h.1;omega,⟨h.1,h.2.1⟩,h.2.2.1,h.2.2.2⟩
 |move2 level i=>exact ZIY h.1 h.2
theorem ZSq {P:List YR}{l:List ZO}(h:Ye P l)(a b:Nat):Ye P (Xr l a b)/\(Xr l a b).length<=l.length:=
 have q:(Xr l a b).length<=l.length:=List.length_filter_le _ _
 ⟨⟨ZG6 h.1 _,λc hc=>h.2.1 c (List.mem_filter.1 hc).1,Zb2 q h.2.2⟩,q⟩
theorem ZSQ {P:List YR}{l r:List ZO}(h:Ye P l)(k:r.Sublist l):Ye P r:=⟨h.1.sublist k,λc hc=>h.2.1 c (k.subset hc),Zb2 k.length_le h.2.2⟩
theorem ZOt (l:List ZO)(i:Nat)(b:Bool)(c:ZO):(Xg l i b c).length<=l.length+1:=by
 unfold Xg
 split
 ·rw[ZbF];omega
 ·simp;omega
end Go.Proofs.YtloidkmphigbdaaGreat
