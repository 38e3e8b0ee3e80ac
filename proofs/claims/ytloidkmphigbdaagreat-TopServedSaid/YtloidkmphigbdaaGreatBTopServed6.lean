import Derived.Shelf.Spec.SlicesInsertGrow
import Derived.Shelf.Slices.Delete
import Derived.Test.YtloidkmphigbdaaGreatBTopServed4
namespace Go.Proofs.YtloidkmphigbdaaGreat
open Tryz
set_option linter.all false
set_option maxHeartbeats 40000000
set_option maxRecDepth 100000
open Go.RowKit
variable {has res:Bool}{fn:Func}{T Tau n now ser tat z:Int}{vs xs:List Value}{P:List YK}{rs:List Z7}{l:List ZL}{L:List Zg}{M M' N at_ base g k level new room vb who word:Nat}{xb:Nat->Nat}{A:Option Addr}{p8 p9:Option Nat}{e t:TypeId}{a0 a1 a2 a3 a4 a5 v z0 z1 z2 z3:Value}{s:WH}{W a u w w2:World}{p:YK}{f:Yb}{r:Z7}{s2:Z9}{c ce:ZL}{x:ZW}{C O X:Zhf}{out:Zs}
def ZfD := @List.getElem?_zip_eq_some
def ZfH := @List.length_eq_zero_iff
def ZfR := @List.mem_filter
def ZgD := @Nat.min_def
def ZgM := @Nat.one_le_two_pow
theorem ZGy:(prog.info? 62).map (λi=>(i.zero,i.size,i.bytes))=some (some (.agg #[.int .i64 0,.slice none 0 0,.int .i64 0,.slice none 0 0]),4,64):=by kernel_rfl
theorem ZFS:∀u:World,(sizeOf 62).run prog u=.ok 4 u:=λ_=>by kernel_rfl
theorem ZFT:(prog.info? 62).map (·.size)=some 4:=by kernel_rfl
theorem ZVb:∀w:World,(zeroValue 62).run prog w=.ok (.agg #[.int .i64 0,.slice none 0 0,.int .i64 0,.slice none 0 0]) w:=λ_=>by kernel_rfl
theorem ZYS {p:Prop}(h:p:=by
 refine⟨by rw[Array.length_toList,size_zeroCells];rfl,λv hv=>?_⟩;simp only[Builtin.zeroCells,Array.toList_map,ZfT]at hv;obtain⟨i,_,rfl⟩:=hv;first|(obtain -:=V1;have hi:i % 4<4:=ZgG _ ZB;show((.agg #[.int .i64 0,.slice none 0 0,.int .i64 0,.slice none 0 0]:Value).cells[i % 4]!).oneCell'=true;have h9:∀j,j<4->((.agg #[.int .i64 0,.slice none 0 0,.int .i64 0,.slice none 0 0]:Value).cells[j]!).oneCell'=true:=by decide)|(have hi:i % 3<3:=ZgG _ ZB;show((.agg #[.int .i64 0,.slice none 0 0,.int .i64 0]:Value).cells[i % 3]!).oneCell'=true;have h9:∀j,j<3->((.agg #[.int .i64 0,.slice none 0 0,.int .i64 0]:Value).cells[j]!).oneCell'=true:=by decide)
 exact h9 _ hi):p:=h
theorem ZRb (n):((Builtin.zeroCells (Value.cells (.agg #[.int .i64 0,.slice none 0 0,.int .i64 0,.slice none 0 0])) n).toList).length=n*4/\∀v ∈ (Builtin.zeroCells (Value.cells (.agg #[.int .i64 0,.slice none 0 0,.int .i64 0,.slice none 0 0])) n).toList,v.oneCell'=true:=by
 obtain⟨V1,_⟩:=QA;exact ZYS
theorem ZYI {p:Prop}(h:p:=by
 obtain⟨i0,hi,bV,bY,aS⟩:=Zgm ZGy;exact Yj w bu s x 56 ho base 62 underlying56 hi bV bY aS rfl (by decide) hs af hx hl hr h1 (by unfold maxLen;omega) ZB an h):p:=h
theorem ZOe {aw:Array Oper}{rest:List Oper}{o:Oper}{a:Act}{Q:Exit->Act->World->Prop}(w:World)(bu:o.guard=none)(s x)(ho:o.op=.call {callee:=.builtin .append,args:=#[s,x],argTypes:=#[56,56]})(base){B:Option Addr}{n cb:Nat}(hs:a.eval s=.slice B n cb)(af:w.ownsRow base 62 4 (.slice B n cb) n xs){m c:Nat}{news:List Value}(hx:a.eval x=.slice A m c)(hl:news.length=m*4)(hr:Rd w A news)(h1:∀u ∈ news,u.oneCell'=true)(hb:n+m<=1000000)(an:base<=w.heap.size)(h:∀B' au w',w'.ownsRow base 62 4 (.slice B' (n+m) au) (n+m) (xs++news)->w.grownBy w' (Value.slice B n cb).ownBlock-> ((Value.slice B' (n+m) au).ownBlock=(Value.slice B n cb).ownBlock\/(Value.slice B' (n+m) au).ownBlock=some w.heap.size)->wpList prog aw Q rest (a.put o.dst (.slice B' (n+m) au)) w'): wpList prog aw Q (o::rest) a w:=ZYI
theorem ZVc (w)(A:Option Addr)(n c n' c'):(binOp .eql 56 (.slice A n c) (.slice none n' c')).run prog w=.ok (.bool A.isNone) w:=Zeh w _ _ A n c n' c' underlying56
def ZRd (n:Nat)(xs:List Value)(w:World)(e:Ending)(w':World):Prop:=∃B d,e=.returned (.slice B n d)/\w'.ownsRow w.heap.size 62 4 (.slice B n d) n xs/\ZM w w'
theorem ZIG (w A n c)(xs:List Value)(hl:xs.length=n*4)(hn:n<=100000)(hr:Rd w A xs)(h1:∀u ∈ xs,u.oneCell'=true): Calls prog 184 #[.slice A n c] w (ZRd n xs w):=Qx
def ZEC (base:Nat)(A:Option Addr)(n c:Nat)(xs:List Value)(k:Nat)(nv:List Value)(w:World)(e:Ending)(w':World):Prop:=∃A' c',e=.returned (.slice A' (n+1) c')/\w'.ownsRow base 62 4 (.slice A' (n+1) c') (n+1) (ZKT 4 xs k nv)/\w.grownBy w' (Value.slice A n c).ownBlock
theorem ZWj{nv:List Value}(h:w.heap[vb]?=some (.cells nv.toArray 62 (0,0))):Rd w (some ⟨vb,0,none⟩) nv:=λ_=>⟨vb,0,rfl,λj u hu=>by
 rw[ZgQ,ZE h j,ZfC];exact hu⟩
theorem ZOd (w:World)(base A n c vb)(xs nv:List Value)(cX:nv.length=4)(de:∀u ∈ nv,u.oneCell'=true)(hn:n<=100000)(ho:w.ownsRow base 62 4 (.slice A n c) n xs)(hv:w.heap[vb]?=some (.cells nv.toArray 62 (0,0)))(an:base<=w.heap.size): Calls prog 286 #[.slice A n c,.int .i64 n,.slice (some ⟨vb,0,none⟩) 1 1] w (ZEC base A n c xs n nv w):=by
 have aI:=YR ho;have Ho:=ZA ho;have R:=ZA (ZWj hv);obtain⟨Hl,Hn1,Gz⟩:=Z8 ho.1 de cX;clear ho hv de cX;obtain⟨A0,hsl,_,_⟩:=ZC2 (s:=4) underlying56 ZFS (A:=A) (n:=n) (c:=c) (m:=0) (d:=c - n) n (ki:=(n:Int)) rfl aI ZB ZB;go_enter func286,ntmps286;go_wp2_with (at_builtin;refine ZOe _ rfl (.tmp 23) (.tmp 24) rfl base rfl Ho.o rfl (m:=1) (news:=nv) (by rw[ZgN];exact Gz.o) R.o Hn1.o ZB an ?_;intro A' c' w1 af aY _);go_ret;refine⟨A',c',rfl,?_,aY⟩;have e:ZKT 4 xs n nv=xs++nv:=by
  unfold ZKT;rw[Zfp (by rw[Hl.o];exact Zf6 _),Zer (by rw[Hl.o];exact Zf6 _),Zek]
 rw[e];exact af
theorem ZYo {p:Prop}(h:p:=by
 rcases ho.2 with⟨h1,_⟩|⟨g',cap,cO,h1,_,hg,_,_,cF,_⟩
 ·injection h1 with h1;cases h1
 ·injection h1 with h1 h3 h4;injection h1 with h1;injection h1 with h1;subst h1;refine⟨cO.size,?_,by omega⟩;simp[World.shape?,hg]):p:=h
theorem QX {p:Prop}(h:p:=by
 first
 |obtain -:=V1;obtain⟨g,rfl,bE,aA⟩:=ZFC ho ZB;obtain⟨i0,dF,bV,jq,fT⟩:=Zgm ZFK;have cK:((Zn xs).drop k).length=n - k:=by rw[ZfG,Yq,hl]
  have fl:((Zn xs).take k).length=k:=by rw[ZfL,Yq,hl];omega
  have aq:∀j,j<n->w.cell? ⟨g,j,none⟩=(Zn xs)[j]?:=λj hj=>ho.cellAt j ZB;have iJ:(Builtin.firstCells i0.size k (.slice (some ⟨g,0,none⟩) k c)).run prog w.drew=.ok ((Zn xs).take k).toArray w.drew:=by
   rw[jq]
   exact Zgs w.drew 1 k ⟨g,0,none⟩ k c ((Zn xs).take k) (by rw[fl];omega) (λj v hj=>by
    rw[ZeS,ZgQ];have jQ:j<k:=by rw[<-fl];exact(Ze5.1 hj).1
    rw[ZfB,Zgl jQ]at hj;exact(aq j ZB).trans hj)
  obtain⟨G,hG⟩:=ZX3 (grownCap w (n+1) c 2);obtain⟨dt,hROW⟩:∃dt:Array Value,((Zn xs).take k).toArray++Builtin.zeroCells (Value.int .i64 0).cells (n+1 - k)++Builtin.zeroCells (Value.int .i64 0).cells (G - (n+1))=dt:=⟨_,rfl⟩;have yd:n+1<=G:=by rw[<-hG];exact grownCap_ge w _ _ _
  have qf:G<=maxLen:=by rw[<-hG];exact grownCap_le_maxLen w (n+1) c 2 (by unfold maxLen;omega)
  have ye:G<=9223372036854775807:=by unfold maxLen at qf;omega
  have qa:dt.size=G:=by
   rw[<-hROW];simp[Builtin.zeroCells,Value.cells,Yq,hl];omega
  obtain⟨W1,hW1⟩:=ZX3 (w.drew.alloc (.cells dt 2));have jd:(n:Int)+1 - (k:Int)=((n+1 - k:Nat):Int):=by omega
  have wJ:∀ty,(Builtin.append_ #[60,3] ty #[.slice (some ⟨g,0,none⟩) k c,.int .i64 ((n:Int)+1 - (k:Int))]).run prog w=.ok (.slice (some ⟨w.heap.size,0,none⟩) (n+1) G) W1:=λty=>by
   have h:=Lib.run_append_grow_zeros w 60 3 ty 2 i0 _ .i64 .i64 underlying60 underlying3 dF bV (some ⟨g,0,none⟩) k c ((Zn xs).take k) iJ (n+1 - k) ZB ZB ZB ZB (by rw[fT];omega) (by rw[fT,show k+(n+1 - k)=n+1 by omega];exact growslice_fits hc ZB);rw[show k+(n+1 - k)=n+1 by omega,hG,hROW,hW1]at h;rw[jd];exact h
  have hO:W1.ownsRow base 2 1 (.slice (some ⟨w.heap.size,0,none⟩) (n+1) G) (n+1) (dt.toList.take (n+1)):=by
   have h:=X7 w.drew dt.toList 2 1 G (by rw[ZgJ];simpa using qa) qf (base:=base) an;rw[show dt.toList.toArray=dt by simp,hW1]at h;exact ZO9 h yd
  have qc:(dt.toList.take (n+1)).length=n+1:=by rw[ZfL];simp[qa];omega
  have tB:(dt.toList.take (n+1)).take k=(Zn xs).take k:=by
   rw[Zfr,ZgE ZB,<-hROW];simp only[Array.toList_append,Zei];exact Zfn fl
  have mE:ZM w W1:=by rw[<-hW1];exact((ZM.refl w).drew).alloc _
  have mg:=ZK hv mE;have eV:∀ty dc,(Builtin.copy_ #[60,60] ty #[.slice (some ⟨w.heap.size,k,none⟩) (n+1 - k) dc,.slice (some ⟨vb,0,none⟩) 1 1]).run prog W1=.ok (goInt ([Value.int .i64 t]).length) (W1.setCells w.heap.size k [.int .i64 t]):=λty dc=>
   run_copy_cells W1 _ _ ty 2 w.heap.size k (n+1 - k) dc ⟨vb,0,none⟩ 1 1 [.int .i64 t] underlying60 ZPH (by simp only[ZgD,List.length_singleton];split<;>omega)
    (λj v hj=>by
     cases j with
     |zero=>rw[ZeS];exact(ZE mg 0).trans (by simpa using hj)
     |succ j=>simp at hj)
    (λj hj=>by
     have rf:j=0:=by simpa using hj
     subst rf;rw[hO.cellAt (k+0) ZB,Ze4 ZB];rfl)
    (λj _=>hO.frozenAt _) (by intro v hv;simp at hv;subst hv;rfl)
  have dd:=ZC6 [.int .i64 t] W1 _ k hO;obtain⟨W2,cN⟩:=ZX3 (W1.setCells w.heap.size k [.int .i64 t]);rw[cN]at dd eV
 |obtain -:=V2;have hl:xs.length=n*4:=ho.1;obtain⟨g,rfl,bE,aA⟩:=JS ho ZB;have pS:vb≠g:=λe=>ag (by simp[Value.ownBlock,e]);obtain⟨us,hus,hm⟩:=ZNY ho hc;have pA:∃k',w.shape? g=some (62,k')/\k'≠0:=by
   exact ZYo
  obtain⟨kB,qR,sP⟩:=pA;have sq:w.shape? vb=some (62,4):=by simp[World.shape?,hv,cX]
  have iI:∀lb cb,(callFunc 295 #[.slice (some ⟨vb,0,none⟩) 1 1,.slice (some ⟨g,(k+1)*4,none⟩) lb cb]).run prog w=.ok (.value (.bool false)) w:=λlb cb=>by
   rw[run_callFunc_extern func295 ZC ZC ZC (e:=Extern.SlicesOverlaps.overlaps #[56,56] #[4]) ZC,Lib.run_overlaps_apart w 56 4 62 underlying56 4 ZFS ⟨vb,0,none⟩ ⟨g,(k+1)*4,none⟩ 1 1 lb cb pS 62 62 4 kB sq qR sP (ZG hv 0) (ZG hv 4)];rfl
  have ah:(xs++us).length=(n+1)*4:=by rw[ZfE,hl,hus];omega
  have cK:(xs.drop (k*4)).length=(n - k)*4:=by rw[ZfG,hl];omega
  have aq:∀j,j<(n+1)*4->w.cell? ⟨g,j,none⟩=(xs++us)[j]?:=λj hj=>hm.cellAt j hj;have gJ:∀j,j<(n+1)*4->(w.cell? ⟨g,j,none⟩).isSome=true:=λj hj=>by rw[aq j hj,Ze4 ZB];rfl
  have iQ:∀j,w.frozen? ⟨g,j,none⟩=false:=λj=>hm.frozenAt j;have eV:∀ty dc sc,(Builtin.copy_ #[56,56] ty #[.slice (some ⟨g,(k+1)*4,none⟩) (n - k) dc,.slice (some ⟨g,k*4,none⟩) (n+1 - k) sc]).run prog w.drew=.ok (goInt ((n - k:Nat):Int)) (w.drew.setCells g ((k+1)*4) (xs.drop (k*4))):=λty dc sc=>
   ZAR w.drew _ _ ty 62 4 g ((k+1)*4) (n - k) dc ⟨g,k*4,none⟩ (n+1 - k) sc (n - k) _ underlying56 ZFT (by simp only[ZgD];split<;>omega) cK
    (λj v hj=>by
     rw[ZeS];have jy:j<(n - k)*4:=by rw[<-cK];exact(Ze5.1 hj).1
     refine(aq (k*4+j) ZB).trans ?_;rw[Ze0 (by rw[hl];omega),<-hj,Ze3])
    (λj hj=>gJ _ (by rw[cK]at hj;omega)) (λj _=>iQ _) (λv hv=>aK v (ZfV hv))
  obtain⟨W1,hW1⟩:=ZX3 (w.drew.setCells g ((k+1)*4) (xs.drop (k*4)));have dd:=JI (xs.drop (k*4)) w.drew _ ((k+1)*4) hm.drew;rw[hW1]at dd eV
 |obtain -:=V3;have hl:xs.length=n*4:=ho.1;obtain⟨g,rfl,bE,aA⟩:=JS ho ZB;obtain⟨i0,dF,bV,jq,fT⟩:=Zgm ZGy;have cK:(xs.drop (k*4)).length=(n - k)*4:=by rw[ZfG,hl];omega
  have fl:(xs.take (k*4)).length=k*4:=by rw[ZfL,hl];omega
  have aq:∀j,j<n*4->w.cell? ⟨g,j,none⟩=xs[j]?:=λj hj=>ho.cellAt j hj;have iJ:(Builtin.firstCells i0.size k (.slice (some ⟨g,0,none⟩) k c)).run prog w.drew=.ok (xs.take (k*4)).toArray w.drew:=by
   rw[jq]
   exact Zgs w.drew 4 k ⟨g,0,none⟩ k c (xs.take (k*4)) (by rw[fl]) (λj v hj=>by
    rw[ZeS,ZgQ];have jQ:j<k*4:=by rw[<-fl];exact(Ze5.1 hj).1
    rw[ZfB,Zgl jQ]at hj;exact(aq j ZB).trans hj)
  obtain⟨G,hG⟩:=ZX3 (grownCap w (n+1) c 62);obtain⟨dt,hROW⟩:∃dt:Array Value,(xs.take (k*4)).toArray++Builtin.zeroCells (Value.cells (.agg #[.int .i64 0,.slice none 0 0,.int .i64 0,.slice none 0 0])) (n+1 - k)++Builtin.zeroCells (Value.cells (.agg #[.int .i64 0,.slice none 0 0,.int .i64 0,.slice none 0 0])) (G - (n+1))=dt:=⟨_,rfl⟩;have yd:n+1<=G:=by rw[<-hG];exact grownCap_ge w _ _ _
  have qf:G<=maxLen:=by rw[<-hG];exact grownCap_le_maxLen w (n+1) c 62 (by unfold maxLen;omega)
  have ye:G<=9223372036854775807:=by unfold maxLen at qf;omega
  have wu:(Value.cells (.agg #[.int .i64 0,.slice none 0 0,.int .i64 0,.slice none 0 0])).size=4:=rfl;have qa:dt.size=G*4:=by
   rw[<-hROW];simp only[Array.size_append,Zfk,size_zeroCells,wu,fl];omega
  obtain⟨W1,hW1⟩:=ZX3 (w.drew.alloc (.cells dt 62));have jd:(n:Int)+1 - (k:Int)=((n+1 - k:Nat):Int):=by omega
  have wJ:∀ty,(Builtin.append_ #[56,3] ty #[.slice (some ⟨g,0,none⟩) k c,.int .i64 ((n:Int)+1 - (k:Int))]).run prog w=.ok (.slice (some ⟨w.heap.size,0,none⟩) (n+1) G) W1:=λty=>by
   have h:=Lib.run_append_grow_zeros w 56 3 ty 62 i0 _ .i64 .i64 underlying56 underlying3 dF bV (some ⟨g,0,none⟩) k c (xs.take (k*4)) iJ (n+1 - k) ZB ZB ZB ZB (by rw[fT];omega) (by rw[fT,show k+(n+1 - k)=n+1 by omega];exact growslice_fits hc ZB);rw[show k+(n+1 - k)=n+1 by omega,hG,hROW,hW1]at h;rw[jd];exact h
  have hO:W1.ownsRow base 62 4 (.slice (some ⟨w.heap.size,0,none⟩) (n+1) G) (n+1) (dt.toList.take ((n+1)*4)):=by
   have h:=X7 w.drew dt.toList 62 4 G (by simpa using qa) qf (base:=base) an;rw[show dt.toList.toArray=dt by simp,hW1]at h;exact ZFs h yd
  have qc:(dt.toList.take ((n+1)*4)).length=(n+1)*4:=by rw[ZfL,Array.length_toList,qa];omega
  have tB:(dt.toList.take ((n+1)*4)).take (k*4)=xs.take (k*4):=by
   rw[Zfr,ZgE ZB,<-hROW];simp only[Array.toList_append,Zei];exact Zfn fl
  have mE:ZM w W1:=by rw[<-hW1];exact((ZM.refl w).drew).alloc _
  have mg:=ZK hv mE;have eV:∀ty dc,(Builtin.copy_ #[56,56] ty #[.slice (some ⟨w.heap.size,k*4,none⟩) (n+1 - k) dc,.slice (some ⟨vb,0,none⟩) 1 1]).run prog W1=.ok (goInt 1) (W1.setCells w.heap.size (k*4) nv):=λty dc=>
   ZAR W1 _ _ ty 62 4 w.heap.size (k*4) (n+1 - k) dc ⟨vb,0,none⟩ 1 1 1 nv underlying56 ZFT (by simp only[ZgD];split<;>omega) (by rw[cX])
    (λj v hj=>by
     rw[ZeS,ZgQ];exact(ZE mg j).trans (by rw[ZfC];exact hj))
    (λj hj=>by
     rw[cX]at hj;rw[hO.cellAt (k*4+j) ZB,Ze4 ZB];rfl)
    (λj _=>hO.frozenAt _) de
  have dd:=JI nv W1 _ (k*4) hO;obtain⟨W2,cN⟩:=ZX3 (W1.setCells w.heap.size (k*4) nv);rw[cN]at dd eV
 |obtain⟨g,rfl,bE,aA⟩:=ZFC ho ZB;have pS:vb≠g:=λe=>ag (by simp[Value.ownBlock,e]);obtain⟨u,hm⟩:=ZSm ho hc;have pA:∃k',w.shape? g=some (2,k')/\k'≠0:=by
   exact ZYo
  obtain⟨kB,qR,sP⟩:=pA;have sq:w.shape? vb=some (2,1):=by simp[World.shape?,hv]
  have iI:∀lb cb,(callFunc 297 #[.slice (some ⟨vb,0,none⟩) 1 1,.slice (some ⟨g,k+1,none⟩) lb cb]).run prog w=.ok (.value (.bool false)) w:=λlb cb=>by
   rw[run_callFunc_extern func297 ZC ZC ZC (e:=Extern.SlicesOverlaps.overlaps #[60,60] #[4]) ZC,Lib.run_overlaps_apart w 60 4 2 underlying60 1 ZLT ⟨vb,0,none⟩ ⟨g,k+1,none⟩ 1 1 lb cb pS 2 2 1 kB sq qR sP (ZG hv 0) (ZG hv 1)];rfl
  have ah:(Zn xs++[u]).length=n+1:=by simp[Yq,hl]
  have cK:((Zn xs).drop k).length=n - k:=by rw[ZfG,Yq,hl]
  have aq:∀j,j<n+1->w.cell? ⟨g,j,none⟩=(Zn xs++[u])[j]?:=λj hj=>hm.cellAt j ZB;have gJ:∀j,j<n+1->(w.cell? ⟨g,j,none⟩).isSome=true:=λj hj=>by rw[aq j hj,Ze4 ZB];rfl
  have iQ:∀j,w.frozen? ⟨g,j,none⟩=false:=λj=>hm.frozenAt j;have eV:∀ty dc sc,(Builtin.copy_ #[60,60] ty #[.slice (some ⟨g,k+1,none⟩) (n - k) dc,.slice (some ⟨g,k,none⟩) (n+1 - k) sc]).run prog w.drew=.ok (goInt ((Zn xs).drop k).length) (w.drew.setCells g (k+1) ((Zn xs).drop k)):=λty dc sc=>
   run_copy_cells w.drew _ _ ty 2 g (k+1) (n - k) dc ⟨g,k,none⟩ (n+1 - k) sc _ underlying60 ZPH (by rw[cK];simp only[ZgD];split<;>omega)
    (λj v hj=>by
     rw[ZeS];have jy:j<n - k:=by rw[<-cK];exact(Ze5.1 hj).1
     refine(aq (k+j) ZB).trans ?_;rw[Ze0 (by rw[Yq,hl];omega),<-hj,Ze3])
    (λj hj=>gJ _ (by rw[cK]at hj;omega)) (λj _=>iQ _) (λv hv=>ZD6 xs v (ZfV hv))
  obtain⟨W1,hW1⟩:=ZX3 (w.drew.setCells g (k+1) ((Zn xs).drop k));have dd:=ZC6 ((Zn xs).drop k) w.drew _ (k+1) hm.drew;rw[hW1]at dd eV
 obtain⟨dx,hG1⟩:=dd;first
 |obtain -:=V4;have aN:Xg (dt.toList.take (n+1)) k [.int .i64 t]=(Zn xs).take k++([.int .i64 t]++(dt.toList.take (n+1)).drop (k+1)):=by
   rw[Xy _ _ _ (by rw[qc];simp;omega),tB];rfl
  have aJ:(Xg (dt.toList.take (n+1)) k [.int .i64 t]).length=n+1:=by rw[aN];simp[Yq,hl,qc];omega
  have xG:g≠w.heap.size:=by omega
  have dJ:∀j,j<n->W2.cell? ⟨g,j,none⟩=(Zn xs)[j]?:=λj hj=>by
   have iS:w.cell? ⟨g,j,none⟩=some ((Zn xs)[j]'(by rw[Yq,hl];exact hj)):=by rw[aq j hj,Ze4]
   have dA:=ZF mE iS;rw[Ze4 (by rw[Yq,hl];exact hj)];exact(ZgV (hG1.block g (ZgT W1 ⟨g,j,none⟩ dA) (λq=>xG (by injection q)))).trans dA
  have eU:∀ty dc sc,(Builtin.copy_ #[60,60] ty #[.slice (some ⟨w.heap.size,k+1,none⟩) (n - k) dc,.slice (some ⟨g,k,none⟩) (n - k) sc]).run prog W2.drew=.ok (goInt ((Zn xs).drop k).length) (W2.drew.setCells w.heap.size (k+1) ((Zn xs).drop k)):=λty dc sc=>
   run_copy_cells W2.drew _ _ ty 2 w.heap.size (k+1) (n - k) dc ⟨g,k,none⟩ (n - k) sc _ underlying60 ZPH (by rw[cK];simp only[ZgD];split<;>omega)
    (λj v hj=>by
     rw[ZeS];have jy:j<n - k:=by rw[<-cK];exact(Ze5.1 hj).1
     refine(dJ (k+j) ZB).trans ?_;rw[<-hj,Ze3])
    (λj hj=>by
     rw[cK]at hj;show(W2.cell? _).isSome=true;rw[dx.cellAt _ ZB,Ze4 ZB];rfl)
    (λj _=>dx.frozenAt _) (λv hv=>ZD6 xs v (ZfV hv))
  have be:=ZC6 ((Zn xs).drop k) W2.drew _ (k+1) dx.drew;obtain⟨W3,hW3⟩:=ZX3 (W2.drew.setCells w.heap.size (k+1) ((Zn xs).drop k));rw[hW3]at be eU;have az:Xg (Xg (dt.toList.take (n+1)) k [.int .i64 t]) (k+1) ((Zn xs).drop k)=Zn (ZCD xs k t):=by
   rw[Xy _ _ _ (by rw[aJ,cK];omega),ZJP];rw[show(Xg (dt.toList.take (n+1)) k [.int .i64 t]).drop (k+1+((Zn xs).drop k).length)=[]from Zer (by rw[aJ,cK];omega),Zek,aN];have h1:((Zn xs).take k++(([.int .i64 t]:List Value)++(dt.toList.take (n+1)).drop (k+1))).take (k+1)=(Zn xs).take k++[.int .i64 t]:=by
    rw[<-Zei];exact Zfn (by rw[ZfE,fl];rfl)
   rw[h1,Zei]
  have Fin:=ZA (show ZR0 base (some ⟨g,0,none⟩) n c xs k t w (.returned (.slice (some ⟨w.heap.size,0,none⟩) (n+1) G)) W3 from⟨_,_,rfl,by rw[<-az];exact be.1,JJ (ZAL (JJ (YL mE _) hG1 (Zf6 _))) be.2 (Zf6 _)⟩);clear be az dx hG1 aN aJ dJ hO qc tB mE mg qa hROW hG jd iJ aq cK fl ho hv hl hW1 cN hW3 bE qf dF bV jq fT
 |obtain -:=V5;have aN:Xg (xs++us) ((k+1)*4) (xs.drop (k*4))=(xs++us).take ((k+1)*4)++xs.drop (k*4):=by
   rw[Xy _ _ _ (by rw[ah,cK];omega),show(xs++us).drop ((k+1)*4+(xs.drop (k*4)).length)=[]from Zer (by rw[ah,cK];omega),Zek]
  have rY:W1.heap[vb]?=some (.cells nv.toArray 62 (0,0)):=Zl (show w.drew.heap[vb]?=_ from hv) hG1 pS;have aJ:(Xg (xs++us) ((k+1)*4) (xs.drop (k*4))).length=(n+1)*4:=by rw[aN,ZfE,ZfL,ah,cK];omega
  have eU:∀ty dc,(Builtin.copy_ #[56,56] ty #[.slice (some ⟨g,k*4,none⟩) (n+1 - k) dc,.slice (some ⟨vb,0,none⟩) 1 1]).run prog W1=.ok (goInt 1) (W1.setCells g (k*4) nv):=λty dc=>
   ZAR W1 _ _ ty 62 4 g (k*4) (n+1 - k) dc ⟨vb,0,none⟩ 1 1 1 nv underlying56 ZFT (by simp only[ZgD];split<;>omega) (by rw[cX])
    (λj v hj=>by
     rw[ZeS,ZgQ];exact(ZE rY j).trans (by rw[ZfC];exact hj))
    (λj hj=>by
     rw[cX]at hj;rw[dx.cellAt (k*4+j) ZB,Ze4 ZB];rfl)
    (λj _=>dx.frozenAt _) de
  have be:=JI nv W1 _ (k*4) dx;obtain⟨W2,cN⟩:=ZX3 (W1.setCells g (k*4) nv);rw[cN]at be eU;have az:Xg (Xg (xs++us) ((k+1)*4) (xs.drop (k*4))) (k*4) nv=ZKT 4 xs k nv:=by
   rw[Xy _ _ _ (by rw[aJ,cX];omega),aN];unfold ZKT;have h1:((xs++us).take ((k+1)*4)++xs.drop (k*4)).take (k*4)=xs.take (k*4):=by
    rw[Zfm (by rw[ZfL,ah];omega),Zfr,ZgE ZB,Zfm (by rw[hl];omega)]
   have h2:((xs++us).take ((k+1)*4)++xs.drop (k*4)).drop (k*4+nv.length)=xs.drop (k*4):=Zeq (by rw[ZfL,ah,cX];omega);rw[h1,h2]
  have Fin:=ZA (show ZEC base (some ⟨g,0,none⟩) n c xs k nv w (.returned (.slice (some ⟨g,0,none⟩) (n+1) c)) W2 from⟨_,_,rfl,by rw[<-az];exact be.1,World.grown_trans (XC hG1) be.2⟩);have lZ:=ZA hW1;have jY:=ZA cN;clear be az hm dx hG1 aN aJ gJ aq iQ sq qR sP ah cK ho hv rY hl hW1 cN bE aA ag pS aK de
 |obtain -:=V6;have aN:Xg (dt.toList.take ((n+1)*4)) (k*4) nv=xs.take (k*4)++(nv++(dt.toList.take ((n+1)*4)).drop (k*4+4)):=by
   rw[Xy _ _ _ (by rw[qc,cX];omega),tB,cX]
  have aJ:(Xg (dt.toList.take ((n+1)*4)) (k*4) nv).length=(n+1)*4:=by rw[aN,ZfE,ZfE,ZfG,fl,cX,qc];omega
  have xG:g≠w.heap.size:=by omega
  have dJ:∀j,j<n*4->W2.cell? ⟨g,j,none⟩=xs[j]?:=λj hj=>by
   have iS:w.cell? ⟨g,j,none⟩=some (xs[j]'ZB):=by rw[aq j hj,Ze4]
   have dA:=ZF mE iS;rw[Ze4 ZB];exact(ZgV (hG1.block g (ZgT W1 ⟨g,j,none⟩ dA) (λq=>xG (by injection q)))).trans dA
  have eU:∀ty dc sc,(Builtin.copy_ #[56,56] ty #[.slice (some ⟨w.heap.size,(k+1)*4,none⟩) (n - k) dc,.slice (some ⟨g,k*4,none⟩) (n - k) sc]).run prog W2.drew=.ok (goInt ((n - k:Nat):Int)) (W2.drew.setCells w.heap.size ((k+1)*4) (xs.drop (k*4))):=λty dc sc=>
   ZAR W2.drew _ _ ty 62 4 w.heap.size ((k+1)*4) (n - k) dc ⟨g,k*4,none⟩ (n - k) sc (n - k) _ underlying56 ZFT (by simp only[ZgD];split<;>omega) cK
    (λj v hj=>by
     rw[ZeS];have jy:j<(n - k)*4:=by rw[<-cK];exact(Ze5.1 hj).1
     refine(dJ (k*4+j) ZB).trans ?_;rw[<-hj,Ze3])
    (λj hj=>by
     rw[cK]at hj;show(W2.cell? _).isSome=true;rw[dx.cellAt _ ZB,Ze4 ZB];rfl)
    (λj _=>dx.frozenAt _) (λv hv=>aK v (ZfV hv))
  have be:=JI (xs.drop (k*4)) W2.drew _ ((k+1)*4) dx.drew;obtain⟨W3,hW3⟩:=ZX3 (W2.drew.setCells w.heap.size ((k+1)*4) (xs.drop (k*4)));rw[hW3]at be eU;have az:Xg (Xg (dt.toList.take ((n+1)*4)) (k*4) nv) ((k+1)*4) (xs.drop (k*4))=ZKT 4 xs k nv:=by
   rw[Xy _ _ _ (by rw[aJ,cK];omega)];rw[show(Xg (dt.toList.take ((n+1)*4)) (k*4) nv).drop ((k+1)*4+(xs.drop (k*4)).length)=[]from Zer (by rw[aJ,cK];omega),Zek,aN];unfold ZKT;have h1:(xs.take (k*4)++(nv++(dt.toList.take ((n+1)*4)).drop (k*4+4))).take ((k+1)*4)=xs.take (k*4)++nv:=by
    rw[<-Zei];exact Zfn (by rw[ZfE,fl,cX];omega)
   rw[h1,Zei]
  have Fin:=ZA (show ZEC base (some ⟨g,0,none⟩) n c xs k nv w (.returned (.slice (some ⟨w.heap.size,0,none⟩) (n+1) G)) W3 from⟨_,_,rfl,by rw[<-az];exact be.1,JJ (ZAL (JJ (YL mE _) hG1 (Zf6 _))) be.2 (Zf6 _)⟩);clear be az dx hG1 aN aJ dJ hO qc tB mE mg qa hROW hG jd iJ aq cK fl ho hv hl hW1 cN hW3 bE qf dF bV jq fT aK de wu
 |have aN:Xg (Zn xs++[u]) (k+1) ((Zn xs).drop k)=(Zn xs++[u]).take (k+1)++(Zn xs).drop k:=by
   rw[Xy _ _ _ (by rw[ah,cK];omega),show(Zn xs++[u]).drop (k+1+((Zn xs).drop k).length)=[]from Zer (by rw[ah,cK];omega),Zek]
  have rY:W1.heap[vb]?=some (.cells #[.int .i64 t] 2 (0,0)):=Zl (show w.drew.heap[vb]?=_ from hv) hG1 pS;have aJ:(Xg (Zn xs++[u]) (k+1) ((Zn xs).drop k)).length=n+1:=by rw[aN];simp[Yq,hl];omega
  have eU:∀ty dc,(Builtin.copy_ #[60,60] ty #[.slice (some ⟨g,k,none⟩) (n+1 - k) dc,.slice (some ⟨vb,0,none⟩) 1 1]).run prog W1=.ok (goInt ([Value.int .i64 t]).length) (W1.setCells g k [.int .i64 t]):=λty dc=>
   run_copy_cells W1 _ _ ty 2 g k (n+1 - k) dc ⟨vb,0,none⟩ 1 1 [.int .i64 t] underlying60 ZPH (by simp only[ZgD,List.length_singleton];split<;>omega)
    (λj v hj=>by
     cases j with
     |zero=>rw[ZeS];exact(ZE rY 0).trans (by simpa using hj)
     |succ j=>simp at hj)
    (λj hj=>by
     have rf:j=0:=by simpa using hj
     subst rf;rw[dx.cellAt (k+0) ZB,Ze4 ZB];rfl)
    (λj _=>dx.frozenAt _) (by intro v hv;simp at hv;subst hv;rfl)
  have be:=ZC6 [.int .i64 t] W1 _ k dx;obtain⟨W2,cN⟩:=ZX3 (W1.setCells g k [.int .i64 t]);rw[cN]at be eU;have az:Xg (Xg (Zn xs++[u]) (k+1) ((Zn xs).drop k)) k [.int .i64 t]=Zn (ZCD xs k t):=by
   rw[Xy _ _ _ (by rw[aJ];simp;omega),aN,ZJP];have h1:((Zn xs++[u]).take (k+1)++(Zn xs).drop k).take k=(Zn xs).take k:=by
    rw[Zfm (by simp[Yq,hl];omega),Zfr,ZgE ZB,Zfm (by rw[Yq,hl];omega)]
   have h2:((Zn xs++[u]).take (k+1)++(Zn xs).drop k).drop (k+1)=(Zn xs).drop k:=Zeq (by simp[Yq,hl];omega);rw[h1,List.length_singleton,h2]
  have Fin:=ZA (show ZR0 base (some ⟨g,0,none⟩) n c xs k t w (.returned (.slice (some ⟨g,0,none⟩) (n+1) c)) W2 from⟨_,_,rfl,by rw[<-az];exact be.1,World.grown_trans (XC hG1) be.2⟩);have lZ:=ZA hW1;have jY:=ZA cN;clear be az hm dx hG1 aN aJ gJ aq iQ sq qR sP ah cK ho hv rY hl hW1 cN bE aA ag pS
 have cW:IntKind.i64.wrap ((k:Int)+1)=(k:Int)+1:=by rw[Zee];omega
 have cV:IntKind.i64.wrap ((n:Int)+1)=(n:Int)+1:=by rw[Zee];omega
 first|(obtain -:=V7;have jr:IntKind.i64.wrap ((n:Int)+1 - (k:Int))=(n:Int)+1 - (k:Int):=by rw[Zee];omega)|skip
 have aS:¬((k:Int)=(n:Int)):=by omega
 have dG:(0:Int)<=(k:Int)+1:=by omega
 have eQ:k<=n:=by omega
 have sd:((k:Int)+1).toNat=k+1:=by omega
 first
 |obtain -:=V8;have di:¬(G=k+1):=by omega
 |have wA:((n:Int)+1).toNat=n+1:=by omega
  have la:(0:Int)<=(n:Int)+1:=by omega
  have di:¬(c=k+1):=by omega
 have kZ:(k:Int)<=(n:Int)+1:=by omega
 have jT:¬(c=k):=by omega
 first
 |obtain -:=V9;have lU:¬(G=k):=by omega
  have uS:(c:Int)<(n:Int)+1:=by omega
  have iT:(k:Int)<=(c:Int):=by omega
 |have uS:¬((c:Int)<(n:Int)+1):=by omega
  have iT:(n:Int)+1<=(c:Int):=by omega
 have mixed:prog.follows Departure.mixedOrders=true:=by kernel_rfl
 first
 |obtain -:=V10;go_enter func292,ntmps292;go_wp2_with (first
   |(at_builtin;refine Lib.wpList_append_run _ rfl _ _ _ _ rfl _ _ rfl rfl _ _ (wJ _) ?_)
   |(at_builtin;refine wpList_copy_runI _ rfl _ _ 60 60 rfl _ _ rfl rfl (eV _ _) ?_))
  go_region_law_o (refine step_copy_runI rfl _ _ 60 60 rfl _ _ (by simp[Act.eval,Act.put]) (by simp[Act.eval,Act.put]) (eU _ _ _) ?_);go_wp2
 |obtain -:=V11;have bZ:=ZFS;go_enter func286,ntmps286;go_wp2_with (simp only[iI]);go_region_law_o (refine step_copy_runI rfl _ _ 56 56 rfl _ _ (by simp[Act.eval,Act.put]) (by simp[Act.eval,Act.put]) (eV _ _ _) ?_);go_wp2_with (at_builtin;refine wpList_copy_runI _ rfl _ _ 56 56 rfl _ _ rfl rfl (eU _ _) ?_)
 |obtain -:=V12;have bZ:=ZFS;go_enter func286,ntmps286;go_wp2_with (first
   |(at_builtin;refine Lib.wpList_append_run _ rfl _ _ _ _ rfl _ _ rfl rfl _ _ (wJ _) ?_)
   |(at_builtin;refine wpList_copy_runI _ rfl _ _ 56 56 rfl _ _ rfl rfl (eV _ _) ?_))
  go_region_law_o (refine step_copy_runI rfl _ _ 56 56 rfl _ _ (by simp[Act.eval,Act.put]) (by simp[Act.eval,Act.put]) (eU _ _ _) ?_);go_wp2
 |go_enter func292,ntmps292;go_wp2_with (simp only[iI]);go_region_law_o (refine step_copy_runI rfl _ _ 60 60 rfl _ _ (by simp[Act.eval,Act.put]) (by simp[Act.eval,Act.put]) (eV _ _ _) ?_);go_wp2_with (at_builtin;refine wpList_copy_runI _ rfl _ _ 60 60 rfl _ _ rfl rfl (eU _ _) ?_)
 go_ret;exact Fin.o):p:=h
theorem ZMd (w:World)(base A n c vb k)(xs nv:List Value)(aK:∀u ∈ xs,u.oneCell'=true)(cX:nv.length=4)(de:∀u ∈ nv,u.oneCell'=true)(hn:n<=100000)(hk:k<n)(hc:n<c)(eW:c<=9223372036854775807)(ho:w.ownsRow base 62 4 (.slice A n c) n xs)(hv:w.heap[vb]?=some (.cells nv.toArray 62 (0,0)))(ag:(Value.slice A n c).ownBlock≠some vb): Calls prog 286 #[.slice A n c,.int .i64 k,.slice (some ⟨vb,0,none⟩) 1 1] w (ZEC base A n c xs k nv w):=by
 obtain⟨V2,V5,V11⟩:=QA;exact QX
theorem ZMe (w:World)(base A n c vb k)(xs nv:List Value)(aK:∀u ∈ xs,u.oneCell'=true)(cX:nv.length=4)(de:∀u ∈ nv,u.oneCell'=true)(hn:n<=100000)(hk:k<n)(aI:n<=c)(hc:c<n+1)(ho:w.ownsRow base 62 4 (.slice A n c) n xs)(hv:w.heap[vb]?=some (.cells nv.toArray 62 (0,0)))(an:base<=w.heap.size): Calls prog 286 #[.slice A n c,.int .i64 k,.slice (some ⟨vb,0,none⟩) 1 1] w (ZEC base A n c xs k nv w):=by
 obtain⟨V3,V6,V7,V8,V9,V12⟩:=QA;exact QX
theorem ZY6 {p:Prop}(h:p:=by
 rcases ho.2 with⟨h3,h4⟩|⟨g,cap,cO,h3,_,_,_,h4,_⟩
 ·omega
 ·injection h3 with _ _ h3;unfold maxLen at h4;omega):p:=h
theorem ZYJ {p:Prop}(h:p:=by
 have aI:=YR ho;by_cases h1:k=n
 ·subst h1;first|(obtain -:=V1;exact ZOd w base A k c vb xs nv cX de hn ho hv an)|exact ZN2 w base A k c vb xs t hl hn ho hv an
 ·by_cases h2:n<c
  ·have eW:c<=9223372036854775807:=by
    exact ZY6
   first|(obtain -:=V2;exact ZMd w base A n c vb k xs nv aK cX de hn ZB h2 eW ho hv ag)|exact ZL8 w base A n c vb k xs t hl hn ZB h2 eW ho hv ag
  ·first|(obtain -:=V3;exact ZMe w base A n c vb k xs nv aK cX de hn ZB aI ZB ho hv an)|exact ZL9 w base A n c vb k xs t hl hn ZB aI ZB ho hv an):p:=h
theorem ZRc (w:World)(base A n c vb k)(xs nv:List Value)(aK:∀u ∈ xs,u.oneCell'=true)(cX:nv.length=4)(de:∀u ∈ nv,u.oneCell'=true)(hn:n<=100000)(hk:k<=n)(ho:w.ownsRow base 62 4 (.slice A n c) n xs)(hv:w.heap[vb]?=some (.cells nv.toArray 62 (0,0)))(ag:(Value.slice A n c).ownBlock≠some vb)(an:base<=w.heap.size): Calls prog 286 #[.slice A n c,.int .i64 k,.slice (some ⟨vb,0,none⟩) 1 1] w (ZEC base A n c xs k nv w):=by
 obtain⟨V1,V2,V3⟩:=QA;exact ZYJ
def ZPV (X:Zhf)(l:List ZL)(w:World)(e:Ending)(w':World):Prop:=∃A n c rs,l.length=n/\e=.returned (.slice A n c)/\Zw w' X A l rs/\ZM w w'
theorem ZDB(h:rs.length=l.length)(i r c)(hi:i<l.length):Xg (Ya rs l) (i*4) (Yh r c)=Ya (rs.set i r) (l.set i c):=by
 have ah:(Ya rs l).length=l.length*4:=ZCa Yh 4 Xa rs l h;rw[Xy _ _ _ (by rw[ah,Xa];omega),List.set_eq_take_append_cons_drop,Zgl (by rw[h];exact hi),List.set_eq_take_append_cons_drop,Zgl hi];unfold Ya;rw[ZEx Yh (by rw[ZfL,ZfL,h]),ZDt Yh 4 Xa _ _ _ h,Zfu,Zex,ZFb Yh 4 Xa _ _ _ h,Xa,Zfz,ZgN]
theorem ZOb(h:rs.length=l.length)(i r c):ZKT 4 (Ya rs l) i (Yh r c)=Ya (rs.take i++r::rs.drop i) (l.take i++c::l.drop i):=by
 unfold Ya ZKT;rw[ZEx Yh (by rw[ZfL,ZfL,h]),ZDt Yh 4 Xa _ _ _ h,Zfu,Zex,ZFb Yh 4 Xa _ _ _ h]
theorem ZDC (rs l):∀v ∈ Ya rs l,v.oneCell'=true:=ZKz Yh ZF2 rs l
theorem XJ{s:Nat}{n c:Nat}(h:w.ownsRow base e s (.slice A n c) n vs):Rd w A vs:=λag=>by
 rcases h.2 with⟨h1,h2⟩|⟨g,cap,cO,h1,_⟩
 ·exact absurd (ZfH.1 (by rw[h.1,h2,ZgS])) ag
 ·injection h1 with h1;subst h1;exact⟨g,0,rfl,λj u hu=>by rw[ZgQ,h.cellAt j (by have:=(Ze5.1 hu).1;have:=h.1;omega)];exact hu⟩
theorem ZBS{s:Nat}{n c:Nat}(h:w.ownsRow base e s (.slice A n c) n vs)(hb:∀i,X i->i<base):Fz w X A:=λa ha=>by
 rcases h.2 with⟨h1,_⟩|⟨g,cap,cO,h1,hg,hh,_⟩
 ·injection h1 with h1;rw[h1]at ha;cases ha
 ·injection h1 with h1;rw[h1]at ha;injection ha with ha;subst ha;exact⟨λe=>by have h9:g<base:=hb _ e;omega,(ZeT.1 hh).1⟩
theorem ZAS{s:Nat}{n c:Nat}(h:w.ownsRow base e s (.slice A n c) n vs):∀a,A=some a->base<=a.block/\a.block<w.heap.size/\(Value.slice A n c).ownBlock=some a.block:=λa ha=>by
 rcases h.2 with⟨h1,_⟩|⟨g,cap,cO,h1,hg,hh,_⟩
 ·injection h1 with h1;rw[h1]at ha;cases ha
 ·injection h1 with h1;subst h1;injection ha with ha;subst ha;exact⟨hg,(ZeT.1 hh).1,rfl⟩
theorem ZNf {α:Type}{l:List α}{i:Nat}{a b:α}(h:b ∈ l.set i a):b=a\/b ∈ l:=(ZfY h).symm
theorem ZCS (A n c)(xs:List Nat)(w)(hl:xs.length=n)(hn:n<=140737488355328)(hr:Rd w A (ZT .u8 xs)):Calls prog 67 #[.slice A n c] w (ZEs xs w):=by
 cases A with
 |none=>
  have hx:xs=[]:=by
   cases xs with
   |nil=>rfl
   |cons x t=>
    obtain⟨b,off,hA,_⟩:=hr (by simp[ZT]);cases hA
  subst hx;exact(ZJd w n c).mono λe w' ⟨he,hw⟩=>⟨none,0,he,ZgZ _ _ _ _,hw ▸ ZM.refl w⟩
 |some a=>exact ZEk a n c xs w hl hn hr
theorem Qr {p:Prop}(h:p:=by
 obtain⟨W,hW,xW,K0⟩:=Za w (.cells #[.int .i64 (ce.pol:Int),.slice r.K ce.key.length r.kc,.int .i64 ce.tat,.slice r.H ce.held.length r.hc] 62);have ah:(Ya rs l).length=n*4:=by rw[<-hl];exact ZCa Yh 4 Xa rs l hE.1.1
 have CL:=ZA (ZIG W A n c (Ya rs l) ah ZB (hE.1.2.1.ext xW) (ZDC rs l));obtain⟨HE,HP,XW,HX,Hl,dI⟩:=Ju hE hP xW hX hl ah;first|(obtain -:=V1)|have KC:=ZA (λu (x:ZM w u)=>ZCS r.K ce.key.length r.kc ce.key u rfl ZB (hP.1.2.1.ext x))
 clear hE hP xW hX hl ah;go_enter func256,ntmps256;go_upto_region 1 with fail;(try rw[hW]);clear hW;go_wp2_with fail;refine CL.o.mono ?_;rintro e w1 ⟨B,d,rfl,ho,hx⟩;first
 |obtain -:=V2;obtain⟨g,rfl,bE,aA⟩:=JS ho (by have:=YR ho;omega);have KB:=ZK K0.o hx;have b0:=ZE KB 0;have b1:=ZE KB 1;have b2:=ZE KB 2;have b3:=ZE KB 3;have hs:∀j,j<4->∃v,w1.cell? ⟨g,at_*4+j,none⟩=some v:=λj hj=>by
   rw[ho.cellAt (at_*4+j) ZB,Ze4 (by have:=dI.o;omega)];exact⟨_,rfl⟩
  obtain⟨v0,s0⟩:=hs 0 ZB;obtain⟨v1,s1⟩:=hs 1 ZB;obtain⟨v2,s2⟩:=hs 2 ZB;obtain⟨v3,s3⟩:=hs 3 ZB;rw[Zf2]at s0;have f0:=ho.frozenAt (at_*4);have f1:=ho.frozenAt (at_*4+1);have f2:=ho.frozenAt (at_*4+2);have f3:=ho.frozenAt (at_*4+3)
 |skip
 have HO:=ZA ho;have X1:=ZA hx;first
 |obtain -:=V3;have ES:g≠w.heap.size:=λe=>by have:=ZX K0.o;omega
  clear ho hx KB hs
 |have K1:=ZA (ZK K0.o hx);have b1:=ZE K1.o 1;clear ho hx;go_wp2_with fail;refine(KC.out w1 (XW.o.trans X1.o)).mono ?_;rintro e w2 ⟨K',kc',rfl,ok,hx⟩;have fj:=ZA ok;have X2:=ZA hx;have K2:=ZA (ZK K1.o hx);clear ok hx b1;have b0:=ZE K2.o 0;have b1:=ZE K2.o 1;have b2:=ZE K2.o 2;have b3:=ZE K2.o 3;have y1:=ZG K2.o 1;have K5:w.heap.size<W.heap.size:=ZX K0.o;have Kc:=X1.o.size;have Ka:=X2.o.size;obtain⟨V,hV⟩:=ZX3 ((w2.setCell ⟨w.heap.size,1,none⟩ (.slice K' ce.key.length kc')).alloc (.cells #[.int .i64 (ce.pol:Int),.slice K' ce.key.length kc',.int .i64 ce.tat,.slice r.H ce.held.length r.hc] 62));have gV:GB w1 V (· =w.heap.size):=by rw[<-hV];exact(((GB.refl w1 (· =w.heap.size)).ext X2.o).set w.heap.size 1 _ (.inl rfl)).alloc _
  have Bt:GB w2 V (· =w.heap.size):=by rw[<-hV];exact((GB.refl w2 (· =w.heap.size)).set w.heap.size 1 _ (.inl rfl)).alloc _
  have hv:V.heap[w2.heap.size]?=some (.cells (Yh ⟨K',kc',r.H,r.hc⟩ ce).toArray 62 (0,0)):=by rw[<-hV];exact Zi _ _ ZXz
  have AB:=gV.own HO.o (λq e e2=>by have:=Yw HO.o q e;omega);have IN:=ZA (ZRc V W.heap.size B n d w2.heap.size at_ (Ya rs l) (Yh ⟨K',kc',r.H,r.hc⟩ ce) (ZDC rs l) rfl (ZF2 _ _) ZB Xt AB hv (λe=>by have:=(HO.o.lt _ e).2;omega) (by have:=gV.size;omega));have HV:=ZA hV;have IZ:=ZA Bt;clear gV Bt hv AB hV;go_upto_region 6 with fail;go_wp2_with fail;(try rw[HV.o]);refine IN.o.mono ?_;rintro e w3 ⟨A3,c3,rfl,o3,g3⟩;have O3:=ZA o3;have G3:=ZA g3;clear o3 g3 b0 b1 b2 b3 y1
 go_wp2_with fail;go_ret;first
 |obtain -:=V4;obtain⟨dd,be⟩:=JI (Yh r ce) w1 _ (at_*4) HO.o;rw[ZDB HE.o.1.1 at_ r ce (by rw[Hl.o];exact Xt)]at dd;obtain⟨w2,cV⟩:=ZX3 (w1.setCells g (at_*4) (Yh r ce));have jr:(((w1.setCell ⟨g,at_*4,none⟩ (.int .i64 (ce.pol:Int))).setCell ⟨g,at_*4+1,none⟩ (.slice r.K ce.key.length r.kc)).setCell ⟨g,at_*4+2,none⟩ (.int .i64 ce.tat)).setCell ⟨g,at_*4+3,none⟩ (.slice r.H ce.held.length r.hc)=w2:=cV;rw[jr];rw[cV]at dd be;have xF:ZM w w2:=Yr (XW.o.trans X1.o) be (by have:=XW.o.size;omega);refine⟨some ⟨g,0,none⟩,n,d,rs.set at_ r,by rw[ZfK];exact Hl.o,rfl,⟨⟨by rw[ZfK,ZfK];exact HE.o.1.1,XJ dd,λi r' c' bC jB=>?_⟩,ZBS dd (λi hi=>ZgB (HX.o i hi) XW.o.size),λr' bC=>?_⟩,xF⟩
  ·by_cases e:at_=i
   ·subst e;rw[ZfA (by rw[HE.o.1.1,Hl.o];exact Xt)]at bC;rw[ZfA (by rw[Hl.o];exact Xt)]at jB;injection bC with bC;injection jB with jB;subst bC jB;exact(HP.o.ext xF).1
   ·rw[Ze9 e]at bC jB;exact(HE.o.1.2.2 i r' c' bC jB).ext xF
  ·rcases ZNf bC with h|h
   ·rw[h];exact(HP.o.ext xF).2
   ·exact((HE.o.ext xF).2.2 r' h)
 |have o3:=O3.o;rw[ZOb HE.o.1.1]at o3;have yo:GB w2 w3 (λi=>i=w.heap.size\/(Value.slice B n d).ownBlock=some i):=(IZ.o.more (λi _ e=>.inl e)).grown G3.out (λq e=>.inl (.inr e));have xF:ZM w w3:=GB.to_ext yo (XW.o.trans (X1.o.trans X2.o)) (λi e=>e.elim (λe=>by omega) (λe=>by have:=Yw HO.o i e;omega));have nG:=HE.o.1.1;have hKr:Rd w3 K' (ZT .u8 ce.key):=yo.rd (Rd.of_own fj.o) (λp hp e=>by
   obtain⟨h1,h2,h3⟩:=ZAS fj.o p hp;rcases e with e|e
   ·omega
   ·have:=(HO.o.lt _ e).2;omega)
  have Ff:Fz w3 X K':=λa ha=>by
   obtain⟨h1,h2,h3⟩:=ZAS fj.o a ha;exact⟨HX.o.not (by have:=XW.o.size;omega),ZgB h2 yo.size⟩
  have Fb:ZAX w3 ⟨K',kc',r.H,r.hc⟩ ce:=⟨YR fj.o,hKr,(HP.o.ext xF).1.2.2⟩;refine⟨A3,n+1,c3,rs.take at_++⟨K',kc',r.H,r.hc⟩::rs.drop at_,?_,rfl,⟨⟨?_,XJ o3,λi r' c' bC jB=>?_⟩,ZBS o3 (λi hi=>ZgB (HX.o i hi) XW.o.size),λr' bC=>?_⟩,xF⟩
  ·rw[ZfE,ZfL,ZfF,ZfG,Hl.o];omega
  ·rw[ZfE,ZfL,ZfF,ZfG,ZfE,ZfL,ZfF,ZfG,nG]
  ·have hz:(rs.take at_++(⟨K',kc',r.H,r.hc⟩:Z7)::rs.drop at_).zip (l.take at_++ce::l.drop at_)=(rs.take at_).zip (l.take at_)++(⟨K',kc',r.H,r.hc⟩,ce)::(rs.drop at_).zip (l.drop at_):=by
    rw[Zft (by rw[ZfL,ZfL,nG]),Zfu]
   have hm:(r',c') ∈ (rs.take at_).zip (l.take at_)++(⟨K',kc',r.H,r.hc⟩,ce)::(rs.drop at_).zip (l.drop at_):=by
    rw[<-hz];exact ZfU (ZfD.2 ⟨bC,jB⟩)
   have aU:∀p ∈ rs.zip l,ZAX w3 p.1 p.2:=λp hp=>by
    obtain⟨j,hj⟩:=Ze7 hp;obtain⟨h1,h2⟩:=ZfD.1 hj;exact(HE.o.1.2.2 j _ _ h1 h2).ext xF
   rcases ZfN.1 hm with h|h
   ·refine aU (r',c') ?_;unfold List.zip at h ⊢;rw[<-List.take_zipWith]at h;exact ZfX h
   ·rcases ZfO.1 h with h|h
    ·injection h with h1 h2;rw[h1,h2];exact Fb
    ·refine aU (r',c') ?_;unfold List.zip at h ⊢;rw[<-List.drop_zipWith]at h;exact ZfV h
  ·rcases ZfN.1 bC with h|h
   ·exact(HE.o.ext xF).2.2 r' (ZfX h)
   ·rcases ZfO.1 h with h|h
    ·rw[h];exact⟨Ff,(HP.o.ext xF).2.2⟩
    ·exact(HE.o.ext xF).2.2 r' (ZfV h)):p:=h
theorem ZRr (w X A n c at_)(l:List ZL)(rs)(ce:ZL)(r:Z7)(hX:YE w X)(hl:l.length=n)(hn:n<=5000)(hE:Zw w X A l rs)(hP:Yi w X r ce)(Xt:at_<n): Calls prog 256 #[.slice A n c,.int .i64 at_,.bool true,.agg #[.int .i64 (ce.pol:Int),.slice r.K ce.key.length r.kc,.int .i64 ce.tat,.slice r.H ce.held.length r.hc]] w (ZPV X (l.set at_ ce) w):=by
 obtain⟨V1,V2,V3,V4⟩:=QA;exact Qr
theorem ZRq (w X A n c at_)(l:List ZL)(rs)(ce:ZL)(r:Z7)(hX:YE w X)(hl:l.length=n)(hn:n<=5000)(hE:Zw w X A l rs)(hP:Yi w X r ce)(Xt:at_<=n)(hk:ce.key.length<=255): Calls prog 256 #[.slice A n c,.int .i64 at_,.bool false,.agg #[.int .i64 (ce.pol:Int),.slice r.K ce.key.length r.kc,.int .i64 ce.tat,.slice r.H ce.held.length r.hc]] w (ZPV X (l.take at_++ce::l.drop at_) w):=Qr
def ZR0 (base:Nat)(A:Option Addr)(n c:Nat)(xs:List Int)(k:Nat)(t:Int)(w:World)(e:Ending)(w':World):Prop:=∃A' c',e=.returned (.slice A' (n+1) c')/\w'.ownsRow base 2 1 (.slice A' (n+1) c') (n+1) (Zn (ZCD xs k t))/\w.grownBy w' (Value.slice A n c).ownBlock
theorem ZUp{t:Int}(h:w.heap[vb]?=some (.cells #[.int .i64 t] 2 (0,0))):Rd w (some ⟨vb,0,none⟩) (Zn [t]):=λ_=>⟨vb,0,rfl,λj u hu=>by
 cases j with
 |zero=>rw[ZE h 0];exact hu
 |succ j=>simp[Zn]at hu⟩
theorem ZN2 (w:World)(base A n c vb)(xs:List Int)(t)(hl:xs.length=n)(hn:n<=1000)(ho:w.ownsRow base 2 1 (.slice A n c) n (Zn xs))(hv:w.heap[vb]?=some (.cells #[.int .i64 t] 2 (0,0)))(an:base<=w.heap.size): Calls prog 292 #[.slice A n c,.int .i64 n,.slice (some ⟨vb,0,none⟩) 1 1] w (ZR0 base A n c xs n t w):=by
 have aI:=YR ho;have Ho:=ZA ho;have R:=ZA (ZUp hv);have Hl:=ZA hl;clear ho hv hl;obtain⟨A0,hsl,_,_⟩:=Xx underlying60 ZLT (A:=A) (n:=n) (c:=c) (m:=0) (d:=c - n) n (ki:=(n:Int)) rfl aI ZB ZB;go_enter func292,ntmps292;go_wp2_with (at_builtin;refine ZPS _ rfl (.tmp 23) (.tmp 24) rfl base rfl Ho.o rfl (m:=1) (news:=[t]) rfl R.o ZB an ?_;intro A' c' w1 af aY _);go_ret;refine⟨A',c',rfl,?_,aY⟩;have e:ZCD xs n t=xs++[t]:=by
  unfold ZCD;rw[Zfp (by rw[Hl.o];exact Zf6 _),Zer (by rw[Hl.o];exact Zf6 _)]
 rw[e];exact af
theorem ZPH:(prog.info? 2).map (·.size)=some 1:=by kernel_rfl
theorem ZJP (xs k t):Zn (ZCD xs k t)=(Zn xs).take k++([.int .i64 t]++(Zn xs).drop k):=by
 simp[Zn,ZCD,List.map_take,List.map_drop]
theorem ZL8 (w:World)(base A n c vb k)(xs:List Int)(t)(hl:xs.length=n)(hn:n<=1000)(hk:k<n)(hc:n<c)(eW:c<=9223372036854775807)(ho:w.ownsRow base 2 1 (.slice A n c) n (Zn xs))(hv:w.heap[vb]?=some (.cells #[.int .i64 t] 2 (0,0)))(ag:(Value.slice A n c).ownBlock≠some vb): Calls prog 292 #[.slice A n c,.int .i64 k,.slice (some ⟨vb,0,none⟩) 1 1] w (ZR0 base A n c xs k t w):=QX
theorem ZL9 (w:World)(base A n c vb k)(xs:List Int)(t)(hl:xs.length=n)(hn:n<=1000)(hk:k<n)(aI:n<=c)(hc:c<n+1)(ho:w.ownsRow base 2 1 (.slice A n c) n (Zn xs))(hv:w.heap[vb]?=some (.cells #[.int .i64 t] 2 (0,0)))(an:base<=w.heap.size): Calls prog 292 #[.slice A n c,.int .i64 k,.slice (some ⟨vb,0,none⟩) 1 1] w (ZR0 base A n c xs k t w):=by
 obtain⟨V1,V4,V7,V8,V9,V10⟩:=QA;exact QX
theorem ZHv (w:World)(base A n c vb k)(xs:List Int)(t)(hl:xs.length=n)(hn:n<=1000)(hk:k<=n)(ho:w.ownsRow base 2 1 (.slice A n c) n (Zn xs))(hv:w.heap[vb]?=some (.cells #[.int .i64 t] 2 (0,0)))(ag:(Value.slice A n c).ownBlock≠some vb)(an:base<=w.heap.size): Calls prog 292 #[.slice A n c,.int .i64 k,.slice (some ⟨vb,0,none⟩) 1 1] w (ZR0 base A n c xs k t w):=ZYJ
def ZXY (base:Nat)(A:Option Addr)(n c:Nat)(xs:List Int)(k:Nat)(w:World)(e:Ending)(w':World):Prop:=e=.returned (.slice A (n - 1) c)/\w'.ownsRow base 2 1 (.slice A (n - 1) c) (n - 1) (Zn (ZEJ xs k))/\w.grownBy w' (Value.slice A n c).ownBlock
theorem ZR1:∀w:World,(zeroValue 2).run prog w=.ok (.int .i64 0) w:=λ_=>by kernel_rfl
theorem ZY5 {p:Prop}(h:p:=by
 refine⟨⟨g,0,none⟩,by simp[h],λt u hu=>?_⟩;have h0:news.length=0:=by rw[ah];omega
 rw[ZfH.1 h0]at hu;simp at hu):p:=h
theorem Ql {p:Prop}(h:p:=by
 first|(obtain -:=V1;have hl:xs.length=n*3:=ho.1)|skip
 have aI:=YR ho;first|(obtain -:=V2;obtain⟨g,rfl,bE,aA⟩:=JS ho ZB)|obtain⟨g,rfl,bE,aA⟩:=ZFC ho ZB
 have eW:c<=9223372036854775807:=by
  exact ZY6
 first
 |obtain -:=V3;obtain⟨i0,dF,bV,bY,aS⟩:=Zgm ZOz;obtain⟨news,hnews⟩:=ZX3 (xs.drop ((k+1)*3));have ah:news.length=(n - (k+1))*3:=by rw[<-hnews,ZfG,hl];omega
  have aq:∀j,j<n*3->w.cell? ⟨g,j,none⟩=xs[j]?:=λj hj=>ho.cellAt j hj;obtain⟨B,hA,dJ⟩:∃B:Addr,(if c=k+1 then (some ⟨g,0,none⟩:Option Addr) else some ⟨g,(k+1)*3,none⟩)=some B/\ZD (∀t u,news[t]?=some u->w.drew.cell? (B.add t)=some u):=by
   by_cases h:c=k+1
   ·exact ZY5
   ·refine⟨⟨g,(k+1)*3,none⟩,by simp[h],λt u hu=>?_⟩;have ht:t<(n - (k+1))*3:=by rw[<-ah];exact(Ze5.1 hu).1
    rw[ZeS];refine(aq ((k+1)*3+t) ZB).trans ?_;rw[<-hu,<-hnews,Ze3]
  have s1:ZD (news.length=(n - (k+1))*3):=ah;have s2:ZD (∀u ∈ news,u.oneCell'=true):=λu hu=>aK u (by rw[<-hnews]at hu;exact ZfV hu);have s3:ZD (∀t,t<news.length->(w.drew.cell? ⟨g,0+k*3+t,none⟩).isSome=true/\w.drew.frozen? ⟨g,0+k*3+t,none⟩=false):=λt ht=>by
   rw[ah]at ht;rw[ZgQ];refine⟨?_,ho.frozenAt _⟩;show(w.cell? _).isSome=true;rw[aq _ ZB,Ze4 ZB];rfl
  obtain⟨W1,hW1⟩:∃W1,W1=w.drew.setCells g (0+k*3) news:=⟨_,rfl⟩;have dd:=JI news w.drew _ (0+k*3) ho.drew
 |obtain⟨i0,dF,bV,bY,aS⟩:=Zgm ZFK;obtain⟨news,hnews⟩:=ZX3 ((Zn xs).drop (k+1));have ah:news.length=n - (k+1):=by rw[<-hnews,ZfG,Yq,hl]
  have aq:∀j,j<n->w.cell? ⟨g,j,none⟩=(Zn xs)[j]?:=λj hj=>ho.cellAt j ZB;obtain⟨B,hA,dJ⟩:∃B:Addr,(if c=k+1 then (some ⟨g,0,none⟩:Option Addr) else some ⟨g,k+1,none⟩)=some B/\ZD (∀t u,news[t]?=some u->w.drew.cell? (B.add t)=some u):=by
   by_cases h:c=k+1
   ·exact ZY5
   ·refine⟨⟨g,k+1,none⟩,by simp[h],λt u hu=>?_⟩;have ht:t<n - (k+1):=by rw[<-ah];exact(Ze5.1 hu).1
    rw[ZeS];refine(aq (k+1+t) ZB).trans ?_;rw[<-hu,<-hnews,Ze3]
  have s1:ZD (news.length=(n - (k+1))*1):=by rw[ZgJ];exact ah
  have s2:ZD (∀u ∈ news,u.oneCell'=true):=λu hu=>ZD6 xs u (by rw[<-hnews]at hu;exact ZfV hu);have s3:ZD (∀t,t<news.length->(w.drew.cell? ⟨g,0+k*1+t,none⟩).isSome=true/\w.drew.frozen? ⟨g,0+k*1+t,none⟩=false):=λt ht=>by
   rw[ah]at ht;rw[ZgJ,ZgQ];refine⟨?_,ho.frozenAt _⟩;show(w.cell? _).isSome=true;rw[aq _ ZB,Ze4 (by rw[Yq,hl];omega)];rfl
  obtain⟨W1,hW1⟩:∃W1,W1=w.drew.setCells g (0+k*1) news:=⟨_,rfl⟩;have dd:=ZC6 news w.drew _ (0+k*1) ho.drew
 rw[<-hW1]at dd;obtain⟨dx,hG1⟩:=dd;first
 |obtain -:=V4;rw[ZgQ]at dx;have aN:Xg xs (k*3) news=xs.take (k*3)++(news++xs.drop (k*3+news.length)):=Xy _ _ _ (by rw[hl,ah];omega);have aJ:(Xg xs (k*3) news).length=n*3:=by rw[aN,ZfE,ZfE,ZfL,ZfG,hl,ah];omega
  obtain⟨ZS,hZS⟩:=ZX3 ((Builtin.zeroCells (Value.cells (.agg #[.int .i64 0,.slice none 0 0,.int .i64 0])) (n - (k+(n - (k+1))))).toList);have hZ:=ZPj (n - (k+(n - (k+1))));rw[hZS]at hZ;have hcl:∀ty,(Builtin.clear_ #[117] ty #[.slice (some ⟨g,(k+(n - (k+1)))*3,none⟩) (n - (k+(n - (k+1)))) (c - (k+(n - (k+1))))]).run prog W1=.ok (.tuple #[]) (W1.setCells g ((k+(n - (k+1)))*3) ZS):=
   λty=>ZCP W1 _ _ ty _ ZS underlying117 ZUQ g ((k+(n - (k+1)))*3) _ _ ZB hZS hZ.2 (λt ht=>by
    rw[hZ.1]at ht;rw[dx.cellAt _ ZB,Ze4 (by rw[aJ];omega)];rfl) (λt _=>dx.frozenAt _)
  obtain⟨W2,cN⟩:=ZX3 (W1.setCells g ((k+(n - (k+1)))*3) ZS);have be:=JI ZS W1 _ ((k+(n - (k+1)))*3) dx
 |rw[ZgJ,ZgQ]at dx;have aN:Xg (Zn xs) k news=(Zn xs).take k++(news++(Zn xs).drop (k+news.length)):=Xy _ _ _ (by rw[Yq,hl,ah];omega);have aJ:(Xg (Zn xs) k news).length=n:=by rw[aN];simp[Yq,hl,ah];omega
  have hcl:∀ty,(Builtin.clear_ #[60] ty #[.slice (some ⟨g,k+(n - (k+1)),none⟩) (n - (k+(n - (k+1)))) (c - (k+(n - (k+1))))]).run prog W1=.ok (.tuple #[]) (W1.setCells g (k+(n - (k+1))) (List.replicate (n - (k+(n - (k+1)))) (.int .i64 0))):=
   λty=>Lib.run_clear_slice W1 _ _ ty _ underlying60 ZR1 rfl rfl g (k+(n - (k+1))) _ _ ZB (λt ht=>by
    rw[dx.cellAt _ ZB,Ze4 (by rw[aJ];omega)];rfl) (λt _=>dx.frozenAt _)
  obtain⟨W2,cN⟩:=ZX3 (W1.setCells g (k+(n - (k+1))) (List.replicate (n - (k+(n - (k+1)))) (.int .i64 0)));have be:=ZC6 (List.replicate (n - (k+(n - (k+1)))) (Value.int .i64 0)) W1 _ (k+(n - (k+1))) dx
 rw[cN]at be hcl;first
 |obtain -:=V5;have az:(Xg (Xg xs (k*3) news) ((k+(n - (k+1)))*3) ZS).take ((n - 1)*3)=ZRQ 3 xs k:=by
   rw[Xy _ _ _ (by rw[aJ,hZ.1];omega),show k+(n - (k+1))=n - 1 by omega];rw[Zfn (by rw[ZfL,aJ];omega),aN,<-Zei];rw[Zfn (by rw[ZfE,ZfL,hl,ah];omega),<-hnews];unfold ZRQ;rw[Zfz,ZgN]
  have Fin:=ZA (show ZO0 base (some ⟨g,0,none⟩) n c xs k w (.returned (.slice (some ⟨g,0,none⟩) (n - 1) c)) W2 from⟨rfl,by rw[<-az];exact ZFs be.1 ZB,World.grown_trans (XC hG1) be.2⟩);have hW:ZD (W1=w.drew.setCells g (0+k*3) news):=hW1
 |have az:(Xg (Xg (Zn xs) k news) (k+(n - (k+1))) (List.replicate (n - (k+(n - (k+1)))) (Value.int .i64 0))).take (n - 1)=Zn (ZEJ xs k):=by
   rw[Xy _ _ _ (by rw[aJ,List.length_replicate];omega),show k+(n - (k+1))=n - 1 by omega];rw[Zfn (by rw[ZfL,aJ];omega),aN,<-Zei];rw[Zfn (by simp[Yq,hl,ah];omega),<-hnews];simp[Zn,ZEJ,List.map_take,List.map_drop]
  have Fin:=ZA (show ZXY base (some ⟨g,0,none⟩) n c xs k w (.returned (.slice (some ⟨g,0,none⟩) (n - 1) c)) W2 from⟨rfl,by rw[<-az];exact ZO9 be.1 ZB,World.grown_trans (XC hG1) be.2⟩);have hW:ZD (W1=w.drew.setCells g (0+k*1) news):=hW1
 have xy:k<=c:=by omega
 have Ev:k+1<=c:=by omega
 have qZ:k+1<=n:=by omega
 have cW:IntKind.i64.wrap ((k:Int)+1)=(k:Int)+1:=by rw[Zee];omega
 first|(obtain -:=V6;have mX:¬((k:Int)=(k:Int)+1):=by omega)|have aS:¬((k:Int)=(k:Int)+1):=by omega
 have dG:(0:Int)<=(k:Int)+1:=by omega
 have sd:((k:Int)+1).toNat=k+1:=by omega
 have kZ:(k:Int)+1<=(n:Int):=by omega
 have jT:(k:Int)<=(k:Int)+1:=by omega
 have iT:(k:Int)+1<=(c:Int):=by omega
 have mixed:prog.follows Departure.mixedOrders=true:=by kernel_rfl
 first|(obtain -:=V7;have bZ:=ZOy;clear hW1 be az dx hG1 aN aJ aq ah hnews ho hl cN bE aA aK hZ hZS;go_enter func156,ntmps156)|(clear hW1 be az dx hG1 aN aJ aq ah hnews ho hl cN bE aA;go_enter func285,ntmps285)
 go_wp2_with fail;first|(obtain -:=V8;go_region_law_o (refine step_append_room rfl (.tmp 22) (.tmp 25) 117 rfl 120 i0 3 underlying117 dF bY g 0 k c (by simp[Act.eval,Act.put]) B (n - (k+1)) (c - (k+1)) news (by simp[Act.eval,Act.put]) s1.out dJ.out s2.out ZB s3.out ?_;rw[<-hW.out]))|go_region_law_o (refine step_append_room rfl (.tmp 22) (.tmp 25) 60 rfl 2 i0 1 underlying60 dF bY g 0 k c (by simp[Act.eval,Act.put]) B (n - (k+1)) (c - (k+1)) news (by simp[Act.eval,Act.put]) s1.out dJ.out s2.out ZB s3.out ?_;rw[<-hW.out])
 go_wp2;go_ret;have e:k+(n - (k+1))=n - 1:=by omega
 first|exact Fin.o|(rw[e];exact Fin.o)):p:=h
theorem ZOP (w:World)(base A n c k)(xs:List Int)(hl:xs.length=n)(hn:n<=1000)(hk:k<n)(ho:w.ownsRow base 2 1 (.slice A n c) n (Zn xs)): Calls prog 285 #[.slice A n c,.int .i64 k,.int .i64 ((k:Int)+1)] w (ZXY base A n c xs k w):=Ql
abbrev ZLV (p:Int)(A:Option Addr)(n c:Nat):Value:=.agg #[.int .i64 p,.slice A n c]
def ZVj (p:Int)(m:Nat)(xs:List Int)(q:Int)(w:World)(e:Ending)(w':World):Prop:=∃A c,e=.returned (.tuple #[ZLV p A m c,.int .i64 q])/\w'.ownsRow w.heap.size 2 1 (.slice A m c) m (Zn xs)/\ZM w w'
theorem ZGn{p u:Tmp}(h:fn.results=#[.cell p 369,.tmp u]){tmps:Array Value}{a b:Value}{fr:Nat × Nat}(hp:tmps.getD p undef=.pointer (some ⟨g,0,none⟩))(hg:w.heap[g]?=some (.cells #[a,b] t fr)): (results fn tmps).run prog w=.ok (.tuple #[.agg #[a,b],tmps.getD u undef]) w:=Yy h tmps w g t #[a,b] fr _ hp hg underlying369 ZX0 ZC
theorem ZI2{q:Int}(h:ZM w w2)(hg:w.heap.size<=g)(a b):ZVj 0 0 [] q w (.returned (.tuple #[ZLV 0 none 0 0,.int .i64 q])) ((w2.setCell ⟨g,0,none⟩ a).setCell ⟨g,1,none⟩ b):=⟨none,0,rfl,ZgZ _ _ _ _,ZH8 h hg _ _⟩
theorem ZNW{n:Nat}(h:w.ownsRow a.drew.heap.size e 1 v n xs):w.ownsRow a.heap.size e 1 v n xs:=h
theorem ZOI{b:World}(h:ZM a.drew b):ZM a b:=⟨h.os,h.tape,h.output,h.size,h.block⟩
def ZXT (W:World)(n:Nat)(ys:List Int)(e:Ending)(w':World):Prop:=∃A c,e=.returned (.slice A (n+1) c)/\w'.ownsRow W.heap.size 2 1 (.slice A (n+1) c) (n+1) (Zn ys)/\ZM W w'
theorem ZTE (W w4:World)(A4 n c4 k)(xs:List Int)(t)(hl:xs.length=n)(hn:n<=1000)(hk:k<=n)(ho:w4.ownsRow W.heap.size 2 1 (.slice A4 n c4) n (Zn xs))(hy:ZM W w4): Calls prog 292 #[.slice A4 n c4,.int .i64 k,.slice (some ⟨w4.heap.size,0,none⟩) 1 1] (w4.alloc (.cells #[.int .i64 t] 2)) (ZXT W n (ZCD xs k t)):=by
 refine(ZHv _ W.heap.size A4 n c4 w4.heap.size k xs t hl hn hk (ho.alloc _) (ZV w4 _) (ZPA ho (.inr (Zf6 _))) (by have:=hy.size;rw[Zga];omega)).mono ?_;rintro e w5 ⟨A5,c5,rfl,gM,jh⟩;exact⟨A5,c5,rfl,gM,(hy.alloc _).grown jh (λk hk=>Yw ho k hk)⟩
theorem ZTF (W w4:World)(A4 n c4 k)(xs:List Int)(t)(hl:xs.length=n)(hn:n<=1000)(hk:k<=n)(ho:w4.ownsRow (W.alloc (.cells #[.int .i64 t] 2)).heap.size 2 1 (.slice A4 n c4) n (Zn xs))(hy:ZM (W.alloc (.cells #[.int .i64 t] 2)) w4): Calls prog 292 #[.slice A4 n c4,.int .i64 k,.slice (some ⟨W.heap.size,0,none⟩) 1 1] w4 (ZXT W n (ZCD xs k t)):=by
 rw[Zga]at ho;refine(ZHv w4 W.heap.size A4 n c4 W.heap.size k xs t hl hn hk (Zj ho ZB) (ZK (ZV W _) hy) (ZPA ho (.inl ZB)) (by have:=hy.size;rw[Zga]at this;omega)).mono ?_;rintro e w5 ⟨A5,c5,rfl,gM,jh⟩;exact⟨A5,c5,rfl,gM,(((ZM.refl W).alloc _).trans hy).grown jh (λk hk=>by have:=Yw ho k hk;omega)⟩
theorem Qk {p:Prop}(h:p:=by
 first|(obtain -:=V1;have ms:n<=64:=by have:=hF.2.1;have:=hF.2.2.1;omega)|have ms:n<=64:=by have:=hF.2.1;omega
 have qk:=ZA (ZQ (ZV w (.cells #[.int .i64 p,.slice A n c] 369 (0,0))) (.cells #[.int .i64 0,.slice none 0 0] 369 (0,0)));have K0:=ZA (Zi (w.alloc (.cells #[.int .i64 p,.slice A n c] 369 (0,0))) (.cells #[.int .i64 0,.slice none 0 0] 369 (0,0)) (k:=w.heap.size+1) ZXz);have Hl:=ZA hl;have Hr:=ZA hr;first|(obtain -:=V2;have Xt:at_<n:=by rw[<-hl];exact((ZOl ha hF.2.2.2).1 hm).1)|have Xt:at_<=n:=by rw[<-hl];exact ha.1
 have C:=ZA (λW (hx:ZM w W)=>ZEc W t A n c xs hl ZB (hr.ext hx) hF.2.2.2 at_ ha);have Cc:=ZA (λW (hx:ZM w W)=>ZF1 W p A n c xs hl ZB (hr.ext hx));have mN:=ZA (ZD8 hF);first
 |obtain -:=V3;have Hm:=ZA (Zgg hm);have aK:∀o o':Obj,ZM w ((w.alloc o).alloc o'):=λo o'=>((ZM.refl w).alloc o).alloc o';clear hl hr ha hm hF;go_enter func254,ntmps254;go_wp2_with fail;refine(Cc.o _ (aK _ _)).mono ?_;rintro e w2 ⟨rfl,eI⟩;rw[mN.o];have jH:=ZA (ZK qk.o eI);have K2:=ZA (ZK K0.o eI);have bd:=(aK _ _).trans eI;clear eI aK;have b0:=ZE jH.o 0;have b1:=ZE jH.o 1;go_wp2_with fail;refine(C.o w2 bd).mono ?_;rintro e w3 ⟨rfl,cI⟩;rw[Hm.o];have lu:=ZA (ZK jH.o cI);have K3:=ZA (ZK K2.o cI);have fU:=bd.trans cI;clear b0 b1 cI C Cc;have gL:w.heap.size+2<=w3.heap.size:=by have:=ZX K3.o;omega
 |have Hm:=ZA (Zgf hm);have hb:((n:Int)==p)=false:=by rw[Zgb];omega
  clear hl hr ha hm hF D9;go_enter func282,ntmps282;go_wp2_with fail;refine(ZSB (ZHP _ t)).mono ?_;rintro e w1 ⟨rfl,ga⟩;rw[Zgg hs];have yI:=ZA (ZK qk.o ga);have K1:=ZA (ZK K0.o ga);have aK:ZM w w1:=(((ZM.refl w).alloc _).alloc _).trans ga;have b0:=ZE yI.o 0;have b1:=ZE yI.o 1;clear ga hs;go_wp2_with fail;refine(Cc.o w1 aK).mono ?_;rintro e w2 ⟨rfl,eI⟩;rw[mN.o];have jH:=ZA (ZK yI.o eI);have K2:=ZA (ZK K1.o eI);have bd:=aK.trans eI;clear b0 b1 eI;have b0:=ZE jH.o 0;have b1:=ZE jH.o 1;go_wp2_with fail;refine(C.o w2 bd).mono ?_;rintro e w3 ⟨rfl,cI⟩;rw[Hm.o];have lu:=ZA (ZK jH.o cI);have K3:=ZA (ZK K2.o cI);have fU:=bd.trans cI;clear b0 b1 cI C Cc;have gL:w.heap.size+2<=w3.heap.size:=by have:=ZX K3.o;omega
  have b0:=ZE lu.o 0;have b1:=ZE lu.o 1
 have ag:w.heap.size≠w.heap.size+1:=by omega
 have yQ:=ZA (show Rd w3.drew A (Zn xs)from Hr.o.ext fU.drew);first|(obtain -:=V4)|have yP:=ZA (λo:Obj=>(show Rd (w3.alloc o).drew A (Zn xs)from(Hr.o.ext (fU.alloc o).drew)))
 have DQ:w3.drew.heap.size=w3.heap.size:=rfl;have ef:n<=1000:=by omega
 first
 |obtain -:=V5;have kD:IntKind.i64.wrap ((at_:Int)+1)=(at_:Int)+1:=by rw[Zee];omega
  have r0:=ZX1 lu.o 0 (.int .i64 p);have r1:=ZX1 lu.o 1 (.slice A n c);have d0:w3.drew.cell? ⟨w.heap.size,0,none⟩=some (.int .i64 p):=r0;have d1:w3.drew.cell? ⟨w.heap.size,1,none⟩=some (.slice A n c):=r1;go_upto_region 7 with fail;go_region_held3 (λw'=>w'.cell? ⟨w.heap.size,0,none⟩=some (.int .i64 p)/\w'.cell? ⟨w.heap.size,1,none⟩=some (.slice A n c)) (((try go_split_ands);refine⟨?_,?_⟩<;>first|assumption|with_reducible first|exact d0|exact d1|exact q0|exact q1|exact s0|exact s1|exact Zd (Zd s0 ag) ag|exact Zd (Zd s1 ag) ag|exact ZJ (Zd (Zd s0 ag) ag)|exact ZJ (Zd (Zd s1 ag) ag)))
   (first
    |(go_at_call 165;refine(ZEg A n c xs _ Hl.o ZB yQ.o).mono ?_;rintro e4 w4 ⟨A4,c4,rfl,ho4,ba⟩;rw[Hl.o]at ho4 ⊢;have iu:=ZA ho4;have vv:=ZA ba;have iE:ZM w3 w4:=((ZM.refl w3).drew).trans ba;have q0:=ZF iE r0;have q1:=ZF iE r1;clear ho4 ba iE)
    |(go_at_call 285;(with_reducible refine(ZOP w4 w3.drew.heap.size A4 n c4 at_ xs Hl.o ef Xt iu.o).mono ?_);rintro e5 w5 ⟨rfl,gM,jh⟩;have ou:=ZA gM;have d8:ZM w3 w5:=(((ZM.refl w3).drew).trans vv.o).grown jh (λk hk=>by have:=Yw iu.o k hk;omega);have s0:=ZF d8 r0;have s1:=ZF d8 r1;have iq:=ZA (ZK K3.o d8);have u0:=ZE iq.o 0;have u1:=ZE iq.o 1;have v0:=ZG iq.o 0;have v1:=ZG iq.o 1;clear gM jh))
  all_goals
   go_wp2_with fail;refine Zgd (ZGn rfl rfl (ZUd iq.o _ _)) rfl ?_;exact⟨A4,c4,rfl,Zj (ZLk (Zj (base':=w.heap.size+2) ou.o ZB) ZB _ _) ZB,ZH8 (fU.trans d8) ZB _ _⟩
 |have r0:w3.cell? ⟨w.heap.size,0,none⟩=some (.int .i64 p):=b0;have r1:w3.cell? ⟨w.heap.size,1,none⟩=some (.slice A n c):=b1;have d0:w3.drew.cell? ⟨w.heap.size,0,none⟩=some (.int .i64 p):=b0;have d1:w3.drew.cell? ⟨w.heap.size,1,none⟩=some (.slice A n c):=b1;go_upto_region 11 with fail;go_region_held3 (λw'=>w'.cell? ⟨w.heap.size,0,none⟩=some (.int .i64 p)/\w'.cell? ⟨w.heap.size,1,none⟩=some (.slice A n c)) (((try go_split_ands);refine⟨?_,?_⟩<;>first|assumption|with_reducible first|exact d0|exact d1|exact q0|exact q1|exact s0|exact s1|exact ZJ (ZI r0 _)|exact ZJ (ZI r1 _)|exact ZI d0 _|exact ZI d1 _|exact ZI r0 _|exact ZI r1 _|exact ZI q0 _|exact ZI q1 _|exact Zd (Zd s0 ag) ag|exact Zd (Zd s1 ag) ag|exact ZJ (Zd (Zd s0 ag) ag)|exact ZJ (Zd (Zd s1 ag) ag)))
   (first
    |(go_at_call 165;refine(ZEg A n c xs _ Hl.o ZB (by first|exact yQ.o|exact yP.o _)).mono ?_;rintro e4 w4 ⟨A4,c4,rfl,ho4,ba⟩;rw[Hl.o]at ho4 ⊢;have iu:=ZA ho4;have vv:=ZA ba;have iE:ZM w3 w4:=(by first|exact((ZM.refl w3).drew).trans ba|exact(((ZM.refl w3).alloc _).drew).trans ba);have q0:=ZF iE r0;have q1:=ZF iE r1;clear ho4 ba iE)
    |(go_at_call 292;(with_reducible refine(ZTE w3.drew w4 A4 n c4 at_ xs t Hl.o ef Xt iu.o vv.o).mono ?_);rintro e5 w5 ⟨A5,c5,rfl,gM,rS⟩;have ou:=ZA gM;have d8:ZM w3 w5:=((ZM.refl w3).drew).trans rS;have s0:=ZF d8 r0;have s1:=ZF d8 r1;have iq:=ZA (ZK K3.o d8);have u0:=ZE iq.o 0;have u1:=ZE iq.o 1;have v0:=ZG iq.o 0;have v1:=ZG iq.o 1;clear gM rS)
    |(go_at_call 292;(with_reducible refine(ZTF w3 w4 A4 n c4 at_ xs t Hl.o ef Xt (ZNW iu.o) (ZOI vv.o)).mono ?_);rintro e5 w5 ⟨A5,c5,rfl,gM,rS⟩;have ou:=ZA gM;have d8:ZM w3 w5:=rS;have s0:=ZF d8 r0;have s1:=ZF d8 r1;have iq:=ZA (ZK K3.o d8);have u0:=ZE iq.o 0;have u1:=ZE iq.o 1;have v0:=ZG iq.o 0;have v1:=ZG iq.o 1;clear gM rS))
  all_goals
   go_wp2_with fail;refine Zgd (ZGn rfl rfl (ZUd iq.o _ _)) rfl ?_;exact⟨A5,c5,rfl,Zj (ZLk (Zj (base':=w.heap.size+2) ou.o ZB) ZB _ _) ZB,ZH8 (fU.trans d8) ZB _ _⟩):p:=h
theorem ZUT (w p t A n c at_)(xs:List Int)(hl:xs.length=n)(hr:Rd w A (Zn xs))(hs:Ser t)(hF:ZEL p xs)(ha:At xs t at_)(hm:t ∉ xs)(D9:(n:Int)<p): Calls prog 282 #[ZLV p A n c,.int .i64 t] w (ZVj p (n+1) (ZCD xs at_ t) 0 w):=Qk
theorem ZTQ (w p t A n c)(xs:List Int)(q)(hl:xs.length=n)(hn:n<=17592186044416)(hr:Rd w A (Zn xs))(h:(¬ZEL p xs/\q=3)\/(ZEL p xs/\t ∉ xs/\q=11)): Calls prog 254 #[ZLV p A n c,.int .i64 t] w (ZVj 0 0 [] q w):=by
 have qk:=ZA (ZQ (ZV w (.cells #[.int .i64 p,.slice A n c] 369 (0,0))) (.cells #[.int .i64 0,.slice none 0 0] 369 (0,0)));have K0:=ZA (Zi (w.alloc (.cells #[.int .i64 p,.slice A n c] 369 (0,0))) (.cells #[.int .i64 0,.slice none 0 0] 369 (0,0)) (k:=w.heap.size+1) ZXz);have Hl:=ZA hl;have Hr:=ZA hr;clear hl hr;have aK:∀o o':Obj,ZM w ((w.alloc o).alloc o'):=λo o'=>((ZM.refl w).alloc o).alloc o';go_enter func254,ntmps254;go_wp2_with fail;refine(ZF1 _ p A n c xs Hl.o hn (Hr.o.ext (aK _ _))).mono ?_;rintro e w2 ⟨rfl,eI⟩;have jH:=ZA (ZK qk.o eI);have K2:=ZA (ZK K0.o eI);have bd:=(aK _ _).trans eI;clear eI aK;rcases h with⟨hF,rfl⟩|⟨hF,hm,rfl⟩
 ·rw[ZH5 hF];have k0:=ZE K2.o 0;have k1:=ZE K2.o 1;have f0:=ZG K2.o 0;have f1:=ZG K2.o 1;clear hF;go_wp2_with fail;refine Zgd (ZGn rfl rfl (ZUd K2.o _ _)) rfl ?_;exact ZI2 bd ZB _ _
 ·rw[ZD8 hF];obtain⟨at_,ha⟩:=ZVg hF.2.2.2 t;have C:=ZA (λW (hx:ZM w W)=>ZEc W t A n c xs Hl.o hn (Hr.o.ext hx) hF.2.2.2 at_ ha);clear ha hF;have b0:=ZE jH.o 0;have b1:=ZE jH.o 1;go_wp2_with fail;refine(C.o w2 bd).mono ?_;rintro e w3 ⟨rfl,cI⟩;have lu:=ZA (ZK jH.o cI);have K3:=ZA (ZK K2.o cI);have fU:=bd.trans cI;clear b0 b1 cI C;have k0:=ZE K3.o 0;have k1:=ZE K3.o 1;have f0:=ZG K3.o 0;have f1:=ZG K3.o 1;rw[Zgf hm];clear hm;go_wp2_with fail;refine Zgd (ZGn rfl rfl (ZUd K3.o _ _)) rfl ?_;exact ZI2 fU ZB _ _
theorem ZVA (w p t A n c at_)(xs:List Int)(hl:xs.length=n)(hr:Rd w A (Zn xs))(hF:ZEL p xs)(ha:At xs t at_)(hm:t ∈ xs): Calls prog 254 #[ZLV p A n c,.int .i64 t] w (ZVj p (n - 1) (ZEJ xs at_) 0 w):=by
 obtain⟨V1,V2,V3,V4,V5⟩:=QA;exact Qk
theorem ZIb{p q:Tmp}{ty tz:TypeId}(h:fn.results=#[.cell p ty,.cell q tz])(tmps:Array Value)(P:Program)(w): (results fn tmps).run P w=((asAddr (tmps.getD p undef)).run P w).andThen λa w=>((loadVar ty a).run P w).andThen λx w=>((asAddr (tmps.getD q undef)).run P w).andThen λb w=>((loadVar tz b).run P w).andThen λy w=>.ok (.tuple #[x,y]) w:=by
 simp[results,h,Result.andThen]
theorem ZAA {P:Program}{fn:Func}{p q:Tmp}{ty tz:TypeId}(h:fn.results=#[.cell p ty,.cell q tz])(tmps:Array Value)(w:World)(g i:Nat)(t u:TypeId)(cs ds:Array Value)(fr fs:Nat × Nat)(d e:TypeDesc)(hp:tmps.getD p undef=.pointer (some ⟨g,0,none⟩))(hg:w.heap[g]?=some (.cells cs t fr))(hq:tmps.getD q undef=.pointer (some ⟨i,0,none⟩))(hi:w.heap[i]?=some (.cells ds u fs))(hu:P.underlying ty=some d)(hd:(match d with|.struct _|.array _ _=>true|_=>false)=true)(hs:(P.info? ty).map (·.size)=some cs.size)(DK:P.underlying tz=some e)(ri:(match e with|.struct _|.array _ _=>true|_=>false)=true)(pB:(P.info? tz).map (·.size)=some ds.size): (results fn tmps).run P w=.ok (.tuple #[.agg cs,.agg ds]) w:=by
 rw[ZIb h,hp,hq];simp[asAddr,Zgt w g t ty cs fr d hg hu hd hs,Zgt w i u tz ds fs e hi DK ri pB,Result.andThen]
theorem ZWz(h:w.heap[g]?=some (.cells #[a0,a1,a2,a3,a4,a5] t (0,0)))(b0 b1 b2 b3 b4 b5): ((((((w.setCell ⟨g,0,none⟩ b0).setCell ⟨g,1,none⟩ b1).setCell ⟨g,2,none⟩ b2).setCell ⟨g,3,none⟩ b3).setCell ⟨g,4,none⟩ b4).setCell ⟨g,5,none⟩ b5).heap[g]?=some (.cells #[b0,b1,b2,b3,b4,b5] t (0,0)):=by
 have h1:_=some (Obj.cells #[b0,a1,a2,a3,a4,a5] t (0,0)):=ZR h 0 b0;have h2:_=some (Obj.cells #[b0,b1,a2,a3,a4,a5] t (0,0)):=ZR h1 1 b1;have h3:_=some (Obj.cells #[b0,b1,b2,a3,a4,a5] t (0,0)):=ZR h2 2 b2;have h4:_=some (Obj.cells #[b0,b1,b2,b3,a4,a5] t (0,0)):=ZR h3 3 b3;have h5:_=some (Obj.cells #[b0,b1,b2,b3,b4,a5] t (0,0)):=ZR h4 4 b4;exact ZR h5 5 b5
theorem ZTO (w:World)(g b0 b1 b2 b3 b4 b5):w.grownBy ((((((w.setCell ⟨g,0,none⟩ b0).setCell ⟨g,1,none⟩ b1).setCell ⟨g,2,none⟩ b2).setCell ⟨g,3,none⟩ b3).setCell ⟨g,4,none⟩ b4).setCell ⟨g,5,none⟩ b5) (some g):=by
 have h0:=Ze w g 0 b0;have h1:=ZU h0 1 b1;have h2:=ZU h1 2 b2;have h3:=ZU h2 3 b3;have h4:=ZU h3 4 b4;exact ZU h4 5 b5
theorem ZOC (w:World)(g b0 b1 b2 b3):w.grownBy ((((w.setCell ⟨g,0,none⟩ b0).setCell ⟨g,1,none⟩ b1).setCell ⟨g,2,none⟩ b2).setCell ⟨g,3,none⟩ b3) (some g):=by
 have h0:=Ze w g 0 b0;have h1:=ZU h0 1 b1;have h2:=ZU h1 2 b2;exact ZU h2 3 b3
theorem ZG0{V:World}{h:Nat}{c0 c1 c2 c3:Value}{u:TypeId}(x:ZM w V)(ag:g≠h)(hg:w.heap.size<=g)(hh:w.heap.size<=h)(J:V.heap[g]?=some (.cells #[a0,a1,a2,a3,a4,a5] t (0,0)))(I:V.heap[h]?=some (.cells #[c0,c1,c2,c3] u (0,0)))(b0 b1 b2 b3 b4 b5 d0 d1 d2 d3): ((((((((((V.setCell ⟨g,0,none⟩ b0).setCell ⟨g,1,none⟩ b1).setCell ⟨g,2,none⟩ b2).setCell ⟨g,3,none⟩ b3).setCell ⟨g,4,none⟩ b4).setCell ⟨g,5,none⟩ b5).setCell ⟨h,0,none⟩ d0).setCell ⟨h,1,none⟩ d1).setCell ⟨h,2,none⟩ d2).setCell ⟨h,3,none⟩ d3).drew.heap[g]?=some (.cells #[b0,b1,b2,b3,b4,b5] t (0,0))/\((((((((((V.setCell ⟨g,0,none⟩ b0).setCell ⟨g,1,none⟩ b1).setCell ⟨g,2,none⟩ b2).setCell ⟨g,3,none⟩ b3).setCell ⟨g,4,none⟩ b4).setCell ⟨g,5,none⟩ b5).setCell ⟨h,0,none⟩ d0).setCell ⟨h,1,none⟩ d1).setCell ⟨h,2,none⟩ d2).setCell ⟨h,3,none⟩ d3).drew.heap[h]?=some (.cells #[d0,d1,d2,d3] u (0,0))/\ZM w ((((((((((V.setCell ⟨g,0,none⟩ b0).setCell ⟨g,1,none⟩ b1).setCell ⟨g,2,none⟩ b2).setCell ⟨g,3,none⟩ b3).setCell ⟨g,4,none⟩ b4).setCell ⟨g,5,none⟩ b5).setCell ⟨h,0,none⟩ d0).setCell ⟨h,1,none⟩ d1).setCell ⟨h,2,none⟩ d2).setCell ⟨h,3,none⟩ d3).drew/\GB V ((((((((((V.setCell ⟨g,0,none⟩ b0).setCell ⟨g,1,none⟩ b1).setCell ⟨g,2,none⟩ b2).setCell ⟨g,3,none⟩ b3).setCell ⟨g,4,none⟩ b4).setCell ⟨g,5,none⟩ b5).setCell ⟨h,0,none⟩ d0).setCell ⟨h,1,none⟩ d1).setCell ⟨h,2,none⟩ d2).setCell ⟨h,3,none⟩ d3).drew (λi=>i=g\/i=h):=by
 obtain⟨hvq,h6⟩:=ZX3 (((((((V.setCell ⟨g,0,none⟩ b0).setCell ⟨g,1,none⟩ b1).setCell ⟨g,2,none⟩ b2).setCell ⟨g,3,none⟩ b3).setCell ⟨g,4,none⟩ b4).setCell ⟨g,5,none⟩ b5));have r6:=ZWz J b0 b1 b2 b3 b4 b5;have g6:=ZTO V g b0 b1 b2 b3 b4 b5;rw[h6]at r6 g6 ⊢;have g4:=ZOC hvq h d0 d1 d2 d3;exact⟨ZFV (Zl r6 g4 ag),ZFV (ZBA (Zl I g6 (λe=>ag e.symm)) d0 d1 d2 d3),(Yr (Yr x g6 hg) g4 hh).drew,(((GB.refl V (λi=>i=g\/i=h)).grown g6 (λq e=>by injection e with e;exact .inl (.inl e.symm))).grown g4 (λq e=>by injection e with e;exact .inl (.inr e.symm))).drew⟩
def ZMw (X:Zhf)(rep:Zt)(ce:ZL)(w:World)(e:Ending)(w':World):Prop:=∃r,e=.returned (.tuple #[.agg #[.int .i64 (rep.er:Int),.bool rep.granted,.int .i64 rep.left,.int .i64 rep.wait,.int .i64 rep.ser,.int .i64 rep.now],.agg #[.int .i64 (ce.pol:Int),.slice r.K ce.key.length r.kc,.int .i64 ce.tat,.slice r.H ce.held.length r.hc]])/\Yi w' X r ce/\ZM w w'
theorem QG {p:Prop}(h:p:=by
 obtain⟨n,Hn⟩:=ZX2 (ce.held.length);obtain⟨kl,Hk⟩:=ZX2 (ce.key.length);first
 |obtain -:=V1;obtain⟨xs,Hxs⟩:=ZX2 (ZEJ ce.held (atI ce.held ser));have Xt:=ZKm hF.2.2.2 ser;have AN:=((ZOl Xt hF.2.2.2).1 hm).1;obtain⟨m,Hm⟩:∃m,ZD (n=m+1):=⟨n - 1,by have:=Hn.o;unfold ZD;omega⟩;have eJ:xs.length=m:=by rw[<-Hxs.o,ZMP AN,Hn.o,Hm.o,Zf0]
  have HR:=ZA (show ZBj p ce ser=(⟨0,true,p.perm - (m:Int),0,0,0⟩,{ce with held:=xs}) by
   unfold ZBj;rw[Zgl hm,Hxs.o,Hn.o,Hm.o]
   congr 2
   omega)
 |obtain -:=V2;obtain⟨xs,Hxs⟩:=ZX2 (ZCD ce.held (atI ce.held ser) ser);have Xt:=ZKm hF.2.2.2 ser;have eJ:xs.length=n+1:=by rw[<-Hxs.o,ZMA ser Xt.1,Hn.o]
 |obtain -:=V3
 |have eL:n<=17592186044416:=by have:=hF.2.1;have:=hF.2.2.1;have:=Hn.o;omega
 obtain⟨W,hW⟩:=ZX3 (((((w.alloc (.cells #[.int .u8 (p.kind:Int),.int .i64 p.T,.int .i64 p.Tau,.int .i64 p.perm] 80)).alloc (.cells #[.int .i64 (ce.pol:Int),.slice r.K kl r.kc,.int .i64 ce.tat,.slice r.H n r.hc] 62)).alloc (.cells #[.int .i64 0,.bool false,.int .i64 0,.int .i64 0,.int .i64 0,.int .i64 0] 39)).alloc (.cells #[.int .i64 0,.slice none 0 0,.int .i64 0,.slice none 0 0] 62)));have xW:ZM w W:=by rw[<-hW];exact(((((ZM.refl w).alloc _).alloc _).alloc _).alloc _)
 have K0:=show W.heap[w.heap.size]?=some (.cells #[.int .u8 (p.kind:Int),.int .i64 p.T,.int .i64 p.Tau,.int .i64 p.perm] 80 (0,0)) by rw[<-hW];exact ZQ (ZQ (ZQ (ZV w _) _) _) _
 have K1:=show W.heap[w.heap.size+1]?=some (.cells #[.int .i64 (ce.pol:Int),.slice r.K kl r.kc,.int .i64 ce.tat,.slice r.H n r.hc] 62 (0,0)) by rw[<-hW];exact ZQ (ZQ (Zi _ _ ZXz) _) _
 have K2:=show W.heap[w.heap.size+1+1]?=some (.cells #[.int .i64 0,.bool false,.int .i64 0,.int .i64 0,.int .i64 0,.int .i64 0] 39 (0,0)) by rw[<-hW];exact ZQ (Zi _ _ ZXz) _
 have K3:=show W.heap[w.heap.size+1+1+1]?=some (.cells #[.int .i64 0,.slice none 0 0,.int .i64 0,.slice none 0 0] 62 (0,0)) by rw[<-hW];exact Zi _ _ ZXz
 first|(obtain -:=V4;have TK:=ZA (ZVA W p.perm ser r.H n r.hc (atI ce.held ser) ce.held Hn.o (hP.1.2.2.2.ext xW) hF Xt hm);rw[Hxs.o,show n - 1=m by rw[Hm.o,Zf0]]at TK)|(obtain -:=V5;have TK:=ZA (ZUT W p.perm ser r.H n r.hc (atI ce.held ser) ce.held Hn.o (hP.1.2.2.2.ext xW) hs hF Xt hm (by rw[<-Hn.o];exact ak));rw[Hxs.o]at TK)|(obtain -:=V6;obtain⟨q,Hq⟩:=ZX2 (ZBq p.T p.Tau ce.tat now N);have DC:=ZA (ZMH p.T p.Tau ce.tat now N W hp.1 hp.2.1 hp.2.2.1 hp.2.2.2 ht.1 ht.2 hw.1 hw.2 hN.1 hN.2);rw[Hq.o]at DC)|have TK:=ZA (ZTQ W p.perm ser r.H n r.hc ce.held 11 Hn.o eL (hP.1.2.2.2.ext xW) (.inr ⟨hF,hm,rfl⟩))
 obtain⟨H0,H1,H2,H3⟩:=ZAU K0 K1 K2 K3;first
 |obtain -:=V7;have ms:n<=64:=by have:=hF.2.1;have:=hF.2.2.1;have:=Hn.o;omega
  have Eg:m<=64:=by have:=Hm.o;omega
  have sB:p.perm<=64:=hF.2.1;have uF:0<=p.perm:=by have:=hF.1;omega
  obtain⟨HP,XW,HX,HL⟩:=ZAU hP xW hX eJ;have a2:=ZE K0 3;have b3:=ZE K1 3
 |obtain -:=V8;have ms:n<=64:=by have:=hF.2.1;have:=hF.2.2.1;have:=Hn.o;omega
  have sB:p.perm<=64:=hF.2.1;have uF:0<=p.perm:=by have:=hF.1;omega
  obtain⟨HP,XW,HX,HL⟩:=ZAU hP xW hX eJ;have a2:=ZE K0 3;have b3:=ZE K1 3
 |obtain -:=V9;obtain⟨HP,XW,HW⟩:=Z8 hP xW hW;have a1:=ZE K0 1;have a2:=ZE K0 2;have b2:=ZE K1 2
 |have ms:n<=64:=by have:=hF.2.1;have:=hF.2.2.1;have:=Hn.o;omega
  have sB:p.perm<=64:=hF.2.1;have uF:0<=p.perm:=by have:=hF.1;omega
  obtain⟨HP,XW,HX⟩:=Z8 hP xW hX;have a2:=ZE K0 3;have b3:=ZE K1 3
 rw[Hk.o,Hn.o];first|(obtain -:=V10;clear hP hF hm Xt AN xW K0 K1 K2 K3 hX eJ;have HW:=ZA hW;clear hW;go_enter func194,ntmps194)|(obtain -:=V11;clear hP hs hF hm ak Xt xW K0 K1 K2 K3 hX eJ;have HW:=ZA hW;clear hW;go_enter func251,ntmps251)|(obtain -:=V12;clear hP hp ht hw hN xW K0 K1 K2 K3 hW;go_enter func248,ntmps248)|(clear hP hF hm xW K0 K1 K2 K3 hX;have HW:=ZA hW;clear hW;go_enter func194,ntmps194)
 go_upto_region 1 with fail;(try rw[HW.o]);clear HW;go_wp2_with fail;first|(obtain -:=V13;refine TK.out.mono ?_;rintro e w1 ⟨A1,c1,rfl,o1,x1⟩)|(obtain -:=V14;refine DC.o.mono ?_;rintro e w1 ⟨rfl,x1⟩)|(refine TK.out.mono ?_;rintro e w1 ⟨A1,c1,rfl,o1,x1⟩;have O1:=ZA o1)
 have X1:=ZA x1;first|(obtain -:=V15;have I0:=ZA (ZK H0.o x1))|skip
 have I1:=ZA (ZK H1.o x1);have I2:=ZA (ZK H2.o x1);have I3:=ZA (ZK H3.o x1);first
 |obtain -:=V16;clear a2 b3 o1 x1;have a3:=ZE I0.o 3;have b0:=ZE I1.o 0;have b1:=ZE I1.o 1;have b2:=ZE I1.o 2;have b3:=ZE I1.o 3;have y3:=ZG I1.o 3;have r0:=ZE I2.o 0;have r1:=ZE I2.o 1;have r2:=ZE I2.o 2;have r3:=ZE I2.o 3;have r4:=ZE I2.o 4;have r5:=ZE I2.o 5;have z0:=ZG I2.o 0;have z1:=ZG I2.o 1;have z2:=ZG I2.o 2;have z3:=ZG I2.o 3;have z4:=ZG I2.o 4;have z5:=ZG I2.o 5;have s0:=ZE I3.o 0;have s1:=ZE I3.o 1;have s2:=ZE I3.o 2;have s3:=ZE I3.o 3;have u0:=ZG I3.o 0;have u1:=ZG I3.o 1;have u2:=ZG I3.o 2;have u3:=ZG I3.o 3;have hz:=X1.o.size;have bV:=ZX H3.o;have rF:=ZAl I1.o 3 (.cells #[.int .i64 p.perm,.slice A1 m c1] 369);have tK:=ZI b3 (.cells #[.int .i64 p.perm,.slice A1 m c1] 369);go_upto_region 5 with fail;obtain⟨V,hV⟩:=ZX3 ((w1.alloc (.cells #[.int .i64 p.perm,.slice A1 m c1] 369)).setCell ⟨w.heap.size+1,3,none⟩ (.slice A1 m c1));have gV:GB w1 V (· =w.heap.size+1):=by rw[<-hV];exact((GB.refl w1 (· =w.heap.size+1)).alloc _).set _ 3 _ (.inl rfl)
  have J0:=ZA (gV.blk I0.o ZB);have J2:=ZA (gV.blk I2.o ZB);have J3:=ZA (gV.blk I3.o ZB);have J1:=ZA (show V.heap[w.heap.size+1]?=some (.cells #[.int .i64 (ce.pol:Int),.slice r.K kl r.kc,.int .i64 ce.tat,.slice A1 m c1] 62 (0,0)) by rw[<-hV];exact ZR (ZQ I1.o _) 3 _);rw[hV];have GV:=ZA gV;clear a3 b0 b1 b2 b3 y3 r0 r1 r2 r3 r4 r5 z0 z1 z2 z3 z4 z5 s0 s1 s2 s3 u0 u1 u2 u3 hV gV rF tK;have a3:=ZE J0.o 3
 |obtain -:=V17;clear a2 b3 o1 x1;have a3:=ZE I0.o 3;have b0:=ZE I1.o 0;have b1:=ZE I1.o 1;have b2:=ZE I1.o 2;have b3:=ZE I1.o 3;have y3:=ZG I1.o 3;have r0:=ZE I2.o 0;have r1:=ZE I2.o 1;have r2:=ZE I2.o 2;have r3:=ZE I2.o 3;have r4:=ZE I2.o 4;have r5:=ZE I2.o 5;have z0:=ZG I2.o 0;have z1:=ZG I2.o 1;have z2:=ZG I2.o 2;have z3:=ZG I2.o 3;have z4:=ZG I2.o 4;have z5:=ZG I2.o 5;have s0:=ZE I3.o 0;have s1:=ZE I3.o 1;have s2:=ZE I3.o 2;have s3:=ZE I3.o 3;have u0:=ZG I3.o 0;have u1:=ZG I3.o 1;have u2:=ZG I3.o 2;have u3:=ZG I3.o 3;have hz:=X1.o.size;have bV:=ZX H3.o;have rF:=ZAl I1.o 3 (.cells #[.int .i64 p.perm,.slice A1 (n+1) c1] 369);have tK:=ZI b3 (.cells #[.int .i64 p.perm,.slice A1 (n+1) c1] 369);go_upto_region 5 with fail;obtain⟨V,hV⟩:=ZX3 ((w1.alloc (.cells #[.int .i64 p.perm,.slice A1 (n+1) c1] 369)).setCell ⟨w.heap.size+1,3,none⟩ (.slice A1 (n+1) c1));have gV:GB w1 V (· =w.heap.size+1):=by rw[<-hV];exact((GB.refl w1 (· =w.heap.size+1)).alloc _).set _ 3 _ (.inl rfl)
  have J0:=ZA (gV.blk I0.o ZB);have J2:=ZA (gV.blk I2.o ZB);have J3:=ZA (gV.blk I3.o ZB);have J1:=ZA (show V.heap[w.heap.size+1]?=some (.cells #[.int .i64 (ce.pol:Int),.slice r.K kl r.kc,.int .i64 ce.tat,.slice A1 (n+1) c1] 62 (0,0)) by rw[<-hV];exact ZR (ZQ I1.o _) 3 _);rw[hV];have GV:=ZA gV;clear a3 b0 b1 b2 b3 y3 r0 r1 r2 r3 r4 r5 z0 z1 z2 z3 z4 z5 s0 s1 s2 s3 u0 u1 u2 u3 hV gV rF tK;have a3:=ZE J0.o 3
 |obtain -:=V18;have hz:=x1.size;have bV:=ZX I3.o;clear a1 a2 b2 x1;obtain⟨U,hU,xU,A1⟩:=Za w1 (.cells #[.bool q.1,.int .i64 q.2.1,.int .i64 q.2.2.1,.int .i64 q.2.2.2] 82);have L1:=ZA (ZK I1.o xU);have L2:=ZA (ZK I2.o xU);have L3:=ZA (ZK I3.o xU);have XU:=ZA xU;have HU:=ZA hU;have b2:=ZE L1.o 2;have y2:=ZG L1.o 2;have d1:=ZE A1.o 1;clear hU xU;go_upto_region 2 with fail;(try rw[HU.o]);clear HU;obtain⟨V,hV⟩:=ZX3 (U.setCell ⟨w.heap.size+1,2,none⟩ (.int .i64 q.2.1));have gV:GB U V (· =w.heap.size+1):=by rw[<-hV];exact(GB.refl U (· =w.heap.size+1)).set _ 2 _ (.inl rfl)
  have J2:=ZA (gV.blk L2.o ZB);have J3:=ZA (gV.blk L3.o ZB);have JA:=ZA (gV.blk A1.o ZB);have J1:=ZA (show V.heap[w.heap.size+1]?=some (.cells #[.int .i64 (ce.pol:Int),.slice r.K kl r.kc,.int .i64 q.2.1,.slice r.H n r.hc] 62 (0,0)) by rw[<-hV];exact ZR L1.o 2 _);have GV:=ZA gV;have HV:=ZA hV;clear hV gV;go_upto_region 3 with fail;(try rw[HV.o]);clear b2 y2 d1 HV
 |clear a2 b3 o1 x1;have hz:=X1.o.size;have bV:=ZX H3.o;obtain⟨V,hV,xV,-⟩:=Za w1 (.cells #[.int .i64 0,.slice A1 0 c1] 369);have J1:=ZA (ZK I1.o xV);have J2:=ZA (ZK I2.o xV);have J3:=ZA (ZK I3.o xV);have XV:=ZA xV;have HV:=ZA hV;clear hV xV;go_upto_region 3 with fail;(try rw[HV.o])
 have b0:=ZE J1.o 0;have b1:=ZE J1.o 1;have b2:=ZE J1.o 2;have b3:=ZE J1.o 3;first|(obtain -:=V19;have d0:=ZE JA.o 0;have d2:=ZE JA.o 2;have d3:=ZE JA.o 3)|skip
 have r0:=ZE J2.o 0;have r1:=ZE J2.o 1;have r2:=ZE J2.o 2;have r3:=ZE J2.o 3;have r4:=ZE J2.o 4;have r5:=ZE J2.o 5;have z0:=ZG J2.o 0;have z1:=ZG J2.o 1;have z2:=ZG J2.o 2;have z3:=ZG J2.o 3;have z4:=ZG J2.o 4;have z5:=ZG J2.o 5;have s0:=ZE J3.o 0;have s1:=ZE J3.o 1;have s2:=ZE J3.o 2;have s3:=ZE J3.o 3;have u0:=ZG J3.o 0;have u1:=ZG J3.o 1;have u2:=ZG J3.o 2;have u3:=ZG J3.o 3;go_region;go_wp2_with fail;first
 |obtain -:=V20;have pi:ZM w V:=GB.to_ext (GV.o.more (S':=λi=>w.heap.size<=i) (λi _ e=>by omega)) (XW.o.trans X1.o) (λi e=>e);obtain⟨e1,e2,e3,e4⟩:=ZG0 pi (by omega:w.heap.size+1+1≠w.heap.size+1+1+1) ZB ZB J2.o J3.o (.int .i64 0) (.bool true) (.int .i64 (p.perm - (m:Int))) (.int .i64 0) (.int .i64 0) (.int .i64 0) (.int .i64 (ce.pol:Int)) (.slice r.K kl r.kc) (.int .i64 ce.tat) (.slice A1 m c1);refine Zgd (ZAA (p:=6) (q:=7) rfl _ _ (w.heap.size+1+1) (w.heap.size+1+1+1) _ _ _ _ (0,0) (0,0) _ _ rfl e1 rfl e2 underlying39 ZX0 ZC underlying62 ZX0 ZC) rfl ?_;have eJ:=HL.o;have ww:=XW.o.size;have hO:=e4.own (GV.o.own O1.o (λq e e2=>by have:=Yw O1.o q e;have:=ZX H3.o;omega)) (λq e e2=>by have:=Yw O1.o q e;have:=ZX H3.o;omega);have qd:=HP.o.ext e3;rw[HR.o];refine⟨⟨r.K,r.kc,A1,c1⟩,?_,⟨⟨qd.1.1,qd.1.2.1,?_,?_⟩,qd.2.1,ZBS hO (λi hi=>ZgB (HX.o i hi) ww)⟩,e3⟩
  ·dsimp only;rw[eJ,Hk.o];rfl
  ·show xs.length<=c1;rw[eJ];exact YR hO
  ·exact Rd.of_own hO
 |obtain -:=V21;have pi:ZM w V:=GB.to_ext (GV.o.more (S':=λi=>w.heap.size<=i) (λi _ e=>by omega)) (XW.o.trans X1.o) (λi e=>e);obtain⟨e1,e2,e3,e4⟩:=ZG0 pi (by omega:w.heap.size+1+1≠w.heap.size+1+1+1) ZB ZB J2.o J3.o (.int .i64 0) (.bool true) (.int .i64 (p.perm - ((n:Int)+1))) (.int .i64 0) (.int .i64 ser) (.int .i64 0) (.int .i64 (ce.pol:Int)) (.slice r.K kl r.kc) (.int .i64 ce.tat) (.slice A1 (n+1) c1);refine Zgd (ZAA (p:=6) (q:=7) rfl _ _ (w.heap.size+1+1) (w.heap.size+1+1+1) _ _ _ _ (0,0) (0,0) _ _ rfl e1 rfl e2 underlying39 ZX0 ZC underlying62 ZX0 ZC) rfl ?_;have eJ:=HL.o;have ww:=XW.o.size;have hO:=e4.own (GV.o.own O1.o (λq e e2=>by have:=Yw O1.o q e;have:=ZX H3.o;omega)) (λq e e2=>by have:=Yw O1.o q e;have:=ZX H3.o;omega);have qd:=HP.o.ext e3;refine⟨⟨r.K,r.kc,A1,c1⟩,?_,⟨⟨qd.1.1,qd.1.2.1,?_,?_⟩,qd.2.1,ZBS hO (λi hi=>ZgB (HX.o i hi) ww)⟩,e3⟩
  ·unfold ZAa;rw[Hxs.o,eJ,Hk.o,Hn.o];rfl
  ·show(ZCD ce.held (atI ce.held ser) ser).length<=c1;rw[Hxs.o,eJ];exact YR hO
  ·show Rd _ A1 (Zn (ZCD ce.held (atI ce.held ser) ser));rw[Hxs.o];exact Rd.of_own hO
 |obtain -:=V22;have pi:ZM w V:=GB.to_ext (GV.o.more (S':=λi=>w.heap.size<=i) (λi _ e=>by omega)) (XW.o.trans (X1.o.trans XU.o)) (λi e=>e);obtain⟨e1,e2,e3,e4⟩:=ZG0 pi (by omega:w.heap.size+1+1≠w.heap.size+1+1+1) ZB ZB J2.o J3.o (.int .i64 0) (.bool q.1) (.int .i64 q.2.2.2) (.int .i64 q.2.2.1) (.int .i64 0) (.int .i64 now) (.int .i64 (ce.pol:Int)) (.slice r.K kl r.kc) (.int .i64 q.2.1) (.slice r.H n r.hc);refine Zgd (ZAA (p:=8) (q:=9) rfl _ _ (w.heap.size+1+1) (w.heap.size+1+1+1) _ _ _ _ (0,0) (0,0) _ _ rfl e1 rfl e2 underlying39 ZX0 ZC underlying62 ZX0 ZC) rfl ?_;refine⟨r,?_,HP.o.ext e3,e3⟩;unfold Yg;rw[Hq.o,Hk.o,Hn.o];rfl
 |have pi:ZM w V:=XW.o.trans (X1.o.trans XV.o);obtain⟨e1,e2,e3,-⟩:=ZG0 pi (by omega:w.heap.size+1+1≠w.heap.size+1+1+1) ZB ZB J2.o J3.o (.int .i64 11) (.bool false) (.int .i64 0) (.int .i64 0) (.int .i64 0) (.int .i64 0) (.int .i64 (ce.pol:Int)) (.slice r.K kl r.kc) (.int .i64 ce.tat) (.slice r.H n r.hc);refine Zgd (ZAA (p:=6) (q:=7) rfl _ _ (w.heap.size+1+1) (w.heap.size+1+1+1) _ _ _ _ (0,0) (0,0) _ _ rfl e1 rfl e2 underlying39 ZX0 ZC underlying62 ZX0 ZC) rfl ?_;exact⟨r,by rw[Hk.o,Hn.o];rfl,HP.o.ext e3,e3⟩):p:=h
theorem ZMk (w X)(p:YK)(ce:ZL)(r:Z7)(ser)(hX:YE w X)(hP:Yi w X r ce)(hs:Ser ser)(hF:ZEL p.perm ce.held)(hm:ser ∉ ce.held)(ak:(ce.held.length:Int)<p.perm): Calls prog 251 #[.agg #[.int .u8 (p.kind:Int),.int .i64 p.T,.int .i64 p.Tau,.int .i64 p.perm],.agg #[.int .i64 (ce.pol:Int),.slice r.K ce.key.length r.kc,.int .i64 ce.tat,.slice r.H ce.held.length r.hc],.int .i64 ser] w (ZMw X (ZAa p ce ser).1 (ZAa p ce ser).2 w):=by
 obtain⟨V2,V5,V8,V11,V15,V17,V21⟩:=QA;exact QG
theorem ZMj (w X)(p:YK)(ce:ZL)(r:Z7)(ser)(hX:YE w X)(hP:Yi w X r ce)(hF:ZEL p.perm ce.held)(hm:ser ∈ ce.held): Calls prog 194 #[.agg #[.int .u8 (p.kind:Int),.int .i64 p.T,.int .i64 p.Tau,.int .i64 p.perm],.agg #[.int .i64 (ce.pol:Int),.slice r.K ce.key.length r.kc,.int .i64 ce.tat,.slice r.H ce.held.length r.hc],.int .i64 ser] w (ZMw X (ZBj p ce ser).1 (ZBj p ce ser).2 w):=by
 obtain⟨V1,V4,V7,V10,V15,V16,V20⟩:=QA;exact QG
theorem ZKi (w X)(p:YK)(ce:ZL)(r:Z7)(ser)(hX:YE w X)(hP:Yi w X r ce)(hF:ZEL p.perm ce.held)(hm:ser ∉ ce.held): Calls prog 194 #[.agg #[.int .u8 (p.kind:Int),.int .i64 p.T,.int .i64 p.Tau,.int .i64 p.perm],.agg #[.int .i64 (ce.pol:Int),.slice r.K ce.key.length r.kc,.int .i64 ce.tat,.slice r.H ce.held.length r.hc],.int .i64 ser] w (ZMw X (YY 11) ce w):=by
 obtain⟨V13,_⟩:=QA;exact QG
theorem ZXf{p:Addr}{b0 b1 b2 b3:Value}(h:w.cell? p=some v)(ag:p.block≠g):((((w.setCell ⟨g,0,none⟩ b0).setCell ⟨g,1,none⟩ b1).setCell ⟨g,2,none⟩ b2).setCell ⟨g,3,none⟩ b3).cell? p=some v:=by
 have h0:=Zd (g:=g) (i:=0) (u:=b0) h ag;have h1:=Zd (g:=g) (i:=1) (u:=b1) h0 ag;have h2:=Zd (g:=g) (i:=2) (u:=b2) h1 ag;exact Zd (g:=g) (i:=3) (u:=b3) h2 ag
def ZVn (W:World)(X:Zhf)(at_:Nat)(has:Bool)(ce:ZL)(vP vO vN:Value)(wd:World):Prop:=∃b t r,vP=.int .i64 at_/\vO=.bool has/\vN=.pointer (some ⟨b,0,none⟩)/\wd.heap[b]?=some (.cells #[.int .i64 (ce.pol:Int),.slice r.K ce.key.length r.kc,.int .i64 ce.tat,.slice r.H ce.held.length r.hc] t (0,0))/\W.heap.size<=b/\Yi wd X r ce/\ZM W wd
theorem ZRE(hp:Yi w2 X r ce)(hx:ZM W w2): ZVn W X at_ has ce (.int .i64 at_) (.bool has) (.pointer (some ⟨w2.heap.size,0,none⟩)) (w2.alloc (.cells #[.int .i64 (ce.pol:Int),.slice r.K ce.key.length r.kc,.int .i64 ce.tat,.slice r.H ce.held.length r.hc] t)):=⟨_,t,r,rfl,rfl,rfl,ZV w2 _,hx.size,hp.ext ((ZM.refl w2).alloc _),hx.alloc _⟩
theorem ZOH{b:Nat}(hp:Yi w2 X r ce)(hx:ZM W w2)(hb:w2.heap[b]?=some (.cells #[a0,a1,a2,a3] t (0,0)))(hW:W.heap.size<=b)(D5:∀u,GB w2 u (· =b)->Yi u X r ce): ZVn W X at_ has ce (.int .i64 at_) (.bool has) (.pointer (some ⟨b,0,none⟩)) ((((w2.setCell ⟨b,0,none⟩ (.int .i64 (ce.pol:Int))).setCell ⟨b,1,none⟩ (.slice r.K ce.key.length r.kc)).setCell ⟨b,2,none⟩ (.int .i64 ce.tat)).setCell ⟨b,3,none⟩ (.slice r.H ce.held.length r.hc)):=⟨b,t,r,rfl,rfl,rfl,ZBA hb _ _ _ _,hW,D5 _ ((GB.refl w2 (· =b)).grown (ZOC w2 b _ _ _ _) (λq e=>by injection e with e;exact .inl e.symm)),ZVF hx hW _ _ _ _⟩
theorem ZTS(hp:Yi w2 (XG X W.heap.size) r ce)(hx:ZM W w2)(hb:w2.heap[W.heap.size]?=some (.cells #[a0,a1,a2,a3] t (0,0))): ZVn W X at_ has ce (.int .i64 at_) (.bool has) (.pointer (some ⟨W.heap.size,0,none⟩)) ((((w2.setCell ⟨W.heap.size,0,none⟩ (.int .i64 (ce.pol:Int))).setCell ⟨W.heap.size,1,none⟩ (.slice r.K ce.key.length r.kc)).setCell ⟨W.heap.size,2,none⟩ (.int .i64 ce.tat)).setCell ⟨W.heap.size,3,none⟩ (.slice r.H ce.held.length r.hc)):=ZOH (hp.kp (Kp.of (S:=λ_=>False) (GB.refl w2 _) (λ_ _ e=>e.elim) (λ_ _ e=>.inl e))) hx hb (Zf6 _) (λu gb=>hp.kp (Kp.of gb (λ_ _ e=>.inr e) (λ_ _ e=>.inl e)))
theorem ZYA {p : Prop} (h : p := by with_reducible first | assumption | (refine ZJ ?_; assumption) | (refine ZI ?_ _; assumption) | (refine ZJ (ZI ?_ _); assumption) | (refine ZXf ?_ ?_ <;> assumption) | (refine ZJ (ZXf ?_ ?_) <;> assumption)) : p := h
theorem QI {p:Prop}(h:p:=by
 have bU:=Jt;subst hn;obtain⟨W,hW⟩:=ZX3 (((((((((w.alloc (.cells #[ZH d.xb] 203)).alloc (.cells #[.int .u8 (d.pol.kind:Int),.int .i64 d.pol.T,.int .i64 d.pol.Tau,.int .i64 d.pol.perm] 80)).alloc (.cells #[.int .i64 (f.word:Int),.int .u64 (f.v:Int),.slice A f.cells.length c] 319)).alloc (.cells #[.int .i64 (f.at_:Int)] 3)).alloc (.cells #[.bool f.there] 4)).alloc (.cells #[.int .i64 (ce.pol:Int),.slice r.K ce.key.length r.kc,.int .i64 ce.tat,.slice r.H ce.held.length r.hc] 62)).alloc ZYE).alloc (.cells #[YD 250 #[ZH (w.heap.size+1),ZH (w.heap.size+1+1+1+1+1),ZH w.heap.size,ZH (w.heap.size+1+1),ZH (w.heap.size+1+1+1),ZH (w.heap.size+1+1+1+1)]] 207)));have xW:ZM w W:=by rw[<-hW];exact(((((((((ZM.refl w).alloc _).alloc _).alloc _).alloc _).alloc _).alloc _).alloc _).alloc _)
 first
 |obtain -:=V1;have rr:∀(i:Nat) (cs:Array Value),Zh W X (ZH i) cs->i≠w.heap.size+1+1+1+1+1+1->Zh W (XG X (w.heap.size+1+1+1+1+1+1)) (ZH i) cs:=λi cs h hi=>by
   exact ZYk
 |have ER:∀k,w.heap.size<=k->k≠w.heap.size+1+1+1+1+1+1->¬XG X (w.heap.size+1+1+1+1+1+1) k:=λk h1 h2 e=>e.elim (hX.not h1) h2;have rr:∀(i:Nat) (cs:Array Value),Zh W X (ZH i) cs->i≠w.heap.size+1+1+1+1+1+1->Zh W (XG X (w.heap.size+1+1+1+1+1+1)) (ZH i) cs:=λi cs h hi=>by
   exact ZYk
 have r0:=rr w.heap.size #[ZH d.xb] (by rw[<-hW];exact((((((((Zh.new rfl (hX.not ZB)).past _).past _).past _).past _).past _).past _).past _)) ZB;have r1:=rr (w.heap.size+1) (ZC5 d.pol) (by rw[<-hW];exact(((((((Zh.new ZXz (hX.not ZB)).past _).past _).past _).past _).past _).past _)) ZB;have r2:=rr (w.heap.size+1+1) #[.int .i64 (f.word:Int),.int .u64 (f.v:Int),.slice A f.cells.length c] (by rw[<-hW];exact((((((Zh.new ZXz (hX.not ZB)).past _).past _).past _).past _).past _)) ZB;have r3:=rr (w.heap.size+1+1+1) #[.int .i64 (f.at_:Int)] (by rw[<-hW];exact(((((Zh.new ZXz (hX.not ZB)).past _).past _).past _).past _)) ZB;have r4:=rr (w.heap.size+1+1+1+1) #[.bool f.there] (by rw[<-hW];exact((((Zh.new ZXz (hX.not ZB)).past _).past _).past _)) ZB;have r5:=rr (w.heap.size+1+1+1+1+1) (Yh r ce).toArray (by rw[<-hW];exact(((Zh.new ZXz (hX.not ZB)).past _).past _)) ZB;have r7:=rr (w.heap.size+1+1+1+1+1+1+1) #[YD 250 #[ZH (w.heap.size+1),ZH (w.heap.size+1+1+1+1+1),ZH w.heap.size,ZH (w.heap.size+1+1),ZH (w.heap.size+1+1+1),ZH (w.heap.size+1+1+1+1)]] (by rw[<-hW];exact(Zh.new ZXz (hX.not ZB))) ZB;have kp:=kpg (X:=X) xW (by omega:w.heap.size<=w.heap.size+1+1+1+1+1+1);have K6:=ZA (show W.heap[w.heap.size+1+1+1+1+1+1]?=some ZYE by rw[<-hW];exact ZQ (Zi _ _ ZXz) _);have AQ:ZGe W (XG X (w.heap.size+1+1+1+1+1+1)) d (YD 250 #[ZH (w.heap.size+1),ZH (w.heap.size+1+1+1+1+1),ZH w.heap.size,ZH (w.heap.size+1+1),ZH (w.heap.size+1+1+1),ZH (w.heap.size+1+1+1+1)]) f ce:=⟨_,_,_,_,_,_,rfl,r1,⟨r,r5,hP.kp kp⟩,r0,⟨A,c,rs,r2,hf.kp kp⟩,r3,r4⟩;first|(obtain -:=V2;have MV:=ZA (ZMg W (XG X (w.heap.size+1+1+1+1+1+1)) d _ _ _ _ _ _ f ce ser (hX.xg xW (ZX K6.o)) AQ (ZF xW h8) hs hF hm ag res gx room (ZF xW h4) (ZF xW h7) (ZF xW hr)))|have MV:=ZA (ZPO W (XG X (w.heap.size+1+1+1+1+1+1)) d 33 1 4611686018427387903 33 1 4611686018427387903 (YD 252 #[ZH w.heap.size]) (YD 253 #[ZH w.heap.size,ZH (w.heap.size+1+1+1+1+1+1+1)]) (.serial f ce) rfl rfl rfl (hX.xg xW (ZX K6.o)) ⟨_,_,_,_,rfl,r0,rfl,r0,r7,AQ⟩)
 have y8:=ZF xW h8;have e0:=r0.ZX6 0 (ZH d.xb);first|(obtain -:=V3;have e7:=r7.cell 0;have js:0<ser:=by have:=hs.1;omega)|skip
 have XW:=ZA xW;obtain⟨hl,Hhl⟩:=ZX2 (ce.held.length);have HW:=ZA hW;first
 |obtain -:=V4;have gk:¬(ce.held.length:Int)=d.pol.perm:=by omega
  rw[Hhl.o]at gk
 |rw[Hhl.o]at ag
 rw[Hhl.o]at HW;rw[Hhl.o];first|(obtain -:=V5;clear hf hP hX rr r0 r1 r2 r3 r4 r5 r7 kp AQ xW hW ag hF hm hs h4 h7 hr h8)|clear hf hP hX rr ER r0 r1 r2 r3 r4 r5 r7 kp AQ xW hW
 go_enter func193,ntmps193;go_upto_region 4 with fail;(try rw[HW.o]);clear HW;go_wp2_with fail;refine MV.o.mono ?_;rintro e w1 ⟨v,rfl,hk,hx⟩;have ON:=ZA (ZAI hk);have X1:=ZA (XW.o.trans hx);have K2:=ZA (ZK K6.o hx);clear hk hx;go_wp2_with fail;refine ON.o.mono ?_;rintro e w2 ⟨nv,done,r',rfl,ho,hx⟩;have HO:=ZA ho;have HX:=ZA hx;have K3:=ZA (ZK K2.o hx);obtain⟨s0,z0,s1,z1,s2,z2,s3,z3,s4,z4,s5,z5,s6,z6⟩:=ZYD K3.o;clear ho hx;go_wp2_with fail;refine Zgd (ZP (p:=13) (u:=12) rfl _ _ (w.heap.size+1+1+1+1+1+1) _ #[.bool done,.int .i64 (r'.er:Int),.bool r'.granted,.int .i64 r'.left,.int .i64 r'.wait,.int .i64 r'.ser,.int .i64 r'.now] (0,0) _ rfl (Yv K3.o _ _ _ _ _ _ _) underlying41 ZX0 ZC) rfl ?_;exact Yz HO.o (X1.o.trans HX.o) ZB _ _ _ _ _ _ _):p:=h
theorem ZII (w:World)(X)(d:Jv)(f:Yb)(n c A rs)(ce:ZL)(r:Z7)(hX:YE w X)(hn:f.cells.length=n)(hf:Zw w X A f.cells rs)(hP:Yi w X r ce)(ag:(ce.held.length:Int)≠d.pol.perm)(h8:w.cell? ⟨d.xb,8,none⟩=some (.int .i64 0)): Calls prog 193 #[ZH d.xb,.agg #[.int .u8 (d.pol.kind:Int),.int .i64 d.pol.T,.int .i64 d.pol.Tau,.int .i64 d.pol.perm],.agg #[.int .i64 (f.word:Int),.int .u64 (f.v:Int),.slice A n c],.int .i64 (f.at_:Int),.bool f.there,.agg #[.int .i64 (ce.pol:Int),.slice r.K ce.key.length r.kc,.int .i64 ce.tat,.slice r.H ce.held.length r.hc]] w (ZAi X d (.on (.mv 33 1 4611686018427387903 (.serial f ce))) w):=QI
theorem ZYF {p:Prop}(h:p:=by
 have gb:=ZPK (GB.refl u (· =k)) (g:=k) (.inl rfl) b0 b1 b2 b3;first|(obtain -:=V1;refine⟨_,rfl,h.wr gb (.inr (.inr rfl)) (h.b9 k rfl).1 (λk' e=>gb.blk (h.b8 k' e).2 (λq=>h.ne k' k e rfl q)) (λk' e=>?_)⟩)|refine h.wr gb (.inr (.inr rfl)) (h.b9 k rfl).1 (λk' e=>gb.blk (h.b8 k' e).2 (λq=>h.ne k' k e rfl q)) (λk' e=>?_)
 obtain rfl:=Option.some.inj e;have hb:u.heap[k]?=some (.cells #[.int .i64 0,.slice none 0 0,.int .i64 0,.slice none 0 0] 62 (0,0)):=(h.b9 k rfl).2;exact ZTx hb b0 b1 b2 b3):p:=h
theorem Q7 {p:Prop}(h:p:=by
 have gb:=ZTR (GB.refl u (· =k)) (g:=k) (.inl rfl) b0 b1 b2 b3 b4 b5;first|(obtain -:=V1;refine⟨_,rfl,h.wr gb (.inr (.inl rfl)) (h.b8 k rfl).1 (λk' e=>?_) (λk' e=>gb.blk (h.b9 k' e).2 (λq=>h.ne k k' rfl e q.symm))⟩)|refine h.wr gb (.inr (.inl rfl)) (h.b8 k rfl).1 (λk' e=>?_) (λk' e=>gb.blk (h.b9 k' e).2 (λq=>h.ne k k' rfl e q.symm))
 obtain rfl:=Option.some.inj e;have hb:u.heap[k]?=some (.cells #[.int .i64 0,.bool false,.int .i64 0,.int .i64 0,.int .i64 0,.int .i64 0] 39 (0,0)):=(h.b8 k rfl).2;exact ZTw hb b0 b1 b2 b3 b4 b5):p:=h
section
theorem ZTR{S:Zhf}(h:GB w a S)(hg:S g\/w.heap.size<=g)(b0 b1 b2 b3 b4 b5):GB w ((((((a.setCell ⟨g,0,none⟩ b0).setCell ⟨g,1,none⟩ b1).setCell ⟨g,2,none⟩ b2).setCell ⟨g,3,none⟩ b3).setCell ⟨g,4,none⟩ b4).setCell ⟨g,5,none⟩ b5) S:=h.grown (ZTO a g b0 b1 b2 b3 b4 b5) (λq e=>by injection e with e;subst e;exact hg)
theorem ZPK{S:Zhf}(h:GB w a S)(hg:S g\/w.heap.size<=g)(b0 b1 b2 b3):GB w ((((a.setCell ⟨g,0,none⟩ b0).setCell ⟨g,1,none⟩ b1).setCell ⟨g,2,none⟩ b2).setCell ⟨g,3,none⟩ b3) S:=h.grown (ZOC a g b0 b1 b2 b3) (λq e=>by injection e with e;subst e;exact hg)
def ZOp (W:World)(X:Zhf)(rep:Zt)(ce:ZL)(v7 v8:Value)(wd:World):Prop:=∃b7 b8 r,v7=.pointer (some ⟨b7,0,none⟩)/\v8=.pointer (some ⟨b8,0,none⟩)/\wd.heap[b7]?=some (.cells #[.int .i64 (rep.er:Int),.bool rep.granted,.int .i64 rep.left,.int .i64 rep.wait,.int .i64 rep.ser,.int .i64 rep.now] 39 (0,0))/\wd.heap[b8]?=some (.cells #[.int .i64 (ce.pol:Int),.slice r.K ce.key.length r.kc,.int .i64 ce.tat,.slice r.H ce.held.length r.hc] 62 (0,0))/\W.heap.size<=b7/\W.heap.size<=b8/\Yi wd X r ce/\ZM W wd
abbrev ZA3:Obj:=.cells #[.int .i64 0,.bool false,.int .i64 0,.int .i64 0,.int .i64 0,.int .i64 0] 39 (0,0)
abbrev ZA4:Obj:=.cells #[.int .i64 0,.slice none 0 0,.int .i64 0,.slice none 0 0] 62 (0,0)
abbrev XN (X:Zhf)(W v:World):Nat->Prop:=λi=>X i\/(W.heap.size<=i/\i<v.heap.size)
abbrev XI (X:Zhf)(W:World):Nat->Prop:=λi=>X i\/W.heap.size<=i
def OX (OO:Zhf)(p8 p9:Option Nat):Nat->Prop:=λi=>OO i\/p8=some i\/p9=some i
structure AJ0 (W u:World)(p8 p9:Option Nat):Prop where
 x:ZM W u
 b8:∀k,p8=some k->W.heap.size<=k/\u.heap[k]?=some ZA3
 b9:∀k,p9=some k->W.heap.size<=k/\u.heap[k]?=some ZA4
 ne:∀k k',p8=some k->p9=some k'->k≠k'
theorem AJ0.start(x:ZM W u):AJ0 W u none none:=⟨x,λ_ e=>(by cases e),λ_ e=>(by cases e),λ_ _ e=>(by cases e)⟩
theorem AJ0.a8(h:AJ0 W u none p9):AJ0 W (u.alloc ZA3) (some u.heap.size) p9:=⟨h.x.alloc _,λk e=>by injection e with e;subst e;exact⟨h.x.size,ZV u _⟩,λk e=>⟨(h.b9 k e).1,ZQ (h.b9 k e).2 _⟩,λk k' e e'=>by injection e with e;subst e;have:=ZX (h.b9 _ e').2;omega⟩
theorem AJ0.a9(h:AJ0 W u p8 none):AJ0 W (u.alloc ZA4) p8 (some u.heap.size):=⟨h.x.alloc _,λk e=>⟨(h.b8 k e).1,ZQ (h.b8 k e).2 _⟩,λk e=>by injection e with e;subst e;exact⟨h.x.size,ZV u _⟩,λk k' e e'=>by injection e' with e';subst e';have:=ZX (h.b8 _ e).2;omega⟩
theorem AJ0.a8'(h:AJ0 W u none p9):∃k v,u.heap.size=k/\u.alloc ZA3=v/\AJ0 W v (some k) p9:=⟨_,_,rfl,rfl,h.a8⟩
theorem AJ0.a9'(h:AJ0 W u p8 none):∃k v,u.heap.size=k/\u.alloc ZA4=v/\AJ0 W v p8 (some k):=⟨_,_,rfl,rfl,h.a9⟩
theorem ZTw{z4 z5:Value}(h:u.heap[k]?=some (.cells #[z0,z1,z2,z3,z4,z5] t (0,0)))(b0 b1 b2 b3 b4 b5):((((((u.setCell ⟨k,0,none⟩ b0).setCell ⟨k,1,none⟩ b1).setCell ⟨k,2,none⟩ b2).setCell ⟨k,3,none⟩ b3).setCell ⟨k,4,none⟩ b4).setCell ⟨k,5,none⟩ b5).heap[k]?=some (.cells #[b0,b1,b2,b3,b4,b5] t (0,0)):=by
 have h0:(u.setCell ⟨k,0,none⟩ b0).heap[k]?=some (.cells #[b0,z1,z2,z3,z4,z5] t (0,0)):=ZR h 0 b0;have h1:=ZR h0 1 b1;have h2:=ZR h1 2 b2;have h3:=ZR h2 3 b3;have h4:=ZR h3 4 b4;exact ZR h4 5 b5
theorem ZTx(h:u.heap[k]?=some (.cells #[z0,z1,z2,z3] t (0,0)))(b0 b1 b2 b3):((((u.setCell ⟨k,0,none⟩ b0).setCell ⟨k,1,none⟩ b1).setCell ⟨k,2,none⟩ b2).setCell ⟨k,3,none⟩ b3).heap[k]?=some (.cells #[b0,b1,b2,b3] t (0,0)):=by
 have h0:(u.setCell ⟨k,0,none⟩ b0).heap[k]?=some (.cells #[b0,z1,z2,z3] t (0,0)):=ZR h 0 b0;have h1:=ZR h0 1 b1;have h2:=ZR h1 2 b2;exact ZR h2 3 b3
structure BJ (W u:World)(X:Zhf)(r:Z7)(ce:ZL)(o8 o9:Obj)(p8 p9:Option Nat):Prop where
 x:ZM W u
 pt:Yi u (OX X p8 p9) r ce
 b8:∀k,p8=some k->W.heap.size<=k/\u.heap[k]?=some o8
 b9:∀k,p9=some k->W.heap.size<=k/\u.heap[k]?=some o9
 ne:∀k k',p8=some k->p9=some k'->k≠k'
section
variable {W u:World} {X:Zhf} {r:Z7} {ce:ZL} {o8 o9:Obj} {p8 p9:Option Nat}
theorem AJ0.kp (h:AJ0 W u p8 p9):Kp W u X (OX X p8 p9):=Kp.of (S:=λ_=>False) (GB.of_ext _ h.x) (λ_ _ e=>e.elim) (λi hi e=>e.elim id (λe=>e.elim (λe=>by have:=(h.b8 i e).1;omega) (λe=>by have:=(h.b9 i e).1;omega)))
theorem AJ0.nw (h:AJ0 W u p8 p9)(hX:YE W X):YE u (OX X p8 p9):=λi hi=>hi.elim (λe=>ZgB (hX i e) h.x.size) (λe=>e.elim (λe=>ZX (h.b8 i e).2) (λe=>ZX (h.b9 i e).2))
theorem AJ0.act(h:AJ0 W u p8 p9)(hx:ZM u w2)(hp:Yi w2 (OX X p8 p9) r ce):BJ W w2 X r ce ZA3 ZA4 p8 p9:=⟨h.x.trans hx,hp,λk e=>⟨(h.b8 k e).1,ZK (h.b8 k e).2 hx⟩,λk e=>⟨(h.b9 k e).1,ZK (h.b9 k e).2 hx⟩,h.ne⟩
theorem BJ.a8' (h:BJ W u X r ce ZA3 o9 none p9):∃k v,u.heap.size=k/\u.alloc ZA3=v/\BJ W v X r ce ZA3 o9 (some k) p9:=by
 have x:ZM u (u.alloc ZA3):=(ZM.refl u).alloc _;refine⟨_,_,rfl,rfl,h.x.alloc _,h.pt.kp (Kp.of (GB.of_ext (λ_=>False) x) (λ_ _ e=>e.elim) (λi hi e=>e.elim .inl (λe=>e.elim (λe=>by injection e with e;omega) (λe=>.inr (.inr e))))),λk e=>?_,λk e=>⟨(h.b9 k e).1,ZQ (h.b9 k e).2 _⟩,λk k' e e'=>?_⟩
 ·injection e with e;subst e;exact⟨h.x.size,ZV u _⟩
 ·injection e with e;subst e;have:=ZX (h.b9 _ e').2;omega
theorem BJ.a9' (h:BJ W u X r ce o8 ZA4 p8 none):∃k v,u.heap.size=k/\u.alloc ZA4=v/\BJ W v X r ce o8 ZA4 p8 (some k):=by
 have x:ZM u (u.alloc ZA4):=(ZM.refl u).alloc _;refine⟨_,_,rfl,rfl,h.x.alloc _,h.pt.kp (Kp.of (GB.of_ext (λ_=>False) x) (λ_ _ e=>e.elim) (λi hi e=>e.elim .inl (λe=>e.elim (λe=>.inr (.inl e)) (λe=>by injection e with e;omega)))),λk e=>⟨(h.b8 k e).1,ZQ (h.b8 k e).2 _⟩,λk e=>?_,λk k' e e'=>?_⟩
 ·injection e with e;subst e;exact⟨h.x.size,ZV u _⟩
 ·injection e' with e';subst e';have:=ZX (h.b8 _ e).2;omega
theorem BJ.k8(h:BJ W u X r ce o8 o9 (some k) p9):u.heap[k]?=some o8:=(h.b8 k rfl).2
theorem BJ.k9(h:BJ W u X r ce o8 o9 p8 (some k)):u.heap[k]?=some o9:=(h.b9 k rfl).2
theorem BJ.wr {u':World}{rP rO:Obj}(h:BJ W u X r ce o8 o9 p8 p9)(gb:GB u u' (· =k))(hO:OX X p8 p9 k)(hk:W.heap.size<=k)(h8:∀k,p8=some k->u'.heap[k]?=some rP)(h9:∀k,p9=some k->u'.heap[k]?=some rO):BJ W u' X r ce rP rO p8 p9:=⟨gb.to_ext h.x (λi e=>by rw[e];exact hk),h.pt.kp (Kp.of gb (λi _ e=>by rw[e];exact hO) (λi _ e=>e)),λk e=>⟨(h.b8 k e).1,h8 k e⟩,λk e=>⟨(h.b9 k e).1,h9 k e⟩,h.ne⟩
theorem BJ.s8'(h:BJ W u X r ce ZA3 o9 (some k) p9)(b0 b1 b2 b3 b4 b5):∃v,((((((u.setCell ⟨k,0,none⟩ b0).setCell ⟨k,1,none⟩ b1).setCell ⟨k,2,none⟩ b2).setCell ⟨k,3,none⟩ b3).setCell ⟨k,4,none⟩ b4).setCell ⟨k,5,none⟩ b5)=v/\BJ W v X r ce (.cells #[b0,b1,b2,b3,b4,b5] 39 (0,0)) o9 (some k) p9:=by
 obtain⟨V1,_⟩:=QA;exact Q7
theorem BJ.s9'(h:BJ W u X r ce o8 ZA4 p8 (some k))(b0 b1 b2 b3):∃v,((((u.setCell ⟨k,0,none⟩ b0).setCell ⟨k,1,none⟩ b1).setCell ⟨k,2,none⟩ b2).setCell ⟨k,3,none⟩ b3)=v/\BJ W v X r ce o8 (.cells #[b0,b1,b2,b3] 62 (0,0)) p8 (some k):=by
 obtain⟨V1,_⟩:=QA;exact ZYF
theorem BJ.two {rep:Zt}{k':Nat}(h:BJ W u X r ce (.cells #[.int .i64 (rep.er:Int),.bool rep.granted,.int .i64 rep.left,.int .i64 rep.wait,.int .i64 rep.ser,.int .i64 rep.now] 39 (0,0)) (.cells #[.int .i64 (ce.pol:Int),.slice r.K ce.key.length r.kc,.int .i64 ce.tat,.slice r.H ce.held.length r.hc] 62 (0,0)) (some k) (some k')):ZOp W X rep ce (.pointer (some ⟨k,0,none⟩)) (.pointer (some ⟨k',0,none⟩)) u:=⟨_,_,r,rfl,rfl,(h.b8 k rfl).2,(h.b9 k' rfl).2,(h.b8 k rfl).1,(h.b9 k' rfl).1,h.pt.kp (Kp.of (GB.refl u (λ_=>False)) (λ_ _ e=>e.elim) (λi _ e=>.inl e)),h.x⟩
end
end
theorem ZYc {p:Prop}(h:p:=by
 first|(obtain -:=T1;refine JK (λu=>u.cell? ⟨q1,0,none⟩=some (.int .u8 (p.kind:Int))/\u.cell? ⟨q1,1,none⟩=some (.int .i64 p.T)/\u.cell? ⟨q1,2,none⟩=some (.int .i64 p.Tau)/\u.cell? ⟨q1,3,none⟩=some (.int .i64 p.perm)/\u.cell? ⟨b,0,none⟩=some (.int .i64 (ce.pol:Int))/\u.cell? ⟨b,1,none⟩=some (.slice r.K ce.key.length r.kc)/\u.cell? ⟨b,2,none⟩=some (.int .i64 ce.tat)/\u.cell? ⟨b,3,none⟩=some (.slice r.H ce.held.length r.hc)/\u.cell? ⟨q0,0,none⟩=some (ZH xb)/\u.cell? ⟨xb,3,none⟩=some (.int .i64 x.n)) [7] ZC ?_;have J:=ZA (AJ0.start (show ZM wc wc.drew from(ZM.refl wc).drew));have ae:=HS.o _ J.o.x;generalize wc.drew=u0 at ae J ⊢)|(obtain -:=T2;refine JK (λu=>SBX b0 b1 b2 xw p ce kl hl r x.n u) [9] ZC ?_;generalize W.drew=u0 at ae J ⊢)|(refine JK (λu=>u.cell? ⟨q0,0,none⟩=some (.int .u8 (d.pol.kind:Int))/\u.cell? ⟨q0,1,none⟩=some (.int .i64 d.pol.T)/\u.cell? ⟨q0,2,none⟩=some (.int .i64 d.pol.Tau)/\u.cell? ⟨q0,3,none⟩=some (.int .i64 d.pol.perm)/\u.cell? ⟨q1,0,none⟩=some (.int .i64 (ce.pol:Int))/\u.cell? ⟨q1,1,none⟩=some (.slice r.K ce.key.length r.kc)/\u.cell? ⟨q1,2,none⟩=some (.int .i64 ce.tat)/\u.cell? ⟨q1,3,none⟩=some (.slice r.H ce.held.length r.hc)/\u.cell? ⟨q2,0,none⟩=some (ZH d.xb)/\u.cell? ⟨d.xb,8,none⟩=some (.int .i64 ser)) [6] ZC ?_;have J:=ZA (AJ0.start (show ZM W W.drew from(ZM.refl W).drew));have ae:=HS.o _ J.o.x;generalize W.drew=u0 at ae J ⊢)
 refine ZX5 (i:=0) (v:=?_) rfl (Or.inl ⟨by rfl,?_⟩) (by assumption) ?_;rotate_left
 ·intro w' aL;first|(obtain -:=T3;obtain⟨p0,p1,p2,p3,c0,c1,c2,c3,g0,x3⟩:=aL)|(obtain -:=T4;obtain⟨e0,e1,e2,e3,d0,d1,d2,d3,f0,y3⟩:=aL)|obtain⟨e0,e1,e2,e3,f0,f1,f2,f3,g0,h8⟩:=aL
  go_simp;(try with_reducible rfl)
 (try simp only[Act.put]);refine ZX5 (i:=1) (v:=?_) rfl (Or.inl ⟨by rfl,?_⟩) (by assumption) ?_;rotate_left
 ·intro w' aL;first|(obtain -:=T5;obtain⟨p0,p1,p2,p3,c0,c1,c2,c3,g0,x3⟩:=aL)|(obtain -:=T6;obtain⟨e0,e1,e2,e3,d0,d1,d2,d3,f0,y3⟩:=aL)|obtain⟨e0,e1,e2,e3,f0,f1,f2,f3,g0,h8⟩:=aL
  go_simp;(try with_reducible rfl)
 (try simp only[Act.put]);refine ZX5 (i:=2) (v:=?_) rfl (Or.inl ⟨by rfl,?_⟩) (by assumption) ?_;rotate_left
 ·intro w' aL;first|(obtain -:=T7;obtain⟨p0,p1,p2,p3,c0,c1,c2,c3,g0,x3⟩:=aL)|(obtain -:=T8;obtain⟨e0,e1,e2,e3,d0,d1,d2,d3,f0,y3⟩:=aL)|obtain⟨e0,e1,e2,e3,f0,f1,f2,f3,g0,h8⟩:=aL
  go_simp;(try with_reducible rfl)
 (try simp only[Act.put]);first
 |obtain -:=T9;refine ZX5 (i:=4) (v:=?_) rfl (Or.inl ⟨by rfl,?_⟩) (by assumption) ?_;rotate_left
  ·intro w' aL;obtain⟨e0,e1,e2,e3,d0,d1,d2,d3,f0,y3⟩:=aL;go_simp;(try with_reducible rfl)
  (try simp only[Act.put]);refine ZX4 (i:=5) (v:=?_) rfl (Or.inl ⟨by rfl,?_⟩) (YI.of ae) ?_
 |refine ZX4 (i:=3) (v:=?_) rfl (Or.inl ⟨by rfl,?_⟩) (YI.of ae) ?_
 rotate_left
 ·intro w' _;go_simp;(try with_reducible rfl)
 (try simp only[Act.put]);first|(obtain -:=T10;refine ZX4 (i:=6) (v:=?_) rfl (Or.inl ⟨by rfl,?_⟩) (YI.of ae) ?_)|refine ZX4 (i:=4) (v:=?_) rfl (Or.inl ⟨by rfl,?_⟩) (YI.of ae) ?_
 rotate_left
 ·intro w' _;go_simp;(try with_reducible rfl)
 (try simp only[Act.put]);first|(obtain -:=T11;refine ZX4 (i:=5) (v:=?_) rfl (Or.inl ⟨by rfl,?_⟩) (YI.of ae) ?_)|(obtain -:=T12;refine ZX4 (i:=7) (v:=?_) rfl (Or.inl ⟨by rfl,?_⟩) (YI.of ae) ?_)|refine ZX5 (i:=5) (v:=?_) rfl (Or.inl ⟨by rfl,?_⟩) (by assumption) ?_
 rotate_left;first
 |obtain -:=T13
  ·intro w' _;go_simp;(try with_reducible rfl)
  (try simp only[Act.put]);refine ZX5 (i:=6) (v:=?_) rfl (Or.inl ⟨by rfl,?_⟩) (by assumption) ?_;rotate_left
  ·intro w' aL;obtain⟨p0,p1,p2,p3,c0,c1,c2,c3,g0,x3⟩:=aL;go_simp;(try with_reducible rfl)
 |obtain -:=T14
  ·intro w' _;go_simp;(try with_reducible rfl)
 |·intro w' aL;obtain⟨e0,e1,e2,e3,f0,f1,f2,f3,g0,h8⟩:=aL;go_simp;(try with_reducible rfl)
 (try simp only[Act.put]);first
 |obtain -:=T15;clear ae;iterate 3
   all_goals
    first
     |(have:=(J.o:AJ0 _ _ none none);clear this;refine ZY (rs:=[7,11,12]) ZC ZXz (ZN.last (o:=_) ZC rfl (λK' hK=>?_) (ZN.cons (o:=_) rfl (λK' hK=>?_) (ZN.cons (o:=_) rfl (λK' hK=>?_) ZN.nil))))
     |(have:=(J.o:AJ0 _ _ none (some _));clear this;refine ZY (rs:=[7,11]) ZC ZXz (ZN.last (o:=_) ZC rfl (λK' hK=>?_) (ZN.cons (o:=_) rfl (λK' hK=>?_) ZN.nil)))
     |(have:=(J.o:AJ0 _ _ (some _) none);clear this;refine ZY (rs:=[7,12]) ZC ZXz (ZN.last (o:=_) ZC rfl (λK' hK=>?_) (ZN.cons (o:=_) rfl (λK' hK=>?_) ZN.nil)))
     |(have:=(J.o:AJ0 _ _ (some _) (some _));clear this;refine ZY (rs:=[7]) ZC ZXz (ZN.last (o:=_) ZC rfl (λK' hK=>?_) ZN.nil))
     |(have:=(J.o:BJ _ _ _ _ _ _ _ none none);clear this;refine ZY (rs:=[11,12]) ZC ZXz (ZN.last (o:=_) ZC rfl (λK' hK=>?_) (ZN.last (o:=_) ZC rfl (λK' hK=>?_) ZN.nil)))
     |(have:=(J.o:BJ _ _ _ _ _ _ _ none (some _));clear this;refine ZY (rs:=[11]) ZC ZXz (ZN.last (o:=_) ZC rfl (λK' hK=>?_) ZN.nil))
     |(have:=(J.o:BJ _ _ _ _ _ _ _ (some _) none);clear this;refine ZY (rs:=[12]) ZC ZXz (ZN.last (o:=_) ZC rfl (λK' hK=>?_) ZN.nil))
    all_goals
     go_simp
     first
      |((with_reducible refine(AQ.o _ J.o.x _ J.o.kp (J.o.nw rB.o)).mono ?_);rintro e u ⟨r',rfl,eK,hx⟩;have J:=ZA (J.o.act hx eK);clear eK hx;refine hK.out _ _ ?_;clear hK K';(try simp only[Act.put]);refine ZX4 (i:=8) (v:=?_) rfl (Or.inl ⟨by rfl,?_⟩) (YI.past ZC) ?_;rotate_left;(focus (intro w' _;go_simp;(try with_reducible rfl)));(try simp only[Act.put]);refine ZX4 (i:=9) (v:=?_) rfl (Or.inl ⟨by rfl,?_⟩) (YI.past ZC) ?_;rotate_left;(focus (intro w' _;go_simp;(try with_reducible rfl)));(try simp only[Act.put]);refine ZX4 (i:=10) (v:=?_) rfl (Or.inl ⟨by rfl,?_⟩) (YI.past ZC) ?_;rotate_left;(focus (intro w' _;go_simp;(try with_reducible rfl)));(try simp only[Act.put]))
      |(refine hK.out _ _ (HS.o _ (J.o.x.alloc ZA3)) ?_;clear hK K';(try simp only[Act.put]);obtain⟨k8,v,hq,hv,J⟩:=J.o.a8';rw[hv,hq];have J:=ZA J;clear hv hq)
      |(refine hK.out _ _ ?_;clear hK K';(try simp only[Act.put]);obtain⟨k8,v,hq,hv,J⟩:=J.o.a8';rw[hv,hq];have J:=ZA J;clear hv hq)
      |(refine hK.out _ _ (HS.o _ (J.o.x.alloc ZA4)) ?_;clear hK K';(try simp only[Act.put]);obtain⟨k9,v,hq,hv,J⟩:=J.o.a9';rw[hv,hq];have J:=ZA J;clear hv hq)
      |(refine hK.out _ _ ?_;clear hK K';(try simp only[Act.put]);obtain⟨k9,v,hq,hv,J⟩:=J.o.a9';rw[hv,hq];have J:=ZA J;clear hv hq)
  all_goals
   refine ZY (rs:=[13]) ZC ZXz (ZN.last (o:=_) ZC rfl (λK' hK=>?_) ZN.nil);have hb:=J.o.k8;obtain⟨s0,z0,s1,z1,s2,z2,s3,z3,s4,z4,s5,z5⟩:=ZYC hb;clear hb
   go_simp
   refine hK.out _ _ ?_;clear hK K' s0 z0 s1 z1 s2 z2 s3 z3 s4 z4 s5 z5
   (try simp only[Act.put])
   obtain⟨v,hv,J⟩:=J.o.s8' (.int .i64 (rep.er:Int)) (.bool rep.granted) (.int .i64 rep.left) (.int .i64 rep.wait) (.int .i64 rep.ser) (.int .i64 rep.now);rw[hv];have J:=ZA J;clear hv;refine ZY (rs:=[14]) ZC ZXz (ZN.last (o:=_) ZC rfl (λK' hK=>?_) ZN.nil);have hb:=J.o.k9;obtain⟨s0,z0,s1,z1,s2,z2,s3,z3⟩:=ZYB hb;clear hb
   go_simp
   refine hK.out _ _ ?_;clear hK K' s0 z0 s1 z1 s2 z2 s3 z3
   (try simp only[Act.put])
   obtain⟨v,hv,J⟩:=J.o.s9' (.int .i64 (cP.pol:Int)) (.slice r'.K cP.key.length r'.kc) (.int .i64 cP.tat) (.slice r'.H cP.held.length r'.hc);rw[hv];have J:=ZA J;clear hv;refine JL ZC ?_ _;go_wp2_with fail
   go_meet
   exact J.o.two
 |obtain -:=T16;refine ZX5 (i:=8) (v:=?_) rfl (Or.inl ⟨by rfl,?_⟩) (by assumption) ?_;rotate_left
  ·intro w' aL;obtain⟨e0,e1,e2,e3,d0,d1,d2,d3,f0,y3⟩:=aL;go_simp;(try with_reducible rfl)
  (try simp only[Act.put]);iterate 4
   all_goals
    first
     |(have:=(J.o:AJ0 W _ none none);clear this;refine ZY (rs:=[3,13,14]) ZC ZXz (ZN.cons (o:=_) rfl (λK' hK=>?_) (ZN.cons (o:=_) rfl (λK' hK=>?_) (ZN.cons (o:=_) rfl (λK' hK=>?_) ZN.nil))))
     |(have:=(J.o:AJ0 W _ none (some _));clear this;refine ZY (rs:=[3,13]) ZC ZXz (ZN.cons (o:=_) rfl (λK' hK=>?_) (ZN.cons (o:=_) rfl (λK' hK=>?_) ZN.nil)))
     |(have:=(J.o:AJ0 W _ (some _) none);clear this;refine ZY (rs:=[3,14]) ZC ZXz (ZN.cons (o:=_) rfl (λK' hK=>?_) (ZN.cons (o:=_) rfl (λK' hK=>?_) ZN.nil)))
     |(have:=(J.o:AJ0 W _ (some _) (some _));clear this;refine ZY (rs:=[3]) ZC ZXz (ZN.cons (o:=_) rfl (λK' hK=>?_) ZN.nil))
     |(have:=(J.o:AJ W _ _ _ _ _ _ _ _ r ce _ _ none none);clear this;refine ZY (rs:=[9,13,14]) ZC ZXz (ZN.last (o:=_) ZC rfl (λK' hK=>?_) (ZN.cons (o:=_) rfl (λK' hK=>?_) (ZN.cons (o:=_) rfl (λK' hK=>?_) ZN.nil))))
     |(have:=(J.o:AJ W _ _ _ _ _ _ _ _ r ce _ _ none (some _));clear this;refine ZY (rs:=[9,13]) ZC ZXz (ZN.last (o:=_) ZC rfl (λK' hK=>?_) (ZN.cons (o:=_) rfl (λK' hK=>?_) ZN.nil)))
     |(have:=(J.o:AJ W _ _ _ _ _ _ _ _ r ce _ _ (some _) none);clear this;refine ZY (rs:=[9,14]) ZC ZXz (ZN.last (o:=_) ZC rfl (λK' hK=>?_) (ZN.cons (o:=_) rfl (λK' hK=>?_) ZN.nil)))
     |(have:=(J.o:AJ W _ _ _ _ _ _ _ _ r ce _ _ (some _) (some _));clear this;refine ZY (rs:=[9]) ZC ZXz (ZN.last (o:=_) ZC rfl (λK' hK=>?_) ZN.nil))
     |(have:=(J.o:AJ W _ _ _ _ _ _ _ _ _ cP _ _ none none);clear this;refine ZY (rs:=[13,14]) ZC ZXz (ZN.last (o:=_) ZC rfl (λK' hK=>?_) (ZN.last (o:=_) ZC rfl (λK' hK=>?_) ZN.nil)))
     |(have:=(J.o:AJ W _ _ _ _ _ _ _ _ _ cP _ _ none (some _));clear this;refine ZY (rs:=[13]) ZC ZXz (ZN.last (o:=_) ZC rfl (λK' hK=>?_) ZN.nil))
     |(have:=(J.o:AJ W _ _ _ _ _ _ _ _ _ cP _ _ (some _) none);clear this;refine ZY (rs:=[14]) ZC ZXz (ZN.last (o:=_) ZC rfl (λK' hK=>?_) ZN.nil))
    all_goals
     go_simp
     first
      |((with_reducible refine(NW.o _ J.o.x).mono ?_);rintro e u ⟨rfl,C',hm⟩;have y3:=(hm.1.call hw Hc.o).2.2.2.2.1;rw[Hxw.o]at y3;have ae:=HS.o _ _ (YS.kpi hm XW.o J.o.x (Zf6 _)) y3;have J:=ZA (J.o.now XW.o (Zf6 _) GO.o Ii.o bp.o hm);clear hm y3;refine hK.out _ _ ae ?_;clear hK K';(try simp only[Act.put]))
      |((with_reducible refine(AQ.o _ _ J.o.pt).mono ?_);rintro e u ⟨r',rfl,eK,hx⟩;have J:=ZA (J.o.allow hx eK);clear eK hx ae;refine hK.out _ _ ?_;clear hK K';(try simp only[Act.put]);refine ZX4 (i:=10) (v:=?_) rfl (Or.inl ⟨by rfl,?_⟩) (YI.past ZC) ?_;rotate_left;(focus (intro w' _;go_simp;(try with_reducible rfl)));(try simp only[Act.put]);refine ZX4 (i:=11) (v:=?_) rfl (Or.inl ⟨by rfl,?_⟩) (YI.past ZC) ?_;rotate_left;(focus (intro w' _;go_simp;(try with_reducible rfl)));(try simp only[Act.put]);refine ZX4 (i:=12) (v:=?_) rfl (Or.inl ⟨by rfl,?_⟩) (YI.past ZC) ?_;rotate_left;(focus (intro w' _;go_simp;(try with_reducible rfl)));(try simp only[Act.put]))
      |(have ae:=SBX.ext ae ((ZM.refl _).alloc ZA3);refine hK.out _ _ ae ?_;clear hK K';(try simp only[Act.put]);obtain⟨k8,v,hq,hv,J⟩:=J.o.a8';rw[hv,hq];rw[hv]at ae;have J:=ZA J;clear hv hq)
      |(refine hK.out _ _ ?_;clear hK K';(try simp only[Act.put]);obtain⟨k8,v,hq,hv,J⟩:=J.o.a8';rw[hv,hq];have J:=ZA J;clear hv hq)
      |(have ae:=SBX.ext ae ((ZM.refl _).alloc ZA4);refine hK.out _ _ ae ?_;clear hK K';(try simp only[Act.put]);obtain⟨k9,v,hq,hv,J⟩:=J.o.a9';rw[hv,hq];rw[hv]at ae;have J:=ZA J;clear hv hq)
      |(refine hK.out _ _ ?_;clear hK K';(try simp only[Act.put]);obtain⟨k9,v,hq,hv,J⟩:=J.o.a9';rw[hv,hq];have J:=ZA J;clear hv hq)
  all_goals
   refine ZY (rs:=[15]) ZC ZXz (ZN.last (o:=_) ZC rfl (λK' hK=>?_) ZN.nil);have hb:=J.o.k8;obtain⟨s0,z0,s1,z1,s2,z2,s3,z3,s4,z4,s5,z5⟩:=ZYC hb;clear hb
   go_simp
   refine hK.out _ _ ?_;clear hK K' s0 z0 s1 z1 s2 z2 s3 z3 s4 z4 s5 z5
   (try simp only[Act.put])
   obtain⟨v,hv,J⟩:=J.o.s8' (.int .i64 (rep.er:Int)) (.bool rep.granted) (.int .i64 rep.left) (.int .i64 rep.wait) (.int .i64 rep.ser) (.int .i64 rep.now);rw[hv];have J:=ZA J;clear hv;refine ZY (rs:=[16]) ZC ZXz (ZN.last (o:=_) ZC rfl (λK' hK=>?_) ZN.nil);have hb:=J.o.k9;obtain⟨s0,z0,s1,z1,s2,z2,s3,z3⟩:=ZYB hb;clear hb
   go_simp
   refine hK.out _ _ ?_;clear hK K' s0 z0 s1 z1 s2 z2 s3 z3
   (try simp only[Act.put])
   obtain⟨v,hv,J⟩:=J.o.s9' (.int .i64 (cP.pol:Int)) (.slice r'.K cP.key.length r'.kc) (.int .i64 cP.tat) (.slice r'.H cP.held.length r'.hc);rw[hv];have J:=ZA J;clear hv;refine JL ZC ?_ _;go_wp2_with fail
   go_meet
   exact⟨_,_,r',C',rfl,rfl,J.o⟩
 |clear ae;iterate 3
   all_goals
    first
     |(have:=(J.o:AJ0 _ _ none none);clear this;refine ZY (rs:=[6,10,11]) ZC ZXz (ZN.last (o:=_) ZC rfl (λK' hK=>?_) (ZN.cons (o:=_) rfl (λK' hK=>?_) (ZN.cons (o:=_) rfl (λK' hK=>?_) ZN.nil))))
     |(have:=(J.o:AJ0 _ _ none (some _));clear this;refine ZY (rs:=[6,10]) ZC ZXz (ZN.last (o:=_) ZC rfl (λK' hK=>?_) (ZN.cons (o:=_) rfl (λK' hK=>?_) ZN.nil)))
     |(have:=(J.o:AJ0 _ _ (some _) none);clear this;refine ZY (rs:=[6,11]) ZC ZXz (ZN.last (o:=_) ZC rfl (λK' hK=>?_) (ZN.cons (o:=_) rfl (λK' hK=>?_) ZN.nil)))
     |(have:=(J.o:AJ0 _ _ (some _) (some _));clear this;refine ZY (rs:=[6]) ZC ZXz (ZN.last (o:=_) ZC rfl (λK' hK=>?_) ZN.nil))
     |(have:=(J.o:BJ _ _ _ _ _ _ _ none none);clear this;refine ZY (rs:=[10,11]) ZC ZXz (ZN.last (o:=_) ZC rfl (λK' hK=>?_) (ZN.last (o:=_) ZC rfl (λK' hK=>?_) ZN.nil)))
     |(have:=(J.o:BJ _ _ _ _ _ _ _ none (some _));clear this;refine ZY (rs:=[10]) ZC ZXz (ZN.last (o:=_) ZC rfl (λK' hK=>?_) ZN.nil))
     |(have:=(J.o:BJ _ _ _ _ _ _ _ (some _) none);clear this;refine ZY (rs:=[11]) ZC ZXz (ZN.last (o:=_) ZC rfl (λK' hK=>?_) ZN.nil))
    all_goals
     go_simp
     first
      |((with_reducible refine(AQ.o _ J.o.x _ J.o.kp (J.o.nw HX.o)).mono ?_);rintro e u ⟨r',rfl,eK,hx⟩;have J:=ZA (J.o.act hx eK);clear eK hx;refine hK.out _ _ ?_;clear hK K';(try simp only[Act.put]);refine ZX4 (i:=7) (v:=?_) rfl (Or.inl ⟨by rfl,?_⟩) (YI.past ZC) ?_;rotate_left;(focus (intro w' _;go_simp;(try with_reducible rfl)));(try simp only[Act.put]);refine ZX4 (i:=8) (v:=?_) rfl (Or.inl ⟨by rfl,?_⟩) (YI.past ZC) ?_;rotate_left;(focus (intro w' _;go_simp;(try with_reducible rfl)));(try simp only[Act.put]);refine ZX4 (i:=9) (v:=?_) rfl (Or.inl ⟨by rfl,?_⟩) (YI.past ZC) ?_;rotate_left;(focus (intro w' _;go_simp;(try with_reducible rfl)));(try simp only[Act.put]))
      |(refine hK.out _ _ (HS.o _ (J.o.x.alloc ZA3)) ?_;clear hK K';(try simp only[Act.put]);obtain⟨k8,v,hq,hv,J⟩:=J.o.a8';rw[hv,hq];have J:=ZA J;clear hv hq)
      |(refine hK.out _ _ ?_;clear hK K';(try simp only[Act.put]);obtain⟨k8,v,hq,hv,J⟩:=J.o.a8';rw[hv,hq];have J:=ZA J;clear hv hq)
      |(refine hK.out _ _ (HS.o _ (J.o.x.alloc ZA4)) ?_;clear hK K';(try simp only[Act.put]);obtain⟨k9,v,hq,hv,J⟩:=J.o.a9';rw[hv,hq];have J:=ZA J;clear hv hq)
      |(refine hK.out _ _ ?_;clear hK K';(try simp only[Act.put]);obtain⟨k9,v,hq,hv,J⟩:=J.o.a9';rw[hv,hq];have J:=ZA J;clear hv hq)
  all_goals
   refine ZY (rs:=[12]) ZC ZXz (ZN.last (o:=_) ZC rfl (λK' hK=>?_) ZN.nil);have hb:=J.o.k8;obtain⟨s0,z0,s1,z1,s2,z2,s3,z3,s4,z4,s5,z5⟩:=ZYC hb;clear hb
   go_simp
   refine hK.out _ _ ?_;clear hK K' s0 z0 s1 z1 s2 z2 s3 z3 s4 z4 s5 z5
   (try simp only[Act.put])
   obtain⟨v,hv,J⟩:=J.o.s8' (.int .i64 (rep.er:Int)) (.bool rep.granted) (.int .i64 rep.left) (.int .i64 rep.wait) (.int .i64 rep.ser) (.int .i64 rep.now);rw[hv];have J:=ZA J;clear hv;refine ZY (rs:=[13]) ZC ZXz (ZN.last (o:=_) ZC rfl (λK' hK=>?_) ZN.nil);have hb:=J.o.k9;obtain⟨s0,z0,s1,z1,s2,z2,s3,z3⟩:=ZYB hb;clear hb
   go_simp
   refine hK.out _ _ ?_;clear hK K' s0 z0 s1 z1 s2 z2 s3 z3
   (try simp only[Act.put])
   obtain⟨v,hv,J⟩:=J.o.s9' (.int .i64 (rv.pol:Int)) (.slice r'.K rv.key.length r'.kc) (.int .i64 rv.tat) (.slice r'.H rv.held.length r'.hc);rw[hv];have J:=ZA J;clear hv;refine JL ZC ?_ _;go_wp2_with fail
   go_meet
   exact J.o.two):p:=h
theorem ZMg (W:World)(X:Zhf)(d:Jv)(q0 q1 q2 q3 q4 q5:Nat)(f:Yb)(ce:ZL)(ser:Int)(hX:YE W X)(h:ZGe W X d (YD 250 #[ZH q0,ZH q1,ZH q2,ZH q3,ZH q4,ZH q5]) f ce)(h8:W.cell? ⟨d.xb,8,none⟩=some (.int .i64 ser))(hs:Ser ser)(hF:ZEL d.pol.perm ce.held)(hm:ser ∉ ce.held)(ak:(ce.held.length:Int)<d.pol.perm)(res:Bool)(gx room:Nat)(h4:W.cell? ⟨d.xb,4,none⟩=some (ZH gx))(h7:W.cell? ⟨d.xb,7,none⟩=some (.bool res))(hr:W.cell? ⟨gx,1,none⟩=some (.int .u64 room)): Calls prog 250 #[ZH q0,ZH q1,ZH q2,ZH q3,ZH q4,ZH q5] W (ClR (λw' v=>Zk w' X d v (Ji room res f (ZAa d.pol ce ser).2 (ZAa d.pol ce ser).1)) W):=by
 obtain⟨_,_,_,_,_,_,hq,k0,⟨r,k1,hp⟩,k2,⟨Af,cf,qJ,kf,bo⟩,k4,k5⟩:=h;injection hq with _ _ hq;have e:=Zge Array.toList hq;simp only[Zem,and_true]at e;obtain⟨rfl,rfl,rfl,rfl,rfl,rfl⟩:=e;obtain⟨rep,Hrep⟩:=ZX2 ((ZAa d.pol ce ser).1);obtain⟨rv,om⟩:=ZX2 ((ZAa d.pol ce ser).2);have AQ:=ZA (λu (x:ZM W u) (X':Zhf) (kp:Kp W u X X') (hn:YE u X')=>ZMk u X' d.pol ce r ser hn (hp.kp kp) hs hF hm ak);rw[Hrep.o,om.o]at AQ ⊢;have IT:=ZA h4;have IR:=ZA h7;have If:=ZA hr;have XA:=ZA (show ZM W (W.alloc ZA3).drew from((ZM.refl W).alloc _).drew);have XB:=ZA (show ZM W (W.alloc ZA4).drew from((ZM.refl W).alloc _).drew);have FX:=ZA (show ZM W ((W.alloc ZA3).alloc ZA4).drew from(((ZM.refl W).alloc _).alloc _).drew);have FW:=ZA (show ZM W ((W.alloc ZA4).alloc ZA3).drew from(((ZM.refl W).alloc _).alloc _).drew);have e0:=k0.ZX6 0 (.int .u8 (d.pol.kind:Int));have e1:=k0.ZX6 1 (.int .i64 d.pol.T);have e2:=k0.ZX6 2 (.int .i64 d.pol.Tau);have e3:=k0.ZX6 3 (.int .i64 d.pol.perm);have f0:=k1.ZX6 0 (.int .i64 (ce.pol:Int));have f1:=k1.ZX6 1 (.slice r.K ce.key.length r.kc);have f2:=k1.ZX6 2 (.int .i64 ce.tat);have f3:=k1.ZX6 3 (.slice r.H ce.held.length r.hc);have g0:=k2.ZX6 0 (ZH d.xb);obtain⟨H0,H2,qD,H4,H5,HX⟩:=Ju k0 k2 kf k4 k5 hX;have HCF:=ZA bo;clear h4 h7 hr bo;clear k0 k1 k2 kf k4 k5 hp hX hs hF hm ak hq;go_enter func250,ntmps250;go_upto_region 1 with fail;have HS:=ZA (λ(w':World) (hE:ZM W w')=>(⟨ZF hE e0,ZF hE e1,ZF hE e2,ZF hE e3,ZF hE f0,ZF hE f1,ZF hE f2,ZF hE f3,ZF hE g0,ZF hE h8⟩:w'.cell? ⟨q0,0,none⟩=some (.int .u8 (d.pol.kind:Int))/\w'.cell? ⟨q0,1,none⟩=some (.int .i64 d.pol.T)/\w'.cell? ⟨q0,2,none⟩=some (.int .i64 d.pol.Tau)/\w'.cell? ⟨q0,3,none⟩=some (.int .i64 d.pol.perm)/\w'.cell? ⟨q1,0,none⟩=some (.int .i64 (ce.pol:Int))/\w'.cell? ⟨q1,1,none⟩=some (.slice r.K ce.key.length r.kc)/\w'.cell? ⟨q1,2,none⟩=some (.int .i64 ce.tat)/\w'.cell? ⟨q1,3,none⟩=some (.slice r.H ce.held.length r.hc)/\w'.cell? ⟨q2,0,none⟩=some (ZH d.xb)/\w'.cell? ⟨d.xb,8,none⟩=some (.int .i64 ser)));go_cut [7,8] (λv7 v8 wd=>ZOp W X rep rv v7 v8 wd);case first=>
  exact ZYc
 case rest=>
  obtain⟨b7,b8,r9,rfl,rfl,kb7,fR,lU,lT,hp,hx⟩:=hcut;have PT:=ZA (ZOR wc X d f _ cf Af qJ rv r9 rep res gx room (HX.o.ext hx) rfl (HCF.o.ext hx) hp (ZF hx IT.o) (ZF hx IR.o) (ZF hx If.o));have g0:=(H2.o.ext hx).ZX6 0 (ZH d.xb);have a0:=(qD.o.ext hx).ZX6 0 (.int .i64 (f.word:Int));have a1:=(qD.o.ext hx).ZX6 1 (.int .u64 (f.v:Int));have a2:=(qD.o.ext hx).ZX6 2 (.slice Af f.cells.length cf);have a4:=(H4.o.ext hx).ZX6 0 (.int .i64 (f.at_:Int));have a5:=(H5.o.ext hx).ZX6 0 (.bool f.there);have c0:=ZE fR 0;have c1:=ZE fR 1;have c2:=ZE fR 2;have c3:=ZE fR 3;have s0:=ZE kb7 0;have s1:=ZE kb7 1;have s2:=ZE kb7 2;have s3:=ZE kb7 3;have s4:=ZE kb7 4;have s5:=ZE kb7 5;have XX:=ZA hx;clear kb7 fR lU lT hp hx e0 e1 e2 e3 f0 f1 f2 f3 h8;go_wp2_with fail;refine PT.out.mono ?_;rintro e w2 ⟨v,rfl,hk,hx⟩;have HK:=ZA hk;have HY:=ZA hx;clear hk hx;go_wp2_with fail;go_ret;exact⟨_,rfl,HK.o,XX.o.trans HY.o⟩
theorem YT{p:Value}(h:YC w X p v):∃b,p=.pointer (some ⟨b,0,none⟩):=by
 obtain⟨b,h,_⟩:=h.ptr;exact⟨b,h⟩
theorem Qg {p:Prop}(h:p:=by
 first
 |obtain -:=V1;obtain⟨_,_,_,_,_,_,rfl,a0,a1,a2,a3,a4,a5⟩:=ka;obtain⟨c0,rfl⟩:=YT a2;obtain⟨c1,rfl,_⟩:=a0.ptr;obtain⟨c2,rfl⟩:∃b,_=Value.pointer (some ⟨b,0,none⟩):=by obtain⟨r,a1,_⟩:=a1;obtain⟨b,e,_⟩:=a1.ptr;exact⟨b,e⟩
  obtain⟨c3,rfl⟩:∃b,_=Value.pointer (some ⟨b,0,none⟩):=by obtain⟨A,n,r,a3,_⟩:=a3;obtain⟨b,e,_⟩:=a3.ptr;exact⟨b,e⟩
  obtain⟨c4,rfl⟩:=YT a4;obtain⟨c5,rfl⟩:=YT a5
 |obtain⟨fa,ca,rfl⟩:∃fa ca,av=YD fa ca:=by obtain⟨_,_,_,_,_,_,e,_⟩:=ka;exact⟨_,_,e⟩
 obtain⟨W,hW,xW,K0⟩:=Za w ZYE;have hA:=h.xg xW (Zf6 _) (ZX K0.o);first|(obtain -:=V2;obtain⟨V,hV⟩:=ZX3 (W.setCell ⟨xb who,8,none⟩ (.int .i64 now)))|obtain⟨V,hV⟩:=ZX3 (W.setCell ⟨xb who,7,none⟩ (.bool true))
 obtain⟨⟨tx,Kx,Ds,cz,-,-,-⟩,yh⟩:=hA.xat hw hc;first
 |obtain -:=V3;have gV:GB W V (· =xb who):=by rw[<-hV];exact(GB.refl W (· =xb who)).set (xb who) 8 _ (.inl rfl)
  have aE:=hA.setx (res':=res) (ser':=(now:Int)) hw hc gV (λt K kc e=>by rw[<-hV];exact ZR e 8 _)
 |have gV:GB W V (· =xb who):=by rw[<-hV];exact(GB.refl W (· =xb who)).set (xb who) 7 _ (.inl rfl)
  have aE:=hA.setx (res':=true) (ser':=ser) hw hc gV (λt K kc e=>by rw[<-hV];exact ZR e 7 _)
 obtain⟨C',hmv⟩:=aE.mov;have ab:=hmv.kpg xW (Zf6 w.heap.size);first|(obtain -:=V4;have bN:=hmv.1.call hw (Zx s who _);have un:=ZA (ZMg V (XO C' (XG O w.heap.size)) (Zo g who (xb who) x) c1 c2 c0 c3 c4 c5 f c (now:Int) hmv.1.newer ⟨_,_,_,_,_,_,rfl,a0.kp ab,a1.kp ab,a2.kp ab,a3.kp ab,a4.kp ab,a5.kp ab⟩ bN.2.2.2.1 ⟨by omega,by omega⟩ hF hm ak res g.gx g.room bN.1 bN.2.2.1 hmv.1.rd.c1);have y8:=ZX1 cz 8 (.int .i64 ser);have z8:=ZG cz 8)|(have ON:=ZA (ZAI (show Zk V (XO C' (XG O w.heap.size)) (Zo g who (xb who) x) (YD fa ca) (.put f c rp)from ka.kp ab));have y7:=ZX1 cz 7 (.bool res);have z7:=ZG cz 7)
 have e0:=(k0.ext xW).ZX6 0 (ZH (xb who));first|(obtain -:=V5;have f1:=(k1.kp ab).ZX6 0 (YD 250 #[ZH c1,ZH c2,ZH c0,ZH c3,ZH c4,ZH c5]);have mZ:IntKind.i64.wrap (now:Int)=(now:Int):=by rw[Zee];omega)|have f1:=(k1.kp ab).ZX6 0 (YD fa ca)
 have HM:=ZA hmv;have KV:=ZA (hmv.2.1.blk K0.o (λe=>Zf9 _ (h.lt _ e)));obtain⟨XW,HW,HV⟩:=Z8 xW hW hV;obtain⟨xw,Hxw⟩:=ZX2 (xb who);first|(obtain -:=V6;rw[Hxw.o]at y8 z8 e0 HV;obtain⟨pk,Hpk⟩:=ZX2 (Ji g.room res f (ZAa (Zf g.P x.pol) c now).2 (ZAa (Zf g.P x.pol) c now).1);rw[show(Zo g who (xb who) x).pol=Zf g.P x.pol from rfl,Hpk.o]at un;rw[Hpk.o];clear h hc k0 k1 a0 a1 a2 a3 a4 a5 hA cz yh gV aE hmv ab bN hW hV xW hF hm ak de lN;go_enter func253,ntmps253)|(rw[Hxw.o]at y7 z7 e0 HV;clear h hc k0 k1 ka hA cz yh gV aE hmv ab hW hV xW;go_enter func258,ntmps258)
 go_upto_region 1 with fail;(try rw[HW.o]);clear HW;go_upto_region 2 with fail;(try rw[HV.o]);clear HV;go_wp2_with fail;first|(obtain -:=V7;refine un.o.mono ?_;rintro e w1 ⟨v,rfl,hk,hx⟩;have ON:=ZA (ZAI hk);have X1:=ZA hx;have K2:=ZA (ZK KV.o hx);clear hk hx y8 z8 e0 f1 mZ;go_wp2_with fail)|skip
 refine ON.o.mono ?_;rintro e w2 ⟨nv,done,r',rfl,ho,hx⟩;have HO:=ZA ho;have HX:=ZA hx;first|(obtain -:=V8;have K3:=ZA (ZK K2.o hx))|have K3:=ZA (ZK KV.o hx)
 obtain⟨s0,z0,s1,z1,s2,z2,s3,z3,s4,z4,s5,z5,s6,z6⟩:=ZYD K3.o;first|(obtain -:=V9;clear ho hx)|clear ho hx y7 z7
 go_wp2_with fail;refine Zgd (ZP (p:=5) (u:=4) rfl _ _ (w.heap.size) _ #[.bool done,.int .i64 (r'.er:Int),.bool r'.granted,.int .i64 r'.left,.int .i64 r'.wait,.int .i64 r'.ser,.int .i64 r'.now] (0,0) _ rfl (Yv K3.o _ _ _ _ _ _ _) underlying41 ZX0 ZC) rfl ?_;first|(obtain -:=V10;exact Yl hN XW.o (Zf6 _) (HM.o.ext (X1.o.trans HX.o)) HO.o _ _ _ _ _ _ _)|exact Yl hN XW.o (Zf6 _) (HM.o.ext HX.o) HO.o _ _ _ _ _ _ _):p:=h
theorem ZWa (w:World)(g:Zz)(O C:Zhf)(xb:Nat->Nat)(L:List Zg)(s:Z9)(who now q0 q1 N:Nat)(x:ZW)(res:Bool)(ser:Int)(k:YX)(f:Yb)(c:ZL)(av:Value)(h:YQ w g O C xb L s)(hc:s.call who=.run x res ser k)(hN:L.length<=N)(hw:who<64)(de:1<=now)(lN:now<=4611686018427387903)(k0:YC w (XO C O) (ZH q0) (ZH (xb who)))(k1:YC w (XO C O) (ZH q1) av)(ka:ZGe w (XO C O) (Zo g who (xb who) x) av f c)(hF:ZEL (Zf g.P x.pol).perm c.held)(hm:(now:Int) ∉ c.held)(ak:(c.held.length:Int)<(Zf g.P x.pol).perm): Calls prog 253 #[.int .u64 now,ZH q0,ZH q1] w (SK w g O C xb who N x (s.put who (.run x res (now:Int) k)) (.on (Ji g.room res f (ZAa (Zf g.P x.pol) c now).2 (ZAa (Zf g.P x.pol) c now).1))):=by
 obtain⟨V1,V2,V3,V4,V5,V6,V7,V8,V9,V10⟩:=QA;exact Qg
theorem YS.trans{w1:World}{g:Zz}{C1 C2:Zhf}{L2:List Zg}{s:Z9}(h:YS w g O C xb L s C1 w1)(k:YS w1 g O C1 xb L2 s2 C2 w2):YS w g O C xb L2 s2 C2 w2:=⟨k.1,h.2.1.trans k.2.1 h.2.2,λi hi=>(k.2.2 i hi).elim (h.2.2 i) (λe=>.inr (Zf8 h.2.1.size e))⟩
theorem QK {p:Prop}(h:p:=by
 first|(obtain -:=V1;obtain⟨p0,p1,p2,p3,p4,p5,p6,sv,tv,aj,k0,k1,k2,k3,k4,k5,k6,s0,q0,q1,av,lM,Dq,htv,oW,kq1,ka⟩:=hk;subst lM htv)|(obtain -:=V2;obtain⟨p0,p1,p2,p3,p4,p5,p6,sv,tv,aj,k0,k1,k2,k3,k4,k5,k6,q0,q1,av,lM,htv,oW,kq1,ka⟩:=hk;subst lM htv)|obtain⟨p0,p1,p2,p3,p4,p5,p6,sv,tv,aj,k0,k1,k2,k3,k4,k5,k6,k7⟩:=hk
 injection aj with aj h1 h2;injection aj with aj;subst aj h2;obtain⟨b0,rfl⟩:=YT k0;obtain⟨b1,rfl⟩:=YT k1;obtain⟨b2,rfl⟩:=YT k2;obtain⟨b3,rfl⟩:=YT k3;obtain⟨b4,rfl⟩:=YT k4;obtain⟨b5,rfl⟩:=YT k5;obtain⟨b6,rfl⟩:=YT k6;first|(obtain -:=V3;obtain⟨tf,tc,rfl⟩:=k7.fn;have sX:=hen w _ sv tf tc k7)|(obtain -:=V4;obtain⟨tf,tc,rfl⟩:=k7.fn)|(obtain⟨c0,rfl⟩:=YT oW;obtain⟨c1,rfl⟩:=YT kq1)
 obtain⟨W,hW,xW,K0⟩:=Za w ZYE;have hA:=h.xg xW (Zf6 _) (ZX K0.o);first|(obtain -:=V5;obtain⟨v,hv⟩:=ZX3 (u+1);rw[hv]at hm uz ⊢;have SW:=ZA (ZDu W g (XG O w.heap.size) C xb L (L++[⟨who,2,33,u,v,true⟩]) s {s with ws:=s.ws.set 33 v,hs:=s.hs.set 33 []} who 33 u (v:Int) x res ser _ true hA hc hc hw (λz hz=>ZAT z g (XG O w.heap.size) C xb L s who 33 u v 0 0 (v:Int) none [] [] (hA.ext hz) ZB hw ZB hu rfl rfl (Zw.nil z _))))|(obtain -:=V6;obtain⟨nw,qW⟩:=ZX3 ((v+by_) % 18446744073709551616);have SW:=ZA (ZDu W g (XG O w.heap.size) C xb L (L++[⟨who,2,word,v,nw,false⟩]) s s who word v (nw:Int) x res ser _ false hA hc hc hw (λz hz=>ZAp z g (XG O w.heap.size) C xb L s who word u v nw 0 0 (nw:Int) none (hA.ext hz) ZB hw cJ hu ag rfl)))|(obtain -:=V7;obtain⟨v,hv⟩:=ZX3 ((u+1) % 18446744073709551616);rw[hv];have SW:=ZA (ZDu W g (XG O w.heap.size) C xb L (L++[⟨who,2,32,u,v,true⟩]) s {s with ws:=s.ws.set 32 v,hs:=s.hs.set 32 []} who 32 u (v:Int) x res ser _ true hA hc hc hw (λz hz=>ZAT z g (XG O w.heap.size) C xb L s who 32 u v 0 0 (v:Int) none [] [] (hA.ext hz) ZB hw ZB hu rfl rfl (Zw.nil z _))))|(obtain⟨nw,qW⟩:=ZX3 ((v+by_) % 18446744073709551616);rw[qW];have SW:=ZA (ZDu W g (XG O w.heap.size) C xb L (L++[⟨who,2,32,v,nw,true⟩]) s {s with ws:=s.ws.set 32 nw,hs:=s.hs.set 32 []} who 32 v (nw:Int) x res ser _ true hA hc hc hw (λz hz=>ZAT z g (XG O w.heap.size) C xb L s who 32 v nw 0 0 (nw:Int) none [] [] (hA.ext hz) ZB hw ZB hu rfl rfl (Zw.nil z _))))
 have e0:=(k0.ext xW).ZX6 0 (ZH (xb who));first|(obtain -:=V8;have e1:=(k1.ext xW).ZX6 0 (.int .i64 33))|(obtain -:=V9;have e1:=(k1.ext xW).ZX6 0 (.int .i64 word))|have e1:=(k1.ext xW).ZX6 0 (.int .i64 32)
 first|(obtain -:=V10;have e2:=(k2.ext xW).ZX6 0 (.int .u64 u);have e3:=(k3.ext xW).ZX6 0 (.int .u64 1))|(have e2:=(k2.ext xW).ZX6 0 (.int .u64 v);have e3:=(k3.ext xW).ZX6 0 (.int .u64 by_))
 have aM:=ZA h.lt;first|(obtain -:=V11;have Hc:=ZA hc;obtain⟨bj,bX,ia,HQ0,zf,HKA⟩:=Ju k2 k3 k6 oW kq1 ka;obtain⟨HF,Hm,iX⟩:=Z8 hF hm ak)|(obtain -:=V12;obtain⟨aQ,aO,bj,bX,cQ,HK5⟩:=Ju k0 k1 k2 k3 k4 k5;have ia:=ZA k6;have vA:=ZA k7)|(obtain -:=V13;have Hc:=ZA hc;obtain⟨bj,bX,ia,HQ0,zf,HKA⟩:=Ju k2 k3 k6 oW kq1 ka)|(obtain⟨Hc,HTH,jm⟩:=Z8 hc TH sX;obtain⟨bj,bX,ia,vA⟩:=ZAU k2 k3 k6 k7)
 have XW:=ZA xW;have HW:=ZA hW;first
 |obtain -:=V14;have bp:=ZA (show(L++[(⟨who,2,33,u,v,true⟩:Zg)]).length<=L.length+1 by simp);have pg:IntKind.u64.wrap ((u:Int)+1)=(v:Int):=by rw[Zef];omega
  have HV:=ZA hv;have GY:=ZA uz;clear h hc hu k0 k1 k2 k3 k4 k5 k6 oW kq1 ka Dq hA xW hW hL hF hm ak hv uz
 |obtain -:=V15;have bp:=ZA (show(L++[(⟨who,2,word,v,nw,false⟩:Zg)]).length<=L.length+1 by simp);have pg:IntKind.u64.wrap ((v:Int)+(by_:Int))=(nw:Int):=by rw[Zef];omega
  clear h hc hu k0 k1 k2 k3 k4 k5 k6 k7 hA xW hW hL ag qW cJ
 |obtain -:=V16;have bp:=ZA (show(L++[(⟨who,2,32,u,v,true⟩:Zg)]).length<=L.length+1 by simp);have pg:IntKind.u64.wrap ((u:Int)+1)=(v:Int):=by rw[Zef];omega
  have HV:=ZA hv;clear h hc hu k0 k1 k2 k3 k4 k5 k6 oW kq1 ka hA xW hW hL hv
 |have bp:=ZA (show(L++[(⟨who,2,32,v,nw,true⟩:Zg)]).length<=L.length+1 by simp);have pg:IntKind.u64.wrap ((v:Int)+(by_:Int))=(nw:Int):=by rw[Zef];omega
  clear h hc hu k0 k1 k2 k3 k4 k5 k6 k7 hA xW hW hL qW TH hen sX
 go_enter func278,ntmps278;go_upto_region 1 with fail;(try rw[HW.o]);clear HW;go_wp2_with fail;refine SW.o.mono ?_;rintro e w2 ⟨rfl,hg⟩;obtain⟨C',hmv⟩:=hg.mov;have HM:=ZA hmv;have ab:=hmv.kpg XW.o (Zf6 w.heap.size);have KR:=ZA (hmv.2.1.blk K0.o (λe=>Zf9 _ (aM.o _ e)));first|(obtain -:=V17;have f2:=(bj.o.kp ab).ZX6 0 (.int .u64 u);have f3:=(bX.o.kp ab).ZX6 0 (.int .u64 1);have f6:=(ia.o.kp ab).ZX6 0 (YD 253 #[ZH c0,ZH c1]);have TH:=ZA (ZWa w2 g (XG O w.heap.size) C' xb _ _ who v c0 c1 (L.length+1) x res ser _ f ce av hmv.1 Hc.o bp.o hw (by have:=HV.o;omega) GY.o (HQ0.o.kp ab) (zf.o.kp ab) (HKA.o.kp ab) HF.o Hm.o iX.o))|(obtain -:=V18;have f0:=(aQ.o.kp ab).ZX6 0 (ZH (xb who));have f1:=(aO.o.kp ab).ZX6 0 (.int .i64 word);have f3:=(bX.o.kp ab).ZX6 0 (.int .u64 by_);have f4:=(cQ.o.kp ab).ZX6 0 (.int .u64 stop);have f5:w2.cell? ⟨b5,0,none⟩=some sv:=(HK5.o.kp ab).cell 0;have f6:=(ia.o.kp ab).ZX6 0 (YD tf tc);have MV:=ZA (ZKb w2 (XO C' (XG O w.heap.size)) (Zo g who (xb who) x) word by_ stop sv (YD tf tc) t HM.o.1.newer (vA.o.kp ab));have Hz:=ZA vA.o.sv)|(obtain -:=V19;have f2:=(bj.o.kp ab).ZX6 0 (.int .u64 u);have f3:=(bX.o.kp ab).ZX6 0 (.int .u64 1);have f6:=(ia.o.kp ab).ZX6 0 (YD 258 #[ZH c0,ZH c1]);have TH:=ZA (ZWX w2 g (XG O w.heap.size) C' xb _ _ who v c0 c1 (L.length+1) x res ser _ f ce rp av hmv.1 Hc.o bp.o hw (HQ0.o.kp ab) (zf.o.kp ab) (HKA.o.kp ab)))|(have f2:=(bj.o.kp ab).ZX6 0 (.int .u64 v);have f3:=(bX.o.kp ab).ZX6 0 (.int .u64 by_);have f6:=(ia.o.kp ab).ZX6 0 (YD tf tc);have TH:=ZA (HTH.o w2 (XO C' (XG O w.heap.size)) sv tf tc (nw:Int) hmv.1.newer (hmv.1.xat hw Hc.o).1 hmv.1.rd (vA.o.kp ab));have hen:=jm.o)
 clear hmv hg ab e0 e1 e2 e3;first
 |obtain -:=V20;go_wp2_with fail;refine TH.out.mono ?_;rintro e w3 ⟨nv,done,r',rfl,ho,hx⟩;have HO:=ZA ho;have aV:=ZA hx;have K3:=ZA (ZK KR.o hx);obtain⟨r0,z0,r1,z1,r2,z2,r3,z3,r4,z4,r5,z5,r6,z6⟩:=ZYD K3.o;clear ho hx f2 f3 f6;go_wp2_with fail;refine Zgd (ZP (p:=8) (u:=7) rfl _ _ (w.heap.size) _ #[.bool done,.int .i64 (r'.er:Int),.bool r'.granted,.int .i64 r'.left,.int .i64 r'.wait,.int .i64 r'.ser,.int .i64 r'.now] (0,0) _ rfl (Yv K3.o _ _ _ _ _ _ _) underlying41 ZX0 ZC) rfl ?_;exact Yl bp.o XW.o (Zf6 _) (HM.o.ext aV.o) HO.o _ _ _ _ _ _ _
 |obtain -:=V21;have lM:=Hz.o;rcases lM with rfl|⟨sf,sc,rfl⟩
  all_goals
   go_wp2_with fail;refine MV.o.mono ?_;rintro e w3 ⟨v',rfl,hk,hx⟩;have ON:=ZA (ZAI hk);have X1:=ZA hx;have K2:=ZA (ZK KR.o hx);clear hk hx f0 f1 f3 f4 f5 f6;go_wp2_with fail;refine ON.o.mono ?_;rintro e w4 ⟨nv,done,r',rfl,ho,hx⟩;have HO:=ZA ho;have aV:=ZA (X1.o.trans hx);have K3:=ZA (ZK K2.o hx);obtain⟨r0,z0,r1,z1,r2,z2,r3,z3,r4,z4,r5,z5,r6,z6⟩:=ZYD K3.o;clear ho hx;go_wp2_with fail;refine Zgd (ZP (p:=8) (u:=7) rfl _ _ (w.heap.size) _ #[.bool done,.int .i64 (r'.er:Int),.bool r'.granted,.int .i64 r'.left,.int .i64 r'.wait,.int .i64 r'.ser,.int .i64 r'.now] (0,0) _ rfl (Yv K3.o _ _ _ _ _ _ _) underlying41 ZX0 ZC) rfl ?_;exact Yl bp.o XW.o (Zf6 _) (HM.o.ext aV.o) HO.o _ _ _ _ _ _ _
 |go_wp2_with fail;refine TH.out.mono ?_;rintro e w3 ⟨nv,done,r',C2,L2,eg,rfl,im,ho⟩;have HO:=ZA ho;have zo:=ZA eg;have zm:=ZA (HM.o.trans im);have sH:¬C' w.heap.size:=λe=>HM.o.1.co _ e (.inr rfl);have K3:=ZA (im.2.1.blk KR.o sH);obtain⟨r0,z0,r1,z1,r2,z2,r3,z3,r4,z4,r5,z5,r6,z6⟩:=ZYD K3.o;clear ho eg im sH f2 f3 f6;go_wp2_with fail;refine Zgd (ZP (p:=8) (u:=7) rfl _ _ (w.heap.size) _ #[.bool done,.int .i64 (r'.er:Int),.bool r'.granted,.int .i64 r'.left,.int .i64 r'.wait,.int .i64 r'.ser,.int .i64 r'.now] (0,0) _ rfl (Yv K3.o _ _ _ _ _ _ _) underlying41 ZX0 ZC) rfl ?_;exact Yl zo.o XW.o (Zf6 _) zm.o HO.o _ _ _ _ _ _ _):p:=h
theorem ZKS (w)(g:Zz)(O C xb)(L:List Zg)(s:Z9)(who u)(x:ZW)(res ser f)(ce:ZL)(fn)(aa:Array Value)(h:YQ w g O C xb L s)(hc:s.call who=.run x res ser (.mvS 33 1 4611686018427387903 u (.serial f ce)))(hL:L.length<=100000)(hw:who<64)(hu:s.ws.getD 33 0=u)(uz:u+1<=4611686018427387903)(hk:Zk w (XO C O) (Zo g who (xb who) x) (YD fn aa) (.mvS 33 1 4611686018427387903 u (.serial f ce)))(hF:ZEL (Zf g.P x.pol).perm ce.held)(hm:((u+1:Nat):Int) ∉ ce.held)(ak:(ce.held.length:Int)<(Zf g.P x.pol).perm):
  Calls prog fn aa w (SK w g O C xb who (L.length+1) x ({s with ws:=s.ws.set 33 (u+1),hs:=s.hs.set 33 []}.put who (.run x res ((u+1:Nat):Int) (.mvS 33 1 4611686018427387903 u (.serial f ce)))) (.on (Ji g.room res f (ZAa (Zf g.P x.pol) ce ((u+1:Nat):Int)).2 (ZAa (Zf g.P x.pol) ce ((u+1:Nat):Int)).1))):=by
 obtain⟨V1,V5,V8,V10,V11,V14,V17⟩:=QA;exact QK
theorem ZWX (w:World)(g:Zz)(O C:Zhf)(xb:Nat->Nat)(L:List Zg)(s:Z9)(who now q0 q1 N:Nat)(x:ZW)(res:Bool)(ser:Int)(k:YX)(f:Yb)(c:ZL)(rp:Zt)(av:Value)(h:YQ w g O C xb L s)(hc:s.call who=.run x res ser k)(hN:L.length<=N)(hw:who<64)(k0:YC w (XO C O) (ZH q0) (ZH (xb who)))(k1:YC w (XO C O) (ZH q1) av)(ka:ZDN w (XO C O) (Zo g who (xb who) x) av f c rp): Calls prog 258 #[.int .u64 now,ZH q0,ZH q1] w (SK w g O C xb who N x (s.put who (.run x true ser k)) (.on (.put f c rp))):=Qg
theorem ZS4{s:Z9}{k:YX}{c:KC}(hc:s.call who=.run x res ser k)(hr:Z6 P room x (s.kc res ser) k=(c,out)): (YM P room s who).1=(s.of c).put who (ZBE x c.res c.ser out)/\(YM P room s who).2.isSome=ZFD out/\(YM P room s who).2.getD ZAG=Ja out:=by
 unfold YM;rw[hc]
 dsimp only
 rw[hr];cases out<;>exact⟨rfl,rfl,rfl⟩
theorem ZL1 (s:Z9)(who a b):(s.put who a).put who b=s.put who b:=by
 unfold Z9.put
 dsimp only
 congr 1
 funext i
 split<;>rfl
theorem YQ.kont{g:Zz}{s:Z9}(h:YQ w g O C xb L s)(hw:who<64){k:YX}(hc:s.call who=.run x res ser k): ∃v,w.cell? ⟨g.gx,3+who,none⟩=some v/\Zk w (XO C O) (Zo g who (xb who) x) v k:=by
 obtain⟨f,h1,-,-,h2,-⟩:=h.pend hw;rw[hc]at h2;exact⟨f,h1,h2.2⟩
def ZDJ (w:World)(g:Zz)(O C:Zhf)(xb:Nat->Nat)(L:List Zg)(s:Z9)(who:Nat)(e:Ending)(w':World):Prop:=ZIP w g O C xb (L.length+1) (YM g.P g.room s who).1 (.tuple #[.agg #[.bool (YM g.P g.room s who).2.isSome,.int .i64 (((YM g.P g.room s who).2.getD ZAG).er:Int),.bool ((YM g.P g.room s who).2.getD ZAG).granted,.int .i64 ((YM g.P g.room s who).2.getD ZAG).left,.int .i64 ((YM g.P g.room s who).2.getD ZAG).wait,.int .i64 ((YM g.P g.room s who).2.getD ZAG).ser,.int .i64 ((YM g.P g.room s who).2.getD ZAG).now],.int .i64 0]) e w'
theorem ZTd{g:Zz}{s:Z9}{k:YX}{c:KC}(hc:s.call who=.run x res ser k)(hr:Z6 g.P g.room x (s.kc res ser) k=(c,out))(h2:s2=(s.of c).put who (ZBE x c.res c.ser out)){e:Ending}{w':World}(h:ZIP w g O C xb (L.length+1) s2 (.tuple #[.agg #[.bool (ZFD out),.int .i64 ((Ja out).er:Int),.bool (Ja out).granted,.int .i64 (Ja out).left,.int .i64 (Ja out).wait,.int .i64 (Ja out).ser,.int .i64 (Ja out).now],.int .i64 0]) e w'):ZDJ w g O C xb L s who e w':=by
 obtain⟨e1,e2,e3⟩:=ZS4 hc hr;unfold ZDJ;rw[e1,e2,e3,<-h2];exact h
def ZWy (lo n:Nat):List Int:=(List.range n).map λi=>((lo+i:Nat):Int)
def f1 (key:List Nat)(lo n v:Nat)(th:Bool):Yb:=⟨1,v,if th=true then [⟨0,key,0,ZWy lo n⟩] else [],0,th⟩
def c1 (key:List Nat)(lo n:Nat):ZL:=⟨0,key,0,ZWy lo n⟩
theorem YN {α:Type}(l:List α)(i j)(v d:α)(h:i<l.length):(l.set i v).getD j d=if j=i then v else l.getD j d:=by
 rw[Zez,Zez,List.getElem?_set];by_cases e:i=j
 ·rw[Zgl e,Zgl h,Zgl e.symm];rfl
 ·rw[Zgk e,Zgk (λe2=>e e2.symm)]
theorem ZAj.refl (s):ZAj s s:=⟨λ_ _ _=>.inl ⟨rfl,rfl⟩,Zf6 _⟩
theorem WOk.mono{N':Nat}(h:WOk P N M s)(a:N<=N')(b:M<=M'):WOk P N' M' s:=⟨h.lw,h.lh,h.d,λi h1 h2=>by have:=h.word i h1 h2;omega,by have:=h.n33;omega,λi=>⟨(h.cells i).1,by have:=(h.cells i).2;omega⟩,h.held⟩
theorem YO{clk:Nat}{w:WH}{k:YX}{c:KC}(h:WOk P N M w)(hw:c.wh=w)(hk:c.clk=clk)(hs:c.ser=ser)(hf:out.fresh->k.fresh)(ho:ZDO P room (N+1) w x c.res ser out):ZOq P room N M w clk x ser k c out:=by
 subst hw hs;exact⟨ZAj.refl _,h.mono (Zf7 _) (Zf6 _),hk,.inl rfl,.inl λi c' hc z hz=>⟨i,c',hc,hz⟩,hf,ho⟩
theorem ZGj{w:WH}(h:WOk P N M w)(hM:M<=M')(h1:1<=word)(h2:word<32)(hf:w.ws.getD word 0<Zb)(hn:w.ws.getD word 0<new)(hN:new<=N+1\/(Zb<=new/\new<=Zb+(N+1)))(hl:Yu P l)(Em:l.length<=M')(hh:∀c ∈ l,∀z ∈ c.held,z<=(w.ws.getD 33 0:Int)): WOk P (N+1) M' ⟨w.ws.set word new,w.hs.set word l⟩/\ZAj w ⟨w.ws.set word new,w.hs.set word l⟩:=by
 have W:=λj=>YN w.ws word j new 0 (by rw[h.lw];omega);have H:=λj=>YN w.hs word j l [] (by rw[h.lh];omega);have nY:(w.ws.set word new).getD 33 0=w.ws.getD 33 0:=by rw[W,Zgk ZB]
 refine⟨⟨by show(w.ws.set word new).length=34;rw[ZfK];exact h.lw,by show(w.hs.set word l).length=34;rw[ZfK];exact h.lh,?_,λi a b=>?_,?_,λi=>?_,λi c hc z hz=>?_⟩,⟨λi a b=>?_,?_⟩⟩
 ·show(w.ws.set word new).getD 0 0<=8;rw[W,Zgk ZB];exact h.d
 ·show(w.ws.set word new).getD i 0<=_\/(_<=(w.ws.set word new).getD i 0/\(w.ws.set word new).getD i 0<=_);rw[W];by_cases e:i=word
  ·rw[Zgl e];exact hN
  ·rw[Zgk e];have:=h.word i a b;omega
 ·show(w.ws.set word new).getD 33 0<=_;rw[nY];have:=h.n33;omega
 ·show Yu P ((w.hs.set word l).getD i [])/\((w.hs.set word l).getD i []).length<=M';rw[H];by_cases e:i=word
  ·rw[Zgl e];exact⟨hl,Em⟩
  ·rw[Zgk e];exact⟨(h.cells i).1,by have:=(h.cells i).2;omega⟩
 ·show z<=((w.ws.set word new).getD 33 0:Int);rw[nY];have hc:c ∈ (w.hs.set word l).getD i []:=hc;rw[H]at hc;by_cases e:i=word
  ·rw[Zgl e]at hc;exact hh c hc z hz
  ·rw[Zgk e]at hc;exact h.held i c hc z hz
 ·show((w.ws.set word new).getD i 0=_/\(w.hs.set word l).getD i []=_)\/(_<(w.ws.set word new).getD i 0/\_);rw[W,H];by_cases e:i=word
  ·rw[Zgl e];subst e;exact .inr ⟨hn,hf⟩
  ·rw[Zgk e,Zgk e];exact .inl ⟨rfl,rfl⟩
 ·show w.ws.getD 33 0<=(w.ws.set word new).getD 33 0;rw[nY];exact Zf6 _
theorem ZDv{w:WH}(h:WOk P N M w)(h1:word=0\/word=32\/word=33)(h0:word=0->new<=8)(h3:word=33->w.ws.getD 33 0<=new/\new<=N+1): WOk P (N+1) M ⟨w.ws.set word new,w.hs.set word []⟩/\ZAj w ⟨w.ws.set word new,w.hs.set word []⟩:=by
 have W:=λj=>YN w.ws word j new 0 (by rw[h.lw];omega);have H:=λj=>YN w.hs word j ([]:List ZL) [] (by rw[h.lh];omega);have nY:w.ws.getD 33 0<=(w.ws.set word new).getD 33 0:=by
  rw[W];by_cases e:33=word
  ·rw[Zgl e];exact(h3 e.symm).1
  ·rw[Zgk e];exact Zf6 _
 refine⟨⟨by show(w.ws.set word new).length=34;rw[ZfK];exact h.lw,by show(w.hs.set word []).length=34;rw[ZfK];exact h.lh,?_,λi a b=>?_,?_,λi=>?_,λi c hc z hz=>?_⟩,⟨λi a b=>?_,nY⟩⟩
 ·show(w.ws.set word new).getD 0 0<=8;rw[W];by_cases e:0=word
  ·rw[Zgl e];exact h0 e.symm
  ·rw[Zgk e];exact h.d
 ·show(w.ws.set word new).getD i 0<=_\/(_<=(w.ws.set word new).getD i 0/\(w.ws.set word new).getD i 0<=_);rw[W,Zgk ZB];have:=h.word i a b;omega
 ·show(w.ws.set word new).getD 33 0<=_;rw[W];by_cases e:33=word
  ·rw[Zgl e];exact(h3 e.symm).2
  ·rw[Zgk e];have:=h.n33;omega
 ·show Yu P ((w.hs.set word []).getD i [])/\((w.hs.set word []).getD i []).length<=M;rw[H];by_cases e:i=word
  ·rw[Zgl e];exact⟨⟨List.Pairwise.nil,(λc hc=>by cases hc),ZgR _⟩,ZgR _⟩
  ·rw[Zgk e];exact h.cells i
 ·show z<=((w.ws.set word new).getD 33 0:Int);have hc:c ∈ (w.hs.set word []).getD i []:=hc;rw[H]at hc;by_cases e:i=word
  ·rw[Zgl e]at hc;cases hc
  ·rw[Zgk e]at hc;have:=h.held i c hc z hz;omega
 ·show((w.ws.set word new).getD i 0=_/\(w.hs.set word []).getD i []=_)\/_;rw[W,H,Zgk ZB,Zgk ZB];exact .inl ⟨rfl,rfl⟩
theorem ZLl {w:WH}{word:Nat}{l:List ZL}{Q:Int->Prop}(hl:w.hs.length=34)(h2:word<34)(ho:∀c ∈ l,∀z ∈ c.held,Old w z\/Q z)(ws:List Nat):∀i,∀c' ∈ (WH.mk ws (w.hs.set word l)).hs.getD i [],∀z ∈ c'.held,Old w z\/Q z:=by
 intro i c' hc z hz;have hc:c' ∈ (w.hs.set word l).getD i []:=hc;rw[YN w.hs word i l [] ZB]at hc;by_cases e:i=word
 ·rw[Zgl e]at hc;exact ho c' hc z hz
 ·rw[Zgk e]at hc;exact .inl ⟨i,c',hc,hz⟩
theorem ZBF {w:WH}(hl:w.hs.length=34)(h2:word<34)(ho:∀c ∈ l,∀z ∈ c.held,Old w z)(ws):∀i,∀c' ∈ (WH.mk ws (w.hs.set word l)).hs.getD i [],∀z ∈ c'.held,Old w z:=λi c' hc z hz=>(ZLl (Q:=λ_=>False) hl h2 (λc hc z hz=>.inl (ho c hc z hz)) ws i c' hc z hz).resolve_right id
theorem ZDV(hP:∀p ∈ P,Yt p){i:Nat}(h:i<P.length):Yt (Zf P i):=hP _ (by
 unfold Zf;rw[Zez,Ze4 h];exact List.getElem_mem h)
theorem ZGq(h:Yt p)(k:p.kind=2):1<=p.perm/\p.perm<=64:=h.elim (λh=>by have:=h.1;omega) (λh=>h.2)
theorem ZGr(h:Yt p)(k:p.kind=1):1<=p.T/\p.T<=4611686018427387903/\0<=p.Tau/\p.Tau<=4611686018427387903:=h.elim (λh=>h.2) (λh=>by have:=h.1;omega)
theorem ZSg(h:Yt p)(k:p.kind≠2):p.kind=1:=h.elim (λh=>h.1) (λh=>absurd h.1 k)
theorem ZWl {l:List Int}{t:Int}(hg:ZCJ l)(h:t ∈ l):atI l t<l.length:=by
 have ha:=ZKm hg t;obtain⟨i,hi⟩:=Ze7 h;have eG:=(Ze5.1 hi).1;rcases ZgC (atI l t) l.length with q|q
 ·exact q
 ·have:=ha.2.1 i ZB;rw[Zez,hi]at this;exact absurd this (Int.lt_irrefl _)
theorem ZSp {l:List Int}(h:z ∈ ZEJ l k):z ∈ l:=by
 unfold ZEJ at h;rcases ZfN.1 h with h|h
 ·exact ZfX h
 ·exact ZfV h
theorem ZEd {e:Nat}{g:Bool}{l w s:Int}(he:e<=16)(hl:0<=l/\l<=4611686018427387903)(hw:0<=w/\w<=4611686018427387903)(hs:0<=s/\s<=4611686018427387903)(hn:0<=n/\n<=4611686018427387903):RIn ⟨e,g,l,w,s,n⟩:=⟨he,hl,hw,hs,hn⟩
theorem ZEH:(0:Int)<=0/\(0:Int)<=4611686018427387903:=by decide
theorem ZWp(hp:1<=p.perm/\p.perm<=64)(hl:(c.held.length:Int)<p.perm)(hs:Ser ser):RIn (ZAa p c ser).1:=ZEd (ZgR _) ⟨by omega,by omega⟩ ZEH ⟨by have:=hs.1;omega,hs.2⟩ ZEH
theorem ZT7(h:ZBp P c)(hk:(Zf P c.pol).kind=2)(hp:1<=(Zf P c.pol).perm/\(Zf P c.pol).perm<=64)(hl:(c.held.length:Int)<(Zf P c.pol).perm)(hs:Ser ser)(hm:ser ∉ c.held):ZBp P (ZAa (Zf P c.pol) c ser).2:=by
 obtain⟨a,b,c1,d,e,f,g,i⟩:=h;have ah:(ZCD c.held (atI c.held ser) ser).length=c.held.length+1:=ZMA ser (ZOm _ _);exact⟨a,b,c1,d,e,ZTG (ZKm f ser) f hm hs,by show(ZCD c.held (atI c.held ser) ser).length<=64;omega,λ_=>by show((ZCD c.held (atI c.held ser) ser).length:Int)<=_;rw[ah];show((c.held.length+1:Nat):Int)<=(Zf P c.pol).perm;omega⟩
theorem ZWI(hp:1<=p.perm/\p.perm<=64)(hl:(c.held.length:Int)<=p.perm):RIn (ZBj p c n).1:=by
 unfold ZBj
 split
 ·next h=>
  have:0<c.held.length:=List.length_pos_of_mem h;exact ZEd (ZgR _) ⟨by omega,by omega⟩ ZEH ZEH ZEH
 ·exact ZBB (by decide)
theorem ZSb(h:ZBp P c):ZBp P (ZBj p c n).2:=by
 unfold ZBj
 split
 ·next hm=>
  obtain⟨a,b,c1,d,e,f,g,i⟩:=h;have ah:(ZEJ c.held (atI c.held n)).length=c.held.length - 1:=ZMP (ZWl f hm);exact⟨a,b,c1,d,e,ZTX _ f,by show(ZEJ c.held (atI c.held n)).length<=64;omega,λk=>by have:=i k;show((ZEJ c.held (atI c.held n)).length:Int)<=(Zf P c.pol).perm;rw[ah];omega⟩
 ·exact h
theorem ZSa(h:z ∈ (ZBj p c n).2.held):z ∈ c.held:=by
 unfold ZBj at h
 split at h
 ·exact ZSp h
 ·exact h
theorem ZWJ:(ZBj p c n).2.id=c.id:=by
 unfold ZBj
 split<;>rfl
theorem ZSk(hp:1<=p.perm/\p.perm<=64)(hl:(c.held.length:Int)<=p.perm):RIn (ZHk p c):=ZEd (ZgR _) ⟨by omega,by omega⟩ ZEH ZEH ZEH
theorem ZFN(h1:1<=T)(h3:0<=Tau)(ht:0<=tat)(cj:tat<=4611686018427387903)(hn:0<=now)(bG:now<=4611686018427387903):0<=Xh T Tau tat now/\Xh T Tau tat now<=4611686018427387903:=by
 unfold Xh
 split
 ·exact ZEH
 ·next h=>
  have a:=Zeb (a:=Tau - (max tat now - now)) (b:=T) ZB ZB;have b:=Zeb (a:=4611686018427387903 - max tat now) (b:=T) ZB ZB;have c:=Int.ediv_le_self T (a:=4611686018427387903 - max tat now) ZB;omega
theorem ZRA(h1:1<=T)(hn:n<=Xh T Tau tat now)(h0:0<n):max tat now+n*T<=4611686018427387903:=by
 unfold Xh at hn
 split at hn
 ·omega
 ·next h=>
  have:=Int.mul_le_of_le_ediv (a:=n) (b:=4611686018427387903 - max tat now) (c:=T) ZB ZB;omega
theorem ZTM(h1:1<=T)(h3:0<=Tau)(ht:0<=tat)(cj:tat<=4611686018427387903)(hn:0<=now)(bG:now<=4611686018427387903)(h0:0<=n)(hg:¬n<=Xh T Tau tat now):0<=ZDf T Tau tat now n/\ZDf T Tau tat now n<=4611686018427387903:=by
 unfold ZDf
 split
 ·exact⟨by decide,by decide⟩
 ·next h=>
  have h5:¬Tau<(n - 1)*T:=λq=>h (.inl q);have h6:¬(4611686018427387903 - max tat now) / T<n:=λq=>h (.inr q);have ES:=(ZFN h1 h3 ht cj hn bG).1;have hm:0<=(n - 1)*T:=Int.mul_nonneg ZB ZB;unfold Xh at hg
  split at hg
  ·omega
  ·next h7=>
   have h8:(Tau - (max tat now - now)) / T<n - 1:=by omega
   have h9:=Int.lt_mul_of_ediv_lt (a:=Tau - (max tat now - now)) (b:=n - 1) (c:=T) ZB h8;omega
theorem ZT4(hp:1<=p.T/\p.T<=4611686018427387903/\0<=p.Tau/\p.Tau<=4611686018427387903)(ht:0<=c.tat)(cj:c.tat<=4611686018427387903)(hn:0<=now)(bG:now<=4611686018427387903)(h0:0<=n): RIn (Yg p c now n).1/\0<=(Yg p c now n).2.tat/\(Yg p c now n).2.tat<=4611686018427387903:=by
 unfold Yg ZBq
 split
 ·next h=>
  have wC:0<=(if 0<n then max c.tat now+n*p.T else c.tat)/\(if 0<n then max c.tat now+n*p.T else c.tat)<=4611686018427387903:=by
   split
   ·next q=>
    have:=ZRA hp.1 h q;have h2:0<=n*p.T:=Int.mul_nonneg h0 ZB;exact⟨by omega,this⟩
   ·exact⟨ht,cj⟩
  exact⟨ZEd (ZgR _) (ZFN hp.1 hp.2.2.1 wC.1 wC.2 hn bG) ZEH ZEH ⟨hn,bG⟩,wC⟩
 ·next h=>exact⟨ZEd (ZgR _) (ZFN hp.1 hp.2.2.1 ht cj hn bG) (ZTM hp.1 hp.2.2.1 ht cj hn bG h0 h) ZEH ⟨hn,bG⟩,ht,cj⟩
theorem ZUt(hp:1<=p.T/\p.T<=4611686018427387903/\0<=p.Tau/\p.Tau<=4611686018427387903)(ht:0<=c.tat)(cj:c.tat<=4611686018427387903)(hn:0<=now)(bG:now<=4611686018427387903):RIn (ZJB p c now):=ZEd (ZgR _) (ZFN hp.1 hp.2.2.1 ht cj hn bG) ⟨by omega,by omega⟩ ZEH ⟨hn,bG⟩
theorem ZO3 (k):Xw k<18446744073709551616:=ZEY _ _ (by decide)
theorem ZFI{r:Zt}(res')(h:RIn r):ZDO P room N s x res ser (YP res' r)/\¬(YP res' r).fresh:=by
 unfold YP
 split
 ·exact⟨⟨rfl,rfl,rfl,h⟩,id⟩
 ·exact⟨h,id⟩
theorem ZGp{r:Zt}(res')(h1:x.op<=3)(h2:JY P N s x f)(h3:ZDH P s x ser f c)(h4:RIn r):ZBn P room N s x res ser (Ji room res' f c r):=by
 unfold Ji
 split
 ·exact⟨h1,h2,h3,h4⟩
 ·exact⟨rfl,rfl,rfl,h1,h2,h3,h4⟩
theorem ZBU(hP:∀p ∈ P,Yt p)(hx:Yn P x)(ho:x.op<=4)(h:JY P N s x f):ZBp P (YV f.cells x.pol x.key):=
 have q:=hx.2.2.1 ho
 ZMb h.ok.2.1 q.1 q.2.1 q.2.2 hP
theorem ZKg (l)(x:ZW):(YV l x.pol x.key).id=x.id:=by
 have:=ZCG l x.pol x.key;unfold ZL.id ZW.id;rw[this.1,this.2]
theorem ZDk{pol:Nat}{key:List Nat}(h:z ∈ (YV l pol key).held):∃c ∈ l,z ∈ c.held:=by
 cases hh:ZAK l (pol::key)with
 |true=>
  obtain⟨c,hc,_,_,e⟩:=ZB7 hh;rw[e]at h;exact⟨c,ZfU hc,h⟩
 |false=>rw[ZCr hh]at h;cases h
theorem ZMo(hP:∀p ∈ P,Yt p)(hx:Yn P x)(ho:x.op=2)(h:JY P N s x f)(hl:((YV f.cells x.pol x.key).held.length:Int)<(Zf P x.pol).perm)(hs:Ser ser)(hm:ser ∉ (YV f.cells x.pol x.key).held): ZDH P s x ser f (ZAa (Zf P x.pol) (YV f.cells x.pol x.key) ser).2/\RIn (ZAa (Zf P x.pol) (YV f.cells x.pol x.key) ser).1:=by
 have q:=hx.2.2.1 ZB;have hk:=hx.2.2.2.2 (.inl ho);have e:=(ZCG f.cells x.pol x.key).1;have hp:=ZGq (ZDV hP q.1) hk;have:=ZT7 (ser:=ser) (ZBU hP hx ZB h) (by rw[e];exact hk) (by rw[e];exact hp) (by rw[e];exact hl) hs hm;rw[e]at this;refine⟨⟨this,ZKg f.cells x,λz hz=>?_⟩,ZWp hp hl hs⟩;rcases ZLr.1 hz with hz|hz
 ·exact .inr ⟨hz,by have:=hs.1;omega⟩
 ·exact .inl hz
theorem ZOo(hP:∀p ∈ P,Yt p)(hx:Yn P x)(ho:x.op=2)(h:JY P N s x f)(hs:ser=0\/(Ser ser/\ser ∉ (YV f.cells x.pol x.key).held)):ZDO P room N s x res ser (Xd (Zf P x.pol) room res ser f (YV f.cells x.pol x.key)):=by
 have q:=hx.2.2.1 ZB;have hk:=hx.2.2.2.2 (.inl ho);have hc:=ZBU hP hx ZB h;have df:=hc.2.2.2.2.2.2.2 (by rw[(ZCG f.cells x.pol x.key).1];exact hk);rw[(ZCG f.cells x.pol x.key).1]at df;unfold Xd
 split
 ·exact(ZFI res (ZBB (by decide))).1
 ·next hn=>
  split
  ·next h0=>
   obtain⟨h1,h2⟩:=hs.resolve_left ZB;obtain⟨a,b⟩:=ZMo hP hx ho h ZB h1 h2;exact ZGp res ZB h a b
  ·next h0=>exact⟨rfl,rfl,rfl,ho,hs.elim id (λe=>absurd e.1.1 ZB),h,rfl,by omega⟩
theorem ZT0{v:Nat}(hP:∀p ∈ P,Yt p)(hx:Yn P x)(ho:x.op<=4)(hs:ZDD N s word v l)(hl:Yu P l)(hh:∀c ∈ l,∀z ∈ c.held,z<=(s.ws.getD 33 0:Int))(hz:ser=0\/(Ser ser/\ser ∉ (YV l x.pol x.key).held)): ZDO P room N s x res ser (ZAq P room x res ser word v l):=by
 have hF:JY P N s x ⟨word,v,l,atK l x.id,ZAK l x.id⟩:=⟨hs,hl,rfl,rfl,hh⟩;have q:=hx.2.2.1 ho;have hp:=ZDV hP q.1;have hc:ZBp P (YV l x.pol x.key):=ZBU hP hx ho hF;have e:=(ZCG l x.pol x.key).1;unfold ZAq
 dsimp only
 split
 ·next h1=>exact⟨h1,hF,rfl⟩
 ·split
  ·next h2=>exact ZOo (f:=⟨word,v,l,atK l x.id,ZAK l x.id⟩) hP hx h2 hF hz
  ·split
   ·next h3=>
    have hk:=hx.2.2.2.2 (.inr h3);have df:=hc.2.2.2.2.2.2.2 (by rw[e];exact hk);rw[e]at df;have hr:=ZWI (n:=x.n) (ZGq hp hk) df
    split
    ·exact hr
    ·exact ZGp res ZB hF ⟨ZSb hc,by rw[ZWJ];exact ZKg l x,λz hz=>.inl (ZSa hz)⟩ hr
   ·split
    ·next h5=>
     have df:=hc.2.2.2.2.2.2.2 (by rw[e];exact h5);rw[e]at df;exact ZSk (ZGq hp h5) df
    ·next h5=>exact⟨by have:=hx.1;omega,ZSg hp h5,hc⟩
theorem ZC9 {P:List YK}{room N j shards:Nat}{gone:Int}{s:WH}{x:ZW}{res:Bool}{ser:Int}(ho:x.op=5)(hj:j<shards)(hs:shards<=16)(h0:0<=gone)(hg:gone<=5000*(j+1:Nat)):ZDO P room N s x res ser (Zu j shards gone):=by
 unfold Zu
 split
 ·exact ZEd (ZgR _) ⟨h0,by omega⟩ ZEH ZEH ZEH
 ·exact⟨⟨ho,by omega,hs,h0,by omega⟩,rfl,by omega⟩
theorem ZUS{v:Nat}{t:ZAc}(hP:∀p ∈ P,Yt p)(hx:Yn P x)(ht:ZCY x t)(hs:ZDD N s word v l)(hl:Yu P l)(hh:∀c ∈ l,∀z ∈ c.held,z<=(s.ws.getD 33 0:Int))(hz:ser=0\/(Ser ser/\ser ∉ (YV l x.pol x.key).held)): ZDO P room N s x res ser (ZEN P room x res ser word v l t):=by
 cases t with
 |begin=>exact ZT0 hP hx ht hs hl hh hz
 |evict j shards gone=>
  obtain⟨a,b,c,d,e⟩:=ht;unfold ZEN
  dsimp only
  split
  ·exact ZC9 a b c d ZB
  ·exact⟨a,b,c,d,e,hs,hl⟩
theorem ZH9{sum:Nat}{t:ZAc}(hP:∀p ∈ P,Yt p)(hx:Yn P x)(ht:ZCY x t)(hS:ZJo x sum t)(hs:sum<18446744073709551616)(h1:1<=word)(h2:word<32)(W:WOk P N M s)(hz:ser=0\/(Ser ser/\ser ∉ (YV (s.hs.getD word []) x.pol x.key).held)): ZDO P room N s x res ser (Yx P room x res ser sum word (s.ws.getD word 0) (s.hs.getD word []) t):=by
 unfold Yx
 split
 ·exact⟨ht,hS,hs⟩
 ·next h=>exact ZUS hP hx ht ⟨h1,h2,by have:=W.word word h1 h2;omega,Zf6 _,λ_=>rfl⟩ (W.cells word).1 (W.held word) hz
theorem ZKP{i:Nat}(hl:level<=3)(hi:i<=2 ^ level):ZDO P room N s x res ser (.on (XM level i)):=by
 unfold XM
 split
 ·exact hl
 ·next h=>
  have hp:2 ^ level<=8:=ZgO ZB hl;have hq:1<=2 ^ level:=ZgM;refine⟨⟨hl,by omega⟩,?_,?_⟩
  ·show 1<=2 ^ level+i % 2 ^ level;omega
  ·show 2 ^ level+i % 2 ^ level<32;have:=ZgG i (y:=2 ^ level) ZB;omega
theorem Xz{shard:Nat}(h:level<=4):1<=ZO level shard/\ZO level shard<32:=by
 have hp:2 ^ level<=16:=ZgO ZB h;have hq:1<=2 ^ level:=ZgM;have:=ZgG shard (y:=2 ^ level) ZB;unfold ZO;omega
theorem ZMI{t:ZAQ}(h:FOk P s x t)(hl:Yu P l)(hf:ZDF s l):ZDO P room N s x res ser (.on (Je l t)):=by
 cases t with
 |find sum level t=>exact⟨by omega,by have:=h.2.2.2;omega,⟨h.1,h.2.1,h.2.2.1⟩,hl,hf⟩
 |move level i=>exact⟨by omega,by have:=h.1;omega,⟨h.1,h.2,hl,hf⟩,hl,hf⟩
theorem ZHy{t:Jk}(hP:∀p ∈ P,Yt p)(hx:Yn P x)(h:HOk P s x t)(h1:1<=word)(h2:word<32)(W:WOk P N M s)(v)(hz:v≠0->ser=0\/(Ser ser/\ser ∉ (YV (s.hs.getD word []) x.pol x.key).held))(l)(hv:(v=0/\l=[])\/(v=s.ws.getD word 0/\l=s.hs.getD word [])): ZDO P room N s x res ser (XR P room x res ser word v l t):=by
 cases t with
 |find sum t=>
  unfold XR
  dsimp only
  split
  ·exact⟨h.1,h.2.1,h.2.2,h1,h2⟩
  ·next q=>
   obtain⟨rfl,rfl⟩:=hv.resolve_left (λe=>q e.1);exact ZH9 hP hx h.1 h.2.1 h.2.2 h1 h2 W (hz q)
 |move1 level i holds=>exact⟨by omega,by have:=h.1;omega,⟨h.1,h.2.1⟩,h.2.2.1,h.2.2.2⟩
 |move2 level i=>exact ZKP h.1 h.2
theorem ZWi(h:Yu P l)(a b):Yu P (JU l a b)/\(JU l a b).length<=l.length:=
 have q:(JU l a b).length<=l.length:=List.length_filter_le _ _
 ⟨⟨ZIk h.1 _,λc hc=>h.2.1 c (ZfR.1 hc).1,Zf8 q h.2.2⟩,q⟩
theorem ZWF{r:List ZL}(h:Yu P l)(k:r.Sublist l):Yu P r:=⟨h.1.sublist k,λc hc=>h.2.1 c (k.subset hc),Zf8 k.length_le h.2.2⟩
theorem ZR6 (l:List ZL)(i b c):(XL l i b c).length<=l.length+1:=by
 unfold XL
 split
 ·rw[ZfK];omega
 ·simp;omega
end Go.Proofs.YtloidkmphigbdaaGreat
