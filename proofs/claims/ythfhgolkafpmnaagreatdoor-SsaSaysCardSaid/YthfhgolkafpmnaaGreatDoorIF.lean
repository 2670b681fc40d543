/- Lemmas. -/
import Derived.Test.YthfhgolkafpmnaaGreatDoorIE
namespace Go.Proofs.YthfhgolkafpmnaaGreatDoor
open Go.Value renaming int->J,slice->I,string->aQ,bool->ag,agg->aC
open Go.IntKind renaming i64->Z
open Option renaming some->O,none->U
open Go renaming Value->K,World->ae
open List renaming replicate->aI,range->bj
open Go.Proofs.Tryz
open Go.Proofs.Tryz renaming prog->Y
open Go Go.RowKit
variable {X:bZ} {x:iA} {Q:iA->Prop} {u v:dk} {H:List cq} {l:List dP} {a bl:List aq} {o:List Nat} {R b c e i k n q t:Nat} {α:Type} {v1 v2:K}
section
set_option maxHeartbeats 8000000
attribute [local irreducible] wpListIn Code.wpIn Exit.then Exit.inBlock bodyPost wpQuiet wpAnyIn wpAnyH bodyPostM md
def wQ(a:ax)(c:Nat)(l:List Int):cq:=G a l.length c 3 1 (l.map (J Z))
theorem wN.ins{l:List Int}(h:wN R l)(hR:R<=10000):∀x∈l,dE x:=λx hx=>by have:=h.dq x hx;exact⟨A,A⟩
theorem Wd.VK{w0 w:ae}{H1 H2:List cq}(h:Wd db w0 (H1++H2) w):∀p v,w0.cell? p=O v->(cC (df H1) w).cell? p=O v:=λp v hc=>by
 have ce:=jC _ p hc;have hn:¬df H1 p.block:=λ⟨e,he,hb⟩=>by
  have:=(h.own e (cM _ he) _ hb).1;exact this.elim (λh=>h) λh=>A
 rw[<-hc];refine World.cell?_of_block ?_;rw[kL w hn];exact h.c_.block _ ce λh=>h
theorem IW(a:ax)(c:Nat)(l:List Int)(r:Int)(hl:l.length<=10000)(uB:∀x∈l,dE x)(w:ae)(hw:Wd (df [wQ a c l]) w [wQ a c l] w):
  iL Y 79 [I a l.length c,J Z r] w λu w'=>∃x:ax×Nat,u=I x.1 (iK l r).length x.2/\Wd (df [wQ a c l]) w [wQ x.1 x.2 (iK l r)] w'/\True:=by
 refine aR func79 rfl ntmps79 rfl hw ?_;obtain⟨SS,DT⟩:∃SS,SS=df [wQ a c l]:=⟨_,rfl⟩;rw[<-DT];refine bA ?_;refine bY rfl (λw hw=>u_ _ l r w (hw.nf (k:=0) rfl rfl A λi x hx=>⟨[J Z x],λj v hj=>by match j,hj with|0,hj=>simpa[hx]using hj,rfl,uB x (aA hx)⟩)) ?_
 by_cases hm:r∈l
 ·rw[Bq hm,fQ hm]
  refine aV ?_;exact dh rfl λw hw=>⟨(a,c),rfl,hw,trivial⟩
 ·have he:iK l r=l++[r]:=by unfold iK;rw[ai hm]
  rw[he,gx hm];unfold wQ
  repeat(first|refine aU ?_|refine dd λ_ _=>?_)
  refine fB rfl rfl A A λa' c'=>?_;refine aU ?_;refine dh rfl λw hw=>⟨(a',c'),by simp,?_,trivial⟩;rw[show(l++[r]).length=l.length+1 by simp,bz];exact hw.Gu [1] (by decide)
theorem Ac(a:ax)(c:Nat)(l:List Int)(R:Nat)(hR:R<=10000)(dV:wN R l)(va:ax)(vn vc:Nat)(tT:List cI)(hvs:∀v∈tT,kW R v)(w:ae)(hw:Wd (df [wQ a c l]) w [wQ a c l] w)(hv:aY (cC (df [wQ a c l]) w) (I va vn vc) 2 tT mp):
  iL Y 80 [I a l.length c,I va vn vc] w λu w'=>∃x:ax×Nat,u=I x.1 (meets l (tT.flatMap eR)).length x.2/\Wd (df [wQ a c l]) w [wQ x.1 x.2 (meets l (tT.flatMap eR))] w'/\True:=by
 refine aR func80 rfl ntmps80 rfl hw ?_;obtain⟨SS,DT⟩:∃SS,SS=df [wQ a c l]:=⟨_,rfl⟩;rw[<-DT]at hv|-
 obtain⟨ET,_⟩:=hv.at;have hK:tT≠[]->∃b oo:Nat,cl va b oo/\iO SS b/\∀(i:Nat) (v:cI),tT[i]?=O v->bu w b (oo+i*2) [ag v.dq,J Z v.n]:=λfZ=>by
  obtain⟨b,oo,h1,h2,h3⟩:=fd hv (λhc=>iF hc cK) (λ_ _ h=>⟨_,_,h.1⟩) fZ;refine⟨b,oo,h1,h2,λi x hx=>?_⟩;obtain⟨cs,h4,rfl,_⟩:=h3 i x hx;exact⟨λj v hj=>VI _ _ (h4.eq j v hj)⟩
 refine aU ?_;refine bH (λ(x:Nat×ax×Nat×List Int)=>x.1<=vn/\x.2.2.2=meets l ((tT.take x.1).flatMap eR)) (λx=>[(5,J Z x.1),(0,I x.2.1 x.2.2.2.length x.2.2.1),(1,I va vn vc)]) (λx=>[wQ x.2.1 x.2.2.1 x.2.2.2]) (λx=>vn-x.1) (0,a,c,l) ⟨aN _,rfl⟩ (aP V aF) λx ⟨hi,hm⟩=>?_;obtain⟨i,a',c',m⟩:=x;simp only at hi hm|-
 have EI:wN R m:=by
  rw[hm];refine dV.meets λr hr=>?_;obtain⟨v,hv,hr⟩:=dg.1 hr;unfold eR at hr
  split at hr
  ·rename_i pK
   rw[bQ.1 hr];exact hvs v (nz hv) pK
  ·cases hr
 have wO:=EI.len;refine bA ?_;apply aL<;>intro h1
 ·have iM:i<vn:=aD h1
  obtain⟨v,hvi⟩:=bE tT i A;obtain⟨b,oo,hAd,ajl,iw⟩:=hK (aZ hvi);have nO:=iw i v hvi;have kK:cg i vn:=⟨iM⟩;have YX:meets l ((tT.take (i+1)).flatMap eR)=meets m (eR v):=by rw[bV,hvi,ee,fz,<-hm];simp
  obtain⟨dq,k⟩:=v;simp only at nO;cases dq with
  |true=>
   rw[show meets m (eR ⟨true,k⟩)=iK m k from rfl]at YX;refine aU ?_;refine fU (H1:=[wQ a' c' m]++[]) rfl ?_;refine fO (val:=λx:ax×Nat=>.slice x.1 (iK m k).length x.2) (cZ:=λx=>[wQ x.1 x.2 (iK m k)]) (φ:=λ_=>True) rfl (λw hw=>IW a' c' m k A (EI.ins hR) w hw.pre) λx _=>?_;obtain⟨a2,c2⟩:=x;simp only[bF,aS];refine aU ?_;exact a_ (i+1,a2,c2,iK m k) ⟨by simp only;omega,YX.symm⟩ bB V aF
  |false=>
   rw[show meets m (eR ⟨false,k⟩)=m from rfl]at YX;refine aU ?_;exact a_ (i+1,a',c',m) ⟨by simp only;omega,YX.symm⟩ bB V aF
 ·have hie:i=tT.length:=by have:=cE h1;omega
  rw[hie,cL]at hm;subst hm;refine aV ?_;exact dh rfl λw hw=>⟨(a',c'),rfl,hw,trivial⟩
theorem RC(r:Nat):fV (r+1)=fV r++[(r:Int)]:=by
 unfold fV;rw[iV,bz]
 rfl
theorem Z8(ha:dE x.a.n)(hb:dE x.b.n)(hc:∀v∈x.args,dE v.n):∀v∈eh x,dE v.n:=λv hv=>by
 unfold eh at hv
 split at hv
 ·cases hv
 ·split at hv
  ·exact hc v hv
  ·split at hv
   ·simp only[bX,gr,or_false]at hv
    rcases hv with rfl|rfl
    ·exact ha
    ·exact hb
   ·split at hv
    ·simp only[bX,gr,or_false]at hv
     rw[hv];exact ha
    ·cases hv
theorem ac0(nm:ByteArray)(P R:Nat)(re:Int)(bl:List aq)(va:ax)(vn vc:Nat)(hP:P<=R)(hR:R<=10000)(hf:eW R bl)(Ix:∀B∈bl,∀x∈B.list,x.args.length<=1000)(w0:ae)(hb:aY w0 (I va vn vc) 6 bl da)(jX:bl.length<=1000):
  iL Y 37 [aC #[aQ nm,J Z (P:Int),J Z re,I va vn vc]] w0 λu w'=>∃x:ax×Nat,u=I x.1 (l_ P bl).length x.2/\Wd db w0 [wQ x.1 x.2 (l_ P bl)] w'/\True:=by
 classical
 refine aR func37 rfl ntmps37 rfl (Wd.nil db w0) ?_;obtain⟨ET,_⟩:=hb.at;have gV:∀B∈bl,∀r,r∈mZ B\/r∈pS B->0<=r/\r<R:=λB hB r hr=>nH hf hB hr
 repeat(first|refine aU ?_|refine dd λ_ _=>?_)
 rename_i p1 _;refine dJ 3 1 ?_;let Ta:=[D p1 nm (P:Int) re va vn vc];refine bH (λ(x:Nat×ax×Nat)=>x.1<=P) (λx=>[(4,J Z x.1),(3,I x.2.1 (fV x.1).length x.2.2),M 1 p1]) (λx=>wQ x.2.1 x.2.2 (fV x.1)::Ta) (λx=>P-x.1) (0,U,0) (aN _) (aP V aF) λx hi=>?_<;>(try unfold Ta);obtain⟨i,a,c⟩:=x;simp only at hi|-
 unfold wQ;refine bA ?_;apply aL<;>intro h1
 ·have iM:i<P:=aD h1
  have yT:=rz i
  repeat(first|refine aU ?_|refine dd λ_ _=>?_)
  refine fB rfl rfl A A λa' c'=>?_;rw[show(fV i).length+1=(fV (i+1)).length by rw[rz,rz],show(fV i).map (J Z)++[J Z (i:Int)]=(fV (i+1)).map (J Z) by rw[RC,bz];rfl];refine aU ?_;exact a_ (i+1,a',c') bB bB V aB
 have hiP:i=P:=by have:=cE h1;omega
 subst i;refine aV ?_;refine bH (λ(x:Nat×ax×Nat×List Int)=>x.1<=vn/\x.2.2.2=meets (fV P) ((bl.take x.1).flatMap mZ)) (λx=>[(5,J Z x.1),(3,I x.2.1 x.2.2.2.length x.2.2.1),M 1 p1]) (λx=>wQ x.2.1 x.2.2.1 x.2.2.2::Ta) (λx=>vn-x.1) (0,a,c,fV P) ⟨aN _,rfl⟩ (aP V aF) λx ⟨YR,hl⟩=>?_<;>(try unfold Ta);clear hi;obtain⟨i,a,c,l⟩:=x;simp only at YR hl|-
 have QX:wN R l:=by
  rw[hl];refine(wN.par hP).meets λr hr=>?_;obtain⟨B,hB,hr⟩:=dg.1 hr;exact gV B (nz hB) r (.inl hr)
 refine bA ?_;apply aL<;>intro h2
 ·have iM:i<vn:=aD h2
  obtain⟨B,hB⟩:=bE bl i A;have DS:=aA hB;have Cp:=hf.block i B hB;have Q3:∀r∈mZ B,0<=r/\r<R:=λr hr=>gV B DS r (.inl hr);obtain⟨b1,o1,Ge,zw,tN⟩:=fd (S:=db) hb (λ_=>inferInstance) (λ_ _ h=>by obtain⟨_,_,_,e,_⟩:=h;exact⟨_,_,e⟩) (aZ hB);obtain⟨_,IC,pv,lv,tv,rfl,_,YS,wP,kK,ht⟩:=tN i B hB;have KJ:cg i vn:=⟨iM⟩;obtain⟨pa,pn,pc,_,_,rfl,As,acw,NC,_⟩:=id wP;obtain⟨xa,xm,xc,_,_,rfl,Mw,Zg,Zf,_⟩:=id kK;obtain⟨F4,F6,F5,_,_,rfl,_⟩:=id ht
  repeat(first|refine aV ?_|refine dd λ_ _=>?_)
  rename_i p6 _;let Tb:=au p6 pa pn pc xa xm xc B.kind B.on F4 F6 F5::Ta;refine bG (H1:=(wQ a c l::Tb)) fM ?_<;>(try unfold Tb)<;>(try unfold Ta);refine bH (λ(x:Nat×ax×Nat×List Int)=>x.1<=pn/\x.2.2.2=meets l ((B.bg.take x.1).map (·.dst))) (λx=>[(7,J Z x.1),(3,I x.2.1 x.2.2.2.length x.2.2.1),M 6 p6,(5,J Z i),M 1 p1]) (λx=>wQ x.2.1 x.2.2.1 x.2.2.2::Tb) (λx=>pn-x.1) (0,a,c,l) ⟨aN _,rfl⟩ (aP V aF) λx ⟨hj,hm⟩=>?_<;>(try unfold Tb)<;>(try unfold Ta);obtain⟨j,a2,c2,m⟩:=x;simp only at hj hm|-
  have EI:wN R m:=by
   rw[hm];refine QX.meets λr hr=>Q3 r ?_;obtain⟨p,hp,rfl⟩:=aT.1 hr;exact cM _ (aT.2 ⟨p,nz hp,rfl⟩)
  refine bA ?_;apply aL<;>intro h3
  ·have iS:j<pn:=aD h3
   obtain⟨ph,Cw⟩:=bE B.bg j A;obtain⟨b2,o2,uu,td,r_⟩:=fd (S:=db) wP (λ_=>inferInstance) (λ_ _ h=>by obtain⟨_,e,_⟩:=h;exact⟨_,_,e⟩) (aZ Cw);obtain⟨_,uv,sv,rfl,_,rC⟩:=r_ j ph Cw;have aeP:cg j pn:=⟨iS⟩;refine aU ?_;refine fU (H1:=[wQ a2 c2 m]++(au p6 pa pn pc xa xm xc B.kind B.on F4 F6 F5::Ta)) rfl ?_<;>(try unfold Ta);refine fO (val:=λx:ax×Nat=>.slice x.1 (iK m ph.dst).length x.2) (cZ:=λx=>[wQ x.1 x.2 (iK m ph.dst)]) (φ:=λ_=>True) rfl (λw hw=>IW a2 c2 m ph.dst (by have:=EI.len;omega) (EI.ins hR) w hw.pre) λx _=>?_;obtain⟨a3,c3⟩:=x;simp only[bF,aS];refine aU ?_;exact a_ (j+1,a3,c3,iK m ph.dst) ⟨by simp only;omega,by simp only;rw[bV,Cw,bz,fz,<-hm];rfl⟩ bB V aF
  have hje:j=B.bg.length:=by have:=cE h3;omega
  rw[hje,cL]at hm;refine aV ?_;refine bH (λ(x:Nat×ax×Nat×List Int)=>x.1<=xm/\x.2.2.2=meets m ((B.list.take x.1).flatMap rM)) (λx=>[(8,J Z x.1),(3,I x.2.1 x.2.2.2.length x.2.2.1),M 6 p6,(5,J Z i),M 1 p1]) (λx=>wQ x.2.1 x.2.2.1 x.2.2.2::Tb) (λx=>xm-x.1) (0,a2,c2,m) ⟨aN _,rfl⟩ (aP V aF) λx ⟨hk,F0⟩=>?_<;>(try unfold Tb)<;>(try unfold Ta);obtain⟨k,a3,c3,m2⟩:=x;simp only at hk F0|-
  have hsI:∀x∈B.list,∀r∈rM x,0<=r/\r<R:=λx hx r hr=>Q3 r (en _ (cM _ (dg.2 ⟨x,hx,hr⟩)));have A9:wN R m2:=by
   rw[F0];refine EI.meets λr hr=>?_;obtain⟨x,hx,hr⟩:=dg.1 hr;exact hsI x (nz hx) r hr
  refine bA ?_;apply aL<;>intro h4
  ·have B0:k<xm:=aD h4
   obtain⟨x,hx⟩:=bE B.list k A;have qH:=aA hx;have JB:=hsI x qH;have jD:meets m ((B.list.take (k+1)).flatMap rM)=meets m2 (rM x):=by rw[bV,hx,ee,fz,<-F0];simp
   unfold rM at jD JB;rw[fz]at jD;obtain⟨b2,o2,uu,td,r_⟩:=fd (S:=db) kK (λ_=>inferInstance) (λ_ _ h=>by obtain⟨_,e,_⟩:=h;exact⟨_,_,e⟩) (aZ hx);obtain⟨_,uv,av,rfl,_,_,ahj,ahk,_,Mo⟩:=r_ k x hx;obtain⟨ava,OS,avc,_,_,rfl,_⟩:=id Mo;have ahy:cg k xm:=⟨B0⟩;refine aU ?_;refine cN (val:=λy:ax×Nat×Nat=>.slice y.1 (eh x).length y.2.1) (cZ:=λy=>[G y.1 (eh x).length y.2.1 y.2.2 2 ((eh x).flatMap GC)]) (φ:=λ_=>True) rfl (λw hw=>Xe x ava OS avc w (Mo.cB jH hw.c_) (Ix B DS x qH)) λy _=>?_;obtain⟨ya,yc,ye⟩:=y;simp only[bF,aS]
   refine bG (H1:=[wQ a3 c3 m2]++(G ya (eh x).length yc ye 2 ((eh x).flatMap GC)::au p6 pa pn pc xa xm xc B.kind B.on F4 F6 F5::Ta)) fM ?_<;>(try unfold Ta);refine fO (val:=λx':ax×Nat=>.slice x'.1 (meets m2 ((eh x).flatMap eR)).length x'.2) (cZ:=λx'=>[wQ x'.1 x'.2 (meets m2 ((eh x).flatMap eR))]) (φ:=λ_=>True) rfl (λw hw=>Ac a3 c3 m2 R hR A9 ya (eh x).length yc (eh x) (λv hv pK=>JB v.n (cM _ (dg.2 ⟨v,hv,by unfold eR;rw[al pK];simp⟩))) w hw.pre (BU (k:=0) hw.kw rfl rfl (by
     have:=Ix B DS x qH;unfold eh
     repeat' split
     all_goals first|omega|simp) (Z8 ahj ahk (OL Mo)))) λx' _=>?_
   obtain⟨a4,c4⟩:=x';simp only[bF,aS];obtain⟨m3,hm3⟩:∃m3,m3=meets m2 ((eh x).flatMap eR):=⟨_,rfl⟩;rw[<-hm3]at jD|-
   have KM:wN R m3:=by rw[hm3];exact A9.meets λr hr=>JB r (cM _ hr)
   refine aU ?_;apply aL<;>intro h6
   ·have fX:0<=x.dst:=aD h6
    rw[al fX,Hs]at jD;refine bA ?_;refine fU (H1:=[wQ a4 c4 m3]++(G ya (eh x).length yc ye 2 ((eh x).flatMap GC)::au p6 pa pn pc xa xm xc B.kind B.on F4 F6 F5::Ta)) rfl ?_<;>(try unfold Ta);refine fO (val:=λy:ax×Nat=>.slice y.1 (iK m3 x.dst).length y.2) (cZ:=λy=>[wQ y.1 y.2 (iK m3 x.dst)]) (φ:=λ_=>True) rfl (λw hw=>IW a4 c4 m3 x.dst (by have:=KM.len;omega) (KM.ins hR) w hw.pre) λy _=>?_;obtain⟨a5,c5⟩:=y;simp only[bF,aS];refine aU ?_;exact a_ (k+1,a5,c5,iK m3 x.dst) ⟨by simp only;omega,jD.symm⟩ bB V aB
   ·have ce:¬0<=x.dst:=aD h6
    rw[ai ce,sJ]at jD;refine aU ?_;exact a_ (k+1,a4,c4,m3) ⟨by simp only;omega,jD.symm⟩ bB V aB
  have hke:k=B.list.length:=by have:=cE h4;omega
  rw[hke,cL]at F0
  repeat(first|refine aV ?_|refine dd λ_ _=>?_)
  rename_i t1 _;refine bG (H1:=[wQ a3 c3 m2]++(G (O ⟨t1,0,U⟩) 1 1 41 2 [ag B.on.dq,J Z B.on.n]::au p6 pa pn pc xa xm xc B.kind B.on F4 F6 F5::Ta)) fM ?_<;>(try unfold Ta);have YX:meets m2 (([B.on]:List cI).flatMap eR)=meets (fV P) ((bl.take (i+1)).flatMap mZ):=by
   rw[bV,hB,ee,fz,<-hl,F0,hm,<-fz,<-fz];simp[mZ]
  refine fO (val:=λx':ax×Nat=>.slice x'.1 (meets m2 (([B.on]:List cI).flatMap eR)).length x'.2) (cZ:=λx'=>[wQ x'.1 x'.2 (meets m2 (([B.on]:List cI).flatMap eR))]) (φ:=λ_=>True) rfl (λw hw=>Ac a3 c3 m2 R hR A9 (O ⟨t1,0,U⟩) 1 1 [B.on] (λv hv pK=>by
   rw[bQ.1 hv]at pK|-
   exact Cp.on pK) w hw.pre (BU (k:=0) (e:=41) (l:=[B.on]) hw.kw rfl rfl A (λv hv=>by rw[bQ.1 hv];exact YS))) λx' _=>?_
  obtain⟨a4,c4⟩:=x';simp only[bF,aS];refine aU ?_;exact a_ (i+1,a4,c4,meets m2 (([B.on]:List cI).flatMap eR)) ⟨by simp only;omega,YX⟩ bB V aB
 have hie:i=bl.length:=by have:=cE h2;omega
 rw[hie,cL]at hl;refine aV ?_;obtain⟨L1,hL1⟩:∃L1,L1=l:=⟨_,rfl⟩;rw[<-hL1];have Ue:wN R L1:=by rw[hL1];exact QX
 rw[hL1.symm]at hl;refine bH (λ(x:Nat×ax×Nat×List Int)=>x.1<=vn/\x.2.2.2=meets L1 ((bl.take x.1).flatMap pS)) (λx=>[(9,J Z x.1),(3,I x.2.1 x.2.2.2.length x.2.2.1),M 1 p1]) (λx=>wQ x.2.1 x.2.2.1 x.2.2.2::Ta) (λx=>vn-x.1) (0,a,c,L1) ⟨aN _,rfl⟩ (aP V aF) λx ⟨Ju,hm⟩=>?_<;>(try unfold Ta);obtain⟨i,a,c,m⟩:=x;simp only at Ju hm|-
 have EI:wN R m:=by
  rw[hm];refine Ue.meets λr hr=>?_;obtain⟨B,hB,hr⟩:=dg.1 hr;exact gV B (nz hB) r (.inr hr)
 refine bA ?_;apply aL<;>intro h2
 ·have iM:i<vn:=aD h2
  obtain⟨B,hB⟩:=bE bl i A;have DS:=aA hB;have Cp:=hf.block i B hB;have hsP:∀r∈pS B,0<=r/\r<R:=λr hr=>gV B DS r (.inr hr);obtain⟨b1,o1,Ge,zw,tN⟩:=fd (S:=db) hb (λ_=>inferInstance) (λ_ _ h=>by obtain⟨_,_,_,e,_⟩:=h;exact⟨_,_,e⟩) (aZ hB);obtain⟨_,IC,pv,lv,tv,rfl,_,YS,wP,kK,ht⟩:=tN i B hB;have KJ:cg i vn:=⟨iM⟩;obtain⟨pa,pn,pc,_,_,rfl,As,acw,NC,_⟩:=id wP;refine aU ?_;refine bH (λ(x:Nat×ax×Nat×List Int)=>x.1<=pn/\x.2.2.2=meets m ((B.bg.take x.1).flatMap λp=>p.src.flatMap eR)) (λx=>[(10,J Z x.1),(3,I x.2.1 x.2.2.2.length x.2.2.1),(9,J Z i),M 1 p1]) (λx=>wQ x.2.1 x.2.2.1 x.2.2.2::Ta) (λx=>pn-x.1) (0,a,c,m) ⟨aN _,rfl⟩ (aP V aF) λx ⟨hj,F0⟩=>?_<;>(try unfold Ta);obtain⟨j,a2,c2,m2⟩:=x;simp only at hj F0|-
  have se:∀p∈B.bg,∀r∈p.src.flatMap eR,0<=r/\r<R:=λp hp r hr=>hsP r (dg.2 ⟨p,hp,hr⟩);have A9:wN R m2:=by
   rw[F0];refine EI.meets λr hr=>?_;obtain⟨p,hp,hr⟩:=dg.1 hr;exact se p (nz hp) r hr
  refine bA ?_;apply aL<;>intro h3
  ·have iS:j<pn:=aD h3
   obtain⟨ph,Cw⟩:=bE B.bg j A;obtain⟨b2,o2,uu,td,r_⟩:=fd (S:=db) wP (λ_=>inferInstance) (λ_ _ h=>by obtain⟨_,e,_⟩:=h;exact⟨_,_,e⟩) (aZ Cw);obtain⟨_,uv,sv,rfl,_,rC⟩:=r_ j ph Cw;obtain⟨sva,svn,svc,_,_,rfl,_⟩:=id rC;have aeP:cg j pn:=⟨iS⟩;refine aU ?_;refine fU (H1:=[wQ a2 c2 m2]++[D p1 nm (P:Int) re va vn vc]) rfl ?_;refine fO (val:=λx:ax×Nat=>.slice x.1 (meets m2 (ph.src.flatMap eR)).length x.2) (cZ:=λx=>[wQ x.1 x.2 (meets m2 (ph.src.flatMap eR))]) (φ:=λ_=>True) rfl (λw hw=>Ac a2 c2 m2 R hR A9 sva svn svc ph.src (λv hv pK=>se ph (aA Cw) v.n (dg.2 ⟨v,hv,by unfold eR;rw[al pK];simp⟩)) w hw.pre (rC.le Bu hw.VK)) λx _=>?_;obtain⟨a3,c3⟩:=x;simp only[bF,aS];refine aU ?_;exact a_ (j+1,a3,c3,meets m2 (ph.src.flatMap eR)) ⟨by simp only;omega,by simp only;rw[bV,Cw,ee,fz,<-F0];simp⟩ bB V aF
  have hje:j=B.bg.length:=by have:=cE h3;omega
  rw[hje,cL]at F0;refine aV ?_;exact a_ (i+1,a2,c2,m2) ⟨by simp only;omega,by simp only;rw[bV,hB,ee,fz,<-hm,F0];simp[pS]⟩ bB V aF
 have ahl:i=bl.length:=by have:=cE h2;omega
 rw[ahl,cL]at hm;have hmE:m=l_ P bl:=by
  rw[hm,hl,<-fz];unfold l_ DG Ah;rw[fz []];congr 1;exact(vA (qL P)).symm
 rw[hmE];refine aV ?_;exact dh rfl λw hw=>⟨(a,c),rfl,hw.Gu [0] (by decide),trivial⟩
theorem Pt{x:Int}:∀{l:List Int} {i:Nat},l[i]?=O x->l.idxOf x<=i
 |[],i,h=>by simp at h
 |y::l,0,h=>by
  simp only[jN,cF]at h;subst h;simp
 |y::l,i+1,h=>by
  rw[List.idxOf_cons];cases(y==x)
  ·have:=Pt (l:=l) (i:=i) (aD h)
   simpa using this
  ·simp
def Oj(l:List Int)(x:Int):Int:=if x∈l then(l.idxOf x:Int)else -1
theorem Fi(v:K)(l:List Int)(x:Int)(w0:ae)(hv:aY w0 v 1 l gI):gF Y 76 [v,J Z x] w0 (J Z (Oj l x)):=by
 obtain⟨a,n,c,b,o,rfl,hn,qg,A_,hc,ha,iw⟩:=hv;refine aR func76 rfl ntmps76 rfl (Wd.nil db w0) ?_;refine aU ?_;refine bH (λ(i:Nat)=>i<=n/\∀j y,j<i->l[j]?=O y->y≠x) (λi=>[(5,J Z i),(0,I a n c),(1,J Z x)]) (λ_=>[]) (λi=>n-i) 0 ⟨aN _,λj y hj=>A⟩ (aP V kg) λi ⟨hi,cX⟩=>?_;refine bA ?_;apply aL<;>intro h1
 ·have ce:i<n:=aD h1
  obtain⟨t,ht⟩:=bE l i A;have mJ:cl a b o:=⟨ha (aZ ht)⟩;have kK:cg i n:=⟨ce⟩;obtain⟨cs,gW,rfl,_⟩:=iw i _ ht;have nO:bu w0 b (o+i*1) _:=⟨gW⟩;refine aU ?_;apply aL<;>intro h2
  ·have h5:t=x:=aD h2
   refine aV ?_;refine cv rfl ?_;subst h5;unfold Oj;rw[al (aA ht)];congr 1;have h3:=ll (aA ht);have h4:=nw h3;have:¬l.idxOf t<i:=λce=>cX _ _ ce (bL h3) h4;have h6:=Pt ht;omega
  ·have h5:t≠x:=aD h2
   refine aU ?_;refine a_ (i+1) ⟨ce,λj y hj hy=>?_⟩ A V cK
   by_cases e:j=i
   ·subst e
    rw[ht]at hy;exact λe=>h5 (by rw[<-e];exact bJ hy)
   ·exact cX j y A hy
 ·have fX:i=n:=by have:=h1;simp at this;omega
  refine aV ?_;refine cv rfl ?_;unfold Oj;rw[ai λh=>?_];obtain⟨j,hj⟩:=bR h;exact absurd rfl (cX j x (by have:=(aJ.1 hj).1;omega) hj)
theorem Jb{L:List Int}{r:Int}(h:r∈L):Oj L r=gH L r:=by unfold Oj gH;rw[al h]
theorem xJ(L:List Int)(l:K)(v:cI)(hv:∀r∈eR v,r∈L)(w0:ae)(hl:aY w0 l 1 L gI):
  iL Y 81 [aC #[ag v.dq,J Z v.n],l] w0 λu w'=>∃_x:Unit,u=aC #[ag (cr L v).dq,J Z (cr L v).n]/\Wd db w0 [] w'/\True:=by
 obtain⟨dq,k⟩:=v;refine aR func81 rfl ntmps81 rfl (Wd.nil db w0) ?_;cases dq with
 |false=>
  rw[show cr L ⟨false,k⟩=⟨false,k⟩from rfl]
  repeat(first|refine aV ?_|refine dd λ_ _=>?_)
  exact fD rfl λw hw=>⟨(),rfl,hw.sub cK,trivial⟩
 |true=>
  rw[show cr L ⟨true,k⟩=⟨true,gH L k⟩from rfl];have hk:=Jb (hv k (by simp[eR]))
  repeat(first|refine aU ?_|refine dd λ_ _=>?_)
  refine bY rfl (λw hw=>Fi l L k w (hl.cB du hw.c_)) ?_;rw[hk];refine aV ?_;exact fD rfl λw hw=>⟨(),rfl,hw.sub cK,trivial⟩
theorem HG{o:Nat}{y:dP}(hk:H[k]?=O (G (O ⟨b,o,U⟩) n c e 8 (l.flatMap ki)))(hy:l[i]?=O y)(f:Nat)(h1:(ki y)[f]?=O v1)(h2:(ki y)[f+1]?=O v2):gm H b (o+i*8+f) [v1,v2]:=⟨λ_ _ w hw j v hj=>by
 match j,hj with
 |0,hj=>
  have h5:=hw.dp hk (e_ ep l i y f _ hy h1);rw[<-eB]at h5;simp only[jN,cF]at hj;rw[<-hj];exact h5
 |1,hj=>
  have h5:=hw.dp hk (e_ ep l i y (f+1) _ hy h2);rw[<-eB,<-eB]at h5;simp only[oD,jN,cF]at hj;rw[<-hj];exact h5
 |j+2,hj=>simp at hj⟩
theorem LK{a:ax}(hx:l[i]?=O (⟨x,a,c⟩:dP))(v:cI):(l.flatMap ki).take (i*8+2)++[ag v.dq,J Z v.n]++(l.flatMap ki).drop (i*8+2+2)=(l.set i (⟨{x with a:=v},a,c⟩:dP)).flatMap ki:=by
 have iM:=(aJ.1 hx).1;rw[CO (by rw[cA ep];omega),fL ep hx (k:=2) (y:=(⟨{x with a:=⟨v.dq,x.a.n⟩},a,c⟩:dP)) A rfl];rw[show i*8+2+1=i*8+3 by omega,fL ep (x:=(⟨{x with a:=⟨v.dq,x.a.n⟩},a,c⟩:dP)) (fk iM) (k:=3) (y:=(⟨{x with a:=v},a,c⟩:dP)) A rfl,List.set_set]
theorem LM{a:ax}(hx:l[i]?=O (⟨x,a,c⟩:dP))(v:cI):(l.flatMap ki).take (i*8+4)++[ag v.dq,J Z v.n]++(l.flatMap ki).drop (i*8+4+2)=(l.set i (⟨{x with b:=v},a,c⟩:dP)).flatMap ki:=by
 have iM:=(aJ.1 hx).1;rw[CO (by rw[cA ep];omega),fL ep hx (k:=4) (y:=(⟨{x with b:=⟨v.dq,x.b.n⟩},a,c⟩:dP)) A rfl];rw[show i*8+4+1=i*8+5 by omega,fL ep (x:=(⟨{x with b:=⟨v.dq,x.b.n⟩},a,c⟩:dP)) (fk iM) (k:=5) (y:=(⟨{x with b:=v},a,c⟩:dP)) A rfl,List.set_set]
theorem set_tail{ys d:List α}{x y:α}(h:ys.length=k):((ys++[x])++d).set k y=(ys++[y])++d:=by
 rw[List.set_append_left _ _ (by simp[h]),kj _ _ A,h,cV]
 rfl
theorem AT{ys d:List α}{x:α}(h:ys.length=k):((ys++[x])++d)[k]?=O x:=by
 rw[eX (by simp[h]),dH A,h,cV]
 rfl
theorem Ou(nm:ByteArray)(pa re:Int)(bl:List aq)(bs:K)(R:Nat)(hR:R<=10000)(L:List Int)(la:ax)(ln lc:Nat)(hL:wN R L)(pK:∀B∈bl,(∀r,r∈mZ B\/r∈pS B->r∈L)/\∀x∈B.list,∀v:cI,v=x.a\/v=x.b\/v∈x.args->∀r∈eR v,r∈L)(w0:ae)(gV:aY w0 bs 6 bl da)(hlen:bl.length<=1000)(oF:∀b:aK,b.dD∈bl->b.Bd)(hl:aY w0 (I la ln lc) 1 L gI):
  iL Y 38 [aC #[aQ nm,J Z pa,J Z re,bs],I la ln lc] w0 λu w'=>∃x:ax×Nat×List aK,u=aC #[aQ nm,J Z pa,J Z re,I x.1 x.2.2.length x.2.1]/\Wd db w0 (eM x.1 x.2.1 x.2.2) w'/\(x.2.2.map aK.dD=bl.map (py L)/\∀b∈x.2.2,b.Bd):=by
 classical
 have hLl:=hL.len;refine aR func38 rfl ntmps38 rfl (Wd.nil db w0) ?_
 repeat(first|refine bA ?_|refine dd λ_ _=>?_)
 rename_i p2 _ p4 _;refine cN (val:=λx:ax×Nat×List aK=>.agg #[aQ nm,J Z pa,J Z re,I x.1 x.2.2.length x.2.1]) (cZ:=λx=>eM x.1 x.2.1 x.2.2) (φ:=λx=>x.2.2.map aK.dD=bl/\∀b∈x.2.2,b.Bd) rfl (λw hw=>AP nm pa re bl bs w (gV.cB cu hw.c_) hlen λb h1 h2=>?_) λx hx=>?_
 ·exact oF b h1
 obtain⟨ga,gc,gs⟩:=x;obtain⟨Pg,Mr⟩:=hx;simp only at Pg Mr|-
 repeat(first|refine aV ?_|refine dd λ_ _=>?_)
 rename_i p5 _;obtain⟨n,hn⟩:∃n,n=gs.length:=⟨_,rfl⟩;have qe:bl.length=n:=by rw[<-Pg,aG,hn]
 rw[<-hn];refine lr (H':=D p5 nm pa re ga n gc::aj p4::am ga n gc gs::gs.map bP) (λw hw=>?_) ?_
 ·refine hw.pick ⟨[aM p2 [aQ nm,J Z pa,J Z re,bs] 35],aX.2 λe=>?_⟩
  unfold eM;rw[<-hn];simp only[bU,bM,dG,D,aj,am];omega
 refine bH (λ(x:Nat×List aK)=>x.1<=n/\x.2.length=n/\x.2.map aK.dD=(bl.take x.1).map (py L)++bl.drop x.1/\∀b∈x.2,b.Bd) (λx=>[(6,J Z x.1),M 5 p5,M 4 p4,(1,I la ln lc)])
  (λx=>D p5 nm pa re ga n gc::aj p4::am ga n gc x.2::x.2.map bP) (λx=>n-x.1) (0,gs) ⟨aN _,hn.symm,by rw[Pg];simp,Mr⟩ (aP V aF) λx ⟨hi,oG,Mu,rB⟩=>?_
 obtain⟨i,rs⟩:=x;simp only at hi oG Mu rB|-
 refine bA ?_;apply aL<;>intro h2
 ·have iM:i<n:=aD h2
  obtain⟨BB,Ko⟩:∃B,rs[i]?=O B:=⟨_,bL A⟩;have hB:bl[i]?=O BB.dD:=by
   have h3:(rs.map aK.dD)[i]?=O BB.dD:=by rw[aW,Ko];rfl
   rw[Mu,dH dr,aG,dA,fP A,cV,gp,dR]at h3;exact h3
  have Cq:bl.drop i=BB.dD::bl.drop (i+1):=by rw[jb A,(aJ.1 hB).2]
  have DS:=aA hB;have rP:=rB _ (aA Ko);obtain⟨Y6,aih⟩:=pK _ DS;obtain⟨qa,qc,ps,ji,eO,xs,kd,on,xa,xc,to⟩:=BB;have Dx:ps.length<=1000:=rP.bg;have K0:xs.length<=1000:=rP.list;refine fy 2 rfl A λvb vo qt=>?_;subst qt;have KJ:cg i n:=⟨iM⟩;have zu:gm (D p5 nm pa re (O ⟨vb,vo,U⟩) n gc::aj p4::am (O ⟨vb,vo,U⟩) n gc rs::rs.map bP) vb (vo+i*6) _:=jJ (k:=2) rfl de Ko;simp only[eA,D,aj,am]at zu
  repeat(first|refine aV ?_|refine dd λ_ _=>?_)
  rename_i p7 _;have EL:=ig bP Ko;let Th:=(⟨qa,qc,ps,ji,eO,xs,kd,on,xa,xc,to⟩:aK);let Tl:=(au p7 qa ps.length qc ji xs.length eO kd on xa to.length xc::D p5 nm pa re (O ⟨vb,vo,U⟩) n gc::aj p4::am (O ⟨vb,vo,U⟩) n gc rs::(rs.eraseIdx i).map bP);refine bG (H1:=bP Th::Tl) (aX.2 λe=>?_) ?_<;>(try unfold Tl)<;>try unfold Th
  ·have:=aX.1 EL e
   simp only[bM,D,aj,am,au]at this|-
   omega
  refine uY ?_;let Tx:=(ps.map dZ++(oz Th++(rs.eraseIdx i).map bP));refine bG (H1:=aw qa ps.length qc ps::au p7 qa ps.length qc ji xs.length eO kd on xa to.length xc::D p5 nm pa re (O ⟨vb,vo,U⟩) n gc::aj p4::am (O ⟨vb,vo,U⟩) n gc rs::Tx) (aX.2 λe=>?_) ?_<;>(try unfold Tx)<;>try unfold Th
  ·have:=aX.1 (xd Th) e
   unfold phV at this;simp only[bM,bU,D,aj,am,au,aw,Th]at this|-
   omega
  let Tf:=[M 7 p7,(6,J Z i),M 5 p5,M 4 p4,(1,I la ln lc)];refine bH (λ(es:List ch)=>es.length<=ps.length/\es.map ch.iN=(ps.take es.length).map (λq=>Gs L q.iN)/\∀q∈es,dE q.dst/\q.l.length<=1000/\∀v∈q.l,dE v.n) (λes=>(8,J Z es.length)::Tf)
   (λes=>aw qa ps.length qc (es++ps.drop es.length)::au p7 qa ps.length qc ji xs.length eO kd on xa to.length xc::D p5 nm pa re (O ⟨vb,vo,U⟩) n gc::aj p4::am (O ⟨vb,vo,U⟩) n gc rs::((es++ps.drop es.length).map dZ++(oz Th++(rs.eraseIdx i).map bP))) (λes=>ps.length-es.length) [] ⟨aN _,rfl,by simp⟩ (aP V aF) λes ⟨Ju,vZ,zR⟩=>?_<;>(try unfold Tf)<;>try unfold Th
  refine bA ?_;apply aL<;>intro h3
  ·have ce:es.length<ps.length:=aD h3
   generalize tO:es.length=ei at*;obtain⟨u,hu⟩:=bE ps ei ce;have F2:=aA hu;obtain⟨hud,Gk,ES⟩:=rP.iN u F2;obtain⟨pd,iq,pk,pl⟩:=u;simp only at hud Gk ES;have ah0:pd∈L:=Y6 pd (.inl (cM _ (aT.2 ⟨⟨pd,pl⟩,aT.2 ⟨⟨pd,iq,pk,pl⟩,F2,rfl⟩,rfl⟩)));have Hh:∀v∈pl,∀r∈eR v,r∈L:=λv hv r hr=>Y6 r (.inr (dg.2 ⟨⟨pd,pl⟩,aT.2 ⟨⟨pd,iq,pk,pl⟩,F2,rfl⟩,dg.2 ⟨v,hv,hr⟩⟩));refine fy 0 rfl A λzb zo Bk=>?_;subst Bk;have Dt:cg ei ps.length:=⟨ce⟩;have jT:(es++ps.drop ei)[ei]?=O (⟨pd,iq,pk,pl⟩:ch):=by
    rw[dH A,tO,cV,gp,dR];exact hu
   have BZ:ps.drop ei=(⟨pd,iq,pk,pl⟩:ch)::ps.drop (ei+1):=by rw[jb ce,(aJ.1 hu).2]
   let Ts:=(⟨O ⟨zb,zo,U⟩,qc,ps,ji,eO,xs,kd,on,xa,xc,to⟩:aK);let To:=((es++ps.drop (ei+1)).map dZ++(oz Ts++(rs.eraseIdx i).map bP));let Tb:=au p7 (O ⟨zb,zo,U⟩) ps.length qc ji xs.length eO kd on xa to.length xc::D p5 nm pa re (O ⟨vb,vo,U⟩) n gc::aj p4::am (O ⟨vb,vo,U⟩) n gc rs::To;let Tp:=aw (O ⟨zb,zo,U⟩) ps.length qc (es++ps.drop ei)::Tb;refine bG (H1:=ar iq pl.length pk pl::Tp) (aX.2 λe=>?_) ?_<;>(try unfold Tp)<;>(try unfold Tb)<;>(try unfold To)<;>try unfold Ts
   ·rw[BZ]
    have e2:dZ (⟨pd,iq,pk,pl⟩:ch)=ar iq pl.length pk pl:=rfl;simp only[bz,cf,bU,bM,e2,D,aj,am,au,ar,aw];omega
   have hoc:gB (ar iq pl.length pk pl::Tp) zb (zo+ei*2) (J Z pd):=⟨λ_ _ _ hw=>by
    have h5:=hw.dp (k:=1) rfl (e_ eP _ ei _ 0 (J Z pd) jT rfl);rwa[dR]at h5⟩
   have EU:lS ((es++ps.drop ei).flatMap iz) (ei*2+0) (J Z (gH L pd)) (((es++[(⟨gH L pd,iq,pk,pl⟩:ch)])++ps.drop (ei+1)).flatMap iz):=⟨by
    rw[fL eP jT (k:=0) A (y:=(⟨gH L pd,iq,pk,pl⟩:ch)) rfl];congr 1;exact kS tO ce,by rw[cA eP,bW,eS];omega⟩
   have Ny:mf (ar iq pl.length pk pl::Tp) zb (zo+ei*2) 1 zo (ei*2+0) ps.length qc 49 2 ((es++ps.drop ei).flatMap iz):=⟨rfl,A⟩;refine aU ?_;let Tu:=((es++[(⟨gH L pd,iq,pk,pl⟩:ch)])++ps.drop (ei+1));let Tj:=aw (O ⟨zb,zo,U⟩) ps.length qc Tu::Tb;refine dI [au p7 (O ⟨zb,zo,U⟩) ps.length qc ji xs.length eO kd on xa to.length xc] (λ_:Unit=>True) (λ_=>(8,J Z ei)::Tf) (λ_=>ar iq pl.length pk pl::Tj) mixed aB ?_ λ_ _=>?_
   ·refine W 0 ?_;refine W 1 ?_;refine W 2 ?_;refine W 3 ?_;refine W 4 ?_;refine W 5 ?_;refine W 6 ?_;refine W 7 ?_;refine W 8 ?_;refine cD 9 E (gM 9 rfl aB ?_);refine vY 10 rfl E aB (λw hw=>Fi _ L pd w (hl.cB du hw.c_)) ?_;rw[Jb ah0];refine W 11 ?_;refine W 12 ?_;refine jr 13 E E aB ?_;exact dy () trivial V aF
   clear Ny EU hoc;have rQ:((es++[(⟨gH L pd,iq,pk,pl⟩:ch)])++ps.drop (ei+1))[ei]?=O (⟨gH L pd,iq,pk,pl⟩:ch):=by
    rw[eX (by simp[tO]),dH A,tO,cV];rfl
   have acp:∀zf:cq,gB (zf::Tj) zb (zo+ei*2+1) (I iq pl.length pk):=λzf=>⟨λ_ _ _ hw=>by
    have h5:=hw.dp (k:=1) rfl (e_ eP _ ei _ 1 (I iq pl.length pk) rQ rfl);rwa[<-eB]at h5⟩
   let Tq:=[au p7 (O ⟨zb,zo,U⟩) ps.length qc ji xs.length eO kd on xa to.length xc];have aco:gB (aw (O ⟨zb,zo,U⟩) ps.length qc Tu::Tq) zb (zo+ei*2+1) (I iq pl.length pk):=⟨λ_ _ _ hw=>by
    have h5:=hw.dp (k:=0) rfl (e_ eP _ ei _ 1 (I iq pl.length pk) rQ rfl);rwa[<-eB]at h5⟩
   refine aU ?_;obtain⟨yZ,yU⟩:∃f:Nat->List cI,f=λj=>(pl.take j).map (cr L)++pl.drop j:=⟨_,rfl⟩;have KY:∀j,(yZ j).length=pl.length:=λj=>by rw[yU];simp;omega
   have Vk:yZ 0=pl:=by rw[yU];simp
   rw[show ar iq pl.length pk pl=ar iq pl.length pk (yZ 0) by rw[Vk]];refine bH (λ(j:Nat)=>j<=pl.length) (λj=>(9,J Z j)::(8,J Z ei)::Tf)
    (λj=>ar iq pl.length pk (yZ j)::Tj) (λj=>pl.length-j) 0 (aN _) (aP V aF) λj hj=>?_<;>(try unfold Tf)<;>(try unfold Tj)<;>(try unfold Tu)<;>(try unfold Tb)<;>(try unfold To)<;>try unfold Ts
   have aeZ:=acp (ar iq pl.length pk (yZ j));refine bA ?_;apply aL<;>intro h4
   ·have iS:j<pl.length:=aD h4
    obtain⟨v,hv⟩:=bE pl j iS;have uD:=aA hv;have SB:pl.drop j=v::pl.drop (j+1):=by rw[jb iS,(aJ.1 hv).2]
    have A6:(yZ j)[j]?=O v:=by
     rw[yU];simp only;rw[dH dr,aG,dA,fP A,cV,gp,dR];exact hv
    have vi:(yZ j).set j (cr L v)=yZ (j+1):=by
     rw[yU];simp only;rw[kj _ _ dr,aG,dA,fP A,cV,SB,bI,bV,hv,bz];simp
    refine fy 0 rfl A λyb yo B4=>?_;subst B4;have Pk:cg j pl.length:=⟨iS⟩;let Tn:=((es++[(⟨gH L pd,O ⟨yb,yo,U⟩,pk,pl⟩:ch)])++ps.drop (ei+1));have Nz:gm (ar (O ⟨yb,yo,U⟩) pl.length pk (yZ j)::aw (O ⟨zb,zo,U⟩) ps.length qc Tn::Tb) yb (yo+j*2) _:=jJ (k:=0) rfl eQ A6;simp only[mm,ar,aw]at Nz;have Q4:mm (cr L v)=[ag (cr L v).dq,J Z (cr L v).n]:=rfl;refine aU ?_;refine dI (aw (O ⟨zb,zo,U⟩) ps.length qc Tn::Tq) (λ_:Unit=>True) (λ_=>(9,J Z j)::(8,J Z ei)::Tf) (λ_=>ar (O ⟨yb,yo,U⟩) pl.length pk (yZ (j+1))::aw (O ⟨zb,zo,U⟩) ps.length qc Tn::Tb) mixed aB ?_ λ_ _=>?_
    ·refine W 0 ?_;refine W 1 ?_;refine W 2 ?_;refine W 3 ?_;refine W 4 ?_;refine W 5 ?_;refine W 6 ?_;refine W 7 ?_;refine W 8 ?_;refine W 9 ?_;refine W 10 ?_;refine W 11 ?_;refine W 12 ?_;refine W 13 ?_;refine W 14 ?_;refine W 16 ?_;refine cD 15 E (gM 15 rfl aB ?_);refine lY 17 (val:=λ_:Unit=>.agg #[ag (cr L v).dq,J Z (cr L v).n]) (cZ:=λ_=>[]) (φ:=λ_=>True) rfl E aB (λw hw=>xJ L _ v (Hh v uD) w (hl.cB du hw.c_)) λ_ _=>?_;simp only[aS];refine W 18 ?_;refine cD 19 E (jw 19 0 (j:=j*2) rfl rfl (by rw[cA eQ,KY];omega) aB ?_);refine ef E ?_;simp only[bI];rw[<-Q4,iZ eQ (by rw[KY];exact iS),vi];exact dy () trivial V aF
    refine aU ?_;exact a_ (j+1) A A V aF
   obtain rfl:pl.length=j:=by have:=cE h4;omega
   have Vl:yZ pl.length=pl.map (cr L):=by rw[yU];simp
   rw[Vl];refine aV ?_;have gk:(es++[(⟨gH L pd,iq,pk,pl.map (cr L)⟩:ch)]).length=ei+1:=by simp[tO]
   have Jr:((es++[(⟨gH L pd,iq,pk,pl⟩:ch)])++ps.drop (ei+1)).flatMap iz=((es++[(⟨gH L pd,iq,pk,pl.map (cr L)⟩:ch)])++ps.drop (ei+1)).flatMap iz:=by
    simp only[ee,fj,jc,iz,aG]
   try simp only[am,ar,aw]
   rw[Jr];let Tw:=(es++[(⟨gH L pd,iq,pk,pl.map (cr L)⟩:ch)]);let Ti:=((Tw++ps.drop (es++[(⟨gH L pd,iq,pk,pl.map (cr L)⟩:ch)]).length).map dZ++(oz Ts++(rs.eraseIdx i).map bP));refine bG (H1:=aw (O ⟨zb,zo,U⟩) ps.length qc (Tw++ps.drop (es++[(⟨gH L pd,iq,pk,pl.map (cr L)⟩:ch)]).length)::au p7 (O ⟨zb,zo,U⟩) ps.length qc ji xs.length eO kd on xa to.length xc::D p5 nm pa re (O ⟨vb,vo,U⟩) n gc::aj p4::am (O ⟨vb,vo,U⟩) n gc rs::Ti) (aX.2 λe=>?_) ?_<;>(try unfold Ti)<;>(try unfold Tw)<;>try unfold Ts
   ·have e2:dZ (⟨gH L pd,iq,pk,pl.map (cr L)⟩:ch)=ar iq pl.length pk (pl.map (cr L)):=by unfold dZ;simp only[aG]
    rw[gk];simp only[bz,cf,dm,bU,bM,dG,e2,D,aj,am,au,ar,aw];omega
   refine a_ (es++[(⟨gH L pd,iq,pk,pl.map (cr L)⟩:ch)]) ⟨by rw[gk];omega,?_,λq hq=>?_⟩ (by rw[gk];omega) (by simp only[gk];repeat(first|exact trivial|refine⟨rfl,?_⟩)) aF
   ·rw[gk,bV,hu,bz,bz,vZ]
    simp only[jk,cf,dm,ch.iN,Gs]
   ·rcases bO.1 hq with hq|hq
    ·exact zR q hq
    ·rw[bQ.1 hq]
     have h5:=Jc L pd;refine⟨⟨by simp only;omega,by simp only;omega⟩,by simp only[aG];exact Gk,λv hv=>?_⟩;simp only at hv;obtain⟨y,hy,rfl⟩:=aT.1 hv;exact rf (ES y hy) A
  have fX:es.length=ps.length:=by have:=cE h3;omega
  rw[fX,gY,cj];rw[fX,cL]at vZ;refine aV ?_;let Tg:=(es.map dZ++(rs.eraseIdx i).map bP);let Tv:=(xs.map gC++(aw qa ps.length qc es::pY Th::Tg));refine bG (H1:=aH ji xs.length eO xs::au p7 qa ps.length qc ji xs.length eO kd on xa to.length xc::D p5 nm pa re (O ⟨vb,vo,U⟩) n gc::aj p4::am (O ⟨vb,vo,U⟩) n gc rs::Tv) (aX.2 λe=>?_) ?_<;>(try unfold Tv)<;>(try unfold Tg)<;>try unfold Th
  ·unfold oz
   simp only[bU,bM,D,aj,am,au,aw,aH];omega
  refine bH (λ(ys:List dP)=>ys.length<=xs.length/\ys.map (·.x)=(xs.take ys.length).map (λq=>gz L q.x)/\∀y∈ys,(dE y.x.op/\dE y.x.dst/\dE y.x.a.n/\dE y.x.b.n/\dE y.x.fn)/\y.x.args.length<=1000/\∀v∈y.x.args,dE v.n) (λys=>(10,J Z ys.length)::Tf)
   (λys=>aH ji xs.length eO (ys++xs.drop ys.length)::au p7 qa ps.length qc ji xs.length eO kd on xa to.length xc::D p5 nm pa re (O ⟨vb,vo,U⟩) n gc::aj p4::am (O ⟨vb,vo,U⟩) n gc rs::((ys++xs.drop ys.length).map gC++(aw qa ps.length qc es::pY Th::Tg))) (λys=>xs.length-ys.length) [] ⟨aN _,rfl,by simp⟩ (aP V aF) λys ⟨hi5,p_,K1⟩=>?_<;>(try unfold Tf)<;>(try unfold Tg)<;>try unfold Th
  refine bA ?_;apply aL<;>intro h5
  ·have ce:ys.length<xs.length:=aD h5
   generalize Hj:ys.length=ei at*;obtain⟨u,hu⟩:=bE xs ei ce;have F2:=aA hu;obtain⟨DA,Gk,ES⟩:=rP.ins u F2;obtain⟨x,aa,ak⟩:=u;simp only at DA Gk ES;have qH:x∈(Th).dD.list:=aT.2 ⟨_,F2,rfl⟩;have hxv:=aih x qH;have Vm:0<=x.dst->x.dst∈L:=λh=>Y6 x.dst (.inl (en _ (cM _ (dg.2 ⟨x,qH,en _ (by rw[al h];simp)⟩))));refine fy 0 rfl A λzb zo Bk=>?_;subst Bk;have Dt:cg ei xs.length:=⟨ce⟩;have jT:(ys++xs.drop ei)[ei]?=O (⟨x,aa,ak⟩:dP):=by
    rw[dH A,Hj,cV,gp,dR];exact hu
   have BZ:xs.drop ei=(⟨x,aa,ak⟩:dP)::xs.drop (ei+1):=by rw[jb ce,(aJ.1 hu).2]
   let Tk:=(aw qa ps.length qc es::pY (⟨qa,qc,ps,O ⟨zb,zo,U⟩,eO,xs,kd,on,xa,xc,to⟩:aK)::Tg);let Ta:=((ys++xs.drop (ei+1)).map gC++Tk);let Tc:=au p7 qa ps.length qc (O ⟨zb,zo,U⟩) xs.length eO kd on xa to.length xc::D p5 nm pa re (O ⟨vb,vo,U⟩) n gc::aj p4::am (O ⟨vb,vo,U⟩) n gc rs::Ta;let Tt:=aH (O ⟨zb,zo,U⟩) xs.length eO (ys++xs.drop ei)::Tc;refine bG (H1:=ar aa x.args.length ak x.args::Tt) (aX.2 λe=>?_) ?_<;>(try unfold Tt)<;>(try unfold Tc)<;>(try unfold Ta)<;>(try unfold Tk)<;>try unfold Tg
   ·rw[BZ]
    have e2:gC (⟨x,aa,ak⟩:dP)=ar aa x.args.length ak x.args:=rfl;simp only[bz,cf,bU,bM,e2,D,aj,am,au,ar,aw,aH];omega
   have hoA:gm (ar aa x.args.length ak x.args::Tt) zb (zo+ei*8+2) _:=HG (k:=1) rfl jT 2 rfl rfl;have hpA:=LK jT (cr L x.a);rw[kS Hj ce]at hpA;refine aU ?_;refine dI [au p7 qa ps.length qc (O ⟨zb,zo,U⟩) xs.length eO kd on xa to.length xc] (λ_:Unit=>True) (λ_=>(10,J Z ei)::Tf) (λ_=>ar aa x.args.length ak x.args::aH (O ⟨zb,zo,U⟩) xs.length eO ((ys++[(⟨{x with a:=cr L x.a},aa,ak⟩:dP)])++xs.drop (ei+1))::Tc) mixed aB ?_ λ_ _=>?_
   ·refine W 0 ?_;refine W 1 ?_;refine W 2 ?_;refine W 3 ?_;refine W 4 ?_;refine W 5 ?_;refine W 6 ?_;refine W 7 ?_;refine W 9 ?_;refine cD 8 E (gM 8 rfl aB ?_);refine lY 10 (val:=λ_:Unit=>.agg #[ag (cr L x.a).dq,J Z (cr L x.a).n]) (cZ:=λ_=>[]) (φ:=λ_=>True) rfl E aB (λw hw=>xJ L _ x.a (hxv x.a (.inl rfl)) w (hl.cB du hw.c_)) λ_ _=>?_;simp only[aS];refine W 11 ?_;refine W 12 ?_;refine cD 13 E (jw 13 1 (j:=ei*8+2) rfl A (by rw[cA ep,bW,eS];omega) aB ?_);refine ef E ?_;simp only[bS,bI];rw[hpA];exact dy () trivial V aF
   clear hoA hpA;have G4:((ys++[(⟨{x with a:=cr L x.a},aa,ak⟩:dP)])++xs.drop (ei+1))[ei]?=O (⟨{x with a:=cr L x.a},aa,ak⟩:dP):=AT Hj;have hoB:gm (ar aa x.args.length ak x.args::aH (O ⟨zb,zo,U⟩) xs.length eO ((ys++[(⟨{x with a:=cr L x.a},aa,ak⟩:dP)])++xs.drop (ei+1))::Tc) zb (zo+ei*8+4) _:=HG (k:=1) rfl G4 4 rfl rfl;have NB:=LM G4 (cr L x.b);rw[set_tail Hj]at NB;refine bA ?_;refine dI [au p7 qa ps.length qc (O ⟨zb,zo,U⟩) xs.length eO kd on xa to.length xc] (λ_:Unit=>True) (λ_=>(10,J Z ei)::Tf) (λ_=>ar aa x.args.length ak x.args::aH (O ⟨zb,zo,U⟩) xs.length eO ((ys++[(⟨{x with a:=cr L x.a,b:=cr L x.b},aa,ak⟩:dP)])++xs.drop (ei+1))::Tc) mixed aB ?_ λ_ _=>?_
   ·refine W 0 ?_;refine W 1 ?_;refine W 2 ?_;refine W 3 ?_;refine W 4 ?_;refine W 5 ?_;refine W 6 ?_;refine W 7 ?_;refine W 9 ?_;refine cD 8 E (gM 8 rfl aB ?_);refine lY 10 (val:=λ_:Unit=>.agg #[ag (cr L x.b).dq,J Z (cr L x.b).n]) (cZ:=λ_=>[]) (φ:=λ_=>True) rfl E aB (λw hw=>xJ L _ x.b (hxv x.b (.inr (.inl rfl))) w (hl.cB du hw.c_)) λ_ _=>?_;simp only[aS];refine W 11 ?_;refine W 12 ?_;refine cD 13 E (jw 13 1 (j:=ei*8+4) rfl A (by rw[cA ep,bW,bW,eS];simp;omega) aB ?_);refine ef E ?_;simp only[bS,bI];rw[NB];exact dy () trivial V aF
   clear hoB NB G4;have rQ:((ys++[(⟨{x with a:=cr L x.a,b:=cr L x.b},aa,ak⟩:dP)])++xs.drop (ei+1))[ei]?=O (⟨{x with a:=cr L x.a,b:=cr L x.b},aa,ak⟩:dP):=AT Hj;have acp:∀zf:cq,gB (zf::aH (O ⟨zb,zo,U⟩) xs.length eO ((ys++[(⟨{x with a:=cr L x.a,b:=cr L x.b},aa,ak⟩:dP)])++xs.drop (ei+1))::Tc) zb (zo+ei*8+7) (I aa x.args.length ak):=λzf=>⟨λ_ _ _ hw=>by
    have h5:=hw.dp (k:=1) rfl (e_ ep _ ei _ 7 (I aa x.args.length ak) rQ rfl);rwa[<-eB]at h5⟩
   let Tr:=[au p7 qa ps.length qc (O ⟨zb,zo,U⟩) xs.length eO kd on xa to.length xc];have aco:gB (aH (O ⟨zb,zo,U⟩) xs.length eO ((ys++[(⟨{x with a:=cr L x.a,b:=cr L x.b},aa,ak⟩:dP)])++xs.drop (ei+1))::Tr) zb (zo+ei*8+7) (I aa x.args.length ak):=⟨λ_ _ _ hw=>by
    have h5:=hw.dp (k:=0) rfl (e_ ep _ ei _ 7 (I aa x.args.length ak) rQ rfl);rwa[<-eB]at h5⟩
   refine aU ?_;obtain⟨yM,yP⟩:∃f:Nat->List cI,f=λj=>(x.args.take j).map (cr L)++x.args.drop j:=⟨_,rfl⟩;have Ky:∀j,(yM j).length=x.args.length:=λj=>by rw[yP];simp;omega
   have Iy:yM 0=x.args:=by rw[yP];simp
   rw[show ar aa x.args.length ak x.args=ar aa x.args.length ak (yM 0) by rw[Iy]];refine bH (λ(j:Nat)=>j<=x.args.length) (λj=>(11,J Z j)::(10,J Z ei)::Tf)
    (λj=>ar aa x.args.length ak (yM j)::aH (O ⟨zb,zo,U⟩) xs.length eO ((ys++[(⟨{x with a:=cr L x.a,b:=cr L x.b},aa,ak⟩:dP)])++xs.drop (ei+1))::Tc) (λj=>x.args.length-j) 0 (aN _) (aP V aF) λj hj=>?_<;>(try unfold Tf)<;>(try unfold Tc)<;>(try unfold Ta)<;>(try unfold Tk)<;>try unfold Tg
   have aeZ:=acp (ar aa x.args.length ak (yM j));refine bA ?_;apply aL<;>intro h6
   ·have iS:j<x.args.length:=aD h6
    obtain⟨v,hv⟩:=bE x.args j iS;have uD:=aA hv;have SB:x.args.drop j=v::x.args.drop (j+1):=by rw[jb iS,(aJ.1 hv).2]
    have A6:(yM j)[j]?=O v:=by
     rw[yP];simp only;rw[dH dr,aG,dA,fP A,cV,gp,dR];exact hv
    have vi:(yM j).set j (cr L v)=yM (j+1):=by
     rw[yP];simp only;rw[kj _ _ dr,aG,dA,fP A,cV,SB,bI,bV,hv,bz];simp
    refine fy 0 rfl A λyb yo B4=>?_;subst B4;have Pk:cg j x.args.length:=⟨iS⟩;have Nz:gm (ar (O ⟨yb,yo,U⟩) x.args.length ak (yM j)::aH (O ⟨zb,zo,U⟩) xs.length eO ((ys++[(⟨{x with a:=cr L x.a,b:=cr L x.b},O ⟨yb,yo,U⟩,ak⟩:dP)])++xs.drop (ei+1))::Tc) yb (yo+j*2) _:=jJ (k:=0) rfl eQ A6;simp only[mm,ar,aH]at Nz;have Q4:mm (cr L v)=[ag (cr L v).dq,J Z (cr L v).n]:=rfl;refine aU ?_;refine dI (aH (O ⟨zb,zo,U⟩) xs.length eO ((ys++[(⟨{x with a:=cr L x.a,b:=cr L x.b},O ⟨yb,yo,U⟩,ak⟩:dP)])++xs.drop (ei+1))::Tr) (λ_:Unit=>True) (λ_=>(11,J Z j)::(10,J Z ei)::Tf) (λ_=>ar (O ⟨yb,yo,U⟩) x.args.length ak (yM (j+1))::aH (O ⟨zb,zo,U⟩) xs.length eO ((ys++[(⟨{x with a:=cr L x.a,b:=cr L x.b},O ⟨yb,yo,U⟩,ak⟩:dP)])++xs.drop (ei+1))::Tc) mixed aB ?_ λ_ _=>?_
    ·refine W 0 ?_;refine W 1 ?_;refine W 2 ?_;refine W 3 ?_;refine W 4 ?_;refine W 5 ?_;refine W 6 ?_;refine W 7 ?_;refine W 8 ?_;refine W 9 ?_;refine W 10 ?_;refine W 11 ?_;refine W 12 ?_;refine W 13 ?_;refine W 14 ?_;refine W 16 ?_;refine cD 15 E (gM 15 rfl aB ?_);refine lY 17 (val:=λ_:Unit=>.agg #[ag (cr L v).dq,J Z (cr L v).n]) (cZ:=λ_=>[]) (φ:=λ_=>True) rfl E aB (λw hw=>xJ L _ v (hxv v (.inr (.inr uD))) w (hl.cB du hw.c_)) λ_ _=>?_;simp only[aS];refine W 18 ?_;refine cD 19 E (jw 19 0 (j:=j*2) rfl rfl (by rw[cA eQ,Ky];omega) aB ?_);refine ef E ?_;simp only[bI];rw[<-Q4,iZ eQ (by rw[Ky];exact iS),vi];exact dy () trivial V aF
    refine aU ?_;exact a_ (j+1) A A V aF
   obtain rfl:x.args.length=j:=by have:=cE h6;omega
   have Uq:yM x.args.length=x.args.map (cr L):=by rw[yP];simp
   rw[Uq];have gk:(ys++[(⟨gz L x,aa,ak⟩:dP)]).length=ei+1:=by simp[Hj]
   have K3:(ys++[(⟨gz L x,aa,ak⟩:dP)]).map (·.x)=(xs.take (ys++[(⟨gz L x,aa,ak⟩:dP)]).length).map (λq=>gz L q.x):=by
    rw[gk,bV,hu,bz,bz,p_]
    rfl
   have K2:∀y∈ys++[(⟨gz L x,aa,ak⟩:dP)],(dE y.x.op/\dE y.x.dst/\dE y.x.a.n/\dE y.x.b.n/\dE y.x.fn)/\y.x.args.length<=1000/\∀v∈y.x.args,dE v.n:=λy hy=>by
    rcases bO.1 hy with hy|hy
    ·exact K1 y hy
    ·rw[bQ.1 hy]
     refine⟨⟨DA.1,PW DA.2.1 A,rf DA.2.2.1 A,rf DA.2.2.2.1 A,DA.2.2.2.2⟩,by simp only[gz,aG];exact Gk,λv hv=>?_⟩;obtain⟨z,hz,rfl⟩:=aT.1 hv;exact rf (ES z hz) A
   let Te:=au p7 qa ps.length qc (O ⟨zb,zo,U⟩) xs.length eO kd on xa to.length xc::D p5 nm pa re (O ⟨vb,vo,U⟩) n gc::aj p4::am (O ⟨vb,vo,U⟩) n gc rs::((ys++xs.drop (ei+1)).map gC++Tk);have G9:gB (ar aa x.args.length ak (x.args.map (cr L))::aH (O ⟨zb,zo,U⟩) xs.length eO ((ys++[(⟨{x with a:=cr L x.a,b:=cr L x.b},aa,ak⟩:dP)])++xs.drop (ei+1))::Te) zb (zo+ei*8+1) (J Z x.dst):=⟨λ_ _ _ hw=>by
    have h5:=hw.dp (k:=1) rfl (e_ ep _ ei _ 1 (J Z x.dst) rQ rfl);rwa[<-eB]at h5⟩
   refine aV ?_;let Td:=(((ys++[(⟨gz L x,aa,ak⟩:dP)])++xs.drop (ys++[(⟨gz L x,aa,ak⟩:dP)]).length).map gC++Tk);let Tm:=au p7 qa ps.length qc (O ⟨zb,zo,U⟩) xs.length eO kd on xa to.length xc::D p5 nm pa re (O ⟨vb,vo,U⟩) n gc::aj p4::am (O ⟨vb,vo,U⟩) n gc rs::Td;apply aL<;>intro h7
   ·have fX:0<=x.dst:=aD h7
    have hnI:gz L x={x with a:=cr L x.a,b:=cr L x.b,args:=x.args.map (cr L),dst:=gH L x.dst}:=by unfold gz oP;rw[al fX]
    have hrN:ki (⟨gz L x,aa,ak⟩:dP)=[J Z x.op,J Z (gH L x.dst),ag (cr L x.a).dq,J Z (cr L x.a).n,ag (cr L x.b).dq,J Z (cr L x.b).n,J Z x.fn,I aa x.args.length ak]:=by
     rw[hnI];unfold ki;simp only[aG]
    have mT:lS (((ys++[(⟨{x with a:=cr L x.a,b:=cr L x.b},aa,ak⟩:dP)])++xs.drop (ei+1)).flatMap ki) (ei*8+1) (J Z (gH L x.dst)) (((ys++[(⟨gz L x,aa,ak⟩:dP)])++xs.drop (ei+1)).flatMap ki):=⟨by
     rw[fL ep rQ (k:=1) A (y:=(⟨gz L x,aa,ak⟩:dP)) (by rw[hrN];rfl),set_tail Hj],by rw[cA ep,bW,bW,eS];simp;omega⟩
    have Q0:mf (ar aa x.args.length ak (x.args.map (cr L))::aH (O ⟨zb,zo,U⟩) xs.length eO ((ys++[(⟨{x with a:=cr L x.a,b:=cr L x.b},aa,ak⟩:dP)])++xs.drop (ei+1))::Te) zb (zo+ei*8+1) 1 zo (ei*8+1) xs.length eO 56 8 (((ys++[(⟨{x with a:=cr L x.a,b:=cr L x.b},aa,ak⟩:dP)])++xs.drop (ei+1)).flatMap ki):=⟨rfl,A⟩
    refine dI [au p7 qa ps.length qc (O ⟨zb,zo,U⟩) xs.length eO kd on xa to.length xc] (λ_:Unit=>True) (λ_=>(10,J Z ei)::Tf) (λ_=>ar aa x.args.length ak (x.args.map (cr L))::aH (O ⟨zb,zo,U⟩) xs.length eO ((ys++[(⟨gz L x,aa,ak⟩:dP)])++xs.drop (ei+1))::Te) mixed aB ?_ λ_ _=>?_
    ·refine W 0 ?_;refine W 1 ?_;refine W 2 ?_;refine W 3 ?_;refine W 4 ?_;refine W 5 ?_;refine W 6 ?_;refine W 7 ?_;refine W 8 ?_;refine cD 9 E (gM 9 rfl aB ?_);refine vY 10 rfl E aB (λw hw=>Fi _ L x.dst w (hl.cB du hw.c_)) ?_;rw[Jb (Vm fX)];refine W 11 ?_;refine W 12 ?_;refine jr 13 E E aB ?_;exact dy () trivial V aF
    clear Q0 mT G9;refine aU ?_;refine bG (H1:=aH (O ⟨zb,zo,U⟩) xs.length eO ((ys++[(⟨gz L x,aa,ak⟩:dP)])++xs.drop (ys++[(⟨gz L x,aa,ak⟩:dP)]).length)::Tm) (aX.2 λe=>?_) ?_<;>(try unfold Tm)<;>(try unfold Td)<;>(try unfold Tk)<;>try unfold Tg
    ·have e2:gC (⟨gz L x,aa,ak⟩:dP)=ar aa x.args.length ak (x.args.map (cr L)):=by unfold gC gz;simp only[aG]
     rw[gk];simp only[bz,cf,dm,bU,bM,dG,e2,D,aj,am,au,ar,aw,aH,Te,Tg,Tk];omega
    refine a_ (ys++[(⟨gz L x,aa,ak⟩:dP)]) ⟨by rw[gk];omega,K3,K2⟩ (by rw[gk];omega) (by simp only[gk];repeat(first|exact trivial|refine⟨rfl,?_⟩)) aF
   ·have UW:¬0<=x.dst:=aD h7
    have Jr:((ys++[(⟨{x with a:=cr L x.a,b:=cr L x.b},aa,ak⟩:dP)])++xs.drop (ei+1)).flatMap ki=((ys++[(⟨gz L x,aa,ak⟩:dP)])++xs.drop (ei+1)).flatMap ki:=by
     simp only[ee,fj,jc,ki,gz,oP,ai UW,aG]
    try simp only[am,ar,aw,aH]
    rw[Jr];clear G9;refine aU ?_;refine bG (H1:=aH (O ⟨zb,zo,U⟩) xs.length eO ((ys++[(⟨gz L x,aa,ak⟩:dP)])++xs.drop (ys++[(⟨gz L x,aa,ak⟩:dP)]).length)::Tm) (aX.2 λe=>?_) ?_<;>(try unfold Tm)<;>(try unfold Td)<;>(try unfold Tk)<;>try unfold Tg
    ·have e2:gC (⟨gz L x,aa,ak⟩:dP)=ar aa x.args.length ak (x.args.map (cr L)):=by unfold gC gz;simp only[aG]
     rw[gk];simp only[bz,cf,dm,bU,bM,dG,e2,D,aj,am,au,ar,aw,aH];omega
    refine a_ (ys++[(⟨gz L x,aa,ak⟩:dP)]) ⟨by rw[gk];omega,K3,K2⟩ (by rw[gk];omega) (by simp only[gk];repeat(first|exact trivial|refine⟨rfl,?_⟩)) aF
  have IG:ys.length=xs.length:=by have:=cE h5;omega
  rw[IG,gY,cj];rw[IG,cL]at p_;obtain⟨B',qq⟩:∃B':aK,B'=⟨qa,qc,es,ji,eO,ys,kd,cr L on,xa,xc,to⟩:=⟨_,rfl⟩;have AY:B'.dD=py L ((⟨qa,qc,ps,ji,eO,xs,kd,on,xa,xc,to⟩:aK)).dD:=by
   rw[qq];unfold aK.dD py;simp only[vZ,p_,dM]
   rfl
  have Is:B'.Bd:=by
   rw[qq];exact⟨rP.kind,rf rP.on A,by simp only[fX];exact Dx,zR,by simp only[IG];exact K0,K1,rP.to⟩
  have hbC:eA B'=[I qa ps.length qc,I ji xs.length eO,J Z kd,ag (cr L on).dq,J Z (cr L on).n,I xa to.length xc]:=by rw[qq];simp only[eA,fX,IG]
  refine aV ?_;refine cN (val:=λ_:Unit=>.agg #[ag (cr L on).dq,J Z (cr L on).n]) (cZ:=λ_=>[]) (φ:=λ_=>True) rfl (λw hw=>xJ L _ on (λr hr=>Y6 r (.inl (en _ (en _ hr)))) w (hl.cB du hw.c_)) λ_ _=>?_;simp only[aS];refine aV ?_;refine k_ 4 (j:=i*6) rfl rfl (by rw[cA de,oG];omega) ?_;have nE:=iZ de (l:=rs) (i:=i) A B';rw[hbC]at nE;rw[nE];simp only[bS,bI];refine aU ?_;have e1:ij B'=aw qa ps.length qc es::aH ji xs.length eO ys::pY (⟨qa,qc,ps,ji,eO,xs,kd,on,xa,xc,to⟩:aK)::(es.map dZ++ys.map gC):=by rw[qq];simp only[ij,fX,IG,pY]
  refine lr (H':=ij B'++(D p5 nm pa re (O ⟨vb,vo,U⟩) n gc::aj p4::am (O ⟨vb,vo,U⟩) n gc (rs.set i B')::(rs.eraseIdx i).map bP)) (λw hw=>?_) ?_
  ·refine hw.pick ⟨[au p7 qa ps.length qc ji xs.length eO kd (cr L on) xa to.length xc],aX.2 λe=>?_⟩
   rw[e1];simp only[bU,bM,dG,D,aj,am,au,aw,aH];omega
  refine yv ?_;have qh:(rs.set i B')[i]?=O B':=fk A;have te:=ig bP qh;rw[nt]at te;refine bG (H1:=D p5 nm pa re (O ⟨vb,vo,U⟩) n gc::aj p4::am (O ⟨vb,vo,U⟩) n gc (rs.set i B')::(rs.set i B').map bP) (aX.2 λe=>?_) ?_
  ·have:=aX.1 te e
   unfold bP at this|-
   simp only[bM,D,aj,am]at this|-
   omega
  refine a_ (i+1,rs.set i B') ⟨by simp only;omega,by simp only[fK];exact oG,?_,λb hb=>?_⟩ bB V aF
  ·simp only
   rw[eT,Mu,kj _ _ dr,aG,dA,fP A,cV,Cq,bI,bV,hB,bz,AY];simp
  ·rcases j_ hb with hb|rfl
   ·exact rB b hb
   ·exact Is
 ·have hie:i=n:=by have:=cE h2;omega
  rw[hie,<-qe,cL,gY,cj]at Mu;refine aV ?_;refine fD rfl λw hw=>⟨(ga,gc,rs),by simp only[oG],?_,Mu,rB⟩;refine hw.sub ?_;unfold eM;simp only[oG];exact .cons _ (.cons _ (.refl _))
theorem LB(x:Nat):∀o:List Nat,Oj (o.map λx:Nat=>(x:Int)) (x:Int)=if x∈o then((o.idxOf x:Nat):Int)else -1:=λo=>by
 have h1:((x:Int)∈o.map λx:Nat=>(x:Int))↔x∈o:=by
  rw[aT];constructor
  ·rintro⟨y,hy,e⟩
   have:y=x:=A;exact this▸hy
  ·intro h
   exact⟨x,h,rfl⟩
 have h2:∀o:List Nat,(o.map λx:Nat=>(x:Int)).idxOf (x:Int)=o.idxOf x:=λo=>by
  induction o with
  |nil=>rfl
  |cons y o ih=>
   rw[cf,List.idxOf_cons,List.idxOf_cons,ih,show((y:Int)==(x:Int))=(y==x) by
    rw[Bool.eq_iff_iff,beq_iff_eq,beq_iff_eq];omega]
 unfold Oj;rw[h2]
 by_cases h:x∈o
 ·rw[al h,al (h1.2 h)]
 ·rw[ai h,ai (λe=>h (h1.1 e))]
def Xp(x:Nat×cI):Int×cI:=((x.1:Int),x.2)
theorem abk(l:List (Nat×cI)):(l.map Xp).flatMap DM=l.flatMap yu:=by
 rw[qS]
 rfl
theorem ZS(hn:o.Nodup)(b:Nat)(p:gD):rA ((uU bl o b p).map Xp) o.length=(ft bl o b p).src:=by
 have h1:∀k,k<o.length->rowAt ((uU bl o b p).map Xp) k=if nth o k∈be bl b then[gi bl b p (nth o k)]else[]:=λk hk=>by
  unfold rowAt
  by_cases hm:nth o k∈be bl b
  ·rw[al hm]
   have hex:∃e,((uU bl o b p).map Xp).find? (λe=>decide (e.1=(k:Int)))=O e:=by
    rw[<-Option.isSome_iff_exists,List.find?_isSome];refine⟨((k:Int),gi bl b p (nth o k)),aT.2 ⟨(k,gi bl b p (nth o k)),?_,rfl⟩,by simp⟩;unfold uU;exact aT.2 ⟨nth o k,cR.2 ⟨hm,by simpa using jd hk⟩,by rw[mD hn hk]⟩
   obtain⟨e,he⟩:=hex;rw[he];have h3:=List.find?_some he;have h4:=List.mem_of_find?_eq_some he;simp only[dv]at h3;obtain⟨y,hy,rfl⟩:=aT.1 h4;unfold uU at hy;obtain⟨q,hq,rfl⟩:=aT.1 hy;have EM:q∈o:=by simpa using(cR.1 hq).2
   unfold Xp at h3;simp only at h3;have h5:o.idxOf q=k:=A;rw[<-h5,lH EM]
   rfl
  ·rw[ai hm]
   split
   ·rename_i e he
    have h3:=List.find?_some he;have h4:=List.mem_of_find?_eq_some he;simp only[dv]at h3;obtain⟨y,hy,rfl⟩:=aT.1 h4;unfold uU at hy;obtain⟨q,hq,rfl⟩:=aT.1 hy;have EM:q∈o:=by simpa using(cR.1 hq).2
    unfold Xp at h3;simp only at h3;have h5:o.idxOf q=k:=A;rw[<-h5,lH EM]at hm;exact absurd (cR.1 hq).1 hm
   ·rfl
 have h2:∀l:List Nat,(l.filter λq=>decide (q∈be bl b)).map (gi bl b p)=l.flatMap λq=>if q∈be bl b then[gi bl b p q]else[]:=λl=>by
  induction l with
  |nil=>rfl
  |cons q l ih=>
   rw[fj,<-ih]
   by_cases h:q∈be bl b
   ·simp[h]
   ·simp[h]
 unfold ft rA;simp only;rw[h2]
 conv=>rhs;rw[<-DW o]
 rw[qS];exact oI λk hk=>h1 k (cW.1 hk)
theorem M7{g:α->List K}{s:Nat}(hg:∀x,(g x).length=s){o:Nat}{l:List α}{y:α}(hk:H[k]?=O (G (O ⟨b,o,U⟩) n c e s (l.flatMap g)))(hy:l[i]?=O y)(f:Nat)(h1:(g y)[f]?=O v1)(h2:(g y)[f+1]?=O v2):gm H b (o+i*s+f) [v1,v2]:=⟨λ_ _ w hw j v hj=>by
 match j,hj with
 |0,hj=>
  have h5:=hw.dp hk (e_ hg l i y f _ hy h1);rw[<-eB]at h5;simp only[jN,cF]at hj;rw[<-hj];exact h5
 |1,hj=>
  have h5:=hw.dp hk (e_ hg l i y (f+1) _ hy h2);rw[<-eB,<-eB]at h5;simp only[oD,jN,cF]at hj;rw[<-hj];exact h5
 |j+2,hj=>simp at hj⟩
theorem IU(nm:ByteArray)(pa re:Int)(bl:List aq)(bs:K)(R:Nat)(hf:eW R bl)(hlen:bl.length<=100)(o:List Nat)(hk:F8 bl o)(EJ:o.length<=100)(oa:ax)(on2 oc:Nat)(w0:ae)(gV:aY w0 bs 6 bl da)(oF:∀b:aK,b.dD∈bl->b.Bd)(ho:aY w0 (I oa on2 oc) 1 (o.map λx:Nat=>(x:Int)) gI):
  iL Y 35 [aC #[aQ nm,J Z pa,J Z re,bs],I oa on2 oc] w0 λu w'=>∃x:ax×Nat×List aK,u=aC #[aQ nm,J Z pa,J Z re,I x.1 x.2.2.length x.2.1]/\Wd db w0 (eM x.1 x.2.1 x.2.2) w'/\(x.2.2.map aK.dD=cG bl o/\∀b∈x.2.2,b.Bd):=by
 classical
 have hg:=hf.iD;obtain⟨ba,bc,q,rfl,xB,Hb,Dy⟩:=xe gV;have vh:q.length=bl.length:=by rw[<-xB,aG]
 obtain⟨Dv,_⟩:=ho.at;rw[aG]at Dv;subst on2;refine aR func35 rfl ntmps35 rfl (Wd.nil db w0) ?_
 repeat(first|refine aV ?_|refine dd λ_ _=>?_)
 rename_i p2 _ p4 _ p5 _;refine dJ 46 6 ?_;let Td:=[M 5 p5,M 4 p4,M 2 p2,(1,I oa o.length oc)];refine bH (λ(x:ax×Nat×List aK)=>x.2.2.length<=o.length/\x.2.2.map aK.dD=(o.take x.2.2.length).map (λb=>iP bl o b (bi bl b))/\∀b∈x.2.2,b.Bd) (λx=>(6,J Z x.2.2.length)::Td)
  (λx=>am x.1 x.2.2.length x.2.1 x.2.2::D p5 nm pa re x.1 x.2.2.length x.2.1::aj p4::D p2 nm pa re ba q.length bc::x.2.2.map bP) (λx=>o.length-x.2.2.length) (U,0,[]) ⟨aN _,rfl,by simp⟩ (aP V kg) λx ⟨hi,Aq,Pd⟩=>?_<;>try unfold Td
 obtain⟨ga,gc,ds⟩:=x;simp only at hi Aq Pd|-
 refine bA ?_;apply aL<;>intro h2
 ·have iM:ds.length<o.length:=aD h2
  generalize tO:ds.length=i at*;obtain⟨b,hb⟩:=bE o i iM;have qe:b<bl.length:=hk.lt b (aA hb);obtain⟨bb,bo,akG,ajd,acz⟩:=fd (S:=db) ho (λ_=>inferInstance) (λ_ _ h=>⟨_,_,h.1⟩) (λe=>by have:=aZ hb;simp at e;exact this e);obtain⟨_,ajP,rfl,_⟩:=acz i (b:Int) (by rw[aW,hb];rfl);have aj7:cg i o.length:=⟨iM⟩;have aj8:cg b q.length:=⟨A⟩;obtain⟨br,YH⟩:=bE q b A;have YG:=aA YH;have IB:bl[b]?=O br.dD:=by rw[<-xB,aW,YH];rfl
  have Cp:=hf.block b _ IB;have hAb:=Dy br YG;have Ir:=oF br (aA IB);obtain⟨_,_,_,cb,co,Sz,abP⟩:=Hb.at;have QL:cl ba cb co:=⟨Sz (qU YG)⟩;obtain⟨_,Ap,abN⟩:=abP b br YH;rw[abN]at Ap;simp only[eA]at Ap;have abT:bu w0 cb (co+b*6) _:=⟨Ap⟩;refine aU ?_;let Tk:=am ga i gc ds::D p5 nm pa re ga i gc::aj p4::D p2 nm pa re ba q.length bc::ds.map bP;refine dI (D p2 nm pa re ba q.length bc::ds.map bP) (λx:Nat×aK=>x.2.dD=br.dD/\x.2.Bd) (λx=>M 7 x.1::(6,J Z i)::Td) (λx=>aM x.1 (eA x.2) 46::bP x.2::Tk) mixed cn ?_ λx hx=>?_
  ·refine er 0 rfl E cn ?_;refine er 1 rfl E cn ?_;refine er 2 rfl E cn ?_;refine er 3 rfl E cn ?_;refine er 4 rfl E cn ?_;refine er 5 rfl E cn ?_;refine er 6 rfl E cn ?_;refine er 7 rfl E cn ?_;refine jL 8 9 E ?_ ?_
   ·(refine gZ 8 (val:=λc:aK=>.agg #[I c.pa c.ps.length c.pc,I c.la c.xs.length c.lc,J Z c.kind,ag c.on.dq,J Z c.on.n,I c.ta c.to.length c.tc]) (cZ:=λc=>[bP c]) (φ:=λc=>c.dD=br.dD/\c.Bd) rfl cn (λw hw=>AG br w (hAb.cB hw.c_) Ir) λy hy=>?_;simp only[bF,aS])
    refine cD 9 E ?_;refine pP 9 rfl cn λp7 _=>?_;refine dn 10 E cn ?_;refine ef E ?_;exact TZ (p7,y) hy V ⟨[],aX.2 λe=>by simp only[eA,bU,bM,dG,D,aj,am,Tk];omega⟩
   ·refine pP 9 rfl cn λp7 _=>?_;refine cD 8 E ?_
    (refine gZ 8 (val:=λc:aK=>.agg #[I c.pa c.ps.length c.pc,I c.la c.xs.length c.lc,J Z c.kind,ag c.on.dq,J Z c.on.n,I c.ta c.to.length c.tc]) (cZ:=λc=>[bP c]) (φ:=λc=>c.dD=br.dD/\c.Bd) rfl cn (λw hw=>AG br w (hAb.cB hw.c_) Ir) λy hy=>?_;simp only[bF,aS])
    refine dn 10 E cn ?_;refine ef E ?_;exact TZ (p7,y) hy V ⟨[],aX.2 λe=>by simp only[eA,bU,bM,dG,D,aj,am,Tk];omega⟩
  obtain⟨p7,c⟩:=x;obtain⟨aav,aer⟩:=hx;simp only at aav aer|-
  obtain⟨qa,qc,ps,ji,eO,xs,kd,on,xa,xc,to⟩:=c;simp only[eA,D,aj,am];have rP:=aer;have Dx:ps.length<=1000:=rP.bg;have acP:to.length<=1000:=rP.to.1;let Ti:=(⟨qa,qc,ps,ji,eO,xs,kd,on,xa,xc,to⟩:aK);have aen:br.dD=(Ti).dD:=aav.symm;rw[aen]at IB Cp;refine bG (H1:=bP (⟨qa,qc,ps,ji,eO,xs,kd,on,xa,xc,to⟩:aK)::(au p7 qa ps.length qc ji xs.length eO kd on xa to.length xc::Tk)) (aX.2 λe=>by simp only[bM,D,aj,am,au,Tk];omega) ?_<;>(try unfold Tk)<;>(try unfold Ti)<;>(try unfold Td);refine uY ?_;refine bG (H1:=aw qa ps.length qc ps::au p7 qa ps.length qc ji xs.length eO kd on xa to.length xc::am ga i gc ds::D p5 nm pa re ga i gc::aj p4::D p2 nm pa re ba q.length bc::(ps.map dZ++(oz Ti++ds.map bP))) (aX.2 λe=>?_) ?_<;>try unfold Ti
  ·have:=aX.1 (xd Ti) e
   unfold phV at this;simp only[bM,bU,D,aj,am,au,aw,Ti]at this|-
   omega
  refine aU ?_;refine bH (λ(es:List ch)=>es.length<=ps.length/\es.map ch.iN=(ps.take es.length).map (λq=>ft bl o b q.iN)/\∀q∈es,dE q.dst/\q.l.length<=1000/\∀v∈q.l,dE v.n) (λes=>(8,J Z es.length)::M 7 p7::(6,J Z i)::Td)
   (λes=>aw qa ps.length qc (es++ps.drop es.length)::au p7 qa ps.length qc ji xs.length eO kd on xa to.length xc::am ga i gc ds::D p5 nm pa re ga i gc::aj p4::D p2 nm pa re ba q.length bc::((es++ps.drop es.length).map dZ++(oz Ti++ds.map bP))) (λes=>ps.length-es.length) [] ⟨aN _,rfl,by simp⟩ (aP V aF) λes ⟨Ju,vZ,zR⟩=>?_<;>(try unfold Ti)<;>try unfold Td
  refine bA ?_;apply aL<;>intro h3
  ·have ce:es.length<ps.length:=aD h3
   generalize heL:es.length=ei at*;obtain⟨u,hu⟩:=bE ps ei ce;have F2:=aA hu;obtain⟨hud,Gk,ES⟩:=rP.iN u F2;have Cx:=Cp.bg u.iN (aT.2 ⟨u,F2,rfl⟩);obtain⟨pd,iq,pk,pl⟩:=u;simp only at hud Gk ES;have yT:pl.length=(be bl b).length:=Cx.len;refine fy 0 rfl A λzb zo Bk=>?_;subst Bk;have Dt:cg ei ps.length:=⟨ce⟩;have jT:(es++ps.drop ei)[ei]?=O (⟨pd,iq,pk,pl⟩:ch):=by
    rw[dH A,heL,cV,gp,dR];exact hu
   have BZ:ps.drop ei=(⟨pd,iq,pk,pl⟩:ch)::ps.drop (ei+1):=by rw[jb ce,(aJ.1 hu).2]
   let Tm:=(⟨O ⟨zb,zo,U⟩,qc,ps,ji,eO,xs,kd,on,xa,xc,to⟩:aK);let Ta:=((es++ps.drop (ei+1)).map dZ++(oz Tm++ds.map bP));let Te:=aw (O ⟨zb,zo,U⟩) ps.length qc (es++ps.drop ei)::au p7 (O ⟨zb,zo,U⟩) ps.length qc ji xs.length eO kd on xa to.length xc::am ga i gc ds::D p5 nm pa re ga i gc::aj p4::D p2 nm pa re ba q.length bc::Ta;refine bG (H1:=ar iq pl.length pk pl::Te) (aX.2 λe=>?_) ?_<;>(try unfold Te)<;>(try unfold Ta)<;>try unfold Tm
   ·rw[BZ]
    have e2:dZ (⟨pd,iq,pk,pl⟩:ch)=ar iq pl.length pk pl:=rfl;simp only[bz,cf,bU,bM,e2,D,aj,am,au,ar,aw];omega
   let Tj:=[au p7 (O ⟨zb,zo,U⟩) ps.length qc ji xs.length eO kd on xa to.length xc,D p2 nm pa re ba q.length bc];let Tn:=(aw (O ⟨zb,zo,U⟩) ps.length qc (es++ps.drop ei)::Tj);have ahU:gm Tn zb (zo+ei*2) _:=jJ (k:=0) rfl eP jT;simp only[iz]at ahU;refine aU ?_;refine dI Tn (λ_:ax×Nat=>True) (λx=>(9,I x.1 (be bl b).length x.2)::(8,J Z ei)::M 7 p7::(6,J Z i)::Td) (λx=>G x.1 (be bl b).length x.2 113 3 ((ky bl b pl).flatMap DM)::ar iq pl.length pk pl::Te) mixed aB ?_ λx _=>?_
   ·refine W 0 ?_;refine W 1 ?_;refine W 2 ?_;refine W 3 ?_;refine W 4 ?_;refine W 5 ?_;refine W 6 ?_;refine W 7 ?_;refine W 8 ?_;refine W 9 ?_;refine lY 10 (val:=λx:ax×Nat=>.slice x.1 (be bl b).length x.2) (cZ:=λx=>[G x.1 (be bl b).length x.2 113 3 ((ky bl b pl).flatMap DM)]) (φ:=λ_=>True) rfl E aB (λw hw=>Fo (aQ nm) (J Z pa) (J Z re) bl (I ba q.length bc) ⟨_,_,_,rfl⟩ b pd iq pl.length pk pl w (gV.cB cu hw.c_) hlen (hw.nf (k:=0) rfl rfl A λi x hx=>⟨mm x,λj v hj=>e_ eQ pl i x j v hx hj,rfl,ES x (aA hx)⟩) yT) λx _=>?_;simp only[bF,aS];refine W 11 ?_;refine ef E ?_;exact dy x trivial V aF
   obtain⟨ea,ec⟩:=x;simp only;obtain⟨pn,As⟩:∃pn,pn=(be bl b).length:=⟨_,rfl⟩;rw[<-As]at yT|-
   have ah4:pn<=1000:=A;have ajS:(ky bl b pl).length=pn:=by unfold ky;rw[List.length_zip,aG];omega
   refine dJ 113 3 ?_;obtain⟨Fx,Bh⟩:∃Fx:Nat->List (Nat×cI),Fx=λj=>(((be bl b).take j).filter λq=>decide (q∈o)).map λq=>(o.idxOf q,gi bl b ⟨pd,pl⟩ q):=⟨_,rfl⟩;have Bg:Fx 0=[]:=by rw[Bh];simp
   refine aU ?_;let Tf:=ar iq pl.length pk pl::aw (O ⟨zb,zo,U⟩) ps.length qc (es++ps.drop ei)::au p7 (O ⟨zb,zo,U⟩) ps.length qc ji xs.length eO kd on xa to.length xc::am ga i gc ds::D p5 nm pa re ga i gc::aj p4::D p2 nm pa re ba q.length bc::Ta;refine bH (λ(x:Nat×List (Nat×cI)×ax×Nat)=>x.1<=pn/\x.2.1=Fx x.1) (λx=>(11,J Z x.1)::(10,I x.2.2.1 x.2.1.length x.2.2.2)::(9,I ea pn ec)::(8,J Z ei)::M 7 p7::(6,J Z i)::Td)
    (λx=>G x.2.2.1 x.2.1.length x.2.2.2 113 3 (x.2.1.flatMap yu)::G ea pn ec 113 3 ((ky bl b pl).flatMap DM)::Tf) (λx=>pn-x.1) (0,[],U,0) ⟨aN _,Bg.symm⟩ (aP V aF) λx ⟨hj,hl⟩=>?_<;>(try unfold Tf)<;>(try unfold Ta)<;>(try unfold Tm)<;>try unfold Td
   obtain⟨j,l,ra,rc⟩:=x;simp only at hj hl|-
   have Du:l.length<=j:=by
    rw[hl,Bh,aG];refine dS (fC _ _) ?_;rw[dA];omega
   refine bA ?_;apply aL<;>intro h4
   ·have iS:j<pn:=aD h4
    obtain⟨v,hv⟩:=bE pl j A;obtain⟨qj,Cy⟩:=bE (be bl b) j A;have hed:(ky bl b pl)[j]?=O ((qj:Int),v):=by
     unfold ky;rw[List.getElem?_zip_eq_some];exact⟨by rw[aW,Cy];rfl,hv⟩
    have se:gi bl b ⟨pd,pl⟩ qj=v:=by
     unfold gi;have h4:(be bl b).idxOf qj=j:=by
      have h5:=mD (jV bl b) (i:=j) A;rwa[lx Cy]at h5
     rw[h4,fF,hv]
     rfl
    have mC:Fx (j+1)=l++if qj∈o then[(o.idxOf qj,v)]else[]:=by
     rw[hl,Bh];simp only;rw[bV,Cy,mw,bz];congr 1
     by_cases h4:qj∈o
     ·simp[h4,se]
     ·simp[h4]
    refine fy 1 rfl A λeb eo YM=>?_;subst YM;have Pk:cg j pn:=⟨iS⟩;let Tc:=G (O ⟨eb,eo,U⟩) pn ec 113 3 ((ky bl b pl).flatMap DM)::Tf;let To:=(G ra l.length rc 113 3 (l.flatMap yu)::Tc);have hoc:gB To eb (eo+j*3) (J Z (qj:Int)):=⟨λ_ _ _ hw=>by
     have h5:=hw.dp (k:=1) rfl (e_ vR _ j _ 0 (J Z (qj:Int)) hed rfl);rwa[dR]at h5⟩
    have hoe:gm To eb (eo+j*3+1) _:=M7 vR (k:=1) rfl hed 1 rfl rfl;refine aU ?_;refine bY rfl (λw hw=>Fi _ _ (qj:Int) w (ho.cB du hw.c_)) ?_;rw[LB]
    by_cases EM:qj∈o
    ·rw[al EM]
     rw[al EM]at mC
     repeat(first|refine aU ?_|refine dd λ_ _=>?_)
     rw[show decide ((0:Int)<=((o.idxOf qj:Nat):Int))=true by simp]
     refine fB rfl rfl A A λSP rc'=>?_;rw[show l.length+1=(l++[(o.idxOf qj,v)]).length by simp,show l.flatMap yu++[J Z ((o.idxOf qj:Nat):Int),ag v.dq,J Z v.n]=(l++[(o.idxOf qj,v)]).flatMap yu by rw[ee];rfl];refine aU ?_;exact a_ (j+1,l++[(o.idxOf qj,v)],SP,rc') ⟨by simp only;omega,mC.symm⟩ bB V aB
    ·rw[ai EM]
     rw[ai EM,cj]at mC;refine aU ?_;rw[show decide ((0:Int)<=(-1:Int))=false by decide]
     exact a_ (j+1,l,ra,rc) ⟨by simp only;omega,mC.symm⟩ bB V aF
   have hje:j=pn:=by have:=cE h4;omega
   have hlf:l=uU bl o b ⟨pd,pl⟩:=by
    rw[hl,Bh];unfold uU;simp only;rw[jR A]
   refine aV ?_;obtain⟨row,iy⟩:∃row,row=rA (l.map Xp) o.length:=⟨_,rfl⟩;have aaM:row=(ft bl o b ⟨pd,pl⟩).src:=by rw[iy,hlf];exact ZS hk.nodup b _
   have afp:row.length<=1000:=by have:=BI (l.map Xp) o.length;rw[<-iy]at this;omega
   have acG:∀(k:Nat) (H:List cq) (w:ae),Wd db w0 H w->H[k]?=O (G ra l.length rc 113 3 (l.flatMap yu))->iL Y 77 [I ra l.length rc,J Z o.length] w λu w'=>∃x:ax×Nat,u=I x.1 row.length x.2/\Wd db w [ar x.1 row.length x.2 row] w'/\True:=λk H w hw Ct=>by
    rw[iy];refine LH ra l.length rc (l.map Xp) o.length A w (hw.nf Ct (by rw[aG]) A λi x hx=>⟨DM x,λj v hj=>?_,rfl⟩);rw[<-abk];exact e_ vR (l.map Xp) i x j v hx hj
   have mT:∀(na:ax) (nc:Nat),lS ((es++ps.drop ei).flatMap iz) (ei*2+1) (I na row.length nc) (((es++[(⟨pd,na,nc,row⟩:ch)])++ps.drop (ei+1)).flatMap iz):=λna nc=>⟨by
    rw[fL eP jT (k:=1) A (y:=(⟨pd,na,nc,row⟩:ch)) rfl];congr 1;exact kS heL ce,by rw[cA eP,bW,eS];omega⟩
   have Q0:∀cP:cq,mf (cP::G ra l.length rc 113 3 (l.flatMap yu)::G ea pn ec 113 3 ((ky bl b pl).flatMap DM)::ar iq pl.length pk pl::aw (O ⟨zb,zo,U⟩) ps.length qc (es++ps.drop ei)::au p7 (O ⟨zb,zo,U⟩) ps.length qc ji xs.length eO kd on xa to.length xc::am ga i gc ds::D p5 nm pa re ga i gc::aj p4::D p2 nm pa re ba q.length bc::Ta) zb (zo+ei*2+1) 4 zo (ei*2+1) ps.length qc 49 2 ((es++ps.drop ei).flatMap iz):=λcP=>⟨rfl,A⟩;refine dI [au p7 (O ⟨zb,zo,U⟩) ps.length qc ji xs.length eO kd on xa to.length xc] (λ_:ax×Nat=>True) (λ_=>(8,J Z ei)::M 7 p7::(6,J Z i)::Td) (λx=>ar x.1 row.length x.2 row::aw (O ⟨zb,zo,U⟩) ps.length qc ((es++[(⟨pd,x.1,x.2,row⟩:ch)])++ps.drop (ei+1))::au p7 (O ⟨zb,zo,U⟩) ps.length qc ji xs.length eO kd on xa to.length xc::am ga i gc ds::D p5 nm pa re ga i gc::aj p4::D p2 nm pa re ba q.length bc::Ta) mixed aB ?_ λx _=>?_
   ·refine W 0 ?_;refine W 1 ?_;refine W 2 ?_;refine W 3 ?_;refine W 4 ?_;refine W 5 ?_;refine lY 6 (val:=λx:ax×Nat=>.slice x.1 row.length x.2) (cZ:=λx=>[ar x.1 row.length x.2 row]) (φ:=λ_=>True) rfl E aB (λw hw=>acG 0 _ w hw rfl) λx _=>?_;obtain⟨na,nc⟩:=x;simp only[bF,aS];have Zh:=mT na nc;refine W 7 ?_;refine W 8 ?_;refine jr 9 E E aB ?_;exact dy (na,nc) trivial V aB
   obtain⟨na,nc⟩:=x;simp only;refine aU ?_;have gk:(es++[(⟨pd,na,nc,row⟩:ch)]).length=ei+1:=by simp[heL]
   let Tg:=(((es++[(⟨pd,na,nc,row⟩:ch)])++ps.drop (es++[(⟨pd,na,nc,row⟩:ch)]).length).map dZ++(oz Tm++ds.map bP));refine bG (H1:=aw (O ⟨zb,zo,U⟩) ps.length qc ((es++[(⟨pd,na,nc,row⟩:ch)])++ps.drop (es++[(⟨pd,na,nc,row⟩:ch)]).length)::au p7 (O ⟨zb,zo,U⟩) ps.length qc ji xs.length eO kd on xa to.length xc::am ga i gc ds::D p5 nm pa re ga i gc::aj p4::D p2 nm pa re ba q.length bc::Tg) (aX.2 λe=>?_) ?_<;>(try unfold Tg)<;>try unfold Tm
   ·have e2:dZ (⟨pd,na,nc,row⟩:ch)=ar na row.length nc row:=rfl
    rw[gk];simp only[bz,cf,dm,bU,bM,dG,e2,D,aj,am,au,ar,aw,Ta,Tm];omega
   refine a_ (es++[(⟨pd,na,nc,row⟩:ch)]) ⟨by rw[gk];omega,?_,λq hq=>?_⟩ (by rw[gk];omega) (by simp only[gk];repeat(first|exact trivial|refine⟨rfl,?_⟩)) aF
   ·rw[gk,bV,hu,bz,bz,vZ]
    simp only[jk,cf,dm,ch.iN,List.append_cancel_left_eq,List.cons.injEq,and_true];rw[aaM]
    rfl
   ·rcases bO.1 hq with hq|hq
    ·exact zR q hq
    ·rw[bQ.1 hq]
     refine⟨hud,afp,λv hv=>?_⟩;simp only at hv;rw[aaM]at hv;unfold ft at hv;obtain⟨y,hy,rfl⟩:=aT.1 hv;have EV:=(cR.1 hy).2;exact ES _ (vF (R:=R) (p:=⟨pd,pl⟩) (by rw[yT,As]) (aD EV))
  have fX:es.length=ps.length:=by have:=cE h3;omega
  rw[fX,gY,cj];rw[fX,cL]at vZ;refine aV ?_;let Tb:=(es.map dZ++(aH ji xs.length eO xs::(xs.map gC++ds.map bP)));let Tl:=am ga i gc ds::D p5 nm pa re ga i gc::aj p4::D p2 nm pa re ba q.length bc::Tb;let Th:=aw qa ps.length qc es::au p7 qa ps.length qc ji xs.length eO kd on xa to.length xc::Tl;refine bG (H1:=aE xa to.length xc to::Th) (aX.2 λe=>?_) ?_<;>(try unfold Th)<;>(try unfold Tl)<;>try unfold Tb
  ·unfold oz pY
   simp only[bU,bM,D,aj,am,au,aw,aE,aH];omega
  obtain⟨Ay,ER⟩:∃Ay:Nat->List Int,Ay=λk=>(to.take k).map (λt=>((o.idxOf t.toNat:Nat):Int))++to.drop k:=⟨_,rfl⟩;have KX:∀k,(Ay k).length=to.length:=λk=>by rw[ER];simp;omega
  have Vi:Ay 0=to:=by rw[ER];simp
  rw[show aE xa to.length xc to=aE xa to.length xc (Ay 0) by rw[Vi]];refine bH (λ(k:Nat)=>k<=to.length) (λk=>(13,J Z k)::M 7 p7::(6,J Z i)::Td) (λk=>aE xa to.length xc (Ay k)::Th) (λk=>to.length-k) 0 (aN _) (aP V aF) λk UO=>?_<;>(try unfold Th)<;>(try unfold Tl)<;>(try unfold Tb)<;>(try unfold Td);refine bA ?_;apply aL<;>intro h3
  ·have B0:k<to.length:=aD h3
   obtain⟨x,hx⟩:=bE to k B0;have Ze:x∈dY bl b:=by rw[fI IB];exact aA hx
   have KZ:=hk.closed b (aA hb) x Ze;have Mv:=mz hg Ze;obtain⟨xn,rfl⟩:∃xn:Nat,x=xn:=⟨x.toNat,A⟩;rw[fR]at KZ;refine fy 0 rfl A λyb yo B4=>?_;subst B4;have Pk:cg k to.length:=⟨B0⟩;have aeI:(Ay k)[k]?=O (xn:Int):=by
    rw[ER];simp only;rw[dH dr,aG,dA,fP A,cV,gp,dR,hx]
   have acT:MG ((Ay k).map (J Z)) (k*1) (J Z (xn:Int)):=⟨by rw[km,aW,aeI];rfl⟩;have Uz:to.drop k=(xn:Int)::to.drop (k+1):=by rw[jb B0,(aJ.1 hx).2]
   have qh:(Ay k).set k ((o.idxOf xn:Nat):Int)=Ay (k+1):=by
    rw[ER];simp only;rw[kj _ _ dr,aG,dA,fP A,cV,Uz,bI,bV,hx,bz];simp
   have mT:lS ((Ay k).map (J Z)) (k*1) (J Z ((o.idxOf xn:Nat):Int)) ((Ay (k+1)).map (J Z)):=⟨by
    rw[km,<-eT,qh],by rw[aG,KX];omega⟩
   refine aU ?_;refine dI [au p7 qa ps.length qc ji xs.length eO kd on (O ⟨yb,yo,U⟩) to.length xc] (λ_:Unit=>True) (λ_=>(13,J Z k)::M 7 p7::(6,J Z i)::Td) (λ_=>aE (O ⟨yb,yo,U⟩) to.length xc (Ay (k+1))::aw qa ps.length qc es::au p7 qa ps.length qc ji xs.length eO kd on (O ⟨yb,yo,U⟩) to.length xc::Tl) mixed aB ?_ λ_ _=>?_
   ·refine W 0 ?_;refine W 1 ?_;refine W 2 ?_;refine W 3 ?_;refine W 4 ?_;refine W 5 ?_;refine W 6 ?_;refine W 7 ?_;refine W 8 ?_;refine W 9 ?_;refine cD 10 E (gM 10 rfl aB ?_);refine vY 11 rfl E aB (λw hw=>Fi _ _ (xn:Int) w (ho.cB du hw.c_)) ?_;rw[LB,al KZ];refine W 12 ?_;refine jr 13 E E aB ?_;exact dy () trivial V aF
   ·refine aU ?_
    exact a_ (k+1) A A V aF
  ·have hke:k=to.length:=by have:=cE h3;omega
   subst hke;have EF:(Ay to.length)=(iP bl o b ((⟨qa,qc,ps,ji,eO,xs,kd,on,xa,xc,to⟩:aK)).dD).to:=by
    rw[ER];simp only[cL,gY,cj]
    rfl
   obtain⟨tn,qZ⟩:∃tn,tn=Ay to.length:=⟨_,rfl⟩;rw[<-qZ]at EF|-
   have KW:tn.length=to.length:=by rw[qZ,KX]
   obtain⟨B',qq⟩:∃B':aK,B'=⟨qa,qc,es,ji,eO,xs,kd,on,xa,xc,tn⟩:=⟨_,rfl⟩;have hbC:eA B'=[I qa ps.length qc,I ji xs.length eO,J Z kd,ag on.dq,J Z on.n,I xa to.length xc]:=by rw[qq];simp only[eA,fX,KW]
   have AY:B'.dD=iP bl o b (bi bl b):=by
    rw[gG IB,qq];unfold aK.dD iP;simp only[vZ,EF,dM]
    rfl
   have Is:B'.Bd:=by
    rw[qq];refine⟨rP.kind,rP.on,by rw[fX];exact Dx,zR,rP.list,rP.ins,by rw[KW];exact acP,λt ht=>?_⟩;rw[EF]at ht;obtain⟨y,hy,rfl⟩:=aT.1 ht;have:=List.idxOf_le_length (a:=y.toNat) (l:=o);exact⟨A,A⟩
   repeat(first|refine aV ?_|refine dd λ_ _=>?_)
   refine fB rfl rfl A A λRv Rz=>?_
   try simp only[au]
   rw[<-hbC,show i+1=(ds++[B']).length by simp[tO],show ds.flatMap eA++eA B'=(ds++[B']).flatMap eA by rw[ee];simp];refine aV ?_;rename_i nb _;have gk:(ds++[B']).length=i+1:=by simp[tO]
   have e1:ij B'=aw qa ps.length qc es::aH ji xs.length eO xs::aE xa to.length xc tn::(es.map dZ++xs.map gC):=by rw[qq];simp only[ij,fX,KW]
   refine lr (H':=ij B'++(am Rv (ds++[B']).length Rz (ds++[B'])::D p5 nm pa re Rv (ds++[B']).length Rz::aj p4::D p2 nm pa re ba q.length bc::ds.map bP)) (λw hw=>?_) ?_
   ·refine hw.pick ⟨[G (O ⟨nb,0,U⟩) 1 1 46 6 (eA B'),aM p7 (eA B') 46],aX.2 λe=>?_⟩
    rw[e1];simp only[bU,bM,dG,D,aj,am,aw,aE,aH];omega
   refine yv ?_;refine bG (H1:=am Rv (ds++[B']).length Rz (ds++[B'])::D p5 nm pa re Rv (ds++[B']).length Rz::aj p4::D p2 nm pa re ba q.length bc::(ds++[B']).map bP) (aX.2 λe=>?_) ?_
   ·have e3:bP B'=cq.join (ij B'):=rfl
    simp only[bz,cf,dm,bU,bM,dG,e3,D,aj,am];omega
   refine a_ (Rv,Rz,ds++[B']) ⟨by simp only[gk];omega,?_,λq hq=>?_⟩ (by simp only[gk];omega) (by simp only[gk];repeat(first|exact trivial|refine⟨rfl,?_⟩)) aF
   ·simp only[gk]
    rw[bV,hb,bz,bz,Aq,cf,dm,AY]
    rfl
   ·rcases bO.1 hq with hq|hq
    ·exact Pd q hq
    ·rw[bQ.1 hq]
     exact Is
 ·have hie:ds.length=o.length:=by have:=cE h2;omega
  rw[hie,cL]at Aq;refine aV ?_;refine fD rfl λw hw=>⟨(ga,gc,ds),rfl,?_,Aq,Pd⟩;refine hw.pick ⟨[D p5 nm pa re ga ds.length gc,D p4 nm pa re ga ds.length gc,D p2 nm pa re ba q.length bc],aX.2 λe=>?_⟩;unfold eM;simp only[bU,bM,dG,D,am];omega
section
structure fh(bl:List aq)(b t:Nat):Prop where
 blt:b<bl.length
 Di:t<bl.length
 ne:t≠b
 kind:(bi bl b).kind=2
 to:(bi bl b).to=[(t:Int)]
 none:(bi bl t).bg=[]
 one:be bl t=[b]
def F3(bl:List aq)(b t q:Nat):List Int:=if q=t then[]else if q=b then dY bl t else dY bl q
def kA(bl:List aq)(b t c:Nat):List Nat:=(bj bl.length).filter λq=>decide ((c:Int)∈F3 bl b t q)
def yW(bl:List aq)(b t c:Nat)(p:gD):gD:=⟨p.dst,(kA bl b t c).map λq=>gi bl c p (if q=b then t else q)⟩
def pG(bl:List aq)(b t c:Nat)(B:aq):aq:=
 if c=t then sj else if c=b then⟨B.bg.map (yW bl b t c),B.list++(bi bl t).list,(bi bl t).kind,(bi bl t).on,(bi bl t).to⟩else{B with bg:=B.bg.map (yW bl b t c)}
def cH(bl:List aq)(b t:Nat):List aq:=bl.mapIdx (pG bl b t)
theorem dj(bl:List aq)(b t:Nat):(cH bl b t).length=bl.length:=by simp[cH]
theorem ld{B:aq}(h:bl[c]?=O B):(cH bl b t)[c]?=O (pG bl b t c B):=by
 unfold cH;rw[eD,h]
 rfl
theorem ou(h:c<bl.length):bi (cH bl b t) c=pG bl b t c (bi bl c):=gG (ld (ck h))
theorem H5(bl:List aq)(b t c:Nat)(B:aq):(pG bl b t c B).to=if c=t then[]else if c=b then(bi bl t).to else B.to:=by
 unfold pG
 split
 ·rfl
 split<;>rfl
theorem uO(bl:List aq)(b t c:Nat)(B:aq):(pG bl b t c B).bg=if c=t then[]else B.bg.map (yW bl b t c):=by
 unfold pG
 split
 ·rfl
 split<;>rfl
theorem pi(h:¬c<bl.length):dY bl c=[]:=by
 unfold dY;rw[cm A]
section
variable {bl:List aq} {b t:Nat} (hg:dK bl) (hj:fh bl b t)
include hj
theorem nI(c:Nat):dY (cH bl b t) c=F3 bl b t c:=by
 by_cases hc:c<bl.length
 ·rw[kT (by rw[dj];exact hc),ou hc,H5]
  unfold F3;rw[kT hj.Di,kT hc]
 ·rw[pi (by rw[dj];exact hc)]
  unfold F3;rw[ai (by have:=hj.Di;omega),ai (by have:=hj.blt;omega),pi hc]
theorem gN(c:Nat):be (cH bl b t) c=kA bl b t c:=by
 unfold be kA;rw[dj];refine lV λq _=>?_;rw[nI hj]
theorem sx:dY bl b=[(t:Int)]:=by rw[kT hj.blt,hj.to]
theorem wl(h:(t:Int)∈dY bl q):q=b:=by
 have hq:q<bl.length:=it λhq=>by rw[pi hq]at h;cases h
 have h1:q∈be bl t:=cR.2 ⟨cW.2 hq,aD h⟩;rw[hj.one]at h1;exact bQ.1 h1
theorem Ow:(t:Int)∉dY bl t:=λh=>hj.ne (wl hj h)
theorem iT(hc:c≠t):q∈kA bl b t c↔q≠t/\(if q=b then t else q)∈be bl c:=by
 unfold kA be;rw[cR,cR,cW,cW,dv,dv];unfold F3
 by_cases h1:q=t
 ·simp[h1]
 ·rw[ai h1]
  by_cases h2:q=b
  ·rw[al h2,al h2]
   have:=hj.Di;have:=hj.blt;exact⟨λh=>⟨h1,hj.Di,h.2⟩,λh=>⟨A,h.2.2⟩⟩
  ·rw[ai h2,ai h2]
   exact⟨λh=>⟨h1,h⟩,λh=>h.2⟩
theorem tw(hc:c≠t):b∉be bl c:=λh=>by
 have h1:=(cR.1 h).2;simp only[dv]at h1;rw[sx hj,bQ]at h1;omega
theorem Aj(hc:c≠t):(kA bl b t c).length=(be bl c).length:=by
 have h1:((kA bl b t c).map λq=>if q=b then t else q).Perm (be bl c):=by
  refine(wZ (mU (List.Nodup.sublist nu tX) λx hx y hy e=>?_) (jV bl c)).2 λx=>?_
  ·have h2:=(iT hj hc).1 hx
   have h3:=(iT hj hc).1 hy
   split at e
   ·split at e
    ·omega
    ·exact absurd e.symm h3.1
   ·split at e
    ·exact absurd e h2.1
    ·exact e
  ·rw[aT]
   constructor
   ·rintro⟨q,hq,rfl⟩
    exact((iT hj hc).1 hq).2
   ·intro hx
    by_cases e:x=t
    ·refine⟨b,(iT hj hc).2 ⟨λe2=>hj.ne e2.symm,by rw[al rfl,<-e];exact hx⟩,by rw[al rfl,e]⟩
    ·have uF:x≠b:=λe2=>tw hj hc (e2▸hx)
     exact⟨x,(iT hj hc).2 ⟨e,by rw[ai uF];exact hx⟩,by rw[ai uF]⟩
 have:=h1.length_eq;rwa[aG]at this
theorem Ww:kA bl b t t=[]:=by
 unfold kA;refine List.filter_eq_nil_iff.2 λq _=>?_;simp only[dv];unfold F3
 split
 ·simp
 split
 ·exact Ow hj
 ·rename_i h1 h2
  exact λh=>h2 (wl hj h)
theorem tF(hc:c≠t)(hq:q∈kA bl b t c)(p:gD):gi (cH bl b t) c (yW bl b t c p) q=gi bl c p (if q=b then t else q):=by
 unfold gi;rw[gN hj];unfold yW;simp only;rw[fF,aW,bL (ll hq),nw]
 rfl
include hg
theorem Hk:dK (cH bl b t):=λC hC=>by
 obtain⟨c,hc⟩:=bR hC;have kV:c<bl.length:=by rw[<-dj bl b t];exact(aJ.1 hc).1
 rw[ld (ck kV)]at hc;obtain rfl:=bJ hc;rw[H5,dj]
 split
 ·simp
 split
 ·exact hg _ (aA (ck hj.Di))
 ·exact hg _ (aA (ck kV))
end
theorem E0(hj:fh bl b t)(tP:∀(c:Nat) B,bl[c]?=O B->B.to.Nodup):∀(c:Nat) B,(cH bl b t)[c]?=O B->B.to.Nodup:=λc C hc=>by
 have kV:c<bl.length:=by rw[<-dj bl b t];exact(aJ.1 hc).1
 rw[ld (ck kV)]at hc;obtain rfl:=bJ hc;rw[H5]
 split
 ·simp
 split
 ·exact tP _ _ (ck hj.Di)
 ·exact tP _ _ (ck kV)
theorem DZ(hf:eW R bl)(hj:fh bl b t)(hc:c≠t)(kV:c<bl.length){p:gD}(hp:p∈(bi bl c).bg){v:cI}(hv:v∈(yW bl b t c p).src):v∈p.src:=by
 unfold yW at hv;obtain⟨q,hq,rfl⟩:=aT.1 hv;exact vF (R:=R) ((hf.block c _ (ck kV)).bg p hp).len ((iT hj hc).1 hq).2
theorem C9(hf:eW R bl)(hj:fh bl b t):eW R (cH bl b t):=by
 refine⟨Hk hf.iD hj,λc C hC=>?_⟩;have kV:c<bl.length:=by rw[<-dj bl b t];exact(aJ.1 hC).1
 have tP:=E0 hj (λb B hB=>(hf.block b B hB).to) c C hC;have hB:=hf.block _ _ (ck kV);have hT:=hf.block _ _ (ck hj.Di);rw[ld (ck kV)]at hC;obtain rfl:=bJ hC;refine⟨λp' wT=>?_,λx hx=>?_,?_,tP⟩
 ·rw[uO]at wT
  split at wT
  ·cases wT
  rename_i Pc;obtain⟨p,hp,rfl⟩:=aT.1 wT;have Cx:=hB.bg p hp;refine⟨Cx.dst,by rw[gN hj];simp[yW],λv hv=>Cx.tT v (DZ hf hj Pc kV hp hv)⟩
 ·unfold pG at hx
  split at hx
  ·cases hx
  split at hx
  ·rcases bO.1 hx with hx|hx
   ·exact hB.list x hx
   ·exact hT.list x hx
  ·exact hB.list x hx
 ·unfold pG
  split
  ·exact λh=>by cases h
  split
  ·exact hT.on
  ·exact hB.on
theorem CG(hj:fh bl b t):eu (cH bl b t)=eu bl:=by
 rw[Ab,Ab,dj];have hs:∀c,c<bl.length->JD (bi (cH bl b t) c)=if c=t then 0 else if c=b then JD (bi bl b)+JD (bi bl t)else JD (bi bl c):=λc hc=>by
  rw[ou hc];unfold pG
  split
  ·rfl
  split
  ·rename_i h2
   subst h2;unfold JD;simp only[aG,bW,hj.none,pE];omega
  ·unfold JD
   simp
 rw[ew λc hc=>hs c (cW.1 hc)];have hpt:(bj bl.length).Perm (t::b::((bj bl.length).erase t).erase b):=by
  have h1:=List.perm_cons_erase (cW.2 hj.Di);have h2:b∈(bj bl.length).erase t:=(List.mem_erase_of_ne (λe=>hj.ne e.symm)).2 (cW.2 hj.blt);exact h1.trans ((List.perm_cons_erase h2).cons t)
 rw[(hpt.map _).sum_nat,(hpt.map λc=>JD (bi bl c)).sum_nat];simp only[cf,g_,if_true];rw[ai (λe=>hj.ne e.symm)];have tP:((bj bl.length).erase t).Nodup:=List.nodup_range.erase t;have h3:∀c∈((bj bl.length).erase t).erase b,c≠t/\c≠b:=λc hc=>by
  have h4:=(List.Nodup.mem_erase_iff tP).1 hc;have h5:=(List.Nodup.mem_erase_iff tX).1 h4.2;exact⟨h5.1,h4.1⟩
 rw[ew (g:=λc=>JD (bi bl c)) λc hc=>by rw[ai (h3 c hc).1,ai (h3 c hc).2]];omega
structure FTj(k b t lb:Nat)(f g:sD):Prop where
 fn:g.fn=f.fn
 bm:g.bm=f.bm
 dst:g.dst=f.dst
 place:(f.fn=k/\f.block=t/\g.block=b/\g.at'=lb+f.at')\/(¬(f.fn=k/\f.block=t)/\g.block=f.block/\g.at'=f.at')
def FRj(k b t lb:Nat)(d e:Int)(f g:sD):Prop:=e=d/\FTj k b t lb f g
theorem FTj.back{lb:Nat}{f g:sD}(h:FTj k b t lb f g)(d n:Int):FTj k b t lb (f.set d n) (g.set d n):=by
 obtain⟨h1,h2,h3,h4⟩:=h;exact⟨h1,by unfold sD.set;simp only[h2],h3,h4⟩
structure af6(u:dk)(k b t lb:Nat)(s s2:nZ):Prop where
 ok:mM u (s.steps+1) s
 rel:adz (FRj k b t lb) (FTj k b t lb) s s2
theorem RK:fE (tA u k bl).funcs=fE u.funcs:=by
 refine Ho ?_;apply cY;intro j;rw[aW,aW,vC]
 by_cases e:k=j
 ·simp only[e,if_true]
  cases u.funcs[j]?<;>rfl
 ·simp only[e,if_false]
theorem HE(u:dk)(k:Nat)(bl:List aq)(j:Nat):mu (tA u k bl) j=mu u j:=by
 unfold mu;rw[vC]
 by_cases e:k=j
 ·simp only[e,if_true]
  cases u.funcs[j]?<;>rfl
 ·simp only[e,if_false]
theorem Wy(hX:u.funcs[k]?=O X)(bl:List aq)(j:Nat):kC (tA u k bl) j=if k=j then bl else kC u j:=by
 unfold kC;rw[vC]
 by_cases e:k=j
 ·subst e
  simp only[if_true,hX,b_]
  rfl
 ·simp only[e,if_false]
theorem MM(u:dk)(f:sD):uq u f=(kC u f.fn).getD f.block ⟨[],[],1,lB,[]⟩:=by
 unfold uq kC;cases u.funcs[f.fn]? with
 |none=>rfl
 |some X=>rfl
theorem Vx{X0:bZ}(hu:tV u)(hc:jy u)(hX0:u.funcs[k]?=O X0)(hj:fh X0.blocks b t):Sim u (tA u k (cH X0.blocks b t)) 0 1 (af6 u k b t (bi X0.blocks b).list.length):=by
 obtain⟨v,hv⟩:∃v,v=tA u k (cH X0.blocks b t):=⟨_,rfl⟩;rw[<-hv];intro s s2 ⟨dV,hrel⟩;obtain⟨X,R,hf⟩:=dV.dC;obtain⟨B,hB⟩:=bE X.blocks s.dC.block hf.block;have DS:=aA hB;have pJ:=hf.fit.dD B DS;have xw:=hc.body X (aA hf.get);obtain⟨hm,hi,ho,nW,NK⟩:=hrel;obtain⟨Vg,IL,SI,Zb⟩:=NK;have Kz:kC u s.dC.fn=X.blocks:=by unfold kC;rw[hf.get]
 have zQ:kC v s.dC.fn=if k=s.dC.fn then cH X.blocks b t else X.blocks:=by
  rw[hv,Wy hX0,Kz]
  by_cases e:k=s.dC.fn
  ·rw[al e,al e]
   have:X0=X:=by rw[e,hf.get]at hX0;exact(bJ hX0).symm
   rw[this]
  ·rw[ai e,ai e]
 have hXk:s.dC.fn=k->X0=X:=λe=>by rw[<-e,hf.get]at hX0;exact(bJ hX0).symm
 have Xv:=Cd hf hB;have Du:=nW.len;obtain⟨C,hCd⟩:∃C,uq v s2.dC=C:=⟨_,rfl⟩;have hCb:C=(kC v s.dC.fn).getD s2.dC.block ⟨[],[],1,lB,[]⟩:=by rw[<-hCd,MM,Vg]
 have Vd:nM v s2=match C.list[s2.dC.at']? with
  |none=>sV v (tick s2) C
  |some x=>vl v (rJ (tick s2)) x:=by rw[oA,hCd];rfl
 have hCc:(s.dC.fn=k/\s.dC.block=t/\s2.dC.block=b/\s2.dC.at'=(bi X.blocks b).list.length+s.dC.at'/\C.list=(bi X.blocks b).list++B.list/\C.kind=B.kind/\C.on=B.on/\C.to=B.to)\/
   (s.dC.fn=k/\s.dC.block=b/\s2.dC.block=b/\s2.dC.at'=s.dC.at'/\C.list=B.list++(bi X.blocks t).list)\/
   (¬(s.dC.fn=k/\s.dC.block=t)/\¬(s.dC.fn=k/\s.dC.block=b)/\s2.dC.block=s.dC.block/\s2.dC.at'=s.dC.at'/\C.list=B.list/\C.kind=B.kind/\C.on=B.on/\C.to=B.to):=by
  rcases Zb with⟨h1,h2,h3,h4⟩|⟨h1,h3,h4⟩
  ·have Yz:=hXk h1
   subst Yz;rw[al h1.symm]at zQ;have Nj:bi X0.blocks t=B:=by rw[<-h2];exact gG hB
   have:C=pG X0.blocks b t b (bi X0.blocks b):=by rw[hCb,zQ,fF,h3,ld (ck hj.blt)];rfl
   unfold pG at this;rw[ai (λe=>hj.ne e.symm),al rfl,Nj]at this;exact .inl ⟨h1,h2,h3,h4,by rw[this],by rw[this],by rw[this],by rw[this]⟩
  ·by_cases h5:s.dC.fn=k
   ·have Yz:=hXk h5
    subst Yz;rw[al h5.symm]at zQ;have Pc:s.dC.block≠t:=λe=>h1 ⟨h5,e⟩;have:C=pG X0.blocks b t s.dC.block B:=by rw[hCb,zQ,fF,h3,ld hB];rfl
    unfold pG at this;rw[ai Pc]at this
    by_cases h6:s.dC.block=b
    ·rw[al h6]at this
     exact .inr (.inl ⟨h5,h6,by rw[h3,h6],h4,by rw[this]⟩)
    ·rw[ai h6]at this
     exact .inr (.inr ⟨h1,λh=>h6 h.2,h3,h4,by rw[this],by rw[this],by rw[this],by rw[this]⟩)
   ·rw[ai (λe=>h5 e.symm)]at zQ
    have:C=B:=by rw[hCb,zQ,fF,h3,hB];rfl
    exact .inr (.inr ⟨h1,λh=>h5 h.1,h3,h4,by rw[this],by rw[this],by rw[this],by rw[this]⟩)
 have hFT:FTj k b t (bi X0.blocks b).list.length s.dC s2.dC:=⟨Vg,IL,SI,Zb⟩;have pu:∀w:cI,iU s2.dC w=iU s.dC w:=λw=>by unfold iU;rw[IL]
 cases hx:B.list[s.dC.at']? with
 |some x=>
  have Aw:nM u s=vl u (rJ (tick s)) x:=by rw[oA,Xv];simp only[hx]
  have qH:=aA hx;have pw:=(aJ.1 hx).1;have hCx:C.list[s2.dC.at']?=O x:=by
   rcases hCc with⟨_,_,_,h4,h5,_⟩|⟨_,_,_,h4,h5⟩|⟨_,_,_,h4,h5,_⟩
   ·rw[h4,h5,dH A,uN,hx]
   ·rw[h4,h5,eX pw,hx]
   ·rw[h4,h5,hx]
  have rC:nM v s2=vl v (rJ (tick s2)) x:=by rw[Vd];simp only[hCx]
  obtain⟨_,_,_,ud⟩:=vH (xw.list _ B hB x qH);have hgt:FTj k b t (bi X0.blocks b).list.length (rJ (tick s)).dC (rJ (tick s2)).dC:=by
   refine⟨Vg,IL,SI,?_⟩;rcases Zb with⟨h1,h2,h3,h4⟩|⟨h1,h3,h4⟩
   ·exact .inl ⟨h1,h2,h3,by show s2.dC.at'+1=_+(s.dC.at'+1);omega⟩
   ·exact .inr ⟨h1,h3,by show s2.dC.at'+1=s.dC.at'+1;omega⟩
  have Bi:∀w:cI,iU (rJ (tick s2)).dC w=iU (rJ (tick s)).dC w:=pu;rcases Pw (u:=u) (v:=v) (s:=rJ (tick s)) (t:=rJ (tick s2)) (x:=x) (y:=x) rfl rfl (Bi _) (Bi _) (λ_=>ew λw _=>Bi w) hm hi ho Du ud ud with⟨f,g,e1,e2,ha⟩|⟨FZ,e1,e2⟩|⟨FZ,mem,mE,out,z,e1,e2⟩
  ·refine⟨λs' lU=>?_,λf' wI=>?_⟩
   ·rw[Aw,e1]at lU;cases lU
   ·rw[Aw,e1]at wI
    rw[<-Sum.inr.inj wI];exact⟨0,s2,g,A,A,rfl,by rw[rC,e2],ha⟩
  ·refine⟨λs' lU=>?_,λf' wI=>?_⟩
   ·have h9:=(sw hu dV lU).1
    rw[Aw,e1]at lU;have lU:=Sum.inl.inj lU;refine⟨1,_,A,A,.one (by rw[rC,e2]),h9,?_⟩;rw[<-lU,vS,vS,hv,HE];refine⟨hm,hi,ho,.add nW ⟨rfl,hgt⟩,rfl,rfl,rfl,.inr ⟨?_,rfl,rfl⟩⟩;rintro⟨e4,e5⟩;have e5:(0:Nat)=t:=e5;have h1:t=0:=e5.symm;have e6:=oh.1 ((hc.body X0 (aA hX0)).ends _ (aA (ck hj.blt)));have:=(e6.to t (by rw[hj.to];simp)).1;omega
   ·rw[Aw,e1]at wI;cases wI
  ·refine⟨λs' lU=>?_,λf' wI=>?_⟩
   ·have h9:=(sw hu dV lU).1
    rw[Aw,e1]at lU;have lU:=Sum.inl.inj lU;refine⟨1,_,A,A,.one (by rw[rC,e2]),h9,?_⟩;rw[<-lU];exact⟨rfl,rfl,rfl,nW,hgt.back x.dst z⟩
   ·rw[Aw,e1]at wI;cases wI
 |none=>
  have Aw:nM u s=sV u (tick s) B:=by rw[oA,Xv];simp only[hx]
  have pw:=mx.1 hx
  by_cases IA:s.dC.fn=k/\s.dC.block=b
  ·
   have Yz:=hXk IA.1;subst Yz;have Ir:bi X0.blocks b=B:=by rw[<-IA.2];exact gG hB
   have vf:B.kind=2:=by rw[<-Ir];exact hj.kind
   have lG:B.to=[(t:Int)]:=by rw[<-Ir];exact hj.to
   have he:sV u (tick s) B=.inl (Bm u (tick s) (t:Int)):=by
    unfold sV;rw[al vf,lG]
    rfl
   rw[he]at Aw;refine⟨λs' lU=>?_,λf' wI=>by rw[Aw]at wI;cases wI⟩;have h9:=(sw hu dV lU).1;rw[Aw]at lU;have lU:=Sum.inl.inj lU;refine⟨0,s2,A,A,rfl,h9,?_⟩;rw[<-lU,vm];have wP:kO (kC u s.dC.fn) t=[]:=by rw[Kz];unfold kO;rw[ck hj.Di];exact hj.none
   refine⟨hm,hi,ho,nW,Vg,?_,SI,.inl ⟨IA.1,fR t,?_,?_⟩⟩
   ·show s2.dC.bm=pe s.dC ((be (kC u s.dC.fn) (t:Int).toNat).idxOf s.dC.block) (kO (kC u s.dC.fn) (t:Int).toNat)
    rw[fR,wP];exact IL
   ·rcases hCc with⟨_,h2,_⟩|⟨_,_,h3,_⟩|⟨_,h2,_⟩
    ·exact absurd (IA.2.symm.trans h2).symm hj.ne
    ·exact h3
    ·exact absurd IA h2
   ·show s2.dC.at'=_+0
    have pZ:=hf.at' B hB;rw[Ir];rcases hCc with⟨_,h2,_⟩|⟨_,_,_,h4,_⟩|⟨_,h2,_⟩
    ·exact absurd (IA.2.symm.trans h2).symm hj.ne
    ·omega
    ·exact absurd IA h2
  have C8:C.list[s2.dC.at']?=U/\C.kind=B.kind/\C.on=B.on/\C.to=B.to:=by
   rcases hCc with⟨_,_,_,h4,h5,h6,h7,h8⟩|⟨h1,h2,_⟩|⟨_,_,_,h4,h5,h6,h7,h8⟩
   ·refine⟨?_,h6,h7,h8⟩
    rw[h4,h5];refine cm ?_;rw[bW];omega
   ·exact absurd ⟨h1,h2⟩ IA
   ·exact⟨by rw[h4,h5];exact hx,h6,h7,h8⟩
  obtain⟨hCn,hCk,hCo,hCt⟩:=C8;have rC:nM v s2=sV v (tick s2) C:=by rw[Vd];simp only[hCn]
  have aaR:iU s2.dC C.on=iU s.dC B.on:=by rw[hCo];exact pu _
  by_cases UQ:B.kind=2\/B.kind=3
  ·obtain⟨i,iM,e1,e2⟩:=K9 (u:=u) (v:=v) (s:=tick s) (t:=tick s2) (C:=C) UQ hCk pJ.kind.2 aaR
   have htm:=FO (B:=B) iM;obtain⟨to,T,e,hg⟩:=T8 hf hB htm;have NJ:to<X.blocks.length:=(aJ.1 hg.get).1;rw[e]at e1;rw[hCt,e]at e2;have afF:(to:Int)∈dY X.blocks s.dC.block:=by rw[fI hB,<-e];exact htm
   have Gh:kO (kC u s.dC.fn) to=T.bg:=by rw[Kz];unfold kO;rw[hg.get]
   have XA:¬(s.dC.fn=k/\to=t):=λ⟨h1,h2⟩=>by
    have Yz:=hXk h1;subst Yz;rw[h2]at afF;exact IA ⟨h1,wl hj afF⟩
   refine⟨λs' lU=>?_,λf' wI=>?_⟩
   ·have h9:=(sw hu dV lU).1
    rw[Aw,e1]at lU;have lU:=Sum.inl.inj lU;refine⟨1,_,A,A,.one (by rw[rC,e2]),h9,?_⟩;rw[<-lU,vm,vm];refine⟨hm,hi,ho,nW,Vg,?_,SI,.inr ⟨λh=>XA ⟨h.1,by have:=h.2;rw[<-this];exact(fR to).symm⟩,rfl,rfl⟩⟩;show pe s2.dC ((be (kC v s2.dC.fn) (to:Int).toNat).idxOf s2.dC.block) (kO (kC v s2.dC.fn) (to:Int).toNat)=pe s.dC ((be (kC u s.dC.fn) (to:Int).toNat).idxOf s.dC.block) (kO (kC u s.dC.fn) (to:Int).toNat);rw[Vg,fR,Gh]
    by_cases h5:s.dC.fn=k
    ·have Yz:=hXk h5
     subst Yz;have Pc:to≠t:=λe=>XA ⟨h5,e⟩;rw[al h5.symm]at zQ;have acv:kO (kC v s.dC.fn) to=T.bg.map (yW X0.blocks b t to):=by
      rw[zQ];unfold kO;rw[ld hg.get];simp only;rw[uO,ai Pc]
     rw[acv,zQ,Kz,gN hj];have hq:s2.dC.block∈kA X0.blocks b t to/\(if s2.dC.block=b then t else s2.dC.block)=s.dC.block:=by
      rcases hCc with⟨_,h2,h3,_⟩|⟨h1,h2,_⟩|⟨h1,h2,h3,_⟩
      ·refine⟨(iT hj Pc).2 ⟨by rw[h3];exact λe=>hj.ne e.symm,?_⟩,by rw[al h3,h2]⟩
       rw[al h3,<-h2];exact hg.mem
      ·exact absurd ⟨h1,h2⟩ IA
      ·have h6:s2.dC.block≠b:=λe=>h2 ⟨h5,by rw[<-h3];exact e⟩
       refine⟨(iT hj Pc).2 ⟨λe=>h1 ⟨h5,by rw[<-h3];exact e⟩,?_⟩,by rw[ai h6,h3]⟩;rw[ai h6,h3];exact hg.mem
     refine Oh (F:=yW X0.blocks b t to) IL (λp _=>rfl) λp _=>?_;have h6:=tF hj Pc hq.1 p;unfold gi at h6;rw[gN hj,hq.2]at h6;exact h6
    ·rw[ai (λe=>h5 e.symm)]at zQ
     have acv:kO (kC v s.dC.fn) to=T.bg:=by rw[zQ];unfold kO;rw[hg.get]
     have wS:s2.dC.block=s.dC.block:=by
      rcases hCc with⟨h1,_⟩|⟨h1,_⟩|⟨_,_,h3,_⟩
      ·exact absurd h1 h5
      ·exact absurd h1 h5
      ·exact h3
     rw[acv,zQ,Kz,wS];unfold pe;rw[IL];refine bD (λg=>List.foldl g s.dC.bm T.bg) ?_
     funext rs p
     rw[pu]
   ·rw[Aw,e1]at wI;cases wI
  ·rcases PY (u:=u) (v:=v) (FR:=FRj k b t (bi X0.blocks b).list.length) (s:=tick s) (t:=tick s2) (C:=C) (λh=>UQ (.inl h)) (λh=>UQ (.inr h)) hCk aaR ho nW with⟨f,g,e1,e2,ha⟩|⟨l,f,m,g,d1,d2,e1,e2,d3,d4⟩
   ·refine⟨λs' lU=>?_,λf' wI=>?_⟩
    ·rw[Aw,e1]at lU;cases lU
    ·rw[Aw,e1]at wI
     rw[<-Sum.inr.inj wI];exact⟨0,s2,g,A,A,rfl,by rw[rC,e2],ha⟩
   ·refine⟨λs' lU=>?_,λf' wI=>?_⟩
    ·have h9:=(sw hu dV lU).1
     rw[Aw,e1]at lU;have lU:=Sum.inl.inj lU;refine⟨1,_,A,A,.one (by rw[rC,e2]),h9,?_⟩;rw[<-lU];refine⟨hm,hi,ho,d3,?_⟩;show FTj k b t _ (f.set s.dC.dst (iU s.dC B.on)) (g.set s2.dC.dst (iU s.dC B.on));rw[SI];exact d4.2.back _ _
    ·rw[Aw,e1]at wI;cases wI
theorem Rf(hc:jy u)(hX:u.funcs[k]?=O X)(hj:fh X.blocks b t):B9 u.funcs X (px X (cH X.blocks b t)):=by
 have hs:=B9.same hc hX;have hb:=hs.body;obtain⟨R,Sx,hR,hf⟩:=sU (jo.2 hc) hX;have hg:=hf.iD;have tP:∀(b:Nat) B,X.blocks[b]?=O B->B.to.Nodup:=λb B hB=>(hf.block b B hB).to;have Pf:∀c,c<X.blocks.length->SY X.blocks.length X.bm (bi X.blocks c):=λc kV=>oh.1 (hb.ends _ (aA (ck kV)));have jT:∀(c:Nat) C,(cH X.blocks b t)[c]?=O C->c<X.blocks.length/\C=pG X.blocks b t c (bi X.blocks c):=λc C hC=>by
  have kV:c<X.blocks.length:=by rw[<-dj X.blocks b t];exact(aJ.1 hC).1
  rw[ld (ck kV)]at hC;exact⟨kV,(bJ hC).symm⟩
 refine⟨rfl,rfl,hs.bm,?_,?_,?_,?_,?_⟩
 ·show 1<=(cH X.blocks b t).length/\(cH X.blocks b t).length<=40
  rw[dj];exact hs.many
 ·show ja (cH X.blocks b t)<=300
  rw[<-sI,CG hj,sI];exact hs.size
 ·intro C hC
  have hC:C∈cH X.blocks b t:=hC;show mr (cH X.blocks b t).length X.bm C=0;rw[dj];obtain⟨c,G2⟩:=bR hC;obtain⟨kV,rfl⟩:=jT c C G2;refine oh.2 ?_;unfold pG
  split
  ·exact⟨⟨by simp[sj],by simp[sj]⟩,by simp[sj],by simp[sj],λh=>by simp[sj]at h,λh=>by simp[sj]at h,rfl⟩
  split
  ·have h:=Pf t hj.Di
   exact⟨h.kind,h.len,h.to,h.two,h.one,h.on⟩
  ·have h:=Pf c kV
   exact⟨h.kind,h.len,h.to,h.two,h.one,h.on⟩
 ·intro c C hC p' wT
  obtain⟨kV,rfl⟩:=jT c C hC;rw[uO]at wT
  split at wT
  ·cases wT
  rename_i Pc;obtain⟨p,hp,rfl⟩:=aT.1 wT;have h0:=hb.bg c _ (ck kV) p hp;unfold oO at h0|-
  obtain⟨h1,h2,h3,h4⟩:=xM.1 h0;show BC X.bm c ((ci (cH X.blocks b t))[c]?.getD []).length (yW X.blocks b t c p)=0;rw[kf (Hk hg hj) (E0 hj tP) (by rw[dj];exact kV)];refine xM.2 ⟨h1,h2,?_,λw hw=>h4 w (DZ hf hj Pc kV hp hw)⟩;rw[gw,aG,gN hj];simp[yW]
 ·intro c C hC x hx
  obtain⟨kV,rfl⟩:=jT c C hC;show fA u.funcs X.bm x=0;unfold pG at hx
  split at hx
  ·cases hx
  split at hx
  ·rcases bO.1 hx with hx|hx
   ·exact hb.list c _ (ck kV) x hx
   ·exact hb.list t _ (ck hj.Di) x hx
  ·exact hb.list c _ (ck kV) x hx
theorem NV(h:Whole u)(hX:u.funcs[k]?=O X)(hj:fh X.blocks b t):Whole (tA u k (cH X.blocks b t))/\pA u (tA u k (cH X.blocks b t)):=by
 have ahL:∀cP∈(tA u k (cH X.blocks b t)).funcs,cP∈u.funcs\/cP=px X (cH X.blocks b t):=λcP hY=>by
  obtain⟨i,hi⟩:=bR hY;rw[vC]at hi
  by_cases e:k=i
  ·subst e
   rw[al rfl,hX]at hi;exact .inr (bJ hi).symm
  ·rw[ai e]at hi
   exact .inl (aA hi)
 refine⟨⟨GM h.ok rfl (List.length_modify _ _ _) λi zf cP hZ hY=>?_,λcP hY C hC=>?_,h.T6⟩,λmE f m uB h1 hm=>?_⟩
 ·rw[vC]at hY
  by_cases e:k=i
  ·subst e
   rw[hX]at hZ;obtain rfl:=bJ hZ;rw[al rfl,hX]at hY;obtain rfl:=bJ hY;exact Rf h.ok hX hj
  ·rw[ai e,hZ]at hY
   obtain rfl:=bJ hY;exact B9.same h.ok hZ
 ·obtain⟨R,_,_,hf⟩:=sU (jo.2 h.ok) hX
  have h0:=h.Af X (aA hX);rcases ahL cP hY with hY|rfl
  ·exact h.Af cP hY C hC
  ·have hC:C∈cH X.blocks b t:=hC
   obtain⟨c,hc⟩:=bR hC;have kV:c<X.blocks.length:=by rw[<-dj X.blocks b t];exact(aJ.1 hc).1
   rw[ld (ck kV)]at hc;obtain rfl:=bJ hc;have hB:=h0 _ (aA (ck kV));have hT:=h0 _ (aA (ck hj.Di));refine⟨?_,λq hq v hv=>?_,λx hx=>?_⟩
   ·unfold pG
    split
    ·exact⟨by simp[sj],by simp[sj]⟩
    split
    ·exact hT.on
    ·exact hB.on
   ·rw[uO]at hq
    split at hq
    ·cases hq
    rename_i Pc;obtain⟨p,hp,rfl⟩:=aT.1 hq;exact hB.bg p hp v (DZ hf hj Pc kV hp hv)
   ·unfold pG at hx
    split at hx
    ·cases hx
    split at hx
    ·rcases bO.1 hx with hx|hx
     ·exact hB.list x hx
     ·exact hT.list x hx
    ·exact hB.list x hx
 ·have e1:∀v:dk,pW v mE=⟨IX v.globals,mE,[],0,[],⟨(fE v.funcs).toNat,0,0,aI (mu v (fE v.funcs).toNat) 0,-1⟩,bump (v.funcs.map λX=>aI X.blocks.length 0) (fE v.funcs).toNat 0⟩:=λ_=>rfl
  have IK:(0:Nat)≠t:=λe=>by
   have e6:=oh.1 ((h.ok.body X (aA hX)).ends _ (aA (ck hj.blt)));have:=(e6.to t (by rw[hj.to];simp)).1;omega
  obtain⟨h2,i,j,h3,h4,h5,h6⟩:=P4 (Vx h.fit h.ok hX hj) f (pW u mE) (pW (tA u k (cH X.blocks b t)) mE) m ⟨L5 h.fit h.start uB,by
   rw[e1,e1,RK,HE];exact⟨rfl,rfl,rfl,.nil _ _,rfl,rfl,rfl,.inr ⟨λe=>IK e.2,rfl,rfl⟩⟩⟩ h1 A
  refine⟨h2,?_⟩;have e2:(pW u mE).steps=0:=rfl;have e3:(pW (tA u k (cH X.blocks b t)) mE).steps=0:=rfl;unfold lI;omega
def rE(bl:List aq):Prop:=∀B∈bl,(B.kind=1\/B.kind=2\/B.kind=3)/\(B.to.length:Int)=B.kind-1
def nR(bl:List aq)(b:Nat):Nat:=((bi bl b).to.getD 0 0).toNat
def kx(bl:List aq)(b:Nat):Option Nat:=
 if (bi bl b).kind=2/\nR bl b≠b/\(bi bl (nR bl b)).bg=[]/\(be bl (nR bl b)).length<=1 then O (nR bl b)else U
theorem zG(h:¬b<bl.length):bi bl b=sj:=by unfold bi;rw[cm A];rfl
theorem DV(hk:rE bl)(hg:dK bl)(h:(bi bl b).kind=2):b<bl.length/\(bi bl b).to=[((nR bl b:Nat):Int)]/\nR bl b<bl.length:=by
 have hb:b<bl.length:=it λhb=>by rw[zG hb]at h;simp[sj]at h
 have h1:=(hk _ (aA (ck hb))).2;rw[h]at h1;have h3:=(hg _ (aA (ck hb))).2;unfold nR
 match lG:(bi bl b).to with
 |[]=>rw[lG]at h1;simp at h1
 |[t]=>
  have:=h3 t (by rw[lG];simp);refine⟨hb,?_,?_⟩
  ·simp only[List.getD_cons_zero]
   rw[Int.toNat_of_nonneg this.1]
  ·simp only[List.getD_cons_zero]
   omega
 |_::_::_=>rw[lG]at h1;simp at h1;omega
theorem lL(hk:rE bl)(hg:dK bl):kx bl b=O t↔fh bl b t:=by
 unfold kx;constructor
 ·intro h
  split at h
  ·rename_i h1
   obtain⟨h1,h2,h3,h4⟩:=h1;obtain⟨h5,h6,h7⟩:=DV hk hg h1;obtain rfl:=bJ h;refine⟨h5,h7,h2,h1,h6,h3,?_⟩;have hm:b∈be bl (nR bl b):=cR.2 ⟨cW.2 h5,by simp only[dv];rw[kT h5,h6];simp⟩
   match hp:be bl (nR bl b)with
   |[]=>rw[hp]at hm;cases hm
   |[a]=>rw[hp]at hm;rw[bQ.1 hm]
   |_::_::_=>rw[hp]at h4;simp at h4
  ·cases h
 ·intro h
  have e:nR bl b=t:=by unfold nR;rw[h.to];simp
  rw[e,al ⟨h.kind,h.ne,h.none,by rw[h.one];simp⟩]
theorem Rg(hk:rE bl)(hj:fh bl b t):rE (cH bl b t):=λC hC=>by
 obtain⟨c,hc⟩:=bR hC;have kV:c<bl.length:=by rw[<-dj bl b t];exact(aJ.1 hc).1
 rw[ld (ck kV)]at hc;obtain rfl:=bJ hc;have h1:=hk _ (aA (ck kV));have h2:=hk _ (aA (ck hj.Di));unfold pG
 split
 ·simp[sj]
 split
 ·exact h2
 ·exact h1
def Kw(bl:List aq):Nat:=((bj bl.length).filter λc=>!(be bl c).isEmpty).length
theorem qG(hj:fh bl b t):Kw (cH bl b t)+1=Kw bl:=by
 unfold Kw;rw[dj];have h1:(bj bl.length).filter (λc=>!(be (cH bl b t) c).isEmpty)=((bj bl.length).filter λc=>!(be bl c).isEmpty).erase t:=by
  rw[List.Nodup.erase_eq_filter (List.nodup_range.sublist nu),List.filter_filter];refine lV λc _=>?_;rw[gN hj]
  by_cases e:c=t
  ·subst e
   rw[Ww hj];simp
  ·have h2:=Aj hj e
   have h3:(kA bl b t c).isEmpty=(be bl c).isEmpty:=by
    cases h4:kA bl b t c with
    |nil=>rw[h4]at h2;cases h5:be bl c with
     |nil=>rfl
     |cons _ _=>rw[h5]at h2;simp at h2
    |cons _ _=>rw[h4]at h2;cases h5:be bl c with
     |nil=>rw[h5]at h2;simp at h2
     |cons _ _=>rfl
   rw[h3];simp[e]
 rw[h1];have hm:t∈(bj bl.length).filter λc=>!(be bl c).isEmpty:=cR.2 ⟨cW.2 hj.Di,by rw[hj.one];rfl⟩;rw[List.length_erase_of_mem hm];have:=List.length_pos_of_mem hm;omega
def H_:Nat->List aq->Nat->List aq
 |0,bl,_=>bl
 |f+1,bl,b=>match kx bl b with
  |some t=>H_ f (cH bl b t) b
  |none=>bl
theorem C1(f:Nat)(bl:List aq)(b:Nat):H_ (f+1) bl b=match kx bl b with
  |some t=>H_ f (cH bl b t) b
  |none=>bl:=rfl
def nB(bl:List aq)(b:Nat):List aq:=H_ (Kw bl) bl b
def mh(bl:List aq)(i:Nat):List aq:=(bj i).foldl nB bl
def gt(bl:List aq):List aq:=mh bl bl.length
theorem zg(bl:List aq)(i:Nat):mh bl (i+1)=nB (mh bl i) i:=by unfold mh;rw[iV,qT];rfl
structure rD(R:Nat)(bl:List aq):Prop where
 ok:eW R bl
 kind:rE bl
theorem rD.join(h:rD R bl)(hj:fh bl b t):rD R (cH bl b t):=⟨C9 h.ok hj,Rg h.kind hj⟩
theorem AH(h:rD R bl)(hc:kx bl b=O t):nB bl b=nB (cH bl b t) b:=by
 have hj:=(lL h.kind h.ok.iD).1 hc;have h1:=qG hj;unfold nB;rw[<-h1];rw[C1,hc]
theorem nC(hc:kx bl b=U):nB bl b=bl:=by
 unfold nB;cases Kw bl with
 |zero=>rfl
 |succ n=>rw[C1,hc]
inductive lK:List aq->List aq->Prop
 |refl (a:List aq):lK a a
 |head {a c:List aq} {b t:Nat}:fh a b t->lK (cH a b t) c->lK a c
theorem lK.trans{b c:List aq}(h:lK a b)(k:lK b c):lK a c:=by
 induction h with
 |refl=>exact k
 |head h1 _ ih=>exact .head h1 (ih k)
theorem lK.inv{p:List aq->Prop}(hp:∀a b t,fh a b t->p a->p (cH a b t)){c:List aq}(h:lK a c)(ha:p a):p c:=by
 induction h with
 |refl=>exact ha
 |head h1 _ ih=>exact ih (hp _ _ _ h1 ha)
theorem lK.ok{c:List aq}(h:lK a c)(ha:rD R a):rD R c:=h.inv (λ_ _ _ hj h=>h.join hj) ha
theorem lK.len{c:List aq}(h:lK a c):c.length=a.length:=h.inv (p:=λx=>x.length=a.length) (λ_ _ _ _ h=>by rw[dj];exact h) rfl
theorem lK.many{c:List aq}(h:lK a c):eu c=eu a:=h.inv (p:=λx=>eu x=eu a) (λ_ _ _ hj h=>by rw[CG hj];exact h) rfl
theorem F_:∀(n:Nat) (bl:List aq) (b:Nat),Kw bl=n->rD R bl->lK bl (nB bl b)/\kx (nB bl b) b=U:=by
 intro n
 induction n with
 |zero=>
  intro bl b hn h;cases hc:kx bl b with
  |none=>rw[nC hc];exact⟨.refl _,hc⟩
  |some t=>
   have:=qG ((lL h.kind h.ok.iD).1 hc);omega
 |succ n ih=>
  intro bl b hn h;cases hc:kx bl b with
  |none=>rw[nC hc];exact⟨.refl _,hc⟩
  |some t=>
   have hj:=(lL h.kind h.ok.iD).1 hc;have h1:=qG hj;rw[AH h hc];obtain⟨h2,h3⟩:=ih (cH bl b t) b A (h.join hj);exact⟨.head hj h2,h3⟩
theorem MQ(h:rD R bl)(hj:fh bl b t)(hc:kx bl c=U):kx (cH bl b t) c=U:=by
 cases hn:kx (cH bl b t) c with
 |none=>rfl
 |some d=>
  exfalso;have h2:=h.join hj;have hd:=(lL h2.kind h2.ok.iD).1 hn;have kV:c<bl.length:=by have:=hd.blt;rwa[dj]at this
  have YK:d<bl.length:=by have:=hd.Di;rwa[dj]at this
  have Pc:c≠t:=λe=>by
   have:=hd.kind;rw[ou kV,e]at this;unfold pG at this;rw[al rfl]at this;simp[sj]at this
  have Ap:c≠b:=λe=>by
   rw[e]at hc;have:=(lL h.kind h.ok.iD).2 hj;rw[hc]at this;cases this
  have hB:pG bl b t c (bi bl c)={bi bl c with bg:=(bi bl c).bg.map (yW bl b t c)}:=by
   unfold pG;rw[ai Pc,ai Ap]
  have hk:=hd.kind;have lG:=hd.to;rw[ou kV,hB]at hk lG;simp only at hk lG;have hdt:d≠t:=λe=>by
   rw[e]at lG;exact Ap (wl hj (by rw[kT kV,lG];simp))
  have oL:=hd.none;rw[ou YK,uO,ai hdt,List.map_eq_nil_iff]at oL;have EK:=hd.one;rw[gN hj]at EK;have hlen:=Aj hj hdt;rw[EK]at hlen;have:kx bl c=O d:=(lL h.kind h.ok.iD).2 ⟨kV,YK,hd.ne,hk,lG,oL,by
   have hm:c∈be bl d:=cR.2 ⟨cW.2 kV,by simp only[dv];rw[kT kV,lG];simp⟩
   match hp:be bl d with
   |[]=>rw[hp]at hm;cases hm
   |[a]=>rw[hp]at hm;rw[bQ.1 hm]
   |_::_::_=>rw[hp]at hlen;simp at hlen⟩
  rw[hc]at this;cases this
theorem xf(h:rD R bl):∀i,lK bl (mh bl i)/\∀c,c<i->kx (mh bl i) c=U:=by
 intro i
 induction i with
 |zero=>exact⟨.refl _,λc hc=>A⟩
 |succ i ih=>
  obtain⟨h1,h2⟩:=ih;have dV:=h1.ok h;obtain⟨h3,h4⟩:=F_ _ (mh bl i) i rfl dV;rw[zg];refine⟨h1.trans h3,λc hc=>?_⟩
  by_cases e:c=i
  ·rw[e];exact h4
  ·have:rD R (nB (mh bl i) i)/\kx (nB (mh bl i) i) c=U:=h3.inv (p:=λx=>rD R x/\kx x c=U) (λa b t hj hp=>⟨hp.1.join hj,MQ hp.1 hj hp.2⟩) ⟨dV,h2 c A⟩
   exact this.2
theorem qW(h:rD R bl):lK bl (gt bl)/\∀c,kx (gt bl) c=U:=by
 obtain⟨h1,h2⟩:=xf h bl.length;refine⟨h1,λc=>?_⟩
 by_cases hc:c<bl.length
 ·exact h2 c hc
 ·unfold kx
  rw[ai];intro h3;have:=h3.1;unfold gt at this;rw[zG (by rw[h1.len];exact hc)]at this;simp[sj]at this
theorem K8{b:List aq}(hc:lK a b):∀{u:dk} {k:Nat} {X:bZ},Whole u->u.funcs[k]?=O X->X.blocks=a->Whole (tA u k b)/\pA u (tA u k b):=by
 induction hc with
 |refl a=>
  intro u k X h hX e;have:tA u k a=u:=by
   unfold tA;congr 1;apply cY;intro j;rw[rU]
   by_cases ej:k=j
   ·subst ej
    rw[hX];simp only[if_true,Option.map_eq_map,b_];unfold px;rw[<-e]
   ·simp only[ej,if_false,id_map']
  rw[this];exact⟨h,.refl _⟩
 |@head a c b' t' h1 h2 ih=>
  intro u k X h hX e;subst e;obtain⟨h3,h4⟩:=NV h hX h1;have hX':(tA u k (cH X.blocks b' t')).funcs[k]?=O (px X (cH X.blocks b' t')):=by rw[vC,al rfl,hX];rfl
  obtain⟨h5,h6⟩:=ih h3 hX' rfl;have:tA (tA u k (cH X.blocks b' t')) k c=tA u k c:=by
   unfold tA;simp only;rw[N8]
   rfl
  rw[this]at h5 h6;exact⟨h5,h4.trans h6⟩
theorem IR(h:Whole u)(hg:v.globals=u.globals)(hl:v.funcs.length=u.funcs.length)(hf:∀(k:Nat) X cP,u.funcs[k]?=O X->v.funcs[k]?=O cP->∃bl,cP=px X bl/\lK X.blocks bl):Whole v/\pA u v:=by
 have key:∀n,n<=u.funcs.length->Whole {u with funcs:=v.funcs.take n++u.funcs.drop n}/\pA u {u with funcs:=v.funcs.take n++u.funcs.drop n}:=by
  intro n
  induction n with
  |zero=>
   intro _;simp only[ri,aS,List.drop_zero];exact⟨h,.refl _⟩
  |succ n ih=>
   intro hn;obtain⟨h1,h2⟩:=ih A;have hX:u.funcs[n]?=O u.funcs[n]:=bL A;have hY:v.funcs[n]?=O (v.funcs[n]'A):=bL _;obtain⟨bl,jX,ag7⟩:=hf n _ _ hX hY;have ce:(v.funcs.take n).length=n:=by rw[dA,hl];omega
   have hX2:(v.funcs.take n++u.funcs.drop n)[n]?=O u.funcs[n]:=by
    rw[dH A,ce,cV,gp,dR];exact hX
   obtain⟨h3,h4⟩:=K8 ag7 (u:={u with funcs:=v.funcs.take n++u.funcs.drop n}) (k:=n) h1 hX2 rfl;have:tA {u with funcs:=v.funcs.take n++u.funcs.drop n} n bl={u with funcs:=v.funcs.take (n+1)++u.funcs.drop (n+1)}:=by
    unfold tA;simp only;congr 1;apply cY;intro j;rw[rU];rcases Nat.lt_trichotomy j n with hj|hj|hj
    ·simp only[show¬n=j by omega,if_false,id_map']
     rw[eX A,eX (by rw[dA,hl];omega),yf hj,yf A]
    ·subst hj
     rw[hX2,eX (by rw[dA,hl];omega),yf A,hY];simp only[if_true,Option.map_eq_map,b_];rw[<-jX]
    ·simp only[show¬n=j by omega,if_false,id_map']
     rw[dH A,dH (by rw[dA,hl];omega),ce,dA,hl,fP hn,gp,gp];congr 1;omega
   rw[this]at h3 h4;exact⟨h3,h2.trans h4⟩
 have:=key u.funcs.length (cz _);rw[jR (by rw[hl];exact cz _),gY,cj,<-hg]at this;exact this
def ql(bl:List aq):Prop:=∀q,∀t∈dY bl q,1<=t
def um(bl:List aq):Prop:=∀q,dY bl q≠[]->jg bl (-1) 0 q
theorem fh.pos(hj:fh bl b t)(hp:ql bl):t≠0:=by
 have:=hp b t (by rw[sx hj];simp);omega
theorem LC(hj:fh bl b t)(hp:ql bl):ql (cH bl b t):=λq x hx=>by
 rw[nI hj]at hx;unfold F3 at hx
 split at hx
 ·cases hx
 split at hx
 ·exact hp _ x hx
 ·exact hp _ x hx
theorem WD(hj:fh bl b t)(hp:ql bl)(h:jg bl (-1) 0 q):jg (cH bl b t) (-1) 0 (if q=t then b else q):=by
 have h0:=hj.pos hp
 induction h with
 |refl=>rw[ai (λe=>h0 e.symm)];exact .refl
 |@step x y _ he hw ih=>
  have he:(y:Int)∈dY bl x:=he
  by_cases hy:y=t
  ·subst hy
   have hx:=wl hj he;subst hx;rw[al rfl];rw[ai (λe=>hj.ne e.symm)]at ih;exact ih
  ·rw[ai hy]
   refine ih.step ?_ hw;show(y:Int)∈dY (cH bl b t) _;rw[nI hj];unfold F3
   by_cases hx:x=t
   ·rw[al hx,ai (λe=>hj.ne e.symm),al rfl,<-hx]
    exact he
   ·rw[ai hx,ai hx]
    by_cases hb:x=b
    ·rw[hb,sx hj,bQ]at he
     omega
    ·rw[ai hb];exact he
theorem GH(hj:fh bl b t)(hp:ql bl)(h:um bl):um (cH bl b t):=λq hq=>by
 rw[nI hj]at hq;unfold F3 at hq
 by_cases h1:q=t
 ·rw[al h1]at hq;exact absurd rfl hq
 rw[ai h1]at hq;have h2:jg bl (-1) 0 q:=by
  by_cases hb:q=b
  ·exact h q (by rw[hb,sx hj];simp)
  ·rw[ai hb]at hq
   exact h q hq
 have:=WD hj hp h2;rwa[ai h1]at this
theorem GI(hg:dK bl)(h0:0<bl.length):um (cG bl (cQ bl)):=λq hq=>by
 have hk:=i_ hg h0;obtain⟨hp,_⟩:=qK hg h0;have hg2:=vp hg hk;have Ps:0<(cG bl (cQ bl)).length:=by rw[dX];exact hp
 have vh:q<(cG bl (cQ bl)).length:=it λhn=>hq (pi hn);refine((wq hg2 Ps).mem q).1 ?_;rw[Fc hg h0];rw[dX]at vh;exact cW.2 vh
theorem LD(hg:dK bl)(hk:F8 bl o)(hz:nth o 0=0)(hp:ql bl):ql (cG bl o):=λq t ht=>by
 have vh:q<o.length:=it λhn=>by
  rw[pi (by rw[dX];exact hn)]at ht;cases ht
 rw[sL hg hk (gR vh)]at ht;obtain⟨x,hx,rfl⟩:=aT.1 ht;have h1:=hp _ x hx;have h2:=lH (hk.closed _ (jd vh) x hx);have h3:o.idxOf x.toNat≠0:=λe=>by
  rw[e,hz]at h2;omega
 omega
theorem vt(hk:F8 bl o)(h:rE bl):rE (cG bl o):=λC hC=>by
 unfold cG at hC;obtain⟨b,hb,rfl⟩:=aT.1 hC;have:=h _ (aA (ck (hk.lt b hb)));unfold iP;simp only[aG];exact this
def ju(X:bZ):bZ:=fJ (px X (gt (eN X)))
noncomputable def BP(u:dk):dk:={u with funcs:=u.funcs.map ju}
def Px(u:dk):dk:={u with funcs:=u.funcs.map λX=>px X (eN X)}
def AI(u:dk):dk:={u with funcs:=u.funcs.map λX=>px X (gt X.blocks)}
theorem CP(u:dk)(k:Nat):(BP u).funcs[k]?=(u.funcs[k]?).map ju:=by unfold BP;simp only[aW]
theorem W8(u:dk):BP u=Oa (AI (Px u)):=by
 unfold BP Oa AI Px;simp only[dM]
 rfl
theorem lj.af0(h:lj X R):∀B∈X.blocks,∀x∈B.list,(x.a∈eh x\/x.a=lB)/\(x.b∈eh x\/x.b=lB)/\∀v∈x.args,v∈eh x:=λB hB x hx=>by
 obtain⟨fs,h1⟩:=h.GB B hB x hx;obtain⟨h2,h3,h4,_⟩:=vH h1;refine⟨h2,h3,λv hv=>?_⟩;obtain⟨b,hb⟩:=bR hB
 by_cases FZ:x.op=20
 ·rw[<-h4 FZ];exact hv
 ·rw[((h.ok.block b B hb).list x hx).args FZ]at hv
  cases hv
theorem Hm:∀X R,lj X R->XP X (px X (eN X)) (cQ X.blocks) (fV X.bm.toNat)/\(fV X.bm.toNat).length<=R/\(px X (eN X)).name=X.name/\(px X (eN X)).params=X.params:=λX R h=>by
 have hk:=i_ h.ok.iD h.pos;have hfk:=jx h.ok hk;have pK:=h.bm;have vg:=h.par;have uB:∀B∈cG X.blocks (cQ X.blocks),∀r,r∈mZ B\/r∈pS B->r∈fV X.bm.toNat:=λB hB r hr=>by
  have:=nH hfk hB hr;exact pO.2 A
 refine⟨⟨hk,qK h.ok.iD h.pos,?_,?_,?_,uB,λr hr=>?_⟩,by rw[rz];omega,rfl,rfl⟩
 ·show eN X=(cG X.blocks (cQ X.blocks)).map _
  conv=>lhs;unfold eN;rw[<-pF (cG X.blocks (cQ X.blocks))]
  refine ew λB hB=>(WF (uB B hB) ?_).symm;unfold cG at hB;obtain⟨b,hb,rfl⟩:=aT.1 hB;show∀x∈(bi X.blocks b).list,_;exact h.af0 _ (aA (ck (hk.lt b hb)))
 ·show X.bm=_
  rw[rz];omega
 ·have:∀m n,m<=n->fV m<+:fV n:=λm n hmn=>by
   unfold fV;obtain⟨d,rfl⟩:∃d,n=m+d:=⟨n-m,A⟩;rw[List.range_add,bz];exact List.prefix_append _ _
  exact this _ _ A
 ·have:=pO.1 hr
  omega
theorem Hu{o:Nat->List Nat}{L:Nat->List Int}(hu:Whole u)(hn:NmU u v o L):pA u v:=λmE f m uB h1 hm=>by
 obtain⟨h2,h3⟩:=ZE hu hn mE uB f;have h4:lI v mE m=lI v mE f:=Fz v f m _ (by have:=h2.state;unfold lI at this h1;rw[this];exact h1) hm;rw[h4];exact⟨h2,A⟩
theorem AM(hc:jy u)(hX:u.funcs[k]?=O X):rE X.blocks/\ql X.blocks:=by
 have hb:=(B9.same hc hX).body;refine⟨λB hB=>?_,λq t ht=>?_⟩
 ·have h:=oh.1 (hb.ends B hB)
  exact⟨by have:=h.kind;omega,h.len⟩
 ·unfold dY at ht
  split at ht
  ·rename_i B hB
   exact((oh.1 (hb.ends B (aA hB))).to t ht).1
  ·cases ht
theorem Ga(hu:Whole u):Whole (AI u)/\pA u (AI u):=
 IR hu rfl (aG _) λk X cP hX hY=>by
  unfold AI at hY;simp only[aW,hX,b_]at hY;obtain⟨R,h⟩:=xj hu.ok hX;exact⟨_,(bJ hY).symm,(qW ⟨h.ok,(AM hu.ok hX).1⟩).1⟩
theorem K_(hu:Whole u):Whole (Px u)/\pA u (Px u):=
 ⟨Lr hu (λX=>px X (eN X)) _ _ Hm,Hu hu (PM hu.ok (λX=>px X (eN X)) _ _ Hm)⟩
theorem xV(hu:Whole u):Whole (BP u)/\pA u (BP u):=by
 obtain⟨h1,h2⟩:=K_ hu;obtain⟨h3,h4⟩:=Ga h1;rw[W8];exact⟨IZ h3,(h2.trans h4).trans (Hu h3 (PM h3.ok fJ _ _ E_))⟩
structure AE(X:bZ)(R:Nat):Prop where
 mid:lj (px X (gt (eN X))) R
 bl:rD R (gt (eN X))
 none:∀c,kx (gt (eN X)) c=U
 all:um (gt (eN X))
 len:(gt (eN X)).length<=X.blocks.length
 many:eu (gt (eN X))<=eu X.blocks
theorem E3{c:List aq}(h:lK a c)(ha:∀B∈a,∀x∈B.list,Q x):∀B∈c,∀x∈B.list,Q x:=
 h.inv (p:=λl=>∀B∈l,∀x∈B.list,Q x) (λl b t hj hl C hC x hx=>by
  obtain⟨y,hy⟩:=bR hC;have vK:y<l.length:=by rw[<-dj l b t];exact(aJ.1 hy).1
  rw[ld (ck vK)]at hy;obtain rfl:=bJ hy;unfold pG at hx
  split at hx
  ·cases hx
  split at hx
  ·rcases bO.1 hx with hx|hx
   ·exact hl _ (aA (ck vK)) x hx
   ·exact hl _ (aA (ck hj.Di)) x hx
  ·exact hl _ (aA (ck vK)) x hx) ha
theorem CE{l:List aq}(hk:F8 l o)(ha:∀B∈l,∀x∈B.list,Q x):∀B∈cG l o,∀x∈B.list,Q x:=λB hB x hx=>by
 unfold cG at hB;obtain⟨b,hb,rfl⟩:=aT.1 hB;exact ha _ (aA (ck (hk.lt b hb))) x hx
theorem D3(hc:jy u)(hX:u.funcs[k]?=O X):∃R,lj X R/\AE X R:=by
 obtain⟨R,h⟩:=xj hc hX;have hk:=i_ h.ok.iD h.pos;obtain⟨Gn,Bj⟩:=qK h.ok.iD h.pos;obtain⟨yB,zT⟩:=AM hc hX;have abH:rD R (eN X):=⟨jx h.ok hk,vt hk yB⟩;obtain⟨hj,hn⟩:=qW abH;refine⟨R,h,⟨h.bm,h.le,(hj.ok abH).ok,?_,h.par,?_⟩,hj.ok abH,hn,?_,?_,?_⟩
 ·show 0<(gt (eN X)).length
  rw[hj.len];unfold eN;rw[dX];exact Gn
 ·exact E3 hj (CE hk h.GB)
 ·exact(hj.inv (p:=λx=>ql x/\um x) (λa b t hj hp=>⟨LC hj hp.1,GH hj hp.1 hp.2⟩) ⟨LD h.ok.iD hk Bj zT,GI h.ok.iD h.pos⟩).2
 ·rw[hj.len]
  unfold eN;rw[dX];exact xE hk
 ·rw[hj.many]
  exact nG hk
theorem OF(h:AE X R):cQ (ju X).blocks=bj (ju X).blocks.length:=Ln h.mid
theorem HN(h:lj X R)(ht:AE X R):(ju X).blocks.length<=X.blocks.length/\eu (ju X).blocks<=eu X.blocks/\(ju X).bm<=X.bm:=by
 have hk:=i_ ht.mid.ok.iD ht.mid.pos;have h1:(ju X).blocks=(cG (gt (eN X)) (cQ (gt (eN X)))).map (py (l_ X.params.toNat (eN (px X (gt (eN X)))))):=rfl;refine⟨?_,?_,?_⟩
 ·rw[h1,aG,dX]
  have h2:=xE hk;have h3:=ht.len;have h4:(px X (gt (eN X))).blocks.length=(gt (eN X)).length:=rfl;have h5:(cQ (px X (gt (eN X))).blocks).length=(cQ (gt (eN X))).length:=rfl;omega
 ·rw[h1,Lg]
  exact dS (nG hk) ht.many
 ·have:=E9 ht.mid
  have h2:=h.bm;show((l_ X.params.toNat (eN (px X (gt (eN X))))).length:Int)<=X.bm;have h3:(px X (gt (eN X))).params=X.params:=rfl;rw[h3]at this;omega
end
theorem aK.Bd.of{b c:aK}(h:b.dD=c.dD)(hc:c.Bd):b.Bd:=by
 have h1:b.ps.map ch.iN=c.ps.map ch.iN:=bD aq.bg h;have h2:b.xs.map (·.x)=c.xs.map (·.x):=bD aq.list h;have h3:b.kind=c.kind:=bD aq.kind h;have h4:b.on=c.on:=bD aq.on h;have h5:b.to=c.to:=bD aq.to h;have l1:b.ps.length=c.ps.length:=by have:=bD List.length h1;rwa[aG,aG]at this
 have l2:b.xs.length=c.xs.length:=by have:=bD List.length h2;rwa[aG,aG]at this
 refine⟨by rw[h3];exact hc.kind,by rw[h4];exact hc.on,by rw[l1];exact hc.bg,λp hp=>?_,by rw[l2];exact hc.list,λy hy=>?_,by rw[h5];exact hc.to⟩
 ·have:ch.iN p∈c.ps.map ch.iN:=by rw[<-h1];exact aT.2 ⟨p,hp,rfl⟩
  obtain⟨p',wT,e⟩:=aT.1 this;have:=hc.iN p' wT;simp only[ch.iN,gD.mk.injEq]at e;rw[e.1,e.2]at this;exact this
 ·have:y.x∈c.xs.map (·.x):=by rw[<-h2];exact aT.2 ⟨y,hy,rfl⟩
  obtain⟨y',SL,e⟩:=aT.1 this;have:=hc.ins y' SL;rw[e]at this;exact this
structure S5(X:bZ)(R:Nat):Prop where
 bm:X.bm=R
 le:R<=10000
 ok:eW R X.blocks
 pos:0<X.blocks.length
 par:0<=X.params/\X.params<=R
 GB:∀B∈X.blocks,∀x∈B.list,∃fs,fA fs X.bm x=0
theorem lj.dC(h:lj X R):S5 X R:=⟨h.bm,by have:=h.le;omega,h.ok,h.pos,h.par,h.GB⟩
theorem Fp(X:bZ)(R:Nat)(hX:S5 X R)(hlen:X.blocks.length<=24)(bs:K)(w0:ae)(gV:aY w0 bs 6 X.blocks da)(oF:∀b:aK,b.dD∈X.blocks->b.Bd):
  iL Y 14 [aC #[aQ X.name,J Z X.params,J Z X.bm,bs]] w0 λu w'=>∃x:ax×Nat×List aK,u=aC #[aQ (fJ X).name,J Z (fJ X).params,J Z (fJ X).bm,I x.1 x.2.2.length x.2.1]/\Wd db w0 (eM x.1 x.2.1 x.2.2) w'/\(x.2.2.map aK.dD=(fJ X).blocks/\∀b∈x.2.2,b.Bd):=by
 classical
 obtain⟨xn,xp,xr,xb⟩:=X;have Sx:=hX.bm;have hR:=hX.le;have hf:=hX.ok;have dW:=hX.pos;have Ps:=hX.par;simp only at Sx hlen hf dW Ps gV oF;subst Sx;have hg:=hf.iD;have hk:=i_ hg dW;obtain⟨P,rfl⟩:∃P:Nat,xp=P:=⟨xp.toNat,A⟩;obtain⟨o,G9⟩:∃o,o=cQ xb:=⟨_,rfl⟩;have EJ:(ek xb).length=o.length:=by rw[G9];unfold cQ;rw[ny]
 have YY:=pg dW;rw[<-G9]at hk;obtain⟨kl,xy⟩:∃kl,kl=cG xb o:=⟨_,rfl⟩;have UP:eW R kl:=by rw[xy];exact jx hf hk
 have ahq:kl.length=o.length:=by rw[xy,dX]
 obtain⟨ba,n,bc,abK⟩:∃a n c,bs=I a n c:=by
  obtain⟨a,n,c,_,_,e,_⟩:=gV;exact⟨a,n,c,e⟩
 refine aR func14 rfl ntmps14 rfl (Wd.nil db w0) ?_;subst abK;have rq:=gV;simp only;have Vj:=hX.GB;simp only at Vj;have Pi:∀B∈kl,∀x∈B.list,∃fs,fA fs (R:Int) x=0:=λB hB x hx=>by
  rw[xy]at hB;unfold cG at hB;obtain⟨b,hb,rfl⟩:=aT.1 hB;exact Vj (bi xb b) (aA (ck (hk.lt b hb))) x hx
 have YZ:o.length<=100:=A
 repeat(first|refine bA ?_|refine dd λ_ _=>?_)
 rename_i p1 _ p2 _;have s_:∀(H:List cq) (w:ae),Wd db w0 H w->iL Y 36 [aC #[aQ xn,J Z (P:Int),J Z (R:Int),I ba n bc]] w λu w'=>∃x:ax×Nat,u=I x.1 o.length x.2/\Wd db w [G x.1 o.length x.2 3 1 (o.map dz)] w'/\True:=λH w hw=>by
  have:=Fq (aQ xn) (J Z (P:Int)) (J Z (R:Int)) xb (I ba n bc) ⟨_,_,_,rfl⟩ w (rq.cB cu hw.c_) A hg dW;rw[EJ]at this;rw[G9]at this|-
  exact this
 have lZ:∀(k:Nat) (a:ax) (c:Nat) (H:List cq) (w:ae),Wd db w0 H w->H[k]?=O (G a o.length c 3 1 (o.map dz))->iL Y 35 [aC #[aQ xn,J Z (P:Int),J Z (R:Int),I ba n bc],I a o.length c] w λu w'=>∃x:ax×Nat×List aK,u=aC #[aQ xn,J Z (P:Int),J Z (R:Int),I x.1 x.2.2.length x.2.1]/\Wd db w (eM x.1 x.2.1 x.2.2) w'/\(x.2.2.map aK.dD=kl/\∀b∈x.2.2,b.Bd):=λk a c H w hw Ct=>by
  rw[xy];exact IU xn P R xb (I ba n bc) R hf A o hk YZ a o.length c w (rq.cB cu hw.c_) oF (mF hw (k:=k) Ct rfl A λx hx=>by have:=hk.lt x hx;omega)
 refine dI [D p1 xn (P:Int) (R:Int) ba n bc] (λx:Nat×ax×Nat×List aK=>x.2.2.2.map aK.dD=kl/\∀b∈x.2.2.2,b.Bd) (λx=>[M 3 x.1,M 2 p2]) (λx=>D x.1 xn (P:Int) (R:Int) x.2.1 x.2.2.2.length x.2.2.1::aj p2::eM x.2.1 x.2.2.1 x.2.2.2) mixed (by repeat(first|exact dU _|refine List.Sublist.cons _ ?_|refine iR ?_ (eF _ _))) ?_ λx hx=>?_
 ·refine er 0 rfl E (by repeat(first|exact dU _|refine List.Sublist.cons _ ?_|refine iR ?_ (eF _ _))) ?_;refine er 1 rfl E (by repeat(first|exact dU _|refine List.Sublist.cons _ ?_|refine iR ?_ (eF _ _))) ?_;refine jL 2 4 E ?_ ?_
  ·(refine gZ 2 (val:=λx:ax×Nat=>.slice x.1 o.length x.2) (cZ:=λx=>[G x.1 o.length x.2 3 1 (o.map dz)]) (φ:=λ_=>True) rfl (by repeat(first|exact dU _|refine List.Sublist.cons _ ?_|refine iR ?_ (eF _ _))) (λw hw=>s_ _ w hw) λy _=>?_;obtain⟨oa,oc⟩:=y;simp only[bF,aS])
   refine jL 3 4 E ?_ ?_
   ·(refine gZ 3 (val:=λx:ax×Nat×List aK=>.agg #[aQ xn,J Z (P:Int),J Z (R:Int),I x.1 x.2.2.length x.2.1]) (cZ:=λx=>eM x.1 x.2.1 x.2.2) (φ:=λx=>x.2.2.map aK.dD=kl/\∀b∈x.2.2,b.Bd) rfl (by repeat(first|exact dU _|refine List.Sublist.cons _ ?_|refine iR ?_ (eF _ _))) (λw hw=>by first|exact lZ 0 _ _ _ w hw rfl|exact lZ 1 _ _ _ w hw rfl) λz hz=>?_;obtain⟨na,nc,ks⟩:=z;simp only at hz|-)
    refine cD 4 E ?_;refine pP 4 rfl (by repeat(first|exact dU _|refine List.Sublist.cons _ ?_|refine iR ?_ (eF _ _))) λp3 _=>?_;refine bG (H1:=aj p3::aj p2::G oa o.length oc 3 1 (o.map dz)::(eM na nc ks++[D p1 xn (P:Int) (R:Int) ba n bc])) fM ?_;refine dn 5 E (by repeat(first|exact dU _|refine List.Sublist.cons _ ?_|refine iR ?_ (eF _ _))) ?_;refine ef E ?_;exact dy (p3,na,nc,ks) hz V (dN (dN (.cons _ (fe _ _))))
   ·refine pP 4 rfl (by repeat(first|exact dU _|refine List.Sublist.cons _ ?_|refine iR ?_ (eF _ _))) λp3 _=>?_;refine cD 3 E ?_
    (refine gZ 3 (val:=λx:ax×Nat×List aK=>.agg #[aQ xn,J Z (P:Int),J Z (R:Int),I x.1 x.2.2.length x.2.1]) (cZ:=λx=>eM x.1 x.2.1 x.2.2) (φ:=λx=>x.2.2.map aK.dD=kl/\∀b∈x.2.2,b.Bd) rfl (by repeat(first|exact dU _|refine List.Sublist.cons _ ?_|refine iR ?_ (eF _ _))) (λw hw=>by first|exact lZ 0 _ _ _ w hw rfl|exact lZ 1 _ _ _ w hw rfl) λz hz=>?_;obtain⟨na,nc,ks⟩:=z;simp only at hz|-)
    refine bG (H1:=aj p3::aj p2::G oa o.length oc 3 1 (o.map dz)::(eM na nc ks++[D p1 xn (P:Int) (R:Int) ba n bc])) fM ?_;refine dn 5 E (by repeat(first|exact dU _|refine List.Sublist.cons _ ?_|refine iR ?_ (eF _ _))) ?_;refine ef E ?_;exact dy (p3,na,nc,ks) hz V (dN (dN (.cons _ (fe _ _))))
  ·refine pP 4 rfl (by repeat(first|exact dU _|refine List.Sublist.cons _ ?_|refine iR ?_ (eF _ _))) λp3 _=>?_;refine cD 2 E ?_
   (refine gZ 2 (val:=λx:ax×Nat=>.slice x.1 o.length x.2) (cZ:=λx=>[G x.1 o.length x.2 3 1 (o.map dz)]) (φ:=λ_=>True) rfl (by repeat(first|exact dU _|refine List.Sublist.cons _ ?_|refine iR ?_ (eF _ _))) (λw hw=>s_ _ w hw) λy _=>?_;obtain⟨oa,oc⟩:=y;simp only[bF,aS])
   refine cD 3 E ?_
   (refine gZ 3 (val:=λx:ax×Nat×List aK=>.agg #[aQ xn,J Z (P:Int),J Z (R:Int),I x.1 x.2.2.length x.2.1]) (cZ:=λx=>eM x.1 x.2.1 x.2.2) (φ:=λx=>x.2.2.map aK.dD=kl/\∀b∈x.2.2,b.Bd) rfl (by repeat(first|exact dU _|refine List.Sublist.cons _ ?_|refine iR ?_ (eF _ _))) (λw hw=>by first|exact lZ 0 _ _ _ w hw rfl|exact lZ 1 _ _ _ w hw rfl) λz hz=>?_;obtain⟨na,nc,ks⟩:=z;simp only at hz|-)
   refine bG (H1:=aj p3::aj p2::G oa o.length oc 3 1 (o.map dz)::(eM na nc ks++[D p1 xn (P:Int) (R:Int) ba n bc])) fM ?_;refine dn 5 E (by repeat(first|exact dU _|refine List.Sublist.cons _ ?_|refine iR ?_ (eF _ _))) ?_;refine ef E ?_;exact dy (p3,na,nc,ks) hz V (dN (dN (.cons _ (fe _ _))))
 obtain⟨p3,na,nc,ks⟩:=x;obtain⟨yQ,yB⟩:=hx;simp only at yQ yB|-
 obtain⟨m,hm⟩:∃m,m=ks.length:=⟨_,rfl⟩;have hmk:kl.length=m:=by rw[<-yQ,aG,hm]
 have yA:∀(X:List cq) (w:ae),Wd db w0 (X++eM na nc ks) w->aY w (I na m nc) 6 kl da:=λX w hw=>by
  have:=Wd.blocks (H:=[]) (ba:=na) (bc:=nc) (bs:=ks) (by rw[cj];exact hw.sub (eF _ _)) A yB;rw[yQ,<-hm]at this;exact this
 have Ix:∀B∈kl,∀x∈B.list,x.args.length<=1000:=λB hB x hx=>by
  rw[<-yQ]at hB;obtain⟨c,hc,rfl⟩:=aT.1 hB;obtain⟨y,hy,rfl⟩:=aT.1 hx;exact((yB c hc).ins y hy).2.1
 have agH:∀b:aK,b.dD∈kl->b.Bd:=λb hb=>by
  rw[<-yQ]at hb;obtain⟨c,hc,e⟩:=aT.1 hb;exact aK.Bd.of e.symm (yB c hc)
 obtain⟨L,hLD⟩:∃L,L=l_ P kl:=⟨_,rfl⟩;have aby:wN R L:=by
  rw[hLD];unfold l_ DG Ah;rw[fz []];have h0:meets [] (fV P)=fV P:=vA (qL P);rw[h0];refine(wN.par A).meets λr hr=>?_;rcases bO.1 hr with hr|hr
  ·obtain⟨B,hB,hr⟩:=dg.1 hr
   exact nH UP hB (.inl hr)
  ·obtain⟨B,hB,hr⟩:=dg.1 hr
   exact nH UP hB (.inr hr)
 have hLl:=aby.len;have pK:∀B∈kl,(∀r,r∈mZ B\/r∈pS B->r∈L)/\∀x∈B.list,∀v:cI,v=x.a\/v=x.b\/v∈x.args->∀r∈eR v,r∈L:=λB hB=>by
  have h1:∀r,r∈mZ B\/r∈pS B->r∈L:=λr hr=>by
   rw[hLD];exact E5.2 (.inr (hr.elim (λh=>.inl ⟨B,hB,h⟩) λh=>.inr ⟨B,hB,h⟩))
  refine⟨h1,λx hx v hv r hr=>h1 r (.inl ?_)⟩;obtain⟨b,hb⟩:=bR hB;obtain⟨fs,Xx⟩:=Pi B hB x hx;refine en _ (cM _ (dg.2 ⟨x,hx,?_⟩));rw[Jf Xx ((UP.block b B hb).list x hx)];rcases hv with rfl|rfl|hv
  ·exact cM _ hr
  ·exact en _ (cM _ hr)
  ·exact en _ (en _ (cM _ (dg.2 ⟨v,hv,hr⟩)))
 rw[<-hm];refine bA ?_;refine cN (val:=λx:ax×Nat=>.slice x.1 L.length x.2) (cZ:=λx=>[wQ x.1 x.2 L]) (φ:=λ_=>True) rfl (λw hw=>by
  rw[hLD];exact ac0 xn P R R kl na m nc A A UP Ix w (yA [D p3 xn (P:Int) (R:Int) na m nc,aj p2] w hw) A) λx _=>?_
 obtain⟨la,lc⟩:=x;simp only[bF,aS];refine bA ?_;refine cN (val:=λx:ax×Nat×List aK=>.agg #[aQ xn,J Z (P:Int),J Z (R:Int),I x.1 x.2.2.length x.2.1]) (cZ:=λx=>eM x.1 x.2.1 x.2.2) (φ:=λx=>x.2.2.map aK.dD=kl.map (py L)/\∀b∈x.2.2,b.Bd) rfl (λw hw=>Ou xn P R kl (I na m nc) R A L la L.length lc aby pK w (yA [wQ la lc L,D p3 xn (P:Int) (R:Int) na m nc,aj p2] w hw) A agH (hw.nf (k:=0) rfl rfl A λi x hx=>⟨[J Z x],λj v hj=>by match j,hj with|0,hj=>simpa[hx]using hj,rfl,aby.ins A x (aA hx)⟩)) λx hx=>?_;obtain⟨ga,gc,gs⟩:=x;obtain⟨Pg,Mr⟩:=hx;simp only at Pg Mr|-
 refine bG (H1:=D p3 xn (P:Int) (R:Int) na m nc::aj p2::(eM ga gc gs++wQ la lc L::eM na nc ks)) fM ?_;refine aV ?_;have hkF:eN ⟨xn,(P:Int),(R:Int),xb⟩=kl:=by rw[xy,G9];rfl
 have hnF:fJ ⟨xn,(P:Int),(R:Int),xb⟩=⟨xn,(P:Int),(L.length:Int),kl.map (py L)⟩:=by
  unfold fJ;rw[hkF,hLD];simp only[fR]
 rw[hnF];refine fD rfl λw hw=>⟨(ga,gc,gs),rfl,hw.sub ?_,Pg,Mr⟩;exact .cons _ (.cons _ (fe _ _))
end
end Go.Proofs.YthfhgolkafpmnaaGreatDoor
