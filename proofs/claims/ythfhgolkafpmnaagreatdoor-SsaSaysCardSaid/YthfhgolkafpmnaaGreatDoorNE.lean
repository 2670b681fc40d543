/- Lemmas. -/
import Derived.Test.YthfhgolkafpmnaaGreatDoorMF
namespace Go.Proofs.YthfhgolkafpmnaaGreatDoor
open Go.Value renaming int->J,slice->I,string->aQ,bool->ag,agg->aC
open Go.IntKind renaming i64->Z
open Option renaming some->O,none->U
open Go renaming Value->K,World->ae
open List renaming replicate->aI,range->bj
open Go.Proofs.Tryz
open Go.Proofs.Tryz renaming prog->Y
open Go Go.RowKit
variable {bl:List aq} {b n:Nat}
section
set_option maxHeartbeats 8000000
attribute [local irreducible] wpListIn Code.wpIn Exit.then Exit.inBlock bodyPost wpQuiet wpAnyIn wpAnyH bodyPostM
theorem Xl(B:aq)(r:Nat)(pv lv tv:K)(w0:ae)(hp:aY w0 pv 2 B.bg B_)(hl:aY w0 lv 8 B.list Dm)(Zc:∃a n c,tv=I a n c):
  gF Y 82 [aC #[pv,lv,J Z B.kind,ag B.on.dq,J Z B.on.n,tv],J Z r] w0 (ag (rN B (r:Int))):=by
 have Ms:=hp;obtain⟨pa,pn,pc,_,_,rfl,As,_⟩:=id hp;obtain⟨la,ln,lc,lb,lo,rfl,Jy,acf,QW,hlc,IJ,xz⟩:=id hl;obtain⟨ta,tn,tc,rfl⟩:=Zc;refine aR func82 rfl ntmps82 rfl (Wd.nil db w0) ?_
 repeat(first|refine cT ?_|refine dd λ_ _=>?_)
 rename_i p2 _;refine bH (λ(i:Nat)=>i<=ln/\∀(j:Nat) x,j<i->B.list[j]?=O x->x.dst≠(r:Int)) (λi=>[(5,J Z i),(1,J Z r),M 2 p2]) (λ_=>[au p2 pa pn pc la ln lc B.kind B.on ta tn tc]) (λi=>ln-i) 0 ⟨aN _,by simp⟩ (aP V aF) λi ⟨hi,cX⟩=>?_
 repeat(first|refine cT ?_|refine dd λ_ _=>?_)
 apply aL<;>intro h1
 ·have ce:i<ln:=aD h1
  obtain⟨x,hx⟩:=bE B.list i A;have mJ:cl la lb lo:=⟨IJ (aZ hx)⟩;have kK:cg i ln:=⟨ce⟩;obtain⟨_,KD,av,rfl,_⟩:=xz i x hx;have nO:bu w0 lb (lo+i*8) _:=⟨KD⟩
  repeat(first|refine cT ?_|refine dd λ_ _=>?_)
  by_cases hd:x.dst=r
  ·rw[fQ hd]
   repeat(first|refine cT ?_|refine dd λ_ _=>?_)
   refine cv rfl ?_;rw[show rN B (r:Int)=true by
    unfold rN;rw[rj];exact .inl (rG.2 ⟨x,aA hx,fQ hd⟩)]
  ·rw[gx hd]
   repeat(first|refine cT ?_|refine dd λ_ _=>?_)
   refine a_ (i+1) ⟨ce,λj y hj hy=>?_⟩ A V aF
   by_cases e:j=i
   ·subst e
    rw[hx]at hy;obtain rfl:=bJ hy;exact hd
   ·exact cX j y A hy
 ·have fX:i=ln:=by have:=cE h1;omega
  repeat(first|refine cT ?_|refine dd λ_ _=>?_)
  refine bY rfl (λw hw=>xZ _ _ _ B ⟨_,_,_,rfl⟩ ⟨_,_,_,rfl⟩ ⟨_,_,_,rfl⟩ r w (Ms.cB nF hw.c_)) ?_
  repeat(first|refine cT ?_|refine dd λ_ _=>?_)
  refine cv rfl ?_;rw[show rN B (r:Int)=B.bg.any λp=>decide (p.dst=r) by
   unfold rN kY;rw[show(B.list.any λx=>decide (x.dst=r))=false by
    rw[List.any_eq_false];intro x hx;obtain⟨j,hj⟩:=bR hx;simpa using cX j x (by have:=(aJ.1 hj).1;omega) hj,Bool.false_or]]
end
section
def sm(B:aq):Nat:=B.bg.length+B.list.length
def eV(bl:List aq)(n b:Nat):Nat:=n+((bl.take b).map sm).sum
def Cb(bl:List aq)(n:Nat):List Nat:=(bj (bl.length+1)).map (eV bl n)
theorem yk{B:aq}(h:bl[b]?=O B):eV bl n (b+1)=eV bl n b+B.bg.length+B.list.length:=by
 unfold eV;rw[bV,h,jk,bz,List.sum_append];simp[sm];omega
theorem D_(h:b<=bl.length):(Cb bl n)[b]?=O (eV bl n b):=by
 unfold Cb;rw[aW,gq A]
 rfl
theorem yj{m:Nat}(h:∀B∈bl,sm B<=m):∀b,eV bl n b<=n+b*m
 |0=>by simp[eV]
 |b+1=>by
  have ih:=yj h b;have h2:(b+1)*m=b*m+m:=Nat.succ_mul b m;cases hB:bl[b]? with
  |none=>
   have h1:bl.take (b+1)=bl.take b:=by rw[bV,hB];simp
   unfold eV at ih|-
   rw[h1];omega
  |some B=>
   have h1:=yk (n:=n) hB;have h3:=h B (aA hB);unfold sm at h3;omega
theorem Dk:∀(n b:Nat),b<n->(bj n).takeWhile (λc=>decide (c≠b))=bj b
 |0,b,h=>A
 |n+1,b,h=>by
  rw[iV]
  by_cases e:b=n
  ·subst e
   rw[List.takeWhile_append_of_pos]
   ·simp
   ·intro x hx
    have:=cW.1 hx;simp;omega
  ·have ih:=Dk n b A
   have hl:((bj n).takeWhile (λc=>decide (c≠b))).length≠(bj n).length:=by
    rw[ih];simp;omega
   rw[List.takeWhile_append,ai hl,ih]
theorem vz{k:Nat}(h:b<bl.length):Ae bl n b k=((eV bl n b+k:Nat):Int):=by
 unfold Ae num wM eV;rw[Dk _ _ h];have h1:(bj b).map (λb=>(bi bl b).bg.length+(bi bl b).list.length)=(bl.take b).map sm:=by
  apply cY;intro i;rw[aW,aW]
  by_cases hi:i<b
  ·rw[gq hi,yf hi]
   obtain⟨B,hB⟩:=bE bl i A;rw[hB];simp only[b_,gK hB]
   rfl
  ·rw[cm dr,cm dr]
   rfl
 rw[h1]
attribute [local irreducible] wpListIn Code.wpIn Exit.then Exit.inBlock bodyPost wpQuiet wpAnyIn wpAnyH bodyPostM
set_option maxHeartbeats 4000000
theorem TC(nm re:K)(n:Nat)(hn:n<=1000)(bl:List aq)(bs:K)(qf:∃a n c,bs=I a n c)(w0:ae)(gV:aY w0 bs 6 bl da)(hlen:bl.length<=100)(mK:∀B∈bl,sm B<=1000):
  iL Y 40 [aC #[nm,J Z n,re,bs]] w0 λu w'=>∃x:ax×Nat,u=I x.1 (bl.length+1) x.2/\Wd db w0 [G x.1 (bl.length+1) x.2 3 1 ((Cb bl n).map dz)] w'/\True:=by
 obtain⟨ba,m,bc,bb,bo,rfl,hm,Xy,Pm,yy,qd,iw⟩:=gV;have hle:=yj (n:=n) mK;refine aR func40 rfl ntmps40 rfl (Wd.nil db w0) ?_
 repeat(first|refine cT ?_|refine dd λ_ _=>?_)
 rename_i p1 _;refine dJ 3 1 ?_;refine bH (λ(x:Nat×ax×Nat)=>x.1<=m) (λx=>[(5,J Z x.1),(4,I x.2.1 x.1 x.2.2),(3,dz (eV bl n x.1)),M 1 p1]) (λx=>[G x.2.1 x.1 x.2.2 3 1 (((bj x.1).map (eV bl n)).map dz),mO p1 nm n re ba m bc]) (λx=>m-x.1) (0,U,0) (aN _) (aP V aF) λx hi=>?_;obtain⟨i,a,c⟩:=x;simp only at hi|-
 unfold dz
 repeat(first|refine cT ?_|refine dd λ_ _=>?_)
 apply aL<;>intro h1
 ·have ce:i<m:=aD h1
  obtain⟨B,hB⟩:=eI hm ce;have mJ:cl ba bb bo:=⟨qd (aZ hB)⟩;have kK:cg i m:=⟨ce⟩;obtain⟨cs,gW,pv,lv,tv,rfl,_,_,wP,EG,ht⟩:=iw i B hB;obtain⟨pa,pn,pc,_,_,rfl,As,_⟩:=wP;obtain⟨la,ln,lc,_,_,rfl,Jy,_⟩:=EG;have nO:bu w0 bb (bo+i*6) _:=⟨gW⟩;have h2:=hle i;have h3:=mK B (aA hB);unfold sm at h3;have h4:=yk (n:=n) hB
  repeat(first|refine cT ?_|refine dd λ_ _=>?_)
  refine fB rfl rfl A A λa' c'=>?_
  repeat(first|refine cT ?_|refine dd λ_ _=>?_)
  refine kX mixed bC ?_;refine kJ ?_;rw[show((eV bl n i:Int)+(pn:Int)+(ln:Int))=((eV bl n (i+1):Nat):Int) by rw[h4];omega]
  repeat(first|refine cT ?_|refine dd λ_ _=>?_)
  refine a_ (i+1,a',c') ce bB V ?_;rw[show((bj (i+1)).map (eV bl n)).map (λx:Nat=>J Z (x:Int))=((bj i).map (eV bl n)).map (λx:Nat=>J Z (x:Int))++[J Z ((eV bl n i:Nat):Int)] by rw[iV];simp];exact .cons _ (.refl _)
 ·have fX:i=m:=by have:=cE h1;omega
  subst fX;have h2:=hle i
  repeat(first|refine cT ?_|refine dd λ_ _=>?_)
  refine fB rfl rfl A A λa' c'=>?_
  repeat(first|refine cT ?_|refine dd λ_ _=>?_)
  refine dh rfl λw hw=>⟨(a',c'),by rw[<-hm],?_,trivial⟩;have e:(Cb bl n).map (λx:Nat=>J Z (x:Int))=((bj i).map (eV bl n)).map (λx:Nat=>J Z (x:Int))++[J Z ((eV bl n i:Nat):Int)]:=by
   unfold Cb;rw[<-hm,iV];simp[]
  rw[e,<-hm];exact hw.sub (.cons _ (dN qy))
end
section
set_option maxHeartbeats 8000000
attribute [local irreducible] wpListIn Code.wpIn Exit.then Exit.inBlock bodyPost wpQuiet wpAnyIn wpAnyH bodyPostM md
def Xf(v:cI):K:=.agg #[ag v.dq,J Z v.n]
theorem MO(iE re:K)(n:Nat)(hn:n<=1000)(bl:List aq)(bs:K)(ga ua:ax)(gc uc:Nat)(dV:dK bl)(dW:0<bl.length)(hlen:bl.length<=100)(mK:∀B∈bl,sm B<=1000)(b0 i0 r:Nat)(wH:jg bl (-1) 0 b0)(hi0:i0<=100000)(hr:r<=1000)(w0:ae)(gV:aY w0 bs 6 bl da)
  (hg:aY w0 (I ga (bl.length+1) gc) 1 ((Cb bl n).map λx:Nat=>(x:Int)) gI) (hu:aY w0 (I ua bl.length uc) 1 ((bj bl.length).map (ed bl)) gI):
  gF Y 85 [aC #[iE,J Z n,re,bs],I ga (bl.length+1) gc,I ua bl.length uc,J Z r,aC #[J Z b0,J Z i0]] w0 (Xf (nm (Ae bl n) bl n b0 i0 (r:Int))):=by
 classical
 obtain⟨ba,m,bc,bb,bo,rfl,hm,Xy,Pm,yy,qd,iw⟩:=gV;refine aR func85 rfl ntmps85 rfl (Wd.nil db w0) ?_
 repeat(first|refine cT ?_|refine dd λ_ _=>?_)
 rename_i p5 _ p9 _ zB _;let Ta:=[M 9 p9,M 10 zB,(1,I ga (bl.length+1) gc),(2,I ua bl.length uc),(3,J Z r)];let Tb:=[mO p5 iE n re ba m bc];refine bH (λ(x:Nat×Nat)=>jg bl (-1) 0 x.1/\x.2<=100000/\nm (Ae bl n) bl n b0 i0 (r:Int)=nm (Ae bl n) bl n x.1 x.2 (r:Int)) (λ_=>M 5 p5::Ta) (λx=>eK zB false 0::(λx:Nat×Nat=>aM p9 [J Z x.1,J Z x.2] 52) x::Tb) (λx=>Ml bl x.1) (b0,i0) ⟨wH,hi0,rfl⟩ (aP V aF) λx ⟨DU,hi,vJ⟩=>?_<;>(try unfold Tb)<;>(try unfold Ta);obtain⟨b,i⟩:=x;simp only at DU hi vJ|-
 have jX:b<bl.length:=dV.BG dW DU;obtain⟨B,hB⟩:=bE bl b jX;have mJ:cl ba bb bo:=⟨qd (aZ hB)⟩;have SD:cg b m:=⟨A⟩;obtain⟨cs,gW,pv,lv,tv,rfl,Jw,Dv,wP,kK,ht⟩:=iw b B hB;obtain⟨pa,pn,pc,pb,po,rfl,As,acw,NC,hpc,hpa,U2⟩:=wP;obtain⟨la,ln,lc,lb,lo,rfl,Jy,acf,QW,hlc,IJ,xz⟩:=kK;obtain⟨ta,tn,tc,_,_,rfl,_⟩:=ht;have nO:bu w0 bb (bo+b*6) _:=⟨gW⟩;have acL:=mK B (aA hB);unfold sm at acL;have agJ:=yj (n:=n) mK b;have Pg:(Cb bl n)[b]?=O (eV bl n b):=D_ A;obtain⟨_,_,_,gb',go',e1,_,_,_,_,YP,UF⟩:=id hg;simp only[Value.slice.injEq]at e1;obtain⟨rfl,rfl,rfl⟩:=e1;have aju:cl ga gb' go':=⟨YP (by intro e;have:=bD List.length e;simp[Cb]at this)⟩;have hlg:cg b (bl.length+1):=⟨A⟩;obtain⟨_,hcg,rfl,_⟩:=UF b (eV bl n b:Nat) (by rw[aW,Pg];rfl);have ajN:bu w0 gb' (go'+b*1) _:=⟨hcg⟩
 repeat(first|refine cT ?_|refine dd λ_ _=>?_)
 rename_i p11 _;refine bH (λ(j:Nat)=>j<=i/\oV B (r:Int) i=oV B (r:Int) j) (λj=>(12,J Z ((j:Int)-1))::M 11 p11::M 5 p5::Ta) (λ_=>au p11 pa pn pc la ln lc B.kind B.on ta tn tc::eK zB false 0::(λx:Nat×Nat=>aM p9 [J Z x.1,J Z x.2] 52) (b,i)::Tb) (λj=>j) i ⟨cz _,rfl⟩ (aP V aF) λj ⟨hj,hd⟩=>?_<;>(try unfold Tb)<;>try unfold Ta
 repeat(first|refine cT ?_|refine dd λ_ _=>?_)
 apply aL<;>intro h1
 ·have h1:=iG h1
  obtain⟨j',rfl⟩:∃j',j=j'+1:=⟨j-1,A⟩;rw[show(((j'+1:Nat):Int)-1)=(j':Int) by omega]
  repeat(first|refine cT ?_|refine dd λ_ _=>?_)
  by_cases iS:j'<ln
  ·rw[fQ (show(j':Int)<(ln:Int) by omega)]
   obtain⟨x,hx⟩:=bE B.list j' A;have agy:cl la lb lo:=⟨IJ (aZ hx)⟩;have Du:cg j' ln:=⟨iS⟩;obtain⟨_,KD,av,rfl,_⟩:=xz j' x hx;have ajR:bu w0 lb (lo+j'*8) _:=⟨KD⟩
   repeat(first|refine cT ?_|refine dd λ_ _=>?_)
   by_cases BZ:x.dst=(r:Int)
   ·rw[fQ BZ]
    have aeg:Az ((eV bl n b:Nat):Int) (pn:Int):=⟨A,A⟩;have agC:Az (((eV bl n b:Nat):Int)+(pn:Int)) (j':Int):=⟨A,A⟩
    repeat(first|refine cT ?_|refine dd λ_ _=>?_)
    refine dI (au p11 pa pn pc la ln lc B.kind B.on ta tn tc::aM p9 [J Z b,J Z i] 52::Tb) (λ_:Unit=>True) (λ_=>[M 10 zB]) (λ_=>[eK zB true (((eV bl n b:Nat):Int)+(pn:Int)+(j':Int))]) mixed aB ?_ λ_ _=>?_
    ·(first|refine W 0 ?_|refine az 0 ?_|refine ap 0 ?_)
     (first|refine W 1 ?_|refine az 1 ?_|refine ap 1 ?_)
     (first|refine W 2 ?_|refine az 2 ?_|refine ap 2 ?_)
     (first|refine W 3 ?_|refine az 3 ?_|refine ap 3 ?_)
     (first|refine W 4 ?_|refine az 4 ?_|refine ap 4 ?_)
     (first|refine W 5 ?_|refine az 5 ?_|refine ap 5 ?_)
     (first|refine W 6 ?_|refine az 6 ?_|refine ap 6 ?_)
     (first|refine W 7 ?_|refine az 7 ?_|refine ap 7 ?_)
     (first|refine W 8 ?_|refine az 8 ?_|refine ap 8 ?_)
     (first|refine W 9 ?_|refine az 9 ?_|refine ap 9 ?_)
     (first|refine W 10 ?_|refine az 10 ?_|refine ap 10 ?_)
     (first|refine W 11 ?_|refine az 11 ?_|refine ap 11 ?_)<;>try unfold Tb
     refine dn 12 E aB ?_;refine ef E ?_;exact dy () trivial V aB
    ·repeat(first|refine cT ?_|refine dd λ_ _=>?_)
     have U7:nm (Ae bl n) bl n b0 i0 (r:Int)=⟨true,((eV bl n b:Nat):Int)+(pn:Int)+(j':Int)⟩:=by
      rw[vJ,PK dV dW DU,gK hB,hd];have e1:oV B (r:Int) (j'+1)=O (B.bg.length+j'):=by
       unfold oV;rw[al (by rw[hx,<-BZ];rfl)]
      rw[e1];simp only;rw[vz jX];simp only[cI.mk.injEq,true_and];omega
     rw[U7];exact fD rfl λ_ hw=>⟨rfl,hw.c_⟩
   ·rw[gx BZ]
    repeat(first|refine cT ?_|refine dd λ_ _=>?_)
    refine a_ j' ⟨A,?_⟩ A V aF;rw[hd]
    conv=>lhs;unfold oV
    rw[ai (by rw[hx];simpa using BZ)]
  ·rw[gx (show¬(j':Int)<(ln:Int) by omega)]
   repeat(first|refine cT ?_|refine dd λ_ _=>?_)
   refine a_ j' ⟨A,?_⟩ A V aF;rw[hd]
   conv=>lhs;unfold oV
   rw[ai (by rw[cm A];simp)]
 ·have h1:=cE h1
  obtain rfl:j=0:=A
  repeat(first|refine cT ?_|refine dd λ_ _=>?_)
  refine bH (λ(k:Nat)=>k<=pn/\BA B.bg (r:Int) pn=BA B.bg (r:Int) k) (λk=>(13,J Z ((k:Int)-1))::M 11 p11::M 5 p5::Ta) (λ_=>au p11 pa pn pc la ln lc B.kind B.on ta tn tc::eK zB false 0::(λx:Nat×Nat=>aM p9 [J Z x.1,J Z x.2] 52) (b,i)::Tb) (λk=>k) pn ⟨cz _,rfl⟩ (aP V aF) λk ⟨hk,Uy⟩=>?_<;>(try unfold Tb)<;>try unfold Ta
  repeat(first|refine cT ?_|refine dd λ_ _=>?_)
  apply aL<;>intro h2
  ·have h2:=iG h2
   obtain⟨k',rfl⟩:∃k',k=k'+1:=⟨k-1,A⟩;rw[show(((k'+1:Nat):Int)-1)=(k':Int) by omega];obtain⟨q,hq⟩:=bE B.bg k' A;have ajx:cl pa pb po:=⟨hpa (aZ hq)⟩;have hlp:cg k' pn:=⟨A⟩;obtain⟨_,hcq,av,rfl,_⟩:=U2 k' q hq;have agS:bu w0 pb (po+k'*2) _:=⟨hcq⟩
   repeat(first|refine cT ?_|refine dd λ_ _=>?_)
   by_cases BZ:q.dst=(r:Int)
   ·rw[fQ BZ]
    have aeg:Az ((eV bl n b:Nat):Int) (k':Int):=⟨A,A⟩
    repeat(first|refine cT ?_|refine dd λ_ _=>?_)
    have U7:nm (Ae bl n) bl n b0 i0 (r:Int)=⟨true,((eV bl n b:Nat):Int)+(k':Int)⟩:=by
     rw[vJ,PK dV dW DU,gK hB,hd];have e1:oV B (r:Int) 0=O k':=by
      show BA B.bg (r:Int) B.bg.length=O k';rw[<-As,Uy];unfold BA;rw[al (by rw[hq,<-BZ];rfl)]
     rw[e1];simp only;rw[vz jX];simp only[cI.mk.injEq,true_and];omega
    rw[U7];exact fD rfl λ_ hw=>⟨rfl,hw.c_⟩
   ·rw[gx BZ]
    repeat(first|refine cT ?_|refine dd λ_ _=>?_)
    refine a_ k' ⟨A,?_⟩ A V aF;rw[Uy]
    conv=>lhs;unfold BA
    rw[ai (by rw[hq];simpa using BZ)]
  ·have h2:=cE h2
   obtain rfl:k=0:=A;have oL:oV B (r:Int) i=U:=by
    rw[hd];show BA B.bg (r:Int) B.bg.length=U;rw[<-As,Uy]
    rfl
   have Gg:=vJ;rw[PK dV dW DU,gK hB,oL]at Gg;simp only at Gg;obtain⟨_,_,_,ub',uo',e1,_,_,_,_,hua,aiB⟩:=id hu;simp only[Value.slice.injEq]at e1;obtain⟨rfl,rfl,rfl⟩:=e1;have ajz:cl ua ub' uo':=⟨hua (by intro e;have:=bD List.length e;rw[aG,d_,pE]at this;omega)⟩;have hlu:cg b bl.length:=⟨jX⟩;have ai6:bl.length=m:=hm.symm;obtain⟨_,hcu,rfl,akL⟩:=aiB b (ed bl b) (by rw[aW,gq jX];rfl);have agT:bu w0 ub' (uo'+b*1) _:=⟨hcu⟩
   repeat(first|refine cT ?_|refine dd λ_ _=>?_)
   by_cases IL:ed bl b<0
   ·rw[fQ IL]
    rw[al IL]at Gg;have Xz:((n:Nat):Int)=(n:Int):=rfl
    repeat(first|refine cT ?_|refine dd λ_ _=>?_)
    by_cases Av:(r:Int)<(n:Int)
    ·rw[fQ Av]
     rw[al Av]at Gg
     repeat(first|refine cT ?_|refine dd λ_ _=>?_)
     rw[Gg];exact fD rfl λ_ hw=>⟨rfl,hw.c_⟩
    ·rw[gx Av]
     rw[ai Av]at Gg
     repeat(first|refine cT ?_|refine dd λ_ _=>?_)
     rw[Gg];exact fD rfl λ_ hw=>⟨rfl,hw.c_⟩
   ·rw[gx IL]
    rw[ai IL]at Gg;obtain⟨UM,hdp⟩:=TK dV dW DU IL;obtain⟨d,SI⟩:∃d:Nat,ed bl b=(d:Int):=⟨(ed bl b).toNat,A⟩;rw[SI,fR]at UM hdp Gg;have YK:d<bl.length:=dV.BG dW UM.BG;obtain⟨eE,hD⟩:=bE bl d YK;have hld:cg d m:=⟨A⟩;obtain⟨Jq,nP,pv2,lv2,tv2,rfl,_,_,_,EG,_⟩:=iw d eE hD;obtain⟨la2,ln2,lc2,_,_,rfl,ahE,_⟩:=EG;have uv:bu w0 bb (bo+d*6) _:=⟨nP⟩;rw[SI]at agT;rw[SI];have acM:=mK eE (aA hD);unfold sm at acM
    repeat(first|refine cT ?_|refine dd λ_ _=>?_)
    refine dI (au p11 pa pn pc la ln lc B.kind B.on ta tn tc::eK zB false 0::Tb) (λ_:Unit=>True) (λ_=>M 5 p5::Ta) (λ_=>eK zB false 0::(λx:Nat×Nat=>aM p9 [J Z x.1,J Z x.2] 52) (d,ln2)::Tb) mixed aB ?_ λ_ _=>?_
    ·(first|refine W 0 ?_|refine az 0 ?_|refine ap 0 ?_)
     (first|refine W 1 ?_|refine az 1 ?_|refine ap 1 ?_)
     (first|refine W 5 ?_|refine az 5 ?_|refine ap 5 ?_)
     (first|refine W 6 ?_|refine az 6 ?_|refine ap 6 ?_)
     (first|refine W 7 ?_|refine az 7 ?_|refine ap 7 ?_)
     (first|refine W 8 ?_|refine az 8 ?_|refine ap 8 ?_)<;>(try unfold Tb)<;>try unfold Ta
     refine jL 2 9 E ?_ ?_
     ·(refine gM 2 rfl aB ?_;refine W 3 ?_;refine W 4 ?_)
      refine cD 9 E ?_
      (refine gM 9 rfl aB ?_;refine W 10 ?_;refine W 11 ?_;refine W 12 ?_;refine W 13 ?_;refine W 14 ?_;refine W 15 ?_)
      refine W 16 ?_;refine dn 17 E aB ?_;refine ef E ?_;exact dy () trivial V aB
     ·(refine gM 9 rfl aB ?_;refine W 10 ?_;refine W 11 ?_;refine W 12 ?_;refine W 13 ?_;refine W 14 ?_;refine W 15 ?_)
      refine cD 2 E ?_
      (refine gM 2 rfl aB ?_;refine W 3 ?_;refine W 4 ?_)
      refine W 16 ?_;refine dn 17 E aB ?_;refine ef E ?_;exact dy () trivial V aB
    ·repeat(first|refine cT ?_|refine dd λ_ _=>?_)
     refine a_ (d,ln2) ⟨UM.BG,A,?_⟩ bB V aF;simp only;rw[Gg,gK hD,<-ahE]
theorem Qv(iE re:K)(n:Nat)(hn:n<=1000)(bl:List aq)(bs:K)(ga ua:ax)(gc uc:Nat)(dV:dK bl)(dW:0<bl.length)(hlen:bl.length<=100)(mK:∀B∈bl,sm B<=1000)(b0 i0:Nat)(wH:jg bl (-1) 0 b0)(hi0:i0<=100000)(v:cI)(hv:v.dq=true->0<=v.n/\v.n<=1000)(w0:ae)(gV:aY w0 bs 6 bl da)
  (hg:aY w0 (I ga (bl.length+1) gc) 1 ((Cb bl n).map λx:Nat=>(x:Int)) gI) (hu:aY w0 (I ua bl.length uc) 1 ((bj bl.length).map (ed bl)) gI):
  gF Y 42 [aC #[iE,J Z n,re,bs],I ga (bl.length+1) gc,I ua bl.length uc,Xf v,aC #[J Z b0,J Z i0]] w0 (Xf (kt (Ae bl n) bl n b0 i0 v)):=by
 obtain⟨ba,m,bc,bb,bo,rfl,hm,Xy,Pm,yy,qd,iw⟩:=id gV;obtain⟨dq,k⟩:=v;unfold Xf;refine aR func42 rfl ntmps42 rfl (Wd.nil db w0) ?_;cases dq with
 |false=>
  repeat(first|refine cT ?_|refine dd λ_ _=>?_)
  exact fD rfl λ_ hw=>⟨rfl,hw.c_⟩
 |true=>
  obtain⟨h1,h2⟩:=hv rfl;simp only at h1 h2;obtain⟨r,rfl⟩:∃r:Nat,k=r:=⟨k.toNat,A⟩
  repeat(first|refine cT ?_|refine dd λ_ _=>?_)
  refine bY rfl (λw hw=>MO iE re n hn bl _ ga ua gc uc dV dW hlen mK b0 i0 r wH hi0 A w (gV.cB cu hw.c_) (hg.cB du hw.c_) (hu.cB du hw.c_)) ?_;unfold Xf
  repeat(first|refine cT ?_|refine dd λ_ _=>?_)
  exact fD rfl λ_ hw=>⟨rfl,hw.c_⟩
theorem RG(iE:ByteArray)(par:Int)(bl:List aq)(bs:K)(R:Nat)(hR:R<=100)(hf:eW R bl)(dW:0<bl.length)(hlen:bl.length<=100)(oY:eu bl<=800)(sZ:∀B∈bl,∀x∈B.list,x.args.length<=1000)(lu:∀B∈bl,B.list.length<=1000)(w0:ae)(gV:aY w0 bs 6 bl da)(oF:∀(w:ae) (b:aK),b.dD∈bl->qk w b->b.Bd):
  iL Y 39 [aC #[aQ iE,J Z par,J Z (R:Int),bs]] w0 λu w'=>∃x:ax×Nat×List aK,u=aC #[aQ iE,J Z par,J Z (R:Int),I x.1 x.2.2.length x.2.1]/\Wd db w0 (eM x.1 x.2.1 x.2.2) w'/\(x.2.2.map aK.dD=jt bl R/\∀b∈x.2.2,b.Bd):=by
 classical
 have rq:=gV;have hg:=hf.iD;obtain⟨ba,n,bc,bb,bo,rfl,hn,qg,A_,yy,qd,iw⟩:=gV;refine aR func39 rfl ntmps39 rfl (Wd.nil db w0) ?_
 repeat(first|refine cT ?_|refine dd λ_ _=>?_)
 rename_i p1 _ p2 _;refine cN (val:=λx:ax×Nat×List aK=>.agg #[aQ iE,J Z par,J Z (R:Int),I x.1 x.2.2.length x.2.1]) (cZ:=λx=>eM x.1 x.2.1 x.2.2) (φ:=λx=>x.2.2.map aK.dD=bl/\∀b∈x.2.2,b.Bd) rfl (λw hw=>AP iE par R bl _ w (rq.cB cu hw.c_) A λb h1 h2=>?_) λx hx=>?_
 ·exact oF _ b h1 h2
 obtain⟨a,c,gs⟩:=x;obtain⟨EE,Mr⟩:=hx;simp only at EE Mr|-
 have UH:gs.length=n:=by have:=bD List.length EE;rw[aG]at this;omega
 repeat(first|refine cT ?_|refine dd λ_ _=>?_)
 rename_i p3 _;rw[UH];refine bG (H1:=D p3 iE par (R:Int) a n c::aj p2::D p1 iE par (R:Int) ba n bc::eM a c gs) fM ?_;refine bH (λx:Nat×List aK=>x.1<=R/\x.2.map aK.dD=jt bl x.1/\∀b∈x.2,b.Bd) (λx=>[(4,J Z x.1),M 3 p3,M 2 p2,M 1 p1]) (λx=>D p3 iE par (R:Int) a n c::aj p2::D p1 iE par (R:Int) ba n bc::eM a c x.2) (λx=>R-x.1) (0,gs) ⟨aN _,by rw[BD];exact EE,Mr⟩ (aP V aF) λx ⟨hr,p_,uG⟩=>?_;obtain⟨r,ys⟩:=x;simp only at hr p_ uG|-
 have vK:ys.length=n:=by
  have:=bD List.length p_;rw[aG,jU]at this;omega
 repeat(first|refine cT ?_|refine dd λ_ _=>?_)
 refine aL (λh1=>?_) (λh1=>?_)
 case refine_2=>
  obtain rfl:r=R:=by have:=cE h1;omega
  repeat(first|refine cT ?_|refine dd λ_ _=>?_)
  exact fD rfl λw hw=>⟨(a,c,ys),by simp only;rw[vK],hw.sub (.cons _ (.cons _ (.cons _ (.refl _)))),p_,uG⟩
 have hrR:r<R:=aD h1
 repeat(first|refine cT ?_|refine dd λ_ _=>?_)
 rename_i q0 _;let Tc:=[(4,J Z r),M 3 p3,M 2 p2,M 1 p1];refine bH (λx:Nat×ax×Nat=>1<=x.1/\x.1<=n) (λx=>(6,J Z x.1)::(5,I x.2.1 (fW bl r x.1).length x.2.2)::Tc) (λx=>aE x.2.1 (fW bl r x.1).length x.2.2 (fW bl r x.1)::D p3 iE par (R:Int) a n c::aj p2::D p1 iE par (R:Int) ba n bc::eM a c ys) (λx=>n-x.1) (1,O ⟨q0,0,U⟩,1) ⟨cz _,A⟩ (aP V aF) λx ⟨h1i,hi⟩=>?_<;>(try unfold Tc);obtain⟨i,wa,wc⟩:=x;simp only at h1i hi|-
 have hwl:=FX bl r i
 repeat(first|refine cT ?_|refine dd λ_ _=>?_)
 refine aL (λh2=>?_) (λh2=>?_)
 ·have iM:i<n:=aD h2
  obtain⟨B,hB⟩:=eI hn iM;have mJ:cl ba bb bo:=⟨qd (aZ hB)⟩;have KJ:cg i n:=⟨iM⟩;obtain⟨cs,gW,pv,lv,tv,rfl,_,_,wP,kK,ht⟩:=iw i B hB;obtain⟨ta,tn,tc,_,_,rfl,_⟩:=id ht;have nO:bu w0 bb (bo+i*6) _:=⟨gW⟩;have jD:=HP bl r i;rw[show decide (1<=i)=true by simp;omega,Bool.true_and,gK hB]at jD
  repeat(first|refine cT ?_|refine dd λ_ _=>?_)
  refine bY rfl (λw hw=>Xl B r pv lv _ w (wP.cB nF hw.c_) (kK.cB vq hw.c_) ⟨_,_,_,rfl⟩) ?_;cases SJ:rN B (r:Int)with
  |true=>
   rw[SJ,al rfl]at jD
   repeat(first|refine cT ?_|refine dd λ_ _=>?_)
   refine fB rfl rfl A A λna nc=>?_;rw[show(fW bl r i).map (J Z)++[J Z (i:Int)]=(fW bl r (i+1)).map (J Z) by rw[jD,bz];rfl,show(fW bl r i).length+1=(fW bl r (i+1)).length by rw[jD,bW];rfl]
   repeat(first|refine cT ?_|refine dd λ_ _=>?_)
   exact a_ (i+1,na,nc) ⟨A,iM⟩ bB V aB
  |false=>
   rw[SJ,ai cK,cj]at jD
   repeat(first|refine cT ?_|refine dd λ_ _=>?_)
   refine a_ (i+1,wa,wc) ⟨A,iM⟩ bB (by simp only[jD];exact V) (by simp only[jD];exact dU _)
 obtain rfl:n=i:=by have:=cE h2;omega
 repeat(first|refine cT ?_|refine dd λ_ _=>?_)
 have SJ:fW bl r n=Ao bl r:=by unfold fW Ao;rw[hn]
 obtain⟨dw,hM⟩:∃dw,dw=ru bl (fW bl r n):=⟨_,rfl⟩;have hMn:dw.Nodup:=by rw[hM];exact Dc _ _
 have hMm:∀x∈dw,∃b:Nat,x=b/\mN bl (Ao bl r) b:=λx hx=>by
  rw[hM,SJ]at hx;exact(yE hg).1 hx
 have hMl:dw.length<=100:=by
  rw[hM];unfold ru;rw[aG];exact dS (fC _ _) (by rw[d_];omega)
 refine cN (val:=λx:ax×Nat=>.slice x.1 dw.length x.2) (cZ:=λx=>[aE x.1 dw.length x.2 dw]) (φ:=λ_=>True) rfl (λw hw=>?_) λx _=>?_
 ·rw[hM]
  refine RP _ _ _ bl _ ⟨_,_,_,rfl⟩ (fW bl r n) wa wc w (rq.cB cu hw.c_) (hw.nf (k:=0) rfl rfl A λi x hx=>⟨[J Z x],λj v hj=>by match j,hj with|0,hj=>simpa[hx]using hj,rfl,?_⟩) A hg dW;obtain⟨c,rfl,hc⟩:=Jm (aA hx);exact⟨A,A⟩
 obtain⟨ma,mc⟩:=x;simp only[bF,aS]
 repeat(first|refine cT ?_|refine dd λ_ _=>?_)
 refine bH (λx:Nat×List aK=>x.1<=dw.length/\x.2.map aK.dD=nS bl r (dw.take x.1)/\∀b∈x.2,b.Bd) (λx=>(8,J Z x.1)::(7,I ma dw.length mc)::Tc) (λx=>aE ma dw.length mc dw::aE wa (fW bl r n).length wc (fW bl r n)::D p3 iE par (R:Int) a n c::aj p2::D p1 iE par (R:Int) ba n bc::eM a c x.2) (λx=>dw.length-x.1) (0,ys) ⟨aN _,by simp only[ri];rw[Fh,p_],uG⟩ (aP V aF) λx ⟨hj,yD,Gp⟩=>?_<;>(try unfold Tc);clear p_ uG vK;obtain⟨j,zs⟩:=x;simp only at hj yD Gp|-
 have NP:zs.length=n:=by
  have h3:=bD List.length yD;rw[aG,tq]at h3;omega
 repeat(first|refine cT ?_|refine dd λ_ _=>?_)
 refine aL (λh2=>?_) (λh2=>?_)
 case refine_2=>
  obtain rfl:j=dw.length:=by have:=cE h2;omega
  rw[cL,Fg λb hb=>?_]at yD
  ·repeat(first|refine cT ?_|refine dd λ_ _=>?_)
   refine a_ (r+1,zs) ⟨hrR,yD,Gp⟩ bB V aB
  ·rw[hM,SJ]
   exact(yE hg).2 ⟨b,rfl,hb.1⟩
 have iS:j<dw.length:=aD h2;obtain⟨xb,uF⟩:∃x,dw[j]?=O x:=⟨_,bL iS⟩;obtain⟨b,rfl,Pm⟩:=hMm xb (aA uF);have Mq:b<bl.length:=Pm.lt hg;have wK:dw.take (j+1)=dw.take j++[(b:Int)]:=by rw[bV,uF];rfl
 have Cv:(b:Int)∉dw.take j:=λh=>by
  have h3:(dw.take j++[(b:Int)]).Nodup:=by rw[<-wK];exact hMn.sublist (List.take_sublist _ _)
  exact(nA.1 h3).2.2 _ h _ cK rfl
 obtain⟨C,hC⟩:=bE bl b Mq;have mJ:cl ba bb bo:=⟨qd (aZ hC)⟩;have aca:cg b n:=⟨A⟩;obtain⟨cs,gW,pv,lv,tv,rfl,_,_,wP,kK,ht⟩:=iw b C hC;obtain⟨pa,pn,pc,_,_,rfl,_⟩:=id wP;obtain⟨xa,xm,xc,_,_,rfl,_⟩:=id kK;obtain⟨ta,tn,tc,_,_,rfl,_⟩:=id ht;have nO:bu w0 bb (bo+b*6) _:=⟨gW⟩;refine fy 0 rfl A λmb mo UX=>?_;subst UX;have Dt:cg j dw.length:=⟨iS⟩;have abZ:uk dw j (b:Int):=⟨uF⟩
 repeat(first|refine cT ?_|refine dd λ_ _=>?_)
 refine bY rfl (λw hw=>xZ _ _ _ C ⟨_,_,_,rfl⟩ ⟨_,_,_,rfl⟩ ⟨_,_,_,rfl⟩ r w (wP.cB nF hw.c_)) ?_;have Ba:tm bl b r↔(kB bl r b (-1)/\kY C r=false):=by
  rw[show kY C r=kY (bi bl b) r by rw[gK hC]];exact⟨λh=>⟨h.2.2,h.2.1⟩,λh=>⟨Pm,h.2,h.1⟩⟩
 rw[show(C.bg.any λp=>decide (p.dst=(r:Int)))=kY C r from rfl];cases YQ:kY C r with
 |true=>
  have xA:=ws (here:=dw.take j) λh:tm bl b r=>by rw[YQ]at Ba;cases(Ba.1 h).2
  rw[<-wK]at xA
  repeat(first|refine cT ?_|refine dd λ_ _=>?_)
  exact a_ (j+1,zs) ⟨iS,by rw[xA];exact yD,Gp⟩ bB V aF
 |false=>
  repeat(first|refine cT ?_|refine dd λ_ _=>?_)
  refine bY rfl (λw hw=>acX _ _ _ bl _ ⟨_,_,_,rfl⟩ r ((b,-1):Sp) w (rq.cB cu hw.c_) A R hf lu sZ ⟨by simp only;omega,C,hC,by simp only;omega⟩) ?_
  by_cases KL:kB bl r b (-1)
  case neg=>
   have xA:=ws (here:=dw.take j) λh:tm bl b r=>KL (Ba.1 h).1;rw[<-wK]at xA;rw[gx KL]
   repeat(first|refine cT ?_|refine dd λ_ _=>?_)
   exact a_ (j+1,zs) ⟨iS,by rw[xA];exact yD,Gp⟩ bB V aF
  rw[fQ KL]
  repeat(first|refine cT ?_|refine dd λ_ _=>?_)
  rename_i zB _;have Dv:=HB hC Cv (Ba.2 ⟨KL,YQ⟩);rw[<-wK]at Dv;have hB:=tp (r:=r) (here:=dw.take j) hC;rw[ai λh=>Cv h.2,cj]at hB;obtain⟨B,Su⟩:∃B:aq,B={C with bg:=C.bg++fx bl r b}:=⟨_,rfl⟩;rw[<-Su]at hB;obtain⟨T,hT⟩:=bE zs b A;have Nj:T.dD=B:=by
   have h3:(zs.map aK.dD)[b]?=O T.dD:=by rw[aW,hT];rfl
   rw[yD,hB]at h3;exact(bJ h3).symm
  have rK:=Gp T (aA hT);have hCl:C.bg.length<=800:=by
   have h3:C.bg.length+C.list.length<=eu bl:=by
    unfold eu;exact qI (aT.2 ⟨C,aA hC,rfl⟩)
   omega
  have hTl:T.ps.length<=900:=by
   have h3:T.ps.length=B.bg.length:=by rw[<-Nj];unfold aK.dD;rw[aG]
   have h4:(fx bl r b).length<=r:=by
    unfold fx;rw[aG];exact dS (fC _ _) (by rw[d_];exact cz _)
   rw[h3,Su,bW];omega
  obtain⟨m,hm⟩:∃m,m=(be bl b).length:=⟨_,rfl⟩;have aeR:m<=100:=by
   rw[hm];exact dS (fC _ _) (by rw[d_];omega)
  refine dJ 41 2 ?_;obtain⟨rv,CA⟩:∃rv:cI,rv=⟨true,(r:Int)⟩:=⟨_,rfl⟩;refine bH (λx:Nat×ax×Nat=>x.1<=m) (λx=>(11,J Z x.1)::M 10 zB::(9,J Z b)::(8,J Z j)::(7,I (O ⟨mb,mo,U⟩) dw.length mc)::Tc) (λx=>ar x.2.1 x.1 x.2.2 (aI x.1 rv)::bN zB (r:Int) x.2.1 x.1 x.2.2::aE (O ⟨mb,mo,U⟩) dw.length mc dw::aE wa (fW bl r n).length wc (fW bl r n)::D p3 iE par (R:Int) a n c::aj p2::D p1 iE par (R:Int) ba n bc::eM a c zs) (λx=>m-x.1) (0,U,0) (aN _) (aP V aF) λx hi=>?_<;>(try unfold Tc);obtain⟨i,va,vc⟩:=x;simp only at hi|-
  repeat(first|refine cT ?_|refine dd λ_ _=>?_)
  refine cN (val:=λx:ax×Nat=>.slice x.1 m x.2) (cZ:=λx=>[G x.1 m x.2 3 1 ((be bl b).map dz)]) (φ:=λ_=>True) rfl (λw hw=>by rw[hm];exact tC _ _ _ bl _ b w (rq.cB cu hw.c_) A) λx _=>?_;obtain⟨ga,gc⟩:=x;simp only[bF,aS]
  repeat(first|refine cT ?_|refine dd λ_ _=>?_)
  refine aL (λh3=>?_) (λh3=>?_)
  ·have Jv:i<m:=aD h3
   repeat(first|refine cT ?_|refine dd λ_ _=>?_)
   refine kh 2 rfl rfl E A A λna nc=>?_;simp only[bS,bI];rw[show(aI i rv).flatMap mm++[ag true,J Z (r:Int)]=(aI (i+1) rv).flatMap mm by rw[List.replicate_succ',ee,CA];rfl]
   repeat(first|refine cT ?_|refine dd λ_ _=>?_)
   exact a_ (i+1,na,nc) Jv bB V aB
  obtain rfl:m=i:=by have:=cE h3;omega
  repeat(first|refine cT ?_|refine dd λ_ _=>?_)
  obtain⟨l,hl⟩:∃l,l=aI m rv:=⟨_,rfl⟩;have Du:l.length=m:=by rw[hl,im]
  rw[<-hl];clear nO gW iw wP kK ht mJ aca;let Ta:=[ar va m vc l,bN zB (r:Int) va m vc,aE (O ⟨mb,mo,U⟩) dw.length mc dw,aE wa (fW bl r n).length wc (fW bl r n),D p3 iE par (R:Int) a n c,aj p2,D p1 iE par (R:Int) ba n bc];let Tb:=(T.ps.map dZ++(T.xs.map gC++(zs.eraseIdx b).map bP));refine lr (H':=(G ga m gc 3 1 ((be bl b).map dz)::Ta)++(am a zs.length c zs::aw T.pa T.ps.length T.pc T.ps::qJ T::lQ T::Tb)) (λw hw=>xX hT (X:=(G ga m gc 3 1 ((be bl b).map dz)::Ta)) hw) ?_<;>(try unfold Tb)<;>(try unfold Ta);simp only[bF,aS];refine fy 8 rfl A λvb vo qt=>?_;subst qt;have aht:cg b zs.length:=⟨A⟩;have ai4:cg b n:=⟨A⟩;have hoc:∀cP,gB (am (O ⟨vb,vo,U⟩) zs.length c zs::cP) vb (vo+b*6) (I T.pa T.ps.length T.pc):=λ_=>⟨λ_ _ _ hw=>hw.dp (k:=0) rfl (e_ de zs b T 0 _ hT rfl)⟩;obtain⟨nq,Po⟩:∃nq:ch,nq=⟨(r:Int),va,vc,l⟩:=⟨_,rfl⟩;have mT:∀na nc,lS (zs.flatMap eA) (b*6+0) (I na (T.ps++[nq]).length nc) ((zs.set b (ow T na nc (T.ps++[nq]))).flatMap eA):=λna nc=>⟨by
   exact fL de hT (k:=0) A (y:=ow T na nc (T.ps++[nq])) rfl,by rw[cA de];omega⟩
  have Q0:∀(X0 X1 X2 X3 X4 X5 X6 X7 X8:cq) (cP:List cq),mf (X0::X1::X2::X3::X4::X5::X6::X7::X8::am (O ⟨vb,vo,U⟩) zs.length c zs::cP) vb (vo+b*6) 9 vo (b*6+0) zs.length c 46 6 (zs.flatMap eA):=λ_ _ _ _ _ _ _ _ _ _=>⟨rfl,A⟩;have enq:T.ps.flatMap iz++[J Z (r:Int),I va m vc]=(T.ps++[nq]).flatMap iz:=by rw[ee,Po,<-Du];rfl
  have enl:T.ps.length+1=(T.ps++[nq]).length:=by rw[bW];rfl
  refine dI [bN zB (r:Int) va m vc,D p3 iE par (R:Int) (O ⟨vb,vo,U⟩) n c] (λ_:ax×Nat=>True) (λ_=>(8,J Z j)::(7,I (O ⟨mb,mo,U⟩) dw.length mc)::Tc) (λy=>ar va m vc l::aE (O ⟨mb,mo,U⟩) dw.length mc dw::aE wa (fW bl r n).length wc (fW bl r n)::D p3 iE par (R:Int) (O ⟨vb,vo,U⟩) n c::aj p2::D p1 iE par (R:Int) ba n bc::am (O ⟨vb,vo,U⟩) zs.length c (zs.set b (ow T y.1 y.2 (T.ps++[nq])))::aw y.1 (T.ps++[nq]).length y.2 (T.ps++[nq])::qJ T::lQ T::Tb) mixed aB ?_ λy _=>?_
  ·(first|refine W 0 ?_|refine az 0 ?_|refine ap 0 ?_)
   (first|refine W 1 ?_|refine az 1 ?_|refine ap 1 ?_)
   (first|refine W 2 ?_|refine az 2 ?_|refine ap 2 ?_)
   (first|refine W 3 ?_|refine az 3 ?_|refine ap 3 ?_)
   (first|refine W 4 ?_|refine az 4 ?_|refine ap 4 ?_)
   (first|refine W 5 ?_|refine az 5 ?_|refine ap 5 ?_)
   (first|refine W 6 ?_|refine az 6 ?_|refine ap 6 ?_)
   (first|refine W 7 ?_|refine az 7 ?_|refine ap 7 ?_)
   (first|refine W 9 ?_|refine az 9 ?_|refine ap 9 ?_)<;>(try unfold Tc)<;>try unfold Tb
   refine jL 8 10 E ?_ ?_
   ·refine gM 8 rfl aB ?_;refine cD 10 E ?_;refine gT 10 rfl E aB λnb _=>?_;refine iu 11 10 rfl rfl E A A E (λ_=>aB) λRM RN=>?_;simp only[bS,bI];rw[enq,enl]
    (first|refine W 12 ?_|refine az 12 ?_|refine ap 12 ?_)
    (first|refine W 13 ?_|refine az 13 ?_|refine ap 13 ?_)
    refine cD 14 E ?_;refine mW 14 aB ?_;refine ef E ?_;exact dy (RM,RN) trivial V aB
   ·refine gT 10 rfl E aB λnb _=>?_;refine cD 8 E ?_;refine gM 8 rfl aB ?_;refine iu 11 10 rfl rfl E A A E (λ_=>aB) λRM RN=>?_;simp only[bS,bI];rw[enq,enl]
    (first|refine W 12 ?_|refine az 12 ?_|refine ap 12 ?_)
    (first|refine W 13 ?_|refine az 13 ?_|refine ap 13 ?_)
    refine cD 14 E ?_;refine mW 14 aB ?_;refine ef E ?_;exact dy (RM,RN) trivial V aB
  obtain⟨na,nc⟩:=y;simp only;obtain⟨T',Kr⟩:∃T',T'=ow T na nc (T.ps++[nq]):=⟨_,rfl⟩;rw[<-Kr];refine lr (H':=aE (O ⟨mb,mo,U⟩) dw.length mc dw::aE wa (fW bl r n).length wc (fW bl r n)::D p3 iE par (R:Int) (O ⟨vb,vo,U⟩) n c::aj p2::D p1 iE par (R:Int) ba n bc::eM (O ⟨vb,vo,U⟩) c (zs.set b T')) (λw hw=>?_) ?_
  ·have h4:Wd db w0 ([aE (O ⟨mb,mo,U⟩) dw.length mc dw,aE wa (fW bl r n).length wc (fW bl r n),D p3 iE par (R:Int) (O ⟨vb,vo,U⟩) n c,aj p2,D p1 iE par (R:Int) ba n bc]++(am (O ⟨vb,vo,U⟩) zs.length c (zs.set b (ow T na nc (T.ps++[nq])))::aw na (T.ps++[nq]).length nc (T.ps++[nq])::qJ T::lQ T::((T.ps++[nq]).map dZ++(T.xs.map gC++(zs.eraseIdx b).map bP)))) w:=by
    rw[<-Kr];refine hw.perm (aX.2 λe=>?_);have e1:(T.ps++[nq]).map dZ=T.ps.map dZ++[ar va m vc l]:=by rw[bz,Po,<-Du];rfl
    rw[e1];simp only[bU,bM,dG,D,aj,am,ar,aw,aE,Tb];omega
   have h5:=Mj hT h4;rw[<-Kr]at h5;exact h5
  have abz:T'.dD={C with bg:=(C.bg++fx bl r b)++[mv bl b r]}:=by
   rw[Kr];have h6:T.dD=⟨T.ps.map ch.iN,T.xs.map (·.x),T.kind,T.on,T.to⟩:=rfl;show(⟨(T.ps++[nq]).map ch.iN,T.xs.map (·.x),T.kind,T.on,T.to⟩:aq)=_;rw[Nj,Su]at h6;have h7:=bD aq.bg h6;have h8:=bD aq.list h6;have h9:=bD aq.kind h6;have Ss:=bD aq.on h6;have Kn:=bD aq.to h6;simp only at h7 h8 h9 Ss Kn;rw[bz,<-h7,<-h8,<-h9,<-Ss,<-Kn,Po];congr 1;rw[show mv bl b r=⟨r,l⟩ by rw[hl,hm,CA];rfl]
   rfl
  repeat(first|refine cT ?_|refine dd λ_ _=>?_)
  refine a_ (j+1,zs.set b T') ⟨iS,?_,λq hq=>?_⟩ bB V aF
  ·simp only
   rw[Dv,eT,yD,abz]
  ·rcases j_ hq with hq|rfl
   ·exact Gp q hq
   ·rw[Kr]
    refine⟨rK.kind,rK.on,by unfold ow;simp only[bW,lm];omega,λp hp=>?_,rK.list,rK.ins,rK.to⟩;unfold ow at hp;simp only at hp;rcases bO.1 hp with hp|hp
    ·exact rK.iN p hp
    ·rw[bQ.1 hp,Po]
     refine⟨⟨by simp only;omega,by simp only;omega⟩,by simp only;omega,λv hv=>?_⟩;simp only at hv;rw[hl]at hv;rw[oC hv,CA];exact⟨by simp only;omega,by simp only;omega⟩
end
end Go.Proofs.YthfhgolkafpmnaaGreatDoor
