/- Texts joined: SsaC RangeX SsaD. -/
import Derived.Test.YthfhgolkafpmnaaGreatDoorNB
namespace Go.Proofs.YthfhgolkafpmnaaGreatDoor
open Go.Value renaming int->U,slice->J,pointer->ar,bool->D,agg->au
open Go.IntKind renaming i64->O
open Option renaming some->Z,none->A
open Go renaming Value->V,World->C
open Go.Proofs.Tryz
open Go.Proofs.Tryz renaming prog->ae
open Go Go.RowKit
section
set_option maxHeartbeats 8000000
attribute [local irreducible] wpListIn Code.wpIn Exit.then Exit.inBlock bodyPost wpQuiet wpAnyIn wpAnyH bodyPostM j5
instance ack{P:Program}{N:Nat}{ds:List Deferred}{S:Nat->Prop}{w0:C}{L:List (Nat×V)}{H:List bN}{x:Operand}{p:Addr}[hx:Ev L x (ar (Z p))]:dL P N ds S w0 L H (.nilCheck x) (ar (Z p)):=
 ⟨λ_ h=>(by cases h),λ_ _ h=>(by cases h),λ_ _ _ _ _ a w hF _=>by simp[execOp,hx.eq _ _ _ hF]⟩
def eU(W:List Wr)(R:Nat):List (Int×Int):=(List.range R).map (yy W)
theorem mX{W:List Wr}{R r:Nat}(h:r<R):(eU W R)[r]?=Z (yy W r):=by unfold eU;rw[aJ,eX h];rfl
theorem kH(W:List Wr)(R:Nat):(eU W R).length=R:=by unfold eU;rw[aF,fA]
theorem Ce(x:Int×Int):(rN x).length=2:=rfl
theorem Cw{W:List Wr}{R r:Nat}{w:Wr}(hr:r<R)(hw:w.z=r):eU (W++[w]) R=if (yy W r).1<0 then(eU W R).set r ((w.block:Int),w.at')else eU W R:=by
 apply ci;intro s
 by_cases hs:s<R
 ·rw[mX hs,Wj]
  split
  ·rename_i h
   obtain⟨h1,h2⟩:=h;have e:r=s:=I;subst e;rw[if_pos h1,eK (by rw[kH];exact hs)]
  ·rename_i h
   split
   ·rename_i h1
    rw[fz (λe=>h ⟨by subst e;exact h1,by subst e;exact hw⟩),mX hs]
   ·rw[mX hs]
 ·have h1:∀l:List (Int×Int),l.length=R->l[s]?=A:=λl hl=>bO I
  rw[h1 _ (kH _ _)]
  split
  ·rw[h1 _ (by rw[eL,kH])]
  ·rw[h1 _ (kH _ _)]
theorem Ut{α:Type}{H:List bN}{g:α->List V}{s b o n c e:Nat}{l:List α}(hg:∀x,(g x).length=s)(k:Nat)(hk:H[k]?=Z (M (Z ⟨b,o,A⟩) n c e s (l.flatMap g))){i:Nat}{x:α}(hi:l[i]?=Z x):∀(j:Nat) (v:V),(g x)[j]?=Z v->fy H b (o+i*s+j) v:=λj v hv=>
 ⟨λ_ _ w hw=>by rw[dI];exact hw.cL hk (fB hg l i x j v hi hv)⟩
theorem HB(p b0 R:Nat)(nm:V)(pa:Int)(bs up:V)(W:List Wr)(r b:Nat)(i:Int)(hr:r<R)(w:C)(hw:Wd (cH [(K p [nm,U O pa,U O R,bs,up,J (Z ⟨b0,0,A⟩) R R] 131),M (Z ⟨b0,0,A⟩) R R 129 2 ((eU W R).flatMap rN)]) w [(K p [nm,U O pa,U O R,bs,up,J (Z ⟨b0,0,A⟩) R R] 131),M (Z ⟨b0,0,A⟩) R R 129 2 ((eU W R).flatMap rN)] w):
  iC ae 136 [ar (Z ⟨p,0,A⟩),U O r,U O b,U O i] w λu w'=>∃_x:Unit,u=D (decide ((yy W r).1<0))/\Wd (cH [(K p [nm,U O pa,U O R,bs,up,J (Z ⟨b0,0,A⟩) R R] 131),M (Z ⟨b0,0,A⟩) R R 129 2 ((eU W R).flatMap rN)]) w [(K p [nm,U O pa,U O R,bs,up,J (Z ⟨b0,0,A⟩) R R] 131),M (Z ⟨b0,0,A⟩) R R 129 2 ((eU (W++[⟨r,b,i⟩]) R).flatMap rN)] w'/\True:=by
 refine aM func136 rfl ntmps136 rfl hw ?_;have hlr:bY r R:=⟨hr⟩;have ho:=Ut (H:=[(K p [nm,U O pa,U O R,bs,up,J (Z ⟨b0,0,A⟩) R R] 131),M (Z ⟨b0,0,A⟩) R R 129 2 ((eU W R).flatMap rN)]) (g:=rN) Ce 1 rfl (mX (W:=W) hr);have Em:fy _ b0 (0+r*2) _:=ho 0 _ rfl;refine aU ?_
 by_cases h1:(yy W r).1<0
 ·rw[show decide (0<=(yy W r).1)=false by simp;omega]
  refine aH ?_;refine kZ 1 (j:=r*2) rfl rfl (by rw[cj Ce,kH];omega) ?_;have mq:=jP Ce (l:=eU W R) (i:=r) (by rw[kH];exact hr) ((b:Int),i);rw[show[U O (b:Int),U O i]=rN ((b:Int),i)from rfl,mq];simp only[cG,bW];refine aH ?_;refine cE rfl λw' ek=>⟨(),by rw[decide_eq_true h1],?_,trivial⟩;rw[Cw (r:=r) hr rfl,if_pos h1];exact ek
 ·rw[show decide (0<=(yy W r).1)=true by simp;omega]
  refine aE ?_;refine cE rfl λw' ek=>⟨(),by rw[decide_eq_false h1],?_,trivial⟩;rw[Cw (r:=r) hr rfl,if_neg h1];exact ek
theorem Un(R:Nat):lh [] R=true:=decide_eq_true λr _=>by simp[eC]
theorem KI(R:Nat):eU [] R=List.replicate R ((-1:Int),(-1:Int)):=by
 apply ci;intro s
 by_cases hs:s<R
 ·rw[mX hs,g_,if_pos hs];rfl
 ·rw[bO (by rw[kH];omega),bO (by rw[dm];omega)]
theorem zj(n:Nat):qI (n+1)=qI n++[⟨n,0,-1⟩]:=by unfold qI;rw[kU,bz];rfl
theorem Hj{W:List Wr}{R r b:Nat}{i:Int}(hr:r<R){t:Bool}(ht:t=lh W R)(h:(yy W r).1<0):t=lh (W++[⟨r,b,i⟩]) R:=by rw[JM rfl hr,decide_eq_true h,Bool.true_and,ht]
theorem Hi{W:List Wr}{R r b:Nat}{i:Int}(hr:r<R)(h:¬(yy W r).1<0):false=lh (W++[⟨r,b,i⟩]) R:=by rw[JM rfl hr,decide_eq_false h,Bool.false_and]
theorem VB(p b0 R n:Nat)(nm:V)(bl:List E)(bs up:V)(hn:n<=R)(hR:R<=100)(hlen:bl.length<=100)(hf:fu R bl)(wz w:C)(e_:Clean (cH [K p [nm,U O (n:Int),U O R,bs,up,J (Z ⟨b0,0,A⟩) R R] 131,M (Z ⟨b0,0,A⟩) R R 129 2 ((eU [] R).flatMap rN)]) wz)(m_:aG wz bs 6 bl ed)
  (hw:Wd (cH [K p [nm,U O (n:Int),U O R,bs,up,J (Z ⟨b0,0,A⟩) R R] 131,M (Z ⟨b0,0,A⟩) R R 129 2 ((eU [] R).flatMap rN)]) wz [K p [nm,U O (n:Int),U O R,bs,up,J (Z ⟨b0,0,A⟩) R R] 131,M (Z ⟨b0,0,A⟩) R R 129 2 ((eU [] R).flatMap rN)] w):
  iC ae 91 [ar (Z ⟨p,0,A⟩)] w λu w'=>∃_x:Unit,u=D (lh (u9 n bl) R)/\Wd (cH [K p [nm,U O (n:Int),U O R,bs,up,J (Z ⟨b0,0,A⟩) R R] 131,M (Z ⟨b0,0,A⟩) R R 129 2 ((eU [] R).flatMap rN)]) wz [K p [nm,U O (n:Int),U O R,bs,up,J (Z ⟨b0,0,A⟩) R R] 131,M (Z ⟨b0,0,A⟩) R R 129 2 ((eU (u9 n bl) R).flatMap rN)] w'/\True:=by
 refine kP func91 rfl ntmps91 rfl hw ?_;have hold:∀{b o:Nat} {v:V} {l:List V},bF wz b o (v::l)->eS (cH [K p [nm,U O (n:Int),U O R,bs,up,J (Z ⟨b0,0,A⟩) R R] 131,M (Z ⟨b0,0,A⟩) R R 129 2 ((eU [] R).flatMap rN)]) b:=λhc=>e_.old hc;generalize cH [K p [nm,U O (n:Int),U O R,bs,up,J (Z ⟨b0,0,A⟩) R R] 131,M (Z ⟨b0,0,A⟩) R R 129 2 ((eU [] R).flatMap rN)]=SS at*;have uT:=m_;obtain⟨ba,bn,bc,bb,bo,rfl,pR,_,_,_,yh,EG⟩:=m_;refine aH ?_;refine bL (λx:Nat×Bool×List Wr=>x.1<=n/\x.2.2=qI x.1/\x.2.1=lh x.2.2 R) (λx=>[(16,U O x.1),(3,D x.2.1),(15,U O (n:Int)),aj 0 p]) (λx=>[K p [nm,U O (n:Int),U O R,J ba bn bc,up,J (Z ⟨b0,0,A⟩) R R] 131,M (Z ⟨b0,0,A⟩) R R 129 2 ((eU x.2.2 R).flatMap rN)]) (λx=>n-x.1) (0,true,[]) ⟨aT _,rfl,(Un R).symm⟩ (aS ap aK) λx ⟨hi,hW,ht⟩=>?_;obtain⟨i,t,W⟩:=x;simp only at hi hW ht⊢;refine aU ?_;refine aI (λh1=>?_) (λh1=>?_)
 ·have bS:i<n:=ax h1
  refine aH ?_;refine fC (H1:=[K p [nm,U O (n:Int),U O R,J ba bn bc,up,J (Z ⟨b0,0,A⟩) R R] 131,M (Z ⟨b0,0,A⟩) R R 129 2 ((eU W R).flatMap rN)]++[]) rfl ?_;refine fK (val:=λ_:Unit=>.bool (decide ((yy W i).1<0))) (akg:=λ_=>[K p [nm,U O (n:Int),U O R,J ba bn bc,up,J (Z ⟨b0,0,A⟩) R R] 131,M (Z ⟨b0,0,A⟩) R R 129 2 ((eU (W++[⟨(i:Int),0,-1⟩]) R).flatMap rN)]) (φ:=λ_=>True) rfl (λw hw=>HB p b0 R nm n (J ba bn bc) up W i 0 (-1) I w hw.pre) λ_ _=>?_;simp only[aW,aO]
  by_cases hb:(yy W i).1<0
  ·rw[decide_eq_true hb]
   refine aE ?_;exact bj (i+1,t,W++[⟨(i:Int),0,-1⟩]) ⟨bS,by rw[hW,zj],Hj I ht hb⟩ bK ap aK
  ·rw[decide_eq_false hb]
   refine iL ?_;exact bj (i+1,false,W++[⟨(i:Int),0,-1⟩]) ⟨bS,by rw[hW,zj],Hi I hb⟩ bK ap aK
 obtain rfl:n=i:=by have:=h1;simp at this;omega
 clear h1 hi;refine aE ?_;refine bL (λx:Nat×Bool×List Wr=>x.1<=bn/\x.2.2=qI n++iE (bl.take x.1) 0/\x.2.1=lh x.2.2 R) (λx=>[(32,U O x.1),(3,D x.2.1),(31,U O bn),(30,J ba bn bc),aj 0 p]) (λx=>[K p [nm,U O (n:Int),U O R,J ba bn bc,up,J (Z ⟨b0,0,A⟩) R R] 131,M (Z ⟨b0,0,A⟩) R R 129 2 ((eU x.2.2 R).flatMap rN)]) (λx=>bn-x.1) (0,t,W) ⟨aT _,by simp[hW,iE],ht⟩ (aS ap aK) λx ⟨hi,hW,ht⟩=>?_;obtain⟨b,t,W⟩:=x;simp only at hi hW ht⊢;refine aU ?_;refine aI (λh1=>?_) (λh1=>?_)
 case refine_2=>
  obtain rfl:bn=b:=by have:=h1;simp at this;omega
  refine aE ?_;refine cE rfl λw' ek=>⟨(),?_,?_,trivial⟩
  ·rw[ht,hW,pR,cQ];rfl
  ·rw[pR,cQ]at hW
   rw[show u9 n bl=W from hW.symm];exact ek
 have bS:b<bn:=ax h1;obtain⟨B,hB⟩:=bf bl b I;obtain⟨b1,o1,IP,Db,wL⟩:=eE uT hold (λ_ _ h=>by obtain⟨_,_,_,e,_⟩:=h;exact⟨_,_,e⟩) (aL hB);obtain⟨_,IZ,pv,lv,tv,rfl,_,_,wj,lY,ii⟩:=wL b B hB;have hfB:=hf.block b B hB;have Pt:bY b bn:=⟨bS⟩;obtain⟨pa,pn,pc,_,_,rfl,Fs,_⟩:=id wj;obtain⟨la,ln,lc,_,_,rfl,HJ,_⟩:=id lY;obtain⟨ta,tn,tc,_,_,rfl,_⟩:=id ii
 repeat(first|refine aE ?_|refine dZ λ_ _=>?_)
 rename_i p6 _;refine bL (λx:Nat×Bool×List Wr=>x.1<=pn/\x.2.2=qI n++(iE (bl.take b) 0++Br b (B.aD.take x.1))/\x.2.1=lh x.2.2 R) (λx=>[(40,U O x.1),(39,U O pn),(38,J pa pn pc),(3,D x.2.1),(5,U O b),aj 6 p6,(32,U O b),(31,U O bn),(30,J ba bn bc),aj 0 p]) (λx=>[K p6 [J pa pn pc,J la ln lc,U O B.kind,D B.on.z,U O B.on.n,J ta tn tc] 46,K p [nm,U O (n:Int),U O R,J ba bn bc,up,J (Z ⟨b0,0,A⟩) R R] 131,M (Z ⟨b0,0,A⟩) R R 129 2 ((eU x.2.2 R).flatMap rN)]) (λx=>pn-x.1) (0,t,W) ⟨aT _,by simp[hW,Br],ht⟩ (aS ap aK) λx ⟨hi,hW,ht⟩=>?_;obtain⟨j,t,W⟩:=x;simp only at hi hW ht⊢;refine aU ?_;refine aI (λh2=>?_) (λh2=>?_)
 ·have jw:j<pn:=ax h2
  obtain⟨q,hq⟩:=bf B.aD j I;obtain⟨b2,o2,uR,nw,yW⟩:=eE wj hold (λ_ _ h=>by obtain⟨_,e,_⟩:=h;exact⟨_,_,e⟩) (aL hq);obtain⟨_,tX,sv,rfl,_,ny⟩:=yW j q hq;have Xg:=(hfB.aD q (aq hq)).dst;have agG:bY j pn:=⟨jw⟩;have abq:=Mo (i:=b) hq;obtain⟨sa,sn,sc,_,_,rfl,_⟩:=id ny;obtain⟨r,hr⟩:∃r:Nat,q.dst=r:=⟨q.dst.toNat,I⟩;rw[hr]at Xg abq tX
  repeat(first|refine aE ?_|refine dZ λ_ _=>?_)
  rename_i p8 _;refine bi (H1:=[K p [nm,U O (n:Int),U O R,J ba bn bc,up,J (Z ⟨b0,0,A⟩) R R] 131,M (Z ⟨b0,0,A⟩) R R 129 2 ((eU W R).flatMap rN)]++[K p8 [U O r,J sa sn sc] 49,K p6 [J pa pn pc,J la ln lc,U O B.kind,D B.on.z,U O B.on.n,J ta tn tc] 46]) (cP (l₁:=[K p8 [U O r,J sa sn sc] 49,K p6 [J pa pn pc,J la ln lc,U O B.kind,D B.on.z,U O B.on.n,J ta tn tc] 46])) ?_;refine fK (val:=λ_:Unit=>.bool (decide ((yy W r).1<0))) (akg:=λ_=>[K p [nm,U O (n:Int),U O R,J ba bn bc,up,J (Z ⟨b0,0,A⟩) R R] 131,M (Z ⟨b0,0,A⟩) R R 129 2 ((eU (W++[⟨(r:Int),b,-1⟩]) R).flatMap rN)]) (φ:=λ_=>True) rfl (λw hw=>HB p b0 R nm n (J ba bn bc) up W r b (-1) I w hw.pre) λ_ _=>?_;refine bi (H1:=[K p8 [U O r,J sa sn sc] 49,K p6 [J pa pn pc,J la ln lc,U O B.kind,D B.on.z,U O B.on.n,J ta tn tc] 46]++[K p [nm,U O (n:Int),U O R,J ba bn bc,up,J (Z ⟨b0,0,A⟩) R R] 131,M (Z ⟨b0,0,A⟩) R R 129 2 ((eU (W++[⟨(r:Int),b,-1⟩]) R).flatMap rN)]) (cP (l₁:=[K p [nm,U O (n:Int),U O R,J ba bn bc,up,J (Z ⟨b0,0,A⟩) R R] 131,M (Z ⟨b0,0,A⟩) R R 129 2 ((eU (W++[⟨(r:Int),b,-1⟩]) R).flatMap rN)])) ?_;simp only[aW,aO]
  by_cases hb:(yy W r).1<0
  ·rw[decide_eq_true hb]
   refine aE ?_;exact bj (j+1,t,W++[⟨(r:Int),b,-1⟩]) ⟨jw,by rw[hW,abq];simp only[dz],Hj I ht hb⟩ bK ap aw
  ·rw[decide_eq_false hb]
   refine iL ?_;exact bj (j+1,false,W++[⟨(r:Int),b,-1⟩]) ⟨jw,by rw[hW,abq];simp only[dz],Hi I hb⟩ bK ap aw
 obtain rfl:pn=j:=by have:=h2;simp at this;omega
 rw[Fs,cQ]at hW;clear h2 hi;refine aE ?_;refine bL (λx:Nat×Bool×List Wr=>x.1<=ln/\x.2.2=qI n++(iE (bl.take b) 0++(Br b B.aD++nB b (B.list.take x.1) 0))/\x.2.1=lh x.2.2 R) (λx=>[(56,U O x.1),(55,U O ln),(54,J la ln lc),(3,D x.2.1),(5,U O b),aj 6 p6,(32,U O b),(31,U O bn),(30,J ba bn bc),aj 0 p]) (λx=>[K p6 [J pa pn pc,J la ln lc,U O B.kind,D B.on.z,U O B.on.n,J ta tn tc] 46,K p [nm,U O (n:Int),U O R,J ba bn bc,up,J (Z ⟨b0,0,A⟩) R R] 131,M (Z ⟨b0,0,A⟩) R R 129 2 ((eU x.2.2 R).flatMap rN)]) (λx=>ln-x.1) (0,t,W) ⟨aT _,by simp[hW,nB],ht⟩ (aS ap aK) λx ⟨hi,hW,ht⟩=>?_;obtain⟨k,t,W⟩:=x;simp only at hi hW ht⊢;refine aU ?_;refine aI (λh2=>?_) (λh2=>?_)
 case refine_2=>
  obtain rfl:ln=k:=by have:=h2;simp at this;omega
  refine aE ?_;exact bj (b+1,t,W) ⟨bS,by rw[hW,HJ,cQ,Gj hB];simp only[su,dz],ht⟩ bK ap aw
 have u2:k<ln:=ax h2;obtain⟨y,hy⟩:=bf B.list k I;obtain⟨b3,o3,Li,xg,C3⟩:=eE lY hold (λ_ _ h=>by obtain⟨_,e,_⟩:=h;exact⟨_,_,e⟩) (aL hy);obtain⟨_,I0,av,rfl,_,_,_,_,_,Ag⟩:=C3 k y hy;have uf:=(hfB.list y (aq hy)).dst;have abe:bY k ln:=⟨u2⟩;have hlW:=L4 (i:=b) hy;obtain⟨aa,an,ac,_,_,rfl,_⟩:=id Ag
 repeat(first|refine aE ?_|refine dZ λ_ _=>?_)
 rename_i EO _
 by_cases Xc:y.dst<0
 ·rw[decide_eq_true Xc]
  refine iL ?_;exact bj (k+1,t,W) ⟨u2,by rw[hW,hlW,if_pos Xc,cD],ht⟩ bK ap aw
 rw[decide_eq_false Xc];obtain⟨r,hr⟩:∃r:Nat,y.dst=r:=⟨y.dst.toNat,I⟩;have Lz:=uf I;rw[if_neg Xc]at hlW;rw[hr]at Lz hlW⊢;refine aE ?_;refine bi (H1:=[K p [nm,U O (n:Int),U O R,J ba bn bc,up,J (Z ⟨b0,0,A⟩) R R] 131,M (Z ⟨b0,0,A⟩) R R 129 2 ((eU W R).flatMap rN)]++[K EO [U O y.op,U O r,D y.a.z,U O y.a.n,D y.b.z,U O y.b.n,U O y.fn,J aa an ac] 56,K p6 [J pa pn pc,J la ln lc,U O B.kind,D B.on.z,U O B.on.n,J ta tn tc] 46]) (cP (l₁:=[K EO [U O y.op,U O r,D y.a.z,U O y.a.n,D y.b.z,U O y.b.n,U O y.fn,J aa an ac] 56,K p6 [J pa pn pc,J la ln lc,U O B.kind,D B.on.z,U O B.on.n,J ta tn tc] 46])) ?_;refine fK (val:=λ_:Unit=>.bool (decide ((yy W r).1<0))) (akg:=λ_=>[K p [nm,U O (n:Int),U O R,J ba bn bc,up,J (Z ⟨b0,0,A⟩) R R] 131,M (Z ⟨b0,0,A⟩) R R 129 2 ((eU (W++[⟨(r:Int),b,k⟩]) R).flatMap rN)]) (φ:=λ_=>True) rfl (λw hw=>HB p b0 R nm n (J ba bn bc) up W r b k I w hw.pre) λ_ _=>?_;refine bi (H1:=[K EO [U O y.op,U O r,D y.a.z,U O y.a.n,D y.b.z,U O y.b.n,U O y.fn,J aa an ac] 56,K p6 [J pa pn pc,J la ln lc,U O B.kind,D B.on.z,U O B.on.n,J ta tn tc] 46]++[K p [nm,U O (n:Int),U O R,J ba bn bc,up,J (Z ⟨b0,0,A⟩) R R] 131,M (Z ⟨b0,0,A⟩) R R 129 2 ((eU (W++[⟨(r:Int),b,k⟩]) R).flatMap rN)]) (cP (l₁:=[K p [nm,U O (n:Int),U O R,J ba bn bc,up,J (Z ⟨b0,0,A⟩) R R] 131,M (Z ⟨b0,0,A⟩) R R 129 2 ((eU (W++[⟨(r:Int),b,k⟩]) R).flatMap rN)])) ?_;simp only[aW,aO]
 by_cases hb:(yy W r).1<0
 ·rw[decide_eq_true hb]
  refine aE ?_;exact bj (k+1,t,W++[⟨(r:Int),b,k⟩]) ⟨u2,by rw[hW,hlW];simp only[dz],Hj I ht hb⟩ bK ap aw
 ·rw[decide_eq_false hb]
  refine iL ?_;exact bj (k+1,false,W++[⟨(r:Int),b,k⟩]) ⟨u2,by rw[hW,hlW];simp only[dz],Hi I hb⟩ bK ap aw
end
section
section
variable {P:Program} {ro:Option Nat} {N:Nat} {ds:List Deferred} {S:Nat->Prop} {w0:C} {L L':List (Nat×V)} {H H':List bN} {a:Act} {w:C}
 {ops:Array Oper} {rest:List Oper} {Q:Exit->Act->C->Prop} {p:Act->C->Prop} {x y:Operand}
def acr{σ:Type}(w0:C)(Bx:Prop)(R:bN)(Hc:σ->List bN)(F:List bN):Exit->Act->C->Prop:=λe a w=>e=.ret/\Rnd cX w0 (λ_=>Bx) R Hc F a w
theorem aaz{σ:Type}{Bx:Prop}{R:bN}{Hc:σ->List bN}{F:List bN}(s:σ)(hB:Bx)(hH:(R::(Hc s++F)).Sublist H):aki N ds cX w0 L H (acr w0 Bx R Hc F .ret):=λ_ _ hS=>⟨rfl,s,hB,hS.wd.sub hH⟩
theorem xh{H:List bN}{fn:Func}{tmps:Array V}{R:V->C->Prop}{v:V}(hr:∀w,Wd cX w0 H w->(results fn tmps).run P w=.ok v w)(hR:∀w,Wd cX w0 H w->R v w):∀(Ds:List Nat) (w:C),Wd cX w0 (marks Ds++H) w->
  LeavesInM (FW A) 0 P fn tmps (λe w'=>∃v,e=.returned v/\R v w') (Ir Ds) .returning w
 |[],w,hW=>⟨v,hr w hW,v,rfl,hR w hW⟩
 |akf::Ds,w,hW=>by
  have h1:Wd cX w0 (bN.mark akf::(marks Ds++H)) w:=hW;have hD:w0.heap.size<=akf:=(h1.own (bN.mark akf) aC akf rfl).1.elim (λh=>h.elim) id;exact⟨by simp,.inl ⟨akf,_,rfl,run_takeDeferred (h1.get (k:=0) rfl),xh hr hR Ds _ (h1.shut hD _)⟩⟩
theorem yQ{fn:Func}{R:V->C->Prop}{H:List bN}(Ds:List Nat){t T b j bt:Nat}{v:V}(hr:fn.results= #[.cell t T])[hv:gR L t (ar (Z ⟨b,0,A⟩))][h:OneCell P T][hb:nr H b j [v] bt](hR:∀w,Wd cX w0 H w->R v w):aki N (Ir Ds) cX w0 L (marks Ds++H) (bodyPostM (FW A) 0 P fn (λe w'=>∃v,e=.returned v/\R v w') .ret):=λa w hS=>by
 show LeavesInM _ _ _ _ _ _ _ _ _;rw[hS.fr.defers];refine xh (λw hw=>?_) hR Ds w hS.wd;have hc:=hw.mP j hb.at' (show[v][0]?=Z v from rfl);simp[results,hr,tK,hS.fr.slot _ hv.mem,asAddr,loadVar,h.agg,hc]
theorem RY{α σ:Type}{g:Operand}{ps:Array Tmp}{assign body:Code}{gf:Nat}{lb:List V}[hg:Ev L g (.func (.func gf) #[] lb.toArray)][eg:aQ P gf](F:List bN)(Hc:σ->List bN)(s0:σ)(e_:∀s,F6 (Hc s))(Zq:∀s s' b,cH (Hc s) b->cH (Hc s') b)(xs:List α){encs:α->Array V}
  {Bs:Nat} {bcs:List V} {bt:TypeId} (Q3:K Bs bcs bt∈F)
  (LC:∀w,Wd cX w0 H w->SeqStopsK (FW A) 4 P gf lb.toArray encs (kT λb=>cH (Hc s0++F) b/\b≠Bs) (λys=>ys=xs) (λpre=>pre<+:xs) xs.length w)
  (akb:List α->σ->Prop) (Bx:Prop) (h0:akb [] s0) (hH:(Hc s0++F).Sublist H) (xH:∀x,(encs x).size=ps.size) (bx:α->List V) (T:Nat)
  (L0:α->List (Nat×V)) (La:α->Nat->List (Nat×V)) (mq:∀x a,Fr N ds L a->Fr N [] (L0 x) {tmps:=(ps.zip (encs x)).foldl (λt (p,v)=>t.setIfInBounds p v) a.tmps,defers:=[]})
  (tW:∀(l:Nat) (x:α) (s:σ) (R:bN),aki N [] cX w0 (L0 x) (R::(Hc s++F)) (assign.wpIn (FW (Z l)) 0 P (Exit.then (λa w=>∃q,St N [] cX w0 (La x q) (K q (bx x) T::R::(Hc s++F)) a w) (λ_ _ _=>False))))
  (rj:∀(l:Nat) (pre:List α) (x:α) (s:σ) (q:Nat) (R:bN),akb pre s->pre.length<xs.length->aki N [] cX w0 (La x q) (R::K q (bx x) T::(Hc s++F)) (body.wpIn (FW (Z l)) 0 P (Exit.then (Rnd cX w0 (akb (pre++[x])) R Hc (K q (bx x) T::F)) (acr w0 Bx R Hc (K q (bx x) T::F)))))
  (k:∀akf s,w0.heap.size<=akf->akb xs s->aki N (⟨.collected akf,#[]⟩::ds) cX w0 L (bN.mark akf::(Hc s++F)) (Q .normal)) (k2:∀akf s,w0.heap.size<=akf->Bx->aki N (⟨.collected akf,#[]⟩::ds) cX w0 L (bN.mark akf::(Hc s++F)) (Q .ret)):aki N ds cX w0 L H (Code.wpIn (FW A) 0 P (Code.rangeFunc g ps assign body) Q):=λa w hS=>by
 have pU:=hS.wd.size;have hF:∀e∈F,∀b,e.fp b->b<w.heap.size:=λe he b hb=>(hS.wd.own e (hH.subset (de _ he)) b hb).2;have jd:∀s W,Wd cX w0 (Hc s++F) W->∀r o,W.heap[r]?=Z o->o.isCells=false->w.heap.size<=r->¬cH (Hc s++F) r:=by
  rintro s W hW r o ho hn hle ⟨e,he,hb⟩;rcases bA.1 he with he|he
  ·obtain⟨j,hj⟩:=bg (ct F he)
   obtain⟨cs,t,akj,hc⟩:=((e_ s).all e he).ok W (hW.get hj) r hb;rw[hc]at ho;cases ho;cases hn
  ·have:=hF e he r hb;omega
 have CY:∀s W,Wd cX w0 (Hc s++F) W->W.heap[Bs]?=Z (.cells bcs.toArray bt (0,0)):=λs W hW=>by
  obtain⟨j,hj⟩:=bg (de (Hc s) Q3);exact hW.get hj
 have C4:∀s s' b,cH (Hc s++F) b->cH (Hc s'++F) b:=by
  rintro s s' b ⟨e,he,hb⟩;rcases bA.1 he with he|he
  ·obtain⟨e',VM,nO⟩:=Zq s s' b ⟨e,he,hb⟩
   exact⟨e',ct _ VM,nO⟩
  ·exact⟨e,de _ he,hb⟩
 have Am:∀s s' (H0:List bN) W W',Wd cX w0 (Hc s++F) W->(∀r o,W.heap[r]?=Z o->o.isCells=false->w.heap.size<=r->¬cH H0 r)->Wd cX w0 (bN.rest (pw w0.heap.size W H0) W::(Hc s'++F)) W'->(∀b,cH H0 b->¬cH (Hc s0++F) b->W'.heap[b]?=W.heap[b]?)->KeepsFrom w.heap.size W W'/\kT (λb=>cH (Hc s0++F) b/\b≠Bs) W W':=by
  intro s s' H0 W W' hW Em tV hx;obtain⟨hs,hr⟩:=tV.get (k:=0) rfl;refine⟨⟨hs,λj o hj ho hn=>?_⟩,λb cs t akj hb hc=>?_⟩
  ·exact(hr j ⟨I,(fv.1 ho).1,Em j o ho hn hj⟩).trans ho
  ·by_cases e:b=Bs
   ·subst e
    exact(CY s' W' (tV.sub (dR _ _))).trans ((CY s W hW).symm.trans hc)
   ·have En:¬cH (Hc s0++F) b:=λh=>hb ⟨h,e⟩
    by_cases bS:b<w0.heap.size
    ·exact((tV.ch.block b bS λh=>h).trans (hW.ch.block b bS λh=>h).symm).trans hc
    ·by_cases h0:cH H0 b
     ·exact(hx b h0 En).trans hc
     ·exact(hr b ⟨I,(fv.1 hc).1,h0⟩).trans hc
 refine jD (m:=5) ?_;refine wpIn_rangeFunc_ownH (F:=FW A) (n:=5) (w0:=w) rfl I (hg.eq _ _ _ hS.fr) trivial (λargs w=>eg.run args w) (LC w hS.wd) (λh1 h2=>h1.trans h2) (λW l o o' hl ho hn _ b cs t akj _ hc=>?_) (Below.refl _ _) xH
  (λpre W=>∃s,akb pre s/\Wd cX w0 (Hc s++F) W/\w.heap.size<=W.heap.size) (λc _ W=>c=.ret/\∃s,Bx/\Wd cX w0 (Hc s++F) W/\w.heap.size<=W.heap.size) (λpre W W' row ⟨s,hI,hW,Es⟩ hg hr=>⟨s,hI,hW.grown hg λr e=>?_,du Es hg.size⟩) (λc pre W W' row ⟨hc,s,hI,hW,Es⟩ hg hr=>⟨hc,s,hI,hW.grown hg λr e=>?_,du Es hg.size⟩) ⟨s0,h0,hS.wd.sub hH,bG _⟩
  (λx a' W=>∃q,Fr N [] (La x q) a'/\W.heap[q]?=Z (.cells (bx x).toArray T (0,0))/\w.heap.size<=q/\∀s,¬cH (Hc s++F) q) (λx a' _ W W' row ⟨q,h1,h2,h3,h4⟩ hg hr=>⟨q,h1,?_,h3,h4⟩) ?_ ?_ ?_ ?_
 ·refine(World.putObj_heap_other λe=>?_).trans hc
  subst e;rw[hc]at ho;cases ho;cases hn
 ·obtain⟨h1,o,ho,hn⟩:=hr r e
  exact⟨I,jd s W hW r o ho hn h1⟩
 ·obtain⟨h1,o,ho,hn⟩:=hr r e
  exact⟨I,jd s W hW r o ho hn h1⟩
 ·refine(hg.block q (fv.1 h2).1 λe=>?_).trans h2
  obtain⟨_,o,ho,hn⟩:=hr q e.symm;rw[h2]at ho;cases ho;cases hn
 ·rintro l pre x W akc ⟨s,hI,hW,Es⟩ hK
  refine jD (m:=0) ?_;refine Code.wpIn_mono (λe a' W' q=>?_) (tW l x s _ _ W ⟨mq x a hS.fr,hW.rM⟩);cases e with
  |normal=>
   obtain⟨q,hq⟩:=q;have ho:=Am s s _ W W' hW (jd s W hW) (hq.wd.sub (dR _ _)) λb hb hn=>absurd (C4 s s0 b hb) hn;have vv:=ew.1 hq.wd.apart;have ZN:¬cH (Hc s++F) q:=λ⟨e,he,hb⟩=>vv.1 e (cO _ he) q rfl hb;have EL:=hq.wd.own (K q (bx x) T) aC q rfl;refine hK a' W' ho.1 ho.2 ⟨s,hI,hq.wd.sub (.cons _ (.cons _ (.refl _))),du Es ho.1.size⟩ ⟨q,hq.fr,hq.wd.get (k:=0) rfl,?_,λs' h=>ZN (C4 s' s q h)⟩;refine Classical.byContradiction λbS=>?_;have h1:w0.heap.size<=q:=EL.1.elim (λh=>h.elim) id;exact vv.1 (bN.rest (pw w0.heap.size W (Hc s++F)) W) aC q rfl ⟨h1,I,ZN⟩
  |_=>exact q.elim
 ·rintro l pre x a' W _ _ ⟨s,hI,hW,Es⟩ ⟨q',h1,h2,h3,h4⟩ bS
  have hWb:Wd cX w0 (K q' (bx x) T::(Hc s++F)) W:=⟨hW.ch,λe he b hb=>by
   rcases bD.1 he with rfl|he
   ·cases hb
    exact⟨.inr I,(fv.1 h2).1⟩
   ·exact hW.own e he b hb,λe he w2 hs jg=>by
   rcases bD.1 he with rfl|he
   ·exact(jg q' rfl).trans h2
   ·exact hW.ok e he w2 hs jg,ew.2 ⟨λf hf b hb u1=>by cases hb;exact h4 s ⟨f,hf,u1⟩,hW.apart⟩⟩
  refine jD (m:=0) ?_;refine Code.wpIn_mono (λe a' W' q=>?_) (rj l pre x s q' _ hI bS a' W ⟨h1,hWb.rM⟩);have key:∀aj8:σ->Prop,Rnd cX w0 aj8 (bN.rest (pw w0.heap.size W (K q' (bx x) T::(Hc s++F))) W) Hc (K q' (bx x) T::F) a' W'->(KeepsFrom w.heap.size W W'/\kT (λb=>cH (Hc s0++F) b/\b≠Bs) W W')/\∃s,aj8 s/\Wd cX w0 (Hc s++F) W'/\w.heap.size<=W'.heap.size:=λaj8 q=>by
   obtain⟨s',R6,tV⟩:=q;have Zc:Wd cX w0 (bN.rest (pw w0.heap.size W (K q' (bx x) T::(Hc s++F))) W::(Hc s'++F)) W':=tV.sub (dM (zV (dR _ _) _));have Ao:W'.heap[q']?=Z (.cells (bx x).toArray T (0,0)):=by
    obtain⟨j,hj⟩:=bg (show K q' (bx x) T∈bN.rest (pw w0.heap.size W (K q' (bx x) T::(Hc s++F))) W::(Hc s'++(K q' (bx x) T::F)) by simp);exact tV.get hj
   have ho:=Am s s' _ W W' hW (λr o ho hn hle=>by
    rintro⟨e,he,hb⟩;rcases bD.1 he with rfl|he
    ·cases hb
     rw[h2]at ho;cases ho;cases hn
    ·exact jd s W hW r o ho hn hle ⟨e,he,hb⟩) Zc (λb hb hn=>by
    obtain⟨e,he,hb⟩:=hb;rcases bD.1 he with rfl|he
    ·cases hb
     exact Ao.trans h2.symm
    ·exact absurd (C4 s s0 b ⟨e,he,hb⟩) hn)
   exact⟨ho,s',R6,Zc.sub (dR _ _),du Es ho.1.size⟩
  cases e with
  |normal=>
   obtain⟨h7,h8⟩:=key _ q;exact⟨h7.1,h7.2,h8⟩
  |ret=>
   obtain⟨_,q⟩:=q;obtain⟨h7,h8⟩:=key _ q;exact⟨h7.1,rfl,h8⟩
  |exit _=>exact absurd q.1 aC
  |goto _=>exact absurd q.1 aC
  |panic _=>exact absurd q.1 aC
  |outgrown=>exact absurd q.1 aC
 ·rintro akf ys W hD rfl ⟨s,hI,hW,_⟩ hd
  refine k akf s I hI _ W ⟨⟨hS.fr.size,by rw[hS.fr.defers],hS.fr.slot⟩,?_⟩;have hn:¬cH (Hc s++F) akf:=jd s W hW akf _ hd rfl hD;exact⟨hW.ch,λe he b hb=>by
   rcases bD.1 he with rfl|he
   ·cases hb
    exact⟨.inr I,(fv.1 hd).1⟩
   ·exact hW.own e he b hb,λe he w2 hs jg=>by
   rcases bD.1 he with rfl|he
   ·exact(jg akf rfl).trans hd
   ·exact hW.ok e he w2 hs jg,ew.2 ⟨λf hf b hb u1=>by cases hb;exact hn ⟨f,hf,u1⟩,hW.apart⟩⟩
 ·rintro akf c ys W hD _ ⟨rfl,s,hI,hW,_⟩ hd
  refine wpIn_ret ?_;refine k2 akf s I hI _ W ⟨⟨hS.fr.size,by rw[hS.fr.defers],hS.fr.slot⟩,?_⟩;have hn:¬cH (Hc s++F) akf:=jd s W hW akf _ hd rfl hD;exact⟨hW.ch,λe he b hb=>by
   rcases bD.1 he with rfl|he
   ·cases hb
    exact⟨.inr I,(fv.1 hd).1⟩
   ·exact hW.own e he b hb,λe he w2 hs jg=>by
   rcases bD.1 he with rfl|he
   ·exact(jg akf rfl).trans hd
   ·exact hW.ok e he w2 hs jg,ew.2 ⟨λf hf b hb u1=>by cases hb;exact hn ⟨f,hf,u1⟩,hW.apart⟩⟩
end
end
section
set_option maxHeartbeats 8000000
attribute [local irreducible] wpListIn Code.wpIn Exit.then Exit.inBlock bodyPost wpQuiet wpAnyIn wpAnyH bodyPostM j5
def WrV(_:C)(x:Int×Int)(cs:List V):Prop:=cs=rN x
structure Rf(w:C)(p R n:Nat)(nm:V)(bl:List E)(W:List Wr)(bs up jy:V):Prop where
 box:bF w p 0 [nm,U O (n:Int),U O (R:Int),bs,up,jy]
 bs:aG w bs 6 bl ed
 up:aG w up 1 ((List.range bl.length).map (cS bl)) fI
 jy:aG w jy 2 (eU W R) WrV
theorem Rf.bZ{w w':C}{p R n:Nat}{nm:V}{bl:List E}{W:List Wr}{bs up jy:V}(h:Rf w p R n nm bl W bs up jy)(hc:kg w w'):Rf w' p R n nm bl W bs up jy:=
 ⟨h.box.le hc,h.bs.le xQ hc,h.up.le lM hc,h.jy.le (λ_ _ _ _ _ h=>h) hc⟩
theorem G5(p R n:Nat)(nm:V)(bl:List E)(W:List Wr)(bs up jy:V)(w0:C)(hC:Rf w0 p R n nm bl W bs up jy)(cY:cT bl)(c_:0<bl.length)(v:cg)(hv:v.z=true->0<=v.n/\v.n<R)(b:Nat)(i:Int)(hb:gH bl (-1) 0 b):
  eP ae 137 [ar (Z ⟨p,0,A⟩),au #[D v.z,U O v.n],U O b,U O i] w0 (D (open Classical in decide (j6 bl W v b i))):=by
 classical
 obtain⟨IW,m_,hup,WW⟩:=hC;refine aM func137 rfl ntmps137 rfl (Wd.nil cX w0) ?_;obtain⟨z,vn⟩:=v;cases z with
 |false=>
  rw[decide_eq_true (show j6 bl W ⟨false,vn⟩ b i from λh=>by cases h)];simp only
  repeat(first|refine aE ?_|refine dZ λ_ _=>?_)
  exact bP rfl rfl
 |true=>
  obtain⟨h1,h2⟩:=hv rfl;simp only at h1 h2;obtain⟨r,rfl⟩:∃r:Nat,vn=r:=⟨vn.toNat,I⟩;have Lz:r<R:=I;have aiz:=WW;have ahu:=hup;obtain⟨ya,yn,yc,yb,yo,rfl,hyn,_,_,_,Fz,ahF⟩:=WW;obtain⟨ua,un,uc,_,_,rfl,_⟩:=hup;rw[kH]at hyn;have n_:a6 w0 p 0 _:=⟨IW⟩;have oW:bU ya yb yo:=⟨Fz (aL (mX (W:=W) Lz))⟩;have hlr:bY r yn:=⟨I⟩;obtain⟨_,fT,rfl⟩:=ahF r _ (mX (W:=W) Lz);have tX:a6 w0 yb (yo+r*2) [U O (yy W r).1,U O (yy W r).2]:=⟨fT⟩;simp only
  repeat(first|refine aH ?_|refine dZ λ_ _=>?_)
  rename_i p5 _;refine dQ [K p5 [D true,U O (r:Int)] 41] (λ_:Nat=>True) (λq=>[aj 9 q,aj 0 p,(2,U O b),(3,U O i)]) (λq=>[K q [U O (yy W r).1,U O (yy W r).2] 129,K p5 [D true,U O (r:Int)] 41]) mixed aK ?_ λp9 _=>?_
  ·skip
   refine ag 0 ?_;refine ag 1 ?_;refine ag 2 ?_;refine ag 3 ?_;refine ag 4 ?_;refine ag 5 ?_;refine ag 6 ?_;refine ag 7 ?_;refine cm 8 ai (NW 8 rfl aK λb4 _=>?_);refine cR 9 ai aw ?_;refine eA ai ?_;exact dS b4 trivial ap aK
  refine aH ?_;cases hwo:eC W r with
  |nil=>
   rw[decide_eq_true (Cv.2 hwo),decide_eq_false (show¬j6 bl W ⟨true,r⟩ b i from λh=>by obtain⟨x,l,e,_⟩:=h rfl;rw[hwo]at e;cases e)];refine aE ?_;exact bP rfl rfl
  |cons x l=>
   have hbr:yy W r=((x.block:Int),x.at'):=by unfold yy;rw[hwo]
   rw[hbr];simp only;rw[decide_eq_false (show¬(x.block:Int)<0 by omega)];have Kq:j6 bl W ⟨true,r⟩ b i↔(x.block=b->x.at'<i)/\(x.block≠b->jY bl x.block b):=by
    refine⟨λh=>?_,λh _=>⟨x,l,hwo,h⟩⟩;obtain⟨y,m,e,h4⟩:=h rfl;rw[hwo]at e;obtain⟨rfl,rfl⟩:=List.cons.inj e;exact h4
   refine aH ?_
   by_cases he:x.block=b
   ·rw[decide_eq_true (show(x.block:Int)=(b:Int) by omega)]
    refine aE ?_;refine bP rfl ?_;rw[decide_eq_decide.2 (show x.at'<i↔j6 bl W ⟨true,r⟩ b i from Kq.trans ⟨λh=>h.1 he,λh=>⟨λ_=>h,λhn=>absurd he hn⟩⟩|>.symm)]
   ·rw[decide_eq_false (show¬(x.block:Int)=(b:Int) by omega)]
    rw[decide_eq_decide.2 (show j6 bl W ⟨true,r⟩ b i↔jY bl x.block b from Kq.trans ⟨λh=>h.2 he,λh=>⟨λhn=>absurd hn he,λ_=>h⟩⟩)];refine aH ?_;refine dQ [K p9 [U O (x.block:Int),U O x.at'] 129] (λ_:Unit=>True) (λ_=>[(8,D (decide (jY bl x.block b)))]) (λ_=>[K p9 [U O (x.block:Int),U O x.at'] 129,K p5 [D true,U O (r:Int)] 41]) mixed aw ?_ λ_ _=>?_
    ·skip
     refine ag 0 ?_;refine ag 1 ?_;refine ag 2 ?_;refine ag 3 ?_;refine ag 4 ?_;refine ag 5 ?_;refine ag 6 ?_;refine Nd 7 rfl ai aw (λw hw=>Yo _ bl cY c_ x.block b hb w (ahu.bZ dP hw.ch)) ?_;refine ag 8 ?_;refine eA ai ?_;exact dS () trivial ap aK
    refine aH ?_;exact bP rfl rfl
theorem Hw{bl:List E}{W:List Wr}{b:Nat}{B:E}(hB:bl[b]?=Z B)(h:¬Cg bl W b B):¬tJ bl W:=λhu=>h (hu b B hB)
theorem QM(p R n:Nat)(nm:V)(bl:List E)(W:List Wr)(bs up jy:V)(w0:C)(hC:Rf w0 p R n nm bl W bs up jy)(hf:fu R bl)(hlen:bl.length<=100)(c_:0<bl.length)(hR:R<=100)(GO:∀b,b<bl.length->gH bl (-1) 0 b)(hls:∀B∈bl,∀x∈B.list,x.args.length<=100000):
  eP ae 92 [ar (Z ⟨p,0,A⟩)] w0 (D (open Classical in decide (tJ bl W))):=by
 classical
 have cY:=hf.iM;have uT:=hC.bs;obtain⟨bsv,aiy⟩:∃akj,akj=bs:=⟨_,rfl⟩;obtain⟨ba,bn,bc,_,_,afP,pR,_⟩:=hC.bs;subst afP;have ado:a6 w0 p 0 _:=⟨hC.box⟩;refine uC (S:=cX) (w0:=w0) func92 rfl ntmps92 rfl (Wd.nil cX w0) ?_
 repeat(first|refine aU ?_|refine dZ λ_ _=>?_)
 rename_i p1 _ p2 _;refine cZ (val:=λx:(Option Addr×Nat×Nat)×(Nat->Prop)=>.slice x.1.1 x.1.2.1 x.1.2.2) (akg:=λx=>[⟨x.2,λw=>aG w (J x.1.1 x.1.2.1 x.1.2.2) 1 (be bl) cN⟩]) (φ:=λ_=>True) rfl (λw hw=>fZ nm (U O (n:Int)) (U O (R:Int)) bl _ w (uT.bZ dH hw.ch) hlen cY) λx _=>?_;obtain⟨⟨ta,tn,tc⟩,tf⟩:=x;simp only[aW,aO];refine aH ?_;refine BV (λx:Nat×List Nat=>Ir x.2) (λx=>x.1<=bn/\∀b' B,b'<x.1->bl[b']?=Z B->Cg bl W b' B) (λx=>[(25,U O x.1),(24,U O bn),(23,J ba bn bc),(3,J ta tn tc),aj 2 p2,aj 1 p1]) (λx=>K p2 [D false] 4::K p1 [ar (Z ⟨p,0,A⟩)] 125::(⟨tf,λw=>aG w (J ta tn tc) 1 (be bl) cN⟩:bN)::marks x.2) (λx=>bn-x.1) (0,[]) rfl ⟨aT _,λ_ _ h=>absurd h (nS _)⟩ ?_ λx ⟨hi,cU⟩=>?_
 ·refine r4 [1,2,0] (by decide) ?_
  exact aS ap aK
 obtain⟨b,Ds⟩:=x;simp only at hi cU⊢;refine aU ?_;refine aI (λh1=>?_) (λh1=>?_)
 case refine_2=>
  obtain rfl:bn=b:=by have:=h1;simp at this;omega
  have hU:tJ bl W:=λc B hB=>cU c B (by have:=(az.1 hB).1;omega) hB;rw[decide_eq_true hU];refine aE ?_;refine bi (H1:=marks Ds++[K p2 [D true] 4,K p1 [ar (Z ⟨p,0,A⟩)] 125,(⟨tf,λw=>aG w (J ta tn tc) 1 (be bl) cN⟩:bN)]) (cP (l₁:=[K p2 [D true] 4,K p1 [ar (Z ⟨p,0,A⟩)] 125,(⟨tf,λw=>aG w (J ta tn tc) 1 (be bl) cN⟩:bN)])) ?_;exact yQ Ds rfl λw hw=>⟨rfl,hw.ch⟩
 have bS:b<bn:=ax h1;have gF:b<bl.length:=I;obtain⟨B,hB⟩:=bf bl b I;have hold:∀{b o:Nat} {v:V} {l:List V},bF w0 b o (v::l)->eS cX b:=λ_=>⟨λh=>h⟩;obtain⟨b1,o1,IP,_,wL⟩:=eE uT hold (λ_ _ h=>by obtain⟨_,_,_,e,_⟩:=h;exact⟨_,_,e⟩) (aL hB);obtain⟨_,IZ,pv,lv,tv,rfl,_,_,wj,lY,ii⟩:=wL b B hB;have hfB:=hf.block b B hB;have Pt:bY b bn:=⟨bS⟩;obtain⟨pa,pn,pc,_,_,rfl,Fs,_⟩:=id wj;obtain⟨la,ln,lc,_,_,rfl,HJ,_⟩:=id lY;obtain⟨va,vn,vc,_,_,rfl,_⟩:=id ii
 repeat(first|refine aE ?_|refine dZ λ_ _=>?_)
 rename_i p4 _ p5 _;have wP:=gu cY (λb B hB=>(hf.block b B hB).to) gF;refine fC (H1:=[K p5 [J pa pn pc,J la ln lc,U O B.kind,D B.on.z,U O B.on.n,J va vn vc] 46,K p4 [U O b] 3,K p2 [D false] 4,K p1 [ar (Z ⟨p,0,A⟩)] 125]++((⟨tf,λw=>aG w (J ta tn tc) 1 (be bl) cN⟩:bN)::marks Ds)) rfl ?_;refine nZ λw1 l9=>?_;have Jj:aG (cd (cH [K p5 [J pa pn pc,J la ln lc,U O B.kind,D B.on.z,U O B.on.n,J va vn vc] 46,K p4 [U O b] 3,K p2 [D false] 4,K p1 [ar (Z ⟨p,0,A⟩)] 125]) w1) (J ta tn tc) 1 (be bl) cN:=l9.beside (e:=(⟨tf,λw=>aG w (J ta tn tc) 1 (be bl) cN⟩:bN)) aC;have back:∀{akg:List bN} {w:C},Wd (cH [K p5 [J pa pn pc,J la ln lc,U O B.kind,D B.on.z,U O B.on.n,J va vn vc] 46,K p4 [U O b] 3,K p2 [D false] 4,K p1 [ar (Z ⟨p,0,A⟩)] 125]) (cd (cH [K p5 [J pa pn pc,J la ln lc,U O B.kind,D B.on.z,U O B.on.n,J va vn vc] 46,K p4 [U O b] 3,K p2 [D false] 4,K p1 [ar (Z ⟨p,0,A⟩)] 125]) w1) akg w->Wd cX w0 (akg++((⟨tf,λw=>aG w (J ta tn tc) 1 (be bl) cN⟩:bN)::marks Ds)) w:=λhw=>l9.comp hw.nk;have Lq:∀{akg:List bN} {w:C},Wd (cH [K p5 [J pa pn pc,J la ln lc,U O B.kind,D B.on.z,U O B.on.n,J va vn vc] 46,K p4 [U O b] 3,K p2 [D false] 4,K p1 [ar (Z ⟨p,0,A⟩)] 125]) (cd (cH [K p5 [J pa pn pc,J la ln lc,U O B.kind,D B.on.z,U O B.on.n,J va vn vc] 46,K p4 [U O b] 3,K p2 [D false] 4,K p1 [ar (Z ⟨p,0,A⟩)] 125]) w1) akg w->kg (cd (cH [K p5 [J pa pn pc,J la ln lc,U O B.kind,D B.on.z,U O B.on.n,J va vn vc] 46,K p4 [U O b] 3,K p2 [D false] 4,K p1 [ar (Z ⟨p,0,A⟩)] 125]) w1) w:=λhw=>hw.pW;have nw:∀{c o:Nat} {v:V} {l:List V},bF (cd (cH [K p5 [J pa pn pc,J la ln lc,U O B.kind,D B.on.z,U O B.on.n,J va vn vc] 46,K p4 [U O b] 3,K p2 [D false] 4,K p1 [ar (Z ⟨p,0,A⟩)] 125]) w1) c o (v::l)->eS (cH [K p5 [J pa pn pc,J la ln lc,U O B.kind,D B.on.z,U O B.on.n,J va vn vc] 46,K p4 [U O b] 3,K p2 [D false] 4,K p1 [ar (Z ⟨p,0,A⟩)] 125]) c:=λhc=>iF hc aC;have hle:=kg.ch l9.NG;have Y_:=hC.bZ hle;have aea:=wj.le zd hle;generalize cd (cH [K p5 [J pa pn pc,J la ln lc,U O B.kind,D B.on.z,U O B.on.n,J va vn vc] 46,K p4 [U O b] 3,K p2 [D false] 4,K p1 [ar (Z ⟨p,0,A⟩)] 125]) w1=wk at*;generalize cH [K p5 [J pa pn pc,J la ln lc,U O B.kind,D B.on.z,U O B.on.n,J va vn vc] 46,K p4 [U O b] 3,K p2 [D false] 4,K p1 [ar (Z ⟨p,0,A⟩)] 125]=SS at*;have afU:a6 wk p 0 _:=⟨Y_.box⟩;have agV:=nw Y_.box;refine bL (λj:Nat=>j<=pn/\∀j' q,j'<j->B.aD[j']?=Z q->Gd bl W b q (aZ bl b).length) (λj=>[(33,U O j),(32,U O pn),(31,J pa pn pc),aj 5 p5,aj 4 p4,(25,U O b),(24,U O bn),(23,J ba bn bc),(3,J ta tn tc),aj 2 p2,aj 1 p1]) (λ_=>[K p5 [J pa pn pc,J la ln lc,U O B.kind,D B.on.z,U O B.on.n,J va vn vc] 46,K p4 [U O b] 3,K p2 [D false] 4,K p1 [ar (Z ⟨p,0,A⟩)] 125]) (λj=>pn-j) 0 ⟨aT _,λ_ _ h=>absurd h (nS _)⟩ (aS ap aK) λj ⟨hj,SV⟩=>?_;refine aU ?_;refine aI (λh2=>?_) (λh2=>?_)
 ·have jw:j<pn:=ax h2
  obtain⟨q,hq⟩:=bf B.aD j I;obtain⟨b2,o2,uR,agY,yW⟩:=eE aea nw (λ_ _ h=>by obtain⟨_,e,_⟩:=h;exact⟨_,_,e⟩) (aL hq);obtain⟨_,tX,sv,rfl,_,ny⟩:=yW j q hq;have hqP:=hfB.aD q (aq hq);have agG:bY j pn:=⟨jw⟩;obtain⟨sa,sn,sc,_,_,rfl,hsn,_⟩:=id ny
  repeat(first|refine aE ?_|refine dZ λ_ _=>?_)
  rename_i p7 _;have ah8:=hqP.len;refine bL (λi:Nat=>i<=sn/\Gd bl W b q i) (λi=>[(40,U O i),(39,U O sn),(38,J sa sn sc),aj 7 p7,(33,U O j),(32,U O pn),(31,J pa pn pc),aj 5 p5,aj 4 p4,(25,U O b),(24,U O bn),(23,J ba bn bc),(3,J ta tn tc),aj 2 p2,aj 1 p1]) (λ_=>[K p7 [U O q.dst,J sa sn sc] 49,K p5 [J pa pn pc,J la ln lc,U O B.kind,D B.on.z,U O B.on.n,J va vn vc] 46,K p4 [U O b] 3,K p2 [D false] 4,K p1 [ar (Z ⟨p,0,A⟩)] 125]) (λi=>sn-i) 0 ⟨aT _,λ_ _ _ _ h=>absurd h (nS _)⟩ (aS ap aK) λi ⟨W8,hpu⟩=>?_;refine aU ?_;refine aI (λh3=>?_) (λh3=>?_)
  ·have iJ:i<sn:=ax h3
   obtain⟨v,hv⟩:=bf q.src i I;obtain⟨b3,o3,Li,xg,C3⟩:=eE ny nw (λ_ _ h=>⟨_,_,h.1⟩) (aL hv);obtain⟨_,I0,rfl,_⟩:=C3 i v hv;have abe:bY i sn:=⟨iJ⟩;obtain⟨a,ha⟩:=bf (aZ bl b) i I;have zM:a<bl.length:=by have h9:=aq ha;unfold aZ at h9;exact cM.1 (cC.1 h9).1
   obtain⟨aka,hA⟩:=bf bl a zM;obtain⟨b4,o4,afy,y6,af7⟩:=eE Jj nw (λ_ _ h=>by obtain⟨_,e,_⟩:=h;exact⟨_,_,e⟩) (aL wP);obtain⟨_,afR,rv,rfl,y7⟩:=af7 b _ wP;obtain⟨ra,rn,rc,_,_,rfl,yj,_⟩:=id y7;obtain⟨b6,o6,aij,ah4,af8⟩:=eE y7 nw (λ_ _ h=>⟨_,_,h.1⟩) (aL (i:=i) (x:=(a:Int)) (by rw[aJ,ha];rfl));obtain⟨_,aiB,rfl,_⟩:=af8 i (a:Int) (by rw[aJ,ha];rfl);obtain⟨b7,o7,ac2,ZF,Su⟩:=eE Y_.bs nw (λ_ _ h=>by obtain⟨_,_,_,e,_⟩:=h;exact⟨_,_,e⟩) (aL hA);obtain⟨_,adj,apv,alv,atv,rfl,_,_,_,afD,_⟩:=Su a aka hA;obtain⟨ala,aln,alc,_,_,rfl,afE,_⟩:=id afD;have ajL:rn=(aZ bl b).length:=by rw[yj,aF]
   have ajb:bY i rn:=⟨I⟩;have ajc:bY a bn:=⟨I⟩;have ajd:bY b tn:=⟨by rw[Jj.at.1];exact(az.1 wP).1⟩
   repeat(first|refine aE ?_|refine dZ λ_ _=>?_)
   rename_i p9 _;refine dQ [K p9 [D v.z,U O v.n] 41,K p7 [U O q.dst,J sa sn sc] 49,K p5 [J pa pn pc,J la ln lc,U O B.kind,D B.on.z,U O B.on.n,J va vn vc] 46,K p4 [U O b] 3,K p2 [D false] 4,K p1 [ar (Z ⟨p,0,A⟩)] 125] (λ_:Unit=>True) (λ_=>[(66,D (!decide (j6 bl W v a aka.list.length))),(40,U O i),(39,U O sn),(38,J sa sn sc),aj 7 p7,(33,U O j),(32,U O pn),(31,J pa pn pc),aj 5 p5,aj 4 p4,(25,U O b),(24,U O bn),(23,J ba bn bc),(3,J ta tn tc),aj 2 p2,aj 1 p1]) (λ_=>[K p9 [D v.z,U O v.n] 41,K p7 [U O q.dst,J sa sn sc] 49,K p5 [J pa pn pc,J la ln lc,U O B.kind,D B.on.z,U O B.on.n,J va vn vc] 46,K p4 [U O b] 3,K p2 [D false] 4,K p1 [ar (Z ⟨p,0,A⟩)] 125]) mixed aK ?_ λ_ _=>?_
   ·skip
    refine ag 0 ?_;refine ag 1 ?_;refine ag 2 ?_;refine ag 3 ?_;refine ag 4 ?_;refine ag 5 ?_;refine ag 6 ?_;refine ag 7 ?_;refine ag 8 ?_;refine ag 9 ?_;refine ag 10 ?_;refine ag 11 ?_;refine ag 12 ?_;rw[afE];refine Nd 13 rfl ai aK (λw hw=>G5 p R n nm bl W _ up jy w (Y_.bZ (Lq hw)) cY c_ v (hqP.uJ v (aq hv)) a aka.list.length (GO a zM)) ?_;refine ag 14 ?_;refine eA ai ?_;exact dS () trivial ap aK
   by_cases hk:j6 bl W v a aka.list.length
   ·rw[decide_eq_true hk]
    refine aH ?_;exact bj (i+1) ⟨iJ,λi' a' v' A' yY ha' PA WG=>by
     by_cases e:i'=i
     ·subst e
      rw[ha]at ha';rw[hv]at PA;obtain rfl:=a7 ha';obtain rfl:=a7 PA;rw[hA]at WG;obtain rfl:=a7 WG;exact hk
     ·exact hpu i' a' v' A' I ha' PA WG⟩ I ap (.cons _ (.refl _))
   ·have oB:¬tJ bl W:=Hw hB λh=>hk ((h.aD q (aq hq)) i a v aka I ha hv hA)
    rw[decide_eq_false hk,decide_eq_false oB];refine mD back ?_;simp only[aW,aO];refine aE ?_;refine bi (H1:=marks Ds++[K p9 [D v.z,U O v.n] 41,K p7 [U O q.dst,J sa sn sc] 49,K p5 [J pa pn pc,J la ln lc,U O B.kind,D B.on.z,U O B.on.n,J va vn vc] 46,K p4 [U O b] 3,K p2 [D false] 4,K p1 [ar (Z ⟨p,0,A⟩)] 125,(⟨tf,λw=>aG w (J ta tn tc) 1 (be bl) cN⟩:bN)]) (cP (l₁:=[K p9 [D v.z,U O v.n] 41,K p7 [U O q.dst,J sa sn sc] 49,K p5 [J pa pn pc,J la ln lc,U O B.kind,D B.on.z,U O B.on.n,J va vn vc] 46,K p4 [U O b] 3,K p2 [D false] 4,K p1 [ar (Z ⟨p,0,A⟩)] 125,(⟨tf,λw=>aG w (J ta tn tc) 1 (be bl) cN⟩:bN)])) ?_;exact yQ Ds rfl λw hw=>⟨rfl,hw.ch⟩
  ·refine aE ?_
   exact bj (j+1) ⟨jw,λj' q' h hq'=>by
    by_cases e:j'=j
    ·subst e
     rw[hq]at hq';obtain rfl:=a7 hq';have hie:i=(aZ bl b).length:=by have:=h3;simp at this;omega
     rw[<-hie];exact hpu
    ·exact SV j' q' I hq'⟩ I ap (.cons _ (.refl _))
 have ag2:∀q∈B.aD,Gd bl W b q (aZ bl b).length:=λq hq=>by
  obtain⟨j',Nn⟩:=bg hq;exact SV j' q (by have:=(az.1 Nn).1;have:=h2;simp at this;omega) Nn
 refine mD back ?_;simp only[aW,aO];clear Y_ aea afU agV Jj Lq nw hle back l9 SV;refine aE ?_;refine BV (λx:Nat×List Nat=>Ir x.2) (λx=>x.1<=ln/\∀k' y,k'<x.1->B.list[k']?=Z y->Kz bl W b k' y) (λx=>[(72,U O x.1),(71,U O ln),(70,J la ln lc),aj 5 p5,aj 4 p4,(25,U O b),(24,U O bn),(23,J ba bn bc),(3,J ta tn tc),aj 2 p2,aj 1 p1]) (λx=>K p5 [J pa pn pc,J la ln lc,U O B.kind,D B.on.z,U O B.on.n,J va vn vc] 46::K p4 [U O b] 3::K p2 [D false] 4::K p1 [ar (Z ⟨p,0,A⟩)] 125::(⟨tf,λw=>aG w (J ta tn tc) 1 (be bl) cN⟩:bN)::marks x.2) (λx=>ln-x.1) (0,Ds) rfl ⟨aT _,λ_ _ h=>absurd h (nS _)⟩ (aS ap aK) λx ⟨hki,SG⟩=>?_;obtain⟨k,Ds⟩:=x;simp only at hki SG⊢;refine aU ?_;refine aI (λh3=>?_) (λh3=>?_)
 case refine_2=>
  obtain rfl:ln=k:=by have:=h3;simp at this;omega
  have lq:∀(i:Nat) x,B.list[i]?=Z x->Kz bl W b i x:=λi x hx=>SG i x (by have:=(az.1 hx).1;omega) hx;refine aE ?_;refine bB rfl (λw hw=>G5 p R n nm bl W _ up jy w (hC.bZ (kg.ch hw.ch)) cY c_ B.on hfB.on b ln (GO b gF)) ?_
  by_cases hk:j6 bl W B.on b ln
  ·rw[decide_eq_true hk]
   refine aH ?_;exact yP (b+1,Ds) rfl ⟨bS,λb' B' h sZ=>by
    by_cases e:b'=b
    ·subst e
     rw[hB]at sZ;obtain rfl:=a7 sZ;exact⟨ag2,lq,by rw[<-HJ];exact hk⟩
    ·exact cU b' B' I sZ⟩ bK ap (.cons _ (.cons _ (.refl _)))
  ·have oB:¬tJ bl W:=Hw hB λh=>hk (by rw[HJ];exact h.on)
   rw[decide_eq_false hk,decide_eq_false oB];refine aE ?_;refine bi (H1:=marks Ds++[K p5 [J pa pn pc,J la ln lc,U O B.kind,D B.on.z,U O B.on.n,J va vn vc] 46,K p4 [U O b] 3,K p2 [D false] 4,K p1 [ar (Z ⟨p,0,A⟩)] 125,(⟨tf,λw=>aG w (J ta tn tc) 1 (be bl) cN⟩:bN)]) (cP (l₁:=[K p5 [J pa pn pc,J la ln lc,U O B.kind,D B.on.z,U O B.on.n,J va vn vc] 46,K p4 [U O b] 3,K p2 [D false] 4,K p1 [ar (Z ⟨p,0,A⟩)] 125,(⟨tf,λw=>aG w (J ta tn tc) 1 (be bl) cN⟩:bN)])) ?_;exact yQ Ds rfl λw hw=>⟨rfl,hw.ch⟩
 have u2:k<ln:=ax h3;obtain⟨y,hy⟩:=bf B.list k I;obtain⟨b3,o3,Li,xg,C3⟩:=eE lY hold (λ_ _ h=>by obtain⟨_,e,_⟩:=h;exact⟨_,_,e⟩) (aL hy);obtain⟨_,I0,av,rfl,_,_,_,_,_,Ag⟩:=C3 k y hy;have hyO:=hfB.list y (aq hy);have Dm:=hls B (aq hB) y (aq hy);have abe:bY k ln:=⟨u2⟩;obtain⟨aa,an,ac,_,_,rfl,_⟩:=id Ag
 repeat(first|refine aE ?_|refine dZ λ_ _=>?_)
 rename_i VY _ nL _;refine cZ (val:=λq:Nat=>.func (.func 164) #[] #[ar (Z ⟨q,0,A⟩)]) (akg:=λq=>[K q [U O y.op,U O y.dst,D y.a.z,U O y.a.n,D y.b.z,U O y.b.n,U O y.fn,J aa an ac] 56]) (φ:=λ_=>True) rfl (λw hw=>Vv y _ ⟨_,_,_,rfl⟩ w) λbp _=>?_;simp only[aW,aO];refine aH ?_;obtain⟨xs,nK⟩:∃xs:List {v:cg//v∈j3 y},xs.map (·.1)=j3 y:=⟨(j3 y).attach,List.attach_map_subtype_val _⟩;refine jQ (L':=[(78,.func (.func 164) #[] #[ar (Z ⟨bp,0,A⟩)]),aj 12 nL,aj 11 VY,(72,U O k),(71,U O ln),(70,J la ln lc),aj 5 p5,aj 4 p4,(25,U O b),(24,U O bn),(23,J ba bn bc),(3,J ta tn tc),aj 2 p2,aj 1 p1]) ap (.refl _) ?_;refine RY (α:={v:cg//v∈j3 y}) (gf:=164) (lb:=[ar (Z ⟨bp,0,A⟩)]) (K bp [U O y.op,U O y.dst,D y.a.z,U O y.a.n,D y.b.z,U O y.b.n,U O y.fn,J aa an ac] 56::K nL [U O y.op,U O y.dst,D y.a.z,U O y.a.n,D y.b.z,U O y.b.n,U O y.fn,J aa an ac] 56::K VY [U O k] 3::K p5 [J pa pn pc,J la ln lc,U O B.kind,D B.on.z,U O B.on.n,J va vn vc] 46::K p4 [U O b] 3::K p2 [D false] 4::K p1 [ar (Z ⟨p,0,A⟩)] 125::(⟨tf,λw=>aG w (J ta tn tc) 1 (be bl) cN⟩:bN)::marks Ds) (λ_:Unit=>[]) () (λ_=>⟨by intro e he;cases he⟩) (λ_ _ _ h=>h) xs
  (encs:=λv=>#[au #[D v.1.z,U O v.1.n]]) (Bs:=bp) (bcs:=[U O y.op,U O y.dst,D y.a.z,U O y.a.n,D y.b.z,U O y.b.n,U O y.fn,J aa an ac]) (bt:=56) aC
  (λw1 l9=>?_) (λpre _=>∀v∈pre,j6 bl W v.1 b k) (¬tJ bl W) aC (.refl _) (λ_=>rfl) (λv=>[D v.1.z,U O v.1.n]) 41
  (λv=>[(79,au #[D v.1.z,U O v.1.n]),aj 12 nL,aj 11 VY,(72,U O k),(71,U O ln),(70,J la ln lc),aj 5 p5,aj 4 p4,(25,U O b),(24,U O bn),(23,J ba bn bc),(3,J ta tn tc),aj 2 p2,aj 1 p1]) (λv q=>[aj 13 q,aj 12 nL,aj 11 VY,(72,U O k),(71,U O ln),(70,J la ln lc),aj 5 p5,aj 4 p4,(25,U O b),(24,U O bn),(23,J ba bn bc),(3,J ta tn tc),aj 2 p2,aj 1 p1]) (λv a h=>?_) (λl v s RR=>?_) (λl pre v s q RR hI bS=>?_) (λakf s2 hD hI=>?_) (λakf s2 hD hI=>?_)
 ·intro l aj8 Jx W1 hW1 hJ WJ hY h0
  have Dc:∀c,cH ([]++(K bp [U O y.op,U O y.dst,D y.a.z,U O y.a.n,D y.b.z,U O y.b.n,U O y.fn,J aa an ac] 56::K nL [U O y.op,U O y.dst,D y.a.z,U O y.a.n,D y.b.z,U O y.b.n,U O y.fn,J aa an ac] 56::K VY [U O k] 3::K p5 [J pa pn pc,J la ln lc,U O B.kind,D B.on.z,U O B.on.n,J va vn vc] 46::K p4 [U O b] 3::K p2 [D false] 4::K p1 [ar (Z ⟨p,0,A⟩)] 125::(⟨tf,λw=>aG w (J ta tn tc) 1 (be bl) cN⟩:bN)::marks Ds)) c->(cX c∨w0.heap.size<=c)/\c<w1.heap.size:=λc ⟨e,he,hb⟩=>l9.own e he c hb;have hkz:∀p v,w0.cell? p=Z v->w1.cell? p=Z v:=l9.ch.cells;have h9:=Ow (α:={v:cg//v∈j3 y}) (λv=>v.1) y aa an ac xs nK Dm l bp _ w0 Ag (λp v hp h=>(Dc _ h.1).1.elim (λh=>h) λh2=>by have:=World.block_lt_of_cell? w0 p hp;omega) (λh=>h.2 rfl) W1 (λc hc h=>by have:=(Dc c h.1).2;have:=hW1.size;omega) aj8 Jx _ hJ WJ hY (λp v hp=>by
   have h3:=hkz p v hp;exact(hW1.cell (World.block_lt_of_cell? w1 _ h3)).trans h3) (λj v hj=>by
   have h3:w1.cell? ⟨bp,0+j,A⟩=Z v:=l9.gL bp j v hj;exact(hW1.cell (World.block_lt_of_cell? w1 _ h3)).trans h3) h0
  exact yA (CallsIn.mono h9 λe w' ⟨v,he,hh⟩=>⟨⟨v,he⟩,hh⟩)
 ·have h9:=(h.to (L':=[aj 12 nL,aj 11 VY,(72,U O k),(71,U O ln),(70,J la ln lc),aj 5 p5,aj 4 p4,(25,U O b),(24,U O bn),(23,J ba bn bc),(3,J ta tn tc),aj 2 p2,aj 1 p1]) ap).eo (d:=79) rfl (au #[D v.1.z,U O v.1.n])
  have e:(#[79].zip #[au #[D v.1.z,U O v.1.n]]).foldl (λ(t:Array V) (q:Tmp×V)=>t.setIfInBounds q.1 q.2) a.tmps=a.tmps.setIfInBounds 79 (au #[D v.1.z,U O v.1.n]):=by simp
  refine⟨Eq.trans (congrArg Array.size e) h9.size,rfl,λp hp=>?_⟩;exact Eq.trans (congrArg (λt:Array V=>t[p.1]?) e) (h9.slot p hp)
 ·simp only[aO]
  repeat(first|refine aE ?_|refine dZ λ_ _=>?_)
  exact Gz _ ap aK
 ·simp only[aO]
  refine aH ?_;refine bB rfl (λw hw=>G5 p R n nm bl W _ up jy w (hC.bZ (kg.ch hw.ch)) cY c_ v.1 (hyO.uJ v.1 v.2) b k (GO b gF)) ?_
  by_cases hk:j6 bl W v.1 b k
  ·rw[decide_eq_true hk]
   refine aH ?_;refine IC () (λv' PA=>?_) (.refl _);rcases bA.1 PA with h|h
   ·exact hI v' h
   ·rw[bR.1 h]
    exact hk
  ·rw[decide_eq_false hk]
   refine aE ?_;refine aaz () (Hw hB λh=>hk (h.list k y hy v.1 v.2)) (.refl _)
 ·simp only[aO]
  refine aH ?_;refine bi (H1:=[K bp [U O y.op,U O y.dst,D y.a.z,U O y.a.n,D y.b.z,U O y.b.n,U O y.fn,J aa an ac] 56,K nL [U O y.op,U O y.dst,D y.a.z,U O y.a.n,D y.b.z,U O y.b.n,U O y.fn,J aa an ac] 56,K VY [U O k] 3,K p5 [J pa pn pc,J la ln lc,U O B.kind,D B.on.z,U O B.on.n,J va vn vc] 46,K p4 [U O b] 3,K p2 [D false] 4,K p1 [ar (Z ⟨p,0,A⟩)] 125,(⟨tf,λw=>aG w (J ta tn tc) 1 (be bl) cN⟩:bN)]++bN.mark akf::marks Ds) (lD (l₁:=[K bp [U O y.op,U O y.dst,D y.a.z,U O y.a.n,D y.b.z,U O y.b.n,U O y.fn,J aa an ac] 56,K nL [U O y.op,U O y.dst,D y.a.z,U O y.a.n,D y.b.z,U O y.b.n,U O y.fn,J aa an ac] 56,K VY [U O k] 3,K p5 [J pa pn pc,J la ln lc,U O B.kind,D B.on.z,U O B.on.n,J va vn vc] 46,K p4 [U O b] 3,K p2 [D false] 4,K p1 [ar (Z ⟨p,0,A⟩)] 125,(⟨tf,λw=>aG w (J ta tn tc) 1 (be bl) cN⟩:bN)])).symm ?_;simp only[aW,aO];refine yP (k+1,akf::Ds) rfl ⟨u2,λk' y' h VV v hv=>?_⟩ bK ap aw
  by_cases e:k'=k
  ·subst e
   rw[hy]at VV;obtain rfl:=a7 VV;rw[<-nK]at hv;obtain⟨v',PA,rfl⟩:=aV.1 hv;exact hI v' PA
  ·exact SG k' y' (by simp only at h;omega) VV v hv
 ·rw[decide_eq_false hI]
  simp only[aO];refine aE ?_;refine bi (H1:=marks (akf::Ds)++[K bp [U O y.op,U O y.dst,D y.a.z,U O y.a.n,D y.b.z,U O y.b.n,U O y.fn,J aa an ac] 56,K nL [U O y.op,U O y.dst,D y.a.z,U O y.a.n,D y.b.z,U O y.b.n,U O y.fn,J aa an ac] 56,K VY [U O k] 3,K p5 [J pa pn pc,J la ln lc,U O B.kind,D B.on.z,U O B.on.n,J va vn vc] 46,K p4 [U O b] 3,K p2 [D false] 4,K p1 [ar (Z ⟨p,0,A⟩)] 125,(⟨tf,λw=>aG w (J ta tn tc) 1 (be bl) cN⟩:bN)]) (List.Perm.cons _ (cP (l₁:=[K bp [U O y.op,U O y.dst,D y.a.z,U O y.a.n,D y.b.z,U O y.b.n,U O y.fn,J aa an ac] 56,K nL [U O y.op,U O y.dst,D y.a.z,U O y.a.n,D y.b.z,U O y.b.n,U O y.fn,J aa an ac] 56,K VY [U O k] 3,K p5 [J pa pn pc,J la ln lc,U O B.kind,D B.on.z,U O B.on.n,J va vn vc] 46,K p4 [U O b] 3,K p2 [D false] 4,K p1 [ar (Z ⟨p,0,A⟩)] 125,(⟨tf,λw=>aG w (J ta tn tc) 1 (be bl) cN⟩:bN)]))) ?_;exact yQ (akf::Ds) rfl λw hw=>⟨rfl,hw.ch⟩
end
end Go.Proofs.YthfhgolkafpmnaaGreatDoor
