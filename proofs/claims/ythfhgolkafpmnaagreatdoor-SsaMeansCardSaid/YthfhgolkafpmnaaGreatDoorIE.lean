/- Texts joined: Namer Names. -/
import Derived.Test.YthfhgolkafpmnaaGreatDoorID
namespace Go.Proofs.YthfhgolkafpmnaaGreatDoor
open Go.Value renaming int->U,slice->J,pointer->ar,string->G,bool->D,agg->au
open Go.IntKind renaming i64->O
open Option renaming some->Z,none->A
open Go renaming Value->V,World->C
open Go.Proofs.Tryz
open Go.Proofs.Tryz renaming prog->ae
open Go Go.RowKit
section
set_option maxHeartbeats 8000000
attribute [local irreducible] wpListIn Code.wpIn Exit.then Exit.inBlock bodyPost wpQuiet wpAnyIn wpAnyH bodyPostM j5
def gV(q b R:Nat)(l:List Int):bN:=K q [J (Z ⟨b,0,A⟩) R R,U O (l.length:Int)] 153
def dj(b R:Nat)(l:List Int):bN:=M (Z ⟨b,0,A⟩) R R 3 1 ((xT R l).map (U O))
theorem TT(l:List Int)(r:Int)(h:r∉l):(iZ l r).length=l.length+1:=by unfold iZ;rw[if_neg h];simp
theorem tj(q b R r:Nat)(l:List Int)(hr:r<R)(hl:l.length<=1000000)(w:C)(hw:Wd (cH [gV q b R l,dj b R l]) w [gV q b R l,dj b R l] w):
  iC ae 113 [ar (Z ⟨q,0,A⟩),U O (r:Int)] w λu w'=>∃_x:Unit,u=U O (fE (iZ l r) r)/\Wd (cH [gV q b R l,dj b R l]) w [gV q b R (iZ l r),dj b R (iZ l r)] w'/\True:=by
 refine aM func113 rfl ntmps113 rfl hw ?_;generalize cH [gV q b R l,dj b R l]=SS;have lY:bY r R:=⟨hr⟩;have oX:∀m:List Int,Rs ((xT R m).map (U O)) (r*1) (U O (if (r:Int)∈m then fE m r else -1)):=λm=>⟨by rw[f_,aJ,zi hr];rfl⟩;have ac9:=oX l;have afH:=oX (iZ l r);rw[if_pos (rz.2 (.inr rfl))]at afH;unfold gV dj
 by_cases hm:(r:Int)∈l
 ·rw[if_pos hm]at ac9
  rw[B8 hm];have h0:=pq hm;refine aH ?_;rw[show decide (fE l r<0)=false by simp;omega]
  skip
  exact cE rfl λw hw=>⟨(),rfl,hw,trivial⟩
 ·rw[if_neg hm]at ac9
  refine aH ?_;rw[show decide ((-1:Int)<0)=true by decide]
  skip
  have nK:mV ((xT R l).map (U O)) (r*1) (U O (l.length:Int)) ((xT R (iZ l r)).map (U O)):=⟨by rw[f_,<-eM,P7 hm],by rw[aF,vJ];omega⟩;refine dQ [K q [J (Z ⟨b,0,A⟩) R R,U O (l.length:Int)] 153] (λ_:Unit=>True) (λ_=>[aj 0 q,(1,U O (r:Int))]) (λ_=>[K q [J (Z ⟨b,0,A⟩) R R,U O (l.length:Int)] 153,M (Z ⟨b,0,A⟩) R R 3 1 ((xT R (iZ l r)).map (U O))]) mixed aw ?_ λ_ _=>?_
  ·skip
   refine ag 0 ?_;refine ag 1 ?_;refine ag 2 ?_;refine ag 3 ?_;refine ag 4 ?_;refine ag 5 ?_;refine ag 6 ?_;refine ag 7 ?_;refine ag 8 ?_;refine ag 9 ?_;refine cm 10 ai (mG 10 aw ?_);refine eA ai ?_;exact dS () trivial ap aK
  refine aE ?_;exact cE rfl λw hw=>⟨(),rfl,by rw[TT l r hm,show((l.length+1:Nat):Int)=(l.length:Int)+1 by omega];exact hw,trivial⟩
theorem ur(q b R:Nat)(v:cg)(l:List Int)(hv:jb R v)(hl:l.length<=1000000)(w:C)(hw:Wd (cH [gV q b R l,dj b R l]) w [gV q b R l,dj b R l] w):
  iC ae 114 [ar (Z ⟨q,0,A⟩),au #[D v.z,U O v.n]] w λu w'=>∃_x:Unit,u=au #[D (cu (meets l (eG v)) v).z,U O (cu (meets l (eG v)) v).n]/\Wd (cH [gV q b R l,dj b R l]) w [gV q b R (meets l (eG v)),dj b R (meets l (eG v))] w'/\True:=by
 obtain⟨z,k⟩:=v;refine aM func114 rfl ntmps114 rfl hw ?_;obtain⟨SS,Fj⟩:∃SS,SS=cH [gV q b R l,dj b R l]:=⟨_,rfl⟩;rw[<-Fj];cases z with
 |false=>
  have e1:meets l (eG ⟨false,k⟩)=l:=rfl;have e2:cu l ⟨false,k⟩=⟨false,k⟩:=rfl;rw[e1,e2]
  repeat(first|refine aE ?_|refine dZ λ_ _=>?_)
  exact gw rfl λw hw=>⟨(),rfl,hw.sub aC,trivial⟩
 |true=>
  obtain⟨h1,h2⟩:=hv rfl;simp only at h1 h2;obtain⟨r,rfl⟩:∃r:Nat,k=r:=⟨k.toNat,I⟩;have e1:meets l (eG ⟨true,r⟩)=iZ l r:=rfl;have e2:cu (iZ l r) ⟨true,r⟩=⟨true,fE (iZ l r) r⟩:=rfl;rw[e1,e2];simp only
  repeat(first|refine aH ?_|refine dZ λ_ _=>?_)
  rename_i p3 _ p4 _;refine bi (H1:=[gV q b R l,dj b R l]++[K p4 [D false,U O 0] 41,K p3 [D true,U O (r:Int)] 41]) (cP (l₁:=[K p4 [D false,U O 0] 41,K p3 [D true,U O (r:Int)] 41])) ?_;refine fK (val:=λ_:Unit=>.int O (fE (iZ l r) r)) (akg:=λ_=>[gV q b R (iZ l r),dj b R (iZ l r)]) (φ:=λ_=>True) rfl (λw hw=>tj q b R r l I hl w hw.pre) λ_ _=>?_;simp only[aW,aO];refine aE ?_;exact gw rfl λw hw=>⟨(),rfl,hw.sub aC,trivial⟩
theorem Qm(b0 o0:Nat)(akj:Int)(w:C)(hx:w.cell? ⟨b0,o0,A⟩=Z (U O akj)):
  iC ae 108 [J (Z ⟨b0,o0,A⟩) 1 1,U O 0] w λu w'=>∃a:Nat,u=J (Z ⟨a,0,A⟩) 0 0/\Wd cX w [M (Z ⟨a,0,A⟩) 0 0 3 1 []] w'/\True:=by
 refine aM func108 rfl ntmps108 rfl (Wd.nil cX w) ?_;refine aH ?_;refine qg rfl rfl ?_;refine aU ?_;refine qg rfl rfl ?_;refine bB rfl (λw' _=>NL 1 0 I I I w') ?_;rw[Nat.mul_zero];refine aE ?_;rw[show decide ((9223372036854775807:Int)<((0:Nat):Int))=false by decide,show decide ((0:Int)<0)=false from rfl];refine aH ?_;refine qg rfl ?_ ?_
 ·rw[IntKind.wrap_i64];omega
 repeat(first|refine aU ?_|refine dZ λ_ _=>?_)
 rename_i a _;refine Gy (b:=a) (o:=0) (off:=0) 0 ([]:List V) rfl rfl aC (λw' hw j v hj=>by simp at hj) aC (λv hv=>by cases hv) ?_;simp only[List.replicate_zero,bW];refine aH ?_;refine bL (λ(_:Unit)=>True) (λ_=>[(8,U O 0),(7,J (Z ⟨a,0,A⟩) 0 0)]) (λ_=>[M (Z ⟨a,0,A⟩) 0 0 3 1 []]) (λ_=>0) () trivial (aS ap aK) λ_ _=>?_;refine aE ?_;exact cE rfl λw hw=>⟨a,rfl,hw,trivial⟩
theorem Qn(b0 o0 n:Nat)(akj:Int)(w:C)(hx:w.cell? ⟨b0,o0,A⟩=Z (U O akj))(hn:n<=100000):
  iC ae 108 [J (Z ⟨b0,o0,A⟩) 1 1,U O n] w λu w'=>∃a:Nat,u=J (Z ⟨a,0,A⟩) n n/\Wd cX w [M (Z ⟨a,0,A⟩) n n 3 1 (List.replicate n (U O akj))] w'/\True:=by
 rcases Nat.eq_zero_or_pos n with e|e
 ·subst e
  exact Qm b0 o0 akj w hx
 ·exact DP b0 o0 n akj w hx e hn
theorem wG{R:Nat}{v:cg}(h:∀r∈eG v,0<=r/\r<R):jb R v:=λhv=>h v.n (by unfold eG;rw[if_pos hv];simp)
structure Rk(X:aY)(R:Nat):Prop where
 aB:X.aB=R
 le:R<=100000
 ok:fu R X.blocks
 pos:0<X.blocks.length
 par:0<=X.params/\X.params<=R
 QW:∀B∈X.blocks,∀x∈B.list,∃fs,eu fs X.aB x=0
theorem jF.big{X:aY}{R:Nat}(h:jF X R):Rk X R:=⟨h.aB,by have:=h.le;omega,h.ok,h.pos,h.par,h.QW⟩
theorem Dx(X:aY)(R:Nat)(hX:Rk X R)(hlen:X.blocks.length<=100)(o_:dk X.params)(w0:C):E0 w0 68 [] [] en X:=by
 classical
 obtain⟨xn,xp,xr,xb⟩:=X;have Nb:=hX.aB;have hR:=hX.le;have hf:=hX.ok;have c_:=hX.pos;have Lu:=hX.par;have aeB:=hX.QW;simp only at Nb hlen o_ hf c_ Lu aeB;subst Nb;intro a c bs wb m_ r5 IY GJ hw;simp only at m_;subst m_;have gF:bs.length<=100:=by rw[aF]at hlen;exact hlen
 have hg:=hf.iM;have hk:=kt hg c_;have Ep:(bI (bs.map aX.eR)).length=(fx (bs.map aX.eR)).length:=by unfold bI;rw[vZ]
 have Jb:=wy c_;rw[aF]at Jb c_;obtain⟨P,rfl⟩:∃P:Nat,xp=P:=⟨xp.toNat,I⟩;simp only[aO,cD,aW];refine aM func68 rfl ntmps68 rfl hw ?_;obtain⟨SS,Fj⟩:∃SS,SS=cH (fS a c bs):=⟨_,rfl⟩;rw[<-Fj]
 repeat(first|refine aU ?_|refine dZ λ_ _=>?_)
 rename_i p1 _ p2 _;obtain⟨bl,mE⟩:∃bl,bl=bs.map aX.eR:=⟨_,rfl⟩;obtain⟨o,hoD⟩:∃o,o=bI bl:=⟨_,rfl⟩;rw[<-mE]at hk Ep Jb;rw[<-hoD]at hk Ep;have ad0:o.length<=bs.length:=I;have C_:∀w:C,aG w (J a bs.length c) 6 bl ed->iC ae 107 [au #[G xn,U O (P:Int),U O (R:Int),J a bs.length c]] w λu w'=>∃x:Option Addr×Nat,u=J x.1 o.length x.2/\Wd cX w [M x.1 o.length x.2 3 1 (o.map iO)] w'/\True:=λw h=>by
  have:=AE (G xn) (U O (P:Int)) (U O (R:Int)) bl (J a bs.length c) ⟨_,_,_,rfl⟩ w h (by rw[mE,aF];exact gF) (by rw[mE];exact hg) (by rw[mE,aF];exact c_);rw[Ep,hoD];exact this
 have s7:∀w,Wd SS wb (K p2 [G aA,U O 0,U O 0,J A 0 0] 35::K p1 [G xn,U O (P:Int),U O (R:Int),J a bs.length c] 35::fS a c bs) w->aG w (J a bs.length c) 6 bl ed:=λw hw=>by
  rw[mE];refine Wd.blocks (H:=[]) (hw.sub (.cons _ (.cons _ ?_))) I r5;rw[cD];exact ey _
 have C7:∀(y:Option Addr×Nat) (S:Nat->Prop) (v w:C),Wd S v (fS a c bs++[K p2 [G aA,U O 0,U O 0,J A 0 0] 35,K p1 [G xn,U O (P:Int),U O (R:Int),J a bs.length c] 35,M y.1 o.length y.2 3 1 (o.map iO)]) w->iC ae 106 [au #[G xn,U O (P:Int),U O (R:Int),J a bs.length c],J y.1 o.length y.2] w λu w'=>∃x:Option Addr×Nat×List aX,u=au #[G xn,U O (P:Int),U O (R:Int),J x.1 x.2.2.length x.2.1]/\Wd (cH (fS a c bs)) w (fS x.1 x.2.1 x.2.2) w'/\
   (x.2.2.map aX.eR=cV bl o/\∀b∈x.2.2,b.Bd):=λy S v w hw=>by
  have:=TA xn (P:Int) (R:Int) a c bs o y.1 y.2 R gF c_ r5 hf (by rw[<-mE];exact hk) w hw.pre (B6 hw.kF (k:=2) rfl rfl I λx hx=>by have:=hk.lt x hx;rw[mE,aF]at this;omega);rw[<-mE]at this;exact this
 refine dQ [] (λx:Option Addr×Nat×List aX=>x.2.2.map aX.eR=cV bl o/\∀b∈x.2.2,b.Bd) (λ_=>[aj 1 p1,aj 2 p2]) (λx=>K p1 [G xn,U O (P:Int),U O (R:Int),J x.1 x.2.2.length x.2.1] 35::K p2 [G aA,U O 0,U O 0,J A 0 0] 35::fS x.1 x.2.1 x.2.2) mixed aw ?_ λx hx=>?_
 ·skip
  refine lm 0 1 ai ?_ ?_
  ·skip
   refine fO 0 rfl aw ?_;refine cm 1 ai ?_;refine fO 1 rfl aw ?_;refine cm 2 ai ?_
   (refine kf 2 (val:=λx:Option Addr×Nat=>.slice x.1 o.length x.2) (akg:=λx=>[M x.1 o.length x.2 3 1 (o.map iO)]) (φ:=λ_=>True) rfl aw (λw hw=>C_ w (s7 w hw)) λy _=>?_;obtain⟨oa,oc⟩:=y;simp only[aW,aO])
   refine cm 3 ai ?_
   (refine bi (H1:=fS a c bs++[K p2 [G aA,U O 0,U O 0,J A 0 0] 35,K p1 [G xn,U O (P:Int),U O (R:Int),J a bs.length c] 35,M oa o.length oc 3 1 (o.map iO)]) (aP.2 λe=>by simp only[bC,br,cq];omega) ?_;refine pK 3 (val:=λx:Option Addr×Nat×List aX=>.agg #[G xn,U O (P:Int),U O (R:Int),J x.1 x.2.2.length x.2.1]) (akg:=λx=>fS x.1 x.2.1 x.2.2) (φ:=λx=>x.2.2.map aX.eR=cV bl o/\∀b∈x.2.2,b.Bd) rfl aw (λw hw=>C7 (oa,oc) _ _ w hw) λakj hz=>?_;obtain⟨na,nc,ks⟩:=akj;simp only at hz⊢)
   refine bi (H1:=K p1 [G xn,U O (P:Int),U O (R:Int),J a bs.length c] 35::K p2 [G aA,U O 0,U O 0,J A 0 0] 35::M oa o.length oc 3 1 (o.map iO)::fS na nc ks) (aP.2 λe=>by simp only[bC,br,cq];omega) ?_;refine cR 4 ai aw ?_;refine eA ai ?_;exact dS (na,nc,ks) hz ap aw
  ·skip
   refine fO 1 rfl aw ?_;refine lm 0 2 ai ?_ ?_
   ·skip
    refine fO 0 rfl aw ?_;refine cm 2 ai ?_
    (refine kf 2 (val:=λx:Option Addr×Nat=>.slice x.1 o.length x.2) (akg:=λx=>[M x.1 o.length x.2 3 1 (o.map iO)]) (φ:=λ_=>True) rfl aw (λw hw=>C_ w (s7 w hw)) λy _=>?_;obtain⟨oa,oc⟩:=y;simp only[aW,aO])
    refine cm 3 ai ?_
    (refine bi (H1:=fS a c bs++[K p2 [G aA,U O 0,U O 0,J A 0 0] 35,K p1 [G xn,U O (P:Int),U O (R:Int),J a bs.length c] 35,M oa o.length oc 3 1 (o.map iO)]) (aP.2 λe=>by simp only[bC,br,cq];omega) ?_;refine pK 3 (val:=λx:Option Addr×Nat×List aX=>.agg #[G xn,U O (P:Int),U O (R:Int),J x.1 x.2.2.length x.2.1]) (akg:=λx=>fS x.1 x.2.1 x.2.2) (φ:=λx=>x.2.2.map aX.eR=cV bl o/\∀b∈x.2.2,b.Bd) rfl aw (λw hw=>C7 (oa,oc) _ _ w hw) λakj hz=>?_;obtain⟨na,nc,ks⟩:=akj;simp only at hz⊢)
    refine bi (H1:=K p1 [G xn,U O (P:Int),U O (R:Int),J a bs.length c] 35::K p2 [G aA,U O 0,U O 0,J A 0 0] 35::M oa o.length oc 3 1 (o.map iO)::fS na nc ks) (aP.2 λe=>by simp only[bC,br,cq];omega) ?_;refine cR 4 ai aw ?_;refine eA ai ?_;exact dS (na,nc,ks) hz ap aw
   ·skip
    (refine kf 2 (val:=λx:Option Addr×Nat=>.slice x.1 o.length x.2) (akg:=λx=>[M x.1 o.length x.2 3 1 (o.map iO)]) (φ:=λ_=>True) rfl aw (λw hw=>C_ w (s7 w hw)) λy _=>?_;obtain⟨oa,oc⟩:=y;simp only[aW,aO])
    refine cm 0 ai ?_;refine fO 0 rfl aw ?_;refine cm 3 ai ?_
    (refine bi (H1:=fS a c bs++[K p2 [G aA,U O 0,U O 0,J A 0 0] 35,K p1 [G xn,U O (P:Int),U O (R:Int),J a bs.length c] 35,M oa o.length oc 3 1 (o.map iO)]) (aP.2 λe=>by simp only[bC,br,cq];omega) ?_;refine pK 3 (val:=λx:Option Addr×Nat×List aX=>.agg #[G xn,U O (P:Int),U O (R:Int),J x.1 x.2.2.length x.2.1]) (akg:=λx=>fS x.1 x.2.1 x.2.2) (φ:=λx=>x.2.2.map aX.eR=cV bl o/\∀b∈x.2.2,b.Bd) rfl aw (λw hw=>C7 (oa,oc) _ _ w hw) λakj hz=>?_;obtain⟨na,nc,ks⟩:=akj;simp only at hz⊢)
    refine bi (H1:=K p1 [G xn,U O (P:Int),U O (R:Int),J a bs.length c] 35::K p2 [G aA,U O 0,U O 0,J A 0 0] 35::M oa o.length oc 3 1 (o.map iO)::fS na nc ks) (aP.2 λe=>by simp only[bC,br,cq];omega) ?_;refine cR 4 ai aw ?_;refine eA ai ?_;exact dS (na,nc,ks) hz ap aw
 obtain⟨na,nc,ks⟩:=x;obtain⟨GK,GL⟩:=hx;simp only at GK GL⊢
 repeat(first|refine aU ?_|refine dZ λ_ _=>?_)
 rename_i e1 _;obtain⟨n,hnD⟩:∃n,n=ks.length:=⟨_,rfl⟩;obtain⟨kl,Lo⟩:∃kl,kl=cV bl o:=⟨_,rfl⟩;have hkf:fu R kl:=by rw[Lo];exact lL (by rw[mE];exact hf) hk
 have Kq:kl.length=n:=by rw[Lo,<-GK,aF,hnD]
 have ajm:n<=100:=by rw[<-Kq,Lo,d_];omega
 have Zy:∀B∈kl,∀x∈B.list,∃fs,eu fs (R:Int) x=0:=λB hB x hx=>by
  rw[Lo]at hB;unfold cV at hB;obtain⟨b,hb,rfl⟩:=aV.1 hB;exact aeB (aN bl b) (by rw[<-mE];exact aq (bM (hk.lt b hb))) x hx
 rw[<-hnD];refine cZ (val:=λa:Nat=>.slice (Z ⟨a,0,A⟩) R R) (akg:=λa=>[M (Z ⟨a,0,A⟩) R R 3 1 (List.replicate R (U O (-1)))]) (φ:=λ_=>True) rfl (λw hw=>Qn e1 0 R (-1) w (hw.cL (k:=0) (o:=0) (j:=0) rfl rfl) I) λta _=>?_;simp only[aW,aO]
 repeat(first|refine aH ?_|refine dZ λ_ _=>?_)
 rename_i q _;refine oU (H':=gV q ta R (eO 0)::dj ta R (eO 0)::K p1 [G xn,U O (P:Int),U O (R:Int),J na n nc] 35::K p2 [G aA,U O 0,U O 0,J A 0 0] 35::fS na nc ks) (λw hw=>?_) ?_
 ·unfold gV dj
  rw[show(xT R (eO 0)).map (U O)=List.replicate R (U O (-1)) by rw[show eO 0=[]from rfl,Uc];simp];exact hw.sub (dM (dM (.cons _ (.refl _))))
 refine bL (λ(r:Nat)=>r<=P) (λr=>[(35,U O r),(34,U O P),aj 3 q,aj 1 p1,aj 2 p2]) (λr=>gV q ta R (eO r)::dj ta R (eO r)::K p1 [G xn,U O (P:Int),U O (R:Int),J na n nc] 35::K p2 [G aA,U O 0,U O 0,J A 0 0] 35::fS na nc ks) (λr=>P-r) 0 (aT _) (aS ap aK) λr hr=>?_;refine aU ?_;refine aI (λh1=>?_) (λh1=>?_)
 ·have hrP:r<P:=ax h1
  refine aH ?_;refine fC (H1:=[gV q ta R (eO r),dj ta R (eO r)]++(K p1 [G xn,U O (P:Int),U O (R:Int),J na n nc] 35::K p2 [G aA,U O 0,U O 0,J A 0 0] 35::fS na nc ks)) rfl ?_;refine fK (val:=λ_:Unit=>.int O (fE (iZ (eO r) r) r)) (akg:=λ_=>[gV q ta R (iZ (eO r) r),dj ta R (iZ (eO r) r)]) (φ:=λ_=>True) rfl (λw hw=>tj q ta R r (eO r) I (by rw[mH];omega) w hw.pre) λ_ _=>?_;rw[Qc];simp only[aW,aO];refine aH ?_;exact bj (r+1) I I ap aK
 have hrP:r=P:=by have:=of_decide_eq_false h1;omega
 subst r;refine aE ?_;refine fC (H1:=[gV q ta R (eO P),dj ta R (eO P),K p1 [G xn,U O (P:Int),U O (R:Int),J na n nc] 35,K p2 [G aA,U O 0,U O 0,J A 0 0] 35]++fS na nc ks) rfl ?_;refine nZ λw1 l9=>?_;have hks:aG (cd (cH [gV q ta R (eO P),dj ta R (eO P),K p1 [G xn,U O (P:Int),U O (R:Int),J na n nc] 35,K p2 [G aA,U O 0,U O 0,J A 0 0] 35]) w1) (J na n nc) 6 kl ed:=by
  have:=Wd.blocks (H:=[]) (ba:=na) (bc:=nc) (bs:=ks) (by rw[cD];exact l9.kF) I GL;rw[GK,<-hnD,<-Lo]at this;exact this
 have back:∀{akg:List bN} {w:C},Wd (cH [gV q ta R (eO P),dj ta R (eO P),K p1 [G xn,U O (P:Int),U O (R:Int),J na n nc] 35,K p2 [G aA,U O 0,U O 0,J A 0 0] 35]) (cd (cH [gV q ta R (eO P),dj ta R (eO P),K p1 [G xn,U O (P:Int),U O (R:Int),J na n nc] 35,K p2 [G aA,U O 0,U O 0,J A 0 0] 35]) w1) akg w->Wd SS wb (akg++fS na nc ks) w:=λhw=>l9.comp hw.nk;have hold:∀{b o:Nat} {v:V} {l:List V},bF (cd (cH [gV q ta R (eO P),dj ta R (eO P),K p1 [G xn,U O (P:Int),U O (R:Int),J na n nc] 35,K p2 [G aA,U O 0,U O 0,J A 0 0] 35]) w1) b o (v::l)->eS (cH [gV q ta R (eO P),dj ta R (eO P),K p1 [G xn,U O (P:Int),U O (R:Int),J na n nc] 35,K p2 [G aA,U O 0,U O 0,J A 0 0] 35]) b:=λhc=>iF hc aC;generalize cd (cH [gV q ta R (eO P),dj ta R (eO P),K p1 [G xn,U O (P:Int),U O (R:Int),J na n nc] 35,K p2 [G aA,U O 0,U O 0,J A 0 0] 35]) w1=wk at*;generalize cH [gV q ta R (eO P),dj ta R (eO P),K p1 [G xn,U O (P:Int),U O (R:Int),J na n nc] 35,K p2 [G aA,U O 0,U O 0,J A 0 0] 35]=S2 at*;refine bL (λ(x:Nat×List Int)=>x.1<=n/\x.2=meets (eO P) ((kl.take x.1).flatMap nj)) (λx=>[(45,U O x.1),(43,J na n nc),(44,U O n),aj 3 q,aj 1 p1,aj 2 p2]) (λx=>[gV q ta R x.2,dj ta R x.2,K p1 [G xn,U O (P:Int),U O (R:Int),J na n nc] 35,K p2 [G aA,U O 0,U O 0,J A 0 0] 35]) (λx=>n-x.1) (0,eO P) ⟨aT _,by simp[th]⟩ (aS ap aK) λx ⟨hi,hl⟩=>?_;obtain⟨i,l⟩:=x;simp only at hi hl⊢;have m_:∀B∈kl,∀r,r∈nj B∨r∈qi B->0<=r/\r<R:=λB hB r hr=>qV hkf hB hr;have abc:Gb R l:=by
  rw[hl];refine(Gb.par I).meets λr hr=>?_;obtain⟨B,hB,hr⟩:=df.1 hr;exact m_ B (rX hB) r (.inl hr)
 refine aU ?_;refine aI (λh2=>?_) (λh2=>?_)
 ·have iJ:i<n:=ax h2
  obtain⟨B,hB⟩:=bf kl i I;have Lc:=aq hB;have EH:=hkf.block i B hB;obtain⟨b1,o1,IP,Db,wL⟩:=eE hks hold (λ_ _ h=>by obtain⟨_,_,_,e,_⟩:=h;exact⟨_,_,e⟩) (aL hB);obtain⟨_,IZ,pv,lv,tv,rfl,_,_,wj,lY,ht⟩:=wL i B hB;have adM:bY i n:=⟨iJ⟩;obtain⟨pa,pn,pc,_,_,rfl,Fs,ag3,SX,_⟩:=id wj;obtain⟨xa,xm,xc,_,_,rfl,hxn,abI,abH,_⟩:=id lY;obtain⟨Oq,Ou,Ot,_,_,rfl,_⟩:=id ht
  repeat(first|refine aE ?_|refine dZ λ_ _=>?_)
  rename_i p6 _;refine bi (H1:=[gV q ta R l,dj ta R l,K p6 [J pa pn pc,J xa xm xc,U O B.kind,D B.on.z,U O B.on.n,J Oq Ou Ot] 46,K p1 [G xn,U O (P:Int),U O (R:Int),J na n nc] 35,K p2 [G aA,U O 0,U O 0,J A 0 0] 35]) (aP.2 λe=>by simp only[bC,br,cq];omega) ?_;have hsB:∀r∈nj B,0<=r/\r<R:=λr hr=>m_ B Lc r (.inl hr);refine bL (λ(x:Nat×List Int)=>x.1<=pn/\x.2=meets l ((B.aD.take x.1).map (·.dst))) (λx=>[(52,U O x.1),(50,J pa pn pc),(51,U O pn),aj 6 p6,(45,U O i),(43,J na n nc),(44,U O n),aj 3 q,aj 1 p1,aj 2 p2]) (λx=>[gV q ta R x.2,dj ta R x.2,K p6 [J pa pn pc,J xa xm xc,U O B.kind,D B.on.z,U O B.on.n,J Oq Ou Ot] 46,K p1 [G xn,U O (P:Int),U O (R:Int),J na n nc] 35,K p2 [G aA,U O 0,U O 0,J A 0 0] 35]) (λx=>pn-x.1) (0,l) ⟨aT _,rfl⟩ (aS ap aK) λx ⟨hj,hm⟩=>?_;obtain⟨j,m⟩:=x;simp only at hj hm⊢;have adT:Gb R m:=by
   rw[hm];refine abc.meets λr hr=>hsB r ?_;obtain⟨p,hp,rfl⟩:=aV.1 hr;exact ct _ (aV.2 ⟨p,rX hp,rfl⟩)
  refine aU ?_;refine aI (λh3=>?_) (λh3=>?_)
  ·have jw:j<pn:=ax h3
   obtain⟨ph,Xe⟩:=bf B.aD j I;have hd:=hsB ph.dst (ct _ (aV.2 ⟨ph,aq Xe,rfl⟩));obtain⟨r,hr⟩:∃r:Nat,ph.dst=r:=⟨ph.dst.toNat,I⟩;obtain⟨b2,o2,uR,nw,yW⟩:=eE wj hold (λ_ _ h=>by obtain⟨_,e,_⟩:=h;exact⟨_,_,e⟩) (aL Xe);obtain⟨_,tX,sv,rfl,_,ny⟩:=yW j ph Xe;obtain⟨sva,svn,svc,_,_,rfl,_⟩:=id ny;have ai6:bY j pn:=⟨jw⟩
   repeat(first|refine aE ?_|refine dZ λ_ _=>?_)
   rename_i p8 _;rw[hr];refine bi (H1:=[gV q ta R m,dj ta R m]++[K p8 [U O (r:Int),J sva svn svc] 49,K p6 [J pa pn pc,J xa xm xc,U O B.kind,D B.on.z,U O B.on.n,J Oq Ou Ot] 46,K p1 [G xn,U O (P:Int),U O (R:Int),J na n nc] 35,K p2 [G aA,U O 0,U O 0,J A 0 0] 35]) (aP.2 λe=>by simp only[bC,br,cq];omega) ?_;refine fK (val:=λ_:Unit=>.int O (fE (iZ m r) r)) (akg:=λ_=>[gV q ta R (iZ m r),dj ta R (iZ m r)]) (φ:=λ_=>True) rfl (λw hw=>tj q ta R r m I (by have:=adT.len;omega) w hw.pre) λ_ _=>?_;simp only[aW,aO];refine aH ?_;exact bj (j+1,iZ m r) ⟨I,by rw[cz,Xe,bz,jh,<-hm,<-hr];rfl⟩ bK ap aw
  obtain rfl:pn=j:=by have:=of_decide_eq_false h3;omega
  rw[Fs,cQ]at hm;refine aE ?_;refine bL (λ(x:Nat×List Int)=>x.1<=xm/\x.2=meets m ((B.list.take x.1).flatMap rI)) (λx=>[(64,U O x.1),(62,J xa xm xc),(63,U O xm),aj 6 p6,(45,U O i),(43,J na n nc),(44,U O n),aj 3 q,aj 1 p1,aj 2 p2]) (λx=>[gV q ta R x.2,dj ta R x.2,K p6 [J pa pn pc,J xa xm xc,U O B.kind,D B.on.z,U O B.on.n,J Oq Ou Ot] 46,K p1 [G xn,U O (P:Int),U O (R:Int),J na n nc] 35,K p2 [G aA,U O 0,U O 0,J A 0 0] 35]) (λx=>xm-x.1) (0,m) ⟨aT _,rfl⟩ (aS ap aK) λx ⟨hk1,Nq⟩=>?_;obtain⟨k,m2⟩:=x;simp only at hk1 Nq⊢;have hsI:∀x∈B.list,∀r∈rI x,0<=r/\r<R:=λx hx r hr=>hsB r (de _ (ct _ (df.2 ⟨x,hx,hr⟩)));have SM:Gb R m2:=by
   rw[Nq];refine adT.meets λr hr=>?_;obtain⟨x,hx,hr⟩:=df.1 hr;exact hsI x (rX hx) r hr
  refine aU ?_;refine aI (λh4=>?_) (λh4=>?_)
  ·have u2:k<xm:=ax h4
   obtain⟨x,hx⟩:=bf B.list k I;have qQ:=aq hx;have hio:=EH.list x qQ;obtain⟨fs,Aj⟩:=Zy B Lc x qQ;have Nz:=hsI x qQ;have hsq:=Oa Aj hio;rw[hsq]at Nz;have oe:meets m ((B.list.take (k+1)).flatMap rI)=meets m2 (rI x):=by rw[cz,hx,iD,jh,<-Nq];simp
   rw[hsq]at oe;obtain⟨b2,o2,uR,nw,yW⟩:=eE lY hold (λ_ _ h=>by obtain⟨_,e,_⟩:=h;exact⟨_,_,e⟩) (aL hx);obtain⟨_,tX,av,rfl,_,_,_,_,_,Ag⟩:=yW k x hx;obtain⟨ava,Q2,avc,_,_,rfl,afK,_,aiu,_⟩:=id Ag;have ai7:bY k xm:=⟨u2⟩
   repeat(first|refine aE ?_|refine dZ λ_ _=>?_)
   rename_i EO _;refine bi (H1:=[gV q ta R m2,dj ta R m2]++[K EO [U O x.op,U O x.dst,D x.a.z,U O x.a.n,D x.b.z,U O x.b.n,U O x.fn,J ava Q2 avc] 56,K p6 [J pa pn pc,J xa xm xc,U O B.kind,D B.on.z,U O B.on.n,J Oq Ou Ot] 46,K p1 [G xn,U O (P:Int),U O (R:Int),J na n nc] 35,K p2 [G aA,U O 0,U O 0,J A 0 0] 35]) (aP.2 λe=>by simp only[bC,br,cq];omega) ?_;refine fK (val:=λ_:Unit=>.agg #[D (cu (meets m2 (eG x.a)) x.a).z,U O (cu (meets m2 (eG x.a)) x.a).n]) (akg:=λ_=>[gV q ta R (meets m2 (eG x.a)),dj ta R (meets m2 (eG x.a))]) (φ:=λ_=>True) rfl (λw hw=>ur q ta R x.a m2 (wG λr hr=>Nz r (ct _ hr)) (by have:=SM.len;omega) w hw.pre) λ_ _=>?_;simp only[aW,aO];obtain⟨m3,hm3⟩:∃m3,m3=meets m2 (eG x.a):=⟨_,rfl⟩;rw[<-hm3];have ZC:Gb R m3:=by rw[hm3];exact SM.meets λr hr=>Nz r (ct _ hr)
   rw[jh,<-hm3]at oe;refine aU ?_;refine fC (H1:=[gV q ta R m3,dj ta R m3]++[K EO [U O x.op,U O x.dst,D x.a.z,U O x.a.n,D x.b.z,U O x.b.n,U O x.fn,J ava Q2 avc] 56,K p6 [J pa pn pc,J xa xm xc,U O B.kind,D B.on.z,U O B.on.n,J Oq Ou Ot] 46,K p1 [G xn,U O (P:Int),U O (R:Int),J na n nc] 35,K p2 [G aA,U O 0,U O 0,J A 0 0] 35]) rfl ?_;refine fK (val:=λ_:Unit=>.agg #[D (cu (meets m3 (eG x.b)) x.b).z,U O (cu (meets m3 (eG x.b)) x.b).n]) (akg:=λ_=>[gV q ta R (meets m3 (eG x.b)),dj ta R (meets m3 (eG x.b))]) (φ:=λ_=>True) rfl (λw hw=>ur q ta R x.b m3 (wG λr hr=>Nz r (de _ (ct _ hr))) (by have:=ZC.len;omega) w hw.pre) λ_ _=>?_;simp only[aW,aO];obtain⟨m4,hm4⟩:∃m4,m4=meets m3 (eG x.b):=⟨_,rfl⟩;rw[<-hm4];have adU:Gb R m4:=by rw[hm4];exact ZC.meets λr hr=>Nz r (de _ (ct _ hr))
   rw[jh,<-hm4,jh]at oe;refine aH ?_;refine bL (λ(y:Nat×List Int)=>y.1<=Q2/\y.2=meets m4 ((x.args.take y.1).flatMap eG)) (λy=>[(79,U O y.1),(77,J ava Q2 avc),(78,U O Q2),aj 10 EO,(64,U O k),(62,J xa xm xc),(63,U O xm),aj 6 p6,(45,U O i),(43,J na n nc),(44,U O n),aj 3 q,aj 1 p1,aj 2 p2]) (λy=>[gV q ta R y.2,dj ta R y.2,K EO [U O x.op,U O x.dst,D x.a.z,U O x.a.n,D x.b.z,U O x.b.n,U O x.fn,J ava Q2 avc] 56,K p6 [J pa pn pc,J xa xm xc,U O B.kind,D B.on.z,U O B.on.n,J Oq Ou Ot] 46,K p1 [G xn,U O (P:Int),U O (R:Int),J na n nc] 35,K p2 [G aA,U O 0,U O 0,J A 0 0] 35]) (λy=>Q2-y.1) (0,m4) ⟨aT _,rfl⟩ (aS ap aK) λy ⟨he1,hm5⟩=>?_;obtain⟨e,m5⟩:=y;simp only at he1 hm5⊢;have ZD:Gb R m5:=by
    rw[hm5];refine adU.meets λr hr=>Nz r ?_;obtain⟨v,hv,hr⟩:=df.1 hr;exact de _ (de _ (ct _ (df.2 ⟨v,rX hv,hr⟩)))
   refine aU ?_;refine aI (λh5=>?_) (λh5=>?_)
   ·have ji:e<Q2:=ax h5
    obtain⟨v,hv⟩:=bf x.args e I;obtain⟨b3,o3,Li,xg,C3⟩:=eE Ag hold (λ_ _ h=>⟨_,_,h.1⟩) (aL hv);obtain⟨_,I0,rfl,_⟩:=C3 e v hv;have ai5:bY e Q2:=⟨ji⟩
    repeat(first|refine aE ?_|refine dZ λ_ _=>?_)
    rename_i nL _;refine bi (H1:=[gV q ta R m5,dj ta R m5]++[K nL [D v.z,U O v.n] 41,K EO [U O x.op,U O x.dst,D x.a.z,U O x.a.n,D x.b.z,U O x.b.n,U O x.fn,J ava Q2 avc] 56,K p6 [J pa pn pc,J xa xm xc,U O B.kind,D B.on.z,U O B.on.n,J Oq Ou Ot] 46,K p1 [G xn,U O (P:Int),U O (R:Int),J na n nc] 35,K p2 [G aA,U O 0,U O 0,J A 0 0] 35]) (aP.2 λe=>by simp only[bC,br,cq];omega) ?_;refine fK (val:=λ_:Unit=>.agg #[D (cu (meets m5 (eG v)) v).z,U O (cu (meets m5 (eG v)) v).n]) (akg:=λ_=>[gV q ta R (meets m5 (eG v)),dj ta R (meets m5 (eG v))]) (φ:=λ_=>True) rfl (λw hw=>ur q ta R v m5 (wG λr hr=>Nz r (de _ (de _ (ct _ (df.2 ⟨v,aq hv,hr⟩))))) (by have:=ZD.len;omega) w hw.pre) λ_ _=>?_;simp only[aW,aO];refine aH ?_;exact bj (e+1,meets m5 (eG v)) ⟨I,by rw[cz,hv,iD,jh,<-hm5];simp⟩ bK ap aw
   obtain rfl:Q2=e:=by have:=of_decide_eq_false h5;omega
   rw[afK,cQ]at hm5;rw[<-hm5]at oe;refine aE ?_;refine aI (λh6=>?_) (λh6=>?_)
   ·have gP:0<=x.dst:=ax h6
    rw[if_pos gP,PZ]at oe;have hd:=Nz x.dst (by rw[if_pos gP];simp);obtain⟨r,hr⟩:∃r:Nat,x.dst=r:=⟨x.dst.toNat,I⟩;refine aU ?_;rw[hr]at oe⊢;refine fC (H1:=[gV q ta R m5,dj ta R m5]++[K EO [U O x.op,U O (r:Int),D x.a.z,U O x.a.n,D x.b.z,U O x.b.n,U O x.fn,J ava Q2 avc] 56,K p6 [J pa pn pc,J xa xm xc,U O B.kind,D B.on.z,U O B.on.n,J Oq Ou Ot] 46,K p1 [G xn,U O (P:Int),U O (R:Int),J na n nc] 35,K p2 [G aA,U O 0,U O 0,J A 0 0] 35]) rfl ?_;refine fK (val:=λ_:Unit=>.int O (fE (iZ m5 r) r)) (akg:=λ_=>[gV q ta R (iZ m5 r),dj ta R (iZ m5 r)]) (φ:=λ_=>True) rfl (λw hw=>tj q ta R r m5 I (by have:=ZD.len;omega) w hw.pre) λ_ _=>?_;simp only[aW,aO];refine aH ?_;exact bj (k+1,iZ m5 r) ⟨I,oe.symm⟩ bK ap aw
   ·have bS:¬0<=x.dst:=ax h6
    rw[if_neg bS,th]at oe;refine aH ?_;exact bj (k+1,m5) ⟨I,oe.symm⟩ bK ap aw
  obtain rfl:xm=k:=by have:=of_decide_eq_false h4;omega
  rw[hxn,cQ]at Nq;refine aE ?_;refine fC (H1:=[gV q ta R m2,dj ta R m2]++[K p6 [J pa pn pc,J xa xm xc,U O B.kind,D B.on.z,U O B.on.n,J Oq Ou Ot] 46,K p1 [G xn,U O (P:Int),U O (R:Int),J na n nc] 35,K p2 [G aA,U O 0,U O 0,J A 0 0] 35]) rfl ?_;refine fK (val:=λ_:Unit=>.agg #[D (cu (meets m2 (eG B.on)) B.on).z,U O (cu (meets m2 (eG B.on)) B.on).n]) (akg:=λ_=>[gV q ta R (meets m2 (eG B.on)),dj ta R (meets m2 (eG B.on))]) (φ:=λ_=>True) rfl (λw hw=>ur q ta R B.on m2 EH.on (by have:=SM.len;omega) w hw.pre) λ_ _=>?_;simp only[aW,aO];refine aH ?_;exact bj (i+1,meets m2 (eG B.on)) ⟨I,by rw[cz,hB,iD,jh,<-hl,Nq,hm,<-jh,<-jh];simp[nj]⟩ bK ap aw
 obtain rfl:n=i:=by have:=of_decide_eq_false h2;omega
 rw[<-Kq,cQ]at hl;refine aE ?_;refine mD back ?_;clear hold hks;obtain⟨Lf,acV⟩:∃Lf,Lf=gi P kl:=⟨_,rfl⟩;obtain⟨L1,WL⟩:∃L1,L1=l:=⟨_,rfl⟩;have hLf:Lf=meets L1 (kl.flatMap qi):=by
  rw[WL,hl,acV,<-jh];unfold gi AI AC;rw[jh];congr 1;exact FO (uw P)
 have acT:Gb R L1:=by rw[WL];exact abc
 have R8:Gb R Lf:=by
  rw[hLf];refine acT.meets λr hr=>?_;obtain⟨B,hB,hr⟩:=df.1 hr;exact m_ B hB r (.inr hr)
 have acS:∀B∈kl,∀r∈nj B,r∈L1:=λB hB r hr=>by
  rw[WL,hl];exact ti.2 (.inr (df.2 ⟨B,hB,hr⟩))
 have aie:Lf.length<=100000:=by have:=R8.len;omega
 rw[<-WL];clear hl abc;refine oU (H':=gV q ta R L1::dj ta R L1::K p1 [G xn,U O (P:Int),U O (R:Int),J na n nc] 35::K p2 [G aA,U O 0,U O 0,J A 0 0] 35::M na n nc 46 6 (ks.flatMap bm)::ks.map ck) (λw hw=>by have h9:=hw;unfold fS at h9;rw[<-hnD]at h9;exact h9) ?_
 skip
 refine bL (λ(x:Nat×List aX×List Int)=>x.1<=n/\x.2.1.length=n/\x.2.1.map aX.eR=(kl.take x.1).map (iQ Lf)++kl.drop x.1/\(∀b∈x.2.1,b.Bd)/\Lf=meets x.2.2 ((kl.drop x.1).flatMap qi)/\∀r∈L1,r∈x.2.2) (λx=>[(104,U O x.1),(103,U O n),(102,J na n nc),aj 3 q,aj 1 p1,aj 2 p2])
  (λx=>gV q ta R x.2.2::dj ta R x.2.2::K p1 [G xn,U O (P:Int),U O (R:Int),J na n nc] 35::K p2 [G aA,U O 0,U O 0,J A 0 0] 35::M na n nc 46 6 (x.2.1.flatMap bm)::x.2.1.map ck) (λx=>n-x.1) (0,ks,L1) ⟨aT _,hnD.symm,by rw[GK,<-Lo];simp,GL,by rw[hLf];rfl,λ_ h=>h⟩ (aS ap aK) λx ⟨hi,rR,hrk,s7,Xk,BG⟩=>?_
 obtain⟨i,rs,l⟩:=x;simp only at hi rR hrk s7 Xk BG⊢;refine aU ?_;refine aI (λh2=>?_) (λh2=>?_)
 ·have iJ:i<n:=ax h2
  obtain⟨BB,hBB⟩:∃B,rs[i]?=Z B:=⟨_,a_ I⟩;have hB:kl[i]?=Z BB.eR:=by
   have h3:(rs.map aX.eR)[i]?=Z BB.eR:=by rw[aJ,hBB];rfl
   rw[hrk,dC dp,aF,dd,iq I,dN,iV,ef]at h3;exact h3
  have Sq:kl.drop i=BB.eR::kl.drop (i+1):=by rw[lR I,(az.1 hB).2]
  have Lc:=aq hB;have EH:=hkf.block i _ hB;have El:=s7 _ (aq hBB);obtain⟨qa,qc,ps,la,lc,xs,kd,on,xa,xc,to⟩:=BB;have hsB:∀r∈nj ((⟨qa,qc,ps,la,lc,xs,kd,on,xa,xc,to⟩:aX)).eR,r∈l/\0<=r/\r<R:=λr hr=>⟨BG r (acS _ Lc r hr),m_ _ Lc r (.inl hr)⟩;obtain⟨J_,Ny⟩:∃f:List cW->List Int,f=λps=>ps.flatMap λq=>q.l.flatMap eG:=⟨_,rfl⟩;have aeq:qi ((⟨qa,qc,ps,la,lc,xs,kd,on,xa,xc,to⟩:aX)).eR=J_ ps:=by
   rw[Ny];unfold qi aX.eR;simp only[lS]
   rfl
  obtain⟨rest,Bk⟩:∃rest,rest=(kl.drop (i+1)).flatMap qi:=⟨_,rfl⟩;rw[Sq,gZ,aeq,<-Bk]at Xk;have Xf:ps.length<=1000:=El.aD;have Xw:xs.length<=1000:=El.list;refine fL 4 rfl I λvb vo oC=>?_;subst oC;have adM:bY i n:=⟨iJ⟩;have zN:gQ (gV q ta R l::dj ta R l::K p1 [G xn,U O (P:Int),U O (R:Int),J (Z ⟨vb,vo,A⟩) n nc] 35::K p2 [G aA,U O 0,U O 0,J A 0 0] 35::M (Z ⟨vb,vo,A⟩) n nc 46 6 (rs.flatMap bm)::rs.map ck) vb (vo+i*6) _:=jz (k:=4) rfl dX hBB;simp only[bm]at zN
  repeat(first|refine aE ?_|refine dZ λ_ _=>?_)
  rename_i lz _;have SY:=jl ck hBB;refine bi (H1:=ck (⟨qa,qc,ps,la,lc,xs,kd,on,xa,xc,to⟩:aX)::(K lz [J qa ps.length qc,J la xs.length lc,U O kd,D on.z,U O on.n,J xa to.length xc] 46::gV q ta R l::dj ta R l::K p1 [G xn,U O (P:Int),U O (R:Int),J (Z ⟨vb,vo,A⟩) n nc] 35::K p2 [G aA,U O 0,U O 0,J A 0 0] 35::M (Z ⟨vb,vo,A⟩) n nc 46 6 (rs.flatMap bm)::(rs.eraseIdx i).map ck)) (aP.2 λe=>?_) ?_
  ·have:=aP.1 SY e
   simp only[br]at this⊢;omega
  refine CS ?_;refine bi (H1:=gV q ta R l::dj ta R l::M qa ps.length qc 49 2 (ps.flatMap cF)::K lz [J qa ps.length qc,J la xs.length lc,U O kd,D on.z,U O on.n,J xa to.length xc] 46::K p1 [G xn,U O (P:Int),U O (R:Int),J (Z ⟨vb,vo,A⟩) n nc] 35::K p2 [G aA,U O 0,U O 0,J A 0 0] 35::M (Z ⟨vb,vo,A⟩) n nc 46 6 (rs.flatMap bm)::(ps.map fP++(wR (⟨qa,qc,ps,la,lc,xs,kd,on,xa,xc,to⟩:aX)++(rs.eraseIdx i).map ck))) (aP.2 λe=>?_) ?_
  ·have:=aP.1 (H9 (⟨qa,qc,ps,la,lc,xs,kd,on,xa,xc,to⟩:aX)) e
   unfold phV at this;simp only[br,bC]at this⊢;omega
  refine bL (λ(x:List cW×List Int)=>x.1.length<=ps.length/\x.1.map cW.kN=(ps.take x.1.length).map (λq=>JX Lf q.kN)/\(∀q∈x.1,dk q.dst/\q.l.length<=1000/\∀v∈q.l,dk v.n)/\Lf=meets x.2 (J_ (ps.drop x.1.length)++rest)/\∀r∈l,r∈x.2) (λx=>[(112,U O x.1.length),(110,J qa ps.length qc),(111,U O ps.length),aj 14 lz,(13,U O i),(104,U O i),(103,U O n),(102,J (Z ⟨vb,vo,A⟩) n nc),aj 3 q,aj 1 p1,aj 2 p2])
   (λx=>gV q ta R x.2::dj ta R x.2::M qa ps.length qc 49 2 ((x.1++ps.drop x.1.length).flatMap cF)::K lz [J qa ps.length qc,J la xs.length lc,U O kd,D on.z,U O on.n,J xa to.length xc] 46::K p1 [G xn,U O (P:Int),U O (R:Int),J (Z ⟨vb,vo,A⟩) n nc] 35::K p2 [G aA,U O 0,U O 0,J A 0 0] 35::M (Z ⟨vb,vo,A⟩) n nc 46 6 (rs.flatMap bm)::((x.1++ps.drop x.1.length).map fP++(wR (⟨qa,qc,ps,la,lc,xs,kd,on,xa,xc,to⟩:aX)++(rs.eraseIdx i).map ck))) (λx=>ps.length-x.1.length) ([],l) ⟨aT _,rfl,by simp,Xk,λ_ h=>h⟩ (aS ap aK) λx ⟨W8,HH,Ll,Fv,Ji⟩=>?_
  obtain⟨es,m⟩:=x;simp only at W8 HH Ll Fv Ji⊢;have I9:m<+:Lf:=by rw[Fv];exact wu _ _
  have ah0:=(R8.pre I9).len;refine aU ?_;refine aI (λh3=>?_) (λh3=>?_)
  ·have bS:es.length<ps.length:=ax h3
   generalize B0:es.length=ei at*;obtain⟨u,hu⟩:=bf ps ei bS;have hum:=aq hu;obtain⟨hud,hub,huv⟩:=El.kN u hum;obtain⟨pd,nM,pk,pl⟩:=u;simp only at hud hub huv;obtain⟨ag0,ajC,ajD⟩:=hsB pd (ct _ (aV.2 ⟨⟨pd,pl⟩,aV.2 ⟨⟨pd,nM,pk,pl⟩,hum,rfl⟩,rfl⟩));have ad8:=Ji pd ag0;obtain⟨r,rfl⟩:∃r:Nat,pd=r:=⟨pd.toNat,I⟩;refine fL 2 rfl I λzb zo GX=>?_;subst GX;have Lr:bY ei ps.length:=⟨bS⟩;have jS:(es++ps.drop ei)[ei]?=Z (⟨r,nM,pk,pl⟩:cW):=by
    rw[dC I,B0,dN,iV,ef];exact hu
   have Zm:ps.drop ei=(⟨r,nM,pk,pl⟩:cW)::ps.drop (ei+1):=by rw[lR bS,(az.1 hu).2]
   have aem:Lf=meets m (pl.flatMap eG++(J_ (ps.drop (ei+1))++rest)):=by
    rw[<-dz];rw[Zm,show J_ ((⟨r,nM,pk,pl⟩:cW)::ps.drop (ei+1))=pl.flatMap eG++J_ (ps.drop (ei+1)) by rw[Ny];rfl]at Fv;exact Fv
   refine bi (H1:=gV q ta R m::dj ta R m::M nM pl.length pk 41 2 (pl.flatMap dB)::M (Z ⟨zb,zo,A⟩) ps.length qc 49 2 ((es++ps.drop ei).flatMap cF)::K lz [J (Z ⟨zb,zo,A⟩) ps.length qc,J la xs.length lc,U O kd,D on.z,U O on.n,J xa to.length xc] 46::K p1 [G xn,U O (P:Int),U O (R:Int),J (Z ⟨vb,vo,A⟩) n nc] 35::K p2 [G aA,U O 0,U O 0,J A 0 0] 35::M (Z ⟨vb,vo,A⟩) n nc 46 6 (rs.flatMap bm)::((es++ps.drop (ei+1)).map fP++(wR (⟨Z ⟨zb,zo,A⟩,qc,ps,la,lc,xs,kd,on,xa,xc,to⟩:aX)++(rs.eraseIdx i).map ck))) (aP.2 λe=>?_) ?_
   ·rw[Zm]
    have e2:fP (⟨r,nM,pk,pl⟩:cW)=M nM pl.length pk 41 2 (pl.flatMap dB):=rfl;simp only[bz,bT,bC,br,e2];omega
   have Pw:gQ (gV q ta R m::dj ta R m::M nM pl.length pk 41 2 (pl.flatMap dB)::M (Z ⟨zb,zo,A⟩) ps.length qc 49 2 ((es++ps.drop ei).flatMap cF)::K lz [J (Z ⟨zb,zo,A⟩) ps.length qc,J la xs.length lc,U O kd,D on.z,U O on.n,J xa to.length xc] 46::K p1 [G xn,U O (P:Int),U O (R:Int),J (Z ⟨vb,vo,A⟩) n nc] 35::K p2 [G aA,U O 0,U O 0,J A 0 0] 35::M (Z ⟨vb,vo,A⟩) n nc 46 6 (rs.flatMap bm)::((es++ps.drop (ei+1)).map fP++(wR (⟨Z ⟨zb,zo,A⟩,qc,ps,la,lc,xs,kd,on,xa,xc,to⟩:aX)++(rs.eraseIdx i).map ck))) zb (zo+ei*2) _:=jz (k:=3) rfl fV jS;simp only[cF]at Pw
   repeat(first|refine aE ?_|refine dZ λ_ _=>?_)
   rename_i Ku _;refine bi (H1:=gV q ta R m::dj ta R m::M nM pl.length pk 41 2 (pl.flatMap dB)::K Ku [U O (r:Int),J nM pl.length pk] 49::M (Z ⟨zb,zo,A⟩) ps.length qc 49 2 ((es++ps.drop ei).flatMap cF)::K lz [J (Z ⟨zb,zo,A⟩) ps.length qc,J la xs.length lc,U O kd,D on.z,U O on.n,J xa to.length xc] 46::K p1 [G xn,U O (P:Int),U O (R:Int),J (Z ⟨vb,vo,A⟩) n nc] 35::K p2 [G aA,U O 0,U O 0,J A 0 0] 35::M (Z ⟨vb,vo,A⟩) n nc 46 6 (rs.flatMap bm)::((es++ps.drop (ei+1)).map fP++(wR (⟨Z ⟨zb,zo,A⟩,qc,ps,la,lc,xs,kd,on,xa,xc,to⟩:aX)++(rs.eraseIdx i).map ck))) (aP.2 λe=>by simp only[bC,br,cq];omega) ?_;have Tl:mV ((es++ps.drop ei).flatMap cF) (ei*2+0) (U O (fE Lf r)) (((es++[(⟨fE Lf r,nM,pk,pl⟩:cW)])++ps.drop (ei+1)).flatMap cF):=⟨by
    rw[gN fV jS (k:=0) I (y:=(⟨fE Lf r,nM,pk,pl⟩:cW)) rfl];congr 1;exact pL B0 bS,by rw[cj fV,bX,eY];omega⟩
   have abn:oI (gV q ta R m::dj ta R m::M nM pl.length pk 41 2 (pl.flatMap dB)::K Ku [U O (r:Int),J nM pl.length pk] 49::M (Z ⟨zb,zo,A⟩) ps.length qc 49 2 ((es++ps.drop ei).flatMap cF)::K lz [J (Z ⟨zb,zo,A⟩) ps.length qc,J la xs.length lc,U O kd,D on.z,U O on.n,J xa to.length xc] 46::K p1 [G xn,U O (P:Int),U O (R:Int),J (Z ⟨vb,vo,A⟩) n nc] 35::K p2 [G aA,U O 0,U O 0,J A 0 0] 35::M (Z ⟨vb,vo,A⟩) n nc 46 6 (rs.flatMap bm)::((es++ps.drop (ei+1)).map fP++(wR (⟨Z ⟨zb,zo,A⟩,qc,ps,la,lc,xs,kd,on,xa,xc,to⟩:aX)++(rs.eraseIdx i).map ck))) zb (zo+ei*2) 4 zo (ei*2+0) ps.length qc 49 2 ((es++ps.drop ei).flatMap cF):=⟨rfl,I⟩;have wN:∀(S:Nat->Prop) (v w:C) (H2:List bN),Wd S v ([gV q ta R m,dj ta R m]++H2) w->iC ae 113 [ar (Z ⟨q,0,A⟩),U O (r:Int)] w λu w'=>∃_x:Unit,u=U O (fE Lf r)/\Wd (cH [gV q ta R m,dj ta R m]) w [gV q ta R m,dj ta R m] w'/\True:=λS v w H2 hw=>by
    have:=tj q ta R r m I I w hw.pre;rw[B8 ad8,<-uA I9 ad8]at this;exact this
   refine dQ [K Ku [U O (r:Int),J nM pl.length pk] 49,K lz [J (Z ⟨zb,zo,A⟩) ps.length qc,J la xs.length lc,U O kd,D on.z,U O on.n,J xa to.length xc] 46] (λ_:Unit=>True) (λ_=>[aj 16 Ku,(15,U O ei),(112,U O ei),(110,J (Z ⟨zb,zo,A⟩) ps.length qc),(111,U O ps.length),aj 14 lz,(13,U O i),(104,U O i),(103,U O n),(102,J (Z ⟨vb,vo,A⟩) n nc),aj 3 q,aj 1 p1,aj 2 p2]) (λ_=>gV q ta R m::dj ta R m::M nM pl.length pk 41 2 (pl.flatMap dB)::K Ku [U O (r:Int),J nM pl.length pk] 49::M (Z ⟨zb,zo,A⟩) ps.length qc 49 2 (((es++[(⟨fE Lf r,nM,pk,pl⟩:cW)])++ps.drop (ei+1)).flatMap cF)::K lz [J (Z ⟨zb,zo,A⟩) ps.length qc,J la xs.length lc,U O kd,D on.z,U O on.n,J xa to.length xc] 46::K p1 [G xn,U O (P:Int),U O (R:Int),J (Z ⟨vb,vo,A⟩) n nc] 35::K p2 [G aA,U O 0,U O 0,J A 0 0] 35::M (Z ⟨vb,vo,A⟩) n nc 46 6 (rs.flatMap bm)::((es++ps.drop (ei+1)).map fP++(wR (⟨Z ⟨zb,zo,A⟩,qc,ps,la,lc,xs,kd,on,xa,xc,to⟩:aX)++(rs.eraseIdx i).map ck))) mixed aw ?_ λ_ _=>?_
   ·skip
    refine ag 0 ?_;refine ag 1 ?_;refine ag 2 ?_;refine ag 3 ?_;refine ag 4 ?_;refine ag 5 ?_;refine n9 6 (H1:=[gV q ta R m,dj ta R m]) (H2:=M nM pl.length pk 41 2 (pl.flatMap dB)::K Ku [U O (r:Int),J nM pl.length pk] 49::M (Z ⟨zb,zo,A⟩) ps.length qc 49 2 ((es++ps.drop ei).flatMap cF)::K lz [J (Z ⟨zb,zo,A⟩) ps.length qc,J la xs.length lc,U O kd,D on.z,U O on.n,J xa to.length xc] 46::K p1 [G xn,U O (P:Int),U O (R:Int),J (Z ⟨vb,vo,A⟩) n nc] 35::K p2 [G aA,U O 0,U O 0,J A 0 0] 35::M (Z ⟨vb,vo,A⟩) n nc 46 6 (rs.flatMap bm)::((es++ps.drop (ei+1)).map fP++(wR (⟨Z ⟨zb,zo,A⟩,qc,ps,la,lc,xs,kd,on,xa,xc,to⟩:aX)++(rs.eraseIdx i).map ck))) (val:=λ_:Unit=>.int O (fE Lf r)) (akg:=λ_=>[gV q ta R m,dj ta R m]) (φ:=λ_=>True) rfl ai aw (λw hw=>wN _ _ w _ hw) λ_ _=>?_;simp only[aW,aO];refine ag 7 ?_;refine ag 8 ?_;refine kX 9 ai ai aw ?_;exact dS () trivial ap aK
   clear abn Tl;refine aH ?_;obtain⟨Rc,Tg⟩:∃f:Nat->List cg,f=λj=>(pl.take j).map (cu Lf)++pl.drop j:=⟨_,rfl⟩;have aeF:∀j,(Rc j).length=pl.length:=λj=>by rw[Tg];simp;omega
   have ahB:Rc 0=pl:=by rw[Tg];simp
   have aes:∀v∈pl,∀x∈eG v,0<=x/\x<R:=λv hv x hx=>by
    refine m_ _ Lc x (.inr ?_);rw[aeq,Ny];exact df.2 ⟨_,hum,df.2 ⟨v,hv,hx⟩⟩
   rw[show M nM pl.length pk 41 2 (pl.flatMap dB)=M nM pl.length pk 41 2 ((Rc 0).flatMap dB) by rw[ahB]];refine bL (λ(x:Nat×List Int)=>x.1<=pl.length/\Lf=meets x.2 ((pl.drop x.1).flatMap eG++(J_ (ps.drop (ei+1))++rest))/\∀r∈m,r∈x.2) (λx=>[(129,U O x.1),(127,J nM pl.length pk),(128,U O pl.length),aj 16 Ku,(15,U O ei),(112,U O ei),(110,J (Z ⟨zb,zo,A⟩) ps.length qc),(111,U O ps.length),aj 14 lz,(13,U O i),(104,U O i),(103,U O n),(102,J (Z ⟨vb,vo,A⟩) n nc),aj 3 q,aj 1 p1,aj 2 p2])
    (λx=>gV q ta R x.2::dj ta R x.2::M nM pl.length pk 41 2 ((Rc x.1).flatMap dB)::K Ku [U O (r:Int),J nM pl.length pk] 49::M (Z ⟨zb,zo,A⟩) ps.length qc 49 2 (((es++[(⟨fE Lf r,nM,pk,pl⟩:cW)])++ps.drop (ei+1)).flatMap cF)::K lz [J (Z ⟨zb,zo,A⟩) ps.length qc,J la xs.length lc,U O kd,D on.z,U O on.n,J xa to.length xc] 46::K p1 [G xn,U O (P:Int),U O (R:Int),J (Z ⟨vb,vo,A⟩) n nc] 35::K p2 [G aA,U O 0,U O 0,J A 0 0] 35::M (Z ⟨vb,vo,A⟩) n nc 46 6 (rs.flatMap bm)::((es++ps.drop (ei+1)).map fP++(wR (⟨Z ⟨zb,zo,A⟩,qc,ps,la,lc,xs,kd,on,xa,xc,to⟩:aX)++(rs.eraseIdx i).map ck))) (λx=>pl.length-x.1) (0,m) ⟨aT _,aem,λ_ h=>h⟩ (aS ap (dM (dM (by first|exact ey _|exact .cons _ (.refl _))))) λx ⟨hj,Fw,Ta⟩=>?_
   obtain⟨j,m2⟩:=x;simp only at hj Fw Ta⊢;have abf:m2<+:Lf:=by rw[Fw];exact wu _ _
   have agI:=(R8.pre abf).len;refine aU ?_;refine aI (λh4=>?_) (λh4=>?_)
   ·have jw:j<pl.length:=ax h4
    obtain⟨v,hv⟩:=bf pl j jw;have wl:=aq hv;have hdv:pl.drop j=v::pl.drop (j+1):=by rw[lR jw,(az.1 hv).2]
    have I2:(Rc j)[j]?=Z v:=by
     rw[Tg];simp only;rw[dC dp,aF,dd,iq I,dN,iV,ef];exact hv
    have Jh:(Rc j).set j (cu Lf v)=Rc (j+1):=by
     rw[Tg];simp only;rw[my _ _ dp,aF,dd,iq I,dN,hdv,bW,cz,hv,bz];simp
    have ZO:Lf=meets (meets m2 (eG v)) ((pl.drop (j+1)).flatMap eG++(J_ (ps.drop (ei+1))++rest)):=by
     rw[hdv,gZ,dz,jh]at Fw;exact Fw
    have abg:meets m2 (eG v)<+:Lf:=by
     conv=>rhs;rw[ZO]
     exact wu _ _
    have Ap:cu (meets m2 (eG v)) v=cu Lf v:=DO abg λx hx=>ti.2 (.inr hx);refine fL 2 rfl I λyb yo Fz=>?_;subst Fz;have SJ:bY j pl.length:=⟨jw⟩;have SU:gQ (gV q ta R m2::dj ta R m2::M (Z ⟨yb,yo,A⟩) pl.length pk 41 2 ((Rc j).flatMap dB)::K Ku [U O (r:Int),J (Z ⟨yb,yo,A⟩) pl.length pk] 49::M (Z ⟨zb,zo,A⟩) ps.length qc 49 2 (((es++[(⟨fE Lf r,Z ⟨yb,yo,A⟩,pk,pl⟩:cW)])++ps.drop (ei+1)).flatMap cF)::K lz [J (Z ⟨zb,zo,A⟩) ps.length qc,J la xs.length lc,U O kd,D on.z,U O on.n,J xa to.length xc] 46::K p1 [G xn,U O (P:Int),U O (R:Int),J (Z ⟨vb,vo,A⟩) n nc] 35::K p2 [G aA,U O 0,U O 0,J A 0 0] 35::M (Z ⟨vb,vo,A⟩) n nc 46 6 (rs.flatMap bm)::((es++ps.drop (ei+1)).map fP++(wR (⟨Z ⟨zb,zo,A⟩,qc,ps,la,lc,xs,kd,on,xa,xc,to⟩:aX)++(rs.eraseIdx i).map ck))) yb (yo+j*2) _:=jz (k:=2) rfl eZ I2;simp only[dB]at SU
    repeat(first|refine aE ?_|refine dZ λ_ _=>?_)
    rename_i p18 _;refine bi (H1:=gV q ta R m2::dj ta R m2::K p18 [D v.z,U O v.n] 41::M (Z ⟨yb,yo,A⟩) pl.length pk 41 2 ((Rc j).flatMap dB)::K Ku [U O (r:Int),J (Z ⟨yb,yo,A⟩) pl.length pk] 49::M (Z ⟨zb,zo,A⟩) ps.length qc 49 2 (((es++[(⟨fE Lf r,Z ⟨yb,yo,A⟩,pk,pl⟩:cW)])++ps.drop (ei+1)).flatMap cF)::K lz [J (Z ⟨zb,zo,A⟩) ps.length qc,J la xs.length lc,U O kd,D on.z,U O on.n,J xa to.length xc] 46::K p1 [G xn,U O (P:Int),U O (R:Int),J (Z ⟨vb,vo,A⟩) n nc] 35::K p2 [G aA,U O 0,U O 0,J A 0 0] 35::M (Z ⟨vb,vo,A⟩) n nc 46 6 (rs.flatMap bm)::((es++ps.drop (ei+1)).map fP++(wR (⟨Z ⟨zb,zo,A⟩,qc,ps,la,lc,xs,kd,on,xa,xc,to⟩:aX)++(rs.eraseIdx i).map ck))) (aP.2 λe=>by simp only[bC,br,cq];omega) ?_;have hnv:∀(S:Nat->Prop) (v0 w:C) (H2:List bN),Wd S v0 ([gV q ta R m2,dj ta R m2]++H2) w->iC ae 114 [ar (Z ⟨q,0,A⟩),au #[D v.z,U O v.n]] w λu w'=>∃_x:Unit,u=au #[D (cu Lf v).z,U O (cu Lf v).n]/\Wd (cH [gV q ta R m2,dj ta R m2]) w [gV q ta R (meets m2 (eG v)),dj ta R (meets m2 (eG v))] w'/\True:=λS v0 w H2 hw=>by
     have:=ur q ta R v m2 (wG (aes v wl)) I w hw.pre;rw[Ap]at this;exact this
    have hvC:dB (cu Lf v)=[D (cu Lf v).z,U O (cu Lf v).n]:=rfl;refine dQ [K p18 [D v.z,U O v.n] 41,K Ku [U O (r:Int),J (Z ⟨yb,yo,A⟩) pl.length pk] 49] (λ_:Unit=>True) (λ_=>[(129,U O j),(127,J (Z ⟨yb,yo,A⟩) pl.length pk),(128,U O pl.length),aj 16 Ku,(15,U O ei),(112,U O ei),(110,J (Z ⟨zb,zo,A⟩) ps.length qc),(111,U O ps.length),aj 14 lz,(13,U O i),(104,U O i),(103,U O n),(102,J (Z ⟨vb,vo,A⟩) n nc),aj 3 q,aj 1 p1,aj 2 p2]) (λ_=>gV q ta R (meets m2 (eG v))::dj ta R (meets m2 (eG v))::K p18 [D v.z,U O v.n] 41::M (Z ⟨yb,yo,A⟩) pl.length pk 41 2 ((Rc (j+1)).flatMap dB)::K Ku [U O (r:Int),J (Z ⟨yb,yo,A⟩) pl.length pk] 49::M (Z ⟨zb,zo,A⟩) ps.length qc 49 2 (((es++[(⟨fE Lf r,Z ⟨yb,yo,A⟩,pk,pl⟩:cW)])++ps.drop (ei+1)).flatMap cF)::K lz [J (Z ⟨zb,zo,A⟩) ps.length qc,J la xs.length lc,U O kd,D on.z,U O on.n,J xa to.length xc] 46::K p1 [G xn,U O (P:Int),U O (R:Int),J (Z ⟨vb,vo,A⟩) n nc] 35::K p2 [G aA,U O 0,U O 0,J A 0 0] 35::M (Z ⟨vb,vo,A⟩) n nc 46 6 (rs.flatMap bm)::((es++ps.drop (ei+1)).map fP++(wR (⟨Z ⟨zb,zo,A⟩,qc,ps,la,lc,xs,kd,on,xa,xc,to⟩:aX)++(rs.eraseIdx i).map ck))) mixed aw ?_ λ_ _=>?_
    ·skip
     refine ag 0 ?_;refine ag 1 ?_;refine ag 2 ?_;refine ag 3 ?_;refine ag 4 ?_;refine n9 5 (H1:=[gV q ta R m2,dj ta R m2]) (H2:=K p18 [D v.z,U O v.n] 41::M (Z ⟨yb,yo,A⟩) pl.length pk 41 2 ((Rc j).flatMap dB)::K Ku [U O (r:Int),J (Z ⟨yb,yo,A⟩) pl.length pk] 49::M (Z ⟨zb,zo,A⟩) ps.length qc 49 2 (((es++[(⟨fE Lf r,Z ⟨yb,yo,A⟩,pk,pl⟩:cW)])++ps.drop (ei+1)).flatMap cF)::K lz [J (Z ⟨zb,zo,A⟩) ps.length qc,J la xs.length lc,U O kd,D on.z,U O on.n,J xa to.length xc] 46::K p1 [G xn,U O (P:Int),U O (R:Int),J (Z ⟨vb,vo,A⟩) n nc] 35::K p2 [G aA,U O 0,U O 0,J A 0 0] 35::M (Z ⟨vb,vo,A⟩) n nc 46 6 (rs.flatMap bm)::((es++ps.drop (ei+1)).map fP++(wR (⟨Z ⟨zb,zo,A⟩,qc,ps,la,lc,xs,kd,on,xa,xc,to⟩:aX)++(rs.eraseIdx i).map ck))) (val:=λ_:Unit=>.agg #[D (cu Lf v).z,U O (cu Lf v).n]) (akg:=λ_=>[gV q ta R (meets m2 (eG v)),dj ta R (meets m2 (eG v))]) (φ:=λ_=>True) rfl ai aw (λw hw=>hnv _ _ w _ hw) λ_ _=>?_;simp only[aW,aO];refine ag 6 ?_;refine cm 7 ai (qT 7 3 (j:=j*2) rfl rfl (by rw[cj eZ,aeF];omega) aw ?_);refine eA ai ?_;simp only[cG,bW];rw[<-hvC,jP eZ (by rw[aeF];exact jw),Jh];exact dS () trivial ap aK
    refine aH ?_;exact bj (j+1,meets m2 (eG v)) ⟨I,ZO,λx hx=>ti.2 (.inl (Ta x hx))⟩ bK ap aw
   obtain rfl:pl.length=j:=by have:=of_decide_eq_false h4;omega
   have ahC:Rc pl.length=pl.map (cu Lf):=by rw[Tg];simp
   rw[ahC];rw[iU,qC,aO]at Fw;refine aE ?_;have ly:(es++[(⟨fE Lf r,nM,pk,pl.map (cu Lf)⟩:cW)]).length=ei+1:=by simp[B0]
   have WI:((es++[(⟨fE Lf r,nM,pk,pl⟩:cW)])++ps.drop (ei+1)).flatMap cF=((es++[(⟨fE Lf r,nM,pk,pl.map (cu Lf)⟩:cW)])++ps.drop (ei+1)).flatMap cF:=by
    simp only[iD,gZ,qC,cF,aF]
   rw[WI];refine oU (H':=gV q ta R m2::dj ta R m2::M (Z ⟨zb,zo,A⟩) ps.length qc 49 2 (((es++[(⟨fE Lf r,nM,pk,pl.map (cu Lf)⟩:cW)])++ps.drop (es++[(⟨fE Lf r,nM,pk,pl.map (cu Lf)⟩:cW)]).length).flatMap cF)::K lz [J (Z ⟨zb,zo,A⟩) ps.length qc,J la xs.length lc,U O kd,D on.z,U O on.n,J xa to.length xc] 46::K p1 [G xn,U O (P:Int),U O (R:Int),J (Z ⟨vb,vo,A⟩) n nc] 35::K p2 [G aA,U O 0,U O 0,J A 0 0] 35::M (Z ⟨vb,vo,A⟩) n nc 46 6 (rs.flatMap bm)::(((es++[(⟨fE Lf r,nM,pk,pl.map (cu Lf)⟩:cW)])++ps.drop (es++[(⟨fE Lf r,nM,pk,pl.map (cu Lf)⟩:cW)]).length).map fP++(wR (⟨Z ⟨zb,zo,A⟩,qc,ps,la,lc,xs,kd,on,xa,xc,to⟩:aX)++(rs.eraseIdx i).map ck))) (λw hw=>?_) ?_
   ·refine hw.pick ⟨[K Ku [U O (r:Int),J nM pl.length pk] 49],aP.2 λe=>?_⟩
    have e2:fP (⟨fE Lf r,nM,pk,pl.map (cu Lf)⟩:cW)=M nM pl.length pk 41 2 ((pl.map (cu Lf)).flatMap dB):=by unfold fP;simp only[aF]
    rw[ly];simp only[bz,bT,dn,bC,br,cq,e2];omega
   refine bj (es++[(⟨fE Lf r,nM,pk,pl.map (cu Lf)⟩:cW)],m2) ⟨by simp only[ly];omega,?_,λq hq=>?_,by simp only[ly];exact Fw,λx hx=>Ta x (Ji x hx)⟩ (by simp only[ly];omega) (by simp only[ly];repeat(first|exact trivial|refine⟨rfl,?_⟩)) aK
   ·simp only[ly]
    rw[cz,hu,bz,bz,HH];simp only[mz,bT,dn,cW.kN,JX]
   ·rcases bA.1 hq with hq|hq
    ·exact Ll q hq
    ·rw[bR.1 hq]
     have h5:=Ms Lf r;refine⟨⟨by simp only;omega,by simp only;omega⟩,by simp only[aF];exact hub,λv hv=>?_⟩;simp only at hv;obtain⟨y,hy,rfl⟩:=aV.1 hv;exact zp (huv y hy) I
  have gP:es.length=ps.length:=by have:=of_decide_eq_false h3;omega
  rw[gP,iU,cD];rw[gP,cQ]at HH;rw[gP,iU,show J_ []=[] by rw[Ny];rfl,aO]at Fv;have aep:∀r∈nj ((⟨qa,qc,ps,la,lc,xs,kd,on,xa,xc,to⟩:aX)).eR,r∈m/\0<=r/\r<R:=λr hr=>⟨Ji r (hsB r hr).1,(hsB r hr).2⟩;refine aE ?_;refine bi (H1:=gV q ta R m::dj ta R m::M la xs.length lc 56 8 (xs.flatMap fe)::K lz [J qa ps.length qc,J la xs.length lc,U O kd,D on.z,U O on.n,J xa to.length xc] 46::K p1 [G xn,U O (P:Int),U O (R:Int),J (Z ⟨vb,vo,A⟩) n nc] 35::K p2 [G aA,U O 0,U O 0,J A 0 0] 35::M (Z ⟨vb,vo,A⟩) n nc 46 6 (rs.flatMap bm)::(xs.map j1++(M qa ps.length qc 49 2 (es.flatMap cF)::AQ (⟨qa,qc,ps,la,lc,xs,kd,on,xa,xc,to⟩:aX)::(es.map fP++(rs.eraseIdx i).map ck)))) (aP.2 λe=>?_) ?_
  ·unfold wR
   simp only[bC,br];omega
  refine bL (λ(ys:List jG)=>ys.length<=xs.length/\ys.map (·.x)=(xs.take ys.length).map (λq=>iA Lf q.x)/\∀y∈ys,(dk y.x.op/\dk y.x.dst/\dk y.x.a.n/\dk y.x.b.n/\dk y.x.fn)/\y.x.args.length<=1000/\∀v∈y.x.args,dk v.n) (λys=>[(146,U O ys.length),(144,J la xs.length lc),(145,U O xs.length),aj 14 lz,(13,U O i),(104,U O i),(103,U O n),(102,J (Z ⟨vb,vo,A⟩) n nc),aj 3 q,aj 1 p1,aj 2 p2])
   (λys=>gV q ta R m::dj ta R m::M la xs.length lc 56 8 ((ys++xs.drop ys.length).flatMap fe)::K lz [J qa ps.length qc,J la xs.length lc,U O kd,D on.z,U O on.n,J xa to.length xc] 46::K p1 [G xn,U O (P:Int),U O (R:Int),J (Z ⟨vb,vo,A⟩) n nc] 35::K p2 [G aA,U O 0,U O 0,J A 0 0] 35::M (Z ⟨vb,vo,A⟩) n nc 46 6 (rs.flatMap bm)::((ys++xs.drop ys.length).map j1++(M qa ps.length qc 49 2 (es.flatMap cF)::AQ (⟨qa,qc,ps,la,lc,xs,kd,on,xa,xc,to⟩:aX)::(es.map fP++(rs.eraseIdx i).map ck)))) (λys=>xs.length-ys.length) [] ⟨aT _,rfl,by simp⟩ (aS ap aK) λys ⟨hi5,xK,VW⟩=>?_
  refine aU ?_;refine aI (λh5=>?_) (λh5=>?_)
  ·have bS:ys.length<xs.length:=ax h5
   generalize hyL:ys.length=ei at*;obtain⟨u,hu⟩:=bf xs ei bS;have hum:=aq hu;obtain⟨Tf,hub,huv⟩:=El.ins u hum;obtain⟨x,aa,ak⟩:=u;simp only at Tf hub huv;have qQ:x∈((⟨qa,qc,ps,la,lc,xs,kd,on,xa,xc,to⟩:aX)).eR.list:=aV.2 ⟨_,hum,rfl⟩;have hio:=EH.list x qQ;obtain⟨fs,Aj⟩:=Zy _ Lc x qQ;have Nz:∀r∈rI x,r∈m/\0<=r/\r<R:=λr hr=>aep r (de _ (ct _ (df.2 ⟨x,qQ,hr⟩)));rw[Oa Aj hio]at Nz;have Ap:∀v:cg,(∀r∈eG v,r∈m/\0<=r/\r<R)->∀w:C,Wd (cH [gV q ta R m,dj ta R m]) w [gV q ta R m,dj ta R m] w->iC ae 114 [ar (Z ⟨q,0,A⟩),au #[D v.z,U O v.n]] w λu w'=>∃_x:Unit,u=au #[D (cu Lf v).z,U O (cu Lf v).n]/\Wd (cH [gV q ta R m,dj ta R m]) w [gV q ta R m,dj ta R m] w'/\True:=λv hv w hw=>by
    have:=ur q ta R v m (wG λr hr=>(hv r hr).2) I w hw;rw[JC λr hr=>(hv r hr).1,DO I9 λr hr=>(hv r hr).1]at this;exact this
   have oC:=Ap x.a λr hr=>Nz r (ct _ hr);have NA:=Ap x.b λr hr=>Nz r (de _ (ct _ hr));refine fL 2 rfl I λzb zo GX=>?_;subst GX;have Lr:bY ei xs.length:=⟨bS⟩;have jS:(ys++xs.drop ei)[ei]?=Z (⟨x,aa,ak⟩:jG):=by
    rw[dC I,hyL,dN,iV,ef];exact hu
   have Zm:xs.drop ei=(⟨x,aa,ak⟩:jG)::xs.drop (ei+1):=by rw[lR bS,(az.1 hu).2]
   refine bi (H1:=gV q ta R m::dj ta R m::M aa x.args.length ak 41 2 (x.args.flatMap dB)::M (Z ⟨zb,zo,A⟩) xs.length lc 56 8 ((ys++xs.drop ei).flatMap fe)::K lz [J qa ps.length qc,J (Z ⟨zb,zo,A⟩) xs.length lc,U O kd,D on.z,U O on.n,J xa to.length xc] 46::K p1 [G xn,U O (P:Int),U O (R:Int),J (Z ⟨vb,vo,A⟩) n nc] 35::K p2 [G aA,U O 0,U O 0,J A 0 0] 35::M (Z ⟨vb,vo,A⟩) n nc 46 6 (rs.flatMap bm)::((ys++xs.drop (ei+1)).map j1++(M qa ps.length qc 49 2 (es.flatMap cF)::AQ (⟨qa,qc,ps,Z ⟨zb,zo,A⟩,lc,xs,kd,on,xa,xc,to⟩:aX)::(es.map fP++(rs.eraseIdx i).map ck)))) (aP.2 λe=>?_) ?_
   ·rw[Zm]
    have e2:j1 (⟨x,aa,ak⟩:jG)=M aa x.args.length ak 41 2 (x.args.flatMap dB):=rfl;simp only[bz,bT,bC,br,e2];omega
   have Pw:gQ (gV q ta R m::dj ta R m::M aa x.args.length ak 41 2 (x.args.flatMap dB)::M (Z ⟨zb,zo,A⟩) xs.length lc 56 8 ((ys++xs.drop ei).flatMap fe)::K lz [J qa ps.length qc,J (Z ⟨zb,zo,A⟩) xs.length lc,U O kd,D on.z,U O on.n,J xa to.length xc] 46::K p1 [G xn,U O (P:Int),U O (R:Int),J (Z ⟨vb,vo,A⟩) n nc] 35::K p2 [G aA,U O 0,U O 0,J A 0 0] 35::M (Z ⟨vb,vo,A⟩) n nc 46 6 (rs.flatMap bm)::((ys++xs.drop (ei+1)).map j1++(M qa ps.length qc 49 2 (es.flatMap cF)::AQ (⟨qa,qc,ps,Z ⟨zb,zo,A⟩,lc,xs,kd,on,xa,xc,to⟩:aX)::(es.map fP++(rs.eraseIdx i).map ck)))) zb (zo+ei*8) _:=jz (k:=3) rfl jW jS;simp only[fe]at Pw
   repeat(first|refine aE ?_|refine dZ λ_ _=>?_)
   rename_i AF _;refine bi (H1:=gV q ta R m::dj ta R m::M aa x.args.length ak 41 2 (x.args.flatMap dB)::K AF [U O x.op,U O x.dst,D x.a.z,U O x.a.n,D x.b.z,U O x.b.n,U O x.fn,J aa x.args.length ak] 56::M (Z ⟨zb,zo,A⟩) xs.length lc 56 8 ((ys++xs.drop ei).flatMap fe)::K lz [J qa ps.length qc,J (Z ⟨zb,zo,A⟩) xs.length lc,U O kd,D on.z,U O on.n,J xa to.length xc] 46::K p1 [G xn,U O (P:Int),U O (R:Int),J (Z ⟨vb,vo,A⟩) n nc] 35::K p2 [G aA,U O 0,U O 0,J A 0 0] 35::M (Z ⟨vb,vo,A⟩) n nc 46 6 (rs.flatMap bm)::((ys++xs.drop (ei+1)).map j1++(M qa ps.length qc 49 2 (es.flatMap cF)::AQ (⟨qa,qc,ps,Z ⟨zb,zo,A⟩,lc,xs,kd,on,xa,xc,to⟩:aX)::(es.map fP++(rs.eraseIdx i).map ck)))) (aP.2 λe=>by simp only[bC,br,cq];omega) ?_;refine dQ [] (λ_:Unit=>True) (λ_=>[aj 20 AF,(19,U O ei),(146,U O ei),(144,J (Z ⟨zb,zo,A⟩) xs.length lc),(145,U O xs.length),aj 14 lz,(13,U O i),(104,U O i),(103,U O n),(102,J (Z ⟨vb,vo,A⟩) n nc),aj 3 q,aj 1 p1,aj 2 p2]) (λ_=>gV q ta R m::dj ta R m::M aa x.args.length ak 41 2 (x.args.flatMap dB)::K AF [U O x.op,U O x.dst,D (cu Lf x.a).z,U O (cu Lf x.a).n,D (cu Lf x.b).z,U O (cu Lf x.b).n,U O x.fn,J aa x.args.length ak] 56::M (Z ⟨zb,zo,A⟩) xs.length lc 56 8 ((ys++xs.drop ei).flatMap fe)::K lz [J qa ps.length qc,J (Z ⟨zb,zo,A⟩) xs.length lc,U O kd,D on.z,U O on.n,J xa to.length xc] 46::K p1 [G xn,U O (P:Int),U O (R:Int),J (Z ⟨vb,vo,A⟩) n nc] 35::K p2 [G aA,U O 0,U O 0,J A 0 0] 35::M (Z ⟨vb,vo,A⟩) n nc 46 6 (rs.flatMap bm)::((ys++xs.drop (ei+1)).map j1++(M qa ps.length qc 49 2 (es.flatMap cF)::AQ (⟨qa,qc,ps,Z ⟨zb,zo,A⟩,lc,xs,kd,on,xa,xc,to⟩:aX)::(es.map fP++(rs.eraseIdx i).map ck)))) mixed aw ?_ λ_ _=>?_
   ·skip
    refine ag 0 ?_;refine ag 1 ?_;refine ag 4 ?_;refine ag 5 ?_;refine lm 2 6 ai ?_ ?_
    ·skip
     refine fO 2 rfl aw ?_;refine lm 3 6 ai ?_ ?_
     ·skip
      (refine pK 3 (H1:=[gV q ta R m,dj ta R m]) (H2:=M aa x.args.length ak 41 2 (x.args.flatMap dB)::K AF [U O x.op,U O x.dst,D x.a.z,U O x.a.n,D x.b.z,U O x.b.n,U O x.fn,J aa x.args.length ak] 56::M (Z ⟨zb,zo,A⟩) xs.length lc 56 8 ((ys++xs.drop ei).flatMap fe)::K lz [J qa ps.length qc,J (Z ⟨zb,zo,A⟩) xs.length lc,U O kd,D on.z,U O on.n,J xa to.length xc] 46::K p1 [G xn,U O (P:Int),U O (R:Int),J (Z ⟨vb,vo,A⟩) n nc] 35::K p2 [G aA,U O 0,U O 0,J A 0 0] 35::M (Z ⟨vb,vo,A⟩) n nc 46 6 (rs.flatMap bm)::((ys++xs.drop (ei+1)).map j1++(M qa ps.length qc 49 2 (es.flatMap cF)::AQ (⟨qa,qc,ps,Z ⟨zb,zo,A⟩,lc,xs,kd,on,xa,xc,to⟩:aX)::(es.map fP++(rs.eraseIdx i).map ck)))) (akg:=λ_=>[gV q ta R m,dj ta R m]) (φ:=λ_=>True) (val:=λ_:Unit=>.agg #[D (cu Lf x.a).z,U O (cu Lf x.a).n]) rfl aw (λw hw=>oC w hw.pre) λ_ _=>?_;simp only[aW,aO])
      refine cm 6 ai ?_;refine fO 6 rfl aw ?_;refine ag 8 ?_;refine cm 7 ai ?_;refine pK 7 (H1:=[gV q ta R m,dj ta R m]) (H2:=M aa x.args.length ak 41 2 (x.args.flatMap dB)::K AF [U O x.op,U O x.dst,D x.a.z,U O x.a.n,D x.b.z,U O x.b.n,U O x.fn,J aa x.args.length ak] 56::M (Z ⟨zb,zo,A⟩) xs.length lc 56 8 ((ys++xs.drop ei).flatMap fe)::K lz [J qa ps.length qc,J (Z ⟨zb,zo,A⟩) xs.length lc,U O kd,D on.z,U O on.n,J xa to.length xc] 46::K p1 [G xn,U O (P:Int),U O (R:Int),J (Z ⟨vb,vo,A⟩) n nc] 35::K p2 [G aA,U O 0,U O 0,J A 0 0] 35::M (Z ⟨vb,vo,A⟩) n nc 46 6 (rs.flatMap bm)::((ys++xs.drop (ei+1)).map j1++(M qa ps.length qc 49 2 (es.flatMap cF)::AQ (⟨qa,qc,ps,Z ⟨zb,zo,A⟩,lc,xs,kd,on,xa,xc,to⟩:aX)::(es.map fP++(rs.eraseIdx i).map ck)))) (akg:=λ_=>[gV q ta R m,dj ta R m]) (φ:=λ_=>True) (val:=λ_:Unit=>.agg #[D (cu Lf x.b).z,U O (cu Lf x.b).n]) rfl aw (λw hw=>NA w hw.pre) λ_ _=>?_;simp only[aW,aO];refine cR 9 ai aw ?_;refine ag 10 ?_;refine cR 11 ai aw ?_;refine eA ai ?_;exact dS () trivial ap aK
     ·skip
      refine fO 6 rfl aw ?_;refine cm 3 ai ?_
      (refine pK 3 (H1:=[gV q ta R m,dj ta R m]) (H2:=M aa x.args.length ak 41 2 (x.args.flatMap dB)::K AF [U O x.op,U O x.dst,D x.a.z,U O x.a.n,D x.b.z,U O x.b.n,U O x.fn,J aa x.args.length ak] 56::M (Z ⟨zb,zo,A⟩) xs.length lc 56 8 ((ys++xs.drop ei).flatMap fe)::K lz [J qa ps.length qc,J (Z ⟨zb,zo,A⟩) xs.length lc,U O kd,D on.z,U O on.n,J xa to.length xc] 46::K p1 [G xn,U O (P:Int),U O (R:Int),J (Z ⟨vb,vo,A⟩) n nc] 35::K p2 [G aA,U O 0,U O 0,J A 0 0] 35::M (Z ⟨vb,vo,A⟩) n nc 46 6 (rs.flatMap bm)::((ys++xs.drop (ei+1)).map j1++(M qa ps.length qc 49 2 (es.flatMap cF)::AQ (⟨qa,qc,ps,Z ⟨zb,zo,A⟩,lc,xs,kd,on,xa,xc,to⟩:aX)::(es.map fP++(rs.eraseIdx i).map ck)))) (akg:=λ_=>[gV q ta R m,dj ta R m]) (φ:=λ_=>True) (val:=λ_:Unit=>.agg #[D (cu Lf x.a).z,U O (cu Lf x.a).n]) rfl aw (λw hw=>oC w hw.pre) λ_ _=>?_;simp only[aW,aO])
      refine ag 8 ?_;refine cm 7 ai ?_;refine pK 7 (H1:=[gV q ta R m,dj ta R m]) (H2:=M aa x.args.length ak 41 2 (x.args.flatMap dB)::K AF [U O x.op,U O x.dst,D x.a.z,U O x.a.n,D x.b.z,U O x.b.n,U O x.fn,J aa x.args.length ak] 56::M (Z ⟨zb,zo,A⟩) xs.length lc 56 8 ((ys++xs.drop ei).flatMap fe)::K lz [J qa ps.length qc,J (Z ⟨zb,zo,A⟩) xs.length lc,U O kd,D on.z,U O on.n,J xa to.length xc] 46::K p1 [G xn,U O (P:Int),U O (R:Int),J (Z ⟨vb,vo,A⟩) n nc] 35::K p2 [G aA,U O 0,U O 0,J A 0 0] 35::M (Z ⟨vb,vo,A⟩) n nc 46 6 (rs.flatMap bm)::((ys++xs.drop (ei+1)).map j1++(M qa ps.length qc 49 2 (es.flatMap cF)::AQ (⟨qa,qc,ps,Z ⟨zb,zo,A⟩,lc,xs,kd,on,xa,xc,to⟩:aX)::(es.map fP++(rs.eraseIdx i).map ck)))) (akg:=λ_=>[gV q ta R m,dj ta R m]) (φ:=λ_=>True) (val:=λ_:Unit=>.agg #[D (cu Lf x.b).z,U O (cu Lf x.b).n]) rfl aw (λw hw=>NA w hw.pre) λ_ _=>?_;simp only[aW,aO];refine cR 9 ai aw ?_;refine ag 10 ?_;refine cR 11 ai aw ?_;refine eA ai ?_;exact dS () trivial ap aK
    ·skip
     refine fO 6 rfl aw ?_;refine cm 2 ai ?_;refine fO 2 rfl aw ?_;refine cm 3 ai ?_
     (refine pK 3 (H1:=[gV q ta R m,dj ta R m]) (H2:=M aa x.args.length ak 41 2 (x.args.flatMap dB)::K AF [U O x.op,U O x.dst,D x.a.z,U O x.a.n,D x.b.z,U O x.b.n,U O x.fn,J aa x.args.length ak] 56::M (Z ⟨zb,zo,A⟩) xs.length lc 56 8 ((ys++xs.drop ei).flatMap fe)::K lz [J qa ps.length qc,J (Z ⟨zb,zo,A⟩) xs.length lc,U O kd,D on.z,U O on.n,J xa to.length xc] 46::K p1 [G xn,U O (P:Int),U O (R:Int),J (Z ⟨vb,vo,A⟩) n nc] 35::K p2 [G aA,U O 0,U O 0,J A 0 0] 35::M (Z ⟨vb,vo,A⟩) n nc 46 6 (rs.flatMap bm)::((ys++xs.drop (ei+1)).map j1++(M qa ps.length qc 49 2 (es.flatMap cF)::AQ (⟨qa,qc,ps,Z ⟨zb,zo,A⟩,lc,xs,kd,on,xa,xc,to⟩:aX)::(es.map fP++(rs.eraseIdx i).map ck)))) (akg:=λ_=>[gV q ta R m,dj ta R m]) (φ:=λ_=>True) (val:=λ_:Unit=>.agg #[D (cu Lf x.a).z,U O (cu Lf x.a).n]) rfl aw (λw hw=>oC w hw.pre) λ_ _=>?_;simp only[aW,aO])
     refine ag 8 ?_;refine cm 7 ai ?_;refine pK 7 (H1:=[gV q ta R m,dj ta R m]) (H2:=M aa x.args.length ak 41 2 (x.args.flatMap dB)::K AF [U O x.op,U O x.dst,D x.a.z,U O x.a.n,D x.b.z,U O x.b.n,U O x.fn,J aa x.args.length ak] 56::M (Z ⟨zb,zo,A⟩) xs.length lc 56 8 ((ys++xs.drop ei).flatMap fe)::K lz [J qa ps.length qc,J (Z ⟨zb,zo,A⟩) xs.length lc,U O kd,D on.z,U O on.n,J xa to.length xc] 46::K p1 [G xn,U O (P:Int),U O (R:Int),J (Z ⟨vb,vo,A⟩) n nc] 35::K p2 [G aA,U O 0,U O 0,J A 0 0] 35::M (Z ⟨vb,vo,A⟩) n nc 46 6 (rs.flatMap bm)::((ys++xs.drop (ei+1)).map j1++(M qa ps.length qc 49 2 (es.flatMap cF)::AQ (⟨qa,qc,ps,Z ⟨zb,zo,A⟩,lc,xs,kd,on,xa,xc,to⟩:aX)::(es.map fP++(rs.eraseIdx i).map ck)))) (akg:=λ_=>[gV q ta R m,dj ta R m]) (φ:=λ_=>True) (val:=λ_:Unit=>.agg #[D (cu Lf x.b).z,U O (cu Lf x.b).n]) rfl aw (λw hw=>NA w hw.pre) λ_ _=>?_;simp only[aW,aO];refine cR 9 ai aw ?_;refine ag 10 ?_;refine cR 11 ai aw ?_;refine eA ai ?_;exact dS () trivial ap aK
   refine aH ?_;obtain⟨Q1,Sh⟩:∃f:Nat->List cg,f=λj=>(x.args.take j).map (cu Lf)++x.args.drop j:=⟨_,rfl⟩;have ada:∀j,(Q1 j).length=x.args.length:=λj=>by rw[Sh];simp;omega
   have Sg:Q1 0=x.args:=by rw[Sh];simp
   rw[show M aa x.args.length ak 41 2 (x.args.flatMap dB)=M aa x.args.length ak 41 2 ((Q1 0).flatMap dB) by rw[Sg]];refine bL (λ(j:Nat)=>j<=x.args.length) (λj=>[(164,U O j),(162,J aa x.args.length ak),(163,U O x.args.length),aj 20 AF,(19,U O ei),(146,U O ei),(144,J (Z ⟨zb,zo,A⟩) xs.length lc),(145,U O xs.length),aj 14 lz,(13,U O i),(104,U O i),(103,U O n),(102,J (Z ⟨vb,vo,A⟩) n nc),aj 3 q,aj 1 p1,aj 2 p2])
    (λj=>gV q ta R m::dj ta R m::M aa x.args.length ak 41 2 ((Q1 j).flatMap dB)::K AF [U O x.op,U O x.dst,D (cu Lf x.a).z,U O (cu Lf x.a).n,D (cu Lf x.b).z,U O (cu Lf x.b).n,U O x.fn,J aa x.args.length ak] 56::M (Z ⟨zb,zo,A⟩) xs.length lc 56 8 ((ys++xs.drop ei).flatMap fe)::K lz [J qa ps.length qc,J (Z ⟨zb,zo,A⟩) xs.length lc,U O kd,D on.z,U O on.n,J xa to.length xc] 46::K p1 [G xn,U O (P:Int),U O (R:Int),J (Z ⟨vb,vo,A⟩) n nc] 35::K p2 [G aA,U O 0,U O 0,J A 0 0] 35::M (Z ⟨vb,vo,A⟩) n nc 46 6 (rs.flatMap bm)::((ys++xs.drop (ei+1)).map j1++(M qa ps.length qc 49 2 (es.flatMap cF)::AQ (⟨qa,qc,ps,Z ⟨zb,zo,A⟩,lc,xs,kd,on,xa,xc,to⟩:aX)::(es.map fP++(rs.eraseIdx i).map ck)))) (λj=>x.args.length-j) 0 (aT _) (aS ap aK) λj hj=>?_
   refine aU ?_;refine aI (λh6=>?_) (λh6=>?_)
   ·have jw:j<x.args.length:=ax h6
    obtain⟨v,hv⟩:=bf x.args j jw;have wl:=aq hv;have hdv:x.args.drop j=v::x.args.drop (j+1):=by rw[lR jw,(az.1 hv).2]
    have I2:(Q1 j)[j]?=Z v:=by
     rw[Sh];simp only;rw[dC dp,aF,dd,iq I,dN,iV,ef];exact hv
    have Jh:(Q1 j).set j (cu Lf v)=Q1 (j+1):=by
     rw[Sh];simp only;rw[my _ _ dp,aF,dd,iq I,dN,hdv,bW,cz,hv,bz];simp
    have hvv:=Ap v λr hr=>Nz r (de _ (de _ (ct _ (df.2 ⟨v,wl,hr⟩))));refine fL 2 rfl I λyb yo Fz=>?_;subst Fz;have SJ:bY j x.args.length:=⟨jw⟩;have SU:gQ (gV q ta R m::dj ta R m::M (Z ⟨yb,yo,A⟩) x.args.length ak 41 2 ((Q1 j).flatMap dB)::K AF [U O x.op,U O x.dst,D (cu Lf x.a).z,U O (cu Lf x.a).n,D (cu Lf x.b).z,U O (cu Lf x.b).n,U O x.fn,J (Z ⟨yb,yo,A⟩) x.args.length ak] 56::M (Z ⟨zb,zo,A⟩) xs.length lc 56 8 ((ys++xs.drop ei).flatMap fe)::K lz [J qa ps.length qc,J (Z ⟨zb,zo,A⟩) xs.length lc,U O kd,D on.z,U O on.n,J xa to.length xc] 46::K p1 [G xn,U O (P:Int),U O (R:Int),J (Z ⟨vb,vo,A⟩) n nc] 35::K p2 [G aA,U O 0,U O 0,J A 0 0] 35::M (Z ⟨vb,vo,A⟩) n nc 46 6 (rs.flatMap bm)::((ys++xs.drop (ei+1)).map j1++(M qa ps.length qc 49 2 (es.flatMap cF)::AQ (⟨qa,qc,ps,Z ⟨zb,zo,A⟩,lc,xs,kd,on,xa,xc,to⟩:aX)::(es.map fP++(rs.eraseIdx i).map ck)))) yb (yo+j*2) _:=jz (k:=2) rfl eZ I2;simp only[dB]at SU
    repeat(first|refine aE ?_|refine dZ λ_ _=>?_)
    rename_i p22 _;refine bi (H1:=gV q ta R m::dj ta R m::K p22 [D v.z,U O v.n] 41::M (Z ⟨yb,yo,A⟩) x.args.length ak 41 2 ((Q1 j).flatMap dB)::K AF [U O x.op,U O x.dst,D (cu Lf x.a).z,U O (cu Lf x.a).n,D (cu Lf x.b).z,U O (cu Lf x.b).n,U O x.fn,J (Z ⟨yb,yo,A⟩) x.args.length ak] 56::M (Z ⟨zb,zo,A⟩) xs.length lc 56 8 ((ys++xs.drop ei).flatMap fe)::K lz [J qa ps.length qc,J (Z ⟨zb,zo,A⟩) xs.length lc,U O kd,D on.z,U O on.n,J xa to.length xc] 46::K p1 [G xn,U O (P:Int),U O (R:Int),J (Z ⟨vb,vo,A⟩) n nc] 35::K p2 [G aA,U O 0,U O 0,J A 0 0] 35::M (Z ⟨vb,vo,A⟩) n nc 46 6 (rs.flatMap bm)::((ys++xs.drop (ei+1)).map j1++(M qa ps.length qc 49 2 (es.flatMap cF)::AQ (⟨qa,qc,ps,Z ⟨zb,zo,A⟩,lc,xs,kd,on,xa,xc,to⟩:aX)::(es.map fP++(rs.eraseIdx i).map ck)))) (aP.2 λe=>by simp only[bC,br,cq];omega) ?_;have hvC:dB (cu Lf v)=[D (cu Lf v).z,U O (cu Lf v).n]:=rfl;refine dQ [K p22 [D v.z,U O v.n] 41,K AF [U O x.op,U O x.dst,D (cu Lf x.a).z,U O (cu Lf x.a).n,D (cu Lf x.b).z,U O (cu Lf x.b).n,U O x.fn,J (Z ⟨yb,yo,A⟩) x.args.length ak] 56] (λ_:Unit=>True) (λ_=>[(164,U O j),(162,J (Z ⟨yb,yo,A⟩) x.args.length ak),(163,U O x.args.length),aj 20 AF,(19,U O ei),(146,U O ei),(144,J (Z ⟨zb,zo,A⟩) xs.length lc),(145,U O xs.length),aj 14 lz,(13,U O i),(104,U O i),(103,U O n),(102,J (Z ⟨vb,vo,A⟩) n nc),aj 3 q,aj 1 p1,aj 2 p2]) (λ_=>gV q ta R m::dj ta R m::K p22 [D v.z,U O v.n] 41::M (Z ⟨yb,yo,A⟩) x.args.length ak 41 2 ((Q1 (j+1)).flatMap dB)::K AF [U O x.op,U O x.dst,D (cu Lf x.a).z,U O (cu Lf x.a).n,D (cu Lf x.b).z,U O (cu Lf x.b).n,U O x.fn,J (Z ⟨yb,yo,A⟩) x.args.length ak] 56::M (Z ⟨zb,zo,A⟩) xs.length lc 56 8 ((ys++xs.drop ei).flatMap fe)::K lz [J qa ps.length qc,J (Z ⟨zb,zo,A⟩) xs.length lc,U O kd,D on.z,U O on.n,J xa to.length xc] 46::K p1 [G xn,U O (P:Int),U O (R:Int),J (Z ⟨vb,vo,A⟩) n nc] 35::K p2 [G aA,U O 0,U O 0,J A 0 0] 35::M (Z ⟨vb,vo,A⟩) n nc 46 6 (rs.flatMap bm)::((ys++xs.drop (ei+1)).map j1++(M qa ps.length qc 49 2 (es.flatMap cF)::AQ (⟨qa,qc,ps,Z ⟨zb,zo,A⟩,lc,xs,kd,on,xa,xc,to⟩:aX)::(es.map fP++(rs.eraseIdx i).map ck)))) mixed aw ?_ λ_ _=>?_
    ·skip
     refine ag 0 ?_;refine ag 1 ?_;refine ag 2 ?_;refine ag 3 ?_;refine ag 4 ?_;refine n9 5 (H1:=[gV q ta R m,dj ta R m]) (H2:=K p22 [D v.z,U O v.n] 41::M (Z ⟨yb,yo,A⟩) x.args.length ak 41 2 ((Q1 j).flatMap dB)::K AF [U O x.op,U O x.dst,D (cu Lf x.a).z,U O (cu Lf x.a).n,D (cu Lf x.b).z,U O (cu Lf x.b).n,U O x.fn,J (Z ⟨yb,yo,A⟩) x.args.length ak] 56::M (Z ⟨zb,zo,A⟩) xs.length lc 56 8 ((ys++xs.drop ei).flatMap fe)::K lz [J qa ps.length qc,J (Z ⟨zb,zo,A⟩) xs.length lc,U O kd,D on.z,U O on.n,J xa to.length xc] 46::K p1 [G xn,U O (P:Int),U O (R:Int),J (Z ⟨vb,vo,A⟩) n nc] 35::K p2 [G aA,U O 0,U O 0,J A 0 0] 35::M (Z ⟨vb,vo,A⟩) n nc 46 6 (rs.flatMap bm)::((ys++xs.drop (ei+1)).map j1++(M qa ps.length qc 49 2 (es.flatMap cF)::AQ (⟨qa,qc,ps,Z ⟨zb,zo,A⟩,lc,xs,kd,on,xa,xc,to⟩:aX)::(es.map fP++(rs.eraseIdx i).map ck)))) (val:=λ_:Unit=>.agg #[D (cu Lf v).z,U O (cu Lf v).n]) (akg:=λ_=>[gV q ta R m,dj ta R m]) (φ:=λ_=>True) rfl ai aw (λw hw=>hvv w hw.pre) λ_ _=>?_;simp only[aW,aO];refine ag 6 ?_;refine cm 7 ai (qT 7 3 (j:=j*2) rfl rfl (by rw[cj eZ,ada];omega) aw ?_);refine eA ai ?_;simp only[cG,bW];rw[<-hvC,jP eZ (by rw[ada];exact jw),Jh];exact dS () trivial ap aK
    refine aH ?_;exact bj (j+1) I I ap aw
   obtain rfl:x.args.length=j:=by have:=of_decide_eq_false h6;omega
   have afJ:Q1 x.args.length=x.args.map (cu Lf):=by rw[Sh];simp
   rw[afJ];have ly:(ys++[(⟨iA Lf x,aa,ak⟩:jG)]).length=ei+1:=by simp[hyL]
   have hrC:∀d:Int,nN Lf x.dst=d->fe (⟨iA Lf x,aa,ak⟩:jG)=[U O x.op,U O d,D (cu Lf x.a).z,U O (cu Lf x.a).n,D (cu Lf x.b).z,U O (cu Lf x.b).n,U O x.fn,J aa x.args.length ak]:=λd hd=>by
    subst hd;unfold fe iA;simp only[aF]
   have aeK:(ys++[(⟨iA Lf x,aa,ak⟩:jG)]).map (·.x)=(xs.take (ys++[(⟨iA Lf x,aa,ak⟩:jG)]).length).map (λq=>iA Lf q.x):=by
    rw[ly,cz,hu,bz,bz,xK]
    rfl
   have aeJ:∀y∈ys++[(⟨iA Lf x,aa,ak⟩:jG)],(dk y.x.op/\dk y.x.dst/\dk y.x.a.n/\dk y.x.b.n/\dk y.x.fn)/\y.x.args.length<=1000/\∀v∈y.x.args,dk v.n:=λy hy=>by
    rcases bA.1 hy with hy|hy
    ·exact VW y hy
    ·rw[bR.1 hy]
     refine⟨⟨Tf.1,Yk Tf.2.1 I,zp Tf.2.2.1 I,zp Tf.2.2.2.1 I,Tf.2.2.2.2⟩,by simp only[iA,aF];exact hub,λv hv=>?_⟩;obtain⟨akj,hz,rfl⟩:=aV.1 hv;exact zp (huv akj hz) I
   refine aE ?_;refine aI (λh7=>?_) (λh7=>?_)
   ·have gP:0<=x.dst:=ax h7
    have hd:=Nz x.dst (by rw[if_pos gP];simp);obtain⟨r,hr⟩:∃r:Nat,x.dst=r:=⟨x.dst.toNat,I⟩;have vw:nN Lf x.dst=fE Lf r:=by unfold nN;rw[if_pos gP,hr]
    refine aU ?_;rw[hr]at hd⊢;refine fC (H1:=[gV q ta R m,dj ta R m]++(M aa x.args.length ak 41 2 ((x.args.map (cu Lf)).flatMap dB)::K AF [U O x.op,U O (r:Int),D (cu Lf x.a).z,U O (cu Lf x.a).n,D (cu Lf x.b).z,U O (cu Lf x.b).n,U O x.fn,J aa x.args.length ak] 56::M (Z ⟨zb,zo,A⟩) xs.length lc 56 8 ((ys++xs.drop ei).flatMap fe)::K lz [J qa ps.length qc,J (Z ⟨zb,zo,A⟩) xs.length lc,U O kd,D on.z,U O on.n,J xa to.length xc] 46::K p1 [G xn,U O (P:Int),U O (R:Int),J (Z ⟨vb,vo,A⟩) n nc] 35::K p2 [G aA,U O 0,U O 0,J A 0 0] 35::M (Z ⟨vb,vo,A⟩) n nc 46 6 (rs.flatMap bm)::((ys++xs.drop (ei+1)).map j1++(M qa ps.length qc 49 2 (es.flatMap cF)::AQ (⟨qa,qc,ps,Z ⟨zb,zo,A⟩,lc,xs,kd,on,xa,xc,to⟩:aX)::(es.map fP++(rs.eraseIdx i).map ck))))) rfl ?_;refine fK (val:=λ_:Unit=>.int O (fE Lf r)) (akg:=λ_=>[gV q ta R m,dj ta R m]) (φ:=λ_=>True) rfl (λw hw=>by
     have:=tj q ta R r m I I w hw.pre;rw[B8 hd.1,<-uA I9 hd.1]at this;exact this) λ_ _=>?_
    simp only[aW,aO];refine aE ?_;refine kZ 4 (j:=ei*8) rfl rfl (by rw[cj jW,bX,eY];omega) ?_;have mq:=jP jW (l:=ys++xs.drop ei) (i:=ei) (by rw[bX,eY];omega) (⟨iA Lf x,aa,ak⟩:jG);rw[pL hyL bS,hrC (fE Lf r) vw]at mq;rw[mq];simp only[cG,bW];refine aH ?_;refine oU (H':=gV q ta R m::dj ta R m::M (Z ⟨zb,zo,A⟩) xs.length lc 56 8 (((ys++[(⟨iA Lf x,aa,ak⟩:jG)])++xs.drop (ys++[(⟨iA Lf x,aa,ak⟩:jG)]).length).flatMap fe)::K lz [J qa ps.length qc,J (Z ⟨zb,zo,A⟩) xs.length lc,U O kd,D on.z,U O on.n,J xa to.length xc] 46::K p1 [G xn,U O (P:Int),U O (R:Int),J (Z ⟨vb,vo,A⟩) n nc] 35::K p2 [G aA,U O 0,U O 0,J A 0 0] 35::M (Z ⟨vb,vo,A⟩) n nc 46 6 (rs.flatMap bm)::(((ys++[(⟨iA Lf x,aa,ak⟩:jG)])++xs.drop (ys++[(⟨iA Lf x,aa,ak⟩:jG)]).length).map j1++(M qa ps.length qc 49 2 (es.flatMap cF)::AQ (⟨qa,qc,ps,Z ⟨zb,zo,A⟩,lc,xs,kd,on,xa,xc,to⟩:aX)::(es.map fP++(rs.eraseIdx i).map ck)))) (λw hw=>?_) ?_
    ·refine hw.pick ⟨[K AF [U O x.op,U O (fE Lf r),D (cu Lf x.a).z,U O (cu Lf x.a).n,D (cu Lf x.b).z,U O (cu Lf x.b).n,U O x.fn,J aa x.args.length ak] 56],aP.2 λe=>?_⟩
     have e2:j1 (⟨iA Lf x,aa,ak⟩:jG)=M aa x.args.length ak 41 2 ((x.args.map (cu Lf)).flatMap dB):=by unfold j1 iA;simp only[aF]
     rw[ly];simp only[bz,bT,dn,bC,br,cq,e2];omega
    refine bj (ys++[(⟨iA Lf x,aa,ak⟩:jG)]) ⟨by rw[ly];omega,aeK,aeJ⟩ (by rw[ly];omega) (by simp only[ly];repeat(first|exact trivial|refine⟨rfl,?_⟩)) aK
   ·have agF:¬0<=x.dst:=ax h7
    have vw:nN Lf x.dst=x.dst:=by unfold nN;rw[if_neg agF]
    refine aH ?_;refine kZ 4 (j:=ei*8) rfl rfl (by rw[cj jW,bX,eY];omega) ?_;have mq:=jP jW (l:=ys++xs.drop ei) (i:=ei) (by rw[bX,eY];omega) (⟨iA Lf x,aa,ak⟩:jG);rw[pL hyL bS,hrC x.dst vw]at mq;rw[mq];simp only[cG,bW];refine aH ?_;refine oU (H':=gV q ta R m::dj ta R m::M (Z ⟨zb,zo,A⟩) xs.length lc 56 8 (((ys++[(⟨iA Lf x,aa,ak⟩:jG)])++xs.drop (ys++[(⟨iA Lf x,aa,ak⟩:jG)]).length).flatMap fe)::K lz [J qa ps.length qc,J (Z ⟨zb,zo,A⟩) xs.length lc,U O kd,D on.z,U O on.n,J xa to.length xc] 46::K p1 [G xn,U O (P:Int),U O (R:Int),J (Z ⟨vb,vo,A⟩) n nc] 35::K p2 [G aA,U O 0,U O 0,J A 0 0] 35::M (Z ⟨vb,vo,A⟩) n nc 46 6 (rs.flatMap bm)::(((ys++[(⟨iA Lf x,aa,ak⟩:jG)])++xs.drop (ys++[(⟨iA Lf x,aa,ak⟩:jG)]).length).map j1++(M qa ps.length qc 49 2 (es.flatMap cF)::AQ (⟨qa,qc,ps,Z ⟨zb,zo,A⟩,lc,xs,kd,on,xa,xc,to⟩:aX)::(es.map fP++(rs.eraseIdx i).map ck)))) (λw hw=>?_) ?_
    ·refine hw.pick ⟨[K AF [U O x.op,U O x.dst,D (cu Lf x.a).z,U O (cu Lf x.a).n,D (cu Lf x.b).z,U O (cu Lf x.b).n,U O x.fn,J aa x.args.length ak] 56],aP.2 λe=>?_⟩
     have e2:j1 (⟨iA Lf x,aa,ak⟩:jG)=M aa x.args.length ak 41 2 ((x.args.map (cu Lf)).flatMap dB):=by unfold j1 iA;simp only[aF]
     rw[ly];simp only[bz,bT,dn,bC,br,cq,e2];omega
    refine bj (ys++[(⟨iA Lf x,aa,ak⟩:jG)]) ⟨by rw[ly];omega,aeK,aeJ⟩ (by rw[ly];omega) (by simp only[ly];repeat(first|exact trivial|refine⟨rfl,?_⟩)) aK
  have W6:ys.length=xs.length:=by have:=of_decide_eq_false h5;omega
  rw[W6,iU,cD];rw[W6,cQ]at xK;refine aE ?_;obtain⟨B',sZ⟩:∃B':aX,B'=⟨qa,qc,es,la,lc,ys,kd,cu Lf on,xa,xc,to⟩:=⟨_,rfl⟩;have Sj:B'.eR=iQ Lf ((⟨qa,qc,ps,la,lc,xs,kd,on,xa,xc,to⟩:aX)).eR:=by
   rw[sZ];unfold aX.eR iQ;simp only[HH,xK,dE]
   rfl
  have aaB:B'.Bd:=by
   rw[sZ];exact⟨El.kind,zp El.on I,by simp only[gP];exact Xf,Ll,by simp only[W6];exact Xw,VW,El.to⟩
  have ahy:∀w:C,Wd (cH [gV q ta R m,dj ta R m]) w [gV q ta R m,dj ta R m] w->iC ae 114 [ar (Z ⟨q,0,A⟩),au #[D on.z,U O on.n]] w λu w'=>∃_x:Unit,u=au #[D (cu Lf on).z,U O (cu Lf on).n]/\Wd (cH [gV q ta R m,dj ta R m]) w [gV q ta R m,dj ta R m] w'/\True:=λw hw=>by
   have Ja:∀r∈eG on,r∈m/\0<=r/\r<R:=λr hr=>aep r (de _ (de _ hr));have:=ur q ta R on m (wG λr hr=>(Ja r hr).2) I w hw;rw[JC λr hr=>(Ja r hr).1,DO I9 λr hr=>(Ja r hr).1]at this;exact this
  have mq:(rs.flatMap bm).take (i*6+3)++[D (cu Lf on).z,U O (cu Lf on).n]++(rs.flatMap bm).drop (i*6+3+2)=(rs.set i B').flatMap bm:=by
   obtain⟨B1,hB1⟩:∃B1:aX,B1=⟨qa,qc,ps,la,lc,xs,kd,⟨(cu Lf on).z,on.n⟩,xa,xc,to⟩:=⟨_,rfl⟩;rw[QQ (by rw[cj dX,rR];omega),gN dX hBB (k:=3) (y:=B1) I (by rw[hB1];rfl)];rw[show i*6+3+1=i*6+4 by omega,gN dX (x:=B1) (eK I) (k:=4) (y:=B') I (by rw[hB1,sZ];simp only[bm,gP,W6];rfl),List.set_set]
  refine dQ [K lz [J qa ps.length qc,J la xs.length lc,U O kd,D on.z,U O on.n,J xa to.length xc] 46,K p1 [G xn,U O (P:Int),U O (R:Int),J (Z ⟨vb,vo,A⟩) n nc] 35] (λ_:Unit=>True) (λ_=>[aj 14 lz,(13,U O i),(104,U O i),(103,U O n),(102,J (Z ⟨vb,vo,A⟩) n nc),aj 3 q,aj 1 p1,aj 2 p2]) (λ_=>gV q ta R m::dj ta R m::M la xs.length lc 56 8 (ys.flatMap fe)::K lz [J qa ps.length qc,J la xs.length lc,U O kd,D on.z,U O on.n,J xa to.length xc] 46::K p1 [G xn,U O (P:Int),U O (R:Int),J (Z ⟨vb,vo,A⟩) n nc] 35::K p2 [G aA,U O 0,U O 0,J A 0 0] 35::M (Z ⟨vb,vo,A⟩) n nc 46 6 ((rs.set i B').flatMap bm)::(ys.map j1++(M qa ps.length qc 49 2 (es.flatMap cF)::AQ (⟨qa,qc,ps,la,lc,xs,kd,on,xa,xc,to⟩:aX)::(es.map fP++(rs.eraseIdx i).map ck)))) mixed aw ?_ λ_ _=>?_
  ·skip
   refine ag 0 ?_;refine ag 1 ?_;refine ag 2 ?_;refine ag 3 ?_;refine ag 4 ?_;refine ag 5 ?_;refine ag 6 ?_;refine n9 7 (H1:=[gV q ta R m,dj ta R m]) (H2:=M la xs.length lc 56 8 (ys.flatMap fe)::K lz [J qa ps.length qc,J la xs.length lc,U O kd,D on.z,U O on.n,J xa to.length xc] 46::K p1 [G xn,U O (P:Int),U O (R:Int),J (Z ⟨vb,vo,A⟩) n nc] 35::K p2 [G aA,U O 0,U O 0,J A 0 0] 35::M (Z ⟨vb,vo,A⟩) n nc 46 6 (rs.flatMap bm)::(ys.map j1++(M qa ps.length qc 49 2 (es.flatMap cF)::AQ (⟨qa,qc,ps,la,lc,xs,kd,on,xa,xc,to⟩:aX)::(es.map fP++(rs.eraseIdx i).map ck)))) (val:=λ_:Unit=>.agg #[D (cu Lf on).z,U O (cu Lf on).n]) (akg:=λ_=>[gV q ta R m,dj ta R m]) (φ:=λ_=>True) rfl ai aw (λw hw=>ahy w hw.pre) λ_ _=>?_;simp only[aW,aO];refine ag 8 ?_;refine ag 9 ?_;refine ag 10 ?_;refine cm 11 ai (qT 11 6 (j:=i*6+3) rfl I (by rw[cj dX,rR];omega) aw ?_);refine eA ai ?_;simp only[cG,bW];rw[mq];exact dS () trivial ap aK
  refine aH ?_;have e1:jM B'=M qa ps.length qc 49 2 (es.flatMap cF)::M la xs.length lc 56 8 (ys.flatMap fe)::AQ (⟨qa,qc,ps,la,lc,xs,kd,on,xa,xc,to⟩:aX)::(es.map fP++ys.map j1):=by rw[sZ];simp only[jM,gP,W6,AQ]
  refine oU (H':=jM B'++(gV q ta R m::dj ta R m::K p1 [G xn,U O (P:Int),U O (R:Int),J (Z ⟨vb,vo,A⟩) n nc] 35::K p2 [G aA,U O 0,U O 0,J A 0 0] 35::M (Z ⟨vb,vo,A⟩) n nc 46 6 ((rs.set i B').flatMap bm)::(rs.eraseIdx i).map ck)) (λw hw=>?_) ?_
  ·refine hw.pick ⟨[K lz [J qa ps.length qc,J la xs.length lc,U O kd,D on.z,U O on.n,J xa to.length xc] 46],aP.2 λe=>?_⟩
   rw[e1];simp only[bC,br,cq];omega
  refine GA ?_;have rS:(rs.set i B')[i]?=Z B':=eK I;have Df:=jl ck rS;rw[qA]at Df;refine bi (H1:=gV q ta R m::dj ta R m::K p1 [G xn,U O (P:Int),U O (R:Int),J (Z ⟨vb,vo,A⟩) n nc] 35::K p2 [G aA,U O 0,U O 0,J A 0 0] 35::M (Z ⟨vb,vo,A⟩) n nc 46 6 ((rs.set i B').flatMap bm)::(rs.set i B').map ck) (aP.2 λe=>?_) ?_
  ·have:=aP.1 Df e
   unfold ck at this⊢;simp only[br]at this⊢;omega
  refine bj (i+1,rs.set i B',m) ⟨by simp only;omega,by simp only[eL];exact rR,?_,λb hb=>?_,by rw[<-Bk];exact Fv,λr hr=>Ji r (BG r hr)⟩ bK ap aK
  ·simp only
   rw[eM,hrk,my _ _ dp,aF,dd,iq I,dN,Sq,bW,cz,hB,bz,Sj];simp
  ·rcases kE hb with hb|rfl
   ·exact s7 b hb
   ·exact aaB
 ·obtain rfl:n=i:=by have:=of_decide_eq_false h2;omega
  rw[<-Kq,iU,qC,th]at Xk;rw[<-Kq,cQ,iU,cD]at hrk;subst l;unfold gV;refine aE ?_;have hkF:c9 ⟨xn,(P:Int),(R:Int),bs.map aX.eR⟩=kl:=by rw[Lo,hoD,mE];rfl
  have hnF:en ⟨xn,(P:Int),(R:Int),bs.map aX.eR⟩=⟨xn,(P:Int),(Lf.length:Int),kl.map (iQ Lf)⟩:=by
   unfold en;rw[hkF,acV];simp only[dO]
  rw[hnF,Fj];refine gw rfl λw hw=>⟨(na,nc,rs),by simp only[rR],?_,hrk,s7,by simp only[rR];omega,o_,⟨by simp only;omega,by simp only;omega⟩⟩;refine hw.sub ?_;unfold fS;simp only[rR];exact .cons _ (.cons _ (.cons _ (.cons _ (.refl _))))
theorem P5(X:aY)(R:Nat)(hX:jF X R)(hlen:X.blocks.length<=100)(o_:dk X.params)(w0:C):E0 w0 68 [] [] en X:=Dx X R hX.big hlen o_ w0
end
end Go.Proofs.YthfhgolkafpmnaaGreatDoor
