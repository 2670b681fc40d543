/- Lemmas. -/
import Derived.Test.YthfhgolkafpmnaaGreatDoorID
namespace Go.Proofs.YthfhgolkafpmnaaGreatDoor
open Go.Value renaming int->J,slice->I,pointer->aO,string->aQ,bool->ag,agg->aC
open Go.IntKind renaming i64->Z
open Option renaming some->O,none->U
open Go renaming Value->K,World->ae
open List renaming replicate->aI
open Go.Proofs.Tryz
open Go.Proofs.Tryz renaming prog->Y
open Go Go.RowKit
variable {R:Nat}
section
set_option maxHeartbeats 8000000
attribute [local irreducible] wpListIn Code.wpIn Exit.then Exit.inBlock bodyPost wpQuiet wpAnyIn wpAnyH bodyPostM md
def jI(q b R:Nat)(l:List Int):cq:=aM q [I (O ⟨b,0,U⟩) R R,J Z (l.length:Int)] 153
def eH(b R:Nat)(l:List Int):cq:=G (O ⟨b,0,U⟩) R R 3 1 ((Ad R l).map (J Z))
theorem VU(l:List Int)(r:Int)(h:r∉l):(iK l r).length=l.length+1:=by unfold iK;rw[ai h];simp
theorem vy(q b R r:Nat)(l:List Int)(hr:r<R)(hl:l.length<=1000000)(w:ae)(hw:Wd (df [jI q b R l,eH b R l]) w [jI q b R l,eH b R l] w):
  iL Y 113 [aO (O ⟨q,0,U⟩),J Z (r:Int)] w λu w'=>∃_x:Unit,u=J Z (gH (iK l r) r)/\Wd (df [jI q b R l,eH b R l]) w [jI q b R (iK l r),eH b R (iK l r)] w'/\True:=by
 refine aR func113 rfl ntmps113 rfl hw ?_;generalize df [jI q b R l,eH b R l]=SS;have kK:cg r R:=⟨hr⟩;have pZ:∀m:List Int,MG ((Ad R m).map (J Z)) (r*1) (J Z (if (r:Int)∈m then gH m r else -1)):=λm=>⟨by rw[km,aW,Bx hr];rfl⟩;have aei:=pZ l;have agE:=pZ (iK l r);rw[al (tk.2 (.inr rfl))]at agE;unfold jI eH
 by_cases hm:(r:Int)∈l
 ·rw[al hm]at aei
  rw[Bq hm];have h0:=tu hm;refine aU ?_;rw[show decide (gH l r<0)=false by simp;omega]
  exact dh rfl λw hw=>⟨(),rfl,hw,trivial⟩
 ·rw[ai hm]at aei
  refine aU ?_;rw[show decide ((-1:Int)<0)=true by decide]
  have mT:lS ((Ad R l).map (J Z)) (r*1) (J Z (l.length:Int)) ((Ad R (iK l r)).map (J Z)):=⟨by rw[km,<-eT,RB hm],by rw[aG,xK];omega⟩;refine dI [aM q [I (O ⟨b,0,U⟩) R R,J Z (l.length:Int)] 153] (λ_:Unit=>True) (λ_=>[M 0 q,(1,J Z (r:Int))]) (λ_=>[aM q [I (O ⟨b,0,U⟩) R R,J Z (l.length:Int)] 153,aE (O ⟨b,0,U⟩) R R (Ad R (iK l r))]) mixed aB ?_ λ_ _=>?_
  ·refine W 0 ?_;refine W 1 ?_;refine W 2 ?_;refine W 3 ?_;refine W 4 ?_;refine W 5 ?_;refine W 6 ?_;refine W 7 ?_;refine W 8 ?_;refine W 9 ?_;refine cD 10 E (mW 10 aB ?_);refine ef E ?_;exact dy () trivial V aF
  refine aV ?_;exact dh rfl λw hw=>⟨(),rfl,by rw[VU l r hm,show((l.length+1:Nat):Int)=(l.length:Int)+1 by omega];exact hw,trivial⟩
theorem wi(q b R:Nat)(v:cI)(l:List Int)(hv:kW R v)(hl:l.length<=1000000)(w:ae)(hw:Wd (df [jI q b R l,eH b R l]) w [jI q b R l,eH b R l] w):
  iL Y 114 [aO (O ⟨q,0,U⟩),aC #[ag v.dq,J Z v.n]] w λu w'=>∃_x:Unit,u=aC #[ag (cr (meets l (eR v)) v).dq,J Z (cr (meets l (eR v)) v).n]/\Wd (df [jI q b R l,eH b R l]) w [jI q b R (meets l (eR v)),eH b R (meets l (eR v))] w'/\True:=by
 obtain⟨dq,k⟩:=v;refine aR func114 rfl ntmps114 rfl hw ?_;obtain⟨SS,DT⟩:∃SS,SS=df [jI q b R l,eH b R l]:=⟨_,rfl⟩;rw[<-DT];cases dq with
 |false=>
  have e1:meets l (eR ⟨false,k⟩)=l:=rfl;have e2:cr l ⟨false,k⟩=⟨false,k⟩:=rfl;rw[e1,e2]
  repeat(first|refine aV ?_|refine dd λ_ _=>?_)
  exact fD rfl λw hw=>⟨(),rfl,hw.sub cK,trivial⟩
 |true=>
  obtain⟨h1,h2⟩:=hv rfl;simp only at h1 h2;obtain⟨r,rfl⟩:∃r:Nat,k=r:=⟨k.toNat,A⟩;have e1:meets l (eR ⟨true,r⟩)=iK l r:=rfl;have e2:cr (iK l r) ⟨true,r⟩=⟨true,gH (iK l r) r⟩:=rfl;rw[e1,e2];simp only
  repeat(first|refine aU ?_|refine dd λ_ _=>?_)
  rename_i p3 _ p4 _;refine bG (H1:=[jI q b R l,eH b R l]++[eK p4 false 0,eK p3 true (r:Int)]) (fG (l₁:=[eK p4 false 0,eK p3 true (r:Int)])) ?_;refine fO (val:=λ_:Unit=>.int Z (gH (iK l r) r)) (cZ:=λ_=>[jI q b R (iK l r),eH b R (iK l r)]) (φ:=λ_=>True) rfl (λw hw=>vy q b R r l A hl w hw.pre) λ_ _=>?_;simp only[bF,aS];refine aV ?_;exact fD rfl λw hw=>⟨(),rfl,hw.sub cK,trivial⟩
theorem RX(b0 o0:Nat)(z:Int)(w:ae)(hx:w.cell? ⟨b0,o0,U⟩=O (J Z z)):
  iL Y 108 [I (O ⟨b0,o0,U⟩) 1 1,J Z 0] w λu w'=>∃a:Nat,u=I (O ⟨a,0,U⟩) 0 0/\Wd db w [G (O ⟨a,0,U⟩) 0 0 3 1 []] w'/\True:=by
 refine aR func108 rfl ntmps108 rfl (Wd.nil db w) ?_;refine aU ?_;refine vW rfl rfl ?_;refine bA ?_;refine vW rfl rfl ?_;refine bY rfl (λw' _=>V0 1 0 A A A w') ?_;rw[Nat.mul_zero];refine aV ?_;rw[show decide ((9223372036854775807:Int)<((0:Nat):Int))=false by decide,show decide ((0:Int)<0)=false from rfl];refine aU ?_;refine vW rfl ?_ ?_
 ·rw[IntKind.wrap_i64];omega
 repeat(first|refine bA ?_|refine dd λ_ _=>?_)
 rename_i a _;refine Nf (b:=a) (o:=0) (off:=0) 0 ([]:List K) rfl rfl cK (λw' hw j v hj=>by simp at hj) cK (λv hv=>by cases hv) ?_;simp only[List.replicate_zero,bI];refine aU ?_;refine bH (λ(_:Unit)=>True) (λ_=>[(8,J Z 0),(7,I (O ⟨a,0,U⟩) 0 0)]) (λ_=>[G (O ⟨a,0,U⟩) 0 0 3 1 []]) (λ_=>0) () trivial (aP V aF) λ_ _=>?_;refine aV ?_;exact dh rfl λw hw=>⟨a,rfl,hw,trivial⟩
theorem RY(b0 o0 n:Nat)(z:Int)(w:ae)(hx:w.cell? ⟨b0,o0,U⟩=O (J Z z))(hn:n<=100000):
  iL Y 108 [I (O ⟨b0,o0,U⟩) 1 1,J Z n] w λu w'=>∃a:Nat,u=I (O ⟨a,0,U⟩) n n/\Wd db w [G (O ⟨a,0,U⟩) n n 3 1 (aI n (J Z z))] w'/\True:=by
 rcases Nat.eq_zero_or_pos n with e|e
 ·subst e
  exact RX b0 o0 z w hx
 ·exact Fv b0 o0 n z w hx e hn
theorem yL{v:cI}(h:∀r∈eR v,0<=r/\r<R):kW R v:=λhv=>h v.n (by unfold eR;rw[al hv];simp)
structure S0(X:bZ)(R:Nat):Prop where
 bm:X.bm=R
 le:R<=100000
 ok:eW R X.blocks
 pos:0<X.blocks.length
 par:0<=X.params/\X.params<=R
 GB:∀B∈X.blocks,∀x∈B.list,∃fs,fA fs X.bm x=0
theorem lj.big{X:bZ}(h:lj X R):S0 X R:=⟨h.bm,by have:=h.le;omega,h.ok,h.pos,h.par,h.GB⟩
theorem E8(X:bZ)(R:Nat)(hX:S0 X R)(hlen:X.blocks.length<=100)(vg:dE X.params)(w0:ae):GG w0 68 [] [] fJ X:=by
 classical
 obtain⟨xn,xp,xr,xb⟩:=X;have Sx:=hX.bm;have hR:=hX.le;have hf:=hX.ok;have dW:=hX.pos;have Ps:=hX.par;have Vj:=hX.GB;simp only at Sx hlen vg hf dW Ps Vj;subst Sx;intro a c bs wb gV oF QP hfr hw;simp only at gV;subst gV;have jX:bs.length<=100:=by rw[aG]at hlen;exact hlen
 have hg:=hf.iD;have hk:=i_ hg dW;have EJ:(cQ (bs.map aK.dD)).length=(ek (bs.map aK.dD)).length:=by unfold cQ;rw[ny]
 have KP:=pg dW;rw[aG]at KP dW;obtain⟨P,rfl⟩:∃P:Nat,xp=P:=⟨xp.toNat,A⟩;simp only[aS,cj];refine aR func68 rfl ntmps68 rfl hw ?_;obtain⟨SS,DT⟩:∃SS,SS=df (eM a c bs):=⟨_,rfl⟩;rw[<-DT]
 repeat(first|refine bA ?_|refine dd λ_ _=>?_)
 rename_i p1 _ p2 _;obtain⟨bl,or⟩:∃bl,bl=bs.map aK.dD:=⟨_,rfl⟩;obtain⟨o,G9⟩:∃o,o=cQ bl:=⟨_,rfl⟩;rw[<-or]at hk EJ KP;rw[<-G9]at hk EJ;have YY:o.length<=bs.length:=A;have s_:∀w:ae,aY w (I a bs.length c) 6 bl da->iL Y 107 [aC #[aQ xn,J Z (P:Int),J Z (R:Int),I a bs.length c]] w λu w'=>∃x:ax×Nat,u=I x.1 o.length x.2/\Wd db w [G x.1 o.length x.2 3 1 (o.map dz)] w'/\True:=λw h=>by
  have:=CJ (aQ xn) (J Z (P:Int)) (J Z (R:Int)) bl (I a bs.length c) ⟨_,_,_,rfl⟩ w h (by rw[or,aG];exact jX) (by rw[or];exact hg) (by rw[or,aG];exact dW);rw[EJ,G9];exact this
 have rB:∀w,Wd SS wb (aj p2::D p1 xn (P:Int) (R:Int) a bs.length c::eM a c bs) w->aY w (I a bs.length c) 6 bl da:=λw hw=>by
  rw[or];refine Wd.blocks (H:=[]) (hw.sub (.cons _ (.cons _ ?_))) A oF;rw[cj];exact dU _
 have lZ:∀(y:ax×Nat) (S:Nat->Prop) (v w:ae),Wd S v (eM a c bs++[aj p2,D p1 xn (P:Int) (R:Int) a bs.length c,G y.1 o.length y.2 3 1 (o.map dz)]) w->iL Y 106 [aC #[aQ xn,J Z (P:Int),J Z (R:Int),I a bs.length c],I y.1 o.length y.2] w λu w'=>∃x:ax×Nat×List aK,u=aC #[aQ xn,J Z (P:Int),J Z (R:Int),I x.1 x.2.2.length x.2.1]/\Wd (df (eM a c bs)) w (eM x.1 x.2.1 x.2.2) w'/\
   (x.2.2.map aK.dD=cG bl o/\∀b∈x.2.2,b.Bd):=λy S v w hw=>by
  have:=VD xn (P:Int) (R:Int) a c bs o y.1 y.2 R jX dW oF hf (by rw[<-or];exact hk) w hw.pre (mF hw.kw (k:=2) rfl rfl A λx hx=>by have:=hk.lt x hx;rw[or,aG]at this;omega);rw[<-or]at this;exact this
 refine dI [] (λx:ax×Nat×List aK=>x.2.2.map aK.dD=cG bl o/\∀b∈x.2.2,b.Bd) (λ_=>[M 1 p1,M 2 p2]) (λx=>D p1 xn (P:Int) (R:Int) x.1 x.2.2.length x.2.1::aj p2::eM x.1 x.2.1 x.2.2) mixed aB ?_ λx hx=>?_
 ·refine jL 0 1 E ?_ ?_
  ·refine gM 0 rfl aB ?_;refine cD 1 E ?_;refine gM 1 rfl aB ?_;refine cD 2 E ?_
   (refine gZ 2 (val:=λx:ax×Nat=>.slice x.1 o.length x.2) (cZ:=λx=>[G x.1 o.length x.2 3 1 (o.map dz)]) (φ:=λ_=>True) rfl aB (λw hw=>s_ w (rB w hw)) λy _=>?_;obtain⟨oa,oc⟩:=y;simp only[bF,aS])
   refine cD 3 E ?_
   (refine bG (H1:=eM a c bs++[aj p2,D p1 xn (P:Int) (R:Int) a bs.length c,G oa o.length oc 3 1 (o.map dz)]) fM ?_;refine q_ 3 (val:=λx:ax×Nat×List aK=>.agg #[aQ xn,J Z (P:Int),J Z (R:Int),I x.1 x.2.2.length x.2.1]) (cZ:=λx=>eM x.1 x.2.1 x.2.2) (φ:=λx=>x.2.2.map aK.dD=cG bl o/\∀b∈x.2.2,b.Bd) rfl aB (λw hw=>lZ (oa,oc) _ _ w hw) λz hz=>?_;obtain⟨na,nc,ks⟩:=z;simp only at hz|-)
   refine bG (H1:=D p1 xn (P:Int) (R:Int) a bs.length c::aj p2::G oa o.length oc 3 1 (o.map dz)::eM na nc ks) fM ?_;refine dn 4 E aB ?_;refine ef E ?_;exact dy (na,nc,ks) hz V aB
  ·refine gM 1 rfl aB ?_;refine jL 0 2 E ?_ ?_
   ·refine gM 0 rfl aB ?_;refine cD 2 E ?_
    (refine gZ 2 (val:=λx:ax×Nat=>.slice x.1 o.length x.2) (cZ:=λx=>[G x.1 o.length x.2 3 1 (o.map dz)]) (φ:=λ_=>True) rfl aB (λw hw=>s_ w (rB w hw)) λy _=>?_;obtain⟨oa,oc⟩:=y;simp only[bF,aS])
    refine cD 3 E ?_
    (refine bG (H1:=eM a c bs++[aj p2,D p1 xn (P:Int) (R:Int) a bs.length c,G oa o.length oc 3 1 (o.map dz)]) fM ?_;refine q_ 3 (val:=λx:ax×Nat×List aK=>.agg #[aQ xn,J Z (P:Int),J Z (R:Int),I x.1 x.2.2.length x.2.1]) (cZ:=λx=>eM x.1 x.2.1 x.2.2) (φ:=λx=>x.2.2.map aK.dD=cG bl o/\∀b∈x.2.2,b.Bd) rfl aB (λw hw=>lZ (oa,oc) _ _ w hw) λz hz=>?_;obtain⟨na,nc,ks⟩:=z;simp only at hz|-)
    refine bG (H1:=D p1 xn (P:Int) (R:Int) a bs.length c::aj p2::G oa o.length oc 3 1 (o.map dz)::eM na nc ks) fM ?_;refine dn 4 E aB ?_;refine ef E ?_;exact dy (na,nc,ks) hz V aB
   ·(refine gZ 2 (val:=λx:ax×Nat=>.slice x.1 o.length x.2) (cZ:=λx=>[G x.1 o.length x.2 3 1 (o.map dz)]) (φ:=λ_=>True) rfl aB (λw hw=>s_ w (rB w hw)) λy _=>?_;obtain⟨oa,oc⟩:=y;simp only[bF,aS])
    refine cD 0 E ?_;refine gM 0 rfl aB ?_;refine cD 3 E ?_
    (refine bG (H1:=eM a c bs++[aj p2,D p1 xn (P:Int) (R:Int) a bs.length c,G oa o.length oc 3 1 (o.map dz)]) fM ?_;refine q_ 3 (val:=λx:ax×Nat×List aK=>.agg #[aQ xn,J Z (P:Int),J Z (R:Int),I x.1 x.2.2.length x.2.1]) (cZ:=λx=>eM x.1 x.2.1 x.2.2) (φ:=λx=>x.2.2.map aK.dD=cG bl o/\∀b∈x.2.2,b.Bd) rfl aB (λw hw=>lZ (oa,oc) _ _ w hw) λz hz=>?_;obtain⟨na,nc,ks⟩:=z;simp only at hz|-)
    refine bG (H1:=D p1 xn (P:Int) (R:Int) a bs.length c::aj p2::G oa o.length oc 3 1 (o.map dz)::eM na nc ks) fM ?_;refine dn 4 E aB ?_;refine ef E ?_;exact dy (na,nc,ks) hz V aB
 obtain⟨na,nc,ks⟩:=x;obtain⟨yQ,yB⟩:=hx;simp only at yQ yB|-
 repeat(first|refine bA ?_|refine dd λ_ _=>?_)
 rename_i e1 _;obtain⟨n,hnD⟩:∃n,n=ks.length:=⟨_,rfl⟩;obtain⟨kl,xy⟩:∃kl,kl=cG bl o:=⟨_,rfl⟩;have UP:eW R kl:=by rw[xy];exact jx (by rw[or];exact hf) hk
 have Jw:kl.length=n:=by rw[xy,<-yQ,aG,hnD]
 have akk:n<=100:=by rw[<-Jw,xy,dX];omega
 have Pi:∀B∈kl,∀x∈B.list,∃fs,fA fs (R:Int) x=0:=λB hB x hx=>by
  rw[xy]at hB;unfold cG at hB;obtain⟨b,hb,rfl⟩:=aT.1 hB;exact Vj (bi bl b) (by rw[<-or];exact aA (ck (hk.lt b hb))) x hx
 rw[<-hnD];refine cN (val:=λa:Nat=>.slice (O ⟨a,0,U⟩) R R) (cZ:=λa=>[G (O ⟨a,0,U⟩) R R 3 1 (aI R (J Z (-1)))]) (φ:=λ_=>True) rfl (λw hw=>RY e1 0 R (-1) w (hw.dp (k:=0) (o:=0) (j:=0) rfl rfl) A) λta _=>?_;simp only[bF,aS]
 repeat(first|refine aU ?_|refine dd λ_ _=>?_)
 rename_i q _;refine lr (H':=jI q ta R (fV 0)::eH ta R (fV 0)::D p1 xn (P:Int) (R:Int) na n nc::aj p2::eM na nc ks) (λw hw=>?_) ?_
 ·unfold jI eH
  rw[show(Ad R (fV 0)).map (J Z)=aI R (J Z (-1)) by rw[show fV 0=[]from rfl,V6];simp];exact hw.sub (dN (dN (.cons _ (.refl _))))
 refine bH (λ(r:Nat)=>r<=P) (λr=>[(35,J Z r),(34,J Z P),M 3 q,M 1 p1,M 2 p2]) (λr=>jI q ta R (fV r)::eH ta R (fV r)::D p1 xn (P:Int) (R:Int) na n nc::aj p2::eM na nc ks) (λr=>P-r) 0 (aN _) (aP V aF) λr hr=>?_;refine bA ?_;apply aL<;>intro h1
 ·have hrP:r<P:=aD h1
  refine aU ?_;refine fU (H1:=[jI q ta R (fV r),eH ta R (fV r)]++(D p1 xn (P:Int) (R:Int) na n nc::aj p2::eM na nc ks)) rfl ?_;refine fO (val:=λ_:Unit=>.int Z (gH (iK (fV r) r) r)) (cZ:=λ_=>[jI q ta R (iK (fV r) r),eH ta R (iK (fV r) r)]) (φ:=λ_=>True) rfl (λw hw=>vy q ta R r (fV r) A (by rw[rz];omega) w hw.pre) λ_ _=>?_;rw[RD];simp only[bF,aS];refine aU ?_;exact a_ (r+1) A A V aF
 have hrP:r=P:=by have:=cE h1;omega
 subst r;refine aV ?_;let Td:=[D p1 xn (P:Int) (R:Int) na n nc,aj p2];refine fU (H1:=(jI q ta R (fV P)::eH ta R (fV P)::Td)++eM na nc ks) rfl ?_<;>(try unfold Td);refine mA λw1 mS=>?_;have hks:aY (cC (df [jI q ta R (fV P),eH ta R (fV P),D p1 xn (P:Int) (R:Int) na n nc,aj p2]) w1) (I na n nc) 6 kl da:=by
  have:=Wd.blocks (H:=[]) (ba:=na) (bc:=nc) (bs:=ks) (by rw[cj];exact mS.kw) A yB;rw[yQ,<-hnD,<-xy]at this;exact this
 have back:∀{cZ:List cq} {w:ae},Wd (df (jI q ta R (fV P)::eH ta R (fV P)::Td)) (cC (df (jI q ta R (fV P)::eH ta R (fV P)::Td)) w1) cZ w->Wd SS wb (cZ++eM na nc ks) w:=λhw=>mS.comp hw.ni;have hold:∀{b o:Nat} {v:K} {l:List K},ct (cC (df (jI q ta R (fV P)::eH ta R (fV P)::Td)) w1) b o (v::l)->iO (df (jI q ta R (fV P)::eH ta R (fV P)::Td)) b:=λhc=>iF hc cK;generalize cC (df (jI q ta R (fV P)::eH ta R (fV P)::Td)) w1=wk at*;generalize df (jI q ta R (fV P)::eH ta R (fV P)::Td)=S2 at*;let Tq:=[(43,I na n nc),(44,J Z n),M 3 q,M 1 p1,M 2 p2];refine bH (λ(x:Nat×List Int)=>x.1<=n/\x.2=meets (fV P) ((kl.take x.1).flatMap mZ)) (λx=>(45,J Z x.1)::Tq) (λx=>jI q ta R x.2::eH ta R x.2::Td) (λx=>n-x.1) (0,fV P) ⟨aN _,by simp[sJ]⟩ (aP V aF) λx ⟨hi,hl⟩=>?_<;>(try unfold Td)<;>(try unfold Tq);obtain⟨i,l⟩:=x;simp only at hi hl|-
 have gV:∀B∈kl,∀r,r∈mZ B\/r∈pS B->0<=r/\r<R:=λB hB r hr=>nH UP hB hr;have QX:wN R l:=by
  rw[hl];refine(wN.par A).meets λr hr=>?_;obtain⟨B,hB,hr⟩:=dg.1 hr;exact gV B (nz hB) r (.inl hr)
 refine bA ?_;apply aL<;>intro h2
 ·have iM:i<n:=aD h2
  obtain⟨B,hB⟩:=bE kl i A;have DS:=aA hB;have Cp:=UP.block i B hB;obtain⟨b1,o1,Ge,zw,tN⟩:=fd hks hold (λ_ _ h=>by obtain⟨_,_,_,e,_⟩:=h;exact⟨_,_,e⟩) (aZ hB);obtain⟨_,IC,pv,lv,tv,rfl,_,_,wP,kK,ht⟩:=tN i B hB;have KJ:cg i n:=⟨iM⟩;obtain⟨pa,pn,pc,_,_,rfl,As,acw,NC,_⟩:=id wP;obtain⟨xa,xm,xc,_,_,rfl,Mw,Zg,Zf,_⟩:=id kK;obtain⟨F4,F6,F5,_,_,rfl,_⟩:=id ht
  repeat(first|refine aV ?_|refine dd λ_ _=>?_)
  rename_i p6 _;refine bG (H1:=(jI q ta R l::eH ta R l::au p6 pa pn pc xa xm xc B.kind B.on F4 F6 F5::Td)) fM ?_<;>(try unfold Td);have Q3:∀r∈mZ B,0<=r/\r<R:=λr hr=>gV B DS r (.inl hr);refine bH (λ(x:Nat×List Int)=>x.1<=pn/\x.2=meets l ((B.bg.take x.1).map (·.dst))) (λx=>(52,J Z x.1)::(50,I pa pn pc)::(51,J Z pn)::M 6 p6::(45,J Z i)::Tq) (λx=>jI q ta R x.2::eH ta R x.2::au p6 pa pn pc xa xm xc B.kind B.on F4 F6 F5::Td) (λx=>pn-x.1) (0,l) ⟨aN _,rfl⟩ (aP V aF) λx ⟨hj,hm⟩=>?_<;>(try unfold Td)<;>(try unfold Tq);obtain⟨j,m⟩:=x;simp only at hj hm|-
  have EI:wN R m:=by
   rw[hm];refine QX.meets λr hr=>Q3 r ?_;obtain⟨p,hp,rfl⟩:=aT.1 hr;exact cM _ (aT.2 ⟨p,nz hp,rfl⟩)
  refine bA ?_;apply aL<;>intro h3
  ·have iS:j<pn:=aD h3
   obtain⟨ph,Cw⟩:=bE B.bg j A;have hd:=Q3 ph.dst (cM _ (aT.2 ⟨ph,aA Cw,rfl⟩));obtain⟨r,hr⟩:∃r:Nat,ph.dst=r:=⟨ph.dst.toNat,A⟩;obtain⟨b2,o2,uu,td,r_⟩:=fd wP hold (λ_ _ h=>by obtain⟨_,e,_⟩:=h;exact⟨_,_,e⟩) (aZ Cw);obtain⟨_,uv,sv,rfl,_,rC⟩:=r_ j ph Cw;obtain⟨sva,svn,svc,_,_,rfl,_⟩:=id rC;have aeP:cg j pn:=⟨iS⟩
   repeat(first|refine aV ?_|refine dd λ_ _=>?_)
   rename_i p8 _;rw[hr];refine bG (H1:=[jI q ta R m,eH ta R m]++(bN p8 (r:Int) sva svn svc::au p6 pa pn pc xa xm xc B.kind B.on F4 F6 F5::Td)) fM ?_<;>(try unfold Td);refine fO (val:=λ_:Unit=>.int Z (gH (iK m r) r)) (cZ:=λ_=>[jI q ta R (iK m r),eH ta R (iK m r)]) (φ:=λ_=>True) rfl (λw hw=>vy q ta R r m A (by have:=EI.len;omega) w hw.pre) λ_ _=>?_;simp only[bF,aS];refine aU ?_;exact a_ (j+1,iK m r) ⟨A,by rw[bV,Cw,bz,fz,<-hm,<-hr];rfl⟩ bB V aB
  obtain rfl:pn=j:=by have:=cE h3;omega
  rw[As,cL]at hm;refine aV ?_;refine bH (λ(x:Nat×List Int)=>x.1<=xm/\x.2=meets m ((B.list.take x.1).flatMap rM)) (λx=>(64,J Z x.1)::(62,I xa xm xc)::(63,J Z xm)::M 6 p6::(45,J Z i)::Tq) (λx=>jI q ta R x.2::eH ta R x.2::au p6 pa pn pc xa xm xc B.kind B.on F4 F6 F5::Td) (λx=>xm-x.1) (0,m) ⟨aN _,rfl⟩ (aP V aF) λx ⟨hk1,F0⟩=>?_<;>(try unfold Td)<;>(try unfold Tq);obtain⟨k,m2⟩:=x;simp only at hk1 F0|-
  have hsI:∀x∈B.list,∀r∈rM x,0<=r/\r<R:=λx hx r hr=>Q3 r (en _ (cM _ (dg.2 ⟨x,hx,hr⟩)));have A9:wN R m2:=by
   rw[F0];refine EI.meets λr hr=>?_;obtain⟨x,hx,hr⟩:=dg.1 hr;exact hsI x (nz hx) r hr
  refine bA ?_;apply aL<;>intro h4
  ·have B0:k<xm:=aD h4
   obtain⟨x,hx⟩:=bE B.list k A;have qH:=aA hx;have hio:=Cp.list x qH;obtain⟨fs,Xx⟩:=Pi B DS x qH;have JB:=hsI x qH;have hsq:=Jf Xx hio;rw[hsq]at JB;have jD:meets m ((B.list.take (k+1)).flatMap rM)=meets m2 (rM x):=by rw[bV,hx,ee,fz,<-F0];simp
   rw[hsq]at jD;obtain⟨b2,o2,uu,td,r_⟩:=fd kK hold (λ_ _ h=>by obtain⟨_,e,_⟩:=h;exact⟨_,_,e⟩) (aZ hx);obtain⟨_,uv,av,rfl,_,_,_,_,_,Mo⟩:=r_ k x hx;obtain⟨ava,OS,avc,_,_,rfl,agF,_,ajB,_⟩:=id Mo;have ahy:cg k xm:=⟨B0⟩
   repeat(first|refine aV ?_|refine dd λ_ _=>?_)
   rename_i zB _;let Ts:=(bK zB x.op x.dst x.a x.b x.fn ava OS avc::au p6 pa pn pc xa xm xc B.kind B.on F4 F6 F5::Td);refine bG (H1:=[jI q ta R m2,eH ta R m2]++Ts) fM ?_<;>(try unfold Ts)<;>(try unfold Td);refine fO (val:=λ_:Unit=>.agg #[ag (cr (meets m2 (eR x.a)) x.a).dq,J Z (cr (meets m2 (eR x.a)) x.a).n]) (cZ:=λ_=>[jI q ta R (meets m2 (eR x.a)),eH ta R (meets m2 (eR x.a))]) (φ:=λ_=>True) rfl (λw hw=>wi q ta R x.a m2 (yL λr hr=>JB r (cM _ hr)) (by have:=A9.len;omega) w hw.pre) λ_ _=>?_;simp only[bF,aS];obtain⟨m3,hm3⟩:∃m3,m3=meets m2 (eR x.a):=⟨_,rfl⟩;rw[<-hm3];have KM:wN R m3:=by rw[hm3];exact A9.meets λr hr=>JB r (cM _ hr)
   rw[fz,<-hm3]at jD;refine bA ?_;refine fU (H1:=[jI q ta R m3,eH ta R m3]++Ts) rfl ?_<;>(try unfold Ts)<;>(try unfold Td);refine fO (val:=λ_:Unit=>.agg #[ag (cr (meets m3 (eR x.b)) x.b).dq,J Z (cr (meets m3 (eR x.b)) x.b).n]) (cZ:=λ_=>[jI q ta R (meets m3 (eR x.b)),eH ta R (meets m3 (eR x.b))]) (φ:=λ_=>True) rfl (λw hw=>wi q ta R x.b m3 (yL λr hr=>JB r (en _ (cM _ hr))) (by have:=KM.len;omega) w hw.pre) λ_ _=>?_;simp only[bF,aS];obtain⟨m4,hm4⟩:∃m4,m4=meets m3 (eR x.b):=⟨_,rfl⟩;rw[<-hm4];have aeX:wN R m4:=by rw[hm4];exact KM.meets λr hr=>JB r (en _ (cM _ hr))
   rw[fz,<-hm4,fz]at jD;refine aU ?_;let Tt:=bK zB x.op x.dst x.a x.b x.fn ava OS avc::au p6 pa pn pc xa xm xc B.kind B.on F4 F6 F5::Td;refine bH (λ(y:Nat×List Int)=>y.1<=OS/\y.2=meets m4 ((x.args.take y.1).flatMap eR)) (λy=>(79,J Z y.1)::(77,I ava OS avc)::(78,J Z OS)::M 10 zB::(64,J Z k)::(62,I xa xm xc)::(63,J Z xm)::M 6 p6::(45,J Z i)::Tq) (λy=>jI q ta R y.2::eH ta R y.2::Tt) (λy=>OS-y.1) (0,m4) ⟨aN _,rfl⟩ (aP V aF) λy ⟨UA,hm5⟩=>?_<;>(try unfold Tt)<;>(try unfold Td)<;>(try unfold Tq);obtain⟨e,m5⟩:=y;simp only at UA hm5|-
   have aaF:wN R m5:=by
    rw[hm5];refine aeX.meets λr hr=>JB r ?_;obtain⟨v,hv,hr⟩:=dg.1 hr;exact en _ (en _ (cM _ (dg.2 ⟨v,nz hv,hr⟩)))
   refine bA ?_;apply aL<;>intro h5
   ·have iw:e<OS:=aD h5
    obtain⟨v,hv⟩:=bE x.args e A;obtain⟨b3,o3,Ul,C6,ID⟩:=fd Mo hold (λ_ _ h=>⟨_,_,h.1⟩) (aZ hv);obtain⟨_,KB,rfl,_⟩:=ID e v hv;have ahx:cg e OS:=⟨iw⟩
    repeat(first|refine aV ?_|refine dd λ_ _=>?_)
    rename_i tQ _;refine bG (H1:=[jI q ta R m5,eH ta R m5]++(cO tQ v::Tt)) fM ?_<;>(try unfold Tt)<;>(try unfold Td);refine fO (val:=λ_:Unit=>.agg #[ag (cr (meets m5 (eR v)) v).dq,J Z (cr (meets m5 (eR v)) v).n]) (cZ:=λ_=>[jI q ta R (meets m5 (eR v)),eH ta R (meets m5 (eR v))]) (φ:=λ_=>True) rfl (λw hw=>wi q ta R v m5 (yL λr hr=>JB r (en _ (en _ (cM _ (dg.2 ⟨v,aA hv,hr⟩))))) (by have:=aaF.len;omega) w hw.pre) λ_ _=>?_;simp only[bF,aS];refine aU ?_;exact a_ (e+1,meets m5 (eR v)) ⟨A,by rw[bV,hv,ee,fz,<-hm5];simp⟩ bB V aB
   obtain rfl:OS=e:=by have:=cE h5;omega
   rw[agF,cL]at hm5;rw[<-hm5]at jD;refine aV ?_;apply aL<;>intro h6
   ·have fX:0<=x.dst:=aD h6
    rw[al fX,Hs]at jD;have hd:=JB x.dst (by rw[al fX];simp);obtain⟨r,hr⟩:∃r:Nat,x.dst=r:=⟨x.dst.toNat,A⟩;refine bA ?_;rw[hr]at jD|-
    refine fU (H1:=[jI q ta R m5,eH ta R m5]++(bK zB x.op (r:Int) x.a x.b x.fn ava OS avc::au p6 pa pn pc xa xm xc B.kind B.on F4 F6 F5::Td)) rfl ?_<;>(try unfold Td);refine fO (val:=λ_:Unit=>.int Z (gH (iK m5 r) r)) (cZ:=λ_=>[jI q ta R (iK m5 r),eH ta R (iK m5 r)]) (φ:=λ_=>True) rfl (λw hw=>vy q ta R r m5 A (by have:=aaF.len;omega) w hw.pre) λ_ _=>?_;simp only[bF,aS];refine aU ?_;exact a_ (k+1,iK m5 r) ⟨A,jD.symm⟩ bB V aB
   ·have ce:¬0<=x.dst:=aD h6
    rw[ai ce,sJ]at jD;refine aU ?_;exact a_ (k+1,m5) ⟨A,jD.symm⟩ bB V aB
  obtain rfl:xm=k:=by have:=cE h4;omega
  rw[Mw,cL]at F0;refine aV ?_;refine fU (H1:=[jI q ta R m2,eH ta R m2]++(au p6 pa pn pc xa xm xc B.kind B.on F4 F6 F5::Td)) rfl ?_<;>(try unfold Td);refine fO (val:=λ_:Unit=>.agg #[ag (cr (meets m2 (eR B.on)) B.on).dq,J Z (cr (meets m2 (eR B.on)) B.on).n]) (cZ:=λ_=>[jI q ta R (meets m2 (eR B.on)),eH ta R (meets m2 (eR B.on))]) (φ:=λ_=>True) rfl (λw hw=>wi q ta R B.on m2 Cp.on (by have:=A9.len;omega) w hw.pre) λ_ _=>?_;simp only[bF,aS];refine aU ?_;exact a_ (i+1,meets m2 (eR B.on)) ⟨A,by rw[bV,hB,ee,fz,<-hl,F0,hm,<-fz,<-fz];simp[mZ]⟩ bB V aB
 obtain rfl:n=i:=by have:=cE h2;omega
 rw[<-Jw,cL]at hl;refine aV ?_;refine rp back ?_;clear hold hks;obtain⟨Lf,ad2⟩:∃Lf,Lf=l_ P kl:=⟨_,rfl⟩;obtain⟨L1,Yx⟩:∃L1,L1=l:=⟨_,rfl⟩;have hLf:Lf=meets L1 (kl.flatMap pS):=by
  rw[Yx,hl,ad2,<-fz];unfold l_ DG Ah;rw[fz];congr 1;exact vA (qL P)
 have Ue:wN R L1:=by rw[Yx];exact QX
 have Uf:wN R Lf:=by
  rw[hLf];refine Ue.meets λr hr=>?_;obtain⟨B,hB,hr⟩:=dg.1 hr;exact gV B hB r (.inr hr)
 have ad1:∀B∈kl,∀r∈mZ B,r∈L1:=λB hB r hr=>by
  rw[Yx,hl];exact vw.2 (.inr (dg.2 ⟨B,hB,hr⟩))
 have ajj:Lf.length<=100000:=by have:=Uf.len;omega
 rw[<-Yx];clear hl QX;refine lr (H':=jI q ta R L1::eH ta R L1::D p1 xn (P:Int) (R:Int) na n nc::aj p2::am na n nc ks::ks.map bP) (λw hw=>by have h9:=hw;unfold eM at h9;rw[<-hnD]at h9;exact h9) ?_
 refine bH (λ(x:Nat×List aK×List Int)=>x.1<=n/\x.2.1.length=n/\x.2.1.map aK.dD=(kl.take x.1).map (py Lf)++kl.drop x.1/\(∀b∈x.2.1,b.Bd)/\Lf=meets x.2.2 ((kl.drop x.1).flatMap pS)/\∀r∈L1,r∈x.2.2) (λx=>[(104,J Z x.1),(103,J Z n),(102,I na n nc),M 3 q,M 1 p1,M 2 p2])
  (λx=>jI q ta R x.2.2::eH ta R x.2.2::D p1 xn (P:Int) (R:Int) na n nc::aj p2::am na n nc x.2.1::x.2.1.map bP) (λx=>n-x.1) (0,ks,L1) ⟨aN _,hnD.symm,by rw[yQ,<-xy];simp,yB,by rw[hLf];rfl,λ_ h=>h⟩ (aP V aF) λx ⟨hi,oG,Mu,rB,Y5,Gi⟩=>?_
 obtain⟨i,rs,l⟩:=x;simp only at hi oG Mu rB Y5 Gi|-
 refine bA ?_;apply aL<;>intro h2
 ·have iM:i<n:=aD h2
  obtain⟨BB,Ko⟩:∃B,rs[i]?=O B:=⟨_,bL A⟩;have hB:kl[i]?=O BB.dD:=by
   have h3:(rs.map aK.dD)[i]?=O BB.dD:=by rw[aW,Ko];rfl
   rw[Mu,dH dr,aG,dA,fP A,cV,gp,dR]at h3;exact h3
  have Cq:kl.drop i=BB.dD::kl.drop (i+1):=by rw[jb A,(aJ.1 hB).2]
  have DS:=aA hB;have Cp:=UP.block i _ hB;have rP:=rB _ (aA Ko);obtain⟨qa,qc,ps,la,lc,xs,kd,on,xa,xc,to⟩:=BB;have Q3:∀r∈mZ ((⟨qa,qc,ps,la,lc,xs,kd,on,xa,xc,to⟩:aK)).dD,r∈l/\0<=r/\r<R:=λr hr=>⟨Gi r (ad1 _ DS r hr),gV _ DS r (.inl hr)⟩;obtain⟨L3,Hh⟩:∃f:List ch->List Int,f=λps=>ps.flatMap λq=>q.l.flatMap eR:=⟨_,rfl⟩;have afr:pS ((⟨qa,qc,ps,la,lc,xs,kd,on,xa,xc,to⟩:aK)).dD=L3 ps:=by
   rw[Hh];unfold pS aK.dD;simp only[qS]
   rfl
  obtain⟨rest,C8⟩:∃rest,rest=(kl.drop (i+1)).flatMap pS:=⟨_,rfl⟩;rw[Cq,fj,afr,<-C8]at Y5;have Dx:ps.length<=1000:=rP.bg;have K0:xs.length<=1000:=rP.list;refine fy 4 rfl A λvb vo qt=>?_;subst qt;have KJ:cg i n:=⟨iM⟩;have zu:gm (jI q ta R l::eH ta R l::D p1 xn (P:Int) (R:Int) (O ⟨vb,vo,U⟩) n nc::aj p2::am (O ⟨vb,vo,U⟩) n nc rs::rs.map bP) vb (vo+i*6) _:=jJ (k:=4) rfl de Ko;simp only[eA,D,aj,am]at zu
  repeat(first|refine aV ?_|refine dd λ_ _=>?_)
  rename_i nk _;have EL:=ig bP Ko;let To:=(au nk qa ps.length qc la xs.length lc kd on xa to.length xc::jI q ta R l::eH ta R l::D p1 xn (P:Int) (R:Int) (O ⟨vb,vo,U⟩) n nc::aj p2::am (O ⟨vb,vo,U⟩) n nc rs::(rs.eraseIdx i).map bP);refine bG (H1:=bP (⟨qa,qc,ps,la,lc,xs,kd,on,xa,xc,to⟩:aK)::To) (aX.2 λe=>?_) ?_<;>try unfold To
  ·have:=aX.1 EL e
   simp only[bM,D,aj,am,au]at this|-
   omega
  refine uY ?_;let Tv:=(ps.map dZ++(oz (⟨qa,qc,ps,la,lc,xs,kd,on,xa,xc,to⟩:aK)++(rs.eraseIdx i).map bP));refine bG (H1:=jI q ta R l::eH ta R l::aw qa ps.length qc ps::au nk qa ps.length qc la xs.length lc kd on xa to.length xc::D p1 xn (P:Int) (R:Int) (O ⟨vb,vo,U⟩) n nc::aj p2::am (O ⟨vb,vo,U⟩) n nc rs::Tv) (aX.2 λe=>?_) ?_<;>try unfold Tv
  ·have:=aX.1 (xd (⟨qa,qc,ps,la,lc,xs,kd,on,xa,xc,to⟩:aK)) e
   unfold phV at this;simp only[bM,bU,D,aj,am,au,aw]at this|-
   omega
  refine bH (λ(x:List ch×List Int)=>x.1.length<=ps.length/\x.1.map ch.iN=(ps.take x.1.length).map (λq=>Gs Lf q.iN)/\(∀q∈x.1,dE q.dst/\q.l.length<=1000/\∀v∈q.l,dE v.n)/\Lf=meets x.2 (L3 (ps.drop x.1.length)++rest)/\∀r∈l,r∈x.2) (λx=>[(112,J Z x.1.length),(110,I qa ps.length qc),(111,J Z ps.length),M 14 nk,(13,J Z i),(104,J Z i),(103,J Z n),(102,I (O ⟨vb,vo,U⟩) n nc),M 3 q,M 1 p1,M 2 p2])
   (λx=>jI q ta R x.2::eH ta R x.2::aw qa ps.length qc (x.1++ps.drop x.1.length)::au nk qa ps.length qc la xs.length lc kd on xa to.length xc::D p1 xn (P:Int) (R:Int) (O ⟨vb,vo,U⟩) n nc::aj p2::am (O ⟨vb,vo,U⟩) n nc rs::((x.1++ps.drop x.1.length).map dZ++(oz (⟨qa,qc,ps,la,lc,xs,kd,on,xa,xc,to⟩:aK)++(rs.eraseIdx i).map bP))) (λx=>ps.length-x.1.length) ([],l) ⟨aN _,rfl,by simp,Y5,λ_ h=>h⟩ (aP V aF) λx ⟨Ju,vZ,zR,He,KV⟩=>?_
  obtain⟨es,m⟩:=x;simp only at Ju vZ zR He KV|-
  have KN:m<+:Lf:=by rw[He];exact yF _ _
  have ai8:=(Uf.pre KN).len;refine bA ?_;apply aL<;>intro h3
  ·have ce:es.length<ps.length:=aD h3
   generalize tO:es.length=ei at*;obtain⟨u,hu⟩:=bE ps ei ce;have F2:=aA hu;obtain⟨hud,Gk,ES⟩:=rP.iN u F2;obtain⟨pd,iq,pk,pl⟩:=u;simp only at hud Gk ES;obtain⟨ah1,akA,akB⟩:=Q3 pd (cM _ (aT.2 ⟨⟨pd,pl⟩,aT.2 ⟨⟨pd,iq,pk,pl⟩,F2,rfl⟩,rfl⟩));have ae9:=KV pd ah1;obtain⟨r,rfl⟩:∃r:Nat,pd=r:=⟨pd.toNat,A⟩;refine fy 2 rfl A λzb zo Bk=>?_;subst Bk;have Dt:cg ei ps.length:=⟨ce⟩;have jT:(es++ps.drop ei)[ei]?=O (⟨r,iq,pk,pl⟩:ch):=by
    rw[dH A,tO,cV,gp,dR];exact hu
   have BZ:ps.drop ei=(⟨r,iq,pk,pl⟩:ch)::ps.drop (ei+1):=by rw[jb ce,(aJ.1 hu).2]
   have afn:Lf=meets m (pl.flatMap eR++(L3 (ps.drop (ei+1))++rest)):=by
    rw[<-fu];rw[BZ,show L3 ((⟨r,iq,pk,pl⟩:ch)::ps.drop (ei+1))=pl.flatMap eR++L3 (ps.drop (ei+1)) by rw[Hh];rfl]at He;exact He
   let Tr:=((es++ps.drop (ei+1)).map dZ++(oz (⟨O ⟨zb,zo,U⟩,qc,ps,la,lc,xs,kd,on,xa,xc,to⟩:aK)++(rs.eraseIdx i).map bP));let Tb:=au nk (O ⟨zb,zo,U⟩) ps.length qc la xs.length lc kd on xa to.length xc::D p1 xn (P:Int) (R:Int) (O ⟨vb,vo,U⟩) n nc::aj p2::am (O ⟨vb,vo,U⟩) n nc rs::Tr;let Tn:=aw (O ⟨zb,zo,U⟩) ps.length qc (es++ps.drop ei)::Tb;refine bG (H1:=jI q ta R m::eH ta R m::ar iq pl.length pk pl::Tn) (aX.2 λe=>?_) ?_<;>(try unfold Tn)<;>(try unfold Tb)<;>try unfold Tr
   ·rw[BZ]
    have e2:dZ (⟨r,iq,pk,pl⟩:ch)=ar iq pl.length pk pl:=rfl;simp only[bz,cf,bU,bM,e2,D,aj,am,au,ar,aw];omega
   have QZ:gm (jI q ta R m::eH ta R m::ar iq pl.length pk pl::Tn) zb (zo+ei*2) _:=jJ (k:=3) rfl eP jT;simp only[iz,ar]at QZ
   repeat(first|refine aV ?_|refine dd λ_ _=>?_)
   rename_i Og _;refine bG (H1:=jI q ta R m::eH ta R m::ar iq pl.length pk pl::bN Og (r:Int) iq pl.length pk::Tn) fM ?_<;>(try unfold Tn)<;>(try unfold Tb)<;>(try unfold Tr);have EU:lS ((es++ps.drop ei).flatMap iz) (ei*2+0) (J Z (gH Lf r)) (((es++[(⟨gH Lf r,iq,pk,pl⟩:ch)])++ps.drop (ei+1)).flatMap iz):=⟨by
    rw[fL eP jT (k:=0) A (y:=(⟨gH Lf r,iq,pk,pl⟩:ch)) rfl];congr 1;exact kS tO ce,by rw[cA eP,bW,eS];omega⟩
   have Ny:mf (jI q ta R m::eH ta R m::ar iq pl.length pk pl::bN Og (r:Int) iq pl.length pk::Tn) zb (zo+ei*2) 4 zo (ei*2+0) ps.length qc 49 2 ((es++ps.drop ei).flatMap iz):=⟨rfl,A⟩;have vJ:∀(S:Nat->Prop) (v w:ae) (H2:List cq),Wd S v ([jI q ta R m,eH ta R m]++H2) w->iL Y 113 [aO (O ⟨q,0,U⟩),J Z (r:Int)] w λu w'=>∃_x:Unit,u=J Z (gH Lf r)/\Wd (df [jI q ta R m,eH ta R m]) w [jI q ta R m,eH ta R m] w'/\True:=λS v w H2 hw=>by
    have:=vy q ta R r m A A w hw.pre;rw[Bq ae9,<-yH KN ae9]at this;exact this
   let Tg:=[(15,J Z ei),(112,J Z ei),(110,I (O ⟨zb,zo,U⟩) ps.length qc),(111,J Z ps.length),M 14 nk,(13,J Z i),(104,J Z i),(103,J Z n),(102,I (O ⟨vb,vo,U⟩) n nc),M 3 q,M 1 p1,M 2 p2];refine dI [bN Og (r:Int) iq pl.length pk,au nk (O ⟨zb,zo,U⟩) ps.length qc la xs.length lc kd on xa to.length xc] (λ_:Unit=>True) (λ_=>M 16 Og::Tg) (λ_=>jI q ta R m::eH ta R m::ar iq pl.length pk pl::bN Og (r:Int) iq pl.length pk::aw (O ⟨zb,zo,U⟩) ps.length qc ((es++[(⟨gH Lf r,iq,pk,pl⟩:ch)])++ps.drop (ei+1))::Tb) mixed aB ?_ λ_ _=>?_
   ·refine W 0 ?_;refine W 1 ?_;refine W 2 ?_;refine W 3 ?_;refine W 4 ?_;refine W 5 ?_;refine qX 6 (H1:=[jI q ta R m,eH ta R m]) (H2:=ar iq pl.length pk pl::bN Og (r:Int) iq pl.length pk::Tn) (val:=λ_:Unit=>.int Z (gH Lf r)) (cZ:=λ_=>[jI q ta R m,eH ta R m]) (φ:=λ_=>True) rfl E aB (λw hw=>vJ _ _ w _ hw) λ_ _=>?_<;>(try unfold Tn)<;>(try unfold Tb)<;>(try unfold Tr);simp only[bF,aS];refine W 7 ?_;refine W 8 ?_;refine jr 9 E E aB ?_;exact dy () trivial V aF
   clear Ny EU;refine aU ?_;obtain⟨yZ,yU⟩:∃f:Nat->List cI,f=λj=>(pl.take j).map (cr Lf)++pl.drop j:=⟨_,rfl⟩;have KY:∀j,(yZ j).length=pl.length:=λj=>by rw[yU];simp;omega
   have Vk:yZ 0=pl:=by rw[yU];simp
   have afw:∀v∈pl,∀x∈eR v,0<=x/\x<R:=λv hv x hx=>by
    refine gV _ DS x (.inr ?_);rw[afr,Hh];exact dg.2 ⟨_,F2,dg.2 ⟨v,hv,hx⟩⟩
   rw[show ar iq pl.length pk pl=ar iq pl.length pk (yZ 0) by rw[Vk]];refine bH (λ(x:Nat×List Int)=>x.1<=pl.length/\Lf=meets x.2 ((pl.drop x.1).flatMap eR++(L3 (ps.drop (ei+1))++rest))/\∀r∈m,r∈x.2) (λx=>(129,J Z x.1)::(127,I iq pl.length pk)::(128,J Z pl.length)::M 16 Og::Tg)
    (λx=>jI q ta R x.2::eH ta R x.2::ar iq pl.length pk (yZ x.1)::bN Og (r:Int) iq pl.length pk::aw (O ⟨zb,zo,U⟩) ps.length qc ((es++[(⟨gH Lf r,iq,pk,pl⟩:ch)])++ps.drop (ei+1))::Tb) (λx=>pl.length-x.1) (0,m) ⟨aN _,afn,λ_ h=>h⟩ (aP V (dN (dN (by first|exact dU _|exact .cons _ (.refl _))))) λx ⟨hj,Hf,Ve⟩=>?_<;>(try unfold Tb)<;>(try unfold Tr)<;>try unfold Tg
   obtain⟨j,m2⟩:=x;simp only at hj Hf Ve|-
   have aci:m2<+:Lf:=by rw[Hf];exact yF _ _
   have ahK:=(Uf.pre aci).len;refine bA ?_;apply aL<;>intro h4
   ·have iS:j<pl.length:=aD h4
    obtain⟨v,hv⟩:=bE pl j iS;have uD:=aA hv;have SB:pl.drop j=v::pl.drop (j+1):=by rw[jb iS,(aJ.1 hv).2]
    have A6:(yZ j)[j]?=O v:=by
     rw[yU];simp only;rw[dH dr,aG,dA,fP A,cV,gp,dR];exact hv
    have vi:(yZ j).set j (cr Lf v)=yZ (j+1):=by
     rw[yU];simp only;rw[kj _ _ dr,aG,dA,fP A,cV,SB,bI,bV,hv,bz];simp
    have aaL:Lf=meets (meets m2 (eR v)) ((pl.drop (j+1)).flatMap eR++(L3 (ps.drop (ei+1))++rest)):=by
     rw[SB,fj,fu,fz]at Hf;exact Hf
    have acj:meets m2 (eR v)<+:Lf:=by
     conv=>rhs;rw[aaL]
     exact yF _ _
    have Cz:cr (meets m2 (eR v)) v=cr Lf v:=Fu acj λx hx=>vw.2 (.inr hx);refine fy 2 rfl A λyb yo B4=>?_;subst B4;have Pk:cg j pl.length:=⟨iS⟩;let Te:=bN Og (r:Int) (O ⟨yb,yo,U⟩) pl.length pk::aw (O ⟨zb,zo,U⟩) ps.length qc ((es++[(⟨gH Lf r,O ⟨yb,yo,U⟩,pk,pl⟩:ch)])++ps.drop (ei+1))::Tb;let Tw:=ar (O ⟨yb,yo,U⟩) pl.length pk (yZ j)::Te;have Nz:gm (jI q ta R m2::eH ta R m2::Tw) yb (yo+j*2) _:=jJ (k:=2) rfl eQ A6;simp only[mm]at Nz
    repeat(first|refine aV ?_|refine dd λ_ _=>?_)
    rename_i p18 _;refine bG (H1:=jI q ta R m2::eH ta R m2::cO p18 v::Tw) fM ?_<;>(try unfold Tw)<;>(try unfold Te)<;>(try unfold Tb)<;>(try unfold Tr);have hnv:∀(S:Nat->Prop) (v0 w:ae) (H2:List cq),Wd S v0 ([jI q ta R m2,eH ta R m2]++H2) w->iL Y 114 [aO (O ⟨q,0,U⟩),aC #[ag v.dq,J Z v.n]] w λu w'=>∃_x:Unit,u=aC #[ag (cr Lf v).dq,J Z (cr Lf v).n]/\Wd (df [jI q ta R m2,eH ta R m2]) w [jI q ta R (meets m2 (eR v)),eH ta R (meets m2 (eR v))] w'/\True:=λS v0 w H2 hw=>by
     have:=wi q ta R v m2 (yL (afw v uD)) A w hw.pre;rw[Cz]at this;exact this
    have Q4:mm (cr Lf v)=[ag (cr Lf v).dq,J Z (cr Lf v).n]:=rfl;refine dI [cO p18 v,bN Og (r:Int) (O ⟨yb,yo,U⟩) pl.length pk] (λ_:Unit=>True) (λ_=>(129,J Z j)::(127,I (O ⟨yb,yo,U⟩) pl.length pk)::(128,J Z pl.length)::M 16 Og::Tg) (λ_=>jI q ta R (meets m2 (eR v))::eH ta R (meets m2 (eR v))::cO p18 v::ar (O ⟨yb,yo,U⟩) pl.length pk (yZ (j+1))::Te) mixed aB ?_ λ_ _=>?_
    ·refine W 0 ?_;refine W 1 ?_;refine W 2 ?_;refine W 3 ?_;refine W 4 ?_;refine qX 5 (H1:=[jI q ta R m2,eH ta R m2]) (H2:=cO p18 v::Tw) (val:=λ_:Unit=>.agg #[ag (cr Lf v).dq,J Z (cr Lf v).n]) (cZ:=λ_=>[jI q ta R (meets m2 (eR v)),eH ta R (meets m2 (eR v))]) (φ:=λ_=>True) rfl E aB (λw hw=>hnv _ _ w _ hw) λ_ _=>?_<;>(try unfold Tw)<;>(try unfold Te)<;>(try unfold Tb)<;>(try unfold Tr);simp only[bF,aS];refine W 6 ?_;refine cD 7 E (jw 7 3 (j:=j*2) rfl rfl (by rw[cA eQ,KY];omega) aB ?_);refine ef E ?_;simp only[bS,bI];rw[<-Q4,iZ eQ (by rw[KY];exact iS),vi];exact dy () trivial V aF
    refine aU ?_;exact a_ (j+1,meets m2 (eR v)) ⟨A,aaL,λx hx=>vw.2 (.inl (Ve x hx))⟩ bB V aB
   obtain rfl:pl.length=j:=by have:=cE h4;omega
   have Vl:yZ pl.length=pl.map (cr Lf):=by rw[yU];simp
   rw[Vl];rw[gY,jc,aS]at Hf;refine aV ?_;have gk:(es++[(⟨gH Lf r,iq,pk,pl.map (cr Lf)⟩:ch)]).length=ei+1:=by simp[tO]
   have Jr:((es++[(⟨gH Lf r,iq,pk,pl⟩:ch)])++ps.drop (ei+1)).flatMap iz=((es++[(⟨gH Lf r,iq,pk,pl.map (cr Lf)⟩:ch)])++ps.drop (ei+1)).flatMap iz:=by
    simp only[ee,fj,jc,iz,aG]
   try simp only[am,ar,aw]
   rw[Jr];let Tm:=(((es++[(⟨gH Lf r,iq,pk,pl.map (cr Lf)⟩:ch)])++ps.drop (es++[(⟨gH Lf r,iq,pk,pl.map (cr Lf)⟩:ch)]).length).map dZ++(oz (⟨O ⟨zb,zo,U⟩,qc,ps,la,lc,xs,kd,on,xa,xc,to⟩:aK)++(rs.eraseIdx i).map bP));refine lr (H':=jI q ta R m2::eH ta R m2::aw (O ⟨zb,zo,U⟩) ps.length qc ((es++[(⟨gH Lf r,iq,pk,pl.map (cr Lf)⟩:ch)])++ps.drop (es++[(⟨gH Lf r,iq,pk,pl.map (cr Lf)⟩:ch)]).length)::au nk (O ⟨zb,zo,U⟩) ps.length qc la xs.length lc kd on xa to.length xc::D p1 xn (P:Int) (R:Int) (O ⟨vb,vo,U⟩) n nc::aj p2::am (O ⟨vb,vo,U⟩) n nc rs::Tm) (λw hw=>?_) ?_<;>try unfold Tm
   ·refine hw.pick ⟨[bN Og (r:Int) iq pl.length pk],aX.2 λe=>?_⟩
    have e2:dZ (⟨gH Lf r,iq,pk,pl.map (cr Lf)⟩:ch)=ar iq pl.length pk (pl.map (cr Lf)):=by unfold dZ;simp only[aG]
    rw[gk];simp only[bz,cf,dm,bU,bM,dG,e2,D,aj,am,au,ar,aw,bN];omega
   refine a_ (es++[(⟨gH Lf r,iq,pk,pl.map (cr Lf)⟩:ch)],m2) ⟨by simp only[gk];omega,?_,λq hq=>?_,by simp only[gk];exact Hf,λx hx=>Ve x (KV x hx)⟩ (by simp only[gk];omega) (by simp only[gk];repeat(first|exact trivial|refine⟨rfl,?_⟩)) aF
   ·simp only[gk]
    rw[bV,hu,bz,bz,vZ];simp only[jk,cf,dm,ch.iN,Gs]
   ·rcases bO.1 hq with hq|hq
    ·exact zR q hq
    ·rw[bQ.1 hq]
     have h5:=Jc Lf r;refine⟨⟨by simp only;omega,by simp only;omega⟩,by simp only[aG];exact Gk,λv hv=>?_⟩;simp only at hv;obtain⟨y,hy,rfl⟩:=aT.1 hv;exact rf (ES y hy) A
  have fX:es.length=ps.length:=by have:=cE h3;omega
  rw[fX,gY,cj];rw[fX,cL]at vZ;rw[fX,gY,show L3 []=[] by rw[Hh];rfl,aS]at He;have afq:∀r∈mZ ((⟨qa,qc,ps,la,lc,xs,kd,on,xa,xc,to⟩:aK)).dD,r∈m/\0<=r/\r<R:=λr hr=>⟨KV r (Q3 r hr).1,(Q3 r hr).2⟩;refine aV ?_;let Tf:=(es.map dZ++(rs.eraseIdx i).map bP);let Ty:=(aw qa ps.length qc es::pY (⟨qa,qc,ps,la,lc,xs,kd,on,xa,xc,to⟩:aK)::Tf);let Tu:=(xs.map gC++Ty);refine bG (H1:=jI q ta R m::eH ta R m::aH la xs.length lc xs::au nk qa ps.length qc la xs.length lc kd on xa to.length xc::D p1 xn (P:Int) (R:Int) (O ⟨vb,vo,U⟩) n nc::aj p2::am (O ⟨vb,vo,U⟩) n nc rs::Tu) (aX.2 λe=>?_) ?_<;>(try unfold Tu)<;>(try unfold Ty)<;>try unfold Tf
  ·unfold oz
   simp only[bU,bM,D,aj,am,au,aw,aH];omega
  refine bH (λ(ys:List dP)=>ys.length<=xs.length/\ys.map (·.x)=(xs.take ys.length).map (λq=>gz Lf q.x)/\∀y∈ys,(dE y.x.op/\dE y.x.dst/\dE y.x.a.n/\dE y.x.b.n/\dE y.x.fn)/\y.x.args.length<=1000/\∀v∈y.x.args,dE v.n) (λys=>[(146,J Z ys.length),(144,I la xs.length lc),(145,J Z xs.length),M 14 nk,(13,J Z i),(104,J Z i),(103,J Z n),(102,I (O ⟨vb,vo,U⟩) n nc),M 3 q,M 1 p1,M 2 p2])
   (λys=>jI q ta R m::eH ta R m::aH la xs.length lc (ys++xs.drop ys.length)::au nk qa ps.length qc la xs.length lc kd on xa to.length xc::D p1 xn (P:Int) (R:Int) (O ⟨vb,vo,U⟩) n nc::aj p2::am (O ⟨vb,vo,U⟩) n nc rs::((ys++xs.drop ys.length).map gC++Ty)) (λys=>xs.length-ys.length) [] ⟨aN _,rfl,by simp⟩ (aP V aF) λys ⟨hi5,p_,K1⟩=>?_<;>(try unfold Ty)<;>try unfold Tf
  refine bA ?_;apply aL<;>intro h5
  ·have ce:ys.length<xs.length:=aD h5
   generalize Hj:ys.length=ei at*;obtain⟨u,hu⟩:=bE xs ei ce;have F2:=aA hu;obtain⟨DA,Gk,ES⟩:=rP.ins u F2;obtain⟨x,aa,ak⟩:=u;simp only at DA Gk ES;have qH:x∈((⟨qa,qc,ps,la,lc,xs,kd,on,xa,xc,to⟩:aK)).dD.list:=aT.2 ⟨_,F2,rfl⟩;have hio:=Cp.list x qH;obtain⟨fs,Xx⟩:=Pi _ DS x qH;have JB:∀r∈rM x,r∈m/\0<=r/\r<R:=λr hr=>afq r (en _ (cM _ (dg.2 ⟨x,qH,hr⟩)));rw[Jf Xx hio]at JB;have Cz:∀v:cI,(∀r∈eR v,r∈m/\0<=r/\r<R)->∀w:ae,Wd (df [jI q ta R m,eH ta R m]) w [jI q ta R m,eH ta R m] w->iL Y 114 [aO (O ⟨q,0,U⟩),aC #[ag v.dq,J Z v.n]] w λu w'=>∃_x:Unit,u=aC #[ag (cr Lf v).dq,J Z (cr Lf v).n]/\Wd (df [jI q ta R m,eH ta R m]) w [jI q ta R m,eH ta R m] w'/\True:=λv hv w hw=>by
    have:=wi q ta R v m (yL λr hr=>(hv r hr).2) A w hw;rw[Li λr hr=>(hv r hr).1,Fu KN λr hr=>(hv r hr).1]at this;exact this
   have qt:=Cz x.a λr hr=>JB r (cM _ hr);have XE:=Cz x.b λr hr=>JB r (en _ (cM _ hr));refine fy 2 rfl A λzb zo Bk=>?_;subst Bk;have Dt:cg ei xs.length:=⟨ce⟩;have jT:(ys++xs.drop ei)[ei]?=O (⟨x,aa,ak⟩:dP):=by
    rw[dH A,Hj,cV,gp,dR];exact hu
   have BZ:xs.drop ei=(⟨x,aa,ak⟩:dP)::xs.drop (ei+1):=by rw[jb ce,(aJ.1 hu).2]
   let Tp:=(aw qa ps.length qc es::pY (⟨qa,qc,ps,O ⟨zb,zo,U⟩,lc,xs,kd,on,xa,xc,to⟩:aK)::Tf);let Ta:=aH (O ⟨zb,zo,U⟩) xs.length lc (ys++xs.drop ei)::au nk qa ps.length qc (O ⟨zb,zo,U⟩) xs.length lc kd on xa to.length xc::D p1 xn (P:Int) (R:Int) (O ⟨vb,vo,U⟩) n nc::aj p2::am (O ⟨vb,vo,U⟩) n nc rs::((ys++xs.drop (ei+1)).map gC++Tp);refine bG (H1:=jI q ta R m::eH ta R m::ar aa x.args.length ak x.args::Ta) (aX.2 λe=>?_) ?_<;>(try unfold Ta)<;>(try unfold Tp)<;>try unfold Tf
   ·rw[BZ]
    have e2:gC (⟨x,aa,ak⟩:dP)=ar aa x.args.length ak x.args:=rfl;simp only[bz,cf,bU,bM,e2,D,aj,am,au,ar,aw,aH];omega
   have QZ:gm (jI q ta R m::eH ta R m::ar aa x.args.length ak x.args::Ta) zb (zo+ei*8) _:=jJ (k:=3) rfl ep jT;simp only[ki,ar]at QZ
   repeat(first|refine aV ?_|refine dd λ_ _=>?_)
   rename_i CK _;let Ti:=bK CK x.op x.dst x.a x.b x.fn aa x.args.length ak::Ta;refine bG (H1:=jI q ta R m::eH ta R m::ar aa x.args.length ak x.args::Ti) fM ?_<;>(try unfold Ti)<;>(try unfold Ta)<;>(try unfold Tp)<;>(try unfold Tf);let Th:=[(19,J Z ei),(146,J Z ei),(144,I (O ⟨zb,zo,U⟩) xs.length lc),(145,J Z xs.length),M 14 nk,(13,J Z i),(104,J Z i),(103,J Z n),(102,I (O ⟨vb,vo,U⟩) n nc),M 3 q,M 1 p1,M 2 p2];let Tz:=bK CK x.op x.dst (cr Lf x.a) (cr Lf x.b) x.fn aa x.args.length ak::Ta;refine dI [] (λ_:Unit=>True) (λ_=>M 20 CK::Th) (λ_=>jI q ta R m::eH ta R m::ar aa x.args.length ak x.args::Tz) mixed aB ?_ λ_ _=>?_
   ·refine W 0 ?_;refine W 1 ?_;refine W 4 ?_;refine W 5 ?_;refine jL 2 6 E ?_ ?_
    ·refine gM 2 rfl aB ?_;refine jL 3 6 E ?_ ?_
     ·(refine q_ 3 (H1:=[jI q ta R m,eH ta R m]) (H2:=ar aa x.args.length ak x.args::Ti) (cZ:=λ_=>[jI q ta R m,eH ta R m]) (φ:=λ_=>True) (val:=λ_:Unit=>.agg #[ag (cr Lf x.a).dq,J Z (cr Lf x.a).n]) rfl aB (λw hw=>qt w hw.pre) λ_ _=>?_;simp only[bF,aS])
      refine cD 6 E ?_;refine gM 6 rfl aB ?_;refine W 8 ?_;refine cD 7 E ?_;refine q_ 7 (H1:=[jI q ta R m,eH ta R m]) (H2:=ar aa x.args.length ak x.args::Ti) (cZ:=λ_=>[jI q ta R m,eH ta R m]) (φ:=λ_=>True) (val:=λ_:Unit=>.agg #[ag (cr Lf x.b).dq,J Z (cr Lf x.b).n]) rfl aB (λw hw=>XE w hw.pre) λ_ _=>?_<;>(try unfold Ti)<;>(try unfold Ta)<;>(try unfold Tp)<;>(try unfold Tf);simp only[bF,aS];refine dn 9 E aB ?_;refine W 10 ?_;refine dn 11 E aB ?_;refine ef E ?_;exact dy () trivial V aF
     ·refine gM 6 rfl aB ?_;refine cD 3 E ?_
      (refine q_ 3 (H1:=[jI q ta R m,eH ta R m]) (H2:=ar aa x.args.length ak x.args::Ti) (cZ:=λ_=>[jI q ta R m,eH ta R m]) (φ:=λ_=>True) (val:=λ_:Unit=>.agg #[ag (cr Lf x.a).dq,J Z (cr Lf x.a).n]) rfl aB (λw hw=>qt w hw.pre) λ_ _=>?_;simp only[bF,aS])
      refine W 8 ?_;refine cD 7 E ?_;refine q_ 7 (H1:=[jI q ta R m,eH ta R m]) (H2:=ar aa x.args.length ak x.args::Ti) (cZ:=λ_=>[jI q ta R m,eH ta R m]) (φ:=λ_=>True) (val:=λ_:Unit=>.agg #[ag (cr Lf x.b).dq,J Z (cr Lf x.b).n]) rfl aB (λw hw=>XE w hw.pre) λ_ _=>?_<;>(try unfold Ti)<;>(try unfold Ta)<;>(try unfold Tp)<;>(try unfold Tf);simp only[bF,aS];refine dn 9 E aB ?_;refine W 10 ?_;refine dn 11 E aB ?_;refine ef E ?_;exact dy () trivial V aF
    ·refine gM 6 rfl aB ?_;refine cD 2 E ?_;refine gM 2 rfl aB ?_;refine cD 3 E ?_
     (refine q_ 3 (H1:=[jI q ta R m,eH ta R m]) (H2:=ar aa x.args.length ak x.args::Ti) (cZ:=λ_=>[jI q ta R m,eH ta R m]) (φ:=λ_=>True) (val:=λ_:Unit=>.agg #[ag (cr Lf x.a).dq,J Z (cr Lf x.a).n]) rfl aB (λw hw=>qt w hw.pre) λ_ _=>?_;simp only[bF,aS])
     refine W 8 ?_;refine cD 7 E ?_;refine q_ 7 (H1:=[jI q ta R m,eH ta R m]) (H2:=ar aa x.args.length ak x.args::Ti) (cZ:=λ_=>[jI q ta R m,eH ta R m]) (φ:=λ_=>True) (val:=λ_:Unit=>.agg #[ag (cr Lf x.b).dq,J Z (cr Lf x.b).n]) rfl aB (λw hw=>XE w hw.pre) λ_ _=>?_<;>(try unfold Ti)<;>(try unfold Ta)<;>(try unfold Tp)<;>(try unfold Tf);simp only[bF,aS];refine dn 9 E aB ?_;refine W 10 ?_;refine dn 11 E aB ?_;refine ef E ?_;exact dy () trivial V aF
   refine aU ?_;obtain⟨yM,yP⟩:∃f:Nat->List cI,f=λj=>(x.args.take j).map (cr Lf)++x.args.drop j:=⟨_,rfl⟩;have Ky:∀j,(yM j).length=x.args.length:=λj=>by rw[yP];simp;omega
   have Iy:yM 0=x.args:=by rw[yP];simp
   rw[show ar aa x.args.length ak x.args=ar aa x.args.length ak (yM 0) by rw[Iy]];refine bH (λ(j:Nat)=>j<=x.args.length) (λj=>(164,J Z j)::(162,I aa x.args.length ak)::(163,J Z x.args.length)::M 20 CK::Th)
    (λj=>jI q ta R m::eH ta R m::ar aa x.args.length ak (yM j)::Tz) (λj=>x.args.length-j) 0 (aN _) (aP V aF) λj hj=>?_<;>(try unfold Tz)<;>(try unfold Ta)<;>(try unfold Th)<;>(try unfold Tp)<;>try unfold Tf
   refine bA ?_;apply aL<;>intro h6
   ·have iS:j<x.args.length:=aD h6
    obtain⟨v,hv⟩:=bE x.args j iS;have uD:=aA hv;have SB:x.args.drop j=v::x.args.drop (j+1):=by rw[jb iS,(aJ.1 hv).2]
    have A6:(yM j)[j]?=O v:=by
     rw[yP];simp only;rw[dH dr,aG,dA,fP A,cV,gp,dR];exact hv
    have vi:(yM j).set j (cr Lf v)=yM (j+1):=by
     rw[yP];simp only;rw[kj _ _ dr,aG,dA,fP A,cV,SB,bI,bV,hv,bz];simp
    have hvv:=Cz v λr hr=>JB r (en _ (en _ (cM _ (dg.2 ⟨v,uD,hr⟩))));refine fy 2 rfl A λyb yo B4=>?_;subst B4;have Pk:cg j x.args.length:=⟨iS⟩;let Tx:=bK CK x.op x.dst (cr Lf x.a) (cr Lf x.b) x.fn (O ⟨yb,yo,U⟩) x.args.length ak::Ta;let Tl:=ar (O ⟨yb,yo,U⟩) x.args.length ak (yM j)::Tx;have Nz:gm (jI q ta R m::eH ta R m::Tl) yb (yo+j*2) _:=jJ (k:=2) rfl eQ A6;simp only[mm]at Nz
    repeat(first|refine aV ?_|refine dd λ_ _=>?_)
    rename_i p22 _;refine bG (H1:=jI q ta R m::eH ta R m::cO p22 v::Tl) fM ?_<;>(try unfold Tl)<;>(try unfold Tx)<;>(try unfold Ta)<;>(try unfold Tp)<;>(try unfold Tf);have Q4:mm (cr Lf v)=[ag (cr Lf v).dq,J Z (cr Lf v).n]:=rfl;refine dI [cO p22 v,bK CK x.op x.dst (cr Lf x.a) (cr Lf x.b) x.fn (O ⟨yb,yo,U⟩) x.args.length ak] (λ_:Unit=>True) (λ_=>(164,J Z j)::(162,I (O ⟨yb,yo,U⟩) x.args.length ak)::(163,J Z x.args.length)::M 20 CK::Th) (λ_=>jI q ta R m::eH ta R m::cO p22 v::ar (O ⟨yb,yo,U⟩) x.args.length ak (yM (j+1))::Tx) mixed aB ?_ λ_ _=>?_
    ·refine W 0 ?_;refine W 1 ?_;refine W 2 ?_;refine W 3 ?_;refine W 4 ?_;refine qX 5 (H1:=[jI q ta R m,eH ta R m]) (H2:=cO p22 v::Tl) (val:=λ_:Unit=>.agg #[ag (cr Lf v).dq,J Z (cr Lf v).n]) (cZ:=λ_=>[jI q ta R m,eH ta R m]) (φ:=λ_=>True) rfl E aB (λw hw=>hvv w hw.pre) λ_ _=>?_<;>(try unfold Tl)<;>(try unfold Tx)<;>(try unfold Ta)<;>(try unfold Tp)<;>(try unfold Tf);simp only[bF,aS];refine W 6 ?_;refine cD 7 E (jw 7 3 (j:=j*2) rfl rfl (by rw[cA eQ,Ky];omega) aB ?_);refine ef E ?_;simp only[bS,bI];rw[<-Q4,iZ eQ (by rw[Ky];exact iS),vi];exact dy () trivial V aF
    refine aU ?_;exact a_ (j+1) A A V aB
   obtain rfl:x.args.length=j:=by have:=cE h6;omega
   have Uq:yM x.args.length=x.args.map (cr Lf):=by rw[yP];simp
   rw[Uq];have gk:(ys++[(⟨gz Lf x,aa,ak⟩:dP)]).length=ei+1:=by simp[Hj]
   have hrC:∀d:Int,oP Lf x.dst=d->ki (⟨gz Lf x,aa,ak⟩:dP)=[J Z x.op,J Z d,ag (cr Lf x.a).dq,J Z (cr Lf x.a).n,ag (cr Lf x.b).dq,J Z (cr Lf x.b).n,J Z x.fn,I aa x.args.length ak]:=λd hd=>by
    subst hd;unfold ki gz;simp only[aG]
   have K3:(ys++[(⟨gz Lf x,aa,ak⟩:dP)]).map (·.x)=(xs.take (ys++[(⟨gz Lf x,aa,ak⟩:dP)]).length).map (λq=>gz Lf q.x):=by
    rw[gk,bV,hu,bz,bz,p_]
    rfl
   have K2:∀y∈ys++[(⟨gz Lf x,aa,ak⟩:dP)],(dE y.x.op/\dE y.x.dst/\dE y.x.a.n/\dE y.x.b.n/\dE y.x.fn)/\y.x.args.length<=1000/\∀v∈y.x.args,dE v.n:=λy hy=>by
    rcases bO.1 hy with hy|hy
    ·exact K1 y hy
    ·rw[bQ.1 hy]
     refine⟨⟨DA.1,PW DA.2.1 A,rf DA.2.2.1 A,rf DA.2.2.2.1 A,DA.2.2.2.2⟩,by simp only[gz,aG];exact Gk,λv hv=>?_⟩;obtain⟨z,hz,rfl⟩:=aT.1 hv;exact rf (ES z hz) A
   refine aV ?_;let Tc:=(((ys++[(⟨gz Lf x,aa,ak⟩:dP)])++xs.drop (ys++[(⟨gz Lf x,aa,ak⟩:dP)]).length).map gC++Tp);let Tj:=eH ta R m::aH (O ⟨zb,zo,U⟩) xs.length lc ((ys++[(⟨gz Lf x,aa,ak⟩:dP)])++xs.drop (ys++[(⟨gz Lf x,aa,ak⟩:dP)]).length)::au nk qa ps.length qc (O ⟨zb,zo,U⟩) xs.length lc kd on xa to.length xc::D p1 xn (P:Int) (R:Int) (O ⟨vb,vo,U⟩) n nc::aj p2::am (O ⟨vb,vo,U⟩) n nc rs::Tc;apply aL<;>intro h7
   ·have fX:0<=x.dst:=aD h7
    have hd:=JB x.dst (by rw[al fX];simp);obtain⟨r,hr⟩:∃r:Nat,x.dst=r:=⟨x.dst.toNat,A⟩;have QT:oP Lf x.dst=gH Lf r:=by unfold oP;rw[al fX,hr]
    refine bA ?_;rw[hr]at hd|-
    refine fU (H1:=[jI q ta R m,eH ta R m]++(ar aa x.args.length ak (x.args.map (cr Lf))::bK CK x.op (r:Int) (cr Lf x.a) (cr Lf x.b) x.fn aa x.args.length ak::aH (O ⟨zb,zo,U⟩) xs.length lc (ys++xs.drop ei)::au nk qa ps.length qc (O ⟨zb,zo,U⟩) xs.length lc kd on xa to.length xc::D p1 xn (P:Int) (R:Int) (O ⟨vb,vo,U⟩) n nc::aj p2::am (O ⟨vb,vo,U⟩) n nc rs::((ys++xs.drop (ei+1)).map gC++Tp))) rfl ?_<;>(try unfold Tp)<;>(try unfold Tf);refine fO (val:=λ_:Unit=>.int Z (gH Lf r)) (cZ:=λ_=>[jI q ta R m,eH ta R m]) (φ:=λ_=>True) rfl (λw hw=>by
     have:=vy q ta R r m A A w hw.pre;rw[Bq hd.1,<-yH KN hd.1]at this;exact this) λ_ _=>?_
    simp only[bF,aS];refine aV ?_;refine k_ 4 (j:=ei*8) rfl rfl (by rw[cA ep,bW,eS];omega) ?_;have nE:=iZ ep (l:=ys++xs.drop ei) (i:=ei) (by rw[bW,eS];omega) (⟨gz Lf x,aa,ak⟩:dP);rw[kS Hj ce,hrC (gH Lf r) QT]at nE;rw[nE];simp only[bS,bI];refine aU ?_;refine lr (H':=jI q ta R m::Tj) (λw hw=>?_) ?_<;>(try unfold Tj)<;>(try unfold Tc)<;>(try unfold Tp)<;>try unfold Tf
    ·refine hw.pick ⟨[bK CK x.op (gH Lf r) (cr Lf x.a) (cr Lf x.b) x.fn aa x.args.length ak],aX.2 λe=>?_⟩
     have e2:gC (⟨gz Lf x,aa,ak⟩:dP)=ar aa x.args.length ak (x.args.map (cr Lf)):=by unfold gC gz;simp only[aG]
     rw[gk];simp only[bz,cf,dm,bU,bM,dG,e2,D,aj,am,au,ar,aw,aH,bK];omega
    refine a_ (ys++[(⟨gz Lf x,aa,ak⟩:dP)]) ⟨by rw[gk];omega,K3,K2⟩ (by rw[gk];omega) (by simp only[gk];repeat(first|exact trivial|refine⟨rfl,?_⟩)) aF
   ·have UW:¬0<=x.dst:=aD h7
    have QT:oP Lf x.dst=x.dst:=by unfold oP;rw[ai UW]
    refine aU ?_;refine k_ 4 (j:=ei*8) rfl rfl (by rw[cA ep,bW,eS];omega) ?_;have nE:=iZ ep (l:=ys++xs.drop ei) (i:=ei) (by rw[bW,eS];omega) (⟨gz Lf x,aa,ak⟩:dP);rw[kS Hj ce,hrC x.dst QT]at nE;rw[nE];simp only[bS,bI];refine aU ?_;refine lr (H':=jI q ta R m::Tj) (λw hw=>?_) ?_<;>(try unfold Tj)<;>(try unfold Tc)<;>(try unfold Tp)<;>try unfold Tf
    ·refine hw.pick ⟨[bK CK x.op x.dst (cr Lf x.a) (cr Lf x.b) x.fn aa x.args.length ak],aX.2 λe=>?_⟩
     have e2:gC (⟨gz Lf x,aa,ak⟩:dP)=ar aa x.args.length ak (x.args.map (cr Lf)):=by unfold gC gz;simp only[aG]
     rw[gk];simp only[bz,cf,dm,bU,bM,dG,e2,D,aj,am,au,ar,aw,aH,bK];omega
    refine a_ (ys++[(⟨gz Lf x,aa,ak⟩:dP)]) ⟨by rw[gk];omega,K3,K2⟩ (by rw[gk];omega) (by simp only[gk];repeat(first|exact trivial|refine⟨rfl,?_⟩)) aF
  have IG:ys.length=xs.length:=by have:=cE h5;omega
  rw[IG,gY,cj];rw[IG,cL]at p_;refine aV ?_;obtain⟨B',qq⟩:∃B':aK,B'=⟨qa,qc,es,la,lc,ys,kd,cr Lf on,xa,xc,to⟩:=⟨_,rfl⟩;have AY:B'.dD=py Lf ((⟨qa,qc,ps,la,lc,xs,kd,on,xa,xc,to⟩:aK)).dD:=by
   rw[qq];unfold aK.dD py;simp only[vZ,p_,dM]
   rfl
  have Is:B'.Bd:=by
   rw[qq];exact⟨rP.kind,rf rP.on A,by simp only[fX];exact Dx,zR,by simp only[IG];exact K0,K1,rP.to⟩
  have aiF:∀w:ae,Wd (df [jI q ta R m,eH ta R m]) w [jI q ta R m,eH ta R m] w->iL Y 114 [aO (O ⟨q,0,U⟩),aC #[ag on.dq,J Z on.n]] w λu w'=>∃_x:Unit,u=aC #[ag (cr Lf on).dq,J Z (cr Lf on).n]/\Wd (df [jI q ta R m,eH ta R m]) w [jI q ta R m,eH ta R m] w'/\True:=λw hw=>by
   have Dv:∀r∈eR on,r∈m/\0<=r/\r<R:=λr hr=>afq r (en _ (en _ hr));have:=wi q ta R on m (yL λr hr=>(Dv r hr).2) A w hw;rw[Li λr hr=>(Dv r hr).1,Fu KN λr hr=>(Dv r hr).1]at this;exact this
  have nE:(rs.flatMap eA).take (i*6+3)++[ag (cr Lf on).dq,J Z (cr Lf on).n]++(rs.flatMap eA).drop (i*6+3+2)=(rs.set i B').flatMap eA:=by
   obtain⟨B1,hB1⟩:∃B1:aK,B1=⟨qa,qc,ps,la,lc,xs,kd,⟨(cr Lf on).dq,on.n⟩,xa,xc,to⟩:=⟨_,rfl⟩;rw[CO (by rw[cA de,oG];omega),fL de Ko (k:=3) (y:=B1) A (by rw[hB1];rfl)];rw[show i*6+3+1=i*6+4 by omega,fL de (x:=B1) (fk A) (k:=4) (y:=B') A (by rw[hB1,qq];simp only[eA,fX,IG];rfl),List.set_set]
  let Tk:=(ys.map gC++(aw qa ps.length qc es::pY (⟨qa,qc,ps,la,lc,xs,kd,on,xa,xc,to⟩:aK)::Tf));refine dI [au nk qa ps.length qc la xs.length lc kd on xa to.length xc,D p1 xn (P:Int) (R:Int) (O ⟨vb,vo,U⟩) n nc] (λ_:Unit=>True) (λ_=>[M 14 nk,(13,J Z i),(104,J Z i),(103,J Z n),(102,I (O ⟨vb,vo,U⟩) n nc),M 3 q,M 1 p1,M 2 p2]) (λ_=>jI q ta R m::eH ta R m::aH la xs.length lc ys::au nk qa ps.length qc la xs.length lc kd on xa to.length xc::D p1 xn (P:Int) (R:Int) (O ⟨vb,vo,U⟩) n nc::aj p2::am (O ⟨vb,vo,U⟩) n nc (rs.set i B')::Tk) mixed aB ?_ λ_ _=>?_
  ·refine W 0 ?_;refine W 1 ?_;refine W 2 ?_;refine W 3 ?_;refine W 4 ?_;refine W 5 ?_;refine W 6 ?_;refine qX 7 (H1:=[jI q ta R m,eH ta R m]) (H2:=aH la xs.length lc ys::au nk qa ps.length qc la xs.length lc kd on xa to.length xc::D p1 xn (P:Int) (R:Int) (O ⟨vb,vo,U⟩) n nc::aj p2::am (O ⟨vb,vo,U⟩) n nc rs::Tk) (val:=λ_:Unit=>.agg #[ag (cr Lf on).dq,J Z (cr Lf on).n]) (cZ:=λ_=>[jI q ta R m,eH ta R m]) (φ:=λ_=>True) rfl E aB (λw hw=>aiF w hw.pre) λ_ _=>?_<;>(try unfold Tk)<;>(try unfold Tf);simp only[bF,aS];refine W 8 ?_;refine W 9 ?_;refine W 10 ?_;refine cD 11 E (jw 11 6 (j:=i*6+3) rfl A (by rw[cA de,oG];omega) aB ?_);refine ef E ?_;simp only[bS,bI];rw[nE];exact dy () trivial V aF
  refine aU ?_;have e1:ij B'=aw qa ps.length qc es::aH la xs.length lc ys::pY (⟨qa,qc,ps,la,lc,xs,kd,on,xa,xc,to⟩:aK)::(es.map dZ++ys.map gC):=by rw[qq];simp only[ij,fX,IG,pY]
  refine lr (H':=ij B'++(jI q ta R m::eH ta R m::D p1 xn (P:Int) (R:Int) (O ⟨vb,vo,U⟩) n nc::aj p2::am (O ⟨vb,vo,U⟩) n nc (rs.set i B')::(rs.eraseIdx i).map bP)) (λw hw=>?_) ?_
  ·refine hw.pick ⟨[au nk qa ps.length qc la xs.length lc kd on xa to.length xc],aX.2 λe=>?_⟩
   rw[e1];simp only[bU,bM,dG,D,aj,am,au,aw,aH,Tf,Tk];omega
  refine yv ?_;have qh:(rs.set i B')[i]?=O B':=fk A;have te:=ig bP qh;rw[nt]at te;refine bG (H1:=jI q ta R m::eH ta R m::D p1 xn (P:Int) (R:Int) (O ⟨vb,vo,U⟩) n nc::aj p2::am (O ⟨vb,vo,U⟩) n nc (rs.set i B')::(rs.set i B').map bP) (aX.2 λe=>?_) ?_
  ·have:=aX.1 te e
   unfold bP at this|-
   simp only[bM,D,aj,am]at this|-
   omega
  refine a_ (i+1,rs.set i B',m) ⟨by simp only;omega,by simp only[fK];exact oG,?_,λb hb=>?_,by rw[<-C8];exact He,λr hr=>KV r (Gi r hr)⟩ bB V aF
  ·simp only
   rw[eT,Mu,kj _ _ dr,aG,dA,fP A,cV,Cq,bI,bV,hB,bz,AY];simp
  ·rcases j_ hb with hb|rfl
   ·exact rB b hb
   ·exact Is
 ·obtain rfl:n=i:=by have:=cE h2;omega
  rw[<-Jw,gY,jc,sJ]at Y5;rw[<-Jw,cL,gY,cj]at Mu;subst l;unfold jI;refine aV ?_;have hkF:eN ⟨xn,(P:Int),(R:Int),bs.map aK.dD⟩=kl:=by rw[xy,G9,or];rfl
  have hnF:fJ ⟨xn,(P:Int),(R:Int),bs.map aK.dD⟩=⟨xn,(P:Int),(Lf.length:Int),kl.map (py Lf)⟩:=by
   unfold fJ;rw[hkF,ad2];simp only[fR]
  rw[hnF,DT];refine fD rfl λw hw=>⟨(na,nc,rs),by simp only[oG],?_,Mu,rB,by simp only[oG];omega,vg,⟨by simp only;omega,by simp only;omega⟩⟩;refine hw.sub ?_;unfold eM;simp only[oG];exact .cons _ (.cons _ (.cons _ (.cons _ (.refl _))))
theorem Rx(X:bZ)(R:Nat)(hX:lj X R)(hlen:X.blocks.length<=100)(vg:dE X.params)(w0:ae):GG w0 68 [] [] fJ X:=E8 X R hX.big hlen vg w0
end
end Go.Proofs.YthfhgolkafpmnaaGreatDoor
