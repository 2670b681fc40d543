/- Texts joined: OneE OneF OneG OneV OneH OneW OneX OneJ OneK OneL OneM DoorF RangeO Backs Pair BacksB PostC BackL DomD DomE Table Tame. -/
import Derived.ChangeKeysEq
import Derived.Test.YthfhgolkafpmnaaGreatDoorIN
import Derived.Test.YthfhgolkafpmnaaGreatDoorIQ
import Derived.Test.YthfhgolkafpmnaaGreatDoorMH
namespace Go.Proofs.YthfhgolkafpmnaaGreatDoor
open Go.Value renaming int->U,slice->J,pointer->ar,string->G,bool->D,agg->au
open Go.IntKind renaming i64->O
open Option renaming some->Z,none->A
open Go renaming Value->V,World->C
open Go.Proofs.Tryz
open Go.Proofs.Tryz renaming prog->ae
open Go Go.RowKit
section
set_option maxHeartbeats 8000000
attribute [local irreducible] wpListIn Code.wpIn Exit.then Exit.inBlock bodyPost wpQuiet wpAnyIn wpAnyH bodyPostM j5
theorem Qu(r:Nat)(f:Int->cg):eF (r+1) f=eF r f++[f r]:=by
 unfold eF;rw[kU,bz]
 rfl
theorem QJ(X:aY)(R:Nat)(hX:jF X R)(hT:vT X R)(s5:sq X.blocks)(hlen:X.blocks.length<=40)(xf:eB X.blocks<=300)(o_:dk X.params)(R2:Nat)(hP:mg (cn X) R2)(fs:List aY)(hB:sm fs (cn X))(h0:(aN (cn X).blocks 0).aD=[])(w0:C):E0 w0 25 [] [] j0 X:=by
 classical
 obtain⟨g1,g2,g3⟩:=QT hX hT;obtain⟨xn,xp,xr,xb⟩:=X;simp only at hlen xf s5 g1 g2;intro a c bs wb m_ r5 IY GJ hw;simp only at m_;subst m_;rw[aF]at hlen g1;simp only[aO,cD,aW];refine aM func25 rfl ntmps25 rfl hw ?_;obtain⟨SS,Fj⟩:∃SS,SS=cH (fS a c bs):=⟨_,rfl⟩;rw[<-Fj]
 repeat(first|refine aU ?_|refine dZ λ_ _=>?_)
 rename_i p1 _ p2 _;obtain⟨Y,hY⟩:∃Y,Y=cn ⟨xn,xp,xr,bs.map aX.eR⟩:=⟨_,rfl⟩;have afq:j0 ⟨xn,xp,xr,bs.map aX.eR⟩=en (eJ Y):=by unfold j0;rw[<-hY]
 rw[afq];rw[<-hY]at hP hB h0 g1 g2;have Ze:Y.blocks.length<=40:=I;have hYm:eB Y.blocks<=300:=I;obtain⟨hg,c_,ii,ac1⟩:=fW hP.all;have hI:=ae3 hP hB Ze hYm;have sE:=Yx hP hB h0 Ze hYm;have hM:=AJ hP Ze hYm;have hYr:=hP.all.aB;have aih:=hP.all.par;have aif:=hP.all.le;refine bi (H1:=fS a c bs++[K p2 [G aA,U O 0,U O 0,J A 0 0] 35,K p1 [G xn,U O xp,U O xr,J a bs.length c] 35]) (cP (l₁:=[_,_])) ?_;refine fK (val:=λx:Option Addr×Nat×List aX=>.agg #[G Y.name,U O Y.params,U O Y.aB,J x.1 x.2.2.length x.2.1]) (akg:=λx=>fS x.1 x.2.1 x.2.2) (φ:=λx=>x.2.2.map aX.eR=Y.blocks/\(∀b∈x.2.2,b.Bd)/\x.2.2.length<=1000/\dk Y.params/\dk Y.aB) rfl (λw hw=>?_) λakj hz=>?_
 ·have h9:=aan ⟨xn,xp,xr,bs.map aX.eR⟩ R hX hT s5 (by simp only[aF];omega) bK o_ {w with heap:=#[]} a c bs w rfl r5 ⟨rfl,rfl,rfl,aT _,λk hk=>absurd hk (nS k)⟩ (λ_ _=>aT _) hw.pre
  rw[<-hY]at h9;exact h9
 obtain⟨ta,tc,ts⟩:=akj;obtain⟨Jj,ZQ,_⟩:=hz;simp only at Jj ZQ⊢
 skip
 refine fK (val:=λx:Option Addr×Nat×List aX=>.agg #[G Y.name,U O Y.params,U O Y.aB,J x.1 x.2.2.length x.2.1]) (akg:=λx=>fS x.1 x.2.1 x.2.2) (φ:=λx=>x.2.2.map aX.eR=cw Y/\(∀b∈x.2.2,b.Bd)) rfl (λw hw=>?_) λakj hz=>?_
 ·have h9:=MJ Y R2 hP.all I I {w with heap:=#[]} ta tc ts w Jj ZQ ⟨rfl,rfl,rfl,aT _,λk hk=>absurd hk (nS k)⟩ (λ_ _=>aT _) hw.pre
  exact h9.mono λu w' ⟨x,e1,e2,e3,e4,_⟩=>⟨x,e1,e2,e3,e4⟩
 obtain⟨ya,yc,ys⟩:=akj;obtain⟨VW,uf⟩:=hz;simp only at VW uf⊢;obtain⟨bl,gF⟩:∃bl,bl=cw Y:=⟨_,rfl⟩;obtain⟨P,hPn⟩:∃P,P=Y.params.toNat:=⟨_,rfl⟩;have hYp:Y.params=(P:Int):=I;rw[<-gF]at hg c_ ac1 VW hI;rw[<-hPn]at hI;obtain⟨n,hn⟩:∃n,n=bl.length:=⟨_,rfl⟩;have LI:ys.length=n:=by
  have h3:=congrArg List.length VW;rw[aF]at h3;omega
 rw[LI,hYp,hYr];refine fC (H1:=M ya ys.length yc 46 6 (ys.flatMap bm)::(ys.map ck++[K p2 [G aA,U O 0,U O 0,J A 0 0] 35,K p1 [G xn,U O xp,U O xr,J a bs.length c] 35])) rfl ?_;refine fL 0 rfl I λvb vo oC=>?_;subst oC;refine bi (H1:=K p1 [G xn,U O xp,U O xr,J a bs.length c] 35::K p2 [G aA,U O 0,U O 0,J A 0 0] 35::fS (Z ⟨vb,vo,A⟩) yc ys) (aP.2 λe=>by unfold fS;simp only[bC,br,cq];omega) ?_;refine aE ?_;have s7:∀{H:List bN} {w:C},Wd SS wb H w->(fS (Z ⟨vb,vo,A⟩) yc ys).Sublist H->aG w (J (Z ⟨vb,vo,A⟩) n yc) 6 bl ed:=λ{H w} hw hs=>by
  rw[<-VW,<-LI];refine Wd.blocks (H:=[]) (hw.sub ?_) I uf;rw[cD];exact hs
 have oZ:∀(b:Nat) B,bl[b]?=Z B->B.to.Nodup:=λb B hB=>(hI.ok.block b B hB).to;refine dQ [K p1 [G Y.name,U O (P:Int),U O (R2:Int),J (Z ⟨vb,vo,A⟩) n yc] 35] (λx:((Option Addr×Nat×Nat)×(Nat->Prop))×Nat×Nat=>True) (λx=>[aj 3 x.2.2,aj 1 p1,aj 2 p2])
  (λx=>K x.2.2 [ar (Z ⟨p1,0,A⟩),J x.1.1.1 x.1.1.2.1 x.1.1.2.2,J (Z ⟨x.2.1,0,A⟩) n n,U O (P:Int)] 102::M (Z ⟨x.2.1,0,A⟩) n n 42 1 (List.replicate n (J A 0 0))::⟨x.1.2,λw=>aG w (J x.1.1.1 x.1.1.2.1 x.1.1.2.2) 1 (be bl) cN⟩::K p1 [G Y.name,U O (P:Int),U O (R2:Int),J (Z ⟨vb,vo,A⟩) n yc] 35::K p2 [G aA,U O 0,U O 0,J A 0 0] 35::fS (Z ⟨vb,vo,A⟩) yc ys) mixed (dM qd) ?_ λx _=>?_
 ·skip
  refine ag 0 ?_;refine ag 2 ?_;refine ag 3 ?_;refine ag 4 ?_;refine ag 6 ?_;refine ag 7 ?_;refine lm 1 5 ai ?_ ?_
  ·skip
   (refine kf 1 (val:=λx:(Option Addr×Nat×Nat)×(Nat->Prop)=>.slice x.1.1 x.1.2.1 x.1.2.2) (akg:=λx=>[⟨x.2,λw=>aG w (J x.1.1 x.1.2.1 x.1.2.2) 1 (be bl) cN⟩]) (φ:=λ_=>True) rfl aw (λw hw=>fZ _ _ _ bl _ w (s7 hw aw) I hg) λy _=>?_;obtain⟨⟨aa,an,ac⟩,af⟩:=y;simp only[aW,aO])
   refine cm 5 ai ?_;refine Hh 5 rfl I I aw λkb _=>?_;refine bi (H1:=M (Z ⟨kb,0,A⟩) n n 42 1 (List.replicate n (J A 0 0))::⟨af,λw=>aG w (J aa an ac) 1 (be bl) cN⟩::K p1 [G Y.name,U O (P:Int),U O (R2:Int),J (Z ⟨vb,vo,A⟩) n yc] 35::K p2 [G aA,U O 0,U O 0,J A 0 0] 35::fS (Z ⟨vb,vo,A⟩) yc ys) (aP.2 λe=>by simp only[br]<;>omega) ?_;refine ag 8 ?_;refine cm 9 ai (Ug 9 rfl aw λq _=>?_);refine ag 10 ?_;refine eA ai ?_;exact dS (((aa,an,ac),af),kb,q) trivial ap aK
  ·skip
   refine Hh 5 rfl I I aw λkb _=>?_;refine cm 1 ai ?_
   (refine kf 1 (val:=λx:(Option Addr×Nat×Nat)×(Nat->Prop)=>.slice x.1.1 x.1.2.1 x.1.2.2) (akg:=λx=>[⟨x.2,λw=>aG w (J x.1.1 x.1.2.1 x.1.2.2) 1 (be bl) cN⟩]) (φ:=λ_=>True) rfl aw (λw hw=>fZ _ _ _ bl _ w (s7 hw aw) I hg) λy _=>?_;obtain⟨⟨aa,an,ac⟩,af⟩:=y;simp only[aW,aO])
   refine bi (H1:=M (Z ⟨kb,0,A⟩) n n 42 1 (List.replicate n (J A 0 0))::⟨af,λw=>aG w (J aa an ac) 1 (be bl) cN⟩::K p1 [G Y.name,U O (P:Int),U O (R2:Int),J (Z ⟨vb,vo,A⟩) n yc] 35::K p2 [G aA,U O 0,U O 0,J A 0 0] 35::fS (Z ⟨vb,vo,A⟩) yc ys) (aP.2 λe=>by simp only[br]<;>omega) ?_;refine ag 8 ?_;refine cm 9 ai (Ug 9 rfl aw λq _=>?_);refine ag 10 ?_;refine eA ai ?_;exact dS (((aa,an,ac),af),kb,q) trivial ap aK
 obtain⟨⟨⟨aa,an,ac⟩,af⟩,kb,q⟩:=x;simp only;refine lW 3 1 n ?_;rw[show(List.replicate n (J A 0 0))=(List.replicate n (⟨A,0,[]⟩:Row)).map fG by simp[fG],show(List.replicate n (M A 0 0 3 1 []))=(List.replicate n (⟨A,0,[]⟩:Row)).map ie by simp[ie]];refine bi (H1:=K q [ar (Z ⟨p1,0,A⟩),J aa an ac,J (Z ⟨kb,0,A⟩) n n,U O (P:Int)] 102::M (Z ⟨kb,0,A⟩) n n 42 1 ((List.replicate n (⟨A,0,[]⟩:Row)).map fG)::(⟨af,λw=>aG w (J aa an ac) 1 (be bl) cN⟩:bN)::K p1 [G Y.name,U O (P:Int),U O (R2:Int),J (Z ⟨vb,vo,A⟩) n yc] 35::K p2 [G aA,U O 0,U O 0,J A 0 0] 35::(fS (Z ⟨vb,vo,A⟩) yc ys++(List.replicate n (⟨A,0,[]⟩:Row)).map ie)) (aP.2 λe=>by simp only[bC,br];omega) ?_;refine aU ?_;refine cZ (val:=λa:Nat=>.slice (Z ⟨a,0,A⟩) bl.length bl.length) (akg:=λa=>[M (Z ⟨a,0,A⟩) bl.length bl.length 3 1 (((List.range bl.length).map (cS bl)).map (U O))]) (φ:=λ_=>True) rfl (λw hw=>zH _ _ _ bl _ ⟨_,_,_,rfl⟩ w (s7 hw (.cons _ (.cons _ (.cons _ (.cons _ (.cons _ (eI _ _))))))) I hg oZ c_) λtb _=>?_;simp only[aW,aO];rw[<-hn];refine aH ?_;have ah1:n<=100:=I;refine bL (λx:Nat×List Row=>x.1<=n/\x.2.map (·.l)=vD bl x.1/\∀r∈x.2,r.l.length<=x.1/\∀y∈r.l,dk y) (λx=>[(25,U O x.1),(23,J (Z ⟨tb,0,A⟩) n n),(24,U O n),aj 3 q,aj 1 p1,aj 2 p2]) (λx=>K q [ar (Z ⟨p1,0,A⟩),J aa an ac,J (Z ⟨kb,0,A⟩) n n,U O (P:Int)] 102::M (Z ⟨kb,0,A⟩) n n 42 1 (x.2.map fG)::M (Z ⟨tb,0,A⟩) n n 3 1 (((List.range n).map (cS bl)).map (U O))::K p1 [G Y.name,U O (P:Int),U O (R2:Int),J (Z ⟨vb,vo,A⟩) n yc] 35::K p2 [G aA,U O 0,U O 0,J A 0 0] 35::(x.2.map ie++((⟨af,λw=>aG w (J aa an ac) 1 (be bl) cN⟩:bN)::fS (Z ⟨vb,vo,A⟩) yc ys))) (λx=>n-x.1) (0,List.replicate n ⟨A,0,[]⟩)
  ⟨aT _,by simp only;rw[LV,<-hn];simp,by simp⟩ (bi (aP.2 λe=>by simp only[bC,br];omega) (aS ap aK)) λx ⟨hi,Fx,GP⟩=>?_
 obtain⟨i,rs⟩:=x;simp only at hi Fx GP⊢;have rR:rs.length=n:=by
  have h3:=congrArg List.length Fx;rw[aF]at h3;unfold vD at h3;rw[aF,fA]at h3;omega
 refine aU ?_;refine aI (λh1=>?_) (λh1=>?_)
 ·have iJ:i<n:=ax h1
  have lY:bY i n:=⟨iJ⟩;have aga:qy ((List.range n).map (cS bl)) i (cS bl i):=⟨by rw[aJ,eX iJ];rfl⟩;refine aH ?_;refine aI (λh2=>?_) (λh2=>?_)
  ·have xE:0<=cS bl i:=ax h2
   obtain⟨t,ht⟩:∃t:Nat,cS bl i=t:=⟨(cS bl i).toNat,I⟩;have Zv:kS bl t i:=by
    refine og (b:=t) (c:=i) ?_;unfold oh;rw[cC,decide_eq_true_eq];exact⟨cM.2 I,ht⟩
   have uW:t<n:=by rw[hn];exact hg.zQ c_ Zv.zQ
   have bS:bY t n:=⟨uW⟩;obtain⟨r,hr⟩:=bf rs t I;obtain⟨ajK,ahd⟩:=GP r (aq hr);rw[ht]
   skip
   have NB:Rs (rs.map fG) (t*1) (J r.a r.l.length r.c):=⟨by simp[hr,fG]⟩;refine dQ [K q [ar (Z ⟨p1,0,A⟩),J aa an ac,J (Z ⟨kb,0,A⟩) n n,U O (P:Int)] 102] (λ_:Option Addr×Nat=>True) (λ_=>[(25,U O i),(23,J (Z ⟨tb,0,A⟩) n n),(24,U O n),aj 3 q,aj 1 p1,aj 2 p2]) (λy=>K q [ar (Z ⟨p1,0,A⟩),J aa an ac,J (Z ⟨kb,0,A⟩) n n,U O (P:Int)] 102::M (Z ⟨kb,0,A⟩) n n 42 1 ((rs.set t ⟨y.1,y.2,r.l++[(i:Int)]⟩).map fG)::M (Z ⟨tb,0,A⟩) n n 3 1 (((List.range n).map (cS bl)).map (U O))::K p1 [G Y.name,U O (P:Int),U O (R2:Int),J (Z ⟨vb,vo,A⟩) n yc] 35::K p2 [G aA,U O 0,U O 0,J A 0 0] 35::((rs.set t ⟨y.1,y.2,r.l++[(i:Int)]⟩).map ie++((⟨af,λw=>aG w (J aa an ac) 1 (be bl) cN⟩:bN)::fS (Z ⟨vb,vo,A⟩) yc ys))) mixed aw ?_ λy _=>?_
   ·skip
    refine ag 0 ?_;refine ag 1 ?_;refine ag 2 ?_;refine ag 3 ?_;refine ag 4 ?_;refine ag 5 ?_;refine ag 6 ?_;refine ag 7 ?_;refine ag 8 ?_;refine ag 9 ?_;refine ag 10 ?_;refine ag 12 ?_;refine lm 11 13 ai ?_ ?_
    ·skip
     refine fO 11 rfl aw ?_;refine cm 13 ai ?_;refine iP 13 rfl ai aw λbt _=>?_;have I1:∀(A0 A1 A2 A3 A4 A5:bN) (aj9:List bN) (e':bN),(A0::A1::A2::A3::A4::A5::aj9).set (t+6) e'=A0::A1::A2::A3::A4::A5::aj9.set t e':=λ_ _ _ _ _ _ _ _=>rfl;refine kW 14 (t+6) (xs:=r.l.map (U O)) (e:=3) (by
      show(rs.map ie++_)[t]?=_;rw[dY (by rw[aF];omega),aJ,hr]
      rfl) rfl ai I I ai (λe'=>by rw[I1];exact .cons _ (dM qd)) λa' c'=>?_
     refine fC (H1:=M (Z ⟨bt,0,A⟩) 1 1 3 1 [U O i]::K q [ar (Z ⟨p1,0,A⟩),J aa an ac,J (Z ⟨kb,0,A⟩) n n,U O (P:Int)] 102::M (Z ⟨kb,0,A⟩) n n 42 1 (rs.map fG)::M (Z ⟨tb,0,A⟩) n n 3 1 (((List.range n).map (cS bl)).map (U O))::K p1 [G Y.name,U O (P:Int),U O (R2:Int),J (Z ⟨vb,vo,A⟩) n yc] 35::K p2 [G aA,U O 0,U O 0,J A 0 0] 35::((rs.set t ⟨a',c',r.l++[(i:Int)]⟩).map ie++((⟨af,λw=>aG w (J aa an ac) 1 (be bl) cN⟩:bN)::fS (Z ⟨vb,vo,A⟩) yc ys))) (by
      rw[I1,List.set_append_left _ _ (by rw[aF];omega),eM];simp[ie]) ?_
     have nK:mV (rs.map fG) (t*1) (J a' (r.l.length+1) c') ((rs.set t ⟨a',c',r.l++[(i:Int)]⟩).map fG):=⟨by simp[fG,eM],by rw[aF];omega⟩;refine ag 15 ?_;refine cm 16 ai ?_;refine mG 16 aw ?_;refine eA ai ?_;exact dS (a',c') trivial ap aw
    ·skip
     refine iP 13 rfl ai aw λbt _=>?_;refine cm 11 ai ?_;refine fO 11 rfl aw ?_;have I1:∀(A0 A1 A2 A3 A4 A5:bN) (aj9:List bN) (e':bN),(A0::A1::A2::A3::A4::A5::aj9).set (t+6) e'=A0::A1::A2::A3::A4::A5::aj9.set t e':=λ_ _ _ _ _ _ _ _=>rfl;refine kW 14 (t+6) (xs:=r.l.map (U O)) (e:=3) (by
      show(rs.map ie++_)[t]?=_;rw[dY (by rw[aF];omega),aJ,hr]
      rfl) rfl ai I I ai (λe'=>by rw[I1];exact .cons _ (dM qd)) λa' c'=>?_
     refine fC (H1:=M (Z ⟨bt,0,A⟩) 1 1 3 1 [U O i]::K q [ar (Z ⟨p1,0,A⟩),J aa an ac,J (Z ⟨kb,0,A⟩) n n,U O (P:Int)] 102::M (Z ⟨kb,0,A⟩) n n 42 1 (rs.map fG)::M (Z ⟨tb,0,A⟩) n n 3 1 (((List.range n).map (cS bl)).map (U O))::K p1 [G Y.name,U O (P:Int),U O (R2:Int),J (Z ⟨vb,vo,A⟩) n yc] 35::K p2 [G aA,U O 0,U O 0,J A 0 0] 35::((rs.set t ⟨a',c',r.l++[(i:Int)]⟩).map ie++((⟨af,λw=>aG w (J aa an ac) 1 (be bl) cN⟩:bN)::fS (Z ⟨vb,vo,A⟩) yc ys))) (by
      rw[I1,List.set_append_left _ _ (by rw[aF];omega),eM];simp[ie]) ?_
     have nK:mV (rs.map fG) (t*1) (J a' (r.l.length+1) c') ((rs.set t ⟨a',c',r.l++[(i:Int)]⟩).map fG):=⟨by simp[fG,eM],by rw[aF];omega⟩;refine ag 15 ?_;refine cm 16 ai ?_;refine mG 16 aw ?_;refine eA ai ?_;exact dS (a',c') trivial ap aw
   obtain⟨a',c'⟩:=y;simp only;refine aH ?_;refine bj (i+1,rs.set t ⟨a',c',r.l++[(i:Int)]⟩) ⟨iJ,?_,λr' Dh=>?_⟩ bK ap aK
   ·simp only
    rw[TE ht,<-Fx];exact ru hr rfl
   ·rcases kE Dh with Dh|rfl
    ·have h3:=GP r' Dh
     exact⟨by simp only;omega,h3.2⟩
    ·refine⟨by simp only[bX,j_];omega,λy hy=>?_⟩
     simp only at hy;rcases bA.1 hy with hy|hy
     ·exact ahd y hy
     ·rw[bR.1 hy];exact⟨I,I⟩
  ·have xE:cS bl i<0:=by have:=of_decide_eq_false h2;omega
   refine aH ?_;exact bj (i+1,rs) ⟨iJ,by rw[TD xE];exact Fx,λr hr=>⟨by have:=(GP r hr).1;simp only;omega,(GP r hr).2⟩⟩ bK ap aK
 obtain rfl:n=i:=by have:=of_decide_eq_false h1;omega
 rw[hn,PQ]at Fx;refine aE ?_;obtain⟨e0,he0⟩:∃e0:Int->cg,e0=λr:Int=>if r<(P:Int)then⟨true,r⟩else iu:=⟨_,rfl⟩
 have Pn:BT (mT bl P) bl P 0=e0:=by
  funext r
  unfold BT;rw[D9,if_pos (by decide),he0]
 refine fU 41 2 ?_;refine bL (λx:Nat×Option Addr×Nat=>x.1<=R2) (λx=>[(51,U O x.1),(50,U O (R2:Int)),(6,J x.2.1 x.1 x.2.2),aj 3 q,aj 1 p1,aj 2 p2]) (λx=>M x.2.1 x.1 x.2.2 41 2 ((eF x.1 e0).flatMap dB)::K q [ar (Z ⟨p1,0,A⟩),J aa an ac,J (Z ⟨kb,0,A⟩) n n,U O (P:Int)] 102::M (Z ⟨kb,0,A⟩) n n 42 1 (rs.map fG)::M (Z ⟨tb,0,A⟩) n n 3 1 (((List.range n).map (cS bl)).map (U O))::K p1 [G Y.name,U O (P:Int),U O (R2:Int),J (Z ⟨vb,vo,A⟩) n yc] 35::K p2 [G aA,U O 0,U O 0,J A 0 0] 35::(rs.map ie++((⟨af,λw=>aG w (J aa an ac) 1 (be bl) cN⟩:bN)::fS (Z ⟨vb,vo,A⟩) yc ys))) (λx=>R2-x.1) (0,A,0) (aT _) (aS ap aK) λx hr=>?_;obtain⟨r,na,nc⟩:=x;simp only at hr⊢;refine aU ?_;refine aI (λh1=>?_) (λh1=>?_)
 ·have Lz:r<R2:=ax h1
  have gr:=Qu r e0;have rR:=gO r e0
  repeat(first|refine aE ?_|refine dZ λ_ _=>?_)
  refine aI (λh2=>?_) (λh2=>?_)
  ·have hrP:(r:Int)<P:=ax h2
   have e4:(eF (r+1) e0).flatMap dB=(eF r e0).flatMap dB++[D true,U O (r:Int)]:=by
    rw[gr,iD,he0];simp only[gZ,qC,cD];rw[if_pos hrP]
    rfl
   repeat(first|refine aE ?_|refine dZ λ_ _=>?_)
   refine gU 2 rfl rfl ai I I λT0 T4=>?_;simp only[cG,bW];rw[<-e4];refine aH ?_;exact bj (r+1,T0,T4) Lz bK ap aw
  ·have hrP:¬(r:Int)<P:=ax h2
   have e4:(eF (r+1) e0).flatMap dB=(eF r e0).flatMap dB++[D false,U O 0]:=by
    rw[gr,iD,he0];simp only[gZ,qC,cD];rw[if_neg hrP]
    rfl
   repeat(first|refine aH ?_|refine dZ λ_ _=>?_)
   refine gU 2 rfl rfl ai I I λT0 T4=>?_;simp only[cG,bW];rw[<-e4];refine aH ?_;exact bj (r+1,T0,T4) Lz bK ap aw
 obtain rfl:R2=r:=by have:=of_decide_eq_false h1;omega
 refine aE ?_;obtain⟨m,hm⟩:∃m,m=qw (cw Y) Y.params.toNat:=⟨_,rfl⟩;have hmS:m=P+gg bl ([]++kA bl n 0):=by rw[hm,hn,hPn,gF];rfl
 refine oU (H':=(mF q p1 (J aa an ac) (J (Z ⟨kb,0,A⟩) n n) (P+gg bl [])::fS (Z ⟨vb,vo,A⟩) yc ys)++(M na R2 nc 41 2 ((eF R2 e0).flatMap dB)::M (Z ⟨kb,0,A⟩) n n 42 1 (rs.map fG)::M (Z ⟨tb,0,A⟩) n n 3 1 (((List.range n).map (cS bl)).map (U O))::K p1 [G Y.name,U O (P:Int),U O (R2:Int),J (Z ⟨vb,vo,A⟩) n yc] 35::K p2 [G aA,U O 0,U O 0,J A 0 0] 35::(rs.map ie++[(⟨af,λw=>aG w (J aa an ac) 1 (be bl) cN⟩:bN)]))) (λw hw=>?_) ?_
 ·refine hw.perm (aP.2 λe=>?_)
  rw[show P+gg bl []=P from rfl];unfold mF;simp only[bC,br,cq];omega
 refine fK (val:=λ_:List aX=>.tuple #[]) (akg:=λx=>mF q p1 (J aa an ac) (J (Z ⟨kb,0,A⟩) n n) m::fS (Z ⟨vb,vo,A⟩) yc x) (φ:=λx=>x.map aX.eR=ms (mT bl P) bl P/\∀b∈x,b.Bd) rfl (λw hw=>?_) λx hx=>?_
 ·have I_:Ex (mT bl P) bl P (ww bl [])=bl:=by
   refine VA (λc i h=>?_) (λc i j h=>?_) (λc k h=>?_) (λc h=>?_)
   ·cases h
   ·obtain⟨_,_,h⟩:=h
    cases h
   ·cases h
   ·cases h
  have xd:=hw.kF;have qq:bF (cd (cH (mF q p1 (J aa an ac) (J (Z ⟨kb,0,A⟩) n n) (P+gg bl [])::fS (Z ⟨vb,vo,A⟩) yc ys)) w) p1 0 [G Y.name,U O (P:Int),U O (R2:Int),J (Z ⟨vb,vo,A⟩) n yc]:=xd.gL p1;have Pd:aG (cd (cH (mF q p1 (J aa an ac) (J (Z ⟨kb,0,A⟩) n n) (P+gg bl [])::fS (Z ⟨vb,vo,A⟩) yc ys)) w) (J aa an ac) 1 (be bl) cN:=hw.beside (e:=(⟨af,λw=>aG w (J aa an ac) 1 (be bl) cN⟩:bN)) aC;have GL:aG (cd (cH (mF q p1 (J aa an ac) (J (Z ⟨kb,0,A⟩) n n) (P+gg bl [])::fS (Z ⟨vb,vo,A⟩) yc ys)) w) (J (Z ⟨kb,0,A⟩) n n) 1 ((List.range bl.length).map λb=>(oh bl b).map λx:Nat=>(x:Int)) cN:=by
   rw[<-Fx];refine Ht (H:=[M na R2 nc 41 2 ((eF R2 e0).flatMap dB),M (Z ⟨tb,0,A⟩) n n 3 1 (((List.range n).map (cS bl)).map (U O)),K p1 [G Y.name,U O (P:Int),U O (R2:Int),J (Z ⟨vb,vo,A⟩) n yc] 35,K p2 [G aA,U O 0,U O 0,J A 0 0] 35,(⟨af,λw=>aG w (J aa an ac) 1 (be bl) cN⟩:bN)]) (e:=42) (xd.perm (aP.2 λe=>by simp only[bC,br,cq];omega)) rR.symm I λr hr=>⟨by have:=(GP r hr).1;omega,(GP r hr).2⟩
  have wN:aG (cd (cH (mF q p1 (J aa an ac) (J (Z ⟨kb,0,A⟩) n n) (P+gg bl [])::fS (Z ⟨vb,vo,A⟩) yc ys)) w) (J na R2 nc) 2 (eF R2 (BT (mT bl P) bl P 0)) mi:=by
   rw[Pn];refine xd.oH (k:=0) rfl (by rw[gO]) I λi x hx=>⟨dB x,λj v hj=>fB eZ _ i x j v hx hj,rfl,?_⟩;have hi:i<R2:=by have:=(az.1 hx).1;rwa[gO]at this
   rw[vN hi]at hx;rw[<-a7 hx,he0];simp only
   split
   ·exact⟨by simp only;omega,by simp only;omega⟩
   ·exact⟨by simp[iu],by simp[iu]⟩
  have h9:=QN Y.name P R2 bl R2 P hI q p1 vb vo n yc aa an ac (Z ⟨kb,0,A⟩) n n hn n 0 [] [] ys na R2 nc _ _ w (by have:=mR hg c_ .refl;omega) c_ (by rw[hn];unfold sH;simp) (by rw[VW];exact I_.symm) uf (xy _ _) qq Pd GL wN hw.Ye;rw[<-hmS]at h9;refine h9.mono λu w' ⟨x,f1,f2,f3,f4⟩=>⟨x,f1,f2.nk,?_,f4⟩;rw[f3];have hV:([]:List Nat)++kA bl n 0=sH (cw Y):=by rw[hn,gF];rfl
  rw[gF];rw[gF]at hV;exact acj hP hV _ _
 obtain⟨BJ,hxd⟩:=hx;simp only[aW,aO];unfold mF;refine oU (H':=K q [ar (Z ⟨p1,0,A⟩),J aa an ac,J (Z ⟨kb,0,A⟩) n n,U O (m:Int)] 102::K p1 [G Y.name,U O (P:Int),U O (R2:Int),J (Z ⟨vb,vo,A⟩) n yc] 35::K p2 [G aA,U O 0,U O 0,J A 0 0] 35::fS (Z ⟨vb,vo,A⟩) yc x) (λw hw=>?_) ?_
 ·refine hw.pick ⟨[M na R2 nc 41 2 ((eF R2 e0).flatMap dB),M (Z ⟨kb,0,A⟩) n n 42 1 (rs.map fG),M (Z ⟨tb,0,A⟩) n n 3 1 (((List.range n).map (cS bl)).map (U O))]++(rs.map ie++[(⟨af,λw=>aG w (J aa an ac) 1 (be bl) cN⟩:bN)]),aP.2 λe=>?_⟩
  simp only[bC,br,cq];omega
 refine aE ?_;have ue:x.length=n:=by
  have h3:=congrArg List.length BJ;rw[aF,fq]at h3;omega
 refine oU (H':=fS (Z ⟨vb,vo,A⟩) yc x++[K p1 [G Y.name,U O (P:Int),U O (m:Int),J (Z ⟨vb,vo,A⟩) n yc] 35,K p2 [G aA,U O 0,U O 0,J A 0 0] 35]) (λw hw=>?_) ?_
 ·refine hw.pick ⟨[K q [ar (Z ⟨p1,0,A⟩),J aa an ac,J (Z ⟨kb,0,A⟩) n n,U O (m:Int)] 102],aP.2 λe=>?_⟩
  simp only[bC,br,cq];omega
 obtain⟨aj9,hZ⟩:∃aj9,aj9=en (eJ Y):=⟨_,rfl⟩;rw[<-hZ];refine fK (val:=λx:Option Addr×Nat×List aX=>.agg #[G aj9.name,U O aj9.params,U O aj9.aB,J x.1 x.2.2.length x.2.1]) (akg:=λx=>fS x.1 x.2.1 x.2.2) (φ:=λx=>x.2.2.map aX.eR=aj9.blocks/\(∀b∈x.2.2,b.Bd)/\x.2.2.length<=1000/\dk aj9.params/\dk aj9.aB) rfl (λw hw=>?_) λakj hz=>?_
 ·have rq:(eJ Y).blocks.length=n:=by
   show(ms _ _ _).length=_;rw[fq,<-gF,hn]
  have h9:=Dx (eJ Y) m (by rw[hm];exact sE) I (by show dk Y.params;exact⟨I,I⟩) {w with heap:=#[]} (Z ⟨vb,vo,A⟩) yc x w (by rw[BJ];show _=ms (mT (cw Y) Y.params.toNat) (cw Y) Y.params.toNat;rw[<-gF,<-hPn]) hxd ⟨rfl,rfl,rfl,aT _,λk hk=>absurd hk (nS k)⟩ (λ_ _=>aT _) hw.pre;have e1:(eJ Y).params=(P:Int):=hYp;have e2:(eJ Y).aB=(m:Int):=by rw[hm];rfl
  have e3:(eJ Y).name=Y.name:=rfl;rw[e1,e2,e3,ue,<-hZ]at h9;exact h9
 obtain⟨fa,fc,zs⟩:=akj;simp only at hz⊢;refine bi (H1:=K p1 [G Y.name,U O (P:Int),U O (m:Int),J (Z ⟨vb,vo,A⟩) n yc] 35::K p2 [G aA,U O 0,U O 0,J A 0 0] 35::fS fa fc zs) (aP.2 λe=>by simp only[bC,br,cq];omega) ?_;refine aE ?_;rw[Fj];exact gw rfl λw hw=>⟨(fa,fc,zs),rfl,hw.sub (.cons _ (.cons _ (.refl _))),hz⟩
theorem Vh(u:a8)(hl:nA u)(wJ:(dA u).1≠0)(g fs:V)(w0:C)(hg:aG w0 g 3 u.globals fg)(hf:aG w0 fs 4 u.funcs gq)(iN:bF w0 0 0 nI):
  eP ae 10 [au #[g,fs]] w0 (.tuple #[au #[J A 0 0,J A 0 0],au #[U O (dA u).1,U O (dA u).2]]):=by
 have yX:=hg;have wM:=hf;obtain⟨ga,gn,gc,gb,go,rfl,_⟩:=hg;obtain⟨fa,fn,fc,fb,fo,rfl,qq,_⟩:=hf;refine aM func10 rfl ntmps10 rfl (Wd.nil cX w0) ?_
 repeat(first|refine aU ?_|refine dZ λ_ _=>?_)
 rename_i p1 _ p2 _ p3 _;refine bB rfl (λw hw=>tO u hl _ _ w (yX.bZ dq hw.ch) (wM.bZ dG hw.ch) (iN.bZ hw.ch)) ?_
 repeat(first|refine aE ?_|refine dZ λ_ _=>?_)
 rename_i p4 _;refine aI (λh1=>?_) (λh1=>?_)
 ·refine aU ?_
  refine v_ [aj 2 p2,aj 3 p3] [K p3 [U O (dA u).1,U O (dA u).2] 28,K p2 [J A 0 0,J A 0 0] 25] mixed ?_ ?_
  ·repeat' (first|refine z_ ai ?_|refine yN ai ?_|refine any_nil|refine nQ ai ?_|refine any_cons ?_ ?_|refine nJ rfl ?_|refine lJ ?_|refine pQ ?_|refine mZ ?_)
   all_goals exact aS ap aC
  ·refine aE ?_
   exact tT rfl λ_ hw=>⟨rfl,hw.ch⟩
 ·simp at h1
  omega
theorem D0(u:a8)(hl:nA u)(hu:Whole u)(g fs:V)(w:C)(hg:aG w g 3 u.globals fg)(hf:aG w fs 4 u.funcs gq):
  iC ae 24 [au #[g,fs],.func (.func 25) #[] #[]] w (Rh u j0 w):=
 aap u (KO (fN.2 hu.ok)) ⟨OZ hl,O0 hl (fN.2 hu.ok)⟩ _ _ w hg hf 25 [] [] j0 λX hX=>by
  obtain⟨k,hk⟩:=bg hX;obtain⟨R,hA,hT⟩:=zG hu.ok hk;have hY:(oL u).funcs[k]?=Z (cn X):=by rw[l5,hk];rfl
  have LH:=(kB hu).1;obtain⟨R2,hP⟩:=mK hu k _ hY;have h1:=(hl.2 X hX).1;have h2:=hA.par;have h3:=hA.le;have hs:=BA.same hu.ok hk;have h5:=hs.size;rw[<-qR]at h5;exact QJ X R hA hT (BU hu.ok hk).1 h1 I ⟨I,I⟩ R2 hP _ (LH.ok.body _ (aq hY)) (rf LH.ok hY) w
theorem Vi(u:a8)(hl:nA u)(hu:Whole u)(i:Nat)(X:aY)(hF:mU u j0 i X)(g fs:V)(w0:C)(hg:aG w0 g 3 u.globals fg)(hf:aG w0 fs 4 u.funcs gq)(iN:bF w0 0 0 nI):
  eP ae 10 [au #[g,fs]] w0 (.tuple #[au #[J A 0 0,J A 0 0],au #[U O 10,U O i]]):=by
 have yX:=hg;have wM:=hf;obtain⟨ga,gn,gc,gb,go,rfl,_⟩:=hg;obtain⟨fa,fn,fc,fb,fo,rfl,qq,_⟩:=hf;refine aM func10 rfl ntmps10 rfl (Wd.nil cX w0) ?_
 repeat(first|refine aU ?_|refine dZ λ_ _=>?_)
 rename_i p1 _ p2 _ p3 _;refine bB rfl (λw hw=>tO u hl _ _ w (yX.bZ dq hw.ch) (wM.bZ dG hw.ch) (iN.bZ hw.ch)) ?_;rw[nt (fN.2 hu.ok)]
 repeat(first|refine aE ?_|refine dZ λ_ _=>?_)
 rename_i p4 _;refine bB (u:=.tuple #[au #[J A 0 0,J A 0 0],au #[U O 10,U O i]]) rfl (λw hw=>(D0 u hl hu _ _ w (yX.bZ dq hw.ch) (wM.bZ dG hw.ch)).mono λv w' h=>?_) ?_
 ·rcases h with⟨j,Y,h1,h2,h3,h4,h5⟩|⟨h1,_⟩
  ·obtain rfl:j=i:=mU.one ⟨h1,h2,h3⟩ hF
   exact⟨h4,h5⟩
  ·exact absurd hF.TK (by rw[h1 X (aq hF.at')];simp)
 refine aE ?_;exact tT rfl λ_ hw=>⟨rfl,hw.ch⟩
theorem Oh(u:a8)(hl:nA u)(hu:Whole u)(hN:∀X∈u.funcs,gp (j0 X)=false)(g fs:V)(w0:C)(hg:aG w0 g 3 u.globals fg)(hf:aG w0 fs 4 u.funcs gq)(iN:bF w0 0 0 nI):
  iC ae 10 [au #[g,fs]] w0 λv w'=>∃x:(Option Addr×Nat)×(Option Addr×Nat)×(Nat->Prop),v=.tuple #[au #[J x.1.1 u.globals.length x.1.2,J x.2.1.1 u.funcs.length x.2.1.2],au #[U O 0,U O 0]]/\Wd cX w0 [Kh (oE u) (J x.1.1 u.globals.length x.1.2) (J x.2.1.1 u.funcs.length x.2.1.2) x.2.2] w'/\True:=by
 have yX:=hg;have wM:=hf;obtain⟨ga,gn,gc,gb,go,rfl,_⟩:=hg;obtain⟨fa,fn,fc,fb,fo,rfl,qq,_⟩:=hf;refine aM func10 rfl ntmps10 rfl (Wd.nil cX w0) ?_
 repeat(first|refine aU ?_|refine dZ λ_ _=>?_)
 rename_i p1 _ p2 _ p3 _;refine bB rfl (λw hw=>tO u hl _ _ w (yX.bZ dq hw.ch) (wM.bZ dG hw.ch) (iN.bZ hw.ch)) ?_;rw[nt (fN.2 hu.ok)]
 repeat(first|refine aE ?_|refine dZ λ_ _=>?_)
 rename_i p4 _;refine cZ (val:=λx:(Option Addr×Nat)×(Option Addr×Nat)×(Nat->Prop)=>.tuple #[au #[J x.1.1 u.globals.length x.1.2,J x.2.1.1 u.funcs.length x.2.1.2],au #[U O 0,U O 0]]) (akg:=λx=>[Kh (oE u) (J x.1.1 u.globals.length x.1.2) (J x.2.1.1 u.funcs.length x.2.1.2) x.2.2]) (φ:=λ_=>True) rfl (λw hw=>(D0 u hl hu _ _ w (yX.bZ dq hw.ch) (wM.bZ dG hw.ch)).mono λv w' h=>?_) λx _=>?_
 ·rcases h with⟨j,Y,h1,h2,_⟩|⟨_,ga,fa,gc,fc,fp,rfl,hw⟩
  ·rw[hN Y (aq h1)]at h2
   cases h2
  ·exact⟨((ga,gc),(fa,fc),fp),rfl,hw,trivial⟩
 obtain⟨⟨ya,yc⟩,⟨za,zc⟩,fp⟩:=x;simp only[aW,aO];refine aE ?_;refine tT rfl λw hw=>⟨((ya,yc),(za,zc),fp),rfl,hw.pick inferInstance,trivial⟩
section
theorem Vr(ν:Nat->Nat->Int)(bl:List E)(n b k:Nat)(x:dJ):ff (iR ν bl n b k x)=(ff x).map (k7 ν bl n b k):=by
 unfold ff iR;simp only
 split
 ·rfl
 ·split
  ·rfl
  ·split
   ·rfl
   ·split<;>rfl
section
variable {Y:aY} {R:Nat}
theorem Yc(h:mg Y R){b:Nat}{B:E}(hB:Y.blocks[b]?=Z B):(cw Y)[b]?=Z {B with aD:=B.aD++dg Y.blocks R b}:=by
 rw[ux h.all];exact gG hB
theorem Vc(h:mg Y R){b:Nat}{B:E}(hB:Y.blocks[b]?=Z B):(eJ Y).blocks[b]?=Z (fX (mT (cw Y) Y.params.toNat) (cw Y) Y.params.toNat b {B with aD:=B.aD++dg Y.blocks R b}):=by
 show(ms _ _ _)[b]?=_;exact gz (Yc h hB)
theorem Qi(h:mg Y R)(b:Nat):aZ (eJ Y).blocks b=aZ Y.blocks b:=by
 obtain⟨hg,c_,ii,hlen⟩:=fW h.all;exact pY (by show(ms _ _ _).length=_;rw[fq,hlen]) (λi=>(AL _ _ _ i).trans (ii i)) b
end
theorem G7{aj9:aY}(h:c9 aj9=aj9.blocks):(en aj9).blocks=aj9.blocks.map (iQ (gi aj9.params.toNat aj9.blocks)):=by
 show(c9 aj9).map (iQ (gi _ (c9 aj9)))=_;rw[h]
end
theorem Yo(v:V)(bl:List E)(cY:cT bl)(c_:0<bl.length)(a b:Nat)(hb:gH bl (-1) 0 b)(w0:C)(hv:aG w0 v 1 ((List.range bl.length).map (cS bl)) fI):eP ae 163 [v,U O a,U O b] w0 (D (open Classical in decide (jY bl a b))):=by
 classical
 obtain⟨va,vn,vc,vb,vo,rfl,hn,qP,GM,hc,oC,ji⟩:=hv;rw[aF,fA]at hn;refine aM func163 rfl ntmps163 rfl (Wd.nil cX w0) ?_;refine aH ?_;refine bL (λ(akj:Int)=>((akj<0/\akj=-1)∨∃c:Nat,akj=c/\jY bl c b)/\(jY bl a b↔Ey bl a akj)) (λakj=>[(2,U O akj),(0,J va vn vc),(1,U O a)]) (λ_=>[]) (λakj=>Hz bl akj) (b:Int) ⟨.inr ⟨b,rfl,.refl hb⟩,⟨λh=>⟨b,rfl,h⟩,λ⟨c,e,h⟩=>(show b=c by omega)▸h⟩⟩ (aS ap aC) λakj ⟨hz,hd⟩=>?_;refine aU ?_;rcases hz with⟨VX,rfl⟩|⟨c,rfl,xF⟩
 ·rw[show decide ((0:Int)<=-1)=false from rfl]
  refine iL ?_;refine bP rfl ?_;rw[decide_eq_false λh=>?_,decide_eq_false λh=>?_]
  ·obtain⟨d,hd1,_⟩:=hd.1 h
   omega
  ·omega
 ·rw[show decide ((0:Int)<=(c:Int))=true by simp]
  have Pk:c<vn:=by have:=cY.zQ c_ xF.1;omega
  refine aE ?_;refine aI (λh1=>?_) (λh1=>?_)
  ·have eQ:c≠a:=by have:=h1;simp at this;omega
   have hlc:bY c vn:=⟨Pk⟩;obtain⟨_,fT,rfl,_⟩:=ji c (cS bl c) (by rw[aJ,eX I];rfl);have oW:bU va vb vo:=⟨oC (λe=>by have:=congrArg List.length e;rw[aF,fA,qD]at this;omega)⟩;have n_:a6 w0 vb (vo+c*1) _:=⟨fT⟩;refine aH ?_;refine bj (cS bl c) ⟨F5 cY c_ xF,hd.trans ?_⟩ (Oy cY c_ xF.1) ap aC;have h3:=zZ cY c_ (a:=c) (i:=a) xF.1;exact⟨λ⟨d,e,h⟩=>(h3.1 ((show c=d by omega)▸h)).resolve_right (Ne.symm eQ),λh=>⟨c,rfl,h3.2 (.inl h)⟩⟩
  ·have he:c=a:=by have:=h1;simp at this;omega
   subst he;refine aE ?_;refine bP rfl ?_;rw[decide_eq_true rfl,decide_eq_true (hd.2 ⟨c,rfl,.refl xF.1⟩)]
end
end Go.Proofs.YthfhgolkafpmnaaGreatDoor
