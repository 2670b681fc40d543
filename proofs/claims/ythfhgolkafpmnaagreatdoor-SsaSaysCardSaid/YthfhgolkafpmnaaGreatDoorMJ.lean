/- Lemmas. -/
import Derived.ChangeKeysEq
import Derived.Test.YthfhgolkafpmnaaGreatDoorIN
import Derived.Test.YthfhgolkafpmnaaGreatDoorMH
namespace Go.Proofs.YthfhgolkafpmnaaGreatDoor
open Go.Value renaming int->J,slice->I,string->aQ,bool->ag,agg->aC
open Go.IntKind renaming i64->Z
open Option renaming some->O,none->U
open Go renaming Value->K,World->ae
open List renaming replicate->aI,range->bj
open Go.Proofs.Tryz
open Go.Proofs.Tryz renaming prog->Y
open Go Go.RowKit
section
set_option maxHeartbeats 8000000
attribute [local irreducible] wpListIn Code.wpIn Exit.then Exit.inBlock bodyPost wpQuiet wpAnyIn wpAnyH bodyPostM md
theorem R6(r:Nat)(f:Int->cI):f_ (r+1) f=f_ r f++[f r]:=by
 unfold f_;rw[iV,bz]
 rfl
theorem Si(X:bZ)(R:Nat)(hX:lj X R)(hT:AE X R)(vf:rE X.blocks)(hlen:X.blocks.length<=40)(oY:eu X.blocks<=300)(vg:dE X.params)(R2:Nat)(hP:vM (ju X) R2)(fs:List bZ)(hB:qx fs (ju X))(h0:(bi (ju X).blocks 0).bg=[])(w0:ae):GG w0 25 [] [] Bz X:=by
 classical
 obtain⟨g1,g2,g3⟩:=HN hX hT;obtain⟨xn,xp,xr,xb⟩:=X;simp only at hlen oY vf g1 g2;intro a c bs wb gV oF QP hfr hw;simp only at gV;subst gV;rw[aG]at hlen g1;simp only[aS,cj];refine aR func25 rfl ntmps25 rfl hw ?_;obtain⟨SS,DT⟩:∃SS,SS=df (eM a c bs):=⟨_,rfl⟩;rw[<-DT]
 repeat(first|refine bA ?_|refine dd λ_ _=>?_)
 rename_i p1 _ p2 _;obtain⟨cP,hY⟩:∃cP,cP=ju ⟨xn,xp,xr,bs.map aK.dD⟩:=⟨_,rfl⟩;have agp:Bz ⟨xn,xp,xr,bs.map aK.dD⟩=fJ (tS cP):=by unfold Bz;rw[<-hY]
 rw[agp];rw[<-hY]at hP hB h0 g1 g2;have hYl:cP.blocks.length<=40:=A;have hYm:eu cP.blocks<=300:=A;obtain⟨hg,dW,lG,ad9⟩:=kP hP.all;have hI:=af2 hP hB hYl hYm;have agK:=ZZ hP hB h0 hYl hYm;have hM:=CM hP hYl hYm;have hYr:=hP.all.bm;have ajq:=hP.all.par;have ajm:=hP.all.le;refine bG (H1:=eM a c bs++[aj p2,D p1 xn xp xr a bs.length c]) (fG (l₁:=[_,_])) ?_;refine fO (val:=λx:ax×Nat×List aK=>.agg #[aQ cP.name,J Z cP.params,J Z cP.bm,I x.1 x.2.2.length x.2.1]) (cZ:=λx=>eM x.1 x.2.1 x.2.2) (φ:=λx=>x.2.2.map aK.dD=cP.blocks/\(∀b∈x.2.2,b.Bd)/\x.2.2.length<=1000/\dE cP.params/\dE cP.bm) rfl (λw hw=>?_) λz hz=>?_
 ·have h9:=abg ⟨xn,xp,xr,bs.map aK.dD⟩ R hX hT vf (by simp only[aG];omega) bB vg {w with heap:=#[]} a c bs w rfl oF ⟨rfl,rfl,rfl,aN _,λk hk=>absurd hk (Nat.not_lt_zero k)⟩ (λ_ _=>aN _) hw.pre
  rw[<-hY]at h9;exact h9
 obtain⟨ta,tc,ts⟩:=z;obtain⟨Vf,SI,_⟩:=hz;simp only at Vf SI|-
 refine fO (val:=λx:ax×Nat×List aK=>.agg #[aQ cP.name,J Z cP.params,J Z cP.bm,I x.1 x.2.2.length x.2.1]) (cZ:=λx=>eM x.1 x.2.1 x.2.2) (φ:=λx=>x.2.2.map aK.dD=gU cP/\(∀b∈x.2.2,b.Bd)) rfl (λw hw=>?_) λz hz=>?_
 ·have h9:=OD cP R2 hP.all A A {w with heap:=#[]} ta tc ts w Vf SI ⟨rfl,rfl,rfl,aN _,λk hk=>absurd hk (Nat.not_lt_zero k)⟩ (λ_ _=>aN _) hw.pre
  exact h9.mono λu w' ⟨x,e1,e2,e3,e4,_⟩=>⟨x,e1,e2,e3,e4⟩
 obtain⟨ya,yc,ys⟩:=z;obtain⟨K1,uG⟩:=hz;simp only at K1 uG|-
 obtain⟨bl,jX⟩:∃bl,bl=gU cP:=⟨_,rfl⟩;obtain⟨P,hPn⟩:∃P,P=cP.params.toNat:=⟨_,rfl⟩;have hYp:cP.params=(P:Int):=A;rw[<-jX]at hg dW ad9 K1 hI;rw[<-hPn]at hI;obtain⟨n,hn⟩:∃n,n=bl.length:=⟨_,rfl⟩;have NN:ys.length=n:=by
  have h3:=bD List.length K1;rw[aG]at h3;omega
 rw[NN,hYp,hYr];refine fU (H1:=am ya ys.length yc ys::(ys.map bP++[aj p2,D p1 xn xp xr a bs.length c])) rfl ?_;refine fy 0 rfl A λvb vo qt=>?_;subst qt;refine bG (H1:=D p1 xn xp xr a bs.length c::aj p2::eM (O ⟨vb,vo,U⟩) yc ys) (aX.2 λe=>by unfold eM;simp only[bU,bM,dG,D,aj,am];omega) ?_;refine aV ?_;have rB:∀{H:List cq} {w:ae},Wd SS wb H w->(eM (O ⟨vb,vo,U⟩) yc ys).Sublist H->aY w (I (O ⟨vb,vo,U⟩) n yc) 6 bl da:=λ{H w} hw hs=>by
  rw[<-K1,<-NN];refine Wd.blocks (H:=[]) (hw.sub ?_) A uG;rw[cj];exact hs
 have tP:∀(b:Nat) B,bl[b]?=O B->B.to.Nodup:=λb B hB=>(hI.ok.block b B hB).to;refine dI [D p1 cP.name (P:Int) (R2:Int) (O ⟨vb,vo,U⟩) n yc] (λx:((ax×Nat×Nat)×(Nat->Prop))×Nat×Nat=>True) (λx=>[M 3 x.2.2,M 1 p1,M 2 p2])
  (λx=>iH x.2.2 (O ⟨p1,0,U⟩) x.1.1.1 x.1.1.2.1 x.1.1.2.2 (O ⟨x.2.1,0,U⟩) n n (P:Int)::G (O ⟨x.2.1,0,U⟩) n n 42 1 (aI n (I U 0 0))::⟨x.1.2,λw=>aY w (I x.1.1.1 x.1.1.2.1 x.1.1.2.2) 1 (ci bl) dQ⟩::D p1 cP.name (P:Int) (R2:Int) (O ⟨vb,vo,U⟩) n yc::aj p2::eM (O ⟨vb,vo,U⟩) yc ys) mixed (dN qy) ?_ λx _=>?_
 ·refine W 0 ?_;refine W 2 ?_;refine W 3 ?_;refine W 4 ?_;refine W 6 ?_;refine W 7 ?_;refine jL 1 5 E ?_ ?_
  ·(refine gZ 1 (val:=λx:(ax×Nat×Nat)×(Nat->Prop)=>.slice x.1.1 x.1.2.1 x.1.2.2) (cZ:=λx=>[⟨x.2,λw=>aY w (I x.1.1 x.1.2.1 x.1.2.2) 1 (ci bl) dQ⟩]) (φ:=λ_=>True) rfl aB (λw hw=>jq _ _ _ bl _ w (rB hw aB) A hg) λy _=>?_;obtain⟨⟨aa,an,ac⟩,af⟩:=y;simp only[bF,aS])
   refine cD 5 E ?_;refine Wg 5 rfl A A aB λkb _=>?_;refine bG (H1:=G (O ⟨kb,0,U⟩) n n 42 1 (aI n (I U 0 0))::⟨af,λw=>aY w (I aa an ac) 1 (ci bl) dQ⟩::D p1 cP.name (P:Int) (R2:Int) (O ⟨vb,vo,U⟩) n yc::aj p2::eM (O ⟨vb,vo,U⟩) yc ys) (aX.2 λe=>by simp only[bM,D,aj]<;>omega) ?_;refine W 8 ?_;refine cD 9 E (Wb 9 rfl aB λq _=>?_);refine W 10 ?_;refine ef E ?_;exact dy (((aa,an,ac),af),kb,q) trivial V aF
  ·refine Wg 5 rfl A A aB λkb _=>?_;refine cD 1 E ?_
   (refine gZ 1 (val:=λx:(ax×Nat×Nat)×(Nat->Prop)=>.slice x.1.1 x.1.2.1 x.1.2.2) (cZ:=λx=>[⟨x.2,λw=>aY w (I x.1.1 x.1.2.1 x.1.2.2) 1 (ci bl) dQ⟩]) (φ:=λ_=>True) rfl aB (λw hw=>jq _ _ _ bl _ w (rB hw aB) A hg) λy _=>?_;obtain⟨⟨aa,an,ac⟩,af⟩:=y;simp only[bF,aS])
   refine bG (H1:=G (O ⟨kb,0,U⟩) n n 42 1 (aI n (I U 0 0))::⟨af,λw=>aY w (I aa an ac) 1 (ci bl) dQ⟩::D p1 cP.name (P:Int) (R2:Int) (O ⟨vb,vo,U⟩) n yc::aj p2::eM (O ⟨vb,vo,U⟩) yc ys) (aX.2 λe=>by simp only[bM,D,aj]<;>omega) ?_;refine W 8 ?_;refine cD 9 E (Wb 9 rfl aB λq _=>?_);refine W 10 ?_;refine ef E ?_;exact dy (((aa,an,ac),af),kb,q) trivial V aF
 obtain⟨⟨⟨aa,an,ac⟩,af⟩,kb,q⟩:=x;simp only;refine uX 3 1 n ?_;rw[show(aI n (I U 0 0))=(aI n (⟨U,0,[]⟩:Row)).map fi by simp[fi],show(aI n (G U 0 0 3 1 []))=(aI n (⟨U,0,[]⟩:Row)).map gP by simp[gP]];refine bG (H1:=iH q (O ⟨p1,0,U⟩) aa an ac (O ⟨kb,0,U⟩) n n (P:Int)::G (O ⟨kb,0,U⟩) n n 42 1 ((aI n (⟨U,0,[]⟩:Row)).map fi)::(⟨af,λw=>aY w (I aa an ac) 1 (ci bl) dQ⟩:cq)::D p1 cP.name (P:Int) (R2:Int) (O ⟨vb,vo,U⟩) n yc::aj p2::(eM (O ⟨vb,vo,U⟩) yc ys++(aI n (⟨U,0,[]⟩:Row)).map gP)) fM ?_;refine bA ?_;refine cN (val:=λa:Nat=>.slice (O ⟨a,0,U⟩) bl.length bl.length) (cZ:=λa=>[aE (O ⟨a,0,U⟩) bl.length bl.length ((bj bl.length).map (ed bl))]) (φ:=λ_=>True) rfl (λw hw=>Mc _ _ _ bl _ ⟨_,_,_,rfl⟩ w (rB hw (.cons _ (.cons _ (.cons _ (.cons _ (.cons _ (fe _ _))))))) A hg tP dW) λtb _=>?_;simp only[bF,aS];rw[<-hn];refine aU ?_;have ai9:n<=100:=A;refine bH (λx:Nat×List Row=>x.1<=n/\x.2.map (·.l)=xF bl x.1/\∀r∈x.2,r.l.length<=x.1/\∀y∈r.l,dE y) (λx=>[(25,J Z x.1),(23,I (O ⟨tb,0,U⟩) n n),(24,J Z n),M 3 q,M 1 p1,M 2 p2]) (λx=>iH q (O ⟨p1,0,U⟩) aa an ac (O ⟨kb,0,U⟩) n n (P:Int)::G (O ⟨kb,0,U⟩) n n 42 1 (x.2.map fi)::aE (O ⟨tb,0,U⟩) n n ((bj n).map (ed bl))::D p1 cP.name (P:Int) (R2:Int) (O ⟨vb,vo,U⟩) n yc::aj p2::(x.2.map gP++((⟨af,λw=>aY w (I aa an ac) 1 (ci bl) dQ⟩:cq)::eM (O ⟨vb,vo,U⟩) yc ys))) (λx=>n-x.1) (0,aI n ⟨U,0,[]⟩)
  ⟨aN _,by simp only;rw[NZ,<-hn];simp,by simp⟩ (bG fM (aP V aF)) λx ⟨hi,JA,Bc⟩=>?_
 obtain⟨i,rs⟩:=x;simp only at hi JA Bc|-
 have oG:rs.length=n:=by
  have h3:=bD List.length JA;rw[aG]at h3;unfold xF at h3;rw[aG,d_]at h3;omega
 refine bA ?_;apply aL<;>intro h1
 ·have iM:i<n:=aD h1
  have kK:cg i n:=⟨iM⟩;have abZ:uk ((bj n).map (ed bl)) i (ed bl i):=⟨by rw[aW,gq iM];rfl⟩;refine aU ?_;apply aL<;>intro h2
  ·have DR:0<=ed bl i:=aD h2
   obtain⟨t,ht⟩:∃t:Nat,ed bl i=t:=⟨(ed bl i).toNat,A⟩;have UM:lJ bl t i:=by
    refine pM (b:=t) (c:=i) ?_;unfold pN;rw[cR,dv];exact⟨cW.2 A,ht⟩
   have qZ:t<n:=by rw[hn];exact hg.BG dW UM.BG
   have ce:cg t n:=⟨qZ⟩;obtain⟨r,hr⟩:=bE rs t A;obtain⟨akH,aii⟩:=Bc r (aA hr);rw[ht]
   have NM:MG (rs.map fi) (t*1) (I r.a r.l.length r.c):=⟨by simp[hr,fi]⟩;refine dI [iH q (O ⟨p1,0,U⟩) aa an ac (O ⟨kb,0,U⟩) n n (P:Int)] (λ_:ax×Nat=>True) (λ_=>[(25,J Z i),(23,I (O ⟨tb,0,U⟩) n n),(24,J Z n),M 3 q,M 1 p1,M 2 p2]) (λy=>iH q (O ⟨p1,0,U⟩) aa an ac (O ⟨kb,0,U⟩) n n (P:Int)::G (O ⟨kb,0,U⟩) n n 42 1 ((rs.set t ⟨y.1,y.2,r.l++[(i:Int)]⟩).map fi)::aE (O ⟨tb,0,U⟩) n n ((bj n).map (ed bl))::D p1 cP.name (P:Int) (R2:Int) (O ⟨vb,vo,U⟩) n yc::aj p2::((rs.set t ⟨y.1,y.2,r.l++[(i:Int)]⟩).map gP++((⟨af,λw=>aY w (I aa an ac) 1 (ci bl) dQ⟩:cq)::eM (O ⟨vb,vo,U⟩) yc ys))) mixed aB ?_ λy _=>?_
   ·refine W 0 ?_;refine W 1 ?_;refine W 2 ?_;refine W 3 ?_;refine W 4 ?_;refine W 5 ?_;refine W 6 ?_;refine W 7 ?_;refine W 8 ?_;refine W 9 ?_;refine W 10 ?_;refine W 12 ?_;refine jL 11 13 E ?_ ?_
    ·refine gM 11 rfl aB ?_;refine cD 13 E ?_;refine gT 13 rfl E aB λbt _=>?_;have KC:∀(A0 A1 A2 A3 A4 A5:cq) (zf:List cq) (e':cq),(A0::A1::A2::A3::A4::A5::zf).set (t+6) e'=A0::A1::A2::A3::A4::A5::zf.set t e':=λ_ _ _ _ _ _ _ _=>rfl;refine iu 14 (t+6) (xs:=r.l.map (J Z)) (e:=3) (by
      show(rs.map gP++_)[t]?=_;rw[eX (by rw[aG];omega),aW,hr]
      rfl) rfl E A A E (λe'=>by rw[KC];exact .cons _ (dN qy)) λa' c'=>?_
     refine fU (H1:=G (O ⟨bt,0,U⟩) 1 1 3 1 [J Z i]::iH q (O ⟨p1,0,U⟩) aa an ac (O ⟨kb,0,U⟩) n n (P:Int)::G (O ⟨kb,0,U⟩) n n 42 1 (rs.map fi)::aE (O ⟨tb,0,U⟩) n n ((bj n).map (ed bl))::D p1 cP.name (P:Int) (R2:Int) (O ⟨vb,vo,U⟩) n yc::aj p2::((rs.set t ⟨a',c',r.l++[(i:Int)]⟩).map gP++((⟨af,λw=>aY w (I aa an ac) 1 (ci bl) dQ⟩:cq)::eM (O ⟨vb,vo,U⟩) yc ys))) (by
      rw[KC,List.set_append_left _ _ (by rw[aG];omega),eT];simp[gP]) ?_
     have mT:lS (rs.map fi) (t*1) (I a' (r.l.length+1) c') ((rs.set t ⟨a',c',r.l++[(i:Int)]⟩).map fi):=⟨by simp[fi],by rw[aG];omega⟩;refine W 15 ?_;refine cD 16 E ?_;refine mW 16 aB ?_;refine ef E ?_;exact dy (a',c') trivial V aB
    ·refine gT 13 rfl E aB λbt _=>?_;refine cD 11 E ?_;refine gM 11 rfl aB ?_;have KC:∀(A0 A1 A2 A3 A4 A5:cq) (zf:List cq) (e':cq),(A0::A1::A2::A3::A4::A5::zf).set (t+6) e'=A0::A1::A2::A3::A4::A5::zf.set t e':=λ_ _ _ _ _ _ _ _=>rfl;refine iu 14 (t+6) (xs:=r.l.map (J Z)) (e:=3) (by
      show(rs.map gP++_)[t]?=_;rw[eX (by rw[aG];omega),aW,hr]
      rfl) rfl E A A E (λe'=>by rw[KC];exact .cons _ (dN qy)) λa' c'=>?_
     refine fU (H1:=G (O ⟨bt,0,U⟩) 1 1 3 1 [J Z i]::iH q (O ⟨p1,0,U⟩) aa an ac (O ⟨kb,0,U⟩) n n (P:Int)::G (O ⟨kb,0,U⟩) n n 42 1 (rs.map fi)::aE (O ⟨tb,0,U⟩) n n ((bj n).map (ed bl))::D p1 cP.name (P:Int) (R2:Int) (O ⟨vb,vo,U⟩) n yc::aj p2::((rs.set t ⟨a',c',r.l++[(i:Int)]⟩).map gP++((⟨af,λw=>aY w (I aa an ac) 1 (ci bl) dQ⟩:cq)::eM (O ⟨vb,vo,U⟩) yc ys))) (by
      rw[KC,List.set_append_left _ _ (by rw[aG];omega),eT];simp[gP]) ?_
     have mT:lS (rs.map fi) (t*1) (I a' (r.l.length+1) c') ((rs.set t ⟨a',c',r.l++[(i:Int)]⟩).map fi):=⟨by simp[fi],by rw[aG];omega⟩;refine W 15 ?_;refine cD 16 E ?_;refine mW 16 aB ?_;refine ef E ?_;exact dy (a',c') trivial V aB
   obtain⟨a',c'⟩:=y;simp only;refine aU ?_;refine a_ (i+1,rs.set t ⟨a',c',r.l++[(i:Int)]⟩) ⟨iM,?_,λr' Jz=>?_⟩ bB V aF
   ·simp only
    rw[VH ht,<-JA];exact ti hr rfl
   ·rcases j_ Jz with Jz|rfl
    ·have h3:=Bc r' Jz
     exact⟨by simp only;omega,h3.2⟩
    ·refine⟨by simp only[bW,lm];omega,λy hy=>?_⟩
     simp only at hy;rcases bO.1 hy with hy|hy
     ·exact aii y hy
     ·rw[bQ.1 hy];exact⟨A,A⟩
  ·have DR:ed bl i<0:=by have:=cE h2;omega
   refine aU ?_;exact a_ (i+1,rs) ⟨iM,by rw[VG DR];exact JA,λr hr=>⟨by have:=(Bc r hr).1;simp only;omega,(Bc r hr).2⟩⟩ bB V aF
 obtain rfl:n=i:=by have:=cE h1;omega
 rw[hn,Rm]at JA;refine aV ?_;obtain⟨e0,he0⟩:∃e0:Int->cI,e0=λr:Int=>if r<(P:Int)then⟨true,r⟩else lB:=⟨_,rfl⟩
 have ahb:O0 (B5 bl P) bl P 0=e0:=by
  funext r
  unfold O0;rw[OH,al (by decide),he0]
 refine dJ 41 2 ?_;refine bH (λx:Nat×ax×Nat=>x.1<=R2) (λx=>[(51,J Z x.1),(50,J Z (R2:Int)),(6,I x.2.1 x.1 x.2.2),M 3 q,M 1 p1,M 2 p2]) (λx=>ar x.2.1 x.1 x.2.2 (f_ x.1 e0)::iH q (O ⟨p1,0,U⟩) aa an ac (O ⟨kb,0,U⟩) n n (P:Int)::G (O ⟨kb,0,U⟩) n n 42 1 (rs.map fi)::aE (O ⟨tb,0,U⟩) n n ((bj n).map (ed bl))::D p1 cP.name (P:Int) (R2:Int) (O ⟨vb,vo,U⟩) n yc::aj p2::(rs.map gP++((⟨af,λw=>aY w (I aa an ac) 1 (ci bl) dQ⟩:cq)::eM (O ⟨vb,vo,U⟩) yc ys))) (λx=>R2-x.1) (0,U,0) (aN _) (aP V aF) λx hr=>?_;obtain⟨r,na,nc⟩:=x;simp only at hr|-
 refine bA ?_;apply aL<;>intro h1
 ·have hrR:r<R2:=aD h1
  have iy:=R6 r e0;have oG:=jE r e0
  repeat(first|refine aV ?_|refine dd λ_ _=>?_)
  apply aL<;>intro h2
  ·have hrP:(r:Int)<P:=aD h2
   have e4:(f_ (r+1) e0).flatMap mm=(f_ r e0).flatMap mm++[ag true,J Z (r:Int)]:=by
    rw[iy,ee,he0];simp only[fj,jc,cj];rw[al hrP]
    rfl
   repeat(first|refine aV ?_|refine dd λ_ _=>?_)
   refine kh 2 rfl rfl E A A λRv Rz=>?_;simp only[bS,bI];rw[<-e4];refine aU ?_;exact a_ (r+1,Rv,Rz) hrR bB V aB
  ·have hrP:¬(r:Int)<P:=aD h2
   have e4:(f_ (r+1) e0).flatMap mm=(f_ r e0).flatMap mm++[ag false,J Z 0]:=by
    rw[iy,ee,he0];simp only[fj,jc,cj];rw[ai hrP]
    rfl
   repeat(first|refine aU ?_|refine dd λ_ _=>?_)
   refine kh 2 rfl rfl E A A λRv Rz=>?_;simp only[bS,bI];rw[<-e4];refine aU ?_;exact a_ (r+1,Rv,Rz) hrR bB V aB
 obtain rfl:R2=r:=by have:=cE h1;omega
 refine aV ?_;obtain⟨m,hm⟩:∃m,m=xH (gU cP) cP.params.toNat:=⟨_,rfl⟩;have hmS:m=P+iX bl ([]++mi bl n 0):=by rw[hm,hn,hPn,jX];rfl
 refine lr (H':=(ox q p1 (I aa an ac) (I (O ⟨kb,0,U⟩) n n) (P+iX bl [])::eM (O ⟨vb,vo,U⟩) yc ys)++(ar na R2 nc (f_ R2 e0)::G (O ⟨kb,0,U⟩) n n 42 1 (rs.map fi)::aE (O ⟨tb,0,U⟩) n n ((bj n).map (ed bl))::D p1 cP.name (P:Int) (R2:Int) (O ⟨vb,vo,U⟩) n yc::aj p2::(rs.map gP++[(⟨af,λw=>aY w (I aa an ac) 1 (ci bl) dQ⟩:cq)]))) (λw hw=>?_) ?_
 ·refine hw.perm (aX.2 λe=>?_)
  rw[show P+iX bl []=P from rfl];unfold ox;simp only[bU,bM,dG,D,aj,ar,aE,iH];omega
 refine fO (val:=λ_:List aK=>.tuple #[]) (cZ:=λx=>ox q p1 (I aa an ac) (I (O ⟨kb,0,U⟩) n n) m::eM (O ⟨vb,vo,U⟩) yc x) (φ:=λx=>x.map aK.dD=pU (B5 bl P) bl P/\∀b∈x,b.Bd) rfl (λw hw=>?_) λx hx=>?_
 ·have aeY:F7 (B5 bl P) bl P (yG bl [])=bl:=by
   refine Xk (λc i h=>?_) (λc i j h=>?_) (λc k h=>?_) (λc h=>?_)
   ·cases h
   ·obtain⟨_,_,h⟩:=h
    cases h
   ·cases h
   ·cases h
  have wS:=hw.kw;have ve:ct (cC (df (ox q p1 (I aa an ac) (I (O ⟨kb,0,U⟩) n n) (P+iX bl [])::eM (O ⟨vb,vo,U⟩) yc ys)) w) p1 0 [aQ cP.name,J Z (P:Int),J Z (R2:Int),I (O ⟨vb,vo,U⟩) n yc]:=wS.kr p1;have QM:aY (cC (df (ox q p1 (I aa an ac) (I (O ⟨kb,0,U⟩) n n) (P+iX bl [])::eM (O ⟨vb,vo,U⟩) yc ys)) w) (I aa an ac) 1 (ci bl) dQ:=hw.beside (e:=(⟨af,λw=>aY w (I aa an ac) 1 (ci bl) dQ⟩:cq)) cK;have yB:aY (cC (df (ox q p1 (I aa an ac) (I (O ⟨kb,0,U⟩) n n) (P+iX bl [])::eM (O ⟨vb,vo,U⟩) yc ys)) w) (I (O ⟨kb,0,U⟩) n n) 1 ((bj bl.length).map λb=>(pN bl b).map λx:Nat=>(x:Int)) dQ:=by
   rw[<-JA];refine D0 (H:=[ar na R2 nc (f_ R2 e0),aE (O ⟨tb,0,U⟩) n n ((bj n).map (ed bl)),D p1 cP.name (P:Int) (R2:Int) (O ⟨vb,vo,U⟩) n yc,aj p2,(⟨af,λw=>aY w (I aa an ac) 1 (ci bl) dQ⟩:cq)]) (e:=42) (wS.perm fM) oG.symm A λr hr=>⟨by have:=(Bc r hr).1;omega,(Bc r hr).2⟩
  have vJ:aY (cC (df (ox q p1 (I aa an ac) (I (O ⟨kb,0,U⟩) n n) (P+iX bl [])::eM (O ⟨vb,vo,U⟩) yc ys)) w) (I na R2 nc) 2 (f_ R2 (O0 (B5 bl P) bl P 0)) mp:=by
   rw[ahb];refine wS.nf (k:=0) rfl (by rw[jE]) A λi x hx=>⟨mm x,λj v hj=>e_ eQ _ i x j v hx hj,rfl,?_⟩;have hi:i<R2:=by have:=(aJ.1 hx).1;rwa[jE]at this
   rw[xP hi]at hx;rw[<-bJ hx,he0];simp only
   split
   ·exact⟨by simp only;omega,by simp only;omega⟩
   ·exact⟨by simp[lB],by simp[lB]⟩
  have h9:=Sk cP.name P R2 bl R2 P hI q p1 vb vo n yc aa an ac (O ⟨kb,0,U⟩) n n hn n 0 [] [] ys na R2 nc _ _ w (by have:=tZ hg dW .refl;omega) dW (by rw[hn];unfold wn;simp) (by rw[K1];exact aeY.symm) uG (Ee _ _) ve QM yB vJ hw.adh;rw[<-hmS]at h9;refine h9.mono λu w' ⟨x,f1,f2,f3,f4⟩=>⟨x,f1,f2.ni,?_,f4⟩;rw[f3];have hV:([]:List Nat)++mi bl n 0=wn (gU cP):=by rw[hn,jX];rfl
  rw[jX];rw[jX]at hV;exact adw hP hV _ _
 obtain⟨uF,Vm⟩:=hx;simp only[bF];unfold ox;refine lr (H':=iH q (O ⟨p1,0,U⟩) aa an ac (O ⟨kb,0,U⟩) n n (m:Int)::D p1 cP.name (P:Int) (R2:Int) (O ⟨vb,vo,U⟩) n yc::aj p2::eM (O ⟨vb,vo,U⟩) yc x) (λw hw=>?_) ?_
 ·refine hw.pick ⟨[ar na R2 nc (f_ R2 e0),G (O ⟨kb,0,U⟩) n n 42 1 (rs.map fi),aE (O ⟨tb,0,U⟩) n n ((bj n).map (ed bl))]++(rs.map gP++[(⟨af,λw=>aY w (I aa an ac) 1 (ci bl) dQ⟩:cq)]),aX.2 λe=>?_⟩
  simp only[bU,bM,dG,D,aj,ar,aE,iH];omega
 refine aV ?_;have pw:x.length=n:=by
  have h3:=bD List.length uF;rw[aG,jF]at h3;omega
 refine lr (H':=eM (O ⟨vb,vo,U⟩) yc x++[D p1 cP.name (P:Int) (m:Int) (O ⟨vb,vo,U⟩) n yc,aj p2]) (λw hw=>?_) ?_
 ·refine hw.pick ⟨[iH q (O ⟨p1,0,U⟩) aa an ac (O ⟨kb,0,U⟩) n n (m:Int)],aX.2 λe=>?_⟩
  simp only[bU,bM,dG,D,aj,iH];omega
 obtain⟨zf,hZ⟩:∃zf,zf=fJ (tS cP):=⟨_,rfl⟩;rw[<-hZ];refine fO (val:=λx:ax×Nat×List aK=>.agg #[aQ zf.name,J Z zf.params,J Z zf.bm,I x.1 x.2.2.length x.2.1]) (cZ:=λx=>eM x.1 x.2.1 x.2.2) (φ:=λx=>x.2.2.map aK.dD=zf.blocks/\(∀b∈x.2.2,b.Bd)/\x.2.2.length<=1000/\dE zf.params/\dE zf.bm) rfl (λw hw=>?_) λz hz=>?_
 ·have pt:(tS cP).blocks.length=n:=by
   show(pU _ _ _).length=_;rw[jF,<-jX,hn]
  have h9:=E8 (tS cP) m (by rw[hm];exact agK) A (by show dE cP.params;exact⟨A,A⟩) {w with heap:=#[]} (O ⟨vb,vo,U⟩) yc x w (by rw[uF];show _=pU (B5 (gU cP) cP.params.toNat) (gU cP) cP.params.toNat;rw[<-jX,<-hPn]) Vm ⟨rfl,rfl,rfl,aN _,λk hk=>absurd hk (Nat.not_lt_zero k)⟩ (λ_ _=>aN _) hw.pre;have e1:(tS cP).params=(P:Int):=hYp;have e2:(tS cP).bm=(m:Int):=by rw[hm];rfl
  have e3:(tS cP).name=cP.name:=rfl;rw[e1,e2,e3,pw,<-hZ]at h9;exact h9
 obtain⟨fa,fc,zs⟩:=z;simp only at hz|-
 refine bG (H1:=D p1 cP.name (P:Int) (m:Int) (O ⟨vb,vo,U⟩) n yc::aj p2::eM fa fc zs) fM ?_;refine aV ?_;rw[DT];exact fD rfl λw hw=>⟨(fa,fc,zs),rfl,hw.sub (.cons _ (.cons _ (.refl _))),hz⟩
theorem W0(u:dk)(hl:vu u)(YD:(gL u).1≠0)(g fs:K)(w0:ae)(hg:aY w0 g 3 u.globals gX)(hf:aY w0 fs 4 u.funcs kG)(rr:ct w0 0 0 uj):
  gF Y 10 [aC #[g,fs]] w0 (.tuple #[aC #[I U 0 0,I U 0 0],aC #[J Z (gL u).1,J Z (gL u).2]]):=by
 have KE:=hg;have Jt:=hf;obtain⟨ga,gn,gc,gb,go,rfl,_⟩:=hg;obtain⟨fa,fn,fc,fb,fo,rfl,ve,_⟩:=hf;refine aR func10 rfl ntmps10 rfl (Wd.nil db w0) ?_
 repeat(first|refine bA ?_|refine dd λ_ _=>?_)
 rename_i p1 _ p2 _ p3 _;refine bY rfl (λw hw=>AJ u hl _ _ w (KE.cB gS hw.c_) (Jt.cB ie hw.c_) (rr.cB hw.c_)) ?_
 repeat(first|refine aV ?_|refine dd λ_ _=>?_)
 rename_i p4 _;apply aL<;>intro h1
 ·refine bA ?_
  refine AR [M 2 p2,M 3 p3] [fS p3 (gL u).1 (gL u).2,cw p2 U 0 0 U 0 0] mixed ?_ ?_
  ·repeat' (first|refine Cj E ?_|refine AQ E ?_|refine any_nil|refine pC E ?_|refine any_cons ?_ ?_|refine yO rfl ?_|refine ms ?_|refine qm ?_|refine oJ ?_)
   all_goals exact aP V kg
  ·refine aV ?_
   exact AS rfl λ_ hw=>⟨rfl,hw.c_⟩
 ·simp at h1
  omega
theorem FH(u:dk)(hl:vu u)(hu:Whole u)(g fs:K)(w:ae)(hg:aY w g 3 u.globals gX)(hf:aY w fs 4 u.funcs kG):
  iL Y 24 [aC #[g,fs],.func (.func 25) #[] #[]] w (SX u Bz w):=
 abh u (Ed (jo.2 hu.ok)) ⟨GL hl,yl hl (jo.2 hu.ok)⟩ _ _ w hg hf 25 [] [] Bz λX hX=>by
  obtain⟨k,hk⟩:=bR hX;obtain⟨R,hA,hT⟩:=D3 hu.ok hk;have hY:(BP u).funcs[k]?=O (ju X):=by rw[CP,hk];rfl
  have hu2:=(xV hu).1;obtain⟨R2,hP⟩:=L_ hu k _ hY;have h1:=(hl.2 X hX).1;have h2:=hA.par;have h3:=hA.le;have hs:=B9.same hu.ok hk;have h5:=hs.size;rw[<-sI]at h5;exact Si X R hA hT (AM hu.ok hk).1 h1 A ⟨A,A⟩ R2 hP _ (hu2.ok.body _ (aA hY)) (M6 hu2.ok hY) w
theorem W2(u:dk)(hl:vu u)(hu:Whole u)(i:Nat)(X:bZ)(hF:oH u Bz i X)(g fs:K)(w0:ae)(hg:aY w0 g 3 u.globals gX)(hf:aY w0 fs 4 u.funcs kG)(rr:ct w0 0 0 uj):
  gF Y 10 [aC #[g,fs]] w0 (.tuple #[aC #[I U 0 0,I U 0 0],aC #[J Z 10,J Z i]]):=by
 have KE:=hg;have Jt:=hf;obtain⟨ga,gn,gc,gb,go,rfl,_⟩:=hg;obtain⟨fa,fn,fc,fb,fo,rfl,ve,_⟩:=hf;refine aR func10 rfl ntmps10 rfl (Wd.nil db w0) ?_
 repeat(first|refine bA ?_|refine dd λ_ _=>?_)
 rename_i p1 _ p2 _ p3 _;refine bY rfl (λw hw=>AJ u hl _ _ w (KE.cB gS hw.c_) (Jt.cB ie hw.c_) (rr.cB hw.c_)) ?_;rw[xg (jo.2 hu.ok)]
 repeat(first|refine aV ?_|refine dd λ_ _=>?_)
 rename_i p4 _;refine bY (u:=.tuple #[aC #[I U 0 0,I U 0 0],aC #[J Z 10,J Z i]]) rfl (λw hw=>(FH u hl hu _ _ w (KE.cB gS hw.c_) (Jt.cB ie hw.c_)).mono λv w' h=>?_) ?_
 ·rcases h with⟨j,cP,h1,h2,h3,h4,h5⟩|⟨h1,_⟩
  ·obtain rfl:j=i:=oH.one ⟨h1,h2,h3⟩ hF
   exact⟨h4,h5⟩
  ·exact absurd hF.Pz (by rw[h1 X (aA hF.at')];simp)
 refine aV ?_;exact AS rfl λ_ hw=>⟨rfl,hw.c_⟩
theorem Z0(u:dk)(hl:vu u)(hu:Whole u)(hN:∀X∈u.funcs,lO (Bz X)=false)(g fs:K)(w0:ae)(hg:aY w0 g 3 u.globals gX)(hf:aY w0 fs 4 u.funcs kG)(rr:ct w0 0 0 uj):
  iL Y 10 [aC #[g,fs]] w0 λv w'=>∃x:(ax×Nat)×(ax×Nat)×(Nat->Prop),v=.tuple #[aC #[I x.1.1 u.globals.length x.1.2,I x.2.1.1 u.funcs.length x.2.1.2],aC #[J Z 0,J Z 0]]/\Wd db w0 [P_ (Ai u) (I x.1.1 u.globals.length x.1.2) (I x.2.1.1 u.funcs.length x.2.1.2) x.2.2] w'/\True:=by
 have KE:=hg;have Jt:=hf;obtain⟨ga,gn,gc,gb,go,rfl,_⟩:=hg;obtain⟨fa,fn,fc,fb,fo,rfl,ve,_⟩:=hf;refine aR func10 rfl ntmps10 rfl (Wd.nil db w0) ?_
 repeat(first|refine bA ?_|refine dd λ_ _=>?_)
 rename_i p1 _ p2 _ p3 _;refine bY rfl (λw hw=>AJ u hl _ _ w (KE.cB gS hw.c_) (Jt.cB ie hw.c_) (rr.cB hw.c_)) ?_;rw[xg (jo.2 hu.ok)]
 repeat(first|refine aV ?_|refine dd λ_ _=>?_)
 rename_i p4 _;refine cN (val:=λx:(ax×Nat)×(ax×Nat)×(Nat->Prop)=>.tuple #[aC #[I x.1.1 u.globals.length x.1.2,I x.2.1.1 u.funcs.length x.2.1.2],aC #[J Z 0,J Z 0]]) (cZ:=λx=>[P_ (Ai u) (I x.1.1 u.globals.length x.1.2) (I x.2.1.1 u.funcs.length x.2.1.2) x.2.2]) (φ:=λ_=>True) rfl (λw hw=>(FH u hl hu _ _ w (KE.cB gS hw.c_) (Jt.cB ie hw.c_)).mono λv w' h=>?_) λx _=>?_
 ·rcases h with⟨j,cP,h1,h2,_⟩|⟨_,ga,fa,gc,fc,fp,rfl,hw⟩
  ·rw[hN cP (aA h1)]at h2
   cases h2
  ·exact⟨((ga,gc),(fa,fc),fp),rfl,hw,trivial⟩
 obtain⟨⟨ya,yc⟩,⟨za,zc⟩,fp⟩:=x;simp only[bF,aS];refine aV ?_;refine AS rfl λw hw=>⟨((ya,yc),(za,zc),fp),rfl,hw.pick inferInstance,trivial⟩
theorem RU(nm pa re:K)(bl:List aq)(bs:K)(qf:∃a n c,bs=I a n c)(w0:ae)(gV:aY w0 bs 6 bl da)(hlen:bl.length<=100)(dV:dK bl)(dW:0<bl.length):
  iL Y 41 [aC #[nm,pa,re,bs]] w0 λu w'=>∃x:ax×Nat,u=I x.1 bl.length x.2/\Wd db w0 [aE x.1 bl.length x.2 ((bj bl.length).map (ed bl))] w'/\True:=by
 classical
 refine aR func41 rfl ntmps41 rfl (Wd.nil db w0) ?_
 repeat(first|refine bA ?_|refine dd λ_ _=>?_)
 rename_i p1 _;refine cN (val:=λx:Nat×(Nat->Prop)=>.slice (O ⟨x.1,0,U⟩) bl.length bl.length) (cZ:=λx=>[⟨x.2,λw=>aY w (I (O ⟨x.1,0,U⟩) bl.length bl.length) 1 (zK bl) dQ⟩]) (φ:=λ_=>True) rfl (λw hw=>Fs _ _ _ bl _ qf w (gV.cB cu hw.c_) hlen dV dW) λx _=>?_;obtain⟨to,fp⟩:=x;simp only[bF,aS];generalize hn:bl.length=n at*;refine aU ?_;refine dJ 3 1 ?_;refine fU (H1:=[G U 0 0 3 1 []]++[⟨fp,λw=>aY w (I (O ⟨to,0,U⟩) n n) 1 (zK bl) dQ⟩,aM p1 [nm,pa,re,bs] 35]) rfl ?_;refine mA λw1 mS=>?_;have xC:aY (cC (df [G U 0 0 3 1 []]) w1) (I (O ⟨to,0,U⟩) n n) 1 (zK bl) dQ:=mS.beside (e:=⟨fp,λw=>aY w (I (O ⟨to,0,U⟩) n n) 1 (zK bl) dQ⟩) cK;have back:∀{cZ:List cq} {w:ae},Wd (df [G U 0 0 3 1 []]) (cC (df [G U 0 0 3 1 []]) w1) cZ w->Wd db w0 (cZ++[⟨fp,λw=>aY w (I (O ⟨to,0,U⟩) n n) 1 (zK bl) dQ⟩,aM p1 [nm,pa,re,bs] 35]) w:=λhw=>mS.comp hw.ni;have hold:∀{b o:Nat} {v:K},ct (cC (df [G U 0 0 3 1 []]) w1) b o [v]->iO (df [G U 0 0 3 1 []]) b:=λhc=>iF hc cK;generalize cC (df [G U 0 0 3 1 []]) w1=wk at*;generalize df [G U 0 0 3 1 []]=SS at*;have row:∀b,b<n->∃(a:ax) (c rb ro:Nat),bu wk to (0+b*1) [I a (jp bl b n).length c]/\iO SS to/\(jp bl b n).length<=n/\((jp bl b n)≠[]->cl a rb ro)/\∀(i:Nat) x,(jp bl b n)[i]?=O x->bu wk rb (ro+i*1) [J Z (x:Int)]/\iO SS rb:=by
  intro b hb;obtain⟨_,hc,v,rfl,hv⟩:=xC.known b _ (El A);have yC:=hv;obtain⟨ra,rn,rc,_,_,rfl,_⟩:=yC;obtain⟨Av,_,_,rb,ro,F1,hrel⟩:=hv.at;rw[aG,hn]at Av;subst Av;rw[hn]at F1 hrel;refine⟨ra,rc,rb,ro,⟨hc⟩,hold hc,?_,λh=>⟨F1 λe=>h (List.map_eq_nil_iff.1 e)⟩,λi x hx=>?_⟩
  ·have:=fC (λc=>decide (kU bl c b)) (bj n)
   rw[d_]at this;exact this
  ·obtain⟨_,G2,rfl,_⟩:=hrel i x (by rw[aW,hx];rfl)
   exact⟨⟨G2⟩,hold G2⟩
 refine bH (λ(x:ax×Nat×List Int)=>x.2.2.length<=n/\x.2.2=(bj x.2.2.length).map (ed bl)) (λx=>[(5,J Z x.2.2.length),(4,I x.1 x.2.2.length x.2.1),(3,I (O ⟨to,0,U⟩) n n)])
  (λx=>[aE x.1 x.2.2.length x.2.1 x.2.2]) (λx=>n-x.2.2.length) (U,0,[]) ⟨aN _,rfl⟩ (aP V aF) λx ⟨hi,cX⟩=>?_
 obtain⟨oa,oc,l⟩:=x;simp only at hi cX|-
 refine bA ?_;apply aL<;>intro h1
 ·have ce:l.length<n:=aD h1
  generalize hb:l.length=b at*;have SD:cg b n:=⟨ce⟩;obtain⟨ra,rc,rb,ro,hcr,Y0,oG,F1,hrel⟩:=row b ce;refine aU ?_;refine bH (λ(x:Nat×Int)=>x.1<=(jp bl b n).length/\((x.2=-1/\∀(j c:Nat),j<x.1->(jp bl b n)[j]?=O c->¬lJ bl c b)\/∃c:Nat,x.2=c/\lJ bl c b)) (λx=>[(7,J Z x.1),(6,J Z x.2),(5,J Z b),(4,I oa b oc),(3,I (O ⟨to,0,U⟩) n n)])
   (λ_=>[aE oa b oc l]) (λx=>(jp bl b n).length-x.1) (0,-1) ⟨aN _,.inl ⟨rfl,λj c hj=>by simp only at hj;omega⟩⟩ (aP V aF) λx ⟨hj,hz⟩=>?_
  obtain⟨i,z⟩:=x;simp only at hj hz|-
  refine bA ?_;apply aL<;>intro h2
  ·have iM:i<(jp bl b n).length:=aD h2
   obtain⟨x,hx⟩:=bE (jp bl b n) i iM;obtain⟨Mw,Vm⟩:=sE.1 (aA hx);have hlx:cg x n:=⟨Mw⟩;have kK:cg i (jp bl b n).length:=⟨iM⟩;have mJ:=F1 (qU (aA hx));obtain⟨KD,hox⟩:=hrel i x hx;obtain⟨xa,xc,_,_,agY,_,pw,_⟩:=row x Mw;have ahn:decide (((jp bl x n).length:Int)=((jp bl b n).length:Int)-1)=decide (lJ bl x b):=by
    rw[kq];subst hn;exact⟨λh=>Q6 dV dW Vm A,λh=>by have:=vj dV dW h;omega⟩
   refine aU ?_;refine kX mixed bC ?_;refine kJ ?_;rw[ahn];refine bA ?_;apply aL<;>intro h3
   ·have UM:lJ bl x b:=aD h3
    refine aU ?_;exact a_ (i+1,(x:Int)) ⟨iM,.inr ⟨x,rfl,UM⟩⟩ bB V aF
   ·have UM:¬lJ bl x b:=aD h3
    refine aU ?_;refine a_ (i+1,z) ⟨iM,hz.imp (λ⟨h1,h2⟩=>⟨h1,λj c hj hc=>?_⟩) id⟩ bB V aF
    by_cases e:j=i
    ·subst e
     rw[hx]at hc;exact bJ hc▸UM
    ·exact h2 j c (by simp only at hj;omega) hc
  ·have fX:i=(jp bl b n).length:=by have:=h2;simp at this;omega
   have hzt:z=ed bl b:=by
    rcases hz with⟨h1,h2⟩|⟨c,h1,h2⟩
    ·rw[h1,jK]
     intro c hc;have hm:c∈jp bl b n:=sE.2 ⟨by have:=dV.BG A hc.1.1;omega,hc.1⟩;obtain⟨j,hj⟩:=bR hm;exact h2 j c (by rw[fX];exact(aJ.1 hj).1) hj hc
    ·rw[h1,lz h2]
   repeat(first|refine aV ?_|refine dd λ_ _=>?_)
   rename_i bt _;refine fB rfl rfl A A λa' c'=>?_;refine aU ?_;refine fU (H1:=G (O ⟨bt,0,U⟩) 1 1 3 1 [J Z z]::[aE a' (b+1) c' (l++[z])]) cK ?_;have gk:(l++[z]).length=b+1:=by simp[hb]
   rw[show((b:Int)+1)=(((l++[z]).length:Nat):Int) by rw[gk];rfl,<-gk];refine a_ (a',c',l++[z]) ⟨by simp only;omega,?_⟩ bB V aB;simp only;rw[gk,iV,bz,<-cX,hzt];rfl
 ·have fX:l.length=n:=by have:=h1;simp at this;omega
  refine aV ?_;refine dh rfl λw hw=>⟨(oa,oc),by rw[fX],?_,trivial⟩;have:=back hw;rw[fX]at cX this;rw[<-cX];exact this.sub (fe _ _)
end
end Go.Proofs.YthfhgolkafpmnaaGreatDoor
