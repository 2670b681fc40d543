/- Lemmas. -/
import Derived.Test.YthfhgolkafpmnaaGreatDoorMF
namespace Go.Proofs.YthfhgolkafpmnaaGreatDoor
open Go.Value renaming int->J,slice->I,pointer->aO,string->aQ,bool->ag,agg->aC
open Go.IntKind renaming i64->Z
open Option renaming some->O,none->U
open Go renaming Value->K,World->ae
open List renaming replicate->aI,range->bj
open Go.Proofs.Tryz
open Go.Proofs.Tryz renaming prog->Y
open Go Go.RowKit
variable {bl:List aq} {fs:List bZ} {i:Nat}
section
set_option maxHeartbeats 8000000
attribute [local irreducible] wpListIn Code.wpIn Exit.then Exit.inBlock bodyPost wpQuiet wpAnyIn wpAnyH bodyPostM md
def ox(q pf:Nat)(av kv:K)(m:Nat):cq:=aM q [aO (O ⟨pf,0,U⟩),av,kv,J Z (m:Int)] 102
theorem Kg(q pf:Nat)(av kv:K)(m:Nat)(hm:m<=1000000)(w:ae)(hw:Wd (df [ox q pf av kv m]) w [ox q pf av kv m] w):
  iL Y 111 [aO (O ⟨q,0,U⟩)] w λu w'=>∃_x:Unit,u=aC #[ag true,J Z (m:Int)]/\Wd (df [ox q pf av kv m]) w [ox q pf av kv (m+1)] w'/\True:=by
 have h:=Yj q pf av kv (m:Int) A w hw;rw[show(m:Int)+1=((m+1:Nat):Int) by omega]at h;exact h
theorem wL{S:Nat->Prop}{w0 w:ae}{H:List cq}(hw:Wd S w0 H w){k1 k2 p5 mc R:Nat}{ma:ax}{ν:Nat->Nat->Int}{P b:Nat}(h1:H[k1]?=O (cJ p5 ma R mc))(h2:H[k2]?=O (ar ma R mc (f_ R (nm ν bl P b i))))(hR:R<=1000)(v:cI)(hv:kW R v):
  gF Y 110 [aC #[ag v.dq,J Z v.n],aO (O ⟨p5,0,U⟩)] w (aC #[ag (kt ν bl P b i v).dq,J Z (kt ν bl P b i v).n]):=by
 have h3:=afS p5 (I ma R mc) (f_ R (nm ν bl P b i)) w (λj u hj=>by rw[eC];exact hw.rX k1 h1 hj) (hw.nf h2 (by rw[jE]) A λi x hx=>⟨mm x,λj v hj=>e_ eQ _ i x j v hx hj,rfl⟩) v (λh=>by rw[jE];exact hv h);rw[V7 hv]at h3;exact h3
structure adD(bl:List aq)(R P:Nat):Prop where
 ok:eW R bl
 pos:0<bl.length
 len:bl.length<=100
 reach:∀b,b<bl.length->jg bl (-1) 0 b
 dq:∀B∈bl,n_ (JP R) B
 le:R<=1000
 rH:P+iX bl (wn bl)<=100000
 nin:∀b i v,kW R v->dE v.n->dE (kt (B5 bl P) bl P b i v).n
theorem Sk(xn:ByteArray)(xp xr:Int)(bl:List aq)(R P:Nat)(hI:adD bl R P)(q pf vb vo n c:Nat)(aa:ax)(an ac:Nat)(ka:ax)(kn kc:Nat)(hn:n=bl.length):
  ∀(f b:Nat) (dL dO:List Nat) (bs:List aK) (na:ax) (nn nc:Nat) (S:Nat->Prop) (wz w:ae),bl.length<f+Ml bl b->b<bl.length->wn bl=dL++(mi bl f b++dO)->bs.map aK.dD=F7 (B5 bl P) bl P (yG bl dL)->(∀B∈bs,B.Bd)->Clean S wz->
   ct wz pf 0 [aQ xn,J Z xp,J Z xr,I (O ⟨vb,vo,U⟩) n c]->aY wz (I aa an ac) 1 (ci bl) dQ->aY wz (I ka kn kc) 1 ((bj bl.length).map λb=>(pN bl b).map λx:Nat=>(x:Int)) dQ->aY wz (I na nn nc) 2 (f_ R (O0 (B5 bl P) bl P b)) mp->
   Wd S wz (ox q pf (I aa an ac) (I ka kn kc) (P+iX bl dL)::eM (O ⟨vb,vo,U⟩) c bs) w->
   iL Y 67 [aO (O ⟨q,0,U⟩),J Z b,I na nn nc] w λu w'=>∃x:List aK,u=.tuple #[]/\Wd S wz (ox q pf (I aa an ac) (I ka kn kc) (P+iX bl (dL++mi bl f b))::eM (O ⟨vb,vo,U⟩) c x) w'/\(x.map aK.dD=F7 (B5 bl P) bl P (yG bl (dL++mi bl f b))/\∀B∈x,B.Bd):=by
 classical
 intro f;have hlen:=hI.len;have hg:=hI.ok.iD;have dW:=hI.pos;have hR:=hI.le
 induction f with
 |zero=>
  intro b dL dO bs na nn nc S wz w hfd hb;have:=(tZ hg dW (hI.reach b hb)).2;omega
 |succ f ih=>
 intro b dL dO bs na nn nc S wz w hfd hb U0 Pb oF kV ve QM yB vJ hw;obtain⟨ν,hν⟩:∃ν,ν=B5 bl P:=⟨_,rfl⟩;have Cv:=hI.nin;rw[<-hν]at Pb vJ Cv;rw[<-hν];have DU:=hI.reach b hb;have qf:bs.length=n:=by
  have h3:=bD List.length Pb;rw[aG,BW]at h3;omega
 have Dw:mi bl (f+1) b=b::(pN bl b).flatMap (mi bl f):=rfl;have aaJ:(wn bl).Nodup:=CL .refl;have Pp:wn bl=dL++b::((pN bl b).flatMap (mi bl f)++dO):=by rw[U0,Dw];rfl
 have hbV:b∉dL:=λh=>by
  rw[Pp]at aaJ;exact(nA.1 aaJ).2.2 b h b cK rfl
 have hnu:∀k,ν b k=((P+iX bl dL+WJ (bi bl b) k:Nat):Int):=λk=>by rw[hν];exact ac3 Pp hbV
 obtain⟨B,hB⟩:=bE bl b hb;have Xq:bi bl b=B:=gK hB;have AV:=hI.ok.block b B hB;have Kq:=hI.dq B (aA hB);have agW:∀X:List Nat,(∃cP,wn bl=X++cP)->P+iX bl X<=100000:=λX ⟨cP,h⟩=>by
  have h1:=hI.rH;rw[h,Eg]at h1;omega
 have Ap:P+iX bl dL+zI B<=100000:=by
  have:=agW (dL++[b]) ⟨(pN bl b).flatMap (mi bl f)++dO,by rw[Pp];simp⟩;rw[Eg,J6,Xq]at this;omega
 obtain⟨T,hT⟩:=bE bs b A;have Nj:T.dD=tK ν bl P (yG bl dL) b B:=by
  have h3:(bs.map aK.dD)[b]?=O T.dD:=by rw[aW,hT];rfl
  rw[Pb,BV hB]at h3;exact(bJ h3).symm
 have rK:=oF T (aA hT);have nO:bu wz pf 0 [aQ xn,J Z xp,J Z xr,I (O ⟨vb,vo,U⟩) n c]:=⟨ve⟩;have hold:iO S pf:=kV.I9 ve;have SD:cg b n:=⟨A⟩;refine Ov func67 rfl ntmps67 rfl hw ?_
 repeat(first|refine bA ?_|refine dd λ_ _=>?_)
 rename_i p5 _;have Xz:nn=R:=by rw[vJ.at.1,jE]
 refine cN (val:=λx:ax×Nat=>.slice x.1 R x.2) (cZ:=λx=>[ar x.1 R x.2 (f_ R (O0 ν bl P b))]) (φ:=λ_=>True) rfl (λw hw=>?_) λx _=>?_
 ·rw[Xz]
  have h3:=zH na nc (f_ R (O0 ν bl P b)) (by rw[jE];omega) w (by
   have h4:=wC (vJ.le Bu (kV.now hw));rw[Xz]at h4;rw[jE];exact h4)
  rw[jE]at h3;exact h3
 obtain⟨ma,mc⟩:=x;simp only[bF,aS];unfold ox;obtain⟨afb,YT,acq,NJ,acx⟩:(∀(i:Nat) p,T.ps[i]?=O p->∃p',B.bg[i]?=O p'/\p.dst=p'.dst)/\T.xs.map (·.x)=B.list/\T.on=B.on/\T.to=B.to/\T.ps.length=B.bg.length:=by
  obtain⟨h1,h2,h3,h4,h5⟩:=PE (ν:=ν) (n:=P) hbV B;rw[<-Nj]at h1 h2 h3 h4 h5;have yT:T.ps.length=B.bg.length:=by
   have h8:=bD (λx:aq=>x.bg.length) Nj;simp only[aK.dD,aG]at h8;rw[h8];show(B.bg.mapIdx _).length=_;rw[kR]
  refine⟨λi p hp=>?_,h1,h2,h3,yT⟩;obtain⟨p',wT⟩:∃p',B.bg[i]?=O p':=⟨_,bL (by rw[<-yT];exact(aJ.1 hp).1)⟩;obtain⟨q,hq,Y2⟩:=h5 i p' wT;have h6:(T.ps.map ch.iN)[i]?=O q:=hq;rw[aW,hp]at h6;obtain rfl:=bJ h6;exact⟨p',wT,Y2⟩
 obtain⟨qa,qc,ps,la,lc,xs,kd,on,ta,tc,to⟩:=T;simp only at afb YT acq NJ acx;refine aV ?_;let Td:=(ps.map dZ++(xs.map gC++(bs.eraseIdx b).map bP));let Tx:=[ar ma R mc (f_ R (O0 ν bl P b)),cJ p5 ma R mc];refine lr (H':=(ox q pf (I aa an ac) (I ka kn kc) (P+iX bl dL)::Tx)++(am (O ⟨vb,vo,U⟩) bs.length c bs::aw qa ps.length qc ps::qJ (⟨qa,qc,ps,la,lc,xs,kd,on,ta,tc,to⟩:aK)::lQ (⟨qa,qc,ps,la,lc,xs,kd,on,ta,tc,to⟩:aK)::Td)) (λw hw=>xX hT (X:=(ox q pf (I aa an ac) (I ka kn kc) (P+iX bl dL)::Tx)) (hw.perm (aX.2 λe=>by unfold ox;simp only[bU,bM,dG,ar,cJ,Tx];omega))) ?_<;>(try unfold Tx)<;>(try unfold Td);simp only[bF,aS];rw[qf];let Tp:=(⟨qa,qc,ps,la,lc,xs,kd,on,ta,tc,to⟩:aK);have lT:∀(q:Nat) v,(eA Tp)[q]?=O v->(bs.flatMap eA)[b*6+q]?=O v:=λq v hv=>e_ de bs b _ q v hT hv;have akm:∀cP,gB (am (O ⟨vb,vo,U⟩) n c bs::cP) vb (vo+b*6) (I qa ps.length qc):=λ_=>⟨λ_ _ _ hw=>hw.dp (k:=0) rfl (lT 0 _ rfl)⟩;have ahV:∀cP,gB (am (O ⟨vb,vo,U⟩) n c bs::cP) vb (vo+b*6+1) (I la xs.length lc):=λ_=>⟨λ_ _ _ hw=>by have h3:=hw.dp (k:=0) rfl (lT 1 _ rfl);rw[<-eB]at h3;exact h3⟩;refine aU ?_;have Dx:ps.length<=1000:=rK.bg;let Tb:=[(7,aO (O ⟨vb,vo+b*6,U⟩)),(6,.func (.func 110) #[] #[aO (O ⟨p5,0,U⟩)]),M 5 p5,M 0 q,(1,J Z b)];refine bH (λi:Nat=>i<=ps.length) (λi=>(40,J Z i)::(38,I qa ps.length qc)::(39,J Z ps.length)::Tb)
  (λi=>ox q pf (I aa an ac) (I ka kn kc) (P+iX bl dL+i)::ar ma R mc (f_ R (RA ν bl P b i))::cJ p5 ma R mc::am (O ⟨vb,vo,U⟩) n c bs::aw qa ps.length qc (ii (Df ν b) i ps)::qJ Tp::lQ Tp::Td) (λi=>ps.length-i) 0 (aN _) (aP V (by rw[wB,Fy (λr _=>V4 b r)];exact dU _)) λi hi=>?_<;>(try unfold Tb)<;>(try unfold Tp)<;>try unfold Td
 refine bA ?_;apply aL<;>intro h1
 ·have iM:i<ps.length:=aD h1
  obtain⟨p,hp⟩:=bE ps i iM;have jT:=BS (g:=Df ν b) hp;have qh:=yK (g:=Df ν b) hp;obtain⟨p',wT,hpd⟩:=afb i p hp;have Au:=(Kq.bg p' (aA wT)).1;obtain⟨d,hd⟩:∃d:Nat,p.dst=d:=⟨p.dst.toNat,by have:=Au.1;omega⟩;have hdR:d<R:=by have:=Au.2;omega
  have Hg:(f_ R (RA ν bl P b i)).set d ⟨true,ν b i⟩=f_ R (RA ν bl P b (i+1)):=LN λr hr=>by
   rw[V3 (p:=p') (by rw[Xq];exact wT),<-hpd,hd]
  have ahS:ν b i=((P+iX bl dL+i:Nat):Int):=by rw[hnu,Xq,P0 A]
  have ce:cg i ps.length:=⟨iM⟩;have hlR:cg d R:=⟨hdR⟩;refine fy 4 rfl A λzb zo Bk=>?_;subst Bk;refine fy 1 rfl A λyb yo B4=>?_;subst B4;obtain⟨pd,pa,pc,pl⟩:=p;simp only at hd;subst hd;have zu:∀cP,gm (aw (O ⟨zb,zo,U⟩) ps.length qc (ii (Df ν b) i ps)::cP) zb (zo+i*2) _:=λ_=>jJ (k:=0) rfl eP jT;simp only[iz,aw]at zu
  repeat(first|refine aV ?_|refine dd λ_ _=>?_)
  rename_i p9 _;let Tl:=(⟨O ⟨zb,zo,U⟩,qc,ps,la,lc,xs,kd,on,ta,tc,to⟩:aK);refine bG (H1:=[ox q pf (I aa an ac) (I ka kn kc) (P+iX bl dL+i)]++(bN p9 (d:Int) pa pl.length pc::ar (O ⟨yb,yo,U⟩) R mc (f_ R (RA ν bl P b i))::cJ p5 (O ⟨yb,yo,U⟩) R mc::am (O ⟨vb,vo,U⟩) n c bs::aw (O ⟨zb,zo,U⟩) ps.length qc (ii (Df ν b) i ps)::qJ Tl::lQ Tl::Td)) (List.Perm.swap _ _ _) ?_<;>(try unfold Tl)<;>(try unfold Td);refine fO (val:=λ_:Unit=>.agg #[ag true,J Z ((P+iX bl dL+i:Nat):Int)]) (cZ:=λ_=>[ox q pf (I aa an ac) (I ka kn kc) (P+iX bl dL+i+1)]) (φ:=λ_=>True) rfl (λw hw=>Kg q pf _ _ (P+iX bl dL+i) A w hw.pre) λ_ _=>?_;simp only[bF,aS];rw[<-ahS];have nE:((f_ R (RA ν bl P b i)).flatMap mm).take (d*2)++[ag true,J Z (ν b i)]++((f_ R (RA ν bl P b i)).flatMap mm).drop (d*2+2)=(f_ R (RA ν bl P b (i+1))).flatMap mm:=by
   rw[show[ag true,J Z (ν b i)]=mm ⟨true,ν b i⟩from rfl,iZ eQ (by rw[jE];exact hdR),Hg]
  repeat(first|refine aV ?_|refine dd λ_ _=>?_)
  rename_i zB _;refine k_ 3 (j:=d*2) rfl rfl (by rw[cA eQ,jE];omega) ?_;simp only[bS,bI];rw[nE];refine bA ?_;have mT:lS ((ii (Df ν b) i ps).flatMap iz) (i*2+0) (J Z (ν b i)) ((ii (Df ν b) (i+1) ps).flatMap iz):=⟨by
   rw[<-qh];exact fL eP jT (k:=0) A (y:=Df ν b i ⟨(d:Int),pa,pc,pl⟩) rfl,by rw[cA eP,nJ];omega⟩
  have Q0:∀(X0 X1 X2 X3 X4 X5:cq) (cP:List cq),mf (X0::X1::X2::X3::X4::X5::aw (O ⟨zb,zo,U⟩) ps.length qc (ii (Df ν b) i ps)::cP) zb (zo+i*2) 6 zo (i*2+0) ps.length qc 49 2 ((ii (Df ν b) i ps).flatMap iz):=λ_ _ _ _ _ _ _=>⟨rfl,A⟩;refine dI [eK zB true (ν b i),am (O ⟨vb,vo,U⟩) n c bs] (λ_:Unit=>True) (λ_=>(40,J Z i)::(38,I (O ⟨zb,zo,U⟩) ps.length qc)::(39,J Z ps.length)::Tb) (λ_=>ox q pf (I aa an ac) (I ka kn kc) (P+iX bl dL+i+1)::ar (O ⟨yb,yo,U⟩) R mc (f_ R (RA ν bl P b (i+1)))::cJ p5 (O ⟨yb,yo,U⟩) R mc::am (O ⟨vb,vo,U⟩) n c bs::aw (O ⟨zb,zo,U⟩) ps.length qc (ii (Df ν b) (i+1) ps)::qJ Tl::lQ Tl::Td) mixed aB ?_ λ_ _=>?_
  ·refine W 0 ?_;refine W 1 ?_;refine W 2 ?_;refine W 3 ?_;refine W 4 ?_;refine W 5 ?_;refine W 6 ?_;refine W 7 ?_;refine W 8 ?_;refine jr 9 E E aB ?_;exact dy () trivial V aB
  refine aU ?_;exact a_ (i+1) iM A V aF
 obtain rfl:ps.length=i:=by have:=cE h1;omega
 rw[vG,Fy λr _=>by rw[acx,<-Xq,<-ZF hg dW DU]];refine aV ?_;obtain⟨dw,hM⟩:∃dw:Nat->Nat,dw=λk=>P+iX bl dL+ps.length+((B.list.take k).filter ON).length:=⟨_,rfl⟩;have hM0:P+iX bl dL+ps.length=dw 0:=by rw[hM];rfl
 have K0:xs.length=B.list.length:=by rw[<-YT,aG]
 have ad3:∀k,dw k<=100000:=λk=>by
  have h3:=Kd B.list k;have h4:zI B=B.bg.length+(B.list.filter ON).length:=rfl;rw[hM];simp only;omega
 have acn:∀k,ν b ((bi bl b).bg.length+k)=((dw k:Nat):Int):=λk=>by
  rw[hnu,Xq,ZQ,hM];simp only;omega
 rw[hM0];have akT:xs.length<=1000:=rK.list;let Tq:=(ps.map dZ++(bs.eraseIdx b).map bP);refine bH (λk:Nat=>k<=xs.length) (λk=>(67,J Z k)::(65,I la xs.length lc)::(66,J Z xs.length)::Tb)
  (λk=>ox q pf (I aa an ac) (I ka kn kc) (dw k)::ar ma R mc (f_ R (nm ν bl P b k))::cJ p5 ma R mc::am (O ⟨vb,vo,U⟩) n c bs::aH la xs.length lc (ii (zY ν bl P b) k xs)::((ii (zY ν bl P b) k xs).map gC++(aw qa ps.length qc (ps.mapIdx (Df ν b))::lQ Tp::Tq))) (λk=>xs.length-k) 0 (aN _) (bG (aX.2 λe=>?_) (aP V aF)) λk hk=>?_<;>(try unfold Tb)<;>(try unfold Tp)<;>try unfold Tq
 ·rw[wB]
  unfold qJ;simp only[bU,bM,am,ar,aw,aH,cJ];omega
 refine bA ?_;apply aL<;>intro h1
 ·have B0:k<xs.length:=aD h1
  obtain⟨u,hu⟩:=bE xs k B0;have jT:=BS (g:=zY ν bl P b) hu;have qh:=yK (g:=zY ν bl P b) hu;obtain⟨DA,Gk,ES⟩:=rK.ins u (aA hu);obtain⟨x,ea,ec⟩:=u;simp only at DA Gk ES;have hx:B.list[k]?=O x:=by rw[<-YT,aW,hu];rfl
  have qH:=aA hx;have Gl:=Kq.list x qH;have Pk:cg k xs.length:=⟨B0⟩;refine fy 4 rfl A λzb zo Bk=>?_;subst Bk;have zu:∀cP,gm (aH (O ⟨zb,zo,U⟩) xs.length lc (ii (zY ν bl P b) k xs)::cP) zb (zo+k*8) _:=λ_=>jJ (k:=0) rfl ep jT;simp only[ki,aH]at zu
  repeat(first|refine aV ?_|refine dd λ_ _=>?_)
  rename_i tQ _;have qt:kW R x.a:=Gl.a;have XE:kW R x.b:=Gl.b;have hvv:∀v∈x.args,kW R v:=Gl.args;obtain⟨sC,hA⟩:∃sC,sC=kt ν bl P b k x.a:=⟨_,rfl⟩;obtain⟨A2,hA2⟩:∃sC,sC=kt ν bl P b k x.b:=⟨_,rfl⟩;obtain⟨OT,hOT⟩:∃OT,OT=((ii (zY ν bl P b) k xs).eraseIdx k).map gC:=⟨_,rfl⟩;let Ta:=(OT++(aw qa ps.length qc (ps.mapIdx (Df ν b))::lQ (⟨qa,qc,ps,O ⟨zb,zo,U⟩,lc,xs,kd,on,ta,tc,to⟩:aK)::Tq));let Tf:=ox q pf (I aa an ac) (I ka kn kc) (dw k)::ar ma R mc (f_ R (nm ν bl P b k))::cJ p5 ma R mc::am (O ⟨vb,vo,U⟩) n c bs::aH (O ⟨zb,zo,U⟩) xs.length lc (ii (zY ν bl P b) k xs)::ar ea x.args.length ec x.args::Ta;refine bG (H1:=bK tQ x.op x.dst x.a x.b x.fn ea x.args.length ec::Tf) (aX.2 λe=>?_) ?_<;>(try unfold Tf)<;>(try unfold Ta)<;>try unfold Tq
  ·have h3:=aX.1 (ig gC jT) e
   have h4:gC (⟨x,ea,ec⟩:dP)=ar ea x.args.length ec x.args:=rfl;rw[<-hOT,h4]at h3;simp only[bU,bM,am,ar,aw,aH,bK,cJ]at h3|-
   omega
  let Te:=M 12 tQ::(67,J Z k)::(65,I (O ⟨zb,zo,U⟩) xs.length lc)::(66,J Z xs.length)::Tb;refine dI [] (λ_:Unit=>True) (λ_=>(11,J Z k)::Te) (λ_=>bK tQ x.op x.dst sC A2 x.fn ea x.args.length ec::Tf) mixed aB ?_ λ_ _=>?_
  ·refine W 0 ?_;refine W 1 ?_;refine W 4 ?_;refine W 5 ?_;refine jL 2 6 E ?_ ?_
   ·refine gM 2 rfl aB ?_;refine jL 3 6 E ?_ ?_
    ·refine mV 3 (us:=[]) (vs:=[aC #[ag x.a.dq,J Z x.a.n]]) (xs:=[aO (O ⟨p5,0,U⟩)]) rfl aB (λw hw=>wL hw (k1:=3) (k2:=2) rfl rfl hR x.a qt) ?_;refine cD 6 E ?_;refine gM 6 rfl aB ?_;refine jL 7 8 E ?_ ?_
     ·refine mV 7 (us:=[]) (vs:=[aC #[ag x.b.dq,J Z x.b.n]]) (xs:=[aO (O ⟨p5,0,U⟩)]) rfl aB (λw hw=>wL hw (k1:=3) (k2:=2) rfl rfl hR x.b XE) ?_;refine cD 8 E ?_;refine gM 8 rfl aB ?_;rw[<-hA,<-hA2];refine dn 9 E aB ?_;refine W 10 ?_;refine dn 11 E aB ?_;refine ef E ?_;exact dy () trivial V aF
     ·refine gM 8 rfl aB ?_;refine cD 7 E ?_;refine mV 7 (us:=[]) (vs:=[aC #[ag x.b.dq,J Z x.b.n]]) (xs:=[aO (O ⟨p5,0,U⟩)]) rfl aB (λw hw=>wL hw (k1:=3) (k2:=2) rfl rfl hR x.b XE) ?_;rw[<-hA,<-hA2];refine dn 9 E aB ?_;refine W 10 ?_;refine dn 11 E aB ?_;refine ef E ?_;exact dy () trivial V aF
    ·refine gM 6 rfl aB ?_;refine cD 3 E ?_;refine mV 3 (us:=[]) (vs:=[aC #[ag x.a.dq,J Z x.a.n]]) (xs:=[aO (O ⟨p5,0,U⟩)]) rfl aB (λw hw=>wL hw (k1:=3) (k2:=2) rfl rfl hR x.a qt) ?_;refine jL 7 8 E ?_ ?_
     ·refine mV 7 (us:=[]) (vs:=[aC #[ag x.b.dq,J Z x.b.n]]) (xs:=[aO (O ⟨p5,0,U⟩)]) rfl aB (λw hw=>wL hw (k1:=3) (k2:=2) rfl rfl hR x.b XE) ?_;refine cD 8 E ?_;refine gM 8 rfl aB ?_;rw[<-hA,<-hA2];refine dn 9 E aB ?_;refine W 10 ?_;refine dn 11 E aB ?_;refine ef E ?_;exact dy () trivial V aF
     ·refine gM 8 rfl aB ?_;refine cD 7 E ?_;refine mV 7 (us:=[]) (vs:=[aC #[ag x.b.dq,J Z x.b.n]]) (xs:=[aO (O ⟨p5,0,U⟩)]) rfl aB (λw hw=>wL hw (k1:=3) (k2:=2) rfl rfl hR x.b XE) ?_;rw[<-hA,<-hA2];refine dn 9 E aB ?_;refine W 10 ?_;refine dn 11 E aB ?_;refine ef E ?_;exact dy () trivial V aF
   ·refine gM 6 rfl aB ?_;refine cD 2 E ?_;refine gM 2 rfl aB ?_;refine cD 3 E ?_;refine mV 3 (us:=[]) (vs:=[aC #[ag x.a.dq,J Z x.a.n]]) (xs:=[aO (O ⟨p5,0,U⟩)]) rfl aB (λw hw=>wL hw (k1:=3) (k2:=2) rfl rfl hR x.a qt) ?_;refine jL 7 8 E ?_ ?_
    ·refine mV 7 (us:=[]) (vs:=[aC #[ag x.b.dq,J Z x.b.n]]) (xs:=[aO (O ⟨p5,0,U⟩)]) rfl aB (λw hw=>wL hw (k1:=3) (k2:=2) rfl rfl hR x.b XE) ?_;refine cD 8 E ?_;refine gM 8 rfl aB ?_;rw[<-hA,<-hA2];refine dn 9 E aB ?_;refine W 10 ?_;refine dn 11 E aB ?_;refine ef E ?_;exact dy () trivial V aF
    ·refine gM 8 rfl aB ?_;refine cD 7 E ?_;refine mV 7 (us:=[]) (vs:=[aC #[ag x.b.dq,J Z x.b.n]]) (xs:=[aO (O ⟨p5,0,U⟩)]) rfl aB (λw hw=>wL hw (k1:=3) (k2:=2) rfl rfl hR x.b XE) ?_;rw[<-hA,<-hA2];refine dn 9 E aB ?_;refine W 10 ?_;refine dn 11 E aB ?_;refine ef E ?_;exact dy () trivial V aF
  refine aU ?_;obtain⟨gA,hgA⟩:∃gA:Nat->cI->cI,gA=λ_ v=>kt ν bl P b k v:=⟨_,rfl⟩;refine bH (λe:Nat=>e<=x.args.length) (λe=>(85,J Z e)::(83,I ea x.args.length ec)::(84,J Z x.args.length)::(11,J Z k)::Te)
   (λe=>bK tQ x.op x.dst sC A2 x.fn ea x.args.length ec::ox q pf (I aa an ac) (I ka kn kc) (dw k)::ar ma R mc (f_ R (nm ν bl P b k))::cJ p5 ma R mc::am (O ⟨vb,vo,U⟩) n c bs::aH (O ⟨zb,zo,U⟩) xs.length lc (ii (zY ν bl P b) k xs)::ar ea x.args.length ec (ii gA e x.args)::Ta) (λe=>x.args.length-e) 0 (aN _) (aP V (by rw[wB];exact dU _)) λe he=>?_<;>(try unfold Ta)<;>(try unfold Tq)<;>(try unfold Te)<;>try unfold Tb
  refine bA ?_;apply aL<;>intro h2
  ·have iw:e<x.args.length:=aD h2
   obtain⟨v,hv⟩:=bE x.args e iw;have A6:=BS (g:=gA) hv;have vi:=yK (g:=gA) hv;have hle:cg e x.args.length:=⟨iw⟩;refine fy 6 rfl A λyb yo B4=>?_;subst B4;have Nz:∀cP,gm (ar (O ⟨yb,yo,U⟩) x.args.length ec (ii gA e x.args)::cP) yb (yo+e*2) _:=λ_=>jJ (k:=0) rfl eQ A6;simp only[mm,ar]at Nz
   repeat(first|refine aV ?_|refine dd λ_ _=>?_)
   rename_i nk _;have Q4:mm (gA e v)=[ag (kt ν bl P b k v).dq,J Z (kt ν bl P b k v).n]:=by rw[hgA];rfl
   refine dI [cO nk v,bK tQ x.op x.dst sC A2 x.fn (O ⟨yb,yo,U⟩) x.args.length ec] (λ_:Unit=>True) (λ_=>(85,J Z e)::(83,I (O ⟨yb,yo,U⟩) x.args.length ec)::(84,J Z x.args.length)::(11,J Z k)::Te) (λ_=>bK tQ x.op x.dst sC A2 x.fn (O ⟨yb,yo,U⟩) x.args.length ec::ox q pf (I aa an ac) (I ka kn kc) (dw k)::ar ma R mc (f_ R (nm ν bl P b k))::cJ p5 ma R mc::am (O ⟨vb,vo,U⟩) n c bs::aH (O ⟨zb,zo,U⟩) xs.length lc (ii (zY ν bl P b) k xs)::ar (O ⟨yb,yo,U⟩) x.args.length ec (ii gA (e+1) x.args)::Ta) mixed aB ?_ λ_ _=>?_
   ·refine W 0 ?_;refine W 1 ?_;refine W 2 ?_;refine W 3 ?_;refine W 4 ?_;refine cD 5 E (mV 5 (us:=[]) (vs:=[aC #[ag v.dq,J Z v.n]]) (xs:=[aO (O ⟨p5,0,U⟩)]) rfl aB (λw hw=>wL hw (k1:=4) (k2:=3) rfl rfl hR v (hvv v (aA hv))) ?_);refine W 6 ?_;refine cD 7 E (jw 7 7 (j:=e*2) rfl rfl (by rw[cA eQ,nJ];omega) aB ?_);refine ef E ?_;simp only[bS,bI];rw[<-Q4,iZ eQ (by rw[nJ];exact iw),vi];exact dy () trivial V aB
   refine aU ?_;exact a_ (e+1) iw A V aF
  obtain rfl:x.args.length=e:=by have:=cE h2;omega
  have cX:ii gA x.args.length x.args=x.args.map (kt ν bl P b k):=by
   rw[vG,hgA];apply cY;intro i;rw[eD,aW]
  rw[cX];refine aV ?_;obtain⟨y,hy⟩:∃y,y=su ν bl P b k x:=⟨_,rfl⟩;have uG:y.dst=if 0<=x.dst then ν b ((bi bl b).bg.length+k)else x.dst:=by rw[hy];rfl
  have hft:=yt hx;apply aL<;>intro h6
  have h0d:0<=x.dst:=aD h6;have hdR:=(Gl.dst h0d).2;obtain⟨d,hd⟩:∃d:Nat,x.dst=d:=⟨x.dst.toNat,A⟩;have hM1:dw (k+1)=dw k+1:=by rw[hM];simp only;rw[hft,al h0d];rfl
  rw[al h0d,acn]at uG;have Hg:(f_ R (nm ν bl P b k)).set d ⟨true,ν b ((bi bl b).bg.length+k)⟩=f_ R (nm ν bl P b (k+1)):=LN λr hr=>by
   rw[PL hg dW DU (x:=x) (by rw[Xq];exact hx),hd]
  rw[acn]at Hg;have nE:((f_ R (nm ν bl P b k)).flatMap mm).take (d*2)++[ag true,J Z ((dw k:Nat):Int)]++((f_ R (nm ν bl P b k)).flatMap mm).drop (d*2+2)=(f_ R (nm ν bl P b (k+1))).flatMap mm:=by
   rw[show[ag true,J Z ((dw k:Nat):Int)]=mm ⟨true,dw k⟩from rfl,iZ eQ (by rw[jE];omega),Hg]
  refine fy 2 rfl A λyb yo B4=>?_;have hlR:cg d R:=⟨A⟩;rw[hd]at hdR|-
  rw[B4];refine bA ?_;let To:=am (O ⟨vb,vo,U⟩) n c bs::aH (O ⟨zb,zo,U⟩) xs.length lc (ii (zY ν bl P b) k xs)::ar ea x.args.length ec (x.args.map (kt ν bl P b k))::Ta;refine bG (H1:=[ox q pf (I aa an ac) (I ka kn kc) (dw k)]++(bK tQ x.op (d:Int) sC A2 x.fn ea x.args.length ec::ar (O ⟨yb,yo,U⟩) R mc (f_ R (nm ν bl P b k))::cJ p5 (O ⟨yb,yo,U⟩) R mc::To)) (List.Perm.swap _ _ _) ?_<;>(try unfold To)<;>(try unfold Ta)<;>(try unfold Tq);refine fO (val:=λ_:Unit=>.agg #[ag true,J Z ((dw k:Nat):Int)]) (cZ:=λ_=>[ox q pf (I aa an ac) (I ka kn kc) (dw k+1)]) (φ:=λ_=>True) rfl (λw hw=>Kg q pf _ _ (dw k) (by have:=ad3 k;omega) w hw.pre) λ_ _=>?_;simp only[bF,aS]
  repeat(first|refine aV ?_|refine dd λ_ _=>?_)
  refine k_ 3 (j:=d*2) rfl rfl (by rw[cA eQ,jE];omega) ?_;simp only[bS,bI];rw[nE];refine aV ?_;rename_i p15 _;rw[<-B4];refine iC (L':=((11,J Z k)::Te)) V (.refl _) ?_<;>(try unfold Te)<;>(try unfold Tb);refine lr (H':=bK tQ x.op y.dst sC A2 x.fn ea x.args.length ec::ox q pf (I aa an ac) (I ka kn kc) (dw (k+1))::ar ma R mc (f_ R (nm ν bl P b (k+1)))::cJ p5 ma R mc::To) (λw hw=>?_) ?_<;>(try unfold To)<;>(try unfold Ta)<;>try unfold Tq
  ·rw[hM1,uG]
   refine hw.pick ⟨[eK p15 true ((dw k:Nat):Int)],aX.2 λe=>?_⟩;simp only[bU,bM,dG,am,ar,aw,aH,bK,cJ,eK];omega
  rotate_left;have h0d:¬0<=x.dst:=aD h6;have hM1:dw (k+1)=dw k:=by rw[hM];simp only;rw[hft,ai h0d];rfl
  rw[ai h0d]at uG;have Hg:f_ R (nm ν bl P b k)=f_ R (nm ν bl P b (k+1)):=Fy λr hr=>by
   rw[PL hg dW DU (x:=x) (by rw[Xq];exact hx),ai A]
  refine aU ?_;refine iC (L':=((11,J Z k)::Te)) V (.refl _) ?_<;>(try unfold Te)<;>(try unfold Tb);refine lr (H':=bK tQ x.op y.dst sC A2 x.fn ea x.args.length ec::ox q pf (I aa an ac) (I ka kn kc) (dw (k+1))::ar ma R mc (f_ R (nm ν bl P b (k+1)))::cJ p5 ma R mc::am (O ⟨vb,vo,U⟩) n c bs::aH (O ⟨zb,zo,U⟩) xs.length lc (ii (zY ν bl P b) k xs)::ar ea x.args.length ec (x.args.map (kt ν bl P b k))::Ta) (λw hw=>by rw[hM1,uG,<-Hg];exact hw) ?_<;>(try unfold Ta)<;>try unfold Tq
  all_goals
   have iy:[J Z x.op,J Z y.dst,ag sC.dq,J Z sC.n,ag A2.dq,J Z A2.n,J Z x.fn,I ea x.args.length ec]=ki (zY ν bl P b k ⟨x,ea,ec⟩):=by
    rw[hA,hA2,hy];unfold ki zY su;simp only[aG]
   refine dI [bK tQ x.op y.dst sC A2 x.fn ea x.args.length ec,am (O ⟨vb,vo,U⟩) n c bs] (λ_:Unit=>True) (λ_=>(67,J Z k)::(65,I (O ⟨zb,zo,U⟩) xs.length lc)::(66,J Z xs.length)::Tb) (λ_=>ox q pf (I aa an ac) (I ka kn kc) (dw (k+1))::ar ma R mc (f_ R (nm ν bl P b (k+1)))::cJ p5 ma R mc::am (O ⟨vb,vo,U⟩) n c bs::aH (O ⟨zb,zo,U⟩) xs.length lc (ii (zY ν bl P b) (k+1) xs)::ar ea x.args.length ec (x.args.map (kt ν bl P b k))::Ta) mixed aB ?_ λ_ _=>?_
   ·refine W 0 ?_;refine W 1 ?_;refine W 2 ?_;refine W 3 ?_;refine W 4 ?_;refine W 5 ?_;refine W 6 ?_;refine cD 7 E (jw 7 5 (j:=k*8) rfl rfl (by rw[cA ep,nJ];omega) aB ?_);refine ef E ?_;simp only[bS,bI];rw[iy,iZ ep (by rw[nJ];exact B0),qh];exact dy () trivial V aB
   refine aU ?_;let Tj:=((ii (zY ν bl P b) (k+1) xs).map gC++aw qa ps.length qc (ps.mapIdx (Df ν b))::lQ (⟨qa,qc,ps,O ⟨zb,zo,U⟩,lc,xs,kd,on,ta,tc,to⟩:aK)::Tq);refine bG (H1:=ox q pf (I aa an ac) (I ka kn kc) (dw (k+1))::ar ma R mc (f_ R (nm ν bl P b (k+1)))::cJ p5 ma R mc::am (O ⟨vb,vo,U⟩) n c bs::aH (O ⟨zb,zo,U⟩) xs.length lc (ii (zY ν bl P b) (k+1) xs)::Tj) (aX.2 λe=>?_) ?_<;>(try unfold Tj)<;>try unfold Tq
   ·have h7:(ii (zY ν bl P b) (k+1) xs)[k]?=O (zY ν bl P b k ⟨x,ea,ec⟩):=by rw[qR hu,al A]
    have h3:=aX.1 (ig gC h7) e;have h8:(ii (zY ν bl P b) (k+1) xs).eraseIdx k=(ii (zY ν bl P b) k xs).eraseIdx k:=by rw[<-qh,nt]
    have h4:gC (zY ν bl P b k ⟨x,ea,ec⟩)=ar ea x.args.length ec (x.args.map (kt ν bl P b k)):=by unfold gC zY su;simp only[aG]
    rw[h8,<-hOT,h4]at h3;simp only[bU,bM,am,ar,aw,aH,cJ,Ta,Tq]at h3|-
    omega
   exact a_ (k+1) B0 A V aF
 obtain rfl:xs.length=k:=by have:=cE h1;omega
 rw[vG];have ako:∀cP,gm (am (O ⟨vb,vo,U⟩) n c bs::cP) vb (vo+b*6+3) [ag on.dq,J Z on.n]:=λ_=>⟨λ_ _ w hw j v hj=>by
  have h3:=hw.dp (k:=0) rfl (lT (3+j) v (by match j,hj with|0,hj=>exact hj|1,hj=>exact hj));rwa[show vo+(b*6+(3+j))=vo+b*6+3+j by omega]at h3⟩
 refine aV ?_;obtain⟨JN,hO⟩:∃JN,JN=kt ν bl P b xs.length on:=⟨_,rfl⟩;refine uV (us:=[]) (vs:=[aC #[ag on.dq,J Z on.n]]) (xs:=[aO (O ⟨p5,0,U⟩)]) rfl (λw hw=>wL hw (k1:=2) (k2:=1) rfl rfl hR on (by rw[acq];exact Kq.on)) ?_;rw[<-hO];refine bA ?_;obtain⟨T',Kr⟩:∃T',T'=LL ν bl P b (⟨qa,qc,ps,la,lc,xs,kd,on,ta,tc,to⟩:aK):=⟨_,rfl⟩;have hxB:xs.length=(bi bl b).list.length:=by rw[K0,Xq]
 have ad5:((eA (⟨qa,qc,ps,la,lc,xs,kd,on,ta,tc,to⟩:aK)).set 3 (ag JN.dq)).set 4 (J Z JN.n)=eA T':=by
  rw[Kr,hO,hxB];unfold LL eA;simp only[kR,bS,bI]
 have nE:(bs.flatMap eA).take (b*6+3)++[ag JN.dq,J Z JN.n]++(bs.flatMap eA).drop (b*6+3+2)=(bs.set b T').flatMap eA:=by
  rw[P7 (by rw[cA de];omega)];let Ts:=(⟨qa,qc,ps,la,lc,xs,kd,⟨JN.dq,on.n⟩,ta,tc,to⟩:aK);have h3:=fL de hT (k:=3) (v:=.bool JN.dq) A (y:=Ts) rfl;have h4:=fL de (l:=bs.set b Ts) (i:=b) (k:=4) (v:=.int Z JN.n) (fk A) A (y:=T') (by rw[<-ad5];rfl);rw[h3,eB,h4,List.set_set]
 refine k_ 3 (j:=b*6+3) rfl A (by rw[cA de];omega) ?_;simp only[bS,bI];rw[nE];have akp:∀cP,gB (am (O ⟨vb,vo,U⟩) n c (bs.set b T')::cP) vb (vo+b*6+5) (I ta to.length tc):=λ_=>⟨λ_ _ _ hw=>by
  have h3:=hw.dp (k:=0) rfl (e_ de (bs.set b T') b T' 5 (I ta to.length tc) (fk A) (by rw[<-ad5];rfl));rw[<-eB]at h3;exact h3⟩
 refine aU ?_;obtain⟨kb,yQ⟩:∃kb,kb=xs.length:=⟨_,rfl⟩;have hMx:dw xs.length=P+iX bl (dL++[b]):=by
  rw[Eg,J6,Xq,hM,K0];simp only[cL];unfold zI;omega
 refine lr (H':=[ox q pf (I aa an ac) (I ka kn kc) (P+iX bl (dL++[b])),ar ma R mc (f_ R (nm ν bl P b kb)),cJ p5 ma R mc]++eM (O ⟨vb,vo,U⟩) c (bs.set b T')) (λw hw=>?_) ?_
 ·rw[hMx,<-yQ]at hw
  have h4:Wd S wz ([ox q pf (I aa an ac) (I ka kn kc) (P+iX bl (dL++[b])),ar ma R mc (f_ R (nm ν bl P b kb)),cJ p5 ma R mc]++(am (O ⟨vb,vo,U⟩) bs.length c (bs.set b T')::(ij T'++(bs.eraseIdx b).map bP))) w:=by
   have e1:ij T'=aw qa ps.length qc (ps.mapIdx (Df ν b))::aH la xs.length lc (xs.mapIdx (zY ν bl P b))::lQ (⟨qa,qc,ps,la,lc,xs,kd,on,ta,tc,to⟩:aK)::(ps.map dZ++(xs.mapIdx (zY ν bl P b)).map gC):=by
    rw[Kr];unfold ij LL lQ;simp only[kR];rw[Db (g:=Df ν b) dZ (λ_ _=>rfl)]
   rw[e1,qf,yQ];rw[yQ]at hw;refine hw.perm (aX.2 λe=>?_);simp only[bU,bM,dG,am,ar,aw,aH,cJ];omega
  exact Xj hT h4
 have hy0:(bs.set b T').map aK.dD=F7 ν bl P (qi bl dL b (to.take 0)):=by
  rw[eT,Pb];exact Qf hB (by rw[Kr];exact WK hB hbV Nj) λc eE hc=>Rt hc eE
 have afK:∀Q∈bs.set b T',Q.Bd:=λQ hQ=>by
  rcases j_ hQ with hQ|rfl
  ·exact oF Q hQ
  ·rw[Kr]
   refine⟨rK.kind,Cv b _ on (by rw[acq];exact Kq.on) rK.on,by unfold LL;simp only[kR];exact rK.bg,λp hp=>?_,by unfold LL;simp only[kR];exact rK.list,λu hu=>?_,rK.to⟩
   ·obtain⟨i,hi⟩:=bR hp
    unfold LL at hi;simp only[eD]at hi;obtain⟨p0,Ms,rfl⟩:=ff.1 hi;have h5:=rK.iN p0 (aA Ms);have h6:ν b i=((P+iX bl dL+i:Nat):Int):=by rw[hnu,Xq,P0 (by rw[<-acx];exact(aJ.1 Ms).1)]
    refine⟨?_,h5.2⟩;show dE (ν b i);rw[h6];have:=(aJ.1 Ms).1;exact⟨A,A⟩
   ·obtain⟨i,hi⟩:=bR hu
    unfold LL at hi;simp only[eD]at hi;obtain⟨u0,hu0,rfl⟩:=ff.1 hi;obtain⟨⟨g1,g2,g3,g4,g5⟩,g6,g7⟩:=rK.ins u0 (aA hu0);have qH:u0.x∈B.list:=by rw[<-YT];exact aT.2 ⟨u0,aA hu0,rfl⟩
    have Gl:=Kq.list u0.x qH;refine⟨⟨g1,?_,Cv _ _ _ Gl.a g3,Cv _ _ _ Gl.b g4,g5⟩,by unfold zY su;simp only[aG];exact g6,λv hv=>?_⟩
    ·show dE (if 0<=u0.x.dst then ν b ((bi bl b).bg.length+i)else u0.x.dst)
     split
     ·rw[acn]
      have:=ad3 i;exact⟨A,A⟩
     ·exact g2
    ·unfold zY su at hv
     simp only at hv;obtain⟨v0,yC,rfl⟩:=aT.1 hv;exact Cv _ _ _ (Gl.args v0 yC) (g7 v0 yC)
 have afL:∃Q,(bs.set b T')[b]?=O Q/\Q.ta=ta/\Q.tc=tc/\Q.to=to:=⟨T',fk A,by rw[Kr];exact⟨rfl,rfl,rfl⟩⟩;have akO:to.length<=1000:=rK.to.1;refine bH (λx:Nat×List aK=>x.1<=to.length/\x.2.map aK.dD=F7 ν bl P (qi bl dL b (to.take x.1))/\(∀Q∈x.2,Q.Bd)/\∃Q,x.2[b]?=O Q/\Q.ta=ta/\Q.tc=tc/\Q.to=to) (λx=>[(136,J Z x.1),(134,I ta to.length tc),(135,J Z to.length),(7,aO (O ⟨vb,vo+b*6,U⟩)),(6,.func (.func 110) #[] #[aO (O ⟨p5,0,U⟩)]),M 5 p5,M 0 q,(1,J Z b)]) (λx=>[ox q pf (I aa an ac) (I ka kn kc) (P+iX bl (dL++[b])),ar ma R mc (f_ R (nm ν bl P b kb)),cJ p5 ma R mc]++eM (O ⟨vb,vo,U⟩) c x.2) (λx=>to.length-x.1) (0,bs.set b T') ⟨aN _,hy0,afK,afL⟩ (aP V aF) λx ⟨hj,p_,uG,hyr⟩=>?_;clear hy0 afK afL nE;obtain⟨j,ys⟩:=x;simp only at hj p_ uG hyr|-
 have NN:ys.length=n:=by
  have h3:=bD List.length p_;rw[aG,BW]at h3;omega
 refine bA ?_;apply aL<;>intro h1
 ·have iS:j<to.length:=aD h1
  obtain⟨t0,IK⟩:∃t,to[j]?=O t:=⟨_,bL iS⟩;have afz:=aA IK;obtain⟨ht1,XC⟩:=(hg B (aA hB)).2 t0 (by rw[<-NJ];exact afz);obtain⟨t,rfl⟩:∃t:Nat,t0=t:=⟨t0.toNat,A⟩;have qZ:t<bl.length:=A;have wK:to.take (j+1)=to.take j++[(t:Int)]:=by rw[bV,IK];rfl
  have aaG:(t:Int)∉to.take j:=λh=>by
   have h3:(to.take j++[(t:Int)]).Nodup:=by rw[<-wK,NJ];exact AV.to.sublist (List.take_sublist _ _)
   exact(nA.1 h3).2.2 _ h _ cK rfl
  obtain⟨C,hC⟩:=bE bl t qZ;have hbt:b∈be bl t:=by
   unfold be;rw[cR,dv,fI hB,<-NJ];exact⟨cW.2 hb,afz⟩
  obtain⟨jB,hKD⟩:∃jB,jB=(be bl t).idxOf b:=⟨_,rfl⟩;have hKl:jB<(be bl t).length:=by rw[hKD];exact ll hbt
  have hK:(be bl t)[jB]?=O b:=by rw[bL hKl];simp only[hKD];rw[nw]
  have hKu:∀j',(be bl t)[j']?=O b->j'=jB:=λj' h=>by
   have As:(be bl t).Nodup:=List.nodup_range.filter _;have h3:=(aJ.1 h);have h4:=(aJ.1 hK);exact(List.getElem_inj As).1 (h3.2.trans h4.2.symm)
  obtain⟨Q,hQ,hQa,hQc,hQt⟩:=id hyr;obtain⟨FY,hU⟩:=bE ys t A;have Yy:=uG FY (aA hU);have hUB:FY.dD=tK ν bl P (qi bl dL b (to.take j)) t C:=by
   have h3:(ys.map aK.dD)[t]?=O FY.dD:=by rw[aW,hU];rfl
   rw[p_,BV hC]at h3;exact(bJ h3).symm
  refine mA λw4 hw4=>?_;have acd:pz wz (cC (df [ox q pf (I aa an ac) (I ka kn kc) (P+iX bl (dL++[b])),ar ma R mc (f_ R (nm ν bl P b kb)),cJ p5 ma R mc]) w4):=kV.le hw4;have afB:aY (cC (df [ox q pf (I aa an ac) (I ka kn kc) (P+iX bl (dL++[b])),ar ma R mc (f_ R (nm ν bl P b kb)),cJ p5 ma R mc]) w4) (I ta to.length tc) 1 to gI:=by
   have h3:=af1 hw4.kw (B:=Q) (ey _ (aT.2 ⟨Q,aA hQ,rfl⟩)) (uG Q (aA hQ));rw[hQa,hQc,hQt]at h3;exact h3
  have hcU:ct (cC (df [ox q pf (I aa an ac) (I ka kn kc) (P+iX bl (dL++[b])),ar ma R mc (f_ R (nm ν bl P b kb)),cJ p5 ma R mc]) w4) vb (vo+t*6) (eA FY):=λj v hj=>by
   have h3:=hw4.kw.dp (k:=0) rfl (e_ de ys t FY j v hU hj);rw[<-eB]at h3;exact h3
  have abB:=QM.le Br acd;have ab0:=ct.le acd ve;have adH:∀{cZ:List cq} {w:ae},Wd (df [ox q pf (I aa an ac) (I ka kn kc) (P+iX bl (dL++[b])),ar ma R mc (f_ R (nm ν bl P b kb)),cJ p5 ma R mc]) (cC (df [ox q pf (I aa an ac) (I ka kn kc) (P+iX bl (dL++[b])),ar ma R mc (f_ R (nm ν bl P b kb)),cJ p5 ma R mc]) w4) cZ w->Wd S wz (cZ++eM (O ⟨vb,vo,U⟩) c ys) w:=λhw=>hw4.comp hw.ni;have aeL:∀{cZ:List cq} {w:ae},Wd (df [ox q pf (I aa an ac) (I ka kn kc) (P+iX bl (dL++[b])),ar ma R mc (f_ R (nm ν bl P b kb)),cJ p5 ma R mc]) (cC (df [ox q pf (I aa an ac) (I ka kn kc) (P+iX bl (dL++[b])),ar ma R mc (f_ R (nm ν bl P b kb)),cJ p5 ma R mc]) w4) cZ w->pz (cC (df [ox q pf (I aa an ac) (I ka kn kc) (P+iX bl (dL++[b])),ar ma R mc (f_ R (nm ν bl P b kb)),cJ p5 ma R mc]) w4) w:=λhw=>hw.ov;have Bb:∀{bb oo:Nat} {v:K} {l:List K},ct (cC (df [ox q pf (I aa an ac) (I ka kn kc) (P+iX bl (dL++[b])),ar ma R mc (f_ R (nm ν bl P b kb)),cJ p5 ma R mc]) w4) bb oo (v::l)->iO (df [ox q pf (I aa an ac) (I ka kn kc) (P+iX bl (dL++[b])),ar ma R mc (f_ R (nm ν bl P b kb)),cJ p5 ma R mc]) bb:=λhc=>iF hc cK;generalize cC (df [ox q pf (I aa an ac) (I ka kn kc) (P+iX bl (dL++[b])),ar ma R mc (f_ R (nm ν bl P b kb)),cJ p5 ma R mc]) w4=wk4 at*;generalize df [ox q pf (I aa an ac) (I ka kn kc) (P+iX bl (dL++[b])),ar ma R mc (f_ R (nm ν bl P b kb)),cJ p5 ma R mc]=S4 at*;obtain⟨Ku,_⟩:=abB.at;have Gf:(ci bl).length=bl.length:=by unfold ci;rw[jj]
  have iy:=kf hg (λb B hB=>(hI.ok.block b B hB).to) qZ;obtain⟨b1,o1,Ge,zw,tN⟩:=fd afB Bb (λ_ _ h=>⟨_,_,h.1⟩) (aZ IK);obtain⟨_,IC,rfl,_⟩:=tN j _ IK;obtain⟨b2,o2,uu,td,r_⟩:=fd abB Bb (λ_ _ h=>by obtain⟨_,e,_⟩:=h;exact⟨_,_,e⟩) (aZ iy);obtain⟨_,uv,rv,rfl,CA⟩:=r_ t _ iy;have akJ:=CA;obtain⟨ra,rn,rc,_,_,rfl,_⟩:=id CA;have aeu:bu wk4 vb (vo+t*6) (eA FY):=⟨hcU⟩;have ae2:=Bb hcU;simp only[eA]at aeu;have agR:bu wk4 pf 0 [aQ xn,J Z xp,J Z xr,I (O ⟨vb,vo,U⟩) n c]:=⟨ab0⟩;have ae3:=Bb ab0;have ahI:cg j to.length:=⟨iS⟩;have akh:cg t n:=⟨A⟩;have akf:cg t an:=⟨A⟩;unfold ox;refine aU ?_;refine bY rfl (λw hw=>IN _ (be bl t) b w hbt (CA.le ry (aeL hw))) ?_;rw[<-hKD];refine aU ?_;refine rp adH ?_;clear IC zw tN uv td r_ aeu ae2 agR ae3 Bb aeL afB hcU abB ab0 CA acd Ge uu;obtain⟨va,vc,us,Qh,Qi,Jo,Qg,Qj,Qk,Ql,Qm⟩:=FY;have akR:us.length<=1000:=Yy.bg;have hCl:∀p∈C.bg,jB<p.src.length:=λp hp=>by rw[((hI.ok.block t C hC).bg p hp).len];exact hKl
  have hwl:us.length=C.bg.length:=by
   have h8:=bD (λx:aq=>x.bg.length) hUB;simp only[aK.dD,aG]at h8;rw[h8];show(C.bg.mapIdx _).length=_;rw[kR]
  have Ha:∀(i:Nat) p,us[i]?=O p->∃v,p.l[jB]?=O v/\kW R v:=λi p hp=>by
   obtain⟨cp,SA⟩:∃p,C.bg[i]?=O p:=⟨_,bL (by have:=(aJ.1 hp).1;omega)⟩;have hpq:(tK ν bl P (qi bl dL b (to.take j)) t C).bg[i]?=O p.iN:=by
    rw[<-hUB];show(us.map ch.iN)[i]?=_;rw[aW,hp]
    rfl
   obtain⟨v,hv1,Bi,_,_⟩:=Ll SA hbV aaG hK hKu hpq (hCl cp (aA SA));exact⟨v,Bi,((hI.dq C (aA hC)).bg cp (aA SA)).2 v (aA hv1)⟩
  let Tc:=(⟨va,vc,us,Qh,Qi,Jo,Qg,Qj,Qk,Ql,Qm⟩:aK);let Tv:=(us.map dZ++(Jo.map gC++(ys.eraseIdx t).map bP));refine lr (H':=[ox q pf (I aa an ac) (I ka kn kc) (P+iX bl (dL++[b])),ar ma R mc (f_ R (nm ν bl P b kb)),cJ p5 ma R mc]++(am (O ⟨vb,vo,U⟩) ys.length c ys::aw va us.length vc us::qJ Tc::lQ Tc::Tv)) (λw hw=>xX hU (X:=[ox q pf (I aa an ac) (I ka kn kc) (P+iX bl (dL++[b])),ar ma R mc (f_ R (nm ν bl P b kb)),cJ p5 ma R mc]) hw) ?_<;>(try unfold Tc)<;>(try unfold Tv);simp only[bF,aS];obtain⟨gE,hgE⟩:∃gE,gE=TL ν bl P b jB:=⟨_,rfl⟩;let Th:=[(160,J Z us.length),(18,J Z jB),(136,J Z j),(134,I ta to.length tc),(135,J Z to.length),(7,aO (O ⟨vb,vo+b*6,U⟩)),(6,.func (.func 110) #[] #[aO (O ⟨p5,0,U⟩)]),M 5 p5,M 0 q,(1,J Z b)];let Tz:=(Jo.map gC++(ys.eraseIdx t).map bP);let Ty:=lQ Tc::Tz;refine bH (λi:Nat=>i<=us.length) (λi=>(161,J Z i)::(159,I va us.length vc)::Th)
   (λi=>ox q pf (I aa an ac) (I ka kn kc) (P+iX bl (dL++[b]))::ar ma R mc (f_ R (nm ν bl P b kb))::cJ p5 ma R mc::am (O ⟨vb,vo,U⟩) ys.length c ys::aw va us.length vc us::((ii gE i us).map dZ++(qJ Tc::Ty))) (λi=>us.length-i) 0 (aN _) (bG (aX.2 λe=>by rw[wB];unfold ox;simp only[bU,bM,am,ar,aw,cJ,Tc,Ty,Tz];omega) (aP V aF)) λi hi=>?_<;>(try unfold Th)<;>(try unfold Tx)<;>(try unfold Ty)<;>(try unfold Tv)<;>(try unfold Tq)<;>(try unfold Td)<;>(try unfold Tc)<;>(try unfold Tb)<;>(try unfold Tz)<;>try unfold Tp
  refine bA ?_;apply aL<;>intro h2
  ·have iM:i<us.length:=aD h2
   obtain⟨p,hp⟩:=bE us i iM;have jT:=BS (g:=gE) hp;have qh:=yK (g:=gE) hp;obtain⟨v,Bi,acR⟩:=Ha i p hp;have NB:=Yy.iN p (aA hp);have ab3:gE i p=⟨p.dst,p.a,p.c,p.l.set jB (kt ν bl P b kb v)⟩:=by
    have h3:p.l.getD jB lB=v:=by
     have h4:p.l[jB]?=O v:=Bi;rw[fF,h4]
     rfl
    rw[hgE];unfold TL;rw[h3,yQ,hxB]
   obtain⟨pd,pa,pc,pl⟩:=p;have hv4:pl[jB]?=O v:=Bi;have ad0:jB<pl.length:=(aJ.1 hv4).1;have akD:pl.length<=1000:=NB.2.1;simp only at ab3;obtain⟨OT,hOT⟩:∃OT,OT=((ii gE i us).eraseIdx i).map dZ:=⟨_,rfl⟩;have kK:cg i us.length:=⟨iM⟩;have hlK:cg jB pl.length:=⟨ad0⟩;let Tt:=(OT++(qJ Tc::Ty));refine bG (H1:=ox q pf (I aa an ac) (I ka kn kc) (P+iX bl (dL++[b]))::ar ma R mc (f_ R (nm ν bl P b kb))::cJ p5 ma R mc::am (O ⟨vb,vo,U⟩) ys.length c ys::aw va us.length vc us::ar pa pl.length pc pl::Tt) (aX.2 λe=>?_) ?_<;>(try unfold Tt)<;>(try unfold Ty)<;>(try unfold Tc)<;>try unfold Tz
   ·have h3:=aX.1 (ig dZ jT) e
    have h4:dZ (⟨pd,pa,pc,pl⟩:ch)=ar pa pl.length pc pl:=rfl;rw[<-hOT,h4]at h3;simp only[bU,bM,am,ar,aw,cJ]at h3|-
    omega
   refine fy 4 rfl A λzb zo Bk=>?_;subst Bk;refine fy 5 rfl A λyb yo B4=>?_;subst B4;have zu:∀cP,gm (aw (O ⟨zb,zo,U⟩) us.length vc us::cP) zb (zo+i*2) _:=λ_=>jJ (k:=0) rfl eP hp;simp only[iz,aw]at zu;have Nz:∀cP,gm (ar (O ⟨yb,yo,U⟩) pl.length pc pl::cP) yb (yo+jB*2) _:=λ_=>jJ (k:=0) rfl eQ hv4;simp only[mm,ar]at Nz
   repeat(first|refine aV ?_|refine dd λ_ _=>?_)
   rename_i CK _;obtain⟨X,hX⟩:∃X,X=kt ν bl P b kb v:=⟨_,rfl⟩;rw[<-hX]at ab3;have hXC:mm X=[ag X.dq,J Z X.n]:=rfl;let Tm:=(⟨O ⟨zb,zo,U⟩,vc,us,Qh,Qi,Jo,Qg,Qj,Qk,Ql,Qm⟩:aK);let Tk:=(OT++(qJ Tm::lQ Tm::Tz));refine dI [bN CK pd (O ⟨yb,yo,U⟩) pl.length pc] (λ_:Unit=>True) (λ_=>(161,J Z i)::(159,I (O ⟨zb,zo,U⟩) us.length vc)::Th) (λ_=>ox q pf (I aa an ac) (I ka kn kc) (P+iX bl (dL++[b]))::ar ma R mc (f_ R (nm ν bl P b kb))::cJ p5 ma R mc::am (O ⟨vb,vo,U⟩) ys.length c ys::aw (O ⟨zb,zo,U⟩) us.length vc us::ar (O ⟨yb,yo,U⟩) pl.length pc (pl.set jB X)::Tk) mixed aB ?_ λ_ _=>?_
   ·refine W 0 ?_;refine W 1 ?_;refine W 2 ?_;refine W 3 ?_;refine W 4 ?_;refine W 5 ?_;refine W 6 ?_;refine W 7 ?_;refine cD 8 E (gM 8 rfl aB ?_);refine cD 9 E (mV 9 (us:=[]) (vs:=[aC #[ag v.dq,J Z v.n]]) (xs:=[aO (O ⟨p5,0,U⟩)]) rfl aB (λw hw=>wL hw (k1:=3) (k2:=2) rfl rfl hR v acR) ?_);rw[<-hX];refine W 10 ?_;refine cD 11 E (jw 11 6 (j:=jB*2) rfl rfl (by rw[cA eQ];omega) aB ?_);refine ef E ?_;simp only[bS,bI];rw[<-hXC,iZ eQ ad0];exact dy () trivial V aB
   refine aU ?_;let Ti:=((ii gE (i+1) us).map dZ++(qJ Tm::lQ Tm::Tz));refine bG (H1:=ox q pf (I aa an ac) (I ka kn kc) (P+iX bl (dL++[b]))::ar ma R mc (f_ R (nm ν bl P b kb))::cJ p5 ma R mc::am (O ⟨vb,vo,U⟩) ys.length c ys::aw (O ⟨zb,zo,U⟩) us.length vc us::Ti) (aX.2 λe=>?_) ?_<;>(try unfold Ti)<;>(try unfold Tz)<;>try unfold Tm
   ·have h7:(ii gE (i+1) us)[i]?=O (gE i ⟨pd,O ⟨yb,yo,U⟩,pc,pl⟩):=by rw[qR hp,al A]
    have h3:=aX.1 (ig dZ h7) e;have h8:(ii gE (i+1) us).eraseIdx i=(ii gE i us).eraseIdx i:=by rw[<-qh,nt]
    have h4:dZ (gE i ⟨pd,O ⟨yb,yo,U⟩,pc,pl⟩)=ar (O ⟨yb,yo,U⟩) pl.length pc (pl.set jB X):=by rw[ab3];unfold dZ;simp only[fK]
    rw[h8,<-hOT,h4]at h3;simp only[bU,bM,am,ar,aw,cJ,Tk,Tm,Tz]at h3|-
    omega
   exact a_ (i+1) iM A V aF
  obtain rfl:us.length=i:=by have:=cE h2;omega
  rw[vG,hgE];refine aV ?_;have hrE:jf Tc (us.mapIdx (TL ν bl P b jB))=R5 ν bl P b jB Tc:=rfl;refine lr (H':=[ox q pf (I aa an ac) (I ka kn kc) (P+iX bl (dL++[b])),ar ma R mc (f_ R (nm ν bl P b kb)),cJ p5 ma R mc]++eM (O ⟨vb,vo,U⟩) c (ys.set t (R5 ν bl P b jB Tc))) (λw hw=>?_) ?_<;>try unfold Tc
  ·rw[<-hrE]
   refine Qd (X:=[ox q pf (I aa an ac) (I ka kn kc) (P+iX bl (dL++[b])),ar ma R mc (f_ R (nm ν bl P b kb)),cJ p5 ma R mc]) (ps:=us.mapIdx (TL ν bl P b jB)) (n:=ys.length) hU rfl (by rw[kR]) ?_;simp only[aw];rw[Ij (g:=TL ν bl P b jB) iz (λ_ _=>by unfold TL iz;simp only[fK])];refine hw.perm (aX.2 λe=>?_);simp only[bU,bM,dG,am,ar,aw,cJ,Tc];omega
  refine a_ (j+1,ys.set t (R5 ν bl P b jB Tc)) ⟨iS,?_,λQ' hQ'=>?_,?_⟩ bB V aF
  ·simp only
   rw[wK,eT,p_];exact Qf hC (WM hC hbV aaG hK hKu hUB hCl) λc eE hc=>VX hc eE
  ·rcases j_ hQ' with hQ'|rfl
   ·exact uG Q' hQ'
   ·refine⟨Yy.kind,Yy.on,by unfold R5;simp only[kR];exact Yy.bg,λp hp=>?_,Yy.list,Yy.ins,Yy.to⟩
    obtain⟨i,hi⟩:=bR hp;unfold R5 at hi;simp only[eD]at hi;obtain⟨p0,Ms,rfl⟩:=ff.1 hi;obtain⟨g1,g2,g3⟩:=Yy.iN p0 (aA Ms);refine⟨g1,by unfold TL;simp only[fK];exact g2,λv hv=>?_⟩;rcases j_ hv with hv|rfl
    ·exact g3 v hv
    ·obtain⟨v,Bi,acR⟩:=Ha i p0 Ms
     rw[show p0.l.getD jB lB=v by rw[fF,Bi];rfl];exact Cv _ _ _ acR (g3 v (aA Bi))
  ·by_cases e:b=t
   ·subst e
    rw[hU]at hQ;obtain rfl:=bJ hQ;exact⟨_,fk A,hQa,hQc,hQt⟩
   ·exact⟨Q,by rw[fY (λh=>e h.symm)];exact hQ,hQa,hQc,hQt⟩
 obtain rfl:to.length=j:=by have:=cE h1;omega
 rw[cL,NJ,Zz hB]at p_;clear hyr;obtain⟨kids,KI⟩:∃kids,kids=pN bl b:=⟨_,rfl⟩;obtain⟨ahr,_⟩:=yB.at;have aaz:((bj bl.length).map λb=>(pN bl b).map λx:Nat=>(x:Int))[b]?=O (kids.map λx:Nat=>(x:Int)):=by
  rw[aW,gq hb,KI]
  rfl
 have aaI:∀{bb oo:Nat} {v:K} {l:List K},ct wz bb oo (v::l)->iO S bb:=λhc=>kV.I9 hc;obtain⟨b2,o2,uu,td,r_⟩:=fd yB aaI (λ_ _ h=>by obtain⟨_,e,_⟩:=h;exact⟨_,_,e⟩) (aZ aaz);obtain⟨_,uv,rv,rfl,CA⟩:=r_ b _ aaz;obtain⟨ra,rn,rc,_,_,rfl,Av,_⟩:=id CA;rw[aG]at Av;subst Av;rw[aG,d_]at ahr;have akg:cg b kn:=⟨A⟩;simp only[bF,aS];unfold ox;refine aV ?_;simp only[<-hν]at ih;obtain⟨VJ,hVJ⟩:∃VJ:Nat->List Nat,VJ=λj=>dL++[b]++(kids.take j).flatMap (mi bl f):=⟨_,rfl⟩;have ad8:VJ 0=dL++[b]:=by rw[hVJ];simp
 have agt:VJ kids.length=dL++mi bl (f+1) b:=by rw[hVJ,Dw,KI];simp
 rw[<-ad8]at p_;rw[<-ad8];have B0:kids.length<=100:=by
  rw[KI];unfold pN;exact dS (fC _ _) (by rw[d_];omega)
 refine bH (λx:Nat×List aK=>x.1<=kids.length/\x.2.map aK.dD=F7 ν bl P (yG bl (VJ x.1))/\∀Q∈x.2,Q.Bd) (λx=>[(186,J Z x.1),(184,I ra kids.length rc),(185,J Z kids.length),(7,aO (O ⟨vb,vo+b*6,U⟩)),(6,.func (.func 110) #[] #[aO (O ⟨p5,0,U⟩)]),M 5 p5,M 0 q,(1,J Z b)]) (λx=>ox q pf (I aa an ac) (I ka kn kc) (P+iX bl (VJ x.1))::ar ma R mc (f_ R (nm ν bl P b kb))::cJ p5 ma R mc::eM (O ⟨vb,vo,U⟩) c x.2) (λx=>kids.length-x.1) (0,ys) ⟨aN _,p_,uG⟩ (aP V (by unfold ox;exact dU _)) λx ⟨hj,yD,Gp⟩=>?_;clear p_ uG;obtain⟨j,zs⟩:=x;simp only at hj yD Gp|-
 refine bA ?_;apply aL<;>intro h1
 ·have iS:j<kids.length:=aD h1
  obtain⟨y,hy⟩:=bE kids j iS;have hyk:y∈pN bl b:=by rw[<-KI];exact aA hy
  have UM:=pM hyk;have vK:y<bl.length:=by unfold pN at hyk;exact cW.1 (cR.1 hyk).1
  have hdy:=vj hg dW UM;have hyI:(kids.map λx:Nat=>(x:Int))[j]?=O (y:Int):=by rw[aW,hy];rfl
  obtain⟨b3,o3,Ul,C6,ID⟩:=fd CA aaI (λ_ _ h=>⟨_,_,h.1⟩) (aZ hyI);obtain⟨_,KB,rfl,_⟩:=ID j _ hyI;have ahI:cg j kids.length:=⟨iS⟩;have hVs:VJ (j+1)=VJ j++mi bl f y:=by
   rw[hVJ];simp only;rw[bV,hy,ee,<-fu];simp
  have ae6:wn bl=VJ j++(mi bl f y++((kids.drop (j+1)).flatMap (mi bl f)++dO)):=by
   have h3:kids=kids.take j++y::kids.drop (j+1):=by
    rw[<-(aJ.1 hy).2,List.getElem_cons_drop,List.take_append_drop]
   have h4:kids.flatMap (mi bl f)=(kids.take j).flatMap (mi bl f)++(mi bl f y++(kids.drop (j+1)).flatMap (mi bl f)):=by
    conv=>lhs;rw[h3]
    rw[ee,fj]
   rw[Pp,<-KI,h4,hVJ];simp
  refine aU ?_;refine bG (H1:=(ox q pf (I aa an ac) (I ka kn kc) (P+iX bl (VJ j))::eM (O ⟨vb,vo,U⟩) c zs)++[ar ma R mc (f_ R (nm ν bl P b kb)),cJ p5 ma R mc]) fM ?_;refine Yl (val:=λ_:List aK=>.tuple #[]) (cZ:=λx=>ox q pf (I aa an ac) (I ka kn kc) (P+iX bl (VJ (j+1)))::eM (O ⟨vb,vo,U⟩) c x) (φ:=λx=>x.map aK.dD=F7 ν bl P (yG bl (VJ (j+1)))/\∀B∈x,B.Bd) kV rfl (λwz' w' agV acb lP mS=>?_) λx ⟨qH,Vm⟩=>?_
  ·have ahP:aY wz' (I ma R mc) 2 (f_ R (O0 ν bl P y)) mp:=by
    rw[Yd hyk,<-hxB,<-yQ];refine lP.nf (k:=0) rfl (by rw[jE]) A λi x hx=>⟨mm x,λj v hj=>e_ eQ _ i x j v hx hj,rfl,?_⟩;have hi:i<R:=by have:=(aJ.1 hx).1;rwa[jE]at this
    rw[xP hi]at hx;rw[<-bJ hx];have h3:=Cv b kb ⟨true,(i:Int)⟩ (λ_=>⟨by simp only;omega,by simp only;omega⟩) ⟨by simp only;omega,by simp only;omega⟩;exact h3
   have h5:=ih y (VJ j) ((kids.drop (j+1)).flatMap (mi bl f)++dO) zs ma R mc (df (ox q pf (I aa an ac) (I ka kn kc) (P+iX bl (VJ j))::eM (O ⟨vb,vo,U⟩) c zs)) wz' w' (by unfold Ml at hfd|-;omega) vK ae6 yD Gp agV (ct.le acb ve) (QM.le Br acb) (yB.le Br acb) ahP mS;rw[<-hVs]at h5;exact h5
  refine bG (H1:=ox q pf (I aa an ac) (I ka kn kc) (P+iX bl (VJ (j+1)))::ar ma R mc (f_ R (nm ν bl P b kb))::cJ p5 ma R mc::eM (O ⟨vb,vo,U⟩) c x) fM ?_;refine aU ?_;exact a_ (j+1,x) ⟨iS,qH,Vm⟩ bB V aF
 obtain rfl:kids.length=j:=by have:=cE h1;omega
 rw[agt]at yD|-
 refine aV ?_;exact Ck rfl λw hw=>⟨zs,rfl,hw.sub (dN (.cons _ (.cons _ (.refl _)))),yD,Gp⟩
section
theorem HM:∀{l:List Nat} {c:Nat},(∀x∈l,x<=c)->l.sum<=l.length*c
 |[],c,_=>by simp
 |x::l,c,h=>by
  have h1:=h x cK;have h2:=HM (l:=l) (c:=c) λy hy=>h y (ey _ hy);rw[g_,lF,Nat.succ_mul];omega
theorem Fa:∀{l m:List Nat},l.Nodup->(∀x∈l,x∈m)->l.length<=m.length
 |[],m,_,_=>aN _
 |x::l,m,hn,hs=>by
  obtain⟨h1,h2⟩:=rV.1 hn;have hx:=hs x cK;have ih:=Fa (l:=l) (m:=m.erase x) h2 λy hy=>by
   have fZ:y≠x:=λe=>h1 (e▸hy);exact(List.mem_erase_of_ne fZ).2 (hs y (ey _ hy))
  rw[List.length_erase_of_mem hx]at ih;have:=List.length_pos_of_mem hx;rw[lF];omega
section
variable {X:bZ} {R:Nat}
theorem WV(h:vM X R)(hm:eu X.blocks<=300):∀b,zI (bi (gU X) b)<=1000:=λb=>by
 by_cases hb:b<X.blocks.length
 ·obtain⟨B,hB⟩:=bE X.blocks b hb
  have h1:B.bg.length+B.list.length<=eu X.blocks:=by
   unfold eu;exact qI (aT.2 ⟨B,aA hB,rfl⟩)
  rw[qM h.all,gK (ly hB)];unfold zI;simp only[bW];have h2:(fx X.blocks R b).length<=R:=by
   unfold fx;rw[aG];exact dS (fC _ _) (by rw[d_];exact cz _)
  have h3:=fC ON B.list;have h4:=h.all.le;omega
 ·have h1:(gU X)[b]?=U:=cm (by rw[(kP h.all).2.2.2];omega)
  unfold bi;rw[h1];show zI sj<=1000
  decide
theorem CM(h:vM X R)(hl:X.blocks.length<=40)(hm:eu X.blocks<=300):xH (gU X) X.params.toNat<=50000:=by
 obtain⟨hg,dW,lG,hlen⟩:=kP h.all;have h1:(wn (gU X)).length<=(gU X).length:=by
  have h2:(wn (gU X)).Nodup:=CL .refl;have h3:=Fa h2 (m:=bj (gU X).length) λx hx=>cW.2 (hg.BG dW (BE .refl hx).2.1);rw[d_]at h3;exact h3
 have h4:=HM (l:=(wn (gU X)).map λb=>zI (bi (gU X) b)) (c:=1000) λx hx=>by
  obtain⟨b,_,rfl⟩:=aT.1 hx;exact WV h hm b
 rw[aG]at h4;have h5:=h.all.par;have h6:=h.all.le;unfold xH;have h7:(wn (gU X)).length*1000<=40*1000:=sQ _ A;omega
theorem af2(h:vM X R)(hb:qx fs X)(hl:X.blocks.length<=40)(hm:eu X.blocks<=300):adD (gU X) R X.params.toNat:=by
 obtain⟨hg,dW,lG,hlen⟩:=kP h.all;have hM:=CM h hl hm;have hr:((tS X).bm:Int)=(xH (gU X) X.params.toNat:Nat):=rfl;refine⟨by rw[qM h.all];exact pQ h.all.ok (cz _),dW,A,vB h,DJ h hb,by have:=h.all.le;omega,by unfold iX;unfold xH at hM;omega,λb i v hv hn=>?_⟩;have h1:=wh (ν:=B5 (gU X) X.params.toNat) (bl:=gU X) (n:=X.params.toNat) (b:=b) (i:=i) (v:=v) λhr=>(hv hr).1
 by_cases hr2:(kt (B5 (gU X) X.params.toNat) (gU X) X.params.toNat b i v).dq=true
 ·have:=Jg h _ (h1 hr2)
  exact⟨A,A⟩
 ·have XB:(kt (B5 (gU X) X.params.toNat) (gU X) X.params.toNat b i v).dq=false:=aD hr2
  unfold kt at XB|-
  split
  ·rename_i h3
   rw[al h3]at XB;rw[show nm (B5 (gU X) X.params.toNat) (gU X) X.params.toNat b i v.n=lB from Oc _ _ _ XB];exact⟨by simp[lB],by simp[lB]⟩
  ·exact hn
theorem ZZ(h:vM X R)(hb:qx fs X)(h0:(bi X.blocks 0).bg=[])(hl:X.blocks.length<=40)(hm:eu X.blocks<=300):S0 (tS X) (xH (gU X) X.params.toNat):=by
 have hM:=CM h hl hm;have hB:=WZ h hb h0;obtain⟨hg,dW,lG,hlen⟩:=kP h.all;refine⟨rfl,A,Ew rfl (Ce.2 hB),by show 0<(pU _ _ _).length;rw[jF];exact dW,?_,λB DS x hx=>?_⟩
 ·have h1:=(Jh h).par
  exact h1
 ·obtain⟨b,wS⟩:=bR DS
  exact⟨fs,hB.list b B wS x hx⟩
theorem adw(h:vM X R){dL:List Nat}(hV:dL=wn (gU X))(ν:Nat->Nat->Int)(n:Nat):F7 ν (gU X) n (yG (gU X) dL)=pU ν (gU X) n:=by
 obtain⟨hg,dW,lG,hlen⟩:=kP h.all;have hm:∀c,c<(gU X).length->c∈dL:=λc hc=>by rw[hV];exact PQ hg dW (vB h c hc)
 have hfo:eW R (gU X):=by rw[qM h.all];exact pQ h.all.ok (cz _)
 refine aae (λc i B hB _=>hm c (aJ.1 hB).1) (λc i j B p hB hp hj=>?_) (λc k B hB _=>hm c (aJ.1 hB).1) λc B hB=>hm c (aJ.1 hB).1;have h1:=((hfo.block c B hB).bg p (aA hp)).len;have h2:j<(be (gU X) c).length:=A;refine⟨(be (gU X) c)[j],bL h2,hm _ ?_⟩;have h3:=my h2;unfold be at h3;exact cW.1 (cR.1 h3).1
end
noncomputable def xF(bl:List aq)(i:Nat):List (List Int):=(bj bl.length).map λb=>((bj i).filter λc=>decide (ed bl c=((b:Nat):Int))).map λx:Nat=>(x:Int)
theorem NZ(bl:List aq):xF bl 0=aI bl.length []:=by
 unfold xF;apply cY;intro i
 by_cases h:i<bl.length
 ·rw[aW,gq h,ku,al h];rfl
 ·rw[cm dr,cm dr]
theorem Rm(bl:List aq):xF bl bl.length=(bj bl.length).map λb=>(pN bl b).map λx:Nat=>(x:Int):=rfl
theorem VG(h:ed bl i<0):xF bl (i+1)=xF bl i:=by
 unfold xF;refine ew λb _=>?_;rw[iV,mw];have:([i].filter λc=>decide (ed bl c=((b:Nat):Int)))=[]:=by
  simp only[List.filter_cons,gx (show¬ed bl i=((b:Nat):Int) by omega)]
  rfl
 rw[this,cj]
theorem VH{t:Nat}(h:ed bl i=(t:Int)):xF bl (i+1)=(xF bl i).modify t (·++[(i:Int)]):=by
 unfold xF;apply cY;intro b;rw[rU,aW,aW]
 by_cases hb:b<bl.length
 ·rw[gq hb]
  simp only[b_,Option.map_eq_map];congr 1;rw[iV,mw,bz]
  by_cases e:t=b
  ·subst e
   rw[al rfl];congr 1;rw[List.filter_cons,fQ h]
   rfl
  ·rw[ai e]
   have:([i].filter λc=>decide (ed bl c=((b:Nat):Int)))=[]:=by
    simp only[List.filter_cons,gx (show¬ed bl i=((b:Nat):Int) by omega)]
    rfl
   rw[this];simp
 ·rw[cm dr];rfl
end
end
end Go.Proofs.YthfhgolkafpmnaaGreatDoor
