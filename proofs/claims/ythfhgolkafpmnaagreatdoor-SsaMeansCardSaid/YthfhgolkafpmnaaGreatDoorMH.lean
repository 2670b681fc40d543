/- Texts joined: OneD OneS. -/
import Derived.Test.YthfhgolkafpmnaaGreatDoorMF
namespace Go.Proofs.YthfhgolkafpmnaaGreatDoor
open Go.Value renaming int->U,slice->J,pointer->ar,string->G,bool->D,agg->au
open Go.IntKind renaming i64->O
open Option renaming some->Z,none->A
open Go renaming Value->V,World->C
open Go.Proofs.Tryz
open Go.Proofs.Tryz renaming prog->ae
open Go Go.RowKit
section
set_option maxHeartbeats 8000000
attribute [local irreducible] wpListIn Code.wpIn Exit.then Exit.inBlock bodyPost wpQuiet wpAnyIn wpAnyH bodyPostM j5
def mF(q pf:Nat)(av kv:V)(m:Nat):bN:=K q [ar (Z ⟨pf,0,A⟩),av,kv,U O (m:Int)] 102
theorem Iz(q pf:Nat)(av kv:V)(m:Nat)(hm:m<=1000000)(w:C)(hw:Wd (cH [mF q pf av kv m]) w [mF q pf av kv m] w):
  iC ae 111 [ar (Z ⟨q,0,A⟩)] w λu w'=>∃_x:Unit,u=au #[D true,U O (m:Int)]/\Wd (cH [mF q pf av kv m]) w [mF q pf av kv (m+1)] w'/\True:=by
 have h:=Wx q pf av kv (m:Int) I w hw;rw[show(m:Int)+1=((m+1:Nat):Int) by omega]at h;exact h
theorem uO{S:Nat->Prop}{w0 w:C}{H:List bN}(hw:Wd S w0 H w){k1 k2 p5 mc R:Nat}{ma:Option Addr}{ν:Nat->Nat->Int}{bl:List E}{P b i:Nat}(h1:H[k1]?=Z (K p5 [J ma R mc] 47))(h2:H[k2]?=Z (M ma R mc 41 2 ((eF R (nm ν bl P b i)).flatMap dB)))(hR:R<=1000)(v:cg)(hv:jb R v):
  eP ae 110 [au #[D v.z,U O v.n],ar (Z ⟨p5,0,A⟩)] w (au #[D (k7 ν bl P b i v).z,U O (k7 ν bl P b i v).n]):=by
 have h3:=aeO p5 (J ma R mc) (eF R (nm ν bl P b i)) w (λj u hj=>by rw[di];exact hw.mP k1 h1 hj) (hw.oH h2 (by rw[gO]) I λi x hx=>⟨dB x,λj v hj=>fB eZ _ i x j v hx hj,rfl⟩) v (λh=>by rw[gO];exact hv h);rw[Ud hv]at h3;exact h3
structure acw(bl:List E)(R P:Nat):Prop where
 ok:fu R bl
 pos:0<bl.length
 len:bl.length<=100
 reach:∀b,b<bl.length->gH bl (-1) 0 b
 z:∀B∈bl,mh (Rn R) B
 le:R<=1000
 lF:P+gg bl (sH bl)<=100000
 nin:∀b i v,jb R v->dk v.n->dk (k7 (mT bl P) bl P b i v).n
theorem QN(xn:ByteArray)(xp xr:Int)(bl:List E)(R P:Nat)(hI:acw bl R P)(q pf vb vo n c:Nat)(aa:Option Addr)(an ac:Nat)(ka:Option Addr)(kn kc:Nat)(hn:n=bl.length):
  ∀(f b:Nat) (ake W:List Nat) (bs:List aX) (na:Option Addr) (nn nc:Nat) (S:Nat->Prop) (wz w:C),bl.length<f+CH bl b->b<bl.length->sH bl=ake++(kA bl f b++W)->bs.map aX.eR=Ex (mT bl P) bl P (ww bl ake)->(∀B∈bs,B.Bd)->Clean S wz->
   bF wz pf 0 [G xn,U O xp,U O xr,J (Z ⟨vb,vo,A⟩) n c]->aG wz (J aa an ac) 1 (be bl) cN->aG wz (J ka kn kc) 1 ((List.range bl.length).map λb=>(oh bl b).map λx:Nat=>(x:Int)) cN->aG wz (J na nn nc) 2 (eF R (BT (mT bl P) bl P b)) mi->
   Wd S wz (mF q pf (J aa an ac) (J ka kn kc) (P+gg bl ake)::fS (Z ⟨vb,vo,A⟩) c bs) w->
   iC ae 67 [ar (Z ⟨q,0,A⟩),U O b,J na nn nc] w λu w'=>∃x:List aX,u=.tuple #[]/\Wd S wz (mF q pf (J aa an ac) (J ka kn kc) (P+gg bl (ake++kA bl f b))::fS (Z ⟨vb,vo,A⟩) c x) w'/\(x.map aX.eR=Ex (mT bl P) bl P (ww bl (ake++kA bl f b))/\∀B∈x,B.Bd):=by
 classical
 intro f;have hlen:=hI.len;have hg:=hI.ok.iM;have c_:=hI.pos;have hR:=hI.le
 induction f with
 |zero=>
  intro b ake W bs na nn nc S wz w hfd hb;have:=(mR hg c_ (hI.reach b hb)).2;omega
 |succ f ih=>
 intro b ake W bs na nn nc S wz w hfd hb SQ Zi r5 e_ qq Pd GL wN hw;obtain⟨ν,hν⟩:∃ν,ν=mT bl P:=⟨_,rfl⟩;have EJ:=hI.nin;rw[<-hν]at Zi wN EJ;rw[<-hν];have Ft:=hI.reach b hb;have IV:bs.length=n:=by
  have h3:=congrArg List.length Zi;rw[aF,zL]at h3;omega
 have wP:kA bl (f+1) b=b::(oh bl b).flatMap (kA bl f):=rfl;have ZI:(sH bl).Nodup:=wB .refl;have Nv:sH bl=ake++b::((oh bl b).flatMap (kA bl f)++W):=by rw[SQ,wP];rfl
 have hbV:b∉ake:=λh=>by
  rw[Nv]at ZI;exact(pI.1 ZI).2.2 b h b aC rfl
 have hnu:∀k,ν b k=((P+gg bl ake+N8 (aN bl b) k:Nat):Int):=λk=>by rw[hν];exact abR Nv hbV
 obtain⟨B,hB⟩:=bf bl b hb;have VG:aN bl b=B:=bQ hB;have Ld:=hI.ok.block b B hB;have IK:=hI.z B (aq hB);have afV:∀X:List Nat,(∃Y,sH bl=X++Y)->P+gg bl X<=100000:=λX ⟨Y,h⟩=>by
  have h1:=hI.lF;rw[h,CA]at h1;omega
 have BY:P+gg bl ake+sx B<=100000:=by
  have:=afV (ake++[b]) ⟨(oh bl b).flatMap (kA bl f)++W,by rw[Nv];simp⟩;rw[CA,Il,VG]at this;omega
 obtain⟨T,hT⟩:=bf bs b I;have Zb:T.eR=rP ν bl P (ww bl ake) b B:=by
  have h3:(bs.map aX.eR)[b]?=Z T.eR:=by rw[aJ,hT];rfl
  rw[Zi,zK hB]at h3;exact(a7 h3).symm
 have Bh:=r5 T (aq hT);have n_:a6 wz pf 0 [G xn,U O xp,U O xr,J (Z ⟨vb,vo,A⟩) n c]:=⟨qq⟩;have hold:eS S pf:=e_.old qq;have SH:bY b n:=⟨I⟩;refine kP func67 rfl ntmps67 rfl hw ?_
 repeat(first|refine aU ?_|refine dZ λ_ _=>?_)
 rename_i p5 _;have SP:nn=R:=by rw[wN.at.1,gO]
 refine cZ (val:=λx:Option Addr×Nat=>.slice x.1 R x.2) (akg:=λx=>[M x.1 R x.2 41 2 ((eF R (BT ν bl P b)).flatMap dB)]) (φ:=λ_=>True) rfl (λw hw=>?_) λx _=>?_
 ·rw[SP]
  have h3:=xz na nc (eF R (BT ν bl P b)) (by rw[gO];omega) w (by
   have h4:=Hy (wN.le zf (e_.now hw));rw[SP]at h4;rw[gO];exact h4)
  rw[gO]at h3;exact h3
 obtain⟨ma,mc⟩:=x;simp only[aW,aO];unfold mF;obtain⟨aeb,W9,abm,LG,abu⟩:(∀(i:Nat) p,T.ps[i]?=Z p->∃p',B.aD[i]?=Z p'/\p.dst=p'.dst)/\T.xs.map (·.x)=B.list/\T.on=B.on/\T.to=B.to/\T.ps.length=B.aD.length:=by
  obtain⟨h1,h2,h3,h4,h5⟩:=NK (ν:=ν) (n:=P) hbV B;rw[<-Zb]at h1 h2 h3 h4 h5;have Fq:T.ps.length=B.aD.length:=by
   have h8:=congrArg (λx:E=>x.aD.length) Zb;simp only[aX.eR,aF]at h8;rw[h8];show(B.aD.mapIdx _).length=_;rw[iW]
  refine⟨λi p hp=>?_,h1,h2,h3,Fq⟩;obtain⟨p',wi⟩:∃p',B.aD[i]?=Z p':=⟨_,a_ (by rw[<-Fq];exact(az.1 hp).1)⟩;obtain⟨q,hq,Xg⟩:=h5 i p' wi;have h6:(T.ps.map cW.kN)[i]?=Z q:=hq;rw[aJ,hp]at h6;obtain rfl:=a7 h6;exact⟨p',wi,Xg⟩
 obtain⟨qa,qc,ps,la,lc,xs,kd,on,ta,tc,to⟩:=T;simp only at aeb W9 abm LG abu;refine aE ?_;refine oU (H':=[mF q pf (J aa an ac) (J ka kn kc) (P+gg bl ake),M ma R mc 41 2 ((eF R (BT ν bl P b)).flatMap dB),K p5 [J ma R mc] 47]++(M (Z ⟨vb,vo,A⟩) bs.length c 46 6 (bs.flatMap bm)::M qa ps.length qc 49 2 (ps.flatMap cF)::vE (⟨qa,qc,ps,la,lc,xs,kd,on,ta,tc,to⟩:aX)::pz (⟨qa,qc,ps,la,lc,xs,kd,on,ta,tc,to⟩:aX)::(ps.map fP++(xs.map j1++(bs.eraseIdx b).map ck)))) (λw hw=>Ef hT (X:=[mF q pf (J aa an ac) (J ka kn kc) (P+gg bl ake),M ma R mc 41 2 ((eF R (BT ν bl P b)).flatMap dB),K p5 [J ma R mc] 47]) (hw.perm (aP.2 λe=>by unfold mF;simp only[bC,br,cq];omega))) ?_;simp only[aW,aO];rw[IV];have jd:∀(q:Nat) v,(bm (⟨qa,qc,ps,la,lc,xs,kd,on,ta,tc,to⟩:aX))[q]?=Z v->(bs.flatMap bm)[b*6+q]?=Z v:=λq v hv=>fB dX bs b _ q v hT hv;have adX:∀Y,fy (M (Z ⟨vb,vo,A⟩) n c 46 6 (bs.flatMap bm)::Y) vb (vo+b*6) (J qa ps.length qc):=λ_=>⟨λ_ _ _ hw=>hw.cL (k:=0) rfl (jd 0 _ rfl)⟩;have adY:∀Y,fy (M (Z ⟨vb,vo,A⟩) n c 46 6 (bs.flatMap bm)::Y) vb (vo+b*6+1) (J la xs.length lc):=λ_=>⟨λ_ _ _ hw=>by have h3:=hw.cL (k:=0) rfl (jd 1 _ rfl);rw[<-dI]at h3;exact h3⟩;refine aH ?_;have Xf:ps.length<=1000:=Bh.aD;refine bL (λi:Nat=>i<=ps.length) (λi=>[(40,U O i),(38,J qa ps.length qc),(39,U O ps.length),(7,ar (Z ⟨vb,vo+b*6,A⟩)),(6,.func (.func 110) #[] #[ar (Z ⟨p5,0,A⟩)]),aj 5 p5,aj 0 q,(1,U O b)])
  (λi=>mF q pf (J aa an ac) (J ka kn kc) (P+gg bl ake+i)::M ma R mc 41 2 ((eF R (NQ ν bl P b i)).flatMap dB)::K p5 [J ma R mc] 47::M (Z ⟨vb,vo,A⟩) n c 46 6 (bs.flatMap bm)::M qa ps.length qc 49 2 ((fF (Bq ν b) i ps).flatMap cF)::vE (⟨qa,qc,ps,la,lc,xs,kd,on,ta,tc,to⟩:aX)::pz (⟨qa,qc,ps,la,lc,xs,kd,on,ta,tc,to⟩:aX)::(ps.map fP++(xs.map j1++(bs.eraseIdx b).map ck))) (λi=>ps.length-i) 0 (aT _) (aS ap (by rw[uI,DR (λr _=>T7 b r)];exact ey _)) λi hi=>?_
 refine aU ?_;refine aI (λh1=>?_) (λh1=>?_)
 ·have iJ:i<ps.length:=ax h1
  obtain⟨p,hp⟩:=bf ps i iJ;have jS:=zJ (g:=Bq ν b) hp;have rS:=wF (g:=Bq ν b) hp;obtain⟨p',wi,ZK⟩:=aeb i p hp;have uV:=(IK.aD p' (aq wi)).1;obtain⟨d,hd⟩:∃d:Nat,p.dst=d:=⟨p.dst.toNat,by have:=uV.1;omega⟩;have hdR:d<R:=by have:=uV.2;omega
  have Fy:(eF R (NQ ν bl P b i)).set d ⟨true,ν b i⟩=eF R (NQ ν bl P b (i+1)):=J1 λr hr=>by
   rw[T6 (p:=p') (by rw[VG];exact wi),<-ZK,hd]
  have agR:ν b i=((P+gg bl ake+i:Nat):Int):=by rw[hnu,VG,N9 I]
  have bS:bY i ps.length:=⟨iJ⟩;have hlR:bY d R:=⟨hdR⟩;refine fL 4 rfl I λzb zo GX=>?_;subst GX;refine fL 1 rfl I λyb yo Fz=>?_;subst Fz;obtain⟨pd,pa,pc,pl⟩:=p;simp only at hd;subst hd;have zN:∀Y,gQ (M (Z ⟨zb,zo,A⟩) ps.length qc 49 2 ((fF (Bq ν b) i ps).flatMap cF)::Y) zb (zo+i*2) _:=λ_=>jz (k:=0) rfl fV jS;simp only[cF]at zN
  repeat(first|refine aE ?_|refine dZ λ_ _=>?_)
  rename_i p9 _;refine bi (H1:=[mF q pf (J aa an ac) (J ka kn kc) (P+gg bl ake+i)]++(K p9 [U O (d:Int),J pa pl.length pc] 49::M (Z ⟨yb,yo,A⟩) R mc 41 2 ((eF R (NQ ν bl P b i)).flatMap dB)::K p5 [J (Z ⟨yb,yo,A⟩) R mc] 47::M (Z ⟨vb,vo,A⟩) n c 46 6 (bs.flatMap bm)::M (Z ⟨zb,zo,A⟩) ps.length qc 49 2 ((fF (Bq ν b) i ps).flatMap cF)::vE (⟨Z ⟨zb,zo,A⟩,qc,ps,la,lc,xs,kd,on,ta,tc,to⟩:aX)::pz (⟨Z ⟨zb,zo,A⟩,qc,ps,la,lc,xs,kd,on,ta,tc,to⟩:aX)::(ps.map fP++(xs.map j1++(bs.eraseIdx b).map ck)))) (List.Perm.swap _ _ _) ?_;refine fK (val:=λ_:Unit=>.agg #[D true,U O ((P+gg bl ake+i:Nat):Int)]) (akg:=λ_=>[mF q pf (J aa an ac) (J ka kn kc) (P+gg bl ake+i+1)]) (φ:=λ_=>True) rfl (λw hw=>Iz q pf _ _ (P+gg bl ake+i) I w hw.pre) λ_ _=>?_;simp only[aW,aO];rw[<-agR];have mq:((eF R (NQ ν bl P b i)).flatMap dB).take (d*2)++[D true,U O (ν b i)]++((eF R (NQ ν bl P b i)).flatMap dB).drop (d*2+2)=(eF R (NQ ν bl P b (i+1))).flatMap dB:=by
   rw[show[D true,U O (ν b i)]=dB ⟨true,ν b i⟩from rfl,jP eZ (by rw[gO];exact hdR),Fy]
  repeat(first|refine aE ?_|refine dZ λ_ _=>?_)
  rename_i EO _;refine kZ 3 (j:=d*2) rfl rfl (by rw[cj eZ,gO];omega) ?_;simp only[cG,bW];rw[mq];refine aU ?_;have nK:mV ((fF (Bq ν b) i ps).flatMap cF) (i*2+0) (U O (ν b i)) ((fF (Bq ν b) (i+1) ps).flatMap cF):=⟨by
   rw[<-rS];exact gN fV jS (k:=0) I (y:=Bq ν b i ⟨(d:Int),pa,pc,pl⟩) rfl,by rw[cj fV,l6];omega⟩
  have ZJ:∀(X0 X1 X2 X3 X4 X5:bN) (Y:List bN),oI (X0::X1::X2::X3::X4::X5::M (Z ⟨zb,zo,A⟩) ps.length qc 49 2 ((fF (Bq ν b) i ps).flatMap cF)::Y) zb (zo+i*2) 6 zo (i*2+0) ps.length qc 49 2 ((fF (Bq ν b) i ps).flatMap cF):=λ_ _ _ _ _ _ _=>⟨rfl,I⟩;refine dQ [K EO [D true,U O (ν b i)] 41,M (Z ⟨vb,vo,A⟩) n c 46 6 (bs.flatMap bm)] (λ_:Unit=>True) (λ_=>[(40,U O i),(38,J (Z ⟨zb,zo,A⟩) ps.length qc),(39,U O ps.length),(7,ar (Z ⟨vb,vo+b*6,A⟩)),(6,.func (.func 110) #[] #[ar (Z ⟨p5,0,A⟩)]),aj 5 p5,aj 0 q,(1,U O b)]) (λ_=>mF q pf (J aa an ac) (J ka kn kc) (P+gg bl ake+i+1)::M (Z ⟨yb,yo,A⟩) R mc 41 2 ((eF R (NQ ν bl P b (i+1))).flatMap dB)::K p5 [J (Z ⟨yb,yo,A⟩) R mc] 47::M (Z ⟨vb,vo,A⟩) n c 46 6 (bs.flatMap bm)::M (Z ⟨zb,zo,A⟩) ps.length qc 49 2 ((fF (Bq ν b) (i+1) ps).flatMap cF)::vE (⟨Z ⟨zb,zo,A⟩,qc,ps,la,lc,xs,kd,on,ta,tc,to⟩:aX)::pz (⟨Z ⟨zb,zo,A⟩,qc,ps,la,lc,xs,kd,on,ta,tc,to⟩:aX)::(ps.map fP++(xs.map j1++(bs.eraseIdx b).map ck))) mixed aw ?_ λ_ _=>?_
  ·skip
   refine ag 0 ?_;refine ag 1 ?_;refine ag 2 ?_;refine ag 3 ?_;refine ag 4 ?_;refine ag 5 ?_;refine ag 6 ?_;refine ag 7 ?_;refine ag 8 ?_;refine kX 9 ai ai aw ?_;exact dS () trivial ap aw
  refine aH ?_;exact bj (i+1) iJ I ap aK
 obtain rfl:ps.length=i:=by have:=of_decide_eq_false h1;omega
 rw[tG,DR λr _=>by rw[abu,<-VG,<-NT hg c_ Ft]];refine aE ?_;obtain⟨akd,hM⟩:∃akd:Nat->Nat,akd=λk=>P+gg bl ake+ps.length+((B.list.take k).filter ET).length:=⟨_,rfl⟩;have hM0:P+gg bl ake+ps.length=akd 0:=by rw[hM];rfl
 have Xw:xs.length=B.list.length:=by rw[<-W9,aF]
 have acW:∀k,akd k<=100000:=λk=>by
  have h3:=Iu B.list k;have h4:sx B=B.aD.length+(B.list.filter ET).length:=rfl;rw[hM];simp only;omega
 have abj:∀k,ν b ((aN bl b).aD.length+k)=((akd k:Nat):Int):=λk=>by
  rw[hnu,VG,Ym,hM];simp only;omega
 rw[hM0];have ajZ:xs.length<=1000:=Bh.list;refine bL (λk:Nat=>k<=xs.length) (λk=>[(67,U O k),(65,J la xs.length lc),(66,U O xs.length),(7,ar (Z ⟨vb,vo+b*6,A⟩)),(6,.func (.func 110) #[] #[ar (Z ⟨p5,0,A⟩)]),aj 5 p5,aj 0 q,(1,U O b)])
  (λk=>mF q pf (J aa an ac) (J ka kn kc) (akd k)::M ma R mc 41 2 ((eF R (nm ν bl P b k)).flatMap dB)::K p5 [J ma R mc] 47::M (Z ⟨vb,vo,A⟩) n c 46 6 (bs.flatMap bm)::M la xs.length lc 56 8 ((fF (xL ν bl P b) k xs).flatMap fe)::((fF (xL ν bl P b) k xs).map j1++(M qa ps.length qc 49 2 ((ps.mapIdx (Bq ν b)).flatMap cF)::pz (⟨qa,qc,ps,la,lc,xs,kd,on,ta,tc,to⟩:aX)::(ps.map fP++(bs.eraseIdx b).map ck)))) (λk=>xs.length-k) 0 (aT _) (bi (aP.2 λe=>?_) (aS ap aK)) λk hk=>?_
 ·rw[uI]
  unfold vE;simp only[bC,br];omega
 refine aU ?_;refine aI (λh1=>?_) (λh1=>?_)
 ·have u2:k<xs.length:=ax h1
  obtain⟨u,hu⟩:=bf xs k u2;have jS:=zJ (g:=xL ν bl P b) hu;have rS:=wF (g:=xL ν bl P b) hu;obtain⟨Tf,hub,huv⟩:=Bh.ins u (aq hu);obtain⟨x,ea,ec⟩:=u;simp only at Tf hub huv;have hx:B.list[k]?=Z x:=by rw[<-W9,aJ,hu];rfl
  have qQ:=aq hx;have Tk:=IK.list x qQ;have SJ:bY k xs.length:=⟨u2⟩;refine fL 4 rfl I λzb zo GX=>?_;subst GX;have zN:∀Y,gQ (M (Z ⟨zb,zo,A⟩) xs.length lc 56 8 ((fF (xL ν bl P b) k xs).flatMap fe)::Y) zb (zo+k*8) _:=λ_=>jz (k:=0) rfl jW jS;simp only[fe]at zN
  repeat(first|refine aE ?_|refine dZ λ_ _=>?_)
  rename_i nL _;have oC:jb R x.a:=Tk.a;have NA:jb R x.b:=Tk.b;have hvv:∀v∈x.args,jb R v:=Tk.args;obtain⟨aka,hA⟩:∃aka,aka=k7 ν bl P b k x.a:=⟨_,rfl⟩;obtain⟨A2,hA2⟩:∃aka,aka=k7 ν bl P b k x.b:=⟨_,rfl⟩;obtain⟨OT,hOT⟩:∃OT,OT=((fF (xL ν bl P b) k xs).eraseIdx k).map j1:=⟨_,rfl⟩;refine bi (H1:=K nL [U O x.op,U O x.dst,D x.a.z,U O x.a.n,D x.b.z,U O x.b.n,U O x.fn,J ea x.args.length ec] 56::mF q pf (J aa an ac) (J ka kn kc) (akd k)::M ma R mc 41 2 ((eF R (nm ν bl P b k)).flatMap dB)::K p5 [J ma R mc] 47::M (Z ⟨vb,vo,A⟩) n c 46 6 (bs.flatMap bm)::M (Z ⟨zb,zo,A⟩) xs.length lc 56 8 ((fF (xL ν bl P b) k xs).flatMap fe)::M ea x.args.length ec 41 2 (x.args.flatMap dB)::(OT++(M qa ps.length qc 49 2 ((ps.mapIdx (Bq ν b)).flatMap cF)::pz (⟨qa,qc,ps,Z ⟨zb,zo,A⟩,lc,xs,kd,on,ta,tc,to⟩:aX)::(ps.map fP++(bs.eraseIdx b).map ck)))) (aP.2 λe=>?_) ?_
  ·have h3:=aP.1 (jl j1 jS) e
   have h4:j1 (⟨x,ea,ec⟩:jG)=M ea x.args.length ec 41 2 (x.args.flatMap dB):=rfl;rw[<-hOT,h4]at h3;simp only[bC,br]at h3⊢;omega
  refine dQ [] (λ_:Unit=>True) (λ_=>[(11,U O k),aj 12 nL,(67,U O k),(65,J (Z ⟨zb,zo,A⟩) xs.length lc),(66,U O xs.length),(7,ar (Z ⟨vb,vo+b*6,A⟩)),(6,.func (.func 110) #[] #[ar (Z ⟨p5,0,A⟩)]),aj 5 p5,aj 0 q,(1,U O b)]) (λ_=>K nL [U O x.op,U O x.dst,D aka.z,U O aka.n,D A2.z,U O A2.n,U O x.fn,J ea x.args.length ec] 56::mF q pf (J aa an ac) (J ka kn kc) (akd k)::M ma R mc 41 2 ((eF R (nm ν bl P b k)).flatMap dB)::K p5 [J ma R mc] 47::M (Z ⟨vb,vo,A⟩) n c 46 6 (bs.flatMap bm)::M (Z ⟨zb,zo,A⟩) xs.length lc 56 8 ((fF (xL ν bl P b) k xs).flatMap fe)::M ea x.args.length ec 41 2 (x.args.flatMap dB)::(OT++(M qa ps.length qc 49 2 ((ps.mapIdx (Bq ν b)).flatMap cF)::pz (⟨qa,qc,ps,Z ⟨zb,zo,A⟩,lc,xs,kd,on,ta,tc,to⟩:aX)::(ps.map fP++(bs.eraseIdx b).map ck)))) mixed aw ?_ λ_ _=>?_
  ·skip
   refine ag 0 ?_;refine ag 1 ?_;refine ag 4 ?_;refine ag 5 ?_;refine lm 2 6 ai ?_ ?_
   ·skip
    refine fO 2 rfl aw ?_;refine lm 3 6 ai ?_ ?_
    ·skip
     refine lN 3 (us:=[]) (vs:=[au #[D x.a.z,U O x.a.n]]) (xs:=[ar (Z ⟨p5,0,A⟩)]) rfl aw (λw hw=>uO hw (k1:=3) (k2:=2) rfl rfl hR x.a oC) ?_;refine cm 6 ai ?_;refine fO 6 rfl aw ?_;refine lm 7 8 ai ?_ ?_
     ·skip
      refine lN 7 (us:=[]) (vs:=[au #[D x.b.z,U O x.b.n]]) (xs:=[ar (Z ⟨p5,0,A⟩)]) rfl aw (λw hw=>uO hw (k1:=3) (k2:=2) rfl rfl hR x.b NA) ?_;refine cm 8 ai ?_;refine fO 8 rfl aw ?_;rw[<-hA,<-hA2];refine cR 9 ai aw ?_;refine ag 10 ?_;refine cR 11 ai aw ?_;refine eA ai ?_;exact dS () trivial ap aK
     ·skip
      refine fO 8 rfl aw ?_;refine cm 7 ai ?_;refine lN 7 (us:=[]) (vs:=[au #[D x.b.z,U O x.b.n]]) (xs:=[ar (Z ⟨p5,0,A⟩)]) rfl aw (λw hw=>uO hw (k1:=3) (k2:=2) rfl rfl hR x.b NA) ?_;rw[<-hA,<-hA2];refine cR 9 ai aw ?_;refine ag 10 ?_;refine cR 11 ai aw ?_;refine eA ai ?_;exact dS () trivial ap aK
    ·skip
     refine fO 6 rfl aw ?_;refine cm 3 ai ?_;refine lN 3 (us:=[]) (vs:=[au #[D x.a.z,U O x.a.n]]) (xs:=[ar (Z ⟨p5,0,A⟩)]) rfl aw (λw hw=>uO hw (k1:=3) (k2:=2) rfl rfl hR x.a oC) ?_;refine lm 7 8 ai ?_ ?_
     ·skip
      refine lN 7 (us:=[]) (vs:=[au #[D x.b.z,U O x.b.n]]) (xs:=[ar (Z ⟨p5,0,A⟩)]) rfl aw (λw hw=>uO hw (k1:=3) (k2:=2) rfl rfl hR x.b NA) ?_;refine cm 8 ai ?_;refine fO 8 rfl aw ?_;rw[<-hA,<-hA2];refine cR 9 ai aw ?_;refine ag 10 ?_;refine cR 11 ai aw ?_;refine eA ai ?_;exact dS () trivial ap aK
     ·skip
      refine fO 8 rfl aw ?_;refine cm 7 ai ?_;refine lN 7 (us:=[]) (vs:=[au #[D x.b.z,U O x.b.n]]) (xs:=[ar (Z ⟨p5,0,A⟩)]) rfl aw (λw hw=>uO hw (k1:=3) (k2:=2) rfl rfl hR x.b NA) ?_;rw[<-hA,<-hA2];refine cR 9 ai aw ?_;refine ag 10 ?_;refine cR 11 ai aw ?_;refine eA ai ?_;exact dS () trivial ap aK
   ·skip
    refine fO 6 rfl aw ?_;refine cm 2 ai ?_;refine fO 2 rfl aw ?_;refine cm 3 ai ?_;refine lN 3 (us:=[]) (vs:=[au #[D x.a.z,U O x.a.n]]) (xs:=[ar (Z ⟨p5,0,A⟩)]) rfl aw (λw hw=>uO hw (k1:=3) (k2:=2) rfl rfl hR x.a oC) ?_;refine lm 7 8 ai ?_ ?_
    ·skip
     refine lN 7 (us:=[]) (vs:=[au #[D x.b.z,U O x.b.n]]) (xs:=[ar (Z ⟨p5,0,A⟩)]) rfl aw (λw hw=>uO hw (k1:=3) (k2:=2) rfl rfl hR x.b NA) ?_;refine cm 8 ai ?_;refine fO 8 rfl aw ?_;rw[<-hA,<-hA2];refine cR 9 ai aw ?_;refine ag 10 ?_;refine cR 11 ai aw ?_;refine eA ai ?_;exact dS () trivial ap aK
    ·skip
     refine fO 8 rfl aw ?_;refine cm 7 ai ?_;refine lN 7 (us:=[]) (vs:=[au #[D x.b.z,U O x.b.n]]) (xs:=[ar (Z ⟨p5,0,A⟩)]) rfl aw (λw hw=>uO hw (k1:=3) (k2:=2) rfl rfl hR x.b NA) ?_;rw[<-hA,<-hA2];refine cR 9 ai aw ?_;refine ag 10 ?_;refine cR 11 ai aw ?_;refine eA ai ?_;exact dS () trivial ap aK
  refine aH ?_;obtain⟨gA,hgA⟩:∃gA:Nat->cg->cg,gA=λ_ v=>k7 ν bl P b k v:=⟨_,rfl⟩;refine bL (λe:Nat=>e<=x.args.length) (λe=>[(85,U O e),(83,J ea x.args.length ec),(84,U O x.args.length),(11,U O k),aj 12 nL,(67,U O k),(65,J (Z ⟨zb,zo,A⟩) xs.length lc),(66,U O xs.length),(7,ar (Z ⟨vb,vo+b*6,A⟩)),(6,.func (.func 110) #[] #[ar (Z ⟨p5,0,A⟩)]),aj 5 p5,aj 0 q,(1,U O b)])
   (λe=>K nL [U O x.op,U O x.dst,D aka.z,U O aka.n,D A2.z,U O A2.n,U O x.fn,J ea x.args.length ec] 56::mF q pf (J aa an ac) (J ka kn kc) (akd k)::M ma R mc 41 2 ((eF R (nm ν bl P b k)).flatMap dB)::K p5 [J ma R mc] 47::M (Z ⟨vb,vo,A⟩) n c 46 6 (bs.flatMap bm)::M (Z ⟨zb,zo,A⟩) xs.length lc 56 8 ((fF (xL ν bl P b) k xs).flatMap fe)::M ea x.args.length ec 41 2 ((fF gA e x.args).flatMap dB)::(OT++(M qa ps.length qc 49 2 ((ps.mapIdx (Bq ν b)).flatMap cF)::pz (⟨qa,qc,ps,Z ⟨zb,zo,A⟩,lc,xs,kd,on,ta,tc,to⟩:aX)::(ps.map fP++(bs.eraseIdx b).map ck)))) (λe=>x.args.length-e) 0 (aT _) (aS ap (by rw[uI];exact ey _)) λe he=>?_
  refine aU ?_;refine aI (λh2=>?_) (λh2=>?_)
  ·have ji:e<x.args.length:=ax h2
   obtain⟨v,hv⟩:=bf x.args e ji;have I2:=zJ (g:=gA) hv;have Jh:=wF (g:=gA) hv;have hle:bY e x.args.length:=⟨ji⟩;refine fL 6 rfl I λyb yo Fz=>?_;subst Fz;have SU:∀Y,gQ (M (Z ⟨yb,yo,A⟩) x.args.length ec 41 2 ((fF gA e x.args).flatMap dB)::Y) yb (yo+e*2) _:=λ_=>jz (k:=0) rfl eZ I2;simp only[dB]at SU
   repeat(first|refine aE ?_|refine dZ λ_ _=>?_)
   rename_i lz _;have hvC:dB (gA e v)=[D (k7 ν bl P b k v).z,U O (k7 ν bl P b k v).n]:=by rw[hgA];rfl
   refine dQ [K lz [D v.z,U O v.n] 41,K nL [U O x.op,U O x.dst,D aka.z,U O aka.n,D A2.z,U O A2.n,U O x.fn,J (Z ⟨yb,yo,A⟩) x.args.length ec] 56] (λ_:Unit=>True) (λ_=>[(85,U O e),(83,J (Z ⟨yb,yo,A⟩) x.args.length ec),(84,U O x.args.length),(11,U O k),aj 12 nL,(67,U O k),(65,J (Z ⟨zb,zo,A⟩) xs.length lc),(66,U O xs.length),(7,ar (Z ⟨vb,vo+b*6,A⟩)),(6,.func (.func 110) #[] #[ar (Z ⟨p5,0,A⟩)]),aj 5 p5,aj 0 q,(1,U O b)]) (λ_=>K nL [U O x.op,U O x.dst,D aka.z,U O aka.n,D A2.z,U O A2.n,U O x.fn,J (Z ⟨yb,yo,A⟩) x.args.length ec] 56::mF q pf (J aa an ac) (J ka kn kc) (akd k)::M ma R mc 41 2 ((eF R (nm ν bl P b k)).flatMap dB)::K p5 [J ma R mc] 47::M (Z ⟨vb,vo,A⟩) n c 46 6 (bs.flatMap bm)::M (Z ⟨zb,zo,A⟩) xs.length lc 56 8 ((fF (xL ν bl P b) k xs).flatMap fe)::M (Z ⟨yb,yo,A⟩) x.args.length ec 41 2 ((fF gA (e+1) x.args).flatMap dB)::(OT++(M qa ps.length qc 49 2 ((ps.mapIdx (Bq ν b)).flatMap cF)::pz (⟨qa,qc,ps,Z ⟨zb,zo,A⟩,lc,xs,kd,on,ta,tc,to⟩:aX)::(ps.map fP++(bs.eraseIdx b).map ck)))) mixed aw ?_ λ_ _=>?_
   ·skip
    refine ag 0 ?_;refine ag 1 ?_;refine ag 2 ?_;refine ag 3 ?_;refine ag 4 ?_;refine cm 5 ai (lN 5 (us:=[]) (vs:=[au #[D v.z,U O v.n]]) (xs:=[ar (Z ⟨p5,0,A⟩)]) rfl aw (λw hw=>uO hw (k1:=4) (k2:=3) rfl rfl hR v (hvv v (aq hv))) ?_);refine ag 6 ?_;refine cm 7 ai (qT 7 7 (j:=e*2) rfl rfl (by rw[cj eZ,l6];omega) aw ?_);refine eA ai ?_;simp only[cG,bW];rw[<-hvC,jP eZ (by rw[l6];exact ji),Jh];exact dS () trivial ap aw
   refine aH ?_;exact bj (e+1) ji I ap aK
  obtain rfl:x.args.length=e:=by have:=of_decide_eq_false h2;omega
  have cU:fF gA x.args.length x.args=x.args.map (k7 ν bl P b k):=by
   rw[tG,hgA];apply ci;intro i;rw[cf,aJ]
  rw[cU];refine aE ?_;obtain⟨y,hy⟩:∃y,y=iR ν bl P b k x:=⟨_,rfl⟩;have uf:y.dst=if 0<=x.dst then ν b ((aN bl b).aD.length+k)else x.dst:=by rw[hy];rfl
  have hft:=v8 hx;refine aI (λh6=>?_) (λh6=>?_);have h0d:0<=x.dst:=ax h6;have hdR:=(Tk.dst h0d).2;obtain⟨d,hd⟩:∃d:Nat,x.dst=d:=⟨x.dst.toNat,I⟩;have hM1:akd (k+1)=akd k+1:=by rw[hM];simp only;rw[hft,if_pos h0d];rfl
  rw[if_pos h0d,abj]at uf;have Fy:(eF R (nm ν bl P b k)).set d ⟨true,ν b ((aN bl b).aD.length+k)⟩=eF R (nm ν bl P b (k+1)):=J1 λr hr=>by
   rw[B_ hg c_ Ft (x:=x) (by rw[VG];exact hx),hd]
  rw[abj]at Fy;have mq:((eF R (nm ν bl P b k)).flatMap dB).take (d*2)++[D true,U O ((akd k:Nat):Int)]++((eF R (nm ν bl P b k)).flatMap dB).drop (d*2+2)=(eF R (nm ν bl P b (k+1))).flatMap dB:=by
   rw[show[D true,U O ((akd k:Nat):Int)]=dB ⟨true,akd k⟩from rfl,jP eZ (by rw[gO];omega),Fy]
  refine fL 2 rfl I λyb yo Fz=>?_;have hlR:bY d R:=⟨I⟩;rw[hd]at hdR⊢;rw[Fz];refine aU ?_;refine bi (H1:=[mF q pf (J aa an ac) (J ka kn kc) (akd k)]++(K nL [U O x.op,U O (d:Int),D aka.z,U O aka.n,D A2.z,U O A2.n,U O x.fn,J ea x.args.length ec] 56::M (Z ⟨yb,yo,A⟩) R mc 41 2 ((eF R (nm ν bl P b k)).flatMap dB)::K p5 [J (Z ⟨yb,yo,A⟩) R mc] 47::M (Z ⟨vb,vo,A⟩) n c 46 6 (bs.flatMap bm)::M (Z ⟨zb,zo,A⟩) xs.length lc 56 8 ((fF (xL ν bl P b) k xs).flatMap fe)::M ea x.args.length ec 41 2 ((x.args.map (k7 ν bl P b k)).flatMap dB)::(OT++(M qa ps.length qc 49 2 ((ps.mapIdx (Bq ν b)).flatMap cF)::pz (⟨qa,qc,ps,Z ⟨zb,zo,A⟩,lc,xs,kd,on,ta,tc,to⟩:aX)::(ps.map fP++(bs.eraseIdx b).map ck))))) (List.Perm.swap _ _ _) ?_;refine fK (val:=λ_:Unit=>.agg #[D true,U O ((akd k:Nat):Int)]) (akg:=λ_=>[mF q pf (J aa an ac) (J ka kn kc) (akd k+1)]) (φ:=λ_=>True) rfl (λw hw=>Iz q pf _ _ (akd k) (by have:=acW k;omega) w hw.pre) λ_ _=>?_;simp only[aW,aO]
  repeat(first|refine aE ?_|refine dZ λ_ _=>?_)
  refine kZ 3 (j:=d*2) rfl rfl (by rw[cj eZ,gO];omega) ?_;simp only[cG,bW];rw[mq];refine aE ?_;rename_i Z2 _;rw[<-Fz];refine jQ (L':=[(11,U O k),aj 12 nL,(67,U O k),(65,J (Z ⟨zb,zo,A⟩) xs.length lc),(66,U O xs.length),(7,ar (Z ⟨vb,vo+b*6,A⟩)),(6,.func (.func 110) #[] #[ar (Z ⟨p5,0,A⟩)]),aj 5 p5,aj 0 q,(1,U O b)]) ap (.refl _) ?_;refine oU (H':=K nL [U O x.op,U O y.dst,D aka.z,U O aka.n,D A2.z,U O A2.n,U O x.fn,J ea x.args.length ec] 56::mF q pf (J aa an ac) (J ka kn kc) (akd (k+1))::M ma R mc 41 2 ((eF R (nm ν bl P b (k+1))).flatMap dB)::K p5 [J ma R mc] 47::M (Z ⟨vb,vo,A⟩) n c 46 6 (bs.flatMap bm)::M (Z ⟨zb,zo,A⟩) xs.length lc 56 8 ((fF (xL ν bl P b) k xs).flatMap fe)::M ea x.args.length ec 41 2 ((x.args.map (k7 ν bl P b k)).flatMap dB)::(OT++(M qa ps.length qc 49 2 ((ps.mapIdx (Bq ν b)).flatMap cF)::pz (⟨qa,qc,ps,Z ⟨zb,zo,A⟩,lc,xs,kd,on,ta,tc,to⟩:aX)::(ps.map fP++(bs.eraseIdx b).map ck)))) (λw hw=>?_) ?_
  ·rw[hM1,uf]
   refine hw.pick ⟨[K Z2 [D true,U O ((akd k:Nat):Int)] 41],aP.2 λe=>?_⟩;simp only[bC,br,cq];omega
  rotate_left;have h0d:¬0<=x.dst:=ax h6;have hM1:akd (k+1)=akd k:=by rw[hM];simp only;rw[hft,if_neg h0d];rfl
  rw[if_neg h0d]at uf;have Fy:eF R (nm ν bl P b k)=eF R (nm ν bl P b (k+1)):=DR λr hr=>by
   rw[B_ hg c_ Ft (x:=x) (by rw[VG];exact hx),if_neg I]
  refine aH ?_;refine jQ (L':=[(11,U O k),aj 12 nL,(67,U O k),(65,J (Z ⟨zb,zo,A⟩) xs.length lc),(66,U O xs.length),(7,ar (Z ⟨vb,vo+b*6,A⟩)),(6,.func (.func 110) #[] #[ar (Z ⟨p5,0,A⟩)]),aj 5 p5,aj 0 q,(1,U O b)]) ap (.refl _) ?_;refine oU (H':=K nL [U O x.op,U O y.dst,D aka.z,U O aka.n,D A2.z,U O A2.n,U O x.fn,J ea x.args.length ec] 56::mF q pf (J aa an ac) (J ka kn kc) (akd (k+1))::M ma R mc 41 2 ((eF R (nm ν bl P b (k+1))).flatMap dB)::K p5 [J ma R mc] 47::M (Z ⟨vb,vo,A⟩) n c 46 6 (bs.flatMap bm)::M (Z ⟨zb,zo,A⟩) xs.length lc 56 8 ((fF (xL ν bl P b) k xs).flatMap fe)::M ea x.args.length ec 41 2 ((x.args.map (k7 ν bl P b k)).flatMap dB)::(OT++(M qa ps.length qc 49 2 ((ps.mapIdx (Bq ν b)).flatMap cF)::pz (⟨qa,qc,ps,Z ⟨zb,zo,A⟩,lc,xs,kd,on,ta,tc,to⟩:aX)::(ps.map fP++(bs.eraseIdx b).map ck)))) (λw hw=>by rw[hM1,uf,<-Fy];exact hw) ?_
  all_goals
   skip
   have gr:[U O x.op,U O y.dst,D aka.z,U O aka.n,D A2.z,U O A2.n,U O x.fn,J ea x.args.length ec]=fe (xL ν bl P b k ⟨x,ea,ec⟩):=by
    rw[hA,hA2,hy];unfold fe xL iR;simp only[aF]
   skip
   refine dQ [K nL [U O x.op,U O y.dst,D aka.z,U O aka.n,D A2.z,U O A2.n,U O x.fn,J ea x.args.length ec] 56,M (Z ⟨vb,vo,A⟩) n c 46 6 (bs.flatMap bm)] (λ_:Unit=>True) (λ_=>[(67,U O k),(65,J (Z ⟨zb,zo,A⟩) xs.length lc),(66,U O xs.length),(7,ar (Z ⟨vb,vo+b*6,A⟩)),(6,.func (.func 110) #[] #[ar (Z ⟨p5,0,A⟩)]),aj 5 p5,aj 0 q,(1,U O b)]) (λ_=>mF q pf (J aa an ac) (J ka kn kc) (akd (k+1))::M ma R mc 41 2 ((eF R (nm ν bl P b (k+1))).flatMap dB)::K p5 [J ma R mc] 47::M (Z ⟨vb,vo,A⟩) n c 46 6 (bs.flatMap bm)::M (Z ⟨zb,zo,A⟩) xs.length lc 56 8 ((fF (xL ν bl P b) (k+1) xs).flatMap fe)::M ea x.args.length ec 41 2 ((x.args.map (k7 ν bl P b k)).flatMap dB)::(OT++(M qa ps.length qc 49 2 ((ps.mapIdx (Bq ν b)).flatMap cF)::pz (⟨qa,qc,ps,Z ⟨zb,zo,A⟩,lc,xs,kd,on,ta,tc,to⟩:aX)::(ps.map fP++(bs.eraseIdx b).map ck)))) mixed aw ?_ λ_ _=>?_
   ·skip
    refine ag 0 ?_;refine ag 1 ?_;refine ag 2 ?_;refine ag 3 ?_;refine ag 4 ?_;refine ag 5 ?_;refine ag 6 ?_;refine cm 7 ai (qT 7 5 (j:=k*8) rfl rfl (by rw[cj jW,l6];omega) aw ?_);refine eA ai ?_;simp only[cG,bW];rw[gr,jP jW (by rw[l6];exact u2),rS];exact dS () trivial ap aw
   refine aH ?_;refine bi (H1:=mF q pf (J aa an ac) (J ka kn kc) (akd (k+1))::M ma R mc 41 2 ((eF R (nm ν bl P b (k+1))).flatMap dB)::K p5 [J ma R mc] 47::M (Z ⟨vb,vo,A⟩) n c 46 6 (bs.flatMap bm)::M (Z ⟨zb,zo,A⟩) xs.length lc 56 8 ((fF (xL ν bl P b) (k+1) xs).flatMap fe)::((fF (xL ν bl P b) (k+1) xs).map j1++(M qa ps.length qc 49 2 ((ps.mapIdx (Bq ν b)).flatMap cF)::pz (⟨qa,qc,ps,Z ⟨zb,zo,A⟩,lc,xs,kd,on,ta,tc,to⟩:aX)::(ps.map fP++(bs.eraseIdx b).map ck)))) (aP.2 λe=>?_) ?_
   ·have h7:(fF (xL ν bl P b) (k+1) xs)[k]?=Z (xL ν bl P b k ⟨x,ea,ec⟩):=by rw[pD hu,if_pos I]
    have h3:=aP.1 (jl j1 h7) e;have h8:(fF (xL ν bl P b) (k+1) xs).eraseIdx k=(fF (xL ν bl P b) k xs).eraseIdx k:=by rw[<-rS,qA]
    have h4:j1 (xL ν bl P b k ⟨x,ea,ec⟩)=M ea x.args.length ec 41 2 ((x.args.map (k7 ν bl P b k)).flatMap dB):=by unfold j1 xL iR;simp only[aF]
    rw[h8,<-hOT,h4]at h3;simp only[bC,br]at h3⊢;omega
   exact bj (k+1) u2 I ap aK
 obtain rfl:xs.length=k:=by have:=of_decide_eq_false h1;omega
 rw[tG];have ajq:∀Y,gQ (M (Z ⟨vb,vo,A⟩) n c 46 6 (bs.flatMap bm)::Y) vb (vo+b*6+3) [D on.z,U O on.n]:=λ_=>⟨λ_ _ w hw j v hj=>by
  have h3:=hw.cL (k:=0) rfl (jd (3+j) v (by match j,hj with|0,hj=>exact hj|1,hj=>exact hj));rwa[show vo+(b*6+(3+j))=vo+b*6+3+j by omega]at h3⟩
 refine aE ?_;obtain⟨aj6,hO⟩:∃aj6,aj6=k7 ν bl P b xs.length on:=⟨_,rfl⟩;refine lH (us:=[]) (vs:=[au #[D on.z,U O on.n]]) (xs:=[ar (Z ⟨p5,0,A⟩)]) rfl (λw hw=>uO hw (k1:=2) (k2:=1) rfl rfl hR on (by rw[abm];exact IK.on)) ?_;rw[<-hO];refine aU ?_;obtain⟨T',Pa⟩:∃T',T'=J0 ν bl P b (⟨qa,qc,ps,la,lc,xs,kd,on,ta,tc,to⟩:aX):=⟨_,rfl⟩;have hxB:xs.length=(aN bl b).list.length:=by rw[Xw,VG]
 have acZ:((bm (⟨qa,qc,ps,la,lc,xs,kd,on,ta,tc,to⟩:aX)).set 3 (D aj6.z)).set 4 (U O aj6.n)=bm T':=by
  rw[Pa,hO,hxB];unfold J0 bm;simp only[iW,cG,bW]
 have mq:(bs.flatMap bm).take (b*6+3)++[D aj6.z,U O aj6.n]++(bs.flatMap bm).drop (b*6+3+2)=(bs.set b T').flatMap bm:=by
  rw[Ol (by rw[cj dX];omega)];have h3:=gN dX hT (k:=3) (v:=.bool aj6.z) I (y:=(⟨qa,qc,ps,la,lc,xs,kd,⟨aj6.z,on.n⟩,ta,tc,to⟩:aX)) rfl;have h4:=gN dX (l:=bs.set b (⟨qa,qc,ps,la,lc,xs,kd,⟨aj6.z,on.n⟩,ta,tc,to⟩:aX)) (i:=b) (k:=4) (v:=.int O aj6.n) (eK I) I (y:=T') (by rw[<-acZ];rfl);rw[h3,dI,h4,List.set_set]
 refine kZ 3 (j:=b*6+3) rfl I (by rw[cj dX];omega) ?_;simp only[cG,bW];rw[mq];have ajr:∀Y,fy (M (Z ⟨vb,vo,A⟩) n c 46 6 ((bs.set b T').flatMap bm)::Y) vb (vo+b*6+5) (J ta to.length tc):=λ_=>⟨λ_ _ _ hw=>by
  have h3:=hw.cL (k:=0) rfl (fB dX (bs.set b T') b T' 5 (J ta to.length tc) (eK I) (by rw[<-acZ];rfl));rw[<-dI]at h3;exact h3⟩
 refine aH ?_;obtain⟨kb,GK⟩:∃kb,kb=xs.length:=⟨_,rfl⟩;have hMx:akd xs.length=P+gg bl (ake++[b]):=by
  rw[CA,Il,VG,hM,Xw];simp only[cQ];unfold sx;omega
 refine oU (H':=[mF q pf (J aa an ac) (J ka kn kc) (P+gg bl (ake++[b])),M ma R mc 41 2 ((eF R (nm ν bl P b kb)).flatMap dB),K p5 [J ma R mc] 47]++fS (Z ⟨vb,vo,A⟩) c (bs.set b T')) (λw hw=>?_) ?_
 ·rw[hMx,<-GK]at hw
  have h4:Wd S wz ([mF q pf (J aa an ac) (J ka kn kc) (P+gg bl (ake++[b])),M ma R mc 41 2 ((eF R (nm ν bl P b kb)).flatMap dB),K p5 [J ma R mc] 47]++(M (Z ⟨vb,vo,A⟩) bs.length c 46 6 ((bs.set b T').flatMap bm)::(jM T'++(bs.eraseIdx b).map ck))) w:=by
   have e1:jM T'=M qa ps.length qc 49 2 ((ps.mapIdx (Bq ν b)).flatMap cF)::M la xs.length lc 56 8 ((xs.mapIdx (xL ν bl P b)).flatMap fe)::pz (⟨qa,qc,ps,la,lc,xs,kd,on,ta,tc,to⟩:aX)::(ps.map fP++(xs.mapIdx (xL ν bl P b)).map j1):=by
    rw[Pa];unfold jM J0 pz;simp only[iW];rw[Bn (g:=Bq ν b) fP (λ_ _=>rfl)]
   rw[e1,IV,GK];rw[GK]at hw;refine hw.perm (aP.2 λe=>?_);simp only[bC,br,cq];omega
  exact Vz hT h4
 have Xy:(bs.set b T').map aX.eR=Ex ν bl P (oD bl ake b (to.take 0)):=by
  rw[eM,Zi];exact OA hB (by rw[Pa];exact UP hB hbV Zb) λc akf hc=>P2 hc akf
 have aeH:∀Q∈bs.set b T',Q.Bd:=λQ hQ=>by
  rcases kE hQ with hQ|rfl
  ·exact r5 Q hQ
  ·rw[Pa]
   refine⟨Bh.kind,EJ b _ on (by rw[abm];exact IK.on) Bh.on,by unfold J0;simp only[iW];exact Bh.aD,λp hp=>?_,by unfold J0;simp only[iW];exact Bh.list,λu hu=>?_,Bh.to⟩
   ·obtain⟨i,hi⟩:=bg hp
    unfold J0 at hi;simp only[cf]at hi;obtain⟨p0,An,rfl⟩:=cA.1 hi;have h5:=Bh.kN p0 (aq An);have h6:ν b i=((P+gg bl ake+i:Nat):Int):=by rw[hnu,VG,N9 (by rw[<-abu];exact(az.1 An).1)]
    refine⟨?_,h5.2⟩;show dk (ν b i);rw[h6];have:=(az.1 An).1;exact⟨I,I⟩
   ·obtain⟨i,hi⟩:=bg hu
    unfold J0 at hi;simp only[cf]at hi;obtain⟨u0,hu0,rfl⟩:=cA.1 hi;obtain⟨⟨g1,g2,g3,g4,g5⟩,g6,g7⟩:=Bh.ins u0 (aq hu0);have qQ:u0.x∈B.list:=by rw[<-W9];exact aV.2 ⟨u0,aq hu0,rfl⟩
    have Tk:=IK.list u0.x qQ;refine⟨⟨g1,?_,EJ _ _ _ Tk.a g3,EJ _ _ _ Tk.b g4,g5⟩,by unfold xL iR;simp only[aF];exact g6,λv hv=>?_⟩
    ·show dk (if 0<=u0.x.dst then ν b ((aN bl b).aD.length+i)else u0.x.dst)
     split
     ·rw[abj]
      have:=acW i;exact⟨I,I⟩
     ·exact g2
    ·unfold xL iR at hv
     simp only at hv;obtain⟨v0,vy,rfl⟩:=aV.1 hv;exact EJ _ _ _ (Tk.args v0 vy) (g7 v0 vy)
 have aeI:∃Q,(bs.set b T')[b]?=Z Q/\Q.ta=ta/\Q.tc=tc/\Q.to=to:=⟨T',eK I,by rw[Pa];exact⟨rfl,rfl,rfl⟩⟩;have ajR:to.length<=1000:=Bh.to.1;refine bL (λx:Nat×List aX=>x.1<=to.length/\x.2.map aX.eR=Ex ν bl P (oD bl ake b (to.take x.1))/\(∀Q∈x.2,Q.Bd)/\∃Q,x.2[b]?=Z Q/\Q.ta=ta/\Q.tc=tc/\Q.to=to) (λx=>[(136,U O x.1),(134,J ta to.length tc),(135,U O to.length),(7,ar (Z ⟨vb,vo+b*6,A⟩)),(6,.func (.func 110) #[] #[ar (Z ⟨p5,0,A⟩)]),aj 5 p5,aj 0 q,(1,U O b)]) (λx=>[mF q pf (J aa an ac) (J ka kn kc) (P+gg bl (ake++[b])),M ma R mc 41 2 ((eF R (nm ν bl P b kb)).flatMap dB),K p5 [J ma R mc] 47]++fS (Z ⟨vb,vo,A⟩) c x.2) (λx=>to.length-x.1) (0,bs.set b T') ⟨aT _,Xy,aeH,aeI⟩ (aS ap aK) λx ⟨hj,xK,uf,hyr⟩=>?_;clear Xy aeH aeI mq;obtain⟨j,ys⟩:=x;simp only at hj xK uf hyr⊢;have LI:ys.length=n:=by
  have h3:=congrArg List.length xK;rw[aF,zL]at h3;omega
 refine aU ?_;refine aI (λh1=>?_) (λh1=>?_)
 ·have jw:j<to.length:=ax h1
  obtain⟨t0,Ks⟩:∃t,to[j]?=Z t:=⟨_,a_ jw⟩;have aeu:=aq Ks;obtain⟨ht1,LD⟩:=(hg B (aq hB)).2 t0 (by rw[<-LG];exact aeu);obtain⟨t,rfl⟩:∃t:Nat,t0=t:=⟨t0.toNat,I⟩;have uW:t<bl.length:=I;have Dl:to.take (j+1)=to.take j++[(t:Int)]:=by rw[cz,Ks];rfl
  have ZE:(t:Int)∉to.take j:=λh=>by
   have h3:(to.take j++[(t:Int)]).Nodup:=by rw[<-Dl,LG];exact Ld.to.sublist (List.take_sublist _ _)
   exact(pI.1 h3).2.2 _ h _ aC rfl
  obtain⟨akh,hC⟩:=bf bl t uW;have hbt:b∈aZ bl t:=by
   unfold aZ;rw[cC,decide_eq_true_eq,fY hB,<-LG];exact⟨cM.2 hb,aeu⟩
  obtain⟨akc,hKD⟩:∃akc,akc=(aZ bl t).idxOf b:=⟨_,rfl⟩;have hKl:akc<(aZ bl t).length:=by rw[hKD];exact ju hbt
  have hK:(aZ bl t)[akc]?=Z b:=by rw[a_ hKl];simp only[hKD];rw[mN]
  have hKu:∀j',(aZ bl t)[j']?=Z b->j'=akc:=λj' h=>by
   have Fs:(aZ bl t).Nodup:=List.nodup_range.filter _;have h3:=(az.1 h);have h4:=(az.1 hK);exact(List.getElem_inj Fs).1 (h3.2.trans h4.2.symm)
  obtain⟨Q,hQ,hQa,hQc,hQt⟩:=id hyr;obtain⟨aj7,hU⟩:=bf ys t I;have WR:=uf aj7 (aq hU);have hUB:aj7.eR=rP ν bl P (oD bl ake b (to.take j)) t akh:=by
   have h3:(ys.map aX.eR)[t]?=Z aj7.eR:=by rw[aJ,hU];rfl
   rw[xK,zK hC]at h3;exact(a7 h3).symm
  refine nZ λw4 hw4=>?_;have aba:kg wz (cd (cH [mF q pf (J aa an ac) (J ka kn kc) (P+gg bl (ake++[b])),M ma R mc 41 2 ((eF R (nm ν bl P b kb)).flatMap dB),K p5 [J ma R mc] 47]) w4):=e_.le hw4;have aew:aG (cd (cH [mF q pf (J aa an ac) (J ka kn kc) (P+gg bl (ake++[b])),M ma R mc 41 2 ((eF R (nm ν bl P b kb)).flatMap dB),K p5 [J ma R mc] 47]) w4) (J ta to.length tc) 1 to fI:=by
   have h3:=ae2 hw4.kF (B:=Q) (cO _ (aV.2 ⟨Q,aq hQ,rfl⟩)) (uf Q (aq hQ));rw[hQa,hQc,hQt]at h3;exact h3
  have hcU:bF (cd (cH [mF q pf (J aa an ac) (J ka kn kc) (P+gg bl (ake++[b])),M ma R mc 41 2 ((eF R (nm ν bl P b kb)).flatMap dB),K p5 [J ma R mc] 47]) w4) vb (vo+t*6) (bm aj7):=λj v hj=>by
   have h3:=hw4.kF.cL (k:=0) rfl (fB dX ys t aj7 j v hU hj);rw[<-dI]at h3;exact h3
  have aaH:=Pd.le vH aba;have aa1:=bF.le aba qq;have acy:∀{akg:List bN} {w:C},Wd (cH [mF q pf (J aa an ac) (J ka kn kc) (P+gg bl (ake++[b])),M ma R mc 41 2 ((eF R (nm ν bl P b kb)).flatMap dB),K p5 [J ma R mc] 47]) (cd (cH [mF q pf (J aa an ac) (J ka kn kc) (P+gg bl (ake++[b])),M ma R mc 41 2 ((eF R (nm ν bl P b kb)).flatMap dB),K p5 [J ma R mc] 47]) w4) akg w->Wd S wz (akg++fS (Z ⟨vb,vo,A⟩) c ys) w:=λhw=>hw4.comp hw.nk;have adJ:∀{akg:List bN} {w:C},Wd (cH [mF q pf (J aa an ac) (J ka kn kc) (P+gg bl (ake++[b])),M ma R mc 41 2 ((eF R (nm ν bl P b kb)).flatMap dB),K p5 [J ma R mc] 47]) (cd (cH [mF q pf (J aa an ac) (J ka kn kc) (P+gg bl (ake++[b])),M ma R mc 41 2 ((eF R (nm ν bl P b kb)).flatMap dB),K p5 [J ma R mc] 47]) w4) akg w->kg (cd (cH [mF q pf (J aa an ac) (J ka kn kc) (P+gg bl (ake++[b])),M ma R mc 41 2 ((eF R (nm ν bl P b kb)).flatMap dB),K p5 [J ma R mc] 47]) w4) w:=λhw=>hw.pW;have y6:∀{bb oo:Nat} {v:V} {l:List V},bF (cd (cH [mF q pf (J aa an ac) (J ka kn kc) (P+gg bl (ake++[b])),M ma R mc 41 2 ((eF R (nm ν bl P b kb)).flatMap dB),K p5 [J ma R mc] 47]) w4) bb oo (v::l)->eS (cH [mF q pf (J aa an ac) (J ka kn kc) (P+gg bl (ake++[b])),M ma R mc 41 2 ((eF R (nm ν bl P b kb)).flatMap dB),K p5 [J ma R mc] 47]) bb:=λhc=>iF hc aC;generalize cd (cH [mF q pf (J aa an ac) (J ka kn kc) (P+gg bl (ake++[b])),M ma R mc 41 2 ((eF R (nm ν bl P b kb)).flatMap dB),K p5 [J ma R mc] 47]) w4=wk4 at*;generalize cH [mF q pf (J aa an ac) (J ka kn kc) (P+gg bl (ake++[b])),M ma R mc 41 2 ((eF R (nm ν bl P b kb)).flatMap dB),K p5 [J ma R mc] 47]=S4 at*;obtain⟨IR,_⟩:=aaH.at;have zM:(be bl).length=bl.length:=by unfold be;rw[gv]
  have gr:=gu hg (λb B hB=>(hI.ok.block b B hB).to) uW;obtain⟨b1,o1,IP,Db,wL⟩:=eE aew y6 (λ_ _ h=>⟨_,_,h.1⟩) (aL Ks);obtain⟨_,IZ,rfl,_⟩:=wL j _ Ks;obtain⟨b2,o2,uR,nw,yW⟩:=eE aaH y6 (λ_ _ h=>by obtain⟨_,e,_⟩:=h;exact⟨_,_,e⟩) (aL gr);obtain⟨_,tX,rv,rfl,y7⟩:=yW t _ gr;have ajO:=y7;obtain⟨ra,rn,rc,_,_,rfl,_⟩:=id y7;have adm:a6 wk4 vb (vo+t*6) (bm aj7):=⟨hcU⟩;have ad1:=y6 hcU;simp only[bm]at adm;have adn:a6 wk4 pf 0 [G xn,U O xp,U O xr,J (Z ⟨vb,vo,A⟩) n c]:=⟨aa1⟩;have ad2:=y6 aa1;have agH:bY j to.length:=⟨jw⟩;have ajh:bY t n:=⟨I⟩;have aje:bY t an:=⟨I⟩;unfold mF;refine aH ?_;refine bB rfl (λw hw=>B5 _ (aZ bl t) b w hbt (y7.le lM (adJ hw))) ?_;rw[<-hKD];refine aH ?_;refine mD acy ?_;clear IZ Db wL tX nw yW adm ad1 adn ad2 y6 adJ aew hcU aaH aa1 y7 aba IP uR;obtain⟨va,vc,us,OC,OD,HC,OB,OE,OG,OH,OI⟩:=aj7;have ajU:us.length<=1000:=WR.aD;have hCl:∀p∈akh.aD,akc<p.src.length:=λp hp=>by rw[((hI.ok.block t akh hC).aD p hp).len];exact hKl
  have hwl:us.length=akh.aD.length:=by
   have h8:=congrArg (λx:E=>x.aD.length) hUB;simp only[aX.eR,aF]at h8;rw[h8];show(akh.aD.mapIdx _).length=_;rw[iW]
  have Jc:∀(i:Nat) p,us[i]?=Z p->∃v,p.l[akc]?=Z v/\jb R v:=λi p hp=>by
   obtain⟨cp,HG⟩:∃p,akh.aD[i]?=Z p:=⟨_,a_ (by have:=(az.1 hp).1;omega)⟩;have hpq:(rP ν bl P (oD bl ake b (to.take j)) t akh).aD[i]?=Z p.kN:=by
    rw[<-hUB];show(us.map cW.kN)[i]?=_;rw[aJ,hp]
    rfl
   obtain⟨v,ZU,tI,_,_⟩:=JE HG hbV ZE hK hKu hpq (hCl cp (aq HG));exact⟨v,tI,((hI.z akh (aq hC)).aD cp (aq HG)).2 v (aq ZU)⟩
  refine oU (H':=[mF q pf (J aa an ac) (J ka kn kc) (P+gg bl (ake++[b])),M ma R mc 41 2 ((eF R (nm ν bl P b kb)).flatMap dB),K p5 [J ma R mc] 47]++(M (Z ⟨vb,vo,A⟩) ys.length c 46 6 (ys.flatMap bm)::M va us.length vc 49 2 (us.flatMap cF)::vE (⟨va,vc,us,OC,OD,HC,OB,OE,OG,OH,OI⟩:aX)::pz (⟨va,vc,us,OC,OD,HC,OB,OE,OG,OH,OI⟩:aX)::(us.map fP++(HC.map j1++(ys.eraseIdx t).map ck)))) (λw hw=>Ef hU (X:=[mF q pf (J aa an ac) (J ka kn kc) (P+gg bl (ake++[b])),M ma R mc 41 2 ((eF R (nm ν bl P b kb)).flatMap dB),K p5 [J ma R mc] 47]) hw) ?_;simp only[aW,aO];obtain⟨gE,hgE⟩:∃gE,gE=RD ν bl P b akc:=⟨_,rfl⟩;refine bL (λi:Nat=>i<=us.length) (λi=>[(161,U O i),(159,J va us.length vc),(160,U O us.length),(18,U O akc),(136,U O j),(134,J ta to.length tc),(135,U O to.length),(7,ar (Z ⟨vb,vo+b*6,A⟩)),(6,.func (.func 110) #[] #[ar (Z ⟨p5,0,A⟩)]),aj 5 p5,aj 0 q,(1,U O b)])
   (λi=>mF q pf (J aa an ac) (J ka kn kc) (P+gg bl (ake++[b]))::M ma R mc 41 2 ((eF R (nm ν bl P b kb)).flatMap dB)::K p5 [J ma R mc] 47::M (Z ⟨vb,vo,A⟩) ys.length c 46 6 (ys.flatMap bm)::M va us.length vc 49 2 (us.flatMap cF)::((fF gE i us).map fP++(vE (⟨va,vc,us,OC,OD,HC,OB,OE,OG,OH,OI⟩:aX)::pz (⟨va,vc,us,OC,OD,HC,OB,OE,OG,OH,OI⟩:aX)::(HC.map j1++(ys.eraseIdx t).map ck)))) (λi=>us.length-i) 0 (aT _) (bi (aP.2 λe=>by rw[uI];unfold mF;simp only[bC,br];omega) (aS ap aK)) λi hi=>?_
  refine aU ?_;refine aI (λh2=>?_) (λh2=>?_)
  ·have iJ:i<us.length:=ax h2
   obtain⟨p,hp⟩:=bf us i iJ;have jS:=zJ (g:=gE) hp;have rS:=wF (g:=gE) hp;obtain⟨v,tI,BH⟩:=Jc i p hp;have hpB:=WR.kN p (aq hp);have aa2:gE i p=⟨p.dst,p.a,p.c,p.l.set akc (k7 ν bl P b kb v)⟩:=by
    have h3:p.l.getD akc iu=v:=by
     have h4:p.l[akc]?=Z v:=tI;rw[cB,h4]
     rfl
    rw[hgE];unfold RD;rw[h3,GK,hxB]
   obtain⟨pd,pa,pc,pl⟩:=p;have hv4:pl[akc]?=Z v:=tI;have acR:akc<pl.length:=(az.1 hv4).1;have ajE:pl.length<=1000:=hpB.2.1;simp only at aa2;obtain⟨OT,hOT⟩:∃OT,OT=((fF gE i us).eraseIdx i).map fP:=⟨_,rfl⟩;have lY:bY i us.length:=⟨iJ⟩;have hlK:bY akc pl.length:=⟨acR⟩;refine bi (H1:=mF q pf (J aa an ac) (J ka kn kc) (P+gg bl (ake++[b]))::M ma R mc 41 2 ((eF R (nm ν bl P b kb)).flatMap dB)::K p5 [J ma R mc] 47::M (Z ⟨vb,vo,A⟩) ys.length c 46 6 (ys.flatMap bm)::M va us.length vc 49 2 (us.flatMap cF)::M pa pl.length pc 41 2 (pl.flatMap dB)::(OT++(vE (⟨va,vc,us,OC,OD,HC,OB,OE,OG,OH,OI⟩:aX)::pz (⟨va,vc,us,OC,OD,HC,OB,OE,OG,OH,OI⟩:aX)::(HC.map j1++(ys.eraseIdx t).map ck)))) (aP.2 λe=>?_) ?_
   ·have h3:=aP.1 (jl fP jS) e
    have h4:fP (⟨pd,pa,pc,pl⟩:cW)=M pa pl.length pc 41 2 (pl.flatMap dB):=rfl;rw[<-hOT,h4]at h3;simp only[bC,br]at h3⊢;omega
   refine fL 4 rfl I λzb zo GX=>?_;subst GX;refine fL 5 rfl I λyb yo Fz=>?_;subst Fz;have zN:∀Y,gQ (M (Z ⟨zb,zo,A⟩) us.length vc 49 2 (us.flatMap cF)::Y) zb (zo+i*2) _:=λ_=>jz (k:=0) rfl fV hp;simp only[cF]at zN;have SU:∀Y,gQ (M (Z ⟨yb,yo,A⟩) pl.length pc 41 2 (pl.flatMap dB)::Y) yb (yo+akc*2) _:=λ_=>jz (k:=0) rfl eZ hv4;simp only[dB]at SU
   repeat(first|refine aE ?_|refine dZ λ_ _=>?_)
   rename_i AF _;obtain⟨X,hX⟩:∃X,X=k7 ν bl P b kb v:=⟨_,rfl⟩;rw[<-hX]at aa2;have hXC:dB X=[D X.z,U O X.n]:=rfl;refine dQ [K AF [U O pd,J (Z ⟨yb,yo,A⟩) pl.length pc] 49] (λ_:Unit=>True) (λ_=>[(161,U O i),(159,J (Z ⟨zb,zo,A⟩) us.length vc),(160,U O us.length),(18,U O akc),(136,U O j),(134,J ta to.length tc),(135,U O to.length),(7,ar (Z ⟨vb,vo+b*6,A⟩)),(6,.func (.func 110) #[] #[ar (Z ⟨p5,0,A⟩)]),aj 5 p5,aj 0 q,(1,U O b)]) (λ_=>mF q pf (J aa an ac) (J ka kn kc) (P+gg bl (ake++[b]))::M ma R mc 41 2 ((eF R (nm ν bl P b kb)).flatMap dB)::K p5 [J ma R mc] 47::M (Z ⟨vb,vo,A⟩) ys.length c 46 6 (ys.flatMap bm)::M (Z ⟨zb,zo,A⟩) us.length vc 49 2 (us.flatMap cF)::M (Z ⟨yb,yo,A⟩) pl.length pc 41 2 ((pl.set akc X).flatMap dB)::(OT++(vE (⟨Z ⟨zb,zo,A⟩,vc,us,OC,OD,HC,OB,OE,OG,OH,OI⟩:aX)::pz (⟨Z ⟨zb,zo,A⟩,vc,us,OC,OD,HC,OB,OE,OG,OH,OI⟩:aX)::(HC.map j1++(ys.eraseIdx t).map ck)))) mixed aw ?_ λ_ _=>?_
   ·skip
    refine ag 0 ?_;refine ag 1 ?_;refine ag 2 ?_;refine ag 3 ?_;refine ag 4 ?_;refine ag 5 ?_;refine ag 6 ?_;refine ag 7 ?_;refine cm 8 ai (fO 8 rfl aw ?_);refine cm 9 ai (lN 9 (us:=[]) (vs:=[au #[D v.z,U O v.n]]) (xs:=[ar (Z ⟨p5,0,A⟩)]) rfl aw (λw hw=>uO hw (k1:=3) (k2:=2) rfl rfl hR v BH) ?_);rw[<-hX];refine ag 10 ?_;refine cm 11 ai (qT 11 6 (j:=akc*2) rfl rfl (by rw[cj eZ];omega) aw ?_);refine eA ai ?_;simp only[cG,bW];rw[<-hXC,jP eZ acR];exact dS () trivial ap aw
   refine aH ?_;refine bi (H1:=mF q pf (J aa an ac) (J ka kn kc) (P+gg bl (ake++[b]))::M ma R mc 41 2 ((eF R (nm ν bl P b kb)).flatMap dB)::K p5 [J ma R mc] 47::M (Z ⟨vb,vo,A⟩) ys.length c 46 6 (ys.flatMap bm)::M (Z ⟨zb,zo,A⟩) us.length vc 49 2 (us.flatMap cF)::((fF gE (i+1) us).map fP++(vE (⟨Z ⟨zb,zo,A⟩,vc,us,OC,OD,HC,OB,OE,OG,OH,OI⟩:aX)::pz (⟨Z ⟨zb,zo,A⟩,vc,us,OC,OD,HC,OB,OE,OG,OH,OI⟩:aX)::(HC.map j1++(ys.eraseIdx t).map ck)))) (aP.2 λe=>?_) ?_
   ·have h7:(fF gE (i+1) us)[i]?=Z (gE i ⟨pd,Z ⟨yb,yo,A⟩,pc,pl⟩):=by rw[pD hp,if_pos I]
    have h3:=aP.1 (jl fP h7) e;have h8:(fF gE (i+1) us).eraseIdx i=(fF gE i us).eraseIdx i:=by rw[<-rS,qA]
    have h4:fP (gE i ⟨pd,Z ⟨yb,yo,A⟩,pc,pl⟩)=M (Z ⟨yb,yo,A⟩) pl.length pc 41 2 ((pl.set akc X).flatMap dB):=by rw[aa2];unfold fP;simp only[eL]
    rw[h8,<-hOT,h4]at h3;simp only[bC,br]at h3⊢;omega
   exact bj (i+1) iJ I ap aK
  obtain rfl:us.length=i:=by have:=of_decide_eq_false h2;omega
  rw[tG,hgE];refine aE ?_;have hrE:gX (⟨va,vc,us,OC,OD,HC,OB,OE,OG,OH,OI⟩:aX) (us.mapIdx (RD ν bl P b akc))=Qt ν bl P b akc (⟨va,vc,us,OC,OD,HC,OB,OE,OG,OH,OI⟩:aX):=rfl;refine oU (H':=[mF q pf (J aa an ac) (J ka kn kc) (P+gg bl (ake++[b])),M ma R mc 41 2 ((eF R (nm ν bl P b kb)).flatMap dB),K p5 [J ma R mc] 47]++fS (Z ⟨vb,vo,A⟩) c (ys.set t (Qt ν bl P b akc (⟨va,vc,us,OC,OD,HC,OB,OE,OG,OH,OI⟩:aX)))) (λw hw=>?_) ?_
  ·rw[<-hrE]
   refine YL (X:=[mF q pf (J aa an ac) (J ka kn kc) (P+gg bl (ake++[b])),M ma R mc 41 2 ((eF R (nm ν bl P b kb)).flatMap dB),K p5 [J ma R mc] 47]) (ps:=us.mapIdx (RD ν bl P b akc)) (n:=ys.length) hU rfl (by rw[iW]) ?_;rw[Gw (g:=RD ν bl P b akc) cF (λ_ _=>by unfold RD cF;simp only[eL])];refine hw.perm (aP.2 λe=>?_);simp only[bC,br,cq];omega
  refine bj (j+1,ys.set t (Qt ν bl P b akc (⟨va,vc,us,OC,OD,HC,OB,OE,OG,OH,OI⟩:aX))) ⟨jw,?_,λQ' hQ'=>?_,?_⟩ bK ap aK
  ·simp only
   rw[Dl,eM,xK];exact OA hC (UR hC hbV ZE hK hKu hUB hCl) λc akf hc=>TX hc akf
  ·rcases kE hQ' with hQ'|rfl
   ·exact uf Q' hQ'
   ·refine⟨WR.kind,WR.on,by unfold Qt;simp only[iW];exact WR.aD,λp hp=>?_,WR.list,WR.ins,WR.to⟩
    obtain⟨i,hi⟩:=bg hp;unfold Qt at hi;simp only[cf]at hi;obtain⟨p0,An,rfl⟩:=cA.1 hi;obtain⟨g1,g2,g3⟩:=WR.kN p0 (aq An);refine⟨g1,by unfold RD;simp only[eL];exact g2,λv hv=>?_⟩;rcases kE hv with hv|rfl
    ·exact g3 v hv
    ·obtain⟨v,tI,BH⟩:=Jc i p0 An
     rw[show p0.l.getD akc iu=v by rw[cB,tI];rfl];exact EJ _ _ _ BH (g3 v (aq tI))
  ·by_cases e:b=t
   ·subst e
    rw[hU]at hQ;obtain rfl:=a7 hQ;exact⟨_,eK I,hQa,hQc,hQt⟩
   ·exact⟨Q,by rw[fz (λh=>e h.symm)];exact hQ,hQa,hQc,hQt⟩
 obtain rfl:to.length=j:=by have:=of_decide_eq_false h1;omega
 rw[cQ,LG,XQ hB]at xK;clear hyr;obtain⟨kids,I5⟩:∃kids,kids=oh bl b:=⟨_,rfl⟩;obtain⟨agw,_⟩:=GL.at;have Zx:((List.range bl.length).map λb=>(oh bl b).map λx:Nat=>(x:Int))[b]?=Z (kids.map λx:Nat=>(x:Int)):=by
  rw[aJ,eX hb,I5]
  rfl
 have ZH:∀{bb oo:Nat} {v:V} {l:List V},bF wz bb oo (v::l)->eS S bb:=λhc=>e_.old hc;obtain⟨b2,o2,uR,nw,yW⟩:=eE GL ZH (λ_ _ h=>by obtain⟨_,e,_⟩:=h;exact⟨_,_,e⟩) (aL Zx);obtain⟨_,tX,rv,rfl,y7⟩:=yW b _ Zx;obtain⟨ra,rn,rc,_,_,rfl,yj,_⟩:=id y7;rw[aF]at yj;subst yj;rw[aF,fA]at agw;have ajf:bY b kn:=⟨I⟩;simp only[aW,aO];unfold mF;refine aE ?_;simp only[<-hν]at ih;obtain⟨VJ,hVJ⟩:∃VJ:Nat->List Nat,VJ=λj=>ake++[b]++(kids.take j).flatMap (kA bl f):=⟨_,rfl⟩;have ac0:VJ 0=ake++[b]:=by rw[hVJ];simp
 have afx:VJ kids.length=ake++kA bl (f+1) b:=by rw[hVJ,wP,I5];simp
 rw[<-ac0]at xK;rw[<-ac0];have u2:kids.length<=100:=by
  rw[I5];unfold oh;exact du (jL _ _) (by rw[fA];omega)
 refine bL (λx:Nat×List aX=>x.1<=kids.length/\x.2.map aX.eR=Ex ν bl P (ww bl (VJ x.1))/\∀Q∈x.2,Q.Bd) (λx=>[(186,U O x.1),(184,J ra kids.length rc),(185,U O kids.length),(7,ar (Z ⟨vb,vo+b*6,A⟩)),(6,.func (.func 110) #[] #[ar (Z ⟨p5,0,A⟩)]),aj 5 p5,aj 0 q,(1,U O b)]) (λx=>mF q pf (J aa an ac) (J ka kn kc) (P+gg bl (VJ x.1))::M ma R mc 41 2 ((eF R (nm ν bl P b kb)).flatMap dB)::K p5 [J ma R mc] 47::fS (Z ⟨vb,vo,A⟩) c x.2) (λx=>kids.length-x.1) (0,ys) ⟨aT _,xK,uf⟩ (aS ap (by unfold mF;exact ey _)) λx ⟨hj,GY,Tm⟩=>?_;clear xK uf;obtain⟨j,zs⟩:=x;simp only at hj GY Tm⊢;refine aU ?_;refine aI (λh1=>?_) (λh1=>?_)
 ·have jw:j<kids.length:=ax h1
  obtain⟨y,hy⟩:=bf kids j jw;have hyk:y∈oh bl b:=by rw[<-I5];exact aq hy
  have Zv:=og hyk;have Dm:y<bl.length:=by unfold oh at hyk;exact cM.1 (cC.1 hyk).1
  have hdy:=s9 hg c_ Zv;have hyI:(kids.map λx:Nat=>(x:Int))[j]?=Z (y:Int):=by rw[aJ,hy];rfl
  obtain⟨b3,o3,Li,xg,C3⟩:=eE y7 ZH (λ_ _ h=>⟨_,_,h.1⟩) (aL hyI);obtain⟨_,I0,rfl,_⟩:=C3 j _ hyI;have agH:bY j kids.length:=⟨jw⟩;have hVs:VJ (j+1)=VJ j++kA bl f y:=by
   rw[hVJ];simp only;rw[cz,hy,iD,<-dz];simp
  have ad6:sH bl=VJ j++(kA bl f y++((kids.drop (j+1)).flatMap (kA bl f)++W)):=by
   have h3:kids=kids.take j++y::kids.drop (j+1):=by
    rw[<-(az.1 hy).2,List.getElem_cons_drop,q8]
   have h4:kids.flatMap (kA bl f)=(kids.take j).flatMap (kA bl f)++(kA bl f y++(kids.drop (j+1)).flatMap (kA bl f)):=by
    conv=>lhs;rw[h3]
    rw[iD,gZ]
   rw[Nv,<-I5,h4,hVJ];simp
  refine aH ?_;refine bi (H1:=(mF q pf (J aa an ac) (J ka kn kc) (P+gg bl (VJ j))::fS (Z ⟨vb,vo,A⟩) c zs)++[M ma R mc 41 2 ((eF R (nm ν bl P b kb)).flatMap dB),K p5 [J ma R mc] 47]) (aP.2 λe=>by simp only[bC,br,cq];omega) ?_;refine iX (val:=λ_:List aX=>.tuple #[]) (akg:=λx=>mF q pf (J aa an ac) (J ka kn kc) (P+gg bl (VJ (j+1)))::fS (Z ⟨vb,vo,A⟩) c x) (φ:=λx=>x.map aX.eR=Ex ν bl P (ww bl (VJ (j+1)))/\∀B∈x,B.Bd) e_ rfl (λEU w' od aa9 jg l9=>?_) λx ⟨qQ,hxd⟩=>?_
  ·have agN:aG EU (J ma R mc) 2 (eF R (BT ν bl P y)) mi:=by
    rw[Wq hyk,<-hxB,<-GK];refine jg.oH (k:=0) rfl (by rw[gO]) I λi x hx=>⟨dB x,λj v hj=>fB eZ _ i x j v hx hj,rfl,?_⟩;have hi:i<R:=by have:=(az.1 hx).1;rwa[gO]at this
    rw[vN hi]at hx;rw[<-a7 hx];have h3:=EJ b kb ⟨true,(i:Int)⟩ (λ_=>⟨by simp only;omega,by simp only;omega⟩) ⟨by simp only;omega,by simp only;omega⟩;exact h3
   have h5:=ih y (VJ j) ((kids.drop (j+1)).flatMap (kA bl f)++W) zs ma R mc (cH (mF q pf (J aa an ac) (J ka kn kc) (P+gg bl (VJ j))::fS (Z ⟨vb,vo,A⟩) c zs)) EU w' (by unfold CH at hfd⊢;omega) Dm ad6 GY Tm od (bF.le aa9 qq) (Pd.le vH aa9) (GL.le vH aa9) agN l9;rw[<-hVs]at h5;exact h5
  refine bi (H1:=mF q pf (J aa an ac) (J ka kn kc) (P+gg bl (VJ (j+1)))::M ma R mc 41 2 ((eF R (nm ν bl P b kb)).flatMap dB)::K p5 [J ma R mc] 47::fS (Z ⟨vb,vo,A⟩) c x) (aP.2 λe=>by simp only[bC,br,cq];omega) ?_;refine aH ?_;exact bj (j+1,x) ⟨jw,qQ,hxd⟩ bK ap aK
 obtain rfl:kids.length=j:=by have:=of_decide_eq_false h1;omega
 rw[afx]at GY⊢;refine aE ?_;exact sC rfl λw hw=>⟨zs,rfl,hw.sub (dM (.cons _ (.cons _ (.refl _)))),GY,Tm⟩
section
theorem F4:∀{l:List Nat} {c:Nat},(∀x∈l,x<=c)->l.sum<=l.length*c
 |[],c,_=>by simp
 |x::l,c,h=>by
  have h1:=h x aC;have h2:=F4 (l:=l) (c:=c) λy hy=>h y (cO _ hy);rw[eT,gk,Nat.succ_mul];omega
theorem DD:∀{l m:List Nat},l.Nodup->(∀x∈l,x∈m)->l.length<=m.length
 |[],m,_,_=>aT _
 |x::l,m,hn,hs=>by
  obtain⟨h1,h2⟩:=mO.1 hn;have hx:=hs x aC;have ih:=DD (l:=l) (m:=m.erase x) h2 λy hy=>by
   have eQ:y≠x:=λe=>h1 (e▸hy);exact(List.mem_erase_of_ne eQ).2 (hs y (cO _ hy))
  rw[List.length_erase_of_mem hx]at ih;have:=List.length_pos_of_mem hx;rw[gk];omega
section
variable {X:aY} {R:Nat}
theorem U_(h:mg X R)(hm:eB X.blocks<=300):∀b,sx (aN (cw X) b)<=1000:=λb=>by
 by_cases hb:b<X.blocks.length
 ·obtain⟨B,hB⟩:=bf X.blocks b hb
  have h1:B.aD.length+B.list.length<=eB X.blocks:=by
   unfold eB;exact xO (aV.2 ⟨B,aq hB,rfl⟩)
  rw[ux h.all,bQ (gG hB)];unfold sx;simp only[bX];have h2:(dg X.blocks R b).length<=R:=by
   unfold dg;rw[aF];exact du (jL _ _) (by rw[fA];exact bG _)
  have h3:=jL ET B.list;have h4:=h.all.le;omega
 ·have h1:(cw X)[b]?=A:=bO (by rw[(fW h.all).2.2.2];omega)
  unfold aN;rw[h1];show sx px<=1000
  decide
theorem AJ(h:mg X R)(hl:X.blocks.length<=40)(hm:eB X.blocks<=300):qw (cw X) X.params.toNat<=50000:=by
 obtain⟨hg,c_,ii,hlen⟩:=fW h.all;have h1:(sH (cw X)).length<=(cw X).length:=by
  have h2:(sH (cw X)).Nodup:=wB .refl;have h3:=DD h2 (m:=List.range (cw X).length) λx hx=>cM.2 (hg.zQ c_ (wA .refl hx).2.1);rw[fA]at h3;exact h3
 have h4:=F4 (l:=(sH (cw X)).map λb=>sx (aN (cw X) b)) (c:=1000) λx hx=>by
  obtain⟨b,_,rfl⟩:=aV.1 hx;exact U_ h hm b
 rw[aF]at h4;have h5:=h.all.par;have h6:=h.all.le;unfold qw;have h7:(sH (cw X)).length*1000<=40*1000:=q_ _ I;omega
theorem ae3(h:mg X R){fs:List aY}(hb:sm fs X)(hl:X.blocks.length<=40)(hm:eB X.blocks<=300):acw (cw X) R X.params.toNat:=by
 obtain⟨hg,c_,ii,hlen⟩:=fW h.all;have hM:=AJ h hl hm;have hr:((eJ X).aB:Int)=(qw (cw X) X.params.toNat:Nat):=rfl;refine⟨by rw[ux h.all];exact qJ h.all.ok (bG _),c_,I,k8 h,vU h hb,by have:=h.all.le;omega,by unfold gg;unfold qw at hM;omega,λb i v hv hn=>?_⟩;have h1:=uq (ν:=mT (cw X) X.params.toNat) (bl:=cw X) (n:=X.params.toNat) (b:=b) (i:=i) (v:=v) λhr=>(hv hr).1
 by_cases VT:(k7 (mT (cw X) X.params.toNat) (cw X) X.params.toNat b i v).z=true
 ·have:=AK h _ (h1 VT)
  exact⟨I,I⟩
 ·have VU:(k7 (mT (cw X) X.params.toNat) (cw X) X.params.toNat b i v).z=false:=ax VT
  unfold k7 at VU⊢
  split
  ·rename_i h3
   rw[if_pos h3]at VU;rw[show nm (mT (cw X) X.params.toNat) (cw X) X.params.toNat b i v.n=iu from Me _ _ _ VU];exact⟨by simp[iu],by simp[iu]⟩
  ·exact hn
theorem Yx(h:mg X R){fs:List aY}(hb:sm fs X)(h0:(aN X.blocks 0).aD=[])(hl:X.blocks.length<=40)(hm:eB X.blocks<=300):Rk (eJ X) (qw (cw X) X.params.toNat):=by
 have hM:=AJ h hl hm;have hB:=DZ h hb h0;obtain⟨hg,c_,ii,hlen⟩:=fW h.all;refine⟨rfl,I,yM rfl (v7.2 hB),by show 0<(ms _ _ _).length;rw[fq];exact c_,?_,λB Lc x hx=>?_⟩
 ·have h1:=(qk h).par
  exact h1
 ·obtain⟨b,xd⟩:=bg Lc
  exact⟨fs,hB.list b B xd x hx⟩
theorem acj(h:mg X R){ake:List Nat}(hV:ake=sH (cw X))(ν:Nat->Nat->Int)(n:Nat):Ex ν (cw X) n (ww (cw X) ake)=ms ν (cw X) n:=by
 obtain⟨hg,c_,ii,hlen⟩:=fW h.all;have hm:∀c,c<(cw X).length->c∈ake:=λc hc=>by rw[hV];exact N0 hg c_ (k8 h c hc)
 have W4:fu R (cw X):=by rw[ux h.all];exact qJ h.all.ok (bG _)
 refine YM (λc i B hB _=>hm c (az.1 hB).1) (λc i j B p hB hp hj=>?_) (λc k B hB _=>hm c (az.1 hB).1) λc B hB=>hm c (az.1 hB).1;have h1:=((W4.block c B hB).aD p (aq hp)).len;have h2:j<(aZ (cw X) c).length:=I;refine⟨(aZ (cw X) c)[j],a_ h2,hm _ ?_⟩;have h3:=j9 h2;unfold aZ at h3;exact cM.1 (cC.1 h3).1
end
noncomputable def vD(bl:List E)(i:Nat):List (List Int):=(List.range bl.length).map λb=>((List.range i).filter λc=>decide (cS bl c=((b:Nat):Int))).map λx:Nat=>(x:Int)
theorem LV(bl:List E):vD bl 0=List.replicate bl.length []:=by
 unfold vD;apply ci;intro i
 by_cases h:i<bl.length
 ·rw[aJ,eX h,g_,if_pos h];rfl
 ·rw[bO dp,bO dp]
theorem PQ(bl:List E):vD bl bl.length=(List.range bl.length).map λb=>(oh bl b).map λx:Nat=>(x:Int):=rfl
theorem TD{bl:List E}{i:Nat}(h:cS bl i<0):vD bl (i+1)=vD bl i:=by
 unfold vD;refine dD λb _=>?_;rw[kU,nU];have:([i].filter λc=>decide (cS bl c=((b:Nat):Int)))=[]:=by
  simp only[List.filter_cons,decide_eq_false (show¬cS bl i=((b:Nat):Int) by omega)]
  rfl
 rw[this,cD]
theorem TE{bl:List E}{i t:Nat}(h:cS bl i=(t:Int)):vD bl (i+1)=(vD bl i).modify t (·++[(i:Int)]):=by
 unfold vD;apply ci;intro b;rw[mM,aJ,aJ]
 by_cases hb:b<bl.length
 ·rw[eX hb]
  simp only[bu,Option.map_eq_map];congr 1;rw[kU,nU,bz]
  by_cases e:t=b
  ·subst e
   rw[if_pos rfl];congr 1;rw[List.filter_cons,decide_eq_true h]
   rfl
  ·rw[if_neg e]
   have:([i].filter λc=>decide (cS bl c=((b:Nat):Int)))=[]:=by
    simp only[List.filter_cons,decide_eq_false (show¬cS bl i=((b:Nat):Int) by omega)]
    rfl
   rw[this];simp
 ·rw[bO dp];rfl
end
end
end Go.Proofs.YthfhgolkafpmnaaGreatDoor
