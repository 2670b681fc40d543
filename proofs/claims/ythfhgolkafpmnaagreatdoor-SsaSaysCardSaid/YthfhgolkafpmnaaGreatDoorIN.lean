/- Lemmas. -/
import Derived.Test.YthfhgolkafpmnaaGreatDoorIJ
namespace Go.Proofs.YthfhgolkafpmnaaGreatDoor
open Go.Value renaming int->J,slice->I,pointer->aO,string->aQ,bool->ag,agg->aC
open Go.IntKind renaming i64->Z
open Option renaming some->O,none->U
open Go renaming Value->K,World->ae
open Go.Proofs.Tryz
open Go.Proofs.Tryz renaming prog->Y
open Go Go.RowKit
variable {r:aK} {X:bZ} {u:dk} {bl:List aq} {b k t:Nat} {S:Nat->Prop} {w w0:ae}
section
set_option maxHeartbeats 8000000
attribute [local irreducible] wpListIn Code.wpIn Exit.then Exit.inBlock bodyPost wpQuiet wpAnyIn wpAnyH bodyPostM md
def cd(r:aK):cq:=cq.join (BF r::r.ps.map dZ)
structure GF(bl:List aq)(bs:List aK)(b t:Nat)(eE:List Int)(rs:List aK):Prop where
 len:rs.length=bs.length
 at':∀(x:Nat) r0 r,bs[x]?=O r0->rs[x]?=O r->r=jf r0 r.ps/\r.ps.length=r0.ps.length/\r.Bd/\r.ps.map ch.iN=if (x:Int)∈eE then r0.ps.map (λq=>BR bl b t x q.iN)else r0.ps.map ch.iN
theorem GF.step{bs rs:List aK}{i d:Nat}{eE:List Int}{es:List ch}(h:GF bl bs b t (eE.take i) rs)(hd:eE[i]?=O (d:Int))(XA:(d:Int)∉eE.take i)(hr:rs[d]?=O r)(h1:es.length=r.ps.length)(h2:es.map ch.iN=r.ps.map (λq=>BR bl b t d q.iN))(h3:(jf r es).Bd):GF bl bs b t (eE.take (i+1)) (rs.set d (jf r es)):=by
 have YK:=(aJ.1 hr).1;refine⟨by rw[fK];exact h.len,λx r0 r' hx IM=>?_⟩;rw[bV,hd]
 by_cases e:d=x
 ·subst e
  rw[fk YK]at IM;obtain rfl:=bJ IM;obtain⟨g1,g2,_,g4⟩:=h.at' d r0 r hx hr;rw[ai XA]at g4;refine⟨?_,by unfold jf;simp only;omega,h3,?_⟩
  ·conv=>lhs;rw[g1]
   rfl
  ·rw[al cK]
   show es.map ch.iN=_;rw[h2];have e3:∀l:List ch,l.map (λq=>BR bl b t d q.iN)=(l.map ch.iN).map (BR bl b t d):=λl=>by rw[dM];rfl
   rw[e3,e3,g4]
 ·rw[fY e]at IM
  obtain⟨g1,g2,g3,g4⟩:=h.at' x r0 r' hx IM;refine⟨g1,g2,g3,?_⟩;rw[g4];have hm:((x:Int)∈eE.take i++(O (d:Int)).toList)↔(x:Int)∈eE.take i:=by
   rw[bO];simp only[jk,bQ];constructor
   ·rintro(h|h)
    ·exact h
    ·omega
   ·exact .inl
  by_cases e2:(x:Int)∈eE.take i
  ·rw[al e2,al (hm.2 e2)]
  ·rw[ai e2,ai λh=>e2 (hm.1 h)]
theorem Py:∀p v,(cC S w).cell? p=O v->w.cell? p=O v:=λp v hc=>by
 rw[<-hc];exact World.cell?_of_block (kL w (oZ hc).1).symm
theorem Wd.Rn{H1 H2:List cq}(h:Wd S w0 (H1++H2) w):∀p v,(cC S w0).cell? p=O v->(cC (df H1) w).cell? p=O v:=λp v hc=>by
 have ce:=jC _ p hc;rw[ml]at ce;have YW:=(oZ hc).1;have hn:¬df H1 p.block:=λ⟨e,he,hb⟩=>by
  have:=(h.own e (cM _ he) _ hb).1;exact this.elim YW λh=>A
 rw[<-hc];refine World.cell?_of_block ?_;rw[kL w hn,kL w0 YW];exact h.c_.block _ ce YW
theorem WG(nm:ByteArray)(pa re:Int)(vb vo c p:Nat)(bs:List aK)(R b t:Nat)(T:aK)(hT:bs[t]?=O T)(hb:b<bs.length)(hbt:b≠t)(hlen:bs.length<=100)(hf:eW R (bs.map aK.dD))(oF:∀r∈bs,r.Bd)(w0:ae)
  (hW:Wd (df (bs.map cd)) w0 (bs.map cd) w0)
  (hp:ct (cC (df (bs.map cd)) w0) p 0 [aQ nm,J Z pa,J Z re,I (O ⟨vb,vo,U⟩) bs.length c])
  (hV:∀(x:Nat) r,bs[x]?=O r->ct (cC (df (bs.map cd)) w0) vb (vo+x*6) (eA r))
  (lG:aY (cC (df (bs.map cd)) w0) (I T.ta T.to.length T.tc) 1 T.to gI)
  (pt:∀w,Wd (df (bs.map cd)) w0 (bs.map cd) w->aY w (I (O ⟨vb,vo,U⟩) bs.length c) 6 (bs.map aK.dD) da):
  iL Y 152 [aO (O ⟨p,0,U⟩),J Z t,J Z b] w0 λu w'=>∃rs:List aK,u=.tuple #[]/\Wd (df (bs.map cd)) w0 (rs.map cd) w'/\GF (bs.map aK.dD) bs b t T.to rs:=by
 classical
 obtain⟨bl,jX⟩:∃bl,bl=bs.map aK.dD:=⟨_,rfl⟩;rw[<-jX]at hf pt|-
 have hg:=hf.iD;have AZ:bl.length=bs.length:=by rw[jX,aG]
 obtain⟨n,hn⟩:∃n,n=bs.length:=⟨_,rfl⟩;rw[<-hn]at hb hlen hp pt AZ;have EQ:t<n:=by rw[hn];exact(aJ.1 hT).1
 have Nk:bl[t]?=O T.dD:=by rw[jX,aW,hT];rfl
 have ags:dY bl t=T.to:=by rw[fI Nk];rfl
 have afA:T.to.Nodup:=(hf.block t _ Nk).to;refine aR func152 rfl ntmps152 rfl hW ?_;obtain⟨SS,DT⟩:∃SS,SS=df (bs.map cd):=⟨_,rfl⟩;rw[<-DT]at hp hV lG pt|-
 have hpS:iO SS p:=iF hp cK;have hvS:iO SS vb:=iF (hV t T hT) (by simp[eA]);let Th:=[J Z pa,J Z re,I (O ⟨vb,vo,U⟩) n c];have ajF:bu w0 p 0 (aQ nm::Th):=⟨λj v hj=>Py _ _ (hp j v hj)⟩;have aet:bu w0 vb (vo+t*6) [I T.pa T.ps.length T.pc,I T.la T.xs.length T.lc,J Z T.kind,ag T.on.dq,J Z T.on.n,I T.ta T.to.length T.tc]:=⟨λj v hj=>Py _ _ (hV t T hT j v hj)⟩;have ahJ:cg t n:=⟨EQ⟩;refine bA ?_;refine cN (val:=λx:(ax×Nat×Nat)×(Nat->Prop)=>.slice x.1.1 x.1.2.1 x.1.2.2) (cZ:=λx=>[⟨x.2,λw=>aY w (I x.1.1 x.1.2.1 x.1.2.2) 1 (ci bl) dQ⟩]) (φ:=λ_=>True) rfl (λw hw=>jq _ _ _ bl (I (O ⟨vb,vo,U⟩) n c) w (pt w hw) A hg) λx _=>?_;obtain⟨⟨aa,an,ac⟩,af⟩:=x;simp only[bF,aS];refine aU ?_;refine bG (H1:=bs.map cd++[(⟨af,λw=>aY w (I aa an ac) 1 (ci bl) dQ⟩:cq)]) (fG (l₁:=[(⟨af,λw=>aY w (I aa an ac) 1 (ci bl) dQ⟩:cq)])) ?_;refine mA λw1 mS=>?_;have hle:=mS.Rn;have hpW:ct (cC (df (bs.map cd)) w1) p 0 (aQ nm::Th):=λj v hj=>hle _ _ (hp j v hj);have hVW:∀(x:Nat) r,bs[x]?=O r->ct (cC (df (bs.map cd)) w1) vb (vo+x*6) (eA r):=λx r hr j v hj=>hle _ _ (hV x r hr j v hj);have afD:aY (cC (df (bs.map cd)) w1) (I T.ta T.to.length T.tc) 1 T.to gI:=lG.le ry hle;have Dq:aY (cC (df (bs.map cd)) w1) (I aa an ac) 1 (ci bl) dQ:=mS.beside (e:=(⟨af,λw=>aY w (I aa an ac) 1 (ci bl) dQ⟩:cq)) cK;have back:∀{cZ:List cq} {w:ae},Wd (df (bs.map cd)) (cC (df (bs.map cd)) w1) cZ w->Wd SS w0 (cZ++[(⟨af,λw=>aY w (I aa an ac) 1 (ci bl) dQ⟩:cq)]) w:=λhw=>mS.comp hw.ni;have Ph:∀{cZ:List cq} {w:ae},Wd (df (bs.map cd)) (cC (df (bs.map cd)) w1) cZ w->∀p v,(cC (df (bs.map cd)) w1).cell? p=O v->w.cell? p=O v:=λhw=>hw.ov;have hold:∀{b o:Nat} {v:K} {l:List K},ct (cC (df (bs.map cd)) w1) b o (v::l)->iO (df (bs.map cd)) b:=λhc=>iF hc cK;generalize cC (df (bs.map cd)) w1=wk at*;generalize df (bs.map cd)=S2 at*;have akz:iO S2 p:=hold hpW;have akS:iO S2 vb:=hold (hVW t T hT);have abS:bu wk p 0 (aQ nm::Th):=⟨hpW⟩;have Gf:(ci bl).length=n:=by unfold ci;rw[jj,AZ]
 obtain⟨No,_⟩:=Dq.at;rw[Gf]at No;subst an;have abJ:ci bl≠[]:=λe=>by rw[e]at Gf;simp at Gf;omega
 obtain⟨b8,o8,aea,aaH,UD⟩:=fd Dq hold (λ_ _ h=>by obtain⟨_,e,_⟩:=h;exact⟨_,_,e⟩) abJ;obtain⟨tn,qZ⟩:∃tn,tn=T.to.length:=⟨_,rfl⟩;have KW:tn<=1000:=by
  have:=(oF T (aA hT)).to.1;omega
 rw[<-qZ]at afD|-
 refine bH (λ(x:Nat×List aK)=>x.1<=tn/\GF bl bs b t (T.to.take x.1) x.2) (λx=>[(30,J Z x.1),(28,I T.ta tn T.tc),(29,J Z tn),(6,I aa n ac),M 0 p,(1,J Z t),(2,J Z b)]) (λx=>x.2.map cd) (λx=>tn-x.1) (0,bs) ⟨aN _,⟨rfl,λx r0 r h1 h2=>?_⟩⟩ (aP V aF) λx ⟨hi,nW⟩=>?_
 ·rw[h1]at h2
  obtain rfl:=bJ h2;exact⟨rfl,rfl,oF _ (aA h1),by rw[ri,ai cK]⟩
 obtain⟨i,rs⟩:=x;simp only at hi nW|-
 refine bA ?_;apply aL<;>intro h1
 ·have iM:i<tn:=aD h1
  obtain⟨x,hx⟩:=bE T.to i A;have Ze:x∈dY bl t:=by rw[ags];exact aA hx
  have Mv:=mz hg Ze;obtain⟨d,rfl⟩:∃d:Nat,x=d:=⟨x.toNat,A⟩;have hdn:d<n:=A;obtain⟨b9,o9,ajr,ajb,ag9⟩:=fd afD hold (λ_ _ h=>⟨_,_,h.1⟩) (λe=>by rw[e]at hx;simp at hx);obtain⟨_,ajG,rfl,_⟩:=ag9 i (d:Int) hx;have kK:cg i tn:=⟨iM⟩;have hld:cg d n:=⟨hdn⟩;have iy:(ci bl)[d]?=O ((be bl d).map λx:Nat=>(x:Int)):=kf hg (λb B hB=>(hf.block b B hB).to) (by rw[AZ];exact hdn);obtain⟨_,aes,rv,rfl,CA⟩:=UD d _ iy;obtain⟨rva,rvn,rvc,_,_,rfl,KS,_⟩:=id CA;rw[aG]at KS;have Zb:t∈be bl d:=qN A Ze;obtain⟨P,hP⟩:∃P,P=be bl d:=⟨_,rfl⟩;rw[<-hP]at CA KS Zb;have aiX:P.length<=100:=by rw[hP];exact dS (fC _ _) (by rw[d_];omega)
  have agq:∀q∈P,q<n:=λq hq=>by rw[hP]at hq;have:=Fk bl d q hq;omega
  obtain⟨k,hk⟩:∃k,k=P.idxOf t:=⟨_,rfl⟩;have B0:k<P.length:=by rw[hk];exact ll Zb
  subst KS;refine aU ?_;refine bY rfl (λw hw=>IN _ P t w Zb (CA.le ry (Ph hw))) ?_;rw[<-hk];obtain⟨rH,Uw⟩:∃rH:Nat->Nat,rH=λi=>((P.take i).filter λa=>decide (a<b)&&decide (a≠t)).length:=⟨_,rfl⟩;have aev:rH 0=0:=by rw[Uw];rfl
  have aew:∀i,rH i<=100:=λi=>by
   rw[Uw];refine dS (fC _ _) ?_;rw[dA];omega
  refine aU ?_;let Tb:=[(8,J Z d),(30,J Z i),(28,I T.ta tn T.tc),(29,J Z tn),(6,I aa n ac),M 0 p,(1,J Z t),(2,J Z b)];refine bH (λ(m:Nat)=>m<=P.length) (λm=>(45,J Z m)::(10,J Z (rH m:Nat))::(43,I rva P.length rvc)::(44,J Z P.length)::(9,J Z k)::Tb) (λm=>rs.map cd) (λm=>P.length-m) 0 (aN _) (aP (by rw[aev];exact V) aF) λm hm=>?_<;>(try unfold Tb);refine bA ?_;apply aL<;>intro h2
  ·have wO:m<P.length:=aD h2
   obtain⟨q,hq⟩:=bE P m wO;have hlm:cg m P.length:=⟨wO⟩;obtain⟨b7,o7,agx,ae1,abY⟩:=fd CA hold (λ_ _ h=>⟨_,_,h.1⟩) (λe=>by have:=aZ hq;simp at e;exact this e);obtain⟨_,agP,rfl,_⟩:=abY m (q:Int) (by rw[aW,hq];rfl);have mC:rH (m+1)=rH m+if q<b/\q≠t then 1 else 0:=by
    rw[Uw];simp only;rw[bV,hq,mw,bW];congr 1
    by_cases h5:q<b
    ·by_cases h6:q=t
     ·simp[h6]
     ·simp[h5,h6]
    ·simp[h5]
   have ED:=aew m;have U4:=agq q (aA hq);refine aU ?_
   by_cases h5:q<b
   ·rw[show decide ((q:Int)<(b:Int))=true by simp[h5]]
    refine aV ?_
    by_cases h6:q=t
    ·have NF:rH (m+1)=rH m:=by rw[mC,ai (λh=>h.2 h6)];rfl
     rw[show(!decide ((q:Int)=(t:Int)))=false by simp[h6]];rw[<-NF];refine aU ?_;exact a_ (m+1) wO A V aF
    ·rw[al ⟨h5,h6⟩]at mC
     rw[show(!decide ((q:Int)=(t:Int)))=true by simp;omega];refine aU ?_;rw[show((rH m:Nat):Int)+1=((rH (m+1):Nat):Int) by omega];exact a_ (m+1) wO A V aF
   ·have NF:rH (m+1)=rH m:=by rw[mC,ai (λh=>h5 h.1)];rfl
    rw[show decide ((q:Int)<(b:Int))=false by simp;omega];rw[<-NF];refine cT ?_;exact a_ (m+1) wO A V aF
  have hmP:m=P.length:=by have:=cE h2;omega
  obtain⟨j,hj⟩:∃j,j=rH m:=⟨_,rfl⟩;have hjR:j=RV bl b t d:=by
   rw[hj,Uw,hmP];simp only;rw[cL,hP]
   rfl
  have iS:j<=P.length-1:=by
   have h5:((P.filter λa=>decide (a<b)&&decide (a≠t))).length<P.length:=by
    refine od (fC _ _) λe=>?_;have h6:=List.length_filter_eq_length_iff.1 e t Zb;simp at h6
   rw[hj,Uw,hmP];simp only;rw[cL];omega
  rw[<-hj];obtain⟨eE,hD⟩:=bE bs d A;obtain⟨r,hr⟩:=bE rs d (by rw[nW.len];omega);obtain⟨hrw,oG,rB,JA⟩:=nW.at' d eE r hD hr;have XA:(d:Int)∉T.to.take i:=λh=>by
   obtain⟨j2,hj2⟩:=bR h;rw[List.getElem?_take]at hj2
   split at hj2
   ·have h5:=(aJ.1 hj2).1
    have h6:=(aJ.1 hx).1;have h7:=List.Nodup.idxOf_getElem afA j2 h5;have h8:=List.Nodup.idxOf_getElem afA i h6;rw[(aJ.1 hj2).2]at h7;rw[(aJ.1 hx).2]at h8;omega
   ·cases hj2
  rw[ai XA]at JA;have hDb:bl[d]?=O eE.dD:=by rw[jX,aW,hD];rfl
  have agj:=hf.block d _ hDb;have aff:∀q∈r.ps,q.l.length=P.length:=λq hq=>by
   have h5:q.iN∈eE.ps.map ch.iN:=by rw[<-JA];exact aT.2 ⟨q,hq,rfl⟩
   have:=(agj.bg _ h5).len;rw[<-hP]at this;exact this
  have YJ:bu wk vb (vo+d*6) _:=⟨hVW d eE hD⟩;have aik:r.pa=eE.pa:=by rw[hrw];rfl
  have ail:r.pc=eE.pc:=by rw[hrw];rfl
  simp only[eA]at YJ;rw[<-oG,<-aik,<-ail]at YJ;refine aV ?_;refine bG (H1:=cd r::((rs.eraseIdx d).map cd)) (ig cd hr) ?_;refine uY ?_;simp only[bF];obtain⟨ps,zT⟩:∃ps,ps=r.ps:=⟨_,rfl⟩;obtain⟨qa,Dy⟩:∃qa,qa=r.pa:=⟨_,rfl⟩;obtain⟨qc,hqc⟩:∃qc,qc=r.pc:=⟨_,rfl⟩;have aif:=rB.bg;have afl:=rB.iN;unfold BF;rw[<-zT]at aff aif afl YJ|-
  rw[<-Dy,<-hqc]at YJ|-
  let Tg:=(68,J Z ps.length)::(9,J Z k)::(10,J Z j)::Tb;refine bH (λ(es:List ch)=>es.length<=ps.length/\es.map ch.iN=(ps.take es.length).map (λq=>BR bl b t d q.iN)/\∀q∈es,dE q.dst/\q.l.length<=1000/\∀v∈q.l,dE v.n) (λes=>(69,J Z es.length)::(67,I qa ps.length qc)::Tg)
   (λes=>aw qa ps.length qc (es++ps.drop es.length)::((es++ps.drop es.length).map dZ++((rs.eraseIdx d).map cd))) (λes=>ps.length-es.length) [] ⟨aN _,rfl,by simp⟩ (aP V kg) λes ⟨hei,vZ,zR⟩=>?_<;>(try unfold Tg)<;>try unfold Tb
  refine bA ?_;apply aL<;>intro h3
  ·have ce:es.length<ps.length:=aD h3
   generalize heL:es.length=ei at*;obtain⟨q,hq⟩:=bE ps ei ce;have xB:=aA hq;have vh:=aff q xB;obtain⟨Y2,hqb,Mt⟩:=afl q xB;obtain⟨pd,iq,gH,pl⟩:=q;simp only at vh Y2 hqb Mt;refine fy 0 rfl A λzb zo Bk=>?_;subst Bk;have Dt:cg ei ps.length:=⟨ce⟩;have jT:(es++ps.drop ei)[ei]?=O (⟨pd,iq,gH,pl⟩:ch):=by
    rw[dH A,heL,cV,gp,dR];exact hq
   have BZ:ps.drop ei=(⟨pd,iq,gH,pl⟩:ch)::ps.drop (ei+1):=by rw[jb ce,(aJ.1 hq).2]
   have zS:((es++ps.drop ei).map dZ++((rs.eraseIdx d).map cd)).Perm (dZ ⟨pd,iq,gH,pl⟩::((es++ps.drop (ei+1)).map dZ++((rs.eraseIdx d).map cd))):=by
    rw[BZ];simp only[bz,cf,fu,bF];exact rh
   let Ta:=((es++ps.drop (ei+1)).map dZ++((rs.eraseIdx d).map cd));let Tf:=aw (O ⟨zb,zo,U⟩) ps.length qc (es++ps.drop ei)::Ta;refine bG (H1:=dZ ⟨pd,iq,gH,pl⟩::Tf) ((zS.cons _).trans (List.Perm.swap _ _ _)) ?_<;>(try unfold Tf)<;>(try unfold Ta);simp only[dZ];refine fy 0 rfl A λyb yo B4=>?_;subst B4;refine DO 0 rfl λ_ akE _=>?_;obtain⟨pv,Ha⟩:∃v,pl[k]?=O v:=⟨_,bL A⟩;have zu:gm (ar (O ⟨yb,yo,U⟩) pl.length gH pl::Tf) zb (zo+ei*2) _:=jJ (k:=1) rfl eP jT;simp only[iz,ar]at zu;have Pk:cg k pl.length:=⟨A⟩;have Nz:∀X:cq,gm (X::ar (O ⟨yb,yo,U⟩) pl.length gH pl::Tf) yb (yo+k*2) _:=λX=>jJ (k:=1) rfl eQ Ha;simp only[mm,ar]at Nz
   repeat(first|refine aV ?_|refine dd λ_ _=>?_)
   rename_i nk _ p15 _;have hao:Az (k:Int) 1:=⟨A,A⟩;have iw:(pl.eraseIdx k).length=pl.length-1:=by rw[List.length_eraseIdx,al A]
   obtain⟨nl,yS⟩:∃nl,nl=(pl.eraseIdx k).insertIdx j pv:=⟨_,rfl⟩;have akl:nl.length=pl.length:=by rw[yS,List.length_insertIdx,al A];omega
   have ahO:∀v∈nl,dE v.n:=λv hv=>by
    rw[yS,NS pv j _ A]at hv;rcases bO.1 hv with hv|hv
    ·exact Mt v (List.mem_of_mem_eraseIdx (nz hv))
    ·rcases bX.1 hv with rfl|hv
     ·exact Mt _ (aA Ha)
     ·exact Mt v (List.mem_of_mem_eraseIdx (List.mem_of_mem_drop hv))
   have aez:∀(R:List cq) (w:ae),Wd S2 wk ([ar (O ⟨yb,yo,U⟩) pl.length gH pl]++R) w->iL Y 170 [I (O ⟨yb,yo,U⟩) pl.length gH,J Z k,J Z ((k:Int)+1)] w λu w'=>∃_x:Unit,u=I (O ⟨yb,yo,U⟩) (pl.length-1) gH/\Wd (df [ar (O ⟨yb,yo,U⟩) pl.length gH pl]) w [ar (O ⟨yb,yo,U⟩) (pl.length-1) gH (pl.eraseIdx k)] w'/\True:=λR w hw=>
    (J8 (O ⟨yb,yo,U⟩) gH pl k A hqb w hw.pre).mono λu w' ⟨h1,h2⟩=>⟨(),h1,h2,trivial⟩
   have Cs:∀(nb:Nat) (R:List cq) (w:ae),Wd S2 wk ([ar (O ⟨yb,yo,U⟩) (pl.length-1) gH (pl.eraseIdx k),(λnb:Nat=>G (O ⟨nb,0,U⟩) 1 1 41 2 [ag pv.dq,J Z pv.n]) nb]++R) w->iL Y 169 [I (O ⟨yb,yo,U⟩) (pl.length-1) gH,J Z j,I (O ⟨nb,0,U⟩) 1 1] w λu w'=>∃x:ax×Nat,u=I x.1 nl.length x.2/\Wd (df [ar (O ⟨yb,yo,U⟩) (pl.length-1) gH (pl.eraseIdx k),(λnb:Nat=>G (O ⟨nb,0,U⟩) 1 1 41 2 [ag pv.dq,J Z pv.n]) nb]) w [ar x.1 nl.length x.2 nl] w'/\True:=λnb R w hw=>by
    have h9:=K7 yb yo gH (pl.eraseIdx k) j pv nb A A A w (by rw[iw];exact hw.pre);have e9:pl.length-1+1=nl.length:=A;rw[iw,e9,<-yS]at h9;exact h9.mono λu w' ⟨x,h1,h2⟩=>⟨x,h1,h2,trivial⟩
   have mT:∀x:ax×Nat,lS ((es++ps.drop ei).flatMap iz) (ei*2+1) (I x.1 nl.length x.2) (((es++[(λx:ax×Nat=>(⟨pd,x.1,x.2,nl⟩:ch)) x])++ps.drop (ei+1)).flatMap iz):=λx=>⟨by
     rw[fL eP jT (k:=1) A (y:=(λx:ax×Nat=>(⟨pd,x.1,x.2,nl⟩:ch)) x) rfl];congr 1;exact kS heL ce,by rw[cA eP,bW,eS];omega⟩
   let Td:=bN nk pd (O ⟨yb,yo,U⟩) pl.length gH::Ta;let Ti:=aw (O ⟨zb,zo,U⟩) ps.length qc (es++ps.drop ei)::cO p15 pv::Td;have Q0:∀X:cq,mf (X::Ti) zb (zo+ei*2+1) 1 zo (ei*2+1) ps.length qc 49 2 ((es++ps.drop ei).flatMap iz):=λX=>⟨rfl,A⟩;let Tk:=(67,I (O ⟨zb,zo,U⟩) ps.length qc)::Tg;refine dI (cO p15 pv::Td) (λ_:ax×Nat=>True) (λ_=>(69,J Z ei)::Tk) (λx=>(λx:ax×Nat=>ar x.1 nl.length x.2 nl) x::(λx:ax×Nat=>aw (O ⟨zb,zo,U⟩) ps.length qc ((es++[(λx:ax×Nat=>(⟨pd,x.1,x.2,nl⟩:ch)) x])++ps.drop (ei+1))) x::Ta) mixed aB ?_ λx _=>?_
   ·refine W 0 ?_;refine W 1 ?_;refine W 2 ?_;refine W 3 ?_;refine W 4 ?_;refine W 5 ?_;refine W 6 ?_;refine W 7 ?_;refine W 8 ?_;refine W 9 ?_;refine W 10 ?_;refine W 11 ?_;refine W 12 ?_;refine W 13 ?_;refine W 15 ?_;refine W 16 ?_;let Tc:=(aw (O ⟨zb,zo,U⟩) ps.length qc (es++ps.drop ei)::cO p15 pv::Td);refine jL 14 17 E ?_ ?_
    ·refine bG (H1:=[ar (O ⟨yb,yo,U⟩) pl.length gH pl]++Tc) fM ?_<;>(try unfold Tc)<;>(try unfold Td)<;>try unfold Ta
     refine q_ 14 (val:=λ_:Unit=>.slice (O ⟨yb,yo,U⟩) (pl.length-1) gH) (cZ:=λ_=>[ar (O ⟨yb,yo,U⟩) (pl.length-1) gH (pl.eraseIdx k)]) (φ:=λ_=>True) rfl aB (aez _) λ_ _=>?_;refine Ks 17 rfl E E aB λnb _=>?_;refine bG (H1:=[ar (O ⟨yb,yo,U⟩) (pl.length-1) gH (pl.eraseIdx k),(λnb:Nat=>G (O ⟨nb,0,U⟩) 1 1 41 2 [ag pv.dq,J Z pv.n]) nb]++Tc) fM ?_<;>(try unfold Tc)<;>(try unfold Td)<;>(try unfold Ta);refine qX 18 (val:=λx:ax×Nat=>.slice x.1 nl.length x.2) (cZ:=λx=>[(λx:ax×Nat=>ar x.1 nl.length x.2 nl) x]) (φ:=λ_=>True) rfl E aB (Cs nb _) λx _=>?_;simp only[bF,aS];refine W 19 ?_;refine W 20 ?_;have Zh:=mT x;refine jr 21 E E aB ?_;exact dy x trivial V aB
    ·refine gT 17 rfl E aB λnb _=>?_
     refine bG (H1:=[ar (O ⟨yb,yo,U⟩) pl.length gH pl]++((λnb:Nat=>G (O ⟨nb,0,U⟩) 1 1 41 2 [ag pv.dq,J Z pv.n]) nb::Ti)) fM ?_<;>(try unfold Ti)<;>(try unfold Td)<;>(try unfold Ta);refine qX 14 (val:=λ_:Unit=>.slice (O ⟨yb,yo,U⟩) (pl.length-1) gH) (cZ:=λ_=>[ar (O ⟨yb,yo,U⟩) (pl.length-1) gH (pl.eraseIdx k)]) (φ:=λ_=>True) rfl E aB (aez _) λ_ _=>?_;refine bG (H1:=[ar (O ⟨yb,yo,U⟩) (pl.length-1) gH (pl.eraseIdx k),(λnb:Nat=>G (O ⟨nb,0,U⟩) 1 1 41 2 [ag pv.dq,J Z pv.n]) nb]++Tc) fM ?_<;>(try unfold Tc)<;>(try unfold Td)<;>(try unfold Ta);refine qX 18 (val:=λx:ax×Nat=>.slice x.1 nl.length x.2) (cZ:=λx=>[(λx:ax×Nat=>ar x.1 nl.length x.2 nl) x]) (φ:=λ_=>True) rfl E aB (Cs nb _) λx _=>?_;simp only[bF,aS];refine W 19 ?_;refine W 20 ?_;have Zh:=mT x;refine jr 21 E E aB ?_;exact dy x trivial V aB
   obtain⟨na,nc⟩:=x;simp only;refine aU ?_;have gk:(es++[(⟨pd,na,nc,nl⟩:ch)]).length=ei+1:=by simp[heL]
   let Tj:=(es++[(⟨pd,na,nc,nl⟩:ch)]);let Te:=((Tj++ps.drop (es++[(⟨pd,na,nc,nl⟩:ch)]).length).map dZ++((rs.eraseIdx d).map cd));refine bG (H1:=aw (O ⟨zb,zo,U⟩) ps.length qc (Tj++ps.drop (es++[(⟨pd,na,nc,nl⟩:ch)]).length)::Te) (aX.2 λe=>?_) ?_<;>(try unfold Te)<;>try unfold Tj
   ·have e2:dZ (⟨pd,na,nc,nl⟩:ch)=ar na nl.length nc nl:=rfl
    rw[gk];simp only[bz,cf,dm,bU,bM,dG,e2,ar,aw,Ta];omega
   refine iC (L':=((69,J Z ((es++[(⟨pd,na,nc,nl⟩:ch)]).length:Nat))::Tk)) ?_ (.refl _) ?_<;>(try unfold Tk)<;>(try unfold Tg)<;>try unfold Tb
   ·rw[gk]
    exact V
   refine a_ Tj ⟨by rw[gk];omega,?_,λq2 uw=>?_⟩ (by rw[gk];omega) V aF
   ·rw[gk,bV,hq,bz,bz,vZ]
    simp only[jk,cf,dm,BR,ch.iN,<-hP,<-hk,<-hjR,fF,Ha,gw,yS]
   ·rcases bO.1 uw with uw|uw
    ·exact zR q2 uw
    ·rw[bQ.1 uw]
     exact⟨Y2,by simp only;omega,ahO⟩
  ·have fX:es.length=ps.length:=by have:=cE h3;omega
   rw[fX,gY,cj];rw[fX,cL]at vZ;have hwb:(jf r es).Bd:=⟨rB.kind,rB.on,by unfold jf;simp only;omega,zR,rB.list,rB.ins,rB.to⟩;have ait:=nW.step hx XA hr (es:=es) (by rw[fX,zT]) (by rw[vZ,zT]) hwb;refine lr (H':=(rs.set d (jf r es)).map cd) (λw hw=>?_) ?_
   ·have h5:Wd S2 wk ((BF (jf r es)::es.map dZ)++((rs.eraseIdx d).map cd)) w:=by
     have e5:BF (jf r es)=aw qa ps.length qc es:=by
      unfold BF jf;simp only[fX,Dy,hqc]
     rw[e5];exact hw
    refine h5.join.perm ?_;have h6:=ig cd (l:=rs.set d (jf r es)) (k:=d) (x:=jf r es) (fk (aJ.1 hr).1);rw[nt]at h6;exact h6.symm
   refine aV ?_;exact a_ (i+1,rs.set d (jf r es)) ⟨iM,ait⟩ bB V aF
 ·obtain rfl:tn=i:=by have:=cE h1;omega
  rw[qZ,cL]at nW;refine aV ?_;exact Ck rfl λw hw=>⟨rs,rfl,(back hw).sub (fe _ _),nW⟩
section
def oy(r:aK):List cq:=qJ r::lQ r::r.xs.map gC
def eL(r:aK):cq:=cq.join (oy r)
section
variable {S:Nat->Prop} {w0 w:ae} {H:List cq}
theorem Wd.LZ:∀{l:List aK} {H:List cq},Wd S w0 (l.map bP++H) w->Wd S w0 (l.map cd++(l.map eL++H)) w
 |[],_,h=>h
 |r::l,H,h=>by
  classical
  have h1:Wd S w0 (ij r++(l.map bP++H)) w:=Wd.nh (H2:=l.map bP++H) h;have h2:Wd S w0 ((BF r::r.ps.map dZ)++(oy r++(l.map bP++H))) w:=by
   refine h1.perm (aX.2 λe=>?_);unfold ij BF oy qJ lQ;simp only[bU,bM];omega
  have h3:Wd S w0 (oy r++(cd r::(l.map bP++H))) w:=by
   refine h2.join.perm (aX.2 λe=>?_);unfold cd;simp only[bU,bM];omega
  have h4:Wd S w0 (l.map bP++(eL r::cd r::H)) w:=by
   refine h3.join.perm (aX.2 λe=>?_);unfold eL;simp only[bU,bM];omega
  refine(Wd.LZ h4).perm (aX.2 λe=>?_);simp only[cf,bU,bM];omega
theorem Wd.IP:∀{l:List aK} {H:List cq},Wd S w0 (l.map cd++(l.map eL++H)) w->Wd S w0 (l.map bP++H) w
 |[],_,h=>h
 |r::l,H,h=>by
  classical
  have h1:Wd S w0 (cd r::(oy r++(l.map cd++(l.map eL++H)))) w:=by
   have h0:Wd S w0 (eL r::(cd r::(l.map cd++(l.map eL++H)))) w:=by
    refine h.perm (aX.2 λe=>?_);simp only[cf,bU,bM];omega
   refine h0.nh.perm (aX.2 λe=>?_);simp only[bU,bM];omega
  have h2:Wd S w0 (ij r++(l.map cd++(l.map eL++H))) w:=by
   refine h1.nh.perm (aX.2 λe=>?_);unfold ij BF oy qJ lQ;simp only[bU,bM];omega
  have h3:Wd S w0 (l.map cd++(l.map eL++(bP r::H))) w:=by
   refine h2.join.perm (aX.2 λe=>?_);unfold bP;simp only[bU,bM];omega
  refine(Wd.IP h3).perm (aX.2 λe=>?_);simp only[cf,bU,bM];omega
theorem Wd.MK(h:Wd S w0 (cd r::(oy r++H)) w)(hd:r.Bd):qk w r:=by
 classical
 refine Wd.bi (H:=H) (b:=r) (h.nh.perm (aX.2 λe=>?_)) hd;unfold ij BF oy qJ lQ;simp only[bU,bM];omega
theorem Wd.aa9(h:Wd S w0 (cd r::eL r::H) w)(hd:r.Bd):qk w r:=by
 classical
 have h1:Wd S w0 (oy r++(cd r::H)) w:=Wd.nh (h.perm (List.Perm.swap _ _ _));refine Wd.MK (H:=H) (h1.perm (aX.2 λe=>?_)) hd;simp only[bU,bM];omega
end
theorem count_set{α:Type}[DecidableEq α]{l:List α}{x y:α}(h:l[k]?=O x)(e:α):(l.set k y).count e+[x].count e=l.count e+[y].count e:=by
 have h1:=aX.1 (lh h) e;have h2:=aX.1 (lh (l:=l.set k y) (k:=k) (e:=y) (fk (aJ.1 h).1)) e;rw[nt]at h2;simp only[bM,dG]at h1 h2|-
 omega
theorem abo{N:Nat}{ds:List Deferred}{L:List (Nat×K)}{H:List cq}{p:Act->ae->Prop}{φ:Prop}(h:∀w,Wd S w0 H w->φ)(k:φ->cU N ds S w0 L H p):cU N ds S w0 L H p:=λa w hS=>k (h w hS.wd) a w hS
theorem Nb{R:Nat}(hf:eW R bl)(hb:b<bl.length)(ht:t<bl.length):eW R (bl.set b {bi bl b with list:=(bi bl b).list++(bi bl t).list}):=by
 have lG:∀i,dY (bl.set b {bi bl b with list:=(bi bl b).list++(bi bl t).list}) i=dY bl i:=λi=>by
  unfold dY;rw[fN]
  by_cases e:b=i
  ·subst e
   rw[al rfl,al hb,ck hb]
  ·rw[ai e]
 have Au:∀c,be (bl.set b {bi bl b with list:=(bi bl b).list++(bi bl t).list}) c=be bl c:=λc=>wu (by rw[fK]) lG c;refine⟨λC hC=>?_,λc C hc=>?_⟩
 ·rw[fK]
  rcases j_ hC with hC|rfl
  ·exact hf.iD C hC
  ·have h:=hf.iD (bi bl b) (aA (ck hb))
   exact h
 ·rw[fN]at hc
  by_cases e:b=c
  ·subst e
   rw[al rfl,al hb]at hc;obtain rfl:=bJ hc;have hB:=hf.block b _ (ck hb);have hT:=hf.block t _ (ck ht);refine⟨λp hp=>?_,λx hx=>?_,hB.on,hB.to⟩
   ·rw[Au];exact hB.bg p hp
   ·rcases bO.1 hx with hx|hx
    ·exact hB.list x hx
    ·exact hT.list x hx
  ·rw[ai e]at hc
   have hB:=hf.block c C hc;exact⟨λp hp=>by rw[Au];exact hB.bg p hp,hB.list,hB.on,hB.to⟩
end
theorem MT(nm:ByteArray)(pa re:Int)(a:ax)(c:Nat)(bs:List aK)(R:Nat)(hlen:bs.length<=100)(dW:0<bs.length)(oF:∀r∈bs,r.Bd)(dV:rD R (bs.map aK.dD))(oY:eu (bs.map aK.dD)<=1000)(w0:ae)
  (hW:Wd (df (eM a c bs)) w0 (eM a c bs) w0):
  iL Y 105 [aC #[aQ nm,J Z pa,J Z re,I a bs.length c]] w0 λu w'=>∃x:ax×Nat×List aK,u=aC #[aQ nm,J Z pa,J Z re,I x.1 x.2.2.length x.2.1]/\Wd (df (eM a c bs)) w0 (eM x.1 x.2.1 x.2.2) w'/\
   (x.2.2.map aK.dD=gt (bs.map aK.dD)/\∀b∈x.2.2,b.Bd):=by
 classical
 obtain⟨bl,jX⟩:∃bl,bl=bs.map aK.dD:=⟨_,rfl⟩;rw[<-jX]at dV oY|-
 obtain⟨n,hn⟩:∃n,n=bs.length:=⟨_,rfl⟩;have AZ:bl.length=n:=by rw[jX,aG,hn]
 refine aR func105 rfl ntmps105 rfl hW ?_;obtain⟨SS,DT⟩:∃SS,SS=df (eM a c bs):=⟨_,rfl⟩;rw[<-DT];unfold eM;rw[<-hn]at hlen dW|-
 refine fy 0 rfl dW λvb vo qt=>?_;subst qt
 repeat(first|refine aU ?_|refine dd λ_ _=>?_)
 rename_i p1 _ p2 _;refine lr (H':=aj p2::D p1 nm pa re (O ⟨vb,vo,U⟩) n c::am (O ⟨vb,vo,U⟩) n c bs::(bs.map cd++bs.map eL)) (λw hw=>?_) ?_
 ·have h1:Wd SS w0 (bs.map bP++[aj p2,D p1 nm pa re (O ⟨vb,vo,U⟩) n c,am (O ⟨vb,vo,U⟩) n c bs]) w:=hw.perm (fG (l₁:=[_,_,_]))
  refine h1.LZ.perm (aX.2 λe=>?_);simp only[bU,bM,dG,D,aj,am];omega
 have QP:=xf dV;refine bH (λx:Nat×List aK=>x.1<=n/\x.2.length=n/\x.2.map aK.dD=mh bl x.1/\∀r∈x.2,r.Bd) (λx=>[(3,J Z x.1),M 1 p1,M 2 p2]) (λx=>aj p2::D p1 nm pa re (O ⟨vb,vo,U⟩) n c::am (O ⟨vb,vo,U⟩) n c x.2::(x.2.map cd++x.2.map eL)) (λx=>n-x.1) (0,bs) ⟨aN _,hn.symm,by simp only;rw[<-jX];rfl,oF⟩ (aP V aF) λx ⟨hi,vK,p_,uG⟩=>?_;obtain⟨b,ys⟩:=x;simp only at hi vK p_ uG|-
 refine bA ?_;refine aL (λh1=>?_) (λh1=>?_)
 case refine_2=>
  obtain rfl:n=b:=by have:=cE h1;omega
  refine aV ?_;refine fD rfl λw hw=>⟨(O ⟨vb,vo,U⟩,c,ys),?_,?_,?_,uG⟩
  ·simp only[vK]
  ·have h2:Wd SS w0 (ys.map cd++(ys.map eL++[am (O ⟨vb,vo,U⟩) n c ys])) w:=by
    refine hw.pick ⟨[D p2 nm pa re (O ⟨vb,vo,U⟩) n c,D p1 nm pa re (O ⟨vb,vo,U⟩) n c],aX.2 λe=>?_⟩;simp only[bU,bM,dG,D,am];omega
   refine h2.IP.perm ?_;simp only;rw[vK];exact fG
  ·simp only
   rw[p_];unfold gt;rw[AZ]
 have qe:b<n:=aD h1;have SD:cg b n:=⟨qe⟩;obtain⟨C0,hC0⟩:∃C0,C0=nB (mh bl b) b:=⟨_,rfl⟩;have Za:mh bl (b+1)=C0:=by rw[zg,<-hC0]
 have ahX:=(QP b).1.ok dV;have ahM:=(QP b).1.many;refine aU ?_;refine bH (λrs:List aK=>rs.length=n/\rD R (rs.map aK.dD)/\eu (rs.map aK.dD)<=1000/\nB (rs.map aK.dD) b=C0/\∀r∈rs,r.Bd) (λ_=>[(4,aO (O ⟨vb,vo+b*6,U⟩)),(3,J Z b),M 1 p1,M 2 p2]) (λrs=>aj p2::D p1 nm pa re (O ⟨vb,vo,U⟩) n c::am (O ⟨vb,vo,U⟩) n c rs::(rs.map cd++rs.map eL)) (λrs=>Kw (rs.map aK.dD)) ys ⟨vK,by rw[p_];exact ahX,by rw[p_,ahM];exact oY,by rw[p_,hC0],uG⟩ (aP V aF) λrs ⟨oG,hro,JA,U6,rB⟩=>?_;obtain⟨l,hl⟩:∃l,l=rs.map aK.dD:=⟨_,rfl⟩;rw[<-hl]at hro JA U6;have Du:l.length=n:=by rw[hl,aG,oG]
 have hg:=hro.ok.iD;obtain⟨B,hB⟩:=bE rs b A;have Ir:bi l b=B.dD:=gG (by rw[hl,aW,hB];rfl);have hcB:∀(q:Nat) v,(eA B)[q]?=O v->(rs.flatMap eA)[b*6+q]?=O v:=λq v hv=>e_ de rs b B q v hB hv;have aku:∀(X1 X2:cq) (cP:List cq),gB (X1::X2::am (O ⟨vb,vo,U⟩) n c rs::cP) vb (vo+b*6+2) (J Z B.kind):=λ_ _ _=>⟨λ_ _ _ hw=>by have:=hw.dp (k:=2) rfl (hcB 2 _ rfl);rwa[<-eB]at this⟩;refine bA ?_
 by_cases yB:B.kind=2
 case neg=>
  rw[show decide (B.kind=2)=false by simp[yB]];refine aV ?_;have QR:kx l b=U:=by unfold kx;rw[ai (λh=>yB (by rw[Ir]at h;exact h.1))]
  rw[nC QR]at U6;exact a_ (b+1,rs) ⟨qe,oG,by simp only;rw[Za,<-hl,U6],rB⟩ bB V aF
 rw[show decide (B.kind=2)=true by simp[yB]];have yQ:(bi l b).kind=2:=by rw[Ir];exact yB
 obtain⟨_,lG,EQ⟩:=DV hro.kind hg yQ;obtain⟨t,htD⟩:∃t,t=nR l b:=⟨_,rfl⟩;rw[<-htD]at lG EQ;rw[Ir]at lG;have adY:B.to=[(t:Int)]:=lG;have abw:B.to.length=1:=by rw[adY];rfl
 have qZ:t<n:=A;have aeT:eL B∈rs.map eL:=aT.2 ⟨B,aA hB,rfl⟩;have ae4:∀(X:List cq) (S:Nat->Prop) (w0 w:ae),Wd S w0 (X++(rs.map cd++rs.map eL)) w->∃cP,Wd S w0 (oy B++cP) w:=λX S w0 w hw=>by
  obtain⟨k,hk⟩:=bR (en X (en (rs.map cd) aeT));exact⟨_,(hw.perm (lh hk)).nh⟩
 let Tf:=[D p1 nm pa re (O ⟨vb,vo,U⟩) n c,am (O ⟨vb,vo,U⟩) n c rs];refine abo (φ:=∃tb tz,B.ta=O ⟨tb,tz,U⟩) (λw hw=>?_) λ⟨tb,tz,Ax⟩=>?_
 ·obtain⟨cP,h2⟩:=ae4 (aj p2::Tf) _ _ _ hw
  obtain⟨_,h3⟩:=h2.get (k:=1) rfl;rcases h3 with⟨_,h3,_⟩|⟨g,pre,sp,h3,_⟩
  ·rw[abw]at h3
   omega
  ·exact⟨_,_,h3⟩
 have akv:∀(X1 X2:cq) (cP:List cq),gB (X1::X2::am (O ⟨vb,vo,U⟩) n c rs::cP) vb (vo+b*6+4+1) (I (O ⟨tb,tz,U⟩) 1 B.tc):=λ_ _ _=>⟨λ_ _ _ hw=>by
  have:=hw.dp (k:=2) rfl (hcB 5 _ rfl);rw[Ax,abw]at this;exact this⟩
 have aja:∀(X1 X2:cq) (cP:List cq),gB (X1::X2::am (O ⟨vb,vo,U⟩) n c rs::cP) vb (vo+b*6+2+3) (I (O ⟨tb,tz,U⟩) 1 B.tc):=λ_ _ _=>⟨λ_ _ _ hw=>by
  have:=hw.dp (k:=2) rfl (hcB 5 _ rfl);rw[Ax,abw]at this;exact this⟩
 have akw:gB (aj p2::D p1 nm pa re (O ⟨vb,vo,U⟩) n c::am (O ⟨vb,vo,U⟩) n c rs::(rs.map cd++rs.map eL)) tb (tz+0*1) (J Z t):=⟨λ_ _ _ hw=>by
  obtain⟨cP,h2⟩:=ae4 (aj p2::Tf) _ _ _ hw;refine h2.dp (k:=1) (j:=0*1) (n:=B.to.length) (c:=B.tc) (e:=3) (s:=1) (xs:=B.to.map (J Z)) (by rw[<-Ax];rfl) ?_;rw[adY]
  rfl⟩
 have aeM:cg 0 1:=⟨A⟩;obtain⟨T,hT⟩:=bE rs t A;have Nk:bi l t=T.dD:=gG (by rw[hl,aW,hT];rfl);have ce:cg t n:=⟨qZ⟩;have hoT:gm (aj p2::D p1 nm pa re (O ⟨vb,vo,U⟩) n c::am (O ⟨vb,vo,U⟩) n c rs::(rs.map cd++rs.map eL)) vb (vo+t*6) _:=jJ (k:=2) rfl de hT;simp only[eA,D,aj,am]at hoT
 repeat(first|refine aV ?_|refine dd λ_ _=>?_)
 rename_i p6 _
 by_cases Vf:t=b
 ·rw[show decide ((t:Int)=(b:Int))=true by simp[Vf]]
  have QR:kx l b=U:=by unfold kx;rw[<-htD,ai (λh=>h.2.1 Vf)]
  rw[nC QR]at U6;refine cT ?_;exact a_ (b+1,rs) ⟨qe,oG,by simp only;rw[Za,<-hl,U6],rB⟩ bB V aB
 rw[show decide ((t:Int)=(b:Int))=false by simp;omega];refine aV ?_
 by_cases zT:T.ps.length=0
 case neg=>
  rw[show decide ((0:Int)<(T.ps.length:Int))=true from fQ A];have QR:kx l b=U:=by
   unfold kx;rw[<-htD,ai (λh=>zT ?_)];have:=h.2.2.1;rw[Nk]at this;have:=bD List.length this;unfold aK.dD at this;rw[aG]at this;exact this
  rw[nC QR]at U6;refine cT ?_;exact a_ (b+1,rs) ⟨qe,oG,by simp only;rw[Za,<-hl,U6],rB⟩ bB V aB
 rw[show decide ((0:Int)<(T.ps.length:Int))=false from gx A];refine aV ?_;have Bc:∀(X:List cq) (w:ae),Wd SS w0 (X++(am (O ⟨vb,vo,U⟩) n c rs::(rs.map cd++rs.map eL))) w->aY w (I (O ⟨vb,vo,U⟩) n c) 6 l da:=λX w hw=>by
  have h2:Wd SS w0 (rs.map cd++(rs.map eL++[am (O ⟨vb,vo,U⟩) n c rs])) w:=by
   refine hw.pick ⟨X,aX.2 λe=>?_⟩;simp only[bU,bM,dG,am];omega
  have h3:=Wd.blocks (H:=[]) (ba:=O ⟨vb,vo,U⟩) (bc:=c) (bs:=rs) (by rw[cj,oG];exact h2.IP.perm fG) A rB;rw[oG,<-hl]at h3;exact h3
 refine cN (val:=λx:(ax×Nat×Nat)×(Nat->Prop)=>.slice x.1.1 x.1.2.1 x.1.2.2) (cZ:=λx=>[⟨x.2,λw=>aY w (I x.1.1 x.1.2.1 x.1.2.2) 1 (ci l) dQ⟩]) (φ:=λ_=>True) rfl (λw hw=>jq _ _ _ l (I (O ⟨vb,vo,U⟩) n c) w (Bc [au p6 T.pa T.ps.length T.pc T.la T.xs.length T.lc T.kind T.on T.ta T.to.length T.tc,aj p2,D p1 nm pa re (O ⟨vb,vo,U⟩) n c] w hw) A hg) λx _=>?_;obtain⟨⟨aa,an,ac⟩,af⟩:=x;simp only[bF,aS];let Ta:=aj p2::D p1 nm pa re (O ⟨vb,vo,U⟩) n c::am (O ⟨vb,vo,U⟩) n c rs::(rs.map cd++rs.map eL);let Tb:=(au p6 T.pa T.ps.length T.pc T.la T.xs.length T.lc T.kind T.on T.ta T.to.length T.tc::Ta);refine bG (H1:=Tb++[(⟨af,λw=>aY w (I aa an ac) 1 (ci l) dQ⟩:cq)]) (fG (l₁:=[(⟨af,λw=>aY w (I aa an ac) 1 (ci l) dQ⟩:cq)])) ?_<;>(try unfold Tb)<;>(try unfold Ta);have iy:(ci l)[t]?=O ((be l t).map λx:Nat=>(x:Int)):=kf hg (λb B hB=>(hro.ok.block b B hB).to) A;refine mA λw1 mS=>?_;have Dq:aY (cC (df Tb) w1) (I aa an ac) 1 (ci l) dQ:=mS.beside (e:=(⟨af,λw=>aY w (I aa an ac) 1 (ci l) dQ⟩:cq)) cK;have back:∀{w:ae},Wd (df Tb) (cC (df Tb) w1) Tb w->Wd SS w0 (Tb++[(⟨af,λw=>aY w (I aa an ac) 1 (ci l) dQ⟩:cq)]) w:=λhw=>mS.comp hw.ni;have hold:∀{b o:Nat} {v:K} {l:List K},ct (cC (df Tb) w1) b o (v::l)->iO (df Tb) b:=λhc=>iF hc cK;generalize cC (df Tb) w1=wk at*;generalize df Tb=S2 at*;have Gf:(ci l).length=n:=by unfold ci;rw[jj,Du]
 obtain⟨No,_⟩:=Dq.at;rw[Gf]at No;subst an;obtain⟨b8,o8,aea,aaH,UD⟩:=fd Dq hold (λ_ _ h=>by obtain⟨_,e,_⟩:=h;exact⟨_,_,e⟩) (aZ iy);obtain⟨_,aes,rv,rfl,CA⟩:=UD t _ iy;obtain⟨rva,rvn,rvc,_,_,rfl,KS,_⟩:=id CA;rw[aG]at KS;subst KS;refine aV ?_
 by_cases Au:1<(be l t).length
 ·rw[show decide ((1:Int)<((be l t).length:Int))=true by simp;omega]
  have QR:kx l b=U:=by
   unfold kx;rw[<-htD,ai (λh=>by have:=h.2.2.2;omega)]
  rw[nC QR]at U6;refine aV ?_;refine rp back ?_;exact a_ (b+1,rs) ⟨qe,oG,by simp only;rw[Za,<-hl,U6],rB⟩ bB V (.cons _ (fe _ _))
 rw[show decide ((1:Int)<((be l t).length:Int))=false by simp;omega];have wP:(bi l t).bg=[]:=by
  rw[Nk];unfold aK.dD;rw[nr zT]
  rfl
 have QQ:kx l b=O t:=by
  unfold kx;rw[<-htD,al ⟨yQ,Vf,wP,A⟩]
 have hj:=(lL hro.kind hg).1 QQ;have fZ:b≠t:=λe=>Vf e.symm;refine rZ ?_;refine rp back ?_;obtain⟨RL,hRp,hRm⟩:=Wx eL hB hT fZ;let Tc:=(B.xs.map gC++(T.xs.map gC++RL));let Te:=((lQ B::lQ T::Tc)++rs.map cd);refine lr (H':=aj p2::D p1 nm pa re (O ⟨vb,vo,U⟩) n c::au p6 T.pa T.ps.length T.pc T.la T.xs.length T.lc T.kind T.on T.ta T.to.length T.tc::am (O ⟨vb,vo,U⟩) n c rs::qJ B::qJ T::Te) (λw hw=>?_) ?_<;>(try unfold Te)<;>try unfold Tc
 ·have h2:Wd SS w0 (oy B++(eL T::(aj p2::D p1 nm pa re (O ⟨vb,vo,U⟩) n c::au p6 T.pa T.ps.length T.pc T.la T.xs.length T.lc T.kind T.on T.ta T.to.length T.tc::am (O ⟨vb,vo,U⟩) n c rs::(RL++(rs.map cd++[(⟨af,λw=>aY w (I aa n ac) 1 (ci l) dQ⟩:cq)]))))) w:=by
   refine Wd.nh (hw.perm (aX.2 λe=>?_));have h4:=aX.1 hRp e;simp only[bM,bU,dG,eL,D,aj,am,au]at h4|-
   omega
  have h3:Wd SS w0 (oy T++(oy B++(aj p2::D p1 nm pa re (O ⟨vb,vo,U⟩) n c::au p6 T.pa T.ps.length T.pc T.la T.xs.length T.lc T.kind T.on T.ta T.to.length T.tc::am (O ⟨vb,vo,U⟩) n c rs::(RL++(rs.map cd++[(⟨af,λw=>aY w (I aa n ac) 1 (ci l) dQ⟩:cq)]))))) w:=by
   refine Wd.nh (h2.perm (aX.2 λe=>?_));simp only[bM,bU,eL,D,aj,am,au];omega
  refine h3.pick ⟨[(⟨af,λw=>aY w (I aa n ac) 1 (ci l) dQ⟩:cq)],aX.2 λe=>?_⟩;unfold oy;simp only[bM,bU,dG,D,aj,am,au];omega
 have rP:=rB B (aA hB);have rK:=rB T (aA hT);have hBT:B.xs.length+T.xs.length<=1000:=by
  have h5:=Le l b t;rw[Ir,Nk]at h5;unfold aK.dD at h5;simp only[aG]at h5;rcases h5 with h5|h5
  ·omega
  ·exact absurd h5 fZ
 have akt:∀(X1 X2 X3:cq) (cP:List cq),gB (X1::X2::X3::am (O ⟨vb,vo,U⟩) n c rs::cP) vb (vo+b*6+1) (I B.la B.xs.length B.lc):=λ_ _ _ _=>⟨λ_ _ _ hw=>by have:=hw.dp (k:=3) rfl (hcB 1 _ rfl);rwa[<-eB]at this⟩;obtain⟨B1,hB1⟩:∃B1:ax×Nat->aK,B1=λx=>{B with la:=x.1,lc:=x.2,xs:=B.xs++T.xs}:=⟨_,rfl⟩;have abu:∀x,eA (B1 x)=(eA B).set 1 (I x.1 (B.xs.length+T.xs.length) x.2):=λx=>by
  rw[hB1];unfold eA;simp only[bW]
  rfl
 have ahY:∀(X1 X2 X3:cq) (cP:List cq),mf (X1::X2::X3::am (O ⟨vb,vo,U⟩) n c rs::cP) vb (vo+b*6+1) 3 vo (b*6+1) n c 46 6 (rs.flatMap eA):=λ_ _ _ _=>⟨rfl,A⟩;have Zi:∀na nc,lS (rs.flatMap eA) (b*6+1) (I na (B.xs.length+T.xs.length) nc) ((rs.set b (B1 (na,nc))).flatMap eA):=λna nc=>⟨fL de hB (by decide) (abu (na,nc)).symm,by rw[cA de];omega⟩;refine aU ?_;refine dI [au p6 T.pa T.ps.length T.pc T.la T.xs.length T.lc T.kind T.on T.ta T.to.length T.tc] (λ_:ax×Nat=>True) (λ_=>[(5,J Z t),M 6 p6,(4,aO (O ⟨vb,vo+b*6,U⟩)),(3,J Z b),M 1 p1,M 2 p2]) (λy=>aj p2::D p1 nm pa re (O ⟨vb,vo,U⟩) n c::au p6 T.pa T.ps.length T.pc T.la T.xs.length T.lc T.kind T.on T.ta T.to.length T.tc::am (O ⟨vb,vo,U⟩) n c (rs.set b (B1 y))::(λy:ax×Nat=>aH y.1 (B.xs.length+T.xs.length) y.2 (B.xs++T.xs)) y::qJ T::Te) mixed aB ?_ λy _=>?_
 ·refine W 0 ?_;refine W 1 ?_;refine W 2 ?_;refine W 3 ?_;refine W 5 ?_;refine W 6 ?_;refine cD 4 E (gM 4 rfl aB ?_);refine uZ 7 4 rfl rfl rfl T.xs (dL:=ME) ki (λ_ _ _ h=>h) ep (λx u hu=>?_) (λw hw=>lW hw (k:=5) rfl ep A) A A E (λ_=>aB) λna nc=>?_
  ·unfold ki at hu
   simp only[bX,gr,or_false]at hu;rcases hu with rfl|rfl|rfl|rfl|rfl|rfl|rfl|rfl<;>rfl
  rw[<-ee];simp only[bS,bI];refine W 8 ?_;refine W 9 ?_;have aaT:=Zi na nc;refine jr 10 E E aB ?_;exact dy (na,nc) trivial V aF
 obtain⟨na,nc⟩:=y;simp only;obtain⟨GD,Ua⟩:∃GD,GD=B1 (na,nc):=⟨_,rfl⟩;rw[<-Ua];have Cn:GD={B with la:=na,lc:=nc,xs:=B.xs++T.xs}:=by rw[Ua,hB1]
 obtain⟨r1,hr1⟩:∃r1,r1=rs.set b GD:=⟨_,rfl⟩;rw[<-hr1];have U5:r1.length=n:=by rw[hr1,fK];exact oG
 have Y3:r1[b]?=O GD:=by rw[hr1];exact fk A
 have acC:r1[t]?=O T:=by rw[hr1,fY fZ];exact hT
 have acB:∀x,x≠b->r1[x]?=rs[x]?:=λx h=>by rw[hr1,fY (λe=>h e.symm)]
 have hpp:r1.map cd=rs.map cd:=by
  rw[hr1,eT,show cd GD=cd B by rw[Cn];rfl];exact m_ (by rw[aW,hB];rfl)
 have Yv:GD.Bd:=by
  rw[Cn];refine⟨rP.kind,rP.on,rP.bg,rP.iN,by simp only[bW];omega,λx hx=>?_,rP.to⟩;rcases bO.1 hx with hx|hx
  ·exact rP.ins x hx
  ·exact rK.ins x hx
 have afh:∀r∈r1,r.Bd:=λr hr=>by
  rw[hr1]at hr;rcases j_ hr with hr|rfl
  ·exact rB r hr
  ·exact Yv
 obtain⟨l1,gk⟩:∃l1,l1=r1.map aK.dD:=⟨_,rfl⟩;have ab9:l1=l.set b {bi l b with list:=(bi l b).list++(bi l t).list}:=by
  rw[gk,hr1,eT,<-hl,Ir,Nk,Cn];unfold aK.dD;simp only[bz]
 have hf1:eW R l1:=by rw[ab9];exact Nb hro.ok A A
 have afd:∀x,be l1 x=be l x:=λx=>wu (by rw[ab9,fK]) (λi=>by
  rw[ab9];unfold dY;rw[fN]
  by_cases e:b=i
  ·subst e
   rw[al rfl,al A,ck A]
  ·rw[ai e]) x
 unfold Te;rw[<-hpp];let Td:=D p1 nm pa re (O ⟨vb,vo,U⟩) n c::au p6 T.pa T.ps.length T.pc T.la T.xs.length T.lc T.kind T.on T.ta T.to.length T.tc::am (O ⟨vb,vo,U⟩) n c r1::aH na (B.xs.length+T.xs.length) nc (B.xs++T.xs)::qJ T::(lQ B::lQ T::Tc);have aip:∀w w',Wd SS w0 (r1.map cd++(aj p2::Td)) w->Wd (df (r1.map cd)) w (r1.map cd) w'->aY w' (I (O ⟨vb,vo,U⟩) r1.length c) 6 (r1.map aK.dD) da:=λw w' hw lP=>by
  have h5:=hw.comp lP;have h6:Wd SS w0 (am (O ⟨vb,vo,U⟩) n c r1::(aj p2::D p1 nm pa re (O ⟨vb,vo,U⟩) n c::au p6 T.pa T.ps.length T.pc T.la T.xs.length T.lc T.kind T.on T.ta T.to.length T.tc::aH na (B.xs.length+T.xs.length) nc (B.xs++T.xs)::qJ T::((lQ B::lQ T::(B.xs.map gC++(T.xs.map gC++RL)))++r1.map cd))) w':=by
   refine h5.perm (aX.2 λe=>?_);simp only[bU,bM,D,aj,am,au,aH,Tc,Td];omega
  have h7:=lW (k:=0) (l:=r1) (g:=eA) (a:=O ⟨vb,vo,U⟩) (c:=c) (e:=46) h6 (by rw[U5];rfl) de A;refine ML h7 λr hr=>?_;obtain⟨x,hx⟩:=bR hr;have hxp:(r1.map cd)[x]?=O (cd r):=by rw[aW,hx];rfl
  by_cases e1:x=b
  ·rw[e1,Y3]at hx
   obtain rfl:=bJ hx;refine Wd.MK (H:=(r1.map cd).eraseIdx x++(aj p2::D p1 nm pa re (O ⟨vb,vo,U⟩) n c::au p6 T.pa T.ps.length T.pc T.la T.xs.length T.lc T.kind T.on T.ta T.to.length T.tc::am (O ⟨vb,vo,U⟩) n c r1::qJ T::lQ T::RL)) (h5.perm (aX.2 λe=>?_)) Yv;have h8:=aX.1 (lh hxp) e;have h9:oy GD=aH na (B.xs.length+T.xs.length) nc (B.xs++T.xs)::lQ B::(B.xs++T.xs).map gC:=by
    rw[Cn];unfold oy qJ lQ;simp only[bW]
   rw[h9];simp only[bU,bM,bz,D,aj,am,au,aH,Tc,Td]at h8|-
   omega
  by_cases e2:x=t
  ·rw[e2,acC]at hx
   obtain rfl:=bJ hx;refine Wd.MK (H:=(r1.map cd).eraseIdx x++(aj p2::D p1 nm pa re (O ⟨vb,vo,U⟩) n c::au p6 T.pa T.ps.length T.pc T.la T.xs.length T.lc T.kind T.on T.ta T.to.length T.tc::am (O ⟨vb,vo,U⟩) n c r1::aH na (B.xs.length+T.xs.length) nc (B.xs++T.xs)::lQ B::(B.xs.map gC++RL))) (h5.perm (aX.2 λe=>?_)) rK;have h8:=aX.1 (lh hxp) e;unfold oy;simp only[bU,bM,D,aj,am,au,aH,Tc,Td]at h8|-
   omega
  have Gl:=hx;rw[acB x e1]at Gl;obtain⟨k,hk⟩:=bR (hRm x r Gl e1 e2);let Tg:=(B.xs.map gC++(T.xs.map gC++RL.eraseIdx k));refine Wd.aa9 (H:=(r1.map cd).eraseIdx x++(aj p2::D p1 nm pa re (O ⟨vb,vo,U⟩) n c::au p6 T.pa T.ps.length T.pc T.la T.xs.length T.lc T.kind T.on T.ta T.to.length T.tc::am (O ⟨vb,vo,U⟩) n c r1::aH na (B.xs.length+T.xs.length) nc (B.xs++T.xs)::qJ T::lQ B::lQ T::Tg)) (h5.perm (aX.2 λe=>?_)) (afh r hr);have h8:=aX.1 (lh hxp) e;have h9:=aX.1 (lh hk) e;simp only[bU,bM,D,aj,am,au,aH,Tc,Td,Tg]at h8 h9|-
  omega
 refine bG (H1:=r1.map cd++(aj p2::Td)) (aX.2 λe=>?_) ?_<;>(try unfold Td)<;>try unfold Tc
 ·simp only[bU,bM,D,aj,am,au,aH]
  omega
 refine bA ?_;refine fO (val:=λ_:List aK=>.tuple #[]) (cZ:=λr2=>r2.map cd) (φ:=λr2=>GF l1 r1 b t T.to r2) rfl (λw hw=>?_) λr2 Cz=>?_
 ·have abF:=hw.kw
  have h9:=WG nm pa re vb vo c p1 r1 R b t T acC A fZ A (by rw[<-gk];exact hf1) afh w hw.pre (λj v hj=>by rw[eC,U5]at*;exact abF.rX 1 rfl hj) (λx r hr j v hj=>by
   have:=abF.dp (k:=3) rfl (e_ de r1 x r j v hr hj);rwa[<-eB]at this) (abF.NU (k:=7) rfl rfl rK.to.1 rK.to.2) (λw' lP=>aip w w' hw lP)
  rw[<-gk]at h9;exact h9
 have aib:r2.length=n:=by rw[Cz.len];exact U5
 obtain⟨b2,wS⟩:=bE r2 b A;obtain⟨t2,XC⟩:=bE r2 t A;obtain⟨aek,agG,aej,_⟩:=Cz.at' b GD b2 Y3 wS;obtain⟨B2,GZ⟩:∃B2:aK,B2={GD with kind:=T.kind,on:=T.on,ta:=T.ta,tc:=T.tc,to:=T.to}:=⟨_,rfl⟩;obtain⟨z2,Bj⟩:∃z2,z2=r1.set b B2:=⟨_,rfl⟩;have afO:z2.length=n:=by rw[Bj,fK];exact U5
 have afN:z2[t]?=O T:=by rw[Bj,fY fZ];exact acC
 obtain⟨T3,Xu⟩:∃T3:aK,T3=⟨U,0,[],U,0,[],1,lB,U,0,[]⟩:=⟨_,rfl⟩;have Nr:(r1.flatMap eA).take (b*6+2)++[J Z T.kind,ag T.on.dq,J Z T.on.n,I T.ta T.to.length T.tc]++(r1.flatMap eA).drop (b*6+2+4)=z2.flatMap eA:=by
  rw[Bj];exact Cg de Y3 (k:=2) (vs:=[J Z T.kind,ag T.on.dq,J Z T.on.n,I T.ta T.to.length T.tc]) rfl (by rw[GZ,Cn];rfl)
 have Ns:(z2.flatMap eA).take (t*6)++[I U 0 0,I U 0 0,J Z 1,ag false,J Z 0,I U 0 0]++(z2.flatMap eA).drop (t*6+6)=(z2.set t T3).flatMap eA:=by
  have h5:=iZ de (l:=z2) (i:=t) A T3;rw[Xu]at h5|-
  exact h5
 refine bG (H1:=aj p2::D p1 nm pa re (O ⟨vb,vo,U⟩) n c::au p6 T.pa T.ps.length T.pc T.la T.xs.length T.lc T.kind T.on T.ta T.to.length T.tc::am (O ⟨vb,vo,U⟩) n c r1::aH na (B.xs.length+T.xs.length) nc (B.xs++T.xs)::qJ T::((lQ B::lQ T::Tc)++r2.map cd)) (aX.2 λe=>?_) ?_<;>try unfold Tc
 ·simp only[bU,bM,D,aj,am,au,aH]
  omega
 refine bA ?_;refine k_ 3 (j:=b*6+2) rfl A (by rw[cA de];omega) ?_;rw[Nr];simp only[bS,bI];refine bA ?_;refine k_ 3 (j:=t*6) rfl A (by rw[cA de];omega) ?_;rw[Ns];simp only[bS,bI];obtain⟨B3,hB3⟩:∃B3:aK,B3=jf B2 b2.ps:=⟨_,rfl⟩;obtain⟨r3,XB⟩:∃r3,r3=(r2.set b B3).set t T3:=⟨_,rfl⟩;have aid:r3.length=n:=by rw[XB,fK,fK];exact aib
 have acD:r3[b]?=O B3:=by rw[XB,fY Vf];exact fk A
 have acF:r3[t]?=O T3:=by rw[XB];exact fk (by rw[fK];omega)
 have acE:∀x,x≠b->x≠t->r3[x]?=r2[x]?:=λx h1 h2=>by rw[XB,fY (λe=>h2 e.symm),fY (λe=>h1 e.symm)]
 have aaP:∀x r r',r1[x]?=O r->r2[x]?=O r'->x≠t->r'.ps.map ch.iN=r.ps.map λq=>yW l b t x q.iN:=λx r r' h1 h2 Vo=>by
  obtain⟨_,_,_,g4⟩:=Cz.at' x r r' h1 h2;have pw:x<n:=by rw[<-U5];exact(aJ.1 h1).1
  have aaC:∀q∈r.ps,q.iN.src.length=(be l x).length:=λq hq=>by
   have h5:l1[x]?=O r.dD:=by rw[gk,aW,h1];rfl
   have:=((hf1.block x _ h5).bg q.iN (aT.2 ⟨q,hq,rfl⟩)).len;rwa[afd]at this
  have EH:(x:Int)∈T.to↔t∈be l x:=by
   have h5:dY l t=T.to:=by rw[kT A,Nk];rfl
   rw[<-h5];unfold be;rw[cR,cW,dv];exact⟨λh=>⟨A,h⟩,λh=>h.2⟩
  rw[g4]
  by_cases hm:(x:Int)∈T.to
  ·rw[al hm]
   refine ew λq hq=>?_;rw[<-Xa hj Vo (EH.1 hm) q.iN (aaC q hq)];unfold BR RV;rw[afd]
  ·rw[ai hm]
   refine ew λq hq=>?_;exact(Wr hj Vo (λh=>hm (EH.2 h)) q.iN (aaC q hq)).symm
 have yR:r3.map aK.dD=cH l b t:=by
  apply cY;intro x
  by_cases pw:x<n
  ·rw[ld (ck (show x<l.length by omega)),aW]
   unfold pG
   by_cases e1:x=t
   ·rw[al e1,e1,acF,Xu]
    rfl
   rw[ai e1]
   by_cases e2:x=b
   ·rw[al e2,e2,acD,b_,hB3,GZ,Cn]
    have h5:=aaP b GD b2 Y3 wS fZ;rw[Cn]at h5;unfold jf aK.dD;simp only[h5,Ir,Nk,bz];unfold aK.dD;simp only[dM]
    rfl
   rw[ai e2];obtain⟨r,hr⟩:=bE rs x A;obtain⟨r',Jz⟩:=bE r2 x A;have hrx:r1[x]?=O r:=by rw[acB x e2];exact hr
   obtain⟨g1,_,_,_⟩:=Cz.at' x r r' hrx Jz;have h5:=aaP x r r' hrx Jz e1;have h6:bi l x=r.dD:=gG (by rw[hl,aW,hr];rfl);rw[acE x e2 e1,Jz,b_,h6];congr 1;have h7:r'.dD={r.dD with bg:=r'.ps.map ch.iN}:=by
    conv=>lhs;rw[g1]
    rfl
   rw[h7,h5];unfold aK.dD;simp only[dM]
   rfl
  ·rw[cm (by rw[aG];omega),cm (by rw[dj];omega)]
 have aic:∀r∈r3,r.Bd:=λr hr=>by
  rw[XB]at hr;rcases j_ hr with hr|rfl
  ·rcases j_ hr with hr|rfl
   ·obtain⟨x,hx⟩:=bR hr
    have pw:=(aJ.1 hx).1;obtain⟨r0,hr0⟩:=bE r1 x A;exact(Cz.at' x r0 r hr0 hx).2.2.1
   ·rw[hB3,GZ]
    exact⟨rK.kind,rK.on,aej.bg,aej.iN,Yv.list,Yv.ins,rK.to⟩
  ·rw[Xu]
   exact⟨show dE (1:Int)from⟨A,A⟩,show dE (0:Int)from⟨A,A⟩,by simp,by simp,by simp,by simp,by simp⟩
 have abQ:(z2.set t T3).flatMap eA=r3.flatMap eA:=by
  have h5:(z2.set t T3).map eA=r3.map eA:=by
   apply cY;intro x;rw[aW,aW]
   by_cases e1:x=t
   ·rw[e1,acF,fk A]
   rw[fY (λe=>e1 e.symm)]
   by_cases e2:x=b
   ·rw[e2,acD,Bj,fk A,b_,b_,hB3]
    unfold jf eA;simp only[agG];rw[GZ]
   rw[Bj,fY (λe=>e2 e.symm),acE x e2 e1]
   by_cases pw:x<n
   ·obtain⟨r,hr⟩:=bE r1 x A
    obtain⟨r',Jz⟩:=bE r2 x A;obtain⟨g1,g2,_,_⟩:=Cz.at' x r r' hr Jz;rw[hr,Jz,b_,b_];congr 1
    conv=>rhs;rw[g1]
    unfold jf eA;simp only[g2]
   ·rw[cm A,cm A]
  rw[rT,h5,<-rT]
 have ahZ:cd B3=cd b2:=by
  have h5:b2.pa=GD.pa:=by rw[aek];rfl
  have h6:b2.pc=GD.pc:=by rw[aek];rfl
  rw[hB3,GZ];unfold cd BF jf;simp only[h5,h6]
 have hcP:∀e,(r3.map cd).count e+[cd t2].count e=(r2.map cd).count e+[cd T3].count e:=λe=>by
  have h5:(r2.map cd).set b (cd B3)=r2.map cd:=by rw[ahZ];exact m_ (by rw[aW,wS];rfl)
  have h6:=count_set (l:=r2.map cd) (k:=t) (x:=cd t2) (y:=cd T3) (by rw[aW,XC];rfl) e;rw[XB,eT,eT,h5];exact h6
 have hcL:∀e,(r3.map eL).count e=[eL B3].count e+[eL T3].count e+RL.count e:=λe=>by
  have h5:r3.map eL=((rs.map eL).set b (eL B3)).set t (eL T3):=by
   apply cY;intro x;rw[aW]
   by_cases e1:x=t
   ·rw[e1,acF,fk (by rw[fK,aG];omega)]
    rfl
   rw[fY (λe=>e1 e.symm)]
   by_cases e2:x=b
   ·rw[e2,acD,fk (by rw[aG];omega)]
    rfl
   rw[fY (λe=>e2 e.symm),acE x e2 e1,aW,<-acB x e2]
   by_cases pw:x<n
   ·obtain⟨r,hr⟩:=bE r1 x A
    obtain⟨r',Jz⟩:=bE r2 x A;obtain⟨g1,_,_,_⟩:=Cz.at' x r r' hr Jz;rw[hr,Jz,b_,b_];congr 1
    conv=>lhs;rw[g1]
    rfl
   ·rw[cm A,cm A]
  have h6:=count_set (l:=rs.map eL) (k:=b) (x:=eL B) (y:=eL B3) (by rw[aW,hB];rfl) e;have h7:=count_set (l:=(rs.map eL).set b (eL B3)) (k:=t) (x:=eL T) (y:=eL T3) (by rw[fY fZ,aW,hT];rfl) e;have h8:=aX.1 hRp e;rw[h5];simp only[bM,dG]at h6 h7 h8|-
  omega
 try simp only[am,aH]
 rw[abQ];refine lr (H':=aj p2::D p1 nm pa re (O ⟨vb,vo,U⟩) n c::am (O ⟨vb,vo,U⟩) n c r3::(r3.map cd++r3.map eL)) (λw hw=>?_) ?_
 ·have agh:oy B3=aH na (B.xs.length+T.xs.length) nc (B.xs++T.xs)::lQ T::(B.xs++T.xs).map gC:=by
   rw[hB3,GZ,Cn];unfold oy qJ lQ jf;simp only[bW]
  have h5:Wd SS w0 (oy B3++(aj p2::D p1 nm pa re (O ⟨vb,vo,U⟩) n c::am (O ⟨vb,vo,U⟩) n c r3::(RL++r2.map cd))) w:=by
   refine hw.pick ⟨au p6 T.pa T.ps.length T.pc T.la T.xs.length T.lc T.kind T.on T.ta T.to.length T.tc::qJ T::[lQ B],aX.2 λe=>?_⟩;rw[agh];simp only[bU,bM,dG,bz,D,aj,am,au,aH];omega
  have h6:Wd SS w0 (oy T3++(eL B3::(aj p2::D p1 nm pa re (O ⟨vb,vo,U⟩) n c::am (O ⟨vb,vo,U⟩) n c r3::(RL++r2.map cd)))) w:=by
   have h7:=((Wd.join h5).CI 3 1).CI 56 8;rw[Xu];exact h7
  have h8:Wd SS w0 ((BF T3::T3.ps.map dZ)++(eL T3::(eL B3::(aj p2::D p1 nm pa re (O ⟨vb,vo,U⟩) n c::am (O ⟨vb,vo,U⟩) n c r3::(RL++r2.map cd))))) w:=by
   have h7:=(Wd.join h6).CI 49 2;rw[Xu]at h7|-
   exact h7
  refine(Wd.join h8).pick ⟨[cd t2],aX.2 λe=>?_⟩;have h9:=hcP e;have Ss:=hcL e;have Kn:cq.join (BF T3::T3.ps.map dZ)=cd T3:=rfl;rw[Kn];simp only[bU,bM,dG,D,aj,am]at h9 Ss|-
  omega
 refine aU ?_;have YQ:=qG hj;exact a_ r3 ⟨aid,by rw[yR];exact hro.join hj,by rw[yR,CG hj];exact JA,by rw[yR,<-AH hro QQ];exact U6,aic⟩ (by rw[yR,<-hl];omega) V aF
theorem abg(X:bZ)(R:Nat)(hX:lj X R)(hT:AE X R)(vf:rE X.blocks)(hlen:X.blocks.length<=100)(oY:eu X.blocks<=1000)(vg:dE X.params)(w0:ae):GG w0 64 [] [] ju X:=by
 classical
 obtain⟨xn,xp,xr,xb⟩:=X;have hR:=hX.le;have hf:=hX.ok;have dW:=hX.pos;simp only at hlen oY vf hf dW;intro a c bs wb gV oF QP hfr hw;simp only at gV;subst gV;have jX:bs.length<=100:=by rw[aG]at hlen;exact hlen
 have hg:=hf.iD;have hk:=i_ hg dW;obtain⟨Gn,_⟩:=qK hg dW;have EJ:(cQ (bs.map aK.dD)).length=(ek (bs.map aK.dD)).length:=by unfold cQ;rw[ny]
 have KP:=pg dW;rw[aG]at KP dW;simp only[aS,cj];refine aR func64 rfl ntmps64 rfl hw ?_;obtain⟨SS,DT⟩:∃SS,SS=df (eM a c bs):=⟨_,rfl⟩;rw[<-DT]
 repeat(first|refine bA ?_|refine dd λ_ _=>?_)
 rename_i p1 _ p2 _;obtain⟨bl,or⟩:∃bl,bl=bs.map aK.dD:=⟨_,rfl⟩;obtain⟨o,G9⟩:∃o,o=cQ bl:=⟨_,rfl⟩;rw[<-or]at hk EJ KP Gn;rw[<-G9]at hk EJ Gn;have YY:o.length<=bs.length:=A;have hkF:eN ⟨xn,xp,xr,bs.map aK.dD⟩=cG bl o:=by rw[G9,or];rfl
 have s_:∀w:ae,aY w (I a bs.length c) 6 bl da->iL Y 107 [aC #[aQ xn,J Z xp,J Z xr,I a bs.length c]] w λu w'=>∃x:ax×Nat,u=I x.1 o.length x.2/\Wd db w [G x.1 o.length x.2 3 1 (o.map dz)] w'/\True:=λw h=>by
  have:=CJ (aQ xn) (J Z xp) (J Z xr) bl (I a bs.length c) ⟨_,_,_,rfl⟩ w h (by rw[or,aG];exact jX) (by rw[or];exact hg) (by rw[or,aG];exact dW);rw[EJ,G9];exact this
 have rB:∀w,Wd SS wb (aj p2::D p1 xn xp xr a bs.length c::eM a c bs) w->aY w (I a bs.length c) 6 bl da:=λw hw=>by
  rw[or];refine Wd.blocks (H:=[]) (hw.sub (.cons _ (.cons _ ?_))) A oF;rw[cj];exact dU _
 have lZ:∀(y:ax×Nat) (S:Nat->Prop) (v w:ae),Wd S v (eM a c bs++[G y.1 o.length y.2 3 1 (o.map dz),aj p2,D p1 xn xp xr a bs.length c]) w->iL Y 106 [aC #[aQ xn,J Z xp,J Z xr,I a bs.length c],I y.1 o.length y.2] w λu w'=>∃x:ax×Nat×List aK,u=aC #[aQ xn,J Z xp,J Z xr,I x.1 x.2.2.length x.2.1]/\Wd (df (eM a c bs)) w (eM x.1 x.2.1 x.2.2) w'/\
   (x.2.2.map aK.dD=cG bl o/\∀b∈x.2.2,b.Bd):=λy S v w hw=>by
  have:=VD xn xp xr a c bs o y.1 y.2 R jX dW oF hf (by rw[<-or];exact hk) w hw.pre (mF hw.kw (k:=0) rfl rfl A λx hx=>by have:=hk.lt x hx;rw[or,aG]at this;omega);rw[<-or]at this;exact this
 obtain⟨TF,hTF⟩:∃TF,TF=ju ⟨xn,xp,xr,bs.map aK.dD⟩:=⟨_,rfl⟩;rw[<-hTF];refine dI [D p1 xn xp xr a bs.length c] (λx:ax×Nat×List aK=>x.2.2.map aK.dD=TF.blocks/\(∀b∈x.2.2,b.Bd)/\x.2.2.length<=1000/\dE TF.params/\dE TF.bm) (λ_=>[M 2 p2]) (λx=>D p2 TF.name TF.params TF.bm x.1 x.2.2.length x.2.1::eM x.1 x.2.1 x.2.2) mixed aB ?_ λx hx=>?_
 ·refine W 0 ?_;refine W 1 ?_;refine lY 2 (val:=λx:ax×Nat=>.slice x.1 o.length x.2) (cZ:=λx=>[G x.1 o.length x.2 3 1 (o.map dz)]) (φ:=λ_=>True) rfl E aB (λw hw=>s_ w (rB w hw)) λy _=>?_;obtain⟨oa,oc⟩:=y;simp only[bF,aS];refine bG (H1:=eM a c bs++[G oa o.length oc 3 1 (o.map dz),aj p2,D p1 xn xp xr a bs.length c]) (fG (l₁:=[_,_,_])) ?_;refine qX 3 (val:=λx:ax×Nat×List aK=>.agg #[aQ xn,J Z xp,J Z xr,I x.1 x.2.2.length x.2.1]) (cZ:=λx=>eM x.1 x.2.1 x.2.2) (φ:=λx=>x.2.2.map aK.dD=cG bl o/\∀b∈x.2.2,b.Bd) rfl E aB (λw hw=>lZ (oa,oc) _ _ w hw) λz hz=>?_;obtain⟨na,nc,ks⟩:=z;obtain⟨yQ,yB⟩:=hz;simp only at yQ yB|-
  have B0:ks.length=o.length:=by
   have:=bD List.length yQ;rwa[aG,dX]at this
  have IA:rD R (ks.map aK.dD):=by
   rw[yQ];exact⟨jx (by rw[or];exact hf) hk,vt hk (by rw[or];exact vf)⟩
  have hmk:eu (ks.map aK.dD)<=1000:=by
   rw[yQ];exact dS (nG hk) (by rw[or];exact oY)
  refine qX 4 (val:=λx:ax×Nat×List aK=>.agg #[aQ xn,J Z xp,J Z xr,I x.1 x.2.2.length x.2.1]) (cZ:=λx=>eM x.1 x.2.1 x.2.2) (φ:=λx=>x.2.2.map aK.dD=gt (ks.map aK.dD)/\∀b∈x.2.2,b.Bd) rfl E aB (λw hw=>MT xn xp xr na nc ks R A A yB IA hmk w hw.pre) λz hz=>?_;obtain⟨ca,cc,cs⟩:=z;obtain⟨Ap,G3⟩:=hz;simp only at Ap G3|-
  have hcF:gt (eN ⟨xn,xp,xr,bs.map aK.dD⟩)=cs.map aK.dD:=by rw[hkF,Ap,yQ]
  have aeV:=hT.mid;have wO:=hT.len;rw[hcF]at aeV wO;have agr:TF=fJ ⟨xn,xp,xr,cs.map aK.dD⟩:=by
   rw[hTF];unfold ju;rw[hcF]
   rfl
  refine qX 5 (val:=λx:ax×Nat×List aK=>.agg #[aQ TF.name,J Z TF.params,J Z TF.bm,I x.1 x.2.2.length x.2.1]) (cZ:=λx=>eM x.1 x.2.1 x.2.2) (φ:=λx=>x.2.2.map aK.dD=TF.blocks/\(∀b∈x.2.2,b.Bd)/\x.2.2.length<=1000/\dE TF.params/\dE TF.bm) rfl E aB (λw hw=>?_) λz hz=>?_
  ·have h9:=Rx ⟨xn,xp,xr,cs.map aK.dD⟩ R aeV (by simp only[aG]at wO|-;omega) vg {w with heap:=#[]} ca cc cs w rfl G3 ⟨rfl,rfl,rfl,aN _,λk hk=>absurd hk (Nat.not_lt_zero k)⟩ (λ_ _=>aN _) hw.pre
   rw[<-agr]at h9;exact h9
  obtain⟨fa,fc,fs⟩:=z;simp only at hz|-
  refine bG (H1:=aj p2::D p1 xn xp xr a bs.length c::G oa o.length oc 3 1 (o.map dz)::eM fa fc fs) fM ?_;refine dn 6 E aB ?_;refine ef E ?_;exact dy (fa,fc,fs) hz V aB
 refine aU ?_;rw[DT];exact fD rfl λw hw=>⟨x,rfl,hw.sub (.cons _ (.refl _)),hx⟩
theorem L9(hu:jy u)(hX:u.funcs[k]?=O X):(ju X).blocks.length<=X.blocks.length/\(ju X).params=X.params/\0<=(ju X).bm/\(ju X).bm<=X.bm/\eu (ju X).blocks<=eu X.blocks:=by
 obtain⟨R,hA,hT⟩:=D3 hu hX;obtain⟨h1,h2,h3⟩:=HN hA hT;refine⟨h1,rfl,?_,h3,h2⟩;show(0:Int)<=((l_ _ _).length:Int);omega
theorem PB(hu:jy u)(hX:u.funcs[k]?=O X):eu X.blocks<=300:=by
 have hs:=B9.same hu hX;have h5:=hs.size;rw[<-sI]at h5;omega
theorem Z4(u:dk)(hu:jy u)(k:Nat)(X:bZ)(hX:u.funcs[k]?=O X)(bs0:K)(w0:ae)(gV:aY w0 bs0 6 X.blocks da)(hlen:X.blocks.length<=24)(A8:CV X):
  iL Y 16 [aC #[aQ X.name,J Z X.params,J Z X.bm,bs0]] w0 λu w'=>∃y:mH,u=aC #[aQ y.name,J Z y.params,J Z y.bm,I y.a y.bs.length y.c]/\Wd db w0 [uE y] w'/\(y.fn=ju X/\y.bs.length<=1000/\∀b∈y.bs,b.Bd):=by
 obtain⟨ba,bc,q,hq,xB,Hb,Dy⟩:=xe gV;have oY:=PB hu hX;refine(RT u hu k X hX A8 hlen A bs0 w0 gV λb hb=>?_).mono λu2 w' ⟨x,h1,h2,h3,h5⟩=>⟨⟨(ju X).name,(ju X).params,(ju X).bm,x.1,x.2.1,x.2.2⟩,h1,by
  have h6:Wd db w0 (eM x.1 x.2.1 x.2.2++[]) w':=by rw[cj];exact h2
  exact h6.join,by unfold mH.fn;simp only[h3],by
  have h4:x.2.2.length=(ju X).blocks.length:=by rw[<-h3,aG]
  have h6:=(L9 hu hX).1;simp only;omega,h5⟩
 rw[<-xB]at hb;obtain⟨c,hc,e⟩:=aT.1 hb;exact aK.Bd.of e.symm (A8.bd (by rw[<-xB];exact aT.2 ⟨c,hc,rfl⟩) (Dy c hc))
end
end Go.Proofs.YthfhgolkafpmnaaGreatDoor
