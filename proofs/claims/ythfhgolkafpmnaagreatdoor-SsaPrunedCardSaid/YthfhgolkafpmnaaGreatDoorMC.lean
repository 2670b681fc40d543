/- Texts joined: SngZ SngU OneP OneQ OneR OneT OneA RepV. -/
import Derived.Test.YthfhgolkafpmnaaGreatDoorGD
import Derived.Test.YthfhgolkafpmnaaGreatDoorGM
import Derived.Test.YthfhgolkafpmnaaGreatDoorHA
import Derived.Test.YthfhgolkafpmnaaGreatDoorHF
import Derived.Test.YthfhgolkafpmnaaGreatDoorHN
import Derived.Test.YthfhgolkafpmnaaGreatDoorIJ
import Derived.Test.YthfhgolkafpmnaaGreatDoorMA
namespace Go.Proofs.YthfhgolkafpmnaaGreatDoor
section
open Go Go.RowKit
theorem G5{a b:List eC}{r:Int}:∀m,m<=b.length->od (a++b) r (a.length+m)=match od b r m with
  |some k=>some (a.length+k)
  |none=>od a r a.length
 |0,_=>by
  have key:∀n,n<=a.length->od (a++b) r n=od a r n:=by
   intro n
   induction n with
   |zero=>intro _;rfl
   |succ n ih=>
    intro hn;have e0:∀c:List eC,od c r (n+1)=if (c[n]?.map (·.dst))=some r then some n else od c r n:=λ_=>rfl
    rw[e0,e0,dG ag,ih ag]
  exact key _ (bH _)
 |m+1,hm=>by
  have e0:∀(c:List eC) (n:Nat),od c r (n+1)=if (c[n]?.map (·.dst))=some r then some n else od c r n:=λ_ _=>rfl
  rw[<-dA,e0,e0,dg ag,mf,G5 m ag]
  by_cases h:(b[m]?.map (·.dst))=some r
  ·rw[if_pos h,if_pos h]
  ·rw[if_neg h,if_neg h]
theorem I4{l:List (Nat×Int)}{r:Nat}:∀{j:Nat} {q:Nat×Int},l[j]?=some q->q.1=r->(∀j' q',l[j']?=some q'->q'.1=r->j'=j)->oF l r=some q.2:=by
 induction l with
 |nil=>intro j q h;simp at h
 |cons p l ih=>
  intro j q h hq hu;rw[pI];cases j with
  |zero=>
   have e:p=q:=by simpa using h
   subst e;have hn:oF l r=none:=r_.2 λq' hq' e=>by
    obtain⟨j',Pb⟩:=br hq';have:=hu (j'+1) q' (by simpa using Pb) e;omega
   rw[hn];simp only;rw[if_pos hq]
  |succ j=>
   have h2:l[j]?=some q:=by simpa using h
   rw[ih h2 hq λj' q' Pb e=>by
    have:=hu (j'+1) q' (by simpa using Pb) e;omega]
section
variable {X:aZ} {Y:aZ} {ν:Nat->Nat->Int} {R:Nat}
theorem Us{u:a7}(Xj:JL u X R)(hs:SgF X Y ν){b to:Nat}{B T:ar}(hB:X.blocks[b]?=some B)(hT:X.blocks[to]?=some T)(ht:(to:Int)∈B.to){f g:k7}(C6:f.aF.length=R)(hgl:g.aF.length=Y.aF.toNat)
  (hrel:∀r:Nat,gM X.blocks r b B.list.length->cD g (nm ν (fJ X) X.params.toNat b B.list.length r)=f.aF.getD r 0) (r:Nat) (hl:gM X.blocks r to (0:Nat)) (g':k7)
  (Zg:g'.aF=iD g ((bf X.blocks to).idxOf b) (eU Y.blocks to)):
  cD g' (nm ν (fJ X) X.params.toNat to 0 r)=(iD f ((bf X.blocks to).idxOf b) T.aL).getD r 0:=by
 have OB:X.aF.toNat=R:=by rw[Xj.aF];omega
 obtain⟨P,hP⟩:∃P,P=fJ X:=⟨_,rfl⟩;obtain⟨n,hn⟩:∃n,n=X.params.toNat:=⟨_,rfl⟩;have Oy:P=de X.blocks R:=by rw[hP];unfold fJ;rw[OB]
 have L8:=hs.inj;have bT:=hs.lt;have gT:=hs.ge;have qJ:=hs.par;have F_:=hs.blocks;rw[<-hP]at L8 bT F_ hrel⊢;rw[<-hn]at F_ hrel⊢;have pD:=Xj.ok.iM;have jq:∀i,dd P i=dd X.blocks i:=λi=>by rw[Oy];exact kJ _ _ i
 have Y7:P.length=X.blocks.length:=by rw[Oy,eM]
 have Cq:cL P:=r4 Y7 jq pD;have RT:0<P.length:=by rw[Y7];exact Xj.pos
 have wU:bf P to=bf X.blocks to:=by rw[Oy,zf]
 have hfP:eX R P:=by rw[Oy];exact oS Xj.ok (bH _)
 have iR:=(aC.1 hB).1;have xC:=(aC.1 hT).1;have Vl:Edge X.blocks b to:=by unfold Edge;rw[fR hB];exact ht
 have W0:b∈bf X.blocks to:=pg iR Vl;have hKl:(bf X.blocks to).idxOf b<(bf X.blocks to).length:=ju W0;have hKg:(bf X.blocks to)[(bf X.blocks to).idxOf b]?=some b:=by rw[aB hKl,nL]
 generalize (bf X.blocks to).idxOf b=K at*;have agM:1<=to:=by have:=hs.pos b (to:Int) (by rw[fR hB];exact ht);omega
 have IN:gD P (-1) 0 to:=(vV jq).2 (hs.reach to xC);obtain⟨PT,aai⟩:∃PT,PT=({T with aL:=T.aL++di X.blocks R to}:ar):=⟨_,rfl⟩;have WJ:P[to]?=some PT:=by rw[Oy,aai];exact iq hT
 have aah:a8 P to=PT:=eD WJ;have S6:PT.aL=T.aL++di X.blocks R to:=by rw[aai]
 have It:(a8 P b).list=B.list:=by rw[Oy,s6 iR,eD hB]
 have hCp:eU Y.blocks to=PT.aL.mapIdx (yv ν P n to):=by
  unfold eU;rw[F_,pT WJ]
  rfl
 have ad8:Zu P to K=b:=by unfold Zu;rw[wU,hKg];rfl
 have oy:∀j p,PT.aL[j]?=some p->cD g ((yv ν P n to j p).src.getD K gK)=cD f (p.src.getD K gK):=λj p hp=>by
  have xB:=aA hp;have AX:=(hfP.block to PT WJ).aL p xB;have hlen:p.src.length=(bf X.blocks to).length:=by rw[AX.len,wU]
  have hv:p.src[K]?=some (p.src[K]'ag):=aB _;generalize p.src[K]'ag=v at hv;have hvo:=AX.tU v (aA hv);have h1:(yv ν P n to j p).src.getD K gK=o6 ν P n b B.list.length v:=by
   unfold yv;simp only;rw[cz,cM,hv];simp only[bz,dF];unfold yw;rw[ad8,It]
  have h2:p.src.getD K gK=v:=by rw[cz,hv];rfl
  rw[h1,h2];unfold o6
  by_cases hr:v.bD=true
  ·rw[if_pos hr]
   have h3:=hvo hr;obtain⟨q,hq⟩:∃q:Nat,v.n=q:=⟨v.n.toNat,ag⟩;have Gk:gM X.blocks q b B.list.length:=by
    rw[S6]at xB;rcases bL.1 xB with hm|hm
    ·have Cs:eU X.blocks to=T.aL:=by unfold eU;rw[hT]
     refine .take hB (.inl rfl) ht ?_;have hK2:K=(bf X.blocks to).idxOf b:=by
      have oh:=jH X.blocks to;have:=(aC.1 hKg).2;rw[<-this,List.Nodup.idxOf_getElem oh]
     exact Nn (p:=p) (by rw[Cs];exact hm) hK2 (by rw[h2];exact hr) (by rw[h2];exact hq)
    ·obtain⟨r',AZ,oh,rfl⟩:=jh hm
     have hve:v=⟨true,r'⟩:=by
      unfold gS at hv;simp only at hv;exact jI (aA hv)
     have:q=r':=by rw[hve]at hq;simp only at hq;omega
     subst this;exact .jump hB (.inl rfl) ht oh.2.2
   have h4:=hrel q Gk;rw[hq,h4];unfold cD;rw[if_pos hr,hq,dD]
  ·rw[if_neg hr]
   unfold cD;rw[if_neg hr,if_neg hr]
 rw[hCp,rB]at Zg;obtain⟨LS,hLS⟩:∃LS,LS=(PT.aL.mapIdx (yv ν P n to)).map λp=>(p.dst.toNat,cD g (p.src.getD K gK)):=⟨_,rfl⟩;rw[<-hLS]at Zg;have aae:∀j q,LS[j]?=some q->∃p,PT.aL[j]?=some p/\q=((ν to j).toNat,cD f (p.src.getD K gK)):=λj q hq=>by
  rw[hLS,aK,cM]at hq;cases hp:PT.aL[j]? with
  |none=>rw[hp]at hq;cases hq
  |some p=>
   rw[hp]at hq;simp only[bz,bW]at hq;refine⟨p,rfl,?_⟩;rw[<-hq,oy j p hp]
   rfl
 have A8:∀j p,PT.aL[j]?=some p->Site PT j:=λj p hp=>.inl (aC.1 hp).1;have El:∀b k,(n:Int)<=ν b k:=λb k=>by have:=gT b k;omega
 have Gi:∀w:cm,(w.bD=true->0<=w.n/\∀j p,PT.aL[j]?=some p->w.n≠ν to j)->cD g' w=cD g w:=λw hw=>by
  unfold cD
  by_cases hr:w.bD=true
  ·obtain⟨h1,h2⟩:=hw hr
   rw[if_pos hr,if_pos hr,Zg,cz,cz,vZ];have Gn:oF LS w.n.toNat=none:=r_.2 λq hq e=>by
    obtain⟨j,hj⟩:=br hq;obtain⟨p,hp,rfl⟩:=aae j q hj;have h3:=El to j;exact h2 j p hp (by simp only at e;omega)
   rw[Gn];cases g.aF[w.n.toNat]?<;>rfl
  ·rw[if_neg hr,if_neg hr]
 have AW:∀j p,PT.aL[j]?=some p->cD g' ⟨true,ν to j⟩=cD f (p.src.getD K gK):=λj p hp=>by
  have h3:=El to j;have h4:=bT to PT j WJ (A8 j p hp);have hLj:LS[j]?=some ((ν to j).toNat,cD f (p.src.getD K gK)):=by
   rw[hLS,aK,cM,hp];simp only[bz,bW];rw[oy j p hp]
   rfl
  have hu:oF LS (ν to j).toNat=some (cD f (p.src.getD K gK)):=I4 hLj rfl λj' q' Pb e=>by
   obtain⟨p',uj,rfl⟩:=aae j' q' Pb;have h5:=El to j';exact(L8 to to j' j PT PT WJ WJ (A8 j' p' uj) (A8 j p hp) (by simp only at e;omega)).2
  unfold cD;simp only[if_true];rw[Zg,cz,vZ,hu,aB (show(ν to j).toNat<g.aF.length by omega)]
  rfl
 have WK:∀p∈T.aL,0<=p.dst/\p.dst<R:=λp hp=>((Xj.ok.block to T hT).aL p hp).dst;have aaN:(iD f K T.aL).getD r 0=((f.aF[r]?).map λx=>((od T.aL r T.aL.length).bind λj=>(T.aL[j]?).map λp=>cD f (p.src.getD K gK)).getD x).getD 0:=by
  have h1:=wW (ps:=T.aL) (F:=λp=>cD f (p.src.getD K gK)) (r:=r) (λp hp=>(WK p hp).1) T.aL.length (bH _);rw[cO]at h1;rw[rB,cz,vZ,h1]
 rw[aaN,KH Cq RT IN,aah];unfold KG;rw[aah];have LW:=G5 (a:=T.aL) (b:=di X.blocks R to) (r:=(r:Int)) (di X.blocks R to).length (bH _);rw[<-bR,<-S6]at LW;rw[LW];cases hnw:od (di X.blocks R to) (r:Int) (di X.blocks R to).length with
 |some k=>
  simp only;obtain⟨Xq,p,hp,VF⟩:=rA hnw;obtain⟨r',AZ,oh,hpe⟩:=jh (aA hp);have hrr:r'=r:=by rw[hpe]at VF;simp only[gS,aE]at VF;omega
  subst hrr;have adW:od T.aL (r':Int) T.aL.length=none:=yq (by have:=xQ.1 oh.2.1;rw[eD hT]at this;exact this) _;rw[adW];have Me:PT.aL[T.aL.length+k]?=some p:=by rw[S6,dg ag,mf];exact hp
  rw[AW _ p Me,hpe];have r5:(gS X.blocks to r').src.getD K gK=⟨true,r'⟩:=by
   unfold gS;simp only;rw[cz,h_,if_pos (by exact(aC.1 hKg).1)]
   rfl
  rw[r5];unfold cD;simp only[if_true,dD,Option.bind_none,Option.getD_none];rw[cz];cases f.aF[r']?<;>rfl
 |none=>
  simp only;cases hold:od T.aL (r:Int) T.aL.length with
  |some j=>
   simp only;obtain⟨hj1,p,hp,VF⟩:=rA hold;have Me:PT.aL[j]?=some p:=by rw[S6,dG hj1];exact hp
   rw[AW j p Me];have h5:=WK p (aA hp);rw[VF]at h5;rw[aB (show r<f.aF.length by omega)];simp only[Option.bind_some,hp,bz,dF]
  |none=>
   simp only;have hTn:∀p∈T.aL,p.dst≠(r:Int):=λp hp e=>by
    have h1:=wW (ps:=T.aL) (F:=λ_=>(0:Int)) (r:=r) (λp hp=>(WK p hp).1) T.aL.length (bH _);rw[cO,hold]at h1;exact r_.1 h1 _ (aX.2 ⟨p,hp,rfl⟩) (by simp only;omega)
   have Zk:gM X.blocks r to (-1):=.jW hT hTn hl;have Pc:gM X.blocks r b B.list.length:=.jump hB (.inl rfl) ht Zk;have hr:=hrel r Pc;have Eh:((f.aF[r]?).map λx=>((none:Option Nat).bind λj=>(T.aL[j]?).map λp=>cD f (p.src.getD K gK)).getD x).getD 0=f.aF.getD r 0:=by
    rw[cz];cases f.aF[r]?<;>rfl
   rw[Eh,<-hr];have XC:r<R->¬lT X.blocks (qQ X.blocks r) to:=λR9 hm=>by
    have oh:al X.blocks to r:=⟨hm,by rw[eD hT];exact xQ.2 hTn,Zk⟩;have Mc:gS X.blocks to r∈di X.blocks R to:=by
     classical
     unfold di;exact aX.2 ⟨r,cI.2 ⟨cQ.2 R9,by simpa using oh⟩,rfl⟩
    have h1:=wW (ps:=di X.blocks R to) (F:=λ_=>(0:Int)) (r:=r) (λp hp=>by obtain⟨q,_,_,rfl⟩:=jh hp;simp[gS]) _ (bH _);rw[cO,hnw]at h1;exact r_.1 h1 _ (aX.2 ⟨_,Mc,rfl⟩) (by simp[gS])
   have R9:r<R:=TV Xj.ok Pc;have hep:=Oc (ν:=ν) (R:=R) (n:=n) pD Xj.pos ag (hs.reach b iR) Vl (XC R9);rw[<-Oy,It]at hep;rw[hep];refine Gi _ λPv=>?_;rcases SE (ν:=ν) (n:=n) Cq RT (show(0:Int)<=(r:Int) by omega) IN with⟨c,k,e,fv,hck,eH,_⟩|⟨e,h⟩|e
   ·rw[e]
    refine⟨by have:=El c k;simp only;omega,λj p hp e2=>eH ?_⟩;exact(L8 c to k j _ PT (bK fv) WJ hck (A8 j p hp) e2).1
   ·rw[e]
    exact⟨by simp only;omega,λj p hp e2=>by have:=El to j;simp only at e2;omega⟩
   ·rw[e]at Pv
    cases Pv
end
structure ZB(u v:a7)(ν:Nat->Nat->Nat->Int)(s t:js):Prop where
 ok:ij u (s.steps+1) s
 rel:V7 (Zy u v ν) (FTg u v ν) s t
theorem pA{u:a7}(hc:iW u){k:Nat}{X:aZ}(hX:u.funcs[k]?=some X):(a8 X.blocks 0).aL=[]:=by
 have hb:=hc.body X (aA hX);have hs:=zl.same hc hX;refine List.eq_nil_iff_forall_not_mem.2 λp hp=>?_;have h1:=hb.aL 0 _ (bK (by have:=hs.many;omega)) p hp;unfold lQ at h1;exact(tH.1 h1).1 rfl
theorem YO{u v:a7}{ν:Nat->Nat->Nat->Int}(hu:iZ u)(hc:iW u)(hn:SgU u v ν):ZD u v 1 1 (ZB u v ν):=by
 intro s t ⟨cW,hrel⟩;obtain⟨X,R,hf⟩:=cW.bF;obtain⟨B,hB⟩:∃B,X.blocks[s.bF.block]?=some B:=⟨_,aB hf.block⟩;have Ir:=aA hB;have fW:=hf.fit.eo B Ir;have pD:=hf.fit.ok.iM;have Cl:=hf.fit.ok.block _ B hB;have q_:=hc.body X (aA hf.get);obtain⟨Y,hY,hs⟩:=hn.fn s.bF.fn X hf.get;obtain⟨hm,hi,ho,kr,r7⟩:=hrel;obtain⟨Cc,Mi,wl,xC,E6⟩:=r7;have uM:eP u s.bF.fn=X.blocks:=by unfold eP;rw[hf.get]
 have sM:eP v s.bF.fn=Y.blocks:=by unfold eP;rw[hY]
 have Pw:e_ v s.bF.fn=Y.aF.toNat:=by unfold e_;rw[hY]
 have OB:X.aF.toNat=R:=by rw[hf.fit.aF];omega
 obtain⟨ν0,hν⟩:∃ν0,ν0=ν s.bF.fn:=⟨_,rfl⟩;rw[<-hν]at hs;have hsg:=hs;obtain⟨P,hP⟩:∃P,P=fJ X:=⟨_,rfl⟩;obtain⟨n,oh⟩:∃n,n=X.params.toNat:=⟨_,rfl⟩;have Oy:P=de X.blocks R:=by rw[hP];unfold fJ;rw[OB]
 have uP:∀b i (r:Int),HG u ν s.bF.fn b i r=nm ν0 P n b i r:=λb i r=>by rw[Qz hf.get,<-hν,<-hP,<-oh]
 have L8:=hs.inj;have bT:=hs.lt;have gT:=hs.ge;have qJ:=hs.par;have F_:=hs.blocks;rw[<-hP]at L8 bT F_;rw[<-oh]at F_;have jq:∀i,dd P i=dd X.blocks i:=λi=>by rw[Oy];exact kJ _ _ i
 have Y7:P.length=X.blocks.length:=by rw[Oy,eM]
 have Cq:cL P:=r4 Y7 jq pD;have RT:0<P.length:=by rw[Y7];exact hf.fit.pos
 have X9:gD P (-1) 0 s.bF.block:=(vV jq).2 (hs.reach _ hf.block);obtain⟨PB,Oz⟩:∃PB,PB=({B with aL:=B.aL++di X.blocks R s.bF.block}:ar):=⟨_,rfl⟩;have Va:P[s.bF.block]?=some PB:=by rw[Oy,Oz];exact iq hB
 have It:a8 P s.bF.block=PB:=eD Va;have S5:PB.list=B.list:=by rw[Oz]
 have acG:PB.on=B.on:=by rw[Oz]
 obtain⟨C,J6⟩:∃C,C=CA ν0 P n s.bF.block PB:=⟨_,rfl⟩;have hC:Y.blocks[s.bF.block]?=some C:=by rw[F_,J6];exact pT Va
 have LZ:=qY hf hB;have zR:ox v t.bF=C:=by
  unfold ox;rw[Cc,hY];simp only[cz,Mi,hC,dF]
 have Kf:=kr.len;have Y6:C.list=B.list.mapIdx (rH ν0 P n s.bF.block):=by rw[J6,<-S5];rfl
 have El:∀b k,(n:Int)<=ν0 b k:=λb k=>by have:=gT b k;omega
 cases hx:B.list[s.bF.at']? with
 |some x=>
  have qx:iE u s=j5 u (jD (tick s)) x:=by rw[gY,LZ];simp only[hx]
  have oZ:=aA hx;obtain⟨y,um⟩:∃y,y=rH ν0 P n s.bF.block s.bF.at' x:=⟨_,rfl⟩;have C1:C.list[t.bF.at']?=some y:=by rw[Y6,wl,cM,hx,um];rfl
  have mP:iE v t=j5 v (jD (tick t)) y:=by rw[gY,zR];simp only[C1]
  obtain⟨ua,ub,uc,ud⟩:=pj (q_.list _ B hB x oZ);have Yp:=Cl.list x oZ;have nz:∀w:cm,w∈gI x∨w=gK->cD (jD (tick t)).bF (o6 ν0 P n s.bF.block s.bF.at' w)=cD (jD (tick s)).bF w:=λw hw=>by
   rcases hw with hw|rfl
   ·unfold o6
    by_cases hr:w.bD=true
    ·rw[if_pos hr]
     have hwo:=Yp.tU w (by rw[<-rM Yp];exact hw) hr;obtain⟨r,zx⟩:∃r:Nat,w.n=r:=⟨w.n.toNat,ag⟩;have h1:=E6 r (by rw[uM];exact .use hB hx (yf hw hr zx));rw[uP]at h1;show cD t.bF (nm ν0 P n s.bF.block s.bF.at' w.n)=cD s.bF w;rw[zx,h1];unfold cD;rw[if_pos hr,zx,dD]
    ·rw[if_neg hr]
     unfold cD;rw[if_neg hr,if_neg hr]
   ·rfl
  have xU:0<=x.dst->y.dst=ν0 s.bF.block (PB.aL.length+s.bF.at'):=λh=>by
   rw[um];show(if 0<=x.dst then ν0 s.bF.block ((a8 P s.bF.block).aL.length+s.bF.at')else x.dst)=_;rw[if_pos h,It]
  have Vh:x.dst<0->y.dst<0:=λh=>by
   rw[um];show(if 0<=x.dst then ν0 s.bF.block ((a8 P s.bF.block).aL.length+s.bF.at')else x.dst)<0;rw[if_neg ag];exact h
  have A8:0<=x.dst->Site PB (PB.aL.length+s.bF.at'):=λh=>.inr ⟨s.bF.at',x,rfl,by rw[S5];exact hx,h⟩;have hPx:(a8 P s.bF.block).list[s.bF.at']?=some x:=by rw[It,S5];exact hx
  have mx:∀r:Int,r≠x.dst->nm ν0 P n s.bF.block (s.bF.at'+1) r=nm ν0 P n s.bF.block s.bF.at' r:=λr hr=>by rw[zX Cq RT X9 hPx,if_neg (Ne.symm hr)]
  have Eh:Zy u v ν x.dst y.dst (jD (tick s)).bF (jD (tick t)).bF:=by
   refine⟨Cc,Mi,?_,xC,λh=>?_,λr hr hl=>?_,Vh,λh=>?_,λh r hr hrg=>?_⟩
   ·show t.bF.at'+1=s.bF.at'+1;rw[wl]
   ·show x.dst<(s.bF.aF.length:Int);rw[hf.aF];exact Yp.dst h
   ·have Kd:gM X.blocks r s.bF.block ((s.bF.at'+1:Nat):Int):=by rw[<-uM];exact hl
    show cD t.bF (HG u ν s.bF.fn s.bF.block (s.bF.at'+1) r)=s.bF.aF.getD r 0;rw[uP,mx _ hr,<-uP];exact E6 r (by rw[uM];exact .go hB hx (λe=>hr e.symm) Kd)
   ·have h1:=El s.bF.block (PB.aL.length+s.bF.at')
    have h2:=bT s.bF.block PB _ Va (A8 h);refine⟨by rw[xU h];omega,?_,?_⟩
    ·show y.dst<(t.bF.aF.length:Int)
     rw[xC,Pw,xU h];omega
    ·show HG u ν s.bF.fn s.bF.block (s.bF.at'+1) x.dst=_
     rw[uP,zX Cq RT X9 hPx,if_pos rfl,It,xU h]
   ·have Ty:(nm ν0 P n s.bF.block s.bF.at' (r:Int)).bD=true:=by rw[<-mx _ hr,<-uP];exact hrg
    show 0<=(HG u ν s.bF.fn s.bF.block (s.bF.at'+1) r).n/\(HG u ν s.bF.fn s.bF.block (s.bF.at'+1) r).n≠y.dst;rw[uP,mx _ hr,xU h];have h1:=El s.bF.block (PB.aL.length+s.bF.at');rcases Jg (ν:=ν0) (n:=n) Cq RT (show(0:Int)<=(r:Int) by omega) _ s.bF.block s.bF.at' (bH _) X9 with⟨c,k,e,fv,hck,hw⟩|⟨e,zx⟩|e
    ·rw[e]
     refine⟨by have:=El c k;simp only;omega,λe2=>?_⟩;obtain⟨h3,h4⟩:=L8 c s.bF.block k _ _ PB (bK fv) Va hck (A8 h) e2;rcases hw with⟨_,h5⟩|⟨h5,_⟩
     ·rw[It]at h5;omega
     ·exact h5 h3
    ·rw[e]
     exact⟨by simp only;omega,by simp only;omega⟩
    ·rw[e]at Ty
     cases Ty
  rcases Eu (u:=u) (v:=v) (s:=jD (tick s)) (t:=jD (tick t)) (x:=x) (y:=y) (by rw[um];rfl) (by rw[um];rfl) (by rw[um];exact nz _ ua) (by rw[um];exact nz _ ub) (λtj=>by
   rw[um];show(x.args.map (o6 ν0 P n s.bF.block s.bF.at')).map _=_;rw[eS];refine fw λw hw=>nz w (.inl ?_);rw[uc tj]at hw;exact hw) hm hi ho Kf ud (λh=>Vh (ud h))with⟨f,g,e1,e2,ha⟩|⟨tj,e1,e2⟩|⟨tj,mem,cX,out,z,e1,e2⟩
  ·refine⟨λs' gU=>?_,λf' mV=>?_⟩
   ·rw[qx,e1]at gU;cases gU
   ·rw[qx,e1]at mV
    rw[<-Sum.inr.inj mV];exact⟨0,t,g,ag,ag,rfl,by rw[mP,e2],ha⟩
  ·refine⟨λs' gU=>?_,λf' mV=>?_⟩
   ·have h9:=(jV hu cW gU).1
    rw[qx,e1]at gU;have gU:=Sum.inl.inj gU;obtain⟨k,Z,hk,hZ,hlen⟩:=(fW.list.2 x oZ).call tj;obtain⟨W,hW,oj⟩:=hn.fn k Z hZ;obtain⟨RZ,Vn⟩:=hu.2 k Z hZ;have hxk:x.fn.toNat=k:=ag;refine⟨1,_,ag,ag,.one (by rw[mP,e2]),h9,?_⟩;rw[<-gU,nj,nj,hxk];exact⟨hm,hi,ho,.add kr Eh,CJ hZ Vn hW oj (pA hc hZ) _ _ (by rw[aG];exact hlen)⟩
   ·rw[qx,e1]at mV;cases mV
  ·refine⟨λs' gU=>?_,λf' mV=>?_⟩
   ·have h9:=(jV hu cW gU).1
    rw[qx,e1]at gU;have gU:=Sum.inl.inj gU;refine⟨1,_,ag,ag,.one (by rw[mP,e2]),h9,?_⟩;rw[<-gU];exact⟨rfl,rfl,rfl,kr,Eh.back z⟩
   ·rw[qx,e1]at mV;cases mV
 |none=>
  have qx:iE u s=k8 u (tick s) B:=by rw[gY,LZ];simp only[hx]
  have x8:C.list[t.bF.at']?=none:=by rw[Y6,wl,cM,hx];rfl
  have mP:iE v t=k8 v (tick t) C:=by rw[gY,zR];simp only[x8]
  have acU:s.bF.at'=B.list.length:=by
   have h1:=hf.at' B hB;have h2:=kg.1 hx;omega
  rw[acU]at E6;have Px:∀r:Nat,gM X.blocks r s.bF.block B.list.length->cD t.bF (nm ν0 P n s.bF.block B.list.length r)=s.bF.aF.getD r 0:=λr hl=>by
   rw[<-uP];exact E6 r (by rw[uM];exact hl)
  have oy:cD t.bF C.on=cD s.bF B.on:=by
   have e:C.on=o6 ν0 P n s.bF.block B.list.length B.on:=by rw[J6,<-S5,<-acG];rfl
   rw[e];unfold o6
   by_cases hr:B.on.bD=true
   ·rw[if_pos hr]
    have hwo:=Cl.on hr;obtain⟨r,zx⟩:∃r:Nat,B.on.n=r:=⟨B.on.n.toNat,ag⟩;have h1:=Px r (.on hB (yf aH hr zx));rw[zx,h1];unfold cD;rw[if_pos hr,zx,dD]
   ·rw[if_neg hr]
    unfold cD;rw[if_neg hr,if_neg hr]
  have hk:C.kind=B.kind:=by rw[J6,Oz];rfl
  have acD:C.to=B.to:=by rw[J6,Oz];rfl
  by_cases IF:B.kind=2∨B.kind=3
  ·obtain⟨i,iQ,e1,e2⟩:=Be (u:=u) (v:=v) (s:=tick s) (t:=tick t) (C:=C) IF hk fW.kind.2 oy
   have PG:=yF (B:=B) iQ;obtain⟨to,T,e,hg⟩:=Io hf hB PG;rw[acD]at e2;rw[e]at e1 e2 PG;refine⟨λs' gU=>?_,λf' mV=>?_⟩
   ·have h9:=(jV hu cW gU).1
    rw[qx,e1]at gU;have gU:=Sum.inl.inj gU;refine⟨1,_,ag,ag,.one (by rw[mP,e2]),h9,?_⟩;rw[<-gU,nA,nA];refine⟨hm,hi,ho,kr,?_⟩;have hpu:bf (eP v s.bF.fn) to=bf X.blocks to:=by
     rw[sM,F_];have h1:∀i,dd (pS ν0 P n) i=dd P i:=λi=>by
      unfold dd;cases hz:P[i]? with
      |none=>rw[bM (by rw[jB];exact kg.1 hz)]
      |some D=>rw[pT hz];rfl
     rw[xd (jB _ _ _) h1,xd Y7 jq]
    have AW:eU (eP u s.bF.fn) to=T.aL:=by rw[uM];unfold eU;rw[hg.get]
    refine⟨Cc,rfl,rfl,?_,λr hl=>?_⟩
    ·show(iD t.bF _ _).length=e_ v s.bF.fn
     rw[rB,Jy];exact xC
    ·have Kd:gM X.blocks r to ((0:Nat):Int):=by rw[<-uM];exact hl
     show cD _ (HG u ν s.bF.fn ((to:Nat):Int).toNat 0 r)=(iD s.bF ((bf (eP u s.bF.fn) ((to:Nat):Int).toNat).idxOf s.bF.block) (eU (eP u s.bF.fn) ((to:Nat):Int).toNat)).getD r 0;rw[dD,uP,AW,uM,hP,oh];rw[hP,oh]at Px;refine Us (g:=t.bF) hf.fit hsg hB hg.get PG hf.aF (by rw[xC,Pw]) Px r Kd _ ?_;show iD t.bF ((bf (eP v t.bF.fn) ((to:Nat):Int).toNat).idxOf t.bF.block) (eU (eP v t.bF.fn) ((to:Nat):Int).toNat)=_;rw[Cc,dD,hpu,sM,Mi]
   ·rw[qx,e1]at mV;cases mV
  ·rcases EO (u:=u) (v:=v) (FR:=Zy u v ν) (s:=tick s) (t:=tick t) (C:=C) (λh=>IF (.inl h)) (λh=>IF (.inr h)) hk oy ho kr with⟨f,g,e1,e2,ha⟩|⟨l,f,m,g,d1,d2,e1,e2,d3,d4⟩
   ·refine⟨λs' gU=>?_,λf' mV=>?_⟩
    ·rw[qx,e1]at gU;cases gU
    ·rw[qx,e1]at mV
     rw[<-Sum.inr.inj mV];exact⟨0,t,g,ag,ag,rfl,by rw[mP,e2],ha⟩
   ·refine⟨λs' gU=>?_,λf' mV=>?_⟩
    ·have h9:=(jV hu cW gU).1
     rw[qx,e1]at gU;have gU:=Sum.inl.inj gU;refine⟨1,_,ag,ag,.one (by rw[mP,e2]),h9,?_⟩;rw[<-gU];exact⟨hm,hi,ho,d3,d4.back _⟩
    ·rw[qx,e1]at mV;cases mV
noncomputable def oG(P:List ar)(n:Nat):Nat:=n+((qM P).map λb=>qF (a8 P b)).sum
noncomputable def iP(X:aZ):aZ:={X with aF:=(oG (fJ X) X.params.toNat:Nat),blocks:=pS (qf (fJ X) X.params.toNat) (fJ X) X.params.toNat}
noncomputable def v8(u:a7):a7:={u with funcs:=u.funcs.map iP}
noncomputable def zF(X:aZ):aZ:=gR (iP (lZ X))
noncomputable def yk(u:a7):a7:={u with funcs:=u.funcs.map zF}
theorem Ue(u:a7):yk u=Bk (v8 (sL u)):=by
 unfold yk Bk v8 sL;simp only[eS]
 rfl
theorem Hi(u:a7)(k:Nat):(v8 u).funcs[k]?=(u.funcs[k]?).map iP:=by unfold v8;simp only[aK]
theorem Hs(s:Nat->Nat){b:Nat}:∀{o:List Nat},b∈o->mY o s b+s b<=(o.map s).sum
 |[],h=>by cases h
 |x::o,h=>by
  unfold mY
  by_cases e:x=b
  ·subst e
   rw[List.takeWhile_cons_of_neg aH,bO,et];simp
  ·have h2:b∈o:=by rcases bJ.1 h with h|h;exact absurd h.symm e;exact h
   have ih:=Hs s h2;unfold mY at ih;rw[pu (by simp;exact e),bO,et,bO,et];omega
structure rN(X:aZ)(R:Nat):Prop where
 all:kw X R
 reach:∀b,b<X.blocks.length->gD X.blocks (-1) 0 b
 pos:qh X.blocks
theorem tI{X:aZ}{R:Nat}(h:kw X R):fJ X=de X.blocks R:=by unfold fJ;rw[h.aF];rfl
theorem jA{X:aZ}{R:Nat}(h:kw X R):cL (fJ X)/\0<(fJ X).length/\(∀i,dd (fJ X) i=dd X.blocks i)/\(fJ X).length=X.blocks.length:=by
 rw[tI h];exact⟨r4 (eM _ _) (kJ _ _) h.ok.iM,by rw[eM];exact h.pos,kJ _ _,eM _ _⟩
theorem yt{X:aZ}{R:Nat}(h:rN X R):∀b,b<(fJ X).length->gD (fJ X) (-1) 0 b:=λb hb=>by
 obtain⟨_,_,h3,h4⟩:=jA h.all;exact(vV h3).2 (h.reach b ag)
theorem qP{X:aZ}{R:Nat}(h:rN X R):SgF X (iP X) (qf (fJ X) X.params.toNat):=by
 obtain⟨h1,h2,h3,h4⟩:=jA h.all;have hN:=YA h1 h2 (yt h);have hp:=h.all.par;refine⟨rfl,λb c k k' B C hB hC hk Vs e=>Ua hN hB hC hk Vs e,λb k=>?_,λb B k hB hk=>?_,?_,h.reach,h.pos⟩
 ·have:=YB (qM (fJ X)) (λb=>qF (a8 (fJ X) b)) (λb k=>KS (a8 (fJ X) b) k) X.params.toNat b k
  unfold qf;omega
 ·have h5:=hN.lt b B k hB hk
  have h6:=Hs (λb=>qF (a8 (fJ X) b)) (hN.all b (aC.1 hB).1);show qf (fJ X) X.params.toNat b k<((oG (fJ X) X.params.toNat:Nat):Int);unfold qf num oG;simp only at h5 h6⊢;omega
 ·show 0<=X.params/\X.params<=((oG (fJ X) X.params.toNat:Nat):Int)
  unfold oG;omega
noncomputable def nuU(u:a7)(k:Nat):Nat->Nat->Int:=match u.funcs[k]? with|some X=>qf (fJ X) X.params.toNat|none=>λ_ _=>0
theorem Qi(u:a7):cZ (v8 u).funcs=cZ u.funcs:=by
 rw[nB,nB];unfold v8;simp only[eS]
 rfl
theorem Ru{u:a7}(h:∀(k:Nat) X,u.funcs[k]?=some X->∃R,rN X R):SgU u (v8 u) (nuU u):=⟨rfl,Qi u,λk X hX=>by
 obtain⟨R,hP⟩:=h k X hX;refine⟨iP X,by rw[Hi,hX];rfl,?_⟩;unfold nuU;rw[hX];exact qP hP⟩
theorem Ut{u v:a7}{ν:Nat->Nat->Nat->Int}(hu:Whole u)(hn:SgU u v ν)(cX:List Int)(mO:∀x∈cX,c9 x)(f:Nat):Alike (cg u cX f) (cg v cX f)/\(cg v cX f).steps=(cg u cX f).steps:=by
 have e1:∀v:a7,iU v cX=⟨se v.globals,cX,[],0,[],⟨(cZ v.funcs).toNat,0,0,List.replicate (e_ v (cZ v.funcs).toNat) 0,-1⟩,bump (v.funcs.map λX=>List.replicate X.blocks.length 0) (cZ v.funcs).toNat 0⟩:=λ_=>rfl;obtain⟨fm,M,O0,hM⟩:=hu.start.main;obtain⟨W,hW,hs⟩:=hn.fn fm M hM;obtain⟨RM,hRM⟩:=hu.fit.2 fm M hM;have qJ:M.params=0:=by
  have h1:=hu.ok.none;rw[O0,dD]at h1;unfold jr at h1;rw[hM]at h1;have:=hRM.params;simp only at h1;omega
 have L5:∀m,ek m []=List.replicate m (0:Int):=λm=>by unfold ek;rw[aT,List.take_replicate,Nat.min_self]
 have hrel:ZB u v ν (iU u cX) (iU v cX):=⟨tS hu.fit hu.start mO,by
  rw[e1,e1,hn.main,hn.ti,O0,dD];have h2:=CJ hM hRM hW hs (pA hu.ok hM) (-1) (-1) (args:=[]) (by rw[qJ];rfl);rw[L5,L5]at h2;exact⟨rfl,rfl,rfl,.nil _ _,h2⟩⟩
 obtain⟨h1,h2⟩:=BK (YO hu.fit hu.ok hn) (λs t h=>h.rel.out) f _ _ hrel;refine⟨h1,?_⟩;have e2:(iU u cX).steps=0:=rfl;have e3:(iU v cX).steps=0:=rfl;unfold cg;omega
theorem xq{u:a7}(hu:Whole u):∀(k:Nat) X,(sL u).funcs[k]?=some X->∃R,rN X R:=λk Y hY=>by
 have PK:=(oe hu).1;have hY2:=hY;rw[yC]at hY;obtain⟨X,hX,rfl⟩:=cT.1 hY;obtain⟨_,_,hT⟩:=ET hu.ok hX;obtain⟨R,hA⟩:=yU PK.ok hY2;have ho:=BT hT;refine⟨R,hA,λb hb=>?_,(zN PK.ok hY2).2⟩;have h1:b∈ch (lZ X).blocks:=by rw[ho];exact cQ.2 hb
 unfold ch at h1;exact(Dv hA.ok.iM hA.pos).1 (List.mem_reverse.1 h1)
structure acm(fs:List aZ)(R:Int)(x:en):Prop where
 op:1<=x.op/\x.op<=22
 s1:(shape x.op).1=false->x.dst=-1
 s2:(shape x.op).2.1=false->iC x.a=true
 s3:(shape x.op).2.2=false->iC x.b=true
 s4:x.op≠20->x.fn=0/\x.args.length=0
 dst:(shape x.op).1=true->(x.op=20/\x.dst=-1)∨(0<=x.dst/\x.dst<R)
 a:dw R x.a=0
 b:dw R x.b=0
 call:fY fs R x=0
theorem As{R n:Int}:jx R n=0↔0<=n/\n<R:=by
 unfold jx within;constructor
 ·intro h
  split at h
  ·cases h
  ·rename_i h1
   simp at h1;omega
 ·intro h
  rw[if_neg];simp;omega
theorem GF{fs:List aZ}{R:Int}{x:en}:dK fs R x=0↔acm fs R x:=by
 constructor
 ·intro h
  unfold dK at h
  split at h
  ·cases h
  rename_i h1
  split at h
  ·cases h
  rename_i h2
  split at h
  ·rename_i h3
   rw[h]at h3;simp at h3
  rename_i h3
  split at h
  ·rename_i h4;exact absurd h h4
  rename_i h4
  split at h
  ·rename_i h5;exact absurd h h5
  rename_i h5;have h1:1<=x.op/\x.op<=22:=by simp[within]at h1;omega
  simp only[Bool.not_eq_true]at h2;unfold pU at h2;simp only[Bool.or_eq_false_iff,Bool.and_eq_false_iff,Bool.not_eq_false',decide_eq_false_iff_not,decide_eq_true_eq]at h2;obtain⟨⟨⟨a1,a2⟩,a3⟩,a4⟩:=h2;refine⟨h1,λe=>?_,λe=>?_,λe=>?_,λe=>?_,λe=>?_,Decidable.not_not.1 h4,Decidable.not_not.1 h5,h⟩
  ·rcases a1 with a1|a1
   ·rw[e]at a1;cases a1
   ·exact a1
  ·rcases a2 with a2|a2
   ·rw[e]at a2;cases a2
   ·exact a2
  ·rcases a3 with a3|a3
   ·rw[e]at a3;cases a3
   ·exact a3
  ·rcases a4 with a4|a4
   ·exact absurd a4 e
   ·exact⟨a4.1,ag⟩
  ·by_cases e2:x.op=20/\x.dst=-1
   ·exact .inl e2
   ·refine .inr (As.1 ?_)
    refine Classical.byContradiction λhd=>h3 ?_;rw[e];simp only[Bool.true_and,Bool.and_eq_true,Bool.not_eq_true',Bool.and_eq_false_iff,decide_eq_false_iff_not];refine⟨?_,hd⟩
    by_cases e3:x.op=20
    ·exact .inr λe4=>e2 ⟨e3,e4⟩
    ·exact .inl e3
 ·intro h
  unfold dK;rw[if_neg,if_neg,if_neg,if_neg,if_neg]
  ·exact h.call
  ·exact not_not_intro h.b
  ·exact not_not_intro h.a
  ·intro hc
   simp only[Bool.and_eq_true,Bool.not_eq_true',Bool.and_eq_false_iff,decide_eq_false_iff_not]at hc;rcases h.dst hc.1.1 with⟨h1,h2⟩|h1
   ·rcases hc.1.2 with h3|h3
    ·exact h3 h1
    ·exact h3 h2
   ·exact hc.2 (As.2 h1)
  ·simp only[Bool.not_eq_true]
   unfold pU;simp only[Bool.or_eq_false_iff,Bool.and_eq_false_iff,Bool.not_eq_false',decide_eq_false_iff_not,decide_eq_true_eq];refine⟨⟨⟨?_,?_⟩,?_⟩,?_⟩
   ·cases e:(shape x.op).1 with
    |true=>exact .inl rfl
    |false=>exact .inr (h.s1 e)
   ·cases e:(shape x.op).2.1 with
    |true=>exact .inl rfl
    |false=>exact .inr (h.s2 e)
   ·cases e:(shape x.op).2.2 with
    |true=>exact .inl rfl
    |false=>exact .inr (h.s3 e)
   ·by_cases e:x.op=20
    ·exact .inl e
    ·have:=h.s4 e
     exact .inr ⟨this.1,ag⟩
  ·have:=h.op
   simp[within];omega
theorem N7{fs:List aZ}{R R':Int}{x y:en}(C9:y.op=x.op)(oY:y.fn=x.fn)(hl:y.args.length=x.args.length)(hv:∀v∈y.args,dw R' v=0)(h:fY fs R x=0):fY fs R' y=0:=by
 unfold fY at h⊢;rw[C9,oY,hl]
 split at h
 ·rename_i h1;rw[if_pos h1]
 rename_i h1;rw[if_neg h1]
 split at h
 ·cases h
 rename_i h2;rw[if_neg h2]
 split at h
 ·cases h
 rename_i h3;rw[if_neg h3,gz];intro j hj;unfold jr;rw[aB ag];exact hv _ (jK _)
theorem TQ{fs:List aZ}{R R':Int}{x y:en}(h:dK fs R x=0)(C9:y.op=x.op)(oY:y.fn=x.fn)(ha:dw R' y.a=0/\(iC x.a=true->iC y.a=true))(hb:dw R' y.b=0/\(iC x.b=true->iC y.b=true))(hl:y.args.length=x.args.length)(hv:∀v∈y.args,dw R' v=0)
  (hd:0<=x.dst->0<=y.dst/\y.dst<R') (L3:x.dst<0->y.dst=x.dst):dK fs R' y=0:=by
 have hz:=GF.1 h;refine GF.2 ⟨by rw[C9];exact hz.op,λe=>?_,λe=>ha.2 (hz.s2 (by rw[<-C9];exact e)),λe=>hb.2 (hz.s3 (by rw[<-C9];exact e)),λe=>?_,λe=>?_,ha.1,hb.1,N7 C9 oY hl hv hz.call⟩
 ·have:=hz.s1 (by rw[<-C9];exact e)
  rw[L3 ag,this]
 ·rw[oY,hl]
  exact hz.s4 (by rw[<-C9];exact e)
 ·rcases hz.dst (by rw[<-C9];exact e)with⟨h1,h2⟩|⟨h1,h2⟩
  ·exact .inl ⟨by rw[C9];exact h1,by rw[L3 ag,h2]⟩
  ·exact .inr (hd h1)
theorem QD{v:cm}(h:iC v=true):v=gK:=by
 obtain⟨vr,vn⟩:=v;simp only[iC,Bool.and_eq_true,beq_iff_eq,decide_eq_true_eq]at h;obtain⟨rfl,rfl⟩:=h
 rfl
section
variable {X:aZ} {R:Nat}
theorem yy(h:rN X R):∀r,Y0 (qf (fJ X) X.params.toNat) (fJ X) X.params.toNat r->0<=r/\r<(iP X).aF:=λr hr=>by
 have hs:=qP h;have hp:=hs.par;rcases hr with⟨h1,h2⟩|⟨b,B,k,hB,hk,rfl⟩
 ·omega
 ·have h1:=hs.ge b k
  have h2:=hs.lt b B k hB hk;omega
theorem BX(h:rN X R){v:cm}(hv:xG (Y0 (qf (fJ X) X.params.toNat) (fJ X) X.params.toNat) v):dw (iP X).aF v=0:=val_zero.2 λhr=>by
 have:=yy h _ (hv hr);omega
theorem EE{ν:Nat->Nat->Int}{bl:List ar}{n b i:Nat}{v:cm}(h:iC v=true):iC (o6 ν bl n b i v)=true:=by
 rw[QD h]
 rfl
end
theorem ER(ν:Nat->Nat->Int)(P:List ar)(n:Nat)(i:Nat):dd (pS ν P n) i=dd P i:=by
 unfold dd;cases hz:P[i]? with
 |none=>rw[bM (by rw[jB];exact kg.1 hz)]
 |some D=>rw[pT hz];rfl
theorem DO{X:aZ}{R:Nat}(h:rN X R){fs:List aZ}(hb:qD fs X):∀B∈fJ X,zm (NT R) B:=by
 rw[tI h.all];exact MR (N4 h.all.aF h.all.ok hb) (bH _)
theorem BM{fs:List aZ}{X:aZ}{R:Nat}(h:rN X R)(hb:qD fs X)(h0:(a8 X.blocks 0).aL=[]):qD fs (iP X):=by
 have Pv:=DO h hb;have Kn:∀B∈fJ X,zm (λr=>0<=r) B:=λB hB=>(Pv B hB).mono λr hr=>hr.1;have hsr:=Hh (ν:=qf (fJ X) X.params.toNat) (n:=X.params.toNat) Kn;obtain⟨hg,dS,jq,hlen⟩:=jA h.all;have hlS:(iP X).blocks.length=X.blocks.length:=by show(pS _ _ _).length=_;rw[jB,hlen]
 have jS:∀{b C},(iP X).blocks[b]?=some C->∃B,X.blocks[b]?=some B/\(fJ X)[b]?=some {B with aL:=B.aL++di X.blocks R b}/\C=CA (qf (fJ X) X.params.toNat) (fJ X) X.params.toNat b {B with aL:=B.aL++di X.blocks R b}:=λ{b C} hC=>by
  have iR:b<X.blocks.length:=by rw[<-hlS];exact(aC.1 hC).1
  obtain⟨B,hB⟩:∃B,X.blocks[b]?=some B:=⟨_,aB iR⟩;have hP:(fJ X)[b]?=some {B with aL:=B.aL++di X.blocks R b}:=by rw[tI h.all];exact iq hB
  have hC2:(pS (qf (fJ X) X.params.toNat) (fJ X) X.params.toNat)[b]?=some C:=hC;rw[pT hP]at hC2;exact⟨B,hB,hP,(be hC2).symm⟩
 refine⟨λC hC=>?_,λb C hC q hq=>?_,λb C hC y hy=>?_⟩
 ·obtain⟨b,wi⟩:=br hC
  have hR:=hsr C hC;obtain⟨B,hB,_,WE⟩:=jS wi;have hE:=lu.1 (hb.ends B (aA hB));have Gp:iC B.on=true->iC C.on=true:=λhn=>by rw[WE];exact EE hn
  have hk:C.kind=B.kind:=by rw[WE];rfl
  have ht:C.to=B.to:=by rw[WE];rfl
  rw[hlS];refine lu.2 ⟨by rw[hk];exact hE.kind,by rw[hk,ht];exact hE.len,by rw[ht];exact hE.to,by rw[hk,ht];exact hE.two,λh2=>Gp (hE.one (by rw[<-hk];exact h2)),BX h hR.on⟩
 ·have hR:=hsr C (aA hC)
  obtain⟨B,hB,hP,WE⟩:=jS hC;have Ct:=hR.aL q hq;have hfP:eX R (fJ X):=by rw[tI h.all];exact oS h.all.ok (bH _)
  have XT:=hq;rw[WE]at XT;obtain⟨i,hi⟩:=br XT;have Vq:((B.aL++di X.blocks R b).mapIdx (yv (qf (fJ X) X.params.toNat) (fJ X) X.params.toNat b))[i]?=some q:=hi;rw[cM]at Vq;obtain⟨p,hp,R6⟩:=cT.1 Vq;have AX:=(hfP.block b _ hP).aL p (aA hp);have Cb:q.src.length=(bf (fJ X) b).length:=by rw[<-R6,<-AX.len];simp[yv]
  have ve:b≠0:=λe=>by
   subst e;have h1:B.aL=[]:=by rw[eD hB]at h0;exact h0
   rw[h1,w7 λr _ hn=>Dp h.pos hn.1]at hp;simp at hp
  have hd:=yy h _ Ct.1;have wU:bf (iP X).blocks b=bf (fJ X) b:=xd (jB _ _ _) (ER _ _ _) b;have hgS:cL (iP X).blocks:=r4 (jB _ _ _) (ER _ _ _) hg;have oh:∀(b:Nat) C,(iP X).blocks[b]?=some C->C.to.Nodup:=λb C hC=>by
   obtain⟨B',u9,_,acC⟩:=jS hC;rw[acC];exact(h.all.ok.block b B' u9).to
  unfold lQ w9;rw[if_neg ag,if_neg (by rw[As.2 hd];simp),if_neg]
  ·rw[gz]
   intro j hj;unfold jr;rw[aB hj];exact BX h (Ct.2 _ (jK hj))
  ·rw[gm hgS oh (by rw[hlS];exact(aC.1 hB).1),dF,aG,wU,Cb]
   simp
 ·have hR:=(hsr C (aA hC)).list y hy
  obtain⟨B,hB,hP,WE⟩:=jS hC;rw[WE]at hy;obtain⟨k,hk⟩:=br hy;have AO:(B.list.mapIdx (rH (qf (fJ X) X.params.toNat) (fJ X) X.params.toNat b))[k]?=some y:=hk;rw[cM]at AO;obtain⟨x,hx,rfl⟩:=cT.1 AO;refine TQ (hb.list b B hB x (aA hx)) rfl rfl ⟨BX h hR.a,EE⟩ ⟨BX h hR.b,EE⟩ (by simp[rH]) (λv hv=>BX h (hR.args v hv)) (λh1=>?_) λh1=>?_
  ·refine yy h _ (hR.dst ?_)
   show 0<=(if 0<=x.dst then _ else x.dst);rw[if_pos h1];have:=(qP h).ge b ((a8 (fJ X) b).aL.length+k);have:=(qP h).par;omega
  ·show(if 0<=x.dst then _ else x.dst)=x.dst
   rw[if_neg ag]
theorem Bo:∀{l m:List Int},l.Nodup->(∀x∈l,x∈m)->l.length<=m.length
 |[],m,_,_=>aY _
 |x::l,m,hn,hs=>by
  obtain⟨h1,h2⟩:=mh.1 hn;have hx:=hs x aH;have ih:=Bo (l:=l) (m:=m.erase x) h2 λy hy=>by
   have eH:y≠x:=λe=>h1 (e▸hy);exact(List.mem_erase_of_ne eH).2 (hs y (cJ _ hy))
  rw[List.length_erase_of_mem hx]at ih;have:=List.length_pos_of_mem hx;rw[ie];omega
theorem K0(s:Nat->Nat):∀{o:List Nat},o.Nodup->∀m,m<(o.map s).sum->∃b∈o,mY o s b<=m/\m<mY o s b+s b
 |[],_,m,h=>by simp at h
 |x::o,hn,m,h=>by
  obtain⟨h1,h2⟩:=mh.1 hn
  by_cases hm:m<s x
  ·refine⟨x,by simp,?_⟩
   unfold mY;rw[List.takeWhile_cons_of_neg aH];simp;exact hm
  ·rw[bO,et]at h
   obtain⟨b,hb,h3,h4⟩:=K0 s h2 (m-s x) ag;have eH:x≠b:=λe=>h1 (e▸hb);have e:mY (x::o) s b=s x+mY o s b:=by
    unfold mY;rw[pu (by simp;exact eH),bO,et]
   exact⟨b,cJ _ hb,by rw[e];omega,by rw[e];omega⟩
theorem Av:∀(l:List en) (j:Nat),j<(l.filter CF).length->∃i x,l[i]?=some x/\0<=x.dst/\((l.take i).filter CF).length=j
 |[],j,h=>by simp at h
 |x::l,j,h=>by
  by_cases hx:0<=x.dst
  ·have hw:CF x=true:=by simp[CF,hx]
   cases j with
   |zero=>exact⟨0,x,rfl,hx,rfl⟩
   |succ j=>
    rw[List.filter_cons_of_pos hw,ie]at h;obtain⟨i,y,h1,h2,h3⟩:=Av l j ag;refine⟨i+1,y,by simpa using h1,h2,?_⟩;rw[List.take_succ_cons,List.filter_cons_of_pos hw,ie,h3]
  ·have hw:¬CF x=true:=by simp[CF,hx]
   rw[List.filter_cons_of_neg hw]at h;obtain⟨i,y,h1,h2,h3⟩:=Av l j h;refine⟨i+1,y,by simpa using h1,h2,?_⟩;rw[List.take_succ_cons,List.filter_cons_of_neg hw,h3]
theorem YK{B:ar}{j:Nat}(h:j<qF B):∃k,Site B k/\KS B k=j:=by
 unfold qF at h
 by_cases h1:j<B.aL.length
 ·exact⟨j,.inl h1,by unfold KS;rw[if_pos h1]⟩
 ·obtain⟨i,x,h2,h3,h4⟩:=Av B.list (j-B.aL.length) ag
  refine⟨B.aL.length+i,.inr ⟨i,x,rfl,h2,h3⟩,?_⟩;unfold KS;rw[if_neg ag,mf,h4];omega
theorem T_{P:List ar}{n m:Nat}(hr:gD P (-1) 0 0)(cW:cL P)(h0:0<P.length)(hn:n<=m)(hm:m<oG P n):∃b B k,P[b]?=some B/\Site B k/\qf P n b k=(m:Int):=by
 unfold oG at hm;obtain⟨b,hb,h1,h2⟩:=K0 (o:=jG P P.length 0) (λb=>qF (a8 P b)) (uB hr) (m-n) (by unfold qM at hm;omega);have iR:b<P.length:=cW.BC h0 (uA hr hb).2.1;obtain⟨B,hB⟩:∃B,P[b]?=some B:=⟨_,aB iR⟩;rw[show qF (a8 P b)=qF B by rw[eD hB]]at h2;obtain⟨k,hk,e⟩:=YK (B:=B) (j:=m-n-mY (jG P P.length 0) (λb=>qF (a8 P b)) b) ag;refine⟨b,B,k,hB,hk,?_⟩;unfold qf num qM;simp only;rw[eD hB,e];omega
section
variable {X:aZ} {R:Nat}
theorem I8(h:rN X R)(ho:ch X.blocks=List.range X.blocks.length):(iP X).aF<=(gR (iP X)).aF:=by
 obtain⟨hg,dS,jq,hlen⟩:=jA h.all;have hK:ew (iP X)=cY (iP X).blocks (List.range (iP X).blocks.length):=by
  unfold ew;have h1:(iP X).blocks.length=X.blocks.length:=by show(pS _ _ _).length=_;rw[jB,hlen]
  rw[h1,<-ho];congr 1;exact tG h1 λi=>(ER _ _ _ i).trans (jq i)
 show((oG (fJ X) X.params.toNat:Nat):Int)<=((pL X.params.toNat (ew (iP X))).length:Int);have zy:(eZ (oG (fJ X) X.params.toNat)).length<=(pL X.params.toNat (ew (iP X))).length:=Bo (sw _) λr hr=>by
  obtain⟨h0,h1⟩:=mD.1 hr
  by_cases hn:r<(X.params.toNat:Nat)
  ·exact wY.2 (.inl (mD.2 ⟨h0,hn⟩))
  ·obtain⟨m,rfl⟩:∃m:Nat,r=m:=⟨r.toNat,ag⟩
   obtain⟨b,B,k,hB,hk,e⟩:=T_ (n:=X.params.toNat) (m:=m) .refl hg dS ag ag;have hC:(iP X).blocks[b]?=some (CA (qf (fJ X) X.params.toNat) (fJ X) X.params.toNat b B):=pT hB;have iR:=(aC.1 hC).1;have hKb:(ew (iP X))[b]?=some (jf (iP X).blocks (List.range (iP X).blocks.length) b (a8 (iP X).blocks b)):=by
    rw[hK];exact kV (eQ iR)
   refine wY.2 (.inr (.inl ⟨_,aA hKb,?_⟩));rw[eD hC,<-e];unfold pR jf;simp only[bL,aX];rcases hk with hk|⟨i,x,rfl,hx,Dd⟩
   ·left
    have hp:B.aL[k]?=some (B.aL[k]'hk):=aB hk;refine⟨gC _ _ _ (yv (qf (fJ X) X.params.toNat) (fJ X) X.params.toNat b k (B.aL[k]'hk)),⟨_,?_,rfl⟩,rfl⟩;refine aA (i:=k) ?_;show(B.aL.mapIdx _)[k]?=_;rw[cM,hp]
    rfl
   ·right
    left
    refine du.2 ⟨rH (qf (fJ X) X.params.toNat) (fJ X) X.params.toNat b i x,?_,?_⟩
    ·refine aA (i:=i) ?_
     show(B.list.mapIdx _)[i]?=_;rw[cM,hx]
     rfl
    ·have hd:(rH (qf (fJ X) X.params.toNat) (fJ X) X.params.toNat b i x).dst=qf (fJ X) X.params.toNat b (B.aL.length+i):=by
      show(if 0<=x.dst then _ else x.dst)=_;rw[if_pos Dd,eD hB]
     rw[<-hd];refine tP ?_;rw[hd];have:=(qP h).ge b (B.aL.length+i);have:=(qP h).par;omega
 rw[rz]at zy;omega
end
theorem Jf{ν:Nat->Nat->Int}{bl:List ar}{n:Nat}{r:Int}:∀(g b i:Nat),(Qy ν bl n g b i r).bD=false->Qy ν bl n g b i r=gK
 |0,b,i,_=>rfl
 |g+1,b,i,h=>by
  unfold Qy at h⊢;cases hd:mm (a8 bl b) r i with
  |some k=>rw[hd]at h;cases h
  |none=>
   rw[hd]at h;simp only at h⊢
   split
   ·rename_i h1
    rw[if_pos h1]at h
    split
    ·rename_i h2;rw[if_pos h2]at h;cases h
    ·rfl
   ·rename_i h1
    rw[if_neg h1]at h;exact Jf g _ _ h
theorem Bn{X:aZ}{R:Nat}(h:rN X R)(hm:(iP X).aF<=1000){b i:Nat}{v:cm}(hv:xG (λr=>0<=r) v)(hn:c9 v.n):c9 (o6 (qf (fJ X) X.params.toNat) (fJ X) X.params.toNat b i v).n:=by
 have h1:=sk (ν:=qf (fJ X) X.params.toNat) (bl:=fJ X) (n:=X.params.toNat) (b:=b) (i:=i) hv
 by_cases hr:(o6 (qf (fJ X) X.params.toNat) (fJ X) X.params.toNat b i v).bD=true
 ·have:=yy h _ (h1 hr)
  exact⟨ag,ag⟩
 ·have R7:(o6 (qf (fJ X) X.params.toNat) (fJ X) X.params.toNat b i v).bD=false:=by simpa using hr
  unfold o6 at R7⊢
  split
  ·rename_i h3
   rw[if_pos h3]at R7;rw[show nm (qf (fJ X) X.params.toNat) (fJ X) X.params.toNat b i v.n=gK from Jf _ _ _ R7];exact⟨by simp[gK],by simp[gK]⟩
  ·exact hn
theorem JC{u:a7}(hu:Whole u)(hp:∀(k:Nat) X,u.funcs[k]?=some X->∃R,rN X R)(hL:∀X∈u.funcs,iS (iP X)=false):Whole (v8 u):=by
 have L_:∀X∈u.funcs,(iP X).blocks.length<=40/\dV (iP X).blocks<=300/\(iP X).aF<=100:=λX hX=>by
  have h:=hL X hX;unfold iS qL at h;simp only[Bool.or_eq_false_iff,decide_eq_false_iff_not,aE]at h;omega
 refine⟨xJ hu.ok rfl (by unfold v8;rw[aG]) λi X Y hX hY=>?_,λY hY C hC=>?_,hu.J4⟩
 ·rw[Hi,hX]at hY
  obtain rfl:=be hY;obtain⟨R,hP⟩:=hp i X hX;have hl:=L_ X (aA hX);have hs:=qP hP;have Pj:=ahc (iP X).blocks;have hb:=hu.ok.body X (aA hX);obtain⟨_,h2,_,h4⟩:=jA hP.all;refine⟨rfl,rfl,⟨hs.par.2,hl.2.2⟩,⟨?_,hl.1⟩,ag,BM hP hb (pA hu.ok hX)⟩;show 1<=(pS _ _ _).length;rw[jB];omega
 ·unfold v8 at hY
  obtain⟨X,hX,rfl⟩:=aX.1 hY;obtain⟨k,hk⟩:=br hX;obtain⟨R,hP⟩:=hp k X hk;have hl:=(L_ X hX).2.2;have hn:=hu.ry X hX;have Kn:∀B∈fJ X,zm (λr=>0<=r) B:=λB hB=>(DO hP (hu.ok.body X hX) B hB).mono λr hr=>hr.1;have hsr:=Hh (ν:=qf (fJ X) X.params.toNat) (n:=X.params.toNat) Kn C hC;obtain⟨b,hb⟩:=br hC;have wi:(pS (qf (fJ X) X.params.toNat) (fJ X) X.params.toNat)[b]?=some C:=hb;have iR:b<(fJ X).length:=by have:=(aC.1 wi).1;rwa[jB]at this
  obtain⟨PB,Va⟩:∃PB,(fJ X)[b]?=some PB:=⟨_,aB iR⟩;rw[pT Va]at wi;obtain rfl:=be wi;have hR0:=Kn PB (aA Va);obtain⟨_,_,_,hlen⟩:=jA hP.all;obtain⟨B,hB⟩:∃B,X.blocks[b]?=some B:=⟨_,aB ag⟩;have hPe:PB={B with aL:=B.aL++di X.blocks R b}:=by
   have h1:=Va;rw[tI hP.all,iq hB]at h1;exact(be h1).symm
  have x7:=hn B (aA hB);have hdn:∀r,Y0 (qf (fJ X) X.params.toNat) (fJ X) X.params.toNat r->c9 r:=λr hr=>by
   have:=yy hP r hr;exact⟨ag,ag⟩
  have F0:(iP X).aF<=1000:=ag;refine⟨Bn hP F0 hR0.on (by rw[hPe];exact x7.on),λq hq v hv=>?_,λy hy=>?_⟩
  ·unfold CA at hq
   simp only at hq;obtain⟨i,hi⟩:=br hq;rw[cM]at hi;obtain⟨p,Me,rfl⟩:=cT.1 hi;unfold yv at hv;simp only at hv;obtain⟨j,hj⟩:=br hv;rw[cM]at hj;obtain⟨w,hw,rfl⟩:=cT.1 hj;have xB:=aA Me;have hwm:=aA hw;refine Bn hP F0 ((hR0.aL p xB).2 w hwm) ?_;rw[hPe]at xB;simp only at xB;rcases bL.1 xB with h|h
   ·exact x7.aL p h w hwm
   ·obtain⟨r,hr,_,rfl⟩:=jh h
    simp only[gS]at hwm;rw[jI hwm];have:=hP.all.le;exact⟨by simp only;omega,by simp only;omega⟩
  ·have hI:=hsr.list y hy
   unfold CA at hy;simp only at hy;obtain⟨k,AO⟩:=br hy;rw[cM]at AO;obtain⟨x,hx,rfl⟩:=cT.1 AO;have oZ:=aA hx;have hRx:=hR0.list x oZ;have hxB:x∈B.list:=by rw[hPe]at oZ;exact oZ
   obtain⟨n1,n2,n3,n4⟩:=x7.list x hxB;refine⟨?_,Bn hP F0 hRx.a n2,Bn hP F0 hRx.b n3,λv hv=>?_⟩
   ·by_cases h0:0<=(rH (qf (fJ X) X.params.toNat) (fJ X) X.params.toNat b k x).dst
    ·exact hdn _ (hI.dst h0)
    ·by_cases Dd:0<=x.dst
     ·refine absurd ?_ h0
      show 0<=(if 0<=x.dst then _ else x.dst);rw[if_pos Dd];have:=(qP hP).ge b ((a8 (fJ X) b).aL.length+k);have:=(qP hP).par;omega
     ·show c9 (if 0<=x.dst then _ else x.dst)
      rw[if_neg Dd];exact n1
   ·unfold rH at hv
    simp only at hv;obtain⟨w,hw,rfl⟩:=aX.1 hv;exact Bn hP F0 (hRx.args w hw) (n4 w hw)
theorem MB(L:List Int)(bl:List ar):dV (bl.map (qg L))=dV bl:=by
 unfold dV;rw[eS];congr 1;refine fw λB _=>?_;simp[qg]
theorem GZ{Z:aZ}{R:Nat}(hf:eX R Z.blocks)(ho:ch Z.blocks=List.range Z.blocks.length)(hr:Z.aF<=(gR Z).aF)(hL:iS (gR Z)=false):iS Z=false:=by
 have hk:ew Z=Z.blocks:=by unfold ew;rw[ho];exact P7 hf
 have h1:(gR Z).blocks=Z.blocks.map (qg (pL Z.params.toNat (ew Z))):=by show(ew Z).map _=_;rw[hk]
 unfold iS qL at hL⊢;rw[h1,aG,MB]at hL;simp only[Bool.or_eq_false_iff,decide_eq_false_iff_not]at hL⊢;exact⟨hL.1,hL.2.1,ag⟩
theorem Nc{X:aZ}{R:Nat}(h:rN X R)(ho:ch X.blocks=List.range X.blocks.length):ch (iP X).blocks=List.range (iP X).blocks.length:=by
 obtain⟨hg,dS,jq,hlen⟩:=jA h.all;have h1:(iP X).blocks.length=X.blocks.length:=by show(pS _ _ _).length=_;rw[jB,hlen]
 rw[h1,<-ho];exact tG h1 λi=>(ER _ _ _ i).trans (jq i)
section
variable {u:a7}
theorem MM(hu:Whole u)(hL:∀X∈u.funcs,iS (zF X)=false):∀Y∈(sL u).funcs,iS (iP Y)=false:=λY hY=>by
 obtain⟨k,hk⟩:=br hY;obtain⟨R,hP⟩:=xq hu k Y hk;have PK:=(oe hu).1;have AO:=hk;rw[yC]at AO;obtain⟨X,hX,rfl⟩:=cT.1 AO;obtain⟨_,hA,hT⟩:=ET hu.ok hX;have ho:=BT hT;have hB:=BM hP (PK.ok.body _ hY) (pA PK.ok hk);exact GZ (wL (R:=oG (fJ (lZ X)) (lZ X).params.toNat) rfl (t_.2 hB)) (Nc hP ho) (I8 hP ho) (hL X (aA hX))
theorem Rt{v:a7}(hv:Whole v)(hp:∀(k:Nat) X,v.funcs[k]?=some X->∃R,rN X R):kz v (v8 v):=λcX f m mO h1 hm=>by
 obtain⟨h2,h3⟩:=Ut hv (Ru hp) cX mO f;have h4:cg (v8 v) cX m=cg (v8 v) cX f:=xg (v8 v) f m _ (by have:=h2.state;unfold cg at this h1;rw[this];exact h1) hm;rw[h4];exact⟨h2,ag⟩
theorem Uf(hu:Whole u)(hL:∀X∈u.funcs,iS (zF X)=false):Whole (v8 (sL u)):=JC (oe hu).1 (xq hu) (MM hu hL)
theorem Du(hu:Whole u)(hL:∀X∈u.funcs,iS (zF X)=false):Whole (yk u)/\kz u (yk u):=by
 obtain⟨h1,h2⟩:=oe hu;have h3:=Uf hu hL;rw[Ue];exact⟨w6 h3,(h2.trans (Rt h1 (xq hu))).trans (yh h3 (EF h3.ok gR _ _ vQ))⟩
end
end
section
open Go Go.RowKit
attribute [local irreducible] wpListIn Code.wpIn Exit.then Exit.inBlock bodyPost wpQuiet wpAnyIn wpAnyH bodyPostM gX
set_option maxHeartbeats 4000000
theorem Mq{f:Nat}[aS Tryz.prog f](cap:List Value)(g:eC->Bool)(v:Value)(l:List eC)(w0:World)(hv:aM w0 v 2 l DN)(fv:∀w,lL dh w0 w->∀x∈l,∀sv,(∃a n c,sv=.slice a n c)->fi Tryz.prog f (.agg #[.int .i64 x.dst,sv]::cap) w (.bool (g x))):
  gV Tryz.prog 166 [v,.func (.func f) #[] cap.toArray] w0 λu w'=>∃r:Int,u=.int .i64 r/\Wd dh w0 [] w'/\decide (0<=r)=l.any g:=by
 obtain⟨a,n,c,b,o,rfl,hn,pE,E3,hc,ha,iK⟩:=hv;refine aQ Tryz.func166 rfl Tryz.ntmps166 rfl (Wd.nil dh w0) ?_;refine aO ?_;refine bP (λ(i:Nat)=>i<=n/\∀j t,j<i->l[j]?=some t->g t=false) (λi=>[(8,.int .i64 i),(0,.slice a n c),(1,.func (.func f) #[] cap.toArray),(7,.int .i64 n)]) (λ_=>[]) (λi=>n-i) 0 ⟨aY _,by simp⟩ (aV aw aH) λi ⟨hi,cP⟩=>?_;refine aU ?_;refine aN (λh1=>?_) (λh1=>?_)
 ·have bT:i<n:=by simpa using h1
  obtain⟨x,hx⟩:=dJ hn bT;have pY:bY a b o:=⟨ha (aW hx)⟩;have mW:bZ i n:=⟨bT⟩;obtain⟨cs,fZ,sv,rfl,_,mP⟩:=iK i x hx;obtain⟨sa,sn,sc,_,_,rfl,_⟩:=id mP;have oQ:a_ w0 b (o+i*2) [.int .i64 x.dst,.slice sa sn sc]:=⟨fZ⟩;refine aO ?_;refine kD rfl (us:=[]) (vs:=[.agg #[.int .i64 x.dst,.slice sa sn sc]]) (xs:=cap) (λw hw=>fv w hw.cE x (aA hx) _ ⟨_,_,_,rfl⟩) ?_;refine aU ?_;refine aN (λh2=>?_) (λh2=>?_)
  ·refine aI ?_
   refine cA rfl λw hw=>⟨_,rfl,⟨hw.cE,by simp,by simp,by simp⟩,?_⟩;rw[decide_eq_true (by omega:(0:Int)<=(i:Int))]
   symm
   simp only[oq];exact⟨x,aA hx,h2⟩
  ·refine aO ?_
   refine bC (i+1) ⟨bT,λj t hj ht=>?_⟩ ag aw aH
   by_cases wT:j=i
   ·subst wT
    rw[hx]at ht;obtain rfl:=be ht;exact h2
   ·exact cP j t ag ht
 ·have gT:i=n:=by have:=h1;simp at this;omega
  refine aI ?_;refine cA rfl λw hw=>⟨-1,rfl,⟨hw.cE,by simp,by simp,by simp⟩,?_⟩;rw[decide_eq_false (by omega:¬(0:Int)<=-1)]
  symm
  rw[vq];intro t ht;obtain⟨j,hj⟩:=br ht;rw[cP j t (by have:=(aC.1 hj).1;omega) hj];simp
theorem D2{f:Nat}[aS Tryz.prog f](cap:List Value)(g:eC->Bool)(v:Value)(l:List eC)(w0:World)(hv:aM w0 v 2 l DN)(fv:∀w,lL dh w0 w->∀x∈l,∀sv,(∃a n c,sv=.slice a n c)->fi Tryz.prog f (.agg #[.int .i64 x.dst,sv]::cap) w (.bool (g x))):
  fi Tryz.prog 149 [v,.func (.func f) #[] cap.toArray] w0 (.bool (l.any g)):=by
 obtain⟨a,n,c,rfl⟩:∃a n c,v=.slice a n c:=by obtain⟨a,n,c,b,o,rfl,_⟩:=hv;exact⟨a,n,c,rfl⟩
 refine aQ Tryz.func149 rfl Tryz.ntmps149 rfl (Wd.nil dh w0) ?_;refine aU ?_;refine cV (val:=λr:Int=>.int .i64 r) (E:=λ_=>[]) (φ:=λr=>decide (0<=r)=l.any g) rfl (λw hw=>Mq cap g _ l w (hv.cu x9 hw.cE) λw2 h2=>fv w2 (hw.cE.trans h2)) λr hr=>?_;simp only[aT];refine aO ?_;rw[hr];exact bQ rfl rfl
theorem Mp{f:Nat}[aS Tryz.prog f](cap:List Value)(g:en->Bool)(v:Value)(l:List en)(w0:World)(hv:aM w0 v 8 l DK)(fv:∀w,lL dh w0 w->∀x∈l,∀sv,(∃a n c,sv=.slice a n c)->fi Tryz.prog f (.agg #[.int .i64 x.op,.int .i64 x.dst,.bool x.a.bD,.int .i64 x.a.n,.bool x.b.bD,.int .i64 x.b.n,.int .i64 x.fn,sv]::cap) w (.bool (g x))):
  gV Tryz.prog 148 [v,.func (.func f) #[] cap.toArray] w0 λu w'=>∃r:Int,u=.int .i64 r/\Wd dh w0 [] w'/\decide (0<=r)=l.any g:=by
 obtain⟨a,n,c,b,o,rfl,hn,pE,E3,hc,ha,iK⟩:=hv;refine aQ Tryz.func148 rfl Tryz.ntmps148 rfl (Wd.nil dh w0) ?_;refine aO ?_;refine bP (λ(i:Nat)=>i<=n/\∀j t,j<i->l[j]?=some t->g t=false) (λi=>[(8,.int .i64 i),(0,.slice a n c),(1,.func (.func f) #[] cap.toArray),(7,.int .i64 n)]) (λ_=>[]) (λi=>n-i) 0 ⟨aY _,by simp⟩ (aV aw aH) λi ⟨hi,cP⟩=>?_;refine aU ?_;refine aN (λh1=>?_) (λh1=>?_)
 ·have bT:i<n:=by simpa using h1
  obtain⟨x,hx⟩:=dJ hn bT;have pY:bY a b o:=⟨ha (aW hx)⟩;have mW:bZ i n:=⟨bT⟩;obtain⟨cs,fZ,sv,rfl,_,_,_,_,_,mP⟩:=iK i x hx;obtain⟨sa,sn,sc,_,_,rfl,_⟩:=id mP;have oQ:a_ w0 b (o+i*8) [.int .i64 x.op,.int .i64 x.dst,.bool x.a.bD,.int .i64 x.a.n,.bool x.b.bD,.int .i64 x.b.n,.int .i64 x.fn,.slice sa sn sc]:=⟨fZ⟩;refine aO ?_;refine kD rfl (us:=[]) (vs:=[.agg #[.int .i64 x.op,.int .i64 x.dst,.bool x.a.bD,.int .i64 x.a.n,.bool x.b.bD,.int .i64 x.b.n,.int .i64 x.fn,.slice sa sn sc]]) (xs:=cap) (λw hw=>fv w hw.cE x (aA hx) _ ⟨_,_,_,rfl⟩) ?_;refine aU ?_;refine aN (λh2=>?_) (λh2=>?_)
  ·refine aI ?_
   refine cA rfl λw hw=>⟨_,rfl,⟨hw.cE,by simp,by simp,by simp⟩,?_⟩;rw[decide_eq_true (by omega:(0:Int)<=(i:Int))]
   symm
   simp only[oq];exact⟨x,aA hx,h2⟩
  ·refine aO ?_
   refine bC (i+1) ⟨bT,λj t hj ht=>?_⟩ ag aw aH
   by_cases wT:j=i
   ·subst wT
    rw[hx]at ht;obtain rfl:=be ht;exact h2
   ·exact cP j t ag ht
 ·have gT:i=n:=by have:=h1;simp at this;omega
  refine aI ?_;refine cA rfl λw hw=>⟨-1,rfl,⟨hw.cE,by simp,by simp,by simp⟩,?_⟩;rw[decide_eq_false (by omega:¬(0:Int)<=-1)]
  symm
  rw[vq];intro t ht;obtain⟨j,hj⟩:=br ht;rw[cP j t (by have:=(aC.1 hj).1;omega) hj];simp
theorem D1{f:Nat}[aS Tryz.prog f](cap:List Value)(g:en->Bool)(v:Value)(l:List en)(w0:World)(hv:aM w0 v 8 l DK)(fv:∀w,lL dh w0 w->∀x∈l,∀sv,(∃a n c,sv=.slice a n c)->fi Tryz.prog f (.agg #[.int .i64 x.op,.int .i64 x.dst,.bool x.a.bD,.int .i64 x.a.n,.bool x.b.bD,.int .i64 x.b.n,.int .i64 x.fn,sv]::cap) w (.bool (g x))):
  fi Tryz.prog 100 [v,.func (.func f) #[] cap.toArray] w0 (.bool (l.any g)):=by
 obtain⟨a,n,c,rfl⟩:∃a n c,v=.slice a n c:=by obtain⟨a,n,c,b,o,rfl,_⟩:=hv;exact⟨a,n,c,rfl⟩
 refine aQ Tryz.func100 rfl Tryz.ntmps100 rfl (Wd.nil dh w0) ?_;refine aU ?_;refine cV (val:=λr:Int=>.int .i64 r) (E:=λ_=>[]) (φ:=λr=>decide (0<=r)=l.any g) rfl (λw hw=>Mp cap g _ l w (hv.cu Df hw.cE) λw2 h2=>fv w2 (hw.cE.trans h2)) λr hr=>?_;simp only[aT];refine aO ?_;rw[hr];exact bQ rfl rfl
theorem QZ(r:Int)(pr:Nat)(x:en)(sv:Value)(mP:∃a n c,sv=.slice a n c)(w0:World)(hp:bG w0 pr 0 [.int .i64 r]):
  fi Tryz.prog 101 [.agg #[.int .i64 x.op,.int .i64 x.dst,.bool x.a.bD,.int .i64 x.a.n,.bool x.b.bD,.int .i64 x.b.n,.int .i64 x.fn,sv],.pointer (some ⟨pr,0,none⟩)] w0 (.bool (decide (x.dst=r))):=by
 obtain⟨a,n,c,rfl⟩:=mP;have oQ:a_ w0 pr 0 _:=⟨hp⟩;refine aQ Tryz.func101 rfl Tryz.ntmps101 rfl (Wd.nil dh w0) ?_
 repeat(first|refine aO ?_|refine dX λ_ _=>?_)
 exact bQ rfl rfl
theorem Nh(r:Int)(pr:Nat)(x:eC)(sv:Value)(mP:∃a n c,sv=.slice a n c)(w0:World)(hp:bG w0 pr 0 [.int .i64 r]):
  fi Tryz.prog 150 [.agg #[.int .i64 x.dst,sv],.pointer (some ⟨pr,0,none⟩)] w0 (.bool (decide (x.dst=r))):=by
 obtain⟨a,n,c,rfl⟩:=mP;have oQ:a_ w0 pr 0 _:=⟨hp⟩;refine aQ Tryz.func150 rfl Tryz.ntmps150 rfl (Wd.nil dh w0) ?_
 repeat(first|refine aO ?_|refine dX λ_ _=>?_)
 exact bQ rfl rfl
theorem Hn(B:ar)(r:Int)(pv lv tv:Value)(Tn:∃a n c,lv=.slice a n c)(VO:∃a n c,tv=.slice a n c)(w0:World)(Cs:aM w0 pv 2 B.aL DN):
  fi Tryz.prog 102 [.agg #[pv,lv,.int .i64 B.kind,.bool B.on.bD,.int .i64 B.on.n,tv],.int .i64 r] w0 (.bool (j_ B r)):=by
 obtain⟨la,ln,lc,rfl⟩:=Tn;obtain⟨ta,tn,tc,rfl⟩:=VO;obtain⟨pa,pn,pc,rfl⟩:∃a n c,pv=.slice a n c:=by obtain⟨a,n,c,b,o,rfl,_⟩:=Cs;exact⟨a,n,c,rfl⟩
 refine aQ Tryz.func102 rfl Tryz.ntmps102 rfl (Wd.nil dh w0) ?_
 repeat(first|refine aU ?_|refine dX λ_ _=>?_)
 rename_i p2 _ p3 _;refine bI rfl (λw hw=>D2 (f:=150) [.pointer (some ⟨p3,0,none⟩)] (λp=>decide (p.dst=r)) (.slice pa pn pc) B.aL w (Cs.cu x9 hw.cE) λw2 h2 x hx sv mP=>Nh r p3 x sv mP w2 λj v hj=>?_) ?_
 ·have h3:w.cell? ⟨p3,0+j,none⟩=some v:=hw.gW p3 j v hj
  exact fU h2 h3
 refine aO ?_;exact bQ rfl rfl
theorem SJ(q pf:Nat)(av kv:Value)(m:Int)(hm:0<=m/\m<=1000000)(w:World)(hw:Wd (cF [(λm:Int=>aj q [.pointer (some ⟨pf,0,none⟩),av,kv,.int .i64 m] 102) m]) w [(λm:Int=>aj q [.pointer (some ⟨pf,0,none⟩),av,kv,.int .i64 m] 102) m] w):
  gV Tryz.prog 111 [.pointer (some ⟨q,0,none⟩)] w λu w'=>∃_x:Unit,u=.agg #[.bool true,.int .i64 m]/\Wd (cF [(λm:Int=>aj q [.pointer (some ⟨pf,0,none⟩),av,kv,.int .i64 m] 102) m]) w [(λm:Int=>aj q [.pointer (some ⟨pf,0,none⟩),av,kv,.int .i64 m] 102) (m+1)] w'/\True:=by
 refine aQ Tryz.func111 rfl Tryz.ntmps111 rfl hw ?_;have ha1:z8 m 1:=⟨ag,ag⟩;generalize cF [(λm:Int=>aj q [.pointer (some ⟨pf,0,none⟩),av,kv,.int .i64 m] 102) m]=SS;simp only
 repeat(first|refine aI ?_|refine dX λ_ _=>?_)
 rw[show m+1-1=m by omega];exact gH rfl λw hw=>⟨(),rfl,hw.sub aH,trivial⟩
def Jh(names:List cm)(v:cm):cm:=if v.bD then names.getD v.n.toNat gK else v
theorem ab1(pn:Nat)(nv:Value)(names:List cm)(w0:World)(hp:bG w0 pn 0 [nv])(hn:aM w0 nv 2 names λ_ v cs=>cs=df v)(v:cm)(hv:v.bD=true->0<=v.n/\v.n<names.length):
  fi Tryz.prog 110 [.agg #[.bool v.bD,.int .i64 v.n],.pointer (some ⟨pn,0,none⟩)] w0 (.agg #[.bool (Jh names v).bD,.int .i64 (Jh names v).n]):=by
 obtain⟨a,n,c,b,o,rfl,B_,_,_,_,ha,iK⟩:=hn;have oQ:a_ w0 pn 0 _:=⟨hp⟩;refine aQ Tryz.func110 rfl Tryz.ntmps110 rfl (Wd.nil dh w0) ?_;obtain⟨bD,vn⟩:=v;cases bD with
 |false=>
  simp only[Jh]
  repeat(first|refine aI ?_|refine dX λ_ _=>?_)
  exact gH rfl λw hw=>⟨rfl,hw.cE⟩
 |true=>
  obtain⟨h1,h2⟩:=hv rfl;simp only at h1 h2;obtain⟨r,rfl⟩:∃r:Nat,vn=r:=⟨vn.toNat,ag⟩;have hr:r<names.length:=ag;obtain⟨x,hx⟩:∃x,names[r]?=some x:=⟨_,aB hr⟩;have adX:Jh names ⟨true,r⟩=x:=by unfold Jh;simp only[if_true,dD];rw[cz,hx];rfl
  rw[adX];have pY:bY a b o:=⟨ha (aW hx)⟩;have mW:bZ r n:=⟨ag⟩;obtain⟨cs,fZ,rfl⟩:=iK r x hx;have vC:a_ w0 b (o+r*2) [.bool x.bD,.int .i64 x.n]:=⟨fZ⟩;simp only
  repeat(first|refine aI ?_|refine dX λ_ _=>?_)
  exact gH rfl λw hw=>⟨rfl,hw.cE⟩
end
section
open Go Go.RowKit
attribute [local irreducible] wpListIn Code.wpIn Exit.then Exit.inBlock bodyPost wpQuiet wpAnyIn wpAnyH
set_option maxHeartbeats 4000000
theorem M0(b0 o0 n:Nat)(z:cm)(w:World)(hx:bG w b0 o0 (df z))(NB:n<=1000):
  gV Tryz.prog 104 [.slice (some ⟨b0,o0,none⟩) 1 1,.int .i64 n] w λu w'=>∃a:Nat,u=.slice (some ⟨a,0,none⟩) n n/\Wd dh w [ai (some ⟨a,0,none⟩) n n 41 2 ((List.replicate n z).flatMap df)] w'/\True:=by
 have hg:∀x:cm,(df x).length=2:=λ_=>rfl;refine aQ Tryz.func104 rfl Tryz.ntmps104 rfl (Wd.nil dh w) ?_;refine aO ?_;rw[show decide ((n:Int)<0)=false by simp]
 skip
 refine rX rfl rfl ?_;refine aU ?_;refine rX rfl (by rw[IntKind.wrap_u64];omega) ?_;refine bI rfl (λw' _=>Qu 1 n ag ag ag w') ?_;rw[Nat.one_mul];refine aI ?_;rw[show decide (9223372036854775807<(n:Int))=false by simp;omega,show decide ((0:Int)<0)=false from rfl];refine aO ?_;refine rX rfl ?_ ?_
 ·rw[IntKind.wrap_i64];omega
 refine SQ rfl rfl ag ag df gK rfl λa _=>?_;have AV:∀(l:List (cm)),∀v∈l.flatMap df,v.oneCell'=true:=λl v hv=>by
  obtain⟨q,_,hq⟩:=du.1 hv;simp only[df,bJ,iI,or_false]at hq;rcases hq with rfl|rfl<;>rfl
 refine aU ?_;refine D9 (b:=a) (o:=0) (off:=0) 0 (min 1 n) ((List.replicate (min 1 n) z).flatMap df) rfl rfl rfl (by rw[ct hg,ef]) (λw' hw j v hj=>?_) (by rw[ct hg,ct hg,ef,ef];omega) (AV _) ?_
 ·obtain⟨i,x,k,h1,h2,rfl⟩:=oU hg _ _ _ hj
  have hi:=(aC.1 h1).1;rw[ef]at hi;obtain rfl:=jI (aA h1);obtain rfl:i=0:=ag;have:=fU hw.cE (hx k v h2);rw[Nat.zero_mul,dM];exact this
 have e0:=FM hg (List.replicate n gK) (List.replicate (min 1 n) z) 0;rw[Nat.zero_mul]at e0;simp only[bS];rw[e0];rw[show(List.replicate n gK).take 0++List.replicate (min 1 n) z++(List.replicate n gK).drop (0+(List.replicate (min 1 n) z).length)=List.replicate (min 1 n) z++List.replicate (n-min 1 n) gK by simp[List.drop_replicate]];refine aO ?_;refine bP (λ(m:Nat)=>(1<=m∨n=0)/\m<=n) (λm=>[(8,.int .i64 m),(7,.slice (some ⟨a,0,none⟩) n n)]) (λm=>[ai (some ⟨a,0,none⟩) n n 41 2 ((List.replicate m z++List.replicate (n-m) gK).flatMap df)]) (λm=>n-m) (min 1 n) ⟨ag,ag⟩ (aV aw ag2) λm ⟨Ek,hmn⟩=>?_;refine aU ?_;refine aN (λh1=>?_) (λh1=>?_)
 ·have bT:m<n:=by simpa using h1
  have Ny:NN m n n:=⟨ag,bT⟩;have Gd:CI m n:=⟨ag⟩;refine aO ?_;refine wM [(8,.int .i64 ((m+min m (n-m):Nat):Int)),(7,.slice (some ⟨a,0,none⟩) n n)] [ai (some ⟨a,0,none⟩) n n 41 2 ((List.replicate (m+min m (n-m)) z++List.replicate (n-(m+min m (n-m))) gK).flatMap df)] mixed ?_ ?_
  ·repeat' (first|refine fA 0 rfl aq ?_|refine fA 1 rfl aq ?_|refine fA 2 rfl aq ?_|refine fA 3 rfl aq ?_|refine fA 4 rfl aq ?_|refine fA 5 rfl aq ?_|refine fA 6 rfl aq ?_|refine AB aq ?_|refine any_nil|refine pt aq ?_|refine any_cons ?_ ?_)
   refine D9 (b:=a) (o:=0) (off:=m*2) 0 (min m (n-m)) ((List.replicate (min m (n-m)) z).flatMap df) rfl rfl rfl (by rw[ct hg,ef]) (λw' hw j v hj=>?_) (by rw[ct hg,ct hg,bR,ef,ef,ef];omega) (AV _) ?_
   ·obtain⟨i,x,k,h1,h2,rfl⟩:=oU hg _ _ _ hj
    have hi:=(aC.1 h1).1;rw[ef]at hi;have hk:k<2:=(aC.1 h2).1;refine hw.cK (k:=0) rfl (fy hg _ i x k v ?_ h2);rw[dG (by rw[ef];omega),h_,if_pos ag];rw[jI (aA h1)]
   rw[FM hg,ef,MX z gK m n _ (Nat.min_comm _ _) hmn];simp only[bS]
   repeat' (first|refine AC aq ?_|refine AB aq ?_|refine any_nil|refine pt aq ?_|refine any_cons ?_ ?_|refine k9 ?_|refine oD ?_|refine u6 rfl ?_|refine u5 rfl ag ag ?_)
   all_goals
    rw[<-Int.natCast_add]
   skip
   all_goals exact aV aw ag2
  ·refine aO ?_
   exact bC (m+min m (n-m)) ⟨ag,ag⟩ ag aw ag2
 ·have gT:m=n:=by have:=h1;simp at this;omega
  subst gT;rw[dq,List.replicate_zero,cq];refine aI ?_;exact cA rfl λw' hw=>⟨a,rfl,hw,trivial⟩
end
end Go.Proofs.YthfhgolkafpmnaaGreatDoor
