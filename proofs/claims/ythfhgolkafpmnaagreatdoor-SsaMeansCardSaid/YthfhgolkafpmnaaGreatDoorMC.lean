/- Texts joined: SngZ SngU OneP OneQ OneR OneT OneA RepV. -/
import Derived.Test.YthfhgolkafpmnaaGreatDoorIJ
import Derived.Test.YthfhgolkafpmnaaGreatDoorMA
namespace Go.Proofs.YthfhgolkafpmnaaGreatDoor
open Go.Value renaming int->U,slice->J,pointer->ar,bool->D,agg->au
open Go.IntKind renaming i64->O
open Option renaming some->Z,none->A
open Go renaming Value->V,World->C
open Go.Proofs.Tryz
open Go.Proofs.Tryz renaming prog->ae
open Go Go.RowKit
section
theorem JQ{a b:List ep}{r:Int}:∀m,m<=b.length->oF (a++b) r (a.length+m)=match oF b r m with
  |some k=>Z (a.length+k)
  |none=>oF a r a.length
 |0,_=>by
  have key:∀n,n<=a.length->oF (a++b) r n=oF a r n:=by
   intro n
   induction n with
   |zero=>intro _;rfl
   |succ n ih=>
    intro hn;have e0:∀c:List ep,oF c r (n+1)=if (c[n]?.map (·.dst))=Z r then Z n else oF c r n:=λ_=>rfl
    rw[e0,e0,dY I,ih I]
  exact key _ (bG _)
 |m+1,hm=>by
  have e0:∀(c:List ep) (n:Nat),oF c r (n+1)=if (c[n]?.map (·.dst))=Z r then Z n else oF c r n:=λ_ _=>rfl
  rw[<-dI,e0,e0,dC I,lE,JQ m I]
  by_cases h:(b[m]?.map (·.dst))=Z r
  ·rw[if_pos h,if_pos h]
  ·rw[if_neg h,if_neg h]
theorem LZ{l:List (Nat×Int)}{r:Nat}:∀{j:Nat} {q:Nat×Int},l[j]?=Z q->q.1=r->(∀j' q',l[j']?=Z q'->q'.1=r->j'=j)->qu l r=Z q.2:=by
 induction l with
 |nil=>intro j q h;simp at h
 |cons p l ih=>
  intro j q h hq hu;rw[rr];cases j with
  |zero=>
   have e:p=q:=ax h;subst e;have hn:qu l r=A:=ui.2 λq' hq' e=>by
    obtain⟨j',Nn⟩:=bg hq';have:=hu (j'+1) q' (ax Nn) e;omega
   rw[hn];simp only;rw[if_pos hq]
  |succ j=>
   have h2:l[j]?=Z q:=ax h;rw[ih h2 hq λj' q' Nn e=>by
    have:=hu (j'+1) q' (ax Nn) e;omega]
section
variable {X:aY} {Y:aY} {ν:Nat->Nat->Int} {R:Nat}
theorem Yu{u:a8}(hfx:MR u X R)(hs:Ek X Y ν){b to:Nat}{B T:E}(hB:X.blocks[b]?=Z B)(hT:X.blocks[to]?=Z T)(ht:(to:Int)∈B.to){f g:mf}(Fm:f.aB.length=R)(hgl:g.aB.length=Y.aB.toNat)
  (hrel:∀r:Nat,ik X.blocks r b B.list.length->cK g (nm ν (cw X) X.params.toNat b B.list.length r)=f.aB.getD r 0) (r:Nat) (hl:ik X.blocks r to (0:Nat)) (g':mf)
  (Zs:g'.aB=jp g ((aZ X.blocks to).idxOf b) (fD Y.blocks to)):
  cK g' (nm ν (cw X) X.params.toNat to 0 r)=(jp f ((aZ X.blocks to).idxOf b) T.aD).getD r 0:=by
 have Nb:X.aB.toNat=R:=by rw[hfx.aB];omega
 obtain⟨P,hP⟩:∃P,P=cw X:=⟨_,rfl⟩;obtain⟨n,hn⟩:∃n,n=X.params.toNat:=⟨_,rfl⟩;have R9:P=dw X.blocks R:=by rw[hP];unfold cw;rw[Nb]
 have C5:=hs.inj;have bS:=hs.lt;have gP:=hs.ge;have o_:=hs.par;have IU:=hs.blocks;rw[<-hP]at C5 bS IU hrel⊢;rw[<-hn]at IU hrel⊢;have rm:=hfx.ok.iM;have ii:∀i,db P i=db X.blocks i:=λi=>by rw[R9];exact lO _ _ i
 have hPl:P.length=X.blocks.length:=by rw[R9,e7]
 have EK:cT P:=tU hPl ii rm;have VD:0<P.length:=by rw[hPl];exact hfx.pos
 have uV:aZ P to=aZ X.blocks to:=by rw[R9,Bu]
 have hfP:fu R P:=by rw[R9];exact qJ hfx.ok (bG _)
 have gF:=(az.1 hB).1;have zP:=(az.1 hT).1;have Zn:Edge X.blocks b to:=by unfold Edge;rw[fY hB];exact ht
 have hbp:b∈aZ X.blocks to:=pt gF Zn;have hKl:(aZ X.blocks to).idxOf b<(aZ X.blocks to).length:=ju hbp;have hKg:(aZ X.blocks to)[(aZ X.blocks to).idxOf b]?=Z b:=by rw[a_ hKl,mN]
 generalize (aZ X.blocks to).idxOf b=akc at*;have ajQ:1<=to:=by have:=hs.pos b (to:Int) (by rw[fY hB];exact ht);omega
 have LB:gH P (-1) 0 to:=(uB ii).2 (hs.reach to zP);obtain⟨PT,acY⟩:∃PT,PT=({T with aD:=T.aD++dg X.blocks R to}:E):=⟨_,rfl⟩;have hPT:P[to]?=Z PT:=by rw[R9,acY];exact gG hT
 have acX:aN P to=PT:=bQ hPT;have WO:PT.aD=T.aD++dg X.blocks R to:=by rw[acY]
 have Le:(aN P b).list=B.list:=by rw[R9,vd gF,bQ hB]
 have hCp:fD Y.blocks to=PT.aD.mapIdx (qL ν P n to):=by
  unfold fD;rw[IU,gz hPT]
  rfl
 have ag4:Mu P to akc=b:=by unfold Mu;rw[uV,hKg];rfl
 have qh:∀j p,PT.aD[j]?=Z p->cK g ((qL ν P n to j p).src.getD akc iu)=cK f (p.src.getD akc iu):=λj p hp=>by
  have zO:=aq hp;have De:=(hfP.block to PT hPT).aD p zO;have hlen:p.src.length=(aZ X.blocks to).length:=by rw[De.len,uV]
  have hv:p.src[akc]?=Z (p.src[akc]'I):=a_ _;generalize p.src[akc]'I=v at hv;have hvo:=De.uJ v (aq hv);have h1:(qL ν P n to j p).src.getD akc iu=k7 ν P n b B.list.length v:=by
   unfold qL;simp only;rw[cB,cf,hv];simp only[bu,dW];unfold uF;rw[ag4,Le]
  have h2:p.src.getD akc iu=v:=by rw[cB,hv];rfl
  rw[h1,h2];unfold k7
  by_cases hr:v.z=true
  ·rw[if_pos hr]
   have h3:=hvo hr;obtain⟨q,hq⟩:∃q:Nat,v.n=q:=⟨v.n.toNat,I⟩;have I7:ik X.blocks q b B.list.length:=by
    rw[WO]at zO;rcases bA.1 zO with hm|hm
    ·have wj:fD X.blocks to=T.aD:=by unfold fD;rw[hT]
     refine .take hB (.inl rfl) ht ?_;have hK2:akc=(aZ X.blocks to).idxOf b:=by
      have oZ:=jV X.blocks to;have:=(az.1 hKg).2;rw[<-this,List.Nodup.idxOf_getElem oZ]
     exact QR (p:=p) (by rw[wj];exact hm) hK2 (by rw[h2];exact hr) (by rw[h2];exact hq)
    ·obtain⟨r',Dh,oZ,rfl⟩:=jU hm
     have hve:v=⟨true,r'⟩:=by
      unfold iI at hv;simp only at hv;exact jK (aq hv)
     have:q=r':=by rw[hve]at hq;simp only at hq;omega
     subst this;exact .jump hB (.inl rfl) ht oZ.2.2
   have h4:=hrel q I7;rw[hq,h4];unfold cK;rw[if_pos hr,hq,dO]
  ·rw[if_neg hr]
   unfold cK;rw[if_neg hr,if_neg hr]
 rw[hCp,tp]at Zs;obtain⟨LS,hLS⟩:∃LS,LS=(PT.aD.mapIdx (qL ν P n to)).map λp=>(p.dst.toNat,cK g (p.src.getD akc iu)):=⟨_,rfl⟩;rw[<-hLS]at Zs;have acU:∀j q,LS[j]?=Z q->∃p,PT.aD[j]?=Z p/\q=((ν to j).toNat,cK f (p.src.getD akc iu)):=λj q hq=>by
  rw[hLS,aJ,cf]at hq;cases hp:PT.aD[j]? with
  |none=>rw[hp]at hq;cases hq
  |some p=>
   rw[hp]at hq;simp only[bu,b_]at hq;refine⟨p,rfl,?_⟩;rw[<-hq,qh j p hp]
   rfl
 have r6:∀j p,PT.aD[j]?=Z p->Site PT j:=λj p hp=>.inl (az.1 hp).1;have GN:∀b k,(n:Int)<=ν b k:=λb k=>by have:=gP b k;omega
 have I4:∀w:cg,(w.z=true->0<=w.n/\∀j p,PT.aD[j]?=Z p->w.n≠ν to j)->cK g' w=cK g w:=λw hw=>by
  unfold cK
  by_cases hr:w.z=true
  ·obtain⟨h1,h2⟩:=hw hr
   rw[if_pos hr,if_pos hr,Zs,cB,cB,xY];have I_:qu LS w.n.toNat=A:=ui.2 λq hq e=>by
    obtain⟨j,hj⟩:=bg hq;obtain⟨p,hp,rfl⟩:=acU j q hj;have h3:=GN to j;exact h2 j p hp (by simp only at e;omega)
   rw[I_];cases g.aB[w.n.toNat]?<;>rfl
  ·rw[if_neg hr,if_neg hr]
 have Dd:∀j p,PT.aD[j]?=Z p->cK g' ⟨true,ν to j⟩=cK f (p.src.getD akc iu):=λj p hp=>by
  have h3:=GN to j;have h4:=bS to PT j hPT (r6 j p hp);have hLj:LS[j]?=Z ((ν to j).toNat,cK f (p.src.getD akc iu)):=by
   rw[hLS,aJ,cf,hp];simp only[bu,b_];rw[qh j p hp]
   rfl
  have hu:qu LS (ν to j).toNat=Z (cK f (p.src.getD akc iu)):=LZ hLj rfl λj' q' Nn e=>by
   obtain⟨p',wi,rfl⟩:=acU j' q' Nn;have h5:=GN to j';exact(C5 to to j' j PT PT hPT hPT (r6 j' p' wi) (r6 j p hp) (by simp only at e;omega)).2
  unfold cK;simp only[if_true];rw[Zs,cB,xY,hu,a_ (show(ν to j).toNat<g.aB.length by omega)]
  rfl
 have aaF:∀p∈T.aD,0<=p.dst/\p.dst<R:=λp hp=>((hfx.ok.block to T hT).aD p hp).dst;have adz:(jp f akc T.aD).getD r 0=((f.aB[r]?).map λx=>((oF T.aD r T.aD.length).bind λj=>(T.aD[j]?).map λp=>cK f (p.src.getD akc iu)).getD x).getD 0:=by
  have h1:=y9 (ps:=T.aD) (F:=λp=>cK f (p.src.getD akc iu)) (r:=r) (λp hp=>(aaF p hp).1) T.aD.length (bG _);rw[cQ]at h1;rw[tp,cB,xY,h1]
 rw[adz,NT EK VD LB,acX];unfold NQ;rw[acX];have Pe:=JQ (a:=T.aD) (b:=dg X.blocks R to) (r:=(r:Int)) (dg X.blocks R to).length (bG _);rw[<-bX,<-WO]at Pe;rw[Pe];cases hnw:oF (dg X.blocks R to) (r:Int) (dg X.blocks R to).length with
 |some k=>
  simp only;obtain⟨hk1,p,hp,ZK⟩:=pj hnw;obtain⟨r',Dh,oZ,hpe⟩:=jU (aq hp);have hrr:r'=r:=by rw[hpe]at ZK;simp only[iI]at ZK;omega
  subst hrr;have agP:oF T.aD (r':Int) T.aD.length=A:=AG (by have:=Ae.1 oZ.2.1;rw[bQ hT]at this;exact this) _;rw[agP];have Lu:PT.aD[T.aD.length+k]?=Z p:=by rw[WO,dC I,lE];exact hp
  rw[Dd _ p Lu,hpe];have tY:(iI X.blocks to r').src.getD akc iu=⟨true,r'⟩:=by
   unfold iI;simp only;rw[cB,g_,if_pos (by exact(az.1 hKg).1)]
   rfl
  rw[tY];unfold cK;simp only[if_true,dO,Option.bind_none,Option.getD_none];rw[cB];cases f.aB[r']?<;>rfl
 |none=>
  simp only;cases hold:oF T.aD (r:Int) T.aD.length with
  |some j=>
   simp only;obtain⟨hj1,p,hp,ZK⟩:=pj hold;have Lu:PT.aD[j]?=Z p:=by rw[WO,dY hj1];exact hp
   rw[Dd j p Lu];have h5:=aaF p (aq hp);rw[ZK]at h5;rw[a_ (show r<f.aB.length by omega)];simp only[Option.bind_some,hp,bu,dW]
  |none=>
   simp only;have hTn:∀p∈T.aD,p.dst≠(r:Int):=λp hp e=>by
    have h1:=y9 (ps:=T.aD) (F:=λ_=>(0:Int)) (r:=r) (λp hp=>(aaF p hp).1) T.aD.length (bG _);rw[cQ,hold]at h1;exact ui.1 h1 _ (aV.2 ⟨p,hp,rfl⟩) bK
   have hlm:ik X.blocks r to (-1):=.kN hT hTn hl;have SH:ik X.blocks r b B.list.length:=.jump hB (.inl rfl) ht hlm;have hr:=hrel r SH;have GJ:((f.aB[r]?).map λx=>((A:Option Nat).bind λj=>(T.aD[j]?).map λp=>cK f (p.src.getD akc iu)).getD x).getD 0=f.aB.getD r 0:=by
    rw[cB];cases f.aB[r]?<;>rfl
   rw[GJ,<-hr];have hmt:r<R->¬l7 X.blocks (ox X.blocks r) to:=λLz hm=>by
    have oZ:need X.blocks to r:=⟨hm,by rw[bQ hT];exact Ae.2 hTn,hlm⟩;have C8:iI X.blocks to r∈dg X.blocks R to:=by
     classical
     unfold dg;exact aV.2 ⟨r,cC.2 ⟨cM.2 Lz,ax oZ⟩,rfl⟩
    have h1:=y9 (ps:=dg X.blocks R to) (F:=λ_=>(0:Int)) (r:=r) (λp hp=>by obtain⟨q,_,_,rfl⟩:=jU hp;simp[iI]) _ (bG _);rw[cQ,hnw]at h1;exact ui.1 h1 _ (aV.2 ⟨_,C8,rfl⟩) (by simp[iI])
   have Lz:r<R:=XJ hfx.ok SH;have hep:=RH (ν:=ν) (R:=R) (n:=n) rm hfx.pos I (hs.reach b gF) Zn (hmt Lz);rw[<-R9,Le]at hep;rw[hep];refine I4 _ λlZ=>?_;rcases Ws (ν:=ν) (n:=n) EK VD (show(0:Int)<=(r:Int) by omega) LB with⟨c,k,e,e_,hck,eQ,_⟩|⟨e,h⟩|e
   ·rw[e]
    refine⟨by have:=GN c k;simp only;omega,λj p hp e2=>eQ ?_⟩;exact(C5 c to k j _ PT (bM e_) hPT hck (r6 j p hp) e2).1
   ·rw[e]
    exact⟨by simp only;omega,λj p hp e2=>by have:=GN to j;simp only at e2;omega⟩
   ·rw[e]at lZ
    cases lZ
end
structure acp(u v:a8)(ν:Nat->Nat->Nat->Int)(s t:j7):Prop where
 ok:ja u (s.steps+1) s
 rel:aad (FRg u v ν) (FTg u v ν) s t
theorem rf{u:a8}(hc:jE u){k:Nat}{X:aY}(hX:u.funcs[k]?=Z X):(aN X.blocks 0).aD=[]:=by
 have hb:=hc.body X (aq hX);have hs:=BA.same hc hX;refine List.eq_nil_iff_forall_not_mem.2 λp hp=>?_;have h1:=hb.aD 0 _ (bM (by have:=hs.many;omega)) p hp;unfold ng at h1;exact(vM.1 h1).1 rfl
theorem ab7{u v:a8}{ν:Nat->Nat->Nat->Int}(hu:jH u)(hc:jE u)(hn:SgU u v ν):Sim u v 1 1 (acp u v ν):=by
 intro s t ⟨cY,hrel⟩;obtain⟨X,R,hf⟩:=cY.bJ;obtain⟨B,hB⟩:=bf X.blocks s.bJ.block hf.block;have Lc:=aq hB;have gI:=hf.fit.eR B Lc;have rm:=hf.fit.ok.iM;have EH:=hf.fit.ok.block _ B hB;have rj:=hc.body X (aq hf.get);obtain⟨Y,hY,hs⟩:=hn.fn s.bJ.fn X hf.get;obtain⟨hm,hi,ho,lK,t_⟩:=hrel;obtain⟨Et,Jj,yk,zP,HL⟩:=t_;have wK:fH u s.bJ.fn=X.blocks:=by unfold fH;rw[hf.get]
 have uS:fH v s.bJ.fn=Y.blocks:=by unfold fH;rw[hY]
 have S0:fQ v s.bJ.fn=Y.aB.toNat:=by unfold fQ;rw[hY]
 have Nb:X.aB.toNat=R:=by rw[hf.fit.aB];omega
 obtain⟨ν0,hν⟩:∃ν0,ν0=ν s.bJ.fn:=⟨_,rfl⟩;rw[<-hν]at hs;have hsg:=hs;obtain⟨P,hP⟩:∃P,P=cw X:=⟨_,rfl⟩;obtain⟨n,oZ⟩:∃n,n=X.params.toNat:=⟨_,rfl⟩;have R9:P=dw X.blocks R:=by rw[hP];unfold cw;rw[Nb]
 have wN:∀b i (r:Int),Kt u ν s.bJ.fn b i r=nm ν0 P n b i r:=λb i r=>by rw[T5 hf.get,<-hν,<-hP,<-oZ]
 have C5:=hs.inj;have bS:=hs.lt;have gP:=hs.ge;have o_:=hs.par;have IU:=hs.blocks;rw[<-hP]at C5 bS IU;rw[<-oZ]at IU;have ii:∀i,db P i=db X.blocks i:=λi=>by rw[R9];exact lO _ _ i
 have hPl:P.length=X.blocks.length:=by rw[R9,e7]
 have EK:cT P:=tU hPl ii rm;have VD:0<P.length:=by rw[hPl];exact hf.fit.pos
 have GO:gH P (-1) 0 s.bJ.block:=(uB ii).2 (hs.reach _ hf.block);obtain⟨PB,R_⟩:∃PB,PB=({B with aD:=B.aD++dg X.blocks R s.bJ.block}:E):=⟨_,rfl⟩;have Za:P[s.bJ.block]?=Z PB:=by rw[R9,R_];exact gG hB
 have Le:aN P s.bJ.block=PB:=bQ Za;have WN:PB.list=B.list:=by rw[R_]
 have afr:PB.on=B.on:=by rw[R_]
 obtain⟨akh,Na⟩:∃akh,akh=fX ν0 P n s.bJ.block PB:=⟨_,rfl⟩;have hC:Y.blocks[s.bJ.block]?=Z akh:=by rw[IU,Na];exact gz Za
 have Ph:=sS hf hB;have Ai:qf v t.bJ=akh:=by
  unfold qf;rw[Et,hY];simp only[cB,Jj,hC,dW]
 have Np:=lK.len;have hCl:akh.list=B.list.mapIdx (iR ν0 P n s.bJ.block):=by rw[Na,<-WN];rfl
 have GN:∀b k,(n:Int)<=ν0 b k:=λb k=>by have:=gP b k;omega
 cases hx:B.list[s.bJ.at']? with
 |some x=>
  have r8:jr u s=kY u (ky (tick s)) x:=by rw[iS,Ph];simp only[hx]
  have qQ:=aq hx;obtain⟨y,uf⟩:∃y,y=iR ν0 P n s.bJ.block s.bJ.at' x:=⟨_,rfl⟩;have hCx:akh.list[t.bJ.at']?=Z y:=by rw[hCl,yk,cf,hx,uf];rfl
  have ny:jr v t=kY v (ky (tick t)) y:=by rw[iS,Ai];simp only[hCx]
  obtain⟨ua,ub,uc,ud⟩:=qW (rj.list _ B hB x qQ);have abJ:=EH.list x qQ;have oC:∀w:cg,w∈ff x∨w=iu->cK (ky (tick t)).bJ (k7 ν0 P n s.bJ.block s.bJ.at' w)=cK (ky (tick s)).bJ w:=λw hw=>by
   rcases hw with hw|rfl
   ·unfold k7
    by_cases hr:w.z=true
    ·rw[if_pos hr]
     have hwo:=abJ.uJ w (by rw[<-tH abJ];exact hw) hr;obtain⟨r,yj⟩:∃r:Nat,w.n=r:=⟨w.n.toNat,I⟩;have h1:=HL r (by rw[wK];exact .use hB hx (Ax hw hr yj));rw[wN]at h1;show cK t.bJ (nm ν0 P n s.bJ.block s.bJ.at' w.n)=cK s.bJ w;rw[yj,h1];unfold cK;rw[if_pos hr,yj,dO]
    ·rw[if_neg hr]
     unfold cK;rw[if_neg hr,if_neg hr]
   ·rfl
  have vw:0<=x.dst->y.dst=ν0 s.bJ.block (PB.aD.length+s.bJ.at'):=λh=>by
   rw[uf];show(if 0<=x.dst then ν0 s.bJ.block ((aN P s.bJ.block).aD.length+s.bJ.at')else x.dst)=_;rw[if_pos h,Le]
  have Zk:x.dst<0->y.dst<0:=λh=>by
   rw[uf];show(if 0<=x.dst then ν0 s.bJ.block ((aN P s.bJ.block).aD.length+s.bJ.at')else x.dst)<0;rw[if_neg I];exact h
  have r6:0<=x.dst->Site PB (PB.aD.length+s.bJ.at'):=λh=>.inr ⟨s.bJ.at',x,rfl,by rw[WN];exact hx,h⟩;have hPx:(aN P s.bJ.block).list[s.bJ.at']?=Z x:=by rw[Le,WN];exact hx
  have oe:∀r:Int,r≠x.dst->nm ν0 P n s.bJ.block (s.bJ.at'+1) r=nm ν0 P n s.bJ.block s.bJ.at' r:=λr hr=>by rw[B_ EK VD GO hPx,if_neg (Ne.symm hr)]
  have GJ:FRg u v ν x.dst y.dst (ky (tick s)).bJ (ky (tick t)).bJ:=by
   refine⟨Et,Jj,?_,zP,λh=>?_,λr hr hl=>?_,Zk,λh=>?_,λh r hr hrg=>?_⟩
   ·show t.bJ.at'+1=s.bJ.at'+1;rw[yk]
   ·show x.dst<(s.bJ.aB.length:Int);rw[hf.aB];exact abJ.dst h
   ·have HI:ik X.blocks r s.bJ.block ((s.bJ.at'+1:Nat):Int):=by rw[<-wK];exact hl
    show cK t.bJ (Kt u ν s.bJ.fn s.bJ.block (s.bJ.at'+1) r)=s.bJ.aB.getD r 0;rw[wN,oe _ hr,<-wN];exact HL r (by rw[wK];exact .go hB hx (λe=>hr e.symm) HI)
   ·have h1:=GN s.bJ.block (PB.aD.length+s.bJ.at')
    have h2:=bS s.bJ.block PB _ Za (r6 h);refine⟨by rw[vw h];omega,?_,?_⟩
    ·show y.dst<(t.bJ.aB.length:Int)
     rw[zP,S0,vw h];omega
    ·show Kt u ν s.bJ.fn s.bJ.block (s.bJ.at'+1) x.dst=_
     rw[wN,B_ EK VD GO hPx,if_pos rfl,Le,vw h]
   ·have Xl:(nm ν0 P n s.bJ.block s.bJ.at' (r:Int)).z=true:=by rw[<-oe _ hr,<-wN];exact hrg
    show 0<=(Kt u ν s.bJ.fn s.bJ.block (s.bJ.at'+1) r).n/\(Kt u ν s.bJ.fn s.bJ.block (s.bJ.at'+1) r).n≠y.dst;rw[wN,oe _ hr,vw h];have h1:=GN s.bJ.block (PB.aD.length+s.bJ.at');rcases AA (ν:=ν0) (n:=n) EK VD (show(0:Int)<=(r:Int) by omega) _ s.bJ.block s.bJ.at' (bG _) GO with⟨c,k,e,e_,hck,hw⟩|⟨e,yj⟩|e
    ·rw[e]
     refine⟨by have:=GN c k;simp only;omega,λe2=>?_⟩;obtain⟨h3,h4⟩:=C5 c s.bJ.block k _ _ PB (bM e_) Za hck (r6 h) e2;rcases hw with⟨_,h5⟩|⟨h5,_⟩
     ·rw[Le]at h5;omega
     ·exact h5 h3
    ·rw[e]
     exact⟨by simp only;omega,by simp only;omega⟩
    ·rw[e]at Xl
     cases Xl
  rcases GZ (u:=u) (v:=v) (s:=ky (tick s)) (t:=ky (tick t)) (x:=x) (y:=y) (by rw[uf];rfl) (by rw[uf];rfl) (by rw[uf];exact oC _ ua) (by rw[uf];exact oC _ ub) (λvu=>by
   rw[uf];show(x.args.map (k7 ν0 P n s.bJ.block s.bJ.at')).map _=_;rw[dE];refine dD λw hw=>oC w (.inl ?_);rw[uc vu]at hw;exact hw) hm hi ho Np ud (λh=>Zk (ud h))with⟨f,g,e1,e2,ha⟩|⟨vu,e1,e2⟩|⟨vu,mem,dr,out,akj,e1,e2⟩
  ·refine⟨λs' iK=>?_,λf' oJ=>?_⟩
   ·rw[r8,e1]at iK;cases iK
   ·rw[r8,e1]at oJ
    rw[<-Sum.inr.inj oJ];exact⟨0,t,g,I,I,rfl,by rw[ny,e2],ha⟩
  ·refine⟨λs' iK=>?_,λf' oJ=>?_⟩
   ·have h9:=(kQ hu cY iK).1
    rw[r8,e1]at iK;have iK:=Sum.inl.inj iK;obtain⟨k,aj9,hk,hZ,hlen⟩:=(gI.list.2 x qQ).call vu;obtain⟨W,hW,pU⟩:=hn.fn k aj9 hZ;obtain⟨RZ,Zr⟩:=hu.2 k aj9 hZ;have hxk:x.fn.toNat=k:=I;refine⟨1,_,I,I,.one (by rw[ny,e2]),h9,?_⟩;rw[<-iK,oQ,oQ,hxk];exact⟨hm,hi,ho,.add lK GJ,EX hZ Zr hW pU (rf hc hZ) _ _ (by rw[aF];exact hlen)⟩
   ·rw[r8,e1]at oJ;cases oJ
  ·refine⟨λs' iK=>?_,λf' oJ=>?_⟩
   ·have h9:=(kQ hu cY iK).1
    rw[r8,e1]at iK;have iK:=Sum.inl.inj iK;refine⟨1,_,I,I,.one (by rw[ny,e2]),h9,?_⟩;rw[<-iK];exact⟨rfl,rfl,rfl,lK,GJ.back akj⟩
   ·rw[r8,e1]at oJ;cases oJ
 |none=>
  have r8:jr u s=mj u (tick s) B:=by rw[iS,Ph];simp only[hx]
  have hCn:akh.list[t.bJ.at']?=A:=by rw[hCl,yk,cf,hx];rfl
  have ny:jr v t=mj v (tick t) akh:=by rw[iS,Ai];simp only[hCn]
  have afI:s.bJ.at'=B.list.length:=by
   have h1:=hf.at' B hB;have h2:=kD.1 hx;omega
  rw[afI]at HL;have S5:∀r:Nat,ik X.blocks r s.bJ.block B.list.length->cK t.bJ (nm ν0 P n s.bJ.block B.list.length r)=s.bJ.aB.getD r 0:=λr hl=>by
   rw[<-wN];exact HL r (by rw[wK];exact hl)
  have qh:cK t.bJ akh.on=cK s.bJ B.on:=by
   have e:akh.on=k7 ν0 P n s.bJ.block B.list.length B.on:=by rw[Na,<-WN,<-afr];rfl
   rw[e];unfold k7
   by_cases hr:B.on.z=true
   ·rw[if_pos hr]
    have hwo:=EH.on hr;obtain⟨r,yj⟩:∃r:Nat,B.on.n=r:=⟨B.on.n.toNat,I⟩;have h1:=S5 r (.on hB (Ax aC hr yj));rw[yj,h1];unfold cK;rw[if_pos hr,yj,dO]
   ·rw[if_neg hr]
    unfold cK;rw[if_neg hr,if_neg hr]
  have hk:akh.kind=B.kind:=by rw[Na,R_];rfl
  have afo:akh.to=B.to:=by rw[Na,R_];rfl
  by_cases Ln:B.kind=2∨B.kind=3
  ·obtain⟨i,iJ,e1,e2⟩:=Dt (u:=u) (v:=v) (s:=tick s) (t:=tick t) (akh:=akh) Ln hk gI.kind.2 qh
   have Tb:=AR (B:=B) iJ;obtain⟨to,T,e,hg⟩:=K8 hf hB Tb;rw[afo]at e2;rw[e]at e1 e2 Tb;refine⟨λs' iK=>?_,λf' oJ=>?_⟩
   ·have h9:=(kQ hu cY iK).1
    rw[r8,e1]at iK;have iK:=Sum.inl.inj iK;refine⟨1,_,I,I,.one (by rw[ny,e2]),h9,?_⟩;rw[<-iK,pe,pe];refine⟨hm,hi,ho,lK,?_⟩;have hpu:aZ (fH v s.bJ.fn) to=aZ X.blocks to:=by
     rw[uS,IU];have h1:∀i,db (ms ν0 P n) i=db P i:=λi=>by
      unfold db;cases hz:P[i]? with
      |none=>rw[bO (by rw[fq];exact kD.1 hz)]
      |some akf=>rw[gz hz];rfl
     rw[pY (fq _ _ _) h1,pY hPl ii]
    have Dd:fD (fH u s.bJ.fn) to=T.aD:=by rw[wK];unfold fD;rw[hg.get]
    refine⟨Et,rfl,rfl,?_,λr hl=>?_⟩
    ·show(jp t.bJ _ _).length=fQ v s.bJ.fn
     rw[tp,MA];exact zP
    ·have HI:ik X.blocks r to ((0:Nat):Int):=by rw[<-wK];exact hl
     show cK _ (Kt u ν s.bJ.fn ((to:Nat):Int).toNat 0 r)=(jp s.bJ ((aZ (fH u s.bJ.fn) ((to:Nat):Int).toNat).idxOf s.bJ.block) (fD (fH u s.bJ.fn) ((to:Nat):Int).toNat)).getD r 0;rw[dO,wN,Dd,wK,hP,oZ];rw[hP,oZ]at S5;refine Yu (g:=t.bJ) hf.fit hsg hB hg.get Tb hf.aB (by rw[zP,S0]) S5 r HI _ ?_;show jp t.bJ ((aZ (fH v t.bJ.fn) ((to:Nat):Int).toNat).idxOf t.bJ.block) (fD (fH v t.bJ.fn) ((to:Nat):Int).toNat)=_;rw[Et,dO,hpu,uS,Jj]
   ·rw[r8,e1]at oJ;cases oJ
  ·rcases Hs (u:=u) (v:=v) (FR:=FRg u v ν) (s:=tick s) (t:=tick t) (akh:=akh) (λh=>Ln (.inl h)) (λh=>Ln (.inr h)) hk qh ho lK with⟨f,g,e1,e2,ha⟩|⟨l,f,m,g,d1,d2,e1,e2,d3,d4⟩
   ·refine⟨λs' iK=>?_,λf' oJ=>?_⟩
    ·rw[r8,e1]at iK;cases iK
    ·rw[r8,e1]at oJ
     rw[<-Sum.inr.inj oJ];exact⟨0,t,g,I,I,rfl,by rw[ny,e2],ha⟩
   ·refine⟨λs' iK=>?_,λf' oJ=>?_⟩
    ·have h9:=(kQ hu cY iK).1
     rw[r8,e1]at iK;have iK:=Sum.inl.inj iK;refine⟨1,_,I,I,.one (by rw[ny,e2]),h9,?_⟩;rw[<-iK];exact⟨hm,hi,ho,d3,d4.back _⟩
    ·rw[r8,e1]at oJ;cases oJ
noncomputable def qw(P:List E)(n:Nat):Nat:=n+((sH P).map λb=>sx (aN P b)).sum
noncomputable def eJ(X:aY):aY:={X with aB:=(qw (cw X) X.params.toNat:Nat),blocks:=ms (mT (cw X) X.params.toNat) (cw X) X.params.toNat}
noncomputable def wS(u:a8):a8:={u with funcs:=u.funcs.map eJ}
noncomputable def j0(X:aY):aY:=en (eJ (cn X))
noncomputable def oE(u:a8):a8:={u with funcs:=u.funcs.map j0}
theorem Ya(u:a8):oE u=Dy (wS (oL u)):=by
 unfold oE Dy wS oL;simp only[dE]
 rfl
theorem DY(u:a8)(k:Nat):(wS u).funcs[k]?=(u.funcs[k]?).map eJ:=by unfold wS;simp only[aJ]
theorem Kd(s:Nat->Nat){b:Nat}:∀{o:List Nat},b∈o->oK o s b+s b<=(o.map s).sum
 |[],h=>by cases h
 |x::o,h=>by
  unfold oK
  by_cases e:x=b
  ·subst e
   rw[List.takeWhile_cons_of_neg aC,bT,eT];simp
  ·have h2:b∈o:=by rcases bD.1 h with h|h;exact absurd h.symm e;exact h
   have ih:=Kd s h2;unfold oK at ih;rw[q7 (by simp;exact e),bT,eT,bT,eT];omega
structure mg(X:aY)(R:Nat):Prop where
 all:jF X R
 reach:∀b,b<X.blocks.length->gH X.blocks (-1) 0 b
 pos:qY X.blocks
theorem ux{X:aY}{R:Nat}(h:jF X R):cw X=dw X.blocks R:=by unfold cw;rw[h.aB];rfl
theorem fW{X:aY}{R:Nat}(h:jF X R):cT (cw X)/\0<(cw X).length/\(∀i,db (cw X) i=db X.blocks i)/\(cw X).length=X.blocks.length:=by
 rw[ux h];exact⟨tU (e7 _ _) (lO _ _) h.ok.iM,by rw[e7];exact h.pos,lO _ _,e7 _ _⟩
theorem k8{X:aY}{R:Nat}(h:mg X R):∀b,b<(cw X).length->gH (cw X) (-1) 0 b:=λb hb=>by
 obtain⟨_,_,h3,h4⟩:=fW h.all;exact(uB h3).2 (h.reach b I)
theorem qk{X:aY}{R:Nat}(h:mg X R):Ek X (eJ X) (mT (cw X) X.params.toNat):=by
 obtain⟨h1,h2,h3,h4⟩:=fW h.all;have hN:=abS h1 h2 (k8 h);have hp:=h.all.par;refine⟨rfl,λb c k k' B akh hB hC hk Bj e=>XZ hN hB hC hk Bj e,λb k=>?_,λb B k hB hk=>?_,?_,h.reach,h.pos⟩
 ·have:=abT (sH (cw X)) (λb=>sx (aN (cw X) b)) (λb k=>N8 (aN (cw X) b) k) X.params.toNat b k
  unfold mT;omega
 ·have h5:=hN.lt b B k hB hk
  have h6:=Kd (λb=>sx (aN (cw X) b)) (hN.all b (az.1 hB).1);show mT (cw X) X.params.toNat b k<((qw (cw X) X.params.toNat:Nat):Int);unfold mT num qw;simp only at h5 h6⊢;omega
 ·show 0<=X.params/\X.params<=((qw (cw X) X.params.toNat:Nat):Int)
  unfold qw;omega
noncomputable def nuU(u:a8)(k:Nat):Nat->Nat->Int:=match u.funcs[k]? with|some X=>mT (cw X) X.params.toNat|none=>λ_ _=>0
theorem TP(u:a8):dh (wS u).funcs=dh u.funcs:=by
 rw[pg,pg];unfold wS;simp only[dE]
 rfl
theorem Vg{u:a8}(h:∀(k:Nat) X,u.funcs[k]?=Z X->∃R,mg X R):SgU u (wS u) (nuU u):=⟨rfl,TP u,λk X hX=>by
 obtain⟨R,hP⟩:=h k X hX;refine⟨eJ X,by rw[DY,hX];rfl,?_⟩;unfold nuU;rw[hX];exact qk hP⟩
theorem Yv{u v:a8}{ν:Nat->Nat->Nat->Int}(hu:Whole u)(hn:SgU u v ν)(dr:List Int)(oA:∀x∈dr,dk x)(f:Nat):Alike (cJ u dr f) (cJ v dr f)/\(cJ v dr f).steps=(cJ u dr f).steps:=by
 have e1:∀v:a8,jA v dr=⟨uj v.globals,dr,[],0,[],⟨(dh v.funcs).toNat,0,0,List.replicate (fQ v (dh v.funcs).toNat) 0,-1⟩,bump (v.funcs.map λX=>List.replicate X.blocks.length 0) (dh v.funcs).toNat 0⟩:=λ_=>rfl;obtain⟨fm,akd,Sw,hM⟩:=hu.start.main;obtain⟨W,hW,hs⟩:=hn.fn fm akd hM;obtain⟨RM,hRM⟩:=hu.fit.2 fm akd hM;have o_:akd.params=0:=by
  have h1:=hu.ok.none;rw[Sw,dO]at h1;unfold j4 at h1;rw[hM]at h1;have:=hRM.params;simp only at h1;omega
 have Pn:∀m,eN m []=List.replicate m (0:Int):=λm=>by unfold eN;rw[aO,List.take_replicate,Nat.min_self]
 have hrel:acp u v ν (jA u dr) (jA v dr):=⟨vR hu.fit hu.start oA,by
  rw[e1,e1,hn.main,hn.vt,Sw,dO];have h2:=EX hM hRM hW hs (rf hu.ok hM) (-1) (-1) (args:=[]) (by rw[o_];rfl);rw[Pn,Pn]at h2;exact⟨rfl,rfl,rfl,.nil _ _,h2⟩⟩
 obtain⟨h1,h2⟩:=DV (ab7 hu.fit hu.ok hn) (λs t h=>h.rel.out) f _ _ hrel;refine⟨h1,?_⟩;have e2:(jA u dr).steps=0:=rfl;have e3:(jA v dr).steps=0:=rfl;unfold cJ;omega
theorem mK{u:a8}(hu:Whole u):∀(k:Nat) X,(oL u).funcs[k]?=Z X->∃R,mg X R:=λk Y hY=>by
 have LH:=(kB hu).1;have hY2:=hY;rw[l5]at hY;obtain⟨X,hX,rfl⟩:=cA.1 hY;obtain⟨_,_,hT⟩:=zG hu.ok hX;obtain⟨R,hA⟩:=vl LH.ok hY2;have ho:=x_ hT;refine⟨R,hA,λb hb=>?_,(BU LH.ok hY2).2⟩;have h1:b∈bI (cn X).blocks:=by rw[ho];exact cM.2 hb
 unfold bI at h1;exact(tu hA.ok.iM hA.pos).1 (List.mem_reverse.1 h1)
structure ae5(fs:List aY)(R:Int)(x:dJ):Prop where
 op:1<=x.op/\x.op<=22
 s1:(shape x.op).1=false->x.dst=-1
 s2:(shape x.op).2.1=false->jo x.a=true
 s3:(shape x.op).2.2=false->jo x.b=true
 s4:x.op≠20->x.fn=0/\x.args.length=0
 dst:(shape x.op).1=true->(x.op=20/\x.dst=-1)∨(0<=x.dst/\x.dst<R)
 a:dV R x.a=0
 b:dV R x.b=0
 call:gK fs R x=0
theorem CI{R n:Int}:km R n=0↔0<=n/\n<R:=by
 unfold km within;constructor
 ·intro h
  split at h
  ·cases h
  ·rename_i h1
   simp at h1;omega
 ·intro h
  rw[if_neg];simp;omega
theorem Jp{fs:List aY}{R:Int}{x:dJ}:eu fs R x=0↔ae5 fs R x:=by
 constructor
 ·intro h
  unfold eu at h
  split at h
  ·cases h
  rename_i h1
  split at h
  ·cases h
  rename_i h2
  split at h
  ·rename_i h3
   rw[h]at h3;simp at h3
  rename_i h3
  split at h
  ·rename_i h4;exact absurd h h4
  rename_i h4
  split at h
  ·rename_i h5;exact absurd h h5
  rename_i h5;have h1:1<=x.op/\x.op<=22:=by simp[within]at h1;omega
  simp only[Bool.not_eq_true]at h2;unfold rJ at h2;simp only[Bool.or_eq_false_iff,Bool.and_eq_false_iff,Bool.not_eq_false',decide_eq_false_iff_not,decide_eq_true_eq]at h2;obtain⟨⟨⟨a1,a2⟩,a3⟩,a4⟩:=h2;refine⟨h1,λe=>?_,λe=>?_,λe=>?_,λe=>?_,λe=>?_,Decidable.not_not.1 h4,Decidable.not_not.1 h5,h⟩
  ·rcases a1 with a1|a1
   ·rw[e]at a1;cases a1
   ·exact a1
  ·rcases a2 with a2|a2
   ·rw[e]at a2;cases a2
   ·exact a2
  ·rcases a3 with a3|a3
   ·rw[e]at a3;cases a3
   ·exact a3
  ·rcases a4 with a4|a4
   ·exact absurd a4 e
   ·exact⟨a4.1,I⟩
  ·by_cases e2:x.op=20/\x.dst=-1
   ·exact .inl e2
   ·refine .inr (CI.1 ?_)
    refine Classical.byContradiction λhd=>h3 ?_;rw[e];simp only[Bool.true_and,Bool.and_eq_true,Bool.not_eq_true',Bool.and_eq_false_iff,decide_eq_false_iff_not];refine⟨?_,hd⟩
    by_cases e3:x.op=20
    ·exact .inr λe4=>e2 ⟨e3,e4⟩
    ·exact .inl e3
 ·intro h
  unfold eu;rw[if_neg,if_neg,if_neg,if_neg,if_neg]
  ·exact h.call
  ·exact not_not_intro h.b
  ·exact not_not_intro h.a
  ·intro hc
   simp only[Bool.and_eq_true,Bool.not_eq_true',Bool.and_eq_false_iff,decide_eq_false_iff_not]at hc;rcases h.dst hc.1.1 with⟨h1,h2⟩|h1
   ·rcases hc.1.2 with h3|h3
    ·exact h3 h1
    ·exact h3 h2
   ·exact hc.2 (CI.2 h1)
  ·simp only[Bool.not_eq_true]
   unfold rJ;simp only[Bool.or_eq_false_iff,Bool.and_eq_false_iff,Bool.not_eq_false',decide_eq_false_iff_not,decide_eq_true_eq];refine⟨⟨⟨?_,?_⟩,?_⟩,?_⟩
   ·cases e:(shape x.op).1 with
    |true=>exact .inl rfl
    |false=>exact .inr (h.s1 e)
   ·cases e:(shape x.op).2.1 with
    |true=>exact .inl rfl
    |false=>exact .inr (h.s2 e)
   ·cases e:(shape x.op).2.2 with
    |true=>exact .inl rfl
    |false=>exact .inr (h.s3 e)
   ·by_cases e:x.op=20
    ·exact .inl e
    ·have:=h.s4 e
     exact .inr ⟨this.1,I⟩
  ·have:=h.op
   simp[within];omega
theorem RA{fs:List aY}{R R':Int}{x y:dJ}(Fp:y.op=x.op)(qq:y.fn=x.fn)(hl:y.args.length=x.args.length)(hv:∀v∈y.args,dV R' v=0)(h:gK fs R x=0):gK fs R' y=0:=by
 unfold gK at h⊢;rw[Fp,qq,hl]
 split at h
 ·rename_i h1;rw[if_pos h1]
 rename_i h1;rw[if_neg h1]
 split at h
 ·cases h
 rename_i h2;rw[if_neg h2]
 split at h
 ·cases h
 rename_i h3;rw[if_neg h3,ig];intro j hj;unfold j4;rw[a_ I];exact hv _ (j9 _)
theorem XD{fs:List aY}{R R':Int}{x y:dJ}(h:eu fs R x=0)(Fp:y.op=x.op)(qq:y.fn=x.fn)(ha:dV R' y.a=0/\(jo x.a=true->jo y.a=true))(hb:dV R' y.b=0/\(jo x.b=true->jo y.b=true))(hl:y.args.length=x.args.length)(hv:∀v∈y.args,dV R' v=0)
  (hd:0<=x.dst->0<=y.dst/\y.dst<R') (Ko:x.dst<0->y.dst=x.dst):eu fs R' y=0:=by
 have hz:=Jp.1 h;refine Jp.2 ⟨by rw[Fp];exact hz.op,λe=>?_,λe=>ha.2 (hz.s2 (by rw[<-Fp];exact e)),λe=>hb.2 (hz.s3 (by rw[<-Fp];exact e)),λe=>?_,λe=>?_,ha.1,hb.1,RA Fp qq hl hv hz.call⟩
 ·have:=hz.s1 (by rw[<-Fp];exact e)
  rw[Ko I,this]
 ·rw[qq,hl]
  exact hz.s4 (by rw[<-Fp];exact e)
 ·rcases hz.dst (by rw[<-Fp];exact e)with⟨h1,h2⟩|⟨h1,h2⟩
  ·exact .inl ⟨by rw[Fp];exact h1,by rw[Ko I,h2]⟩
  ·exact .inr (hd h1)
theorem Ua{v:cg}(h:jo v=true):v=iu:=by
 obtain⟨vr,vn⟩:=v;simp only[jo,Bool.and_eq_true,beq_iff_eq,decide_eq_true_eq]at h;obtain⟨rfl,rfl⟩:=h
 rfl
section
variable {X:aY} {R:Nat}
theorem AK(h:mg X R):∀r,DNu (mT (cw X) X.params.toNat) (cw X) X.params.toNat r->0<=r/\r<(eJ X).aB:=λr hr=>by
 have hs:=qk h;have hp:=hs.par;rcases hr with⟨h1,h2⟩|⟨b,B,k,hB,hk,rfl⟩
 ·omega
 ·have h1:=hs.ge b k
  have h2:=hs.lt b B k hB hk;omega
theorem Eb(h:mg X R){v:cg}(hv:qZ (DNu (mT (cw X) X.params.toNat) (cw X) X.params.toNat) v):dV (eJ X).aB v=0:=val_zero.2 λhr=>by
 have:=AK h _ (hv hr);omega
theorem Hb{ν:Nat->Nat->Int}{bl:List E}{n b i:Nat}{v:cg}(h:jo v=true):jo (k7 ν bl n b i v)=true:=by
 rw[Ua h]
 rfl
end
theorem AL(ν:Nat->Nat->Int)(P:List E)(n:Nat)(i:Nat):db (ms ν P n) i=db P i:=by
 unfold db;cases hz:P[i]? with
 |none=>rw[bO (by rw[fq];exact kD.1 hz)]
 |some akf=>rw[gz hz];rfl
theorem vU{X:aY}{R:Nat}(h:mg X R){fs:List aY}(hb:sm fs X):∀B∈cw X,mh (Rn R) B:=by
 rw[ux h.all];exact Qg (Rx h.all.aB h.all.ok hb) (bG _)
theorem DZ{fs:List aY}{X:aY}{R:Nat}(h:mg X R)(hb:sm fs X)(h0:(aN X.blocks 0).aD=[]):sm fs (eJ X):=by
 have lZ:=vU h hb;have Fu:∀B∈cw X,mh (λr=>0<=r) B:=λB hB=>(lZ B hB).mono λr hr=>hr.1;have hsr:=DX (ν:=mT (cw X) X.params.toNat) (n:=X.params.toNat) Fu;obtain⟨hg,c_,ii,hlen⟩:=fW h.all;have hlS:(eJ X).blocks.length=X.blocks.length:=by show(ms _ _ _).length=_;rw[fq,hlen]
 have jS:∀{b akh},(eJ X).blocks[b]?=Z akh->∃B,X.blocks[b]?=Z B/\(cw X)[b]?=Z {B with aD:=B.aD++dg X.blocks R b}/\akh=fX (mT (cw X) X.params.toNat) (cw X) X.params.toNat b {B with aD:=B.aD++dg X.blocks R b}:=λ{b akh} hC=>by
  have gF:b<X.blocks.length:=by rw[<-hlS];exact(az.1 hC).1
  obtain⟨B,hB⟩:=bf X.blocks b gF;have hP:(cw X)[b]?=Z {B with aD:=B.aD++dg X.blocks R b}:=by rw[ux h.all];exact gG hB
  have WI:(ms (mT (cw X) X.params.toNat) (cw X) X.params.toNat)[b]?=Z akh:=hC;rw[gz hP]at WI;exact⟨B,hB,hP,(a7 WI).symm⟩
 refine⟨λakh hC=>?_,λb akh hC q hq=>?_,λb akh hC y hy=>?_⟩
 ·obtain⟨b,xd⟩:=bg hC
  have hR:=hsr akh hC;obtain⟨B,hB,_,hCe⟩:=jS xd;have hE:=mB.1 (hb.ends B (aq hB));have Ja:jo B.on=true->jo akh.on=true:=λhn=>by rw[hCe];exact Hb hn
  have hk:akh.kind=B.kind:=by rw[hCe];rfl
  have ht:akh.to=B.to:=by rw[hCe];rfl
  rw[hlS];refine mB.2 ⟨by rw[hk];exact hE.kind,by rw[hk,ht];exact hE.len,by rw[ht];exact hE.to,by rw[hk,ht];exact hE.two,λh2=>Ja (hE.one (by rw[<-hk];exact h2)),Eb h hR.on⟩
 ·have hR:=hsr akh (aq hC)
  obtain⟨B,hB,hP,hCe⟩:=jS hC;have Ao:=hR.aD q hq;have hfP:fu R (cw X):=by rw[ux h.all];exact qJ h.all.ok (bG _)
  have hq3:=hq;rw[hCe]at hq3;obtain⟨i,hi⟩:=bg hq3;have W8:((B.aD++dg X.blocks R b).mapIdx (qL (mT (cw X) X.params.toNat) (cw X) X.params.toNat b))[i]?=Z q:=hi;rw[cf]at W8;obtain⟨p,hp,VS⟩:=cA.1 W8;have De:=(hfP.block b _ hP).aD p (aq hp);have Er:q.src.length=(aZ (cw X) b).length:=by rw[<-VS,<-De.len];simp[qL]
  have uZ:b≠0:=λe=>by
   subst e;have h1:B.aD=[]:=by rw[bQ hB]at h0;exact h0
   rw[h1,um λr _ hn=>FJ h.pos hn.1]at hp;simp at hp
  have hd:=AK h _ Ao.1;have uV:aZ (eJ X).blocks b=aZ (cw X) b:=pY (fq _ _ _) (AL _ _ _) b;have hgS:cT (eJ X).blocks:=tU (fq _ _ _) (AL _ _ _) hg;have oZ:∀(b:Nat) akh,(eJ X).blocks[b]?=Z akh->akh.to.Nodup:=λb akh hC=>by
   obtain⟨B',sZ,_,afn⟩:=jS hC;rw[afn];exact(h.all.ok.block b B' sZ).to
  unfold ng zk;rw[if_neg I,if_neg (by rw[CI.2 hd];simp),if_neg]
  ·rw[ig]
   intro j hj;unfold j4;rw[a_ hj];exact Eb h (Ao.2 _ (j9 hj))
  ·rw[gu hgS oZ (by rw[hlS];exact(az.1 hB).1),dW,aF,uV,Er]
   simp
 ·have hR:=(hsr akh (aq hC)).list y hy
  obtain⟨B,hB,hP,hCe⟩:=jS hC;rw[hCe]at hy;obtain⟨k,hk⟩:=bg hy;have C6:(B.list.mapIdx (iR (mT (cw X) X.params.toNat) (cw X) X.params.toNat b))[k]?=Z y:=hk;rw[cf]at C6;obtain⟨x,hx,rfl⟩:=cA.1 C6;refine XD (hb.list b B hB x (aq hx)) rfl rfl ⟨Eb h hR.a,Hb⟩ ⟨Eb h hR.b,Hb⟩ (by simp[iR]) (λv hv=>Eb h (hR.args v hv)) (λh1=>?_) λh1=>?_
  ·refine AK h _ (hR.dst ?_)
   show 0<=(if 0<=x.dst then _ else x.dst);rw[if_pos h1];have:=(qk h).ge b ((aN (cw X) b).aD.length+k);have:=(qk h).par;omega
  ·show(if 0<=x.dst then _ else x.dst)=x.dst
   rw[if_neg I]
theorem DC:∀{l m:List Int},l.Nodup->(∀x∈l,x∈m)->l.length<=m.length
 |[],m,_,_=>aT _
 |x::l,m,hn,hs=>by
  obtain⟨h1,h2⟩:=mO.1 hn;have hx:=hs x aC;have ih:=DC (l:=l) (m:=m.erase x) h2 λy hy=>by
   have eQ:y≠x:=λe=>h1 (e▸hy);exact(List.mem_erase_of_ne eQ).2 (hs y (cO _ hy))
  rw[List.length_erase_of_mem hx]at ih;have:=List.length_pos_of_mem hx;rw[gk];omega
theorem Oi(s:Nat->Nat):∀{o:List Nat},o.Nodup->∀m,m<(o.map s).sum->∃b∈o,oK o s b<=m/\m<oK o s b+s b
 |[],_,m,h=>by simp at h
 |x::o,hn,m,h=>by
  obtain⟨h1,h2⟩:=mO.1 hn
  by_cases hm:m<s x
  ·refine⟨x,by simp,?_⟩
   unfold oK;rw[List.takeWhile_cons_of_neg aC];simp;exact hm
  ·rw[bT,eT]at h
   obtain⟨b,hb,h3,h4⟩:=Oi s h2 (m-s x) I;have eQ:x≠b:=λe=>h1 (e▸hb);have e:oK (x::o) s b=s x+oK o s b:=by
    unfold oK;rw[q7 (by simp;exact eQ),bT,eT]
   exact⟨b,cO _ hb,by rw[e];omega,by rw[e];omega⟩
theorem CK:∀(l:List dJ) (j:Nat),j<(l.filter ET).length->∃i x,l[i]?=Z x/\0<=x.dst/\((l.take i).filter ET).length=j
 |[],j,h=>by simp at h
 |x::l,j,h=>by
  by_cases hx:0<=x.dst
  ·have hw:ET x=true:=by simp[ET,hx]
   cases j with
   |zero=>exact⟨0,x,rfl,hx,rfl⟩
   |succ j=>
    rw[List.filter_cons_of_pos hw,gk]at h;obtain⟨i,y,h1,h2,h3⟩:=CK l j I;refine⟨i+1,y,ax h1,h2,?_⟩;rw[List.take_succ_cons,List.filter_cons_of_pos hw,gk,h3]
  ·have hw:¬ET x=true:=by simp[ET,hx]
   rw[List.filter_cons_of_neg hw]at h;obtain⟨i,y,h1,h2,h3⟩:=CK l j h;refine⟨i+1,y,ax h1,h2,?_⟩;rw[List.take_succ_cons,List.filter_cons_of_neg hw,h3]
theorem ab2{B:E}{j:Nat}(h:j<sx B):∃k,Site B k/\N8 B k=j:=by
 unfold sx at h
 by_cases h1:j<B.aD.length
 ·exact⟨j,.inl h1,by unfold N8;rw[if_pos h1]⟩
 ·obtain⟨i,x,h2,h3,h4⟩:=CK B.list (j-B.aD.length) I
  refine⟨B.aD.length+i,.inr ⟨i,x,rfl,h2,h3⟩,?_⟩;unfold N8;rw[if_neg I,lE,h4];omega
theorem XY{P:List E}{n m:Nat}(hr:gH P (-1) 0 0)(cY:cT P)(h0:0<P.length)(hn:n<=m)(hm:m<qw P n):∃b B k,P[b]?=Z B/\Site B k/\mT P n b k=(m:Int):=by
 unfold qw at hm;obtain⟨b,hb,h1,h2⟩:=Oi (o:=kA P P.length 0) (λb=>sx (aN P b)) (wB hr) (m-n) (by unfold sH at hm;omega);have gF:b<P.length:=cY.zQ h0 (wA hr hb).2.1;obtain⟨B,hB⟩:=bf P b gF;rw[show sx (aN P b)=sx B by rw[bQ hB]]at h2;obtain⟨k,hk,e⟩:=ab2 (B:=B) (j:=m-n-oK (kA P P.length 0) (λb=>sx (aN P b)) b) I;refine⟨b,B,k,hB,hk,?_⟩;unfold mT num sH;simp only;rw[bQ hB,e];omega
section
variable {X:aY} {R:Nat}
theorem L6(h:mg X R)(ho:bI X.blocks=List.range X.blocks.length):(eJ X).aB<=(en (eJ X)).aB:=by
 obtain⟨hg,c_,ii,hlen⟩:=fW h.all;have hK:c9 (eJ X)=cV (eJ X).blocks (List.range (eJ X).blocks.length):=by
  unfold c9;have h1:(eJ X).blocks.length=X.blocks.length:=by show(ms _ _ _).length=_;rw[fq,hlen]
  rw[h1,<-ho];congr 1;exact sj h1 λi=>(AL _ _ _ i).trans (ii i)
 show((qw (cw X) X.params.toNat:Nat):Int)<=((gi X.params.toNat (c9 (eJ X))).length:Int);have BG:(eO (qw (cw X) X.params.toNat)).length<=(gi X.params.toNat (c9 (eJ X))).length:=DC (uw _) λr hr=>by
  obtain⟨h0,h1⟩:=jm.1 hr
  by_cases hn:r<(X.params.toNat:Nat)
  ·exact vG.2 (.inl (jm.2 ⟨h0,hn⟩))
  ·obtain⟨m,rfl⟩:∃m:Nat,r=m:=⟨r.toNat,I⟩
   obtain⟨b,B,k,hB,hk,e⟩:=XY (n:=X.params.toNat) (m:=m) .refl hg c_ I I;have hC:(eJ X).blocks[b]?=Z (fX (mT (cw X) X.params.toNat) (cw X) X.params.toNat b B):=gz hB;have gF:=(az.1 hC).1;have hKb:(c9 (eJ X))[b]?=Z (je (eJ X).blocks (List.range (eJ X).blocks.length) b (aN (eJ X).blocks b)):=by
    rw[hK];exact kr (eX gF)
   refine vG.2 (.inr (.inl ⟨_,aq hKb,?_⟩));rw[bQ hC,<-e];unfold nj je;simp only[bA,aV];rcases hk with hk|⟨i,x,rfl,hx,Eu⟩
   ·left
    have hp:B.aD[k]?=Z (B.aD[k]'hk):=a_ hk;refine⟨fj _ _ _ (qL (mT (cw X) X.params.toNat) (cw X) X.params.toNat b k (B.aD[k]'hk)),⟨_,?_,rfl⟩,rfl⟩;refine aq (i:=k) ?_;show(B.aD.mapIdx _)[k]?=_;rw[cf,hp]
    rfl
   ·right
    left
    refine df.2 ⟨iR (mT (cw X) X.params.toNat) (cw X) X.params.toNat b i x,?_,?_⟩
    ·refine aq (i:=i) ?_
     show(B.list.mapIdx _)[i]?=_;rw[cf,hx]
     rfl
    ·have hd:(iR (mT (cw X) X.params.toNat) (cw X) X.params.toNat b i x).dst=mT (cw X) X.params.toNat b (B.aD.length+i):=by
      show(if 0<=x.dst then _ else x.dst)=_;rw[if_pos Eu,bQ hB]
     rw[<-hd];refine tB ?_;rw[hd];have:=(qk h).ge b (B.aD.length+i);have:=(qk h).par;omega
 rw[mH]at BG;omega
end
theorem Me{ν:Nat->Nat->Int}{bl:List E}{n:Nat}{r:Int}:∀(g b i:Nat),(NN ν bl n g b i r).z=false->NN ν bl n g b i r=iu
 |0,b,i,_=>rfl
 |g+1,b,i,h=>by
  unfold NN at h⊢;cases hd:kj (aN bl b) r i with
  |some k=>rw[hd]at h;cases h
  |none=>
   rw[hd]at h;simp only at h⊢
   split
   ·rename_i h1
    rw[if_pos h1]at h
    split
    ·rename_i h2;rw[if_pos h2]at h;cases h
    ·rfl
   ·rename_i h1
    rw[if_neg h1]at h;exact Me g _ _ h
theorem DB{X:aY}{R:Nat}(h:mg X R)(hm:(eJ X).aB<=1000){b i:Nat}{v:cg}(hv:qZ (λr=>0<=r) v)(hn:dk v.n):dk (k7 (mT (cw X) X.params.toNat) (cw X) X.params.toNat b i v).n:=by
 have h1:=uq (ν:=mT (cw X) X.params.toNat) (bl:=cw X) (n:=X.params.toNat) (b:=b) (i:=i) hv
 by_cases hr:(k7 (mT (cw X) X.params.toNat) (cw X) X.params.toNat b i v).z=true
 ·have:=AK h _ (h1 hr)
  exact⟨I,I⟩
 ·have VT:(k7 (mT (cw X) X.params.toNat) (cw X) X.params.toNat b i v).z=false:=ax hr
  unfold k7 at VT⊢
  split
  ·rename_i h3
   rw[if_pos h3]at VT;rw[show nm (mT (cw X) X.params.toNat) (cw X) X.params.toNat b i v.n=iu from Me _ _ _ VT];exact⟨by simp[iu],by simp[iu]⟩
  ·exact hn
theorem MF{u:a8}(hu:Whole u)(hp:∀(k:Nat) X,u.funcs[k]?=Z X->∃R,mg X R)(hL:∀X∈u.funcs,gp (eJ X)=false):Whole (wS u):=by
 have Ps:∀X∈u.funcs,(eJ X).blocks.length<=40/\eB (eJ X).blocks<=300/\(eJ X).aB<=100:=λX hX=>by
  have h:=hL X hX;unfold gp sG at h;simp only[Bool.or_eq_false_iff,decide_eq_false_iff_not]at h;omega
 refine⟨zY hu.ok rfl (by unfold wS;rw[aF]) λi X Y hX hY=>?_,λY hY akh hC=>?_,hu.M9⟩
 ·rw[DY,hX]at hY
  obtain rfl:=a7 hY;obtain⟨R,hP⟩:=hp i X hX;have hl:=Ps X (aq hX);have hs:=qk hP;have SN:=qR (eJ X).blocks;have hb:=hu.ok.body X (aq hX);obtain⟨_,h2,_,h4⟩:=fW hP.all;refine⟨rfl,rfl,⟨hs.par.2,hl.2.2⟩,⟨?_,hl.1⟩,I,DZ hP hb (rf hu.ok hX)⟩;show 1<=(ms _ _ _).length;rw[fq];omega
 ·unfold wS at hY
  obtain⟨X,hX,rfl⟩:=aV.1 hY;obtain⟨k,hk⟩:=bg hX;obtain⟨R,hP⟩:=hp k X hk;have hl:=(Ps X hX).2.2;have hn:=hu.tl X hX;have Fu:∀B∈cw X,mh (λr=>0<=r) B:=λB hB=>(vU hP (hu.ok.body X hX) B hB).mono λr hr=>hr.1;have hsr:=DX (ν:=mT (cw X) X.params.toNat) (n:=X.params.toNat) Fu akh hC;obtain⟨b,hb⟩:=bg hC;have xd:(ms (mT (cw X) X.params.toNat) (cw X) X.params.toNat)[b]?=Z akh:=hb;have gF:b<(cw X).length:=by have:=(az.1 xd).1;rwa[fq]at this
  obtain⟨PB,Za⟩:=bf (cw X) b gF;rw[gz Za]at xd;obtain rfl:=a7 xd;have hR0:=Fu PB (aq Za);obtain⟨_,_,_,hlen⟩:=fW hP.all;obtain⟨B,hB⟩:=bf X.blocks b I;have hPe:PB={B with aD:=B.aD++dg X.blocks R b}:=by
   have h1:=Za;rw[ux hP.all,gG hB]at h1;exact(a7 h1).symm
  have hBn:=hn B (aq hB);have hdn:∀r,DNu (mT (cw X) X.params.toNat) (cw X) X.params.toNat r->dk r:=λr hr=>by
   have:=AK hP r hr;exact⟨I,I⟩
  have IH:(eJ X).aB<=1000:=I;refine⟨DB hP IH hR0.on (by rw[hPe];exact hBn.on),λq hq v hv=>?_,λy hy=>?_⟩
  ·unfold fX at hq
   simp only at hq;obtain⟨i,hi⟩:=bg hq;rw[cf]at hi;obtain⟨p,Lu,rfl⟩:=cA.1 hi;unfold qL at hv;simp only at hv;obtain⟨j,hj⟩:=bg hv;rw[cf]at hj;obtain⟨w,hw,rfl⟩:=cA.1 hj;have zO:=aq Lu;have hwm:=aq hw;refine DB hP IH ((hR0.aD p zO).2 w hwm) ?_;rw[hPe]at zO;simp only at zO;rcases bA.1 zO with h|h
   ·exact hBn.aD p h w hwm
   ·obtain⟨r,hr,_,rfl⟩:=jU h
    simp only[iI]at hwm;rw[jK hwm];have:=hP.all.le;exact⟨by simp only;omega,by simp only;omega⟩
  ·have hI:=hsr.list y hy
   unfold fX at hy;simp only at hy;obtain⟨k,C6⟩:=bg hy;rw[cf]at C6;obtain⟨x,hx,rfl⟩:=cA.1 C6;have qQ:=aq hx;have hRx:=hR0.list x qQ;have hxB:x∈B.list:=by rw[hPe]at qQ;exact qQ
   obtain⟨n1,n2,n3,n4⟩:=hBn.list x hxB;refine⟨?_,DB hP IH hRx.a n2,DB hP IH hRx.b n3,λv hv=>?_⟩
   ·by_cases h0:0<=(iR (mT (cw X) X.params.toNat) (cw X) X.params.toNat b k x).dst
    ·exact hdn _ (hI.dst h0)
    ·by_cases Eu:0<=x.dst
     ·refine absurd ?_ h0
      show 0<=(if 0<=x.dst then _ else x.dst);rw[if_pos Eu];have:=(qk hP).ge b ((aN (cw X) b).aD.length+k);have:=(qk hP).par;omega
     ·show dk (if 0<=x.dst then _ else x.dst)
      rw[if_neg Eu];exact n1
   ·unfold iR at hv
    simp only at hv;obtain⟨w,hw,rfl⟩:=aV.1 hv;exact DB hP IH (hRx.args w hw) (n4 w hw)
theorem PW(L:List Int)(bl:List E):eB (bl.map (iQ L))=eB bl:=by
 unfold eB;rw[dE];congr 1;refine dD λB _=>?_;simp[iQ]
theorem JH{aj9:aY}{R:Nat}(hf:fu R aj9.blocks)(ho:bI aj9.blocks=List.range aj9.blocks.length)(hr:aj9.aB<=(en aj9).aB)(hL:gp (en aj9)=false):gp aj9=false:=by
 have hk:c9 aj9=aj9.blocks:=by unfold c9;rw[ho];exact y8 hf
 have h1:(en aj9).blocks=aj9.blocks.map (iQ (gi aj9.params.toNat (c9 aj9))):=by show(c9 aj9).map _=_;rw[hk]
 unfold gp sG at hL⊢;rw[h1,aF,PW]at hL;simp only[Bool.or_eq_false_iff,decide_eq_false_iff_not]at hL⊢;exact⟨hL.1,hL.2.1,I⟩
theorem F1{X:aY}{R:Nat}(h:mg X R)(ho:bI X.blocks=List.range X.blocks.length):bI (eJ X).blocks=List.range (eJ X).blocks.length:=by
 obtain⟨hg,c_,ii,hlen⟩:=fW h.all;have h1:(eJ X).blocks.length=X.blocks.length:=by show(ms _ _ _).length=_;rw[fq,hlen]
 rw[h1,<-ho];exact sj h1 λi=>(AL _ _ _ i).trans (ii i)
section
variable {u:a8}
theorem Qa(hu:Whole u)(hL:∀X∈u.funcs,gp (j0 X)=false):∀Y∈(oL u).funcs,gp (eJ Y)=false:=λY hY=>by
 obtain⟨k,hk⟩:=bg hY;obtain⟨R,hP⟩:=mK hu k Y hk;have LH:=(kB hu).1;have C6:=hk;rw[l5]at C6;obtain⟨X,hX,rfl⟩:=cA.1 C6;obtain⟨_,hA,hT⟩:=zG hu.ok hX;have ho:=x_ hT;have hB:=DZ hP (LH.ok.body _ hY) (rf LH.ok hk);exact JH (yM (R:=qw (cw (cn X)) (cn X).params.toNat) rfl (v7.2 hB)) (F1 hP ho) (L6 hP ho) (hL X (aq hX))
theorem Vf{v:a8}(hv:Whole v)(hp:∀(k:Nat) X,v.funcs[k]?=Z X->∃R,mg X R):lC v (wS v):=λdr f m oA h1 hm=>by
 obtain⟨h2,h3⟩:=Yv hv (Vg hp) dr oA f;have h4:cJ (wS v) dr m=cJ (wS v) dr f:=zt (wS v) f m _ (by have:=h2.state;unfold cJ at this h1;rw[this];exact h1) hm;rw[h4];exact⟨h2,I⟩
theorem NZ(hu:Whole u)(hL:∀X∈u.funcs,gp (j0 X)=false):Whole (wS (oL u)):=MF (kB hu).1 (mK hu) (Qa hu hL)
theorem tm(hu:Whole u)(hL:∀X∈u.funcs,gp (j0 X)=false):Whole (oE u)/\lC u (oE u):=by
 obtain⟨h1,h2⟩:=kB hu;have h3:=NZ hu hL;rw[Ya];exact⟨zg h3,(h2.trans (Vf h1 (mK hu))).trans (Az h3 (He h3.ok en _ _ xR))⟩
end
end
section
set_option maxHeartbeats 8000000
attribute [local irreducible] wpListIn Code.wpIn Exit.then Exit.inBlock bodyPost wpQuiet wpAnyIn wpAnyH bodyPostM j5
theorem PI{f:Nat}[aQ ae f](cap:List V)(g:ep->Bool)(v:V)(l:List ep)(w0:C)(hv:aG w0 v 2 l Cm)(e_:∀w,l_ cX w0 w->∀x∈l,∀sv,(∃a n c,sv=J a n c)->eP ae f (au #[U O x.dst,sv]::cap) w (D (g x))):
  iC ae 166 [v,.func (.func f) #[] cap.toArray] w0 λu w'=>∃r:Int,u=U O r/\Wd cX w0 [] w'/\decide (0<=r)=l.any g:=by
 obtain⟨a,n,c,b,o,rfl,hn,qP,GM,hc,ha,ji⟩:=hv;refine aM func166 rfl ntmps166 rfl (Wd.nil cX w0) ?_;refine aH ?_;refine bL (λ(i:Nat)=>i<=n/\∀j t,j<i->l[j]?=Z t->g t=false) (λi=>[(8,U O i),(0,J a n c),(1,.func (.func f) #[] cap.toArray),(7,U O n)]) (λ_=>[]) (λi=>n-i) 0 ⟨aT _,by simp⟩ (aS ap aC) λi ⟨hi,cU⟩=>?_;refine aU ?_;refine aI (λh1=>?_) (λh1=>?_)
 ·have bS:i<n:=ax h1
  obtain⟨x,hx⟩:=et hn bS;have oW:bU a b o:=⟨ha (aL hx)⟩;have lY:bY i n:=⟨bS⟩;obtain⟨cs,fT,sv,rfl,_,ny⟩:=ji i x hx;obtain⟨sa,sn,sc,_,_,rfl,_⟩:=id ny;have n_:a6 w0 b (o+i*2) [U O x.dst,J sa sn sc]:=⟨fT⟩;refine aH ?_;refine lH rfl (us:=[]) (vs:=[au #[U O x.dst,J sa sn sc]]) (xs:=cap) (λw hw=>e_ w hw.ch x (aq hx) _ ⟨_,_,_,rfl⟩) ?_;refine aU ?_;refine aI (λh2=>?_) (λh2=>?_)
  ·refine aE ?_
   refine cE rfl λw hw=>⟨_,rfl,⟨hw.ch,by simp,by simp,by simp⟩,?_⟩;rw[decide_eq_true (by omega:(0:Int)<=(i:Int))]
   symm
   simp only[mW];exact⟨x,aq hx,h2⟩
  ·refine aH ?_
   refine bj (i+1) ⟨bS,λj t hj ht=>?_⟩ I ap aC
   by_cases yZ:j=i
   ·subst yZ
    rw[hx]at ht;obtain rfl:=a7 ht;exact h2
   ·exact cU j t I ht
 ·have gP:i=n:=by have:=h1;simp at this;omega
  refine aE ?_;refine cE rfl λw hw=>⟨-1,rfl,⟨hw.ch,by simp,by simp,by simp⟩,?_⟩;rw[decide_eq_false (by omega:¬(0:Int)<=-1)]
  symm
  rw[xw];intro t ht;obtain⟨j,hj⟩:=bg ht;rw[cU j t (by have:=(az.1 hj).1;omega) hj];simp
theorem Gs{f:Nat}[aQ ae f](cap:List V)(g:ep->Bool)(v:V)(l:List ep)(w0:C)(hv:aG w0 v 2 l Cm)(e_:∀w,l_ cX w0 w->∀x∈l,∀sv,(∃a n c,sv=J a n c)->eP ae f (au #[U O x.dst,sv]::cap) w (D (g x))):
  eP ae 149 [v,.func (.func f) #[] cap.toArray] w0 (D (l.any g)):=by
 obtain⟨a,n,c,rfl⟩:∃a n c,v=J a n c:=by obtain⟨a,n,c,b,o,rfl,_⟩:=hv;exact⟨a,n,c,rfl⟩
 refine aM func149 rfl ntmps149 rfl (Wd.nil cX w0) ?_;refine aU ?_;refine cZ (val:=λr:Int=>.int O r) (akg:=λ_=>[]) (φ:=λr=>decide (0<=r)=l.any g) rfl (λw hw=>PI cap g _ l w (hv.bZ te hw.ch) λw2 h2=>e_ w2 (hw.ch.trans h2)) λr hr=>?_;simp only[aO];refine aH ?_;rw[hr];exact bP rfl rfl
theorem PH{f:Nat}[aQ ae f](cap:List V)(g:dJ->Bool)(v:V)(l:List dJ)(w0:C)(hv:aG w0 v 8 l Cj)(e_:∀w,l_ cX w0 w->∀x∈l,∀sv,(∃a n c,sv=J a n c)->eP ae f (au #[U O x.op,U O x.dst,D x.a.z,U O x.a.n,D x.b.z,U O x.b.n,U O x.fn,sv]::cap) w (D (g x))):
  iC ae 148 [v,.func (.func f) #[] cap.toArray] w0 λu w'=>∃r:Int,u=U O r/\Wd cX w0 [] w'/\decide (0<=r)=l.any g:=by
 obtain⟨a,n,c,b,o,rfl,hn,qP,GM,hc,ha,ji⟩:=hv;refine aM func148 rfl ntmps148 rfl (Wd.nil cX w0) ?_;refine aH ?_;refine bL (λ(i:Nat)=>i<=n/\∀j t,j<i->l[j]?=Z t->g t=false) (λi=>[(8,U O i),(0,J a n c),(1,.func (.func f) #[] cap.toArray),(7,U O n)]) (λ_=>[]) (λi=>n-i) 0 ⟨aT _,by simp⟩ (aS ap aC) λi ⟨hi,cU⟩=>?_;refine aU ?_;refine aI (λh1=>?_) (λh1=>?_)
 ·have bS:i<n:=ax h1
  obtain⟨x,hx⟩:=et hn bS;have oW:bU a b o:=⟨ha (aL hx)⟩;have lY:bY i n:=⟨bS⟩;obtain⟨cs,fT,sv,rfl,_,_,_,_,_,ny⟩:=ji i x hx;obtain⟨sa,sn,sc,_,_,rfl,_⟩:=id ny;have n_:a6 w0 b (o+i*8) [U O x.op,U O x.dst,D x.a.z,U O x.a.n,D x.b.z,U O x.b.n,U O x.fn,J sa sn sc]:=⟨fT⟩;refine aH ?_;refine lH rfl (us:=[]) (vs:=[au #[U O x.op,U O x.dst,D x.a.z,U O x.a.n,D x.b.z,U O x.b.n,U O x.fn,J sa sn sc]]) (xs:=cap) (λw hw=>e_ w hw.ch x (aq hx) _ ⟨_,_,_,rfl⟩) ?_;refine aU ?_;refine aI (λh2=>?_) (λh2=>?_)
  ·refine aE ?_
   refine cE rfl λw hw=>⟨_,rfl,⟨hw.ch,by simp,by simp,by simp⟩,?_⟩;rw[decide_eq_true (by omega:(0:Int)<=(i:Int))]
   symm
   simp only[mW];exact⟨x,aq hx,h2⟩
  ·refine aH ?_
   refine bj (i+1) ⟨bS,λj t hj ht=>?_⟩ I ap aC
   by_cases yZ:j=i
   ·subst yZ
    rw[hx]at ht;obtain rfl:=a7 ht;exact h2
   ·exact cU j t I ht
 ·have gP:i=n:=by have:=h1;simp at this;omega
  refine aE ?_;refine cE rfl λw hw=>⟨-1,rfl,⟨hw.ch,by simp,by simp,by simp⟩,?_⟩;rw[decide_eq_false (by omega:¬(0:Int)<=-1)]
  symm
  rw[xw];intro t ht;obtain⟨j,hj⟩:=bg ht;rw[cU j t (by have:=(az.1 hj).1;omega) hj];simp
theorem Gr{f:Nat}[aQ ae f](cap:List V)(g:dJ->Bool)(v:V)(l:List dJ)(w0:C)(hv:aG w0 v 8 l Cj)(e_:∀w,l_ cX w0 w->∀x∈l,∀sv,(∃a n c,sv=J a n c)->eP ae f (au #[U O x.op,U O x.dst,D x.a.z,U O x.a.n,D x.b.z,U O x.b.n,U O x.fn,sv]::cap) w (D (g x))):
  eP ae 100 [v,.func (.func f) #[] cap.toArray] w0 (D (l.any g)):=by
 obtain⟨a,n,c,rfl⟩:∃a n c,v=J a n c:=by obtain⟨a,n,c,b,o,rfl,_⟩:=hv;exact⟨a,n,c,rfl⟩
 refine aM func100 rfl ntmps100 rfl (Wd.nil cX w0) ?_;refine aU ?_;refine cZ (val:=λr:Int=>.int O r) (akg:=λ_=>[]) (φ:=λr=>decide (0<=r)=l.any g) rfl (λw hw=>PH cap g _ l w (hv.bZ wm hw.ch) λw2 h2=>e_ w2 (hw.ch.trans h2)) λr hr=>?_;simp only[aO];refine aH ?_;rw[hr];exact bP rfl rfl
theorem UB(r:Int)(pr:Nat)(x:dJ)(sv:V)(ny:∃a n c,sv=J a n c)(w0:C)(hp:bF w0 pr 0 [U O r]):
  eP ae 101 [au #[U O x.op,U O x.dst,D x.a.z,U O x.a.n,D x.b.z,U O x.b.n,U O x.fn,sv],ar (Z ⟨pr,0,A⟩)] w0 (D (decide (x.dst=r))):=by
 obtain⟨a,n,c,rfl⟩:=ny;have n_:a6 w0 pr 0 _:=⟨hp⟩;refine aM func101 rfl ntmps101 rfl (Wd.nil cX w0) ?_
 repeat(first|refine aH ?_|refine dZ λ_ _=>?_)
 exact bP rfl rfl
theorem QL(r:Int)(pr:Nat)(x:ep)(sv:V)(ny:∃a n c,sv=J a n c)(w0:C)(hp:bF w0 pr 0 [U O r]):
  eP ae 150 [au #[U O x.dst,sv],ar (Z ⟨pr,0,A⟩)] w0 (D (decide (x.dst=r))):=by
 obtain⟨a,n,c,rfl⟩:=ny;have n_:a6 w0 pr 0 _:=⟨hp⟩;refine aM func150 rfl ntmps150 rfl (Wd.nil cX w0) ?_
 repeat(first|refine aH ?_|refine dZ λ_ _=>?_)
 exact bP rfl rfl
theorem Ka(B:E)(r:Int)(pv lv tv:V)(W_:∃a n c,lv=J a n c)(ZT:∃a n c,tv=J a n c)(w0:C)(wj:aG w0 pv 2 B.aD Cm):
  eP ae 102 [au #[pv,lv,U O B.kind,D B.on.z,U O B.on.n,tv],U O r] w0 (D (kp B r)):=by
 obtain⟨la,ln,lc,rfl⟩:=W_;obtain⟨ta,tn,tc,rfl⟩:=ZT;obtain⟨pa,pn,pc,rfl⟩:∃a n c,pv=J a n c:=by obtain⟨a,n,c,b,o,rfl,_⟩:=wj;exact⟨a,n,c,rfl⟩
 refine aM func102 rfl ntmps102 rfl (Wd.nil cX w0) ?_
 repeat(first|refine aU ?_|refine dZ λ_ _=>?_)
 rename_i p2 _ p3 _;refine bB rfl (λw hw=>Gs (f:=150) [ar (Z ⟨p3,0,A⟩)] (λp=>decide (p.dst=r)) (J pa pn pc) B.aD w (wj.bZ te hw.ch) λw2 h2 x hx sv ny=>QL r p3 x sv ny w2 λj v hj=>?_) ?_
 ·have h3:w.cell? ⟨p3,0+j,A⟩=Z v:=hw.gL p3 j v hj
  exact fJ h2 h3
 refine aH ?_;exact bP rfl rfl
theorem Wx(q pf:Nat)(av kv:V)(m:Int)(hm:0<=m/\m<=1000000)(w:C)(hw:Wd (cH [(λm:Int=>K q [ar (Z ⟨pf,0,A⟩),av,kv,U O m] 102) m]) w [(λm:Int=>K q [ar (Z ⟨pf,0,A⟩),av,kv,U O m] 102) m] w):
  iC ae 111 [ar (Z ⟨q,0,A⟩)] w λu w'=>∃_x:Unit,u=au #[D true,U O m]/\Wd (cH [(λm:Int=>K q [ar (Z ⟨pf,0,A⟩),av,kv,U O m] 102) m]) w [(λm:Int=>K q [ar (Z ⟨pf,0,A⟩),av,kv,U O m] 102) (m+1)] w'/\True:=by
 refine aM func111 rfl ntmps111 rfl hw ?_;have ha1:Cf m 1:=⟨I,I⟩;generalize cH [(λm:Int=>K q [ar (Z ⟨pf,0,A⟩),av,kv,U O m] 102) m]=SS;simp only
 repeat(first|refine aE ?_|refine dZ λ_ _=>?_)
 rw[show m+1-1=m by omega];exact gw rfl λw hw=>⟨(),rfl,hw.sub aC,trivial⟩
def Mf(names:List cg)(v:cg):cg:=if v.z then names.getD v.n.toNat iu else v
theorem aeO(pn:Nat)(nv:V)(names:List cg)(w0:C)(hp:bF w0 pn 0 [nv])(hn:aG w0 nv 2 names λ_ v cs=>cs=dB v)(v:cg)(hv:v.z=true->0<=v.n/\v.n<names.length):
  eP ae 110 [au #[D v.z,U O v.n],ar (Z ⟨pn,0,A⟩)] w0 (au #[D (Mf names v).z,U O (Mf names v).n]):=by
 obtain⟨a,n,c,b,o,rfl,Eo,_,_,_,ha,ji⟩:=hn;have n_:a6 w0 pn 0 _:=⟨hp⟩;refine aM func110 rfl ntmps110 rfl (Wd.nil cX w0) ?_;obtain⟨z,vn⟩:=v;cases z with
 |false=>
  simp only[Mf]
  repeat(first|refine aE ?_|refine dZ λ_ _=>?_)
  exact gw rfl λw hw=>⟨rfl,hw.ch⟩
 |true=>
  obtain⟨h1,h2⟩:=hv rfl;simp only at h1 h2;obtain⟨r,rfl⟩:∃r:Nat,vn=r:=⟨vn.toNat,I⟩;have hr:r<names.length:=I;obtain⟨x,hx⟩:=bf names r hr;have agQ:Mf names ⟨true,r⟩=x:=by unfold Mf;simp only[if_true,dO];rw[cB,hx];rfl
  rw[agQ];have oW:bU a b o:=⟨ha (aL hx)⟩;have lY:bY r n:=⟨I⟩;obtain⟨cs,fT,rfl⟩:=ji r x hx;have tX:a6 w0 b (o+r*2) [D x.z,U O x.n]:=⟨fT⟩;simp only
  repeat(first|refine aE ?_|refine dZ λ_ _=>?_)
  exact gw rfl λw hw=>⟨rfl,hw.ch⟩
theorem Qo(b0 o0 n:Nat)(akj:cg)(w:C)(hx:bF w b0 o0 (dB akj))(Pv:n<=1000):
  iC ae 104 [J (Z ⟨b0,o0,A⟩) 1 1,U O n] w λu w'=>∃a:Nat,u=J (Z ⟨a,0,A⟩) n n/\Wd cX w [M (Z ⟨a,0,A⟩) n n 41 2 ((List.replicate n akj).flatMap dB)] w'/\True:=by
 have hg:∀x:cg,(dB x).length=2:=λ_=>rfl;refine aM func104 rfl ntmps104 rfl (Wd.nil cX w) ?_;refine aH ?_;rw[show decide ((n:Int)<0)=false by simp]
 skip
 refine qg rfl rfl ?_;refine aU ?_;refine qg rfl (by rw[IntKind.wrap_u64];omega) ?_;refine bB rfl (λw' _=>NL 1 n I I I w') ?_;rw[Nat.one_mul];refine aE ?_;rw[show decide (9223372036854775807<(n:Int))=false by simp;omega,show decide ((0:Int)<0)=false from rfl];refine aH ?_;refine qg rfl ?_ ?_
 ·rw[IntKind.wrap_i64];omega
 refine M8 rfl rfl I I dB iu rfl λa _=>?_;have wO:∀(l:List (cg)),∀v∈l.flatMap dB,v.oneCell'=true:=λl v hv=>by
  obtain⟨q,_,hq⟩:=df.1 hv;simp only[dB,bD,h_,or_false]at hq;rcases hq with rfl|rfl<;>rfl
 refine aU ?_;refine yO (b:=a) (o:=0) (off:=0) 0 (min 1 n) ((List.replicate (min 1 n) akj).flatMap dB) rfl rfl rfl (by rw[cj hg,dm]) (λw' hw j v hj=>?_) (by rw[cj hg,cj hg,dm,dm];omega) (wO _) ?_
 ·obtain⟨i,x,k,h1,h2,rfl⟩:=nu hg _ _ _ hj
  have hi:=(az.1 h1).1;rw[dm]at hi;obtain rfl:=jK (aq h1);obtain rfl:i=0:=I;have:=fJ hw.ch (hx k v h2);rw[nT,di];exact this
 have e0:=yI hg (List.replicate n iu) (List.replicate (min 1 n) akj) 0;rw[nT]at e0;simp only[bW];rw[e0];rw[show(List.replicate n iu).take 0++List.replicate (min 1 n) akj++(List.replicate n iu).drop (0+(List.replicate (min 1 n) akj).length)=List.replicate (min 1 n) akj++List.replicate (n-min 1 n) iu by simp[vX]];refine aH ?_;refine bL (λ(m:Nat)=>(1<=m∨n=0)/\m<=n) (λm=>[(8,U O m),(7,J (Z ⟨a,0,A⟩) n n)]) (λm=>[M (Z ⟨a,0,A⟩) n n 41 2 ((List.replicate m akj++List.replicate (n-m) iu).flatMap dB)]) (λm=>n-m) (min 1 n) ⟨I,I⟩ (aS ap aK) λm ⟨Fo,hmn⟩=>?_;refine aU ?_;refine aI (λh1=>?_) (λh1=>?_)
 ·have bS:m<n:=ax h1
  have Pj:MP m n n:=⟨I,bS⟩;have HF:Ch m n:=⟨I⟩;refine aH ?_;refine v_ [(8,U O ((m+min m (n-m):Nat):Int)),(7,J (Z ⟨a,0,A⟩) n n)] [M (Z ⟨a,0,A⟩) n n 41 2 ((List.replicate (m+min m (n-m)) akj++List.replicate (n-(m+min m (n-m))) iu).flatMap dB)] mixed ?_ ?_
  ·repeat' (first|refine eV 0 rfl ai ?_|refine eV 1 rfl ai ?_|refine eV 2 rfl ai ?_|refine eV 3 rfl ai ?_|refine eV 4 rfl ai ?_|refine eV 5 rfl ai ?_|refine eV 6 rfl ai ?_|refine yN ai ?_|refine any_nil|refine nQ ai ?_|refine any_cons ?_ ?_)
   refine yO (b:=a) (o:=0) (off:=m*2) 0 (min m (n-m)) ((List.replicate (min m (n-m)) akj).flatMap dB) rfl rfl rfl (by rw[cj hg,dm]) (λw' hw j v hj=>?_) (by rw[cj hg,cj hg,bX,dm,dm,dm];omega) (wO _) ?_
   ·obtain⟨i,x,k,h1,h2,rfl⟩:=nu hg _ _ _ hj
    have hi:=(az.1 h1).1;rw[dm]at hi;have hk:k<2:=(az.1 h2).1;refine hw.cL (k:=0) rfl (fB hg _ i x k v ?_ h2);rw[dY (by rw[dm];omega),g_,if_pos I];rw[jK (aq h1)]
   rw[yI hg,dm,FU akj iu m n _ (Nat.min_comm _ _) hmn];simp only[bW]
   repeat' (first|refine z_ ai ?_|refine yN ai ?_|refine any_nil|refine nQ ai ?_|refine any_cons ?_ ?_|refine lJ ?_|refine pQ ?_|refine vp rfl ?_|refine vm rfl I I ?_)
   all_goals
    rw[<-Int.natCast_add]
   skip
   all_goals exact aS ap aK
  ·refine aH ?_
   exact bj (m+min m (n-m)) ⟨I,I⟩ I ap aK
 ·have gP:m=n:=by have:=h1;simp at this;omega
  subst gP;rw[dN,List.replicate_zero,cD];refine aE ?_;exact cE rfl λw' hw=>⟨a,rfl,hw,trivial⟩
end
end Go.Proofs.YthfhgolkafpmnaaGreatDoor
