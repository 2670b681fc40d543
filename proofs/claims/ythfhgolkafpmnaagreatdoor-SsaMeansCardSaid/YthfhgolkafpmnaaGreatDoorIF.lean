/- Texts joined: MetR MetS NamedR NamedS KeptR TidyJ TidyK TidyL TidyD NamesT NamesL. -/
import Derived.Test.YthfhgolkafpmnaaGreatDoorIE
namespace Go.Proofs.YthfhgolkafpmnaaGreatDoor
open Option renaming some->Z,none->A
open Go Go.RowKit
section
structure iT(bl:List E)(b t:Nat):Prop where
 blt:b<bl.length
 HR:t<bl.length
 ne:t≠b
 kind:(aN bl b).kind=2
 to:(aN bl b).to=[(t:Int)]
 none:(aN bl t).aD=[]
 one:aZ bl t=[b]
def V1(bl:List E)(b t q:Nat):List Int:=if q=t then[]else if q=b then db bl t else db bl q
def lP(bl:List E)(b t c:Nat):List Nat:=(List.range bl.length).filter λq=>decide ((c:Int)∈V1 bl b t q)
def HO(bl:List E)(b t c:Nat)(p:ep):ep:=⟨p.dst,(lP bl b t c).map λq=>jq bl c p (if q=b then t else q)⟩
def qe(bl:List E)(b t c:Nat)(B:E):E:=
 if c=t then px else if c=b then⟨B.aD.map (HO bl b t c),B.list++(aN bl t).list,(aN bl t).kind,(aN bl t).on,(aN bl t).to⟩else{B with aD:=B.aD.map (HO bl b t c)}
def eW(bl:List E)(b t:Nat):List E:=bl.mapIdx (qe bl b t)
theorem fw(bl:List E)(b t:Nat):(eW bl b t).length=bl.length:=by simp[eW]
theorem jC{bl:List E}{b t c:Nat}{B:E}(h:bl[c]?=Z B):(eW bl b t)[c]?=Z (qe bl b t c B):=by
 unfold eW;rw[cf,h]
 rfl
theorem vB{bl:List E}{b t c:Nat}(h:c<bl.length):aN (eW bl b t) c=qe bl b t c (aN bl c):=jB (jC (bM h))
theorem Gi(bl:List E)(b t c:Nat)(B:E):(qe bl b t c B).to=if c=t then[]else if c=b then(aN bl t).to else B.to:=by
 unfold qe
 split
 ·rfl
 split<;>rfl
theorem sR(bl:List E)(b t c:Nat)(B:E):(qe bl b t c B).aD=if c=t then[]else B.aD.map (HO bl b t c):=by
 unfold qe
 split
 ·rfl
 split<;>rfl
theorem tE{bl:List E}{c:Nat}(h:¬c<bl.length):db bl c=[]:=by
 unfold db;rw[bO I]
section
variable {bl:List E} {b t:Nat} (hg:cT bl) (hj:iT bl b t)
include hj
theorem wE(c:Nat):db (eW bl b t) c=V1 bl b t c:=by
 by_cases hc:c<bl.length
 ·rw[ls (by rw[fw];exact hc),vB hc,Gi]
  unfold V1;rw[ls hj.HR,ls hc]
 ·rw[tE (by rw[fw];exact hc)]
  unfold V1;rw[if_neg (by have:=hj.HR;omega),if_neg (by have:=hj.blt;omega),tE hc]
theorem ni(c:Nat):aZ (eW bl b t) c=lP bl b t c:=by
 unfold aZ lP;rw[fw];refine rV λq _=>?_;rw[wE hj]
theorem Cd:db bl b=[(t:Int)]:=by rw[ls hj.blt,hj.to]
theorem DF{q:Nat}(h:(t:Int)∈db bl q):q=b:=by
 have hq:q<bl.length:=Classical.byContradiction λhq=>by rw[tE hq]at h;cases h
 have h1:q∈aZ bl t:=cC.2 ⟨cM.2 hq,ax h⟩;rw[hj.one]at h1;exact bR.1 h1
theorem ab5:(t:Int)∉db bl t:=λh=>hj.ne (DF hj h)
theorem kO{c q:Nat}(hc:c≠t):q∈lP bl b t c↔q≠t/\(if q=b then t else q)∈aZ bl c:=by
 unfold lP aZ;rw[cC,cC,cM,cM,decide_eq_true_eq,decide_eq_true_eq];unfold V1
 by_cases h1:q=t
 ·simp[h1]
 ·rw[if_neg h1]
  by_cases h2:q=b
  ·rw[if_pos h2,if_pos h2]
   have:=hj.HR;have:=hj.blt;exact⟨λh=>⟨h1,hj.HR,h.2⟩,λh=>⟨I,h.2.2⟩⟩
  ·rw[if_neg h2,if_neg h2]
   exact⟨λh=>⟨h1,h⟩,λh=>h.2⟩
theorem rD{c:Nat}(hc:c≠t):b∉aZ bl c:=λh=>by
 have h1:=(cC.1 h).2;simp only[decide_eq_true_eq]at h1;rw[Cd hj,bR]at h1;omega
theorem DK{c:Nat}(hc:c≠t):(lP bl b t c).length=(aZ bl c).length:=by
 have h1:((lP bl b t c).map λq=>if q=b then t else q).Perm (aZ bl c):=by
  refine(sO (nD (List.Nodup.sublist nV qE) λx hx y hy e=>?_) (jV bl c)).2 λx=>?_
  ·have h2:=(kO hj hc).1 hx
   have h3:=(kO hj hc).1 hy
   split at e
   ·split at e
    ·omega
    ·exact absurd e.symm h3.1
   ·split at e
    ·exact absurd e h2.1
    ·exact e
  ·rw[aV]
   constructor
   ·rintro⟨q,hq,rfl⟩
    exact((kO hj hc).1 hq).2
   ·intro hx
    by_cases e:x=t
    ·refine⟨b,(kO hj hc).2 ⟨λe2=>hj.ne e2.symm,by rw[if_pos rfl,<-e];exact hx⟩,by rw[if_pos rfl,e]⟩
    ·have BJ:x≠b:=λe2=>rD hj hc (e2▸hx)
     exact⟨x,(kO hj hc).2 ⟨e,by rw[if_neg BJ];exact hx⟩,by rw[if_neg BJ]⟩
 have:=h1.length_eq;rwa[aF]at this
theorem UF:lP bl b t t=[]:=by
 unfold lP;refine List.filter_eq_nil_iff.2 λq _=>?_;simp only[decide_eq_true_eq];unfold V1
 split
 ·simp
 split
 ·exact ab5 hj
 ·rename_i h1 h2
  exact λh=>h2 (DF hj h)
theorem MH{c q:Nat}(hc:c≠t)(hq:q∈lP bl b t c)(p:ep):jq (eW bl b t) c (HO bl b t c p) q=jq bl c p (if q=b then t else q):=by
 unfold jq;rw[ni hj];unfold HO;simp only;rw[cB,aJ,a_ (ju hq),mN]
 rfl
include hg
theorem FA:cT (eW bl b t):=λakh hC=>by
 obtain⟨c,hc⟩:=bg hC;have e_:c<bl.length:=by rw[<-fw bl b t];exact(az.1 hc).1
 rw[jC (bM e_)]at hc;obtain rfl:=a7 hc;rw[Gi,fw]
 split
 ·simp
 split
 ·exact hg _ (aq (bM hj.HR))
 ·exact hg _ (aq (bM e_))
end
theorem Dr{bl:List E}{b t:Nat}(hj:iT bl b t)(oZ:∀(c:Nat) B,bl[c]?=Z B->B.to.Nodup):∀(c:Nat) B,(eW bl b t)[c]?=Z B->B.to.Nodup:=λc akh hc=>by
 have e_:c<bl.length:=by rw[<-fw bl b t];exact(az.1 hc).1
 rw[jC (bM e_)]at hc;obtain rfl:=a7 hc;rw[Gi]
 split
 ·simp
 split
 ·exact oZ _ _ (bM hj.HR)
 ·exact oZ _ _ (bM e_)
theorem Hm{R:Nat}{bl:List E}{b t c:Nat}(hf:fu R bl)(hj:iT bl b t)(hc:c≠t)(e_:c<bl.length){p:ep}(hp:p∈(aN bl c).aD){v:cg}(hv:v∈(HO bl b t c p).src):v∈p.src:=by
 unfold HO at hv;obtain⟨q,hq,rfl⟩:=aV.1 hv;exact wC (R:=R) ((hf.block c _ (bM e_)).aD p hp).len ((kO hj hc).1 hq).2
theorem Jr{R:Nat}{bl:List E}{b t:Nat}(hf:fu R bl)(hj:iT bl b t):fu R (eW bl b t):=by
 refine⟨FA hf.iM hj,λc akh hC=>?_⟩;have e_:c<bl.length:=by rw[<-fw bl b t];exact(az.1 hC).1
 have oZ:=Dr hj (λb B hB=>(hf.block b B hB).to) c akh hC;have hB:=hf.block _ _ (bM e_);have hT:=hf.block _ _ (bM hj.HR);rw[jC (bM e_)]at hC;obtain rfl:=a7 hC;refine⟨λp' wi=>?_,λx hx=>?_,?_,oZ⟩
 ·rw[sR]at wi
  split at wi
  ·cases wi
  rename_i Ni;obtain⟨p,hp,rfl⟩:=aV.1 wi;have De:=hB.aD p hp;refine⟨De.dst,by rw[ni hj];simp[HO],λv hv=>De.uJ v (Hm hf hj Ni e_ hp hv)⟩
 ·unfold qe at hx
  split at hx
  ·cases hx
  split at hx
  ·rcases bA.1 hx with hx|hx
   ·exact hB.list x hx
   ·exact hT.list x hx
  ·exact hB.list x hx
 ·unfold qe
  split
  ·exact λh=>by cases h
  split
  ·exact hT.on
  ·exact hB.on
theorem Aw{bl:List E}{b t:Nat}(hj:iT bl b t):eB (eW bl b t)=eB bl:=by
 rw[xP,xP,fw];have hs:∀c,c<bl.length->HQ (aN (eW bl b t) c)=if c=t then 0 else if c=b then HQ (aN bl b)+HQ (aN bl t)else HQ (aN bl c):=λc hc=>by
  rw[vB hc];unfold qe
  split
  ·rfl
  split
  ·rename_i h2
   subst h2;unfold HQ;simp only[aF,bX,hj.none,qD];omega
  ·unfold HQ
   simp
 rw[dD λc hc=>hs c (cM.1 hc)];have hpt:(List.range bl.length).Perm (t::b::((List.range bl.length).erase t).erase b):=by
  have h1:=List.perm_cons_erase (cM.2 hj.HR);have h2:b∈(List.range bl.length).erase t:=(List.mem_erase_of_ne (λe=>hj.ne e.symm)).2 (cM.2 hj.blt);exact h1.trans ((List.perm_cons_erase h2).cons t)
 rw[(hpt.map _).sum_nat,(hpt.map λc=>HQ (aN bl c)).sum_nat];simp only[bT,eT,if_true];rw[if_neg (λe=>hj.ne e.symm)];have oZ:((List.range bl.length).erase t).Nodup:=List.nodup_range.erase t;have h3:∀c∈((List.range bl.length).erase t).erase b,c≠t/\c≠b:=λc hc=>by
  have h4:=(List.Nodup.mem_erase_iff oZ).1 hc;have h5:=(List.Nodup.mem_erase_iff qE).1 h4.2;exact⟨h5.1,h4.1⟩
 rw[dD (g:=λc=>HQ (aN bl c)) λc hc=>by rw[if_neg (h3 c hc).1,if_neg (h3 c hc).2]];omega
structure YU(k b t lb:Nat)(f g:mf):Prop where
 fn:g.fn=f.fn
 aB:g.aB=f.aB
 dst:g.dst=f.dst
 place:(f.fn=k/\f.block=t/\g.block=b/\g.at'=lb+f.at')∨(¬(f.fn=k/\f.block=t)/\g.block=f.block/\g.at'=f.at')
def FRj(k b t lb:Nat)(d e:Int)(f g:mf):Prop:=e=d/\YU k b t lb f g
theorem YU.back{k b t lb:Nat}{f g:mf}(h:YU k b t lb f g)(d n:Int):YU k b t lb (f.set d n) (g.set d n):=by
 obtain⟨h1,h2,h3,h4⟩:=h;exact⟨h1,by unfold mf.set;simp only[h2],h3,h4⟩
structure ae6(u:a8)(k b t lb:Nat)(s s2:j7):Prop where
 ok:ja u (s.steps+1) s
 rel:aad (FRj k b t lb) (YU k b t lb) s s2
theorem Qk{u:a8}{k:Nat}{bl:List E}:dh (rE u k bl).funcs=dh u.funcs:=by
 refine FF ?_;apply ci;intro j;rw[aJ,aJ,tx]
 by_cases e:k=j
 ·simp only[e,if_true]
  cases u.funcs[j]?<;>rfl
 ·simp only[e,if_false]
theorem FQ(u:a8)(k:Nat)(bl:List E)(j:Nat):fQ (rE u k bl) j=fQ u j:=by
 unfold fQ;rw[tx]
 by_cases e:k=j
 ·simp only[e,if_true]
  cases u.funcs[j]?<;>rfl
 ·simp only[e,if_false]
theorem UG{u:a8}{k:Nat}{X:aY}(hX:u.funcs[k]?=Z X)(bl:List E)(j:Nat):fH (rE u k bl) j=if k=j then bl else fH u j:=by
 unfold fH;rw[tx]
 by_cases e:k=j
 ·subst e
  simp only[if_true,hX,bu]
  rfl
 ·simp only[e,if_false]
theorem KH(u:a8)(f:mf):qf u f=(fH u f.fn).getD f.block ⟨[],[],1,iu,[]⟩:=by
 unfold qf fH;cases u.funcs[f.fn]? with
 |none=>rfl
 |some X=>rfl
theorem Tx{u:a8}{k b t:Nat}{X0:aY}(hu:jH u)(hc:jE u)(hX0:u.funcs[k]?=Z X0)(hj:iT X0.blocks b t):Sim u (rE u k (eW X0.blocks b t)) 0 1 (ae6 u k b t (aN X0.blocks b).list.length):=by
 obtain⟨v,hv⟩:∃v,v=rE u k (eW X0.blocks b t):=⟨_,rfl⟩;rw[<-hv];intro s s2 ⟨cY,hrel⟩;obtain⟨X,R,hf⟩:=cY.bJ;obtain⟨B,hB⟩:=bf X.blocks s.bJ.block hf.block;have Lc:=aq hB;have gI:=hf.fit.eR B Lc;have rj:=hc.body X (aq hf.get);obtain⟨hm,hi,ho,lK,t_⟩:=hrel;obtain⟨Et,HL,ZQ,Xs⟩:=t_;have wK:fH u s.bJ.fn=X.blocks:=by unfold fH;rw[hf.get]
 have uS:fH v s.bJ.fn=if k=s.bJ.fn then eW X.blocks b t else X.blocks:=by
  rw[hv,UG hX0,wK]
  by_cases e:k=s.bJ.fn
  ·rw[if_pos e,if_pos e]
   have:X0=X:=by rw[e,hf.get]at hX0;exact(a7 hX0).symm
   rw[this]
  ·rw[if_neg e,if_neg e]
 have hXk:s.bJ.fn=k->X0=X:=λe=>by rw[<-e,hf.get]at hX0;exact(a7 hX0).symm
 have Ph:=sS hf hB;have Np:=lK.len;obtain⟨akh,Na⟩:∃akh,qf v s2.bJ=akh:=⟨_,rfl⟩;have hCb:akh=(fH v s.bJ.fn).getD s2.bJ.block ⟨[],[],1,iu,[]⟩:=by rw[<-Na,KH,Et]
 have S_:jr v s2=match akh.list[s2.bJ.at']? with
  |none=>mj v (tick s2) akh
  |some x=>kY v (ky (tick s2)) x:=by rw[iS,Na];rfl
 have hCc:(s.bJ.fn=k/\s.bJ.block=t/\s2.bJ.block=b/\s2.bJ.at'=(aN X.blocks b).list.length+s.bJ.at'/\akh.list=(aN X.blocks b).list++B.list/\akh.kind=B.kind/\akh.on=B.on/\akh.to=B.to)∨
   (s.bJ.fn=k/\s.bJ.block=b/\s2.bJ.block=b/\s2.bJ.at'=s.bJ.at'/\akh.list=B.list++(aN X.blocks t).list)∨
   (¬(s.bJ.fn=k/\s.bJ.block=t)/\¬(s.bJ.fn=k/\s.bJ.block=b)/\s2.bJ.block=s.bJ.block/\s2.bJ.at'=s.bJ.at'/\akh.list=B.list/\akh.kind=B.kind/\akh.on=B.on/\akh.to=B.to):=by
  rcases Xs with⟨h1,h2,h3,h4⟩|⟨h1,h3,h4⟩
  ·have WS:=hXk h1
   subst WS;rw[if_pos h1.symm]at uS;have Zb:aN X0.blocks t=B:=by rw[<-h2];exact jB hB
   have:akh=qe X0.blocks b t b (aN X0.blocks b):=by rw[hCb,uS,cB,h3,jC (bM hj.blt)];rfl
   unfold qe at this;rw[if_neg (λe=>hj.ne e.symm),if_pos rfl,Zb]at this;exact .inl ⟨h1,h2,h3,h4,by rw[this],by rw[this],by rw[this],by rw[this]⟩
  ·by_cases h5:s.bJ.fn=k
   ·have WS:=hXk h5
    subst WS;rw[if_pos h5.symm]at uS;have Ni:s.bJ.block≠t:=λe=>h1 ⟨h5,e⟩;have:akh=qe X0.blocks b t s.bJ.block B:=by rw[hCb,uS,cB,h3,jC hB];rfl
    unfold qe at this;rw[if_neg Ni]at this
    by_cases h6:s.bJ.block=b
    ·rw[if_pos h6]at this
     exact .inr (.inl ⟨h5,h6,by rw[h3,h6],h4,by rw[this]⟩)
    ·rw[if_neg h6]at this
     exact .inr (.inr ⟨h1,λh=>h6 h.2,h3,h4,by rw[this],by rw[this],by rw[this],by rw[this]⟩)
   ·rw[if_neg (λe=>h5 e.symm)]at uS
    have:akh=B:=by rw[hCb,uS,cB,h3,hB];rfl
    exact .inr (.inr ⟨h1,λh=>h5 h.1,h3,h4,by rw[this],by rw[this],by rw[this],by rw[this]⟩)
 have hFT:YU k b t (aN X0.blocks b).list.length s.bJ s2.bJ:=⟨Et,HL,ZQ,Xs⟩;have qh:∀w:cg,cK s2.bJ w=cK s.bJ w:=λw=>by unfold cK;rw[HL]
 cases hx:B.list[s.bJ.at']? with
 |some x=>
  have r8:jr u s=kY u (ky (tick s)) x:=by rw[iS,Ph];simp only[hx]
  have qQ:=aq hx;have ue:=(az.1 hx).1;have hCx:akh.list[s2.bJ.at']?=Z x:=by
   rcases hCc with⟨_,_,_,h4,h5,_⟩|⟨_,_,_,h4,h5⟩|⟨_,_,_,h4,h5,_⟩
   ·rw[h4,h5,dC I,lE,hx]
   ·rw[h4,h5,dY ue,hx]
   ·rw[h4,h5,hx]
  have ny:jr v s2=kY v (ky (tick s2)) x:=by rw[S_];simp only[hCx]
  obtain⟨_,_,_,ud⟩:=qW (rj.list _ B hB x qQ);have hgt:YU k b t (aN X0.blocks b).list.length (ky (tick s)).bJ (ky (tick s2)).bJ:=by
   refine⟨Et,HL,ZQ,?_⟩;rcases Xs with⟨h1,h2,h3,h4⟩|⟨h1,h3,h4⟩
   ·exact .inl ⟨h1,h2,h3,by show s2.bJ.at'+1=_+(s.bJ.at'+1);omega⟩
   ·exact .inr ⟨h1,h3,by show s2.bJ.at'+1=s.bJ.at'+1;omega⟩
  have tI:∀w:cg,cK (ky (tick s2)).bJ w=cK (ky (tick s)).bJ w:=qh;rcases GZ (u:=u) (v:=v) (s:=ky (tick s)) (t:=ky (tick s2)) (x:=x) (y:=x) rfl rfl (tI _) (tI _) (λ_=>dD λw _=>tI w) hm hi ho Np ud ud with⟨f,g,e1,e2,ha⟩|⟨vu,e1,e2⟩|⟨vu,mem,dr,out,akj,e1,e2⟩
  ·refine⟨λs' iK=>?_,λf' oJ=>?_⟩
   ·rw[r8,e1]at iK;cases iK
   ·rw[r8,e1]at oJ
    rw[<-Sum.inr.inj oJ];exact⟨0,s2,g,I,I,rfl,by rw[ny,e2],ha⟩
  ·refine⟨λs' iK=>?_,λf' oJ=>?_⟩
   ·have h9:=(kQ hu cY iK).1
    rw[r8,e1]at iK;have iK:=Sum.inl.inj iK;refine⟨1,_,I,I,.one (by rw[ny,e2]),h9,?_⟩;rw[<-iK,oQ,oQ,hv,FQ];refine⟨hm,hi,ho,.add lK ⟨rfl,hgt⟩,rfl,rfl,rfl,.inr ⟨?_,rfl,rfl⟩⟩;rintro⟨e4,e5⟩;have e5:(0:Nat)=t:=e5;have h1:t=0:=e5.symm;have e6:=mB.1 ((hc.body X0 (aq hX0)).ends _ (aq (bM hj.blt)));have:=(e6.to t (by rw[hj.to];simp)).1;omega
   ·rw[r8,e1]at oJ;cases oJ
  ·refine⟨λs' iK=>?_,λf' oJ=>?_⟩
   ·have h9:=(kQ hu cY iK).1
    rw[r8,e1]at iK;have iK:=Sum.inl.inj iK;refine⟨1,_,I,I,.one (by rw[ny,e2]),h9,?_⟩;rw[<-iK];exact⟨rfl,rfl,rfl,lK,hgt.back x.dst akj⟩
   ·rw[r8,e1]at oJ;cases oJ
 |none=>
  have r8:jr u s=mj u (tick s) B:=by rw[iS,Ph];simp only[hx]
  have ue:=kD.1 hx
  by_cases Lk:s.bJ.fn=k/\s.bJ.block=b
  ·
   have WS:=hXk Lk.1;subst WS;have VH:aN X0.blocks b=B:=by rw[<-Lk.2];exact jB hB
   have s5:B.kind=2:=by rw[<-VH];exact hj.kind
   have ii:B.to=[(t:Int)]:=by rw[<-VH];exact hj.to
   have he:mj u (tick s) B=.inl (s_ u (tick s) (t:Int)):=by
    unfold mj;rw[if_pos s5,ii]
    rfl
   rw[he]at r8;refine⟨λs' iK=>?_,λf' oJ=>by rw[r8]at oJ;cases oJ⟩;have h9:=(kQ hu cY iK).1;rw[r8]at iK;have iK:=Sum.inl.inj iK;refine⟨0,s2,I,I,rfl,h9,?_⟩;rw[<-iK,pe];have wj:fD (fH u s.bJ.fn) t=[]:=by rw[wK];unfold fD;rw[bM hj.HR];exact hj.none
   refine⟨hm,hi,ho,lK,Et,?_,ZQ,.inl ⟨Lk.1,dO t,?_,?_⟩⟩
   ·show s2.bJ.aB=jp s.bJ ((aZ (fH u s.bJ.fn) (t:Int).toNat).idxOf s.bJ.block) (fD (fH u s.bJ.fn) (t:Int).toNat)
    rw[dO,wj];exact HL
   ·rcases hCc with⟨_,h2,_⟩|⟨_,_,h3,_⟩|⟨_,h2,_⟩
    ·exact absurd (Lk.2.symm.trans h2).symm hj.ne
    ·exact h3
    ·exact absurd Lk h2
   ·show s2.bJ.at'=_+0
    have oX:=hf.at' B hB;rw[VH];rcases hCc with⟨_,h2,_⟩|⟨_,_,_,h4,_⟩|⟨_,h2,_⟩
    ·exact absurd (Lk.2.symm.trans h2).symm hj.ne
    ·omega
    ·exact absurd Lk h2
  have Bk:akh.list[s2.bJ.at']?=A/\akh.kind=B.kind/\akh.on=B.on/\akh.to=B.to:=by
   rcases hCc with⟨_,_,_,h4,h5,h6,h7,h8⟩|⟨h1,h2,_⟩|⟨_,_,_,h4,h5,h6,h7,h8⟩
   ·refine⟨?_,h6,h7,h8⟩
    rw[h4,h5];refine bO ?_;rw[bX];omega
   ·exact absurd ⟨h1,h2⟩ Lk
   ·exact⟨by rw[h4,h5];exact hx,h6,h7,h8⟩
  obtain⟨hCn,Y_,hCo,hCt⟩:=Bk;have ny:jr v s2=mj v (tick s2) akh:=by rw[S_];simp only[hCn]
  have ZV:cK s2.bJ akh.on=cK s.bJ B.on:=by rw[hCo];exact qh _
  by_cases Ln:B.kind=2∨B.kind=3
  ·obtain⟨i,iJ,e1,e2⟩:=Dt (u:=u) (v:=v) (s:=tick s) (t:=tick s2) (akh:=akh) Ln Y_ gI.kind.2 ZV
   have Tb:=AR (B:=B) iJ;obtain⟨to,T,e,hg⟩:=K8 hf hB Tb;have LG:to<X.blocks.length:=(az.1 hg.get).1;rw[e]at e1;rw[hCt,e]at e2;have aez:(to:Int)∈db X.blocks s.bJ.block:=by rw[fY hB,<-e];exact Tb
   have Dd:fD (fH u s.bJ.fn) to=T.aD:=by rw[wK];unfold fD;rw[hg.get]
   have hnt:¬(s.bJ.fn=k/\to=t):=λ⟨h1,h2⟩=>by
    have WS:=hXk h1;subst WS;rw[h2]at aez;exact Lk ⟨h1,DF hj aez⟩
   refine⟨λs' iK=>?_,λf' oJ=>?_⟩
   ·have h9:=(kQ hu cY iK).1
    rw[r8,e1]at iK;have iK:=Sum.inl.inj iK;refine⟨1,_,I,I,.one (by rw[ny,e2]),h9,?_⟩;rw[<-iK,pe,pe];refine⟨hm,hi,ho,lK,Et,?_,ZQ,.inr ⟨λh=>hnt ⟨h.1,by have:=h.2;rw[<-this];exact(dO to).symm⟩,rfl,rfl⟩⟩;show jp s2.bJ ((aZ (fH v s2.bJ.fn) (to:Int).toNat).idxOf s2.bJ.block) (fD (fH v s2.bJ.fn) (to:Int).toNat)=jp s.bJ ((aZ (fH u s.bJ.fn) (to:Int).toNat).idxOf s.bJ.block) (fD (fH u s.bJ.fn) (to:Int).toNat);rw[Et,dO,Dd]
    by_cases h5:s.bJ.fn=k
    ·have WS:=hXk h5
     subst WS;have Ni:to≠t:=λe=>hnt ⟨h5,e⟩;rw[if_pos h5.symm]at uS;have abt:fD (fH v s.bJ.fn) to=T.aD.map (HO X0.blocks b t to):=by
      rw[uS];unfold fD;rw[jC hg.get];simp only;rw[sR,if_neg Ni]
     rw[abt,uS,wK,ni hj];have hq:s2.bJ.block∈lP X0.blocks b t to/\(if s2.bJ.block=b then t else s2.bJ.block)=s.bJ.block:=by
      rcases hCc with⟨_,h2,h3,_⟩|⟨h1,h2,_⟩|⟨h1,h2,h3,_⟩
      ·refine⟨(kO hj Ni).2 ⟨by rw[h3];exact λe=>hj.ne e.symm,?_⟩,by rw[if_pos h3,h2]⟩
       rw[if_pos h3,<-h2];exact hg.mem
      ·exact absurd ⟨h1,h2⟩ Lk
      ·have h6:s2.bJ.block≠b:=λe=>h2 ⟨h5,by rw[<-h3];exact e⟩
       refine⟨(kO hj Ni).2 ⟨λe=>h1 ⟨h5,by rw[<-h3];exact e⟩,?_⟩,by rw[if_neg h6,h3]⟩;rw[if_neg h6,h3];exact hg.mem
     refine Mm (F:=HO X0.blocks b t to) HL (λp _=>rfl) λp _=>?_;have h6:=MH hj Ni hq.1 p;unfold jq at h6;rw[ni hj,hq.2]at h6;exact h6
    ·rw[if_neg (λe=>h5 e.symm)]at uS
     have abt:fD (fH v s.bJ.fn) to=T.aD:=by rw[uS];unfold fD;rw[hg.get]
     have xd:s2.bJ.block=s.bJ.block:=by
      rcases hCc with⟨h1,_⟩|⟨h1,_⟩|⟨_,_,h3,_⟩
      ·exact absurd h1 h5
      ·exact absurd h1 h5
      ·exact h3
     rw[abt,uS,wK,xd];unfold jp;rw[HL];refine congrArg (λg=>List.foldl g s.bJ.aB T.aD) ?_
     funext rs p
     rw[qh]
   ·rw[r8,e1]at oJ;cases oJ
  ·rcases Hs (u:=u) (v:=v) (FR:=FRj k b t (aN X0.blocks b).list.length) (s:=tick s) (t:=tick s2) (akh:=akh) (λh=>Ln (.inl h)) (λh=>Ln (.inr h)) Y_ ZV ho lK with⟨f,g,e1,e2,ha⟩|⟨l,f,m,g,d1,d2,e1,e2,d3,d4⟩
   ·refine⟨λs' iK=>?_,λf' oJ=>?_⟩
    ·rw[r8,e1]at iK;cases iK
    ·rw[r8,e1]at oJ
     rw[<-Sum.inr.inj oJ];exact⟨0,s2,g,I,I,rfl,by rw[ny,e2],ha⟩
   ·refine⟨λs' iK=>?_,λf' oJ=>?_⟩
    ·have h9:=(kQ hu cY iK).1
     rw[r8,e1]at iK;have iK:=Sum.inl.inj iK;refine⟨1,_,I,I,.one (by rw[ny,e2]),h9,?_⟩;rw[<-iK];refine⟨hm,hi,ho,d3,?_⟩;show YU k b t _ (f.set s.bJ.dst (cK s.bJ B.on)) (g.set s2.bJ.dst (cK s.bJ B.on));rw[ZQ];exact d4.2.back _ _
    ·rw[r8,e1]at oJ;cases oJ
theorem PL{u:a8}(hc:jE u){k b t:Nat}{X:aY}(hX:u.funcs[k]?=Z X)(hj:iT X.blocks b t):BA u.funcs X (sJ X (eW X.blocks b t)):=by
 have hs:=BA.same hc hX;have hb:=hs.body;obtain⟨R,Nb,hR,hf⟩:=oO (fN.2 hc) hX;have hg:=hf.iM;have oZ:∀(b:Nat) B,X.blocks[b]?=Z B->B.to.Nodup:=λb B hB=>(hf.block b B hB).to;have Nj:∀c,c<X.blocks.length->Ri X.blocks.length X.aB (aN X.blocks c):=λc e_=>mB.1 (hb.ends _ (aq (bM e_)));have jS:∀(c:Nat) akh,(eW X.blocks b t)[c]?=Z akh->c<X.blocks.length/\akh=qe X.blocks b t c (aN X.blocks c):=λc akh hC=>by
  have e_:c<X.blocks.length:=by rw[<-fw X.blocks b t];exact(az.1 hC).1
  rw[jC (bM e_)]at hC;exact⟨e_,(a7 hC).symm⟩
 refine⟨rfl,rfl,hs.aB,?_,?_,?_,?_,?_⟩
 ·show 1<=(eW X.blocks b t).length/\(eW X.blocks b t).length<=40
  rw[fw];exact hs.many
 ·show gy (eW X.blocks b t)<=300
  rw[<-qR,Aw hj,qR];exact hs.size
 ·intro akh hC
  have hC:akh∈eW X.blocks b t:=hC;show k9 (eW X.blocks b t).length X.aB akh=0;rw[fw];obtain⟨c,HF⟩:=bg hC;obtain⟨e_,rfl⟩:=jS c akh HF;refine mB.2 ?_;unfold qe
  split
  ·exact⟨⟨by simp[px],by simp[px]⟩,by simp[px],by simp[px],λh=>by simp[px]at h,λh=>by simp[px]at h,rfl⟩
  split
  ·have h:=Nj t hj.HR
   exact⟨h.kind,h.len,h.to,h.two,h.one,h.on⟩
  ·have h:=Nj c e_
   exact⟨h.kind,h.len,h.to,h.two,h.one,h.on⟩
 ·intro c akh hC p' wi
  obtain⟨e_,rfl⟩:=jS c akh hC;rw[sR]at wi
  split at wi
  ·cases wi
  rename_i Ni;obtain⟨p,hp,rfl⟩:=aV.1 wi;have h0:=hb.aD c _ (bM e_) p hp;unfold ng at h0⊢;obtain⟨h1,h2,h3,h4⟩:=vM.1 h0;show zk X.aB c ((be (eW X.blocks b t))[c]?.getD []).length (HO X.blocks b t c p)=0;rw[gu (FA hg hj) (Dr hj oZ) (by rw[fw];exact e_)];refine vM.2 ⟨h1,h2,?_,λw hw=>h4 w (Hm hf hj Ni e_ hp hw)⟩;rw[dW,aF,ni hj];simp[HO]
 ·intro c akh hC x hx
  obtain⟨e_,rfl⟩:=jS c akh hC;show eu u.funcs X.aB x=0;unfold qe at hx
  split at hx
  ·cases hx
  split at hx
  ·rcases bA.1 hx with hx|hx
   ·exact hb.list c _ (bM e_) x hx
   ·exact hb.list t _ (bM hj.HR) x hx
  ·exact hb.list c _ (bM e_) x hx
theorem LO{u:a8}(h:Whole u){k b t:Nat}{X:aY}(hX:u.funcs[k]?=Z X)(hj:iT X.blocks b t):Whole (rE u k (eW X.blocks b t))/\lC u (rE u k (eW X.blocks b t)):=by
 have agJ:∀Y∈(rE u k (eW X.blocks b t)).funcs,Y∈u.funcs∨Y=sJ X (eW X.blocks b t):=λY hY=>by
  obtain⟨i,hi⟩:=bg hY;rw[tx]at hi
  by_cases e:k=i
  ·subst e
   rw[if_pos rfl,hX]at hi;exact .inr (a7 hi).symm
  ·rw[if_neg e]at hi
   exact .inl (aq hi)
 refine⟨⟨zY h.ok rfl (List.length_modify _ _ _) λi aj9 Y hZ hY=>?_,λY hY akh hC=>?_,h.M9⟩,λdr f m oA h1 hm=>?_⟩
 ·rw[tx]at hY
  by_cases e:k=i
  ·subst e
   rw[hX]at hZ;obtain rfl:=a7 hZ;rw[if_pos rfl,hX]at hY;obtain rfl:=a7 hY;exact PL h.ok hX hj
  ·rw[if_neg e,hZ]at hY
   obtain rfl:=a7 hY;exact BA.same h.ok hZ
 ·obtain⟨R,_,_,hf⟩:=oO (fN.2 h.ok) hX
  have h0:=h.tl X (aq hX);rcases agJ Y hY with hY|rfl
  ·exact h.tl Y hY akh hC
  ·have hC:akh∈eW X.blocks b t:=hC
   obtain⟨c,hc⟩:=bg hC;have e_:c<X.blocks.length:=by rw[<-fw X.blocks b t];exact(az.1 hc).1
   rw[jC (bM e_)]at hc;obtain rfl:=a7 hc;have hB:=h0 _ (aq (bM e_));have hT:=h0 _ (aq (bM hj.HR));refine⟨?_,λq hq v hv=>?_,λx hx=>?_⟩
   ·unfold qe
    split
    ·exact⟨by simp[px],by simp[px]⟩
    split
    ·exact hT.on
    ·exact hB.on
   ·rw[sR]at hq
    split at hq
    ·cases hq
    rename_i Ni;obtain⟨p,hp,rfl⟩:=aV.1 hq;exact hB.aD p hp v (Hm hf hj Ni e_ hp hv)
   ·unfold qe at hx
    split at hx
    ·cases hx
    split at hx
    ·rcases bA.1 hx with hx|hx
     ·exact hB.list x hx
     ·exact hT.list x hx
    ·exact hB.list x hx
 ·have e1:∀v:a8,jA v dr=⟨uj v.globals,dr,[],0,[],⟨(dh v.funcs).toNat,0,0,List.replicate (fQ v (dh v.funcs).toNat) 0,-1⟩,bump (v.funcs.map λX=>List.replicate X.blocks.length 0) (dh v.funcs).toNat 0⟩:=λ_=>rfl
  have Ks:(0:Nat)≠t:=λe=>by
   have e6:=mB.1 ((h.ok.body X (aq hX)).ends _ (aq (bM hj.blt)));have:=(e6.to t (by rw[hj.to];simp)).1;omega
  obtain⟨h2,i,j,h3,h4,h5,h6⟩:=Of (Tx h.fit h.ok hX hj) f (jA u dr) (jA (rE u k (eW X.blocks b t)) dr) m ⟨vR h.fit h.start oA,by
   rw[e1,e1,Qk,FQ];exact⟨rfl,rfl,rfl,.nil _ _,rfl,rfl,rfl,.inr ⟨λe=>Ks e.2,rfl,rfl⟩⟩⟩ h1 I
  refine⟨h2,?_⟩;have e2:(jA u dr).steps=0:=rfl;have e3:(jA (rE u k (eW X.blocks b t)) dr).steps=0:=rfl;unfold cJ;omega
def sq(bl:List E):Prop:=∀B∈bl,(B.kind=1∨B.kind=2∨B.kind=3)/\(B.to.length:Int)=B.kind-1
def iY(bl:List E)(b:Nat):Nat:=((aN bl b).to.getD 0 0).toNat
def jO(bl:List E)(b:Nat):Option Nat:=
 if (aN bl b).kind=2/\iY bl b≠b/\(aN bl (iY bl b)).aD=[]/\(aZ bl (iY bl b)).length<=1 then Z (iY bl b)else A
theorem kG{bl:List E}{b:Nat}(h:¬b<bl.length):aN bl b=px:=by unfold aN;rw[bO I];rfl
theorem G4{bl:List E}(hk:sq bl)(hg:cT bl){b:Nat}(h:(aN bl b).kind=2):b<bl.length/\(aN bl b).to=[((iY bl b:Nat):Int)]/\iY bl b<bl.length:=by
 have hb:b<bl.length:=Classical.byContradiction λhb=>by rw[kG hb]at h;simp[px]at h
 have h1:=(hk _ (aq (bM hb))).2;rw[h]at h1;have h3:=(hg _ (aq (bM hb))).2;unfold iY
 match ii:(aN bl b).to with
 |[]=>rw[ii]at h1;simp at h1
 |[t]=>
  have:=h3 t (by rw[ii];simp);refine⟨hb,?_,?_⟩
  ·simp only[List.getD_cons_zero]
   rw[Int.toNat_of_nonneg this.1]
  ·simp only[List.getD_cons_zero]
   omega
 |_::_::_=>rw[ii]at h1;simp at h1;omega
theorem lT{bl:List E}(hk:sq bl)(hg:cT bl){b t:Nat}:jO bl b=Z t↔iT bl b t:=by
 unfold jO;constructor
 ·intro h
  split at h
  ·rename_i h1
   obtain⟨h1,h2,h3,h4⟩:=h1;obtain⟨h5,h6,h7⟩:=G4 hk hg h1;obtain rfl:=a7 h;refine⟨h5,h7,h2,h1,h6,h3,?_⟩;have hm:b∈aZ bl (iY bl b):=cC.2 ⟨cM.2 h5,by simp only[decide_eq_true_eq];rw[ls h5,h6];simp⟩
   match hp:aZ bl (iY bl b)with
   |[]=>rw[hp]at hm;cases hm
   |[a]=>rw[hp]at hm;rw[bR.1 hm]
   |_::_::_=>rw[hp]at h4;simp at h4
  ·cases h
 ·intro h
  have e:iY bl b=t:=by unfold iY;rw[h.to];simp
  rw[e,if_pos ⟨h.kind,h.ne,h.none,by rw[h.one];simp⟩]
theorem PM{bl:List E}{b t:Nat}(hk:sq bl)(hj:iT bl b t):sq (eW bl b t):=λakh hC=>by
 obtain⟨c,hc⟩:=bg hC;have e_:c<bl.length:=by rw[<-fw bl b t];exact(az.1 hc).1
 rw[jC (bM e_)]at hc;obtain rfl:=a7 hc;have h1:=hk _ (aq (bM e_));have h2:=hk _ (aq (bM hj.HR));unfold qe
 split
 ·simp[px]
 split
 ·exact h2
 ·exact h1
def Lj(bl:List E):Nat:=((List.range bl.length).filter λc=>!(aZ bl c).isEmpty).length
theorem wg{bl:List E}{b t:Nat}(hj:iT bl b t):Lj (eW bl b t)+1=Lj bl:=by
 unfold Lj;rw[fw];have h1:(List.range bl.length).filter (λc=>!(aZ (eW bl b t) c).isEmpty)=((List.range bl.length).filter λc=>!(aZ bl c).isEmpty).erase t:=by
  rw[List.Nodup.erase_eq_filter (List.nodup_range.sublist nV),List.filter_filter];refine rV λc _=>?_;rw[ni hj]
  by_cases e:c=t
  ·subst e
   rw[UF hj];simp
  ·have h2:=DK hj e
   have h3:(lP bl b t c).isEmpty=(aZ bl c).isEmpty:=by
    cases h4:lP bl b t c with
    |nil=>rw[h4]at h2;cases h5:aZ bl c with
     |nil=>rfl
     |cons _ _=>rw[h5]at h2;simp at h2
    |cons _ _=>rw[h4]at h2;cases h5:aZ bl c with
     |nil=>rw[h5]at h2;simp at h2
     |cons _ _=>rfl
   rw[h3];simp[e]
 rw[h1];have hm:t∈(List.range bl.length).filter λc=>!(aZ bl c).isEmpty:=cC.2 ⟨cM.2 hj.HR,by rw[hj.one];rfl⟩;rw[List.length_erase_of_mem hm];have:=List.length_pos_of_mem hm;omega
def Gn:Nat->List E->Nat->List E
 |0,bl,_=>bl
 |f+1,bl,b=>match jO bl b with
  |some t=>Gn f (eW bl b t) b
  |none=>bl
theorem A9(f:Nat)(bl:List E)(b:Nat):Gn (f+1) bl b=match jO bl b with
  |some t=>Gn f (eW bl b t) b
  |none=>bl:=rfl
def lU(bl:List E)(b:Nat):List E:=Gn (Lj bl) bl b
def ki(bl:List E)(i:Nat):List E:=(List.range i).foldl lU bl
def fi(bl:List E):List E:=ki bl bl.length
theorem sw(bl:List E)(i:Nat):ki bl (i+1)=lU (ki bl i) i:=by unfold ki;rw[kU,pF];rfl
structure uQ(R:Nat)(bl:List E):Prop where
 ok:fu R bl
 kind:sq bl
theorem uQ.join{R:Nat}{bl:List E}{b t:Nat}(h:uQ R bl)(hj:iT bl b t):uQ R (eW bl b t):=⟨Jr h.ok hj,PM h.kind hj⟩
theorem yB{R:Nat}{bl:List E}{b t:Nat}(h:uQ R bl)(hc:jO bl b=Z t):lU bl b=lU (eW bl b t) b:=by
 have hj:=(lT h.kind h.ok.iM).1 hc;have h1:=wg hj;unfold lU;rw[<-h1];rw[A9,hc]
theorem kI{bl:List E}{b:Nat}(hc:jO bl b=A):lU bl b=bl:=by
 unfold lU;cases Lj bl with
 |zero=>rfl
 |succ n=>rw[A9,hc]
inductive mx:List E->List E->Prop
 |refl (a:List E):mx a a
 |head {a c:List E} {b t:Nat}:iT a b t->mx (eW a b t) c->mx a c
theorem mx.trans{a b c:List E}(h:mx a b)(k:mx b c):mx a c:=by
 induction h with
 |refl=>exact k
 |head h1 _ ih=>exact .head h1 (ih k)
theorem mx.inv{p:List E->Prop}(hp:∀a b t,iT a b t->p a->p (eW a b t)){a c:List E}(h:mx a c)(ha:p a):p c:=by
 induction h with
 |refl=>exact ha
 |head h1 _ ih=>exact ih (hp _ _ _ h1 ha)
theorem mx.ok{R:Nat}{a c:List E}(h:mx a c)(ha:uQ R a):uQ R c:=h.inv (λ_ _ _ hj h=>h.join hj) ha
theorem mx.len{a c:List E}(h:mx a c):c.length=a.length:=h.inv (p:=λx=>x.length=a.length) (λ_ _ _ _ h=>by rw[fw];exact h) rfl
theorem mx.many{a c:List E}(h:mx a c):eB c=eB a:=h.inv (p:=λx=>eB x=eB a) (λ_ _ _ hj h=>by rw[Aw hj];exact h) rfl
theorem EA{R:Nat}:∀(n:Nat) (bl:List E) (b:Nat),Lj bl=n->uQ R bl->mx bl (lU bl b)/\jO (lU bl b) b=A:=by
 intro n
 induction n with
 |zero=>
  intro bl b hn h;cases hc:jO bl b with
  |none=>rw[kI hc];exact⟨.refl _,hc⟩
  |some t=>
   have:=wg ((lT h.kind h.ok.iM).1 hc);omega
 |succ n ih=>
  intro bl b hn h;cases hc:jO bl b with
  |none=>rw[kI hc];exact⟨.refl _,hc⟩
  |some t=>
   have hj:=(lT h.kind h.ok.iM).1 hc;have h1:=wg hj;rw[yB h hc];obtain⟨h2,h3⟩:=ih (eW bl b t) b I (h.join hj);exact⟨.head hj h2,h3⟩
theorem KL{R:Nat}{bl:List E}{b t c:Nat}(h:uQ R bl)(hj:iT bl b t)(hc:jO bl c=A):jO (eW bl b t) c=A:=by
 cases hn:jO (eW bl b t) c with
 |none=>rfl
 |some d=>
  exfalso;have h2:=h.join hj;have hd:=(lT h2.kind h2.ok.iM).1 hn;have e_:c<bl.length:=by have:=hd.blt;rwa[fw]at this
  have Fl:d<bl.length:=by have:=hd.HR;rwa[fw]at this
  have Ni:c≠t:=λe=>by
   have:=hd.kind;rw[vB e_,e]at this;unfold qe at this;rw[if_pos rfl]at this;simp[px]at this
  have BY:c≠b:=λe=>by
   rw[e]at hc;have:=(lT h.kind h.ok.iM).2 hj;rw[hc]at this;cases this
  have hB:qe bl b t c (aN bl c)={aN bl c with aD:=(aN bl c).aD.map (HO bl b t c)}:=by
   unfold qe;rw[if_neg Ni,if_neg BY]
  have hk:=hd.kind;have ii:=hd.to;rw[vB e_,hB]at hk ii;simp only at hk ii;have hdt:d≠t:=λe=>by
   rw[e]at ii;exact BY (DF hj (by rw[ls e_,ii];simp))
  have oB:=hd.none;rw[vB Fl,sR,if_neg hdt,List.map_eq_nil_iff]at oB;have wO:=hd.one;rw[ni hj]at wO;have hlen:=DK hj hdt;rw[wO]at hlen;have:jO bl c=Z d:=(lT h.kind h.ok.iM).2 ⟨e_,Fl,hd.ne,hk,ii,oB,by
   have hm:c∈aZ bl d:=cC.2 ⟨cM.2 e_,by simp only[decide_eq_true_eq];rw[ls e_,ii];simp⟩
   match hp:aZ bl d with
   |[]=>rw[hp]at hm;cases hm
   |[a]=>rw[hp]at hm;rw[bR.1 hm]
   |_::_::_=>rw[hp]at hlen;simp at hlen⟩
  rw[hc]at this;cases this
theorem vf{R:Nat}{bl:List E}(h:uQ R bl):∀i,mx bl (ki bl i)/\∀c,c<i->jO (ki bl i) c=A:=by
 intro i
 induction i with
 |zero=>exact⟨.refl _,λc hc=>I⟩
 |succ i ih=>
  obtain⟨h1,h2⟩:=ih;have cY:=h1.ok h;obtain⟨h3,h4⟩:=EA _ (ki bl i) i rfl cY;rw[sw];refine⟨h1.trans h3,λc hc=>?_⟩
  by_cases e:c=i
  ·rw[e];exact h4
  ·have:uQ R (lU (ki bl i) i)/\jO (lU (ki bl i) i) c=A:=h3.inv (p:=λx=>uQ R x/\jO x c=A) (λa b t hj hp=>⟨hp.1.join hj,KL hp.1 hj hp.2⟩) ⟨cY,h2 c I⟩
   exact this.2
theorem w6{R:Nat}{bl:List E}(h:uQ R bl):mx bl (fi bl)/\∀c,jO (fi bl) c=A:=by
 obtain⟨h1,h2⟩:=vf h bl.length;refine⟨h1,λc=>?_⟩
 by_cases hc:c<bl.length
 ·exact h2 c hc
 ·unfold jO
  rw[if_neg];intro h3;have:=h3.1;unfold fi at this;rw[kG (by rw[h1.len];exact hc)]at this;simp[px]at this
theorem If{bl:List E}(h:∀c,jO bl c=A):fi bl=bl:=by
 have:∀i,ki bl i=bl:=λi=>by
  induction i with
  |zero=>rfl
  |succ i ih=>rw[sw,ih,kI (h i)]
 exact this _
theorem Js{a b:List E}(hc:mx a b):∀{u:a8} {k:Nat} {X:aY},Whole u->u.funcs[k]?=Z X->X.blocks=a->Whole (rE u k b)/\lC u (rE u k b):=by
 induction hc with
 |refl a=>
  intro u k X h hX e;have:rE u k a=u:=by
   unfold rE;congr 1;apply ci;intro j;rw[mM]
   by_cases ej:k=j
   ·subst ej
    rw[hX];simp only[if_true,Option.map_eq_map,bu];unfold sJ;rw[<-e]
   ·simp only[ej,if_false,id_map']
  rw[this];exact⟨h,.refl _⟩
 |@head a c b' t' h1 h2 ih=>
  intro u k X h hX e;subst e;obtain⟨h3,h4⟩:=LO h hX h1;have hX':(rE u k (eW X.blocks b' t')).funcs[k]?=Z (sJ X (eW X.blocks b' t')):=by rw[tx,if_pos rfl,hX];rfl
  obtain⟨h5,h6⟩:=ih h3 hX' rfl;have:rE (rE u k (eW X.blocks b' t')) k c=rE u k c:=by
   unfold rE;simp only;rw[L9]
   rfl
  rw[this]at h5 h6;exact⟨h5,h4.trans h6⟩
theorem G1{u v:a8}(h:Whole u)(hg:v.globals=u.globals)(hl:v.funcs.length=u.funcs.length)(hf:∀(k:Nat) X Y,u.funcs[k]?=Z X->v.funcs[k]?=Z Y->∃bl,Y=sJ X bl/\mx X.blocks bl):Whole v/\lC u v:=by
 have key:∀n,n<=u.funcs.length->Whole {u with funcs:=v.funcs.take n++u.funcs.drop n}/\lC u {u with funcs:=v.funcs.take n++u.funcs.drop n}:=by
  intro n
  induction n with
  |zero=>
   intro _;simp only[List.take_zero,aO,List.drop_zero];exact⟨h,.refl _⟩
  |succ n ih=>
   intro hn;obtain⟨h1,h2⟩:=ih I;have hX:u.funcs[n]?=Z u.funcs[n]:=a_ I;have hY:v.funcs[n]?=Z (v.funcs[n]'I):=a_ _;obtain⟨bl,gF,af3⟩:=hf n _ _ hX hY;have bS:(v.funcs.take n).length=n:=by rw[dd,hl];omega
   have hX2:(v.funcs.take n++u.funcs.drop n)[n]?=Z u.funcs[n]:=by
    rw[dC I,bS,dN,iV,ef];exact hX
   obtain⟨h3,h4⟩:=Js af3 (u:={u with funcs:=v.funcs.take n++u.funcs.drop n}) (k:=n) h1 hX2 rfl;have:rE {u with funcs:=v.funcs.take n++u.funcs.drop n} n bl={u with funcs:=v.funcs.take (n+1)++u.funcs.drop (n+1)}:=by
    unfold rE;simp only;congr 1;apply ci;intro j;rw[mM];rcases Nat.lt_trichotomy j n with hj|hj|hj
    ·simp only[show¬n=j by omega,if_false,id_map']
     rw[dY I,dY (by rw[dd,hl];omega),yw hj,yw I]
    ·subst hj
     rw[hX2,dY (by rw[dd,hl];omega),yw I,hY];simp only[if_true,Option.map_eq_map,bu];rw[<-gF]
    ·simp only[show¬n=j by omega,if_false,id_map']
     rw[dC I,dC (by rw[dd,hl];omega),bS,dd,hl,iq hn,iV,iV];congr 1;omega
   rw[this]at h3 h4;exact⟨h3,h2.trans h4⟩
 have:=key u.funcs.length (bG _);rw[kh (by rw[hl];exact bG _),iU,cD,<-hg]at this;exact this
def qY(bl:List E):Prop:=∀q,∀t∈db bl q,1<=t
def zU(bl:List E):Prop:=∀q,db bl q≠[]->gH bl (-1) 0 q
theorem iT.pos{bl:List E}{b t:Nat}(hj:iT bl b t)(hp:qY bl):t≠0:=by
 have:=hp b t (by rw[Cd hj];simp);omega
theorem UC{bl:List E}{b t:Nat}(hj:iT bl b t)(hp:qY bl):qY (eW bl b t):=λq x hx=>by
 rw[wE hj]at hx;unfold V1 at hx
 split at hx
 ·cases hx
 split at hx
 ·exact hp _ x hx
 ·exact hp _ x hx
theorem UK{bl:List E}{b t:Nat}(hj:iT bl b t)(hp:qY bl){q:Nat}(h:gH bl (-1) 0 q):gH (eW bl b t) (-1) 0 (if q=t then b else q):=by
 have h0:=hj.pos hp
 induction h with
 |refl=>rw[if_neg (λe=>h0 e.symm)];exact .refl
 |@step x y _ he hw ih=>
  have he:(y:Int)∈db bl x:=he
  by_cases hy:y=t
  ·subst hy
   have hx:=DF hj he;subst hx;rw[if_pos rfl];rw[if_neg (λe=>hj.ne e.symm)]at ih;exact ih
  ·rw[if_neg hy]
   refine ih.step ?_ hw;show(y:Int)∈db (eW bl b t) _;rw[wE hj];unfold V1
   by_cases hx:x=t
   ·rw[if_pos hx,if_neg (λe=>hj.ne e.symm),if_pos rfl,<-hx]
    exact he
   ·rw[if_neg hx,if_neg hx]
    by_cases hb:x=b
    ·rw[hb,Cd hj,bR]at he
     omega
    ·rw[if_neg hb];exact he
theorem OQ{bl:List E}{b t:Nat}(hj:iT bl b t)(hp:qY bl)(h:zU bl):zU (eW bl b t):=λq hq=>by
 rw[wE hj]at hq;unfold V1 at hq
 by_cases h1:q=t
 ·rw[if_pos h1]at hq;exact absurd rfl hq
 rw[if_neg h1]at hq;have h2:gH bl (-1) 0 q:=by
  by_cases hb:q=b
  ·exact h q (by rw[hb,Cd hj];simp)
  ·rw[if_neg hb]at hq
   exact h q hq
 have:=UK hj hp h2;rwa[if_neg h1]at this
theorem OR{bl:List E}(hg:cT bl)(h0:0<bl.length):zU (cV bl (bI bl)):=λq hq=>by
 have hk:=kt hg h0;obtain⟨hp,_⟩:=qU hg h0;have Lm:=td hg hk;have Lu:0<(cV bl (bI bl)).length:=by rw[d_];exact hp
 have Er:q<(cV bl (bI bl)).length:=Classical.byContradiction λhn=>hq (tE hn);refine((rC Lm Lu).mem q).1 ?_;rw[DG hg h0];rw[d_]at Er;exact cM.2 Er
theorem UD{bl:List E}{o:List Nat}(hg:cT bl)(hk:KB bl o)(hz:nth o 0=0)(hp:qY bl):qY (cV bl o):=λq t ht=>by
 have Er:q<o.length:=Classical.byContradiction λhn=>by
  rw[tE (by rw[d_];exact hn)]at ht;cases ht
 rw[tD hg hk (gm Er)]at ht;obtain⟨x,hx,rfl⟩:=aV.1 ht;have h1:=hp _ x hx;have h2:=oj (hk.closed _ (jv Er) x hx);have h3:o.idxOf x.toNat≠0:=λe=>by
  rw[e,hz]at h2;omega
 omega
theorem Ar{bl:List E}{o:List Nat}(hk:KB bl o)(h:sq bl):sq (cV bl o):=λakh hC=>by
 unfold cV at hC;obtain⟨b,hb,rfl⟩:=aV.1 hC;have:=h _ (aq (bM (hk.lt b hb)));unfold je;simp only[aF];exact this
theorem OX{R:Nat}{bl:List E}(h:uQ R bl)(h0:0<bl.length)(ha:zU bl)(hn:∀c,jO bl c=A):∀i,jO (cV bl (bI bl)) i=A:=λi=>by
 have hg:=h.ok.iM;have hk:=kt hg h0;have ho:=rC hg h0;cases hc:jO (cV bl (bI bl)) i with
 |none=>rfl
 |some j=>
  exfalso;have hj:=(lT (Ar hk h.kind) (td hg hk)).1 hc;have hi:i<(bI bl).length:=by have:=hj.blt;rwa[d_]at this
  have jw:j<(bI bl).length:=by have:=hj.HR;rwa[d_]at this
  have hbi:=hk.lt _ (jv hi);have hbj:=hk.lt _ (jv jw);have e1:aN (cV bl (bI bl)) i=je bl (bI bl) (nth (bI bl) i) (aN bl (nth (bI bl) i)):=jB (kr (gm hi));have e2:aN (cV bl (bI bl)) j=je bl (bI bl) (nth (bI bl) j) (aN bl (nth (bI bl) j)):=jB (kr (gm jw));have s5:=hj.kind;rw[e1]at s5;have s5:(aN bl (nth (bI bl) i)).kind=2:=s5;obtain⟨_,h4,h5⟩:=G4 h.kind hg s5;have ii:=hj.to;rw[e1]at ii;have ii:(aN bl (nth (bI bl) i)).to.map (λt=>(((bI bl).idxOf t.toNat:Nat):Int))=[(j:Int)]:=ii;rw[h4]at ii;simp only[bT,dn,dO,List.cons.injEq,and_true,Int.natCast_inj]at ii;have C8:iY bl (nth (bI bl) i)∈bI bl:=by
   have:=hk.closed _ (jv hi) ((iY bl (nth (bI bl) i):Nat):Int) (by rw[ls hbi,h4];simp);rwa[dO]at this
  have GS:iY bl (nth (bI bl) i)=nth (bI bl) j:=by rw[<-ii];exact(oj C8).symm
  rw[GS]at h4;have oB:=hj.none;rw[e2]at oB;have oB:(aN bl (nth (bI bl) j)).aD=[]:=List.map_eq_nil_iff.1 oB;have hJ:iT bl (nth (bI bl) i) (nth (bI bl) j):=by
   refine⟨hbi,hbj,λe=>hj.ne (uu hk.nodup jw hi e),s5,h4,oB,?_⟩;have cU:∀q∈aZ bl (nth (bI bl) j),q=nth (bI bl) i:=λq hq=>by
    have Ao:=(cC.1 hq).2;simp only[decide_eq_true_eq]at Ao;have EL:q∈bI bl:=(ho.mem q).2 (ha q (λe=>by rw[e]at Ao;cases Ao));have h6:(bI bl).idxOf q∈aZ (cV bl (bI bl)) j:=by
     rw[xU hg hk (gm jw),cC,cM,decide_eq_true_eq];exact⟨vz EL,by rw[oj EL];exact hq⟩
    rw[hj.one,bR]at h6;rw[<-h6,oj EL]
   have hm:nth (bI bl) i∈aZ bl (nth (bI bl) j):=cC.2 ⟨cM.2 hbi,by simp only[decide_eq_true_eq];rw[ls hbi,h4];simp⟩;have hl:=XH (jV bl _) cU
   match hp:aZ bl (nth (bI bl) j)with
   |[]=>rw[hp]at hm;cases hm
   |[a]=>rw[hp]at hm;rw[bR.1 hm]
   |_::_::_=>rw[hp]at hl;simp at hl
  have:=(lT h.kind hg).2 hJ;rw[hn]at this;cases this
theorem Ie(L:List Int)(bl:List E)(c:Nat):jO (bl.map (iQ L)) c=jO bl c:=by
 have hb:∀c,aN (bl.map (iQ L)) c=iQ L (aN bl c)∨(aN (bl.map (iQ L)) c=px/\aN bl c=px):=λc=>by
  by_cases h:c<bl.length
  ·exact .inl (jB (by rw[aJ,bM h];rfl))
  ·exact .inr ⟨kG (by rw[aF];exact h),kG h⟩
 have h1:∀c,(aN (bl.map (iQ L)) c).kind=(aN bl c).kind/\(aN (bl.map (iQ L)) c).to=(aN bl c).to/\((aN (bl.map (iQ L)) c).aD=[]↔(aN bl c).aD=[]):=λc=>by
  rcases hb c with h|⟨h,h2⟩
  ·rw[h]
   exact⟨rfl,rfl,List.map_eq_nil_iff⟩
  ·rw[h,h2]
   exact⟨rfl,rfl,Iff.rfl⟩
 have h2:iY (bl.map (iQ L)) c=iY bl c:=by unfold iY;rw[(h1 c).2.1]
 unfold jO;rw[h2,(h1 c).1,AH];have h3:=(h1 (iY bl c)).2.2
 by_cases h4:(aN bl (iY bl c)).aD=[]
 ·rw[h3.2 h4,h4]
 ·have h5:¬(aN (bl.map (iQ L)) (iY bl c)).aD=[]:=λh=>h4 (h3.1 h)
  simp only[h4,h5,false_and,and_false,if_false]
def cn(X:aY):aY:=en (sJ X (fi (c9 X)))
noncomputable def oL(u:a8):a8:={u with funcs:=u.funcs.map cn}
def NE(u:a8):a8:={u with funcs:=u.funcs.map λX=>sJ X (c9 X)}
def yC(u:a8):a8:={u with funcs:=u.funcs.map λX=>sJ X (fi X.blocks)}
theorem l5(u:a8)(k:Nat):(oL u).funcs[k]?=(u.funcs[k]?).map cn:=by unfold oL;simp only[aJ]
theorem Vn(u:a8):oL u=Dy (yC (NE u)):=by
 unfold oL Dy yC NE;simp only[dE]
 rfl
theorem jF.Vp{X:aY}{R:Nat}(h:jF X R):∀B∈X.blocks,∀x∈B.list,(x.a∈ff x∨x.a=iu)/\(x.b∈ff x∨x.b=iu)/\∀v∈x.args,v∈ff x:=λB hB x hx=>by
 obtain⟨fs,h1⟩:=h.QW B hB x hx;obtain⟨h2,h3,h4,_⟩:=qW h1;refine⟨h2,h3,λv hv=>?_⟩;obtain⟨b,hb⟩:=bg hB
 by_cases vu:x.op=20
 ·rw[<-h4 vu];exact hv
 ·rw[((h.ok.block b B hb).list x hx).args vu]at hv
  cases hv
theorem FC:∀X R,jF X R->V9 X (sJ X (c9 X)) (bI X.blocks) (eO X.aB.toNat)/\(eO X.aB.toNat).length<=R/\(sJ X (c9 X)).name=X.name/\(sJ X (c9 X)).params=X.params:=λX R h=>by
 have hk:=kt h.ok.iM h.pos;have hfk:=lL h.ok hk;have lZ:=h.aB;have o_:=h.par;have oA:∀B∈cV X.blocks (bI X.blocks),∀r,r∈nj B∨r∈qi B->r∈eO X.aB.toNat:=λB hB r hr=>by
  have:=qV hfk hB hr;exact jm.2 I
 refine⟨⟨hk,qU h.ok.iM h.pos,?_,?_,?_,oA,λr hr=>?_⟩,by rw[mH];omega,rfl,rfl⟩
 ·show c9 X=(cV X.blocks (bI X.blocks)).map _
  conv=>lhs;unfold c9;rw[<-ll (cV X.blocks (bI X.blocks))]
  refine dD λB hB=>(DM (oA B hB) ?_).symm;unfold cV at hB;obtain⟨b,hb,rfl⟩:=aV.1 hB;show∀x∈(aN X.blocks b).list,_;exact h.Vp _ (aq (bM (hk.lt b hb)))
 ·show X.aB=_
  rw[mH];omega
 ·have:∀m n,m<=n->eO m<+:eO n:=λm n hmn=>by
   unfold eO;obtain⟨d,rfl⟩:∃d,n=m+d:=⟨n-m,I⟩;rw[List.range_add,bz];exact List.prefix_append _ _
  exact this _ _ I
 ·have:=jm.1 hr
  omega
theorem Az{u v:a8}{o:Nat->List Nat}{L:Nat->List Int}(hu:Whole u)(hn:NmU u v o L):lC u v:=λdr f m oA h1 hm=>by
 obtain⟨h2,h3⟩:=XV hu hn dr oA f;have h4:cJ v dr m=cJ v dr f:=zt v f m _ (by have:=h2.state;unfold cJ at this h1;rw[this];exact h1) hm;rw[h4];exact⟨h2,I⟩
theorem BU{u:a8}(hc:jE u){k:Nat}{X:aY}(hX:u.funcs[k]?=Z X):sq X.blocks/\qY X.blocks:=by
 have hb:=(BA.same hc hX).body;refine⟨λB hB=>?_,λq t ht=>?_⟩
 ·have h:=mB.1 (hb.ends B hB)
  exact⟨by have:=h.kind;omega,h.len⟩
 ·unfold db at ht
  split at ht
  ·rename_i B hB
   exact((mB.1 (hb.ends B (aq hB))).to t ht).1
  ·cases ht
theorem EB{u:a8}(hu:Whole u):Whole (yC u)/\lC u (yC u):=
 G1 hu rfl (aF _) λk X Y hX hY=>by
  unfold yC at hY;simp only[aJ,hX,bu]at hY;obtain⟨R,h⟩:=vl hu.ok hX;exact⟨_,(a7 hY).symm,(w6 ⟨h.ok,(BU hu.ok hX).1⟩).1⟩
theorem Ju{u:a8}(hu:Whole u):Whole (NE u)/\lC u (NE u):=
 ⟨JJ hu (λX=>sJ X (c9 X)) _ _ FC,Az hu (He hu.ok (λX=>sJ X (c9 X)) _ _ FC)⟩
theorem kB{u:a8}(hu:Whole u):Whole (oL u)/\lC u (oL u):=by
 obtain⟨h1,h2⟩:=Ju hu;obtain⟨h3,h4⟩:=EB h1;rw[Vn];exact⟨zg h3,(h2.trans h4).trans (Az h3 (He h3.ok en _ _ xR))⟩
structure vT(X:aY)(R:Nat):Prop where
 mid:jF (sJ X (fi (c9 X))) R
 bl:uQ R (fi (c9 X))
 none:∀c,jO (fi (c9 X)) c=A
 all:zU (fi (c9 X))
 len:(fi (c9 X)).length<=X.blocks.length
 many:eB (fi (c9 X))<=eB X.blocks
theorem LP{Q:dJ->Prop}{a c:List E}(h:mx a c)(ha:∀B∈a,∀x∈B.list,Q x):∀B∈c,∀x∈B.list,Q x:=
 h.inv (p:=λl=>∀B∈l,∀x∈B.list,Q x) (λl b t hj hl akh hC x hx=>by
  obtain⟨y,hy⟩:=bg hC;have Dm:y<l.length:=by rw[<-fw l b t];exact(az.1 hy).1
  rw[jC (bM Dm)]at hy;obtain rfl:=a7 hy;unfold qe at hx
  split at hx
  ·cases hx
  split at hx
  ·rcases bA.1 hx with hx|hx
   ·exact hl _ (aq (bM Dm)) x hx
   ·exact hl _ (aq (bM hj.HR)) x hx
  ·exact hl _ (aq (bM Dm)) x hx) ha
theorem PP{Q:dJ->Prop}{l:List E}{o:List Nat}(hk:KB l o)(ha:∀B∈l,∀x∈B.list,Q x):∀B∈cV l o,∀x∈B.list,Q x:=λB hB x hx=>by
 unfold cV at hB;obtain⟨b,hb,rfl⟩:=aV.1 hB;exact ha _ (aq (bM (hk.lt b hb))) x hx
theorem zG{u:a8}(hc:jE u){k:Nat}{X:aY}(hX:u.funcs[k]?=Z X):∃R,jF X R/\vT X R:=by
 obtain⟨R,h⟩:=vl hc hX;have hk:=kt h.ok.iM h.pos;obtain⟨HN,PD⟩:=qU h.ok.iM h.pos;obtain⟨GL,xH⟩:=BU hc hX;have aaM:uQ R (c9 X):=⟨lL h.ok hk,Ar hk GL⟩;obtain⟨hj,hn⟩:=w6 aaM;refine⟨R,h,⟨h.aB,h.le,(hj.ok aaM).ok,?_,h.par,?_⟩,hj.ok aaM,hn,?_,?_,?_⟩
 ·show 0<(fi (c9 X)).length
  rw[hj.len];unfold c9;rw[d_];exact HN
 ·exact LP hj (PP hk h.QW)
 ·exact(hj.inv (p:=λx=>qY x/\zU x) (λa b t hj hp=>⟨UC hj hp.1,OQ hj hp.1 hp.2⟩) ⟨UD h.ok.iM hk PD xH,OR h.ok.iM h.pos⟩).2
 ·rw[hj.len]
  unfold c9;rw[d_];exact vC hk
 ·rw[hj.many]
  exact qH hk
theorem QS{X:aY}{R:Nat}(h:vT X R):∀c,jO (cn X).blocks c=A:=λc=>by
 show jO ((cV (fi (c9 X)) (bI (fi (c9 X)))).map _) c=A;rw[Ie];exact OX h.bl h.mid.pos h.all h.none c
theorem x_{X:aY}{R:Nat}(h:vT X R):bI (cn X).blocks=List.range (cn X).blocks.length:=vI h.mid
theorem QT{X:aY}{R:Nat}(h:jF X R)(ht:vT X R):(cn X).blocks.length<=X.blocks.length/\eB (cn X).blocks<=eB X.blocks/\(cn X).aB<=X.aB:=by
 have hk:=kt ht.mid.ok.iM ht.mid.pos;have h1:(cn X).blocks=(cV (fi (c9 X)) (bI (fi (c9 X)))).map (iQ (gi X.params.toNat (c9 (sJ X (fi (c9 X)))))):=rfl;refine⟨?_,?_,?_⟩
 ·rw[h1,aF,d_]
  have h2:=vC hk;have h3:=ht.len;have h4:(sJ X (fi (c9 X))).blocks.length=(fi (c9 X)).length:=rfl;have h5:(bI (sJ X (fi (c9 X))).blocks).length=(bI (fi (c9 X))).length:=rfl;omega
 ·rw[h1,Jz]
  exact du (qH hk) ht.many
 ·have:=Dz ht.mid
  have h2:=h.aB;show((gi X.params.toNat (c9 (sJ X (fi (c9 X))))).length:Int)<=X.aB;have h3:(sJ X (fi (c9 X))).params=X.params:=rfl;rw[h3]at this;omega
theorem QU{X:aY}{R:Nat}(h:jF X R)(ho:bI X.blocks=List.range X.blocks.length)(hm:gi X.params.toNat X.blocks=eO X.aB.toNat)(hc:∀c,jO X.blocks c=A):cn X=X:=by
 have h1:c9 X=X.blocks:=by unfold c9;rw[ho];exact y8 h.ok
 have h2:fi X.blocks=X.blocks:=If hc;have lZ:=h.aB;unfold cn;rw[h1,h2];show en X=X;unfold en;rw[h1,hm];have h3:X.blocks.map (iQ (eO X.aB.toNat))=X.blocks:=by
  conv=>rhs;rw[<-ll X.blocks]
  refine dD λB hB=>DM (λr hr=>?_) (h.Vp B hB);have:=qV h.ok hB hr;exact jm.2 I
 rw[h3,mH,Int.toNat_of_nonneg I]
end
end Go.Proofs.YthfhgolkafpmnaaGreatDoor
