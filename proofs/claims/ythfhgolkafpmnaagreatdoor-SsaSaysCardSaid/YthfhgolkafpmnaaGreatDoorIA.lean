/- Lemmas. -/
import Derived.Test.YthfhgolkafpmnaaGreatDoorHN
namespace Go.Proofs.YthfhgolkafpmnaaGreatDoor
open Option renaming some->O,none->U
open List renaming replicate->aI,range->bj
open Go Go.RowKit
variable {f g:sD} {d r:Int} {B:aq} {X cP:bZ} {x:iA} {p:gD} {u:dk} {v:cI} {L l m rs s ss:List Int} {bl rW:List aq} {fs:List bZ} {o:List Nat} {P R R' b i j k n params t:Nat} {π:Nat->Nat} {α:Type}
section
def sj:aq:=⟨[],[],1,⟨false,0⟩,[]⟩
def bi(bl:List aq)(b:Nat):aq:=bl[b]?.getD sj
def ft(bl:List aq)(o:List Nat)(b:Nat)(p:gD):gD:=⟨p.dst,(o.filter λq=>decide (q∈be bl b)).map (gi bl b p)⟩
def iP(bl:List aq)(o:List Nat)(b:Nat)(B:aq):aq:={B with bg:=B.bg.map (ft bl o b),to:=B.to.map λt=>((o.idxOf t.toNat:Nat):Int)}
def cG(bl:List aq)(o:List Nat):List aq:=o.map λb=>iP bl o b (bi bl b)
structure F8(bl:List aq)(o:List Nat):Prop where
 nodup:o.Nodup
 lt:∀b∈o,b<bl.length
 closed:∀b∈o,∀t∈dY bl b,t.toNat∈o
def nth(o:List Nat)(i:Nat):Nat:=o[i]?.getD 0
theorem lx(h:o[i]?=O b):nth o i=b:=by unfold nth;rw[h];rfl
theorem gR(h:i<o.length):o[i]?=O (nth o i):=by unfold nth;rw[bL h];rfl
theorem jd(h:i<o.length):nth o i∈o:=aA (gR h)
theorem oM(h:b∈o):o.idxOf b<o.length:=ll h
theorem lH(h:b∈o):nth o (o.idxOf b)=b:=by
 unfold nth;rw[bL (oM h),nw]
 rfl
theorem mG(hn:o.Nodup)(hi:i<o.length)(hj:j<o.length)(h:nth o i=nth o j):i=j:=by
 unfold nth at h;rw[bL hi,bL hj]at h;exact(List.getElem_inj hn).1 h
theorem mD(hn:o.Nodup)(hi:i<o.length):o.idxOf (nth o i)=i:=
 mG hn (oM (jd hi)) hi (lH (jd hi))
theorem DW(o:List Nat):(bj o.length).map (nth o)=o:=by
 apply cY;intro i;rw[aW]
 by_cases h:i<o.length
 ·rw[gq h,b_,<-gR h]
 ·rw[cm dr,cm A];rfl
theorem dX(bl:List aq)(o:List Nat):(cG bl o).length=o.length:=by simp[cG]
theorem gG(h:bl[b]?=O B):bi bl b=B:=by unfold bi;rw[h];rfl
theorem ck(h:b<bl.length):bl[b]?=O (bi bl b):=by unfold bi;rw[bL h];rfl
theorem mj(h:o[i]?=O b):(cG bl o)[i]?=O (iP bl o b (bi bl b)):=by
 unfold cG;rw[aW,h]
 rfl
theorem kT(h:b<bl.length):dY bl b=(bi bl b).to:=by
 unfold dY;rw[ck h]
section
variable {bl:List aq} {o:List Nat} (hg:dK bl) (hk:F8 bl o)
include hg hk
theorem sL(h:o[i]?=O b):dY (cG bl o) i=(dY bl b).map λt=>((o.idxOf t.toNat:Nat):Int):=by
 have _:=hg;rw[kT (hk.lt b (aA h))];unfold dY;rw[mj h]
 rfl
theorem vp:dK (cG bl o):=λC hC=>by
 obtain⟨i,hi⟩:=bR hC;have iM:i<o.length:=by rw[<-dX bl o];exact(aJ.1 hi).1
 have lG:=sL hg hk (gR iM);have h1:dY (cG bl o) i=C.to:=by unfold dY;rw[hi]
 rw[h1]at lG;rw[lG,dX];have hb:=hk.lt _ (jd iM);refine⟨by rw[aG,kT hb];exact(hg _ (aA (ck hb))).1,λt ht=>?_⟩;obtain⟨x,hx,rfl⟩:=aT.1 ht;have:=oM (hk.closed _ (jd iM) x hx);omega
theorem VW(hi:o[i]?=O b)(hj:o[j]?=O t):(j:Int)∈dY (cG bl o) i↔(t:Int)∈dY bl b:=by
 have Pb:=aA hi;have iS:=(aJ.1 hj).1;rw[sL hg hk hi,aT];constructor
 ·rintro⟨x,hx,e⟩
  have h1:=mz hg hx;have h2:=lH (hk.closed b Pb x hx);rw[show o.idxOf x.toNat=j by omega,lx hj]at h2;rw[show(t:Int)=x by omega];exact hx
 ·intro h
  refine⟨t,h,?_⟩;rw[fR];have:=mD hk.nodup iS;rw[lx hj]at this;rw[this]
theorem tx(hj:o[j]?=O t):be (cG bl o) j=(bj o.length).filter λi=>decide (nth o i∈be bl t):=by
 unfold be;rw[dX];refine lV λi hi=>?_;have iM:=cW.1 hi;rw[kq,VW hg hk (gR iM) hj,cR,cW,dv];exact⟨λh=>⟨hk.lt _ (jd iM),h⟩,λh=>h.2⟩
theorem Fj(hj:o[j]?=O t):(be (cG bl o) j).map (nth o)=o.filter λq=>decide (q∈be bl t):=by
 rw[tx hg hk hj];have h:=DW o;have h2:((bj o.length).map (nth o)).filter (λq=>decide (q∈be bl t))=((bj o.length).filter λi=>decide (nth o i∈be bl t)).map (nth o):=by rw[List.filter_map];rfl
 rw[<-h2,h]
theorem ue(hj:o[j]?=O t)(p:gD):(ft bl o t p).src=(be (cG bl o) j).map λi=>gi bl t p (nth o i):=by
 unfold ft;rw[<-Fj hg hk hj,dM]
 rfl
theorem z_(hj:o[j]?=O t)(hi:i∈be (cG bl o) j)(p:gD):gi (cG bl o) j (ft bl o t p) i=gi bl t p (nth o i):=by
 unfold gi;rw[ue hg hk hj,fF,aW,bL (ll hi),nw]
 rfl
omit hk in
theorem Aa(hk:F8 bl o)(tP:∀(b:Nat) B,bl[b]?=O B->B.to.Nodup):∀(i:Nat) C,(cG bl o)[i]?=O C->C.to.Nodup:=λi C hC=>by
 have iM:i<o.length:=by rw[<-dX bl o];exact(aJ.1 hC).1
 have hb:=hk.lt _ (jd iM);have lG:=sL hg hk (gR iM);have h1:dY (cG bl o) i=C.to:=by unfold dY;rw[hC]
 rw[<-h1,lG];refine mU (by rw[kT hb];exact tP _ _ (ck hb)) λx hx y hy e=>?_;have NL:=mz hg hx;have DC:=mz hg hy;have Mv:=lH (hk.closed _ (jd iM) x hx);have EV:=lH (hk.closed _ (jd iM) y hy);rw[show o.idxOf x.toNat=o.idxOf y.toNat by omega]at Mv;omega
end
theorem jx(hf:eW R bl)(hk:F8 bl o):eW R (cG bl o):=by
 have hg:=hf.iD;refine⟨vp hg hk,λi C hC=>?_⟩;have iM:i<o.length:=by rw[<-dX bl o];exact(aJ.1 hC).1
 have tP:=Aa hg hk (λb B hB=>(hf.block b B hB).to) i C hC;have hb:=hk.lt _ (jd iM);have hB:=hf.block _ _ (ck hb);rw[mj (gR iM)]at hC;obtain rfl:=bJ hC;refine⟨λp' wT=>?_,hB.list,hB.on,tP⟩;unfold iP at wT;simp only at wT;obtain⟨p,hp,rfl⟩:=aT.1 wT;have Cx:=hB.bg p hp;refine⟨Cx.dst,by rw[ue hg hk (gR iM),aG],λv hv=>?_⟩;unfold ft at hv;simp only at hv;obtain⟨x,hx,rfl⟩:=aT.1 hv;have h2:=(cR.1 hx).2;exact Cx.tT _ (vF (R:=R) Cx.len (aD h2))
theorem Rk{o':List Nat}(hf:eW R bl)(hk:F8 bl o)(G6:F8 (cG bl o) o'):cG (cG bl o) o'=cG bl (o'.map (nth o)):=by
 have hg:=hf.iD;have ce:∀i∈o',i<o.length:=λi hi=>by have:=G6.lt i hi;rwa[dX]at this
 unfold cG;rw[dM];refine ew λi hi=>?_;have iM:=ce i hi;have hb:=hk.lt _ (jd iM);have e1:bi (o.map λb=>iP bl o b (bi bl b)) i=iP bl o (nth o i) (bi bl (nth o i)):=gG (mj (gR iM));rw[e1];show iP (cG bl o) o' i (iP bl o (nth o i) (bi bl (nth o i)))=iP bl (o'.map (nth o)) (nth o i) (bi bl (nth o i));have aaK:∀q∈o',(decide (q∈be (cG bl o) i))=decide (nth o q∈be bl (nth o i)):=λq hq=>by
  rw[kq,tx hg hk (gR iM),cR,cW,dv];exact⟨λh=>h.2,λh=>⟨ce q hq,h⟩⟩
 unfold iP;simp only[dM];congr 1
 ·refine ew λp _=>?_
  simp only[Function.comp_apply];unfold ft;simp only[gD.mk.injEq,true_and];rw[List.filter_map,dM];have e2:(o'.filter λq=>decide (q∈be (cG bl o) i))=o'.filter ((λq=>decide (q∈be bl (nth o i)))∘nth o):=lV λq hq=>aaK q hq;rw[e2];refine ew λq hq=>?_;have hq1:=cR.1 hq;have uw:q∈be (cG bl o) i:=by
   have:=aaK q hq1.1;rw[show decide (nth o q∈be bl (nth o i))=true from hq1.2]at this;simpa using this
  exact z_ hg hk (gR iM) uw p
 ·refine ew λt ht=>?_
  simp only[Function.comp_apply];rw[fR];have ht1:t∈dY bl (nth o i):=by rw[kT hb];exact ht
  have XC:=hk.closed _ (jd iM) t ht1;have ht3:o.idxOf t.toNat∈o':=by
   have:=G6.closed i hi ((o.idxOf t.toNat:Nat):Int) (by rw[sL hg hk (gR iM)];exact aT.2 ⟨t,ht1,rfl⟩);rwa[fR]at this
  have hn2:(o'.map (nth o)).Nodup:=mU G6.nodup λx hx y hy e=>mG hk.nodup (ce x hx) (ce y hy) e;have e3:nth (o'.map (nth o)) (o'.idxOf (o.idxOf t.toNat))=t.toNat:=by
   unfold nth;rw[aW,bL (oM ht3),nw];simp only[b_,gw];exact lH XC
  have e4:=mD hn2 (i:=o'.idxOf (o.idxOf t.toNat)) (by rw[aG];exact oM ht3);rw[e3]at e4;rw[e4]
theorem VC(hf:eW R bl):cG bl (bj bl.length)=bl:=by
 have hg:=hf.iD;unfold cG;apply cY;intro i
 by_cases hi:i<bl.length
 ·rw[aW,gq hi,b_,ck hi]
  have hB:=hf.block _ _ (ck hi);congr 1;have IH:∀t:Nat,t<bl.length->(bj bl.length).idxOf t=t:=λt ht=>by
   have:=mD (o:=bj bl.length) tX (i:=t) (aD ht);rwa[lx (gq ht)]at this
  unfold iP;have e1:(bi bl i).bg.map (ft bl (bj bl.length) i)=(bi bl i).bg:=by
   conv=>rhs;rw[<-pF (bi bl i).bg]
   refine ew λp hp=>?_;unfold ft;have e2:(bj bl.length).filter (λq=>decide (q∈be bl i))=be bl i:=by
    unfold be;refine lV λq hq=>?_;rw[kq,cR,dv];exact⟨λh=>h.2,λh=>⟨hq,h⟩⟩
   rw[e2,Sh (hB.bg p hp).len]
   rfl
  have e3:(bi bl i).to.map (λt=>(((bj bl.length).idxOf t.toNat:Nat):Int))=(bi bl i).to:=by
   conv=>rhs;rw[<-pF (bi bl i).to]
   refine ew λt ht=>?_;have:=mz hg (b:=i) (t:=t) (by rw[kT hi];exact ht);rw[IH t.toNat A];simp only[id];omega
  rw[e1,e3]
 ·rw[cm dr,cm A]
structure aa7(bl rW:List aq)(π:Nat->Nat):Prop where
 lt:∀i,i<rW.length->π i<bl.length
 inj:∀i j,i<rW.length->j<rW.length->π i=π j->i=j
 to:∀i,i<rW.length->((dY rW i).map Int.toNat).map π=(dY bl (π i)).map Int.toNat
 iD:dK rW
structure Qr(bl rW:List aq)(π:Nat->Nat)(st JC:List Bool×List Nat):Prop where
 len:st.1.length=bl.length
 acW:JC.1.length=rW.length
 seen:∀i,i<rW.length->JC.1[i]?=st.1[π i]?
 left:st.2=JC.2.map π
theorem X9(h:aa7 bl rW π):∀(f f' b:Nat) (st JC:List Bool×List Nat),Qr bl rW π st JC->b<rW.length->JC.1[b]?=O false->ir st.1<=f->ir JC.1<=f'->Qr bl rW π (rI bl f (π b) st) (rI rW f' b JC):=by
 intro f
 induction f with
 |zero=>
  intro f' b st JC hr hb hs hu hu';have:=qQ (l:=st.1) (t:=π b) (by rw[<-hr.seen b hb];exact hs);omega
 |succ f ih=>
  intro f' b st JC hr hb hs hu hu';have NG:st.1[π b]?=O false:=by rw[<-hr.seen b hb];exact hs
  obtain⟨f',rfl⟩:∃k,f'=k+1:=⟨f'-1,by have:=qQ hs;omega⟩;have h1:=oR hs;have h2:=oR NG;rw[mP,mP];have key:∀(l:List Nat) (s s':List Bool×List Nat),(∀t∈l,t<rW.length)->Qr bl rW π s s'->ir s.1<=f->ir s'.1<=f'->Qr bl rW π ((l.map π).foldl (ik bl f) s) (l.foldl (ik rW f') s'):=by
   intro l
   induction l with
   |nil=>exact λs s' _ hs _ _=>hs
   |cons t l ihl=>
    intro s s' hl hs hu hu';have ht:=hl t cK;rw[cf,jZ,jZ];have mC:Qr bl rW π (ik bl f s (π t)) (ik rW f' s' t):=by
     have nW:=hs.seen t ht;unfold ik;rw[<-nW]
     by_cases e:s'.1[t]?.getD true=true
     ·rw[al e,al e];exact hs
     ·rw[ai e,ai e]
      exact ih f' t s s' hs ht (zN (aD e)) hu hu'
    have g1:=(jP bl f s [π t]).2.2.1;have g2:=(jP rW f' s' [t]).2.2.1;simp only[jZ,List.foldl_nil]at g1 g2;exact ihl _ _ (λx hx=>hl x (by simp[hx])) mC A A
  have e1:(dY bl (π b)).reverse.map Int.toNat=((dY rW b).reverse.map Int.toNat).map π:=by
   rw[List.map_reverse,List.map_reverse,List.map_reverse,<-h.to b hb]
  rw[e1];have hk:=key ((dY rW b).reverse.map Int.toNat) (st.1.set (π b) true,st.2) (JC.1.set b true,JC.2) (λt ht=>?_) ⟨by simp[hr.len],by simp[hr.acW],λi hi=>?_,hr.left⟩ bB bB
  ·exact⟨hk.len,hk.acW,hk.seen,by simp only[bz,cf,dm,hk.left]⟩
  ·obtain⟨z,hz,rfl⟩:=aT.1 ht
   have hz:=List.mem_reverse.1 hz;have:=mz h.iD hz;omega
  ·simp only[fN]
   by_cases e:b=i
   ·subst e
    rw[al rfl,al rfl,al (by rw[hr.acW];exact hi),al (by rw[hr.len];exact h.lt _ hi)]
   ·rw[ai e,ai (λe2=>e (h.inj b i hb hi e2))]
    exact hr.seen i hi
theorem Wv(h:aa7 bl rW π)(h0:0<rW.length)(hz:π 0=0):ek bl=(ek rW).map π:=by
 have wH:=h.lt 0 h0;have hr:Qr bl rW π (aI bl.length false,[]) (aI rW.length false,[]):=⟨by simp,by simp,λi hi=>by
  have:=h.lt i hi;simp only;rw[ku,ku,al hi,al this],rfl⟩
 have:=X9 h bl.length rW.length 0 _ _ hr h0 (by simp[h0]) (by simp only[me];omega) (by simp only[me];omega);rw[hz]at this;exact this.left
theorem Rl(hg:dK bl)(hk:F8 bl o):aa7 bl (cG bl o) (nth o):=by
 refine⟨λi hi=>hk.lt _ (jd (by rwa[dX]at hi)),λi j hi hj e=>mG hk.nodup (by rwa[dX]at hi) (by rwa[dX]at hj) e,λi hi=>?_,vp hg hk⟩;have iM:i<o.length:=by rwa[dX]at hi
 rw[sL hg hk (gR iM),dM,dM];refine ew λt ht=>?_;simp only[Function.comp_apply,fR];exact lH (hk.closed _ (jd iM) t ht)
theorem i_(hg:dK bl)(h0:0<bl.length):F8 bl (cQ bl):=by
 have ho:=wq hg h0;refine⟨ho.nodup,λb hb=>hg.BG h0 ((ho.mem b).1 hb),λb hb t ht=>(ho.mem _).2 ?_⟩;have:=mz hg ht;exact .step ((ho.mem b).1 hb) (by unfold Edge;rw[show((t.toNat:Nat):Int)=t by omega];exact ht) A
theorem qK(hg:dK bl)(h0:0<bl.length):0<(cQ bl).length/\nth (cQ bl) 0=0:=by
 have ho:=wq hg h0;exact⟨(aJ.1 ho.zero).1,lx ho.zero⟩
theorem Fb(hg:dK bl)(hk:F8 bl o)(h0:0<o.length)(hz:nth o 0=0):cQ bl=(cQ (cG bl o)).map (nth o):=by
 have h:=Wv (Rl hg hk) (by rw[dX];exact h0) hz;unfold cQ;rw[h,List.map_reverse]
theorem Fc(hg:dK bl)(h0:0<bl.length):cQ (cG bl (cQ bl))=bj (cQ bl).length:=by
 have hk:=i_ hg h0;obtain⟨hp,hz⟩:=qK hg h0;have h1:=Fb hg hk hp hz;have hg2:=vp hg hk;have Ps:0<(cG bl (cQ bl)).length:=by rw[dX];exact hp
 have ce:=(i_ hg2 Ps).lt;have hl:(cQ (cG bl (cQ bl))).length=(cQ bl).length:=by
  have:=bD List.length h1;rw[aG]at this;exact this.symm
 apply cY;intro i
 by_cases hi:i<(cQ bl).length
 ·rw[gq hi,gR (by rw[hl];exact hi)]
  congr 1;have h2:nth (cQ bl) i=nth ((cQ (cG bl (cQ bl))).map (nth (cQ bl))) i:=bD (λl=>nth l i) h1;rw[show nth ((cQ (cG bl (cQ bl))).map (nth (cQ bl))) i=nth (cQ bl) (nth (cQ (cG bl (cQ bl))) i) by
   rw[lx (o:=(cQ (cG bl (cQ bl))).map (nth (cQ bl)))];rw[aW,gR (by rw[hl];exact hi)];rfl]at h2
  have h3:=ce _ (jd (show i<(cQ (cG bl (cQ bl))).length by rw[hl];exact hi));rw[dX]at h3;exact(mG hk.nodup hi h3 h2).symm
 ·rw[cm (by rw[hl];omega),cm dr]
theorem NX(hf:eW R bl)(hk:F8 bl o)(h0:0<o.length)(hz:nth o 0=0):cG (cG bl o) (cQ (cG bl o))=cG bl (cQ bl):=by
 have hg:=hf.iD;have hg2:=vp hg hk;rw[Rk hf hk (i_ hg2 (by rw[dX];exact h0)),<-Fb hg hk h0 hz]
def iK(l:List Int)(r:Int):List Int:=if r∈l then l else l++[r]
def meets(l s:List Int):List Int:=s.foldl iK l
def Ah(s:List Int):List Int:=meets [] s
theorem fz(l s t:List Int):meets l (s++t)=meets (meets l s) t:=qT
theorem sJ(l:List Int):meets l []=l:=rfl
theorem tj(l:List Int)(r:Int)(t:List Int):meets l (r::t)=meets (iK l r) t:=rfl
theorem Wj(s t:List Int):Ah (s++t)=meets (Ah s) t:=fz _ _ _
theorem tk{x:Int}:x∈iK l r↔x∈l\/x=r:=by
 unfold iK
 split
 ·rename_i h
  exact⟨.inl,λh2=>h2.elim id λe=>e▸h⟩
 ·rw[bO,bQ]
theorem vw:∀{l:List Int} {x:Int},x∈meets l s↔x∈l\/x∈s:=by
 induction s with
 |nil=>intro l x;rw[sJ];simp
 |cons a s ih=>
  intro l x;rw[tj,ih,tk,bX,or_assoc]
theorem vx{x:Int}:x∈Ah s↔x∈s:=by unfold Ah;rw[vw];simp
theorem N7(h:l.Nodup):(iK l r).Nodup:=by
 unfold iK
 split
 ·exact h
 ·rename_i hr
  exact nA.2 ⟨h,by simp,λa ha b hb e=>hr (by rw[bQ]at hb;rw[<-hb,<-e];exact ha)⟩
theorem Dd:∀{l:List Int},l.Nodup->(meets l s).Nodup:=by
 induction s with
 |nil=>intro l h;exact h
 |cons a s ih=>intro l h;exact ih (N7 h)
theorem Of(s:List Int):(Ah s).Nodup:=Dd List.nodup_nil
theorem Lh(l:List Int)(r:Int):l<+:iK l r:=by
 unfold iK
 split
 ·exact List.prefix_refl l
 ·exact List.prefix_append _ _
theorem yF(s:List Int):∀l:List Int,l<+:meets l s:=by
 induction s with
 |nil=>exact λl=>List.prefix_refl l
 |cons a s ih=>exact λl=>(Lh l a).trans (ih _)
theorem Wl(s t:List Int):Ah s<+:Ah (s++t):=by rw[Wj];exact yF _ _
theorem Zm(h:l<+:m)(hr:r∈l):m.idxOf r=l.idxOf r:=by
 obtain⟨t,rfl⟩:=h;rw[List.idxOf_append,al hr]
theorem Bq(h:r∈l):iK l r=l:=by unfold iK;rw[al h]
theorem Li:∀{l:List Int},(∀r∈s,r∈l)->meets l s=l:=by
 induction s with
 |nil=>intro l _;rfl
 |cons a s ih=>intro l h;rw[tj,Bq (h a cK)];exact ih λr hr=>h r (by simp[hr])
theorem vA(h:s.Nodup):Ah s=s:=by
 have key:∀(s l:List Int),(l++s).Nodup->meets l s=l++s:=by
  intro s
  induction s with
  |nil=>intro l _;rw[sJ,cj]
  |cons a s ih=>
   intro l h;have ha:a∉l:=λhl=>(nA.1 h).2.2 a hl a cK rfl;rw[tj,show iK l a=l++[a] by unfold iK;rw[ai ha],ih _ (aD h)];simp
 exact key s [] (aD h)
theorem Rr{f:Int->Int}:∀{l:List Int},(∀a∈l++s,∀b∈l++s,f a=f b->a=b)->meets (l.map f) (s.map f)=(meets l s).map f:=by
 induction s with
 |nil=>intro l _;rfl
 |cons r s ih=>
  intro l h;have h1:iK (l.map f) (f r)=(iK l r).map f:=by
   unfold iK
   by_cases e:r∈l
   ·rw[al e,al (List.mem_map_of_mem e)]
   ·rw[ai e,ai,bz]
    ·rfl
    ·intro hm
     obtain⟨a,ha,e2⟩:=aT.1 hm;exact e (h a (by simp[ha]) r cK e2▸ha)
  rw[cf,tj,tj,h1];refine ih λa ha b hb=>h a ?_ b ?_
  ·rcases bO.1 ha with ha|ha
   ·rcases tk.1 ha with ha|ha
    ·simp[ha]
    ·simp[ha]
   ·simp[ha]
  ·rcases bO.1 hb with hb|hb
   ·rcases tk.1 hb with hb|hb
    ·simp[hb]
    ·simp[hb]
   ·simp[hb]
theorem Wk{f:Int->Int}(h:∀a∈s,∀b∈s,f a=f b->a=b):Ah (s.map f)=(Ah s).map f:=
 Rr (l:=[]) (aD h)
def eR(v:cI):List Int:=if v.dq then[v.n]else[]
def rM(x:iA):List Int:=(eh x).flatMap eR++if 0<=x.dst then[x.dst]else[]
def mZ(B:aq):List Int:=B.bg.map (·.dst)++(B.list.flatMap rM++eR B.on)
def pS(B:aq):List Int:=B.bg.flatMap λp=>p.src.flatMap eR
def fV(n:Nat):List Int:=(bj n).map λx:Nat=>(x:Int)
def DG(params:Nat)(bl:List aq):List Int:=fV params++(bl.flatMap mZ++bl.flatMap pS)
def l_(params:Nat)(bl:List aq):List Int:=Ah (DG params bl)
def gH(L:List Int)(r:Int):Int:=((L.idxOf r:Nat):Int)
def cr(L:List Int)(v:cI):cI:=if v.dq then⟨true,gH L v.n⟩else v
def oP(L:List Int)(r:Int):Int:=if 0<=r then gH L r else r
def gz(L:List Int)(x:iA):iA:={x with a:=cr L x.a,b:=cr L x.b,args:=x.args.map (cr L),dst:=oP L x.dst}
def Gs(L:List Int)(p:gD):gD:=⟨gH L p.dst,p.src.map (cr L)⟩
def py(L:List Int)(B:aq):aq:={B with bg:=B.bg.map (Gs L),list:=B.list.map (gz L),on:=cr L B.on}
def eN(X:bZ):List aq:=cG X.blocks (cQ X.blocks)
def fJ(X:bZ):bZ:={X with bm:=(l_ X.params.toNat (eN X)).length,blocks:=(eN X).map (py (l_ X.params.toNat (eN X)))}
theorem tu(h:r∈L):0<=gH L r/\gH L r<L.length:=by
 have:=ll h;unfold gH;omega
theorem PR{a b:Int}(ha:a∈L)(hb:b∈L)(h:gH L a=gH L b):a=b:=by
 unfold gH at h;have h1:L[L.idxOf a]'(ll ha)=a:=nw _;have h2:L[L.idxOf b]'(ll hb)=b:=nw _;have h3:L.idxOf a=L.idxOf b:=A;rw[<-h1,<-h2];simp only[h3]
theorem yH(h:l<+:m)(hr:r∈l):gH m r=gH l r:=by unfold gH;rw[Zm h hr]
theorem qL(n:Nat):(fV n).Nodup:=mU tX λx _ y _ e=>by omega
theorem pO:r∈fV n↔0<=r/\r<n:=by
 unfold fV;rw[aT];constructor
 ·rintro⟨x,hx,rfl⟩
  have:=cW.1 hx;omega
 ·rintro⟨h1,h2⟩
  exact⟨r.toNat,cW.2 A,A⟩
theorem rz(n:Nat):(fV n).length=n:=by simp[fV]
theorem xN(h:r∈fV n):gH (fV n) r=r:=by
 have h1:=tu h;rw[rz]at h1;have h2:(fV n)[(fV n).idxOf r]'(ll h)=r:=nw _;unfold gH at h1|-
 simp only[fV,List.getElem_map,List.getElem_range]at h2;exact h2
theorem Zy(params:Nat)(bl:List aq):fV params<+:l_ params bl:=by
 have:=Wl (fV params) (bl.flatMap mZ++bl.flatMap pS);rwa[vA (qL _)]at this
theorem E5:r∈l_ params bl↔r∈fV params\/(∃B∈bl,r∈mZ B)\/∃B∈bl,r∈pS B:=by
 unfold l_ DG;rw[vx,bO,bO,dg,dg]
theorem oI{β:Type}{l:List α}{f g:α->List β}(h:∀x∈l,f x=g x):l.flatMap f=l.flatMap g:=by
 rw[rT,rT,ew h]
theorem Zx(h:∀r∈DG params bl,0<=r/\r<R):(l_ params bl).length<=R:=by
 have h1:((l_ params bl).map Int.toNat).Nodup:=mU (Of _) λx hx y hy e=>by
  have:=h x (vx.1 hx);have:=h y (vx.1 hy);omega
 have h2:∀x∈(l_ params bl).map Int.toNat,x∈bj R:=λx hx=>by
  obtain⟨y,hy,rfl⟩:=aT.1 hx;have:=h y (vx.1 hy);exact cW.2 A
 have:=h1.length_le_of_subset h2;simpa using this
def rF(L rs ss:List Int):Prop:=∀r∈L,ss[(gH L r).toNat]?=rs[r.toNat]?
theorem rF.val(h:rF L f.bm g.bm)(hv:v.dq=true->v.n∈L):iU g (cr L v)=iU f v:=by
 unfold iU cr
 by_cases hr:v.dq=true
 ·rw[al hr,al hr]
  simp only[if_true];rw[fF,fF,h v.n (hv hr)]
 ·rw[ai hr,ai hr,ai hr]
theorem rF.put(hL:∀r∈L,0<=r)(h:rF L rs ss)(hd:d∈L)(n:Int):rF L (rs.set d.toNat n) (ss.set (gH L d).toNat n):=λr hr=>by
 have h0:=h d hd;rw[fN,fN]
 by_cases e:d=r
 ·subst e
  rw[al rfl,al rfl]
  by_cases h1:d.toNat<rs.length
  ·rw[al h1,al]
   rw[bL h1]at h0;exact(aJ.1 h0).1
  ·rw[ai h1,ai]
   rw[cm (l:=rs) A]at h0;have:=mx.1 h0;omega
 ·have h1:¬d.toNat=r.toNat:=λe2=>e (by have:=hL d hd;have:=hL r hr;omega)
  have h2:¬(gH L d).toNat=(gH L r).toNat:=λe2=>e (PR hd hr (by have:=tu hd;have:=tu hr;omega));rw[ai h1,ai h2];exact h r hr
theorem rF.set(hL:∀r∈L,0<=r)(h:rF L rs ss)(hd:0<=d->d∈L)(n:Int):rF L (LQ rs d n) (LQ ss (oP L d) n):=by
 unfold LQ oP
 by_cases h1:0<=d
 ·have:=tu (hd h1)
  rw[al h1,al h1,al A];exact h.put hL (hd h1) n
 ·rw[ai h1,ai h1,ai h1]
  exact h
theorem rF.bg(hL:∀r∈L,0<=r)(h:rF L f.bm g.bm){k':Nat}{F:gD->gD}{ps:List gD}(hp:∀p∈ps,p.dst∈L/\(F p).dst=gH L p.dst/\iU g ((F p).src.getD k' lB)=iU f (p.src.getD k lB)):rF L (pe f k ps) (pe g k' (ps.map F)):=by
 unfold pe;rw[List.foldl_map];have key:∀(ps:List gD) (rs ss:List Int),(∀p∈ps,p.dst∈L/\(F p).dst=gH L p.dst/\iU g ((F p).src.getD k' lB)=iU f (p.src.getD k lB))->rF L rs ss->rF L (ps.foldl (λbm p=>bm.set p.dst.toNat (iU f (p.src.getD k lB))) rs) (ps.foldl (λbm p=>bm.set (F p).dst.toNat (iU g ((F p).src.getD k' lB))) ss):=by
  intro ps
  induction ps with
  |nil=>exact λ_ _ _ h=>h
  |cons p ps ih=>
   intro rs ss hp h;obtain⟨h1,h2,h3⟩:=hp p cK;rw[jZ,jZ,h2,h3];exact ih _ _ (λq hq=>hp q (by simp[hq])) (h.put hL h1 _)
 exact key ps _ _ hp h
theorem rF.enter{args:List Int}(hp:fV P<+:L)(hb:∀r∈L,0<=r/\r<R)(ha:args.length=P):rF L (pH R args) (pH L.length args):=λr hr=>by
 have h1:=hb r hr;have h2:=tu hr;have hk:∀i:Nat,(args++aI R 0)[i]?=(if i<P then args[i]? else(aI R (0:Int))[i-P]?)/\(args++aI L.length 0)[i]?=if i<P then args[i]? else(aI L.length (0:Int))[i-P]?:=λi=>by
  rw[List.getElem?_append,List.getElem?_append,ha];exact⟨rfl,rfl⟩
 unfold pH;rw[List.getElem?_take,List.getElem?_take,al A,al A,(hk _).1,(hk _).2]
 by_cases h3:r.toNat<P
 ·have h4:gH L r=r:=by
   have h5:r∈fV P:=pO.2 A;rw[yH hp h5,xN h5]
  rw[al h3,al A,h4]
 ·have h4:¬(gH L r).toNat<P:=λh4=>by
   have h5:gH L r∈fV P:=pO.2 A;have h6:gH L (gH L r)=gH L r:=by rw[yH hp h5,xN h5]
   have h7:=PR (hp.subset h5) hr h6;omega
  rw[ai h3,ai h4,ku,ku,al A,al A]
structure XP(X cP:bZ)(o:List Nat)(L:List Int):Prop where
 ok:F8 X.blocks o
 zero:0<o.length/\nth o 0=0
 blocks:cP.blocks=(cG X.blocks o).map (py L)
 bm:cP.bm=L.length
 par:fV X.params.toNat<+:L
 all:∀B∈cG X.blocks o,∀r,r∈mZ B\/r∈pS B->r∈L
 OU:∀r∈L,0<=r/\r<X.bm
structure NmU(u v:dk)(o:Nat->List Nat)(L:Nat->List Int):Prop where
 zm:v.globals=u.globals
 main:fE v.funcs=fE u.funcs
 fn:∀(k:Nat) X,u.funcs[k]?=O X->∃cP,v.funcs[k]?=O cP/\XP X cP (o k) (L k)
structure FTn(o:Nat->List Nat)(L:Nat->List Int)(f g:sD):Prop where
 fn:g.fn=f.fn
 block:g.block<(o f.fn).length/\nth (o f.fn) g.block=f.block
 at':g.at'=f.at'
 bm:rF (L f.fn) f.bm g.bm
structure FRn(o:Nat->List Nat)(L:Nat->List Int)(d e:Int)(f g:sD):Prop where
 same:FTn o L f g
 dst:e=oP (L f.fn) d
 has:0<=d->d∈L f.fn
theorem FRn.back{o:Nat->List Nat}{L:Nat->List Int}{e:Int}(h:FRn o L d e f g)(hL:∀r∈L f.fn,0<=r)(n:Int):FTn o L (f.set d n) (g.set e n):=by
 obtain⟨⟨h1,h2,h3,h4⟩,h5,h6⟩:=h;subst h5;exact⟨h1,h2,h3,h4.set hL h6 n⟩
structure adA(u:dk)(o:Nat->List Nat)(L:Nat->List Int)(s t:nZ):Prop where
 ok:mM u (s.steps+1) s
 rel:adz (FRn o L) (FTn o L) s t
theorem BK(h:v∈eh x)(hr:v.dq=true):v.n∈rM x:=by
 unfold rM;refine cM _ (dg.2 ⟨v,h,?_⟩);unfold eR;rw[al hr];simp
theorem BJ(h:0<=x.dst):x.dst∈rM x:=by
 unfold rM;rw[al h];simp
theorem vD(h:x∈B.list)(hr:r∈rM x):r∈mZ B:=by
 unfold mZ;exact en _ (cM _ (dg.2 ⟨x,h,hr⟩))
theorem D1(h:B.on.dq=true):B.on.n∈mZ B:=by
 unfold mZ eR;rw[al h];simp
theorem FB(h:p∈B.bg):p.dst∈mZ B:=by
 unfold mZ;exact cM _ (aT.2 ⟨p,h,rfl⟩)
theorem BL(h:p∈B.bg)(hv:v∈p.src)(hr:v.dq=true):v.n∈pS B:=by
 unfold pS;refine dg.2 ⟨p,h,dg.2 ⟨v,hv,?_⟩⟩;unfold eR;rw[al hr];simp
theorem Ma(L:List Int)(bl:List aq)(i:Nat):dY (bl.map (py L)) i=dY bl i:=by
 unfold dY;rw[aW];cases bl[i]?<;>rfl
theorem HD(L:List Int)(bl:List aq)(t:Nat):be (bl.map (py L)) t=be bl t:=wu (aG _) (Ma L bl) t
theorem ac1{v:dk}{o:Nat->List Nat}{L:Nat->List Int}(hu:tV u)(hc:jy u)(hn:NmU u v o L):Sim u v 1 1 (adA u o L):=by
 intro s t ⟨dV,hrel⟩;obtain⟨X,R,hf⟩:=dV.dC;obtain⟨B,hB⟩:=bE X.blocks s.dC.block hf.block;have DS:=aA hB;have pJ:=hf.fit.dD B DS;have G5:=hf.fit.ok.iD;have Cp:=hf.fit.ok.block _ B hB;have xw:=hc.body X (aA hf.get);obtain⟨cP,hY,G8⟩:=hn.fn s.dC.fn X hf.get;obtain⟨hm,hi,ho,nW,NK⟩:=hrel;obtain⟨Vg,⟨jX,qe⟩,Ax,IL⟩:=NK;have hLp:∀r∈L s.dC.fn,0<=r:=λr hr=>(G8.OU r hr).1;have Kz:kC u s.dC.fn=X.blocks:=by unfold kC;rw[hf.get]
 have zQ:kC v s.dC.fn=cP.blocks:=by unfold kC;rw[hY]
 obtain⟨ob,zu⟩:∃ob,ob=o s.dC.fn:=⟨_,rfl⟩;obtain⟨Lb,Mn⟩:∃Lb,Lb=L s.dC.fn:=⟨_,rfl⟩;rw[<-zu,<-Mn]at G8;rw[<-zu]at jX qe;rw[<-Mn]at hLp IL;have hbg:ob[t.dC.block]?=O s.dC.block:=by rw[gR jX,qe]
 have hKB:iP X.blocks ob s.dC.block (bi X.blocks s.dC.block)=iP X.blocks ob s.dC.block B:=by rw[gG hB]
 have hKm:iP X.blocks ob s.dC.block B∈cG X.blocks ob:=by rw[<-hKB];exact aA (mj hbg)
 obtain⟨C,hCd⟩:∃C,C=py Lb (iP X.blocks ob s.dC.block B):=⟨_,rfl⟩;have hC:cP.blocks[t.dC.block]?=O C:=by rw[G8.blocks,aW,mj hbg,hKB,hCd];rfl
 have Xv:=Cd hf hB;have Js:uq v t.dC=C:=by
  unfold uq;rw[Vg,hY];simp only[fF,hC,gw]
 have Uc:C.list=B.list.map (gz Lb):=by rw[hCd];rfl
 have Du:=nW.len;have aeJ:∀x∈B.list,∀r∈rM x,r∈Lb:=λx hx r hr=>G8.all _ hKm r (.inl (vD (B:=iP X.blocks ob s.dC.block B) hx hr));cases hx:B.list[s.dC.at']? with
 |some x=>
  have Aw:nM u s=vl u (rJ (tick s)) x:=by rw[oA,Xv];simp only[hx]
  have qH:=aA hx;have hCx:C.list[t.dC.at']?=O (gz Lb x):=by rw[Uc,aW,Ax,hx];rfl
  have rC:nM v t=vl v (rJ (tick t)) (gz Lb x):=by rw[oA,Js];simp only[hCx]
  obtain⟨ua,ub,uc,ud⟩:=vH (xw.list _ B hB x qH);have hgt:FTn o L (rJ (tick s)).dC (rJ (tick t)).dC:=⟨Vg,⟨by show t.dC.block<(o s.dC.fn).length;rw[<-zu];exact jX,by show nth (o s.dC.fn) t.dC.block=s.dC.block;rw[<-zu];exact qe⟩,by show t.dC.at'+1=s.dC.at'+1;rw[Ax],by show rF (L s.dC.fn) s.dC.bm t.dC.bm;rw[<-Mn];exact IL⟩;have hv:∀w∈eh x,w.dq=true->w.n∈Lb:=λw hw hr=>aeJ x qH _ (BK hw hr);have qt:∀w:cI,w∈eh x\/w=lB->iU (rJ (tick t)).dC (cr Lb w)=iU (rJ (tick s)).dC w:=λw hw=>by
   refine rF.val (f:=(rJ (tick s)).dC) (g:=(rJ (tick t)).dC) IL λhr=>?_;rcases hw with hw|rfl
   ·exact hv w hw hr
   ·cases hr
  have QT:0<=x.dst->x.dst∈Lb:=λh=>aeJ x qH _ (BJ h);rcases Pw (u:=u) (v:=v) (s:=rJ (tick s)) (t:=rJ (tick t)) (x:=x) (y:=gz Lb x) rfl rfl (qt _ ua) (qt _ ub) (λFZ=>by
   show(x.args.map (cr Lb)).map _=_;rw[dM];refine ew λw hw=>qt w (.inl ?_);rw[uc FZ]at hw;exact hw) hm hi ho Du ud (λh=>by show oP Lb x.dst<0;unfold oP;rw[ai (by have:=ud h;omega)];exact ud h)with⟨f,g,e1,e2,ha⟩|⟨FZ,e1,e2⟩|⟨FZ,mem,mE,out,z,e1,e2⟩
  ·refine⟨λs' lU=>?_,λf' wI=>?_⟩
   ·rw[Aw,e1]at lU;cases lU
   ·rw[Aw,e1]at wI
    rw[<-Sum.inr.inj wI];exact⟨0,t,g,A,A,rfl,by rw[rC,e2],ha⟩
  ·refine⟨λs' lU=>?_,λf' wI=>?_⟩
   ·have h9:=(sw hu dV lU).1
    rw[Aw,e1]at lU;have lU:=Sum.inl.inj lU;obtain⟨k,zf,hk,hZ,hlen⟩:=(pJ.list.2 x qH).call FZ;obtain⟨dO,hW,hnz⟩:=hn.fn k zf hZ;obtain⟨RZ,hfz⟩:=hu.2 k zf hZ;have hxk:x.fn.toNat=k:=A;refine⟨1,_,A,A,.one (by rw[rC,e2]),h9,?_⟩;rw[<-lU,vS,vS,hxk];refine⟨hm,hi,ho,?_,?_⟩
    ·refine .add nW ⟨hgt,?_,?_⟩
     ·show oP Lb x.dst=oP (L s.dC.fn) x.dst;rw[Mn]
     ·show 0<=x.dst->x.dst∈L s.dC.fn;rw[<-Mn];exact QT
    ·refine⟨rfl,⟨hnz.zero.1,hnz.zero.2⟩,rfl,?_⟩
     show rF (L k) (pH (mu u k) _) (pH (mu v k) _);have e3:mu v k=(L k).length:=by unfold mu;rw[hW];simp only;rw[hnz.bm];omega
     have e4:mu u k=zf.bm.toNat:=by unfold mu;rw[hZ]
     rw[e3,e4];exact rF.enter (P:=zf.params.toNat) hnz.par (λr hr=>by have:=hnz.OU r hr;omega) (by rw[aG];omega)
   ·rw[Aw,e1]at wI;cases wI
  ·refine⟨λs' lU=>?_,λf' wI=>?_⟩
   ·have h9:=(sw hu dV lU).1
    rw[Aw,e1]at lU;have lU:=Sum.inl.inj lU;refine⟨1,_,A,A,.one (by rw[rC,e2]),h9,?_⟩;rw[<-lU];refine⟨rfl,rfl,rfl,nW,?_⟩;have:=FRn.back (o:=o) (L:=L) (d:=x.dst) (e:=oP Lb x.dst) (f:=(rJ (tick s)).dC) (g:=(rJ (tick t)).dC) ⟨hgt,by show oP Lb x.dst=oP (L s.dC.fn) x.dst;rw[Mn],by show 0<=x.dst->x.dst∈L s.dC.fn;rw[<-Mn];exact QT⟩ (by show∀r∈L s.dC.fn,0<=r;rw[<-Mn];exact hLp) z;exact this
   ·rw[Aw,e1]at wI;cases wI
 |none=>
  have Aw:nM u s=sV u (tick s) B:=by rw[oA,Xv];simp only[hx]
  have hCn:C.list[t.dC.at']?=U:=by rw[Uc,aW,Ax,hx];rfl
  have rC:nM v t=sV v (tick t) C:=by rw[oA,Js];simp only[hCn]
  have pu:iU t.dC C.on=iU s.dC B.on:=by
   rw[hCd];exact rF.val IL λhr=>G8.all _ hKm _ (.inl (D1 (B:=iP X.blocks ob s.dC.block B) hr))
  have hk:C.kind=B.kind:=by rw[hCd];rfl
  by_cases UQ:B.kind=2\/B.kind=3
  ·obtain⟨i,iM,e1,e2⟩:=K9 (u:=u) (v:=v) (s:=tick s) (t:=tick t) (C:=C) UQ hk pJ.kind.2 pu
   have htm:=FO (B:=B) iM;obtain⟨to,T,e,hg⟩:=T8 hf hB htm;have NJ:to<X.blocks.length:=(aJ.1 hg.get).1;have afE:to∈ob:=by
    have:=G8.ok.closed s.dC.block (aA hbg) (B.to.getD i 0) (by rw[fI hB];exact htm);rwa[e,fR]at this
   have hCi:C.to.getD i 0=((ob.idxOf to:Nat):Int):=by
    rw[hCd];show(B.to.map λt=>((ob.idxOf t.toNat:Nat):Int)).getD i 0=_;rw[fF,aW,bL iM,b_,gw];rw[fF,bL iM,gw]at e;rw[e,fR]
   rw[e]at e1;rw[hCi]at e2;have hjn:nth ob (ob.idxOf to)=to:=lH afE;have iS:=oM afE;have hjg:ob[ob.idxOf to]?=O to:=by rw[gR iS,hjn]
   generalize ob.idxOf to=j at*;have hKT:(cG X.blocks ob)[j]?=O (iP X.blocks ob to T):=by rw[mj hjg,gG hg.get]
   have hTS:cP.blocks[j]?=O (py Lb (iP X.blocks ob to T)):=by rw[G8.blocks,aW,hKT];rfl
   have Gh:kO (kC u s.dC.fn) to=T.bg:=by rw[Kz];unfold kO;rw[hg.get]
   have afa:kO (kC v s.dC.fn) j=T.bg.map λp=>Gs Lb (ft X.blocks ob to p):=by
    rw[zQ];unfold kO;rw[hTS];show(T.bg.map _).map _=_;rw[dM]
    rfl
   have Au:be (kC v s.dC.fn) j=be (cG X.blocks ob) j:=by rw[zQ,G8.blocks,HD]
   have hbp:t.dC.block∈be (cG X.blocks ob) j:=by
    rw[tx G5 G8.ok hjg,cR,cW,dv];exact⟨jX,by rw[qe];exact hg.mem⟩
   refine⟨λs' lU=>?_,λf' wI=>?_⟩
   ·have h9:=(sw hu dV lU).1
    rw[Aw,e1]at lU;have lU:=Sum.inl.inj lU;refine⟨1,_,A,A,.one (by rw[rC,e2]),h9,?_⟩;rw[<-lU,vm,vm];refine⟨hm,hi,ho,nW,?_⟩;refine⟨Vg,⟨?_,?_⟩,rfl,?_⟩
    ·show((j:Nat):Int).toNat<(o s.dC.fn).length;rw[fR,<-zu];exact iS
    ·show nth (o s.dC.fn) ((j:Nat):Int).toNat=((to:Nat):Int).toNat;rw[fR,fR,<-zu];exact hjn
    ·show rF (L s.dC.fn) (pe s.dC ((be (kC u s.dC.fn) ((to:Nat):Int).toNat).idxOf s.dC.block) (kO (kC u s.dC.fn) ((to:Nat):Int).toNat)) (pe t.dC ((be (kC v t.dC.fn) ((j:Nat):Int).toNat).idxOf t.dC.block) (kO (kC v t.dC.fn) ((j:Nat):Int).toNat))
     rw[Vg,fR,fR,Gh,afa,Au,Kz,<-Mn];refine rF.bg hLp IL λp hp=>?_;have hpk:ft X.blocks ob to p∈(iP X.blocks ob to T).bg:=aT.2 ⟨p,hp,rfl⟩;have adZ:=aA hKT;refine⟨G8.all _ adZ (ft X.blocks ob to p).dst (.inl (FB hpk)),rfl,?_⟩;have Cx:=(hf.fit.ok.block to T hg.get).bg p hp;have se:(ft X.blocks ob to p).src.getD ((be (cG X.blocks ob) j).idxOf t.dC.block) lB=p.src.getD ((be X.blocks to).idxOf s.dC.block) lB:=by
      have:=z_ G5 G8.ok hjg hbp p;unfold gi at this;rw[qe]at this;exact this
     have hlen:(be (cG X.blocks ob) j).idxOf t.dC.block<(ft X.blocks ob to p).src.length:=by
      rw[ue G5 G8.ok hjg,aG];exact ll hbp
     show iU t.dC (((ft X.blocks ob to p).src.map (cr Lb)).getD _ lB)=_;rw[<-se,fF,aW,bL hlen,fF,bL hlen];simp only[b_,gw];exact rF.val IL λhr=>G8.all _ adZ _ (.inr (BL hpk (my hlen) hr))
   ·rw[Aw,e1]at wI;cases wI
  ·rcases PY (u:=u) (v:=v) (FR:=FRn o L) (s:=tick s) (t:=tick t) (C:=C) (λh=>UQ (.inl h)) (λh=>UQ (.inr h)) hk pu ho nW with⟨f,g,e1,e2,ha⟩|⟨l,f,m,g,d1,d2,e1,e2,d3,d4⟩
   ·refine⟨λs' lU=>?_,λf' wI=>?_⟩
    ·rw[Aw,e1]at lU;cases lU
    ·rw[Aw,e1]at wI
     rw[<-Sum.inr.inj wI];exact⟨0,t,g,A,A,rfl,by rw[rC,e2],ha⟩
   ·refine⟨λs' lU=>?_,λf' wI=>?_⟩
    ·have h9:=(sw hu dV lU).1
     rw[Aw,e1]at lU;have lU:=Sum.inl.inj lU;refine⟨1,_,A,A,.one (by rw[rC,e2]),h9,?_⟩;rw[<-lU];have hfm:f∈s.rest:=by
      have:s.rest=l++[f]:=d1;rw[this];simp
     obtain⟨XF,RF,hff⟩:=dV.rest f hfm;obtain⟨YF,_,hnF⟩:=hn.fn f.fn XF hff.get;exact⟨hm,hi,ho,d3,d4.back (λr hr=>(hnF.OU r hr).1) _⟩
    ·rw[Aw,e1]at wI;cases wI
theorem LV{v:dk}{R:nZ->nZ->Prop}(h:Sim u v 1 1 R)(ho:∀s t,R s t->t.out=s.out):∀(n:Nat) (s t:nZ),R s t->Alike (tE u n s) (tE v n t)/\(tE v n t).steps+s.steps=(tE u n s).steps+t.steps
 |0,s,t,hR=>⟨⟨rfl,rfl,ho s t hR⟩,Nat.add_comm _ _⟩
 |n+1,s,t,hR=>by
  obtain⟨hg,hf⟩:=h s t hR;rw[tE,tE];cases he:nM u s with
  |inl s'=>
   obtain⟨k,t',hlo,hhi,UI,hR'⟩:=hg s' he;obtain rfl:k=1:=A;obtain⟨t1,h1,h2⟩:=UI;rw[h1];obtain rfl:t1=t':=h2;simp only;obtain⟨ha,hs⟩:=LV h ho n s' t1 hR';have h3:=wy he;have h4:=wy h1;exact⟨ha,A⟩
  |inr f=>
   obtain⟨k,t',g,hlo,hhi,UI,nW,ha⟩:=hf f he;obtain rfl:k=0:=A;obtain rfl:t=t':=UI;rw[nW];simp only;have h3:=(yJ he).1;have h4:=(yJ nW).1;exact⟨ha,A⟩
theorem ZE{v:dk}{o:Nat->List Nat}{L:Nat->List Int}(hu:Whole u)(hn:NmU u v o L)(mE:List Int)(uB:∀x∈mE,dE x)(f:Nat):Alike (lI u mE f) (lI v mE f)/\(lI v mE f).steps=(lI u mE f).steps:=by
 have e1:∀v:dk,pW v mE=⟨IX v.globals,mE,[],0,[],⟨(fE v.funcs).toNat,0,0,aI (mu v (fE v.funcs).toNat) 0,-1⟩,bump (v.funcs.map λX=>aI X.blocks.length 0) (fE v.funcs).toNat 0⟩:=λ_=>rfl;obtain⟨fm,dw,hfm,hM⟩:=hu.start.main;obtain⟨dO,hW,vJ⟩:=hn.fn fm dw hM;have hrel:adA u o L (pW u mE) (pW v mE):=⟨L5 hu.fit hu.start uB,by
  rw[e1,e1,hn.main,hn.zm];refine⟨rfl,rfl,rfl,.nil _ _,rfl,?_,rfl,?_⟩
  ·show 0<(o (fE u.funcs).toNat).length/\nth (o (fE u.funcs).toNat) 0=0
   rw[hfm,fR];exact vJ.zero
  ·show rF (L (fE u.funcs).toNat) (aI (mu u (fE u.funcs).toNat) 0) (aI (mu v (fE u.funcs).toNat) 0)
   rw[hfm,fR];have e3:mu v fm=(L fm).length:=by unfold mu;rw[hW];simp only;rw[vJ.bm];omega
   have e4:mu u fm=dw.bm.toNat:=by unfold mu;rw[hM]
   rw[e3,e4];intro r hr;have h1:=vJ.OU r hr;have h2:=tu hr;rw[ku,ku,al A,al A]⟩
 obtain⟨h1,h2⟩:=LV (ac1 hu.fit hu.ok hn) (λs t h=>h.rel.out) f _ _ hrel;refine⟨h1,?_⟩;have e2:(pW u mE).steps=0:=rfl;have e3:(pW v mE).steps=0:=rfl;unfold lI;omega
theorem W7{f:Nat->Nat}:∀{o l:List Nat},o.Nodup->(∀x∈o,x∈l)->(o.map f).sum<=(l.map f).sum
 |[],l,_,_=>by simp
 |a::o,l,hn,hs=>by
  have ha:=hs a cK;rw[rV]at hn;have h1:=(List.perm_cons_erase ha).map f;have h2:=h1.sum_nat;have h3:=W7 (f:=f) (o:=o) (l:=l.erase a) hn.2 λx hx=>by
   have fZ:x≠a:=λe=>hn.1 (e▸hx);exact(List.mem_erase_of_ne fZ).2 (hs x (by simp[hx]))
  simp only[cf,g_]at h2|-
  omega
def JD(B:aq):Nat:=B.bg.length+B.list.length
theorem vv(bl:List aq):eu bl=(bl.map JD).sum:=rfl
theorem Ab(bl:List aq):eu bl=((bj bl.length).map λb=>JD (bi bl b)).sum:=by
 rw[vv];congr 1;apply cY;intro i;rw[aW,aW]
 by_cases hi:i<bl.length
 ·rw[ck hi,gq hi];rfl
 ·rw[cm A,cm dr];rfl
theorem Rp(bl:List aq)(o:List Nat):eu (cG bl o)=(o.map λb=>JD (bi bl b)).sum:=by
 rw[vv];unfold cG;rw[dM];congr 1;refine ew λb _=>?_;simp[JD,iP]
theorem nG(hk:F8 bl o):eu (cG bl o)<=eu bl:=by
 rw[Rp,Ab];exact W7 hk.nodup λx hx=>cW.2 (hk.lt x hx)
theorem xE(hk:F8 bl o):o.length<=bl.length:=by
 have:=hk.nodup.length_le_of_subset (l₂:=bj bl.length) λx hx=>cW.2 (hk.lt x hx);simpa using this
theorem Lg(L:List Int)(bl:List aq):eu (bl.map (py L))=eu bl:=by
 rw[vv,vv,dM];congr 1;refine ew λB _=>?_;simp[JD,py]
theorem val_zero{R:Int}:fw R v=0↔(v.dq=true->0<=v.n/\v.n<R):=by
 unfold fw
 by_cases h:v.dq=true
 ·simp only[h,Bool.true_and,within,Bool.not_and,rj,gy,fg,forall_const]
  constructor
  ·intro h1
   split at h1
   ·cases h1
   ·omega
  ·intro h1
   rw[ai A]
 ·have h2:v.dq=false:=aD h
  simp[h2]
theorem Ft(h:v.dq=true->v.n∈L):fw L.length (cr L v)=0:=val_zero.2 λhr=>by
 unfold cr at hr|-
 by_cases h1:v.dq=true
 ·rw[al h1]
  exact tu (h h1)
 ·rw[ai h1]at hr
  exact absurd hr h1
theorem PX(L:List Int)(v:cI):kN (cr L v)=kN v:=by
 unfold cr kN
 by_cases h:v.dq=true
 ·rw[al h,h];rfl
 ·rw[ai h]
theorem LI(L:List Int)(d:Int):(oP L d=-1)↔d=-1:=by
 unfold oP
 by_cases h:0<=d
 ·rw[al h]
  have:0<=gH L d:=by unfold gH;omega
  omega
 ·rw[ai h]
theorem Sl(L:List Int)(x:iA):tG (gz L x)=tG x:=by
 unfold tG gz;simp only[PX,aG];rw[show decide (oP L x.dst=-1)=decide (x.dst=-1) by rw[kq];exact LI L x.dst]
theorem Ot{R:Int}(h:fA fs R x=0)(uB:∀r∈rM x,r∈L):fA fs L.length (gz L x)=0:=by
 obtain⟨ua,ub,uc,_⟩:=vH h;have hv:∀v:cI,v∈eh x\/v=lB->fw L.length (cr L v)=0:=λv hv=>Ft λhr=>by
  rcases hv with hv|rfl
  ·exact uB _ (BK hv hr)
  ·cases hr
 unfold fA at h|-
 rw[Sl];rw[show(gz L x).op=x.op from rfl]
 split at h
 ·cases h
 rename_i h1;rw[ai h1]
 split at h
 ·cases h
 rename_i h2;rw[ai h2]
 split at h
 ·rename_i h3
  rw[h]at h3;simp at h3
 rename_i h3;have h4:¬(((shape x.op).1&& !(decide (x.op=20)&&decide ((gz L x).dst=-1)))&& !decide (lM L.length (gz L x).dst=0))=true:=by
  rw[show(gz L x).dst=oP L x.dst from rfl,show decide (oP L x.dst=-1)=decide (x.dst=-1) by rw[kq];exact LI L x.dst];intro hc;rw[eU]at hc;apply h3;rw[eU];refine⟨hc.1,?_⟩;have G2:=hc.2;simp only[gy,fg]at G2|-
  intro hd;apply G2;have Uy:0<=x.dst/\x.dst<R:=by
   unfold lM at hd
   split at hd
   ·cases hd
   ·rename_i h9
    simp[within]at h9;omega
  have hm:=tu (uB _ (BJ Uy.1));unfold lM oP;rw[al Uy.1,ai (by simp[within];omega)]
 rw[ai h4];rw[show(gz L x).a=cr L x.a from rfl,show(gz L x).b=cr L x.b from rfl,hv _ ua,hv _ ub];simp only[ne_eq,not_true_eq_false,if_false]
 split at h
 ·rename_i h5;exact absurd h h5
 split at h
 ·rename_i h5;exact absurd h h5
 unfold jA at h|-
 rw[show(gz L x).op=x.op from rfl,show(gz L x).fn=x.fn from rfl,show(gz L x).args=x.args.map (cr L)from rfl]
 by_cases FZ:x.op=20
 ·rw[ai (by simp[FZ])]at h|-
  split at h
  ·cases h
  rename_i h6;rw[ai h6];rw[aG]
  split at h
  ·cases h
  rename_i h7;rw[ai h7,jO];intro j hj;unfold lC;rw[aW,bL hj];exact hv _ (.inl (by rw[<-uc FZ];exact my hj))
 ·rw[al FZ]
theorem xM{R:Int}{np:Nat}:BC R b np p=0↔b≠0/\(0<=p.dst/\p.dst<R)/\p.src.length=np/\∀v∈p.src,fw R v=0:=by
 have hd:lM R p.dst=0↔0<=p.dst/\p.dst<R:=by
  unfold lM;constructor
  ·intro h
   split at h
   ·cases h
   ·rename_i h9
    simp[within]at h9;omega
  ·intro h
   rw[ai (by simp[within];omega)]
 unfold BC;constructor
 ·intro h
  split at h
  ·cases h
  rename_i h1
  split at h
  ·rename_i h2;exact absurd h h2
  rename_i h2
  split at h
  ·cases h
  rename_i h3;exact⟨A,hd.1 (aD h2),A,pD h⟩
 ·rintro⟨h1,h2,h3,h4⟩
  rw[ai A,ai (by rw[hd.2 h2];simp),ai A,jO];intro j hj;unfold lC;rw[bL hj];exact h4 _ (my hj)
theorem ZD(hc:jy u)(hX:u.funcs[i]?=O X)(hn:XP X cP o L)(Pn:cP.name=X.name)(vg:cP.params=X.params)(hle:L.length<=100):B9 u.funcs X cP:=by
 have hs:=B9.same hc hX;have hb:=hs.body;obtain⟨R,Sx,hR,hf⟩:=sU (jo.2 hc) hX;have hg:=hf.iD;have hk:=hn.ok;have tP:∀(b:Nat) B,X.blocks[b]?=O B->B.to.Nodup:=λb B hB=>(hf.block b B hB).to;have hYl:cP.blocks.length=o.length:=by rw[hn.blocks,aG,dX]
 have hfk:=jx hf hk;have hgk:=hfk.iD;have mK:=nG hk;have hYm:eu cP.blocks=eu (cG X.blocks o):=by rw[hn.blocks,Lg]
 have hpL:=hn.par.length_le;rw[rz]at hpL;have Pf:∀B∈X.blocks,SY X.blocks.length X.bm B:=λB hB=>oh.1 (hb.ends B hB);have jT:∀(j:Nat) C,cP.blocks[j]?=O C->∃B,j<o.length/\X.blocks[nth o j]?=O B/\(cG X.blocks o)[j]?=O (iP X.blocks o (nth o j) B)/\C=py L (iP X.blocks o (nth o j) B):=λj C hC=>by
  have hj:j<o.length:=by rw[<-hYl];exact(aJ.1 hC).1
  have ce:=hk.lt _ (jd hj);refine⟨bi X.blocks (nth o j),hj,ck ce,mj (gR hj),?_⟩;rw[hn.blocks,aW,mj (gR hj)]at hC;exact(bJ hC).symm
 have cX:∀(j:Nat) B,(cG X.blocks o)[j]?=O B->∀r,r∈mZ B\/r∈pS B->r∈L:=λj B hB=>hn.all B (aA hB);refine⟨Pn,vg,?_,?_,?_,?_,?_,?_⟩
 ·rw[vg,hn.bm]
  omega
 ·rw[hYl]
  have h1:=hn.zero.1;have h2:=xE hk;have h3:=hs.many;omega
 ·rw[<-sI,hYm]
  have h1:=hs.size;rw[<-sI]at h1;omega
 ·intro C hC
  obtain⟨j,hj⟩:=bR hC;obtain⟨B,iS,hB,hK,rfl⟩:=jT j C hj;have he:=Pf B (aA hB);have YV:=Aa hg hk tP j _ hK;rw[hYl,hn.bm];refine oh.2 ⟨he.kind,?_,λt ht=>?_,λh3 e=>?_,λh2=>?_,?_⟩
  ·show((B.to.map _).length:Int)=B.kind-1
   rw[aG];exact he.len
  ·have ht:t∈B.to.map λt=>((o.idxOf t.toNat:Nat):Int):=ht
   obtain⟨x,hx,rfl⟩:=aT.1 ht;have KZ:=he.to x hx;have qH:=hk.closed _ (jd iS) x (by rw[fI hB];exact hx);have h1:=oM qH;have h2:=lH qH;have h3:o.idxOf x.toNat≠0:=λe=>by
    rw[e,hn.zero.2]at h2;omega
   omega
  ·have hl:((py L (iP X.blocks o (nth o j) B)).to).length=2:=by
    show(B.to.map _).length=2;rw[aG];have:=he.len;have tM:B.kind=3:=h3;omega
   rw[bL (show 0<_ by omega),bL (show 1<_ by omega)]at e;simp only[gw]at e;have:=(List.getElem_inj (show(py L (iP X.blocks o (nth o j) B)).to.Nodup from YV)).1 e;omega
  ·show kN (cr L B.on)=true
   rw[PX];exact he.one h2
  ·exact Ft λhr=>cX j _ hK _ (.inl (D1 (B:=iP X.blocks o (nth o j) B) hr))
 ·intro j C hC p' wT
  obtain⟨B,iS,hB,hK,rfl⟩:=jT j C hC;obtain⟨q,hq,rfl⟩:=aT.1 wT;have SG:=hq;obtain⟨p,hp,rfl⟩:=aT.1 hq;have h0:=hb.bg (nth o j) B hB p hp;unfold oO at h0|-
  obtain⟨h1,h2,h3,h4⟩:=xM.1 h0;have IG:dK cP.blocks:=λeE hD=>by
   rw[hn.blocks]at hD;obtain⟨cZ,hE,rfl⟩:=aT.1 hD;have:=hgk cZ hE;rw[hn.blocks,aG];exact this
  have ahN:∀(b:Nat) B,cP.blocks[b]?=O B->B.to.Nodup:=λb eE hD=>by
   obtain⟨cZ,jX,_,hKE,rfl⟩:=jT b eE hD;exact(Aa hg hk tP b _ hKE:(iP X.blocks o (nth o b) cZ).to.Nodup)
  rw[kf IG ahN (by rw[hYl];exact iS),hn.bm];refine xM.2 ⟨λe=>?_,?_,?_,λv hv=>?_⟩
  ·subst e
   exact h1 hn.zero.2
  ·exact tu (cX j _ hK (ft X.blocks o (nth o j) p).dst (.inl (FB SG)))
  ·show((ft X.blocks o (nth o j) p).src.map (cr L)).length=_
   rw[aG,ue hg hk (gR iS),aG,gw,aG,hn.blocks,HD]
  ·obtain⟨w,hw,rfl⟩:=aT.1 hv
   exact Ft λhr=>cX j _ hK _ (.inr (BL SG hw hr))
 ·intro j C hC x' IM
  obtain⟨B,iS,hB,hK,rfl⟩:=jT j C hC;obtain⟨x,hx,rfl⟩:=aT.1 IM;have Mv:x∈B.list:=hx;rw[hn.bm];exact Ot (hb.list _ B hB x Mv) λr hr=>cX j _ hK _ (.inl (vD (B:=iP X.blocks o (nth o j) B) Mv hr))
noncomputable def Oa(u:dk):dk:={u with funcs:=u.funcs.map fJ}
structure lj(X:bZ)(R:Nat):Prop where
 bm:X.bm=R
 le:R<=100
 ok:eW R X.blocks
 pos:0<X.blocks.length
 par:0<=X.params/\X.params<=R
 GB:∀B∈X.blocks,∀x∈B.list,∃fs,fA fs X.bm x=0
theorem xj(hc:jy u)(hX:u.funcs[k]?=O X):∃R,lj X R:=by
 obtain⟨R,h1,h2,h3⟩:=sU (jo.2 hc) hX;have hs:=B9.same hc hX;have h4:=qA (jo.2 hc) hX;have hb:=hs.body;refine⟨R,h1,h2,h3,by have:=hs.many;omega,A,λB hB x hx=>?_⟩;obtain⟨b,wS⟩:=bR hB;exact⟨_,hb.list b B wS x hx⟩
theorem nH(hf:eW R bl)(hB:B∈bl)(h:r∈mZ B\/r∈pS B):0<=r/\r<R:=by
 obtain⟨b,hb⟩:=bR hB;have hbo:=hf.block b B hb;have hv:∀v:cI,kW R v->r∈eR v->0<=r/\r<R:=λv hv hr=>by
  unfold eR at hr
  split at hr
  ·rename_i h1
   obtain rfl:=bQ.1 hr;exact hv h1
  ·cases hr
 rcases h with h|h
 ·unfold mZ at h
  rcases bO.1 h with h|h
  ·obtain⟨p,hp,rfl⟩:=aT.1 h
   exact(hbo.bg p hp).dst
  ·rcases bO.1 h with h|h
   ·obtain⟨x,hx,h⟩:=dg.1 h
    have KZ:=hbo.list x hx;unfold rM at h;rcases bO.1 h with h|h
    ·obtain⟨v,uD,h⟩:=dg.1 h
     rw[CQ KZ]at uD;exact hv v (KZ.tT v uD) h
    ·split at h
     ·rename_i h0
      obtain rfl:=bQ.1 h;exact⟨h0,KZ.dst h0⟩
     ·cases h
   ·exact hv _ hbo.on h
 ·unfold pS at h
  obtain⟨p,hp,h⟩:=dg.1 h;obtain⟨v,uD,h⟩:=dg.1 h;exact hv v ((hbo.bg p hp).tT v uD) h
theorem Ht(hf:eW R bl)(hP:P<=R)(h:r∈l_ P bl):0<=r/\r<R:=by
 rcases E5.1 h with h|⟨B,hB,h⟩|⟨B,hB,h⟩
 ·have:=pO.1 h
  omega
 ·exact nH hf hB (.inl h)
 ·exact nH hf hB (.inr h)
theorem ZC(h:lj X R)(hk:F8 X.blocks o)(hz:0<o.length/\nth o 0=0):XP X {X with bm:=(l_ X.params.toNat (cG X.blocks o)).length,blocks:=(cG X.blocks o).map (py (l_ X.params.toNat (cG X.blocks o)))} o (l_ X.params.toNat (cG X.blocks o)):=by
 have hfk:=jx h.ok hk;have hp:=h.par;refine⟨hk,hz,rfl,rfl,Zy _ _,λB hB r hr=>E5.2 ?_,λr hr=>?_⟩
 ·rcases hr with hr|hr
  ·exact .inr (.inl ⟨B,hB,hr⟩)
  ·exact .inr (.inr ⟨B,hB,hr⟩)
 ·have:=Ht hfk (show X.params.toNat<=R by omega) hr
  rw[h.bm];exact this
theorem Ry(h:lj X R):XP X (fJ X) (cQ X.blocks) (l_ X.params.toNat (eN X)):=
 ZC h (i_ h.ok.iD h.pos) (qK h.ok.iD h.pos)
theorem E9(h:lj X R):(l_ X.params.toNat (eN X)).length<=R:=by
 have hp:=h.par;exact Zx λr hr=>Ht (jx h.ok (i_ h.ok.iD h.pos)) (show X.params.toNat<=R by omega) (vx.2 hr)
theorem Ho{v:dk}(h:v.funcs.map (·.name)=u.funcs.map (·.name)):fE v.funcs=fE u.funcs:=by
 rw[v_,v_,h]
theorem PM(hc:jy u)(T:bZ->bZ)(o:bZ->List Nat)(L:bZ->List Int)(hT:∀X R,lj X R->XP X (T X) (o X) (L X)/\(L X).length<=R/\(T X).name=X.name/\(T X).params=X.params):
  NmU u {u with funcs:=u.funcs.map T} (λk=>match u.funcs[k]? with|some X=>o X|none=>[]) (λk=>match u.funcs[k]? with|some X=>L X|none=>[]):=by
 refine⟨rfl,Ho ?_,λk X hX=>⟨T X,by simp only[aW,hX,b_],?_⟩⟩
 ·simp only[dM]
  refine ew λX hX=>?_;obtain⟨k,hk⟩:=bR hX;obtain⟨R,h⟩:=xj hc hk;exact(hT X R h).2.2.1
 ·obtain⟨R,h⟩:=xj hc hX
  rw[hX];exact(hT X R h).1
theorem V_(hu:Whole u)(hX:u.funcs[i]?=O X)(hn:XP X cP o L)(hl:L.length<=100):∀C∈cP.blocks,AA C:=λC hC=>by
 have hLl:∀r∈L,dE (gH L r):=λr hr=>by
  have h1:=tu hr;exact⟨A,A⟩
 have hv:∀v:cI,(v.dq=true->v.n∈L)->dE v.n->dE (cr L v).n:=λv h1 h2=>by
  unfold cr
  by_cases h:v.dq=true
  ·rw[al h];exact hLl _ (h1 h)
  ·rw[ai h];exact h2
 obtain⟨R,hf⟩:=xj hu.ok hX;rw[hn.blocks]at hC;obtain⟨jB,hK,rfl⟩:=aT.1 hC;have cX:=hn.all jB hK;have ahT:AA jB/\∀x∈jB.list,(x.a∈eh x\/x.a=lB)/\(x.b∈eh x\/x.b=lB)/\∀v∈x.args,v∈eh x:=by
  unfold cG at hK;obtain⟨b,hb,rfl⟩:=aT.1 hK;have hB:=ck (hn.ok.lt b hb);have h0:=hu.Af X (aA hX) _ (aA hB);refine⟨⟨h0.on,λq hq v uD=>?_,h0.list⟩,λx hx=>?_⟩
  ·obtain⟨p,hp,rfl⟩:=aT.1 hq
   obtain⟨y,hy,rfl⟩:=aT.1 uD;have EV:=(cR.1 hy).2;exact h0.bg p hp _ (vF (R:=R) ((hf.ok.block b _ hB).bg p hp).len (aD EV))
  ·obtain⟨fs,h1⟩:=hf.GB _ (aA hB) x hx
   obtain⟨h2,h3,h4,_⟩:=vH h1;refine⟨h2,h3,λv uD=>?_⟩
   by_cases FZ:x.op=20
   ·rw[<-h4 FZ];exact uD
   ·rw[((hf.ok.block b _ hB).list x hx).args FZ]at uD
    cases uD
 obtain⟨h0,hus⟩:=ahT;have hx:∀x∈jB.list,∀v,v∈eh x\/v=lB->v.dq=true->v.n∈L:=λx hx v h hr=>by
  rcases h with h|rfl
  ·exact cX _ (.inl (vD hx (BK h hr)))
  ·cases hr
 refine⟨hv _ (λhr=>cX _ (.inl (D1 hr))) h0.on,λq hq v uD=>?_,λx' IM=>?_⟩
 ·obtain⟨p,hp,rfl⟩:=aT.1 hq
  obtain⟨w,hw,rfl⟩:=aT.1 uD;exact hv w (λhr=>cX _ (.inr (BL hp hw hr))) (h0.bg p hp w hw)
 ·obtain⟨x,qH,rfl⟩:=aT.1 IM
  obtain⟨h1,h2,h3⟩:=hus x qH;obtain⟨g1,g2,g3,g4⟩:=h0.list x qH;refine⟨?_,hv _ (hx x qH _ h1) g2,hv _ (hx x qH _ h2) g3,λv' hv'=>?_⟩
  ·show dE (oP L x.dst)
   unfold oP
   by_cases h:0<=x.dst
   ·rw[al h]
    exact hLl _ (cX _ (.inl (vD qH (BJ h))))
   ·rw[ai h];exact g1
  ·obtain⟨v,uD,rfl⟩:=aT.1 hv'
   exact hv v (hx x qH v (.inl (h3 v uD))) (g4 v uD)
theorem Lr(hu:Whole u)(T:bZ->bZ)(o:bZ->List Nat)(L:bZ->List Int)(hT:∀X R,lj X R->XP X (T X) (o X) (L X)/\(L X).length<=R/\(T X).name=X.name/\(T X).params=X.params):Whole {u with funcs:=u.funcs.map T}:=by
 refine⟨GM hu.ok rfl (aG _) λi X cP hX hY=>?_,λcP hY=>?_,hu.T6⟩
 ·simp only[aW,hX,b_]at hY
  obtain rfl:=bJ hY;obtain⟨R,h⟩:=xj hu.ok hX;obtain⟨h1,h2,h3,h4⟩:=hT X R h;exact ZD hu.ok hX h1 h3 h4 (by have:=h.le;omega)
 ·simp only at hY
  obtain⟨X,hX,rfl⟩:=aT.1 hY;obtain⟨k,hk⟩:=bR hX;obtain⟨R,h⟩:=xj hu.ok hk;obtain⟨h1,h2,h3,h4⟩:=hT X R h;exact V_ hu hk h1 (by have:=h.le;omega)
theorem E_:∀X R,lj X R->XP X (fJ X) (cQ X.blocks) (l_ X.params.toNat (eN X))/\(l_ X.params.toNat (eN X)).length<=R/\(fJ X).name=X.name/\(fJ X).params=X.params:=
 λ_ _ h=>⟨Ry h,E9 h,rfl,rfl⟩
theorem IZ(hu:Whole u):Whole (Oa u):=Lr hu fJ _ _ E_
theorem QA(h:∀i,dY rW i=dY bl i):∀(f b:Nat) (st:List Bool×List Nat),rI rW f b st=rI bl f b st:=by
 intro f
 induction f with
 |zero=>exact λ_ _=>rfl
 |succ f ih=>
  intro b st;have hv:ik rW f=ik bl f:=by
   funext st t
   unfold ik;rw[ih]
  rw[mP,mP,hv,h b]
theorem De(hl:rW.length=bl.length)(h:∀i,dY rW i=dY bl i):cQ rW=cQ bl:=by
 unfold cQ ek;rw[hl,QA h]
theorem Ln(h:lj X R):cQ (fJ X).blocks=bj (fJ X).blocks.length:=by
 have h1:cQ (fJ X).blocks=cQ (eN X):=De (aG _) (Ma _ _);have h2:(fJ X).blocks.length=(cQ X.blocks).length:=by
  show((eN X).map _).length=_;rw[aG];exact dX _ _
 rw[h1,h2];exact Fc h.ok.iD h.pos
theorem WF(h:∀r,r∈mZ B\/r∈pS B->r∈fV n)(hu:∀x∈B.list,(x.a∈eh x\/x.a=lB)/\(x.b∈eh x\/x.b=lB)/\∀v∈x.args,v∈eh x):py (fV n) B=B:=by
 have hv:∀v:cI,(v.dq=true->v.n∈fV n)->cr (fV n) v=v:=λv hv=>by
  unfold cr
  by_cases h1:v.dq=true
  ·rw[al h1,xN (hv h1)]
   obtain⟨a,b⟩:=v;simp only at h1;subst h1
   rfl
  ·rw[ai h1]
 have hx:∀x∈B.list,∀v,v∈eh x\/v=lB->cr (fV n) v=v:=λx hx v uD=>hv v λhr=>by
  rcases uD with uD|rfl
  ·exact h _ (.inl (vD hx (BK uD hr)))
  ·cases hr
 obtain⟨ps,l,k,on,to⟩:=B;unfold py;simp only[aq.mk.injEq,true_and,and_true];refine⟨?_,?_,hv on λhr=>h _ (.inl (D1 (B:=⟨ps,l,k,on,to⟩) hr))⟩
 ·conv=>rhs;rw[<-pF ps]
  refine ew λp hp=>?_;unfold Gs;rw[xN (h _ (.inl (FB (B:=⟨ps,l,k,on,to⟩) hp)))];have:p.src.map (cr (fV n))=p.src:=by
   conv=>rhs;rw[<-pF p.src]
   exact ew λv uD=>hv v λhr=>h _ (.inr (BL (B:=⟨ps,l,k,on,to⟩) hp uD hr))
  rw[this]
  rfl
 ·conv=>rhs;rw[<-pF l]
  refine ew λx qH=>?_;obtain⟨h1,h2,h3⟩:=hu x qH;unfold gz;rw[hx x qH _ h1,hx x qH _ h2];have h4:x.args.map (cr (fV n))=x.args:=by
   conv=>rhs;rw[<-pF x.args]
   exact ew λv uD=>hx x qH v (.inl (h3 v uD))
  have h5:oP (fV n) x.dst=x.dst:=by
   unfold oP
   by_cases h0:0<=x.dst
   ·rw[al h0,xN (h _ (.inl (vD (B:=⟨ps,l,k,on,to⟩) qH (BJ h0))))]
   ·rw[ai h0]
  rw[h4,h5]
  rfl
structure wN(R:Nat)(l:List Int):Prop where
 nodup:l.Nodup
 dq:∀r∈l,0<=r/\r<R
theorem wN.len(h:wN R l):l.length<=R:=by
 have h1:(l.map Int.toNat).Nodup:=mU h.nodup λx hx y hy e=>by
  have:=h.dq x hx;have:=h.dq y hy;omega
 have h2:∀x∈l.map Int.toNat,x∈bj R:=λx hx=>by
  obtain⟨y,hy,rfl⟩:=aT.1 hx;have:=h.dq y hy;exact cW.2 A
 have:=h1.length_le_of_subset h2;simpa using this
theorem wN.meets(h:wN R l)(hs:∀r∈s,0<=r/\r<R):wN R (meets l s):=
 ⟨Dd h.nodup,λr hr=>(vw.1 hr).elim (h.dq r) (hs r)⟩
theorem wN.par(h:P<=R):wN R (fV P):=⟨qL P,λr hr=>by have:=pO.1 hr;omega⟩
theorem RD(r:Nat):iK (fV r) (r:Int)=fV (r+1):=by
 unfold iK;rw[ai (λh=>by have:=pO.1 h;omega)];unfold fV;rw[iV,bz]
 rfl
theorem Hs(l:List Int)(r:Int):meets l [r]=iK l r:=rfl
theorem Xd{R:Int}(h:fA fs R x=0)(ho:y_ R' x):eR x.a++(eR x.b++x.args.flatMap eR)=(eh x).flatMap eR:=by
 unfold fA at h
 split at h
 ·cases h
 rename_i G_
 split at h
 ·cases h
 rename_i hs;simp only[Bool.not_eq_true]at hs;have G_:1<=x.op/\x.op<=22:=by simp[within]at G_;omega
 have oL:∀v:cI,kN v=true->eR v=[]:=λv hv=>by
  obtain⟨vr,vn⟩:=v;simp only[kN,eU,beq_iff_eq,dv]at hv;obtain⟨rfl,rfl⟩:=hv
  rfl
 unfold tG at hs;simp only[Bool.or_eq_false_iff,iW,Bool.not_eq_false',fg]at hs;obtain⟨⟨⟨_,h2⟩,h3⟩,h4⟩:=hs;rw[CQ ho];unfold oS;simp only[ee];have ha:eR x.a=(if (shape x.op).2.1=true then[x.a]else[]).flatMap eR:=by
  rcases h2 with h2|h2
  ·rw[al h2];simp
  ·rw[oL _ h2]
   split
   ·simp[oL _ h2]
   ·rfl
 have hb:eR x.b=(if (shape x.op).2.2=true then[x.b]else[]).flatMap eR:=by
  rcases h3 with h3|h3
  ·rw[al h3];simp
  ·rw[oL _ h3]
   split
   ·simp[oL _ h3]
   ·rfl
 rw[<-ha,<-hb]
theorem Jf{R:Int}(h:fA fs R x=0)(ho:y_ R' x):rM x=eR x.a++(eR x.b++(x.args.flatMap eR++if 0<=x.dst then[x.dst]else[])):=by
 unfold rM;rw[<-Xd h ho];simp
theorem wN.pre(h:wN R m)(hp:l<+:m):wN R l:=⟨h.nodup.sublist hp.sublist,λr hr=>h.dq r (hp.subset hr)⟩
theorem Fu(h:l<+:m)(hv:∀r∈eR v,r∈l):cr l v=cr m v:=by
 unfold cr
 split
 ·rename_i hr
  rw[yH h (hv v.n (by unfold eR;rw[al hr];simp))]
 ·rfl
theorem Jc(L:List Int)(r:Int):0<=gH L r/\gH L r<=L.length:=by
 have:=List.idxOf_le_length (a:=r) (l:=L);unfold gH;omega
theorem rf(h:dE v.n)(hl:L.length<=1000000):dE (cr L v).n:=by
 unfold cr
 split
 ·have:=Jc L v.n
  exact⟨by simp only;omega,by simp only;omega⟩
 ·exact h
theorem PW(h:dE r)(hl:L.length<=1000000):dE (oP L r):=by
 unfold oP
 split
 ·have:=Jc L r
  exact⟨A,A⟩
 ·exact h
theorem CO{l:List α}(h:j+2<=l.length)(a b:α):l.take j++[a,b]++l.drop (j+2)=(l.set j a).set (j+1) b:=by
 apply cY;intro k;rw[fu]
 by_cases h1:k<j
 ·rw[eX (by rw[dA];omega),List.getElem?_take,al h1,fY A,fY A]
 ·rw[dH (by rw[dA];omega),dA,fP A]
  by_cases h2:k=j
  ·subst h2
   rw[cV,fY A,fk A]
   rfl
  ·by_cases h3:k=j+1
   ·subst h3
    rw[show j+1-j=1 by omega,fk (by rw[fK];omega)]
    rfl
   ·rw[dH dr,gp,fY A,fY A]
    congr 1;simp;omega
end
end Go.Proofs.YthfhgolkafpmnaaGreatDoor
