/- Texts joined: TidyP TidyM TidyS TidyC TidyN NamesP. -/
import Derived.Test.YthfhgolkafpmnaaGreatDoorHN
namespace Go.Proofs.YthfhgolkafpmnaaGreatDoor
open Option renaming some->Z,none->A
open Go Go.RowKit
section
def px:E:=⟨[],[],1,⟨false,0⟩,[]⟩
def aN(bl:List E)(b:Nat):E:=bl[b]?.getD px
def fj(bl:List E)(o:List Nat)(b:Nat)(p:ep):ep:=⟨p.dst,(o.filter λq=>decide (q∈aZ bl b)).map (jq bl b p)⟩
def je(bl:List E)(o:List Nat)(b:Nat)(B:E):E:={B with aD:=B.aD.map (fj bl o b),to:=B.to.map λt=>((o.idxOf t.toNat:Nat):Int)}
def cV(bl:List E)(o:List Nat):List E:=o.map λb=>je bl o b (aN bl b)
structure KB(bl:List E)(o:List Nat):Prop where
 nodup:o.Nodup
 lt:∀b∈o,b<bl.length
 closed:∀b∈o,∀t∈db bl b,t.toNat∈o
def nth(o:List Nat)(i:Nat):Nat:=o[i]?.getD 0
theorem lr{o:List Nat}{i b:Nat}(h:o[i]?=Z b):nth o i=b:=by unfold nth;rw[h];rfl
theorem gm{o:List Nat}{i:Nat}(h:i<o.length):o[i]?=Z (nth o i):=by unfold nth;rw[a_ h];rfl
theorem jv{o:List Nat}{i:Nat}(h:i<o.length):nth o i∈o:=aq (gm h)
theorem vz{o:List Nat}{b:Nat}(h:b∈o):o.idxOf b<o.length:=ju h
theorem oj{o:List Nat}{b:Nat}(h:b∈o):nth o (o.idxOf b)=b:=by
 unfold nth;rw[a_ (vz h),mN]
 rfl
theorem uu{o:List Nat}(hn:o.Nodup){i j:Nat}(hi:i<o.length)(hj:j<o.length)(h:nth o i=nth o j):i=j:=by
 unfold nth at h;rw[a_ hi,a_ hj]at h;exact(List.getElem_inj hn).1 h
theorem uh{o:List Nat}(hn:o.Nodup){i:Nat}(hi:i<o.length):o.idxOf (nth o i)=i:=
 uu hn (vz (jv hi)) hi (oj (jv hi))
theorem XM(o:List Nat):(List.range o.length).map (nth o)=o:=by
 apply ci;intro i;rw[aJ]
 by_cases h:i<o.length
 ·rw[eX h,bu,<-gm h]
 ·rw[bO dp,bO I];rfl
theorem d_(bl:List E)(o:List Nat):(cV bl o).length=o.length:=by simp[cV]
theorem jB{bl:List E}{b:Nat}{B:E}(h:bl[b]?=Z B):aN bl b=B:=by unfold aN;rw[h];rfl
theorem bM{bl:List E}{b:Nat}(h:b<bl.length):bl[b]?=Z (aN bl b):=by unfold aN;rw[a_ h];rfl
theorem kr{bl:List E}{o:List Nat}{i b:Nat}(h:o[i]?=Z b):(cV bl o)[i]?=Z (je bl o b (aN bl b)):=by
 unfold cV;rw[aJ,h]
 rfl
theorem ls{bl:List E}{b:Nat}(h:b<bl.length):db bl b=(aN bl b).to:=by
 unfold db;rw[bM h]
section
variable {bl:List E} {o:List Nat} (hg:cT bl) (hk:KB bl o)
include hg hk
theorem tD{i b:Nat}(h:o[i]?=Z b):db (cV bl o) i=(db bl b).map λt=>((o.idxOf t.toNat:Nat):Int):=by
 have _:=hg;rw[ls (hk.lt b (aq h))];unfold db;rw[kr h]
 rfl
theorem td:cT (cV bl o):=λakh hC=>by
 obtain⟨i,hi⟩:=bg hC;have iJ:i<o.length:=by rw[<-d_ bl o];exact(az.1 hi).1
 have ii:=tD hg hk (gm iJ);have h1:db (cV bl o) i=akh.to:=by unfold db;rw[hi]
 rw[h1]at ii;rw[ii,d_];have hb:=hk.lt _ (jv iJ);refine⟨by rw[aF,ls hb];exact(hg _ (aq (bM hb))).1,λt ht=>?_⟩;obtain⟨x,hx,rfl⟩:=aV.1 ht;have:=vz (hk.closed _ (jv iJ) x hx);omega
theorem TV{i j b t:Nat}(hi:o[i]?=Z b)(hj:o[j]?=Z t):(j:Int)∈db (cV bl o) i↔(t:Int)∈db bl b:=by
 have Zi:=aq hi;have jw:=(az.1 hj).1;rw[tD hg hk hi,aV];constructor
 ·rintro⟨x,hx,e⟩
  have h1:=rY hg hx;have h2:=oj (hk.closed b Zi x hx);rw[show o.idxOf x.toNat=j by omega,lr hj]at h2;rw[show(t:Int)=x by omega];exact hx
 ·intro h
  refine⟨t,h,?_⟩;rw[dO];have:=uh hk.nodup jw;rw[lr hj]at this;rw[this]
theorem xU{j t:Nat}(hj:o[j]?=Z t):aZ (cV bl o) j=(List.range o.length).filter λi=>decide (nth o i∈aZ bl t):=by
 unfold aZ;rw[d_];refine rV λi hi=>?_;have iJ:=cM.1 hi;rw[decide_eq_decide,TV hg hk (gm iJ) hj,cC,cM,decide_eq_true_eq];exact⟨λh=>⟨hk.lt _ (jv iJ),h⟩,λh=>h.2⟩
theorem DL{j t:Nat}(hj:o[j]?=Z t):(aZ (cV bl o) j).map (nth o)=o.filter λq=>decide (q∈aZ bl t):=by
 rw[xU hg hk hj];have h:=XM o;have h2:((List.range o.length).map (nth o)).filter (λq=>decide (q∈aZ bl t))=((List.range o.length).filter λi=>decide (nth o i∈aZ bl t)).map (nth o):=by rw[List.filter_map];rfl
 rw[<-h2,h]
theorem r9{j t:Nat}(hj:o[j]?=Z t)(p:ep):(fj bl o t p).src=(aZ (cV bl o) j).map λi=>jq bl t p (nth o i):=by
 unfold fj;rw[<-DL hg hk hj,dE]
 rfl
theorem LQ{i j t:Nat}(hj:o[j]?=Z t)(hi:i∈aZ (cV bl o) j)(p:ep):jq (cV bl o) j (fj bl o t p) i=jq bl t p (nth o i):=by
 unfold jq;rw[r9 hg hk hj,cB,aJ,a_ (ju hi),mN]
 rfl
omit hk in
theorem xN(hk:KB bl o)(oZ:∀(b:Nat) B,bl[b]?=Z B->B.to.Nodup):∀(i:Nat) akh,(cV bl o)[i]?=Z akh->akh.to.Nodup:=λi akh hC=>by
 have iJ:i<o.length:=by rw[<-d_ bl o];exact(az.1 hC).1
 have hb:=hk.lt _ (jv iJ);have ii:=tD hg hk (gm iJ);have h1:db (cV bl o) i=akh.to:=by unfold db;rw[hC]
 rw[<-h1,ii];refine nD (by rw[ls hb];exact oZ _ _ (bM hb)) λx hx y hy e=>?_;have BI:=rY hg hx;have hy1:=rY hg hy;have Ew:=oj (hk.closed _ (jv iJ) x hx);have hy2:=oj (hk.closed _ (jv iJ) y hy);rw[show o.idxOf x.toNat=o.idxOf y.toNat by omega]at Ew;omega
end
theorem lL{R:Nat}{bl:List E}{o:List Nat}(hf:fu R bl)(hk:KB bl o):fu R (cV bl o):=by
 have hg:=hf.iM;refine⟨td hg hk,λi akh hC=>?_⟩;have iJ:i<o.length:=by rw[<-d_ bl o];exact(az.1 hC).1
 have oZ:=xN hg hk (λb B hB=>(hf.block b B hB).to) i akh hC;have hb:=hk.lt _ (jv iJ);have hB:=hf.block _ _ (bM hb);rw[kr (gm iJ)]at hC;obtain rfl:=a7 hC;refine⟨λp' wi=>?_,hB.list,hB.on,oZ⟩;unfold je at wi;simp only at wi;obtain⟨p,hp,rfl⟩:=aV.1 wi;have De:=hB.aD p hp;refine⟨De.dst,by rw[r9 hg hk (gm iJ),aF],λv hv=>?_⟩;unfold fj at hv;simp only at hv;obtain⟨x,hx,rfl⟩:=aV.1 hv;have h2:=(cC.1 hx).2;exact De.uJ _ (wC (R:=R) De.len (ax h2))
theorem y8{R:Nat}{bl:List E}(hf:fu R bl):cV bl (List.range bl.length)=bl:=by
 have hg:=hf.iM;unfold cV;apply ci;intro i
 by_cases hi:i<bl.length
 ·rw[aJ,eX hi,bu,bM hi]
  have hB:=hf.block _ _ (bM hi);congr 1;have SD:∀t:Nat,t<bl.length->(List.range bl.length).idxOf t=t:=λt ht=>by
   have:=uh (o:=List.range bl.length) qE (i:=t) (ax ht);rwa[lr (eX ht)]at this
  unfold je;have e1:(aN bl i).aD.map (fj bl (List.range bl.length) i)=(aN bl i).aD:=by
   conv=>rhs;rw[<-ll (aN bl i).aD]
   refine dD λp hp=>?_;unfold fj;have e2:(List.range bl.length).filter (λq=>decide (q∈aZ bl i))=aZ bl i:=by
    unfold aZ;refine rV λq hq=>?_;rw[decide_eq_decide,cC,decide_eq_true_eq];exact⟨λh=>h.2,λh=>⟨hq,h⟩⟩
   rw[e2,QI (hB.aD p hp).len]
   rfl
  have e3:(aN bl i).to.map (λt=>(((List.range bl.length).idxOf t.toNat:Nat):Int))=(aN bl i).to:=by
   conv=>rhs;rw[<-ll (aN bl i).to]
   refine dD λt ht=>?_;have:=rY hg (b:=i) (t:=t) (by rw[ls hi];exact ht);rw[SD t.toNat I];simp only[id];omega
  rw[e1,e3]
 ·rw[bO dp,bO I]
structure aae(bl oy:List E)(π:Nat->Nat):Prop where
 lt:∀i,i<oy.length->π i<bl.length
 inj:∀i j,i<oy.length->j<oy.length->π i=π j->i=j
 to:∀i,i<oy.length->((db oy i).map Int.toNat).map π=(db bl (π i)).map Int.toNat
 iM:cT oy
structure OO(bl oy:List E)(π:Nat->Nat)(st HP:List Bool×List Nat):Prop where
 len:st.1.length=bl.length
 abO:HP.1.length=oy.length
 seen:∀i,i<oy.length->HP.1[i]?=st.1[π i]?
 left:st.2=HP.2.map π
theorem Wn{bl oy:List E}{π:Nat->Nat}(h:aae bl oy π):∀(f f' b:Nat) (st HP:List Bool×List Nat),OO bl oy π st HP->b<oy.length->HP.1[b]?=Z false->gW st.1<=f->gW HP.1<=f'->OO bl oy π (yg bl f (π b) st) (yg oy f' b HP):=by
 intro f
 induction f with
 |zero=>
  intro f' b st HP hr hb hs hu hu';have:=rL (l:=st.1) (t:=π b) (by rw[<-hr.seen b hb];exact hs);omega
 |succ f ih=>
  intro f' b st HP hr hb hs hu hu';have Q9:st.1[π b]?=Z false:=by rw[<-hr.seen b hb];exact hs
  obtain⟨f',rfl⟩:∃k,f'=k+1:=⟨f'-1,by have:=rL hs;omega⟩;have h1:=pC hs;have h2:=pC Q9;rw[mA,mA];have key:∀(l:List Nat) (s s':List Bool×List Nat),(∀t∈l,t<oy.length)->OO bl oy π s s'->gW s.1<=f->gW s'.1<=f'->OO bl oy π ((l.map π).foldl (gC bl f) s) (l.foldl (gC oy f') s'):=by
   intro l
   induction l with
   |nil=>exact λs s' _ hs _ _=>hs
   |cons t l ihl=>
    intro s s' hl hs hu hu';have ht:=hl t aC;rw[bT,gj,gj];have r7:OO bl oy π (gC bl f s (π t)) (gC oy f' s' t):=by
     have lK:=hs.seen t ht;unfold gC;rw[<-lK]
     by_cases e:s'.1[t]?.getD true=true
     ·rw[if_pos e,if_pos e];exact hs
     ·rw[if_neg e,if_neg e]
      exact ih f' t s s' hs ht (xC (ax e)) hu hu'
    have g1:=(i_ bl f s [π t]).2.2.1;have g2:=(i_ oy f' s' [t]).2.2.1;simp only[gj,List.foldl_nil]at g1 g2;exact ihl _ _ (λx hx=>hl x (by simp[hx])) r7 I I
  have e1:(db bl (π b)).reverse.map Int.toNat=((db oy b).reverse.map Int.toNat).map π:=by
   rw[List.map_reverse,List.map_reverse,List.map_reverse,<-h.to b hb]
  rw[e1];have hk:=key ((db oy b).reverse.map Int.toNat) (st.1.set (π b) true,st.2) (HP.1.set b true,HP.2) (λt ht=>?_) ⟨by simp[hr.len],by simp[hr.abO],λi hi=>?_,hr.left⟩ bK bK
  ·exact⟨hk.len,hk.abO,hk.seen,by simp only[bz,bT,dn,hk.left]⟩
  ·obtain⟨akj,hz,rfl⟩:=aV.1 ht
   have hz:=List.mem_reverse.1 hz;have:=rY h.iM hz;omega
  ·simp only[ez]
   by_cases e:b=i
   ·subst e
    rw[if_pos rfl,if_pos rfl,if_pos (by rw[hr.abO];exact hi),if_pos (by rw[hr.len];exact h.lt _ hi)]
   ·rw[if_neg e,if_neg (λe2=>e (h.inj b i hb hi e2))]
    exact hr.seen i hi
theorem UE{bl oy:List E}{π:Nat->Nat}(h:aae bl oy π)(h0:0<oy.length)(hz:π 0=0):fx bl=(fx oy).map π:=by
 have uZ:=h.lt 0 h0;have hr:OO bl oy π (List.replicate bl.length false,[]) (List.replicate oy.length false,[]):=⟨by simp,by simp,λi hi=>by
  have:=h.lt i hi;simp only;rw[g_,g_,if_pos hi,if_pos this],rfl⟩
 have:=Wn h bl.length oy.length 0 _ _ hr h0 (by simp[h0]) (by simp only[pB];omega) (by simp only[pB];omega);rw[hz]at this;exact this.left
theorem PO{bl:List E}{o:List Nat}(hg:cT bl)(hk:KB bl o):aae bl (cV bl o) (nth o):=by
 refine⟨λi hi=>hk.lt _ (jv (by rwa[d_]at hi)),λi j hi hj e=>uu hk.nodup (by rwa[d_]at hi) (by rwa[d_]at hj) e,λi hi=>?_,td hg hk⟩;have iJ:i<o.length:=by rwa[d_]at hi
 rw[tD hg hk (gm iJ),dE,dE];refine dD λt ht=>?_;simp only[Function.comp_apply,dO];exact oj (hk.closed _ (jv iJ) t ht)
theorem kt{bl:List E}(hg:cT bl)(h0:0<bl.length):KB bl (bI bl):=by
 have ho:=rC hg h0;refine⟨ho.nodup,λb hb=>hg.zQ h0 ((ho.mem b).1 hb),λb hb t ht=>(ho.mem _).2 ?_⟩;have:=rY hg ht;exact .step ((ho.mem b).1 hb) (by unfold Edge;rw[show((t.toNat:Nat):Int)=t by omega];exact ht) I
theorem qU{bl:List E}(hg:cT bl)(h0:0<bl.length):0<(bI bl).length/\nth (bI bl) 0=0:=by
 have ho:=rC hg h0;exact⟨(az.1 ho.zero).1,lr ho.zero⟩
theorem Mj{bl:List E}{o:List Nat}(hg:cT bl)(hk:KB bl o)(h0:0<o.length)(hz:nth o 0=0):bI bl=(bI (cV bl o)).map (nth o):=by
 have h:=UE (PO hg hk) (by rw[d_];exact h0) hz;unfold bI;rw[h,List.map_reverse]
theorem DG{bl:List E}(hg:cT bl)(h0:0<bl.length):bI (cV bl (bI bl))=List.range (bI bl).length:=by
 have hk:=kt hg h0;obtain⟨hp,hz⟩:=qU hg h0;have h1:=Mj hg hk hp hz;have Lm:=td hg hk;have Lu:0<(cV bl (bI bl)).length:=by rw[d_];exact hp
 have bS:=(kt Lm Lu).lt;have hl:(bI (cV bl (bI bl))).length=(bI bl).length:=by
  have:=congrArg List.length h1;rw[aF]at this;exact this.symm
 apply ci;intro i
 by_cases hi:i<(bI bl).length
 ·rw[eX hi,gm (by rw[hl];exact hi)]
  congr 1;have h2:nth (bI bl) i=nth ((bI (cV bl (bI bl))).map (nth (bI bl))) i:=congrArg (λl=>nth l i) h1;rw[show nth ((bI (cV bl (bI bl))).map (nth (bI bl))) i=nth (bI bl) (nth (bI (cV bl (bI bl))) i) by
   rw[lr (o:=(bI (cV bl (bI bl))).map (nth (bI bl)))];rw[aJ,gm (by rw[hl];exact hi)];rfl]at h2
  have h3:=bS _ (jv (show i<(bI (cV bl (bI bl))).length by rw[hl];exact hi));rw[d_]at h3;exact(uu hk.nodup hi h3 h2).symm
 ·rw[bO (by rw[hl];omega),bO dp]
def iZ(l:List Int)(r:Int):List Int:=if r∈l then l else l++[r]
def meets(l s:List Int):List Int:=s.foldl iZ l
def AC(s:List Int):List Int:=meets [] s
theorem jh(l s t:List Int):meets l (s++t)=meets (meets l s) t:=pF
theorem th(l:List Int):meets l []=l:=rfl
theorem ry(l:List Int)(r:Int)(t:List Int):meets l (r::t)=meets (iZ l r) t:=rfl
theorem Um(s t:List Int):AC (s++t)=meets (AC s) t:=jh _ _ _
theorem rz{l:List Int}{r x:Int}:x∈iZ l r↔x∈l∨x=r:=by
 unfold iZ
 split
 ·rename_i h
  exact⟨.inl,λh2=>h2.elim id λe=>e▸h⟩
 ·rw[bA,bR]
theorem ti{s:List Int}:∀{l:List Int} {x:Int},x∈meets l s↔x∈l∨x∈s:=by
 induction s with
 |nil=>intro l x;rw[th];simp
 |cons a s ih=>
  intro l x;rw[ry,ih,rz,bD,or_assoc]
theorem pX{s:List Int}{x:Int}:x∈AC s↔x∈s:=by unfold AC;rw[ti];simp
theorem L8{l:List Int}{r:Int}(h:l.Nodup):(iZ l r).Nodup:=by
 unfold iZ
 split
 ·exact h
 ·rename_i hr
  exact pI.2 ⟨h,by simp,λa ha b hb e=>hr (by rw[bR]at hb;rw[<-hb,<-e];exact ha)⟩
theorem Bo{s:List Int}:∀{l:List Int},l.Nodup->(meets l s).Nodup:=by
 induction s with
 |nil=>intro l h;exact h
 |cons a s ih=>intro l h;exact ih (L8 h)
theorem DE(s:List Int):(AC s).Nodup:=Bo List.nodup_nil
theorem JB(l:List Int)(r:Int):l<+:iZ l r:=by
 unfold iZ
 split
 ·exact List.prefix_refl l
 ·exact List.prefix_append _ _
theorem wu(s:List Int):∀l:List Int,l<+:meets l s:=by
 induction s with
 |nil=>exact λl=>List.prefix_refl l
 |cons a s ih=>exact λl=>(JB l a).trans (ih _)
theorem Uo(s t:List Int):AC s<+:AC (s++t):=by rw[Um];exact wu _ _
theorem XA{l m:List Int}{r:Int}(h:l<+:m)(hr:r∈l):m.idxOf r=l.idxOf r:=by
 obtain⟨t,rfl⟩:=h;rw[List.idxOf_append,if_pos hr]
theorem B8{l:List Int}{r:Int}(h:r∈l):iZ l r=l:=by unfold iZ;rw[if_pos h]
theorem JC{s:List Int}:∀{l:List Int},(∀r∈s,r∈l)->meets l s=l:=by
 induction s with
 |nil=>intro l _;rfl
 |cons a s ih=>intro l h;rw[ry,B8 (h a aC)];exact ih λr hr=>h r (by simp[hr])
theorem FO{s:List Int}(h:s.Nodup):AC s=s:=by
 have key:∀(s l:List Int),(l++s).Nodup->meets l s=l++s:=by
  intro s
  induction s with
  |nil=>intro l _;rw[th,cD]
  |cons a s ih=>
   intro l h;have ha:a∉l:=λhl=>(pI.1 h).2.2 a hl a aC rfl;rw[ry,show iZ l a=l++[a] by unfold iZ;rw[if_neg ha],ih _ (ax h)];simp
 exact key s [] (ax h)
theorem PY{f:Int->Int}{s:List Int}:∀{l:List Int},(∀a∈l++s,∀b∈l++s,f a=f b->a=b)->meets (l.map f) (s.map f)=(meets l s).map f:=by
 induction s with
 |nil=>intro l _;rfl
 |cons r s ih=>
  intro l h;have h1:iZ (l.map f) (f r)=(iZ l r).map f:=by
   unfold iZ
   by_cases e:r∈l
   ·rw[if_pos e,if_pos (List.mem_map_of_mem e)]
   ·rw[if_neg e,if_neg,bz]
    ·rfl
    ·intro hm
     obtain⟨a,ha,e2⟩:=aV.1 hm;exact e (h a (by simp[ha]) r aC e2▸ha)
  rw[bT,ry,ry,h1];refine ih λa ha b hb=>h a ?_ b ?_
  ·rcases bA.1 ha with ha|ha
   ·rcases rz.1 ha with ha|ha
    ·simp[ha]
    ·simp[ha]
   ·simp[ha]
  ·rcases bA.1 hb with hb|hb
   ·rcases rz.1 hb with hb|hb
    ·simp[hb]
    ·simp[hb]
   ·simp[hb]
theorem JN{f:Int->Int}{s:List Int}(h:∀a∈s,∀b∈s,f a=f b->a=b):AC (s.map f)=(AC s).map f:=
 PY (l:=[]) (ax h)
def eG(v:cg):List Int:=if v.z then[v.n]else[]
def rI(x:dJ):List Int:=(ff x).flatMap eG++if 0<=x.dst then[x.dst]else[]
def nj(B:E):List Int:=B.aD.map (·.dst)++(B.list.flatMap rI++eG B.on)
def qi(B:E):List Int:=B.aD.flatMap λp=>p.src.flatMap eG
def eO(n:Nat):List Int:=(List.range n).map λx:Nat=>(x:Int)
def AI(params:Nat)(bl:List E):List Int:=eO params++(bl.flatMap nj++bl.flatMap qi)
def gi(params:Nat)(bl:List E):List Int:=AC (AI params bl)
def fE(L:List Int)(r:Int):Int:=((L.idxOf r:Nat):Int)
def cu(L:List Int)(v:cg):cg:=if v.z then⟨true,fE L v.n⟩else v
def nN(L:List Int)(r:Int):Int:=if 0<=r then fE L r else r
def iA(L:List Int)(x:dJ):dJ:={x with a:=cu L x.a,b:=cu L x.b,args:=x.args.map (cu L),dst:=nN L x.dst}
def JX(L:List Int)(p:ep):ep:=⟨fE L p.dst,p.src.map (cu L)⟩
def iQ(L:List Int)(B:E):E:={B with aD:=B.aD.map (JX L),list:=B.list.map (iA L),on:=cu L B.on}
def c9(X:aY):List E:=cV X.blocks (bI X.blocks)
def en(X:aY):aY:={X with aB:=(gi X.params.toNat (c9 X)).length,blocks:=(c9 X).map (iQ (gi X.params.toNat (c9 X)))}
theorem pq{L:List Int}{r:Int}(h:r∈L):0<=fE L r/\fE L r<L.length:=by
 have:=ju h;unfold fE;omega
theorem zm{L:List Int}{a b:Int}(ha:a∈L)(hb:b∈L)(h:fE L a=fE L b):a=b:=by
 unfold fE at h;have h1:L[L.idxOf a]'(ju ha)=a:=mN _;have h2:L[L.idxOf b]'(ju hb)=b:=mN _;have h3:L.idxOf a=L.idxOf b:=I;rw[<-h1,<-h2];simp only[h3]
theorem uA{l m:List Int}{r:Int}(h:l<+:m)(hr:r∈l):fE m r=fE l r:=by unfold fE;rw[XA h hr]
theorem uw(n:Nat):(eO n).Nodup:=nD qE λx _ y _ e=>by omega
theorem jm{n:Nat}{r:Int}:r∈eO n↔0<=r/\r<n:=by
 unfold eO;rw[aV];constructor
 ·rintro⟨x,hx,rfl⟩
  have:=cM.1 hx;omega
 ·rintro⟨h1,h2⟩
  exact⟨r.toNat,cM.2 I,I⟩
theorem mH(n:Nat):(eO n).length=n:=by simp[eO]
theorem tq{n:Nat}{r:Int}(h:r∈eO n):fE (eO n) r=r:=by
 have h1:=pq h;rw[mH]at h1;have h2:(eO n)[(eO n).idxOf r]'(ju h)=r:=mN _;unfold fE at h1⊢;simp only[eO,List.getElem_map,List.getElem_range]at h2;exact h2
theorem B9(params:Nat)(bl:List E):eO params<+:gi params bl:=by
 have:=Uo (eO params) (bl.flatMap nj++bl.flatMap qi);rwa[FO (uw _)]at this
theorem Ho{params:Nat}{bl:List E}{r:Int}(h:r∈eO params):fE (gi params bl) r=r:=by rw[uA (B9 params bl) h,tq h]
theorem vG{params:Nat}{bl:List E}{r:Int}:r∈gi params bl↔r∈eO params∨(∃B∈bl,r∈nj B)∨∃B∈bl,r∈qi B:=by
 unfold gi AI;rw[pX,bA,bA,df,df]
theorem jZ{α β:Type}{l:List α}{f g:α->List β}(h:∀x∈l,f x=g x):l.flatMap f=l.flatMap g:=by
 rw[qB,qB,dD h]
theorem J3{L:List Int}(v:cg):eG (cu L v)=(eG v).map (fE L):=by
 unfold eG cu
 by_cases h:v.z=true
 ·rw[if_pos h,if_pos h,if_pos rfl];rfl
 ·have h2:v.z=false:=ax h
  simp[h2]
theorem MN(L:List Int)(x:dJ):ff (iA L x)=(ff x).map (cu L):=by
 unfold ff iA;simp only
 split
 ·rfl
 split
 ·rfl
 split
 ·rfl
 split<;>rfl
theorem Ix{L:List Int}(l:List cg):(l.map (cu L)).flatMap eG=(l.flatMap eG).map (fE L):=by
 rw[lS,pH];refine jZ λv _=>J3 v
theorem U5(L:List Int)(x:dJ):rI (iA L x)=(rI x).map (fE L):=by
 unfold rI;rw[MN,Ix,bz];congr 1;unfold iA nN;simp only
 by_cases h:0<=x.dst
 ·have h2:0<=fE L x.dst:=by unfold fE;omega
  simp only[h,if_true,h2,bT,dn]
 ·simp only[h,if_false,dn]
theorem U4(L:List Int)(B:E):nj (iQ L B)=(nj B).map (fE L):=by
 unfold nj iQ;simp only[bz,dE];congr 1;rw[J3];congr 1;rw[lS,pH];exact jZ λx _=>U5 L x
theorem U8(L:List Int)(B:E):qi (iQ L B)=(qi B).map (fE L):=by
 unfold qi iQ;simp only;rw[lS,pH];exact jZ λp _=>Ix p.src
theorem U6{params:Nat}{bl:List E}:AI params (bl.map (iQ (gi params bl)))=(AI params bl).map (fE (gi params bl)):=by
 unfold AI;simp only[bz];congr 1
 ·conv=>lhs;rw[<-ll (eO params)]
  exact dD λr hr=>(Ho hr).symm
 ·congr 1
  ·rw[lS,pH]
   exact jZ λB _=>U4 _ B
  ·rw[lS,pH]
   exact jZ λB _=>U8 _ B
theorem XN{L:List Int}(h:L.Nodup):L.map (fE L)=eO L.length:=by
 apply ci;intro i;unfold eO;rw[aJ,aJ]
 by_cases hi:i<L.length
 ·rw[a_ hi,eX hi]
  simp only[bu,fE,b_,Int.natCast_inj];have hm:L[i]∈L:=j9 hi;exact(List.getElem_inj h).1 (mN (ju hm))
 ·rw[bO I,bO dp];rfl
theorem P1(params:Nat)(bl:List E):gi params (bl.map (iQ (gi params bl)))=eO (gi params bl).length:=by
 have h:gi params (bl.map (iQ (gi params bl)))=(gi params bl).map (fE (gi params bl)):=by
  rw[show gi params (bl.map (iQ (gi params bl)))=AC (AI params (bl.map (iQ (gi params bl))))from rfl,U6];exact JN λa ha b hb e=>zm (pX.2 ha) (pX.2 hb) e
 rw[h,XN (show(gi params bl).Nodup from DE _)]
theorem XP{params:Nat}{R:Nat}{bl:List E}(h:∀r∈AI params bl,0<=r/\r<R):(gi params bl).length<=R:=by
 have h1:((gi params bl).map Int.toNat).Nodup:=nD (DE _) λx hx y hy e=>by
  have:=h x (pX.1 hx);have:=h y (pX.1 hy);omega
 have h2:∀x∈(gi params bl).map Int.toNat,x∈List.range R:=λx hx=>by
  obtain⟨y,hy,rfl⟩:=aV.1 hx;have:=h y (pX.1 hy);exact cM.2 I
 have:=h1.length_le_of_subset h2;simpa using this
def p_(L rs ss:List Int):Prop:=∀r∈L,ss[(fE L r).toNat]?=rs[r.toNat]?
theorem p_.val{L:List Int}{f g:mf}(h:p_ L f.aB g.aB){v:cg}(hv:v.z=true->v.n∈L):cK g (cu L v)=cK f v:=by
 unfold cK cu
 by_cases hr:v.z=true
 ·rw[if_pos hr,if_pos hr]
  simp only[if_true];rw[cB,cB,h v.n (hv hr)]
 ·rw[if_neg hr,if_neg hr,if_neg hr]
theorem p_.put{L rs ss:List Int}(hL:∀r∈L,0<=r)(h:p_ L rs ss){d:Int}(hd:d∈L)(n:Int):p_ L (rs.set d.toNat n) (ss.set (fE L d).toNat n):=λr hr=>by
 have h0:=h d hd;rw[ez,ez]
 by_cases e:d=r
 ·subst e
  rw[if_pos rfl,if_pos rfl]
  by_cases h1:d.toNat<rs.length
  ·rw[if_pos h1,if_pos]
   rw[a_ h1]at h0;exact(az.1 h0).1
  ·rw[if_neg h1,if_neg]
   rw[bO (l:=rs) I]at h0;have:=kD.1 h0;omega
 ·have h1:¬d.toNat=r.toNat:=λe2=>e (by have:=hL d hd;have:=hL r hr;omega)
  have h2:¬(fE L d).toNat=(fE L r).toNat:=λe2=>e (zm hd hr (by have:=pq hd;have:=pq hr;omega));rw[if_neg h1,if_neg h2];exact h r hr
theorem p_.set{L rs ss:List Int}(hL:∀r∈L,0<=r)(h:p_ L rs ss){d:Int}(hd:0<=d->d∈L)(n:Int):p_ L (uD rs d n) (uD ss (nN L d) n):=by
 unfold uD nN
 by_cases h1:0<=d
 ·have:=pq (hd h1)
  rw[if_pos h1,if_pos h1,if_pos I];exact h.put hL (hd h1) n
 ·rw[if_neg h1,if_neg h1,if_neg h1]
  exact h
theorem p_.aD{L:List Int}(hL:∀r∈L,0<=r){f g:mf}(h:p_ L f.aB g.aB){k k':Nat}{F:ep->ep}{ps:List ep}(hp:∀p∈ps,p.dst∈L/\(F p).dst=fE L p.dst/\cK g ((F p).src.getD k' iu)=cK f (p.src.getD k iu)):p_ L (jp f k ps) (jp g k' (ps.map F)):=by
 unfold jp;rw[List.foldl_map];have key:∀(ps:List ep) (rs ss:List Int),(∀p∈ps,p.dst∈L/\(F p).dst=fE L p.dst/\cK g ((F p).src.getD k' iu)=cK f (p.src.getD k iu))->p_ L rs ss->p_ L (ps.foldl (λaB p=>aB.set p.dst.toNat (cK f (p.src.getD k iu))) rs) (ps.foldl (λaB p=>aB.set (F p).dst.toNat (cK g ((F p).src.getD k' iu))) ss):=by
  intro ps
  induction ps with
  |nil=>exact λ_ _ _ h=>h
  |cons p ps ih=>
   intro rs ss hp h;obtain⟨h1,h2,h3⟩:=hp p aC;rw[gj,gj,h2,h3];exact ih _ _ (λq hq=>hp q (by simp[hq])) (h.put hL h1 _)
 exact key ps _ _ hp h
theorem p_.enter{L args:List Int}{P R:Nat}(hp:eO P<+:L)(hb:∀r∈L,0<=r/\r<R)(ha:args.length=P):p_ L (eN R args) (eN L.length args):=λr hr=>by
 have h1:=hb r hr;have h2:=pq hr;have hk:∀i:Nat,(args++List.replicate R 0)[i]?=(if i<P then args[i]? else(List.replicate R (0:Int))[i-P]?)/\(args++List.replicate L.length 0)[i]?=if i<P then args[i]? else(List.replicate L.length (0:Int))[i-P]?:=λi=>by
  rw[List.getElem?_append,List.getElem?_append,ha];exact⟨rfl,rfl⟩
 unfold eN;rw[tL,tL,if_pos I,if_pos I,(hk _).1,(hk _).2]
 by_cases h3:r.toNat<P
 ·have h4:fE L r=r:=by
   have h5:r∈eO P:=jm.2 I;rw[uA hp h5,tq h5]
  rw[if_pos h3,if_pos I,h4]
 ·have h4:¬(fE L r).toNat<P:=λh4=>by
   have h5:fE L r∈eO P:=jm.2 I;have h6:fE L (fE L r)=fE L r:=by rw[uA hp h5,tq h5]
   have h7:=zm (hp.subset h5) hr h6;omega
  rw[if_neg h3,if_neg h4,g_,g_,if_pos I,if_pos I]
structure V9(X Y:aY)(o:List Nat)(L:List Int):Prop where
 ok:KB X.blocks o
 zero:0<o.length/\nth o 0=0
 blocks:Y.blocks=(cV X.blocks o).map (iQ L)
 aB:Y.aB=L.length
 par:eO X.params.toNat<+:L
 all:∀B∈cV X.blocks o,∀r,r∈nj B∨r∈qi B->r∈L
 MW:∀r∈L,0<=r/\r<X.aB
structure NmU(u v:a8)(o:Nat->List Nat)(L:Nat->List Int):Prop where
 vt:v.globals=u.globals
 main:dh v.funcs=dh u.funcs
 fn:∀(k:Nat) X,u.funcs[k]?=Z X->∃Y,v.funcs[k]?=Z Y/\V9 X Y (o k) (L k)
structure FTn(o:Nat->List Nat)(L:Nat->List Int)(f g:mf):Prop where
 fn:g.fn=f.fn
 block:g.block<(o f.fn).length/\nth (o f.fn) g.block=f.block
 at':g.at'=f.at'
 aB:p_ (L f.fn) f.aB g.aB
structure FRn(o:Nat->List Nat)(L:Nat->List Int)(d e:Int)(f g:mf):Prop where
 same:FTn o L f g
 dst:e=nN (L f.fn) d
 has:0<=d->d∈L f.fn
theorem FRn.back{o:Nat->List Nat}{L:Nat->List Int}{d e:Int}{f g:mf}(h:FRn o L d e f g)(hL:∀r∈L f.fn,0<=r)(n:Int):FTn o L (f.set d n) (g.set e n):=by
 obtain⟨⟨h1,h2,h3,h4⟩,h5,h6⟩:=h;subst h5;exact⟨h1,h2,h3,h4.set hL h6 n⟩
structure acq(u:a8)(o:Nat->List Nat)(L:Nat->List Int)(s t:j7):Prop where
 ok:ja u (s.steps+1) s
 rel:aad (FRn o L) (FTn o L) s t
theorem zx{x:dJ}{v:cg}(h:v∈ff x)(hr:v.z=true):v.n∈rI x:=by
 unfold rI;refine ct _ (df.2 ⟨v,h,?_⟩);unfold eG;rw[if_pos hr];simp
theorem tB{x:dJ}(h:0<=x.dst):x.dst∈rI x:=by
 unfold rI;rw[if_pos h];simp
theorem rH{B:E}{x:dJ}(h:x∈B.list){r:Int}(hr:r∈rI x):r∈nj B:=by
 unfold nj;exact de _ (ct _ (df.2 ⟨x,h,hr⟩))
theorem Ca{B:E}(h:B.on.z=true):B.on.n∈nj B:=by
 unfold nj eG;rw[if_pos h];simp
theorem zw{B:E}{p:ep}(h:p∈B.aD):p.dst∈nj B:=by
 unfold nj;exact ct _ (aV.2 ⟨p,h,rfl⟩)
theorem zy{B:E}{p:ep}(h:p∈B.aD){v:cg}(hv:v∈p.src)(hr:v.z=true):v.n∈qi B:=by
 unfold qi;refine df.2 ⟨p,h,df.2 ⟨v,hv,?_⟩⟩;unfold eG;rw[if_pos hr];simp
theorem Ke(L:List Int)(bl:List E)(i:Nat):db (bl.map (iQ L)) i=db bl i:=by
 unfold db;rw[aJ];cases bl[i]?<;>rfl
theorem AH(L:List Int)(bl:List E)(t:Nat):aZ (bl.map (iQ L)) t=aZ bl t:=xV (aF _) (Ke L bl) t
theorem abQ{u v:a8}{o:Nat->List Nat}{L:Nat->List Int}(hu:jH u)(hc:jE u)(hn:NmU u v o L):Sim u v 1 1 (acq u o L):=by
 intro s t ⟨cY,hrel⟩;obtain⟨X,R,hf⟩:=cY.bJ;obtain⟨B,hB⟩:=bf X.blocks s.bJ.block hf.block;have Lc:=aq hB;have gI:=hf.fit.eR B Lc;have rm:=hf.fit.ok.iM;have EH:=hf.fit.ok.block _ B hB;have rj:=hc.body X (aq hf.get);obtain⟨Y,hY,En⟩:=hn.fn s.bJ.fn X hf.get;obtain⟨hm,hi,ho,lK,t_⟩:=hrel;obtain⟨Et,⟨gF,pR⟩,yk,HL⟩:=t_;have hLp:∀r∈L s.bJ.fn,0<=r:=λr hr=>(En.MW r hr).1;have wK:fH u s.bJ.fn=X.blocks:=by unfold fH;rw[hf.get]
 have uS:fH v s.bJ.fn=Y.blocks:=by unfold fH;rw[hY]
 obtain⟨ob,zN⟩:∃ob,ob=o s.bJ.fn:=⟨_,rfl⟩;obtain⟨Lb,WM⟩:∃Lb,Lb=L s.bJ.fn:=⟨_,rfl⟩;rw[<-zN,<-WM]at En;rw[<-zN]at gF pR;rw[<-WM]at hLp HL;have hbg:ob[t.bJ.block]?=Z s.bJ.block:=by rw[gm gF,pR]
 have hKB:je X.blocks ob s.bJ.block (aN X.blocks s.bJ.block)=je X.blocks ob s.bJ.block B:=by rw[jB hB]
 have hKm:je X.blocks ob s.bJ.block B∈cV X.blocks ob:=by rw[<-hKB];exact aq (kr hbg)
 obtain⟨akh,Na⟩:∃akh,akh=iQ Lb (je X.blocks ob s.bJ.block B):=⟨_,rfl⟩;have hC:Y.blocks[t.bJ.block]?=Z akh:=by rw[En.blocks,aJ,kr hbg,hKB,Na];rfl
 have Ph:=sS hf hB;have Ai:qf v t.bJ=akh:=by
  unfold qf;rw[Et,hY];simp only[cB,hC,dW]
 have R5:akh.list=B.list.map (iA Lb):=by rw[Na];rfl
 have Np:=lK.len;have adH:∀x∈B.list,∀r∈rI x,r∈Lb:=λx hx r hr=>En.all _ hKm r (.inl (rH (B:=je X.blocks ob s.bJ.block B) hx hr));cases hx:B.list[s.bJ.at']? with
 |some x=>
  have r8:jr u s=kY u (ky (tick s)) x:=by rw[iS,Ph];simp only[hx]
  have qQ:=aq hx;have hCx:akh.list[t.bJ.at']?=Z (iA Lb x):=by rw[R5,aJ,yk,hx];rfl
  have ny:jr v t=kY v (ky (tick t)) (iA Lb x):=by rw[iS,Ai];simp only[hCx]
  obtain⟨ua,ub,uc,ud⟩:=qW (rj.list _ B hB x qQ);have hgt:FTn o L (ky (tick s)).bJ (ky (tick t)).bJ:=⟨Et,⟨by show t.bJ.block<(o s.bJ.fn).length;rw[<-zN];exact gF,by show nth (o s.bJ.fn) t.bJ.block=s.bJ.block;rw[<-zN];exact pR⟩,by show t.bJ.at'+1=s.bJ.at'+1;rw[yk],by show p_ (L s.bJ.fn) s.bJ.aB t.bJ.aB;rw[<-WM];exact HL⟩;have hv:∀w∈ff x,w.z=true->w.n∈Lb:=λw hw hr=>adH x qQ _ (zx hw hr);have oC:∀w:cg,w∈ff x∨w=iu->cK (ky (tick t)).bJ (cu Lb w)=cK (ky (tick s)).bJ w:=λw hw=>by
   refine p_.val (f:=(ky (tick s)).bJ) (g:=(ky (tick t)).bJ) HL λhr=>?_;rcases hw with hw|rfl
   ·exact hv w hw hr
   ·cases hr
  have vw:0<=x.dst->x.dst∈Lb:=λh=>adH x qQ _ (tB h);rcases GZ (u:=u) (v:=v) (s:=ky (tick s)) (t:=ky (tick t)) (x:=x) (y:=iA Lb x) rfl rfl (oC _ ua) (oC _ ub) (λvu=>by
   show(x.args.map (cu Lb)).map _=_;rw[dE];refine dD λw hw=>oC w (.inl ?_);rw[uc vu]at hw;exact hw) hm hi ho Np ud (λh=>by show nN Lb x.dst<0;unfold nN;rw[if_neg (by have:=ud h;omega)];exact ud h)with⟨f,g,e1,e2,ha⟩|⟨vu,e1,e2⟩|⟨vu,mem,dr,out,akj,e1,e2⟩
  ·refine⟨λs' iK=>?_,λf' oJ=>?_⟩
   ·rw[r8,e1]at iK;cases iK
   ·rw[r8,e1]at oJ
    rw[<-Sum.inr.inj oJ];exact⟨0,t,g,I,I,rfl,by rw[ny,e2],ha⟩
  ·refine⟨λs' iK=>?_,λf' oJ=>?_⟩
   ·have h9:=(kQ hu cY iK).1
    rw[r8,e1]at iK;have iK:=Sum.inl.inj iK;obtain⟨k,aj9,hk,hZ,hlen⟩:=(gI.list.2 x qQ).call vu;obtain⟨W,hW,hnz⟩:=hn.fn k aj9 hZ;obtain⟨RZ,Zr⟩:=hu.2 k aj9 hZ;have hxk:x.fn.toNat=k:=I;refine⟨1,_,I,I,.one (by rw[ny,e2]),h9,?_⟩;rw[<-iK,oQ,oQ,hxk];refine⟨hm,hi,ho,?_,?_⟩
    ·refine .add lK ⟨hgt,?_,?_⟩
     ·show nN Lb x.dst=nN (L s.bJ.fn) x.dst;rw[WM]
     ·show 0<=x.dst->x.dst∈L s.bJ.fn;rw[<-WM];exact vw
    ·refine⟨rfl,⟨hnz.zero.1,hnz.zero.2⟩,rfl,?_⟩
     show p_ (L k) (eN (fQ u k) _) (eN (fQ v k) _);have e3:fQ v k=(L k).length:=by unfold fQ;rw[hW];simp only;rw[hnz.aB];omega
     have e4:fQ u k=aj9.aB.toNat:=by unfold fQ;rw[hZ]
     rw[e3,e4];exact p_.enter (P:=aj9.params.toNat) hnz.par (λr hr=>by have:=hnz.MW r hr;omega) (by rw[aF];omega)
   ·rw[r8,e1]at oJ;cases oJ
  ·refine⟨λs' iK=>?_,λf' oJ=>?_⟩
   ·have h9:=(kQ hu cY iK).1
    rw[r8,e1]at iK;have iK:=Sum.inl.inj iK;refine⟨1,_,I,I,.one (by rw[ny,e2]),h9,?_⟩;rw[<-iK];refine⟨rfl,rfl,rfl,lK,?_⟩;have:=FRn.back (o:=o) (L:=L) (d:=x.dst) (e:=nN Lb x.dst) (f:=(ky (tick s)).bJ) (g:=(ky (tick t)).bJ) ⟨hgt,by show nN Lb x.dst=nN (L s.bJ.fn) x.dst;rw[WM],by show 0<=x.dst->x.dst∈L s.bJ.fn;rw[<-WM];exact vw⟩ (by show∀r∈L s.bJ.fn,0<=r;rw[<-WM];exact hLp) akj;exact this
   ·rw[r8,e1]at oJ;cases oJ
 |none=>
  have r8:jr u s=mj u (tick s) B:=by rw[iS,Ph];simp only[hx]
  have hCn:akh.list[t.bJ.at']?=A:=by rw[R5,aJ,yk,hx];rfl
  have ny:jr v t=mj v (tick t) akh:=by rw[iS,Ai];simp only[hCn]
  have qh:cK t.bJ akh.on=cK s.bJ B.on:=by
   rw[Na];exact p_.val HL λhr=>En.all _ hKm _ (.inl (Ca (B:=je X.blocks ob s.bJ.block B) hr))
  have hk:akh.kind=B.kind:=by rw[Na];rfl
  by_cases Ln:B.kind=2∨B.kind=3
  ·obtain⟨i,iJ,e1,e2⟩:=Dt (u:=u) (v:=v) (s:=tick s) (t:=tick t) (akh:=akh) Ln hk gI.kind.2 qh
   have Tb:=AR (B:=B) iJ;obtain⟨to,T,e,hg⟩:=K8 hf hB Tb;have LG:to<X.blocks.length:=(az.1 hg.get).1;have aey:to∈ob:=by
    have:=En.ok.closed s.bJ.block (aq hbg) (B.to.getD i 0) (by rw[fY hB];exact Tb);rwa[e,dO]at this
   have hCi:akh.to.getD i 0=((ob.idxOf to:Nat):Int):=by
    rw[Na];show(B.to.map λt=>((ob.idxOf t.toNat:Nat):Int)).getD i 0=_;rw[cB,aJ,a_ iJ,bu,dW];rw[cB,a_ iJ,dW]at e;rw[e,dO]
   rw[e]at e1;rw[hCi]at e2;have hjn:nth ob (ob.idxOf to)=to:=oj aey;have jw:=vz aey;have hjg:ob[ob.idxOf to]?=Z to:=by rw[gm jw,hjn]
   generalize ob.idxOf to=j at*;have hKT:(cV X.blocks ob)[j]?=Z (je X.blocks ob to T):=by rw[kr hjg,jB hg.get]
   have hTS:Y.blocks[j]?=Z (iQ Lb (je X.blocks ob to T)):=by rw[En.blocks,aJ,hKT];rfl
   have Dd:fD (fH u s.bJ.fn) to=T.aD:=by rw[wK];unfold fD;rw[hg.get]
   have ad9:fD (fH v s.bJ.fn) j=T.aD.map λp=>JX Lb (fj X.blocks ob to p):=by
    rw[uS];unfold fD;rw[hTS];show(T.aD.map _).map _=_;rw[dE]
    rfl
   have uV:aZ (fH v s.bJ.fn) j=aZ (cV X.blocks ob) j:=by rw[uS,En.blocks,AH]
   have hbp:t.bJ.block∈aZ (cV X.blocks ob) j:=by
    rw[xU rm En.ok hjg,cC,cM,decide_eq_true_eq];exact⟨gF,by rw[pR];exact hg.mem⟩
   refine⟨λs' iK=>?_,λf' oJ=>?_⟩
   ·have h9:=(kQ hu cY iK).1
    rw[r8,e1]at iK;have iK:=Sum.inl.inj iK;refine⟨1,_,I,I,.one (by rw[ny,e2]),h9,?_⟩;rw[<-iK,pe,pe];refine⟨hm,hi,ho,lK,?_⟩;refine⟨Et,⟨?_,?_⟩,rfl,?_⟩
    ·show((j:Nat):Int).toNat<(o s.bJ.fn).length;rw[dO,<-zN];exact jw
    ·show nth (o s.bJ.fn) ((j:Nat):Int).toNat=((to:Nat):Int).toNat;rw[dO,dO,<-zN];exact hjn
    ·show p_ (L s.bJ.fn) (jp s.bJ ((aZ (fH u s.bJ.fn) ((to:Nat):Int).toNat).idxOf s.bJ.block) (fD (fH u s.bJ.fn) ((to:Nat):Int).toNat)) (jp t.bJ ((aZ (fH v t.bJ.fn) ((j:Nat):Int).toNat).idxOf t.bJ.block) (fD (fH v t.bJ.fn) ((j:Nat):Int).toNat))
     rw[Et,dO,dO,Dd,ad9,uV,wK,<-WM];refine p_.aD hLp HL λp hp=>?_;have hpk:fj X.blocks ob to p∈(je X.blocks ob to T).aD:=aV.2 ⟨p,hp,rfl⟩;have acQ:=aq hKT;refine⟨En.all _ acQ (fj X.blocks ob to p).dst (.inl (zw hpk)),rfl,?_⟩;have De:=(hf.fit.ok.block to T hg.get).aD p hp;have tY:(fj X.blocks ob to p).src.getD ((aZ (cV X.blocks ob) j).idxOf t.bJ.block) iu=p.src.getD ((aZ X.blocks to).idxOf s.bJ.block) iu:=by
      have:=LQ rm En.ok hjg hbp p;unfold jq at this;rw[pR]at this;exact this
     have hlen:(aZ (cV X.blocks ob) j).idxOf t.bJ.block<(fj X.blocks ob to p).src.length:=by
      rw[r9 rm En.ok hjg,aF];exact ju hbp
     show cK t.bJ (((fj X.blocks ob to p).src.map (cu Lb)).getD _ iu)=_;rw[<-tY,cB,aJ,a_ hlen,cB,a_ hlen];simp only[bu,dW];exact p_.val HL λhr=>En.all _ acQ _ (.inr (zy hpk (j9 hlen) hr))
   ·rw[r8,e1]at oJ;cases oJ
  ·rcases Hs (u:=u) (v:=v) (FR:=FRn o L) (s:=tick s) (t:=tick t) (akh:=akh) (λh=>Ln (.inl h)) (λh=>Ln (.inr h)) hk qh ho lK with⟨f,g,e1,e2,ha⟩|⟨l,f,m,g,d1,d2,e1,e2,d3,d4⟩
   ·refine⟨λs' iK=>?_,λf' oJ=>?_⟩
    ·rw[r8,e1]at iK;cases iK
    ·rw[r8,e1]at oJ
     rw[<-Sum.inr.inj oJ];exact⟨0,t,g,I,I,rfl,by rw[ny,e2],ha⟩
   ·refine⟨λs' iK=>?_,λf' oJ=>?_⟩
    ·have h9:=(kQ hu cY iK).1
     rw[r8,e1]at iK;have iK:=Sum.inl.inj iK;refine⟨1,_,I,I,.one (by rw[ny,e2]),h9,?_⟩;rw[<-iK];have Sw:f∈s.rest:=by
      have:s.rest=l++[f]:=d1;rw[this];simp
     obtain⟨XF,RF,hff⟩:=cY.rest f Sw;obtain⟨YF,_,hnF⟩:=hn.fn f.fn XF hff.get;exact⟨hm,hi,ho,d3,d4.back (λr hr=>(hnF.MW r hr).1) _⟩
    ·rw[r8,e1]at oJ;cases oJ
theorem DV{u v:a8}{R:j7->j7->Prop}(h:Sim u v 1 1 R)(ho:∀s t,R s t->t.out=s.out):∀(n:Nat) (s t:j7),R s t->Alike (oG u n s) (oG v n t)/\(oG v n t).steps+s.steps=(oG u n s).steps+t.steps
 |0,s,t,hR=>⟨⟨rfl,rfl,ho s t hR⟩,Nat.add_comm _ _⟩
 |n+1,s,t,hR=>by
  obtain⟨hg,hf⟩:=h s t hR;rw[oG,oG];cases he:jr u s with
  |inl s'=>
   obtain⟨k,t',hlo,hhi,SA,hR'⟩:=hg s' he;obtain rfl:k=1:=I;obtain⟨t1,h1,h2⟩:=SA;rw[h1];obtain rfl:t1=t':=h2;simp only;obtain⟨ha,hs⟩:=DV h ho n s' t1 hR';have h3:=uG he;have h4:=uG h1;exact⟨ha,I⟩
  |inr f=>
   obtain⟨k,t',g,hlo,hhi,SA,lK,ha⟩:=hf f he;obtain rfl:k=0:=I;obtain rfl:t=t':=SA;rw[lK];simp only;have h3:=(wD he).1;have h4:=(wD lK).1;exact⟨ha,I⟩
theorem XV{u v:a8}{o:Nat->List Nat}{L:Nat->List Int}(hu:Whole u)(hn:NmU u v o L)(dr:List Int)(oA:∀x∈dr,dk x)(f:Nat):Alike (cJ u dr f) (cJ v dr f)/\(cJ v dr f).steps=(cJ u dr f).steps:=by
 have e1:∀v:a8,jA v dr=⟨uj v.globals,dr,[],0,[],⟨(dh v.funcs).toNat,0,0,List.replicate (fQ v (dh v.funcs).toNat) 0,-1⟩,bump (v.funcs.map λX=>List.replicate X.blocks.length 0) (dh v.funcs).toNat 0⟩:=λ_=>rfl;obtain⟨fm,akd,Sw,hM⟩:=hu.start.main;obtain⟨W,hW,wN⟩:=hn.fn fm akd hM;have hrel:acq u o L (jA u dr) (jA v dr):=⟨vR hu.fit hu.start oA,by
  rw[e1,e1,hn.main,hn.vt];refine⟨rfl,rfl,rfl,.nil _ _,rfl,?_,rfl,?_⟩
  ·show 0<(o (dh u.funcs).toNat).length/\nth (o (dh u.funcs).toNat) 0=0
   rw[Sw,dO];exact wN.zero
  ·show p_ (L (dh u.funcs).toNat) (List.replicate (fQ u (dh u.funcs).toNat) 0) (List.replicate (fQ v (dh u.funcs).toNat) 0)
   rw[Sw,dO];have e3:fQ v fm=(L fm).length:=by unfold fQ;rw[hW];simp only;rw[wN.aB];omega
   have e4:fQ u fm=akd.aB.toNat:=by unfold fQ;rw[hM]
   rw[e3,e4];intro r hr;have h1:=wN.MW r hr;have h2:=pq hr;rw[g_,g_,if_pos I,if_pos I]⟩
 obtain⟨h1,h2⟩:=DV (abQ hu.fit hu.ok hn) (λs t h=>h.rel.out) f _ _ hrel;refine⟨h1,?_⟩;have e2:(jA u dr).steps=0:=rfl;have e3:(jA v dr).steps=0:=rfl;unfold cJ;omega
theorem Vm{f:Nat->Nat}:∀{o l:List Nat},o.Nodup->(∀x∈o,x∈l)->(o.map f).sum<=(l.map f).sum
 |[],l,_,_=>by simp
 |a::o,l,hn,hs=>by
  have ha:=hs a aC;rw[mO]at hn;have h1:=(List.perm_cons_erase ha).map f;have h2:=h1.sum_nat;have h3:=Vm (f:=f) (o:=o) (l:=l.erase a) hn.2 λx hx=>by
   have eQ:x≠a:=λe=>hn.1 (e▸hx);exact(List.mem_erase_of_ne eQ).2 (hs x (by simp[hx]))
  simp only[bT,eT]at h2⊢;omega
def HQ(B:E):Nat:=B.aD.length+B.list.length
theorem tg(bl:List E):eB bl=(bl.map HQ).sum:=rfl
theorem xP(bl:List E):eB bl=((List.range bl.length).map λb=>HQ (aN bl b)).sum:=by
 rw[tg];congr 1;apply ci;intro i;rw[aJ,aJ]
 by_cases hi:i<bl.length
 ·rw[bM hi,eX hi];rfl
 ·rw[bO I,bO dp];rfl
theorem PV(bl:List E)(o:List Nat):eB (cV bl o)=(o.map λb=>HQ (aN bl b)).sum:=by
 rw[tg];unfold cV;rw[dE];congr 1;refine dD λb _=>?_;simp[HQ,je]
theorem qH{bl:List E}{o:List Nat}(hk:KB bl o):eB (cV bl o)<=eB bl:=by
 rw[PV,xP];exact Vm hk.nodup λx hx=>cM.2 (hk.lt x hx)
theorem vC{bl:List E}{o:List Nat}(hk:KB bl o):o.length<=bl.length:=by
 have:=hk.nodup.length_le_of_subset (l₂:=List.range bl.length) λx hx=>cM.2 (hk.lt x hx);simpa using this
theorem Jz(L:List Int)(bl:List E):eB (bl.map (iQ L))=eB bl:=by
 rw[tg,tg,dE];congr 1;refine dD λB _=>?_;simp[HQ,iQ]
theorem val_zero{R:Int}{v:cg}:dV R v=0↔(v.z=true->0<=v.n/\v.n<R):=by
 unfold dV
 by_cases h:v.z=true
 ·simp only[h,Bool.true_and,within,Bool.not_and,Bool.or_eq_true,Bool.not_eq_true',decide_eq_false_iff_not,forall_const]
  constructor
  ·intro h1
   split at h1
   ·cases h1
   ·omega
  ·intro h1
   rw[if_neg I]
 ·have h2:v.z=false:=ax h
  simp[h2]
theorem DN{L:List Int}{v:cg}(h:v.z=true->v.n∈L):dV L.length (cu L v)=0:=val_zero.2 λhr=>by
 unfold cu at hr⊢
 by_cases h1:v.z=true
 ·rw[if_pos h1]
  exact pq (h h1)
 ·rw[if_neg h1]at hr
  exact absurd hr h1
theorem N6(L:List Int)(v:cg):jo (cu L v)=jo v:=by
 unfold cu jo
 by_cases h:v.z=true
 ·rw[if_pos h,h];rfl
 ·rw[if_neg h]
theorem JY(L:List Int)(d:Int):(nN L d=-1)↔d=-1:=by
 unfold nN
 by_cases h:0<=d
 ·rw[if_pos h]
  have:0<=fE L d:=by unfold fE;omega
  omega
 ·rw[if_neg h]
theorem QP(L:List Int)(x:dJ):rJ (iA L x)=rJ x:=by
 unfold rJ iA;simp only[N6,aF];rw[show decide (nN L x.dst=-1)=decide (x.dst=-1) by rw[decide_eq_decide];exact JY L x.dst]
theorem Mx{fs:List aY}{R:Int}{L:List Int}{x:dJ}(h:eu fs R x=0)(oA:∀r∈rI x,r∈L):eu fs L.length (iA L x)=0:=by
 obtain⟨ua,ub,uc,_⟩:=qW h;have hv:∀v:cg,v∈ff x∨v=iu->dV L.length (cu L v)=0:=λv hv=>DN λhr=>by
  rcases hv with hv|rfl
  ·exact oA _ (zx hv hr)
  ·cases hr
 unfold eu at h⊢;rw[QP];rw[show(iA L x).op=x.op from rfl]
 split at h
 ·cases h
 rename_i h1;rw[if_neg h1]
 split at h
 ·cases h
 rename_i h2;rw[if_neg h2]
 split at h
 ·rename_i h3
  rw[h]at h3;simp at h3
 rename_i h3;have h4:¬(((shape x.op).1&& !(decide (x.op=20)&&decide ((iA L x).dst=-1)))&& !decide (km L.length (iA L x).dst=0))=true:=by
  rw[show(iA L x).dst=nN L x.dst from rfl,show decide (nN L x.dst=-1)=decide (x.dst=-1) by rw[decide_eq_decide];exact JY L x.dst];intro hc;rw[Bool.and_eq_true]at hc;apply h3;rw[Bool.and_eq_true];refine⟨hc.1,?_⟩;have HF:=hc.2;simp only[Bool.not_eq_true',decide_eq_false_iff_not]at HF⊢;intro hd;apply HF;have Ko:0<=x.dst/\x.dst<R:=by
   unfold km at hd
   split at hd
   ·cases hd
   ·rename_i h9
    simp[within]at h9;omega
  have hm:=pq (oA _ (tB Ko.1));unfold km nN;rw[if_pos Ko.1,if_neg (by simp[within];omega)]
 rw[if_neg h4];rw[show(iA L x).a=cu L x.a from rfl,show(iA L x).b=cu L x.b from rfl,hv _ ua,hv _ ub];simp only[ne_eq,not_true_eq_false,if_false]
 split at h
 ·rename_i h5;exact absurd h h5
 split at h
 ·rename_i h5;exact absurd h h5
 unfold gK at h⊢;rw[show(iA L x).op=x.op from rfl,show(iA L x).fn=x.fn from rfl,show(iA L x).args=x.args.map (cu L)from rfl]
 by_cases vu:x.op=20
 ·rw[if_neg (by simp[vu])]at h⊢
  split at h
  ·cases h
  rename_i h6;rw[if_neg h6];rw[aF]
  split at h
  ·cases h
  rename_i h7;rw[if_neg h7,ig];intro j hj;unfold j4;rw[aJ,a_ hj];exact hv _ (.inl (by rw[<-uc vu];exact j9 hj))
 ·rw[if_pos vu]
theorem vM{R:Int}{b np:Nat}{p:ep}:zk R b np p=0↔b≠0/\(0<=p.dst/\p.dst<R)/\p.src.length=np/\∀v∈p.src,dV R v=0:=by
 have hd:km R p.dst=0↔0<=p.dst/\p.dst<R:=by
  unfold km;constructor
  ·intro h
   split at h
   ·cases h
   ·rename_i h9
    simp[within]at h9;omega
  ·intro h
   rw[if_neg (by simp[within];omega)]
 unfold zk;constructor
 ·intro h
  split at h
  ·cases h
  rename_i h1
  split at h
  ·rename_i h2;exact absurd h h2
  rename_i h2
  split at h
  ·cases h
  rename_i h3;exact⟨I,hd.1 (ax h2),I,nR h⟩
 ·rintro⟨h1,h2,h3,h4⟩
  rw[if_neg I,if_neg (by rw[hd.2 h2];simp),if_neg I,ig];intro j hj;unfold j4;rw[a_ hj];exact h4 _ (j9 hj)
theorem XU{u:a8}(hc:jE u){i:Nat}{X Y:aY}{o:List Nat}{L:List Int}(hX:u.funcs[i]?=Z X)(hn:V9 X Y o L)(Ns:Y.name=X.name)(o_:Y.params=X.params)(hle:L.length<=100):BA u.funcs X Y:=by
 have hs:=BA.same hc hX;have hb:=hs.body;obtain⟨R,Nb,hR,hf⟩:=oO (fN.2 hc) hX;have hg:=hf.iM;have hk:=hn.ok;have oZ:∀(b:Nat) B,X.blocks[b]?=Z B->B.to.Nodup:=λb B hB=>(hf.block b B hB).to;have Ze:Y.blocks.length=o.length:=by rw[hn.blocks,aF,d_]
 have hfk:=lL hf hk;have hgk:=hfk.iM;have pU:=qH hk;have hYm:eB Y.blocks=eB (cV X.blocks o):=by rw[hn.blocks,Jz]
 have hpL:=hn.par.length_le;rw[mH]at hpL;have Nj:∀B∈X.blocks,Ri X.blocks.length X.aB B:=λB hB=>mB.1 (hb.ends B hB);have jS:∀(j:Nat) akh,Y.blocks[j]?=Z akh->∃B,j<o.length/\X.blocks[nth o j]?=Z B/\(cV X.blocks o)[j]?=Z (je X.blocks o (nth o j) B)/\akh=iQ L (je X.blocks o (nth o j) B):=λj akh hC=>by
  have hj:j<o.length:=by rw[<-Ze];exact(az.1 hC).1
  have bS:=hk.lt _ (jv hj);refine⟨aN X.blocks (nth o j),hj,bM bS,kr (gm hj),?_⟩;rw[hn.blocks,aJ,kr (gm hj)]at hC;exact(a7 hC).symm
 have cU:∀(j:Nat) B,(cV X.blocks o)[j]?=Z B->∀r,r∈nj B∨r∈qi B->r∈L:=λj B hB=>hn.all B (aq hB);refine⟨Ns,o_,?_,?_,?_,?_,?_,?_⟩
 ·rw[o_,hn.aB]
  omega
 ·rw[Ze]
  have h1:=hn.zero.1;have h2:=vC hk;have h3:=hs.many;omega
 ·rw[<-qR,hYm]
  have h1:=hs.size;rw[<-qR]at h1;omega
 ·intro akh hC
  obtain⟨j,hj⟩:=bg hC;obtain⟨B,jw,hB,hK,rfl⟩:=jS j akh hj;have he:=Nj B (aq hB);have Xb:=xN hg hk oZ j _ hK;rw[Ze,hn.aB];refine mB.2 ⟨he.kind,?_,λt ht=>?_,λh3 e=>?_,λh2=>?_,?_⟩
  ·show((B.to.map _).length:Int)=B.kind-1
   rw[aF];exact he.len
  ·have ht:t∈B.to.map λt=>((o.idxOf t.toNat:Nat):Int):=ht
   obtain⟨x,hx,rfl⟩:=aV.1 ht;have Tj:=he.to x hx;have qQ:=hk.closed _ (jv jw) x (by rw[fY hB];exact hx);have h1:=vz qQ;have h2:=oj qQ;have h3:o.idxOf x.toNat≠0:=λe=>by
    rw[e,hn.zero.2]at h2;omega
   omega
  ·have hl:((iQ L (je X.blocks o (nth o j) B)).to).length=2:=by
    show(B.to.map _).length=2;rw[aF];have:=he.len;have sY:B.kind=3:=h3;omega
   rw[a_ (show 0<_ by omega),a_ (show 1<_ by omega)]at e;simp only[dW]at e;have:=(List.getElem_inj (show(iQ L (je X.blocks o (nth o j) B)).to.Nodup from Xb)).1 e;omega
  ·show jo (cu L B.on)=true
   rw[N6];exact he.one h2
  ·exact DN λhr=>cU j _ hK _ (.inl (Ca (B:=je X.blocks o (nth o j) B) hr))
 ·intro j akh hC p' wi
  obtain⟨B,jw,hB,hK,rfl⟩:=jS j akh hC;obtain⟨q,hq,rfl⟩:=aV.1 wi;have Q6:=hq;obtain⟨p,hp,rfl⟩:=aV.1 hq;have h0:=hb.aD (nth o j) B hB p hp;unfold ng at h0⊢;obtain⟨h1,h2,h3,h4⟩:=vM.1 h0;have W6:cT Y.blocks:=λakf hD=>by
   rw[hn.blocks]at hD;obtain⟨akg,hE,rfl⟩:=aV.1 hD;have:=hgk akg hE;rw[hn.blocks,aF];exact this
  have agL:∀(b:Nat) B,Y.blocks[b]?=Z B->B.to.Nodup:=λb akf hD=>by
   obtain⟨akg,gF,_,hKE,rfl⟩:=jS b akf hD;exact(xN hg hk oZ b _ hKE:(je X.blocks o (nth o b) akg).to.Nodup)
  rw[gu W6 agL (by rw[Ze];exact jw),hn.aB];refine vM.2 ⟨λe=>?_,?_,?_,λv hv=>?_⟩
  ·subst e
   exact h1 hn.zero.2
  ·exact pq (cU j _ hK (fj X.blocks o (nth o j) p).dst (.inl (zw Q6)))
  ·show((fj X.blocks o (nth o j) p).src.map (cu L)).length=_
   rw[aF,r9 hg hk (gm jw),aF,dW,aF,hn.blocks,AH]
  ·obtain⟨w,hw,rfl⟩:=aV.1 hv
   exact DN λhr=>cU j _ hK _ (.inr (zy Q6 hw hr))
 ·intro j akh hC x' GW
  obtain⟨B,jw,hB,hK,rfl⟩:=jS j akh hC;obtain⟨x,hx,rfl⟩:=aV.1 GW;have Ew:x∈B.list:=hx;rw[hn.aB];exact Mx (hb.list _ B hB x Ew) λr hr=>cU j _ hK _ (.inl (rH (B:=je X.blocks o (nth o j) B) Ew hr))
noncomputable def Dy(u:a8):a8:={u with funcs:=u.funcs.map en}
structure jF(X:aY)(R:Nat):Prop where
 aB:X.aB=R
 le:R<=100
 ok:fu R X.blocks
 pos:0<X.blocks.length
 par:0<=X.params/\X.params<=R
 QW:∀B∈X.blocks,∀x∈B.list,∃fs,eu fs X.aB x=0
theorem vl{u:a8}(hc:jE u){k:Nat}{X:aY}(hX:u.funcs[k]?=Z X):∃R,jF X R:=by
 obtain⟨R,h1,h2,h3⟩:=oO (fN.2 hc) hX;have hs:=BA.same hc hX;have h4:=mY (fN.2 hc) hX;have hb:=hs.body;refine⟨R,h1,h2,h3,by have:=hs.many;omega,I,λB hB x hx=>?_⟩;obtain⟨b,xd⟩:=bg hB;exact⟨_,hb.list b B xd x hx⟩
theorem qV{R:Nat}{bl:List E}(hf:fu R bl){B:E}(hB:B∈bl){r:Int}(h:r∈nj B∨r∈qi B):0<=r/\r<R:=by
 obtain⟨b,hb⟩:=bg hB;have hbo:=hf.block b B hb;have hv:∀v:cg,jb R v->r∈eG v->0<=r/\r<R:=λv hv hr=>by
  unfold eG at hr
  split at hr
  ·rename_i h1
   obtain rfl:=bR.1 hr;exact hv h1
  ·cases hr
 rcases h with h|h
 ·unfold nj at h
  rcases bA.1 h with h|h
  ·obtain⟨p,hp,rfl⟩:=aV.1 h
   exact(hbo.aD p hp).dst
  ·rcases bA.1 h with h|h
   ·obtain⟨x,hx,h⟩:=df.1 h
    have Tj:=hbo.list x hx;unfold rI at h;rcases bA.1 h with h|h
    ·obtain⟨v,wl,h⟩:=df.1 h
     rw[tH Tj]at wl;exact hv v (Tj.uJ v wl) h
    ·split at h
     ·rename_i h0
      obtain rfl:=bR.1 h;exact⟨h0,Tj.dst h0⟩
     ·cases h
   ·exact hv _ hbo.on h
 ·unfold qi at h
  obtain⟨p,hp,h⟩:=df.1 h;obtain⟨v,wl,h⟩:=df.1 h;exact hv v ((hbo.aD p hp).uJ v wl) h
theorem FK{R P:Nat}{bl:List E}(hf:fu R bl)(hP:P<=R){r:Int}(h:r∈gi P bl):0<=r/\r<R:=by
 rcases vG.1 h with h|⟨B,hB,h⟩|⟨B,hB,h⟩
 ·have:=jm.1 h
  omega
 ·exact qV hf hB (.inl h)
 ·exact qV hf hB (.inr h)
theorem XT{X:aY}{R:Nat}(h:jF X R){o:List Nat}(hk:KB X.blocks o)(hz:0<o.length/\nth o 0=0):V9 X {X with aB:=(gi X.params.toNat (cV X.blocks o)).length,blocks:=(cV X.blocks o).map (iQ (gi X.params.toNat (cV X.blocks o)))} o (gi X.params.toNat (cV X.blocks o)):=by
 have hfk:=lL h.ok hk;have hp:=h.par;refine⟨hk,hz,rfl,rfl,B9 _ _,λB hB r hr=>vG.2 ?_,λr hr=>?_⟩
 ·rcases hr with hr|hr
  ·exact .inr (.inl ⟨B,hB,hr⟩)
  ·exact .inr (.inr ⟨B,hB,hr⟩)
 ·have:=FK hfk (show X.params.toNat<=R by omega) hr
  rw[h.aB];exact this
theorem P6{X:aY}{R:Nat}(h:jF X R):V9 X (en X) (bI X.blocks) (gi X.params.toNat (c9 X)):=
 XT h (kt h.ok.iM h.pos) (qU h.ok.iM h.pos)
theorem Dz{X:aY}{R:Nat}(h:jF X R):(gi X.params.toNat (c9 X)).length<=R:=by
 have hp:=h.par;exact XP λr hr=>FK (lL h.ok (kt h.ok.iM h.pos)) (show X.params.toNat<=R by omega) (pX.2 hr)
theorem FF{u v:a8}(h:v.funcs.map (·.name)=u.funcs.map (·.name)):dh v.funcs=dh u.funcs:=by
 rw[pg,pg,h]
theorem He{u:a8}(hc:jE u)(T:aY->aY)(o:aY->List Nat)(L:aY->List Int)(hT:∀X R,jF X R->V9 X (T X) (o X) (L X)/\(L X).length<=R/\(T X).name=X.name/\(T X).params=X.params):
  NmU u {u with funcs:=u.funcs.map T} (λk=>match u.funcs[k]? with|some X=>o X|none=>[]) (λk=>match u.funcs[k]? with|some X=>L X|none=>[]):=by
 refine⟨rfl,FF ?_,λk X hX=>⟨T X,by simp only[aJ,hX,bu],?_⟩⟩
 ·simp only[dE]
  refine dD λX hX=>?_;obtain⟨k,hk⟩:=bg hX;obtain⟨R,h⟩:=vl hc hk;exact(hT X R h).2.2.1
 ·obtain⟨R,h⟩:=vl hc hX
  rw[hX];exact(hT X R h).1
theorem Ue{u:a8}(hu:Whole u){i:Nat}{X Y:aY}{o:List Nat}{L:List Int}(hX:u.funcs[i]?=Z X)(hn:V9 X Y o L)(hl:L.length<=100):∀akh∈Y.blocks,yl akh:=λakh hC=>by
 have hLl:∀r∈L,dk (fE L r):=λr hr=>by
  have h1:=pq hr;exact⟨I,I⟩
 have hv:∀v:cg,(v.z=true->v.n∈L)->dk v.n->dk (cu L v).n:=λv h1 h2=>by
  unfold cu
  by_cases h:v.z=true
  ·rw[if_pos h];exact hLl _ (h1 h)
  ·rw[if_neg h];exact h2
 obtain⟨R,hf⟩:=vl hu.ok hX;rw[hn.blocks]at hC;obtain⟨akc,hK,rfl⟩:=aV.1 hC;have cU:=hn.all akc hK;have agS:yl akc/\∀x∈akc.list,(x.a∈ff x∨x.a=iu)/\(x.b∈ff x∨x.b=iu)/\∀v∈x.args,v∈ff x:=by
  unfold cV at hK;obtain⟨b,hb,rfl⟩:=aV.1 hK;have hB:=bM (hn.ok.lt b hb);have h0:=hu.tl X (aq hX) _ (aq hB);refine⟨⟨h0.on,λq hq v wl=>?_,h0.list⟩,λx hx=>?_⟩
  ·obtain⟨p,hp,rfl⟩:=aV.1 hq
   obtain⟨y,hy,rfl⟩:=aV.1 wl;have hy2:=(cC.1 hy).2;exact h0.aD p hp _ (wC (R:=R) ((hf.ok.block b _ hB).aD p hp).len (ax hy2))
  ·obtain⟨fs,h1⟩:=hf.QW _ (aq hB) x hx
   obtain⟨h2,h3,h4,_⟩:=qW h1;refine⟨h2,h3,λv wl=>?_⟩
   by_cases vu:x.op=20
   ·rw[<-h4 vu];exact wl
   ·rw[((hf.ok.block b _ hB).list x hx).args vu]at wl
    cases wl
 obtain⟨h0,hus⟩:=agS;have hx:∀x∈akc.list,∀v,v∈ff x∨v=iu->v.z=true->v.n∈L:=λx hx v h hr=>by
  rcases h with h|rfl
  ·exact cU _ (.inl (rH hx (zx h hr)))
  ·cases hr
 refine⟨hv _ (λhr=>cU _ (.inl (Ca hr))) h0.on,λq hq v wl=>?_,λx' GW=>?_⟩
 ·obtain⟨p,hp,rfl⟩:=aV.1 hq
  obtain⟨w,hw,rfl⟩:=aV.1 wl;exact hv w (λhr=>cU _ (.inr (zy hp hw hr))) (h0.aD p hp w hw)
 ·obtain⟨x,qQ,rfl⟩:=aV.1 GW
  obtain⟨h1,h2,h3⟩:=hus x qQ;obtain⟨g1,g2,g3,g4⟩:=h0.list x qQ;refine⟨?_,hv _ (hx x qQ _ h1) g2,hv _ (hx x qQ _ h2) g3,λv' PA=>?_⟩
  ·show dk (nN L x.dst)
   unfold nN
   by_cases h:0<=x.dst
   ·rw[if_pos h]
    exact hLl _ (cU _ (.inl (rH qQ (tB h))))
   ·rw[if_neg h];exact g1
  ·obtain⟨v,wl,rfl⟩:=aV.1 PA
   exact hv v (hx x qQ v (.inl (h3 v wl))) (g4 v wl)
theorem JJ{u:a8}(hu:Whole u)(T:aY->aY)(o:aY->List Nat)(L:aY->List Int)(hT:∀X R,jF X R->V9 X (T X) (o X) (L X)/\(L X).length<=R/\(T X).name=X.name/\(T X).params=X.params):Whole {u with funcs:=u.funcs.map T}:=by
 refine⟨zY hu.ok rfl (aF _) λi X Y hX hY=>?_,λY hY=>?_,hu.M9⟩
 ·simp only[aJ,hX,bu]at hY
  obtain rfl:=a7 hY;obtain⟨R,h⟩:=vl hu.ok hX;obtain⟨h1,h2,h3,h4⟩:=hT X R h;exact XU hu.ok hX h1 h3 h4 (by have:=h.le;omega)
 ·simp only at hY
  obtain⟨X,hX,rfl⟩:=aV.1 hY;obtain⟨k,hk⟩:=bg hX;obtain⟨R,h⟩:=vl hu.ok hk;obtain⟨h1,h2,h3,h4⟩:=hT X R h;exact Ue hu hk h1 (by have:=h.le;omega)
theorem xR:∀X R,jF X R->V9 X (en X) (bI X.blocks) (gi X.params.toNat (c9 X))/\(gi X.params.toNat (c9 X)).length<=R/\(en X).name=X.name/\(en X).params=X.params:=
 λ_ _ h=>⟨P6 h,Dz h,rfl,rfl⟩
theorem zg{u:a8}(hu:Whole u):Whole (Dy u):=JJ hu en _ _ xR
theorem O3{bl oy:List E}(h:∀i,db oy i=db bl i):∀(f b:Nat) (st:List Bool×List Nat),yg oy f b st=yg bl f b st:=by
 intro f
 induction f with
 |zero=>exact λ_ _=>rfl
 |succ f ih=>
  intro b st;have hv:gC oy f=gC bl f:=by
   funext st t
   unfold gC;rw[ih]
  rw[mA,mA,hv,h b]
theorem sj{bl oy:List E}(hl:oy.length=bl.length)(h:∀i,db oy i=db bl i):bI oy=bI bl:=by
 unfold bI fx;rw[hl,O3 h]
theorem vI{X:aY}{R:Nat}(h:jF X R):bI (en X).blocks=List.range (en X).blocks.length:=by
 have h1:bI (en X).blocks=bI (c9 X):=sj (aF _) (Ke _ _);have h2:(en X).blocks.length=(bI X.blocks).length:=by
  show((c9 X).map _).length=_;rw[aF];exact d_ _ _
 rw[h1,h2];exact DG h.ok.iM h.pos
theorem FM{X:aY}{R:Nat}(h:jF X R):gi X.params.toNat (en X).blocks=eO (en X).aB.toNat:=
 P1 X.params.toNat (c9 X)
theorem DM{n:Nat}{B:E}(h:∀r,r∈nj B∨r∈qi B->r∈eO n)(hu:∀x∈B.list,(x.a∈ff x∨x.a=iu)/\(x.b∈ff x∨x.b=iu)/\∀v∈x.args,v∈ff x):iQ (eO n) B=B:=by
 have hv:∀v:cg,(v.z=true->v.n∈eO n)->cu (eO n) v=v:=λv hv=>by
  unfold cu
  by_cases h1:v.z=true
  ·rw[if_pos h1,tq (hv h1)]
   obtain⟨a,b⟩:=v;simp only at h1;subst h1
   rfl
  ·rw[if_neg h1]
 have hx:∀x∈B.list,∀v,v∈ff x∨v=iu->cu (eO n) v=v:=λx hx v wl=>hv v λhr=>by
  rcases wl with wl|rfl
  ·exact h _ (.inl (rH hx (zx wl hr)))
  ·cases hr
 obtain⟨ps,l,k,on,to⟩:=B;unfold iQ;simp only[E.mk.injEq,true_and,and_true];refine⟨?_,?_,hv on λhr=>h _ (.inl (Ca (B:=⟨ps,l,k,on,to⟩) hr))⟩
 ·conv=>rhs;rw[<-ll ps]
  refine dD λp hp=>?_;unfold JX;rw[tq (h _ (.inl (zw (B:=⟨ps,l,k,on,to⟩) hp)))];have:p.src.map (cu (eO n))=p.src:=by
   conv=>rhs;rw[<-ll p.src]
   exact dD λv wl=>hv v λhr=>h _ (.inr (zy (B:=⟨ps,l,k,on,to⟩) hp wl hr))
  rw[this]
  rfl
 ·conv=>rhs;rw[<-ll l]
  refine dD λx qQ=>?_;obtain⟨h1,h2,h3⟩:=hu x qQ;unfold iA;rw[hx x qQ _ h1,hx x qQ _ h2];have h4:x.args.map (cu (eO n))=x.args:=by
   conv=>rhs;rw[<-ll x.args]
   exact dD λv wl=>hx x qQ v (.inl (h3 v wl))
  have h5:nN (eO n) x.dst=x.dst:=by
   unfold nN
   by_cases h0:0<=x.dst
   ·rw[if_pos h0,tq (h _ (.inl (rH (B:=⟨ps,l,k,on,to⟩) qQ (tB h0))))]
   ·rw[if_neg h0]
  rw[h4,h5]
  rfl
structure Gb(R:Nat)(l:List Int):Prop where
 nodup:l.Nodup
 z:∀r∈l,0<=r/\r<R
theorem Gb.len{R:Nat}{l:List Int}(h:Gb R l):l.length<=R:=by
 have h1:(l.map Int.toNat).Nodup:=nD h.nodup λx hx y hy e=>by
  have:=h.z x hx;have:=h.z y hy;omega
 have h2:∀x∈l.map Int.toNat,x∈List.range R:=λx hx=>by
  obtain⟨y,hy,rfl⟩:=aV.1 hx;have:=h.z y hy;exact cM.2 I
 have:=h1.length_le_of_subset h2;simpa using this
theorem Gb.meets{R:Nat}{l s:List Int}(h:Gb R l)(hs:∀r∈s,0<=r/\r<R):Gb R (meets l s):=
 ⟨Bo h.nodup,λr hr=>(ti.1 hr).elim (h.z r) (hs r)⟩
theorem Gb.par{R P:Nat}(h:P<=R):Gb R (eO P):=⟨uw P,λr hr=>by have:=jm.1 hr;omega⟩
theorem Qc(r:Nat):iZ (eO r) (r:Int)=eO (r+1):=by
 unfold iZ;rw[if_neg (λh=>by have:=jm.1 h;omega)];unfold eO;rw[kU,bz]
 rfl
theorem PZ(l:List Int)(r:Int):meets l [r]=iZ l r:=rfl
theorem Vq{fs:List aY}{R:Int}{R':Nat}{x:dJ}(h:eu fs R x=0)(ho:wV R' x):eG x.a++(eG x.b++x.args.flatMap eG)=(ff x).flatMap eG:=by
 unfold eu at h
 split at h
 ·cases h
 rename_i Fp
 split at h
 ·cases h
 rename_i hs;simp only[Bool.not_eq_true]at hs;have Fp:1<=x.op/\x.op<=22:=by simp[within]at Fp;omega
 have oB:∀v:cg,jo v=true->eG v=[]:=λv hv=>by
  obtain⟨vr,vn⟩:=v;simp only[jo,Bool.and_eq_true,beq_iff_eq,decide_eq_true_eq]at hv;obtain⟨rfl,rfl⟩:=hv
  rfl
 unfold rJ at hs;simp only[Bool.or_eq_false_iff,Bool.and_eq_false_iff,Bool.not_eq_false',decide_eq_false_iff_not]at hs;obtain⟨⟨⟨_,h2⟩,h3⟩,h4⟩:=hs;rw[tH ho];unfold j3;simp only[iD];have ha:eG x.a=(if (shape x.op).2.1=true then[x.a]else[]).flatMap eG:=by
  rcases h2 with h2|h2
  ·rw[if_pos h2];simp
  ·rw[oB _ h2]
   split
   ·simp[oB _ h2]
   ·rfl
 have hb:eG x.b=(if (shape x.op).2.2=true then[x.b]else[]).flatMap eG:=by
  rcases h3 with h3|h3
  ·rw[if_pos h3];simp
  ·rw[oB _ h3]
   split
   ·simp[oB _ h3]
   ·rfl
 rw[<-ha,<-hb]
theorem Oa{fs:List aY}{R:Int}{R':Nat}{x:dJ}(h:eu fs R x=0)(ho:wV R' x):rI x=eG x.a++(eG x.b++(x.args.flatMap eG++if 0<=x.dst then[x.dst]else[])):=by
 unfold rI;rw[<-Vq h ho];simp
theorem Gb.pre{R:Nat}{l m:List Int}(h:Gb R m)(hp:l<+:m):Gb R l:=⟨h.nodup.sublist hp.sublist,λr hr=>h.z r (hp.subset hr)⟩
theorem DO{l m:List Int}(h:l<+:m){v:cg}(hv:∀r∈eG v,r∈l):cu l v=cu m v:=by
 unfold cu
 split
 ·rename_i hr
  rw[uA h (hv v.n (by unfold eG;rw[if_pos hr];simp))]
 ·rfl
theorem Ms(L:List Int)(r:Int):0<=fE L r/\fE L r<=L.length:=by
 have:=List.idxOf_le_length (a:=r) (l:=L);unfold fE;omega
theorem zp{L:List Int}{v:cg}(h:dk v.n)(hl:L.length<=1000000):dk (cu L v).n:=by
 unfold cu
 split
 ·have:=Ms L v.n
  exact⟨by simp only;omega,by simp only;omega⟩
 ·exact h
theorem Yk{L:List Int}{r:Int}(h:dk r)(hl:L.length<=1000000):dk (nN L r):=by
 unfold nN
 split
 ·have:=Ms L r
  exact⟨I,I⟩
 ·exact h
theorem QQ{α:Type}{l:List α}{j:Nat}(h:j+2<=l.length)(a b:α):l.take j++[a,b]++l.drop (j+2)=(l.set j a).set (j+1) b:=by
 apply ci;intro k;rw[dz]
 by_cases h1:k<j
 ·rw[dY (by rw[dd];omega),tL,if_pos h1,fz I,fz I]
 ·rw[dC (by rw[dd];omega),dd,iq I]
  by_cases h2:k=j
  ·subst h2
   rw[dN,fz I,eK I]
   rfl
  ·by_cases h3:k=j+1
   ·subst h3
    rw[show j+1-j=1 by omega,eK (by rw[eL];omega)]
    rfl
   ·rw[dC dp,iV,fz I,fz I]
    congr 1;simp;omega
end
end Go.Proofs.YthfhgolkafpmnaaGreatDoor
