/- Texts joined: TidyP TidyM TidyS TidyC TidyN NamesP. -/
import Derived.Test.YthfhgolkafpmnaaGreatDoorGG
import Derived.Test.YthfhgolkafpmnaaGreatDoorHF
import Derived.Test.YthfhgolkafpmnaaGreatDoorHN
namespace Go.Proofs.YthfhgolkafpmnaaGreatDoor
section
open Go Go.RowKit
def sP:ar:=⟨[],[],1,⟨false,0⟩,[]⟩
def a8(bl:List ar)(b:Nat):ar:=bl[b]?.getD sP
def gC(bl:List ar)(o:List Nat)(b:Nat)(p:eC):eC:=⟨p.dst,(o.filter λq=>decide (q∈bf bl b)).map (kj bl b p)⟩
def jf(bl:List ar)(o:List Nat)(b:Nat)(B:ar):ar:={B with aL:=B.aL.map (gC bl o b),to:=B.to.map λt=>((o.idxOf t.toNat:Nat):Int)}
def cY(bl:List ar)(o:List Nat):List ar:=o.map λb=>jf bl o b (a8 bl b)
structure HO(bl:List ar)(o:List Nat):Prop where
 nodup:o.Nodup
 lt:∀b∈o,b<bl.length
 closed:∀b∈o,∀t∈dd bl b,t.toNat∈o
def nth(o:List Nat)(i:Nat):Nat:=o[i]?.getD 0
theorem ki{o:List Nat}{i b:Nat}(h:o[i]?=some b):nth o i=b:=by unfold nth;rw[h];rfl
theorem gB{o:List Nat}{i:Nat}(h:i<o.length):o[i]?=some (nth o i):=by unfold nth;rw[aB h];rfl
theorem jT{o:List Nat}{i:Nat}(h:i<o.length):nth o i∈o:=aA (gB h)
theorem vI{o:List Nat}{b:Nat}(h:b∈o):o.idxOf b<o.length:=ju h
theorem qB{o:List Nat}{b:Nat}(h:b∈o):nth o (o.idxOf b)=b:=by
 unfold nth;rw[aB (vI h),nL]
 rfl
theorem ux{o:List Nat}(hn:o.Nodup){i j:Nat}(hi:i<o.length)(hj:j<o.length)(h:nth o i=nth o j):i=j:=by
 unfold nth at h;rw[aB hi,aB hj]at h;exact(List.getElem_inj hn).1 h
theorem r9{o:List Nat}(hn:o.Nodup){i:Nat}(hi:i<o.length):o.idxOf (nth o i)=i:=
 ux hn (vI (jT hi)) hi (qB (jT hi))
theorem TY(o:List Nat):(List.range o.length).map (nth o)=o:=by
 apply cf;intro i;rw[aK]
 by_cases h:i<o.length
 ·rw[eQ h,bz,<-gB h]
 ·rw[bM (by simp;omega),bM ag];rfl
theorem dU(bl:List ar)(o:List Nat):(cY bl o).length=o.length:=by simp[cY]
theorem kO{bl:List ar}{b:Nat}{B:ar}(h:bl[b]?=some B):a8 bl b=B:=by unfold a8;rw[h];rfl
theorem bK{bl:List ar}{b:Nat}(h:b<bl.length):bl[b]?=some (a8 bl b):=by unfold a8;rw[aB h];rfl
theorem kV{bl:List ar}{o:List Nat}{i b:Nat}(h:o[i]?=some b):(cY bl o)[i]?=some (jf bl o b (a8 bl b)):=by
 unfold cY;rw[aK,h]
 rfl
theorem lK{bl:List ar}{b:Nat}(h:b<bl.length):dd bl b=(a8 bl b).to:=by
 unfold dd;rw[bK h]
section
variable {bl:List ar} {o:List Nat} (hg:cL bl) (hk:HO bl o)
include hg hk
theorem rI{i b:Nat}(h:o[i]?=some b):dd (cY bl o) i=(dd bl b).map λt=>((o.idxOf t.toNat:Nat):Int):=by
 have _:=hg;rw[lK (hk.lt b (aA h))];unfold dd;rw[kV h]
 rfl
theorem ur:cL (cY bl o):=λC hC=>by
 obtain⟨i,hi⟩:=br hC;have iQ:i<o.length:=by rw[<-dU bl o];exact(aC.1 hi).1
 have jq:=rI hg hk (gB iQ);have h1:dd (cY bl o) i=C.to:=by unfold dd;rw[hi]
 rw[h1]at jq;rw[jq,dU];have hb:=hk.lt _ (jT iQ);refine⟨by rw[aG,lK hb];exact(hg _ (aA (bK hb))).1,λt ht=>?_⟩;obtain⟨x,hx,rfl⟩:=aX.1 ht;have:=vI (hk.closed _ (jT iQ) x hx);omega
theorem Qo{i j b t:Nat}(hi:o[i]?=some b)(hj:o[j]?=some t):(j:Int)∈dd (cY bl o) i↔(t:Int)∈dd bl b:=by
 have Zb:=aA hi;have jE:=(aC.1 hj).1;rw[rI hg hk hi,aX];constructor
 ·rintro⟨x,hx,e⟩
  have h1:=qq hg hx;have h2:=qB (hk.closed b Zb x hx);rw[show o.idxOf x.toNat=j by omega,ki hj]at h2;rw[show(t:Int)=x by omega];exact hx
 ·intro h
  refine⟨t,h,?_⟩;rw[dD];have:=r9 hk.nodup jE;rw[ki hj]at this;rw[this]
theorem Bz{j t:Nat}(hj:o[j]?=some t):bf (cY bl o) j=(List.range o.length).filter λi=>decide (nth o i∈bf bl t):=by
 unfold bf;rw[dU];refine rO λi hi=>?_;have iQ:=cQ.1 hi;rw[decide_eq_decide,Qo hg hk (gB iQ) hj,cI,cQ,decide_eq_true_eq];exact⟨λh=>⟨hk.lt _ (jT iQ),h⟩,λh=>h.2⟩
theorem BA{j t:Nat}(hj:o[j]?=some t):(bf (cY bl o) j).map (nth o)=o.filter λq=>decide (q∈bf bl t):=by
 rw[Bz hg hk hj];have h:=TY o;have h2:((List.range o.length).map (nth o)).filter (λq=>decide (q∈bf bl t))=((List.range o.length).filter λi=>decide (nth o i∈bf bl t)).map (nth o):=by rw[List.filter_map];rfl
 rw[<-h2,h]
theorem qy{j t:Nat}(hj:o[j]?=some t)(p:eC):(gC bl o t p).src=(bf (cY bl o) j).map λi=>kj bl t p (nth o i):=by
 unfold gC;rw[<-BA hg hk hj,eS]
 rfl
theorem IY{i j t:Nat}(hj:o[j]?=some t)(hi:i∈bf (cY bl o) j)(p:eC):kj (cY bl o) j (gC bl o t p) i=kj bl t p (nth o i):=by
 unfold kj;rw[qy hg hk hj,cz,aK,aB (ju hi),nL]
 rfl
omit hk in
theorem vL(hk:HO bl o)(oh:∀(b:Nat) B,bl[b]?=some B->B.to.Nodup):∀(i:Nat) C,(cY bl o)[i]?=some C->C.to.Nodup:=λi C hC=>by
 have iQ:i<o.length:=by rw[<-dU bl o];exact(aC.1 hC).1
 have hb:=hk.lt _ (jT iQ);have jq:=rI hg hk (gB iQ);have h1:dd (cY bl o) i=C.to:=by unfold dd;rw[hC]
 rw[<-h1,jq];refine lW (by rw[lK hb];exact oh _ _ (bK hb)) λx hx y hy e=>?_;have zB:=qq hg hx;have hy1:=qq hg hy;have Ce:=qB (hk.closed _ (jT iQ) x hx);have Zr:=qB (hk.closed _ (jT iQ) y hy);rw[show o.idxOf x.toNat=o.idxOf y.toNat by omega]at Ce;omega
end
theorem kH{R:Nat}{bl:List ar}{o:List Nat}(hf:eX R bl)(hk:HO bl o):eX R (cY bl o):=by
 have hg:=hf.iM;refine⟨ur hg hk,λi C hC=>?_⟩;have iQ:i<o.length:=by rw[<-dU bl o];exact(aC.1 hC).1
 have oh:=vL hg hk (λb B hB=>(hf.block b B hB).to) i C hC;have hb:=hk.lt _ (jT iQ);have hB:=hf.block _ _ (bK hb);rw[kV (gB iQ)]at hC;obtain rfl:=be hC;refine⟨λp' uj=>?_,hB.list,hB.on,oh⟩;unfold jf at uj;simp only at uj;obtain⟨p,hp,rfl⟩:=aX.1 uj;have AX:=hB.aL p hp;refine⟨AX.dst,by rw[qy hg hk (gB iQ),aG],λv hv=>?_⟩;unfold gC at hv;simp only at hv;obtain⟨x,hx,rfl⟩:=aX.1 hv;have h2:=(cI.1 hx).2;exact AX.tU _ (uD (R:=R) AX.len (by simpa using h2))
theorem P7{R:Nat}{bl:List ar}(hf:eX R bl):cY bl (List.range bl.length)=bl:=by
 have hg:=hf.iM;unfold cY;apply cf;intro i
 by_cases hi:i<bl.length
 ·rw[aK,eQ hi,bz,bK hi]
  have hB:=hf.block _ _ (bK hi);congr 1;have O9:∀t:Nat,t<bl.length->(List.range bl.length).idxOf t=t:=λt ht=>by
   have:=r9 (o:=List.range bl.length) rT (i:=t) (by simpa using ht);rwa[ki (eQ ht)]at this
  unfold jf;have e1:(a8 bl i).aL.map (gC bl (List.range bl.length) i)=(a8 bl i).aL:=by
   conv=>rhs;rw[<-nM (a8 bl i).aL]
   refine fw λp hp=>?_;unfold gC;have e2:(List.range bl.length).filter (λq=>decide (q∈bf bl i))=bf bl i:=by
    unfold bf;refine rO λq hq=>?_;rw[decide_eq_decide,cI,decide_eq_true_eq];exact⟨λh=>h.2,λh=>⟨hq,h⟩⟩
   rw[e2,Nf (hB.aL p hp).len]
   rfl
  have e3:(a8 bl i).to.map (λt=>(((List.range bl.length).idxOf t.toNat:Nat):Int))=(a8 bl i).to:=by
   conv=>rhs;rw[<-nM (a8 bl i).to]
   refine fw λt ht=>?_;have:=qq hg (b:=i) (t:=t) (by rw[lK hi];exact ht);rw[O9 t.toNat ag];simp only[id];omega
  rw[e1,e3]
 ·rw[bM (by simp;omega),bM ag]
structure V8(bl mK:List ar)(π:Nat->Nat):Prop where
 lt:∀i,i<mK.length->π i<bl.length
 inj:∀i j,i<mK.length->j<mK.length->π i=π j->i=j
 to:∀i,i<mK.length->((dd mK i).map Int.toNat).map π=(dd bl (π i)).map Int.toNat
 iM:cL mK
structure Ls(bl mK:List ar)(π:Nat->Nat)(st Fa:List Bool×List Nat):Prop where
 len:st.1.length=bl.length
 Yw:Fa.1.length=mK.length
 seen:∀i,i<mK.length->Fa.1[i]?=st.1[π i]?
 left:st.2=Fa.2.map π
theorem Sz{bl mK:List ar}{π:Nat->Nat}(h:V8 bl mK π):∀(f f' b:Nat) (st Fa:List Bool×List Nat),Ls bl mK π st Fa->b<mK.length->Fa.1[b]?=some false->gu st.1<=f->gu Fa.1<=f'->Ls bl mK π (wh bl f (π b) st) (wh mK f' b Fa):=by
 intro f
 induction f with
 |zero=>
  intro f' b st Fa hr hb hs hu hu';have:=pW (l:=st.1) (t:=π b) (by rw[<-hr.seen b hb];exact hs);omega
 |succ f ih=>
  intro f' b st Fa hr hb hs hu hu';have NF:st.1[π b]?=some false:=by rw[<-hr.seen b hb];exact hs
  obtain⟨f',rfl⟩:∃k,f'=k+1:=⟨f'-1,by have:=pW hs;omega⟩;have h1:=nG hs;have h2:=nG NF;rw[ls,ls];have key:∀(l:List Nat) (s s':List Bool×List Nat),(∀t∈l,t<mK.length)->Ls bl mK π s s'->gu s.1<=f->gu s'.1<=f'->Ls bl mK π ((l.map π).foldl (fT bl f) s) (l.foldl (fT mK f') s'):=by
   intro l
   induction l with
   |nil=>exact λs s' _ hs _ _=>hs
   |cons t l ihl=>
    intro s s' hl hs hu hu';have ht:=hl t aH;rw[bO,fF,fF];have qw:Ls bl mK π (fT bl f s (π t)) (fT mK f' s' t):=by
     have kr:=hs.seen t ht;unfold fT;rw[<-kr]
     by_cases e:s'.1[t]?.getD true=true
     ·rw[if_pos e,if_pos e];exact hs
     ·rw[if_neg e,if_neg e]
      exact ih f' t s s' hs ht (vz (by simpa using e)) hu hu'
    have g1:=(ii bl f s [π t]).2.2.1;have g2:=(ii mK f' s' [t]).2.2.1;simp only[fF,List.foldl_nil]at g1 g2;exact ihl _ _ (λx hx=>hl x (by simp[hx])) qw ag ag
  have e1:(dd bl (π b)).reverse.map Int.toNat=((dd mK b).reverse.map Int.toNat).map π:=by
   rw[List.map_reverse,List.map_reverse,List.map_reverse,<-h.to b hb]
  rw[e1];have hk:=key ((dd mK b).reverse.map Int.toNat) (st.1.set (π b) true,st.2) (Fa.1.set b true,Fa.2) (λt ht=>?_) ⟨by simp[hr.len],by simp[hr.Yw],λi hi=>?_,hr.left⟩ (by simp only;omega) (by simp only;omega)
  ·exact⟨hk.len,hk.Yw,hk.seen,by simp only[bB,bO,dp,hk.left]⟩
  ·obtain⟨z,hz,rfl⟩:=aX.1 ht
   have hz:=List.mem_reverse.1 hz;have:=qq h.iM hz;omega
  ·simp only[dQ]
   by_cases e:b=i
   ·subst e
    rw[if_pos rfl,if_pos rfl,if_pos (by rw[hr.Yw];exact hi),if_pos (by rw[hr.len];exact h.lt _ hi)]
   ·rw[if_neg e,if_neg (λe2=>e (h.inj b i hb hi e2))]
    exact hr.seen i hi
theorem Q2{bl mK:List ar}{π:Nat->Nat}(h:V8 bl mK π)(h0:0<mK.length)(hz:π 0=0):gw bl=(gw mK).map π:=by
 have ve:=h.lt 0 h0;have hr:Ls bl mK π (List.replicate bl.length false,[]) (List.replicate mK.length false,[]):=⟨by simp,by simp,λi hi=>by
  have:=h.lt i hi;simp only;rw[h_,h_,if_pos hi,if_pos this],rfl⟩
 have:=Sz h bl.length mK.length 0 _ _ hr h0 (by simp[h0]) (by simp only[nF];omega) (by simp only[nF];omega);rw[hz]at this;exact this.left
theorem Mv{bl:List ar}{o:List Nat}(hg:cL bl)(hk:HO bl o):V8 bl (cY bl o) (nth o):=by
 refine⟨λi hi=>hk.lt _ (jT (by rwa[dU]at hi)),λi j hi hj e=>ux hk.nodup (by rwa[dU]at hi) (by rwa[dU]at hj) e,λi hi=>?_,ur hg hk⟩;have iQ:i<o.length:=by rwa[dU]at hi
 rw[rI hg hk (gB iQ),eS,eS];refine fw λt ht=>?_;simp only[Function.comp_apply,dD];exact qB (hk.closed _ (jT iQ) t ht)
theorem j7{bl:List ar}(hg:cL bl)(h0:0<bl.length):HO bl (ch bl):=by
 have ho:=su hg h0;refine⟨ho.nodup,λb hb=>hg.BC h0 ((ho.mem b).1 hb),λb hb t ht=>(ho.mem _).2 ?_⟩;have:=qq hg ht;exact .step ((ho.mem b).1 hb) (by unfold Edge;rw[show((t.toNat:Nat):Int)=t by omega];exact ht) ag
theorem pe{bl:List ar}(hg:cL bl)(h0:0<bl.length):0<(ch bl).length/\nth (ch bl) 0=0:=by
 have ho:=su hg h0;exact⟨(aC.1 ho.zero).1,ki ho.zero⟩
theorem Jk{bl:List ar}{o:List Nat}(hg:cL bl)(hk:HO bl o)(h0:0<o.length)(hz:nth o 0=0):ch bl=(ch (cY bl o)).map (nth o):=by
 have h:=Q2 (Mv hg hk) (by rw[dU];exact h0) hz;unfold ch;rw[h,List.map_reverse]
theorem Bu{bl:List ar}(hg:cL bl)(h0:0<bl.length):ch (cY bl (ch bl))=List.range (ch bl).length:=by
 have hk:=j7 hg h0;obtain⟨hp,hz⟩:=pe hg h0;have h1:=Jk hg hk hp hz;have Nz:=ur hg hk;have Me:0<(cY bl (ch bl)).length:=by rw[dU];exact hp
 have bT:=(j7 Nz Me).lt;have hl:(ch (cY bl (ch bl))).length=(ch bl).length:=by
  have:=congrArg List.length h1;rw[aG]at this;exact this.symm
 apply cf;intro i
 by_cases hi:i<(ch bl).length
 ·rw[eQ hi,gB (by rw[hl];exact hi)]
  congr 1;have h2:nth (ch bl) i=nth ((ch (cY bl (ch bl))).map (nth (ch bl))) i:=congrArg (λl=>nth l i) h1;rw[show nth ((ch (cY bl (ch bl))).map (nth (ch bl))) i=nth (ch bl) (nth (ch (cY bl (ch bl))) i) by
   rw[ki (o:=(ch (cY bl (ch bl))).map (nth (ch bl)))];rw[aK,gB (by rw[hl];exact hi)];rfl]at h2
  have h3:=bT _ (jT (show i<(ch (cY bl (ch bl))).length by rw[hl];exact hi));rw[dU]at h3;exact(ux hk.nodup hi h3 h2).symm
 ·rw[bM (by rw[hl];omega),bM (by simp;omega)]
def iN(l:List Int)(r:Int):List Int:=if r∈l then l else l++[r]
def meets(l s:List Int):List Int:=s.foldl iN l
def Cz(s:List Int):List Int:=meets [] s
theorem iw(l s t:List Int):meets l (s++t)=meets (meets l s) t:=nJ
theorem rq(l:List Int):meets l []=l:=rfl
theorem vP(l:List Int)(r:Int)(t:List Int):meets l (r::t)=meets (iN l r) t:=rfl
theorem QP(s t:List Int):Cz (s++t)=meets (Cz s) t:=iw _ _ _
theorem tB{l:List Int}{r x:Int}:x∈iN l r↔x∈l∨x=r:=by
 unfold iN
 split
 ·rename_i h
  exact⟨.inl,λh2=>h2.elim id λe=>e▸h⟩
 ·rw[bL,bU]
theorem rr{s:List Int}:∀{l:List Int} {x:Int},x∈meets l s↔x∈l∨x∈s:=by
 induction s with
 |nil=>intro l x;rw[rq];simp
 |cons a s ih=>
  intro l x;rw[vP,ih,tB,bJ,or_assoc]
theorem tC{s:List Int}{x:Int}:x∈Cz s↔x∈s:=by unfold Cz;rw[rr];simp
theorem I_{l:List Int}{r:Int}(h:l.Nodup):(iN l r).Nodup:=by
 unfold iN
 split
 ·exact h
 ·rename_i hr
  exact nN.2 ⟨h,by simp,λa ha b hb e=>hr (by rw[bU]at hb;rw[<-hb,<-e];exact ha)⟩
theorem zd{s:List Int}:∀{l:List Int},l.Nodup->(meets l s).Nodup:=by
 induction s with
 |nil=>intro l h;exact h
 |cons a s ih=>intro l h;exact ih (I_ h)
theorem Jj(s:List Int):(Cz s).Nodup:=zd List.nodup_nil
theorem GR(l:List Int)(r:Int):l<+:iN l r:=by
 unfold iN
 split
 ·exact List.prefix_refl l
 ·exact List.prefix_append _ _
theorem uv(s:List Int):∀l:List Int,l<+:meets l s:=by
 induction s with
 |nil=>exact λl=>List.prefix_refl l
 |cons a s ih=>exact λl=>(GR l a).trans (ih _)
theorem QQ(s t:List Int):Cz s<+:Cz (s++t):=by rw[QP];exact uv _ _
theorem TN{l m:List Int}{r:Int}(h:l<+:m)(hr:r∈l):m.idxOf r=l.idxOf r:=by
 obtain⟨t,rfl⟩:=h;rw[List.idxOf_append,if_pos hr]
theorem zW{l:List Int}{r:Int}(h:r∈l):iN l r=l:=by unfold iN;rw[if_pos h]
theorem GS{s:List Int}:∀{l:List Int},(∀r∈s,r∈l)->meets l s=l:=by
 induction s with
 |nil=>intro l _;rfl
 |cons a s ih=>intro l h;rw[vP,zW (h a aH)];exact ih λr hr=>h r (by simp[hr])
theorem Dt{s:List Int}(h:s.Nodup):Cz s=s:=by
 have key:∀(s l:List Int),(l++s).Nodup->meets l s=l++s:=by
  intro s
  induction s with
  |nil=>intro l _;rw[rq,cq]
  |cons a s ih=>
   intro l h;have ha:a∉l:=λhl=>(nN.1 h).2.2 a hl a aH rfl;rw[vP,show iN l a=l++[a] by unfold iN;rw[if_neg ha],ih _ (by simpa using h)];simp
 exact key s [] (by simpa using h)
def eV(v:cm):List Int:=if v.bD then[v.n]else[]
def uS(x:en):List Int:=(gI x).flatMap eV++if 0<=x.dst then[x.dst]else[]
def pR(B:ar):List Int:=B.aL.map (·.dst)++(B.list.flatMap uS++eV B.on)
def tQ(B:ar):List Int:=B.aL.flatMap λp=>p.src.flatMap eV
def eZ(n:Nat):List Int:=(List.range n).map λx:Nat=>(x:Int)
def Ur(params:Nat)(bl:List ar):List Int:=eZ params++(bl.flatMap pR++bl.flatMap tQ)
def pL(params:Nat)(bl:List ar):List Int:=Cz (Ur params bl)
def fL(L:List Int)(r:Int):Int:=((L.idxOf r:Nat):Int)
def cw(L:List Int)(v:cm):cm:=if v.bD then⟨true,fL L v.n⟩else v
def mR(L:List Int)(r:Int):Int:=if 0<=r then fL L r else r
def jm(L:List Int)(x:en):en:={x with a:=cw L x.a,b:=cw L x.b,args:=x.args.map (cw L),dst:=mR L x.dst}
def Ra(L:List Int)(p:eC):eC:=⟨fL L p.dst,p.src.map (cw L)⟩
def qg(L:List Int)(B:ar):ar:={B with aL:=B.aL.map (Ra L),list:=B.list.map (jm L),on:=cw L B.on}
def ew(X:aZ):List ar:=cY X.blocks (ch X.blocks)
def gR(X:aZ):aZ:={X with aF:=(pL X.params.toNat (ew X)).length,blocks:=(ew X).map (qg (pL X.params.toNat (ew X)))}
theorem pM{L:List Int}{r:Int}(h:r∈L):0<=fL L r/\fL L r<L.length:=by
 have:=ju h;unfold fL;omega
theorem KM{L:List Int}{a b:Int}(ha:a∈L)(hb:b∈L)(h:fL L a=fL L b):a=b:=by
 unfold fL at h;have h1:L[L.idxOf a]'(ju ha)=a:=nL _;have h2:L[L.idxOf b]'(ju hb)=b:=nL _;have h3:L.idxOf a=L.idxOf b:=ag;rw[<-h1,<-h2];simp only[h3]
theorem uy{l m:List Int}{r:Int}(h:l<+:m)(hr:r∈l):fL m r=fL l r:=by unfold fL;rw[TN h hr]
theorem sw(n:Nat):(eZ n).Nodup:=lW rT λx _ y _ e=>by omega
theorem mD{n:Nat}{r:Int}:r∈eZ n↔0<=r/\r<n:=by
 unfold eZ;rw[aX];constructor
 ·rintro⟨x,hx,rfl⟩
  have:=cQ.1 hx;omega
 ·rintro⟨h1,h2⟩
  exact⟨r.toNat,cQ.2 ag,ag⟩
theorem rz(n:Nat):(eZ n).length=n:=by simp[eZ]
theorem tJ{n:Nat}{r:Int}(h:r∈eZ n):fL (eZ n) r=r:=by
 have h1:=pM h;rw[rz]at h1;have h2:(eZ n)[(eZ n).idxOf r]'(ju h)=r:=nL _;unfold fL at h1⊢;simp only[eZ,List.getElem_map,List.getElem_range]at h2;exact h2
theorem T0(params:Nat)(bl:List ar):eZ params<+:pL params bl:=by
 have:=QQ (eZ params) (bl.flatMap pR++bl.flatMap tQ);rwa[Dt (sw _)]at this
theorem wY{params:Nat}{bl:List ar}{r:Int}:r∈pL params bl↔r∈eZ params∨(∃B∈bl,r∈pR B)∨∃B∈bl,r∈tQ B:=by
 unfold pL Ur;rw[tC,bL,bL,du,du]
theorem ahO(L:List Int)(x:en):gI (jm L x)=(gI x).map (cw L):=by
 unfold gI jm;simp only
 split
 ·rfl
 split
 ·rfl
 split
 ·rfl
 split<;>rfl
theorem TZ{params:Nat}{R:Nat}{bl:List ar}(h:∀r∈Ur params bl,0<=r/\r<R):(pL params bl).length<=R:=by
 have h1:((pL params bl).map Int.toNat).Nodup:=lW (Jj _) λx hx y hy e=>by
  have:=h x (tC.1 hx);have:=h y (tC.1 hy);omega
 have h2:∀x∈(pL params bl).map Int.toNat,x∈List.range R:=λx hx=>by
  obtain⟨y,hy,rfl⟩:=aX.1 hx;have:=h y (tC.1 hy);exact cQ.2 ag
 have:=h1.length_le_of_subset h2;simpa using this
def om(L rs ss:List Int):Prop:=∀r∈L,ss[(fL L r).toNat]?=rs[r.toNat]?
theorem om.val{L:List Int}{f g:k7}(h:om L f.aF g.aF){v:cm}(hv:v.bD=true->v.n∈L):cD g (cw L v)=cD f v:=by
 unfold cD cw
 by_cases hr:v.bD=true
 ·rw[if_pos hr,if_pos hr]
  simp only[if_true];rw[cz,cz,h v.n (hv hr)]
 ·rw[if_neg hr,if_neg hr,if_neg hr]
theorem om.put{L rs ss:List Int}(hL:∀r∈L,0<=r)(h:om L rs ss){d:Int}(hd:d∈L)(n:Int):om L (rs.set d.toNat n) (ss.set (fL L d).toNat n):=λr hr=>by
 have h0:=h d hd;rw[dQ,dQ]
 by_cases e:d=r
 ·subst e
  rw[if_pos rfl,if_pos rfl]
  by_cases h1:d.toNat<rs.length
  ·rw[if_pos h1,if_pos]
   rw[aB h1]at h0;exact(aC.1 h0).1
  ·rw[if_neg h1,if_neg]
   rw[bM (l:=rs) ag]at h0;have:=kg.1 h0;omega
 ·have h1:¬d.toNat=r.toNat:=λe2=>e (by have:=hL d hd;have:=hL r hr;omega)
  have h2:¬(fL L d).toNat=(fL L r).toNat:=λe2=>e (KM hd hr (by have:=pM hd;have:=pM hr;omega));rw[if_neg h1,if_neg h2];exact h r hr
theorem om.set{L rs ss:List Int}(hL:∀r∈L,0<=r)(h:om L rs ss){d:Int}(hd:0<=d->d∈L)(n:Int):om L (sC rs d n) (sC ss (mR L d) n):=by
 unfold sC mR
 by_cases h1:0<=d
 ·have:=pM (hd h1)
  rw[if_pos h1,if_pos h1,if_pos ag];exact h.put hL (hd h1) n
 ·rw[if_neg h1,if_neg h1,if_neg h1]
  exact h
theorem om.aL{L:List Int}(hL:∀r∈L,0<=r){f g:k7}(h:om L f.aF g.aF){k k':Nat}{F:eC->eC}{ps:List eC}(hp:∀p∈ps,p.dst∈L/\(F p).dst=fL L p.dst/\cD g ((F p).src.getD k' gK)=cD f (p.src.getD k gK)):om L (iD f k ps) (iD g k' (ps.map F)):=by
 unfold iD;rw[List.foldl_map];have key:∀(ps:List eC) (rs ss:List Int),(∀p∈ps,p.dst∈L/\(F p).dst=fL L p.dst/\cD g ((F p).src.getD k' gK)=cD f (p.src.getD k gK))->om L rs ss->om L (ps.foldl (λaF p=>aF.set p.dst.toNat (cD f (p.src.getD k gK))) rs) (ps.foldl (λaF p=>aF.set (F p).dst.toNat (cD g ((F p).src.getD k' gK))) ss):=by
  intro ps
  induction ps with
  |nil=>exact λ_ _ _ h=>h
  |cons p ps ih=>
   intro rs ss hp h;obtain⟨h1,h2,h3⟩:=hp p aH;rw[fF,fF,h2,h3];exact ih _ _ (λq hq=>hp q (by simp[hq])) (h.put hL h1 _)
 exact key ps _ _ hp h
theorem om.enter{L args:List Int}{P R:Nat}(hp:eZ P<+:L)(hb:∀r∈L,0<=r/\r<R)(ha:args.length=P):om L (ek R args) (ek L.length args):=λr hr=>by
 have h1:=hb r hr;have h2:=pM hr;have hk:∀i:Nat,(args++List.replicate R 0)[i]?=(if i<P then args[i]? else(List.replicate R (0:Int))[i-P]?)/\(args++List.replicate L.length 0)[i]?=if i<P then args[i]? else(List.replicate L.length (0:Int))[i-P]?:=λi=>by
  rw[List.getElem?_append,List.getElem?_append,ha];exact⟨rfl,rfl⟩
 unfold ek;rw[rQ,rQ,if_pos ag,if_pos ag,(hk _).1,(hk _).2]
 by_cases h3:r.toNat<P
 ·have h4:fL L r=r:=by
   have h5:r∈eZ P:=mD.2 ag;rw[uy hp h5,tJ h5]
  rw[if_pos h3,if_pos ag,h4]
 ·have h4:¬(fL L r).toNat<P:=λh4=>by
   have h5:fL L r∈eZ P:=mD.2 ag;have h6:fL L (fL L r)=fL L r:=by rw[uy hp h5,tJ h5]
   have h7:=KM (hp.subset h5) hr h6;omega
  rw[if_neg h3,if_neg h4,h_,h_,if_pos ag,if_pos ag]
structure Sj(X Y:aZ)(o:List Nat)(L:List Int):Prop where
 ok:HO X.blocks o
 zero:0<o.length/\nth o 0=0
 blocks:Y.blocks=(cY X.blocks o).map (qg L)
 aF:Y.aF=L.length
 par:eZ X.params.toNat<+:L
 all:∀B∈cY X.blocks o,∀r,r∈pR B∨r∈tQ B->r∈L
 JQ:∀r∈L,0<=r/\r<X.aF
structure NmU(u v:a7)(o:Nat->List Nat)(L:Nat->List Int):Prop where
 ti:v.globals=u.globals
 main:cZ v.funcs=cZ u.funcs
 fn:∀(k:Nat) X,u.funcs[k]?=some X->∃Y,v.funcs[k]?=some Y/\Sj X Y (o k) (L k)
structure FTn(o:Nat->List Nat)(L:Nat->List Int)(f g:k7):Prop where
 fn:g.fn=f.fn
 block:g.block<(o f.fn).length/\nth (o f.fn) g.block=f.block
 at':g.at'=f.at'
 aF:om (L f.fn) f.aF g.aF
structure Zz(o:Nat->List Nat)(L:Nat->List Int)(d e:Int)(f g:k7):Prop where
 same:FTn o L f g
 dst:e=mR (L f.fn) d
 has:0<=d->d∈L f.fn
theorem Zz.back{o:Nat->List Nat}{L:Nat->List Int}{d e:Int}{f g:k7}(h:Zz o L d e f g)(hL:∀r∈L f.fn,0<=r)(n:Int):FTn o L (f.set d n) (g.set e n):=by
 obtain⟨⟨h1,h2,h3,h4⟩,h5,h6⟩:=h;subst h5;exact⟨h1,h2,h3,h4.set hL h6 n⟩
structure ZC(u:a7)(o:Nat->List Nat)(L:Nat->List Int)(s t:js):Prop where
 ok:ij u (s.steps+1) s
 rel:V7 (Zz o L) (FTn o L) s t
theorem xh{x:en}{v:cm}(h:v∈gI x)(hr:v.bD=true):v.n∈uS x:=by
 unfold uS;refine cC _ (du.2 ⟨v,h,?_⟩);unfold eV;rw[if_pos hr];simp
theorem tP{x:en}(h:0<=x.dst):x.dst∈uS x:=by
 unfold uS;rw[if_pos h];simp
theorem rF{B:ar}{x:en}(h:x∈B.list){r:Int}(hr:r∈uS x):r∈pR B:=by
 unfold pR;exact dt _ (cC _ (du.2 ⟨x,h,hr⟩))
theorem zY{B:ar}(h:B.on.bD=true):B.on.n∈pR B:=by
 unfold pR eV;rw[if_pos h];simp
theorem BJ{B:ar}{p:eC}(h:p∈B.aL):p.dst∈pR B:=by
 unfold pR;exact cC _ (aX.2 ⟨p,h,rfl⟩)
theorem xi{B:ar}{p:eC}(h:p∈B.aL){v:cm}(hv:v∈p.src)(hr:v.bD=true):v.n∈tQ B:=by
 unfold tQ;refine du.2 ⟨p,h,du.2 ⟨v,hv,?_⟩⟩;unfold eV;rw[if_pos hr];simp
theorem Hu(L:List Int)(bl:List ar)(i:Nat):dd (bl.map (qg L)) i=dd bl i:=by
 unfold dd;rw[aK];cases bl[i]?<;>rfl
theorem Dw(L:List Int)(bl:List ar)(t:Nat):bf (bl.map (qg L)) t=bf bl t:=vU (aG _) (Hu L bl) t
theorem Yy{u v:a7}{o:Nat->List Nat}{L:Nat->List Int}(hu:iZ u)(hc:iW u)(hn:NmU u v o L):ZD u v 1 1 (ZC u o L):=by
 intro s t ⟨cW,hrel⟩;obtain⟨X,R,hf⟩:=cW.bF;obtain⟨B,hB⟩:∃B,X.blocks[s.bF.block]?=some B:=⟨_,aB hf.block⟩;have Ir:=aA hB;have fW:=hf.fit.eo B Ir;have pD:=hf.fit.ok.iM;have Cl:=hf.fit.ok.block _ B hB;have q_:=hc.body X (aA hf.get);obtain⟨Y,hY,C7⟩:=hn.fn s.bF.fn X hf.get;obtain⟨hm,hi,ho,kr,r7⟩:=hrel;obtain⟨Cc,⟨iR,pC⟩,wl,E6⟩:=r7;have hLp:∀r∈L s.bF.fn,0<=r:=λr hr=>(C7.JQ r hr).1;have uM:eP u s.bF.fn=X.blocks:=by unfold eP;rw[hf.get]
 have sM:eP v s.bF.fn=Y.blocks:=by unfold eP;rw[hY]
 obtain⟨ob,xA⟩:∃ob,ob=o s.bF.fn:=⟨_,rfl⟩;obtain⟨Lb,S0⟩:∃Lb,Lb=L s.bF.fn:=⟨_,rfl⟩;rw[<-xA,<-S0]at C7;rw[<-xA]at iR pC;rw[<-S0]at hLp E6;have hbg:ob[t.bF.block]?=some s.bF.block:=by rw[gB iR,pC]
 have hKB:jf X.blocks ob s.bF.block (a8 X.blocks s.bF.block)=jf X.blocks ob s.bF.block B:=by rw[kO hB]
 have hKm:jf X.blocks ob s.bF.block B∈cY X.blocks ob:=by rw[<-hKB];exact aA (kV hbg)
 obtain⟨C,J6⟩:∃C,C=qg Lb (jf X.blocks ob s.bF.block B):=⟨_,rfl⟩;have hC:Y.blocks[t.bF.block]?=some C:=by rw[C7.blocks,aK,kV hbg,hKB,J6];rfl
 have LZ:=qY hf hB;have zR:ox v t.bF=C:=by
  unfold ox;rw[Cc,hY];simp only[cz,hC,dF]
 have Ov:C.list=B.list.map (jm Lb):=by rw[J6];rfl
 have Kf:=kr.len;have aaV:∀x∈B.list,∀r∈uS x,r∈Lb:=λx hx r hr=>C7.all _ hKm r (.inl (rF (B:=jf X.blocks ob s.bF.block B) hx hr));cases hx:B.list[s.bF.at']? with
 |some x=>
  have qx:iE u s=j5 u (jD (tick s)) x:=by rw[gY,LZ];simp only[hx]
  have oZ:=aA hx;have C1:C.list[t.bF.at']?=some (jm Lb x):=by rw[Ov,aK,wl,hx];rfl
  have mP:iE v t=j5 v (jD (tick t)) (jm Lb x):=by rw[gY,zR];simp only[C1]
  obtain⟨ua,ub,uc,ud⟩:=pj (q_.list _ B hB x oZ);have hgt:FTn o L (jD (tick s)).bF (jD (tick t)).bF:=⟨Cc,⟨by show t.bF.block<(o s.bF.fn).length;rw[<-xA];exact iR,by show nth (o s.bF.fn) t.bF.block=s.bF.block;rw[<-xA];exact pC⟩,by show t.bF.at'+1=s.bF.at'+1;rw[wl],by show om (L s.bF.fn) s.bF.aF t.bF.aF;rw[<-S0];exact E6⟩;have hv:∀w∈gI x,w.bD=true->w.n∈Lb:=λw hw hr=>aaV x oZ _ (xh hw hr);have nz:∀w:cm,w∈gI x∨w=gK->cD (jD (tick t)).bF (cw Lb w)=cD (jD (tick s)).bF w:=λw hw=>by
   refine om.val (f:=(jD (tick s)).bF) (g:=(jD (tick t)).bF) E6 λhr=>?_;rcases hw with hw|rfl
   ·exact hv w hw hr
   ·cases hr
  have xU:0<=x.dst->x.dst∈Lb:=λh=>aaV x oZ _ (tP h);rcases Eu (u:=u) (v:=v) (s:=jD (tick s)) (t:=jD (tick t)) (x:=x) (y:=jm Lb x) rfl rfl (nz _ ua) (nz _ ub) (λtj=>by
   show(x.args.map (cw Lb)).map _=_;rw[eS];refine fw λw hw=>nz w (.inl ?_);rw[uc tj]at hw;exact hw) hm hi ho Kf ud (λh=>by show mR Lb x.dst<0;unfold mR;rw[if_neg (by have:=ud h;omega)];exact ud h)with⟨f,g,e1,e2,ha⟩|⟨tj,e1,e2⟩|⟨tj,mem,cX,out,z,e1,e2⟩
  ·refine⟨λs' gU=>?_,λf' mV=>?_⟩
   ·rw[qx,e1]at gU;cases gU
   ·rw[qx,e1]at mV
    rw[<-Sum.inr.inj mV];exact⟨0,t,g,ag,ag,rfl,by rw[mP,e2],ha⟩
  ·refine⟨λs' gU=>?_,λf' mV=>?_⟩
   ·have h9:=(jV hu cW gU).1
    rw[qx,e1]at gU;have gU:=Sum.inl.inj gU;obtain⟨k,Z,hk,hZ,hlen⟩:=(fW.list.2 x oZ).call tj;obtain⟨W,hW,hnz⟩:=hn.fn k Z hZ;obtain⟨RZ,Vn⟩:=hu.2 k Z hZ;have hxk:x.fn.toNat=k:=ag;refine⟨1,_,ag,ag,.one (by rw[mP,e2]),h9,?_⟩;rw[<-gU,nj,nj,hxk];refine⟨hm,hi,ho,?_,?_⟩
    ·refine .add kr ⟨hgt,?_,?_⟩
     ·show mR Lb x.dst=mR (L s.bF.fn) x.dst;rw[S0]
     ·show 0<=x.dst->x.dst∈L s.bF.fn;rw[<-S0];exact xU
    ·refine⟨rfl,⟨hnz.zero.1,hnz.zero.2⟩,rfl,?_⟩
     show om (L k) (ek (e_ u k) _) (ek (e_ v k) _);have e3:e_ v k=(L k).length:=by unfold e_;rw[hW];simp only;rw[hnz.aF];omega
     have e4:e_ u k=Z.aF.toNat:=by unfold e_;rw[hZ]
     rw[e3,e4];exact om.enter (P:=Z.params.toNat) hnz.par (λr hr=>by have:=hnz.JQ r hr;omega) (by rw[aG];omega)
   ·rw[qx,e1]at mV;cases mV
  ·refine⟨λs' gU=>?_,λf' mV=>?_⟩
   ·have h9:=(jV hu cW gU).1
    rw[qx,e1]at gU;have gU:=Sum.inl.inj gU;refine⟨1,_,ag,ag,.one (by rw[mP,e2]),h9,?_⟩;rw[<-gU];refine⟨rfl,rfl,rfl,kr,?_⟩;have:=Zz.back (o:=o) (L:=L) (d:=x.dst) (e:=mR Lb x.dst) (f:=(jD (tick s)).bF) (g:=(jD (tick t)).bF) ⟨hgt,by show mR Lb x.dst=mR (L s.bF.fn) x.dst;rw[S0],by show 0<=x.dst->x.dst∈L s.bF.fn;rw[<-S0];exact xU⟩ (by show∀r∈L s.bF.fn,0<=r;rw[<-S0];exact hLp) z;exact this
   ·rw[qx,e1]at mV;cases mV
 |none=>
  have qx:iE u s=k8 u (tick s) B:=by rw[gY,LZ];simp only[hx]
  have x8:C.list[t.bF.at']?=none:=by rw[Ov,aK,wl,hx];rfl
  have mP:iE v t=k8 v (tick t) C:=by rw[gY,zR];simp only[x8]
  have oy:cD t.bF C.on=cD s.bF B.on:=by
   rw[J6];exact om.val E6 λhr=>C7.all _ hKm _ (.inl (zY (B:=jf X.blocks ob s.bF.block B) hr))
  have hk:C.kind=B.kind:=by rw[J6];rfl
  by_cases IF:B.kind=2∨B.kind=3
  ·obtain⟨i,iQ,e1,e2⟩:=Be (u:=u) (v:=v) (s:=tick s) (t:=tick t) (C:=C) IF hk fW.kind.2 oy
   have PG:=yF (B:=B) iQ;obtain⟨to,T,e,hg⟩:=Io hf hB PG;have IQ:to<X.blocks.length:=(aC.1 hg.get).1;have abK:to∈ob:=by
    have:=C7.ok.closed s.bF.block (aA hbg) (B.to.getD i 0) (by rw[fR hB];exact PG);rwa[e,dD]at this
   have hCi:C.to.getD i 0=((ob.idxOf to:Nat):Int):=by
    rw[J6];show(B.to.map λt=>((ob.idxOf t.toNat:Nat):Int)).getD i 0=_;rw[cz,aK,aB iQ,bz,dF];rw[cz,aB iQ,dF]at e;rw[e,dD]
   rw[e]at e1;rw[hCi]at e2;have hjn:nth ob (ob.idxOf to)=to:=qB abK;have jE:=vI abK;have hjg:ob[ob.idxOf to]?=some to:=by rw[gB jE,hjn]
   generalize ob.idxOf to=j at*;have hKT:(cY X.blocks ob)[j]?=some (jf X.blocks ob to T):=by rw[kV hjg,kO hg.get]
   have hTS:Y.blocks[j]?=some (qg Lb (jf X.blocks ob to T)):=by rw[C7.blocks,aK,hKT];rfl
   have AW:eU (eP u s.bF.fn) to=T.aL:=by rw[uM];unfold eU;rw[hg.get]
   have abm:eU (eP v s.bF.fn) j=T.aL.map λp=>Ra Lb (gC X.blocks ob to p):=by
    rw[sM];unfold eU;rw[hTS];show(T.aL.map _).map _=_;rw[eS]
    rfl
   have wU:bf (eP v s.bF.fn) j=bf (cY X.blocks ob) j:=by rw[sM,C7.blocks,Dw]
   have W0:t.bF.block∈bf (cY X.blocks ob) j:=by
    rw[Bz pD C7.ok hjg,cI,cQ,decide_eq_true_eq];exact⟨iR,by rw[pC];exact hg.mem⟩
   refine⟨λs' gU=>?_,λf' mV=>?_⟩
   ·have h9:=(jV hu cW gU).1
    rw[qx,e1]at gU;have gU:=Sum.inl.inj gU;refine⟨1,_,ag,ag,.one (by rw[mP,e2]),h9,?_⟩;rw[<-gU,nA,nA];refine⟨hm,hi,ho,kr,?_⟩;refine⟨Cc,⟨?_,?_⟩,rfl,?_⟩
    ·show((j:Nat):Int).toNat<(o s.bF.fn).length;rw[dD,<-xA];exact jE
    ·show nth (o s.bF.fn) ((j:Nat):Int).toNat=((to:Nat):Int).toNat;rw[dD,dD,<-xA];exact hjn
    ·show om (L s.bF.fn) (iD s.bF ((bf (eP u s.bF.fn) ((to:Nat):Int).toNat).idxOf s.bF.block) (eU (eP u s.bF.fn) ((to:Nat):Int).toNat)) (iD t.bF ((bf (eP v t.bF.fn) ((j:Nat):Int).toNat).idxOf t.bF.block) (eU (eP v t.bF.fn) ((j:Nat):Int).toNat))
     rw[Cc,dD,dD,AW,abm,wU,uM,<-S0];refine om.aL hLp E6 λp hp=>?_;have hpk:gC X.blocks ob to p∈(jf X.blocks ob to T).aL:=aX.2 ⟨p,hp,rfl⟩;have aaa:=aA hKT;refine⟨C7.all _ aaa (gC X.blocks ob to p).dst (.inl (BJ hpk)),rfl,?_⟩;have AX:=(hf.fit.ok.block to T hg.get).aL p hp;have r5:(gC X.blocks ob to p).src.getD ((bf (cY X.blocks ob) j).idxOf t.bF.block) gK=p.src.getD ((bf X.blocks to).idxOf s.bF.block) gK:=by
      have:=IY pD C7.ok hjg W0 p;unfold kj at this;rw[pC]at this;exact this
     have hlen:(bf (cY X.blocks ob) j).idxOf t.bF.block<(gC X.blocks ob to p).src.length:=by
      rw[qy pD C7.ok hjg,aG];exact ju W0
     show cD t.bF (((gC X.blocks ob to p).src.map (cw Lb)).getD _ gK)=_;rw[<-r5,cz,aK,aB hlen,cz,aB hlen];simp only[bz,dF];exact om.val E6 λhr=>C7.all _ aaa _ (.inr (xi hpk (jK hlen) hr))
   ·rw[qx,e1]at mV;cases mV
  ·rcases EO (u:=u) (v:=v) (FR:=Zz o L) (s:=tick s) (t:=tick t) (C:=C) (λh=>IF (.inl h)) (λh=>IF (.inr h)) hk oy ho kr with⟨f,g,e1,e2,ha⟩|⟨l,f,m,g,d1,d2,e1,e2,d3,d4⟩
   ·refine⟨λs' gU=>?_,λf' mV=>?_⟩
    ·rw[qx,e1]at gU;cases gU
    ·rw[qx,e1]at mV
     rw[<-Sum.inr.inj mV];exact⟨0,t,g,ag,ag,rfl,by rw[mP,e2],ha⟩
   ·refine⟨λs' gU=>?_,λf' mV=>?_⟩
    ·have h9:=(jV hu cW gU).1
     rw[qx,e1]at gU;have gU:=Sum.inl.inj gU;refine⟨1,_,ag,ag,.one (by rw[mP,e2]),h9,?_⟩;rw[<-gU];have O0:f∈s.rest:=by
      have:s.rest=l++[f]:=d1;rw[this];simp
     obtain⟨XF,RF,hff⟩:=cW.rest f O0;obtain⟨YF,_,hnF⟩:=hn.fn f.fn XF hff.get;exact⟨hm,hi,ho,d3,d4.back (λr hr=>(hnF.JQ r hr).1) _⟩
    ·rw[qx,e1]at mV;cases mV
theorem BK{u v:a7}{R:js->js->Prop}(h:ZD u v 1 1 R)(ho:∀s t,R s t->t.out=s.out):∀(n:Nat) (s t:js),R s t->Alike (mS u n s) (mS v n t)/\(mS v n t).steps+s.steps=(mS u n s).steps+t.steps
 |0,s,t,hR=>⟨⟨rfl,rfl,ho s t hR⟩,Nat.add_comm _ _⟩
 |n+1,s,t,hR=>by
  obtain⟨hg,hf⟩:=h s t hR;rw[mS,mS];cases he:iE u s with
  |inl s'=>
   obtain⟨k,t',hlo,hhi,O6,hR'⟩:=hg s' he;obtain rfl:k=1:=ag;obtain⟨t1,h1,h2⟩:=O6;rw[h1];obtain rfl:t1=t':=h2;simp only;obtain⟨ha,hs⟩:=BK h ho n s' t1 hR';have h3:=sE he;have h4:=sE h1;exact⟨ha,ag⟩
  |inr f=>
   obtain⟨k,t',g,hlo,hhi,O6,kr,ha⟩:=hf f he;obtain rfl:k=0:=ag;obtain rfl:t=t':=O6;rw[kr];simp only;have h3:=(uE he).1;have h4:=(uE kr).1;exact⟨ha,ag⟩
theorem T8{u v:a7}{o:Nat->List Nat}{L:Nat->List Int}(hu:Whole u)(hn:NmU u v o L)(cX:List Int)(mO:∀x∈cX,c9 x)(f:Nat):Alike (cg u cX f) (cg v cX f)/\(cg v cX f).steps=(cg u cX f).steps:=by
 have e1:∀v:a7,iU v cX=⟨se v.globals,cX,[],0,[],⟨(cZ v.funcs).toNat,0,0,List.replicate (e_ v (cZ v.funcs).toNat) 0,-1⟩,bump (v.funcs.map λX=>List.replicate X.blocks.length 0) (cZ v.funcs).toNat 0⟩:=λ_=>rfl;obtain⟨fm,M,O0,hM⟩:=hu.start.main;obtain⟨W,hW,uP⟩:=hn.fn fm M hM;have hrel:ZC u o L (iU u cX) (iU v cX):=⟨tS hu.fit hu.start mO,by
  rw[e1,e1,hn.main,hn.ti];refine⟨rfl,rfl,rfl,.nil _ _,rfl,?_,rfl,?_⟩
  ·show 0<(o (cZ u.funcs).toNat).length/\nth (o (cZ u.funcs).toNat) 0=0
   rw[O0,dD];exact uP.zero
  ·show om (L (cZ u.funcs).toNat) (List.replicate (e_ u (cZ u.funcs).toNat) 0) (List.replicate (e_ v (cZ u.funcs).toNat) 0)
   rw[O0,dD];have e3:e_ v fm=(L fm).length:=by unfold e_;rw[hW];simp only;rw[uP.aF];omega
   have e4:e_ u fm=M.aF.toNat:=by unfold e_;rw[hM]
   rw[e3,e4];intro r hr;have h1:=uP.JQ r hr;have h2:=pM hr;rw[h_,h_,if_pos ag,if_pos ag]⟩
 obtain⟨h1,h2⟩:=BK (Yy hu.fit hu.ok hn) (λs t h=>h.rel.out) f _ _ hrel;refine⟨h1,?_⟩;have e2:(iU u cX).steps=0:=rfl;have e3:(iU v cX).steps=0:=rfl;unfold cg;omega
theorem Rz{f:Nat->Nat}:∀{o l:List Nat},o.Nodup->(∀x∈o,x∈l)->(o.map f).sum<=(l.map f).sum
 |[],l,_,_=>by simp
 |a::o,l,hn,hs=>by
  have ha:=hs a aH;rw[mh]at hn;have h1:=(List.perm_cons_erase ha).map f;have h2:=h1.sum_nat;have h3:=Rz (f:=f) (o:=o) (l:=l.erase a) hn.2 λx hx=>by
   have eH:x≠a:=λe=>hn.1 (e▸hx);exact(List.mem_erase_of_ne eH).2 (hs x (by simp[hx]))
  simp only[bO,et]at h2⊢;omega
def Fb(B:ar):Nat:=B.aL.length+B.list.length
theorem rp(bl:List ar):dV bl=(bl.map Fb).sum:=rfl
theorem vN(bl:List ar):dV bl=((List.range bl.length).map λb=>Fb (a8 bl b)).sum:=by
 rw[rp];congr 1;apply cf;intro i;rw[aK,aK]
 by_cases hi:i<bl.length
 ·rw[bK hi,eQ hi];rfl
 ·rw[bM ag,bM (by simp;omega)];rfl
theorem MA(bl:List ar)(o:List Nat):dV (cY bl o)=(o.map λb=>Fb (a8 bl b)).sum:=by
 rw[rp];unfold cY;rw[eS];congr 1;refine fw λb _=>?_;simp[Fb,jf]
theorem oR{bl:List ar}{o:List Nat}(hk:HO bl o):dV (cY bl o)<=dV bl:=by
 rw[MA,vN];exact Rz hk.nodup λx hx=>cQ.2 (hk.lt x hx)
theorem tu{bl:List ar}{o:List Nat}(hk:HO bl o):o.length<=bl.length:=by
 have:=hk.nodup.length_le_of_subset (l₂:=List.range bl.length) λx hx=>cQ.2 (hk.lt x hx);simpa using this
theorem GO(L:List Int)(bl:List ar):dV (bl.map (qg L))=dV bl:=by
 rw[rp,rp,eS];congr 1;refine fw λB _=>?_;simp[Fb,qg]
theorem val_zero{R:Int}{v:cm}:dw R v=0↔(v.bD=true->0<=v.n/\v.n<R):=by
 unfold dw
 by_cases h:v.bD=true
 ·simp only[h,Bool.true_and,within,Bool.not_and,Bool.or_eq_true,Bool.not_eq_true',decide_eq_false_iff_not,forall_const]
  constructor
  ·intro h1
   split at h1
   ·cases h1
   ·omega
  ·intro h1
   rw[if_neg ag]
 ·have h2:v.bD=false:=by simpa using h
  simp[h2]
theorem BD{L:List Int}{v:cm}(h:v.bD=true->v.n∈L):dw L.length (cw L v)=0:=val_zero.2 λhr=>by
 unfold cw at hr⊢
 by_cases h1:v.bD=true
 ·rw[if_pos h1]
  exact pM (h h1)
 ·rw[if_neg h1]at hr
  exact absurd hr h1
theorem KQ(L:List Int)(v:cm):iC (cw L v)=iC v:=by
 unfold cw iC
 by_cases h:v.bD=true
 ·rw[if_pos h,h];rfl
 ·rw[if_neg h]
theorem G8(L:List Int)(d:Int):(mR L d=-1)↔d=-1:=by
 unfold mR
 by_cases h:0<=d
 ·rw[if_pos h]
  have:0<=fL L d:=by unfold fL;omega
  omega
 ·rw[if_neg h]
theorem Nk(L:List Int)(x:en):pU (jm L x)=pU x:=by
 unfold pU jm;simp only[KQ,aG];rw[show decide (mR L x.dst=-1)=decide (x.dst=-1) by rw[decide_eq_decide];exact G8 L x.dst]
theorem Ju{fs:List aZ}{R:Int}{L:List Int}{x:en}(h:dK fs R x=0)(mO:∀r∈uS x,r∈L):dK fs L.length (jm L x)=0:=by
 obtain⟨ua,ub,uc,_⟩:=pj h;have hv:∀v:cm,v∈gI x∨v=gK->dw L.length (cw L v)=0:=λv hv=>BD λhr=>by
  rcases hv with hv|rfl
  ·exact mO _ (xh hv hr)
  ·cases hr
 unfold dK at h⊢;rw[Nk];rw[show(jm L x).op=x.op from rfl]
 split at h
 ·cases h
 rename_i h1;rw[if_neg h1]
 split at h
 ·cases h
 rename_i h2;rw[if_neg h2]
 split at h
 ·rename_i h3
  rw[h]at h3;simp at h3
 rename_i h3;have h4:¬(((shape x.op).1&& !(decide (x.op=20)&&decide ((jm L x).dst=-1)))&& !decide (jx L.length (jm L x).dst=0))=true:=by
  rw[show(jm L x).dst=mR L x.dst from rfl,show decide (mR L x.dst=-1)=decide (x.dst=-1) by rw[decide_eq_decide];exact G8 L x.dst];intro hc;rw[Bool.and_eq_true]at hc;apply h3;rw[Bool.and_eq_true];refine⟨hc.1,?_⟩;have Gd:=hc.2;simp only[Bool.not_eq_true',decide_eq_false_iff_not]at Gd⊢;intro hd;apply Gd;have L3:0<=x.dst/\x.dst<R:=by
   unfold jx at hd
   split at hd
   ·cases hd
   ·rename_i h9
    simp[within]at h9;omega
  have hm:=pM (mO _ (tP L3.1));unfold jx mR;rw[if_pos L3.1,if_neg (by simp[within];omega)]
 rw[if_neg h4];rw[show(jm L x).a=cw L x.a from rfl,show(jm L x).b=cw L x.b from rfl,hv _ ua,hv _ ub];simp only[ne_eq,not_true_eq_false,if_false]
 split at h
 ·rename_i h5;exact absurd h h5
 split at h
 ·rename_i h5;exact absurd h h5
 unfold fY at h⊢;rw[show(jm L x).op=x.op from rfl,show(jm L x).fn=x.fn from rfl,show(jm L x).args=x.args.map (cw L)from rfl]
 by_cases tj:x.op=20
 ·rw[if_neg (by simp[tj])]at h⊢
  split at h
  ·cases h
  rename_i h6;rw[if_neg h6];rw[aG]
  split at h
  ·cases h
  rename_i h7;rw[if_neg h7,gz];intro j hj;unfold jr;rw[aK,aB hj];exact hv _ (.inl (by rw[<-uc tj];exact jK hj))
 ·rw[if_pos tj]
theorem tH{R:Int}{b np:Nat}{p:eC}:w9 R b np p=0↔b≠0/\(0<=p.dst/\p.dst<R)/\p.src.length=np/\∀v∈p.src,dw R v=0:=by
 have hd:jx R p.dst=0↔0<=p.dst/\p.dst<R:=by
  unfold jx;constructor
  ·intro h
   split at h
   ·cases h
   ·rename_i h9
    simp[within]at h9;omega
  ·intro h
   rw[if_neg (by simp[within];omega)]
 unfold w9;constructor
 ·intro h
  split at h
  ·cases h
  rename_i h1
  split at h
  ·rename_i h2;exact absurd h h2
  rename_i h2
  split at h
  ·cases h
  rename_i h3;exact⟨ag,hd.1 (by simpa using h2),ag,l_ h⟩
 ·rintro⟨h1,h2,h3,h4⟩
  rw[if_neg ag,if_neg (by rw[hd.2 h2];simp),if_neg ag,gz];intro j hj;unfold jr;rw[aB hj];exact h4 _ (jK hj)
theorem T7{u:a7}(hc:iW u){i:Nat}{X Y:aZ}{o:List Nat}{L:List Int}(hX:u.funcs[i]?=some X)(hn:Sj X Y o L)(Kh:Y.name=X.name)(qJ:Y.params=X.params)(hle:L.length<=100):zl u.funcs X Y:=by
 have hs:=zl.same hc hX;have hb:=hs.body;obtain⟨R,OB,hR,hf⟩:=pz (fz.2 hc) hX;have hg:=hf.iM;have hk:=hn.ok;have oh:∀(b:Nat) B,X.blocks[b]?=some B->B.to.Nodup:=λb B hB=>(hf.block b B hB).to;have Vc:Y.blocks.length=o.length:=by rw[hn.blocks,aG,dU]
 have x3:=kH hf hk;have hgk:=x3.iM;have oj:=oR hk;have hYm:dV Y.blocks=dV (cY X.blocks o):=by rw[hn.blocks,GO]
 have hpL:=hn.par.length_le;rw[rz]at hpL;have Ka:∀B∈X.blocks,NP X.blocks.length X.aF B:=λB hB=>lu.1 (hb.ends B hB);have jS:∀(j:Nat) C,Y.blocks[j]?=some C->∃B,j<o.length/\X.blocks[nth o j]?=some B/\(cY X.blocks o)[j]?=some (jf X.blocks o (nth o j) B)/\C=qg L (jf X.blocks o (nth o j) B):=λj C hC=>by
  have hj:j<o.length:=by rw[<-Vc];exact(aC.1 hC).1
  have bT:=hk.lt _ (jT hj);refine⟨a8 X.blocks (nth o j),hj,bK bT,kV (gB hj),?_⟩;rw[hn.blocks,aK,kV (gB hj)]at hC;exact(be hC).symm
 have cP:∀(j:Nat) B,(cY X.blocks o)[j]?=some B->∀r,r∈pR B∨r∈tQ B->r∈L:=λj B hB=>hn.all B (aA hB);refine⟨Kh,qJ,?_,?_,?_,?_,?_,?_⟩
 ·rw[qJ,hn.aF]
  omega
 ·rw[Vc]
  have h1:=hn.zero.1;have h2:=tu hk;have h3:=hs.many;omega
 ·rw[<-al,hYm]
  have h1:=hs.size;rw[<-al]at h1;omega
 ·intro C hC
  obtain⟨j,hj⟩:=br hC;obtain⟨B,jE,hB,hK,rfl⟩:=jS j C hj;have he:=Ka B (aA hB);have Tp:=vL hg hk oh j _ hK;rw[Vc,hn.aF];refine lu.2 ⟨he.kind,?_,λt ht=>?_,λh3 e=>?_,λh2=>?_,?_⟩
  ·show((B.to.map _).length:Int)=B.kind-1
   rw[aG];exact he.len
  ·have ht:t∈B.to.map λt=>((o.idxOf t.toNat:Nat):Int):=ht
   obtain⟨x,hx,rfl⟩:=aX.1 ht;have PP:=he.to x hx;have oZ:=hk.closed _ (jT jE) x (by rw[fR hB];exact hx);have h1:=vI oZ;have h2:=qB oZ;have h3:o.idxOf x.toNat≠0:=λe=>by
    rw[e,hn.zero.2]at h2;omega
   omega
  ·have hl:((qg L (jf X.blocks o (nth o j) B)).to).length=2:=by
    show(B.to.map _).length=2;rw[aG];have:=he.len;have q9:B.kind=3:=h3;omega
   rw[aB (show 0<_ by omega),aB (show 1<_ by omega)]at e;simp only[dF]at e;have:=(List.getElem_inj (show(qg L (jf X.blocks o (nth o j) B)).to.Nodup from Tp)).1 e;omega
  ·show iC (cw L B.on)=true
   rw[KQ];exact he.one h2
  ·exact BD λhr=>cP j _ hK _ (.inl (zY (B:=jf X.blocks o (nth o j) B) hr))
 ·intro j C hC p' uj
  obtain⟨B,jE,hB,hK,rfl⟩:=jS j C hC;obtain⟨q,hq,rfl⟩:=aX.1 uj;have NC:=hq;obtain⟨p,hp,rfl⟩:=aX.1 hq;have h0:=hb.aL (nth o j) B hB p hp;unfold lQ at h0⊢;obtain⟨h1,h2,h3,h4⟩:=tH.1 h0;have Ti:cL Y.blocks:=λD hD=>by
   rw[hn.blocks]at hD;obtain⟨E,hE,rfl⟩:=aX.1 hD;have:=hgk E hE;rw[hn.blocks,aG];exact this
  have adT:∀(b:Nat) B,Y.blocks[b]?=some B->B.to.Nodup:=λb D hD=>by
   obtain⟨E,iR,_,hKE,rfl⟩:=jS b D hD;exact(vL hg hk oh b _ hKE:(jf X.blocks o (nth o b) E).to.Nodup)
  rw[gm Ti adT (by rw[Vc];exact jE),hn.aF];refine tH.2 ⟨λe=>?_,?_,?_,λv hv=>?_⟩
  ·subst e
   exact h1 hn.zero.2
  ·exact pM (cP j _ hK (gC X.blocks o (nth o j) p).dst (.inl (BJ NC)))
  ·show((gC X.blocks o (nth o j) p).src.map (cw L)).length=_
   rw[aG,qy hg hk (gB jE),aG,dF,aG,hn.blocks,Dw]
  ·obtain⟨w,hw,rfl⟩:=aX.1 hv
   exact BD λhr=>cP j _ hK _ (.inr (xi NC hw hr))
 ·intro j C hC x' HF
  obtain⟨B,jE,hB,hK,rfl⟩:=jS j C hC;obtain⟨x,hx,rfl⟩:=aX.1 HF;have Ce:x∈B.list:=hx;rw[hn.aF];exact Ju (hb.list _ B hB x Ce) λr hr=>cP j _ hK _ (.inl (rF (B:=jf X.blocks o (nth o j) B) Ce hr))
noncomputable def Bk(u:a7):a7:={u with funcs:=u.funcs.map gR}
structure kw(X:aZ)(R:Nat):Prop where
 aF:X.aF=R
 le:R<=100
 ok:eX R X.blocks
 pos:0<X.blocks.length
 par:0<=X.params/\X.params<=R
 Nr:∀B∈X.blocks,∀x∈B.list,∃fs,dK fs X.aF x=0
theorem yU{u:a7}(hc:iW u){k:Nat}{X:aZ}(hX:u.funcs[k]?=some X):∃R,kw X R:=by
 obtain⟨R,h1,h2,h3⟩:=pz (fz.2 hc) hX;have hs:=zl.same hc hX;have h4:=nh (fz.2 hc) hX;have hb:=hs.body;refine⟨R,h1,h2,h3,by have:=hs.many;omega,ag,λB hB x hx=>?_⟩;obtain⟨b,wi⟩:=br hB;exact⟨_,hb.list b B wi x hx⟩
theorem uC{R:Nat}{bl:List ar}(hf:eX R bl){B:ar}(hB:B∈bl){r:Int}(h:r∈pR B∨r∈tQ B):0<=r/\r<R:=by
 obtain⟨b,hb⟩:=br hB;have hbo:=hf.block b B hb;have hv:∀v:cm,ik R v->r∈eV v->0<=r/\r<R:=λv hv hr=>by
  unfold eV at hr
  split at hr
  ·rename_i h1
   obtain rfl:=bU.1 hr;exact hv h1
  ·cases hr
 rcases h with h|h
 ·unfold pR at h
  rcases bL.1 h with h|h
  ·obtain⟨p,hp,rfl⟩:=aX.1 h
   exact(hbo.aL p hp).dst
  ·rcases bL.1 h with h|h
   ·obtain⟨x,hx,h⟩:=du.1 h
    have PP:=hbo.list x hx;unfold uS at h;rcases bL.1 h with h|h
    ·obtain⟨v,uk,h⟩:=du.1 h
     rw[rM PP]at uk;exact hv v (PP.tU v uk) h
    ·split at h
     ·rename_i h0
      obtain rfl:=bU.1 h;exact⟨h0,PP.dst h0⟩
     ·cases h
   ·exact hv _ hbo.on h
 ·unfold tQ at h
  obtain⟨p,hp,h⟩:=du.1 h;obtain⟨v,uk,h⟩:=du.1 h;exact hv v ((hbo.aL p hp).tU v uk) h
theorem Dq{R P:Nat}{bl:List ar}(hf:eX R bl)(hP:P<=R){r:Int}(h:r∈pL P bl):0<=r/\r<R:=by
 rcases wY.1 h with h|⟨B,hB,h⟩|⟨B,hB,h⟩
 ·have:=mD.1 h
  omega
 ·exact uC hf hB (.inl h)
 ·exact uC hf hB (.inr h)
theorem T6{X:aZ}{R:Nat}(h:kw X R){o:List Nat}(hk:HO X.blocks o)(hz:0<o.length/\nth o 0=0):Sj X {X with aF:=(pL X.params.toNat (cY X.blocks o)).length,blocks:=(cY X.blocks o).map (qg (pL X.params.toNat (cY X.blocks o)))} o (pL X.params.toNat (cY X.blocks o)):=by
 have x3:=kH h.ok hk;have hp:=h.par;refine⟨hk,hz,rfl,rfl,T0 _ _,λB hB r hr=>wY.2 ?_,λr hr=>?_⟩
 ·rcases hr with hr|hr
  ·exact .inr (.inl ⟨B,hB,hr⟩)
  ·exact .inr (.inr ⟨B,hB,hr⟩)
 ·have:=Dq x3 (show X.params.toNat<=R by omega) hr
  rw[h.aF];exact this
theorem MI{X:aZ}{R:Nat}(h:kw X R):Sj X (gR X) (ch X.blocks) (pL X.params.toNat (ew X)):=
 T6 h (j7 h.ok.iM h.pos) (pe h.ok.iM h.pos)
theorem Bl{X:aZ}{R:Nat}(h:kw X R):(pL X.params.toNat (ew X)).length<=R:=by
 have hp:=h.par;exact TZ λr hr=>Dq (kH h.ok (j7 h.ok.iM h.pos)) (show X.params.toNat<=R by omega) (tC.2 hr)
theorem Dk{u v:a7}(h:v.funcs.map (·.name)=u.funcs.map (·.name)):cZ v.funcs=cZ u.funcs:=by
 rw[nB,nB,h]
theorem EF{u:a7}(hc:iW u)(T:aZ->aZ)(o:aZ->List Nat)(L:aZ->List Int)(hT:∀X R,kw X R->Sj X (T X) (o X) (L X)/\(L X).length<=R/\(T X).name=X.name/\(T X).params=X.params):
  NmU u {u with funcs:=u.funcs.map T} (λk=>match u.funcs[k]? with|some X=>o X|none=>[]) (λk=>match u.funcs[k]? with|some X=>L X|none=>[]):=by
 refine⟨rfl,Dk ?_,λk X hX=>⟨T X,by simp only[aK,hX,bz],?_⟩⟩
 ·simp only[eS]
  refine fw λX hX=>?_;obtain⟨k,hk⟩:=br hX;obtain⟨R,h⟩:=yU hc hk;exact(hT X R h).2.2.1
 ·obtain⟨R,h⟩:=yU hc hX
  rw[hX];exact(hT X R h).1
theorem QH{u:a7}(hu:Whole u){i:Nat}{X Y:aZ}{o:List Nat}{L:List Int}(hX:u.funcs[i]?=some X)(hn:Sj X Y o L)(hl:L.length<=100):∀C∈Y.blocks,wm C:=λC hC=>by
 have hLl:∀r∈L,c9 (fL L r):=λr hr=>by
  have h1:=pM hr;exact⟨ag,ag⟩
 have hv:∀v:cm,(v.bD=true->v.n∈L)->c9 v.n->c9 (cw L v).n:=λv h1 h2=>by
  unfold cw
  by_cases h:v.bD=true
  ·rw[if_pos h];exact hLl _ (h1 h)
  ·rw[if_neg h];exact h2
 obtain⟨R,hf⟩:=yU hu.ok hX;rw[hn.blocks]at hC;obtain⟨K,hK,rfl⟩:=aX.1 hC;have cP:=hn.all K hK;have adZ:wm K/\∀x∈K.list,(x.a∈gI x∨x.a=gK)/\(x.b∈gI x∨x.b=gK)/\∀v∈x.args,v∈gI x:=by
  unfold cY at hK;obtain⟨b,hb,rfl⟩:=aX.1 hK;have hB:=bK (hn.ok.lt b hb);have h0:=hu.ry X (aA hX) _ (aA hB);refine⟨⟨h0.on,λq hq v uk=>?_,h0.list⟩,λx hx=>?_⟩
  ·obtain⟨p,hp,rfl⟩:=aX.1 hq
   obtain⟨y,hy,rfl⟩:=aX.1 uk;have Zr:=(cI.1 hy).2;exact h0.aL p hp _ (uD (R:=R) ((hf.ok.block b _ hB).aL p hp).len (by simpa using Zr))
  ·obtain⟨fs,h1⟩:=hf.Nr _ (aA hB) x hx
   obtain⟨h2,h3,h4,_⟩:=pj h1;refine⟨h2,h3,λv uk=>?_⟩
   by_cases tj:x.op=20
   ·rw[<-h4 tj];exact uk
   ·rw[((hf.ok.block b _ hB).list x hx).args tj]at uk
    cases uk
 obtain⟨h0,hus⟩:=adZ;have hx:∀x∈K.list,∀v,v∈gI x∨v=gK->v.bD=true->v.n∈L:=λx hx v h hr=>by
  rcases h with h|rfl
  ·exact cP _ (.inl (rF hx (xh h hr)))
  ·cases hr
 refine⟨hv _ (λhr=>cP _ (.inl (zY hr))) h0.on,λq hq v uk=>?_,λx' HF=>?_⟩
 ·obtain⟨p,hp,rfl⟩:=aX.1 hq
  obtain⟨w,hw,rfl⟩:=aX.1 uk;exact hv w (λhr=>cP _ (.inr (xi hp hw hr))) (h0.aL p hp w hw)
 ·obtain⟨x,oZ,rfl⟩:=aX.1 HF
  obtain⟨h1,h2,h3⟩:=hus x oZ;obtain⟨g1,g2,g3,g4⟩:=h0.list x oZ;refine⟨?_,hv _ (hx x oZ _ h1) g2,hv _ (hx x oZ _ h2) g3,λv' hv'=>?_⟩
  ·show c9 (mR L x.dst)
   unfold mR
   by_cases h:0<=x.dst
   ·rw[if_pos h]
    exact hLl _ (cP _ (.inl (rF oZ (tP h))))
   ·rw[if_neg h];exact g1
  ·obtain⟨v,uk,rfl⟩:=aX.1 hv'
   exact hv v (hx x oZ v (.inl (h3 v uk))) (g4 v uk)
theorem G1{u:a7}(hu:Whole u)(T:aZ->aZ)(o:aZ->List Nat)(L:aZ->List Int)(hT:∀X R,kw X R->Sj X (T X) (o X) (L X)/\(L X).length<=R/\(T X).name=X.name/\(T X).params=X.params):Whole {u with funcs:=u.funcs.map T}:=by
 refine⟨xJ hu.ok rfl (aG _) λi X Y hX hY=>?_,λY hY=>?_,hu.J4⟩
 ·simp only[aK,hX,bz]at hY
  obtain rfl:=be hY;obtain⟨R,h⟩:=yU hu.ok hX;obtain⟨h1,h2,h3,h4⟩:=hT X R h;exact T7 hu.ok hX h1 h3 h4 (by have:=h.le;omega)
 ·simp only at hY
  obtain⟨X,hX,rfl⟩:=aX.1 hY;obtain⟨k,hk⟩:=br hX;obtain⟨R,h⟩:=yU hu.ok hk;obtain⟨h1,h2,h3,h4⟩:=hT X R h;exact QH hu hk h1 (by have:=h.le;omega)
theorem vQ:∀X R,kw X R->Sj X (gR X) (ch X.blocks) (pL X.params.toNat (ew X))/\(pL X.params.toNat (ew X)).length<=R/\(gR X).name=X.name/\(gR X).params=X.params:=
 λ_ _ h=>⟨MI h,Bl h,rfl,rfl⟩
theorem w6{u:a7}(hu:Whole u):Whole (Bk u):=G1 hu gR _ _ vQ
theorem LG{bl mK:List ar}(h:∀i,dd mK i=dd bl i):∀(f b:Nat) (st:List Bool×List Nat),wh mK f b st=wh bl f b st:=by
 intro f
 induction f with
 |zero=>exact λ_ _=>rfl
 |succ f ih=>
  intro b st;have hv:fT mK f=fT bl f:=by
   funext st t
   unfold fT;rw[ih]
  rw[ls,ls,hv,h b]
theorem tG{bl mK:List ar}(hl:mK.length=bl.length)(h:∀i,dd mK i=dd bl i):ch mK=ch bl:=by
 unfold ch gw;rw[hl,LG h]
theorem GX{X:aZ}{R:Nat}(h:kw X R):ch (gR X).blocks=List.range (gR X).blocks.length:=by
 have h1:ch (gR X).blocks=ch (ew X):=tG (aG _) (Hu _ _);have h2:(gR X).blocks.length=(ch X.blocks).length:=by
  show((ew X).map _).length=_;rw[aG];exact dU _ _
 rw[h1,h2];exact Bu h.ok.iM h.pos
theorem Q_{n:Nat}{B:ar}(h:∀r,r∈pR B∨r∈tQ B->r∈eZ n)(hu:∀x∈B.list,(x.a∈gI x∨x.a=gK)/\(x.b∈gI x∨x.b=gK)/\∀v∈x.args,v∈gI x):qg (eZ n) B=B:=by
 have hv:∀v:cm,(v.bD=true->v.n∈eZ n)->cw (eZ n) v=v:=λv hv=>by
  unfold cw
  by_cases h1:v.bD=true
  ·rw[if_pos h1,tJ (hv h1)]
   obtain⟨a,b⟩:=v;simp only at h1;subst h1
   rfl
  ·rw[if_neg h1]
 have hx:∀x∈B.list,∀v,v∈gI x∨v=gK->cw (eZ n) v=v:=λx hx v uk=>hv v λhr=>by
  rcases uk with uk|rfl
  ·exact h _ (.inl (rF hx (xh uk hr)))
  ·cases hr
 obtain⟨ps,l,k,on,to⟩:=B;unfold qg;simp only[ar.mk.injEq,true_and,and_true];refine⟨?_,?_,hv on λhr=>h _ (.inl (zY (B:=⟨ps,l,k,on,to⟩) hr))⟩
 ·conv=>rhs;rw[<-nM ps]
  refine fw λp hp=>?_;unfold Ra;rw[tJ (h _ (.inl (BJ (B:=⟨ps,l,k,on,to⟩) hp)))];have:p.src.map (cw (eZ n))=p.src:=by
   conv=>rhs;rw[<-nM p.src]
   exact fw λv uk=>hv v λhr=>h _ (.inr (xi (B:=⟨ps,l,k,on,to⟩) hp uk hr))
  rw[this]
  rfl
 ·conv=>rhs;rw[<-nM l]
  refine fw λx oZ=>?_;obtain⟨h1,h2,h3⟩:=hu x oZ;unfold jm;rw[hx x oZ _ h1,hx x oZ _ h2];have h4:x.args.map (cw (eZ n))=x.args:=by
   conv=>rhs;rw[<-nM x.args]
   exact fw λv uk=>hx x oZ v (.inl (h3 v uk))
  have h5:mR (eZ n) x.dst=x.dst:=by
   unfold mR
   by_cases h0:0<=x.dst
   ·rw[if_pos h0,tJ (h _ (.inl (rF (B:=⟨ps,l,k,on,to⟩) oZ (tP h0))))]
   ·rw[if_neg h0]
  rw[h4,h5]
  rfl
structure DL(R:Nat)(l:List Int):Prop where
 nodup:l.Nodup
 bD:∀r∈l,0<=r/\r<R
theorem DL.len{R:Nat}{l:List Int}(h:DL R l):l.length<=R:=by
 have h1:(l.map Int.toNat).Nodup:=lW h.nodup λx hx y hy e=>by
  have:=h.bD x hx;have:=h.bD y hy;omega
 have h2:∀x∈l.map Int.toNat,x∈List.range R:=λx hx=>by
  obtain⟨y,hy,rfl⟩:=aX.1 hx;have:=h.bD y hy;exact cQ.2 ag
 have:=h1.length_le_of_subset h2;simpa using this
theorem DL.meets{R:Nat}{l s:List Int}(h:DL R l)(hs:∀r∈s,0<=r/\r<R):DL R (meets l s):=
 ⟨zd h.nodup,λr hr=>(rr.1 hr).elim (h.bD r) (hs r)⟩
theorem DL.par{R P:Nat}(h:P<=R):DL R (eZ P):=⟨sw P,λr hr=>by have:=mD.1 hr;omega⟩
theorem MN(r:Nat):iN (eZ r) (r:Int)=eZ (r+1):=by
 unfold iN;rw[if_neg (λh=>by have:=mD.1 h;omega)];unfold eZ;rw[kA,bB]
 rfl
theorem MD(l:List Int)(r:Int):meets l [r]=iN l r:=rfl
theorem RE{fs:List aZ}{R:Int}{R':Nat}{x:en}(h:dK fs R x=0)(ho:uV R' x):eV x.a++(eV x.b++x.args.flatMap eV)=(gI x).flatMap eV:=by
 unfold dK at h
 split at h
 ·cases h
 rename_i C9
 split at h
 ·cases h
 rename_i hs;simp only[Bool.not_eq_true]at hs;have C9:1<=x.op/\x.op<=22:=by simp[within]at C9;omega
 have qu:∀v:cm,iC v=true->eV v=[]:=λv hv=>by
  obtain⟨vr,vn⟩:=v;simp only[iC,Bool.and_eq_true,beq_iff_eq,decide_eq_true_eq]at hv;obtain⟨rfl,rfl⟩:=hv
  rfl
 unfold pU at hs;simp only[Bool.or_eq_false_iff,Bool.and_eq_false_iff,Bool.not_eq_false',decide_eq_false_iff_not]at hs;obtain⟨⟨⟨_,h2⟩,h3⟩,h4⟩:=hs;rw[rM ho];unfold mH;simp only[gO];have ha:eV x.a=(if (shape x.op).2.1=true then[x.a]else[]).flatMap eV:=by
  rcases h2 with h2|h2
  ·rw[if_pos h2];simp
  ·rw[qu _ h2]
   split
   ·simp[qu _ h2]
   ·rfl
 have hb:eV x.b=(if (shape x.op).2.2=true then[x.b]else[]).flatMap eV:=by
  rcases h3 with h3|h3
  ·rw[if_pos h3];simp
  ·rw[qu _ h3]
   split
   ·simp[qu _ h3]
   ·rfl
 rw[<-ha,<-hb]
theorem KV{fs:List aZ}{R:Int}{R':Nat}{x:en}(h:dK fs R x=0)(ho:uV R' x):uS x=eV x.a++(eV x.b++(x.args.flatMap eV++if 0<=x.dst then[x.dst]else[])):=by
 unfold uS;rw[<-RE h ho];simp
theorem DL.pre{R:Nat}{l m:List Int}(h:DL R m)(hp:l<+:m):DL R l:=⟨h.nodup.sublist hp.sublist,λr hr=>h.bD r (hp.subset hr)⟩
theorem BE{l m:List Int}(h:l<+:m){v:cm}(hv:∀r∈eV v,r∈l):cw l v=cw m v:=by
 unfold cw
 split
 ·rename_i hr
  rw[uy h (hv v.n (by unfold eV;rw[if_pos hr];simp))]
 ·rfl
theorem Jr(L:List Int)(r:Int):0<=fL L r/\fL L r<=L.length:=by
 have:=List.idxOf_le_length (a:=r) (l:=L);unfold fL;omega
theorem xf{L:List Int}{v:cm}(h:c9 v.n)(hl:L.length<=1000000):c9 (cw L v).n:=by
 unfold cw
 split
 ·have:=Jr L v.n
  exact⟨by simp only;omega,by simp only;omega⟩
 ·exact h
theorem Um{L:List Int}{r:Int}(h:c9 r)(hl:L.length<=1000000):c9 (mR L r):=by
 unfold mR
 split
 ·have:=Jr L r
  exact⟨ag,ag⟩
 ·exact h
theorem Nl{α:Type}{l:List α}{j:Nat}(h:j+2<=l.length)(a b:α):l.take j++[a,b]++l.drop (j+2)=(l.set j a).set (j+1) b:=by
 apply cf;intro k;rw[dE]
 by_cases h1:k<j
 ·rw[dG (by rw[cU];omega),rQ,if_pos h1,eR ag,eR ag]
 ·rw[dg (by rw[cU];omega),cU,iA ag]
  by_cases h2:k=j
  ·subst h2
   rw[dq,eR ag,ey ag]
   rfl
  ·by_cases h3:k=j+1
   ·subst h3
    rw[show j+1-j=1 by omega,ey (by rw[eA];omega)]
    rfl
   ·rw[dg (by simp;omega),g_,eR ag,eR ag]
    congr 1;simp;omega
end
end Go.Proofs.YthfhgolkafpmnaaGreatDoor
