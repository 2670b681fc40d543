/- Texts joined: TidyE Keep. -/
import Derived.Test.YthfhgolkafpmnaaGreatDoorIA
import Derived.Test.YthfhgolkafpmnaaGreatDoorIC
namespace Go.Proofs.YthfhgolkafpmnaaGreatDoor
open Go.Value renaming int->U,slice->J,string->G,bool->D,agg->au
open Go.IntKind renaming i64->O
open Option renaming some->Z,none->A
open Go renaming Value->V,World->C
open Go.Proofs.Tryz
open Go.Proofs.Tryz renaming prog->ae
open Go Go.RowKit
def xT(R:Nat)(l:List Int):List Int:=(List.range R).map λr:Nat=>if (r:Int)∈l then fE l r else -1
theorem vJ(R:Nat)(l:List Int):(xT R l).length=R:=by simp[xT]
theorem zi{R:Nat}{l:List Int}{r:Nat}(h:r<R):(xT R l)[r]?=Z (if (r:Int)∈l then fE l r else -1):=by
 unfold xT;rw[aJ,eX h]
 rfl
theorem Yd{l:List Int}{r:Int}(h:r∉l):fE (iZ l r) r=l.length:=by
 unfold fE iZ;rw[if_neg h,List.idxOf_append,if_neg h];simp
theorem P7{R:Nat}{l:List Int}{r:Nat}(h:(r:Int)∉l):(xT R l).set r (l.length:Int)=xT R (iZ l r):=by
 apply ci;intro x;rw[ez]
 by_cases hx:x<R
 ·by_cases e:r=x
  ·subst e
   rw[if_pos rfl,if_pos (by rw[vJ];exact hx),zi hx,if_pos (rz.2 (.inr rfl)),Yd h]
  ·rw[if_neg e,zi hx,zi hx]
   by_cases hm:(x:Int)∈l
   ·rw[if_pos hm,if_pos (rz.2 (.inl hm)),uA (JB l r) hm]
   ·rw[if_neg hm,if_neg]
    intro h2;rcases rz.1 h2 with h2|h2
    ·exact hm h2
    ·exact e I
 ·rw[bO (l:=xT R (iZ l r)) (by rw[vJ];omega)]
  by_cases e:r=x
  ·subst e
   rw[if_pos rfl,if_neg (by rw[vJ];exact hx)]
  ·rw[if_neg e,bO (by rw[vJ];omega)]
theorem Uc(R:Nat):xT R []=List.replicate R (-1):=by
 unfold xT;simp only[h_,if_false];rw[List.map_const',fA]
theorem G3{bl:List E}{o:List Nat}(hk:KB bl o):o.length<=bl.length:=by
 have:=hk.nodup.length_le_of_subset (l₂:=List.range bl.length) λx hx=>cM.2 (hk.lt x hx);simpa using this
def Gg(n:Nat)(o:List Nat):List Int:=(List.range n).map λb:Nat=>if b∈o then((o.idxOf b:Nat):Int)else -1
theorem vV{n:Nat}{o:List Nat}{b:Nat}(h:b<n):(Gg n o)[b]?=Z (if b∈o then((o.idxOf b:Nat):Int)else -1):=by
 unfold Gg;rw[aJ,eX h]
 rfl
theorem rU(n:Nat)(o:List Nat):(Gg n o).length=n:=by simp[Gg]
theorem Wi(n:Nat):Gg n []=List.replicate n (-1):=by
 unfold Gg;simp only[h_,if_false];rw[List.map_const',fA]
theorem Rt{n:Nat}{o:List Nat}{b:Nat}(h:b∉o):(Gg n o).set b (o.length:Int)=Gg n (o++[b]):=by
 apply ci;intro x;rw[ez]
 by_cases hx:x<n
 ·by_cases e:b=x
  ·subst e
   rw[if_pos rfl,if_pos (by rw[rU];exact hx),vV hx,if_pos aC,List.idxOf_append,if_neg h];simp
  ·rw[if_neg e,vV hx,vV hx]
   by_cases hm:x∈o
   ·rw[if_pos hm,if_pos (ct _ hm),List.idxOf_append,if_pos hm]
   ·rw[if_neg hm,if_neg]
    intro h2;rcases bA.1 h2 with h2|h2
    ·exact hm h2
    ·exact e (bR.1 h2).symm
 ·rw[bO (l:=Gg n (o++[b])) (by rw[rU];omega)]
  by_cases e:b=x
  ·subst e
   rw[if_pos rfl,if_neg (by rw[rU];exact hx)]
  ·rw[if_neg e,bO (by rw[rU];omega)]
def Iy(bl:List E)(o:List Nat)(b:Nat)(p:ep):List (Nat×cg):=((aZ bl b).filter λq=>decide (q∈o)).map λq=>(o.idxOf q,jq bl b p q)
def CN(bl:List E)(o:List Nat)(b:Nat)(p:ep):List (Nat×cg):=(o.filter λq=>decide (q∈aZ bl b)).map λq=>(o.idxOf q,jq bl b p q)
theorem O5(bl:List E)(o:List Nat)(b:Nat)(p:ep):(CN bl o b p).map (·.2)=(fj bl o b p).src:=by
 unfold CN fj;rw[dE]
 rfl
theorem Tp{o:List Nat}(hn:o.Nodup):(o.map λq=>o.idxOf q).Pairwise (·<·):=by
 rw[List.pairwise_iff_getElem];intro i j hi hj Q5;rw[aF]at hi hj;rw[List.getElem_map,List.getElem_map];have h1:=uh hn hi;have h2:=uh hn hj;unfold nth at h1 h2;rw[a_ hi]at h1;rw[a_ hj]at h2;simp only[dW]at h1 h2;omega
theorem K1{bl:List E}{o:List Nat}(hn:o.Nodup)(b:Nat)(p:ep):(CN bl o b p).Pairwise λx y=>x.1<y.1:=by
 unfold CN;rw[q6];have h:=Tp hn;rw[q6]at h;exact h.sublist nV
theorem K0{bl:List E}{o:List Nat}(hn:o.Nodup)(b:Nat)(p:ep):(CN bl o b p).Perm (Iy bl o b p):=by
 unfold CN Iy;refine List.Perm.map _ ((sO (hn.sublist nV) ((jV bl b).sublist nV)).2 λx=>?_);rw[cC,cC,decide_eq_true_eq,decide_eq_true_eq];exact⟨λh=>⟨h.2,h.1⟩,λh=>⟨h.2,h.1⟩⟩
theorem D1{α:Type}{f:α->Nat}:∀{l m:List α},l.Perm m->l.Pairwise (λx y=>f x<f y)->m.Pairwise (λx y=>f x<f y∨f x=f y)->m=l
 |[],m,h,_,_=>h.symm.eq_nil
 |x::l,[],h,_,_=>by have:=h.length_eq;simp at this
 |x::l,y::m,h,h1,h2=>by
  rw[ew]at h1 h2;have e:y=x:=by
   have hx:x∈y::m:=h.subset aC;have hy:y∈x::l:=h.symm.subset aC;rcases bD.1 hx with e|hx
   ·exact e.symm
   rcases bD.1 hy with e|hy
   ·exact e
   have:=h1.1 y hy;have:=h2.1 x hx;omega
  subst e;rw[D1 (h.cons_inv) h1.2 h2.2]
section
set_option maxHeartbeats 8000000
attribute [local irreducible] wpListIn Code.wpIn Exit.then Exit.inBlock bodyPost wpQuiet wpAnyIn wpAnyH bodyPostM j5
theorem Wd.TG{S:Nat->Prop}{w0 w:C}{H1 H2:List bN}(h:Wd S w0 (H1++H2) w):∀p v,(cd S w0).cell? p=Z v->(cd (cH H1) w).cell? p=Z v:=λp v hc=>by
 have bS:=World.block_lt_of_cell? _ p hc;rw[k6]at bS;have Xd:=(nz hc).1;have hn:¬cH H1 p.block:=λ⟨e,he,hb⟩=>by
  have:=(h.own e (ct _ he) _ hb).1;exact this.elim Xd λh=>I
 rw[<-hc];refine World.cell?_of_block ?_;rw[jT w hn,jT w0 Xd];exact h.ch.block _ bS Xd
theorem abN{S:Nat->Prop}{w:C}:∀p v,(cd S w).cell? p=Z v->w.cell? p=Z v:=λp v hc=>by
 rw[<-hc];exact World.cell?_of_block (jT w (nz hc).1).symm
theorem Wd.Tw{S:Nat->Prop}{w0 w:C}{H:List bN}(h:Wd S w0 H w){k n c:Nat}{a:Option Addr}{l:List Int}(hk:H[k]?=Z (M a n c 3 1 (l.map (U O))))(hn:n=l.length)(hb:n<=1000)(oA:∀x∈l,dk x):aG w (J a n c) 1 l fI:=
 h.oH hk hn I λi x hx=>⟨[U O x],λj v hj=>by
  match j,hj with
  |0,hj=>simpa[hx]using hj,rfl,oA x (aq hx)⟩
structure KSt(bl:List E)(bs:List aX)(o:List Nat)(i:Nat)(rs out:List aX):Prop where
 Yn:rs.length=bs.length
 JL:out.length=i
 old:∀b,b∉o.take i->rs[b]?=bs[b]?
 new:∀j b,j<i->o[j]?=Z b->∃r,rs[b]?=Z r/\out[j]?=Z r/\r.eR=je bl o b (aN bl b)/\r.Bd
theorem KSt.step{bl:List E}{bs:List aX}{o:List Nat}{i b:Nat}{rs out:List aX}(h:KSt bl bs o i rs out)(hn:o.Nodup)(hb:o[i]?=Z b)(gF:b<bs.length){r:aX}(h1:r.eR=je bl o b (aN bl b))(h2:r.Bd):KSt bl bs o (i+1) (rs.set b r) (out++[r]):=by
 have iJ:=(az.1 hb).1;refine⟨by rw[eL];exact h.Yn,by rw[bX,h.JL];rfl,λd hd=>?_,λj d hj hd=>?_⟩
 ·rw[cz,hb]at hd
  simp only[mz,bA,bR,not_or]at hd;rw[fz (λe=>hd.2 e.symm)];exact h.old d hd.1
 ·by_cases e:j=i
  ·subst e
   rw[hb]at hd;obtain rfl:=a7 hd;exact⟨r,eK (by rw[h.Yn];exact gF),by rw[dC (by rw[h.JL];exact bG _),h.JL,dN];rfl,h1,h2⟩
  ·obtain⟨q,q1,q2,q3,q4⟩:=h.new j d I hd
   have eQ:b≠d:=λe2=>e (uu hn (az.1 hd).1 iJ (by rw[lr hd,lr hb,e2]));exact⟨q,by rw[fz eQ];exact q1,by rw[dY (by rw[h.JL];omega)];exact q2,q3,q4⟩
theorem KSt.done{bl:List E}{bs:List aX}{o:List Nat}{rs out:List aX}(h:KSt bl bs o o.length rs out)(hn:o.Nodup)(bS:∀b∈o,b<bs.length):out.map aX.eR=cV bl o/\(∀r∈out,r.Bd)/\∃rest,rs.Perm (out++rest):=by
 refine⟨?_,λr hr=>?_,?_⟩
 ·apply ci
  intro j
  by_cases hj:j<o.length
  ·obtain⟨q,q1,q2,q3,q4⟩:=h.new j (nth o j) hj (gm hj)
   rw[aJ,q2,kr (gm hj),<-q3]
   rfl
  ·rw[bO (by rw[aF,h.JL];omega),bO (by rw[d_];omega)]
 ·obtain⟨j,hj⟩:=bg hr
  have jw:j<o.length:=by rw[<-h.JL];exact(az.1 hj).1
  obtain⟨q,q1,q2,q3,q4⟩:=h.new j (nth o j) jw (gm jw);rw[hj]at q2;rw[a7 q2];exact q4
 ·obtain⟨f,hf⟩:∃f:Nat->aX,f=λb=>rs[b]?.getD ⟨A,0,[],A,0,[],0,iu,A,0,[]⟩:=⟨_,rfl⟩
  refine⟨((List.range rs.length).filter λb=>decide (b∉o)).map f,?_⟩;have h1:rs=(List.range rs.length).map f:=by
   apply ci;intro j;rw[aJ]
   by_cases hj:j<rs.length
   ·rw[eX hj,a_ hj,hf]
    simp[a_ hj]
   ·rw[bO I,bO dp];rfl
  have h2:out=o.map f:=by
   apply ci;intro j;rw[aJ]
   by_cases hj:j<o.length
   ·obtain⟨q,q1,q2,q3,q4⟩:=h.new j (nth o j) hj (gm hj)
    rw[q2,gm hj,bu,hf];simp only[q1,dW]
   ·rw[bO (by rw[h.JL];omega),bO I];rfl
  conv=>lhs;rw[h1]
  rw[h2,<-bz];refine List.Perm.map f ?_;refine(sO qE (pI.2 ⟨hn,List.nodup_range.sublist nV,λa ha b hb e=>?_⟩)).2 λx=>?_
  ·have:=(cC.1 hb).2
   simp only[decide_eq_true_eq]at this;exact this (e▸ha)
  ·rw[bA,cC,cM,decide_eq_true_eq]
   constructor
   ·intro hx
    by_cases e:x∈o
    ·exact .inl e
    ·exact .inr ⟨hx,e⟩
   ·rintro(hx|hx)
    ·rw[h.Yn];exact bS x hx
    ·exact hx.1
theorem TA(nm:ByteArray)(pa re:Int)(a:Option Addr)(c:Nat)(bs:List aX)(o:List Nat)(oa:Option Addr)(oc R:Nat)(hlen:bs.length<=100)(c_:0<bs.length)(r5:∀b∈bs,b.Bd)(hf:fu R (bs.map aX.eR))(hk:KB (bs.map aX.eR) o)(w0:C)
  (hW:Wd (cH (fS a c bs)) w0 (fS a c bs) w0) (SQ:aG (cd (cH (fS a c bs)) w0) (J oa o.length oc) 1 (o.map λx:Nat=>(x:Int)) fI):
  iC ae 106 [au #[G nm,U O pa,U O re,J a bs.length c],J oa o.length oc] w0 λu w'=>∃x:Option Addr×Nat×List aX,u=au #[G nm,U O pa,U O re,J x.1 x.2.2.length x.2.1]/\Wd (cH (fS a c bs)) w0 (fS x.1 x.2.1 x.2.2) w'/\
   (x.2.2.map aX.eR=cV (bs.map aX.eR) o/\∀b∈x.2.2,b.Bd):=by
 classical
 have hg:=hf.iM;obtain⟨bl,gF⟩:∃bl,bl=bs.map aX.eR:=⟨_,rfl⟩;have Ah:bl.length=bs.length:=by rw[gF,aF]
 have Ep:o.length<=bs.length:=by rw[<-Ah,gF];exact G3 hk
 refine aM func106 rfl ntmps106 rfl hW ?_;obtain⟨SS,Fj⟩:∃SS,SS=cH (fS a c bs):=⟨_,rfl⟩;rw[<-Fj]at SQ⊢;have ad5:o≠[]->∃b oo:Nat,bU oa b oo/\eS SS b/\∀i x:Nat,o[i]?=Z x->a6 w0 b (oo+i*1) [U O (x:Int)]:=λeQ=>by
  obtain⟨b,oo,h1,h2,h3⟩:=eE SQ (λhc=>iF hc aC) (λ_ _ h=>⟨_,_,h.1⟩) (ax eQ);refine⟨b,oo,h1,h2,λi x hx=>?_⟩;obtain⟨cs,h4,rfl,_⟩:=h3 i (x:Int) (by rw[aJ,hx];rfl);exact⟨λj v hj=>abN _ _ (h4.eq j v hj)⟩
 obtain⟨n,hn⟩:∃n,n=bs.length:=⟨_,rfl⟩;obtain⟨m,hm⟩:∃m,m=o.length:=⟨_,rfl⟩;rw[<-hn]at hlen c_ Ah Ep;rw[<-hm]at Ep;rw[<-hn,<-hm]
 repeat(first|refine aU ?_|refine dZ λ_ _=>?_)
 rename_i p2 _ p4 _ e1 _;refine cZ (val:=λa:Nat=>.slice (Z ⟨a,0,A⟩) n n) (akg:=λa=>[M (Z ⟨a,0,A⟩) n n 3 1 (List.replicate n (U O (-1)))]) (φ:=λ_=>True) rfl (λw hw=>DP e1 0 n (-1) w (hw.cL (k:=0) (o:=0) (j:=0) rfl rfl) c_ I) λta _=>?_;simp only[aW,aO];rw[show List.replicate n (U O (-1))=(Gg n (o.take 0)).map (U O) by rw[List.take_zero,Wi];simp];refine aH ?_;refine bL (λ(i:Nat)=>i<=m) (λi=>[(30,U O i),(28,J oa m oc),(29,U O m),aj 2 p2,aj 4 p4,(5,J (Z ⟨ta,0,A⟩) n n),(1,J oa m oc)]) (λi=>M (Z ⟨ta,0,A⟩) n n 3 1 ((Gg n (o.take i)).map (U O))::M (Z ⟨e1,0,A⟩) 1 1 3 1 [U O (-1)]::K p4 [G aA,U O 0,U O 0,J A 0 0] 35::K p2 [G nm,U O pa,U O re,J a n c] 35::fS a c bs) (λi=>m-i) 0 (aT _) (aS ap aK) λi hi=>?_;refine aU ?_;refine aI (λh1=>?_) (λh1=>?_)
 ·have iJ:i<m:=ax h1
  obtain⟨b,hb⟩:=bf o i I;obtain⟨qb,qo,Dg,EL,Er⟩:=ad5 (aL hb);have n_:=Er i b hb;have pR:b<n:=by rw[<-Ah,gF];exact hk.lt b (aq hb)
  have lY:bY i m:=⟨iJ⟩;have SH:bY b n:=⟨pR⟩;have wN:b∉o.take i:=λh=>by
   obtain⟨j,hj⟩:=bg h;rw[tL]at hj
   split at hj
   ·have jw:=(az.1 hj).1
    have:=uu hk.nodup jw I ((lr hj).trans (lr hb).symm);omega
   ·cases hj
  have nK:mV ((Gg n (o.take i)).map (U O)) (b*1) (U O (i:Int)) ((Gg n (o.take (i+1))).map (U O)):=⟨by
   have h2:=Rt (n:=n) wN;rw[dd,iq I]at h2;rw[f_,<-eM,h2,cz,hb]
   rfl,by rw[aF,rU];omega⟩
  refine aE ?_;exact bj (i+1) I I ap aK
 obtain rfl:m=i:=by have:=h1;simp at this;omega
 rw[hm,cQ,<-hm];refine aE ?_;have s7:∀w,Wd SS w0 (M (Z ⟨ta,0,A⟩) n n 3 1 ((Gg n o).map (U O))::M (Z ⟨e1,0,A⟩) 1 1 3 1 [U O (-1)]::K p4 [G aA,U O 0,U O 0,J A 0 0] 35::K p2 [G nm,U O pa,U O re,J a n c] 35::fS a c bs) w->aG w (J a n c) 6 bl ed:=λw hw=>by
  rw[hn,gF];refine Wd.blocks (H:=[]) (hw.sub (.cons _ (.cons _ (.cons _ (.cons _ ?_))))) I r5;rw[cD];exact ey _
 refine cZ (val:=λx:(Option Addr×Nat×Nat)×(Nat->Prop)=>.slice x.1.1 x.1.2.1 x.1.2.2) (akg:=λx=>[⟨x.2,λw=>aG w (J x.1.1 x.1.2.1 x.1.2.2) 1 (be bl) cN⟩]) (φ:=λ_=>True) rfl (λw hw=>fZ _ _ _ bl (J a n c) w (s7 w hw) I (by rw[gF];exact hg)) λx _=>?_;obtain⟨⟨aa,an,ac⟩,af⟩:=x;simp only[aW,aO];refine aH ?_;refine fU 46 6 ?_;refine oU (H':=(K p2 [G nm,U O pa,U O re,J a n c] 35::K p4 [G aA,U O 0,U O 0,J A 0 0] 35::M a n c 46 6 (bs.flatMap bm)::M A 0 0 46 6 []::bs.map ck)++[M (Z ⟨ta,0,A⟩) n n 3 1 ((Gg n o).map (U O)),(⟨af,λw=>aG w (J aa an ac) 1 (be bl) cN⟩:bN)]) (λw hw=>?_) ?_
 ·refine hw.pick ⟨[M (Z ⟨e1,0,A⟩) 1 1 3 1 [U O (-1)]],?_⟩
  unfold fS;rw[<-hn];refine aP.2 λe=>?_;simp only[bC,br,cq];omega
 refine nZ λw1 l9=>?_;have aaJ:aG (cd (cH (K p2 [G nm,U O pa,U O re,J a n c] 35::K p4 [G aA,U O 0,U O 0,J A 0 0] 35::M a n c 46 6 (bs.flatMap bm)::M A 0 0 46 6 []::bs.map ck)) w1) (J (Z ⟨ta,0,A⟩) n n) 1 (Gg n o) fI:=l9.kF.Tw (k:=0) rfl (rU n o).symm I λx hx=>by
  obtain⟨b,hb⟩:=bg hx;have afM:b<n:=by rw[<-rU n o];exact(az.1 hb).1
  rw[vV afM]at hb;obtain rfl:=a7 hb
  split
  ·rename_i h2
   have:=vz h2;exact⟨I,I⟩
  ·exact⟨I,I⟩
 have BC:aG (cd (cH (K p2 [G nm,U O pa,U O re,J a n c] 35::K p4 [G aA,U O 0,U O 0,J A 0 0] 35::M a n c 46 6 (bs.flatMap bm)::M A 0 0 46 6 []::bs.map ck)) w1) (J aa an ac) 1 (be bl) cN:=l9.beside (e:=(⟨af,λw=>aG w (J aa an ac) 1 (be bl) cN⟩:bN)) aC;have SR:aG (cd (cH (K p2 [G nm,U O pa,U O re,J a n c] 35::K p4 [G aA,U O 0,U O 0,J A 0 0] 35::M a n c 46 6 (bs.flatMap bm)::M A 0 0 46 6 []::bs.map ck)) w1) (J oa m oc) 1 (o.map λx:Nat=>(x:Int)) fI:=by
  rw[hm];exact SQ.le lM l9.TG
 have back:∀{akg:List bN} {w:C},Wd (cH (K p2 [G nm,U O pa,U O re,J a n c] 35::K p4 [G aA,U O 0,U O 0,J A 0 0] 35::M a n c 46 6 (bs.flatMap bm)::M A 0 0 46 6 []::bs.map ck)) (cd (cH (K p2 [G nm,U O pa,U O re,J a n c] 35::K p4 [G aA,U O 0,U O 0,J A 0 0] 35::M a n c 46 6 (bs.flatMap bm)::M A 0 0 46 6 []::bs.map ck)) w1) akg w->Wd SS w0 (akg++[M (Z ⟨ta,0,A⟩) n n 3 1 ((Gg n o).map (U O)),(⟨af,λw=>aG w (J aa an ac) 1 (be bl) cN⟩:bN)]) w:=λhw=>l9.comp hw.nk;have Lq:∀{akg:List bN} {w:C},Wd (cH (K p2 [G nm,U O pa,U O re,J a n c] 35::K p4 [G aA,U O 0,U O 0,J A 0 0] 35::M a n c 46 6 (bs.flatMap bm)::M A 0 0 46 6 []::bs.map ck)) (cd (cH (K p2 [G nm,U O pa,U O re,J a n c] 35::K p4 [G aA,U O 0,U O 0,J A 0 0] 35::M a n c 46 6 (bs.flatMap bm)::M A 0 0 46 6 []::bs.map ck)) w1) akg w->∀p v,(cd (cH (K p2 [G nm,U O pa,U O re,J a n c] 35::K p4 [G aA,U O 0,U O 0,J A 0 0] 35::M a n c 46 6 (bs.flatMap bm)::M A 0 0 46 6 []::bs.map ck)) w1).cell? p=Z v->w.cell? p=Z v:=λhw=>hw.pW;have hold:∀{b o:Nat} {v:V} {l:List V},bF (cd (cH (K p2 [G nm,U O pa,U O re,J a n c] 35::K p4 [G aA,U O 0,U O 0,J A 0 0] 35::M a n c 46 6 (bs.flatMap bm)::M A 0 0 46 6 []::bs.map ck)) w1) b o (v::l)->eS (cH (K p2 [G nm,U O pa,U O re,J a n c] 35::K p4 [G aA,U O 0,U O 0,J A 0 0] 35::M a n c 46 6 (bs.flatMap bm)::M A 0 0 46 6 []::bs.map ck)) b:=λhc=>iF hc aC;generalize cd (cH (K p2 [G nm,U O pa,U O re,J a n c] 35::K p4 [G aA,U O 0,U O 0,J A 0 0] 35::M a n c 46 6 (bs.flatMap bm)::M A 0 0 46 6 []::bs.map ck)) w1=wk at*;generalize cH (K p2 [G nm,U O pa,U O re,J a n c] 35::K p4 [G aA,U O 0,U O 0,J A 0 0] 35::M a n c 46 6 (bs.flatMap bm)::M A 0 0 46 6 []::bs.map ck)=S2 at*;have zM:(be bl).length=n:=by unfold be;rw[gv,Ah]
 obtain⟨HE,_⟩:=BC.at;rw[zM]at HE;subst an;have aaQ:be bl≠[]:=λe=>by rw[e]at zM;simp at zM;omega
 have afF:Gg n o≠[]:=λe=>by have:=rU n o;rw[e]at this;simp at this;omega
 obtain⟨b8,o8,ac3,ZG,Sv⟩:=eE BC hold (λ_ _ h=>by obtain⟨_,e,_⟩:=h;exact⟨_,_,e⟩) aaQ;obtain⟨b5,o5,aii,ah3,adu⟩:=eE aaJ hold (λ_ _ h=>⟨_,_,h.1⟩) afF;refine fL 2 rfl c_ λvb vo oC=>?_;subst oC;refine bL (λ(x:Nat×List aX×List aX×Option Addr×Nat)=>x.1<=m/\KSt bl bs o x.1 x.2.1 x.2.2.1) (λx=>[(44,U O x.1),(9,J x.2.2.2.1 x.2.2.1.length x.2.2.2.2),(5,J (Z ⟨ta,0,A⟩) n n),(8,J aa n ac),aj 2 p2,aj 4 p4,(42,J oa m oc),(43,U O m)]) (λx=>K p2 [G nm,U O pa,U O re,J (Z ⟨vb,vo,A⟩) n c] 35::K p4 [G aA,U O 0,U O 0,J A 0 0] 35::M (Z ⟨vb,vo,A⟩) n c 46 6 (bs.flatMap bm)::M x.2.2.2.1 x.2.2.1.length x.2.2.2.2 46 6 (x.2.2.1.flatMap bm)::x.2.1.map ck) (λx=>m-x.1) (0,bs,[],A,0) ⟨aT _,⟨rfl,rfl,λ_ _=>rfl,λj b hj=>I⟩⟩ (aS ap aK) λx ⟨hi,lK⟩=>?_;obtain⟨i,rs,out,na,nc⟩:=x;simp only at hi lK⊢;refine aU ?_;refine aI (λh1=>?_) (λh1=>?_)
 ·have iJ:i<m:=ax h1
  obtain⟨b,hb⟩:=bf o i I;obtain⟨qb,qo,Dg,EL,Er⟩:=eE SR hold (λ_ _ h=>⟨_,_,h.1⟩) (λe=>by have:=aL hb;simp at e;exact this e);obtain⟨_,n_,rfl,_⟩:=Er i (b:Int) (by rw[aJ,hb];rfl);have pR:b<n:=by rw[<-Ah,gF];exact hk.lt b (aq hb)
  have lY:bY i m:=⟨iJ⟩;have SH:bY b n:=⟨pR⟩;have wN:b∉o.take i:=λh=>by
   obtain⟨j,hj⟩:=bg h;rw[tL]at hj
   split at hj
   ·have jw:=(az.1 hj).1
    have:=uu hk.nodup jw I ((lr hj).trans (lr hb).symm);omega
   ·cases hj
  obtain⟨BB,hBB⟩:∃B,bs[b]?=Z B:=⟨_,a_ I⟩;obtain⟨qa,qc,ps,la,lc,xs,kd,on,xa,xc,to⟩:=BB;have hB:bs[b]?=Z (⟨qa,qc,ps,la,lc,xs,kd,on,xa,xc,to⟩:aX):=hBB;have hrB:rs[b]?=Z (⟨qa,qc,ps,la,lc,xs,kd,on,xa,xc,to⟩:aX):=by rw[lK.old b wN];exact hB
  have El:=r5 _ (aq hB);have Xf:ps.length<=1000:=El.aD;have ahp:to.length<=1000:=El.to.1;have aaN:bl[b]?=Z ((⟨qa,qc,ps,la,lc,xs,kd,on,xa,xc,to⟩:aX)).eR:=by rw[gF,aJ,hB];rfl
  have EH:=hf.block b _ (by rw[<-gF];exact aaN);have gr:(be bl)[b]?=Z ((aZ bl b).map λx:Nat=>(x:Int)):=by
   rw[gF];exact gu hg (λb B hB=>(hf.block b B hB).to) (by rw[<-gF,Ah];exact pR)
  have zN:gQ (K p2 [G nm,U O pa,U O re,J (Z ⟨vb,vo,A⟩) n c] 35::K p4 [G aA,U O 0,U O 0,J A 0 0] 35::M (Z ⟨vb,vo,A⟩) n c 46 6 (bs.flatMap bm)::M na out.length nc 46 6 (out.flatMap bm)::rs.map ck) vb (vo+b*6) _:=jz (k:=2) rfl dX hB;simp only[bm]at zN
  repeat(first|refine aE ?_|refine dZ λ_ _=>?_)
  rename_i nL _;have SY:=jl ck hrB;refine bi (H1:=ck (⟨qa,qc,ps,la,lc,xs,kd,on,xa,xc,to⟩:aX)::(K nL [J qa ps.length qc,J la xs.length lc,U O kd,D on.z,U O on.n,J xa to.length xc] 46::K p2 [G nm,U O pa,U O re,J (Z ⟨vb,vo,A⟩) n c] 35::K p4 [G aA,U O 0,U O 0,J A 0 0] 35::M (Z ⟨vb,vo,A⟩) n c 46 6 (bs.flatMap bm)::M na out.length nc 46 6 (out.flatMap bm)::(rs.eraseIdx b).map ck)) (aP.2 λe=>?_) ?_
  ·have:=aP.1 SY e
   simp only[br]at this⊢;omega
  refine CS ?_;refine bi (H1:=M qa ps.length qc 49 2 (ps.flatMap cF)::K nL [J qa ps.length qc,J la xs.length lc,U O kd,D on.z,U O on.n,J xa to.length xc] 46::K p2 [G nm,U O pa,U O re,J (Z ⟨vb,vo,A⟩) n c] 35::K p4 [G aA,U O 0,U O 0,J A 0 0] 35::M (Z ⟨vb,vo,A⟩) n c 46 6 (bs.flatMap bm)::M na out.length nc 46 6 (out.flatMap bm)::(ps.map fP++(wR (⟨qa,qc,ps,la,lc,xs,kd,on,xa,xc,to⟩:aX)++(rs.eraseIdx b).map ck))) (aP.2 λe=>?_) ?_
  ·have:=aP.1 (H9 (⟨qa,qc,ps,la,lc,xs,kd,on,xa,xc,to⟩:aX)) e
   unfold phV at this;simp only[br,bC]at this⊢;omega
  refine bL (λ(es:List cW)=>es.length<=ps.length/\es.map cW.kN=(ps.take es.length).map (λq=>fj bl o b q.kN)/\∀q∈es,dk q.dst/\q.l.length<=1000/\∀v∈q.l,dk v.n) (λes=>[(56,U O es.length),(54,J qa ps.length qc),(55,U O ps.length),aj 12 nL,(11,U O b),(44,U O i),(9,J na out.length nc),(5,J (Z ⟨ta,0,A⟩) n n),(8,J aa n ac),aj 2 p2,aj 4 p4,(42,J oa m oc),(43,U O m)])
   (λes=>M qa ps.length qc 49 2 ((es++ps.drop es.length).flatMap cF)::K nL [J qa ps.length qc,J la xs.length lc,U O kd,D on.z,U O on.n,J xa to.length xc] 46::K p2 [G nm,U O pa,U O re,J (Z ⟨vb,vo,A⟩) n c] 35::K p4 [G aA,U O 0,U O 0,J A 0 0] 35::M (Z ⟨vb,vo,A⟩) n c 46 6 (bs.flatMap bm)::M na out.length nc 46 6 (out.flatMap bm)::((es++ps.drop es.length).map fP++(wR (⟨qa,qc,ps,la,lc,xs,kd,on,xa,xc,to⟩:aX)++(rs.eraseIdx b).map ck))) (λes=>ps.length-es.length) [] ⟨aT _,rfl,by simp⟩ (aS ap aK) λes ⟨W8,HH,Ll⟩=>?_
  refine aU ?_;refine aI (λh2=>?_) (λh2=>?_)
  ·have bS:es.length<ps.length:=ax h2
   generalize B0:es.length=ei at*;obtain⟨q,hq⟩:=bf ps ei bS;have HK:=aq hq;obtain⟨Xg,hqb,Nw⟩:=El.kN q HK;have De:=EH.aD q.kN (aV.2 ⟨q,HK,rfl⟩);obtain⟨pd,nM,fE,pl⟩:=q;simp only at Xg hqb Nw;have Fq:pl.length=(aZ bl b).length:=by rw[gF];exact De.len
   refine fL 0 rfl I λzb zo GX=>?_;subst GX;have Lr:bY ei ps.length:=⟨bS⟩;have jS:(es++ps.drop ei)[ei]?=Z (⟨pd,nM,fE,pl⟩:cW):=by
    rw[dC I,B0,dN,iV,ef];exact hq
   have Zm:ps.drop ei=(⟨pd,nM,fE,pl⟩:cW)::ps.drop (ei+1):=by rw[lR bS,(az.1 hq).2]
   refine bi (H1:=M nM pl.length fE 41 2 (pl.flatMap dB)::M (Z ⟨zb,zo,A⟩) ps.length qc 49 2 ((es++ps.drop ei).flatMap cF)::K nL [J (Z ⟨zb,zo,A⟩) ps.length qc,J la xs.length lc,U O kd,D on.z,U O on.n,J xa to.length xc] 46::K p2 [G nm,U O pa,U O re,J (Z ⟨vb,vo,A⟩) n c] 35::K p4 [G aA,U O 0,U O 0,J A 0 0] 35::M (Z ⟨vb,vo,A⟩) n c 46 6 (bs.flatMap bm)::M na out.length nc 46 6 (out.flatMap bm)::((es++ps.drop (ei+1)).map fP++(wR (⟨Z ⟨zb,zo,A⟩,qc,ps,la,lc,xs,kd,on,xa,xc,to⟩:aX)++(rs.eraseIdx b).map ck))) (aP.2 λe=>?_) ?_
   ·rw[Zm]
    have e2:fP (⟨pd,nM,fE,pl⟩:cW)=M nM pl.length fE 41 2 (pl.flatMap dB):=rfl;simp only[bz,bT,bC,br,e2];omega
   have Pw:gQ (M nM pl.length fE 41 2 (pl.flatMap dB)::M (Z ⟨zb,zo,A⟩) ps.length qc 49 2 ((es++ps.drop ei).flatMap cF)::K nL [J (Z ⟨zb,zo,A⟩) ps.length qc,J la xs.length lc,U O kd,D on.z,U O on.n,J xa to.length xc] 46::K p2 [G nm,U O pa,U O re,J (Z ⟨vb,vo,A⟩) n c] 35::K p4 [G aA,U O 0,U O 0,J A 0 0] 35::M (Z ⟨vb,vo,A⟩) n c 46 6 (bs.flatMap bm)::M na out.length nc 46 6 (out.flatMap bm)::((es++ps.drop (ei+1)).map fP++(wR (⟨Z ⟨zb,zo,A⟩,qc,ps,la,lc,xs,kd,on,xa,xc,to⟩:aX)++(rs.eraseIdx b).map ck))) zb (zo+ei*2) _:=jz (k:=1) rfl fV jS;simp only[cF]at Pw
   repeat(first|refine aE ?_|refine dZ λ_ _=>?_)
   rename_i lz _;refine fU 200 3 ?_;obtain⟨US,Nx⟩:∃US:Nat->List (Nat×cg),US=λj=>(((aZ bl b).take j).filter λq=>decide (q∈o)).map λq=>(o.idxOf q,jq bl b ⟨pd,pl⟩ q):=⟨_,rfl⟩;have Dj:US 0=[]:=by rw[Nx];simp
   refine bL (λ(x:Nat×List (Nat×cg)×Option Addr×Nat)=>x.1<=pl.length/\x.2.1=US x.1) (λx=>[(64,U O x.1),(62,J nM pl.length fE),(63,U O pl.length),(15,J x.2.2.1 x.2.1.length x.2.2.2),aj 14 lz,(13,U O ei),(56,U O ei),(54,J (Z ⟨zb,zo,A⟩) ps.length qc),(55,U O ps.length),aj 12 nL,(11,U O b),(44,U O i),(9,J na out.length nc),(5,J (Z ⟨ta,0,A⟩) n n),(8,J aa n ac),aj 2 p2,aj 4 p4,(42,J oa m oc),(43,U O m)])
    (λx=>M x.2.2.1 x.2.1.length x.2.2.2 200 3 (x.2.1.flatMap Be)::K lz [U O pd,J nM pl.length fE] 49::M nM pl.length fE 41 2 (pl.flatMap dB)::M (Z ⟨zb,zo,A⟩) ps.length qc 49 2 ((es++ps.drop ei).flatMap cF)::K nL [J (Z ⟨zb,zo,A⟩) ps.length qc,J la xs.length lc,U O kd,D on.z,U O on.n,J xa to.length xc] 46::K p2 [G nm,U O pa,U O re,J (Z ⟨vb,vo,A⟩) n c] 35::K p4 [G aA,U O 0,U O 0,J A 0 0] 35::M (Z ⟨vb,vo,A⟩) n c 46 6 (bs.flatMap bm)::M na out.length nc 46 6 (out.flatMap bm)::((es++ps.drop (ei+1)).map fP++(wR (⟨Z ⟨zb,zo,A⟩,qc,ps,la,lc,xs,kd,on,xa,xc,to⟩:aX)++(rs.eraseIdx b).map ck))) (λx=>pl.length-x.1) (0,[],A,0) ⟨aT _,Dj.symm⟩ (aS ap aK) λx ⟨hj,hl⟩=>?_
   obtain⟨j,l,ra,rc⟩:=x;simp only at hj hl⊢;have Np:l.length<=j:=by
    rw[hl,Nx,aF];refine du (jL _ _) ?_;rw[dd];omega
   refine aU ?_;refine aI (λh3=>?_) (λh3=>?_)
   ·have jw:j<pl.length:=ax h3
    obtain⟨v,hv⟩:=bf pl j jw;obtain⟨qj,Lw⟩:=bf (aZ bl b) j I;have aeh:qj<n:=by rw[<-Ah];exact JV bl b qj (aq Lw)
    have tY:jq bl b ⟨pd,pl⟩ qj=v:=by
     unfold jq;have h4:(aZ bl b).idxOf qj=j:=by
      have h5:=uh (jV bl b) (i:=j) I;rwa[lr Lw]at h5
     rw[h4,cB,hv]
     rfl
    have r7:US (j+1)=l++if qj∈o then[(o.idxOf qj,v)]else[]:=by
     rw[hl,Nx];simp only;rw[cz,Lw,nU,bz];congr 1
     by_cases h4:qj∈o
     ·simp[h4,tY]
     ·simp[h4]
    refine fL 2 rfl I λyb yo Fz=>?_;subst Fz;have SJ:bY j pl.length:=⟨jw⟩;have SU:gQ (M ra l.length rc 200 3 (l.flatMap Be)::K lz [U O pd,J (Z ⟨yb,yo,A⟩) pl.length fE] 49::M (Z ⟨yb,yo,A⟩) pl.length fE 41 2 (pl.flatMap dB)::M (Z ⟨zb,zo,A⟩) ps.length qc 49 2 ((es++ps.drop ei).flatMap cF)::K nL [J (Z ⟨zb,zo,A⟩) ps.length qc,J la xs.length lc,U O kd,D on.z,U O on.n,J xa to.length xc] 46::K p2 [G nm,U O pa,U O re,J (Z ⟨vb,vo,A⟩) n c] 35::K p4 [G aA,U O 0,U O 0,J A 0 0] 35::M (Z ⟨vb,vo,A⟩) n c 46 6 (bs.flatMap bm)::M na out.length nc 46 6 (out.flatMap bm)::((es++ps.drop (ei+1)).map fP++(wR (⟨Z ⟨zb,zo,A⟩,qc,ps,la,lc,xs,kd,on,xa,xc,to⟩:aX)++(rs.eraseIdx b).map ck))) yb (yo+j*2) _:=jz (k:=2) rfl eZ hv;simp only[dB]at SU;obtain⟨_,adk,rv,rfl,y7⟩:=Sv b _ gr;obtain⟨rva,rvn,rvc,_,_,rfl,Jd,_⟩:=id y7;have ajP:rvn=pl.length:=by rw[Jd,aF,Fq]
    have hlr:bY j rvn:=⟨I⟩;obtain⟨b7,o7,ac2,ZF,Su⟩:=eE y7 hold (λ_ _ h=>⟨_,_,h.1⟩) (λe=>by have:=aL Lw;simp at e;exact this e);obtain⟨_,adj,rfl,_⟩:=Su j (qj:Int) (by rw[aJ,Lw];rfl);have hlq:bY qj n:=⟨aeh⟩;obtain⟨_,aaT,rfl,_⟩:=adu qj _ (vV aeh)
    repeat(first|refine aE ?_|refine dZ λ_ _=>?_)
    by_cases EL:qj∈o
    ·rw[if_pos EL]
     rw[if_pos EL]at r7;rw[show decide ((0:Int)<=((o.idxOf qj:Nat):Int))=true by simp]
     repeat(first|refine aH ?_|refine dZ λ_ _=>?_)
     refine nX rfl rfl I I λV0 rc'=>?_;rw[show l.length+1=(l++[(o.idxOf qj,v)]).length by simp,show l.flatMap Be++[U O ((o.idxOf qj:Nat):Int),D v.z,U O v.n]=(l++[(o.idxOf qj,v)]).flatMap Be by rw[iD];rfl];refine aH ?_;exact bj (j+1,l++[(o.idxOf qj,v)],V0,rc') ⟨I,r7.symm⟩ bK ap aw
    ·rw[if_neg EL]
     rw[if_neg EL,cD]at r7;rw[show decide ((0:Int)<=(-1:Int))=false by decide];refine aH ?_;exact bj (j+1,l,ra,rc) ⟨I,r7.symm⟩ bK ap aw
   obtain rfl:j=pl.length:=by have:=of_decide_eq_false h3;omega
   have hlf:l=Iy bl o b ⟨pd,pl⟩:=by
    rw[hl,Nx];unfold Iy;simp only;rw[kh I]
   refine aE ?_;refine fC (H1:=[M ra l.length rc 200 3 (l.flatMap Be)]++(K lz [U O pd,J nM pl.length fE] 49::M nM pl.length fE 41 2 (pl.flatMap dB)::M (Z ⟨zb,zo,A⟩) ps.length qc 49 2 ((es++ps.drop ei).flatMap cF)::K nL [J (Z ⟨zb,zo,A⟩) ps.length qc,J la xs.length lc,U O kd,D on.z,U O on.n,J xa to.length xc] 46::K p2 [G nm,U O pa,U O re,J (Z ⟨vb,vo,A⟩) n c] 35::K p4 [G aA,U O 0,U O 0,J A 0 0] 35::M (Z ⟨vb,vo,A⟩) n c 46 6 (bs.flatMap bm)::M na out.length nc 46 6 (out.flatMap bm)::((es++ps.drop (ei+1)).map fP++(wR (⟨Z ⟨zb,zo,A⟩,qc,ps,la,lc,xs,kd,on,xa,xc,to⟩:aX)++(rs.eraseIdx b).map ck)))) rfl ?_;refine fK (val:=λ_:List (Nat×cg)=>.tuple #[]) (akg:=λl'=>[M ra l'.length rc 200 3 (l'.flatMap Be)]) (φ:=λl'=>l'.Perm l/\l'.Pairwise λx y=>x.1<y.1∨x.1=y.1) rfl (λw hw=>Yz ra rc l (λx hx=>?_) I w hw.pre) λl' Zz=>?_
   ·rw[hlf]at hx
    unfold Iy at hx;obtain⟨q,hq,rfl⟩:=aV.1 hx;have h4:=(cC.1 hq).2;simp only[decide_eq_true_eq]at h4;have:=vz h4;simp only;omega
   have agx:l'=CN bl o b ⟨pd,pl⟩:=by
    have h4:=K0 (bl:=bl) hk.nodup b ⟨pd,pl⟩;rw[<-hlf]at h4;exact D1 (f:=λx:Nat×cg=>x.1) (h4.trans Zz.1.symm) (K1 hk.nodup b _) Zz.2
   have hQ:l'.map (·.2)=(fj bl o b ⟨pd,pl⟩).src:=by rw[agx];exact O5 bl o b _
   have aiU:l'.length<=1000:=by have:=Zz.1.length_eq;omega
   have agB:l'.length=l.length:=Zz.1.length_eq;rw[<-agB];simp only[aW,aO];have Tl:mV ((es++ps.drop ei).flatMap cF) (ei*2+1) (J A 0 0) (((es++[(⟨pd,A,0,[]⟩:cW)])++ps.drop (ei+1)).flatMap cF):=⟨by
    show((es++ps.drop ei).flatMap cF).set (ei*2+1) (J A ([]:List cg).length 0)=_;rw[gN fV jS (k:=1) (v:=.slice A ([]:List cg).length 0) I (y:=(⟨pd,A,0,[]⟩:cW)) rfl];congr 1;exact pL B0 bS,by rw[cj fV,bX,eY];omega⟩
   have abn:oI (M ra l'.length rc 200 3 (l'.flatMap Be)::K lz [U O pd,J nM pl.length fE] 49::M nM pl.length fE 41 2 (pl.flatMap dB)::M (Z ⟨zb,zo,A⟩) ps.length qc 49 2 ((es++ps.drop ei).flatMap cF)::K nL [J (Z ⟨zb,zo,A⟩) ps.length qc,J la xs.length lc,U O kd,D on.z,U O on.n,J xa to.length xc] 46::K p2 [G nm,U O pa,U O re,J (Z ⟨vb,vo,A⟩) n c] 35::K p4 [G aA,U O 0,U O 0,J A 0 0] 35::M (Z ⟨vb,vo,A⟩) n c 46 6 (bs.flatMap bm)::M na out.length nc 46 6 (out.flatMap bm)::((es++ps.drop (ei+1)).map fP++(wR (⟨Z ⟨zb,zo,A⟩,qc,ps,la,lc,xs,kd,on,xa,xc,to⟩:aX)++(rs.eraseIdx b).map ck))) zb (zo+ei*2+1) 3 zo (ei*2+1) ps.length qc 49 2 ((es++ps.drop ei).flatMap cF):=⟨rfl,I⟩;refine aE ?_;clear abn Tl;obtain⟨Q,hQd⟩:∃Q,Q=l'.map (·.2):=⟨_,rfl⟩;have hQl:Q.length=l'.length:=by rw[hQd,aF]
   refine fU 41 2 ?_;refine bL (λ(x:List cg×Option Addr×Nat)=>x.1.length<=Q.length/\x.1=Q.take x.1.length) (λx=>[(97,U O x.1.length),(95,J ra l'.length rc),(96,U O l'.length),aj 14 lz,(13,U O ei),(56,U O ei),(54,J (Z ⟨zb,zo,A⟩) ps.length qc),(55,U O ps.length),aj 12 nL,(11,U O b),(44,U O i),(9,J na out.length nc),(5,J (Z ⟨ta,0,A⟩) n n),(8,J aa n ac),aj 2 p2,aj 4 p4,(42,J oa m oc),(43,U O m)])
    (λx=>M x.2.1 x.1.length x.2.2 41 2 (x.1.flatMap dB)::M ra l'.length rc 200 3 (l'.flatMap Be)::M (Z ⟨zb,zo,A⟩) ps.length qc 49 2 (((es++[(⟨pd,x.2.1,x.2.2,x.1⟩:cW)])++ps.drop (ei+1)).flatMap cF)::K nL [J (Z ⟨zb,zo,A⟩) ps.length qc,J la xs.length lc,U O kd,D on.z,U O on.n,J xa to.length xc] 46::K p2 [G nm,U O pa,U O re,J (Z ⟨vb,vo,A⟩) n c] 35::K p4 [G aA,U O 0,U O 0,J A 0 0] 35::M (Z ⟨vb,vo,A⟩) n c 46 6 (bs.flatMap bm)::M na out.length nc 46 6 (out.flatMap bm)::((es++ps.drop (ei+1)).map fP++(wR (⟨Z ⟨zb,zo,A⟩,qc,ps,la,lc,xs,kd,on,xa,xc,to⟩:aX)++(rs.eraseIdx b).map ck))) (λx=>Q.length-x.1.length) ([],A,0) ⟨aT _,by simp⟩ (aS ap aw) λx ⟨hk1,C6⟩=>?_
   obtain⟨vs,fa,fc⟩:=x;simp only at hk1 C6⊢;refine aU ?_;refine aI (λh4=>?_) (λh4=>?_)
   ·have hvl:vs.length<l'.length:=by have:=of_decide_eq_true h4;omega
    generalize hvL:vs.length=kk at*;obtain⟨x,hx⟩:=bf l' kk hvl;have hxQ:Q[kk]?=Z x.2:=by rw[hQd,aJ,hx];rfl
    refine fL 1 rfl I λrb ro Q7=>?_;subst Q7;have SJ:bY kk l'.length:=⟨hvl⟩;have Nu:gQ (M fa kk fc 41 2 (vs.flatMap dB)::M (Z ⟨rb,ro,A⟩) l'.length rc 200 3 (l'.flatMap Be)::M (Z ⟨zb,zo,A⟩) ps.length qc 49 2 (((es++[(⟨pd,fa,fc,vs⟩:cW)])++ps.drop (ei+1)).flatMap cF)::K nL [J (Z ⟨zb,zo,A⟩) ps.length qc,J la xs.length lc,U O kd,D on.z,U O on.n,J xa to.length xc] 46::K p2 [G nm,U O pa,U O re,J (Z ⟨vb,vo,A⟩) n c] 35::K p4 [G aA,U O 0,U O 0,J A 0 0] 35::M (Z ⟨vb,vo,A⟩) n c 46 6 (bs.flatMap bm)::M na out.length nc 46 6 (out.flatMap bm)::((es++ps.drop (ei+1)).map fP++(wR (⟨Z ⟨zb,zo,A⟩,qc,ps,la,lc,xs,kd,on,xa,xc,to⟩:aX)++(rs.eraseIdx b).map ck))) rb (ro+kk*3) _:=jz (k:=1) rfl M4 hx;simp only[Be]at Nu
    repeat(first|refine aE ?_|refine dZ λ_ _=>?_)
    rename_i AF _;have Sz:((es++[(⟨pd,fa,fc,vs⟩:cW)])++ps.drop (ei+1))[ei]?=Z (⟨pd,fa,fc,vs⟩:cW):=by
     rw[dY (by simp[B0]),dC I,B0,dN];rfl
    have adY:fy (K AF [U O (x.1:Int),D x.2.z,U O x.2.n] 200::M fa kk fc 41 2 (vs.flatMap dB)::M (Z ⟨rb,ro,A⟩) l'.length rc 200 3 (l'.flatMap Be)::M (Z ⟨zb,zo,A⟩) ps.length qc 49 2 (((es++[(⟨pd,fa,fc,vs⟩:cW)])++ps.drop (ei+1)).flatMap cF)::K nL [J (Z ⟨zb,zo,A⟩) ps.length qc,J la xs.length lc,U O kd,D on.z,U O on.n,J xa to.length xc] 46::K p2 [G nm,U O pa,U O re,J (Z ⟨vb,vo,A⟩) n c] 35::K p4 [G aA,U O 0,U O 0,J A 0 0] 35::M (Z ⟨vb,vo,A⟩) n c 46 6 (bs.flatMap bm)::M na out.length nc 46 6 (out.flatMap bm)::((es++ps.drop (ei+1)).map fP++(wR (⟨Z ⟨zb,zo,A⟩,qc,ps,la,lc,xs,kd,on,xa,xc,to⟩:aX)++(rs.eraseIdx b).map ck))) zb (zo+ei*2+1) (J fa kk fc):=⟨λ_ _ _ hw=>by
     have h5:=hw.cL (k:=3) rfl (fB fV _ ei _ 1 (J fa vs.length fc) Sz rfl);rw[hvL]at h5;rwa[<-dI]at h5⟩
    have abk:∀aj9:bN,fy (aj9::K AF [U O (x.1:Int),D x.2.z,U O x.2.n] 200::M fa kk fc 41 2 (vs.flatMap dB)::M (Z ⟨rb,ro,A⟩) l'.length rc 200 3 (l'.flatMap Be)::M (Z ⟨zb,zo,A⟩) ps.length qc 49 2 (((es++[(⟨pd,fa,fc,vs⟩:cW)])++ps.drop (ei+1)).flatMap cF)::K nL [J (Z ⟨zb,zo,A⟩) ps.length qc,J la xs.length lc,U O kd,D on.z,U O on.n,J xa to.length xc] 46::K p2 [G nm,U O pa,U O re,J (Z ⟨vb,vo,A⟩) n c] 35::K p4 [G aA,U O 0,U O 0,J A 0 0] 35::M (Z ⟨vb,vo,A⟩) n c 46 6 (bs.flatMap bm)::M na out.length nc 46 6 (out.flatMap bm)::((es++ps.drop (ei+1)).map fP++(wR (⟨Z ⟨zb,zo,A⟩,qc,ps,la,lc,xs,kd,on,xa,xc,to⟩:aX)++(rs.eraseIdx b).map ck))) zb (zo+ei*2+1) (J fa kk fc):=λaj9=>⟨λ_ _ _ hw=>by
     have h5:=hw.cL (k:=4) rfl (fB fV _ ei _ 1 (J fa vs.length fc) Sz rfl);rw[hvL]at h5;rwa[<-dI]at h5⟩
    have nK:∀(ya:Option Addr) (yc:Nat),mV (((es++[(⟨pd,fa,fc,vs⟩:cW)])++ps.drop (ei+1)).flatMap cF) (ei*2+1) (J ya (vs++[x.2]).length yc) (((es++[(⟨pd,ya,yc,vs++[x.2]⟩:cW)])++ps.drop (ei+1)).flatMap cF):=λya yc=>⟨by
     rw[gN fV Sz (k:=1) I (y:=(⟨pd,ya,yc,vs++[x.2]⟩:cW)) rfl];congr 1;rw[List.set_append_left _ _ (by simp[B0]),my _ _ I,B0,dN]
     rfl,by rw[cj fV,bX,bX,B0];simp;omega⟩
    have ZJ:∀X Y:bN,oI (X::K AF [U O (x.1:Int),D x.2.z,U O x.2.n] 200::Y::M (Z ⟨rb,ro,A⟩) l'.length rc 200 3 (l'.flatMap Be)::M (Z ⟨zb,zo,A⟩) ps.length qc 49 2 (((es++[(⟨pd,fa,fc,vs⟩:cW)])++ps.drop (ei+1)).flatMap cF)::K nL [J (Z ⟨zb,zo,A⟩) ps.length qc,J la xs.length lc,U O kd,D on.z,U O on.n,J xa to.length xc] 46::K p2 [G nm,U O pa,U O re,J (Z ⟨vb,vo,A⟩) n c] 35::K p4 [G aA,U O 0,U O 0,J A 0 0] 35::M (Z ⟨vb,vo,A⟩) n c 46 6 (bs.flatMap bm)::M na out.length nc 46 6 (out.flatMap bm)::((es++ps.drop (ei+1)).map fP++(wR (⟨Z ⟨zb,zo,A⟩,qc,ps,la,lc,xs,kd,on,xa,xc,to⟩:aX)++(rs.eraseIdx b).map ck))) zb (zo+ei*2+1) 4 zo (ei*2+1) ps.length qc 49 2 (((es++[(⟨pd,fa,fc,vs⟩:cW)])++ps.drop (ei+1)).flatMap cF):=λX Y=>⟨rfl,I⟩;have En:vs.flatMap dB++[D x.2.z,U O x.2.n]=(vs++[x.2]).flatMap dB:=by rw[iD];rfl
    have Eo:kk+1=(vs++[x.2]).length:=by rw[bX,hvL];rfl
    refine dQ [K AF [U O (x.1:Int),D x.2.z,U O x.2.n] 200,K nL [J (Z ⟨zb,zo,A⟩) ps.length qc,J la xs.length lc,U O kd,D on.z,U O on.n,J xa to.length xc] 46] (λ_:Option Addr×Nat=>True) (λy=>[(97,U O kk),(95,J (Z ⟨rb,ro,A⟩) l'.length rc),(96,U O l'.length),aj 14 lz,(13,U O ei),(56,U O ei),(54,J (Z ⟨zb,zo,A⟩) ps.length qc),(55,U O ps.length),aj 12 nL,(11,U O b),(44,U O i),(9,J na out.length nc),(5,J (Z ⟨ta,0,A⟩) n n),(8,J aa n ac),aj 2 p2,aj 4 p4,(42,J oa m oc),(43,U O m)])
     (λy=>M y.1 (vs++[x.2]).length y.2 41 2 ((vs++[x.2]).flatMap dB)::M (Z ⟨rb,ro,A⟩) l'.length rc 200 3 (l'.flatMap Be)::M (Z ⟨zb,zo,A⟩) ps.length qc 49 2 (((es++[(⟨pd,y.1,y.2,vs++[x.2]⟩:cW)])++ps.drop (ei+1)).flatMap cF)::K nL [J (Z ⟨zb,zo,A⟩) ps.length qc,J la xs.length lc,U O kd,D on.z,U O on.n,J xa to.length xc] 46::K p2 [G nm,U O pa,U O re,J (Z ⟨vb,vo,A⟩) n c] 35::K p4 [G aA,U O 0,U O 0,J A 0 0] 35::M (Z ⟨vb,vo,A⟩) n c 46 6 (bs.flatMap bm)::M na out.length nc 46 6 (out.flatMap bm)::((es++ps.drop (ei+1)).map fP++(wR (⟨Z ⟨zb,zo,A⟩,qc,ps,la,lc,xs,kd,on,xa,xc,to⟩:aX)++(rs.eraseIdx b).map ck))) mixed (by first|exact dM (.cons _ (.cons _ (.cons _ (dM qd))))|exact .cons _ (dM (.cons _ (.cons _ (.cons _ (dM qd)))))) ?_ λy _=>?_
    ·skip
     refine ag 0 ?_;refine ag 1 ?_;refine ag 2 ?_;refine ag 3 ?_;refine ag 4 ?_;refine ag 5 ?_;refine ag 6 ?_;refine ag 7 ?_;refine ag 9 ?_;refine ag 10 ?_;refine lm 8 11 ai ?_ ?_
     ·refine fO 8 rfl aw ?_
      refine IL 11 rfl ai ai aw λnb _=>?_;refine kW 12 2 rfl rfl ai I I ai (λ_=>aw) λya yc=>?_;rw[Eo,En];simp only[cG,bW];have abK:=nK ya yc;refine ag 13 ?_;refine ag 14 ?_;refine kX 15 ai ai aw ?_;exact dS (ya,yc) trivial ap aw
     ·refine iP 11 rfl ai aw λnb _=>?_
      refine cm 8 ai (fO 8 rfl aw ?_);refine kW 12 2 rfl rfl ai I I ai (λ_=>aw) λya yc=>?_;rw[Eo,En];simp only[cG,bW];have abK:=nK ya yc;refine ag 13 ?_;refine ag 14 ?_;refine kX 15 ai ai aw ?_;exact dS (ya,yc) trivial ap aw
    ·obtain⟨ya,yc⟩:=y
     refine aH ?_;exact bj (vs++[x.2],ya,yc) ⟨by rw[<-Eo];omega,by rw[<-Eo,cz,hxQ,<-C6];rfl⟩ (by rw[<-Eo];simp only;omega) (by simp only[<-Eo];repeat(first|exact trivial|refine⟨rfl,?_⟩)) aK
   ·have hvl:vs.length=Q.length:=by have:=of_decide_eq_false h4;omega
    have hvQ:vs=Q:=by rw[C6,hvl,cQ]
    subst hvQ;refine aE ?_;have ly:(es++[(⟨pd,fa,fc,vs⟩:cW)]).length=ei+1:=by simp[B0]
    refine oU (H':=M (Z ⟨zb,zo,A⟩) ps.length qc 49 2 (((es++[(⟨pd,fa,fc,vs⟩:cW)])++ps.drop (es++[(⟨pd,fa,fc,vs⟩:cW)]).length).flatMap cF)::K nL [J (Z ⟨zb,zo,A⟩) ps.length qc,J la xs.length lc,U O kd,D on.z,U O on.n,J xa to.length xc] 46::K p2 [G nm,U O pa,U O re,J (Z ⟨vb,vo,A⟩) n c] 35::K p4 [G aA,U O 0,U O 0,J A 0 0] 35::M (Z ⟨vb,vo,A⟩) n c 46 6 (bs.flatMap bm)::M na out.length nc 46 6 (out.flatMap bm)::(((es++[(⟨pd,fa,fc,vs⟩:cW)])++ps.drop (es++[(⟨pd,fa,fc,vs⟩:cW)]).length).map fP++(wR (⟨Z ⟨zb,zo,A⟩,qc,ps,la,lc,xs,kd,on,xa,xc,to⟩:aX)++(rs.eraseIdx b).map ck))) (λw hw=>?_) ?_
    ·refine hw.pick ⟨[M ra l'.length rc 200 3 (l'.flatMap Be)],aP.2 λe=>?_⟩
     have e2:fP (⟨pd,fa,fc,vs⟩:cW)=M fa vs.length fc 41 2 (vs.flatMap dB):=rfl;rw[ly];simp only[bz,bT,dn,bC,br,cq,e2];omega
    refine bj (es++[(⟨pd,fa,fc,vs⟩:cW)]) ⟨by rw[ly];omega,?_,λq hq=>?_⟩ (by rw[ly];omega) (by simp only[ly];repeat(first|exact trivial|refine⟨rfl,?_⟩)) aK
    ·rw[ly,cz,hq,bz,bz,HH]
     simp only[mz,bT,dn,cW.kN,List.append_cancel_left_eq,List.cons.injEq,and_true];rw[hQd,hQ]
     rfl
    ·rcases bA.1 hq with hq|hq
     ·exact Ll q hq
     ·rw[bR.1 hq]
      refine⟨Xg,by rw[hQl];omega,λv hv=>?_⟩;rw[hQd]at hv;rw[hQ]at hv;unfold fj at hv;obtain⟨y,hy,rfl⟩:=aV.1 hv;have hy2:=(cC.1 hy).2;exact Nw _ (wC (R:=R) (p:=⟨pd,pl⟩) Fq (ax hy2))
  have gP:es.length=ps.length:=by have:=of_decide_eq_false h2;omega
  rw[gP,iU,cD];rw[gP,cQ]at HH;refine bi (H1:=M xa to.length xc 3 1 (to.map (U O))::M qa ps.length qc 49 2 (es.flatMap cF)::K nL [J qa ps.length qc,J la xs.length lc,U O kd,D on.z,U O on.n,J xa to.length xc] 46::K p2 [G nm,U O pa,U O re,J (Z ⟨vb,vo,A⟩) n c] 35::K p4 [G aA,U O 0,U O 0,J A 0 0] 35::M (Z ⟨vb,vo,A⟩) n c 46 6 (bs.flatMap bm)::M na out.length nc 46 6 (out.flatMap bm)::(es.map fP++(M la xs.length lc 56 8 (xs.flatMap fe)::(xs.map j1++(rs.eraseIdx b).map ck)))) (aP.2 λe=>?_) ?_
  ·unfold wR AQ
   simp only[bC,br];omega
  obtain⟨On,Te⟩:∃On:Nat->List Int,On=λk=>(to.take k).map (λt=>((o.idxOf t.toNat:Nat):Int))++to.drop k:=⟨_,rfl⟩;have ZR:∀k,(On k).length=to.length:=λk=>by rw[Te];simp;omega
  have aeA:On 0=to:=by rw[Te];simp
  rw[show M xa to.length xc 3 1 (to.map (U O))=M xa to.length xc 3 1 ((On 0).map (U O)) by rw[aeA]];refine aE ?_;refine bL (λ(k:Nat)=>k<=to.length) (λk=>[(122,U O k),(120,J xa to.length xc),(121,U O to.length),aj 12 nL,(11,U O b),(44,U O i),(9,J na out.length nc),(5,J (Z ⟨ta,0,A⟩) n n),(8,J aa n ac),aj 2 p2,aj 4 p4,(42,J oa m oc),(43,U O m)]) (λk=>M xa to.length xc 3 1 ((On k).map (U O))::M qa ps.length qc 49 2 (es.flatMap cF)::K nL [J qa ps.length qc,J la xs.length lc,U O kd,D on.z,U O on.n,J xa to.length xc] 46::K p2 [G nm,U O pa,U O re,J (Z ⟨vb,vo,A⟩) n c] 35::K p4 [G aA,U O 0,U O 0,J A 0 0] 35::M (Z ⟨vb,vo,A⟩) n c 46 6 (bs.flatMap bm)::M na out.length nc 46 6 (out.flatMap bm)::(es.map fP++(M la xs.length lc 56 8 (xs.flatMap fe)::(xs.map j1++(rs.eraseIdx b).map ck)))) (λk=>to.length-k) 0 (aT _) (aS ap aK) λk VQ=>?_;refine aU ?_;refine aI (λh3=>?_) (λh3=>?_)
  ·have u2:k<to.length:=ax h3
   obtain⟨x,hx⟩:=bf to k u2;have hxe:x∈db bl b:=by rw[fY aaN];exact aq hx
   have Tj:=hk.closed b (aq hb) x (by rw[<-gF];exact hxe);have Ew:=rY (by rw[gF];exact hg) hxe;obtain⟨xn,rfl⟩:∃xn:Nat,x=xn:=⟨x.toNat,I⟩;rw[dO]at Tj;refine fL 0 rfl I λyb yo Fz=>?_;subst Fz;have SJ:bY k to.length:=⟨u2⟩;have hlx:bY xn n:=⟨I⟩;have ajX:Rs ((On k).map (U O)) (k*1) (U O (xn:Int)):=⟨by
    rw[f_,aJ,Te];simp only;rw[dC dp,aF,dd,iq I,dN,iV,ef,hx]
    rfl⟩
   have adt:to.drop k=(xn:Int)::to.drop (k+1):=by rw[lR u2,(az.1 hx).2]
   have rS:(On k).set k ((o.idxOf xn:Nat):Int)=On (k+1):=by
    rw[Te];simp only;rw[my _ _ dp,aF,dd,iq I,dN,adt,bW,cz,hx,bz];simp
   have nK:mV ((On k).map (U O)) (k*1) (U O ((o.idxOf xn:Nat):Int)) ((On (k+1)).map (U O)):=⟨by
    rw[f_,<-eM,rS],by rw[aF,ZR];omega⟩
   obtain⟨_,aaT,rfl,_⟩:=adu xn _ (vV I);rw[if_pos Tj]at aaT;refine aH ?_;refine dQ [K nL [J qa ps.length qc,J la xs.length lc,U O kd,D on.z,U O on.n,J (Z ⟨yb,yo,A⟩) to.length xc] 46] (λ_:Unit=>True) (λ_=>[(122,U O k),(120,J (Z ⟨yb,yo,A⟩) to.length xc),(121,U O to.length),aj 12 nL,(11,U O b),(44,U O i),(9,J na out.length nc),(5,J (Z ⟨ta,0,A⟩) n n),(8,J aa n ac),aj 2 p2,aj 4 p4,(42,J oa m oc),(43,U O m)]) (λ_=>M (Z ⟨yb,yo,A⟩) to.length xc 3 1 ((On (k+1)).map (U O))::M qa ps.length qc 49 2 (es.flatMap cF)::K nL [J qa ps.length qc,J la xs.length lc,U O kd,D on.z,U O on.n,J (Z ⟨yb,yo,A⟩) to.length xc] 46::K p2 [G nm,U O pa,U O re,J (Z ⟨vb,vo,A⟩) n c] 35::K p4 [G aA,U O 0,U O 0,J A 0 0] 35::M (Z ⟨vb,vo,A⟩) n c 46 6 (bs.flatMap bm)::M na out.length nc 46 6 (out.flatMap bm)::(es.map fP++(M la xs.length lc 56 8 (xs.flatMap fe)::(xs.map j1++(rs.eraseIdx b).map ck)))) mixed aw ?_ λ_ _=>?_
   ·skip
    refine ag 0 ?_;refine ag 1 ?_;refine ag 2 ?_;refine ag 3 ?_;refine ag 4 ?_;refine ag 5 ?_;refine ag 6 ?_;refine ag 7 ?_;refine ag 8 ?_;refine kX 9 ai ai aw ?_;exact dS () trivial ap aK
   ·refine aH ?_
    exact bj (k+1) I I ap aK
  ·obtain rfl:k=to.length:=by have:=of_decide_eq_false h3;omega
   have I4:(On to.length)=(je bl o b ((⟨qa,qc,ps,la,lc,xs,kd,on,xa,xc,to⟩:aX)).eR).to:=by
    rw[Te];simp only[cQ,iU,cD]
    rfl
   obtain⟨tn,uW⟩:∃tn,tn=On to.length:=⟨_,rfl⟩;rw[<-uW]at I4⊢;have Xr:tn.length=to.length:=by rw[uW,ZR]
   obtain⟨B',sZ⟩:∃B':aX,B'=⟨qa,qc,es,la,lc,xs,kd,on,xa,xc,tn⟩:=⟨_,rfl⟩;have hbC:bm B'=[J qa ps.length qc,J la xs.length lc,U O kd,D on.z,U O on.n,J xa to.length xc]:=by rw[sZ];simp only[bm,gP,Xr]
   have Sj:B'.eR=je bl o b (aN bl b):=by
    rw[jB aaN,sZ];unfold aX.eR je;simp only[HH,I4,dE]
    rfl
   have aaB:B'.Bd:=by
    rw[sZ];refine⟨El.kind,El.on,by rw[gP];exact Xf,Ll,El.list,El.ins,by rw[Xr];exact ahp,λt ht=>?_⟩;rw[I4]at ht;obtain⟨y,hy,rfl⟩:=aV.1 ht;have:=List.idxOf_le_length (a:=y.toNat) (l:=o);exact⟨I,I⟩
   have hoi:=lK.JL
   repeat(first|refine aE ?_|refine dZ λ_ _=>?_)
   refine nX rfl rfl I I λT0 T4=>?_;rw[<-hbC,show out.length+1=(out++[B']).length by simp,show out.flatMap bm++bm B'=(out++[B']).flatMap bm by rw[iD];simp];refine aH ?_;rename_i nb _;have e1:jM B'=M qa ps.length qc 49 2 (es.flatMap cF)::M la xs.length lc 56 8 (xs.flatMap fe)::M xa to.length xc 3 1 (tn.map (U O))::(es.map fP++xs.map j1):=by rw[sZ];simp only[jM,gP,Xr]
   refine oU (H':=jM B'++(K p2 [G nm,U O pa,U O re,J (Z ⟨vb,vo,A⟩) n c] 35::K p4 [G aA,U O 0,U O 0,J A 0 0] 35::M (Z ⟨vb,vo,A⟩) n c 46 6 (bs.flatMap bm)::M T0 (out++[B']).length T4 46 6 ((out++[B']).flatMap bm)::(rs.eraseIdx b).map ck)) (λw hw=>?_) ?_
   ·refine hw.pick ⟨[M (Z ⟨nb,0,A⟩) 1 1 46 6 (bm B'),K nL (bm B') 46],aP.2 λe=>?_⟩
    rw[e1];simp only[bC,br,cq];omega
   refine GA ?_;have rS:(rs.set b B')[b]?=Z B':=eK (by rw[lK.Yn];omega);have Df:=jl ck rS;rw[qA]at Df;refine bi (H1:=K p2 [G nm,U O pa,U O re,J (Z ⟨vb,vo,A⟩) n c] 35::K p4 [G aA,U O 0,U O 0,J A 0 0] 35::M (Z ⟨vb,vo,A⟩) n c 46 6 (bs.flatMap bm)::M T0 (out++[B']).length T4 46 6 ((out++[B']).flatMap bm)::(rs.set b B').map ck) (aP.2 λe=>?_) ?_
   ·have:=aP.1 Df e
    unfold ck at this⊢;simp only[br]at this⊢;omega
   exact bj (i+1,rs.set b B',out++[B'],T0,T4) ⟨I,lK.step hk.nodup hb I Sj aaB⟩ bK ap aK
 ·obtain rfl:i=m:=by have:=of_decide_eq_false h1;omega
  refine aE ?_;rw[hm]at lK;obtain⟨hd1,Ko,rest,hd3⟩:=lK.done hk.nodup λb hb=>by have:=hk.lt b hb;rw[aF]at this;exact this
  refine gw rfl λw hw=>⟨(na,nc,out),rfl,?_,by rw[<-gF];exact hd1,Ko⟩;have h9:=back hw;simp only[aW,aO]at h9;refine h9.pick ⟨[K p2 [G nm,U O pa,U O re,J na out.length nc] 35,K p4 [G nm,U O pa,U O re,J na out.length nc] 35,M (Z ⟨vb,vo,A⟩) n c 46 6 (bs.flatMap bm),M (Z ⟨ta,0,A⟩) n n 3 1 ((Gg n o).map (U O)),(⟨af,λw=>aG w (J aa n ac) 1 (be bl) cN⟩:bN)]++rest.map ck,aP.2 λe=>?_⟩;have K9:=aP.1 (hd3.map ck) e;unfold fS;simp only[bz,bC,br,cq]at K9⊢;omega
end
end Go.Proofs.YthfhgolkafpmnaaGreatDoor
