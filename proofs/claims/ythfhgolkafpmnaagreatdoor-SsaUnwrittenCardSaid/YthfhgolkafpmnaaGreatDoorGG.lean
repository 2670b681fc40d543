/- Texts joined: DomP Cut Hold Mul DomA. -/
import Derived.Laws.Bits64b
import Derived.Laws.CopyRow
import Derived.Laws.IdiomCopy
import Derived.Lib.Mul64
import Derived.Tactics
import Derived.Test.YthfhgolkafpmnaaGreatDoorGA
import Derived.Test.YthfhgolkafpmnaaGreatDoorGB
import Derived.Test.YthfhgolkafpmnaaGreatDoorGD
namespace Go.Proofs.YthfhgolkafpmnaaGreatDoor
section
open Go Go.RowKit
theorem JT(bl:List ar)(cW:cL bl):∀(f b:Nat) (st:List Bool×List Nat),st.1[b]?=some false->
  ∃N,(wh bl f b st).2=st.2++N/\N.Nodup/\(∀x∈N,st.1[x]?=some false/\(wh bl f b st).1[x]?=some true)/\(0<f->∃N',N=N'++[b])/\∀(i x:Nat),N[i]?=some x->x≠b->∃j p,i<j/\N[j]?=some p/\Edge bl p x
 |0,b,st,hb=>⟨[],by simp[wh],by simp,by simp,by simp,by simp⟩
 |f+1,b,st,hb=>by
  have key:∀(l:List Nat),(∀t∈l,Edge bl b t)->∀st1:List Bool×List Nat,
    ∃N,(l.foldl (fT bl f) st1).2=st1.2++N/\N.Nodup/\(∀x∈N,st1.1[x]?=some false/\(l.foldl (fT bl f) st1).1[x]?=some true)/\∀(i x:Nat),N[i]?=some x->Edge bl b x∨∃j p,i<j/\N[j]?=some p/\Edge bl p x:=by
   intro l
   induction l with
   |nil=>exact λ_ st1=>⟨[],by simp,by simp,by simp,by simp⟩
   |cons t l ih=>
    intro hl st1;simp only[fF];obtain⟨N2,h1,h2,h3,h4⟩:=ih (λt' HE=>hl t' (cJ _ HE)) (fT bl f st1 t);rcases l5 (bl:=bl) (f:=f) (t:=t) (st:=st1)with e|⟨hf,e⟩
    ·rw[e]at h1 h3⊢
     exact⟨N2,h1,h2,h3,h4⟩
    ·obtain⟨N1,g1,g2,g3,g4,g5⟩:=JT bl cW f t st1 hf
     rw[e]at h1 h3⊢;refine⟨N1++N2,by rw[h1,g1,dE],?_,?_,?_⟩
     ·refine nN.2 ⟨g2,h2,λx hx y hy e'=>?_⟩
      subst e';have:=(g3 x hx).2;rw[(h3 x hy).1]at this;cases this
     ·intro x hx
      rcases bL.1 hx with hx|hx
      ·exact⟨(g3 x hx).1,(ii bl f _ l).2.1 x (g3 x hx).2⟩
      ·refine⟨?_,(h3 x hx).2⟩
       have h:=(h3 x hx).1;cases hq:st1.1[x]? with
       |none=>
        have h5:=(ni bl f t st1 hf).1;have h6:=(aC.1 h).1;rw[kg]at hq;omega
       |some v=>
        cases v with
        |false=>rfl
        |true=>
         have:=(ni bl f t st1 hf).2.1 x hq;rw[h]at this;cases this
     ·intro i x hx
      by_cases hi:i<N1.length
      ·rw[dG hi]at hx
       by_cases hxt:x=t
       ·subst hxt;exact .inl (hl x aH)
       ·obtain⟨j,p,hj,hp,he⟩:=g5 i x hx hxt
        refine .inr ⟨j,p,hj,?_,he⟩;rw[dG (aC.1 hp).1];exact hp
      ·rw[dg ag]at hx
       rcases h4 _ x hx with h|⟨j,p,hj,hp,he⟩
       ·exact .inl h
       ·refine .inr ⟨N1.length+j,p,ag,?_,he⟩
        rw[dg ag,show N1.length+j-N1.length=j by omega];exact hp
  obtain⟨N,h1,h2,h3,h4⟩:=key ((dd bl b).reverse.map Int.toNat) (λt ht=>by
   obtain⟨z,hz,rfl⟩:=aX.1 ht;have hz:z∈dd bl b:=by simpa using hz
   unfold Edge;rw[cW.nat hz];exact hz) (st.1.set b true,st.2)
  have bT:=(aC.1 hb).1;have hbN:b∉N:=λhm=>by
   have:=(h3 b hm).1;simp[bT]at this
  rw[ls];refine⟨N++[b],by simp only;rw[h1,dE],?_,?_,λ_=>⟨N,rfl⟩,?_⟩
  ·refine nN.2 ⟨h2,by simp,λx hx y hy e'=>?_⟩
   simp only[bU]at hy;exact hbN (by rw[<-hy,<-e'];exact hx)
  ·intro x hx
   rcases bL.1 hx with hx|hx
   ·have:=h3 x hx
    refine⟨?_,this.2⟩;have h:=this.1;simp only[dQ]at h
    by_cases e':b=x
    ·subst e';exact absurd hx hbN
    ·rw[if_neg e']at h;exact h
   ·simp only[bU]at hx
    subst hx;exact⟨hb,(ii bl f _ _).2.1 x (by simp[bT])⟩
  ·intro i x hx zC
   by_cases hi:i<N.length
   ·rw[dG hi]at hx
    rcases h4 i x hx with h|⟨j,p,hj,hp,he⟩
    ·exact⟨N.length,b,hi,by simp,h⟩
    ·refine⟨j,p,hj,?_,he⟩
     rw[dG (aC.1 hp).1];exact hp
   ·rw[dg ag]at hx
    have:=(aC.1 hx).1;simp only[jL]at this;rw[show i-N.length=0 by omega]at hx;simp at hx;exact absurd hx.symm zC
def ch(bl:List ar):List Nat:=(gw bl).reverse
theorem MS{bl:List ar}(cW:cL bl)(h0:0<bl.length):(gw bl).Nodup/\(∃N',gw bl=N'++[0])/\∀(i x:Nat),(gw bl)[i]?=some x->x≠0->∃j p,i<j/\(gw bl)[j]?=some p/\Edge bl p x:=by
 obtain⟨N,h1,h2,_,h4,h5⟩:=JT bl cW bl.length 0 (List.replicate bl.length false,[]) (by simp[h0]);have e:gw bl=N:=by unfold gw;rw[h1];rfl
 rw[e];exact⟨h2,h4 h0,h5⟩
structure Ord(bl:List ar)(l:List Nat):Prop where
 nodup:l.Nodup
 mem:∀x,x∈l↔gD bl (-1) 0 x
 zero:l[0]?=some 0
 ahead:∀(i x:Nat),l[i]?=some x->x≠0->∃j p,j<i/\l[j]?=some p/\Edge bl p x
theorem su{bl:List ar}(cW:cL bl)(h0:0<bl.length):Ord bl (ch bl):=by
 obtain⟨h1,⟨N',h2⟩,h3⟩:=MS cW h0;refine⟨by unfold ch;exact(List.reverse_perm _).nodup_iff.2 h1,λx=>by unfold ch;rw[List.mem_reverse];exact Dv cW h0,by unfold ch;rw[h2];simp,λi x hx Dd=>?_⟩;unfold ch at hx⊢;have hi:=(aC.1 hx).1;rw[tZ]at hi;rw[List.getElem?_reverse hi]at hx;obtain⟨j,p,hj,hp,he⟩:=h3 _ x hx Dd;have jE:=(aC.1 hp).1;refine⟨(gw bl).length-1-j,p,ag,?_,he⟩;rw[List.getElem?_reverse ag,show(gw bl).length-1-((gw bl).length-1-j)=j by omega];exact hp
def ku(bl:List ar)(a b:Nat):Prop:=gD bl (-1) 0 a/\gD bl (-1) 0 b/\(a=b∨a=0∨¬gD bl a 0 b)
theorem gD.all{bl:List ar}{wo:Int}{a b:Nat}(h:gD bl wo a b):gD bl (-1) a b:=by
 induction h with
 |refl=>exact .refl
 |step _ he _ ih=>exact ih.step he ag
theorem ku.refl{bl:List ar}{b:Nat}(h:gD bl (-1) 0 b):ku bl b b:=⟨h,h,.inl rfl⟩
theorem ku.FG{bl:List ar}{a b p:Nat}(h:ku bl a b)(OF:a≠b)(he:Edge bl p b)(hp:gD bl (-1) 0 p):ku bl a p:=by
 refine⟨h.1,hp,?_⟩;rcases h.2.2 with e|e|e
 ·exact absurd e OF
 ·exact .inr (.inl e)
 ·refine .inr (.inr λhr=>e (hr.step he ag))
theorem H_{bl:List ar}{D:Nat->Nat->Prop}(h0:∀a,D a 0->a=0)(hs:∀a b p,b≠0->D a b->gD bl (-1) 0 p->Edge bl p b->a=b∨D a p){a b:Nat}(ha:gD bl (-1) 0 a)(hb:gD bl (-1) 0 b)(h:D a b):ku bl a b:=by
 refine⟨ha,hb,?_⟩
 by_cases e0:a=0
 ·exact .inr (.inl e0)
 by_cases e:a=b
 ·exact .inl e
 refine .inr (.inr λhr=>?_);have key:∀x,gD bl a 0 x->¬D a x:=by
  intro x hx
  induction hx with
  |refl=>exact λhd=>e0 (h0 a hd)
  |@step x y HF he hw ih=>
   intro hd
   by_cases hy:y=0
   ·subst hy;exact e0 (h0 a hd)
   ·rcases hs a y x hy hd HF.all he with h1|h1
    ·exact hw ag
    ·exact ih h1
 exact key b hr h
def jX(bl:List ar)(c b:Nat):Prop:=ku bl c b/\c≠b/\∀a,ku bl a b->a≠b->ku bl a c
theorem ku.antisymm{bl:List ar}{a b:Nat}(h:ku bl a b)(k:ku bl b a):a=b:=by
 by_cases e:a=b
 ·exact e
 exfalso;have key:∀x,gD bl (-1) 0 x->(gD bl a 0 x/\gD bl b 0 x)∨(gD bl a 0 b)∨(gD bl b 0 a)∨a=0∨b=0:=by
  intro x hx
  induction hx with
  |refl=>exact .inl ⟨.refl,.refl⟩
  |@step x y HF he hw ih=>
   rcases ih with⟨h1,h2⟩|h
   ·by_cases ea:y=a
    ·subst ea;exact .inr (.inr (.inl (h2.step he ag)))
    ·by_cases eb:y=b
     ·subst eb;exact .inr (.inl (h1.step he ag))
     ·exact .inl ⟨h1.step he ag,h2.step he ag⟩
   ·exact .inr h
 have z0:∀c,ku bl c 0->c=0:=λc hc=>by
  rcases hc.2.2 with e|e|e
  ·exact e
  ·exact e
  ·exact absurd .refl e
 have f1:a≠0:=λe0=>by subst e0;exact e (z0 b k).symm
 have f2:b≠0:=λe0=>by subst e0;exact e (z0 a h)
 have g1:¬gD bl a 0 b:=(h.2.2.resolve_left e).resolve_left f1;have g2:¬gD bl b 0 a:=(k.2.2.resolve_left (Ne.symm e)).resolve_left f2;rcases key a h.1 with⟨_,h2⟩|h|h|h|h
 ·exact g2 h2
 ·exact g1 h
 ·exact g2 h
 ·exact f1 h
 ·exact f2 h
theorem jX.YT{bl:List ar}{b c d:Nat}(h:jX bl c b)(k:jX bl d b):c=d:=(k.2.2 c h.1 h.2.1).antisymm (h.2.2 d k.1 k.2.1)
open Classical in
noncomputable def cR(bl:List ar)(b:Nat):Int:=if h:∃c,jX bl c b then(Classical.choose h:Nat)else -1
theorem gZ{bl:List ar}{b c:Nat}(h:jX bl c b):cR bl b=c:=by
 have hx:∃c,jX bl c b:=⟨c,h⟩;unfold cR;rw[dif_pos hx,(Classical.choose_spec hx).YT h]
theorem fS{bl:List ar}{b:Nat}(h:∀c,¬jX bl c b):cR bl b=-1:=by
 unfold cR;rw[dif_neg λ⟨c,hc⟩=>h c hc]
def Pr(up:List Int)(b:Nat):Prop:=∃c:Nat,up[b]?=some (c:Int)
inductive qS(up:List Int)(a:Nat):Nat->Prop
 |refl:qS up a a
 |up {b c:Nat}:b≠0->up[b]?=some (c:Int)->qS up a c->qS up a b
theorem qS.trans{up:List Int}{a b c:Nat}(h:qS up a b)(k:qS up b c):qS up a c:=by
 induction k with
 |refl=>exact h
 |up h0 he _ ih=>exact .up h0 he ih
def rk(l:List Nat)(b:Nat):Nat:=l.idxOf b
theorem vX{l:List Nat}(hn:l.Nodup){i x:Nat}(h:l[i]?=some x):rk l x=i:=by
 obtain⟨hi,rfl⟩:=aC.1 h;exact List.Nodup.idxOf_getElem hn i hi
theorem Im{l:List Nat}{x:Nat}(h:x∈l):l[rk l x]?=some x:=by
 have hi:l.idxOf x<l.length:=tY.2 h;unfold rk;rw[aB hi,nL hi]
theorem pQ{l:List Nat}{x y:Nat}(hx:x∈l)(hy:y∈l)(h:rk l x=rk l y):x=y:=by
 have h1:=Im hx;rw[h,Im hy]at h1;simpa using h1.symm
inductive JN(bl:List ar)(l:List Nat)(a:Nat):Nat->Prop
 |refl:JN bl l a a
 |step {x y:Nat}:JN bl l a x->Edge bl x y->rk l x<rk l y->JN bl l a y
theorem JN.trans{bl:List ar}{l:List Nat}{a b c:Nat}(h:JN bl l a b)(k:JN bl l b c):JN bl l a c:=by
 induction k with
 |refl=>exact h
 |step _ he hr ih=>exact ih.step he hr
theorem JN.le{bl:List ar}{l:List Nat}{a b:Nat}(h:JN bl l a b):rk l a<=rk l b:=by
 induction h with
 |refl=>exact bH _
 |step _ _ hr ih=>omega
theorem JN.dom{bl:List ar}{l:List Nat}{a c v:Nat}(hf:JN bl l c v)(ha:rk l a<rk l c)(hc:gD bl (-1) 0 c)(h:ku bl a v):ku bl a c:=by
 induction hf with
 |refl=>exact h
 |@step x y hx he hr ih=>
  have:=hx.le;have hrx:gD bl (-1) 0 x:=by
   clear ih h;clear he hr this
   induction hx with
   |refl=>exact hc
   |step _ he _ ih=>exact ih.step he ag
  exact ih (h.FG (λe=>by subst e;omega) he hrx)
structure Inv(bl:List ar)(l:List Nat)(up:List Int)(k:Nat):Prop where
 len:up.length=bl.length
 zero:up[0]?=some 0
 val:∀b c:Nat,up[b]?=some (c:Int)->b∈l/\c∈l/\(b≠0->rk l c<rk l b/\Pr up c)
 neg:∀(b:Nat) (z:Int),up[b]?=some z->z=-1∨0<=z
 Z1:∀b c:Nat,b≠0->up[b]?=some (c:Int)->JN bl l c b
 low:∀b c:Nat,b≠0->up[b]?=some (c:Int)->∀y,(∀p,Edge bl p b->Pr up p->qS up y p)->rk l y<=rk l c
 sound:∀b a,Pr up b->ku bl a b->qS up a b
 G4:∀b∈l,rk l b<k->Pr up b
 phase:(∀b∈l,Pr up b)∨∀b,Pr up b->rk l b<k
 done:∀v∈l,v≠0->rk l v<k->∀p,Edge bl p v->p∈l->rk l p<rk l v->∀y,qS up y v->y=v∨qS up y p
theorem oT{bl:List ar}{l:List Nat}(ho:Ord bl l):rk l 0=0:=vX ho.nodup ho.zero
theorem Inv.qN{bl:List ar}{l:List Nat}{up:List Int}{k b:Nat}(h:Inv bl l up k)(hp:Pr up b):b∈l:=hp.elim λc hc=>(h.val b c hc).1
theorem Inv.Ae{bl:List ar}{l:List Nat}{up:List Int}{k a b:Nat}(h:Inv bl l up k)(ha:qS up a b):rk l a<=rk l b:=by
 induction ha with
 |refl=>exact bH _
 |up h0 he _ ih=>have:=((h.val _ _ he).2.2 h0).1;omega
theorem Inv.V_{bl:List ar}{l:List Nat}{up:List Int}{k a b:Nat}(h:Inv bl l up k)(ha:qS up a b)(hb:Pr up b):Pr up a:=by
 induction ha with
 |refl=>exact hb
 |up h0 he _ ih=>exact ih ((h.val _ _ he).2.2 h0).2
theorem Inv.Ss{bl:List ar}{l:List Nat}{up:List Int}{k a b:Nat}(h:Inv bl l up k)(ha:qS up a b):JN bl l a b:=by
 induction ha with
 |refl=>exact .refl
 |up h0 he _ ih=>exact ih.trans (h.Z1 _ _ h0 he)
def pq(up:List Int)(a b z:Nat):Prop:=Pr up z/\∀y,qS up y z↔(qS up y a/\qS up y b)
theorem Inv.KB{bl:List ar}{l:List Nat}{up:List Int}{k a b:Nat}(ho:Ord bl l)(h:Inv bl l up k)(ha:Pr up a)(hb:Pr up b)(eH:a≠b)(hr:rk l b<=rk l a):
  ∃c:Nat,up[a]?=some (c:Int)/\Pr up c/\rk l c<rk l a/\∀z,pq up c b z->pq up a b z:=by
 obtain⟨c,hc⟩:=ha;have hv:=h.val a c hc;have bT:rk l b<rk l a:=nU hr λe=>eH (pQ hv.1 (h.qN hb) e.symm);have Y_:a≠0:=λe=>by subst e;have:=oT ho;omega
 refine⟨c,hc,(hv.2.2 Y_).2,(hv.2.2 Y_).1,λz hz=>⟨hz.1,λy=>(hz.2 y).trans ⟨λ⟨h1,h2⟩=>⟨.up Y_ hc h1,h2⟩,λ⟨h1,h2⟩=>⟨?_,h2⟩⟩⟩⟩;cases h1 with
 |refl=>have:=h.Ae h2;omega
 |@up _ c' _ he h3=>
  rw[hc]at he;have:c=c':=by have:=be he;omega
  rw[this];exact h3
theorem meet_self{up:List Int}{a:Nat}(ha:Pr up a):pq up a a a:=⟨ha,λ_=>⟨λh=>⟨h,h⟩,λh=>h.1⟩⟩
theorem pq.comm{up:List Int}{a b z:Nat}(h:pq up a b z):pq up b a z:=⟨h.1,λy=>(h.2 y).trans And.comm⟩
def m_(up:List Int)(ps:List Nat)(z:Int):Prop:=(z=-1/\∀p∈ps,¬Pr up p)∨∃c:Nat,z=c/\Pr up c/\(∃p∈ps,Pr up p)/\∀y,qS up y c↔∀p∈ps,Pr up p->qS up y p
theorem HS(up:List Int):m_ up [] (-1):=.inl ⟨rfl,by simp⟩
theorem m_.pass{up:List Int}{ps:List Nat}{z:Int}{p:Nat}(h:m_ up ps z)(hp:¬Pr up p):m_ up (ps++[p]) z:=by
 rcases h with⟨rfl,h⟩|⟨c,rfl,h1,⟨q,hq,IL⟩,h3⟩
 ·refine .inl ⟨rfl,λq hq=>?_⟩
  rcases bL.1 hq with hq|hq
  ·exact h q hq
  ·rw[bU.1 hq];exact hp
 ·refine .inr ⟨c,rfl,h1,⟨q,cC _ hq,IL⟩,λy=>(h3 y).trans ⟨λh q hq IL=>?_,λh q hq=>h q (cC _ hq)⟩⟩
  rcases bL.1 hq with hq|hq
  ·exact h q hq IL
  ·rw[bU.1 hq]at IL;exact absurd IL hp
theorem m_.first{up:List Int}{ps:List Nat}{z:Int}{p:Nat}(h:m_ up ps z)(hz:z<0)(hp:Pr up p):m_ up (ps++[p]) p:=by
 rcases h with⟨rfl,h⟩|⟨c,rfl,_⟩
 ·refine .inr ⟨p,rfl,hp,⟨p,by simp,hp⟩,λy=>⟨λhy q hq IL=>?_,λh=>h p aH hp⟩⟩
  rcases bL.1 hq with hq|hq
  ·exact absurd IL (h q hq)
  ·rw[bU.1 hq];exact hy
 ·omega
theorem m_.pr{up:List Int}{ps:List Nat}{z:Int}(h:m_ up ps z)(hz:0<=z):∃c:Nat,z=c/\Pr up c:=by
 rcases h with⟨rfl,_⟩|⟨c,rfl,h1,_⟩
 ·omega
 ·exact⟨c,rfl,h1⟩
theorem m_.iN{up:List Int}{ps:List Nat}{c p z:Nat}(h:m_ up ps c)(hp:Pr up p)(hm:pq up c p z):m_ up (ps++[p]) z:=by
 rcases h with⟨h,_⟩|⟨c',e,h1,⟨q,hq,IL⟩,h3⟩
 ·omega
 ·have:c=c':=ag
  subst this;refine .inr ⟨z,rfl,hm.1,⟨q,cC _ hq,IL⟩,λy=>(hm.2 y).trans ⟨λ⟨ha,hb⟩ q hq IL=>?_,λh=>⟨(h3 y).2 λq hq=>h q (cC _ hq),h p aH hp⟩⟩⟩;rcases bL.1 hq with hq|hq
  ·exact(h3 y).1 ha q hq IL
  ·rw[bU.1 hq];exact hb
theorem Inv.step{bl:List ar}{l:List Nat}{up:List Int}{k b z:Nat}(cW:cL bl)(h0:0<bl.length)(ho:Ord bl l)(h:Inv bl l up k)(hk:0<k)(hb:l[k]?=some b)(hz:Pr up z)
  (cP:∀y,qS up y z↔∀p,Edge bl p b->Pr up p->qS up y p):
  Inv bl l (up.set b (z:Int)) (k+1)/\(∀c:Nat,up[b]?=some (c:Int)->c≠z->rk l z<rk l c)/\(∀v,Pr (up.set b (z:Int)) v↔(Pr up v∨v=b)):=by
 have Km:rk l b=k:=vX ho.nodup hb;have iR:b∈l:=aA hb;have ve:b≠0:=λe=>by subst e;have:=oT ho;omega
 have bT:b<up.length:=by rw[h.len];exact cW.BC h0 ((ho.mem b).1 iR)
 have eH:∀v,v≠b->(up.set b (z:Int))[v]?=up[v]?:=λv hv=>by rw[dQ,if_neg (Ne.symm hv)]
 have R0:(up.set b (z:Int))[b]?=some (z:Int):=by rw[dQ,if_pos rfl,if_pos bT]
 have wU:∀v,Pr (up.set b (z:Int)) v↔(Pr up v∨v=b):=λv=>by
  by_cases e:v=b
  ·subst e;exact⟨λ_=>.inr rfl,λ_=>⟨z,R0⟩⟩
  ·unfold Pr;rw[eH v e]
   exact⟨.inl,λh=>h.resolve_right e⟩
 obtain⟨q,hq,hqk,R6⟩:∃q,q∈l/\rk l q<k/\Edge bl q b:=by
  obtain⟨j,q,hj,IJ,R6⟩:=ho.ahead k b hb ve;exact⟨q,aA IJ,by rw[vX ho.nodup IJ];exact hj,R6⟩
 have IL:Pr up q:=h.G4 q hq hqk;have hzq:qS up z q:=(cP z).1 .refl q R6 IL;have hrz:rk l z<k:=by have:=h.Ae hzq;omega
 have hold:∀c:Nat,up[b]?=some (c:Int)->qS up z c:=by
  intro c hc;have adM:=h.low b c ve hc z ((cP z).1 .refl);have hv:=h.val b c hc
  by_cases e:z=c
  ·subst e;exact .refl
  have bT:rk l z<rk l c:=nU adM λe'=>e (pQ (h.qN hz) hv.2.1 e');have key:∀v,JN bl l c v->v∈l->rk l v<k->qS up z v->qS up z c:=by
   intro v hf
   induction hf with
   |refl=>exact λ_ _ h=>h
   |@step x y hx he hr ih=>
    intro hy Yr hzy;have Dd:y≠0:=λe=>by subst e;have:=oT ho;omega
    have r8:x∈l:=by
     rw[ho.mem];have Tc:=(ho.mem c).1 hv.2.1;clear ih hzy hy Yr hr he Dd
     induction hx with
     |refl=>exact Tc
     |step _ he _ ih=>exact ih.step he ag
    rcases h.done y hy Dd Yr x he r8 hr z hzy with e'|h2
    ·subst e';have:=hx.le;omega
    ·exact ih r8 ag h2
  have hf:=h.Z1 b c ve hc;cases hf with
  |refl=>have:=(hv.2.2 ve).1;omega
  |@step x _ hx he hr=>
   have r8:x∈l:=by
    rw[ho.mem];have Tc:=(ho.mem c).1 hv.2.1;clear hr he
    induction hx with
    |refl=>exact Tc
    |step _ he _ ih=>exact ih.step he ag
   exact key x hx r8 ag ((cP z).1 .refl x he (h.G4 x r8 ag))
 have shrink:∀y v,Pr up v->qS (up.set b (z:Int)) y v->qS up y v:=by
  intro y v hv TL
  induction TL with
  |refl=>exact .refl
  |@up v c xY he _ ih=>
   by_cases e:v=b
   ·subst e
    rw[R0]at he;have e':c=z:=by have:=be he;omega
    subst e';obtain⟨c0,Gc⟩:=hv;exact .up xY Gc ((ih hz).trans (hold c0 Gc))
   ·rw[eH v e]at he
    exact .up xY he (ih ((h.val v c he).2.2 xY).2)
 have below:∀y v,rk l v<k->qS up y v->qS (up.set b (z:Int)) y v:=by
  intro y v hv TL
  induction TL with
  |refl=>exact .refl
  |@up v c xY he _ ih=>
   have e:v≠b:=λe=>by subst e;omega
   exact .up xY (by rw[eH v e];exact he) (ih (by have:=((h.val v c he).2.2 xY).1;omega))
 have Gv:∀y,qS (up.set b (z:Int)) y b->y=b∨qS up y z:=by
  intro y hy;cases hy with
  |refl=>exact .inl rfl
  |@up _ c _ he h2=>
   rw[R0]at he;have e':c=z:=by have:=be he;omega
   subst e';exact .inr (shrink y c hz h2)
 refine⟨⟨by rw[eA];exact h.len,by rw[eH 0 (Ne.symm ve)];exact h.zero,?_,?_,?_,?_,?_,?_,?_,?_⟩,?_,wU⟩
 ·intro v c hc
  by_cases e:v=b
  ·subst e
   rw[R0]at hc;have e':c=z:=by have:=be hc;omega
   subst e';exact⟨iR,h.qN hz,λ_=>⟨ag,(wU c).2 (.inl hz)⟩⟩
  ·rw[eH v e]at hc
   have:=h.val v c hc;exact⟨this.1,this.2.1,λhv=>⟨(this.2.2 hv).1,(wU c).2 (.inl (this.2.2 hv).2)⟩⟩
 ·intro v y hy
  by_cases e:v=b
  ·subst e
   rw[R0]at hy;have:y=(z:Int):=by simpa using hy.symm
   omega
  ·rw[eH v e]at hy;exact h.neg v y hy
 ·intro v c hv hc
  by_cases e:v=b
  ·subst e
   rw[R0]at hc;have e':c=z:=by have:=be hc;omega
   subst e';exact(h.Ss hzq).step R6 ag
  ·rw[eH v e]at hc;exact h.Z1 v c hv hc
 ·intro v c hv hc y hy
  by_cases e:v=b
  ·subst e
   rw[R0]at hc;have e':c=z:=by have:=be hc;omega
   subst e';exact h.Ae ((cP y).2 λp he hp=>shrink y p hp (hy p he ((wU p).2 (.inl hp))))
  ·rw[eH v e]at hc
   exact h.low v c hv hc y λp he hp=>shrink y p hp (hy p he ((wU p).2 (.inl hp)))
 ·
  have hbz:∀a,ku bl a b->a=b∨qS up a z:=by
   intro a ha
   by_cases e:a=b
   ·exact .inl e
   ·exact .inr ((cP a).2 λp he hp=>h.sound p a hp (ha.FG e he ((ho.mem p).1 (h.qN hp))))
  have aaz:∀a,ku bl a b->qS (up.set b (z:Int)) a b:=by
   intro a ha;rcases hbz a ha with e|e
   ·subst e;exact .refl
   ·exact .up ve R0 (below a z hrz e)
  intro v a hv ha;rcases(wU v).1 hv with hv|e
  ·have B9:=h.sound v a hv ha
   clear hv
   induction B9 with
   |refl=>exact .refl
   |@up v c xY he WN ih=>
    by_cases e:v=b
    ·subst e;exact aaz a ha
    ·refine .up xY (by rw[eH v e];exact he) ?_
     by_cases e':a=c
     ·subst e';exact .refl
     ·have Yj:=h.val v c he
      have bT:rk l a<rk l c:=nU (h.Ae WN) λe2=>e' (pQ ((ho.mem a).2 ha.1) Yj.2.1 e2);have hd:=(h.Z1 v c xY he).dom bT ((ho.mem c).1 Yj.2.1) ha;exact ih ((wU c).2 (.inl (Yj.2.2 xY).2)) hd
  ·subst e;exact aaz a ha
 ·intro v hv hvk
  by_cases e:v=b
  ·exact(wU v).2 (.inr e)
  ·exact(wU v).2 (.inl (h.G4 v hv (nU ag λe'=>e (pQ hv iR ag))))
 ·rcases h.phase with h1|h1
  ·exact .inl λv hv=>(wU v).2 (.inl (h1 v hv))
  ·refine .inr λv hv=>?_
   rcases(wU v).1 hv with hv|e
   ·have:=h1 v hv;omega
   ·subst e;omega
 ·intro v hv xY hvk p he hp hr y hy
  by_cases e:v=b
  ·subst e
   rcases Gv y hy with e'|h2
   ·exact .inl e'
   ·exact .inr (below y p ag ((cP y).1 h2 p he (h.G4 p hp ag)))
  ·have abP:rk l v<k:=nU ag λe'=>e (pQ hv iR ag)
   rcases h.done v hv xY abP p he hp hr y (shrink y v (h.G4 v hv abP) hy)with e'|h2
   ·exact .inl e'
   ·exact .inr (below y p ag h2)
 ·intro c hc hcz
  have WN:=hold c hc;exact nU (h.Ae WN) λe'=>hcz (pQ (h.qN hz) (h.val b c hc).2.1 e').symm
theorem Mr{bl:List ar}{l:List Nat}(h0:0<bl.length)(ho:Ord bl l):Inv bl l ((List.replicate bl.length (-1)).set 0 0) 1:=by
 have hg:∀(b:Nat) (z:Int),((List.replicate bl.length (-1:Int)).set 0 0)[b]?=some z->(b=0/\z=0)∨z=-1:=by
  intro b z h;rw[dQ]at h
  split at h
  ·rename_i e
   split at h
   ·exact .inl ⟨e.symm,(be h).symm⟩
   ·cases h
  ·rw[h_]at h
   split at h
   ·exact .inr (be h).symm
   ·cases h
 have hp:∀b c:Nat,((List.replicate bl.length (-1:Int)).set 0 0)[b]?=some (c:Int)->b=0/\c=0:=by
  intro b c h;rcases hg b c h with⟨h1,h2⟩|h2<;>omega
 have hz:((List.replicate bl.length (-1:Int)).set 0 0)[0]?=some 0:=by simp[h0]
 have h0l:0∈l:=aA ho.zero;refine⟨by simp,hz,λb c h=>?_,λb z h=>?_,λb c hb h=>absurd (hp b c h).1 hb,λb c hb h=>absurd (hp b c h).1 hb,λb a ⟨c,h⟩ ha=>?_,λb hb hr=>?_,.inr λb ⟨c,h⟩=>?_,λv hv xY hr=>?_⟩
 ·obtain⟨rfl,rfl⟩:=hp b c h
  exact⟨h0l,h0l,λh=>absurd rfl h⟩
 ·rcases hg b z h with⟨_,h⟩|h<;>omega
 ·obtain⟨rfl,rfl⟩:=hp b c h
  rcases ha.2.2 with e|e|e
  ·subst e;exact .refl
  ·subst e;exact .refl
  ·exact absurd .refl e
 ·have e:b=0:=pQ hb h0l (by have:=oT ho;omega)
  subst e;exact⟨0,hz⟩
 ·have:=(hp b c h).1
  subst this;have:=oT ho;omega
 ·exact absurd (pQ hv h0l (by have:=oT ho;omega)) xY
theorem Inv.again{bl:List ar}{l:List Nat}{up:List Int}(ho:Ord bl l)(h:Inv bl l up l.length):Inv bl l up 1:=by
 have cP:∀b∈l,Pr up b:=λb hb=>h.G4 b hb (tY.2 hb);exact⟨h.len,h.zero,h.val,h.neg,h.Z1,h.low,h.sound,λb hb _=>cP b hb,.inl cP,λv hv xY hr=>absurd (pQ hv (aA ho.zero) (by have:=oT ho;omega)) xY⟩
def Full(bl:List ar)(up:List Int)(v:Nat):Prop:=∀p,Edge bl p v->Pr up p->∀y,qS up y v->y=v∨qS up y p
theorem Inv.full{bl:List ar}{l:List Nat}{up:List Int}{k b z:Nat}(_h:Inv bl l up k)(_hb0:b≠0)(hc:up[b]?=some (z:Int))(cP:∀y,qS up y z↔∀p,Edge bl p b->Pr up p->qS up y p):Full bl up b:=by
 intro p he hp y hy;cases hy with
 |refl=>exact .inl rfl
 |@up _ c _ Tc h2=>
  rw[hc]at Tc;have e:z=c:=by have:=be Tc;omega
  subst e;exact .inr ((cP y).1 h2 p he hp)
def wg(l:List Nat)(n:Nat)(z:Int):Nat:=if z<0 then n else rk l z.toNat
def zE(l:List Nat)(n:Nat)(up:List Int):Nat:=(up.map (wg l n)).sum
theorem K1:∀(l:List Nat) (i x y:Nat),l[i]?=some x->(l.set i y).sum+x=l.sum+y
 |[],i,x,y,h=>by simp at h
 |a::l,0,x,y,h=>by simp at h⊢;omega
 |a::l,i+1,x,y,h=>by
  have:=K1 l i x y (by simpa using h);simp only[cn,et];omega
theorem Qk{l:List Nat}{n:Nat}{up:List Int}{b:Nat}{x z:Int}(hb:up[b]?=some x)(h:wg l n z<wg l n x):zE l n (up.set b z)<zE l n up:=by
 unfold zE;rw[eh];have:=K1 (up.map (wg l n)) b (wg l n x) (wg l n z) (by rw[aK,hb];rfl);omega
theorem Inv.ZZ{bl:List ar}{l:List Nat}{up:List Int}{k b z:Nat}{x:Int}(h:Inv bl l up k)(hz:Pr up z)(hb:up[b]?=some x)(eH:x≠(z:Int))(hold:∀c:Nat,up[b]?=some (c:Int)->c≠z->rk l z<rk l c):zE l l.length (up.set b (z:Int))<zE l l.length up:=by
 refine Qk hb ?_;have IS:rk l z<l.length:=tY.2 (h.qN hz);unfold wg;rw[if_neg ag];rcases h.neg b x hb with e|e
 ·rw[if_pos ag];simpa using IS
 ·rw[if_neg ag]
  obtain⟨c,rfl⟩:∃c:Nat,x=c:=⟨x.toNat,ag⟩;simpa using hold c hb ag
theorem Inv.tree{bl:List ar}{l:List Nat}{up:List Int}(ho:Ord bl l)(h:Inv bl l up l.length)(aaP:∀v∈l,v≠0->Full bl up v):
  up.set 0 (-1)=(List.range bl.length).map (cR bl):=by
 have cP:∀b∈l,Pr up b:=λb hb=>h.G4 b hb (tY.2 hb);have F6:∀a b,b∈l->qS up a b->ku bl a b:=by
  intro a b hb OF;refine H_ (D:=λa b=>qS up a b) (λa ha=>?_) (λa b p ve OF hp he=>?_) ((ho.mem a).1 (h.qN (h.V_ OF (cP b hb)))) ((ho.mem b).1 hb) OF
  ·cases ha with
   |refl=>rfl
   |up h0=>exact absurd rfl h0
  ·have E4:=(ho.mem p).2 hp
   have iR:b∈l:=(ho.mem b).2 (hp.step he ag);exact aaP b iR ve p he (cP p E4) a OF
 apply cf;intro b
 by_cases hb:b<bl.length
 ·have LZ:b<up.length:=by rw[h.len];exact hb
  rw[aK,eQ hb,bz]
  by_cases ve:b=0
  ·subst ve
   rw[dQ,if_pos rfl,if_pos LZ,fS];intro c hc;refine hc.2.1 ?_;rcases hc.1.2.2 with e|e|e
   ·exact e
   ·exact e
   ·exact absurd .refl e
  ·rw[dQ,if_neg (Ne.symm ve)]
   by_cases iR:b∈l
   ·obtain⟨c,hc⟩:=cP b iR
    have hv:=h.val b c hc;rw[hc,gZ (c:=c)];refine⟨F6 c b iR (.up ve hc .refl),λe=>by subst e;have:=(hv.2.2 ve).1;omega,λa ha OF=>?_⟩;have hx:=h.sound b a (cP b iR) ha;cases hx with
    |refl=>exact absurd rfl OF
    |@up _ c' _ Tc h2=>
     rw[hc]at Tc;have e:c=c':=by have:=be Tc;omega
     subst e;exact F6 a c hv.2.1 h2
   ·rw[fS λc hc=>iR ((ho.mem b).2 hc.1.2.1)]
    obtain⟨z,hz⟩:∃z,up[b]?=some z:=⟨_,aB LZ⟩;rw[hz];rcases h.neg b z hz with e|e
    ·rw[e]
    ·exact absurd (h.val b z.toNat (by rw[hz];congr 1;omega)).1 iR
 ·rw[bM (by rw[eA,h.len];omega),bM (by simp;omega)]
theorem ku.trans{bl:List ar}{a c b:Nat}(h:ku bl a c)(k:ku bl c b):ku bl a b:=by
 by_cases eac:a=c
 ·subst eac;exact k
 by_cases ZV:c=b
 ·subst ZV;exact h
 refine⟨h.1,k.2.1,?_⟩
 by_cases ea:a=0
 ·exact .inr (.inl ea)
 refine .inr (.inr λhr=>?_);have ec:c≠0:=λe=>by
  subst e;rcases h.2.2 with e|e|e
  ·exact eac e
  ·exact ea e
  ·exact e .refl
 have h1:¬gD bl a 0 c:=(h.2.2.resolve_left eac).resolve_left ea;have h2:¬gD bl c 0 b:=(k.2.2.resolve_left ZV).resolve_left ec;have key:∀x,gD bl a 0 x->gD bl c 0 x∨gD bl a 0 c:=by
  intro x hx
  induction hx with
  |refl=>exact .inl .refl
  |@step x y HF he hw ih=>
   rcases ih with ih|ih
   ·by_cases e:y=c
    ·subst e;exact .inr (HF.step he hw)
    ·exact .inl (ih.step he ag)
   ·exact .inr ih
 rcases key b hr with h|h
 ·exact h2 h
 ·exact h1 h
theorem ku.chain{bl:List ar}{a c b:Nat}(h:ku bl a b)(k:ku bl c b):ku bl a c∨ku bl c a:=by
 by_cases eab:a=b
 ·subst eab;exact .inr k
 by_cases ZV:c=b
 ·subst ZV;exact .inl h
 by_cases ea:a=0
 ·exact .inl ⟨h.1,k.1,.inr (.inl ea)⟩
 by_cases ec:c=0
 ·exact .inr ⟨k.1,h.1,.inr (.inl ec)⟩
 by_cases e1:gD bl a 0 c
 ·by_cases e2:gD bl c 0 a
  ·exfalso
   have h1:¬gD bl a 0 b:=(h.2.2.resolve_left eab).resolve_left ea;have h2:¬gD bl c 0 b:=(k.2.2.resolve_left ZV).resolve_left ec;have key:∀x,gD bl (-1) 0 x->(gD bl a 0 x/\gD bl c 0 x)∨gD bl c a x∨gD bl a c x:=by
    intro x hx
    induction hx with
    |refl=>exact .inl ⟨.refl,.refl⟩
    |@step x y _ he _ ih=>
     by_cases ya:y=a
     ·subst ya;exact .inr (.inl .refl)
     by_cases yc:y=c
     ·subst yc;exact .inr (.inr .refl)
     rcases ih with⟨g1,g2⟩|g|g
     ·exact .inl ⟨g1.step he ag,g2.step he ag⟩
     ·exact .inr (.inl (g.step he ag))
     ·exact .inr (.inr (g.step he ag))
   rcases key b h.2.1 with⟨g,_⟩|g|g
   ·exact h1 g
   ·exact h2 (e2.trans g)
   ·exact h1 (e1.trans g)
  ·exact .inr ⟨k.1,h.1,.inr (.inr e2)⟩
 ·exact .inl ⟨h.1,k.1,.inr (.inr e1)⟩
theorem s9{bl:List ar}{a:Nat}(h:ku bl a 0):a=0:=by
 rcases h.2.2 with e|e|e
 ·exact e
 ·exact e
 ·exact absurd .refl e
theorem uq{bl:List ar}{b:Nat}(cW:cL bl)(h0:0<bl.length)(hb:gD bl (-1) 0 b)(ve:b≠0):∃c,jX bl c b:=by
 have key:∀m,(∀c,c<m->c≠b->¬ku bl c b)∨∃x,x<m/\x≠b/\ku bl x b/\∀c,c<m->c≠b->ku bl c b->ku bl c x:=by
  intro m
  induction m with
  |zero=>exact .inl λc hc=>ag
  |succ m ih=>
   by_cases hm:m≠b/\ku bl m b
   ·rcases ih with ih|⟨x,hx,zC,hd,cP⟩
    ·refine .inr ⟨m,ag,hm.1,hm.2,λc hc Cm AM=>?_⟩
     by_cases e:c=m
     ·subst e;exact .refl AM.1
     ·exact absurd AM (ih c ag Cm)
    ·rcases hd.chain hm.2 with g|g
     ·refine .inr ⟨m,ag,hm.1,hm.2,λc hc Cm AM=>?_⟩
      by_cases e:c=m
      ·subst e;exact .refl AM.1
      ·exact(cP c ag Cm AM).trans g
     ·refine .inr ⟨x,ag,zC,hd,λc hc Cm AM=>?_⟩
      by_cases e:c=m
      ·subst e;exact g
      ·exact cP c ag Cm AM
   ·have qu:∀c,c<m+1->c≠b->ku bl c b->c<m:=λc hc Cm AM=>by
     have:c≠m:=λe=>by subst e;exact hm ⟨Cm,AM⟩
     omega
    rcases ih with ih|⟨x,hx,zC,hd,cP⟩
    ·exact .inl λc hc Cm AM=>ih c (qu c hc Cm AM) Cm AM
    ·exact .inr ⟨x,ag,zC,hd,λc hc Cm AM=>cP c (qu c hc Cm AM) Cm AM⟩
 rcases key bl.length with h|⟨x,_,zC,hd,cP⟩
 ·exact absurd ⟨.refl,hb,.inr (.inl rfl)⟩ (h 0 h0 (Ne.symm ve))
 ·exact⟨x,hd,zC,λa ha OF=>cP a (cW.BC h0 ha.1) OF ha⟩
theorem jX.iff{bl:List ar}{a b c:Nat}(h:jX bl c b):ku bl a b↔(ku bl a c∨a=b):=by
 refine⟨λha=>?_,λha=>ha.elim (λh1=>h1.trans h.1) λe=>by subst e;exact .refl h.1.2.1⟩
 by_cases e:a=b
 ·exact .inr e
 ·exact .inl (h.2.2 a ha e)
open Classical in
noncomputable def s8(bl:List ar)(b n:Nat):List Nat:=(List.range n).filter λc=>decide (ku bl c b)
open Classical in
theorem CQ(bl:List ar)(b n:Nat):(s8 bl b n).length=kB (λc=>ku bl c b) n:=rfl
theorem tm{bl:List ar}(cW:cL bl)(h0:0<bl.length){b c:Nat}(h:jX bl c b):(s8 bl c bl.length).length+1=(s8 bl b bl.length).length:=by
 classical
 have hb:=cW.BC h0 h.1.2.1;rw[CQ,CQ];exact(JS (b:=b) (λhd=>h.2.1 (h.1.antisymm hd)) hb λa _=>h.iff).symm
theorem CR{bl:List ar}{b n c:Nat}:c∈s8 bl b n↔(c<n/\ku bl c b):=by
 classical
 unfold s8;simp
class NM(P:Program)(S T:Nat)(q:outParam IntKind):Prop where
 src:(P.underlying S).isSome=true
 dst:P.underlying T=some (.int (P.intKind T))
 kind:P.intKind T=q
class NN(lo n c:Nat):Prop where
 le:lo<=n
 lt:lo<c
class CI(hi c:Nat):Prop where
 le:hi<=c
section
variable {P:Program} {ro:Option Nat} {N:Nat} {ds:List Deferred} {S:Nat->Prop} {w0:World} {L:List (Nat×Value)} {H H1 H2:List bN} {ops:Array Oper} {rest:List Oper} {Q:Exit->Act->World->Prop} {p:Act->World->Prop} {x y:Operand}
theorem rX{d ty A B:Nat}{k q:IntKind}{n:Int}{pos:String}{aft:Array Go.Edge}[hx:Ev L x (.int k n)][h:NM P A B q](hd:dj d N L=true)(hw:q.wrap n=n)
  (kk:G N ds S w0 ((d,.int q n)::L) H (wpListIn (FW ro) 0 P ops Q rest)):G N ds S w0 L H (wpListIn (FW ro) 0 P ops Q (⟨some d,.convert A B x,ty,pos,aft,none⟩::rest)):=
 λa w hS=>eG (v:=.int q n) (w':=w) rfl (λ_ h=>by cases h) (by simp[execOp,hx.eq _ _ _ hS.fr,run_convert_int w A B k n h.src h.dst,h.kind,hw]) (kk _ _ ⟨hS.fr.dP hd _,hS.wd⟩)
instance{T b o n c s lo:Nat}[hx:Ev L x (.slice (some ⟨b,o,none⟩) n c)][hl:Ev L y (.int .i64 (lo:Int))][h:ep P T s][hc:NN lo n c]:dz P N ds S w0 L H (.slice T x (some y) none none) (.slice (some ⟨b,o+lo*s,none⟩) (n-lo) (c-lo)):=
 ⟨λ_ h=>(by cases h),λ_ _ h=>(by cases h),λ_ _ _ _ _ a w hF _=>by
  have hr:=run_slice_l (P:=P) w T (some ⟨b,o,none⟩) n c h.oI .i64 lo ag (by have:=hc.le;omega)
  have eH:¬c=lo:=by have:=hc.lt;omega
  simp[execOp,hx.eq _ _ _ hF,hl.eq _ _ _ hF,run_sliceAt_slice (P:=P) w T _ _ _ _ h.oI,hr,h.sz,sliced,eH,Addr.add_lit]⟩
instance{T n c s hi:Nat}{ad:Option Addr}[hx:Ev L x (.slice ad n c)][hl:Ev L y (.int .i64 (hi:Int))][h:ep P T s][hc:CI hi c]:dz P N ds S w0 L H (.slice T x none (some y) none) (.slice ad hi c):=
 ⟨λ_ h=>(by cases h),λ_ _ h=>(by cases h),λ_ _ _ _ _ a w hF _=>by
  have hr:=run_slice_h (P:=P) w T ad n c h.oI .i64 hi ag (by have:=hc.le;omega)
  have hz:(if c=0 then ad else ad.map λq=>q.add (0*s))=ad:=by
   by_cases h0:c=0
   ·rw[if_pos h0]
   ·rw[if_neg h0];cases ad<;>simp[Addr.add]
  simp only[Nat.zero_mul]at hz
  simp[execOp,hx.eq _ _ _ hF,hl.eq _ _ _ hF,run_sliceAt_slice (P:=P) w T _ _ _ _ h.oI,hr,h.sz,sliced,hz]⟩
theorem CZ{d ty T s n c:Nat}{ad:Option Addr}{pos:String}{aft:Array Go.Edge}[hx:Ev L x (.slice ad n c)][h:ep P T s](hd:dj d N L=true)(hn:0<n)
  (kk:∀a',(∀b o,1<c->ad=some ⟨b,o,none⟩->a'=some ⟨b,o+s,none⟩)->G N ds S w0 ((d,.slice a' (n-1) (c-1))::L) H (wpListIn (FW ro) 0 P ops Q rest)):G N ds S w0 L H (wpListIn (FW ro) 0 P ops Q (⟨some d,.slice T x (some (.const (.int .i64 1))) none none,ty,pos,aft,none⟩::rest)):=λa w hS=>by
 have hr:=run_slice_l (P:=P) w T ad n c h.oI .i64 1 ag ag;have ec:a.eval (.const (.int .i64 1))=.int .i64 1:=rfl;refine eG (v:=.slice (if c=1 then ad else ad.map (·.add s)) (n-1) (c-1)) (w':=w) rfl (λ_ h=>by cases h) ?_ ?_
 ·simp[execOp,hx.eq _ _ _ hS.fr,ec,run_sliceAt_slice (P:=P) w T _ _ _ _ h.oI,hr,h.sz,sliced]
 ·refine kk _ (λb o h1 e=>?_) _ _ ⟨hS.fr.dP hd _,hS.wd⟩
  subst e;rw[if_neg ag];simp[Addr.add_lit]
theorem D8{d ty dT sT e jZ b o off n c dl dc sl sc sb so:Nat}{z:Value}(k:Nat){xs:List Value}(cs:List Value){pos:String}{aft:Array Go.Edge}[h:cB P dT e 1 jZ [z]][hx:Ev L x (.slice (some ⟨b,o+off,none⟩) dl dc)][hy:Ev L y (.slice (some ⟨sb,so,none⟩) sl sc)]
  (hk:H[k]?=some (ai (some ⟨b,o,none⟩) n c e 1 xs)) (hd:dj d N L=true) (hn:cs.length=min sl dl) (r5:∀w,Wd S w0 H w->∀j v,cs[j]?=some v->w.cell? ⟨sb,so+j,none⟩=some v) (fW:off+cs.length<=xs.length) (h1:∀v∈cs,v.oneCell'=true)
  (kk:G N ds S w0 ((d,.int .i64 cs.length)::L) (H.set k (ai (some ⟨b,o,none⟩) n c e 1 (xs.take off++cs++xs.drop (off+cs.length)))) (wpListIn (FW ro) 0 P ops Q rest)):G N ds S w0 L H (wpListIn (FW ro) 0 P ops Q (⟨some d,.call {callee:=.builtin .copy,args:=#[x,y],argTypes:=#[dT,sT]},ty,pos,aft,none⟩::rest)):=λa w hS=>by
 obtain⟨hl,pE,zS,pre,sp,rfl,Eo,hb⟩:=hS.wd.km hk;obtain⟨i,zz,hi,_,_,Tj,_⟩:=h.get;have bT:b<w.heap.size:=(fI.1 hb).1;have hr:=run_copy_row (P:=P) w dT sT ty e b (pre.length+off) dl dc ⟨sb,so,none⟩ sl sc _ e cs h.oI (by rw[hi];simp[Tj]) hb hn (λj v hj=>by rw[Addr.add_lit];exact r5 w hS.wd j v hj) (by simp;omega) h1;have fK:(pre++xs++sp).take (pre.length+off)++cs++(pre++xs++sp).drop (pre.length+off+cs.length)=pre++(xs.take off++cs++xs.drop (off+cs.length))++sp:=by
  rw[dE pre xs sp,qW,dA,tX,jY ag,wA ag];simp
 simp only at hr;rw[fK]at hr;refine eG (v:=.int .i64 cs.length) (w':=w.setRow b (pre++(xs.take off++cs++xs.drop (off+cs.length))++sp).toArray) rfl (λ_ h=>by cases h) ?_ ?_
 ·simp[execOp,resolve,invoke,builtin,hx.eq _ _ _ hS.fr,hy.eq _ _ _ hS.fr,hr,goInt]
 ·refine kk _ _ ⟨hS.fr.dP hd _,?_⟩
  have oj:∀q:Array Value,(w.setRow b q).heap.size=w.heap.size:=λq=>by simp[World.setRow]
  refine hS.wd.kf hk ⟨rfl,rfl,rfl,by rw[oj];exact bH _,λj _ hj=>setRow_other w b j _ λe'=>hj (by simp[ai,e'])⟩ (λb' mL=>?_) λw2 jl=>?_
  ·simp only[ai,bz,bW]at mL⊢
   subst mL;exact⟨.inl rfl,by rw[oj];exact bT⟩
  ·have:=jl b (by simp[ai])
   refine⟨?_,.inr ⟨b,pre,sp,rfl,pE,zS,Eo,?_⟩⟩
   ·simp only[bR,cU,ez];omega
   ·rw[this]
    exact setRow_heap w b _ _ e _ hb
end
theorem aM.known{α:Type}{w:World}{b o n c s:Nat}{l:List α}{V:World->α->List Value->Prop}(h:aM w (.slice (some ⟨b,o,none⟩) n c) s l V):∀(i:Nat) x,l[i]?=some x->∃cs,bG w b (o+i*s) cs/\V w x cs:=by
 intro i x hx;obtain⟨a,_,_,b',o',e,_,_,_,_,ha,iK⟩:=h;simp only[Value.slice.injEq]at e;obtain⟨rfl,_,_⟩:=e;have:=ha (List.ne_nil_of_mem (aA hx));simp only[bW,Addr.mk.injEq,and_true]at this;obtain⟨rfl,rfl⟩:=this;exact iK i x hx
theorem aM.at{α:Type}{w:World}{a:Option Addr}{n c s:Nat}{l:List α}{V:World->α->List Value->Prop}(h:aM w (.slice a n c) s l V):n=l.length/\n<=c/\n<=140737488355328/\∃b o,(l≠[]->a=some ⟨b,o,none⟩)/\∀(i:Nat) x,l[i]?=some x->∃cs,bG w b (o+i*s) cs/\V w x cs:=by
 obtain⟨_,_,_,b,o,e,h1,h2,h3,_,ha,iK⟩:=h;simp only[Value.slice.injEq]at e;obtain⟨rfl,rfl,rfl⟩:=e;exact⟨h1,h2,h3,b,o,ha,iK⟩
open Classical in
noncomputable def bX(S:Nat->Prop)(w:World):World:={w with heap:=Array.ofFn (n:=w.heap.size) λi=>if S i.1 then .deferred (some [])else w.heap[i.1]}
theorem j6(S:Nat->Prop)(w:World):(bX S w).heap.size=w.heap.size:=by simp[bX]
theorem jg{S:Nat->Prop}(w:World){b:Nat}(h:¬S b):(bX S w).heap[b]?=w.heap[b]?:=by
 unfold bX
 by_cases hb:b<w.heap.size
 ·simp[hb,h]
 ·rw[vp (by simpa using hb),vp ag]
theorem Mz{S:Nat->Prop}(w:World){p:Addr}(h:S p.block):(bX S w).cell? p=none:=by
 unfold bX World.cell?
 by_cases hb:p.block<w.heap.size
 ·simp[hb,h]
 ·rw[vp (by simpa using hb)]
theorem lU{S:Nat->Prop}{w:World}{p:Addr}{v:Value}(h:(bX S w).cell? p=some v):¬S p.block/\w.cell? p=some v:=by
 have hn:¬S p.block:=λhs=>by rw[Mz w hs]at h;cases h
 exact⟨hn,by rw[<-h];exact(World.cell?_of_block (jg w hn)).symm⟩
theorem Qb(S:Nat->Prop)(w:World):lL S (bX S w) w:=⟨rfl,rfl,rfl,by rw[j6];exact bH _,λk _ hk=>(jg w hk).symm⟩
section
variable {P:Program} {N:Nat} {ds:List Deferred} {S:Nat->Prop} {w0 w w':World} {L:List (Nat×Value)} {H H1 H2 E:List bN} {p:Act->World->Prop}
theorem Wd.beside(h:Wd S w0 (H1++H2) w){e:bN}(he:e∈H2):e.ok (bX (cF H1) w):=by
 refine h.ok e (dt _ he) _ (by rw[j6];exact bH _) λb hb=>jg w λ⟨f,hf,wj⟩=>?_;exact(nO.1 h.apart).2.2 f hf e he b wj hb
theorem Wd.jN(h:Wd S w0 (H1++H2) w):Wd (λ_=>True) (bX (cF H1) w) H2 (bX (cF H1) w):=by
 have hk:∀e∈H2,∀b,e.fp b->¬cF H1 b:=λe he b hb ⟨f,hf,wj⟩=>(nO.1 h.apart).2.2 f hf e he b wj hb;refine⟨lL.refl _ _,λe he b hb=>⟨.inl trivial,by rw[j6];exact(h.own e (dt _ he) b hb).2⟩,λe he w' hs hw=>?_,(nO.1 h.apart).2.1⟩;exact h.ok e (dt _ he) w' (by rwa[j6]at hs) λb hb=>(hw b hb).trans (jg w (hk e he b hb))
theorem Wd.TR(h:Wd dh w0 (H1++H2) w):lL dh w0 (bX (cF H1) w):=by
 refine⟨h.cE.os,h.cE.tape,h.cE.output,by rw[j6];exact h.size,λk hk _=>(jg w λ⟨e,he,hb⟩=>?_).trans (h.cE.block k hk λh=>h)⟩;have:=(h.own e (cC _ he) k hb).1;exact this.elim (λh=>h) λh=>by omega
theorem Wd.Ui(h:Wd S w0 (H1++H2) w):Wd (cF H1) (bX (cF H1) w) H1 w:=
 ⟨Qb _ _,λe he b hb=>⟨.inl ⟨e,he,hb⟩,(h.own e (cC _ he) b hb).2⟩,λe he=>h.ok e (cC _ he),(nO.1 h.apart).1⟩
theorem Wd.mG{T:Nat->Prop}(h:Wd T (bX T w) E w'):Wd T w E w':=
 ⟨⟨h.cE.os,h.cE.tape,h.cE.output,by have:=h.cE.size;rwa[j6]at this,λk hk hT=>(h.cE.block k (by rw[j6];exact hk) hT).trans (jg w hT)⟩,λe he b hb=>by have:=h.own e he b hb;rwa[j6]at this,h.ok,h.apart⟩
theorem Wd.pH{T:Nat->Prop}(h:Wd T (bX T w) E w'):∀p v,(bX T w).cell? p=some v->w'.cell? p=some v:=λp v hc=>by
 have bT:=World.block_lt_of_cell? _ p hc;rw[<-hc];exact World.cell?_of_block (h.cE.block _ bT (lU hc).1)
theorem iu{T:Nat->Prop}{b o:Nat}{cs:List Value}(hc:bG (bX T w) b o cs)(eH:cs≠[]):eI T b:=by
 cases cs with
 |nil=>exact absurd rfl eH
 |cons c cs=>exact⟨(lU (hc 0 c rfl)).1⟩
theorem nQ(h:∀w,Wd S w0 (H1++H2) w->G N ds (cF H1) (bX (cF H1) w) L H1 p):G N ds S w0 L (H1++H2) p:=λa w hS=>h w hS.wd a w ⟨hS.fr,hS.wd.Ui⟩
end
end
section
open Go Go.RowKit Go.Lib
namespace Mul
theorem Qj(a:Nat)(ha:a<18446744073709551616):bits .and .u64 (a:Int) 4294967295=((a%4294967296:Nat):Int):=by
 have h:=bits_and_u64_nat a 4294967295 ha ag;have e:a&&& 4294967295=a%4294967296:=Nat.and_two_pow_sub_one_eq_mod a 32;rw[e]at h;exact h
theorem acu(a:Nat):(a:Int)/4294967296=((a/4294967296:Nat):Int):=by omega
theorem aeI(a b:Nat):(a:Int)*(b:Int)=((a*b:Nat):Int):=(Int.natCast_mul a b).symm
theorem acp(a b:Nat):(a:Int)+(b:Int)=((a+b:Nat):Int):=(Int.natCast_add a b).symm
theorem zi(a:Nat)(ha:a<18446744073709551616):IntKind.u64.wrap (a:Int)=(a:Int):=by rw[IntKind.wrap_u64];omega
theorem ack(a:Nat):IntKind.u64.wrap (a:Int)=((a%18446744073709551616:Nat):Int):=by rw[IntKind.wrap_u64];omega
end Mul
set_option maxHeartbeats 1000000 in
theorem T5(x y:Nat)(hx:x<18446744073709551616)(hy:y<18446744073709551616)(w:World):
  Calls Tryz.prog 161 #[.int .u64 x,.int .u64 y] w λe w'=>e=.returned (.tuple #[.int .u64 ((x*y/18446744073709551616:Nat):Int),.int .u64 ((x*y%18446744073709551616:Nat):Int)])/\w'=w:=by
 obtain⟨bd,bt,bw,hhi⟩:=Lib.mul64_hi x y hx hy;have ba:=Lib.half_mul_le (a:=x/4294967296) (b:=y/4294967296) ag ag;have bb:=Lib.half_mul_le (a:=x/4294967296) (b:=y%4294967296) ag ag;have bc:=Lib.half_mul_le (a:=x%4294967296) (b:=y/4294967296) ag ag;have ba':x/4294967296*(y/4294967296)<18446744073709551616:=ag;have bb':x/4294967296*(y%4294967296)<18446744073709551616:=ag;have bc':x%4294967296*(y/4294967296)<18446744073709551616:=ag;have bh1:x/4294967296*(y/4294967296)+(x/4294967296*(y%4294967296)+x%4294967296*(y%4294967296)/4294967296)/4294967296<18446744073709551616:=ag;have bh:x/4294967296*(y/4294967296)+(x/4294967296*(y%4294967296)+x%4294967296*(y%4294967296)/4294967296)/4294967296+((x/4294967296*(y%4294967296)+x%4294967296*(y%4294967296)/4294967296)%4294967296+x%4294967296*(y/4294967296))/4294967296<18446744073709551616:=ag
 go_enter Tryz.func161,Tryz.ntmps161
 go_wp2
 simp only[Mul.Qj x hx,Mul.Qj y hy,Mul.acu,Mul.aeI,Mul.acp,Mul.zi _ bd,Mul.zi _ bb',Mul.zi _ bt,Mul.Qj _ bt,Mul.zi _ bc',Mul.zi _ bw,Mul.zi _ ba',Mul.zi _ bh1,Mul.zi _ bh,Mul.ack (x*y)];rw[hhi]
 go_ret2
 exact⟨rfl,rfl⟩
instance:aS Tryz.prog 161:=⟨Tryz.call161⟩
instance:aS Tryz.prog 133:=⟨Tryz.call133⟩
attribute [local irreducible] wpListIn Code.wpIn Exit.then Exit.inBlock bodyPost wpQuiet wpAnyIn
theorem Qu(x y:Nat)(hx:x<18446744073709551616)(hy:y<18446744073709551616)(TK:x*y<18446744073709551616)(w:World):
  fi Tryz.prog 133 [.int .u64 x,.int .u64 y] w (.tuple #[.int .u64 0,.int .u64 ((x*y:Nat):Int)]):=by
 have h64:∀w:World,Calls Tryz.prog 161 #[.int .u64 x,.int .u64 y] w λe w'=>e=.returned (.tuple #[.int .u64 0,.int .u64 ((x*y:Nat):Int)])/\w'=w:=by
  intro w;have h:=T5 x y hx hy w;rw[Nat.div_eq_of_lt TK,Nat.mod_eq_of_lt TK]at h;exact h
 clear hx hy TK;refine aQ Tryz.func133 rfl Tryz.ntmps133 rfl (Wd.nil dh w) ?_;refine aO ?_;refine bI (u:=.tuple #[.int .u64 0,.int .u64 ((x*y:Nat):Int)]) rfl (λw' _=>callsIn_wide.2 ((h64 w').mono λe w2 he=>⟨_,he.1,rfl,by rw[he.2];exact lL.refl _ _⟩)) ?_;refine aO ?_;exact jQ rfl λ_ hw=>⟨rfl,hw.cE⟩
end
section
open Go Go.RowKit
attribute [local irreducible] wpListIn Code.wpIn Exit.then Exit.inBlock bodyPost wpQuiet wpAnyIn wpAnyH
set_option maxHeartbeats 4000000
instance:NM Tryz.prog 3 172 .u64:=⟨aP,aP,aP⟩
instance:NM Tryz.prog 172 3 .i64:=⟨aP,aP,aP⟩
theorem G9(z y:Value)(m n:Nat)(_hm:m<=n)(k:Nat)(hk:k=min (n-m) m):(List.replicate m z++List.replicate (n-m) y).take m++List.replicate k z++(List.replicate m z++List.replicate (n-m) y).drop (m+k)=List.replicate (m+k) z++List.replicate (n-(m+k)) y:=by
 rw[jY aH,jw aH,List.drop_append,List.drop_of_length_le (by rw[ef];omega)];simp only[ef,aT,List.drop_replicate];have e:n-m-(m+k-m)=n-(m+k):=ag;rw[<-List.replicate_append_replicate,e]
theorem BF(b0 o0 n:Nat)(z:Int)(w:World)(hx:w.cell? ⟨b0,o0,none⟩=some (.int .i64 z))(hn:0<n)(NB:n<=100000):
  gV Tryz.prog 108 [.slice (some ⟨b0,o0,none⟩) 1 1,.int .i64 n] w λu w'=>∃a:Nat,u=.slice (some ⟨a,0,none⟩) n n/\Wd dh w [ai (some ⟨a,0,none⟩) n n 3 1 (List.replicate n (.int .i64 z))] w'/\True:=by
 refine aQ Tryz.func108 rfl Tryz.ntmps108 rfl (Wd.nil dh w) ?_;refine aO ?_;refine rX rfl rfl ?_;refine aU ?_;refine rX rfl (by rw[IntKind.wrap_u64];omega) ?_;refine bI rfl (λw' _=>Qu 1 n ag ag ag w') ?_;rw[Nat.one_mul];refine aI ?_;rw[show decide (9223372036854775807<(n:Int))=false by simp;omega,show decide ((0:Int)<0)=false from rfl];refine aO ?_;refine rX rfl ?_ ?_
 ·rw[IntKind.wrap_i64];omega
 repeat(first|refine aU ?_|refine dX λ_ _=>?_)
 rename_i a _;refine D8 (b:=a) (o:=0) (off:=0) 0 (List.replicate 1 (.int .i64 z)) rfl rfl (by simp only[ef];omega) (λw' hw j v hj=>?_) (by simp only[ef];omega) (λv hv=>by rw[jI hv];rfl) ?_
 ·match j,hj with
  |0,hj=>
   obtain rfl:_=v:=by simpa using hj
   exact fU hw.cE hx
 have e0:=G9 (.int .i64 z) (.int .i64 0) 0 n ag 1;simp only[ef,bS];rw[show(List.replicate n (Value.int .i64 0)).take 0++List.replicate 1 (.int .i64 z)++(List.replicate n (.int .i64 0)).drop (0+1)=List.replicate 1 (.int .i64 z)++List.replicate (n-1) (.int .i64 0) by simp[List.drop_replicate]];refine aO ?_;refine bP (λ(m:Nat)=>1<=m/\m<=n) (λm=>[(8,.int .i64 m),(7,.slice (some ⟨a,0,none⟩) n n)]) (λm=>[ai (some ⟨a,0,none⟩) n n 3 1 (List.replicate m (.int .i64 z)++List.replicate (n-m) (.int .i64 0))]) (λm=>n-m) 1 ⟨bH _,hn⟩ (aV aw ag2) λm ⟨Ek,hmn⟩=>?_;refine aU ?_;refine aN (λh1=>?_) (λh1=>?_)
 ·have bT:m<n:=by simpa using h1
  have Ny:NN m n n:=⟨ag,bT⟩;have Gd:CI m n:=⟨ag⟩;refine aO ?_;refine wM [(8,.int .i64 ((m+min (n-m) m:Nat):Int)),(7,.slice (some ⟨a,0,none⟩) n n)] [ai (some ⟨a,0,none⟩) n n 3 1 (List.replicate (m+min (n-m) m) (.int .i64 z)++List.replicate (n-(m+min (n-m) m)) (.int .i64 0))] mixed ?_ ?_
  ·repeat' (first|refine fA 0 rfl aq ?_|refine fA 1 rfl aq ?_|refine fA 2 rfl aq ?_|refine fA 3 rfl aq ?_|refine fA 4 rfl aq ?_|refine fA 5 rfl aq ?_|refine fA 6 rfl aq ?_|refine AB aq ?_|refine any_nil|refine pt aq ?_|refine any_cons ?_ ?_)
   rw[fB];refine D8 (b:=a) (o:=0) (off:=m) 0 (List.replicate (min (n-m) m) (.int .i64 z)) rfl rfl (by simp only[ef];omega) (λw' hw j v hj=>?_) (by simp only[ef,bR];omega) (λv hv=>by rw[jI hv];rfl) ?_
   ·rw[h_]at hj
    split at hj
    ·exact hw.cK (k:=0) rfl (by rw[dG (by rw[ef];omega),h_,if_pos ag];exact hj)
    ·cases hj
   simp only[ef,bS];rw[G9 _ _ m n ag _ rfl]
   repeat' (first|refine AC aq ?_|refine AB aq ?_|refine any_nil|refine pt aq ?_|refine any_cons ?_ ?_|refine k9 ?_|refine oD ?_|refine u6 rfl ?_|refine u5 rfl ag ag ?_)
   all_goals
    rw[<-Int.natCast_add]
   skip
   all_goals exact aV aw ag2
  ·refine aO ?_
   exact bC (m+min (n-m) m) ⟨ag,ag⟩ ag aw ag2
 ·have gT:m=n:=by have:=h1;simp at this;omega
  subst gT;rw[dq,List.replicate_zero,cq];refine aI ?_;exact cA rfl λw' hw=>⟨a,rfl,hw,trivial⟩
theorem Yx(bl:List ar)(l:List Nat)(ho:Ord bl l)(up:List Int)(k:Nat)(hI:Inv bl l up k)(at':List Int)(ny:∀b∈l,at'[b]?=some ((rk l b:Nat):Int))(_hlen:up.length<=100)(ua ta:Value)(w0:World)
  (hu:aM w0 ua 1 up fj) (ht:aM w0 ta 1 at' fj) (a b:Nat) (ha:Pr up a) (hb:Pr up b):
  gV Tryz.prog 109 [ua,ta,.int .i64 a,.int .i64 b] w0 λu w'=>∃z:Nat,u=.int .i64 z/\Wd dh w0 [] w'/\pq up a b z:=by
 obtain⟨ua,un,uc,ub,uo,rfl,PL,agP,agO,huc,hua,iK⟩:=hu;obtain⟨ta,tn,tc,tb,yD,rfl,sN,Er,Ep,TC,wl,r6⟩:=ht;refine aQ Tryz.func109 rfl Tryz.ntmps109 rfl (Wd.nil dh w0) ?_;refine aO ?_;refine bP (λ(x:Nat×Nat)=>Pr up x.1/\Pr up x.2/\∀z,pq up x.1 x.2 z->pq up a b z) (λx=>[(0,.slice ua un uc),(1,.slice ta tn tc),(2,.int .i64 x.1),(3,.int .i64 x.2)]) (λ_=>[]) (λx=>rk l x.1+rk l x.2) (a,b) ⟨ha,hb,λ_ h=>h⟩ (aV aw ag2) λx ⟨hx,hy,cP⟩=>?_;obtain⟨x,y⟩:=x;simp only at hx hy cP⊢;refine aU ?_;refine aN (λh1=>?_) (λh1=>?_)
 ·have eH:x≠y:=λe=>by subst e;simp at h1
  obtain⟨cx,RY⟩:=hx;obtain⟨cy,Xc⟩:=hy;have r8:=hI.qN ⟨cx,RY⟩;have Cw:=hI.qN ⟨cy,Xc⟩;have hax:=ny x r8;have Za:=ny y Cw;have pY:bY ua ub uo:=⟨hua (aW RY)⟩;have uL:bY ta tb yD:=⟨wl (aW hax)⟩;have l1:bZ x un:=⟨by rw[PL];exact(aC.1 RY).1⟩;have l2:bZ y un:=⟨by rw[PL];exact(aC.1 Xc).1⟩;have l3:bZ x tn:=⟨by rw[sN];exact(aC.1 hax).1⟩;have l4:bZ y tn:=⟨by rw[sN];exact(aC.1 Za).1⟩;obtain⟨_,c1,rfl,_⟩:=iK x _ RY;obtain⟨_,c2,rfl,_⟩:=iK y _ Xc;obtain⟨_,c3,rfl,_⟩:=r6 x _ hax;obtain⟨_,c4,rfl,_⟩:=r6 y _ Za;have d1:a_ w0 ub (uo+x*1) _:=⟨c1⟩;have d2:a_ w0 ub (uo+y*1) _:=⟨c2⟩;have d3:a_ w0 tb (yD+x*1) _:=⟨c3⟩;have d4:a_ w0 tb (yD+y*1) _:=⟨c4⟩;refine aO ?_;refine kE mixed aq ?_;refine j9 ?_;refine aU ?_;refine aN (λh2=>?_) (λh2=>?_)
  ·have bT:rk l x<rk l y:=by simpa using h2
   obtain⟨c,hc,EZ,AN,zS⟩:=hI.KB ho (a:=y) (b:=x) ⟨cy,Xc⟩ ⟨cx,RY⟩ (Ne.symm eH) ag;rw[Xc]at hc;have e:cy=c:=by have:=be hc;omega
   subst e;refine aO ?_;exact bC (cy,x) ⟨EZ,⟨cx,RY⟩,λz hz=>cP z (zS z hz).comm⟩ (by simp only;omega) aw ag2
  ·have bT:rk l y<=rk l x:=by have:=h2;simp at this;omega
   obtain⟨c,hc,EZ,AN,zS⟩:=hI.KB ho (a:=x) (b:=y) ⟨cx,RY⟩ ⟨cy,Xc⟩ eH bT;rw[RY]at hc;have e:cx=c:=by have:=be hc;omega
   subst e;refine aO ?_;exact bC (cx,y) ⟨EZ,⟨cy,Xc⟩,λz hz=>cP z (zS z hz)⟩ (by simp only;omega) aw ag2
 ·have he:x=y:=by have:=h1;simp at this;omega
  subst he;refine aI ?_;exact cA rfl λw hw=>⟨x,rfl,hw,cP x (meet_self hx)⟩
end
end Go.Proofs.YthfhgolkafpmnaaGreatDoor
