/- Lemmas. -/
import Derived.Laws.Bits64b
import Derived.Laws.CopyRow
import Derived.Laws.IdiomCopy
import Derived.Lib.Mul64
import Derived.Tactics
import Derived.Test.YthfhgolkafpmnaaGreatDoorGD
namespace Go.Proofs.YthfhgolkafpmnaaGreatDoor
open Go.Value renaming int->J,slice->I
open Go.IntKind renaming i64->Z
open Option renaming some->O,none->U
open Go renaming Value->K,World->ae
open List renaming replicate->aI,range->bj
open Go.Proofs.Tryz
open Go.Proofs.Tryz renaming prog->Y
open Go Go.RowKit
variable {up:List Int} {bl:List aq} {l ps:List Nat} {T a b c d k n o p s ty x z:Nat} {S:Nat->Prop} {α:Type} {w:ae}
section
theorem OY(bl:List aq)(dV:dK bl):∀(f b:Nat) (st:List Bool×List Nat),st.1[b]?=O false->
  ∃N,(rI bl f b st).2=st.2++N/\N.Nodup/\(∀x∈N,st.1[x]?=O false/\(rI bl f b st).1[x]?=O true)/\(0<f->∃N',N=N'++[b])/\∀(i x:Nat),N[i]?=O x->x≠b->∃j p,i<j/\N[j]?=O p/\Edge bl p x
 |0,b,st,hb=>⟨[],by simp[rI],by simp,by simp,by simp,by simp⟩
 |f+1,b,st,hb=>by
  have key:∀(l:List Nat),(∀t∈l,Edge bl b t)->∀st1:List Bool×List Nat,
    ∃N,(l.foldl (ik bl f) st1).2=st1.2++N/\N.Nodup/\(∀x∈N,st1.1[x]?=O false/\(l.foldl (ik bl f) st1).1[x]?=O true)/\∀(i x:Nat),N[i]?=O x->Edge bl b x\/∃j p,i<j/\N[j]?=O p/\Edge bl p x:=by
   intro l
   induction l with
   |nil=>exact λ_ st1=>⟨[],by simp,by simp,by simp,by simp⟩
   |cons t l ih=>
    intro hl st1;simp only[jZ];obtain⟨N2,h1,h2,h3,h4⟩:=ih (λt' wJ=>hl t' (ey _ wJ)) (ik bl f st1 t);rcases pm (bl:=bl) (f:=f) (t:=t) (st:=st1)with e|⟨hf,e⟩
    ·rw[e]at h1 h3|-
     exact⟨N2,h1,h2,h3,h4⟩
    ·obtain⟨N1,g1,g2,g3,g4,g5⟩:=OY bl dV f t st1 hf
     rw[e]at h1 h3|-
     refine⟨N1++N2,by rw[h1,g1,fu],?_,?_,?_⟩
     ·refine nA.2 ⟨g2,h2,λx hx y hy e'=>?_⟩
      subst e';have:=(g3 x hx).2;rw[(h3 x hy).1]at this;cases this
     ·intro x hx
      rcases bO.1 hx with hx|hx
      ·exact⟨(g3 x hx).1,(jP bl f _ l).2.1 x (g3 x hx).2⟩
      ·refine⟨?_,(h3 x hx).2⟩
       have h:=(h3 x hx).1;cases hq:st1.1[x]? with
       |none=>
        have h5:=(qB bl f t st1 hf).1;have h6:=(aJ.1 h).1;rw[mx]at hq;omega
       |some v=>
        cases v with
        |false=>rfl
        |true=>
         have:=(qB bl f t st1 hf).2.1 x hq;rw[h]at this;cases this
     ·intro i x hx
      by_cases hi:i<N1.length
      ·rw[eX hi]at hx
       by_cases Vo:x=t
       ·subst Vo;exact .inl (hl x bT)
       ·obtain⟨j,p,hj,hp,he⟩:=g5 i x hx Vo
        refine .inr ⟨j,p,hj,?_,he⟩;rw[eX (aJ.1 hp).1];exact hp
      ·rw[dH A]at hx
       rcases h4 _ x hx with h|⟨j,p,hj,hp,he⟩
       ·exact .inl h
       ·refine .inr ⟨N1.length+j,p,A,?_,he⟩
        rw[dH A,show N1.length+j-N1.length=j by omega];exact hp
  obtain⟨N,h1,h2,h3,h4⟩:=key ((dY bl b).reverse.map Int.toNat) (λt ht=>by
   obtain⟨z,hz,rfl⟩:=aT.1 ht;have hz:z∈dY bl b:=aD hz;unfold Edge;rw[dV.nat hz];exact hz) (st.1.set b true,st.2)
  have ce:=(aJ.1 hb).1;have hbN:b∉N:=λhm=>by
   have:=(h3 b hm).1;simp[ce]at this
  rw[mP];refine⟨N++[b],by simp only;rw[h1,fu],?_,?_,λ_=>⟨N,rfl⟩,?_⟩
  ·refine nA.2 ⟨h2,by simp,λx hx y hy e'=>?_⟩
   simp only[bQ]at hy;exact hbN (by rw[<-hy,<-e'];exact hx)
  ·intro x hx
   rcases bO.1 hx with hx|hx
   ·have:=h3 x hx
    refine⟨?_,this.2⟩;have h:=this.1;simp only[fN]at h
    by_cases e':b=x
    ·subst e';exact absurd hx hbN
    ·rw[ai e']at h;exact h
   ·simp only[bQ]at hx
    subst hx;exact⟨hb,(jP bl f _ _).2.1 x (by simp[ce])⟩
  ·intro i x hx uF
   by_cases hi:i<N.length
   ·rw[eX hi]at hx
    rcases h4 i x hx with h|⟨j,p,hj,hp,he⟩
    ·exact⟨N.length,b,hi,by simp,h⟩
    ·refine⟨j,p,hj,?_,he⟩
     rw[eX (aJ.1 hp).1];exact hp
   ·rw[dH A]at hx
    have:=(aJ.1 hx).1;simp only[lm]at this;rw[show i-N.length=0 by omega]at hx;simp at hx;exact absurd hx.symm uF
def cQ(bl:List aq):List Nat:=(ek bl).reverse
theorem RH(dV:dK bl)(h0:0<bl.length):(ek bl).Nodup/\(∃N',ek bl=N'++[0])/\∀(i x:Nat),(ek bl)[i]?=O x->x≠0->∃j p,i<j/\(ek bl)[j]?=O p/\Edge bl p x:=by
 obtain⟨N,h1,h2,_,h4,h5⟩:=OY bl dV bl.length 0 (aI bl.length false,[]) (by simp[h0]);have e:ek bl=N:=by unfold ek;rw[h1];rfl
 rw[e];exact⟨h2,h4 h0,h5⟩
structure Ord(bl:List aq)(l:List Nat):Prop where
 nodup:l.Nodup
 mem:∀x,x∈l↔jg bl (-1) 0 x
 zero:l[0]?=O 0
 ahead:∀(i x:Nat),l[i]?=O x->x≠0->∃j p,j<i/\l[j]?=O p/\Edge bl p x
theorem wq(dV:dK bl)(h0:0<bl.length):Ord bl (cQ bl):=by
 obtain⟨h1,⟨N',h2⟩,h3⟩:=RH dV h0;refine⟨by unfold cQ;exact(List.reverse_perm _).nodup_iff.2 h1,λx=>by unfold cQ;rw[List.mem_reverse];exact HC dV h0,by unfold cQ;rw[h2];simp,λi x hx Hi=>?_⟩;unfold cQ at hx|-
 have hi:=(aJ.1 hx).1;rw[ny]at hi;rw[vN hi]at hx;obtain⟨j,p,hj,hp,he⟩:=h3 _ x hx Hi;have iS:=(aJ.1 hp).1;refine⟨(ek bl).length-1-j,p,A,?_,he⟩;rw[vN A,show(ek bl).length-1-((ek bl).length-1-j)=j by omega];exact hp
def kU(bl:List aq)(a b:Nat):Prop:=jg bl (-1) 0 a/\jg bl (-1) 0 b/\(a=b\/a=0\/¬jg bl a 0 b)
theorem jg.all{wo:Int}(h:jg bl wo a b):jg bl (-1) a b:=by
 induction h with
 |refl=>exact .refl
 |step _ he _ ih=>exact ih.step he A
theorem kU.refl(h:jg bl (-1) 0 b):kU bl b b:=⟨h,h,.inl rfl⟩
theorem kU.Ka(h:kU bl a b)(Nn:a≠b)(he:Edge bl p b)(hp:jg bl (-1) 0 p):kU bl a p:=by
 refine⟨h.1,hp,?_⟩;rcases h.2.2 with e|e|e
 ·exact absurd e Nn
 ·exact .inr (.inl e)
 ·refine .inr (.inr λhr=>e (hr.step he A))
theorem M2{eE:Nat->Nat->Prop}(h0:∀a,eE a 0->a=0)(hs:∀a b p,b≠0->eE a b->jg bl (-1) 0 p->Edge bl p b->a=b\/eE a p)(ha:jg bl (-1) 0 a)(hb:jg bl (-1) 0 b)(h:eE a b):kU bl a b:=by
 refine⟨ha,hb,?_⟩
 by_cases e0:a=0
 ·exact .inr (.inl e0)
 by_cases e:a=b
 ·exact .inl e
 refine .inr (.inr λhr=>?_);have key:∀x,jg bl a 0 x->¬eE a x:=by
  intro x hx
  induction hx with
  |refl=>exact λhd=>e0 (h0 a hd)
  |@step x y IM he hw ih=>
   intro hd
   by_cases hy:y=0
   ·subst hy;exact e0 (h0 a hd)
   ·rcases hs a y x hy hd IM.all he with h1|h1
    ·exact hw A
    ·exact ih h1
 exact key b hr h
def lJ(bl:List aq)(c b:Nat):Prop:=kU bl c b/\c≠b/\∀a,kU bl a b->a≠b->kU bl a c
theorem kU.antisymm(h:kU bl a b)(k:kU bl b a):a=b:=by
 by_cases e:a=b
 ·exact e
 exfalso;have key:∀x,jg bl (-1) 0 x->(jg bl a 0 x/\jg bl b 0 x)\/(jg bl a 0 b)\/(jg bl b 0 a)\/a=0\/b=0:=by
  intro x hx
  induction hx with
  |refl=>exact .inl ⟨.refl,.refl⟩
  |@step x y IM he hw ih=>
   rcases ih with⟨h1,h2⟩|h
   ·by_cases ea:y=a
    ·subst ea;exact .inr (.inr (.inl (h2.step he A)))
    ·by_cases eb:y=b
     ·subst eb;exact .inr (.inl (h1.step he A))
     ·exact .inl ⟨h1.step he A,h2.step he A⟩
   ·exact .inr h
 have z0:∀c,kU bl c 0->c=0:=λc hc=>by
  rcases hc.2.2 with e|e|e
  ·exact e
  ·exact e
  ·exact absurd .refl e
 have f1:a≠0:=λe0=>by subst e0;exact e (z0 b k).symm
 have f2:b≠0:=λe0=>by subst e0;exact e (z0 a h)
 have g1:¬jg bl a 0 b:=(h.2.2.resolve_left e).resolve_left f1;have g2:¬jg bl b 0 a:=(k.2.2.resolve_left (Ne.symm e)).resolve_left f2;rcases key a h.1 with⟨_,h2⟩|h|h|h|h
 ·exact g2 h2
 ·exact g1 h
 ·exact g2 h
 ·exact f1 h
 ·exact f2 h
theorem lJ.adr(h:lJ bl c b)(k:lJ bl d b):c=d:=(k.2.2 c h.1 h.2.1).antisymm (h.2.2 d k.1 k.2.1)
open Classical in
noncomputable def ed(bl:List aq)(b:Nat):Int:=if h:∃c,lJ bl c b then(Classical.choose h:Nat)else -1
theorem lz(h:lJ bl c b):ed bl b=c:=by
 have hx:∃c,lJ bl c b:=⟨c,h⟩;unfold ed;rw[dif_pos hx,(w_ hx).adr h]
theorem jK(h:∀c,¬lJ bl c b):ed bl b=-1:=by
 unfold ed;rw[dif_neg λ⟨c,hc⟩=>h c hc]
def Pr(up:List Int)(b:Nat):Prop:=∃c:Nat,up[b]?=O (c:Int)
inductive uH(up:List Int)(a:Nat):Nat->Prop
 |refl:uH up a a
 |up {b c:Nat}:b≠0->up[b]?=O (c:Int)->uH up a c->uH up a b
theorem uH.trans(h:uH up a b)(k:uH up b c):uH up a c:=by
 induction k with
 |refl=>exact h
 |up h0 he _ ih=>exact .up h0 he ih
def rk(l:List Nat)(b:Nat):Nat:=l.idxOf b
theorem Al(hn:l.Nodup){i:Nat}(h:l[i]?=O x):rk l x=i:=by
 obtain⟨hi,rfl⟩:=aJ.1 h;exact List.Nodup.idxOf_getElem hn i hi
theorem Nh(h:x∈l):l[rk l x]?=O x:=by
 have hi:l.idxOf x<l.length:=yg.2 h;unfold rk;rw[bL hi,nw hi]
theorem tD{y:Nat}(hx:x∈l)(hy:y∈l)(h:rk l x=rk l y):x=y:=by
 have h1:=Nh hx;rw[h,Nh hy]at h1;simpa using h1.symm
inductive OP(bl:List aq)(l:List Nat)(a:Nat):Nat->Prop
 |refl:OP bl l a a
 |step {x y:Nat}:OP bl l a x->Edge bl x y->rk l x<rk l y->OP bl l a y
theorem OP.trans(h:OP bl l a b)(k:OP bl l b c):OP bl l a c:=by
 induction k with
 |refl=>exact h
 |step _ he hr ih=>exact ih.step he hr
theorem OP.le(h:OP bl l a b):rk l a<=rk l b:=by
 induction h with
 |refl=>exact cz _
 |step _ _ hr ih=>omega
theorem OP.dom{v:Nat}(hf:OP bl l c v)(ha:rk l a<rk l c)(hc:jg bl (-1) 0 c)(h:kU bl a v):kU bl a c:=by
 induction hf with
 |refl=>exact h
 |@step x y hx he hr ih=>
  have:=hx.le;have hrx:jg bl (-1) 0 x:=by
   clear ih h;clear he hr this
   induction hx with
   |refl=>exact hc
   |step _ he _ ih=>exact ih.step he A
  exact ih (h.Ka (λe=>by subst e;omega) he hrx)
structure Inv(bl:List aq)(l:List Nat)(up:List Int)(k:Nat):Prop where
 len:up.length=bl.length
 zero:up[0]?=O 0
 val:∀b c:Nat,up[b]?=O (c:Int)->b∈l/\c∈l/\(b≠0->rk l c<rk l b/\Pr up c)
 neg:∀(b:Nat) (z:Int),up[b]?=O z->z=-1\/0<=z
 fwd:∀b c:Nat,b≠0->up[b]?=O (c:Int)->OP bl l c b
 low:∀b c:Nat,b≠0->up[b]?=O (c:Int)->∀y,(∀p,Edge bl p b->Pr up p->uH up y p)->rk l y<=rk l c
 sound:∀b a,Pr up b->kU bl a b->uH up a b
 Ly:∀b∈l,rk l b<k->Pr up b
 phase:(∀b∈l,Pr up b)\/∀b,Pr up b->rk l b<k
 done:∀v∈l,v≠0->rk l v<k->∀p,Edge bl p v->p∈l->rk l p<rk l v->∀y,uH up y v->y=v\/uH up y p
theorem sk(ho:Ord bl l):rk l 0=0:=Al ho.nodup ho.zero
theorem Inv.uy(h:Inv bl l up k)(hp:Pr up b):b∈l:=hp.elim λc hc=>(h.val b c hc).1
theorem Inv.D8(h:Inv bl l up k)(ha:uH up a b):rk l a<=rk l b:=by
 induction ha with
 |refl=>exact cz _
 |up h0 he _ ih=>have:=((h.val _ _ he).2.2 h0).1;omega
theorem Inv.aa8(h:Inv bl l up k)(ha:uH up a b)(hb:Pr up b):Pr up a:=by
 induction ha with
 |refl=>exact hb
 |up h0 he _ ih=>exact ih ((h.val _ _ he).2.2 h0).2
theorem Inv.XW(h:Inv bl l up k)(ha:uH up a b):OP bl l a b:=by
 induction ha with
 |refl=>exact .refl
 |up h0 he _ ih=>exact ih.trans (h.fwd _ _ h0 he)
def sO(up:List Int)(a b z:Nat):Prop:=Pr up z/\∀y,uH up y z↔(uH up y a/\uH up y b)
theorem Inv.PD(ho:Ord bl l)(h:Inv bl l up k)(ha:Pr up a)(hb:Pr up b)(fZ:a≠b)(hr:rk l b<=rk l a):
  ∃c:Nat,up[a]?=O (c:Int)/\Pr up c/\rk l c<rk l a/\∀z,sO up c b z->sO up a b z:=by
 obtain⟨c,hc⟩:=ha;have hv:=h.val a c hc;have ce:rk l b<rk l a:=od hr λe=>fZ (tD hv.1 (h.uy hb) e.symm);have Uk:a≠0:=λe=>by subst e;have:=sk ho;omega
 refine⟨c,hc,(hv.2.2 Uk).2,(hv.2.2 Uk).1,λz hz=>⟨hz.1,λy=>(hz.2 y).trans ⟨λ⟨h1,h2⟩=>⟨.up Uk hc h1,h2⟩,λ⟨h1,h2⟩=>⟨?_,h2⟩⟩⟩⟩;cases h1 with
 |refl=>have:=h.D8 h2;omega
 |@up _ c' _ he h3=>
  rw[hc]at he;have:c=c':=by have:=bJ he;omega
  rw[this];exact h3
theorem meet_self(ha:Pr up a):sO up a a a:=⟨ha,λ_=>⟨λh=>⟨h,h⟩,λh=>h.1⟩⟩
theorem sO.comm(h:sO up a b z):sO up b a z:=⟨h.1,λy=>(h.2 y).trans And.comm⟩
def qw(up:List Int)(ps:List Nat)(z:Int):Prop:=(z=-1/\∀p∈ps,¬Pr up p)\/∃c:Nat,z=c/\Pr up c/\(∃p∈ps,Pr up p)/\∀y,uH up y c↔∀p∈ps,Pr up p->uH up y p
theorem MJ(up:List Int):qw up [] (-1):=.inl ⟨rfl,by simp⟩
theorem qw.pass{z:Int}(h:qw up ps z)(hp:¬Pr up p):qw up (ps++[p]) z:=by
 rcases h with⟨rfl,h⟩|⟨c,rfl,h1,⟨q,hq,ND⟩,h3⟩
 ·refine .inl ⟨rfl,λq hq=>?_⟩
  rcases bO.1 hq with hq|hq
  ·exact h q hq
  ·rw[bQ.1 hq];exact hp
 ·refine .inr ⟨c,rfl,h1,⟨q,cM _ hq,ND⟩,λy=>(h3 y).trans ⟨λh q hq ND=>?_,λh q hq=>h q (cM _ hq)⟩⟩
  rcases bO.1 hq with hq|hq
  ·exact h q hq ND
  ·rw[bQ.1 hq]at ND;exact absurd ND hp
theorem qw.first{z:Int}(h:qw up ps z)(hz:z<0)(hp:Pr up p):qw up (ps++[p]) p:=by
 rcases h with⟨rfl,h⟩|⟨c,rfl,_⟩
 ·refine .inr ⟨p,rfl,hp,⟨p,by simp,hp⟩,λy=>⟨λhy q hq ND=>?_,λh=>h p bT hp⟩⟩
  rcases bO.1 hq with hq|hq
  ·exact absurd ND (h q hq)
  ·rw[bQ.1 hq];exact hy
 ·omega
theorem qw.pr{z:Int}(h:qw up ps z)(hz:0<=z):∃c:Nat,z=c/\Pr up c:=by
 rcases h with⟨rfl,_⟩|⟨c,rfl,h1,_⟩
 ·omega
 ·exact⟨c,rfl,h1⟩
theorem qw.iK(h:qw up ps c)(hp:Pr up p)(hm:sO up c p z):qw up (ps++[p]) z:=by
 rcases h with⟨h,_⟩|⟨c',e,h1,⟨q,hq,ND⟩,h3⟩
 ·omega
 ·have:c=c':=A
  subst this;refine .inr ⟨z,rfl,hm.1,⟨q,cM _ hq,ND⟩,λy=>(hm.2 y).trans ⟨λ⟨ha,hb⟩ q hq ND=>?_,λh=>⟨(h3 y).2 λq hq=>h q (cM _ hq),h p bT hp⟩⟩⟩;rcases bO.1 hq with hq|hq
  ·exact(h3 y).1 ha q hq ND
  ·rw[bQ.1 hq];exact hb
theorem Inv.step(dV:dK bl)(h0:0<bl.length)(ho:Ord bl l)(h:Inv bl l up k)(hk:0<k)(hb:l[k]?=O b)(hz:Pr up z)
  (cX:∀y,uH up y z↔∀p,Edge bl p b->Pr up p->uH up y p):
  Inv bl l (up.set b (z:Int)) (k+1)/\(∀c:Nat,up[b]?=O (c:Int)->c≠z->rk l z<rk l c)/\(∀v,Pr (up.set b (z:Int)) v↔(Pr up v\/v=b)):=by
 have DU:rk l b=k:=Al ho.nodup hb;have jX:b∈l:=aA hb;have wH:b≠0:=λe=>by subst e;have:=sk ho;omega
 have ce:b<up.length:=by rw[h.len];exact dV.BG h0 ((ho.mem b).1 jX)
 have fZ:∀v,v≠b->(up.set b (z:Int))[v]?=up[v]?:=λv hv=>by rw[fN,ai (Ne.symm hv)]
 have Xw:(up.set b (z:Int))[b]?=O (z:Int):=by rw[fN,al rfl,al ce]
 have Au:∀v,Pr (up.set b (z:Int)) v↔(Pr up v\/v=b):=λv=>by
  by_cases e:v=b
  ·subst e;exact⟨λ_=>.inr rfl,λ_=>⟨z,Xw⟩⟩
  ·unfold Pr;rw[fZ v e]
   exact⟨.inl,λh=>h.resolve_right e⟩
 obtain⟨q,hq,hqk,SH⟩:∃q,q∈l/\rk l q<k/\Edge bl q b:=by
  obtain⟨j,q,hj,Cy,SH⟩:=ho.ahead k b hb wH;exact⟨q,aA Cy,by rw[Al ho.nodup Cy];exact hj,SH⟩
 have ND:Pr up q:=h.Ly q hq hqk;have hzq:uH up z q:=(cX z).1 .refl q SH ND;have hrz:rk l z<k:=by have:=h.D8 hzq;omega
 have hold:∀c:Nat,up[b]?=O (c:Int)->uH up z c:=by
  intro c hc;have ahG:=h.low b c wH hc z ((cX z).1 .refl);have hv:=h.val b c hc
  by_cases e:z=c
  ·subst e;exact .refl
  have ce:rk l z<rk l c:=od ahG λe'=>e (tD (h.uy hz) hv.2.1 e');have key:∀v,OP bl l c v->v∈l->rk l v<k->uH up z v->uH up z c:=by
   intro v hf
   induction hf with
   |refl=>exact λ_ _ h=>h
   |@step x y hx he hr ih=>
    intro hy hyk hzy;have Hi:y≠0:=λe=>by subst e;have:=sk ho;omega
    have pw:x∈l:=by
     rw[ho.mem];have YI:=(ho.mem c).1 hv.2.1;clear ih hzy hy hyk hr he Hi
     induction hx with
     |refl=>exact YI
     |step _ he _ ih=>exact ih.step he A
    rcases h.done y hy Hi hyk x he pw hr z hzy with e'|h2
    ·subst e';have:=hx.le;omega
    ·exact ih pw A h2
  have hf:=h.fwd b c wH hc;cases hf with
  |refl=>have:=(hv.2.2 wH).1;omega
  |@step x _ hx he hr=>
   have pw:x∈l:=by
    rw[ho.mem];have YI:=(ho.mem c).1 hv.2.1;clear hr he
    induction hx with
    |refl=>exact YI
    |step _ he _ ih=>exact ih.step he A
   exact key x hx pw A ((cX z).1 .refl x he (h.Ly x pw A))
 have shrink:∀y v,Pr up v->uH (up.set b (z:Int)) y v->uH up y v:=by
  intro y v hv NO
  induction NO with
  |refl=>exact .refl
  |@up v c yC he _ ih=>
   by_cases e:v=b
   ·subst e
    rw[Xw]at he;have e':c=z:=by have:=bJ he;omega
    subst e';obtain⟨c0,Nq⟩:=hv;exact .up yC Nq ((ih hz).trans (hold c0 Nq))
   ·rw[fZ v e]at he
    exact .up yC he (ih ((h.val v c he).2.2 yC).2)
 have below:∀y v,rk l v<k->uH up y v->uH (up.set b (z:Int)) y v:=by
  intro y v hv NO
  induction NO with
  |refl=>exact .refl
  |@up v c yC he _ ih=>
   have e:v≠b:=λe=>by subst e;omega
   exact .up yC (by rw[fZ v e];exact he) (ih (by have:=((h.val v c he).2.2 yC).1;omega))
 have KU:∀y,uH (up.set b (z:Int)) y b->y=b\/uH up y z:=by
  intro y hy;cases hy with
  |refl=>exact .inl rfl
  |@up _ c _ he h2=>
   rw[Xw]at he;have e':c=z:=by have:=bJ he;omega
   subst e';exact .inr (shrink y c hz h2)
 refine⟨⟨by rw[fK];exact h.len,by rw[fZ 0 (Ne.symm wH)];exact h.zero,?_,?_,?_,?_,?_,?_,?_,?_⟩,?_,Au⟩
 ·intro v c hc
  by_cases e:v=b
  ·subst e
   rw[Xw]at hc;have e':c=z:=by have:=bJ hc;omega
   subst e';exact⟨jX,h.uy hz,λ_=>⟨A,(Au c).2 (.inl hz)⟩⟩
  ·rw[fZ v e]at hc
   have:=h.val v c hc;exact⟨this.1,this.2.1,λhv=>⟨(this.2.2 hv).1,(Au c).2 (.inl (this.2.2 hv).2)⟩⟩
 ·intro v y hy
  by_cases e:v=b
  ·subst e
   rw[Xw]at hy;have:y=(z:Int):=aD hy.symm;omega
  ·rw[fZ v e]at hy;exact h.neg v y hy
 ·intro v c hv hc
  by_cases e:v=b
  ·subst e
   rw[Xw]at hc;have e':c=z:=by have:=bJ hc;omega
   subst e';exact(h.XW hzq).step SH A
  ·rw[fZ v e]at hc;exact h.fwd v c hv hc
 ·intro v c hv hc y hy
  by_cases e:v=b
  ·subst e
   rw[Xw]at hc;have e':c=z:=by have:=bJ hc;omega
   subst e';exact h.D8 ((cX y).2 λp he hp=>shrink y p hp (hy p he ((Au p).2 (.inl hp))))
  ·rw[fZ v e]at hc
   exact h.low v c hv hc y λp he hp=>shrink y p hp (hy p he ((Au p).2 (.inl hp)))
 ·
  have hbz:∀a,kU bl a b->a=b\/uH up a z:=by
   intro a ha
   by_cases e:a=b
   ·exact .inl e
   ·exact .inr ((cX a).2 λp he hp=>h.sound p a hp (ha.Ka e he ((ho.mem p).1 (h.uy hp))))
  have aeq:∀a,kU bl a b->uH (up.set b (z:Int)) a b:=by
   intro a ha;rcases hbz a ha with e|e
   ·subst e;exact .refl
   ·exact .up wH Xw (below a z hrz e)
  intro v a hv ha;rcases(Au v).1 hv with hv|e
  ·have Mo:=h.sound v a hv ha
   clear hv
   induction Mo with
   |refl=>exact .refl
   |@up v c yC he hac ih=>
    by_cases e:v=b
    ·subst e;exact aeq a ha
    ·refine .up yC (by rw[fZ v e];exact he) ?_
     by_cases e':a=c
     ·subst e';exact .refl
     ·have hvv:=h.val v c he
      have ce:rk l a<rk l c:=od (h.D8 hac) λe2=>e' (tD ((ho.mem a).2 ha.1) hvv.2.1 e2);have hd:=(h.fwd v c yC he).dom ce ((ho.mem c).1 hvv.2.1) ha;exact ih ((Au c).2 (.inl (hvv.2.2 yC).2)) hd
  ·subst e;exact aeq a ha
 ·intro v hv hvk
  by_cases e:v=b
  ·exact(Au v).2 (.inr e)
  ·exact(Au v).2 (.inl (h.Ly v hv (od A λe'=>e (tD hv jX A))))
 ·rcases h.phase with h1|h1
  ·exact .inl λv hv=>(Au v).2 (.inl (h1 v hv))
  ·refine .inr λv hv=>?_
   rcases(Au v).1 hv with hv|e
   ·have:=h1 v hv;omega
   ·subst e;omega
 ·intro v hv yC hvk p he hp hr y hy
  by_cases e:v=b
  ·subst e
   rcases KU y hy with e'|h2
   ·exact .inl e'
   ·exact .inr (below y p A ((cX y).1 h2 p he (h.Ly p hp A)))
  ·have afG:rk l v<k:=od A λe'=>e (tD hv jX A)
   rcases h.done v hv yC afG p he hp hr y (shrink y v (h.Ly v hv afG) hy)with e'|h2
   ·exact .inl e'
   ·exact .inr (below y p A h2)
 ·intro c hc hcz
  have hac:=hold c hc;exact od (h.D8 hac) λe'=>hcz (tD (h.uy hz) (h.val b c hc).2.1 e').symm
theorem Rc(h0:0<bl.length)(ho:Ord bl l):Inv bl l ((aI bl.length (-1)).set 0 0) 1:=by
 have hg:∀(b:Nat) (z:Int),((aI bl.length (-1:Int)).set 0 0)[b]?=O z->(b=0/\z=0)\/z=-1:=by
  intro b z h;rw[fN]at h
  split at h
  ·rename_i e
   split at h
   ·exact .inl ⟨e.symm,(bJ h).symm⟩
   ·cases h
  ·rw[ku]at h
   split at h
   ·exact .inr (bJ h).symm
   ·cases h
 have hp:∀b c:Nat,((aI bl.length (-1:Int)).set 0 0)[b]?=O (c:Int)->b=0/\c=0:=by
  intro b c h;rcases hg b c h with⟨h1,h2⟩|h2<;>omega
 have hz:((aI bl.length (-1:Int)).set 0 0)[0]?=O 0:=by simp[h0]
 have h0l:0∈l:=aA ho.zero;refine⟨by simp,hz,λb c h=>?_,λb z h=>?_,λb c hb h=>absurd (hp b c h).1 hb,λb c hb h=>absurd (hp b c h).1 hb,λb a ⟨c,h⟩ ha=>?_,λb hb hr=>?_,.inr λb ⟨c,h⟩=>?_,λv hv yC hr=>?_⟩
 ·obtain⟨rfl,rfl⟩:=hp b c h
  exact⟨h0l,h0l,λh=>absurd rfl h⟩
 ·rcases hg b z h with⟨_,h⟩|h<;>omega
 ·obtain⟨rfl,rfl⟩:=hp b c h
  rcases ha.2.2 with e|e|e
  ·subst e;exact .refl
  ·subst e;exact .refl
  ·exact absurd .refl e
 ·have e:b=0:=tD hb h0l (by have:=sk ho;omega)
  subst e;exact⟨0,hz⟩
 ·have:=(hp b c h).1
  subst this;have:=sk ho;omega
 ·exact absurd (tD hv h0l (by have:=sk ho;omega)) yC
theorem Inv.again(ho:Ord bl l)(h:Inv bl l up l.length):Inv bl l up 1:=by
 have cX:∀b∈l,Pr up b:=λb hb=>h.Ly b hb (yg.2 hb);exact⟨h.len,h.zero,h.val,h.neg,h.fwd,h.low,h.sound,λb hb _=>cX b hb,.inl cX,λv hv yC hr=>absurd (tD hv (aA ho.zero) (by have:=sk ho;omega)) yC⟩
def Full(bl:List aq)(up:List Int)(v:Nat):Prop:=∀p,Edge bl p v->Pr up p->∀y,uH up y v->y=v\/uH up y p
theorem Inv.full(_h:Inv bl l up k)(_hb0:b≠0)(hc:up[b]?=O (z:Int))(cX:∀y,uH up y z↔∀p,Edge bl p b->Pr up p->uH up y p):Full bl up b:=by
 intro p he hp y hy;cases hy with
 |refl=>exact .inl rfl
 |@up _ c _ YI h2=>
  rw[hc]at YI;have e:z=c:=by have:=bJ YI;omega
  subst e;exact .inr ((cX y).1 h2 p he hp)
def An(l:List Nat)(n:Nat)(z:Int):Nat:=if z<0 then n else rk l z.toNat
def DE(l:List Nat)(n:Nat)(up:List Int):Nat:=(up.map (An l n)).sum
theorem P6:∀(l:List Nat) (i x y:Nat),l[i]?=O x->(l.set i y).sum+x=l.sum+y
 |[],i,x,y,h=>by simp at h
 |a::l,0,x,y,h=>by simp at h|-;omega
 |a::l,i+1,x,y,h=>by
  have:=P6 l i x y (aD h);simp only[bS,g_];omega
theorem VS{x z:Int}(hb:up[b]?=O x)(h:An l n z<An l n x):DE l n (up.set b z)<DE l n up:=by
 unfold DE;rw[eT];have:=P6 (up.map (An l n)) b (An l n x) (An l n z) (by rw[aW,hb];rfl);omega
theorem Inv.adS{x:Int}(h:Inv bl l up k)(hz:Pr up z)(hb:up[b]?=O x)(fZ:x≠(z:Int))(hold:∀c:Nat,up[b]?=O (c:Int)->c≠z->rk l z<rk l c):DE l l.length (up.set b (z:Int))<DE l l.length up:=by
 refine VS hb ?_;have NP:rk l z<l.length:=yg.2 (h.uy hz);unfold An;rw[ai A];rcases h.neg b x hb with e|e
 ·rw[al A];simpa using NP
 ·rw[ai A]
  obtain⟨c,rfl⟩:∃c:Nat,x=c:=⟨x.toNat,A⟩;simpa using hold c hb A
theorem Inv.tree(ho:Ord bl l)(h:Inv bl l up l.length)(aeE:∀v∈l,v≠0->Full bl up v):
  up.set 0 (-1)=(bj bl.length).map (ed bl):=by
 have cX:∀b∈l,Pr up b:=λb hb=>h.Ly b hb (yg.2 hb);have Np:∀a b,b∈l->uH up a b->kU bl a b:=by
  intro a b hb Nn;refine M2 (eE:=λa b=>uH up a b) (λa ha=>?_) (λa b p wH Nn hp he=>?_) ((ho.mem a).1 (h.uy (h.aa8 Nn (cX b hb)))) ((ho.mem b).1 hb) Nn
  ·cases ha with
   |refl=>rfl
   |up h0=>exact absurd rfl h0
  ·have yT:=(ho.mem p).2 hp
   have jX:b∈l:=(ho.mem b).2 (hp.step he A);exact aeE b jX wH p he (cX p yT) a Nn
 apply cY;intro b
 by_cases hb:b<bl.length
 ·have Xv:b<up.length:=by rw[h.len];exact hb
  rw[aW,gq hb,b_]
  by_cases wH:b=0
  ·subst wH
   rw[fN,al rfl,al Xv,jK];intro c hc;refine hc.2.1 ?_;rcases hc.1.2.2 with e|e|e
   ·exact e
   ·exact e
   ·exact absurd .refl e
  ·rw[fN,ai (Ne.symm wH)]
   by_cases jX:b∈l
   ·obtain⟨c,hc⟩:=cX b jX
    have hv:=h.val b c hc;rw[hc,lz (c:=c)];refine⟨Np c b jX (.up wH hc .refl),λe=>by subst e;have:=(hv.2.2 wH).1;omega,λa ha Nn=>?_⟩;have hx:=h.sound b a (cX b jX) ha;cases hx with
    |refl=>exact absurd rfl Nn
    |@up _ c' _ YI h2=>
     rw[hc]at YI;have e:c=c':=by have:=bJ YI;omega
     subst e;exact Np a c hv.2.1 h2
   ·rw[jK λc hc=>jX ((ho.mem b).2 hc.1.2.1)]
    obtain⟨z,hz⟩:=bE up b Xv;rw[hz];rcases h.neg b z hz with e|e
    ·rw[e]
    ·exact absurd (h.val b z.toNat (by rw[hz];congr 1;omega)).1 jX
 ·rw[cm (by rw[fK,h.len];omega),cm dr]
theorem kU.trans(h:kU bl a c)(k:kU bl c b):kU bl a b:=by
 by_cases eac:a=c
 ·subst eac;exact k
 by_cases ecb:c=b
 ·subst ecb;exact h
 refine⟨h.1,k.2.1,?_⟩
 by_cases ea:a=0
 ·exact .inr (.inl ea)
 refine .inr (.inr λhr=>?_);have ec:c≠0:=λe=>by
  subst e;rcases h.2.2 with e|e|e
  ·exact eac e
  ·exact ea e
  ·exact e .refl
 have h1:¬jg bl a 0 c:=(h.2.2.resolve_left eac).resolve_left ea;have h2:¬jg bl c 0 b:=(k.2.2.resolve_left ecb).resolve_left ec;have key:∀x,jg bl a 0 x->jg bl c 0 x\/jg bl a 0 c:=by
  intro x hx
  induction hx with
  |refl=>exact .inl .refl
  |@step x y IM he hw ih=>
   rcases ih with ih|ih
   ·by_cases e:y=c
    ·subst e;exact .inr (IM.step he hw)
    ·exact .inl (ih.step he A)
   ·exact .inr ih
 rcases key b hr with h|h
 ·exact h2 h
 ·exact h1 h
theorem kU.chain(h:kU bl a b)(k:kU bl c b):kU bl a c\/kU bl c a:=by
 by_cases eab:a=b
 ·subst eab;exact .inr k
 by_cases ecb:c=b
 ·subst ecb;exact .inl h
 by_cases ea:a=0
 ·exact .inl ⟨h.1,k.1,.inr (.inl ea)⟩
 by_cases ec:c=0
 ·exact .inr ⟨k.1,h.1,.inr (.inl ec)⟩
 by_cases e1:jg bl a 0 c
 ·by_cases e2:jg bl c 0 a
  ·exfalso
   have h1:¬jg bl a 0 b:=(h.2.2.resolve_left eab).resolve_left ea;have h2:¬jg bl c 0 b:=(k.2.2.resolve_left ecb).resolve_left ec;have key:∀x,jg bl (-1) 0 x->(jg bl a 0 x/\jg bl c 0 x)\/jg bl c a x\/jg bl a c x:=by
    intro x hx
    induction hx with
    |refl=>exact .inl ⟨.refl,.refl⟩
    |@step x y _ he _ ih=>
     by_cases ya:y=a
     ·subst ya;exact .inr (.inl .refl)
     by_cases yc:y=c
     ·subst yc;exact .inr (.inr .refl)
     rcases ih with⟨g1,g2⟩|g|g
     ·exact .inl ⟨g1.step he A,g2.step he A⟩
     ·exact .inr (.inl (g.step he A))
     ·exact .inr (.inr (g.step he A))
   rcases key b h.2.1 with⟨g,_⟩|g|g
   ·exact h1 g
   ·exact h2 (e2.trans g)
   ·exact h1 (e1.trans g)
  ·exact .inr ⟨k.1,h.1,.inr (.inr e2)⟩
 ·exact .inl ⟨h.1,k.1,.inr (.inr e1)⟩
theorem uR(h:kU bl a 0):a=0:=by
 rcases h.2.2 with e|e|e
 ·exact e
 ·exact e
 ·exact absurd .refl e
theorem Bl(dV:dK bl)(h0:0<bl.length)(hb:jg bl (-1) 0 b)(wH:b≠0):∃c,lJ bl c b:=by
 have key:∀m,(∀c,c<m->c≠b->¬kU bl c b)\/∃x,x<m/\x≠b/\kU bl x b/\∀c,c<m->c≠b->kU bl c b->kU bl c x:=by
  intro m
  induction m with
  |zero=>exact .inl λc hc=>A
  |succ m ih=>
   by_cases hm:m≠b/\kU bl m b
   ·rcases ih with ih|⟨x,hx,uF,hd,cX⟩
    ·refine .inr ⟨m,A,hm.1,hm.2,λc hc Ap G3=>?_⟩
     by_cases e:c=m
     ·subst e;exact .refl G3.1
     ·exact absurd G3 (ih c A Ap)
    ·rcases hd.chain hm.2 with g|g
     ·refine .inr ⟨m,A,hm.1,hm.2,λc hc Ap G3=>?_⟩
      by_cases e:c=m
      ·subst e;exact .refl G3.1
      ·exact(cX c A Ap G3).trans g
     ·refine .inr ⟨x,A,uF,hd,λc hc Ap G3=>?_⟩
      by_cases e:c=m
      ·subst e;exact g
      ·exact cX c A Ap G3
   ·have oL:∀c,c<m+1->c≠b->kU bl c b->c<m:=λc hc Ap G3=>by
     have:c≠m:=λe=>by subst e;exact hm ⟨Ap,G3⟩
     omega
    rcases ih with ih|⟨x,hx,uF,hd,cX⟩
    ·exact .inl λc hc Ap G3=>ih c (oL c hc Ap G3) Ap G3
    ·exact .inr ⟨x,A,uF,hd,λc hc Ap G3=>cX c (oL c hc Ap G3) Ap G3⟩
 rcases key bl.length with h|⟨x,_,uF,hd,cX⟩
 ·exact absurd ⟨.refl,hb,.inr (.inl rfl)⟩ (h 0 h0 (Ne.symm wH))
 ·exact⟨x,hd,uF,λa ha Nn=>cX a (dV.BG h0 ha.1) Nn ha⟩
theorem lJ.iff(h:lJ bl c b):kU bl a b↔(kU bl a c\/a=b):=by
 refine⟨λha=>?_,λha=>ha.elim (λh1=>h1.trans h.1) λe=>by subst e;exact .refl h.1.2.1⟩
 by_cases e:a=b
 ·exact .inr e
 ·exact .inl (h.2.2 a ha e)
open Classical in
noncomputable def jp(bl:List aq)(b n:Nat):List Nat:=(bj n).filter λc=>decide (kU bl c b)
open Classical in
theorem yq(bl:List aq)(b n:Nat):(jp bl b n).length=rH (λc=>kU bl c b) n:=rfl
theorem vj(dV:dK bl)(h0:0<bl.length)(h:lJ bl c b):(jp bl c bl.length).length+1=(jp bl b bl.length).length:=by
 classical
 have hb:=dV.BG h0 h.1.2.1;rw[yq,yq];exact(OX (b:=b) (λhd=>h.2.1 (h.1.antisymm hd)) hb λa _=>h.iff).symm
theorem Q6(dV:dK bl)(h0:0<bl.length)(hd:kU bl x b)(hl:(jp bl x bl.length).length+1=(jp bl b bl.length).length):lJ bl x b:=by
 classical
 have wH:b≠0:=λe=>by
  subst e;have:=uR hd;subst this;omega
 obtain⟨c,hc⟩:=Bl dV h0 hd.2.1 wH;have h1:=vj dV h0 hc;have uF:x≠b:=λe=>by subst e;omega
 have hxc:=hc.2.2 x hd uF;have KD:kU bl c x:=by
  refine Ib (p:=λa=>kU bl a x) (q:=λa=>kU bl a c) (n:=bl.length) (λa _ ha=>ha.trans hxc) ?_ c (dV.BG h0 hc.1.1) (.refl hc.1.1);rw[<-yq,<-yq];omega
 rw[hxc.antisymm KD];exact hc
theorem sE:c∈jp bl b n↔(c<n/\kU bl c b):=by
 classical
 unfold jp;simp
class SU(P:Program)(S T:Nat)(q:outParam IntKind):Prop where
 src:(P.underlying S).isSome=true
 dst:P.underlying T=O (.int (P.intKind T))
 kind:P.intKind T=q
class SV(lo n c:Nat):Prop where
 le:lo<=n
 lt:lo<c
class JG(hi c:Nat):Prop where
 le:hi<=c
section
variable {P:Program} {ro:Option Nat} {N:Nat} {ds:List Deferred} {S:Nat->Prop} {w0:ae} {L:List (Nat×K)} {H H1 H2:List cq} {ops:Array Oper} {rest:List Oper} {Q:Exit->Act->ae->Prop} {p:Act->ae->Prop} {x y:Operand}
theorem vW{sC B:Nat}{k q:IntKind}{n:Int}{pos:String}{aft:Array Go.Edge}[hx:Ev L x (J k n)][h:SU P sC B q](hd:ev d N L=true)(hw:q.wrap n=n)
  (kk:cU N ds S w0 ((d,J q n)::L) H (wpListIn (FW ro) 0 P ops Q rest)):cU N ds S w0 L H (wpListIn (FW ro) 0 P ops Q (⟨O d,.convert sC B x,ty,pos,aft,U⟩::rest)):=
 λa w hS=>gj (v:=.int q n) (w':=w) rfl (λ_ h=>by cases h) (by simp[execOp,hx.eq _ _ _ hS.fr,run_convert_int w sC B k n h.src h.dst,h.kind,hw]) (kk _ _ ⟨hS.fr.fv hd _,hS.wd⟩)
instance{lo:Nat}[hx:Ev L x (I (O ⟨b,o,U⟩) n c)][hl:Ev L y (J Z (lo:Int))][h:gv P T s][hc:SV lo n c]:gg P N ds S w0 L H (.slice T x (O y) U U) (I (O ⟨b,o+lo*s,U⟩) (n-lo) (c-lo)):=
 ⟨λ_ h=>(by cases h),λ_ _ h=>(by cases h),λ_ _ _ _ _ a w hF _=>by
  have hr:=run_slice_l (P:=P) w T (O ⟨b,o,U⟩) n c h.sy Z lo A (by have:=hc.le;omega)
  have fZ:¬c=lo:=by have:=hc.lt;omega
  simp[execOp,hx.eq _ _ _ hF,hl.eq _ _ _ hF,run_sliceAt_slice (P:=P) w T _ _ _ _ h.sy,hr,h.sz,sliced,fZ,Addr.add_lit]⟩
instance{hi:Nat}{ad:ax}[hx:Ev L x (I ad n c)][hl:Ev L y (J Z (hi:Int))][h:gv P T s][hc:JG hi c]:gg P N ds S w0 L H (.slice T x U (O y) U) (I ad hi c):=
 ⟨λ_ h=>(by cases h),λ_ _ h=>(by cases h),λ_ _ _ _ _ a w hF _=>by
  have hr:=run_slice_h (P:=P) w T ad n c h.sy Z hi A (by have:=hc.le;omega)
  have hz:(if c=0 then ad else ad.map λq=>q.add (0*s))=ad:=by
   by_cases h0:c=0
   ·rw[al h0]
   ·rw[ai h0];cases ad<;>simp[Addr.add]
  simp only[Nat.zero_mul]at hz
  simp[execOp,hx.eq _ _ _ hF,hl.eq _ _ _ hF,run_sliceAt_slice (P:=P) w T _ _ _ _ h.sy,hr,h.sz,sliced,hz]⟩
theorem QG{ad:ax}{pos:String}{aft:Array Go.Edge}[hx:Ev L x (I ad n c)][h:gv P T s](hd:ev d N L=true)(hn:0<n)
  (kk:∀a',(∀b o,1<c->ad=O ⟨b,o,U⟩->a'=O ⟨b,o+s,U⟩)->cU N ds S w0 ((d,I a' (n-1) (c-1))::L) H (wpListIn (FW ro) 0 P ops Q rest)):cU N ds S w0 L H (wpListIn (FW ro) 0 P ops Q (⟨O d,.slice T x (O (.const (J Z 1))) U U,ty,pos,aft,U⟩::rest)):=λa w hS=>by
 have hr:=run_slice_l (P:=P) w T ad n c h.sy Z 1 A A;have ec:a.eval (.const (J Z 1))=J Z 1:=rfl;refine gj (v:=.slice (if c=1 then ad else ad.map (·.add s)) (n-1) (c-1)) (w':=w) rfl (λ_ h=>by cases h) ?_ ?_
 ·simp[execOp,hx.eq _ _ _ hS.fr,ec,run_sliceAt_slice (P:=P) w T _ _ _ _ h.sy,hr,h.sz,sliced]
 ·refine kk _ (λb o h1 e=>?_) _ _ ⟨hS.fr.fv hd _,hS.wd⟩
  subst e;rw[ai A];simp[Addr.add_lit]
theorem Nf{dT sT e qz off dl dc sl sc sb so:Nat}{z:K}(k:Nat){xs:List K}(cs:List K){pos:String}{aft:Array Go.Edge}[h:dt P dT e 1 qz [z]][hx:Ev L x (I (O ⟨b,o+off,U⟩) dl dc)][hy:Ev L y (I (O ⟨sb,so,U⟩) sl sc)]
  (hk:H[k]?=O (G (O ⟨b,o,U⟩) n c e 1 xs)) (hd:ev d N L=true) (hn:cs.length=min sl dl) (se:∀w,Wd S w0 H w->∀j v,cs[j]?=O v->w.cell? ⟨sb,so+j,U⟩=O v) (pJ:off+cs.length<=xs.length) (h1:∀v∈cs,v.oneCell'=true)
  (kk:cU N ds S w0 ((d,J Z cs.length)::L) (H.set k (G (O ⟨b,o,U⟩) n c e 1 (xs.take off++cs++xs.drop (off+cs.length)))) (wpListIn (FW ro) 0 P ops Q rest)):cU N ds S w0 L H (wpListIn (FW ro) 0 P ops Q (⟨O d,.call {callee:=.builtin .copy,args:=#[x,y],argTypes:=#[dT,sT]},ty,pos,aft,U⟩::rest)):=λa w hS=>by
 obtain⟨hl,qg,ED,pre,sp,rfl,EP,hb⟩:=hS.wd.nj hk;obtain⟨i,zz,hi,_,_,YR,_⟩:=h.get;have ce:b<w.heap.size:=(jl.1 hb).1;have hr:=run_copy_row (P:=P) w dT sT ty e b (pre.length+off) dl dc ⟨sb,so,U⟩ sl sc _ e cs h.sy (by rw[hi];simp[YR]) hb hn (λj v hj=>by rw[Addr.add_lit];exact se w hS.wd j v hj) dr h1;have iy:(pre++xs++sp).take (pre.length+off)++cs++(pre++xs++sp).drop (pre.length+off+cs.length)=pre++(xs.take off++cs++xs.drop (off+cs.length))++sp:=by
  rw[fu pre xs sp,uM,eB,yd,mg A,AF A];simp
 simp only at hr;rw[iy]at hr;refine gj (v:=.int Z cs.length) (w':=w.setRow b (pre++(xs.take off++cs++xs.drop (off+cs.length))++sp).toArray) rfl (λ_ h=>by cases h) ?_ ?_
 ·simp[execOp,resolve,invoke,builtin,hx.eq _ _ _ hS.fr,hy.eq _ _ _ hS.fr,hr,goInt]
 ·refine kk _ _ ⟨hS.fr.fv hd _,?_⟩
  have mK:∀q:Array K,(w.setRow b q).heap.size=w.heap.size:=λq=>by simp[World.setRow]
  refine hS.wd.nV hk ⟨rfl,rfl,rfl,by rw[mK];exact cz _,λj _ hj=>setRow_other w b j _ λe'=>hj (by simp[G,e'])⟩ (λb' oX=>?_) λw2 lP=>?_
  ·simp only[G,b_,cF]at oX|-
   subst oX;exact⟨.inl rfl,by rw[mK];exact ce⟩
  ·have:=lP b (by simp[G])
   refine⟨?_,.inr ⟨b,pre,sp,rfl,qg,ED,EP,?_⟩⟩
   ·simp only[bW,dA,eS];omega
   ·rw[this]
    exact setRow_heap w b _ _ e _ hb
end
theorem aY.known{l:List α}{dL:ae->α->List K->Prop}(h:aY w (I (O ⟨b,o,U⟩) n c) s l dL):∀(i:Nat) x,l[i]?=O x->∃cs,ct w b (o+i*s) cs/\dL w x cs:=by
 intro i x hx;obtain⟨a,_,_,b',o',e,_,_,_,_,ha,iw⟩:=h;simp only[Value.slice.injEq]at e;obtain⟨rfl,_,_⟩:=e;have:=ha (qU (aA hx));simp only[cF,Addr.mk.injEq,and_true]at this;obtain⟨rfl,rfl⟩:=this;exact iw i x hx
theorem aY.at{a:ax}{l:List α}{dL:ae->α->List K->Prop}(h:aY w (I a n c) s l dL):n=l.length/\n<=c/\n<=140737488355328/\∃b o,(l≠[]->a=O ⟨b,o,U⟩)/\∀(i:Nat) x,l[i]?=O x->∃cs,ct w b (o+i*s) cs/\dL w x cs:=by
 obtain⟨_,_,_,b,o,e,h1,h2,h3,_,ha,iw⟩:=h;simp only[Value.slice.injEq]at e;obtain⟨rfl,rfl,rfl⟩:=e;exact⟨h1,h2,h3,b,o,ha,iw⟩
open Classical in
noncomputable def cC(S:Nat->Prop)(w:ae):ae:={w with heap:=Array.ofFn (n:=w.heap.size) λi=>if S i.1 then .deferred (O [])else w.heap[i.1]}
theorem ml(S:Nat->Prop)(w:ae):(cC S w).heap.size=w.heap.size:=by simp[cC]
theorem kL(w:ae)(h:¬S b):(cC S w).heap[b]?=w.heap[b]?:=by
 unfold cC
 by_cases hb:b<w.heap.size
 ·simp[hb,h]
 ·rw[zF (aD hb),zF A]
theorem Ro(w:ae){p:Addr}(h:S p.block):(cC S w).cell? p=U:=by
 unfold cC World.cell?
 by_cases hb:p.block<w.heap.size
 ·simp[hb,h]
 ·rw[zF (aD hb)]
theorem oZ{p:Addr}{v:K}(h:(cC S w).cell? p=O v):¬S p.block/\w.cell? p=O v:=by
 have hn:¬S p.block:=λhs=>by rw[Ro w hs]at h;cases h
 exact⟨hn,by rw[<-h];exact(World.cell?_of_block (kL w hn)).symm⟩
theorem VM(S:Nat->Prop)(w:ae):nX S (cC S w) w:=⟨rfl,rfl,rfl,by rw[ml];exact cz _,λk _ hk=>(kL w hk).symm⟩
section
variable {P:Program} {N:Nat} {ds:List Deferred} {S:Nat->Prop} {w0 w w':ae} {L:List (Nat×K)} {H H1 H2 cZ:List cq} {p:Act->ae->Prop}
theorem Wd.beside(h:Wd S w0 (H1++H2) w){e:cq}(he:e∈H2):e.ok (cC (df H1) w):=by
 refine h.ok e (en _ he) _ (by rw[ml];exact cz _) λb hb=>kL w λ⟨f,hf,Ar⟩=>?_;exact(qV.1 h.apart).2.2 f hf e he b Ar hb
theorem Wd.kw(h:Wd S w0 (H1++H2) w):Wd (λ_=>True) (cC (df H1) w) H2 (cC (df H1) w):=by
 have hk:∀e∈H2,∀b,e.fp b->¬df H1 b:=λe he b hb ⟨f,hf,Ar⟩=>(qV.1 h.apart).2.2 f hf e he b Ar hb;refine⟨nX.refl _ _,λe he b hb=>⟨.inl trivial,by rw[ml];exact(h.own e (en _ he) b hb).2⟩,λe he w' hs hw=>?_,(qV.1 h.apart).2.1⟩;exact h.ok e (en _ he) w' (by rwa[ml]at hs) λb hb=>(hw b hb).trans (kL w (hk e he b hb))
theorem Wd.IV(h:Wd db w0 (H1++H2) w):nX db w0 (cC (df H1) w):=by
 refine⟨h.c_.os,h.c_.tape,h.c_.output,by rw[ml];exact h.size,λk hk _=>(kL w λ⟨e,he,hb⟩=>?_).trans (h.c_.block k hk λh=>h)⟩;have:=(h.own e (cM _ he) k hb).1;exact this.elim (λh=>h) λh=>by omega
theorem Wd.adh(h:Wd S w0 (H1++H2) w):Wd (df H1) (cC (df H1) w) H1 w:=
 ⟨VM _ _,λe he b hb=>⟨.inl ⟨e,he,hb⟩,(h.own e (cM _ he) b hb).2⟩,λe he=>h.ok e (cM _ he),(qV.1 h.apart).1⟩
theorem Wd.ni{T:Nat->Prop}(h:Wd T (cC T w) cZ w'):Wd T w cZ w':=
 ⟨⟨h.c_.os,h.c_.tape,h.c_.output,by have:=h.c_.size;rwa[ml]at this,λk hk hT=>(h.c_.block k (by rw[ml];exact hk) hT).trans (kL w hT)⟩,λe he b hb=>by have:=h.own e he b hb;rwa[ml]at this,h.ok,h.apart⟩
theorem Wd.ov{T:Nat->Prop}(h:Wd T (cC T w) cZ w'):∀p v,(cC T w).cell? p=O v->w'.cell? p=O v:=λp v hc=>by
 have ce:=jC _ p hc;rw[<-hc];exact World.cell?_of_block (h.c_.block _ ce (oZ hc).1)
theorem iF{T:Nat->Prop}{cs:List K}(hc:ct (cC T w) b o cs)(fZ:cs≠[]):iO T b:=by
 cases cs with
 |nil=>exact absurd rfl fZ
 |cons c cs=>exact⟨(oZ (hc 0 c rfl)).1⟩
theorem mA(h:∀w,Wd S w0 (H1++H2) w->cU N ds (df H1) (cC (df H1) w) L H1 p):cU N ds S w0 L (H1++H2) p:=λa w hS=>h w hS.wd a w ⟨hS.fr,hS.wd.adh⟩
end
end
section
open Go.Lib
section
namespace Mul
theorem VR(a:Nat)(ha:a<18446744073709551616):bits .and .u64 (a:Int) 4294967295=((a%4294967296:Nat):Int):=by
 have h:=bits_and_u64_nat a 4294967295 ha A;have e:a&&& 4294967295=a%4294967296:=Nat.and_two_pow_sub_one_eq_mod a 32;rw[e]at h;exact h
theorem agd(a:Nat):(a:Int)/4294967296=((a/4294967296:Nat):Int):=by omega
theorem aiO(a b:Nat):(a:Int)*(b:Int)=((a*b:Nat):Int):=(Int.natCast_mul a b).symm
theorem af7(a b:Nat):(a:Int)+(b:Int)=((a+b:Nat):Int):=(Int.natCast_add a b).symm
theorem Dl(a:Nat)(ha:a<18446744073709551616):IntKind.u64.wrap (a:Int)=(a:Int):=by rw[IntKind.wrap_u64];omega
theorem af3(a:Nat):IntKind.u64.wrap (a:Int)=((a%18446744073709551616:Nat):Int):=by rw[IntKind.wrap_u64];omega
end Mul
set_option maxHeartbeats 1000000 in
theorem ZB(x y:Nat)(hx:x<18446744073709551616)(hy:y<18446744073709551616)(w:ae):
  Calls Y 161 #[J .u64 x,J .u64 y] w λe w'=>e=.returned (.tuple #[J .u64 ((x*y/18446744073709551616:Nat):Int),J .u64 ((x*y%18446744073709551616:Nat):Int)])/\w'=w:=by
 obtain⟨bd,bt,bw,hhi⟩:=Lib.mul64_hi x y hx hy;have ba:=Lib.half_mul_le (a:=x/4294967296) (b:=y/4294967296) A A;have bb:=Lib.half_mul_le (a:=x/4294967296) (b:=y%4294967296) A A;have bc:=Lib.half_mul_le (a:=x%4294967296) (b:=y/4294967296) A A;have ba':x/4294967296*(y/4294967296)<18446744073709551616:=A;have bb':x/4294967296*(y%4294967296)<18446744073709551616:=A;have bc':x%4294967296*(y/4294967296)<18446744073709551616:=A;have bh1:x/4294967296*(y/4294967296)+(x/4294967296*(y%4294967296)+x%4294967296*(y%4294967296)/4294967296)/4294967296<18446744073709551616:=A;have bh:x/4294967296*(y/4294967296)+(x/4294967296*(y%4294967296)+x%4294967296*(y%4294967296)/4294967296)/4294967296+((x/4294967296*(y%4294967296)+x%4294967296*(y%4294967296)/4294967296)%4294967296+x%4294967296*(y/4294967296))/4294967296<18446744073709551616:=A
 go_enter func161,ntmps161
 go_wp2
 simp only[Mul.VR x hx,Mul.VR y hy,Mul.agd,Mul.aiO,Mul.af7,Mul.Dl _ bd,Mul.Dl _ bb',Mul.Dl _ bt,Mul.VR _ bt,Mul.Dl _ bc',Mul.Dl _ bw,Mul.Dl _ ba',Mul.Dl _ bh1,Mul.Dl _ bh,Mul.af3 (x*y)];rw[hhi]
 go_ret2
 exact⟨rfl,rfl⟩
instance:bf Y 161:=⟨call161⟩
instance:bf Y 133:=⟨call133⟩
attribute [local irreducible] wpListIn Code.wpIn Exit.then Exit.inBlock bodyPost wpQuiet wpAnyIn
theorem V0(x y:Nat)(hx:x<18446744073709551616)(hy:y<18446744073709551616)(Zk:x*y<18446744073709551616)(w:ae):
  gF Y 133 [J .u64 x,J .u64 y] w (.tuple #[J .u64 0,J .u64 ((x*y:Nat):Int)]):=by
 have h64:∀w:ae,Calls Y 161 #[J .u64 x,J .u64 y] w λe w'=>e=.returned (.tuple #[J .u64 0,J .u64 ((x*y:Nat):Int)])/\w'=w:=by
  intro w;have h:=ZB x y hx hy w;rw[Nat.div_eq_of_lt Zk,Nat.mod_eq_of_lt Zk]at h;exact h
 clear hx hy Zk;refine aR func133 rfl ntmps133 rfl (Wd.nil db w) ?_;refine aU ?_;refine bY (u:=.tuple #[J .u64 0,J .u64 ((x*y:Nat):Int)]) rfl (λw' _=>callsIn_wide.2 ((h64 w').mono λe w2 he=>⟨_,he.1,rfl,by rw[he.2];exact nX.refl _ _⟩)) ?_;refine aU ?_;exact T1 rfl λ_ hw=>⟨rfl,hw.c_⟩
end
end
section
set_option maxHeartbeats 8000000
attribute [local irreducible] wpListIn Code.wpIn Exit.then Exit.inBlock bodyPost wpQuiet wpAnyIn wpAnyH
instance:SU Y 3 172 .u64:=⟨bC,bC,bC⟩
instance:SU Y 172 3 Z:=⟨bC,bC,bC⟩
theorem LJ(z y:K)(m n:Nat)(_hm:m<=n)(k:Nat)(hk:k=min (n-m) m):(aI m z++aI (n-m) y).take m++aI k z++(aI m z++aI (n-m) y).drop (m+k)=aI (m+k) z++aI (n-(m+k)) y:=by
 rw[mg bT,jR bT,List.drop_append,List.drop_of_length_le (by rw[im];omega)];simp only[im,aS,List.drop_replicate];have e:n-m-(m+k-m)=n-(m+k):=A;rw[<-List.replicate_append_replicate,e]
theorem Fv(b0 o0 n:Nat)(z:Int)(w:ae)(hx:w.cell? ⟨b0,o0,U⟩=O (J Z z))(hn:0<n)(SE:n<=100000):
  iL Y 108 [I (O ⟨b0,o0,U⟩) 1 1,J Z n] w λu w'=>∃a:Nat,u=I (O ⟨a,0,U⟩) n n/\Wd db w [G (O ⟨a,0,U⟩) n n 3 1 (aI n (J Z z))] w'/\True:=by
 refine aR func108 rfl ntmps108 rfl (Wd.nil db w) ?_;refine aU ?_;refine vW rfl rfl ?_;refine bA ?_;refine vW rfl (by rw[IntKind.wrap_u64];omega) ?_;refine bY rfl (λw' _=>V0 1 n A A A w') ?_;rw[Nat.one_mul];refine aV ?_;rw[show decide (9223372036854775807<(n:Int))=false by simp;omega,show decide ((0:Int)<0)=false from rfl];refine aU ?_;refine vW rfl ?_ ?_
 ·rw[IntKind.wrap_i64];omega
 repeat(first|refine bA ?_|refine dd λ_ _=>?_)
 rename_i a _;refine Nf (b:=a) (o:=0) (off:=0) 0 (aI 1 (J Z z)) rfl rfl (by simp only[im];omega) (λw' hw j v hj=>?_) (by simp only[im];omega) (λv hv=>by rw[oC hv];rfl) ?_
 ·match j,hj with
  |0,hj=>
   obtain rfl:_=v:=aD hj;exact jv hw.c_ hx
 have e0:=LJ (J Z z) (J Z 0) 0 n A 1;simp only[im,bI];rw[show(aI n (J Z 0)).take 0++aI 1 (J Z z)++(aI n (J Z 0)).drop (0+1)=aI 1 (J Z z)++aI (n-1) (J Z 0) by simp[List.drop_replicate]];refine aU ?_;refine bH (λ(m:Nat)=>1<=m/\m<=n) (λm=>[(8,J Z m),(7,I (O ⟨a,0,U⟩) n n)]) (λm=>[G (O ⟨a,0,U⟩) n n 3 1 (aI m (J Z z)++aI (n-m) (J Z 0))]) (λm=>n-m) 1 ⟨cz _,hn⟩ (aP V aF) λm ⟨hm1,hmn⟩=>?_;refine bA ?_;apply aL<;>intro h1
 ·have ce:m<n:=aD h1
  have hc1:SV m n n:=⟨A,ce⟩;have G2:JG m n:=⟨A⟩;refine aU ?_;refine AR [(8,J Z ((m+min (n-m) m:Nat):Int)),(7,I (O ⟨a,0,U⟩) n n)] [G (O ⟨a,0,U⟩) n n 3 1 (aI (m+min (n-m) m) (J Z z)++aI (n-(m+min (n-m) m)) (J Z 0))] mixed ?_ ?_
  ·repeat' (first|refine gu 0 rfl E ?_|refine gu 1 rfl E ?_|refine gu 2 rfl E ?_|refine gu 3 rfl E ?_|refine gu 4 rfl E ?_|refine gu 5 rfl E ?_|refine gu 6 rfl E ?_|refine AQ E ?_|refine any_nil|refine pC E ?_|refine any_cons ?_ ?_)
   rw[km];refine Nf (b:=a) (o:=0) (off:=m) 0 (aI (min (n-m) m) (J Z z)) rfl rfl (by simp only[im];omega) (λw' hw j v hj=>?_) (by simp only[im,bW];omega) (λv hv=>by rw[oC hv];rfl) ?_
   ·rw[ku]at hj
    split at hj
    ·exact hw.dp (k:=0) rfl (by rw[eX (by rw[im];omega),ku,al A];exact hj)
    ·cases hj
   simp only[im,bI];rw[LJ _ _ m n A _ rfl]
   repeat' (first|refine Cj E ?_|refine AQ E ?_|refine any_nil|refine pC E ?_|refine any_cons ?_ ?_|refine ms ?_|refine qm ?_|refine xq rfl ?_|refine zk rfl A A ?_)
   all_goals
    rw[<-Int.natCast_add]
   all_goals exact aP V aF
  ·refine aU ?_
   exact a_ (m+min (n-m) m) ⟨A,A⟩ A V aF
 ·have fX:m=n:=by have:=h1;simp at this;omega
  subst fX;rw[cV,List.replicate_zero,cj];refine aV ?_;exact dh rfl λw' hw=>⟨a,rfl,hw,trivial⟩
theorem acZ(bl:List aq)(l:List Nat)(ho:Ord bl l)(up:List Int)(k:Nat)(hI:Inv bl l up k)(at':List Int)(pZ:∀b∈l,at'[b]?=O ((rk l b:Nat):Int))(_hlen:up.length<=100)(ua ta:K)(w0:ae)
  (hu:aY w0 ua 1 up gI) (ht:aY w0 ta 1 at' gI) (a b:Nat) (ha:Pr up a) (hb:Pr up b):
  iL Y 109 [ua,ta,J Z a,J Z b] w0 λu w'=>∃z:Nat,u=J Z z/\Wd db w0 [] w'/\sO up a b z:=by
 obtain⟨ua,un,uc,ub,uo,rfl,DA,akQ,akP,huc,hua,iw⟩:=hu;obtain⟨ta,tn,tc,tb,BQ,rfl,qZ,Dz,Gj,XD,Ax,tg⟩:=ht;refine aR func109 rfl ntmps109 rfl (Wd.nil db w0) ?_;refine aU ?_;refine bH (λ(x:Nat×Nat)=>Pr up x.1/\Pr up x.2/\∀z,sO up x.1 x.2 z->sO up a b z) (λx=>[(0,I ua un uc),(1,I ta tn tc),(2,J Z x.1),(3,J Z x.2)]) (λ_=>[]) (λx=>rk l x.1+rk l x.2) (a,b) ⟨ha,hb,λ_ h=>h⟩ (aP V aF) λx ⟨hx,hy,cX⟩=>?_;obtain⟨x,y⟩:=x;simp only at hx hy cX|-
 refine bA ?_;apply aL<;>intro h1
 ·have fZ:x≠y:=λe=>by subst e;simp at h1
  obtain⟨cx,KD⟩:=hx;obtain⟨cy,QS⟩:=hy;have pw:=hI.uy ⟨cx,KD⟩;have vK:=hI.uy ⟨cy,QS⟩;have hax:=pZ x pw;have hay:=pZ y vK;have mJ:cl ua ub uo:=⟨hua (aZ KD)⟩;have uu:cl ta tb BQ:=⟨Ax (aZ hax)⟩;have l1:cg x un:=⟨by rw[DA];exact(aJ.1 KD).1⟩;have l2:cg y un:=⟨by rw[DA];exact(aJ.1 QS).1⟩;have l3:cg x tn:=⟨by rw[qZ];exact(aJ.1 hax).1⟩;have l4:cg y tn:=⟨by rw[qZ];exact(aJ.1 hay).1⟩;obtain⟨_,c1,rfl,_⟩:=iw x _ KD;obtain⟨_,c2,rfl,_⟩:=iw y _ QS;obtain⟨_,c3,rfl,_⟩:=tg x _ hax;obtain⟨_,c4,rfl,_⟩:=tg y _ hay;have d1:bu w0 ub (uo+x*1) _:=⟨c1⟩;have d2:bu w0 ub (uo+y*1) _:=⟨c2⟩;have d3:bu w0 tb (BQ+x*1) _:=⟨c3⟩;have d4:bu w0 tb (BQ+y*1) _:=⟨c4⟩;refine aU ?_;refine kX mixed E ?_;refine kJ ?_;refine bA ?_;apply aL<;>intro h2
  ·have ce:rk l x<rk l y:=aD h2
   obtain⟨c,hc,SA,hcr,ED⟩:=hI.PD ho (a:=y) (b:=x) ⟨cy,QS⟩ ⟨cx,KD⟩ (Ne.symm fZ) A;rw[QS]at hc;have e:cy=c:=by have:=bJ hc;omega
   subst e;refine aU ?_;exact a_ (cy,x) ⟨SA,⟨cx,KD⟩,λz hz=>cX z (ED z hz).comm⟩ bB V aF
  ·have ce:rk l y<=rk l x:=by have:=h2;simp at this;omega
   obtain⟨c,hc,SA,hcr,ED⟩:=hI.PD ho (a:=x) (b:=y) ⟨cx,KD⟩ ⟨cy,QS⟩ fZ ce;rw[KD]at hc;have e:cx=c:=by have:=bJ hc;omega
   subst e;refine aU ?_;exact a_ (cx,y) ⟨SA,⟨cy,QS⟩,λz hz=>cX z (ED z hz)⟩ bB V aF
 ·have he:x=y:=by have:=h1;simp at this;omega
  subst he;refine aV ?_;exact dh rfl λw hw=>⟨x,rfl,hw,cX x (meet_self hx)⟩
end
end Go.Proofs.YthfhgolkafpmnaaGreatDoor
