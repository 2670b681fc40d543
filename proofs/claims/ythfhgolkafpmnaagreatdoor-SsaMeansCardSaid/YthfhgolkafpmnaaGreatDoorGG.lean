/- Texts joined: DomP Cut Hold Mul DomA. -/
import Derived.Laws.Bits64b
import Derived.Laws.CopyRow
import Derived.Laws.IdiomCopy
import Derived.Lib.Mul64
import Derived.Tactics
import Derived.Test.YthfhgolkafpmnaaGreatDoorGD
namespace Go.Proofs.YthfhgolkafpmnaaGreatDoor
open Go.Value renaming int->U,slice->J
open Go.IntKind renaming i64->O
open Option renaming some->Z,none->A
open Go renaming Value->V,World->C
open Go.Proofs.Tryz
open Go.Proofs.Tryz renaming prog->ae
open Go Go.RowKit
section
theorem MZ(bl:List E)(cY:cT bl):∀(f b:Nat) (st:List Bool×List Nat),st.1[b]?=Z false->
  ∃N,(yg bl f b st).2=st.2++N/\N.Nodup/\(∀x∈N,st.1[x]?=Z false/\(yg bl f b st).1[x]?=Z true)/\(0<f->∃N',N=N'++[b])/\∀(i x:Nat),N[i]?=Z x->x≠b->∃j p,i<j/\N[j]?=Z p/\Edge bl p x
 |0,b,st,hb=>⟨[],by simp[yg],by simp,by simp,by simp,by simp⟩
 |f+1,b,st,hb=>by
  have key:∀(l:List Nat),(∀t∈l,Edge bl b t)->∀st1:List Bool×List Nat,
    ∃N,(l.foldl (gC bl f) st1).2=st1.2++N/\N.Nodup/\(∀x∈N,st1.1[x]?=Z false/\(l.foldl (gC bl f) st1).1[x]?=Z true)/\∀(i x:Nat),N[i]?=Z x->Edge bl b x∨∃j p,i<j/\N[j]?=Z p/\Edge bl p x:=by
   intro l
   induction l with
   |nil=>exact λ_ st1=>⟨[],by simp,by simp,by simp,by simp⟩
   |cons t l ih=>
    intro hl st1;simp only[gj];obtain⟨N2,h1,h2,h3,h4⟩:=ih (λt' Kr=>hl t' (cO _ Kr)) (gC bl f st1 t);rcases nH (bl:=bl) (f:=f) (t:=t) (st:=st1)with e|⟨hf,e⟩
    ·rw[e]at h1 h3⊢
     exact⟨N2,h1,h2,h3,h4⟩
    ·obtain⟨N1,g1,g2,g3,g4,g5⟩:=MZ bl cY f t st1 hf
     rw[e]at h1 h3⊢;refine⟨N1++N2,by rw[h1,g1,dz],?_,?_,?_⟩
     ·refine pI.2 ⟨g2,h2,λx hx y hy e'=>?_⟩
      subst e';have:=(g3 x hx).2;rw[(h3 x hy).1]at this;cases this
     ·intro x hx
      rcases bA.1 hx with hx|hx
      ·exact⟨(g3 x hx).1,(i_ bl f _ l).2.1 x (g3 x hx).2⟩
      ·refine⟨?_,(h3 x hx).2⟩
       have h:=(h3 x hx).1;cases hq:st1.1[x]? with
       |none=>
        have h5:=(oP bl f t st1 hf).1;have h6:=(az.1 h).1;rw[kD]at hq;omega
       |some v=>
        cases v with
        |false=>rfl
        |true=>
         have:=(oP bl f t st1 hf).2.1 x hq;rw[h]at this;cases this
     ·intro i x hx
      by_cases hi:i<N1.length
      ·rw[dY hi]at hx
       by_cases hxt:x=t
       ·subst hxt;exact .inl (hl x aC)
       ·obtain⟨j,p,hj,hp,he⟩:=g5 i x hx hxt
        refine .inr ⟨j,p,hj,?_,he⟩;rw[dY (az.1 hp).1];exact hp
      ·rw[dC I]at hx
       rcases h4 _ x hx with h|⟨j,p,hj,hp,he⟩
       ·exact .inl h
       ·refine .inr ⟨N1.length+j,p,I,?_,he⟩
        rw[dC I,show N1.length+j-N1.length=j by omega];exact hp
  obtain⟨N,h1,h2,h3,h4⟩:=key ((db bl b).reverse.map Int.toNat) (λt ht=>by
   obtain⟨akj,hz,rfl⟩:=aV.1 ht;have hz:akj∈db bl b:=ax hz;unfold Edge;rw[cY.nat hz];exact hz) (st.1.set b true,st.2)
  have bS:=(az.1 hb).1;have hbN:b∉N:=λhm=>by
   have:=(h3 b hm).1;simp[bS]at this
  rw[mA];refine⟨N++[b],by simp only;rw[h1,dz],?_,?_,λ_=>⟨N,rfl⟩,?_⟩
  ·refine pI.2 ⟨h2,by simp,λx hx y hy e'=>?_⟩
   simp only[bR]at hy;exact hbN (by rw[<-hy,<-e'];exact hx)
  ·intro x hx
   rcases bA.1 hx with hx|hx
   ·have:=h3 x hx
    refine⟨?_,this.2⟩;have h:=this.1;simp only[ez]at h
    by_cases e':b=x
    ·subst e';exact absurd hx hbN
    ·rw[if_neg e']at h;exact h
   ·simp only[bR]at hx
    subst hx;exact⟨hb,(i_ bl f _ _).2.1 x (by simp[bS])⟩
  ·intro i x hx BJ
   by_cases hi:i<N.length
   ·rw[dY hi]at hx
    rcases h4 i x hx with h|⟨j,p,hj,hp,he⟩
    ·exact⟨N.length,b,hi,by simp,h⟩
    ·refine⟨j,p,hj,?_,he⟩
     rw[dY (az.1 hp).1];exact hp
   ·rw[dC I]at hx
    have:=(az.1 hx).1;simp only[j_]at this;rw[show i-N.length=0 by omega]at hx;simp at hx;exact absurd hx.symm BJ
def bI(bl:List E):List Nat:=(fx bl).reverse
theorem FP{bl:List E}(cY:cT bl)(h0:0<bl.length):(fx bl).Nodup/\(∃N',fx bl=N'++[0])/\∀(i x:Nat),(fx bl)[i]?=Z x->x≠0->∃j p,i<j/\(fx bl)[j]?=Z p/\Edge bl p x:=by
 obtain⟨N,h1,h2,_,h4,h5⟩:=MZ bl cY bl.length 0 (List.replicate bl.length false,[]) (by simp[h0]);have e:fx bl=N:=by unfold fx;rw[h1];rfl
 rw[e];exact⟨h2,h4 h0,h5⟩
structure Ord(bl:List E)(l:List Nat):Prop where
 nodup:l.Nodup
 mem:∀x,x∈l↔gH bl (-1) 0 x
 zero:l[0]?=Z 0
 ahead:∀(i x:Nat),l[i]?=Z x->x≠0->∃j p,j<i/\l[j]?=Z p/\Edge bl p x
theorem rC{bl:List E}(cY:cT bl)(h0:0<bl.length):Ord bl (bI bl):=by
 obtain⟨h1,⟨N',h2⟩,h3⟩:=FP cY h0;refine⟨by unfold bI;exact(List.reverse_perm _).nodup_iff.2 h1,λx=>by unfold bI;rw[List.mem_reverse];exact tu cY h0,by unfold bI;rw[h2];simp,λi x hx Eu=>?_⟩;unfold bI at hx⊢;have hi:=(az.1 hx).1;rw[vZ]at hi;rw[List.getElem?_reverse hi]at hx;obtain⟨j,p,hj,hp,he⟩:=h3 _ x hx Eu;have jw:=(az.1 hp).1;refine⟨(fx bl).length-1-j,p,I,?_,he⟩;rw[List.getElem?_reverse I,show(fx bl).length-1-((fx bl).length-1-j)=j by omega];exact hp
def jY(bl:List E)(a b:Nat):Prop:=gH bl (-1) 0 a/\gH bl (-1) 0 b/\(a=b∨a=0∨¬gH bl a 0 b)
theorem gH.all{bl:List E}{wo:Int}{a b:Nat}(h:gH bl wo a b):gH bl (-1) a b:=by
 induction h with
 |refl=>exact .refl
 |step _ he _ ih=>exact ih.step he I
theorem jY.refl{bl:List E}{b:Nat}(h:gH bl (-1) 0 b):jY bl b b:=⟨h,h,.inl rfl⟩
theorem jY.ED{bl:List E}{a b p:Nat}(h:jY bl a b)(Nf:a≠b)(he:Edge bl p b)(hp:gH bl (-1) 0 p):jY bl a p:=by
 refine⟨h.1,hp,?_⟩;rcases h.2.2 with e|e|e
 ·exact absurd e Nf
 ·exact .inr (.inl e)
 ·refine .inr (.inr λhr=>e (hr.step he I))
theorem KV{bl:List E}{akf:Nat->Nat->Prop}(h0:∀a,akf a 0->a=0)(hs:∀a b p,b≠0->akf a b->gH bl (-1) 0 p->Edge bl p b->a=b∨akf a p){a b:Nat}(ha:gH bl (-1) 0 a)(hb:gH bl (-1) 0 b)(h:akf a b):jY bl a b:=by
 refine⟨ha,hb,?_⟩
 by_cases e0:a=0
 ·exact .inr (.inl e0)
 by_cases e:a=b
 ·exact .inl e
 refine .inr (.inr λhr=>?_);have key:∀x,gH bl a 0 x->¬akf a x:=by
  intro x hx
  induction hx with
  |refl=>exact λhd=>e0 (h0 a hd)
  |@step x y GW he hw ih=>
   intro hd
   by_cases hy:y=0
   ·subst hy;exact e0 (h0 a hd)
   ·rcases hs a y x hy hd GW.all he with h1|h1
    ·exact hw I
    ·exact ih h1
 exact key b hr h
def kS(bl:List E)(c b:Nat):Prop:=jY bl c b/\c≠b/\∀a,jY bl a b->a≠b->jY bl a c
theorem jY.antisymm{bl:List E}{a b:Nat}(h:jY bl a b)(k:jY bl b a):a=b:=by
 by_cases e:a=b
 ·exact e
 exfalso;have key:∀x,gH bl (-1) 0 x->(gH bl a 0 x/\gH bl b 0 x)∨(gH bl a 0 b)∨(gH bl b 0 a)∨a=0∨b=0:=by
  intro x hx
  induction hx with
  |refl=>exact .inl ⟨.refl,.refl⟩
  |@step x y GW he hw ih=>
   rcases ih with⟨h1,h2⟩|h
   ·by_cases ea:y=a
    ·subst ea;exact .inr (.inr (.inl (h2.step he I)))
    ·by_cases eb:y=b
     ·subst eb;exact .inr (.inl (h1.step he I))
     ·exact .inl ⟨h1.step he I,h2.step he I⟩
   ·exact .inr h
 have z0:∀c,jY bl c 0->c=0:=λc hc=>by
  rcases hc.2.2 with e|e|e
  ·exact e
  ·exact e
  ·exact absurd .refl e
 have f1:a≠0:=λe0=>by subst e0;exact e (z0 b k).symm
 have f2:b≠0:=λe0=>by subst e0;exact e (z0 a h)
 have g1:¬gH bl a 0 b:=(h.2.2.resolve_left e).resolve_left f1;have g2:¬gH bl b 0 a:=(k.2.2.resolve_left (Ne.symm e)).resolve_left f2;rcases key a h.1 with⟨_,h2⟩|h|h|h|h
 ·exact g2 h2
 ·exact g1 h
 ·exact g2 h
 ·exact f1 h
 ·exact f2 h
theorem kS.ace{bl:List E}{b c d:Nat}(h:kS bl c b)(k:kS bl d b):c=d:=(k.2.2 c h.1 h.2.1).antisymm (h.2.2 d k.1 k.2.1)
open Classical in
noncomputable def cS(bl:List E)(b:Nat):Int:=if h:∃c,kS bl c b then(Classical.choose h:Nat)else -1
theorem iw{bl:List E}{b c:Nat}(h:kS bl c b):cS bl b=c:=by
 have hx:∃c,kS bl c b:=⟨c,h⟩;unfold cS;rw[dif_pos hx,(Classical.choose_spec hx).ace h]
theorem gB{bl:List E}{b:Nat}(h:∀c,¬kS bl c b):cS bl b=-1:=by
 unfold cS;rw[dif_neg λ⟨c,hc⟩=>h c hc]
def Pr(up:List Int)(b:Nat):Prop:=∃c:Nat,up[b]?=Z (c:Int)
inductive sL(up:List Int)(a:Nat):Nat->Prop
 |refl:sL up a a
 |up {b c:Nat}:b≠0->up[b]?=Z (c:Int)->sL up a c->sL up a b
theorem sL.trans{up:List Int}{a b c:Nat}(h:sL up a b)(k:sL up b c):sL up a c:=by
 induction k with
 |refl=>exact h
 |up h0 he _ ih=>exact .up h0 he ih
def rk(l:List Nat)(b:Nat):Nat:=l.idxOf b
theorem xW{l:List Nat}(hn:l.Nodup){i x:Nat}(h:l[i]?=Z x):rk l x=i:=by
 obtain⟨hi,rfl⟩:=az.1 h;exact List.Nodup.idxOf_getElem hn i hi
theorem K7{l:List Nat}{x:Nat}(h:x∈l):l[rk l x]?=Z x:=by
 have hi:l.idxOf x<l.length:=vY.2 h;unfold rk;rw[a_ hi,mN hi]
theorem rG{l:List Nat}{x y:Nat}(hx:x∈l)(hy:y∈l)(h:rk l x=rk l y):x=y:=by
 have h1:=K7 hx;rw[h,K7 hy]at h1;simpa using h1.symm
inductive MT(bl:List E)(l:List Nat)(a:Nat):Nat->Prop
 |refl:MT bl l a a
 |step {x y:Nat}:MT bl l a x->Edge bl x y->rk l x<rk l y->MT bl l a y
theorem MT.trans{bl:List E}{l:List Nat}{a b c:Nat}(h:MT bl l a b)(k:MT bl l b c):MT bl l a c:=by
 induction k with
 |refl=>exact h
 |step _ he hr ih=>exact ih.step he hr
theorem MT.le{bl:List E}{l:List Nat}{a b:Nat}(h:MT bl l a b):rk l a<=rk l b:=by
 induction h with
 |refl=>exact bG _
 |step _ _ hr ih=>omega
theorem MT.dom{bl:List E}{l:List Nat}{a c v:Nat}(hf:MT bl l c v)(ha:rk l a<rk l c)(hc:gH bl (-1) 0 c)(h:jY bl a v):jY bl a c:=by
 induction hf with
 |refl=>exact h
 |@step x y hx he hr ih=>
  have:=hx.le;have hrx:gH bl (-1) 0 x:=by
   clear ih h;clear he hr this
   induction hx with
   |refl=>exact hc
   |step _ he _ ih=>exact ih.step he I
  exact ih (h.ED (λe=>by subst e;omega) he hrx)
structure Inv(bl:List E)(l:List Nat)(up:List Int)(k:Nat):Prop where
 len:up.length=bl.length
 zero:up[0]?=Z 0
 val:∀b c:Nat,up[b]?=Z (c:Int)->b∈l/\c∈l/\(b≠0->rk l c<rk l b/\Pr up c)
 neg:∀(b:Nat) (akj:Int),up[b]?=Z akj->akj=-1∨0<=akj
 fwd:∀b c:Nat,b≠0->up[b]?=Z (c:Int)->MT bl l c b
 low:∀b c:Nat,b≠0->up[b]?=Z (c:Int)->∀y,(∀p,Edge bl p b->Pr up p->sL up y p)->rk l y<=rk l c
 sound:∀b a,Pr up b->jY bl a b->sL up a b
 JP:∀b∈l,rk l b<k->Pr up b
 phase:(∀b∈l,Pr up b)∨∀b,Pr up b->rk l b<k
 done:∀v∈l,v≠0->rk l v<k->∀p,Edge bl p v->p∈l->rk l p<rk l v->∀y,sL up y v->y=v∨sL up y p
theorem qK{bl:List E}{l:List Nat}(ho:Ord bl l):rk l 0=0:=xW ho.nodup ho.zero
theorem Inv.sI{bl:List E}{l:List Nat}{up:List Int}{k b:Nat}(h:Inv bl l up k)(hp:Pr up b):b∈l:=hp.elim λc hc=>(h.val b c hc).1
theorem Inv.Co{bl:List E}{l:List Nat}{up:List Int}{k a b:Nat}(h:Inv bl l up k)(ha:sL up a b):rk l a<=rk l b:=by
 induction ha with
 |refl=>exact bG _
 |up h0 he _ ih=>have:=((h.val _ _ he).2.2 h0).1;omega
theorem Inv.aag{bl:List E}{l:List Nat}{up:List Int}{k a b:Nat}(h:Inv bl l up k)(ha:sL up a b)(hb:Pr up b):Pr up a:=by
 induction ha with
 |refl=>exact hb
 |up h0 he _ ih=>exact ih ((h.val _ _ he).2.2 h0).2
theorem Inv.Wg{bl:List E}{l:List Nat}{up:List Int}{k a b:Nat}(h:Inv bl l up k)(ha:sL up a b):MT bl l a b:=by
 induction ha with
 |refl=>exact .refl
 |up h0 he _ ih=>exact ih.trans (h.fwd _ _ h0 he)
def qX(up:List Int)(a b akj:Nat):Prop:=Pr up akj/\∀y,sL up y akj↔(sL up y a/\sL up y b)
theorem Inv.NI{bl:List E}{l:List Nat}{up:List Int}{k a b:Nat}(ho:Ord bl l)(h:Inv bl l up k)(ha:Pr up a)(hb:Pr up b)(eQ:a≠b)(hr:rk l b<=rk l a):
  ∃c:Nat,up[a]?=Z (c:Int)/\Pr up c/\rk l c<rk l a/\∀akj,qX up c b akj->qX up a b akj:=by
 obtain⟨c,hc⟩:=ha;have hv:=h.val a c hc;have bS:rk l b<rk l a:=pN hr λe=>eQ (rG hv.1 (h.sI hb) e.symm);have WU:a≠0:=λe=>by subst e;have:=qK ho;omega
 refine⟨c,hc,(hv.2.2 WU).2,(hv.2.2 WU).1,λakj hz=>⟨hz.1,λy=>(hz.2 y).trans ⟨λ⟨h1,h2⟩=>⟨.up WU hc h1,h2⟩,λ⟨h1,h2⟩=>⟨?_,h2⟩⟩⟩⟩;cases h1 with
 |refl=>have:=h.Co h2;omega
 |@up _ c' _ he h3=>
  rw[hc]at he;have:c=c':=by have:=a7 he;omega
  rw[this];exact h3
theorem meet_self{up:List Int}{a:Nat}(ha:Pr up a):qX up a a a:=⟨ha,λ_=>⟨λh=>⟨h,h⟩,λh=>h.1⟩⟩
theorem qX.comm{up:List Int}{a b akj:Nat}(h:qX up a b akj):qX up b a akj:=⟨h.1,λy=>(h.2 y).trans And.comm⟩
def oN(up:List Int)(ps:List Nat)(akj:Int):Prop:=(akj=-1/\∀p∈ps,¬Pr up p)∨∃c:Nat,akj=c/\Pr up c/\(∃p∈ps,Pr up p)/\∀y,sL up y c↔∀p∈ps,Pr up p->sL up y p
theorem KF(up:List Int):oN up [] (-1):=.inl ⟨rfl,by simp⟩
theorem oN.pass{up:List Int}{ps:List Nat}{akj:Int}{p:Nat}(h:oN up ps akj)(hp:¬Pr up p):oN up (ps++[p]) akj:=by
 rcases h with⟨rfl,h⟩|⟨c,rfl,h1,⟨q,hq,Ly⟩,h3⟩
 ·refine .inl ⟨rfl,λq hq=>?_⟩
  rcases bA.1 hq with hq|hq
  ·exact h q hq
  ·rw[bR.1 hq];exact hp
 ·refine .inr ⟨c,rfl,h1,⟨q,ct _ hq,Ly⟩,λy=>(h3 y).trans ⟨λh q hq Ly=>?_,λh q hq=>h q (ct _ hq)⟩⟩
  rcases bA.1 hq with hq|hq
  ·exact h q hq Ly
  ·rw[bR.1 hq]at Ly;exact absurd Ly hp
theorem oN.first{up:List Int}{ps:List Nat}{akj:Int}{p:Nat}(h:oN up ps akj)(hz:akj<0)(hp:Pr up p):oN up (ps++[p]) p:=by
 rcases h with⟨rfl,h⟩|⟨c,rfl,_⟩
 ·refine .inr ⟨p,rfl,hp,⟨p,by simp,hp⟩,λy=>⟨λhy q hq Ly=>?_,λh=>h p aC hp⟩⟩
  rcases bA.1 hq with hq|hq
  ·exact absurd Ly (h q hq)
  ·rw[bR.1 hq];exact hy
 ·omega
theorem oN.pr{up:List Int}{ps:List Nat}{akj:Int}(h:oN up ps akj)(hz:0<=akj):∃c:Nat,akj=c/\Pr up c:=by
 rcases h with⟨rfl,_⟩|⟨c,rfl,h1,_⟩
 ·omega
 ·exact⟨c,rfl,h1⟩
theorem oN.iZ{up:List Int}{ps:List Nat}{c p akj:Nat}(h:oN up ps c)(hp:Pr up p)(hm:qX up c p akj):oN up (ps++[p]) akj:=by
 rcases h with⟨h,_⟩|⟨c',e,h1,⟨q,hq,Ly⟩,h3⟩
 ·omega
 ·have:c=c':=I
  subst this;refine .inr ⟨akj,rfl,hm.1,⟨q,ct _ hq,Ly⟩,λy=>(hm.2 y).trans ⟨λ⟨ha,hb⟩ q hq Ly=>?_,λh=>⟨(h3 y).2 λq hq=>h q (ct _ hq),h p aC hp⟩⟩⟩;rcases bA.1 hq with hq|hq
  ·exact(h3 y).1 ha q hq Ly
  ·rw[bR.1 hq];exact hb
theorem Inv.step{bl:List E}{l:List Nat}{up:List Int}{k b akj:Nat}(cY:cT bl)(h0:0<bl.length)(ho:Ord bl l)(h:Inv bl l up k)(hk:0<k)(hb:l[k]?=Z b)(hz:Pr up akj)
  (cU:∀y,sL up y akj↔∀p,Edge bl p b->Pr up p->sL up y p):
  Inv bl l (up.set b (akj:Int)) (k+1)/\(∀c:Nat,up[b]?=Z (c:Int)->c≠akj->rk l akj<rk l c)/\(∀v,Pr (up.set b (akj:Int)) v↔(Pr up v∨v=b)):=by
 have Ft:rk l b=k:=xW ho.nodup hb;have gF:b∈l:=aq hb;have uZ:b≠0:=λe=>by subst e;have:=qK ho;omega
 have bS:b<up.length:=by rw[h.len];exact cY.zQ h0 ((ho.mem b).1 gF)
 have eQ:∀v,v≠b->(up.set b (akj:Int))[v]?=up[v]?:=λv hv=>by rw[ez,if_neg (Ne.symm hv)]
 have VN:(up.set b (akj:Int))[b]?=Z (akj:Int):=by rw[ez,if_pos rfl,if_pos bS]
 have uV:∀v,Pr (up.set b (akj:Int)) v↔(Pr up v∨v=b):=λv=>by
  by_cases e:v=b
  ·subst e;exact⟨λ_=>.inr rfl,λ_=>⟨akj,VN⟩⟩
  ·unfold Pr;rw[eQ v e]
   exact⟨.inl,λh=>h.resolve_right e⟩
 obtain⟨q,hq,hqk,VS⟩:∃q,q∈l/\rk l q<k/\Edge bl q b:=by
  obtain⟨j,q,hj,Lw,VS⟩:=ho.ahead k b hb uZ;exact⟨q,aq Lw,by rw[xW ho.nodup Lw];exact hj,VS⟩
 have Ly:Pr up q:=h.JP q hq hqk;have hzq:sL up akj q:=(cU akj).1 .refl q VS Ly;have hrz:rk l akj<k:=by have:=h.Co hzq;omega
 have hold:∀c:Nat,up[b]?=Z (c:Int)->sL up akj c:=by
  intro c hc;have agD:=h.low b c uZ hc akj ((cU akj).1 .refl);have hv:=h.val b c hc
  by_cases e:akj=c
  ·subst e;exact .refl
  have bS:rk l akj<rk l c:=pN agD λe'=>e (rG (h.sI hz) hv.2.1 e');have key:∀v,MT bl l c v->v∈l->rk l v<k->sL up akj v->sL up akj c:=by
   intro v hf
   induction hf with
   |refl=>exact λ_ _ h=>h
   |@step x y hx he hr ih=>
    intro hy hyk hzy;have Eu:y≠0:=λe=>by subst e;have:=qK ho;omega
    have ue:x∈l:=by
     rw[ho.mem];have WX:=(ho.mem c).1 hv.2.1;clear ih hzy hy hyk hr he Eu
     induction hx with
     |refl=>exact WX
     |step _ he _ ih=>exact ih.step he I
    rcases h.done y hy Eu hyk x he ue hr akj hzy with e'|h2
    ·subst e';have:=hx.le;omega
    ·exact ih ue I h2
  have hf:=h.fwd b c uZ hc;cases hf with
  |refl=>have:=(hv.2.2 uZ).1;omega
  |@step x _ hx he hr=>
   have ue:x∈l:=by
    rw[ho.mem];have WX:=(ho.mem c).1 hv.2.1;clear hr he
    induction hx with
    |refl=>exact WX
    |step _ he _ ih=>exact ih.step he I
   exact key x hx ue I ((cU akj).1 .refl x he (h.JP x ue I))
 have shrink:∀y v,Pr up v->sL (up.set b (akj:Int)) y v->sL up y v:=by
  intro y v hv Xz
  induction Xz with
  |refl=>exact .refl
  |@up v c vy he _ ih=>
   by_cases e:v=b
   ·subst e
    rw[VN]at he;have e':c=akj:=by have:=a7 he;omega
    subst e';obtain⟨c0,Em⟩:=hv;exact .up vy Em ((ih hz).trans (hold c0 Em))
   ·rw[eQ v e]at he
    exact .up vy he (ih ((h.val v c he).2.2 vy).2)
 have below:∀y v,rk l v<k->sL up y v->sL (up.set b (akj:Int)) y v:=by
  intro y v hv Xz
  induction Xz with
  |refl=>exact .refl
  |@up v c vy he _ ih=>
   have e:v≠b:=λe=>by subst e;omega
   exact .up vy (by rw[eQ v e];exact he) (ih (by have:=((h.val v c he).2.2 vy).1;omega))
 have Jg:∀y,sL (up.set b (akj:Int)) y b->y=b∨sL up y akj:=by
  intro y hy;cases hy with
  |refl=>exact .inl rfl
  |@up _ c _ he h2=>
   rw[VN]at he;have e':c=akj:=by have:=a7 he;omega
   subst e';exact .inr (shrink y c hz h2)
 refine⟨⟨by rw[eL];exact h.len,by rw[eQ 0 (Ne.symm uZ)];exact h.zero,?_,?_,?_,?_,?_,?_,?_,?_⟩,?_,uV⟩
 ·intro v c hc
  by_cases e:v=b
  ·subst e
   rw[VN]at hc;have e':c=akj:=by have:=a7 hc;omega
   subst e';exact⟨gF,h.sI hz,λ_=>⟨I,(uV c).2 (.inl hz)⟩⟩
  ·rw[eQ v e]at hc
   have:=h.val v c hc;exact⟨this.1,this.2.1,λhv=>⟨(this.2.2 hv).1,(uV c).2 (.inl (this.2.2 hv).2)⟩⟩
 ·intro v y hy
  by_cases e:v=b
  ·subst e
   rw[VN]at hy;have:y=(akj:Int):=ax hy.symm;omega
  ·rw[eQ v e]at hy;exact h.neg v y hy
 ·intro v c hv hc
  by_cases e:v=b
  ·subst e
   rw[VN]at hc;have e':c=akj:=by have:=a7 hc;omega
   subst e';exact(h.Wg hzq).step VS I
  ·rw[eQ v e]at hc;exact h.fwd v c hv hc
 ·intro v c hv hc y hy
  by_cases e:v=b
  ·subst e
   rw[VN]at hc;have e':c=akj:=by have:=a7 hc;omega
   subst e';exact h.Co ((cU y).2 λp he hp=>shrink y p hp (hy p he ((uV p).2 (.inl hp))))
  ·rw[eQ v e]at hc
   exact h.low v c hv hc y λp he hp=>shrink y p hp (hy p he ((uV p).2 (.inl hp)))
 ·
  have hbz:∀a,jY bl a b->a=b∨sL up a akj:=by
   intro a ha
   by_cases e:a=b
   ·exact .inl e
   ·exact .inr ((cU a).2 λp he hp=>h.sound p a hp (ha.ED e he ((ho.mem p).1 (h.sI hp))))
  have adi:∀a,jY bl a b->sL (up.set b (akj:Int)) a b:=by
   intro a ha;rcases hbz a ha with e|e
   ·subst e;exact .refl
   ·exact .up uZ VN (below a akj hrz e)
  intro v a hv ha;rcases(uV v).1 hv with hv|e
  ·have Ag:=h.sound v a hv ha
   clear hv
   induction Ag with
   |refl=>exact .refl
   |@up v c vy he Zf ih=>
    by_cases e:v=b
    ·subst e;exact adi a ha
    ·refine .up vy (by rw[eQ v e];exact he) ?_
     by_cases e':a=c
     ·subst e';exact .refl
     ·have hvv:=h.val v c he
      have bS:rk l a<rk l c:=pN (h.Co Zf) λe2=>e' (rG ((ho.mem a).2 ha.1) hvv.2.1 e2);have hd:=(h.fwd v c vy he).dom bS ((ho.mem c).1 hvv.2.1) ha;exact ih ((uV c).2 (.inl (hvv.2.2 vy).2)) hd
  ·subst e;exact adi a ha
 ·intro v hv hvk
  by_cases e:v=b
  ·exact(uV v).2 (.inr e)
  ·exact(uV v).2 (.inl (h.JP v hv (pN I λe'=>e (rG hv gF I))))
 ·rcases h.phase with h1|h1
  ·exact .inl λv hv=>(uV v).2 (.inl (h1 v hv))
  ·refine .inr λv hv=>?_
   rcases(uV v).1 hv with hv|e
   ·have:=h1 v hv;omega
   ·subst e;omega
 ·intro v hv vy hvk p he hp hr y hy
  by_cases e:v=b
  ·subst e
   rcases Jg y hy with e'|h2
   ·exact .inl e'
   ·exact .inr (below y p I ((cU y).1 h2 p he (h.JP p hp I)))
  ·have aeD:rk l v<k:=pN I λe'=>e (rG hv gF I)
   rcases h.done v hv vy aeD p he hp hr y (shrink y v (h.JP v hv aeD) hy)with e'|h2
   ·exact .inl e'
   ·exact .inr (below y p I h2)
 ·intro c hc hcz
  have Zf:=hold c hc;exact pN (h.Co Zf) λe'=>hcz (rG (h.sI hz) (h.val b c hc).2.1 e').symm
theorem PK{bl:List E}{l:List Nat}(h0:0<bl.length)(ho:Ord bl l):Inv bl l ((List.replicate bl.length (-1)).set 0 0) 1:=by
 have hg:∀(b:Nat) (akj:Int),((List.replicate bl.length (-1:Int)).set 0 0)[b]?=Z akj->(b=0/\akj=0)∨akj=-1:=by
  intro b akj h;rw[ez]at h
  split at h
  ·rename_i e
   split at h
   ·exact .inl ⟨e.symm,(a7 h).symm⟩
   ·cases h
  ·rw[g_]at h
   split at h
   ·exact .inr (a7 h).symm
   ·cases h
 have hp:∀b c:Nat,((List.replicate bl.length (-1:Int)).set 0 0)[b]?=Z (c:Int)->b=0/\c=0:=by
  intro b c h;rcases hg b c h with⟨h1,h2⟩|h2<;>omega
 have hz:((List.replicate bl.length (-1:Int)).set 0 0)[0]?=Z 0:=by simp[h0]
 have h0l:0∈l:=aq ho.zero;refine⟨by simp,hz,λb c h=>?_,λb akj h=>?_,λb c hb h=>absurd (hp b c h).1 hb,λb c hb h=>absurd (hp b c h).1 hb,λb a ⟨c,h⟩ ha=>?_,λb hb hr=>?_,.inr λb ⟨c,h⟩=>?_,λv hv vy hr=>?_⟩
 ·obtain⟨rfl,rfl⟩:=hp b c h
  exact⟨h0l,h0l,λh=>absurd rfl h⟩
 ·rcases hg b akj h with⟨_,h⟩|h<;>omega
 ·obtain⟨rfl,rfl⟩:=hp b c h
  rcases ha.2.2 with e|e|e
  ·subst e;exact .refl
  ·subst e;exact .refl
  ·exact absurd .refl e
 ·have e:b=0:=rG hb h0l (by have:=qK ho;omega)
  subst e;exact⟨0,hz⟩
 ·have:=(hp b c h).1
  subst this;have:=qK ho;omega
 ·exact absurd (rG hv h0l (by have:=qK ho;omega)) vy
theorem Inv.again{bl:List E}{l:List Nat}{up:List Int}(ho:Ord bl l)(h:Inv bl l up l.length):Inv bl l up 1:=by
 have cU:∀b∈l,Pr up b:=λb hb=>h.JP b hb (vY.2 hb);exact⟨h.len,h.zero,h.val,h.neg,h.fwd,h.low,h.sound,λb hb _=>cU b hb,.inl cU,λv hv vy hr=>absurd (rG hv (aq ho.zero) (by have:=qK ho;omega)) vy⟩
def Full(bl:List E)(up:List Int)(v:Nat):Prop:=∀p,Edge bl p v->Pr up p->∀y,sL up y v->y=v∨sL up y p
theorem Inv.full{bl:List E}{l:List Nat}{up:List Int}{k b akj:Nat}(_h:Inv bl l up k)(_hb0:b≠0)(hc:up[b]?=Z (akj:Int))(cU:∀y,sL up y akj↔∀p,Edge bl p b->Pr up p->sL up y p):Full bl up b:=by
 intro p he hp y hy;cases hy with
 |refl=>exact .inl rfl
 |@up _ c _ WX h2=>
  rw[hc]at WX;have e:akj=c:=by have:=a7 WX;omega
  subst e;exact .inr ((cU y).1 h2 p he hp)
def ye(l:List Nat)(n:Nat)(akj:Int):Nat:=if akj<0 then n else rk l akj.toNat
def BL(l:List Nat)(n:Nat)(up:List Int):Nat:=(up.map (ye l n)).sum
theorem Oj:∀(l:List Nat) (i x y:Nat),l[i]?=Z x->(l.set i y).sum+x=l.sum+y
 |[],i,x,y,h=>by simp at h
 |a::l,0,x,y,h=>by simp at h⊢;omega
 |a::l,i+1,x,y,h=>by
  have:=Oj l i x y (ax h);simp only[cG,eT];omega
theorem TR{l:List Nat}{n:Nat}{up:List Int}{b:Nat}{x akj:Int}(hb:up[b]?=Z x)(h:ye l n akj<ye l n x):BL l n (up.set b akj)<BL l n up:=by
 unfold BL;rw[eM];have:=Oj (up.map (ye l n)) b (ye l n x) (ye l n akj) (by rw[aJ,hb];rfl);omega
theorem Inv.acI{bl:List E}{l:List Nat}{up:List Int}{k b akj:Nat}{x:Int}(h:Inv bl l up k)(hz:Pr up akj)(hb:up[b]?=Z x)(eQ:x≠(akj:Int))(hold:∀c:Nat,up[b]?=Z (c:Int)->c≠akj->rk l akj<rk l c):BL l l.length (up.set b (akj:Int))<BL l l.length up:=by
 refine TR hb ?_;have LJ:rk l akj<l.length:=vY.2 (h.sI hz);unfold ye;rw[if_neg I];rcases h.neg b x hb with e|e
 ·rw[if_pos I];simpa using LJ
 ·rw[if_neg I]
  obtain⟨c,rfl⟩:∃c:Nat,x=c:=⟨x.toNat,I⟩;simpa using hold c hb I
theorem Inv.tree{bl:List E}{l:List Nat}{up:List Int}(ho:Ord bl l)(h:Inv bl l up l.length)(adB:∀v∈l,v≠0->Full bl up v):
  up.set 0 (-1)=(List.range bl.length).map (cS bl):=by
 have cU:∀b∈l,Pr up b:=λb hb=>h.JP b hb (vY.2 hb);have IQ:∀a b,b∈l->sL up a b->jY bl a b:=by
  intro a b hb Nf;refine KV (akf:=λa b=>sL up a b) (λa ha=>?_) (λa b p uZ Nf hp he=>?_) ((ho.mem a).1 (h.sI (h.aag Nf (cU b hb)))) ((ho.mem b).1 hb) Nf
  ·cases ha with
   |refl=>rfl
   |up h0=>exact absurd rfl h0
  ·have Fq:=(ho.mem p).2 hp
   have gF:b∈l:=(ho.mem b).2 (hp.step he I);exact adB b gF uZ p he (cU p Fq) a Nf
 apply ci;intro b
 by_cases hb:b<bl.length
 ·have Ph:b<up.length:=by rw[h.len];exact hb
  rw[aJ,eX hb,bu]
  by_cases uZ:b=0
  ·subst uZ
   rw[ez,if_pos rfl,if_pos Ph,gB];intro c hc;refine hc.2.1 ?_;rcases hc.1.2.2 with e|e|e
   ·exact e
   ·exact e
   ·exact absurd .refl e
  ·rw[ez,if_neg (Ne.symm uZ)]
   by_cases gF:b∈l
   ·obtain⟨c,hc⟩:=cU b gF
    have hv:=h.val b c hc;rw[hc,iw (c:=c)];refine⟨IQ c b gF (.up uZ hc .refl),λe=>by subst e;have:=(hv.2.2 uZ).1;omega,λa ha Nf=>?_⟩;have hx:=h.sound b a (cU b gF) ha;cases hx with
    |refl=>exact absurd rfl Nf
    |@up _ c' _ WX h2=>
     rw[hc]at WX;have e:c=c':=by have:=a7 WX;omega
     subst e;exact IQ a c hv.2.1 h2
   ·rw[gB λc hc=>gF ((ho.mem b).2 hc.1.2.1)]
    obtain⟨akj,hz⟩:=bf up b Ph;rw[hz];rcases h.neg b akj hz with e|e
    ·rw[e]
    ·exact absurd (h.val b akj.toNat (by rw[hz];congr 1;omega)).1 gF
 ·rw[bO (by rw[eL,h.len];omega),bO dp]
theorem jY.trans{bl:List E}{a c b:Nat}(h:jY bl a c)(k:jY bl c b):jY bl a b:=by
 by_cases eac:a=c
 ·subst eac;exact k
 by_cases ecb:c=b
 ·subst ecb;exact h
 refine⟨h.1,k.2.1,?_⟩
 by_cases ea:a=0
 ·exact .inr (.inl ea)
 refine .inr (.inr λhr=>?_);have ec:c≠0:=λe=>by
  subst e;rcases h.2.2 with e|e|e
  ·exact eac e
  ·exact ea e
  ·exact e .refl
 have h1:¬gH bl a 0 c:=(h.2.2.resolve_left eac).resolve_left ea;have h2:¬gH bl c 0 b:=(k.2.2.resolve_left ecb).resolve_left ec;have key:∀x,gH bl a 0 x->gH bl c 0 x∨gH bl a 0 c:=by
  intro x hx
  induction hx with
  |refl=>exact .inl .refl
  |@step x y GW he hw ih=>
   rcases ih with ih|ih
   ·by_cases e:y=c
    ·subst e;exact .inr (GW.step he hw)
    ·exact .inl (ih.step he I)
   ·exact .inr ih
 rcases key b hr with h|h
 ·exact h2 h
 ·exact h1 h
theorem jY.chain{bl:List E}{a c b:Nat}(h:jY bl a b)(k:jY bl c b):jY bl a c∨jY bl c a:=by
 by_cases eab:a=b
 ·subst eab;exact .inr k
 by_cases ecb:c=b
 ·subst ecb;exact .inl h
 by_cases ea:a=0
 ·exact .inl ⟨h.1,k.1,.inr (.inl ea)⟩
 by_cases ec:c=0
 ·exact .inr ⟨k.1,h.1,.inr (.inl ec)⟩
 by_cases e1:gH bl a 0 c
 ·by_cases e2:gH bl c 0 a
  ·exfalso
   have h1:¬gH bl a 0 b:=(h.2.2.resolve_left eab).resolve_left ea;have h2:¬gH bl c 0 b:=(k.2.2.resolve_left ecb).resolve_left ec;have key:∀x,gH bl (-1) 0 x->(gH bl a 0 x/\gH bl c 0 x)∨gH bl c a x∨gH bl a c x:=by
    intro x hx
    induction hx with
    |refl=>exact .inl ⟨.refl,.refl⟩
    |@step x y _ he _ ih=>
     by_cases ya:y=a
     ·subst ya;exact .inr (.inl .refl)
     by_cases yc:y=c
     ·subst yc;exact .inr (.inr .refl)
     rcases ih with⟨g1,g2⟩|g|g
     ·exact .inl ⟨g1.step he I,g2.step he I⟩
     ·exact .inr (.inl (g.step he I))
     ·exact .inr (.inr (g.step he I))
   rcases key b h.2.1 with⟨g,_⟩|g|g
   ·exact h1 g
   ·exact h2 (e2.trans g)
   ·exact h1 (e1.trans g)
  ·exact .inr ⟨k.1,h.1,.inr (.inr e2)⟩
 ·exact .inl ⟨h.1,k.1,.inr (.inr e1)⟩
theorem sU{bl:List E}{a:Nat}(h:jY bl a 0):a=0:=by
 rcases h.2.2 with e|e|e
 ·exact e
 ·exact e
 ·exact absurd .refl e
theorem ug{bl:List E}{b:Nat}(cY:cT bl)(h0:0<bl.length)(hb:gH bl (-1) 0 b)(uZ:b≠0):∃c,kS bl c b:=by
 have key:∀m,(∀c,c<m->c≠b->¬jY bl c b)∨∃x,x<m/\x≠b/\jY bl x b/\∀c,c<m->c≠b->jY bl c b->jY bl c x:=by
  intro m
  induction m with
  |zero=>exact .inl λc hc=>I
  |succ m ih=>
   by_cases hm:m≠b/\jY bl m b
   ·rcases ih with ih|⟨x,hx,BJ,hd,cU⟩
    ·refine .inr ⟨m,I,hm.1,hm.2,λc hc BY xF=>?_⟩
     by_cases e:c=m
     ·subst e;exact .refl xF.1
     ·exact absurd xF (ih c I BY)
    ·rcases hd.chain hm.2 with g|g
     ·refine .inr ⟨m,I,hm.1,hm.2,λc hc BY xF=>?_⟩
      by_cases e:c=m
      ·subst e;exact .refl xF.1
      ·exact(cU c I BY xF).trans g
     ·refine .inr ⟨x,I,BJ,hd,λc hc BY xF=>?_⟩
      by_cases e:c=m
      ·subst e;exact g
      ·exact cU c I BY xF
   ·have oB:∀c,c<m+1->c≠b->jY bl c b->c<m:=λc hc BY xF=>by
     have:c≠m:=λe=>by subst e;exact hm ⟨BY,xF⟩
     omega
    rcases ih with ih|⟨x,hx,BJ,hd,cU⟩
    ·exact .inl λc hc BY xF=>ih c (oB c hc BY xF) BY xF
    ·exact .inr ⟨x,I,BJ,hd,λc hc BY xF=>cU c (oB c hc BY xF) BY xF⟩
 rcases key bl.length with h|⟨x,_,BJ,hd,cU⟩
 ·exact absurd ⟨.refl,hb,.inr (.inl rfl)⟩ (h 0 h0 (Ne.symm uZ))
 ·exact⟨x,hd,BJ,λa ha Nf=>cU a (cY.zQ h0 ha.1) Nf ha⟩
theorem kS.iff{bl:List E}{a b c:Nat}(h:kS bl c b):jY bl a b↔(jY bl a c∨a=b):=by
 refine⟨λha=>?_,λha=>ha.elim (λh1=>h1.trans h.1) λe=>by subst e;exact .refl h.1.2.1⟩
 by_cases e:a=b
 ·exact .inr e
 ·exact .inl (h.2.2 a ha e)
open Classical in
noncomputable def vg(bl:List E)(b n:Nat):List Nat:=(List.range n).filter λc=>decide (jY bl c b)
open Classical in
theorem E7(bl:List E)(b n:Nat):(vg bl b n).length=lF (λc=>jY bl c b) n:=rfl
theorem s9{bl:List E}(cY:cT bl)(h0:0<bl.length){b c:Nat}(h:kS bl c b):(vg bl c bl.length).length+1=(vg bl b bl.length).length:=by
 classical
 have hb:=cY.zQ h0 h.1.2.1;rw[E7,E7];exact(MY (b:=b) (λhd=>h.2.1 (h.1.antisymm hd)) hb λa _=>h.iff).symm
theorem E8{bl:List E}{b n c:Nat}:c∈vg bl b n↔(c<n/\jY bl c b):=by
 classical
 unfold vg;simp
class Rg(P:Program)(S T:Nat)(q:outParam IntKind):Prop where
 src:(P.underlying S).isSome=true
 dst:P.underlying T=Z (.int (P.intKind T))
 kind:P.intKind T=q
class MP(lo n c:Nat):Prop where
 le:lo<=n
 lt:lo<c
class Ch(hi c:Nat):Prop where
 le:hi<=c
section
variable {P:Program} {ro:Option Nat} {N:Nat} {ds:List Deferred} {S:Nat->Prop} {w0:C} {L:List (Nat×V)} {H H1 H2:List bN} {ops:Array Oper} {rest:List Oper} {Q:Exit->Act->C->Prop} {p:Act->C->Prop} {x y:Operand}
theorem qg{d ty aka B:Nat}{k q:IntKind}{n:Int}{pos:String}{aft:Array Go.Edge}[hx:Ev L x (U k n)][h:Rg P aka B q](hd:dy d N L=true)(hw:q.wrap n=n)
  (kk:aki N ds S w0 ((d,U q n)::L) H (wpListIn (FW ro) 0 P ops Q rest)):aki N ds S w0 L H (wpListIn (FW ro) 0 P ops Q (⟨Z d,.convert aka B x,ty,pos,aft,A⟩::rest)):=
 λa w hS=>ft (v:=.int q n) (w':=w) rfl (λ_ h=>by cases h) (by simp[execOp,hx.eq _ _ _ hS.fr,run_convert_int w aka B k n h.src h.dst,h.kind,hw]) (kk _ _ ⟨hS.fr.eo hd _,hS.wd⟩)
instance{T b o n c s lo:Nat}[hx:Ev L x (J (Z ⟨b,o,A⟩) n c)][hl:Ev L y (U O (lo:Int))][h:eH P T s][hc:MP lo n c]:dL P N ds S w0 L H (.slice T x (Z y) A A) (J (Z ⟨b,o+lo*s,A⟩) (n-lo) (c-lo)):=
 ⟨λ_ h=>(by cases h),λ_ _ h=>(by cases h),λ_ _ _ _ _ a w hF _=>by
  have hr:=run_slice_l (P:=P) w T (Z ⟨b,o,A⟩) n c h.qx O lo I (by have:=hc.le;omega)
  have eQ:¬c=lo:=by have:=hc.lt;omega
  simp[execOp,hx.eq _ _ _ hF,hl.eq _ _ _ hF,run_sliceAt_slice (P:=P) w T _ _ _ _ h.qx,hr,h.sz,sliced,eQ,Addr.add_lit]⟩
instance{T n c s hi:Nat}{ad:Option Addr}[hx:Ev L x (J ad n c)][hl:Ev L y (U O (hi:Int))][h:eH P T s][hc:Ch hi c]:dL P N ds S w0 L H (.slice T x A (Z y) A) (J ad hi c):=
 ⟨λ_ h=>(by cases h),λ_ _ h=>(by cases h),λ_ _ _ _ _ a w hF _=>by
  have hr:=run_slice_h (P:=P) w T ad n c h.qx O hi I (by have:=hc.le;omega)
  have hz:(if c=0 then ad else ad.map λq=>q.add (0*s))=ad:=by
   by_cases h0:c=0
   ·rw[if_pos h0]
   ·rw[if_neg h0];cases ad<;>simp[Addr.add]
  simp only[nT]at hz
  simp[execOp,hx.eq _ _ _ hF,hl.eq _ _ _ hF,run_sliceAt_slice (P:=P) w T _ _ _ _ h.qx,hr,h.sz,sliced,hz]⟩
theorem Fg{d ty T s n c:Nat}{ad:Option Addr}{pos:String}{aft:Array Go.Edge}[hx:Ev L x (J ad n c)][h:eH P T s](hd:dy d N L=true)(hn:0<n)
  (kk:∀a',(∀b o,1<c->ad=Z ⟨b,o,A⟩->a'=Z ⟨b,o+s,A⟩)->aki N ds S w0 ((d,J a' (n-1) (c-1))::L) H (wpListIn (FW ro) 0 P ops Q rest)):aki N ds S w0 L H (wpListIn (FW ro) 0 P ops Q (⟨Z d,.slice T x (Z (.const (U O 1))) A A,ty,pos,aft,A⟩::rest)):=λa w hS=>by
 have hr:=run_slice_l (P:=P) w T ad n c h.qx O 1 I I;have ec:a.eval (.const (U O 1))=U O 1:=rfl;refine ft (v:=.slice (if c=1 then ad else ad.map (·.add s)) (n-1) (c-1)) (w':=w) rfl (λ_ h=>by cases h) ?_ ?_
 ·simp[execOp,hx.eq _ _ _ hS.fr,ec,run_sliceAt_slice (P:=P) w T _ _ _ _ h.qx,hr,h.sz,sliced]
 ·refine kk _ (λb o h1 e=>?_) _ _ ⟨hS.fr.eo hd _,hS.wd⟩
  subst e;rw[if_neg I];simp[Addr.add_lit]
theorem Gy{d ty dT sT e jy b o off n c dl dc sl sc sb so:Nat}{akj:V}(k:Nat){xs:List V}(cs:List V){pos:String}{aft:Array Go.Edge}[h:cI P dT e 1 jy [akj]][hx:Ev L x (J (Z ⟨b,o+off,A⟩) dl dc)][hy:Ev L y (J (Z ⟨sb,so,A⟩) sl sc)]
  (hk:H[k]?=Z (M (Z ⟨b,o,A⟩) n c e 1 xs)) (hd:dy d N L=true) (hn:cs.length=min sl dl) (tY:∀w,Wd S w0 H w->∀j v,cs[j]?=Z v->w.cell? ⟨sb,so+j,A⟩=Z v) (gI:off+cs.length<=xs.length) (h1:∀v∈cs,v.oneCell'=true)
  (kk:aki N ds S w0 ((d,U O cs.length)::L) (H.set k (M (Z ⟨b,o,A⟩) n c e 1 (xs.take off++cs++xs.drop (off+cs.length)))) (wpListIn (FW ro) 0 P ops Q rest)):aki N ds S w0 L H (wpListIn (FW ro) 0 P ops Q (⟨Z d,.call {callee:=.builtin .copy,args:=#[x,y],argTypes:=#[dT,sT]},ty,pos,aft,A⟩::rest)):=λa w hS=>by
 obtain⟨hl,qP,BZ,pre,sp,rfl,GR,hb⟩:=hS.wd.lu hk;obtain⟨i,zz,hi,_,_,W7,_⟩:=h.get;have bS:b<w.heap.size:=(fv.1 hb).1;have hr:=run_copy_row (P:=P) w dT sT ty e b (pre.length+off) dl dc ⟨sb,so,A⟩ sl sc _ e cs h.qx (by rw[hi];simp[W7]) hb hn (λj v hj=>by rw[Addr.add_lit];exact tY w hS.wd j v hj) dp h1;have gr:(pre++xs++sp).take (pre.length+off)++cs++(pre++xs++sp).drop (pre.length+off+cs.length)=pre++(xs.take off++cs++xs.drop (off+cs.length))++sp:=by
  rw[dz pre xs sp,sQ,dI,vW,kV I,yv I];simp
 simp only at hr;rw[gr]at hr;refine ft (v:=.int O cs.length) (w':=w.setRow b (pre++(xs.take off++cs++xs.drop (off+cs.length))++sp).toArray) rfl (λ_ h=>by cases h) ?_ ?_
 ·simp[execOp,resolve,invoke,builtin,hx.eq _ _ _ hS.fr,hy.eq _ _ _ hS.fr,hr,goInt]
 ·refine kk _ _ ⟨hS.fr.eo hd _,?_⟩
  have pU:∀q:Array V,(w.setRow b q).heap.size=w.heap.size:=λq=>by simp[World.setRow]
  refine hS.wd.lj hk ⟨rfl,rfl,rfl,by rw[pU];exact bG _,λj _ hj=>setRow_other w b j _ λe'=>hj (by simp[M,e'])⟩ (λb' nO=>?_) λw2 jg=>?_
  ·simp only[M,bu,b_]at nO⊢
   subst nO;exact⟨.inl rfl,by rw[pU];exact bS⟩
  ·have:=jg b (by simp[M])
   refine⟨?_,.inr ⟨b,pre,sp,rfl,qP,BZ,GR,?_⟩⟩
   ·simp only[bX,dd,eY];omega
   ·rw[this]
    exact setRow_heap w b _ _ e _ hb
end
theorem aG.known{α:Type}{w:C}{b o n c s:Nat}{l:List α}{ake:C->α->List V->Prop}(h:aG w (J (Z ⟨b,o,A⟩) n c) s l ake):∀(i:Nat) x,l[i]?=Z x->∃cs,bF w b (o+i*s) cs/\ake w x cs:=by
 intro i x hx;obtain⟨a,_,_,b',o',e,_,_,_,_,ha,ji⟩:=h;simp only[Value.slice.injEq]at e;obtain⟨rfl,_,_⟩:=e;have:=ha (List.ne_nil_of_mem (aq hx));simp only[b_,Addr.mk.injEq,and_true]at this;obtain⟨rfl,rfl⟩:=this;exact ji i x hx
theorem aG.at{α:Type}{w:C}{a:Option Addr}{n c s:Nat}{l:List α}{ake:C->α->List V->Prop}(h:aG w (J a n c) s l ake):n=l.length/\n<=c/\n<=140737488355328/\∃b o,(l≠[]->a=Z ⟨b,o,A⟩)/\∀(i:Nat) x,l[i]?=Z x->∃cs,bF w b (o+i*s) cs/\ake w x cs:=by
 obtain⟨_,_,_,b,o,e,h1,h2,h3,_,ha,ji⟩:=h;simp only[Value.slice.injEq]at e;obtain⟨rfl,rfl,rfl⟩:=e;exact⟨h1,h2,h3,b,o,ha,ji⟩
open Classical in
noncomputable def cd(S:Nat->Prop)(w:C):C:={w with heap:=Array.ofFn (n:=w.heap.size) λi=>if S i.1 then .deferred (Z [])else w.heap[i.1]}
theorem k6(S:Nat->Prop)(w:C):(cd S w).heap.size=w.heap.size:=by simp[cd]
theorem jT{S:Nat->Prop}(w:C){b:Nat}(h:¬S b):(cd S w).heap[b]?=w.heap[b]?:=by
 unfold cd
 by_cases hb:b<w.heap.size
 ·simp[hb,h]
 ·rw[xu (ax hb),xu I]
theorem PS{S:Nat->Prop}(w:C){p:Addr}(h:S p.block):(cd S w).cell? p=A:=by
 unfold cd World.cell?
 by_cases hb:p.block<w.heap.size
 ·simp[hb,h]
 ·rw[xu (ax hb)]
theorem nz{S:Nat->Prop}{w:C}{p:Addr}{v:V}(h:(cd S w).cell? p=Z v):¬S p.block/\w.cell? p=Z v:=by
 have hn:¬S p.block:=λhs=>by rw[PS w hs]at h;cases h
 exact⟨hn,by rw[<-h];exact(World.cell?_of_block (jT w hn)).symm⟩
theorem TH(S:Nat->Prop)(w:C):l_ S (cd S w) w:=⟨rfl,rfl,rfl,by rw[k6];exact bG _,λk _ hk=>(jT w hk).symm⟩
section
variable {P:Program} {N:Nat} {ds:List Deferred} {S:Nat->Prop} {w0 w w':C} {L:List (Nat×V)} {H H1 H2 akg:List bN} {p:Act->C->Prop}
theorem Wd.beside(h:Wd S w0 (H1++H2) w){e:bN}(he:e∈H2):e.ok (cd (cH H1) w):=by
 refine h.ok e (de _ he) _ (by rw[k6];exact bG _) λb hb=>jT w λ⟨f,hf,u1⟩=>?_;exact(jI.1 h.apart).2.2 f hf e he b u1 hb
theorem Wd.kF(h:Wd S w0 (H1++H2) w):Wd (λ_=>True) (cd (cH H1) w) H2 (cd (cH H1) w):=by
 have hk:∀e∈H2,∀b,e.fp b->¬cH H1 b:=λe he b hb ⟨f,hf,u1⟩=>(jI.1 h.apart).2.2 f hf e he b u1 hb;refine⟨l_.refl _ _,λe he b hb=>⟨.inl trivial,by rw[k6];exact(h.own e (de _ he) b hb).2⟩,λe he w' hs hw=>?_,(jI.1 h.apart).2.1⟩;exact h.ok e (de _ he) w' (by rwa[k6]at hs) λb hb=>(hw b hb).trans (jT w (hk e he b hb))
theorem Wd.NG(h:Wd cX w0 (H1++H2) w):l_ cX w0 (cd (cH H1) w):=by
 refine⟨h.ch.os,h.ch.tape,h.ch.output,by rw[k6];exact h.size,λk hk _=>(jT w λ⟨e,he,hb⟩=>?_).trans (h.ch.block k hk λh=>h)⟩;have:=(h.own e (ct _ he) k hb).1;exact this.elim (λh=>h) λh=>by omega
theorem Wd.Ye(h:Wd S w0 (H1++H2) w):Wd (cH H1) (cd (cH H1) w) H1 w:=
 ⟨TH _ _,λe he b hb=>⟨.inl ⟨e,he,hb⟩,(h.own e (ct _ he) b hb).2⟩,λe he=>h.ok e (ct _ he),(jI.1 h.apart).1⟩
theorem Wd.nk{T:Nat->Prop}(h:Wd T (cd T w) akg w'):Wd T w akg w':=
 ⟨⟨h.ch.os,h.ch.tape,h.ch.output,by have:=h.ch.size;rwa[k6]at this,λk hk hT=>(h.ch.block k (by rw[k6];exact hk) hT).trans (jT w hT)⟩,λe he b hb=>by have:=h.own e he b hb;rwa[k6]at this,h.ok,h.apart⟩
theorem Wd.pW{T:Nat->Prop}(h:Wd T (cd T w) akg w'):∀p v,(cd T w).cell? p=Z v->w'.cell? p=Z v:=λp v hc=>by
 have bS:=World.block_lt_of_cell? _ p hc;rw[<-hc];exact World.cell?_of_block (h.ch.block _ bS (nz hc).1)
theorem iF{T:Nat->Prop}{b o:Nat}{cs:List V}(hc:bF (cd T w) b o cs)(eQ:cs≠[]):eS T b:=by
 cases cs with
 |nil=>exact absurd rfl eQ
 |cons c cs=>exact⟨(nz (hc 0 c rfl)).1⟩
theorem nZ(h:∀w,Wd S w0 (H1++H2) w->aki N ds (cH H1) (cd (cH H1) w) L H1 p):aki N ds S w0 L (H1++H2) p:=λa w hS=>h w hS.wd a w ⟨hS.fr,hS.wd.Ye⟩
end
end
section
open Go.Lib
section
namespace Mul
theorem TQ(a:Nat)(ha:a<18446744073709551616):bits .and .u64 (a:Int) 4294967295=((a%4294967296:Nat):Int):=by
 have h:=bits_and_u64_nat a 4294967295 ha I;have e:a&&& 4294967295=a%4294967296:=Nat.and_two_pow_sub_one_eq_mod a 32;rw[e]at h;exact h
theorem afd(a:Nat):(a:Int)/4294967296=((a/4294967296:Nat):Int):=by omega
theorem ahK(a b:Nat):(a:Int)*(b:Int)=((a*b:Nat):Int):=(Int.natCast_mul a b).symm
theorem ae8(a b:Nat):(a:Int)+(b:Int)=((a+b:Nat):Int):=(Int.natCast_add a b).symm
theorem By(a:Nat)(ha:a<18446744073709551616):IntKind.u64.wrap (a:Int)=(a:Int):=by rw[IntKind.wrap_u64];omega
theorem ae4(a:Nat):IntKind.u64.wrap (a:Int)=((a%18446744073709551616:Nat):Int):=by rw[IntKind.wrap_u64];omega
end Mul
set_option maxHeartbeats 1000000 in
theorem XS(x y:Nat)(hx:x<18446744073709551616)(hy:y<18446744073709551616)(w:C):
  Calls ae 161 #[U .u64 x,U .u64 y] w λe w'=>e=.returned (.tuple #[U .u64 ((x*y/18446744073709551616:Nat):Int),U .u64 ((x*y%18446744073709551616:Nat):Int)])/\w'=w:=by
 obtain⟨bd,bt,bw,hhi⟩:=Lib.mul64_hi x y hx hy;have ba:=Lib.half_mul_le (a:=x/4294967296) (b:=y/4294967296) I I;have bb:=Lib.half_mul_le (a:=x/4294967296) (b:=y%4294967296) I I;have bc:=Lib.half_mul_le (a:=x%4294967296) (b:=y/4294967296) I I;have ba':x/4294967296*(y/4294967296)<18446744073709551616:=I;have bb':x/4294967296*(y%4294967296)<18446744073709551616:=I;have bc':x%4294967296*(y/4294967296)<18446744073709551616:=I;have bh1:x/4294967296*(y/4294967296)+(x/4294967296*(y%4294967296)+x%4294967296*(y%4294967296)/4294967296)/4294967296<18446744073709551616:=I;have bh:x/4294967296*(y/4294967296)+(x/4294967296*(y%4294967296)+x%4294967296*(y%4294967296)/4294967296)/4294967296+((x/4294967296*(y%4294967296)+x%4294967296*(y%4294967296)/4294967296)%4294967296+x%4294967296*(y/4294967296))/4294967296<18446744073709551616:=I
 go_enter func161,ntmps161
 go_wp2
 simp only[Mul.TQ x hx,Mul.TQ y hy,Mul.afd,Mul.ahK,Mul.ae8,Mul.By _ bd,Mul.By _ bb',Mul.By _ bt,Mul.TQ _ bt,Mul.By _ bc',Mul.By _ bw,Mul.By _ ba',Mul.By _ bh1,Mul.By _ bh,Mul.ae4 (x*y)];rw[hhi]
 go_ret2
 exact⟨rfl,rfl⟩
instance:aQ ae 161:=⟨call161⟩
instance:aQ ae 133:=⟨call133⟩
attribute [local irreducible] wpListIn Code.wpIn Exit.then Exit.inBlock bodyPost wpQuiet wpAnyIn
theorem NL(x y:Nat)(hx:x<18446744073709551616)(hy:y<18446744073709551616)(Xx:x*y<18446744073709551616)(w:C):
  eP ae 133 [U .u64 x,U .u64 y] w (.tuple #[U .u64 0,U .u64 ((x*y:Nat):Int)]):=by
 have h64:∀w:C,Calls ae 161 #[U .u64 x,U .u64 y] w λe w'=>e=.returned (.tuple #[U .u64 0,U .u64 ((x*y:Nat):Int)])/\w'=w:=by
  intro w;have h:=XS x y hx hy w;rw[Nat.div_eq_of_lt Xx,Nat.mod_eq_of_lt Xx]at h;exact h
 clear hx hy Xx;refine aM func133 rfl ntmps133 rfl (Wd.nil cX w) ?_;refine aH ?_;refine bB (u:=.tuple #[U .u64 0,U .u64 ((x*y:Nat):Int)]) rfl (λw' _=>callsIn_wide.2 ((h64 w').mono λe w2 he=>⟨_,he.1,rfl,by rw[he.2];exact l_.refl _ _⟩)) ?_;refine aH ?_;exact kL rfl λ_ hw=>⟨rfl,hw.ch⟩
end
end
section
set_option maxHeartbeats 8000000
attribute [local irreducible] wpListIn Code.wpIn Exit.then Exit.inBlock bodyPost wpQuiet wpAnyIn wpAnyH
instance:Rg ae 3 172 .u64:=⟨aR,aR,aR⟩
instance:Rg ae 172 3 O:=⟨aR,aR,aR⟩
theorem JZ(akj y:V)(m n:Nat)(_hm:m<=n)(k:Nat)(hk:k=min (n-m) m):(List.replicate m akj++List.replicate (n-m) y).take m++List.replicate k akj++(List.replicate m akj++List.replicate (n-m) y).drop (m+k)=List.replicate (m+k) akj++List.replicate (n-(m+k)) y:=by
 rw[kV aC,kh aC,List.drop_append,List.drop_of_length_le (by rw[dm];omega)];simp only[dm,aO,vX];have e:n-m-(m+k-m)=n-(m+k):=I;rw[<-List.replicate_append_replicate,e]
theorem DP(b0 o0 n:Nat)(akj:Int)(w:C)(hx:w.cell? ⟨b0,o0,A⟩=Z (U O akj))(hn:0<n)(Pv:n<=100000):
  iC ae 108 [J (Z ⟨b0,o0,A⟩) 1 1,U O n] w λu w'=>∃a:Nat,u=J (Z ⟨a,0,A⟩) n n/\Wd cX w [M (Z ⟨a,0,A⟩) n n 3 1 (List.replicate n (U O akj))] w'/\True:=by
 refine aM func108 rfl ntmps108 rfl (Wd.nil cX w) ?_;refine aH ?_;refine qg rfl rfl ?_;refine aU ?_;refine qg rfl (by rw[IntKind.wrap_u64];omega) ?_;refine bB rfl (λw' _=>NL 1 n I I I w') ?_;rw[Nat.one_mul];refine aE ?_;rw[show decide (9223372036854775807<(n:Int))=false by simp;omega,show decide ((0:Int)<0)=false from rfl];refine aH ?_;refine qg rfl ?_ ?_
 ·rw[IntKind.wrap_i64];omega
 repeat(first|refine aU ?_|refine dZ λ_ _=>?_)
 rename_i a _;refine Gy (b:=a) (o:=0) (off:=0) 0 (List.replicate 1 (U O akj)) rfl rfl (by simp only[dm];omega) (λw' hw j v hj=>?_) (by simp only[dm];omega) (λv hv=>by rw[jK hv];rfl) ?_
 ·match j,hj with
  |0,hj=>
   obtain rfl:_=v:=ax hj;exact fJ hw.ch hx
 have e0:=JZ (U O akj) (U O 0) 0 n I 1;simp only[dm,bW];rw[show(List.replicate n (U O 0)).take 0++List.replicate 1 (U O akj)++(List.replicate n (U O 0)).drop (0+1)=List.replicate 1 (U O akj)++List.replicate (n-1) (U O 0) by simp[vX]];refine aH ?_;refine bL (λ(m:Nat)=>1<=m/\m<=n) (λm=>[(8,U O m),(7,J (Z ⟨a,0,A⟩) n n)]) (λm=>[M (Z ⟨a,0,A⟩) n n 3 1 (List.replicate m (U O akj)++List.replicate (n-m) (U O 0))]) (λm=>n-m) 1 ⟨bG _,hn⟩ (aS ap aK) λm ⟨Fo,hmn⟩=>?_;refine aU ?_;refine aI (λh1=>?_) (λh1=>?_)
 ·have bS:m<n:=ax h1
  have Pj:MP m n n:=⟨I,bS⟩;have HF:Ch m n:=⟨I⟩;refine aH ?_;refine v_ [(8,U O ((m+min (n-m) m:Nat):Int)),(7,J (Z ⟨a,0,A⟩) n n)] [M (Z ⟨a,0,A⟩) n n 3 1 (List.replicate (m+min (n-m) m) (U O akj)++List.replicate (n-(m+min (n-m) m)) (U O 0))] mixed ?_ ?_
  ·repeat' (first|refine eV 0 rfl ai ?_|refine eV 1 rfl ai ?_|refine eV 2 rfl ai ?_|refine eV 3 rfl ai ?_|refine eV 4 rfl ai ?_|refine eV 5 rfl ai ?_|refine eV 6 rfl ai ?_|refine yN ai ?_|refine any_nil|refine nQ ai ?_|refine any_cons ?_ ?_)
   rw[f_];refine Gy (b:=a) (o:=0) (off:=m) 0 (List.replicate (min (n-m) m) (U O akj)) rfl rfl (by simp only[dm];omega) (λw' hw j v hj=>?_) (by simp only[dm,bX];omega) (λv hv=>by rw[jK hv];rfl) ?_
   ·rw[g_]at hj
    split at hj
    ·exact hw.cL (k:=0) rfl (by rw[dY (by rw[dm];omega),g_,if_pos I];exact hj)
    ·cases hj
   simp only[dm,bW];rw[JZ _ _ m n I _ rfl]
   repeat' (first|refine z_ ai ?_|refine yN ai ?_|refine any_nil|refine nQ ai ?_|refine any_cons ?_ ?_|refine lJ ?_|refine pQ ?_|refine vp rfl ?_|refine vm rfl I I ?_)
   all_goals
    rw[<-Int.natCast_add]
   skip
   all_goals exact aS ap aK
  ·refine aH ?_
   exact bj (m+min (n-m) m) ⟨I,I⟩ I ap aK
 ·have gP:m=n:=by have:=h1;simp at this;omega
  subst gP;rw[dN,List.replicate_zero,cD];refine aE ?_;exact cE rfl λw' hw=>⟨a,rfl,hw,trivial⟩
theorem abP(bl:List E)(l:List Nat)(ho:Ord bl l)(up:List Int)(k:Nat)(hI:Inv bl l up k)(at':List Int)(oX:∀b∈l,at'[b]?=Z ((rk l b:Nat):Int))(_hlen:up.length<=100)(ua ta:V)(w0:C)
  (hu:aG w0 ua 1 up fI) (ht:aG w0 ta 1 at' fI) (a b:Nat) (ha:Pr up a) (hb:Pr up b):
  iC ae 109 [ua,ta,U O a,U O b] w0 λu w'=>∃akj:Nat,u=U O akj/\Wd cX w0 [] w'/\qX up a b akj:=by
 obtain⟨ua,un,uc,ub,uo,rfl,Tf,ajT,ajS,huc,hua,ji⟩:=hu;obtain⟨ta,tn,tc,tb,AP,rfl,uW,GV,GU,Xq,yk,tZ⟩:=ht;refine aM func109 rfl ntmps109 rfl (Wd.nil cX w0) ?_;refine aH ?_;refine bL (λ(x:Nat×Nat)=>Pr up x.1/\Pr up x.2/\∀akj,qX up x.1 x.2 akj->qX up a b akj) (λx=>[(0,J ua un uc),(1,J ta tn tc),(2,U O x.1),(3,U O x.2)]) (λ_=>[]) (λx=>rk l x.1+rk l x.2) (a,b) ⟨ha,hb,λ_ h=>h⟩ (aS ap aK) λx ⟨hx,hy,cU⟩=>?_;obtain⟨x,y⟩:=x;simp only at hx hy cU⊢;refine aU ?_;refine aI (λh1=>?_) (λh1=>?_)
 ·have eQ:x≠y:=λe=>by subst e;simp at h1
  obtain⟨cx,VL⟩:=hx;obtain⟨cy,hcy⟩:=hy;have ue:=hI.sI ⟨cx,VL⟩;have Dm:=hI.sI ⟨cy,hcy⟩;have hax:=oX x ue;have hay:=oX y Dm;have oW:bU ua ub uo:=⟨hua (aL VL)⟩;have uR:bU ta tb AP:=⟨yk (aL hax)⟩;have l1:bY x un:=⟨by rw[Tf];exact(az.1 VL).1⟩;have l2:bY y un:=⟨by rw[Tf];exact(az.1 hcy).1⟩;have l3:bY x tn:=⟨by rw[uW];exact(az.1 hax).1⟩;have l4:bY y tn:=⟨by rw[uW];exact(az.1 hay).1⟩;obtain⟨_,c1,rfl,_⟩:=ji x _ VL;obtain⟨_,c2,rfl,_⟩:=ji y _ hcy;obtain⟨_,c3,rfl,_⟩:=tZ x _ hax;obtain⟨_,c4,rfl,_⟩:=tZ y _ hay;have d1:a6 w0 ub (uo+x*1) _:=⟨c1⟩;have d2:a6 w0 ub (uo+y*1) _:=⟨c2⟩;have d3:a6 w0 tb (AP+x*1) _:=⟨c3⟩;have d4:a6 w0 tb (AP+y*1) _:=⟨c4⟩;refine aH ?_;refine jj mixed ai ?_;refine iH ?_;refine aU ?_;refine aI (λh2=>?_) (λh2=>?_)
  ·have bS:rk l x<rk l y:=ax h2
   obtain⟨c,hc,HG,CZ,BZ⟩:=hI.NI ho (a:=y) (b:=x) ⟨cy,hcy⟩ ⟨cx,VL⟩ (Ne.symm eQ) I;rw[hcy]at hc;have e:cy=c:=by have:=a7 hc;omega
   subst e;refine aH ?_;exact bj (cy,x) ⟨HG,⟨cx,VL⟩,λakj hz=>cU akj (BZ akj hz).comm⟩ bK ap aK
  ·have bS:rk l y<=rk l x:=by have:=h2;simp at this;omega
   obtain⟨c,hc,HG,CZ,BZ⟩:=hI.NI ho (a:=x) (b:=y) ⟨cx,VL⟩ ⟨cy,hcy⟩ eQ bS;rw[VL]at hc;have e:cx=c:=by have:=a7 hc;omega
   subst e;refine aH ?_;exact bj (cx,y) ⟨HG,⟨cy,hcy⟩,λakj hz=>cU akj (BZ akj hz)⟩ bK ap aK
 ·have he:x=y:=by have:=h1;simp at this;omega
  subst he;refine aE ?_;exact cE rfl λw hw=>⟨x,rfl,hw,cU x (meet_self hx)⟩
end
end Go.Proofs.YthfhgolkafpmnaaGreatDoor
