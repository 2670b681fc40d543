/- Lemmas. -/
import Derived.LoopIn
import Derived.LoopNIn
import Derived.OrdersHeld
import Derived.OwnWalkIn
import Derived.RangeFuncBound
import Derived.RangeFuncLeaves
import Derived.RangeFuncNested
import Derived.Shelf.Abstract
import Derived.TacticsInMore
import Derived.Test.YthfhgolkafpmnaaGreatDoorChecked
import Derived.Test.YthfhgolkafpmnaaGreatDoorGC
namespace Go.Proofs.YthfhgolkafpmnaaGreatDoor
open Go.Value renaming int->J,slice->I,pointer->aO,bool->ag,agg->aC
open Go.IntKind renaming i64->Z
open Option renaming some->O,none->U
open Go renaming Value->K,World->ae
open List renaming replicate->aI,range->bj
open Go.Code renaming wpIn->eY
open Go.Region renaming wanted->fq,ready->eZ
open Go.Proofs.Tryz
open Go.Proofs.Tryz renaming prog->Y
open Go Go.RowKit
variable {tJ:Array Nat} {want:Bool} {u:dk} {l:List Bool} {st:List Bool×List Nat} {H H1 H2:List cq} {zs:List Int} {bl:List aq} {l':List Nat} {args:List Operand} {vs xs:List K} {Bs eE T b qz c d e f i j k m n s t ty x:Nat} {jB S p q:Nat->Prop} {op:Op} {ro:Option Nat} {α σ:Type} {v:K} {R:K->ae->Prop} {w w0:ae}
def rI(bl:List aq):Nat->Nat->List Bool×List Nat->List Bool×List Nat
 |0,_,st=>st
 |f+1,b,st=>
  let r:=((dY bl b).reverse.map Int.toNat).foldl (λst t=>if st.1[t]?.getD true then st else rI bl f t st) (st.1.set b true,st.2)
  (r.1,r.2++[b])
def ik(bl:List aq)(f:Nat)(st:List Bool×List Nat)(t:Nat):List Bool×List Nat:=if st.1[t]?.getD true then st else rI bl f t st
theorem mP(bl:List aq)(f b:Nat)(st:List Bool×List Nat):rI bl (f+1) b st=((((dY bl b).reverse.map Int.toNat).foldl (ik bl f) (st.1.set b true,st.2)).1,(((dY bl b).reverse.map Int.toNat).foldl (ik bl f) (st.1.set b true,st.2)).2++[b]):=rfl
theorem zN(h:(l[t]?.getD true)=false):l[t]?=O false:=by
 cases hq:l[t]? with
 |none=>rw[hq]at h;cases h
 |some v=>rw[hq]at h;simp at h;rw[h]
theorem pm:ik bl f st t=st\/(st.1[t]?=O false/\ik bl f st t=rI bl f t st):=by
 unfold ik
 by_cases h:st.1[t]?.getD true=true
 ·rw[al h];exact .inl rfl
 ·rw[ai h];exact .inr ⟨zN (aD h),rfl⟩
theorem Ch{β:Type}{p:β->Prop}{g:β->α->β}{b:β}(hg:∀b a,p b->p (g b a))(hb:p b):∀l:List α,p (l.foldl g b)
 |[]=>hb
 |a::l=>Ch hg (hg b a hb) l
def nY(st JC:List Bool×List Nat):Prop:=JC.1.length=st.1.length/\(∀x:Nat,st.1[x]?=O true->JC.1[x]?=O true)/\ir JC.1<=ir st.1/\JC.2.length+ir JC.1<=st.2.length+ir st.1
theorem nY.refl(st:List Bool×List Nat):nY st st:=⟨rfl,λ_ h=>h,cz _,cz _⟩
theorem nY.trans{a b c:List Bool×List Nat}(h:nY a b)(k:nY b c):nY a c:=⟨k.1.trans h.1,λx hx=>k.2.1 x (h.2.1 x hx),dS k.2.2.1 h.2.2.1,dS k.2.2.2 h.2.2.2⟩
theorem LR(h:l[x]?=O true):(l.set b true)[x]?=O true:=by
 rw[fN]
 split
 ·rename_i e;subst e
  rw[al (aJ.1 h).1]
 ·exact h
theorem qB(bl:List aq):∀(f b:Nat) (st:List Bool×List Nat),st.1[b]?=O false->nY st (rI bl f b st)
 |0,b,st,_=>nY.refl st
 |f+1,b,st,hb=>by
  have hu:=oR hb;have h1:∀st1,nY (st.1.set b true,st.2) st1->∀t,nY (st.1.set b true,st.2) (ik bl f st1 t):=λst1 h t=>by
   rcases pm (bl:=bl) (f:=f) (t:=t) (st:=st1)with e|⟨hf,e⟩
   ·rw[e];exact h
   ·rw[e];exact h.trans (qB bl f t st1 hf)
  have h2:=Ch (p:=nY (st.1.set b true,st.2)) (g:=ik bl f) (λst1 t h=>h1 st1 h t) (nY.refl _) ((dY bl b).reverse.map Int.toNat);rw[mP];refine⟨by have:=h2.1;simpa using this,λx hx=>h2.2.1 x (LR hx),?_,?_⟩
  ·have:=h2.2.2.1;simp only at this|-;omega
  ·have:=h2.2.2.2;simp only[bW,lm]at this|-;omega
theorem jP(bl:List aq)(f:Nat)(st:List Bool×List Nat)(l:List Nat):nY st (l.foldl (ik bl f) st):=
 Ch (p:=nY st) (g:=ik bl f) (λst1 t h=>by
  rcases pm (bl:=bl) (f:=f) (t:=t) (st:=st1)with e|⟨hf,e⟩
  ·rw[e];exact h
  ·rw[e];exact h.trans (qB bl f t st1 hf)) (nY.refl _) l
theorem J9(bl:List aq)(f b:Nat)(st:List Bool×List Nat)(hb:st.1[b]?=O false):(rI bl (f+1) b st).1[b]?=O true:=by
 rw[mP];refine(jP bl f _ _).2.1 b ?_;have ce:=(aJ.1 hb).1;simp[ce]
theorem dK.nat(h:dK bl){z:Int}(hz:z∈dY bl b):((z.toNat:Nat):Int)=z:=by
 unfold dY at hz
 split at hz
 ·rename_i B hB
  have:=(h B (aA hB)).2 z hz;omega
 ·cases hz
theorem GO(bl:List aq)(dV:dK bl):∀(f b:Nat) (st:List Bool×List Nat),st.1[b]?=O false->
  (∀x,(rI bl f b st).1[x]?=O true->st.1[x]?=O true\/jg bl (-1) b x)/\∀x,x∈(rI bl f b st).2↔(x∈st.2\/(st.1[x]?=O false/\(rI bl f b st).1[x]?=O true))
 |0,b,st,_=>⟨λx hx=>.inl hx,λx=>⟨.inl,λh=>h.elim id λ⟨h1,h2⟩=>by rw[show(rI bl 0 b st).1=st.1 from rfl,h1]at h2;cases h2⟩⟩
 |f+1,b,st,hb=>by
  have ce:=(aJ.1 hb).1;have key:∀(l:List Nat),(∀t∈l,Edge bl b t)->∀st1:List Bool×List Nat,nY (st.1.set b true,st.2) st1->
    ((∀x,st1.1[x]?=O true->st.1[x]?=O true\/jg bl (-1) b x)/\∀x,x∈st1.2↔(x∈st.2\/(x≠b/\st.1[x]?=O false/\st1.1[x]?=O true)))->
    ((∀x,(l.foldl (ik bl f) st1).1[x]?=O true->st.1[x]?=O true\/jg bl (-1) b x)/\∀x,x∈(l.foldl (ik bl f) st1).2↔(x∈st.2\/(x≠b/\st.1[x]?=O false/\(l.foldl (ik bl f) st1).1[x]?=O true))):=by
   intro l
   induction l with
   |nil=>exact λ_ st1 _ h=>h
   |cons t l ih=>
    intro hl st1 hg h;simp only[jZ];rcases pm (bl:=bl) (f:=f) (t:=t) (st:=st1)with e|⟨hf,e⟩
    ·rw[e];exact ih (λt' wJ=>hl t' (ey _ wJ)) st1 hg h
    ·rw[e]
     have hd:=GO bl dV f t st1 hf;have Mr:=qB bl f t st1 hf;refine ih (λt' wJ=>hl t' (ey _ wJ)) _ (hg.trans Mr) ⟨λx hx=>?_,λx=>?_⟩
     ·rcases hd.1 x hx with h1|h1
      ·exact h.1 x h1
      ·exact .inr (((jg.refl).step (hl t bT) A).trans h1)
     ·rw[hd.2 x,h.2 x]
      constructor
      ·rintro((h1|⟨h1,h2,h3⟩)|⟨h1,h2⟩)
       ·exact .inl h1
       ·exact .inr ⟨h1,h2,Mr.2.1 x h3⟩
       ·by_cases hs:st.1[x]?=O true
        ·exfalso
         have:=hg.2.1 x (LR hs);rw[h1]at this;cases this
        ·have pw:x<st.1.length:=by have:=(aJ.1 h1).1;have:=hg.1;simp at this;omega
         have hsf:st.1[x]?=O false:=by
          rw[bL pw]at hs|-
          cases hv:st.1[x]
          ·rfl
          ·rw[hv]at hs;exact absurd rfl hs
         refine .inr ⟨λe=>?_,hsf,h2⟩;subst e;have:=hg.2.1 x (by simp[ce]);rw[h1]at this;cases this
      ·rintro(h1|⟨h1,h2,h3⟩)
       ·exact .inl (.inl h1)
       ·by_cases hs:st1.1[x]?=O true
        ·exact .inl (.inr ⟨h1,h2,hs⟩)
        ·refine .inr ⟨?_,h3⟩
         have pw:x<st1.1.length:=by have:=(aJ.1 h2).1;have:=hg.1;simp at this;omega
         rw[bL pw]at hs|-
         cases hv:st1.1[x]
         ·rfl
         ·rw[hv]at hs;exact absurd rfl hs
  have Dr:=key ((dY bl b).reverse.map Int.toNat) (λt ht=>?_) (st.1.set b true,st.2) (nY.refl _) ⟨λx hx=>?_,λx=>?_⟩
  ·rw[mP]
   refine⟨Dr.1,λx=>?_⟩;simp only[bO,bQ];rw[Dr.2 x];constructor
   ·rintro((h1|⟨_,h2,h3⟩)|rfl)
    ·exact .inl h1
    ·exact .inr ⟨h2,h3⟩
    ·exact .inr ⟨hb,(jP bl f _ _).2.1 x (by simp[ce])⟩
   ·rintro(h1|⟨h2,h3⟩)
    ·exact .inl (.inl h1)
    ·by_cases e:x=b
     ·exact .inr e
     ·exact .inl (.inr ⟨e,h2,h3⟩)
  ·obtain⟨z,hz,rfl⟩:=aT.1 ht
   unfold Edge;have hz:z∈dY bl b:=aD hz;rw[dV.nat hz];exact hz
  ·simp only[fN]at hx
   by_cases e:b=x
   ·subst e;exact .inr jg.refl
   ·rw[ai e]at hx;exact .inl hx
  ·constructor
   ·exact .inl
   ·rintro(h|⟨h1,h2,h3⟩)
    ·exact h
    ·simp only[fN]at h3
     rw[ai (Ne.symm h1),h2]at h3;cases h3
theorem qQ(h:l[t]?=O false):1<=ir l:=by have:=oR h;omega
theorem OM(ht:t<st.1.length)(hu:ir st.1<=f):(ik bl f st t).1[t]?=O true:=by
 unfold ik
 by_cases h:st.1[t]?.getD true=true
 ·rw[al h]
  rw[bL ht]at h|-
  simpa using h
 ·rw[ai h]
  have hf:=zN (aD h);have:=qQ hf;obtain⟨m,rfl⟩:∃m,f=m+1:=⟨f-1,A⟩;exact J9 bl m t st hf
theorem Ej(bl:List aq)(dV:dK bl):∀(f b:Nat) (st:List Bool×List Nat),st.1.length=bl.length->st.1[b]?=O false->ir st.1<=f->
  ∀x,(rI bl f b st).1[x]?=O true->st.1[x]?=O true\/∀y,Edge bl x y->(rI bl f b st).1[y]?=O true
 |0,b,st,_,hb,hu=>by have:=qQ hb;omega
 |f+1,b,st,hl,hb,hu=>by
  have hus:=oR hb;have key:∀(l:List Nat),(∀t∈l,t<bl.length)->∀st1:List Bool×List Nat,nY (st.1.set b true,st.2) st1->
    (∀x,st1.1[x]?=O true->st.1[x]?=O true\/x=b\/∀y,Edge bl x y->st1.1[y]?=O true)->
    (∀x,(l.foldl (ik bl f) st1).1[x]?=O true->st.1[x]?=O true\/x=b\/∀y,Edge bl x y->(l.foldl (ik bl f) st1).1[y]?=O true)/\∀t∈l,(l.foldl (ik bl f) st1).1[t]?=O true:=by
   intro l
   induction l with
   |nil=>exact λ_ st1 _ h=>⟨h,by simp⟩
   |cons t l ih=>
    intro ce st1 hg h;simp only[jZ];have gk:st1.1.length=bl.length:=by have:=hg.1;simp at this;omega
    have hu1:ir st1.1<=f:=by have:=hg.2.2.1;simp only at this;omega
    have KT:(ik bl f st1 t).1[t]?=O true:=OM (by have:=ce t bT;omega) hu1;have hgs:nY st1 (ik bl f st1 t):=by
     rcases pm (bl:=bl) (f:=f) (t:=t) (st:=st1)with e|⟨hf,e⟩
     ·rw[e];exact nY.refl _
     ·rw[e];exact qB bl f t st1 hf
    have:=ih (λt' wJ=>ce t' (ey _ wJ)) (ik bl f st1 t) (hg.trans hgs) λx hx=>?_
    ·refine⟨this.1,λt' wJ=>?_⟩
     rcases bX.1 wJ with rfl|wJ
     ·exact(jP bl f _ l).2.1 _ KT
     ·exact this.2 t' wJ
    ·have up:∀y,st1.1[y]?=O true->(ik bl f st1 t).1[y]?=O true:=hgs.2.1
     rcases pm (bl:=bl) (f:=f) (t:=t) (st:=st1)with e|⟨hf,e⟩
     ·rw[e]at hx|-;exact h x hx
     ·rw[e]at hx up|-
      rcases Ej bl dV f t st1 gk hf hu1 x hx with h1|h1
      ·rcases h x h1 with h2|h2|h2
       ·exact .inl h2
       ·exact .inr (.inl h2)
       ·exact .inr (.inr λy hy=>up y (h2 y hy))
      ·exact .inr (.inr h1)
  have Dr:=key ((dY bl b).reverse.map Int.toNat) (λt ht=>?_) (st.1.set b true,st.2) (nY.refl _) λx hx=>?_
  ·intro x hx
   rw[mP]at hx|-
   rcases Dr.1 x hx with h1|rfl|h1
   ·exact .inl h1
   ·refine .inr λy hy=>Dr.2 y ?_
    refine aT.2 ⟨(y:Int),?_,by simp⟩;rw[List.mem_reverse];exact hy
   ·exact .inr h1
  ·obtain⟨z,hz,rfl⟩:=aT.1 ht
   have hz:z∈dY bl b:=aD hz;exact dV.Ka (x:=b) (by unfold Edge;rw[dV.nat hz];exact hz)
  ·simp only[fN]at hx
   by_cases e:b=x
   ·exact .inr (.inl e.symm)
   ·rw[ai e]at hx;exact .inl hx
def ek(bl:List aq):List Nat:=(rI bl bl.length 0 (aI bl.length false,[])).2
theorem me(n:Nat):ir (aI n false)=n:=by simp[ir]
theorem HC(dV:dK bl)(h0:0<bl.length):x∈ek bl↔jg bl (-1) 0 x:=by
 have hb:(aI bl.length false)[0]?=O false:=by simp[h0]
 have hs:=GO bl dV bl.length 0 (aI bl.length false,[]) hb;have hc:=Ej bl dV bl.length 0 (aI bl.length false,[]) bT hb (by rw[me];exact cz _);have KU:(rI bl bl.length 0 (aI bl.length false,[])).1[0]?=O true:=by
  obtain⟨m,hm⟩:∃m,bl.length=m+1:=⟨bl.length-1,A⟩;rw[hm]at hb|-
  exact J9 bl m 0 _ hb
 have oL:∀x,¬((aI bl.length false)[x]?=O true):=λx h=>by
  rw[ku]at h
  split at h<;>simp at h
 unfold ek;rw[hs.2 x];constructor
 ·rintro(h|⟨_,h⟩)
  ·cases h
  ·exact(hs.1 x h).resolve_left (oL x)
 ·intro h
  have hx:=Fm (p:=λx=>(rI bl bl.length 0 (aI bl.length false,[])).1[x]?=O true) KU (λx y hx he _=>(hc x hx).resolve_left (oL x) y he) h;have ce:=dV.BG h0 h;exact .inr ⟨by simp[ce],hx⟩
theorem pg(h0:0<bl.length):(ek bl).length<=bl.length:=by
 have hb:(aI bl.length false)[0]?=O false:=by simp[h0]
 have:=(qB bl bl.length 0 (aI bl.length false,[]) hb).2.2.2;rw[me]at this;unfold ek;simp only[pE]at this;omega
open Classical in
theorem zj(n:Nat):(bj (n+1)).filter (λc=>decide (p c))=(bj n).filter (λc=>decide (p c))++(if p n then[n]else[]):=by
 rw[iV,mw];congr 1
 by_cases h:p n<;>simp[h]
def rH(p:Nat->Prop)[DecidablePred p](n:Nat):Nat:=((bj n).filter λc=>decide (p c)).length
theorem uQ(p:Nat->Prop)[DecidablePred p](n:Nat):rH p (n+1)=rH p n+if p n then 1 else 0:=by
 unfold rH;rw[iV,mw,bW]
 by_cases h:p n<;>simp[h]
theorem Eh[DecidablePred p][DecidablePred q]:∀{n:Nat},(∀c,c<n->p c->q c)->rH p n<=rH q n
 |0,_=>by simp[rH]
 |n+1,h=>by
  have:=Eh (n:=n) λc hc=>h c A;rw[uQ,uQ];have hn:=h n A
  by_cases hp:p n
  ·rw[al hp,al (hn hp)];omega
  ·rw[ai hp];omega
theorem Ib[DecidablePred p][DecidablePred q]:∀{n:Nat},(∀c,c<n->p c->q c)->rH p n=rH q n->∀c,c<n->q c->p c
 |0,_,_=>λc hc=>A
 |n+1,h,he=>by
  have hle:=Eh (n:=n) λc hc=>h c A;rw[uQ,uQ]at he;have hn:=h n A;intro c hc hq
  by_cases hp:p n
  ·rw[al hp,al (hn hp)]at he
   by_cases e:c=n
   ·exact e▸hp
   ·exact Ib (n:=n) (λc hc=>h c A) A c A hq
  ·rw[ai hp]at he
   by_cases U4:q n
   ·rw[al U4]at he;omega
   ·rw[ai U4]at he
    by_cases e:c=n
    ·exact absurd (e▸hq) U4
    ·exact Ib (n:=n) (λc hc=>h c A) A c A hq
theorem OX[DecidablePred p][DecidablePred q](hb:¬p b):∀{n:Nat},b<n->(∀c,c<n->(q c↔(p c\/c=b)))->rH q n=rH p n+1
 |0,h,_=>A
 |n+1,qe,h=>by
  rw[uQ,uQ]
  by_cases e:b=n
  ·subst e
   have h1:rH p b=rH q b:=Nat.le_antisymm (Eh λc hc hp=>(h c A).2 (.inl hp)) (Eh λc hc hq=>((h c A).1 hq).elim id λe=>A);rw[al ((h b A).2 (.inr rfl)),ai hb,h1]
  ·rw[OX hb A λc hc=>h c A]
   have hn:=h n A
   by_cases hp:p n
   ·rw[al hp,al (hn.2 (.inl hp))]
   ·rw[ai hp,ai λhq=>(hn.1 hq).elim hp λe'=>e e'.symm]
section
attribute [local go_sem] Oper.semAt_some
open Go.Shelf
def D4(jB:Nat->Prop)(dO W':ae):Prop:=∀b,jB b->W'.heap[b]?=dO.heap[b]?
theorem D4.cell{dO W':ae}(h:D4 jB dO W'){p:Addr}(hp:jB p.block):W'.cell? p=dO.cell? p:=World.cell?_of_block (h _ hp)
def ur(l:List Int)(k:Nat):List (Int×Int):=(bj k).map λ(j:Nat)=>(((l.length-1-j:Nat):Int),l[l.length-1-j]?.getD 0)
theorem zh(l:List Int)(k:Nat):(ur l k).length=k:=by simp[ur]
theorem wD(n:Int)(h1:-9223372036854775808<=n)(h2:n<=9223372036854775807):wrap64 n=n:=by unfold wrap64;omega
set_option maxRecDepth 100000 in
set_option maxHeartbeats 2000000 in
theorem JT(n:Nat)(hn:1<=n)(enc:α->Int×Int)(l Bs b off cap:Nat)(jB:Nat->Prop)(zs:List Int)(xs:List α)(mT:xs.map enc=ur zs zs.length)(hlen:zs.length<=100000)(hb:zs≠[]->jB b)(abv:jB Bs)(vI Jx:List α->ae->Prop)(a:ax)(ha:zs≠[]->a=O ⟨b,off,U⟩)
  (hY:∀pre x dO,vI pre dO->pre.length<zs.length->YieldAt Fence.wide (n-1) Y l #[J Z (enc x).1,J Z (enc x).2] dO λe W'=>
   (e=.returned (ag true)/\vI (pre++[x]) W'/\D4 jB dO W')\/(e=.returned (ag false)/\Jx (pre++[x]) W'))
  (dO:ae) (Xs:dO.cell? ⟨Bs,0,U⟩=O (I a zs.length cap)) (hc:∀j,j<zs.length->dO.cell? ⟨b,off+j,U⟩=O (J Z (zs[j]?.getD 0))) (h0:vI [] dO):
  CallsIn Fence.wide n Y 162 #[.func (.yield l) #[] #[],aO (O ⟨Bs,0,U⟩)] dO λe W'=>(∃v,e=.returned v)/\
   ((∃ys,ys=xs/\vI ys W')\/(∃pre,pre<+:xs/\Jx pre W')):=by
 refine callsIn_of_wp func162 rfl trivial ?_ rfl;simp only[ntmps162,List.size_toArray,lF,pE,Nat.reduceAdd,Nat.reduceSub,Array.replicate_succ,Array.replicate_zero,List.push_toArray,List.append_toArray,aS,bF];have pw:xs.length=zs.length:=by have:=bD List.length mT;rwa[aG,zh]at this
 have SJ:wrap64 ((zs.length:Int)-1)=(zs.length:Int)-1:=wD _ A A
 gi_wp2
 gi_loopw [3] (λi wr=>∃m:Nat,m<=zs.length/\i=J Z ((m:Int)-1)/\vI (xs.take (zs.length-m)) wr/\D4 jB dO wr) (λi _=>(intOf i+1).toNat)
 case atStart=>exact⟨zs.length,cz _,by first|rfl|simp[SJ],aD h0,λ_ _=>rfl⟩
 case round=>
  obtain⟨m,hm,rfl,hJs,hk⟩:=hrel;cases m with
  |zero=>
   gi_wp2
   go_end0
   exact⟨⟨_,rfl⟩,.inl ⟨xs,rfl,by rw[Nat.sub_zero,jR A]at hJs;exact hJs⟩⟩
  |succ m=>
   have fZ:zs≠[]:=by rintro rfl;simp at hm
   obtain rfl:=ha fZ;rw[show(((m+1:Nat):Int)-1)=(m:Int) by omega];obtain⟨z,hz⟩:=bE zs m A;have KD:wr.cell? ⟨b,off+m,U⟩=O (J Z z):=by have:=(hk.cell (p:=⟨b,off+m,U⟩) (hb fZ)).trans (hc m A);rwa[hz]at this
   have hBx:wr.cell? ⟨Bs,0,U⟩=O (I (O ⟨b,off,U⟩) zs.length cap):=(hk.cell (p:=⟨Bs,0,U⟩) abv).trans Xs;have ce:m<zs.length:=A;obtain⟨x,hx⟩:=bE xs (zs.length-(m+1)) A;have hex:enc x=((m:Int),z):=by
    have h1:(xs.map enc)[zs.length-(m+1)]?=O (enc x):=by rw[aW,hx];rfl
    rw[mT,ur,aW,gq A]at h1;simp only[b_,cF]at h1;rw[<-h1,show zs.length-1-(zs.length-(m+1))=m by omega,hz];rfl
   have hY1:=hY _ x wr hJs (by rw[dA];omega);rw[hex]at hY1;have xC:xs.take (zs.length-(m+1))++[x]=xs.take (zs.length-m):=by
    rw[show zs.length-m=(zs.length-(m+1))+1 by omega,bV,hx];rfl
   rw[xC]at hY1;obtain⟨fn,tmps,assign,body,hy,hR⟩:=hY1
   dsimp only at hy
   have acS:wrap64 ((m:Int)-1)=(m:Int)-1:=wD _ A A
   gi_wp2
   refine hR.mono ?_;rintro e W3 (⟨rfl,hJ3,UO⟩|⟨rfl,abx⟩)
   ·gi_wp2
    go_roundw
    case rel=>exact⟨m,A,by first|rfl|simp[acS],hJ3,λb hb=>(UO b hb).trans (hk b hb)⟩
    case measure=>simp[intOf]
   ·gi_wp2
    refine bodyPost_ret (results_none rfl _ _ _) rfl ?_;exact⟨⟨_,rfl⟩,.inr ⟨_,List.take_prefix _ _,abx⟩⟩
end
section
def cq.rest(FY:Nat->Prop)(dO:ae):cq:=⟨FY,λw=>dO.heap.size<=w.heap.size/\∀b,FY b->w.heap[b]?=dO.heap[b]?⟩
def xO(n:Nat)(dO:ae)(H:List cq):Nat->Prop:=λb=>n<=b/\b<dO.heap.size/\¬df H b
def cq.mark(eE:Nat):cq:=⟨λk=>k=eE,λw=>w.heap[eE]?=O (.deferred (O []))⟩
section
variable {S:Nat->Prop} {w0 wz w w' dO:ae} {H H1 H2 H' cZ F:List cq}
theorem Wd.xY(h:Wd S w0 H dO):Wd S w0 (cq.rest (xO w0.heap.size dO H) dO::H) dO:=
 ⟨h.c_,λe he b hb=>by
  rcases bX.1 he with rfl|he
  ·exact⟨.inr hb.1,hb.2.1⟩
  ·exact h.own e he b hb,λe he w' hs kE=>by
  rcases bX.1 he with rfl|he
  ·exact⟨hs,λb hb=>kE b hb⟩
  ·exact h.ok e he w' hs kE,jm.2 ⟨λf hf b hb Ar=>hb.2.2 ⟨f,hf,Ar⟩,h.apart⟩⟩
theorem aad(hz:nX db wz w)(h:Wd db wz (cq.rest (xO wz.heap.size w H1) w::cZ) w'):Wd (df H1) w cZ w':=by
 obtain⟨hs,hr⟩:=h.get (k:=0) rfl;have AW:=jm.1 h.apart;refine⟨⟨h.c_.os.trans hz.os.symm,h.c_.tape.trans hz.tape.symm,h.c_.output.trans hz.output.symm,hs,λk hk hnS=>?_⟩,λe he b hb=>?_,λe he=>h.ok e (ey _ he),AW.2⟩
 ·by_cases ce:k<wz.heap.size
  ·exact(h.c_.block k ce λh=>h).trans (hz.block k ce λh=>h).symm
  ·exact hr k ⟨A,hk,hnS⟩
 ·obtain⟨h1,h2⟩:=h.own e (ey _ he) b hb
  have h1:wz.heap.size<=b:=h1.elim (λh=>h.elim) id;refine⟨?_,h2⟩
  by_cases ce:b<w.heap.size
  ·left
   exact it λhn=>AW.1 e he b ⟨h1,ce,hn⟩ hb
  ·right;omega
theorem Wd.grown{row:Option Nat}(h:Wd S w0 H dO)(hg:dO.grownBy w' row)(hr:∀r,row=O r->w0.heap.size<=r/\¬df H r):Wd S w0 H w':=by
 have hb:∀b,df H b->w'.heap[b]?=dO.heap[b]?:=λb ⟨e,he,hb⟩=>hg.block b (h.own e he b hb).2 λiy=>(hr b iy.symm).2 ⟨e,he,hb⟩;refine⟨⟨hg.os.trans h.c_.os,hg.tape.trans h.c_.tape,hg.output.trans h.c_.output,dS h.c_.size hg.size,λk hk hS=>?_⟩,λe he b hb=>?_,λe he w2 hs lP=>?_,h.apart⟩
 ·exact(hg.block k (by have:=h.c_.size;omega) λiy=>by have:=(hr k iy.symm).1;omega).trans (h.c_.block k hk hS)
 ·have:=h.own e he b hb
  exact⟨this.1,by have:=hg.size;omega⟩
 ·exact h.ok e he w2 (dS hg.size hs) λb Mq=>(lP b Mq).trans (hb b ⟨e,he,Mq⟩)
theorem Wd.shut(h:Wd S w0 (cq.mark eE::H) w)(hD:w0.heap.size<=eE)(o:Obj):Wd S w0 H (w.putObj eE o):=by
 refine(h.sub (gh _ _)).grown (grownBy_putObj' w eE o) λr hr=>?_;cases hr;exact⟨hD,λ⟨f,hf,Ar⟩=>(jm.1 h.apart).1 f hf eE rfl Ar⟩
end
class My(e:cq):Prop where
 ok:∀w,e.ok w->∀b,e.fp b->∃cs t z,w.heap[b]?=O (.cells cs t z)
class Mz(H:List cq):Prop where
 all:∀e∈H,My e
instance(b:Nat)(cs:List K)(t:TypeId):My (aM b cs t):=⟨λw h k hk=>by subst hk;exact⟨_,_,_,h⟩⟩
instance(a:ax)(n c e s:Nat)(xs:List K):My (G a n c e s xs):=⟨λw h k hk=>by
 rcases h.2 with⟨rfl,_⟩|⟨g,pre,sp,rfl,_,_,_,hb⟩
 ·cases hk
 ·simp only[G,b_,cF]at hk
  subst hk
  exact⟨_,_,_,hb⟩⟩
section
variable {P:Program} {N:Nat} {ds:List Deferred} {S:Nat->Prop} {w0:ae} {L L':List (Nat×K)} {H H':List cq} {a:Act} {w:ae}
 {ops:Array Oper} {rest:List Oper} {Q:Exit->Act->ae->Prop} {p:Act->ae->Prop}
theorem nK{c:Code}(h:c.wpIn (FW ro) m P Q a w):c.wpIn (FW ro) n P Q a w:=λb k cs hb hf _=>h b k cs hb hf (λd hd=>by cases hd)
theorem H9{f:FuncId}{args:Array K}{R:Ending->ae->Prop}(h:CallsIn (FW ro) m P f args w R):CallsIn (FW ro) n P f args w R:=⟨h.1,λcs _=>h.2 cs (λd hd=>by cases hd)⟩
theorem Ex{val:α->K}{cZ:α->List cq}{φ:α->Prop}{us:List K}{x:Operand}{pos:String}{aft:Array Go.Edge}[h:bf P f][hx:B8 L args vs][hf:Ev L x (.func (.func f) us.toArray xs.toArray)](hd:ev d N L=true)
  (hc:∀w,Wd S w0 (H1++H2) w->iL P f (us++vs++xs) w λu w'=>∃x,u=val x/\Wd (df H1) w (cZ x) w'/\φ x)
  (k:∀x,φ x->cU N ds S w0 ((d,val x)::L) (cZ x++H2) (wpListIn (FW ro) 0 P ops Q rest)):cU N ds S w0 L (H1++H2) (wpListIn (FW ro) 0 P ops Q (⟨O d,.call {callee:=.value x,args:=args.toArray,argTypes:=tJ},ty,pos,aft,U⟩::rest)):=by
 intro a w hS;refine O5 (S:=S) (w0:=w0) (H:=H1++H2) (xs:=xs) (us:=us) (vs:=vs) (λ_ u w'=>∃x,u=val x/\Wd S w0 (cZ x++H2) w'/\φ x) hd (λw hw=>(hc w hw).mono λv w' ⟨x,h1,h2,h3⟩=>⟨x,h1,hw.comp h2,h3⟩) (λv w w' hw hR a hF=>?_) a w hS;obtain⟨x,rfl,h2,h3⟩:=hR;exact k x h3 a w' ⟨hF,h2⟩
theorem fO{val:α->K}{cZ:α->List cq}{φ:α->Prop}{pos:String}{aft:Array Go.Edge}[h:bf P f][hx:B8 L args vs](hd:ev d N L=true)
  (hc:∀w,Wd S w0 (H1++H2) w->iL P f vs w λu w'=>∃x,u=val x/\Wd (df H1) w (cZ x) w'/\φ x)
  (k:∀x,φ x->cU N ds S w0 ((d,val x)::L) (cZ x++H2) (wpListIn (FW ro) 0 P ops Q rest)):cU N ds S w0 L (H1++H2) (wpListIn (FW ro) 0 P ops Q (⟨O d,.call {callee:=.value (.func f),args:=args.toArray,argTypes:=tJ},ty,pos,aft,U⟩::rest)):=by
 intro a w hS;refine Nd (S:=S) (w0:=w0) (H:=H1++H2) (vs:=vs) (λ_ u w'=>∃x,u=val x/\Wd S w0 (cZ x++H2) w'/\φ x) hd (λw hw=>(hc w hw).mono λv w' ⟨x,h1,h2,h3⟩=>⟨x,h1,hw.comp h2,h3⟩) (λv w w' hw hR a hF=>?_) a w hS;obtain⟨x,rfl,h2,h3⟩:=hR;exact k x h3 a w' ⟨hF,h2⟩
class JQ(H:List cq)(is:List Nat)(H':outParam (List cq)):Prop where
 eq:is.filterMap (λi=>H[i]?)=H'
instance(H:List cq):JQ H [] []:=⟨rfl⟩
instance(H H':List cq)(i:Nat)(is:List Nat)(e:cq)[h:eJ H i e][hs:JQ H is H']:JQ H (i::is) (e::H'):=⟨by rw[List.filterMap_cons,h.at',hs.eq]⟩
theorem Wd.at_apart(h:Wd S w0 H w){e f:cq}(he:H[i]?=O e)(hf:H[j]?=O f)(UN:i≠j):∀b,e.fp b->¬f.fp b:=by
 obtain⟨hi,rfl⟩:=aJ.1 he;obtain⟨hj,rfl⟩:=aJ.1 hf;have hp:=List.pairwise_iff_getElem.1 h.apart;intro b hb Ar
 by_cases ce:i<j
 ·exact hp i j hi hj ce b hb Ar
 ·exact hp j i hj hi A b Ar hb
theorem Wd.Gu(h:Wd S w0 H w)(is:List Nat)(hn:is.Nodup)[hs:JQ H is H']:Wd S w0 H' w:=by
 rw[<-hs.eq];refine⟨h.c_,λe he=>?_,λe he=>?_,?_⟩
 ·obtain⟨i,_,hi⟩:=List.mem_filterMap.1 he
  exact h.own e (aA hi)
 ·obtain⟨i,_,hi⟩:=List.mem_filterMap.1 he
  exact h.ok e (aA hi)
 ·refine List.Pairwise.filterMap (R:=λi j=>i≠j) _ (λi j UN e he f hf=>?_) hn
  exact h.at_apart he hf UN
theorem mQ(is:List Nat)(hn:is.Nodup)[hs:JQ H is H'](k:cU N ds S w0 L H' p):cU N ds S w0 L H p:=λa w hS=>k a w ⟨hS.fr,hS.wd.Gu is hn⟩
theorem Ak{f:FuncId}{fn:Func}{c:Code}{args:List K}(hf:P.funcs[f]?=O fn)(hb:fn.body=O c)(hN:fn.ntmps=N)[hL:B7 0 args L](hlen:args.length.ble N=true)(hW:Wd S w0 H w)
  (h:cU N [] S w0 L H (eY (FW U) 0 P c (bodyPostM (FW U) 0 P fn λe w'=>∃v,e=.returned v/\R v w'))):iL P f args w R:=by
 subst hN;refine callsIn_of_wp_marks hf hb trivial (h _ _ ⟨?_,hW⟩);rw[<-hL.eq];exact Eu (Nat.le_of_ble_eq_true hlen)
theorem Ov{f:FuncId}{fn:Func}{c:Code}{args:List K}(hf:P.funcs[f]?=O fn)(hb:fn.body=O c)(hN:fn.ntmps=N)[hL:B7 0 args L](hlen:args.length.ble N=true)(hW:Wd S w0 H w)
  (h:cU N [] S w0 L H (eY (FW U) 0 P c (bodyPost P fn λe w'=>∃v,e=.returned v/\R v w'))):iL P f args w R:=by
 subst hN;refine callsIn_of_wp hf hb trivial (h _ _ ⟨?_,hW⟩);rw[<-hL.eq];exact Eu (Nat.le_of_ble_eq_true hlen)
theorem Ld{fn:Func}{tmps:Array K}(hD:w0.heap.size<=eE)(hW:Wd S w0 (cq.mark eE::H) w)(hr:∀w,(results fn tmps).run P w=.ok v w)(hR:∀w,Wd S w0 H w->R v w):
  LeavesInM (FW U) 0 P fn tmps (λe w'=>∃v,e=.returned v/\R v w') [⟨.collected eE,#[]⟩] .returning w:=by
 refine⟨by simp,.inl ⟨eE,_,rfl,run_takeDeferred (hW.get (k:=0) rfl),?_⟩⟩;exact⟨v,hr _,v,rfl,hR _ (hW.shut hD _)⟩
theorem O7{fn:Func}(hr:fn.results= #[])(hD:w0.heap.size<=eE)(hR:∀w,Wd S w0 H w->R (.tuple #[]) w):cU N [⟨.collected eE,#[]⟩] S w0 L (cq.mark eE::H) (bodyPostM (FW U) 0 P fn (λe w'=>∃v,e=.returned v/\R v w') .normal):=λa w hS=>by
 show LeavesInM _ _ _ _ _ _ _ _ _;rw[hS.fr.defers];exact Ld hD hS.wd (λw=>results_none hr _ _ _) hR
def Rnd{σ:Type}(S:Nat->Prop)(w0:ae)(kH:σ->Prop)(R:cq)(Hc:σ->List cq)(F:List cq):Act->ae->Prop:=λ_ w=>∃s,kH s/\Wd S w0 (R::(Hc s++F)) w
theorem O_{kH:σ->Prop}{R:cq}{Hc:σ->List cq}{F:List cq}(s:σ)(hI:kH s)(hH:(R::(Hc s++F)).Sublist H):cU N ds S w0 L H (Rnd S w0 kH R Hc F):=λ_ _ hS=>⟨s,hI,hS.wd.sub hH⟩
theorem Ys{g:Operand}{ps:Array Tmp}{assign body:Code}{gf:Nat}{lb:List K}[hg:Ev L g (.func (.func gf) #[] lb.toArray)][eg:bf P gf](F:List cq)(Hc:σ->List cq)(kV:∀s,Mz (Hc s))(xs:List α){encs:α->Array K}
  {bcs:List K} {bt:TypeId} (Xs:aM Bs bcs bt∈F)
  (Va:∀w,Wd S w0 H w->SeqStopsK (FW U) 4 P gf lb.toArray encs (D4 λb=>(b<w0.heap.size/\¬S b)\/b=Bs) (λys=>ys=xs) (λpre=>pre<+:xs) xs.length w)
  (kH:List α->σ->Prop) (s0:σ) (h0:kH [] s0) (hH:(Hc s0++F).Sublist H) (zT:∀x,(encs x).size=ps.size)
  (L0 La:α->List (Nat×K)) (nE:∀x a,Fr N ds L a->Fr N [] (L0 x) {tmps:=(ps.zip (encs x)).foldl (λt (p,v)=>t.setIfInBounds p v) a.tmps,defers:=[]})
  (AX:∀(l:Nat) (x:α) (s:σ) (R:cq),cU N [] S w0 (L0 x) (R::(Hc s++F)) (assign.wpIn (FW (O l)) 0 P (Exit.then (St N [] S w0 (La x) (R::(Hc s++F))) (λ_ _ _=>False))))
  (xw:∀(l:Nat) (pre:List α) (x:α) (s:σ) (R:cq),kH pre s->pre.length<xs.length->cU N [] S w0 (La x) (R::(Hc s++F)) (body.wpIn (FW (O l)) 0 P (Exit.then (Rnd S w0 (kH (pre++[x])) R Hc F) (λ_ _ _=>False))))
  (k:∀eE s,w0.heap.size<=eE->kH xs s->cU N (⟨.collected eE,#[]⟩::ds) S w0 L (cq.mark eE::(Hc s++F)) (Q .normal)):cU N ds S w0 L H (eY (FW U) 0 P (Code.rangeFunc g ps assign body) Q):=λa w hS=>by
 have mK:=hS.wd.size;have hF:∀e∈F,∀b,e.fp b->b<w.heap.size:=λe he b hb=>(hS.wd.own e (hH.subset (en _ he)) b hb).2;have lT:∀s dO,Wd S w0 (Hc s++F) dO->∀r o,dO.heap[r]?=O o->o.isCells=false->w.heap.size<=r->¬df (Hc s++F) r:=by
  rintro s dO hW r o ho hn hle ⟨e,he,hb⟩;rcases bO.1 he with he|he
  ·obtain⟨j,hj⟩:=bR (cM F he)
   obtain⟨cs,t,z,hc⟩:=((kV s).all e he).ok dO (hW.get hj) r hb;rw[hc]at ho;cases ho;cases hn
  ·have:=hF e he r hb;omega
 have KA:∀s dO,Wd S w0 (Hc s++F) dO->dO.heap[Bs]?=O (.cells bcs.toArray bt (0,0)):=λs dO hW=>by
  obtain⟨j,hj⟩:=bR (en (Hc s) Xs);exact hW.get hj
 have KO:∀s s' dO W',Wd S w0 (Hc s++F) dO->Wd S w0 (cq.rest (xO w0.heap.size dO (Hc s++F)) dO::(Hc s'++F)) W'->KeepsFrom w.heap.size dO W'/\D4 (λb=>(b<w0.heap.size/\¬S b)\/b=Bs) dO W':=by
  intro s s' dO W' hW zp;obtain⟨hs,hr⟩:=zp.get (k:=0) rfl;refine⟨⟨hs,λj o hj ho hn=>?_⟩,λb hb=>?_⟩
  ·exact(hr j ⟨A,(jl.1 ho).1,lT s dO hW j o ho hn hj⟩).trans ho
  ·rcases hb with⟨h1,h2⟩|rfl
   ·exact(zp.c_.block b h1 h2).trans (hW.c_.block b h1 h2).symm
   ·exact(KA s' W' (zp.sub (gh _ _))).trans (KA s dO hW).symm
 refine nK (m:=5) ?_;refine wpIn_rangeFunc_ownH (F:=FW U) (n:=5) (w0:=w) rfl A (hg.eq _ _ _ hS.fr) trivial (λargs w=>eg.run args w) (Va w hS.wd) (λh1 h2 b hb=>(h2 b hb).trans (h1 b hb)) (λdO l o o' hl _ _ _ b hb=>?_) (Below.refl _ _) zT
  (λpre dO=>∃s,kH pre s/\Wd S w0 (Hc s++F) dO) (λ_ _ _=>False) (λpre dO W' row ⟨s,hI,hW⟩ hg hr=>⟨s,hI,hW.grown hg λr e=>?_⟩) (λ_ _ _ _ _ h=>h.elim) ⟨s0,h0,hS.wd.sub hH⟩ (λx a' _=>Fr N [] (La x) a') (λ_ _ _ _ _ _ h _ _=>h) ?_ ?_ ?_ ?_
 ·have ce:b<w.heap.size:=by
   rcases hb with⟨h1,_⟩|rfl
   ·omega
   ·exact hF _ Xs b rfl
  exact World.putObj_heap_other A
 ·obtain⟨h1,o,ho,hn⟩:=hr r e
  exact⟨A,lT s dO hW r o ho hn h1⟩
 ·rintro l pre x dO jB ⟨s,hI,hW⟩ hK
  refine nK (m:=0) ?_;refine Code.wpIn_mono (λe a' W' q=>?_) (AX l x s _ _ dO ⟨nE x a hS.fr,hW.xY⟩);cases e with
  |normal=>
   have ho:=KO s s dO W' hW q.wd;exact hK a' W' ho.1 ho.2 ⟨s,hI,q.wd.sub (gh _ _)⟩ q.fr
  |_=>exact q.elim
 ·rintro l pre x a' dO _ _ ⟨s,hI,hW⟩ ha ce
  refine nK (m:=0) ?_;refine Code.wpIn_mono (λe a' W' q=>?_) (xw l pre x s _ hI ce a' dO ⟨ha,hW.xY⟩);cases e with
  |normal=>
   obtain⟨s',It,zp⟩:=q;have ho:=KO s s' dO W' hW zp;exact⟨ho.1,ho.2,s',It,zp.sub (gh _ _)⟩
  |_=>exact q.elim
 ·rintro eE ys dO hD rfl ⟨s,hI,hW⟩ hd
  refine k eE s A hI _ dO ⟨⟨hS.fr.size,by rw[hS.fr.defers],hS.fr.slot⟩,?_⟩;have hn:¬df (Hc s++F) eE:=lT s dO hW eE _ hd rfl hD;exact⟨hW.c_,λe he b hb=>by
   rcases bX.1 he with rfl|he
   ·cases hb
    exact⟨.inr A,(jl.1 hd).1⟩
   ·exact hW.own e he b hb,λe he w2 hs lP=>by
   rcases bX.1 he with rfl|he
   ·exact(lP eE rfl).trans hd
   ·exact hW.ok e he w2 hs lP,jm.2 ⟨λf hf b hb Ar=>by cases hb;exact hn ⟨f,hf,Ar⟩,hW.apart⟩⟩
 ·intro eE c pre dO _ _ h
  exact h.elim
end
end
section
set_option maxHeartbeats 8000000
attribute [local irreducible] wpListIn Code.wpIn Exit.then Exit.inBlock bodyPost wpQuiet wpAnyIn
def dz(x:Nat):K:=.int Z (x:Int)
theorem u_(v:K)(l:List Int)(x:Int)(w0:ae)(hv:aY w0 v 1 l gI):gF Y 52 [v,J Z x] w0 (ag (decide (x∈l))):=by
 obtain⟨a,n,c,b,o,rfl,hn,qg,A_,hc,ha,iw⟩:=hv;refine aR func52 rfl ntmps52 rfl (Wd.nil db w0) ?_;refine aU ?_;refine bH (λ(i:Nat)=>i<=n/\∀j t,j<i->l[j]?=O t->t≠x) (λi=>[(5,J Z i),(0,I a n c),(1,J Z x)]) (λ_=>[]) (λi=>n-i) 0 ⟨aN _,by simp⟩ (aP V bT) λi ⟨hi,cX⟩=>?_;refine bA ?_;apply aL<;>intro h1
 ·have ce:i<n:=aD h1
  obtain⟨t,ht⟩:=eI hn ce;have mJ:cl a b o:=⟨ha (aZ ht)⟩;have kK:cg i n:=⟨ce⟩;obtain⟨cs,gW,rfl,_⟩:=iw i t ht;have nO:bu w0 b (o+i*1) _:=⟨gW⟩;refine aU ?_;apply aL<;>intro h2
  ·refine aV ?_
   refine cv rfl ?_;have:t=x:=aD h2;rw[fQ (this▸aA ht)]
  ·refine aU ?_
   refine a_ (i+1) ⟨ce,λj q hj hq=>?_⟩ A V bT
   by_cases A7:j=i
   ·subst A7
    rw[ht]at hq;simp only[cF]at hq;subst hq;simpa using h2
   ·exact cX j q A hq
 ·have fX:i=n:=by have:=h1;simp at this;omega
  refine aV ?_;refine cv rfl ?_;rw[gx];intro hm;obtain⟨j,hj⟩:=bR hm;exact cX j x (by have:=(aJ.1 hj).1;omega) hj rfl
theorem mF{a:ax}{l:List Nat}(h:Wd S w0 H w)(hk:H[k]?=O (G a n c e 1 (l.map dz)))(hn:n=l.length)(hb:n<=100000)(hl:∀x∈l,x<=100000):aY w (I a n c) 1 (l.map (λx:Nat=>(x:Int))) gI:=by
 refine h.nf hk (aD hn) A λi x hx=>?_;rw[aW]at hx;obtain⟨y,hy,rfl⟩:=ff.1 hx;have hb:=hl y (aA hy);refine⟨[dz y],λj v hj=>?_,rfl,by simp only[dE];omega⟩
 match j,hj with
 |0,hj=>simpa[hy]using hj
theorem rx{l:List Nat}:(x:Int)∈l.map (λx:Nat=>(x:Int))↔x∈l:=by
  rw[aT]
  exact⟨λ⟨y,hy,e⟩=>by have:y=x:=A
                      exact this▸hy,λh=>⟨x,h,rfl⟩⟩
def JH(bl:List aq)(wo:Int)(b:Nat)(l:List Nat):Prop:=l.Nodup/\(∀x∈l,x<bl.length)/\∀x,x∈l↔((b:Int)≠wo/\jg bl wo b x)
theorem HF(nm pa re:K)(bl:List aq)(bs:K)(b:Nat)(wo:Int)(w0:ae)(gV:aY w0 bs 6 bl da)(hlen:bl.length<=100)(dV:dK bl)(hb:b<bl.length):
  iL Y 127 [aC #[nm,pa,re,bs],J Z b,J Z wo] w0 λu w'=>∃x:ax×Nat×List Nat,u=I x.1 x.2.2.length x.2.1/\Wd db w0 [G x.1 x.2.2.length x.2.1 3 1 (x.2.2.map dz)] w'/\JH bl wo b x.2.2:=by
 obtain⟨ba,n,bc,bb,tL,rfl,hn,qg,A_,yy,qd,iw⟩:=gV;rw[<-hn]at hb hlen;refine aR func127 rfl ntmps127 rfl (Wd.nil db w0) ?_
 repeat(first|refine bA ?_|refine dd λ_ _=>?_)
 rename_i p3 _;apply aL<;>intro h0
 ·refine aV ?_
  refine dJ 3 1 ?_;refine dh rfl λw hw=>⟨(U,0,[]),rfl,hw.sub (dN (.cons _ (.refl _))),by simp,by simp,λx=>?_⟩;have:(b:Int)=wo:=aD h0;simp[this]
 have h0':(b:Int)≠wo:=aD h0
 repeat(first|refine aU ?_|refine dd λ_ _=>?_)
 rename_i p7 _;refine bH (λ(x:Nat×List Nat×ax×Nat)=>x.1<=x.2.1.length/\x.2.1.Nodup/\(∀y∈x.2.1,y<n)/\(∀y∈x.2.1,jg bl wo b y)/\b∈x.2.1/\∀k y z,k<x.1->x.2.1[k]?=O y->Edge bl y z->(z:Int)≠wo->z∈x.2.1)
  (λx=>[(8,J Z x.1),(7,I x.2.2.1 x.2.1.length x.2.2.2),M 3 p3,(2,J Z wo)])
  (λx=>[G x.2.2.1 x.2.1.length x.2.2.2 3 1 (x.2.1.map dz),aM p3 [nm,pa,re,I ba n bc] 35])
  (λx=>n-x.1) (0,[b],O ⟨p7,0,U⟩,1) ⟨aN _,by simp,aD hb,aD jg.refl,by simp,by simp⟩ (aP V aF) λx ⟨hi,tP,UV,hr,Pb,kV⟩=>?_
 obtain⟨i,l,la,lc⟩:=x;simp only at hi tP UV hr Pb kV|-
 have Du:l.length<=n:=o_ n l tP UV;refine bA ?_;apply aL<;>intro h1
 ·have iM:i<l.length:=aD h1
  refine fy 0 rfl A λrb ro F1=>?_;subst F1;obtain⟨x0,Hi⟩:=bE l i iM;have afJ:x0<n:=UV x0 (aA Hi);obtain⟨B,hB⟩:=eI hn afJ;have mJ:cl ba bb tL:=⟨qd (aZ hB)⟩;have kK:cg x0 n:=⟨afJ⟩;have aj6:cg i l.length:=⟨iM⟩;obtain⟨cs,gW,pv,lv,tv,rfl,_,_,_,_,ht⟩:=iw x0 B hB;obtain⟨ta,tn,tc,tb,BQ,rfl,qZ,Dz,Gj,XD,Ax,tg⟩:=ht;have nO:bu w0 bb (tL+x0*6) _:=⟨gW⟩;have AV:=dV B (aA hB);have acT:MG (l.map dz) (i*1) (J Z (x0:Int)):=⟨by simp[Hi,dz]⟩;refine aU ?_;refine kX mixed bC ?_;refine kJ ?_;refine aU ?_;refine bH (λ(x:Nat×List Nat×ax×Nat)=>x.1<=tn/\x.2.1.Nodup/\(∀y∈x.2.1,y<n)/\(∀y∈x.2.1,jg bl wo b y)/\(∃r,x.2.1=l++r)/\∀k t,k<x.1->B.to[k]?=O t->t≠wo->t.toNat∈x.2.1)
   (λx=>[(10,J Z x.1),(9,I ta tn tc),(8,J Z i),(7,I x.2.2.1 x.2.1.length x.2.2.2),M 3 p3,(2,J Z wo)])
   (λx=>[G x.2.2.1 x.2.1.length x.2.2.2 3 1 (x.2.1.map dz),aM p3 [nm,pa,re,I ba n bc] 35])
   (λx=>tn-x.1) (0,l,O ⟨rb,ro,U⟩,lc) ⟨aN _,tP,UV,hr,⟨[],by simp⟩,by simp⟩ (aP V aF) λx ⟨hj,UY,G7,Jz,⟨r,hlr⟩,Pe⟩=>?_
  obtain⟨j,l',SM,SN⟩:=x;simp only at hj UY G7 Jz hlr Pe|-
  have aeQ:l'.length<=n:=o_ n l' UY G7;refine bA ?_;apply aL<;>intro h2
  ·have oK:j<tn:=aD h2
   obtain⟨t,zX⟩:=eI qZ oK;have htt:=AV.2 t (aA zX);obtain⟨k,hk⟩:∃k:Nat,t=k:=⟨t.toNat,A⟩;have Jw:k<n:=A;have uu:cl ta tb BQ:=⟨Ax (aZ zX)⟩;have EG:cg j tn:=⟨oK⟩;obtain⟨Jq,nP,rfl,_⟩:=tg j t zX;have uv:bu w0 tb (BQ+j*1) _:=⟨nP⟩;have aeA:Edge bl x0 k:=by
    unfold Edge;rw[fI hB,<-hk];exact aA zX
   have aiI:jg bl wo b x0:=hr x0 (aA Hi);have skip:(t=wo\/k∈l')->∀q t',q<j+1->B.to[q]?=O t'->t'≠wo->t'.toNat∈l':=by
    intro hs q t' hq wJ hw
    by_cases Cy:q=j
    ·subst Cy
     rw[zX]at wJ;simp only[cF]at wJ;subst wJ;rcases hs with h|h
     ·exact absurd h hw
     ·rw[hk];simpa using h
    ·exact Pe q t' A wJ hw
   refine aU ?_;generalize Mp:(!decide (t=wo))=b1;refine jS 52 (ag (b1&& !decide (k∈l'))) ?_ ?_
   ·cases b1
    ·refine cT ?_
     exact aP V aF
    ·refine aV ?_
     refine bY rfl (λw hw=>u_ _ (l'.map (λx:Nat=>(x:Int))) t w (mF hw (k:=0) rfl rfl A λy hy=>by have:=G7 y hy;omega)) ?_;rw[hk,show decide ((k:Int)∈l'.map (λx:Nat=>(x:Int)))=decide (k∈l') by rw[kq];exact rx];refine aV ?_;exact aP V aF
   refine bA ?_;apply aL<;>intro h3
   ·have hkw:t≠wo/\k∉l':=by subst Mp;simpa using h3
    repeat(first|refine bA ?_|refine dd λ_ _=>?_)
    refine fB rfl rfl A A λa' c'=>?_;rw[show l'.map dz++[J Z t]=(l'++[k]).map dz by simp[dz,hk]];rw[show l'.length+1=(l'++[k]).length by simp];refine aU ?_;refine a_ (j+1,l'++[k],a',c') ⟨oK,?_,?_,?_,⟨r++[k],by rw[hlr,fu]⟩,?_⟩ bB V aB
    ·rw[nA]
     exact⟨UY,by simp,λa ha c hc e=>by simp only[bQ]at hc;exact hkw.2 (hc▸e▸ha)⟩
    ·intro y hy
     rcases bO.1 hy with hy|hy
     ·exact G7 y hy
     ·simp only[bQ]at hy;omega
    ·intro y hy
     rcases bO.1 hy with hy|hy
     ·exact Jz y hy
     ·simp only[bQ]at hy
      subst hy;exact aiI.step aeA (by rw[<-hk];exact hkw.1)
    ·intro q t' hq wJ hw
     by_cases Cy:q=j
     ·subst Cy
      rw[zX]at wJ;simp only[cF]at wJ;subst wJ;rw[hk];simp
     ·exact cM _ (Pe q t' (by simp only at hq;omega) wJ hw)
   ·have hkw:t=wo\/k∈l':=by
     subst Mp
     by_cases h:t=wo
     ·exact .inl h
     ·right;simpa[h]using h3
    refine aU ?_;exact a_ (j+1,l',SM,SN) ⟨oK,UY,G7,Jz,⟨r,hlr⟩,skip hkw⟩ bB V aF
  ·have fX:j=tn:=by have:=h2;simp at this;omega
   refine aV ?_;refine a_ (i+1,l',SM,SN) ⟨by rw[hlr,bW];omega,UY,G7,Jz,by rw[hlr];exact cM _ Pb,?_⟩ bB V aF;intro k y z hk hy he hw;simp only at hk hy|-
   rw[hlr,eX A]at hy
   by_cases hki:k=i
   ·subst hki
    rw[Hi]at hy;simp only[cF]at hy;subst hy;unfold Edge at he;rw[fI hB]at he;obtain⟨q,hq⟩:=bR he;have:=Pe q _ (by have:=(aJ.1 hq).1;omega) hq hw;simpa using this
   ·rw[hlr]
    exact cM _ (kV k y z A hy he hw)
 ·have fX:i=l.length:=by have:=h1;simp at this;omega
  refine aV ?_;refine dh rfl λw hw=>⟨(la,lc,l),rfl,hw.sub (dN (.cons _ (.refl _))),tP,λx hx=>by rw[<-hn];exact UV x hx,λx=>⟨λhx=>⟨h0',hr x hx⟩,λ⟨_,hx⟩=>?_⟩⟩;refine Fm (p:=λy=>y∈l) Pb (λy z hy he hw=>?_) hx;obtain⟨k,hk⟩:=bR hy;exact kV k y z (by have:=(aJ.1 hk).1;omega) hk he hw
theorem JY{a:ax}(h:Wd S w0 H w)(hk:H[k]?=O (G a n c e 1 (l.map ag)))(hn:n=l.length)(hb:n<=100000):aY w (I a n c) 1 l CT:=by
 refine h.nf hk hn A λi x hx=>⟨[ag x],λj v hj=>?_,rfl⟩
 match j,hj with
 |0,hj=>simpa[hx]using hj
theorem WN{rs:List Row}{cZ:List cq}(h:Wd S w0 (cZ++(rs.map gP++H)) w){r:Row}(hr:rs[i]?=O r)(hl:r.l.length<=1000/\∀x∈r.l,dE x):aY w (fi r) 1 r.l gI:=by
 have ce:i<rs.length:=(aJ.1 hr).1;refine h.nf (k:=cZ.length+i) (a:=r.a) (n:=r.l.length) (c:=r.c) (e:=3) (s:=1) (xs:=r.l.map (J Z)) ?_ rfl A λj y hy=>⟨[J Z y],λk v hk=>?_,rfl,hl.2 y (aA hy)⟩
 ·rw[dH A,show cZ.length+i-cZ.length=i by omega,eX (aD ce),aW,hr];rfl
 ·match k,hk with
  |0,hk=>simpa[hy]using hk
end
section
section
variable {P:Program} {N:Nat} {ds:List Deferred} {S:Nat->Prop} {w0:ae} {L L':List (Nat×K)} {H H' Hr:List cq} {Q:Exit->Act->ae->Prop} {x y:Operand} {dw:Act->ae->Prop} {l:List Oper} {di:Nat} {listed:Array Bool}
theorem vX{id:Nat}[hl:HU l n](Hr:List cq)(hm:P.follows .mixedOrders=true)(_hH:Hr.Sublist H)
  (h:cU N ds S w0 L H (wpAnyH P .any l.toArray (et (Q .normal)) (Wd S w0 Hr) n (Array.replicate n false))):cU N ds S w0 L H (eY (FW U) 0 P (Code.region id l.toArray true) Q):=λa w hS=>by
 refine wpIn_wide.2 (wp_region_any hm ?_);have h1:=wpAny_of_held _ _ _ _ (h a {w with drawn:=w.drawn+1} ⟨hS.fr,hS.wd.same rfl rfl rfl rfl⟩);rw[<-hl.eq]at h1;have key:∀(di:Nat) (listed:Array Bool) (a:Act) (w:ae),wpAny P .any l.toArray (et (Q .normal)) di listed a w->wpAny P .any l.toArray Q di listed a w:=by
  intro di
  induction di with
  |zero=>exact λlisted a w h=>⟨h.1,h.2⟩
  |succ di ih=>
   intro listed a w h;refine⟨λe=>h.1 e,λi hi=>?_⟩;have h2:=h.2 i hi;unfold wpOp at h2|-
   split
   ·rename_i ho
    simp only[ho]at h2;exact ih _ _ _ h2
   ·rename_i o ho
    simp only[ho]at h2
    split
    ·rename_i hw
     rw[al hw]at h2;rcases h2 with h3|⟨_,a',w',h3⟩
     ·left
      unfold Oper.wp at h3|-
      revert h3
      generalize (execOp a.eval o).run P w=r;intro h3;cases r with
      |ok nx w1=>
       cases nx with
       |value v=>exact ih _ _ _ h3
       |skip=>exact ih _ _ _ h3
       |defer d=>exact ih _ _ _ h3
       |enter f args=>
        refine Calls.mono h3 λe w2 hh=>?_;cases e with
        |returned v=>exact ih _ _ _ hh
        |panicked c=>exact(hh:False).elim
        |outgrown=>exact(Exists.elim hh λ_ h=>Exists.elim h λ_ h=>(h:False).elim)
       |row r args=>exact Rows.mono h3 λv w2 hh=>ih _ _ _ hh
       |_=>exact h3
      |halt x w1=>cases x<;>exact(h3:False).elim
     ·exact(h3:False).elim
    ·rename_i hw
     rw[ai hw]at h2;exact ih _ _ _ h2
 have:=key _ _ _ _ h1;simpa using this
theorem er(i:Nat){pos:String}{aft:Array Go.Edge}[ho:eJ l i ⟨O d,op,ty,pos,aft,U⟩][h:gg P N ds S w0 L Hr op v](hd:ev d N L=true)
  (hr:((Region.noSelect l.toArray&&Region.free .any l.toArray listed i)&&(eZ .any l.toArray listed).contains i)=true) (hH:Hr.Sublist H)
  (k:cU N ds S w0 ((d,v)::L) H (wpAnyH P .any l.toArray (et dw) (Wd S w0 Hr) di (listed.setIfInBounds i true))):cU N ds S w0 L H (wpAnyH P .any l.toArray (et dw) (Wd S w0 Hr) (di+1) listed):=λa w hS=>by
 simp only[eU]at hr;exact wpAnyH_take (i:=i) (oi:=⟨O d,op,ty,pos,aft,U⟩) (v:=v) (aD ho.at') hr.1.1 hr.1.2 hr.2 (λc a w hh=>hh) (.inl ⟨rfl,λw hw=>h.run _ _ _ _ _ a w hS.fr hw⟩) (hS.wd.sub hH) (k _ _ ⟨hS.fr.fv hd v,hS.wd⟩)
theorem W(i:Nat){pos:String}{aft:Array Go.Edge}[ho:eJ l i ⟨O d,op,ty,pos,aft,U⟩][h:gg P N ds S w0 L Hr op v](k:cU N ds S w0 ((d,v)::L) H (wpAnyH P .any l.toArray (et dw) (Wd S w0 Hr) di (listed.setIfInBounds i true)))(hd:ev d N L=true:=by rfl)(hr:((Region.noSelect l.toArray&&Region.free .any l.toArray listed i)&&(eZ .any l.toArray listed).contains i)=true:=by decide+kernel)(hH:Hr.Sublist H:=by repeat(first|exact dU _|exact List.nil_sublist _|refine List.Sublist.cons_cons _ ?_|refine List.Sublist.cons _ ?_)):cU N ds S w0 L H (wpAnyH P .any l.toArray (et dw) (Wd S w0 Hr) (di+1) listed):=er i hd hr hH k
theorem YB(i:Nat){pos:String}{aft:Array Go.Edge}[ho:eJ l i ⟨O d,op,ty,pos,aft,O (j,want)⟩][hj:tU l.toArray j t][hb:jQ L t (ag want)][h:gg P N ds S w0 L Hr op v](hd:ev d N L=true)
  (hr:((Region.noSelect l.toArray&&Region.free .any l.toArray listed i)&&(eZ .any l.toArray listed).contains i)=true) (hH:Hr.Sublist H)
  (k:cU N ds S w0 ((d,v)::L) H (wpAnyH P .any l.toArray (et dw) (Wd S w0 Hr) di (listed.setIfInBounds i true))):cU N ds S w0 L H (wpAnyH P .any l.toArray (et dw) (Wd S w0 Hr) (di+1) listed):=λa w hS=>by
 simp only[eU]at hr;refine wpAnyH_take (i:=i) (oi:=⟨O d,op,ty,pos,aft,O (j,want)⟩) (v:=v) (aD ho.at') hr.1.1 hr.1.2 hr.2 (λc a w hh=>hh) (.inl ⟨?_,λw hw=>h.run _ _ _ _ _ a w hS.fr hw⟩) (hS.wd.sub hH) (k _ _ ⟨hS.fr.fv hd v,hS.wd⟩);simp only[fq,hS.fr.yield (ops:=l.toArray) (j:=j) (b:=want)];simp
theorem az(i:Nat){pos:String}{aft:Array Go.Edge}[ho:eJ l i ⟨O d,op,ty,pos,aft,O (j,want)⟩][hj:tU l.toArray j t][hb:jQ L t (ag want)][h:gg P N ds S w0 L Hr op v](k:cU N ds S w0 ((d,v)::L) H (wpAnyH P .any l.toArray (et dw) (Wd S w0 Hr) di (listed.setIfInBounds i true)))(hd:ev d N L=true:=by rfl)(hr:((Region.noSelect l.toArray&&Region.free .any l.toArray listed i)&&(eZ .any l.toArray listed).contains i)=true:=by decide+kernel)(hH:Hr.Sublist H:=by repeat(first|exact dU _|exact List.nil_sublist _|refine List.Sublist.cons_cons _ ?_|refine List.Sublist.cons _ ?_)):cU N ds S w0 L H (wpAnyH P .any l.toArray (et dw) (Wd S w0 Hr) (di+1) listed):=YB i hd hr hH k
theorem YC(i:Nat){b:Bool}{pos:String}{aft:Array Go.Edge}[ho:eJ l i ⟨O d,op,ty,pos,aft,O (j,want)⟩][hj:tU l.toArray j t][hn:JL want b][hb:jQ L t (ag b)](hd:ev d N L=true)
  (hr:((Region.noSelect l.toArray&&Region.free .any l.toArray listed i)&&(eZ .any l.toArray listed).contains i)=true) (hH:Hr.Sublist H)
  (k:cU N ds S w0 ((d,undef)::L) H (wpAnyH P .any l.toArray (et dw) (Wd S w0 Hr) di (listed.setIfInBounds i true))):cU N ds S w0 L H (wpAnyH P .any l.toArray (et dw) (Wd S w0 Hr) (di+1) listed):=λa w hS=>by
 simp only[eU]at hr;refine wpAnyH_take (i:=i) (oi:=⟨O d,op,ty,pos,aft,O (j,want)⟩) (v:=undef) (aD ho.at') hr.1.1 hr.1.2 hr.2 (λc a w hh=>hh) (.inr ⟨?_,rfl⟩) (hS.wd.sub hH) (k _ _ ⟨hS.fr.fv hd undef,hS.wd⟩);simp only[fq,hS.fr.yield (ops:=l.toArray) (j:=j) (b:=b)];exact hn.ne
theorem ap(i:Nat){b:Bool}{pos:String}{aft:Array Go.Edge}[ho:eJ l i ⟨O d,op,ty,pos,aft,O (j,want)⟩][hj:tU l.toArray j t][hn:JL want b][hb:jQ L t (ag b)](k:cU N ds S w0 ((d,undef)::L) H (wpAnyH P .any l.toArray (et dw) (Wd S w0 Hr) di (listed.setIfInBounds i true)))(hd:ev d N L=true:=by rfl)(hr:((Region.noSelect l.toArray&&Region.free .any l.toArray listed i)&&(eZ .any l.toArray listed).contains i)=true:=by decide+kernel)(hH:Hr.Sublist H:=by repeat(first|exact dU _|exact List.nil_sublist _|refine List.Sublist.cons_cons _ ?_|refine List.Sublist.cons _ ?_)):cU N ds S w0 L H (wpAnyH P .any l.toArray (et dw) (Wd S w0 Hr) (di+1) listed):=YC i hd hr hH k
theorem jr{off o:Nat}(i:Nat)[h:OneCell P T]{XJ:List K}{pos:String}{aft:Array Go.Edge}[ho:eJ l i ⟨U,.store T x y,ty,pos,aft,U⟩]
  [hx:Ev L x (aO (O ⟨b,off,U⟩))] [hy:Ev L y v] [h1:Dn v] [hb:mf H b off k o j n c e s xs] [hu:lS xs j v XJ] [hH:wG H k (G (O ⟨b,o,U⟩) n c e s XJ) H']
  (hr:decide (eZ .any l.toArray listed=[i])=true) (hr2:(eZ .any l.toArray (listed.setIfInBounds i true)).isEmpty=true) (Ud:Hr.Sublist H')
  (kk:cU N ds S w0 L H' dw):cU N ds S w0 L H (wpAnyH P .any l.toArray (et dw) (Wd S w0 Hr) (di+1) listed):=by
 intro a w hS;obtain⟨_,_,_,pre,sp,Dw,_,QO⟩:=hS.wd.nj hb.at';have e1:=hb.eq;subst e1;have ce:=hu.lt;have hc:=hS.wd.dp hb.at' (bL ce);have zV:=pR (P:=P) (T:=T) h1.one hc (by simp[World.frozen?,QO]);have kE:=hS.wd.Oy v hb.at' ce;rw[hu.eq,hH.Gv]at kE;refine wpAnyH_all (iG hr) bT λi' zt=>?_;simp only[bQ]at zt;subst zt;unfold wpOp;rw[show l.toArray[i']?=O ⟨U,.store T x y,ty,pos,aft,U⟩ by simpa using ho.at'];simp only;have hwt:fq (⟨U,.store T x y,ty,pos,aft,U⟩:Oper) (yielded l.toArray a.tmps)=true:=rfl;rw[al hwt]
 left
 unfold Oper.wp;rw[show(execOp a.eval ⟨U,.store T x y,ty,pos,aft,U⟩).run P w=.ok .skip (w.setCell ⟨b,o+j,U⟩ v) by simp[execOp,hx.eq _ _ _ hS.fr,hy.eq _ _ _ hS.fr,zV]];refine⟨kE.sub Ud,wpAnyH_done (List.isEmpty_iff.1 hr2) ?_ _⟩;exact kk _ _ ⟨hS.fr,kE⟩
end
end
section
set_option maxHeartbeats 8000000
attribute [local irreducible] wpListIn Code.wpIn Exit.then Exit.inBlock bodyPost wpQuiet wpAnyIn
theorem H7{fs:List bZ}{f:bZ}(h:jz fs f=0):dK f.blocks:=by
 unfold jz at h
 split at h
 ·rename_i h1;exact absurd h h1
 ·rename_i h1
  have hz:=kD (aD h1);intro b hb;obtain⟨j,hj⟩:=bR hb;have:=hz j (aJ.1 hj).1;simp only[lC,hj]at this;exact OZ this
theorem vQ(h:(gL u).1=0):∀X∈u.funcs,jz u.funcs X=0:=by
 unfold gL at h
 split at h
 ·cases h
 ·split at h
  ·rename_i h2;exact absurd h h2
  ·split at h
   ·rename_i h2;exact absurd h h2
   ·split at h
    ·rename_i h2;exact absurd h h2
    ·rename_i h4
     have hz:=kD (aD h4);intro X hX;obtain⟨j,hj⟩:=bR hX;have:=hz j (aJ.1 hj).1;simpa only[lC,hj]using this
end
section
section
variable {P:Program} {ro:Option Nat} {N:Nat} {ds:List Deferred} {S:Nat->Prop} {w0:ae} {L L':List (Nat×K)} {H H':List cq} {Q:Exit->Act->ae->Prop}
theorem DH{dw:Act->ae->Prop}{ops:Array Oper}(k:∀a w,dw a w->Q .normal a w):∀(di:Nat) (listed:Array Bool) (a:Act) (w:ae),wpAnyIn (FW ro) 0 P .any ops (et dw) di listed a w->wpAnyIn (FW ro) 0 P .any ops Q di listed a w:=by
 intro di
 induction di with
 |zero=>exact λlisted a w h=>⟨h.1,k a w h.2⟩
 |succ di ih=>
  intro listed a w h;refine⟨λe=>k a w (h.1 e),λi hi=>?_⟩;have h2:=h.2 i hi;unfold wpOpIn at h2|-
  split
  ·rename_i ho
   simp only[ho]at h2;exact ih _ _ _ h2
  ·rename_i o ho
   simp only[ho]at h2
   split
   ·rename_i hw
    rw[al hw]at h2;refine⟨h2.1,?_⟩;have h3:=h2.2
    revert h3
    generalize (o.semAt (FW ro).round a.eval).run P w=r;intro h3;cases r with
    |ok nx w1=>
     cases nx with
     |value v=>exact ih _ _ _ h3
     |skip=>exact ih _ _ _ h3
     |defer d=>exact ih _ _ _ h3
     |enter f args=>
      refine⟨h3.1,h3.2.mono λe w2 hh=>?_⟩;cases e with
      |returned v=>exact ih _ _ _ hh
      |panicked c=>exact(hh:False).elim
      |outgrown=>exact(Exists.elim hh λ_ h=>Exists.elim h λ_ h=>(h:False).elim)
     |row r args=>exact⟨h3.1,h3.2.mono λv w2 hh=>ih _ _ _ hh⟩
     |round l f tmps assign body=>
      refine⟨h3.1,h3.2.mono λe w2 hh=>?_⟩;cases e with
      |returned v=>exact ih _ _ _ hh
      |panicked c=>exact(hh:False).elim
      |outgrown=>exact(Exists.elim hh λ_ h=>Exists.elim h λ_ h=>(h:False).elim)
     |_=>exact h3
    |halt x w1=>cases x<;>exact(h3:False).elim
   ·rename_i hw
    rw[ai hw]at h2;exact⟨h2.1,ih _ _ _ h2.2⟩
theorem Yp{id:Nat}{l:List Oper}[hl:HU l n](Lz:α->List (Nat×K))(Hz:α->List cq)(hm:P.follows .mixedOrders=true)
  (h:cU N ds S w0 L H (wpAnyIn (FW ro) 0 P .any l.toArray (et λa w=>∃z,St N ds S w0 (Lz z) (Hz z) a w) n (Array.replicate n false)))
  (k:∀z,cU N ds S w0 (Lz z) (Hz z) (Q .normal)):cU N ds S w0 L H (eY (FW ro) 0 P (Code.region id l.toArray true) Q):=λa w hS=>by
 refine wpIn_region_any hm ?_;have h1:=h a {w with drawn:=w.drawn+1} ⟨hS.fr,hS.wd.same rfl rfl rfl rfl⟩;have:=DH (λa w ⟨z,hz⟩=>k z a w hz) _ _ _ _ h1;rw[<-hl.eq]at this;simpa using this
theorem Yo{Lz:α->List (Nat×K)}{Hz:α->List cq}(z:α)(hL:wX L (Lz z))(hH:(Hz z).Sublist H):cU N ds S w0 L H (λa w=>∃z,St N ds S w0 (Lz z) (Hz z) a w):=λ_ _ hS=>⟨z,hS.fix hL hH⟩
end
open Classical in
noncomputable def EA(R:Nat->Nat->Prop)(n b c i:Nat):List Int:=((bj (if i<b then n else if i=b then c else 0)).filter λd=>decide (R i d)).map λx:Nat=>(x:Int)
open Classical in
noncomputable def AU(R:Nat->Nat->Prop)(n:Nat):List (List Int):=(bj n).map λb=>((bj n).filter λd=>decide (R b d)).map λx:Nat=>(x:Int)
theorem QJ(R:Nat->Nat->Prop)(hn:n<=100)(b c i:Nat)(hc:c<=100):(EA R n b c i).length<=100/\∀x∈EA R n b c i,dE x:=by
 classical
 have h1:(if i<b then n else if i=b then c else 0)<=100:=by split<;>(try split)<;>omega
 refine⟨?_,λx hx=>?_⟩
 ·rw[EA,aG]
  have:=fC (λd=>decide (R i d)) (bj (if i<b then n else if i=b then c else 0));rw[d_]at this;omega
 ·rw[EA]at hx
  obtain⟨y,hy,rfl⟩:=aT.1 hx;have:=(cR.1 hy).1;have:y<_:=cW.1 this;simp only[dE];omega
end
section
set_option maxHeartbeats 8000000
attribute [local irreducible] wpListIn Code.wpIn Exit.then Exit.inBlock bodyPost wpQuiet wpAnyIn bodyPostM
theorem MH(v:K)(hv:∃a n c,v=I a n c)(w0:ae):iL Y 135 [v] w0 λu w'=>∃p:Nat,u=.func (.func 162) #[] #[aO (O ⟨p,0,U⟩)]/\Wd db w0 [aM p [v] 42] w'/\True:=by
 obtain⟨a,n,c,rfl⟩:=hv;refine aR func135 rfl ntmps135 rfl (Wd.nil db w0) ?_
 repeat(first|refine aU ?_|refine dd λ_ _=>?_)
 exact dh rfl λw hw=>⟨_,rfl,hw,trivial⟩
theorem Qt{enc:α->Int×Int}{a:ax}{xs:List α}(pt:aY w0 (I a n c) 1 zs gI)(hlen:zs.length<=100000)(hK:∀b,b<w0.heap.size->jB b)(hKB:jB Bs)(hw:nX db w0 w)
  (hB:w.cell? ⟨Bs,0,U⟩=O (I a n c)) (mT:xs.map enc=ur zs zs.length):
  SeqStopsK (FW U) 4 Y 162 #[aO (O ⟨Bs,0,U⟩)] (λx=>#[J Z (enc x).1,J Z (enc x).2]) (D4 jB) (λys=>ys=xs) (λpre=>pre<+:xs) xs.length w:=by
 intro l vI Jx dO hW _ _ hY h0;have pw:xs.length=zs.length:=by have:=bD List.length mT;rwa[aG,zh]at this
 obtain⟨a',n',c',b,o,hv,hn,_,_,_,ha,iw⟩:=pt;simp only[Value.slice.injEq]at hv;obtain⟨rfl,rfl,rfl⟩:=hv;subst hn;have lT:∀j,j<zs.length->w0.cell? ⟨b,o+j,U⟩=O (J Z (zs[j]?.getD 0)):=λj hj=>by
  obtain⟨cs,hc,rfl,_⟩:=iw j _ (bL hj);have:=hc 0 _ rfl;simpa[hj]using this
 refine JT 4 A enc l Bs b o c jB zs xs mT hlen (λfZ=>hK b ?_) hKB vI Jx a (λfZ=>ha fZ) (λpre x W1 hJ hl=>hY pre x W1 hJ A) dO ((hW.cell (p:=⟨Bs,0,U⟩) (jC w _ hB)).trans hB) (λj hj=>?_) h0
 ·exact jC w0 _ (lT 0 (yh.2 fZ))
 ·have h1:=jv hw (lT j hj)
  exact(hW.cell (jC w _ h1)).trans h1
abbrev rO(n:Nat):Type:={p:Int×Nat//p.2<n}
def rO.enc{n:Nat}(x:rO n):Int×Int:=(x.1.1,(x.1.2:Int))
theorem JR:∀l:List (Int×Int),(∀p∈l,0<=p.2/\p.2<n)->∃xs:List (rO n),xs.map rO.enc=l
 |[],_=>⟨[],rfl⟩
 |p::l,h=>by
  obtain⟨xs,mT⟩:=JR l λq hq=>h q (ey _ hq);have hp:=h p bT;refine⟨⟨(p.1,p.2.toNat),by simp only;omega⟩::xs,?_⟩;rw[cf,mT];simp only[rO.enc];congr 1;rw[show((p.2.toNat:Nat):Int)=p.2 by omega]
theorem En(zs:List Int):(ur zs zs.length).map (·.2)=zs.reverse:=by
 apply cY;intro i;rw[ur,dM,aW]
 by_cases hi:i<zs.length
 ·rw[gq hi,vN hi]
  have:zs.length-1-i<zs.length:=A;simp[this]
 ·rw[cm (by rw[d_];omega),cm (by rw[ny];omega)];rfl
theorem M3{p:Int×Int}(h:p∈ur zs zs.length):p.2∈zs:=by
 have:p.2∈(ur zs zs.length).map (·.2):=aT.2 ⟨p,h,rfl⟩;rw[En]at this;simpa using this
def yY(n:Nat)(pl sb:Nat)(s:(List Bool×List Nat)×(ax×Nat)):List cq:=
 [aM pl [I s.2.1 s.1.2.length s.2.2] 42,G s.2.1 s.1.2.length s.2.2 3 1 (s.1.2.map dz),G (O ⟨sb,0,U⟩) n n 4 1 (s.1.1.map ag)]
def FU(nm pa re:K)(ba:ax)(n bc ps pf pv pl sb:Nat):List cq:=[aM ps [I (O ⟨sb,0,U⟩) n n] 144,aM pf [nm,pa,re,I ba n bc] 35,aM pv [.func (.func 134) #[] #[aO (O ⟨ps,0,U⟩),aO (O ⟨pf,0,U⟩),aO (O ⟨pv,0,U⟩),aO (O ⟨pl,0,U⟩)]] 175]
theorem Z_(nm pa re:K)(bl:List aq)(ba:ax)(n bc ps pf pv pl sb:Nat)(wz:ae)(gV:aY wz (I ba n bc) 6 bl da)(hlen:bl.length<=100)(dV:dK bl):
  ∀(f b:Nat) (s:(List Bool×List Nat)×(ax×Nat)),s.1.1.length=bl.length->s.1.1[b]?=O false->ir s.1.1<=f->s.1.2.length+ir s.1.1<=n->∀w,Wd db wz (yY n pl sb s++FU nm pa re ba n bc ps pf pv pl sb) w->
  iL Y 134 [J Z b,aO (O ⟨ps,0,U⟩),aO (O ⟨pf,0,U⟩),aO (O ⟨pv,0,U⟩),aO (O ⟨pl,0,U⟩)] w λu w'=>∃z:ax×Nat,u=.tuple #[]/\Wd (df (yY n pl sb s++FU nm pa re ba n bc ps pf pv pl sb)) w (yY n pl sb (rI bl f b s.1,z)++FU nm pa re ba n bc ps pf pv pl sb) w'/\True:=by
 have rq:=gV;obtain⟨ba,n,bc,bb,tL,hv,hn,qg,A_,yy,qd,iw⟩:=gV;simp only[Value.slice.injEq]at hv;obtain⟨rfl,rfl,rfl⟩:=hv;intro f
 induction f with
 |zero=>intro b s _ hb hu;have:=qQ hb;omega
 |succ f ih=>
  rintro b ⟨⟨seen,left⟩,la,lc⟩ hl hb hu hle w hw;simp only at hl hb hu hle;have hus:=oR hb;have qe:b<n:=by have:=(aJ.1 hb).1;omega
  obtain⟨B,hB⟩:=eI hn qe;have mJ:cl ba bb tL:=⟨qd (aZ hB)⟩;have kK:cg b n:=⟨qe⟩;obtain⟨cs,gW,pv',lv,tv,rfl,_,_,mB,lu,ht⟩:=iw b B hB;have IK:=ht;obtain⟨ta,tn,tc,tb,BQ,rfl,qZ,Dz,Gj,XD,Ax,tg⟩:=ht;have nO:bu wz bb (tL+b*6) _:=⟨gW⟩;have AV:=dV B (aA hB);have YM:uk seen b false:=⟨hb⟩;have hz:=hw.c_;refine Ak (w0:=wz) (S:=db) func134 rfl ntmps134 rfl hw.xY ?_;generalize C8:cq.rest (xO wz.heap.size w (yY n pl sb ((seen,left),la,lc)++FU nm pa re ba n bc ps pf pv pl sb)) w=RS;simp only[yY,FU,bF,aS];refine aV ?_;refine cN (val:=λp:Nat=>.func (.func 162) #[] #[aO (O ⟨p,0,U⟩)]) (cZ:=λp=>[aM p [I ta tn tc] 42]) (φ:=λ_=>True) rfl (λw hw=>MH _ ⟨_,_,_,rfl⟩ w) λBs _=>?_;simp only[bF,aS];refine aU ?_;obtain⟨xs,mT⟩:=JR (n:=n) (ur B.to B.to.length) λp hp=>by have:=AV.2 p.2 (M3 hp);omega
  refine iC (L':=[(18,.func (.func 162) #[] #[aO (O ⟨Bs,0,U⟩)]),(0,J Z b),M 1 ps,M 2 pf,M 3 pv,M 4 pl]) V (.refl _) ?_;refine mQ [2,3,4,5,6,7,0,1] (by decide) ?_;have hvt:yY n pl sb ((seen.set b true,left),(la,lc))=[aM pl [I la left.length lc] 42,G la left.length lc 3 1 (left.map dz),G (O ⟨sb,0,U⟩) n n 4 1 ((seen.set b true).map ag)]:=rfl;refine Ys (α:=rO n) (gf:=162) (lb:=[aO (O ⟨Bs,0,U⟩)]) [aM ps [I (O ⟨sb,0,U⟩) n n] 144,aM pf [nm,pa,re,I ba n bc] 35,aM pv [.func (.func 134) #[] #[aO (O ⟨ps,0,U⟩),aO (O ⟨pf,0,U⟩),aO (O ⟨pv,0,U⟩),aO (O ⟨pl,0,U⟩)]] 175,aM Bs [I ta tn tc] 42,RS] (yY n pl sb) (λs=>⟨by intro e he;simp only[yY,bX,gr,or_false]at he;rcases he with rfl|rfl|rfl<;>infer_instance⟩) xs (encs:=λx=>#[J Z (rO.enc x).1,J Z (rO.enc x).2]) (Bs:=Bs) (bcs:=[I ta tn tc]) (bt:=42) bT
   (λw hw=>Qt (enc:=rO.enc) IK A (λb hb=>.inl ⟨hb,λh=>h⟩) (.inr rfl) hw.c_ (hw.kr Bs 0 _ rfl) mT)
   (λpre s=>s.1=(pre.map λx=>x.1.2).foldl (ik bl f) (seen.set b true,left)) ((seen.set b true,left),(la,lc)) rfl (.refl _) (λ_=>rfl)
   (λx=>[(20,J Z (x.1.2:Int)),(19,J Z x.1.1),(0,J Z b),M 1 ps,M 2 pf,M 3 pv,M 4 pl]) (λx=>[(7,J Z (x.1.2:Int)),(0,J Z b),M 1 ps,M 2 pf,M 3 pv,M 4 pl]) (λx a h=>?_) (λl x s R=>?_) (λl pre x s R hI ce=>?_) λeE s hD hI=>?_
  ·have h2:=((h.to (L':=[(0,J Z b),M 1 ps,M 2 pf,M 3 pv,M 4 pl]) V).fv (d:=19) rfl (J Z x.1.1)).fv (d:=20) rfl (J Z (x.1.2:Int))
   have e:(#[19,20].zip #[J Z (rO.enc x).1,J Z (rO.enc x).2]).foldl (λ(t:Array K) (q:Tmp×K)=>t.setIfInBounds q.1 q.2) a.tmps=(a.tmps.setIfInBounds 19 (J Z x.1.1)).setIfInBounds 20 (J Z (x.1.2:Int)):=by simp[rO.enc]
   refine⟨Eq.trans (bD Array.size e) h2.size,rfl,λp hp=>?_⟩;exact Eq.trans (bD (λt:Array K=>t[p.1]?) e) (h2.slot p hp)
  ·refine bA ?_
   exact aP V aF
  ·obtain⟨⟨i0,t⟩,acN⟩:=x
   obtain⟨⟨sn,lf⟩,SM,SN⟩:=s;simp only at hI acN;have hg:=jP bl f (seen.set b true,left) (pre.map λx=>x.1.2);rw[<-hI]at hg;have pt:sn.length=n:=by have:=hg.1;simp at this;omega
   have hg3:=hg.2.2.1;have hg4:=hg.2.2.2;simp only at hg3 hg4;obtain⟨sv,rC⟩:=bE sn t A;have hes:uk sn t sv:=⟨rC⟩;have QY:cg t n:=⟨acN⟩;have mC:((pre++[(⟨(i0,t),acN⟩:rO n)]).map λx:rO n=>x.1.2).foldl (ik bl f) (seen.set b true,left)=ik bl f (sn,lf) t:=by
    rw[bz,qT,<-hI];rfl
   rw[mC];simp only[yY,bF,aS];cases sv
   ·have hv:ik bl f (sn,lf) t=rI bl f t (sn,lf):=by unfold ik;simp[rC]
    rw[hv];refine aU ?_;refine mQ [1,2,3,4,5,6,0,7,8] (by decide) ?_;refine fU (H1:=(yY n pl sb ((sn,lf),SM,SN)++FU nm pa re ba n bc ps pf pv pl sb)++[R,aM Bs [I ta tn tc] 42,RS]) rfl ?_;refine Ex (val:=λ_:ax×Nat=>.tuple #[]) (cZ:=λz=>yY n pl sb (rI bl f t (sn,lf),z)++FU nm pa re ba n bc ps pf pv pl sb) (φ:=λ_=>True) (us:=[]) (vs:=[J Z (t:Int)]) (xs:=[aO (O ⟨ps,0,U⟩),aO (O ⟨pf,0,U⟩),aO (O ⟨pv,0,U⟩),aO (O ⟨pl,0,U⟩)]) rfl
     (λw hw=>ih t ((sn,lf),SM,SN) bB rC bB bB w (hw.sub (fe _ _))) λz _=>?_
    simp only[yY,FU,bF,aS];refine aU ?_;refine mQ [6,0,1,2,3,4,5,7,8] (by decide) ?_;exact O_ (rI bl f t (sn,lf),z) rfl (.refl _)
   ·have hv:ik bl f (sn,lf) t=(sn,lf):=by unfold ik;simp[rC]
    rw[hv];refine aU ?_;exact O_ ((sn,lf),SM,SN) rfl (.refl _)
  ·obtain⟨⟨sn,lf⟩,SM,SN⟩:=s
   simp only at hI;have qH:(xs.map λx=>x.1.2)=(dY bl b).reverse.map Int.toNat:=by
    have h1:=bD (List.map (λp:Int×Int=>p.2.toNat)) mT;rw[dM]at h1;rw[show(xs.map λx=>x.1.2)=xs.map ((λp:Int×Int=>p.2.toNat)∘rO.enc)from ew λx _=>by simp[rO.enc],h1,fI hB,<-En,dM]
    rfl
   rw[qH]at hI;have hd:rI bl (f+1) b (seen,left)=(sn,lf++[b]):=by rw[mP];simp only;rw[<-hI]
   have hg:=jP bl f (seen.set b true,left) ((dY bl b).reverse.map Int.toNat);rw[<-hI]at hg;have hg4:=hg.2.2.2;simp only at hg4;simp only[yY,bF,aS]
   repeat(first|refine aU ?_|refine dd λ_ _=>?_)
   refine fB rfl rfl A A λa' c'=>?_;rw[show lf.map dz++[J Z (b:Int)]=(lf++[b]).map dz by simp[dz],show lf.length+1=(lf++[b]).length by simp];refine aV ?_;refine mQ [1,9,2,3,4,5,6,7] (by decide) ?_;refine O7 rfl hD λw' kE=>⟨(a',c'),rfl,?_,trivial⟩;simp only;rw[hd];rw[<-C8]at kE;exact aad hz kE
theorem Km(nm pa re:K)(bl:List aq)(bs:K)(w0:ae)(gV:aY w0 bs 6 bl da)(hlen:bl.length<=100)(dV:dK bl)(dW:0<bl.length):
  iL Y 90 [aC #[nm,pa,re,bs]] w0 λu w'=>∃x:ax×Nat,u=I x.1 (ek bl).length x.2/\Wd db w0 [G x.1 (ek bl).length x.2 3 1 ((ek bl).map dz)] w'/\True:=by
 have rq:=gV;obtain⟨ba,n,bc,bb,tL,rfl,hn,qg,A_,yy,qd,iw⟩:=gV;refine aR func90 rfl ntmps90 rfl (Wd.nil db w0) ?_
 repeat(first|refine aV ?_|refine dd λ_ _=>?_)
 rename_i pf _ pl _ sb _ ps _ pv _;rw[show aI n (ag false)=(aI n false).map ag by simp];refine dJ 3 1 ?_;refine mQ [4,0,3,2,5,1] (by decide) ?_;refine fU (H1:=(yY n pl sb ((aI n false,[]),(U,0))++FU nm pa re ba n bc ps pf pv pl sb)++[]) rfl ?_;refine Ex (val:=λ_:ax×Nat=>.tuple #[]) (cZ:=λz=>yY n pl sb (rI bl n 0 (aI n false,[]),z)++FU nm pa re ba n bc ps pf pv pl sb) (φ:=λ_=>True) (us:=[]) (vs:=[J Z ((0:Nat):Int)]) (xs:=[aO (O ⟨ps,0,U⟩),aO (O ⟨pf,0,U⟩),aO (O ⟨pv,0,U⟩),aO (O ⟨pl,0,U⟩)]) rfl
  (λw hw=>Z_ nm pa re bl ba n bc ps pf pv pl sb w0 rq hlen dV n 0 ((aI n false,[]),(U,0)) (aD hn) (by simp only;rw[ku,al A]) (by simp only[me];exact cz _) (by simp only[me];simp) w (hw.sub (fe _ _))) λz _=>?_
 obtain⟨za,zc⟩:=z;have hp:(rI bl n 0 (aI n false,[])).2=ek bl:=by unfold ek;rw[<-hn]
 generalize rI bl n 0 (aI n false,[])=d at hp;obtain⟨d1,d2⟩:=d;simp only at hp;subst hp;simp only[yY,FU,bF,aS];refine aU ?_;exact dh rfl λw hw=>⟨(za,zc),rfl,hw.Gu [1] (by decide),trivial⟩
theorem Vw(a b:K)(l m:List Int)(w0:ae)(ha:aY w0 a 1 l gI)(hb:aY w0 b 1 m gI):gF Y 88 [a,b] w0 (ag (decide (l=m))):=by
 obtain⟨aa,an,ac,ab,ao,rfl,No,Np,aee,hac,Kt,Iw⟩:=ha;obtain⟨ba,bn,bc,bb,bo,rfl,qe,agO,agN,yy,qd,zP⟩:=hb;refine aR func88 rfl ntmps88 rfl (Wd.nil db w0) ?_;refine bA ?_;apply aL<;>intro h1
 ·refine aV ?_
  refine cv rfl ?_;rw[gx];rintro rfl;simp at h1;omega
 have hlen:an=bn:=by simp at h1;omega
 refine aU ?_;refine bH (λ(i:Nat)=>i<=an/\∀j,j<i->l[j]?=m[j]?) (λi=>[(5,J Z i),(0,I aa an ac),(1,I ba bn bc)]) (λ_=>[]) (λi=>an-i) 0 ⟨aN _,by simp⟩ (aP V bT) λi ⟨hi,cX⟩=>?_;refine bA ?_;apply aL<;>intro h2
 ·have ce:i<an:=aD h2
  obtain⟨x,hx⟩:=eI No ce;obtain⟨y,hy⟩:=eI qe (show i<bn by omega);have mJ:cl aa ab ao:=⟨Kt (aZ hx)⟩;have oF:cl ba bb bo:=⟨qd (aZ hy)⟩;have kK:cg i an:=⟨ce⟩;have Dt:cg i bn:=⟨A⟩;obtain⟨cs,gW,rfl,_⟩:=Iw i x hx;obtain⟨Jq,nP,rfl,_⟩:=zP i y hy;have nO:bu w0 ab (ao+i*1) _:=⟨gW⟩;have QQ:bu w0 bb (bo+i*1) _:=⟨nP⟩;refine aU ?_;refine kX mixed bC ?_;refine kJ ?_;refine bA ?_;apply aL<;>intro h3
  ·refine aV ?_
   refine cv rfl ?_;rw[gx];rintro rfl;rw[hx]at hy;simp only[cF]at hy;simp[hy]at h3
  ·have Zk:x=y:=aD h3
   refine aU ?_;refine a_ (i+1) ⟨ce,λj hj=>?_⟩ A V bT
   by_cases A7:j=i
   ·subst A7;rw[hx,hy,Zk]
   ·exact cX j A
 ·have fX:i=an:=by have:=h2;simp at this;omega
  refine aV ?_;refine cv rfl ?_;rw[fQ];apply cY;intro j
  by_cases hj:j<an
  ·exact cX j A
  ·rw[cm A,cm A]
theorem T9{R:Nat->Nat->Prop}(hn:n<=100){l:List Int}(h:l∈AU R n):l.length<=1000/\∀x∈l,dE x:=by
 classical
 obtain⟨b,hb,rfl⟩:=aT.1 h;have:=QJ R hn b n b hn;simp only[EA,Nat.lt_irrefl,if_false,if_true]at this;exact⟨A,this.2⟩
theorem Qy(h:(gL u).1=0){X:bZ}(hX:u.funcs[k]?=O X):0<X.blocks.length:=by
 unfold gL at h
 split at h
 ·cases h
 ·split at h
  ·rename_i h2;exact absurd h h2
  ·split at h
   ·rename_i h2;exact absurd h h2
   ·rename_i h3
    have hz:=kD (aD h3);have:=hz k (aJ.1 hX).1;simp only[mR,lC,hX,nD]at this;refine it λhn=>?_;have e:X.blocks.length=0:=A;rw[e]at this;simp[within]at this
    split at this
    ·omega
    ·split at this
     ·omega
     ·split at this<;>omega
theorem RO(nm pa re:K)(bl:List aq)(bs:K)(qf:∃a n c,bs=I a n c)(w0:ae)(gV:aY w0 bs 6 bl da)(hlen:bl.length<=100)(dV:dK bl)(hb:0<bl.length):
  iL Y 126 [aC #[nm,pa,re,bs]] w0 λu w'=>∃x:ax×Nat×List Nat,u=I x.1 x.2.2.length x.2.1/\Wd db w0 [G x.1 x.2.2.length x.2.1 3 1 (x.2.2.map dz)] w'/\JH bl (-1) 0 x.2.2:=by
 obtain⟨ba,n,bc,rfl⟩:=qf;refine aR func126 rfl ntmps126 rfl (Wd.nil db w0) ?_
 repeat(first|refine bA ?_|refine dd λ_ _=>?_)
 refine cN (val:=λx:ax×Nat×List Nat=>.slice x.1 x.2.2.length x.2.1) (cZ:=λx=>[G x.1 x.2.2.length x.2.1 3 1 (x.2.2.map dz)]) (φ:=λx=>JH bl (-1) 0 x.2.2) rfl (λw hw=>HF _ _ _ bl _ 0 (-1) w (gV.cB cu hw.c_) hlen dV hb) λx hx=>?_;obtain⟨xa,xc,l⟩:=x;simp only[bF,aS]at hx|-
 refine aU ?_;exact dh rfl λw hw=>⟨(xa,xc,l),rfl,hw.Gu [0] (by decide),hx⟩
end
section
section
variable {P:Program} {ro:Option Nat} {N:Nat} {ds:List Deferred} {S:Nat->Prop} {w0:ae} {L L':List (Nat×K)} {H H':List cq} {ops:Array Oper} {rest:List Oper} {Q:Exit->Act->ae->Prop} {x y:Operand}
theorem lN{zs:List K}{pos:String}{aft:Array Go.Edge}[h:dt P T e s qz zs](hd:ev d N L=true)
  (k:∀b,w0.heap.size<=b->cU N ds S w0 ((d,I (O ⟨b,0,U⟩) 0 0)::L) (G (O ⟨b,0,U⟩) 0 0 e s []::H) (wpListIn (FW ro) 0 P ops Q rest)):cU N ds S w0 L H (wpListIn (FW ro) 0 P ops Q (⟨O d,.buildSlice T 0 #[],ty,pos,aft,U⟩::rest)):=by
 intro a w hS;obtain⟨i,zz,hi,_,_,_,_⟩:=h.get;refine gj (v:=.slice (O ⟨w.heap.size,0,U⟩) 0 0) (w':=w.alloc (.cells #[] e)) rfl (λ_ h=>by cases h) ?_ ?_
 ·have hr:(Instr.buildSlice T 0 #[]).run P w=.ok (I (O ⟨w.heap.size,0,U⟩) 0 0) (w.alloc (.cells #[] e)):=by
   simp[Instr.buildSlice,run_underlying h.sy,sizeOf,typeInfo,hi,Instr.fill,newRow];congr 2;exact Array.eq_empty_of_size_eq_zero bT
  simp[execOp,hr]
 ·exact k _ hS.wd.size _ _ ⟨hS.fr.fv hd _,hS.wd.uA e s 0 [] bT (by simp[maxLen])⟩
theorem m_{l:List α}{e:α}(h:l[k]?=O e):l.set k e=l:=by
 apply cY;intro i;rw[fN]
 split
 ·rename_i hi;subst hi
  rw[al (aJ.1 h).1,h]
 ·rfl
theorem GX{z:K}{pos:String}{aft:Array Go.Edge}{ad a2:ax}{c2:Nat}[h:dt P T e 1 qz [z]][hx:Ev L x (I ad n c)][hy:Ev L y (I a2 m c2)]
  [hv:wW H ad n c k e 1 xs] (hd:ev d N L=true) (l:List Int) (pt:∀w,Wd S w0 H w->aY w (I a2 m c2) 1 l gI) (nN:(n+m)*qz<=140737488355328) (Mm:n+m<=140737488355328)
  {F:cq->List cq} [hF:D6 H k F] (kk:∀a' c',cU N ds S w0 ((d,I a' (n+m) c')::L) (F (G a' (n+m) c' e 1 (xs++l.map (J Z)))) (wpListIn (FW ro) 0 P ops Q rest)):cU N ds S w0 L H (wpListIn (FW ro) 0 P ops Q (⟨O d,.call {callee:=.builtin .append,args:=#[x,y],argTypes:=#[T,T]},ty,pos,aft,U⟩::rest)):=by
 intro a w hS;obtain⟨a2',m',c2',b,o,pu,hm,Xy,_,_,ha,iw⟩:=pt w hS.wd;simp only[Value.slice.injEq]at pu;obtain⟨rfl,rfl,rfl⟩:=pu
 by_cases h0:m=0
 ·subst h0
  have hl:l=[]:=nr hm.symm;subst hl;obtain⟨i,zz,hi,_,_,_,_⟩:=h.get;have qg:n<=c:=by
   obtain⟨_,h2⟩:=hS.wd.get hv.at';rcases h2 with⟨_,h2,h3⟩|⟨_,_,_,_,h3,_⟩<;>omega
  have hr:(Builtin.append_ #[T,T] ty #[I ad n c,I a2 0 c2]).run P w=.ok (I ad n c) w:=by
   cases ad<;>cases a2<;>simp[Builtin.append_,run_underlying h.sy,sizeOf,typeInfo,hi,Builtin.lenOf,Builtin.firstCells,qg,storeCells,loadCells,loadCellsFrom]
  refine gj (v:=.slice ad n c) (w':=w) rfl (λ_ h=>by cases h) ?_ ?_
  ·simp[execOp,resolve,invoke,builtin,hx.eq _ _ _ hS.fr,hy.eq _ _ _ hS.fr,hr]
  ·have:=kk ad c
   simp only[dm,cj,dR]at this;rw[<-hF.eq,m_ hv.at']at this;exact this _ _ ⟨hS.fr.fv hd _,hS.wd⟩
 ·have fZ:l≠[]:=by rintro rfl;simp at hm;exact h0 hm
  have ha:=ha fZ;subst ha;obtain⟨a',c',w',hr,kE⟩:=hS.wd.append (P:=P) (ty:=ty) (c2:=c2) (a2:=⟨b,o,U⟩) (m:=m) (news:=l.map (J Z)) h A hv.at' A (by simp[hm]) (λj u hj=>by
   rw[aW]at hj;obtain⟨q,hq,rfl⟩:=ff.1 hj;obtain⟨cs,hc,rfl,_⟩:=iw j q hq;have:=hc 0 _ rfl;rw[Addr.add_lit];simpa using this) (λu hu=>by obtain⟨q,_,rfl⟩:=aT.1 hu;rfl) nN Mm rfl
  refine gj (v:=.slice a' (n+m) c') (w':=w') rfl (λ_ h=>by cases h) ?_ ?_
  ·simp[execOp,resolve,invoke,builtin,hx.eq _ _ _ hS.fr,hy.eq _ _ _ hS.fr,hr]
  ·rw[hF.eq]at kE
   exact kk a' c' _ _ ⟨hS.fr.fv hd _,kE⟩
end
attribute [local irreducible] wpListIn Code.wpIn Exit.then Exit.inBlock bodyPost wpQuiet wpAnyIn
set_option maxHeartbeats 4000000
instance(x:Nat):Dn (dz x):=⟨rfl⟩
theorem WI{l:List Nat}{y:Nat}(hl:l'.length=l.length)(UN:i<j)(hj:i+j+1=l.length)(h:∀k,k<l.length->l'[k]?=if k<i\/j<k then l[l.length-1-k]? else l[k]?)(hx:l'[i]?=O x)(hy:l'[j]?=O y):
  ∀k,k<l.length->((l'.set i y).set j x)[k]?=if k<i+1\/j-1<k then l[l.length-1-k]? else l[k]?:=by
 intro k hk;have hi:=h i A;have hjj:=h j A;rw[ai A,hx]at hi;rw[ai A,hy]at hjj;rw[fN,fN]
 by_cases e1:j=k
 ·subst e1
  rw[al rfl,al dr,al A,show l.length-1-j=i by omega,hi]
 ·rw[ai e1]
  by_cases e2:i=k
  ·subst e2
   rw[al rfl,al A,al A,show l.length-1-i=j by omega,hjj]
  ·rw[ai e2,h k hk]
   by_cases e3:k<i\/j<k
   ·rw[al e3,al A]
   ·rw[ai e3,ai A]
theorem WH{l:List Nat}(hl:l'.length=l.length)(hi:l.length<=2*i+1)(h:∀k,k<l.length->l'[k]?=if k<i\/(l.length:Int)-1-i<k then l[l.length-1-k]? else l[k]?):l'=l.reverse:=by
 apply cY;intro k
 by_cases hk:k<l.length
 ·rw[h k hk,vN hk]
  by_cases e:k<i\/(l.length:Int)-1-i<k
  ·rw[al e]
  ·rw[ai e,show l.length-1-k=k by omega]
 ·rw[cm A,cm (by rw[ny];omega)]
theorem R1(a:ax)(c:Nat)(l:List Nat)(hlen:l.length<=100000)(w:ae)(hw:Wd (df [G a l.length c 3 1 (l.map dz)]) w [G a l.length c 3 1 (l.map dz)] w):
  iL Y 155 [I a l.length c] w λu w'=>∃_:Unit,u=.tuple #[]/\Wd (df [G a l.length c 3 1 (l.map dz)]) w [G a l.length c 3 1 (l.reverse.map dz)] w'/\True:=by
 refine aR func155 rfl ntmps155 rfl hw ?_;generalize df [G a l.length c 3 1 (l.map dz)]=SS;refine aV ?_;refine bH (λ(x:Nat×Int×ax×List Nat)=>x.2.1=(l.length:Int)-1-x.1/\x.1<=l.length/\x.2.2.2.length=l.length/\x.2.2.1=a/\∀k,k<l.length->x.2.2.2[k]?=if k<x.1\/(l.length:Int)-1-x.1<k then l[l.length-1-k]? else l[k]?) (λx=>[(2,J Z x.1),(3,J Z x.2.1),(0,I x.2.2.1 l.length c)])
  (λx=>[G x.2.2.1 l.length c 3 1 (x.2.2.2.map dz)]) (λx=>l.length-x.1) (0,(l.length:Int)-1,a,l) ⟨by simp,aN _,rfl,rfl,λk hk=>by rw[ai bB]⟩ (aP V aF) λx ⟨hj,hi,hl,ha,cX⟩=>?_
 obtain⟨i,j,a',l'⟩:=x;simp only at hj hi hl ha cX|-
 refine bA ?_;apply aL<;>intro h1
 ·have ce:(i:Int)<j:=aD h1
  obtain⟨jn,rfl⟩:∃jn:Nat,j=jn:=⟨j.toNat,A⟩;refine fy 0 rfl A λrb ro F1=>?_;obtain⟨x,hx⟩:=bE l' i A;obtain⟨y,hy⟩:=bE l' jn A;rw[F1];have kK:cg i l.length:=⟨A⟩;have Dt:cg jn l.length:=⟨A⟩;have UA:uk l' i x:=⟨hx⟩;have YL:uk l' jn y:=⟨hy⟩;have he3:uk (l'.set i y) jn y:=⟨by rw[fN,ai A,hy]⟩;have he4:uk (l'.set jn x) i x:=⟨by rw[fN,ai A,hx]⟩;refine aU ?_;refine AR [(2,J Z i),(3,J Z jn),(0,I (O ⟨rb,ro,U⟩) l.length c)] [G (O ⟨rb,ro,U⟩) l.length c 3 1 (((l'.set i y).set jn x).map dz)] mixed ?_ ?_
  ·repeat' (first|refine gu 0 rfl E ?_|refine gu 1 rfl E ?_|refine gu 2 rfl E ?_|refine gu 3 rfl E ?_|refine gu 4 rfl E ?_|refine gu 5 rfl E ?_|refine gu 6 rfl E ?_|refine gu 8 rfl E ?_|refine gu 9 rfl E ?_|refine gu 10 rfl E ?_|refine gu 12 rfl E ?_|refine gu 14 rfl E ?_|refine Cj E ?_|refine AQ E ?_|refine any_nil|refine pC E ?_|refine any_cons ?_ ?_|refine yO rfl ?_|refine ms ?_|refine qm ?_|refine sX ?_)
   all_goals exact aP V aF
  ·refine aV ?_
   refine a_ (i+1,(jn:Int)-1,O ⟨rb,ro,U⟩,(l'.set i y).set jn x) ⟨by simp only;omega,by simp only;omega,aD hl,by rw[<-F1];exact ha,λk hk=>?_⟩ bB V aF;have:=WI hl A A (λk hk=>by
    rw[cX k hk]
    by_cases e:k<i\/jn<k
    ·rw[al e,al A]
    ·rw[ai e,ai A]) hx hy k hk
   rw[this]
   by_cases e:k<i+1\/jn-1<k
   ·rw[al e,al bB]
   ·rw[ai e,ai bB]
 ·have fX:l'=l.reverse:=WH hl (by simp at h1;omega) cX
  refine aV ?_;refine Ck rfl λw' kE=>⟨(),rfl,?_,trivial⟩;rw[<-fX,<-ha];exact kE
end
section
set_option maxHeartbeats 8000000
attribute [local irreducible] wpListIn Code.wpIn Exit.then Exit.inBlock bodyPost wpQuiet wpAnyIn
theorem CJ(nm pa re:K)(bl:List aq)(bs:K)(qf:∃a n c,bs=I a n c)(w0:ae)(gV:aY w0 bs 6 bl da)(hlen:bl.length<=100)(dV:dK bl)(dW:0<bl.length):
  iL Y 107 [aC #[nm,pa,re,bs]] w0 λu w'=>∃x:ax×Nat,u=I x.1 (ek bl).length x.2/\Wd db w0 [G x.1 (ek bl).length x.2 3 1 ((ek bl).reverse.map dz)] w'/\True:=by
 obtain⟨ba,n,bc,rfl⟩:=qf;have hl:=pg dW;refine aR func107 rfl ntmps107 rfl (Wd.nil db w0) ?_
 repeat(first|refine bA ?_|refine dd λ_ _=>?_)
 refine cN (val:=λx:ax×Nat=>.slice x.1 (ek bl).length x.2) (cZ:=λx=>[G x.1 (ek bl).length x.2 3 1 ((ek bl).map dz)]) (φ:=λ_=>True) rfl (λw hw=>Km _ _ _ bl _ w (gV.cB cu hw.c_) hlen dV dW) λx _=>?_;obtain⟨xa,xc⟩:=x;simp only;refine bA ?_;refine fO (val:=λ_:Unit=>.tuple #[]) (cZ:=λ_=>[G xa (ek bl).length xc 3 1 ((ek bl).reverse.map dz)]) (φ:=λ_=>True) rfl (λw hw=>R1 xa xc (ek bl) A w hw.pre) λ_ _=>?_;simp only[bF,aS];refine aU ?_;exact dh rfl λw hw=>⟨(xa,xc),rfl,hw.Gu [0] (by decide),trivial⟩
def Rel(n:Nat)(sn:List Bool)(s:List Nat):Prop:=(∀x∈s,x<n)/\∀x:Nat,x<n->(sn[x]?=O true↔x∈s)
theorem Rel.add{sn:List Bool}{s:List Nat}(h:Rel n sn s)(hl:sn.length=n)(hb:b<n):Rel n (sn.set b true) (s++[b]):=by
 refine⟨λx hx=>?_,λx hx=>?_⟩
 ·rcases bO.1 hx with hx|hx
  ·exact h.1 x hx
  ·simp only[bQ]at hx;omega
 ·rw[fN,bO,bQ]
  by_cases e:b=x
  ·subst e
   rw[al rfl,al A];simp
  ·rw[ai e,h.2 x hx]
   exact⟨.inl,λh=>h.resolve_right λh=>e h.symm⟩
theorem Bo(l:List Nat):(l.map (λx:Nat=>(x:Int))).map (J Z)=l.map dz:=by rw[dM];rfl
theorem PF(w:ae):aY w (I U 0 0) 1 (([]:List Nat).map (λx:Nat=>(x:Int))) gI:=⟨U,0,0,0,0,rfl,rfl,cz _,A,A,by simp,by simp⟩
def aaW(own:Bool)(a:ax)(c:Nat)(l:List Nat):List cq:=if own then[G a l.length c 3 1 (l.map dz)]else[]
theorem adt(nm pa re:K)(bl:List aq)(ba:ax)(n bc:Nat)(hlen:bl.length<=100)(dV:dK bl):
  ∀(f b:Nat) (st:List Bool×List Nat) (s:List Nat),st.1.length=n->st.1[b]?=O false->ir st.1<=f->st.2.length+ir st.1<=n->s.length+ir st.1<=n->Rel n st.1 s->(∀x∈st.2,x<n)->∀(sa la:ax) (sc lc:Nat) (w:ae),aY w (I ba n bc) 6 bl da->
  aY w (I sa s.length sc) 1 (s.map λx:Nat=>(x:Int)) gI->aY w (I la st.2.length lc) 1 (st.2.map λx:Nat=>(x:Int)) gI->
  iL Y 78 [aC #[nm,pa,re,I ba n bc],J Z b,I sa s.length sc,I la st.2.length lc] w λu w'=>∃x:List Nat×(ax×Nat)×(ax×Nat),u=.tuple #[I x.2.1.1 x.1.length x.2.1.2,I x.2.2.1 (rI bl f b st).2.length x.2.2.2]/\
   Wd db w [G x.2.1.1 x.1.length x.2.1.2 3 1 (x.1.map dz),G x.2.2.1 (rI bl f b st).2.length x.2.2.2 3 1 ((rI bl f b st).2.map dz)] w'/\(Rel n (rI bl f b st).1 x.1/\x.1.length+ir (rI bl f b st).1<=n/\∀y∈(rI bl f b st).2,y<n):=by
 intro f
 induction f with
 |zero=>intro b st s _ hb hu;have:=qQ hb;omega
 |succ f ih=>
  rintro b ⟨sn0,lf0⟩ s0 hl hb hu hle ahu hrel hlf sa la sc lc w gV hss hls;simp only at hl hb hu hle ahu hrel hlf hls;have rq:=gV;obtain⟨ba,n,bc,bb,tL,hv,hn,qg,A_,yy,qd,iw⟩:=gV;simp only[Value.slice.injEq]at hv;obtain⟨rfl,rfl,rfl⟩:=hv;have hus:=oR hb;have qe:b<n:=by have:=(aJ.1 hb).1;omega
  obtain⟨B,hB⟩:=eI hn qe;have mJ:cl ba bb tL:=⟨qd (aZ hB)⟩;have kK:cg b n:=⟨qe⟩;obtain⟨cs,gW,pv',lv,tv,rfl,_,_,mB,lu,ht⟩:=iw b B hB;have IK:=ht;obtain⟨ta,tn,tc,tb,BQ,rfl,qZ,Dz,Gj,XD,Ax,tg⟩:=ht;have nO:bu w bb (tL+b*6) _:=⟨gW⟩;have AV:=dV B (aA hB);have akN:tn<=2:=by rw[qZ];exact AV.1
  refine aR func78 rfl ntmps78 rfl (Wd.nil db w) ?_
  repeat(first|refine bA ?_|refine dd λ_ _=>?_)
  rename_i p4 _;refine lN rfl λeb _=>?_;refine bA ?_;refine GX rfl (s0.map λx:Nat=>(x:Int)) (λw hw=>hss.cB du hw.c_) A A λa1 c1=>?_;rw[aS,Bo,eC]
  repeat(first|refine bA ?_|refine dd λ_ _=>?_)
  refine fB rfl rfl A A λa2 c2=>?_;rw[show s0.map dz++[J Z (b:Int)]=(s0++[b]).map dz by simp[dz],show s0.length+1=(s0++[b]).length by simp];refine aV ?_;refine bH (λ(x:Nat×((List Bool×List Nat)×List Nat)×Bool×(ax×Nat)×(ax×Nat))=>x.1<=tn/\x.2.1.1=(((dY bl b).reverse.map Int.toNat).take (tn-x.1)).foldl (ik bl f) (sn0.set b true,lf0)/\Rel n x.2.1.1.1 x.2.1.2/\x.2.1.2.length+ir x.2.1.1.1<=n/\(∀y∈x.2.1.1.2,y<n)/\(x.2.2.1=false->x.2.1.1.2=lf0/\x.2.2.2.2=(la,lc)))
   (λx=>[(11,J Z ((x.1:Int)-1)),(2,I x.2.2.2.1.1 x.2.1.2.length x.2.2.2.1.2),(3,I x.2.2.2.2.1 x.2.1.1.2.length x.2.2.2.2.2),(10,I ta tn tc),M 4 p4,(1,J Z b)])
   (λx=>G x.2.2.2.1.1 x.2.1.2.length x.2.2.2.1.2 3 1 (x.2.1.2.map dz)::aM p4 [nm,pa,re,I ba n bc] 35::aaW x.2.2.1 x.2.2.2.2.1 x.2.2.2.2.2 x.2.1.1.2) (λx=>x.1) (tn,((sn0.set b true,lf0),s0++[b]),false,(a2,c2),(la,lc))
   ⟨cz _,by simp,hrel.add hl qe,by simp only[bW,lm];omega,hlf,λ_=>⟨rfl,rfl⟩⟩ (aP V aB) λx ⟨hm,nW,C7,pt,UT,NA⟩=>?_
  obtain⟨m,⟨⟨sn,lf⟩,s'⟩,own,⟨sa',sc'⟩,⟨SM,SN⟩⟩:=x;simp only at hm nW C7 pt UT NA|-
  have hg:=jP bl f (sn0.set b true,lf0) (((dY bl b).reverse.map Int.toNat).take (tn-m));rw[<-nW]at hg;have hg1:=hg.1;have hg3:=hg.2.2.1;have hg4:=hg.2.2.2;simp only[fK]at hg1 hg3 hg4;have aaA:∀w',Wd db w (G sa' s'.length sc' 3 1 (s'.map dz)::aM p4 [nm,pa,re,I ba n bc] 35::aaW own SM SN lf) w'->aY w' (I SM lf.length SN) 1 (lf.map λx:Nat=>(x:Int)) gI:=by
   intro w' kE;cases own
   ·obtain⟨rfl,h2⟩:=NA rfl
    simp only[Prod.mk.injEq]at h2;obtain⟨rfl,rfl⟩:=h2;exact hls.cB du kE.c_
   ·exact mF kE (k:=2) rfl rfl A λy hy=>by have:=UT y hy;omega
  refine bA ?_;apply aL<;>intro h1
  ·obtain⟨m,rfl⟩:∃m',m=m'+1:=⟨m-1,by simp at h1;omega⟩
   rw[show(((m+1:Nat):Int)-1)=(m:Int) by omega];obtain⟨t,zX⟩:=eI qZ (show m<tn by omega);have htt:=AV.2 t (aA zX);obtain⟨k,hk⟩:∃k:Nat,t=k:=⟨t.toNat,A⟩;have Jw:k<n:=A;have uu:cl ta tb BQ:=⟨Ax (aZ zX)⟩;have EG:cg m tn:=⟨A⟩;obtain⟨Jq,nP,rfl,_⟩:=tg m t zX;have uv:bu w tb (BQ+m*1) _:=⟨nP⟩;have mC:(((dY bl b).reverse.map Int.toNat).take (tn-m)).foldl (ik bl f) (sn0.set b true,lf0)=ik bl f (sn,lf) k:=by
    rw[show tn-m=(tn-(m+1))+1 by omega,bV,qT,<-nW];have:((dY bl b).reverse.map Int.toNat)[tn-(m+1)]?=O k:=by
     rw[aW,fI hB,vN A,<-qZ,show tn-1-(tn-(m+1))=m by omega,zX,hk];rfl
    rw[this];rfl
   refine aU ?_;refine bY rfl (λw hw=>u_ _ (s'.map (λx:Nat=>(x:Int))) t w (mF hw (k:=0) rfl rfl A λy hy=>by have:=C7.1 y hy;omega)) ?_;rw[show decide (t∈s'.map (λx:Nat=>(x:Int)))=decide (k∈s') by rw[kq,hk];exact rx]
   by_cases hks:k∈s'
   ·rw[fQ hks]
    have hv:ik bl f (sn,lf) k=(sn,lf):=by unfold ik;rw[al (by rw[(C7.2 k Jw).2 hks];rfl)]
    rw[hv]at mC;refine aV ?_;exact a_ (m,((sn,lf),s'),own,(sa',sc'),(SM,SN)) ⟨by simp only;omega,mC.symm,C7,pt,UT,NA⟩ bB V aF
   ·rw[gx hks]
    have UP:sn[k]?=O false:=by
     obtain⟨v,hv⟩:=bE sn k A;cases v
     ·exact hv
     ·exact absurd ((C7.2 k Jw).1 hv) hks
    have hv:ik bl f (sn,lf) k=rI bl f k (sn,lf):=by unfold ik;rw[ai (by rw[UP];simp)]
    rw[hv]at mC;refine aU ?_;refine Yp (λz:{z:List Nat×(ax×Nat)×(ax×Nat)//Rel n (rI bl f k (sn,lf)).1 z.1/\z.1.length+ir (rI bl f k (sn,lf)).1<=n/\∀y∈(rI bl f k (sn,lf)).2,y<n}=>[(11,J Z (m:Int)),(2,I z.1.2.1.1 z.1.1.length z.1.2.1.2),(3,I z.1.2.2.1 (rI bl f k (sn,lf)).2.length z.1.2.2.2),(10,I ta tn tc),M 4 p4,(1,J Z b)])
     (λz=>[G z.1.2.1.1 z.1.1.length z.1.2.1.2 3 1 (z.1.1.map dz),G z.1.2.2.1 (rI bl f k (sn,lf)).2.length z.1.2.2.2 3 1 ((rI bl f k (sn,lf)).2.map dz),aM p4 [nm,pa,re,I ba n bc] 35]) mixed ?_ λz=>?_
    ·repeat' (first|refine gu 1 rfl E ?_|refine gu 2 rfl E ?_|refine gu 3 rfl E ?_|refine gu 5 rfl E ?_|refine gu 6 rfl E ?_|refine AQ E ?_|refine any_nil|refine pC E ?_|refine any_cons ?_ ?_|refine yO rfl ?_|refine ms ?_|refine qm ?_)
     all_goals
      rw[hk];refine cN (val:=λx:List Nat×(ax×Nat)×(ax×Nat)=>.tuple #[I x.2.1.1 x.1.length x.2.1.2,I x.2.2.1 (rI bl f k (sn,lf)).2.length x.2.2.2]) (cZ:=λx=>[G x.2.1.1 x.1.length x.2.1.2 3 1 (x.1.map dz),G x.2.2.1 (rI bl f k (sn,lf)).2.length x.2.2.2 3 1 ((rI bl f k (sn,lf)).2.map dz)])
       (φ:=λx=>Rel n (rI bl f k (sn,lf)).1 x.1/\x.1.length+ir (rI bl f k (sn,lf)).1<=n/\∀y∈(rI bl f k (sn,lf)).2,y<n) rfl
       (λw1 hw=>ih k (sn,lf) s' bB UP bB bB pt C7 UT sa' SM sc' SN w1 (rq.cB cu hw.c_) (mF hw (k:=0) rfl rfl A λy hy=>by have:=C7.1 y hy;omega) (aaA w1 hw)) λx hx=>?_
      obtain⟨s2,⟨x1,x2⟩,⟨y1,y2⟩⟩:=x;simp only[bF,aS]at hx|-
      repeat' (first|refine gu 8 rfl E ?_|refine gu 9 rfl E ?_|refine gu 10 rfl E ?_|refine Cj E ?_|refine AQ E ?_|refine any_nil|refine pC E ?_|refine any_cons ?_ ?_|refine ms ?_|refine qm ?_|refine xq rfl ?_)
      all_goals exact Yo ⟨(s2,(x1,x2),(y1,y2)),hx⟩ V aB
    ·obtain⟨⟨s2,⟨x1,x2⟩,⟨y1,y2⟩⟩,Gn,Bj,XG⟩:=z
     simp only at Gn Bj XG|-
     refine aV ?_;refine mQ [0,2,1] (by decide) ?_;exact a_ (m,(rI bl f k (sn,lf),s2),true,(x1,x2),(y1,y2)) ⟨by simp only;omega,mC.symm,Gn,Bj,XG,by simp⟩ bB V aF
  ·have hm0:m=0:=by simp at h1;omega
   subst hm0;rw[Nat.sub_zero,jR (by rw[aG,ny,fI hB];omega)]at nW;have hd:rI bl (f+1) b (sn0,lf0)=(sn,lf++[b]):=by rw[mP];simp only;rw[<-nW]
   refine aV ?_;refine lN rfl λeb2 _=>?_;refine bA ?_;refine GX rfl (lf.map λx:Nat=>(x:Int)) (λw' kE=>aaA w' (kE.sub (gh _ _))) A A λa3 c3=>?_;rw[aS,Bo,eC]
   repeat(first|refine bA ?_|refine dd λ_ _=>?_)
   refine fB rfl rfl A A λa4 c4=>?_;rw[show lf.map dz++[J Z (b:Int)]=(lf++[b]).map dz by simp[dz],show lf.length+1=(lf++[b]).length by simp];refine aU ?_;rw[hd];refine T1 rfl λw' kE=>⟨(s',(sa',sc'),(a4,c4)),rfl,kE.Gu [2,1] (by decide),C7,pt,λy hy=>?_⟩;rcases bO.1 hy with hy|hy
   ·exact UT y hy
   ·simp only[bQ]at hy;omega
theorem Fq(nm pa re:K)(bl:List aq)(bs:K)(qf:∃a n c,bs=I a n c)(w0:ae)(gV:aY w0 bs 6 bl da)(hlen:bl.length<=100)(dV:dK bl)(dW:0<bl.length):
  iL Y 36 [aC #[nm,pa,re,bs]] w0 λu w'=>∃x:ax×Nat,u=I x.1 (ek bl).length x.2/\Wd db w0 [G x.1 (ek bl).length x.2 3 1 ((ek bl).reverse.map dz)] w'/\True:=by
 obtain⟨ba,n,bc,rfl⟩:=qf;have hn:n=bl.length:=by
  obtain⟨_,_,_,_,_,e,h,_⟩:=gV;simp only[Value.slice.injEq]at e;rw[e.2.1];exact h
 have hl:=pg dW;have wH:(aI bl.length false)[0]?=O false:=by rw[ku,al dW]
 refine aR func36 rfl ntmps36 rfl (Wd.nil db w0) ?_
 repeat(first|refine bA ?_|refine dd λ_ _=>?_)
 rename_i p1 _;refine cN (val:=λx:List Nat×(ax×Nat)×(ax×Nat)=>.tuple #[I x.2.1.1 x.1.length x.2.1.2,I x.2.2.1 (ek bl).length x.2.2.2]) (cZ:=λx=>[G x.2.1.1 x.1.length x.2.1.2 3 1 (x.1.map dz),G x.2.2.1 (ek bl).length x.2.2.2 3 1 ((ek bl).map dz)]) (φ:=λ_=>True) rfl
  (λw hw=>(adt nm pa re bl ba n bc hlen dV bl.length 0 (aI bl.length false,[]) [] (by simp[hn]) wH (by rw[me];exact cz _) (by rw[me];simp[hn]) (by rw[me];simp[hn]) ⟨by simp,λx hx=>by rw[ku];simp⟩ bT U U 0 0 w (gV.cB cu hw.c_) (PF w) (PF w)).mono λv w' ⟨x,h1,h2,_⟩=>⟨x,h1,h2,trivial⟩) λx _=>?_
 obtain⟨s2,⟨x1,x2⟩,⟨y1,y2⟩⟩:=x;simp only[bF,aS];refine aV ?_;refine dJ 3 1 ?_;refine mQ [0,2] (by decide) ?_;refine bH (λ(x:Nat×ax×(ax×Nat))=>x.1<=(ek bl).length) (λx=>[(6,J Z ((x.1:Int)-1)),(5,I x.2.2.1 ((ek bl).reverse.take ((ek bl).length-x.1)).length x.2.2.2),(4,I x.2.1 (ek bl).length y2)])
  (λx=>[G x.2.2.1 ((ek bl).reverse.take ((ek bl).length-x.1)).length x.2.2.2 3 1 (((ek bl).reverse.take ((ek bl).length-x.1)).map dz),G x.2.1 (ek bl).length y2 3 1 ((ek bl).map dz)]) (λx=>x.1) ((ek bl).length,y1,(U,0)) (cz _) ?_ λx hm=>?_
 ·simp only[cV,ri,pE,dm]
  exact aP V aF
 obtain⟨m,ya,⟨oa,oc⟩⟩:=x;simp only at hm|-
 have EQ:((ek bl).reverse.take ((ek bl).length-m)).length=(ek bl).length-m:=by rw[dA,ny];omega
 refine bA ?_;apply aL<;>intro h1
 ·obtain⟨m,rfl⟩:∃m',m=m'+1:=⟨m-1,by simp at h1;omega⟩
  rw[show(((m+1:Nat):Int)-1)=(m:Int) by omega];refine fy 1 rfl A λrb ro F1=>?_;subst F1;obtain⟨y,hy⟩:=bE (ek bl) m A;have kK:cg m (ek bl).length:=⟨A⟩;have acT:MG ((ek bl).map dz) (m*1) (J Z (y:Int)):=⟨by simp[hy,dz]⟩;have nW:(ek bl).reverse.take ((ek bl).length-m)=(ek bl).reverse.take ((ek bl).length-(m+1))++[y]:=by
   rw[show(ek bl).length-m=((ek bl).length-(m+1))+1 by omega,bV];rw[vN A,show(ek bl).length-1-((ek bl).length-(m+1))=m by omega,hy];rfl
  repeat(first|refine aU ?_|refine dd λ_ _=>?_)
  refine fB rfl rfl A A λa' c'=>?_;rw[show((ek bl).reverse.take ((ek bl).length-(m+1))).map dz++[J Z (y:Int)]=((ek bl).reverse.take ((ek bl).length-m)).map dz by rw[nW];simp[dz],show((ek bl).reverse.take ((ek bl).length-(m+1))).length+1=((ek bl).reverse.take ((ek bl).length-m)).length by rw[nW];simp];refine aV ?_;exact a_ (m,O ⟨rb,ro,U⟩,(a',c')) bB bB V aB
 ·have hm0:m=0:=by simp at h1;omega
  subst hm0;rw[Nat.sub_zero,jR (by rw[ny];omega),ny];refine aV ?_;exact dh rfl λw hw=>⟨(oa,oc),rfl,hw.Gu [0] (by decide),trivial⟩
end
end Go.Proofs.YthfhgolkafpmnaaGreatDoor
