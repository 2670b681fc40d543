/- Texts joined: Dfs Sure Post Back Range GraphA GraphB SureA SureB Held Parts DrawE Visit SureC HangA HangB HangC HangLaw ReachG OrderA PostB OrderB. -/
import Derived.LoopIn
import Derived.LoopNIn
import Derived.OrdersHeld
import Derived.OwnWalkIn
import Derived.RangeFuncBound
import Derived.RangeFuncLeaves
import Derived.RangeFuncNested
import Derived.Shelf.Abstract
import Derived.TacticsInMore
import Derived.Test.YthfhgolkafpmnaaGreatDoorChecked
import Derived.Test.YthfhgolkafpmnaaGreatDoorGC
namespace Go.Proofs.YthfhgolkafpmnaaGreatDoor
open Go.Value renaming int->U,slice->J,pointer->ar,bool->D,agg->au
open Go.IntKind renaming i64->O
open Option renaming some->Z,none->A
open Go renaming Value->V,World->C
open Go.Proofs.Tryz
open Go.Proofs.Tryz renaming prog->ae
open Go Go.RowKit
def yg(bl:List E):Nat->Nat->List Bool×List Nat->List Bool×List Nat
 |0,_,st=>st
 |f+1,b,st=>
  let r:=((db bl b).reverse.map Int.toNat).foldl (λst t=>if st.1[t]?.getD true then st else yg bl f t st) (st.1.set b true,st.2)
  (r.1,r.2++[b])
def gC(bl:List E)(f:Nat)(st:List Bool×List Nat)(t:Nat):List Bool×List Nat:=if st.1[t]?.getD true then st else yg bl f t st
theorem mA(bl:List E)(f b:Nat)(st:List Bool×List Nat):yg bl (f+1) b st=((((db bl b).reverse.map Int.toNat).foldl (gC bl f) (st.1.set b true,st.2)).1,(((db bl b).reverse.map Int.toNat).foldl (gC bl f) (st.1.set b true,st.2)).2++[b]):=rfl
theorem xC{l:List Bool}{t:Nat}(h:(l[t]?.getD true)=false):l[t]?=Z false:=by
 cases hq:l[t]? with
 |none=>rw[hq]at h;cases h
 |some v=>rw[hq]at h;simp at h;rw[h]
theorem nH{bl:List E}{f t:Nat}{st:List Bool×List Nat}:gC bl f st t=st∨(st.1[t]?=Z false/\gC bl f st t=yg bl f t st):=by
 unfold gC
 by_cases h:st.1[t]?.getD true=true
 ·rw[if_pos h];exact .inl rfl
 ·rw[if_neg h];exact .inr ⟨xC (ax h),rfl⟩
theorem z7{α β:Type}{p:β->Prop}{g:β->α->β}{b:β}(hg:∀b a,p b->p (g b a))(hb:p b):∀l:List α,p (l.foldl g b)
 |[]=>hb
 |a::l=>z7 hg (hg b a hb) l
def mw(st HP:List Bool×List Nat):Prop:=HP.1.length=st.1.length/\(∀x:Nat,st.1[x]?=Z true->HP.1[x]?=Z true)/\gW HP.1<=gW st.1/\HP.2.length+gW HP.1<=st.2.length+gW st.1
theorem mw.refl(st:List Bool×List Nat):mw st st:=⟨rfl,λ_ h=>h,bG _,bG _⟩
theorem mw.trans{a b c:List Bool×List Nat}(h:mw a b)(k:mw b c):mw a c:=⟨k.1.trans h.1,λx hx=>k.2.1 x (h.2.1 x hx),du k.2.2.1 h.2.2.1,du k.2.2.2 h.2.2.2⟩
theorem J4{l:List Bool}{b x:Nat}(h:l[x]?=Z true):(l.set b true)[x]?=Z true:=by
 rw[ez]
 split
 ·rename_i e;subst e
  rw[if_pos (az.1 h).1]
 ·exact h
theorem oP(bl:List E):∀(f b:Nat) (st:List Bool×List Nat),st.1[b]?=Z false->mw st (yg bl f b st)
 |0,b,st,_=>mw.refl st
 |f+1,b,st,hb=>by
  have hu:=pC hb;have h1:∀st1,mw (st.1.set b true,st.2) st1->∀t,mw (st.1.set b true,st.2) (gC bl f st1 t):=λst1 h t=>by
   rcases nH (bl:=bl) (f:=f) (t:=t) (st:=st1)with e|⟨hf,e⟩
   ·rw[e];exact h
   ·rw[e];exact h.trans (oP bl f t st1 hf)
  have h2:=z7 (p:=mw (st.1.set b true,st.2)) (g:=gC bl f) (λst1 t h=>h1 st1 h t) (mw.refl _) ((db bl b).reverse.map Int.toNat);rw[mA];refine⟨by have:=h2.1;simpa using this,λx hx=>h2.2.1 x (J4 hx),?_,?_⟩
  ·have:=h2.2.2.1;simp only at this⊢;omega
  ·have:=h2.2.2.2;simp only[bX,j_]at this⊢;omega
theorem i_(bl:List E)(f:Nat)(st:List Bool×List Nat)(l:List Nat):mw st (l.foldl (gC bl f) st):=
 z7 (p:=mw st) (g:=gC bl f) (λst1 t h=>by
  rcases nH (bl:=bl) (f:=f) (t:=t) (st:=st1)with e|⟨hf,e⟩
  ·rw[e];exact h
  ·rw[e];exact h.trans (oP bl f t st1 hf)) (mw.refl _) l
theorem Iq(bl:List E)(f b:Nat)(st:List Bool×List Nat)(hb:st.1[b]?=Z false):(yg bl (f+1) b st).1[b]?=Z true:=by
 rw[mA];refine(i_ bl f _ _).2.1 b ?_;have bS:=(az.1 hb).1;simp[bS]
theorem cT.nat{bl:List E}(h:cT bl){b:Nat}{akj:Int}(hz:akj∈db bl b):((akj.toNat:Nat):Int)=akj:=by
 unfold db at hz
 split at hz
 ·rename_i B hB
  have:=(h B (aq hB)).2 akj hz;omega
 ·cases hz
theorem E6(bl:List E)(cY:cT bl):∀(f b:Nat) (st:List Bool×List Nat),st.1[b]?=Z false->
  (∀x,(yg bl f b st).1[x]?=Z true->st.1[x]?=Z true∨gH bl (-1) b x)/\∀x,x∈(yg bl f b st).2↔(x∈st.2∨(st.1[x]?=Z false/\(yg bl f b st).1[x]?=Z true))
 |0,b,st,_=>⟨λx hx=>.inl hx,λx=>⟨.inl,λh=>h.elim id λ⟨h1,h2⟩=>by rw[show(yg bl 0 b st).1=st.1 from rfl,h1]at h2;cases h2⟩⟩
 |f+1,b,st,hb=>by
  have bS:=(az.1 hb).1;have key:∀(l:List Nat),(∀t∈l,Edge bl b t)->∀st1:List Bool×List Nat,mw (st.1.set b true,st.2) st1->
    ((∀x,st1.1[x]?=Z true->st.1[x]?=Z true∨gH bl (-1) b x)/\∀x,x∈st1.2↔(x∈st.2∨(x≠b/\st.1[x]?=Z false/\st1.1[x]?=Z true)))->
    ((∀x,(l.foldl (gC bl f) st1).1[x]?=Z true->st.1[x]?=Z true∨gH bl (-1) b x)/\∀x,x∈(l.foldl (gC bl f) st1).2↔(x∈st.2∨(x≠b/\st.1[x]?=Z false/\(l.foldl (gC bl f) st1).1[x]?=Z true))):=by
   intro l
   induction l with
   |nil=>exact λ_ st1 _ h=>h
   |cons t l ih=>
    intro hl st1 hg h;simp only[gj];rcases nH (bl:=bl) (f:=f) (t:=t) (st:=st1)with e|⟨hf,e⟩
    ·rw[e];exact ih (λt' Kr=>hl t' (cO _ Kr)) st1 hg h
    ·rw[e]
     have hd:=E6 bl cY f t st1 hf;have hgd:=oP bl f t st1 hf;refine ih (λt' Kr=>hl t' (cO _ Kr)) _ (hg.trans hgd) ⟨λx hx=>?_,λx=>?_⟩
     ·rcases hd.1 x hx with h1|h1
      ·exact h.1 x h1
      ·exact .inr (((gH.refl).step (hl t aC) I).trans h1)
     ·rw[hd.2 x,h.2 x]
      constructor
      ·rintro((h1|⟨h1,h2,h3⟩)|⟨h1,h2⟩)
       ·exact .inl h1
       ·exact .inr ⟨h1,h2,hgd.2.1 x h3⟩
       ·by_cases hs:st.1[x]?=Z true
        ·exfalso
         have:=hg.2.1 x (J4 hs);rw[h1]at this;cases this
        ·have ue:x<st.1.length:=by have:=(az.1 h1).1;have:=hg.1;simp at this;omega
         have Xn:st.1[x]?=Z false:=by
          rw[a_ ue]at hs⊢;cases hv:st.1[x]
          ·rfl
          ·rw[hv]at hs;exact absurd rfl hs
         refine .inr ⟨λe=>?_,Xn,h2⟩;subst e;have:=hg.2.1 x (by simp[bS]);rw[h1]at this;cases this
      ·rintro(h1|⟨h1,h2,h3⟩)
       ·exact .inl (.inl h1)
       ·by_cases hs:st1.1[x]?=Z true
        ·exact .inl (.inr ⟨h1,h2,hs⟩)
        ·refine .inr ⟨?_,h3⟩
         have ue:x<st1.1.length:=by have:=(az.1 h2).1;have:=hg.1;simp at this;omega
         rw[a_ ue]at hs⊢;cases hv:st1.1[x]
         ·rfl
         ·rw[hv]at hs;exact absurd rfl hs
  have BD:=key ((db bl b).reverse.map Int.toNat) (λt ht=>?_) (st.1.set b true,st.2) (mw.refl _) ⟨λx hx=>?_,λx=>?_⟩
  ·rw[mA]
   refine⟨BD.1,λx=>?_⟩;simp only[bA,bR];rw[BD.2 x];constructor
   ·rintro((h1|⟨_,h2,h3⟩)|rfl)
    ·exact .inl h1
    ·exact .inr ⟨h2,h3⟩
    ·exact .inr ⟨hb,(i_ bl f _ _).2.1 x (by simp[bS])⟩
   ·rintro(h1|⟨h2,h3⟩)
    ·exact .inl (.inl h1)
    ·by_cases e:x=b
     ·exact .inr e
     ·exact .inl (.inr ⟨e,h2,h3⟩)
  ·obtain⟨akj,hz,rfl⟩:=aV.1 ht
   unfold Edge;have hz:akj∈db bl b:=ax hz;rw[cY.nat hz];exact hz
  ·simp only[ez]at hx
   by_cases e:b=x
   ·subst e;exact .inr gH.refl
   ·rw[if_neg e]at hx;exact .inl hx
  ·constructor
   ·exact .inl
   ·rintro(h|⟨h1,h2,h3⟩)
    ·exact h
    ·simp only[ez]at h3
     rw[if_neg (Ne.symm h1),h2]at h3;cases h3
theorem rL{l:List Bool}{t:Nat}(h:l[t]?=Z false):1<=gW l:=by have:=pC h;omega
theorem MO{bl:List E}{f t:Nat}{st:List Bool×List Nat}(ht:t<st.1.length)(hu:gW st.1<=f):(gC bl f st t).1[t]?=Z true:=by
 unfold gC
 by_cases h:st.1[t]?.getD true=true
 ·rw[if_pos h]
  rw[a_ ht]at h⊢;simpa using h
 ·rw[if_neg h]
  have hf:=xC (ax h);have:=rL hf;obtain⟨m,rfl⟩:∃m,f=m+1:=⟨f-1,I⟩;exact Iq bl m t st hf
theorem CE(bl:List E)(cY:cT bl):∀(f b:Nat) (st:List Bool×List Nat),st.1.length=bl.length->st.1[b]?=Z false->gW st.1<=f->
  ∀x,(yg bl f b st).1[x]?=Z true->st.1[x]?=Z true∨∀y,Edge bl x y->(yg bl f b st).1[y]?=Z true
 |0,b,st,_,hb,hu=>by have:=rL hb;omega
 |f+1,b,st,hl,hb,hu=>by
  have hus:=pC hb;have key:∀(l:List Nat),(∀t∈l,t<bl.length)->∀st1:List Bool×List Nat,mw (st.1.set b true,st.2) st1->
    (∀x,st1.1[x]?=Z true->st.1[x]?=Z true∨x=b∨∀y,Edge bl x y->st1.1[y]?=Z true)->
    (∀x,(l.foldl (gC bl f) st1).1[x]?=Z true->st.1[x]?=Z true∨x=b∨∀y,Edge bl x y->(l.foldl (gC bl f) st1).1[y]?=Z true)/\∀t∈l,(l.foldl (gC bl f) st1).1[t]?=Z true:=by
   intro l
   induction l with
   |nil=>exact λ_ st1 _ h=>⟨h,by simp⟩
   |cons t l ih=>
    intro bS st1 hg h;simp only[gj];have ly:st1.1.length=bl.length:=by have:=hg.1;simp at this;omega
    have hu1:gW st1.1<=f:=by have:=hg.2.2.1;simp only at this;omega
    have Je:(gC bl f st1 t).1[t]?=Z true:=MO (by have:=bS t aC;omega) hu1;have hgs:mw st1 (gC bl f st1 t):=by
     rcases nH (bl:=bl) (f:=f) (t:=t) (st:=st1)with e|⟨hf,e⟩
     ·rw[e];exact mw.refl _
     ·rw[e];exact oP bl f t st1 hf
    have:=ih (λt' Kr=>bS t' (cO _ Kr)) (gC bl f st1 t) (hg.trans hgs) λx hx=>?_
    ·refine⟨this.1,λt' Kr=>?_⟩
     rcases bD.1 Kr with rfl|Kr
     ·exact(i_ bl f _ l).2.1 _ Je
     ·exact this.2 t' Kr
    ·have up:∀y,st1.1[y]?=Z true->(gC bl f st1 t).1[y]?=Z true:=hgs.2.1
     rcases nH (bl:=bl) (f:=f) (t:=t) (st:=st1)with e|⟨hf,e⟩
     ·rw[e]at hx⊢;exact h x hx
     ·rw[e]at hx up⊢
      rcases CE bl cY f t st1 ly hf hu1 x hx with h1|h1
      ·rcases h x h1 with h2|h2|h2
       ·exact .inl h2
       ·exact .inr (.inl h2)
       ·exact .inr (.inr λy hy=>up y (h2 y hy))
      ·exact .inr (.inr h1)
  have BD:=key ((db bl b).reverse.map Int.toNat) (λt ht=>?_) (st.1.set b true,st.2) (mw.refl _) λx hx=>?_
  ·intro x hx
   rw[mA]at hx⊢;rcases BD.1 x hx with h1|rfl|h1
   ·exact .inl h1
   ·refine .inr λy hy=>BD.2 y ?_
    refine aV.2 ⟨(y:Int),?_,by simp⟩;rw[List.mem_reverse];exact hy
   ·exact .inr h1
  ·obtain⟨akj,hz,rfl⟩:=aV.1 ht
   have hz:akj∈db bl b:=ax hz;exact cY.ED (x:=b) (by unfold Edge;rw[cY.nat hz];exact hz)
  ·simp only[ez]at hx
   by_cases e:b=x
   ·exact .inr (.inl e.symm)
   ·rw[if_neg e]at hx;exact .inl hx
def fx(bl:List E):List Nat:=(yg bl bl.length 0 (List.replicate bl.length false,[])).2
theorem pB(n:Nat):gW (List.replicate n false)=n:=by simp[gW]
theorem tu{bl:List E}(cY:cT bl)(h0:0<bl.length){x:Nat}:x∈fx bl↔gH bl (-1) 0 x:=by
 have hb:(List.replicate bl.length false)[0]?=Z false:=by simp[h0]
 have hs:=E6 bl cY bl.length 0 (List.replicate bl.length false,[]) hb;have hc:=CE bl cY bl.length 0 (List.replicate bl.length false,[]) aC hb (by rw[pB];exact bG _);have Jg:(yg bl bl.length 0 (List.replicate bl.length false,[])).1[0]?=Z true:=by
  obtain⟨m,hm⟩:∃m,bl.length=m+1:=⟨bl.length-1,I⟩;rw[hm]at hb⊢;exact Iq bl m 0 _ hb
 have oB:∀x,¬((List.replicate bl.length false)[x]?=Z true):=λx h=>by
  rw[g_]at h
  split at h<;>simp at h
 unfold fx;rw[hs.2 x];constructor
 ·rintro(h|⟨_,h⟩)
  ·cases h
  ·exact(hs.1 x h).resolve_left (oB x)
 ·intro h
  have hx:=Mw (p:=λx=>(yg bl bl.length 0 (List.replicate bl.length false,[])).1[x]?=Z true) Jg (λx y hx he _=>(hc x hx).resolve_left (oB x) y he) h;have bS:=cY.zQ h0 h;exact .inr ⟨by simp[bS],hx⟩
theorem JS{bl:List E}(cY:cT bl)(h0:0<bl.length){x:Nat}(h:x∈fx bl):x<bl.length:=cY.zQ h0 ((tu cY h0).1 h)
theorem wy{bl:List E}(h0:0<bl.length):(fx bl).length<=bl.length:=by
 have hb:(List.replicate bl.length false)[0]?=Z false:=by simp[h0]
 have:=(oP bl bl.length 0 (List.replicate bl.length false,[]) hb).2.2.2;rw[pB]at this;unfold fx;simp only[qD]at this;omega
open Classical in
theorem EE{p:Nat->Prop}(n:Nat):(List.range (n+1)).filter (λc=>decide (p c))=(List.range n).filter (λc=>decide (p c))++(if p n then[n]else[]):=by
 rw[kU,nU];congr 1
 by_cases h:p n<;>simp[h]
def lF(p:Nat->Prop)[DecidablePred p](n:Nat):Nat:=((List.range n).filter λc=>decide (p c)).length
theorem yE(p:Nat->Prop)[DecidablePred p](n:Nat):lF p (n+1)=lF p n+if p n then 1 else 0:=by
 unfold lF;rw[kU,nU,bX]
 by_cases h:p n<;>simp[h]
theorem KS{p q:Nat->Prop}[DecidablePred p][DecidablePred q]:∀{n:Nat},(∀c,c<n->p c->q c)->lF p n<=lF q n
 |0,_=>by simp[lF]
 |n+1,h=>by
  have:=KS (n:=n) λc hc=>h c I;rw[yE,yE];have hn:=h n I
  by_cases hp:p n
  ·rw[if_pos hp,if_pos (hn hp)];omega
  ·rw[if_neg hp];omega
theorem MY{p q:Nat->Prop}[DecidablePred p][DecidablePred q]{b:Nat}(hb:¬p b):∀{n:Nat},b<n->(∀c,c<n->(q c↔(p c∨c=b)))->lF q n=lF p n+1
 |0,h,_=>I
 |n+1,pR,h=>by
  rw[yE,yE]
  by_cases e:b=n
  ·subst e
   have h1:lF p b=lF q b:=Nat.le_antisymm (KS λc hc hp=>(h c I).2 (.inl hp)) (KS λc hc hq=>((h c I).1 hq).elim id λe=>I);rw[if_pos ((h b I).2 (.inr rfl)),if_neg hb,h1]
  ·rw[MY hb I λc hc=>h c I]
   have hn:=h n I
   by_cases hp:p n
   ·rw[if_pos hp,if_pos (hn.2 (.inl hp))]
   ·rw[if_neg hp,if_neg λhq=>(hn.1 hq).elim hp λe'=>e e'.symm]
section
attribute [local go_sem] Oper.semAt_some
open Go.Shelf
def Ck(akc:Nat->Prop)(W W':C):Prop:=∀b,akc b->W'.heap[b]?=W.heap[b]?
theorem Ck.cell{akc:Nat->Prop}{W W':C}(h:Ck akc W W'){p:Addr}(hp:akc p.block):W'.cell? p=W.cell? p:=World.cell?_of_block (h _ hp)
def sy(l:List Int)(k:Nat):List (Int×Int):=(List.range k).map λ(j:Nat)=>(((l.length-1-j:Nat):Int),l[l.length-1-j]?.getD 0)
theorem w7(l:List Int)(k:Nat):(sy l k).length=k:=by simp[sy]
theorem uL(n:Int)(h1:-9223372036854775808<=n)(h2:n<=9223372036854775807):wrap64 n=n:=by unfold wrap64;omega
set_option maxRecDepth 100000 in
set_option maxHeartbeats 2000000 in
theorem H5(n:Nat)(hn:1<=n){α:Type}(enc:α->Int×Int)(l Bs b off cap:Nat)(akc:Nat->Prop)(zs:List Int)(xs:List α)(nK:xs.map enc=sy zs zs.length)(hlen:zs.length<=100000)(hb:zs≠[]->akc b)(aaC:akc Bs)(aj8 Jx:List α->C->Prop)(a:Option Addr)(ha:zs≠[]->a=Z ⟨b,off,A⟩)
  (hY:∀pre x W,aj8 pre W->pre.length<zs.length->YieldAt Fence.wide (n-1) ae l #[U O (enc x).1,U O (enc x).2] W λe W'=>
   (e=.returned (D true)/\aj8 (pre++[x]) W'/\Ck akc W W')∨(e=.returned (D false)/\Jx (pre++[x]) W'))
  (W:C) (Q3:W.cell? ⟨Bs,0,A⟩=Z (J a zs.length cap)) (hc:∀j,j<zs.length->W.cell? ⟨b,off+j,A⟩=Z (U O (zs[j]?.getD 0))) (h0:aj8 [] W):
  CallsIn Fence.wide n ae 162 #[.func (.yield l) #[] #[],ar (Z ⟨Bs,0,A⟩)] W λe W'=>(∃v,e=.returned v)/\
   ((∃ys,ys=xs/\aj8 ys W')∨(∃pre,pre<+:xs/\Jx pre W')):=by
 refine callsIn_of_wp func162 rfl trivial ?_ rfl;simp only[ntmps162,List.size_toArray,gk,qD,Nat.reduceAdd,Nat.reduceSub,Array.replicate_succ,Array.replicate_zero,List.push_toArray,List.append_toArray,aO,aW];have ue:xs.length=zs.length:=by have:=congrArg List.length nK;rwa[aF,w7]at this
 have Th:wrap64 ((zs.length:Int)-1)=(zs.length:Int)-1:=uL _ I I
 gi_wp2
 gi_loopw [3] (λi wr=>∃m:Nat,m<=zs.length/\i=U O ((m:Int)-1)/\aj8 (xs.take (zs.length-m)) wr/\Ck akc W wr) (λi _=>(intOf i+1).toNat)
 case atStart=>exact⟨zs.length,bG _,by first|rfl|simp[Th],ax h0,λ_ _=>rfl⟩
 case round=>
  obtain⟨m,hm,rfl,hJs,hk⟩:=hrel;cases m with
  |zero=>
   gi_wp2
   go_end0
   exact⟨⟨_,rfl⟩,.inl ⟨xs,rfl,by rw[Nat.sub_zero,kh I]at hJs;exact hJs⟩⟩
  |succ m=>
   have eQ:zs≠[]:=by rintro rfl;simp at hm
   obtain rfl:=ha eQ;rw[show(((m+1:Nat):Int)-1)=(m:Int) by omega];obtain⟨akj,hz⟩:=bf zs m I;have VL:wr.cell? ⟨b,off+m,A⟩=Z (U O akj):=by have:=(hk.cell (p:=⟨b,off+m,A⟩) (hb eQ)).trans (hc m I);rwa[hz]at this
   have hBx:wr.cell? ⟨Bs,0,A⟩=Z (J (Z ⟨b,off,A⟩) zs.length cap):=(hk.cell (p:=⟨Bs,0,A⟩) aaC).trans Q3;have bS:m<zs.length:=I;obtain⟨x,hx⟩:=bf xs (zs.length-(m+1)) I;have hex:enc x=((m:Int),akj):=by
    have h1:(xs.map enc)[zs.length-(m+1)]?=Z (enc x):=by rw[aJ,hx];rfl
    rw[nK,sy,aJ,eX I]at h1;simp only[bu,b_]at h1;rw[<-h1,show zs.length-1-(zs.length-(m+1))=m by omega,hz];rfl
   have hY1:=hY _ x wr hJs (by rw[dd];omega);rw[hex]at hY1;have B4:xs.take (zs.length-(m+1))++[x]=xs.take (zs.length-m):=by
    rw[show zs.length-m=(zs.length-(m+1))+1 by omega,cz,hx];rfl
   rw[B4]at hY1;obtain⟨fn,tmps,assign,body,hy,hR⟩:=hY1
   dsimp only at hy
   have abG:wrap64 ((m:Int)-1)=(m:Int)-1:=uL _ I I
   gi_wp2
   refine hR.mono ?_;rintro e W3 (⟨rfl,hJ3,VQ⟩|⟨rfl,aaE⟩)
   ·gi_wp2
    go_roundw
    case rel=>exact⟨m,I,by first|rfl|simp[abG],hJ3,λb hb=>(VQ b hb).trans (hk b hb)⟩
    case measure=>simp[intOf]
   ·gi_wp2
    refine bodyPost_ret (results_none rfl _ _ _) rfl ?_;exact⟨⟨_,rfl⟩,.inr ⟨_,List.take_prefix _ _,aaE⟩⟩
end
section
def bN.rest(aj7:Nat->Prop)(W:C):bN:=⟨aj7,λw=>W.heap.size<=w.heap.size/\∀b,aj7 b->w.heap[b]?=W.heap[b]?⟩
def pw(n:Nat)(W:C)(H:List bN):Nat->Prop:=λb=>n<=b/\b<W.heap.size/\¬cH H b
def bN.mark(akf:Nat):bN:=⟨λk=>k=akf,λw=>w.heap[akf]?=Z (.deferred (Z []))⟩
section
variable {S:Nat->Prop} {w0 wz w w' W:C} {H H1 H2 H' akg F:List bN}
theorem Wd.rM(h:Wd S w0 H W):Wd S w0 (bN.rest (pw w0.heap.size W H) W::H) W:=
 ⟨h.ch,λe he b hb=>by
  rcases bD.1 he with rfl|he
  ·exact⟨.inr hb.1,hb.2.1⟩
  ·exact h.own e he b hb,λe he w' hs ek=>by
  rcases bD.1 he with rfl|he
  ·exact⟨hs,λb hb=>ek b hb⟩
  ·exact h.ok e he w' hs ek,ew.2 ⟨λf hf b hb u1=>hb.2.2 ⟨f,hf,u1⟩,h.apart⟩⟩
theorem YK(hz:l_ cX wz w)(h:Wd cX wz (bN.rest (pw wz.heap.size w H1) w::akg) w'):Wd (cH H1) w akg w':=by
 obtain⟨hs,hr⟩:=h.get (k:=0) rfl;have vv:=ew.1 h.apart;refine⟨⟨h.ch.os.trans hz.os.symm,h.ch.tape.trans hz.tape.symm,h.ch.output.trans hz.output.symm,hs,λk hk hnS=>?_⟩,λe he b hb=>?_,λe he=>h.ok e (cO _ he),vv.2⟩
 ·by_cases bS:k<wz.heap.size
  ·exact(h.ch.block k bS λh=>h).trans (hz.block k bS λh=>h).symm
  ·exact hr k ⟨I,hk,hnS⟩
 ·obtain⟨h1,h2⟩:=h.own e (cO _ he) b hb
  have h1:wz.heap.size<=b:=h1.elim (λh=>h.elim) id;refine⟨?_,h2⟩
  by_cases bS:b<w.heap.size
  ·left
   exact Classical.byContradiction λhn=>vv.1 e he b ⟨h1,bS,hn⟩ hb
  ·right;omega
theorem Wd.grown{row:Option Nat}(h:Wd S w0 H W)(hg:W.grownBy w' row)(hr:∀r,row=Z r->w0.heap.size<=r/\¬cH H r):Wd S w0 H w':=by
 have hb:∀b,cH H b->w'.heap[b]?=W.heap[b]?:=λb ⟨e,he,hb⟩=>hg.block b (h.own e he b hb).2 λgr=>(hr b gr.symm).2 ⟨e,he,hb⟩;refine⟨⟨hg.os.trans h.ch.os,hg.tape.trans h.ch.tape,hg.output.trans h.ch.output,du h.ch.size hg.size,λk hk hS=>?_⟩,λe he b hb=>?_,λe he w2 hs jg=>?_,h.apart⟩
 ·exact(hg.block k (by have:=h.ch.size;omega) λgr=>by have:=(hr k gr.symm).1;omega).trans (h.ch.block k hk hS)
 ·have:=h.own e he b hb
  exact⟨this.1,by have:=hg.size;omega⟩
 ·exact h.ok e he w2 (du hg.size hs) λb Nh=>(jg b Nh).trans (hb b ⟨e,he,Nh⟩)
theorem Wd.shut{akf:Nat}(h:Wd S w0 (bN.mark akf::H) w)(hD:w0.heap.size<=akf)(o:Obj):Wd S w0 H (w.putObj akf o):=by
 refine(h.sub (dR _ _)).grown (grownBy_putObj' w akf o) λr hr=>?_;cases hr;exact⟨hD,λ⟨f,hf,u1⟩=>(ew.1 h.apart).1 f hf akf rfl u1⟩
end
class Kx(e:bN):Prop where
 ok:∀w,e.ok w->∀b,e.fp b->∃cs t akj,w.heap[b]?=Z (.cells cs t akj)
class F6(H:List bN):Prop where
 all:∀e∈H,Kx e
instance(b:Nat)(cs:List V)(t:TypeId):Kx (K b cs t):=⟨λw h k hk=>by subst hk;exact⟨_,_,_,h⟩⟩
instance(a:Option Addr)(n c e s:Nat)(xs:List V):Kx (M a n c e s xs):=⟨λw h k hk=>by
 rcases h.2 with⟨rfl,_⟩|⟨g,pre,sp,rfl,_,_,_,hb⟩
 ·cases hk
 ·simp only[M,bu,b_]at hk
  subst hk
  exact⟨_,_,_,hb⟩⟩
section
variable {P:Program} {N:Nat} {ds:List Deferred} {S:Nat->Prop} {w0:C} {L L':List (Nat×V)} {H H':List bN} {a:Act} {w:C}
 {ops:Array Oper} {rest:List Oper} {Q:Exit->Act->C->Prop} {p:Act->C->Prop}
theorem jD{ro:Option Nat}{m n:Nat}{c:Code}(h:c.wpIn (FW ro) m P Q a w):c.wpIn (FW ro) n P Q a w:=λb k cs hb hf _=>h b k cs hb hf (λd hd=>by cases hd)
theorem yA{ro:Option Nat}{m n:Nat}{f:FuncId}{args:Array V}{R:Ending->C->Prop}(h:CallsIn (FW ro) m P f args w R):CallsIn (FW ro) n P f args w R:=⟨h.1,λcs _=>h.2 cs (λd hd=>by cases hd)⟩
theorem CQ{α:Type}{ro:Option Nat}{val:α->V}{akg:α->List bN}{φ:α->Prop}{H1 H2:List bN}{d ty f:Nat}{args:List Operand}{us vs xs:List V}{pA:Array Nat}{x:Operand}{pos:String}{aft:Array Go.Edge}[h:aQ P f][hx:AY L args vs][hf:Ev L x (.func (.func f) us.toArray xs.toArray)](hd:dy d N L=true)
  (hc:∀w,Wd S w0 (H1++H2) w->iC P f (us++vs++xs) w λu w'=>∃x,u=val x/\Wd (cH H1) w (akg x) w'/\φ x)
  (k:∀x,φ x->aki N ds S w0 ((d,val x)::L) (akg x++H2) (wpListIn (FW ro) 0 P ops Q rest)):aki N ds S w0 L (H1++H2) (wpListIn (FW ro) 0 P ops Q (⟨Z d,.call {callee:=.value x,args:=args.toArray,argTypes:=pA},ty,pos,aft,A⟩::rest)):=by
 intro a w hS;refine M5 (S:=S) (w0:=w0) (H:=H1++H2) (xs:=xs) (us:=us) (vs:=vs) (λ_ u w'=>∃x,u=val x/\Wd S w0 (akg x++H2) w'/\φ x) hd (λw hw=>(hc w hw).mono λv w' ⟨x,h1,h2,h3⟩=>⟨x,h1,hw.comp h2,h3⟩) (λv w w' hw hR a hF=>?_) a w hS;obtain⟨x,rfl,h2,h3⟩:=hR;exact k x h3 a w' ⟨hF,h2⟩
theorem fK{α:Type}{ro:Option Nat}{val:α->V}{akg:α->List bN}{φ:α->Prop}{H1 H2:List bN}{d ty f:Nat}{args:List Operand}{vs:List V}{pA:Array Nat}{pos:String}{aft:Array Go.Edge}[h:aQ P f][hx:AY L args vs](hd:dy d N L=true)
  (hc:∀w,Wd S w0 (H1++H2) w->iC P f vs w λu w'=>∃x,u=val x/\Wd (cH H1) w (akg x) w'/\φ x)
  (k:∀x,φ x->aki N ds S w0 ((d,val x)::L) (akg x++H2) (wpListIn (FW ro) 0 P ops Q rest)):aki N ds S w0 L (H1++H2) (wpListIn (FW ro) 0 P ops Q (⟨Z d,.call {callee:=.value (.func f),args:=args.toArray,argTypes:=pA},ty,pos,aft,A⟩::rest)):=by
 intro a w hS;refine K5 (S:=S) (w0:=w0) (H:=H1++H2) (vs:=vs) (λ_ u w'=>∃x,u=val x/\Wd S w0 (akg x++H2) w'/\φ x) hd (λw hw=>(hc w hw).mono λv w' ⟨x,h1,h2,h3⟩=>⟨x,h1,hw.comp h2,h3⟩) (λv w w' hw hR a hF=>?_) a w hS;obtain⟨x,rfl,h2,h3⟩:=hR;exact k x h3 a w' ⟨hF,h2⟩
class HY(H:List bN)(is:List Nat)(H':outParam (List bN)):Prop where
 eq:is.filterMap (λi=>H[i]?)=H'
instance(H:List bN):HY H [] []:=⟨rfl⟩
instance(H H':List bN)(i:Nat)(is:List Nat)(e:bN)[h:dF H i e][hs:HY H is H']:HY H (i::is) (e::H'):=⟨by rw[List.filterMap_cons,h.at',hs.eq]⟩
theorem Wd.at_apart(h:Wd S w0 H w){i j:Nat}{e f:bN}(he:H[i]?=Z e)(hf:H[j]?=Z f)(Q5:i≠j):∀b,e.fp b->¬f.fp b:=by
 obtain⟨hi,rfl⟩:=az.1 he;obtain⟨hj,rfl⟩:=az.1 hf;have hp:=List.pairwise_iff_getElem.1 h.apart;intro b hb u1
 by_cases bS:i<j
 ·exact hp i j hi hj bS b hb u1
 ·exact hp j i hj hi I b u1 hb
theorem Wd.sel(h:Wd S w0 H w)(is:List Nat)(hn:is.Nodup)[hs:HY H is H']:Wd S w0 H' w:=by
 rw[<-hs.eq];refine⟨h.ch,λe he=>?_,λe he=>?_,?_⟩
 ·obtain⟨i,_,hi⟩:=List.mem_filterMap.1 he
  exact h.own e (aq hi)
 ·obtain⟨i,_,hi⟩:=List.mem_filterMap.1 he
  exact h.ok e (aq hi)
 ·refine List.Pairwise.filterMap (R:=λi j=>i≠j) _ (λi j Q5 e he f hf=>?_) hn
  exact h.at_apart he hf Q5
theorem r4(is:List Nat)(hn:is.Nodup)[hs:HY H is H'](k:aki N ds S w0 L H' p):aki N ds S w0 L H p:=λa w hS=>k a w ⟨hS.fr,hS.wd.sel is hn⟩
theorem uC{f:FuncId}{fn:Func}{c:Code}{args:List V}{R:V->C->Prop}(hf:P.funcs[f]?=Z fn)(hb:fn.body=Z c)(hN:fn.ntmps=N)[hL:zS 0 args L](hlen:args.length.ble N=true)(hW:Wd S w0 H w)
  (h:aki N [] S w0 L H (Code.wpIn (FW A) 0 P c (bodyPostM (FW A) 0 P fn λe w'=>∃v,e=.returned v/\R v w'))):iC P f args w R:=by
 subst hN;refine callsIn_of_wp_marks hf hb trivial (h _ _ ⟨?_,hW⟩);rw[<-hL.eq];exact CO (Nat.le_of_ble_eq_true hlen)
theorem kP{f:FuncId}{fn:Func}{c:Code}{args:List V}{R:V->C->Prop}(hf:P.funcs[f]?=Z fn)(hb:fn.body=Z c)(hN:fn.ntmps=N)[hL:zS 0 args L](hlen:args.length.ble N=true)(hW:Wd S w0 H w)
  (h:aki N [] S w0 L H (Code.wpIn (FW A) 0 P c (bodyPost P fn λe w'=>∃v,e=.returned v/\R v w'))):iC P f args w R:=by
 subst hN;refine callsIn_of_wp hf hb trivial (h _ _ ⟨?_,hW⟩);rw[<-hL.eq];exact CO (Nat.le_of_ble_eq_true hlen)
theorem Jv{fn:Func}{tmps:Array V}{R:V->C->Prop}{akf:Nat}{v:V}(hD:w0.heap.size<=akf)(hW:Wd S w0 (bN.mark akf::H) w)(hr:∀w,(results fn tmps).run P w=.ok v w)(hR:∀w,Wd S w0 H w->R v w):
  LeavesInM (FW A) 0 P fn tmps (λe w'=>∃v,e=.returned v/\R v w') [⟨.collected akf,#[]⟩] .returning w:=by
 refine⟨by simp,.inl ⟨akf,_,rfl,run_takeDeferred (hW.get (k:=0) rfl),?_⟩⟩;exact⟨v,hr _,v,rfl,hR _ (hW.shut hD _)⟩
theorem M6{fn:Func}{R:V->C->Prop}{akf:Nat}(hr:fn.results= #[])(hD:w0.heap.size<=akf)(hR:∀w,Wd S w0 H w->R (.tuple #[]) w):aki N [⟨.collected akf,#[]⟩] S w0 L (bN.mark akf::H) (bodyPostM (FW A) 0 P fn (λe w'=>∃v,e=.returned v/\R v w') .normal):=λa w hS=>by
 show LeavesInM _ _ _ _ _ _ _ _ _;rw[hS.fr.defers];exact Jv hD hS.wd (λw=>results_none hr _ _ _) hR
def Rnd{σ:Type}(S:Nat->Prop)(w0:C)(akb:σ->Prop)(R:bN)(Hc:σ->List bN)(F:List bN):Act->C->Prop:=λ_ w=>∃s,akb s/\Wd S w0 (R::(Hc s++F)) w
theorem IC{σ:Type}{akb:σ->Prop}{R:bN}{Hc:σ->List bN}{F:List bN}(s:σ)(hI:akb s)(hH:(R::(Hc s++F)).Sublist H):aki N ds S w0 L H (Rnd S w0 akb R Hc F):=λ_ _ hS=>⟨s,hI,hS.wd.sub hH⟩
theorem WD{α σ:Type}{g:Operand}{ps:Array Tmp}{assign body:Code}{gf:Nat}{lb:List V}[hg:Ev L g (.func (.func gf) #[] lb.toArray)][eg:aQ P gf](F:List bN)(Hc:σ->List bN)(e_:∀s,F6 (Hc s))(xs:List α){encs:α->Array V}
  {Bs:Nat} {bcs:List V} {bt:TypeId} (Q3:K Bs bcs bt∈F)
  (LC:∀w,Wd S w0 H w->SeqStopsK (FW A) 4 P gf lb.toArray encs (Ck λb=>(b<w0.heap.size/\¬S b)∨b=Bs) (λys=>ys=xs) (λpre=>pre<+:xs) xs.length w)
  (akb:List α->σ->Prop) (s0:σ) (h0:akb [] s0) (hH:(Hc s0++F).Sublist H) (xH:∀x,(encs x).size=ps.size)
  (L0 La:α->List (Nat×V)) (mq:∀x a,Fr N ds L a->Fr N [] (L0 x) {tmps:=(ps.zip (encs x)).foldl (λt (p,v)=>t.setIfInBounds p v) a.tmps,defers:=[]})
  (tW:∀(l:Nat) (x:α) (s:σ) (R:bN),aki N [] S w0 (L0 x) (R::(Hc s++F)) (assign.wpIn (FW (Z l)) 0 P (Exit.then (St N [] S w0 (La x) (R::(Hc s++F))) (λ_ _ _=>False))))
  (rj:∀(l:Nat) (pre:List α) (x:α) (s:σ) (R:bN),akb pre s->pre.length<xs.length->aki N [] S w0 (La x) (R::(Hc s++F)) (body.wpIn (FW (Z l)) 0 P (Exit.then (Rnd S w0 (akb (pre++[x])) R Hc F) (λ_ _ _=>False))))
  (k:∀akf s,w0.heap.size<=akf->akb xs s->aki N (⟨.collected akf,#[]⟩::ds) S w0 L (bN.mark akf::(Hc s++F)) (Q .normal)):aki N ds S w0 L H (Code.wpIn (FW A) 0 P (Code.rangeFunc g ps assign body) Q):=λa w hS=>by
 have pU:=hS.wd.size;have hF:∀e∈F,∀b,e.fp b->b<w.heap.size:=λe he b hb=>(hS.wd.own e (hH.subset (de _ he)) b hb).2;have jd:∀s W,Wd S w0 (Hc s++F) W->∀r o,W.heap[r]?=Z o->o.isCells=false->w.heap.size<=r->¬cH (Hc s++F) r:=by
  rintro s W hW r o ho hn hle ⟨e,he,hb⟩;rcases bA.1 he with he|he
  ·obtain⟨j,hj⟩:=bg (ct F he)
   obtain⟨cs,t,akj,hc⟩:=((e_ s).all e he).ok W (hW.get hj) r hb;rw[hc]at ho;cases ho;cases hn
  ·have:=hF e he r hb;omega
 have CY:∀s W,Wd S w0 (Hc s++F) W->W.heap[Bs]?=Z (.cells bcs.toArray bt (0,0)):=λs W hW=>by
  obtain⟨j,hj⟩:=bg (de (Hc s) Q3);exact hW.get hj
 have Am:∀s s' W W',Wd S w0 (Hc s++F) W->Wd S w0 (bN.rest (pw w0.heap.size W (Hc s++F)) W::(Hc s'++F)) W'->KeepsFrom w.heap.size W W'/\Ck (λb=>(b<w0.heap.size/\¬S b)∨b=Bs) W W':=by
  intro s s' W W' hW tV;obtain⟨hs,hr⟩:=tV.get (k:=0) rfl;refine⟨⟨hs,λj o hj ho hn=>?_⟩,λb hb=>?_⟩
  ·exact(hr j ⟨I,(fv.1 ho).1,jd s W hW j o ho hn hj⟩).trans ho
  ·rcases hb with⟨h1,h2⟩|rfl
   ·exact(tV.ch.block b h1 h2).trans (hW.ch.block b h1 h2).symm
   ·exact(CY s' W' (tV.sub (dR _ _))).trans (CY s W hW).symm
 refine jD (m:=5) ?_;refine wpIn_rangeFunc_ownH (F:=FW A) (n:=5) (w0:=w) rfl I (hg.eq _ _ _ hS.fr) trivial (λargs w=>eg.run args w) (LC w hS.wd) (λh1 h2 b hb=>(h2 b hb).trans (h1 b hb)) (λW l o o' hl _ _ _ b hb=>?_) (Below.refl _ _) xH
  (λpre W=>∃s,akb pre s/\Wd S w0 (Hc s++F) W) (λ_ _ _=>False) (λpre W W' row ⟨s,hI,hW⟩ hg hr=>⟨s,hI,hW.grown hg λr e=>?_⟩) (λ_ _ _ _ _ h=>h.elim) ⟨s0,h0,hS.wd.sub hH⟩ (λx a' _=>Fr N [] (La x) a') (λ_ _ _ _ _ _ h _ _=>h) ?_ ?_ ?_ ?_
 ·have bS:b<w.heap.size:=by
   rcases hb with⟨h1,_⟩|rfl
   ·omega
   ·exact hF _ Q3 b rfl
  exact World.putObj_heap_other I
 ·obtain⟨h1,o,ho,hn⟩:=hr r e
  exact⟨I,jd s W hW r o ho hn h1⟩
 ·rintro l pre x W akc ⟨s,hI,hW⟩ hK
  refine jD (m:=0) ?_;refine Code.wpIn_mono (λe a' W' q=>?_) (tW l x s _ _ W ⟨mq x a hS.fr,hW.rM⟩);cases e with
  |normal=>
   have ho:=Am s s W W' hW q.wd;exact hK a' W' ho.1 ho.2 ⟨s,hI,q.wd.sub (dR _ _)⟩ q.fr
  |_=>exact q.elim
 ·rintro l pre x a' W _ _ ⟨s,hI,hW⟩ ha bS
  refine jD (m:=0) ?_;refine Code.wpIn_mono (λe a' W' q=>?_) (rj l pre x s _ hI bS a' W ⟨ha,hW.rM⟩);cases e with
  |normal=>
   obtain⟨s',R6,tV⟩:=q;have ho:=Am s s' W W' hW tV;exact⟨ho.1,ho.2,s',R6,tV.sub (dR _ _)⟩
  |_=>exact q.elim
 ·rintro akf ys W hD rfl ⟨s,hI,hW⟩ hd
  refine k akf s I hI _ W ⟨⟨hS.fr.size,by rw[hS.fr.defers],hS.fr.slot⟩,?_⟩;have hn:¬cH (Hc s++F) akf:=jd s W hW akf _ hd rfl hD;exact⟨hW.ch,λe he b hb=>by
   rcases bD.1 he with rfl|he
   ·cases hb
    exact⟨.inr I,(fv.1 hd).1⟩
   ·exact hW.own e he b hb,λe he w2 hs jg=>by
   rcases bD.1 he with rfl|he
   ·exact(jg akf rfl).trans hd
   ·exact hW.ok e he w2 hs jg,ew.2 ⟨λf hf b hb u1=>by cases hb;exact hn ⟨f,hf,u1⟩,hW.apart⟩⟩
 ·intro akf c pre W _ _ h
  exact h.elim
end
end
section
set_option maxHeartbeats 8000000
attribute [local irreducible] wpListIn Code.wpIn Exit.then Exit.inBlock bodyPost wpQuiet wpAnyIn
def iO(x:Nat):V:=.int O (x:Int)
theorem B6{S:Nat->Prop}{w0 w:C}{H:List bN}{k c n e:Nat}{a:Option Addr}{l:List Nat}(h:Wd S w0 H w)(hk:H[k]?=Z (M a n c e 1 (l.map iO)))(hn:n=l.length)(hb:n<=100000)(hl:∀x∈l,x<=100000):aG w (J a n c) 1 (l.map (λx:Nat=>(x:Int))) fI:=by
 refine h.oH hk (ax hn) I λi x hx=>?_;rw[aJ]at hx;obtain⟨y,hy,rfl⟩:=cA.1 hx;have hb:=hl y (aq hy);refine⟨[iO y],λj v hj=>?_,rfl,by simp only[dk];omega⟩
 match j,hj with
 |0,hj=>simpa[hy]using hj
theorem TU{l:List Nat}{x:Nat}:(x:Int)∈l.map (λx:Nat=>(x:Int))↔x∈l:=by
  rw[aV]
  exact⟨λ⟨y,hy,e⟩=>by have:y=x:=I
                      exact this▸hy,λh=>⟨x,h,rfl⟩⟩
theorem Ia{S:Nat->Prop}{w0 w:C}{H:List bN}{k c n e:Nat}{a:Option Addr}{l:List Bool}(h:Wd S w0 H w)(hk:H[k]?=Z (M a n c e 1 (l.map D)))(hn:n=l.length)(hb:n<=100000):aG w (J a n c) 1 l AX:=by
 refine h.oH hk hn I λi x hx=>⟨[D x],λj v hj=>?_,rfl⟩
 match j,hj with
 |0,hj=>simpa[hx]using hj
theorem UU{S:Nat->Prop}{w0 w:C}{rs:List Row}{akg H:List bN}(h:Wd S w0 (akg++(rs.map ie++H)) w){i:Nat}{r:Row}(hr:rs[i]?=Z r)(hl:r.l.length<=1000/\∀x∈r.l,dk x):aG w (fG r) 1 r.l fI:=by
 have bS:i<rs.length:=(az.1 hr).1;refine h.oH (k:=akg.length+i) (a:=r.a) (n:=r.l.length) (c:=r.c) (e:=3) (s:=1) (xs:=r.l.map (U O)) ?_ rfl I λj y hy=>⟨[U O y],λk v hk=>?_,rfl,hl.2 y (aq hy)⟩
 ·rw[dC I,show akg.length+i-akg.length=i by omega,dY (ax bS),aJ,hr];rfl
 ·match k,hk with
  |0,hk=>simpa[hy]using hk
end
section
section
variable {P:Program} {N:Nat} {ds:List Deferred} {S:Nat->Prop} {w0:C} {L L':List (Nat×V)} {H H' Hr:List bN} {Q:Exit->Act->C->Prop} {x y:Operand} {akd:Act->C->Prop} {l:List Oper} {bH:Nat} {listed:Array Bool}
theorem tS{id n:Nat}[hl:HU l n](Hr:List bN)(hm:P.follows .mixedOrders=true)(_hH:Hr.Sublist H)
  (h:aki N ds S w0 L H (wpAnyH P .any l.toArray (dK (Q .normal)) (Wd S w0 Hr) n (Array.replicate n false))):aki N ds S w0 L H (Code.wpIn (FW A) 0 P (Code.region id l.toArray true) Q):=λa w hS=>by
 refine wpIn_wide.2 (wp_region_any hm ?_);have h1:=wpAny_of_held _ _ _ _ (h a {w with drawn:=w.drawn+1} ⟨hS.fr,hS.wd.same rfl rfl rfl rfl⟩);rw[<-hl.eq]at h1;have key:∀(bH:Nat) (listed:Array Bool) (a:Act) (w:C),wpAny P .any l.toArray (dK (Q .normal)) bH listed a w->wpAny P .any l.toArray Q bH listed a w:=by
  intro bH
  induction bH with
  |zero=>exact λlisted a w h=>⟨h.1,h.2⟩
  |succ bH ih=>
   intro listed a w h;refine⟨λe=>h.1 e,λi hi=>?_⟩;have h2:=h.2 i hi;unfold wpOp at h2⊢
   split
   ·rename_i ho
    simp only[ho]at h2;exact ih _ _ _ h2
   ·rename_i o ho
    simp only[ho]at h2
    split
    ·rename_i hw
     rw[if_pos hw]at h2;rcases h2 with h3|⟨_,a',w',h3⟩
     ·left
      unfold Oper.wp at h3⊢
      revert h3
      generalize (execOp a.eval o).run P w=r;intro h3;cases r with
      |ok nx w1=>
       cases nx with
       |value v=>exact ih _ _ _ h3
       |skip=>exact ih _ _ _ h3
       |defer d=>exact ih _ _ _ h3
       |enter f args=>
        refine Calls.mono h3 λe w2 hh=>?_;cases e with
        |returned v=>exact ih _ _ _ hh
        |panicked c=>exact(hh:False).elim
        |outgrown=>exact(Exists.elim hh λ_ h=>Exists.elim h λ_ h=>(h:False).elim)
       |row r args=>exact Rows.mono h3 λv w2 hh=>ih _ _ _ hh
       |_=>exact h3
      |halt x w1=>cases x<;>exact(h3:False).elim
     ·exact(h3:False).elim
    ·rename_i hw
     rw[if_neg hw]at h2;exact ih _ _ _ h2
 have:=key _ _ _ _ h1;simpa using this
theorem c8{d ty:Nat}(i:Nat){pos:String}{aft:Array Go.Edge}{op:Op}{v:V}[ho:dF l i ⟨Z d,op,ty,pos,aft,A⟩][h:dL P N ds S w0 L Hr op v](hd:dy d N L=true)
  (hr:((Region.noSelect l.toArray&&Region.free .any l.toArray listed i)&&(Region.ready .any l.toArray listed).contains i)=true) (hH:Hr.Sublist H)
  (k:aki N ds S w0 ((d,v)::L) H (wpAnyH P .any l.toArray (dK akd) (Wd S w0 Hr) bH (listed.setIfInBounds i true))):aki N ds S w0 L H (wpAnyH P .any l.toArray (dK akd) (Wd S w0 Hr) (bH+1) listed):=λa w hS=>by
 simp only[Bool.and_eq_true]at hr;exact wpAnyH_take (i:=i) (oi:=⟨Z d,op,ty,pos,aft,A⟩) (v:=v) (ax ho.at') hr.1.1 hr.1.2 hr.2 (λc a w hh=>hh) (.inl ⟨rfl,λw hw=>h.run _ _ _ _ _ a w hS.fr hw⟩) (hS.wd.sub hH) (k _ _ ⟨hS.fr.eo hd v,hS.wd⟩)
theorem ag{d ty:Nat}(i:Nat){pos:String}{aft:Array Go.Edge}{op:Op}{v:V}[ho:dF l i ⟨Z d,op,ty,pos,aft,A⟩][h:dL P N ds S w0 L Hr op v](k:aki N ds S w0 ((d,v)::L) H (wpAnyH P .any l.toArray (dK akd) (Wd S w0 Hr) bH (listed.setIfInBounds i true)))(hd:dy d N L=true:=by rfl)(hr:((Region.noSelect l.toArray&&Region.free .any l.toArray listed i)&&(Region.ready .any l.toArray listed).contains i)=true:=by decide+kernel)(hH:Hr.Sublist H:=by repeat(first|exact ey _|exact fh _|refine List.Sublist.cons_cons _ ?_|refine List.Sublist.cons _ ?_)):aki N ds S w0 L H (wpAnyH P .any l.toArray (dK akd) (Wd S w0 Hr) (bH+1) listed):=c8 i hd hr hH k
theorem kX{ty T b off k o j n c e s:Nat}(i:Nat)[h:OneCell P T]{xs V4:List V}{v:V}{pos:String}{aft:Array Go.Edge}[ho:dF l i ⟨A,.store T x y,ty,pos,aft,A⟩]
  [hx:Ev L x (ar (Z ⟨b,off,A⟩))] [hy:Ev L y v] [h1:zT v] [hb:oI H b off k o j n c e s xs] [hu:mV xs j v V4] [hH:rT H k (M (Z ⟨b,o,A⟩) n c e s V4) H']
  (hr:decide (Region.ready .any l.toArray listed=[i])=true) (VT:(Region.ready .any l.toArray (listed.setIfInBounds i true)).isEmpty=true) (O_:Hr.Sublist H')
  (kk:aki N ds S w0 L H' akd):aki N ds S w0 L H (wpAnyH P .any l.toArray (dK akd) (Wd S w0 Hr) (bH+1) listed):=by
 intro a w hS;obtain⟨_,_,_,pre,sp,wP,_,IW⟩:=hS.wd.lu hb.at';have e1:=hb.eq;subst e1;have bS:=hu.lt;have hc:=hS.wd.cL hb.at' (a_ bS);have rp:=l0 (P:=P) (T:=T) h1.one hc (by simp[World.frozen?,IW]);have ek:=hS.wd.MC v hb.at' bS;rw[hu.eq,hH.BN]at ek;refine wpAnyH_all (of_decide_eq_true hr) aC λi' yY=>?_;simp only[bR]at yY;subst yY;unfold wpOp;rw[show l.toArray[i']?=Z ⟨A,.store T x y,ty,pos,aft,A⟩ by simpa using ho.at'];simp only;have hwt:Region.wanted (⟨A,.store T x y,ty,pos,aft,A⟩:Oper) (yielded l.toArray a.tmps)=true:=rfl;rw[if_pos hwt]
 left
 unfold Oper.wp;rw[show(execOp a.eval ⟨A,.store T x y,ty,pos,aft,A⟩).run P w=.ok .skip (w.setCell ⟨b,o+j,A⟩ v) by simp[execOp,hx.eq _ _ _ hS.fr,hy.eq _ _ _ hS.fr,rp]];refine⟨ek.sub O_,wpAnyH_done (List.isEmpty_iff.1 VT) ?_ _⟩;exact kk _ _ ⟨hS.fr,ek⟩
end
end
section
set_option maxHeartbeats 8000000
attribute [local irreducible] wpListIn Code.wpIn Exit.then Exit.inBlock bodyPost wpQuiet wpAnyIn
theorem Gk{fs:List aY}{f:aY}(h:gJ fs f=0):cT f.blocks:=by
 unfold gJ at h
 split at h
 ·rename_i h1;exact absurd h h1
 ·rename_i h1
  have hz:=jc (ax h1);intro b hb;obtain⟨j,hj⟩:=bg hb;have:=hz j (az.1 hj).1;simp only[j4,hj]at this;exact M0 this
theorem tN{u:a8}(h:(dA u).1=0):∀X∈u.funcs,gJ u.funcs X=0:=by
 unfold dA at h
 split at h
 ·cases h
 ·split at h
  ·rename_i h2;exact absurd h h2
  ·split at h
   ·rename_i h2;exact absurd h h2
   ·split at h
    ·rename_i h2;exact absurd h h2
    ·rename_i h4
     have hz:=jc (ax h4);intro X hX;obtain⟨j,hj⟩:=bg hX;have:=hz j (az.1 hj).1;simpa only[j4,hj]using this
open Classical in
noncomputable def CV(R:Nat->Nat->Prop)(n b c i:Nat):List Int:=((List.range (if i<b then n else if i=b then c else 0)).filter λd=>decide (R i d)).map λx:Nat=>(x:Int)
open Classical in
noncomputable def IG(R:Nat->Nat->Prop)(n:Nat):List (List Int):=(List.range n).map λb=>((List.range n).filter λd=>decide (R b d)).map λx:Nat=>(x:Int)
theorem O9(R:Nat->Nat->Prop){n:Nat}(hn:n<=100)(b c i:Nat)(hc:c<=100):(CV R n b c i).length<=100/\∀x∈CV R n b c i,dk x:=by
 classical
 have h1:(if i<b then n else if i=b then c else 0)<=100:=by split<;>(try split)<;>omega
 refine⟨?_,λx hx=>?_⟩
 ·rw[CV,aF]
  have:=jL (λd=>decide (R i d)) (List.range (if i<b then n else if i=b then c else 0));rw[fA]at this;omega
 ·rw[CV]at hx
  obtain⟨y,hy,rfl⟩:=aV.1 hx;have:=(cC.1 hy).1;have:y<_:=cM.1 this;simp only[dk];omega
attribute [local irreducible] bodyPostM
theorem KD(v:V)(hv:∃a n c,v=J a n c)(w0:C):iC ae 135 [v] w0 λu w'=>∃p:Nat,u=.func (.func 162) #[] #[ar (Z ⟨p,0,A⟩)]/\Wd cX w0 [K p [v] 42] w'/\True:=by
 obtain⟨a,n,c,rfl⟩:=hv;refine aM func135 rfl ntmps135 rfl (Wd.nil cX w0) ?_
 repeat(first|refine aH ?_|refine dZ λ_ _=>?_)
 exact cE rfl λw hw=>⟨_,rfl,hw,trivial⟩
theorem OS{α:Type}{enc:α->Int×Int}{akc:Nat->Prop}{w0 w:C}{Bs n c:Nat}{a:Option Addr}{zs:List Int}{xs:List α}(rq:aG w0 (J a n c) 1 zs fI)(hlen:zs.length<=100000)(hK:∀b,b<w0.heap.size->akc b)(hKB:akc Bs)(hw:l_ cX w0 w)
  (hB:w.cell? ⟨Bs,0,A⟩=Z (J a n c)) (nK:xs.map enc=sy zs zs.length):
  SeqStopsK (FW A) 4 ae 162 #[ar (Z ⟨Bs,0,A⟩)] (λx=>#[U O (enc x).1,U O (enc x).2]) (Ck akc) (λys=>ys=xs) (λpre=>pre<+:xs) xs.length w:=by
 intro l aj8 Jx W hW _ _ hY h0;have ue:xs.length=zs.length:=by have:=congrArg List.length nK;rwa[aF,w7]at this
 obtain⟨a',n',c',b,o,hv,hn,_,_,_,ha,ji⟩:=rq;simp only[Value.slice.injEq]at hv;obtain⟨rfl,rfl,rfl⟩:=hv;subst hn;have jd:∀j,j<zs.length->w0.cell? ⟨b,o+j,A⟩=Z (U O (zs[j]?.getD 0)):=λj hj=>by
  obtain⟨cs,hc,rfl,_⟩:=ji j _ (a_ hj);have:=hc 0 _ rfl;simpa[hj]using this
 refine H5 4 I enc l Bs b o c akc zs xs nK hlen (λeQ=>hK b ?_) hKB aj8 Jx a (λeQ=>ha eQ) (λpre x W1 hJ hl=>hY pre x W1 hJ I) W ((hW.cell (p:=⟨Bs,0,A⟩) (World.block_lt_of_cell? w _ hB)).trans hB) (λj hj=>?_) h0
 ·exact World.block_lt_of_cell? w0 _ (jd 0 (rW.2 eQ))
 ·have h1:=fJ hw (jd j hj)
  exact(hW.cell (World.block_lt_of_cell? w _ h1)).trans h1
abbrev qm(n:Nat):Type:={p:Int×Nat//p.2<n}
def qm.enc{n:Nat}(x:qm n):Int×Int:=(x.1.1,(x.1.2:Int))
theorem H3{n:Nat}:∀l:List (Int×Int),(∀p∈l,0<=p.2/\p.2<n)->∃xs:List (qm n),xs.map qm.enc=l
 |[],_=>⟨[],rfl⟩
 |p::l,h=>by
  obtain⟨xs,nK⟩:=H3 l λq hq=>h q (cO _ hq);have hp:=h p aC;refine⟨⟨(p.1,p.2.toNat),by simp only;omega⟩::xs,?_⟩;rw[bT,nK];simp only[qm.enc];congr 1;rw[show((p.2.toNat:Nat):Int)=p.2 by omega]
theorem CG(zs:List Int):(sy zs zs.length).map (·.2)=zs.reverse:=by
 apply ci;intro i;rw[sy,dE,aJ]
 by_cases hi:i<zs.length
 ·rw[eX hi,List.getElem?_reverse hi]
  have:zs.length-1-i<zs.length:=I;simp[this]
 ·rw[bO (by rw[fA];omega),bO (by rw[vZ];omega)];rfl
theorem KW{zs:List Int}{p:Int×Int}(h:p∈sy zs zs.length):p.2∈zs:=by
 have:p.2∈(sy zs zs.length).map (·.2):=aV.2 ⟨p,h,rfl⟩;rw[CG]at this;simpa using this
def wT(n:Nat)(pl sb:Nat)(s:(List Bool×List Nat)×(Option Addr×Nat)):List bN:=
 [K pl [J s.2.1 s.1.2.length s.2.2] 42,M s.2.1 s.1.2.length s.2.2 3 1 (s.1.2.map iO),M (Z ⟨sb,0,A⟩) n n 4 1 (s.1.1.map D)]
def Ed(nm pa re:V)(ba:Option Addr)(n bc ps pf pv pl sb:Nat):List bN:=[K ps [J (Z ⟨sb,0,A⟩) n n] 144,K pf [nm,pa,re,J ba n bc] 35,K pv [.func (.func 134) #[] #[ar (Z ⟨ps,0,A⟩),ar (Z ⟨pf,0,A⟩),ar (Z ⟨pv,0,A⟩),ar (Z ⟨pl,0,A⟩)]] 175]
theorem YH(nm pa re:V)(bl:List E)(ba:Option Addr)(n bc ps pf pv pl sb:Nat)(wz:C)(m_:aG wz (J ba n bc) 6 bl ed)(hlen:bl.length<=100)(cY:cT bl):
  ∀(f b:Nat) (s:(List Bool×List Nat)×(Option Addr×Nat)),s.1.1.length=bl.length->s.1.1[b]?=Z false->gW s.1.1<=f->s.1.2.length+gW s.1.1<=n->∀w,Wd cX wz (wT n pl sb s++Ed nm pa re ba n bc ps pf pv pl sb) w->
  iC ae 134 [U O b,ar (Z ⟨ps,0,A⟩),ar (Z ⟨pf,0,A⟩),ar (Z ⟨pv,0,A⟩),ar (Z ⟨pl,0,A⟩)] w λu w'=>∃akj:Option Addr×Nat,u=.tuple #[]/\Wd (cH (wT n pl sb s++Ed nm pa re ba n bc ps pf pv pl sb)) w (wT n pl sb (yg bl f b s.1,akj)++Ed nm pa re ba n bc ps pf pv pl sb) w'/\True:=by
 have uT:=m_;obtain⟨ba,n,bc,bb,zW,hv,hn,qP,GM,Pg,yh,ji⟩:=m_;simp only[Value.slice.injEq]at hv;obtain⟨rfl,rfl,rfl⟩:=hv;intro f
 induction f with
 |zero=>intro b s _ hb hu;have:=rL hb;omega
 |succ f ih=>
  rintro b ⟨⟨seen,left⟩,la,lc⟩ hl hb hu hle w hw;simp only at hl hb hu hle;have hus:=pC hb;have pR:b<n:=by have:=(az.1 hb).1;omega
  obtain⟨B,hB⟩:=et hn pR;have oW:bU ba bb zW:=⟨yh (aL hB)⟩;have lY:bY b n:=⟨pR⟩;obtain⟨cs,fT,pv',lv,tv,rfl,_,_,qt,lq,ht⟩:=ji b B hB;have Ks:=ht;obtain⟨ta,tn,tc,tb,AP,rfl,uW,GV,GU,Xq,yk,tZ⟩:=ht;have n_:a6 wz bb (zW+b*6) _:=⟨fT⟩;have Ld:=cY B (aq hB);have hea:qy seen b false:=⟨hb⟩;have hz:=hw.ch;refine uC (w0:=wz) (S:=cX) func134 rfl ntmps134 rfl hw.rM ?_;generalize Bk:bN.rest (pw wz.heap.size w (wT n pl sb ((seen,left),la,lc)++Ed nm pa re ba n bc ps pf pv pl sb)) w=RS;simp only[wT,Ed,aW,aO];refine aE ?_;refine cZ (val:=λp:Nat=>.func (.func 162) #[] #[ar (Z ⟨p,0,A⟩)]) (akg:=λp=>[K p [J ta tn tc] 42]) (φ:=λ_=>True) rfl (λw hw=>KD _ ⟨_,_,_,rfl⟩ w) λBs _=>?_;simp only[aW,aO];refine aH ?_;obtain⟨xs,nK⟩:=H3 (n:=n) (sy B.to B.to.length) λp hp=>by have:=Ld.2 p.2 (KW hp);omega
  refine jQ (L':=[(18,.func (.func 162) #[] #[ar (Z ⟨Bs,0,A⟩)]),(0,U O b),aj 1 ps,aj 2 pf,aj 3 pv,aj 4 pl]) ap (.refl _) ?_;refine r4 [2,3,4,5,6,7,0,1] (by decide) ?_;have hvt:wT n pl sb ((seen.set b true,left),(la,lc))=[K pl [J la left.length lc] 42,M la left.length lc 3 1 (left.map iO),M (Z ⟨sb,0,A⟩) n n 4 1 ((seen.set b true).map D)]:=rfl;refine WD (α:=qm n) (gf:=162) (lb:=[ar (Z ⟨Bs,0,A⟩)]) [K ps [J (Z ⟨sb,0,A⟩) n n] 144,K pf [nm,pa,re,J ba n bc] 35,K pv [.func (.func 134) #[] #[ar (Z ⟨ps,0,A⟩),ar (Z ⟨pf,0,A⟩),ar (Z ⟨pv,0,A⟩),ar (Z ⟨pl,0,A⟩)]] 175,K Bs [J ta tn tc] 42,RS] (wT n pl sb) (λs=>⟨by intro e he;simp only[wT,bD,h_,or_false]at he;rcases he with rfl|rfl|rfl<;>infer_instance⟩) xs (encs:=λx=>#[U O (qm.enc x).1,U O (qm.enc x).2]) (Bs:=Bs) (bcs:=[J ta tn tc]) (bt:=42) aC
   (λw hw=>OS (enc:=qm.enc) Ks I (λb hb=>.inl ⟨hb,λh=>h⟩) (.inr rfl) hw.ch (hw.gL Bs 0 _ rfl) nK)
   (λpre s=>s.1=(pre.map λx=>x.1.2).foldl (gC bl f) (seen.set b true,left)) ((seen.set b true,left),(la,lc)) rfl (.refl _) (λ_=>rfl)
   (λx=>[(20,U O (x.1.2:Int)),(19,U O x.1.1),(0,U O b),aj 1 ps,aj 2 pf,aj 3 pv,aj 4 pl]) (λx=>[(7,U O (x.1.2:Int)),(0,U O b),aj 1 ps,aj 2 pf,aj 3 pv,aj 4 pl]) (λx a h=>?_) (λl x s R=>?_) (λl pre x s R hI bS=>?_) λakf s hD hI=>?_
  ·have h2:=((h.to (L':=[(0,U O b),aj 1 ps,aj 2 pf,aj 3 pv,aj 4 pl]) ap).eo (d:=19) rfl (U O x.1.1)).eo (d:=20) rfl (U O (x.1.2:Int))
   have e:(#[19,20].zip #[U O (qm.enc x).1,U O (qm.enc x).2]).foldl (λ(t:Array V) (q:Tmp×V)=>t.setIfInBounds q.1 q.2) a.tmps=(a.tmps.setIfInBounds 19 (U O x.1.1)).setIfInBounds 20 (U O (x.1.2:Int)):=by simp[qm.enc]
   refine⟨Eq.trans (congrArg Array.size e) h2.size,rfl,λp hp=>?_⟩;exact Eq.trans (congrArg (λt:Array V=>t[p.1]?) e) (h2.slot p hp)
  ·refine aU ?_
   exact aS ap aK
  ·obtain⟨⟨i0,t⟩,abD⟩:=x
   obtain⟨⟨sn,lf⟩,la',lc'⟩:=s;simp only at hI abD;have hg:=i_ bl f (seen.set b true,left) (pre.map λx=>x.1.2);rw[<-hI]at hg;have rq:sn.length=n:=by have:=hg.1;simp at this;omega
   have hg3:=hg.2.2.1;have hg4:=hg.2.2.2;simp only at hg3 hg4;obtain⟨sv,ny⟩:=bf sn t I;have hes:qy sn t sv:=⟨ny⟩;have Pt:bY t n:=⟨abD⟩;have r7:((pre++[(⟨(i0,t),abD⟩:qm n)]).map λx:qm n=>x.1.2).foldl (gC bl f) (seen.set b true,left)=gC bl f (sn,lf) t:=by
    rw[bz,pF,<-hI];rfl
   rw[r7];simp only[wT,aW,aO];cases sv
   ·have hv:gC bl f (sn,lf) t=yg bl f t (sn,lf):=by unfold gC;simp[ny]
    rw[hv];refine aH ?_;refine r4 [1,2,3,4,5,6,0,7,8] (by decide) ?_;refine fC (H1:=(wT n pl sb ((sn,lf),la',lc')++Ed nm pa re ba n bc ps pf pv pl sb)++[R,K Bs [J ta tn tc] 42,RS]) rfl ?_;refine CQ (val:=λ_:Option Addr×Nat=>.tuple #[]) (akg:=λakj=>wT n pl sb (yg bl f t (sn,lf),akj)++Ed nm pa re ba n bc ps pf pv pl sb) (φ:=λ_=>True) (us:=[]) (vs:=[U O (t:Int)]) (xs:=[ar (Z ⟨ps,0,A⟩),ar (Z ⟨pf,0,A⟩),ar (Z ⟨pv,0,A⟩),ar (Z ⟨pl,0,A⟩)]) rfl
     (λw hw=>ih t ((sn,lf),la',lc') bK ny bK bK w (hw.sub (eI _ _))) λakj _=>?_
    simp only[wT,Ed,aW,aO];refine aH ?_;refine r4 [6,0,1,2,3,4,5,7,8] (by decide) ?_;exact IC (yg bl f t (sn,lf),akj) rfl (.refl _)
   ·have hv:gC bl f (sn,lf) t=(sn,lf):=by unfold gC;simp[ny]
    rw[hv];refine aH ?_;exact IC ((sn,lf),la',lc') rfl (.refl _)
  ·obtain⟨⟨sn,lf⟩,la',lc'⟩:=s
   simp only at hI;have qQ:(xs.map λx=>x.1.2)=(db bl b).reverse.map Int.toNat:=by
    have h1:=congrArg (List.map (λp:Int×Int=>p.2.toNat)) nK;rw[dE]at h1;rw[show(xs.map λx=>x.1.2)=xs.map ((λp:Int×Int=>p.2.toNat)∘qm.enc)from dD λx _=>by simp[qm.enc],h1,fY hB,<-CG,dE]
    rfl
   rw[qQ]at hI;have hd:yg bl (f+1) b (seen,left)=(sn,lf++[b]):=by rw[mA];simp only;rw[<-hI]
   have hg:=i_ bl f (seen.set b true,left) ((db bl b).reverse.map Int.toNat);rw[<-hI]at hg;have hg4:=hg.2.2.2;simp only at hg4;simp only[wT,aW,aO]
   repeat(first|refine aH ?_|refine dZ λ_ _=>?_)
   refine nX rfl rfl I I λa' c'=>?_;rw[show lf.map iO++[U O (b:Int)]=(lf++[b]).map iO by simp[iO],show lf.length+1=(lf++[b]).length by simp];refine aE ?_;refine r4 [1,9,2,3,4,5,6,7] (by decide) ?_;refine M6 rfl hD λw' ek=>⟨(a',c'),rfl,?_,trivial⟩;simp only;rw[hd];rw[<-Bk]at ek;exact YK hz ek
theorem Bg(nm pa re:V)(bl:List E)(bs:V)(w0:C)(m_:aG w0 bs 6 bl ed)(hlen:bl.length<=100)(cY:cT bl)(c_:0<bl.length):
  iC ae 90 [au #[nm,pa,re,bs]] w0 λu w'=>∃x:Option Addr×Nat,u=J x.1 (fx bl).length x.2/\Wd cX w0 [M x.1 (fx bl).length x.2 3 1 ((fx bl).map iO)] w'/\True:=by
 have uT:=m_;obtain⟨ba,n,bc,bb,zW,rfl,hn,qP,GM,Pg,yh,ji⟩:=m_;refine aM func90 rfl ntmps90 rfl (Wd.nil cX w0) ?_
 repeat(first|refine aE ?_|refine dZ λ_ _=>?_)
 rename_i pf _ pl _ sb _ ps _ pv _;rw[show List.replicate n (D false)=(List.replicate n false).map D by simp];refine fU 3 1 ?_;refine r4 [4,0,3,2,5,1] (by decide) ?_;refine fC (H1:=(wT n pl sb ((List.replicate n false,[]),(A,0))++Ed nm pa re ba n bc ps pf pv pl sb)++[]) rfl ?_;refine CQ (val:=λ_:Option Addr×Nat=>.tuple #[]) (akg:=λakj=>wT n pl sb (yg bl n 0 (List.replicate n false,[]),akj)++Ed nm pa re ba n bc ps pf pv pl sb) (φ:=λ_=>True) (us:=[]) (vs:=[U O ((0:Nat):Int)]) (xs:=[ar (Z ⟨ps,0,A⟩),ar (Z ⟨pf,0,A⟩),ar (Z ⟨pv,0,A⟩),ar (Z ⟨pl,0,A⟩)]) rfl
  (λw hw=>YH nm pa re bl ba n bc ps pf pv pl sb w0 uT hlen cY n 0 ((List.replicate n false,[]),(A,0)) (ax hn) (by simp only;rw[g_,if_pos I]) (by simp only[pB];exact bG _) (by simp only[pB];simp) w (hw.sub (eI _ _))) λakj _=>?_
 obtain⟨za,zc⟩:=akj;have hp:(yg bl n 0 (List.replicate n false,[])).2=fx bl:=by unfold fx;rw[<-hn]
 generalize yg bl n 0 (List.replicate n false,[])=d at hp;obtain⟨d1,d2⟩:=d;simp only at hp;subst hp;simp only[wT,Ed,aW,aO];refine aH ?_;exact cE rfl λw hw=>⟨(za,zc),rfl,hw.sel [1] (by decide),trivial⟩
theorem LN(a b:V)(l m:List Int)(w0:C)(ha:aG w0 a 1 l fI)(hb:aG w0 b 1 m fI):eP ae 88 [a,b] w0 (D (decide (l=m))):=by
 obtain⟨aa,an,ac,ab,ao,rfl,HE,IQ,aaI,Zf,IN,Ad⟩:=ha;obtain⟨ba,bn,bc,bb,bo,rfl,pR,aaP,aaO,Pg,yh,EG⟩:=hb;refine aM func88 rfl ntmps88 rfl (Wd.nil cX w0) ?_;refine aU ?_;refine aI (λh1=>?_) (λh1=>?_)
 ·refine aE ?_
  refine bP rfl ?_;rw[decide_eq_false];rintro rfl;simp at h1;omega
 have hlen:an=bn:=by simp at h1;omega
 refine aH ?_;refine bL (λ(i:Nat)=>i<=an/\∀j,j<i->l[j]?=m[j]?) (λi=>[(5,U O i),(0,J aa an ac),(1,J ba bn bc)]) (λ_=>[]) (λi=>an-i) 0 ⟨aT _,by simp⟩ (aS ap aC) λi ⟨hi,cU⟩=>?_;refine aU ?_;refine aI (λh2=>?_) (λh2=>?_)
 ·have bS:i<an:=ax h2
  obtain⟨x,hx⟩:=et HE bS;obtain⟨y,hy⟩:=et pR (show i<bn by omega);have oW:bU aa ab ao:=⟨IN (aL hx)⟩;have r5:bU ba bb bo:=⟨yh (aL hy)⟩;have lY:bY i an:=⟨bS⟩;have Lr:bY i bn:=⟨I⟩;obtain⟨cs,fT,rfl,_⟩:=Ad i x hx;obtain⟨E4,oY,rfl,_⟩:=EG i y hy;have n_:a6 w0 ab (ao+i*1) _:=⟨fT⟩;have VK:a6 w0 bb (bo+i*1) _:=⟨oY⟩;refine aH ?_;refine jj mixed aR ?_;refine iH ?_;refine aU ?_;refine aI (λh3=>?_) (λh3=>?_)
  ·refine aE ?_
   refine bP rfl ?_;rw[decide_eq_false];rintro rfl;rw[hx]at hy;simp only[b_]at hy;simp[hy]at h3
  ·have Xx:x=y:=ax h3
   refine aH ?_;refine bj (i+1) ⟨bS,λj hj=>?_⟩ I ap aC
   by_cases yZ:j=i
   ·subst yZ;rw[hx,hy,Xx]
   ·exact cU j I
 ·have gP:i=an:=by have:=h2;simp at this;omega
  refine aE ?_;refine bP rfl ?_;rw[decide_eq_true];apply ci;intro j
  by_cases hj:j<an
  ·exact cU j I
  ·rw[bO I,bO I]
theorem R4{R:Nat->Nat->Prop}{n:Nat}(hn:n<=100){l:List Int}(h:l∈IG R n):l.length<=1000/\∀x∈l,dk x:=by
 classical
 obtain⟨b,hb,rfl⟩:=aV.1 h;have:=O9 R hn b n b hn;simp only[CV,Nat.lt_irrefl,if_false,if_true]at this;exact⟨I,this.2⟩
theorem E3{u:a8}(h:(dA u).1=0){k:Nat}{X:aY}(hX:u.funcs[k]?=Z X):0<X.blocks.length:=by
 unfold dA at h
 split at h
 ·cases h
 ·split at h
  ·rename_i h2;exact absurd h h2
  ·split at h
   ·rename_i h2;exact absurd h h2
   ·rename_i h3
    have hz:=jc (ax h3);have:=hz k (az.1 hX).1;simp only[mm,j4,hX,lX]at this;refine Classical.byContradiction λhn=>?_;have e:X.blocks.length=0:=I;rw[e]at this;simp[within]at this
    split at this
    ·omega
    ·split at this
     ·omega
     ·split at this<;>omega
end
section
section
variable {P:Program} {ro:Option Nat} {N:Nat} {ds:List Deferred} {S:Nat->Prop} {w0:C} {L L':List (Nat×V)} {H H':List bN} {ops:Array Oper} {rest:List Oper} {Q:Exit->Act->C->Prop} {x y:Operand}
theorem nY{d ty T e s jy:Nat}{zs:List V}{pos:String}{aft:Array Go.Edge}[h:cI P T e s jy zs](hd:dy d N L=true)
  (k:∀b,w0.heap.size<=b->aki N ds S w0 ((d,J (Z ⟨b,0,A⟩) 0 0)::L) (M (Z ⟨b,0,A⟩) 0 0 e s []::H) (wpListIn (FW ro) 0 P ops Q rest)):aki N ds S w0 L H (wpListIn (FW ro) 0 P ops Q (⟨Z d,.buildSlice T 0 #[],ty,pos,aft,A⟩::rest)):=by
 intro a w hS;obtain⟨i,zz,hi,_,_,_,_⟩:=h.get;refine ft (v:=.slice (Z ⟨w.heap.size,0,A⟩) 0 0) (w':=w.alloc (.cells #[] e)) rfl (λ_ h=>by cases h) ?_ ?_
 ·have hr:(Instr.buildSlice T 0 #[]).run P w=.ok (J (Z ⟨w.heap.size,0,A⟩) 0 0) (w.alloc (.cells #[] e)):=by
   simp[Instr.buildSlice,run_underlying h.qx,sizeOf,typeInfo,hi,Instr.fill,newRow];congr 2;exact Array.eq_empty_of_size_eq_zero aC
  simp[execOp,hr]
 ·exact k _ hS.wd.size _ _ ⟨hS.fr.eo hd _,hS.wd.yd e s 0 [] aC (by simp[maxLen])⟩
theorem mJ{α:Type}{l:List α}{k:Nat}{e:α}(h:l[k]?=Z e):l.set k e=l:=by
 apply ci;intro i;rw[ez]
 split
 ·rename_i hi;subst hi
  rw[if_pos (az.1 h).1,h]
 ·rfl
end
attribute [local irreducible] wpListIn Code.wpIn Exit.then Exit.inBlock bodyPost wpQuiet wpAnyIn
set_option maxHeartbeats 4000000
instance(x:Nat):zT (iO x):=⟨rfl⟩
theorem UO{l l':List Nat}{i j:Nat}{x y:Nat}(hl:l'.length=l.length)(Q5:i<j)(hj:i+j+1=l.length)(h:∀k,k<l.length->l'[k]?=if k<i∨j<k then l[l.length-1-k]? else l[k]?)(hx:l'[i]?=Z x)(hy:l'[j]?=Z y):
  ∀k,k<l.length->((l'.set i y).set j x)[k]?=if k<i+1∨j-1<k then l[l.length-1-k]? else l[k]?:=by
 intro k hk;have hi:=h i I;have hjj:=h j I;rw[if_neg I,hx]at hi;rw[if_neg I,hy]at hjj;rw[ez,ez]
 by_cases e1:j=k
 ·subst e1
  rw[if_pos rfl,if_pos dp,if_pos I,show l.length-1-j=i by omega,hi]
 ·rw[if_neg e1]
  by_cases e2:i=k
  ·subst e2
   rw[if_pos rfl,if_pos I,if_pos I,show l.length-1-i=j by omega,hjj]
  ·rw[if_neg e2,h k hk]
   by_cases e3:k<i∨j<k
   ·rw[if_pos e3,if_pos I]
   ·rw[if_neg e3,if_neg I]
theorem UN{l l':List Nat}{i:Nat}(hl:l'.length=l.length)(hi:l.length<=2*i+1)(h:∀k,k<l.length->l'[k]?=if k<i∨(l.length:Int)-1-i<k then l[l.length-1-k]? else l[k]?):l'=l.reverse:=by
 apply ci;intro k
 by_cases hk:k<l.length
 ·rw[h k hk,List.getElem?_reverse hk]
  by_cases e:k<i∨(l.length:Int)-1-i<k
  ·rw[if_pos e]
  ·rw[if_neg e,show l.length-1-k=k by omega]
 ·rw[bO I,bO (by rw[vZ];omega)]
theorem Qr(a:Option Addr)(c:Nat)(l:List Nat)(hlen:l.length<=100000)(w:C)(hw:Wd (cH [M a l.length c 3 1 (l.map iO)]) w [M a l.length c 3 1 (l.map iO)] w):
  iC ae 155 [J a l.length c] w λu w'=>∃_:Unit,u=.tuple #[]/\Wd (cH [M a l.length c 3 1 (l.map iO)]) w [M a l.length c 3 1 (l.reverse.map iO)] w'/\True:=by
 refine aM func155 rfl ntmps155 rfl hw ?_;generalize cH [M a l.length c 3 1 (l.map iO)]=SS;refine aE ?_;refine bL (λ(x:Nat×Int×Option Addr×List Nat)=>x.2.1=(l.length:Int)-1-x.1/\x.1<=l.length/\x.2.2.2.length=l.length/\x.2.2.1=a/\∀k,k<l.length->x.2.2.2[k]?=if k<x.1∨(l.length:Int)-1-x.1<k then l[l.length-1-k]? else l[k]?) (λx=>[(2,U O x.1),(3,U O x.2.1),(0,J x.2.2.1 l.length c)])
  (λx=>[M x.2.2.1 l.length c 3 1 (x.2.2.2.map iO)]) (λx=>l.length-x.1) (0,(l.length:Int)-1,a,l) ⟨by simp,aT _,rfl,rfl,λk hk=>by rw[if_neg bK]⟩ (aS ap aK) λx ⟨hj,hi,hl,ha,cU⟩=>?_
 obtain⟨i,j,a',l'⟩:=x;simp only at hj hi hl ha cU⊢;refine aU ?_;refine aI (λh1=>?_) (λh1=>?_)
 ·have bS:(i:Int)<j:=ax h1
  obtain⟨jn,rfl⟩:∃jn:Nat,j=jn:=⟨j.toNat,I⟩;refine fL 0 rfl I λrb ro Q7=>?_;obtain⟨x,hx⟩:=bf l' i I;obtain⟨y,hy⟩:=bf l' jn I;rw[Q7];have lY:bY i l.length:=⟨I⟩;have Lr:bY jn l.length:=⟨I⟩;have he1:qy l' i x:=⟨hx⟩;have he2:qy l' jn y:=⟨hy⟩;have he3:qy (l'.set i y) jn y:=⟨by rw[ez,if_neg I,hy]⟩;have he4:qy (l'.set jn x) i x:=⟨by rw[ez,if_neg I,hx]⟩;refine aH ?_;refine v_ [(2,U O i),(3,U O jn),(0,J (Z ⟨rb,ro,A⟩) l.length c)] [M (Z ⟨rb,ro,A⟩) l.length c 3 1 (((l'.set i y).set jn x).map iO)] mixed ?_ ?_
  ·repeat' (first|refine eV 0 rfl ai ?_|refine eV 1 rfl ai ?_|refine eV 2 rfl ai ?_|refine eV 3 rfl ai ?_|refine eV 4 rfl ai ?_|refine eV 5 rfl ai ?_|refine eV 6 rfl ai ?_|refine eV 8 rfl ai ?_|refine eV 9 rfl ai ?_|refine eV 10 rfl ai ?_|refine eV 12 rfl ai ?_|refine eV 14 rfl ai ?_|refine z_ ai ?_|refine yN ai ?_|refine any_nil|refine nQ ai ?_|refine any_cons ?_ ?_|refine nJ rfl ?_|refine lJ ?_|refine pQ ?_|refine rh ?_)
   all_goals exact aS ap aK
  ·refine aE ?_
   refine bj (i+1,(jn:Int)-1,Z ⟨rb,ro,A⟩,(l'.set i y).set jn x) ⟨by simp only;omega,by simp only;omega,ax hl,by rw[<-Q7];exact ha,λk hk=>?_⟩ bK ap aK;have:=UO hl I I (λk hk=>by
    rw[cU k hk]
    by_cases e:k<i∨jn<k
    ·rw[if_pos e,if_pos I]
    ·rw[if_neg e,if_neg I]) hx hy k hk
   rw[this]
   by_cases e:k<i+1∨jn-1<k
   ·rw[if_pos e,if_pos bK]
   ·rw[if_neg e,if_neg bK]
 ·have gP:l'=l.reverse:=UN hl (by simp at h1;omega) cU
  refine aE ?_;refine sC rfl λw' ek=>⟨(),rfl,?_,trivial⟩;rw[<-gP,<-ha];exact ek
end
section
set_option maxHeartbeats 8000000
attribute [local irreducible] wpListIn Code.wpIn Exit.then Exit.inBlock bodyPost wpQuiet wpAnyIn
theorem AE(nm pa re:V)(bl:List E)(bs:V)(IV:∃a n c,bs=J a n c)(w0:C)(m_:aG w0 bs 6 bl ed)(hlen:bl.length<=100)(cY:cT bl)(c_:0<bl.length):
  iC ae 107 [au #[nm,pa,re,bs]] w0 λu w'=>∃x:Option Addr×Nat,u=J x.1 (fx bl).length x.2/\Wd cX w0 [M x.1 (fx bl).length x.2 3 1 ((fx bl).reverse.map iO)] w'/\True:=by
 obtain⟨ba,n,bc,rfl⟩:=IV;have hl:=wy c_;refine aM func107 rfl ntmps107 rfl (Wd.nil cX w0) ?_
 repeat(first|refine aU ?_|refine dZ λ_ _=>?_)
 refine cZ (val:=λx:Option Addr×Nat=>.slice x.1 (fx bl).length x.2) (akg:=λx=>[M x.1 (fx bl).length x.2 3 1 ((fx bl).map iO)]) (φ:=λ_=>True) rfl (λw hw=>Bg _ _ _ bl _ w (m_.bZ dH hw.ch) hlen cY c_) λx _=>?_;obtain⟨xa,xc⟩:=x;simp only;refine aU ?_;refine fK (val:=λ_:Unit=>.tuple #[]) (akg:=λ_=>[M xa (fx bl).length xc 3 1 ((fx bl).reverse.map iO)]) (φ:=λ_=>True) rfl (λw hw=>Qr xa xc (fx bl) I w hw.pre) λ_ _=>?_;simp only[aW,aO];refine aH ?_;exact cE rfl λw hw=>⟨(xa,xc),rfl,hw.sel [0] (by decide),trivial⟩
end
end Go.Proofs.YthfhgolkafpmnaaGreatDoor
