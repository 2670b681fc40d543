/- Texts joined: Dfs Sure Post Back Range GraphA GraphB SureA SureB Held Parts DrawE Visit SureC HangA HangB HangC HangLaw ReachG OrderA PostB OrderB. -/
import Derived.LoopIn
import Derived.LoopNIn
import Derived.OrdersHeld
import Derived.OwnWalkIn
import Derived.RangeFuncBound
import Derived.RangeFuncLeaves
import Derived.RangeFuncNested
import Derived.Shelf.Abstract
import Derived.TacticsInMore
import Derived.Test.YthfhgolkafpmnaaGreatDoorChecked
import Derived.WalkKit
import Derived.Test.YthfhgolkafpmnaaGreatDoorGA
import Derived.Test.YthfhgolkafpmnaaGreatDoorGB
import Derived.Test.YthfhgolkafpmnaaGreatDoorGC
namespace Go.Proofs.YthfhgolkafpmnaaGreatDoor
section
open Go Go.RowKit
def wh(bl:List ar):Nat->Nat->List Bool×List Nat->List Bool×List Nat
 |0,_,st=>st
 |f+1,b,st=>
  let r:=((dd bl b).reverse.map Int.toNat).foldl (λst t=>if st.1[t]?.getD true then st else wh bl f t st) (st.1.set b true,st.2)
  (r.1,r.2++[b])
def fT(bl:List ar)(f:Nat)(st:List Bool×List Nat)(t:Nat):List Bool×List Nat:=if st.1[t]?.getD true then st else wh bl f t st
theorem ls(bl:List ar)(f b:Nat)(st:List Bool×List Nat):wh bl (f+1) b st=((((dd bl b).reverse.map Int.toNat).foldl (fT bl f) (st.1.set b true,st.2)).1,(((dd bl b).reverse.map Int.toNat).foldl (fT bl f) (st.1.set b true,st.2)).2++[b]):=rfl
theorem vz{l:List Bool}{t:Nat}(h:(l[t]?.getD true)=false):l[t]?=some false:=by
 cases hq:l[t]? with
 |none=>rw[hq]at h;cases h
 |some v=>rw[hq]at h;simp at h;rw[h]
theorem l5{bl:List ar}{f t:Nat}{st:List Bool×List Nat}:fT bl f st t=st∨(st.1[t]?=some false/\fT bl f st t=wh bl f t st):=by
 unfold fT
 by_cases h:st.1[t]?.getD true=true
 ·rw[if_pos h];exact .inl rfl
 ·rw[if_neg h];exact .inr ⟨vz (by simpa using h),rfl⟩
theorem xL{α β:Type}{p:β->Prop}{g:β->α->β}{b:β}(hg:∀b a,p b->p (g b a))(hb:p b):∀l:List α,p (l.foldl g b)
 |[]=>hb
 |a::l=>xL hg (hg b a hb) l
def lk(st Fa:List Bool×List Nat):Prop:=Fa.1.length=st.1.length/\(∀x:Nat,st.1[x]?=some true->Fa.1[x]?=some true)/\gu Fa.1<=gu st.1/\Fa.2.length+gu Fa.1<=st.2.length+gu st.1
theorem lk.refl(st:List Bool×List Nat):lk st st:=⟨rfl,λ_ h=>h,bH _,bH _⟩
theorem lk.trans{a b c:List Bool×List Nat}(h:lk a b)(k:lk b c):lk a c:=⟨k.1.trans h.1,λx hx=>k.2.1 x (h.2.1 x hx),dB k.2.2.1 h.2.2.1,dB k.2.2.2 h.2.2.2⟩
theorem He{l:List Bool}{b x:Nat}(h:l[x]?=some true):(l.set b true)[x]?=some true:=by
 rw[dQ]
 split
 ·rename_i e;subst e
  rw[if_pos (aC.1 h).1]
 ·exact h
theorem ni(bl:List ar):∀(f b:Nat) (st:List Bool×List Nat),st.1[b]?=some false->lk st (wh bl f b st)
 |0,b,st,_=>lk.refl st
 |f+1,b,st,hb=>by
  have hu:=nG hb;have h1:∀st1,lk (st.1.set b true,st.2) st1->∀t,lk (st.1.set b true,st.2) (fT bl f st1 t):=λst1 h t=>by
   rcases l5 (bl:=bl) (f:=f) (t:=t) (st:=st1)with e|⟨hf,e⟩
   ·rw[e];exact h
   ·rw[e];exact h.trans (ni bl f t st1 hf)
  have h2:=xL (p:=lk (st.1.set b true,st.2)) (g:=fT bl f) (λst1 t h=>h1 st1 h t) (lk.refl _) ((dd bl b).reverse.map Int.toNat);rw[ls];refine⟨by have:=h2.1;simpa using this,λx hx=>h2.2.1 x (He hx),?_,?_⟩
  ·have:=h2.2.2.1;simp only at this⊢;omega
  ·have:=h2.2.2.2;simp only[bR,jL]at this⊢;omega
theorem ii(bl:List ar)(f:Nat)(st:List Bool×List Nat)(l:List Nat):lk st (l.foldl (fT bl f) st):=
 xL (p:=lk st) (g:=fT bl f) (λst1 t h=>by
  rcases l5 (bl:=bl) (f:=f) (t:=t) (st:=st1)with e|⟨hf,e⟩
  ·rw[e];exact h
  ·rw[e];exact h.trans (ni bl f t st1 hf)) (lk.refl _) l
theorem FF(bl:List ar)(f b:Nat)(st:List Bool×List Nat)(hb:st.1[b]?=some false):(wh bl (f+1) b st).1[b]?=some true:=by
 rw[ls];refine(ii bl f _ _).2.1 b ?_;have bT:=(aC.1 hb).1;simp[bT]
theorem cL.nat{bl:List ar}(h:cL bl){b:Nat}{z:Int}(hz:z∈dd bl b):((z.toNat:Nat):Int)=z:=by
 unfold dd at hz
 split at hz
 ·rename_i B hB
  have:=(h B (aA hB)).2 z hz;omega
 ·cases hz
theorem CO(bl:List ar)(cW:cL bl):∀(f b:Nat) (st:List Bool×List Nat),st.1[b]?=some false->
  (∀x,(wh bl f b st).1[x]?=some true->st.1[x]?=some true∨gD bl (-1) b x)/\∀x,x∈(wh bl f b st).2↔(x∈st.2∨(st.1[x]?=some false/\(wh bl f b st).1[x]?=some true))
 |0,b,st,_=>⟨λx hx=>.inl hx,λx=>⟨.inl,λh=>h.elim id λ⟨h1,h2⟩=>by rw[show(wh bl 0 b st).1=st.1 from rfl,h1]at h2;cases h2⟩⟩
 |f+1,b,st,hb=>by
  have bT:=(aC.1 hb).1;have key:∀(l:List Nat),(∀t∈l,Edge bl b t)->∀st1:List Bool×List Nat,lk (st.1.set b true,st.2) st1->
    ((∀x,st1.1[x]?=some true->st.1[x]?=some true∨gD bl (-1) b x)/\∀x,x∈st1.2↔(x∈st.2∨(x≠b/\st.1[x]?=some false/\st1.1[x]?=some true)))->
    ((∀x,(l.foldl (fT bl f) st1).1[x]?=some true->st.1[x]?=some true∨gD bl (-1) b x)/\∀x,x∈(l.foldl (fT bl f) st1).2↔(x∈st.2∨(x≠b/\st.1[x]?=some false/\(l.foldl (fT bl f) st1).1[x]?=some true))):=by
   intro l
   induction l with
   |nil=>exact λ_ st1 _ h=>h
   |cons t l ih=>
    intro hl st1 hg h;simp only[fF];rcases l5 (bl:=bl) (f:=f) (t:=t) (st:=st1)with e|⟨hf,e⟩
    ·rw[e];exact ih (λt' HE=>hl t' (cJ _ HE)) st1 hg h
    ·rw[e]
     have hd:=CO bl cW f t st1 hf;have hgd:=ni bl f t st1 hf;refine ih (λt' HE=>hl t' (cJ _ HE)) _ (hg.trans hgd) ⟨λx hx=>?_,λx=>?_⟩
     ·rcases hd.1 x hx with h1|h1
      ·exact h.1 x h1
      ·exact .inr (((gD.refl).step (hl t aH) ag).trans h1)
     ·rw[hd.2 x,h.2 x]
      constructor
      ·rintro((h1|⟨h1,h2,h3⟩)|⟨h1,h2⟩)
       ·exact .inl h1
       ·exact .inr ⟨h1,h2,hgd.2.1 x h3⟩
       ·by_cases hs:st.1[x]?=some true
        ·exfalso
         have:=hg.2.1 x (He hs);rw[h1]at this;cases this
        ·have r8:x<st.1.length:=by have:=(aC.1 h1).1;have:=hg.1;simp at this;omega
         have hsf:st.1[x]?=some false:=by
          rw[aB r8]at hs⊢;cases hv:st.1[x]
          ·rfl
          ·rw[hv]at hs;exact absurd rfl hs
         refine .inr ⟨λe=>?_,hsf,h2⟩;subst e;have:=hg.2.1 x (by simp[bT]);rw[h1]at this;cases this
      ·rintro(h1|⟨h1,h2,h3⟩)
       ·exact .inl (.inl h1)
       ·by_cases hs:st1.1[x]?=some true
        ·exact .inl (.inr ⟨h1,h2,hs⟩)
        ·refine .inr ⟨?_,h3⟩
         have r8:x<st1.1.length:=by have:=(aC.1 h2).1;have:=hg.1;simp at this;omega
         rw[aB r8]at hs⊢;cases hv:st1.1[x]
         ·rfl
         ·rw[hv]at hs;exact absurd rfl hs
  have zr:=key ((dd bl b).reverse.map Int.toNat) (λt ht=>?_) (st.1.set b true,st.2) (lk.refl _) ⟨λx hx=>?_,λx=>?_⟩
  ·rw[ls]
   refine⟨zr.1,λx=>?_⟩;simp only[bL,bU];rw[zr.2 x];constructor
   ·rintro((h1|⟨_,h2,h3⟩)|rfl)
    ·exact .inl h1
    ·exact .inr ⟨h2,h3⟩
    ·exact .inr ⟨hb,(ii bl f _ _).2.1 x (by simp[bT])⟩
   ·rintro(h1|⟨h2,h3⟩)
    ·exact .inl (.inl h1)
    ·by_cases e:x=b
     ·exact .inr e
     ·exact .inl (.inr ⟨e,h2,h3⟩)
  ·obtain⟨z,hz,rfl⟩:=aX.1 ht
   unfold Edge;have hz:z∈dd bl b:=by simpa using hz
   rw[cW.nat hz];exact hz
  ·simp only[dQ]at hx
   by_cases e:b=x
   ·subst e;exact .inr gD.refl
   ·rw[if_neg e]at hx;exact .inl hx
  ·constructor
   ·exact .inl
   ·rintro(h|⟨h1,h2,h3⟩)
    ·exact h
    ·simp only[dQ]at h3
     rw[if_neg (Ne.symm h1),h2]at h3;cases h3
theorem pW{l:List Bool}{t:Nat}(h:l[t]?=some false):1<=gu l:=by have:=nG h;omega
theorem JJ{bl:List ar}{f t:Nat}{st:List Bool×List Nat}(ht:t<st.1.length)(hu:gu st.1<=f):(fT bl f st t).1[t]?=some true:=by
 unfold fT
 by_cases h:st.1[t]?.getD true=true
 ·rw[if_pos h]
  rw[aB ht]at h⊢;simpa using h
 ·rw[if_neg h]
  have hf:=vz (by simpa using h);have:=pW hf;obtain⟨m,rfl⟩:∃m,f=m+1:=⟨f-1,ag⟩;exact FF bl m t st hf
theorem Aq(bl:List ar)(cW:cL bl):∀(f b:Nat) (st:List Bool×List Nat),st.1.length=bl.length->st.1[b]?=some false->gu st.1<=f->
  ∀x,(wh bl f b st).1[x]?=some true->st.1[x]?=some true∨∀y,Edge bl x y->(wh bl f b st).1[y]?=some true
 |0,b,st,_,hb,hu=>by have:=pW hb;omega
 |f+1,b,st,hl,hb,hu=>by
  have hus:=nG hb;have key:∀(l:List Nat),(∀t∈l,t<bl.length)->∀st1:List Bool×List Nat,lk (st.1.set b true,st.2) st1->
    (∀x,st1.1[x]?=some true->st.1[x]?=some true∨x=b∨∀y,Edge bl x y->st1.1[y]?=some true)->
    (∀x,(l.foldl (fT bl f) st1).1[x]?=some true->st.1[x]?=some true∨x=b∨∀y,Edge bl x y->(l.foldl (fT bl f) st1).1[y]?=some true)/\∀t∈l,(l.foldl (fT bl f) st1).1[t]?=some true:=by
   intro l
   induction l with
   |nil=>exact λ_ st1 _ h=>⟨h,by simp⟩
   |cons t l ih=>
    intro bT st1 hg h;simp only[fF];have kq:st1.1.length=bl.length:=by have:=hg.1;simp at this;omega
    have hu1:gu st1.1<=f:=by have:=hg.2.2.1;simp only at this;omega
    have Gu:(fT bl f st1 t).1[t]?=some true:=JJ (by have:=bT t aH;omega) hu1;have Zh:lk st1 (fT bl f st1 t):=by
     rcases l5 (bl:=bl) (f:=f) (t:=t) (st:=st1)with e|⟨hf,e⟩
     ·rw[e];exact lk.refl _
     ·rw[e];exact ni bl f t st1 hf
    have:=ih (λt' HE=>bT t' (cJ _ HE)) (fT bl f st1 t) (hg.trans Zh) λx hx=>?_
    ·refine⟨this.1,λt' HE=>?_⟩
     rcases bJ.1 HE with rfl|HE
     ·exact(ii bl f _ l).2.1 _ Gu
     ·exact this.2 t' HE
    ·have up:∀y,st1.1[y]?=some true->(fT bl f st1 t).1[y]?=some true:=Zh.2.1
     rcases l5 (bl:=bl) (f:=f) (t:=t) (st:=st1)with e|⟨hf,e⟩
     ·rw[e]at hx⊢;exact h x hx
     ·rw[e]at hx up⊢
      rcases Aq bl cW f t st1 kq hf hu1 x hx with h1|h1
      ·rcases h x h1 with h2|h2|h2
       ·exact .inl h2
       ·exact .inr (.inl h2)
       ·exact .inr (.inr λy hy=>up y (h2 y hy))
      ·exact .inr (.inr h1)
  have zr:=key ((dd bl b).reverse.map Int.toNat) (λt ht=>?_) (st.1.set b true,st.2) (lk.refl _) λx hx=>?_
  ·intro x hx
   rw[ls]at hx⊢;rcases zr.1 x hx with h1|rfl|h1
   ·exact .inl h1
   ·refine .inr λy hy=>zr.2 y ?_
    refine aX.2 ⟨(y:Int),?_,by simp⟩;rw[List.mem_reverse];exact hy
   ·exact .inr h1
  ·obtain⟨z,hz,rfl⟩:=aX.1 ht
   have hz:z∈dd bl b:=by simpa using hz
   exact cW.FG (x:=b) (by unfold Edge;rw[cW.nat hz];exact hz)
  ·simp only[dQ]at hx
   by_cases e:b=x
   ·exact .inr (.inl e.symm)
   ·rw[if_neg e]at hx;exact .inl hx
def gw(bl:List ar):List Nat:=(wh bl bl.length 0 (List.replicate bl.length false,[])).2
theorem nF(n:Nat):gu (List.replicate n false)=n:=by simp[gu]
theorem Dv{bl:List ar}(cW:cL bl)(h0:0<bl.length){x:Nat}:x∈gw bl↔gD bl (-1) 0 x:=by
 have hb:(List.replicate bl.length false)[0]?=some false:=by simp[h0]
 have hs:=CO bl cW bl.length 0 (List.replicate bl.length false,[]) hb;have hc:=Aq bl cW bl.length 0 (List.replicate bl.length false,[]) aH hb (by rw[nF];exact bH _);have Gv:(wh bl bl.length 0 (List.replicate bl.length false,[])).1[0]?=some true:=by
  obtain⟨m,hm⟩:∃m,bl.length=m+1:=⟨bl.length-1,ag⟩;rw[hm]at hb⊢;exact FF bl m 0 _ hb
 have qu:∀x,¬((List.replicate bl.length false)[x]?=some true):=λx h=>by
  rw[h_]at h
  split at h<;>simp at h
 unfold gw;rw[hs.2 x];constructor
 ·rintro(h|⟨_,h⟩)
  ·cases h
  ·exact(hs.1 x h).resolve_left (qu x)
 ·intro h
  have hx:=Jt (p:=λx=>(wh bl bl.length 0 (List.replicate bl.length false,[])).1[x]?=some true) Gv (λx y hx he _=>(hc x hx).resolve_left (qu x) y he) h;have bT:=cW.BC h0 h;exact .inr ⟨by simp[bT],hx⟩
theorem uz{bl:List ar}(h0:0<bl.length):(gw bl).length<=bl.length:=by
 have hb:(List.replicate bl.length false)[0]?=some false:=by simp[h0]
 have:=(ni bl bl.length 0 (List.replicate bl.length false,[]) hb).2.2.2;rw[nF]at this;unfold gw;simp only[ql]at this;omega
open Classical in
theorem Ck{p:Nat->Prop}(n:Nat):(List.range (n+1)).filter (λc=>decide (p c))=(List.range n).filter (λc=>decide (p c))++(if p n then[n]else[]):=by
 rw[kA,nI];congr 1
 by_cases h:p n<;>simp[h]
def kB(p:Nat->Prop)[DecidablePred p](n:Nat):Nat:=((List.range n).filter λc=>decide (p c)).length
theorem wE(p:Nat->Prop)[DecidablePred p](n:Nat):kB p (n+1)=kB p n+if p n then 1 else 0:=by
 unfold kB;rw[kA,nI,bR]
 by_cases h:p n<;>simp[h]
theorem H7{p q:Nat->Prop}[DecidablePred p][DecidablePred q]:∀{n:Nat},(∀c,c<n->p c->q c)->kB p n<=kB q n
 |0,_=>by simp[kB]
 |n+1,h=>by
  have:=H7 (n:=n) λc hc=>h c ag;rw[wE,wE];have hn:=h n ag
  by_cases hp:p n
  ·rw[if_pos hp,if_pos (hn hp)];omega
  ·rw[if_neg hp];omega
theorem JS{p q:Nat->Prop}[DecidablePred p][DecidablePred q]{b:Nat}(hb:¬p b):∀{n:Nat},b<n->(∀c,c<n->(q c↔(p c∨c=b)))->kB q n=kB p n+1
 |0,h,_=>ag
 |n+1,pC,h=>by
  rw[wE,wE]
  by_cases e:b=n
  ·subst e
   have h1:kB p b=kB q b:=Nat.le_antisymm (H7 λc hc hp=>(h c ag).2 (.inl hp)) (H7 λc hc hq=>((h c ag).1 hq).elim id λe=>ag);rw[if_pos ((h b ag).2 (.inr rfl)),if_neg hb,h1]
  ·rw[JS hb ag λc hc=>h c ag]
   have hn:=h n ag
   by_cases hp:p n
   ·rw[if_pos hp,if_pos (hn.2 (.inl hp))]
   ·rw[if_neg hp,if_neg λhq=>(hn.1 hq).elim hp λe'=>e e'.symm]
end
section
open Go Go.RowKit Go.Shelf
attribute [local go_sem] Oper.semAt_some
def Aa(K:Nat->Prop)(W W':World):Prop:=∀b,K b->W'.heap[b]?=W.heap[b]?
theorem Aa.cell{K:Nat->Prop}{W W':World}(h:Aa K W W'){p:Addr}(hp:K p.block):W'.cell? p=W.cell? p:=World.cell?_of_block (h _ hp)
def qG(l:List Int)(k:Nat):List (Int×Int):=(List.range k).map λ(j:Nat)=>(((l.length-1-j:Nat):Int),l[l.length-1-j]?.getD 0)
theorem u3(l:List Int)(k:Nat):(qG l k).length=k:=by simp[qG]
theorem sH(n:Int)(h1:-9223372036854775808<=n)(h2:n<=9223372036854775807):wrap64 n=n:=by unfold wrap64;omega
set_option maxRecDepth 100000 in
set_option maxHeartbeats 2000000 in
theorem Fm(n:Nat)(hn:1<=n){α:Type}(enc:α->Int×Int)(l Bs b off cap:Nat)(K:Nat->Prop)(zs:List Int)(xs:List α)(mM:xs.map enc=qG zs zs.length)(hlen:zs.length<=100000)(hb:zs≠[]->K b)(WC:K Bs)(J Jx:List α->World->Prop)(a:Option Addr)(ha:zs≠[]->a=some ⟨b,off,none⟩)
  (hY:∀pre x W,J pre W->pre.length<zs.length->YieldAt Fence.wide (n-1) Tryz.prog l #[.int .i64 (enc x).1,.int .i64 (enc x).2] W λe W'=>
   (e=.returned (.bool true)/\J (pre++[x]) W'/\Aa K W W')∨(e=.returned (.bool false)/\Jx (pre++[x]) W'))
  (W:World) (RW:W.cell? ⟨Bs,0,none⟩=some (.slice a zs.length cap)) (hc:∀j,j<zs.length->W.cell? ⟨b,off+j,none⟩=some (.int .i64 (zs[j]?.getD 0))) (h0:J [] W):
  CallsIn Fence.wide n Tryz.prog 162 #[.func (.yield l) #[] #[],.pointer (some ⟨Bs,0,none⟩)] W λe W'=>(∃v,e=.returned v)/\
   ((∃ys,ys=xs/\J ys W')∨(∃pre,pre<+:xs/\Jx pre W')):=by
 refine callsIn_of_wp Tryz.func162 rfl trivial ?_ rfl;simp only[Tryz.ntmps162,List.size_toArray,ie,ql,Nat.reduceAdd,Nat.reduceSub,Array.replicate_succ,Array.replicate_zero,List.push_toArray,List.append_toArray,aT,a6];have r8:xs.length=zs.length:=by have:=congrArg List.length mM;rwa[aG,u3]at this
 have PN:wrap64 ((zs.length:Int)-1)=(zs.length:Int)-1:=sH _ ag ag
 gi_wp2
 gi_loopw [3] (λi wr=>∃m:Nat,m<=zs.length/\i=.int .i64 ((m:Int)-1)/\J (xs.take (zs.length-m)) wr/\Aa K W wr) (λi _=>(intOf i+1).toNat)
 case atStart=>exact⟨zs.length,bH _,by first|rfl|simp[PN],by simpa using h0,λ_ _=>rfl⟩
 case round=>
  obtain⟨m,hm,rfl,WG,hk⟩:=hrel;cases m with
  |zero=>
   gi_wp2
   go_end0
   exact⟨⟨_,rfl⟩,.inl ⟨xs,rfl,by rw[Nat.sub_zero,jw ag]at WG;exact WG⟩⟩
  |succ m=>
   have eH:zs≠[]:=by rintro rfl;simp at hm
   obtain rfl:=ha eH;rw[show(((m+1:Nat):Int)-1)=(m:Int) by omega];obtain⟨z,hz⟩:∃z,zs[m]?=some z:=⟨_,aB ag⟩;have RY:wr.cell? ⟨b,off+m,none⟩=some (.int .i64 z):=by have:=(hk.cell (p:=⟨b,off+m,none⟩) (hb eH)).trans (hc m ag);rwa[hz]at this
   have hBx:wr.cell? ⟨Bs,0,none⟩=some (.slice (some ⟨b,off,none⟩) zs.length cap):=(hk.cell (p:=⟨Bs,0,none⟩) WC).trans RW;have bT:m<zs.length:=ag;obtain⟨x,hx⟩:∃x,xs[zs.length-(m+1)]?=some x:=⟨_,aB ag⟩;have hex:enc x=((m:Int),z):=by
    have h1:(xs.map enc)[zs.length-(m+1)]?=some (enc x):=by rw[aK,hx];rfl
    rw[mM,qG,aK,eQ ag]at h1;simp only[bz,bW]at h1;rw[<-h1,show zs.length-1-(zs.length-(m+1))=m by omega,hz];rfl
   have WM:=hY _ x wr WG (by rw[cU];omega);rw[hex]at WM;have Cv:xs.take (zs.length-(m+1))++[x]=xs.take (zs.length-m):=by
    rw[show zs.length-m=(zs.length-(m+1))+1 by omega,cj,hx];rfl
   rw[Cv]at WM;obtain⟨fn,tmps,assign,body,hy,hR⟩:=WM
   dsimp only at hy
   have Yk:wrap64 ((m:Int)-1)=(m:Int)-1:=sH _ ag ag
   gi_wp2
   refine hR.mono ?_;rintro e W3 (⟨rfl,hJ3,R4⟩|⟨rfl,WI⟩)
   ·gi_wp2
    go_roundw
    case rel=>exact⟨m,ag,by first|rfl|simp[Yk],hJ3,λb hb=>(R4 b hb).trans (hk b hb)⟩
    case measure=>simp[intOf]
   ·gi_wp2
    refine bodyPost_ret (results_none rfl _ _ _) rfl ?_;exact⟨⟨_,rfl⟩,.inr ⟨_,List.take_prefix _ _,WI⟩⟩
end
section
open Go Go.RowKit
def bN.rest(U:Nat->Prop)(W:World):bN:=⟨U,λw=>W.heap.size<=w.heap.size/\∀b,U b->w.heap[b]?=W.heap[b]?⟩
def tL(n:Nat)(W:World)(H:List bN):Nat->Prop:=λb=>n<=b/\b<W.heap.size/\¬cF H b
def bN.mark(D:Nat):bN:=⟨λk=>k=D,λw=>w.heap[D]?=some (.deferred (some []))⟩
section
variable {S:Nat->Prop} {w0 wz w w' W:World} {H H1 H2 H' E F:List bN}
theorem Wd.tV(h:Wd S w0 H W):Wd S w0 (bN.rest (tL w0.heap.size W H) W::H) W:=
 ⟨h.cE,λe he b hb=>by
  rcases bJ.1 he with rfl|he
  ·exact⟨.inr hb.1,hb.2.1⟩
  ·exact h.own e he b hb,λe he w' hs dO=>by
  rcases bJ.1 he with rfl|he
  ·exact⟨hs,λb hb=>dO b hb⟩
  ·exact h.ok e he w' hs dO,fN.2 ⟨λf hf b hb wj=>hb.2.2 ⟨f,hf,wj⟩,h.apart⟩⟩
theorem UI(hz:lL dh wz w)(h:Wd dh wz (bN.rest (tL wz.heap.size w H1) w::E) w'):Wd (cF H1) w E w':=by
 obtain⟨hs,hr⟩:=h.get (k:=0) rfl;have wR:=fN.1 h.apart;refine⟨⟨h.cE.os.trans hz.os.symm,h.cE.tape.trans hz.tape.symm,h.cE.output.trans hz.output.symm,hs,λk hk Zn=>?_⟩,λe he b hb=>?_,λe he=>h.ok e (cJ _ he),wR.2⟩
 ·by_cases bT:k<wz.heap.size
  ·exact(h.cE.block k bT λh=>h).trans (hz.block k bT λh=>h).symm
  ·exact hr k ⟨ag,hk,Zn⟩
 ·obtain⟨h1,h2⟩:=h.own e (cJ _ he) b hb
  have h1:wz.heap.size<=b:=h1.elim (λh=>h.elim) id;refine⟨?_,h2⟩
  by_cases bT:b<w.heap.size
  ·left
   exact Classical.byContradiction λhn=>wR.1 e he b ⟨h1,bT,hn⟩ hb
  ·right;omega
theorem Wd.grown{row:Option Nat}(h:Wd S w0 H W)(hg:W.grownBy w' row)(hr:∀r,row=some r->w0.heap.size<=r/\¬cF H r):Wd S w0 H w':=by
 have hb:∀b,cF H b->w'.heap[b]?=W.heap[b]?:=λb ⟨e,he,hb⟩=>hg.block b (h.own e he b hb).2 λfK=>(hr b fK.symm).2 ⟨e,he,hb⟩;refine⟨⟨hg.os.trans h.cE.os,hg.tape.trans h.cE.tape,hg.output.trans h.cE.output,dB h.cE.size hg.size,λk hk hS=>?_⟩,λe he b hb=>?_,λe he w2 hs jl=>?_,h.apart⟩
 ·exact(hg.block k (by have:=h.cE.size;omega) λfK=>by have:=(hr k fK.symm).1;omega).trans (h.cE.block k hk hS)
 ·have:=h.own e he b hb
  exact⟨this.1,by have:=hg.size;omega⟩
 ·exact h.ok e he w2 (dB hg.size hs) λb J9=>(jl b J9).trans (hb b ⟨e,he,J9⟩)
theorem Wd.shut{D:Nat}(h:Wd S w0 (bN.mark D::H) w)(hD:w0.heap.size<=D)(o:Obj):Wd S w0 H (w.putObj D o):=by
 refine(h.sub (dZ _ _)).grown (grownBy_putObj' w D o) λr hr=>?_;cases hr;exact⟨hD,λ⟨f,hf,wj⟩=>(fN.1 h.apart).1 f hf D rfl wj⟩
end
class HK(e:bN):Prop where
 ok:∀w,e.ok w->∀b,e.fp b->∃cs t z,w.heap[b]?=some (.cells cs t z)
class HL(H:List bN):Prop where
 all:∀e∈H,HK e
instance(b:Nat)(cs:List Value)(t:TypeId):HK (aj b cs t):=⟨λw h k hk=>by subst hk;exact⟨_,_,_,h⟩⟩
instance(a:Option Addr)(n c e s:Nat)(xs:List Value):HK (ai a n c e s xs):=⟨λw h k hk=>by
 rcases h.2 with⟨rfl,_⟩|⟨g,pre,sp,rfl,_,_,_,hb⟩
 ·cases hk
 ·simp only[ai,bz,bW]at hk
  subst hk
  exact⟨_,_,_,hb⟩⟩
section
variable {P:Program} {N:Nat} {ds:List Deferred} {S:Nat->Prop} {w0:World} {L L':List (Nat×Value)} {H H':List bN} {a:Act} {w:World}
 {ops:Array Oper} {rest:List Oper} {Q:Exit->Act->World->Prop} {p:Act->World->Prop}
theorem kY{ro:Option Nat}{m n:Nat}{c:Code}(h:c.wpIn (FW ro) m P Q a w):c.wpIn (FW ro) n P Q a w:=λb k cs hb hf _=>h b k cs hb hf (λd hd=>by cases hd)
theorem DX{ro:Option Nat}{m n:Nat}{f:FuncId}{args:Array Value}{R:Ending->World->Prop}(h:CallsIn (FW ro) m P f args w R):CallsIn (FW ro) n P f args w R:=⟨h.1,λcs _=>h.2 cs (λd hd=>by cases hd)⟩
theorem AD{α:Type}{ro:Option Nat}{val:α->Value}{E:α->List bN}{φ:α->Prop}{H1 H2:List bN}{d ty f:Nat}{args:List Operand}{us vs xs:List Value}{og:Array Nat}{x:Operand}{pos:String}{aft:Array Go.Edge}[h:aS P f][hx:zk L args vs][hf:Ev L x (.func (.func f) us.toArray xs.toArray)](hd:dj d N L=true)
  (hc:∀w,Wd S w0 (H1++H2) w->gV P f (us++vs++xs) w λu w'=>∃x,u=val x/\Wd (cF H1) w (E x) w'/\φ x)
  (k:∀x,φ x->G N ds S w0 ((d,val x)::L) (E x++H2) (wpListIn (FW ro) 0 P ops Q rest)):G N ds S w0 L (H1++H2) (wpListIn (FW ro) 0 P ops Q (⟨some d,.call {callee:=.value x,args:=args.toArray,argTypes:=og},ty,pos,aft,none⟩::rest)):=by
 intro a w hS;refine JY (S:=S) (w0:=w0) (H:=H1++H2) (xs:=xs) (us:=us) (vs:=vs) (λ_ u w'=>∃x,u=val x/\Wd S w0 (E x++H2) w'/\φ x) hd (λw hw=>(hc w hw).mono λv w' ⟨x,h1,h2,h3⟩=>⟨x,h1,hw.comp h2,h3⟩) (λv w w' hw hR a hF=>?_) a w hS;obtain⟨x,rfl,h2,h3⟩:=hR;exact k x h3 a w' ⟨hF,h2⟩
theorem fH{α:Type}{ro:Option Nat}{val:α->Value}{E:α->List bN}{φ:α->Prop}{H1 H2:List bN}{d ty f:Nat}{args:List Operand}{vs:List Value}{og:Array Nat}{pos:String}{aft:Array Go.Edge}[h:aS P f][hx:zk L args vs](hd:dj d N L=true)
  (hc:∀w,Wd S w0 (H1++H2) w->gV P f vs w λu w'=>∃x,u=val x/\Wd (cF H1) w (E x) w'/\φ x)
  (k:∀x,φ x->G N ds S w0 ((d,val x)::L) (E x++H2) (wpListIn (FW ro) 0 P ops Q rest)):G N ds S w0 L (H1++H2) (wpListIn (FW ro) 0 P ops Q (⟨some d,.call {callee:=.value (.func f),args:=args.toArray,argTypes:=og},ty,pos,aft,none⟩::rest)):=by
 intro a w hS;refine Ik (S:=S) (w0:=w0) (H:=H1++H2) (vs:=vs) (λ_ u w'=>∃x,u=val x/\Wd S w0 (E x++H2) w'/\φ x) hd (λw hw=>(hc w hw).mono λv w' ⟨x,h1,h2,h3⟩=>⟨x,h1,hw.comp h2,h3⟩) (λv w w' hw hR a hF=>?_) a w hS;obtain⟨x,rfl,h2,h3⟩:=hR;exact k x h3 a w' ⟨hF,h2⟩
class Fi(H:List bN)(is:List Nat)(H':outParam (List bN)):Prop where
 eq:is.filterMap (λi=>H[i]?)=H'
instance(H:List bN):Fi H [] []:=⟨rfl⟩
instance(H H':List bN)(i:Nat)(is:List Nat)(e:bN)[h:dm H i e][hs:Fi H is H']:Fi H (i::is) (e::H'):=⟨by rw[List.filterMap_cons,h.at',hs.eq]⟩
theorem Wd.at_apart(h:Wd S w0 H w){i j:Nat}{e f:bN}(he:H[i]?=some e)(hf:H[j]?=some f)(Pa:i≠j):∀b,e.fp b->¬f.fp b:=by
 obtain⟨hi,rfl⟩:=aC.1 he;obtain⟨hj,rfl⟩:=aC.1 hf;have hp:=List.pairwise_iff_getElem.1 h.apart;intro b hb wj
 by_cases bT:i<j
 ·exact hp i j hi hj bT b hb wj
 ·exact hp j i hj hi ag b wj hb
theorem Wd.Zv(h:Wd S w0 H w)(is:List Nat)(hn:is.Nodup)[hs:Fi H is H']:Wd S w0 H' w:=by
 rw[<-hs.eq];refine⟨h.cE,λe he=>?_,λe he=>?_,?_⟩
 ·obtain⟨i,_,hi⟩:=List.mem_filterMap.1 he
  exact h.own e (aA hi)
 ·obtain⟨i,_,hi⟩:=List.mem_filterMap.1 he
  exact h.ok e (aA hi)
 ·refine List.Pairwise.filterMap (R:=λi j=>i≠j) _ (λi j Pa e he f hf=>?_) hn
  exact h.at_apart he hf Pa
theorem q7(is:List Nat)(hn:is.Nodup)[hs:Fi H is H'](k:G N ds S w0 L H' p):G N ds S w0 L H p:=λa w hS=>k a w ⟨hS.fr,hS.wd.Zv is hn⟩
theorem vW{f:FuncId}{fn:Func}{c:Code}{args:List Value}{R:Value->World->Prop}(hf:P.funcs[f]?=some fn)(hb:fn.body=some c)(hN:fn.ntmps=N)[hL:xE 0 args L](hlen:args.length.ble N=true)(hW:Wd S w0 H w)
  (h:G N [] S w0 L H (Code.wpIn (FW none) 0 P c (bodyPostM (FW none) 0 P fn λe w'=>∃v,e=.returned v/\R v w'))):gV P f args w R:=by
 subst hN;refine callsIn_of_wp_marks hf hb trivial (h _ _ ⟨?_,hW⟩);rw[<-hL.eq];exact Az (Nat.le_of_ble_eq_true hlen)
theorem kL{f:FuncId}{fn:Func}{c:Code}{args:List Value}{R:Value->World->Prop}(hf:P.funcs[f]?=some fn)(hb:fn.body=some c)(hN:fn.ntmps=N)[hL:xE 0 args L](hlen:args.length.ble N=true)(hW:Wd S w0 H w)
  (h:G N [] S w0 L H (Code.wpIn (FW none) 0 P c (bodyPost P fn λe w'=>∃v,e=.returned v/\R v w'))):gV P f args w R:=by
 subst hN;refine callsIn_of_wp hf hb trivial (h _ _ ⟨?_,hW⟩);rw[<-hL.eq];exact Az (Nat.le_of_ble_eq_true hlen)
theorem GL{fn:Func}{tmps:Array Value}{R:Value->World->Prop}{D:Nat}{v:Value}(hD:w0.heap.size<=D)(hW:Wd S w0 (bN.mark D::H) w)(hr:∀w,(results fn tmps).run P w=.ok v w)(hR:∀w,Wd S w0 H w->R v w):
  LeavesInM (FW none) 0 P fn tmps (λe w'=>∃v,e=.returned v/\R v w') [⟨.collected D,#[]⟩] .returning w:=by
 refine⟨by simp,.inl ⟨D,_,rfl,run_takeDeferred (hW.get (k:=0) rfl),?_⟩⟩;exact⟨v,hr _,v,rfl,hR _ (hW.shut hD _)⟩
theorem J0{fn:Func}{R:Value->World->Prop}{D:Nat}(hr:fn.results= #[])(hD:w0.heap.size<=D)(hR:∀w,Wd S w0 H w->R (.tuple #[]) w):G N [⟨.collected D,#[]⟩] S w0 L (bN.mark D::H) (bodyPostM (FW none) 0 P fn (λe w'=>∃v,e=.returned v/\R v w') .normal):=λa w hS=>by
 show LeavesInM _ _ _ _ _ _ _ _ _;rw[hS.fr.defers];exact GL hD hS.wd (λw=>results_none hr _ _ _) hR
def Rnd{σ:Type}(S:Nat->Prop)(w0:World)(I:σ->Prop)(R:bN)(Hc:σ->List bN)(F:List bN):Act->World->Prop:=λ_ w=>∃s,I s/\Wd S w0 (R::(Hc s++F)) w
theorem J3{σ:Type}{I:σ->Prop}{R:bN}{Hc:σ->List bN}{F:List bN}(s:σ)(hI:I s)(hH:(R::(Hc s++F)).Sublist H):G N ds S w0 L H (Rnd S w0 I R Hc F):=λ_ _ hS=>⟨s,hI,hS.wd.sub hH⟩
theorem SR{α σ:Type}{g:Operand}{ps:Array Tmp}{assign body:Code}{gf:Nat}{lb:List Value}[hg:Ev L g (.func (.func gf) #[] lb.toArray)][eg:aS P gf](F:List bN)(Hc:σ->List bN)(fv:∀s,HL (Hc s))(xs:List α){encs:α->Array Value}
  {Bs:Nat} {bcs:List Value} {bt:TypeId} (RW:aj Bs bcs bt∈F)
  (PA:∀w,Wd S w0 H w->SeqStopsK (FW none) 4 P gf lb.toArray encs (Aa λb=>(b<w0.heap.size/\¬S b)∨b=Bs) (λys=>ys=xs) (λpre=>pre<+:xs) xs.length w)
  (I:List α->σ->Prop) (s0:σ) (h0:I [] s0) (hH:(Hc s0++F).Sublist H) (wV:∀x,(encs x).size=ps.size)
  (L0 La:α->List (Nat×Value)) (my:∀x a,Fr N ds L a->Fr N [] (L0 x) {tmps:=(ps.zip (encs x)).foldl (λt (p,v)=>t.setIfInBounds p v) a.tmps,defers:=[]})
  (wS:∀(l:Nat) (x:α) (s:σ) (R:bN),G N [] S w0 (L0 x) (R::(Hc s++F)) (assign.wpIn (FW (some l)) 0 P (Exit.then (St N [] S w0 (La x) (R::(Hc s++F))) (λ_ _ _=>False))))
  (q_:∀(l:Nat) (pre:List α) (x:α) (s:σ) (R:bN),I pre s->pre.length<xs.length->G N [] S w0 (La x) (R::(Hc s++F)) (body.wpIn (FW (some l)) 0 P (Exit.then (Rnd S w0 (I (pre++[x])) R Hc F) (λ_ _ _=>False))))
  (k:∀D s,w0.heap.size<=D->I xs s->G N (⟨.collected D,#[]⟩::ds) S w0 L (bN.mark D::(Hc s++F)) (Q .normal)):G N ds S w0 L H (Code.wpIn (FW none) 0 P (Code.rangeFunc g ps assign body) Q):=λa w hS=>by
 have oj:=hS.wd.size;have hF:∀e∈F,∀b,e.fp b->b<w.heap.size:=λe he b hb=>(hS.wd.own e (hH.subset (dt _ he)) b hb).2;have j4:∀s W,Wd S w0 (Hc s++F) W->∀r o,W.heap[r]?=some o->o.isCells=false->w.heap.size<=r->¬cF (Hc s++F) r:=by
  rintro s W hW r o ho hn hle ⟨e,he,hb⟩;rcases bL.1 he with he|he
  ·obtain⟨j,hj⟩:=br (cC F he)
   obtain⟨cs,t,z,hc⟩:=((fv s).all e he).ok W (hW.get hj) r hb;rw[hc]at ho;cases ho;cases hn
  ·have:=hF e he r hb;omega
 have Ga:∀s W,Wd S w0 (Hc s++F) W->W.heap[Bs]?=some (.cells bcs.toArray bt (0,0)):=λs W hW=>by
  obtain⟨j,hj⟩:=br (dt (Hc s) RW);exact hW.get hj
 have Cr:∀s s' W W',Wd S w0 (Hc s++F) W->Wd S w0 (bN.rest (tL w0.heap.size W (Hc s++F)) W::(Hc s'++F)) W'->KeepsFrom w.heap.size W W'/\Aa (λb=>(b<w0.heap.size/\¬S b)∨b=Bs) W W':=by
  intro s s' W W' hW u_;obtain⟨hs,hr⟩:=u_.get (k:=0) rfl;refine⟨⟨hs,λj o hj ho hn=>?_⟩,λb hb=>?_⟩
  ·exact(hr j ⟨ag,(fI.1 ho).1,j4 s W hW j o ho hn hj⟩).trans ho
  ·rcases hb with⟨h1,h2⟩|rfl
   ·exact(u_.cE.block b h1 h2).trans (hW.cE.block b h1 h2).symm
   ·exact(Ga s' W' (u_.sub (dZ _ _))).trans (Ga s W hW).symm
 refine kY (m:=5) ?_;refine wpIn_rangeFunc_ownH (F:=FW none) (n:=5) (w0:=w) rfl ag (hg.eq _ _ _ hS.fr) trivial (λargs w=>eg.run args w) (PA w hS.wd) (λh1 h2 b hb=>(h2 b hb).trans (h1 b hb)) (λW l o o' hl _ _ _ b hb=>?_) (Below.refl _ _) wV
  (λpre W=>∃s,I pre s/\Wd S w0 (Hc s++F) W) (λ_ _ _=>False) (λpre W W' row ⟨s,hI,hW⟩ hg hr=>⟨s,hI,hW.grown hg λr e=>?_⟩) (λ_ _ _ _ _ h=>h.elim) ⟨s0,h0,hS.wd.sub hH⟩ (λx a' _=>Fr N [] (La x) a') (λ_ _ _ _ _ _ h _ _=>h) ?_ ?_ ?_ ?_
 ·have bT:b<w.heap.size:=by
   rcases hb with⟨h1,_⟩|rfl
   ·omega
   ·exact hF _ RW b rfl
  exact World.putObj_heap_other ag
 ·obtain⟨h1,o,ho,hn⟩:=hr r e
  exact⟨ag,j4 s W hW r o ho hn h1⟩
 ·rintro l pre x W K ⟨s,hI,hW⟩ hK
  refine kY (m:=0) ?_;refine Code.wpIn_mono (λe a' W' q=>?_) (wS l x s _ _ W ⟨my x a hS.fr,hW.tV⟩);cases e with
  |normal=>
   have ho:=Cr s s W W' hW q.wd;exact hK a' W' ho.1 ho.2 ⟨s,hI,q.wd.sub (dZ _ _)⟩ q.fr
  |_=>exact q.elim
 ·rintro l pre x a' W _ _ ⟨s,hI,hW⟩ ha bT
  refine kY (m:=0) ?_;refine Code.wpIn_mono (λe a' W' q=>?_) (q_ l pre x s _ hI bT a' W ⟨ha,hW.tV⟩);cases e with
  |normal=>
   obtain⟨s',SX,u_⟩:=q;have ho:=Cr s s' W W' hW u_;exact⟨ho.1,ho.2,s',SX,u_.sub (dZ _ _)⟩
  |_=>exact q.elim
 ·rintro D ys W hD rfl ⟨s,hI,hW⟩ hd
  refine k D s ag hI _ W ⟨⟨hS.fr.size,by rw[hS.fr.defers],hS.fr.slot⟩,?_⟩;have hn:¬cF (Hc s++F) D:=j4 s W hW D _ hd rfl hD;exact⟨hW.cE,λe he b hb=>by
   rcases bJ.1 he with rfl|he
   ·cases hb
    exact⟨.inr ag,(fI.1 hd).1⟩
   ·exact hW.own e he b hb,λe he w2 hs jl=>by
   rcases bJ.1 he with rfl|he
   ·exact(jl D rfl).trans hd
   ·exact hW.ok e he w2 hs jl,fN.2 ⟨λf hf b hb wj=>by cases hb;exact hn ⟨f,hf,wj⟩,hW.apart⟩⟩
 ·intro D c pre W _ _ h
  exact h.elim
end
end
section
open Go Go.RowKit
attribute [local irreducible] wpListIn Code.wpIn Exit.then Exit.inBlock bodyPost wpQuiet wpAnyIn
set_option maxHeartbeats 2000000
def ig(x:Nat):Value:=.int .i64 (x:Int)
theorem zV{S:Nat->Prop}{w0 w:World}{H:List bN}{k c n e:Nat}{a:Option Addr}{l:List Nat}(h:Wd S w0 H w)(hk:H[k]?=some (ai a n c e 1 (l.map ig)))(hn:n=l.length)(hb:n<=100000)(hl:∀x∈l,x<=100000):aM w (.slice a n c) 1 (l.map (λx:Nat=>(x:Int))) fj:=by
 refine h.nC hk (by simpa using hn) ag λi x hx=>?_;rw[aK]at hx;obtain⟨y,hy,rfl⟩:=cT.1 hx;have hb:=hl y (aA hy);refine⟨[ig y],λj v hj=>?_,rfl,by simp only[c9];omega⟩
 match j,hj with
 |0,hj=>simpa[hy]using hj
theorem Qn{l:List Nat}{x:Nat}:(x:Int)∈l.map (λx:Nat=>(x:Int))↔x∈l:=by
  rw[aX]
  exact⟨λ⟨y,hy,e⟩=>by have:y=x:=ag
                      exact this▸hy,λh=>⟨x,h,rfl⟩⟩
theorem Ft{S:Nat->Prop}{w0 w:World}{H:List bN}{k c n e:Nat}{a:Option Addr}{l:List Bool}(h:Wd S w0 H w)(hk:H[k]?=some (ai a n c e 1 (l.map .bool)))(hn:n=l.length)(hb:n<=100000):aM w (.slice a n c) 1 l yL:=by
 refine h.nC hk hn ag λi x hx=>⟨[.bool x],λj v hj=>?_,rfl⟩
 match j,hj with
 |0,hj=>simpa[hx]using hj
theorem Rk{S:Nat->Prop}{w0 w:World}{rs:List Row}{E H:List bN}(h:Wd S w0 (E++(rs.map gy++H)) w){i:Nat}{r:Row}(hr:rs[i]?=some r)(hl:r.l.length<=1000/\∀x∈r.l,c9 x):aM w (eO r) 1 r.l fj:=by
 have bT:i<rs.length:=(aC.1 hr).1;refine h.nC (k:=E.length+i) (a:=r.a) (n:=r.l.length) (c:=r.c) (e:=3) (s:=1) (xs:=r.l.map (.int .i64)) ?_ rfl ag λj y hy=>⟨[.int .i64 y],λk v hk=>?_,rfl,hl.2 y (aA hy)⟩
 ·rw[dg ag,show E.length+i-E.length=i by omega,dG (by simpa using bT),aK,hr];rfl
 ·match k,hk with
  |0,hk=>simpa[hy]using hk
end
section
open Go Go.RowKit
section
variable {P:Program} {N:Nat} {ds:List Deferred} {S:Nat->Prop} {w0:World} {L L':List (Nat×Value)} {H H' Hr:List bN} {Q:Exit->Act->World->Prop} {x y:Operand} {M:Act->World->Prop} {l:List Oper} {bE:Nat} {listed:Array Bool}
theorem rY{id n:Nat}[hl:Ff l n](Hr:List bN)(hm:P.follows .mixedOrders=true)(_hH:Hr.Sublist H)
  (h:G N ds S w0 L H (wpAnyH P .any l.toArray (dy (Q .normal)) (Wd S w0 Hr) n (Array.replicate n false))):G N ds S w0 L H (Code.wpIn (FW none) 0 P (Code.region id l.toArray true) Q):=λa w hS=>by
 refine wpIn_wide.2 (wp_region_any hm ?_);have h1:=wpAny_of_held _ _ _ _ (h a {w with drawn:=w.drawn+1} ⟨hS.fr,hS.wd.same rfl rfl rfl rfl⟩);rw[<-hl.eq]at h1;have key:∀(bE:Nat) (listed:Array Bool) (a:Act) (w:World),wpAny P .any l.toArray (dy (Q .normal)) bE listed a w->wpAny P .any l.toArray Q bE listed a w:=by
  intro bE
  induction bE with
  |zero=>exact λlisted a w h=>⟨h.1,h.2⟩
  |succ bE ih=>
   intro listed a w h;refine⟨λe=>h.1 e,λi hi=>?_⟩;have h2:=h.2 i hi;unfold wpOp at h2⊢
   split
   ·rename_i ho
    simp only[ho]at h2;exact ih _ _ _ h2
   ·rename_i o ho
    simp only[ho]at h2
    split
    ·rename_i hw
     rw[if_pos hw]at h2;rcases h2 with h3|⟨_,a',w',h3⟩
     ·left
      unfold Oper.wp at h3⊢
      revert h3
      generalize (execOp a.eval o).run P w=r;intro h3;cases r with
      |ok nx w1=>
       cases nx with
       |value v=>exact ih _ _ _ h3
       |skip=>exact ih _ _ _ h3
       |defer d=>exact ih _ _ _ h3
       |enter f args=>
        refine Calls.mono h3 λe w2 hh=>?_;cases e with
        |returned v=>exact ih _ _ _ hh
        |panicked c=>exact(hh:False).elim
        |outgrown=>exact(Exists.elim hh λ_ h=>Exists.elim h λ_ h=>(h:False).elim)
       |row r args=>exact Rows.mono h3 λv w2 hh=>ih _ _ _ hh
       |_=>exact h3
      |halt x w1=>cases x<;>exact(h3:False).elim
     ·exact(h3:False).elim
    ·rename_i hw
     rw[if_neg hw]at h2;exact ih _ _ _ h2
 have:=key _ _ _ _ h1;simpa using this
theorem az{d ty:Nat}(i:Nat){pos:String}{aft:Array Go.Edge}{op:Op}{v:Value}[ho:dm l i ⟨some d,op,ty,pos,aft,none⟩][h:dz P N ds S w0 L Hr op v](hd:dj d N L=true)
  (hr:((Region.noSelect l.toArray&&Region.free .any l.toArray listed i)&&(Region.ready .any l.toArray listed).contains i)=true) (hH:Hr.Sublist H)
  (k:G N ds S w0 ((d,v)::L) H (wpAnyH P .any l.toArray (dy M) (Wd S w0 Hr) bE (listed.setIfInBounds i true))):G N ds S w0 L H (wpAnyH P .any l.toArray (dy M) (Wd S w0 Hr) (bE+1) listed):=λa w hS=>by
 simp only[Bool.and_eq_true]at hr;exact wpAnyH_take (i:=i) (oi:=⟨some d,op,ty,pos,aft,none⟩) (v:=v) (by simpa using ho.at') hr.1.1 hr.1.2 hr.2 (λc a w hh=>hh) (.inl ⟨rfl,λw hw=>h.run _ _ _ _ _ a w hS.fr hw⟩) (hS.wd.sub hH) (k _ _ ⟨hS.fr.dP hd v,hS.wd⟩)
theorem j3{ty T b off k o j n c e s:Nat}(i:Nat)[h:OneCell P T]{xs Se:List Value}{v:Value}{pos:String}{aft:Array Go.Edge}[ho:dm l i ⟨none,.store T x y,ty,pos,aft,none⟩]
  [hx:Ev L x (.pointer (some ⟨b,off,none⟩))] [hy:Ev L y v] [h1:xF v] [hb:mT H b off k o j n c e s xs] [hu:lN xs j v Se] [hH:qi H k (ai (some ⟨b,o,none⟩) n c e s Se) H']
  (hr:decide (Region.ready .any l.toArray listed=[i])=true) (R7:(Region.ready .any l.toArray (listed.setIfInBounds i true)).isEmpty=true) (LP:Hr.Sublist H')
  (kk:G N ds S w0 L H' M):G N ds S w0 L H (wpAnyH P .any l.toArray (dy M) (Wd S w0 Hr) (bE+1) listed):=by
 intro a w hS;obtain⟨_,_,_,pre,sp,Em,_,IB⟩:=hS.wd.km hb.at';have e1:=hb.eq;subst e1;have bT:=hu.lt;have hc:=hS.wd.cK hb.at' (aB bT);have pF:=kW (P:=P) (T:=T) h1.one hc (by simp[World.frozen?,IB]);have dO:=hS.wd.JA v hb.at' bT;rw[hu.eq,hH.zG]at dO;refine wpAnyH_all (of_decide_eq_true hr) aH λi' yZ=>?_;simp only[bU]at yZ;subst yZ;unfold wpOp;rw[show l.toArray[i']?=some ⟨none,.store T x y,ty,pos,aft,none⟩ by simpa using ho.at'];simp only;have hwt:Region.wanted (⟨none,.store T x y,ty,pos,aft,none⟩:Oper) (yielded l.toArray a.tmps)=true:=rfl;rw[if_pos hwt]
 left
 unfold Oper.wp;rw[show(execOp a.eval ⟨none,.store T x y,ty,pos,aft,none⟩).run P w=.ok .skip (w.setCell ⟨b,o+j,none⟩ v) by simp[execOp,hx.eq _ _ _ hS.fr,hy.eq _ _ _ hS.fr,pF]];refine⟨dO.sub LP,wpAnyH_done (List.isEmpty_iff.1 R7) ?_ _⟩;exact kk _ _ ⟨hS.fr,dO⟩
end
end
section
open Go Go.RowKit
attribute [local irreducible] wpListIn Code.wpIn Exit.then Exit.inBlock bodyPost wpQuiet wpAnyIn
set_option maxHeartbeats 2000000
theorem DU{fs:List aZ}{f:aZ}(h:fX fs f=0):cL f.blocks:=by
 unfold fX at h
 split at h
 ·rename_i h1;exact absurd h h1
 ·rename_i h1
  have hz:=im (by simpa using h1);intro b hb;obtain⟨j,hj⟩:=br hb;have:=hz j (aC.1 hj).1;simp only[jr,hj]at this;exact JU this
theorem rU{u:a7}(h:(dr u).1=0):∀X∈u.funcs,fX u.funcs X=0:=by
 unfold dr at h
 split at h
 ·cases h
 ·split at h
  ·rename_i h2;exact absurd h h2
  ·split at h
   ·rename_i h2;exact absurd h h2
   ·split at h
    ·rename_i h2;exact absurd h h2
    ·rename_i h4
     have hz:=im (by simpa using h4);intro X hX;obtain⟨j,hj⟩:=br hX;have:=hz j (aC.1 hj).1;simpa only[jr,hj]using this
end
section
open Go Go.RowKit
open Classical in
noncomputable def AI(R:Nat->Nat->Prop)(n b c i:Nat):List Int:=((List.range (if i<b then n else if i=b then c else 0)).filter λd=>decide (R i d)).map λx:Nat=>(x:Int)
open Classical in
noncomputable def FZ(R:Nat->Nat->Prop)(n:Nat):List (List Int):=(List.range n).map λb=>((List.range n).filter λd=>decide (R b d)).map λx:Nat=>(x:Int)
theorem LN(R:Nat->Nat->Prop){n:Nat}(hn:n<=100)(b c i:Nat)(hc:c<=100):(AI R n b c i).length<=100/\∀x∈AI R n b c i,c9 x:=by
 classical
 have h1:(if i<b then n else if i=b then c else 0)<=100:=by split<;>(try split)<;>omega
 refine⟨?_,λx hx=>?_⟩
 ·rw[AI,aG]
  have:=ja (λd=>decide (R i d)) (List.range (if i<b then n else if i=b then c else 0));rw[fG]at this;omega
 ·rw[AI]at hx
  obtain⟨y,hy,rfl⟩:=aX.1 hx;have:=(cI.1 hy).1;have:y<_:=cQ.1 this;simp only[c9];omega
end
section
open Go Go.RowKit
attribute [local irreducible] wpListIn Code.wpIn Exit.then Exit.inBlock bodyPost wpQuiet wpAnyIn bodyPostM
set_option maxHeartbeats 4000000
theorem HQ(v:Value)(hv:∃a n c,v=.slice a n c)(w0:World):gV Tryz.prog 135 [v] w0 λu w'=>∃p:Nat,u=.func (.func 162) #[] #[.pointer (some ⟨p,0,none⟩)]/\Wd dh w0 [aj p [v] 42] w'/\True:=by
 obtain⟨a,n,c,rfl⟩:=hv;refine aQ Tryz.func135 rfl Tryz.ntmps135 rfl (Wd.nil dh w0) ?_
 repeat(first|refine aO ?_|refine dX λ_ _=>?_)
 exact cA rfl λw hw=>⟨_,rfl,hw,trivial⟩
theorem Lw{α:Type}{enc:α->Int×Int}{K:Nat->Prop}{w0 w:World}{Bs n c:Nat}{a:Option Addr}{zs:List Int}{xs:List α}(pG:aM w0 (.slice a n c) 1 zs fj)(hlen:zs.length<=100000)(hK:∀b,b<w0.heap.size->K b)(hKB:K Bs)(hw:lL dh w0 w)
  (hB:w.cell? ⟨Bs,0,none⟩=some (.slice a n c)) (mM:xs.map enc=qG zs zs.length):
  SeqStopsK (FW none) 4 Tryz.prog 162 #[.pointer (some ⟨Bs,0,none⟩)] (λx=>#[.int .i64 (enc x).1,.int .i64 (enc x).2]) (Aa K) (λys=>ys=xs) (λpre=>pre<+:xs) xs.length w:=by
 intro l J Jx W hW _ _ hY h0;have r8:xs.length=zs.length:=by have:=congrArg List.length mM;rwa[aG,u3]at this
 obtain⟨a',n',c',b,o,hv,hn,_,_,_,ha,iK⟩:=pG;simp only[Value.slice.injEq]at hv;obtain⟨rfl,rfl,rfl⟩:=hv;subst hn;have j4:∀j,j<zs.length->w0.cell? ⟨b,o+j,none⟩=some (.int .i64 (zs[j]?.getD 0)):=λj hj=>by
  obtain⟨cs,hc,rfl,_⟩:=iK j _ (aB hj);have:=hc 0 _ rfl;simpa[hj]using this
 refine Fm 4 ag enc l Bs b o c K zs xs mM hlen (λeH=>hK b ?_) hKB J Jx a (λeH=>ha eH) (λpre x W1 hJ hl=>hY pre x W1 hJ ag) W ((hW.cell (p:=⟨Bs,0,none⟩) (World.block_lt_of_cell? w _ hB)).trans hB) (λj hj=>?_) h0
 ·exact World.block_lt_of_cell? w0 _ (j4 0 (rR.2 eH))
 ·have h1:=fU hw (j4 j hj)
  exact(hW.cell (World.block_lt_of_cell? w _ h1)).trans h1
abbrev oC(n:Nat):Type:={p:Int×Nat//p.2<n}
def oC.enc{n:Nat}(x:oC n):Int×Int:=(x.1.1,(x.1.2:Int))
theorem Fk{n:Nat}:∀l:List (Int×Int),(∀p∈l,0<=p.2/\p.2<n)->∃xs:List (oC n),xs.map oC.enc=l
 |[],_=>⟨[],rfl⟩
 |p::l,h=>by
  obtain⟨xs,mM⟩:=Fk l λq hq=>h q (cJ _ hq);have hp:=h p aH;refine⟨⟨(p.1,p.2.toNat),by simp only;omega⟩::xs,?_⟩;rw[bO,mM];simp only[oC.enc];congr 1;rw[show((p.2.toNat:Nat):Int)=p.2 by omega]
theorem Ar(zs:List Int):(qG zs zs.length).map (·.2)=zs.reverse:=by
 apply cf;intro i;rw[qG,eS,aK]
 by_cases hi:i<zs.length
 ·rw[eQ hi,List.getElem?_reverse hi]
  have:zs.length-1-i<zs.length:=ag;simp[this]
 ·rw[bM (by rw[fG];omega),bM (by rw[tZ];omega)];rfl
theorem Ia{zs:List Int}{p:Int×Int}(h:p∈qG zs zs.length):p.2∈zs:=by
 have:p.2∈(qG zs zs.length).map (·.2):=aX.2 ⟨p,h,rfl⟩;rw[Ar]at this;simpa using this
def uT(n:Nat)(pl sb:Nat)(s:(List Bool×List Nat)×(Option Addr×Nat)):List bN:=
 [aj pl [.slice s.2.1 s.1.2.length s.2.2] 42,ai s.2.1 s.1.2.length s.2.2 3 1 (s.1.2.map ig),ai (some ⟨sb,0,none⟩) n n 4 1 (s.1.1.map .bool)]
def BY(nm pa re:Value)(ba:Option Addr)(n bc ps pf pv pl sb:Nat):List bN:=[aj ps [.slice (some ⟨sb,0,none⟩) n n] 144,aj pf [nm,pa,re,.slice ba n bc] 35,aj pv [.func (.func 134) #[] #[.pointer (some ⟨ps,0,none⟩),.pointer (some ⟨pf,0,none⟩),.pointer (some ⟨pv,0,none⟩),.pointer (some ⟨pl,0,none⟩)]] 175]
theorem UE(nm pa re:Value)(bl:List ar)(ba:Option Addr)(n bc ps pf pv pl sb:Nat)(wz:World)(mU:aM wz (.slice ba n bc) 6 bl ed)(hlen:bl.length<=100)(cW:cL bl):
  ∀(f b:Nat) (s:(List Bool×List Nat)×(Option Addr×Nat)),s.1.1.length=bl.length->s.1.1[b]?=some false->gu s.1.1<=f->s.1.2.length+gu s.1.1<=n->∀w,Wd dh wz (uT n pl sb s++BY nm pa re ba n bc ps pf pv pl sb) w->
  gV Tryz.prog 134 [.int .i64 b,.pointer (some ⟨ps,0,none⟩),.pointer (some ⟨pf,0,none⟩),.pointer (some ⟨pv,0,none⟩),.pointer (some ⟨pl,0,none⟩)] w λu w'=>∃z:Option Addr×Nat,u=.tuple #[]/\Wd (cF (uT n pl sb s++BY nm pa re ba n bc ps pf pv pl sb)) w (uT n pl sb (wh bl f b s.1,z)++BY nm pa re ba n bc ps pf pv pl sb) w'/\True:=by
 have IA:=mU;obtain⟨ba,n,bc,bb,xH,hv,hn,pE,E3,LY,xS,iK⟩:=mU;simp only[Value.slice.injEq]at hv;obtain⟨rfl,rfl,rfl⟩:=hv;intro f
 induction f with
 |zero=>intro b s _ hb hu;have:=pW hb;omega
 |succ f ih=>
  rintro b ⟨⟨seen,left⟩,la,lc⟩ hl hb hu hle w hw;simp only at hl hb hu hle;have hus:=nG hb;have pC:b<n:=by have:=(aC.1 hb).1;omega
  obtain⟨B,hB⟩:=dJ hn pC;have pY:bY ba bb xH:=⟨xS (aW hB)⟩;have mW:bZ b n:=⟨pC⟩;obtain⟨cs,fZ,pv',lv,tv,rfl,_,_,oE,mX,ht⟩:=iK b B hB;have Kt:=ht;obtain⟨ta,tn,tc,tb,yD,rfl,sN,Er,Ep,TC,wl,r6⟩:=ht;have oQ:a_ wz bb (xH+b*6) _:=⟨fZ⟩;have Is:=cW B (aA hB);have hea:oJ seen b false:=⟨hb⟩;have hz:=hw.cE;refine vW (w0:=wz) (S:=dh) Tryz.func134 rfl Tryz.ntmps134 rfl hw.tV ?_;generalize y7:bN.rest (tL wz.heap.size w (uT n pl sb ((seen,left),la,lc)++BY nm pa re ba n bc ps pf pv pl sb)) w=RS;simp only[uT,BY,a6,aT];refine aI ?_;refine cV (val:=λp:Nat=>.func (.func 162) #[] #[.pointer (some ⟨p,0,none⟩)]) (E:=λp=>[aj p [.slice ta tn tc] 42]) (φ:=λ_=>True) rfl (λw hw=>HQ _ ⟨_,_,_,rfl⟩ w) λBs _=>?_;simp only[a6,aT];refine aO ?_;obtain⟨xs,mM⟩:=Fk (n:=n) (qG B.to B.to.length) λp hp=>by have:=Is.2 p.2 (Ia hp);omega
  refine jp (L':=[(18,.func (.func 162) #[] #[.pointer (some ⟨Bs,0,none⟩)]),(0,.int .i64 b),(1,.pointer (some ⟨ps,0,none⟩)),(2,.pointer (some ⟨pf,0,none⟩)),(3,.pointer (some ⟨pv,0,none⟩)),(4,.pointer (some ⟨pl,0,none⟩))]) aw (.refl _) ?_;refine q7 [2,3,4,5,6,7,0,1] (by decide) ?_;have hvt:uT n pl sb ((seen.set b true,left),(la,lc))=[aj pl [.slice la left.length lc] 42,ai la left.length lc 3 1 (left.map ig),ai (some ⟨sb,0,none⟩) n n 4 1 ((seen.set b true).map .bool)]:=rfl;refine SR (α:=oC n) (gf:=162) (lb:=[.pointer (some ⟨Bs,0,none⟩)]) [aj ps [.slice (some ⟨sb,0,none⟩) n n] 144,aj pf [nm,pa,re,.slice ba n bc] 35,aj pv [.func (.func 134) #[] #[.pointer (some ⟨ps,0,none⟩),.pointer (some ⟨pf,0,none⟩),.pointer (some ⟨pv,0,none⟩),.pointer (some ⟨pl,0,none⟩)]] 175,aj Bs [.slice ta tn tc] 42,RS] (uT n pl sb) (λs=>⟨by intro e he;simp only[uT,bJ,iI,or_false]at he;rcases he with rfl|rfl|rfl<;>infer_instance⟩) xs (encs:=λx=>#[.int .i64 (oC.enc x).1,.int .i64 (oC.enc x).2]) (Bs:=Bs) (bcs:=[.slice ta tn tc]) (bt:=42) aH
   (λw hw=>Lw (enc:=oC.enc) Kt ag (λb hb=>.inl ⟨hb,λh=>h⟩) (.inr rfl) hw.cE (hw.gW Bs 0 _ rfl) mM)
   (λpre s=>s.1=(pre.map λx=>x.1.2).foldl (fT bl f) (seen.set b true,left)) ((seen.set b true,left),(la,lc)) rfl (.refl _) (λ_=>rfl)
   (λx=>[(20,.int .i64 (x.1.2:Int)),(19,.int .i64 x.1.1),(0,.int .i64 b),(1,.pointer (some ⟨ps,0,none⟩)),(2,.pointer (some ⟨pf,0,none⟩)),(3,.pointer (some ⟨pv,0,none⟩)),(4,.pointer (some ⟨pl,0,none⟩))]) (λx=>[(7,.int .i64 (x.1.2:Int)),(0,.int .i64 b),(1,.pointer (some ⟨ps,0,none⟩)),(2,.pointer (some ⟨pf,0,none⟩)),(3,.pointer (some ⟨pv,0,none⟩)),(4,.pointer (some ⟨pl,0,none⟩))]) (λx a h=>?_) (λl x s R=>?_) (λl pre x s R hI bT=>?_) λD s hD hI=>?_
  ·have h2:=((h.to (L':=[(0,.int .i64 b),(1,.pointer (some ⟨ps,0,none⟩)),(2,.pointer (some ⟨pf,0,none⟩)),(3,.pointer (some ⟨pv,0,none⟩)),(4,.pointer (some ⟨pl,0,none⟩))]) aw).dP (d:=19) rfl (.int .i64 x.1.1)).dP (d:=20) rfl (.int .i64 (x.1.2:Int))
   have e:(#[19,20].zip #[Value.int .i64 (oC.enc x).1,Value.int .i64 (oC.enc x).2]).foldl (λ(t:Array Value) (q:Tmp×Value)=>t.setIfInBounds q.1 q.2) a.tmps=(a.tmps.setIfInBounds 19 (.int .i64 x.1.1)).setIfInBounds 20 (.int .i64 (x.1.2:Int)):=by simp[oC.enc]
   refine⟨Eq.trans (congrArg Array.size e) h2.size,rfl,λp hp=>?_⟩;exact Eq.trans (congrArg (λt:Array Value=>t[p.1]?) e) (h2.slot p hp)
  ·refine aU ?_
   exact aV aw ag2
  ·obtain⟨⟨i0,t⟩,Ye⟩:=x
   obtain⟨⟨sn,lf⟩,la',lc'⟩:=s;simp only at hI Ye;have hg:=ii bl f (seen.set b true,left) (pre.map λx=>x.1.2);rw[<-hI]at hg;have pG:sn.length=n:=by have:=hg.1;simp at this;omega
   have hg3:=hg.2.2.1;have hg4:=hg.2.2.2;simp only at hg3 hg4;obtain⟨sv,mP⟩:∃sv,sn[t]?=some sv:=⟨_,aB ag⟩;have hes:oJ sn t sv:=⟨mP⟩;have Tm:bZ t n:=⟨Ye⟩;have qw:((pre++[(⟨(i0,t),Ye⟩:oC n)]).map λx:oC n=>x.1.2).foldl (fT bl f) (seen.set b true,left)=fT bl f (sn,lf) t:=by
    rw[bB,nJ,<-hI];rfl
   rw[qw];simp only[uT,a6,aT];cases sv
   ·have hv:fT bl f (sn,lf) t=wh bl f t (sn,lf):=by unfold fT;simp[mP]
    rw[hv];refine aO ?_;refine q7 [1,2,3,4,5,6,0,7,8] (by decide) ?_;refine fg (H1:=(uT n pl sb ((sn,lf),la',lc')++BY nm pa re ba n bc ps pf pv pl sb)++[R,aj Bs [.slice ta tn tc] 42,RS]) rfl ?_;refine AD (val:=λ_:Option Addr×Nat=>.tuple #[]) (E:=λz=>uT n pl sb (wh bl f t (sn,lf),z)++BY nm pa re ba n bc ps pf pv pl sb) (φ:=λ_=>True) (us:=[]) (vs:=[.int .i64 (t:Int)]) (xs:=[.pointer (some ⟨ps,0,none⟩),.pointer (some ⟨pf,0,none⟩),.pointer (some ⟨pv,0,none⟩),.pointer (some ⟨pl,0,none⟩)]) rfl
     (λw hw=>ih t ((sn,lf),la',lc') (by simp only;omega) mP (by simp only;omega) (by simp only;omega) w (hw.sub (dY _ _))) λz _=>?_
    simp only[uT,BY,a6,aT];refine aO ?_;refine q7 [6,0,1,2,3,4,5,7,8] (by decide) ?_;exact J3 (wh bl f t (sn,lf),z) rfl (.refl _)
   ·have hv:fT bl f (sn,lf) t=(sn,lf):=by unfold fT;simp[mP]
    rw[hv];refine aO ?_;exact J3 ((sn,lf),la',lc') rfl (.refl _)
  ·obtain⟨⟨sn,lf⟩,la',lc'⟩:=s
   simp only at hI;have oZ:(xs.map λx=>x.1.2)=(dd bl b).reverse.map Int.toNat:=by
    have h1:=congrArg (List.map (λp:Int×Int=>p.2.toNat)) mM;rw[eS]at h1;rw[show(xs.map λx=>x.1.2)=xs.map ((λp:Int×Int=>p.2.toNat)∘oC.enc)from fw λx _=>by simp[oC.enc],h1,fR hB,<-Ar,eS]
    rfl
   rw[oZ]at hI;have hd:wh bl (f+1) b (seen,left)=(sn,lf++[b]):=by rw[ls];simp only;rw[<-hI]
   have hg:=ii bl f (seen.set b true,left) ((dd bl b).reverse.map Int.toNat);rw[<-hI]at hg;have hg4:=hg.2.2.2;simp only at hg4;simp only[uT,a6,aT]
   repeat(first|refine aO ?_|refine dX λ_ _=>?_)
   refine mq rfl rfl ag ag λa' c'=>?_;rw[show lf.map ig++[.int .i64 (b:Int)]=(lf++[b]).map ig by simp[ig],show lf.length+1=(lf++[b]).length by simp];refine aI ?_;refine q7 [1,9,2,3,4,5,6,7] (by decide) ?_;refine J0 rfl hD λw' dO=>⟨(a',c'),rfl,?_,trivial⟩;simp only;rw[hd];rw[<-y7]at dO;exact UI hz dO
theorem FY(nm pa re:Value)(bl:List ar)(bs:Value)(w0:World)(mU:aM w0 bs 6 bl ed)(hlen:bl.length<=100)(cW:cL bl)(dS:0<bl.length):
  gV Tryz.prog 90 [.agg #[nm,pa,re,bs]] w0 λu w'=>∃x:Option Addr×Nat,u=.slice x.1 (gw bl).length x.2/\Wd dh w0 [ai x.1 (gw bl).length x.2 3 1 ((gw bl).map ig)] w'/\True:=by
 have IA:=mU;obtain⟨ba,n,bc,bb,xH,rfl,hn,pE,E3,LY,xS,iK⟩:=mU;refine aQ Tryz.func90 rfl Tryz.ntmps90 rfl (Wd.nil dh w0) ?_
 repeat(first|refine aI ?_|refine dX λ_ _=>?_)
 rename_i pf _ pl _ sb _ ps _ pv _;rw[show List.replicate n (Value.bool false)=(List.replicate n false).map Value.bool by simp];refine fq 3 1 ?_;refine q7 [4,0,3,2,5,1] (by decide) ?_;refine fg (H1:=(uT n pl sb ((List.replicate n false,[]),(none,0))++BY nm pa re ba n bc ps pf pv pl sb)++[]) rfl ?_;refine AD (val:=λ_:Option Addr×Nat=>.tuple #[]) (E:=λz=>uT n pl sb (wh bl n 0 (List.replicate n false,[]),z)++BY nm pa re ba n bc ps pf pv pl sb) (φ:=λ_=>True) (us:=[]) (vs:=[.int .i64 ((0:Nat):Int)]) (xs:=[.pointer (some ⟨ps,0,none⟩),.pointer (some ⟨pf,0,none⟩),.pointer (some ⟨pv,0,none⟩),.pointer (some ⟨pl,0,none⟩)]) rfl
  (λw hw=>UE nm pa re bl ba n bc ps pf pv pl sb w0 IA hlen cW n 0 ((List.replicate n false,[]),(none,0)) (by simpa using hn) (by simp only;rw[h_,if_pos ag]) (by simp only[nF];exact bH _) (by simp only[nF];simp) w (hw.sub (dY _ _))) λz _=>?_
 obtain⟨za,zc⟩:=z;have hp:(wh bl n 0 (List.replicate n false,[])).2=gw bl:=by unfold gw;rw[<-hn]
 generalize wh bl n 0 (List.replicate n false,[])=d at hp;obtain⟨d1,d2⟩:=d;simp only at hp;subst hp;simp only[uT,BY,a6,aT];refine aO ?_;exact cA rfl λw hw=>⟨(za,zc),rfl,hw.Zv [1] (by decide),trivial⟩
end
section
open Go Go.RowKit
attribute [local irreducible] wpListIn Code.wpIn Exit.then Exit.inBlock bodyPost wpQuiet wpAnyIn
set_option maxHeartbeats 2000000
theorem Ou{R:Nat->Nat->Prop}{n:Nat}(hn:n<=100){l:List Int}(h:l∈FZ R n):l.length<=1000/\∀x∈l,c9 x:=by
 classical
 obtain⟨b,hb,rfl⟩:=aX.1 h;have:=LN R hn b n b hn;simp only[AI,Nat.lt_irrefl,if_false,if_true]at this;exact⟨ag,this.2⟩
end
section
open Go Go.RowKit
attribute [local irreducible] wpListIn Code.wpIn Exit.then Exit.inBlock bodyPost wpQuiet wpAnyIn
set_option maxHeartbeats 4000000
theorem LC{u:a7}(h:(dr u).1=0){k:Nat}{X:aZ}(hX:u.funcs[k]?=some X):0<X.blocks.length:=by
 unfold dr at h
 split at h
 ·cases h
 ·split at h
  ·rename_i h2;exact absurd h h2
  ·split at h
   ·rename_i h2;exact absurd h h2
   ·rename_i h3
    have hz:=im (by simpa using h3);have:=hz k (aC.1 hX).1;simp only[k_,jr,hX,kU]at this;refine Classical.byContradiction λhn=>?_;have e:X.blocks.length=0:=ag;rw[e]at this;simp[within]at this
    split at this
    ·omega
    ·split at this
     ·omega
     ·split at this<;>omega
end
section
open Go Go.RowKit
section
variable {P:Program} {ro:Option Nat} {N:Nat} {ds:List Deferred} {S:Nat->Prop} {w0:World} {L L':List (Nat×Value)} {H H':List bN} {ops:Array Oper} {rest:List Oper} {Q:Exit->Act->World->Prop} {x y:Operand}
theorem mr{d ty T e s jZ:Nat}{zs:List Value}{pos:String}{aft:Array Go.Edge}[h:cB P T e s jZ zs](hd:dj d N L=true)
  (k:∀b,w0.heap.size<=b->G N ds S w0 ((d,.slice (some ⟨b,0,none⟩) 0 0)::L) (ai (some ⟨b,0,none⟩) 0 0 e s []::H) (wpListIn (FW ro) 0 P ops Q rest)):G N ds S w0 L H (wpListIn (FW ro) 0 P ops Q (⟨some d,.buildSlice T 0 #[],ty,pos,aft,none⟩::rest)):=by
 intro a w hS;obtain⟨i,zz,hi,_,_,_,_⟩:=h.get;refine eG (v:=.slice (some ⟨w.heap.size,0,none⟩) 0 0) (w':=w.alloc (.cells #[] e)) rfl (λ_ h=>by cases h) ?_ ?_
 ·have hr:(Instr.buildSlice T 0 #[]).run P w=.ok (.slice (some ⟨w.heap.size,0,none⟩) 0 0) (w.alloc (.cells #[] e)):=by
   simp[Instr.buildSlice,run_underlying h.oI,sizeOf,typeInfo,hi,Instr.fill,newRow];congr 2;exact Array.eq_empty_of_size_eq_zero aH
  simp[execOp,hr]
 ·exact k _ hS.wd.size _ _ ⟨hS.fr.dP hd _,hS.wd.we e s 0 [] aH (by simp[maxLen])⟩
theorem lD{α:Type}{l:List α}{k:Nat}{e:α}(h:l[k]?=some e):l.set k e=l:=by
 apply cf;intro i;rw[dQ]
 split
 ·rename_i hi;subst hi
  rw[if_pos (aC.1 h).1,h]
 ·rfl
end
attribute [local irreducible] wpListIn Code.wpIn Exit.then Exit.inBlock bodyPost wpQuiet wpAnyIn
set_option maxHeartbeats 4000000
instance(x:Nat):xF (ig x):=⟨rfl⟩
theorem Re{l l':List Nat}{i j:Nat}{x y:Nat}(hl:l'.length=l.length)(Pa:i<j)(hj:i+j+1=l.length)(h:∀k,k<l.length->l'[k]?=if k<i∨j<k then l[l.length-1-k]? else l[k]?)(hx:l'[i]?=some x)(hy:l'[j]?=some y):
  ∀k,k<l.length->((l'.set i y).set j x)[k]?=if k<i+1∨j-1<k then l[l.length-1-k]? else l[k]?:=by
 intro k hk;have hi:=h i ag;have hjj:=h j ag;rw[if_neg ag,hx]at hi;rw[if_neg ag,hy]at hjj;rw[dQ,dQ]
 by_cases e1:j=k
 ·subst e1
  rw[if_pos rfl,if_pos (by simp;omega),if_pos ag,show l.length-1-j=i by omega,hi]
 ·rw[if_neg e1]
  by_cases e2:i=k
  ·subst e2
   rw[if_pos rfl,if_pos ag,if_pos ag,show l.length-1-i=j by omega,hjj]
  ·rw[if_neg e2,h k hk]
   by_cases e3:k<i∨j<k
   ·rw[if_pos e3,if_pos ag]
   ·rw[if_neg e3,if_neg ag]
theorem Rc{l l':List Nat}{i:Nat}(hl:l'.length=l.length)(hi:l.length<=2*i+1)(h:∀k,k<l.length->l'[k]?=if k<i∨(l.length:Int)-1-i<k then l[l.length-1-k]? else l[k]?):l'=l.reverse:=by
 apply cf;intro k
 by_cases hk:k<l.length
 ·rw[h k hk,List.getElem?_reverse hk]
  by_cases e:k<i∨(l.length:Int)-1-i<k
  ·rw[if_pos e]
  ·rw[if_neg e,show l.length-1-k=k by omega]
 ·rw[bM ag,bM (by rw[tZ];omega)]
theorem M2(a:Option Addr)(c:Nat)(l:List Nat)(hlen:l.length<=100000)(w:World)(hw:Wd (cF [ai a l.length c 3 1 (l.map ig)]) w [ai a l.length c 3 1 (l.map ig)] w):
  gV Tryz.prog 155 [.slice a l.length c] w λu w'=>∃_:Unit,u=.tuple #[]/\Wd (cF [ai a l.length c 3 1 (l.map ig)]) w [ai a l.length c 3 1 (l.reverse.map ig)] w'/\True:=by
 refine aQ Tryz.func155 rfl Tryz.ntmps155 rfl hw ?_;generalize cF [ai a l.length c 3 1 (l.map ig)]=SS;refine aI ?_;refine bP (λ(x:Nat×Int×Option Addr×List Nat)=>x.2.1=(l.length:Int)-1-x.1/\x.1<=l.length/\x.2.2.2.length=l.length/\x.2.2.1=a/\∀k,k<l.length->x.2.2.2[k]?=if k<x.1∨(l.length:Int)-1-x.1<k then l[l.length-1-k]? else l[k]?) (λx=>[(2,.int .i64 x.1),(3,.int .i64 x.2.1),(0,.slice x.2.2.1 l.length c)])
  (λx=>[ai x.2.2.1 l.length c 3 1 (x.2.2.2.map ig)]) (λx=>l.length-x.1) (0,(l.length:Int)-1,a,l) ⟨by simp,aY _,rfl,rfl,λk hk=>by rw[if_neg (by simp only;omega)]⟩ (aV aw ag2) λx ⟨hj,hi,hl,ha,cP⟩=>?_
 obtain⟨i,j,a',l'⟩:=x;simp only at hj hi hl ha cP⊢;refine aU ?_;refine aN (λh1=>?_) (λh1=>?_)
 ·have bT:(i:Int)<j:=by simpa using h1
  obtain⟨jn,rfl⟩:∃jn:Nat,j=jn:=⟨j.toNat,ag⟩;refine eW 0 rfl ag λrb ro ND=>?_;obtain⟨x,hx⟩:∃x,l'[i]?=some x:=⟨_,aB ag⟩;obtain⟨y,hy⟩:∃y,l'[jn]?=some y:=⟨_,aB ag⟩;rw[ND];have mW:bZ i l.length:=⟨ag⟩;have IH:bZ jn l.length:=⟨ag⟩;have he1:oJ l' i x:=⟨hx⟩;have Xd:oJ l' jn y:=⟨hy⟩;have he3:oJ (l'.set i y) jn y:=⟨by rw[dQ,if_neg ag,hy]⟩;have he4:oJ (l'.set jn x) i x:=⟨by rw[dQ,if_neg ag,hx]⟩;refine aO ?_;refine wM [(2,.int .i64 i),(3,.int .i64 jn),(0,.slice (some ⟨rb,ro,none⟩) l.length c)] [ai (some ⟨rb,ro,none⟩) l.length c 3 1 (((l'.set i y).set jn x).map ig)] mixed ?_ ?_
  ·repeat' (first|refine fA 0 rfl aq ?_|refine fA 1 rfl aq ?_|refine fA 2 rfl aq ?_|refine fA 3 rfl aq ?_|refine fA 4 rfl aq ?_|refine fA 5 rfl aq ?_|refine fA 6 rfl aq ?_|refine fA 8 rfl aq ?_|refine fA 9 rfl aq ?_|refine fA 10 rfl aq ?_|refine fA 12 rfl aq ?_|refine fA 14 rfl aq ?_|refine AC aq ?_|refine AB aq ?_|refine any_nil|refine pt aq ?_|refine any_cons ?_ ?_|refine ms rfl ?_|refine k9 ?_|refine oD ?_|refine pB ?_)
   all_goals exact aV aw ag2
  ·refine aI ?_
   refine bC (i+1,(jn:Int)-1,some ⟨rb,ro,none⟩,(l'.set i y).set jn x) ⟨by simp only;omega,by simp only;omega,by simpa using hl,by rw[<-ND];exact ha,λk hk=>?_⟩ (by simp only;omega) aw ag2;have:=Re hl ag ag (λk hk=>by
    rw[cP k hk]
    by_cases e:k<i∨jn<k
    ·rw[if_pos e,if_pos ag]
    ·rw[if_neg e,if_neg ag]) hx hy k hk
   rw[this]
   by_cases e:k<i+1∨jn-1<k
   ·rw[if_pos e,if_pos (by simp only;omega)]
   ·rw[if_neg e,if_neg (by simp only;omega)]
 ·have gT:l'=l.reverse:=Rc hl (by simp at h1;omega) cP
  refine aI ?_;refine qH rfl λw' dO=>⟨(),rfl,?_,trivial⟩;rw[<-gT,<-ha];exact dO
end
section
open Go Go.RowKit
attribute [local irreducible] wpListIn Code.wpIn Exit.then Exit.inBlock bodyPost wpQuiet wpAnyIn
set_option maxHeartbeats 4000000
theorem yl(nm pa re:Value)(bl:List ar)(bs:Value)(Gb:∃a n c,bs=.slice a n c)(w0:World)(mU:aM w0 bs 6 bl ed)(hlen:bl.length<=100)(cW:cL bl)(dS:0<bl.length):
  gV Tryz.prog 107 [.agg #[nm,pa,re,bs]] w0 λu w'=>∃x:Option Addr×Nat,u=.slice x.1 (gw bl).length x.2/\Wd dh w0 [ai x.1 (gw bl).length x.2 3 1 ((gw bl).reverse.map ig)] w'/\True:=by
 obtain⟨ba,n,bc,rfl⟩:=Gb;have hl:=uz dS;refine aQ Tryz.func107 rfl Tryz.ntmps107 rfl (Wd.nil dh w0) ?_
 repeat(first|refine aU ?_|refine dX λ_ _=>?_)
 refine cV (val:=λx:Option Addr×Nat=>.slice x.1 (gw bl).length x.2) (E:=λx=>[ai x.1 (gw bl).length x.2 3 1 ((gw bl).map ig)]) (φ:=λ_=>True) rfl (λw hw=>FY _ _ _ bl _ w (mU.cu fh hw.cE) hlen cW dS) λx _=>?_;obtain⟨xa,xc⟩:=x;simp only;refine aU ?_;refine fH (val:=λ_:Unit=>.tuple #[]) (E:=λ_=>[ai xa (gw bl).length xc 3 1 ((gw bl).reverse.map ig)]) (φ:=λ_=>True) rfl (λw hw=>M2 xa xc (gw bl) ag w hw.pre) λ_ _=>?_;simp only[a6,aT];refine aO ?_;exact cA rfl λw hw=>⟨(xa,xc),rfl,hw.Zv [0] (by decide),trivial⟩
end
end Go.Proofs.YthfhgolkafpmnaaGreatDoor
