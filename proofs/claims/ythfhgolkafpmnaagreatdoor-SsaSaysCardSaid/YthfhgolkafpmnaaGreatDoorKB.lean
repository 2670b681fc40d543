/- Lemmas. -/
import Derived.Shelf.Slices.In.SortNone
import Derived.Shelf.Sort.Plain
import Derived.Test.YthfhgolkafpmnaaGreatDoorGM
namespace Go.Proofs.YthfhgolkafpmnaaGreatDoor
open Go.Value renaming int->J,slice->I,bool->ag,agg->aC
open Go.IntKind renaming i64->Z
open Option renaming some->O,none->U
open Go renaming Value->K,World->ae
open List renaming replicate->aI,range->bj
open Go.Proofs.Tryz
open Go.Proofs.Tryz renaming prog->Y
open Go Go.RowKit
variable {x:Int} {H:List cq} {bs fs l out:List Int} {bl:List aq} {ps:List Nat} {a b c e i k n p:Nat} {S dL p0:Nat->Prop} {w w0:ae}
section
set_option maxHeartbeats 8000000
attribute [local irreducible] wpListIn Code.wpIn Exit.then Exit.inBlock bodyPost wpQuiet wpAnyIn wpAnyH
noncomputable def zK(bl:List aq):List (List Int):=AU (λb a=>kU bl a b) bl.length
theorem El(hb:b<bl.length):(zK bl)[b]?=O ((jp bl b bl.length).map λx:Nat=>(x:Int)):=by
 unfold zK AU;rw[aW,gq hb]
 rfl
noncomputable def oW(bl:List aq)(a b i:Nat):List Int:=(jp bl i (if i<b then a+1 else a)).map λx:Nat=>(x:Int)
theorem Em(bl:List aq)(i a:Nat):jp bl i (a+1)=jp bl i a++(open Classical in if kU bl a i then[a]else[]):=by
 classical
 exact zj (p:=λc=>kU bl c i) a
theorem Ek:oW bl a (b+1) i=if i=b then oW bl a b b++(open Classical in if kU bl a b then[(a:Int)]else[])else oW bl a b i:=by
 classical
 unfold oW
 by_cases h:i=b
 ·subst h
  rw[al rfl,al A,ai A,Em,bz];congr 1
  by_cases hd:kU bl a i<;>simp[hd]
 ·rw[ai h]
  by_cases h2:i<b
  ·rw[al h2,al A]
  ·rw[ai h2,ai A]
theorem M0(hi:i<n):oW bl a n i=oW bl (a+1) 0 i:=by
 unfold oW;rw[al hi,ai A]
theorem M1(h:¬jg bl (-1) 0 a):oW bl (a+1) 0 i=oW bl a 0 i:=by
 unfold oW;rw[ai A,ai A,Em,ai λhd=>h hd.1,cj]
theorem J_(ha:a<=100):(oW bl a b i).length<=1000/\∀x∈oW bl a b i,dE x:=by
 classical
 have h1:(if i<b then a+1 else a)<=101:=by split<;>omega
 refine⟨?_,λx hx=>?_⟩
 ·rw[oW,aG,jp]
  have:=fC (λc=>decide (kU bl c i)) (bj (if i<b then a+1 else a));rw[d_]at this;omega
 ·rw[oW]at hx
  obtain⟨y,hy,rfl⟩:=aT.1 hx;have:=(sE.1 hy).1;simp only[dE];omega
theorem Fs(nm pa re:K)(bl:List aq)(bs:K)(qf:∃a n c,bs=I a n c)(w0:ae)(gV:aY w0 bs 6 bl da)(hlen:bl.length<=100)(dV:dK bl)(dW:0<bl.length):
  iL Y 84 [aC #[nm,pa,re,bs]] w0 λu w'=>∃x:Nat×(Nat->Prop),u=I (O ⟨x.1,0,U⟩) bl.length bl.length/\Wd db w0 [⟨x.2,λw=>aY w (I (O ⟨x.1,0,U⟩) bl.length bl.length) 1 (zK bl) dQ⟩] w'/\True:=by
 classical
 obtain⟨ba,n,bc,rfl⟩:=qf;have hn:n=bl.length:=gV.at.1;refine aR func84 rfl ntmps84 rfl (Wd.nil db w0) ?_
 repeat(first|refine bA ?_|refine dd λ_ _=>?_)
 rename_i p1 _ bo _;refine uX 3 1 n ?_;rw[show(aI n (I U 0 0))=(aI n (⟨U,0,[]⟩:Row)).map fi by simp[fi],show(aI n (G U 0 0 3 1 []))=(aI n (⟨U,0,[]⟩:Row)).map gP by simp[gP]];refine bG (H1:=cS p1 nm pa re ba n bc::G (O ⟨bo,0,U⟩) n n 42 1 ((aI n (⟨U,0,[]⟩:Row)).map fi)::(aI n (⟨U,0,[]⟩:Row)).map gP) (List.Perm.swap _ _ _) ?_;refine cN (val:=λx:ax×Nat×List Nat=>.slice x.1 x.2.2.length x.2.1) (cZ:=λx=>[G x.1 x.2.2.length x.2.1 3 1 (x.2.2.map dz)]) (φ:=λx=>JH bl (-1) 0 x.2.2) rfl (λw hw=>RO _ _ _ bl _ ⟨_,_,_,rfl⟩ w (gV.cB cu hw.c_) hlen dV dW) λx hx=>?_;obtain⟨xa,xc,l⟩:=x;simp only[bF,aS]at hx|-
 have SD:l.length<=bl.length:=o_ _ _ hx.1 hx.2.1;have EH:∀x:Nat,decide ((x:Int)∈l.map (λx:Nat=>(x:Int)))=decide (jg bl (-1) 0 x):=λx=>by rw[kq,rx,hx.2.2 x];simp
 refine aU ?_;refine bH (λ(x:Nat×List Row)=>x.1<=n/\x.2.length=n/\∀i r,x.2[i]?=O r->r.l=oW bl x.1 0 i) (λx=>[(5,J Z x.1),(3,I (O ⟨bo,0,U⟩) n n),(4,I xa l.length xc),M 1 p1])
  (λx=>G xa l.length xc 3 1 (l.map dz)::cS p1 nm pa re ba n bc::G (O ⟨bo,0,U⟩) n n 42 1 (x.2.map fi)::x.2.map gP) (λx=>n-x.1) (0,aI n ⟨U,0,[]⟩)
  ⟨aN _,by simp,λi r hr=>?_⟩ (aP V aF) λx ⟨hi,oG,ot⟩=>?_
 ·simp only[ku]at hr
  split at hr
  ·simp only[cF]at hr
   subst hr;simp[oW,jp]
  ·cases hr
 obtain⟨a,rs⟩:=x;simp only at hi oG ot|-
 refine bA ?_;apply aL<;>intro h1
 ·have ce:a<n:=aD h1
  refine aU ?_;refine bY rfl (λw hw=>u_ _ (l.map (λx:Nat=>(x:Int))) a w (mF hw (k:=0) rfl rfl A λy hy=>by have:=hx.2.1 y hy;omega)) ?_;rw[EH];generalize UA:decide (jg bl (-1) 0 a)=e1;cases e1
  ·have oL:¬jg bl (-1) 0 a:=aD UA
   refine aV ?_;refine a_ (a+1,rs) ⟨ce,oG,λi r hr=>?_⟩ bB V aF;rw[ot i r hr,M1 oL]
  have F1:jg bl (-1) 0 a:=aD UA;refine aU ?_;refine cN (val:=λx:ax×Nat×List Nat=>.slice x.1 x.2.2.length x.2.1) (cZ:=λx=>[G x.1 x.2.2.length x.2.1 3 1 (x.2.2.map dz)]) (φ:=λx=>JH bl a 0 x.2.2) rfl (λw hw=>HF _ _ _ bl _ 0 a w (gV.cB cu hw.c_) hlen dV dW) λy hy=>?_;obtain⟨ya,yc,lw⟩:=y;simp only[bF,aS]at hy|-
  have aki:lw.length<=bl.length:=o_ _ _ hy.1 hy.2.1;have aeU:∀x:Nat,decide ((x:Int)∈lw.map (λx:Nat=>(x:Int)))=decide ((0:Int)≠a/\jg bl a 0 x):=λx=>by rw[kq,rx,hy.2.2 x];rfl
  refine aU ?_;refine bH (λ(x:Nat×List Row)=>x.1<=n/\x.2.length=n/\∀i r,x.2[i]?=O r->r.l=oW bl a x.1 i) (λx=>[(7,J Z x.1),(6,I ya lw.length yc),(5,J Z a),(3,I (O ⟨bo,0,U⟩) n n),(4,I xa l.length xc),M 1 p1])
   (λx=>G ya lw.length yc 3 1 (lw.map dz)::G xa l.length xc 3 1 (l.map dz)::cS p1 nm pa re ba n bc::G (O ⟨bo,0,U⟩) n n 42 1 (x.2.map fi)::x.2.map gP) (λx=>n-x.1) (0,rs)
   ⟨aN _,oG,ot⟩ (aP V aF) λx ⟨hj,Be,pL⟩=>?_
  obtain⟨b,wx⟩:=x;simp only at hj Be pL|-
  refine bA ?_;apply aL<;>intro h2
  ·have Us:b<n:=aD h2
   refine aU ?_;refine bY rfl (λw hw=>u_ _ (l.map (λx:Nat=>(x:Int))) b w (mF hw (k:=1) rfl rfl A λy hy=>by have:=hx.2.1 y hy;omega)) ?_;rw[EH];generalize YL:decide (jg bl (-1) 0 b)=e2;have pass:¬kU bl a b->∀i r,wx[i]?=O r->r.l=oW bl a (b+1) i:=λhs i r hr=>by
    rw[Ek,ai hs,cj,pL i r hr]
    by_cases hib:i=b
    ·subst hib;simp
    ·simp[hib]
   have Iv:kU bl a b->∀r a' c',wx[b]?=O r->∀i q,(wx.set b ⟨a',c',r.l++[(a:Int)]⟩)[i]?=O q->q.l=oW bl a (b+1) i:=λhs r a' c' hr i q hq=>by
    have jX:=(aJ.1 hr).1;rw[Ek];simp only[fN]at hq
    by_cases hib:b=i
    ·subst hib
     simp only[if_true,jX,cF]at hq;subst hq;simp only[if_true,al hs];rw[pL b r hr]
    ·rw[ai hib]at hq
     rw[ai (Ne.symm hib)];exact pL i q hq
   obtain⟨r,hr⟩:=bE wx b A;have DU:=J_ (bl:=bl) (a:=a) (b:=b) (i:=b) A;rw[<-pL b r hr]at DU;have kK:cg b n:=⟨Us⟩;have NM:MG (wx.map fi) (b*1) (I r.a r.l.length r.c):=⟨by simp[hr,fi]⟩;have jX:b<wx.length:=A;cases e2
   ·have oL:¬jg bl (-1) 0 b:=aD YL
    refine cT ?_;exact a_ (b+1,wx) ⟨Us,Be,pass λh=>oL h.2.1⟩ bB V aF
   have afi:jg bl (-1) 0 b:=aD YL;refine aV ?_
   by_cases Nn:a=b
   ·rw[show decide ((a:Int)=(b:Int))=true by simp[Nn]]
    have hD:kU bl a b:=⟨F1,afi,.inl Nn⟩
    repeat(first|refine cT ?_|refine dd λ_ _=>?_)
    rename_i bt _;refine kh (b+5) (xs:=r.l.map (J Z)) (e:=3) (by simp[hr,gP]) rfl rfl A A λa' c'=>?_;refine fU (H1:=G (O ⟨bt,0,U⟩) 1 1 3 1 [J Z a]::G ya lw.length yc 3 1 (lw.map dz)::G xa l.length xc 3 1 (l.map dz)::cS p1 nm pa re ba n bc::G (O ⟨bo,0,U⟩) n n 42 1 (wx.map fi)::(wx.set b ⟨a',c',r.l++[(a:Int)]⟩).map gP) (by simp[gP]) ?_;have mT:lS (wx.map fi) (b*1) (I a' (r.l.length+1) c') ((wx.set b ⟨a',c',r.l++[(a:Int)]⟩).map fi):=⟨by simp[fi],aD jX⟩;refine aV ?_;exact a_ (b+1,wx.set b ⟨a',c',r.l++[(a:Int)]⟩) ⟨Us,aD Be,Iv hD r a' c' hr⟩ bB V aB
   ·rw[show decide ((a:Int)=(b:Int))=false by simp;omega]
    refine aV ?_;refine bY rfl (λw hw=>u_ _ (lw.map (λx:Nat=>(x:Int))) b w (mF hw (k:=0) rfl rfl A λy SL=>by have:=hy.2.1 y SL;omega)) ?_;rw[aeU];generalize he3:decide ((0:Int)≠a/\jg bl a 0 b)=e3;cases e3
    ·have hD:kU bl a b:=⟨F1,afi,by
      have h:¬((0:Int)≠a/\jg bl a 0 b):=aD he3
      by_cases Uk:a=0
      ·exact .inr (.inl Uk)
      ·exact .inr (.inr λhr=>h ⟨A,hr⟩)⟩
     repeat(first|refine aV ?_|refine dd λ_ _=>?_)
     rename_i bt _;refine kh (b+5) (xs:=r.l.map (J Z)) (e:=3) (by simp[hr,gP]) rfl rfl A A λa' c'=>?_;refine fU (H1:=G (O ⟨bt,0,U⟩) 1 1 3 1 [J Z a]::G ya lw.length yc 3 1 (lw.map dz)::G xa l.length xc 3 1 (l.map dz)::cS p1 nm pa re ba n bc::G (O ⟨bo,0,U⟩) n n 42 1 (wx.map fi)::(wx.set b ⟨a',c',r.l++[(a:Int)]⟩).map gP) (by simp[gP]) ?_;have mT:lS (wx.map fi) (b*1) (I a' (r.l.length+1) c') ((wx.set b ⟨a',c',r.l++[(a:Int)]⟩).map fi):=⟨by simp[fi],aD jX⟩;refine aV ?_;exact a_ (b+1,wx.set b ⟨a',c',r.l++[(a:Int)]⟩) ⟨Us,aD Be,Iv hD r a' c' hr⟩ bB V aB
    ·have hD:¬kU bl a b:=λhd=>by
      have h:(0:Int)≠a/\jg bl a 0 b:=aD he3;rcases hd.2.2 with e|e|e
      ·exact Nn e
      ·exact h.1 A
      ·exact e h.2
     refine aV ?_;exact a_ (b+1,wx) ⟨Us,Be,pass hD⟩ bB V aF
  ·have fX:b=n:=by have:=h2;simp at this;omega
   refine aV ?_;refine a_ (a+1,wx) ⟨ce,Be,λi q hq=>?_⟩ bB V aB;have:=(aJ.1 hq).1;rw[pL i q hq,fX,M0 (by simp only at this;omega)]
 ·have fX:a=n:=by have:=h1;simp at this;omega
  refine aV ?_;refine dh rfl λw hw=>⟨(bo,df (G (O ⟨bo,0,U⟩) n n 42 1 (rs.map fi)::rs.map gP)),by rw[hn],?_,trivial⟩;have kE:Wd db w0 ((G (O ⟨bo,0,U⟩) n n 42 1 (rs.map fi)::rs.map gP)++[]) w:=by rw[cj];exact hw.sub (.cons _ (.cons _ (.refl _)))
  refine kE.pack _ λw2 lP=>?_;have rB:rs.map (·.l)=zK bl:=by
   apply cY;intro i
   by_cases uB:i<n
   ·rw[aW,bL (by omega:i<rs.length),El A,b_,ot i _ (bL A),oW,ai A,fX,hn]
   ·rw[aW,cm A,cm (by unfold zK AU;rw[aG,d_];omega)]
    rfl
  rw[<-hn,<-rB];refine D0 (H:=[]) (by rw[cj];exact lP) oG.symm A λr hr=>?_;obtain⟨i,hi⟩:=bR hr;rw[ot i r hi];exact J_ A
def iQ(bl:List aq)(a b:Nat):Prop:=∃p,jg bl (-1) 0 p/\Edge bl p b/\kU bl a p/\(a=b\/¬kU bl a b)
noncomputable def ip(bl:List aq):List (List Int):=AU (iQ bl) bl.length
def Stop(bl:List aq)(b i:Nat):Prop:=∃c,lJ bl c b/\kU bl i c
theorem L6(dV:dK bl)(h0:0<bl.length)(hb:jg bl (-1) 0 b):¬Stop bl b i↔(i=b\/¬kU bl i b):=by
 by_cases wH:b=0
 ·subst wH
  refine⟨λ_=>?_,λ_ ⟨c,hc,_⟩=>hc.2.1 (uR hc.1)⟩
  by_cases h:kU bl i 0
  ·exact .inl (uR h)
  ·exact .inr h
 ·obtain⟨c,hc⟩:=Bl dV h0 hb wH
  have hs:Stop bl b i↔kU bl i c:=⟨λ⟨d,hd,h⟩=>by rw[hc.adr hd];exact h,λh=>⟨c,hc,h⟩⟩;rw[hs,hc.iff];constructor
  ·intro h
   by_cases e:i=b
   ·exact .inl e
   ·exact .inr λh'=>h'.elim h e
  ·rintro(e|h) hd
   ·subst e
    exact hc.2.1 (hc.1.antisymm hd)
   ·exact h (.inl hd)
def Mark(bl:List aq)(b:Nat)(ps:List Nat)(i:Nat):Prop:=∃p∈ps,jg bl (-1) 0 p/\kU bl i p/\¬Stop bl b i
theorem N6(dV:dK bl)(h0:0<bl.length)(hb:jg bl (-1) 0 b)(zT:∀p,p∈ps↔(p<bl.length/\Edge bl p b)):Mark bl b ps i↔iQ bl i b:=by
 constructor
 ·rintro⟨p,hp,hr,hd,hs⟩
  exact⟨p,hr,((zT p).1 hp).2,hd,(L6 dV h0 hb).1 hs⟩
 ·rintro⟨p,hr,he,hd,hs⟩
  exact⟨p,(zT p).2 ⟨dV.BG h0 hr,he⟩,hr,hd,(L6 dV h0 hb).2 hs⟩
def HS(bl:List aq)(i:Nat)(z:Int):Prop:=∃c:Nat,z=c/\kU bl i c
def Way(bl:List aq)(b:Nat)(ps:List Nat)(p:Nat)(z:Int)(i:Nat):Prop:=Mark bl b ps i\/(kU bl i p/\¬HS bl i z)
theorem Sq:Way bl b ps p p i↔Mark bl b ps i:=by
 refine⟨λh=>h.elim id λ⟨h1,h2⟩=>absurd ⟨p,rfl,h1⟩ h2,.inl⟩
theorem GP(dV:dK bl)(h0:0<bl.length)(ha:jg bl (-1) 0 a):kU bl i a↔(HS bl i (ed bl a)\/i=a):=by
 by_cases Uk:a=0
 ·subst Uk
  rw[jK λc hc=>hc.2.1 (uR hc.1)];refine⟨λh=>.inr (uR h),λh=>h.elim (λ⟨c,hc,_⟩=>A) λe=>by subst e;exact .refl ha⟩
 ·obtain⟨c,hc⟩:=Bl dV h0 ha Uk
  rw[lz hc,hc.iff];exact⟨λh=>h.imp (λh=>⟨c,rfl,h⟩) id,λh=>h.imp (λ⟨d,e,h⟩=>(show c=d by omega)▸h) id⟩
theorem Mi(dV:dK bl)(h0:0<bl.length)(AW:kU bl a p):Way bl b ps p (ed bl a) i↔(Way bl b ps p a i\/i=a):=by
 have hd:=GP dV h0 (a:=a) (i:=i) AW.1;have KU:¬HS bl a (ed bl a):=λ⟨c,hc,h⟩=>by
  by_cases hx:∃d,lJ bl d a
  ·obtain⟨d,hdd⟩:=hx
   rw[lz hdd]at hc;have:d=c:=A;subst this;exact hdd.2.1 (hdd.1.antisymm h)
  ·rw[jK λc hc=>hx ⟨c,hc⟩]at hc
   omega
 have hda:HS bl i (a:Int)↔kU bl i a:=⟨λ⟨c,e,h⟩=>(show a=c by omega)▸h,λh=>⟨a,rfl,h⟩⟩;unfold Way;rw[hda];constructor
 ·rintro(h|⟨h1,h2⟩)
  ·exact .inl (.inl h)
  ·by_cases e:i=a
   ·exact .inr e
   ·exact .inl (.inr ⟨h1,λh=>(hd.1 h).elim h2 e⟩)
 ·rintro((h|⟨h1,h2⟩)|e)
  ·exact .inl h
  ·exact .inr ⟨h1,λh=>h2 (hd.2 (.inl h))⟩
  ·subst e;exact .inr ⟨AW,KU⟩
theorem aab{z:Int}(hp:jg bl (-1) 0 p)(hH:∀c,lJ bl c b->HS bl c z)(hz:z<0\/z=ed bl b):Way bl b ps p z i↔Mark bl b (ps++[p]) i:=by
 have hs:HS bl i z↔Stop bl b i:=by
  by_cases hx:∃c,lJ bl c b
  ·obtain⟨c,hc⟩:=hx
   obtain⟨c',e',_⟩:=hH c hc;have e:z=c:=by
    rcases hz with h|h
    ·omega
    ·rw[h,lz hc]
   refine⟨λ⟨d,hd,h⟩=>⟨c,hc,?_⟩,λ⟨d,hd,h⟩=>⟨c,e,?_⟩⟩
   ·have:d=c:=A
    exact this▸h
   ·rw[hc.adr hd];exact h
  ·have e:z<0:=hz.elim id λh=>by rw[h,jK λc hc=>hx ⟨c,hc⟩];omega
   exact⟨λ⟨d,hd,_⟩=>A,λ⟨d,hd,_⟩=>absurd ⟨d,hd⟩ hx⟩
 unfold Way Mark;rw[hs];constructor
 ·rintro(⟨q,hq,h⟩|⟨h1,h2⟩)
  ·exact⟨q,cM _ hq,h⟩
  ·exact⟨p,by simp,hp,h1,h2⟩
 ·rintro⟨q,hq,hr,hd,hn⟩
  rcases bO.1 hq with hq|hq
  ·exact .inl ⟨q,hq,hr,hd,hn⟩
  ·rw[bQ.1 hq]at hd;exact .inr ⟨hd,hn⟩
theorem Rq(hp:¬jg bl (-1) 0 p):Mark bl b (ps++[p]) i↔Mark bl b ps i:=by
 unfold Mark;constructor
 ·rintro⟨q,hq,hr,h⟩
  rcases bO.1 hq with hq|hq
  ·exact⟨q,hq,hr,h⟩
  ·rw[bQ.1 hq]at hr;exact absurd hr hp
 ·rintro⟨q,hq,h⟩
  exact⟨q,cM _ hq,h⟩
theorem Xh(dV:dK bl)(h0:0<bl.length)(ha:jg bl (-1) 0 a)(hH:∀c,lJ bl c b->HS bl c (a:Int))(fZ:(a:Int)≠ed bl b):∀c,lJ bl c b->HS bl c (ed bl a):=by
 intro c hc;obtain⟨a',e,hd⟩:=hH c hc;have:a=a':=A;subst this;rcases(GP dV h0 ha).1 hd with h|h
 ·exact h
 ·subst h;exact absurd (lz hc).symm fZ
noncomputable def Mh(bl:List aq)(z:Int):Nat:=if z<0 then 0 else(jp bl z.toNat bl.length).length
theorem aaa(dV:dK bl)(h0:0<bl.length)(ha:jg bl (-1) 0 a):Mh bl (ed bl a)<Mh bl a:=by
 have h1:0<(jp bl a bl.length).length:=List.length_pos_of_mem (sE.2 ⟨dV.BG h0 ha,.refl ha⟩);have e1:Mh bl (a:Int)=(jp bl a bl.length).length:=by unfold Mh;rw[ai A];rfl
 rw[e1]
 by_cases hx:∃c,lJ bl c a
 ·obtain⟨c,hc⟩:=hx
  rw[lz hc];have e2:Mh bl (c:Int)=(jp bl c bl.length).length:=by unfold Mh;rw[ai A];rfl
  have:=vj dV h0 hc;omega
 ·rw[jK λc hc=>hx ⟨c,hc⟩]
  unfold Mh;rw[al A];exact h1
open Classical in
noncomputable def uT(bl:List aq)(b:Nat)(dL:Nat->Prop)(i:Nat):List Int:=(((bj b).filter λc=>decide (iQ bl i c)).map λx:Nat=>(x:Int))++if dL i then[(b:Int)]else[]
theorem lX{dO:Nat->Prop}(h:dL i↔dO i):uT bl b dL i=uT bl b dO i:=by
 classical
 unfold uT
 by_cases hv:dL i
 ·rw[al hv,al (h.1 hv)]
 ·rw[ai hv,ai λhw=>hv (h.2 hw)]
theorem GV:uT bl b (λi=>iQ bl i b) i=uT bl (b+1) (λ_=>False) i:=by
 classical
 unfold uT;simp only[if_false];rw[cj,zj (p:=λc=>iQ bl i c) b,bz];congr 1
 by_cases h:iQ bl i b<;>simp[h]
theorem TS:(b:Int)∈uT bl b dL i↔dL i:=by
 classical
 unfold uT;rw[bO];constructor
 ·rintro(h|h)
  ·obtain⟨x,hx,e⟩:=aT.1 h
   have:=cW.1 (cR.1 hx).1;omega
  ·by_cases hv:dL i
   ·exact hv
   ·rw[ai hv]at h;cases h
 ·intro h
  rw[al h];exact .inr cK
theorem Yh(hb:b<=100):(uT bl b dL i).length<=1000/\∀x∈uT bl b dL i,dE x:=by
 classical
 have h1:=fC (λc=>decide (iQ bl i c)) (bj b);rw[d_]at h1;unfold uT;refine⟨?_,λx hx=>?_⟩
 ·rw[bW,aG]
  have:(if dL i then[(b:Int)]else[]).length<=1:=by split<;>simp
  omega
 ·rcases bO.1 hx with h|h
  ·obtain⟨y,hy,rfl⟩:=aT.1 h
   have:=cW.1 (cR.1 hy).1;simp only[dE];omega
  ·by_cases hv:dL i
   ·rw[al hv]at h
    rw[bQ.1 h];simp only[dE];omega
   ·rw[ai hv]at h;cases h
theorem TR(h:¬dL i):uT bl b (λj=>dL j\/j=i) i=uT bl b dL i++[(b:Int)]:=by
 classical
 unfold uT;rw[al (.inr rfl),ai h,cj]
theorem NQ(v:K)(l:List Int)(x:Int)(w0:ae)(hv:aY w0 v 1 l gI):iL Y 112 [v,J Z x] w0 λu w'=>∃r:Int,u=J Z r/\Wd db w0 [] w'/\(0<=r↔x∈l):=by
 obtain⟨a,n,c,b,o,rfl,hn,qg,A_,hc,ha,iw⟩:=hv;refine aR func112 rfl ntmps112 rfl (Wd.nil db w0) ?_;refine aU ?_;refine bH (λ(i:Nat)=>i<=n/\∀j y,j<i->l[j]?=O y->y≠x) (λi=>[(8,J Z i),(6,I a n c),(7,J Z n),(0,I a n c),(1,J Z x)]) (λ_=>[]) (λi=>n-i) 0 ⟨aN _,λj y hj=>A⟩ (aP V kg) λi ⟨hi,cX⟩=>?_;refine bA ?_;apply aL<;>intro h1
 ·have ce:i<n:=aD h1
  obtain⟨t,ht⟩:=bE l i A;have mJ:cl a b o:=⟨ha (aZ ht)⟩;have kK:cg i n:=⟨ce⟩;obtain⟨cs,gW,rfl,_⟩:=iw i _ ht;have nO:bu w0 b (o+i*1) _:=⟨gW⟩;refine aU ?_;apply aL<;>intro h2
  ·have h5:x=t:=aD h2
   refine aV ?_;exact dh rfl λw hw=>⟨(i:Int),rfl,hw,⟨λ_=>by rw[h5];exact aA ht,λ_=>A⟩⟩
  ·have h5:x≠t:=aD h2
   refine aU ?_;refine a_ (i+1) ⟨ce,λj y hj hy=>?_⟩ A V cK
   by_cases e:j=i
   ·subst e
    rw[ht]at hy;exact λe=>h5 (by rw[<-e];exact bJ hy.symm)
   ·exact cX j y A hy
 ·have fX:i=n:=by have:=h1;simp at this;omega
  refine aV ?_;refine dh rfl λw hw=>⟨-1,rfl,hw,⟨λh=>A,λh=>?_⟩⟩;obtain⟨j,hj⟩:=bR h;exact absurd rfl (cX j x (by have:=(aJ.1 hj).1;omega) hj)
theorem Ei(v:K)(l:List Int)(x:Int)(w0:ae)(hv:aY w0 v 1 l gI)(hvs:∃a n c,v=I a n c):gF Y 141 [v,J Z x] w0 (ag (decide (x∈l))):=by
 obtain⟨a,n,c,rfl⟩:=hvs;refine aR func141 rfl ntmps141 rfl (Wd.nil db w0) ?_;refine bA ?_;refine cN (val:=λr:Int=>.int Z r) (cZ:=λ_=>[]) (φ:=λr=>0<=r↔x∈l) rfl (λw hw=>NQ _ l x w (hv.cB du hw.c_)) λr hr=>?_;simp only[aS];refine aU ?_;exact cv rfl (by rw[decide_eq_decide.2 hr])
def jh(l:List Int)(n:Nat):List Nat:=(bj n).filter λc=>decide ((c:Int)∈l)
theorem LX(v:K)(hvs:∃a n c,v=I a n c)(l:List Int)(n:Nat)(hn:n<=1000)(w0:ae)(hv:aY w0 v 1 l gI):iL Y 125 [v,J Z n] w0 λu w'=>∃x:ax×Nat,u=I x.1 (jh l n).length x.2/\Wd db w0 [G x.1 (jh l n).length x.2 3 1 ((jh l n).map dz)] w'/\True:=by
 obtain⟨va,vn,vc,rfl⟩:=hvs;refine aR func125 rfl ntmps125 rfl (Wd.nil db w0) ?_;refine aU ?_;refine dJ 3 1 ?_;refine bH (λ(x:Nat×ax×Nat×List Nat)=>x.1<=n/\x.2.2.2=jh l x.1) (λx=>[(6,J Z x.1),(5,I x.2.1 x.2.2.2.length x.2.2.1),(0,I va vn vc),(1,J Z n)]) (λx=>[G x.2.1 x.2.2.2.length x.2.2.1 3 1 (x.2.2.2.map dz)]) (λx=>n-x.1) (0,U,0,[]) ⟨aN _,rfl⟩ (aP V aF) λx ⟨hi,hL⟩=>?_;obtain⟨i,oa,oc,L⟩:=x;simp only at hi hL|-
 have hLl:L.length<=i:=by
  have:=fC (λc:Nat=>decide ((c:Int)∈l)) (bj i);rw[d_]at this;rw[hL];exact this
 have hs:jh l (i+1)=jh l i++if (i:Int)∈l then[i]else[]:=by
  unfold jh;rw[iV,mw];congr 1
  by_cases h:(i:Int)∈l<;>simp[h]
 refine bA ?_;apply aL<;>intro h1
 ·have ce:i<n:=aD h1
  refine aU ?_;refine bY rfl (λw hw=>u_ _ l i w (hv.cB du hw.c_)) ?_;generalize he:decide ((i:Int)∈l)=e;cases e
  ·have oL:¬(i:Int)∈l:=aD he
   refine aU ?_;exact a_ (i+1,oa,oc,L) ⟨ce,by simp only;rw[hs,ai oL,cj,hL]⟩ bB V aF
  ·have Gm:(i:Int)∈l:=aD he
   repeat(first|refine aU ?_|refine dd λ_ _=>?_)
   rename_i bt _;refine fB rfl rfl A A λa' c'=>?_;refine aU ?_;refine fU (H1:=G (O ⟨bt,0,U⟩) 1 1 3 1 [J Z i]::[G a' (L++[i]).length c' 3 1 ((L++[i]).map dz)]) (by simp[dz]) ?_;refine iC (L':=[(6,J Z ((i:Int)+1)),(5,I a' (L++[i]).length c'),(0,I va vn vc),(1,J Z n)]) ?_ (.refl _) ?_
   ·rw[show(L++[i]).length=L.length+1 by simp]
    exact V
   exact a_ (i+1,a',c',L++[i]) ⟨ce,by simp only;rw[hs,al Gm,hL]⟩ bB V aB
 ·have fX:i=n:=by have:=h1;simp at this;omega
  refine aV ?_;refine dh rfl λw hw=>⟨(oa,oc),?_,?_,trivial⟩
  ·rw[<-fX,<-hL]
  ·rw[<-fX,<-hL];exact hw
def Qo(bl:List aq)(a b:Nat)(x:Int):Prop:=∃c:Nat,x=c/\∃p,p<b/\kU bl a p/\Edge bl p c/\(c=a\/¬kU bl a c)
def FrJ(bl:List aq)(a b:Nat)(ts:List Int)(x:Int):Prop:=Qo bl a b x\/x∈ts/\∃c:Nat,x=c/\(c=a\/¬kU bl a c)
theorem Na(dV:dK bl)(h0:0<bl.length):Qo bl a bl.length (c:Int)↔iQ bl a c:=by
 constructor
 ·rintro⟨c',e,p,_,hd,he,hc⟩
  have:c=c':=A;subst this;exact⟨p,hd.2.1,he,hd,hc.imp Eq.symm id⟩
 ·rintro⟨p,hr,he,hd,hc⟩
  exact⟨c,rfl,p,dV.BG h0 hr,hd,he,hc.imp Eq.symm id⟩
theorem Yi(h:¬kU bl a b):Qo bl a (b+1) x↔Qo bl a b x:=by
 constructor
 ·rintro⟨c,e,p,hp,hd,h2⟩
  refine⟨c,e,p,od A λe=>?_,hd,h2⟩;subst e;exact h hd
 ·rintro⟨c,e,p,hp,h2⟩
  exact⟨c,e,p,A,h2⟩
theorem TT(h:kU bl a b):Qo bl a (b+1) x↔FrJ bl a b (dY bl b) x:=by
 constructor
 ·rintro⟨c,e,p,hp,hd,he,h2⟩
  by_cases hpb:p=b
  ·subst hpb
   subst e;exact .inr ⟨he,c,rfl,h2⟩
  ·exact .inl ⟨c,e,p,A,hd,he,h2⟩
 ·rintro(⟨c,e,p,hp,h2⟩|⟨hm,c,e,h2⟩)
  ·exact⟨c,e,p,A,h2⟩
  ·subst e
   exact⟨c,rfl,b,A,h,hm,h2⟩
theorem WU{sC:List K}{z v:K}:(sC++aI (k+1) z).set sC.length v=sC++[v]++aI k z:=by
 rw[kj _ _ (cz _),cV,List.replicate_succ,bI,fu];rfl
theorem On(nm pa re:K)(bl:List aq)(bs:K)(qf:∃a n c,bs=I a n c)(w0:ae)(gV:aY w0 bs 6 bl da)(hlen:bl.length<=100)(dV:dK bl)(dW:0<bl.length):
  iL Y 124 [aC #[nm,pa,re,bs]] w0 λu w'=>∃x:Nat×List Row,u=I (O ⟨x.1,0,U⟩) bl.length bl.length/\Wd db w0 (G (O ⟨x.1,0,U⟩) bl.length bl.length 42 1 (x.2.map fi)::x.2.map gP) w'/\x.2.map (·.l)=ip bl:=by
 classical
 obtain⟨ba,n,bc,rfl⟩:=qf;have hn:n=bl.length:=gV.at.1;refine aR func124 rfl ntmps124 rfl (Wd.nil db w0) ?_
 repeat(first|refine bA ?_|refine dd λ_ _=>?_)
 rename_i p1 _;refine cN (val:=λx:Nat×(Nat->Prop)=>.slice (O ⟨x.1,0,U⟩) n n) (cZ:=λx=>[⟨x.2,λw=>aY w (I (O ⟨x.1,0,U⟩) n n) 1 (zK bl) dQ⟩]) (φ:=λ_=>True) rfl (λw hw=>by
  have:=Fs nm pa re bl _ ⟨ba,n,bc,rfl⟩ w (gV.cB cu hw.c_) hlen dV dW;rw[<-hn]at this;exact this) λx _=>?_
 obtain⟨to,fp⟩:=x;simp only[bF,aS]
 repeat(first|refine aU ?_|refine dd λ_ _=>?_)
 rename_i bo _;let Tb:=[cS p1 nm pa re ba n bc];let Tc:=(G (O ⟨bo,0,U⟩) n n 42 1 (aI n (I U 0 0))::Tb);refine bG (H1:=Tc++[⟨fp,λw=>aY w (I (O ⟨to,0,U⟩) n n) 1 (zK bl) dQ⟩]) (List.Perm.cons _ (List.Perm.swap _ _ _)) ?_<;>(try unfold Tc)<;>(try unfold Tb);refine mA λw1 mS=>?_;have xC:aY (cC (df Tc) w1) (I (O ⟨to,0,U⟩) n n) 1 (zK bl) dQ:=mS.beside (e:=⟨fp,λw=>aY w (I (O ⟨to,0,U⟩) n n) 1 (zK bl) dQ⟩) cK;have IA:aY (cC (df Tc) w1) (I ba n bc) 6 bl da:=gV.cB cu mS.IV;have back:∀{cZ:List cq} {w:ae},Wd (df Tc) (cC (df Tc) w1) cZ w->Wd db w0 (cZ++[⟨fp,λw=>aY w (I (O ⟨to,0,U⟩) n n) 1 (zK bl) dQ⟩]) w:=λhw=>mS.comp hw.ni;have hkk:∀{cZ:List cq} {w:ae},Wd (df Tc) (cC (df Tc) w1) cZ w->∀p v,(cC (df Tc) w1).cell? p=O v->w.cell? p=O v:=λhw=>hw.ov;have hold:∀{b o:Nat} {v:K} {l:List K},ct (cC (df Tc) w1) b o (v::l)->iO (df Tc) b:=λhc=>iF hc cK;generalize cC (df Tc) w1=wk at*;generalize df Tc=SS at*;have row:∀b,b<n->∃(a:ax) (c:Nat),bu wk to (0+b*1) [I a (jp bl b n).length c]/\iO SS to/\aY wk (I a (jp bl b n).length c) 1 ((jp bl b n).map λx:Nat=>(x:Int)) gI:=by
  intro b hb;obtain⟨_,hc,v,rfl,hv⟩:=xC.known b _ (El A);have yC:=hv;obtain⟨ra,rn,rc,_,_,rfl,_⟩:=yC;have Av:=hv.at.1;rw[aG,<-hn]at Av;subst Av;rw[<-hn]at hv;exact⟨ra,rc,⟨hc⟩,hold hc,hv⟩
 have Aq:∀a b:Nat,decide ((a:Int)∈(jp bl b n).map λx:Nat=>(x:Int))=decide (kU bl a b):=λa b=>by
  rw[kq,rx,sE];exact⟨λh=>h.2,λh=>⟨by have:=dV.BG dW h.1;omega,h⟩⟩
 let Ta:=[(3,I (O ⟨to,0,U⟩) n n),(4,I (O ⟨bo,0,U⟩) n n),M 1 p1];refine bH (λ(x:List Row)=>x.length<=n/\∀i r,x[i]?=O r->r.l=((bj n).filter λc=>decide (iQ bl i c)).map λx:Nat=>(x:Int)) (λx=>(5,J Z x.length)::Ta)
  (λx=>G (O ⟨bo,0,U⟩) n n 42 1 (x.map fi++aI (n-x.length) (I U 0 0))::cS p1 nm pa re ba n bc::x.map gP) (λx=>n-x.length) [] ⟨aN _,by simp⟩ (aP V aF) λrs ⟨hi,ot⟩=>?_<;>try unfold Ta
 refine bA ?_;apply aL<;>intro h1
 ·have ce:rs.length<n:=aD h1
  generalize ha:rs.length=a at*;refine aU ?_;refine dJ 3 1 ?_;let Td:=G (O ⟨bo,0,U⟩) n n 42 1 (rs.map fi++aI (n-a) (I U 0 0))::cS p1 nm pa re ba n bc::rs.map gP;refine bH (λ(x:Nat×ax×Nat×List Int)=>x.1<=n/\x.2.2.2.length<=2*x.1/\(∀y∈x.2.2.2,dE y)/\∀y,y∈x.2.2.2↔Qo bl a x.1 y) (λx=>(7,J Z x.1)::(6,I x.2.1 x.2.2.2.length x.2.2.1)::(5,J Z a)::Ta)
   (λx=>aE x.2.1 x.2.2.2.length x.2.2.1 x.2.2.2::Td) (λx=>n-x.1) (0,U,0,[]) ⟨aN _,by simp,by simp,λy=>⟨λh=>by simp at h,λ⟨_,_,p,hp,_⟩=>by simp only at hp;omega⟩⟩ (aP V aF) λx ⟨hb,Du,KK,hl⟩=>?_<;>(try unfold Ta)<;>try unfold Td
  obtain⟨b,la,lc,l⟩:=x;simp only at hb Du KK hl|-
  refine bA ?_;apply aL<;>intro h2
  ·have qe:b<n:=aD h2
   have SD:cg b n:=⟨qe⟩;obtain⟨ra,rc,hcr,Y0,Y_⟩:=row b qe;refine aU ?_;refine bY rfl (λw hw=>u_ _ ((jp bl b n).map λx:Nat=>(x:Int)) a w (aY.mono (dL:=gI) (w:=wk) (w':=w) (λ_ _ h=>h) (hkk hw) Y_)) ?_;rw[Aq];generalize UA:decide (kU bl a b)=e1;cases e1
   ·have oL:¬kU bl a b:=aD UA
    refine aV ?_;exact a_ (b+1,la,lc,l) ⟨qe,by simp only;omega,KK,λy=>(hl y).trans (Yi oL).symm⟩ bB V aF
   have Gm:kU bl a b:=aD UA;obtain⟨B,hB⟩:=bE bl b A;obtain⟨_,_,_,bb,tL,qd,iw⟩:=IA.at;have ajs:cl ba bb tL:=⟨qd (aZ hB)⟩;obtain⟨csB,aey,pv,lv,tv,rfl,_,_,_,_,Zc⟩:=iw b B hB;have aiA:=Zc;obtain⟨ta,tn,tc,_,_,rfl,_⟩:=aiA;obtain⟨qZ,Dz,htm,tb,tob,Ax,tg⟩:=Zc.at;have ajI:bu wk bb (tL+b*6) _:=⟨aey⟩;have hoB:=hold aey;have hgB:=dV B (aA hB);have afC:=fI hB;refine aU ?_;refine bH (λ(x:Nat×ax×Nat×List Int)=>x.1<=tn/\x.2.2.2.length<=2*b+x.1/\(∀y∈x.2.2.2,dE y)/\∀y,y∈x.2.2.2↔FrJ bl a b (B.to.take x.1) y) (λx=>(9,J Z x.1)::(6,I x.2.1 x.2.2.2.length x.2.2.1)::(8,I ta tn tc)::(7,J Z b)::(5,J Z a)::Ta)
    (λx=>aE x.2.1 x.2.2.2.length x.2.2.1 x.2.2.2::Td) (λx=>tn-x.1) (0,la,lc,l) ⟨aN _,aD Du,KK,λy=>(hl y).trans ⟨.inl,λh=>h.elim id λh=>by simp at h⟩⟩ (aP V aF) λx ⟨hj,ahC,Pj,gk⟩=>?_<;>(try unfold Ta)<;>try unfold Td
   obtain⟨j,la1,lc1,l1⟩:=x;simp only at hj ahC Pj gk|-
   refine bA ?_;apply aL<;>intro h3
   ·have iS:j<tn:=aD h3
    obtain⟨y,hy⟩:=bE B.to j A;have K1:=hgB.2 y (aA hy);obtain⟨c,rfl⟩:∃c:Nat,y=c:=⟨y.toNat,A⟩;have xC:B.to.take (j+1)=B.to.take j++[(c:Int)]:=by rw[bV,hy];rfl
    have ajt:cl ta tb tob:=⟨Ax (aZ hy)⟩;have akb:cg j tn:=⟨iS⟩;obtain⟨_,hcT,rfl,_⟩:=tg j _ hy;have aet:bu wk tb (tob+j*1) _:=⟨hcT⟩;have hoT:=hold hcT;have hlc:cg c n:=⟨A⟩;obtain⟨ra2,rc2,agY,_,ais⟩:=row c A;refine aU ?_;refine jS 65 (ag (decide (c=a\/¬kU bl a c))) ?_ ?_
    ·by_cases Sz:c=a
     ·rw[show decide (((c:Nat):Int)=(a:Int))=true by simp[Sz],show decide (c=a\/¬kU bl a c)=true by simp[Sz]]
      refine cT ?_;exact aP V aF
     ·rw[show decide (((c:Nat):Int)=(a:Int))=false by simp;omega]
      refine aV ?_;refine bY rfl (λw hw=>u_ _ ((jp bl c n).map λx:Nat=>(x:Int)) a w (aY.mono (dL:=gI) (w:=wk) (w':=w) (λ_ _ h=>h) (hkk hw) ais)) ?_;rw[Aq,show decide (c=a\/¬kU bl a c)= !decide (kU bl a c) by simp[Sz]];refine aV ?_;exact aP V aF
    generalize YL:decide (c=a\/¬kU bl a c)=e2;cases e2
    ·have oL:¬(c=a\/¬kU bl a c):=aD YL
     refine aU ?_;refine a_ (j+1,la1,lc1,l1) ⟨iS,by simp only;omega,Pj,λy=>(gk y).trans ?_⟩ bB V aF;simp only;rw[xC];refine⟨λh=>h.imp id λ⟨h1,h2⟩=>⟨cM _ h1,h2⟩,λh=>h.imp id λ⟨h1,h2⟩=>?_⟩;rcases bO.1 h1 with h1|h1
     ·exact⟨h1,h2⟩
     ·obtain⟨c',e',h2⟩:=h2
      rw[bQ.1 h1]at e';have:c=c':=A;subst this;exact absurd h2 oL
    ·have afM:c=a\/¬kU bl a c:=aD YL
     repeat(first|refine aU ?_|refine dd λ_ _=>?_)
     rename_i bt _;refine fB rfl rfl A A λa' c'=>?_;refine aU ?_;refine fU (H1:=G (O ⟨bt,0,U⟩) 1 1 3 1 [J Z c]::aE a' (l1++[(c:Int)]).length c' (l1++[(c:Int)])::G (O ⟨bo,0,U⟩) n n 42 1 (rs.map fi++aI (n-a) (I U 0 0))::cS p1 nm pa re ba n bc::rs.map gP) cK ?_;refine iC (L':=((9,J Z ((j:Int)+1))::(6,I a' (l1++[(c:Int)]).length c')::(8,I ta tn tc)::(7,J Z b)::(5,J Z a)::Ta)) ?_ (.refl _) ?_<;>try unfold Ta
     ·rw[show(l1++[(c:Int)]).length=l1.length+1 by simp]
      exact V
     refine a_ (j+1,a',c',l1++[(c:Int)]) ⟨iS,by simp only[bW,lm];omega,λy hy=>?_,λy=>?_⟩ bB V aB
     ·rcases bO.1 hy with hy|hy
      ·exact Pj y hy
      ·rw[bQ.1 hy];simp only[dE];omega
     ·simp only
      rw[xC,bO,gk y,bQ];constructor
      ·rintro((h|⟨h1,h2⟩)|e)
       ·exact .inl h
       ·exact .inr ⟨cM _ h1,h2⟩
       ·exact .inr ⟨by simp[e],c,e,afM⟩
      ·rintro(h|⟨h1,h2⟩)
       ·exact .inl (.inl h)
       ·rcases bO.1 h1 with h1|h1
        ·exact .inl (.inr ⟨h1,h2⟩)
        ·exact .inr (bQ.1 h1)
   ·have hjt:j=tn:=by have:=h3;simp at this;omega
    refine aV ?_;refine a_ (b+1,la1,lc1,l1) ⟨qe,by simp only;have:=hgB.1;omega,Pj,λy=>?_⟩ bB V aF;rw[gk y,hjt,qZ,cL,TT Gm,afC]
  ·have fX:b=n:=by have:=h2;simp at this;omega
   have Dr:jh l n=(bj n).filter λc=>decide (iQ bl a c):=by
    unfold jh;refine lV λc _=>?_;rw[kq,hl,fX,hn,Na dV dW]
   have pt:(jh l n).length<=n:=by
    have:=fC (λc:Nat=>decide ((c:Int)∈l)) (bj n);rw[d_]at this;exact this
   have IJ:cg a n:=⟨ce⟩;refine aV ?_;refine cN (val:=λx:ax×Nat=>.slice x.1 (jh l n).length x.2) (cZ:=λx=>[G x.1 (jh l n).length x.2 3 1 ((jh l n).map dz)]) (φ:=λ_=>True) rfl (λw hw=>LX _ ⟨_,_,_,rfl⟩ l n A w (hw.nf (k:=0) rfl rfl A λi x hx=>⟨[J Z x],λq v hq=>?_,rfl,KK x (aA hx)⟩)) λx _=>?_
   ·match q,hq with
    |0,hq=>simpa[hx]using hq
   obtain⟨sa,sc⟩:=x;simp only[bF,aS];have mT:lS (rs.map fi++aI (n-a) (I U 0 0)) (a*1) (I sa (jh l n).length sc) ((rs++[(⟨sa,sc,(jh l n).map λx:Nat=>(x:Int)⟩:Row)]).map fi++aI (n-(a+1)) (I U 0 0)):=⟨by
     rw[km,show n-a=(n-(a+1))+1 by omega,show a=(rs.map fi).length by simp[ha],WU];simp[fi],by simp;omega⟩
   refine aV ?_;refine iC (L':=((5,J Z ((a:Int)+1))::Ta)) V (dN (.cons _ (.refl _))) ?_<;>(try unfold Ta);refine bG (fG (l₁:=[G sa (jh l n).length sc 3 1 ((jh l n).map dz)])) ?_;refine fU (H1:=G (O ⟨bo,0,U⟩) n n 42 1 ((rs++[(⟨sa,sc,(jh l n).map λx:Nat=>(x:Int)⟩:Row)]).map fi++aI (n-(rs++[(⟨sa,sc,(jh l n).map λx:Nat=>(x:Int)⟩:Row)]).length) (I U 0 0))::cS p1 nm pa re ba n bc::(rs++[(⟨sa,sc,(jh l n).map λx:Nat=>(x:Int)⟩:Row)]).map gP) ?_ ?_
   ·simp only[bF,bz,cf,dm,bW,lm,ha,gP,aG,Bo]
   refine iC (L':=((5,J Z ((rs++[(⟨sa,sc,(jh l n).map λx:Nat=>(x:Int)⟩:Row)]).length:Nat))::Ta)) ?_ (.refl _) ?_<;>try unfold Ta
   ·rw[show(rs++[(⟨sa,sc,(jh l n).map λx:Nat=>(x:Int)⟩:Row)]).length=a+1 by simp[ha]]
    exact V
   refine a_ (rs++[(⟨sa,sc,(jh l n).map λx:Nat=>(x:Int)⟩:Row)]) ⟨by rw[bW,lm];omega,λi r hr=>?_⟩ (by rw[bW,lm];omega) V aF
   by_cases UL:i<a
   ·rw[eX A]at hr
    exact ot i r hr
   ·have:=(aJ.1 hr).1
    rw[bW,lm]at this;have ahi:i=a:=A;subst ahi;rw[dH A,ha,cV]at hr;simp only[jN,cF]at hr;subst hr;simp only;rw[Dr]
 ·have fX:rs.length=n:=by have:=h1;simp at this;omega
  refine aV ?_;refine dh rfl λw hw=>⟨(bo,rs),by rw[hn],?_,?_⟩
  ·have:=back hw
   rw[fX,cV,List.replicate_zero,cj]at this;simp only;rw[<-hn];exact this.sub ((dN (.cons _ (.refl _))).trans (fe _ _))
  ·show rs.map (·.l)=ip bl
   apply cY;intro i;unfold ip AU;rw[<-hn]
   by_cases uB:i<n
   ·rw[aW,aW,bL (by omega:i<rs.length),gq A,b_,b_,ot i _ (bL A)]
   ·rw[aW,cm A,cm (by rw[aG,d_];omega)]
    rfl
theorem aiT{l:List Nat}{up:List Int}(h:Inv bl l up k){a:ax}(hw:Wd S w0 (aE a n c up::H) w)(hn:n=up.length)(hb:n<=1000)(hl:∀x∈l,x<1000):aY w (I a n c) 1 up gI:=by
 refine hw.nf (k:=0) rfl hn A λi x hx=>⟨[J Z x],λj v hj=>?_,rfl,?_⟩
 ·match j,hj with
  |0,hj=>simpa[hx]using hj
 ·rcases h.neg i x hx with e|e
  ·rw[e];simp[dE]
  ·have:=hl _ (h.val i x.toNat (by rw[hx];congr 1;omega)).2.1
   simp only[dE];omega
theorem Mc(nm pa re:K)(bl:List aq)(bs:K)(qf:∃a n c,bs=I a n c)(w0:ae)(gV:aY w0 bs 6 bl da)(hlen:bl.length<=100)(dV:dK bl)(lG:∀(b:Nat) (B:aq),bl[b]?=O B->B.to.Nodup)(dW:0<bl.length):
  iL Y 66 [aC #[nm,pa,re,bs]] w0 λu w'=>∃a:Nat,u=I (O ⟨a,0,U⟩) bl.length bl.length/\Wd db w0 [aE (O ⟨a,0,U⟩) bl.length bl.length ((bj bl.length).map (ed bl))] w'/\True:=by
 obtain⟨ba,n,bc,rfl⟩:=qf;have hn:n=bl.length:=by obtain⟨_,_,_,_,_,e,h,_⟩:=gV;simp only[Value.slice.injEq]at e;omega
 have ho:=wq dV dW;have EJ:(cQ bl).length=(ek bl).length:=by unfold cQ;rw[ny]
 have yT:=pg dW;refine aR func66 rfl ntmps66 rfl (Wd.nil db w0) ?_
 repeat(first|refine bA ?_|refine dd λ_ _=>?_)
 rename_i p1 _;refine cN (val:=λx:ax×Nat=>.slice x.1 (ek bl).length x.2) (cZ:=λx=>[G x.1 (ek bl).length x.2 3 1 ((cQ bl).map dz)]) (φ:=λ_=>True) rfl (λw hw=>CJ _ _ _ bl _ ⟨_,_,_,rfl⟩ w (gV.cB cu hw.c_) hlen dV dW) λx _=>?_;obtain⟨xa,xc⟩:=x;have wO:0<(cQ bl).length:=by
  cases h:cQ bl with
  |nil=>have:=ho.zero;rw[h]at this;cases this
  |cons=>simp
 have ce:∀x∈cQ bl,x<bl.length:=λx hx=>dV.BG dW ((ho.mem x).1 hx);rw[<-EJ];generalize hl:cQ bl=l at*;generalize hm:l.length=m at*;simp only[bF,aS]
 repeat(first|refine bA ?_|refine dd λ_ _=>?_)
 rename_i ta _ e1 _;refine cN (val:=λa:Nat=>.slice (O ⟨a,0,U⟩) n n) (cZ:=λa=>[G (O ⟨a,0,U⟩) n n 3 1 (aI n (J Z (-1)))]) (φ:=λ_=>True) rfl (λw hw=>Fv e1 0 n (-1) w (hw.dp (k:=0) (o:=0) (j:=0) rfl rfl) A A) λua _=>?_;simp only[bF,aS];rw[show aI n (J Z (-1))=(aI n (-1:Int)).map (J Z) by simp,show aI n (J Z 0)=(aI n (0:Nat)).map dz by simp[dz]];refine fy 3 rfl A λob oo NM=>?_;subst NM;refine DO 3 rfl λ_ Xy abL=>?_;refine aU ?_;let Ta:=[(3,I (O ⟨ob,oo,U⟩) m xc),(4,I (O ⟨ta,0,U⟩) n n),(5,I (O ⟨ua,0,U⟩) n n),M 1 p1];refine bH (λ(x:Nat×List Nat)=>x.1<=m/\x.2.length=n/\(∀j b:Nat,j<x.1->l[j]?=O b->x.2[b]?=O j)/\∀y∈x.2,y<=100000) (λx=>(28,J Z x.1)::(27,J Z m)::(26,I (O ⟨ob,oo,U⟩) m xc)::Ta)
  (λx=>[aE (O ⟨ua,0,U⟩) n n (aI n (-1:Int)),G (O ⟨e1,0,U⟩) 1 1 3 1 [J Z (-1)],G (O ⟨ta,0,U⟩) n n 3 1 (x.2.map dz),G (O ⟨ob,oo,U⟩) m xc 3 1 (l.map dz),cS p1 nm pa re ba n bc]) (λx=>m-x.1) (0,aI n 0) ⟨aN _,by simp,λj b hj=>by simp only at hj;omega,λy hy=>by rw[oC hy];omega⟩ (aP V aF) λx ⟨hi,pw,cX,uF⟩=>?_<;>try unfold Ta
 obtain⟨i,xs⟩:=x;simp only at hi pw cX uF|-
 refine bA ?_;apply aL<;>intro h1
 ·have iM:i<m:=aD h1
  obtain⟨b,hb⟩:=bE l i A;have qe:b<n:=by rw[hn];exact ce b (aA hb)
  have kK:cg i m:=⟨iM⟩;have YM:uk l i b:=⟨hb⟩;have SD:cg b n:=⟨qe⟩;have NM:MG (l.map dz) (i*1) (J Z b):=⟨by simp[hb,dz]⟩;have mT:lS (xs.map dz) (b*1) (J Z (i:Int)) ((xs.set b i).map dz):=⟨by simp[dz],by simp;omega⟩;refine aV ?_;refine a_ (i+1,xs.set b i) ⟨iM,aD pw,λj c hj hc=>?_,λy hy=>by
   rcases j_ hy with h|h
   ·exact uF y h
   ·rw[h];omega⟩ bB V (.refl _)
  rw[fN]
  by_cases e:b=c
  ·subst e
   rw[al rfl,al A];congr 1;have h1:=Al ho.nodup hb;rw[Al ho.nodup hc]at h1;omega
  ·rw[ai e]
   refine cX j c ?_ hc;have:j≠i:=λe'=>by subst e';rw[hb]at hc;exact e (bJ hc)
   simp only at hj;omega
 have Jv:i=m:=by have:=h1;simp at this;omega
 clear hi h1;rw[Jv]at cX;have pZ:∀b∈l,(xs.map (λx:Nat=>(x:Int)))[b]?=O ((rk l b:Nat):Int):=by
  intro b hb;have h1:=Nh hb;have h2:rk l b<l.length:=yg.2 hb;rw[aW,cX (rk l b) b A h1];rfl
 have II:cg 0 n:=⟨A⟩;have EU:lS ((aI n (-1:Int)).map (J Z)) (0*1) (J Z 0) (((aI n (-1:Int)).set 0 0).map (J Z)):=⟨by simp[],by simp;omega⟩;have hI0:=Rc dW ho;rw[<-hn]at hI0;generalize (aI n (-1:Int)).set 0 0=OJ at hI0 EU;refine aV ?_;refine cN (val:=λx:(ax×Nat×Nat)×(Nat->Prop)=>.slice x.1.1 x.1.2.1 x.1.2.2) (cZ:=λx=>[⟨x.2,λw=>aY w (I x.1.1 x.1.2.1 x.1.2.2) 1 (ci bl) dQ⟩]) (φ:=λ_=>True) rfl (λw hw=>jq _ _ _ bl _ w (gV.cB cu hw.c_) hlen dV) λx _=>?_;obtain⟨⟨aa,an,ac⟩,fp⟩:=x;simp only[bF,aS];refine aU ?_;refine iC (L':=((9,ag true)::(8,I aa an ac)::Ta)) V (.refl _) ?_<;>(try unfold Ta);let Tb:=[G (O ⟨e1,0,U⟩) 1 1 3 1 [J Z (-1)],G (O ⟨ta,0,U⟩) n n 3 1 (xs.map dz),G (O ⟨ob,oo,U⟩) m xc 3 1 (l.map dz),cS p1 nm pa re ba n bc];refine bG (H1:=[aE (O ⟨ua,0,U⟩) n n OJ]++(⟨fp,λw=>aY w (I aa an ac) 1 (ci bl) dQ⟩::Tb)) (List.Perm.swap _ _ _) ?_<;>(try unfold Tb);refine mA λw1 mS=>?_;have IA:aY (cC (df [aE (O ⟨ua,0,U⟩) n n OJ]) w1) (I ba n bc) 6 bl da:=gV.cB cu mS.IV;have U1:aY (cC (df [aE (O ⟨ua,0,U⟩) n n OJ]) w1) (I (O ⟨ob,oo,U⟩) m xc) 1 (l.map (λx:Nat=>(x:Int))) gI:=mF mS.kw (k:=3) rfl hm.symm A λx hx=>by have:=ce x hx;omega
 have abE:aY (cC (df [aE (O ⟨ua,0,U⟩) n n OJ]) w1) (I (O ⟨ta,0,U⟩) n n) 1 (xs.map (λx:Nat=>(x:Int))) gI:=mF mS.kw (k:=2) rfl pw.symm A uF;have Dq:aY (cC (df [aE (O ⟨ua,0,U⟩) n n OJ]) w1) (I aa an ac) 1 (ci bl) dQ:=mS.beside (e:=⟨fp,λw=>aY w (I aa an ac) 1 (ci bl) dQ⟩) cK;have back:∀{cZ:List cq} {w:ae},Wd (df [aE (O ⟨ua,0,U⟩) n n OJ]) (cC (df [aE (O ⟨ua,0,U⟩) n n OJ]) w1) cZ w->Wd db w0 (cZ++(⟨fp,λw=>aY w (I aa an ac) 1 (ci bl) dQ⟩::Tb)) w:=λhw=>mS.comp hw.ni;have hkk:∀{cZ:List cq} {w:ae},Wd (df [aE (O ⟨ua,0,U⟩) n n OJ]) (cC (df [aE (O ⟨ua,0,U⟩) n n OJ]) w1) cZ w->∀p v,(cC (df [aE (O ⟨ua,0,U⟩) n n OJ]) w1).cell? p=O v->w.cell? p=O v:=λhw=>hw.ov;have hold:∀{b o:Nat} {v:K},ct (cC (df [aE (O ⟨ua,0,U⟩) n n OJ]) w1) b o [v]->iO (df [aE (O ⟨ua,0,U⟩) n n OJ]) b:=λhc=>iF hc cK;generalize cC (df [aE (O ⟨ua,0,U⟩) n n OJ]) w1=wk at*;generalize df [aE (O ⟨ua,0,U⟩) n n OJ]=SS at*;have ahW:=U1.known;obtain⟨Ku,Np,_,ab,ao,Kt,Um⟩:=Dq.at;have Gf:(ci bl).length=n:=by unfold ci;rw[jj,hn]
 rw[Gf]at Ku;have Uo:=Ku.symm;subst Uo;have akj:∀up:List Int,DE l m up<=DE l m up:=λ_=>cz _;refine bH (λ(x:List Int×Bool)=>if x.2 then Inv bl l x.1 1 else(Inv bl l x.1 l.length/\∀v∈l,v≠0->Full bl x.1 v)) (λx=>(9,ag x.2)::(8,I aa n ac)::Ta)
  (λx=>[aE (O ⟨ua,0,U⟩) n n x.1]) (λx=>2*DE l m x.1+if x.2 then 1 else 0) (OJ,true) hI0 (aP V aF) λx hI=>?_<;>try unfold Ta
 obtain⟨up,more⟩:=x;simp only at hI|-
 refine bA ?_;apply aL<;>intro h1
 ·subst h1
  simp only[if_true]at hI;refine aU ?_;refine QG rfl A λa' ha'=>?_;refine aU ?_;refine bH (λ(x:Nat×List Int×Bool)=>x.1+1<=m/\Inv bl l x.2.1 (x.1+1)/\(x.2.2=false->x.2.1=up/\∀v∈l,v≠0->rk l v<x.1+1->Full bl x.2.1 v)/\(x.2.2=true->DE l m x.2.1<DE l m up)/\DE l m x.2.1<=DE l m up) (λx=>(46,J Z x.1)::(44,I a' (m-1) (xc-1))::(45,J Z ((m-1:Nat):Int))::(9,ag x.2.2)::(8,I aa n ac)::Ta)
   (λx=>[aE (O ⟨ua,0,U⟩) n n x.2.1]) (λx=>m-x.1) (0,up,false) ⟨by simp only;omega,hI,λ_=>⟨rfl,λv hv yC hr=>absurd (tD hv (aA ho.zero) (by have:=sk ho;omega)) yC⟩,λh=>(by cases h),cz _⟩ (aP V aF) λx ⟨hk,Sv,vJ,hm1,F0⟩=>?_<;>try unfold Ta
  obtain⟨k,up,more⟩:=x;simp only at hk Sv vJ hm1 F0|-
  refine bA ?_;apply aL<;>intro h1
  ·have hkm:k<m-1:=aD h1
   obtain⟨b,hb⟩:=bE l (k+1) A;have jX:=aA hb;have qe:=ce b jX;have DU:rk l b=k+1:=Al ho.nodup hb;have wH:b≠0:=λe=>by subst e;have:=sk ho;omega
   obtain⟨_,hc1,rfl,_⟩:=ahW (k+1) b (by rw[aW,hb];rfl);have mJ:cl a' ob (oo+1):=⟨ha' ob oo A rfl⟩;have Pk:cg k (m-1):=⟨hkm⟩;have Ap:bu wk ob (oo+1+k*1) [J Z (b:Int)]:=⟨by rw[show oo+1+k*1=oo+(k+1)*1 by omega];exact hc1⟩;have ol1:iO SS ob:=hold hc1;have Kv:=kf dV lG (t:=b) qe;obtain⟨_,G2,v,rfl,iy⟩:=Um b _ Kv;have abA:cl aa ab ao:=⟨Kt (qU (aA Kv))⟩;have SD:cg b n:=⟨A⟩;have Sz:bu wk ab (ao+b*1) [v]:=⟨G2⟩;have ol2:iO SS ab:=hold G2;have Bg:=iy;obtain⟨ra,rn,rc,_,_,rfl,_⟩:=Bg;obtain⟨Av,afo,JA,rb,ro,F1,hrel⟩:=iy.at;rw[aG]at Av;have zT:∀p,p∈be bl b↔(p<n/\Edge bl p b):=λp=>by simp[be,Edge,hn]
   have As:(be bl b).length<=100:=by have:=fC (λi=>decide ((b:Int)∈dY bl i)) (bj bl.length);rw[d_]at this;unfold be;omega
   generalize be bl b=ps at*;have hul:=Sv.len;refine aU ?_;refine bH (λ(x:Nat×Int)=>x.1<=rn/\qw up (ps.take x.1) x.2) (λx=>(55,J Z x.1)::(12,J Z x.2)::(53,I ra rn rc)::(54,J Z rn)::(11,J Z b)::(46,J Z k)::(44,I a' (m-1) (xc-1))::(45,J Z ((m-1:Nat):Int))::(9,ag more)::(8,I aa n ac)::Ta)
    (λ_=>[aE (O ⟨ua,0,U⟩) n n up]) (λx=>rn-x.1) (0,-1) ⟨aN _,by simpa using MJ up⟩ (aP V aF) λx ⟨hj,EC⟩=>?_<;>try unfold Ta
   obtain⟨j,z⟩:=x;simp only at hj EC|-
   refine bA ?_;apply aL<;>intro h2
   ·have iS:j<rn:=aD h2
    obtain⟨p,hp⟩:=bE ps j A;have zS:=(zT p).1 (aA hp);have xC:ps.take (j+1)=ps.take j++[p]:=by rw[bV,hp];rfl
    obtain⟨_,hc3,rfl,_⟩:=hrel j (p:Int) (by rw[aW,hp];rfl);have aeb:cl ra rb ro:=⟨F1 (λe=>by rw[List.map_eq_nil_iff]at e;rw[e]at hp;cases hp)⟩;have Dt:cg j rn:=⟨iS⟩;have hcr:bu wk rb (ro+j*1) [J Z (p:Int)]:=⟨hc3⟩;have ol3:iO SS rb:=hold hc3;have hlp:cg p n:=⟨zS.1⟩;obtain⟨q,hq⟩:=bE up p A;have YM:uk up p q:=⟨hq⟩;refine aU ?_;apply aL<;>intro h3
    ·have SG:q<0:=aD h3
     refine aU ?_;refine a_ (j+1,z) ⟨iS,?_⟩ bB V aF;simp only;rw[xC];exact EC.pass λ⟨c,hc⟩=>by rw[hq]at hc;have:=bJ hc;omega
    ·have SG:0<=q:=by have:=h3;simp at this;omega
     have hpp:Pr up p:=⟨q.toNat,by rw[hq];congr 1;omega⟩;refine bA ?_;apply aL<;>intro h4
     ·have Zl:z<0:=aD h4
      refine aU ?_;refine a_ (j+1,(p:Int)) ⟨iS,?_⟩ bB V aF;simp only;rw[xC];exact EC.first Zl hpp
     ·have Zl:0<=z:=by have:=h4;simp at this;omega
      obtain⟨c,rfl,SA⟩:=EC.pr Zl;refine bA ?_;refine cN (val:=λz:Nat=>.int Z (z:Int)) (cZ:=λ_=>[]) (φ:=λz=>sO up c p z) rfl (λw hw=>acZ bl l ho up _ Sv _ pZ A _ _ w (aiT Sv hw A A λx hx=>by have:=ce x hx;omega) (aY.mono (dL:=gI) (w:=wk) (w':=w) (λ_ _ h=>h) (hkk hw) abE) c p SA hpp) λz hz=>?_;simp only[aS];refine aU ?_;refine a_ (j+1,(z:Int)) ⟨iS,?_⟩ bB V aF;simp only;rw[xC];exact EC.iK hpp hz
   ·have hjr:j=rn:=by have:=h2;simp at this;omega
    rw[hjr,Av,cL]at EC;obtain⟨q,Cy,vh,hqk,SH⟩:∃q,q∈ps/\q∈l/\rk l q<k+1/\Edge bl q b:=by
     obtain⟨j,q,hj,Cy,SH⟩:=ho.ahead (k+1) b hb wH;have vh:=aA Cy;exact⟨q,(zT q).2 ⟨by have:=ce q vh;omega,SH⟩,vh,by rw[Al ho.nodup Cy];exact hj,SH⟩
    obtain⟨z,rfl,hzp,aas⟩:∃c:Nat,z=c/\Pr up c/\∀y,uH up y c↔∀p,Edge bl p b->Pr up p->uH up y p:=by
     rcases EC with⟨_,h⟩|⟨c,h1,h2,_,h3⟩
     ·exact absurd (Sv.Ly q vh hqk) (h q Cy)
     ·refine⟨c,h1,h2,λy=>(h3 y).trans ⟨λh p he hp=>h p ((zT p).2 ⟨by have:=ce p (Sv.uy hp);omega,he⟩) hp,λh p hp hpp=>h p ((zT p).1 hp).2 hpp⟩⟩
    obtain⟨hIs,aeO,_⟩:=Sv.step dV dW ho A hb hzp aas;have Xv:b<up.length:=A;obtain⟨x0,Hi⟩:∃x,up[b]?=O x:=⟨_,bL Xv⟩;have YM:uk up b x0:=⟨Hi⟩;have aeN:l.length=m:=hm;refine aV ?_;apply aL<;>intro h3
    ·have fZ:x0≠(z:Int):=aD h3
     have aeB:=Sv.adS hzp Hi fZ aeO;rw[aeN]at aeB;have mT:lS (up.map (J Z)) (b*1) (J Z (z:Int)) ((up.set b (z:Int)).map (J Z)):=⟨by simp[],by simp;omega⟩;refine aV ?_;refine a_ (k+1,up.set b (z:Int),true) ⟨by simp only;omega,hIs,λh=>(by cases h),λ_=>by simp only;omega,by simp only;omega⟩ bB V aF
    ·have he:x0=(z:Int):=by have:=h3;simp at this;exact this
     subst he;have qh:up.set b (z:Int)=up:=m_ Hi;rw[qh]at hIs;refine aU ?_;refine a_ (k+1,up,more) ⟨by simp only;omega,hIs,λh=>⟨(vJ h).1,λv hv yC hr=>?_⟩,hm1,F0⟩ bB V aF
     by_cases e:v=b
     ·subst e;exact Sv.full wH Hi aas
     ·refine(vJ h).2 v hv yC ?_
      have:rk l v≠k+1:=λe'=>e (tD hv jX A);simp only at hr;omega
  ·have hkm:k+1=m:=by have:=h1;simp at this;omega
   rw[hkm]at Sv vJ;refine aV ?_;refine a_ (up,more) ?_ ?_ V aF
   ·cases more with
    |true=>exact Inv.again ho (hm.symm▸Sv)
    |false=>
     refine⟨hm.symm▸Sv,λv hv yC=>(vJ rfl).2 v hv yC ?_⟩;rw[<-hm];exact yg.2 hv
   ·cases more with
    |true=>have:=hm1 rfl;simp only[if_true];omega
    |false=>simp only[Bool.false_eq_true,if_true,if_false];omega
 ·subst h1
  simp only[Bool.false_eq_true,if_false]at hI;have hul:=hI.1.len;have Zj:lS (up.map (J Z)) (0*1) (J Z (-1)) ((up.set 0 (-1)).map (J Z)):=⟨by simp[],by simp;omega⟩;refine aV ?_;refine dh rfl λw hw=>⟨ua,by rw[hn],?_,trivial⟩;have:=back hw;rw[hI.1.tree ho hI.2,<-hn]at this;rw[<-hn];exact this.sub (fe _ _)
theorem W_{a:ax}(hw:Wd S w0 H w)(hk:H[k]?=O (G a n c e 1 (((bj bl.length).map (ed bl)).map (J Z))))(hn:n=bl.length)(dV:dK bl)(dW:0<bl.length)(hlen:bl.length<=100):aY w (I a n c) 1 ((bj bl.length).map (ed bl)) gI:=by
 refine hw.nf hk (aD hn) A λi x hx=>⟨[J Z x],λj v hj=>?_,rfl,?_⟩
 ·match j,hj with
  |0,hj=>rw[km,dR,aW,hx];simpa using hj
 ·obtain⟨b,_,rfl⟩:=aT.1 (aA hx)
  by_cases h:∃c,lJ bl c b
  ·obtain⟨c,hc⟩:=h
   rw[lz hc];have:=dV.BG dW hc.1.1;simp only[dE];omega
  ·rw[jK λc hc=>h ⟨c,hc⟩];simp[dE]
theorem Md(dV:dK bl)(h0:0<bl.length)(wH:b≠0):decide (ed bl b<0)= !(open Classical in decide (jg bl (-1) 0 b)):=by
 classical
 by_cases h:jg bl (-1) 0 b
 ·obtain⟨c,hc⟩:=Bl dV h0 h wH
  rw[lz hc];simp[h]
 ·rw[jK λc hc=>h hc.1.2.1]
  simp[h]
theorem Sm(_hok:dK bl)(_h0:0<bl.length)(h:kU bl b p):(ed bl b<0/\ed bl b=-1)\/∃c:Nat,ed bl b=c/\kU bl c p:=by
 by_cases hx:∃c,lJ bl c b
 ·obtain⟨c,hc⟩:=hx
  exact .inr ⟨c,lz hc,hc.1.trans h⟩
 ·have e:=jK λc hc=>hx ⟨c,hc⟩
  exact .inl ⟨by rw[e];omega,e⟩
theorem Ci(nm pa re:K)(bl:List aq)(bs:K)(qf:∃a n c,bs=I a n c)(w0:ae)(gV:aY w0 bs 6 bl da)(hlen:bl.length<=100)(dV:dK bl)(lG:∀(b:Nat) (B:aq),bl[b]?=O B->B.to.Nodup)(dW:0<bl.length):
  iL Y 98 [aC #[nm,pa,re,bs]] w0 λu w'=>∃x:Nat×List Row,u=I (O ⟨x.1,0,U⟩) bl.length bl.length/\Wd db w0 (G (O ⟨x.1,0,U⟩) bl.length bl.length 42 1 (x.2.map fi)::x.2.map gP) w'/\x.2.map (·.l)=ip bl:=by
 classical
 obtain⟨ba,n,bc,rfl⟩:=qf;have hn:n=bl.length:=gV.at.1;refine aR func98 rfl ntmps98 rfl (Wd.nil db w0) ?_
 repeat(first|refine bA ?_|refine dd λ_ _=>?_)
 rename_i p1 _;refine cN (val:=λa:Nat=>.slice (O ⟨a,0,U⟩) n n) (cZ:=λa=>[aE (O ⟨a,0,U⟩) n n ((bj bl.length).map (ed bl))]) (φ:=λ_=>True) rfl (λw hw=>by
  have:=Mc nm pa re bl _ ⟨ba,n,bc,rfl⟩ w (gV.cB cu hw.c_) hlen dV lG dW;rw[<-hn]at this|-
  exact this) λua _=>?_
 simp only[bF,aS]
 repeat(first|refine bA ?_|refine dd λ_ _=>?_)
 rename_i bo _;refine uX 3 1 n ?_;rw[show(aI n (I U 0 0))=(aI n (⟨U,0,[]⟩:Row)).map fi by simp[fi],show(aI n (G U 0 0 3 1 []))=(aI n (⟨U,0,[]⟩:Row)).map gP by simp[gP]];refine cN (val:=λx:(ax×Nat×Nat)×(Nat->Prop)=>.slice x.1.1 x.1.2.1 x.1.2.2) (cZ:=λx=>[⟨x.2,λw=>aY w (I x.1.1 x.1.2.1 x.1.2.2) 1 (ci bl) dQ⟩]) (φ:=λ_=>True) rfl (λw hw=>jq _ _ _ bl _ w (gV.cB cu hw.c_) hlen dV) λx _=>?_;obtain⟨⟨aa,an,ac⟩,fp⟩:=x;simp only[bF,aS];refine aU ?_;let Ta:=(G (O ⟨bo,0,U⟩) n n 42 1 ((aI n (⟨U,0,[]⟩:Row)).map fi)::(aI n (⟨U,0,[]⟩:Row)).map gP);let Tc:=[aE (O ⟨ua,0,U⟩) n n ((bj bl.length).map (ed bl)),cS p1 nm pa re ba n bc];refine bG (H1:=Ta++(⟨fp,λw=>aY w (I aa an ac) 1 (ci bl) dQ⟩::Tc)) ((List.Perm.swap _ _ _).trans (List.Perm.cons _ (fG (l₁:=(⟨fp,λw=>aY w (I aa an ac) 1 (ci bl) dQ⟩::Tc))))) ?_<;>(try unfold Tc)<;>(try unfold Ta);refine mA λw1 mS=>?_;have Dq:aY (cC (df Ta) w1) (I aa an ac) 1 (ci bl) dQ:=mS.beside (e:=⟨fp,λw=>aY w (I aa an ac) 1 (ci bl) dQ⟩) cK;have aiC:aY (cC (df Ta) w1) (I (O ⟨ua,0,U⟩) n n) 1 ((bj bl.length).map (ed bl)) gI:=W_ mS.kw (k:=1) rfl hn dV dW hlen;have back:∀{cZ:List cq} {w:ae},Wd (df Ta) (cC (df Ta) w1) cZ w->Wd db w0 (cZ++(⟨fp,λw=>aY w (I aa an ac) 1 (ci bl) dQ⟩::Tc)) w:=λhw=>mS.comp hw.ni;have hold:∀{b o:Nat} {v:K},ct (cC (df Ta) w1) b o [v]->iO (df Ta) b:=λhc=>iF hc cK;generalize cC (df Ta) w1=wk at*;generalize df Ta=SS at*;obtain⟨Ku,Np,_,ab,ao,Kt,Um⟩:=Dq.at;have Gf:(ci bl).length=n:=by unfold ci;rw[jj,hn]
 rw[Gf]at Ku;have Uo:=Ku.symm;subst Uo;have tree:∀b,b<n->bu wk ua (0+b*1) [J Z (ed bl b)]/\iO SS ua:=by
  intro b hb;obtain⟨_,hc,rfl,_⟩:=aiC.known b (ed bl b) (by rw[aW,gq A];rfl);exact⟨⟨hc⟩,hold hc⟩
 let Tb:=[(17,I aa n ac),(18,J Z n),(3,I (O ⟨ua,0,U⟩) n n),(4,I (O ⟨bo,0,U⟩) n n)];refine bH (λ(x:Nat×List Row)=>x.1<=n/\x.2.length=n/\∀i r,x.2[i]?=O r->r.l=uT bl x.1 (λ_=>False) i) (λx=>(19,J Z x.1)::Tb)
  (λx=>G (O ⟨bo,0,U⟩) n n 42 1 (x.2.map fi)::x.2.map gP) (λx=>n-x.1) (0,aI n ⟨U,0,[]⟩)
  ⟨aN _,by simp,λi r hr=>?_⟩ (aP V aF) λx ⟨hi,oG,ot⟩=>?_<;>try unfold Tb
 ·simp only[ku]at hr
  split at hr
  ·simp only[cF]at hr
   subst hr;simp[uT]
  ·cases hr
 obtain⟨b,rs⟩:=x;simp only at hi oG ot|-
 refine bA ?_;apply aL<;>intro h1
 ·have qe:b<n:=aD h1
  have Kv:=kf dV lG (t:=b) A;obtain⟨_,G2,v,rfl,iy⟩:=Um b _ Kv;have abA:cl aa ab ao:=⟨Kt (qU (aA Kv))⟩;have SD:cg b n:=⟨qe⟩;have Sz:bu wk ab (ao+b*1) [v]:=⟨G2⟩;have ol2:iO SS ab:=hold G2;have Bg:=iy;obtain⟨ra,rn,rc,_,_,rfl,_⟩:=Bg;obtain⟨Av,afo,JA,rb,ro,F1,hrel⟩:=iy.at;rw[aG]at Av;have zT:∀p,p∈be bl b↔(p<bl.length/\Edge bl p b):=λp=>by simp[be,Edge]
  have As:(be bl b).length<=100:=by have:=fC (λi=>decide ((b:Int)∈dY bl i)) (bj bl.length);rw[d_]at this;unfold be;omega
  generalize be bl b=ps at*;obtain⟨Vf,ol3⟩:=tree b qe;refine aU ?_;refine jS 32 (ag (!decide (jg bl (-1) 0 b))) ?_ ?_
  ·by_cases wH:b=0
   ·subst wH
    rw[show decide ((0:Int)<((0:Nat):Int))=false from rfl,show(!decide (jg bl (-1) 0 0))=false by simp[jg.refl]];refine cT ?_;exact aP V aF
   ·rw[show decide ((0:Int)<(b:Int))=true by simp;omega,<-Md dV dW wH]
    refine aV ?_;exact aP V aF
  generalize UA:decide (jg bl (-1) 0 b)=e1;cases e1
  ·have oL:¬jg bl (-1) 0 b:=aD UA
   rw[show(!false)=true from rfl];refine aV ?_;refine a_ (b+1,rs) ⟨qe,oG,λi r hr=>?_⟩ bB V aF;rw[ot i r hr,<-GV];exact lX ⟨λh=>h.elim,λ⟨p,hp,he,_⟩=>oL (hp.step he A)⟩
  have DU:jg bl (-1) 0 b:=aD UA;rw[show(!true)=false from rfl];refine aU ?_;let Td:=(33,I ra rn rc)::(34,J Z rn)::(5,J Z b)::(19,J Z b)::Tb;refine bH (λ(x:Nat×List Row)=>x.1<=rn/\x.2.length=n/\∀i r,x.2[i]?=O r->r.l=uT bl b (Mark bl b (ps.take x.1)) i) (λx=>(35,J Z x.1)::Td)
   (λx=>G (O ⟨bo,0,U⟩) n n 42 1 (x.2.map fi)::x.2.map gP) (λx=>rn-x.1) (0,rs)
   ⟨aN _,oG,λi r hr=>by rw[ot i r hr];exact lX ⟨λh=>h.elim,λ⟨p,hp,_⟩=>by simp at hp⟩⟩ (aP V aF) λx ⟨hj,Q2,EO⟩=>?_<;>(try unfold Td)<;>try unfold Tb
  obtain⟨j,rs1⟩:=x;simp only at hj Q2 EO|-
  refine bA ?_;apply aL<;>intro h2
  ·have iS:j<rn:=aD h2
   obtain⟨p,hp⟩:=bE ps j A;have zS:=(zT p).1 (aA hp);have xC:ps.take (j+1)=ps.take j++[p]:=by rw[bV,hp];rfl
   obtain⟨_,hc3,rfl,_⟩:=hrel j (p:Int) (by rw[aW,hp];rfl);have aeb:cl ra rb ro:=⟨F1 (λe=>by rw[List.map_eq_nil_iff]at e;rw[e]at hp;cases hp)⟩;have Dt:cg j rn:=⟨iS⟩;have hcr:bu wk rb (ro+j*1) [J Z (p:Int)]:=⟨hc3⟩;have ol4:iO SS rb:=hold hc3;have hlp:cg p n:=⟨A⟩;obtain⟨Zb,_⟩:=tree p A;refine aU ?_;refine jS 47 (ag (!decide (jg bl (-1) 0 p))) ?_ ?_
   ·by_cases Ms:p=0
    ·subst Ms
     rw[show decide ((0:Int)<((0:Nat):Int))=false from rfl,show(!decide (jg bl (-1) 0 0))=false by simp[jg.refl]];refine cT ?_;exact aP V aF
    ·rw[show decide ((0:Int)<(p:Int))=true by simp;omega,<-Md dV dW Ms]
     refine aV ?_;exact aP V aF
   generalize YL:decide (jg bl (-1) 0 p)=e2;cases e2
   ·have oL:¬jg bl (-1) 0 p:=aD YL
    rw[show(!false)=true from rfl];refine aV ?_;refine a_ (j+1,rs1) ⟨iS,Q2,λi r hr=>?_⟩ bB V aF;rw[EO i r hr];simp only;rw[xC];exact lX (Rq oL).symm
   have hrp:jg bl (-1) 0 p:=aD YL;rw[show(!true)=false from rfl];refine aU ?_;refine bH (λ(x:Int×List Row)=>((x.1<0/\x.1=-1)\/∃c:Nat,x.1=c/\kU bl c p)/\(∀c,lJ bl c b->HS bl c x.1)/\x.2.length=n/\∀i r,x.2[i]?=O r->r.l=uT bl b (Way bl b (ps.take j) p x.1) i) (λx=>(9,J Z x.1)::(8,J Z p)::(35,J Z j)::Td)
    (λx=>G (O ⟨bo,0,U⟩) n n 42 1 (x.2.map fi)::x.2.map gP) (λx=>Mh bl x.1) ((p:Int),rs1)
    ⟨.inr ⟨p,rfl,.refl hrp⟩,λc hc=>⟨p,rfl,hc.1.Ka hc.2.1 zS.2 hrp⟩,Q2,λi r hr=>by rw[EO i r hr];exact lX Sq.symm⟩ (aP V aF) λx ⟨hz,hH,KR,zU⟩=>?_<;>(try unfold Td)<;>try unfold Tb
   obtain⟨z,SQ⟩:=x;simp only at hz hH KR zU|-
   have fin:(z<0\/z=ed bl b)->∀i r,SQ[i]?=O r->r.l=uT bl b (Mark bl b (ps.take (j+1))) i:=λh i r hr=>by
    rw[zU i r hr,xC];exact lX (aab hrp hH h)
   refine bA ?_;rcases hz with⟨Zl,rfl⟩|⟨a,rfl,mJ⟩
   ·rw[show decide ((0:Int)<=-1)=false from rfl]
    refine cT ?_;exact a_ (j+1,SQ) ⟨iS,KR,fin (.inl Zl)⟩ bB V aF
   have Y4:=mJ.1;have No:a<n:=by have:=dV.BG dW Y4;omega
   rw[show decide ((0:Int)<=(a:Int))=true by simp];refine aV ?_;apply aL<;>intro h3
   ·have fZ:(a:Int)≠ed bl b:=aD h3
    have IJ:cg a n:=⟨No⟩;obtain⟨Ax,_⟩:=tree a No;obtain⟨r,hr⟩:=bE SQ a A;have afj:=Yh (bl:=bl) (b:=b) (i:=a) (dL:=Way bl b (ps.take j) p a) A;rw[<-zU a r hr]at afj;have NM:MG (SQ.map fi) (a*1) (I r.a r.l.length r.c):=⟨by simp[hr,fi]⟩;have aed:a<SQ.length:=A;have hrt:=Sm dV dW (b:=a) mJ;refine aU ?_;refine bY rfl (λw hw=>Ei _ r.l b w (WN (cZ:=[_]) (H:=[]) (by rw[cj];exact hw) hr afj) ⟨_,_,_,rfl⟩) ?_;rw[show decide ((b:Int)∈r.l)=decide (Way bl b (ps.take j) p a a) by rw[kq,zU a r hr,TS]];generalize he3:decide (Way bl b (ps.take j) p a a)=e3;have YU:=aaa dV dW Y4;cases e3
    ·have hnw:¬Way bl b (ps.take j) p a a:=aD he3
     repeat(first|refine aU ?_|refine dd λ_ _=>?_)
     rename_i bt _;refine kh (a+2) (xs:=r.l.map (J Z)) (e:=3) (by simp[hr,gP]) rfl rfl A A λa' c'=>?_;refine fU (H1:=G (O ⟨bt,0,U⟩) 1 1 3 1 [J Z b]::G (O ⟨bo,0,U⟩) n n 42 1 (SQ.map fi)::(SQ.set a ⟨a',c',r.l++[(b:Int)]⟩).map gP) (by simp[gP]) ?_;have mT:lS (SQ.map fi) (a*1) (I a' (r.l.length+1) c') ((SQ.set a ⟨a',c',r.l++[(b:Int)]⟩).map fi):=⟨by simp[fi],aD aed⟩;refine aV ?_;refine a_ (ed bl a,SQ.set a ⟨a',c',r.l++[(b:Int)]⟩) ⟨hrt,Xh dV dW Y4 hH fZ,aD KR,λi q hq=>?_⟩ YU V aB;simp only[fN]at hq;simp only;rw[lX (dO:=λi=>Way bl b (ps.take j) p a i\/i=a) (Mi dV dW mJ)]
     by_cases UL:a=i
     ·subst UL
      simp only[if_true,aed,cF]at hq;subst hq;simp only;rw[TR hnw,zU a r hr]
     ·rw[ai UL]at hq
      rw[zU i q hq];exact lX ⟨.inl,λh=>h.elim id λe=>absurd e.symm UL⟩
    ·have kE:Way bl b (ps.take j) p a a:=aD he3
     refine aU ?_;refine a_ (ed bl a,SQ) ⟨hrt,Xh dV dW Y4 hH fZ,KR,λi q hq=>?_⟩ YU V aF;rw[zU i q hq];exact lX ((Mi dV dW mJ).trans ⟨λh=>h.elim id λe=>by subst e;exact kE,.inl⟩).symm
   ·have he:(a:Int)=ed bl b:=aD h3
    refine aV ?_;exact a_ (j+1,SQ) ⟨iS,KR,fin (.inr he)⟩ bB V aF
  ·have hjr:j=rn:=by have:=h2;simp at this;omega
   rw[hjr,Av,cL]at EO;refine aV ?_;refine a_ (b+1,rs1) ⟨qe,Q2,λi r hr=>?_⟩ bB V aF;rw[EO i r hr,<-GV];exact lX (N6 dV dW DU zT)
 ·have fX:b=n:=by have:=h1;simp at this;omega
  refine aV ?_;refine dh rfl λw hw=>⟨(bo,rs),by rw[hn],?_,?_⟩
  ·simp only
   rw[<-hn];exact(back hw).sub (fe _ _)
  ·show rs.map (·.l)=ip bl
   apply cY;intro i;unfold ip AU
   by_cases uB:i<n
   ·rw[aW,aW,bL (by omega:i<rs.length),gq A,b_,b_,ot i _ (bL A),fX,hn]
    simp[uT]
   ·rw[aW,cm A,cm (by rw[aG,d_];omega)]
    rfl
def Jj:Go.Shelf.Ren:=⟨λ|125=>168|128=>185|129=>186|189=>151|215=>203|216=>182|257=>167|294=>176|295=>177|296=>178|297=>179|298=>180|299=>181|300=>183|301=>184|328=>198|329=>199|330=>200|331=>201|332=>202|343=>208|n=>n,λ|0=>0|3=>3|4=>4|5=>5|9=>9|28=>42|46=>172|51=>210|53=>213|131=>227|182=>230|183=>231|218=>244|222=>248|228=>252|229=>253|n=>n,λn=>n⟩
theorem LW:Go.Proofs.Lays.n189 Y Jj where
 mixed:=bC
 f125:=func168.trans (bD O bC)
 f128:=func185.trans (bD O bC)
 f129:=func186.trans (bD O bC)
 f189:=func151.trans (bD O bC)
 f215:=func203.trans (bD O bC)
 f216:=func182.trans (bD O bC)
 f257:=func167.trans (bD O bC)
 f294:=func176.trans (bD O bC)
 f295:=func177.trans (bD O bC)
 f296:=func178.trans (bD O bC)
 f297:=func179.trans (bD O bC)
 f298:=func180.trans (bD O bC)
 f299:=func181.trans (bD O bC)
 f300:=func183.trans (bD O bC)
 f301:=func184.trans (bD O bC)
 f328:=func198.trans (bD O bC)
 f329:=func199.trans (bD O bC)
 f330:=func200.trans (bD O bC)
 f331:=func201.trans (bD O bC)
 f332:=func202.trans (bD O bC)
 f343:=func208.trans (bD O bC)
 t0:=underlying0
 a0:=isAgg0
 z0:=sizeOf0
 v0:=zeroValue0
 t3:=underlying3
 a3:=isAgg3
 z3:=sizeOf3
 v3:=zeroValue3
 t4:=underlying4
 a4:=isAgg4
 z4:=sizeOf4
 v4:=zeroValue4
 t5:=underlying5
 a5:=isAgg5
 z5:=sizeOf5
 v5:=zeroValue5
 t9:=underlying9
 a9:=isAgg9
 z9:=sizeOf9
 v9:=zeroValue9
 t28:=underlying42
 a28:=isAgg42
 z28:=sizeOf42
 v28:=zeroValue42
 t46:=underlying172
 a46:=isAgg172
 z46:=sizeOf172
 v46:=zeroValue172
 t51:=underlying210
 a51:=isAgg210
 z51:=sizeOf210
 v51:=zeroValue210
 t53:=underlying213
 a53:=isAgg213
 z53:=sizeOf213
 v53:=zeroValue213
 t131:=underlying227
 a131:=isAgg227
 z131:=sizeOf227
 v131:=zeroValue227
 t182:=underlying230
 a182:=isAgg230
 z182:=sizeOf230
 v182:=zeroValue230
 t183:=underlying231
 a183:=isAgg231
 z183:=sizeOf231
 v183:=zeroValue231
 t218:=underlying244
 a218:=isAgg244
 z218:=sizeOf244
 v218:=zeroValue244
 t222:=underlying248
 a222:=isAgg248
 z222:=sizeOf248
 v222:=zeroValue248
 t228:=underlying252
 a228:=isAgg252
 z228:=sizeOf252
 v228:=zeroValue252
 t229:=underlying253
 a229:=isAgg253
 z229:=sizeOf253
 v229:=zeroValue253
theorem Wd.holds(hW:Wd S w0 H w){o:Nat}(hk:H[k]?=O (G (O ⟨b,o,U⟩) n c e 1 (l.map (J Z)))):Go.Sort.Holds (J Z) w b o l.toArray/\b<w.heap.size:=by
 obtain⟨_,_,_,pre,sp,rfl,_,hb⟩:=hW.nj hk;refine⟨λj hj=>⟨?_,by simp[World.frozen?,hb]⟩,(jl.1 hb).1⟩;have SC:j<l.length:=aD hj;refine hW.dp hk ?_;rw[aW,bL SC];simp[SC]
theorem adm(a:ax)(c:Nat)(l:List Int)(hlen:l.length<=100000)(w:ae)(hw:Wd (df [aE a l.length c l]) w [aE a l.length c l] w):
  iL Y 151 [I a l.length c] w λu w'=>∃_:Unit,u=.tuple #[]/\Wd (df [aE a l.length c l]) w [aE a l.length c (nU l)] w'/\True:=by
 rcases(hw.get (k:=0) rfl).2 with⟨rfl,h0,rfl⟩|⟨b,pre,sp,rfl,_⟩
 ·have hl:l=[]:=nr h0
  subst hl;refine callsIn_wide.2 ((Go.Proofs.Any.slices_Sort_int_none LW U 0 w).mono λe w' ⟨he,kE⟩=>⟨_,he,(),rfl,?_,trivial⟩);rw[kE,show nU []=[] by simp[nU]];exact hw
 ·obtain⟨h1,h2⟩:=hw.holds (k:=0) rfl
  refine callsIn_wide.2 ((Go.Proofs.Any.slices_Sort_int LW b pre.length c l w h1 h2 A).mono λe w' ⟨he,m,os,kE⟩=>⟨_,he,(),rfl,?_,trivial⟩);rw[kE];have:=hw.nU (k:=0) (m:=m) (os:=os) (l':=nU l) rfl (FJ l);simpa[nU]using this
attribute [local irreducible] bodyPostM
theorem wj(hn:l.Nodup)(h:∀x∈l,∃c:Nat,x=c/\c<n):l.length<=n:=by
 have h1:(l.map Int.toNat).Nodup:=by
  refine List.pairwise_map.2 (List.Pairwise.imp_of_mem (λ{x y} hx hy fZ e=>?_) hn);obtain⟨c,rfl,_⟩:=h x hx;obtain⟨d,rfl,_⟩:=h y hy;exact fZ (by simp at e;omega)
 have h2:=o_ n (l.map Int.toNat) h1 λx hx=>by
  obtain⟨y,hy,rfl⟩:=aT.1 hx;obtain⟨c,rfl,hc⟩:=h y hy;simpa using hc
 rwa[aG]at h2
theorem WO{rs:List Row}{a:ax}(h:Wd S w0 (G a rs.length c e 1 (rs.map fi)::(rs.map gP++H)) w)(hb:rs.length<=100000)(hl:∀r∈rs,r.l.length<=1000/\∀x∈r.l,dE x):aY w (I a rs.length c) 1 (rs.map (·.l)) dQ:=by
 refine h.nf (k:=0) rfl (by rw[aG]) A λi x hx=>?_;rw[aW]at hx;obtain⟨r,hr,rfl⟩:=ff.1 hx;refine⟨[fi r],λj v hj=>?_,_,rfl,WN (cZ:=[_]) (H:=H) h hr (hl r (aA hr))⟩
 match j,hj with
 |0,hj=>simpa[hr]using hj
theorem adn{a:ax}{T:List (List Int)}(h:aY w (I a n c) 1 T dQ)(hold:∀{b o:Nat} {v:K} {l:List K},ct w b o (v::l)->iO S b)(h0:T≠[]):
  ∃b o:Nat,cl a b o/\iO S b/\∀i l,T[i]?=O l->∃(ra:ax) (rc:Nat),bu w b (o+i*1) [I ra l.length rc]/\aY w (I ra l.length rc) 1 l gI:=by
 obtain⟨_,_,_,b,o,ha,iw⟩:=h.at;refine⟨b,o,⟨ha h0⟩,?_,λi l hi=>?_⟩
 ·obtain⟨l,hl⟩:=bE T 0 (yh.2 h0)
  obtain⟨_,hc,v,rfl,_⟩:=iw 0 l hl;exact hold hc
 ·obtain⟨_,hc,v,rfl,hv⟩:=iw i l hi
  have yC:=hv;obtain⟨ra,rn,rc,_,_,rfl,Av,_⟩:=yC;subst Av;exact⟨ra,rc,⟨hc⟩,hv⟩
inductive mN(bl:List aq)(bs:List Int):Nat->Prop
 |base {b x:Nat}:(b:Int)∈bs->iQ bl b x->mN bl bs x
 |step {y x:Nat}:mN bl bs y->iQ bl y x->mN bl bs x
theorem iQ.lt(dV:dK bl)(h:iQ bl a b):b<bl.length:=by
 obtain⟨p,_,he,_⟩:=h;exact dV.Ka he
theorem iQ.Zt(dV:dK bl)(h0:0<bl.length)(h:iQ bl a b):a<bl.length:=by
 obtain⟨p,_,_,hd,_⟩:=h;exact dV.BG h0 hd.1
theorem mN.lt(dV:dK bl){x:Nat}(h:mN bl bs x):x<bl.length:=by
 cases h with
 |base _ h=>exact h.lt dV
 |step _ h=>exact h.lt dV
def rR(bl:List aq)(bs:List Int)(p:Nat->Prop):Prop:=∀b:Nat,((b:Int)∈bs\/p b)->∀x,iQ bl b x->p x
theorem rR.all{p:Nat->Prop}(h:rR bl bs p){x:Nat}(hx:mN bl bs x):p x:=by
 induction hx with
 |base hb hf=>exact h _ (.inl hb) _ hf
 |step _ hf ih=>exact h _ (.inr ih) _ hf
open Classical in
noncomputable def ru(bl:List aq)(bs:List Int):List Int:=((bj bl.length).filter λx=>decide (mN bl bs x)).map λx:Nat=>(x:Int)
open Classical in
theorem yE(dV:dK bl):x∈ru bl bs↔∃c:Nat,x=c/\mN bl bs c:=by
 unfold ru;rw[aT];constructor
 ·rintro⟨c,h,rfl⟩
  exact⟨c,rfl,by simpa using(cR.1 h).2⟩
 ·rintro⟨c,rfl,h⟩
  exact⟨c,cR.2 ⟨cW.2 (h.lt dV),aD h⟩,rfl⟩
structure JK(bl:List aq)(bs:List Int)(row out:List Int):Prop where
 nodup:out.Nodup
 sound:∀x∈out,∃c:Nat,x=c/\mN bl bs c
 rows:∀x∈row,x∈bs\/x∈out
 done:∀y:Nat,((y:Int)∈bs\/(y:Int)∈out)->(y:Int)∈row\/∀x:Nat,iQ bl y x->(x:Int)∈out
theorem N_(bl:List aq)(bs:List Int):JK bl bs bs []:=⟨by simp,by simp,λ_ h=>.inl h,λ_ h=>.inl (h.elim id λh=>by cases h)⟩
structure ze(bl:List aq)(bs:List Int)(b:Nat)(fs:List Int)(row out:List Int):Prop where
 nodup:out.Nodup
 sound:∀x∈out,∃c:Nat,x=c/\mN bl bs c
 head:(b:Int)∈bs\/(b:Int)∈out
 rows:∀x∈row,x∈bs\/x∈out
 done:∀y:Nat,((y:Int)∈bs\/(y:Int)∈out)->y=b\/(y:Int)∈row\/∀x:Nat,iQ bl y x->(x:Int)∈out
 seen:∀x∈fs,x∈out
theorem JK.head{row:List Int}(h:JK bl bs ((b:Int)::row) out):ze bl bs b [] row out:=
 ⟨h.nodup,h.sound,h.rows _ cK,λx hx=>h.rows x (ey _ hx),λy hy=>(h.done y hy).elim (λhm=>(bX.1 hm).elim (λe=>.inl A) λhm=>.inr (.inl hm)) λhx=>.inr (.inr hx),by simp⟩
theorem ze.pass{row:List Int}(h:ze bl bs b fs row out)(hx:x∈out):ze bl bs b (fs++[x]) row out:=
 ⟨h.nodup,h.sound,h.head,h.rows,h.done,λy hy=>(bO.1 hy).elim (h.seen y) λhy=>by rw[bQ.1 hy];exact hx⟩
theorem ze.add{row:List Int}{x:Nat}(h:ze bl bs b fs row out)(hf:iQ bl b x)(hx:(x:Int)∉out):ze bl bs b (fs++[(x:Int)]) (row++[(x:Int)]) (out++[(x:Int)]):=by
 have hm:mN bl bs x:=h.head.elim (λhb=>.base hb hf) λhb=>by
  obtain⟨c,e,hc⟩:=h.sound _ hb;have:b=c:=A;subst this;exact .step hc hf
 refine⟨nA.2 ⟨h.nodup,by simp,λa ha c hc e=>hx ?_⟩,λy hy=>?_,h.head.imp id (cM _),λy hy=>?_,λy hy=>?_,λy hy=>?_⟩
 ·rw[bQ.1 hc]at e;rw[<-e];exact ha
 ·rcases bO.1 hy with hy|hy
  ·exact h.sound y hy
  ·exact⟨x,bQ.1 hy,hm⟩
 ·rcases bO.1 hy with hy|hy
  ·exact(h.rows y hy).imp id (cM _)
  ·rw[bQ.1 hy];exact .inr cK
 ·have hold:((y:Int)∈bs\/(y:Int)∈out)->y=b\/(y:Int)∈row++[(x:Int)]\/∀z:Nat,iQ bl y z->(z:Int)∈out++[(x:Int)]:=λhy=>
   (h.done y hy).imp id λh=>h.imp (cM _) λh z hz=>cM _ (h z hz)
  rcases hy with hy|hy
  ·exact hold (.inl hy)
  ·rcases bO.1 hy with hy|hy
   ·exact hold (.inr hy)
   ·exact .inr (.inl (en _ hy))
 ·rcases bO.1 hy with hy|hy
  ·exact cM _ (h.seen y hy)
  ·exact en _ hy
theorem ze.row{row:List Int}(h:ze bl bs b fs row out)(cX:∀x:Nat,iQ bl b x->(x:Int)∈fs):JK bl bs row out:=
 ⟨h.nodup,h.sound,h.rows,λy hy=>(h.done y hy).elim (λe=>.inr λx hx=>h.seen _ (cX x (e▸hx))) id⟩
theorem JK.mem(h:JK bl bs [] out)(x:Int):x∈out↔∃c:Nat,x=c/\mN bl bs c:=by
 refine⟨h.sound x,λ⟨c,e,hc⟩=>?_⟩;have kV:rR bl bs λy=>(y:Int)∈out:=λb hb y hy=>(h.done b hb).elim (λhm=>by cases hm) λhd=>hd y hy;rw[e];exact kV.all hc
structure ul(bl:List aq)(bs:List Int)(p0:Nat->Prop)(b:Nat)(p:Nat->Prop):Prop where
 sub:∀x,p0 x->p x
 sound:∀x,p x->mN bl bs x
 done:∀y,y<b->((y:Int)∈bs\/p0 y)->∀x,iQ bl y x->p x
 stay:rR bl bs p0->∀x,p x->p0 x
theorem IY(h:∀x,p0 x->mN bl bs x):ul bl bs p0 0 p0:=⟨λ_ h=>h,h,λ_ h=>A,λ_ _ h=>h⟩
theorem ul.pass{p:Nat->Prop}(h:ul bl bs p0 b p)(hb:¬((b:Int)∈bs\/p b)):ul bl bs p0 (b+1) p:=
 ⟨h.sub,h.sound,λy hy hc=>by
  by_cases e:y=b
  ·subst e;exact absurd (hc.imp id (h.sub y)) hb
  ·exact h.done y A hc,h.stay⟩
theorem ul.take{p p':Nat->Prop}(h:ul bl bs p0 b p)(hb:(b:Int)∈bs\/p b)(hp:∀x,p' x↔(p x\/iQ bl b x)):ul bl bs p0 (b+1) p':=
 ⟨λx hx=>(hp x).2 (.inl (h.sub x hx)),λx hx=>((hp x).1 hx).elim (h.sound x) λhf=>hb.elim (λhb=>.base hb hf) λhb=>.step (h.sound b hb) hf,λy hy hc x hx=>by
  by_cases e:y=b
  ·subst e;exact(hp x).2 (.inr hx)
  ·exact(hp x).2 (.inl (h.done y A hc x hx)),λkV x hx=>((hp x).1 hx).elim (h.stay kV x) λhf=>kV b (hb.imp id (h.stay kV b)) x hf⟩
open Classical in
theorem ul.next(dV:dK bl)(h0:0<bl.length){p:Nat->Prop}(h:ul bl bs p0 bl.length p)(hk:rR bl bs p0\/k<=rH p0 bl.length):rR bl bs p\/k+1<=rH p bl.length:=by
 by_cases hc:rR bl bs p0
 ·left
  intro b hb x hx;exact h.sub x (hc b (hb.imp id (h.stay hc b)) x hx)
 ·right
  have hk:=hk.resolve_left hc;have hle:=Eh (p:=p0) (q:=p) (n:=bl.length) λc _ hc=>h.sub c hc
  by_cases he:rH p0 bl.length=rH p bl.length
  ·exfalso
   refine hc λb hb x hx=>?_;have:=h.done b (hx.Zt dV h0) hb x hx;exact Ib (p:=p0) (q:=p) (λc _ hc=>h.sub c hc) he x (hx.lt dV) this
  ·omega
open Classical in
theorem N9{p:Nat->Prop}(hs:∀x,p x->mN bl bs x)(hk:rR bl bs p\/bl.length+1<=rH p bl.length)(x:Nat):p x↔mN bl bs x:=by
 refine⟨hs x,λhx=>?_⟩;rcases hk with h|h
 ·exact h.all hx
 ·have:rH p bl.length<=bl.length:=by
   unfold rH;have:=fC (λc=>decide (p c)) (bj bl.length);rw[d_]at this;exact this
  omega
theorem MV(a:ax)(c:Nat)(l:List Int)(hb:l.length<=17592186044416)(w0:ae)(h:aY w0 (I a l.length c) 1 l gI):
  iL Y 59 [I a l.length c] w0 λu w'=>∃x:ax×Nat,u=I x.1 l.length x.2/\Wd db w0 [aE x.1 l.length x.2 l] w'/\True:=by
 refine aR func59 rfl ntmps59 rfl (Wd.nil db w0) ?_;refine bA ?_;cases a with
 |none=>
  have II:l=[]:=by
   obtain⟨_,_,_,b,o,ha,_⟩:=h.at;exact it λhn=>by cases ha hn
  subst II;refine aV ?_;refine dJ 3 1 ?_;exact dh rfl λw hw=>⟨(U,0),rfl,hw,trivial⟩
 |some ad=>
  refine aU ?_;refine lN rfl λeb _=>?_;refine bA ?_;refine kZ rfl rfl l (λx=>[J Z x]) (λ_ _ _ h=>h.1) (λ_=>rfl) (λy u hu=>by simp only[bQ]at hu;subst hu;rfl) (λw hw=>h.cB (du) hw.c_) A A λa' c'=>?_;rw[ol,aS,eC];refine aU ?_;exact dh rfl λw hw=>⟨(a',c'),rfl,hw,trivial⟩
noncomputable def gQ(bl:List aq)(b:Nat):List Int:=((bj bl.length).filter λx=>(open Classical in decide (iQ bl b x))).map λx:Nat=>(x:Int)
theorem vU(hb:b<bl.length):(ip bl)[b]?=O (gQ bl b):=by
 unfold ip AU;rw[aW,gq hb];rfl
theorem AN(dV:dK bl){x:Nat}:(x:Int)∈gQ bl b↔iQ bl b x:=by
 classical
 unfold gQ;rw[rx,cR,cW];simp only[dv];exact⟨λh=>h.2,λh=>⟨h.lt dV,h⟩⟩
theorem xk(hx:x∈gQ bl b):∃c:Nat,x=c/\c<bl.length/\iQ bl b c:=by
 classical
 unfold gQ at hx;obtain⟨c,hc,rfl⟩:=aT.1 hx;have h:=cR.1 hc;exact⟨c,rfl,cW.1 h.1,aD h.2⟩
theorem xl(bl:List aq)(b:Nat):(gQ bl b).Nodup:=by
 classical
 exact(xi bl.length λx=>decide (iQ bl b x)).imp λh e=>by omega
theorem sW(bl:List aq):(ip bl).length=bl.length:=by unfold ip AU;rw[aG,d_]
theorem Dc(bl:List aq)(bs:List Int):(ru bl bs).Nodup:=by
 classical
 exact(xi bl.length λx=>decide (mN bl bs x)).imp λh e=>by omega
theorem VT(bl:List aq)(dV:dK bl)(dW:0<bl.length)(hlen:bl.length<=100)(fa:ax)(fc:Nat)(ba:ax)(bc:Nat)(bs:List Int)(qe:bs.length<=17592186044000)(uB:∀x∈bs,∃c:Nat,x=c/\c<bl.length)(w0:ae)(hf:aY w0 (I fa bl.length fc) 1 (ip bl) dQ)(gV:aY w0 (I ba bs.length bc) 1 bs gI):
  iL Y 103 [I fa bl.length fc,I ba bs.length bc] w0 λu w'=>∃x:ax×Nat,u=I x.1 (ru bl bs).length x.2/\Wd db w0 [aE x.1 (ru bl bs).length x.2 (ru bl bs)] w'/\True:=by
 classical
 obtain⟨_,_,_,kb,ko,QV,Cr⟩:=hf.at;refine aR func103 rfl ntmps103 rfl (Wd.nil db w0) ?_;refine bA ?_;refine cN (val:=λx:ax×Nat=>.slice x.1 bs.length x.2) (cZ:=λx=>[aE x.1 bs.length x.2 bs]) (φ:=λ_=>True) rfl (λw hw=>MV _ _ bs A w (gV.cB du hw.c_)) λx _=>?_;obtain⟨ra,rc⟩:=x;simp only[bF,aS];refine aU ?_;refine dJ 3 1 ?_;have ce:∀(row out:List Int),JK bl bs row out->∀x∈out,∃c:Nat,x=c/\c<bl.length:=λrow out h x hx=>by
  obtain⟨c,e,hc⟩:=h.sound x hx;exact⟨c,e,hc.lt dV⟩
 refine bH (λ(x:List Int×(ax×Nat)×List Int×(ax×Nat))=>JK bl bs x.1 x.2.2.1/\x.1.length<=bs.length+x.2.2.1.length) (λx=>[(6,I x.2.1.1 x.1.length x.2.1.2),(5,I x.2.2.2.1 x.2.2.1.length x.2.2.2.2),(0,I fa bl.length fc)])
  (λx=>[aE x.2.2.2.1 x.2.2.1.length x.2.2.2.2 x.2.2.1,aE x.2.1.1 x.1.length x.2.1.2 x.1]) (λx=>(bl.length-x.2.2.1.length)*(bl.length+1)+x.1.length) (bs,(ra,rc),[],(U,0))
  ⟨N_ bl bs,by simp⟩ (aP V aF) λx ⟨hM,oG⟩=>?_
 obtain⟨row,⟨ra1,rc1⟩,out,⟨oa,oc⟩⟩:=x;simp only at hM oG|-
 have EJ:=wj hM.nodup (ce _ _ hM);refine bA ?_;apply aL<;>intro h1
 ·obtain⟨z,rest,rfl⟩:∃z rest,row=z::rest:=by
   cases row with
   |nil=>simp at h1
   |cons z rest=>exact⟨z,rest,rfl⟩
  have hzc:∃c:Nat,z=c/\c<bl.length:=(hM.rows z cK).elim (uB z) (ce _ _ hM z);obtain⟨c,rfl,QR⟩:=hzc;have hlc:cg c bl.length:=⟨QR⟩;have Q2:(((c:Int)::rest).length)=rest.length+1:=rfl;rw[Q2]at oG|-
  refine fy 1 rfl A λqb qo Dy=>?_;subst Dy;have ajZ:cg 0 (rest.length+1):=⟨A⟩;have abA:cl fa kb ko:=⟨QV (aZ (vU QR))⟩;obtain⟨_,G2,v,rfl,iy⟩:=Cr c _ (vU QR);have Sz:bu w0 kb (ko+c*1) [v]:=⟨G2⟩;have Bg:=iy;obtain⟨va,vn,vc,_,_,rfl,_⟩:=Bg;obtain⟨ET,acQ,uD,vb,vo,qt,DB⟩:=iy.at;refine aU ?_;have tP:=xl bl c;have hfm:∀x:Nat,(x:Int)∈gQ bl c↔iQ bl c x:=λx=>AN dV;have IF:∀x∈gQ bl c,∃d:Nat,x=d/\d<bl.length/\iQ bl c d:=λx hx=>xk hx;generalize gQ bl c=fs at*;refine bH (λ(x:Nat×List Int×(ax×Nat)×List Int×(ax×Nat))=>x.1<=vn/\ze bl bs c (fs.take x.1) x.2.1 x.2.2.2.1/\x.2.1.length+1<=bs.length+x.2.2.2.1.length/\(bl.length-x.2.2.2.1.length)*(bl.length+1)+x.2.1.length<=(bl.length-out.length)*(bl.length+1)+rest.length)
   (λx=>[(23,J Z x.1),(6,I x.2.2.1.1 (x.2.1.length+1) x.2.2.1.2),(5,I x.2.2.2.2.1 x.2.2.2.1.length x.2.2.2.2.2),(0,I fa bl.length fc),(21,I va vn vc),(22,J Z vn)])
   (λx=>[aE x.2.2.2.2.1 x.2.2.2.1.length x.2.2.2.2.2 x.2.2.2.1,aE x.2.2.1.1 (x.2.1.length+1) x.2.2.1.2 ((c:Int)::x.2.1)]) (λx=>vn-x.1) (0,rest,(O ⟨qb,qo,U⟩,rc1),out,(oa,oc))
   ⟨aN _,hM.head,oG,cz _⟩ (aP V aF) λx ⟨hj,hH,hRl,YU⟩=>?_
  obtain⟨j,R,⟨ra2,rc2⟩,wR,⟨oa2,oc2⟩⟩:=x;simp only at hj hH hRl YU|-
  have QY:∀x∈wR,∃c:Nat,x=c/\c<bl.length:=λx hx=>by
   obtain⟨c,e,hc⟩:=hH.sound x hx;exact⟨c,e,hc.lt dV⟩
  have YY:=wj hH.nodup QY;refine bA ?_;apply aL<;>intro h2
  ·have iS:j<vn:=aD h2
   obtain⟨y,hy⟩:=bE fs j A;obtain⟨d,rfl,hdn,hdf⟩:=IF y (aA hy);obtain⟨_,hc3,rfl,_⟩:=DB j _ hy;have agA:cl va vb vo:=⟨qt (aZ hy)⟩;have Dt:cg j vn:=⟨iS⟩;have hcv:bu w0 vb (vo+j*1) [J Z (d:Int)]:=⟨hc3⟩;have xC:fs.take (j+1)=fs.take j++[(d:Int)]:=by rw[bV,hy];rfl
   refine aU ?_;refine bY rfl (λw hw=>Ei _ wR d w (hw.nf (k:=0) rfl rfl A λi x hx=>⟨[J Z x],λj v hj=>by
    match j,hj with
    |0,hj=>simpa[hx]using hj,rfl,by
     obtain⟨e,rfl,he⟩:=QY x (aA hx);simp only[dE];omega⟩) ⟨_,_,_,rfl⟩) ?_
   generalize hd1:decide ((d:Int)∈wR)=d1;cases d1
   ·have oL:(d:Int)∉wR:=aD hd1
    have Iv:=hH.add hdf oL;have YZ:wR.length+1<=bl.length:=by
     have:=wj (n:=bl.length) Iv.nodup λx hx=>by
      obtain⟨c,e,hc⟩:=Iv.sound x hx;exact⟨c,e,hc.lt dV⟩
     rwa[bW,lm]at this
    have hmul:(bl.length-(wR.length+1))*(bl.length+1)+(bl.length+1)=(bl.length-wR.length)*(bl.length+1):=by
     rw[<-Nat.succ_mul,show(bl.length-(wR.length+1)).succ=bl.length-wR.length by omega]
    repeat(first|refine aU ?_|refine dd λ_ _=>?_)
    rename_i bt _;refine fB rfl rfl A A λa1 c1=>?_
    repeat(first|refine aU ?_|refine dd λ_ _=>?_)
    rename_i bt2 _;refine fB rfl rfl A A λa2 c2=>?_;refine mQ [2,3] (by decide) ?_;refine fU (H1:=[aE a1 (wR++[(d:Int)]).length c1 (wR++[(d:Int)]),aE a2 ((R++[(d:Int)]).length+1) c2 ((c:Int)::(R++[(d:Int)]))]) cK ?_;refine aU ?_;have gk:(wR++[(d:Int)]).length=wR.length+1:=by simp
    have UR:(R++[(d:Int)]).length=R.length+1:=by simp
    refine iC (L':=[(23,J Z ((j:Int)+1)),(6,I a2 ((R++[(d:Int)]).length+1) c2),(5,I a1 (wR++[(d:Int)]).length c1),(0,I fa bl.length fc),(21,I va vn vc),(22,J Z vn)]) (by rw[gk,UR];exact V) (.refl _) ?_;exact a_ (j+1,R++[(d:Int)],(a2,c2),wR++[(d:Int)],(a1,c1)) ⟨iS,by simp only[xC];exact Iv,by simp only[gk,UR];omega,by simp only[gk,UR];omega⟩ bB V aF
   ·have Gm:(d:Int)∈wR:=aD hd1
    refine aU ?_;exact a_ (j+1,R,(ra2,rc2),wR,(oa2,oc2)) ⟨iS,by simp only[xC];exact hH.pass Gm,hRl,YU⟩ bB V aF
  ·have fX:j=vn:=by have:=h2;simp at this;omega
   rw[fX,ET,cL]at hH;refine aV ?_;refine abr rfl A λa2=>?_;refine aU ?_;exact a_ (R,(a2,rc2-1),wR,(oa2,oc2)) ⟨hH.row λx hx=>(hfm x).2 hx,by simp only;omega⟩ (by simp only[lF];omega) V aF
 ·have hr0:row=[]:=by
   cases row with
   |nil=>rfl
   |cons z rest=>simp at h1
  subst hr0;have hsm:nU out=ru bl bs:=by
   unfold ru;refine Gx hM.nodup λx=>?_;rw[hM.mem];exact⟨λ⟨c,e,h⟩=>⟨c,e,h.lt dV,aD h⟩,λ⟨c,e,_,h⟩=>⟨c,e,aD h⟩⟩
  have pt:=FJ out;refine aV ?_;refine fO (H1:=[aE oa out.length oc out]) (H2:=[aE ra1 ([]:List Int).length rc1 ([]:List Int)]) (val:=λ_:Unit=>.tuple #[]) (cZ:=λ_=>[aE oa out.length oc (nU out)]) (φ:=λ_=>True) rfl (λw hw=>adm oa oc out A w hw.pre) λ_ _=>?_;rw[hsm]at pt|-
  rw[<-pt];refine aU ?_;exact dh rfl λw hw=>⟨(oa,oc),rfl,hw.sub (dN qy),trivial⟩
theorem Ik{f:FuncId}{args:List K}(hlen:bl.length<=100)(h:iL Y f args w0 λu w'=>∃x:Nat×List Row,u=I (O ⟨x.1,0,U⟩) bl.length bl.length/\Wd db w0 (G (O ⟨x.1,0,U⟩) bl.length bl.length 42 1 (x.2.map fi)::x.2.map gP) w'/\x.2.map (·.l)=ip bl):
  XR Y f args w0 1 (ip bl) dQ λv=>v:=
 ZP h λx hx=>⟨O ⟨x.1,0,U⟩,bl.length,by rw[sW],λw2 hw=>by
  have hl:x.2.length=bl.length:=by have:=bD List.length hx;rwa[aG,sW]at this
  rw[<-hx,aG];rw[<-hl]at hw|-
  exact WO (H:=[]) (by rw[cj];exact hw) A λr hr=>T9 hlen (hx▸aT.2 ⟨r,hr,rfl⟩)⟩
def wE(n:Nat)(l:List Int):Prop:=(jh l n).map (λx:Nat=>(x:Int))=l
theorem Qx(n:Nat):wE n []:=by simp[wE,jh]
theorem MR(n:Nat)(l:List Int):wE n ((jh l n).map λx:Nat=>(x:Int)):=by
 unfold wE;congr 1;unfold jh;refine lV λc hc=>?_;rw[kq,rx,cR];exact⟨λh=>aD h.2,λh=>⟨hc,aD h⟩⟩
theorem wE.lt(h:wE n l)(hx:x∈l):∃c:Nat,x=c/\c<n:=by
 rw[<-h]at hx;obtain⟨c,hc,rfl⟩:=aT.1 hx;exact⟨c,rfl,cW.1 (cR.1 hc).1⟩
theorem wE.len(h:wE n l):l.length<=n:=by
 have h1:=bD List.length h;have h2:=fC (λc:Nat=>decide ((c:Int)∈l)) (bj n);rw[aG]at h1;rw[d_]at h2;unfold jh at h1;omega
theorem wE.iK(h:wE bl.length l)(hm:∀x:Nat,(x:Int)∈l↔mN bl bs x):l=ru bl bs:=by
 classical
 rw[<-h];unfold ru jh;congr 1;exact lV λc _=>by rw[kq];exact hm c
theorem OB{x:Nat}:(x:Int)∈(jh l n).map (λx:Nat=>(x:Int))↔x<n/\(x:Int)∈l:=by
 rw[rx];unfold jh;rw[cR,cW];simp
noncomputable def agb(l:List Int)(n:Nat):Nat:=@rH (λy:Nat=>(y:Int)∈l) (λ_=>Classical.propDecidable _) n
theorem RP(nm pa re:K)(bl:List aq)(fbs:K)(qf:∃a n c,fbs=I a n c)(bs:List Int)(ba:ax)(bc:Nat)(w0:ae)(Ar:aY w0 fbs 6 bl da)(gV:aY w0 (I ba bs.length bc) 1 bs gI)(hlen:bl.length<=100)(dV:dK bl)(dW:0<bl.length):
  iL Y 83 [aC #[nm,pa,re,fbs],I ba bs.length bc] w0 λu w'=>∃x:ax×Nat,u=I x.1 (ru bl bs).length x.2/\Wd db w0 [aE x.1 (ru bl bs).length x.2 (ru bl bs)] w'/\True:=by
 classical
 obtain⟨M4,n,M5,rfl⟩:=qf;have hn:n=bl.length:=Ar.at.1;refine aR func83 rfl ntmps83 rfl (Wd.nil db w0) ?_
 repeat(first|refine bA ?_|refine dd λ_ _=>?_)
 rename_i p2 _;refine Ym (s:=1) (l:=ip bl) (dL:=dQ) (mk:=λv=>v) rfl (λw hw=>Ik hlen (On _ _ _ bl _ ⟨_,_,_,rfl⟩ w (Ar.cB cu hw.c_) hlen dV dW)) λka kc kp=>?_;rw[sW];refine aU ?_;refine mQ [1,0] (by decide) ?_;refine fU (H1:=[cS p2 nm pa re M4 n M5]++[(⟨kp,λw=>aY w (I ka bl.length kc) 1 (ip bl) dQ⟩:cq)]) rfl ?_;refine mA λw1 mS=>?_;have hkk:aY (cC (df [cS p2 nm pa re M4 n M5]) w1) (I ka bl.length kc) 1 (ip bl) dQ:=mS.beside (e:=(⟨kp,λw=>aY w (I ka bl.length kc) 1 (ip bl) dQ⟩:cq)) cK;have back:∀{cZ:List cq} {w:ae},Wd (df [cS p2 nm pa re M4 n M5]) (cC (df [cS p2 nm pa re M4 n M5]) w1) cZ w->Wd db w0 (cZ++[(⟨kp,λw=>aY w (I ka bl.length kc) 1 (ip bl) dQ⟩:cq)]) w:=λhw=>mS.comp hw.ni;have Ph:∀{cZ:List cq} {w:ae},Wd (df [cS p2 nm pa re M4 n M5]) (cC (df [cS p2 nm pa re M4 n M5]) w1) cZ w->∀p v,(cC (df [cS p2 nm pa re M4 n M5]) w1).cell? p=O v->w.cell? p=O v:=λhw=>hw.ov;have hold:∀{b o:Nat} {v:K} {l:List K},ct (cC (df [cS p2 nm pa re M4 n M5]) w1) b o (v::l)->iO (df [cS p2 nm pa re M4 n M5]) b:=λhc=>iF hc cK;have IA:=gV.cB du mS.IV;generalize cC (df [cS p2 nm pa re M4 n M5]) w1=wk at*;generalize df [cS p2 nm pa re M4 n M5]=SS at*;obtain⟨kb,ko,ajw,akx,aix⟩:=adn hkk hold (by intro e;have:=sW bl;rw[e]at this;simp at this;omega);refine dJ 3 1 ?_;refine bH (λ(x:Nat×List Int×ax×Nat)=>x.1<=bl.length+1/\wE bl.length x.2.1/\(∀y:Nat,(y:Int)∈x.2.1->mN bl bs y)/\(rR bl bs (λy=>(y:Int)∈x.2.1)\/x.1<=agb x.2.1 bl.length))
  (λx=>[(7,J Z x.1),(6,I x.2.2.1 x.2.1.length x.2.2.2),(5,I ka bl.length kc),(1,I ba bs.length bc)]) (λx=>[aE x.2.2.1 x.2.1.length x.2.2.2 x.2.1,cS p2 nm pa re M4 n M5]) (λx=>bl.length+1-x.1) (0,[],U,0) ⟨aN _,Qx _,cK,.inr (aN _)⟩ (aP V aF) λx ⟨hk,hc,hs,hr⟩=>?_
 obtain⟨k,l0,la0,eO⟩:=x;simp only at hk hc hs hr|-
 refine bA ?_;apply aL<;>intro h1
 ·have ce:k<bl.length+1:=by have:=h1;simp at this;omega
  refine aU ?_;refine bH (λ(x:Nat×List Int×ax×Nat)=>x.1<=bl.length/\wE bl.length x.2.1/\ul bl bs (λy=>(y:Int)∈l0) x.1 (λy=>(y:Int)∈x.2.1))
   (λx=>[(8,J Z x.1),(7,J Z k),(6,I x.2.2.1 x.2.1.length x.2.2.2),(5,I ka bl.length kc),(1,I ba bs.length bc)]) (λx=>[aE x.2.2.1 x.2.1.length x.2.2.2 x.2.1,cS p2 nm pa re M4 n M5]) (λx=>bl.length-x.1) (0,l0,la0,eO) ⟨aN _,hc,IY hs⟩ (aP V aF) λx ⟨hb,kV,hM⟩=>?_
  obtain⟨b,l,la,lc⟩:=x;simp only at hb kV hM|-
  have Du:=kV.len;refine bA ?_;apply aL<;>intro h2
  ·have jX:b<bl.length:=aD h2
   have SD:cg b bl.length:=⟨jX⟩;obtain⟨va,vc,abT,iy⟩:=aix b _ (vU jX);have KK:∀x∈l,dE x:=λx hx=>by
    obtain⟨c,rfl,hc⟩:=kV.lt hx;simp only[dE];omega
   have pt:∀(w:ae) (H:List cq),Wd SS wk (aE la l.length lc l::H) w->aY w (I la l.length lc) 1 l gI:=λw H hw=>hw.nf (k:=0) rfl rfl A λi x hx=>⟨[J Z x],λj v hj=>by
    match j,hj with
    |0,hj=>simpa[hx]using hj,rfl,KK x (aA hx)⟩
   refine aU ?_;refine bY rfl (λw hw=>u_ _ bs b w (aY.mono (dL:=gI) (w:=wk) (w':=w) (λ_ _ h=>h) (Ph hw) IA)) ?_
   by_cases uB:(b:Int)∈bs\/(b:Int)∈l
   ·have Av:(gQ bl b).length<=bl.length:=wj (xl bl b) λx hx=>(xk hx).imp λc h=>⟨h.1,h.2.1⟩
    refine Or.elim (Classical.em ((b:Int)∈bs)) (λh=>?_) (λh=>?_);rw[fQ h];refine cT ?_;refine iC (L':=[(8,J Z b),(7,J Z k),(6,I la l.length lc),(5,I ka bl.length kc),(1,I ba bs.length bc)]) V (.refl _) ?_;rotate_left;rw[gx h];refine aV ?_;refine bY rfl (λw hw=>u_ _ l b w (pt w _ hw)) ?_;rw[fQ (uB.resolve_left h)];refine aU ?_;refine iC (L':=[(8,J Z b),(7,J Z k),(6,I la l.length lc),(5,I ka bl.length kc),(1,I ba bs.length bc)]) V (.refl _) ?_;rotate_left
    all_goals
     refine vX [aE la l.length lc l,cS p2 nm pa re M4 n M5] mixed aF ?_;refine W 1 ?_;refine W 3 ?_;refine W 4 ?_;refine W 5 ?_;refine W 6 ?_;refine Uh 0 rfl E aF λeb _=>?_;refine uZ 2 0 rfl rfl rfl l (dL:=gI) (λx=>[J Z x]) (λ_ _ _ h=>h.1) (λ_=>rfl) (λy u hu=>by simp only[bQ]at hu;subst hu;rfl) (λw hw=>pt w _ (hw.sub (gh _ _))) A A E (λ_=>aB) λa1 c1=>?_;rw[ol,aS,eC];simp only[bI];refine uZ 7 0 rfl rfl rfl (gQ bl b) (dL:=gI) (λx=>[J Z x]) (λ_ _ _ h=>h.1) (λ_=>rfl) (λy u hu=>by simp only[bQ]at hu;subst hu;rfl) (λw hw=>aY.mono (dL:=gI) (w:=wk) (w':=w) (λ_ _ h=>h) (Ph hw) iy) A A E (λ_=>aB) λa2 c2=>?_;rw[ol,<-bz];simp only[bI];refine iC (L':=[(38,I a2 (l.length+(gQ bl b).length) c2),(8,J Z b),(7,J Z k),(5,I ka bl.length kc),(1,I ba bs.length bc)]) V (.refl _) ?_;refine W 8 ?_;refine ef E ?_;refine bA ?_;refine cN (val:=λx:ax×Nat=>.slice x.1 (jh (l++gQ bl b) bl.length).length x.2) (cZ:=λx=>[G x.1 (jh (l++gQ bl b) bl.length).length x.2 3 1 ((jh (l++gQ bl b) bl.length).map dz)]) (φ:=λ_=>True) rfl (λw hw=>LX _ ⟨_,_,_,rfl⟩ (l++gQ bl b) bl.length A w (hw.nf (k:=0) rfl cK A λi x hx=>⟨[J Z x],λj v hj=>by
      match j,hj with
      |0,hj=>
       rw[aW,km,dR,hx];simpa using hj,rfl,(bO.1 (aA hx)).elim (KK x) λh=>by
      obtain⟨c,rfl,hc,_⟩:=xk h;simp only[dE];omega⟩)) λy _=>?_
     obtain⟨sa,sc⟩:=y;simp only[bF,aS];have yS:((jh (l++gQ bl b) bl.length).map λx:Nat=>(x:Int)).length=(jh (l++gQ bl b) bl.length).length:=by simp
     refine fU (H1:=aE sa ((jh (l++gQ bl b) bl.length).map λx:Nat=>(x:Int)).length sc ((jh (l++gQ bl b) bl.length).map λx:Nat=>(x:Int))::[aE a2 (l.length+(gQ bl b).length) c2 (l++gQ bl b),aE la l.length lc l,cS p2 nm pa re M4 n M5]) (by rw[yS,<-Bo]) ?_;refine aU ?_;refine iC (L':=[(8,J Z ((b:Int)+1)),(7,J Z k),(6,I sa ((jh (l++gQ bl b) bl.length).map λx:Nat=>(x:Int)).length sc),(5,I ka bl.length kc),(1,I ba bs.length bc)]) (by rw[yS];exact V) (.refl _) ?_;exact a_ (b+1,((jh (l++gQ bl b) bl.length).map λx:Nat=>(x:Int)),sa,sc) ⟨jX,MR _ _,hM.take uB λx=>by
      simp only;rw[OB,bO,AN dV];exact⟨λh=>h.2,λh=>⟨h.elim (λh=>by obtain⟨c,e,hc⟩:=kV.lt h;omega) λh=>h.lt dV,h⟩⟩⟩ bB V (dN (.cons _ (.cons _ (.refl _))))
   ·have h1:¬(b:Int)∈bs:=λh=>uB (.inl h)
    have h2:¬(b:Int)∈l:=λh=>uB (.inr h);rw[gx h1];refine aV ?_;refine bY rfl (λw hw=>u_ _ l b w (pt w _ hw)) ?_;rw[gx h2];refine aU ?_;exact a_ (b+1,l,la,lc) ⟨jX,kV,hM.pass uB⟩ bB V aF
  ·have fX:b=bl.length:=by have:=h2;simp at this;omega
   rw[fX]at hM;refine aV ?_;exact a_ (k+1,l,la,lc) ⟨ce,kV,hM.sound,hM.next dV dW hr⟩ bB V aF
 ·have fX:k=bl.length+1:=by have:=h1;simp at this;omega
  rw[fX]at hr;have hl:=hc.iK (N9 hs hr);refine aV ?_;exact dh rfl λw hw=>⟨(la0,eO),by rw[<-hl],by rw[<-hl];exact(back hw).sub (dN qy),trivial⟩
end
end Go.Proofs.YthfhgolkafpmnaaGreatDoor
