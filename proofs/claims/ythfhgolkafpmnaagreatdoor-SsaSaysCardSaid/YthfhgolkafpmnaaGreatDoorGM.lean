/- Lemmas. -/
import Derived.Sort.Grow
import Derived.Sort.Row
import Derived.Test.YthfhgolkafpmnaaGreatDoorGG
import Derived.Test.YthfhgolkafpmnaaGreatDoorGH
namespace Go.Proofs.YthfhgolkafpmnaaGreatDoor
open Go.Value renaming int->J,slice->I,pointer->aO,string->aQ,bool->ag
open Go.IntKind renaming i64->Z
open Option renaming some->O,none->U
open Go renaming Value->K,World->ae
open List renaming range->bj
open Go.Code renaming wpIn->eY
open Go.Region renaming wanted->fq,ready->eZ
open Go.Proofs.Tryz
open Go.Proofs.Tryz renaming prog->Y
open Go Go.RowKit
variable {tJ:Array Nat} {H:List cq} {l:List Int} {args:List Operand} {cs vs xs zs:List K} {T b qz c c2 d e f k m n o s ty:Nat} {S:Nat->Prop} {p:Prop} {α β:Type} {v:K} {mk:K->K} {w w0:ae}
section
def cq.join(H:List cq):cq:=⟨df H,λw=>(∀e∈H,∀w2:ae,w.heap.size<=w2.heap.size->(∀b,e.fp b->w2.heap[b]?=w.heap[b]?)->e.ok w2)/\H.Pairwise λe f=>∀b,e.fp b->¬f.fp b⟩
section
variable {P:Program} {N:Nat} {ds:List Deferred} {S:Nat->Prop} {w0 w:ae} {L:List (Nat×K)} {H H1 H2:List cq} {p:Act->ae->Prop}
theorem Wd.join(h:Wd S w0 (H1++H2) w):Wd S w0 (cq.join H1::H2) w:=by
 have AW:=qV.1 h.apart;refine⟨h.c_,λe he b hb=>?_,λe he w' hs kE=>?_,jm.2 ⟨λf hf b ⟨e,he,hb⟩=>AW.2.2 e he f hf b hb,AW.2.1⟩⟩
 ·rcases bX.1 he with rfl|he
  ·obtain⟨f,hf,hb⟩:=hb
   exact h.own f (cM _ hf) b hb
  ·exact h.own e (en _ he) b hb
 ·rcases bX.1 he with rfl|he
  ·exact⟨λf hf w2 NG lP=>h.ok f (cM _ hf) w2 (dS hs NG) λb hb=>(lP b hb).trans (kE b ⟨f,hf,hb⟩),AW.1⟩
  ·exact h.ok e (en _ he) w' hs kE
theorem Wd.nh(h:Wd S w0 (cq.join H1::H2) w):Wd S w0 (H1++H2) w:=by
 have AW:=jm.1 h.apart;have hj:=h.get (k:=0) rfl;refine⟨h.c_,λe he b hb=>?_,λe he w' hs kE=>?_,qV.2 ⟨hj.2,AW.2,λe he f hf b hb=>AW.1 f hf b ⟨e,he,hb⟩⟩⟩
 ·rcases bO.1 he with he|he
  ·exact h.own (cq.join H1) bT b ⟨e,he,hb⟩
  ·exact h.own e (ey _ he) b hb
 ·rcases bO.1 he with he|he
  ·exact hj.1 e he w' hs kE
  ·exact h.ok e (ey _ he) w' hs kE
theorem yv(k:cU N ds S w0 L (cq.join H1::H2) p):cU N ds S w0 L (H1++H2) p:=λa w hS=>k a w ⟨hS.fr,hS.wd.join⟩
theorem uY(k:cU N ds S w0 L (H1++H2) p):cU N ds S w0 L (cq.join H1::H2) p:=λa w hS=>k a w ⟨hS.fr,hS.wd.nh⟩
end
def mm(v:cI):List K:=[ag v.dq,J Z v.n]
structure ch where
 dst:Int
 a:ax
 c:Nat
 l:List cI
structure dP where
 x:iA
 a:ax
 c:Nat
structure aK where
 pa:ax
 pc:Nat
 ps:List ch
 la:ax
 lc:Nat
 xs:List dP
 kind:Int
 on:cI
 ta:ax
 tc:Nat
 to:List Int
def ch.iN(p:ch):gD:=⟨p.dst,p.l⟩
def aK.dD(b:aK):aq:=⟨b.ps.map ch.iN,b.xs.map (·.x),b.kind,b.on,b.to⟩
def iz(p:ch):List K:=[J Z p.dst,I p.a p.l.length p.c]
def ki(i:dP):List K:=[J Z i.x.op,J Z i.x.dst,ag i.x.a.dq,J Z i.x.a.n,ag i.x.b.dq,J Z i.x.b.n,J Z i.x.fn,I i.a i.x.args.length i.c]
def eA(b:aK):List K:=[I b.pa b.ps.length b.pc,I b.la b.xs.length b.lc,J Z b.kind,ag b.on.dq,J Z b.on.n,I b.ta b.to.length b.tc]
abbrev D(p:Nat)(x0:ByteArray)(x1:Int)(x2:Int)(x3:Option Addr)(x4:Nat)(x5:Nat):cq:=aM p [aQ x0,J Z x1,J Z x2,I x3 x4 x5] 35
abbrev aj(p:Nat):cq:=aM p [aQ sR,J Z 0,J Z 0,I U 0 0] 35
abbrev am(a:Option Addr)(n c:Nat)(l:List aK):cq:=G a n c 46 6 (l.flatMap eA)
abbrev au(p:Nat)(x0:Option Addr)(x1:Nat)(x2:Nat)(x3:Option Addr)(x4:Nat)(x5:Nat)(x6:Int)(x7:cI)(x8:Option Addr)(x9:Nat)(x10:Nat):cq:=aM p [I x0 x1 x2,I x3 x4 x5,J Z x6,ag x7.dq,J Z x7.n,I x8 x9 x10] 46
abbrev ar(a:Option Addr)(n c:Nat)(l:List cI):cq:=G a n c 41 2 (l.flatMap mm)
abbrev aw(a:Option Addr)(n c:Nat)(l:List ch):cq:=G a n c 49 2 (l.flatMap iz)
abbrev aE(a:Option Addr)(n c:Nat)(l:List Int):cq:=G a n c 3 1 (l.map (J Z))
abbrev aH(a:Option Addr)(n c:Nat)(l:List dP):cq:=G a n c 56 8 (l.flatMap ki)
abbrev cw(p:Nat)(x0:Option Addr)(x1:Nat)(x2:Nat)(x3:Option Addr)(x4:Nat)(x5:Nat):cq:=aM p [I x0 x1 x2,I x3 x4 x5] 25
abbrev cS(p:Nat)(x0:K)(x1:K)(x2:K)(x3:Option Addr)(x4:Nat)(x5:Nat):cq:=aM p [x0,x1,x2,I x3 x4 x5] 35
abbrev bK(p:Nat)(x0:Int)(x1:Int)(x2:cI)(x3:cI)(x4:Int)(x5:Option Addr)(x6:Nat)(x7:Nat):cq:=aM p [J Z x0,J Z x1,ag x2.dq,J Z x2.n,ag x3.dq,J Z x3.n,J Z x4,I x5 x6 x7] 56
abbrev cJ(p:Nat)(x0:Option Addr)(x1:Nat)(x2:Nat):cq:=aM p [I x0 x1 x2] 47
abbrev bN(p:Nat)(x0:Int)(x1:Option Addr)(x2:Nat)(x3:Nat):cq:=aM p [J Z x0,I x1 x2 x3] 49
abbrev eG(p:Nat)(x0:Int):cq:=aM p [J Z x0] 3
abbrev fS(p:Nat)(x0:Int)(x1:Int):cq:=aM p [J Z x0,J Z x1] 28
abbrev cO(p:Nat)(x0:cI):cq:=aM p [ag x0.dq,J Z x0.n] 41
abbrev eK(p:Nat)(x0:Bool)(x1:Int):cq:=aM p [ag x0,J Z x1] 41
abbrev fT(p:Nat)(x0:Option Addr)(x1:Nat)(x2:Nat)(x3:Option Addr)(x4:Nat)(x5:Nat)(x6:Int)(x7:Bool)(x8:Int)(x9:Option Addr)(x10:Nat)(x11:Nat):cq:=aM p [I x0 x1 x2,I x3 x4 x5,J Z x6,ag x7,J Z x8,I x9 x10 x11] 46
abbrev iH(p:Nat)(x0:Option Addr)(x1:Option Addr)(x2:Nat)(x3:Nat)(x4:Option Addr)(x5:Nat)(x6:Nat)(x7:Int):cq:=aM p [aO x0,I x1 x2 x3,I x4 x5 x6,J Z x7] 102
abbrev mO(p:Nat)(x0:K)(x1:Int)(x2:K)(x3:Option Addr)(x4:Nat)(x5:Nat):cq:=aM p [x0,J Z x1,x2,I x3 x4 x5] 35
abbrev iI(p:Nat)(x0:Int)(x1:cI):cq:=aM p [J Z x0,ag x1.dq,J Z x1.n] 200
open Classical in
theorem fM{l l1:List cq}(h:∀e,l.count e=l1.count e:=by intro e;simp+zetaDelta only[bU,bM,dG,D,aj,am,au,ar,aw,aE,aH,cw,cS,bK,cJ,bN,eG,fS,cO,eK,fT,iH,mO,iI];omega):l.Perm l1:=aX.2 h
theorem kg(h:p:=by first|exact dU _|(simp;done)|simp[D,aj,am,au,ar,aw,aE,aH,cw,cS,bK,cJ,bN,eG,fS,cO,eK,fT,iH,mO,iI]):p:=h
theorem cK(h:p:=by first|(simp;done)|simp[D,aj,am,au,ar,aw,aE,aH,cw,cS,bK,cJ,bN,eG,fS,cO,eK,fT,iH,mO,iI]):p:=h
def dZ(p:ch):cq:=G p.a p.l.length p.c 41 2 (p.l.flatMap mm)
def gC(i:dP):cq:=G i.a i.x.args.length i.c 41 2 (i.x.args.flatMap mm)
def ij(b:aK):List cq:=G b.pa b.ps.length b.pc 49 2 (b.ps.flatMap iz)::G b.la b.xs.length b.lc 56 8 (b.xs.flatMap ki)::G b.ta b.to.length b.tc 3 1 (b.to.map (J Z))::(b.ps.map dZ++b.xs.map gC)
def bP(b:aK):cq:=cq.join (ij b)
def XQ(_:ae)(p:ch)(cs:List K):Prop:=cs=iz p
def ME(_:ae)(i:dP)(cs:List K):Prop:=cs=ki i
def XL(_:ae)(b:aK)(cs:List K):Prop:=cs=eA b
def MF(_:ae)(v:cI)(cs:List K):Prop:=cs=mm v
theorem vE{a:ax}{l:List α}{dL:ae->α->List K->Prop}{FY:ae->β->List K->Prop}{q:α->β->Prop}(h:aY w (I a n c) s l dL)(hp:∀x∈l,∀cs,dL w x cs->∃y,FY w y cs/\q x y):
  ∃m:List β,m.length=l.length/\aY w (I a n c) s m FY/\∀(i:Nat) x,l[i]?=O x->∃y,m[i]?=O y/\q x y:=by
 obtain⟨hn,qg,hb,b,o,ha,iw⟩:=h.at;obtain⟨_,_,_,_,_,e,_,_,_,abL,_⟩:=id h;simp only[Value.slice.injEq]at e;obtain⟨ys,vK,hys⟩:=Hn (p:=λi x y=>∃cs,ct w b (o+i*s) cs/\FY w y cs/\q x y) l λi x hx=>by
  obtain⟨cs,hc,hv⟩:=iw i x hx;obtain⟨y,h1,h2⟩:=hp x (aA hx) cs hv;exact⟨y,cs,hc,h1,h2⟩
 refine⟨ys,vK,⟨a,n,c,b,o,rfl,A,qg,hb,A,λfZ=>ha λe=>fZ (nr (by rw[vK,e];rfl)),λi y hy=>?_⟩,λi x hx=>?_⟩
 ·have iM:i<l.length:=by rw[<-vK];exact(aJ.1 hy).1
  obtain⟨y',SL,cs,hc,hu,_⟩:=hys i l[i] (bL iM);rw[hy]at SL;obtain rfl:=bJ SL;exact⟨cs,hc,hu⟩
 ·obtain⟨y,hy,cs,_,_,hq⟩:=hys i x hx
  exact⟨y,hy,hq⟩
theorem xI{f:β->α}{l:List α}{m:List β}(hl:m.length=l.length)(h:∀(i:Nat) x,l[i]?=O x->∃y,m[i]?=O y/\f y=x):m.map f=l:=by
 apply cY;intro i
 by_cases hi:i<l.length
 ·obtain⟨y,hy,e⟩:=h i l[i] (bL hi)
  rw[aW,hy,bL hi,<-e];rfl
 ·rw[cm dr,cm A]
theorem Ws{l:List gD}(h:aY w v 2 l B_):∃(a:ax) (c:Nat) (ps:List ch),v=I a ps.length c/\ps.map ch.iN=l/\aY w v 2 ps XQ/\∀p∈ps,dE p.dst/\aY w (I p.a p.l.length p.c) 2 p.l mp:=by
 obtain⟨a,n,c,b,o,rfl,hn,_⟩:=id h;obtain⟨m,wO,pt,hq⟩:=vE (FY:=XQ) (q:=λx y=>ch.iN y=x/\dE y.dst/\aY w (I y.a y.l.length y.c) 2 y.l mp) h λx _ cs ⟨v,e,hd,hs⟩=>by
  have NF:=hs;obtain⟨a',n',c',_,_,rfl,SE,_⟩:=NF;subst SE;exact⟨⟨x.dst,a',c',x.src⟩,e,rfl,hd,hs⟩
 have Cu:=xI (f:=ch.iN) wO λi x hx=>by
  obtain⟨y,hy,e,_⟩:=hq i x hx;exact⟨y,hy,e⟩
 refine⟨a,c,m,by rw[wO,hn],Cu,pt,λp hp=>?_⟩;obtain⟨i,hi⟩:=bR hp;obtain⟨y,hy,_,h2⟩:=hq i (l[i]'(by rw[<-wO];exact(aJ.1 hi).1)) (bL _);rw[hi]at hy;obtain rfl:=bJ hy;exact h2
theorem Vv{l:List iA}(h:aY w v 8 l Dm):∃(a:ax) (c:Nat) (xs:List dP),v=I a xs.length c/\xs.map (·.x)=l/\aY w v 8 xs ME/\∀i∈xs,(dE i.x.op/\dE i.x.dst/\dE i.x.a.n/\dE i.x.b.n/\dE i.x.fn)/\aY w (I i.a i.x.args.length i.c) 2 i.x.args mp:=by
 obtain⟨a,n,c,b,o,rfl,hn,_⟩:=id h;obtain⟨m,wO,pt,hq⟩:=vE (FY:=ME) (q:=λx y=>y.x=x/\(dE y.x.op/\dE y.x.dst/\dE y.x.a.n/\dE y.x.b.n/\dE y.x.fn)/\aY w (I y.a y.x.args.length y.c) 2 y.x.args mp) h λx _ cs ⟨v,e,h1,h2,h3,h4,h5,hs⟩=>by
  have NF:=hs;obtain⟨a',n',c',_,_,rfl,SE,_⟩:=NF;subst SE;exact⟨⟨x,a',c'⟩,e,rfl,⟨h1,h2,h3,h4,h5⟩,hs⟩
 have Cu:=xI (f:=λi:dP=>i.x) wO λi x hx=>by
  obtain⟨y,hy,e,_⟩:=hq i x hx;exact⟨y,hy,e⟩
 refine⟨a,c,m,by rw[wO,hn],Cu,pt,λp hp=>?_⟩;obtain⟨i,hi⟩:=bR hp;obtain⟨y,hy,_,h2⟩:=hq i (l[i]'(by rw[<-wO];exact(aJ.1 hi).1)) (bL _);rw[hi]at hy;obtain rfl:=bJ hy;exact h2
structure qk(w:ae)(b:aK):Prop where
 kind:dE b.kind
 on:dE b.on.n
 bg:aY w (I b.pa b.ps.length b.pc) 2 b.ps XQ
 iN:∀p∈b.ps,dE p.dst/\aY w (I p.a p.l.length p.c) 2 p.l mp
 list:aY w (I b.la b.xs.length b.lc) 8 b.xs ME
 ins:∀i∈b.xs,(dE i.x.op/\dE i.x.dst/\dE i.x.a.n/\dE i.x.b.n/\dE i.x.fn)/\aY w (I i.a i.x.args.length i.c) 2 i.x.args mp
 to:aY w (I b.ta b.to.length b.tc) 1 b.to gI
theorem xe{l:List aq}(h:aY w v 6 l da):∃(a:ax) (c:Nat) (bs:List aK),v=I a bs.length c/\bs.map aK.dD=l/\aY w v 6 bs XL/\∀b∈bs,qk w b:=by
 obtain⟨a,n,c,b,o,rfl,hn,_⟩:=id h;obtain⟨m,wO,pt,hq⟩:=vE (FY:=XL) (q:=λx y=>aK.dD y=x/\qk w y) h λx _ cs ⟨p,l,t,e,h1,h2,hp,hl,ht⟩=>by
  obtain⟨pa,pc,ps,rfl,hp1,Ps,hp3⟩:=Ws hp;obtain⟨la,lc,xs,rfl,gk,UR,hl3⟩:=Vv hl;have IK:=ht;obtain⟨ta,tn,tc,_,_,rfl,qZ,_⟩:=IK;subst qZ;exact⟨⟨pa,pc,ps,la,lc,xs,x.kind,x.on,ta,tc,x.to⟩,e,by simp[aK.dD,hp1,gk],⟨h1,h2,Ps,hp3,UR,hl3,ht⟩⟩
 have Cu:=xI (f:=aK.dD) wO λi x hx=>by
  obtain⟨y,hy,e,_⟩:=hq i x hx;exact⟨y,hy,e⟩
 refine⟨a,c,m,by rw[wO,hn],Cu,pt,λp hp=>?_⟩;obtain⟨i,hi⟩:=bR hp;obtain⟨y,hy,_,h2⟩:=hq i (l[i]'(by rw[<-wO];exact(aJ.1 hi).1)) (bL _);rw[hi]at hy;obtain rfl:=bJ hy;exact h2
theorem sq{m:List β}{FY:ae->β->List K->Prop}{dL:ae->α->List K->Prop}(f:β->α)(h:aY w v s m FY)(hv:∀y∈m,∀cs,FY w y cs->dL w (f y) cs):aY w v s (m.map f) dL:=by
 obtain⟨a,n,c,b,o,rfl,hn,qg,hb,Mm,ha,iw⟩:=h;refine⟨a,n,c,b,o,rfl,aD hn,qg,hb,Mm,λfZ=>ha λe=>fZ (by rw[e];rfl),λi x hx=>?_⟩;rw[aW]at hx;obtain⟨y,hy,rfl⟩:=ff.1 hx;obtain⟨cs,hc,hu⟩:=iw i y hy;exact⟨cs,hc,hv y (aA hy) cs hu⟩
theorem lW(h:Wd S w0 H w){a:ax}{l:List α}{g:α->List K}(hk:H[k]?=O (G a l.length c e s (l.flatMap g)))(hg:∀x,(g x).length=s)(hb:l.length<=100000):aY w (I a l.length c) s l λ_ x cs=>cs=g x:=by
 refine h.nf hk rfl A λi x hx=>⟨g x,λj v hj=>e_ hg l i x j v hx hj,rfl⟩
theorem eP(p:ch):(iz p).length=2:=rfl
theorem ep(i:dP):(ki i).length=8:=rfl
theorem de(b:aK):(eA b).length=6:=rfl
theorem eQ(v:cI):(mm v).length=2:=rfl
theorem Xg{l:List cI}(h:aY w v 2 l MF)(hb:∀x∈l,dE x.n):aY w v 2 l mp:=by
 have:=sq (dL:=mp) id h λy hy cs hc=>⟨hc,hb y hy⟩;rwa[pF]at this
theorem wC{l:List cI}(h:aY w v 2 l mp):aY w v 2 l MF:=by
 have:=sq (dL:=MF) id h λy _ cs hc=>hc.1;rwa[pF]at this
theorem OL{l:List cI}(h:aY w v 2 l mp):∀x∈l,dE x.n:=λx hx=>by
 obtain⟨_,_,_,_,_,_,_,_,_,_,_,iw⟩:=h;obtain⟨i,hi⟩:=bR hx;obtain⟨_,_,_,h2⟩:=iw i x hi;exact h2
theorem NT(h:aY w v 1 l gI):∀x∈l,dE x:=λx hx=>by
 obtain⟨_,_,_,_,_,_,_,_,_,_,_,iw⟩:=h;obtain⟨i,hi⟩:=bR hx;obtain⟨_,_,_,h2⟩:=iw i x hi;exact h2
structure aK.Bd(b:aK):Prop where
 kind:dE b.kind
 on:dE b.on.n
 bg:b.ps.length<=1000
 iN:∀p∈b.ps,dE p.dst/\p.l.length<=1000/\∀v∈p.l,dE v.n
 list:b.xs.length<=1000
 ins:∀i∈b.xs,(dE i.x.op/\dE i.x.dst/\dE i.x.a.n/\dE i.x.b.n/\dE i.x.fn)/\i.x.args.length<=1000/\∀v∈i.x.args,dE v.n
 to:b.to.length<=1000/\∀t∈b.to,dE t
theorem qk.bd{b:aK}(h:qk w b)(h1:b.ps.length<=1000)(h2:∀p∈b.ps,p.l.length<=1000)(h3:b.xs.length<=1000)(h4:∀i∈b.xs,i.x.args.length<=1000)(h5:b.to.length<=1000):b.Bd:=
 ⟨h.kind,h.on,h1,λp hp=>⟨(h.iN p hp).1,h2 p hp,OL (h.iN p hp).2⟩,h3,λi hi=>⟨(h.ins i hi).1,h4 i hi,OL (h.ins i hi).2⟩,h5,NT h.to⟩
theorem Wd.bi{b:aK}(h:Wd S w0 (ij b++H) w)(hb:b.Bd):qk w b:=by
 have hp:∀p∈b.ps,dZ p∈ij b++H:=λp hp=>cM _ (by unfold ij;simp only[bX,bO,aT];exact .inr (.inr (.inr (.inl ⟨p,hp,rfl⟩))));have hi:∀i∈b.xs,gC i∈ij b++H:=λi hi=>cM _ (by unfold ij;simp only[bX,bO,aT];exact .inr (.inr (.inr (.inr ⟨i,hi,rfl⟩))));refine⟨hb.kind,hb.on,lW h (k:=0) rfl eP (by have:=hb.bg;omega),λp zS=>?_,lW h (k:=1) rfl ep (by have:=hb.list;omega),λi Jv=>?_,?_⟩
 ·obtain⟨h1,h2,h3⟩:=hb.iN p zS
  obtain⟨k,hk⟩:=bR (hp p zS);exact⟨h1,Xg (lW h hk eQ A) h3⟩
 ·obtain⟨h1,h2,h3⟩:=hb.ins i Jv
  obtain⟨k,hk⟩:=bR (hi i Jv);exact⟨h1,Xg (lW h hk eQ A) h3⟩
 ·refine h.nf (k:=2) rfl rfl (by have:=hb.to.1;omega) λi x hx=>⟨[J Z x],λj v hj=>?_,rfl,hb.to.2 x (aA hx)⟩
  match j,hj with
  |0,hj=>simpa[hx]using hj
theorem ML{bs:List aK}(h:aY w v 6 bs XL)(hb:∀b∈bs,qk w b):aY w v 6 (bs.map aK.dD) da:=
 sq aK.dD h λb hm cs hc=>by
  have hB:=hb b hm;refine⟨_,_,_,hc,hB.kind,hB.on,sq ch.iN hB.bg λp hp cs hc=>⟨_,hc,hB.iN p hp⟩,sq (λi:dP=>i.x) hB.list λi hi cs hc=>?_,hB.to⟩;obtain⟨⟨h1,h2,h3,h4,h5⟩,h6⟩:=hB.ins i hi;exact⟨_,hc,h1,h2,h3,h4,h5,h6⟩
theorem Wd.blocks{ba:ax}{bc:Nat}{bs:List aK}(h:Wd S w0 (G ba bs.length bc 46 6 (bs.flatMap eA)::(bs.map bP++H)) w)(hn:bs.length<=1000)(hb:∀b∈bs,b.Bd):aY w (I ba bs.length bc) 6 (bs.map aK.dD) da:=by
 refine ML (lW h (k:=0) rfl de A) λb hm=>?_;have EH:bP b∈G ba bs.length bc 46 6 (bs.flatMap eA)::(bs.map bP++H):=by
  simp only[bX,bO,aT];exact .inr (.inl ⟨b,hm,rfl⟩)
 obtain⟨k,hk⟩:=bR EH;have h1:=(h.perm (lh hk)).nh;exact h1.bi (hb b hm)
end
section
set_option maxHeartbeats 8000000
attribute [local irreducible] wpListIn Code.wpIn Exit.then Exit.inBlock bodyPost wpQuiet wpAnyIn wpAnyH
theorem zH(a:ax)(c:Nat)(l:List cI)(hb:l.length<=100000)(w0:ae)(h:aY w0 (I a l.length c) 2 l MF):
  iL Y 96 [I a l.length c] w0 λu w'=>∃x:ax×Nat,u=I x.1 l.length x.2/\Wd db w0 [G x.1 l.length x.2 41 2 (l.flatMap mm)] w'/\True:=by
 refine aR func96 rfl ntmps96 rfl (Wd.nil db w0) ?_;refine bA ?_;cases a with
 |none=>
  have II:l=[]:=by
   obtain⟨_,_,_,b,o,ha,_⟩:=h.at;exact it λhn=>by cases ha hn
  subst II;refine aV ?_;refine dJ 41 2 ?_;exact dh rfl λw hw=>⟨(U,0),rfl,hw,trivial⟩
 |some ad=>
  refine aU ?_;refine lN rfl λeb _=>?_;refine bA ?_;refine kZ rfl rfl l mm (λ_ _ _ h=>h) (λ_=>rfl) (λy u hu=>by simp only[mm,bX,gr,or_false]at hu;rcases hu with rfl|rfl<;>rfl) (λw hw=>h.cB (λ_ _ _ _ _ h=>h) hw.c_) A A λa' c'=>?_;rw[aS,eC];refine aU ?_;exact dh rfl λw hw=>⟨(a',c'),rfl,hw,trivial⟩
theorem MX(a:ax)(c:Nat)(l:List ch)(hb:l.length<=100000)(w0:ae)(h:aY w0 (I a l.length c) 2 l XQ):
  iL Y 95 [I a l.length c] w0 λu w'=>∃x:ax×Nat,u=I x.1 l.length x.2/\Wd db w0 [G x.1 l.length x.2 49 2 (l.flatMap iz)] w'/\True:=by
 refine aR func95 rfl ntmps95 rfl (Wd.nil db w0) ?_;refine bA ?_;cases a with
 |none=>
  have II:l=[]:=by
   obtain⟨_,_,_,b,o,ha,_⟩:=h.at;exact it λhn=>by cases ha hn
  subst II;refine aV ?_;refine dJ 49 2 ?_;exact dh rfl λw hw=>⟨(U,0),rfl,hw,trivial⟩
 |some ad=>
  refine aU ?_;refine lN rfl λeb _=>?_;refine bA ?_;refine kZ rfl rfl l iz (λ_ _ _ h=>h) (λ_=>rfl) (λy u hu=>by simp only[iz,bX,gr,or_false]at hu;rcases hu with rfl|rfl<;>rfl) (λw hw=>h.cB (λ_ _ _ _ _ h=>h) hw.c_) A A λa' c'=>?_;rw[aS,eC];refine aU ?_;exact dh rfl λw hw=>⟨(a',c'),rfl,hw,trivial⟩
theorem MW(a:ax)(c:Nat)(l:List dP)(hb:l.length<=100000)(w0:ae)(h:aY w0 (I a l.length c) 8 l ME):
  iL Y 97 [I a l.length c] w0 λu w'=>∃x:ax×Nat,u=I x.1 l.length x.2/\Wd db w0 [G x.1 l.length x.2 56 8 (l.flatMap ki)] w'/\True:=by
 refine aR func97 rfl ntmps97 rfl (Wd.nil db w0) ?_;refine bA ?_;cases a with
 |none=>
  have II:l=[]:=by
   obtain⟨_,_,_,b,o,ha,_⟩:=h.at;exact it λhn=>by cases ha hn
  subst II;refine aV ?_;refine dJ 56 8 ?_;exact dh rfl λw hw=>⟨(U,0),rfl,hw,trivial⟩
 |some ad=>
  refine aU ?_;refine lN rfl λeb _=>?_;refine bA ?_;refine kZ rfl rfl l ki (λ_ _ _ h=>h) (λ_=>rfl) (λy u hu=>by simp only[ki,bX,gr,or_false]at hu;rcases hu with rfl|rfl|rfl|rfl|rfl|rfl|rfl|rfl<;>rfl) (λw hw=>h.cB (λ_ _ _ _ _ h=>h) hw.c_) A A λa' c'=>?_;rw[aS,eC];refine aU ?_;exact dh rfl λw hw=>⟨(a',c'),rfl,hw,trivial⟩
theorem Ia(a:ax)(c:Nat)(l:List aK)(hb:l.length<=100000)(w0:ae)(h:aY w0 (I a l.length c) 6 l XL):
  iL Y 94 [I a l.length c] w0 λu w'=>∃x:ax×Nat,u=I x.1 l.length x.2/\Wd db w0 [G x.1 l.length x.2 46 6 (l.flatMap eA)] w'/\True:=by
 refine aR func94 rfl ntmps94 rfl (Wd.nil db w0) ?_;refine bA ?_;cases a with
 |none=>
  have II:l=[]:=by
   obtain⟨_,_,_,b,o,ha,_⟩:=h.at;exact it λhn=>by cases ha hn
  subst II;refine aV ?_;refine dJ 46 6 ?_;exact dh rfl λw hw=>⟨(U,0),rfl,hw,trivial⟩
 |some ad=>
  refine aU ?_;refine lN rfl λeb _=>?_;refine bA ?_;refine kZ rfl rfl l eA (λ_ _ _ h=>h) (λ_=>rfl) (λy u hu=>by simp only[eA,bX,gr,or_false]at hu;rcases hu with rfl|rfl|rfl|rfl|rfl|rfl<;>rfl) (λw hw=>h.cB (λ_ _ _ _ _ h=>h) hw.c_) A A λa' c'=>?_;rw[aS,eC];refine aU ?_;exact dh rfl λw hw=>⟨(a',c'),rfl,hw,trivial⟩
theorem Ef(a:ax)(c:Nat)(l:List Int)(hb:l.length<=100000)(w0:ae)(h:aY w0 (I a l.length c) 1 l gI):
  iL Y 59 [I a l.length c] w0 λu w'=>∃x:ax×Nat,u=I x.1 l.length x.2/\Wd db w0 [G x.1 l.length x.2 3 1 (l.map (J Z))] w'/\True:=by
 refine aR func59 rfl ntmps59 rfl (Wd.nil db w0) ?_;refine bA ?_;cases a with
 |none=>
  have II:l=[]:=by
   obtain⟨_,_,_,b,o,ha,_⟩:=h.at;exact it λhn=>by cases ha hn
  subst II;refine aV ?_;refine dJ 3 1 ?_;exact dh rfl λw hw=>⟨(U,0),rfl,hw,trivial⟩
 |some ad=>
  refine aU ?_;refine lN rfl λeb _=>?_;refine bA ?_;refine kZ rfl rfl l (λx=>[J Z x]) (λ_ _ _ h=>h.1) (λ_=>rfl) (λy u hu=>by simp only[bQ]at hu;subst hu;rfl) (λw hw=>h.cB (du) hw.c_) A A λa' c'=>?_;rw[ol,aS,eC];refine aU ?_;exact dh rfl λw hw=>⟨(a',c'),rfl,hw,trivial⟩
end
section
def nU(l:List Int):List Int:=l.mergeSort λx y=>decide (x<=y)
theorem sorted_perm(l:List Int):(nU l).Perm l:=List.mergeSort_perm l _
theorem FJ(l:List Int):(nU l).length=l.length:=(sorted_perm l).length_eq
theorem OC{x:Int}:x∈nU l↔x∈l:=(sorted_perm l).mem_iff
theorem Sf(l:List Int):(nU l).Pairwise (·<=·):=by
 have:=List.pairwise_mergeSort (le:=λx y:Int=>decide (x<=y)) (λa b c h1 h2=>by simp at h1 h2|-;omega) (λa b=>by simp;omega) l;exact this.imp λh=>aD h
theorem PZ:∀{l m:List Int},l.Pairwise (·<·)->m.Pairwise (·<·)->(∀x,x∈l↔x∈m)->l=m
 |[],[],_,_,_=>rfl
 |[],y::m,_,_,h=>by have:=(h y).2 bT;cases this
 |x::l,[],_,_,h=>by have:=(h x).1 bT;cases this
 |x::l,y::m,hl,hm,h=>by
  obtain⟨hx,hl'⟩:=jm.1 hl;obtain⟨hy,hm'⟩:=jm.1 hm;have e:x=y:=by
   rcases bX.1 ((h x).1 bT)with e|h1
   ·exact e
   ·rcases bX.1 ((h y).2 bT)with e|h2
    ·exact e.symm
    ·have:=hx y h2;have:=hy x h1;omega
  subst e;congr 1;refine PZ hl' hm' λz=>⟨λhz=>?_,λhz=>?_⟩
  ·rcases bX.1 ((h z).1 (ey _ hz))with e|h1
   ·have:=hx z hz;omega
   ·exact h1
  ·rcases bX.1 ((h z).2 (ey _ hz))with e|h1
   ·have:=hy z hz;omega
   ·exact h1
theorem LY(hn:l.Nodup):(nU l).Pairwise (·<·):=by
 have h1:=Sf l;have h2:(nU l).Nodup:=(sorted_perm l).nodup_iff.2 hn;exact(h1.and h2).imp λ⟨h,k⟩=>by omega
theorem xi(n:Nat)(p:Nat->Bool):(((bj n).filter p).map λx:Nat=>(x:Int)).Pairwise (·<·):=by
 rw[List.pairwise_map];exact((List.pairwise_lt_range).filter p).imp λh=>by omega
theorem Gx{p:Nat->Bool}(hn:l.Nodup)(h:∀x,x∈l↔∃c:Nat,x=c/\c<n/\p c=true):nU l=((bj n).filter p).map λx:Nat=>(x:Int):=by
 refine PZ (LY hn) (xi n p) λx=>?_;rw[OC,h,aT];exact⟨λ⟨c,e,h1,h2⟩=>⟨c,cR.2 ⟨cW.2 h1,h2⟩,e.symm⟩,λ⟨c,h1,e⟩=>⟨c,e.symm,cW.1 (cR.1 h1).1,(cR.1 h1).2⟩⟩
theorem Jd(pre xs sp:List K)(l:List Int)(h:xs.length=l.length):Go.Sort.putCells (J Z) pre.length l.toArray (pre++xs++sp).toArray=(pre++l.map (J Z)++sp).toArray:=by
 apply Array.ext';apply cY;intro j;unfold Go.Sort.putCells
 by_cases hj:j<(pre++xs++sp).length
 ·rw[Array.getElem?_toList,Array.getElem?_mapIdx]
  rw[List.getElem?_toArray,bL hj];simp only[b_]
  by_cases h1:j<pre.length
  ·rw[ai dr]
   simp[List.getElem?_append,h1]
  ·by_cases h2:j<pre.length+l.length
   ·rw[al dr]
    rw[fu,dH A,eX dr];have h3:j-pre.length<l.length:=A;simp[h3]
   ·rw[ai dr]
    rw[dH dr];simp only[bW,aG]at hj|-
    rw[List.getElem_append_right dr];simp only[bW,h];rw[bL A]
 ·rw[Array.getElem?_toList,zF (by simp only[Array.size_mapIdx];simpa using hj),cm (by simp at hj|-;omega)]
theorem Wd.nU(hW:Wd S w0 H w){os:Array Obj}{l':List Int}(hk:H[k]?=O (G (O ⟨b,o,U⟩) n c e 1 (l.map (J Z))))(hl:l'.length=l.length):
  Wd S w0 (H.set k (G (O ⟨b,o,U⟩) n c e 1 (l'.map (J Z)))) (Go.Sort.grow (Go.Sort.putRow (J Z) (Go.Sort.ahead w m) b o l'.toArray) os):=by
 obtain⟨h1,h2,h3,pre,sp,rfl,h5,hb⟩:=hW.nj hk;rw[aG]at h1;have ce:b<w.heap.size:=(jl.1 hb).1;have mK:(Go.Sort.putRow (J Z) (Go.Sort.ahead w m) b pre.length l'.toArray).heap.size=w.heap.size:=by simp[Go.Sort.putRow,Go.Sort.mapBlock,Go.Sort.ahead]
 have yR:(Go.Sort.putRow (J Z) (Go.Sort.ahead w m) b pre.length l'.toArray).heap[b]?=O (.cells (pre++l'.map (J Z)++sp).toArray e (0,0)):=by
  simp only[Go.Sort.putRow,Go.Sort.mapBlock,Go.Sort.ahead,Array.getElem?_modify,if_true,hb,b_,Go.Sort.onCells];rw[Jd pre _ sp l' (by simp[hl])]
 have acr:∀j,j≠b->(Go.Sort.putRow (J Z) (Go.Sort.ahead w m) b pre.length l'.toArray).heap[j]?=w.heap[j]?:=λj hj=>by
  simp[Go.Sort.putRow,Go.Sort.mapBlock,Go.Sort.ahead,Array.getElem?_modify,Ne.symm hj]
 have hT:Wd S w0 (H.set k (G (O ⟨b,pre.length,U⟩) n c e 1 (l'.map (J Z)))) (Go.Sort.putRow (J Z) (Go.Sort.ahead w m) b pre.length l'.toArray):=by
  refine hW.nV hk ⟨rfl,rfl,rfl,by rw[mK];exact cz _,λj _ hj=>acr j λe'=>hj (by simp[G,e'])⟩ (λb' oX=>?_) λw2 lP=>?_
  ·simp only[G,b_,cF]at oX|-
   subst oX;exact⟨.inl rfl,by rw[mK];exact ce⟩
  ·have:=lP b (by simp[G])
   refine⟨by simpa[hl]using h1,.inr ⟨b,pre,sp,rfl,h2,h3,h5,?_⟩⟩;rw[this,yR]
 refine hT.call ⟨rfl,rfl,rfl,by simp[Go.Sort.grow],λj hj _=>?_⟩;simp only[Go.Sort.grow];rw[Array.getElem?_append_left hj]
def XR(P:Program)(f:FuncId)(args:List K)(w0:ae){α:Type}(s:Nat)(l:List α)(dL:ae->α->List K->Prop)(mk:K->K):Prop:=
 iL P f args w0 λu w'=>∃x:ax×Nat×(Nat->Prop),u=mk (I x.1 l.length x.2.1)/\Wd db w0 [⟨x.2.2,λw=>aY w (I x.1 l.length x.2.1) s l dL⟩] w'/\True
section
variable {P:Program} {ro:Option Nat} {N:Nat} {ds:List Deferred} {S:Nat->Prop} {w0 w:ae} {L:List (Nat×K)} {H cZ:List cq} {ops:Array Oper} {rest:List Oper} {Q:Exit->Act->ae->Prop}
theorem Ym{l:List α}{dL:ae->α->List K->Prop}{pos:String}{aft:Array Go.Edge}[h:bf P f][hx:B8 L args vs](hd:ev d N L=true)
  (hc:∀w,Wd S w0 H w->XR P f vs w s l dL mk)
  (k:∀a c fp,cU N ds S w0 ((d,mk (I a l.length c))::L) (⟨fp,λw=>aY w (I a l.length c) s l dL⟩::H) (wpListIn (FW ro) 0 P ops Q rest)):cU N ds S w0 L H (wpListIn (FW ro) 0 P ops Q (⟨O d,.call {callee:=.value (.func f),args:=args.toArray,argTypes:=tJ},ty,pos,aft,U⟩::rest)):=
 cN (val:=λx:ax×Nat×(Nat->Prop)=>mk (I x.1 l.length x.2.1)) (cZ:=λx=>[⟨x.2.2,λw=>aY w (I x.1 l.length x.2.1) s l dL⟩]) (φ:=λ_=>True) hd hc λx _=>k x.1 x.2.1 x.2.2
theorem ZP{l:List α}{dL:ae->α->List K->Prop}{f:FuncId}{args:List K}{val:β->K}{cZ:β->List cq}{φ:β->Prop}(h:iL P f args w0 λu w'=>∃x,u=val x/\Wd db w0 (cZ x) w'/\φ x)
  (hv:∀x,φ x->∃a c,val x=mk (I a l.length c)/\∀w2,Wd (df (cZ x)) w2 (cZ x) w2->aY w2 (I a l.length c) s l dL):XR P f args w0 s l dL mk:=
 h.mono λu w' ⟨x,h1,h2,h3⟩=>by
  obtain⟨a,c,e,hs⟩:=hv x h3;have h4:Wd db w0 (cZ x++[]) w':=by rw[cj];exact h2
  exact⟨(a,c,_),h1.trans e,h4.pack _ hs,trivial⟩
end
attribute [local irreducible] wpListIn Code.wpIn Exit.then Exit.inBlock bodyPost wpQuiet wpAnyIn
set_option maxHeartbeats 4000000
section
variable {P:Program} {N:Nat} {ds:List Deferred} {S:Nat->Prop} {w0:ae} {L:List (Nat×K)} {H Hr:List cq} {x y:Operand} {dw:Act->ae->Prop} {l:List Oper} {di:Nat} {listed:Array Bool}
def md(P:Program)(l:List Oper)(dw:Act->ae->Prop)(jB:ae->Prop)(di:Nat)(listed:Array Bool)(i:Nat)(a:Act)(w:ae):Prop:=
 wpOp P l.toArray (et dw) i (λa' w'=>jB w'/\wpAnyH P .any l.toArray (et dw) jB di (listed.setIfInBounds i true) a' w') a w
theorem jL(i j:Nat)(hr:decide (eZ .any l.toArray listed=[i,j])=true)(h1:cU N ds S w0 L H (md P l dw (Wd S w0 Hr) di listed i))(h2:cU N ds S w0 L H (md P l dw (Wd S w0 Hr) di listed j)):
  cU N ds S w0 L H (wpAnyH P .any l.toArray (et dw) (Wd S w0 Hr) (di+1) listed):=λa w hS=>
 wpAnyH_all (iG hr) bT λi' zt=>by
  simp only[bX,gr,or_false]at zt;rcases zt with rfl|rfl
  ·exact h1 a w hS
  ·exact h2 a w hS
theorem Wc(i:Nat){pos:String}{aft:Array Go.Edge}(R:ae->K->ae->Prop)[ho:eJ l i ⟨O d,.call {callee:=.value (.func f),args:=args.toArray,argTypes:=tJ},ty,pos,aft,U⟩][h:bf P f][hx:B8 L args vs](hd:ev d N L=true)
  (hc:∀w,Wd S w0 H w->iL P f vs w (R w))
  (k:∀v w w',Wd S w0 H w->R w v w'->Wd S w0 Hr w'/\∀a,Fr N ds ((d,v)::L) a->wpAnyH P .any l.toArray (et dw) (Wd S w0 Hr) di (listed.setIfInBounds i true) a w'):cU N ds S w0 L H (md P l dw (Wd S w0 Hr) di listed i):=by
 intro a w hS;unfold md wpOp;rw[show l.toArray[i]?=O ⟨O d,.call {callee:=.value (.func f),args:=args.toArray,argTypes:=tJ},ty,pos,aft,U⟩ by simpa using ho.at'];simp only;rw[al (show fq (⟨O d,.call {callee:=.value (.func f),args:=args.toArray,argTypes:=tJ},ty,pos,aft,U⟩:Oper) (yielded l.toArray a.tmps)=true from rfl)]
 left
 unfold Oper.wp;have zV:(execOp a.eval ⟨O d,.call {callee:=.value (.func f),args:=args.toArray,argTypes:=tJ},ty,pos,aft,U⟩).run P w=.ok (.enter f vs.toArray) w:=by
  simp[execOp,resolve,Act.eval,Deferred.ofValue,invoke,hx.eq _ _ _ hS.fr,h.run]
 rw[zV];refine Calls.mono (callsIn_wide.1 (hc w hS.wd)) λe w' ⟨v,he,hR⟩=>?_;subst he;obtain⟨h1,h2⟩:=k v w w' hS.wd hR;exact⟨h1,h2 _ (hS.fr.fv hd v)⟩
theorem Ag{o:Oper}(i:Nat)[ho:eJ l i o](hg:o.guard=U)
  (k:∀a w,St N ds S w0 L H a w->∃v w',(execOp a.eval o).run P w=.ok (.value v) w'/\Wd S w0 Hr w'/\wpAnyH P .any l.toArray (et dw) (Wd S w0 Hr) di (listed.setIfInBounds i true) (a.put o.dst v) w'):cU N ds S w0 L H (md P l dw (Wd S w0 Hr) di listed i):=by
 intro a w hS;obtain⟨v,w',h1,h2,h3⟩:=k a w hS;unfold md wpOp;rw[show l.toArray[i]?=O o by simpa using ho.at'];simp only;rw[al (show fq o (yielded l.toArray a.tmps)=true by simp[fq,hg])]
 left
 unfold Oper.wp;rw[h1];exact⟨h2,h3⟩
theorem q_{val:α->K}{cZ:α->List cq}{φ:α->Prop}{H1 H2:List cq}(i:Nat){pos:String}{aft:Array Go.Edge}[ho:eJ l i ⟨O d,.call {callee:=.value (.func f),args:=args.toArray,argTypes:=tJ},ty,pos,aft,U⟩][h:bf P f][hx:B8 L args vs](hd:ev d N L=true)(hH:Hr.Sublist H2)
  (hc:∀w,Wd S w0 (H1++H2) w->iL P f vs w λu w'=>∃x,u=val x/\Wd (df H1) w (cZ x) w'/\φ x)
  (k:∀x,φ x->cU N ds S w0 ((d,val x)::L) (cZ x++H2) (wpAnyH P .any l.toArray (et dw) (Wd S w0 Hr) di (listed.setIfInBounds i true))):cU N ds S w0 L (H1++H2) (md P l dw (Wd S w0 Hr) di listed i):=
 Wc i (λ_ u w'=>∃x,u=val x/\Wd S w0 (cZ x++H2) w'/\φ x) hd (λw hw=>(hc w hw).mono λv w' ⟨x,h1,h2,h3⟩=>⟨x,h1,hw.comp h2,h3⟩) λv w w' hw hR=>by
  obtain⟨x,rfl,h2,h3⟩:=hR;exact⟨h2.sub (hH.trans (eF _ _)),λa hF=>k x h3 a w' ⟨hF,h2⟩⟩
theorem Ea{pos:String}{aft:Array Go.Edge}[h:dt P T e s qz zs][hx:Ev L x v][hv:jY v cs][hl:mL cs s](hs:((Nat.blt 0 s&&Nat.ble s 1000)&&Nat.beq zs.length s)=true)(a:Act)(w:ae)(hS:St N ds S w0 L H a w):
  ∃w',(execOp a.eval ⟨O d,.buildSlice T 1 #[(0,x)],ty,pos,aft,U⟩).run P w=.ok (.value (I (O ⟨w.heap.size,0,U⟩) 1 1)) w'/\Wd S w0 (G (O ⟨w.heap.size,0,U⟩) 1 1 e s cs::H) w':=by
 obtain⟨i,zz,hi,Q5,gW,h1,h2⟩:=h.get;simp only[eU,Nat.blt_eq,Nat.ble_eq]at hs;have hle:=hl.eq;refine⟨w.alloc (.cells cs.toArray e),?_,hS.wd.uA e s 1 _ A (by simp[maxLen])⟩;have hr:=run_buildSlice (P:=P) w T e 1 #[(0,v)] cs.toArray i zz h.sy hi Q5 (by rw[h1];omega) (by rw[h1];omega) (by
  rw[h1,<-hle];have:=Kc v cs ((Array.range (1*cs.length)).map (zz.cells[·%zz.cells.size]!)).toList hv.eq bT;rw[Array.toArray_toList]at this;exact this)
 simp[execOp,hx.eq _ _ _ hS.fr,hr]
theorem gT{pos:String}{aft:Array Go.Edge}(i:Nat)[ho:eJ l i ⟨O d,.buildSlice T 1 #[(0,x)],ty,pos,aft,U⟩][h:dt P T e s qz zs][hx:Ev L x v][hv:jY v cs][hl:mL cs s](hd:ev d N L=true)(hs:((Nat.blt 0 s&&Nat.ble s 1000)&&Nat.beq zs.length s)=true)(hH:Hr.Sublist H)
  (k:∀b,w0.heap.size<=b->cU N ds S w0 ((d,I (O ⟨b,0,U⟩) 1 1)::L) (G (O ⟨b,0,U⟩) 1 1 e s cs::H) (wpAnyH P .any l.toArray (et dw) (Wd S w0 Hr) di (listed.setIfInBounds i true))):cU N ds S w0 L H (md P l dw (Wd S w0 Hr) di listed i):=
 Ag i rfl λa w hS=>by
  obtain⟨w',h1,h2⟩:=Ea (P:=P) (d:=d) (ty:=ty) (pos:=pos) (aft:=aft) (h:=h) (hx:=hx) (hv:=hv) (hl:=hl) hs a w hS;exact⟨_,w',h1,h2.sub (hH.trans (gh _ _)),k _ hS.wd.size _ _ ⟨hS.fr.fv hd _,h2⟩⟩
theorem Ks{pos:String}{aft:Array Go.Edge}(i:Nat)[ho:eJ l i ⟨O d,.buildSlice T 1 #[(0,x)],ty,pos,aft,U⟩][h:dt P T e s qz zs][hx:Ev L x v][hv:jY v cs][hl:mL cs s](hd:ev d N L=true)(hs:((Nat.blt 0 s&&Nat.ble s 1000)&&Nat.beq zs.length s)=true)
  (hr:decide (eZ .any l.toArray listed=[i])=true) (hH:Hr.Sublist H)
  (k:∀b,w0.heap.size<=b->cU N ds S w0 ((d,I (O ⟨b,0,U⟩) 1 1)::L) (G (O ⟨b,0,U⟩) 1 1 e s cs::H) (wpAnyH P .any l.toArray (et dw) (Wd S w0 Hr) di (listed.setIfInBounds i true))):cU N ds S w0 L H (wpAnyH P .any l.toArray (et dw) (Wd S w0 Hr) (di+1) listed):=
 G0 i rfl hr λa w hS=>by
  obtain⟨w',h1,h2⟩:=Ea (P:=P) (d:=d) (ty:=ty) (pos:=pos) (aft:=aft) (h:=h) (hx:=hx) (hv:=hv) (hl:=hl) hs a w hS;exact⟨_,w',h1,h2.sub (hH.trans (gh _ _)),k _ hS.wd.size _ _ ⟨hS.fr.fv hd _,h2⟩⟩
theorem iu{pos:String}{aft:Array Go.Edge}{ad:ax}(i0 k:Nat){b2 o2 k2 e2:Nat}{news:List K}[ho:eJ l i0 ⟨O d,.call {callee:=.builtin .append,args:=#[x,y],argTypes:=#[T,T]},ty,pos,aft,U⟩][h:dt P T e s qz zs][hx:Ev L x (I ad n c)][hy:Ev L y (I (O ⟨b2,o2,U⟩) m c2)]
  (hk:H[k]?=O (G ad n c e s xs)) [Bi:wW H (O ⟨b2,o2,U⟩) m c2 k2 e2 s news] [h1:wU news] (hd:ev d N L=true) (hs:((Nat.blt 0 s&&Nat.blt 0 m)&&Nat.beq zs.length s)=true) (nN:(n+m)*qz<=140737488355328) (Mm:n+m<=140737488355328)
  (hr:decide (eZ .any l.toArray listed=[i0])=true) (hH:∀e',Hr.Sublist (H.set k e'))
  (kk:∀a' c',cU N ds S w0 ((d,I a' (n+m) c')::L) (H.set k (G a' (n+m) c' e s (xs++news))) (wpAnyH P .any l.toArray (et dw) (Wd S w0 Hr) di (listed.setIfInBounds i0 true))):cU N ds S w0 L H (wpAnyH P .any l.toArray (et dw) (Wd S w0 Hr) (di+1) listed):=
 G0 i0 rfl hr λa w hS=>by
  simp only[eU,Nat.blt_eq]at hs;obtain⟨hl,_⟩:=hS.wd.nj Bi.at';obtain⟨a',c',w',hr,kE⟩:=hS.wd.append (P:=P) (ty:=ty) (c2:=c2) h hs.1.1 hk hs.1.2 hl (λj u hj=>by rw[Addr.add_lit];exact hS.wd.dp Bi.at' hj) h1.all nN Mm (sP hs.2);exact⟨I a' (n+m) c',w',by simp[execOp,resolve,invoke,builtin,hx.eq _ _ _ hS.fr,hy.eq _ _ _ hS.fr,hr],kE.sub (hH _),kk a' c' _ _ ⟨hS.fr.fv hd _,kE⟩⟩
end
section
variable {P:Program} {N:Nat} {ds:List Deferred} {S:Nat->Prop} {w0:ae} {L L':List (Nat×K)} {H H' Hr:List cq} {Q:Exit->Act->ae->Prop} {x y:Operand} {dw:Act->ae->Prop} {l:List Oper} {di:Nat} {listed:Array Bool}
theorem Uh{pos:String}{aft:Array Go.Edge}(i0:Nat)[ho:eJ l i0 ⟨O d,.buildSlice T 0 #[],ty,pos,aft,U⟩][h:dt P T e s qz zs](hd:ev d N L=true)
  (hr:decide (eZ .any l.toArray listed=[i0])=true) (hH:Hr.Sublist H)
  (k:∀b,w0.heap.size<=b->cU N ds S w0 ((d,I (O ⟨b,0,U⟩) 0 0)::L) (G (O ⟨b,0,U⟩) 0 0 e s []::H) (wpAnyH P .any l.toArray (et dw) (Wd S w0 Hr) di (listed.setIfInBounds i0 true))):cU N ds S w0 L H (wpAnyH P .any l.toArray (et dw) (Wd S w0 Hr) (di+1) listed):=
 G0 i0 rfl hr λa w hS=>by
  obtain⟨i,zz,hi,_,_,_,_⟩:=h.get;have hv:=hS.wd.uA e s 0 [] bT (by simp[maxLen]);refine⟨I (O ⟨w.heap.size,0,U⟩) 0 0,w.alloc (.cells #[] e),?_,hv.sub (hH.trans (gh _ _)),k _ hS.wd.size _ _ ⟨hS.fr.fv hd _,hv⟩⟩;have hr:(Instr.buildSlice T 0 #[]).run P w=.ok (I (O ⟨w.heap.size,0,U⟩) 0 0) (w.alloc (.cells #[] e)):=by
   simp[Instr.buildSlice,run_underlying h.sy,sizeOf,typeInfo,hi,Instr.fill,newRow];congr 2;exact Array.eq_empty_of_size_eq_zero bT
  simp[execOp,hr]
theorem uZ{pos:String}{aft:Array Go.Edge}{ad a2:ax}(i0 k:Nat)[ho:eJ l i0 ⟨O d,.call {callee:=.builtin .append,args:=#[x,y],argTypes:=#[T,T]},ty,pos,aft,U⟩][h:dt P T e s qz zs][hx:Ev L x (I ad n c)][hy:Ev L y (I a2 m c2)]
  (hk:H[k]?=O (G ad n c e s xs)) (hd:ev d N L=true) (hs:(Nat.blt 0 s&&Nat.beq zs.length s)=true) (q:List α) {dL:ae->α->List K->Prop} (g:α->List K) (hg:∀w x cs,dL w x cs->cs=g x) (hlen:∀x,(g x).length=s) (EK:∀x,∀u∈g x,u.oneCell'=true)
  (pt:∀w,Wd S w0 H w->aY w (I a2 m c2) s q dL) (nN:(n+m)*qz<=140737488355328) (Mm:n+m<=140737488355328)
  (hr:decide (eZ .any l.toArray listed=[i0])=true) (hH:∀e',Hr.Sublist (H.set k e'))
  (kk:∀a' c',cU N ds S w0 ((d,I a' (n+m) c')::L) (H.set k (G a' (n+m) c' e s (xs++q.flatMap g))) (wpAnyH P .any l.toArray (et dw) (Wd S w0 Hr) di (listed.setIfInBounds i0 true))):cU N ds S w0 L H (wpAnyH P .any l.toArray (et dw) (Wd S w0 Hr) (di+1) listed):=
 G0 i0 rfl hr λa w hS=>by
  simp only[eU,Nat.blt_eq]at hs;obtain⟨a2',m',c2',b,o,pu,hm,Xy,_,_,ha,iw⟩:=pt w hS.wd;simp only[Value.slice.injEq]at pu;obtain⟨rfl,rfl,rfl⟩:=pu
  by_cases h0:m=0
  ·subst h0
   have hl:q=[]:=nr hm.symm;subst hl;obtain⟨i,zz,hi,_,_,_,_⟩:=h.get;have qg:n<=c:=by
    obtain⟨_,h2⟩:=hS.wd.get hk;rcases h2 with⟨_,h2,h3⟩|⟨_,_,_,_,h3,_⟩<;>omega
   have hr:(Builtin.append_ #[T,T] ty #[I ad n c,I a2 0 c2]).run P w=.ok (I ad n c) w:=by
    cases ad<;>cases a2<;>simp[Builtin.append_,run_underlying h.sy,sizeOf,typeInfo,hi,Builtin.lenOf,Builtin.firstCells,qg,storeCells,loadCells,loadCellsFrom]
   have:=kk ad c;simp only[jc,cj,dR]at this;rw[m_ hk]at this;have Gi:=hH (G ad n c e s xs);rw[m_ hk]at Gi;exact⟨I ad n c,w,by simp[execOp,resolve,invoke,builtin,hx.eq _ _ _ hS.fr,hy.eq _ _ _ hS.fr,hr],hS.wd.sub Gi,this _ _ ⟨hS.fr.fv hd _,hS.wd⟩⟩
  ·have fZ:q≠[]:=by rintro rfl;simp at hm;exact h0 hm
   have ha:=ha fZ;subst ha;obtain⟨a',c',w',hr,kE⟩:=hS.wd.append (P:=P) (ty:=ty) (c2:=c2) (a2:=⟨b,o,U⟩) (m:=m) (news:=q.flatMap g) h hs.1 hk A (by rw[cA hlen,hm]) (λj u hj=>by
    obtain⟨i,q,j',h1,h2,rfl⟩:=sF hlen q j u hj;obtain⟨cs,hc,hV⟩:=iw i q h1;rw[hg _ _ _ hV]at hc;have:=hc j' u h2;rw[Addr.add_lit,<-eB];exact this) (λu hu=>by obtain⟨q,_,hq⟩:=dg.1 hu;exact EK q u hq) nN Mm (sP hs.2)
   exact⟨I a' (n+m) c',w',by simp[execOp,resolve,invoke,builtin,hx.eq _ _ _ hS.fr,hy.eq _ _ _ hS.fr,hr],kE.sub (hH _),kk a' c' _ _ ⟨hS.fr.fv hd _,kE⟩⟩
end
section
variable {P:Program} {N:Nat} {ds:List Deferred} {S:Nat->Prop} {w0:ae} {L L':List (Nat×K)} {H H' Hr:List cq} {Q:Exit->Act->ae->Prop} {x y:Operand} {dw:Act->ae->Prop} {l:List Oper} {di:Nat} {listed:Array Bool}
theorem cD(i:Nat)(hr:decide (eZ .any l.toArray listed=[i])=true)(h1:cU N ds S w0 L H (md P l dw (Wd S w0 Hr) di listed i)):
  cU N ds S w0 L H (wpAnyH P .any l.toArray (et dw) (Wd S w0 Hr) (di+1) listed):=λa w hS=>
 wpAnyH_all (iG hr) bT λi' zt=>by
  simp only[bX,gr,or_false]at zt;rcases zt with rfl
  exact h1 a w hS
theorem Yq{id:Nat}[hl:HU l n](Hr:List cq)(dw:Act->ae->Prop)(hm:P.follows .mixedOrders=true)(_hH:Hr.Sublist H)
  (h:cU N ds S w0 L H (wpAnyH P .any l.toArray (et dw) (Wd S w0 Hr) n (Array.replicate n false))) (k:∀a w,dw a w->Q .normal a w):cU N ds S w0 L H (eY (FW U) 0 P (Code.region id l.toArray true) Q):=λa w hS=>by
 refine Code.wpIn_mono (Q:=et dw) (λe a' w' hq=>?_) (vX (Q:=et dw) Hr hm _hH h a w hS);cases e<;>first|exact k _ _ hq|exact False.elim hq
def aa6{α:Type}(N:Nat)(ds:List Deferred)(S:Nat->Prop)(w0:ae)(φ:α->Prop)(Lx:α->List (Nat×K))(Hx:α->List cq):Act->ae->Prop:=λa w=>∃x,φ x/\St N ds S w0 (Lx x) (Hx x) a w
theorem dy{φ:α->Prop}{Lx:α->List (Nat×K)}{Hx:α->List cq}(x:α)(hx:φ x)(hL:wX L (Lx x))(hH:(Hx x).Sublist H):cU N ds S w0 L H (aa6 N ds S w0 φ Lx Hx):=
 λ_ _ hS=>⟨x,hx,hS.fix hL hH⟩
theorem dI{id:Nat}[hl:HU l n](Hr:List cq)(φ:α->Prop)(Lx:α->List (Nat×K))(Hx:α->List cq)(hm:P.follows .mixedOrders=true)(hH:Hr.Sublist H)
  (h:cU N ds S w0 L H (wpAnyH P .any l.toArray (et (aa6 N ds S w0 φ Lx Hx)) (Wd S w0 Hr) n (Array.replicate n false))) (k:∀x,φ x->cU N ds S w0 (Lx x) (Hx x) (Q .normal)):cU N ds S w0 L H (eY (FW U) 0 P (Code.region id l.toArray true) Q):=
 Yq Hr _ hm hH h λa w ⟨x,hx,hS⟩=>k x hx a w hS
theorem By{pos:String}{aft:Array Go.Edge}(i0:Nat)[ho:eJ l i0 ⟨O d,.buildSlice T 0 #[],ty,pos,aft,U⟩][h:dt P T e s qz zs](hd:ev d N L=true)(hH:Hr.Sublist H)
  (k:∀b,w0.heap.size<=b->cU N ds S w0 ((d,I (O ⟨b,0,U⟩) 0 0)::L) (G (O ⟨b,0,U⟩) 0 0 e s []::H) (wpAnyH P .any l.toArray (et dw) (Wd S w0 Hr) di (listed.setIfInBounds i0 true))):cU N ds S w0 L H (md P l dw (Wd S w0 Hr) di listed i0):=
 Ag i0 rfl λa w hS=>by
  obtain⟨i,zz,hi,_,_,_,_⟩:=h.get;have hv:=hS.wd.uA e s 0 [] bT (by simp[maxLen]);refine⟨I (O ⟨w.heap.size,0,U⟩) 0 0,w.alloc (.cells #[] e),?_,hv.sub (hH.trans (gh _ _)),k _ hS.wd.size _ _ ⟨hS.fr.fv hd _,hv⟩⟩;have hr:(Instr.buildSlice T 0 #[]).run P w=.ok (I (O ⟨w.heap.size,0,U⟩) 0 0) (w.alloc (.cells #[] e)):=by
   simp[Instr.buildSlice,run_underlying h.sy,sizeOf,typeInfo,hi,Instr.fill,newRow];congr 2;exact Array.eq_empty_of_size_eq_zero bT
  simp[execOp,hr]
theorem pP{z:K}{pos:String}{aft:Array Go.Edge}(i0:Nat)[ho:eJ l i0 ⟨O d,.alloc T,ty,pos,aft,U⟩][h:jM P T z][hv:jY z cs](hd:ev d N L=true)(hH:Hr.Sublist H)
  (k:∀b,w0.heap.size<=b->cU N ds S w0 (M d b::L) (aM b cs T::H) (wpAnyH P .any l.toArray (et dw) (Wd S w0 Hr) di (listed.setIfInBounds i0 true))):cU N ds S w0 L H (md P l dw (Wd S w0 Hr) di listed i0):=
 Ag i0 rfl λa w hS=>by
  have hv:=hS.wd.box cs T;have e:cs.toArray=z.cells:=by rw[<-‹jY z cs›.eq]
  rw[e]at hv;exact⟨aO (O ⟨w.heap.size,0,U⟩),w.alloc (.cells z.cells T),by simp[execOp,Instr.alloc,newVar,newRow,h.run],hv.sub (hH.trans (gh _ _)),k _ hS.wd.size _ _ ⟨hS.fr.fv hd _,hv⟩⟩
theorem gZ{val:α->K}{cZ:α->List cq}{φ:α->Prop}(i:Nat){pos:String}{aft:Array Go.Edge}[ho:eJ l i ⟨O d,.call {callee:=.value (.func f),args:=args.toArray,argTypes:=tJ},ty,pos,aft,U⟩][h:bf P f][hx:B8 L args vs](hd:ev d N L=true)(hH:Hr.Sublist H)
  (hc:∀w,Wd S w0 H w->iL P f vs w λu w'=>∃x,u=val x/\Wd db w (cZ x) w'/\φ x)
  (k:∀x,φ x->cU N ds S w0 ((d,val x)::L) (cZ x++H) (wpAnyH P .any l.toArray (et dw) (Wd S w0 Hr) di (listed.setIfInBounds i true))):cU N ds S w0 L H (md P l dw (Wd S w0 Hr) di listed i):=
 Wc i (λ_ u w'=>∃x,u=val x/\Wd S w0 (cZ x++H) w'/\φ x) hd (λw hw=>(hc w hw).mono λv w' ⟨x,h1,h2,h3⟩=>⟨x,h1,hw.more h2,h3⟩) λv w w' hw hR=>by
  obtain⟨x,rfl,h2,h3⟩:=hR;exact⟨h2.sub (hH.trans (eF _ _)),λa hF=>k x h3 a w' ⟨hF,h2⟩⟩
theorem I8{q:List α}{dL:ae->α->List K->Prop}(i:Nat){pos:String}{aft:Array Go.Edge}[ho:eJ l i ⟨O d,.call {callee:=.value (.func f),args:=args.toArray,argTypes:=tJ},ty,pos,aft,U⟩][h:bf P f][hx:B8 L args vs](hd:ev d N L=true)(hH:Hr.Sublist H)
  (hc:∀w,Wd S w0 H w->XR P f vs w s q dL mk)
  (k:∀a c fp,cU N ds S w0 ((d,mk (I a q.length c))::L) (⟨fp,λw=>aY w (I a q.length c) s q dL⟩::H) (wpAnyH P .any l.toArray (et dw) (Wd S w0 Hr) di (listed.setIfInBounds i true))):cU N ds S w0 L H (md P l dw (Wd S w0 Hr) di listed i):=
 gZ (val:=λx:ax×Nat×(Nat->Prop)=>mk (I x.1 q.length x.2.1)) (cZ:=λx=>[⟨x.2.2,λw=>aY w (I x.1 q.length x.2.1) s q dL⟩]) (φ:=λ_=>True) i hd hH hc λx _=>k x.1 x.2.1 x.2.2
theorem sK{pos:String}{aft:Array Go.Edge}{ad a2:ax}(i0:Nat)[ho:eJ l i0 ⟨O d,.call {callee:=.builtin .append,args:=#[x,y],argTypes:=#[T,T]},ty,pos,aft,U⟩][h:dt P T e s qz zs][hx:Ev L x (I ad n c)][hy:Ev L y (I a2 m c2)]
  [hv:wW H ad n c k e s xs] (hd:ev d N L=true) (hs:(Nat.blt 0 s&&Nat.beq zs.length s)=true) (q:List α) {dL:ae->α->List K->Prop} (g:α->List K) (hg:∀w x cs,dL w x cs->cs=g x) (hlen:∀x,(g x).length=s) (EK:∀x,∀u∈g x,u.oneCell'=true)
  (pt:∀w,Wd S w0 H w->aY w (I a2 m c2) s q dL) (nN:(n+m)*qz<=140737488355328) (Mm:n+m<=140737488355328) (hH:∀e',Hr.Sublist (H.set k e'))
  (kk:∀a' c',cU N ds S w0 ((d,I a' (n+m) c')::L) (H.set k (G a' (n+m) c' e s (xs++q.flatMap g))) (wpAnyH P .any l.toArray (et dw) (Wd S w0 Hr) di (listed.setIfInBounds i0 true))):cU N ds S w0 L H (md P l dw (Wd S w0 Hr) di listed i0):=
 Ag i0 rfl λa w hS=>by
  have hk:=hv.at';simp only[eU,Nat.blt_eq]at hs;obtain⟨a2',m',c2',b,o,pu,hm,Xy,_,_,ha,iw⟩:=pt w hS.wd;simp only[Value.slice.injEq]at pu;obtain⟨rfl,rfl,rfl⟩:=pu
  by_cases h0:m=0
  ·subst h0
   have hl:q=[]:=nr hm.symm;subst hl;obtain⟨i,zz,hi,_,_,_,_⟩:=h.get;have qg:n<=c:=by
    obtain⟨_,h2⟩:=hS.wd.get hk;rcases h2 with⟨_,h2,h3⟩|⟨_,_,_,_,h3,_⟩<;>omega
   have hr:(Builtin.append_ #[T,T] ty #[I ad n c,I a2 0 c2]).run P w=.ok (I ad n c) w:=by
    cases ad<;>cases a2<;>simp[Builtin.append_,run_underlying h.sy,sizeOf,typeInfo,hi,Builtin.lenOf,Builtin.firstCells,qg,storeCells,loadCells,loadCellsFrom]
   have:=kk ad c;simp only[jc,cj,dR]at this;rw[m_ hk]at this;have Gi:=hH (G ad n c e s xs);rw[m_ hk]at Gi;exact⟨I ad n c,w,by simp[execOp,resolve,invoke,builtin,hx.eq _ _ _ hS.fr,hy.eq _ _ _ hS.fr,hr],hS.wd.sub Gi,this _ _ ⟨hS.fr.fv hd _,hS.wd⟩⟩
  ·have fZ:q≠[]:=by rintro rfl;simp at hm;exact h0 hm
   have ha:=ha fZ;subst ha;obtain⟨a',c',w',hr,kE⟩:=hS.wd.append (P:=P) (ty:=ty) (c2:=c2) (a2:=⟨b,o,U⟩) (m:=m) (news:=q.flatMap g) h hs.1 hk A (by rw[cA hlen,hm]) (λj u hj=>by
    obtain⟨i,q,j',h1,h2,rfl⟩:=sF hlen q j u hj;obtain⟨cs,hc,hV⟩:=iw i q h1;rw[hg _ _ _ hV]at hc;have:=hc j' u h2;rw[Addr.add_lit,<-eB];exact this) (λu hu=>by obtain⟨q,_,hq⟩:=dg.1 hu;exact EK q u hq) nN Mm (sP hs.2)
   exact⟨I a' (n+m) c',w',by simp[execOp,resolve,invoke,builtin,hx.eq _ _ _ hS.fr,hy.eq _ _ _ hS.fr,hr],kE.sub (hH _),kk a' c' _ _ ⟨hS.fr.fv hd _,kE⟩⟩
theorem gM{pos:String}{aft:Array Go.Edge}{op:Op}(i:Nat)[ho:eJ l i ⟨O d,op,ty,pos,aft,U⟩][h:gg P N ds S w0 L H op v](hd:ev d N L=true)(hH:Hr.Sublist H)
  (k:cU N ds S w0 ((d,v)::L) H (wpAnyH P .any l.toArray (et dw) (Wd S w0 Hr) di (listed.setIfInBounds i true))):cU N ds S w0 L H (md P l dw (Wd S w0 Hr) di listed i):=
 Ag i rfl λa w hS=>⟨v,w,h.run _ _ _ _ _ a w hS.fr hS.wd,hS.wd.sub hH,k _ _ ⟨hS.fr.fv hd v,hS.wd⟩⟩
theorem mW{off j:Nat}(i:Nat)[h:OneCell P T]{XJ:List K}{pos:String}{aft:Array Go.Edge}[ho:eJ l i ⟨U,.store T x y,ty,pos,aft,U⟩]
  [hx:Ev L x (aO (O ⟨b,off,U⟩))] [hy:Ev L y v] [h1:Dn v] [hb:mf H b off k o j n c e s xs] [hu:lS xs j v XJ] [hH:wG H k (G (O ⟨b,o,U⟩) n c e s XJ) H'] (Ud:Hr.Sublist H')
  (kk:cU N ds S w0 L H' (wpAnyH P .any l.toArray (et dw) (Wd S w0 Hr) di (listed.setIfInBounds i true))):cU N ds S w0 L H (md P l dw (Wd S w0 Hr) di listed i):=by
 intro a w hS;obtain⟨_,_,_,pre,sp,Dw,_,QO⟩:=hS.wd.nj hb.at';have e1:=hb.eq;subst e1;have ce:=hu.lt;have hc:=hS.wd.dp hb.at' (bL ce);have zV:=pR (P:=P) (T:=T) h1.one hc (by simp[World.frozen?,QO]);have kE:=hS.wd.Oy v hb.at' ce;rw[hu.eq,hH.Gv]at kE;unfold md wpOp;rw[show l.toArray[i]?=O ⟨U,.store T x y,ty,pos,aft,U⟩ by simpa using ho.at'];simp only;rw[al (show fq (⟨U,.store T x y,ty,pos,aft,U⟩:Oper) (yielded l.toArray a.tmps)=true from rfl)]
 left
 unfold Oper.wp;rw[show(execOp a.eval ⟨U,.store T x y,ty,pos,aft,U⟩).run P w=.ok .skip (w.setCell ⟨b,o+j,U⟩ v) by simp[execOp,hx.eq _ _ _ hS.fr,hy.eq _ _ _ hS.fr,zV]];exact⟨kE.sub Ud,kk _ _ ⟨hS.fr,kE⟩⟩
theorem ada{o:Oper}(i:Nat)[ho:eJ l i o](hg:o.guard=U)
  (k:∀a w,St N ds S w0 L H a w->∃w',(execOp a.eval o).run P w=.ok .skip w'/\Wd S w0 Hr w'/\wpAnyH P .any l.toArray (et dw) (Wd S w0 Hr) di (listed.setIfInBounds i true) (a.put o.dst undef) w'):cU N ds S w0 L H (md P l dw (Wd S w0 Hr) di listed i):=by
 intro a w hS;obtain⟨w',h1,h2,h3⟩:=k a w hS;unfold md wpOp;rw[show l.toArray[i]?=O o by simpa using ho.at'];simp only;rw[al (show fq o (yielded l.toArray a.tmps)=true by simp[fq,hg])]
 left
 unfold Oper.wp;rw[h1];exact⟨h2,h3⟩
end
end
end Go.Proofs.YthfhgolkafpmnaaGreatDoor
