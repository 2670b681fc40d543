/- Texts joined: Own Clone DfsB LoopP RingP Sort BacksP Know Two HeldC TwoB. -/
import Derived.Sort.Grow
import Derived.Sort.Row
import Derived.Test.YthfhgolkafpmnaaGreatDoorGG
import Derived.Test.YthfhgolkafpmnaaGreatDoorGH
namespace Go.Proofs.YthfhgolkafpmnaaGreatDoor
open Go.Value renaming int->U,slice->J,pointer->ar,bool->D
open Go.IntKind renaming i64->O
open Option renaming some->Z,none->A
open Go renaming Value->V,World->C
open Go.Proofs.Tryz
open Go.Proofs.Tryz renaming prog->ae
open Go Go.RowKit
section
def bN.join(H:List bN):bN:=⟨cH H,λw=>(∀e∈H,∀w2:C,w.heap.size<=w2.heap.size->(∀b,e.fp b->w2.heap[b]?=w.heap[b]?)->e.ok w2)/\H.Pairwise λe f=>∀b,e.fp b->¬f.fp b⟩
section
variable {P:Program} {N:Nat} {ds:List Deferred} {S:Nat->Prop} {w0 w:C} {L:List (Nat×V)} {H H1 H2:List bN} {p:Act->C->Prop}
theorem Wd.join(h:Wd S w0 (H1++H2) w):Wd S w0 (bN.join H1::H2) w:=by
 have vv:=jI.1 h.apart;refine⟨h.ch,λe he b hb=>?_,λe he w' hs ek=>?_,ew.2 ⟨λf hf b ⟨e,he,hb⟩=>vv.2.2 e he f hf b hb,vv.2.1⟩⟩
 ·rcases bD.1 he with rfl|he
  ·obtain⟨f,hf,hb⟩:=hb
   exact h.own f (ct _ hf) b hb
  ·exact h.own e (de _ he) b hb
 ·rcases bD.1 he with rfl|he
  ·exact⟨λf hf w2 Q9 jg=>h.ok f (ct _ hf) w2 (du hs Q9) λb hb=>(jg b hb).trans (ek b ⟨f,hf,hb⟩),vv.1⟩
  ·exact h.ok e (de _ he) w' hs ek
theorem Wd.ql(h:Wd S w0 (bN.join H1::H2) w):Wd S w0 (H1++H2) w:=by
 have vv:=ew.1 h.apart;have hj:=h.get (k:=0) rfl;refine⟨h.ch,λe he b hb=>?_,λe he w' hs ek=>?_,jI.2 ⟨hj.2,vv.2,λe he f hf b hb=>vv.1 f hf b ⟨e,he,hb⟩⟩⟩
 ·rcases bA.1 he with he|he
  ·exact h.own (bN.join H1) aC b ⟨e,he,hb⟩
  ·exact h.own e (cO _ he) b hb
 ·rcases bA.1 he with he|he
  ·exact hj.1 e he w' hs ek
  ·exact h.ok e (cO _ he) w' hs ek
theorem GA(k:aki N ds S w0 L (bN.join H1::H2) p):aki N ds S w0 L (H1++H2) p:=λa w hS=>k a w ⟨hS.fr,hS.wd.join⟩
theorem CS(k:aki N ds S w0 L (H1++H2) p):aki N ds S w0 L (bN.join H1::H2) p:=λa w hS=>k a w ⟨hS.fr,hS.wd.ql⟩
end
def dB(v:cg):List V:=[D v.z,U O v.n]
structure cW where
 dst:Int
 a:Option Addr
 c:Nat
 l:List cg
structure jG where
 x:dJ
 a:Option Addr
 c:Nat
structure aX where
 pa:Option Addr
 pc:Nat
 ps:List cW
 la:Option Addr
 lc:Nat
 xs:List jG
 kind:Int
 on:cg
 ta:Option Addr
 tc:Nat
 to:List Int
def cW.kN(p:cW):ep:=⟨p.dst,p.l⟩
def aX.eR(b:aX):E:=⟨b.ps.map cW.kN,b.xs.map (·.x),b.kind,b.on,b.to⟩
def cF(p:cW):List V:=[U O p.dst,J p.a p.l.length p.c]
def fe(i:jG):List V:=[U O i.x.op,U O i.x.dst,D i.x.a.z,U O i.x.a.n,D i.x.b.z,U O i.x.b.n,U O i.x.fn,J i.a i.x.args.length i.c]
def bm(b:aX):List V:=[J b.pa b.ps.length b.pc,J b.la b.xs.length b.lc,U O b.kind,D b.on.z,U O b.on.n,J b.ta b.to.length b.tc]
def fP(p:cW):bN:=M p.a p.l.length p.c 41 2 (p.l.flatMap dB)
def j1(i:jG):bN:=M i.a i.x.args.length i.c 41 2 (i.x.args.flatMap dB)
def jM(b:aX):List bN:=M b.pa b.ps.length b.pc 49 2 (b.ps.flatMap cF)::M b.la b.xs.length b.lc 56 8 (b.xs.flatMap fe)::M b.ta b.to.length b.tc 3 1 (b.to.map (U O))::(b.ps.map fP++b.xs.map j1)
def ck(b:aX):bN:=bN.join (jM b)
def V_(_:C)(p:cW)(cs:List V):Prop:=cs=cF p
def Ro(_:C)(i:jG)(cs:List V):Prop:=cs=fe i
def V6(_:C)(b:aX)(cs:List V):Prop:=cs=bm b
def Wc(_:C)(v:cg)(cs:List V):Prop:=cs=dB v
theorem tC{α β:Type}{w:C}{a:Option Addr}{n c s:Nat}{l:List α}{ake:C->α->List V->Prop}{aj7:C->β->List V->Prop}{q:α->β->Prop}(h:aG w (J a n c) s l ake)(hp:∀x∈l,∀cs,ake w x cs->∃y,aj7 w y cs/\q x y):
  ∃m:List β,m.length=l.length/\aG w (J a n c) s m aj7/\∀(i:Nat) x,l[i]?=Z x->∃y,m[i]?=Z y/\q x y:=by
 obtain⟨hn,qP,hb,b,o,ha,ji⟩:=h.at;obtain⟨_,_,_,_,_,e,_,_,_,aaR,_⟩:=id h;simp only[Value.slice.injEq]at e;obtain⟨ys,Dm,hys⟩:=FE (p:=λi x y=>∃cs,bF w b (o+i*s) cs/\aj7 w y cs/\q x y) l λi x hx=>by
  obtain⟨cs,hc,hv⟩:=ji i x hx;obtain⟨y,h1,h2⟩:=hp x (aq hx) cs hv;exact⟨y,cs,hc,h1,h2⟩
 refine⟨ys,Dm,⟨a,n,c,b,o,rfl,I,qP,hb,I,λeQ=>ha λe=>eQ (lk (by rw[Dm,e];rfl)),λi y hy=>?_⟩,λi x hx=>?_⟩
 ·have iJ:i<l.length:=by rw[<-Dm];exact(az.1 hy).1
  obtain⟨y',VV,cs,hc,hu,_⟩:=hys i l[i] (a_ iJ);rw[hy]at VV;obtain rfl:=a7 VV;exact⟨cs,hc,hu⟩
 ·obtain⟨y,hy,cs,_,_,hq⟩:=hys i x hx
  exact⟨y,hy,hq⟩
theorem vF{α β:Type}{f:β->α}{l:List α}{m:List β}(hl:m.length=l.length)(h:∀(i:Nat) x,l[i]?=Z x->∃y,m[i]?=Z y/\f y=x):m.map f=l:=by
 apply ci;intro i
 by_cases hi:i<l.length
 ·obtain⟨y,hy,e⟩:=h i l[i] (a_ hi)
  rw[aJ,hy,a_ hi,<-e];rfl
 ·rw[bO dp,bO I]
theorem Uy{w:C}{v:V}{l:List ep}(h:aG w v 2 l Cm):∃(a:Option Addr) (c:Nat) (ps:List cW),v=J a ps.length c/\ps.map cW.kN=l/\aG w v 2 ps V_/\∀p∈ps,dk p.dst/\aG w (J p.a p.l.length p.c) 2 p.l mi:=by
 obtain⟨a,n,c,b,o,rfl,hn,_⟩:=id h;obtain⟨m,s6,rq,hq⟩:=tC (aj7:=V_) (q:=λx y=>cW.kN y=x/\dk y.dst/\aG w (J y.a y.l.length y.c) 2 y.l mi) h λx _ cs ⟨v,e,hd,hs⟩=>by
  have Pz:=hs;obtain⟨a',n',c',_,_,rfl,Pv,_⟩:=Pz;subst Pv;exact⟨⟨x.dst,a',c',x.src⟩,e,rfl,hd,hs⟩
 have Al:=vF (f:=cW.kN) s6 λi x hx=>by
  obtain⟨y,hy,e,_⟩:=hq i x hx;exact⟨y,hy,e⟩
 refine⟨a,c,m,by rw[s6,hn],Al,rq,λp hp=>?_⟩;obtain⟨i,hi⟩:=bg hp;obtain⟨y,hy,_,h2⟩:=hq i (l[i]'(by rw[<-s6];exact(az.1 hi).1)) (a_ _);rw[hi]at hy;obtain rfl:=a7 hy;exact h2
theorem Tu{w:C}{v:V}{l:List dJ}(h:aG w v 8 l Cj):∃(a:Option Addr) (c:Nat) (xs:List jG),v=J a xs.length c/\xs.map (·.x)=l/\aG w v 8 xs Ro/\∀i∈xs,(dk i.x.op/\dk i.x.dst/\dk i.x.a.n/\dk i.x.b.n/\dk i.x.fn)/\aG w (J i.a i.x.args.length i.c) 2 i.x.args mi:=by
 obtain⟨a,n,c,b,o,rfl,hn,_⟩:=id h;obtain⟨m,s6,rq,hq⟩:=tC (aj7:=Ro) (q:=λx y=>y.x=x/\(dk y.x.op/\dk y.x.dst/\dk y.x.a.n/\dk y.x.b.n/\dk y.x.fn)/\aG w (J y.a y.x.args.length y.c) 2 y.x.args mi) h λx _ cs ⟨v,e,h1,h2,h3,h4,h5,hs⟩=>by
  have Pz:=hs;obtain⟨a',n',c',_,_,rfl,Pv,_⟩:=Pz;subst Pv;exact⟨⟨x,a',c'⟩,e,rfl,⟨h1,h2,h3,h4,h5⟩,hs⟩
 have Al:=vF (f:=λi:jG=>i.x) s6 λi x hx=>by
  obtain⟨y,hy,e,_⟩:=hq i x hx;exact⟨y,hy,e⟩
 refine⟨a,c,m,by rw[s6,hn],Al,rq,λp hp=>?_⟩;obtain⟨i,hi⟩:=bg hp;obtain⟨y,hy,_,h2⟩:=hq i (l[i]'(by rw[<-s6];exact(az.1 hi).1)) (a_ _);rw[hi]at hy;obtain rfl:=a7 hy;exact h2
structure wU(w:C)(b:aX):Prop where
 kind:dk b.kind
 on:dk b.on.n
 aD:aG w (J b.pa b.ps.length b.pc) 2 b.ps V_
 kN:∀p∈b.ps,dk p.dst/\aG w (J p.a p.l.length p.c) 2 p.l mi
 list:aG w (J b.la b.xs.length b.lc) 8 b.xs Ro
 ins:∀i∈b.xs,(dk i.x.op/\dk i.x.dst/\dk i.x.a.n/\dk i.x.b.n/\dk i.x.fn)/\aG w (J i.a i.x.args.length i.c) 2 i.x.args mi
 to:aG w (J b.ta b.to.length b.tc) 1 b.to fI
theorem Rv{w:C}{v:V}{l:List E}(h:aG w v 6 l ed):∃(a:Option Addr) (c:Nat) (bs:List aX),v=J a bs.length c/\bs.map aX.eR=l/\aG w v 6 bs V6/\∀b∈bs,wU w b:=by
 obtain⟨a,n,c,b,o,rfl,hn,_⟩:=id h;obtain⟨m,s6,rq,hq⟩:=tC (aj7:=V6) (q:=λx y=>aX.eR y=x/\wU w y) h λx _ cs ⟨p,l,t,e,h1,h2,hp,hl,ht⟩=>by
  obtain⟨pa,pc,ps,rfl,hp1,Lu,hp3⟩:=Uy hp;obtain⟨la,lc,xs,rfl,ly,HI,hl3⟩:=Tu hl;have Ks:=ht;obtain⟨ta,tn,tc,_,_,rfl,uW,_⟩:=Ks;subst uW;exact⟨⟨pa,pc,ps,la,lc,xs,x.kind,x.on,ta,tc,x.to⟩,e,by simp[aX.eR,hp1,ly],⟨h1,h2,Lu,hp3,HI,hl3,ht⟩⟩
 have Al:=vF (f:=aX.eR) s6 λi x hx=>by
  obtain⟨y,hy,e,_⟩:=hq i x hx;exact⟨y,hy,e⟩
 refine⟨a,c,m,by rw[s6,hn],Al,rq,λp hp=>?_⟩;obtain⟨i,hi⟩:=bg hp;obtain⟨y,hy,_,h2⟩:=hq i (l[i]'(by rw[<-s6];exact(az.1 hi).1)) (a_ _);rw[hi]at hy;obtain rfl:=a7 hy;exact h2
theorem uE{α β:Type}{w:C}{v:V}{s:Nat}{m:List β}{aj7:C->β->List V->Prop}{ake:C->α->List V->Prop}(f:β->α)(h:aG w v s m aj7)(hv:∀y∈m,∀cs,aj7 w y cs->ake w (f y) cs):aG w v s (m.map f) ake:=by
 obtain⟨a,n,c,b,o,rfl,hn,qP,hb,II,ha,ji⟩:=h;refine⟨a,n,c,b,o,rfl,ax hn,qP,hb,II,λeQ=>ha λe=>eQ (by rw[e];rfl),λi x hx=>?_⟩;rw[aJ]at hx;obtain⟨y,hy,rfl⟩:=cA.1 hx;obtain⟨cs,hc,hu⟩:=ji i y hy;exact⟨cs,hc,hv y (aq hy) cs hu⟩
theorem qF{α:Type}{S:Nat->Prop}{w0 w:C}{H:List bN}(h:Wd S w0 H w){k:Nat}{a:Option Addr}{c e s:Nat}{l:List α}{g:α->List V}(hk:H[k]?=Z (M a l.length c e s (l.flatMap g)))(hg:∀x,(g x).length=s)(hb:l.length<=100000):aG w (J a l.length c) s l λ_ x cs=>cs=g x:=by
 refine h.oH hk rfl I λi x hx=>⟨g x,λj v hj=>fB hg l i x j v hx hj,rfl⟩
theorem fV(p:cW):(cF p).length=2:=rfl
theorem jW(i:jG):(fe i).length=8:=rfl
theorem dX(b:aX):(bm b).length=6:=rfl
theorem eZ(v:cg):(dB v).length=2:=rfl
theorem Vu{w:C}{v:V}{l:List cg}(h:aG w v 2 l Wc)(hb:∀x∈l,dk x.n):aG w v 2 l mi:=by
 have:=uE (ake:=mi) id h λy hy cs hc=>⟨hc,hb y hy⟩;rwa[ll]at this
theorem Hy{w:C}{v:V}{l:List cg}(h:aG w v 2 l mi):aG w v 2 l Wc:=by
 have:=uE (ake:=Wc) id h λy _ cs hc=>hc.1;rwa[ll]at this
theorem Vt{w:C}{v:V}{l:List cg}(h:aG w v 2 l mi):∀x∈l,dk x.n:=λx hx=>by
 obtain⟨_,_,_,_,_,_,_,_,_,_,_,ji⟩:=h;obtain⟨i,hi⟩:=bg hx;obtain⟨_,_,_,h2⟩:=ji i x hi;exact h2
theorem Tv{w:C}{v:V}{l:List Int}(h:aG w v 1 l fI):∀x∈l,dk x:=λx hx=>by
 obtain⟨_,_,_,_,_,_,_,_,_,_,_,ji⟩:=h;obtain⟨i,hi⟩:=bg hx;obtain⟨_,_,_,h2⟩:=ji i x hi;exact h2
structure aX.Bd(b:aX):Prop where
 kind:dk b.kind
 on:dk b.on.n
 aD:b.ps.length<=1000
 kN:∀p∈b.ps,dk p.dst/\p.l.length<=1000/\∀v∈p.l,dk v.n
 list:b.xs.length<=1000
 ins:∀i∈b.xs,(dk i.x.op/\dk i.x.dst/\dk i.x.a.n/\dk i.x.b.n/\dk i.x.fn)/\i.x.args.length<=1000/\∀v∈i.x.args,dk v.n
 to:b.to.length<=1000/\∀t∈b.to,dk t
theorem wU.bd{w:C}{b:aX}(h:wU w b)(h1:b.ps.length<=1000)(h2:∀p∈b.ps,p.l.length<=1000)(h3:b.xs.length<=1000)(h4:∀i∈b.xs,i.x.args.length<=1000)(h5:b.to.length<=1000):b.Bd:=
 ⟨h.kind,h.on,h1,λp hp=>⟨(h.kN p hp).1,h2 p hp,Vt (h.kN p hp).2⟩,h3,λi hi=>⟨(h.ins i hi).1,h4 i hi,Vt (h.ins i hi).2⟩,h5,Tv h.to⟩
theorem Wd.aN{S:Nat->Prop}{w0 w:C}{H:List bN}{b:aX}(h:Wd S w0 (jM b++H) w)(hb:b.Bd):wU w b:=by
 have hp:∀p∈b.ps,fP p∈jM b++H:=λp hp=>ct _ (by unfold jM;simp only[bD,bA,aV];exact .inr (.inr (.inr (.inl ⟨p,hp,rfl⟩))));have hi:∀i∈b.xs,j1 i∈jM b++H:=λi hi=>ct _ (by unfold jM;simp only[bD,bA,aV];exact .inr (.inr (.inr (.inr ⟨i,hi,rfl⟩))));refine⟨hb.kind,hb.on,qF h (k:=0) rfl fV (by have:=hb.aD;omega),λp zO=>?_,qF h (k:=1) rfl jW (by have:=hb.list;omega),λi VP=>?_,?_⟩
 ·obtain⟨h1,h2,h3⟩:=hb.kN p zO
  obtain⟨k,hk⟩:=bg (hp p zO);exact⟨h1,Vu (qF h hk eZ I) h3⟩
 ·obtain⟨h1,h2,h3⟩:=hb.ins i VP
  obtain⟨k,hk⟩:=bg (hi i VP);exact⟨h1,Vu (qF h hk eZ I) h3⟩
 ·refine h.oH (k:=2) rfl rfl (by have:=hb.to.1;omega) λi x hx=>⟨[U O x],λj v hj=>?_,rfl,hb.to.2 x (aq hx)⟩
  match j,hj with
  |0,hj=>simpa[hx]using hj
theorem Rw{w:C}{v:V}{bs:List aX}(h:aG w v 6 bs V6)(hb:∀b∈bs,wU w b):aG w v 6 (bs.map aX.eR) ed:=
 uE aX.eR h λb hm cs hc=>by
  have hB:=hb b hm;refine⟨_,_,_,hc,hB.kind,hB.on,uE cW.kN hB.aD λp hp cs hc=>⟨_,hc,hB.kN p hp⟩,uE (λi:jG=>i.x) hB.list λi hi cs hc=>?_,hB.to⟩;obtain⟨⟨h1,h2,h3,h4,h5⟩,h6⟩:=hB.ins i hi;exact⟨_,hc,h1,h2,h3,h4,h5,h6⟩
theorem Wd.blocks{S:Nat->Prop}{w0 w:C}{H:List bN}{ba:Option Addr}{bc:Nat}{bs:List aX}(h:Wd S w0 (M ba bs.length bc 46 6 (bs.flatMap bm)::(bs.map ck++H)) w)(hn:bs.length<=1000)(hb:∀b∈bs,b.Bd):aG w (J ba bs.length bc) 6 (bs.map aX.eR) ed:=by
 refine Rw (qF h (k:=0) rfl dX I) λb hm=>?_;have C8:ck b∈M ba bs.length bc 46 6 (bs.flatMap bm)::(bs.map ck++H):=by
  simp only[bD,bA,aV];exact .inr (.inl ⟨b,hm,rfl⟩)
 obtain⟨k,hk⟩:=bg C8;have h1:=(h.perm (ku hk)).ql;exact h1.aN (hb b hm)
end
section
set_option maxHeartbeats 8000000
attribute [local irreducible] wpListIn Code.wpIn Exit.then Exit.inBlock bodyPost wpQuiet wpAnyIn wpAnyH
theorem xz(a:Option Addr)(c:Nat)(l:List cg)(hb:l.length<=100000)(w0:C)(h:aG w0 (J a l.length c) 2 l Wc):
  iC ae 96 [J a l.length c] w0 λu w'=>∃x:Option Addr×Nat,u=J x.1 l.length x.2/\Wd cX w0 [M x.1 l.length x.2 41 2 (l.flatMap dB)] w'/\True:=by
 refine aM func96 rfl ntmps96 rfl (Wd.nil cX w0) ?_;refine aU ?_;cases a with
 |none=>
  have BF:l=[]:=by
   obtain⟨_,_,_,b,o,ha,_⟩:=h.at;exact Classical.byContradiction λhn=>by cases ha hn
  subst BF;refine aE ?_;refine fU 41 2 ?_;exact cE rfl λw hw=>⟨(A,0),rfl,hw,trivial⟩
 |some ad=>
  refine aH ?_;refine nY rfl λeb _=>?_;refine aU ?_;refine lV rfl rfl l dB (λ_ _ _ h=>h) (λ_=>rfl) (λy u hu=>by simp only[dB,bD,h_,or_false]at hu;rcases hu with rfl|rfl<;>rfl) (λw hw=>h.bZ (λ_ _ _ _ _ h=>h) hw.ch) I I λa' c'=>?_;rw[aO,di];refine aH ?_;exact cE rfl λw hw=>⟨(a',c'),rfl,hw,trivial⟩
theorem KR(a:Option Addr)(c:Nat)(l:List cW)(hb:l.length<=100000)(w0:C)(h:aG w0 (J a l.length c) 2 l V_):
  iC ae 95 [J a l.length c] w0 λu w'=>∃x:Option Addr×Nat,u=J x.1 l.length x.2/\Wd cX w0 [M x.1 l.length x.2 49 2 (l.flatMap cF)] w'/\True:=by
 refine aM func95 rfl ntmps95 rfl (Wd.nil cX w0) ?_;refine aU ?_;cases a with
 |none=>
  have BF:l=[]:=by
   obtain⟨_,_,_,b,o,ha,_⟩:=h.at;exact Classical.byContradiction λhn=>by cases ha hn
  subst BF;refine aE ?_;refine fU 49 2 ?_;exact cE rfl λw hw=>⟨(A,0),rfl,hw,trivial⟩
 |some ad=>
  refine aH ?_;refine nY rfl λeb _=>?_;refine aU ?_;refine lV rfl rfl l cF (λ_ _ _ h=>h) (λ_=>rfl) (λy u hu=>by simp only[cF,bD,h_,or_false]at hu;rcases hu with rfl|rfl<;>rfl) (λw hw=>h.bZ (λ_ _ _ _ _ h=>h) hw.ch) I I λa' c'=>?_;rw[aO,di];refine aH ?_;exact cE rfl λw hw=>⟨(a',c'),rfl,hw,trivial⟩
theorem KQ(a:Option Addr)(c:Nat)(l:List jG)(hb:l.length<=100000)(w0:C)(h:aG w0 (J a l.length c) 8 l Ro):
  iC ae 97 [J a l.length c] w0 λu w'=>∃x:Option Addr×Nat,u=J x.1 l.length x.2/\Wd cX w0 [M x.1 l.length x.2 56 8 (l.flatMap fe)] w'/\True:=by
 refine aM func97 rfl ntmps97 rfl (Wd.nil cX w0) ?_;refine aU ?_;cases a with
 |none=>
  have BF:l=[]:=by
   obtain⟨_,_,_,b,o,ha,_⟩:=h.at;exact Classical.byContradiction λhn=>by cases ha hn
  subst BF;refine aE ?_;refine fU 56 8 ?_;exact cE rfl λw hw=>⟨(A,0),rfl,hw,trivial⟩
 |some ad=>
  refine aH ?_;refine nY rfl λeb _=>?_;refine aU ?_;refine lV rfl rfl l fe (λ_ _ _ h=>h) (λ_=>rfl) (λy u hu=>by simp only[fe,bD,h_,or_false]at hu;rcases hu with rfl|rfl|rfl|rfl|rfl|rfl|rfl|rfl<;>rfl) (λw hw=>h.bZ (λ_ _ _ _ _ h=>h) hw.ch) I I λa' c'=>?_;rw[aO,di];refine aH ?_;exact cE rfl λw hw=>⟨(a',c'),rfl,hw,trivial⟩
theorem Gp(a:Option Addr)(c:Nat)(l:List aX)(hb:l.length<=100000)(w0:C)(h:aG w0 (J a l.length c) 6 l V6):
  iC ae 94 [J a l.length c] w0 λu w'=>∃x:Option Addr×Nat,u=J x.1 l.length x.2/\Wd cX w0 [M x.1 l.length x.2 46 6 (l.flatMap bm)] w'/\True:=by
 refine aM func94 rfl ntmps94 rfl (Wd.nil cX w0) ?_;refine aU ?_;cases a with
 |none=>
  have BF:l=[]:=by
   obtain⟨_,_,_,b,o,ha,_⟩:=h.at;exact Classical.byContradiction λhn=>by cases ha hn
  subst BF;refine aE ?_;refine fU 46 6 ?_;exact cE rfl λw hw=>⟨(A,0),rfl,hw,trivial⟩
 |some ad=>
  refine aH ?_;refine nY rfl λeb _=>?_;refine aU ?_;refine lV rfl rfl l bm (λ_ _ _ h=>h) (λ_=>rfl) (λy u hu=>by simp only[bm,bD,h_,or_false]at hu;rcases hu with rfl|rfl|rfl|rfl|rfl|rfl<;>rfl) (λw hw=>h.bZ (λ_ _ _ _ _ h=>h) hw.ch) I I λa' c'=>?_;rw[aO,di];refine aH ?_;exact cE rfl λw hw=>⟨(a',c'),rfl,hw,trivial⟩
theorem Cz(a:Option Addr)(c:Nat)(l:List Int)(hb:l.length<=100000)(w0:C)(h:aG w0 (J a l.length c) 1 l fI):
  iC ae 59 [J a l.length c] w0 λu w'=>∃x:Option Addr×Nat,u=J x.1 l.length x.2/\Wd cX w0 [M x.1 l.length x.2 3 1 (l.map (U O))] w'/\True:=by
 refine aM func59 rfl ntmps59 rfl (Wd.nil cX w0) ?_;refine aU ?_;cases a with
 |none=>
  have BF:l=[]:=by
   obtain⟨_,_,_,b,o,ha,_⟩:=h.at;exact Classical.byContradiction λhn=>by cases ha hn
  subst BF;refine aE ?_;refine fU 3 1 ?_;exact cE rfl λw hw=>⟨(A,0),rfl,hw,trivial⟩
 |some ad=>
  refine aH ?_;refine nY rfl λeb _=>?_;refine aU ?_;refine lV rfl rfl l (λx=>[U O x]) (λ_ _ _ h=>h.1) (λ_=>rfl) (λy u hu=>by simp only[bR]at hu;subst hu;rfl) (λw hw=>h.bZ (dP) hw.ch) I I λa' c'=>?_;rw[vk,aO,di];refine aH ?_;exact cE rfl λw hw=>⟨(a',c'),rfl,hw,trivial⟩
end
section
def mu(l:List Int):List Int:=l.mergeSort λx y=>decide (x<=y)
theorem sorted_perm(l:List Int):(mu l).Perm l:=List.mergeSort_perm l _
theorem D2(l:List Int):(mu l).length=l.length:=(sorted_perm l).length_eq
theorem MG{l:List Int}{x:Int}:x∈mu l↔x∈l:=(sorted_perm l).mem_iff
theorem QG(l:List Int):(mu l).Pairwise (·<=·):=by
 have:=List.pairwise_mergeSort (le:=λx y:Int=>decide (x<=y)) (λa b c h1 h2=>by simp at h1 h2⊢;omega) (λa b=>by simp;omega) l;exact this.imp λh=>ax h
theorem N7:∀{l m:List Int},l.Pairwise (·<·)->m.Pairwise (·<·)->(∀x,x∈l↔x∈m)->l=m
 |[],[],_,_,_=>rfl
 |[],y::m,_,_,h=>by have:=(h y).2 aC;cases this
 |x::l,[],_,_,h=>by have:=(h x).1 aC;cases this
 |x::l,y::m,hl,hm,h=>by
  obtain⟨hx,Zz⟩:=ew.1 hl;obtain⟨hy,Pu⟩:=ew.1 hm;have e:x=y:=by
   rcases bD.1 ((h x).1 aC)with e|h1
   ·exact e
   ·rcases bD.1 ((h y).2 aC)with e|h2
    ·exact e.symm
    ·have:=hx y h2;have:=hy x h1;omega
  subst e;congr 1;refine N7 Zz Pu λakj=>⟨λhz=>?_,λhz=>?_⟩
  ·rcases bD.1 ((h akj).1 (cO _ hz))with e|h1
   ·have:=hx akj hz;omega
   ·exact h1
  ·rcases bD.1 ((h akj).2 (cO _ hz))with e|h1
   ·have:=hy akj hz;omega
   ·exact h1
theorem J8{l:List Int}(hn:l.Nodup):(mu l).Pairwise (·<·):=by
 have h1:=QG l;have h2:(mu l).Nodup:=(sorted_perm l).nodup_iff.2 hn;exact(h1.and h2).imp λ⟨h,k⟩=>by omega
theorem vj(n:Nat)(p:Nat->Bool):(((List.range n).filter p).map λx:Nat=>(x:Int)).Pairwise (·<·):=by
 rw[q6];exact((List.pairwise_lt_range).filter p).imp λh=>by omega
theorem EQ{l:List Int}{n:Nat}{p:Nat->Bool}(hn:l.Nodup)(h:∀x,x∈l↔∃c:Nat,x=c/\c<n/\p c=true):mu l=((List.range n).filter p).map λx:Nat=>(x:Int):=by
 refine N7 (J8 hn) (vj n p) λx=>?_;rw[MG,h,aV];exact⟨λ⟨c,e,h1,h2⟩=>⟨c,cC.2 ⟨cM.2 h1,h2⟩,e.symm⟩,λ⟨c,h1,e⟩=>⟨c,e.symm,cM.1 (cC.1 h1).1,(cC.1 h1).2⟩⟩
theorem Hq(pre xs sp:List V)(l:List Int)(h:xs.length=l.length):Go.Sort.putCells (U O) pre.length l.toArray (pre++xs++sp).toArray=(pre++l.map (U O)++sp).toArray:=by
 apply Array.ext';apply ci;intro j;unfold Go.Sort.putCells
 by_cases hj:j<(pre++xs++sp).length
 ·rw[Array.getElem?_toList,Array.getElem?_mapIdx]
  rw[List.getElem?_toArray,a_ hj];simp only[bu]
  by_cases h1:j<pre.length
  ·rw[if_neg dp]
   simp[List.getElem?_append,h1]
  ·by_cases h2:j<pre.length+l.length
   ·rw[if_pos dp]
    rw[dz,dC I,dY dp];have h3:j-pre.length<l.length:=I;simp[h3]
   ·rw[if_neg dp]
    rw[dC dp];simp only[bX,aF]at hj⊢;rw[List.getElem_append_right dp];simp only[bX,h];rw[a_ I]
 ·rw[Array.getElem?_toList,xu (by simp only[Array.size_mapIdx];simpa using hj),bO (by simp at hj⊢;omega)]
theorem Wd.mu{S:Nat->Prop}{w0 w:C}{H:List bN}(hW:Wd S w0 H w){k b o n c e m:Nat}{os:Array Obj}{l l':List Int}(hk:H[k]?=Z (M (Z ⟨b,o,A⟩) n c e 1 (l.map (U O))))(hl:l'.length=l.length):
  Wd S w0 (H.set k (M (Z ⟨b,o,A⟩) n c e 1 (l'.map (U O)))) (Go.Sort.grow (Go.Sort.putRow (U O) (Go.Sort.ahead w m) b o l'.toArray) os):=by
 obtain⟨h1,h2,h3,pre,sp,rfl,h5,hb⟩:=hW.lu hk;rw[aF]at h1;have bS:b<w.heap.size:=(fv.1 hb).1;have pU:(Go.Sort.putRow (U O) (Go.Sort.ahead w m) b pre.length l'.toArray).heap.size=w.heap.size:=by simp[Go.Sort.putRow,Go.Sort.mapBlock,Go.Sort.ahead]
 have C9:(Go.Sort.putRow (U O) (Go.Sort.ahead w m) b pre.length l'.toArray).heap[b]?=Z (.cells (pre++l'.map (U O)++sp).toArray e (0,0)):=by
  simp only[Go.Sort.putRow,Go.Sort.mapBlock,Go.Sort.ahead,Array.getElem?_modify,if_true,hb,bu,Go.Sort.onCells];rw[Hq pre _ sp l' (by simp[hl])]
 have abo:∀j,j≠b->(Go.Sort.putRow (U O) (Go.Sort.ahead w m) b pre.length l'.toArray).heap[j]?=w.heap[j]?:=λj hj=>by
  simp[Go.Sort.putRow,Go.Sort.mapBlock,Go.Sort.ahead,Array.getElem?_modify,Ne.symm hj]
 have hT:Wd S w0 (H.set k (M (Z ⟨b,pre.length,A⟩) n c e 1 (l'.map (U O)))) (Go.Sort.putRow (U O) (Go.Sort.ahead w m) b pre.length l'.toArray):=by
  refine hW.lj hk ⟨rfl,rfl,rfl,by rw[pU];exact bG _,λj _ hj=>abo j λe'=>hj (by simp[M,e'])⟩ (λb' nO=>?_) λw2 jg=>?_
  ·simp only[M,bu,b_]at nO⊢
   subst nO;exact⟨.inl rfl,by rw[pU];exact bS⟩
  ·have:=jg b (by simp[M])
   refine⟨by simpa[hl]using h1,.inr ⟨b,pre,sp,rfl,h2,h3,h5,?_⟩⟩;rw[this,C9]
 refine hT.call ⟨rfl,rfl,rfl,by simp[Go.Sort.grow],λj hj _=>?_⟩;simp only[Go.Sort.grow];rw[Array.getElem?_append_left hj]
def aaf(P:Program)(f:FuncId)(args:List V)(w0:C){α:Type}(s:Nat)(l:List α)(ake:C->α->List V->Prop)(mk:V->V):Prop:=
 iC P f args w0 λu w'=>∃x:Option Addr×Nat×(Nat->Prop),u=mk (J x.1 l.length x.2.1)/\Wd cX w0 [⟨x.2.2,λw=>aG w (J x.1 l.length x.2.1) s l ake⟩] w'/\True
section
variable {P:Program} {ro:Option Nat} {N:Nat} {ds:List Deferred} {S:Nat->Prop} {w0 w:C} {L:List (Nat×V)} {H akg:List bN} {ops:Array Oper} {rest:List Oper} {Q:Exit->Act->C->Prop}
theorem Yl{α β:Type}{s:Nat}{l:List α}{ake:C->α->List V->Prop}{mk:V->V}{f:FuncId}{args:List V}{val:β->V}{akg:β->List bN}{φ:β->Prop}(h:iC P f args w0 λu w'=>∃x,u=val x/\Wd cX w0 (akg x) w'/\φ x)
  (hv:∀x,φ x->∃a c,val x=mk (J a l.length c)/\∀w2,Wd (cH (akg x)) w2 (akg x) w2->aG w2 (J a l.length c) s l ake):aaf P f args w0 s l ake mk:=
 h.mono λu w' ⟨x,h1,h2,h3⟩=>by
  obtain⟨a,c,e,hs⟩:=hv x h3;have h4:Wd cX w0 (akg x++[]) w':=by rw[cD];exact h2
  exact⟨(a,c,_),h1.trans e,h4.pack _ hs,trivial⟩
end
attribute [local irreducible] wpListIn Code.wpIn Exit.then Exit.inBlock bodyPost wpQuiet wpAnyIn
set_option maxHeartbeats 4000000
section
variable {P:Program} {N:Nat} {ds:List Deferred} {S:Nat->Prop} {w0:C} {L:List (Nat×V)} {H Hr:List bN} {x y:Operand} {akd:Act->C->Prop} {l:List Oper} {bH:Nat} {listed:Array Bool}
def j5(P:Program)(l:List Oper)(akd:Act->C->Prop)(akc:C->Prop)(bH:Nat)(listed:Array Bool)(i:Nat)(a:Act)(w:C):Prop:=
 wpOp P l.toArray (dK akd) i (λa' w'=>akc w'/\wpAnyH P .any l.toArray (dK akd) akc bH (listed.setIfInBounds i true) a' w') a w
theorem lm(i j:Nat)(hr:decide (Region.ready .any l.toArray listed=[i,j])=true)(h1:aki N ds S w0 L H (j5 P l akd (Wd S w0 Hr) bH listed i))(h2:aki N ds S w0 L H (j5 P l akd (Wd S w0 Hr) bH listed j)):
  aki N ds S w0 L H (wpAnyH P .any l.toArray (dK akd) (Wd S w0 Hr) (bH+1) listed):=λa w hS=>
 wpAnyH_all (of_decide_eq_true hr) aC λi' yY=>by
  simp only[bD,h_,or_false]at yY;rcases yY with rfl|rfl
  ·exact h1 a w hS
  ·exact h2 a w hS
theorem Uh{d ty f:Nat}(i:Nat){args:List Operand}{vs:List V}{pA:Array Nat}{pos:String}{aft:Array Go.Edge}(R:C->V->C->Prop)[ho:dF l i ⟨Z d,.call {callee:=.value (.func f),args:=args.toArray,argTypes:=pA},ty,pos,aft,A⟩][h:aQ P f][hx:AY L args vs](hd:dy d N L=true)
  (hc:∀w,Wd S w0 H w->iC P f vs w (R w))
  (k:∀v w w',Wd S w0 H w->R w v w'->Wd S w0 Hr w'/\∀a,Fr N ds ((d,v)::L) a->wpAnyH P .any l.toArray (dK akd) (Wd S w0 Hr) bH (listed.setIfInBounds i true) a w'):aki N ds S w0 L H (j5 P l akd (Wd S w0 Hr) bH listed i):=by
 intro a w hS;unfold j5 wpOp;rw[show l.toArray[i]?=Z ⟨Z d,.call {callee:=.value (.func f),args:=args.toArray,argTypes:=pA},ty,pos,aft,A⟩ by simpa using ho.at'];simp only;rw[if_pos (show Region.wanted (⟨Z d,.call {callee:=.value (.func f),args:=args.toArray,argTypes:=pA},ty,pos,aft,A⟩:Oper) (yielded l.toArray a.tmps)=true from rfl)]
 left
 unfold Oper.wp;have rp:(execOp a.eval ⟨Z d,.call {callee:=.value (.func f),args:=args.toArray,argTypes:=pA},ty,pos,aft,A⟩).run P w=.ok (.enter f vs.toArray) w:=by
  simp[execOp,resolve,Act.eval,Deferred.ofValue,invoke,hx.eq _ _ _ hS.fr,h.run]
 rw[rp];refine Calls.mono (callsIn_wide.1 (hc w hS.wd)) λe w' ⟨v,he,hR⟩=>?_;subst he;obtain⟨h1,h2⟩:=k v w w' hS.wd hR;exact⟨h1,h2 _ (hS.fr.eo hd v)⟩
theorem vL{o:Oper}(i:Nat)[ho:dF l i o](hg:o.guard=A)
  (k:∀a w,St N ds S w0 L H a w->∃v w',(execOp a.eval o).run P w=.ok (.value v) w'/\Wd S w0 Hr w'/\wpAnyH P .any l.toArray (dK akd) (Wd S w0 Hr) bH (listed.setIfInBounds i true) (a.put o.dst v) w'):aki N ds S w0 L H (j5 P l akd (Wd S w0 Hr) bH listed i):=by
 intro a w hS;obtain⟨v,w',h1,h2,h3⟩:=k a w hS;unfold j5 wpOp;rw[show l.toArray[i]?=Z o by simpa using ho.at'];simp only;rw[if_pos (show Region.wanted o (yielded l.toArray a.tmps)=true by simp[Region.wanted,hg])]
 left
 unfold Oper.wp;rw[h1];exact⟨h2,h3⟩
theorem pK{α:Type}{val:α->V}{akg:α->List bN}{φ:α->Prop}{H1 H2:List bN}{d ty f:Nat}(i:Nat){args:List Operand}{vs:List V}{pA:Array Nat}{pos:String}{aft:Array Go.Edge}[ho:dF l i ⟨Z d,.call {callee:=.value (.func f),args:=args.toArray,argTypes:=pA},ty,pos,aft,A⟩][h:aQ P f][hx:AY L args vs](hd:dy d N L=true)(hH:Hr.Sublist H2)
  (hc:∀w,Wd S w0 (H1++H2) w->iC P f vs w λu w'=>∃x,u=val x/\Wd (cH H1) w (akg x) w'/\φ x)
  (k:∀x,φ x->aki N ds S w0 ((d,val x)::L) (akg x++H2) (wpAnyH P .any l.toArray (dK akd) (Wd S w0 Hr) bH (listed.setIfInBounds i true))):aki N ds S w0 L (H1++H2) (j5 P l akd (Wd S w0 Hr) bH listed i):=
 Uh i (λ_ u w'=>∃x,u=val x/\Wd S w0 (akg x++H2) w'/\φ x) hd (λw hw=>(hc w hw).mono λv w' ⟨x,h1,h2,h3⟩=>⟨x,h1,hw.comp h2,h3⟩) λv w w' hw hR=>by
  obtain⟨x,rfl,h2,h3⟩:=hR;exact⟨h2.sub (hH.trans (sP _ _)),λa hF=>k x h3 a w' ⟨hF,h2⟩⟩
theorem Ct{d ty T e jy:Nat}{zs cs:List V}{s:Nat}{v:V}{pos:String}{aft:Array Go.Edge}[h:cI P T e s jy zs][hx:Ev L x v][hv:iB v cs][hl:lA cs s](hs:((Nat.blt 0 s&&Nat.ble s 1000)&&Nat.beq zs.length s)=true)(a:Act)(w:C)(hS:St N ds S w0 L H a w):
  ∃w',(execOp a.eval ⟨Z d,.buildSlice T 1 #[(0,x)],ty,pos,aft,A⟩).run P w=.ok (.value (J (Z ⟨w.heap.size,0,A⟩) 1 1)) w'/\Wd S w0 (M (Z ⟨w.heap.size,0,A⟩) 1 1 e s cs::H) w':=by
 obtain⟨i,zz,hi,Tn,fT,h1,h2⟩:=h.get;simp only[Bool.and_eq_true,Nat.blt_eq,Nat.ble_eq]at hs;have hle:=hl.eq;refine⟨w.alloc (.cells cs.toArray e),?_,hS.wd.yd e s 1 _ I (by simp[maxLen])⟩;have hr:=run_buildSlice (P:=P) w T e 1 #[(0,v)] cs.toArray i zz h.qx hi Tn (by rw[h1];omega) (by rw[h1];omega) (by
  rw[h1,<-hle];have:=It v cs ((Array.range (1*cs.length)).map (zz.cells[·%zz.cells.size]!)).toList hv.eq aC;rw[Array.toArray_toList]at this;exact this)
 simp[execOp,hx.eq _ _ _ hS.fr,hr]
theorem iP{d ty T e jy:Nat}{zs cs:List V}{s:Nat}{v:V}{pos:String}{aft:Array Go.Edge}(i:Nat)[ho:dF l i ⟨Z d,.buildSlice T 1 #[(0,x)],ty,pos,aft,A⟩][h:cI P T e s jy zs][hx:Ev L x v][hv:iB v cs][hl:lA cs s](hd:dy d N L=true)(hs:((Nat.blt 0 s&&Nat.ble s 1000)&&Nat.beq zs.length s)=true)(hH:Hr.Sublist H)
  (k:∀b,w0.heap.size<=b->aki N ds S w0 ((d,J (Z ⟨b,0,A⟩) 1 1)::L) (M (Z ⟨b,0,A⟩) 1 1 e s cs::H) (wpAnyH P .any l.toArray (dK akd) (Wd S w0 Hr) bH (listed.setIfInBounds i true))):aki N ds S w0 L H (j5 P l akd (Wd S w0 Hr) bH listed i):=
 vL i rfl λa w hS=>by
  obtain⟨w',h1,h2⟩:=Ct (P:=P) (d:=d) (ty:=ty) (pos:=pos) (aft:=aft) (h:=h) (hx:=hx) (hv:=hv) (hl:=hl) hs a w hS;exact⟨_,w',h1,h2.sub (hH.trans (dR _ _)),k _ hS.wd.size _ _ ⟨hS.fr.eo hd _,h2⟩⟩
theorem IL{d ty T e jy:Nat}{zs cs:List V}{s:Nat}{v:V}{pos:String}{aft:Array Go.Edge}(i:Nat)[ho:dF l i ⟨Z d,.buildSlice T 1 #[(0,x)],ty,pos,aft,A⟩][h:cI P T e s jy zs][hx:Ev L x v][hv:iB v cs][hl:lA cs s](hd:dy d N L=true)(hs:((Nat.blt 0 s&&Nat.ble s 1000)&&Nat.beq zs.length s)=true)
  (hr:decide (Region.ready .any l.toArray listed=[i])=true) (hH:Hr.Sublist H)
  (k:∀b,w0.heap.size<=b->aki N ds S w0 ((d,J (Z ⟨b,0,A⟩) 1 1)::L) (M (Z ⟨b,0,A⟩) 1 1 e s cs::H) (wpAnyH P .any l.toArray (dK akd) (Wd S w0 Hr) bH (listed.setIfInBounds i true))):aki N ds S w0 L H (wpAnyH P .any l.toArray (dK akd) (Wd S w0 Hr) (bH+1) listed):=
 IM i rfl hr λa w hS=>by
  obtain⟨w',h1,h2⟩:=Ct (P:=P) (d:=d) (ty:=ty) (pos:=pos) (aft:=aft) (h:=h) (hx:=hx) (hv:=hv) (hl:=hl) hs a w hS;exact⟨_,w',h1,h2.sub (hH.trans (dR _ _)),k _ hS.wd.size _ _ ⟨hS.fr.eo hd _,h2⟩⟩
theorem kW{d ty T e s jy:Nat}{zs:List V}{pos:String}{aft:Array Go.Edge}{ad:Option Addr}{n c:Nat}(i0 k:Nat){xs:List V}{b2 o2 m c2 k2 e2:Nat}{news:List V}[ho:dF l i0 ⟨Z d,.call {callee:=.builtin .append,args:=#[x,y],argTypes:=#[T,T]},ty,pos,aft,A⟩][h:cI P T e s jy zs][hx:Ev L x (J ad n c)][hy:Ev L y (J (Z ⟨b2,o2,A⟩) m c2)]
  (hk:H[k]?=Z (M ad n c e s xs)) [tI:u7 H (Z ⟨b2,o2,A⟩) m c2 k2 e2 s news] [h1:u4 news] (hd:dy d N L=true) (hs:((Nat.blt 0 s&&Nat.blt 0 m)&&Nat.beq zs.length s)=true) (kM:(n+m)*jy<=140737488355328) (II:n+m<=140737488355328)
  (hr:decide (Region.ready .any l.toArray listed=[i0])=true) (hH:∀e',Hr.Sublist (H.set k e'))
  (kk:∀a' c',aki N ds S w0 ((d,J a' (n+m) c')::L) (H.set k (M a' (n+m) c' e s (xs++news))) (wpAnyH P .any l.toArray (dK akd) (Wd S w0 Hr) bH (listed.setIfInBounds i0 true))):aki N ds S w0 L H (wpAnyH P .any l.toArray (dK akd) (Wd S w0 Hr) (bH+1) listed):=
 IM i0 rfl hr λa w hS=>by
  simp only[Bool.and_eq_true,Nat.blt_eq]at hs;obtain⟨hl,_⟩:=hS.wd.lu tI.at';obtain⟨a',c',w',hr,ek⟩:=hS.wd.append (P:=P) (ty:=ty) (c2:=c2) h hs.1.1 hk hs.1.2 hl (λj u hj=>by rw[Addr.add_lit];exact hS.wd.cL tI.at' hj) h1.all kM II (q9 hs.2);exact⟨J a' (n+m) c',w',by simp[execOp,resolve,invoke,builtin,hx.eq _ _ _ hS.fr,hy.eq _ _ _ hS.fr,hr],ek.sub (hH _),kk a' c' _ _ ⟨hS.fr.eo hd _,ek⟩⟩
end
section
variable {P:Program} {N:Nat} {ds:List Deferred} {S:Nat->Prop} {w0:C} {L L':List (Nat×V)} {H H' Hr:List bN} {Q:Exit->Act->C->Prop} {x y:Operand} {akd:Act->C->Prop} {l:List Oper} {bH:Nat} {listed:Array Bool}
theorem Pb{α:Type}{d ty T e s jy:Nat}{zs:List V}{pos:String}{aft:Array Go.Edge}{ad a2:Option Addr}{n c m c2:Nat}(i0 k:Nat){xs:List V}[ho:dF l i0 ⟨Z d,.call {callee:=.builtin .append,args:=#[x,y],argTypes:=#[T,T]},ty,pos,aft,A⟩][h:cI P T e s jy zs][hx:Ev L x (J ad n c)][hy:Ev L y (J a2 m c2)]
  (hk:H[k]?=Z (M ad n c e s xs)) (hd:dy d N L=true) (hs:(Nat.blt 0 s&&Nat.beq zs.length s)=true) (q:List α) {ake:C->α->List V->Prop} (g:α->List V) (hg:∀w x cs,ake w x cs->cs=g x) (hlen:∀x,(g x).length=s) (wO:∀x,∀u∈g x,u.oneCell'=true)
  (rq:∀w,Wd S w0 H w->aG w (J a2 m c2) s q ake) (kM:(n+m)*jy<=140737488355328) (II:n+m<=140737488355328)
  (hr:decide (Region.ready .any l.toArray listed=[i0])=true) (hH:∀e',Hr.Sublist (H.set k e'))
  (kk:∀a' c',aki N ds S w0 ((d,J a' (n+m) c')::L) (H.set k (M a' (n+m) c' e s (xs++q.flatMap g))) (wpAnyH P .any l.toArray (dK akd) (Wd S w0 Hr) bH (listed.setIfInBounds i0 true))):aki N ds S w0 L H (wpAnyH P .any l.toArray (dK akd) (Wd S w0 Hr) (bH+1) listed):=
 IM i0 rfl hr λa w hS=>by
  simp only[Bool.and_eq_true,Nat.blt_eq]at hs;obtain⟨a2',m',c2',b,o,qh,hm,hmc,_,_,ha,ji⟩:=rq w hS.wd;simp only[Value.slice.injEq]at qh;obtain⟨rfl,rfl,rfl⟩:=qh
  by_cases h0:m=0
  ·subst h0
   have hl:q=[]:=lk hm.symm;subst hl;obtain⟨i,zz,hi,_,_,_,_⟩:=h.get;have qP:n<=c:=by
    obtain⟨_,h2⟩:=hS.wd.get hk;rcases h2 with⟨_,h2,h3⟩|⟨_,_,_,_,h3,_⟩<;>omega
   have hr:(Builtin.append_ #[T,T] ty #[J ad n c,J a2 0 c2]).run P w=.ok (J ad n c) w:=by
    cases ad<;>cases a2<;>simp[Builtin.append_,run_underlying h.qx,sizeOf,typeInfo,hi,Builtin.lenOf,Builtin.firstCells,qP,storeCells,loadCells,loadCellsFrom]
   have:=kk ad c;simp only[qC,cD,ef]at this;rw[mJ hk]at this;have BG:=hH (M ad n c e s xs);rw[mJ hk]at BG;exact⟨J ad n c,w,by simp[execOp,resolve,invoke,builtin,hx.eq _ _ _ hS.fr,hy.eq _ _ _ hS.fr,hr],hS.wd.sub BG,this _ _ ⟨hS.fr.eo hd _,hS.wd⟩⟩
  ·have eQ:q≠[]:=by rintro rfl;simp at hm;exact h0 hm
   have ha:=ha eQ;subst ha;obtain⟨a',c',w',hr,ek⟩:=hS.wd.append (P:=P) (ty:=ty) (c2:=c2) (a2:=⟨b,o,A⟩) (m:=m) (news:=q.flatMap g) h hs.1 hk I (by rw[cj hlen,hm]) (λj u hj=>by
    obtain⟨i,q,j',h1,h2,rfl⟩:=nu hlen q j u hj;obtain⟨cs,hc,hV⟩:=ji i q h1;rw[hg _ _ _ hV]at hc;have:=hc j' u h2;rw[Addr.add_lit,<-dI];exact this) (λu hu=>by obtain⟨q,_,hq⟩:=df.1 hu;exact wO q u hq) kM II (q9 hs.2)
   exact⟨J a' (n+m) c',w',by simp[execOp,resolve,invoke,builtin,hx.eq _ _ _ hS.fr,hy.eq _ _ _ hS.fr,hr],ek.sub (hH _),kk a' c' _ _ ⟨hS.fr.eo hd _,ek⟩⟩
end
section
variable {P:Program} {N:Nat} {ds:List Deferred} {S:Nat->Prop} {w0:C} {L L':List (Nat×V)} {H H' Hr:List bN} {Q:Exit->Act->C->Prop} {x y:Operand} {akd:Act->C->Prop} {l:List Oper} {bH:Nat} {listed:Array Bool}
theorem cm(i:Nat)(hr:decide (Region.ready .any l.toArray listed=[i])=true)(h1:aki N ds S w0 L H (j5 P l akd (Wd S w0 Hr) bH listed i)):
  aki N ds S w0 L H (wpAnyH P .any l.toArray (dK akd) (Wd S w0 Hr) (bH+1) listed):=λa w hS=>
 wpAnyH_all (of_decide_eq_true hr) aC λi' yY=>by
  simp only[bD,h_,or_false]at yY;rcases yY with rfl
  exact h1 a w hS
theorem WC{id n:Nat}[hl:HU l n](Hr:List bN)(akd:Act->C->Prop)(hm:P.follows .mixedOrders=true)(_hH:Hr.Sublist H)
  (h:aki N ds S w0 L H (wpAnyH P .any l.toArray (dK akd) (Wd S w0 Hr) n (Array.replicate n false))) (k:∀a w,akd a w->Q .normal a w):aki N ds S w0 L H (Code.wpIn (FW A) 0 P (Code.region id l.toArray true) Q):=λa w hS=>by
 refine Code.wpIn_mono (Q:=dK akd) (λe a' w' hq=>?_) (tS (Q:=dK akd) Hr hm _hH h a w hS);cases e<;>first|exact k _ _ hq|exact False.elim hq
def aac{α:Type}(N:Nat)(ds:List Deferred)(S:Nat->Prop)(w0:C)(φ:α->Prop)(Lx:α->List (Nat×V))(Hx:α->List bN):Act->C->Prop:=λa w=>∃x,φ x/\St N ds S w0 (Lx x) (Hx x) a w
theorem dS{α:Type}{φ:α->Prop}{Lx:α->List (Nat×V)}{Hx:α->List bN}(x:α)(hx:φ x)(hL:yu L (Lx x))(hH:(Hx x).Sublist H):aki N ds S w0 L H (aac N ds S w0 φ Lx Hx):=
 λ_ _ hS=>⟨x,hx,hS.fix hL hH⟩
theorem dQ{α:Type}{id n:Nat}[hl:HU l n](Hr:List bN)(φ:α->Prop)(Lx:α->List (Nat×V))(Hx:α->List bN)(hm:P.follows .mixedOrders=true)(hH:Hr.Sublist H)
  (h:aki N ds S w0 L H (wpAnyH P .any l.toArray (dK (aac N ds S w0 φ Lx Hx)) (Wd S w0 Hr) n (Array.replicate n false))) (k:∀x,φ x->aki N ds S w0 (Lx x) (Hx x) (Q .normal)):aki N ds S w0 L H (Code.wpIn (FW A) 0 P (Code.region id l.toArray true) Q):=
 WC Hr _ hm hH h λa w ⟨x,hx,hS⟩=>k x hx a w hS
theorem NW{d ty T:Nat}{akj:V}{cs:List V}{pos:String}{aft:Array Go.Edge}(i0:Nat)[ho:dF l i0 ⟨Z d,.alloc T,ty,pos,aft,A⟩][h:gY P T akj][hv:iB akj cs](hd:dy d N L=true)(hH:Hr.Sublist H)
  (k:∀b,w0.heap.size<=b->aki N ds S w0 (aj d b::L) (K b cs T::H) (wpAnyH P .any l.toArray (dK akd) (Wd S w0 Hr) bH (listed.setIfInBounds i0 true))):aki N ds S w0 L H (j5 P l akd (Wd S w0 Hr) bH listed i0):=
 vL i0 rfl λa w hS=>by
  have hv:=hS.wd.box cs T;have e:cs.toArray=akj.cells:=by rw[<-‹iB akj cs›.eq]
  rw[e]at hv;exact⟨ar (Z ⟨w.heap.size,0,A⟩),w.alloc (.cells akj.cells T),by simp[execOp,Instr.alloc,newVar,newRow,h.run],hv.sub (hH.trans (dR _ _)),k _ hS.wd.size _ _ ⟨hS.fr.eo hd _,hv⟩⟩
theorem kf{α:Type}{val:α->V}{akg:α->List bN}{φ:α->Prop}{d ty f:Nat}(i:Nat){args:List Operand}{vs:List V}{pA:Array Nat}{pos:String}{aft:Array Go.Edge}[ho:dF l i ⟨Z d,.call {callee:=.value (.func f),args:=args.toArray,argTypes:=pA},ty,pos,aft,A⟩][h:aQ P f][hx:AY L args vs](hd:dy d N L=true)(hH:Hr.Sublist H)
  (hc:∀w,Wd S w0 H w->iC P f vs w λu w'=>∃x,u=val x/\Wd cX w (akg x) w'/\φ x)
  (k:∀x,φ x->aki N ds S w0 ((d,val x)::L) (akg x++H) (wpAnyH P .any l.toArray (dK akd) (Wd S w0 Hr) bH (listed.setIfInBounds i true))):aki N ds S w0 L H (j5 P l akd (Wd S w0 Hr) bH listed i):=
 Uh i (λ_ u w'=>∃x,u=val x/\Wd S w0 (akg x++H) w'/\φ x) hd (λw hw=>(hc w hw).mono λv w' ⟨x,h1,h2,h3⟩=>⟨x,h1,hw.more h2,h3⟩) λv w w' hw hR=>by
  obtain⟨x,rfl,h2,h3⟩:=hR;exact⟨h2.sub (hH.trans (sP _ _)),λa hF=>k x h3 a w' ⟨hF,h2⟩⟩
theorem Hg{α:Type}{s:Nat}{q:List α}{ake:C->α->List V->Prop}{mk:V->V}{d ty f:Nat}(i:Nat){args:List Operand}{vs:List V}{pA:Array Nat}{pos:String}{aft:Array Go.Edge}[ho:dF l i ⟨Z d,.call {callee:=.value (.func f),args:=args.toArray,argTypes:=pA},ty,pos,aft,A⟩][h:aQ P f][hx:AY L args vs](hd:dy d N L=true)(hH:Hr.Sublist H)
  (hc:∀w,Wd S w0 H w->aaf P f vs w s q ake mk)
  (k:∀a c fp,aki N ds S w0 ((d,mk (J a q.length c))::L) (⟨fp,λw=>aG w (J a q.length c) s q ake⟩::H) (wpAnyH P .any l.toArray (dK akd) (Wd S w0 Hr) bH (listed.setIfInBounds i true))):aki N ds S w0 L H (j5 P l akd (Wd S w0 Hr) bH listed i):=
 kf (val:=λx:Option Addr×Nat×(Nat->Prop)=>mk (J x.1 q.length x.2.1)) (akg:=λx=>[⟨x.2.2,λw=>aG w (J x.1 q.length x.2.1) s q ake⟩]) (φ:=λ_=>True) i hd hH hc λx _=>k x.1 x.2.1 x.2.2
theorem P8{α:Type}{d ty T e s jy:Nat}{zs:List V}{pos:String}{aft:Array Go.Edge}{ad a2:Option Addr}{n c m c2:Nat}(i0:Nat){k:Nat}{xs:List V}[ho:dF l i0 ⟨Z d,.call {callee:=.builtin .append,args:=#[x,y],argTypes:=#[T,T]},ty,pos,aft,A⟩][h:cI P T e s jy zs][hx:Ev L x (J ad n c)][hy:Ev L y (J a2 m c2)]
  [hv:u7 H ad n c k e s xs] (hd:dy d N L=true) (hs:(Nat.blt 0 s&&Nat.beq zs.length s)=true) (q:List α) {ake:C->α->List V->Prop} (g:α->List V) (hg:∀w x cs,ake w x cs->cs=g x) (hlen:∀x,(g x).length=s) (wO:∀x,∀u∈g x,u.oneCell'=true)
  (rq:∀w,Wd S w0 H w->aG w (J a2 m c2) s q ake) (kM:(n+m)*jy<=140737488355328) (II:n+m<=140737488355328) (hH:∀e',Hr.Sublist (H.set k e'))
  (kk:∀a' c',aki N ds S w0 ((d,J a' (n+m) c')::L) (H.set k (M a' (n+m) c' e s (xs++q.flatMap g))) (wpAnyH P .any l.toArray (dK akd) (Wd S w0 Hr) bH (listed.setIfInBounds i0 true))):aki N ds S w0 L H (j5 P l akd (Wd S w0 Hr) bH listed i0):=
 vL i0 rfl λa w hS=>by
  have hk:=hv.at';simp only[Bool.and_eq_true,Nat.blt_eq]at hs;obtain⟨a2',m',c2',b,o,qh,hm,hmc,_,_,ha,ji⟩:=rq w hS.wd;simp only[Value.slice.injEq]at qh;obtain⟨rfl,rfl,rfl⟩:=qh
  by_cases h0:m=0
  ·subst h0
   have hl:q=[]:=lk hm.symm;subst hl;obtain⟨i,zz,hi,_,_,_,_⟩:=h.get;have qP:n<=c:=by
    obtain⟨_,h2⟩:=hS.wd.get hk;rcases h2 with⟨_,h2,h3⟩|⟨_,_,_,_,h3,_⟩<;>omega
   have hr:(Builtin.append_ #[T,T] ty #[J ad n c,J a2 0 c2]).run P w=.ok (J ad n c) w:=by
    cases ad<;>cases a2<;>simp[Builtin.append_,run_underlying h.qx,sizeOf,typeInfo,hi,Builtin.lenOf,Builtin.firstCells,qP,storeCells,loadCells,loadCellsFrom]
   have:=kk ad c;simp only[qC,cD,ef]at this;rw[mJ hk]at this;have BG:=hH (M ad n c e s xs);rw[mJ hk]at BG;exact⟨J ad n c,w,by simp[execOp,resolve,invoke,builtin,hx.eq _ _ _ hS.fr,hy.eq _ _ _ hS.fr,hr],hS.wd.sub BG,this _ _ ⟨hS.fr.eo hd _,hS.wd⟩⟩
  ·have eQ:q≠[]:=by rintro rfl;simp at hm;exact h0 hm
   have ha:=ha eQ;subst ha;obtain⟨a',c',w',hr,ek⟩:=hS.wd.append (P:=P) (ty:=ty) (c2:=c2) (a2:=⟨b,o,A⟩) (m:=m) (news:=q.flatMap g) h hs.1 hk I (by rw[cj hlen,hm]) (λj u hj=>by
    obtain⟨i,q,j',h1,h2,rfl⟩:=nu hlen q j u hj;obtain⟨cs,hc,hV⟩:=ji i q h1;rw[hg _ _ _ hV]at hc;have:=hc j' u h2;rw[Addr.add_lit,<-dI];exact this) (λu hu=>by obtain⟨q,_,hq⟩:=df.1 hu;exact wO q u hq) kM II (q9 hs.2)
   exact⟨J a' (n+m) c',w',by simp[execOp,resolve,invoke,builtin,hx.eq _ _ _ hS.fr,hy.eq _ _ _ hS.fr,hr],ek.sub (hH _),kk a' c' _ _ ⟨hS.fr.eo hd _,ek⟩⟩
theorem fO{d ty:Nat}{pos:String}{aft:Array Go.Edge}{op:Op}{v:V}(i:Nat)[ho:dF l i ⟨Z d,op,ty,pos,aft,A⟩][h:dL P N ds S w0 L H op v](hd:dy d N L=true)(hH:Hr.Sublist H)
  (k:aki N ds S w0 ((d,v)::L) H (wpAnyH P .any l.toArray (dK akd) (Wd S w0 Hr) bH (listed.setIfInBounds i true))):aki N ds S w0 L H (j5 P l akd (Wd S w0 Hr) bH listed i):=
 vL i rfl λa w hS=>⟨v,w,h.run _ _ _ _ _ a w hS.fr hS.wd,hS.wd.sub hH,k _ _ ⟨hS.fr.eo hd v,hS.wd⟩⟩
theorem mG{ty T b off k o j n c e s:Nat}(i:Nat)[h:OneCell P T]{xs V4:List V}{v:V}{pos:String}{aft:Array Go.Edge}[ho:dF l i ⟨A,.store T x y,ty,pos,aft,A⟩]
  [hx:Ev L x (ar (Z ⟨b,off,A⟩))] [hy:Ev L y v] [h1:zT v] [hb:oI H b off k o j n c e s xs] [hu:mV xs j v V4] [hH:rT H k (M (Z ⟨b,o,A⟩) n c e s V4) H'] (O_:Hr.Sublist H')
  (kk:aki N ds S w0 L H' (wpAnyH P .any l.toArray (dK akd) (Wd S w0 Hr) bH (listed.setIfInBounds i true))):aki N ds S w0 L H (j5 P l akd (Wd S w0 Hr) bH listed i):=by
 intro a w hS;obtain⟨_,_,_,pre,sp,wP,_,IW⟩:=hS.wd.lu hb.at';have e1:=hb.eq;subst e1;have bS:=hu.lt;have hc:=hS.wd.cL hb.at' (a_ bS);have rp:=l0 (P:=P) (T:=T) h1.one hc (by simp[World.frozen?,IW]);have ek:=hS.wd.MC v hb.at' bS;rw[hu.eq,hH.BN]at ek;unfold j5 wpOp;rw[show l.toArray[i]?=Z ⟨A,.store T x y,ty,pos,aft,A⟩ by simpa using ho.at'];simp only;rw[if_pos (show Region.wanted (⟨A,.store T x y,ty,pos,aft,A⟩:Oper) (yielded l.toArray a.tmps)=true from rfl)]
 left
 unfold Oper.wp;rw[show(execOp a.eval ⟨A,.store T x y,ty,pos,aft,A⟩).run P w=.ok .skip (w.setCell ⟨b,o+j,A⟩ v) by simp[execOp,hx.eq _ _ _ hS.fr,hy.eq _ _ _ hS.fr,rp]];exact⟨ek.sub O_,kk _ _ ⟨hS.fr,ek⟩⟩
theorem Uj{o:Oper}(i:Nat)[ho:dF l i o](hg:o.guard=A)
  (k:∀a w,St N ds S w0 L H a w->∃w',(execOp a.eval o).run P w=.ok .skip w'/\Wd S w0 Hr w'/\wpAnyH P .any l.toArray (dK akd) (Wd S w0 Hr) bH (listed.setIfInBounds i true) (a.put o.dst undef) w'):aki N ds S w0 L H (j5 P l akd (Wd S w0 Hr) bH listed i):=by
 intro a w hS;obtain⟨w',h1,h2,h3⟩:=k a w hS;unfold j5 wpOp;rw[show l.toArray[i]?=Z o by simpa using ho.at'];simp only;rw[if_pos (show Region.wanted o (yielded l.toArray a.tmps)=true by simp[Region.wanted,hg])]
 left
 unfold Oper.wp;rw[h1];exact⟨h2,h3⟩
theorem X_{ty T b o j t:Nat}(i:Nat)[h:OneCell P T]{cs tP:List V}{v:V}{pos:String}{aft:Array Go.Edge}[ho:dF l i ⟨A,.store T x y,ty,pos,aft,A⟩]
  [hx:Ev L x (ar (Z ⟨b,o,A⟩))] [hy:Ev L y v] [h1:zT v] [hb:nr H b j cs t] {u:V} [hu:dF cs o u] [hs:rT cs o v tP] [hH:rT H j (K b tP t) H'] (O_:Hr.Sublist H')
  (kk:aki N ds S w0 L H' (wpAnyH P .any l.toArray (dK akd) (Wd S w0 Hr) bH (listed.setIfInBounds i true))):aki N ds S w0 L H (j5 P l akd (Wd S w0 Hr) bH listed i):=by
 refine Uj i rfl λa w hS=>?_;have IW:=hS.wd.Cs j hb.at';have:=l0 (P:=P) (T:=T) h1.one (hS.wd.mP j hb.at' hu.at') (by simp[World.frozen?,IW]);have ek:=hS.wd.MB j (o:=o) v hb.at';rw[hs.BN,hH.BN]at ek;exact⟨w.setCell ⟨b,o,A⟩ v,by simp[execOp,hx.eq _ _ _ hS.fr,hy.eq _ _ _ hS.fr,this],ek.sub O_,kk _ _ ⟨hS.fr,ek⟩⟩
end
end
end Go.Proofs.YthfhgolkafpmnaaGreatDoor
