/- Texts joined: Own Clone DfsB LoopP RingP Sort BacksP Know Two HeldC TwoB. -/
import Derived.Sort.Grow
import Derived.Sort.Row
import Derived.Test.YthfhgolkafpmnaaGreatDoorGA
import Derived.Test.YthfhgolkafpmnaaGreatDoorGC
import Derived.Test.YthfhgolkafpmnaaGreatDoorGD
import Derived.Test.YthfhgolkafpmnaaGreatDoorGF
import Derived.Test.YthfhgolkafpmnaaGreatDoorGG
import Derived.Test.YthfhgolkafpmnaaGreatDoorGH
namespace Go.Proofs.YthfhgolkafpmnaaGreatDoor
section
open Go Go.RowKit
def bN.join(H:List bN):bN:=⟨cF H,λw=>(∀e∈H,∀w2:World,w.heap.size<=w2.heap.size->(∀b,e.fp b->w2.heap[b]?=w.heap[b]?)->e.ok w2)/\H.Pairwise λe f=>∀b,e.fp b->¬f.fp b⟩
section
variable {P:Program} {N:Nat} {ds:List Deferred} {S:Nat->Prop} {w0 w:World} {L:List (Nat×Value)} {H H1 H2:List bN} {p:Act->World->Prop}
theorem Wd.join(h:Wd S w0 (H1++H2) w):Wd S w0 (bN.join H1::H2) w:=by
 have wR:=nO.1 h.apart;refine⟨h.cE,λe he b hb=>?_,λe he w' hs dO=>?_,fN.2 ⟨λf hf b ⟨e,he,hb⟩=>wR.2.2 e he f hf b hb,wR.2.1⟩⟩
 ·rcases bJ.1 he with rfl|he
  ·obtain⟨f,hf,hb⟩:=hb
   exact h.own f (cC _ hf) b hb
  ·exact h.own e (dt _ he) b hb
 ·rcases bJ.1 he with rfl|he
  ·exact⟨λf hf w2 NF jl=>h.ok f (cC _ hf) w2 (dB hs NF) λb hb=>(jl b hb).trans (dO b ⟨f,hf,hb⟩),wR.1⟩
  ·exact h.ok e (dt _ he) w' hs dO
theorem Wd.oA(h:Wd S w0 (bN.join H1::H2) w):Wd S w0 (H1++H2) w:=by
 have wR:=fN.1 h.apart;have hj:=h.get (k:=0) rfl;refine⟨h.cE,λe he b hb=>?_,λe he w' hs dO=>?_,nO.2 ⟨hj.2,wR.2,λe he f hf b hb=>wR.1 f hf b ⟨e,he,hb⟩⟩⟩
 ·rcases bL.1 he with he|he
  ·exact h.own (bN.join H1) aH b ⟨e,he,hb⟩
  ·exact h.own e (cJ _ he) b hb
 ·rcases bL.1 he with he|he
  ·exact hj.1 e he w' hs dO
  ·exact h.ok e (cJ _ he) w' hs dO
theorem D_(k:G N ds S w0 L (bN.join H1::H2) p):G N ds S w0 L (H1++H2) p:=λa w hS=>k a w ⟨hS.fr,hS.wd.join⟩
theorem AF(k:G N ds S w0 L (H1++H2) p):G N ds S w0 L (bN.join H1::H2) p:=λa w hS=>k a w ⟨hS.fr,hS.wd.oA⟩
end
def df(v:cm):List Value:=[.bool v.bD,.int .i64 v.n]
structure cG where
 dst:Int
 a:Option Addr
 c:Nat
 l:List cm
structure iX where
 x:en
 a:Option Addr
 c:Nat
structure aR where
 pa:Option Addr
 pc:Nat
 ps:List cG
 la:Option Addr
 lc:Nat
 xs:List iX
 kind:Int
 on:cm
 ta:Option Addr
 tc:Nat
 to:List Int
def cG.jW(p:cG):eC:=⟨p.dst,p.l⟩
def aR.eo(b:aR):ar:=⟨b.ps.map cG.jW,b.xs.map (·.x),b.kind,b.on,b.to⟩
def ci(p:cG):List Value:=[.int .i64 p.dst,.slice p.a p.l.length p.c]
def eE(i:iX):List Value:=[.int .i64 i.x.op,.int .i64 i.x.dst,.bool i.x.a.bD,.int .i64 i.x.a.n,.bool i.x.b.bD,.int .i64 i.x.b.n,.int .i64 i.x.fn,.slice i.a i.x.args.length i.c]
def bg(b:aR):List Value:=[.slice b.pa b.ps.length b.pc,.slice b.la b.xs.length b.lc,.int .i64 b.kind,.bool b.on.bD,.int .i64 b.on.n,.slice b.ta b.to.length b.tc]
def e7(p:cG):bN:=ai p.a p.l.length p.c 41 2 (p.l.flatMap df)
def jo(i:iX):bN:=ai i.a i.x.args.length i.c 41 2 (i.x.args.flatMap df)
def jb(b:aR):List bN:=ai b.pa b.ps.length b.pc 49 2 (b.ps.flatMap ci)::ai b.la b.xs.length b.lc 56 8 (b.xs.flatMap eE)::ai b.ta b.to.length b.tc 3 1 (b.to.map (.int .i64))::(b.ps.map e7++b.xs.map jo)
def b_(b:aR):bN:=bN.join (jb b)
def Sk(_:World)(p:cG)(cs:List Value):Prop:=cs=ci p
def NU(_:World)(i:iX)(cs:List Value):Prop:=cs=eE i
def Sg(_:World)(b:aR)(cs:List Value):Prop:=cs=bg b
def Sp(_:World)(v:cm)(cs:List Value):Prop:=cs=df v
theorem rG{α β:Type}{w:World}{a:Option Addr}{n c s:Nat}{l:List α}{V:World->α->List Value->Prop}{U:World->β->List Value->Prop}{q:α->β->Prop}(h:aM w (.slice a n c) s l V)(hp:∀x∈l,∀cs,V w x cs->∃y,U w y cs/\q x y):
  ∃m:List β,m.length=l.length/\aM w (.slice a n c) s m U/\∀(i:Nat) x,l[i]?=some x->∃y,m[i]?=some y/\q x y:=by
 obtain⟨hn,pE,hb,b,o,ha,iK⟩:=h.at;obtain⟨_,_,_,_,_,e,_,_,_,W4,_⟩:=id h;simp only[Value.slice.injEq]at e;obtain⟨ys,Cw,Zs⟩:=Dj (p:=λi x y=>∃cs,bG w b (o+i*s) cs/\U w y cs/\q x y) l λi x hx=>by
  obtain⟨cs,hc,hv⟩:=iK i x hx;obtain⟨y,h1,h2⟩:=hp x (aA hx) cs hv;exact⟨y,cs,hc,h1,h2⟩
 refine⟨ys,Cw,⟨a,n,c,b,o,rfl,ag,pE,hb,ag,λeH=>ha λe=>eH (kN (by rw[Cw,e];rfl)),λi y hy=>?_⟩,λi x hx=>?_⟩
 ·have iQ:i<l.length:=by rw[<-Cw];exact(aC.1 hy).1
  obtain⟨y',Zq,cs,hc,hu,_⟩:=Zs i l[i] (aB iQ);rw[hy]at Zq;obtain rfl:=be Zq;exact⟨cs,hc,hu⟩
 ·obtain⟨y,hy,cs,_,_,hq⟩:=Zs i x hx
  exact⟨y,hy,hq⟩
theorem tA{α β:Type}{f:β->α}{l:List α}{m:List β}(hl:m.length=l.length)(h:∀(i:Nat) x,l[i]?=some x->∃y,m[i]?=some y/\f y=x):m.map f=l:=by
 apply cf;intro i
 by_cases hi:i<l.length
 ·obtain⟨y,hy,e⟩:=h i l[i] (aB hi)
  rw[aK,hy,aB hi,<-e];rfl
 ·rw[bM (by simp;omega),bM ag]
theorem QX{w:World}{v:Value}{l:List eC}(h:aM w v 2 l DN):∃(a:Option Addr) (c:Nat) (ps:List cG),v=.slice a ps.length c/\ps.map cG.jW=l/\aM w v 2 ps Sk/\∀p∈ps,c9 p.dst/\aM w (.slice p.a p.l.length p.c) 2 p.l l9:=by
 obtain⟨a,n,c,b,o,rfl,hn,_⟩:=id h;obtain⟨m,rf,pG,hq⟩:=rG (U:=Sk) (q:=λx y=>cG.jW y=x/\c9 y.dst/\aM w (.slice y.a y.l.length y.c) 2 y.l l9) h λx _ cs ⟨v,e,hd,hs⟩=>by
  have Mh:=hs;obtain⟨a',n',c',_,_,rfl,NB,_⟩:=Mh;subst NB;exact⟨⟨x.dst,a',c',x.src⟩,e,rfl,hd,hs⟩
 have xW:=tA (f:=cG.jW) rf λi x hx=>by
  obtain⟨y,hy,e,_⟩:=hq i x hx;exact⟨y,hy,e⟩
 refine⟨a,c,m,by rw[rf,hn],xW,pG,λp hp=>?_⟩;obtain⟨i,hi⟩:=br hp;obtain⟨y,hy,_,h2⟩:=hq i (l[i]'(by rw[<-rf];exact(aC.1 hi).1)) (aB _);rw[hi]at hy;obtain rfl:=be hy;exact h2
theorem P1{w:World}{v:Value}{l:List en}(h:aM w v 8 l DK):∃(a:Option Addr) (c:Nat) (xs:List iX),v=.slice a xs.length c/\xs.map (·.x)=l/\aM w v 8 xs NU/\∀i∈xs,(c9 i.x.op/\c9 i.x.dst/\c9 i.x.a.n/\c9 i.x.b.n/\c9 i.x.fn)/\aM w (.slice i.a i.x.args.length i.c) 2 i.x.args l9:=by
 obtain⟨a,n,c,b,o,rfl,hn,_⟩:=id h;obtain⟨m,rf,pG,hq⟩:=rG (U:=NU) (q:=λx y=>y.x=x/\(c9 y.x.op/\c9 y.x.dst/\c9 y.x.a.n/\c9 y.x.b.n/\c9 y.x.fn)/\aM w (.slice y.a y.x.args.length y.c) 2 y.x.args l9) h λx _ cs ⟨v,e,h1,h2,h3,h4,h5,hs⟩=>by
  have Mh:=hs;obtain⟨a',n',c',_,_,rfl,NB,_⟩:=Mh;subst NB;exact⟨⟨x,a',c'⟩,e,rfl,⟨h1,h2,h3,h4,h5⟩,hs⟩
 have xW:=tA (f:=λi:iX=>i.x) rf λi x hx=>by
  obtain⟨y,hy,e,_⟩:=hq i x hx;exact⟨y,hy,e⟩
 refine⟨a,c,m,by rw[rf,hn],xW,pG,λp hp=>?_⟩;obtain⟨i,hi⟩:=br hp;obtain⟨y,hy,_,h2⟩:=hq i (l[i]'(by rw[<-rf];exact(aC.1 hi).1)) (aB _);rw[hi]at hy;obtain rfl:=be hy;exact h2
structure uU(w:World)(b:aR):Prop where
 kind:c9 b.kind
 on:c9 b.on.n
 aL:aM w (.slice b.pa b.ps.length b.pc) 2 b.ps Sk
 jW:∀p∈b.ps,c9 p.dst/\aM w (.slice p.a p.l.length p.c) 2 p.l l9
 list:aM w (.slice b.la b.xs.length b.lc) 8 b.xs NU
 ins:∀i∈b.xs,(c9 i.x.op/\c9 i.x.dst/\c9 i.x.a.n/\c9 i.x.b.n/\c9 i.x.fn)/\aM w (.slice i.a i.x.args.length i.c) 2 i.x.args l9
 to:aM w (.slice b.ta b.to.length b.tc) 1 b.to fj
theorem N0{w:World}{v:Value}{l:List ar}(h:aM w v 6 l ed):∃(a:Option Addr) (c:Nat) (bs:List aR),v=.slice a bs.length c/\bs.map aR.eo=l/\aM w v 6 bs Sg/\∀b∈bs,uU w b:=by
 obtain⟨a,n,c,b,o,rfl,hn,_⟩:=id h;obtain⟨m,rf,pG,hq⟩:=rG (U:=Sg) (q:=λx y=>aR.eo y=x/\uU w y) h λx _ cs ⟨p,l,t,e,h1,h2,hp,hl,ht⟩=>by
  obtain⟨pa,pc,ps,rfl,hp1,Me,hp3⟩:=QX hp;obtain⟨la,lc,xs,rfl,kq,Kd,hl3⟩:=P1 hl;have Kt:=ht;obtain⟨ta,tn,tc,_,_,rfl,sN,_⟩:=Kt;subst sN;exact⟨⟨pa,pc,ps,la,lc,xs,x.kind,x.on,ta,tc,x.to⟩,e,by simp[aR.eo,hp1,kq],⟨h1,h2,Me,hp3,Kd,hl3,ht⟩⟩
 have xW:=tA (f:=aR.eo) rf λi x hx=>by
  obtain⟨y,hy,e,_⟩:=hq i x hx;exact⟨y,hy,e⟩
 refine⟨a,c,m,by rw[rf,hn],xW,pG,λp hp=>?_⟩;obtain⟨i,hi⟩:=br hp;obtain⟨y,hy,_,h2⟩:=hq i (l[i]'(by rw[<-rf];exact(aC.1 hi).1)) (aB _);rw[hi]at hy;obtain rfl:=be hy;exact h2
theorem sD{α β:Type}{w:World}{v:Value}{s:Nat}{m:List β}{U:World->β->List Value->Prop}{V:World->α->List Value->Prop}(f:β->α)(h:aM w v s m U)(hv:∀y∈m,∀cs,U w y cs->V w (f y) cs):aM w v s (m.map f) V:=by
 obtain⟨a,n,c,b,o,rfl,hn,pE,hb,F1,ha,iK⟩:=h;refine⟨a,n,c,b,o,rfl,by simpa using hn,pE,hb,F1,λeH=>ha λe=>eH (by rw[e];rfl),λi x hx=>?_⟩;rw[aK]at hx;obtain⟨y,hy,rfl⟩:=cT.1 hx;obtain⟨cs,hc,hu⟩:=iK i y hy;exact⟨cs,hc,hv y (aA hy) cs hu⟩
theorem oO{α:Type}{S:Nat->Prop}{w0 w:World}{H:List bN}(h:Wd S w0 H w){k:Nat}{a:Option Addr}{c e s:Nat}{l:List α}{g:α->List Value}(hk:H[k]?=some (ai a l.length c e s (l.flatMap g)))(hg:∀x,(g x).length=s)(hb:l.length<=100000):aM w (.slice a l.length c) s l λ_ x cs=>cs=g x:=by
 refine h.nC hk rfl ag λi x hx=>⟨g x,λj v hj=>fy hg l i x j v hx hj,rfl⟩
theorem ft(p:cG):(ci p).length=2:=rfl
theorem jj(i:iX):(eE i).length=8:=rfl
theorem dC(b:aR):(bg b).length=6:=rfl
theorem eB(v:cm):(df v).length=2:=rfl
theorem RI{w:World}{v:Value}{l:List cm}(h:aM w v 2 l Sp)(hb:∀x∈l,c9 x.n):aM w v 2 l l9:=by
 have:=sD (V:=l9) id h λy hy cs hc=>⟨hc,hb y hy⟩;rwa[nM]at this
theorem EU{w:World}{v:Value}{l:List cm}(h:aM w v 2 l l9):aM w v 2 l Sp:=by
 have:=sD (V:=Sp) id h λy _ cs hc=>hc.1;rwa[nM]at this
theorem RH{w:World}{v:Value}{l:List cm}(h:aM w v 2 l l9):∀x∈l,c9 x.n:=λx hx=>by
 obtain⟨_,_,_,_,_,_,_,_,_,_,_,iK⟩:=h;obtain⟨i,hi⟩:=br hx;obtain⟨_,_,_,h2⟩:=iK i x hi;exact h2
theorem P2{w:World}{v:Value}{l:List Int}(h:aM w v 1 l fj):∀x∈l,c9 x:=λx hx=>by
 obtain⟨_,_,_,_,_,_,_,_,_,_,_,iK⟩:=h;obtain⟨i,hi⟩:=br hx;obtain⟨_,_,_,h2⟩:=iK i x hi;exact h2
structure aR.Bd(b:aR):Prop where
 kind:c9 b.kind
 on:c9 b.on.n
 aL:b.ps.length<=1000
 jW:∀p∈b.ps,c9 p.dst/\p.l.length<=1000/\∀v∈p.l,c9 v.n
 list:b.xs.length<=1000
 ins:∀i∈b.xs,(c9 i.x.op/\c9 i.x.dst/\c9 i.x.a.n/\c9 i.x.b.n/\c9 i.x.fn)/\i.x.args.length<=1000/\∀v∈i.x.args,c9 v.n
 to:b.to.length<=1000/\∀t∈b.to,c9 t
theorem uU.bd{w:World}{b:aR}(h:uU w b)(h1:b.ps.length<=1000)(h2:∀p∈b.ps,p.l.length<=1000)(h3:b.xs.length<=1000)(h4:∀i∈b.xs,i.x.args.length<=1000)(h5:b.to.length<=1000):b.Bd:=
 ⟨h.kind,h.on,h1,λp hp=>⟨(h.jW p hp).1,h2 p hp,RH (h.jW p hp).2⟩,h3,λi hi=>⟨(h.ins i hi).1,h4 i hi,RH (h.ins i hi).2⟩,h5,P2 h.to⟩
theorem Wd.a8{S:Nat->Prop}{w0 w:World}{H:List bN}{b:aR}(h:Wd S w0 (jb b++H) w)(hb:b.Bd):uU w b:=by
 have hp:∀p∈b.ps,e7 p∈jb b++H:=λp hp=>cC _ (by unfold jb;simp only[bJ,bL,aX];exact .inr (.inr (.inr (.inl ⟨p,hp,rfl⟩))));have hi:∀i∈b.xs,jo i∈jb b++H:=λi hi=>cC _ (by unfold jb;simp only[bJ,bL,aX];exact .inr (.inr (.inr (.inr ⟨i,hi,rfl⟩))));refine⟨hb.kind,hb.on,oO h (k:=0) rfl ft (by have:=hb.aL;omega),λp xB=>?_,oO h (k:=1) rfl jj (by have:=hb.list;omega),λi R3=>?_,?_⟩
 ·obtain⟨h1,h2,h3⟩:=hb.jW p xB
  obtain⟨k,hk⟩:=br (hp p xB);exact⟨h1,RI (oO h hk eB ag) h3⟩
 ·obtain⟨h1,h2,h3⟩:=hb.ins i R3
  obtain⟨k,hk⟩:=br (hi i R3);exact⟨h1,RI (oO h hk eB ag) h3⟩
 ·refine h.nC (k:=2) rfl rfl (by have:=hb.to.1;omega) λi x hx=>⟨[.int .i64 x],λj v hj=>?_,rfl,hb.to.2 x (aA hx)⟩
  match j,hj with
  |0,hj=>simpa[hx]using hj
theorem N3{w:World}{v:Value}{bs:List aR}(h:aM w v 6 bs Sg)(hb:∀b∈bs,uU w b):aM w v 6 (bs.map aR.eo) ed:=
 sD aR.eo h λb hm cs hc=>by
  have hB:=hb b hm;refine⟨_,_,_,hc,hB.kind,hB.on,sD cG.jW hB.aL λp hp cs hc=>⟨_,hc,hB.jW p hp⟩,sD (λi:iX=>i.x) hB.list λi hi cs hc=>?_,hB.to⟩;obtain⟨⟨h1,h2,h3,h4,h5⟩,h6⟩:=hB.ins i hi;exact⟨_,hc,h1,h2,h3,h4,h5,h6⟩
theorem Wd.blocks{S:Nat->Prop}{w0 w:World}{H:List bN}{ba:Option Addr}{bc:Nat}{bs:List aR}(h:Wd S w0 (ai ba bs.length bc 46 6 (bs.flatMap bg)::(bs.map b_++H)) w)(hn:bs.length<=1000)(hb:∀b∈bs,b.Bd):aM w (.slice ba bs.length bc) 6 (bs.map aR.eo) ed:=by
 refine N3 (oO h (k:=0) rfl dC ag) λb hm=>?_;have Mc:b_ b∈ai ba bs.length bc 46 6 (bs.flatMap bg)::(bs.map b_++H):=by
  simp only[bJ,bL,aX];exact .inr (.inl ⟨b,hm,rfl⟩)
 obtain⟨k,hk⟩:=br Mc;have h1:=(h.perm (jz hk)).oA;exact h1.a8 (hb b hm)
end
section
open Go Go.RowKit
attribute [local irreducible] wpListIn Code.wpIn Exit.then Exit.inBlock bodyPost wpQuiet wpAnyIn wpAnyH
set_option maxHeartbeats 4000000
theorem vv(a:Option Addr)(c:Nat)(l:List cm)(hb:l.length<=100000)(w0:World)(h:aM w0 (.slice a l.length c) 2 l Sp):
  gV Tryz.prog 96 [.slice a l.length c] w0 λu w'=>∃x:Option Addr×Nat,u=.slice x.1 l.length x.2/\Wd dh w0 [ai x.1 l.length x.2 41 2 (l.flatMap df)] w'/\True:=by
 refine aQ Tryz.func96 rfl Tryz.ntmps96 rfl (Wd.nil dh w0) ?_;refine aU ?_;cases a with
 |none=>
  have zw:l=[]:=by
   obtain⟨_,_,_,b,o,ha,_⟩:=h.at;exact Classical.byContradiction λhn=>by cases ha hn
  subst zw;refine aI ?_;refine fq 41 2 ?_;exact cA rfl λw hw=>⟨(none,0),rfl,hw,trivial⟩
 |some ad=>
  refine aO ?_;refine mr rfl λeb _=>?_;refine aU ?_;refine kR rfl rfl l df (λ_ _ _ h=>h) (λ_=>rfl) (λy u hu=>by simp only[df,bJ,iI,or_false]at hu;rcases hu with rfl|rfl<;>rfl) (λw hw=>h.cu (λ_ _ _ _ _ h=>h) hw.cE) ag ag λa' c'=>?_;rw[aT,dM];refine aO ?_;exact cA rfl λw hw=>⟨(a',c'),rfl,hw,trivial⟩
theorem H6(a:Option Addr)(c:Nat)(l:List cG)(hb:l.length<=100000)(w0:World)(h:aM w0 (.slice a l.length c) 2 l Sk):
  gV Tryz.prog 95 [.slice a l.length c] w0 λu w'=>∃x:Option Addr×Nat,u=.slice x.1 l.length x.2/\Wd dh w0 [ai x.1 l.length x.2 49 2 (l.flatMap ci)] w'/\True:=by
 refine aQ Tryz.func95 rfl Tryz.ntmps95 rfl (Wd.nil dh w0) ?_;refine aU ?_;cases a with
 |none=>
  have zw:l=[]:=by
   obtain⟨_,_,_,b,o,ha,_⟩:=h.at;exact Classical.byContradiction λhn=>by cases ha hn
  subst zw;refine aI ?_;refine fq 49 2 ?_;exact cA rfl λw hw=>⟨(none,0),rfl,hw,trivial⟩
 |some ad=>
  refine aO ?_;refine mr rfl λeb _=>?_;refine aU ?_;refine kR rfl rfl l ci (λ_ _ _ h=>h) (λ_=>rfl) (λy u hu=>by simp only[ci,bJ,iI,or_false]at hu;rcases hu with rfl|rfl<;>rfl) (λw hw=>h.cu (λ_ _ _ _ _ h=>h) hw.cE) ag ag λa' c'=>?_;rw[aT,dM];refine aO ?_;exact cA rfl λw hw=>⟨(a',c'),rfl,hw,trivial⟩
theorem H5(a:Option Addr)(c:Nat)(l:List iX)(hb:l.length<=100000)(w0:World)(h:aM w0 (.slice a l.length c) 8 l NU):
  gV Tryz.prog 97 [.slice a l.length c] w0 λu w'=>∃x:Option Addr×Nat,u=.slice x.1 l.length x.2/\Wd dh w0 [ai x.1 l.length x.2 56 8 (l.flatMap eE)] w'/\True:=by
 refine aQ Tryz.func97 rfl Tryz.ntmps97 rfl (Wd.nil dh w0) ?_;refine aU ?_;cases a with
 |none=>
  have zw:l=[]:=by
   obtain⟨_,_,_,b,o,ha,_⟩:=h.at;exact Classical.byContradiction λhn=>by cases ha hn
  subst zw;refine aI ?_;refine fq 56 8 ?_;exact cA rfl λw hw=>⟨(none,0),rfl,hw,trivial⟩
 |some ad=>
  refine aO ?_;refine mr rfl λeb _=>?_;refine aU ?_;refine kR rfl rfl l eE (λ_ _ _ h=>h) (λ_=>rfl) (λy u hu=>by simp only[eE,bJ,iI,or_false]at hu;rcases hu with rfl|rfl|rfl|rfl|rfl|rfl|rfl|rfl<;>rfl) (λw hw=>h.cu (λ_ _ _ _ _ h=>h) hw.cE) ag ag λa' c'=>?_;rw[aT,dM];refine aO ?_;exact cA rfl λw hw=>⟨(a',c'),rfl,hw,trivial⟩
theorem DZ(a:Option Addr)(c:Nat)(l:List aR)(hb:l.length<=100000)(w0:World)(h:aM w0 (.slice a l.length c) 6 l Sg):
  gV Tryz.prog 94 [.slice a l.length c] w0 λu w'=>∃x:Option Addr×Nat,u=.slice x.1 l.length x.2/\Wd dh w0 [ai x.1 l.length x.2 46 6 (l.flatMap bg)] w'/\True:=by
 refine aQ Tryz.func94 rfl Tryz.ntmps94 rfl (Wd.nil dh w0) ?_;refine aU ?_;cases a with
 |none=>
  have zw:l=[]:=by
   obtain⟨_,_,_,b,o,ha,_⟩:=h.at;exact Classical.byContradiction λhn=>by cases ha hn
  subst zw;refine aI ?_;refine fq 46 6 ?_;exact cA rfl λw hw=>⟨(none,0),rfl,hw,trivial⟩
 |some ad=>
  refine aO ?_;refine mr rfl λeb _=>?_;refine aU ?_;refine kR rfl rfl l bg (λ_ _ _ h=>h) (λ_=>rfl) (λy u hu=>by simp only[bg,bJ,iI,or_false]at hu;rcases hu with rfl|rfl|rfl|rfl|rfl|rfl<;>rfl) (λw hw=>h.cu (λ_ _ _ _ _ h=>h) hw.cE) ag ag λa' c'=>?_;rw[aT,dM];refine aO ?_;exact cA rfl λw hw=>⟨(a',c'),rfl,hw,trivial⟩
theorem Am(a:Option Addr)(c:Nat)(l:List Int)(hb:l.length<=100000)(w0:World)(h:aM w0 (.slice a l.length c) 1 l fj):
  gV Tryz.prog 59 [.slice a l.length c] w0 λu w'=>∃x:Option Addr×Nat,u=.slice x.1 l.length x.2/\Wd dh w0 [ai x.1 l.length x.2 3 1 (l.map (.int .i64))] w'/\True:=by
 refine aQ Tryz.func59 rfl Tryz.ntmps59 rfl (Wd.nil dh w0) ?_;refine aU ?_;cases a with
 |none=>
  have zw:l=[]:=by
   obtain⟨_,_,_,b,o,ha,_⟩:=h.at;exact Classical.byContradiction λhn=>by cases ha hn
  subst zw;refine aI ?_;refine fq 3 1 ?_;exact cA rfl λw hw=>⟨(none,0),rfl,hw,trivial⟩
 |some ad=>
  refine aO ?_;refine mr rfl λeb _=>?_;refine aU ?_;refine kR rfl rfl l (λx=>[.int .i64 x]) (λ_ _ _ h=>h.1) (λ_=>rfl) (λy u hu=>by simp only[bU]at hu;subst hu;rfl) (λw hw=>h.cu (eK) hw.cE) ag ag λa' c'=>?_;rw[tg,aT,dM];refine aO ?_;exact cA rfl λw hw=>⟨(a',c'),rfl,hw,trivial⟩
end
section
open Go Go.RowKit
def lj(l:List Int):List Int:=l.mergeSort λx y=>decide (x<=y)
theorem sorted_perm(l:List Int):(lj l).Perm l:=List.mergeSort_perm l _
theorem BP(l:List Int):(lj l).length=l.length:=(sorted_perm l).length_eq
theorem JD{l:List Int}{x:Int}:x∈lj l↔x∈l:=(sorted_perm l).mem_iff
theorem Nd(l:List Int):(lj l).Pairwise (·<=·):=by
 have:=List.pairwise_mergeSort (le:=λx y:Int=>decide (x<=y)) (λa b c h1 h2=>by simp at h1 h2⊢;omega) (λa b=>by simp;omega) l;exact this.imp λh=>by simpa using h
theorem KR:∀{l m:List Int},l.Pairwise (·<·)->m.Pairwise (·<·)->(∀x,x∈l↔x∈m)->l=m
 |[],[],_,_,_=>rfl
 |[],y::m,_,_,h=>by have:=(h y).2 aH;cases this
 |x::l,[],_,_,h=>by have:=(h x).1 aH;cases this
 |x::l,y::m,hl,hm,h=>by
  obtain⟨hx,Vv⟩:=fN.1 hl;obtain⟨hy,Mb⟩:=fN.1 hm;have e:x=y:=by
   rcases bJ.1 ((h x).1 aH)with e|h1
   ·exact e
   ·rcases bJ.1 ((h y).2 aH)with e|h2
    ·exact e.symm
    ·have:=hx y h2;have:=hy x h1;omega
  subst e;congr 1;refine KR Vv Mb λz=>⟨λhz=>?_,λhz=>?_⟩
  ·rcases bJ.1 ((h z).1 (cJ _ hz))with e|h1
   ·have:=hx z hz;omega
   ·exact h1
  ·rcases bJ.1 ((h z).2 (cJ _ hz))with e|h1
   ·have:=hy z hz;omega
   ·exact h1
theorem Hk{l:List Int}(hn:l.Nodup):(lj l).Pairwise (·<·):=by
 have h1:=Nd l;have h2:(lj l).Nodup:=(sorted_perm l).nodup_iff.2 hn;exact(h1.and h2).imp λ⟨h,k⟩=>by omega
theorem te(n:Nat)(p:Nat->Bool):(((List.range n).filter p).map λx:Nat=>(x:Int)).Pairwise (·<·):=by
 rw[List.pairwise_map];exact((List.pairwise_lt_range).filter p).imp λh=>by omega
theorem CC{l:List Int}{n:Nat}{p:Nat->Bool}(hn:l.Nodup)(h:∀x,x∈l↔∃c:Nat,x=c/\c<n/\p c=true):lj l=((List.range n).filter p).map λx:Nat=>(x:Int):=by
 refine KR (Hk hn) (te n p) λx=>?_;rw[JD,h,aX];exact⟨λ⟨c,e,h1,h2⟩=>⟨c,cI.2 ⟨cQ.2 h1,h2⟩,e.symm⟩,λ⟨c,h1,e⟩=>⟨c,e.symm,cQ.1 (cI.1 h1).1,(cI.1 h1).2⟩⟩
theorem EN(pre xs sp:List Value)(l:List Int)(h:xs.length=l.length):Go.Sort.putCells (Value.int .i64) pre.length l.toArray (pre++xs++sp).toArray=(pre++l.map (Value.int .i64)++sp).toArray:=by
 apply Array.ext';apply cf;intro j;unfold Go.Sort.putCells
 by_cases hj:j<(pre++xs++sp).length
 ·rw[Array.getElem?_toList,Array.getElem?_mapIdx]
  rw[List.getElem?_toArray,aB hj];simp only[bz]
  by_cases h1:j<pre.length
  ·rw[if_neg (by simp;omega)]
   simp[List.getElem?_append,h1]
  ·by_cases h2:j<pre.length+l.length
   ·rw[if_pos (by simp;omega)]
    rw[dE,dg ag,dG (by simp;omega)];have h3:j-pre.length<l.length:=ag;simp[h3]
   ·rw[if_neg (by simp;omega)]
    rw[dg (by simp;omega)];simp only[bR,aG]at hj⊢;rw[List.getElem_append_right (by simp;omega)];simp only[bR,h];rw[aB ag]
 ·rw[Array.getElem?_toList,vp (by simp only[Array.size_mapIdx];simpa using hj),bM (by simp at hj⊢;omega)]
theorem Wd.lj{S:Nat->Prop}{w0 w:World}{H:List bN}(hW:Wd S w0 H w){k b o n c e m:Nat}{os:Array Obj}{l l':List Int}(hk:H[k]?=some (ai (some ⟨b,o,none⟩) n c e 1 (l.map (.int .i64))))(hl:l'.length=l.length):
  Wd S w0 (H.set k (ai (some ⟨b,o,none⟩) n c e 1 (l'.map (.int .i64)))) (Go.Sort.grow (Go.Sort.putRow (Value.int .i64) (Go.Sort.ahead w m) b o l'.toArray) os):=by
 obtain⟨h1,h2,h3,pre,sp,rfl,h5,hb⟩:=hW.km hk;rw[aG]at h1;have bT:b<w.heap.size:=(fI.1 hb).1;have oj:(Go.Sort.putRow (Value.int .i64) (Go.Sort.ahead w m) b pre.length l'.toArray).heap.size=w.heap.size:=by simp[Go.Sort.putRow,Go.Sort.mapBlock,Go.Sort.ahead]
 have AR:(Go.Sort.putRow (Value.int .i64) (Go.Sort.ahead w m) b pre.length l'.toArray).heap[b]?=some (.cells (pre++l'.map (Value.int .i64)++sp).toArray e (0,0)):=by
  simp only[Go.Sort.putRow,Go.Sort.mapBlock,Go.Sort.ahead,Array.getElem?_modify,if_true,hb,bz,Go.Sort.onCells];rw[EN pre _ sp l' (by simp[hl])]
 have XO:∀j,j≠b->(Go.Sort.putRow (Value.int .i64) (Go.Sort.ahead w m) b pre.length l'.toArray).heap[j]?=w.heap[j]?:=λj hj=>by
  simp[Go.Sort.putRow,Go.Sort.mapBlock,Go.Sort.ahead,Array.getElem?_modify,Ne.symm hj]
 have hT:Wd S w0 (H.set k (ai (some ⟨b,pre.length,none⟩) n c e 1 (l'.map (.int .i64)))) (Go.Sort.putRow (Value.int .i64) (Go.Sort.ahead w m) b pre.length l'.toArray):=by
  refine hW.kf hk ⟨rfl,rfl,rfl,by rw[oj];exact bH _,λj _ hj=>XO j λe'=>hj (by simp[ai,e'])⟩ (λb' mL=>?_) λw2 jl=>?_
  ·simp only[ai,bz,bW]at mL⊢
   subst mL;exact⟨.inl rfl,by rw[oj];exact bT⟩
  ·have:=jl b (by simp[ai])
   refine⟨by simpa[hl]using h1,.inr ⟨b,pre,sp,rfl,h2,h3,h5,?_⟩⟩;rw[this,AR]
 refine hT.call ⟨rfl,rfl,rfl,by simp[Go.Sort.grow],λj hj _=>?_⟩;simp only[Go.Sort.grow];rw[Array.getElem?_append_left hj]
def V9(P:Program)(f:FuncId)(args:List Value)(w0:World){α:Type}(s:Nat)(l:List α)(V:World->α->List Value->Prop)(mk:Value->Value):Prop:=
 gV P f args w0 λu w'=>∃x:Option Addr×Nat×(Nat->Prop),u=mk (.slice x.1 l.length x.2.1)/\Wd dh w0 [⟨x.2.2,λw=>aM w (.slice x.1 l.length x.2.1) s l V⟩] w'/\True
section
variable {P:Program} {ro:Option Nat} {N:Nat} {ds:List Deferred} {S:Nat->Prop} {w0 w:World} {L:List (Nat×Value)} {H E:List bN} {ops:Array Oper} {rest:List Oper} {Q:Exit->Act->World->Prop}
theorem Un{α β:Type}{s:Nat}{l:List α}{V:World->α->List Value->Prop}{mk:Value->Value}{f:FuncId}{args:List Value}{val:β->Value}{E:β->List bN}{φ:β->Prop}(h:gV P f args w0 λu w'=>∃x,u=val x/\Wd dh w0 (E x) w'/\φ x)
  (hv:∀x,φ x->∃a c,val x=mk (.slice a l.length c)/\∀w2,Wd (cF (E x)) w2 (E x) w2->aM w2 (.slice a l.length c) s l V):V9 P f args w0 s l V mk:=
 h.mono λu w' ⟨x,h1,h2,h3⟩=>by
  obtain⟨a,c,e,hs⟩:=hv x h3;have h4:Wd dh w0 (E x++[]) w':=by rw[cq];exact h2
  exact⟨(a,c,_),h1.trans e,h4.pack _ hs,trivial⟩
end
attribute [local irreducible] wpListIn Code.wpIn Exit.then Exit.inBlock bodyPost wpQuiet wpAnyIn
set_option maxHeartbeats 4000000
theorem PT{α:Type}(w:World)(s:Nat)(V:World->α->List Value->Prop):aM w (.slice none 0 0) s [] V:=⟨none,0,0,0,0,rfl,rfl,bH _,ag,ag,by simp,by simp⟩
section
variable {P:Program} {N:Nat} {ds:List Deferred} {S:Nat->Prop} {w0:World} {L:List (Nat×Value)} {H Hr:List bN} {x y:Operand} {M:Act->World->Prop} {l:List Oper} {bE:Nat} {listed:Array Bool}
def gX(P:Program)(l:List Oper)(M:Act->World->Prop)(K:World->Prop)(bE:Nat)(listed:Array Bool)(i:Nat)(a:Act)(w:World):Prop:=
 wpOp P l.toArray (dy M) i (λa' w'=>K w'/\wpAnyH P .any l.toArray (dy M) K bE (listed.setIfInBounds i true) a' w') a w
theorem kG(i j:Nat)(hr:decide (Region.ready .any l.toArray listed=[i,j])=true)(h1:G N ds S w0 L H (gX P l M (Wd S w0 Hr) bE listed i))(h2:G N ds S w0 L H (gX P l M (Wd S w0 Hr) bE listed j)):
  G N ds S w0 L H (wpAnyH P .any l.toArray (dy M) (Wd S w0 Hr) (bE+1) listed):=λa w hS=>
 wpAnyH_all (of_decide_eq_true hr) aH λi' yZ=>by
  simp only[bJ,iI,or_false]at yZ;rcases yZ with rfl|rfl
  ·exact h1 a w hS
  ·exact h2 a w hS
theorem QK{d ty f:Nat}(i:Nat){args:List Operand}{vs:List Value}{og:Array Nat}{pos:String}{aft:Array Go.Edge}(R:World->Value->World->Prop)[ho:dm l i ⟨some d,.call {callee:=.value (.func f),args:=args.toArray,argTypes:=og},ty,pos,aft,none⟩][h:aS P f][hx:zk L args vs](hd:dj d N L=true)
  (hc:∀w,Wd S w0 H w->gV P f vs w (R w))
  (k:∀v w w',Wd S w0 H w->R w v w'->Wd S w0 Hr w'/\∀a,Fr N ds ((d,v)::L) a->wpAnyH P .any l.toArray (dy M) (Wd S w0 Hr) bE (listed.setIfInBounds i true) a w'):G N ds S w0 L H (gX P l M (Wd S w0 Hr) bE listed i):=by
 intro a w hS;unfold gX wpOp;rw[show l.toArray[i]?=some ⟨some d,.call {callee:=.value (.func f),args:=args.toArray,argTypes:=og},ty,pos,aft,none⟩ by simpa using ho.at'];simp only;rw[if_pos (show Region.wanted (⟨some d,.call {callee:=.value (.func f),args:=args.toArray,argTypes:=og},ty,pos,aft,none⟩:Oper) (yielded l.toArray a.tmps)=true from rfl)]
 left
 unfold Oper.wp;have pF:(execOp a.eval ⟨some d,.call {callee:=.value (.func f),args:=args.toArray,argTypes:=og},ty,pos,aft,none⟩).run P w=.ok (.enter f vs.toArray) w:=by
  simp[execOp,resolve,Act.eval,Deferred.ofValue,invoke,hx.eq _ _ _ hS.fr,h.run]
 rw[pF];refine Calls.mono (callsIn_wide.1 (hc w hS.wd)) λe w' ⟨v,he,hR⟩=>?_;subst he;obtain⟨h1,h2⟩:=k v w w' hS.wd hR;exact⟨h1,h2 _ (hS.fr.dP hd v)⟩
theorem vT{o:Oper}(i:Nat)[ho:dm l i o](hg:o.guard=none)
  (k:∀a w,St N ds S w0 L H a w->∃v w',(execOp a.eval o).run P w=.ok (.value v) w'/\Wd S w0 Hr w'/\wpAnyH P .any l.toArray (dy M) (Wd S w0 Hr) bE (listed.setIfInBounds i true) (a.put o.dst v) w'):G N ds S w0 L H (gX P l M (Wd S w0 Hr) bE listed i):=by
 intro a w hS;obtain⟨v,w',h1,h2,h3⟩:=k a w hS;unfold gX wpOp;rw[show l.toArray[i]?=some o by simpa using ho.at'];simp only;rw[if_pos (show Region.wanted o (yielded l.toArray a.tmps)=true by simp[Region.wanted,hg])]
 left
 unfold Oper.wp;rw[h1];exact⟨h2,h3⟩
theorem nR{α:Type}{val:α->Value}{E:α->List bN}{φ:α->Prop}{H1 H2:List bN}{d ty f:Nat}(i:Nat){args:List Operand}{vs:List Value}{og:Array Nat}{pos:String}{aft:Array Go.Edge}[ho:dm l i ⟨some d,.call {callee:=.value (.func f),args:=args.toArray,argTypes:=og},ty,pos,aft,none⟩][h:aS P f][hx:zk L args vs](hd:dj d N L=true)(hH:Hr.Sublist H2)
  (hc:∀w,Wd S w0 (H1++H2) w->gV P f vs w λu w'=>∃x,u=val x/\Wd (cF H1) w (E x) w'/\φ x)
  (k:∀x,φ x->G N ds S w0 ((d,val x)::L) (E x++H2) (wpAnyH P .any l.toArray (dy M) (Wd S w0 Hr) bE (listed.setIfInBounds i true))):G N ds S w0 L (H1++H2) (gX P l M (Wd S w0 Hr) bE listed i):=
 QK i (λ_ u w'=>∃x,u=val x/\Wd S w0 (E x++H2) w'/\φ x) hd (λw hw=>(hc w hw).mono λv w' ⟨x,h1,h2,h3⟩=>⟨x,h1,hw.comp h2,h3⟩) λv w w' hw hR=>by
  obtain⟨x,rfl,h2,h3⟩:=hR;exact⟨h2.sub (hH.trans (qV _ _)),λa hF=>k x h3 a w' ⟨hF,h2⟩⟩
theorem Ai{d ty T e jZ:Nat}{zs cs:List Value}{s:Nat}{v:Value}{pos:String}{aft:Array Go.Edge}[h:cB P T e s jZ zs][hx:Ev L x v][hv:iG v cs][hl:kx cs s](hs:((Nat.blt 0 s&&Nat.ble s 1000)&&Nat.beq zs.length s)=true)(a:Act)(w:World)(hS:St N ds S w0 L H a w):
  ∃w',(execOp a.eval ⟨some d,.buildSlice T 1 #[(0,x)],ty,pos,aft,none⟩).run P w=.ok (.value (.slice (some ⟨w.heap.size,0,none⟩) 1 1)) w'/\Wd S w0 (ai (some ⟨w.heap.size,0,none⟩) 1 1 e s cs::H) w':=by
 obtain⟨i,zz,hi,PU,fZ,h1,h2⟩:=h.get;simp only[Bool.and_eq_true,Nat.blt_eq,Nat.ble_eq]at hs;have hle:=hl.eq;refine⟨w.alloc (.cells cs.toArray e),?_,hS.wd.we e s 1 _ ag (by simp[maxLen])⟩;have hr:=run_buildSlice (P:=P) w T e 1 #[(0,v)] cs.toArray i zz h.oI hi PU (by rw[h1];omega) (by rw[h1];omega) (by
  rw[h1,<-hle];have:=FI v cs ((Array.range (1*cs.length)).map (zz.cells[·%zz.cells.size]!)).toList hv.eq aH;rw[Array.toArray_toList]at this;exact this)
 simp[execOp,hx.eq _ _ _ hS.fr,hr]
theorem ji{d ty T e jZ:Nat}{zs cs:List Value}{s:Nat}{v:Value}{pos:String}{aft:Array Go.Edge}(i:Nat)[ho:dm l i ⟨some d,.buildSlice T 1 #[(0,x)],ty,pos,aft,none⟩][h:cB P T e s jZ zs][hx:Ev L x v][hv:iG v cs][hl:kx cs s](hd:dj d N L=true)(hs:((Nat.blt 0 s&&Nat.ble s 1000)&&Nat.beq zs.length s)=true)(hH:Hr.Sublist H)
  (k:∀b,w0.heap.size<=b->G N ds S w0 ((d,.slice (some ⟨b,0,none⟩) 1 1)::L) (ai (some ⟨b,0,none⟩) 1 1 e s cs::H) (wpAnyH P .any l.toArray (dy M) (Wd S w0 Hr) bE (listed.setIfInBounds i true))):G N ds S w0 L H (gX P l M (Wd S w0 Hr) bE listed i):=
 vT i rfl λa w hS=>by
  obtain⟨w',h1,h2⟩:=Ai (P:=P) (d:=d) (ty:=ty) (pos:=pos) (aft:=aft) (h:=h) (hx:=hx) (hv:=hv) (hl:=hl) hs a w hS;exact⟨_,w',h1,h2.sub (hH.trans (dZ _ _)),k _ hS.wd.size _ _ ⟨hS.fr.dP hd _,h2⟩⟩
theorem F4{d ty T e jZ:Nat}{zs cs:List Value}{s:Nat}{v:Value}{pos:String}{aft:Array Go.Edge}(i:Nat)[ho:dm l i ⟨some d,.buildSlice T 1 #[(0,x)],ty,pos,aft,none⟩][h:cB P T e s jZ zs][hx:Ev L x v][hv:iG v cs][hl:kx cs s](hd:dj d N L=true)(hs:((Nat.blt 0 s&&Nat.ble s 1000)&&Nat.beq zs.length s)=true)
  (hr:decide (Region.ready .any l.toArray listed=[i])=true) (hH:Hr.Sublist H)
  (k:∀b,w0.heap.size<=b->G N ds S w0 ((d,.slice (some ⟨b,0,none⟩) 1 1)::L) (ai (some ⟨b,0,none⟩) 1 1 e s cs::H) (wpAnyH P .any l.toArray (dy M) (Wd S w0 Hr) bE (listed.setIfInBounds i true))):G N ds S w0 L H (wpAnyH P .any l.toArray (dy M) (Wd S w0 Hr) (bE+1) listed):=
 F5 i rfl hr λa w hS=>by
  obtain⟨w',h1,h2⟩:=Ai (P:=P) (d:=d) (ty:=ty) (pos:=pos) (aft:=aft) (h:=h) (hx:=hx) (hv:=hv) (hl:=hl) hs a w hS;exact⟨_,w',h1,h2.sub (hH.trans (dZ _ _)),k _ hS.wd.size _ _ ⟨hS.fr.dP hd _,h2⟩⟩
theorem j1{d ty T e s jZ:Nat}{zs:List Value}{pos:String}{aft:Array Go.Edge}{ad:Option Addr}{n c:Nat}(i0 k:Nat){xs:List Value}{b2 o2 m c2 k2 e2:Nat}{news:List Value}[ho:dm l i0 ⟨some d,.call {callee:=.builtin .append,args:=#[x,y],argTypes:=#[T,T]},ty,pos,aft,none⟩][h:cB P T e s jZ zs][hx:Ev L x (.slice ad n c)][hy:Ev L y (.slice (some ⟨b2,o2,none⟩) m c2)]
  (hk:H[k]?=some (ai ad n c e s xs)) [Cd:sX H (some ⟨b2,o2,none⟩) m c2 k2 e2 s news] [h1:sU news] (hd:dj d N L=true) (hs:((Nat.blt 0 s&&Nat.blt 0 m)&&Nat.beq zs.length s)=true) (jR:(n+m)*jZ<=140737488355328) (F1:n+m<=140737488355328)
  (hr:decide (Region.ready .any l.toArray listed=[i0])=true) (hH:∀e',Hr.Sublist (H.set k e'))
  (kk:∀a' c',G N ds S w0 ((d,.slice a' (n+m) c')::L) (H.set k (ai a' (n+m) c' e s (xs++news))) (wpAnyH P .any l.toArray (dy M) (Wd S w0 Hr) bE (listed.setIfInBounds i0 true))):G N ds S w0 L H (wpAnyH P .any l.toArray (dy M) (Wd S w0 Hr) (bE+1) listed):=
 F5 i0 rfl hr λa w hS=>by
  simp only[Bool.and_eq_true,Nat.blt_eq]at hs;obtain⟨hl,_⟩:=hS.wd.km Cd.at';obtain⟨a',c',w',hr,dO⟩:=hS.wd.append (P:=P) (ty:=ty) (c2:=c2) h hs.1.1 hk hs.1.2 hl (λj u hj=>by rw[Addr.add_lit];exact hS.wd.cK Cd.at' hj) h1.all jR F1 (px hs.2);exact⟨.slice a' (n+m) c',w',by simp[execOp,resolve,invoke,builtin,hx.eq _ _ _ hS.fr,hy.eq _ _ _ hS.fr,hr],dO.sub (hH _),kk a' c' _ _ ⟨hS.fr.dP hd _,dO⟩⟩
end
section
variable {P:Program} {N:Nat} {ds:List Deferred} {S:Nat->Prop} {w0:World} {L L':List (Nat×Value)} {H H' Hr:List bN} {Q:Exit->Act->World->Prop} {x y:Operand} {M:Act->World->Prop} {l:List Oper} {bE:Nat} {listed:Array Bool}
theorem LQ{α:Type}{d ty T e s jZ:Nat}{zs:List Value}{pos:String}{aft:Array Go.Edge}{ad a2:Option Addr}{n c m c2:Nat}(i0 k:Nat){xs:List Value}[ho:dm l i0 ⟨some d,.call {callee:=.builtin .append,args:=#[x,y],argTypes:=#[T,T]},ty,pos,aft,none⟩][h:cB P T e s jZ zs][hx:Ev L x (.slice ad n c)][hy:Ev L y (.slice a2 m c2)]
  (hk:H[k]?=some (ai ad n c e s xs)) (hd:dj d N L=true) (hs:(Nat.blt 0 s&&Nat.beq zs.length s)=true) (q:List α) {V:World->α->List Value->Prop} (g:α->List Value) (hg:∀w x cs,V w x cs->cs=g x) (hlen:∀x,(g x).length=s) (AV:∀x,∀u∈g x,u.oneCell'=true)
  (pG:∀w,Wd S w0 H w->aM w (.slice a2 m c2) s q V) (jR:(n+m)*jZ<=140737488355328) (F1:n+m<=140737488355328)
  (hr:decide (Region.ready .any l.toArray listed=[i0])=true) (hH:∀e',Hr.Sublist (H.set k e'))
  (kk:∀a' c',G N ds S w0 ((d,.slice a' (n+m) c')::L) (H.set k (ai a' (n+m) c' e s (xs++q.flatMap g))) (wpAnyH P .any l.toArray (dy M) (Wd S w0 Hr) bE (listed.setIfInBounds i0 true))):G N ds S w0 L H (wpAnyH P .any l.toArray (dy M) (Wd S w0 Hr) (bE+1) listed):=
 F5 i0 rfl hr λa w hS=>by
  simp only[Bool.and_eq_true,Nat.blt_eq]at hs;obtain⟨a2',m',c2',b,o,oy,hm,Zm,_,_,ha,iK⟩:=pG w hS.wd;simp only[Value.slice.injEq]at oy;obtain⟨rfl,rfl,rfl⟩:=oy
  by_cases h0:m=0
  ·subst h0
   have hl:q=[]:=kN hm.symm;subst hl;obtain⟨i,zz,hi,_,_,_,_⟩:=h.get;have pE:n<=c:=by
    obtain⟨_,h2⟩:=hS.wd.get hk;rcases h2 with⟨_,h2,h3⟩|⟨_,_,_,_,h3,_⟩<;>omega
   have hr:(Builtin.append_ #[T,T] ty #[.slice ad n c,.slice a2 0 c2]).run P w=.ok (.slice ad n c) w:=by
    cases ad<;>cases a2<;>simp[Builtin.append_,run_underlying h.oI,sizeOf,typeInfo,hi,Builtin.lenOf,Builtin.firstCells,pE,storeCells,loadCells,loadCellsFrom]
   have:=kk ad c;simp only[oM,cq,dL]at this;rw[lD hk]at this;have zy:=hH (ai ad n c e s xs);rw[lD hk]at zy;exact⟨.slice ad n c,w,by simp[execOp,resolve,invoke,builtin,hx.eq _ _ _ hS.fr,hy.eq _ _ _ hS.fr,hr],hS.wd.sub zy,this _ _ ⟨hS.fr.dP hd _,hS.wd⟩⟩
  ·have eH:q≠[]:=by rintro rfl;simp at hm;exact h0 hm
   have ha:=ha eH;subst ha;obtain⟨a',c',w',hr,dO⟩:=hS.wd.append (P:=P) (ty:=ty) (c2:=c2) (a2:=⟨b,o,none⟩) (m:=m) (news:=q.flatMap g) h hs.1 hk ag (by rw[ct hlen,hm]) (λj u hj=>by
    obtain⟨i,q,j',h1,h2,rfl⟩:=oU hlen q j u hj;obtain⟨cs,hc,hV⟩:=iK i q h1;rw[hg _ _ _ hV]at hc;have:=hc j' u h2;rw[Addr.add_lit,<-dA];exact this) (λu hu=>by obtain⟨q,_,hq⟩:=du.1 hu;exact AV q u hq) jR F1 (px hs.2)
   exact⟨.slice a' (n+m) c',w',by simp[execOp,resolve,invoke,builtin,hx.eq _ _ _ hS.fr,hy.eq _ _ _ hS.fr,hr],dO.sub (hH _),kk a' c' _ _ ⟨hS.fr.dP hd _,dO⟩⟩
end
section
variable {P:Program} {N:Nat} {ds:List Deferred} {S:Nat->Prop} {w0:World} {L L':List (Nat×Value)} {H H' Hr:List bN} {Q:Exit->Act->World->Prop} {x y:Operand} {M:Act->World->Prop} {l:List Oper} {bE:Nat} {listed:Array Bool}
theorem ck(i:Nat)(hr:decide (Region.ready .any l.toArray listed=[i])=true)(h1:G N ds S w0 L H (gX P l M (Wd S w0 Hr) bE listed i)):
  G N ds S w0 L H (wpAnyH P .any l.toArray (dy M) (Wd S w0 Hr) (bE+1) listed):=λa w hS=>
 wpAnyH_all (of_decide_eq_true hr) aH λi' yZ=>by
  simp only[bJ,iI,or_false]at yZ;rcases yZ with rfl
  exact h1 a w hS
theorem SP{id n:Nat}[hl:Ff l n](Hr:List bN)(M:Act->World->Prop)(hm:P.follows .mixedOrders=true)(_hH:Hr.Sublist H)
  (h:G N ds S w0 L H (wpAnyH P .any l.toArray (dy M) (Wd S w0 Hr) n (Array.replicate n false))) (k:∀a w,M a w->Q .normal a w):G N ds S w0 L H (Code.wpIn (FW none) 0 P (Code.region id l.toArray true) Q):=λa w hS=>by
 refine Code.wpIn_mono (Q:=dy M) (λe a' w' hq=>?_) (rY (Q:=dy M) Hr hm _hH h a w hS);cases e<;>first|exact k _ _ hq|exact False.elim hq
def V6{α:Type}(N:Nat)(ds:List Deferred)(S:Nat->Prop)(w0:World)(φ:α->Prop)(Lx:α->List (Nat×Value))(Hx:α->List bN):Act->World->Prop:=λa w=>∃x,φ x/\St N ds S w0 (Lx x) (Hx x) a w
theorem dN{α:Type}{φ:α->Prop}{Lx:α->List (Nat×Value)}{Hx:α->List bN}(x:α)(hx:φ x)(hL:wy L (Lx x))(hH:(Hx x).Sublist H):G N ds S w0 L H (V6 N ds S w0 φ Lx Hx):=
 λ_ _ hS=>⟨x,hx,hS.fix hL hH⟩
theorem dR{α:Type}{id n:Nat}[hl:Ff l n](Hr:List bN)(φ:α->Prop)(Lx:α->List (Nat×Value))(Hx:α->List bN)(hm:P.follows .mixedOrders=true)(hH:Hr.Sublist H)
  (h:G N ds S w0 L H (wpAnyH P .any l.toArray (dy (V6 N ds S w0 φ Lx Hx)) (Wd S w0 Hr) n (Array.replicate n false))) (k:∀x,φ x->G N ds S w0 (Lx x) (Hx x) (Q .normal)):G N ds S w0 L H (Code.wpIn (FW none) 0 P (Code.region id l.toArray true) Q):=
 SP Hr _ hm hH h λa w ⟨x,hx,hS⟩=>k x hx a w hS
theorem lJ{α:Type}{val:α->Value}{E:α->List bN}{φ:α->Prop}{d ty f:Nat}(i:Nat){args:List Operand}{vs:List Value}{og:Array Nat}{pos:String}{aft:Array Go.Edge}[ho:dm l i ⟨some d,.call {callee:=.value (.func f),args:=args.toArray,argTypes:=og},ty,pos,aft,none⟩][h:aS P f][hx:zk L args vs](hd:dj d N L=true)(hH:Hr.Sublist H)
  (hc:∀w,Wd S w0 H w->gV P f vs w λu w'=>∃x,u=val x/\Wd dh w (E x) w'/\φ x)
  (k:∀x,φ x->G N ds S w0 ((d,val x)::L) (E x++H) (wpAnyH P .any l.toArray (dy M) (Wd S w0 Hr) bE (listed.setIfInBounds i true))):G N ds S w0 L H (gX P l M (Wd S w0 Hr) bE listed i):=
 QK i (λ_ u w'=>∃x,u=val x/\Wd S w0 (E x++H) w'/\φ x) hd (λw hw=>(hc w hw).mono λv w' ⟨x,h1,h2,h3⟩=>⟨x,h1,hw.more h2,h3⟩) λv w w' hw hR=>by
  obtain⟨x,rfl,h2,h3⟩:=hR;exact⟨h2.sub (hH.trans (qV _ _)),λa hF=>k x h3 a w' ⟨hF,h2⟩⟩
theorem EH{α:Type}{s:Nat}{q:List α}{V:World->α->List Value->Prop}{mk:Value->Value}{d ty f:Nat}(i:Nat){args:List Operand}{vs:List Value}{og:Array Nat}{pos:String}{aft:Array Go.Edge}[ho:dm l i ⟨some d,.call {callee:=.value (.func f),args:=args.toArray,argTypes:=og},ty,pos,aft,none⟩][h:aS P f][hx:zk L args vs](hd:dj d N L=true)(hH:Hr.Sublist H)
  (hc:∀w,Wd S w0 H w->V9 P f vs w s q V mk)
  (k:∀a c fp,G N ds S w0 ((d,mk (.slice a q.length c))::L) (⟨fp,λw=>aM w (.slice a q.length c) s q V⟩::H) (wpAnyH P .any l.toArray (dy M) (Wd S w0 Hr) bE (listed.setIfInBounds i true))):G N ds S w0 L H (gX P l M (Wd S w0 Hr) bE listed i):=
 lJ (val:=λx:Option Addr×Nat×(Nat->Prop)=>mk (.slice x.1 q.length x.2.1)) (E:=λx=>[⟨x.2.2,λw=>aM w (.slice x.1 q.length x.2.1) s q V⟩]) (φ:=λ_=>True) i hd hH hc λx _=>k x.1 x.2.1 x.2.2
theorem eY{d ty:Nat}{pos:String}{aft:Array Go.Edge}{op:Op}{v:Value}(i:Nat)[ho:dm l i ⟨some d,op,ty,pos,aft,none⟩][h:dz P N ds S w0 L H op v](hd:dj d N L=true)(hH:Hr.Sublist H)
  (k:G N ds S w0 ((d,v)::L) H (wpAnyH P .any l.toArray (dy M) (Wd S w0 Hr) bE (listed.setIfInBounds i true))):G N ds S w0 L H (gX P l M (Wd S w0 Hr) bE listed i):=
 vT i rfl λa w hS=>⟨v,w,h.run _ _ _ _ _ a w hS.fr hS.wd,hS.wd.sub hH,k _ _ ⟨hS.fr.dP hd v,hS.wd⟩⟩
theorem lB{ty T b off k o j n c e s:Nat}(i:Nat)[h:OneCell P T]{xs Se:List Value}{v:Value}{pos:String}{aft:Array Go.Edge}[ho:dm l i ⟨none,.store T x y,ty,pos,aft,none⟩]
  [hx:Ev L x (.pointer (some ⟨b,off,none⟩))] [hy:Ev L y v] [h1:xF v] [hb:mT H b off k o j n c e s xs] [hu:lN xs j v Se] [hH:qi H k (ai (some ⟨b,o,none⟩) n c e s Se) H'] (LP:Hr.Sublist H')
  (kk:G N ds S w0 L H' (wpAnyH P .any l.toArray (dy M) (Wd S w0 Hr) bE (listed.setIfInBounds i true))):G N ds S w0 L H (gX P l M (Wd S w0 Hr) bE listed i):=by
 intro a w hS;obtain⟨_,_,_,pre,sp,Em,_,IB⟩:=hS.wd.km hb.at';have e1:=hb.eq;subst e1;have bT:=hu.lt;have hc:=hS.wd.cK hb.at' (aB bT);have pF:=kW (P:=P) (T:=T) h1.one hc (by simp[World.frozen?,IB]);have dO:=hS.wd.JA v hb.at' bT;rw[hu.eq,hH.zG]at dO;unfold gX wpOp;rw[show l.toArray[i]?=some ⟨none,.store T x y,ty,pos,aft,none⟩ by simpa using ho.at'];simp only;rw[if_pos (show Region.wanted (⟨none,.store T x y,ty,pos,aft,none⟩:Oper) (yielded l.toArray a.tmps)=true from rfl)]
 left
 unfold Oper.wp;rw[show(execOp a.eval ⟨none,.store T x y,ty,pos,aft,none⟩).run P w=.ok .skip (w.setCell ⟨b,o+j,none⟩ v) by simp[execOp,hx.eq _ _ _ hS.fr,hy.eq _ _ _ hS.fr,pF]];exact⟨dO.sub LP,kk _ _ ⟨hS.fr,dO⟩⟩
theorem QM{o:Oper}(i:Nat)[ho:dm l i o](hg:o.guard=none)
  (k:∀a w,St N ds S w0 L H a w->∃w',(execOp a.eval o).run P w=.ok .skip w'/\Wd S w0 Hr w'/\wpAnyH P .any l.toArray (dy M) (Wd S w0 Hr) bE (listed.setIfInBounds i true) (a.put o.dst undef) w'):G N ds S w0 L H (gX P l M (Wd S w0 Hr) bE listed i):=by
 intro a w hS;obtain⟨w',h1,h2,h3⟩:=k a w hS;unfold gX wpOp;rw[show l.toArray[i]?=some o by simpa using ho.at'];simp only;rw[if_pos (show Region.wanted o (yielded l.toArray a.tmps)=true by simp[Region.wanted,hg])]
 left
 unfold Oper.wp;rw[h1];exact⟨h2,h3⟩
end
end
end Go.Proofs.YthfhgolkafpmnaaGreatDoor
