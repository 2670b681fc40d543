/- Texts joined: Open Door DoorB LiveD HeldB LiveF LiveE LiveG LiveH LiveI LiveJ LiveK. -/
import Derived.Deep.DeepHandedRow
import Derived.Deep.Slices
import Derived.Lib.LaidTab
import Derived.OpenShut
import Derived.ProofKit
import Derived.Test.YthfhgolkafpmnaaGreatDoorCards
import Derived.Test.YthfhgolkafpmnaaGreatDoorTie
import Derived.Test.YthfhgolkafpmnaaGreatDoorGA
import Derived.Test.YthfhgolkafpmnaaGreatDoorGB
import Derived.Test.YthfhgolkafpmnaaGreatDoorGC
import Derived.Test.YthfhgolkafpmnaaGreatDoorGD
import Derived.Test.YthfhgolkafpmnaaGreatDoorGF
namespace Go.Proofs.YthfhgolkafpmnaaGreatDoor
section
open Go Go.RowKit Go.ChangeShapes Go.WideShapes
set_option maxRecDepth 100000
section
variable {H:Type} {enc:TypeId×Value->H} {P:Program} {w:World} {base:Nat} {spare:Nat->Bool} {held:Bool}
theorem Mm{x:Int}(h:(Lit.int .i64 x).wf=true):c9 x:=by
 simpa[c9,Lit.wf,IntKind.min,IntKind.max,IntKind.signed,IntKind.bits]using h
theorem Fw{α:Type}{n:Nat}{p:Nat->α->Prop}(h:∀i,i<n->∃x,p i x):∃l:List α,l.length=n/\∀i x,l[i]?=some x->p i x:=by
 induction n with
 |zero=>exact⟨[],rfl,by simp⟩
 |succ n ih=>
  obtain⟨l,hl,hp⟩:=ih (λi hi=>h i ag);obtain⟨x,hx⟩:=h n ag;refine⟨l++[x],by simp[hl],λi y hy=>?_⟩
  by_cases hi:i<l.length
  ·rw[dG hi]at hy;exact hp i y hy
  ·rw[dg ag]at hy
   have:i-l.length=0:=by
    cases hk:i-l.length with
    |zero=>rfl
    |succ k=>rw[hk]at hy;simp at hy
   rw[this]at hy;simp at hy;subst hy;have:i=n:=ag;subst this;exact hx
theorem pK{e:TypeId}{d:DataW H}{k:Nat}:∀{l:List (DataW H)},d∈l->k∈d.weights P e->k∈DataW.weightsAll P e l
 |[],h,_=>by cases h
 |x::l,h,hk=>by
  simp only[DataW.weightsAll,bL];rcases bJ.1 h with rfl|h
  ·exact .inl hk
  ·exact .inr (pK h hk)
theorem lI{d:DataW H}{k:Nat}:∀{ts:List TypeId} {l:List (DataW H)} {i:Nat} {t:TypeId},ts[i]?=some t->l[i]?=some d->k∈d.weights P t->k∈DataW.weightsEach P ts l
 |[],_,i,t,h,_,_=>by simp at h
 |_::_,[],i,t,_,h,_=>by simp at h
 |t0::ts,x::l,0,t,h,hd,hk=>by
  simp only[jJ,bW]at h hd;subst h hd;simp only[DataW.weightsEach,bL];exact .inl hk
 |t0::ts,x::l,i+1,t,h,hd,hk=>by
  simp only[nK]at h hd;simp only[DataW.weightsEach,bL];exact .inr (lI h hd hk)
def Small(P:Program)(t:TypeId)(d:DataW H):Prop:=∀k∈d.weights P t,k<=reachBytes
theorem sq{α:Type}{V:World->α->List Value->Prop}{t e s:Nat}(ht:P.underlying t=some (.slice e))(hs:P.cellsOf e=s)(dS:0<s)(Zc:0<P.bytesOf e)
  (hV:∀bE cs x,cs.length=s->DataW.trod enc P w base spare held bE e cs=some x->Small P e x.1->∃u,V w u cs)
  {bE:Nat} {v:Value} {x:DataW H×List MemPlace} (h:DataW.trod enc P w base spare held bE t [v]=some x) (hz:Small P t x.1):∃l,aM w v s l V:=by
 rcases Deep.open_slice ht h with⟨fZ,_⟩|⟨a,len,cap,m,n,D,Pl,fZ,_,hl,hm,hmm,rfl,hi⟩
 ·simp only[List.cons.injEq,and_true]at fZ
  subst fZ;exact⟨[],none,0,0,0,0,rfl,rfl,bH _,ag,ag,by simp,by simp⟩
 ·simp only[List.cons.injEq,and_true]at fZ
  subst fZ;have Zk:len<=m:=by rw[hmm];split<;>omega
  have oj:len<=140737488355328:=by
   have h1:(len+(m-len))*P.bytesOf e<=reachBytes:=by
    have:=hz ((len+(m-len))*P.bytesOf e) (by simp[DataW.weights,ht]);exact this
   have h2:len+(m-len)<=(len+(m-len))*P.bytesOf e:=Nat.le_mul_of_pos_right _ Zc;simp only[reachBytes,aE]at h1;omega
  have hD:∀i,i<m->Small P e (D i):=λi R3 k hk=>by
   refine hz k ?_;simp only[DataW.weights,ht,bJ,bL]
   right
   by_cases iQ:i<len
   ·exact .inl (pK (aX.2 ⟨i,by simpa using iQ,rfl⟩) hk)
   ·exact .inr (pK (aX.2 ⟨i-len,by simp;omega,by rw[show len+(i-len)=i by omega]⟩) hk)
  obtain⟨l,Kf,hp⟩:=Fw (α:=α) (n:=len) (p:=λi u=>∃rV,w.cells? base (a.add (i*s)) s=some rV/\V w u rV) (λi iQ=>by
   obtain⟨rV,hc,HE⟩:=hi i ag;rw[hs]at hc;obtain⟨u,hu⟩:=hV n rV _ (World.cells?_some hc).2.1 HE (hD i ag);exact⟨u,rV,hc,hu⟩)
  refine⟨l,some a,len,cap,a.block,a.off,rfl,Kf.symm,hl,oj,by simpa[maxLen]using hm,λeH=>?_,λi u hu=>?_⟩
  ·have h0:0<l.length:=rR.2 eH
   obtain⟨rV,hc,_⟩:=hp 0 _ (aB h0);obtain⟨_,hlen,ny⟩:=World.cells?_some hc;have h1:=ny 0 dS;rw[aB ag]at h1;have:=World.cell?_spot h1;simp only[Nat.zero_mul,Addr.add_zero']at this;obtain⟨b,o,sp⟩:=a;simp only at this;subst this;rfl
  ·obtain⟨rV,hc,hv⟩:=hp i u hu
   refine⟨rV,λj y hj=>?_,hv⟩;obtain⟨_,hlen,ny⟩:=World.cells?_some hc;have jE:j<s:=by have:=(aC.1 hj).1;omega
   have h1:=ny j jE;rw[hj]at h1;have Eo:a.spot=none:=by
    have h0:=ny 0 dS;rw[aB ag,Addr.add_zero']at h0;have:=World.cell?_spot h0;unfold Addr.add at this
    split at this
    ·exact this
    ·rename_i eH
     have h0':0<l.length:=by have:=(aC.1 hu).1;omega
     obtain⟨cs0,Gc,_⟩:=hp 0 _ (aB h0');obtain⟨_,aeV,acS⟩:=World.cells?_some Gc;have h3:=acS 0 dS;rw[aB ag]at h3;have:=World.cell?_spot h3;simpa only[Nat.zero_mul,Addr.add_zero']using this
   obtain⟨b,o,sp⟩:=a;simp only at Eo;subst Eo;rw[Addr.add_lit,Addr.add_lit]at h1;exact h1
end
section
variable {H:Type} {enc:TypeId×Value->H} {w:World} {base:Nat} {spare:Nat->Bool} {held:Bool}
theorem nX{t:Nat}{fs:Array Field}{bE:Nat}{cs:List Value}{x:DataW H×List MemPlace}(ht:Tryz.prog.underlying t=some (.struct fs))(h:DataW.trod enc Tryz.prog w base spare held bE t cs=some x)(hz:Small Tryz.prog t x.1):
  ∃n,cs.length=Tryz.prog.cellsOf t/\∀(i T off:Nat),(fs[i]?).map (λf=>(f.type,f.offset))=some (T,off)->∃y,DataW.trod enc Tryz.prog w base spare held n T ((cs.drop off).take (Tryz.prog.cellsOf T))=some y/\Small Tryz.prog T y.1:=by
 obtain⟨xs,n,_,rfl,hlen,r8,hf⟩:=DataW.trod_struct ht h;refine⟨n,hlen,λi T off hi=>?_⟩;obtain⟨f,hif,e⟩:=cT.1 hi;simp only[Prod.mk.injEq]at e;obtain⟨rfl,rfl⟩:=e;have h1:=hf i f hif;have bT:i<xs.length:=by rw[r8];exact(fI.1 hif).1
 rw[aB bT]at h1;refine⟨_,h1,λk hk=>hz k ?_⟩;simp only[DataW.weights,ht];exact lI (i:=i) (by simp[hif]) (by simp[aB bT]) hk
theorem Fv:Tryz.prog.cellsOf 3=1:=by kernel_rfl
theorem ZL:Tryz.prog.cellsOf 4=1:=by kernel_rfl
theorem ZQ:Tryz.prog.cellsOf 9=1:=by kernel_rfl
theorem UY:Tryz.prog.cellsOf 42=1:=by kernel_rfl
theorem Sx:Tryz.prog.cellsOf 41=2:=by kernel_rfl
theorem UZ:Tryz.prog.cellsOf 47=1:=by kernel_rfl
theorem ZM:Tryz.prog.cellsOf 56=8:=by kernel_rfl
theorem ZN:Tryz.prog.cellsOf 39=1:=by kernel_rfl
theorem ZO:Tryz.prog.cellsOf 49=2:=by kernel_rfl
theorem ZP:Tryz.prog.cellsOf 38=1:=by kernel_rfl
theorem acr:Tryz.prog.cellsOf 44=4:=by kernel_rfl
theorem N5:Tryz.prog.cellsOf 46=6:=by kernel_rfl
theorem Sw:Tryz.prog.cellsOf 33=1:=by kernel_rfl
theorem UX:Tryz.prog.cellsOf 35=4:=by kernel_rfl
theorem Wf:Tryz.prog.cellsOf 23=1:=by kernel_rfl
theorem JR:Tryz.prog.cellsOf 65=3:=by kernel_rfl
theorem N6:Tryz.prog.cellsOf 22=1:=by kernel_rfl
theorem ZR:Tryz.prog.cellsOf 25=2:=by kernel_rfl
theorem tF{bE:Nat}{cs:List Value}{x:DataW H×List MemPlace}(h:DataW.trod enc Tryz.prog w base spare held bE 3 cs=some x):∃u,fj w u cs:=by
 obtain⟨n,rfl,_,hw⟩:=DataW.trod_int Tryz.underlying3 h;exact⟨n,rfl,Mm hw⟩
theorem YC{bE:Nat}{cs:List Value}{x:DataW H×List MemPlace}(h:DataW.trod enc Tryz.prog w base spare held bE 4 cs=some x):∃b,cs=[.bool b]:=by
 obtain⟨b,rfl,_⟩:=DataW.trod_bool Tryz.underlying4 h;exact⟨b,rfl⟩
theorem KK{bE:Nat}{cs:List Value}{x:DataW H×List MemPlace}(h:DataW.trod enc Tryz.prog w base spare held bE 41 cs=some x)(hz:Small Tryz.prog 41 x.1):∃u,l9 w u cs:=by
 obtain⟨n,hl,hf⟩:=nX Tryz.underlying41 h hz;rw[Sx]at hl
 match cs,hl with
 |[c0,c1],_=>
  obtain⟨y0,h0,z0⟩:=hf 0 4 0 rfl;obtain⟨y1,h1,z1⟩:=hf 1 3 1 rfl;rw[ZL]at h0;rw[Fv]at h1;obtain⟨b,hb⟩:=YC h0;obtain⟨m,hm,hi⟩:=tF h1;simp at hb hm;subst hb hm;exact⟨⟨b,m⟩,rfl,hi⟩
theorem Ji{bE:Nat}{v:Value}{x:DataW H×List MemPlace}(h:DataW.trod enc Tryz.prog w base spare held bE 42 [v]=some x)(hz:Small Tryz.prog 42 x.1):∃l,aM w v 1 l fj:=
 sq Tryz.underlying42 Fv ag (of_decide_eq_true aP) (λ_ _ _ _ hh _=>tF hh) h hz
theorem QN{bE:Nat}{v:Value}{x:DataW H×List MemPlace}(h:DataW.trod enc Tryz.prog w base spare held bE 47 [v]=some x)(hz:Small Tryz.prog 47 x.1):∃l,aM w v 2 l l9:=
 sq Tryz.underlying47 Sx ag (of_decide_eq_true aP) (λ_ _ _ _ hh hz=>KK hh hz) h hz
theorem ab3{bE:Nat}{cs:List Value}{x:DataW H×List MemPlace}(h:DataW.trod enc Tryz.prog w base spare held bE 49 cs=some x)(hz:Small Tryz.prog 49 x.1):∃u,DN w u cs:=by
 obtain⟨n,hl,hf⟩:=nX Tryz.underlying49 h hz;rw[ZO]at hl
 match cs,hl with
 |[c0,c1],_=>
  obtain⟨y0,h0,z0⟩:=hf 0 3 0 rfl;obtain⟨y1,h1,z1⟩:=hf 1 47 1 rfl;rw[Fv]at h0;rw[UZ]at h1;obtain⟨m,hm,hi⟩:=tF h0;simp at hm;subst hm;obtain⟨l,hs⟩:=QN h1 z1;exact⟨⟨m,l⟩,c1,rfl,hi,hs⟩
theorem ab2{bE:Nat}{cs:List Value}{x:DataW H×List MemPlace}(h:DataW.trod enc Tryz.prog w base spare held bE 56 cs=some x)(hz:Small Tryz.prog 56 x.1):∃u,DK w u cs:=by
 obtain⟨n,hl,hf⟩:=nX Tryz.underlying56 h hz;rw[ZM]at hl
 match cs,hl with
 |[c0,c1,c2,c3,c4,c5,c6,c7],_=>
  obtain⟨y0,h0,z0⟩:=hf 0 3 0 rfl;obtain⟨y1,h1,z1⟩:=hf 1 3 1 rfl;obtain⟨y2,h2,z2⟩:=hf 2 41 2 rfl;obtain⟨y3,h3,z3⟩:=hf 3 41 4 rfl;obtain⟨y4,h4,z4⟩:=hf 4 3 6 rfl;obtain⟨y5,h5,z5⟩:=hf 5 47 7 rfl;rw[Fv]at h0 h1 h4;rw[Sx]at h2 h3;rw[UZ]at h5;obtain⟨a0,e0,i0⟩:=tF h0;obtain⟨a1,e1,i1⟩:=tF h1;obtain⟨a2,e2,i2⟩:=KK h2 z2;obtain⟨a3,e3,i3⟩:=KK h3 z3;obtain⟨a4,e4,i4⟩:=tF h4;obtain⟨l,hs⟩:=QN h5 z5;simp at e0 e1 e2 e3 e4;obtain⟨e2,e2'⟩:=e2;obtain⟨e3,e3'⟩:=e3;subst e0 e1 e2 e2' e3 e3' e4;exact⟨⟨a0,a1,a2,a3,a4,l⟩,c7,rfl,i0,i1,i2,i3,i4,hs⟩
theorem YG{bE:Nat}{v:Value}{x:DataW H×List MemPlace}(h:DataW.trod enc Tryz.prog w base spare held bE 38 [v]=some x)(hz:Small Tryz.prog 38 x.1):∃l,aM w v 2 l DN:=
 sq Tryz.underlying38 ZO ag (of_decide_eq_true aP) (λ_ _ _ _ hh hz=>ab3 hh hz) h hz
theorem YE{bE:Nat}{v:Value}{x:DataW H×List MemPlace}(h:DataW.trod enc Tryz.prog w base spare held bE 39 [v]=some x)(hz:Small Tryz.prog 39 x.1):∃l,aM w v 8 l DK:=
 sq Tryz.underlying39 ZM ag (of_decide_eq_true aP) (λ_ _ _ _ hh hz=>ab2 hh hz) h hz
theorem Uc{bE:Nat}{cs:List Value}{x:DataW H×List MemPlace}(h:DataW.trod enc Tryz.prog w base spare held bE 46 cs=some x)(hz:Small Tryz.prog 46 x.1):∃u,ed w u cs:=by
 obtain⟨n,hl,hf⟩:=nX Tryz.underlying46 h hz;rw[N5]at hl
 match cs,hl with
 |[c0,c1,c2,c3,c4,c5],_=>
  obtain⟨y0,h0,z0⟩:=hf 0 38 0 rfl;obtain⟨y1,h1,z1⟩:=hf 1 39 1 rfl;obtain⟨y2,h2,z2⟩:=hf 2 44 2 rfl;rw[ZP]at h0;rw[ZN]at h1;rw[acr]at h2;obtain⟨lp,sp⟩:=YG h0 z0;obtain⟨li,si⟩:=YE h1 z1;obtain⟨m,hm,hg⟩:=nX Tryz.underlying44 h2 z2;obtain⟨z0,k0,zk0⟩:=hg 0 3 0 rfl;obtain⟨z1,k1,zk1⟩:=hg 1 41 1 rfl;obtain⟨z2,k2,zk2⟩:=hg 2 42 3 rfl;rw[Fv]at k0;rw[Sx]at k1;rw[UY]at k2;obtain⟨a0,e0,i0⟩:=tF k0;obtain⟨a1,e1,i1⟩:=KK k1 zk1;obtain⟨lt,st⟩:=Ji k2 zk2;simp at e0 e1;obtain⟨e1,e1'⟩:=e1;subst e0 e1 e1';exact⟨⟨lp,li,a0,a1,lt⟩,c0,c1,c5,rfl,i0,i1,sp,si,st⟩
theorem QI{bE:Nat}{v:Value}{x:DataW H×List MemPlace}(h:DataW.trod enc Tryz.prog w base spare held bE 33 [v]=some x)(hz:Small Tryz.prog 33 x.1):∃l,aM w v 6 l ed:=
 sq Tryz.underlying33 N5 ag (of_decide_eq_true aP) (λ_ _ _ _ hh hz=>Uc hh hz) h hz
theorem YD{bE:Nat}{cs:List Value}{x:DataW H×List MemPlace}(h:DataW.trod enc Tryz.prog w base spare held bE 35 cs=some x)(hz:Small Tryz.prog 35 x.1):∃u,gg w u cs:=by
 obtain⟨n,hl,hf⟩:=nX Tryz.underlying35 h hz;rw[UX]at hl
 match cs,hl with
 |[c0,c1,c2,c3],_=>
  obtain⟨y0,h0,z0⟩:=hf 0 9 0 rfl;obtain⟨y1,h1,z1⟩:=hf 1 3 1 rfl;obtain⟨y2,h2,z2⟩:=hf 2 3 2 rfl;obtain⟨y3,h3,z3⟩:=hf 3 33 3 rfl;rw[ZQ]at h0;rw[Fv]at h1 h2;rw[Sw]at h3;obtain⟨s,e0,_,_⟩:=DataW.trod_string Tryz.underlying9 h0;obtain⟨a1,e1,i1⟩:=tF h1;obtain⟨a2,e2,i2⟩:=tF h2;obtain⟨l,hs⟩:=QI h3 z3;simp at e0 e1 e2;subst e0 e1 e2;exact⟨⟨s,a1,a2,l⟩,c3,rfl,i1,i2,hs⟩
theorem QL{bE:Nat}{cs:List Value}{x:DataW H×List MemPlace}(h:DataW.trod enc Tryz.prog w base spare held bE 65 cs=some x)(hz:Small Tryz.prog 65 x.1):∃u,fE w u cs:=by
 obtain⟨n,hl,hf⟩:=nX Tryz.underlying65 h hz;rw[JR]at hl
 match cs,hl with
 |[c0,c1,c2],_=>
  obtain⟨y0,h0,z0⟩:=hf 0 9 0 rfl;obtain⟨y1,h1,z1⟩:=hf 1 3 1 rfl;obtain⟨y2,h2,z2⟩:=hf 2 42 2 rfl;rw[ZQ]at h0;rw[Fv]at h1;rw[UY]at h2;obtain⟨s,e0,_,_⟩:=DataW.trod_string Tryz.underlying9 h0;obtain⟨a1,e1,i1⟩:=tF h1;obtain⟨l,hs⟩:=Ji h2 z2;simp at e0 e1;subst e0 e1;exact⟨⟨s,a1,l⟩,c2,rfl,i1,hs⟩
theorem YH{bE:Nat}{cs:List Value}{x:DataW H×List MemPlace}(h:DataW.trod enc Tryz.prog w base spare held bE 25 cs=some x)(hz:Small Tryz.prog 25 x.1):∃u,ZH w u cs:=by
 obtain⟨n,hl,hf⟩:=nX Tryz.underlying25 h hz;rw[ZR]at hl
 match cs,hl with
 |[c0,c1],_=>
  obtain⟨y0,h0,z0⟩:=hf 0 22 0 rfl;obtain⟨y1,h1,z1⟩:=hf 1 23 1 rfl;rw[N6]at h0;rw[Wf]at h1;obtain⟨lg,sg⟩:=sq Tryz.underlying22 JR ag (of_decide_eq_true aP) (λ_ _ _ _ hh hz=>QL hh hz) h0 z0;obtain⟨lf,sf⟩:=sq Tryz.underlying23 UX ag (of_decide_eq_true aP) (λ_ _ _ _ hh hz=>YD hh hz) h1 z1;exact⟨⟨lg,lf⟩,c0,c1,rfl,sg,sf⟩
end
theorem own:ownKnob Tryz.prog.godebug=none:=by kernel_rfl
theorem laidOut:laidOutB Tryz.prog=true:=by kernel_rfl
theorem vm{H:Type}{enc:TypeId×Value->H}{W W':World}(hb:Below W.heap.size W W'):∀(ts:List TypeId) (vs:List Value) (ds:List (DataW H)) (ps:List MemPlace),
  (∀t∈ts,Tryz.prog.readableRec t=true/\t<Tryz.prog.types.size)->DataW.TrodAll enc Tryz.prog W 0 (λ_=>true) true ts vs ds ps->DataW.TrodAll enc Tryz.prog W' 0 (λb=>decide (b<W.heap.size)) true ts vs ds ps
 |[],vs,ds,ps,_,h=>by obtain⟨rfl,rfl,rfl⟩:=trodAll_nil h;exact rfl
 |t::ts,vs,ds,ps,hr,h=>by
  obtain⟨v,vs',d,ds',p,q,rfl,rfl,rfl,h0,h1⟩:=trodAll_cons h;have lt0:∀x∈p,x.block<W.heap.size:=by obtain⟨m,hm⟩:=h0;exact DataW.trod_lt m _ _ _ hm
  exact⟨p,q,Below.trod laidOut (hr t aH).1 (hr t aH).2 h0 hb lt0,vm hb ts vs' ds' q (λu hu=>hr u (by simp[hu])) h1,rfl⟩
theorem Qf{k:FuncId}{fn:Func}{s:ChangeSpec}{ts:List TypeId}(hp:fn.params.toList=ts)(aef:fn.resultTypes= #[4])(VQ:s.vars=[])
  (TG:∀t∈ts,Tryz.prog.readableRec t=true/\t<Tryz.prog.types.size)
  {H:Type} {enc:TypeId×Value->H} {W:World} {args:Array Value} {ds gs:List (DataW H)} {before:List MemPlace}
  (oY:ds.length=ts.length->s.fn H ds={results:=[.lit (.bool true)],args:=ds})
  (hW:DataW.Whole enc Tryz.prog fn.params.toList s.vars false W args.toList ds gs before)
  (abS:∀p,DataW.TrodAll enc Tryz.prog W 0 (λ_=>true) true ts args.toList ds p->fi Tryz.prog k args.toList W (.bool true)):
  Calls Tryz.prog k args W λe W'=>∃v,e=.returned v/\s.post enc Tryz.prog fn false true false false W args v W':=by
 have u_:=hW;obtain⟨p,q,hA,hV,rfl,Vn,oh⟩:=hW;rw[hp]at hA;rw[VQ]at hV;obtain⟨rfl,rfl⟩:=trodVars_none hV;have hlen:∀(ts:List TypeId) (vs:List Value) (ds:List (DataW H)) (ps:List MemPlace),DataW.TrodAll enc Tryz.prog W 0 (λ_=>true) true ts vs ds ps->ds.length=ts.length:=by
  intro ts
  induction ts with
  |nil=>intro vs ds ps h;obtain⟨_,rfl,_⟩:=trodAll_nil h;rfl
  |cons t ts ih=>intro vs ds ps h;obtain⟨v,vs',d,ds',p,q,rfl,rfl,rfl,h0,h1⟩:=trodAll_cons h;simp[ih _ _ _ h1]
 have hs:=oY (hlen _ _ _ _ hA);have h3:Calls Tryz.prog k args W λe w'=>∃u,e=.returned u/\u=.bool true/\lL dh W w':=by
  have:=callsIn_wide.1 (abS _ hA);simpa using this
 refine h3.mono λe W' ⟨u,he,hu,hc⟩=>?_;subst hu;refine⟨_,he,ds,[],_,[],p,[],u_,?_,?_,?_,hc.below.frame _,λh=>by cases h⟩
 ·rw[cq,hs,aef]
  exact trodAll_mk1 (shut_bool Tryz.underlying4 _)
 ·rw[cq,hs,hp]
  exact vm hc.below _ _ _ _ TG hA
 ·rw[cq,hs,VQ]
  exact rfl
end
section
open Go Go.RowKit Go.ChangeShapes Go.WideShapes Go.ChangeAt
set_option maxRecDepth 100000
def BZ:List (String×DataW Unit):=[("turnery/code.ways",Rows.laid_turnery_code_ways)]
theorem FQ:Tryz.prog.globalNamed "turnery/code.ways" =some 0:=by kernel_rfl
theorem LK:(Tryz.prog.globals[0]?).map (·.type)=some 155:=by kernel_rfl
theorem ZS:Tryz.prog.cellsOf 155=4:=by kernel_rfl
theorem UH{W:World}(h:laidMetH Tryz.prog BZ W):bG W 0 0 mI:=by
 have ht:Lib.TabIs Tryz.prog W "turnery/code.ways" .i64 [0,0,1,2]:=Lib.tabIs_of_head (rest:=[]) FQ LK Tryz.underlying155 Tryz.underlying3 Fv ZS h
 intro j v hj;rw[dM]
 match j,hj with
 |0,hj=>simp only[mI,jJ,bW]at hj;subst hj;exact ht.cell FQ 0 (by decide)
 |1,hj=>simp only[mI,nK,jJ,bW]at hj;subst hj;exact ht.cell FQ 1 (by decide)
 |2,hj=>simp only[mI,nK,jJ,bW]at hj;subst hj;exact ht.cell FQ 2 (by decide)
 |3,hj=>simp only[mI,nK,jJ,bW]at hj;subst hj;exact ht.cell FQ 3 (by decide)
 |j+4,hj=>simp[mI]at hj
theorem Nb{l:List Nat}(h:l.all (·<=reachBytes)=true):∀k∈l,k<=reachBytes:=by
 intro k hk;have:=List.all_eq_true.1 h k hk;simpa using this
noncomputable def x_(os:Os):World:=
 {World.holding Tryz.prog os ⟨#[],#[],[]⟩with heap:=(World.holding Tryz.prog os ⟨#[],#[],[]⟩).heap.modify 0 λ
  | .cells _ t frozen=>.cells #[.int .i64 0,.int .i64 0,.int .i64 1,.int .i64 2] t frozen
  |o=>o}
theorem Qc(os:Os)(args:Array Value):laidMet Tryz.prog BZ ((x_ os).forCall (λ_ _=>0) ⟨#[],args,[]⟩).memory:=
 laidMet_of_run' 8 aP aP
theorem x4{H:Type}{enc:TypeId×Value->H}{W:World}{args:Array Value}{ds:List (DataW H)}{p:List MemPlace}{base:Nat}{params:Array TypeId}(hp:params= #[25])
  (h1:∀(j:Nat) t v,params[j]?=some t->args[j]?=some v->Value.okWide Tryz.prog W .any base t v)
  (hA:DataW.TrodAll enc Tryz.prog W 0 (λ_=>true) true [25] args.toList ds p) (hz:∀k∈DataW.weightsEach Tryz.prog [25] ds,k<=reachBytes):
  ∃(u:a7) (g fs:Value),args= #[.agg #[g,fs]]/\aM W g 3 u.globals fE/\aM W fs 4 u.funcs gg:=by
 subst hp;obtain⟨v0,vs0,d0,ds0,p0,q0,tk,rfl,rfl,h0,r0⟩:=trodAll_cons hA;obtain⟨rfl,rfl,rfl⟩:=trodAll_nil r0;obtain rfl:args= #[v0]:=by cases args;simp_all
 obtain⟨cs0,rfl,_⟩:=okWide_struct Tryz.underlying25 (h1 0 25 v0 rfl rfl);obtain⟨f0,k0⟩:=h0;obtain⟨cs0⟩:=cs0;have TM:Small Tryz.prog 25 d0:=λk hk=>hz k (lI (i:=0) rfl rfl hk);obtain⟨u,g,f,e0,hg,hf⟩:=YH k0 TM;simp only[Value.cells]at e0;subst e0;exact⟨u,g,f,rfl,hg,hf⟩
def ov:Array Value:=#[.agg #[.slice none 0 0,.slice none 0 0]]
end
section
open Go Go.RowKit
attribute [local irreducible] wpListIn Code.wpIn Exit.then Exit.inBlock bodyPost wpQuiet wpAnyIn bodyPostM
set_option maxHeartbeats 4000000
structure jC where
 a:Option Addr
 c:Nat
 l:List Bool
def gJ(R:Nat)(r:jC):Value:=.slice r.a R r.c
def ir(R:Nat)(r:jC):bN:=iF r.a R r.c r.l
theorem KX{S:Nat->Prop}{w0 w:World}{R:Nat}{rs:List jC}{a:Option Addr}{n c e:Nat}{H:List bN}(h:Wd S w0 (ai a n c e 1 (rs.map (gJ R))::(rs.map (ir R)++H)) w)(hn:n=rs.length)(hb:n<=1000)(hR:R<=1000)(hl:∀r∈rs,r.l.length=R):
  aM w (.slice a n c) 1 (rs.map (·.l)) Cg:=by
 refine h.nC (k:=0) rfl (by simpa using hn) ag λi x hx=>?_;rw[aK]at hx;obtain⟨r,hr,rfl⟩:=cT.1 hx;have bT:i<rs.length:=(aC.1 hr).1;have mL:=hl r (aA hr);refine⟨[gJ R r],λj v hj=>?_,gJ R r,rfl,?_⟩
 ·match j,hj with
  |0,hj=>simpa[hr]using hj
 ·refine h.nC (k:=i+1) (a:=r.a) (n:=R) (c:=r.c) (e:=4) (s:=1) (xs:=r.l.map .bool) ?_ mL.symm ag λj y hy=>⟨[.bool y],λk v hk=>?_,rfl⟩
  ·rw[nK,dG (by simpa using bT),aK,hr];rfl
  ·match k,hk with
   |0,hk=>simpa[hy]using hk
theorem YN{S:Nat->Prop}{w0 w:World}{R:Nat}{rs:List jC}{E H:List bN}(h:Wd S w0 (E++(rs.map (ir R)++H)) w){i:Nat}{r:jC}(hr:rs[i]?=some r)(hR:R<=1000)(hl:r.l.length=R):aM w (gJ R r) 1 r.l yL:=by
 have bT:i<rs.length:=(aC.1 hr).1;refine h.nC (k:=E.length+i) (a:=r.a) (n:=R) (c:=r.c) (e:=4) (s:=1) (xs:=r.l.map .bool) ?_ hl.symm ag λj y hy=>⟨[.bool y],λk v hk=>?_,rfl⟩
 ·rw[dg ag,show E.length+i-E.length=i by omega,dG (by simpa using bT),aK,hr];rfl
 ·match k,hk with
  |0,hk=>simpa[hy]using hk
abbrev qU(R:Nat)(wz:World):Type:={y:Int×en×(Option Addr×Nat×Nat)//uV R y.2.1/\y.2.1.args.length<=1000/\aM wz (.slice y.2.2.1 y.2.2.2.1 y.2.2.2.2) 2 y.2.1.args l9}
def zD(x:en)(v:Option Addr×Nat×Nat):List Value:=[.int .i64 x.op,.int .i64 x.dst,.bool x.a.bD,.int .i64 x.a.n,.bool x.b.bD,.int .i64 x.b.n,.int .i64 x.fn,.slice v.1 v.2.1 v.2.2]
def qU.enc{R:Nat}{wz:World}(y:qU R wz):Int×List Value:=(y.1.1,zD y.1.2.1 y.1.2.2)
theorem Dj{α β:Type}{p:Nat->α->β->Prop}:∀(l:List α),(∀i x,l[i]?=some x->∃y,p i x y)->∃ys:List β,ys.length=l.length/\∀i x,l[i]?=some x->∃y,ys[i]?=some y/\p i x y:=by
 intro l h
 classical
 refine⟨(List.range l.length).attach.map λi=>Classical.choose (h i.1 (l[i.1]'(by have:=i.2;simpa using this)) (aB _)),by simp,λi x hx=>?_⟩;have bT:=(aC.1 hx).1;have Ce:=(aC.1 hx).2;refine⟨_,by rw[aB (by simpa using bT)],?_⟩;simp only[List.getElem_map,List.getElem_attach,List.getElem_range];have:=Classical.choose_spec (h i (l[i]'bT) (aB _));simpa[Ce]using this
theorem TO{R:Nat}{wz:World}{b o:Nat}{l:List en}(cW:∀x∈l,uV R x)(tk:∀x∈l,x.args.length<=1000)(iK:∀i x,l[i]?=some x->∃cs,bG wz b (o+i*8) cs/\DK wz x cs):
  ∃(zs:List (List Value)) (xs:List (qU R wz)),zs.length=l.length/\(∀z∈zs,z.length=8)/\xs.map qU.enc=wG zs zs.length/\xs.map (·.1.2.1)=l.reverse/\∀m z,zs[m]?=some z->∀j v,z[j]?=some v->wz.cell? ⟨b,o+m*8+j,none⟩=some v:=by
 obtain⟨ys,Cw,Zs⟩:=Dj (p:=λi x (v:Option Addr×Nat×Nat)=>bG wz b (o+i*8) (zD x v)/\aM wz (.slice v.1 v.2.1 v.2.2) 2 x.args l9) l λi x hx=>by
  obtain⟨cs,hc,v,rfl,_,_,_,_,_,hs⟩:=iK i x hx;have Mh:=hs;obtain⟨va,vn,vc,_,_,rfl,_⟩:=hs;exact⟨(va,vn,vc),hc,Mh⟩
 have hex:∀k,k<=l.length->∃xs:List (qU R wz),xs.map qU.enc=wG ((List.range l.length).map λi=>zD (l[i]?.getD ⟨0,0,gK,gK,0,[]⟩) (ys[i]?.getD (none,0,0))) k/\xs.map (·.1.2.1)=l.reverse.take k:=by
  intro k
  induction k with
  |zero=>exact λ_=>⟨[],by simp[wG],by simp⟩
  |succ k ih=>
   intro hk;obtain⟨xs,h1,h2⟩:=ih ag;obtain⟨x,hx⟩:∃x,l[l.length-1-k]?=some x:=⟨_,aB ag⟩;obtain⟨v,hv,hc,hs⟩:=Zs _ x hx;refine⟨xs++[⟨(((l.length-1-k:Nat):Int),x,v),cW x (aA hx),tk x (aA hx),hs⟩],?_,?_⟩
   ·rw[bB,h1]
    simp only[wG,kA,bB,bO,dp,aG,fG];congr 1;have bT:l.length-1-k<l.length:=ag;simp only[qU.enc,aK,eQ bT,bz,dF,hx,hv]
   ·rw[bB,h2,cj,List.getElem?_reverse ag,hx];rfl
 obtain⟨xs,h1,h2⟩:=hex l.length (bH _);refine⟨(List.range l.length).map λi=>zD (l[i]?.getD ⟨0,0,gK,gK,0,[]⟩) (ys[i]?.getD (none,0,0)),xs,by simp,λz hz=>?_,by simpa using h1,by rw[h2,jw aH],λm z hz j v hj=>?_⟩
 ·obtain⟨i,_,rfl⟩:=aX.1 hz
  rfl
 ·rw[aK]at hz
  obtain⟨i,hi,rfl⟩:=cT.1 hz;have bT:m<l.length:=by have:=(aC.1 hi).1;simpa using this
  rw[eQ bT]at hi;simp only[bW]at hi;subst hi;obtain⟨x,hx⟩:∃x,l[m]?=some x:=⟨_,aB bT⟩;obtain⟨v',hv',hc,_⟩:=Zs m x hx;rw[hx,hv']at hj;exact hc j v hj
theorem DS{R:Nat}{own:Nat->Prop}{wz w:World}{Bs n c b o:Nat}{a:Option Addr}{zs:List (List Value)}{xs:List (qU R wz)}(hn:n=zs.length)(ha:zs≠[]->a=some ⟨b,o,none⟩)(hlen:zs.length<=100000)(h8:∀z∈zs,z.length=8)
  (j4:∀m z,zs[m]?=some z->∀j v,z[j]?=some v->wz.cell? ⟨b,o+m*8+j,none⟩=some v) (XP:∀p v,wz.cell? p=some v->¬own p.block) (Z9:¬own Bs) (TM:∀p v,wz.cell? p=some v->w.cell? p=some v) (hB:w.cell? ⟨Bs,0,none⟩=some (.slice a n c)) (mM:xs.map qU.enc=wG zs zs.length):
  SeqStopsK (FW none) 4 Tryz.prog 165 #[.pointer (some ⟨Bs,0,none⟩)] (λx:qU R wz=>#[.int .i64 (qU.enc x).1,.agg (qU.enc x).2.toArray]) (kZ own) (λys=>ys=xs) (λpre=>pre<+:xs) xs.length w:=by
 intro l J Jx W hW _ _ hY h0;have r8:xs.length=zs.length:=by have:=congrArg List.length mM;rwa[aG,wH]at this
 subst hn;have hcW:∀p v,w.cell? p=some v->W.cell? p=some v:=λp v hp=>(hW.cell (World.block_lt_of_cell? w _ hp)).trans hp;refine Fl 4 ag qU.enc l Bs b o c (λb=>¬own b) (kZ own) (kZ.refl own) (λ_ _ _ h k=>h.trans k) (λA B h p v hp hc=>h.cell hp hc) zs xs mM hlen (λeH=>?_) Z9 J Jx a (λeH=>ha eH) (λpre x W1 hJ hl=>hY pre x W1 hJ ag) W (hcW _ _ hB) h8 (λm z hz j v hj=>hcW _ _ (TM _ _ (j4 m z hz j v hj))) h0;obtain⟨z,hz⟩:∃z,zs[0]?=some z:=⟨_,aB (rR.2 eH)⟩;have hz8:=h8 z (aA hz);obtain⟨v,hv⟩:∃v,z[0]?=some v:=⟨_,aB ag⟩;exact XP _ v (j4 0 z hz 0 v hv)
end
section
open Go Go.RowKit
section
variable {P:Program} {N:Nat} {ds:List Deferred} {S:Nat->Prop} {w0:World} {L L':List (Nat×Value)} {H H' Hr:List bN} {Q:Exit->Act->World->Prop} {x y:Operand} {M:Act->World->Prop} {l:List Oper} {bE:Nat} {listed:Array Bool}
theorem OD{d ty f:Nat}(i:Nat){args:List Operand}{vs:List Value}{og:Array Nat}{pos:String}{aft:Array Go.Edge}(R:World->Value->World->Prop)[ho:dm l i ⟨some d,.call {callee:=.value (.func f),args:=args.toArray,argTypes:=og},ty,pos,aft,none⟩][h:aS P f][hx:zk L args vs](hd:dj d N L=true)
  (hr:decide (Region.ready .any l.toArray listed=[i])=true)
  (hc:∀w,Wd S w0 H w->gV P f vs w (R w))
  (k:∀v w w',Wd S w0 H w->R w v w'->Wd S w0 Hr w'/\∀a,Fr N ds ((d,v)::L) a->wpAnyH P .any l.toArray (dy M) (Wd S w0 Hr) bE (listed.setIfInBounds i true) a w'):G N ds S w0 L H (wpAnyH P .any l.toArray (dy M) (Wd S w0 Hr) (bE+1) listed):=by
 intro a w hS;refine wpAnyH_all (of_decide_eq_true hr) aH λi' yZ=>?_;simp only[bU]at yZ;subst yZ;unfold wpOp;rw[show l.toArray[i']?=some ⟨some d,.call {callee:=.value (.func f),args:=args.toArray,argTypes:=og},ty,pos,aft,none⟩ by simpa using ho.at'];simp only;rw[if_pos (show Region.wanted (⟨some d,.call {callee:=.value (.func f),args:=args.toArray,argTypes:=og},ty,pos,aft,none⟩:Oper) (yielded l.toArray a.tmps)=true from rfl)]
 left
 unfold Oper.wp;have pF:(execOp a.eval ⟨some d,.call {callee:=.value (.func f),args:=args.toArray,argTypes:=og},ty,pos,aft,none⟩).run P w=.ok (.enter f vs.toArray) w:=by
  simp[execOp,resolve,Act.eval,Deferred.ofValue,invoke,hx.eq _ _ _ hS.fr,h.run]
 rw[pF];refine Calls.mono (callsIn_wide.1 (hc w hS.wd)) λe w' ⟨v,he,hR⟩=>?_;subst he;obtain⟨h1,h2⟩:=k v w w' hS.wd hR;exact⟨h1,h2 _ (hS.fr.dP hd v)⟩
theorem zQ{α:Type}{val:α->Value}{E:α->List bN}{φ:α->Prop}{d ty f:Nat}(i:Nat){args:List Operand}{vs:List Value}{og:Array Nat}{pos:String}{aft:Array Go.Edge}[ho:dm l i ⟨some d,.call {callee:=.value (.func f),args:=args.toArray,argTypes:=og},ty,pos,aft,none⟩][h:aS P f][hx:zk L args vs](hd:dj d N L=true)
  (hr:decide (Region.ready .any l.toArray listed=[i])=true) (hH:Hr.Sublist H)
  (hc:∀w,Wd S w0 H w->gV P f vs w λu w'=>∃x,u=val x/\Wd dh w (E x) w'/\φ x)
  (k:∀x,φ x->G N ds S w0 ((d,val x)::L) (E x++H) (wpAnyH P .any l.toArray (dy M) (Wd S w0 Hr) bE (listed.setIfInBounds i true))):G N ds S w0 L H (wpAnyH P .any l.toArray (dy M) (Wd S w0 Hr) (bE+1) listed):=
 OD i (λ_ u w'=>∃x,u=val x/\Wd S w0 (E x++H) w'/\φ x) hd hr (λw hw=>(hc w hw).mono λv w' ⟨x,h1,h2,h3⟩=>⟨x,h1,hw.more h2,h3⟩) λv w w' hw hR=>by
  obtain⟨x,rfl,h2,h3⟩:=hR;exact⟨h2.sub (hH.trans (qV _ _)),λa hF=>k x h3 a w' ⟨hF,h2⟩⟩
theorem mu{α:Type}{val:α->Value}{E:α->List bN}{φ:α->Prop}{H1 H2:List bN}{d ty f:Nat}(i:Nat){args:List Operand}{vs:List Value}{og:Array Nat}{pos:String}{aft:Array Go.Edge}[ho:dm l i ⟨some d,.call {callee:=.value (.func f),args:=args.toArray,argTypes:=og},ty,pos,aft,none⟩][h:aS P f][hx:zk L args vs](hd:dj d N L=true)
  (hr:decide (Region.ready .any l.toArray listed=[i])=true) (hH:Hr.Sublist H2)
  (hc:∀w,Wd S w0 (H1++H2) w->gV P f vs w λu w'=>∃x,u=val x/\Wd (cF H1) w (E x) w'/\φ x)
  (k:∀x,φ x->G N ds S w0 ((d,val x)::L) (E x++H2) (wpAnyH P .any l.toArray (dy M) (Wd S w0 Hr) bE (listed.setIfInBounds i true))):G N ds S w0 L (H1++H2) (wpAnyH P .any l.toArray (dy M) (Wd S w0 Hr) (bE+1) listed):=
 OD i (λ_ u w'=>∃x,u=val x/\Wd S w0 (E x++H2) w'/\φ x) hd hr (λw hw=>(hc w hw).mono λv w' ⟨x,h1,h2,h3⟩=>⟨x,h1,hw.comp h2,h3⟩) λv w w' hw hR=>by
  obtain⟨x,rfl,h2,h3⟩:=hR;exact⟨h2.sub (hH.trans (qV _ _)),λa hF=>k x h3 a w' ⟨hF,h2⟩⟩
theorem OE{o:Oper}(i:Nat)[ho:dm l i o](hg:o.guard=none)(hr:decide (Region.ready .any l.toArray listed=[i])=true)
  (k:∀a w,St N ds S w0 L H a w->∃w',(execOp a.eval o).run P w=.ok .skip w'/\Wd S w0 Hr w'/\wpAnyH P .any l.toArray (dy M) (Wd S w0 Hr) bE (listed.setIfInBounds i true) (a.put o.dst undef) w'):G N ds S w0 L H (wpAnyH P .any l.toArray (dy M) (Wd S w0 Hr) (bE+1) listed):=by
 intro a w hS;obtain⟨w',h1,h2,h3⟩:=k a w hS;refine wpAnyH_all (of_decide_eq_true hr) aH λi' yZ=>?_;simp only[bU]at yZ;subst yZ;unfold wpOp;rw[show l.toArray[i']?=some o by simpa using ho.at'];simp only;rw[if_pos (show Region.wanted o (yielded l.toArray a.tmps)=true by simp[Region.wanted,hg])]
 left
 unfold Oper.wp;rw[h1];exact⟨h2,h3⟩
theorem F5{o:Oper}(i:Nat)[ho:dm l i o](hg:o.guard=none)(hr:decide (Region.ready .any l.toArray listed=[i])=true)
  (k:∀a w,St N ds S w0 L H a w->∃v w',(execOp a.eval o).run P w=.ok (.value v) w'/\Wd S w0 Hr w'/\wpAnyH P .any l.toArray (dy M) (Wd S w0 Hr) bE (listed.setIfInBounds i true) (a.put o.dst v) w'):G N ds S w0 L H (wpAnyH P .any l.toArray (dy M) (Wd S w0 Hr) (bE+1) listed):=by
 intro a w hS;obtain⟨v,w',h1,h2,h3⟩:=k a w hS;refine wpAnyH_all (of_decide_eq_true hr) aH λi' yZ=>?_;simp only[bU]at yZ;subst yZ;unfold wpOp;rw[show l.toArray[i']?=some o by simpa using ho.at'];simp only;rw[if_pos (show Region.wanted o (yielded l.toArray a.tmps)=true by simp[Region.wanted,hg])]
 left
 unfold Oper.wp;rw[h1];exact⟨h2,h3⟩
theorem cH{ty T b o j t n:Nat}(i:Nat)[h:d_ P T n]{cs vs rV:List Value}{pos:String}{aft:Array Go.Edge}[ho:dm l i ⟨none,.store T x y,ty,pos,aft,none⟩]
  [hx:Ev L x (.pointer (some ⟨b,o,none⟩))] [hy:Ev L y (.agg vs.toArray)] [hb:l7 H b j cs t] [hn:kx vs n] [hp:yM cs o vs rV] [h1:sU vs] [hH:qi H j (aj b rV t) H']
  (hr:decide (Region.ready .any l.toArray listed=[i])=true) (LP:Hr.Sublist H')
  (kk:G N ds S w0 L H' (wpAnyH P .any l.toArray (dy M) (Wd S w0 Hr) bE (listed.setIfInBounds i true))):G N ds S w0 L H (wpAnyH P .any l.toArray (dy M) (Wd S w0 Hr) (bE+1) listed):=by
 refine OE i rfl hr λa w hS=>?_;have IB:=hS.wd.Ah j hb.at';have hs:=run_storeCells_at P b o t vs 0 cs.toArray w IB (by simpa using hp.le) h1.all;have e:(cs.toArray.toList.take (o+0)++vs++cs.toArray.toList.drop (o+0+vs.length)).toArray=rV.toArray:=by
  rw[<-hp.eq,<-xe cs o vs hp.le];simp
 rw[e]at hs;have dO:=hS.wd.Rg j rV hb.at';rw[hH.zG]at dO;exact⟨w.setRow b rV.toArray,by simp[execOp,hx.eq _ _ _ hS.fr,hy.eq _ _ _ hS.fr,Instr.storeAt,Instr.sureAddr,storeVar,h.sz,Value.cells,hn.eq,hs],dO.sub LP,kk _ _ ⟨hS.fr,dO⟩⟩
theorem eF(hr:(Region.ready .any l.toArray listed).isEmpty=true)(k:G N ds S w0 L H M):G N ds S w0 L H (wpAnyH P .any l.toArray (dy M) (Wd S w0 Hr) bE listed):=λa w hS=>wpAnyH_done (List.isEmpty_iff.1 hr) (k a w hS) _
end
class ah9(xs:List Value)(j:Nat)(cs:outParam (List Value)):Prop where
 eq:∀i v,cs[i]?=some v->xs[j+i]?=some v
class ahi(H:List bN)(b off:Nat)(cs:outParam (List Value)):Prop where
 eq:∀S w0 w,Wd S w0 H w->bG w b off cs
instance(b o j n c e s:Nat)(xs cs:List Value)(H:List bN)[h:ah9 xs j cs]:ahi (ai (some ⟨b,o,none⟩) n c e s xs::H) b (o+j) cs:=
 ⟨λ_ _ _ hw i v hi=>by rw[dA];exact Wd.cK hw (k:=0) rfl (h.eq i v hi)⟩
instance(b off:Nat)(cs:List Value)(x:bN)(H:List bN)[h:ahi H b off cs]:ahi (x::H) b off cs:=⟨λS w0 w hw=>h.eq S w0 w (hw.sub (dZ _ _))⟩
section
variable {P:Program} {ro:Option Nat} {N:Nat} {ds:List Deferred} {S:Nat->Prop} {w0:World} {L:List (Nat×Value)} {H:List bN} {ops:Array Oper} {rest:List Oper} {Q:Exit->Act->World->Prop} {x y:Operand}
instance(priority:=low){T b off n:Nat}{cs:List Value}[h:d_ P T n][hx:Ev L x (.pointer (some ⟨b,off,none⟩))][hc:ahi H b off cs][hn:kx cs n]:dz P N ds S w0 L H (.load T x) (.agg cs.toArray):=
 ⟨λ_ h=>(by cases h),λ_ _ h=>(by cases h),λ_ _ _ _ _ a w hF hW=>by simp[execOp,hx.eq _ _ _ hF,lX hn.eq (hc.eq _ _ _ hW)]⟩
theorem ahU(v u:Value)(cs ds zs:List Value)(hv:v.cells.toList=cs)(hu:u.cells.toList=ds)(hl:cs.length=ds.length)(hz:zs.length=2*cs.length):Instr.fill (λi=>some (i*cs.length,cs.length)) zs.toArray [(0,v),(1,u)]=some (cs++ds).toArray:=by
 have hs:v.cells.size=cs.length:=by rw[<-hv];simp
 have NF:u.cells.size=cs.length:=by rw[<-Array.length_toList,hu,hl]
 have e:v.cells=cs.toArray:=by rw[<-hv]
 have e2:u.cells=ds.toArray:=by rw[<-hu]
 have hf:=xK cs zs 0 0 ag;have hp:rC zs 0 cs=cs++zs.drop cs.length:=by
  rw[<-xe zs 0 cs ag];simp
 simp only[dL]at hf;rw[hp]at hf;have hf2:=xK ds (cs++zs.drop cs.length) cs.length 0 (by simp;omega);have Me:rC (cs++zs.drop cs.length) (cs.length+0) ds=cs++ds:=by
  rw[<-xe (cs++zs.drop cs.length) (cs.length+0) ds (by simp;omega)];rw[dL,List.take_left,List.drop_append];simp;omega
 rw[Me]at hf2;have hA:(v.cells.zipIdx).foldl (λ(c:Array Value) (x:Value×Nat)=>c.setIfInBounds (0*cs.length+x.2) x.1) zs.toArray=(cs++zs.drop cs.length).toArray:=by rw[e];simpa using hf
 have hB:(u.cells.zipIdx).foldl (λ(c:Array Value) (x:Value×Nat)=>c.setIfInBounds (1*cs.length+x.2) x.1) (cs++zs.drop cs.length).toArray=(cs++ds).toArray:=by rw[e2];simpa using hf2
 simp only[Instr.fill];rw[if_neg (by simp[hs,hz];omega),hA,if_neg (by simp[NF];omega),hB]
theorem ahV{d ty T e jZ:Nat}{zs cs ds':List Value}{s:Nat}{v u:Value}{pos:String}{aft:Array Go.Edge}[h:cB P T e s jZ zs][hx:Ev L x v][hy:Ev L y u][hv:iG v cs][hu:iG u ds'][hl:kx cs s][Kd:kx ds' s](hd:dj d N L=true)(hs:((Nat.blt 0 s&&Nat.ble s 1000)&&Nat.beq zs.length s)=true)
  (k:∀b,w0.heap.size<=b->G N ds S w0 ((d,.slice (some ⟨b,0,none⟩) 2 2)::L) (ai (some ⟨b,0,none⟩) 2 2 e s (cs++ds')::H) (wpListIn (FW ro) 0 P ops Q rest)):G N ds S w0 L H (wpListIn (FW ro) 0 P ops Q (⟨some d,.buildSlice T 2 #[(0,x),(1,y)],ty,pos,aft,none⟩::rest)):=by
 intro a w hS;obtain⟨i,zz,hi,PU,fZ,h1,h2⟩:=h.get;simp only[Bool.and_eq_true,Nat.blt_eq,Nat.ble_eq]at hs;have hle:=hl.eq;have aiq:=Kd.eq;refine eG (v:=.slice (some ⟨w.heap.size,0,none⟩) 2 2) (w':=w.alloc (.cells (cs++ds').toArray e)) rfl (λ_ h=>by cases h) ?_ ?_
 ·have hr:=run_buildSlice (P:=P) w T e 2 #[(0,v),(1,u)] (cs++ds').toArray i zz h.oI hi PU (by rw[h1];omega) (by rw[h1];omega) (by
   rw[h1,<-hle];have:=ahU v u cs ds' ((Array.range (2*cs.length)).map (zz.cells[·%zz.cells.size]!)).toList hv.eq hu.eq ag aH;rw[Array.toArray_toList]at this;exact this)
  simp[execOp,hx.eq _ _ _ hS.fr,hy.eq _ _ _ hS.fr,hr]
 ·exact k _ hS.wd.size _ _ ⟨hS.fr.dP hd _,hS.wd.we e s 2 _ (by rw[bR];omega) (by simp[maxLen])⟩
end
attribute [local irreducible] wpListIn Code.wpIn Exit.then Exit.inBlock bodyPost wpQuiet wpAnyIn
set_option maxHeartbeats 4000000
def ahP(v:cm):List Value:=[.bool v.bD,.int .i64 v.n]
theorem ahC{S:Nat->Prop}{w0 w:World}{H:List bN}{k c n e:Nat}{a:Option Addr}{l:List cm}(h:Wd S w0 H w)(hk:H[k]?=some (ai a n c e 2 (l.flatMap ahP)))(hn:n=l.length)(hb:n<=100000)(hl:∀x∈l,c9 x.n):aM w (.slice a n c) 2 l l9:=
 h.nC hk hn ag λi x hx=>⟨ahP x,λj v hj=>fy (g:=ahP) (s:=2) (λ_=>rfl) l i x j v hx hj,rfl,hl x (aA hx)⟩
theorem ahA(v:Value)(l:List cm)(r:Nat)(w0:World)(hv:aM w0 v 2 l l9):fi Tryz.prog 49 [v,.int .i64 r] w0 (.bool (ke l r)):=by
 obtain⟨a,n,c,b,o,rfl,hn,pE,E3,hc,ha,iK⟩:=hv;refine aQ Tryz.func49 rfl Tryz.ntmps49 rfl (Wd.nil dh w0) ?_;refine aO ?_;refine bP (λ(i:Nat)=>i<=n/\ke (l.take i) r=false) (λi=>[(5,.int .i64 i),(0,.slice a n c),(1,.int .i64 r)]) (λ_=>[]) (λi=>n-i) 0 ⟨aY _,by simp[ke]⟩ (aV aw aH) λi ⟨hi,cP⟩=>?_;refine aU ?_;refine aN (λh1=>?_) (λh1=>?_)
 ·have bT:i<n:=by simpa using h1
  obtain⟨x,hx⟩:=dJ hn bT;have pY:bY a b o:=⟨ha (aW hx)⟩;have mW:bZ i n:=⟨bT⟩;obtain⟨cs,fZ,rfl,_⟩:=iK i x hx;have oQ:a_ w0 b (o+i*2) _:=⟨fZ⟩;have mx:ke (l.take (i+1)) r=(x.bD&&decide (x.n=r)):=by
   rw[cj,hx];simp only[ke,List.any_append,lr,List.any_cons,List.any_nil,Bool.or_false]at cP⊢;rw[cP,Bool.false_or]
  have wQ:(x.bD&&decide (x.n=r))=true->ke l r=true:=λh=>by
   simp only[ke,oq];exact⟨x,aA hx,h⟩
  refine aO ?_;refine kF 25 (.bool (x.bD&&decide (x.n=r))) ?_ ?_
  ·generalize x.bD=g
   cases g
   ·refine iL ?_
    exact aV aw aH
   ·refine aI ?_
    exact aV aw aH
  generalize (x.bD&&decide (x.n=r))=g at mx wQ;cases g
  ·refine aO ?_
   exact bC (i+1) ⟨bT,mx⟩ ag aw aH
  ·refine aI ?_
   exact bQ rfl (by rw[wQ rfl])
 ·have gT:i=n:=by have:=h1;simp at this;omega
  refine aI ?_;refine bQ rfl ?_;rw[gT,hn,cO]at cP;rw[cP]
theorem ahJ(pv lv tv:Value)(B:ar)(E4:∃a n c,pv=.slice a n c)(Kf:∃a n c,lv=.slice a n c)(xC:∃a n c,tv=.slice a n c)(r:Nat)(w0:World)(hp:aM w0 pv 2 B.aL DN):
  fi Tryz.prog 47 [.agg #[pv,lv,.int .i64 B.kind,.bool B.on.bD,.int .i64 B.on.n,tv],.int .i64 r] w0 (.bool (B.aL.any λp=>decide (p.dst=r))):=by
 obtain⟨_,_,_,rfl⟩:=Kf;obtain⟨_,_,_,rfl⟩:=xC;obtain⟨a,n,c,b,o,rfl,hn,pE,E3,hc,ha,iK⟩:=hp;refine aQ Tryz.func47 rfl Tryz.ntmps47 rfl (Wd.nil dh w0) ?_
 repeat(first|refine aO ?_|refine dX λ_ _=>?_)
 rename_i p2 _;refine bP (λ(i:Nat)=>i<=n/\(B.aL.take i).any (λp=>decide (p.dst=r))=false) (λi=>[(5,.int .i64 i),(2,.pointer (some ⟨p2,0,none⟩)),(1,.int .i64 r)]) (λ_=>[aj p2 [.slice a n c,.slice _ _ _,.int .i64 B.kind,.bool B.on.bD,.int .i64 B.on.n,.slice _ _ _] 46]) (λi=>n-i) 0 ⟨aY _,by simp⟩ (aV aw ag2) λi ⟨hi,cP⟩=>?_;refine aU ?_;refine aN (λh1=>?_) (λh1=>?_)
 ·have bT:i<n:=by simpa using h1
  obtain⟨x,hx⟩:=dJ hn bT;have pY:bY a b o:=⟨ha (aW hx)⟩;have mW:bZ i n:=⟨bT⟩;obtain⟨cs,fZ,sv,rfl,_⟩:=iK i x hx;have oQ:a_ w0 b (o+i*2) _:=⟨fZ⟩;refine aO ?_;refine aN (λh2=>?_) (λh2=>?_)
  ·refine aI ?_
   refine bQ rfl ?_;have:(B.aL.any λp=>decide (p.dst=r))=true:=by
    rw[oq];exact⟨x,aA hx,h2⟩
   rw[this]
  ·refine aO ?_
   refine bC (i+1) ⟨bT,?_⟩ ag aw ag2;rw[cj,hx,List.any_append,cP];simpa using h2
 ·have gT:i=n:=by have:=h1;simp at this;omega
  refine aI ?_;refine bQ rfl ?_;rw[gT,hn,cO]at cP;rw[cP]
theorem ot(nm pa re:Value)(bl:List ar)(bs:Value)(t:Nat)(w0:World)(mU:aM w0 bs 6 bl ed)(hlen:bl.length<=100):
  gV Tryz.prog 19 [.agg #[nm,pa,re,bs],.int .i64 t] w0 λu w'=>∃x:Option Addr×Nat,u=.slice x.1 (bf bl t).length x.2/\Wd dh w0 [ai x.1 (bf bl t).length x.2 3 1 ((bf bl t).map ig)] w'/\True:=by
 obtain⟨ba,n,bc,bb,xH,rfl,hn,pE,E3,LY,xS,iK⟩:=mU;refine aQ Tryz.func19 rfl Tryz.ntmps19 rfl (Wd.nil dh w0) ?_
 repeat(first|refine aO ?_|refine dX λ_ _=>?_)
 rename_i p2 _;refine fq 3 1 ?_;refine bP (λ(x:Nat×Option Addr×Nat×List Nat)=>x.1<=n/\x.2.2.2=(List.range x.1).filter λi=>decide ((t:Int)∈dd bl i)) (λx=>[(6,.int .i64 x.1),(5,.slice x.2.1 x.2.2.2.length x.2.2.1),(2,.pointer (some ⟨p2,0,none⟩)),(1,.int .i64 t)])
  (λx=>[ai x.2.1 x.2.2.2.length x.2.2.1 3 1 (x.2.2.2.map ig),aj p2 [nm,pa,re,.slice ba n bc] 35]) (λx=>n-x.1) (0,none,0,[]) ⟨aY _,rfl⟩ (aV aw ag2) λx ⟨hi,hl⟩=>?_
 obtain⟨i,la,lc,l⟩:=x;simp only at hi hl⊢;have Kf:l.length<=i:=by rw[hl];have:=ja (λi=>decide ((t:Int)∈dd bl i)) (List.range i);rwa[fG]at this
 refine aU ?_;refine aN (λh1=>?_) (λh1=>?_)
 ·have bT:i<n:=by simpa using h1
  obtain⟨B,hB⟩:=dJ hn bT;have pY:bY ba bb xH:=⟨xS (aW hB)⟩;have mW:bZ i n:=⟨bT⟩;obtain⟨cs,fZ,pv,lv,tv,rfl,_,_,_,_,ht⟩:=iK i B hB;have Kt:=ht;obtain⟨ta,tn,tc,_,_,rfl,_⟩:=ht;have oQ:a_ w0 bb (xH+i*6) _:=⟨fZ⟩;have AR:(List.range (i+1)).filter (λi=>decide ((t:Int)∈dd bl i))=l++if (t:Int)∈B.to then[i]else[]:=by
   rw[kA,nI,<-hl];congr 1
   by_cases h:(t:Int)∈B.to<;>simp[fR hB,h]
  refine aO ?_;refine bI rfl (λw hw=>ag3 _ B.to t w (Kt.cu eK hw.cE)) ?_
  by_cases h:(t:Int)∈B.to
  ·rw[decide_eq_true h]
   rw[if_pos h]at AR
   repeat(first|refine aO ?_|refine dX λ_ _=>?_)
   refine mq rfl rfl ag ag λa' c'=>?_;rw[show l.map ig++[.int .i64 (i:Int)]=(l++[i]).map ig by simp[ig],show l.length+1=(l++[i]).length by simp];refine aO ?_;exact bC (i+1,a',c',l++[i]) ⟨bT,AR.symm⟩ (by simp only;omega) aw ap
  ·rw[decide_eq_false h]
   rw[if_neg h,cq]at AR;refine aO ?_;exact bC (i+1,la,lc,l) ⟨bT,AR.symm⟩ (by simp only;omega) aw ag2
 ·have gT:i=n:=by have:=h1;simp at this;omega
  refine aI ?_;have hp:l=bf bl t:=by rw[hl,gT,hn];rfl
  exact cA rfl λw hw=>⟨(la,lc),by rw[hp],by rw[<-hp];exact hw.Zv [0] (by decide),trivial⟩
theorem ah8(x:en)(va:Option Addr)(vn vc:Nat)(w0:World)(hv:aM w0 (.slice va vn vc) 2 x.args l9)(hlen:x.args.length<=1000):
  gV Tryz.prog 50 [.agg #[.int .i64 x.op,.int .i64 x.dst,.bool x.a.bD,.int .i64 x.a.n,.bool x.b.bD,.int .i64 x.b.n,.int .i64 x.fn,.slice va vn vc]] w0 λu w'=>∃y:Option Addr×Nat×Nat,u=.slice y.1 (gI x).length y.2.1/\Wd dh w0 [ai y.1 (gI x).length y.2.1 y.2.2 2 ((gI x).flatMap ahP)] w'/\True:=by
 have E7:vn=x.args.length:=by
  obtain⟨_,_,_,_,_,e,h,_⟩:=hv;simp only[Value.slice.injEq]at e;rw[e.2.1];exact h
 refine aQ Tryz.func50 rfl Tryz.ntmps50 rfl (Wd.nil dh w0) ?_
 repeat(first|refine aO ?_|refine dX λ_ _=>?_)
 unfold gI;refine aN (λh1=>?_) (λh1=>?_)
 ·have e1:x.op=21:=by simpa using h1
  rw[if_pos e1];refine aO ?_;refine fq 0 2 ?_;exact cA rfl λw hw=>⟨(none,0,0),rfl,hw.Zv [0] (by decide),trivial⟩
 have e1:¬x.op=21:=by simpa using h1
 rw[if_neg e1];refine aU ?_;refine aN (λh2=>?_) (λh2=>?_)
 ·have e2:x.op=20:=by simpa using h2
  rw[if_pos e2];refine aU ?_;refine fq 41 2 ?_;refine kR rfl rfl x.args ahP (λ_ _ _ h=>h.1) (λ_=>rfl) (λ_ u hu=>by simp only[ahP,bJ,iI,or_false]at hu;rcases hu with rfl|rfl<;>rfl) (λw hw=>hv.cu rm hw.cE) ag ag λa' c'=>?_;rw[aT,dM,E7];refine aO ?_;exact cA rfl λw hw=>⟨(a',c',_),rfl,hw.Zv [0] (by decide),trivial⟩
 have e2:¬x.op=20:=by simpa using h2
 rw[if_neg e2];refine aU ?_;refine kF 29 (.bool ((decide (2<=x.op)&&decide (x.op<=15))||decide (x.op=19))) ?_ ?_
 ·generalize decide (2<=x.op)=q1
  cases q1
  ·refine iL ?_
   exact aV aw ag2
  ·refine aI ?_
   generalize decide (x.op<=15)=q2;cases q2
   ·refine aI ?_
    exact aV aw ag2
   ·refine iL ?_
    exact aV aw ag2
 generalize hq:((decide (2<=x.op)&&decide (x.op<=15))||decide (x.op=19))=q;cases q
 ·have e3:¬((2<=x.op/\x.op<=15)∨x.op=19):=λh=>by
   have:((decide (2<=x.op)&&decide (x.op<=15))||decide (x.op=19))=true:=by simpa using h
   rw[hq]at this;cases this
  rw[if_neg e3];refine aO ?_;refine kF 45 (.bool (decide (1<=x.op)&&decide (x.op<=22))) ?_ ?_
  ·generalize decide (1<=x.op)=q1
   cases q1
   ·refine iL ?_
    exact aV aw ag2
   ·refine aI ?_
    exact aV aw ag2
  generalize Ct:(decide (1<=x.op)&&decide (x.op<=22))=q;cases q
  ·rw[if_neg (λh=>by
    have:(decide (1<=x.op)&&decide (x.op<=22))=true:=by simpa using h
    rw[Ct]at this;cases this)]
   refine aO ?_;refine fq 0 2 ?_;exact cA rfl λw hw=>⟨(none,0,0),rfl,hw.Zv [0] (by decide),trivial⟩
  ·rw[if_pos (by simpa using Ct)]
   repeat(first|refine aO ?_|refine dX λ_ _=>?_)
   refine fq 41 2 ?_;refine mq rfl rfl ag ag λa' c'=>?_;refine aO ?_;exact cA rfl λw hw=>⟨(a',c',_),rfl,hw.Zv [0] (by decide),trivial⟩
 ·rw[if_pos (by simpa using hq)]
  refine aO ?_;refine ahV rfl rfl λbt _=>?_;simp only[a6,aT];refine fq 41 2 ?_;refine mq rfl rfl ag ag λa' c'=>?_;refine aO ?_;exact cA rfl λw hw=>⟨(a',c',_),rfl,hw.Zv [0] (by decide),trivial⟩
end
section
open Go Go.RowKit
attribute [local irreducible] wpListIn Code.wpIn Exit.then Exit.inBlock bodyPost wpQuiet wpAnyIn bodyPostM
set_option maxHeartbeats 8000000
def qz(rs:List jC):Nat:=(rs.map λr=>gu r.l).sum
theorem GU{rs:List jC}{b:Nat}{r r':jC}(h:rs[b]?=some r):qz (rs.set b r')+gu r.l=qz rs+gu r'.l:=by
 unfold qz
 induction rs generalizing b with
 |nil=>simp at h
 |cons x rs ih=>
  cases b with
  |zero=>
   simp only[jJ,bW]at h;subst h;simp only[bS,bO,et,aE];omega
  |succ b=>
   have:=ih (by simpa using h);simp only[cn,bO,et,aE]at this⊢;omega
theorem zh:∀{l m:List Bool},l.length=m.length->(∀r,has l r->has m r)->l≠m->gu m<gu l
 |[],[],_,_,h=>absurd rfl h
 |[],_::_,h,_,_=>by simp at h
 |_::_,[],h,_,_=>by simp at h
 |x::l,y::m,h,hs,eH=>by
  have hl:l.length=m.length:=by simpa using h
  have ht:∀r,has l r->has m r:=λr hr=>by have:=hs (r+1);simpa[has]using this (by simpa[has]using hr)
  have h0:=hs 0;simp only[has,jJ,bW]at h0
  by_cases e:l=m
  ·subst e
   cases x<;>cases y<;>simp_all [gu]
  ·have:=zh hl ht e
   cases x<;>cases y<;>simp_all [gu]<;>omega
structure Ab(R:Nat)(bl:List ar)(rs:List jC):Prop where
 len:rs.length=bl.length
 row:∀r∈rs,r.l.length=R
 pre:∀b r,n_ (rs.map (·.l)) b r->Head bl (n_ (rs.map (·.l))) b r
 sound:∀b r,n_ (rs.map (·.l)) b r->gM bl r b (-1)
theorem A_{rs:List jC}{b r:Nat}{q:jC}(h:rs[b]?=some q):n_ (rs.map (·.l)) b r↔has q.l r:=by
 unfold n_;rw[aK,h];simp
theorem Ba{rs:List jC}{b t r:Nat}{q:jC}(hb:b<rs.length):n_ ((rs.set b q).map (·.l)) t r↔(if t=b then has q.l r else n_ (rs.map (·.l)) t r):=by
 unfold n_;rw[aK,dQ]
 by_cases e:b=t
 ·subst e
  rw[if_pos rfl,if_pos hb,if_pos rfl];simp
 ·rw[if_neg e,if_neg (Ne.symm e),aK]
theorem Ab.upd{R:Nat}{bl:List ar}{rs:List jC}{b:Nat}{q:jC}(h:Ab R bl rs)(hb:b<rs.length)(hq:q.l.length=R)(hh:∀r,has q.l r↔Head bl (n_ (rs.map (·.l))) b r):Ab R bl (rs.set b q):=by
 have up:∀t r,n_ (rs.map (·.l)) t r->n_ ((rs.set b q).map (·.l)) t r:=λt r hr=>by
  rw[Ba hb]
  by_cases e:t=b
  ·subst e
   rw[if_pos rfl,hh r];exact h.pre t r hr
  ·rw[if_neg e];exact hr
 refine⟨by rw[eA];exact h.len,λr hr=>?_,λt r hr=>?_,λt r hr=>?_⟩
 ·rcases jM hr with hr|rfl
  ·exact h.row r hr
  ·exact hq
 ·rw[Ba hb]at hr
  by_cases e:t=b
  ·subst e
   rw[if_pos rfl,hh r]at hr;exact hr.mono up
  ·rw[if_neg e]at hr
   exact(h.pre t r hr).mono up
 ·rw[Ba hb]at hr
  by_cases e:t=b
  ·subst e
   rw[if_pos rfl,hh r]at hr;exact L4 h.sound hr
  ·rw[if_neg e]at hr
   exact h.sound t r hr
structure Sf(R:Nat)(bl:List ar)(ins outs:List jC):Prop where
 abX:ins.length=bl.length
 YI:outs.length=bl.length
 VT:∀r∈ins,r.l.length=R
 aeJ:∀r∈outs,r.l.length=R
 aeG:∀b q r,ins[b]?=some q->(has q.l r↔gM bl r b (-1))
 ae7:∀b q r B,outs[b]?=some q->bl[b]?=some B->(has q.l r↔gM bl r b (B.list.length+1))
theorem Sr{R:Nat}{bl:List ar}{ins outs:List jC}(h:Ab R bl ins)(ho:outs.length=bl.length)(XM:∀r∈outs,r.l.length=R)(hc:∀b,b<bl.length->∀r,Head bl (n_ (ins.map (·.l))) b r->n_ (ins.map (·.l)) b r)(hb:∀b q r,outs[b]?=some q->(has q.l r↔Fc bl (n_ (ins.map (·.l))) b r)):Sf R bl ins outs:=by
 have fv:∀r b,Head bl (n_ (ins.map (·.l))) b r->n_ (ins.map (·.l)) b r:=λr b hh=>by
  obtain⟨B,hB,_⟩:=id hh;exact hc b (aC.1 hB).1 r hh
 refine⟨h.len,ho,h.row,XM,λb q r hq=>?_,λb q r B hq hB=>?_⟩
 ·rw[<-A_ hq]
  refine⟨h.sound b r,λhl=>?_⟩;obtain⟨B,hB⟩:∃B,bl[b]?=some B:=⟨_,aB (by have:=(aC.1 hq).1;rw[<-h.len];exact this)⟩;exact(y9 (λb=>fv r b) hl B hB).1 rfl
 ·rw[hb b q r hq]
  refine⟨λhh=>Fq h.sound hB (.inr rfl) hh,λhl=>?_⟩;exact(y9 (λb=>fv r b) hl B hB).2.2 rfl
theorem nu{N:Nat}{ds:List Deferred}{S:Nat->Prop}{w0:World}{L:List (Nat×Value)}{H H':List bN}{p:Act->World->Prop}(h:∀w,Wd S w0 H w->Wd S w0 H' w)(k:G N ds S w0 L H' p):G N ds S w0 L H p:=λa w hS=>k a w ⟨hS.fr,h w hS.wd⟩
theorem QV{α:Type}(m r:α)(X O M:List α):(m::r::(X++(O++M))).Perm (X++((O++[r])++(m::M))):=by
 have h1:X++((O++[r])++(m::M))=(X++O)++r::(m::M):=by simp[dE]
 rw[h1,<-dE];exact(List.Perm.swap _ _ _).trans (((lm (l₁:=X++O) (a:=m) (l₂:=M)).symm.cons r).trans (lm (l₁:=X++O) (a:=r) (l₂:=m::M)).symm)
theorem YW{S:Nat->Prop}{w0 w:World}{e ev:bN}{X I Y:List bN}{b:Nat}(h:Wd S w0 (e::(X++(I++Y))) w)(hb:I[b]?=some ev):Wd S w0 (X++(I.set b e++Y)) w:=by
 have h1:Wd S w0 (e::(X++(I.eraseIdx b++Y))) w:=h.sub (dn (Ag (List.Sublist.append_right (List.eraseIdx_sublist I b) Y) X));refine h1.perm ((lm (l₁:=X) (a:=e) (l₂:=I.eraseIdx b++Y)).symm.trans ?_);exact List.Perm.append_left X (List.Perm.append_right Y (Bw hb e))
theorem Sq(nm pa:Value)(R:Nat)(hR:R<=100)(bl:List ar)(bs:Value)(w0:World)(mU:aM w0 bs 6 bl ed)(hlen:bl.length<=100)(hf:eX R bl)(tk:∀B∈bl,∀x∈B.list,x.args.length<=1000)(mX:∀B∈bl,B.list.length<=1000/\B.aL.length<=1000):
  gV Tryz.prog 99 [.agg #[nm,pa,.int .i64 R,bs]] w0 λu w'=>∃x:(Option Addr×Nat×List jC)×(Option Addr×Nat×List jC),u=.tuple #[.slice x.1.1 bl.length x.1.2.1,.slice x.2.1 bl.length x.2.2.1]/\
   Wd dh w0 (ai x.1.1 bl.length x.1.2.1 145 1 (x.1.2.2.map (gJ R))::ai x.2.1 bl.length x.2.2.1 145 1 (x.2.2.2.map (gJ R))::(x.1.2.2.map (ir R)++x.2.2.2.map (ir R))) w'/\Sf R bl x.1.2.2 x.2.2.2:=by
 have IA:=mU;have cW:=hf.iM;obtain⟨ba,n,bc,bb,xH,rfl,hn,pE,E3,LY,xS,iK⟩:=mU;rw[<-hn]at hlen⊢;refine vW Tryz.func99 rfl Tryz.ntmps99 rfl (Wd.nil dh w0) ?_
 repeat(first|refine aU ?_|refine dX λ_ _=>?_)
 rename_i p1 _;refine cV (val:=λx:(Option Addr×Nat×Nat)×(Nat->Prop)=>.slice x.1.1 x.1.2.1 x.1.2.2) (E:=λx=>[⟨x.2,λw=>aM w (.slice x.1.1 x.1.2.1 x.1.2.2) 1 (bm bl) cS⟩]) (φ:=λ_=>True) rfl (λw hw=>fO _ _ _ bl _ w (IA.cu fh hw.cE) ag cW) λx _=>?_;obtain⟨⟨aa,an,ac⟩,fp⟩:=x;simp only[a6,aT];refine aO ?_;refine fq 145 1 ?_;refine bP (λ(x:Option Addr×Nat×List jC)=>x.2.2.length<=n/\∀r∈x.2.2,r.l=List.replicate R false) (λx=>[(17,.int .i64 x.2.2.length),(16,.int .i64 n),(2,.slice x.1 x.2.2.length x.2.1),(3,.slice none 0 0),(4,.slice aa an ac),(1,.pointer (some ⟨p1,0,none⟩))])
  (λx=>⟨fp,λw=>aM w (.slice aa an ac) 1 (bm bl) cS⟩::aj p1 [nm,pa,.int .i64 R,.slice ba n bc] 35::ai x.1 x.2.2.length x.2.1 145 1 (x.2.2.map (gJ R))::x.2.2.map (ir R)) (λx=>n-x.2.2.length) (none,0,[]) ⟨aY _,by simp⟩ ?_ λx ⟨hi,cP⟩=>?_
 ·refine q7 [1,2,0] (by decide) ?_
  exact aV aw ag2
 obtain⟨ia,ic,ins⟩:=x;simp only at hi cP⊢;refine aU ?_;refine aN (λh1=>?_) (λh1=>?_)
 ·have bT:ins.length<n:=by simpa using h1
  repeat(first|refine aO ?_|refine dX λ_ _=>?_)
  rename_i pr _ bt _;refine mq rfl rfl ag ag λa' c'=>?_;rw[show List.replicate R (Value.bool false)=(List.replicate R false).map Value.bool by simp];refine jp (L':=[(24,.slice a' (ins.length+1) c'),(17,.int .i64 ins.length),(16,.int .i64 n),(3,.slice none 0 0),(4,.slice aa an ac),(1,.pointer (some ⟨p1,0,none⟩))]) aw (.cons _ (.refl _)) ?_;refine bj (List.perm_append_singleton _ _).symm ?_;refine fg (H1:=⟨fp,λw=>aM w (.slice aa an ac) 1 (bm bl) cS⟩::aj p1 [nm,pa,.int .i64 R,.slice ba n bc] 35::ai a' (ins++[(⟨some ⟨pr,0,none⟩,R,List.replicate R false⟩:jC)]).length c' 145 1 ((ins++[(⟨some ⟨pr,0,none⟩,R,List.replicate R false⟩:jC)]).map (gJ R))::(ins++[(⟨some ⟨pr,0,none⟩,R,List.replicate R false⟩:jC)]).map (ir R)) (by simp[gJ,ir,iF]) ?_;refine aO ?_;refine bC (a',c',ins++[(⟨some ⟨pr,0,none⟩,R,List.replicate R false⟩:jC)]) ⟨by simp;omega,λr hr=>?_⟩ (by simp;omega) ?_ ag2
  ·rcases bL.1 hr with hr|hr
   ·exact cP r hr
   ·simp only[bU]at hr;subst hr;rfl
  ·simp only[bR,jL,Int.natCast_add]
   exact aw
 have gT:ins.length=n:=by have:=h1;simp at this;omega
 have hL0:Ab R bl ins:=by
  have qu:∀b r,¬n_ (ins.map (·.l)) b r:=λb r ⟨s,hs,h⟩=>by
   rw[aK]at hs;obtain⟨q,hq,rfl⟩:=cT.1 hs;rw[cP q (aA hq)]at h;unfold has at h;rw[h_]at h
   split at h<;>simp at h
  exact⟨ag,λr hr=>by rw[cP r hr];simp,λb r h=>absurd h (qu b r),λb r h=>absurd h (qu b r)⟩
 rw[gT];refine aI ?_;refine fq 145 1 ?_;clear cP;refine J2 (λx:Bool×List jC×(Option Addr×Nat×List jC)×List Nat=>SA x.2.2.2) (λx=>Ab R bl x.2.1/\(x.1=false->Sf R bl x.2.1 x.2.2.1.2.2)) (λx=>[(5,.bool x.1),(2,.slice ia n ic),(3,.slice x.2.2.1.1 x.2.2.1.2.2.length x.2.2.1.2.1),(4,.slice aa an ac),(1,.pointer (some ⟨p1,0,none⟩))])
  (λx=>⟨fp,λw=>aM w (.slice aa an ac) 1 (bm bl) cS⟩::aj p1 [nm,pa,.int .i64 R,.slice ba n bc] 35::ai ia n ic 145 1 (x.2.1.map (gJ R))::ai x.2.2.1.1 x.2.2.1.2.2.length x.2.2.1.2.1 145 1 (x.2.2.1.2.2.map (gJ R))::(x.2.1.map (ir R)++(x.2.2.1.2.2.map (ir R)++marks x.2.2.2))) (λx=>qz x.2.1*2+(if x.1 then 1 else 0)) (true,ins,(none,0,[]),[]) rfl ⟨hL0,by simp⟩ ?_ λx ⟨hL,hA⟩=>?_
 ·refine bj (H1:=⟨fp,λw=>aM w (.slice aa an ac) 1 (bm bl) cS⟩::aj p1 [nm,pa,.int .i64 R,.slice ba n bc] 35::ai ia n ic 145 1 (ins.map (gJ R))::ai none 0 0 145 1 []::ins.map (ir R)) ?_ ?_
  ·exact(lm (l₁:=[⟨fp,λw=>aM w (.slice aa an ac) 1 (bm bl) cS⟩,aj p1 [nm,pa,.int .i64 R,.slice ba n bc] 35,ai ia n ic 145 1 (ins.map (gJ R))]) (a:=ai none 0 0 145 1 []) (l₂:=ins.map (ir R))).symm
  ·exact aV aw (by simp[marks])
 clear hL0 gT hi h1;obtain⟨more,ins,⟨oa,oc,outs⟩,Ds⟩:=x;simp only at hL hA⊢;cases more
 case false=>
  have hA:=hA rfl;have Gp:outs.length=n:=by rw[hA.YI,hn]
  refine aI ?_;refine fg (H1:=(⟨fp,λw=>aM w (.slice aa an ac) 1 (bm bl) cS⟩::aj p1 [nm,pa,.int .i64 R,.slice ba n bc] 35::ai ia n ic 145 1 (ins.map (gJ R))::ai oa outs.length oc 145 1 (outs.map (gJ R))::(ins.map (ir R)++outs.map (ir R)))++marks Ds) (by simp[dE]) ?_;refine bj dH ?_;refine Oq rfl λw hw=>⟨((ia,ic,ins),(oa,oc,outs)),?_,?_,hA⟩
  ·rw[Gp]
  ·rw[Gp]at hw
   exact hw.sub (.cons _ (.cons _ (.refl _)))
 clear hA;refine aO ?_;refine fq 145 1 ?_;refine J2 (λx:Bool×List jC×(Option Addr×Nat×List jC)×List Nat=>SA x.2.2.2) (λx=>x.2.2.1.2.2.length<=n/\Ab R bl x.2.1/\(∀r∈x.2.2.1.2.2,r.l.length=R)/\(x.1=false->x.2.1=ins/\(∀b,b<x.2.2.1.2.2.length->∀r,Head bl (n_ (ins.map (·.l))) b r->n_ (ins.map (·.l)) b r)/\∀b q r,x.2.2.1.2.2[b]?=some q->(has q.l r↔Fc bl (n_ (ins.map (·.l))) b r))/\(x.1=true->qz x.2.1<qz ins))
  (λx=>[(30,.int .i64 x.2.2.1.2.2.length),(29,.int .i64 n),(5,.bool x.1),(2,.slice ia n ic),(3,.slice x.2.2.1.1 x.2.2.1.2.2.length x.2.2.1.2.1),(4,.slice aa an ac),(1,.pointer (some ⟨p1,0,none⟩))])
  (λx=>⟨fp,λw=>aM w (.slice aa an ac) 1 (bm bl) cS⟩::aj p1 [nm,pa,.int .i64 R,.slice ba n bc] 35::ai ia n ic 145 1 (x.2.1.map (gJ R))::ai x.2.2.1.1 x.2.2.1.2.2.length x.2.2.1.2.1 145 1 (x.2.2.1.2.2.map (gJ R))::(x.2.1.map (ir R)++(x.2.2.1.2.2.map (ir R)++marks x.2.2.2))) (λx=>n-x.2.2.1.2.2.length) (false,ins,(none,0,[]),Ds) rfl ⟨aY _,hL,by simp,λ_=>⟨rfl,by simp,by simp⟩,by simp⟩ ?_ λx ⟨xA,RX,XM,qu,Mj⟩=>?_
 ·refine bj (H1:=⟨fp,λw=>aM w (.slice aa an ac) 1 (bm bl) cS⟩::aj p1 [nm,pa,.int .i64 R,.slice ba n bc] 35::ai ia n ic 145 1 (ins.map (gJ R))::ai none 0 0 145 1 []::ai oa outs.length oc 145 1 (outs.map (gJ R))::(ins.map (ir R)++(outs.map (ir R)++marks Ds))) ?_ ?_
  ·exact(lm (l₁:=[⟨fp,λw=>aM w (.slice aa an ac) 1 (bm bl) cS⟩,aj p1 [nm,pa,.int .i64 R,.slice ba n bc] 35,ai ia n ic 145 1 (ins.map (gJ R))]) (a:=ai none 0 0 145 1 [])).symm
  ·refine aV aw ?_
   exact List.Sublist.cons_cons _ (dn (dn (dn (.cons _ (Ag (qV _ _) _)))))
 obtain⟨vj,lh,⟨oa,oc,fP⟩,Ds⟩:=x;simp only at xA RX XM qu Mj⊢;refine aU ?_;refine aN (λh2=>?_) (λh2=>?_)
 case refine_2=>
  have L6:fP.length=n:=by have:=h2;simp at this;omega
  refine aI ?_;refine Ea (vj,lh,(oa,oc,fP),Ds) rfl ⟨RX,λe=>?_⟩ ?_ aw ag2
  ·obtain⟨e1,e2,e3⟩:=qu e
   subst e1;refine Sr RX ?_ XM (λb hb r h=>e2 b ag r h) e3;show fP.length=bl.length;omega
  ·cases vj
   ·obtain⟨e1,_⟩:=qu rfl
    subst e1;simp
   ·have:=Mj rfl
    simp;omega
 have pC:fP.length<n:=by simpa using h2
 generalize J9:fP.length=b at pC h2;refine aO ?_;obtain⟨B,hB⟩:=dJ hn pC;have hBL:b<bl.length:=ag;have pY:bY ba bb xH:=⟨xS (aW hB)⟩;have mW:bZ b n:=⟨pC⟩;obtain⟨cs,fZ,pv',lv,tv,rfl,_,_,oE,Tn,ht⟩:=iK b B hB;obtain⟨xa,xn,xc,xb,xo,rfl,Ym,Yo,Yn,hxc,Kv,PO⟩:=oE;obtain⟨la,ln,lc,lb,lo,rfl,Ma,adL,Pg,hlc,Tk,Pd⟩:=Tn;obtain⟨ta,tn,tc,_,_,rfl,_⟩:=ht;have oQ:a_ w0 bb (xH+b*6) _:=⟨fZ⟩;have Z9:=hf.block b B hB;have iQ:lh.length=n:=by rw[RX.len,hn]
 obtain⟨q0,NC⟩:∃q0,lh[b]?=some q0:=⟨_,aB ag⟩;refine cV (val:=λx:Nat×List Bool=>.slice (some ⟨x.1,0,none⟩) R R) (E:=λx=>[iF (some ⟨x.1,0,none⟩) R R x.2]) (φ:=λx=>x.2.length=R/\∀r,has x.2 r↔Fc bl (n_ (lh.map (·.l))) b r) rfl
  (λw hw=>HR nm pa R hR bl _ b (lh.map (·.l)) aa ia an ac ic w (IA.cu fh hw.cE) n hn hf hBL (by rw[aG,iQ,hn]) (λs hs=>by obtain⟨q,hq,rfl⟩:=aX.1 hs;exact RX.row q hq) (hw.get (k:=0) rfl) (KX (e:=145) (H:=fP.map (ir R)++marks Ds) (hw.sub (.cons _ (.cons _ (dn (.cons _ (.refl _)))))) iQ.symm ag ag RX.row)) λx hx=>?_
 obtain⟨po,s0⟩:=x;simp only[a6,aT]at hx⊢;unfold iF
 repeat(first|refine dX λ_ _=>?_)
 rename_i bt _;refine mq rfl rfl ag ag λoa' Dr=>?_;refine aO ?_;refine eW 5 rfl ag λob oo hoa=>?_;subst hoa;refine eW 4 rfl ag λib io R1=>?_;subst R1;have PP:NX (fP.map (gJ R)++[.slice (some ⟨po,0,none⟩) R R]) (b*1) (.slice (some ⟨po,0,none⟩) R R):=⟨by rw[fB,dg (by simp;omega)];simp[J9]⟩;have afX:bZ b (b+1):=⟨ag⟩;refine aU ?_;refine cV (val:=λx:Option Addr×Nat=>.slice x.1 R x.2) (E:=λx=>[iF x.1 R x.2 s0]) (φ:=λ_=>True) rfl (λw hw=>N8 _ R R s0 ag w (Ft hw (k:=1) rfl hx.1.symm ag)) λx _=>?_;obtain⟨ca,cc⟩:=x;simp only[a6,aT]
 repeat(first|refine aI ?_|refine dX λ_ _=>?_)
 rename_i p7 _;refine wM [(7,.pointer (some ⟨p7,0,none⟩)),(6,.int .i64 b),(30,.int .i64 b),(29,.int .i64 n),(5,.bool vj),(2,.slice (some ⟨ib,io,none⟩) n ic),(3,.slice (some ⟨ob,oo,none⟩) (b+1) Dr),(4,.slice aa an ac),(1,.pointer (some ⟨p1,0,none⟩))] (iF ca R cc (kM s0 B.on)::aj p7 [.slice ca R cc] 145::ai (some ⟨bt,0,none⟩) 1 1 145 1 [.slice (some ⟨po,0,none⟩) R R]::ai (some ⟨po,0,none⟩) R R 4 1 (s0.map .bool)::⟨fp,λw=>aM w (.slice aa an ac) 1 (bm bl) cS⟩::aj p1 [nm,pa,.int .i64 R,.slice ba n bc] 35::(ai (some ⟨ib,io,none⟩) n ic 145 1 (lh.map (gJ R))::ai (some ⟨ob,oo,none⟩) (b+1) Dr 145 1 (fP.map (gJ R)++[.slice (some ⟨po,0,none⟩) R R])::(lh.map (ir R)++(fP.map (ir R)++marks Ds)))) mixed ?_ ?_
 ·repeat' (first|refine fA 1 rfl aq ?_|refine fA 3 rfl aq ?_|refine fA 4 rfl aq ?_|refine fA 5 rfl aq ?_|refine fA 6 rfl aq ?_|refine AB aq ?_|refine any_nil|refine pt aq ?_|refine any_cons ?_ ?_|refine ms rfl ?_|refine k9 ?_|refine oD ?_)
  all_goals
   refine bj (List.Perm.swap _ _ _) ?_;refine fg (H1:=[iF ca R cc s0]++(aj p7 [.slice ca R cc] 145::ai (some ⟨bt,0,none⟩) 1 1 145 1 [.slice (some ⟨po,0,none⟩) R R]::ai (some ⟨po,0,none⟩) R R 4 1 (s0.map .bool)::⟨fp,λw=>aM w (.slice aa an ac) 1 (bm bl) cS⟩::aj p1 [nm,pa,.int .i64 R,.slice ba n bc] 35::(ai (some ⟨ib,io,none⟩) n ic 145 1 (lh.map (gJ R))::ai (some ⟨ob,oo,none⟩) (b+1) Dr 145 1 (fP.map (gJ R)++[.slice (some ⟨po,0,none⟩) R R])::(lh.map (ir R)++(fP.map (ir R)++marks Ds))))) rfl ?_;refine fH (val:=λ_:Unit=>.tuple #[]) (E:=λ_=>[iF ca R cc (kM s0 B.on)]) (φ:=λ_=>True) rfl (λw hw=>JG ca R cc s0 hx.1 B.on Z9.on w hw.pre) λ_ _=>?_;simp only[a6,aT]
   repeat' (first|refine AC aq ?_|refine k9 ?_|refine oD ?_)
   exact aV aw ag2
 generalize Gu:kM s0 B.on=s1;have Tz:s1.length=R:=by rw[<-Gu,mF];exact hx.1
 refine aU ?_;refine cV (val:=λp:Nat×Nat=>.func (.func 165) #[] #[.pointer (some ⟨p.1,0,none⟩)]) (E:=λp=>[aj p.1 [.slice la ln lc] p.2]) (φ:=λ_=>True) rfl (λw hw=>Fo _ ⟨_,_,_,rfl⟩ w) λBp _=>?_;obtain⟨Bs,Bt⟩:=Bp;simp only[a6,aT];refine aO ?_;obtain⟨zs,xs,IS,h8,mM,oZ,hzc⟩:=TO (R:=R) (wz:=w0) Z9.list (tk B (aA hB)) Pd;have aaM:∀s,xs.foldl (λs y=>uQ s y.1.2.1) s=B.list.reverse.foldl uQ s:=λs=>by rw[<-oZ,List.foldl_map]
 refine jp (L':=[(61,.func (.func 165) #[] #[.pointer (some ⟨Bs,0,none⟩)]),(7,.pointer (some ⟨p7,0,none⟩)),(6,.int .i64 b),(30,.int .i64 b),(29,.int .i64 n),(5,.bool vj),(2,.slice (some ⟨ib,io,none⟩) n ic),(3,.slice (some ⟨ob,oo,none⟩) (b+1) Dr),(4,.slice aa an ac),(1,.pointer (some ⟨p1,0,none⟩))]) aw (.refl _) ?_;refine bj (List.Perm.swap _ _ _) ?_;refine Oo (α:=qU R w0) (gf:=165) (lb:=[.pointer (some ⟨Bs,0,none⟩)]) (aj Bs [.slice la ln lc] Bt::aj p7 [.slice ca R cc] 145::ai (some ⟨bt,0,none⟩) 1 1 145 1 [.slice (some ⟨po,0,none⟩) R R]::ai (some ⟨po,0,none⟩) R R 4 1 (s0.map .bool)::⟨fp,λw=>aM w (.slice aa an ac) 1 (bm bl) cS⟩::aj p1 [nm,pa,.int .i64 R,.slice ba n bc] 35::(ai (some ⟨ib,io,none⟩) n ic 145 1 (lh.map (gJ R))::ai (some ⟨ob,oo,none⟩) (b+1) Dr 145 1 (fP.map (gJ R)++[.slice (some ⟨po,0,none⟩) R R])::(lh.map (ir R)++(fP.map (ir R)++marks Ds)))) (λs:List Bool=>[iF ca R cc s]) s1 (λs=>⟨by intro e he;simp only[bU]at he;subst he;unfold iF;infer_instance⟩) (λs s' b ⟨e,he,hb⟩=>⟨iF ca R cc s',by simp,by simp only[bU]at he;subst he;exact hb⟩) xs
  (encs:=λy=>#[.int .i64 (qU.enc y).1,.agg (qU.enc y).2.toArray]) (Bs:=Bs) (bcs:=[.slice la ln lc]) (bt:=Bt) (rS ..)
  (λw1 mz=>?_) (λpre s=>s=pre.foldl (λs y=>uQ s y.1.2.1) s1) rfl (.refl _) (λ_=>rfl) (λy=>zD y.1.2.1 y.1.2.2) 56
  (λy=>[(63,.agg (zD y.1.2.1 y.1.2.2).toArray),(62,.int .i64 y.1.1),(7,.pointer (some ⟨p7,0,none⟩)),(6,.int .i64 b),(30,.int .i64 b),(29,.int .i64 n),(5,.bool vj),(2,.slice (some ⟨ib,io,none⟩) n ic),(3,.slice (some ⟨ob,oo,none⟩) (b+1) Dr),(4,.slice aa an ac),(1,.pointer (some ⟨p1,0,none⟩))]) (λy q=>[(9,.pointer (some ⟨q,0,none⟩)),(7,.pointer (some ⟨p7,0,none⟩)),(6,.int .i64 b),(30,.int .i64 b),(29,.int .i64 n),(5,.bool vj),(2,.slice (some ⟨ib,io,none⟩) n ic),(3,.slice (some ⟨ob,oo,none⟩) (b+1) Dr),(4,.slice aa an ac),(1,.pointer (some ⟨p1,0,none⟩))]) (λy a h=>?_) (λl y s R'=>?_) (λl pre y s q RR hI bT=>?_) λD s2 hD hI=>?_
 ·have Kk:∀b',cF ([iF ca R cc s1]++(aj Bs [.slice la ln lc] Bt::aj p7 [.slice ca R cc] 145::ai (some ⟨bt,0,none⟩) 1 1 145 1 [.slice (some ⟨po,0,none⟩) R R]::ai (some ⟨po,0,none⟩) R R 4 1 (s0.map .bool)::⟨fp,λw=>aM w (.slice aa an ac) 1 (bm bl) cS⟩::aj p1 [nm,pa,.int .i64 R,.slice ba n bc] 35::(ai (some ⟨ib,io,none⟩) n ic 145 1 (lh.map (gJ R))::ai (some ⟨ob,oo,none⟩) (b+1) Dr 145 1 (fP.map (gJ R)++[.slice (some ⟨po,0,none⟩) R R])::(lh.map (ir R)++(fP.map (ir R)++marks Ds))))) b'->w0.heap.size<=b':=λb' ⟨e,he,mL⟩=>(mz.own e he b' mL).1.elim (λh=>h.elim) id
  exact DS (R:=R) (wz:=w0) (b:=lb) (o:=lo) ag (λeH=>Tk (λe=>eH (by rw[e]at IS;exact kN IS))) (by have:=(mX B (aA hB)).1;omega) h8 hzc (λp v hp h=>by have:=Kk _ h.1;have:=World.block_lt_of_cell? w0 p hp;omega) (λh=>h.2 rfl) (λp v hp=>fU mz.cE hp) (mz.gW Bs 0 _ rfl) mM
 ·have h2:=((h.to (L':=[(7,.pointer (some ⟨p7,0,none⟩)),(6,.int .i64 b),(30,.int .i64 b),(29,.int .i64 n),(5,.bool vj),(2,.slice (some ⟨ib,io,none⟩) n ic),(3,.slice (some ⟨ob,oo,none⟩) (b+1) Dr),(4,.slice aa an ac),(1,.pointer (some ⟨p1,0,none⟩))]) aw).dP (d:=62) rfl (.int .i64 y.1.1)).dP (d:=63) rfl (.agg (zD y.1.2.1 y.1.2.2).toArray)
  have e:(#[62,63].zip #[Value.int .i64 (qU.enc y).1,.agg (qU.enc y).2.toArray]).foldl (λ(t:Array Value) (q:Tmp×Value)=>t.setIfInBounds q.1 q.2) a.tmps=(a.tmps.setIfInBounds 62 (.int .i64 y.1.1)).setIfInBounds 63 (.agg (zD y.1.2.1 y.1.2.2).toArray):=by simp[qU.enc]
  refine⟨Eq.trans (congrArg Array.size e) h2.size,rfl,λp hp=>?_⟩;exact Eq.trans (congrArg (λt:Array Value=>t[p.1]?) e) (h2.slot p hp)
 ·simp only[zD]
  repeat(first|refine aI ?_|refine dX λ_ _=>?_)
  exact JZ _ aw ag2
 ·obtain⟨⟨i0,x,⟨va,vn,vc⟩⟩,PP,Kv,TI⟩:=y
  simp only at PP Kv TI;have PC:s.length=R:=by
   rw[hI];have:∀(l:List (qU R w0)) (s:List Bool),(l.foldl (λs y=>uQ s y.1.2.1) s).length=s.length:=by
    intro l
    induction l with
    |nil=>exact λ_=>rfl
    |cons y l ih=>exact λs=>by rw[fF,ih,tp]
   rw[this,Tz]
  simp only[zD,a6,aT];refine aO ?_;refine bj (lm (l₁:=[RR,aj q (zD x (va,vn,vc)) 56]) (a:=iF ca R cc s)) ?_;refine fg (H1:=[iF ca R cc s]++(RR::aj q (zD x (va,vn,vc)) 56::aj Bs [.slice la ln lc] Bt::aj p7 [.slice ca R cc] 145::ai (some ⟨bt,0,none⟩) 1 1 145 1 [.slice (some ⟨po,0,none⟩) R R]::ai (some ⟨po,0,none⟩) R R 4 1 (s0.map .bool)::⟨fp,λw=>aM w (.slice aa an ac) 1 (bm bl) cS⟩::aj p1 [nm,pa,.int .i64 R,.slice ba n bc] 35::(ai (some ⟨ib,io,none⟩) n ic 145 1 (lh.map (gJ R))::ai (some ⟨ob,oo,none⟩) (b+1) Dr 145 1 (fP.map (gJ R)++[.slice (some ⟨po,0,none⟩) R R])::(lh.map (ir R)++(fP.map (ir R)++marks Ds))))) rfl ?_;refine fH (val:=λ_:Unit=>.tuple #[]) (E:=λ_=>[iF ca R cc (uQ s x)]) (φ:=λ_=>True) rfl (λw hw=>Jw ca R cc s PC x PP ag va vn vc dh w0 (λ_ _ _ h=>h) TI w (hw.sub (dY _ _))) λ_ _=>?_;simp only[a6,aT];refine aO ?_;refine bj (List.Perm.swap _ _ _) ?_;refine J3 (uQ s x) ?_ (.refl _);rw[nJ,<-hI];rfl
 rw[aaM]at hI;have ael:s2.length=R:=by
  rw[hI];have:∀(l:List en) (s:List Bool),(l.foldl uQ s).length=s.length:=by
   intro l
   induction l with
   |nil=>exact λ_=>rfl
   |cons y l ih=>exact λs=>by rw[fF,ih,tp]
  rw[this,Tz]
 simp only[a6,aT];refine aO ?_;refine nu (H':=iF ca R cc s2::aj p7 [.slice ca R cc] 145::bN.mark D::ai (some ⟨po,0,none⟩) R R 4 1 (s0.map .bool)::⟨fp,λw=>aM w (.slice aa an ac) 1 (bm bl) cS⟩::aj p1 [nm,pa,.int .i64 R,.slice ba n bc] 35::(ai (some ⟨ib,io,none⟩) n ic 145 1 (lh.map (gJ R))::ai (some ⟨ob,oo,none⟩) (b+1) Dr 145 1 (fP.map (gJ R)++[.slice (some ⟨po,0,none⟩) R R])::(lh.map (ir R)++(fP.map (ir R)++marks Ds)))) (λw hw=>?_) ?_
 ·refine(hw.sub (dn (dn (.cons _ (dn (.cons _ (.refl _))))))).perm ?_
  exact(lm (l₁:=[iF ca R cc s2,aj p7 [.slice ca R cc] 145]) (a:=bN.mark D)).symm
 refine bP (λ(x:Nat×List Bool)=>x.1<=xn/\x.2.length=R/\x.2=(B.aL.take x.1).foldl (λs p=>s.set p.dst.toNat false) s2) (λx=>[(74,.int .i64 x.1),(72,.slice xa xn xc),(73,.int .i64 xn),(7,.pointer (some ⟨p7,0,none⟩)),(6,.int .i64 b),(30,.int .i64 b),(29,.int .i64 n),(5,.bool vj),(2,.slice (some ⟨ib,io,none⟩) n ic),(3,.slice (some ⟨ob,oo,none⟩) (b+1) Dr),(4,.slice aa an ac),(1,.pointer (some ⟨p1,0,none⟩))]) (λx=>iF ca R cc x.2::aj p7 [.slice ca R cc] 145::bN.mark D::ai (some ⟨po,0,none⟩) R R 4 1 (s0.map .bool)::⟨fp,λw=>aM w (.slice aa an ac) 1 (bm bl) cS⟩::aj p1 [nm,pa,.int .i64 R,.slice ba n bc] 35::(ai (some ⟨ib,io,none⟩) n ic 145 1 (lh.map (gJ R))::ai (some ⟨ob,oo,none⟩) (b+1) Dr 145 1 (fP.map (gJ R)++[.slice (some ⟨po,0,none⟩) R R])::(lh.map (ir R)++(fP.map (ir R)++marks Ds)))) (λx=>xn-x.1) (0,s2)
  ⟨aY _,ael,by simp⟩ (aV aw ag2) λx ⟨hm,pG,hs⟩=>?_
 ·obtain⟨m,s⟩:=x
  simp only at hm pG hs⊢;refine aU ?_;refine aN (λh3=>?_) (λh3=>?_)
  ·have II:m<xn:=by simpa using h3
   obtain⟨p,hp⟩:=dJ Ym II;have aao:bY xa xb xo:=⟨Kv (aW hp)⟩;have Zk:bZ m xn:=⟨II⟩;obtain⟨csp,Xb,sv,rfl,_,mP⟩:=PO m p hp;have aaB:a_ w0 xb (xo+m*2) _:=⟨Xb⟩;have AX:=Z9.aL p (aA hp);obtain⟨s2a,s2n,s2c,_,_,rfl,_⟩:=mP;obtain⟨d,hd⟩:∃d:Nat,p.dst=d:=⟨p.dst.toNat,by have:=AX.dst;omega⟩;have Ze:d<R:=by have:=AX.dst;omega
   obtain⟨y,hy⟩:∃y,s[d]?=some y:=⟨_,aB ag⟩;have oh:ky p.dst d:=⟨hd⟩;have hld:bZ d R:=⟨Ze⟩;have hey:oJ s d y:=⟨hy⟩;have kr:(B.aL.take (m+1)).foldl (λs p=>s.set p.dst.toNat false) s2=s.set d false:=by
    rw[cj,hp,nJ,<-hs,show d=p.dst.toNat by omega];rfl
   unfold iF;refine eW 0 rfl ag λcb co Ge=>?_;subst Ge
   repeat(first|refine aI ?_|refine dX λ_ _=>?_)
   refine bC (m+1,s.set d false) ⟨II,by simpa using pG,kr.symm⟩ (by simp only;omega) aw ?_;exact List.Sublist.cons _ (.refl _)
  ·have aaR:m=xn:=by have:=h3;simp at this;omega
   rw[aaR,Ym,cO,hI,<-Gu]at hs;have hs4:s=OW B s0:=hs;have O8:∀r,has s r↔Head bl (n_ (lh.map (·.l))) b r:=λr=>by rw[hs4];exact LX hf hB hx.1 hx.2 r
   have ad9:=RX.row q0 (aA NC);have afL:oJ lh b q0:=⟨NC⟩;unfold iF;refine aI ?_;refine kE mixed aP ?_;refine j9 ?_;refine tK rfl (λw hw=>Oe _ _ s q0.l w (Ft hw (k:=0) rfl pG.symm ag) (YN (R:=R) (rs:=lh) (E:=[ai ca R cc 4 1 (s.map .bool),aj p7 [.slice ca R cc] 145,bN.mark D,ai (some ⟨po,0,none⟩) R R 4 1 (s0.map .bool),⟨fp,λw=>aM w (.slice aa an ac) 1 (bm bl) cS⟩,aj p1 [nm,pa,.int .i64 R,.slice ba n bc] 35,ai (some ⟨ib,io,none⟩) n ic 145 1 (lh.map (gJ R)),ai (some ⟨ob,oo,none⟩) (b+1) Dr 145 1 (fP.map (gJ R)++[.slice (some ⟨po,0,none⟩) R R])]) (H:=fP.map (ir R)++marks Ds) hw NC ag ad9)) ?_;refine j9 ?_;refine aU ?_;have Md:fP.length+1=b+1:=ag;have fin:∀(I:List jC) (w:World),Wd dh w0 (bN.mark D::ai (some ⟨po,0,none⟩) R R 4 1 (s0.map .bool)::⟨fp,λw=>aM w (.slice aa an ac) 1 (bm bl) cS⟩::aj p1 [nm,pa,.int .i64 R,.slice ba n bc] 35::ai (some ⟨ib,io,none⟩) n ic 145 1 (I.map (gJ R))::ai (some ⟨ob,oo,none⟩) (b+1) Dr 145 1 (fP.map (gJ R)++[.slice (some ⟨po,0,none⟩) R R])::(I.map (ir R)++(fP.map (ir R)++marks Ds))) w->
     Wd dh w0 (⟨fp,λw=>aM w (.slice aa an ac) 1 (bm bl) cS⟩::aj p1 [nm,pa,.int .i64 R,.slice ba n bc] 35::ai (some ⟨ib,io,none⟩) n ic 145 1 (I.map (gJ R))::ai (some ⟨ob,oo,none⟩) (fP++[(⟨some ⟨po,0,none⟩,R,s0⟩:jC)]).length Dr 145 1 ((fP++[(⟨some ⟨po,0,none⟩,R,s0⟩:jC)]).map (gJ R))::(I.map (ir R)++((fP++[(⟨some ⟨po,0,none⟩,R,s0⟩:jC)]).map (ir R)++marks (D::Ds)))) w:=λI w hw=>by
    have h1:=hw.perm (QV (α:=bN) (bN.mark D) (ai (some ⟨po,0,none⟩) R R 4 1 (s0.map .bool)) (⟨fp,λw=>aM w (.slice aa an ac) 1 (bm bl) cS⟩::aj p1 [nm,pa,.int .i64 R,.slice ba n bc] 35::ai (some ⟨ib,io,none⟩) n ic 145 1 (I.map (gJ R))::ai (some ⟨ob,oo,none⟩) (b+1) Dr 145 1 (fP.map (gJ R)++[Value.slice (some ⟨po,0,none⟩) R R])::I.map (ir R)) (fP.map (ir R)) (marks Ds));have e:(fP++[(⟨some ⟨po,0,none⟩,R,s0⟩:jC)]).length=b+1:=by simp;omega
    rw[e];simpa[gJ,ir,iF,marks,dE]using h1
   have G3:∀r∈fP++[(⟨some ⟨po,0,none⟩,R,s0⟩:jC)],r.l.length=R:=λr hr=>by
    rcases bL.1 hr with hr|hr
    ·exact XM r hr
    ·simp only[bU]at hr;subst hr;exact hx.1
   have Ca:(fP++[(⟨some ⟨po,0,none⟩,R,s0⟩:jC)]).length=b+1:=by simp;omega
   refine aN (λh4=>?_) (λh4=>?_)
   ·
    have eH:s≠q0.l:=by simpa using h4
    have Gk:=RX.upd (b:=b) (q:=⟨ca,cc,s⟩) ag pG O8;have aa4:qz (lh.set b ⟨ca,cc,s⟩)<qz lh:=by
     have h5:=GU (r':=(⟨ca,cc,s⟩:jC)) NC;have h6:=zh (l:=q0.l) (m:=s) ag (λr hr=>(O8 r).2 (RX.pre b r ((A_ NC).2 hr))) (Ne.symm eH);simp only at h5;omega
    have TI:lN (lh.map (gJ R)) (b*1) (.slice ca R cc) ((lh.set b ⟨ca,cc,s⟩).map (gJ R)):=⟨by rw[fB,eh];rfl,by simp;omega⟩;refine aI ?_;refine nu (λw hw=>fin (lh.set b ⟨ca,cc,s⟩) w ?_) ?_
    ·have h7:=YW (e:=ir R ⟨ca,cc,s⟩) (X:=[aj p7 [.slice ca R cc] 145,bN.mark D,ai (some ⟨po,0,none⟩) R R 4 1 (s0.map .bool),⟨fp,λw=>aM w (.slice aa an ac) 1 (bm bl) cS⟩,aj p1 [nm,pa,.int .i64 R,.slice ba n bc] 35,ai (some ⟨ib,io,none⟩) n ic 145 1 ((lh.set b ⟨ca,cc,s⟩).map (gJ R)),ai (some ⟨ob,oo,none⟩) (b+1) Dr 145 1 (fP.map (gJ R)++[.slice (some ⟨po,0,none⟩) R R])]) (I:=lh.map (ir R)) (Y:=fP.map (ir R)++marks Ds) (b:=b) hw (by rw[aK,NC];rfl)
     rw[<-eh]at h7;exact h7.sub (dZ _ _)
    refine Ea (true,lh.set b ⟨ca,cc,s⟩,(some ⟨ob,oo,none⟩,Dr,fP++[(⟨some ⟨po,0,none⟩,R,s0⟩:jC)]),D::Ds) rfl ⟨by simp only;omega,Gk,G3,by simp,λ_=>?_⟩ (by simp only;omega) ?_ ag2
    ·simp only
     cases vj
     ·obtain⟨e1,_⟩:=qu rfl
      subst e1;exact aa4
     ·have:=Mj rfl
      omega
    ·simp only[Ca]
     exact aw
   ·have R0:s=q0.l:=by simpa using h4
    refine aO ?_;refine nu (λw hw=>fin lh w (hw.sub (.cons _ (.cons _ (.refl _))))) ?_;refine Ea (vj,lh,(some ⟨ob,oo,none⟩,Dr,fP++[(⟨some ⟨po,0,none⟩,R,s0⟩:jC)]),D::Ds) rfl ⟨by simp only;omega,RX,G3,λe=>?_,Mj⟩ (by simp only;omega) ?_ ag2
    ·obtain⟨e1,e2,e3⟩:=qu e
     subst e1;refine⟨rfl,λt ht r hr=>?_,λt q r hq=>?_⟩
     ·simp only[Ca]at ht
      by_cases e:t=b
      ·subst e
       rw[A_ NC,<-R0];exact(O8 r).2 hr
      ·exact e2 t ag r hr
     ·simp only at hq
      by_cases e:t<fP.length
      ·rw[dG e]at hq
       exact e3 t q r hq
      ·have ht:t=b:=by
        have:=(aC.1 hq).1;rw[Ca]at this;omega
       subst ht;rw[dg ag,J9,dq]at hq;simp only[jJ,bW]at hq;subst hq;exact hx.2 r
    ·simp only[Ca]
     exact aw
end
section
open Go Go.RowKit
attribute [local irreducible] wpListIn Code.wpIn Exit.then Exit.inBlock bodyPost wpQuiet wpAnyIn
set_option maxHeartbeats 4000000
theorem ah3(nm pa re:Value)(R:Nat)(bl:List ar)(bs:Value)(Gb:∃a n c,bs=.slice a n c)(t b r:Nat)(w0:World)(mU:aM w0 bs 6 bl ed)(hlen:bl.length<=100)(hf:eX R bl)(ht:t<bl.length)(hb:b<bl.length)(hbt:(t:Int)∈dd bl b):
  fi Tryz.prog 51 [.agg #[nm,pa,re,bs],.int .i64 t,.int .i64 b,.int .i64 r] w0 (.bool (tT bl t b r)):=by
 have IA:=mU;have xB:=pg hb hbt;obtain⟨ba,n,bc,bb,xH,rfl,hn,pE,E3,LY,xS,iK⟩:=mU;have E4:(bf bl t).length<=bl.length:=by
  have:=ja (λi=>decide ((t:Int)∈dd bl i)) (List.range bl.length);rwa[fG]at this
 refine aQ Tryz.func51 rfl Tryz.ntmps51 rfl (Wd.nil dh w0) ?_
 repeat(first|refine aU ?_|refine dX λ_ _=>?_)
 rename_i p4 _;refine cV (val:=λx:Option Addr×Nat=>.slice x.1 (bf bl t).length x.2) (E:=λx=>[ai x.1 (bf bl t).length x.2 3 1 ((bf bl t).map ig)]) (φ:=λ_=>True) rfl (λw hw=>ot _ _ _ bl _ t w (IA.cu fh hw.cE) hlen) λx _=>?_;obtain⟨xa,xc⟩:=x;simp only[a6,aT];refine aU ?_;refine bI rfl (λw hw=>ah2 _ (bf bl t) b w xB (zV hw (k:=0) rfl rfl ag λy hy=>by have:=(cI.1 hy).1;have:y<_:=cQ.1 this;omega)) ?_;have O9:(bf bl t).idxOf b<(bf bl t).length:=ju xB;obtain⟨T,hT⟩:=dJ hn (show t<n by omega);have pY:bY ba bb xH:=⟨xS (aW hT)⟩;have bT:bZ t n:=⟨ag⟩;obtain⟨cs,fZ,pv,lv,tv,rfl,_,_,oE,_,_⟩:=iK t T hT;obtain⟨xa2,xn,xc2,xb,xo,rfl,Ym,Yo,Yn,hxc,Kv,PO⟩:=oE;have oQ:a_ w0 bb (xH+t*6) _:=⟨fZ⟩;have Y8:=hf.block t T hT;have Cv:tT bl t b r=T.aL.any λp=>ke [p.src[(bf bl t).idxOf b]?.getD gK] r:=by unfold tT;rw[Jn hT]
 rw[Cv];generalize (bf bl t).idxOf b=ix at O9;refine aO ?_;refine bP (λ(i:Nat)=>i<=xn/\(T.aL.take i).any (λp=>ke [p.src[ix]?.getD gK] r)=false) (λi=>[(10,.int .i64 i),(9,.int .i64 (ix:Nat)),(4,.pointer (some ⟨p4,0,none⟩)),(1,.int .i64 t),(3,.int .i64 r)]) (λ_=>[aj p4 [nm,pa,re,.slice ba n bc] 35]) (λi=>xn-i) 0 ⟨aY _,by simp⟩ (aV aw aH) λi ⟨hi,cP⟩=>?_;refine aU ?_;refine aN (λh1=>?_) (λh1=>?_)
 ·have Xn:i<xn:=by simpa using h1
  obtain⟨p,hp⟩:=dJ Ym Xn;have aao:bY xa2 xb xo:=⟨Kv (aW hp)⟩;have mW:bZ i xn:=⟨Xn⟩;obtain⟨csp,Xb,sv,rfl,_,mP⟩:=PO i p hp;have aaB:a_ w0 xb (xo+i*2) _:=⟨Xb⟩;have AX:=Y8.aL p (aA hp);obtain⟨s2a,s2n,s2c,s2b,s2o,rfl,aem,_,_,_,aek,abz⟩:=mP;obtain⟨v,hv⟩:∃v,p.src[ix]?=some v:=⟨_,aB (by rw[AX.len];exact O9)⟩;have acP:bY s2a s2b s2o:=⟨aek (aW hv)⟩;have adJ:bZ ix s2n:=⟨by rw[aem,AX.len];exact O9⟩;obtain⟨csv,adf,rfl,hvi⟩:=abz ix v hv;have afE:a_ w0 s2b (s2o+ix*2) _:=⟨adf⟩
  repeat(first|refine aO ?_|refine dX λ_ _=>?_)
  refine bI rfl (λw hw=>ahA _ [v] r w (ahC hw (k:=0) (l:=[v]) rfl rfl ag (λy hy=>by simp only[bU]at hy;subst hy;exact hvi))) ?_;have mx:(T.aL.take (i+1)).any (λp=>ke [p.src[ix]?.getD gK] r)=ke [v] r:=by
   rw[cj,hp,List.any_append,cP];simp[hv]
  have wQ:ke [v] r=true->(T.aL.any λp=>ke [p.src[ix]?.getD gK] r)=true:=λh=>by
   rw[oq];exact⟨p,aA hp,by rw[hv];exact h⟩
  generalize ke [v] r=q at mx wQ;cases q
  ·refine aO ?_
   exact bC (i+1) ⟨Xn,mx⟩ ag aw ap
  ·refine aI ?_
   exact bQ rfl (by rw[wQ rfl])
 ·have gT:i=xn:=by have:=h1;simp at this;omega
  refine aI ?_;refine bQ rfl ?_;rw[gT,Ym,cO]at cP;rw[cP]
abbrev Sp:Type:=Nat×Int
def ahp(s:Sp):List Value:=[.int .i64 (s.1:Int),.int .i64 s.2]
def ahe(a:Option Addr)(c:Nat)(l:List Sp):bN:=ai a l.length c 52 2 (l.flatMap ahp)
theorem ahI{l:List Sp}{i:Nat}{s:Sp}(h:l[i]?=some s):ah9 (l.flatMap ahp) (i*2) [.int .i64 (s.1:Int),.int .i64 s.2]:=⟨λj v hj=>fy (g:=ahp) (s:=2) (λ_=>rfl) l i s j v h hj⟩
def ag8(l:List Sp)(s:Sp):List Sp:=if s∈l then l else l++[s]
theorem ahK(a:Option Addr)(c:Nat)(l:List Sp)(hl:l.length<=1000000)(s:Sp)(w:World)(hw:Wd (cF [ahe a c l]) w [ahe a c l] w):
  gV Tryz.prog 48 [.slice a l.length c,.agg #[.int .i64 (s.1:Int),.int .i64 s.2]] w λu w'=>∃x:Option Addr×Nat,u=.slice x.1 (ag8 l s).length x.2/\Wd (cF [ahe a c l]) w [ahe x.1 x.2 (ag8 l s)] w'/\True:=by
 refine aQ Tryz.func48 rfl Tryz.ntmps48 rfl hw ?_;generalize cF [ahe a c l]=SS;unfold ahe
 repeat(first|refine aO ?_|refine dX λ_ _=>?_)
 rename_i p3 _;refine bP (λ(x:Nat×Option Addr)=>x.1<=l.length/\s∉l.take x.1) (λx=>[(5,.int .i64 x.1),(0,.slice x.2 l.length c),(3,.pointer (some ⟨p3,0,none⟩))]) (λx=>[aj p3 [.int .i64 (s.1:Int),.int .i64 s.2] 52,ai x.2 l.length c 52 2 (l.flatMap ahp)]) (λx=>l.length-x.1) (0,a) ⟨aY _,by simp⟩ (aV aw ag2) λx ⟨hi,cP⟩=>?_;obtain⟨i,a⟩:=x;simp only at hi cP⊢;refine aU ?_;refine aN (λh1=>?_) (λh1=>?_)
 ·have bT:i<l.length:=by simpa using h1
  obtain⟨q,hq⟩:∃q,l[i]?=some q:=⟨_,aB bT⟩;refine eW 1 rfl ag λvb vo nz=>?_;subst nz;have mW:bZ i l.length:=⟨bT⟩;have Eo:=ahI hq;refine aO ?_;refine kE mixed aP ?_;refine j9 ?_;refine aU ?_;refine aN (λh2=>?_) (λh2=>?_)
  ·have Tu:q=s:=by
    simp at h2;exact Prod.ext (by have:=h2.1;omega) h2.2
   have hc:ag8 l s=l:=if_pos (Tu▸aA hq);rw[hc];refine aI ?_;exact cA rfl λw' dO=>⟨(some ⟨vb,vo,none⟩,c),rfl,dO.Zv [1] (by decide),trivial⟩
  ·refine aO ?_
   refine bC (i+1,some ⟨vb,vo,none⟩) ⟨bT,λh=>?_⟩ (by simp only;omega) aw ag2;simp only at h;rw[cj,hq]at h;rcases bL.1 h with h|h
   ·exact cP h
   ·simp only[lr,bU]at h
    subst h;simp at h2
 ·have gT:i=l.length:=by have:=h1;simp at this;omega
  rw[gT,cO]at cP;have hc:ag8 l s=l++[s]:=if_neg cP;rw[hc]
  repeat(first|refine aI ?_|refine dX λ_ _=>?_)
  refine mq rfl rfl ag ag λa' c'=>?_;rw[show l.flatMap ahp++[.int .i64 (s.1:Int),.int .i64 s.2]=(l++[s]).flatMap ahp by simp[ahp],show l.length+1=(l++[s]).length by simp];refine aO ?_;exact cA rfl λw' dO=>⟨(a',c'),rfl,dO.Zv [2] (by decide),trivial⟩
def ahx(bl:List ar)(s:Sp):Prop:=-1<=s.2/\∃B,bl[s.1]?=some B/\s.2<=B.list.length+1
def ahD(bl:List ar)(r:Nat)(row:List Sp)(s:Sp):Prop:=∀B,bl[s.1]?=some B->
 (s.2=-1->(∀p∈B.aL,p.dst≠r)->((s.1,0):Sp)∈row)/\(∀(i:Nat) x,s.2=i->B.list[i]?=some x->ke (gI x) r=false/\(x.dst≠r->((s.1,(i:Int)+1):Sp)∈row))/\
 (s.2=B.list.length->ke [B.on] r=false)/\((s.2=B.list.length∨s.2=B.list.length+1)->∀t:Nat,(t:Int)∈B.to->tT bl t s.1 r=false/\((t,-1):Sp)∈row)
theorem ahD.mono{bl:List ar}{r:Nat}{row ahs:List Sp}(h:∀s∈row,s∈ahs){s:Sp}(k:ahD bl r row s):ahD bl r ahs s:=λB hB=>by
 obtain⟨h1,h2,h3,h4⟩:=k B hB;exact⟨λa b=>h _ (h1 a b),λi x a b=>⟨(h2 i x a b).1,λc=>h _ ((h2 i x a b).2 c)⟩,h3,λa t ht=>⟨(h4 a t ht).1,h _ (h4 a t ht).2⟩⟩
theorem ahR{bl:List ar}{r:Nat}{row:List Sp}(h:∀s∈row,ahD bl r row s){b:Nat}{j:Int}(k:gM bl r b j):((b,j):Sp)∈row->False:=by
 induction k with
 |jW hB hp _ ih=>exact λhm=>ih ((h _ hm _ hB).1 rfl hp)
 |use hB hx hn=>exact λhm=>by have:=((h _ hm _ hB).2.1 _ _ rfl hx).1;rw[hn]at this;cases this
 |@go b i B x hB hx hd _ ih=>exact λhm=>ih (by have:=((h _ hm _ hB).2.1 _ _ rfl hx).2 hd;simpa using this)
 |on hB hn=>exact λhm=>by have:=(h _ hm _ hB).2.2.1 rfl;rw[hn]at this;cases this
 |take hB hj ht hk=>exact λhm=>by have:=((h _ hm _ hB).2.2.2 hj _ ht).1;rw[hk]at this;cases this
 |jump hB hj ht _ ih=>exact λhm=>ih ((h _ hm _ hB).2.2.2 hj _ ht).2
theorem ahv{bl:List ar}{row:List Sp}(hn:row.Nodup)(hs:∀s∈row,ahx bl s)(hl:∀B∈bl,B.list.length<=1000):row.length<=bl.length*1003:=by
 have hc:∀s∈row,s.1<bl.length/\-1<=s.2/\s.2<=1001:=λs gU=>by
  obtain⟨h1,B,hB,h2⟩:=hs s gU;have:=hl B (aA hB);exact⟨(aC.1 hB).1,h1,ag⟩
 have h1:(row.map λs=>s.1*1003+(s.2+1).toNat).Nodup:=by
  rw[List.Nodup,List.pairwise_map];refine List.Pairwise.imp_of_mem (λ{a b} ha hb eH e=>eH ?_) hn;have h2:=hc a ha;have h3:=hc b hb;exact Prod.ext ag ag
 have h2:=yj (bl.length*1003) _ h1 λx hx=>by
  obtain⟨s,gU,rfl⟩:=aX.1 hx;have:=hc s gU;have h4:(s.1+1)*1003<=bl.length*1003:=py _ ag;omega
 rwa[aG]at h2
structure ahE(bl:List ar)(r:Nat)(s0:Sp)(i:Nat)(row:List Sp):Prop where
 nd:row.Nodup
 ok:∀s∈row,ahx bl s
 start:s0∈row
 sound:∀s∈row,gM bl r s.1 s.2->gM bl r s0.1 s0.2
 gone:∀k s,k<i->row[k]?=some s->ahD bl r row s
theorem ag9{l:List Sp}{s x:Sp}:x∈ag8 l s↔(x∈l∨x=s):=by
 unfold ag8
 split
 ·rename_i h
  exact⟨.inl,λh'=>h'.elim id λe=>e▸h⟩
 ·simp
theorem aht(l:List Sp)(s:Sp):∃e,ag8 l s=l++e:=by
 unfold ag8
 split
 ·exact⟨[],by simp⟩
 ·exact⟨_,rfl⟩
theorem ahF{l:List Sp}(h:l.Nodup)(s:Sp):(ag8 l s).Nodup:=by
 unfold ag8
 split
 ·exact h
 ·rename_i hm
  rw[nN];exact⟨h,by simp,λa ha b hb e=>by simp only[bU]at hb;subst hb;exact hm (e▸ha)⟩
theorem ahE.ah4{bl:List ar}{r:Nat}{s0 s:Sp}{i:Nat}{row:List Sp}(h:ahE bl r s0 i row)(hi:i<=row.length)(hs:ahx bl s)(hl:gM bl r s.1 s.2->gM bl r s0.1 s0.2):ahE bl r s0 i (ag8 row s):=by
 obtain⟨e,he⟩:=aht row s;refine⟨ahF h.nd s,λx hx=>?_,ag9.2 (.inl h.start),λx hx=>?_,λk x hk hx=>?_⟩
 ·rcases ag9.1 hx with hx|rfl
  ·exact h.ok x hx
  ·exact hs
 ·rcases ag9.1 hx with hx|rfl
  ·exact h.sound x hx
  ·exact hl
 ·rw[he,dG ag]at hx
  exact(h.gone k x hk hx).mono λy hy=>ag9.2 (.inl hy)
theorem ahE.next{bl:List ar}{r:Nat}{s0 s:Sp}{i:Nat}{row:List Sp}(h:ahE bl r s0 i row)(hs:row[i]?=some s)(hg:ahD bl r row s):ahE bl r s0 (i+1) row:=
 ⟨h.nd,h.ok,h.start,h.sound,λk x hk hx=>by
  by_cases e:k=i
  ·subst e
   rw[hs]at hx;simp only[bW]at hx;subst hx;exact hg
  ·exact h.gone k x ag hx⟩
theorem ahk{row:List Sp}{s:Sp}{i:Nat}{x:Sp}(h:row[i]?=some x):(ag8 row s)[i]?=some x:=by
 obtain⟨e,he⟩:=aht row s;rw[he,dG (aC.1 h).1];exact h
theorem ah7(nm pa re:Value)(bl:List ar)(bs:Value)(Gb:∃a n c,bs=.slice a n c)(r:Nat)(s0:Sp)(w0:World)(mU:aM w0 bs 6 bl ed)(hlen:bl.length<=100)(R:Nat)(hf:eX R bl)(mX:∀B∈bl,B.list.length<=1000)(tk:∀B∈bl,∀x∈B.list,x.args.length<=1000)(Mh:ahx bl s0)[Decidable (gM bl r s0.1 s0.2)]:
  fi Tryz.prog 18 [.agg #[nm,pa,re,bs],.int .i64 r,.agg #[.int .i64 (s0.1:Int),.int .i64 s0.2]] w0 (.bool (decide (gM bl r s0.1 s0.2))):=by
 have IA:=mU;have cW:=hf.iM;obtain⟨ba,n,bc,bb,xH,rfl,hn,pE,E3,LY,xS,iK⟩:=mU;refine aQ Tryz.func18 rfl Tryz.ntmps18 rfl (Wd.nil dh w0) ?_
 repeat(first|refine aO ?_|refine dX λ_ _=>?_)
 rename_i p3 _ p5 _ eb _;refine bP (λ(x:Nat×Option Addr×Nat×List Sp)=>x.1<=x.2.2.2.length/\ahE bl r s0 x.1 x.2.2.2) (λx=>[(8,.int .i64 x.1),(7,.slice x.2.1 x.2.2.2.length x.2.2.1),(3,.pointer (some ⟨p3,0,none⟩)),(1,.int .i64 (r:Nat)),(6,.bool false)])
  (λx=>[ahe x.2.1 x.2.2.1 x.2.2.2,aj p3 [nm,pa,re,.slice ba n bc] 35]) (λx=>bl.length*1003-x.1) (0,some ⟨eb,0,none⟩,1,[s0]) ⟨aY _,⟨by simp,by simpa using Mh,by simp,λs hs h=>by simp only[bU]at hs;subst hs;exact h,λk s hk=>ag⟩⟩ ?_ λx ⟨hi,hI⟩=>?_
 ·exact aV aw ap
 obtain⟨i,a,c,row⟩:=x;simp only at hi hI⊢;have qd:=ahv hI.nd hI.ok mX;have Py:row.length<=100300:=ag;unfold ahe;refine aU ?_;refine aN (λh1=>?_) (λh1=>?_)
 case refine_2=>
  have gT:i=row.length:=by have:=h1;simp at this;omega
  refine aI ?_;refine bQ rfl ?_;rw[decide_eq_false];intro Tn;exact ahR (row:=row) (λs hs=>by
   obtain⟨k,hk⟩:=br hs;exact hI.gone k s (by have:=(aC.1 hk).1;omega) hk) Tn hI.start
 have bT:i<row.length:=by simpa using h1
 obtain⟨s,hs⟩:∃q,row[i]?=some q:=⟨_,aB bT⟩;refine eW 0 rfl ag λvb vo nz=>?_;subst nz;have mW:bZ i row.length:=⟨bT⟩;have Eo:=ahI hs;obtain⟨E9,B,hB,Ml⟩:=hI.ok s (aA hs);have ahf:=hI.sound s (aA hs);obtain⟨b,z⟩:=s;simp only at E9 hB Ml Eo ahf;have pC:b<n:=by rw[hn];exact(aC.1 hB).1
 have pY:bY ba bb xH:=⟨xS (aW hB)⟩;have Pc:bZ b n:=⟨pC⟩;obtain⟨cs,fZ,pv,lv,tv,rfl,_,aik,oE,nZ,jq⟩:=iK b B hB;have ah6:=oE;have aim:=nZ;have air:=jq;obtain⟨pa2,pn,pc,_,_,rfl,_⟩:=oE;obtain⟨la,ln,lc,lb,lo,rfl,Ma,adL,_,_,Tk,Pd⟩:=nZ;obtain⟨ta,tn,tc,tb,yD,rfl,sN,Er,_,_,wl,r6⟩:=jq;have oQ:a_ w0 bb (xH+b*6) _:=⟨fZ⟩;have Z9:=hf.block b B hB;have Kf:=mX B (aA hB)
 repeat(first|refine aI ?_|refine dX λ_ _=>?_)
 rename_i p9 _ HH _;refine aN (λh2=>?_) (λh2=>?_)
 ·have hz:z=-1:=by have:=h2;simp at this;omega
  subst hz;refine aU ?_;refine bI rfl (λw hw=>ahJ _ _ _ B ⟨_,_,_,rfl⟩ ⟨_,_,_,rfl⟩ ⟨_,_,_,rfl⟩ r w (ah6.cu x9 hw.cE)) ?_;have AW:(B.aL.any λp=>decide (p.dst=r))=false↔∀p∈B.aL,p.dst≠r:=by simp
  generalize (B.aL.any λp=>decide (p.dst=r))=q at AW;have ahG:∀ahs:List Sp,(q=false->((b,0):Sp)∈ahs)->ahD bl r ahs (b,-1):=λahs h B' u9=>by
   rw[hB]at u9;cases u9;exact⟨λ_ hp=>h (AW.2 hp),λi x e=>absurd e (by simp only;omega),λe=>absurd e (by simp only;omega),λe=>absurd e (by simp only;omega)⟩
  cases q
  ·have hp:=AW.1 rfl
   have SX:=hI.ah4 (s:=(b,0)) ag ⟨by simp,B,hB,by simp only;omega⟩ λh=>ahf (.jW hB hp h);refine aO ?_;refine q7 [2,0,1,3] (by decide) ?_;refine fH (H1:=[ahe (some ⟨vb,vo,none⟩) c row]) (val:=λx:Option Addr×Nat=>.slice x.1 (ag8 row (b,0)).length x.2) (E:=λx=>[ahe x.1 x.2 (ag8 row (b,0))]) (φ:=λ_=>True) rfl (λw hw=>ahK _ c row ag (b,0) w hw.pre) λx _=>?_;obtain⟨a',c'⟩:=x;simp only[a6,aT];have hg:=ahk (s:=(b,0)) hs;refine aI ?_;exact bC (i+1,a',c',ag8 row (b,0)) ⟨(aC.1 hg).1,SX.next hg (ahG _ λ_=>ag9.2 (.inr rfl))⟩ (by simp only;omega) aw ap
  ·refine aI ?_
   exact bC (i+1,some ⟨vb,vo,none⟩,c,row) ⟨bT,hI.next hs (ahG row aH)⟩ (by simp only;omega) aw ap
 obtain⟨j,rfl⟩:∃j:Nat,z=j:=⟨z.toNat,by have:=h2;simp at this;omega⟩;have hjn:j<=B.list.length+1:=ag;clear E9 Ml;refine aO ?_;refine aN (λh3=>?_) (λh3=>?_)
 ·have jE:j<ln:=by simpa using h3
  obtain⟨x,hx⟩:=dJ Ma jE;have afo:bY la lb lo:=⟨Tk (aW hx)⟩;have IH:bZ j ln:=⟨jE⟩;obtain⟨csx,aih,xv,rfl,_,_,R1,hib,_,mM⟩:=Pd j x hx;have oZ:=aA hx;have B8:=tk B (aA hB) x oZ;have PR:=mM;obtain⟨va,vn,vc,_,_,rfl,_,_,_,_,_,GA⟩:=mM;have aio:a_ w0 lb (lo+j*8) _:=⟨aih⟩;have hul:(gI x).length<=1000:=by unfold gI;repeat(first|split|skip)<;>(try simp)<;>(try omega)
  have hui:∀v∈gI x,c9 v.n:=λv hv=>by
   have aia:∀v∈x.args,c9 v.n:=λv hv=>by
    obtain⟨k,hk⟩:=br hv;obtain⟨_,_,_,h⟩:=GA k v hk;exact h
   unfold gI at hv
   split at hv
   ·cases hv
   ·split at hv
    ·exact aia v hv
    ·split at hv
     ·simp only[bJ,iI,or_false]at hv
      rcases hv with rfl|rfl
      ·exact R1
      ·exact hib
     ·split at hv
      ·simp only[bJ,iI,or_false]at hv
       subst hv;exact R1
      ·cases hv
  refine aU ?_;refine cV (val:=λy:Option Addr×Nat×Nat=>.slice y.1 (gI x).length y.2.1) (E:=λy=>[ai y.1 (gI x).length y.2.1 y.2.2 2 ((gI x).flatMap ahP)]) (φ:=λ_=>True) rfl (λw hw=>ah8 x va vn vc w (PR.cu rm hw.cE) B8) λy _=>?_;obtain⟨ya,yc,ye⟩:=y;simp only[a6,aT];refine aU ?_;refine bI rfl (λw hw=>ahA _ (gI x) r w (ahC hw (k:=0) rfl rfl ag hui)) ?_
  by_cases uP:ke (gI x) r=true
  ·rw[uP]
   refine aI ?_;exact bQ rfl (by rw[decide_eq_true (ahf (.use hB hx uP))])
  have uP:=Bool.eq_false_iff.2 uP;rw[uP];refine aO ?_;have ahG:∀ahs:List Sp,(x.dst≠r->((b,(j:Int)+1):Sp)∈ahs)->ahD bl r ahs (b,j):=λahs h B' u9=>by
   rw[hB]at u9;cases u9;refine⟨λe=>absurd e (by simp only;omega),λi' x' e HF=>?_,λe=>absurd e (by simp only;omega),λe=>absurd e (by simp only;omega)⟩;have:i'=j:=by simp only at e;omega
   subst this;rw[hx]at HF;cases HF;exact⟨uP,h⟩
  refine aN (λh4=>?_) (λh4=>?_)
  ·have hd:x.dst≠r:=by simpa using h4
   have SX:=hI.ah4 (s:=(b,(j:Int)+1)) ag ⟨by simp only;omega,B,hB,by simp only;omega⟩ λh=>ahf (.go hB hx hd (by simpa using h));refine aO ?_;refine q7 [3,1,2,4] (by decide) ?_;refine fH (H1:=[ahe (some ⟨vb,vo,none⟩) c row]) (val:=λx:Option Addr×Nat=>.slice x.1 (ag8 row (b,(j:Int)+1)).length x.2) (E:=λx=>[ahe x.1 x.2 (ag8 row (b,(j:Int)+1))]) (φ:=λ_=>True) rfl (λw hw=>ahK _ c row ag (b,(j:Int)+1) w hw.pre) λx _=>?_;obtain⟨a',c'⟩:=x;simp only[a6,aT];have hg:=ahk (s:=(b,(j:Int)+1)) hs;refine aI ?_;exact bC (i+1,a',c',ag8 row (b,(j:Int)+1)) ⟨(aC.1 hg).1,SX.next hg (ahG _ λ_=>ag9.2 (.inr rfl))⟩ (by simp only;omega) aw ap
  ·refine aI ?_
   refine q7 [1,2,3,4] (by decide) ?_;exact bC (i+1,some ⟨vb,vo,none⟩,c,row) ⟨bT,hI.next hs (ahG row λh=>by simp at h4;exact absurd h4 h)⟩ (by simp only;omega) aw ap
 have hjg:j=B.list.length∨j=B.list.length+1:=by simp at h3;omega
 clear h3 h2;refine jp (L':=[(10,.pointer (some ⟨HH,0,none⟩)),(9,.pointer (some ⟨p9,0,none⟩)),(8,.int .i64 i),(7,.slice (some ⟨vb,vo,none⟩) row.length c),(3,.pointer (some ⟨p3,0,none⟩)),(1,.int .i64 (r:Nat)),(6,.bool false)]) aw (.refl _) ?_;refine aO ?_;refine kF 88 (.bool (decide (j=B.list.length)&&ke [B.on] r)) ?_ ?_
 ·rw[show decide ((j:Int)=(ln:Int))=decide (j=B.list.length) by rw[Ma];exact decide_eq_decide.2 ag]
  by_cases e:j=B.list.length
  ·rw[decide_eq_true e]
   repeat(first|refine aI ?_|refine dX λ_ _=>?_)
   refine bI rfl (λw hw=>ahA _ [B.on] r w (ahC hw (k:=0) (l:=[B.on]) rfl rfl ag (λy hy=>by simp only[bU]at hy;subst hy;exact aik))) ?_;refine aU ?_;exact aV aw ap
  ·rw[decide_eq_false e]
   refine iL ?_;exact aV aw ag2
 refine aU ?_;refine aN (λh4=>?_) (λh4=>?_)
 ·refine aI ?_
  rw[Bool.and_eq_true]at h4;have e:j=B.list.length:=by simpa using h4.1
  exact bQ rfl (by rw[decide_eq_true (ahf (by rw[e];exact .on hB h4.2))])
 have Gp:j=B.list.length->ke [B.on] r=false:=λe=>by rw[decide_eq_true e,Bool.true_and]at h4;exact h4
 refine aO ?_;refine bP (λ(x:Nat×Option Addr×Nat×List Sp)=>x.1<=tn/\i<x.2.2.2.length/\ahE bl r s0 i x.2.2.2/\x.2.2.2[i]?=some (b,(j:Int))/\∀t:Nat,(t:Int)∈B.to.take x.1->tT bl t b r=false/\((t,-1):Sp)∈x.2.2.2)
  (λx=>[(11,.int .i64 x.1),(7,.slice x.2.1 x.2.2.2.length x.2.2.1),(10,.pointer (some ⟨HH,0,none⟩)),(9,.pointer (some ⟨p9,0,none⟩)),(8,.int .i64 i),(3,.pointer (some ⟨p3,0,none⟩)),(1,.int .i64 (r:Nat)),(6,.bool false)])
  (λx=>[ahe x.2.1 x.2.2.1 x.2.2.2,aj HH [.slice pa2 pn pc,.slice la ln lc,.int .i64 B.kind,.bool B.on.bD,.int .i64 B.on.n,.slice ta tn tc] 46,aj p9 [.int .i64 (b:Int),.int .i64 (j:Int)] 52,aj p3 [nm,pa,re,.slice ba n bc] 35]) (λx=>tn-x.1) (0,some ⟨vb,vo,none⟩,c,row) ⟨aY _,bT,hI,hs,by simp⟩ ?_ λx ⟨hq,yZ,SX,gU,cP⟩=>?_
 ·refine q7 [2,0,1,3] (by decide) ?_
  exact aV aw ag2
 clear hI hs qd Py hi bT Eo h1;obtain⟨q,a,c,row⟩:=x;simp only at hq yZ SX gU cP⊢;have qd:=ahv SX.nd SX.ok mX;have Py:row.length<=100300:=ag;refine aU ?_;refine aN (λh5=>?_) (λh5=>?_)
 ·have hqt:q<tn:=by simpa using h5
  obtain⟨z,hz⟩:=dJ sN hqt;have Et:z∈dd bl b:=by rw[fR hB];exact aA hz
  obtain⟨t,rfl⟩:∃t:Nat,z=t:=⟨z.toNat,(cW.nat Et).symm⟩;have xC:t<bl.length:=by have:=cW.FG (x:=b) (y:=t) Et;omega
  have ain:bY ta tb yD:=⟨wl (aW hz)⟩;have hlq:bZ q tn:=⟨hqt⟩;obtain⟨csz,aii,rfl,_⟩:=r6 q _ hz;have aip:a_ w0 tb (yD+q*1) _:=⟨aii⟩;have hI2:=SX.ah4 (s:=(t,-1)) ag ⟨by simp,bl[t],aB xC,by simp only;omega⟩ λh=>ahf (.jump hB ag (by rw[<-fR hB];exact Et) h);unfold ahe;refine aO ?_;refine bI rfl (λw hw=>ah3 nm pa re R bl _ ⟨_,_,_,rfl⟩ t b r w (IA.cu fh hw.cE) hlen hf xC ag Et) ?_
  by_cases Cv:tT bl t b r=true
  ·rw[Cv]
   refine aI ?_;exact bQ rfl (by rw[decide_eq_true (ahf (.take hB ag (by rw[<-fR hB];exact Et) Cv))])
  have Cv:=Bool.eq_false_iff.2 Cv;rw[Cv];refine aO ?_;refine fH (H1:=[ahe a c row]) (val:=λx:Option Addr×Nat=>.slice x.1 (ag8 row (t,-1)).length x.2) (E:=λx=>[ahe x.1 x.2 (ag8 row (t,-1))]) (φ:=λ_=>True) rfl (λw hw=>ahK _ c row ag (t,-1) w hw.pre) λx _=>?_;obtain⟨a',c'⟩:=x;simp only[a6,aT];have hg:=ahk (s:=(t,-1)) gU;refine aO ?_;refine bC (q+1,a',c',ag8 row (t,-1)) ⟨hqt,(aC.1 hg).1,hI2,hg,λt' HE=>?_⟩ (by simp only;omega) aw ag2;simp only at HE;rw[cj,hz,bL]at HE;rcases HE with HE|HE
  ·exact⟨(cP t' HE).1,ag9.2 (.inl (cP t' HE).2)⟩
  ·simp only[lr,bU]at HE
   have:t'=t:=ag;subst this;exact⟨Cv,ag9.2 (.inr rfl)⟩
 ·have gT:q=tn:=by have:=h5;simp at this;omega
  rw[gT,sN,cO]at cP;refine aI ?_;refine bC (i+1,a,c,row) ⟨yZ,SX.next gU λB' u9=>?_⟩ (by simp only;omega) aw ap;rw[hB]at u9;cases u9;refine⟨λe=>absurd e (by simp only;omega),λi' x e hx=>absurd e ?_,λe=>Gp (by simp only at e;omega),λ_ t ht=>cP t ht⟩;have:=(aC.1 hx).1;simp only;omega
end
section
open Go Go.RowKit
attribute [local irreducible] wpListIn Code.wpIn Exit.then Exit.inBlock bodyPost wpQuiet wpAnyIn wpAnyH
set_option maxHeartbeats 4000000
theorem HZ{u:a7}(h:(dr u).1=0){k:Nat}{X:aZ}(hX:u.funcs[k]?=some X):∀B∈X.blocks,∀x∈B.list,x.args.length<=1000:=λB hB x hx=>by
 have hb:=rU h X (aA hX);obtain⟨b,Ve⟩:=br hB;unfold fX at hb
 split at hb
 ·rename_i h1;exact absurd hb h1
 have hb:=im hb b (aC.1 Ve).1;simp only[jc,Ve]at hb
 split at hb
 ·rename_i h2;exact absurd hb h2
 have hi:=l_ hb x hx
 by_cases e:x.op=20
 ·unfold dK at hi
  split at hi
  ·cases hi
  split at hi
  ·cases hi
  split at hi
  ·rename_i h3
   simp only[Bool.and_eq_true,Bool.not_eq_true',decide_eq_false_iff_not]at h3;exact absurd hi h3.2
  split at hi
  ·rename_i h4;exact absurd hi h4
  split at hi
  ·rename_i h5;exact absurd hi h5
  unfold fY at hi;rw[if_neg (by simpa using e)]at hi
  split at hi
  ·cases hi
  rename_i h6
  split at hi
  ·cases hi
  rename_i h7;simp only[within,Bool.not_eq_true',Bool.and_eq_false_iff,decide_eq_false_iff_not,not_or,Decidable.not_not]at h6;simp only[ne_eq,Decidable.not_not,jr]at h7
  split at h7
  ·rename_i Y hY
   have:=nh h hY;omega
  ·omega
 ·rw[(xZ (R:=X.aF.toNat) (fs:=u.funcs) (by rw[Int.toNat_of_nonneg (by have:=nh h hX;omega)];exact hi)).args e]
  simp
theorem I6{X:aZ}(h:Bf X):∀B∈X.blocks,B.list.length<=1000/\B.aL.length<=1000:=λB hB=>by
 have h1:((B.aL.length+B.list.length:Nat):Int)<=fQ X.blocks:=by
  unfold fQ;generalize X.blocks=l at hB
  induction l with
  |nil=>cases hB
  |cons C l ih=>
   have Pm:∀m:List ar,0<=(m.map λb=>((b.aL.length+b.list.length:Nat):Int)).sum:=λm=>by
    induction m with
    |nil=>simp
    |cons D m ih=>simp only[bO,et,aE];omega
   simp only[bO,et];rcases bJ.1 hB with rfl|hB
   ·have:=Pm l;omega
   ·have:=ih hB;omega
 have:=h.2;omega
class z8(m n:Int):Prop where
 lo:-9223372036854775808<=m+n
 hi:m+n<=9223372036854775807
instance{P:Program}{N:Nat}{ds:List Deferred}{S:Nat->Prop}{w0:World}{L:List (Nat×Value)}{H:List bN}{x y:Operand}{T T2:Nat}{m n:Int}[hx:Ev L x (.int .i64 m)][hy:Ev L y (.int .i64 n)][h:z8 m n]:dz P N ds S w0 L H (.binOp .add T x y T2) (.int .i64 (m+n)):=by
 have:=Dz (P:=P) (N:=N) (ds:=ds) (S:=S) (w0:=w0) (L:=L) (H:=H) (x:=x) (y:=y) (T:=T) (T2:=T2) (m:=m) (n:=n)
 rwa[uI _ h.lo h.hi]at this
end
end Go.Proofs.YthfhgolkafpmnaaGreatDoor
