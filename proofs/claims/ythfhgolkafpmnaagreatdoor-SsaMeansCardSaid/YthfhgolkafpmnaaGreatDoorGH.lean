/- Texts joined: Open Door DoorB LiveD HeldB LiveF LiveE LiveG LiveH LiveI LiveJ LiveK. -/
import Derived.Deep.DeepHandedRow
import Derived.Deep.Slices
import Derived.Lib.LaidTab
import Derived.OpenShut
import Derived.ProofKit
import Derived.Test.YthfhgolkafpmnaaGreatDoorCards
import Derived.Test.YthfhgolkafpmnaaGreatDoorTie
import Derived.Test.YthfhgolkafpmnaaGreatDoorGF
namespace Go.Proofs.YthfhgolkafpmnaaGreatDoor
open Go.Value renaming int->U,slice->J,pointer->ar,bool->D,agg->au
open Go.IntKind renaming i64->O
open Option renaming some->Z,none->A
open Go renaming Value->V,World->C
open Go.Proofs.Tryz
open Go.Proofs.Tryz renaming prog->ae
open Go Go.RowKit
section
set_option maxRecDepth 100000
open Go.ChangeShapes Go.WideShapes
section
section
variable {H:Type} {enc:TypeId×V->H} {P:Program} {w:C} {base:Nat} {spare:Nat->Bool} {held:Bool}
theorem PE{x:Int}(h:(Lit.int O x).wf=true):dk x:=by
 simpa[dk,Lit.wf,IntKind.min,IntKind.max,IntKind.signed,IntKind.bits]using h
theorem Ig{α:Type}{n:Nat}{p:Nat->α->Prop}(h:∀i,i<n->∃x,p i x):∃l:List α,l.length=n/\∀i x,l[i]?=Z x->p i x:=by
 induction n with
 |zero=>exact⟨[],rfl,by simp⟩
 |succ n ih=>
  obtain⟨l,hl,hp⟩:=ih (λi hi=>h i I);obtain⟨x,hx⟩:=h n I;refine⟨l++[x],by simp[hl],λi y hy=>?_⟩
  by_cases hi:i<l.length
  ·rw[dY hi]at hy;exact hp i y hy
  ·rw[dC I]at hy
   have:i-l.length=0:=by
    cases hk:i-l.length with
    |zero=>rfl
    |succ k=>rw[hk]at hy;simp at hy
   rw[this]at hy;simp at hy;subst hy;have:i=n:=I;subst this;exact hx
theorem rA{e:TypeId}{d:DataW H}{k:Nat}:∀{l:List (DataW H)},d∈l->k∈d.weights P e->k∈DataW.weightsAll P e l
 |[],h,_=>by cases h
 |x::l,h,hk=>by
  simp only[DataW.weightsAll,bA];rcases bD.1 h with rfl|h
  ·exact .inl hk
  ·exact .inr (rA h hk)
theorem mS{d:DataW H}{k:Nat}:∀{ts:List TypeId} {l:List (DataW H)} {i:Nat} {t:TypeId},ts[i]?=Z t->l[i]?=Z d->k∈d.weights P t->k∈DataW.weightsEach P ts l
 |[],_,i,t,h,_,_=>by simp at h
 |_::_,[],i,t,_,h,_=>by simp at h
 |t0::ts,x::l,0,t,h,hd,hk=>by
  simp only[kC,b_]at h hd;subst h hd;simp only[DataW.weightsEach,bA];exact .inl hk
 |t0::ts,x::l,i+1,t,h,hd,hk=>by
  simp only[pG]at h hd;simp only[DataW.weightsEach,bA];exact .inr (mS h hd hk)
def Small(P:Program)(t:TypeId)(d:DataW H):Prop:=∀k∈d.weights P t,k<=reachBytes
theorem uv{α:Type}{ake:C->α->List V->Prop}{t e s:Nat}(ht:P.underlying t=Z (.slice e))(hs:P.cellsOf e=s)(c_:0<s)(WW:0<P.bytesOf e)
  (hV:∀bH cs x,cs.length=s->DataW.trod enc P w base spare held bH e cs=Z x->Small P e x.1->∃u,ake w u cs)
  {bH:Nat} {v:V} {x:DataW H×List MemPlace} (h:DataW.trod enc P w base spare held bH t [v]=Z x) (hz:Small P t x.1):∃l,aG w v s l ake:=by
 rcases Deep.open_slice ht h with⟨fT,_⟩|⟨a,len,cap,m,n,akf,Pl,fT,_,hl,hm,hmm,rfl,hi⟩
 ·simp only[List.cons.injEq,and_true]at fT
  subst fT;exact⟨[],A,0,0,0,0,rfl,rfl,bG _,I,I,by simp,by simp⟩
 ·simp only[List.cons.injEq,and_true]at fT
  subst fT;have hlm:len<=m:=by rw[hmm];split<;>omega
  have pU:len<=140737488355328:=by
   have h1:(len+(m-len))*P.bytesOf e<=reachBytes:=by
    have:=hz ((len+(m-len))*P.bytesOf e) (by simp[DataW.weights,ht]);exact this
   have h2:len+(m-len)<=(len+(m-len))*P.bytesOf e:=Nat.le_mul_of_pos_right _ WW;simp only[reachBytes]at h1;omega
  have hD:∀i,i<m->Small P e (akf i):=λi VP k hk=>by
   refine hz k ?_;simp only[DataW.weights,ht,bD,bA]
   right
   by_cases iJ:i<len
   ·exact .inl (rA (aV.2 ⟨i,ax iJ,rfl⟩) hk)
   ·exact .inr (rA (aV.2 ⟨i-len,by simp;omega,by rw[show len+(i-len)=i by omega]⟩) hk)
  obtain⟨l,Np,hp⟩:=Ig (α:=α) (n:=len) (p:=λi u=>∃tP,w.cells? base (a.add (i*s)) s=Z tP/\ake w u tP) (λi iJ=>by
   obtain⟨tP,hc,Kr⟩:=hi i I;rw[hs]at hc;obtain⟨u,hu⟩:=hV n tP _ (World.cells?_some hc).2.1 Kr (hD i I);exact⟨u,tP,hc,hu⟩)
  refine⟨l,Z a,len,cap,a.block,a.off,rfl,Np.symm,hl,pU,by simpa[maxLen]using hm,λeQ=>?_,λi u hu=>?_⟩
  ·have h0:0<l.length:=rW.2 eQ
   obtain⟨tP,hc,_⟩:=hp 0 _ (a_ h0);obtain⟨_,hlen,oX⟩:=World.cells?_some hc;have h1:=oX 0 c_;rw[a_ I]at h1;have:=World.cell?_spot h1;simp only[nT,Addr.add_zero']at this;obtain⟨b,o,sp⟩:=a;simp only at this;subst this;rfl
  ·obtain⟨tP,hc,hv⟩:=hp i u hu
   refine⟨tP,λj y hj=>?_,hv⟩;obtain⟨_,hlen,oX⟩:=World.cells?_some hc;have jw:j<s:=by have:=(az.1 hj).1;omega
   have h1:=oX j jw;rw[hj]at h1;have GR:a.spot=A:=by
    have h0:=oX 0 c_;rw[a_ I,Addr.add_zero']at h0;have:=World.cell?_spot h0;unfold Addr.add at this
    split at this
    ·exact this
    ·rename_i eQ
     have h0':0<l.length:=by have:=(az.1 hu).1;omega
     obtain⟨cs0,Em,_⟩:=hp 0 _ (a_ h0');obtain⟨_,ahY,afG⟩:=World.cells?_some Em;have h3:=afG 0 c_;rw[a_ I]at h3;have:=World.cell?_spot h3;simpa only[nT,Addr.add_zero']using this
   obtain⟨b,o,sp⟩:=a;simp only at GR;subst GR;rw[Addr.add_lit,Addr.add_lit]at h1;exact h1
end
section
variable {H:Type} {enc:TypeId×V->H} {w:C} {base:Nat} {spare:Nat->Bool} {held:Bool}
theorem pP{t:Nat}{fs:Array Field}{bH:Nat}{cs:List V}{x:DataW H×List MemPlace}(ht:Tryz.prog.underlying t=Z (.struct fs))(h:DataW.trod enc ae w base spare held bH t cs=Z x)(hz:Small ae t x.1):
  ∃n,cs.length=Tryz.prog.cellsOf t/\∀(i T off:Nat),(fs[i]?).map (λf=>(f.type,f.offset))=Z (T,off)->∃y,DataW.trod enc ae w base spare held n T ((cs.drop off).take (Tryz.prog.cellsOf T))=Z y/\Small ae T y.1:=by
 obtain⟨xs,n,_,rfl,hlen,ue,hf⟩:=DataW.trod_struct ht h;refine⟨n,hlen,λi T off hi=>?_⟩;obtain⟨f,hif,e⟩:=cA.1 hi;simp only[Prod.mk.injEq]at e;obtain⟨rfl,rfl⟩:=e;have h1:=hf i f hif;have bS:i<xs.length:=by rw[ue];exact(fv.1 hif).1
 rw[a_ bS]at h1;refine⟨_,h1,λk hk=>hz k ?_⟩;simp only[DataW.weights,ht];exact mS (i:=i) (by simp[hif]) (by simp[a_ bS]) hk
theorem Ic:Tryz.prog.cellsOf 3=1:=by kernel_rfl
theorem acz:Tryz.prog.cellsOf 4=1:=by kernel_rfl
theorem acE:Tryz.prog.cellsOf 9=1:=by kernel_rfl
theorem YZ:Tryz.prog.cellsOf 42=1:=by kernel_rfl
theorem Wl:Tryz.prog.cellsOf 41=2:=by kernel_rfl
theorem Y0:Tryz.prog.cellsOf 47=1:=by kernel_rfl
theorem acA:Tryz.prog.cellsOf 56=8:=by kernel_rfl
theorem acB:Tryz.prog.cellsOf 39=1:=by kernel_rfl
theorem acC:Tryz.prog.cellsOf 49=2:=by kernel_rfl
theorem acD:Tryz.prog.cellsOf 38=1:=by kernel_rfl
theorem afb:Tryz.prog.cellsOf 44=4:=by kernel_rfl
theorem Ry:Tryz.prog.cellsOf 46=6:=by kernel_rfl
theorem Wk:Tryz.prog.cellsOf 33=1:=by kernel_rfl
theorem YY:Tryz.prog.cellsOf 35=4:=by kernel_rfl
theorem aaj:Tryz.prog.cellsOf 23=1:=by kernel_rfl
theorem MX:Tryz.prog.cellsOf 65=3:=by kernel_rfl
theorem Rz:Tryz.prog.cellsOf 22=1:=by kernel_rfl
theorem acF:Tryz.prog.cellsOf 25=2:=by kernel_rfl
theorem vK{bH:Nat}{cs:List V}{x:DataW H×List MemPlace}(h:DataW.trod enc ae w base spare held bH 3 cs=Z x):∃u,fI w u cs:=by
 obtain⟨n,rfl,_,hw⟩:=DataW.trod_int underlying3 h;exact⟨n,rfl,PE hw⟩
theorem abU{bH:Nat}{cs:List V}{x:DataW H×List MemPlace}(h:DataW.trod enc ae w base spare held bH 4 cs=Z x):∃b,cs=[D b]:=by
 obtain⟨b,rfl,_⟩:=DataW.trod_bool underlying4 h;exact⟨b,rfl⟩
theorem NX{bH:Nat}{cs:List V}{x:DataW H×List MemPlace}(h:DataW.trod enc ae w base spare held bH 41 cs=Z x)(hz:Small ae 41 x.1):∃u,mi w u cs:=by
 obtain⟨n,hl,hf⟩:=pP underlying41 h hz;rw[Wl]at hl
 match cs,hl with
 |[c0,c1],_=>
  obtain⟨y0,h0,z0⟩:=hf 0 4 0 rfl;obtain⟨y1,h1,z1⟩:=hf 1 3 1 rfl;rw[acz]at h0;rw[Ic]at h1;obtain⟨b,hb⟩:=abU h0;obtain⟨m,hm,hi⟩:=vK h1;simp at hb hm;subst hb hm;exact⟨⟨b,m⟩,rfl,hi⟩
theorem Mg{bH:Nat}{v:V}{x:DataW H×List MemPlace}(h:DataW.trod enc ae w base spare held bH 42 [v]=Z x)(hz:Small ae 42 x.1):∃l,aG w v 1 l fI:=
 uv underlying42 Ic I (of_decide_eq_true aR) (λ_ _ _ _ hh _=>vK hh) h hz
theorem Uk{bH:Nat}{v:V}{x:DataW H×List MemPlace}(h:DataW.trod enc ae w base spare held bH 47 [v]=Z x)(hz:Small ae 47 x.1):∃l,aG w v 2 l mi:=
 uv underlying47 Wl I (of_decide_eq_true aR) (λ_ _ _ _ hh hz=>NX hh hz) h hz
theorem aeQ{bH:Nat}{cs:List V}{x:DataW H×List MemPlace}(h:DataW.trod enc ae w base spare held bH 49 cs=Z x)(hz:Small ae 49 x.1):∃u,Cm w u cs:=by
 obtain⟨n,hl,hf⟩:=pP underlying49 h hz;rw[acC]at hl
 match cs,hl with
 |[c0,c1],_=>
  obtain⟨y0,h0,z0⟩:=hf 0 3 0 rfl;obtain⟨y1,h1,z1⟩:=hf 1 47 1 rfl;rw[Ic]at h0;rw[Y0]at h1;obtain⟨m,hm,hi⟩:=vK h0;simp at hm;subst hm;obtain⟨l,hs⟩:=Uk h1 z1;exact⟨⟨m,l⟩,c1,rfl,hi,hs⟩
theorem aeP{bH:Nat}{cs:List V}{x:DataW H×List MemPlace}(h:DataW.trod enc ae w base spare held bH 56 cs=Z x)(hz:Small ae 56 x.1):∃u,Cj w u cs:=by
 obtain⟨n,hl,hf⟩:=pP underlying56 h hz;rw[acA]at hl
 match cs,hl with
 |[c0,c1,c2,c3,c4,c5,c6,c7],_=>
  obtain⟨y0,h0,z0⟩:=hf 0 3 0 rfl;obtain⟨y1,h1,z1⟩:=hf 1 3 1 rfl;obtain⟨y2,h2,z2⟩:=hf 2 41 2 rfl;obtain⟨y3,h3,z3⟩:=hf 3 41 4 rfl;obtain⟨y4,h4,z4⟩:=hf 4 3 6 rfl;obtain⟨y5,h5,z5⟩:=hf 5 47 7 rfl;rw[Ic]at h0 h1 h4;rw[Wl]at h2 h3;rw[Y0]at h5;obtain⟨a0,e0,i0⟩:=vK h0;obtain⟨a1,e1,i1⟩:=vK h1;obtain⟨a2,e2,i2⟩:=NX h2 z2;obtain⟨a3,e3,i3⟩:=NX h3 z3;obtain⟨a4,e4,i4⟩:=vK h4;obtain⟨l,hs⟩:=Uk h5 z5;simp at e0 e1 e2 e3 e4;obtain⟨e2,e2'⟩:=e2;obtain⟨e3,e3'⟩:=e3;subst e0 e1 e2 e2' e3 e3' e4;exact⟨⟨a0,a1,a2,a3,a4,l⟩,c7,rfl,i0,i1,i2,i3,i4,hs⟩
theorem abX{bH:Nat}{v:V}{x:DataW H×List MemPlace}(h:DataW.trod enc ae w base spare held bH 38 [v]=Z x)(hz:Small ae 38 x.1):∃l,aG w v 2 l Cm:=
 uv underlying38 acC I (of_decide_eq_true aR) (λ_ _ _ _ hh hz=>aeQ hh hz) h hz
theorem abW{bH:Nat}{v:V}{x:DataW H×List MemPlace}(h:DataW.trod enc ae w base spare held bH 39 [v]=Z x)(hz:Small ae 39 x.1):∃l,aG w v 8 l Cj:=
 uv underlying39 acA I (of_decide_eq_true aR) (λ_ _ _ _ hh hz=>aeP hh hz) h hz
theorem X9{bH:Nat}{cs:List V}{x:DataW H×List MemPlace}(h:DataW.trod enc ae w base spare held bH 46 cs=Z x)(hz:Small ae 46 x.1):∃u,ed w u cs:=by
 obtain⟨n,hl,hf⟩:=pP underlying46 h hz;rw[Ry]at hl
 match cs,hl with
 |[c0,c1,c2,c3,c4,c5],_=>
  obtain⟨y0,h0,z0⟩:=hf 0 38 0 rfl;obtain⟨y1,h1,z1⟩:=hf 1 39 1 rfl;obtain⟨y2,h2,z2⟩:=hf 2 44 2 rfl;rw[acD]at h0;rw[acB]at h1;rw[afb]at h2;obtain⟨lp,sp⟩:=abX h0 z0;obtain⟨li,si⟩:=abW h1 z1;obtain⟨m,hm,hg⟩:=pP underlying44 h2 z2;obtain⟨z0,k0,zk0⟩:=hg 0 3 0 rfl;obtain⟨z1,k1,zk1⟩:=hg 1 41 1 rfl;obtain⟨z2,k2,zk2⟩:=hg 2 42 3 rfl;rw[Ic]at k0;rw[Wl]at k1;rw[YZ]at k2;obtain⟨a0,e0,i0⟩:=vK k0;obtain⟨a1,e1,i1⟩:=NX k1 zk1;obtain⟨lt,st⟩:=Mg k2 zk2;simp at e0 e1;obtain⟨e1,e1'⟩:=e1;subst e0 e1 e1';exact⟨⟨lp,li,a0,a1,lt⟩,c0,c1,c5,rfl,i0,i1,sp,si,st⟩
theorem Uf{bH:Nat}{v:V}{x:DataW H×List MemPlace}(h:DataW.trod enc ae w base spare held bH 33 [v]=Z x)(hz:Small ae 33 x.1):∃l,aG w v 6 l ed:=
 uv underlying33 Ry I (of_decide_eq_true aR) (λ_ _ _ _ hh hz=>X9 hh hz) h hz
theorem abV{bH:Nat}{cs:List V}{x:DataW H×List MemPlace}(h:DataW.trod enc ae w base spare held bH 35 cs=Z x)(hz:Small ae 35 x.1):∃u,gq w u cs:=by
 obtain⟨n,hl,hf⟩:=pP underlying35 h hz;rw[YY]at hl
 match cs,hl with
 |[c0,c1,c2,c3],_=>
  obtain⟨y0,h0,z0⟩:=hf 0 9 0 rfl;obtain⟨y1,h1,z1⟩:=hf 1 3 1 rfl;obtain⟨y2,h2,z2⟩:=hf 2 3 2 rfl;obtain⟨y3,h3,z3⟩:=hf 3 33 3 rfl;rw[acE]at h0;rw[Ic]at h1 h2;rw[Wk]at h3;obtain⟨s,e0,_,_⟩:=DataW.trod_string underlying9 h0;obtain⟨a1,e1,i1⟩:=vK h1;obtain⟨a2,e2,i2⟩:=vK h2;obtain⟨l,hs⟩:=Uf h3 z3;simp at e0 e1 e2;subst e0 e1 e2;exact⟨⟨s,a1,a2,l⟩,c3,rfl,i1,i2,hs⟩
theorem Ui{bH:Nat}{cs:List V}{x:DataW H×List MemPlace}(h:DataW.trod enc ae w base spare held bH 65 cs=Z x)(hz:Small ae 65 x.1):∃u,fg w u cs:=by
 obtain⟨n,hl,hf⟩:=pP underlying65 h hz;rw[MX]at hl
 match cs,hl with
 |[c0,c1,c2],_=>
  obtain⟨y0,h0,z0⟩:=hf 0 9 0 rfl;obtain⟨y1,h1,z1⟩:=hf 1 3 1 rfl;obtain⟨y2,h2,z2⟩:=hf 2 42 2 rfl;rw[acE]at h0;rw[Ic]at h1;rw[YZ]at h2;obtain⟨s,e0,_,_⟩:=DataW.trod_string underlying9 h0;obtain⟨a1,e1,i1⟩:=vK h1;obtain⟨l,hs⟩:=Mg h2 z2;simp at e0 e1;subst e0 e1;exact⟨⟨s,a1,l⟩,c2,rfl,i1,hs⟩
theorem abY{bH:Nat}{cs:List V}{x:DataW H×List MemPlace}(h:DataW.trod enc ae w base spare held bH 25 cs=Z x)(hz:Small ae 25 x.1):∃u,acv w u cs:=by
 obtain⟨n,hl,hf⟩:=pP underlying25 h hz;rw[acF]at hl
 match cs,hl with
 |[c0,c1],_=>
  obtain⟨y0,h0,z0⟩:=hf 0 22 0 rfl;obtain⟨y1,h1,z1⟩:=hf 1 23 1 rfl;rw[Rz]at h0;rw[aaj]at h1;obtain⟨lg,sg⟩:=uv underlying22 MX I (of_decide_eq_true aR) (λ_ _ _ _ hh hz=>Ui hh hz) h0 z0;obtain⟨lf,sf⟩:=uv underlying23 YY I (of_decide_eq_true aR) (λ_ _ _ _ hh hz=>abV hh hz) h1 z1;exact⟨⟨lg,lf⟩,c0,c1,rfl,sg,sf⟩
end
theorem own:ownKnob Tryz.prog.godebug=A:=by kernel_rfl
theorem laidOut:laidOutB ae=true:=by kernel_rfl
theorem xt{H:Type}{enc:TypeId×V->H}{W W':C}(hb:Below W.heap.size W W'):∀(ts:List TypeId) (vs:List V) (ds:List (DataW H)) (ps:List MemPlace),
  (∀t∈ts,Tryz.prog.readableRec t=true/\t<Tryz.prog.types.size)->DataW.TrodAll enc ae W 0 (λ_=>true) true ts vs ds ps->DataW.TrodAll enc ae W' 0 (λb=>decide (b<W.heap.size)) true ts vs ds ps
 |[],vs,ds,ps,_,h=>by obtain⟨rfl,rfl,rfl⟩:=trodAll_nil h;exact rfl
 |t::ts,vs,ds,ps,hr,h=>by
  obtain⟨v,vs',d,ds',p,q,rfl,rfl,rfl,h0,h1⟩:=trodAll_cons h;have lt0:∀x∈p,x.block<W.heap.size:=by obtain⟨m,hm⟩:=h0;exact DataW.trod_lt m _ _ _ hm
  exact⟨p,q,Below.trod laidOut (hr t aC).1 (hr t aC).2 h0 hb lt0,xt hb ts vs' ds' q (λu hu=>hr u (by simp[hu])) h1,rfl⟩
theorem TM{k:FuncId}{fn:Func}{s:ChangeSpec}{ts:List TypeId}(hp:fn.params.toList=ts)(ahc:fn.resultTypes= #[4])(ZW:s.vars=[])
  (Xt:∀t∈ts,Tryz.prog.readableRec t=true/\t<Tryz.prog.types.size)
  {H:Type} {enc:TypeId×V->H} {W:C} {args:Array V} {ds gs:List (DataW H)} {before:List MemPlace}
  (qq:ds.length=ts.length->s.fn H ds={results:=[.lit (.bool true)],args:=ds})
  (hW:DataW.Whole enc ae fn.params.toList s.vars false W args.toList ds gs before)
  (aeG:∀p,DataW.TrodAll enc ae W 0 (λ_=>true) true ts args.toList ds p->eP ae k args.toList W (D true)):
  Calls ae k args W λe W'=>∃v,e=.returned v/\s.post enc ae fn false true false false W args v W':=by
 have tV:=hW;obtain⟨p,q,hA,hV,rfl,Zr,oZ⟩:=hW;rw[hp]at hA;rw[ZW]at hV;obtain⟨rfl,rfl⟩:=trodVars_none hV;have hlen:∀(ts:List TypeId) (vs:List V) (ds:List (DataW H)) (ps:List MemPlace),DataW.TrodAll enc ae W 0 (λ_=>true) true ts vs ds ps->ds.length=ts.length:=by
  intro ts
  induction ts with
  |nil=>intro vs ds ps h;obtain⟨_,rfl,_⟩:=trodAll_nil h;rfl
  |cons t ts ih=>intro vs ds ps h;obtain⟨v,vs',d,ds',p,q,rfl,rfl,rfl,h0,h1⟩:=trodAll_cons h;simp[ih _ _ _ h1]
 have hs:=qq (hlen _ _ _ _ hA);have h3:Calls ae k args W λe w'=>∃u,e=.returned u/\u=D true/\l_ cX W w':=by
  have:=callsIn_wide.1 (aeG _ hA);simpa using this
 refine h3.mono λe W' ⟨u,he,hu,hc⟩=>?_;subst hu;refine⟨_,he,ds,[],_,[],p,[],tV,?_,?_,?_,hc.below.frame _,λh=>by cases h⟩
 ·rw[cD,hs,ahc]
  exact trodAll_mk1 (shut_bool underlying4 _)
 ·rw[cD,hs,hp]
  exact xt hc.below _ _ _ _ Xt hA
 ·rw[cD,hs,ZW]
  exact rfl
end
end
section
set_option maxRecDepth 100000
open Go.ChangeAt Go.ChangeShapes Go.WideShapes
def Ee:List (String×DataW Unit):=[("turnery/code.ways",Rows.laid_turnery_code_ways)]
theorem IB:Tryz.prog.globalNamed "turnery/code.ways" =Z 0:=by kernel_rfl
theorem O6:(Tryz.prog.globals[0]?).map (·.type)=Z 155:=by kernel_rfl
theorem acG:Tryz.prog.cellsOf 155=4:=by kernel_rfl
theorem YJ{W:C}(h:laidMetH ae Ee W):bF W 0 0 nI:=by
 have ht:Lib.TabIs ae W "turnery/code.ways" O [0,0,1,2]:=Lib.tabIs_of_head (rest:=[]) IB O6 underlying155 underlying3 Ic acG h
 intro j v hj;rw[di]
 match j,hj with
 |0,hj=>simp only[nI,kC,b_]at hj;subst hj;exact ht.cell IB 0 (by decide)
 |1,hj=>simp only[nI,pG,kC,b_]at hj;subst hj;exact ht.cell IB 1 (by decide)
 |2,hj=>simp only[nI,pG,kC,b_]at hj;subst hj;exact ht.cell IB 2 (by decide)
 |3,hj=>simp only[nI,pG,kC,b_]at hj;subst hj;exact ht.cell IB 3 (by decide)
 |j+4,hj=>simp[nI]at hj
theorem QD{l:List Nat}(h:l.all (·<=reachBytes)=true):∀k∈l,k<=reachBytes:=by
 intro k hk;have:=List.all_eq_true.1 h k hk;simpa using this
noncomputable def Au(os:Os):C:=
 {World.holding ae os ⟨#[],#[],[]⟩with heap:=(World.holding ae os ⟨#[],#[],[]⟩).heap.modify 0 λ
  | .cells _ t frozen=>.cells #[U O 0,U O 0,U O 1,U O 2] t frozen
  |o=>o}
theorem TJ(os:Os)(args:Array V):laidMet ae Ee ((Au os).forCall (λ_ _=>0) ⟨#[],args,[]⟩).memory:=
 laidMet_of_run' 8 aR aR
end
section
set_option maxHeartbeats 8000000
attribute [local irreducible] wpListIn Code.wpIn Exit.then Exit.inBlock bodyPost wpQuiet wpAnyIn bodyPostM
structure kx where
 a:Option Addr
 c:Nat
 l:List Bool
def iy(R:Nat)(r:kx):V:=.slice r.a R r.c
def jf(R:Nat)(r:kx):bN:=js r.a R r.c r.l
theorem Od{S:Nat->Prop}{w0 w:C}{R:Nat}{rs:List kx}{a:Option Addr}{n c e:Nat}{H:List bN}(h:Wd S w0 (M a n c e 1 (rs.map (iy R))::(rs.map (jf R)++H)) w)(hn:n=rs.length)(hb:n<=1000)(hR:R<=1000)(hl:∀r∈rs,r.l.length=R):
  aG w (J a n c) 1 (rs.map (·.l)) Ez:=by
 refine h.oH (k:=0) rfl (ax hn) I λi x hx=>?_;rw[aJ]at hx;obtain⟨r,hr,rfl⟩:=cA.1 hx;have bS:i<rs.length:=(az.1 hr).1;have nO:=hl r (aq hr);refine⟨[iy R r],λj v hj=>?_,iy R r,rfl,?_⟩
 ·match j,hj with
  |0,hj=>simpa[hr]using hj
 ·refine h.oH (k:=i+1) (a:=r.a) (n:=R) (c:=r.c) (e:=4) (s:=1) (xs:=r.l.map D) ?_ nO.symm I λj y hy=>⟨[D y],λk v hk=>?_,rfl⟩
  ·rw[pG,dY (ax bS),aJ,hr];rfl
  ·match k,hk with
   |0,hk=>simpa[hy]using hk
theorem ab6{S:Nat->Prop}{w0 w:C}{R:Nat}{rs:List kx}{akg H:List bN}(h:Wd S w0 (akg++(rs.map (jf R)++H)) w){i:Nat}{r:kx}(hr:rs[i]?=Z r)(hR:R<=1000)(hl:r.l.length=R):aG w (iy R r) 1 r.l AX:=by
 have bS:i<rs.length:=(az.1 hr).1;refine h.oH (k:=akg.length+i) (a:=r.a) (n:=R) (c:=r.c) (e:=4) (s:=1) (xs:=r.l.map D) ?_ hl.symm I λj y hy=>⟨[D y],λk v hk=>?_,rfl⟩
 ·rw[dC I,show akg.length+i-akg.length=i by omega,dY (ax bS),aJ,hr];rfl
 ·match k,hk with
  |0,hk=>simpa[hy]using hk
abbrev sN(R:Nat)(wz:C):Type:={y:Int×dJ×(Option Addr×Nat×Nat)//wV R y.2.1/\y.2.1.args.length<=1000/\aG wz (J y.2.2.1 y.2.2.2.1 y.2.2.2.2) 2 y.2.1.args mi}
def BK(x:dJ)(v:Option Addr×Nat×Nat):List V:=[U O x.op,U O x.dst,D x.a.z,U O x.a.n,D x.b.z,U O x.b.n,U O x.fn,J v.1 v.2.1 v.2.2]
def sN.enc{R:Nat}{wz:C}(y:sN R wz):Int×List V:=(y.1.1,BK y.1.2.1 y.1.2.2)
theorem FE{α β:Type}{p:Nat->α->β->Prop}:∀(l:List α),(∀i x,l[i]?=Z x->∃y,p i x y)->∃ys:List β,ys.length=l.length/\∀i x,l[i]?=Z x->∃y,ys[i]?=Z y/\p i x y:=by
 intro l h
 classical
 refine⟨(List.range l.length).attach.map λi=>Classical.choose (h i.1 (l[i.1]'(by have:=i.2;simpa using this)) (a_ _)),by simp,λi x hx=>?_⟩;have bS:=(az.1 hx).1;have Ew:=(az.1 hx).2;refine⟨_,by rw[a_ (ax bS)],?_⟩;simp only[List.getElem_map,List.getElem_attach,List.getElem_range];have:=Classical.choose_spec (h i (l[i]'bS) (a_ _));simpa[Ew]using this
theorem XB{R:Nat}{wz:C}{b o:Nat}{l:List dJ}(cY:∀x∈l,wV R x)(ri:∀x∈l,x.args.length<=1000)(ji:∀i x,l[i]?=Z x->∃cs,bF wz b (o+i*8) cs/\Cj wz x cs):
  ∃(zs:List (List V)) (xs:List (sN R wz)),zs.length=l.length/\(∀akj∈zs,akj.length=8)/\xs.map sN.enc=yG zs zs.length/\xs.map (·.1.2.1)=l.reverse/\∀m akj,zs[m]?=Z akj->∀j v,akj[j]?=Z v->wz.cell? ⟨b,o+m*8+j,A⟩=Z v:=by
 obtain⟨ys,Dm,hys⟩:=FE (p:=λi x (v:Option Addr×Nat×Nat)=>bF wz b (o+i*8) (BK x v)/\aG wz (J v.1 v.2.1 v.2.2) 2 x.args mi) l λi x hx=>by
  obtain⟨cs,hc,v,rfl,_,_,_,_,_,hs⟩:=ji i x hx;have Pz:=hs;obtain⟨va,vn,vc,_,_,rfl,_⟩:=hs;exact⟨(va,vn,vc),hc,Pz⟩
 have hex:∀k,k<=l.length->∃xs:List (sN R wz),xs.map sN.enc=yG ((List.range l.length).map λi=>BK (l[i]?.getD ⟨0,0,iu,iu,0,[]⟩) (ys[i]?.getD (A,0,0))) k/\xs.map (·.1.2.1)=l.reverse.take k:=by
  intro k
  induction k with
  |zero=>exact λ_=>⟨[],by simp[yG],by simp⟩
  |succ k ih=>
   intro hk;obtain⟨xs,h1,h2⟩:=ih I;obtain⟨x,hx⟩:=bf l (l.length-1-k) I;obtain⟨v,hv,hc,hs⟩:=hys _ x hx;refine⟨xs++[⟨(((l.length-1-k:Nat):Int),x,v),cY x (aq hx),ri x (aq hx),hs⟩],?_,?_⟩
   ·rw[bz,h1]
    simp only[yG,kU,bz,bT,dn,aF,fA];congr 1;have bS:l.length-1-k<l.length:=I;simp only[sN.enc,aJ,eX bS,bu,dW,hx,hv]
   ·rw[bz,h2,cz,List.getElem?_reverse I,hx];rfl
 obtain⟨xs,h1,h2⟩:=hex l.length (bG _);refine⟨(List.range l.length).map λi=>BK (l[i]?.getD ⟨0,0,iu,iu,0,[]⟩) (ys[i]?.getD (A,0,0)),xs,by simp,λakj hz=>?_,ax h1,by rw[h2,kh aC],λm akj hz j v hj=>?_⟩
 ·obtain⟨i,_,rfl⟩:=aV.1 hz
  rfl
 ·rw[aJ]at hz
  obtain⟨i,hi,rfl⟩:=cA.1 hz;have bS:m<l.length:=by have:=(az.1 hi).1;simpa using this
  rw[eX bS]at hi;simp only[b_]at hi;subst hi;obtain⟨x,hx⟩:=bf l m bS;obtain⟨v',PA,hc,_⟩:=hys m x hx;rw[hx,PA]at hj;exact hc j v hj
theorem Gh{R:Nat}{own:Nat->Prop}{wz w:C}{Bs n c b o:Nat}{a:Option Addr}{zs:List (List V)}{xs:List (sN R wz)}(hn:n=zs.length)(ha:zs≠[]->a=Z ⟨b,o,A⟩)(hlen:zs.length<=100000)(h8:∀akj∈zs,akj.length=8)
  (jd:∀m akj,zs[m]?=Z akj->∀j v,akj[j]?=Z v->wz.cell? ⟨b,o+m*8+j,A⟩=Z v) (abp:∀p v,wz.cell? p=Z v->¬own p.block) (hBo:¬own Bs) (VX:∀p v,wz.cell? p=Z v->w.cell? p=Z v) (hB:w.cell? ⟨Bs,0,A⟩=Z (J a n c)) (nK:xs.map sN.enc=yG zs zs.length):
  SeqStopsK (FW A) 4 ae 165 #[ar (Z ⟨Bs,0,A⟩)] (λx:sN R wz=>#[U O (sN.enc x).1,au (sN.enc x).2.toArray]) (kT own) (λys=>ys=xs) (λpre=>pre<+:xs) xs.length w:=by
 intro l aj8 Jx W hW _ _ hY h0;have ue:xs.length=zs.length:=by have:=congrArg List.length nK;rwa[aF,yH]at this
 subst hn;have hcW:∀p v,w.cell? p=Z v->W.cell? p=Z v:=λp v hp=>(hW.cell (World.block_lt_of_cell? w _ hp)).trans hp;refine H4 4 I sN.enc l Bs b o c (λb=>¬own b) (kT own) (kT.refl own) (λ_ _ _ h k=>h.trans k) (λaka B h p v hp hc=>h.cell hp hc) zs xs nK hlen (λeQ=>?_) hBo aj8 Jx a (λeQ=>ha eQ) (λpre x W1 hJ hl=>hY pre x W1 hJ I) W (hcW _ _ hB) h8 (λm akj hz j v hj=>hcW _ _ (VX _ _ (jd m akj hz j v hj))) h0;obtain⟨akj,hz⟩:=bf zs 0 (rW.2 eQ);have hz8:=h8 akj (aq hz);obtain⟨v,hv⟩:=bf akj 0 I;exact abp _ v (jd 0 akj hz 0 v hv)
end
section
section
variable {P:Program} {N:Nat} {ds:List Deferred} {S:Nat->Prop} {w0:C} {L L':List (Nat×V)} {H H' Hr:List bN} {Q:Exit->Act->C->Prop} {x y:Operand} {akd:Act->C->Prop} {l:List Oper} {bH:Nat} {listed:Array Bool}
theorem Lh{d ty f:Nat}(i:Nat){args:List Operand}{vs:List V}{pA:Array Nat}{pos:String}{aft:Array Go.Edge}(R:C->V->C->Prop)[ho:dF l i ⟨Z d,.call {callee:=.value (.func f),args:=args.toArray,argTypes:=pA},ty,pos,aft,A⟩][h:aQ P f][hx:AY L args vs](hd:dy d N L=true)
  (hr:decide (Region.ready .any l.toArray listed=[i])=true)
  (hc:∀w,Wd S w0 H w->iC P f vs w (R w))
  (k:∀v w w',Wd S w0 H w->R w v w'->Wd S w0 Hr w'/\∀a,Fr N ds ((d,v)::L) a->wpAnyH P .any l.toArray (dK akd) (Wd S w0 Hr) bH (listed.setIfInBounds i true) a w'):aki N ds S w0 L H (wpAnyH P .any l.toArray (dK akd) (Wd S w0 Hr) (bH+1) listed):=by
 intro a w hS;refine wpAnyH_all (of_decide_eq_true hr) aC λi' yY=>?_;simp only[bR]at yY;subst yY;unfold wpOp;rw[show l.toArray[i']?=Z ⟨Z d,.call {callee:=.value (.func f),args:=args.toArray,argTypes:=pA},ty,pos,aft,A⟩ by simpa using ho.at'];simp only;rw[if_pos (show Region.wanted (⟨Z d,.call {callee:=.value (.func f),args:=args.toArray,argTypes:=pA},ty,pos,aft,A⟩:Oper) (yielded l.toArray a.tmps)=true from rfl)]
 left
 unfold Oper.wp;have rp:(execOp a.eval ⟨Z d,.call {callee:=.value (.func f),args:=args.toArray,argTypes:=pA},ty,pos,aft,A⟩).run P w=.ok (.enter f vs.toArray) w:=by
  simp[execOp,resolve,Act.eval,Deferred.ofValue,invoke,hx.eq _ _ _ hS.fr,h.run]
 rw[rp];refine Calls.mono (callsIn_wide.1 (hc w hS.wd)) λe w' ⟨v,he,hR⟩=>?_;subst he;obtain⟨h1,h2⟩:=k v w w' hS.wd hR;exact⟨h1,h2 _ (hS.fr.eo hd v)⟩
theorem Nd{d ty f:Nat}(i:Nat){args:List Operand}{vs:List V}{pA:Array Nat}{pos:String}{aft:Array Go.Edge}{u:V}[ho:dF l i ⟨Z d,.call {callee:=.value (.func f),args:=args.toArray,argTypes:=pA},ty,pos,aft,A⟩][h:aQ P f][hx:AY L args vs](hd:dy d N L=true)
  (hr:decide (Region.ready .any l.toArray listed=[i])=true) (hH:Hr.Sublist H)
  (hc:∀w,Wd S w0 H w->eP P f vs w u)
  (k:aki N ds S w0 ((d,u)::L) H (wpAnyH P .any l.toArray (dK akd) (Wd S w0 Hr) bH (listed.setIfInBounds i true))):aki N ds S w0 L H (wpAnyH P .any l.toArray (dK akd) (Wd S w0 Hr) (bH+1) listed):=
 Lh i (λw v w'=>v=u/\l_ cX w w') hd hr hc λv _ w' hw hR=>⟨(hw.call hR.2).sub hH,λa hF=>k a w' ⟨by rw[<-hR.1];exact hF,hw.call hR.2⟩⟩
theorem yT{α:Type}{val:α->V}{akg:α->List bN}{φ:α->Prop}{d ty f:Nat}(i:Nat){args:List Operand}{vs:List V}{pA:Array Nat}{pos:String}{aft:Array Go.Edge}[ho:dF l i ⟨Z d,.call {callee:=.value (.func f),args:=args.toArray,argTypes:=pA},ty,pos,aft,A⟩][h:aQ P f][hx:AY L args vs](hd:dy d N L=true)
  (hr:decide (Region.ready .any l.toArray listed=[i])=true) (hH:Hr.Sublist H)
  (hc:∀w,Wd S w0 H w->iC P f vs w λu w'=>∃x,u=val x/\Wd cX w (akg x) w'/\φ x)
  (k:∀x,φ x->aki N ds S w0 ((d,val x)::L) (akg x++H) (wpAnyH P .any l.toArray (dK akd) (Wd S w0 Hr) bH (listed.setIfInBounds i true))):aki N ds S w0 L H (wpAnyH P .any l.toArray (dK akd) (Wd S w0 Hr) (bH+1) listed):=
 Lh i (λ_ u w'=>∃x,u=val x/\Wd S w0 (akg x++H) w'/\φ x) hd hr (λw hw=>(hc w hw).mono λv w' ⟨x,h1,h2,h3⟩=>⟨x,h1,hw.more h2,h3⟩) λv w w' hw hR=>by
  obtain⟨x,rfl,h2,h3⟩:=hR;exact⟨h2.sub (hH.trans (sP _ _)),λa hF=>k x h3 a w' ⟨hF,h2⟩⟩
theorem n9{α:Type}{val:α->V}{akg:α->List bN}{φ:α->Prop}{H1 H2:List bN}{d ty f:Nat}(i:Nat){args:List Operand}{vs:List V}{pA:Array Nat}{pos:String}{aft:Array Go.Edge}[ho:dF l i ⟨Z d,.call {callee:=.value (.func f),args:=args.toArray,argTypes:=pA},ty,pos,aft,A⟩][h:aQ P f][hx:AY L args vs](hd:dy d N L=true)
  (hr:decide (Region.ready .any l.toArray listed=[i])=true) (hH:Hr.Sublist H2)
  (hc:∀w,Wd S w0 (H1++H2) w->iC P f vs w λu w'=>∃x,u=val x/\Wd (cH H1) w (akg x) w'/\φ x)
  (k:∀x,φ x->aki N ds S w0 ((d,val x)::L) (akg x++H2) (wpAnyH P .any l.toArray (dK akd) (Wd S w0 Hr) bH (listed.setIfInBounds i true))):aki N ds S w0 L (H1++H2) (wpAnyH P .any l.toArray (dK akd) (Wd S w0 Hr) (bH+1) listed):=
 Lh i (λ_ u w'=>∃x,u=val x/\Wd S w0 (akg x++H2) w'/\φ x) hd hr (λw hw=>(hc w hw).mono λv w' ⟨x,h1,h2,h3⟩=>⟨x,h1,hw.comp h2,h3⟩) λv w w' hw hR=>by
  obtain⟨x,rfl,h2,h3⟩:=hR;exact⟨h2.sub (hH.trans (sP _ _)),λa hF=>k x h3 a w' ⟨hF,h2⟩⟩
theorem Sb{o:Oper}(i:Nat)[ho:dF l i o](hg:o.guard=A)(hr:decide (Region.ready .any l.toArray listed=[i])=true)
  (k:∀a w,St N ds S w0 L H a w->∃w',(execOp a.eval o).run P w=.ok .skip w'/\Wd S w0 Hr w'/\wpAnyH P .any l.toArray (dK akd) (Wd S w0 Hr) bH (listed.setIfInBounds i true) (a.put o.dst undef) w'):aki N ds S w0 L H (wpAnyH P .any l.toArray (dK akd) (Wd S w0 Hr) (bH+1) listed):=by
 intro a w hS;obtain⟨w',h1,h2,h3⟩:=k a w hS;refine wpAnyH_all (of_decide_eq_true hr) aC λi' yY=>?_;simp only[bR]at yY;subst yY;unfold wpOp;rw[show l.toArray[i']?=Z o by simpa using ho.at'];simp only;rw[if_pos (show Region.wanted o (yielded l.toArray a.tmps)=true by simp[Region.wanted,hg])]
 left
 unfold Oper.wp;rw[h1];exact⟨h2,h3⟩
theorem IM{o:Oper}(i:Nat)[ho:dF l i o](hg:o.guard=A)(hr:decide (Region.ready .any l.toArray listed=[i])=true)
  (k:∀a w,St N ds S w0 L H a w->∃v w',(execOp a.eval o).run P w=.ok (.value v) w'/\Wd S w0 Hr w'/\wpAnyH P .any l.toArray (dK akd) (Wd S w0 Hr) bH (listed.setIfInBounds i true) (a.put o.dst v) w'):aki N ds S w0 L H (wpAnyH P .any l.toArray (dK akd) (Wd S w0 Hr) (bH+1) listed):=by
 intro a w hS;obtain⟨v,w',h1,h2,h3⟩:=k a w hS;refine wpAnyH_all (of_decide_eq_true hr) aC λi' yY=>?_;simp only[bR]at yY;subst yY;unfold wpOp;rw[show l.toArray[i']?=Z o by simpa using ho.at'];simp only;rw[if_pos (show Region.wanted o (yielded l.toArray a.tmps)=true by simp[Region.wanted,hg])]
 left
 unfold Oper.wp;rw[h1];exact⟨h2,h3⟩
theorem yU{ty T b o j t:Nat}(i:Nat)[h:OneCell P T]{cs tP:List V}{v:V}{pos:String}{aft:Array Go.Edge}[ho:dF l i ⟨A,.store T x y,ty,pos,aft,A⟩]
  [hx:Ev L x (ar (Z ⟨b,o,A⟩))] [hy:Ev L y v] [h1:zT v] [hb:nr H b j cs t] {u:V} [hu:dF cs o u] [hs:rT cs o v tP] [hH:rT H j (K b tP t) H']
  (hr:decide (Region.ready .any l.toArray listed=[i])=true) (O_:Hr.Sublist H')
  (kk:aki N ds S w0 L H' (wpAnyH P .any l.toArray (dK akd) (Wd S w0 Hr) bH (listed.setIfInBounds i true))):aki N ds S w0 L H (wpAnyH P .any l.toArray (dK akd) (Wd S w0 Hr) (bH+1) listed):=by
 refine Sb i rfl hr λa w hS=>?_;have IW:=hS.wd.Cs j hb.at';have:=l0 (P:=P) (T:=T) h1.one (hS.wd.mP j hb.at' hu.at') (by simp[World.frozen?,IW]);have ek:=hS.wd.MB j (o:=o) v hb.at';rw[hs.BN,hH.BN]at ek;exact⟨w.setCell ⟨b,o,A⟩ v,by simp[execOp,hx.eq _ _ _ hS.fr,hy.eq _ _ _ hS.fr,this],ek.sub O_,kk _ _ ⟨hS.fr,ek⟩⟩
theorem cR{ty T b o j t n:Nat}(i:Nat)[h:eD P T n]{cs vs tP:List V}{pos:String}{aft:Array Go.Edge}[ho:dF l i ⟨A,.store T x y,ty,pos,aft,A⟩]
  [hx:Ev L x (ar (Z ⟨b,o,A⟩))] [hy:Ev L y (au vs.toArray)] [hb:nr H b j cs t] [hn:lA vs n] [hp:AZ cs o vs tP] [h1:u4 vs] [hH:rT H j (K b tP t) H']
  (hr:decide (Region.ready .any l.toArray listed=[i])=true) (O_:Hr.Sublist H')
  (kk:aki N ds S w0 L H' (wpAnyH P .any l.toArray (dK akd) (Wd S w0 Hr) bH (listed.setIfInBounds i true))):aki N ds S w0 L H (wpAnyH P .any l.toArray (dK akd) (Wd S w0 Hr) (bH+1) listed):=by
 refine Sb i rfl hr λa w hS=>?_;have IW:=hS.wd.Cs j hb.at';have hs:=run_storeCells_at P b o t vs 0 cs.toArray w IW (ax hp.le) h1.all;have e:(cs.toArray.toList.take (o+0)++vs++cs.toArray.toList.drop (o+0+vs.length)).toArray=tP.toArray:=by
  rw[<-hp.eq,<-zn cs o vs hp.le];simp
 rw[e]at hs;have ek:=hS.wd.UQ j tP hb.at';rw[hH.BN]at ek;exact⟨w.setRow b tP.toArray,by simp[execOp,hx.eq _ _ _ hS.fr,hy.eq _ _ _ hS.fr,Instr.storeAt,Instr.sureAddr,storeVar,h.sz,Value.cells,hn.eq,hs],ek.sub O_,kk _ _ ⟨hS.fr,ek⟩⟩
theorem eA(hr:(Region.ready .any l.toArray listed).isEmpty=true)(k:aki N ds S w0 L H akd):aki N ds S w0 L H (wpAnyH P .any l.toArray (dK akd) (Wd S w0 Hr) bH listed):=λa w hS=>wpAnyH_done (List.isEmpty_iff.1 hr) (k a w hS) _
end
end
section
set_option maxHeartbeats 8000000
attribute [local irreducible] wpListIn Code.wpIn Exit.then Exit.inBlock bodyPost wpQuiet wpAnyIn bodyPostM
def r_(rs:List kx):Nat:=(rs.map λr=>gW r.l).sum
theorem JD{rs:List kx}{b:Nat}{r r':kx}(h:rs[b]?=Z r):r_ (rs.set b r')+gW r.l=r_ rs+gW r'.l:=by
 unfold r_
 induction rs generalizing b with
 |nil=>simp at h
 |cons x rs ih=>
  cases b with
  |zero=>
   simp only[kC,b_]at h;subst h;simp only[bW,bT,eT];omega
  |succ b=>
   have:=ih (ax h);simp only[cG,bT,eT]at this⊢;omega
theorem Bw:∀{l m:List Bool},l.length=m.length->(∀r,has l r->has m r)->l≠m->gW m<gW l
 |[],[],_,_,h=>absurd rfl h
 |[],_::_,h,_,_=>by simp at h
 |_::_,[],h,_,_=>by simp at h
 |x::l,y::m,h,hs,eQ=>by
  have hl:l.length=m.length:=ax h;have ht:∀r,has l r->has m r:=λr hr=>by have:=hs (r+1);simpa[has]using this (by simpa[has]using hr)
  have h0:=hs 0;simp only[has,kC,b_]at h0
  by_cases e:l=m
  ·subst e
   cases x<;>cases y<;>simp_all [gW]
  ·have:=Bw hl ht e
   cases x<;>cases y<;>simp_all [gW]<;>omega
structure Cl(R:Nat)(bl:List E)(rs:List kx):Prop where
 len:rs.length=bl.length
 row:∀r∈rs,r.l.length=R
 pre:∀b r,pV (rs.map (·.l)) b r->Head bl (pV (rs.map (·.l))) b r
 sound:∀b r,pV (rs.map (·.l)) b r->ik bl r b (-1)
theorem Dn{rs:List kx}{b r:Nat}{q:kx}(h:rs[b]?=Z q):pV (rs.map (·.l)) b r↔has q.l r:=by
 unfold pV;rw[aJ,h];simp
theorem Dp{rs:List kx}{b t r:Nat}{q:kx}(hb:b<rs.length):pV ((rs.set b q).map (·.l)) t r↔(if t=b then has q.l r else pV (rs.map (·.l)) t r):=by
 unfold pV;rw[aJ,ez]
 by_cases e:b=t
 ·subst e
  rw[if_pos rfl,if_pos hb,if_pos rfl];simp
 ·rw[if_neg e,if_neg (Ne.symm e),aJ]
theorem Cl.upd{R:Nat}{bl:List E}{rs:List kx}{b:Nat}{q:kx}(h:Cl R bl rs)(hb:b<rs.length)(hq:q.l.length=R)(hh:∀r,has q.l r↔Head bl (pV (rs.map (·.l))) b r):Cl R bl (rs.set b q):=by
 have up:∀t r,pV (rs.map (·.l)) t r->pV ((rs.set b q).map (·.l)) t r:=λt r hr=>by
  rw[Dp hb]
  by_cases e:t=b
  ·subst e
   rw[if_pos rfl,hh r];exact h.pre t r hr
  ·rw[if_neg e];exact hr
 refine⟨by rw[eL];exact h.len,λr hr=>?_,λt r hr=>?_,λt r hr=>?_⟩
 ·rcases kE hr with hr|rfl
  ·exact h.row r hr
  ·exact hq
 ·rw[Dp hb]at hr
  by_cases e:t=b
  ·subst e
   rw[if_pos rfl,hh r]at hr;exact hr.mono up
  ·rw[if_neg e]at hr
   exact(h.pre t r hr).mono up
 ·rw[Dp hb]at hr
  by_cases e:t=b
  ·subst e
   rw[if_pos rfl,hh r]at hr;exact Pm h.sound hr
  ·rw[if_neg e]at hr
   exact h.sound t r hr
structure V5(R:Nat)(bl:List E)(ins outs:List kx):Prop where
 aeL:ins.length=bl.length
 abZ:outs.length=bl.length
 ZZ:∀r∈ins,r.l.length=R
 ahL:∀r∈outs,r.l.length=R
 ahI:∀b q r,ins[b]?=Z q->(has q.l r↔ik bl r b (-1))
 aic:∀b q r B,outs[b]?=Z q->bl[b]?=Z B->(has q.l r↔ik bl r b (B.list.length+1))
theorem Wf{R:Nat}{bl:List E}{ins outs:List kx}(h:Cl R bl ins)(ho:outs.length=bl.length)(Nu:∀r∈outs,r.l.length=R)(hc:∀b,b<bl.length->∀r,Head bl (pV (ins.map (·.l))) b r->pV (ins.map (·.l)) b r)(hb:∀b q r,outs[b]?=Z q->(has q.l r↔HS bl (pV (ins.map (·.l))) b r)):V5 R bl ins outs:=by
 have e_:∀r b,Head bl (pV (ins.map (·.l))) b r->pV (ins.map (·.l)) b r:=λr b hh=>by
  obtain⟨B,hB,_⟩:=id hh;exact hc b (az.1 hB).1 r hh
 refine⟨h.len,ho,h.row,Nu,λb q r hq=>?_,λb q r B hq hB=>?_⟩
 ·rw[<-Dn hq]
  refine⟨h.sound b r,λhl=>?_⟩;obtain⟨B,hB⟩:∃B,bl[b]?=Z B:=⟨_,a_ (by have:=(az.1 hq).1;rw[<-h.len];exact this)⟩;exact(Bm (λb=>e_ r b) hl B hB).1 rfl
 ·rw[hb b q r hq]
  refine⟨λhh=>H8 h.sound hB (.inr rfl) hh,λhl=>?_⟩;exact(Bm (λb=>e_ r b) hl B hB).2.2 rfl
theorem oU{N:Nat}{ds:List Deferred}{S:Nat->Prop}{w0:C}{L:List (Nat×V)}{H H':List bN}{p:Act->C->Prop}(h:∀w,Wd S w0 H w->Wd S w0 H' w)(k:aki N ds S w0 L H' p):aki N ds S w0 L H p:=λa w hS=>k a w ⟨hS.fr,h w hS.wd⟩
theorem Uw{α:Type}(m r:α)(X aj6 akd:List α):(m::r::(X++(aj6++akd))).Perm (X++((aj6++[r])++(m::akd))):=by
 have h1:X++((aj6++[r])++(m::akd))=(X++aj6)++r::(m::akd):=by simp[dz]
 rw[h1,<-dz];exact(List.Perm.swap _ _ _).trans (((lD (l₁:=X++aj6) (a:=m) (l₂:=akd)).symm.cons r).trans (lD (l₁:=X++aj6) (a:=r) (l₂:=m::akd)).symm)
theorem acg{S:Nat->Prop}{w0 w:C}{e old:bN}{X akb Y:List bN}{b:Nat}(h:Wd S w0 (e::(X++(akb++Y))) w)(hb:akb[b]?=Z old):Wd S w0 (X++(akb.set b e++Y)) w:=by
 have h1:Wd S w0 (e::(X++(akb.eraseIdx b++Y))) w:=h.sub (dM (zV (List.Sublist.append_right (List.eraseIdx_sublist akb b) Y) X));refine h1.perm ((lD (l₁:=X) (a:=e) (l₂:=akb.eraseIdx b++Y)).symm.trans ?_);exact List.Perm.append_left X (List.Perm.append_right Y (DI hb e))
theorem We(nm pa:V)(R:Nat)(hR:R<=100)(bl:List E)(bs:V)(w0:C)(m_:aG w0 bs 6 bl ed)(hlen:bl.length<=100)(hf:fu R bl)(ri:∀B∈bl,∀x∈B.list,x.args.length<=1000)(lq:∀B∈bl,B.list.length<=1000/\B.aD.length<=1000):
  iC ae 99 [au #[nm,pa,U O R,bs]] w0 λu w'=>∃x:(Option Addr×Nat×List kx)×(Option Addr×Nat×List kx),u=.tuple #[J x.1.1 bl.length x.1.2.1,J x.2.1 bl.length x.2.2.1]/\
   Wd cX w0 (M x.1.1 bl.length x.1.2.1 145 1 (x.1.2.2.map (iy R))::M x.2.1 bl.length x.2.2.1 145 1 (x.2.2.2.map (iy R))::(x.1.2.2.map (jf R)++x.2.2.2.map (jf R))) w'/\V5 R bl x.1.2.2 x.2.2.2:=by
 have uT:=m_;have cY:=hf.iM;obtain⟨ba,n,bc,bb,zW,rfl,hn,qP,GM,Pg,yh,ji⟩:=m_;rw[<-hn]at hlen⊢;refine uC func99 rfl ntmps99 rfl (Wd.nil cX w0) ?_
 repeat(first|refine aU ?_|refine dZ λ_ _=>?_)
 rename_i p1 _;refine cZ (val:=λx:(Option Addr×Nat×Nat)×(Nat->Prop)=>.slice x.1.1 x.1.2.1 x.1.2.2) (akg:=λx=>[⟨x.2,λw=>aG w (J x.1.1 x.1.2.1 x.1.2.2) 1 (be bl) cN⟩]) (φ:=λ_=>True) rfl (λw hw=>fZ _ _ _ bl _ w (uT.bZ dH hw.ch) I cY) λx _=>?_;obtain⟨⟨aa,an,ac⟩,fp⟩:=x;simp only[aW,aO];refine aH ?_;refine fU 145 1 ?_;refine bL (λ(x:Option Addr×Nat×List kx)=>x.2.2.length<=n/\∀r∈x.2.2,r.l=List.replicate R false) (λx=>[(17,U O x.2.2.length),(16,U O n),(2,J x.1 x.2.2.length x.2.1),(3,J A 0 0),(4,J aa an ac),aj 1 p1])
  (λx=>⟨fp,λw=>aG w (J aa an ac) 1 (be bl) cN⟩::K p1 [nm,pa,U O R,J ba n bc] 35::M x.1 x.2.2.length x.2.1 145 1 (x.2.2.map (iy R))::x.2.2.map (jf R)) (λx=>n-x.2.2.length) (A,0,[]) ⟨aT _,by simp⟩ ?_ λx ⟨hi,cU⟩=>?_
 ·refine r4 [1,2,0] (by decide) ?_
  exact aS ap aK
 obtain⟨ia,ic,ins⟩:=x;simp only at hi cU⊢;refine aU ?_;refine aI (λh1=>?_) (λh1=>?_)
 ·have bS:ins.length<n:=ax h1
  repeat(first|refine aH ?_|refine dZ λ_ _=>?_)
  rename_i pr _ bt _;refine nX rfl rfl I I λa' c'=>?_;rw[show List.replicate R (D false)=(List.replicate R false).map D by simp];refine jQ (L':=[(24,J a' (ins.length+1) c'),(17,U O ins.length),(16,U O n),(3,J A 0 0),(4,J aa an ac),aj 1 p1]) ap (.cons _ (.refl _)) ?_;refine bi (List.perm_append_singleton _ _).symm ?_;refine fC (H1:=⟨fp,λw=>aG w (J aa an ac) 1 (be bl) cN⟩::K p1 [nm,pa,U O R,J ba n bc] 35::M a' (ins++[(⟨Z ⟨pr,0,A⟩,R,List.replicate R false⟩:kx)]).length c' 145 1 ((ins++[(⟨Z ⟨pr,0,A⟩,R,List.replicate R false⟩:kx)]).map (iy R))::(ins++[(⟨Z ⟨pr,0,A⟩,R,List.replicate R false⟩:kx)]).map (jf R)) (by simp[iy,jf,js]) ?_;refine aH ?_;refine bj (a',c',ins++[(⟨Z ⟨pr,0,A⟩,R,List.replicate R false⟩:kx)]) ⟨by simp;omega,λr hr=>?_⟩ dp ?_ aK
  ·rcases bA.1 hr with hr|hr
   ·exact cU r hr
   ·simp only[bR]at hr;subst hr;rfl
  ·simp only[bX,j_,Int.natCast_add]
   exact ap
 have gP:ins.length=n:=by have:=h1;simp at this;omega
 have hL0:Cl R bl ins:=by
  have oB:∀b r,¬pV (ins.map (·.l)) b r:=λb r ⟨s,hs,h⟩=>by
   rw[aJ]at hs;obtain⟨q,hq,rfl⟩:=cA.1 hs;rw[cU q (aq hq)]at h;unfold has at h;rw[g_]at h
   split at h<;>simp at h
  exact⟨I,λr hr=>by rw[cU r hr];simp,λb r h=>absurd h (oB b r),λb r h=>absurd h (oB b r)⟩
 rw[gP];refine aE ?_;refine fU 145 1 ?_;clear cU;refine BV (λx:Bool×List kx×(Option Addr×Nat×List kx)×List Nat=>Ir x.2.2.2) (λx=>Cl R bl x.2.1/\(x.1=false->V5 R bl x.2.1 x.2.2.1.2.2)) (λx=>[(5,D x.1),(2,J ia n ic),(3,J x.2.2.1.1 x.2.2.1.2.2.length x.2.2.1.2.1),(4,J aa an ac),aj 1 p1])
  (λx=>⟨fp,λw=>aG w (J aa an ac) 1 (be bl) cN⟩::K p1 [nm,pa,U O R,J ba n bc] 35::M ia n ic 145 1 (x.2.1.map (iy R))::M x.2.2.1.1 x.2.2.1.2.2.length x.2.2.1.2.1 145 1 (x.2.2.1.2.2.map (iy R))::(x.2.1.map (jf R)++(x.2.2.1.2.2.map (jf R)++marks x.2.2.2))) (λx=>r_ x.2.1*2+(if x.1 then 1 else 0)) (true,ins,(A,0,[]),[]) rfl ⟨hL0,by simp⟩ ?_ λx ⟨hL,hA⟩=>?_
 ·refine bi (H1:=⟨fp,λw=>aG w (J aa an ac) 1 (be bl) cN⟩::K p1 [nm,pa,U O R,J ba n bc] 35::M ia n ic 145 1 (ins.map (iy R))::M A 0 0 145 1 []::ins.map (jf R)) ?_ ?_
  ·exact(lD (l₁:=[⟨fp,λw=>aG w (J aa an ac) 1 (be bl) cN⟩,K p1 [nm,pa,U O R,J ba n bc] 35,M ia n ic 145 1 (ins.map (iy R))]) (a:=M A 0 0 145 1 []) (l₂:=ins.map (jf R))).symm
  ·exact aS ap (by simp[marks])
 clear hL0 gP hi h1;obtain⟨more,ins,⟨oa,oc,outs⟩,Ds⟩:=x;simp only at hL hA⊢;cases more
 case false=>
  have hA:=hA rfl;have Ja:outs.length=n:=by rw[hA.abZ,hn]
  refine aE ?_;refine fC (H1:=(⟨fp,λw=>aG w (J aa an ac) 1 (be bl) cN⟩::K p1 [nm,pa,U O R,J ba n bc] 35::M ia n ic 145 1 (ins.map (iy R))::M oa outs.length oc 145 1 (outs.map (iy R))::(ins.map (jf R)++outs.map (jf R)))++marks Ds) (by simp[dz]) ?_;refine bi cP ?_;refine R0 rfl λw hw=>⟨((ia,ic,ins),(oa,oc,outs)),?_,?_,hA⟩
  ·rw[Ja]
  ·rw[Ja]at hw
   exact hw.sub (.cons _ (.cons _ (.refl _)))
 clear hA;refine aH ?_;refine fU 145 1 ?_;refine BV (λx:Bool×List kx×(Option Addr×Nat×List kx)×List Nat=>Ir x.2.2.2) (λx=>x.2.2.1.2.2.length<=n/\Cl R bl x.2.1/\(∀r∈x.2.2.1.2.2,r.l.length=R)/\(x.1=false->x.2.1=ins/\(∀b,b<x.2.2.1.2.2.length->∀r,Head bl (pV (ins.map (·.l))) b r->pV (ins.map (·.l)) b r)/\∀b q r,x.2.2.1.2.2[b]?=Z q->(has q.l r↔HS bl (pV (ins.map (·.l))) b r))/\(x.1=true->r_ x.2.1<r_ ins))
  (λx=>[(30,U O x.2.2.1.2.2.length),(29,U O n),(5,D x.1),(2,J ia n ic),(3,J x.2.2.1.1 x.2.2.1.2.2.length x.2.2.1.2.1),(4,J aa an ac),aj 1 p1])
  (λx=>⟨fp,λw=>aG w (J aa an ac) 1 (be bl) cN⟩::K p1 [nm,pa,U O R,J ba n bc] 35::M ia n ic 145 1 (x.2.1.map (iy R))::M x.2.2.1.1 x.2.2.1.2.2.length x.2.2.1.2.1 145 1 (x.2.2.1.2.2.map (iy R))::(x.2.1.map (jf R)++(x.2.2.1.2.2.map (jf R)++marks x.2.2.2))) (λx=>n-x.2.2.1.2.2.length) (false,ins,(A,0,[]),Ds) rfl ⟨aT _,hL,by simp,λ_=>⟨rfl,by simp,by simp⟩,by simp⟩ ?_ λx ⟨zN,VI,Nu,oB,PC⟩=>?_
 ·refine bi (H1:=⟨fp,λw=>aG w (J aa an ac) 1 (be bl) cN⟩::K p1 [nm,pa,U O R,J ba n bc] 35::M ia n ic 145 1 (ins.map (iy R))::M A 0 0 145 1 []::M oa outs.length oc 145 1 (outs.map (iy R))::(ins.map (jf R)++(outs.map (jf R)++marks Ds))) ?_ ?_
  ·exact(lD (l₁:=[⟨fp,λw=>aG w (J aa an ac) 1 (be bl) cN⟩,K p1 [nm,pa,U O R,J ba n bc] 35,M ia n ic 145 1 (ins.map (iy R))]) (a:=M A 0 0 145 1 [])).symm
  ·refine aS ap ?_
   exact List.Sublist.cons_cons _ (dM (dM (dM (.cons _ (zV (sP _ _) _)))))
 obtain⟨xk,mr,⟨oa,oc,gx⟩,Ds⟩:=x;simp only at zN VI Nu oB PC⊢;refine aU ?_;refine aI (λh2=>?_) (λh2=>?_)
 case refine_2=>
  have xG:gx.length=n:=by have:=h2;simp at this;omega
  refine aE ?_;refine yP (xk,mr,(oa,oc,gx),Ds) rfl ⟨VI,λe=>?_⟩ ?_ ap aK
  ·obtain⟨e1,e2,e3⟩:=oB e
   subst e1;refine Wf VI ?_ Nu (λb hb r h=>e2 b I r h) e3;show gx.length=bl.length;omega
  ·cases xk
   ·obtain⟨e1,_⟩:=oB rfl
    subst e1;simp
   ·have:=PC rfl
    simp;omega
 have pR:gx.length<n:=ax h2;generalize Nh:gx.length=b at pR h2;refine aH ?_;obtain⟨B,hB⟩:=et hn pR;have hBL:b<bl.length:=I;have oW:bU ba bb zW:=⟨yh (aL hB)⟩;have lY:bY b n:=⟨pR⟩;obtain⟨cs,fT,pv',lv,tv,rfl,_,_,qt,W_,ht⟩:=ji b B hB;obtain⟨xa,xn,xc,xb,xo,rfl,hxn,abI,abH,hxc,NB,Ti⟩:=qt;obtain⟨la,ln,lc,lb,lo,rfl,HJ,agC,SL,hlc,I6,Ak⟩:=W_;obtain⟨ta,tn,tc,_,_,rfl,_⟩:=ht;have n_:a6 w0 bb (zW+b*6) _:=⟨fT⟩;have hBo:=hf.block b B hB;have iJ:mr.length=n:=by rw[VI.len,hn]
 obtain⟨q0,Q6⟩:=bf mr b I;refine cZ (val:=λx:Nat×List Bool=>.slice (Z ⟨x.1,0,A⟩) R R) (akg:=λx=>[js (Z ⟨x.1,0,A⟩) R R x.2]) (φ:=λx=>x.2.length=R/\∀r,has x.2 r↔HS bl (pV (mr.map (·.l))) b r) rfl
  (λw hw=>KE nm pa R hR bl _ b (mr.map (·.l)) aa ia an ac ic w (uT.bZ dH hw.ch) n hn hf hBL (by rw[aF,iJ,hn]) (λs hs=>by obtain⟨q,hq,rfl⟩:=aV.1 hs;exact VI.row q hq) (hw.get (k:=0) rfl) (Od (e:=145) (H:=gx.map (jf R)++marks Ds) (hw.sub (.cons _ (.cons _ (dM (.cons _ (.refl _)))))) iJ.symm I I VI.row)) λx hx=>?_
 obtain⟨po,s0⟩:=x;simp only[aW,aO]at hx⊢;unfold js
 repeat(first|refine dZ λ_ _=>?_)
 rename_i bt _;refine nX rfl rfl I I λoa' FN=>?_;refine aH ?_;refine fL 5 rfl I λob oo hoa=>?_;subst hoa;refine fL 4 rfl I λib io VO=>?_;subst VO;have Tj:Rs (gx.map (iy R)++[J (Z ⟨po,0,A⟩) R R]) (b*1) (J (Z ⟨po,0,A⟩) R R):=⟨by rw[f_,dC dp];simp[Nh]⟩;have aiZ:bY b (b+1):=⟨I⟩;refine aU ?_;refine cZ (val:=λx:Option Addr×Nat=>.slice x.1 R x.2) (akg:=λx=>[js x.1 R x.2 s0]) (φ:=λ_=>True) rfl (λw hw=>RB _ R R s0 I w (Ia hw (k:=1) rfl hx.1.symm I)) λx _=>?_;obtain⟨ca,cc⟩:=x;simp only[aW,aO]
 repeat(first|refine aE ?_|refine dZ λ_ _=>?_)
 rename_i p7 _;refine v_ [aj 7 p7,(6,U O b),(30,U O b),(29,U O n),(5,D xk),(2,J (Z ⟨ib,io,A⟩) n ic),(3,J (Z ⟨ob,oo,A⟩) (b+1) FN),(4,J aa an ac),aj 1 p1] (js ca R cc (lQ s0 B.on)::K p7 [J ca R cc] 145::M (Z ⟨bt,0,A⟩) 1 1 145 1 [J (Z ⟨po,0,A⟩) R R]::M (Z ⟨po,0,A⟩) R R 4 1 (s0.map D)::⟨fp,λw=>aG w (J aa an ac) 1 (be bl) cN⟩::K p1 [nm,pa,U O R,J ba n bc] 35::(M (Z ⟨ib,io,A⟩) n ic 145 1 (mr.map (iy R))::M (Z ⟨ob,oo,A⟩) (b+1) FN 145 1 (gx.map (iy R)++[J (Z ⟨po,0,A⟩) R R])::(mr.map (jf R)++(gx.map (jf R)++marks Ds)))) mixed ?_ ?_
 ·repeat' (first|refine eV 1 rfl ai ?_|refine eV 3 rfl ai ?_|refine eV 4 rfl ai ?_|refine eV 5 rfl ai ?_|refine eV 6 rfl ai ?_|refine yN ai ?_|refine any_nil|refine nQ ai ?_|refine any_cons ?_ ?_|refine nJ rfl ?_|refine lJ ?_|refine pQ ?_)
  all_goals
   refine bi (List.Perm.swap _ _ _) ?_;refine fC (H1:=[js ca R cc s0]++(K p7 [J ca R cc] 145::M (Z ⟨bt,0,A⟩) 1 1 145 1 [J (Z ⟨po,0,A⟩) R R]::M (Z ⟨po,0,A⟩) R R 4 1 (s0.map D)::⟨fp,λw=>aG w (J aa an ac) 1 (be bl) cN⟩::K p1 [nm,pa,U O R,J ba n bc] 35::(M (Z ⟨ib,io,A⟩) n ic 145 1 (mr.map (iy R))::M (Z ⟨ob,oo,A⟩) (b+1) FN 145 1 (gx.map (iy R)++[J (Z ⟨po,0,A⟩) R R])::(mr.map (jf R)++(gx.map (jf R)++marks Ds))))) rfl ?_;refine fK (val:=λ_:Unit=>.tuple #[]) (akg:=λ_=>[js ca R cc (lQ s0 B.on)]) (φ:=λ_=>True) rfl (λw hw=>MK ca R cc s0 hx.1 B.on hBo.on w hw.pre) λ_ _=>?_;simp only[aW,aO]
   repeat' (first|refine z_ ai ?_|refine lJ ?_|refine pQ ?_)
   exact aS ap aK
 generalize Je:lQ s0 B.on=s1;have Xm:s1.length=R:=by rw[<-Je,ou];exact hx.1
 refine aU ?_;refine cZ (val:=λp:Nat×Nat=>.func (.func 165) #[] #[ar (Z ⟨p.1,0,A⟩)]) (akg:=λp=>[K p.1 [J la ln lc] p.2]) (φ:=λ_=>True) rfl (λw hw=>H6 _ ⟨_,_,_,rfl⟩ w) λBp _=>?_;obtain⟨Bs,Bt⟩:=Bp;simp only[aW,aO];refine aH ?_;obtain⟨zs,xs,LJ,h8,nK,qQ,hzc⟩:=XB (R:=R) (wz:=w0) hBo.list (ri B (aq hB)) Ak;have ady:∀s,xs.foldl (λs y=>wQ s y.1.2.1) s=B.list.reverse.foldl wQ s:=λs=>by rw[<-qQ,List.foldl_map]
 refine jQ (L':=[(61,.func (.func 165) #[] #[ar (Z ⟨Bs,0,A⟩)]),aj 7 p7,(6,U O b),(30,U O b),(29,U O n),(5,D xk),(2,J (Z ⟨ib,io,A⟩) n ic),(3,J (Z ⟨ob,oo,A⟩) (b+1) FN),(4,J aa an ac),aj 1 p1]) ap (.refl _) ?_;refine bi (List.Perm.swap _ _ _) ?_;refine RX (α:=sN R w0) (gf:=165) (lb:=[ar (Z ⟨Bs,0,A⟩)]) (K Bs [J la ln lc] Bt::K p7 [J ca R cc] 145::M (Z ⟨bt,0,A⟩) 1 1 145 1 [J (Z ⟨po,0,A⟩) R R]::M (Z ⟨po,0,A⟩) R R 4 1 (s0.map D)::⟨fp,λw=>aG w (J aa an ac) 1 (be bl) cN⟩::K p1 [nm,pa,U O R,J ba n bc] 35::(M (Z ⟨ib,io,A⟩) n ic 145 1 (mr.map (iy R))::M (Z ⟨ob,oo,A⟩) (b+1) FN 145 1 (gx.map (iy R)++[J (Z ⟨po,0,A⟩) R R])::(mr.map (jf R)++(gx.map (jf R)++marks Ds)))) (λs:List Bool=>[js ca R cc s]) s1 (λs=>⟨by intro e he;simp only[bR]at he;subst he;unfold js;infer_instance⟩) (λs s' b ⟨e,he,hb⟩=>⟨js ca R cc s',by simp,by simp only[bR]at he;subst he;exact hb⟩) xs
  (encs:=λy=>#[U O (sN.enc y).1,au (sN.enc y).2.toArray]) (Bs:=Bs) (bcs:=[J la ln lc]) (bt:=Bt) (tM ..)
  (λw1 l9=>?_) (λpre s=>s=pre.foldl (λs y=>wQ s y.1.2.1) s1) rfl (.refl _) (λ_=>rfl) (λy=>BK y.1.2.1 y.1.2.2) 56
  (λy=>[(63,au (BK y.1.2.1 y.1.2.2).toArray),(62,U O y.1.1),aj 7 p7,(6,U O b),(30,U O b),(29,U O n),(5,D xk),(2,J (Z ⟨ib,io,A⟩) n ic),(3,J (Z ⟨ob,oo,A⟩) (b+1) FN),(4,J aa an ac),aj 1 p1]) (λy q=>[aj 9 q,aj 7 p7,(6,U O b),(30,U O b),(29,U O n),(5,D xk),(2,J (Z ⟨ib,io,A⟩) n ic),(3,J (Z ⟨ob,oo,A⟩) (b+1) FN),(4,J aa an ac),aj 1 p1]) (λy a h=>?_) (λl y s R'=>?_) (λl pre y s q RR hI bS=>?_) λakf s2 hD hI=>?_
 ·have Dc:∀b',cH ([js ca R cc s1]++(K Bs [J la ln lc] Bt::K p7 [J ca R cc] 145::M (Z ⟨bt,0,A⟩) 1 1 145 1 [J (Z ⟨po,0,A⟩) R R]::M (Z ⟨po,0,A⟩) R R 4 1 (s0.map D)::⟨fp,λw=>aG w (J aa an ac) 1 (be bl) cN⟩::K p1 [nm,pa,U O R,J ba n bc] 35::(M (Z ⟨ib,io,A⟩) n ic 145 1 (mr.map (iy R))::M (Z ⟨ob,oo,A⟩) (b+1) FN 145 1 (gx.map (iy R)++[J (Z ⟨po,0,A⟩) R R])::(mr.map (jf R)++(gx.map (jf R)++marks Ds))))) b'->w0.heap.size<=b':=λb' ⟨e,he,nO⟩=>(l9.own e he b' nO).1.elim (λh=>h.elim) id
  exact Gh (R:=R) (wz:=w0) (b:=lb) (o:=lo) I (λeQ=>I6 (λe=>eQ (by rw[e]at LJ;exact lk LJ))) (by have:=(lq B (aq hB)).1;omega) h8 hzc (λp v hp h=>by have:=Dc _ h.1;have:=World.block_lt_of_cell? w0 p hp;omega) (λh=>h.2 rfl) (λp v hp=>fJ l9.ch hp) (l9.gL Bs 0 _ rfl) nK
 ·have h2:=((h.to (L':=[aj 7 p7,(6,U O b),(30,U O b),(29,U O n),(5,D xk),(2,J (Z ⟨ib,io,A⟩) n ic),(3,J (Z ⟨ob,oo,A⟩) (b+1) FN),(4,J aa an ac),aj 1 p1]) ap).eo (d:=62) rfl (U O y.1.1)).eo (d:=63) rfl (au (BK y.1.2.1 y.1.2.2).toArray)
  have e:(#[62,63].zip #[U O (sN.enc y).1,au (sN.enc y).2.toArray]).foldl (λ(t:Array V) (q:Tmp×V)=>t.setIfInBounds q.1 q.2) a.tmps=(a.tmps.setIfInBounds 62 (U O y.1.1)).setIfInBounds 63 (au (BK y.1.2.1 y.1.2.2).toArray):=by simp[sN.enc]
  refine⟨Eq.trans (congrArg Array.size e) h2.size,rfl,λp hp=>?_⟩;exact Eq.trans (congrArg (λt:Array V=>t[p.1]?) e) (h2.slot p hp)
 ·simp only[BK]
  repeat(first|refine aE ?_|refine dZ λ_ _=>?_)
  exact Gz _ ap aK
 ·obtain⟨⟨i0,x,⟨va,vn,vc⟩⟩,Tj,NB,Xv⟩:=y
  simp only at Tj NB Xv;have S8:s.length=R:=by
   rw[hI];have:∀(l:List (sN R w0)) (s:List Bool),(l.foldl (λs y=>wQ s y.1.2.1) s).length=s.length:=by
    intro l
    induction l with
    |nil=>exact λ_=>rfl
    |cons y l ih=>exact λs=>by rw[gj,ih,vA]
   rw[this,Xm]
  simp only[BK,aW,aO];refine aH ?_;refine bi (lD (l₁:=[RR,K q (BK x (va,vn,vc)) 56]) (a:=js ca R cc s)) ?_;refine fC (H1:=[js ca R cc s]++(RR::K q (BK x (va,vn,vc)) 56::K Bs [J la ln lc] Bt::K p7 [J ca R cc] 145::M (Z ⟨bt,0,A⟩) 1 1 145 1 [J (Z ⟨po,0,A⟩) R R]::M (Z ⟨po,0,A⟩) R R 4 1 (s0.map D)::⟨fp,λw=>aG w (J aa an ac) 1 (be bl) cN⟩::K p1 [nm,pa,U O R,J ba n bc] 35::(M (Z ⟨ib,io,A⟩) n ic 145 1 (mr.map (iy R))::M (Z ⟨ob,oo,A⟩) (b+1) FN 145 1 (gx.map (iy R)++[J (Z ⟨po,0,A⟩) R R])::(mr.map (jf R)++(gx.map (jf R)++marks Ds))))) rfl ?_;refine fK (val:=λ_:Unit=>.tuple #[]) (akg:=λ_=>[js ca R cc (wQ s x)]) (φ:=λ_=>True) rfl (λw hw=>Mz ca R cc s S8 x Tj I va vn vc cX w0 (λ_ _ _ h=>h) Xv w (hw.sub (eI _ _))) λ_ _=>?_;simp only[aW,aO];refine aH ?_;refine bi (List.Perm.swap _ _ _) ?_;refine IC (wQ s x) ?_ (.refl _);rw[pF,<-hI];rfl
 rw[ady]at hI;have ahi:s2.length=R:=by
  rw[hI];have:∀(l:List dJ) (s:List Bool),(l.foldl wQ s).length=s.length:=by
   intro l
   induction l with
   |nil=>exact λ_=>rfl
   |cons y l ih=>exact λs=>by rw[gj,ih,vA]
  rw[this,Xm]
 simp only[aW,aO];refine aH ?_;refine oU (H':=js ca R cc s2::K p7 [J ca R cc] 145::bN.mark akf::M (Z ⟨po,0,A⟩) R R 4 1 (s0.map D)::⟨fp,λw=>aG w (J aa an ac) 1 (be bl) cN⟩::K p1 [nm,pa,U O R,J ba n bc] 35::(M (Z ⟨ib,io,A⟩) n ic 145 1 (mr.map (iy R))::M (Z ⟨ob,oo,A⟩) (b+1) FN 145 1 (gx.map (iy R)++[J (Z ⟨po,0,A⟩) R R])::(mr.map (jf R)++(gx.map (jf R)++marks Ds)))) (λw hw=>?_) ?_
 ·refine(hw.sub (dM (dM (.cons _ (dM (.cons _ (.refl _))))))).perm ?_
  exact(lD (l₁:=[js ca R cc s2,K p7 [J ca R cc] 145]) (a:=bN.mark akf)).symm
 refine bL (λ(x:Nat×List Bool)=>x.1<=xn/\x.2.length=R/\x.2=(B.aD.take x.1).foldl (λs p=>s.set p.dst.toNat false) s2) (λx=>[(74,U O x.1),(72,J xa xn xc),(73,U O xn),aj 7 p7,(6,U O b),(30,U O b),(29,U O n),(5,D xk),(2,J (Z ⟨ib,io,A⟩) n ic),(3,J (Z ⟨ob,oo,A⟩) (b+1) FN),(4,J aa an ac),aj 1 p1]) (λx=>js ca R cc x.2::K p7 [J ca R cc] 145::bN.mark akf::M (Z ⟨po,0,A⟩) R R 4 1 (s0.map D)::⟨fp,λw=>aG w (J aa an ac) 1 (be bl) cN⟩::K p1 [nm,pa,U O R,J ba n bc] 35::(M (Z ⟨ib,io,A⟩) n ic 145 1 (mr.map (iy R))::M (Z ⟨ob,oo,A⟩) (b+1) FN 145 1 (gx.map (iy R)++[J (Z ⟨po,0,A⟩) R R])::(mr.map (jf R)++(gx.map (jf R)++marks Ds)))) (λx=>xn-x.1) (0,s2)
  ⟨aT _,ahi,by simp⟩ (aS ap aK) λx ⟨hm,rq,hs⟩=>?_
 ·obtain⟨m,s⟩:=x
  simp only at hm rq hs⊢;refine aU ?_;refine aI (λh3=>?_) (λh3=>?_)
  ·have Lt:m<xn:=ax h3
   obtain⟨p,hp⟩:=et hxn Lt;have ac5:bU xa xb xo:=⟨NB (aL hp)⟩;have hlm:bY m xn:=⟨Lt⟩;obtain⟨csp,aaZ,sv,rfl,_,ny⟩:=Ti m p hp;have adl:a6 w0 xb (xo+m*2) _:=⟨aaZ⟩;have De:=hBo.aD p (aq hp);obtain⟨s2a,s2n,s2c,_,_,rfl,_⟩:=ny;obtain⟨d,hd⟩:∃d:Nat,p.dst=d:=⟨p.dst.toNat,by have:=De.dst;omega⟩;have hdR:d<R:=by have:=De.dst;omega
   obtain⟨y,hy⟩:=bf s d I;have oZ:lB p.dst d:=⟨hd⟩;have hld:bY d R:=⟨hdR⟩;have hey:qy s d y:=⟨hy⟩;have lK:(B.aD.take (m+1)).foldl (λs p=>s.set p.dst.toNat false) s2=s.set d false:=by
    rw[cz,hp,pF,<-hs,show d=p.dst.toNat by omega];rfl
   unfold js;refine fL 0 rfl I λcb co IX=>?_;subst IX
   repeat(first|refine aE ?_|refine dZ λ_ _=>?_)
   refine bj (m+1,s.set d false) ⟨Lt,ax rq,lK.symm⟩ bK ap ?_;exact List.Sublist.cons _ (.refl _)
  ·have adD:m=xn:=by have:=h3;simp at this;omega
   rw[adD,hxn,cQ,hI,<-Je]at hs;have hs4:s=Sr B s0:=hs;have SC:∀r,has s r↔Head bl (pV (mr.map (·.l))) b r:=λr=>by rw[hs4];exact Pf hf hB hx.1 hx.2 r
   have ag5:=VI.row q0 (aq Q6);have aiL:qy mr b q0:=⟨Q6⟩;unfold js;refine aE ?_;refine jj mixed aR ?_;refine iH ?_;refine pu rfl (λw hw=>RJ _ _ s q0.l w (Ia hw (k:=0) rfl rq.symm I) (ab6 (R:=R) (rs:=mr) (akg:=[M ca R cc 4 1 (s.map D),K p7 [J ca R cc] 145,bN.mark akf,M (Z ⟨po,0,A⟩) R R 4 1 (s0.map D),⟨fp,λw=>aG w (J aa an ac) 1 (be bl) cN⟩,K p1 [nm,pa,U O R,J ba n bc] 35,M (Z ⟨ib,io,A⟩) n ic 145 1 (mr.map (iy R)),M (Z ⟨ob,oo,A⟩) (b+1) FN 145 1 (gx.map (iy R)++[J (Z ⟨po,0,A⟩) R R])]) (H:=gx.map (jf R)++marks Ds) hw Q6 I ag5)) ?_;refine iH ?_;refine aU ?_;have Pw:gx.length+1=b+1:=I;have fin:∀(akb:List kx) (w:C),Wd cX w0 (bN.mark akf::M (Z ⟨po,0,A⟩) R R 4 1 (s0.map D)::⟨fp,λw=>aG w (J aa an ac) 1 (be bl) cN⟩::K p1 [nm,pa,U O R,J ba n bc] 35::M (Z ⟨ib,io,A⟩) n ic 145 1 (akb.map (iy R))::M (Z ⟨ob,oo,A⟩) (b+1) FN 145 1 (gx.map (iy R)++[J (Z ⟨po,0,A⟩) R R])::(akb.map (jf R)++(gx.map (jf R)++marks Ds))) w->
     Wd cX w0 (⟨fp,λw=>aG w (J aa an ac) 1 (be bl) cN⟩::K p1 [nm,pa,U O R,J ba n bc] 35::M (Z ⟨ib,io,A⟩) n ic 145 1 (akb.map (iy R))::M (Z ⟨ob,oo,A⟩) (gx++[(⟨Z ⟨po,0,A⟩,R,s0⟩:kx)]).length FN 145 1 ((gx++[(⟨Z ⟨po,0,A⟩,R,s0⟩:kx)]).map (iy R))::(akb.map (jf R)++((gx++[(⟨Z ⟨po,0,A⟩,R,s0⟩:kx)]).map (jf R)++marks (akf::Ds)))) w:=λakb w hw=>by
    have h1:=hw.perm (Uw (α:=bN) (bN.mark akf) (M (Z ⟨po,0,A⟩) R R 4 1 (s0.map D)) (⟨fp,λw=>aG w (J aa an ac) 1 (be bl) cN⟩::K p1 [nm,pa,U O R,J ba n bc] 35::M (Z ⟨ib,io,A⟩) n ic 145 1 (akb.map (iy R))::M (Z ⟨ob,oo,A⟩) (b+1) FN 145 1 (gx.map (iy R)++[J (Z ⟨po,0,A⟩) R R])::akb.map (jf R)) (gx.map (jf R)) (marks Ds));have e:(gx++[(⟨Z ⟨po,0,A⟩,R,s0⟩:kx)]).length=b+1:=by simp;omega
    rw[e];simpa[iy,jf,js,marks,dz]using h1
   have JO:∀r∈gx++[(⟨Z ⟨po,0,A⟩,R,s0⟩:kx)],r.l.length=R:=λr hr=>by
    rcases bA.1 hr with hr|hr
    ·exact Nu r hr
    ·simp only[bR]at hr;subst hr;exact hx.1
   have Ep:(gx++[(⟨Z ⟨po,0,A⟩,R,s0⟩:kx)]).length=b+1:=by simp;omega
   refine aI (λh4=>?_) (λh4=>?_)
   ·
    have eQ:s≠q0.l:=ax h4;have I7:=VI.upd (b:=b) (q:=⟨ca,cc,s⟩) I rq SC;have adQ:r_ (mr.set b ⟨ca,cc,s⟩)<r_ mr:=by
     have h5:=JD (r':=(⟨ca,cc,s⟩:kx)) Q6;have h6:=Bw (l:=q0.l) (m:=s) I (λr hr=>(SC r).2 (VI.pre b r ((Dn Q6).2 hr))) (Ne.symm eQ);simp only at h5;omega
    have Xv:mV (mr.map (iy R)) (b*1) (J ca R cc) ((mr.set b ⟨ca,cc,s⟩).map (iy R)):=⟨by rw[f_,eM];rfl,by simp;omega⟩;refine aE ?_;refine oU (λw hw=>fin (mr.set b ⟨ca,cc,s⟩) w ?_) ?_
    ·have h7:=acg (e:=jf R ⟨ca,cc,s⟩) (X:=[K p7 [J ca R cc] 145,bN.mark akf,M (Z ⟨po,0,A⟩) R R 4 1 (s0.map D),⟨fp,λw=>aG w (J aa an ac) 1 (be bl) cN⟩,K p1 [nm,pa,U O R,J ba n bc] 35,M (Z ⟨ib,io,A⟩) n ic 145 1 ((mr.set b ⟨ca,cc,s⟩).map (iy R)),M (Z ⟨ob,oo,A⟩) (b+1) FN 145 1 (gx.map (iy R)++[J (Z ⟨po,0,A⟩) R R])]) (akb:=mr.map (jf R)) (Y:=gx.map (jf R)++marks Ds) (b:=b) hw (by rw[aJ,Q6];rfl)
     rw[<-eM]at h7;exact h7.sub (dR _ _)
    refine yP (true,mr.set b ⟨ca,cc,s⟩,(Z ⟨ob,oo,A⟩,FN,gx++[(⟨Z ⟨po,0,A⟩,R,s0⟩:kx)]),akf::Ds) rfl ⟨by simp only;omega,I7,JO,by simp,λ_=>?_⟩ bK ?_ aK
    ·simp only
     cases xk
     ·obtain⟨e1,_⟩:=oB rfl
      subst e1;exact adQ
     ·have:=PC rfl
      omega
    ·simp only[Ep]
     exact ap
   ·have VN:s=q0.l:=ax h4
    refine aH ?_;refine oU (λw hw=>fin mr w (hw.sub (.cons _ (.cons _ (.refl _))))) ?_;refine yP (xk,mr,(Z ⟨ob,oo,A⟩,FN,gx++[(⟨Z ⟨po,0,A⟩,R,s0⟩:kx)]),akf::Ds) rfl ⟨by simp only;omega,VI,JO,λe=>?_,PC⟩ bK ?_ aK
    ·obtain⟨e1,e2,e3⟩:=oB e
     subst e1;refine⟨rfl,λt ht r hr=>?_,λt q r hq=>?_⟩
     ·simp only[Ep]at ht
      by_cases e:t=b
      ·subst e
       rw[Dn Q6,<-VN];exact(SC r).2 hr
      ·exact e2 t I r hr
     ·simp only at hq
      by_cases e:t<gx.length
      ·rw[dY e]at hq
       exact e3 t q r hq
      ·have ht:t=b:=by
        have:=(az.1 hq).1;rw[Ep]at this;omega
       subst ht;rw[dC I,Nh,dN]at hq;simp only[kC,b_]at hq;subst hq;exact hx.2 r
    ·simp only[Ep]
     exact ap
attribute [local irreducible] wpAnyH
theorem Cy{u:a8}(h:(dA u).1=0){k:Nat}{X:aY}(hX:u.funcs[k]?=Z X):∀B∈X.blocks,∀x∈B.list,x.args.length<=1000:=λB hB x hx=>by
 have hb:=tN h X (aq hX);obtain⟨b,GH⟩:=bg hB;unfold gJ at hb
 split at hb
 ·rename_i h1;exact absurd hb h1
 have hb:=jc hb b (az.1 GH).1;simp only[jN,GH]at hb
 split at hb
 ·rename_i h2;exact absurd hb h2
 have hi:=nR hb x hx
 by_cases e:x.op=20
 ·unfold eu at hi
  split at hi
  ·cases hi
  split at hi
  ·cases hi
  split at hi
  ·rename_i h3
   simp only[Bool.and_eq_true,Bool.not_eq_true',decide_eq_false_iff_not]at h3;exact absurd hi h3.2
  split at hi
  ·rename_i h4;exact absurd hi h4
  split at hi
  ·rename_i h5;exact absurd hi h5
  unfold gK at hi;rw[if_neg (ax e)]at hi
  split at hi
  ·cases hi
  rename_i h6
  split at hi
  ·cases hi
  rename_i h7;simp only[within,Bool.not_eq_true',Bool.and_eq_false_iff,decide_eq_false_iff_not,not_or,Decidable.not_not]at h6;simp only[ne_eq,Decidable.not_not,j4]at h7
  split at h7
  ·rename_i Y hY
   have:=mY h hY;omega
  ·omega
 ·rw[(Aq (R:=X.aB.toNat) (fs:=u.funcs) (by rw[Int.toNat_of_nonneg (by have:=mY h hX;omega)];exact hi)).args e]
  simp
theorem L3{X:aY}(h:Du X):∀B∈X.blocks,B.list.length<=1000/\B.aD.length<=1000:=λB hB=>by
 have h1:((B.aD.length+B.list.length:Nat):Int)<=gy X.blocks:=by
  unfold gy;generalize X.blocks=l at hB
  induction l with
  |nil=>cases hB
  |cons akh l ih=>
   have SP:∀m:List E,0<=(m.map λb=>((b.aD.length+b.list.length:Nat):Int)).sum:=λm=>by
    induction m with
    |nil=>simp
    |cons akf m ih=>simp only[bT,eT];omega
   simp only[bT,eT];rcases bD.1 hB with rfl|hB
   ·have:=SP l;omega
   ·have:=ih hB;omega
 have:=h.2;omega
class Cf(m n:Int):Prop where
 lo:-9223372036854775808<=m+n
 hi:m+n<=9223372036854775807
instance{P:Program}{N:Nat}{ds:List Deferred}{S:Nat->Prop}{w0:C}{L:List (Nat×V)}{H:List bN}{x y:Operand}{T T2:Nat}{m n:Int}[hx:Ev L x (U O m)][hy:Ev L y (U O n)][h:Cf m n]:dL P N ds S w0 L H (.binOp .add T x y T2) (U O (m+n)):=by
 have:=FY (P:=P) (N:=N) (ds:=ds) (S:=S) (w0:=w0) (L:=L) (H:=H) (x:=x) (y:=y) (T:=T) (T2:=T2) (m:=m) (n:=n)
 rwa[uM _ h.lo h.hi]at this
end
end Go.Proofs.YthfhgolkafpmnaaGreatDoor
