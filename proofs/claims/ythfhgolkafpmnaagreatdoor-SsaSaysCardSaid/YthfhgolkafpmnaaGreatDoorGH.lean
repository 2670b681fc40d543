/- Lemmas. -/
import Derived.Deep.DeepHandedRow
import Derived.Deep.Slices
import Derived.Lib.LaidTab
import Derived.OpenShut
import Derived.ProofKit
import Derived.Test.YthfhgolkafpmnaaGreatDoorCards
import Derived.Test.YthfhgolkafpmnaaGreatDoorTie
import Derived.Test.YthfhgolkafpmnaaGreatDoorGF
namespace Go.Proofs.YthfhgolkafpmnaaGreatDoor
open Go.Value renaming int->J,slice->I,pointer->aO,bool->ag,agg->aC
open Go.IntKind renaming i64->Z
open Option renaming some->O,none->U
open Go renaming Value->K,World->ae
open List renaming replicate->aI,range->bj
open Go.Instr renaming sureAddr->dB
open Go.Region renaming wanted->fq,ready->eZ
open Go.Proofs.Tryz
open Go.Proofs.Tryz renaming prog->Y
open Go Go.RowKit
variable {tJ:Array Nat} {X:bZ} {L:List (Nat×K)} {ds:List Deferred} {H:List cq} {bl:List aq} {args:List Operand} {cs ym vs:List K} {N R T b c d e f di i j k n o r s t ty:Nat} {S:Nat->Prop} {α:Type} {u v:K} {dO w w0 wz:ae}
section
set_option maxRecDepth 100000
open Go.ChangeShapes Go.WideShapes
section
section
variable {H:Type} {enc:TypeId×K->H} {P:Program} {w:ae} {base:Nat} {spare:Nat->Bool} {held:Bool}
theorem Q7{x:Int}(h:(Lit.int Z x).wf=true):dE x:=by
 simpa[dE,Lit.wf,IntKind.min,IntKind.max,IntKind.signed,IntKind.bits]using h
theorem J4{p:Nat->α->Prop}(h:∀i,i<n->∃x,p i x):∃l:List α,l.length=n/\∀i x,l[i]?=O x->p i x:=by
 induction n with
 |zero=>exact⟨[],rfl,by simp⟩
 |succ n ih=>
  obtain⟨l,hl,hp⟩:=ih (λi hi=>h i A);obtain⟨x,hx⟩:=h n A;refine⟨l++[x],by simp[hl],λi y hy=>?_⟩
  by_cases hi:i<l.length
  ·rw[eX hi]at hy;exact hp i y hy
  ·rw[dH A]at hy
   have:i-l.length=0:=by
    cases hk:i-l.length with
    |zero=>rfl
    |succ k=>rw[hk]at hy;simp at hy
   rw[this]at hy;simp at hy;subst hy;have:i=n:=A;subst this;exact hx
theorem tl{e:TypeId}{d:DataW H}:∀{l:List (DataW H)},d∈l->k∈d.weights P e->k∈DataW.weightsAll P e l
 |[],h,_=>by cases h
 |x::l,h,hk=>by
  simp only[DataW.weightsAll,bO];rcases bX.1 h with rfl|h
  ·exact .inl hk
  ·exact .inr (tl h hk)
theorem rL{d:DataW H}:∀{ts:List TypeId} {l:List (DataW H)} {i:Nat} {t:TypeId},ts[i]?=O t->l[i]?=O d->k∈d.weights P t->k∈DataW.weightsEach P ts l
 |[],_,i,t,h,_,_=>by simp at h
 |_::_,[],i,t,_,h,_=>by simp at h
 |t0::ts,x::l,0,t,h,hd,hk=>by
  simp only[jN,cF]at h hd;subst h hd;simp only[DataW.weightsEach,bO];exact .inl hk
 |t0::ts,x::l,i+1,t,h,hd,hk=>by
  simp only[oD]at h hd;simp only[DataW.weightsEach,bO];exact .inr (rL h hd hk)
def Small(P:Program)(t:TypeId)(d:DataW H):Prop:=∀k∈d.weights P t,k<=reachBytes
theorem wm{dL:ae->α->List K->Prop}(ht:P.underlying t=O (.slice e))(hs:P.cellsOf e=s)(dW:0<s)(hby:0<P.bytesOf e)
  (hV:∀di cs x,cs.length=s->DataW.trod enc P w base spare held di e cs=O x->Small P e x.1->∃u,dL w u cs)
  {x:DataW H×List MemPlace} (h:DataW.trod enc P w base spare held di t [v]=O x) (hz:Small P t x.1):∃l,aY w v s l dL:=by
 rcases Deep.open_slice ht h with⟨gW,_⟩|⟨a,len,cap,m,n,eE,Pl,gW,_,hl,hm,hmm,rfl,hi⟩
 ·simp only[List.cons.injEq,and_true]at gW
  subst gW;exact⟨[],U,0,0,0,0,rfl,rfl,cz _,A,A,by simp,by simp⟩
 ·simp only[List.cons.injEq,and_true]at gW
  subst gW;have hlm:len<=m:=by rw[hmm];split<;>omega
  have mK:len<=140737488355328:=by
   have h1:(len+(m-len))*P.bytesOf e<=reachBytes:=by
    have:=hz ((len+(m-len))*P.bytesOf e) (by simp[DataW.weights,ht]);exact this
   have h2:len+(m-len)<=(len+(m-len))*P.bytesOf e:=Nat.le_mul_of_pos_right _ hby
   simp only[reachBytes]at h1;omega
  have hD:∀i,i<m->Small P e (eE i):=λi Jv k hk=>by
   refine hz k ?_;simp only[DataW.weights,ht,bX,bO]
   right
   by_cases iM:i<len
   ·exact .inl (tl (aT.2 ⟨i,aD iM,rfl⟩) hk)
   ·exact .inr (tl (aT.2 ⟨i-len,by simp;omega,by rw[show len+(i-len)=i by omega]⟩) hk)
  obtain⟨l,Du,hp⟩:=J4 (α:=α) (n:=len) (p:=λi u=>∃ym,w.cells? base (a.add (i*s)) s=O ym/\dL w u ym) (λi iM=>by
   obtain⟨ym,hc,wJ⟩:=hi i A;rw[hs]at hc;obtain⟨u,hu⟩:=hV n ym _ (World.cells?_some hc).2.1 wJ (hD i A);exact⟨u,ym,hc,hu⟩)
  refine⟨l,O a,len,cap,a.block,a.off,rfl,Du.symm,hl,mK,by simpa[maxLen]using hm,λfZ=>?_,λi u hu=>?_⟩
  ·have h0:0<l.length:=yh.2 fZ
   obtain⟨ym,hc,_⟩:=hp 0 _ (bL h0);obtain⟨_,hlen,pZ⟩:=World.cells?_some hc;have h1:=pZ 0 dW;rw[bL A]at h1;have:=World.cell?_spot h1;simp only[Nat.zero_mul,Addr.add_zero']at this;obtain⟨b,o,sp⟩:=a;simp only at this;subst this;rfl
  ·obtain⟨ym,hc,hv⟩:=hp i u hu
   refine⟨ym,λj y hj=>?_,hv⟩;obtain⟨_,hlen,pZ⟩:=World.cells?_some hc;have iS:j<s:=by have:=(aJ.1 hj).1;omega
   have h1:=pZ j iS;rw[hj]at h1;have EP:a.spot=U:=by
    have h0:=pZ 0 dW;rw[bL A,Addr.add_zero']at h0;have:=World.cell?_spot h0;unfold Addr.add at this
    split at this
    ·exact this
    ·rename_i fZ
     have h0':0<l.length:=by have:=(aJ.1 hu).1;omega
     obtain⟨cs0,Nq,_⟩:=hp 0 _ (bL h0');obtain⟨_,ai5,agD⟩:=World.cells?_some Nq;have h3:=agD 0 dW;rw[bL A]at h3;have:=World.cell?_spot h3;simpa only[Nat.zero_mul,Addr.add_zero']using this
   obtain⟨b,o,sp⟩:=a;simp only at EP;subst EP;rw[Addr.add_lit,Addr.add_lit]at h1;exact h1
end
section
variable {H:Type} {enc:TypeId×K->H} {w:ae} {base:Nat} {spare:Nat->Bool} {held:Bool}
theorem rm{fs:Array Field}{x:DataW H×List MemPlace}(ht:Tryz.prog.underlying t=O (.struct fs))(h:DataW.trod enc Y w base spare held di t cs=O x)(hz:Small Y t x.1):
  ∃n,cs.length=Tryz.prog.cellsOf t/\∀(i T off:Nat),(fs[i]?).map (λf=>(f.type,f.offset))=O (T,off)->∃y,DataW.trod enc Y w base spare held n T ((cs.drop off).take (Tryz.prog.cellsOf T))=O y/\Small Y T y.1:=by
 obtain⟨xs,n,_,rfl,hlen,pw,hf⟩:=DataW.trod_struct ht h;refine⟨n,hlen,λi T off hi=>?_⟩;obtain⟨f,hif,e⟩:=ff.1 hi;simp only[Prod.mk.injEq]at e;obtain⟨rfl,rfl⟩:=e;have h1:=hf i f hif;have ce:i<xs.length:=by rw[pw];exact(jl.1 hif).1
 rw[bL ce]at h1;refine⟨_,h1,λk hk=>hz k ?_⟩;simp only[DataW.weights,ht];exact rL (i:=i) (by simp[hif]) (by simp[bL ce]) hk
theorem J0:Tryz.prog.cellsOf 3=1:=by kernel_rfl
theorem adI:Tryz.prog.cellsOf 4=1:=by kernel_rfl
theorem adN:Tryz.prog.cellsOf 9=1:=by kernel_rfl
theorem aan:Tryz.prog.cellsOf 42=1:=by kernel_rfl
theorem XZ:Tryz.prog.cellsOf 41=2:=by kernel_rfl
theorem aao:Tryz.prog.cellsOf 47=1:=by kernel_rfl
theorem adJ:Tryz.prog.cellsOf 56=8:=by kernel_rfl
theorem adK:Tryz.prog.cellsOf 39=1:=by kernel_rfl
theorem adL:Tryz.prog.cellsOf 49=2:=by kernel_rfl
theorem adM:Tryz.prog.cellsOf 38=1:=by kernel_rfl
theorem aga:Tryz.prog.cellsOf 44=4:=by kernel_rfl
theorem TE:Tryz.prog.cellsOf 46=6:=by kernel_rfl
theorem XY:Tryz.prog.cellsOf 33=1:=by kernel_rfl
theorem aam:Tryz.prog.cellsOf 35=4:=by kernel_rfl
theorem abb:Tryz.prog.cellsOf 23=1:=by kernel_rfl
theorem OW:Tryz.prog.cellsOf 65=3:=by kernel_rfl
theorem TG:Tryz.prog.cellsOf 22=1:=by kernel_rfl
theorem adO:Tryz.prog.cellsOf 25=2:=by kernel_rfl
theorem zA{x:DataW H×List MemPlace}(h:DataW.trod enc Y w base spare held di 3 cs=O x):∃u,gI w u cs:=by
 obtain⟨n,rfl,_,hw⟩:=DataW.trod_int underlying3 h;exact⟨n,rfl,Q7 hw⟩
theorem ac6{x:DataW H×List MemPlace}(h:DataW.trod enc Y w base spare held di 4 cs=O x):∃b,cs=[ag b]:=by
 obtain⟨b,rfl,_⟩:=DataW.trod_bool underlying4 h;exact⟨b,rfl⟩
theorem PP{x:DataW H×List MemPlace}(h:DataW.trod enc Y w base spare held di 41 cs=O x)(hz:Small Y 41 x.1):∃u,mp w u cs:=by
 obtain⟨n,hl,hf⟩:=rm underlying41 h hz;rw[XZ]at hl
 match cs,hl with
 |[c0,c1],_=>
  obtain⟨y0,h0,z0⟩:=hf 0 4 0 rfl;obtain⟨y1,h1,z1⟩:=hf 1 3 1 rfl;rw[adI]at h0;rw[J0]at h1;obtain⟨b,hb⟩:=ac6 h0;obtain⟨m,hm,hi⟩:=zA h1;simp at hb hm;subst hb hm;exact⟨⟨b,m⟩,rfl,hi⟩
theorem Wf{x:DataW H×List MemPlace}(h:DataW.trod enc Y w base spare held di 42 [v]=O x)(hz:Small Y 42 x.1):∃l,aY w v 1 l gI:=
 wm underlying42 J0 A (iG bC) (λ_ _ _ _ hh _=>zA hh) h hz
theorem Wh{x:DataW H×List MemPlace}(h:DataW.trod enc Y w base spare held di 47 [v]=O x)(hz:Small Y 47 x.1):∃l,aY w v 2 l mp:=
 wm underlying47 XZ A (iG bC) (λ_ _ _ _ hh hz=>PP hh hz) h hz
theorem afU{x:DataW H×List MemPlace}(h:DataW.trod enc Y w base spare held di 49 cs=O x)(hz:Small Y 49 x.1):∃u,B_ w u cs:=by
 obtain⟨n,hl,hf⟩:=rm underlying49 h hz;rw[adL]at hl
 match cs,hl with
 |[c0,c1],_=>
  obtain⟨y0,h0,z0⟩:=hf 0 3 0 rfl;obtain⟨y1,h1,z1⟩:=hf 1 47 1 rfl;rw[J0]at h0;rw[aao]at h1;obtain⟨m,hm,hi⟩:=zA h0;simp at hm;subst hm;obtain⟨l,hs⟩:=Wh h1 z1;exact⟨⟨m,l⟩,c1,rfl,hi,hs⟩
theorem afT{x:DataW H×List MemPlace}(h:DataW.trod enc Y w base spare held di 56 cs=O x)(hz:Small Y 56 x.1):∃u,Dm w u cs:=by
 obtain⟨n,hl,hf⟩:=rm underlying56 h hz;rw[adJ]at hl
 match cs,hl with
 |[c0,c1,c2,c3,c4,c5,c6,c7],_=>
  obtain⟨y0,h0,z0⟩:=hf 0 3 0 rfl;obtain⟨y1,h1,z1⟩:=hf 1 3 1 rfl;obtain⟨y2,h2,z2⟩:=hf 2 41 2 rfl;obtain⟨y3,h3,z3⟩:=hf 3 41 4 rfl;obtain⟨y4,h4,z4⟩:=hf 4 3 6 rfl;obtain⟨y5,h5,z5⟩:=hf 5 47 7 rfl;rw[J0]at h0 h1 h4;rw[XZ]at h2 h3;rw[aao]at h5;obtain⟨a0,e0,i0⟩:=zA h0;obtain⟨a1,e1,i1⟩:=zA h1;obtain⟨a2,e2,i2⟩:=PP h2 z2;obtain⟨a3,e3,i3⟩:=PP h3 z3;obtain⟨a4,e4,i4⟩:=zA h4;obtain⟨l,hs⟩:=Wh h5 z5;simp at e0 e1 e2 e3 e4;obtain⟨e2,e2'⟩:=e2;obtain⟨e3,e3'⟩:=e3;subst e0 e1 e2 e2' e3 e3' e4;exact⟨⟨a0,a1,a2,a3,a4,l⟩,c7,rfl,i0,i1,i2,i3,i4,hs⟩
theorem ac9{x:DataW H×List MemPlace}(h:DataW.trod enc Y w base spare held di 38 [v]=O x)(hz:Small Y 38 x.1):∃l,aY w v 2 l B_:=
 wm underlying38 adL A (iG bC) (λ_ _ _ _ hh hz=>afU hh hz) h hz
theorem ac8{x:DataW H×List MemPlace}(h:DataW.trod enc Y w base spare held di 39 [v]=O x)(hz:Small Y 39 x.1):∃l,aY w v 8 l Dm:=
 wm underlying39 adJ A (iG bC) (λ_ _ _ _ hh hz=>afT hh hz) h hz
theorem ZJ{x:DataW H×List MemPlace}(h:DataW.trod enc Y w base spare held di 46 cs=O x)(hz:Small Y 46 x.1):∃u,da w u cs:=by
 obtain⟨n,hl,hf⟩:=rm underlying46 h hz;rw[TE]at hl
 match cs,hl with
 |[c0,c1,c2,c3,c4,c5],_=>
  obtain⟨y0,h0,z0⟩:=hf 0 38 0 rfl;obtain⟨y1,h1,z1⟩:=hf 1 39 1 rfl;obtain⟨y2,h2,z2⟩:=hf 2 44 2 rfl;rw[adM]at h0;rw[adK]at h1;rw[aga]at h2;obtain⟨lp,sp⟩:=ac9 h0 z0;obtain⟨li,si⟩:=ac8 h1 z1;obtain⟨m,hm,hg⟩:=rm underlying44 h2 z2;obtain⟨z0,k0,zk0⟩:=hg 0 3 0 rfl;obtain⟨z1,k1,zk1⟩:=hg 1 41 1 rfl;obtain⟨z2,k2,zk2⟩:=hg 2 42 3 rfl;rw[J0]at k0;rw[XZ]at k1;rw[aan]at k2;obtain⟨a0,e0,i0⟩:=zA k0;obtain⟨a1,e1,i1⟩:=PP k1 zk1;obtain⟨lt,st⟩:=Wf k2 zk2;simp at e0 e1;obtain⟨e1,e1'⟩:=e1;subst e0 e1 e1';exact⟨⟨lp,li,a0,a1,lt⟩,c0,c1,c5,rfl,i0,i1,sp,si,st⟩
theorem Wa{x:DataW H×List MemPlace}(h:DataW.trod enc Y w base spare held di 33 [v]=O x)(hz:Small Y 33 x.1):∃l,aY w v 6 l da:=
 wm underlying33 TE A (iG bC) (λ_ _ _ _ hh hz=>ZJ hh hz) h hz
theorem ac7{x:DataW H×List MemPlace}(h:DataW.trod enc Y w base spare held di 35 cs=O x)(hz:Small Y 35 x.1):∃u,kG w u cs:=by
 obtain⟨n,hl,hf⟩:=rm underlying35 h hz;rw[aam]at hl
 match cs,hl with
 |[c0,c1,c2,c3],_=>
  obtain⟨y0,h0,z0⟩:=hf 0 9 0 rfl;obtain⟨y1,h1,z1⟩:=hf 1 3 1 rfl;obtain⟨y2,h2,z2⟩:=hf 2 3 2 rfl;obtain⟨y3,h3,z3⟩:=hf 3 33 3 rfl;rw[adN]at h0;rw[J0]at h1 h2;rw[XY]at h3;obtain⟨s,e0,_,_⟩:=DataW.trod_string underlying9 h0;obtain⟨a1,e1,i1⟩:=zA h1;obtain⟨a2,e2,i2⟩:=zA h2;obtain⟨l,hs⟩:=Wa h3 z3;simp at e0 e1 e2;subst e0 e1 e2;exact⟨⟨s,a1,a2,l⟩,c3,rfl,i1,i2,hs⟩
theorem We{x:DataW H×List MemPlace}(h:DataW.trod enc Y w base spare held di 65 cs=O x)(hz:Small Y 65 x.1):∃u,gX w u cs:=by
 obtain⟨n,hl,hf⟩:=rm underlying65 h hz;rw[OW]at hl
 match cs,hl with
 |[c0,c1,c2],_=>
  obtain⟨y0,h0,z0⟩:=hf 0 9 0 rfl;obtain⟨y1,h1,z1⟩:=hf 1 3 1 rfl;obtain⟨y2,h2,z2⟩:=hf 2 42 2 rfl;rw[adN]at h0;rw[J0]at h1;rw[aan]at h2;obtain⟨s,e0,_,_⟩:=DataW.trod_string underlying9 h0;obtain⟨a1,e1,i1⟩:=zA h1;obtain⟨l,hs⟩:=Wf h2 z2;simp at e0 e1;subst e0 e1;exact⟨⟨s,a1,l⟩,c2,rfl,i1,hs⟩
theorem adb{x:DataW H×List MemPlace}(h:DataW.trod enc Y w base spare held di 25 cs=O x)(hz:Small Y 25 x.1):∃u,adC w u cs:=by
 obtain⟨n,hl,hf⟩:=rm underlying25 h hz;rw[adO]at hl
 match cs,hl with
 |[c0,c1],_=>
  obtain⟨y0,h0,z0⟩:=hf 0 22 0 rfl;obtain⟨y1,h1,z1⟩:=hf 1 23 1 rfl;rw[TG]at h0;rw[abb]at h1;obtain⟨lg,sg⟩:=wm underlying22 OW A (iG bC) (λ_ _ _ _ hh hz=>We hh hz) h0 z0;obtain⟨lf,sf⟩:=wm underlying23 aam A (iG bC) (λ_ _ _ _ hh hz=>ac7 hh hz) h1 z1;exact⟨⟨lg,lf⟩,c0,c1,rfl,sg,sf⟩
end
theorem own:ownKnob Tryz.prog.godebug=U:=by kernel_rfl
theorem laidOut:laidOutB Y=true:=by kernel_rfl
theorem zE{H:Type}{enc:TypeId×K->H}{W':ae}(hb:Below dO.heap.size dO W'):∀(ts:List TypeId) (vs:List K) (ds:List (DataW H)) (ps:List MemPlace),
  (∀t∈ts,Tryz.prog.readableRec t=true/\t<Tryz.prog.types.size)->DataW.TrodAll enc Y dO 0 (λ_=>true) true ts vs ds ps->DataW.TrodAll enc Y W' 0 (λb=>decide (b<dO.heap.size)) true ts vs ds ps
 |[],vs,ds,ps,_,h=>by obtain⟨rfl,rfl,rfl⟩:=trodAll_nil h;exact rfl
 |t::ts,vs,ds,ps,hr,h=>by
  obtain⟨v,vs',d,X_,p,q,rfl,rfl,rfl,h0,h1⟩:=trodAll_cons h;have lt0:∀x∈p,x.block<dO.heap.size:=by obtain⟨m,hm⟩:=h0;exact DataW.trod_lt m _ _ _ hm
  exact⟨p,q,Below.trod laidOut (hr t bT).1 (hr t bT).2 h0 hb lt0,zE hb ts vs' X_ q (λu hu=>hr u (by simp[hu])) h1,rfl⟩
theorem VP{k:FuncId}{fn:Func}{s:ChangeSpec}{ts:List TypeId}(hp:fn.params.toList=ts)(U7:fn.resultTypes= #[4])(aaS:s.vars=[])
  (hts:∀t∈ts,Tryz.prog.readableRec t=true/\t<Tryz.prog.types.size)
  {H:Type} {enc:TypeId×K->H} {args:Array K} {ds gs:List (DataW H)} {before:List MemPlace}
  (ve:ds.length=ts.length->s.fn H ds={results:=[.lit (.bool true)],args:=ds})
  (hW:DataW.Whole enc Y fn.params.toList s.vars false dO args.toList ds gs before)
  (afI:∀p,DataW.TrodAll enc Y dO 0 (λ_=>true) true ts args.toList ds p->gF Y k args.toList dO (ag true)):
  Calls Y k args dO λe W'=>∃v,e=.returned v/\s.post enc Y fn false true false false dO args v W':=by
 have zp:=hW;obtain⟨p,q,hA,hV,rfl,hfz,tP⟩:=hW;rw[hp]at hA;rw[aaS]at hV;obtain⟨rfl,rfl⟩:=trodVars_none hV;have hlen:∀(ts:List TypeId) (vs:List K) (ds:List (DataW H)) (ps:List MemPlace),DataW.TrodAll enc Y dO 0 (λ_=>true) true ts vs ds ps->ds.length=ts.length:=by
  intro ts
  induction ts with
  |nil=>intro vs ds ps h;obtain⟨_,rfl,_⟩:=trodAll_nil h;rfl
  |cons t ts ih=>intro vs ds ps h;obtain⟨v,vs',d,X_,p,q,rfl,rfl,rfl,h0,h1⟩:=trodAll_cons h;simp[ih _ _ _ h1]
 have hs:=ve (hlen _ _ _ _ hA);have h3:Calls Y k args dO λe w'=>∃u,e=.returned u/\u=ag true/\nX db dO w':=by
  have:=callsIn_wide.1 (afI _ hA);simpa using this
 refine h3.mono λe W' ⟨u,he,hu,hc⟩=>?_;subst hu;refine⟨_,he,ds,[],_,[],p,[],zp,?_,?_,?_,hc.below.frame _,λh=>by cases h⟩
 ·rw[cj,hs,U7]
  exact trodAll_mk1 (shut_bool underlying4 _)
 ·rw[cj,hs,hp]
  exact zE hc.below _ _ _ _ hts hA
 ·rw[cj,hs,aaS]
  exact rfl
end
end
section
set_option maxRecDepth 100000
open Go.ChangeAt Go.ChangeShapes Go.WideShapes
def FV:List (String×DataW Unit):=[("turnery/code.ways",Rows.laid_turnery_code_ways)]
theorem Ki:Tryz.prog.globalNamed "turnery/code.ways" =O 0:=by kernel_rfl
theorem QF:(Tryz.prog.globals[0]?).map (·.type)=O 155:=by kernel_rfl
theorem adP:Tryz.prog.cellsOf 155=4:=by kernel_rfl
theorem aac(h:laidMetH Y FV dO):ct dO 0 0 uj:=by
 have ht:Lib.TabIs Y dO "turnery/code.ways" Z [0,0,1,2]:=Lib.tabIs_of_head (rest:=[]) Ki QF underlying155 underlying3 J0 adP h
 intro j v hj;rw[eC]
 match j,hj with
 |0,hj=>simp only[uj,jN,cF]at hj;subst hj;exact ht.cell Ki 0 (by decide)
 |1,hj=>simp only[uj,oD,jN,cF]at hj;subst hj;exact ht.cell Ki 1 (by decide)
 |2,hj=>simp only[uj,oD,jN,cF]at hj;subst hj;exact ht.cell Ki 2 (by decide)
 |3,hj=>simp only[uj,oD,jN,cF]at hj;subst hj;exact ht.cell Ki 3 (by decide)
 |j+4,hj=>simp[uj]at hj
theorem Sc{l:List Nat}(h:l.all (·<=reachBytes)=true):∀k∈l,k<=reachBytes:=by
 intro k hk;have:=List.all_eq_true.1 h k hk;simpa using this
noncomputable def CF(os:Os):ae:=
 {World.holding Y os ⟨#[],#[],[]⟩with heap:=(World.holding Y os ⟨#[],#[],[]⟩).heap.modify 0 λ
  | .cells _ t frozen=>.cells #[J Z 0,J Z 0,J Z 1,J Z 2] t frozen
  |o=>o}
theorem VN(os:Os)(args:Array K):laidMet Y FV ((CF os).forCall (λ_ _=>0) ⟨#[],args,[]⟩).memory:=
 laidMet_of_run' 8 bC bC
theorem ade{H:Type}{enc:TypeId×K->H}{args:Array K}{ds:List (DataW H)}{p:List MemPlace}{base:Nat}{params:Array TypeId}(hp:params= #[25])
  (h1:∀(j:Nat) t v,params[j]?=O t->args[j]?=O v->Value.okWide Y dO .any base t v)
  (hA:DataW.TrodAll enc Y dO 0 (λ_=>true) true [25] args.toList ds p) (hz:∀k∈DataW.weightsEach Y [25] ds,k<=reachBytes):
  ∃(u:dk) (g fs:K),args= #[aC #[g,fs]]/\aY dO g 3 u.globals gX/\aY dO fs 4 u.funcs kG:=by
 subst hp;obtain⟨v0,vs0,d0,ds0,p0,q0,sZ,rfl,rfl,h0,r0⟩:=trodAll_cons hA;obtain⟨rfl,rfl,rfl⟩:=trodAll_nil r0;obtain rfl:args= #[v0]:=by cases args;simp_all
 obtain⟨cs0,rfl,_⟩:=okWide_struct underlying25 (h1 0 25 v0 rfl rfl);obtain⟨f0,k0⟩:=h0;obtain⟨cs0⟩:=cs0;have Zl:Small Y 25 d0:=λk hk=>hz k (rL (i:=0) rfl rfl hk);obtain⟨u,g,f,e0,hg,hf⟩:=adb k0 Zl;simp only[Value.cells]at e0;subst e0;exact⟨u,g,f,rfl,hg,hf⟩
def OR:Array K:=#[aC #[I U 0 0,I U 0 0]]
end
section
set_option maxHeartbeats 8000000
attribute [local irreducible] wpListIn Code.wpIn Exit.then Exit.inBlock bodyPost wpQuiet wpAnyIn bodyPostM
structure lR where
 a:ax
 c:Nat
 l:List Bool
def jW(R:Nat)(r:lR):K:=.slice r.a R r.c
def kF(R:Nat)(r:lR):cq:=kQ r.a R r.c r.l
theorem P2{rs:List lR}{a:ax}(h:Wd S w0 (G a n c e 1 (rs.map (jW R))::(rs.map (kF R)++H)) w)(hn:n=rs.length)(hb:n<=1000)(hR:R<=1000)(hl:∀r∈rs,r.l.length=R):
  aY w (I a n c) 1 (rs.map (·.l)) F9:=by
 refine h.nf (k:=0) rfl (aD hn) A λi x hx=>?_;rw[aW]at hx;obtain⟨r,hr,rfl⟩:=ff.1 hx;have ce:i<rs.length:=(aJ.1 hr).1;have oX:=hl r (aA hr);refine⟨[jW R r],λj v hj=>?_,jW R r,rfl,?_⟩
 ·match j,hj with
  |0,hj=>simpa[hr]using hj
 ·refine h.nf (k:=i+1) (a:=r.a) (n:=R) (c:=r.c) (e:=4) (s:=1) (xs:=r.l.map ag) ?_ oX.symm A λj y hy=>⟨[ag y],λk v hk=>?_,rfl⟩
  ·rw[oD,eX (aD ce),aW,hr];rfl
  ·match k,hk with
   |0,hk=>simpa[hy]using hk
theorem adk{rs:List lR}{cZ:List cq}(h:Wd S w0 (cZ++(rs.map (kF R)++H)) w){r:lR}(hr:rs[i]?=O r)(hR:R<=1000)(hl:r.l.length=R):aY w (jW R r) 1 r.l CT:=by
 have ce:i<rs.length:=(aJ.1 hr).1;refine h.nf (k:=cZ.length+i) (a:=r.a) (n:=R) (c:=r.c) (e:=4) (s:=1) (xs:=r.l.map ag) ?_ hl.symm A λj y hy=>⟨[ag y],λk v hk=>?_,rfl⟩
 ·rw[dH A,show cZ.length+i-cZ.length=i by omega,eX (aD ce),aW,hr];rfl
 ·match k,hk with
  |0,hk=>simpa[hy]using hk
abbrev uI(R:Nat)(wz:ae):Type:={y:Int×iA×(ax×Nat×Nat)//y_ R y.2.1/\y.2.1.args.length<=1000/\aY wz (I y.2.2.1 y.2.2.2.1 y.2.2.2.2) 2 y.2.1.args mp}
def DD(x:iA)(v:ax×Nat×Nat):List K:=[J Z x.op,J Z x.dst,ag x.a.dq,J Z x.a.n,ag x.b.dq,J Z x.b.n,J Z x.fn,I v.1 v.2.1 v.2.2]
def uI.enc{R:Nat}{wz:ae}(y:uI R wz):Int×List K:=(y.1.1,DD y.1.2.1 y.1.2.2)
theorem Hn{β:Type}{p:Nat->α->β->Prop}:∀(l:List α),(∀i x,l[i]?=O x->∃y,p i x y)->∃ys:List β,ys.length=l.length/\∀i x,l[i]?=O x->∃y,ys[i]?=O y/\p i x y:=by
 intro l h
 classical
 refine⟨(bj l.length).attach.map λi=>Classical.choose (h i.1 (l[i.1]'(by have:=i.2;simpa using this)) (bL _)),by simp,λi x hx=>?_⟩;have ce:=(aJ.1 hx).1;have Mv:=(aJ.1 hx).2;refine⟨_,by rw[bL (aD ce)],?_⟩;simp only[List.getElem_map,List.getElem_attach,List.getElem_range];have:=w_ (h i (l[i]'ce) (bL _));simpa[Mv]using this
theorem Zn{l:List iA}(dV:∀x∈l,y_ R x)(sZ:∀x∈l,x.args.length<=1000)(iw:∀i x,l[i]?=O x->∃cs,ct wz b (o+i*8) cs/\Dm wz x cs):
  ∃(zs:List (List K)) (xs:List (uI R wz)),zs.length=l.length/\(∀z∈zs,z.length=8)/\xs.map uI.enc=AK zs zs.length/\xs.map (·.1.2.1)=l.reverse/\∀m z,zs[m]?=O z->∀j v,z[j]?=O v->wz.cell? ⟨b,o+m*8+j,U⟩=O v:=by
 obtain⟨ys,vK,hys⟩:=Hn (p:=λi x (v:ax×Nat×Nat)=>ct wz b (o+i*8) (DD x v)/\aY wz (I v.1 v.2.1 v.2.2) 2 x.args mp) l λi x hx=>by
  obtain⟨cs,hc,v,rfl,_,_,_,_,_,hs⟩:=iw i x hx;have NF:=hs;obtain⟨va,vn,vc,_,_,rfl,_⟩:=hs;exact⟨(va,vn,vc),hc,NF⟩
 have hex:∀k,k<=l.length->∃xs:List (uI R wz),xs.map uI.enc=AK ((bj l.length).map λi=>DD (l[i]?.getD ⟨0,0,lB,lB,0,[]⟩) (ys[i]?.getD (U,0,0))) k/\xs.map (·.1.2.1)=l.reverse.take k:=by
  intro k
  induction k with
  |zero=>exact λ_=>⟨[],by simp[AK],by simp⟩
  |succ k ih=>
   intro hk;obtain⟨xs,h1,h2⟩:=ih A;obtain⟨x,hx⟩:=bE l (l.length-1-k) A;obtain⟨v,hv,hc,hs⟩:=hys _ x hx;refine⟨xs++[⟨(((l.length-1-k:Nat):Int),x,v),dV x (aA hx),sZ x (aA hx),hs⟩],?_,?_⟩
   ·rw[bz,h1]
    simp only[AK,iV,bz,cf,dm,aG,d_];congr 1;have ce:l.length-1-k<l.length:=A;simp only[uI.enc,aW,gq ce,b_,gw,hx,hv]
   ·rw[bz,h2,bV,vN A,hx];rfl
 obtain⟨xs,h1,h2⟩:=hex l.length (cz _);refine⟨(bj l.length).map λi=>DD (l[i]?.getD ⟨0,0,lB,lB,0,[]⟩) (ys[i]?.getD (U,0,0)),xs,by simp,λz hz=>?_,aD h1,by rw[h2,jR bT],λm z hz j v hj=>?_⟩
 ·obtain⟨i,_,rfl⟩:=aT.1 hz
  rfl
 ·rw[aW]at hz
  obtain⟨i,hi,rfl⟩:=ff.1 hz;have ce:m<l.length:=by have:=(aJ.1 hi).1;simpa using this
  rw[gq ce]at hi;simp only[cF]at hi;subst hi;obtain⟨x,hx⟩:=bE l m ce;obtain⟨v',hv',hc,_⟩:=hys m x hx;rw[hx,hv']at hj;exact hc j v hj
theorem H3{own:Nat->Prop}{Bs:Nat}{a:ax}{zs:List (List K)}{xs:List (uI R wz)}(hn:n=zs.length)(ha:zs≠[]->a=O ⟨b,o,U⟩)(hlen:zs.length<=100000)(h8:∀z∈zs,z.length=8)
  (lT:∀m z,zs[m]?=O z->∀j v,z[j]?=O v->wz.cell? ⟨b,o+m*8+j,U⟩=O v) (NA:∀p v,wz.cell? p=O v->¬own p.block) (Xr:¬own Bs) (Zl:∀p v,wz.cell? p=O v->w.cell? p=O v) (hB:w.cell? ⟨Bs,0,U⟩=O (I a n c)) (mT:xs.map uI.enc=AK zs zs.length):
  SeqStopsK (FW U) 4 Y 165 #[aO (O ⟨Bs,0,U⟩)] (λx:uI R wz=>#[J Z (uI.enc x).1,aC (uI.enc x).2.toArray]) (nL own) (λys=>ys=xs) (λpre=>pre<+:xs) xs.length w:=by
 intro l vI Jx dO hW _ _ hY h0;have pw:xs.length=zs.length:=by have:=bD List.length mT;rwa[aG,AL]at this
 subst hn;have hcW:∀p v,w.cell? p=O v->dO.cell? p=O v:=λp v hp=>(hW.cell (jC w _ hp)).trans hp;refine JS 4 A uI.enc l Bs b o c (λb=>¬own b) (nL own) (nL.refl own) (λ_ _ _ h k=>h.trans k) (λsC B h p v hp hc=>h.cell hp hc) zs xs mT hlen (λfZ=>?_) Xr vI Jx a (λfZ=>ha fZ) (λpre x W1 hJ hl=>hY pre x W1 hJ A) dO (hcW _ _ hB) h8 (λm z hz j v hj=>hcW _ _ (Zl _ _ (lT m z hz j v hj))) h0;obtain⟨z,hz⟩:=bE zs 0 (yh.2 fZ);have hz8:=h8 z (aA hz);obtain⟨v,hv⟩:=bE z 0 A;exact NA _ v (lT 0 z hz 0 v hv)
end
section
section
variable {P:Program} {N:Nat} {ds:List Deferred} {S:Nat->Prop} {w0:ae} {L L':List (Nat×K)} {H H' Hr:List cq} {Q:Exit->Act->ae->Prop} {x y:Operand} {dw:Act->ae->Prop} {l:List Oper} {di:Nat} {listed:Array Bool}
theorem Nm(i:Nat){pos:String}{aft:Array Go.Edge}(R:ae->K->ae->Prop)[ho:eJ l i ⟨O d,.call {callee:=.value (.func f),args:=args.toArray,argTypes:=tJ},ty,pos,aft,U⟩][h:bf P f][hx:B8 L args vs](hd:ev d N L=true)
  (hr:decide (eZ .any l.toArray listed=[i])=true)
  (hc:∀w,Wd S w0 H w->iL P f vs w (R w))
  (k:∀v w w',Wd S w0 H w->R w v w'->Wd S w0 Hr w'/\∀a,Fr N ds ((d,v)::L) a->wpAnyH P .any l.toArray (et dw) (Wd S w0 Hr) di (listed.setIfInBounds i true) a w'):cU N ds S w0 L H (wpAnyH P .any l.toArray (et dw) (Wd S w0 Hr) (di+1) listed):=by
 intro a w hS;refine wpAnyH_all (iG hr) bT λi' zt=>?_;simp only[bQ]at zt;subst zt;unfold wpOp;rw[show l.toArray[i']?=O ⟨O d,.call {callee:=.value (.func f),args:=args.toArray,argTypes:=tJ},ty,pos,aft,U⟩ by simpa using ho.at'];simp only;rw[al (show fq (⟨O d,.call {callee:=.value (.func f),args:=args.toArray,argTypes:=tJ},ty,pos,aft,U⟩:Oper) (yielded l.toArray a.tmps)=true from rfl)]
 left
 unfold Oper.wp;have zV:(execOp a.eval ⟨O d,.call {callee:=.value (.func f),args:=args.toArray,argTypes:=tJ},ty,pos,aft,U⟩).run P w=.ok (.enter f vs.toArray) w:=by
  simp[execOp,resolve,Act.eval,Deferred.ofValue,invoke,hx.eq _ _ _ hS.fr,h.run]
 rw[zV];refine Calls.mono (callsIn_wide.1 (hc w hS.wd)) λe w' ⟨v,he,hR⟩=>?_;subst he;obtain⟨h1,h2⟩:=k v w w' hS.wd hR;exact⟨h1,h2 _ (hS.fr.fv hd v)⟩
theorem vY(i:Nat){pos:String}{aft:Array Go.Edge}[ho:eJ l i ⟨O d,.call {callee:=.value (.func f),args:=args.toArray,argTypes:=tJ},ty,pos,aft,U⟩][h:bf P f][hx:B8 L args vs](hd:ev d N L=true)
  (hr:decide (eZ .any l.toArray listed=[i])=true) (hH:Hr.Sublist H)
  (hc:∀w,Wd S w0 H w->gF P f vs w u)
  (k:cU N ds S w0 ((d,u)::L) H (wpAnyH P .any l.toArray (et dw) (Wd S w0 Hr) di (listed.setIfInBounds i true))):cU N ds S w0 L H (wpAnyH P .any l.toArray (et dw) (Wd S w0 Hr) (di+1) listed):=
 Nm i (λw v w'=>v=u/\nX db w w') hd hr hc λv _ w' hw hR=>⟨(hw.call hR.2).sub hH,λa hF=>k a w' ⟨by rw[<-hR.1];exact hF,hw.call hR.2⟩⟩
theorem lY{val:α->K}{cZ:α->List cq}{φ:α->Prop}(i:Nat){pos:String}{aft:Array Go.Edge}[ho:eJ l i ⟨O d,.call {callee:=.value (.func f),args:=args.toArray,argTypes:=tJ},ty,pos,aft,U⟩][h:bf P f][hx:B8 L args vs](hd:ev d N L=true)
  (hr:decide (eZ .any l.toArray listed=[i])=true) (hH:Hr.Sublist H)
  (hc:∀w,Wd S w0 H w->iL P f vs w λu w'=>∃x,u=val x/\Wd db w (cZ x) w'/\φ x)
  (k:∀x,φ x->cU N ds S w0 ((d,val x)::L) (cZ x++H) (wpAnyH P .any l.toArray (et dw) (Wd S w0 Hr) di (listed.setIfInBounds i true))):cU N ds S w0 L H (wpAnyH P .any l.toArray (et dw) (Wd S w0 Hr) (di+1) listed):=
 Nm i (λ_ u w'=>∃x,u=val x/\Wd S w0 (cZ x++H) w'/\φ x) hd hr (λw hw=>(hc w hw).mono λv w' ⟨x,h1,h2,h3⟩=>⟨x,h1,hw.more h2,h3⟩) λv w w' hw hR=>by
  obtain⟨x,rfl,h2,h3⟩:=hR;exact⟨h2.sub (hH.trans (eF _ _)),λa hF=>k x h3 a w' ⟨hF,h2⟩⟩
theorem qX{val:α->K}{cZ:α->List cq}{φ:α->Prop}{H1 H2:List cq}(i:Nat){pos:String}{aft:Array Go.Edge}[ho:eJ l i ⟨O d,.call {callee:=.value (.func f),args:=args.toArray,argTypes:=tJ},ty,pos,aft,U⟩][h:bf P f][hx:B8 L args vs](hd:ev d N L=true)
  (hr:decide (eZ .any l.toArray listed=[i])=true) (hH:Hr.Sublist H2)
  (hc:∀w,Wd S w0 (H1++H2) w->iL P f vs w λu w'=>∃x,u=val x/\Wd (df H1) w (cZ x) w'/\φ x)
  (k:∀x,φ x->cU N ds S w0 ((d,val x)::L) (cZ x++H2) (wpAnyH P .any l.toArray (et dw) (Wd S w0 Hr) di (listed.setIfInBounds i true))):cU N ds S w0 L (H1++H2) (wpAnyH P .any l.toArray (et dw) (Wd S w0 Hr) (di+1) listed):=
 Nm i (λ_ u w'=>∃x,u=val x/\Wd S w0 (cZ x++H2) w'/\φ x) hd hr (λw hw=>(hc w hw).mono λv w' ⟨x,h1,h2,h3⟩=>⟨x,h1,hw.comp h2,h3⟩) λv w w' hw hR=>by
  obtain⟨x,rfl,h2,h3⟩:=hR;exact⟨h2.sub (hH.trans (eF _ _)),λa hF=>k x h3 a w' ⟨hF,h2⟩⟩
theorem Uj{o:Oper}(i:Nat)[ho:eJ l i o](hg:o.guard=U)(hr:decide (eZ .any l.toArray listed=[i])=true)
  (k:∀a w,St N ds S w0 L H a w->∃w',(execOp a.eval o).run P w=.ok .skip w'/\Wd S w0 Hr w'/\wpAnyH P .any l.toArray (et dw) (Wd S w0 Hr) di (listed.setIfInBounds i true) (a.put o.dst undef) w'):cU N ds S w0 L H (wpAnyH P .any l.toArray (et dw) (Wd S w0 Hr) (di+1) listed):=by
 intro a w hS;obtain⟨w',h1,h2,h3⟩:=k a w hS;refine wpAnyH_all (iG hr) bT λi' zt=>?_;simp only[bQ]at zt;subst zt;unfold wpOp;rw[show l.toArray[i']?=O o by simpa using ho.at'];simp only;rw[al (show fq o (yielded l.toArray a.tmps)=true by simp[fq,hg])]
 left
 unfold Oper.wp;rw[h1];exact⟨h2,h3⟩
theorem G0{o:Oper}(i:Nat)[ho:eJ l i o](hg:o.guard=U)(hr:decide (eZ .any l.toArray listed=[i])=true)
  (k:∀a w,St N ds S w0 L H a w->∃v w',(execOp a.eval o).run P w=.ok (.value v) w'/\Wd S w0 Hr w'/\wpAnyH P .any l.toArray (et dw) (Wd S w0 Hr) di (listed.setIfInBounds i true) (a.put o.dst v) w'):cU N ds S w0 L H (wpAnyH P .any l.toArray (et dw) (Wd S w0 Hr) (di+1) listed):=by
 intro a w hS;obtain⟨v,w',h1,h2,h3⟩:=k a w hS;refine wpAnyH_all (iG hr) bT λi' zt=>?_;simp only[bQ]at zt;subst zt;unfold wpOp;rw[show l.toArray[i']?=O o by simpa using ho.at'];simp only;rw[al (show fq o (yielded l.toArray a.tmps)=true by simp[fq,hg])]
 left
 unfold Oper.wp;rw[h1];exact⟨h2,h3⟩
theorem qY(i:Nat)[h:OneCell P T]{pos:String}{aft:Array Go.Edge}[ho:eJ l i ⟨U,.store T x y,ty,pos,aft,U⟩]
  [hx:Ev L x (aO (O ⟨b,o,U⟩))] [hy:Ev L y v] [h1:Dn v] [hb:sM H b j cs t] [hu:eJ cs o u] [hs:wG cs o v ym] [hH:wG H j (aM b ym t) H']
  (hr:decide (eZ .any l.toArray listed=[i])=true) (Ud:Hr.Sublist H')
  (kk:cU N ds S w0 L H' (wpAnyH P .any l.toArray (et dw) (Wd S w0 Hr) di (listed.setIfInBounds i true))):cU N ds S w0 L H (wpAnyH P .any l.toArray (et dw) (Wd S w0 Hr) (di+1) listed):=by
 refine Uj i rfl hr λa w hS=>?_;have QO:=hS.wd.GK j hb.at';have:=pR (P:=P) (T:=T) h1.one (hS.wd.rX j hb.at' hu.at') (by simp[World.frozen?,QO]);have kE:=hS.wd.WT j (o:=o) v hb.at';rw[hs.Gv,hH.Gv]at kE;exact⟨w.setCell ⟨b,o,U⟩ v,by simp[execOp,hx.eq _ _ _ hS.fr,hy.eq _ _ _ hS.fr,this],kE.sub Ud,kk _ _ ⟨hS.fr,kE⟩⟩
theorem dn(i:Nat)[h:gO P T n]{pos:String}{aft:Array Go.Edge}[ho:eJ l i ⟨U,.store T x y,ty,pos,aft,U⟩]
  [hx:Ev L x (aO (O ⟨b,o,U⟩))] [hy:Ev L y (aC vs.toArray)] [hb:sM H b j cs t] [hn:mL vs n] [hp:CX cs o vs ym] [h1:wU vs] [hH:wG H j (aM b ym t) H']
  (hr:decide (eZ .any l.toArray listed=[i])=true) (Ud:Hr.Sublist H')
  (kk:cU N ds S w0 L H' (wpAnyH P .any l.toArray (et dw) (Wd S w0 Hr) di (listed.setIfInBounds i true))):cU N ds S w0 L H (wpAnyH P .any l.toArray (et dw) (Wd S w0 Hr) (di+1) listed):=by
 refine Uj i rfl hr λa w hS=>?_;have QO:=hS.wd.GK j hb.at';have hs:=run_storeCells_at P b o t vs 0 cs.toArray w QO (aD hp.le) h1.all;have e:(cs.toArray.toList.take (o+0)++vs++cs.toArray.toList.drop (o+0+vs.length)).toArray=ym.toArray:=by
  rw[<-hp.eq,<-wv cs o vs hp.le];simp
 rw[e]at hs;have kE:=hS.wd.WL j ym hb.at';rw[hH.Gv]at kE;exact⟨w.setRow b ym.toArray,by simp[execOp,hx.eq _ _ _ hS.fr,hy.eq _ _ _ hS.fr,Instr.storeAt,dB,storeVar,h.sz,Value.cells,hn.eq,hs],kE.sub Ud,kk _ _ ⟨hS.fr,kE⟩⟩
theorem ef(hr:(eZ .any l.toArray listed).isEmpty=true)(k:cU N ds S w0 L H dw):cU N ds S w0 L H (wpAnyH P .any l.toArray (et dw) (Wd S w0 Hr) di listed):=λa w hS=>wpAnyH_done (List.isEmpty_iff.1 hr) (k a w hS) _
end
class adE(xs:List K)(j:Nat)(cs:outParam (List K)):Prop where
 eq:∀i v,cs[i]?=O v->xs[j+i]?=O v
class AC(H:List cq)(b off:Nat)(cs:outParam (List K)):Prop where
 eq:∀S w0 w,Wd S w0 H w->ct w b off cs
instance(b o j n c e s:Nat)(xs cs:List K)(H:List cq)[h:adE xs j cs]:AC (G (O ⟨b,o,U⟩) n c e s xs::H) b (o+j) cs:=
 ⟨λ_ _ _ hw i v hi=>by rw[eB];exact Wd.dp hw (k:=0) rfl (h.eq i v hi)⟩
instance(b off:Nat)(cs:List K)(x:cq)(H:List cq)[h:AC H b off cs]:AC (x::H) b off cs:=⟨λS w0 w hw=>h.eq S w0 w (hw.sub (gh _ _))⟩
section
variable {P:Program} {ro:Option Nat} {N:Nat} {ds:List Deferred} {S:Nat->Prop} {w0:ae} {L:List (Nat×K)} {H:List cq} {ops:Array Oper} {rest:List Oper} {Q:Exit->Act->ae->Prop} {x y:Operand}
instance(priority:=low){off:Nat}[h:gO P T n][hx:Ev L x (aO (O ⟨b,off,U⟩))][hc:AC H b off cs][hn:mL cs n]:gg P N ds S w0 L H (.load T x) (aC cs.toArray):=
 ⟨λ_ h=>(by cases h),λ_ _ h=>(by cases h),λ_ _ _ _ _ a w hF hW=>by simp[execOp,hx.eq _ _ _ hF,mX hn.eq (hc.eq _ _ _ hW)]⟩
theorem TQ(v u:K)(cs ds zs:List K)(hv:v.cells.toList=cs)(hu:u.cells.toList=ds)(hl:cs.length=ds.length)(hz:zs.length=2*cs.length):Instr.fill (λi=>O (i*cs.length,cs.length)) zs.toArray [(0,v),(1,u)]=O (cs++ds).toArray:=by
 have hs:v.cells.size=cs.length:=by rw[<-hv];simp
 have NG:u.cells.size=cs.length:=by rw[<-Array.length_toList,hu,hl]
 have e:v.cells=cs.toArray:=by rw[<-hv]
 have e2:u.cells=ds.toArray:=by rw[<-hu]
 have hf:=uS cs zs 0 0 A;have hp:tR zs 0 cs=cs++zs.drop cs.length:=by
  rw[<-wv zs 0 cs A];simp
 simp only[dR]at hf;rw[hp]at hf;have hf2:=uS ds (cs++zs.drop cs.length) cs.length 0 dr;have Ps:tR (cs++zs.drop cs.length) (cs.length+0) ds=cs++ds:=by
  rw[<-wv (cs++zs.drop cs.length) (cs.length+0) ds dr];rw[dR,List.take_left,List.drop_append];simp;omega
 rw[Ps]at hf2;have hA:(v.cells.zipIdx).foldl (λ(c:Array K) (x:K×Nat)=>c.setIfInBounds (0*cs.length+x.2) x.1) zs.toArray=(cs++zs.drop cs.length).toArray:=by rw[e];simpa using hf
 have hB:(u.cells.zipIdx).foldl (λ(c:Array K) (x:K×Nat)=>c.setIfInBounds (1*cs.length+x.2) x.1) (cs++zs.drop cs.length).toArray=(cs++ds).toArray:=by rw[e2];simpa using hf2
 simp only[Instr.fill];rw[ai (by simp[hs,hz];omega),hA,ai (by simp[NG];omega),hB]
theorem TV{qz:Nat}{zs X_:List K}{pos:String}{aft:Array Go.Edge}[h:dt P T e s qz zs][hx:Ev L x v][hy:Ev L y u][hv:jY v cs][hu:jY u X_][hl:mL cs s][UR:mL X_ s](hd:ev d N L=true)(hs:((Nat.blt 0 s&&Nat.ble s 1000)&&Nat.beq zs.length s)=true)
  (k:∀b,w0.heap.size<=b->cU N ds S w0 ((d,I (O ⟨b,0,U⟩) 2 2)::L) (G (O ⟨b,0,U⟩) 2 2 e s (cs++X_)::H) (wpListIn (FW ro) 0 P ops Q rest)):cU N ds S w0 L H (wpListIn (FW ro) 0 P ops Q (⟨O d,.buildSlice T 2 #[(0,x),(1,y)],ty,pos,aft,U⟩::rest)):=by
 intro a w hS;obtain⟨i,zz,hi,Q5,gW,h1,h2⟩:=h.get;simp only[eU,Nat.blt_eq,Nat.ble_eq]at hs;have hle:=hl.eq;have aj5:=UR.eq;refine gj (v:=.slice (O ⟨w.heap.size,0,U⟩) 2 2) (w':=w.alloc (.cells (cs++X_).toArray e)) rfl (λ_ h=>by cases h) ?_ ?_
 ·have hr:=run_buildSlice (P:=P) w T e 2 #[(0,v),(1,u)] (cs++X_).toArray i zz h.sy hi Q5 (by rw[h1];omega) (by rw[h1];omega) (by
   rw[h1,<-hle];have:=TQ v u cs X_ ((Array.range (2*cs.length)).map (zz.cells[·%zz.cells.size]!)).toList hv.eq hu.eq A bT;rw[Array.toArray_toList]at this;exact this)
  simp[execOp,hx.eq _ _ _ hS.fr,hy.eq _ _ _ hS.fr,hr]
 ·exact k _ hS.wd.size _ _ ⟨hS.fr.fv hd _,hS.wd.uA e s 2 _ (by rw[bW];omega) (by simp[maxLen])⟩
end
attribute [local irreducible] wpListIn Code.wpIn Exit.then Exit.inBlock bodyPost wpQuiet wpAnyIn
set_option maxHeartbeats 4000000
def GC(v:cI):List K:=[ag v.dq,J Z v.n]
theorem BU{a:ax}{l:List cI}(h:Wd S w0 H w)(hk:H[k]?=O (G a n c e 2 (l.flatMap GC)))(hn:n=l.length)(hb:n<=100000)(hl:∀x∈l,dE x.n):aY w (I a n c) 2 l mp:=
 h.nf hk hn A λi x hx=>⟨GC x,λj v hj=>e_ (g:=GC) (s:=2) (λ_=>rfl) l i x j v hx hj,rfl,hl x (aA hx)⟩
theorem I0(v:K)(l:List cI)(r:Nat)(w0:ae)(hv:aY w0 v 2 l mp):gF Y 49 [v,J Z r] w0 (ag (iB l r)):=by
 obtain⟨a,n,c,b,o,rfl,hn,qg,A_,hc,ha,iw⟩:=hv;refine aR func49 rfl ntmps49 rfl (Wd.nil db w0) ?_;refine aU ?_;refine bH (λ(i:Nat)=>i<=n/\iB (l.take i) r=false) (λi=>[(5,J Z i),(0,I a n c),(1,J Z r)]) (λ_=>[]) (λi=>n-i) 0 ⟨aN _,by simp[iB]⟩ (aP V bT) λi ⟨hi,cX⟩=>?_;refine bA ?_;apply aL<;>intro h1
 ·have ce:i<n:=aD h1
  obtain⟨x,hx⟩:=eI hn ce;have mJ:cl a b o:=⟨ha (aZ hx)⟩;have kK:cg i n:=⟨ce⟩;obtain⟨cs,gW,rfl,_⟩:=iw i x hx;have nO:bu w0 b (o+i*2) _:=⟨gW⟩;have jD:iB (l.take (i+1)) r=(x.dq&&decide (x.n=r)):=by
   rw[bV,hx];simp only[iB,List.any_append,jk,List.any_cons,List.any_nil,Bool.or_false]at cX|-
   rw[cX,Bool.false_or]
  have sY:(x.dq&&decide (x.n=r))=true->iB l r=true:=λh=>by
   simp only[iB,rG];exact⟨x,aA hx,h⟩
  refine aU ?_;refine jS 25 (ag (x.dq&&decide (x.n=r))) ?_ ?_
  ·generalize x.dq=g
   cases g
   ·refine cT ?_
    exact aP V bT
   ·refine aV ?_
    exact aP V bT
  generalize (x.dq&&decide (x.n=r))=g at jD sY;cases g
  ·refine aU ?_
   exact a_ (i+1) ⟨ce,jD⟩ A V bT
  ·refine aV ?_
   exact cv rfl (by rw[sY rfl])
 ·have fX:i=n:=by have:=h1;simp at this;omega
  refine aV ?_;refine cv rfl ?_;rw[fX,hn,cL]at cX;rw[cX]
theorem xZ(pv lv tv:K)(B:aq)(yT:∃a n c,pv=I a n c)(Du:∃a n c,lv=I a n c)(EQ:∃a n c,tv=I a n c)(r:Nat)(w0:ae)(hp:aY w0 pv 2 B.bg B_):
  gF Y 47 [aC #[pv,lv,J Z B.kind,ag B.on.dq,J Z B.on.n,tv],J Z r] w0 (ag (B.bg.any λp=>decide (p.dst=r))):=by
 obtain⟨_,_,_,rfl⟩:=Du;obtain⟨_,_,_,rfl⟩:=EQ;obtain⟨a,n,c,b,o,rfl,hn,qg,A_,hc,ha,iw⟩:=hp;refine aR func47 rfl ntmps47 rfl (Wd.nil db w0) ?_
 repeat(first|refine aU ?_|refine dd λ_ _=>?_)
 rename_i p2 _;refine bH (λ(i:Nat)=>i<=n/\(B.bg.take i).any (λp=>decide (p.dst=r))=false) (λi=>[(5,J Z i),M 2 p2,(1,J Z r)]) (λ_=>[aM p2 [I a n c,I _ _ _,J Z B.kind,ag B.on.dq,J Z B.on.n,I _ _ _] 46]) (λi=>n-i) 0 ⟨aN _,by simp⟩ (aP V aF) λi ⟨hi,cX⟩=>?_;refine bA ?_;apply aL<;>intro h1
 ·have ce:i<n:=aD h1
  obtain⟨x,hx⟩:=eI hn ce;have mJ:cl a b o:=⟨ha (aZ hx)⟩;have kK:cg i n:=⟨ce⟩;obtain⟨cs,gW,sv,rfl,_⟩:=iw i x hx;have nO:bu w0 b (o+i*2) _:=⟨gW⟩;refine aU ?_;apply aL<;>intro h2
  ·refine aV ?_
   refine cv rfl ?_;have:(B.bg.any λp=>decide (p.dst=r))=true:=by
    rw[rG];exact⟨x,aA hx,h2⟩
   rw[this]
  ·refine aU ?_
   refine a_ (i+1) ⟨ce,?_⟩ A V aF;rw[bV,hx,List.any_append,cX];simpa using h2
 ·have fX:i=n:=by have:=h1;simp at this;omega
  refine aV ?_;refine cv rfl ?_;rw[fX,hn,cL]at cX;rw[cX]
theorem tC(nm pa re:K)(bl:List aq)(bs:K)(t:Nat)(w0:ae)(gV:aY w0 bs 6 bl da)(hlen:bl.length<=100):
  iL Y 19 [aC #[nm,pa,re,bs],J Z t] w0 λu w'=>∃x:ax×Nat,u=I x.1 (be bl t).length x.2/\Wd db w0 [G x.1 (be bl t).length x.2 3 1 ((be bl t).map dz)] w'/\True:=by
 obtain⟨ba,n,bc,bb,tL,rfl,hn,qg,A_,yy,qd,iw⟩:=gV;refine aR func19 rfl ntmps19 rfl (Wd.nil db w0) ?_
 repeat(first|refine aU ?_|refine dd λ_ _=>?_)
 rename_i p2 _;refine dJ 3 1 ?_;refine bH (λ(x:Nat×ax×Nat×List Nat)=>x.1<=n/\x.2.2.2=(bj x.1).filter λi=>decide ((t:Int)∈dY bl i)) (λx=>[(6,J Z x.1),(5,I x.2.1 x.2.2.2.length x.2.2.1),M 2 p2,(1,J Z t)])
  (λx=>[G x.2.1 x.2.2.2.length x.2.2.1 3 1 (x.2.2.2.map dz),aM p2 [nm,pa,re,I ba n bc] 35]) (λx=>n-x.1) (0,U,0,[]) ⟨aN _,rfl⟩ (aP V aF) λx ⟨hi,hl⟩=>?_
 obtain⟨i,la,lc,l⟩:=x;simp only at hi hl|-
 have Du:l.length<=i:=by rw[hl];have:=fC (λi=>decide ((t:Int)∈dY bl i)) (bj i);rwa[d_]at this
 refine bA ?_;apply aL<;>intro h1
 ·have ce:i<n:=aD h1
  obtain⟨B,hB⟩:=eI hn ce;have mJ:cl ba bb tL:=⟨qd (aZ hB)⟩;have kK:cg i n:=⟨ce⟩;obtain⟨cs,gW,pv,lv,tv,rfl,_,_,_,_,ht⟩:=iw i B hB;have IK:=ht;obtain⟨ta,tn,tc,_,_,rfl,_⟩:=ht;have nO:bu w0 bb (tL+i*6) _:=⟨gW⟩;have yR:(bj (i+1)).filter (λi=>decide ((t:Int)∈dY bl i))=l++if (t:Int)∈B.to then[i]else[]:=by
   rw[iV,mw,<-hl];congr 1
   by_cases h:(t:Int)∈B.to<;>simp[fI hB,h]
  refine aU ?_;refine bY rfl (λw hw=>u_ _ B.to t w (IK.cB du hw.c_)) ?_
  by_cases h:(t:Int)∈B.to
  ·rw[fQ h]
   rw[al h]at yR
   repeat(first|refine aU ?_|refine dd λ_ _=>?_)
   refine fB rfl rfl A A λa' c'=>?_;rw[show l.map dz++[J Z (i:Int)]=(l++[i]).map dz by simp[dz],show l.length+1=(l++[i]).length by simp];refine aU ?_;exact a_ (i+1,a',c',l++[i]) ⟨ce,yR.symm⟩ bB V aB
  ·rw[gx h]
   rw[ai h,cj]at yR;refine aU ?_;exact a_ (i+1,la,lc,l) ⟨ce,yR.symm⟩ bB V aF
 ·have fX:i=n:=by have:=h1;simp at this;omega
  refine aV ?_;have hp:l=be bl t:=by rw[hl,fX,hn];rfl
  exact dh rfl λw hw=>⟨(la,lc),by rw[hp],by rw[<-hp];exact hw.Gu [0] (by decide),trivial⟩
theorem Xe(x:iA)(va:ax)(vn vc:Nat)(w0:ae)(hv:aY w0 (I va vn vc) 2 x.args mp)(hlen:x.args.length<=1000):
  iL Y 50 [aC #[J Z x.op,J Z x.dst,ag x.a.dq,J Z x.a.n,ag x.b.dq,J Z x.b.n,J Z x.fn,I va vn vc]] w0 λu w'=>∃y:ax×Nat×Nat,u=I y.1 (eh x).length y.2.1/\Wd db w0 [G y.1 (eh x).length y.2.1 y.2.2 2 ((eh x).flatMap GC)] w'/\True:=by
 have ET:vn=x.args.length:=by
  obtain⟨_,_,_,_,_,e,h,_⟩:=hv;simp only[Value.slice.injEq]at e;rw[e.2.1];exact h
 refine aR func50 rfl ntmps50 rfl (Wd.nil db w0) ?_
 repeat(first|refine aU ?_|refine dd λ_ _=>?_)
 unfold eh;apply aL<;>intro h1
 ·have e1:x.op=21:=aD h1
  rw[al e1];refine aU ?_;refine dJ 0 2 ?_;exact dh rfl λw hw=>⟨(U,0,0),rfl,hw.Gu [0] (by decide),trivial⟩
 have e1:¬x.op=21:=aD h1;rw[ai e1];refine bA ?_;apply aL<;>intro h2
 ·have e2:x.op=20:=aD h2
  rw[al e2];refine bA ?_;refine dJ 41 2 ?_;refine kZ rfl rfl x.args GC (λ_ _ _ h=>h.1) (λ_=>rfl) (λ_ u hu=>by simp only[GC,bX,gr,or_false]at hu;rcases hu with rfl|rfl<;>rfl) (λw hw=>hv.cB jH hw.c_) A A λa' c'=>?_;rw[aS,eC,ET];refine aU ?_;exact dh rfl λw hw=>⟨(a',c',_),rfl,hw.Gu [0] (by decide),trivial⟩
 have e2:¬x.op=20:=aD h2;rw[ai e2];refine bA ?_;refine jS 29 (ag ((decide (2<=x.op)&&decide (x.op<=15))||decide (x.op=19))) ?_ ?_
 ·generalize decide (2<=x.op)=q1
  cases q1
  ·refine cT ?_
   exact aP V aF
  ·refine aV ?_
   generalize decide (x.op<=15)=q2;cases q2
   ·refine aV ?_
    exact aP V aF
   ·refine cT ?_
    exact aP V aF
 generalize hq:((decide (2<=x.op)&&decide (x.op<=15))||decide (x.op=19))=q;cases q
 ·have e3:¬((2<=x.op/\x.op<=15)\/x.op=19):=λh=>by
   have:((decide (2<=x.op)&&decide (x.op<=15))||decide (x.op=19))=true:=aD h;rw[hq]at this;cases this
  rw[ai e3];refine aU ?_;refine jS 45 (ag (decide (1<=x.op)&&decide (x.op<=22))) ?_ ?_
  ·generalize decide (1<=x.op)=q1
   cases q1
   ·refine cT ?_
    exact aP V aF
   ·refine aV ?_
    exact aP V aF
  generalize uw:(decide (1<=x.op)&&decide (x.op<=22))=q;cases q
  ·rw[ai (λh=>by
    have:(decide (1<=x.op)&&decide (x.op<=22))=true:=aD h;rw[uw]at this;cases this)]
   refine aU ?_;refine dJ 0 2 ?_;exact dh rfl λw hw=>⟨(U,0,0),rfl,hw.Gu [0] (by decide),trivial⟩
  ·rw[al (aD uw)]
   repeat(first|refine aU ?_|refine dd λ_ _=>?_)
   refine dJ 41 2 ?_;refine fB rfl rfl A A λa' c'=>?_;refine aU ?_;exact dh rfl λw hw=>⟨(a',c',_),rfl,hw.Gu [0] (by decide),trivial⟩
 ·rw[al (aD hq)]
  refine aU ?_;refine TV rfl rfl λbt _=>?_;simp only[bF,aS];refine dJ 41 2 ?_;refine fB rfl rfl A A λa' c'=>?_;refine aU ?_;exact dh rfl λw hw=>⟨(a',c',_),rfl,hw.Gu [0] (by decide),trivial⟩
end
section
set_option maxHeartbeats 8000000
attribute [local irreducible] wpListIn Code.wpIn Exit.then Exit.inBlock bodyPost wpQuiet wpAnyIn bodyPostM
def uh(rs:List lR):Nat:=(rs.map λr=>ir r.l).sum
theorem Lk{rs:List lR}{r r':lR}(h:rs[b]?=O r):uh (rs.set b r')+ir r.l=uh rs+ir r'.l:=by
 unfold uh
 induction rs generalizing b with
 |nil=>simp at h
 |cons x rs ih=>
  cases b with
  |zero=>
   simp only[jN,cF]at h;subst h;simp only[bI,cf,g_];omega
  |succ b=>
   have:=ih (aD h);simp only[bS,cf,g_]at this|-
   omega
theorem Dj:∀{l m:List Bool},l.length=m.length->(∀r,has l r->has m r)->l≠m->ir m<ir l
 |[],[],_,_,h=>absurd rfl h
 |[],_::_,h,_,_=>by simp at h
 |_::_,[],h,_,_=>by simp at h
 |x::l,y::m,h,hs,fZ=>by
  have hl:l.length=m.length:=aD h;have ht:∀r,has l r->has m r:=λr hr=>by have:=hs (r+1);simpa[has]using this (by simpa[has]using hr)
  have h0:=hs 0;simp only[has,jN,cF]at h0
  by_cases e:l=m
  ·subst e
   cases x<;>cases y<;>simp_all [ir]
  ·have:=Dj hl ht e
   cases x<;>cases y<;>simp_all [ir]<;>omega
structure D5(R:Nat)(bl:List aq)(rs:List lR):Prop where
 len:rs.length=bl.length
 row:∀r∈rs,r.l.length=R
 pre:∀b r,rt (rs.map (·.l)) b r->Head bl (rt (rs.map (·.l))) b r
 sound:∀b r,rt (rs.map (·.l)) b r->kB bl r b (-1)
theorem EX{rs:List lR}{q:lR}(h:rs[b]?=O q):rt (rs.map (·.l)) b r↔has q.l r:=by
 unfold rt;rw[aW,h];simp
theorem EY{rs:List lR}{q:lR}(hb:b<rs.length):rt ((rs.set b q).map (·.l)) t r↔(if t=b then has q.l r else rt (rs.map (·.l)) t r):=by
 unfold rt;rw[aW,fN]
 by_cases e:b=t
 ·subst e
  rw[al rfl,al hb,al rfl];simp
 ·rw[ai e,ai (Ne.symm e),aW]
theorem D5.upd{rs:List lR}{q:lR}(h:D5 R bl rs)(hb:b<rs.length)(hq:q.l.length=R)(hh:∀r,has q.l r↔Head bl (rt (rs.map (·.l))) b r):D5 R bl (rs.set b q):=by
 have up:∀t r,rt (rs.map (·.l)) t r->rt ((rs.set b q).map (·.l)) t r:=λt r hr=>by
  rw[EY hb]
  by_cases e:t=b
  ·subst e
   rw[al rfl,hh r];exact h.pre t r hr
  ·rw[ai e];exact hr
 refine⟨by rw[fK];exact h.len,λr hr=>?_,λt r hr=>?_,λt r hr=>?_⟩
 ·rcases j_ hr with hr|rfl
  ·exact h.row r hr
  ·exact hq
 ·rw[EY hb]at hr
  by_cases e:t=b
  ·subst e
   rw[al rfl,hh r]at hr;exact hr.mono up
  ·rw[ai e]at hr
   exact(h.pre t r hr).mono up
 ·rw[EY hb]at hr
  by_cases e:t=b
  ·subst e
   rw[al rfl,hh r]at hr;exact QU h.sound hr
  ·rw[ai e]at hr
   exact h.sound t r hr
structure XK(R:Nat)(bl:List aq)(ins outs:List lR):Prop where
 afP:ins.length=bl.length
 adf:outs.length=bl.length
 aaV:∀r∈ins,r.l.length=R
 aiP:∀r∈outs,r.l.length=R
 aiM:∀b q r,ins[b]?=O q->(has q.l r↔kB bl r b (-1))
 ajg:∀b q r B,outs[b]?=O q->bl[b]?=O B->(has q.l r↔kB bl r b (B.list.length+1))
theorem XV{ins outs:List lR}(h:D5 R bl ins)(ho:outs.length=bl.length)(Y0:∀r∈outs,r.l.length=R)(hc:∀b,b<bl.length->∀r,Head bl (rt (ins.map (·.l))) b r->rt (ins.map (·.l)) b r)(hb:∀b q r,outs[b]?=O q->(has q.l r↔JE bl (rt (ins.map (·.l))) b r)):XK R bl ins outs:=by
 have kV:∀r b,Head bl (rt (ins.map (·.l))) b r->rt (ins.map (·.l)) b r:=λr b hh=>by
  obtain⟨B,hB,_⟩:=id hh;exact hc b (aJ.1 hB).1 r hh
 refine⟨h.len,ho,h.row,Y0,λb q r hq=>?_,λb q r B hq hB=>?_⟩
 ·rw[<-EX hq]
  refine⟨h.sound b r,λhl=>?_⟩;obtain⟨B,hB⟩:∃B,bl[b]?=O B:=⟨_,bL (by have:=(aJ.1 hq).1;rw[<-h.len];exact this)⟩;exact(Da (λb=>kV r b) hl B hB).1 rfl
 ·rw[hb b q r hq]
  refine⟨λhh=>JV h.sound hB (.inr rfl) hh,λhl=>?_⟩;exact(Da (λb=>kV r b) hl B hB).2.2 rfl
theorem lr{H':List cq}{p:Act->ae->Prop}(h:∀w,Wd S w0 H w->Wd S w0 H' w)(k:cU N ds S w0 L H' p):cU N ds S w0 L H p:=λa w hS=>k a w ⟨hS.fr,h w hS.wd⟩
theorem Wq(m r:α)(X JN dw:List α):(m::r::(X++(JN++dw))).Perm (X++((JN++[r])++(m::dw))):=by
 have h1:X++((JN++[r])++(m::dw))=(X++JN)++r::(m::dw):=by simp[]
 rw[h1,<-fu];exact(List.Perm.swap _ _ _).trans (((rh (l₁:=X++JN) (a:=m) (l₂:=dw)).symm.cons r).trans (rh (l₁:=X++JN) (a:=r) (l₂:=m::dw)).symm)
theorem adv{e I9:cq}{X kH cP:List cq}(h:Wd S w0 (e::(X++(kH++cP))) w)(hb:kH[b]?=O I9):Wd S w0 (X++(kH.set b e++cP)) w:=by
 have h1:Wd S w0 (e::(X++(kH.eraseIdx b++cP))) w:=h.sub (dN (List.Sublist.append_left (List.Sublist.append_right (List.eraseIdx_sublist kH b) cP) X));refine h1.perm ((rh (l₁:=X) (a:=e) (l₂:=kH.eraseIdx b++cP)).symm.trans ?_);exact List.Perm.append_left X (List.Perm.append_right cP (Fe hb e))
theorem XU(nm pa:K)(R:Nat)(hR:R<=100)(bl:List aq)(bs:K)(w0:ae)(gV:aY w0 bs 6 bl da)(hlen:bl.length<=100)(hf:eW R bl)(sZ:∀B∈bl,∀x∈B.list,x.args.length<=1000)(lu:∀B∈bl,B.list.length<=1000/\B.bg.length<=1000):
  iL Y 99 [aC #[nm,pa,J Z R,bs]] w0 λu w'=>∃x:(ax×Nat×List lR)×(ax×Nat×List lR),u=.tuple #[I x.1.1 bl.length x.1.2.1,I x.2.1 bl.length x.2.2.1]/\
   Wd db w0 (G x.1.1 bl.length x.1.2.1 145 1 (x.1.2.2.map (jW R))::G x.2.1 bl.length x.2.2.1 145 1 (x.2.2.2.map (jW R))::(x.1.2.2.map (kF R)++x.2.2.2.map (kF R))) w'/\XK R bl x.1.2.2 x.2.2.2:=by
 have rq:=gV;have dV:=hf.iD;obtain⟨ba,n,bc,bb,tL,rfl,hn,qg,A_,yy,qd,iw⟩:=gV;rw[<-hn]at hlen|-
 refine Ak func99 rfl ntmps99 rfl (Wd.nil db w0) ?_
 repeat(first|refine bA ?_|refine dd λ_ _=>?_)
 rename_i p1 _;refine cN (val:=λx:(ax×Nat×Nat)×(Nat->Prop)=>.slice x.1.1 x.1.2.1 x.1.2.2) (cZ:=λx=>[⟨x.2,λw=>aY w (I x.1.1 x.1.2.1 x.1.2.2) 1 (ci bl) dQ⟩]) (φ:=λ_=>True) rfl (λw hw=>jq _ _ _ bl _ w (rq.cB cu hw.c_) A dV) λx _=>?_;obtain⟨⟨aa,an,ac⟩,fp⟩:=x;simp only[bF,aS];refine aU ?_;refine dJ 145 1 ?_;let Tc:=[pa,J Z R,I ba n bc];let Te:=[(4,I aa an ac),M 1 p1];refine bH (λ(x:ax×Nat×List lR)=>x.2.2.length<=n/\∀r∈x.2.2,r.l=aI R false) (λx=>(17,J Z x.2.2.length)::(16,J Z n)::(2,I x.1 x.2.2.length x.2.1)::(3,I U 0 0)::Te)
  (λx=>⟨fp,λw=>aY w (I aa an ac) 1 (ci bl) dQ⟩::aM p1 (nm::Tc) 35::G x.1 x.2.2.length x.2.1 145 1 (x.2.2.map (jW R))::x.2.2.map (kF R)) (λx=>n-x.2.2.length) (U,0,[]) ⟨aN _,by simp⟩ ?_ λx ⟨hi,cX⟩=>?_<;>(try unfold Tc)<;>try unfold Te
 ·refine mQ [1,2,0] (by decide) ?_
  exact aP V aF
 obtain⟨ia,ic,ins⟩:=x;simp only at hi cX|-
 refine bA ?_;refine aL (λh1=>?_) (λh1=>?_)
 ·have ce:ins.length<n:=aD h1
  repeat(first|refine aU ?_|refine dd λ_ _=>?_)
  rename_i pr _ bt _;refine fB rfl rfl A A λa' c'=>?_;rw[show aI R (ag false)=(aI R false).map ag by simp];refine iC (L':=((24,I a' (ins.length+1) c')::(17,J Z ins.length)::(16,J Z n)::(3,I U 0 0)::Te)) V (.cons _ (.refl _)) ?_<;>(try unfold Te);refine bG (List.perm_append_singleton _ _).symm ?_;refine fU (H1:=⟨fp,λw=>aY w (I aa an ac) 1 (ci bl) dQ⟩::aM p1 [nm,pa,J Z R,I ba n bc] 35::G a' (ins++[(⟨O ⟨pr,0,U⟩,R,aI R false⟩:lR)]).length c' 145 1 ((ins++[(⟨O ⟨pr,0,U⟩,R,aI R false⟩:lR)]).map (jW R))::(ins++[(⟨O ⟨pr,0,U⟩,R,aI R false⟩:lR)]).map (kF R)) (by simp[jW,kF,kQ]) ?_;refine aU ?_;refine a_ (a',c',ins++[(⟨O ⟨pr,0,U⟩,R,aI R false⟩:lR)]) ⟨by simp;omega,λr hr=>?_⟩ dr ?_ aF
  ·rcases bO.1 hr with hr|hr
   ·exact cX r hr
   ·simp only[bQ]at hr;subst hr;rfl
  ·simp only[bW,lm,Int.natCast_add]
   exact V
 have fX:ins.length=n:=by have:=h1;simp at this;omega
 have hL0:D5 R bl ins:=by
  have oL:∀b r,¬rt (ins.map (·.l)) b r:=λb r ⟨s,hs,h⟩=>by
   rw[aW]at hs;obtain⟨q,hq,rfl⟩:=ff.1 hs;rw[cX q (aA hq)]at h;unfold has at h;rw[ku]at h
   split at h<;>simp at h
  exact⟨A,λr hr=>by rw[cX r hr];simp,λb r h=>absurd h (oL b r),λb r h=>absurd h (oL b r)⟩
 rw[fX];refine aV ?_;refine dJ 145 1 ?_;clear cX;refine O9 (λx:Bool×List lR×(ax×Nat×List lR)×List Nat=>Ya x.2.2.2) (λx=>D5 R bl x.2.1/\(x.1=false->XK R bl x.2.1 x.2.2.1.2.2)) (λx=>(5,ag x.1)::(2,I ia n ic)::(3,I x.2.2.1.1 x.2.2.1.2.2.length x.2.2.1.2.1)::Te)
  (λx=>⟨fp,λw=>aY w (I aa an ac) 1 (ci bl) dQ⟩::aM p1 (nm::Tc) 35::G ia n ic 145 1 (x.2.1.map (jW R))::G x.2.2.1.1 x.2.2.1.2.2.length x.2.2.1.2.1 145 1 (x.2.2.1.2.2.map (jW R))::(x.2.1.map (kF R)++(x.2.2.1.2.2.map (kF R)++marks x.2.2.2))) (λx=>uh x.2.1*2+(if x.1 then 1 else 0)) (true,ins,(U,0,[]),[]) rfl ⟨hL0,by simp⟩ ?_ λx ⟨hL,hA⟩=>?_<;>(try unfold Tc)<;>try unfold Te
 ·refine bG (H1:=⟨fp,λw=>aY w (I aa an ac) 1 (ci bl) dQ⟩::aM p1 (nm::Tc) 35::G ia n ic 145 1 (ins.map (jW R))::G U 0 0 145 1 []::ins.map (kF R)) ?_ ?_<;>try unfold Tc
  ·exact(rh (l₁:=[⟨fp,λw=>aY w (I aa an ac) 1 (ci bl) dQ⟩,aM p1 (nm::Tc) 35,G ia n ic 145 1 (ins.map (jW R))]) (a:=G U 0 0 145 1 []) (l₂:=ins.map (kF R))).symm
  ·exact aP V (by simp[marks])
 clear hL0 fX hi h1;obtain⟨more,ins,⟨oa,oc,outs⟩,Ds⟩:=x;simp only at hL hA|-
 cases more
 case false=>
  have hA:=hA rfl;have Dv:outs.length=n:=by rw[hA.adf,hn]
  refine aV ?_;refine fU (H1:=(⟨fp,λw=>aY w (I aa an ac) 1 (ci bl) dQ⟩::aM p1 [nm,pa,J Z R,I ba n bc] 35::G ia n ic 145 1 (ins.map (jW R))::G oa outs.length oc 145 1 (outs.map (jW R))::(ins.map (kF R)++outs.map (kF R)))++marks Ds) (by simp[]) ?_;refine bG fG ?_;refine T4 rfl λw hw=>⟨((ia,ic,ins),(oa,oc,outs)),?_,?_,hA⟩
  ·rw[Dv]
  ·rw[Dv]at hw
   exact hw.sub (.cons _ (.cons _ (.refl _)))
 clear hA;refine aU ?_;refine dJ 145 1 ?_;refine O9 (λx:Bool×List lR×(ax×Nat×List lR)×List Nat=>Ya x.2.2.2) (λx=>x.2.2.1.2.2.length<=n/\D5 R bl x.2.1/\(∀r∈x.2.2.1.2.2,r.l.length=R)/\(x.1=false->x.2.1=ins/\(∀b,b<x.2.2.1.2.2.length->∀r,Head bl (rt (ins.map (·.l))) b r->rt (ins.map (·.l)) b r)/\∀b q r,x.2.2.1.2.2[b]?=O q->(has q.l r↔JE bl (rt (ins.map (·.l))) b r))/\(x.1=true->uh x.2.1<uh ins))
  (λx=>(30,J Z x.2.2.1.2.2.length)::(29,J Z n)::(5,ag x.1)::(2,I ia n ic)::(3,I x.2.2.1.1 x.2.2.1.2.2.length x.2.2.1.2.1)::Te)
  (λx=>⟨fp,λw=>aY w (I aa an ac) 1 (ci bl) dQ⟩::aM p1 (nm::Tc) 35::G ia n ic 145 1 (x.2.1.map (jW R))::G x.2.2.1.1 x.2.2.1.2.2.length x.2.2.1.2.1 145 1 (x.2.2.1.2.2.map (jW R))::(x.2.1.map (kF R)++(x.2.2.1.2.2.map (kF R)++marks x.2.2.2))) (λx=>n-x.2.2.1.2.2.length) (false,ins,(U,0,[]),Ds) rfl ⟨aN _,hL,by simp,λ_=>⟨rfl,by simp,by simp⟩,by simp⟩ ?_ λx ⟨zu,Xt,Y0,oL,Gm⟩=>?_<;>(try unfold Tc)<;>try unfold Te
 ·let Tg:=(ins.map (kF R)++(outs.map (kF R)++marks Ds));refine bG (H1:=⟨fp,λw=>aY w (I aa an ac) 1 (ci bl) dQ⟩::aM p1 (nm::Tc) 35::G ia n ic 145 1 (ins.map (jW R))::G U 0 0 145 1 []::G oa outs.length oc 145 1 (outs.map (jW R))::Tg) ?_ ?_<;>(try unfold Tc)<;>try unfold Tg
  ·exact(rh (l₁:=[⟨fp,λw=>aY w (I aa an ac) 1 (ci bl) dQ⟩,aM p1 (nm::Tc) 35,G ia n ic 145 1 (ins.map (jW R))]) (a:=G U 0 0 145 1 [])).symm
  ·refine aP V ?_
   exact List.Sublist.cons_cons _ (dN (dN (dN (.cons _ (List.Sublist.append_left (eF _ _) _)))))
 obtain⟨zy,nQ,⟨oa,oc,js⟩,Ds⟩:=x;simp only at zu Xt Y0 oL Gm|-
 refine bA ?_;refine aL (λh2=>?_) (λh2=>?_)
 case refine_2=>
  have KF:js.length=n:=by have:=h2;simp at this;omega
  refine aV ?_;refine Im (zy,nQ,(oa,oc,js),Ds) rfl ⟨Xt,λe=>?_⟩ ?_ V aF
  ·obtain⟨e1,e2,e3⟩:=oL e
   subst e1;refine XV Xt ?_ Y0 (λb hb r h=>e2 b A r h) e3;show js.length=bl.length;omega
  ·cases zy
   ·obtain⟨e1,_⟩:=oL rfl
    subst e1;simp
   ·have:=Gm rfl
    simp;omega
 have qe:js.length<n:=aD h2;generalize Mq:js.length=b at qe h2;refine aU ?_;obtain⟨B,hB⟩:=eI hn qe;have hBL:b<bl.length:=A;have mJ:cl ba bb tL:=⟨qd (aZ hB)⟩;have kK:cg b n:=⟨qe⟩;obtain⟨cs,gW,pv',lv,tv,rfl,_,_,mB,KL,ht⟩:=iw b B hB;obtain⟨xa,xn,xc,xb,xo,rfl,Mw,Zg,Zf,hxc,NM,Vn⟩:=mB;obtain⟨la,ln,lc,lb,lo,rfl,Jy,acf,QW,hlc,IJ,xz⟩:=KL;obtain⟨ta,tn,tc,_,_,rfl,_⟩:=ht;have nO:bu w0 bb (tL+b*6) _:=⟨gW⟩;have Xr:=hf.block b B hB;have iM:nQ.length=n:=by rw[Xt.len,hn]
 obtain⟨q0,SG⟩:=bE nQ b A;refine cN (val:=λx:Nat×List Bool=>.slice (O ⟨x.1,0,U⟩) R R) (cZ:=λx=>[kQ (O ⟨x.1,0,U⟩) R R x.2]) (φ:=λx=>x.2.length=R/\∀r,has x.2 r↔JE bl (rt (nQ.map (·.l))) b r) rfl
  (λw hw=>MI nm pa R hR bl _ b (nQ.map (·.l)) aa ia an ac ic w (rq.cB cu hw.c_) n hn hf hBL (by rw[aG,iM,hn]) (λs hs=>by obtain⟨q,hq,rfl⟩:=aT.1 hs;exact Xt.row q hq) (hw.get (k:=0) rfl) (P2 (e:=145) (H:=js.map (kF R)++marks Ds) (hw.sub (.cons _ (.cons _ (dN (.cons _ (.refl _)))))) iM.symm A A Xt.row)) λx hx=>?_
 obtain⟨po,s0⟩:=x;simp only[bF,aS]at hx|-
 unfold kQ
 repeat(first|refine dd λ_ _=>?_)
 rename_i bt _;refine fB rfl rfl A A λoa' Hw=>?_;refine aU ?_;refine fy 5 rfl A λob oo hoa=>?_;subst hoa;refine fy 4 rfl A λib io UL=>?_;subst UL;have KZ:MG (js.map (jW R)++[I (O ⟨po,0,U⟩) R R]) (b*1) (I (O ⟨po,0,U⟩) R R):=⟨by rw[km,dH dr];simp[Mq]⟩;have aj1:cg b (b+1):=⟨A⟩;refine bA ?_;refine cN (val:=λx:ax×Nat=>.slice x.1 R x.2) (cZ:=λx=>[kQ x.1 R x.2 s0]) (φ:=λ_=>True) rfl (λw hw=>TJ _ R R s0 A w (JY hw (k:=1) rfl hx.1.symm A)) λx _=>?_;obtain⟨ca,cc⟩:=x;simp only[bF,aS]
 repeat(first|refine aV ?_|refine dd λ_ _=>?_)
 rename_i p7 _;let Tb:=(nQ.map (kF R)++(js.map (kF R)++marks Ds));let Td:=(js.map (jW R)++[I (O ⟨po,0,U⟩) R R]);let Ta:=(G (O ⟨ib,io,U⟩) n ic 145 1 (nQ.map (jW R))::G (O ⟨ob,oo,U⟩) (b+1) Hw 145 1 Td::Tb);let Tf:=(6,J Z b)::(30,J Z b)::(29,J Z n)::(5,ag zy)::(2,I (O ⟨ib,io,U⟩) n ic)::(3,I (O ⟨ob,oo,U⟩) (b+1) Hw)::Te;refine AR (M 7 p7::Tf) (kQ ca R cc (ng s0 B.on)::aM p7 [I ca R cc] 145::G (O ⟨bt,0,U⟩) 1 1 145 1 [I (O ⟨po,0,U⟩) R R]::G (O ⟨po,0,U⟩) R R 4 1 (s0.map ag)::⟨fp,λw=>aY w (I aa an ac) 1 (ci bl) dQ⟩::aM p1 (nm::Tc) 35::Ta) mixed ?_ ?_
 ·repeat' (first|refine gu 1 rfl E ?_|refine gu 3 rfl E ?_|refine gu 4 rfl E ?_|refine gu 5 rfl E ?_|refine gu 6 rfl E ?_|refine AQ E ?_|refine any_nil|refine pC E ?_|refine any_cons ?_ ?_|refine yO rfl ?_|refine ms ?_|refine qm ?_)<;>(try unfold Tf)<;>(try unfold Ta)<;>(try unfold Te)<;>(try unfold Td)<;>(try unfold Tc)<;>try unfold Tb
  all_goals
   refine bG (List.Perm.swap _ _ _) ?_;refine fU (H1:=[kQ ca R cc s0]++(aM p7 [I ca R cc] 145::G (O ⟨bt,0,U⟩) 1 1 145 1 [I (O ⟨po,0,U⟩) R R]::G (O ⟨po,0,U⟩) R R 4 1 (s0.map ag)::⟨fp,λw=>aY w (I aa an ac) 1 (ci bl) dQ⟩::aM p1 (nm::Tc) 35::Ta)) rfl ?_<;>(try unfold Tc)<;>(try unfold Ta)<;>(try unfold Tb)<;>(try unfold Td);refine fO (val:=λ_:Unit=>.tuple #[]) (cZ:=λ_=>[kQ ca R cc (ng s0 B.on)]) (φ:=λ_=>True) rfl (λw hw=>OE ca R cc s0 hx.1 B.on Xr.on w hw.pre) λ_ _=>?_;simp only[bF,aS]
   repeat' (first|refine Cj E ?_|refine ms ?_|refine qm ?_)
   exact aP V aF
 generalize KT:ng s0 B.on=s1;have Y8:s1.length=R:=by rw[<-KT,pX];exact hx.1
 refine bA ?_;refine cN (val:=λp:Nat×Nat=>.func (.func 165) #[] #[aO (O ⟨p.1,0,U⟩)]) (cZ:=λp=>[aM p.1 [I la ln lc] p.2]) (φ:=λ_=>True) rfl (λw hw=>JU _ ⟨_,_,_,rfl⟩ w) λBp _=>?_;obtain⟨Bs,Bt⟩:=Bp;simp only[bF,aS];refine aU ?_;obtain⟨zs,xs,NP,h8,mT,qH,hzc⟩:=Zn (R:=R) (wz:=w0) Xr.list (sZ B (aA hB)) xz;have aeD:∀s,xs.foldl (λs y=>yV s y.1.2.1) s=B.list.reverse.foldl yV s:=λs=>by rw[<-qH,List.foldl_map]
 refine iC (L':=((61,.func (.func 165) #[] #[aO (O ⟨Bs,0,U⟩)])::M 7 p7::Tf)) V (.refl _) ?_<;>(try unfold Tf)<;>(try unfold Te);refine bG (List.Perm.swap _ _ _) ?_;refine T0 (α:=uI R w0) (gf:=165) (lb:=[aO (O ⟨Bs,0,U⟩)]) (aM Bs [I la ln lc] Bt::aM p7 [I ca R cc] 145::G (O ⟨bt,0,U⟩) 1 1 145 1 [I (O ⟨po,0,U⟩) R R]::G (O ⟨po,0,U⟩) R R 4 1 (s0.map ag)::⟨fp,λw=>aY w (I aa an ac) 1 (ci bl) dQ⟩::aM p1 (nm::Tc) 35::Ta) (λs:List Bool=>[kQ ca R cc s]) s1 (λs=>⟨by intro e he;simp only[bQ]at he;subst he;unfold kQ;infer_instance⟩) (λs s' b ⟨e,he,hb⟩=>⟨kQ ca R cc s',by simp,by simp only[bQ]at he;subst he;exact hb⟩) xs
  (encs:=λy=>#[J Z (uI.enc y).1,aC (uI.enc y).2.toArray]) (Bs:=Bs) (bcs:=[I la ln lc]) (bt:=Bt) (vO ..)
  (λw1 mS=>?_) (λpre s=>s=pre.foldl (λs y=>yV s y.1.2.1) s1) rfl (.refl _) (λ_=>rfl) (λy=>DD y.1.2.1 y.1.2.2) 56
  (λy=>(63,aC (DD y.1.2.1 y.1.2.2).toArray)::(62,J Z y.1.1)::M 7 p7::(6,J Z b)::(30,J Z b)::(29,J Z n)::(5,ag zy)::(2,I (O ⟨ib,io,U⟩) n ic)::(3,I (O ⟨ob,oo,U⟩) (b+1) Hw)::Te) (λy q=>M 9 q::M 7 p7::(6,J Z b)::(30,J Z b)::(29,J Z n)::(5,ag zy)::(2,I (O ⟨ib,io,U⟩) n ic)::(3,I (O ⟨ob,oo,U⟩) (b+1) Hw)::Te) (λy a h=>?_) (λl y s R'=>?_) (λl pre y s q RR hI ce=>?_) λeE s2 hD hI=>?_<;>(try unfold Ta)<;>(try unfold Te)<;>(try unfold Td)<;>(try unfold Tc)<;>try unfold Tb
 ·have Pq:∀b',df ([kQ ca R cc s1]++(aM Bs [I la ln lc] Bt::aM p7 [I ca R cc] 145::G (O ⟨bt,0,U⟩) 1 1 145 1 [I (O ⟨po,0,U⟩) R R]::G (O ⟨po,0,U⟩) R R 4 1 (s0.map ag)::⟨fp,λw=>aY w (I aa an ac) 1 (ci bl) dQ⟩::aM p1 (nm::Tc) 35::(G (O ⟨ib,io,U⟩) n ic 145 1 (nQ.map (jW R))::G (O ⟨ob,oo,U⟩) (b+1) Hw 145 1 Td::Tb))) b'->w0.heap.size<=b':=λb' ⟨e,he,oX⟩=>(mS.own e he b' oX).1.elim (λh=>h.elim) id
  exact H3 (R:=R) (wz:=w0) (b:=lb) (o:=lo) A (λfZ=>IJ (λe=>fZ (by rw[e]at NP;exact nr NP))) (by have:=(lu B (aA hB)).1;omega) h8 hzc (λp v hp h=>by have:=Pq _ h.1;have:=jC w0 p hp;omega) (λh=>h.2 rfl) (λp v hp=>jv mS.c_ hp) (mS.kr Bs 0 _ rfl) mT
 ·have h2:=((h.to (L':=(M 7 p7::(6,J Z b)::(30,J Z b)::(29,J Z n)::(5,ag zy)::(2,I (O ⟨ib,io,U⟩) n ic)::(3,I (O ⟨ob,oo,U⟩) (b+1) Hw)::Te)) V).fv (d:=62) rfl (J Z y.1.1)).fv (d:=63) rfl (aC (DD y.1.2.1 y.1.2.2).toArray)
  have e:(#[62,63].zip #[J Z (uI.enc y).1,aC (uI.enc y).2.toArray]).foldl (λ(t:Array K) (q:Tmp×K)=>t.setIfInBounds q.1 q.2) a.tmps=(a.tmps.setIfInBounds 62 (J Z y.1.1)).setIfInBounds 63 (aC (DD y.1.2.1 y.1.2.2).toArray):=by simp[uI.enc]
  refine⟨Eq.trans (bD Array.size e) h2.size,rfl,λp hp=>?_⟩;exact Eq.trans (bD (λt:Array K=>t[p.1]?) e) (h2.slot p hp)
 ·simp only[DD]
  repeat(first|refine aV ?_|refine dd λ_ _=>?_)
  exact O6 _ V aF
 ·obtain⟨⟨i0,x,⟨va,vn,vc⟩⟩,KZ,NM,Zj⟩:=y
  simp only at KZ NM Zj;have Vb:s.length=R:=by
   rw[hI];have:∀(l:List (uI R w0)) (s:List Bool),(l.foldl (λs y=>yV s y.1.2.1) s).length=s.length:=by
    intro l
    induction l with
    |nil=>exact λ_=>rfl
    |cons y l ih=>exact λs=>by rw[jZ,ih,xD]
   rw[this,Y8]
  simp only[DD,bF,aS];refine aU ?_;refine bG (rh (l₁:=[RR,aM q (DD x (va,vn,vc)) 56]) (a:=kQ ca R cc s)) ?_;refine fU (H1:=[kQ ca R cc s]++(RR::aM q (DD x (va,vn,vc)) 56::aM Bs [I la ln lc] Bt::aM p7 [I ca R cc] 145::G (O ⟨bt,0,U⟩) 1 1 145 1 [I (O ⟨po,0,U⟩) R R]::G (O ⟨po,0,U⟩) R R 4 1 (s0.map ag)::⟨fp,λw=>aY w (I aa an ac) 1 (ci bl) dQ⟩::aM p1 (nm::Tc) 35::(G (O ⟨ib,io,U⟩) n ic 145 1 (nQ.map (jW R))::G (O ⟨ob,oo,U⟩) (b+1) Hw 145 1 Td::Tb))) rfl ?_<;>(try unfold Tc)<;>(try unfold Tb)<;>(try unfold Td);refine fO (val:=λ_:Unit=>.tuple #[]) (cZ:=λ_=>[kQ ca R cc (yV s x)]) (φ:=λ_=>True) rfl (λw hw=>Ox ca R cc s Vb x KZ A va vn vc db w0 (λ_ _ _ h=>h) Zj w (hw.sub (fe _ _))) λ_ _=>?_;simp only[bF,aS];refine aU ?_;refine bG (List.Perm.swap _ _ _) ?_;refine O_ (yV s x) ?_ (.refl _);rw[qT,<-hI];rfl
 rw[aeD]at hI;have aio:s2.length=R:=by
  rw[hI];have:∀(l:List iA) (s:List Bool),(l.foldl yV s).length=s.length:=by
   intro l
   induction l with
   |nil=>exact λ_=>rfl
   |cons y l ih=>exact λs=>by rw[jZ,ih,xD]
  rw[this,Y8]
 simp only[bF,aS];refine aU ?_;refine lr (H':=kQ ca R cc s2::aM p7 [I ca R cc] 145::cq.mark eE::G (O ⟨po,0,U⟩) R R 4 1 (s0.map ag)::⟨fp,λw=>aY w (I aa an ac) 1 (ci bl) dQ⟩::aM p1 (nm::Tc) 35::(G (O ⟨ib,io,U⟩) n ic 145 1 (nQ.map (jW R))::G (O ⟨ob,oo,U⟩) (b+1) Hw 145 1 Td::Tb)) (λw hw=>?_) ?_<;>(try unfold Tc)<;>(try unfold Tb)<;>try unfold Td
 ·refine(hw.sub (dN (dN (.cons _ (dN (.cons _ (.refl _))))))).perm ?_
  exact(rh (l₁:=[kQ ca R cc s2,aM p7 [I ca R cc] 145]) (a:=cq.mark eE)).symm
 refine bH (λ(x:Nat×List Bool)=>x.1<=xn/\x.2.length=R/\x.2=(B.bg.take x.1).foldl (λs p=>s.set p.dst.toNat false) s2) (λx=>(74,J Z x.1)::(72,I xa xn xc)::(73,J Z xn)::M 7 p7::(6,J Z b)::(30,J Z b)::(29,J Z n)::(5,ag zy)::(2,I (O ⟨ib,io,U⟩) n ic)::(3,I (O ⟨ob,oo,U⟩) (b+1) Hw)::Te) (λx=>kQ ca R cc x.2::aM p7 [I ca R cc] 145::cq.mark eE::G (O ⟨po,0,U⟩) R R 4 1 (s0.map ag)::⟨fp,λw=>aY w (I aa an ac) 1 (ci bl) dQ⟩::aM p1 (nm::Tc) 35::(G (O ⟨ib,io,U⟩) n ic 145 1 (nQ.map (jW R))::G (O ⟨ob,oo,U⟩) (b+1) Hw 145 1 Td::Tb)) (λx=>xn-x.1) (0,s2)
  ⟨aN _,aio,by simp⟩ (aP V aF) λx ⟨hm,pt,hs⟩=>?_<;>(try unfold Tc)<;>(try unfold Tb)<;>(try unfold Td)<;>try unfold Te
 ·obtain⟨m,s⟩:=x
  simp only at hm pt hs|-
  refine bA ?_;refine aL (λh3=>?_) (λh3=>?_)
  ·have Nx:m<xn:=aD h3
   obtain⟨p,hp⟩:=eI Mw Nx;have aec:cl xa xb xo:=⟨NM (aZ hp)⟩;have hlm:cg m xn:=⟨Nx⟩;obtain⟨csp,Ux,sv,rfl,_,rC⟩:=Vn m p hp;have abS:bu w0 xb (xo+m*2) _:=⟨Ux⟩;have Cx:=Xr.bg p (aA hp);obtain⟨s2a,s2n,s2c,_,_,rfl,_⟩:=rC;obtain⟨d,hd⟩:∃d:Nat,p.dst=d:=⟨p.dst.toNat,by have:=Cx.dst;omega⟩;have hdR:d<R:=by have:=Cx.dst;omega
   obtain⟨y,hy⟩:=bE s d A;have tP:oT p.dst d:=⟨hd⟩;have hld:cg d R:=⟨hdR⟩;have hey:uk s d y:=⟨hy⟩;have nW:(B.bg.take (m+1)).foldl (λs p=>s.set p.dst.toNat false) s2=s.set d false:=by
    rw[bV,hp,qT,<-hs,show d=p.dst.toNat by omega];rfl
   unfold kQ;refine fy 0 rfl A λcb co Sz=>?_;subst Sz
   repeat(first|refine aV ?_|refine dd λ_ _=>?_)
   refine a_ (m+1,s.set d false) ⟨Nx,aD pt,nW.symm⟩ bB V ?_;exact List.Sublist.cons _ (.refl _)
  ·have aeG:m=xn:=by have:=h3;simp at this;omega
   rw[aeG,Mw,cL,hI,<-KT]at hs;have hs4:s=UB B s0:=hs;have UK:∀r,has s r↔Head bl (rt (nQ.map (·.l))) b r:=λr=>by rw[hs4];exact QN hf hB hx.1 hx.2 r
   have ah7:=Xt.row q0 (aA SG);have ajT:uk nQ b q0:=⟨SG⟩;unfold kQ;refine aV ?_;refine kX mixed bC ?_;refine kJ ?_;refine ww rfl (λw hw=>TP _ _ s q0.l w (JY hw (k:=0) rfl pt.symm A) (adk (R:=R) (rs:=nQ) (cZ:=[G ca R cc 4 1 (s.map ag),aM p7 [I ca R cc] 145,cq.mark eE,G (O ⟨po,0,U⟩) R R 4 1 (s0.map ag),⟨fp,λw=>aY w (I aa an ac) 1 (ci bl) dQ⟩,aM p1 (nm::Tc) 35,G (O ⟨ib,io,U⟩) n ic 145 1 (nQ.map (jW R)),G (O ⟨ob,oo,U⟩) (b+1) Hw 145 1 Td]) (H:=js.map (kF R)++marks Ds) hw SG A ah7)) ?_<;>(try unfold Tc)<;>(try unfold Td);refine kJ ?_;refine bA ?_;have QZ:js.length+1=b+1:=A;have fin:∀(kH:List lR) (w:ae),Wd db w0 (cq.mark eE::G (O ⟨po,0,U⟩) R R 4 1 (s0.map ag)::⟨fp,λw=>aY w (I aa an ac) 1 (ci bl) dQ⟩::aM p1 (nm::Tc) 35::G (O ⟨ib,io,U⟩) n ic 145 1 (kH.map (jW R))::G (O ⟨ob,oo,U⟩) (b+1) Hw 145 1 Td::(kH.map (kF R)++(js.map (kF R)++marks Ds))) w->
     Wd db w0 (⟨fp,λw=>aY w (I aa an ac) 1 (ci bl) dQ⟩::aM p1 (nm::Tc) 35::G (O ⟨ib,io,U⟩) n ic 145 1 (kH.map (jW R))::G (O ⟨ob,oo,U⟩) (js++[(⟨O ⟨po,0,U⟩,R,s0⟩:lR)]).length Hw 145 1 ((js++[(⟨O ⟨po,0,U⟩,R,s0⟩:lR)]).map (jW R))::(kH.map (kF R)++((js++[(⟨O ⟨po,0,U⟩,R,s0⟩:lR)]).map (kF R)++marks (eE::Ds)))) w:=λkH w hw=>by
    have h1:=hw.perm (Wq (α:=cq) (cq.mark eE) (G (O ⟨po,0,U⟩) R R 4 1 (s0.map ag)) (⟨fp,λw=>aY w (I aa an ac) 1 (ci bl) dQ⟩::aM p1 (nm::Tc) 35::G (O ⟨ib,io,U⟩) n ic 145 1 (kH.map (jW R))::G (O ⟨ob,oo,U⟩) (b+1) Hw 145 1 Td::kH.map (kF R)) (js.map (kF R)) (marks Ds));have e:(js++[(⟨O ⟨po,0,U⟩,R,s0⟩:lR)]).length=b+1:=by simp;omega
    rw[e];simpa[jW,kF,kQ,marks,fu]using h1
   have Lw:∀r∈js++[(⟨O ⟨po,0,U⟩,R,s0⟩:lR)],r.l.length=R:=λr hr=>by
    rcases bO.1 hr with hr|hr
    ·exact Y0 r hr
    ·simp only[bQ]at hr;subst hr;exact hx.1
   have EJ:(js++[(⟨O ⟨po,0,U⟩,R,s0⟩:lR)]).length=b+1:=by simp;omega
   refine aL (λh4=>?_) (λh4=>?_)
   ·
    have fZ:s≠q0.l:=aD h4;have UU:=Xt.upd (b:=b) (q:=⟨ca,cc,s⟩) A pt UK;have aeW:uh (nQ.set b ⟨ca,cc,s⟩)<uh nQ:=by
     have h5:=Lk (r':=(⟨ca,cc,s⟩:lR)) SG;have h6:=Dj (l:=q0.l) (m:=s) A (λr hr=>(UK r).2 (Xt.pre b r ((EX SG).2 hr))) (Ne.symm fZ);simp only at h5;omega
    have Zj:lS (nQ.map (jW R)) (b*1) (I ca R cc) ((nQ.set b ⟨ca,cc,s⟩).map (jW R)):=⟨by rw[km,eT];rfl,by simp;omega⟩;refine aV ?_;refine lr (λw hw=>fin (nQ.set b ⟨ca,cc,s⟩) w ?_) ?_
    ·have h7:=adv (e:=kF R ⟨ca,cc,s⟩) (X:=[aM p7 [I ca R cc] 145,cq.mark eE,G (O ⟨po,0,U⟩) R R 4 1 (s0.map ag),⟨fp,λw=>aY w (I aa an ac) 1 (ci bl) dQ⟩,aM p1 (nm::Tc) 35,G (O ⟨ib,io,U⟩) n ic 145 1 ((nQ.set b ⟨ca,cc,s⟩).map (jW R)),G (O ⟨ob,oo,U⟩) (b+1) Hw 145 1 (js.map (jW R)++[I (O ⟨po,0,U⟩) R R])]) (kH:=nQ.map (kF R)) (cP:=js.map (kF R)++marks Ds) (b:=b) hw (by rw[aW,SG];rfl)
     rw[<-eT]at h7;exact h7.sub (gh _ _)
    refine Im (true,nQ.set b ⟨ca,cc,s⟩,(O ⟨ob,oo,U⟩,Hw,js++[(⟨O ⟨po,0,U⟩,R,s0⟩:lR)]),eE::Ds) rfl ⟨by simp only;omega,UU,Lw,by simp,λ_=>?_⟩ bB ?_ aF
    ·simp only
     cases zy
     ·obtain⟨e1,_⟩:=oL rfl
      subst e1;exact aeW
     ·have:=Gm rfl
      omega
    ·simp only[EJ]
     exact V
   ·have Xw:s=q0.l:=aD h4
    refine aU ?_;refine lr (λw hw=>fin nQ w (hw.sub (.cons _ (.cons _ (.refl _))))) ?_;refine Im (zy,nQ,(O ⟨ob,oo,U⟩,Hw,js++[(⟨O ⟨po,0,U⟩,R,s0⟩:lR)]),eE::Ds) rfl ⟨by simp only;omega,Xt,Lw,λe=>?_,Gm⟩ bB ?_ aF
    ·obtain⟨e1,e2,e3⟩:=oL e
     subst e1;refine⟨rfl,λt ht r hr=>?_,λt q r hq=>?_⟩
     ·simp only[EJ]at ht
      by_cases e:t=b
      ·subst e
       rw[EX SG,<-Xw];exact(UK r).2 hr
      ·exact e2 t A r hr
     ·simp only at hq
      by_cases e:t<js.length
      ·rw[eX e]at hq
       exact e3 t q r hq
      ·have ht:t=b:=by
        have:=(aJ.1 hq).1;rw[EJ]at this;omega
       subst ht;rw[dH A,Mq,cV]at hq;simp only[jN,cF]at hq;subst hq;exact hx.2 r
    ·simp only[EJ]
     exact V
theorem Z3(nm pa re:K)(R:Nat)(bl:List aq)(bs:K)(qf:∃a n c,bs=I a n c)(t b r:Nat)(w0:ae)(gV:aY w0 bs 6 bl da)(hlen:bl.length<=100)(hf:eW R bl)(ht:t<bl.length)(hb:b<bl.length)(hbt:(t:Int)∈dY bl b):
  gF Y 51 [aC #[nm,pa,re,bs],J Z t,J Z b,J Z r] w0 (ag (tH bl t b r)):=by
 have rq:=gV;have zS:=qN hb hbt;obtain⟨ba,n,bc,bb,tL,rfl,hn,qg,A_,yy,qd,iw⟩:=gV;have yT:(be bl t).length<=bl.length:=by
  have:=fC (λi=>decide ((t:Int)∈dY bl i)) (bj bl.length);rwa[d_]at this
 refine aR func51 rfl ntmps51 rfl (Wd.nil db w0) ?_
 repeat(first|refine bA ?_|refine dd λ_ _=>?_)
 rename_i p4 _;refine cN (val:=λx:ax×Nat=>.slice x.1 (be bl t).length x.2) (cZ:=λx=>[G x.1 (be bl t).length x.2 3 1 ((be bl t).map dz)]) (φ:=λ_=>True) rfl (λw hw=>tC _ _ _ bl _ t w (rq.cB cu hw.c_) hlen) λx _=>?_;obtain⟨xa,xc⟩:=x;simp only[bF,aS];refine bA ?_;refine bY rfl (λw hw=>ZL _ (be bl t) b w zS (mF hw (k:=0) rfl rfl A λy hy=>by have:=(cR.1 hy).1;have:y<_:=cW.1 this;omega)) ?_;have IH:(be bl t).idxOf b<(be bl t).length:=ll zS;obtain⟨T,hT⟩:=eI hn (show t<n by omega);have mJ:cl ba bb tL:=⟨qd (aZ hT)⟩;have ce:cg t n:=⟨A⟩;obtain⟨cs,gW,pv,lv,tv,rfl,_,_,mB,_,_⟩:=iw t T hT;obtain⟨xa2,xn,xc2,xb,xo,rfl,Mw,Zg,Zf,hxc,NM,Vn⟩:=mB;have nO:bu w0 bb (tL+t*6) _:=⟨gW⟩;have hTo:=hf.block t T hT;have xC:tH bl t b r=T.bg.any λp=>iB [p.src[(be bl t).idxOf b]?.getD lB] r:=by unfold tH;rw[Ff hT]
 rw[xC];generalize (be bl t).idxOf b=ix at IH;refine aU ?_;refine bH (λ(i:Nat)=>i<=xn/\(T.bg.take i).any (λp=>iB [p.src[ix]?.getD lB] r)=false) (λi=>[(10,J Z i),(9,J Z (ix:Nat)),M 4 p4,(1,J Z t),(3,J Z r)]) (λ_=>[aM p4 [nm,pa,re,I ba n bc] 35]) (λi=>xn-i) 0 ⟨aN _,by simp⟩ (aP V bT) λi ⟨hi,cX⟩=>?_;refine bA ?_;apply aL<;>intro h1
 ·have Nu:i<xn:=aD h1
  obtain⟨p,hp⟩:=eI Mw Nu;have aec:cl xa2 xb xo:=⟨NM (aZ hp)⟩;have kK:cg i xn:=⟨Nu⟩;obtain⟨csp,Ux,sv,rfl,_,rC⟩:=Vn i p hp;have abS:bu w0 xb (xo+i*2) _:=⟨Ux⟩;have Cx:=hTo.bg p (aA hp);obtain⟨s2a,s2n,s2c,s2b,s2o,rfl,acJ,_,_,_,acI,U9⟩:=rC;obtain⟨v,hv⟩:=bE p.src ix (by rw[Cx.len];exact IH);have agz:cl s2a s2b s2o:=⟨acI (aZ hv)⟩;have ahz:cg ix s2n:=⟨by rw[acJ,Cx.len];exact IH⟩;obtain⟨csv,abV,rfl,hvi⟩:=U9 ix v hv;have agQ:bu w0 s2b (s2o+ix*2) _:=⟨abV⟩
  repeat(first|refine aU ?_|refine dd λ_ _=>?_)
  refine bY rfl (λw hw=>I0 _ [v] r w (BU hw (k:=0) (l:=[v]) rfl rfl A (λy hy=>by simp only[bQ]at hy;subst hy;exact hvi))) ?_;have jD:(T.bg.take (i+1)).any (λp=>iB [p.src[ix]?.getD lB] r)=iB [v] r:=by
   rw[bV,hp,List.any_append,cX];simp[hv]
  have sY:iB [v] r=true->(T.bg.any λp=>iB [p.src[ix]?.getD lB] r)=true:=λh=>by
   rw[rG];exact⟨p,aA hp,by rw[hv];exact h⟩
  generalize iB [v] r=q at jD sY;cases q
  ·refine aU ?_
   exact a_ (i+1) ⟨Nu,jD⟩ A V aB
  ·refine aV ?_
   exact cv rfl (by rw[sY rfl])
 ·have fX:i=xn:=by have:=h1;simp at this;omega
  refine aV ?_;refine cv rfl ?_;rw[fX,Mw,cL]at cX;rw[cX]
abbrev Sp:Type:=Nat×Int
def FK(s:Sp):List K:=[J Z (s.1:Int),J Z s.2]
def yX(a:ax)(c:Nat)(l:List Sp):cq:=G a l.length c 52 2 (l.flatMap FK)
theorem L2{l:List Sp}{s:Sp}(h:l[i]?=O s):adE (l.flatMap FK) (i*2) [J Z (s.1:Int),J Z s.2]:=⟨λj v hj=>e_ (g:=FK) (s:=2) (λ_=>rfl) l i s j v h hj⟩
def og(l:List Sp)(s:Sp):List Sp:=if s∈l then l else l++[s]
theorem MY(a:ax)(c:Nat)(l:List Sp)(hl:l.length<=1000000)(s:Sp)(w:ae)(hw:Wd (df [yX a c l]) w [yX a c l] w):
  iL Y 48 [I a l.length c,aC #[J Z (s.1:Int),J Z s.2]] w λu w'=>∃x:ax×Nat,u=I x.1 (og l s).length x.2/\Wd (df [yX a c l]) w [yX x.1 x.2 (og l s)] w'/\True:=by
 refine aR func48 rfl ntmps48 rfl hw ?_;generalize df [yX a c l]=SS;unfold yX
 repeat(first|refine aU ?_|refine dd λ_ _=>?_)
 rename_i p3 _;refine bH (λ(x:Nat×ax)=>x.1<=l.length/\s∉l.take x.1) (λx=>[(5,J Z x.1),(0,I x.2 l.length c),M 3 p3]) (λx=>[aM p3 [J Z (s.1:Int),J Z s.2] 52,G x.2 l.length c 52 2 (l.flatMap FK)]) (λx=>l.length-x.1) (0,a) ⟨aN _,by simp⟩ (aP V aF) λx ⟨hi,cX⟩=>?_;obtain⟨i,a⟩:=x;simp only at hi cX|-
 refine bA ?_;apply aL<;>intro h1
 ·have ce:i<l.length:=aD h1
  obtain⟨q,hq⟩:=bE l i ce;refine fy 1 rfl A λvb vo qt=>?_;subst qt;have kK:cg i l.length:=⟨ce⟩;have EP:=L2 hq;refine aU ?_;refine kX mixed bC ?_;refine kJ ?_;refine bA ?_;apply aL<;>intro h2
  ·have Hb:q=s:=by
    simp at h2;exact Prod.ext (by have:=h2.1;omega) h2.2
   have hc:og l s=l:=al (Hb▸aA hq);rw[hc];refine aV ?_;exact dh rfl λw' kE=>⟨(O ⟨vb,vo,U⟩,c),rfl,kE.Gu [1] (by decide),trivial⟩
  ·refine aU ?_
   refine a_ (i+1,O ⟨vb,vo,U⟩) ⟨ce,λh=>?_⟩ bB V aF;simp only at h;rw[bV,hq]at h;rcases bO.1 h with h|h
   ·exact cX h
   ·simp only[jk,bQ]at h
    subst h;simp at h2
 ·have fX:i=l.length:=by have:=h1;simp at this;omega
  rw[fX,cL]at cX;have hc:og l s=l++[s]:=ai cX;rw[hc]
  repeat(first|refine aV ?_|refine dd λ_ _=>?_)
  refine fB rfl rfl A A λa' c'=>?_;rw[show l.flatMap FK++[J Z (s.1:Int),J Z s.2]=(l++[s]).flatMap FK by simp[FK],show l.length+1=(l++[s]).length by simp];refine aU ?_;exact dh rfl λw' kE=>⟨(a',c'),rfl,kE.Gu [2] (by decide),trivial⟩
def HV(bl:List aq)(s:Sp):Prop:=-1<=s.2/\∃B,bl[s.1]?=O B/\s.2<=B.list.length+1
def JI(bl:List aq)(r:Nat)(row:List Sp)(s:Sp):Prop:=∀B,bl[s.1]?=O B->
 (s.2=-1->(∀p∈B.bg,p.dst≠r)->((s.1,0):Sp)∈row)/\(∀(i:Nat) x,s.2=i->B.list[i]?=O x->iB (eh x) r=false/\(x.dst≠r->((s.1,(i:Int)+1):Sp)∈row))/\
 (s.2=B.list.length->iB [B.on] r=false)/\((s.2=B.list.length\/s.2=B.list.length+1)->∀t:Nat,(t:Int)∈B.to->tH bl t s.1 r=false/\((t,-1):Sp)∈row)
theorem JI.mono{row Gt:List Sp}(h:∀s∈row,s∈Gt){s:Sp}(k:JI bl r row s):JI bl r Gt s:=λB hB=>by
 obtain⟨h1,h2,h3,h4⟩:=k B hB;exact⟨λa b=>h _ (h1 a b),λi x a b=>⟨(h2 i x a b).1,λc=>h _ ((h2 i x a b).2 c)⟩,h3,λa t ht=>⟨(h4 a t ht).1,h _ (h4 a t ht).2⟩⟩
theorem QI{row:List Sp}(h:∀s∈row,JI bl r row s){j:Int}(k:kB bl r b j):((b,j):Sp)∈row->False:=by
 induction k with
 |iN hB hp _ ih=>exact λhm=>ih ((h _ hm _ hB).1 rfl hp)
 |use hB hx hn=>exact λhm=>by have:=((h _ hm _ hB).2.1 _ _ rfl hx).1;rw[hn]at this;cases this
 |@go b i B x hB hx hd _ ih=>exact λhm=>ih (by have:=((h _ hm _ hB).2.1 _ _ rfl hx).2 hd;simpa using this)
 |on hB hn=>exact λhm=>by have:=(h _ hm _ hB).2.2.1 rfl;rw[hn]at this;cases this
 |take hB hj ht hk=>exact λhm=>by have:=((h _ hm _ hB).2.2.2 hj _ ht).1;rw[hk]at this;cases this
 |jump hB hj ht _ ih=>exact λhm=>ih ((h _ hm _ hB).2.2.2 hj _ ht).2
theorem HK{row:List Sp}(hn:row.Nodup)(hs:∀s∈row,HV bl s)(hl:∀B∈bl,B.list.length<=1000):row.length<=bl.length*1003:=by
 have hc:∀s∈row,s.1<bl.length/\-1<=s.2/\s.2<=1001:=λs lU=>by
  obtain⟨h1,B,hB,h2⟩:=hs s lU;have:=hl B (aA hB);exact⟨(aJ.1 hB).1,h1,A⟩
 have h1:(row.map λs=>s.1*1003+(s.2+1).toNat).Nodup:=by
  rw[List.Nodup,List.pairwise_map];refine List.Pairwise.imp_of_mem (λ{a b} ha hb fZ e=>fZ ?_) hn;have h2:=hc a ha;have h3:=hc b hb;exact Prod.ext A A
 have h2:=o_ (bl.length*1003) _ h1 λx hx=>by
  obtain⟨s,lU,rfl⟩:=aT.1 hx;have:=hc s lU;have h4:(s.1+1)*1003<=bl.length*1003:=sQ _ A;omega
 rwa[aG]at h2
structure JJ(bl:List aq)(r:Nat)(s0:Sp)(i:Nat)(row:List Sp):Prop where
 nd:row.Nodup
 ok:∀s∈row,HV bl s
 start:s0∈row
 sound:∀s∈row,kB bl r s.1 s.2->kB bl r s0.1 s0.2
 gone:∀k s,k<i->row[k]?=O s->JI bl r row s
theorem oU{l:List Sp}{s x:Sp}:x∈og l s↔(x∈l\/x=s):=by
 unfold og
 split
 ·rename_i h
  exact⟨.inl,λh'=>h'.elim id λe=>e▸h⟩
 ·simp
theorem GN(l:List Sp)(s:Sp):∃e,og l s=l++e:=by
 unfold og
 split
 ·exact⟨[],by simp⟩
 ·exact⟨_,rfl⟩
theorem J7{l:List Sp}(h:l.Nodup)(s:Sp):(og l s).Nodup:=by
 unfold og
 split
 ·exact h
 ·rename_i hm
  rw[nA];exact⟨h,by simp,λa ha b hb e=>by simp only[bQ]at hb;subst hb;exact hm (e▸ha)⟩
theorem JJ.abd{s0 s:Sp}{row:List Sp}(h:JJ bl r s0 i row)(hi:i<=row.length)(hs:HV bl s)(hl:kB bl r s.1 s.2->kB bl r s0.1 s0.2):JJ bl r s0 i (og row s):=by
 obtain⟨e,he⟩:=GN row s;refine⟨J7 h.nd s,λx hx=>?_,oU.2 (.inl h.start),λx hx=>?_,λk x hk hx=>?_⟩
 ·rcases oU.1 hx with hx|rfl
  ·exact h.ok x hx
  ·exact hs
 ·rcases oU.1 hx with hx|rfl
  ·exact h.sound x hx
  ·exact hl
 ·rw[he,eX A]at hx
  exact(h.gone k x hk hx).mono λy hy=>oU.2 (.inl hy)
theorem JJ.next{s0 s:Sp}{row:List Sp}(h:JJ bl r s0 i row)(hs:row[i]?=O s)(hg:JI bl r row s):JJ bl r s0 (i+1) row:=
 ⟨h.nd,h.ok,h.start,h.sound,λk x hk hx=>by
  by_cases e:k=i
  ·subst e
   rw[hs]at hx;simp only[cF]at hx;subst hx;exact hg
  ·exact h.gone k x A hx⟩
theorem Cf{row:List Sp}{s:Sp}{x:Sp}(h:row[i]?=O x):(og row s)[i]?=O x:=by
 obtain⟨e,he⟩:=GN row s;rw[he,eX (aJ.1 h).1];exact h
theorem acX(nm pa re:K)(bl:List aq)(bs:K)(qf:∃a n c,bs=I a n c)(r:Nat)(s0:Sp)(w0:ae)(gV:aY w0 bs 6 bl da)(hlen:bl.length<=100)(R:Nat)(hf:eW R bl)(lu:∀B∈bl,B.list.length<=1000)(sZ:∀B∈bl,∀x∈B.list,x.args.length<=1000)(NF:HV bl s0)[Decidable (kB bl r s0.1 s0.2)]:
  gF Y 18 [aC #[nm,pa,re,bs],J Z r,aC #[J Z (s0.1:Int),J Z s0.2]] w0 (ag (decide (kB bl r s0.1 s0.2))):=by
 have rq:=gV;have dV:=hf.iD;obtain⟨ba,n,bc,bb,tL,rfl,hn,qg,A_,yy,qd,iw⟩:=gV;refine aR func18 rfl ntmps18 rfl (Wd.nil db w0) ?_
 repeat(first|refine aU ?_|refine dd λ_ _=>?_)
 rename_i p3 _ p5 _ eb _;refine bH (λ(x:Nat×ax×Nat×List Sp)=>x.1<=x.2.2.2.length/\JJ bl r s0 x.1 x.2.2.2) (λx=>[(8,J Z x.1),(7,I x.2.1 x.2.2.2.length x.2.2.1),M 3 p3,(1,J Z (r:Nat)),(6,ag false)])
  (λx=>[yX x.2.1 x.2.2.1 x.2.2.2,aM p3 [nm,pa,re,I ba n bc] 35]) (λx=>bl.length*1003-x.1) (0,O ⟨eb,0,U⟩,1,[s0]) ⟨aN _,⟨by simp,aD NF,by simp,λs hs h=>by simp only[bQ]at hs;subst hs;exact h,λk s hk=>A⟩⟩ ?_ λx ⟨hi,hI⟩=>?_
 ·exact aP V aB
 obtain⟨i,a,c,row⟩:=x;simp only at hi hI|-
 have oG:=HK hI.nd hI.ok lu;have KR:row.length<=100300:=A;unfold yX;refine bA ?_;refine aL (λh1=>?_) (λh1=>?_)
 case refine_2=>
  have fX:i=row.length:=by have:=h1;simp at this;omega
  refine aV ?_;refine cv rfl ?_;rw[gx];intro KL;exact QI (row:=row) (λs hs=>by
   obtain⟨k,hk⟩:=bR hs;exact hI.gone k s (by have:=(aJ.1 hk).1;omega) hk) KL hI.start
 have ce:i<row.length:=aD h1;obtain⟨s,hs⟩:∃q,row[i]?=O q:=⟨_,bL ce⟩;refine fy 0 rfl A λvb vo qt=>?_;subst qt;have kK:cg i row.length:=⟨ce⟩;have EP:=L2 hs;obtain⟨Gn,B,hB,Bj⟩:=hI.ok s (aA hs);have zW:=hI.sound s (aA hs);obtain⟨b,z⟩:=s;simp only at Gn hB Bj EP zW;have qe:b<n:=by rw[hn];exact(aJ.1 hB).1
 have mJ:cl ba bb tL:=⟨qd (aZ hB)⟩;have SD:cg b n:=⟨qe⟩;obtain⟨cs,gW,pv,lv,tv,rfl,_,YS,mB,Cs,lG⟩:=iw b B hB;have acs:=mB;have ai3:=Cs;have acO:=lG;obtain⟨pa2,pn,pc,_,_,rfl,_⟩:=mB;obtain⟨la,ln,lc,lb,lo,rfl,Jy,acf,_,_,IJ,xz⟩:=Cs;obtain⟨ta,tn,tc,tb,BQ,rfl,qZ,Dz,_,_,Ax,tg⟩:=lG;have nO:bu w0 bb (tL+b*6) _:=⟨gW⟩;have Xr:=hf.block b B hB;have Du:=lu B (aA hB)
 repeat(first|refine aV ?_|refine dd λ_ _=>?_)
 rename_i p9 _ zB _;refine aL (λh2=>?_) (λh2=>?_)
 ·have hz:z=-1:=by have:=h2;simp at this;omega
  subst hz;refine bA ?_;refine bY rfl (λw hw=>xZ _ _ _ B ⟨_,_,_,rfl⟩ ⟨_,_,_,rfl⟩ ⟨_,_,_,rfl⟩ r w (acs.cB nF hw.c_)) ?_;have Gh:(B.bg.any λp=>decide (p.dst=r))=false↔∀p∈B.bg,p.dst≠r:=by simp
  generalize (B.bg.any λp=>decide (p.dst=r))=q at Gh;have KH:∀Gt:List Sp,(q=false->((b,0):Sp)∈Gt)->JI bl r Gt (b,-1):=λGt h B' qq=>by
   rw[hB]at qq;cases qq;exact⟨λ_ hp=>h (Gh.2 hp),λi x e=>absurd e bB,λe=>absurd e bB,λe=>absurd e bB⟩
  cases q
  ·have hp:=Gh.1 rfl
   have It:=hI.abd (s:=(b,0)) A ⟨by simp,B,hB,by simp only;omega⟩ λh=>zW (.iN hB hp h);refine aU ?_;refine mQ [2,0,1,3] (by decide) ?_;refine fO (H1:=[yX (O ⟨vb,vo,U⟩) c row]) (val:=λx:ax×Nat=>.slice x.1 (og row (b,0)).length x.2) (cZ:=λx=>[yX x.1 x.2 (og row (b,0))]) (φ:=λ_=>True) rfl (λw hw=>MY _ c row A (b,0) w hw.pre) λx _=>?_;obtain⟨a',c'⟩:=x;simp only[bF,aS];have hg:=Cf (s:=(b,0)) hs;refine aV ?_;exact a_ (i+1,a',c',og row (b,0)) ⟨(aJ.1 hg).1,It.next hg (KH _ λ_=>oU.2 (.inr rfl))⟩ bB V aB
  ·refine aV ?_
   exact a_ (i+1,O ⟨vb,vo,U⟩,c,row) ⟨ce,hI.next hs (KH row bT)⟩ bB V aB
 obtain⟨j,rfl⟩:∃j:Nat,z=j:=⟨z.toNat,by have:=h2;simp at this;omega⟩;have hjn:j<=B.list.length+1:=A;clear Gn Bj;refine aU ?_;refine aL (λh3=>?_) (λh3=>?_)
 ·have iS:j<ln:=aD h3
  obtain⟨x,hx⟩:=eI Jy iS;have agy:cl la lb lo:=⟨IJ (aZ hx)⟩;have Dt:cg j ln:=⟨iS⟩;obtain⟨csx,ag5,xv,rfl,_,_,UL,hib,_,mT⟩:=xz j x hx;have qH:=aA hx;have Gf:=sZ B (aA hB) x qH;have EU:=mT;obtain⟨va,vn,vc,_,_,rfl,_,_,_,_,_,DB⟩:=mT;have ajL:bu w0 lb (lo+j*8) _:=⟨ag5⟩;have hul:(eh x).length<=1000:=by unfold eh;repeat(first|split|skip)<;>(try simp)<;>(try omega)
  have hui:∀v∈eh x,dE v.n:=λv hv=>by
   have aeh:∀v∈x.args,dE v.n:=λv hv=>by
    obtain⟨k,hk⟩:=bR hv;obtain⟨_,_,_,h⟩:=DB k v hk;exact h
   unfold eh at hv
   split at hv
   ·cases hv
   ·split at hv
    ·exact aeh v hv
    ·split at hv
     ·simp only[bX,gr,or_false]at hv
      rcases hv with rfl|rfl
      ·exact UL
      ·exact hib
     ·split at hv
      ·simp only[bX,gr,or_false]at hv
       subst hv;exact UL
      ·cases hv
  refine bA ?_;refine cN (val:=λy:ax×Nat×Nat=>.slice y.1 (eh x).length y.2.1) (cZ:=λy=>[G y.1 (eh x).length y.2.1 y.2.2 2 ((eh x).flatMap GC)]) (φ:=λ_=>True) rfl (λw hw=>Xe x va vn vc w (EU.cB jH hw.c_) Gf) λy _=>?_;obtain⟨ya,yc,ye⟩:=y;simp only[bF,aS];refine bA ?_;refine bY rfl (λw hw=>I0 _ (eh x) r w (BU hw (k:=0) rfl rfl A hui)) ?_
  by_cases vJ:iB (eh x) r=true
  ·rw[vJ]
   refine aV ?_;exact cv rfl (by rw[fQ (zW (.use hB hx vJ))])
  have vJ:=Bool.eq_false_iff.2 vJ;rw[vJ];refine aU ?_;have KH:∀Gt:List Sp,(x.dst≠r->((b,(j:Int)+1):Sp)∈Gt)->JI bl r Gt (b,j):=λGt h B' qq=>by
   rw[hB]at qq;cases qq;refine⟨λe=>absurd e bB,λi' x' e IM=>?_,λe=>absurd e bB,λe=>absurd e bB⟩;have:i'=j:=by simp only at e;omega
   subst this;rw[hx]at IM;cases IM;exact⟨vJ,h⟩
  refine aL (λh4=>?_) (λh4=>?_)
  ·have hd:x.dst≠r:=aD h4
   have It:=hI.abd (s:=(b,(j:Int)+1)) A ⟨by simp only;omega,B,hB,by simp only;omega⟩ λh=>zW (.go hB hx hd (aD h));refine aU ?_;refine mQ [3,1,2,4] (by decide) ?_;refine fO (H1:=[yX (O ⟨vb,vo,U⟩) c row]) (val:=λx:ax×Nat=>.slice x.1 (og row (b,(j:Int)+1)).length x.2) (cZ:=λx=>[yX x.1 x.2 (og row (b,(j:Int)+1))]) (φ:=λ_=>True) rfl (λw hw=>MY _ c row A (b,(j:Int)+1) w hw.pre) λx _=>?_;obtain⟨a',c'⟩:=x;simp only[bF,aS];have hg:=Cf (s:=(b,(j:Int)+1)) hs;refine aV ?_;exact a_ (i+1,a',c',og row (b,(j:Int)+1)) ⟨(aJ.1 hg).1,It.next hg (KH _ λ_=>oU.2 (.inr rfl))⟩ bB V aB
  ·refine aV ?_
   refine mQ [1,2,3,4] (by decide) ?_;exact a_ (i+1,O ⟨vb,vo,U⟩,c,row) ⟨ce,hI.next hs (KH row λh=>by simp at h4;exact absurd h4 h)⟩ bB V aB
 have hjg:j=B.list.length\/j=B.list.length+1:=by simp at h3;omega
 clear h3 h2;refine iC (L':=[M 10 zB,M 9 p9,(8,J Z i),(7,I (O ⟨vb,vo,U⟩) row.length c),M 3 p3,(1,J Z (r:Nat)),(6,ag false)]) V (.refl _) ?_;refine aU ?_;refine jS 88 (ag (decide (j=B.list.length)&&iB [B.on] r)) ?_ ?_
 ·rw[show decide ((j:Int)=(ln:Int))=decide (j=B.list.length) by rw[Jy];exact decide_eq_decide.2 A]
  by_cases e:j=B.list.length
  ·rw[fQ e]
   repeat(first|refine aV ?_|refine dd λ_ _=>?_)
   refine bY rfl (λw hw=>I0 _ [B.on] r w (BU hw (k:=0) (l:=[B.on]) rfl rfl A (λy hy=>by simp only[bQ]at hy;subst hy;exact YS))) ?_;refine bA ?_;exact aP V aB
  ·rw[gx e]
   refine cT ?_;exact aP V aF
 refine bA ?_;refine aL (λh4=>?_) (λh4=>?_)
 ·refine aV ?_
  rw[eU]at h4;have e:j=B.list.length:=aD h4.1;exact cv rfl (by rw[fQ (zW (by rw[e];exact .on hB h4.2))])
 have Dv:j=B.list.length->iB [B.on] r=false:=λe=>by rw[fQ e,Bool.true_and]at h4;exact h4
 refine aU ?_;refine bH (λ(x:Nat×ax×Nat×List Sp)=>x.1<=tn/\i<x.2.2.2.length/\JJ bl r s0 i x.2.2.2/\x.2.2.2[i]?=O (b,(j:Int))/\∀t:Nat,(t:Int)∈B.to.take x.1->tH bl t b r=false/\((t,-1):Sp)∈x.2.2.2)
  (λx=>[(11,J Z x.1),(7,I x.2.1 x.2.2.2.length x.2.2.1),M 10 zB,M 9 p9,(8,J Z i),M 3 p3,(1,J Z (r:Nat)),(6,ag false)])
  (λx=>[yX x.2.1 x.2.2.1 x.2.2.2,aM zB [I pa2 pn pc,I la ln lc,J Z B.kind,ag B.on.dq,J Z B.on.n,I ta tn tc] 46,aM p9 [J Z (b:Int),J Z (j:Int)] 52,aM p3 [nm,pa,re,I ba n bc] 35]) (λx=>tn-x.1) (0,O ⟨vb,vo,U⟩,c,row) ⟨aN _,ce,hI,hs,by simp⟩ ?_ λx ⟨hq,zt,It,lU,cX⟩=>?_
 ·refine mQ [2,0,1,3] (by decide) ?_
  exact aP V aF
 clear hI hs oG KR hi ce EP h1;obtain⟨q,a,c,row⟩:=x;simp only at hq zt It lU cX|-
 have oG:=HK It.nd It.ok lu;have KR:row.length<=100300:=A;refine bA ?_;refine aL (λh5=>?_) (λh5=>?_)
 ·have hqt:q<tn:=aD h5
  obtain⟨z,hz⟩:=eI qZ hqt;have yD:z∈dY bl b:=by rw[fI hB];exact aA hz
  obtain⟨t,rfl⟩:∃t:Nat,z=t:=⟨z.toNat,(dV.nat yD).symm⟩;have EQ:t<bl.length:=by have:=dV.Ka (x:=b) (y:=t) yD;omega
  have ajy:cl ta tb BQ:=⟨Ax (aZ hz)⟩;have hlq:cg q tn:=⟨hqt⟩;obtain⟨csz,ag6,rfl,_⟩:=tg q _ hz;have ajM:bu w0 tb (BQ+q*1) _:=⟨ag6⟩;have hI2:=It.abd (s:=(t,-1)) A ⟨by simp,bl[t],bL EQ,by simp only;omega⟩ λh=>zW (.jump hB A (by rw[<-fI hB];exact yD) h);unfold yX;refine aU ?_;refine bY rfl (λw hw=>Z3 nm pa re R bl _ ⟨_,_,_,rfl⟩ t b r w (rq.cB cu hw.c_) hlen hf EQ A yD) ?_
  by_cases xC:tH bl t b r=true
  ·rw[xC]
   refine aV ?_;exact cv rfl (by rw[fQ (zW (.take hB A (by rw[<-fI hB];exact yD) xC))])
  have xC:=Bool.eq_false_iff.2 xC;rw[xC];refine aU ?_;refine fO (H1:=[yX a c row]) (val:=λx:ax×Nat=>.slice x.1 (og row (t,-1)).length x.2) (cZ:=λx=>[yX x.1 x.2 (og row (t,-1))]) (φ:=λ_=>True) rfl (λw hw=>MY _ c row A (t,-1) w hw.pre) λx _=>?_;obtain⟨a',c'⟩:=x;simp only[bF,aS];have hg:=Cf (s:=(t,-1)) lU;refine aU ?_;refine a_ (q+1,a',c',og row (t,-1)) ⟨hqt,(aJ.1 hg).1,hI2,hg,λt' wJ=>?_⟩ bB V aF;simp only at wJ;rw[bV,hz,bO]at wJ;rcases wJ with wJ|wJ
  ·exact⟨(cX t' wJ).1,oU.2 (.inl (cX t' wJ).2)⟩
  ·simp only[jk,bQ]at wJ
   have:t'=t:=A;subst this;exact⟨xC,oU.2 (.inr rfl)⟩
 ·have fX:q=tn:=by have:=h5;simp at this;omega
  rw[fX,qZ,cL]at cX;refine aV ?_;refine a_ (i+1,a,c,row) ⟨zt,It.next lU λB' qq=>?_⟩ bB V aB;rw[hB]at qq;cases qq;refine⟨λe=>absurd e bB,λi' x e hx=>absurd e ?_,λe=>Dv (by simp only at e;omega),λ_ t ht=>cX t ht⟩;have:=(aJ.1 hx).1;simp only;omega
attribute [local irreducible] wpAnyH
theorem MU{u:dk}(h:(gL u).1=0)(hX:u.funcs[k]?=O X):∀B∈X.blocks,∀x∈B.list,x.args.length<=1000:=λB hB x hx=>by
 have hb:=vQ h X (aA hX);obtain⟨b,Sy⟩:=bR hB;unfold jz at hb
 split at hb
 ·rename_i h1;exact absurd hb h1
 have hb:=kD hb b (aJ.1 Sy).1;simp only[lq,Sy]at hb
 split at hb
 ·rename_i h2;exact absurd hb h2
 have hi:=pD hb x hx
 by_cases e:x.op=20
 ·unfold fA at hi
  split at hi
  ·cases hi
  split at hi
  ·cases hi
  split at hi
  ·rename_i h3
   simp only[eU,gy,fg]at h3;exact absurd hi h3.2
  split at hi
  ·rename_i h4;exact absurd hi h4
  split at hi
  ·rename_i h5;exact absurd hi h5
  unfold jA at hi;rw[ai (aD e)]at hi
  split at hi
  ·cases hi
  rename_i h6
  split at hi
  ·cases hi
  rename_i h7;simp only[within,gy,iW,fg,not_or,h_]at h6;simp only[ne_eq,h_,lC]at h7
  split at h7
  ·rename_i cP hY
   have:=qA h hY;omega
  ·omega
 ·rw[(CB (R:=X.bm.toNat) (fs:=u.funcs) (by rw[Int.toNat_of_nonneg (by have:=qA h hX;omega)];exact hi)).args e]
  simp
theorem N5(h:E4 X):∀B∈X.blocks,B.list.length<=1000/\B.bg.length<=1000:=λB hB=>by
 have h1:((B.bg.length+B.list.length:Nat):Int)<=ja X.blocks:=by
  unfold ja;generalize X.blocks=l at hB
  induction l with
  |nil=>cases hB
  |cons C l ih=>
   have Xz:∀m:List aq,0<=(m.map λb=>((b.bg.length+b.list.length:Nat):Int)).sum:=λm=>by
    induction m with
    |nil=>simp
    |cons eE m ih=>simp only[cf,g_];omega
   simp only[cf,g_];rcases bX.1 hB with rfl|hB
   ·have:=Xz l;omega
   ·have:=ih hB;omega
 have:=h.2;omega
class Az(m n:Int):Prop where
 lo:-9223372036854775808<=m+n
 hi:m+n<=9223372036854775807
instance{P:Program}{x y:Operand}{T2:Nat}{m n:Int}[hx:Ev L x (J Z m)][hy:Ev L y (J Z n)][h:Az m n]:gg P N ds S w0 L H (.binOp .add T x y T2) (J Z (m+n)):=by
 have:=HH (P:=P) (N:=N) (ds:=ds) (S:=S) (w0:=w0) (L:=L) (H:=H) (x:=x) (y:=y) (T:=T) (T2:=T2) (m:=m) (n:=n)
 rwa[BY _ h.lo h.hi]at this
end
end Go.Proofs.YthfhgolkafpmnaaGreatDoor
