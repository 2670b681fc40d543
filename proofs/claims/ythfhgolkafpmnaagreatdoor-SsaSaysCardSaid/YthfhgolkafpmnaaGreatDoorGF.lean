/- Lemmas. -/
import Derived.Laws.Cover3
import Derived.Test.YthfhgolkafpmnaaGreatDoorGD
namespace Go.Proofs.YthfhgolkafpmnaaGreatDoor
open Go.Value renaming int->J,slice->I,pointer->aO,bool->ag,agg->aC
open Go.IntKind renaming i64->Z
open Option renaming some->O,none->U
open Go renaming Value->K,World->ae
open List renaming replicate->aI,range->bj
open Go.Code renaming wpIn->eY
open Go.Proofs.Tryz
open Go.Proofs.Tryz renaming prog->Y
open Go Go.RowKit
variable {ps:Array Tmp} {assign body:Code} {j:Int} {B:aq} {X:bZ} {x:iA} {u:dk} {on:cI} {bl:List aq} {fs:List bZ} {bcs lb zs:List K} {Bs R T b qz d e gf k m n r s t ty:Nat} {kH vI:Nat->Nat->Prop} {P S:Nat->Prop} {g:Operand} {α σ:Type} {bt:TypeId} {v:K} {sC dO w w':ae}
section
theorem ol(f:α->K):∀l:List α,l.flatMap (λx=>[f x])=l.map f
 |[]=>rfl
 |x::l=>by rw[fj,ol f l];rfl
theorem cA{g:α->List K}(h:∀x,(g x).length=s):∀l:List α,(l.flatMap g).length=l.length*s
 |[]=>by simp
 |x::l=>by rw[fj,bW,h,cA h l,lF,lk];omega
theorem e_{g:α->List K}(h:∀x,(g x).length=s):∀(l:List α) (i:Nat) (x:α) (j:Nat) (v:K),l[i]?=O x->(g x)[j]?=O v->(l.flatMap g)[i*s+j]?=O v
 |[],i,x,j,v,hi,_=>by simp at hi
 |y::l,0,x,j,v,hi,hj=>by
  simp only[jN,cF]at hi;subst hi;rw[fj,eX (by have:=(aJ.1 hj).1;omega)];simpa using hj
 |y::l,i+1,x,j,v,hi,hj=>by
  rw[fj,dH (by rw[h,lk];omega),h,show(i+1)*s+j-s=i*s+j by rw[lk];omega];exact e_ h l i x j v (aD hi) hj
theorem sF{g:α->List K}(h:∀x,(g x).length=s):∀(l:List α) (k:Nat) (v:K),(l.flatMap g)[k]?=O v->∃i x j,l[i]?=O x/\(g x)[j]?=O v/\k=i*s+j
 |[],k,v,hk=>by simp at hk
 |y::l,k,v,hk=>by
  rw[fj]at hk
  by_cases ce:k<(g y).length
  ·rw[eX ce]at hk
   exact⟨0,y,k,rfl,hk,A⟩
  ·rw[dH A,h]at hk
   obtain⟨i,x,j,h1,h2,h3⟩:=sF h l _ v hk;rw[h]at ce;exact⟨i+1,x,j,aD h1,h2,by rw[lk];omega⟩
section
variable {P:Program} {ro:Option Nat} {N:Nat} {ds:List Deferred} {S:Nat->Prop} {w0:ae} {L L':List (Nat×K)} {H H':List cq} {a:Act} {w:ae}
 {ops:Array Oper} {rest:List Oper} {Q:Exit->Act->ae->Prop} {p:Act->ae->Prop} {x y:Operand}
instance[h:dt P T e s qz zs](ad:ax)(n c:Nat):CU P T (I ad n c) (I U 0 0) ad.isNone:=
 ⟨λop _ _ w=>by unfold eqGuard;split<;>simp,λw=>by simp[binOp,run_equal_slice_nil w T e ad n c h.sy],λw=>run_neq_slice_nil w T e ad n c h.sy⟩
theorem kZ{pos:String}{aft:Array Go.Edge}{ad a2:ax}{c c2:Nat}{xs:List K}[h:dt P T e s qz zs][hx:Ev L x (I ad n c)][hy:Ev L y (I a2 m c2)]
  [hv:wW H ad n c k e s xs] (hd:ev d N L=true) (hs:(Nat.blt 0 s&&Nat.beq zs.length s)=true) (l:List α) {dL:ae->α->List K->Prop} (g:α->List K) (hg:∀w x cs,dL w x cs->cs=g x) (hlen:∀x,(g x).length=s) (EK:∀x,∀u∈g x,u.oneCell'=true)
  (pt:∀w,Wd S w0 H w->aY w (I a2 m c2) s l dL) (nN:(n+m)*qz<=140737488355328) (Mm:n+m<=140737488355328)
  {F:cq->List cq} [hF:D6 H k F] (kk:∀a' c',cU N ds S w0 ((d,I a' (n+m) c')::L) (F (G a' (n+m) c' e s (xs++l.flatMap g))) (wpListIn (FW ro) 0 P ops Q rest)):cU N ds S w0 L H (wpListIn (FW ro) 0 P ops Q (⟨O d,.call {callee:=.builtin .append,args:=#[x,y],argTypes:=#[T,T]},ty,pos,aft,U⟩::rest)):=by
 intro a w hS;simp only[eU,Nat.blt_eq]at hs;obtain⟨a2',m',c2',b,o,pu,hm,Xy,_,_,ha,iw⟩:=pt w hS.wd;simp only[Value.slice.injEq]at pu;obtain⟨rfl,rfl,rfl⟩:=pu
 by_cases h0:m=0
 ·subst h0
  have hl:l=[]:=nr hm.symm;subst hl;obtain⟨i,zz,hi,_,_,_,_⟩:=h.get;have qg:n<=c:=by
   obtain⟨_,h2⟩:=hS.wd.get hv.at';rcases h2 with⟨_,h2,h3⟩|⟨_,_,_,_,h3,_⟩<;>omega
  have hr:(Builtin.append_ #[T,T] ty #[I ad n c,I a2 0 c2]).run P w=.ok (I ad n c) w:=by
   cases ad<;>cases a2<;>simp[Builtin.append_,run_underlying h.sy,sizeOf,typeInfo,hi,Builtin.lenOf,Builtin.firstCells,qg,storeCells,loadCells,loadCellsFrom]
  refine gj (v:=.slice ad n c) (w':=w) rfl (λ_ h=>by cases h) ?_ ?_
  ·simp[execOp,resolve,invoke,builtin,hx.eq _ _ _ hS.fr,hy.eq _ _ _ hS.fr,hr]
  ·have:=kk ad c
   simp only[jc,cj,dR]at this;rw[<-hF.eq,m_ hv.at']at this;exact this _ _ ⟨hS.fr.fv hd _,hS.wd⟩
 ·have fZ:l≠[]:=by rintro rfl;simp at hm;exact h0 hm
  have ha:=ha fZ;subst ha;obtain⟨a',c',w',hr,kE⟩:=hS.wd.append (P:=P) (ty:=ty) (c2:=c2) (a2:=⟨b,o,U⟩) (m:=m) (news:=l.flatMap g) h hs.1 hv.at' A (by rw[cA hlen,hm]) (λj u hj=>by
   obtain⟨i,q,j',h1,h2,rfl⟩:=sF hlen l j u hj;obtain⟨cs,hc,hV⟩:=iw i q h1;rw[hg _ _ _ hV]at hc;have:=hc j' u h2;rw[Addr.add_lit,<-eB];exact this) (λu hu=>by obtain⟨q,_,hq⟩:=dg.1 hu;exact EK q u hq) nN Mm (sP hs.2)
  refine gj (v:=.slice a' (n+m) c') (w':=w') rfl (λ_ h=>by cases h) ?_ ?_
  ·simp[execOp,resolve,invoke,builtin,hx.eq _ _ _ hS.fr,hy.eq _ _ _ hS.fr,hr]
  ·rw[hF.eq]at kE
   exact kk a' c' _ _ ⟨hS.fr.fv hd _,kE⟩
def marks(Ds:List Nat):List cq:=Ds.map cq.mark
def Ya(Ds:List Nat):List Deferred:=Ds.map λeE=>⟨.collected eE,#[]⟩
def aak{α:Type}(N:Nat)(dx:α->List Deferred)(S:Nat->Prop)(w0:ae)(kH:α->Prop)(Lx:α->List (Nat×K))(Hx:α->List cq)(m:α->Nat)(x:α):Act->ae->Prop:=
 λa w=>∃x',(kH x'/\St N (dx x') S w0 (Lx x') (Hx x') a w)/\m x'<m x
theorem O9(dx:α->List Deferred)(kH:α->Prop)(Lx:α->List (Nat×K))(Hx:α->List cq)(m:α->Nat){c:Code}(x:α)(hds:dx x=ds)(hI:kH x)(h0:cU N ds S w0 L H (St N ds S w0 (Lx x) (Hx x)))
  (round:∀x,kH x->cU N (dx x) S w0 (Lx x) (Hx x) (eY (FW ro) 0 P c (Exit.then (aak N dx S w0 kH Lx Hx m x) Q))):cU N ds S w0 L H (eY (FW ro) 0 P (Code.loop c) Q):=
 λa w hS=>MP (λx a w=>kH x/\St N (dx x) S w0 (Lx x) (Hx x) a w) m x ⟨hI,by rw[hds];exact h0 a w hS⟩ λx a w h=>round x h.1 a w h.2
theorem Im{dx:α->List Deferred}{kH:α->Prop}{Lx:α->List (Nat×K)}{Hx:α->List cq}{m:α->Nat}{x:α}(x':α)(hds:dx x'=ds)(hI:kH x')(hm:m x'<m x)(hL:wX L (Lx x'))(hH:(Hx x').Sublist H):cU N ds S w0 L H (aak N dx S w0 kH Lx Hx m x):=
 λ_ _ hS=>⟨x',⟨hI,by rw[hds];exact hS.fix hL hH⟩,hm⟩
theorem Bn{fn:Func}{tmps:Array K}{R:K->ae->Prop}(hr:∀w,(results fn tmps).run P w=.ok v w)(hR:∀w,Wd db w0 H w->R v w):∀(Ds:List Nat) (w:ae),Wd db w0 (marks Ds++H) w->
  LeavesInM (FW U) 0 P fn tmps (λe w'=>∃v,e=.returned v/\R v w') (Ya Ds) .returning w
 |[],w,hW=>⟨v,hr w,v,rfl,hR w hW⟩
 |eE::Ds,w,hW=>by
  have h1:Wd db w0 (cq.mark eE::(marks Ds++H)) w:=hW;have hD:w0.heap.size<=eE:=(h1.own (cq.mark eE) bT eE rfl).1.elim (λh=>h.elim) id;exact⟨by simp,.inl ⟨eE,_,rfl,run_takeDeferred (h1.get (k:=0) rfl),Bn hr hR Ds _ (h1.shut hD _)⟩⟩
theorem T4{fn:Func}{R:K->ae->Prop}{Ds:List Nat}{u:K}(hr:fn.results= #[.tmp s,.tmp t])[hv:jQ L s v][hu:jQ L t u](hR:∀w,Wd db w0 H w->R (.tuple #[v,u]) w):cU N (Ya Ds) db w0 L (marks Ds++H) (bodyPostM (FW U) 0 P fn (λe w'=>∃v,e=.returned v/\R v w') .ret):=λa w hS=>by
 show LeavesInM _ _ _ _ _ _ _ _ _;rw[hS.fr.defers];exact Bn (λw=>by rw[results_tmp2 hr];simp[hS.fr.slot _ hv.mem,hS.fr.slot _ hu.mem]) hR Ds w hS.wd
def nL(own:Nat->Prop)(dO W':ae):Prop:=∀b cs t z,¬own b->dO.heap[b]?=O (.cells cs t z)->W'.heap[b]?=O (.cells cs t z)
theorem nL.refl(own:Nat->Prop)(dO:ae):nL own dO dO:=λ_ _ _ _ _ h=>h
theorem nL.trans{own:Nat->Prop}{B C:ae}(h:nL own sC B)(k:nL own B C):nL own sC C:=λb cs t z hb hc=>k b cs t z hb (h b cs t z hb hc)
theorem MS{p:Addr}(h:dO.cell? p=O v):∃cs t z,dO.heap[p.block]?=O (.cells cs t z):=by
 unfold World.cell? at h
 revert h
 cases dO.heap[p.block]? with
 |none=>intro h;simp at h
 |some o=>cases o<;>intro h<;>first|exact⟨_,_,_,rfl⟩|simp at h
theorem nL.cell{own:Nat->Prop}{B:ae}(h:nL own sC B){p:Addr}(hp:¬own p.block)(hc:sC.cell? p=O v):B.cell? p=O v:=by
 obtain⟨cs,t,z,hb⟩:=MS hc;have:=h _ _ _ _ hp hb;rw[<-hc];exact World.cell?_of_block (this.trans hb.symm)
theorem O6{Lp:Nat->List (Nat×K)}{Hp:Nat->List cq}(q:Nat)(hL:wX L (Lp q))(hH:(Hp q).Sublist H):cU N ds S w0 L H (λa w=>∃q,St N ds S w0 (Lp q) (Hp q) a w):=λ_ _ hS=>⟨q,hS.fix hL hH⟩
theorem T0[hg:Ev L g (.func (.func gf) #[] lb.toArray)][eg:bf P gf](F:List cq)(Hc:σ->List cq)(s0:σ)(kV:∀s,Mz (Hc s))(hfp:∀s s' b,df (Hc s) b->df (Hc s') b)(xs:List α){encs:α->Array K}
  (Xs:aM Bs bcs bt∈F)
  (Va:∀w,Wd db w0 H w->SeqStopsK (FW U) 4 P gf lb.toArray encs (nL λb=>df (Hc s0++F) b/\b≠Bs) (λys=>ys=xs) (λpre=>pre<+:xs) xs.length w)
  (kH:List α->σ->Prop) (h0:kH [] s0) (hH:(Hc s0++F).Sublist H) (zT:∀x,(encs x).size=ps.size) (bx:α->List K) (T:Nat)
  (L0:α->List (Nat×K)) (La:α->Nat->List (Nat×K)) (nE:∀x a,Fr N ds L a->Fr N [] (L0 x) {tmps:=(ps.zip (encs x)).foldl (λt (p,v)=>t.setIfInBounds p v) a.tmps,defers:=[]})
  (AX:∀(l:Nat) (x:α) (s:σ) (R:cq),cU N [] db w0 (L0 x) (R::(Hc s++F)) (assign.wpIn (FW (O l)) 0 P (Exit.then (λa w=>∃q,St N [] db w0 (La x q) (aM q (bx x) T::R::(Hc s++F)) a w) (λ_ _ _=>False))))
  (xw:∀(l:Nat) (pre:List α) (x:α) (s:σ) (q:Nat) (R:cq),kH pre s->pre.length<xs.length->cU N [] db w0 (La x q) (R::aM q (bx x) T::(Hc s++F)) (body.wpIn (FW (O l)) 0 P (Exit.then (Rnd db w0 (kH (pre++[x])) R Hc (aM q (bx x) T::F)) (λ_ _ _=>False))))
  (k:∀eE s,w0.heap.size<=eE->kH xs s->cU N (⟨.collected eE,#[]⟩::ds) db w0 L (cq.mark eE::(Hc s++F)) (Q .normal)):cU N ds db w0 L H (eY (FW U) 0 P (Code.rangeFunc g ps assign body) Q):=λa w hS=>by
 have mK:=hS.wd.size;have hF:∀e∈F,∀b,e.fp b->b<w.heap.size:=λe he b hb=>(hS.wd.own e (hH.subset (en _ he)) b hb).2;have lT:∀s dO,Wd db w0 (Hc s++F) dO->∀r o,dO.heap[r]?=O o->o.isCells=false->w.heap.size<=r->¬df (Hc s++F) r:=by
  rintro s dO hW r o ho hn hle ⟨e,he,hb⟩;rcases bO.1 he with he|he
  ·obtain⟨j,hj⟩:=bR (cM F he)
   obtain⟨cs,t,z,hc⟩:=((kV s).all e he).ok dO (hW.get hj) r hb;rw[hc]at ho;cases ho;cases hn
  ·have:=hF e he r hb;omega
 have KA:∀s dO,Wd db w0 (Hc s++F) dO->dO.heap[Bs]?=O (.cells bcs.toArray bt (0,0)):=λs dO hW=>by
  obtain⟨j,hj⟩:=bR (en (Hc s) Xs);exact hW.get hj
 have Nt:∀s s' b,df (Hc s++F) b->df (Hc s'++F) b:=by
  rintro s s' b ⟨e,he,hb⟩;rcases bO.1 he with he|he
  ·obtain⟨e',he',oX⟩:=hfp s s' b ⟨e,he,hb⟩
   exact⟨e',cM _ he',oX⟩
  ·exact⟨e,en _ he,hb⟩
 have KO:∀s s' (H0:List cq) dO W',Wd db w0 (Hc s++F) dO->(∀r o,dO.heap[r]?=O o->o.isCells=false->w.heap.size<=r->¬df H0 r)->Wd db w0 (cq.rest (xO w0.heap.size dO H0) dO::(Hc s'++F)) W'->(∀b,df H0 b->¬df (Hc s0++F) b->W'.heap[b]?=dO.heap[b]?)->KeepsFrom w.heap.size dO W'/\nL (λb=>df (Hc s0++F) b/\b≠Bs) dO W':=by
  intro s s' H0 dO W' hW Nq zp hx;obtain⟨hs,hr⟩:=zp.get (k:=0) rfl;refine⟨⟨hs,λj o hj ho hn=>?_⟩,λb cs t z hb hc=>?_⟩
  ·exact(hr j ⟨A,(jl.1 ho).1,Nq j o ho hn hj⟩).trans ho
  ·by_cases e:b=Bs
   ·subst e
    exact(KA s' W' (zp.sub (gh _ _))).trans ((KA s dO hW).symm.trans hc)
   ·have G8:¬df (Hc s0++F) b:=λh=>hb ⟨h,e⟩
    by_cases ce:b<w0.heap.size
    ·exact((zp.c_.block b ce λh=>h).trans (hW.c_.block b ce λh=>h).symm).trans hc
    ·by_cases h0:df H0 b
     ·exact(hx b h0 G8).trans hc
     ·exact(hr b ⟨A,(jl.1 hc).1,h0⟩).trans hc
 refine nK (m:=5) ?_;refine wpIn_rangeFunc_ownH (F:=FW U) (n:=5) (w0:=w) rfl A (hg.eq _ _ _ hS.fr) trivial (λargs w=>eg.run args w) (Va w hS.wd) (λh1 h2=>h1.trans h2) (λdO l o o' hl ho hn _ b cs t z _ hc=>?_) (Below.refl _ _) zT
  (λpre dO=>∃s,kH pre s/\Wd db w0 (Hc s++F) dO/\w.heap.size<=dO.heap.size) (λ_ _ _=>False) (λpre dO W' row ⟨s,hI,hW,U_⟩ hg hr=>⟨s,hI,hW.grown hg λr e=>?_,dS U_ hg.size⟩) (λ_ _ _ _ _ h=>h.elim) ⟨s0,h0,hS.wd.sub hH,cz _⟩
  (λx a' dO=>∃q,Fr N [] (La x q) a'/\dO.heap[q]?=O (.cells (bx x).toArray T (0,0))/\w.heap.size<=q/\∀s,¬df (Hc s++F) q) (λx a' _ dO W' row ⟨q,h1,h2,h3,h4⟩ hg hr=>⟨q,h1,?_,h3,h4⟩) ?_ ?_ ?_ ?_
 ·refine(World.putObj_heap_other λe=>?_).trans hc
  subst e;rw[hc]at ho;cases ho;cases hn
 ·obtain⟨h1,o,ho,hn⟩:=hr r e
  exact⟨A,lT s dO hW r o ho hn h1⟩
 ·refine(hg.block q (jl.1 h2).1 λe=>?_).trans h2
  obtain⟨_,o,ho,hn⟩:=hr q e.symm;rw[h2]at ho;cases ho;cases hn
 ·rintro l pre x dO jB ⟨s,hI,hW,U_⟩ hK
  refine nK (m:=0) ?_;refine Code.wpIn_mono (λe a' W' q=>?_) (AX l x s _ _ dO ⟨nE x a hS.fr,hW.xY⟩);cases e with
  |normal=>
   obtain⟨q,hq⟩:=q;have ho:=KO s s _ dO W' hW (lT s dO hW) (hq.wd.sub (gh _ _)) λb hb hn=>absurd (Nt s s0 b hb) hn;have AW:=jm.1 hq.wd.apart;have hqf:¬df (Hc s++F) q:=λ⟨e,he,hb⟩=>AW.1 e (ey _ he) q rfl hb;have EM:=hq.wd.own (aM q (bx x) T) bT q rfl;refine hK a' W' ho.1 ho.2 ⟨s,hI,hq.wd.sub (.cons _ (.cons _ (.refl _))),dS U_ ho.1.size⟩ ⟨q,hq.fr,hq.wd.get (k:=0) rfl,?_,λs' h=>hqf (Nt s' s q h)⟩;refine it λce=>?_;have h1:w0.heap.size<=q:=EM.1.elim (λh=>h.elim) id;exact AW.1 (cq.rest (xO w0.heap.size dO (Hc s++F)) dO) bT q rfl ⟨h1,A,hqf⟩
  |_=>exact q.elim
 ·rintro l pre x a' dO _ _ ⟨s,hI,hW,U_⟩ ⟨q',h1,h2,h3,h4⟩ ce
  have hWb:Wd db w0 (aM q' (bx x) T::(Hc s++F)) dO:=⟨hW.c_,λe he b hb=>by
   rcases bX.1 he with rfl|he
   ·cases hb
    exact⟨.inr A,(jl.1 h2).1⟩
   ·exact hW.own e he b hb,λe he w2 hs lP=>by
   rcases bX.1 he with rfl|he
   ·exact(lP q' rfl).trans h2
   ·exact hW.ok e he w2 hs lP,jm.2 ⟨λf hf b hb Ar=>by cases hb;exact h4 s ⟨f,hf,Ar⟩,hW.apart⟩⟩
  refine nK (m:=0) ?_;refine Code.wpIn_mono (λe a' W' q=>?_) (xw l pre x s q' _ hI ce a' dO ⟨h1,hWb.xY⟩);cases e with
  |normal=>
   obtain⟨s',It,zp⟩:=q;have hW2:Wd db w0 (cq.rest (xO w0.heap.size dO (aM q' (bx x) T::(Hc s++F))) dO::(Hc s'++F)) W':=zp.sub (dN (List.Sublist.append_left (gh _ _) _));have uw:W'.heap[q']?=O (.cells (bx x).toArray T (0,0)):=by
    obtain⟨j,hj⟩:=bR (show aM q' (bx x) T∈cq.rest (xO w0.heap.size dO (aM q' (bx x) T::(Hc s++F))) dO::(Hc s'++(aM q' (bx x) T::F)) by simp);exact zp.get hj
   have ho:=KO s s' _ dO W' hW (λr o ho hn hle=>by
    rintro⟨e,he,hb⟩;rcases bX.1 he with rfl|he
    ·cases hb
     rw[h2]at ho;cases ho;cases hn
    ·exact lT s dO hW r o ho hn hle ⟨e,he,hb⟩) hW2 (λb hb hn=>by
    obtain⟨e,he,hb⟩:=hb;rcases bX.1 he with rfl|he
    ·cases hb
     exact uw.trans h2.symm
    ·exact absurd (Nt s s0 b ⟨e,he,hb⟩) hn)
   exact⟨ho.1,ho.2,s',It,hW2.sub (gh _ _),dS U_ ho.1.size⟩
  |_=>exact q.elim
 ·rintro eE ys dO hD rfl ⟨s,hI,hW,_⟩ hd
  refine k eE s A hI _ dO ⟨⟨hS.fr.size,by rw[hS.fr.defers],hS.fr.slot⟩,?_⟩;have hn:¬df (Hc s++F) eE:=lT s dO hW eE _ hd rfl hD;exact⟨hW.c_,λe he b hb=>by
   rcases bX.1 he with rfl|he
   ·cases hb
    exact⟨.inr A,(jl.1 hd).1⟩
   ·exact hW.own e he b hb,λe he w2 hs lP=>by
   rcases bX.1 he with rfl|he
   ·exact(lP eE rfl).trans hd
   ·exact hW.ok e he w2 hs lP,jm.2 ⟨λf hf b hb Ar=>by cases hb;exact hn ⟨f,hf,Ar⟩,hW.apart⟩⟩
 ·intro eE c pre dO _ _ h
  exact h.elim
end
end
section
attribute [local go_sem] Oper.semAt_some
open Go.Shelf
def AK(l:List (List K))(k:Nat):List (Int×List K):=(bj k).map λ(j:Nat)=>(((l.length-1-j:Nat):Int),l[l.length-1-j]?.getD [])
theorem AL(l:List (List K))(k:Nat):(AK l k).length=k:=by simp[AK]
set_option maxRecDepth 100000 in
set_option maxHeartbeats 2000000 in
theorem JS(n:Nat)(hn:1<=n)(enc:α->Int×List K)(l Bs b off cap:Nat)(jB:Nat->Prop)(Kp:ae->ae->Prop)(hKr:∀dO,Kp dO dO)(hKt:∀sC B C,Kp sC B->Kp B C->Kp sC C)(Yw:∀sC B,Kp sC B->∀p v,jB p.block->sC.cell? p=O v->B.cell? p=O v)(zs:List (List K))(xs:List α)(mT:xs.map enc=AK zs zs.length)(hlen:zs.length<=100000)(hb:zs≠[]->jB b)(abv:jB Bs)(vI Jx:List α->ae->Prop)(a:ax)(ha:zs≠[]->a=O ⟨b,off,U⟩)
  (hY:∀pre x dO,vI pre dO->pre.length<zs.length->YieldAt Fence.wide (n-1) Y l #[J Z (enc x).1,aC (enc x).2.toArray] dO λe W'=>
   (e=.returned (ag true)/\vI (pre++[x]) W'/\Kp dO W')\/(e=.returned (ag false)/\Jx (pre++[x]) W'))
  (dO:ae) (Xs:dO.cell? ⟨Bs,0,U⟩=O (I a zs.length cap)) (h8:∀z∈zs,z.length=8) (hc:∀m z,zs[m]?=O z->∀j v,z[j]?=O v->dO.cell? ⟨b,off+m*8+j,U⟩=O v) (h0:vI [] dO):
  CallsIn Fence.wide n Y 165 #[.func (.yield l) #[] #[],aO (O ⟨Bs,0,U⟩)] dO λe W'=>(∃v,e=.returned v)/\
   ((∃ys,ys=xs/\vI ys W')\/(∃pre,pre<+:xs/\Jx pre W')):=by
 refine callsIn_of_wp func165 rfl trivial ?_ rfl;simp only[ntmps165,List.size_toArray,lF,pE,Nat.reduceAdd,Nat.reduceSub,Array.replicate_succ,Array.replicate_zero,List.push_toArray,List.append_toArray,aS,bF];have pw:xs.length=zs.length:=by have:=bD List.length mT;rwa[aG,AL]at this
 have SJ:wrap64 ((zs.length:Int)-1)=(zs.length:Int)-1:=wD _ A A
 gi_wp2
 gi_loopw [3] (λi wr=>∃m:Nat,m<=zs.length/\i=J Z ((m:Int)-1)/\vI (xs.take (zs.length-m)) wr/\Kp dO wr) (λi _=>(intOf i+1).toNat)
 case atStart=>exact⟨zs.length,cz _,by first|rfl|simp[SJ],aD h0,hKr _⟩
 case round=>
  obtain⟨m,hm,rfl,hJs,hk⟩:=hrel;cases m with
  |zero=>
   gi_wp2
   go_end0
   exact⟨⟨_,rfl⟩,.inl ⟨xs,rfl,by rw[Nat.sub_zero,jR A]at hJs;exact hJs⟩⟩
  |succ m=>
   have fZ:zs≠[]:=by rintro rfl;simp at hm
   obtain rfl:=ha fZ;rw[show(((m+1:Nat):Int)-1)=(m:Int) by omega];obtain⟨z,hz⟩:=bE zs m A;have hz8:=h8 z (aA hz);obtain⟨c0,c1,c2,c3,c4,c5,c6,c7,rfl⟩:∃c0 c1 c2 c3 c4 c5 c6 c7,z=[c0,c1,c2,c3,c4,c5,c6,c7]:=by
    match z,hz8 with
    |[c0,c1,c2,c3,c4,c5,c6,c7],_=>exact⟨c0,c1,c2,c3,c4,c5,c6,c7,rfl⟩
   have Nq:wr.cell? ⟨b,off+m*8,U⟩=O c0:=Yw _ _ hk ⟨b,off+m*8,U⟩ _ (hb fZ) (hc m _ hz 0 c0 rfl);have hc1:wr.cell? ⟨b,off+m*8+1,U⟩=O c1:=Yw _ _ hk ⟨b,off+m*8+1,U⟩ _ (hb fZ) (hc m _ hz 1 c1 rfl);have G2:wr.cell? ⟨b,off+m*8+2,U⟩=O c2:=Yw _ _ hk ⟨b,off+m*8+2,U⟩ _ (hb fZ) (hc m _ hz 2 c2 rfl);have hc3:wr.cell? ⟨b,off+m*8+3,U⟩=O c3:=Yw _ _ hk ⟨b,off+m*8+3,U⟩ _ (hb fZ) (hc m _ hz 3 c3 rfl);have hc4:wr.cell? ⟨b,off+m*8+4,U⟩=O c4:=Yw _ _ hk ⟨b,off+m*8+4,U⟩ _ (hb fZ) (hc m _ hz 4 c4 rfl);have hc5:wr.cell? ⟨b,off+m*8+5,U⟩=O c5:=Yw _ _ hk ⟨b,off+m*8+5,U⟩ _ (hb fZ) (hc m _ hz 5 c5 rfl);have hc6:wr.cell? ⟨b,off+m*8+6,U⟩=O c6:=Yw _ _ hk ⟨b,off+m*8+6,U⟩ _ (hb fZ) (hc m _ hz 6 c6 rfl);have hc7:wr.cell? ⟨b,off+m*8+7,U⟩=O c7:=Yw _ _ hk ⟨b,off+m*8+7,U⟩ _ (hb fZ) (hc m _ hz 7 c7 rfl);have hBx:wr.cell? ⟨Bs,0,U⟩=O (I (O ⟨b,off,U⟩) zs.length cap):=Yw _ _ hk ⟨Bs,0,U⟩ _ abv Xs;have ce:m<zs.length:=A;obtain⟨x,hx⟩:=bE xs (zs.length-(m+1)) A;have hex:enc x=((m:Int),[c0,c1,c2,c3,c4,c5,c6,c7]):=by
    have h1:(xs.map enc)[zs.length-(m+1)]?=O (enc x):=by rw[aW,hx];rfl
    rw[mT,AK,aW,gq A]at h1;simp only[b_,cF]at h1;rw[<-h1,show zs.length-1-(zs.length-(m+1))=m by omega,hz];rfl
   have hY1:=hY _ x wr hJs (by rw[dA];omega);rw[hex]at hY1;have xC:xs.take (zs.length-(m+1))++[x]=xs.take (zs.length-m):=by
    rw[show zs.length-m=(zs.length-(m+1))+1 by omega,bV,hx];rfl
   rw[xC]at hY1;obtain⟨fn,tmps,assign,body,hy,hR⟩:=hY1
   dsimp only at hy
   have acS:wrap64 ((m:Int)-1)=(m:Int)-1:=wD _ A A
   gi_wp2
   refine hR.mono ?_;rintro e W3 (⟨rfl,hJ3,UO⟩|⟨rfl,abx⟩)
   ·gi_wp2
    go_roundw
    case rel=>exact⟨m,A,by first|rfl|simp[acS],hJ3,hKt _ _ _ hk UO⟩
    case measure=>simp[intOf]
   ·gi_wp2
    refine bodyPost_ret (results_none rfl _ _ _) rfl ?_;exact⟨⟨_,rfl⟩,.inr ⟨_,List.take_prefix _ _,abx⟩⟩
end
section
def iB(l:List cI)(r:Nat):Bool:=l.any λv=>v.dq&&decide (v.n=r)
def oS(x:iA):List cI:=(if (shape x.op).2.1 then[x.a]else[])++((if (shape x.op).2.2 then[x.b]else[])++x.args)
def eh(x:iA):List cI:=if x.op=21 then[]else if x.op=20 then x.args else if (2<=x.op/\x.op<=15)\/x.op=19 then[x.a,x.b]else if 1<=x.op/\x.op<=22 then[x.a]else[]
def kW(R:Nat)(v:cI):Prop:=v.dq=true->0<=v.n/\v.n<R
structure y_(R:Nat)(x:iA):Prop where
 op:1<=x.op/\x.op<=22
 args:x.op≠20->x.args=[]
 dst:0<=x.dst->x.dst<R
 tT:∀v∈oS x,kW R v
theorem CQ(h:y_ R x):eh x=oS x:=by
 have h1:=h.op;unfold eh oS shape
 by_cases e20:x.op=20
 ·simp[e20]
 ·rw[h.args e20]
  by_cases e21:x.op=21
  ·simp[e21]
  ·rw[ai e21,ai e20]
   by_cases e1:((x.op=1\/x.op=16)\/x.op=17)\/x.op=18
   ·rw[al e1,ai A,al h1];simp
   ·rw[ai e1]
    by_cases e2:2<=x.op/\x.op<=15
    ·rw[al e2,al (.inl e2)];simp
    ·rw[ai e2]
     by_cases e3:x.op=19
     ·rw[al e3,al (.inr e3)];simp
     ·have e4:x.op=22:=A
      simp[e4]
def ng(s:List Bool)(v:cI):List Bool:=if v.dq then s.set v.n.toNat true else s
def yV(s:List Bool)(x:iA):List Bool:=(oS x).foldl ng (if 0<=x.dst then s.set x.dst.toNat false else s)
theorem pX(s:List Bool)(v:cI):(ng s v).length=s.length:=by unfold ng;split<;>simp
theorem BO(l:List cI):∀s:List Bool,(l.foldl ng s).length=s.length:=by
 induction l with
 |nil=>exact λ_=>rfl
 |cons v l ih=>exact λs=>by rw[jZ,ih,pX]
theorem xD(s:List Bool)(x:iA):(yV s x).length=s.length:=by unfold yV;rw[BO];split<;>simp
def has(s:List Bool)(r:Nat):Prop:=s[r]?=O true
theorem Co{s:List Bool}{v:cI}(hv:kW s.length v):has (ng s v) r↔(has s r\/(v.dq=true/\v.n=r)):=by
 unfold ng has
 by_cases h:v.dq=true
 ·have:=hv h
  rw[al h,fN]
  by_cases e:v.n.toNat=r
  ·rw[al e,al A]
   simp only[true_iff];exact .inr ⟨h,A⟩
  ·rw[ai e]
   exact⟨.inl,λh=>h.resolve_right λh=>e A⟩
 ·rw[ai h]
  exact⟨.inl,λh'=>h'.resolve_right λh'=>h h'.1⟩
theorem G1:∀(l:List cI) (s:List Bool),(∀v∈l,kW s.length v)->(has (l.foldl ng s) r↔(has s r\/iB l r=true))
 |[],s,_=>by simp[iB]
 |v::l,s,h=>by
  rw[jZ,G1 l (ng s v) (by rw[pX];exact λu hu=>h u (ey _ hu)),Co (h v bT)];simp only[iB,List.any_cons,rj,eU,dv,or_assoc]
theorem zq{s:List Bool}:has (s.set d false) r↔(has s r/\d≠r):=by
 unfold has;rw[fN]
 by_cases e:d=r
 ·subst e
  simp only[if_true,ne_eq,not_true_eq_false,and_false,iff_false]
  split<;>simp
 ·rw[ai e];simp[e]
theorem Up{s:List Bool}(hx:y_ s.length x):has (yV s x) r↔(iB (oS x) r=true\/(x.dst≠r/\has s r)):=by
 unfold yV;rw[G1 _ _ (by split<;>simpa using hx.tT)]
 by_cases h:0<=x.dst
 ·rw[al h,zq]
  constructor
  ·rintro(⟨h1,h2⟩|h1)
   ·exact .inr ⟨λe=>h2 A,h1⟩
   ·exact .inl h1
  ·rintro(h1|⟨h1,h2⟩)
   ·exact .inr h1
   ·exact .inl ⟨h2,λe=>h1 A⟩
 ·rw[ai h]
  constructor
  ·rintro(h1|h1)
   ·exact .inr ⟨A,h1⟩
   ·exact .inl h1
  ·rintro(h1|⟨_,h1⟩)
   ·exact .inr h1
   ·exact .inl h1
def be(bl:List aq)(t:Nat):List Nat:=(bj bl.length).filter λi=>decide ((t:Int)∈dY bl i)
def kO(bl:List aq)(t:Nat):List gD:=match bl[t]? with|some B=>B.bg|none=>[]
def lB:cI:=⟨false,0⟩
def tH(bl:List aq)(t b r:Nat):Bool:=(kO bl t).any λp=>iB [p.src[(be bl t).idxOf b]?.getD lB] r
structure aal(R np:Nat)(p:gD):Prop where
 dst:0<=p.dst/\p.dst<R
 len:p.src.length=np
 tT:∀v∈p.src,kW R v
structure XM(R:Nat)(bl:List aq)(b:Nat)(B:aq):Prop where
 bg:∀p∈B.bg,aal R (be bl b).length p
 list:∀x∈B.list,y_ R x
 on:kW R B.on
 to:B.to.Nodup
structure eW(R:Nat)(bl:List aq):Prop where
 iD:dK bl
 block:∀b B,bl[b]?=O B->XM R bl b B
inductive kB(bl:List aq)(r:Nat):Nat->Int->Prop
 |iN {b:Nat} {B:aq}:bl[b]?=O B->(∀p∈B.bg,p.dst≠r)->kB bl r b 0->kB bl r b (-1)
 |use {b i:Nat} {B:aq} {x:iA}:bl[b]?=O B->B.list[i]?=O x->iB (eh x) r=true->kB bl r b i
 |go {b i:Nat} {B:aq} {x:iA}:bl[b]?=O B->B.list[i]?=O x->x.dst≠r->kB bl r b (i+1:Nat)->kB bl r b i
 |on {b:Nat} {B:aq}:bl[b]?=O B->iB [B.on] r=true->kB bl r b B.list.length
 |take {b:Nat} {B:aq} {j:Int} {t:Nat}:bl[b]?=O B->(j=B.list.length\/j=B.list.length+1)->(t:Int)∈B.to->tH bl t b r=true->kB bl r b j
 |jump {b:Nat} {B:aq} {j:Int} {t:Nat}:bl[b]?=O B->(j=B.list.length\/j=B.list.length+1)->(t:Int)∈B.to->kB bl r t (-1)->kB bl r b j
def JE(bl:List aq)(kH:Nat->Nat->Prop)(b r:Nat):Prop:=∃t:Nat,(t:Int)∈dY bl b/\(tH bl t b r=true\/kH t r)
def OQ(l:List iA)(on:cI)(P:Nat->Prop)(r:Nat):Prop:=match l with
 |[]=>iB [on] r=true\/P r
 |x::l=>iB (eh x) r=true\/(x.dst≠r/\OQ l on P r)
def Head(bl:List aq)(kH:Nat->Nat->Prop)(b r:Nat):Prop:=∃B,bl[b]?=O B/\(∀p∈B.bg,p.dst≠r)/\OQ B.list B.on (JE bl kH b) r
theorem JE.mono(h:∀t r,kH t r->vI t r)(k:JE bl kH b r):JE bl vI b r:=by
 obtain⟨t,h1,h2⟩:=k;exact⟨t,h1,h2.imp id (h t r)⟩
theorem OQ.mono{Q:Nat->Prop}(h:∀r,P r->Q r):∀{l:List iA} {r:Nat},OQ l on P r->OQ l on Q r
 |[],r,k=>k.imp id (h r)
 |_::_,_,k=>k.imp id λ⟨h1,h2⟩=>⟨h1,OQ.mono h h2⟩
theorem Head.mono(h:∀t r,kH t r->vI t r)(k:Head bl kH b r):Head bl vI b r:=by
 obtain⟨B,h1,h2,h3⟩:=k;exact⟨B,h1,h2,OQ.mono (λr=>JE.mono h) h3⟩
theorem JV(h:∀t r,kH t r->kB bl r t (-1))(hB:bl[b]?=O B)(hj:j=B.list.length\/j=B.list.length+1)(k:JE bl kH b r):kB bl r b j:=by
 obtain⟨t,h1,h2⟩:=k;rw[fI hB]at h1;rcases h2 with h2|h2
 ·exact .take hB hj h1 h2
 ·exact .jump hB hj h1 (h t r h2)
theorem L7(hB:bl[b]?=O B)(hP:P r->kB bl r b B.list.length):∀(l:List iA) (i:Nat),B.list.drop i=l->OQ l B.on P r->i<=B.list.length->kB bl r b i
 |[],i,hd,k,hle=>by
  have hi:i=B.list.length:=by
   have:=List.drop_eq_nil_iff.1 hd;omega
  subst hi;exact k.elim (λh=>.on hB h) hP
 |x::l,i,hd,k,hle=>by
  have ce:i<B.list.length:=by
   by_cases h:i<B.list.length
   ·exact h
   ·rw[List.drop_eq_nil_of_le A]at hd;cases hd
  have hx:B.list[i]?=O x:=by
   have:=bD (λl=>l[0]?) hd;simpa using this
  have hd':B.list.drop (i+1)=l:=by
   have:=bD (List.drop 1) hd;simpa[List.drop_drop]using this
  rcases k with k|⟨k1,k2⟩
  ·exact .use hB hx k
  ·exact .go hB hx k1 (L7 hB hP l (i+1) hd' k2 A)
theorem QU(h:∀t r,kH t r->kB bl r t (-1))(k:Head bl kH b r):kB bl r b (-1):=by
 obtain⟨B,hB,h2,h3⟩:=k;exact .iN hB h2 (L7 hB (λhP=>JV h hB (.inl rfl) hP) B.list 0 rfl h3 (aN _))
theorem Da(h:∀b,Head bl kH b r->kH b r)(k:kB bl r b j):
  ∀B,bl[b]?=O B->(j=-1->kH b r)/\(∀i:Nat,j=i->i<=B.list.length->OQ (B.list.drop i) B.on (JE bl kH b) r)/\(j=B.list.length+1->JE bl kH b r):=by
 induction k with
 |@iN b B hB hp _ ih=>
  intro B' qq;rw[hB]at qq;cases qq;have h1:=(ih B hB).2.1 0 rfl (aN _);exact⟨λ_=>h b ⟨B,hB,hp,h1⟩,λi hi=>A,λhj=>A⟩
 |@use b i B x hB hx hn=>
  intro B' qq;rw[hB]at qq;cases qq;have ce:=(aJ.1 hx).1;refine⟨λe=>A,λi' zt _=>?_,λhj=>A⟩;have:i'=i:=A;subst this;rw[jb ce,show B.list[i']=x from(aJ.1 hx).2];exact .inl hn
 |@go b i B x hB hx hd _ ih=>
  intro B' qq;rw[hB]at qq;cases qq;have ce:=(aJ.1 hx).1;refine⟨λe=>A,λi' zt _=>?_,λhj=>A⟩;have:i'=i:=A;subst this;rw[jb ce,show B.list[i']=x from(aJ.1 hx).2];exact .inr ⟨hd,(ih B hB).2.1 (i'+1) rfl A⟩
 |@on b B hB hn=>
  intro B' qq;rw[hB]at qq;cases qq;refine⟨λe=>A,λi' zt _=>?_,λhj=>A⟩;have:i'=B.list.length:=A;subst this;rw[gY];exact .inl hn
 |@take b B j t hB hj ht hk=>
  intro B' qq;rw[hB]at qq;cases qq;have hb:JE bl kH b r:=⟨t,by rw[fI hB];exact ht,.inl hk⟩;refine⟨λe=>A,λi' zt hle=>?_,λ_=>hb⟩;have:i'=B.list.length:=A;subst this;rw[gY];exact .inr hb
 |@jump b B j t hB hj ht _ ih=>
  intro B' qq;rw[hB]at qq;cases qq;have hb:JE bl kH b r:=by
   refine⟨t,by rw[fI hB];exact ht,.inr ?_⟩;cases hT:bl[t]? with
   |some T=>exact(ih T hT).1 rfl
   |none=>
    rename_i hl;cases hl with
    |iN GZ=>rw[hT]at GZ;cases GZ
    |take GZ=>rw[hT]at GZ;cases GZ
    |jump GZ=>rw[hT]at GZ;cases GZ
  refine⟨λe=>A,λi' zt hle=>?_,λ_=>hb⟩;have:i'=B.list.length:=A;subst this;rw[gY];exact .inr hb
theorem CY(i t:Nat):∀(l:List Int) (rows:List (List Int)),(∀z∈l,0<=z)->(l.foldl (rS i) rows)[t]?=rows[t]?.map (·++(l.filter λz:Int=>decide (z=(t:Int))).map λ_=>(i:Int))
 |[],rows,_=>by
  simp only[List.foldl_nil,List.filter_nil,dm,cj];cases rows[t]?<;>rfl
 |z::l,rows,h=>by
  rw[jZ,CY i t l _ λy hy=>h y (ey _ hy)];have hz:=h z bT;unfold rS;rw[rU]
  by_cases e:z.toNat=t
  ·have e2:z=t:=A
   rw[e];cases rows[t]? with
   |none=>simp
   |some r=>simp[e2]
  ·have e2:¬z=t:=A
   cases hr:rows[t]? with
   |none=>simp
   |some r=>simp[e,e2]
theorem filter_one{l:List Int}(hn:l.Nodup)(t:Int):l.filter (λz:Int=>decide (z=t))=if t∈l then[t]else[]:=by
 induction l with
 |nil=>simp
 |cons z l ih=>
  rw[rV]at hn;have:=ih hn.2
  by_cases e:z=t
  ·subst e
   rw[List.filter_cons_of_pos bT,this,ai hn.1,al bT]
  ·rw[List.filter_cons_of_neg (aD e),this]
   by_cases h:t∈l
   ·rw[al h,al (ey _ h)]
   ·rw[ai h,ai (by simp only[bX,not_or];exact⟨λh=>e h.symm,h⟩)]
theorem CZ(dV:dK bl)(lG:∀(b:Nat) (B:aq),bl[b]?=O B->B.to.Nodup)(ht:t<bl.length):∀i,i<=bl.length->(lE bl i)[t]?=O (((bj i).filter λi=>decide ((t:Int)∈dY bl i)).map λx:Nat=>(x:Int))
 |0,_=>by simp[lE,ht]
 |i+1,hi=>by
  obtain⟨B,hB⟩:=bE bl i A;simp only[lE,hB];rw[CY i t _ _ λz hz=>((dV B (aA hB)).2 z hz).1,CZ dV lG ht i A,filter_one (lG i B hB),iV,mw,bz];simp only[b_,cF];congr 1
  by_cases h:(t:Int)∈B.to
  ·rw[al h];simp[fI hB,h]
  ·rw[ai h];simp[fI hB,h]
theorem kf(dV:dK bl)(lG:∀(b:Nat) (B:aq),bl[b]?=O B->B.to.Nodup)(ht:t<bl.length):(ci bl)[t]?=O ((be bl t).map λx:Nat=>(x:Int)):=CZ dV lG ht bl.length (cz _)
theorem pj{v:cI}(h:fw R v=0):kW R v:=by
 intro hr;unfold fw within at h;rw[hr]at h
 by_cases h1:0<=v.n
 ·by_cases h2:v.n<=(R:Int)-1
  ·exact⟨h1,A⟩
  ·simp[h2]at h
 ·simp[h1]at h
theorem GR{n:Int}(h:lM R n=0):0<=n/\n<R:=by
 unfold lM within at h
 by_cases h1:0<=n
 ·by_cases h2:n<=(R:Int)-1
  ·exact⟨h1,A⟩
  ·simp[h2]at h
 ·simp[h1]at h
theorem pD{f:α->Int}{l:List α}(h:(fH (lC l f) l.length).1=0):∀x∈l,f x=0:=λx hx=>by
 obtain⟨j,hj⟩:=bR hx;have:=kD h j (aJ.1 hj).1;simpa[lC,hj]using this
theorem CB(h:fA fs R x=0):y_ R x:=by
 unfold fA at h
 split at h
 ·cases h
 rename_i h1
 split at h
 ·cases h
 rename_i h2
 split at h
 ·rename_i h3
  simp only[eU,gy,fg]at h3;exact absurd h h3.2
 rename_i h3
 split at h
 ·rename_i h4;exact absurd h h4
 rename_i h4
 split at h
 ·rename_i h5;exact absurd h h5
 rename_i h5;have G_:1<=x.op/\x.op<=22:=by simpa[within]using h1
 simp only[tG,rj,eU,gy,fg,dv,not_or,not_and,h_,Bool.not_eq_false]at h2;simp only[ne_eq,h_]at h4 h5;have Ix:x.op≠20->x.args=[]:=λe=>by
  have:=(h2.2 e).2;exact nr A
 refine⟨G_,Ix,λhd=>?_,λv hv=>?_⟩
 ·by_cases hs:(shape x.op).1=true
  ·simp only[eU,gy,fg,hs,true_and,not_and,h_,iW]at h3
   have:=h3 (by
    by_cases e:x.op=20
    ·right;omega
    ·left;exact e)
   exact(GR this).2
  ·have:=h2.1.1.1 (aD hs)
   omega
 ·unfold oS at hv
  rcases bO.1 hv with hv|hv
  ·split at hv
   ·simp only[bQ]at hv;subst hv;exact pj h4
   ·cases hv
  ·rcases bO.1 hv with hv|hv
   ·split at hv
    ·simp only[bQ]at hv;subst hv;exact pj h5
    ·cases hv
   ·unfold jA at h
    by_cases e:x.op=20
    ·rw[ai (aD e)]at h
     split at h
     ·cases h
     ·split at h
      ·cases h
      ·exact pj (pD h v hv)
    ·rw[Ix e]at hv;cases hv
theorem GS{b:aq}(h:mr n R b=0):kW R b.on/\b.to.Nodup:=by
 unfold mr yN at h
 split at h
 ·cases h
 rename_i h1
 split at h
 ·cases h
 rename_i h2
 split at h
 ·cases h
 split at h
 ·cases h
 rename_i h4;refine⟨pj h,?_⟩;simp only[within,gy,iW,fg,not_or,h_]at h1;simp only[ne_eq,h_]at h2;simp only[rj,eU,dv,not_or,not_and]at h4;have h5:=h4.1;generalize b.to=l at h2 h5
 match l,h2,h5 with
 |[],_,_=>simp
 |[x],_,_=>simp
 |[x,y],h2,h5=>
  have:=h5 (by simp at h2;omega);simp at this;simp[this]
 |x::y::z::l,h2,_=>simp at h2;omega
theorem Ew{f:bZ}(hR:f.bm=R)(h:jz fs f=0):eW R f.blocks:=by
 have hg:=H7 h;unfold jz at h
 split at h
 ·rename_i h1;exact absurd h h1
 rename_i h1;have IE:=pD (by simpa using h1:(fH (lC f.blocks (mr f.blocks.length f.bm)) f.blocks.length).1=0);rw[hR]at IE;have lG:∀(b:Nat) (B:aq),f.blocks[b]?=O B->B.to.Nodup:=λb B hB=>(GS (IE B (aA hB))).2;refine⟨hg,λb B hB=>?_⟩;have hb:=kD h b (aJ.1 hB).1;simp only[lq,hB]at hb
 split at hb
 ·rename_i h2;exact absurd hb h2
 rename_i h2;have Gh:=pD (by simpa using h2:(fH (lC B.bg (oO f.bm f.blocks b)) B.bg.length).1=0);have Cs:=pD hb;rw[hR]at Gh Cs;refine⟨λp hp=>?_,λx hx=>CB (Cs x hx),(GS (IE B (aA hB))).1,lG b B hB⟩;have wT:=Gh p hp;unfold oO BC at wT
 split at wT
 ·cases wT
 split at wT
 ·rename_i h3;exact absurd wT h3
 rename_i h3
 split at wT
 ·cases wT
 rename_i h4;rw[kf hg lG (aJ.1 hB).1]at h4;simp only[gw,aG,ne_eq,h_]at h4;exact⟨GR (aD h3),A,λv hv=>pj (pD wT v hv)⟩
theorem qA(h:(gL u).1=0)(hX:u.funcs[k]?=O X):0<=X.params/\X.params<=X.bm/\X.bm<=100:=by
 unfold gL at h
 split at h
 ·cases h
 ·split at h
  ·rename_i h2;exact absurd h h2
  ·split at h
   ·rename_i h2;exact absurd h h2
   ·rename_i h3
    have hz:=kD (aD h3);have:=hz k (aJ.1 hX).1;simp only[mR,lC,hX,nD]at this
    split at this
    ·cases this
    split at this
    ·cases this
    split at this
    ·cases this
    rename_i h4;simp only[within,rj,gy,iW,fg,not_or,h_]at h4;omega
theorem sU(h:(gL u).1=0)(hX:u.funcs[k]?=O X):∃R:Nat,X.bm=R/\R<=100/\eW R X.blocks:=by
 have h1:=qA h hX;refine⟨X.bm.toNat,A,A,Ew A (vQ h X (aA hX))⟩
theorem Pa{s:List Bool}(hs:s.length=R)(h0:∀r,has s r↔OQ [] on P r):∀l:List iA,(∀x∈l,y_ R x)->(l.reverse.foldl yV s).length=R/\∀r,has (l.reverse.foldl yV s) r↔OQ l on P r
 |[],_=>⟨hs,h0⟩
 |x::l,h=>by
  have ih:=Pa hs h0 l λy hy=>h y (ey _ hy);have hx:=h x bT;rw[List.reverse_cons,qT];simp only[jZ,List.foldl_nil];refine⟨by rw[xD];exact ih.1,λr=>?_⟩;rw[Up (by rw[ih.1];exact hx),ih.2 r];simp only[OQ];rw[CQ hx]
theorem Kx:∀(l:List gD) (s:List Bool),(∀p∈l,0<=p.dst)->(has (l.foldl (λs p=>s.set p.dst.toNat false) s) r↔(has s r/\∀p∈l,p.dst≠r))
 |[],s,_=>by simp
 |p::l,s,h=>by
  have hp:=h p bT;rw[jZ,Kx l _ λq hq=>h q (ey _ hq),zq];simp only[bX,forall_eq_or_imp,and_assoc];constructor
  ·rintro⟨h1,h2,h3⟩;exact⟨h1,λe=>h2 A,h3⟩
  ·rintro⟨h1,h2,h3⟩;exact⟨h1,λe=>h2 A,h3⟩
def UB(B:aq)(s:List Bool):List Bool:=B.bg.foldl (λs p=>s.set p.dst.toNat false) (B.list.reverse.foldl yV (ng s B.on))
theorem QN(hf:eW R bl)(hB:bl[b]?=O B){s:List Bool}(hs:s.length=R)(h:∀r,has s r↔JE bl kH b r)(r:Nat):has (UB B s) r↔Head bl kH b r:=by
 have ho:=hf.block b B hB;unfold UB;have h1:∀r,has (ng s B.on) r↔OQ [] B.on (JE bl kH b) r:=λr=>by
  rw[Co (by rw[hs];exact ho.on),h r];simp only[OQ,iB,List.any_cons,List.any_nil,Bool.or_false,eU,dv];exact or_comm
 have h2:=Pa (by rw[pX];exact hs) h1 B.list ho.list;rw[Kx _ _ λp hp=>(ho.bg p hp).dst.1,h2.2 r];constructor
 ·rintro⟨h3,h4⟩;exact⟨B,hB,h4,h3⟩
 ·rintro⟨B',qq,h3,h4⟩
  rw[hB]at qq;cases qq;exact⟨h4,h3⟩
section
variable {P:Program} {N:Nat} {ds:List Deferred} {S:Nat->Prop} {w0:ae} {L:List (Nat×K)} {H:List cq} {ops:Array Oper} {rest:List Oper} {Q:Exit->Act->ae->Prop} {p:Act->ae->Prop}
theorem tB{a:Act}(hF:Fr N ds L a)(h:cU N ds db w L [] p):p a w:=h a w ⟨hF,Wd.nil db w⟩
theorem Iq{l:Nat}{args:List Operand}{vs:List K}{tJ:Array Nat}{pos:String}{aft:Array Go.Edge}{x:Operand}(R:ae->K->ae->Prop)[hf:Ev L x (.func (.yield l) #[] #[])][hx:B8 L args vs](hd:ev d N L=true)
  (hc:∀w,Wd S w0 H w->YieldAt (FW U) m P l vs.toArray w λe w'=>∃v,e=.returned v/\R w v w')
  (k:∀v w w',Wd S w0 H w->R w v w'->∀a,Fr N ds ((d,v)::L) a->wpListIn (FW U) 0 P ops Q rest a w'):cU N ds S w0 L H (wpListIn (FW U) 0 P ops Q (⟨O d,.call {callee:=.value x,args:=args.toArray,argTypes:=tJ},ty,pos,aft,U⟩::rest)):=by
 intro a w hS;obtain⟨fn,tmps,assign,body,hy,hR⟩:=hc w hS.wd;refine wpListIn_plain rfl λjB hK=>?_;refine⟨λ_ _=>trivial,?_⟩;rw[xS _ _ _ (λ_ h=>by cases h)];have hr:(execOp a.eval ⟨O d,.call {callee:=.value x,args:=args.toArray,argTypes:=tJ},ty,pos,aft,U⟩).run P w=.ok (.round l fn tmps assign body) w:=by
  simp[execOp,resolve,hf.eq _ _ _ hS.fr,Deferred.ofValue,invoke,hx.eq _ _ _ hS.fr,hy]
 rw[hr];refine⟨λh=>(by cases h),?_⟩;have hR0:RoundIn (FW U) (0-1) P l fn tmps assign body w λe w'=>∃v,e=.returned v/\R w v w':=⟨hR.1,λc cs _=>hR.2 c cs (λd hd=>by cases hd)⟩;refine hR0.mono λe w' ⟨v,he,hv⟩=>?_;subst he;exact hK _ _ (k v w w' hS.wd hv _ (hS.fr.fv hd v))
theorem O8{ro:Option Nat}{l l1 l2:List Oper}(d:Nat)(dw:Act->ae->Prop)[hs:AD l d l1 l2](h1:cU N ds S w0 L H (wpListIn (FW ro) 0 P ops (Exit.then dw Q) l1))(h2:∀a w,dw a w->wpListIn (FW ro) 0 P ops Q l2 a w):cU N ds S w0 L H (wpListIn (FW ro) 0 P ops Q l):=λa w hS=>by
 obtain⟨n,e1,e2⟩:=hs.eq;exact CS (dw:=dw) n (λa w h=>by rw[e2];exact h2 a w h) (by rw[e1];exact h1 a w hS)
end
theorem ct.mono(h:∀p v,w.cell? p=O v->w'.cell? p=O v){o:Nat}{cs:List K}(hc:ct w b o cs):ct w' b o cs:=λj v hj=>h _ _ (hc j v hj)
theorem aY.mono{dL:ae->α->List K->Prop}(hV:∀x cs,dL w x cs->dL w' x cs)(h:∀p v,w.cell? p=O v->w'.cell? p=O v){l:List α}(hs:aY w v s l dL):aY w' v s l dL:=by
 obtain⟨a,n,c,b,o,h1,h2,h3,hz,h4,h5,h6⟩:=hs;refine⟨a,n,c,b,o,h1,h2,h3,hz,h4,h5,λi x hx=>?_⟩;obtain⟨cs,hc,hv⟩:=h6 i x hx;exact⟨cs,hc.mono h,hV x cs hv⟩
theorem zZ{β:Type}{B:Nat}{vI:β->ae->Prop}(h:AbidesFrom B vI){s:β}(hc:nX db w w')(hs:vI s w):vI s w':=
 h s w w' U hs ⟨hc.os,hc.tape,hc.output,hc.size,λk hk _=>hc.block k hk λh=>h⟩ (λr e=>by cases e)
attribute [local irreducible] wpListIn Code.wpIn Exit.then Exit.inBlock bodyPost wpQuiet wpAnyIn
set_option maxHeartbeats 4000000
theorem ads(x:iA)(xv:K)(hxv:∃a n c,xv=I a n c)(w0:ae):
  iL Y 138 [aC #[J Z x.op,J Z x.dst,ag x.a.dq,J Z x.a.n,ag x.b.dq,J Z x.b.n,J Z x.fn,xv]] w0 λu w'=>∃p:Nat,u=.func (.func 164) #[] #[aO (O ⟨p,0,U⟩)]/\Wd db w0 [aM p [J Z x.op,J Z x.dst,ag x.a.dq,J Z x.a.n,ag x.b.dq,J Z x.b.n,J Z x.fn,xv] 56] w'/\True:=by
 obtain⟨a,n,c,rfl⟩:=hxv;refine aR func138 rfl ntmps138 rfl (Wd.nil db w0) ?_
 repeat(first|refine aU ?_|refine dd λ_ _=>?_)
 exact dh rfl λw hw=>⟨_,rfl,hw,trivial⟩
theorem Z9(enc:α->cI)(x:iA)(va:ax)(vn vc:Nat)(xs:List α)(mT:xs.map enc=oS x)(hlen:x.args.length<=100000)(l bp:Nat)(own:Nat->Prop)(wz:ae)(pt:aY wz (I va vn vc) 2 x.args mp)(NA:∀p v,wz.cell? p=O v->¬own p.block)(hbp:¬own bp)(dO:ae)(ae7:∀b,dO.heap.size<=b->¬own b)(vI Jx:List α->ae->Prop)(B:Nat)(hJ:AbidesFrom B vI)(hJx:AbidesFrom B Jx)
  (hY:∀pre y dO,vI pre dO->pre.length<xs.length->YieldAt (FW U) 3 Y l #[aC #[ag (enc y).dq,J Z (enc y).n]] dO λe W'=>
   (e=.returned (ag true)/\vI (pre++[y]) W'/\nL own dO W')\/(e=.returned (ag false)/\Jx (pre++[y]) W'))
  (hz:∀p v,wz.cell? p=O v->dO.cell? p=O v) (hc:ct dO bp 0 [J Z x.op,J Z x.dst,ag x.a.dq,J Z x.a.n,ag x.b.dq,J Z x.b.n,J Z x.fn,I va vn vc]) (h0:vI [] dO):
  iL Y 164 [.func (.yield l) #[] #[],aO (O ⟨bp,0,U⟩)] dO λ_ W'=>(∃ys,ys=xs/\vI ys W')\/(∃pre,pre<+:xs/\Jx pre W'):=by
 have ajE:bu dO bp 0 _:=⟨hc⟩;refine aR func164 rfl ntmps164 rfl (Wd.nil db dO) ?_;refine bA ?_;refine bY rfl (λw hw=>LU x.op w) ?_
 repeat(first|refine aV ?_|refine dd λ_ _=>?_)
 rename_i p3 hp3;have aha:∀j v,(oS x)[j]?=O v->∃y,xs[j]?=O y/\enc y=v:=λj v hj=>by
  rw[<-mT,aW]at hj;obtain⟨y,hy,e⟩:=ff.1 hj;exact⟨y,hy,e⟩
 have pw:xs.length=(oS x).length:=by have:=bD List.length mT;rwa[aG]at this
 have xC:∀j y,xs[j]?=O y->xs.take j++[y]=xs.take (j+1):=λj y hy=>by rw[bV,hy];rfl
 have step:∀j v,(oS x)[j]?=O v->∀w,vI (xs.take j) w->YieldAt (FW U) 3 Y l [aC #[ag v.dq,J Z v.n]].toArray w λe W'=>∃u,e=.returned u/\((u=ag true/\vI (xs.take (j+1)) W'/\nL own w W')\/(u=ag false/\Jx (xs.take (j+1)) W')):=λj v hj w hJw=>by
  obtain⟨y,hy,rfl⟩:=aha j v hj;have ce:=(aJ.1 hy).1;have:=hY (xs.take j) y w hJw (by rw[dA];omega);rw[xC j y hy]at this;exact this.mono λe W' h=>h.elim (λ⟨h1,h2,h3⟩=>⟨_,h1,.inl ⟨rfl,h2,h3⟩⟩) λ⟨h1,h2⟩=>⟨_,h1,.inr ⟨rfl,h2⟩⟩
 have VB:∀w,(∀p v,wz.cell? p=O v->w.cell? p=O v)->∀w',nL own w w'->∀p v,wz.cell? p=O v->w'.cell? p=O v:=λw h w' hk p v hp=>hk.cell (NA p v hp) (h p v hp);have VA:∀b cs,¬own b->∀w,ct w b 0 cs->∀w',nL own w w'->ct w' b 0 cs:=λb cs hb w h w' hk j v hj=>hk.cell hb (h j v hj);unfold oS at pw step;generalize shape x.op=sh at pw step|-
 obtain⟨s1,sA,sB⟩:=sh;simp only at pw step|-
 have hn3:¬own p3:=ae7 p3 hp3;refine O8 18 (λa w=>(Fr 41 [] [(18,ag false),M 3 p3,(0,.func (.yield l) #[] #[]),M 1 bp] a/\vI (xs.take (if sA then 1 else 0)) w/\(∀p v,wz.cell? p=O v->w.cell? p=O v)/\ct w bp 0 [J Z x.op,J Z x.dst,ag x.a.dq,J Z x.a.n,ag x.b.dq,J Z x.b.n,J Z x.fn,I va vn vc]/\ct w p3 0 [ag s1,ag sA,ag sB])\/(Fr 41 [] [(18,ag true),(0,.func (.yield l) #[] #[]),M 1 bp] a/\∃pre,pre<+:xs/\Jx pre w)) ?_ ?_
 ·cases sA
  ·refine cT ?_
   exact λa w hS=>.inl ⟨hS.fr.to V,zZ hJ hS.wd.c_ (aD h0),λp v h=>jv hS.wd.c_ (hz p v h),hc.cB hS.wd.c_,hS.wd.kr p3⟩
  ·refine aV ?_
   refine Iq (m:=3) (λw v w'=>(v=ag true/\vI (xs.take 1) w'/\nL own w w')\/(v=ag false/\Jx (xs.take 1) w')) rfl (λw hw=>step 0 x.a rfl w (zZ hJ hw.c_ (aD h0))) λv w w' hw hR a hF=>?_;rcases hR with⟨rfl,Ni,hk⟩|⟨rfl,Ni⟩
   ·have oX:=VA bp _ hbp w (hc.cB hw.c_) w' hk
    have tM:=VA p3 _ hn3 w (hw.kr p3) w' hk;have hz':=VB w (λp v h=>jv hw.c_ (hz p v h)) w' hk;refine tB hF ?_;refine aV ?_;exact λa w hS=>.inl ⟨hS.fr.to V,zZ hJ hS.wd.c_ Ni,λp v h=>jv hS.wd.c_ (hz' p v h),oX.cB hS.wd.c_,tM.cB hS.wd.c_⟩
   ·refine tB hF ?_
    refine aV ?_;exact λa w hS=>.inr ⟨hS.fr.to V,_,List.take_prefix _ _,zZ hJx hS.wd.c_ Ni⟩
 intro a w hM;rcases hM with⟨hF,hJA,hzA,hbA,h3A⟩|⟨hF,pre,Dw,hJA⟩
 case inr=>
  refine tB hF ?_;refine cT ?_;exact Ng rfl λw' kE=>.inr ⟨pre,Dw,zZ hJx kE.c_ hJA⟩
 refine tB hF ?_;have hbi:bu w bp 0 _:=⟨hbA⟩;have h3i:bu w p3 0 _:=⟨h3A⟩;refine aV ?_;refine O8 28 (λa w=>(Fr 41 [] [(28,ag false),(0,.func (.yield l) #[] #[]),M 1 bp] a/\vI (xs.take ((if sA then 1 else 0)+(if sB then 1 else 0))) w/\(∀p v,wz.cell? p=O v->w.cell? p=O v)/\ct w bp 0 [J Z x.op,J Z x.dst,ag x.a.dq,J Z x.a.n,ag x.b.dq,J Z x.b.n,J Z x.fn,I va vn vc])\/(Fr 41 [] [(28,ag true),(0,.func (.yield l) #[] #[]),M 1 bp] a/\∃pre,pre<+:xs/\Jx pre w)) ?_ ?_
 ·cases sB
  ·refine cT ?_
   exact λa w2 hS=>.inl ⟨hS.fr.to V,zZ hJ hS.wd.c_ (aD hJA),λp v h=>jv hS.wd.c_ (hzA p v h),hbA.cB hS.wd.c_⟩
  ·refine aV ?_
   refine Iq (m:=3) (λw v w'=>(v=ag true/\vI (xs.take ((if sA then 1 else 0)+1)) w'/\nL own w w')\/(v=ag false/\Jx (xs.take ((if sA then 1 else 0)+1)) w')) rfl (λw2 hw=>step (if sA then 1 else 0) x.b (by cases sA<;>rfl) w2 (zZ hJ hw.c_ hJA)) λv w2 w' hw hR a hF=>?_;rcases hR with⟨rfl,Ni,hk⟩|⟨rfl,Ni⟩
   ·have oX:=VA bp _ hbp w2 (hbA.cB hw.c_) w' hk
    have hz':=VB w2 (λp v h=>jv hw.c_ (hzA p v h)) w' hk;refine tB hF ?_;refine aV ?_;exact λa w hS=>.inl ⟨hS.fr.to V,zZ hJ hS.wd.c_ Ni,λp v h=>jv hS.wd.c_ (hz' p v h),oX.cB hS.wd.c_⟩
   ·refine tB hF ?_
    refine aV ?_;exact λa w hS=>.inr ⟨hS.fr.to V,_,List.take_prefix _ _,zZ hJx hS.wd.c_ Ni⟩
 intro a w hM;rcases hM with⟨hF,hJB,hzB,Sy⟩|⟨hF,pre,Dw,hJB⟩
 case inr=>
  refine tB hF ?_;refine aV ?_;exact Ng rfl λw' kE=>.inr ⟨pre,Dw,zZ hJx kE.c_ hJB⟩
 refine tB hF ?_;have ajD:bu w bp 0 _:=⟨Sy⟩;refine aU ?_;generalize Nq:(if sA=true then 1 else 0)+(if sB=true then 1 else 0)=c0 at hJB;have hn:vn=x.args.length:=by
  obtain⟨_,_,_,_,_,e,h,_⟩:=pt;simp only[Value.slice.injEq]at e;rw[e.2.1];exact h
 have mC:∀i v,x.args[i]?=O v->((if sA=true then[x.a]else[])++((if sB=true then[x.b]else[])++x.args))[c0+i]?=O v:=λi v hi=>by
  subst Nq;cases sA<;>cases sB<;>simp[hi,Nat.add_comm]
 have aiJ:xs.length=c0+x.args.length:=by
  subst Nq;rw[pw];cases sA<;>cases sB<;>simp<;>omega
 intro a w1 hS1;have hJ1:=zZ hJ hS1.wd.c_ hJB;have Gn:=λp v h=>jv hS1.wd.c_ (hzB p v h);have hF1:=hS1.fr;refine MP (λ(i:Nat) a w=>i<=vn/\Fr 41 [] [(32,J Z (i:Int)),(30,I va vn vc),(31,J Z vn),(0,.func (.yield l) #[] #[]),M 1 bp] a/\vI (xs.take (c0+i)) w/\∀p v,wz.cell? p=O v->w.cell? p=O v) (λi=>vn-i) 0 ⟨aN _,hF1.to V,aD hJ1,Gn⟩ ?_;rintro i a w ⟨hi,hF,hJi,hzi⟩;refine tB hF ?_;refine bA ?_;apply aL<;>intro h1
 ·have ce:i<vn:=aD h1
  obtain⟨v,hv⟩:=bE x.args i A;have Vb:aY w (I va vn vc) 2 x.args mp:=aY.mono (w:=wz) (w':=w) (dL:=mp) (λ_ _ h=>h) hzi pt;obtain⟨va',vn',vc',vb,vo,e,ET,_,_,_,qt,DB⟩:=Vb;simp only[Value.slice.injEq]at e;obtain⟨rfl,rfl,rfl⟩:=e;have mJ:cl va vb vo:=⟨qt (aZ hv)⟩;have kK:cg i vn:=⟨ce⟩;obtain⟨cs,gW,rfl,_⟩:=DB i v hv;have nO:bu w vb (vo+i*2) _:=⟨gW⟩
  repeat(first|refine aV ?_|refine dd λ_ _=>?_)
  refine Iq (m:=3) (λw v w'=>(v=ag true/\vI (xs.take (c0+i+1)) w'/\nL own w w')\/(v=ag false/\Jx (xs.take (c0+i+1)) w')) rfl (λw2 hw=>step (c0+i) v (mC i v hv) w2 (zZ hJ hw.c_ hJi)) λv w2 w' hw hR a hF=>?_;rcases hR with⟨rfl,Ni,hk⟩|⟨rfl,Ni⟩
  ·have hz':=VB w2 (λp v h=>jv hw.c_ (hzi p v h)) w' hk
   refine tB hF ?_;refine aU ?_;exact λa w3 hS=>⟨i+1,⟨ce,hS.fr.to V,zZ hJ hS.wd.c_ Ni,λp v h=>jv hS.wd.c_ (hz' p v h)⟩,A⟩
  ·refine tB hF ?_
   refine aV ?_;exact Ng rfl λw3 Zd=>.inr ⟨_,List.take_prefix _ _,zZ hJx Zd.c_ Ni⟩
 ·have fX:i=vn:=by have:=h1;simp at this;omega
  refine aV ?_;refine Ck rfl λw3 Zd=>.inl ⟨xs,rfl,?_⟩;rw[jR A]at hJi;exact zZ hJ Zd.c_ hJi
end
section
set_option maxHeartbeats 8000000
attribute [local irreducible] wpListIn Code.wpIn Exit.then Exit.inBlock bodyPost wpQuiet wpAnyIn
def kQ(a:ax)(R c:Nat)(s:List Bool):cq:=G a R c 4 1 (s.map ag)
theorem OE(a:ax)(R c:Nat)(s:List Bool)(hs:s.length=R)(v:cI)(hv:kW R v)(w:ae)(hw:Wd (df [kQ a R c s]) w [kQ a R c s] w):
  iL Y 144 [I a R c,aC #[ag v.dq,J Z v.n]] w λu w'=>∃_:Unit,u=.tuple #[]/\Wd (df [kQ a R c s]) w [kQ a R c (ng s v)] w'/\True:=by
 refine aR func144 rfl ntmps144 rfl hw ?_;generalize df [kQ a R c s]=SS;unfold kQ
 repeat(first|refine bA ?_|refine dd λ_ _=>?_)
 unfold ng;unfold kW at hv;generalize v.dq=b at hv;cases b
 ·refine aU ?_
  exact Ck rfl λw' kE=>⟨(),rfl,kE.Gu [1] (by decide),trivial⟩
 ·obtain⟨k,hk⟩:∃k:Nat,v.n=k:=⟨v.n.toNat,by have:=hv rfl;omega⟩
  have hkR:k<R:=by have:=hv rfl;omega
  obtain⟨y,hy⟩:=bE s k A;refine fy 1 rfl A λvb vo qt=>?_;subst qt;have kK:cg k R:=⟨hkR⟩;have YM:uk s k y:=⟨hy⟩;have hni:oT v.n k:=⟨hk⟩;refine aV ?_;refine Ck rfl λw' kE=>⟨(),rfl,?_,trivial⟩;rw[al rfl,show v.n.toNat=k by omega];exact kE.Gu [1] (by decide)
theorem EW{x:Nat}:∀{l:List Nat} {i:Nat},l[i]?=O x->l.idxOf x<=i
 |[],i,h=>by simp at h
 |y::l,0,h=>by
  simp only[jN,cF]at h;subst h;simp
 |y::l,i+1,h=>by
  rw[List.idxOf_cons];cases(y==x)
  ·have:=EW (l:=l) (i:=i) (aD h)
   simpa using this
  ·simp
theorem ZL(v:K)(l:List Nat)(x:Nat)(w0:ae)(hx:x∈l)(hv:aY w0 v 1 (l.map λx:Nat=>(x:Int)) gI):gF Y 76 [v,J Z x] w0 (J Z (l.idxOf x:Nat)):=by
 obtain⟨a,n,c,b,o,rfl,hn,qg,A_,hc,ha,iw⟩:=hv;rw[aG]at hn;have iM:=ll hx;refine aR func76 rfl ntmps76 rfl (Wd.nil db w0) ?_;refine aU ?_;refine bH (λ(i:Nat)=>i<=l.idxOf x) (λi=>[(5,J Z i),(0,I a n c),(1,J Z x)]) (λ_=>[]) (λi=>n-i) 0 (aN _) (aP V bT) λi hi=>?_;refine bA ?_;apply aL<;>intro h1
 ·have ce:i<n:=aD h1
  obtain⟨t,ht⟩:=bE l i A;have wJ:(l.map λx:Nat=>(x:Int))[i]?=O (t:Int):=by rw[aW,ht];rfl
  have mJ:cl a b o:=⟨ha (aZ wJ)⟩;have kK:cg i n:=⟨ce⟩;obtain⟨cs,gW,rfl,_⟩:=iw i _ wJ;have nO:bu w0 b (o+i*1) _:=⟨gW⟩;refine aU ?_;apply aL<;>intro h2
  ·have h5:(t:Int)=x:=aD h2
   have htx:t=x:=A;subst htx;have:l.idxOf t=i:=by
    have h4:=EW ht;omega
   refine aV ?_;exact cv rfl (by rw[this])
  ·refine aU ?_
   refine a_ (i+1) ?_ A V bT;refine od hi λe=>?_;subst e;have h3:=nw iM;have h4:=(aJ.1 ht).2;rw[h3]at h4;simp[h4]at h2
 ·exact absurd h1 dr
theorem IN(v:K)(l:List Nat)(x:Nat)(w0:ae)(hx:x∈l)(hv:aY w0 v 1 (l.map λx:Nat=>(x:Int)) gI):gF Y 112 [v,J Z x] w0 (J Z (l.idxOf x:Nat)):=by
 obtain⟨a,n,c,b,o,rfl,hn,qg,A_,hc,ha,iw⟩:=hv;rw[aG]at hn;have iM:=ll hx;refine aR func112 rfl ntmps112 rfl (Wd.nil db w0) ?_;refine aU ?_;refine bH (λ(i:Nat)=>i<=l.idxOf x) (λi=>[(8,J Z i),(6,I a n c),(7,J Z n),(0,I a n c),(1,J Z x)]) (λ_=>[]) (λi=>n-i) 0 (aN _) (aP V bT) λi hi=>?_;refine bA ?_;apply aL<;>intro h1
 ·have ce:i<n:=aD h1
  obtain⟨t,ht⟩:=bE l i A;have wJ:(l.map λx:Nat=>(x:Int))[i]?=O (t:Int):=by rw[aW,ht];rfl
  have mJ:cl a b o:=⟨ha (aZ wJ)⟩;have kK:cg i n:=⟨ce⟩;obtain⟨cs,gW,rfl,_⟩:=iw i _ wJ;have nO:bu w0 b (o+i*1) _:=⟨gW⟩;refine aU ?_;apply aL<;>intro h2
  ·have h5:(x:Int)=t:=aD h2
   have htx:x=t:=A;subst htx;have:l.idxOf x=i:=by
    have h4:=EW ht;omega
   refine aV ?_;exact cv rfl (by rw[this])
  ·refine aU ?_
   refine a_ (i+1) ?_ A V bT;refine od hi λe=>?_;subst e;have h3:=nw iM;have h4:=(aJ.1 ht).2;rw[h3]at h4;simp[h4]at h2
 ·exact absurd h1 dr
theorem TP(a b:K)(l m:List Bool)(w0:ae)(ha:aY w0 a 1 l CT)(hb:aY w0 b 1 m CT):gF Y 147 [a,b] w0 (ag (decide (l=m))):=by
 obtain⟨aa,an,ac,ab,ao,rfl,No,Np,aee,hac,Kt,Iw⟩:=ha;obtain⟨ba,bn,bc,bb,bo,rfl,qe,agO,agN,yy,qd,zP⟩:=hb;refine aR func147 rfl ntmps147 rfl (Wd.nil db w0) ?_;refine bA ?_;apply aL<;>intro h1
 ·refine aV ?_
  refine cv rfl ?_;rw[gx];rintro rfl;simp at h1;omega
 have hlen:an=bn:=by simp at h1;omega
 refine aU ?_;refine bH (λ(i:Nat)=>i<=an/\∀j,j<i->l[j]?=m[j]?) (λi=>[(13,J Z i),(11,I aa an ac),(12,J Z an),(0,I aa an ac),(1,I ba bn bc)]) (λ_=>[]) (λi=>an-i) 0 ⟨aN _,by simp⟩ (aP V bT) λi ⟨hi,cX⟩=>?_;refine bA ?_;apply aL<;>intro h2
 ·have ce:i<an:=aD h2
  obtain⟨x,hx⟩:=eI No ce;obtain⟨y,hy⟩:=eI qe (show i<bn by omega);have mJ:cl aa ab ao:=⟨Kt (aZ hx)⟩;have oF:cl ba bb bo:=⟨qd (aZ hy)⟩;have kK:cg i an:=⟨ce⟩;have Dt:cg i bn:=⟨A⟩;obtain⟨cs,gW,rfl⟩:=Iw i x hx;obtain⟨Jq,nP,rfl⟩:=zP i y hy;have nO:bu w0 ab (ao+i*1) _:=⟨gW⟩;have QQ:bu w0 bb (bo+i*1) _:=⟨nP⟩;refine aU ?_;refine kX mixed bC ?_;refine kJ ?_;refine bA ?_;apply aL<;>intro h3
  ·refine aV ?_
   refine cv rfl ?_;rw[gx];rintro rfl;rw[hx]at hy;simp only[cF]at hy;simp[hy]at h3
  ·have Zk:x=y:=aD h3
   refine aU ?_;refine a_ (i+1) ⟨ce,λj hj=>?_⟩ A V bT
   by_cases A7:j=i
   ·subst A7;rw[hx,hy,Zk]
   ·exact cX j A
 ·have fX:i=an:=by have:=h2;simp at this;omega
  refine aV ?_;refine cv rfl ?_;rw[fQ];apply cY;intro j
  by_cases hj:j<an
  ·exact cX j A
  ·rw[cm A,cm A]
theorem TJ(a:ax)(R c:Nat)(l:List Bool)(hR:R<=1000)(w0:ae)(hl:aY w0 (I a R c) 1 l CT):
  iL Y 143 [I a R c] w0 λu w'=>∃x:ax×Nat,u=I x.1 R x.2/\Wd db w0 [kQ x.1 R x.2 l] w'/\True:=by
 refine aR func143 rfl ntmps143 rfl (Wd.nil db w0) ?_;refine bA ?_;cases a with
 |none=>
  have II:l=[]/\R=0:=by
   obtain⟨a',n,c',b,o,hv,hn,_,_,_,ha,_⟩:=hl;simp only[Value.slice.injEq]at hv;obtain⟨rfl,rfl,rfl⟩:=hv;have h0:l=[]:=it λh=>by cases ha h
   exact⟨h0,by rw[hn,h0];rfl⟩
  obtain⟨rfl,rfl⟩:=II;refine aV ?_;refine dJ 4 1 ?_;exact dh rfl λw hw=>⟨(U,0),rfl,hw,trivial⟩
 |some ad=>
  refine aU ?_;refine lN rfl λeb _=>?_;refine bA ?_;refine kZ rfl rfl l (λb=>[ag b]) (λ_ _ _ h=>h) (λ_=>rfl) (λ_ u hu=>by simp only[bQ]at hu;subst hu;rfl) (λw hw=>hl.cB NY hw.c_) A A λa' c'=>?_;rw[ol,aS,eC];refine aU ?_;exact dh rfl λw hw=>⟨(a',c'),rfl,hw,trivial⟩
end
section
def Fw(S:Nat->Prop)(n:Nat)(dO:ae)(H:List cq):Nat->Prop:=λb=>(S b\/n<=b)/\b<dO.heap.size/\¬df H b
theorem Wd.CR{w0:ae}{H:List cq}(h:Wd S w0 H dO):Wd S w0 (cq.rest (Fw S w0.heap.size dO H) dO::H) dO:=
 ⟨h.c_,λe he b hb=>by
  rcases bX.1 he with rfl|he
  ·exact⟨hb.1,hb.2.1⟩
  ·exact h.own e he b hb,λe he w' hs kE=>by
  rcases bX.1 he with rfl|he
  ·exact⟨hs,λb hb=>kE b hb⟩
  ·exact h.ok e he w' hs kE,jm.2 ⟨λf hf b hb Ar=>hb.2.2 ⟨f,hf,Ar⟩,h.apart⟩⟩
theorem Xi{wz:ae}{H1 cZ:List cq}(_hcl:∀p v,wz.cell? p=O v->¬S p.block)(hz:nX S wz w)(h:Wd S wz (cq.rest (Fw S wz.heap.size w H1) w::cZ) w'):Wd (df H1) w cZ w':=by
 obtain⟨hs,hr⟩:=h.get (k:=0) rfl;have AW:=jm.1 h.apart;refine⟨⟨h.c_.os.trans hz.os.symm,h.c_.tape.trans hz.tape.symm,h.c_.output.trans hz.output.symm,hs,λk hk hnS=>?_⟩,λe he b hb=>?_,λe he=>h.ok e (ey _ he),AW.2⟩
 ·by_cases ce:S k\/wz.heap.size<=k
  ·exact hr k ⟨ce,hk,hnS⟩
  ·have hk1:k<wz.heap.size:=it λh=>ce (.inr A)
   exact(h.c_.block k hk1 λh=>ce (.inl h)).trans (hz.block k hk1 λh=>ce (.inl h)).symm
 ·obtain⟨h1,h2⟩:=h.own e (ey _ he) b hb
  refine⟨?_,h2⟩
  by_cases ce:b<w.heap.size
  ·left
   exact it λhn=>AW.1 e he b ⟨h1,ce,hn⟩ hb
  ·right;omega
section
variable {P:Program} {ro:Option Nat} {N:Nat} {ds:List Deferred} {S:Nat->Prop} {w0:ae} {L L':List (Nat×K)} {H H':List cq} {a:Act} {w:ae}
 {ops:Array Oper} {rest:List Oper} {Q:Exit->Act->ae->Prop} {p:Act->ae->Prop} {x y:Operand}
theorem QH[hg:Ev L g (.func (.func gf) #[] lb.toArray)][eg:bf P gf](F:List cq)(Hc:σ->List cq)(s0:σ)(kV:∀s,Mz (Hc s))(hfp:∀s s' b,df (Hc s) b->df (Hc s') b)(xs:List α){encs:α->Array K}
  (Xs:aM Bs bcs bt∈F)
  (Va:∀w,Wd S w0 H w->SeqStopsK (FW U) 4 P gf lb.toArray encs (nL λb=>df (Hc s0++F) b/\b≠Bs) (λys=>ys=xs) (λpre=>pre<+:xs) xs.length w)
  (kH:List α->σ->Prop) (h0:kH [] s0) (hH:(Hc s0++F).Sublist H) (zT:∀x,(encs x).size=ps.size) (bx:α->List K) (T:Nat)
  (L0:α->List (Nat×K)) (La:α->Nat->List (Nat×K)) (nE:∀x a,Fr N ds L a->Fr N [] (L0 x) {tmps:=(ps.zip (encs x)).foldl (λt (p,v)=>t.setIfInBounds p v) a.tmps,defers:=[]})
  (AX:∀(l:Nat) (x:α) (s:σ) (R:cq),cU N [] S w0 (L0 x) (R::(Hc s++F)) (assign.wpIn (FW (O l)) 0 P (Exit.then (λa w=>∃q,St N [] S w0 (La x q) (aM q (bx x) T::R::(Hc s++F)) a w) (λ_ _ _=>False))))
  (xw:∀(l:Nat) (pre:List α) (x:α) (s:σ) (q:Nat) (R:cq),kH pre s->pre.length<xs.length->cU N [] S w0 (La x q) (R::aM q (bx x) T::(Hc s++F)) (body.wpIn (FW (O l)) 0 P (Exit.then (Rnd S w0 (kH (pre++[x])) R Hc (aM q (bx x) T::F)) (λ_ _ _=>False))))
  (k:∀eE s,w0.heap.size<=eE->kH xs s->cU N (⟨.collected eE,#[]⟩::ds) S w0 L (cq.mark eE::(Hc s++F)) (Q .normal)):cU N ds S w0 L H (eY (FW U) 0 P (Code.rangeFunc g ps assign body) Q):=λa w hS=>by
 have mK:=hS.wd.size;have hF:∀e∈F,∀b,e.fp b->b<w.heap.size:=λe he b hb=>(hS.wd.own e (hH.subset (en _ he)) b hb).2;have lT:∀s dO,Wd S w0 (Hc s++F) dO->∀r o,dO.heap[r]?=O o->o.isCells=false->w.heap.size<=r->¬df (Hc s++F) r:=by
  rintro s dO hW r o ho hn hle ⟨e,he,hb⟩;rcases bO.1 he with he|he
  ·obtain⟨j,hj⟩:=bR (cM F he)
   obtain⟨cs,t,z,hc⟩:=((kV s).all e he).ok dO (hW.get hj) r hb;rw[hc]at ho;cases ho;cases hn
  ·have:=hF e he r hb;omega
 have KA:∀s dO,Wd S w0 (Hc s++F) dO->dO.heap[Bs]?=O (.cells bcs.toArray bt (0,0)):=λs dO hW=>by
  obtain⟨j,hj⟩:=bR (en (Hc s) Xs);exact hW.get hj
 have Nt:∀s s' b,df (Hc s++F) b->df (Hc s'++F) b:=by
  rintro s s' b ⟨e,he,hb⟩;rcases bO.1 he with he|he
  ·obtain⟨e',he',oX⟩:=hfp s s' b ⟨e,he,hb⟩
   exact⟨e',cM _ he',oX⟩
  ·exact⟨e,en _ he,hb⟩
 have KO:∀s s' (H0:List cq) dO W',Wd S w0 (Hc s++F) dO->(∀r o,dO.heap[r]?=O o->o.isCells=false->w.heap.size<=r->¬df H0 r)->Wd S w0 (cq.rest (Fw S w0.heap.size dO H0) dO::(Hc s'++F)) W'->(∀b,df H0 b->¬df (Hc s0++F) b->W'.heap[b]?=dO.heap[b]?)->KeepsFrom w.heap.size dO W'/\nL (λb=>df (Hc s0++F) b/\b≠Bs) dO W':=by
  intro s s' H0 dO W' hW Nq zp hx;obtain⟨hs,hr⟩:=zp.get (k:=0) rfl;refine⟨⟨hs,λj o hj ho hn=>?_⟩,λb cs t z hb hc=>?_⟩
  ·exact(hr j ⟨A,(jl.1 ho).1,Nq j o ho hn hj⟩).trans ho
  ·by_cases e:b=Bs
   ·subst e
    exact(KA s' W' (zp.sub (gh _ _))).trans ((KA s dO hW).symm.trans hc)
   ·have G8:¬df (Hc s0++F) b:=λh=>hb ⟨h,e⟩
    by_cases ce:S b\/w0.heap.size<=b
    ·by_cases h0:df H0 b
     ·exact(hx b h0 G8).trans hc
     ·exact(hr b ⟨ce,(jl.1 hc).1,h0⟩).trans hc
    ·have Mp:b<w0.heap.size:=it λh=>ce (.inr A)
     exact((zp.c_.block b Mp λh=>ce (.inl h)).trans (hW.c_.block b Mp λh=>ce (.inl h)).symm).trans hc
 refine nK (m:=5) ?_;refine wpIn_rangeFunc_ownH (F:=FW U) (n:=5) (w0:=w) rfl A (hg.eq _ _ _ hS.fr) trivial (λargs w=>eg.run args w) (Va w hS.wd) (λh1 h2=>h1.trans h2) (λdO l o o' hl ho hn _ b cs t z _ hc=>?_) (Below.refl _ _) zT
  (λpre dO=>∃s,kH pre s/\Wd S w0 (Hc s++F) dO/\w.heap.size<=dO.heap.size) (λ_ _ _=>False) (λpre dO W' row ⟨s,hI,hW,U_⟩ hg hr=>⟨s,hI,hW.grown hg λr e=>?_,dS U_ hg.size⟩) (λ_ _ _ _ _ h=>h.elim) ⟨s0,h0,hS.wd.sub hH,cz _⟩
  (λx a' dO=>∃q,Fr N [] (La x q) a'/\dO.heap[q]?=O (.cells (bx x).toArray T (0,0))/\w.heap.size<=q/\∀s,¬df (Hc s++F) q) (λx a' _ dO W' row ⟨q,h1,h2,h3,h4⟩ hg hr=>⟨q,h1,?_,h3,h4⟩) ?_ ?_ ?_ ?_
 ·refine(World.putObj_heap_other λe=>?_).trans hc
  subst e;rw[hc]at ho;cases ho;cases hn
 ·obtain⟨h1,o,ho,hn⟩:=hr r e
  exact⟨A,lT s dO hW r o ho hn h1⟩
 ·refine(hg.block q (jl.1 h2).1 λe=>?_).trans h2
  obtain⟨_,o,ho,hn⟩:=hr q e.symm;rw[h2]at ho;cases ho;cases hn
 ·rintro l pre x dO jB ⟨s,hI,hW,U_⟩ hK
  refine nK (m:=0) ?_;refine Code.wpIn_mono (λe a' W' q=>?_) (AX l x s _ _ dO ⟨nE x a hS.fr,hW.CR⟩);cases e with
  |normal=>
   obtain⟨q,hq⟩:=q;have ho:=KO s s _ dO W' hW (lT s dO hW) (hq.wd.sub (gh _ _)) λb hb hn=>absurd (Nt s s0 b hb) hn;have AW:=jm.1 hq.wd.apart;have hqf:¬df (Hc s++F) q:=λ⟨e,he,hb⟩=>AW.1 e (ey _ he) q rfl hb;have EM:=hq.wd.own (aM q (bx x) T) bT q rfl;refine hK a' W' ho.1 ho.2 ⟨s,hI,hq.wd.sub (.cons _ (.cons _ (.refl _))),dS U_ ho.1.size⟩ ⟨q,hq.fr,hq.wd.get (k:=0) rfl,?_,λs' h=>hqf (Nt s' s q h)⟩;refine it λce=>?_;have h1:=EM.1;exact AW.1 (cq.rest (Fw S w0.heap.size dO (Hc s++F)) dO) bT q rfl ⟨h1,A,hqf⟩
  |_=>exact q.elim
 ·rintro l pre x a' dO _ _ ⟨s,hI,hW,U_⟩ ⟨q',h1,h2,h3,h4⟩ ce
  have hWb:Wd S w0 (aM q' (bx x) T::(Hc s++F)) dO:=⟨hW.c_,λe he b hb=>by
   rcases bX.1 he with rfl|he
   ·cases hb
    exact⟨.inr A,(jl.1 h2).1⟩
   ·exact hW.own e he b hb,λe he w2 hs lP=>by
   rcases bX.1 he with rfl|he
   ·exact(lP q' rfl).trans h2
   ·exact hW.ok e he w2 hs lP,jm.2 ⟨λf hf b hb Ar=>by cases hb;exact h4 s ⟨f,hf,Ar⟩,hW.apart⟩⟩
  refine nK (m:=0) ?_;refine Code.wpIn_mono (λe a' W' q=>?_) (xw l pre x s q' _ hI ce a' dO ⟨h1,hWb.CR⟩);cases e with
  |normal=>
   obtain⟨s',It,zp⟩:=q;have hW2:Wd S w0 (cq.rest (Fw S w0.heap.size dO (aM q' (bx x) T::(Hc s++F))) dO::(Hc s'++F)) W':=zp.sub (dN (List.Sublist.append_left (gh _ _) _));have uw:W'.heap[q']?=O (.cells (bx x).toArray T (0,0)):=by
    obtain⟨j,hj⟩:=bR (show aM q' (bx x) T∈cq.rest (Fw S w0.heap.size dO (aM q' (bx x) T::(Hc s++F))) dO::(Hc s'++(aM q' (bx x) T::F)) by simp);exact zp.get hj
   have ho:=KO s s' _ dO W' hW (λr o ho hn hle=>by
    rintro⟨e,he,hb⟩;rcases bX.1 he with rfl|he
    ·cases hb
     rw[h2]at ho;cases ho;cases hn
    ·exact lT s dO hW r o ho hn hle ⟨e,he,hb⟩) hW2 (λb hb hn=>by
    obtain⟨e,he,hb⟩:=hb;rcases bX.1 he with rfl|he
    ·cases hb
     exact uw.trans h2.symm
    ·exact absurd (Nt s s0 b ⟨e,he,hb⟩) hn)
   exact⟨ho.1,ho.2,s',It,hW2.sub (gh _ _),dS U_ ho.1.size⟩
  |_=>exact q.elim
 ·rintro eE ys dO hD rfl ⟨s,hI,hW,_⟩ hd
  refine k eE s A hI _ dO ⟨⟨hS.fr.size,by rw[hS.fr.defers],hS.fr.slot⟩,?_⟩;have hn:¬df (Hc s++F) eE:=lT s dO hW eE _ hd rfl hD;exact⟨hW.c_,λe he b hb=>by
   rcases bX.1 he with rfl|he
   ·cases hb
    exact⟨.inr A,(jl.1 hd).1⟩
   ·exact hW.own e he b hb,λe he w2 hs lP=>by
   rcases bX.1 he with rfl|he
   ·exact(lP eE rfl).trans hd
   ·exact hW.ok e he w2 hs lP,jm.2 ⟨λf hf b hb Ar=>by cases hb;exact hn ⟨f,hf,Ar⟩,hW.apart⟩⟩
 ·intro eE c pre dO _ _ h
  exact h.elim
end
end
section
set_option maxHeartbeats 8000000
attribute [local irreducible] wpListIn Code.wpIn Exit.then Exit.inBlock bodyPost wpQuiet wpAnyIn bodyPostM
theorem JU(v:K)(hv:∃a n c,v=I a n c)(w0:ae):iL Y 145 [v] w0 λu w'=>∃p:Nat×Nat,u=.func (.func 165) #[] #[aO (O ⟨p.1,0,U⟩)]/\Wd db w0 [aM p.1 [v] p.2] w'/\True:=by
 obtain⟨a,n,c,rfl⟩:=hv;refine aR func145 rfl ntmps145 rfl (Wd.nil db w0) ?_
 repeat(first|refine aU ?_|refine dd λ_ _=>?_)
 exact dh rfl λw hw=>⟨(_,_),rfl,hw,trivial⟩
abbrev XS(R:Nat):Type:={v:cI//kW R v}
theorem Qb:∀l:List cI,(∀v∈l,kW R v)->∃xs:List (XS R),xs.map (·.1)=l
 |[],_=>⟨[],rfl⟩
 |v::l,h=>by
  obtain⟨xs,mT⟩:=Qb l λu hu=>h u (ey _ hu);exact⟨⟨v,h v bT⟩::xs,by rw[cf,mT]⟩
theorem FN(xs:List (XS R))(s:List Bool):xs.foldl (λs y=>ng s y.1) s=(xs.map (·.1)).foldl ng s:=by rw[List.foldl_map]
theorem Ox(a:ax)(R c:Nat)(s:List Bool)(hs:s.length=R)(x:iA)(hx:y_ R x)(hlen:x.args.length<=100000)(va:ax)(vn vc:Nat)(S:Nat->Prop)(wz:ae)(abU:∀p v,wz.cell? p=O v->¬S p.block)(pt:aY wz (I va vn vc) 2 x.args mp)(w:ae)(hw:Wd S wz [kQ a R c s] w):
  iL Y 146 [I a R c,aC #[J Z x.op,J Z x.dst,ag x.a.dq,J Z x.a.n,ag x.b.dq,J Z x.b.n,J Z x.fn,I va vn vc]] w λu w'=>∃_:Unit,u=.tuple #[]/\Wd (df [kQ a R c s]) w [kQ a R c (yV s x)] w'/\True:=by
 have hz:=hw.c_;refine Ak (w0:=wz) (S:=S) func146 rfl ntmps146 rfl hw.CR ?_;generalize C8:cq.rest (Fw S wz.heap.size w [kQ a R c s]) w=RS
 repeat(first|refine bA ?_|refine dd λ_ _=>?_)
 rename_i b2 _ b3 _;generalize KT:(if 0<=x.dst then s.set x.dst.toNat false else s)=s1;have Y8:s1.length=R:=by subst KT;split<;>simpa using hs
 refine aaq [M 2 b2,M 3 b3] [aM b3 [J Z x.op,J Z x.dst,ag x.a.dq,J Z x.a.n,ag x.b.dq,J Z x.b.n,J Z x.fn,I va vn vc] 56,aM b2 [I a R c] 145,RS,kQ a R c s1] ?_ ?_
 ·apply aL<;>intro h1
  ·have h0:0<=x.dst:=aD h1
   have hR:=hx.dst h0;obtain⟨k,hk⟩:∃k:Nat,x.dst=k:=⟨x.dst.toNat,A⟩;obtain⟨y,hy⟩:=bE s k A;unfold kQ;refine fy 3 rfl A λvb vo qt=>?_;have kK:cg k R:=⟨A⟩;have YM:uk s k y:=⟨hy⟩;have hni:oT x.dst k:=⟨hk⟩;rw[qt];refine aV ?_;rw[al h0,show x.dst.toNat=k by omega]at KT;rw[KT];exact aP V aF
  ·have h0:¬0<=x.dst:=aD h1
   refine aU ?_;rw[ai h0]at KT;rw[KT];exact aP V aF
 refine bA ?_;refine cN (val:=λp:Nat=>.func (.func 164) #[] #[aO (O ⟨p,0,U⟩)]) (cZ:=λp=>[aM p [J Z x.op,J Z x.dst,ag x.a.dq,J Z x.a.n,ag x.b.dq,J Z x.b.n,J Z x.fn,I va vn vc] 56]) (φ:=λ_=>True) rfl (λw hw=>ads x _ ⟨_,_,_,rfl⟩ w) λbp _=>?_;simp only[bF,aS];refine aU ?_;obtain⟨xs,mT⟩:=Qb (R:=R) (oS x) hx.tT;have Dr:xs.foldl (λs y=>ng s y.1) s1=yV s x:=by rw[FN,mT,<-KT];rfl
 refine iC (L':=[(13,.func (.func 164) #[] #[aO (O ⟨bp,0,U⟩)]),M 2 b2,M 3 b3]) V (.refl _) ?_;refine mQ [4,0,1,2,3] (by decide) ?_;refine QH (α:=XS R) (gf:=164) (lb:=[aO (O ⟨bp,0,U⟩)]) [aM bp [J Z x.op,J Z x.dst,ag x.a.dq,J Z x.a.n,ag x.b.dq,J Z x.b.n,J Z x.fn,I va vn vc] 56,aM b3 [J Z x.op,J Z x.dst,ag x.a.dq,J Z x.a.n,ag x.b.dq,J Z x.b.n,J Z x.fn,I va vn vc] 56,aM b2 [I a R c] 145,RS] (λs:List Bool=>[kQ a R c s]) s1 (λs=>⟨by intro e he;simp only[bQ]at he;subst he;unfold kQ;infer_instance⟩) (λs s' b ⟨e,he,hb⟩=>⟨kQ a R c s',by simp,by simp only[bQ]at he;subst he;exact hb⟩) xs
  (encs:=λy=>#[aC #[ag y.1.dq,J Z y.1.n]]) (Bs:=bp) (bcs:=[J Z x.op,J Z x.dst,ag x.a.dq,J Z x.a.n,ag x.b.dq,J Z x.b.n,J Z x.fn,I va vn vc]) (bt:=56) bT
  (λw1 mS=>?_) (λpre s=>s=pre.foldl (λs y=>ng s y.1) s1) rfl (.refl _) (λ_=>rfl) (λy=>[ag y.1.dq,J Z y.1.n]) 41
  (λy=>[(14,aC #[ag y.1.dq,J Z y.1.n]),M 2 b2,M 3 b3]) (λy q=>[M 4 q,M 2 b2,M 3 b3]) (λy a h=>?_) (λl y s R=>?_) (λl pre y s q RR hI ce=>?_) λeE s2 hD hI=>?_
 ·intro l vI Jx dO hW hJ hJx hY h0
  have Pq:∀b,df ([kQ a R c s1]++[aM bp [J Z x.op,J Z x.dst,ag x.a.dq,J Z x.a.n,ag x.b.dq,J Z x.b.n,J Z x.fn,I va vn vc] 56,aM b3 [J Z x.op,J Z x.dst,ag x.a.dq,J Z x.a.n,ag x.b.dq,J Z x.b.n,J Z x.fn,I va vn vc] 56,aM b2 [I a R c] 145,RS]) b->(S b\/wz.heap.size<=b)/\b<w1.heap.size:=λb ⟨e,he,hb⟩=>mS.own e he b hb;have hkz:∀p v,wz.cell? p=O v->w1.cell? p=O v:=λp v hp=>(World.cell?_of_block (mS.c_.block _ (jC wz p hp) (abU p v hp))).trans hp;have h2:=Z9 (α:=XS R) (λy=>y.1) x va vn vc xs mT hlen l bp _ wz pt (λp v hp h=>(Pq _ h.1).1.elim (abU p v hp) λh2=>by have:=jC wz p hp;omega) (λh=>h.2 rfl) dO (λb hb h=>by have:=(Pq b h.1).2;have:=hW.size;omega) vI Jx _ hJ hJx hY (λp v hp=>by
   have h3:=hkz p v hp;exact(hW.cell (jC w1 _ h3)).trans h3) (λj v hj=>by
   have h3:w1.cell? ⟨bp,0+j,U⟩=O v:=mS.kr bp j v hj;exact(hW.cell (jC w1 _ h3)).trans h3) h0
  exact H9 (CallsIn.mono h2 λe w' ⟨v,he,hh⟩=>⟨⟨v,he⟩,hh⟩)
 ·have h2:=(h.to (L':=[M 2 b2,M 3 b3]) V).fv (d:=14) rfl (aC #[ag y.1.dq,J Z y.1.n])
  have e:(#[14].zip #[aC #[ag y.1.dq,J Z y.1.n]]).foldl (λ(t:Array K) (q:Tmp×K)=>t.setIfInBounds q.1 q.2) a.tmps=a.tmps.setIfInBounds 14 (aC #[ag y.1.dq,J Z y.1.n]):=by simp
  refine⟨Eq.trans (bD Array.size e) h2.size,rfl,λp hp=>?_⟩;exact Eq.trans (bD (λt:Array K=>t[p.1]?) e) (h2.slot p hp)
 ·repeat(first|refine aV ?_|refine dd λ_ _=>?_)
  exact O6 _ V aF
 ·have Vb:s.length=R:=by
   rw[hI,FN,BO,Y8]
  simp only[bF,aS];refine aU ?_;refine mQ [2,0,1,3,4,5,6] (by decide) ?_;refine fU (H1:=[kQ a R c s]++[RR,aM q [ag y.1.dq,J Z y.1.n] 41,aM bp [J Z x.op,J Z x.dst,ag x.a.dq,J Z x.a.n,ag x.b.dq,J Z x.b.n,J Z x.fn,I va vn vc] 56,aM b3 [J Z x.op,J Z x.dst,ag x.a.dq,J Z x.a.n,ag x.b.dq,J Z x.b.n,J Z x.fn,I va vn vc] 56,aM b2 [I a R c] 145,RS]) rfl ?_;refine fO (val:=λ_:Unit=>.tuple #[]) (cZ:=λ_=>[kQ a R c (ng s y.1)]) (φ:=λ_=>True) rfl (λw hw=>OE a R c s Vb y.1 y.2 w hw.pre) λ_ _=>?_;simp only[bF,aS];refine aU ?_;refine mQ [1,0,2,3,4,5,6] (by decide) ?_;refine O_ (ng s y.1) ?_ (.refl _);rw[qT,<-hI];rfl
 ·simp only[bF,aS]
  refine aU ?_;refine mQ [0,5,1] (by decide) ?_;refine O7 rfl hD λw' kE=>⟨(),rfl,?_,trivial⟩;rw[<-Dr,<-hI];rw[<-C8]at kE;exact Xi abU hz kE
theorem jq(nm pa re:K)(bl:List aq)(bs:K)(w0:ae)(gV:aY w0 bs 6 bl da)(hlen:bl.length<=100)(dV:dK bl):
  iL Y 65 [aC #[nm,pa,re,bs]] w0 λu w'=>∃x:(ax×Nat×Nat)×(Nat->Prop),u=I x.1.1 x.1.2.1 x.1.2.2/\Wd db w0 [⟨x.2,λw=>aY w (I x.1.1 x.1.2.1 x.1.2.2) 1 (ci bl) dQ⟩] w'/\True:=by
 obtain⟨ba,n,bc,bb,tL,rfl,hn,qg,A_,yy,qd,iw⟩:=gV;refine aR func65 rfl ntmps65 rfl (Wd.nil db w0) ?_
 repeat(first|refine aU ?_|refine dd λ_ _=>?_)
 rename_i b1 _ bo _;refine uX 3 1 n ?_;rw[show(aI n (I U 0 0))=(aI n (⟨U,0,[]⟩:Row)).map fi by simp[fi],show(aI n (G U 0 0 3 1 []))=(aI n (⟨U,0,[]⟩:Row)).map gP by simp[gP]];refine bH (λ(x:Nat×List Row)=>x.1<=n/\x.2.map (·.l)=lE bl x.1/\x.2.length=n/\∀r∈x.2,r.l.length<=2*x.1/\∀y∈r.l,dE y) (λx=>[(15,J Z x.1),(13,I ba n bc),(14,J Z n),(3,I (O ⟨bo,0,U⟩) n n)]) (λx=>G (O ⟨bo,0,U⟩) n n 42 1 (x.2.map fi)::x.2.map gP) (λx=>n-x.1) (0,aI n ⟨U,0,[]⟩)
  ⟨aN _,by simp[lE,hn],by simp,by simp⟩ (aP V aB) λx ⟨hi,ot,oG,oF⟩=>?_
 obtain⟨i,rs⟩:=x;simp only at hi ot oG oF|-
 refine bA ?_;apply aL<;>intro h1
 ·have ce:i<n:=aD h1
  obtain⟨B,hB⟩:=eI hn ce;have mJ:cl ba bb tL:=⟨qd (aZ hB)⟩;have kK:cg i n:=⟨ce⟩;obtain⟨cs,gW,pv,lv,tv,rfl,_,_,mB,lu,ht⟩:=iw i B hB;obtain⟨Wo,pn,pc,_,_,rfl,_⟩:=mB;obtain⟨la,ln,lc,_,_,rfl,_⟩:=lu;obtain⟨ta,tn,tc,tb,BQ,rfl,qZ,Dz,Gj,XD,Ax,tg⟩:=ht;have nO:bu w0 bb (tL+i*6) _:=⟨gW⟩;have NH:Z6 bl.length B.to:=dV B (aA hB)
  repeat(first|refine aV ?_|refine dd λ_ _=>?_)
  refine bH (λ(x:Nat×List Row)=>x.1<=tn/\x.2.map (·.l)=(B.to.take x.1).foldl (rS i) (lE bl i)/\x.2.length=n/\∀r∈x.2,r.l.length<=2*i+x.1/\∀y∈r.l,dE y) (λx=>[(24,J Z x.1),(22,I ta tn tc),(23,J Z tn),(4,J Z i),(15,J Z i),(13,I ba n bc),(14,J Z n),(3,I (O ⟨bo,0,U⟩) n n)])
   (λx=>G (O ⟨bo,0,U⟩) n n 42 1 (x.2.map fi)::x.2.map gP) (λx=>tn-x.1) (0,rs)
   ⟨aN _,aD ot,oG,λr hr=>by simpa using oF r hr⟩ (aP V aB) λx ⟨hj,pL,Be,Iz⟩=>?_
  obtain⟨j,wx⟩:=x;simp only at hj pL Be Iz|-
  refine bA ?_;apply aL<;>intro h2
  ·have oK:j<tn:=aD h2
   obtain⟨t,zX⟩:=eI qZ oK;have htt:=NH.2 t (aA zX);obtain⟨k,hk⟩:∃k:Nat,t=k:=⟨t.toNat,A⟩;have Jw:k<n:=A;have B0:k<wx.length:=A;obtain⟨r,hr⟩:=bE wx k B0;have uu:cl ta tb BQ:=⟨Ax (aZ zX)⟩;have EG:cg j tn:=⟨oK⟩;have ahv:cg k n:=⟨Jw⟩;have hni:oT t k:=⟨hk⟩;obtain⟨Jq,nP,rfl,_⟩:=tg j t zX;have uv:bu w0 tb (BQ+j*1) _:=⟨nP⟩;have NM:MG (wx.map fi) (k*1) (I r.a r.l.length r.c):=⟨by simp[hr,fi]⟩;have DU:=Iz r (aA hr)
   repeat(first|refine aU ?_|refine dd λ_ _=>?_)
   rename_i bt _;have Vh:=NH.1;refine kh (k+2) (xs:=r.l.map (J Z)) (e:=3) (by simp[hr,gP]) rfl rfl A A λa' c'=>?_;refine fU (H1:=G (O ⟨bt,0,U⟩) 1 1 3 1 [J Z i]::G (O ⟨bo,0,U⟩) n n 42 1 (wx.map fi)::(wx.set k ⟨a',c',r.l++[(i:Int)]⟩).map gP) (by simp[gP]) ?_;have mT:lS (wx.map fi) (k*1) (I a' (r.l.length+1) c') ((wx.set k ⟨a',c',r.l++[(i:Int)]⟩).map fi):=⟨by simp[fi],aD B0⟩;refine aV ?_;refine a_ (j+1,wx.set k ⟨a',c',r.l++[(i:Int)]⟩) ⟨oK,?_,aD Be,?_⟩ bB V aB
   ·simp only
    rw[bV,zX];simp only[jk,qT,jZ,List.foldl_nil];rw[<-pL,rS,show t.toNat=k by omega];exact ti hr rfl
   ·intro q hq
    rcases j_ hq with hq|rfl
    ·have:=Iz q hq
     exact⟨by simp only;omega,this.2⟩
    ·refine⟨by simp only[bW,lm];omega,λy hy=>?_⟩
     rcases bO.1 hy with hy|hy
     ·exact DU.2 y hy
     ·simp only[bQ]at hy
      subst hy;simp only[dE];omega
  ·have fX:j=tn:=by have:=h2;simp at this;omega
   refine aV ?_;refine a_ (i+1,wx) ⟨ce,?_,Be,λr hr=>?_⟩ bB V aF
   ·simp only[lE,hB]
    rw[pL,fX,qZ,cL]
   ·have:=Iz r hr
    have Vh:=NH.1;exact⟨by simp only;omega,this.2⟩
 ·have fX:i=n:=by have:=h1;simp at this;omega
  refine aV ?_;refine dh rfl λw hw=>⟨((O ⟨bo,0,U⟩,n,n),df (G (O ⟨bo,0,U⟩) n n 42 1 (rs.map fi)::rs.map gP)),rfl,?_,trivial⟩;have kE:Wd db w0 ((G (O ⟨bo,0,U⟩) n n 42 1 (rs.map fi)::rs.map gP)++[]) w:=by rw[cj];exact hw
  refine kE.pack _ λw2 lP=>?_;have:=D0 (H:=[]) (by rw[cj];exact lP) oG.symm A λr hr=>⟨by have:=(oF r hr).1;omega,(oF r hr).2⟩;rw[ot,fX,hn]at this;exact hn▸this
def F9(w:ae)(l:List Bool)(cs:List K):Prop:=∃v,cs=[v]/\aY w v 1 l CT
def rt(rows:List (List Bool))(t r:Nat):Prop:=∃s,rows[t]?=O s/\has s r
theorem qN(hb:b<bl.length)(h:(t:Int)∈dY bl b):b∈be bl t:=by
 unfold be;rw[cR];exact⟨aD hb,aD h⟩
theorem Ff(h:bl[t]?=O B):kO bl t=B.bg:=by simp[kO,h]
theorem MI(nm pa:K)(R:Nat)(hR:R<=100)(bl:List aq)(bs:K)(b:Nat)(rows:List (List Bool))(aa ia:ax)(an ac ic:Nat)(w0:ae)(gV:aY w0 bs 6 bl da)(n':Nat)(SE:n'=bl.length)(hf:eW R bl)(hb:b<bl.length)(oG:rows.length=bl.length)(hrR:∀s∈rows,s.length=R)
  (QM:aY w0 (I aa an ac) 1 (ci bl) dQ) (uB:aY w0 (I ia n' ic) 1 rows F9):
  iL Y 142 [aC #[nm,pa,J Z R,bs],I aa an ac,I ia n' ic,J Z b] w0 λu w'=>∃x:Nat×List Bool,u=I (O ⟨x.1,0,U⟩) R R/\Wd db w0 [kQ (O ⟨x.1,0,U⟩) R R x.2] w'/\(x.2.length=R/\∀r,has x.2 r↔JE bl (rt rows) b r):=by
 subst SE;have dV:=hf.iD;have lG:∀(b:Nat) (B:aq),bl[b]?=O B->B.to.Nodup:=λb B hB=>(hf.block b B hB).to;obtain⟨ba,n,bc,bb,tL,rfl,hn,qg,A_,yy,qd,iw⟩:=gV;obtain⟨ia',in',ic',ib,io,hv,ajW,_,_,_,UL,ahm⟩:=uB;simp only[Value.slice.injEq]at hv;obtain⟨rfl,rfl,rfl⟩:=hv;obtain⟨aa',an',ac',ab,ao,hv,No,_,_,_,Kt,Iw⟩:=QM;simp only[Value.slice.injEq]at hv;obtain⟨rfl,rfl,rfl⟩:=hv;rw[<-hn]at hb oG|-
 refine aR func142 rfl ntmps142 rfl (Wd.nil db w0) ?_;obtain⟨B,hB⟩:=eI hn hb;have mJ:cl ba bb tL:=⟨qd (aZ hB)⟩;have kK:cg b n:=⟨hb⟩;obtain⟨cs,gW,pv',lv,tv,rfl,_,_,mB,lu,ht⟩:=iw b B hB;obtain⟨Wo,pn,pc,_,_,rfl,_⟩:=mB;obtain⟨la,ln,lc,_,_,rfl,_⟩:=lu;obtain⟨ta,tn,tc,tb,BQ,rfl,qZ,Dz,Gj,XD,Ax,tg⟩:=ht;have nO:bu w0 bb (tL+b*6) _:=⟨gW⟩;have AV:=dV B (aA hB)
 repeat(first|refine aV ?_|refine dd λ_ _=>?_)
 rename_i p4 _ ob _ zB _;rw[show aI R (ag false)=(aI R false).map ag by simp];refine bH (λ(x:Nat×List Bool)=>x.1<=tn/\x.2.length=R/\∀r,has x.2 r↔∃t:Nat,(∃q,q<x.1/\B.to[q]?=O (t:Int))/\(tH bl t b r=true\/rt rows t r)) (λx=>[(31,J Z x.1),(29,I ta tn tc),(30,J Z tn),(9,I (O ⟨ob,0,U⟩) R R),M 4 p4,(1,I aa an ac),(2,I ia n ic),(3,J Z b)]) (λx=>[kQ (O ⟨ob,0,U⟩) R R x.2,aM p4 [nm,pa,J Z R,I ba n bc] 35]) (λx=>tn-x.1) (0,aI R false)
  ⟨aN _,by simp,λr=>by simp[has,ku]⟩ (aP V aB) λx ⟨hi,pt,hs⟩=>?_
 obtain⟨i,s⟩:=x;simp only at hi pt hs|-
 refine bA ?_;apply aL<;>intro h1
 ·have Nu:i<tn:=aD h1
  obtain⟨t,zX⟩:=eI qZ Nu;have htt:=AV.2 t (aA zX);obtain⟨k,hk⟩:∃k:Nat,t=k:=⟨t.toNat,A⟩;subst hk;have Jw:k<n:=A;have uu:cl ta tb BQ:=⟨Ax (aZ zX)⟩;have EG:cg i tn:=⟨Nu⟩;obtain⟨Jq,nP,rfl,_⟩:=tg i _ zX;have uv:bu w0 tb (BQ+i*1) _:=⟨nP⟩;obtain⟨T,hT⟩:=eI hn Jw;have Pk:cg k n:=⟨Jw⟩;obtain⟨csT,ag2,pvT,lvT,tvT,rfl,_,_,acu,ace,aiy⟩:=iw k T hT;obtain⟨xa,xn,xc,xb,xo,rfl,Mw,Zg,Zf,hxc,NM,Vn⟩:=acu;obtain⟨l2a,l2n,l2c,_,_,rfl,_⟩:=ace;obtain⟨t2a,t2n,t2c,_,_,rfl,_⟩:=aiy;have aet:bu w0 bb (tL+k*6) _:=⟨ag2⟩;obtain⟨row,iy⟩:=eI oG.symm Jw;have ajv:cl ia ib io:=⟨UL (aZ iy)⟩;obtain⟨csr,ag4,rv,rfl,CA⟩:=ahm k row iy;have ajK:bu w0 ib (io+k*1) _:=⟨ag4⟩;have aje:=hrR row (aA iy);obtain⟨ra,rn,rc,rb,ro,rfl,Av,afo,akI,U6,F1,hrel⟩:=CA;have aij:R=rn:=A;subst aij
  repeat(first|refine aV ?_|refine dd λ_ _=>?_)
  rename_i DY _;refine bH (λ(x:Nat×List Bool)=>x.1<=R/\x.2.length=R/\∀r,has x.2 r↔(has s r\/(r<x.1/\has row r))) (λx=>[(45,J Z x.1),(43,I ra R rc),(44,J Z R),(12,J Z k),M 13 DY,(31,J Z i),(29,I ta tn tc),(30,J Z tn),(9,I (O ⟨ob,0,U⟩) R R),M 4 p4,(1,I aa an ac),(2,I ia n ic),(3,J Z b)]) (λx=>[kQ (O ⟨ob,0,U⟩) R R x.2,aM DY [I xa xn xc,I l2a l2n l2c,J Z T.kind,ag T.on.dq,J Z T.on.n,I t2a t2n t2c] 46,aM p4 [nm,pa,J Z R,I ba n bc] 35]) (λx=>R-x.1) (0,s)
   ⟨aN _,pt,λr=>by simp⟩ ?_ λx ⟨hj,Y9,lU⟩=>?_
  ·refine mQ [1,0,2] (by decide) ?_
   exact aP V aF
  obtain⟨j,s'⟩:=x;simp only at hj Y9 lU|-
  refine bA ?_;apply aL<;>intro h2
  ·have oK:j<R:=aD h2
   obtain⟨y,hy⟩:=eI Av oK;have aeb:cl ra rb ro:=⟨F1 (aZ hy)⟩;have Dt:cg j R:=⟨oK⟩;obtain⟨cs3,ag1,rfl⟩:=hrel j y hy;have KB:bu w0 rb (ro+j*1) _:=⟨ag1⟩;obtain⟨z,hz⟩:=bE s' j A;have hez:uk s' j z:=⟨hz⟩;have yR:∀r,has (s'.set j (z||y)) r↔(has s r\/(r<j+1/\has row r)):=λr=>by
    unfold has;rw[fN]
    by_cases e:j=r
    ·subst e
     have h3:=lU j;unfold has at h3;rw[hz]at h3;rw[al rfl,al A,hy];cases z<;>cases y<;>simp at h3|-<;>first|exact h3|(simp[h3])
    ·rw[ai e]
     have h3:=lU r;unfold has at h3;rw[h3];constructor
     ·rintro(h|⟨h,h4⟩)
      ·exact .inl h
      ·exact .inr ⟨A,h4⟩
     ·rintro(h|⟨h,h4⟩)
      ·exact .inl h
      ·exact .inr ⟨A,h4⟩
   unfold kQ;cases z
   ·refine aV ?_
    exact a_ (j+1,s'.set j y) ⟨oK,aD Y9,aD yR⟩ bB V aF
   ·refine cT ?_
    exact a_ (j+1,s'.set j true) ⟨oK,aD Y9,aD yR⟩ bB V aF
  ·have fX:j=R:=by have:=h2;simp at this;omega
   have zS:=qN (by omega:b<bl.length) (show(k:Int)∈dY bl b by rw[fI hB];exact aA zX);have hag:=kf dV lG (show k<bl.length by omega);have abA:cl aa ab ao:=⟨Kt (aZ hag)⟩;have akc:cg k an:=⟨by rw[No];exact(aJ.1 hag).1⟩;obtain⟨csa,ag3,av,rfl,Mo⟩:=Iw k _ hag;have ajH:bu w0 ab (ao+k*1) _:=⟨ag3⟩;have Iy:=Mo;obtain⟨a2,a2n,a2c,_,_,rfl,_⟩:=Mo;have hTo:=hf.block k T hT;refine aV ?_;refine bY rfl (λw hw=>IN _ (be bl k) b w zS (Iy.cB du hw.c_)) ?_;have IH:(be bl k).idxOf b<(be bl k).length:=ll zS;generalize hix:(be bl k).idxOf b=ix at IH;refine aU ?_;refine bH (λ(x:Nat×List Bool)=>x.1<=xn/\x.2.length=R/\∀r,has x.2 r↔(has s' r\/∃q p,q<x.1/\T.bg[q]?=O p/\iB [p.src[ix]?.getD lB] r=true)) (λx=>[(70,J Z x.1),(68,I xa xn xc),(69,J Z xn),(16,J Z (ix:Nat)),(12,J Z k),M 13 DY,(31,J Z i),(29,I ta tn tc),(30,J Z tn),(9,I (O ⟨ob,0,U⟩) R R),M 4 p4,(1,I aa an ac),(2,I ia n ic),(3,J Z b)]) (λx=>[kQ (O ⟨ob,0,U⟩) R R x.2,aM DY [I xa xn xc,I l2a l2n l2c,J Z T.kind,ag T.on.dq,J Z T.on.n,I t2a t2n t2c] 46,aM p4 [nm,pa,J Z R,I ba n bc] 35]) (λx=>xn-x.1) (0,s')
    ⟨aN _,Y9,λr=>by simp⟩ (aP V aF) λx ⟨hj3,Vc,hs3⟩=>?_
   obtain⟨m,s3⟩:=x;simp only at hj3 Vc hs3|-
   refine bA ?_;apply aL<;>intro h3
   ·have Nx:m<xn:=aD h3
    obtain⟨p,hp⟩:=eI Mw Nx;have aec:cl xa xb xo:=⟨NM (aZ hp)⟩;have hlm:cg m xn:=⟨Nx⟩;obtain⟨csp,Ux,sv,rfl,_,rC⟩:=Vn m p hp;have abS:bu w0 xb (xo+m*2) _:=⟨Ux⟩;have Cx:=hTo.bg p (aA hp);obtain⟨s2a,s2n,s2c,s2b,s2o,rfl,acJ,_,_,_,acI,U9⟩:=rC;obtain⟨v,hv⟩:=bE p.src ix (by rw[Cx.len];exact IH);have agz:cl s2a s2b s2o:=⟨acI (aZ hv)⟩;have ahz:cg ix s2n:=⟨by rw[acJ,Cx.len];exact IH⟩;obtain⟨csv,abV,rfl,_⟩:=U9 ix v hv;have agQ:bu w0 s2b (s2o+ix*2) _:=⟨abV⟩;have hvo:=Cx.tT v (aA hv)
    repeat(first|refine aV ?_|refine dd λ_ _=>?_)
    rename_i p18 _;refine mQ [1,0,2,3] (by decide) ?_;refine fU (H1:=[kQ (O ⟨ob,0,U⟩) R R s3]++[aM p18 [J Z p.dst,I s2a s2n s2c] 49,aM DY [I xa xn xc,I l2a l2n l2c,J Z T.kind,ag T.on.dq,J Z T.on.n,I t2a t2n t2c] 46,aM p4 [nm,pa,J Z R,I ba n bc] 35]) rfl ?_;refine fO (val:=λ_:Unit=>.tuple #[]) (cZ:=λ_=>[kQ (O ⟨ob,0,U⟩) R R (ng s3 v)]) (φ:=λ_=>True) rfl (λw hw=>OE (O ⟨ob,0,U⟩) R R s3 Vc v hvo w hw.pre) λ_ _=>?_;simp only[bF,aS];refine aU ?_;refine a_ (m+1,ng s3 v) ⟨Nx,by rw[pX];exact Vc,λr=>?_⟩ bB V aB;simp only;rw[Co (by rw[Vc];exact hvo),hs3 r];have vJ:iB [p.src[ix]?.getD lB] r=true↔(v.dq=true/\v.n=r):=by rw[hv];simp[iB]
    constructor
    ·rintro((h|⟨q,p',h4,h5,h6⟩)|h)
     ·exact .inl h
     ·exact .inr ⟨q,p',A,h5,h6⟩
     ·exact .inr ⟨m,p,A,hp,vJ.2 h⟩
    ·rintro(h|⟨q,p',h4,h5,h6⟩)
     ·exact .inl (.inl h)
     ·by_cases e:q=m
      ·subst e
       rw[hp]at h5;simp only[cF]at h5;subst h5;exact .inr (vJ.1 h6)
      ·exact .inl (.inr ⟨q,p',A,h5,h6⟩)
   ·have aeG:m=xn:=by have:=h3;simp at this;omega
    refine aV ?_;refine a_ (i+1,s3) ⟨Nu,Vc,λr=>?_⟩ bB V aB;simp only;rw[hs3 r,lU r,hs r];have xC:tH bl k b r=true↔∃q p,q<m/\T.bg[q]?=O p/\iB [p.src[ix]?.getD lB] r=true:=by
     unfold tH;rw[Ff hT,rG,hix];constructor
     ·rintro⟨p,hp,h⟩
      obtain⟨q,hq⟩:=bR hp;exact⟨q,p,by have:=(aJ.1 hq).1;omega,hq,h⟩
     ·rintro⟨q,p,_,hq,h⟩
      exact⟨p,aA hq,h⟩
    have hIn:rt rows k r↔(r<j/\has row r):=by
     unfold rt;rw[iy];constructor
     ·rintro⟨s,e,h⟩
      simp only[cF]at e;subst e;exact⟨by have:=(aJ.1 h).1;omega,h⟩
     ·rintro⟨_,h⟩;exact⟨row,rfl,h⟩
    rw[<-xC,<-hIn];constructor
    ·rintro((⟨t,⟨q,h4,h5⟩,h6⟩|h)|h)
     ·exact⟨t,⟨q,A,h5⟩,h6⟩
     ·exact⟨k,⟨i,A,zX⟩,.inr h⟩
     ·exact⟨k,⟨i,A,zX⟩,.inl h⟩
    ·rintro⟨t,⟨q,h4,h5⟩,h6⟩
     by_cases e:q=i
     ·subst e
      rw[zX]at h5;have h7:(k:Int)=t:=aD h5;have:k=t:=A;subst this;rcases h6 with h6|h6
      ·exact .inr h6
      ·exact .inl (.inr h6)
     ·exact .inl (.inl ⟨t,⟨q,A,h5⟩,h6⟩)
 ·have fX:i=tn:=by have:=h1;simp at this;omega
  refine aV ?_;refine dh rfl λw hw=>⟨(ob,s),rfl,hw.Gu [0] (by decide),pt,λr=>?_⟩;simp only;rw[hs r];unfold JE;rw[fI hB];constructor
  ·rintro⟨t,⟨q,_,hq⟩,h⟩;exact⟨t,aA hq,h⟩
  ·rintro⟨t,ht,h⟩
   obtain⟨q,hq⟩:=bR ht;exact⟨t,⟨q,by have:=(aJ.1 hq).1;omega,hq⟩,h⟩
end
end Go.Proofs.YthfhgolkafpmnaaGreatDoor
