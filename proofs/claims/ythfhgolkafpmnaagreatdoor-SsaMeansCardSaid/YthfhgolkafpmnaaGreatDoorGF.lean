/- Texts joined: RangeB BackB LiveP LiveQ Vals LiveA RangeG RangeF RangeS LiveB LiveC. -/
import Derived.Laws.Cover3
import Derived.Test.YthfhgolkafpmnaaGreatDoorGD
namespace Go.Proofs.YthfhgolkafpmnaaGreatDoor
open Go.Value renaming int->U,slice->J,pointer->ar,bool->D,agg->au
open Go.IntKind renaming i64->O
open Option renaming some->Z,none->A
open Go renaming Value->V,World->C
open Go.Proofs.Tryz
open Go.Proofs.Tryz renaming prog->ae
open Go Go.RowKit
section
theorem vk{α:Type}(f:α->V):∀l:List α,l.flatMap (λx=>[f x])=l.map f
 |[]=>rfl
 |x::l=>by rw[gZ,vk f l];rfl
theorem cj{α:Type}{g:α->List V}{s:Nat}(h:∀x,(g x).length=s):∀l:List α,(l.flatMap g).length=l.length*s
 |[]=>by simp
 |x::l=>by rw[gZ,bX,h,cj h l,gk,jJ];omega
theorem fB{α:Type}{g:α->List V}{s:Nat}(h:∀x,(g x).length=s):∀(l:List α) (i:Nat) (x:α) (j:Nat) (v:V),l[i]?=Z x->(g x)[j]?=Z v->(l.flatMap g)[i*s+j]?=Z v
 |[],i,x,j,v,hi,_=>by simp at hi
 |y::l,0,x,j,v,hi,hj=>by
  simp only[kC,b_]at hi;subst hi;rw[gZ,dY (by have:=(az.1 hj).1;omega)];simpa using hj
 |y::l,i+1,x,j,v,hi,hj=>by
  rw[gZ,dC (by rw[h,jJ];omega),h,show(i+1)*s+j-s=i*s+j by rw[jJ];omega];exact fB h l i x j v (ax hi) hj
theorem nu{α:Type}{g:α->List V}{s:Nat}(h:∀x,(g x).length=s):∀(l:List α) (k:Nat) (v:V),(l.flatMap g)[k]?=Z v->∃i x j,l[i]?=Z x/\(g x)[j]?=Z v/\k=i*s+j
 |[],k,v,hk=>by simp at hk
 |y::l,k,v,hk=>by
  rw[gZ]at hk
  by_cases bS:k<(g y).length
  ·rw[dY bS]at hk
   exact⟨0,y,k,rfl,hk,I⟩
  ·rw[dC I,h]at hk
   obtain⟨i,x,j,h1,h2,h3⟩:=nu h l _ v hk;rw[h]at bS;exact⟨i+1,x,j,ax h1,h2,by rw[jJ];omega⟩
section
variable {P:Program} {ro:Option Nat} {N:Nat} {ds:List Deferred} {S:Nat->Prop} {w0:C} {L L':List (Nat×V)} {H H':List bN} {a:Act} {w:C}
 {ops:Array Oper} {rest:List Oper} {Q:Exit->Act->C->Prop} {p:Act->C->Prop} {x y:Operand}
instance{T e s jy:Nat}{zs:List V}[h:cI P T e s jy zs](ad:Option Addr)(n c:Nat):Ci P T (J ad n c) (J A 0 0) ad.isNone:=
 ⟨λop _ _ w=>by unfold eqGuard;split<;>simp,λw=>by simp[binOp,run_equal_slice_nil w T e ad n c h.qx],λw=>run_neq_slice_nil w T e ad n c h.qx⟩
theorem lV{α:Type}{d ty T e s jy:Nat}{zs:List V}{pos:String}{aft:Array Go.Edge}{ad a2:Option Addr}{n c m c2 k:Nat}{xs:List V}[h:cI P T e s jy zs][hx:Ev L x (J ad n c)][hy:Ev L y (J a2 m c2)]
  [hv:u7 H ad n c k e s xs] (hd:dy d N L=true) (hs:(Nat.blt 0 s&&Nat.beq zs.length s)=true) (l:List α) {ake:C->α->List V->Prop} (g:α->List V) (hg:∀w x cs,ake w x cs->cs=g x) (hlen:∀x,(g x).length=s) (wO:∀x,∀u∈g x,u.oneCell'=true)
  (rq:∀w,Wd S w0 H w->aG w (J a2 m c2) s l ake) (kM:(n+m)*jy<=140737488355328) (II:n+m<=140737488355328)
  {F:bN->List bN} [hF:EZ H k F] (kk:∀a' c',aki N ds S w0 ((d,J a' (n+m) c')::L) (F (M a' (n+m) c' e s (xs++l.flatMap g))) (wpListIn (FW ro) 0 P ops Q rest)):aki N ds S w0 L H (wpListIn (FW ro) 0 P ops Q (⟨Z d,.call {callee:=.builtin .append,args:=#[x,y],argTypes:=#[T,T]},ty,pos,aft,A⟩::rest)):=by
 intro a w hS;simp only[Bool.and_eq_true,Nat.blt_eq]at hs;obtain⟨a2',m',c2',b,o,qh,hm,hmc,_,_,ha,ji⟩:=rq w hS.wd;simp only[Value.slice.injEq]at qh;obtain⟨rfl,rfl,rfl⟩:=qh
 by_cases h0:m=0
 ·subst h0
  have hl:l=[]:=lk hm.symm;subst hl;obtain⟨i,zz,hi,_,_,_,_⟩:=h.get;have qP:n<=c:=by
   obtain⟨_,h2⟩:=hS.wd.get hv.at';rcases h2 with⟨_,h2,h3⟩|⟨_,_,_,_,h3,_⟩<;>omega
  have hr:(Builtin.append_ #[T,T] ty #[J ad n c,J a2 0 c2]).run P w=.ok (J ad n c) w:=by
   cases ad<;>cases a2<;>simp[Builtin.append_,run_underlying h.qx,sizeOf,typeInfo,hi,Builtin.lenOf,Builtin.firstCells,qP,storeCells,loadCells,loadCellsFrom]
  refine ft (v:=.slice ad n c) (w':=w) rfl (λ_ h=>by cases h) ?_ ?_
  ·simp[execOp,resolve,invoke,builtin,hx.eq _ _ _ hS.fr,hy.eq _ _ _ hS.fr,hr]
  ·have:=kk ad c
   simp only[qC,cD,ef]at this;rw[<-hF.eq,mJ hv.at']at this;exact this _ _ ⟨hS.fr.eo hd _,hS.wd⟩
 ·have eQ:l≠[]:=by rintro rfl;simp at hm;exact h0 hm
  have ha:=ha eQ;subst ha;obtain⟨a',c',w',hr,ek⟩:=hS.wd.append (P:=P) (ty:=ty) (c2:=c2) (a2:=⟨b,o,A⟩) (m:=m) (news:=l.flatMap g) h hs.1 hv.at' I (by rw[cj hlen,hm]) (λj u hj=>by
   obtain⟨i,q,j',h1,h2,rfl⟩:=nu hlen l j u hj;obtain⟨cs,hc,hV⟩:=ji i q h1;rw[hg _ _ _ hV]at hc;have:=hc j' u h2;rw[Addr.add_lit,<-dI];exact this) (λu hu=>by obtain⟨q,_,hq⟩:=df.1 hu;exact wO q u hq) kM II (q9 hs.2)
  refine ft (v:=.slice a' (n+m) c') (w':=w') rfl (λ_ h=>by cases h) ?_ ?_
  ·simp[execOp,resolve,invoke,builtin,hx.eq _ _ _ hS.fr,hy.eq _ _ _ hS.fr,hr]
  ·rw[hF.eq]at ek
   exact kk a' c' _ _ ⟨hS.fr.eo hd _,ek⟩
def marks(Ds:List Nat):List bN:=Ds.map bN.mark
def Ir(Ds:List Nat):List Deferred:=Ds.map λakf=>⟨.collected akf,#[]⟩
def YV{α:Type}(N:Nat)(dx:α->List Deferred)(S:Nat->Prop)(w0:C)(akb:α->Prop)(Lx:α->List (Nat×V))(Hx:α->List bN)(m:α->Nat)(x:α):Act->C->Prop:=
 λa w=>∃x',(akb x'/\St N (dx x') S w0 (Lx x') (Hx x') a w)/\m x'<m x
theorem BV{α:Type}(dx:α->List Deferred)(akb:α->Prop)(Lx:α->List (Nat×V))(Hx:α->List bN)(m:α->Nat){c:Code}(x:α)(hds:dx x=ds)(hI:akb x)(h0:aki N ds S w0 L H (St N ds S w0 (Lx x) (Hx x)))
  (round:∀x,akb x->aki N (dx x) S w0 (Lx x) (Hx x) (Code.wpIn (FW ro) 0 P c (Exit.then (YV N dx S w0 akb Lx Hx m x) Q))):aki N ds S w0 L H (Code.wpIn (FW ro) 0 P (Code.loop c) Q):=
 λa w hS=>KJ (λx a w=>akb x/\St N (dx x) S w0 (Lx x) (Hx x) a w) m x ⟨hI,by rw[hds];exact h0 a w hS⟩ λx a w h=>round x h.1 a w h.2
theorem yP{α:Type}{dx:α->List Deferred}{akb:α->Prop}{Lx:α->List (Nat×V)}{Hx:α->List bN}{m:α->Nat}{x:α}(x':α)(hds:dx x'=ds)(hI:akb x')(hm:m x'<m x)(hL:yu L (Lx x'))(hH:(Hx x').Sublist H):aki N ds S w0 L H (YV N dx S w0 akb Lx Hx m x):=
 λ_ _ hS=>⟨x',⟨hI,by rw[hds];exact hS.fix hL hH⟩,hm⟩
theorem y_{fn:Func}{tmps:Array V}{R:V->C->Prop}{v:V}(hr:∀w,(results fn tmps).run P w=.ok v w)(hR:∀w,Wd cX w0 H w->R v w):∀(Ds:List Nat) (w:C),Wd cX w0 (marks Ds++H) w->
  LeavesInM (FW A) 0 P fn tmps (λe w'=>∃v,e=.returned v/\R v w') (Ir Ds) .returning w
 |[],w,hW=>⟨v,hr w,v,rfl,hR w hW⟩
 |akf::Ds,w,hW=>by
  have h1:Wd cX w0 (bN.mark akf::(marks Ds++H)) w:=hW;have hD:w0.heap.size<=akf:=(h1.own (bN.mark akf) aC akf rfl).1.elim (λh=>h.elim) id;exact⟨by simp,.inl ⟨akf,_,rfl,run_takeDeferred (h1.get (k:=0) rfl),y_ hr hR Ds _ (h1.shut hD _)⟩⟩
theorem R0{fn:Func}{R:V->C->Prop}{Ds:List Nat}{s t:Nat}{v u:V}(hr:fn.results= #[.tmp s,.tmp t])[hv:gR L s v][hu:gR L t u](hR:∀w,Wd cX w0 H w->R (.tuple #[v,u]) w):aki N (Ir Ds) cX w0 L (marks Ds++H) (bodyPostM (FW A) 0 P fn (λe w'=>∃v,e=.returned v/\R v w') .ret):=λa w hS=>by
 show LeavesInM _ _ _ _ _ _ _ _ _;rw[hS.fr.defers];exact y_ (λw=>by rw[results_tmp2 hr];simp[tK,hS.fr.slot _ hv.mem,hS.fr.slot _ hu.mem]) hR Ds w hS.wd
def kT(own:Nat->Prop)(W W':C):Prop:=∀b cs t akj,¬own b->W.heap[b]?=Z (.cells cs t akj)->W'.heap[b]?=Z (.cells cs t akj)
theorem kT.refl(own:Nat->Prop)(W:C):kT own W W:=λ_ _ _ _ _ h=>h
theorem kT.trans{own:Nat->Prop}{aka B akh:C}(h:kT own aka B)(k:kT own B akh):kT own aka akh:=λb cs t akj hb hc=>k b cs t akj hb (h b cs t akj hb hc)
theorem KM{W:C}{p:Addr}{v:V}(h:W.cell? p=Z v):∃cs t akj,W.heap[p.block]?=Z (.cells cs t akj):=by
 unfold World.cell? at h
 revert h
 cases W.heap[p.block]? with
 |none=>intro h;simp at h
 |some o=>cases o<;>intro h<;>first|exact⟨_,_,_,rfl⟩|simp at h
theorem kT.cell{own:Nat->Prop}{aka B:C}(h:kT own aka B){p:Addr}{v:V}(hp:¬own p.block)(hc:aka.cell? p=Z v):B.cell? p=Z v:=by
 obtain⟨cs,t,akj,hb⟩:=KM hc;have:=h _ _ _ _ hp hb;rw[<-hc];exact World.cell?_of_block (this.trans hb.symm)
theorem Gz{Lp:Nat->List (Nat×V)}{Hp:Nat->List bN}(q:Nat)(hL:yu L (Lp q))(hH:(Hp q).Sublist H):aki N ds S w0 L H (λa w=>∃q,St N ds S w0 (Lp q) (Hp q) a w):=λ_ _ hS=>⟨q,hS.fix hL hH⟩
theorem RX{α σ:Type}{g:Operand}{ps:Array Tmp}{assign body:Code}{gf:Nat}{lb:List V}[hg:Ev L g (.func (.func gf) #[] lb.toArray)][eg:aQ P gf](F:List bN)(Hc:σ->List bN)(s0:σ)(e_:∀s,F6 (Hc s))(Zq:∀s s' b,cH (Hc s) b->cH (Hc s') b)(xs:List α){encs:α->Array V}
  {Bs:Nat} {bcs:List V} {bt:TypeId} (Q3:K Bs bcs bt∈F)
  (LC:∀w,Wd cX w0 H w->SeqStopsK (FW A) 4 P gf lb.toArray encs (kT λb=>cH (Hc s0++F) b/\b≠Bs) (λys=>ys=xs) (λpre=>pre<+:xs) xs.length w)
  (akb:List α->σ->Prop) (h0:akb [] s0) (hH:(Hc s0++F).Sublist H) (xH:∀x,(encs x).size=ps.size) (bx:α->List V) (T:Nat)
  (L0:α->List (Nat×V)) (La:α->Nat->List (Nat×V)) (mq:∀x a,Fr N ds L a->Fr N [] (L0 x) {tmps:=(ps.zip (encs x)).foldl (λt (p,v)=>t.setIfInBounds p v) a.tmps,defers:=[]})
  (tW:∀(l:Nat) (x:α) (s:σ) (R:bN),aki N [] cX w0 (L0 x) (R::(Hc s++F)) (assign.wpIn (FW (Z l)) 0 P (Exit.then (λa w=>∃q,St N [] cX w0 (La x q) (K q (bx x) T::R::(Hc s++F)) a w) (λ_ _ _=>False))))
  (rj:∀(l:Nat) (pre:List α) (x:α) (s:σ) (q:Nat) (R:bN),akb pre s->pre.length<xs.length->aki N [] cX w0 (La x q) (R::K q (bx x) T::(Hc s++F)) (body.wpIn (FW (Z l)) 0 P (Exit.then (Rnd cX w0 (akb (pre++[x])) R Hc (K q (bx x) T::F)) (λ_ _ _=>False))))
  (k:∀akf s,w0.heap.size<=akf->akb xs s->aki N (⟨.collected akf,#[]⟩::ds) cX w0 L (bN.mark akf::(Hc s++F)) (Q .normal)):aki N ds cX w0 L H (Code.wpIn (FW A) 0 P (Code.rangeFunc g ps assign body) Q):=λa w hS=>by
 have pU:=hS.wd.size;have hF:∀e∈F,∀b,e.fp b->b<w.heap.size:=λe he b hb=>(hS.wd.own e (hH.subset (de _ he)) b hb).2;have jd:∀s W,Wd cX w0 (Hc s++F) W->∀r o,W.heap[r]?=Z o->o.isCells=false->w.heap.size<=r->¬cH (Hc s++F) r:=by
  rintro s W hW r o ho hn hle ⟨e,he,hb⟩;rcases bA.1 he with he|he
  ·obtain⟨j,hj⟩:=bg (ct F he)
   obtain⟨cs,t,akj,hc⟩:=((e_ s).all e he).ok W (hW.get hj) r hb;rw[hc]at ho;cases ho;cases hn
  ·have:=hF e he r hb;omega
 have CY:∀s W,Wd cX w0 (Hc s++F) W->W.heap[Bs]?=Z (.cells bcs.toArray bt (0,0)):=λs W hW=>by
  obtain⟨j,hj⟩:=bg (de (Hc s) Q3);exact hW.get hj
 have C4:∀s s' b,cH (Hc s++F) b->cH (Hc s'++F) b:=by
  rintro s s' b ⟨e,he,hb⟩;rcases bA.1 he with he|he
  ·obtain⟨e',VM,nO⟩:=Zq s s' b ⟨e,he,hb⟩
   exact⟨e',ct _ VM,nO⟩
  ·exact⟨e,de _ he,hb⟩
 have Am:∀s s' (H0:List bN) W W',Wd cX w0 (Hc s++F) W->(∀r o,W.heap[r]?=Z o->o.isCells=false->w.heap.size<=r->¬cH H0 r)->Wd cX w0 (bN.rest (pw w0.heap.size W H0) W::(Hc s'++F)) W'->(∀b,cH H0 b->¬cH (Hc s0++F) b->W'.heap[b]?=W.heap[b]?)->KeepsFrom w.heap.size W W'/\kT (λb=>cH (Hc s0++F) b/\b≠Bs) W W':=by
  intro s s' H0 W W' hW Em tV hx;obtain⟨hs,hr⟩:=tV.get (k:=0) rfl;refine⟨⟨hs,λj o hj ho hn=>?_⟩,λb cs t akj hb hc=>?_⟩
  ·exact(hr j ⟨I,(fv.1 ho).1,Em j o ho hn hj⟩).trans ho
  ·by_cases e:b=Bs
   ·subst e
    exact(CY s' W' (tV.sub (dR _ _))).trans ((CY s W hW).symm.trans hc)
   ·have En:¬cH (Hc s0++F) b:=λh=>hb ⟨h,e⟩
    by_cases bS:b<w0.heap.size
    ·exact((tV.ch.block b bS λh=>h).trans (hW.ch.block b bS λh=>h).symm).trans hc
    ·by_cases h0:cH H0 b
     ·exact(hx b h0 En).trans hc
     ·exact(hr b ⟨I,(fv.1 hc).1,h0⟩).trans hc
 refine jD (m:=5) ?_;refine wpIn_rangeFunc_ownH (F:=FW A) (n:=5) (w0:=w) rfl I (hg.eq _ _ _ hS.fr) trivial (λargs w=>eg.run args w) (LC w hS.wd) (λh1 h2=>h1.trans h2) (λW l o o' hl ho hn _ b cs t akj _ hc=>?_) (Below.refl _ _) xH
  (λpre W=>∃s,akb pre s/\Wd cX w0 (Hc s++F) W/\w.heap.size<=W.heap.size) (λ_ _ _=>False) (λpre W W' row ⟨s,hI,hW,Es⟩ hg hr=>⟨s,hI,hW.grown hg λr e=>?_,du Es hg.size⟩) (λ_ _ _ _ _ h=>h.elim) ⟨s0,h0,hS.wd.sub hH,bG _⟩
  (λx a' W=>∃q,Fr N [] (La x q) a'/\W.heap[q]?=Z (.cells (bx x).toArray T (0,0))/\w.heap.size<=q/\∀s,¬cH (Hc s++F) q) (λx a' _ W W' row ⟨q,h1,h2,h3,h4⟩ hg hr=>⟨q,h1,?_,h3,h4⟩) ?_ ?_ ?_ ?_
 ·refine(World.putObj_heap_other λe=>?_).trans hc
  subst e;rw[hc]at ho;cases ho;cases hn
 ·obtain⟨h1,o,ho,hn⟩:=hr r e
  exact⟨I,jd s W hW r o ho hn h1⟩
 ·refine(hg.block q (fv.1 h2).1 λe=>?_).trans h2
  obtain⟨_,o,ho,hn⟩:=hr q e.symm;rw[h2]at ho;cases ho;cases hn
 ·rintro l pre x W akc ⟨s,hI,hW,Es⟩ hK
  refine jD (m:=0) ?_;refine Code.wpIn_mono (λe a' W' q=>?_) (tW l x s _ _ W ⟨mq x a hS.fr,hW.rM⟩);cases e with
  |normal=>
   obtain⟨q,hq⟩:=q;have ho:=Am s s _ W W' hW (jd s W hW) (hq.wd.sub (dR _ _)) λb hb hn=>absurd (C4 s s0 b hb) hn;have vv:=ew.1 hq.wd.apart;have ZN:¬cH (Hc s++F) q:=λ⟨e,he,hb⟩=>vv.1 e (cO _ he) q rfl hb;have EL:=hq.wd.own (K q (bx x) T) aC q rfl;refine hK a' W' ho.1 ho.2 ⟨s,hI,hq.wd.sub (.cons _ (.cons _ (.refl _))),du Es ho.1.size⟩ ⟨q,hq.fr,hq.wd.get (k:=0) rfl,?_,λs' h=>ZN (C4 s' s q h)⟩;refine Classical.byContradiction λbS=>?_;have h1:w0.heap.size<=q:=EL.1.elim (λh=>h.elim) id;exact vv.1 (bN.rest (pw w0.heap.size W (Hc s++F)) W) aC q rfl ⟨h1,I,ZN⟩
  |_=>exact q.elim
 ·rintro l pre x a' W _ _ ⟨s,hI,hW,Es⟩ ⟨q',h1,h2,h3,h4⟩ bS
  have hWb:Wd cX w0 (K q' (bx x) T::(Hc s++F)) W:=⟨hW.ch,λe he b hb=>by
   rcases bD.1 he with rfl|he
   ·cases hb
    exact⟨.inr I,(fv.1 h2).1⟩
   ·exact hW.own e he b hb,λe he w2 hs jg=>by
   rcases bD.1 he with rfl|he
   ·exact(jg q' rfl).trans h2
   ·exact hW.ok e he w2 hs jg,ew.2 ⟨λf hf b hb u1=>by cases hb;exact h4 s ⟨f,hf,u1⟩,hW.apart⟩⟩
  refine jD (m:=0) ?_;refine Code.wpIn_mono (λe a' W' q=>?_) (rj l pre x s q' _ hI bS a' W ⟨h1,hWb.rM⟩);cases e with
  |normal=>
   obtain⟨s',R6,tV⟩:=q;have Zc:Wd cX w0 (bN.rest (pw w0.heap.size W (K q' (bx x) T::(Hc s++F))) W::(Hc s'++F)) W':=tV.sub (dM (zV (dR _ _) _));have Ao:W'.heap[q']?=Z (.cells (bx x).toArray T (0,0)):=by
    obtain⟨j,hj⟩:=bg (show K q' (bx x) T∈bN.rest (pw w0.heap.size W (K q' (bx x) T::(Hc s++F))) W::(Hc s'++(K q' (bx x) T::F)) by simp);exact tV.get hj
   have ho:=Am s s' _ W W' hW (λr o ho hn hle=>by
    rintro⟨e,he,hb⟩;rcases bD.1 he with rfl|he
    ·cases hb
     rw[h2]at ho;cases ho;cases hn
    ·exact jd s W hW r o ho hn hle ⟨e,he,hb⟩) Zc (λb hb hn=>by
    obtain⟨e,he,hb⟩:=hb;rcases bD.1 he with rfl|he
    ·cases hb
     exact Ao.trans h2.symm
    ·exact absurd (C4 s s0 b ⟨e,he,hb⟩) hn)
   exact⟨ho.1,ho.2,s',R6,Zc.sub (dR _ _),du Es ho.1.size⟩
  |_=>exact q.elim
 ·rintro akf ys W hD rfl ⟨s,hI,hW,_⟩ hd
  refine k akf s I hI _ W ⟨⟨hS.fr.size,by rw[hS.fr.defers],hS.fr.slot⟩,?_⟩;have hn:¬cH (Hc s++F) akf:=jd s W hW akf _ hd rfl hD;exact⟨hW.ch,λe he b hb=>by
   rcases bD.1 he with rfl|he
   ·cases hb
    exact⟨.inr I,(fv.1 hd).1⟩
   ·exact hW.own e he b hb,λe he w2 hs jg=>by
   rcases bD.1 he with rfl|he
   ·exact(jg akf rfl).trans hd
   ·exact hW.ok e he w2 hs jg,ew.2 ⟨λf hf b hb u1=>by cases hb;exact hn ⟨f,hf,u1⟩,hW.apart⟩⟩
 ·intro akf c pre W _ _ h
  exact h.elim
end
end
section
attribute [local go_sem] Oper.semAt_some
open Go.Shelf
def yG(l:List (List V))(k:Nat):List (Int×List V):=(List.range k).map λ(j:Nat)=>(((l.length-1-j:Nat):Int),l[l.length-1-j]?.getD [])
theorem yH(l:List (List V))(k:Nat):(yG l k).length=k:=by simp[yG]
set_option maxRecDepth 100000 in
set_option maxHeartbeats 2000000 in
theorem H4(n:Nat)(hn:1<=n){α:Type}(enc:α->Int×List V)(l Bs b off cap:Nat)(akc:Nat->Prop)(Kp:C->C->Prop)(hKr:∀W,Kp W W)(hKt:∀aka B akh,Kp aka B->Kp B akh->Kp aka akh)(WK:∀aka B,Kp aka B->∀p v,akc p.block->aka.cell? p=Z v->B.cell? p=Z v)(zs:List (List V))(xs:List α)(nK:xs.map enc=yG zs zs.length)(hlen:zs.length<=100000)(hb:zs≠[]->akc b)(aaC:akc Bs)(aj8 Jx:List α->C->Prop)(a:Option Addr)(ha:zs≠[]->a=Z ⟨b,off,A⟩)
  (hY:∀pre x W,aj8 pre W->pre.length<zs.length->YieldAt Fence.wide (n-1) ae l #[U O (enc x).1,au (enc x).2.toArray] W λe W'=>
   (e=.returned (D true)/\aj8 (pre++[x]) W'/\Kp W W')∨(e=.returned (D false)/\Jx (pre++[x]) W'))
  (W:C) (Q3:W.cell? ⟨Bs,0,A⟩=Z (J a zs.length cap)) (h8:∀akj∈zs,akj.length=8) (hc:∀m akj,zs[m]?=Z akj->∀j v,akj[j]?=Z v->W.cell? ⟨b,off+m*8+j,A⟩=Z v) (h0:aj8 [] W):
  CallsIn Fence.wide n ae 165 #[.func (.yield l) #[] #[],ar (Z ⟨Bs,0,A⟩)] W λe W'=>(∃v,e=.returned v)/\
   ((∃ys,ys=xs/\aj8 ys W')∨(∃pre,pre<+:xs/\Jx pre W')):=by
 refine callsIn_of_wp func165 rfl trivial ?_ rfl;simp only[ntmps165,List.size_toArray,gk,qD,Nat.reduceAdd,Nat.reduceSub,Array.replicate_succ,Array.replicate_zero,List.push_toArray,List.append_toArray,aO,aW];have ue:xs.length=zs.length:=by have:=congrArg List.length nK;rwa[aF,yH]at this
 have Th:wrap64 ((zs.length:Int)-1)=(zs.length:Int)-1:=uL _ I I
 gi_wp2
 gi_loopw [3] (λi wr=>∃m:Nat,m<=zs.length/\i=U O ((m:Int)-1)/\aj8 (xs.take (zs.length-m)) wr/\Kp W wr) (λi _=>(intOf i+1).toNat)
 case atStart=>exact⟨zs.length,bG _,by first|rfl|simp[Th],ax h0,hKr _⟩
 case round=>
  obtain⟨m,hm,rfl,hJs,hk⟩:=hrel;cases m with
  |zero=>
   gi_wp2
   go_end0
   exact⟨⟨_,rfl⟩,.inl ⟨xs,rfl,by rw[Nat.sub_zero,kh I]at hJs;exact hJs⟩⟩
  |succ m=>
   have eQ:zs≠[]:=by rintro rfl;simp at hm
   obtain rfl:=ha eQ;rw[show(((m+1:Nat):Int)-1)=(m:Int) by omega];obtain⟨akj,hz⟩:=bf zs m I;have hz8:=h8 akj (aq hz);obtain⟨c0,c1,c2,c3,c4,c5,c6,c7,rfl⟩:∃c0 c1 c2 c3 c4 c5 c6 c7,akj=[c0,c1,c2,c3,c4,c5,c6,c7]:=by
    match akj,hz8 with
    |[c0,c1,c2,c3,c4,c5,c6,c7],_=>exact⟨c0,c1,c2,c3,c4,c5,c6,c7,rfl⟩
   have Em:wr.cell? ⟨b,off+m*8,A⟩=Z c0:=WK _ _ hk ⟨b,off+m*8,A⟩ _ (hb eQ) (hc m _ hz 0 c0 rfl);have Pj:wr.cell? ⟨b,off+m*8+1,A⟩=Z c1:=WK _ _ hk ⟨b,off+m*8+1,A⟩ _ (hb eQ) (hc m _ hz 1 c1 rfl);have HF:wr.cell? ⟨b,off+m*8+2,A⟩=Z c2:=WK _ _ hk ⟨b,off+m*8+2,A⟩ _ (hb eQ) (hc m _ hz 2 c2 rfl);have Zj:wr.cell? ⟨b,off+m*8+3,A⟩=Z c3:=WK _ _ hk ⟨b,off+m*8+3,A⟩ _ (hb eQ) (hc m _ hz 3 c3 rfl);have hc4:wr.cell? ⟨b,off+m*8+4,A⟩=Z c4:=WK _ _ hk ⟨b,off+m*8+4,A⟩ _ (hb eQ) (hc m _ hz 4 c4 rfl);have hc5:wr.cell? ⟨b,off+m*8+5,A⟩=Z c5:=WK _ _ hk ⟨b,off+m*8+5,A⟩ _ (hb eQ) (hc m _ hz 5 c5 rfl);have hc6:wr.cell? ⟨b,off+m*8+6,A⟩=Z c6:=WK _ _ hk ⟨b,off+m*8+6,A⟩ _ (hb eQ) (hc m _ hz 6 c6 rfl);have hc7:wr.cell? ⟨b,off+m*8+7,A⟩=Z c7:=WK _ _ hk ⟨b,off+m*8+7,A⟩ _ (hb eQ) (hc m _ hz 7 c7 rfl);have hBx:wr.cell? ⟨Bs,0,A⟩=Z (J (Z ⟨b,off,A⟩) zs.length cap):=WK _ _ hk ⟨Bs,0,A⟩ _ aaC Q3;have bS:m<zs.length:=I;obtain⟨x,hx⟩:=bf xs (zs.length-(m+1)) I;have hex:enc x=((m:Int),[c0,c1,c2,c3,c4,c5,c6,c7]):=by
    have h1:(xs.map enc)[zs.length-(m+1)]?=Z (enc x):=by rw[aJ,hx];rfl
    rw[nK,yG,aJ,eX I]at h1;simp only[bu,b_]at h1;rw[<-h1,show zs.length-1-(zs.length-(m+1))=m by omega,hz];rfl
   have hY1:=hY _ x wr hJs (by rw[dd];omega);rw[hex]at hY1;have B4:xs.take (zs.length-(m+1))++[x]=xs.take (zs.length-m):=by
    rw[show zs.length-m=(zs.length-(m+1))+1 by omega,cz,hx];rfl
   rw[B4]at hY1;obtain⟨fn,tmps,assign,body,hy,hR⟩:=hY1
   dsimp only at hy
   have abG:wrap64 ((m:Int)-1)=(m:Int)-1:=uL _ I I
   gi_wp2
   refine hR.mono ?_;rintro e W3 (⟨rfl,hJ3,VQ⟩|⟨rfl,aaE⟩)
   ·gi_wp2
    go_roundw
    case rel=>exact⟨m,I,by first|rfl|simp[abG],hJ3,hKt _ _ _ hk VQ⟩
    case measure=>simp[intOf]
   ·gi_wp2
    refine bodyPost_ret (results_none rfl _ _ _) rfl ?_;exact⟨⟨_,rfl⟩,.inr ⟨_,List.take_prefix _ _,aaE⟩⟩
end
section
def k_(l:List cg)(r:Nat):Bool:=l.any λv=>v.z&&decide (v.n=r)
def j3(x:dJ):List cg:=(if (shape x.op).2.1 then[x.a]else[])++((if (shape x.op).2.2 then[x.b]else[])++x.args)
def ff(x:dJ):List cg:=if x.op=21 then[]else if x.op=20 then x.args else if (2<=x.op/\x.op<=15)∨x.op=19 then[x.a,x.b]else if 1<=x.op/\x.op<=22 then[x.a]else[]
def jb(R:Nat)(v:cg):Prop:=v.z=true->0<=v.n/\v.n<R
structure wV(R:Nat)(x:dJ):Prop where
 op:1<=x.op/\x.op<=22
 args:x.op≠20->x.args=[]
 dst:0<=x.dst->x.dst<R
 uJ:∀v∈j3 x,jb R v
theorem tH{R:Nat}{x:dJ}(h:wV R x):ff x=j3 x:=by
 have h1:=h.op;unfold ff j3 shape
 by_cases Y3:x.op=20
 ·simp[Y3]
 ·rw[h.args Y3]
  by_cases e21:x.op=21
  ·simp[e21]
  ·rw[if_neg e21,if_neg Y3]
   by_cases e1:((x.op=1∨x.op=16)∨x.op=17)∨x.op=18
   ·rw[if_pos e1,if_neg I,if_pos h1];simp
   ·rw[if_neg e1]
    by_cases e2:2<=x.op/\x.op<=15
    ·rw[if_pos e2,if_pos (.inl e2)];simp
    ·rw[if_neg e2]
     by_cases e3:x.op=19
     ·rw[if_pos e3,if_pos (.inr e3)];simp
     ·have e4:x.op=22:=I
      simp[e4]
def lQ(s:List Bool)(v:cg):List Bool:=if v.z then s.set v.n.toNat true else s
def wQ(s:List Bool)(x:dJ):List Bool:=(j3 x).foldl lQ (if 0<=x.dst then s.set x.dst.toNat false else s)
theorem ou(s:List Bool)(v:cg):(lQ s v).length=s.length:=by unfold lQ;split<;>simp
theorem zF(l:List cg):∀s:List Bool,(l.foldl lQ s).length=s.length:=by
 induction l with
 |nil=>exact λ_=>rfl
 |cons v l ih=>exact λs=>by rw[gj,ih,ou]
theorem vA(s:List Bool)(x:dJ):(wQ s x).length=s.length:=by unfold wQ;rw[zF];split<;>simp
def has(s:List Bool)(r:Nat):Prop:=s[r]?=Z true
theorem Af{s:List Bool}{v:cg}{r:Nat}(hv:jb s.length v):has (lQ s v) r↔(has s r∨(v.z=true/\v.n=r)):=by
 unfold lQ has
 by_cases h:v.z=true
 ·have:=hv h
  rw[if_pos h,ez]
  by_cases e:v.n.toNat=r
  ·rw[if_pos e,if_pos I]
   simp only[true_iff];exact .inr ⟨h,I⟩
  ·rw[if_neg e]
   exact⟨.inl,λh=>h.resolve_right λh=>e I⟩
 ·rw[if_neg h]
  exact⟨.inl,λh'=>h'.resolve_right λh'=>h h'.1⟩
theorem Fk{r:Nat}:∀(l:List cg) (s:List Bool),(∀v∈l,jb s.length v)->(has (l.foldl lQ s) r↔(has s r∨k_ l r=true))
 |[],s,_=>by simp[k_]
 |v::l,s,h=>by
  rw[gj,Fk l (lQ s v) (by rw[ou];exact λu hu=>h u (cO _ hu)),Af (h v aC)];simp only[k_,List.any_cons,Bool.or_eq_true,Bool.and_eq_true,decide_eq_true_eq,or_assoc]
theorem w_{s:List Bool}{d r:Nat}:has (s.set d false) r↔(has s r/\d≠r):=by
 unfold has;rw[ez]
 by_cases e:d=r
 ·subst e
  simp only[if_true,ne_eq,not_true_eq_false,and_false,iff_false]
  split<;>simp
 ·rw[if_neg e];simp[e]
theorem Sf{s:List Bool}{x:dJ}{r:Nat}(hx:wV s.length x):has (wQ s x) r↔(k_ (j3 x) r=true∨(x.dst≠r/\has s r)):=by
 unfold wQ;rw[Fk _ _ (by split<;>simpa using hx.uJ)]
 by_cases h:0<=x.dst
 ·rw[if_pos h,w_]
  constructor
  ·rintro(⟨h1,h2⟩|h1)
   ·exact .inr ⟨λe=>h2 I,h1⟩
   ·exact .inl h1
  ·rintro(h1|⟨h1,h2⟩)
   ·exact .inr h1
   ·exact .inl ⟨h2,λe=>h1 I⟩
 ·rw[if_neg h]
  constructor
  ·rintro(h1|h1)
   ·exact .inr ⟨I,h1⟩
   ·exact .inl h1
  ·rintro(h1|⟨_,h1⟩)
   ·exact .inr h1
   ·exact .inl h1
def aZ(bl:List E)(t:Nat):List Nat:=(List.range bl.length).filter λi=>decide ((t:Int)∈db bl i)
def fD(bl:List E)(t:Nat):List ep:=match bl[t]? with|some B=>B.aD|none=>[]
def iu:cg:=⟨false,0⟩
def uH(bl:List E)(t b r:Nat):Bool:=(fD bl t).any λp=>k_ [p.src[(aZ bl t).idxOf b]?.getD iu] r
structure YX(R np:Nat)(p:ep):Prop where
 dst:0<=p.dst/\p.dst<R
 len:p.src.length=np
 uJ:∀v∈p.src,jb R v
structure V7(R:Nat)(bl:List E)(b:Nat)(B:E):Prop where
 aD:∀p∈B.aD,YX R (aZ bl b).length p
 list:∀x∈B.list,wV R x
 on:jb R B.on
 to:B.to.Nodup
structure fu(R:Nat)(bl:List E):Prop where
 iM:cT bl
 block:∀b B,bl[b]?=Z B->V7 R bl b B
inductive ik(bl:List E)(r:Nat):Nat->Int->Prop
 |kN {b:Nat} {B:E}:bl[b]?=Z B->(∀p∈B.aD,p.dst≠r)->ik bl r b 0->ik bl r b (-1)
 |use {b i:Nat} {B:E} {x:dJ}:bl[b]?=Z B->B.list[i]?=Z x->k_ (ff x) r=true->ik bl r b i
 |go {b i:Nat} {B:E} {x:dJ}:bl[b]?=Z B->B.list[i]?=Z x->x.dst≠r->ik bl r b (i+1:Nat)->ik bl r b i
 |on {b:Nat} {B:E}:bl[b]?=Z B->k_ [B.on] r=true->ik bl r b B.list.length
 |take {b:Nat} {B:E} {j:Int} {t:Nat}:bl[b]?=Z B->(j=B.list.length∨j=B.list.length+1)->(t:Int)∈B.to->uH bl t b r=true->ik bl r b j
 |jump {b:Nat} {B:E} {j:Int} {t:Nat}:bl[b]?=Z B->(j=B.list.length∨j=B.list.length+1)->(t:Int)∈B.to->ik bl r t (-1)->ik bl r b j
def HS(bl:List E)(akb:Nat->Nat->Prop)(b r:Nat):Prop:=∃t:Nat,(t:Int)∈db bl b/\(uH bl t b r=true∨akb t r)
def MU(l:List dJ)(on:cg)(P:Nat->Prop)(r:Nat):Prop:=match l with
 |[]=>k_ [on] r=true∨P r
 |x::l=>k_ (ff x) r=true∨(x.dst≠r/\MU l on P r)
def Head(bl:List E)(akb:Nat->Nat->Prop)(b r:Nat):Prop:=∃B,bl[b]?=Z B/\(∀p∈B.aD,p.dst≠r)/\MU B.list B.on (HS bl akb b) r
theorem HS.mono{bl:List E}{akb aj8:Nat->Nat->Prop}(h:∀t r,akb t r->aj8 t r){b r:Nat}(k:HS bl akb b r):HS bl aj8 b r:=by
 obtain⟨t,h1,h2⟩:=k;exact⟨t,h1,h2.imp id (h t r)⟩
theorem MU.mono{on:cg}{P Q:Nat->Prop}(h:∀r,P r->Q r):∀{l:List dJ} {r:Nat},MU l on P r->MU l on Q r
 |[],r,k=>k.imp id (h r)
 |_::_,_,k=>k.imp id λ⟨h1,h2⟩=>⟨h1,MU.mono h h2⟩
theorem Head.mono{bl:List E}{akb aj8:Nat->Nat->Prop}(h:∀t r,akb t r->aj8 t r){b r:Nat}(k:Head bl akb b r):Head bl aj8 b r:=by
 obtain⟨B,h1,h2,h3⟩:=k;exact⟨B,h1,h2,MU.mono (λr=>HS.mono h) h3⟩
theorem H8{bl:List E}{akb:Nat->Nat->Prop}(h:∀t r,akb t r->ik bl r t (-1)){b r:Nat}{B:E}(hB:bl[b]?=Z B){j:Int}(hj:j=B.list.length∨j=B.list.length+1)(k:HS bl akb b r):ik bl r b j:=by
 obtain⟨t,h1,h2⟩:=k;rw[fY hB]at h1;rcases h2 with h2|h2
 ·exact .take hB hj h1 h2
 ·exact .jump hB hj h1 (h t r h2)
theorem Kc{bl:List E}{b r:Nat}{B:E}(hB:bl[b]?=Z B){P:Nat->Prop}(hP:P r->ik bl r b B.list.length):∀(l:List dJ) (i:Nat),B.list.drop i=l->MU l B.on P r->i<=B.list.length->ik bl r b i
 |[],i,hd,k,hle=>by
  have hi:i=B.list.length:=by
   have:=List.drop_eq_nil_iff.1 hd;omega
  subst hi;exact k.elim (λh=>.on hB h) hP
 |x::l,i,hd,k,hle=>by
  have bS:i<B.list.length:=by
   by_cases h:i<B.list.length
   ·exact h
   ·rw[List.drop_eq_nil_of_le I]at hd;cases hd
  have hx:B.list[i]?=Z x:=by
   have:=congrArg (λl=>l[0]?) hd;simpa using this
  have hd':B.list.drop (i+1)=l:=by
   have:=congrArg (List.drop 1) hd;simpa[List.drop_drop]using this
  rcases k with k|⟨k1,k2⟩
  ·exact .use hB hx k
  ·exact .go hB hx k1 (Kc hB hP l (i+1) hd' k2 I)
theorem Pm{bl:List E}{akb:Nat->Nat->Prop}(h:∀t r,akb t r->ik bl r t (-1)){b r:Nat}(k:Head bl akb b r):ik bl r b (-1):=by
 obtain⟨B,hB,h2,h3⟩:=k;exact .kN hB h2 (Kc hB (λhP=>H8 h hB (.inl rfl) hP) B.list 0 rfl h3 (aT _))
theorem Bm{bl:List E}{akb:Nat->Nat->Prop}{r:Nat}(h:∀b,Head bl akb b r->akb b r){b:Nat}{j:Int}(k:ik bl r b j):
  ∀B,bl[b]?=Z B->(j=-1->akb b r)/\(∀i:Nat,j=i->i<=B.list.length->MU (B.list.drop i) B.on (HS bl akb b) r)/\(j=B.list.length+1->HS bl akb b r):=by
 induction k with
 |@kN b B hB hp _ ih=>
  intro B' sZ;rw[hB]at sZ;cases sZ;have h1:=(ih B hB).2.1 0 rfl (aT _);exact⟨λ_=>h b ⟨B,hB,hp,h1⟩,λi hi=>I,λhj=>I⟩
 |@use b i B x hB hx hn=>
  intro B' sZ;rw[hB]at sZ;cases sZ;have bS:=(az.1 hx).1;refine⟨λe=>I,λi' yY _=>?_,λhj=>I⟩;have:i'=i:=I;subst this;rw[lR bS,show B.list[i']=x from(az.1 hx).2];exact .inl hn
 |@go b i B x hB hx hd _ ih=>
  intro B' sZ;rw[hB]at sZ;cases sZ;have bS:=(az.1 hx).1;refine⟨λe=>I,λi' yY _=>?_,λhj=>I⟩;have:i'=i:=I;subst this;rw[lR bS,show B.list[i']=x from(az.1 hx).2];exact .inr ⟨hd,(ih B hB).2.1 (i'+1) rfl I⟩
 |@on b B hB hn=>
  intro B' sZ;rw[hB]at sZ;cases sZ;refine⟨λe=>I,λi' yY _=>?_,λhj=>I⟩;have:i'=B.list.length:=I;subst this;rw[iU];exact .inl hn
 |@take b B j t hB hj ht hk=>
  intro B' sZ;rw[hB]at sZ;cases sZ;have hb:HS bl akb b r:=⟨t,by rw[fY hB];exact ht,.inl hk⟩;refine⟨λe=>I,λi' yY hle=>?_,λ_=>hb⟩;have:i'=B.list.length:=I;subst this;rw[iU];exact .inr hb
 |@jump b B j t hB hj ht _ ih=>
  intro B' sZ;rw[hB]at sZ;cases sZ;have hb:HS bl akb b r:=by
   refine⟨t,by rw[fY hB];exact ht,.inr ?_⟩;cases hT:bl[t]? with
   |some T=>exact(ih T hT).1 rfl
   |none=>
    rename_i hl;cases hl with
    |kN K_=>rw[hT]at K_;cases K_
    |take K_=>rw[hT]at K_;cases K_
    |jump K_=>rw[hT]at K_;cases K_
  refine⟨λe=>I,λi' yY hle=>?_,λ_=>hb⟩;have:i'=B.list.length:=I;subst this;rw[iU];exact .inr hb
theorem A6(i t:Nat):∀(l:List Int) (rows:List (List Int)),(∀akj∈l,0<=akj)->(l.foldl (qz i) rows)[t]?=rows[t]?.map (·++(l.filter λakj:Int=>decide (akj=(t:Int))).map λ_=>(i:Int))
 |[],rows,_=>by
  simp only[List.foldl_nil,List.filter_nil,dn,cD];cases rows[t]?<;>rfl
 |akj::l,rows,h=>by
  rw[gj,A6 i t l _ λy hy=>h y (cO _ hy)];have hz:=h akj aC;unfold qz;rw[mM]
  by_cases e:akj.toNat=t
  ·have e2:akj=t:=I
   rw[e];cases rows[t]? with
   |none=>simp
   |some r=>simp[e2]
  ·have e2:¬akj=t:=I
   cases hr:rows[t]? with
   |none=>simp
   |some r=>simp[e,e2]
theorem filter_one{l:List Int}(hn:l.Nodup)(t:Int):l.filter (λakj:Int=>decide (akj=t))=if t∈l then[t]else[]:=by
 induction l with
 |nil=>simp
 |cons akj l ih=>
  rw[mO]at hn;have:=ih hn.2
  by_cases e:akj=t
  ·subst e
   rw[List.filter_cons_of_pos aC,this,if_neg hn.1,if_pos aC]
  ·rw[List.filter_cons_of_neg (ax e),this]
   by_cases h:t∈l
   ·rw[if_pos h,if_pos (cO _ h)]
   ·rw[if_neg h,if_neg (by simp only[bD,not_or];exact⟨λh=>e h.symm,h⟩)]
theorem A7{bl:List E}(cY:cT bl)(ii:∀(b:Nat) (B:E),bl[b]?=Z B->B.to.Nodup){t:Nat}(ht:t<bl.length):∀i,i<=bl.length->(j8 bl i)[t]?=Z (((List.range i).filter λi=>decide ((t:Int)∈db bl i)).map λx:Nat=>(x:Int))
 |0,_=>by simp[j8,ht]
 |i+1,hi=>by
  obtain⟨B,hB⟩:=bf bl i I;simp only[j8,hB];rw[A6 i t _ _ λakj hz=>((cY B (aq hB)).2 akj hz).1,A7 cY ii ht i I,filter_one (ii i B hB),kU,nU,bz];simp only[bu,b_];congr 1
  by_cases h:(t:Int)∈B.to
  ·rw[if_pos h];simp[fY hB,h]
  ·rw[if_neg h];simp[fY hB,h]
theorem gu{bl:List E}(cY:cT bl)(ii:∀(b:Nat) (B:E),bl[b]?=Z B->B.to.Nodup){t:Nat}(ht:t<bl.length):(be bl)[t]?=Z ((aZ bl t).map λx:Nat=>(x:Int)):=A7 cY ii ht bl.length (bG _)
theorem nG{R:Nat}{v:cg}(h:dV R v=0):jb R v:=by
 intro hr;unfold dV within at h;rw[hr]at h
 by_cases h1:0<=v.n
 ·by_cases h2:v.n<=(R:Int)-1
  ·exact⟨h1,I⟩
  ·simp[h2]at h
 ·simp[h1]at h
theorem E9{R:Nat}{n:Int}(h:km R n=0):0<=n/\n<R:=by
 unfold km within at h
 by_cases h1:0<=n
 ·by_cases h2:n<=(R:Int)-1
  ·exact⟨h1,I⟩
  ·simp[h2]at h
 ·simp[h1]at h
theorem nR{α:Type}{f:α->Int}{l:List α}(h:(eh (j4 l f) l.length).1=0):∀x∈l,f x=0:=λx hx=>by
 obtain⟨j,hj⟩:=bg hx;have:=jc h j (az.1 hj).1;simpa[j4,hj]using this
theorem Aq{fs:List aY}{R:Nat}{x:dJ}(h:eu fs R x=0):wV R x:=by
 unfold eu at h
 split at h
 ·cases h
 rename_i h1
 split at h
 ·cases h
 rename_i h2
 split at h
 ·rename_i h3
  simp only[Bool.and_eq_true,Bool.not_eq_true',decide_eq_false_iff_not]at h3;exact absurd h h3.2
 rename_i h3
 split at h
 ·rename_i h4;exact absurd h h4
 rename_i h4
 split at h
 ·rename_i h5;exact absurd h h5
 rename_i h5;have Fp:1<=x.op/\x.op<=22:=by simpa[within]using h1
 simp only[rJ,Bool.or_eq_true,Bool.and_eq_true,Bool.not_eq_true',decide_eq_false_iff_not,decide_eq_true_eq,not_or,not_and,Decidable.not_not,Bool.not_eq_false]at h2;simp only[ne_eq,Decidable.not_not]at h4 h5;have ac8:x.op≠20->x.args=[]:=λe=>by
  have:=(h2.2 e).2;exact lk I
 refine⟨Fp,ac8,λhd=>?_,λv hv=>?_⟩
 ·by_cases hs:(shape x.op).1=true
  ·simp only[Bool.and_eq_true,Bool.not_eq_true',decide_eq_false_iff_not,hs,true_and,not_and,Decidable.not_not,Bool.and_eq_false_iff]at h3
   have:=h3 (by
    by_cases e:x.op=20
    ·right;omega
    ·left;exact e)
   exact(E9 this).2
  ·have:=h2.1.1.1 (ax hs)
   omega
 ·unfold j3 at hv
  rcases bA.1 hv with hv|hv
  ·split at hv
   ·simp only[bR]at hv;subst hv;exact nG h4
   ·cases hv
  ·rcases bA.1 hv with hv|hv
   ·split at hv
    ·simp only[bR]at hv;subst hv;exact nG h5
    ·cases hv
   ·unfold gK at h
    by_cases e:x.op=20
    ·rw[if_neg (ax e)]at h
     split at h
     ·cases h
     ·split at h
      ·cases h
      ·exact nG (nR h v hv)
    ·rw[ac8 e]at hv;cases hv
theorem E_{n R:Nat}{b:E}(h:k9 n R b=0):jb R b.on/\b.to.Nodup:=by
 unfold k9 wI at h
 split at h
 ·cases h
 rename_i h1
 split at h
 ·cases h
 rename_i h2
 split at h
 ·cases h
 split at h
 ·cases h
 rename_i h4;refine⟨nG h,?_⟩;simp only[within,Bool.not_eq_true',Bool.and_eq_false_iff,decide_eq_false_iff_not,not_or,Decidable.not_not]at h1;simp only[ne_eq,Decidable.not_not]at h2;simp only[Bool.or_eq_true,Bool.and_eq_true,decide_eq_true_eq,not_or,not_and]at h4;have h5:=h4.1;generalize b.to=l at h2 h5
 match l,h2,h5 with
 |[],_,_=>simp
 |[x],_,_=>simp
 |[x,y],h2,h5=>
  have:=h5 (by simp at h2;omega);simp at this;simp[this]
 |x::y::akj::l,h2,_=>simp at h2;omega
theorem yM{fs:List aY}{f:aY}{R:Nat}(hR:f.aB=R)(h:gJ fs f=0):fu R f.blocks:=by
 have hg:=Gk h;unfold gJ at h
 split at h
 ·rename_i h1;exact absurd h h1
 rename_i h1;have EI:=nR (by simpa using h1:(eh (j4 f.blocks (k9 f.blocks.length f.aB)) f.blocks.length).1=0);rw[hR]at EI;have ii:∀(b:Nat) (B:E),f.blocks[b]?=Z B->B.to.Nodup:=λb B hB=>(E_ (EI B (aq hB))).2;refine⟨hg,λb B hB=>?_⟩;have hb:=jc h b (az.1 hB).1;simp only[jN,hB]at hb
 split at hb
 ·rename_i h2;exact absurd hb h2
 rename_i h2;have Dd:=nR (by simpa using h2:(eh (j4 B.aD (ng f.aB f.blocks b)) B.aD.length).1=0);have pS:=nR hb;rw[hR]at Dd pS;refine⟨λp hp=>?_,λx hx=>Aq (pS x hx),(E_ (EI B (aq hB))).1,ii b B hB⟩;have wi:=Dd p hp;unfold ng zk at wi
 split at wi
 ·cases wi
 split at wi
 ·rename_i h3;exact absurd wi h3
 rename_i h3
 split at wi
 ·cases wi
 rename_i h4;rw[gu hg ii (az.1 hB).1]at h4;simp only[dW,aF,ne_eq,Decidable.not_not]at h4;exact⟨E9 (ax h3),I,λv hv=>nG (nR wi v hv)⟩
theorem mY{u:a8}(h:(dA u).1=0){k:Nat}{X:aY}(hX:u.funcs[k]?=Z X):0<=X.params/\X.params<=X.aB/\X.aB<=100:=by
 unfold dA at h
 split at h
 ·cases h
 ·split at h
  ·rename_i h2;exact absurd h h2
  ·split at h
   ·rename_i h2;exact absurd h h2
   ·rename_i h3
    have hz:=jc (ax h3);have:=hz k (az.1 hX).1;simp only[mm,j4,hX,lX]at this
    split at this
    ·cases this
    split at this
    ·cases this
    split at this
    ·cases this
    rename_i h4;simp only[within,Bool.or_eq_true,Bool.not_eq_true',Bool.and_eq_false_iff,decide_eq_false_iff_not,not_or,Decidable.not_not]at h4;omega
theorem oO{u:a8}(h:(dA u).1=0){k:Nat}{X:aY}(hX:u.funcs[k]?=Z X):∃R:Nat,X.aB=R/\R<=100/\fu R X.blocks:=by
 have h1:=mY h hX;refine⟨X.aB.toNat,I,I,yM I (tN h X (aq hX))⟩
theorem Ng{R:Nat}{on:cg}{P:Nat->Prop}{s:List Bool}(hs:s.length=R)(h0:∀r,has s r↔MU [] on P r):∀l:List dJ,(∀x∈l,wV R x)->(l.reverse.foldl wQ s).length=R/\∀r,has (l.reverse.foldl wQ s) r↔MU l on P r
 |[],_=>⟨hs,h0⟩
 |x::l,h=>by
  have ih:=Ng hs h0 l λy hy=>h y (cO _ hy);have hx:=h x aC;rw[List.reverse_cons,pF];simp only[gj,List.foldl_nil];refine⟨by rw[vA];exact ih.1,λr=>?_⟩;rw[Sf (by rw[ih.1];exact hx),ih.2 r];simp only[MU];rw[tH hx]
theorem IT{r:Nat}:∀(l:List ep) (s:List Bool),(∀p∈l,0<=p.dst)->(has (l.foldl (λs p=>s.set p.dst.toNat false) s) r↔(has s r/\∀p∈l,p.dst≠r))
 |[],s,_=>by simp
 |p::l,s,h=>by
  have hp:=h p aC;rw[gj,IT l _ λq hq=>h q (cO _ hq),w_];simp only[bD,forall_eq_or_imp,and_assoc];constructor
  ·rintro⟨h1,h2,h3⟩;exact⟨h1,λe=>h2 I,h3⟩
  ·rintro⟨h1,h2,h3⟩;exact⟨h1,λe=>h2 I,h3⟩
def Sr(B:E)(s:List Bool):List Bool:=B.aD.foldl (λs p=>s.set p.dst.toNat false) (B.list.reverse.foldl wQ (lQ s B.on))
theorem Pf{R:Nat}{bl:List E}{b:Nat}{B:E}{akb:Nat->Nat->Prop}(hf:fu R bl)(hB:bl[b]?=Z B){s:List Bool}(hs:s.length=R)(h:∀r,has s r↔HS bl akb b r)(r:Nat):has (Sr B s) r↔Head bl akb b r:=by
 have ho:=hf.block b B hB;unfold Sr;have h1:∀r,has (lQ s B.on) r↔MU [] B.on (HS bl akb b) r:=λr=>by
  rw[Af (by rw[hs];exact ho.on),h r];simp only[MU,k_,List.any_cons,List.any_nil,Bool.or_false,Bool.and_eq_true,decide_eq_true_eq];exact or_comm
 have h2:=Ng (by rw[ou];exact hs) h1 B.list ho.list;rw[IT _ _ λp hp=>(ho.aD p hp).dst.1,h2.2 r];constructor
 ·rintro⟨h3,h4⟩;exact⟨B,hB,h4,h3⟩
 ·rintro⟨B',sZ,h3,h4⟩
  rw[hB]at sZ;cases sZ;exact⟨h4,h3⟩
section
variable {P:Program} {N:Nat} {ds:List Deferred} {S:Nat->Prop} {w0:C} {L:List (Nat×V)} {H:List bN} {ops:Array Oper} {rest:List Oper} {Q:Exit->Act->C->Prop} {p:Act->C->Prop}
theorem rF{a:Act}{w:C}(hF:Fr N ds L a)(h:aki N ds cX w L [] p):p a w:=h a w ⟨hF,Wd.nil cX w⟩
theorem GF{d ty l m:Nat}{args:List Operand}{vs:List V}{pA:Array Nat}{pos:String}{aft:Array Go.Edge}{x:Operand}(R:C->V->C->Prop)[hf:Ev L x (.func (.yield l) #[] #[])][hx:AY L args vs](hd:dy d N L=true)
  (hc:∀w,Wd S w0 H w->YieldAt (FW A) m P l vs.toArray w λe w'=>∃v,e=.returned v/\R w v w')
  (k:∀v w w',Wd S w0 H w->R w v w'->∀a,Fr N ds ((d,v)::L) a->wpListIn (FW A) 0 P ops Q rest a w'):aki N ds S w0 L H (wpListIn (FW A) 0 P ops Q (⟨Z d,.call {callee:=.value x,args:=args.toArray,argTypes:=pA},ty,pos,aft,A⟩::rest)):=by
 intro a w hS;obtain⟨fn,tmps,assign,body,hy,hR⟩:=hc w hS.wd;refine wpListIn_plain rfl λakc hK=>?_;refine⟨λ_ _=>trivial,?_⟩;rw[vP _ _ _ (λ_ h=>by cases h)];have hr:(execOp a.eval ⟨Z d,.call {callee:=.value x,args:=args.toArray,argTypes:=pA},ty,pos,aft,A⟩).run P w=.ok (.round l fn tmps assign body) w:=by
  simp[execOp,resolve,hf.eq _ _ _ hS.fr,Deferred.ofValue,invoke,hx.eq _ _ _ hS.fr,hy]
 rw[hr];refine⟨λh=>(by cases h),?_⟩;have hR0:RoundIn (FW A) (0-1) P l fn tmps assign body w λe w'=>∃v,e=.returned v/\R w v w':=⟨hR.1,λc cs _=>hR.2 c cs (λd hd=>by cases hd)⟩;refine hR0.mono λe w' ⟨v,he,hv⟩=>?_;subst he;exact hK _ _ (k v w w' hS.wd hv _ (hS.fr.eo hd v))
theorem M7{ro:Option Nat}{l l1 l2:List Oper}(d:Nat)(akd:Act->C->Prop)[hs:yq l d l1 l2](h1:aki N ds S w0 L H (wpListIn (FW ro) 0 P ops (Exit.then akd Q) l1))(h2:∀a w,akd a w->wpListIn (FW ro) 0 P ops Q l2 a w):aki N ds S w0 L H (wpListIn (FW ro) 0 P ops Q l):=λa w hS=>by
 obtain⟨n,e1,e2⟩:=hs.eq;exact AU (akd:=akd) n (λa w h=>by rw[e2];exact h2 a w h) (by rw[e1];exact h1 a w hS)
end
theorem bF.mono{w w':C}(h:∀p v,w.cell? p=Z v->w'.cell? p=Z v){b o:Nat}{cs:List V}(hc:bF w b o cs):bF w' b o cs:=λj v hj=>h _ _ (hc j v hj)
theorem aG.mono{α:Type}{ake:C->α->List V->Prop}{w w':C}(hV:∀x cs,ake w x cs->ake w' x cs)(h:∀p v,w.cell? p=Z v->w'.cell? p=Z v){v:V}{s:Nat}{l:List α}(hs:aG w v s l ake):aG w' v s l ake:=by
 obtain⟨a,n,c,b,o,h1,h2,h3,hz,h4,h5,h6⟩:=hs;refine⟨a,n,c,b,o,h1,h2,h3,hz,h4,h5,λi x hx=>?_⟩;obtain⟨cs,hc,hv⟩:=h6 i x hx;exact⟨cs,hc.mono h,hV x cs hv⟩
theorem l_.cells{w w':C}(h:l_ cX w w'):∀p v,w.cell? p=Z v->w'.cell? p=Z v:=λ_ _ hc=>fJ h hc
theorem xM{β:Type}{B:Nat}{aj8:β->C->Prop}(h:AbidesFrom B aj8){s:β}{w w':C}(hc:l_ cX w w')(hs:aj8 s w):aj8 s w':=
 h s w w' A hs ⟨hc.os,hc.tape,hc.output,hc.size,λk hk _=>hc.block k hk λh=>h⟩ (λr e=>by cases e)
attribute [local irreducible] wpListIn Code.wpIn Exit.then Exit.inBlock bodyPost wpQuiet wpAnyIn
set_option maxHeartbeats 4000000
theorem Vv(x:dJ)(xv:V)(hxv:∃a n c,xv=J a n c)(w0:C):
  iC ae 138 [au #[U O x.op,U O x.dst,D x.a.z,U O x.a.n,D x.b.z,U O x.b.n,U O x.fn,xv]] w0 λu w'=>∃p:Nat,u=.func (.func 164) #[] #[ar (Z ⟨p,0,A⟩)]/\Wd cX w0 [K p [U O x.op,U O x.dst,D x.a.z,U O x.a.n,D x.b.z,U O x.b.n,U O x.fn,xv] 56] w'/\True:=by
 obtain⟨a,n,c,rfl⟩:=hxv;refine aM func138 rfl ntmps138 rfl (Wd.nil cX w0) ?_
 repeat(first|refine aH ?_|refine dZ λ_ _=>?_)
 exact cE rfl λw hw=>⟨_,rfl,hw,trivial⟩
theorem Ow{α:Type}(enc:α->cg)(x:dJ)(va:Option Addr)(vn vc:Nat)(xs:List α)(nK:xs.map enc=j3 x)(hlen:x.args.length<=100000)(l bp:Nat)(own:Nat->Prop)(wz:C)(rq:aG wz (J va vn vc) 2 x.args mi)(abp:∀p v,wz.cell? p=Z v->¬own p.block)(hbp:¬own bp)(W:C)(ad7:∀b,W.heap.size<=b->¬own b)(aj8 Jx:List α->C->Prop)(B:Nat)(hJ:AbidesFrom B aj8)(WJ:AbidesFrom B Jx)
  (hY:∀pre y W,aj8 pre W->pre.length<xs.length->YieldAt (FW A) 3 ae l #[au #[D (enc y).z,U O (enc y).n]] W λe W'=>
   (e=.returned (D true)/\aj8 (pre++[y]) W'/\kT own W W')∨(e=.returned (D false)/\Jx (pre++[y]) W'))
  (hz:∀p v,wz.cell? p=Z v->W.cell? p=Z v) (hc:bF W bp 0 [U O x.op,U O x.dst,D x.a.z,U O x.a.n,D x.b.z,U O x.b.n,U O x.fn,J va vn vc]) (h0:aj8 [] W):
  iC ae 164 [.func (.yield l) #[] #[],ar (Z ⟨bp,0,A⟩)] W λ_ W'=>(∃ys,ys=xs/\aj8 ys W')∨(∃pre,pre<+:xs/\Jx pre W'):=by
 have aix:a6 W bp 0 _:=⟨hc⟩;refine aM func164 rfl ntmps164 rfl (Wd.nil cX W) ?_;refine aU ?_;refine bB rfl (λw hw=>J6 x.op w) ?_
 repeat(first|refine aE ?_|refine dZ λ_ _=>?_)
 rename_i p3 hp3;have agc:∀j v,(j3 x)[j]?=Z v->∃y,xs[j]?=Z y/\enc y=v:=λj v hj=>by
  rw[<-nK,aJ]at hj;obtain⟨y,hy,e⟩:=cA.1 hj;exact⟨y,hy,e⟩
 have ue:xs.length=(j3 x).length:=by have:=congrArg List.length nK;rwa[aF]at this
 have B4:∀j y,xs[j]?=Z y->xs.take j++[y]=xs.take (j+1):=λj y hy=>by rw[cz,hy];rfl
 have step:∀j v,(j3 x)[j]?=Z v->∀w,aj8 (xs.take j) w->YieldAt (FW A) 3 ae l [au #[D v.z,U O v.n]].toArray w λe W'=>∃u,e=.returned u/\((u=D true/\aj8 (xs.take (j+1)) W'/\kT own w W')∨(u=D false/\Jx (xs.take (j+1)) W')):=λj v hj w hJw=>by
  obtain⟨y,hy,rfl⟩:=agc j v hj;have bS:=(az.1 hy).1;have:=hY (xs.take j) y w hJw (by rw[dd];omega);rw[B4 j y hy]at this;exact this.mono λe W' h=>h.elim (λ⟨h1,h2,h3⟩=>⟨_,h1,.inl ⟨rfl,h2,h3⟩⟩) λ⟨h1,h2⟩=>⟨_,h1,.inr ⟨rfl,h2⟩⟩
 have Tz:∀w,(∀p v,wz.cell? p=Z v->w.cell? p=Z v)->∀w',kT own w w'->∀p v,wz.cell? p=Z v->w'.cell? p=Z v:=λw h w' hk p v hp=>hk.cell (abp p v hp) (h p v hp);have Ty:∀b cs,¬own b->∀w,bF w b 0 cs->∀w',kT own w w'->bF w' b 0 cs:=λb cs hb w h w' hk j v hj=>hk.cell hb (h j v hj);unfold j3 at ue step;generalize shape x.op=sh at ue step⊢;obtain⟨s1,sA,sB⟩:=sh;simp only at ue step⊢;have hn3:¬own p3:=ad7 p3 hp3;refine M7 18 (λa w=>(Fr 41 [] [(18,D false),aj 3 p3,(0,.func (.yield l) #[] #[]),aj 1 bp] a/\aj8 (xs.take (if sA then 1 else 0)) w/\(∀p v,wz.cell? p=Z v->w.cell? p=Z v)/\bF w bp 0 [U O x.op,U O x.dst,D x.a.z,U O x.a.n,D x.b.z,U O x.b.n,U O x.fn,J va vn vc]/\bF w p3 0 [D s1,D sA,D sB])∨(Fr 41 [] [(18,D true),(0,.func (.yield l) #[] #[]),aj 1 bp] a/\∃pre,pre<+:xs/\Jx pre w)) ?_ ?_
 ·cases sA
  ·refine iL ?_
   exact λa w hS=>.inl ⟨hS.fr.to ap,xM hJ hS.wd.ch (ax h0),λp v h=>fJ hS.wd.ch (hz p v h),hc.bZ hS.wd.ch,hS.wd.gL p3⟩
  ·refine aE ?_
   refine GF (m:=3) (λw v w'=>(v=D true/\aj8 (xs.take 1) w'/\kT own w w')∨(v=D false/\Jx (xs.take 1) w')) rfl (λw hw=>step 0 x.a rfl w (xM hJ hw.ch (ax h0))) λv w w' hw hR a hF=>?_;rcases hR with⟨rfl,R7,hk⟩|⟨rfl,R7⟩
   ·have nO:=Ty bp _ hbp w (hc.bZ hw.ch) w' hk
    have sY:=Ty p3 _ hn3 w (hw.gL p3) w' hk;have hz':=Tz w (λp v h=>fJ hw.ch (hz p v h)) w' hk;refine rF hF ?_;refine aE ?_;exact λa w hS=>.inl ⟨hS.fr.to ap,xM hJ hS.wd.ch R7,λp v h=>fJ hS.wd.ch (hz' p v h),nO.bZ hS.wd.ch,sY.bZ hS.wd.ch⟩
   ·refine rF hF ?_
    refine aE ?_;exact λa w hS=>.inr ⟨hS.fr.to ap,_,List.take_prefix _ _,xM WJ hS.wd.ch R7⟩
 intro a w hM;rcases hM with⟨hF,hJA,hzA,hbA,h3A⟩|⟨hF,pre,wP,hJA⟩
 case inr=>
  refine rF hF ?_;refine iL ?_;exact K6 rfl λw' ek=>.inr ⟨pre,wP,xM WJ ek.ch hJA⟩
 refine rF hF ?_;have hbi:a6 w bp 0 _:=⟨hbA⟩;have h3i:a6 w p3 0 _:=⟨h3A⟩;refine aE ?_;refine M7 28 (λa w=>(Fr 41 [] [(28,D false),(0,.func (.yield l) #[] #[]),aj 1 bp] a/\aj8 (xs.take ((if sA then 1 else 0)+(if sB then 1 else 0))) w/\(∀p v,wz.cell? p=Z v->w.cell? p=Z v)/\bF w bp 0 [U O x.op,U O x.dst,D x.a.z,U O x.a.n,D x.b.z,U O x.b.n,U O x.fn,J va vn vc])∨(Fr 41 [] [(28,D true),(0,.func (.yield l) #[] #[]),aj 1 bp] a/\∃pre,pre<+:xs/\Jx pre w)) ?_ ?_
 ·cases sB
  ·refine iL ?_
   exact λa w2 hS=>.inl ⟨hS.fr.to ap,xM hJ hS.wd.ch (ax hJA),λp v h=>fJ hS.wd.ch (hzA p v h),hbA.bZ hS.wd.ch⟩
  ·refine aE ?_
   refine GF (m:=3) (λw v w'=>(v=D true/\aj8 (xs.take ((if sA then 1 else 0)+1)) w'/\kT own w w')∨(v=D false/\Jx (xs.take ((if sA then 1 else 0)+1)) w')) rfl (λw2 hw=>step (if sA then 1 else 0) x.b (by cases sA<;>rfl) w2 (xM hJ hw.ch hJA)) λv w2 w' hw hR a hF=>?_;rcases hR with⟨rfl,R7,hk⟩|⟨rfl,R7⟩
   ·have nO:=Ty bp _ hbp w2 (hbA.bZ hw.ch) w' hk
    have hz':=Tz w2 (λp v h=>fJ hw.ch (hzA p v h)) w' hk;refine rF hF ?_;refine aE ?_;exact λa w hS=>.inl ⟨hS.fr.to ap,xM hJ hS.wd.ch R7,λp v h=>fJ hS.wd.ch (hz' p v h),nO.bZ hS.wd.ch⟩
   ·refine rF hF ?_
    refine aE ?_;exact λa w hS=>.inr ⟨hS.fr.to ap,_,List.take_prefix _ _,xM WJ hS.wd.ch R7⟩
 intro a w hM;rcases hM with⟨hF,hJB,hzB,GH⟩|⟨hF,pre,wP,hJB⟩
 case inr=>
  refine rF hF ?_;refine aE ?_;exact K6 rfl λw' ek=>.inr ⟨pre,wP,xM WJ ek.ch hJB⟩
 refine rF hF ?_;have aiw:a6 w bp 0 _:=⟨GH⟩;refine aH ?_;generalize Em:(if sA=true then 1 else 0)+(if sB=true then 1 else 0)=c0 at hJB;have hn:vn=x.args.length:=by
  obtain⟨_,_,_,_,_,e,h,_⟩:=rq;simp only[Value.slice.injEq]at e;rw[e.2.1];exact h
 have r7:∀i v,x.args[i]?=Z v->((if sA=true then[x.a]else[])++((if sB=true then[x.b]else[])++x.args))[c0+i]?=Z v:=λi v hi=>by
  subst Em;cases sA<;>cases sB<;>simp[hi,Nat.add_comm]
 have ajY:xs.length=c0+x.args.length:=by
  subst Em;rw[ue];cases sA<;>cases sB<;>simp<;>omega
 intro a w1 hS1;have hJ1:=xM hJ hS1.wd.ch hJB;have HN:=λp v h=>fJ hS1.wd.ch (hzB p v h);have hF1:=hS1.fr;refine KJ (λ(i:Nat) a w=>i<=vn/\Fr 41 [] [(32,U O (i:Int)),(30,J va vn vc),(31,U O vn),(0,.func (.yield l) #[] #[]),aj 1 bp] a/\aj8 (xs.take (c0+i)) w/\∀p v,wz.cell? p=Z v->w.cell? p=Z v) (λi=>vn-i) 0 ⟨aT _,hF1.to ap,ax hJ1,HN⟩ ?_;rintro i a w ⟨hi,hF,hJi,hzi⟩;refine rF hF ?_;refine aU ?_;refine aI (λh1=>?_) (λh1=>?_)
 ·have bS:i<vn:=ax h1
  obtain⟨v,hv⟩:=bf x.args i I;have S8:aG w (J va vn vc) 2 x.args mi:=aG.mono (w:=wz) (w':=w) (ake:=mi) (λ_ _ h=>h) hzi rq;obtain⟨va',vn',vc',vb,vo,e,HM,_,_,_,oC,Jl⟩:=S8;simp only[Value.slice.injEq]at e;obtain⟨rfl,rfl,rfl⟩:=e;have oW:bU va vb vo:=⟨oC (aL hv)⟩;have lY:bY i vn:=⟨bS⟩;obtain⟨cs,fT,rfl,_⟩:=Jl i v hv;have n_:a6 w vb (vo+i*2) _:=⟨fT⟩
  repeat(first|refine aE ?_|refine dZ λ_ _=>?_)
  refine GF (m:=3) (λw v w'=>(v=D true/\aj8 (xs.take (c0+i+1)) w'/\kT own w w')∨(v=D false/\Jx (xs.take (c0+i+1)) w')) rfl (λw2 hw=>step (c0+i) v (r7 i v hv) w2 (xM hJ hw.ch hJi)) λv w2 w' hw hR a hF=>?_;rcases hR with⟨rfl,R7,hk⟩|⟨rfl,R7⟩
  ·have hz':=Tz w2 (λp v h=>fJ hw.ch (hzi p v h)) w' hk
   refine rF hF ?_;refine aH ?_;exact λa w3 hS=>⟨i+1,⟨bS,hS.fr.to ap,xM hJ hS.wd.ch R7,λp v h=>fJ hS.wd.ch (hz' p v h)⟩,I⟩
  ·refine rF hF ?_
   refine aE ?_;exact K6 rfl λw3 Xu=>.inr ⟨_,List.take_prefix _ _,xM WJ Xu.ch R7⟩
 ·have gP:i=vn:=by have:=h1;simp at this;omega
  refine aE ?_;refine sC rfl λw3 Xu=>.inl ⟨xs,rfl,?_⟩;rw[kh I]at hJi;exact xM hJ Xu.ch hJi
end
section
set_option maxHeartbeats 8000000
attribute [local irreducible] wpListIn Code.wpIn Exit.then Exit.inBlock bodyPost wpQuiet wpAnyIn
def js(a:Option Addr)(R c:Nat)(s:List Bool):bN:=M a R c 4 1 (s.map D)
theorem MK(a:Option Addr)(R c:Nat)(s:List Bool)(hs:s.length=R)(v:cg)(hv:jb R v)(w:C)(hw:Wd (cH [js a R c s]) w [js a R c s] w):
  iC ae 144 [J a R c,au #[D v.z,U O v.n]] w λu w'=>∃_:Unit,u=.tuple #[]/\Wd (cH [js a R c s]) w [js a R c (lQ s v)] w'/\True:=by
 refine aM func144 rfl ntmps144 rfl hw ?_;generalize cH [js a R c s]=SS;unfold js
 repeat(first|refine aU ?_|refine dZ λ_ _=>?_)
 unfold lQ;unfold jb at hv;generalize v.z=b at hv;cases b
 ·refine aH ?_
  exact sC rfl λw' ek=>⟨(),rfl,ek.sel [1] (by decide),trivial⟩
 ·obtain⟨k,hk⟩:∃k:Nat,v.n=k:=⟨v.n.toNat,by have:=hv rfl;omega⟩
  have hkR:k<R:=by have:=hv rfl;omega
  obtain⟨y,hy⟩:=bf s k I;refine fL 1 rfl I λvb vo oC=>?_;subst oC;have lY:bY k R:=⟨hkR⟩;have hea:qy s k y:=⟨hy⟩;have hni:lB v.n k:=⟨hk⟩;refine aE ?_;refine sC rfl λw' ek=>⟨(),rfl,?_,trivial⟩;rw[if_pos rfl,show v.n.toNat=k by omega];exact ek.sel [1] (by decide)
theorem Jm{x:Nat}:∀{l:List Nat} {i:Nat},l[i]?=Z x->l.idxOf x<=i
 |[],i,h=>by simp at h
 |y::l,0,h=>by
  simp only[kC,b_]at h;subst h;simp
 |y::l,i+1,h=>by
  rw[List.idxOf_cons];cases(y==x)
  ·have:=Jm (l:=l) (i:=i) (ax h)
   simpa using this
  ·simp
theorem B5(v:V)(l:List Nat)(x:Nat)(w0:C)(hx:x∈l)(hv:aG w0 v 1 (l.map λx:Nat=>(x:Int)) fI):eP ae 112 [v,U O x] w0 (U O (l.idxOf x:Nat)):=by
 obtain⟨a,n,c,b,o,rfl,hn,qP,GM,hc,ha,ji⟩:=hv;rw[aF]at hn;have iJ:=ju hx;refine aM func112 rfl ntmps112 rfl (Wd.nil cX w0) ?_;refine aH ?_;refine bL (λ(i:Nat)=>i<=l.idxOf x) (λi=>[(8,U O i),(6,J a n c),(7,U O n),(0,J a n c),(1,U O x)]) (λ_=>[]) (λi=>n-i) 0 (aT _) (aS ap aC) λi hi=>?_;refine aU ?_;refine aI (λh1=>?_) (λh1=>?_)
 ·have bS:i<n:=ax h1
  obtain⟨t,ht⟩:=bf l i I;have Kr:(l.map λx:Nat=>(x:Int))[i]?=Z (t:Int):=by rw[aJ,ht];rfl
  have oW:bU a b o:=⟨ha (aL Kr)⟩;have lY:bY i n:=⟨bS⟩;obtain⟨cs,fT,rfl,_⟩:=ji i _ Kr;have n_:a6 w0 b (o+i*1) _:=⟨fT⟩;refine aH ?_;refine aI (λh2=>?_) (λh2=>?_)
  ·have h5:(x:Int)=t:=ax h2
   have htx:x=t:=I;subst htx;have:l.idxOf x=i:=by
    have h4:=Jm ht;omega
   refine aE ?_;exact bP rfl (by rw[this])
  ·refine aH ?_
   refine bj (i+1) ?_ I ap aC;refine pN hi λe=>?_;subst e;have h3:=mN iJ;have h4:=(az.1 ht).2;rw[h3]at h4;simp[h4]at h2
 ·exact absurd h1 dp
theorem RJ(a b:V)(l m:List Bool)(w0:C)(ha:aG w0 a 1 l AX)(hb:aG w0 b 1 m AX):eP ae 147 [a,b] w0 (D (decide (l=m))):=by
 obtain⟨aa,an,ac,ab,ao,rfl,HE,IQ,aaI,Zf,IN,Ad⟩:=ha;obtain⟨ba,bn,bc,bb,bo,rfl,pR,aaP,aaO,Pg,yh,EG⟩:=hb;refine aM func147 rfl ntmps147 rfl (Wd.nil cX w0) ?_;refine aU ?_;refine aI (λh1=>?_) (λh1=>?_)
 ·refine aE ?_
  refine bP rfl ?_;rw[decide_eq_false];rintro rfl;simp at h1;omega
 have hlen:an=bn:=by simp at h1;omega
 refine aH ?_;refine bL (λ(i:Nat)=>i<=an/\∀j,j<i->l[j]?=m[j]?) (λi=>[(13,U O i),(11,J aa an ac),(12,U O an),(0,J aa an ac),(1,J ba bn bc)]) (λ_=>[]) (λi=>an-i) 0 ⟨aT _,by simp⟩ (aS ap aC) λi ⟨hi,cU⟩=>?_;refine aU ?_;refine aI (λh2=>?_) (λh2=>?_)
 ·have bS:i<an:=ax h2
  obtain⟨x,hx⟩:=et HE bS;obtain⟨y,hy⟩:=et pR (show i<bn by omega);have oW:bU aa ab ao:=⟨IN (aL hx)⟩;have r5:bU ba bb bo:=⟨yh (aL hy)⟩;have lY:bY i an:=⟨bS⟩;have Lr:bY i bn:=⟨I⟩;obtain⟨cs,fT,rfl⟩:=Ad i x hx;obtain⟨E4,oY,rfl⟩:=EG i y hy;have n_:a6 w0 ab (ao+i*1) _:=⟨fT⟩;have VK:a6 w0 bb (bo+i*1) _:=⟨oY⟩;refine aH ?_;refine jj mixed aR ?_;refine iH ?_;refine aU ?_;refine aI (λh3=>?_) (λh3=>?_)
  ·refine aE ?_
   refine bP rfl ?_;rw[decide_eq_false];rintro rfl;rw[hx]at hy;simp only[b_]at hy;simp[hy]at h3
  ·have Xx:x=y:=ax h3
   refine aH ?_;refine bj (i+1) ⟨bS,λj hj=>?_⟩ I ap aC
   by_cases yZ:j=i
   ·subst yZ;rw[hx,hy,Xx]
   ·exact cU j I
 ·have gP:i=an:=by have:=h2;simp at this;omega
  refine aE ?_;refine bP rfl ?_;rw[decide_eq_true];apply ci;intro j
  by_cases hj:j<an
  ·exact cU j I
  ·rw[bO I,bO I]
theorem RB(a:Option Addr)(R c:Nat)(l:List Bool)(hR:R<=1000)(w0:C)(hl:aG w0 (J a R c) 1 l AX):
  iC ae 143 [J a R c] w0 λu w'=>∃x:Option Addr×Nat,u=J x.1 R x.2/\Wd cX w0 [js x.1 R x.2 l] w'/\True:=by
 refine aM func143 rfl ntmps143 rfl (Wd.nil cX w0) ?_;refine aU ?_;cases a with
 |none=>
  have BF:l=[]/\R=0:=by
   obtain⟨a',n,c',b,o,hv,hn,_,_,_,ha,_⟩:=hl;simp only[Value.slice.injEq]at hv;obtain⟨rfl,rfl,rfl⟩:=hv;have h0:l=[]:=Classical.byContradiction λh=>by cases ha h
   exact⟨h0,by rw[hn,h0];rfl⟩
  obtain⟨rfl,rfl⟩:=BF;refine aE ?_;refine fU 4 1 ?_;exact cE rfl λw hw=>⟨(A,0),rfl,hw,trivial⟩
 |some ad=>
  refine aH ?_;refine nY rfl λeb _=>?_;refine aU ?_;refine lV rfl rfl l (λb=>[D b]) (λ_ _ _ h=>h) (λ_=>rfl) (λ_ u hu=>by simp only[bR]at hu;subst hu;rfl) (λw hw=>hl.bZ LU hw.ch) I I λa' c'=>?_;rw[vk,aO,di];refine aH ?_;exact cE rfl λw hw=>⟨(a',c'),rfl,hw,trivial⟩
end
section
def DQ(S:Nat->Prop)(n:Nat)(W:C)(H:List bN):Nat->Prop:=λb=>(S b∨n<=b)/\b<W.heap.size/\¬cH H b
theorem Wd.AT{S:Nat->Prop}{w0 W:C}{H:List bN}(h:Wd S w0 H W):Wd S w0 (bN.rest (DQ S w0.heap.size W H) W::H) W:=
 ⟨h.ch,λe he b hb=>by
  rcases bD.1 he with rfl|he
  ·exact⟨hb.1,hb.2.1⟩
  ·exact h.own e he b hb,λe he w' hs ek=>by
  rcases bD.1 he with rfl|he
  ·exact⟨hs,λb hb=>ek b hb⟩
  ·exact h.ok e he w' hs ek,ew.2 ⟨λf hf b hb u1=>hb.2.2 ⟨f,hf,u1⟩,h.apart⟩⟩
theorem Vx{S:Nat->Prop}{wz w w':C}{H1 akg:List bN}(_hcl:∀p v,wz.cell? p=Z v->¬S p.block)(hz:l_ S wz w)(h:Wd S wz (bN.rest (DQ S wz.heap.size w H1) w::akg) w'):Wd (cH H1) w akg w':=by
 obtain⟨hs,hr⟩:=h.get (k:=0) rfl;have vv:=ew.1 h.apart;refine⟨⟨h.ch.os.trans hz.os.symm,h.ch.tape.trans hz.tape.symm,h.ch.output.trans hz.output.symm,hs,λk hk hnS=>?_⟩,λe he b hb=>?_,λe he=>h.ok e (cO _ he),vv.2⟩
 ·by_cases bS:S k∨wz.heap.size<=k
  ·exact hr k ⟨bS,hk,hnS⟩
  ·have hk1:k<wz.heap.size:=Classical.byContradiction λh=>bS (.inr I)
   exact(h.ch.block k hk1 λh=>bS (.inl h)).trans (hz.block k hk1 λh=>bS (.inl h)).symm
 ·obtain⟨h1,h2⟩:=h.own e (cO _ he) b hb
  refine⟨?_,h2⟩
  by_cases bS:b<w.heap.size
  ·left
   exact Classical.byContradiction λhn=>vv.1 e he b ⟨h1,bS,hn⟩ hb
  ·right;omega
section
variable {P:Program} {ro:Option Nat} {N:Nat} {ds:List Deferred} {S:Nat->Prop} {w0:C} {L L':List (Nat×V)} {H H':List bN} {a:Act} {w:C}
 {ops:Array Oper} {rest:List Oper} {Q:Exit->Act->C->Prop} {p:Act->C->Prop} {x y:Operand}
theorem O7{α σ:Type}{g:Operand}{ps:Array Tmp}{assign body:Code}{gf:Nat}{lb:List V}[hg:Ev L g (.func (.func gf) #[] lb.toArray)][eg:aQ P gf](F:List bN)(Hc:σ->List bN)(s0:σ)(e_:∀s,F6 (Hc s))(Zq:∀s s' b,cH (Hc s) b->cH (Hc s') b)(xs:List α){encs:α->Array V}
  {Bs:Nat} {bcs:List V} {bt:TypeId} (Q3:K Bs bcs bt∈F)
  (LC:∀w,Wd S w0 H w->SeqStopsK (FW A) 4 P gf lb.toArray encs (kT λb=>cH (Hc s0++F) b/\b≠Bs) (λys=>ys=xs) (λpre=>pre<+:xs) xs.length w)
  (akb:List α->σ->Prop) (h0:akb [] s0) (hH:(Hc s0++F).Sublist H) (xH:∀x,(encs x).size=ps.size) (bx:α->List V) (T:Nat)
  (L0:α->List (Nat×V)) (La:α->Nat->List (Nat×V)) (mq:∀x a,Fr N ds L a->Fr N [] (L0 x) {tmps:=(ps.zip (encs x)).foldl (λt (p,v)=>t.setIfInBounds p v) a.tmps,defers:=[]})
  (tW:∀(l:Nat) (x:α) (s:σ) (R:bN),aki N [] S w0 (L0 x) (R::(Hc s++F)) (assign.wpIn (FW (Z l)) 0 P (Exit.then (λa w=>∃q,St N [] S w0 (La x q) (K q (bx x) T::R::(Hc s++F)) a w) (λ_ _ _=>False))))
  (rj:∀(l:Nat) (pre:List α) (x:α) (s:σ) (q:Nat) (R:bN),akb pre s->pre.length<xs.length->aki N [] S w0 (La x q) (R::K q (bx x) T::(Hc s++F)) (body.wpIn (FW (Z l)) 0 P (Exit.then (Rnd S w0 (akb (pre++[x])) R Hc (K q (bx x) T::F)) (λ_ _ _=>False))))
  (k:∀akf s,w0.heap.size<=akf->akb xs s->aki N (⟨.collected akf,#[]⟩::ds) S w0 L (bN.mark akf::(Hc s++F)) (Q .normal)):aki N ds S w0 L H (Code.wpIn (FW A) 0 P (Code.rangeFunc g ps assign body) Q):=λa w hS=>by
 have pU:=hS.wd.size;have hF:∀e∈F,∀b,e.fp b->b<w.heap.size:=λe he b hb=>(hS.wd.own e (hH.subset (de _ he)) b hb).2;have jd:∀s W,Wd S w0 (Hc s++F) W->∀r o,W.heap[r]?=Z o->o.isCells=false->w.heap.size<=r->¬cH (Hc s++F) r:=by
  rintro s W hW r o ho hn hle ⟨e,he,hb⟩;rcases bA.1 he with he|he
  ·obtain⟨j,hj⟩:=bg (ct F he)
   obtain⟨cs,t,akj,hc⟩:=((e_ s).all e he).ok W (hW.get hj) r hb;rw[hc]at ho;cases ho;cases hn
  ·have:=hF e he r hb;omega
 have CY:∀s W,Wd S w0 (Hc s++F) W->W.heap[Bs]?=Z (.cells bcs.toArray bt (0,0)):=λs W hW=>by
  obtain⟨j,hj⟩:=bg (de (Hc s) Q3);exact hW.get hj
 have C4:∀s s' b,cH (Hc s++F) b->cH (Hc s'++F) b:=by
  rintro s s' b ⟨e,he,hb⟩;rcases bA.1 he with he|he
  ·obtain⟨e',VM,nO⟩:=Zq s s' b ⟨e,he,hb⟩
   exact⟨e',ct _ VM,nO⟩
  ·exact⟨e,de _ he,hb⟩
 have Am:∀s s' (H0:List bN) W W',Wd S w0 (Hc s++F) W->(∀r o,W.heap[r]?=Z o->o.isCells=false->w.heap.size<=r->¬cH H0 r)->Wd S w0 (bN.rest (DQ S w0.heap.size W H0) W::(Hc s'++F)) W'->(∀b,cH H0 b->¬cH (Hc s0++F) b->W'.heap[b]?=W.heap[b]?)->KeepsFrom w.heap.size W W'/\kT (λb=>cH (Hc s0++F) b/\b≠Bs) W W':=by
  intro s s' H0 W W' hW Em tV hx;obtain⟨hs,hr⟩:=tV.get (k:=0) rfl;refine⟨⟨hs,λj o hj ho hn=>?_⟩,λb cs t akj hb hc=>?_⟩
  ·exact(hr j ⟨I,(fv.1 ho).1,Em j o ho hn hj⟩).trans ho
  ·by_cases e:b=Bs
   ·subst e
    exact(CY s' W' (tV.sub (dR _ _))).trans ((CY s W hW).symm.trans hc)
   ·have En:¬cH (Hc s0++F) b:=λh=>hb ⟨h,e⟩
    by_cases bS:S b∨w0.heap.size<=b
    ·by_cases h0:cH H0 b
     ·exact(hx b h0 En).trans hc
     ·exact(hr b ⟨bS,(fv.1 hc).1,h0⟩).trans hc
    ·have Kn:b<w0.heap.size:=Classical.byContradiction λh=>bS (.inr I)
     exact((tV.ch.block b Kn λh=>bS (.inl h)).trans (hW.ch.block b Kn λh=>bS (.inl h)).symm).trans hc
 refine jD (m:=5) ?_;refine wpIn_rangeFunc_ownH (F:=FW A) (n:=5) (w0:=w) rfl I (hg.eq _ _ _ hS.fr) trivial (λargs w=>eg.run args w) (LC w hS.wd) (λh1 h2=>h1.trans h2) (λW l o o' hl ho hn _ b cs t akj _ hc=>?_) (Below.refl _ _) xH
  (λpre W=>∃s,akb pre s/\Wd S w0 (Hc s++F) W/\w.heap.size<=W.heap.size) (λ_ _ _=>False) (λpre W W' row ⟨s,hI,hW,Es⟩ hg hr=>⟨s,hI,hW.grown hg λr e=>?_,du Es hg.size⟩) (λ_ _ _ _ _ h=>h.elim) ⟨s0,h0,hS.wd.sub hH,bG _⟩
  (λx a' W=>∃q,Fr N [] (La x q) a'/\W.heap[q]?=Z (.cells (bx x).toArray T (0,0))/\w.heap.size<=q/\∀s,¬cH (Hc s++F) q) (λx a' _ W W' row ⟨q,h1,h2,h3,h4⟩ hg hr=>⟨q,h1,?_,h3,h4⟩) ?_ ?_ ?_ ?_
 ·refine(World.putObj_heap_other λe=>?_).trans hc
  subst e;rw[hc]at ho;cases ho;cases hn
 ·obtain⟨h1,o,ho,hn⟩:=hr r e
  exact⟨I,jd s W hW r o ho hn h1⟩
 ·refine(hg.block q (fv.1 h2).1 λe=>?_).trans h2
  obtain⟨_,o,ho,hn⟩:=hr q e.symm;rw[h2]at ho;cases ho;cases hn
 ·rintro l pre x W akc ⟨s,hI,hW,Es⟩ hK
  refine jD (m:=0) ?_;refine Code.wpIn_mono (λe a' W' q=>?_) (tW l x s _ _ W ⟨mq x a hS.fr,hW.AT⟩);cases e with
  |normal=>
   obtain⟨q,hq⟩:=q;have ho:=Am s s _ W W' hW (jd s W hW) (hq.wd.sub (dR _ _)) λb hb hn=>absurd (C4 s s0 b hb) hn;have vv:=ew.1 hq.wd.apart;have ZN:¬cH (Hc s++F) q:=λ⟨e,he,hb⟩=>vv.1 e (cO _ he) q rfl hb;have EL:=hq.wd.own (K q (bx x) T) aC q rfl;refine hK a' W' ho.1 ho.2 ⟨s,hI,hq.wd.sub (.cons _ (.cons _ (.refl _))),du Es ho.1.size⟩ ⟨q,hq.fr,hq.wd.get (k:=0) rfl,?_,λs' h=>ZN (C4 s' s q h)⟩;refine Classical.byContradiction λbS=>?_;have h1:=EL.1;exact vv.1 (bN.rest (DQ S w0.heap.size W (Hc s++F)) W) aC q rfl ⟨h1,I,ZN⟩
  |_=>exact q.elim
 ·rintro l pre x a' W _ _ ⟨s,hI,hW,Es⟩ ⟨q',h1,h2,h3,h4⟩ bS
  have hWb:Wd S w0 (K q' (bx x) T::(Hc s++F)) W:=⟨hW.ch,λe he b hb=>by
   rcases bD.1 he with rfl|he
   ·cases hb
    exact⟨.inr I,(fv.1 h2).1⟩
   ·exact hW.own e he b hb,λe he w2 hs jg=>by
   rcases bD.1 he with rfl|he
   ·exact(jg q' rfl).trans h2
   ·exact hW.ok e he w2 hs jg,ew.2 ⟨λf hf b hb u1=>by cases hb;exact h4 s ⟨f,hf,u1⟩,hW.apart⟩⟩
  refine jD (m:=0) ?_;refine Code.wpIn_mono (λe a' W' q=>?_) (rj l pre x s q' _ hI bS a' W ⟨h1,hWb.AT⟩);cases e with
  |normal=>
   obtain⟨s',R6,tV⟩:=q;have Zc:Wd S w0 (bN.rest (DQ S w0.heap.size W (K q' (bx x) T::(Hc s++F))) W::(Hc s'++F)) W':=tV.sub (dM (zV (dR _ _) _));have Ao:W'.heap[q']?=Z (.cells (bx x).toArray T (0,0)):=by
    obtain⟨j,hj⟩:=bg (show K q' (bx x) T∈bN.rest (DQ S w0.heap.size W (K q' (bx x) T::(Hc s++F))) W::(Hc s'++(K q' (bx x) T::F)) by simp);exact tV.get hj
   have ho:=Am s s' _ W W' hW (λr o ho hn hle=>by
    rintro⟨e,he,hb⟩;rcases bD.1 he with rfl|he
    ·cases hb
     rw[h2]at ho;cases ho;cases hn
    ·exact jd s W hW r o ho hn hle ⟨e,he,hb⟩) Zc (λb hb hn=>by
    obtain⟨e,he,hb⟩:=hb;rcases bD.1 he with rfl|he
    ·cases hb
     exact Ao.trans h2.symm
    ·exact absurd (C4 s s0 b ⟨e,he,hb⟩) hn)
   exact⟨ho.1,ho.2,s',R6,Zc.sub (dR _ _),du Es ho.1.size⟩
  |_=>exact q.elim
 ·rintro akf ys W hD rfl ⟨s,hI,hW,_⟩ hd
  refine k akf s I hI _ W ⟨⟨hS.fr.size,by rw[hS.fr.defers],hS.fr.slot⟩,?_⟩;have hn:¬cH (Hc s++F) akf:=jd s W hW akf _ hd rfl hD;exact⟨hW.ch,λe he b hb=>by
   rcases bD.1 he with rfl|he
   ·cases hb
    exact⟨.inr I,(fv.1 hd).1⟩
   ·exact hW.own e he b hb,λe he w2 hs jg=>by
   rcases bD.1 he with rfl|he
   ·exact(jg akf rfl).trans hd
   ·exact hW.ok e he w2 hs jg,ew.2 ⟨λf hf b hb u1=>by cases hb;exact hn ⟨f,hf,u1⟩,hW.apart⟩⟩
 ·intro akf c pre W _ _ h
  exact h.elim
end
end
section
set_option maxHeartbeats 8000000
attribute [local irreducible] wpListIn Code.wpIn Exit.then Exit.inBlock bodyPost wpQuiet wpAnyIn bodyPostM
theorem H6(v:V)(hv:∃a n c,v=J a n c)(w0:C):iC ae 145 [v] w0 λu w'=>∃p:Nat×Nat,u=.func (.func 165) #[] #[ar (Z ⟨p.1,0,A⟩)]/\Wd cX w0 [K p.1 [v] p.2] w'/\True:=by
 obtain⟨a,n,c,rfl⟩:=hv;refine aM func145 rfl ntmps145 rfl (Wd.nil cX w0) ?_
 repeat(first|refine aH ?_|refine dZ λ_ _=>?_)
 exact cE rfl λw hw=>⟨(_,_),rfl,hw,trivial⟩
abbrev Wb(R:Nat):Type:={v:cg//jb R v}
theorem Ov{R:Nat}:∀l:List cg,(∀v∈l,jb R v)->∃xs:List (Wb R),xs.map (·.1)=l
 |[],_=>⟨[],rfl⟩
 |v::l,h=>by
  obtain⟨xs,nK⟩:=Ov l λu hu=>h u (cO _ hu);exact⟨⟨v,h v aC⟩::xs,by rw[bT,nK]⟩
theorem D6{R:Nat}(xs:List (Wb R))(s:List Bool):xs.foldl (λs y=>lQ s y.1) s=(xs.map (·.1)).foldl lQ s:=by rw[List.foldl_map]
theorem Mz(a:Option Addr)(R c:Nat)(s:List Bool)(hs:s.length=R)(x:dJ)(hx:wV R x)(hlen:x.args.length<=100000)(va:Option Addr)(vn vc:Nat)(S:Nat->Prop)(wz:C)(aaU:∀p v,wz.cell? p=Z v->¬S p.block)(rq:aG wz (J va vn vc) 2 x.args mi)(w:C)(hw:Wd S wz [js a R c s] w):
  iC ae 146 [J a R c,au #[U O x.op,U O x.dst,D x.a.z,U O x.a.n,D x.b.z,U O x.b.n,U O x.fn,J va vn vc]] w λu w'=>∃_:Unit,u=.tuple #[]/\Wd (cH [js a R c s]) w [js a R c (wQ s x)] w'/\True:=by
 have hz:=hw.ch;refine uC (w0:=wz) (S:=S) func146 rfl ntmps146 rfl hw.AT ?_;generalize Bk:bN.rest (DQ S wz.heap.size w [js a R c s]) w=RS
 repeat(first|refine aU ?_|refine dZ λ_ _=>?_)
 rename_i b2 _ b3 _;generalize Je:(if 0<=x.dst then s.set x.dst.toNat false else s)=s1;have Xm:s1.length=R:=by subst Je;split<;>simpa using hs
 refine Y4 [aj 2 b2,aj 3 b3] [K b3 [U O x.op,U O x.dst,D x.a.z,U O x.a.n,D x.b.z,U O x.b.n,U O x.fn,J va vn vc] 56,K b2 [J a R c] 145,RS,js a R c s1] ?_ ?_
 ·refine aI (λh1=>?_) (λh1=>?_)
  ·have h0:0<=x.dst:=ax h1
   have hR:=hx.dst h0;obtain⟨k,hk⟩:∃k:Nat,x.dst=k:=⟨x.dst.toNat,I⟩;obtain⟨y,hy⟩:=bf s k I;unfold js;refine fL 3 rfl I λvb vo oC=>?_;have lY:bY k R:=⟨I⟩;have hea:qy s k y:=⟨hy⟩;have hni:lB x.dst k:=⟨hk⟩;rw[oC];refine aE ?_;rw[if_pos h0,show x.dst.toNat=k by omega]at Je;rw[Je];exact aS ap aK
  ·have h0:¬0<=x.dst:=ax h1
   refine aH ?_;rw[if_neg h0]at Je;rw[Je];exact aS ap aK
 refine aU ?_;refine cZ (val:=λp:Nat=>.func (.func 164) #[] #[ar (Z ⟨p,0,A⟩)]) (akg:=λp=>[K p [U O x.op,U O x.dst,D x.a.z,U O x.a.n,D x.b.z,U O x.b.n,U O x.fn,J va vn vc] 56]) (φ:=λ_=>True) rfl (λw hw=>Vv x _ ⟨_,_,_,rfl⟩ w) λbp _=>?_;simp only[aW,aO];refine aH ?_;obtain⟨xs,nK⟩:=Ov (R:=R) (j3 x) hx.uJ;have BD:xs.foldl (λs y=>lQ s y.1) s1=wQ s x:=by rw[D6,nK,<-Je];rfl
 refine jQ (L':=[(13,.func (.func 164) #[] #[ar (Z ⟨bp,0,A⟩)]),aj 2 b2,aj 3 b3]) ap (.refl _) ?_;refine r4 [4,0,1,2,3] (by decide) ?_;refine O7 (α:=Wb R) (gf:=164) (lb:=[ar (Z ⟨bp,0,A⟩)]) [K bp [U O x.op,U O x.dst,D x.a.z,U O x.a.n,D x.b.z,U O x.b.n,U O x.fn,J va vn vc] 56,K b3 [U O x.op,U O x.dst,D x.a.z,U O x.a.n,D x.b.z,U O x.b.n,U O x.fn,J va vn vc] 56,K b2 [J a R c] 145,RS] (λs:List Bool=>[js a R c s]) s1 (λs=>⟨by intro e he;simp only[bR]at he;subst he;unfold js;infer_instance⟩) (λs s' b ⟨e,he,hb⟩=>⟨js a R c s',by simp,by simp only[bR]at he;subst he;exact hb⟩) xs
  (encs:=λy=>#[au #[D y.1.z,U O y.1.n]]) (Bs:=bp) (bcs:=[U O x.op,U O x.dst,D x.a.z,U O x.a.n,D x.b.z,U O x.b.n,U O x.fn,J va vn vc]) (bt:=56) aC
  (λw1 l9=>?_) (λpre s=>s=pre.foldl (λs y=>lQ s y.1) s1) rfl (.refl _) (λ_=>rfl) (λy=>[D y.1.z,U O y.1.n]) 41
  (λy=>[(14,au #[D y.1.z,U O y.1.n]),aj 2 b2,aj 3 b3]) (λy q=>[aj 4 q,aj 2 b2,aj 3 b3]) (λy a h=>?_) (λl y s R=>?_) (λl pre y s q RR hI bS=>?_) λakf s2 hD hI=>?_
 ·intro l aj8 Jx W hW hJ WJ hY h0
  have Dc:∀b,cH ([js a R c s1]++[K bp [U O x.op,U O x.dst,D x.a.z,U O x.a.n,D x.b.z,U O x.b.n,U O x.fn,J va vn vc] 56,K b3 [U O x.op,U O x.dst,D x.a.z,U O x.a.n,D x.b.z,U O x.b.n,U O x.fn,J va vn vc] 56,K b2 [J a R c] 145,RS]) b->(S b∨wz.heap.size<=b)/\b<w1.heap.size:=λb ⟨e,he,hb⟩=>l9.own e he b hb;have hkz:∀p v,wz.cell? p=Z v->w1.cell? p=Z v:=λp v hp=>(World.cell?_of_block (l9.ch.block _ (World.block_lt_of_cell? wz p hp) (aaU p v hp))).trans hp;have h2:=Ow (α:=Wb R) (λy=>y.1) x va vn vc xs nK hlen l bp _ wz rq (λp v hp h=>(Dc _ h.1).1.elim (aaU p v hp) λh2=>by have:=World.block_lt_of_cell? wz p hp;omega) (λh=>h.2 rfl) W (λb hb h=>by have:=(Dc b h.1).2;have:=hW.size;omega) aj8 Jx _ hJ WJ hY (λp v hp=>by
   have h3:=hkz p v hp;exact(hW.cell (World.block_lt_of_cell? w1 _ h3)).trans h3) (λj v hj=>by
   have h3:w1.cell? ⟨bp,0+j,A⟩=Z v:=l9.gL bp j v hj;exact(hW.cell (World.block_lt_of_cell? w1 _ h3)).trans h3) h0
  exact yA (CallsIn.mono h2 λe w' ⟨v,he,hh⟩=>⟨⟨v,he⟩,hh⟩)
 ·have h2:=(h.to (L':=[aj 2 b2,aj 3 b3]) ap).eo (d:=14) rfl (au #[D y.1.z,U O y.1.n])
  have e:(#[14].zip #[au #[D y.1.z,U O y.1.n]]).foldl (λ(t:Array V) (q:Tmp×V)=>t.setIfInBounds q.1 q.2) a.tmps=a.tmps.setIfInBounds 14 (au #[D y.1.z,U O y.1.n]):=by simp
  refine⟨Eq.trans (congrArg Array.size e) h2.size,rfl,λp hp=>?_⟩;exact Eq.trans (congrArg (λt:Array V=>t[p.1]?) e) (h2.slot p hp)
 ·repeat(first|refine aE ?_|refine dZ λ_ _=>?_)
  exact Gz _ ap aK
 ·have S8:s.length=R:=by
   rw[hI,D6,zF,Xm]
  simp only[aW,aO];refine aH ?_;refine r4 [2,0,1,3,4,5,6] (by decide) ?_;refine fC (H1:=[js a R c s]++[RR,K q [D y.1.z,U O y.1.n] 41,K bp [U O x.op,U O x.dst,D x.a.z,U O x.a.n,D x.b.z,U O x.b.n,U O x.fn,J va vn vc] 56,K b3 [U O x.op,U O x.dst,D x.a.z,U O x.a.n,D x.b.z,U O x.b.n,U O x.fn,J va vn vc] 56,K b2 [J a R c] 145,RS]) rfl ?_;refine fK (val:=λ_:Unit=>.tuple #[]) (akg:=λ_=>[js a R c (lQ s y.1)]) (φ:=λ_=>True) rfl (λw hw=>MK a R c s S8 y.1 y.2 w hw.pre) λ_ _=>?_;simp only[aW,aO];refine aH ?_;refine r4 [1,0,2,3,4,5,6] (by decide) ?_;refine IC (lQ s y.1) ?_ (.refl _);rw[pF,<-hI];rfl
 ·simp only[aW,aO]
  refine aH ?_;refine r4 [0,5,1] (by decide) ?_;refine M6 rfl hD λw' ek=>⟨(),rfl,?_,trivial⟩;rw[<-BD,<-hI];rw[<-Bk]at ek;exact Vx aaU hz ek
theorem fZ(nm pa re:V)(bl:List E)(bs:V)(w0:C)(m_:aG w0 bs 6 bl ed)(hlen:bl.length<=100)(cY:cT bl):
  iC ae 65 [au #[nm,pa,re,bs]] w0 λu w'=>∃x:(Option Addr×Nat×Nat)×(Nat->Prop),u=J x.1.1 x.1.2.1 x.1.2.2/\Wd cX w0 [⟨x.2,λw=>aG w (J x.1.1 x.1.2.1 x.1.2.2) 1 (be bl) cN⟩] w'/\True:=by
 obtain⟨ba,n,bc,bb,zW,rfl,hn,qP,GM,Pg,yh,ji⟩:=m_;refine aM func65 rfl ntmps65 rfl (Wd.nil cX w0) ?_
 repeat(first|refine aH ?_|refine dZ λ_ _=>?_)
 rename_i b1 _ bo _;refine lW 3 1 n ?_;rw[show(List.replicate n (J A 0 0))=(List.replicate n (⟨A,0,[]⟩:Row)).map fG by simp[fG],show(List.replicate n (M A 0 0 3 1 []))=(List.replicate n (⟨A,0,[]⟩:Row)).map ie by simp[ie]];refine bL (λ(x:Nat×List Row)=>x.1<=n/\x.2.map (·.l)=j8 bl x.1/\x.2.length=n/\∀r∈x.2,r.l.length<=2*x.1/\∀y∈r.l,dk y) (λx=>[(15,U O x.1),(13,J ba n bc),(14,U O n),(3,J (Z ⟨bo,0,A⟩) n n)]) (λx=>M (Z ⟨bo,0,A⟩) n n 42 1 (x.2.map fG)::x.2.map ie) (λx=>n-x.1) (0,List.replicate n ⟨A,0,[]⟩)
  ⟨aT _,by simp[j8,hn],by simp,by simp⟩ (aS ap aw) λx ⟨hi,uN,rR,r5⟩=>?_
 obtain⟨i,rs⟩:=x;simp only at hi uN rR r5⊢;refine aU ?_;refine aI (λh1=>?_) (λh1=>?_)
 ·have bS:i<n:=ax h1
  obtain⟨B,hB⟩:=et hn bS;have oW:bU ba bb zW:=⟨yh (aL hB)⟩;have lY:bY i n:=⟨bS⟩;obtain⟨cs,fT,pv,lv,tv,rfl,_,_,qt,lq,ht⟩:=ji i B hB;obtain⟨VZ,pn,pc,_,_,rfl,_⟩:=qt;obtain⟨la,ln,lc,_,_,rfl,_⟩:=lq;obtain⟨ta,tn,tc,tb,AP,rfl,uW,GV,GU,Xq,yk,tZ⟩:=ht;have n_:a6 w0 bb (zW+i*6) _:=⟨fT⟩;have LF:YG bl.length B.to:=cY B (aq hB)
  repeat(first|refine aE ?_|refine dZ λ_ _=>?_)
  refine bL (λ(x:Nat×List Row)=>x.1<=tn/\x.2.map (·.l)=(B.to.take x.1).foldl (qz i) (j8 bl i)/\x.2.length=n/\∀r∈x.2,r.l.length<=2*i+x.1/\∀y∈r.l,dk y) (λx=>[(24,U O x.1),(22,J ta tn tc),(23,U O tn),(4,U O i),(15,U O i),(13,J ba n bc),(14,U O n),(3,J (Z ⟨bo,0,A⟩) n n)])
   (λx=>M (Z ⟨bo,0,A⟩) n n 42 1 (x.2.map fG)::x.2.map ie) (λx=>tn-x.1) (0,rs)
   ⟨aT _,ax uN,rR,λr hr=>by simpa using r5 r hr⟩ (aS ap aw) λx ⟨hj,xI,LA,GI⟩=>?_
  obtain⟨j,Hu⟩:=x;simp only at hj xI LA GI⊢;refine aU ?_;refine aI (λh2=>?_) (λh2=>?_)
  ·have pT:j<tn:=ax h2
   obtain⟨t,GS⟩:=et uW pT;have htt:=LF.2 t (aq GS);obtain⟨k,hk⟩:∃k:Nat,t=k:=⟨t.toNat,I⟩;have Kq:k<n:=I;have u2:k<Hu.length:=I;obtain⟨r,hr⟩:=bf Hu k u2;have uR:bU ta tb AP:=⟨yk (aL GS)⟩;have SI:bY j tn:=⟨pT⟩;have agy:bY k n:=⟨Kq⟩;have hni:lB t k:=⟨hk⟩;obtain⟨E4,oY,rfl,_⟩:=tZ j t GS;have tX:a6 w0 tb (AP+j*1) _:=⟨oY⟩;have NB:Rs (Hu.map fG) (k*1) (J r.a r.l.length r.c):=⟨by simp[hr,fG]⟩;have Ft:=GI r (aq hr)
   repeat(first|refine aH ?_|refine dZ λ_ _=>?_)
   rename_i bt _;have Tc:=LF.1;refine gU (k+2) (xs:=r.l.map (U O)) (e:=3) (by simp[hr,ie]) rfl rfl I I λa' c'=>?_;refine fC (H1:=M (Z ⟨bt,0,A⟩) 1 1 3 1 [U O i]::M (Z ⟨bo,0,A⟩) n n 42 1 (Hu.map fG)::(Hu.set k ⟨a',c',r.l++[(i:Int)]⟩).map ie) (by simp[ie,eM]) ?_;have nK:mV (Hu.map fG) (k*1) (J a' (r.l.length+1) c') ((Hu.set k ⟨a',c',r.l++[(i:Int)]⟩).map fG):=⟨by simp[fG,eM],ax u2⟩;refine aE ?_;refine bj (j+1,Hu.set k ⟨a',c',r.l++[(i:Int)]⟩) ⟨pT,?_,ax LA,?_⟩ bK ap aw
   ·simp only
    rw[cz,GS];simp only[mz,pF,gj,List.foldl_nil];rw[<-xI,qz,show t.toNat=k by omega];exact ru hr rfl
   ·intro q hq
    rcases kE hq with hq|rfl
    ·have:=GI q hq
     exact⟨by simp only;omega,this.2⟩
    ·refine⟨by simp only[bX,j_];omega,λy hy=>?_⟩
     rcases bA.1 hy with hy|hy
     ·exact Ft.2 y hy
     ·simp only[bR]at hy
      subst hy;simp only[dk];omega
  ·have gP:j=tn:=by have:=h2;simp at this;omega
   refine aE ?_;refine bj (i+1,Hu) ⟨bS,?_,LA,λr hr=>?_⟩ bK ap aK
   ·simp only[j8,hB]
    rw[xI,gP,uW,cQ]
   ·have:=GI r hr
    have Tc:=LF.1;exact⟨by simp only;omega,this.2⟩
 ·have gP:i=n:=by have:=h1;simp at this;omega
  refine aE ?_;refine cE rfl λw hw=>⟨((Z ⟨bo,0,A⟩,n,n),cH (M (Z ⟨bo,0,A⟩) n n 42 1 (rs.map fG)::rs.map ie)),rfl,?_,trivial⟩;have ek:Wd cX w0 ((M (Z ⟨bo,0,A⟩) n n 42 1 (rs.map fG)::rs.map ie)++[]) w:=by rw[cD];exact hw
  refine ek.pack _ λw2 jg=>?_;have:=Ht (H:=[]) (by rw[cD];exact jg) rR.symm I λr hr=>⟨by have:=(r5 r hr).1;omega,(r5 r hr).2⟩;rw[uN,gP,hn]at this;exact hn▸this
def Ez(w:C)(l:List Bool)(cs:List V):Prop:=∃v,cs=[v]/\aG w v 1 l AX
def pV(rows:List (List Bool))(t r:Nat):Prop:=∃s,rows[t]?=Z s/\has s r
theorem pt{bl:List E}{t b:Nat}(hb:b<bl.length)(h:(t:Int)∈db bl b):b∈aZ bl t:=by
 unfold aZ;rw[cC];exact⟨ax hb,ax h⟩
theorem Mn{bl:List E}{t:Nat}{B:E}(h:bl[t]?=Z B):fD bl t=B.aD:=by simp[fD,h]
theorem KE(nm pa:V)(R:Nat)(hR:R<=100)(bl:List E)(bs:V)(b:Nat)(rows:List (List Bool))(aa ia:Option Addr)(an ac ic:Nat)(w0:C)(m_:aG w0 bs 6 bl ed)(n':Nat)(Pv:n'=bl.length)(hf:fu R bl)(hb:b<bl.length)(rR:rows.length=bl.length)(Lz:∀s∈rows,s.length=R)
  (Pd:aG w0 (J aa an ac) 1 (be bl) cN) (oA:aG w0 (J ia n' ic) 1 rows Ez):
  iC ae 142 [au #[nm,pa,U O R,bs],J aa an ac,J ia n' ic,U O b] w0 λu w'=>∃x:Nat×List Bool,u=J (Z ⟨x.1,0,A⟩) R R/\Wd cX w0 [js (Z ⟨x.1,0,A⟩) R R x.2] w'/\(x.2.length=R/\∀r,has x.2 r↔HS bl (pV rows) b r):=by
 subst Pv;have cY:=hf.iM;have ii:∀(b:Nat) (B:E),bl[b]?=Z B->B.to.Nodup:=λb B hB=>(hf.block b B hB).to;obtain⟨ba,n,bc,bb,zW,rfl,hn,qP,GM,Pg,yh,ji⟩:=m_;obtain⟨ZY,in',ic',ib,io,hv,aiR,_,_,_,VO,SE⟩:=oA;simp only[Value.slice.injEq]at hv;obtain⟨rfl,rfl,rfl⟩:=hv;obtain⟨aa',an',ac',ab,ao,hv,HE,_,_,_,IN,Ad⟩:=Pd;simp only[Value.slice.injEq]at hv;obtain⟨rfl,rfl,rfl⟩:=hv;rw[<-hn]at hb rR⊢;refine aM func142 rfl ntmps142 rfl (Wd.nil cX w0) ?_;obtain⟨B,hB⟩:=et hn hb;have oW:bU ba bb zW:=⟨yh (aL hB)⟩;have lY:bY b n:=⟨hb⟩;obtain⟨cs,fT,pv',lv,tv,rfl,_,_,qt,lq,ht⟩:=ji b B hB;obtain⟨VZ,pn,pc,_,_,rfl,_⟩:=qt;obtain⟨la,ln,lc,_,_,rfl,_⟩:=lq;obtain⟨ta,tn,tc,tb,AP,rfl,uW,GV,GU,Xq,yk,tZ⟩:=ht;have n_:a6 w0 bb (zW+b*6) _:=⟨fT⟩;have Ld:=cY B (aq hB)
 repeat(first|refine aE ?_|refine dZ λ_ _=>?_)
 rename_i p4 _ ob _ EO _;rw[show List.replicate R (D false)=(List.replicate R false).map D by simp];refine bL (λ(x:Nat×List Bool)=>x.1<=tn/\x.2.length=R/\∀r,has x.2 r↔∃t:Nat,(∃q,q<x.1/\B.to[q]?=Z (t:Int))/\(uH bl t b r=true∨pV rows t r)) (λx=>[(31,U O x.1),(29,J ta tn tc),(30,U O tn),(9,J (Z ⟨ob,0,A⟩) R R),aj 4 p4,(1,J aa an ac),(2,J ia n ic),(3,U O b)]) (λx=>[js (Z ⟨ob,0,A⟩) R R x.2,K p4 [nm,pa,U O R,J ba n bc] 35]) (λx=>tn-x.1) (0,List.replicate R false)
  ⟨aT _,by simp,λr=>by simp[has,g_]⟩ (aS ap aw) λx ⟨hi,rq,hs⟩=>?_
 obtain⟨i,s⟩:=x;simp only at hi rq hs⊢;refine aU ?_;refine aI (λh1=>?_) (λh1=>?_)
 ·have aa5:i<tn:=ax h1
  obtain⟨t,GS⟩:=et uW aa5;have htt:=Ld.2 t (aq GS);obtain⟨k,hk⟩:∃k:Nat,t=k:=⟨t.toNat,I⟩;subst hk;have Kq:k<n:=I;have uR:bU ta tb AP:=⟨yk (aL GS)⟩;have SI:bY i tn:=⟨aa5⟩;obtain⟨E4,oY,rfl,_⟩:=tZ i _ GS;have tX:a6 w0 tb (AP+i*1) _:=⟨oY⟩;obtain⟨T,hT⟩:=et hn Kq;have SJ:bY k n:=⟨Kq⟩;obtain⟨csT,afZ,pvT,lvT,tvT,rfl,_,_,abr,abb,aho⟩:=ji k T hT;obtain⟨xa,xn,xc,xb,xo,rfl,hxn,abI,abH,hxc,NB,Ti⟩:=abr;obtain⟨l2a,l2n,l2c,_,_,rfl,_⟩:=abb;obtain⟨t2a,t2n,t2c,_,_,rfl,_⟩:=aho;have afS:a6 w0 bb (zW+k*6) _:=⟨afZ⟩;obtain⟨row,gr⟩:=et rR.symm Kq;have afz:bU ia ib io:=⟨VO (aL gr)⟩;obtain⟨csr,af1,rv,rfl,y7⟩:=SE k row gr;have aiE:a6 w0 ib (io+k*1) _:=⟨af1⟩;have ah9:=Lz row (aq gr);obtain⟨ra,rn,rc,rb,ro,rfl,yj,aen,ajM,Q8,Q7,hrel⟩:=y7;have ahe:R=rn:=I;subst ahe
  repeat(first|refine aE ?_|refine dZ λ_ _=>?_)
  rename_i p13 _;refine bL (λ(x:Nat×List Bool)=>x.1<=R/\x.2.length=R/\∀r,has x.2 r↔(has s r∨(r<x.1/\has row r))) (λx=>[(45,U O x.1),(43,J ra R rc),(44,U O R),(12,U O k),aj 13 p13,(31,U O i),(29,J ta tn tc),(30,U O tn),(9,J (Z ⟨ob,0,A⟩) R R),aj 4 p4,(1,J aa an ac),(2,J ia n ic),(3,U O b)]) (λx=>[js (Z ⟨ob,0,A⟩) R R x.2,K p13 [J xa xn xc,J l2a l2n l2c,U O T.kind,D T.on.z,U O T.on.n,J t2a t2n t2c] 46,K p4 [nm,pa,U O R,J ba n bc] 35]) (λx=>R-x.1) (0,s)
   ⟨aT _,rq,λr=>by simp⟩ ?_ λx ⟨hj,Xo,iK⟩=>?_
  ·refine r4 [1,0,2] (by decide) ?_
   exact aS ap aK
  obtain⟨j,s'⟩:=x;simp only at hj Xo iK⊢;refine aU ?_;refine aI (λh2=>?_) (λh2=>?_)
  ·have pT:j<R:=ax h2
   obtain⟨y,hy⟩:=et yj pT;have ac4:bU ra rb ro:=⟨Q7 (aL hy)⟩;have Lr:bY j R:=⟨pT⟩;obtain⟨cs3,afY,rfl⟩:=hrel j y hy;have I0:a6 w0 rb (ro+j*1) _:=⟨afY⟩;obtain⟨akj,hz⟩:=bf s' j I;have hez:qy s' j akj:=⟨hz⟩;have C9:∀r,has (s'.set j (akj||y)) r↔(has s r∨(r<j+1/\has row r)):=λr=>by
    unfold has;rw[ez]
    by_cases e:j=r
    ·subst e
     have h3:=iK j;unfold has at h3;rw[hz]at h3;rw[if_pos rfl,if_pos I,hy];cases akj<;>cases y<;>simp at h3⊢<;>first|exact h3|(simp[h3])
    ·rw[if_neg e]
     have h3:=iK r;unfold has at h3;rw[h3];constructor
     ·rintro(h|⟨h,h4⟩)
      ·exact .inl h
      ·exact .inr ⟨I,h4⟩
     ·rintro(h|⟨h,h4⟩)
      ·exact .inl h
      ·exact .inr ⟨I,h4⟩
   unfold js;cases akj
   ·refine aE ?_
    exact bj (j+1,s'.set j y) ⟨pT,ax Xo,ax C9⟩ bK ap aK
   ·refine iL ?_
    exact bj (j+1,s'.set j true) ⟨pT,ax Xo,ax C9⟩ bK ap aK
  ·have gP:j=R:=by have:=h2;simp at this;omega
   have zO:=pt (by omega:b<bl.length) (show(k:Int)∈db bl b by rw[fY hB];exact aq GS);have hag:=gu cY ii (show k<bl.length by omega);have aaG:bU aa ab ao:=⟨IN (aL hag)⟩;have ai8:bY k an:=⟨by rw[HE];exact(az.1 hag).1⟩;obtain⟨csa,af0,av,rfl,Ag⟩:=Ad k _ hag;have aiD:a6 w0 ab (ao+k*1) _:=⟨af0⟩;have Sg:=Ag;obtain⟨a2,a2n,a2c,_,_,rfl,_⟩:=Ag;have hTo:=hf.block k T hT;refine aE ?_;refine bB rfl (λw hw=>B5 _ (aZ bl k) b w zO (Sg.bZ dP hw.ch)) ?_;have SD:(aZ bl k).idxOf b<(aZ bl k).length:=ju zO;generalize hix:(aZ bl k).idxOf b=ix at SD;refine aH ?_;refine bL (λ(x:Nat×List Bool)=>x.1<=xn/\x.2.length=R/\∀r,has x.2 r↔(has s' r∨∃q p,q<x.1/\T.aD[q]?=Z p/\k_ [p.src[ix]?.getD iu] r=true)) (λx=>[(70,U O x.1),(68,J xa xn xc),(69,U O xn),(16,U O (ix:Nat)),(12,U O k),aj 13 p13,(31,U O i),(29,J ta tn tc),(30,U O tn),(9,J (Z ⟨ob,0,A⟩) R R),aj 4 p4,(1,J aa an ac),(2,J ia n ic),(3,U O b)]) (λx=>[js (Z ⟨ob,0,A⟩) R R x.2,K p13 [J xa xn xc,J l2a l2n l2c,U O T.kind,D T.on.z,U O T.on.n,J t2a t2n t2c] 46,K p4 [nm,pa,U O R,J ba n bc] 35]) (λx=>xn-x.1) (0,s')
    ⟨aT _,Xo,λr=>by simp⟩ (aS ap aK) λx ⟨hj3,S9,hs3⟩=>?_
   obtain⟨m,s3⟩:=x;simp only at hj3 S9 hs3⊢;refine aU ?_;refine aI (λh3=>?_) (λh3=>?_)
   ·have Lt:m<xn:=ax h3
    obtain⟨p,hp⟩:=et hxn Lt;have ac5:bU xa xb xo:=⟨NB (aL hp)⟩;have hlm:bY m xn:=⟨Lt⟩;obtain⟨csp,aaZ,sv,rfl,_,ny⟩:=Ti m p hp;have adl:a6 w0 xb (xo+m*2) _:=⟨aaZ⟩;have De:=hTo.aD p (aq hp);obtain⟨s2a,s2n,s2c,s2b,s2o,rfl,ahj,_,_,_,ahh,aeo⟩:=ny;obtain⟨v,hv⟩:=bf p.src ix (by rw[De.len];exact SD);have afB:bU s2a s2b s2o:=⟨ahh (aL hv)⟩;have agA:bY ix s2n:=⟨by rw[ahj,De.len];exact SD⟩;obtain⟨csv,af2,rfl,_⟩:=aeo ix v hv;have aiF:a6 w0 s2b (s2o+ix*2) _:=⟨af2⟩;have hvo:=De.uJ v (aq hv)
    repeat(first|refine aE ?_|refine dZ λ_ _=>?_)
    rename_i p18 _;refine r4 [1,0,2,3] (by decide) ?_;refine fC (H1:=[js (Z ⟨ob,0,A⟩) R R s3]++[K p18 [U O p.dst,J s2a s2n s2c] 49,K p13 [J xa xn xc,J l2a l2n l2c,U O T.kind,D T.on.z,U O T.on.n,J t2a t2n t2c] 46,K p4 [nm,pa,U O R,J ba n bc] 35]) rfl ?_;refine fK (val:=λ_:Unit=>.tuple #[]) (akg:=λ_=>[js (Z ⟨ob,0,A⟩) R R (lQ s3 v)]) (φ:=λ_=>True) rfl (λw hw=>MK (Z ⟨ob,0,A⟩) R R s3 S9 v hvo w hw.pre) λ_ _=>?_;simp only[aW,aO];refine aH ?_;refine bj (m+1,lQ s3 v) ⟨Lt,by rw[ou];exact S9,λr=>?_⟩ bK ap aw;simp only;rw[Af (by rw[S9];exact hvo),hs3 r];have wN:k_ [p.src[ix]?.getD iu] r=true↔(v.z=true/\v.n=r):=by rw[hv];simp[k_]
    constructor
    ·rintro((h|⟨q,p',h4,h5,h6⟩)|h)
     ·exact .inl h
     ·exact .inr ⟨q,p',I,h5,h6⟩
     ·exact .inr ⟨m,p,I,hp,wN.2 h⟩
    ·rintro(h|⟨q,p',h4,h5,h6⟩)
     ·exact .inl (.inl h)
     ·by_cases e:q=m
      ·subst e
       rw[hp]at h5;simp only[b_]at h5;subst h5;exact .inr (wN.1 h6)
      ·exact .inl (.inr ⟨q,p',I,h5,h6⟩)
   ·have adD:m=xn:=by have:=h3;simp at this;omega
    refine aE ?_;refine bj (i+1,s3) ⟨aa5,S9,λr=>?_⟩ bK ap aw;simp only;rw[hs3 r,iK r,hs r];have B4:uH bl k b r=true↔∃q p,q<m/\T.aD[q]?=Z p/\k_ [p.src[ix]?.getD iu] r=true:=by
     unfold uH;rw[Mn hT,mW,hix];constructor
     ·rintro⟨p,hp,h⟩
      obtain⟨q,hq⟩:=bg hp;exact⟨q,p,by have:=(az.1 hq).1;omega,hq,h⟩
     ·rintro⟨q,p,_,hq,h⟩
      exact⟨p,aq hq,h⟩
    have hIn:pV rows k r↔(r<j/\has row r):=by
     unfold pV;rw[gr];constructor
     ·rintro⟨s,e,h⟩
      simp only[b_]at e;subst e;exact⟨by have:=(az.1 h).1;omega,h⟩
     ·rintro⟨_,h⟩;exact⟨row,rfl,h⟩
    rw[<-B4,<-hIn];constructor
    ·rintro((⟨t,⟨q,h4,h5⟩,h6⟩|h)|h)
     ·exact⟨t,⟨q,I,h5⟩,h6⟩
     ·exact⟨k,⟨i,I,GS⟩,.inr h⟩
     ·exact⟨k,⟨i,I,GS⟩,.inl h⟩
    ·rintro⟨t,⟨q,h4,h5⟩,h6⟩
     by_cases e:q=i
     ·subst e
      rw[GS]at h5;have h7:(k:Int)=t:=ax h5;have:k=t:=I;subst this;rcases h6 with h6|h6
      ·exact .inr h6
      ·exact .inl (.inr h6)
     ·exact .inl (.inl ⟨t,⟨q,I,h5⟩,h6⟩)
 ·have gP:i=tn:=by have:=h1;simp at this;omega
  refine aE ?_;refine cE rfl λw hw=>⟨(ob,s),rfl,hw.sel [0] (by decide),rq,λr=>?_⟩;simp only;rw[hs r];unfold HS;rw[fY hB];constructor
  ·rintro⟨t,⟨q,_,hq⟩,h⟩;exact⟨t,aq hq,h⟩
  ·rintro⟨t,ht,h⟩
   obtain⟨q,hq⟩:=bg ht;exact⟨t,⟨q,by have:=(az.1 hq).1;omega,hq⟩,h⟩
end
end Go.Proofs.YthfhgolkafpmnaaGreatDoor
