/- Texts joined: RangeB BackB LiveP LiveQ Vals LiveA RangeG RangeF RangeS LiveB LiveC. -/
import Derived.Laws.Cover3
import Derived.Test.YthfhgolkafpmnaaGreatDoorGB
import Derived.Test.YthfhgolkafpmnaaGreatDoorGD
namespace Go.Proofs.YthfhgolkafpmnaaGreatDoor
section
open Go Go.RowKit
theorem tg{α:Type}(f:α->Value):∀l:List α,l.flatMap (λx=>[f x])=l.map f
 |[]=>rfl
 |x::l=>by rw[gx,tg f l];rfl
theorem ct{α:Type}{g:α->List Value}{s:Nat}(h:∀x,(g x).length=s):∀l:List α,(l.flatMap g).length=l.length*s
 |[]=>by simp
 |x::l=>by rw[gx,bR,h,ct h l,ie,i_];omega
theorem fy{α:Type}{g:α->List Value}{s:Nat}(h:∀x,(g x).length=s):∀(l:List α) (i:Nat) (x:α) (j:Nat) (v:Value),l[i]?=some x->(g x)[j]?=some v->(l.flatMap g)[i*s+j]?=some v
 |[],i,x,j,v,hi,_=>by simp at hi
 |y::l,0,x,j,v,hi,hj=>by
  simp only[jJ,bW]at hi;subst hi;rw[gx,dG (by have:=(aC.1 hj).1;omega)];simpa using hj
 |y::l,i+1,x,j,v,hi,hj=>by
  rw[gx,dg (by rw[h,i_];omega),h,show(i+1)*s+j-s=i*s+j by rw[i_];omega];exact fy h l i x j v (by simpa using hi) hj
theorem oU{α:Type}{g:α->List Value}{s:Nat}(h:∀x,(g x).length=s):∀(l:List α) (k:Nat) (v:Value),(l.flatMap g)[k]?=some v->∃i x j,l[i]?=some x/\(g x)[j]?=some v/\k=i*s+j
 |[],k,v,hk=>by simp at hk
 |y::l,k,v,hk=>by
  rw[gx]at hk
  by_cases bT:k<(g y).length
  ·rw[dG bT]at hk
   exact⟨0,y,k,rfl,hk,ag⟩
  ·rw[dg ag,h]at hk
   obtain⟨i,x,j,h1,h2,h3⟩:=oU h l _ v hk;rw[h]at bT;exact⟨i+1,x,j,by simpa using h1,h2,by rw[i_];omega⟩
section
variable {P:Program} {ro:Option Nat} {N:Nat} {ds:List Deferred} {S:Nat->Prop} {w0:World} {L L':List (Nat×Value)} {H H':List bN} {a:Act} {w:World}
 {ops:Array Oper} {rest:List Oper} {Q:Exit->Act->World->Prop} {p:Act->World->Prop} {x y:Operand}
instance{T e s jZ:Nat}{zs:List Value}[h:cB P T e s jZ zs](ad:Option Addr)(n c:Nat):z_ P T (.slice ad n c) (.slice none 0 0) ad.isNone:=
 ⟨λop _ _ w=>by unfold eqGuard;split<;>simp,λw=>by simp[binOp,run_equal_slice_nil w T e ad n c h.oI],λw=>run_neq_slice_nil w T e ad n c h.oI⟩
theorem kR{α:Type}{d ty T e s jZ:Nat}{zs:List Value}{pos:String}{aft:Array Go.Edge}{ad a2:Option Addr}{n c m c2 k:Nat}{xs:List Value}[h:cB P T e s jZ zs][hx:Ev L x (.slice ad n c)][hy:Ev L y (.slice a2 m c2)]
  [hv:sX H ad n c k e s xs] (hd:dj d N L=true) (hs:(Nat.blt 0 s&&Nat.beq zs.length s)=true) (l:List α) {V:World->α->List Value->Prop} (g:α->List Value) (hg:∀w x cs,V w x cs->cs=g x) (hlen:∀x,(g x).length=s) (AV:∀x,∀u∈g x,u.oneCell'=true)
  (pG:∀w,Wd S w0 H w->aM w (.slice a2 m c2) s l V) (jR:(n+m)*jZ<=140737488355328) (F1:n+m<=140737488355328)
  {F:bN->List bN} [hF:CL H k F] (kk:∀a' c',G N ds S w0 ((d,.slice a' (n+m) c')::L) (F (ai a' (n+m) c' e s (xs++l.flatMap g))) (wpListIn (FW ro) 0 P ops Q rest)):G N ds S w0 L H (wpListIn (FW ro) 0 P ops Q (⟨some d,.call {callee:=.builtin .append,args:=#[x,y],argTypes:=#[T,T]},ty,pos,aft,none⟩::rest)):=by
 intro a w hS;simp only[Bool.and_eq_true,Nat.blt_eq]at hs;obtain⟨a2',m',c2',b,o,oy,hm,Zm,_,_,ha,iK⟩:=pG w hS.wd;simp only[Value.slice.injEq]at oy;obtain⟨rfl,rfl,rfl⟩:=oy
 by_cases h0:m=0
 ·subst h0
  have hl:l=[]:=kN hm.symm;subst hl;obtain⟨i,zz,hi,_,_,_,_⟩:=h.get;have pE:n<=c:=by
   obtain⟨_,h2⟩:=hS.wd.get hv.at';rcases h2 with⟨_,h2,h3⟩|⟨_,_,_,_,h3,_⟩<;>omega
  have hr:(Builtin.append_ #[T,T] ty #[.slice ad n c,.slice a2 0 c2]).run P w=.ok (.slice ad n c) w:=by
   cases ad<;>cases a2<;>simp[Builtin.append_,run_underlying h.oI,sizeOf,typeInfo,hi,Builtin.lenOf,Builtin.firstCells,pE,storeCells,loadCells,loadCellsFrom]
  refine eG (v:=.slice ad n c) (w':=w) rfl (λ_ h=>by cases h) ?_ ?_
  ·simp[execOp,resolve,invoke,builtin,hx.eq _ _ _ hS.fr,hy.eq _ _ _ hS.fr,hr]
  ·have:=kk ad c
   simp only[oM,cq,dL]at this;rw[<-hF.eq,lD hv.at']at this;exact this _ _ ⟨hS.fr.dP hd _,hS.wd⟩
 ·have eH:l≠[]:=by rintro rfl;simp at hm;exact h0 hm
  have ha:=ha eH;subst ha;obtain⟨a',c',w',hr,dO⟩:=hS.wd.append (P:=P) (ty:=ty) (c2:=c2) (a2:=⟨b,o,none⟩) (m:=m) (news:=l.flatMap g) h hs.1 hv.at' ag (by rw[ct hlen,hm]) (λj u hj=>by
   obtain⟨i,q,j',h1,h2,rfl⟩:=oU hlen l j u hj;obtain⟨cs,hc,hV⟩:=iK i q h1;rw[hg _ _ _ hV]at hc;have:=hc j' u h2;rw[Addr.add_lit,<-dA];exact this) (λu hu=>by obtain⟨q,_,hq⟩:=du.1 hu;exact AV q u hq) jR F1 (px hs.2)
  refine eG (v:=.slice a' (n+m) c') (w':=w') rfl (λ_ h=>by cases h) ?_ ?_
  ·simp[execOp,resolve,invoke,builtin,hx.eq _ _ _ hS.fr,hy.eq _ _ _ hS.fr,hr]
  ·rw[hF.eq]at dO
   exact kk a' c' _ _ ⟨hS.fr.dP hd _,dO⟩
def marks(Ds:List Nat):List bN:=Ds.map bN.mark
def SA(Ds:List Nat):List Deferred:=Ds.map λD=>⟨.collected D,#[]⟩
def UT{α:Type}(N:Nat)(dx:α->List Deferred)(S:Nat->Prop)(w0:World)(I:α->Prop)(Lx:α->List (Nat×Value))(Hx:α->List bN)(m:α->Nat)(x:α):Act->World->Prop:=
 λa w=>∃x',(I x'/\St N (dx x') S w0 (Lx x') (Hx x') a w)/\m x'<m x
theorem J2{α:Type}(dx:α->List Deferred)(I:α->Prop)(Lx:α->List (Nat×Value))(Hx:α->List bN)(m:α->Nat){c:Code}(x:α)(hds:dx x=ds)(hI:I x)(h0:G N ds S w0 L H (St N ds S w0 (Lx x) (Hx x)))
  (round:∀x,I x->G N (dx x) S w0 (Lx x) (Hx x) (Code.wpIn (FW ro) 0 P c (Exit.then (UT N dx S w0 I Lx Hx m x) Q))):G N ds S w0 L H (Code.wpIn (FW ro) 0 P (Code.loop c) Q):=
 λa w hS=>HV (λx a w=>I x/\St N (dx x) S w0 (Lx x) (Hx x) a w) m x ⟨hI,by rw[hds];exact h0 a w hS⟩ λx a w h=>round x h.1 a w h.2
theorem Ea{α:Type}{dx:α->List Deferred}{I:α->Prop}{Lx:α->List (Nat×Value)}{Hx:α->List bN}{m:α->Nat}{x:α}(x':α)(hds:dx x'=ds)(hI:I x')(hm:m x'<m x)(hL:wy L (Lx x'))(hH:(Hx x').Sublist H):G N ds S w0 L H (UT N dx S w0 I Lx Hx m x):=
 λ_ _ hS=>⟨x',⟨hI,by rw[hds];exact hS.fix hL hH⟩,hm⟩
theorem wX{fn:Func}{tmps:Array Value}{R:Value->World->Prop}{v:Value}(hr:∀w,(results fn tmps).run P w=.ok v w)(hR:∀w,Wd dh w0 H w->R v w):∀(Ds:List Nat) (w:World),Wd dh w0 (marks Ds++H) w->
  LeavesInM (FW none) 0 P fn tmps (λe w'=>∃v,e=.returned v/\R v w') (SA Ds) .returning w
 |[],w,hW=>⟨v,hr w,v,rfl,hR w hW⟩
 |D::Ds,w,hW=>by
  have h1:Wd dh w0 (bN.mark D::(marks Ds++H)) w:=hW;have hD:w0.heap.size<=D:=(h1.own (bN.mark D) aH D rfl).1.elim (λh=>h.elim) id;exact⟨by simp,.inl ⟨D,_,rfl,run_takeDeferred (h1.get (k:=0) rfl),wX hr hR Ds _ (h1.shut hD _)⟩⟩
theorem Oq{fn:Func}{R:Value->World->Prop}{Ds:List Nat}{s t:Nat}{v u:Value}(hr:fn.results= #[.tmp s,.tmp t])[hv:gF L s v][hu:gF L t u](hR:∀w,Wd dh w0 H w->R (.tuple #[v,u]) w):G N (SA Ds) dh w0 L (marks Ds++H) (bodyPostM (FW none) 0 P fn (λe w'=>∃v,e=.returned v/\R v w') .ret):=λa w hS=>by
 show LeavesInM _ _ _ _ _ _ _ _ _;rw[hS.fr.defers];exact wX (λw=>by rw[results_tmp2 hr];simp[sZ,hS.fr.slot _ hv.mem,hS.fr.slot _ hu.mem]) hR Ds w hS.wd
def kZ(own:Nat->Prop)(W W':World):Prop:=∀b cs t z,¬own b->W.heap[b]?=some (.cells cs t z)->W'.heap[b]?=some (.cells cs t z)
theorem kZ.refl(own:Nat->Prop)(W:World):kZ own W W:=λ_ _ _ _ _ h=>h
theorem kZ.trans{own:Nat->Prop}{A B C:World}(h:kZ own A B)(k:kZ own B C):kZ own A C:=λb cs t z hb hc=>k b cs t z hb (h b cs t z hb hc)
theorem HX{W:World}{p:Addr}{v:Value}(h:W.cell? p=some v):∃cs t z,W.heap[p.block]?=some (.cells cs t z):=by
 unfold World.cell? at h
 revert h
 cases W.heap[p.block]? with
 |none=>intro h;simp at h
 |some o=>cases o<;>intro h<;>first|exact⟨_,_,_,rfl⟩|simp at h
theorem kZ.cell{own:Nat->Prop}{A B:World}(h:kZ own A B){p:Addr}{v:Value}(hp:¬own p.block)(hc:A.cell? p=some v):B.cell? p=some v:=by
 obtain⟨cs,t,z,hb⟩:=HX hc;have:=h _ _ _ _ hp hb;rw[<-hc];exact World.cell?_of_block (this.trans hb.symm)
theorem JZ{Lp:Nat->List (Nat×Value)}{Hp:Nat->List bN}(q:Nat)(hL:wy L (Lp q))(hH:(Hp q).Sublist H):G N ds S w0 L H (λa w=>∃q,St N ds S w0 (Lp q) (Hp q) a w):=λ_ _ hS=>⟨q,hS.fix hL hH⟩
theorem Oo{α σ:Type}{g:Operand}{ps:Array Tmp}{assign body:Code}{gf:Nat}{lb:List Value}[hg:Ev L g (.func (.func gf) #[] lb.toArray)][eg:aS P gf](F:List bN)(Hc:σ->List bN)(s0:σ)(fv:∀s,HL (Hc s))(Zf:∀s s' b,cF (Hc s) b->cF (Hc s') b)(xs:List α){encs:α->Array Value}
  {Bs:Nat} {bcs:List Value} {bt:TypeId} (RW:aj Bs bcs bt∈F)
  (PA:∀w,Wd dh w0 H w->SeqStopsK (FW none) 4 P gf lb.toArray encs (kZ λb=>cF (Hc s0++F) b/\b≠Bs) (λys=>ys=xs) (λpre=>pre<+:xs) xs.length w)
  (I:List α->σ->Prop) (h0:I [] s0) (hH:(Hc s0++F).Sublist H) (wV:∀x,(encs x).size=ps.size) (bx:α->List Value) (T:Nat)
  (L0:α->List (Nat×Value)) (La:α->Nat->List (Nat×Value)) (my:∀x a,Fr N ds L a->Fr N [] (L0 x) {tmps:=(ps.zip (encs x)).foldl (λt (p,v)=>t.setIfInBounds p v) a.tmps,defers:=[]})
  (wS:∀(l:Nat) (x:α) (s:σ) (R:bN),G N [] dh w0 (L0 x) (R::(Hc s++F)) (assign.wpIn (FW (some l)) 0 P (Exit.then (λa w=>∃q,St N [] dh w0 (La x q) (aj q (bx x) T::R::(Hc s++F)) a w) (λ_ _ _=>False))))
  (q_:∀(l:Nat) (pre:List α) (x:α) (s:σ) (q:Nat) (R:bN),I pre s->pre.length<xs.length->G N [] dh w0 (La x q) (R::aj q (bx x) T::(Hc s++F)) (body.wpIn (FW (some l)) 0 P (Exit.then (Rnd dh w0 (I (pre++[x])) R Hc (aj q (bx x) T::F)) (λ_ _ _=>False))))
  (k:∀D s,w0.heap.size<=D->I xs s->G N (⟨.collected D,#[]⟩::ds) dh w0 L (bN.mark D::(Hc s++F)) (Q .normal)):G N ds dh w0 L H (Code.wpIn (FW none) 0 P (Code.rangeFunc g ps assign body) Q):=λa w hS=>by
 have oj:=hS.wd.size;have hF:∀e∈F,∀b,e.fp b->b<w.heap.size:=λe he b hb=>(hS.wd.own e (hH.subset (dt _ he)) b hb).2;have j4:∀s W,Wd dh w0 (Hc s++F) W->∀r o,W.heap[r]?=some o->o.isCells=false->w.heap.size<=r->¬cF (Hc s++F) r:=by
  rintro s W hW r o ho hn hle ⟨e,he,hb⟩;rcases bL.1 he with he|he
  ·obtain⟨j,hj⟩:=br (cC F he)
   obtain⟨cs,t,z,hc⟩:=((fv s).all e he).ok W (hW.get hj) r hb;rw[hc]at ho;cases ho;cases hn
  ·have:=hF e he r hb;omega
 have Ga:∀s W,Wd dh w0 (Hc s++F) W->W.heap[Bs]?=some (.cells bcs.toArray bt (0,0)):=λs W hW=>by
  obtain⟨j,hj⟩:=br (dt (Hc s) RW);exact hW.get hj
 have IE:∀s s' b,cF (Hc s++F) b->cF (Hc s'++F) b:=by
  rintro s s' b ⟨e,he,hb⟩;rcases bL.1 he with he|he
  ·obtain⟨e',Vk,mL⟩:=Zf s s' b ⟨e,he,hb⟩
   exact⟨e',cC _ Vk,mL⟩
  ·exact⟨e,dt _ he,hb⟩
 have Cr:∀s s' (H0:List bN) W W',Wd dh w0 (Hc s++F) W->(∀r o,W.heap[r]?=some o->o.isCells=false->w.heap.size<=r->¬cF H0 r)->Wd dh w0 (bN.rest (tL w0.heap.size W H0) W::(Hc s'++F)) W'->(∀b,cF H0 b->¬cF (Hc s0++F) b->W'.heap[b]?=W.heap[b]?)->KeepsFrom w.heap.size W W'/\kZ (λb=>cF (Hc s0++F) b/\b≠Bs) W W':=by
  intro s s' H0 W W' hW Gc u_ hx;obtain⟨hs,hr⟩:=u_.get (k:=0) rfl;refine⟨⟨hs,λj o hj ho hn=>?_⟩,λb cs t z hb hc=>?_⟩
  ·exact(hr j ⟨ag,(fI.1 ho).1,Gc j o ho hn hj⟩).trans ho
  ·by_cases e:b=Bs
   ·subst e
    exact(Ga s' W' (u_.sub (dZ _ _))).trans ((Ga s W hW).symm.trans hc)
   ·have C7:¬cF (Hc s0++F) b:=λh=>hb ⟨h,e⟩
    by_cases bT:b<w0.heap.size
    ·exact((u_.cE.block b bT λh=>h).trans (hW.cE.block b bT λh=>h).symm).trans hc
    ·by_cases h0:cF H0 b
     ·exact(hx b h0 C7).trans hc
     ·exact(hr b ⟨ag,(fI.1 hc).1,h0⟩).trans hc
 refine kY (m:=5) ?_;refine wpIn_rangeFunc_ownH (F:=FW none) (n:=5) (w0:=w) rfl ag (hg.eq _ _ _ hS.fr) trivial (λargs w=>eg.run args w) (PA w hS.wd) (λh1 h2=>h1.trans h2) (λW l o o' hl ho hn _ b cs t z _ hc=>?_) (Below.refl _ _) wV
  (λpre W=>∃s,I pre s/\Wd dh w0 (Hc s++F) W/\w.heap.size<=W.heap.size) (λ_ _ _=>False) (λpre W W' row ⟨s,hI,hW,Pz⟩ hg hr=>⟨s,hI,hW.grown hg λr e=>?_,dB Pz hg.size⟩) (λ_ _ _ _ _ h=>h.elim) ⟨s0,h0,hS.wd.sub hH,bH _⟩
  (λx a' W=>∃q,Fr N [] (La x q) a'/\W.heap[q]?=some (.cells (bx x).toArray T (0,0))/\w.heap.size<=q/\∀s,¬cF (Hc s++F) q) (λx a' _ W W' row ⟨q,h1,h2,h3,h4⟩ hg hr=>⟨q,h1,?_,h3,h4⟩) ?_ ?_ ?_ ?_
 ·refine(World.putObj_heap_other λe=>?_).trans hc
  subst e;rw[hc]at ho;cases ho;cases hn
 ·obtain⟨h1,o,ho,hn⟩:=hr r e
  exact⟨ag,j4 s W hW r o ho hn h1⟩
 ·refine(hg.block q (fI.1 h2).1 λe=>?_).trans h2
  obtain⟨_,o,ho,hn⟩:=hr q e.symm;rw[h2]at ho;cases ho;cases hn
 ·rintro l pre x W K ⟨s,hI,hW,Pz⟩ hK
  refine kY (m:=0) ?_;refine Code.wpIn_mono (λe a' W' q=>?_) (wS l x s _ _ W ⟨my x a hS.fr,hW.tV⟩);cases e with
  |normal=>
   obtain⟨q,hq⟩:=q;have ho:=Cr s s _ W W' hW (j4 s W hW) (hq.wd.sub (dZ _ _)) λb hb hn=>absurd (IE s s0 b hb) hn;have wR:=fN.1 hq.wd.apart;have hqf:¬cF (Hc s++F) q:=λ⟨e,he,hb⟩=>wR.1 e (cJ _ he) q rfl hb;have IK:=hq.wd.own (aj q (bx x) T) aH q rfl;refine hK a' W' ho.1 ho.2 ⟨s,hI,hq.wd.sub (.cons _ (.cons _ (.refl _))),dB Pz ho.1.size⟩ ⟨q,hq.fr,hq.wd.get (k:=0) rfl,?_,λs' h=>hqf (IE s' s q h)⟩;refine Classical.byContradiction λbT=>?_;have h1:w0.heap.size<=q:=IK.1.elim (λh=>h.elim) id;exact wR.1 (bN.rest (tL w0.heap.size W (Hc s++F)) W) aH q rfl ⟨h1,ag,hqf⟩
  |_=>exact q.elim
 ·rintro l pre x a' W _ _ ⟨s,hI,hW,Pz⟩ ⟨q',h1,h2,h3,h4⟩ bT
  have hWb:Wd dh w0 (aj q' (bx x) T::(Hc s++F)) W:=⟨hW.cE,λe he b hb=>by
   rcases bJ.1 he with rfl|he
   ·cases hb
    exact⟨.inr ag,(fI.1 h2).1⟩
   ·exact hW.own e he b hb,λe he w2 hs jl=>by
   rcases bJ.1 he with rfl|he
   ·exact(jl q' rfl).trans h2
   ·exact hW.ok e he w2 hs jl,fN.2 ⟨λf hf b hb wj=>by cases hb;exact h4 s ⟨f,hf,wj⟩,hW.apart⟩⟩
  refine kY (m:=0) ?_;refine Code.wpIn_mono (λe a' W' q=>?_) (q_ l pre x s q' _ hI bT a' W ⟨h1,hWb.tV⟩);cases e with
  |normal=>
   obtain⟨s',SX,u_⟩:=q;have hW2:Wd dh w0 (bN.rest (tL w0.heap.size W (aj q' (bx x) T::(Hc s++F))) W::(Hc s'++F)) W':=u_.sub (dn (Ag (dZ _ _) _));have Ct:W'.heap[q']?=some (.cells (bx x).toArray T (0,0)):=by
    obtain⟨j,hj⟩:=br (show aj q' (bx x) T∈bN.rest (tL w0.heap.size W (aj q' (bx x) T::(Hc s++F))) W::(Hc s'++(aj q' (bx x) T::F)) by simp);exact u_.get hj
   have ho:=Cr s s' _ W W' hW (λr o ho hn hle=>by
    rintro⟨e,he,hb⟩;rcases bJ.1 he with rfl|he
    ·cases hb
     rw[h2]at ho;cases ho;cases hn
    ·exact j4 s W hW r o ho hn hle ⟨e,he,hb⟩) hW2 (λb hb hn=>by
    obtain⟨e,he,hb⟩:=hb;rcases bJ.1 he with rfl|he
    ·cases hb
     exact Ct.trans h2.symm
    ·exact absurd (IE s s0 b ⟨e,he,hb⟩) hn)
   exact⟨ho.1,ho.2,s',SX,hW2.sub (dZ _ _),dB Pz ho.1.size⟩
  |_=>exact q.elim
 ·rintro D ys W hD rfl ⟨s,hI,hW,_⟩ hd
  refine k D s ag hI _ W ⟨⟨hS.fr.size,by rw[hS.fr.defers],hS.fr.slot⟩,?_⟩;have hn:¬cF (Hc s++F) D:=j4 s W hW D _ hd rfl hD;exact⟨hW.cE,λe he b hb=>by
   rcases bJ.1 he with rfl|he
   ·cases hb
    exact⟨.inr ag,(fI.1 hd).1⟩
   ·exact hW.own e he b hb,λe he w2 hs jl=>by
   rcases bJ.1 he with rfl|he
   ·exact(jl D rfl).trans hd
   ·exact hW.ok e he w2 hs jl,fN.2 ⟨λf hf b hb wj=>by cases hb;exact hn ⟨f,hf,wj⟩,hW.apart⟩⟩
 ·intro D c pre W _ _ h
  exact h.elim
end
end
section
open Go Go.RowKit Go.Shelf
attribute [local go_sem] Oper.semAt_some
def wG(l:List (List Value))(k:Nat):List (Int×List Value):=(List.range k).map λ(j:Nat)=>(((l.length-1-j:Nat):Int),l[l.length-1-j]?.getD [])
theorem wH(l:List (List Value))(k:Nat):(wG l k).length=k:=by simp[wG]
set_option maxRecDepth 100000 in
set_option maxHeartbeats 2000000 in
theorem Fl(n:Nat)(hn:1<=n){α:Type}(enc:α->Int×List Value)(l Bs b off cap:Nat)(K:Nat->Prop)(Kp:World->World->Prop)(hKr:∀W,Kp W W)(hKt:∀A B C,Kp A B->Kp B C->Kp A C)(SY:∀A B,Kp A B->∀p v,K p.block->A.cell? p=some v->B.cell? p=some v)(zs:List (List Value))(xs:List α)(mM:xs.map enc=wG zs zs.length)(hlen:zs.length<=100000)(hb:zs≠[]->K b)(WC:K Bs)(J Jx:List α->World->Prop)(a:Option Addr)(ha:zs≠[]->a=some ⟨b,off,none⟩)
  (hY:∀pre x W,J pre W->pre.length<zs.length->YieldAt Fence.wide (n-1) Tryz.prog l #[.int .i64 (enc x).1,.agg (enc x).2.toArray] W λe W'=>
   (e=.returned (.bool true)/\J (pre++[x]) W'/\Kp W W')∨(e=.returned (.bool false)/\Jx (pre++[x]) W'))
  (W:World) (RW:W.cell? ⟨Bs,0,none⟩=some (.slice a zs.length cap)) (h8:∀z∈zs,z.length=8) (hc:∀m z,zs[m]?=some z->∀j v,z[j]?=some v->W.cell? ⟨b,off+m*8+j,none⟩=some v) (h0:J [] W):
  CallsIn Fence.wide n Tryz.prog 165 #[.func (.yield l) #[] #[],.pointer (some ⟨Bs,0,none⟩)] W λe W'=>(∃v,e=.returned v)/\
   ((∃ys,ys=xs/\J ys W')∨(∃pre,pre<+:xs/\Jx pre W')):=by
 refine callsIn_of_wp Tryz.func165 rfl trivial ?_ rfl;simp only[Tryz.ntmps165,List.size_toArray,ie,ql,Nat.reduceAdd,Nat.reduceSub,Array.replicate_succ,Array.replicate_zero,List.push_toArray,List.append_toArray,aT,a6];have r8:xs.length=zs.length:=by have:=congrArg List.length mM;rwa[aG,wH]at this
 have PN:wrap64 ((zs.length:Int)-1)=(zs.length:Int)-1:=sH _ ag ag
 gi_wp2
 gi_loopw [3] (λi wr=>∃m:Nat,m<=zs.length/\i=.int .i64 ((m:Int)-1)/\J (xs.take (zs.length-m)) wr/\Kp W wr) (λi _=>(intOf i+1).toNat)
 case atStart=>exact⟨zs.length,bH _,by first|rfl|simp[PN],by simpa using h0,hKr _⟩
 case round=>
  obtain⟨m,hm,rfl,WG,hk⟩:=hrel;cases m with
  |zero=>
   gi_wp2
   go_end0
   exact⟨⟨_,rfl⟩,.inl ⟨xs,rfl,by rw[Nat.sub_zero,jw ag]at WG;exact WG⟩⟩
  |succ m=>
   have eH:zs≠[]:=by rintro rfl;simp at hm
   obtain rfl:=ha eH;rw[show(((m+1:Nat):Int)-1)=(m:Int) by omega];obtain⟨z,hz⟩:∃z,zs[m]?=some z:=⟨_,aB ag⟩;have hz8:=h8 z (aA hz);obtain⟨c0,c1,c2,c3,c4,c5,c6,c7,rfl⟩:∃c0 c1 c2 c3 c4 c5 c6 c7,z=[c0,c1,c2,c3,c4,c5,c6,c7]:=by
    match z,hz8 with
    |[c0,c1,c2,c3,c4,c5,c6,c7],_=>exact⟨c0,c1,c2,c3,c4,c5,c6,c7,rfl⟩
   have Gc:wr.cell? ⟨b,off+m*8,none⟩=some c0:=SY _ _ hk ⟨b,off+m*8,none⟩ _ (hb eH) (hc m _ hz 0 c0 rfl);have Ny:wr.cell? ⟨b,off+m*8+1,none⟩=some c1:=SY _ _ hk ⟨b,off+m*8+1,none⟩ _ (hb eH) (hc m _ hz 1 c1 rfl);have Gd:wr.cell? ⟨b,off+m*8+2,none⟩=some c2:=SY _ _ hk ⟨b,off+m*8+2,none⟩ _ (hb eH) (hc m _ hz 2 c2 rfl);have Vg:wr.cell? ⟨b,off+m*8+3,none⟩=some c3:=SY _ _ hk ⟨b,off+m*8+3,none⟩ _ (hb eH) (hc m _ hz 3 c3 rfl);have hc4:wr.cell? ⟨b,off+m*8+4,none⟩=some c4:=SY _ _ hk ⟨b,off+m*8+4,none⟩ _ (hb eH) (hc m _ hz 4 c4 rfl);have hc5:wr.cell? ⟨b,off+m*8+5,none⟩=some c5:=SY _ _ hk ⟨b,off+m*8+5,none⟩ _ (hb eH) (hc m _ hz 5 c5 rfl);have hc6:wr.cell? ⟨b,off+m*8+6,none⟩=some c6:=SY _ _ hk ⟨b,off+m*8+6,none⟩ _ (hb eH) (hc m _ hz 6 c6 rfl);have hc7:wr.cell? ⟨b,off+m*8+7,none⟩=some c7:=SY _ _ hk ⟨b,off+m*8+7,none⟩ _ (hb eH) (hc m _ hz 7 c7 rfl);have hBx:wr.cell? ⟨Bs,0,none⟩=some (.slice (some ⟨b,off,none⟩) zs.length cap):=SY _ _ hk ⟨Bs,0,none⟩ _ WC RW;have bT:m<zs.length:=ag;obtain⟨x,hx⟩:∃x,xs[zs.length-(m+1)]?=some x:=⟨_,aB ag⟩;have hex:enc x=((m:Int),[c0,c1,c2,c3,c4,c5,c6,c7]):=by
    have h1:(xs.map enc)[zs.length-(m+1)]?=some (enc x):=by rw[aK,hx];rfl
    rw[mM,wG,aK,eQ ag]at h1;simp only[bz,bW]at h1;rw[<-h1,show zs.length-1-(zs.length-(m+1))=m by omega,hz];rfl
   have WM:=hY _ x wr WG (by rw[cU];omega);rw[hex]at WM;have Cv:xs.take (zs.length-(m+1))++[x]=xs.take (zs.length-m):=by
    rw[show zs.length-m=(zs.length-(m+1))+1 by omega,cj,hx];rfl
   rw[Cv]at WM;obtain⟨fn,tmps,assign,body,hy,hR⟩:=WM
   dsimp only at hy
   have Yk:wrap64 ((m:Int)-1)=(m:Int)-1:=sH _ ag ag
   gi_wp2
   refine hR.mono ?_;rintro e W3 (⟨rfl,hJ3,R4⟩|⟨rfl,WI⟩)
   ·gi_wp2
    go_roundw
    case rel=>exact⟨m,ag,by first|rfl|simp[Yk],hJ3,hKt _ _ _ hk R4⟩
    case measure=>simp[intOf]
   ·gi_wp2
    refine bodyPost_ret (results_none rfl _ _ _) rfl ?_;exact⟨⟨_,rfl⟩,.inr ⟨_,List.take_prefix _ _,WI⟩⟩
end
section
open Go Go.RowKit
def ke(l:List cm)(r:Nat):Bool:=l.any λv=>v.bD&&decide (v.n=r)
def mH(x:en):List cm:=(if (shape x.op).2.1 then[x.a]else[])++((if (shape x.op).2.2 then[x.b]else[])++x.args)
def gI(x:en):List cm:=if x.op=21 then[]else if x.op=20 then x.args else if (2<=x.op/\x.op<=15)∨x.op=19 then[x.a,x.b]else if 1<=x.op/\x.op<=22 then[x.a]else[]
def ik(R:Nat)(v:cm):Prop:=v.bD=true->0<=v.n/\v.n<R
structure uV(R:Nat)(x:en):Prop where
 op:1<=x.op/\x.op<=22
 args:x.op≠20->x.args=[]
 dst:0<=x.dst->x.dst<R
 tU:∀v∈mH x,ik R v
theorem rM{R:Nat}{x:en}(h:uV R x):gI x=mH x:=by
 have h1:=h.op;unfold gI mH shape
 by_cases U2:x.op=20
 ·simp[U2]
 ·rw[h.args U2]
  by_cases ZU:x.op=21
  ·simp[ZU]
  ·rw[if_neg ZU,if_neg U2]
   by_cases e1:((x.op=1∨x.op=16)∨x.op=17)∨x.op=18
   ·rw[if_pos e1,if_neg ag,if_pos h1];simp
   ·rw[if_neg e1]
    by_cases e2:2<=x.op/\x.op<=15
    ·rw[if_pos e2,if_pos (.inl e2)];simp
    ·rw[if_neg e2]
     by_cases e3:x.op=19
     ·rw[if_pos e3,if_pos (.inr e3)];simp
     ·have e4:x.op=22:=ag
      simp[e4]
def kM(s:List Bool)(v:cm):List Bool:=if v.bD then s.set v.n.toNat true else s
def uQ(s:List Bool)(x:en):List Bool:=(mH x).foldl kM (if 0<=x.dst then s.set x.dst.toNat false else s)
theorem mF(s:List Bool)(v:cm):(kM s v).length=s.length:=by unfold kM;split<;>simp
theorem xl(l:List cm):∀s:List Bool,(l.foldl kM s).length=s.length:=by
 induction l with
 |nil=>exact λ_=>rfl
 |cons v l ih=>exact λs=>by rw[fF,ih,mF]
theorem tp(s:List Bool)(x:en):(uQ s x).length=s.length:=by unfold uQ;rw[xl];split<;>simp
def has(s:List Bool)(r:Nat):Prop:=s[r]?=some true
theorem xR{s:List Bool}{v:cm}{r:Nat}(hv:ik s.length v):has (kM s v) r↔(has s r∨(v.bD=true/\v.n=r)):=by
 unfold kM has
 by_cases h:v.bD=true
 ·have:=hv h
  rw[if_pos h,dQ]
  by_cases e:v.n.toNat=r
  ·rw[if_pos e,if_pos ag]
   simp only[true_iff];exact .inr ⟨h,ag⟩
  ·rw[if_neg e]
   exact⟨.inl,λh=>h.resolve_right λh=>e ag⟩
 ·rw[if_neg h]
  exact⟨.inl,λh'=>h'.resolve_right λh'=>h h'.1⟩
theorem C5{r:Nat}:∀(l:List cm) (s:List Bool),(∀v∈l,ik s.length v)->(has (l.foldl kM s) r↔(has s r∨ke l r=true))
 |[],s,_=>by simp[ke]
 |v::l,s,h=>by
  rw[fF,C5 l (kM s v) (by rw[mF];exact λu hu=>h u (cJ _ hu)),xR (h v aH)];simp only[ke,List.any_cons,Bool.or_eq_true,Bool.and_eq_true,decide_eq_true_eq,or_assoc]
theorem vd{s:List Bool}{d r:Nat}:has (s.set d false) r↔(has s r/\d≠r):=by
 unfold has;rw[dQ]
 by_cases e:d=r
 ·subst e
  simp only[if_true,ne_eq,not_true_eq_false,and_false,iff_false]
  split<;>simp
 ·rw[if_neg e];simp[e]
theorem OJ{s:List Bool}{x:en}{r:Nat}(hx:uV s.length x):has (uQ s x) r↔(ke (mH x) r=true∨(x.dst≠r/\has s r)):=by
 unfold uQ;rw[C5 _ _ (by split<;>simpa using hx.tU)]
 by_cases h:0<=x.dst
 ·rw[if_pos h,vd]
  constructor
  ·rintro(⟨h1,h2⟩|h1)
   ·exact .inr ⟨λe=>h2 ag,h1⟩
   ·exact .inl h1
  ·rintro(h1|⟨h1,h2⟩)
   ·exact .inr h1
   ·exact .inl ⟨h2,λe=>h1 ag⟩
 ·rw[if_neg h]
  constructor
  ·rintro(h1|h1)
   ·exact .inr ⟨ag,h1⟩
   ·exact .inl h1
  ·rintro(h1|⟨_,h1⟩)
   ·exact .inr h1
   ·exact .inl h1
def bf(bl:List ar)(t:Nat):List Nat:=(List.range bl.length).filter λi=>decide ((t:Int)∈dd bl i)
def eU(bl:List ar)(t:Nat):List eC:=match bl[t]? with|some B=>B.aL|none=>[]
def gK:cm:=⟨false,0⟩
def tT(bl:List ar)(t b r:Nat):Bool:=(eU bl t).any λp=>ke [p.src[(bf bl t).idxOf b]?.getD gK] r
structure UW(R np:Nat)(p:eC):Prop where
 dst:0<=p.dst/\p.dst<R
 len:p.src.length=np
 tU:∀v∈p.src,ik R v
structure Sh(R:Nat)(bl:List ar)(b:Nat)(B:ar):Prop where
 aL:∀p∈B.aL,UW R (bf bl b).length p
 list:∀x∈B.list,uV R x
 on:ik R B.on
 to:B.to.Nodup
structure eX(R:Nat)(bl:List ar):Prop where
 iM:cL bl
 block:∀b B,bl[b]?=some B->Sh R bl b B
inductive gM(bl:List ar)(r:Nat):Nat->Int->Prop
 |jW {b:Nat} {B:ar}:bl[b]?=some B->(∀p∈B.aL,p.dst≠r)->gM bl r b 0->gM bl r b (-1)
 |use {b i:Nat} {B:ar} {x:en}:bl[b]?=some B->B.list[i]?=some x->ke (gI x) r=true->gM bl r b i
 |go {b i:Nat} {B:ar} {x:en}:bl[b]?=some B->B.list[i]?=some x->x.dst≠r->gM bl r b (i+1:Nat)->gM bl r b i
 |on {b:Nat} {B:ar}:bl[b]?=some B->ke [B.on] r=true->gM bl r b B.list.length
 |take {b:Nat} {B:ar} {j:Int} {t:Nat}:bl[b]?=some B->(j=B.list.length∨j=B.list.length+1)->(t:Int)∈B.to->tT bl t b r=true->gM bl r b j
 |jump {b:Nat} {B:ar} {j:Int} {t:Nat}:bl[b]?=some B->(j=B.list.length∨j=B.list.length+1)->(t:Int)∈B.to->gM bl r t (-1)->gM bl r b j
def Fc(bl:List ar)(I:Nat->Nat->Prop)(b r:Nat):Prop:=∃t:Nat,(t:Int)∈dd bl b/\(tT bl t b r=true∨I t r)
def JO(l:List en)(on:cm)(P:Nat->Prop)(r:Nat):Prop:=match l with
 |[]=>ke [on] r=true∨P r
 |x::l=>ke (gI x) r=true∨(x.dst≠r/\JO l on P r)
def Head(bl:List ar)(I:Nat->Nat->Prop)(b r:Nat):Prop:=∃B,bl[b]?=some B/\(∀p∈B.aL,p.dst≠r)/\JO B.list B.on (Fc bl I b) r
theorem Fc.mono{bl:List ar}{I J:Nat->Nat->Prop}(h:∀t r,I t r->J t r){b r:Nat}(k:Fc bl I b r):Fc bl J b r:=by
 obtain⟨t,h1,h2⟩:=k;exact⟨t,h1,h2.imp id (h t r)⟩
theorem JO.mono{on:cm}{P Q:Nat->Prop}(h:∀r,P r->Q r):∀{l:List en} {r:Nat},JO l on P r->JO l on Q r
 |[],r,k=>k.imp id (h r)
 |_::_,_,k=>k.imp id λ⟨h1,h2⟩=>⟨h1,JO.mono h h2⟩
theorem Head.mono{bl:List ar}{I J:Nat->Nat->Prop}(h:∀t r,I t r->J t r){b r:Nat}(k:Head bl I b r):Head bl J b r:=by
 obtain⟨B,h1,h2,h3⟩:=k;exact⟨B,h1,h2,JO.mono (λr=>Fc.mono h) h3⟩
theorem Fq{bl:List ar}{I:Nat->Nat->Prop}(h:∀t r,I t r->gM bl r t (-1)){b r:Nat}{B:ar}(hB:bl[b]?=some B){j:Int}(hj:j=B.list.length∨j=B.list.length+1)(k:Fc bl I b r):gM bl r b j:=by
 obtain⟨t,h1,h2⟩:=k;rw[fR hB]at h1;rcases h2 with h2|h2
 ·exact .take hB hj h1 h2
 ·exact .jump hB hj h1 (h t r h2)
theorem Hq{bl:List ar}{b r:Nat}{B:ar}(hB:bl[b]?=some B){P:Nat->Prop}(hP:P r->gM bl r b B.list.length):∀(l:List en) (i:Nat),B.list.drop i=l->JO l B.on P r->i<=B.list.length->gM bl r b i
 |[],i,hd,k,hle=>by
  have hi:i=B.list.length:=by
   have:=List.drop_eq_nil_iff.1 hd;omega
  subst hi;exact k.elim (λh=>.on hB h) hP
 |x::l,i,hd,k,hle=>by
  have bT:i<B.list.length:=by
   by_cases h:i<B.list.length
   ·exact h
   ·rw[List.drop_eq_nil_of_le ag]at hd;cases hd
  have hx:B.list[i]?=some x:=by
   have:=congrArg (λl=>l[0]?) hd;simpa using this
  have hd':B.list.drop (i+1)=l:=by
   have:=congrArg (List.drop 1) hd;simpa[List.drop_drop]using this
  rcases k with k|⟨k1,k2⟩
  ·exact .use hB hx k
  ·exact .go hB hx k1 (Hq hB hP l (i+1) hd' k2 ag)
theorem L4{bl:List ar}{I:Nat->Nat->Prop}(h:∀t r,I t r->gM bl r t (-1)){b r:Nat}(k:Head bl I b r):gM bl r b (-1):=by
 obtain⟨B,hB,h2,h3⟩:=k;exact .jW hB h2 (Hq hB (λhP=>Fq h hB (.inl rfl) hP) B.list 0 rfl h3 (aY _))
theorem y9{bl:List ar}{I:Nat->Nat->Prop}{r:Nat}(h:∀b,Head bl I b r->I b r){b:Nat}{j:Int}(k:gM bl r b j):
  ∀B,bl[b]?=some B->(j=-1->I b r)/\(∀i:Nat,j=i->i<=B.list.length->JO (B.list.drop i) B.on (Fc bl I b) r)/\(j=B.list.length+1->Fc bl I b r):=by
 induction k with
 |@jW b B hB hp _ ih=>
  intro B' u9;rw[hB]at u9;cases u9;have h1:=(ih B hB).2.1 0 rfl (aY _);exact⟨λ_=>h b ⟨B,hB,hp,h1⟩,λi hi=>ag,λhj=>ag⟩
 |@use b i B x hB hx hn=>
  intro B' u9;rw[hB]at u9;cases u9;have bT:=(aC.1 hx).1;refine⟨λe=>ag,λi' yZ _=>?_,λhj=>ag⟩;have:i'=i:=ag;subst this;rw[lF bT,show B.list[i']=x from(aC.1 hx).2];exact .inl hn
 |@go b i B x hB hx hd _ ih=>
  intro B' u9;rw[hB]at u9;cases u9;have bT:=(aC.1 hx).1;refine⟨λe=>ag,λi' yZ _=>?_,λhj=>ag⟩;have:i'=i:=ag;subst this;rw[lF bT,show B.list[i']=x from(aC.1 hx).2];exact .inr ⟨hd,(ih B hB).2.1 (i'+1) rfl ag⟩
 |@on b B hB hn=>
  intro B' u9;rw[hB]at u9;cases u9;refine⟨λe=>ag,λi' yZ _=>?_,λhj=>ag⟩;have:i'=B.list.length:=ag;subst this;rw[iH];exact .inl hn
 |@take b B j t hB hj ht hk=>
  intro B' u9;rw[hB]at u9;cases u9;have hb:Fc bl I b r:=⟨t,by rw[fR hB];exact ht,.inl hk⟩;refine⟨λe=>ag,λi' yZ hle=>?_,λ_=>hb⟩;have:i'=B.list.length:=ag;subst this;rw[iH];exact .inr hb
 |@jump b B j t hB hj ht _ ih=>
  intro B' u9;rw[hB]at u9;cases u9;have hb:Fc bl I b r:=by
   refine⟨t,by rw[fR hB];exact ht,.inr ?_⟩;cases hT:bl[t]? with
   |some T=>exact(ih T hT).1 rfl
   |none=>
    rename_i hl;cases hl with
    |jW Iq=>rw[hT]at Iq;cases Iq
    |take Iq=>rw[hT]at Iq;cases Iq
    |jump Iq=>rw[hT]at Iq;cases Iq
  refine⟨λe=>ag,λi' yZ hle=>?_,λ_=>hb⟩;have:i'=B.list.length:=ag;subst this;rw[iH];exact .inr hb
theorem yN(i t:Nat):∀(l:List Int) (rows:List (List Int)),(∀z∈l,0<=z)->(l.foldl (oK i) rows)[t]?=rows[t]?.map (·++(l.filter λz:Int=>decide (z=(t:Int))).map λ_=>(i:Int))
 |[],rows,_=>by
  simp only[List.foldl_nil,List.filter_nil,dp,cq];cases rows[t]?<;>rfl
 |z::l,rows,h=>by
  rw[fF,yN i t l _ λy hy=>h y (cJ _ hy)];have hz:=h z aH;unfold oK;rw[lG]
  by_cases e:z.toNat=t
  ·have e2:z=t:=ag
   rw[e];cases rows[t]? with
   |none=>simp
   |some r=>simp[e2]
  ·have e2:¬z=t:=ag
   cases hr:rows[t]? with
   |none=>simp
   |some r=>simp[e,e2]
theorem filter_one{l:List Int}(hn:l.Nodup)(t:Int):l.filter (λz:Int=>decide (z=t))=if t∈l then[t]else[]:=by
 induction l with
 |nil=>simp
 |cons z l ih=>
  rw[mh]at hn;have:=ih hn.2
  by_cases e:z=t
  ·subst e
   rw[List.filter_cons_of_pos aH,this,if_neg hn.1,if_pos aH]
  ·rw[List.filter_cons_of_neg (by simpa using e),this]
   by_cases h:t∈l
   ·rw[if_pos h,if_pos (cJ _ h)]
   ·rw[if_neg h,if_neg (by simp only[bJ,not_or];exact⟨λh=>e h.symm,h⟩)]
theorem yO{bl:List ar}(cW:cL bl)(jq:∀(b:Nat) (B:ar),bl[b]?=some B->B.to.Nodup){t:Nat}(ht:t<bl.length):∀i,i<=bl.length->(jt bl i)[t]?=some (((List.range i).filter λi=>decide ((t:Int)∈dd bl i)).map λx:Nat=>(x:Int))
 |0,_=>by simp[jt,ht]
 |i+1,hi=>by
  obtain⟨B,hB⟩:∃B,bl[i]?=some B:=⟨_,aB ag⟩;simp only[jt,hB];rw[yN i t _ _ λz hz=>((cW B (aA hB)).2 z hz).1,yO cW jq ht i ag,filter_one (jq i B hB),kA,nI,bB];simp only[bz,bW];congr 1
  by_cases h:(t:Int)∈B.to
  ·rw[if_pos h];simp[fR hB,h]
  ·rw[if_neg h];simp[fR hB,h]
theorem gm{bl:List ar}(cW:cL bl)(jq:∀(b:Nat) (B:ar),bl[b]?=some B->B.to.Nodup){t:Nat}(ht:t<bl.length):(bm bl)[t]?=some ((bf bl t).map λx:Nat=>(x:Int)):=yO cW jq ht bl.length (bH _)
theorem l0{R:Nat}{v:cm}(h:dw R v=0):ik R v:=by
 intro hr;unfold dw within at h;rw[hr]at h
 by_cases h1:0<=v.n
 ·by_cases h2:v.n<=(R:Int)-1
  ·exact⟨h1,ag⟩
  ·simp[h2]at h
 ·simp[h1]at h
theorem CS{R:Nat}{n:Int}(h:jx R n=0):0<=n/\n<R:=by
 unfold jx within at h
 by_cases h1:0<=n
 ·by_cases h2:n<=(R:Int)-1
  ·exact⟨h1,ag⟩
  ·simp[h2]at h
 ·simp[h1]at h
theorem l_{α:Type}{f:α->Int}{l:List α}(h:(dI (jr l f) l.length).1=0):∀x∈l,f x=0:=λx hx=>by
 obtain⟨j,hj⟩:=br hx;have:=im h j (aC.1 hj).1;simpa[jr,hj]using this
theorem xZ{fs:List aZ}{R:Nat}{x:en}(h:dK fs R x=0):uV R x:=by
 unfold dK at h
 split at h
 ·cases h
 rename_i h1
 split at h
 ·cases h
 rename_i h2
 split at h
 ·rename_i h3
  simp only[Bool.and_eq_true,Bool.not_eq_true',decide_eq_false_iff_not]at h3;exact absurd h h3.2
 rename_i h3
 split at h
 ·rename_i h4;exact absurd h h4
 rename_i h4
 split at h
 ·rename_i h5;exact absurd h h5
 rename_i h5;have C9:1<=x.op/\x.op<=22:=by simpa[within]using h1
 simp only[pU,Bool.or_eq_true,Bool.and_eq_true,Bool.not_eq_true',decide_eq_false_iff_not,decide_eq_true_eq,not_or,not_and,Decidable.not_not,Bool.not_eq_false]at h2;simp only[ne_eq,Decidable.not_not]at h4 h5;have aar:x.op≠20->x.args=[]:=λe=>by
  have:=(h2.2 e).2;exact kN ag
 refine⟨C9,aar,λhd=>?_,λv hv=>?_⟩
 ·by_cases hs:(shape x.op).1=true
  ·simp only[Bool.and_eq_true,Bool.not_eq_true',decide_eq_false_iff_not,hs,true_and,not_and,Decidable.not_not,Bool.and_eq_false_iff]at h3
   have:=h3 (by
    by_cases e:x.op=20
    ·right;omega
    ·left;exact e)
   exact(CS this).2
  ·have:=h2.1.1.1 (by simpa using hs)
   omega
 ·unfold mH at hv
  rcases bL.1 hv with hv|hv
  ·split at hv
   ·simp only[bU]at hv;subst hv;exact l0 h4
   ·cases hv
  ·rcases bL.1 hv with hv|hv
   ·split at hv
    ·simp only[bU]at hv;subst hv;exact l0 h5
    ·cases hv
   ·unfold fY at h
    by_cases e:x.op=20
    ·rw[if_neg (by simpa using e)]at h
     split at h
     ·cases h
     ·split at h
      ·cases h
      ·exact l0 (l_ h v hv)
    ·rw[aar e]at hv;cases hv
theorem CT{n R:Nat}{b:ar}(h:j8 n R b=0):ik R b.on/\b.to.Nodup:=by
 unfold j8 uK at h
 split at h
 ·cases h
 rename_i h1
 split at h
 ·cases h
 rename_i h2
 split at h
 ·cases h
 split at h
 ·cases h
 rename_i h4;refine⟨l0 h,?_⟩;simp only[within,Bool.not_eq_true',Bool.and_eq_false_iff,decide_eq_false_iff_not,not_or,Decidable.not_not]at h1;simp only[ne_eq,Decidable.not_not]at h2;simp only[Bool.or_eq_true,Bool.and_eq_true,decide_eq_true_eq,not_or,not_and]at h4;have h5:=h4.1;generalize b.to=l at h2 h5
 match l,h2,h5 with
 |[],_,_=>simp
 |[x],_,_=>simp
 |[x,y],h2,h5=>
  have:=h5 (by simp at h2;omega);simp at this;simp[this]
 |x::y::z::l,h2,_=>simp at h2;omega
theorem wL{fs:List aZ}{f:aZ}{R:Nat}(hR:f.aF=R)(h:fX fs f=0):eX R f.blocks:=by
 have hg:=DU h;unfold fX at h
 split at h
 ·rename_i h1;exact absurd h h1
 rename_i h1;have Co:=l_ (by simpa using h1:(dI (jr f.blocks (j8 f.blocks.length f.aF)) f.blocks.length).1=0);rw[hR]at Co;have jq:∀(b:Nat) (B:ar),f.blocks[b]?=some B->B.to.Nodup:=λb B hB=>(CT (Co B (aA hB))).2;refine⟨hg,λb B hB=>?_⟩;have hb:=im h b (aC.1 hB).1;simp only[jc,hB]at hb
 split at hb
 ·rename_i h2;exact absurd hb h2
 rename_i h2;have AW:=l_ (by simpa using h2:(dI (jr B.aL (lQ f.aF f.blocks b)) B.aL.length).1=0);have nZ:=l_ hb;rw[hR]at AW nZ;refine⟨λp hp=>?_,λx hx=>xZ (nZ x hx),(CT (Co B (aA hB))).1,jq b B hB⟩;have uj:=AW p hp;unfold lQ w9 at uj
 split at uj
 ·cases uj
 split at uj
 ·rename_i h3;exact absurd uj h3
 rename_i h3
 split at uj
 ·cases uj
 rename_i h4;rw[gm hg jq (aC.1 hB).1]at h4;simp only[dF,aG,ne_eq,Decidable.not_not]at h4;exact⟨CS (by simpa using h3),ag,λv hv=>l0 (l_ uj v hv)⟩
theorem nh{u:a7}(h:(dr u).1=0){k:Nat}{X:aZ}(hX:u.funcs[k]?=some X):0<=X.params/\X.params<=X.aF/\X.aF<=100:=by
 unfold dr at h
 split at h
 ·cases h
 ·split at h
  ·rename_i h2;exact absurd h h2
  ·split at h
   ·rename_i h2;exact absurd h h2
   ·rename_i h3
    have hz:=im (by simpa using h3);have:=hz k (aC.1 hX).1;simp only[k_,jr,hX,kU]at this
    split at this
    ·cases this
    split at this
    ·cases this
    split at this
    ·cases this
    rename_i h4;simp only[within,Bool.or_eq_true,Bool.not_eq_true',Bool.and_eq_false_iff,decide_eq_false_iff_not,not_or,Decidable.not_not]at h4;omega
theorem pz{u:a7}(h:(dr u).1=0){k:Nat}{X:aZ}(hX:u.funcs[k]?=some X):∃R:Nat,X.aF=R/\R<=100/\eX R X.blocks:=by
 have h1:=nh h hX;refine⟨X.aF.toNat,ag,ag,wL ag (rU h X (aA hX))⟩
theorem J8{R:Nat}{on:cm}{P:Nat->Prop}{s:List Bool}(hs:s.length=R)(h0:∀r,has s r↔JO [] on P r):∀l:List en,(∀x∈l,uV R x)->(l.reverse.foldl uQ s).length=R/\∀r,has (l.reverse.foldl uQ s) r↔JO l on P r
 |[],_=>⟨hs,h0⟩
 |x::l,h=>by
  have ih:=J8 hs h0 l λy hy=>h y (cJ _ hy);have hx:=h x aH;rw[List.reverse_cons,nJ];simp only[fF,List.foldl_nil];refine⟨by rw[tp];exact ih.1,λr=>?_⟩;rw[OJ (by rw[ih.1];exact hx),ih.2 r];simp only[JO];rw[rM hx]
theorem F9{r:Nat}:∀(l:List eC) (s:List Bool),(∀p∈l,0<=p.dst)->(has (l.foldl (λs p=>s.set p.dst.toNat false) s) r↔(has s r/\∀p∈l,p.dst≠r))
 |[],s,_=>by simp
 |p::l,s,h=>by
  have hp:=h p aH;rw[fF,F9 l _ λq hq=>h q (cJ _ hq),vd];simp only[bJ,forall_eq_or_imp,and_assoc];constructor
  ·rintro⟨h1,h2,h3⟩;exact⟨h1,λe=>h2 ag,h3⟩
  ·rintro⟨h1,h2,h3⟩;exact⟨h1,λe=>h2 ag,h3⟩
def OW(B:ar)(s:List Bool):List Bool:=B.aL.foldl (λs p=>s.set p.dst.toNat false) (B.list.reverse.foldl uQ (kM s B.on))
theorem LX{R:Nat}{bl:List ar}{b:Nat}{B:ar}{I:Nat->Nat->Prop}(hf:eX R bl)(hB:bl[b]?=some B){s:List Bool}(hs:s.length=R)(h:∀r,has s r↔Fc bl I b r)(r:Nat):has (OW B s) r↔Head bl I b r:=by
 have ho:=hf.block b B hB;unfold OW;have h1:∀r,has (kM s B.on) r↔JO [] B.on (Fc bl I b) r:=λr=>by
  rw[xR (by rw[hs];exact ho.on),h r];simp only[JO,ke,List.any_cons,List.any_nil,Bool.or_false,Bool.and_eq_true,decide_eq_true_eq];exact or_comm
 have h2:=J8 (by rw[mF];exact hs) h1 B.list ho.list;rw[F9 _ _ λp hp=>(ho.aL p hp).dst.1,h2.2 r];constructor
 ·rintro⟨h3,h4⟩;exact⟨B,hB,h4,h3⟩
 ·rintro⟨B',u9,h3,h4⟩
  rw[hB]at u9;cases u9;exact⟨h4,h3⟩
section
variable {P:Program} {N:Nat} {ds:List Deferred} {S:Nat->Prop} {w0:World} {L:List (Nat×Value)} {H:List bN} {ops:Array Oper} {rest:List Oper} {Q:Exit->Act->World->Prop} {p:Act->World->Prop}
theorem pP{a:Act}{w:World}(hF:Fr N ds L a)(h:G N ds dh w L [] p):p a w:=h a w ⟨hF,Wd.nil dh w⟩
theorem Ee{d ty l m:Nat}{args:List Operand}{vs:List Value}{og:Array Nat}{pos:String}{aft:Array Go.Edge}{x:Operand}(R:World->Value->World->Prop)[hf:Ev L x (.func (.yield l) #[] #[])][hx:zk L args vs](hd:dj d N L=true)
  (hc:∀w,Wd S w0 H w->YieldAt (FW none) m P l vs.toArray w λe w'=>∃v,e=.returned v/\R w v w')
  (k:∀v w w',Wd S w0 H w->R w v w'->∀a,Fr N ds ((d,v)::L) a->wpListIn (FW none) 0 P ops Q rest a w'):G N ds S w0 L H (wpListIn (FW none) 0 P ops Q (⟨some d,.call {callee:=.value x,args:=args.toArray,argTypes:=og},ty,pos,aft,none⟩::rest)):=by
 intro a w hS;obtain⟨fn,tmps,assign,body,hy,hR⟩:=hc w hS.wd;refine wpListIn_plain rfl λK hK=>?_;refine⟨λ_ _=>trivial,?_⟩;rw[tO _ _ _ (λ_ h=>by cases h)];have hr:(execOp a.eval ⟨some d,.call {callee:=.value x,args:=args.toArray,argTypes:=og},ty,pos,aft,none⟩).run P w=.ok (.round l fn tmps assign body) w:=by
  simp[execOp,resolve,hf.eq _ _ _ hS.fr,Deferred.ofValue,invoke,hx.eq _ _ _ hS.fr,hy]
 rw[hr];refine⟨λh=>(by cases h),?_⟩;have hR0:RoundIn (FW none) (0-1) P l fn tmps assign body w λe w'=>∃v,e=.returned v/\R w v w':=⟨hR.1,λc cs _=>hR.2 c cs (λd hd=>by cases hd)⟩;refine hR0.mono λe w' ⟨v,he,hv⟩=>?_;subst he;exact hK _ _ (k v w w' hS.wd hv _ (hS.fr.dP hd v))
theorem J1{ro:Option Nat}{l l1 l2:List Oper}(d:Nat)(M:Act->World->Prop)[hs:wu l d l1 l2](h1:G N ds S w0 L H (wpListIn (FW ro) 0 P ops (Exit.then M Q) l1))(h2:∀a w,M a w->wpListIn (FW ro) 0 P ops Q l2 a w):G N ds S w0 L H (wpListIn (FW ro) 0 P ops Q l):=λa w hS=>by
 obtain⟨n,e1,e2⟩:=hs.eq;exact yI (M:=M) n (λa w h=>by rw[e2];exact h2 a w h) (by rw[e1];exact h1 a w hS)
end
theorem bG.mono{w w':World}(h:∀p v,w.cell? p=some v->w'.cell? p=some v){b o:Nat}{cs:List Value}(hc:bG w b o cs):bG w' b o cs:=λj v hj=>h _ _ (hc j v hj)
theorem aM.mono{α:Type}{V:World->α->List Value->Prop}{w w':World}(hV:∀x cs,V w x cs->V w' x cs)(h:∀p v,w.cell? p=some v->w'.cell? p=some v){v:Value}{s:Nat}{l:List α}(hs:aM w v s l V):aM w' v s l V:=by
 obtain⟨a,n,c,b,o,h1,h2,h3,hz,h4,h5,h6⟩:=hs;refine⟨a,n,c,b,o,h1,h2,h3,hz,h4,h5,λi x hx=>?_⟩;obtain⟨cs,hc,hv⟩:=h6 i x hx;exact⟨cs,hc.mono h,hV x cs hv⟩
theorem vK{β:Type}{B:Nat}{J:β->World->Prop}(h:AbidesFrom B J){s:β}{w w':World}(hc:lL dh w w')(hs:J s w):J s w':=
 h s w w' none hs ⟨hc.os,hc.tape,hc.output,hc.size,λk hk _=>hc.block k hk λh=>h⟩ (λr e=>by cases e)
attribute [local irreducible] wpListIn Code.wpIn Exit.then Exit.inBlock bodyPost wpQuiet wpAnyIn
set_option maxHeartbeats 4000000
theorem YU(x:en)(xv:Value)(hxv:∃a n c,xv=.slice a n c)(w0:World):
  gV Tryz.prog 138 [.agg #[.int .i64 x.op,.int .i64 x.dst,.bool x.a.bD,.int .i64 x.a.n,.bool x.b.bD,.int .i64 x.b.n,.int .i64 x.fn,xv]] w0 λu w'=>∃p:Nat,u=.func (.func 164) #[] #[.pointer (some ⟨p,0,none⟩)]/\Wd dh w0 [aj p [.int .i64 x.op,.int .i64 x.dst,.bool x.a.bD,.int .i64 x.a.n,.bool x.b.bD,.int .i64 x.b.n,.int .i64 x.fn,xv] 56] w'/\True:=by
 obtain⟨a,n,c,rfl⟩:=hxv;refine aQ Tryz.func138 rfl Tryz.ntmps138 rfl (Wd.nil dh w0) ?_
 repeat(first|refine aO ?_|refine dX λ_ _=>?_)
 exact cA rfl λw hw=>⟨_,rfl,hw,trivial⟩
theorem UD{α:Type}(enc:α->cm)(x:en)(va:Option Addr)(vn vc:Nat)(xs:List α)(mM:xs.map enc=mH x)(hlen:x.args.length<=100000)(l bp:Nat)(own:Nat->Prop)(wz:World)(pG:aM wz (.slice va vn vc) 2 x.args l9)(XP:∀p v,wz.cell? p=some v->¬own p.block)(W0:¬own bp)(W:World)(abk:∀b,W.heap.size<=b->¬own b)(J Jx:List α->World->Prop)(B:Nat)(hJ:AbidesFrom B J)(WH:AbidesFrom B Jx)
  (hY:∀pre y W,J pre W->pre.length<xs.length->YieldAt (FW none) 3 Tryz.prog l #[.agg #[.bool (enc y).bD,.int .i64 (enc y).n]] W λe W'=>
   (e=.returned (.bool true)/\J (pre++[y]) W'/\kZ own W W')∨(e=.returned (.bool false)/\Jx (pre++[y]) W'))
  (hz:∀p v,wz.cell? p=some v->W.cell? p=some v) (hc:bG W bp 0 [.int .i64 x.op,.int .i64 x.dst,.bool x.a.bD,.int .i64 x.a.n,.bool x.b.bD,.int .i64 x.b.n,.int .i64 x.fn,.slice va vn vc]) (h0:J [] W):
  gV Tryz.prog 164 [.func (.yield l) #[] #[],.pointer (some ⟨bp,0,none⟩)] W λ_ W'=>(∃ys,ys=xs/\J ys W')∨(∃pre,pre<+:xs/\Jx pre W'):=by
 have afy:a_ W bp 0 _:=⟨hc⟩;refine aQ Tryz.func164 rfl Tryz.ntmps164 rfl (Wd.nil dh W) ?_;refine aU ?_;refine bI rfl (λw hw=>Hg x.op w) ?_
 repeat(first|refine aI ?_|refine dX λ_ _=>?_)
 rename_i p3 hp3;have adm:∀j v,(mH x)[j]?=some v->∃y,xs[j]?=some y/\enc y=v:=λj v hj=>by
  rw[<-mM,aK]at hj;obtain⟨y,hy,e⟩:=cT.1 hj;exact⟨y,hy,e⟩
 have r8:xs.length=(mH x).length:=by have:=congrArg List.length mM;rwa[aG]at this
 have Cv:∀j y,xs[j]?=some y->xs.take j++[y]=xs.take (j+1):=λj y hy=>by rw[cj,hy];rfl
 have step:∀j v,(mH x)[j]?=some v->∀w,J (xs.take j) w->YieldAt (FW none) 3 Tryz.prog l [Value.agg #[.bool v.bD,.int .i64 v.n]].toArray w λe W'=>∃u,e=.returned u/\((u=.bool true/\J (xs.take (j+1)) W'/\kZ own w W')∨(u=.bool false/\Jx (xs.take (j+1)) W')):=λj v hj w hJw=>by
  obtain⟨y,hy,rfl⟩:=adm j v hj;have bT:=(aC.1 hy).1;have:=hY (xs.take j) y w hJw (by rw[cU];omega);rw[Cv j y hy]at this;exact this.mono λe W' h=>h.elim (λ⟨h1,h2,h3⟩=>⟨_,h1,.inl ⟨rfl,h2,h3⟩⟩) λ⟨h1,h2⟩=>⟨_,h1,.inr ⟨rfl,h2⟩⟩
 have P6:∀w,(∀p v,wz.cell? p=some v->w.cell? p=some v)->∀w',kZ own w w'->∀p v,wz.cell? p=some v->w'.cell? p=some v:=λw h w' hk p v hp=>hk.cell (XP p v hp) (h p v hp);have P5:∀b cs,¬own b->∀w,bG w b 0 cs->∀w',kZ own w w'->bG w' b 0 cs:=λb cs hb w h w' hk j v hj=>hk.cell hb (h j v hj);unfold mH at r8 step;generalize shape x.op=sh at r8 step⊢;obtain⟨s1,sA,sB⟩:=sh;simp only at r8 step⊢;have hn3:¬own p3:=abk p3 hp3;refine J1 18 (λa w=>(Fr 41 [] [(18,.bool false),(3,.pointer (some ⟨p3,0,none⟩)),(0,.func (.yield l) #[] #[]),(1,.pointer (some ⟨bp,0,none⟩))] a/\J (xs.take (if sA then 1 else 0)) w/\(∀p v,wz.cell? p=some v->w.cell? p=some v)/\bG w bp 0 [.int .i64 x.op,.int .i64 x.dst,.bool x.a.bD,.int .i64 x.a.n,.bool x.b.bD,.int .i64 x.b.n,.int .i64 x.fn,.slice va vn vc]/\bG w p3 0 [.bool s1,.bool sA,.bool sB])∨(Fr 41 [] [(18,.bool true),(0,.func (.yield l) #[] #[]),(1,.pointer (some ⟨bp,0,none⟩))] a/\∃pre,pre<+:xs/\Jx pre w)) ?_ ?_
 ·cases sA
  ·refine iL ?_
   exact λa w hS=>.inl ⟨hS.fr.to aw,vK hJ hS.wd.cE (by simpa using h0),λp v h=>fU hS.wd.cE (hz p v h),hc.cu hS.wd.cE,hS.wd.gW p3⟩
  ·refine aI ?_
   refine Ee (m:=3) (λw v w'=>(v=.bool true/\J (xs.take 1) w'/\kZ own w w')∨(v=.bool false/\Jx (xs.take 1) w')) rfl (λw hw=>step 0 x.a rfl w (vK hJ hw.cE (by simpa using h0))) λv w w' hw hR a hF=>?_;rcases hR with⟨rfl,Ow,hk⟩|⟨rfl,Ow⟩
   ·have mL:=P5 bp _ W0 w (hc.cu hw.cE) w' hk
    have q9:=P5 p3 _ hn3 w (hw.gW p3) w' hk;have hz':=P6 w (λp v h=>fU hw.cE (hz p v h)) w' hk;refine pP hF ?_;refine aI ?_;exact λa w hS=>.inl ⟨hS.fr.to aw,vK hJ hS.wd.cE Ow,λp v h=>fU hS.wd.cE (hz' p v h),mL.cu hS.wd.cE,q9.cu hS.wd.cE⟩
   ·refine pP hF ?_
    refine aI ?_;exact λa w hS=>.inr ⟨hS.fr.to aw,_,List.take_prefix _ _,vK WH hS.wd.cE Ow⟩
 intro a w hM;rcases hM with⟨hF,hJA,hzA,hbA,h3A⟩|⟨hF,pre,Em,hJA⟩
 case inr=>
  refine pP hF ?_;refine iL ?_;exact Il rfl λw' dO=>.inr ⟨pre,Em,vK WH dO.cE hJA⟩
 refine pP hF ?_;have hbi:a_ w bp 0 _:=⟨hbA⟩;have h3i:a_ w p3 0 _:=⟨h3A⟩;refine aI ?_;refine J1 28 (λa w=>(Fr 41 [] [(28,.bool false),(0,.func (.yield l) #[] #[]),(1,.pointer (some ⟨bp,0,none⟩))] a/\J (xs.take ((if sA then 1 else 0)+(if sB then 1 else 0))) w/\(∀p v,wz.cell? p=some v->w.cell? p=some v)/\bG w bp 0 [.int .i64 x.op,.int .i64 x.dst,.bool x.a.bD,.int .i64 x.a.n,.bool x.b.bD,.int .i64 x.b.n,.int .i64 x.fn,.slice va vn vc])∨(Fr 41 [] [(28,.bool true),(0,.func (.yield l) #[] #[]),(1,.pointer (some ⟨bp,0,none⟩))] a/\∃pre,pre<+:xs/\Jx pre w)) ?_ ?_
 ·cases sB
  ·refine iL ?_
   exact λa w2 hS=>.inl ⟨hS.fr.to aw,vK hJ hS.wd.cE (by simpa using hJA),λp v h=>fU hS.wd.cE (hzA p v h),hbA.cu hS.wd.cE⟩
  ·refine aI ?_
   refine Ee (m:=3) (λw v w'=>(v=.bool true/\J (xs.take ((if sA then 1 else 0)+1)) w'/\kZ own w w')∨(v=.bool false/\Jx (xs.take ((if sA then 1 else 0)+1)) w')) rfl (λw2 hw=>step (if sA then 1 else 0) x.b (by cases sA<;>rfl) w2 (vK hJ hw.cE hJA)) λv w2 w' hw hR a hF=>?_;rcases hR with⟨rfl,Ow,hk⟩|⟨rfl,Ow⟩
   ·have mL:=P5 bp _ W0 w2 (hbA.cu hw.cE) w' hk
    have hz':=P6 w2 (λp v h=>fU hw.cE (hzA p v h)) w' hk;refine pP hF ?_;refine aI ?_;exact λa w hS=>.inl ⟨hS.fr.to aw,vK hJ hS.wd.cE Ow,λp v h=>fU hS.wd.cE (hz' p v h),mL.cu hS.wd.cE⟩
   ·refine pP hF ?_
    refine aI ?_;exact λa w hS=>.inr ⟨hS.fr.to aw,_,List.take_prefix _ _,vK WH hS.wd.cE Ow⟩
 intro a w hM;rcases hM with⟨hF,hJB,hzB,Ve⟩|⟨hF,pre,Em,hJB⟩
 case inr=>
  refine pP hF ?_;refine aI ?_;exact Il rfl λw' dO=>.inr ⟨pre,Em,vK WH dO.cE hJB⟩
 refine pP hF ?_;have afx:a_ w bp 0 _:=⟨Ve⟩;refine aO ?_;generalize Gc:(if sA=true then 1 else 0)+(if sB=true then 1 else 0)=c0 at hJB;have hn:vn=x.args.length:=by
  obtain⟨_,_,_,_,_,e,h,_⟩:=pG;simp only[Value.slice.injEq]at e;rw[e.2.1];exact h
 have qw:∀i v,x.args[i]?=some v->((if sA=true then[x.a]else[])++((if sB=true then[x.b]else[])++x.args))[c0+i]?=some v:=λi v hi=>by
  subst Gc;cases sA<;>cases sB<;>simp[hi,Nat.add_comm]
 have agU:xs.length=c0+x.args.length:=by
  subst Gc;rw[r8];cases sA<;>cases sB<;>simp<;>omega
 intro a w1 hS1;have hJ1:=vK hJ hS1.wd.cE hJB;have E9:=λp v h=>fU hS1.wd.cE (hzB p v h);have hF1:=hS1.fr;refine HV (λ(i:Nat) a w=>i<=vn/\Fr 41 [] [(32,.int .i64 (i:Int)),(30,.slice va vn vc),(31,.int .i64 vn),(0,.func (.yield l) #[] #[]),(1,.pointer (some ⟨bp,0,none⟩))] a/\J (xs.take (c0+i)) w/\∀p v,wz.cell? p=some v->w.cell? p=some v) (λi=>vn-i) 0 ⟨aY _,hF1.to aw,by simpa using hJ1,E9⟩ ?_;rintro i a w ⟨hi,hF,hJi,hzi⟩;refine pP hF ?_;refine aU ?_;refine aN (λh1=>?_) (λh1=>?_)
 ·have bT:i<vn:=by simpa using h1
  obtain⟨v,hv⟩:∃v,x.args[i]?=some v:=⟨_,aB ag⟩;have PC:aM w (.slice va vn vc) 2 x.args l9:=aM.mono (w:=wz) (w':=w) (V:=l9) (λ_ _ h=>h) hzi pG;obtain⟨va',vn',vc',vb,vo,e,E7,_,_,_,nz,GA⟩:=PC;simp only[Value.slice.injEq]at e;obtain⟨rfl,rfl,rfl⟩:=e;have pY:bY va vb vo:=⟨nz (aW hv)⟩;have mW:bZ i vn:=⟨bT⟩;obtain⟨cs,fZ,rfl,_⟩:=GA i v hv;have oQ:a_ w vb (vo+i*2) _:=⟨fZ⟩
  repeat(first|refine aI ?_|refine dX λ_ _=>?_)
  refine Ee (m:=3) (λw v w'=>(v=.bool true/\J (xs.take (c0+i+1)) w'/\kZ own w w')∨(v=.bool false/\Jx (xs.take (c0+i+1)) w')) rfl (λw2 hw=>step (c0+i) v (qw i v hv) w2 (vK hJ hw.cE hJi)) λv w2 w' hw hR a hF=>?_;rcases hR with⟨rfl,Ow,hk⟩|⟨rfl,Ow⟩
  ·have hz':=P6 w2 (λp v h=>fU hw.cE (hzi p v h)) w' hk
   refine pP hF ?_;refine aO ?_;exact λa w3 hS=>⟨i+1,⟨bT,hS.fr.to aw,vK hJ hS.wd.cE Ow,λp v h=>fU hS.wd.cE (hz' p v h)⟩,ag⟩
  ·refine pP hF ?_
   refine aI ?_;exact Il rfl λw3 TH=>.inr ⟨_,List.take_prefix _ _,vK WH TH.cE Ow⟩
 ·have gT:i=vn:=by have:=h1;simp at this;omega
  refine aI ?_;refine qH rfl λw3 TH=>.inl ⟨xs,rfl,?_⟩;rw[jw ag]at hJi;exact vK hJ TH.cE hJi
end
section
open Go Go.RowKit
attribute [local irreducible] wpListIn Code.wpIn Exit.then Exit.inBlock bodyPost wpQuiet wpAnyIn
set_option maxHeartbeats 4000000
def iF(a:Option Addr)(R c:Nat)(s:List Bool):bN:=ai a R c 4 1 (s.map .bool)
theorem JG(a:Option Addr)(R c:Nat)(s:List Bool)(hs:s.length=R)(v:cm)(hv:ik R v)(w:World)(hw:Wd (cF [iF a R c s]) w [iF a R c s] w):
  gV Tryz.prog 144 [.slice a R c,.agg #[.bool v.bD,.int .i64 v.n]] w λu w'=>∃_:Unit,u=.tuple #[]/\Wd (cF [iF a R c s]) w [iF a R c (kM s v)] w'/\True:=by
 refine aQ Tryz.func144 rfl Tryz.ntmps144 rfl hw ?_;generalize cF [iF a R c s]=SS;unfold iF
 repeat(first|refine aU ?_|refine dX λ_ _=>?_)
 unfold kM;unfold ik at hv;generalize v.bD=b at hv;cases b
 ·refine aO ?_
  exact qH rfl λw' dO=>⟨(),rfl,dO.Zv [1] (by decide),trivial⟩
 ·obtain⟨k,hk⟩:∃k:Nat,v.n=k:=⟨v.n.toNat,by have:=hv rfl;omega⟩
  have hkR:k<R:=by have:=hv rfl;omega
  obtain⟨y,hy⟩:∃y,s[k]?=some y:=⟨_,aB ag⟩;refine eW 1 rfl ag λvb vo nz=>?_;subst nz;have mW:bZ k R:=⟨hkR⟩;have hea:oJ s k y:=⟨hy⟩;have XD:ky v.n k:=⟨hk⟩;refine aI ?_;refine qH rfl λw' dO=>⟨(),rfl,?_,trivial⟩;rw[if_pos rfl,show v.n.toNat=k by omega];exact dO.Zv [1] (by decide)
theorem GB{x:Nat}:∀{l:List Nat} {i:Nat},l[i]?=some x->l.idxOf x<=i
 |[],i,h=>by simp at h
 |y::l,0,h=>by
  simp only[jJ,bW]at h;subst h;simp
 |y::l,i+1,h=>by
  rw[List.idxOf_cons];cases(y==x)
  ·have:=GB (l:=l) (i:=i) (by simpa using h)
   simpa using this
  ·simp
theorem zU(v:Value)(l:List Nat)(x:Nat)(w0:World)(hx:x∈l)(hv:aM w0 v 1 (l.map λx:Nat=>(x:Int)) fj):fi Tryz.prog 112 [v,.int .i64 x] w0 (.int .i64 (l.idxOf x:Nat)):=by
 obtain⟨a,n,c,b,o,rfl,hn,pE,E3,hc,ha,iK⟩:=hv;rw[aG]at hn;have iQ:=ju hx;refine aQ Tryz.func112 rfl Tryz.ntmps112 rfl (Wd.nil dh w0) ?_;refine aO ?_;refine bP (λ(i:Nat)=>i<=l.idxOf x) (λi=>[(8,.int .i64 i),(6,.slice a n c),(7,.int .i64 n),(0,.slice a n c),(1,.int .i64 x)]) (λ_=>[]) (λi=>n-i) 0 (aY _) (aV aw aH) λi hi=>?_;refine aU ?_;refine aN (λh1=>?_) (λh1=>?_)
 ·have bT:i<n:=by simpa using h1
  obtain⟨t,ht⟩:∃t,l[i]?=some t:=⟨_,aB ag⟩;have HE:(l.map λx:Nat=>(x:Int))[i]?=some (t:Int):=by rw[aK,ht];rfl
  have pY:bY a b o:=⟨ha (aW HE)⟩;have mW:bZ i n:=⟨bT⟩;obtain⟨cs,fZ,rfl,_⟩:=iK i _ HE;have oQ:a_ w0 b (o+i*1) _:=⟨fZ⟩;refine aO ?_;refine aN (λh2=>?_) (λh2=>?_)
  ·have h5:(x:Int)=t:=by simpa using h2
   have htx:x=t:=ag;subst htx;have:l.idxOf x=i:=by
    have h4:=GB ht;omega
   refine aI ?_;exact bQ rfl (by rw[this])
  ·refine aO ?_
   refine bC (i+1) ?_ ag aw aH;refine nU hi λe=>?_;subst e;have h3:=nL iQ;have h4:=(aC.1 ht).2;rw[h3]at h4;simp[h4]at h2
 ·exact absurd h1 (by simp;omega)
theorem Oe(a b:Value)(l m:List Bool)(w0:World)(ha:aM w0 a 1 l yL)(hb:aM w0 b 1 m yL):fi Tryz.prog 147 [a,b] w0 (.bool (decide (l=m))):=by
 obtain⟨aa,an,ac,ab,ao,rfl,EY,F6,WR,WN,Iw,AJ⟩:=ha;obtain⟨ba,bn,bc,bb,bo,rfl,pC,WY,WX,LY,xS,Iy⟩:=hb;refine aQ Tryz.func147 rfl Tryz.ntmps147 rfl (Wd.nil dh w0) ?_;refine aU ?_;refine aN (λh1=>?_) (λh1=>?_)
 ·refine aI ?_
  refine bQ rfl ?_;rw[decide_eq_false];rintro rfl;simp at h1;omega
 have hlen:an=bn:=by simp at h1;omega
 refine aO ?_;refine bP (λ(i:Nat)=>i<=an/\∀j,j<i->l[j]?=m[j]?) (λi=>[(13,.int .i64 i),(11,.slice aa an ac),(12,.int .i64 an),(0,.slice aa an ac),(1,.slice ba bn bc)]) (λ_=>[]) (λi=>an-i) 0 ⟨aY _,by simp⟩ (aV aw aH) λi ⟨hi,cP⟩=>?_;refine aU ?_;refine aN (λh2=>?_) (λh2=>?_)
 ·have bT:i<an:=by simpa using h2
  obtain⟨x,hx⟩:=dJ EY bT;obtain⟨y,hy⟩:=dJ pC (show i<bn by omega);have pY:bY aa ab ao:=⟨Iw (aW hx)⟩;have sI:bY ba bb bo:=⟨xS (aW hy)⟩;have mW:bZ i an:=⟨bT⟩;have IH:bZ i bn:=⟨ag⟩;obtain⟨cs,fZ,rfl⟩:=AJ i x hx;obtain⟨CN,vD,rfl⟩:=Iy i y hy;have oQ:a_ w0 ab (ao+i*1) _:=⟨fZ⟩;have hcj:a_ w0 bb (bo+i*1) _:=⟨vD⟩;refine aO ?_;refine kE mixed aP ?_;refine j9 ?_;refine aU ?_;refine aN (λh3=>?_) (λh3=>?_)
  ·refine aI ?_
   refine bQ rfl ?_;rw[decide_eq_false];rintro rfl;rw[hx]at hy;simp only[bW]at hy;simp[hy]at h3
  ·have TK:x=y:=by simpa using h3
   refine aO ?_;refine bC (i+1) ⟨bT,λj hj=>?_⟩ ag aw aH
   by_cases wT:j=i
   ·subst wT;rw[hx,hy,TK]
   ·exact cP j ag
 ·have gT:i=an:=by have:=h2;simp at this;omega
  refine aI ?_;refine bQ rfl ?_;rw[decide_eq_true];apply cf;intro j
  by_cases hj:j<an
  ·exact cP j ag
  ·rw[bM ag,bM ag]
theorem N8(a:Option Addr)(R c:Nat)(l:List Bool)(hR:R<=1000)(w0:World)(hl:aM w0 (.slice a R c) 1 l yL):
  gV Tryz.prog 143 [.slice a R c] w0 λu w'=>∃x:Option Addr×Nat,u=.slice x.1 R x.2/\Wd dh w0 [iF x.1 R x.2 l] w'/\True:=by
 refine aQ Tryz.func143 rfl Tryz.ntmps143 rfl (Wd.nil dh w0) ?_;refine aU ?_;cases a with
 |none=>
  have zw:l=[]/\R=0:=by
   obtain⟨a',n,c',b,o,hv,hn,_,_,_,ha,_⟩:=hl;simp only[Value.slice.injEq]at hv;obtain⟨rfl,rfl,rfl⟩:=hv;have h0:l=[]:=Classical.byContradiction λh=>by cases ha h
   exact⟨h0,by rw[hn,h0];rfl⟩
  obtain⟨rfl,rfl⟩:=zw;refine aI ?_;refine fq 4 1 ?_;exact cA rfl λw hw=>⟨(none,0),rfl,hw,trivial⟩
 |some ad=>
  refine aO ?_;refine mr rfl λeb _=>?_;refine aU ?_;refine kR rfl rfl l (λb=>[.bool b]) (λ_ _ _ h=>h) (λ_=>rfl) (λ_ u hu=>by simp only[bU]at hu;subst hu;rfl) (λw hw=>hl.cu IZ hw.cE) ag ag λa' c'=>?_;rw[tg,aT,dM];refine aO ?_;exact cA rfl λw hw=>⟨(a',c'),rfl,hw,trivial⟩
end
section
open Go Go.RowKit
def BG(S:Nat->Prop)(n:Nat)(W:World)(H:List bN):Nat->Prop:=λb=>(S b∨n<=b)/\b<W.heap.size/\¬cF H b
theorem Wd.yH{S:Nat->Prop}{w0 W:World}{H:List bN}(h:Wd S w0 H W):Wd S w0 (bN.rest (BG S w0.heap.size W H) W::H) W:=
 ⟨h.cE,λe he b hb=>by
  rcases bJ.1 he with rfl|he
  ·exact⟨hb.1,hb.2.1⟩
  ·exact h.own e he b hb,λe he w' hs dO=>by
  rcases bJ.1 he with rfl|he
  ·exact⟨hs,λb hb=>dO b hb⟩
  ·exact h.ok e he w' hs dO,fN.2 ⟨λf hf b hb wj=>hb.2.2 ⟨f,hf,wj⟩,h.apart⟩⟩
theorem RK{S:Nat->Prop}{wz w w':World}{H1 E:List bN}(_hcl:∀p v,wz.cell? p=some v->¬S p.block)(hz:lL S wz w)(h:Wd S wz (bN.rest (BG S wz.heap.size w H1) w::E) w'):Wd (cF H1) w E w':=by
 obtain⟨hs,hr⟩:=h.get (k:=0) rfl;have wR:=fN.1 h.apart;refine⟨⟨h.cE.os.trans hz.os.symm,h.cE.tape.trans hz.tape.symm,h.cE.output.trans hz.output.symm,hs,λk hk Zn=>?_⟩,λe he b hb=>?_,λe he=>h.ok e (cJ _ he),wR.2⟩
 ·by_cases bT:S k∨wz.heap.size<=k
  ·exact hr k ⟨bT,hk,Zn⟩
  ·have Xq:k<wz.heap.size:=Classical.byContradiction λh=>bT (.inr ag)
   exact(h.cE.block k Xq λh=>bT (.inl h)).trans (hz.block k Xq λh=>bT (.inl h)).symm
 ·obtain⟨h1,h2⟩:=h.own e (cJ _ he) b hb
  refine⟨?_,h2⟩
  by_cases bT:b<w.heap.size
  ·left
   exact Classical.byContradiction λhn=>wR.1 e he b ⟨h1,bT,hn⟩ hb
  ·right;omega
section
variable {P:Program} {ro:Option Nat} {N:Nat} {ds:List Deferred} {S:Nat->Prop} {w0:World} {L L':List (Nat×Value)} {H H':List bN} {a:Act} {w:World}
 {ops:Array Oper} {rest:List Oper} {Q:Exit->Act->World->Prop} {p:Act->World->Prop} {x y:Operand}
theorem LL{α σ:Type}{g:Operand}{ps:Array Tmp}{assign body:Code}{gf:Nat}{lb:List Value}[hg:Ev L g (.func (.func gf) #[] lb.toArray)][eg:aS P gf](F:List bN)(Hc:σ->List bN)(s0:σ)(fv:∀s,HL (Hc s))(Zf:∀s s' b,cF (Hc s) b->cF (Hc s') b)(xs:List α){encs:α->Array Value}
  {Bs:Nat} {bcs:List Value} {bt:TypeId} (RW:aj Bs bcs bt∈F)
  (PA:∀w,Wd S w0 H w->SeqStopsK (FW none) 4 P gf lb.toArray encs (kZ λb=>cF (Hc s0++F) b/\b≠Bs) (λys=>ys=xs) (λpre=>pre<+:xs) xs.length w)
  (I:List α->σ->Prop) (h0:I [] s0) (hH:(Hc s0++F).Sublist H) (wV:∀x,(encs x).size=ps.size) (bx:α->List Value) (T:Nat)
  (L0:α->List (Nat×Value)) (La:α->Nat->List (Nat×Value)) (my:∀x a,Fr N ds L a->Fr N [] (L0 x) {tmps:=(ps.zip (encs x)).foldl (λt (p,v)=>t.setIfInBounds p v) a.tmps,defers:=[]})
  (wS:∀(l:Nat) (x:α) (s:σ) (R:bN),G N [] S w0 (L0 x) (R::(Hc s++F)) (assign.wpIn (FW (some l)) 0 P (Exit.then (λa w=>∃q,St N [] S w0 (La x q) (aj q (bx x) T::R::(Hc s++F)) a w) (λ_ _ _=>False))))
  (q_:∀(l:Nat) (pre:List α) (x:α) (s:σ) (q:Nat) (R:bN),I pre s->pre.length<xs.length->G N [] S w0 (La x q) (R::aj q (bx x) T::(Hc s++F)) (body.wpIn (FW (some l)) 0 P (Exit.then (Rnd S w0 (I (pre++[x])) R Hc (aj q (bx x) T::F)) (λ_ _ _=>False))))
  (k:∀D s,w0.heap.size<=D->I xs s->G N (⟨.collected D,#[]⟩::ds) S w0 L (bN.mark D::(Hc s++F)) (Q .normal)):G N ds S w0 L H (Code.wpIn (FW none) 0 P (Code.rangeFunc g ps assign body) Q):=λa w hS=>by
 have oj:=hS.wd.size;have hF:∀e∈F,∀b,e.fp b->b<w.heap.size:=λe he b hb=>(hS.wd.own e (hH.subset (dt _ he)) b hb).2;have j4:∀s W,Wd S w0 (Hc s++F) W->∀r o,W.heap[r]?=some o->o.isCells=false->w.heap.size<=r->¬cF (Hc s++F) r:=by
  rintro s W hW r o ho hn hle ⟨e,he,hb⟩;rcases bL.1 he with he|he
  ·obtain⟨j,hj⟩:=br (cC F he)
   obtain⟨cs,t,z,hc⟩:=((fv s).all e he).ok W (hW.get hj) r hb;rw[hc]at ho;cases ho;cases hn
  ·have:=hF e he r hb;omega
 have Ga:∀s W,Wd S w0 (Hc s++F) W->W.heap[Bs]?=some (.cells bcs.toArray bt (0,0)):=λs W hW=>by
  obtain⟨j,hj⟩:=br (dt (Hc s) RW);exact hW.get hj
 have IE:∀s s' b,cF (Hc s++F) b->cF (Hc s'++F) b:=by
  rintro s s' b ⟨e,he,hb⟩;rcases bL.1 he with he|he
  ·obtain⟨e',Vk,mL⟩:=Zf s s' b ⟨e,he,hb⟩
   exact⟨e',cC _ Vk,mL⟩
  ·exact⟨e,dt _ he,hb⟩
 have Cr:∀s s' (H0:List bN) W W',Wd S w0 (Hc s++F) W->(∀r o,W.heap[r]?=some o->o.isCells=false->w.heap.size<=r->¬cF H0 r)->Wd S w0 (bN.rest (BG S w0.heap.size W H0) W::(Hc s'++F)) W'->(∀b,cF H0 b->¬cF (Hc s0++F) b->W'.heap[b]?=W.heap[b]?)->KeepsFrom w.heap.size W W'/\kZ (λb=>cF (Hc s0++F) b/\b≠Bs) W W':=by
  intro s s' H0 W W' hW Gc u_ hx;obtain⟨hs,hr⟩:=u_.get (k:=0) rfl;refine⟨⟨hs,λj o hj ho hn=>?_⟩,λb cs t z hb hc=>?_⟩
  ·exact(hr j ⟨ag,(fI.1 ho).1,Gc j o ho hn hj⟩).trans ho
  ·by_cases e:b=Bs
   ·subst e
    exact(Ga s' W' (u_.sub (dZ _ _))).trans ((Ga s W hW).symm.trans hc)
   ·have C7:¬cF (Hc s0++F) b:=λh=>hb ⟨h,e⟩
    by_cases bT:S b∨w0.heap.size<=b
    ·by_cases h0:cF H0 b
     ·exact(hx b h0 C7).trans hc
     ·exact(hr b ⟨bT,(fI.1 hc).1,h0⟩).trans hc
    ·have HD:b<w0.heap.size:=Classical.byContradiction λh=>bT (.inr ag)
     exact((u_.cE.block b HD λh=>bT (.inl h)).trans (hW.cE.block b HD λh=>bT (.inl h)).symm).trans hc
 refine kY (m:=5) ?_;refine wpIn_rangeFunc_ownH (F:=FW none) (n:=5) (w0:=w) rfl ag (hg.eq _ _ _ hS.fr) trivial (λargs w=>eg.run args w) (PA w hS.wd) (λh1 h2=>h1.trans h2) (λW l o o' hl ho hn _ b cs t z _ hc=>?_) (Below.refl _ _) wV
  (λpre W=>∃s,I pre s/\Wd S w0 (Hc s++F) W/\w.heap.size<=W.heap.size) (λ_ _ _=>False) (λpre W W' row ⟨s,hI,hW,Pz⟩ hg hr=>⟨s,hI,hW.grown hg λr e=>?_,dB Pz hg.size⟩) (λ_ _ _ _ _ h=>h.elim) ⟨s0,h0,hS.wd.sub hH,bH _⟩
  (λx a' W=>∃q,Fr N [] (La x q) a'/\W.heap[q]?=some (.cells (bx x).toArray T (0,0))/\w.heap.size<=q/\∀s,¬cF (Hc s++F) q) (λx a' _ W W' row ⟨q,h1,h2,h3,h4⟩ hg hr=>⟨q,h1,?_,h3,h4⟩) ?_ ?_ ?_ ?_
 ·refine(World.putObj_heap_other λe=>?_).trans hc
  subst e;rw[hc]at ho;cases ho;cases hn
 ·obtain⟨h1,o,ho,hn⟩:=hr r e
  exact⟨ag,j4 s W hW r o ho hn h1⟩
 ·refine(hg.block q (fI.1 h2).1 λe=>?_).trans h2
  obtain⟨_,o,ho,hn⟩:=hr q e.symm;rw[h2]at ho;cases ho;cases hn
 ·rintro l pre x W K ⟨s,hI,hW,Pz⟩ hK
  refine kY (m:=0) ?_;refine Code.wpIn_mono (λe a' W' q=>?_) (wS l x s _ _ W ⟨my x a hS.fr,hW.yH⟩);cases e with
  |normal=>
   obtain⟨q,hq⟩:=q;have ho:=Cr s s _ W W' hW (j4 s W hW) (hq.wd.sub (dZ _ _)) λb hb hn=>absurd (IE s s0 b hb) hn;have wR:=fN.1 hq.wd.apart;have hqf:¬cF (Hc s++F) q:=λ⟨e,he,hb⟩=>wR.1 e (cJ _ he) q rfl hb;have IK:=hq.wd.own (aj q (bx x) T) aH q rfl;refine hK a' W' ho.1 ho.2 ⟨s,hI,hq.wd.sub (.cons _ (.cons _ (.refl _))),dB Pz ho.1.size⟩ ⟨q,hq.fr,hq.wd.get (k:=0) rfl,?_,λs' h=>hqf (IE s' s q h)⟩;refine Classical.byContradiction λbT=>?_;have h1:=IK.1;exact wR.1 (bN.rest (BG S w0.heap.size W (Hc s++F)) W) aH q rfl ⟨h1,ag,hqf⟩
  |_=>exact q.elim
 ·rintro l pre x a' W _ _ ⟨s,hI,hW,Pz⟩ ⟨q',h1,h2,h3,h4⟩ bT
  have hWb:Wd S w0 (aj q' (bx x) T::(Hc s++F)) W:=⟨hW.cE,λe he b hb=>by
   rcases bJ.1 he with rfl|he
   ·cases hb
    exact⟨.inr ag,(fI.1 h2).1⟩
   ·exact hW.own e he b hb,λe he w2 hs jl=>by
   rcases bJ.1 he with rfl|he
   ·exact(jl q' rfl).trans h2
   ·exact hW.ok e he w2 hs jl,fN.2 ⟨λf hf b hb wj=>by cases hb;exact h4 s ⟨f,hf,wj⟩,hW.apart⟩⟩
  refine kY (m:=0) ?_;refine Code.wpIn_mono (λe a' W' q=>?_) (q_ l pre x s q' _ hI bT a' W ⟨h1,hWb.yH⟩);cases e with
  |normal=>
   obtain⟨s',SX,u_⟩:=q;have hW2:Wd S w0 (bN.rest (BG S w0.heap.size W (aj q' (bx x) T::(Hc s++F))) W::(Hc s'++F)) W':=u_.sub (dn (Ag (dZ _ _) _));have Ct:W'.heap[q']?=some (.cells (bx x).toArray T (0,0)):=by
    obtain⟨j,hj⟩:=br (show aj q' (bx x) T∈bN.rest (BG S w0.heap.size W (aj q' (bx x) T::(Hc s++F))) W::(Hc s'++(aj q' (bx x) T::F)) by simp);exact u_.get hj
   have ho:=Cr s s' _ W W' hW (λr o ho hn hle=>by
    rintro⟨e,he,hb⟩;rcases bJ.1 he with rfl|he
    ·cases hb
     rw[h2]at ho;cases ho;cases hn
    ·exact j4 s W hW r o ho hn hle ⟨e,he,hb⟩) hW2 (λb hb hn=>by
    obtain⟨e,he,hb⟩:=hb;rcases bJ.1 he with rfl|he
    ·cases hb
     exact Ct.trans h2.symm
    ·exact absurd (IE s s0 b ⟨e,he,hb⟩) hn)
   exact⟨ho.1,ho.2,s',SX,hW2.sub (dZ _ _),dB Pz ho.1.size⟩
  |_=>exact q.elim
 ·rintro D ys W hD rfl ⟨s,hI,hW,_⟩ hd
  refine k D s ag hI _ W ⟨⟨hS.fr.size,by rw[hS.fr.defers],hS.fr.slot⟩,?_⟩;have hn:¬cF (Hc s++F) D:=j4 s W hW D _ hd rfl hD;exact⟨hW.cE,λe he b hb=>by
   rcases bJ.1 he with rfl|he
   ·cases hb
    exact⟨.inr ag,(fI.1 hd).1⟩
   ·exact hW.own e he b hb,λe he w2 hs jl=>by
   rcases bJ.1 he with rfl|he
   ·exact(jl D rfl).trans hd
   ·exact hW.ok e he w2 hs jl,fN.2 ⟨λf hf b hb wj=>by cases hb;exact hn ⟨f,hf,wj⟩,hW.apart⟩⟩
 ·intro D c pre W _ _ h
  exact h.elim
end
end
section
open Go Go.RowKit
attribute [local irreducible] wpListIn Code.wpIn Exit.then Exit.inBlock bodyPost wpQuiet wpAnyIn bodyPostM
set_option maxHeartbeats 4000000
theorem Fo(v:Value)(hv:∃a n c,v=.slice a n c)(w0:World):gV Tryz.prog 145 [v] w0 λu w'=>∃p:Nat×Nat,u=.func (.func 165) #[] #[.pointer (some ⟨p.1,0,none⟩)]/\Wd dh w0 [aj p.1 [v] p.2] w'/\True:=by
 obtain⟨a,n,c,rfl⟩:=hv;refine aQ Tryz.func145 rfl Tryz.ntmps145 rfl (Wd.nil dh w0) ?_
 repeat(first|refine aO ?_|refine dX λ_ _=>?_)
 exact cA rfl λw hw=>⟨(_,_),rfl,hw,trivial⟩
abbrev Sn(R:Nat):Type:={v:cm//ik R v}
theorem K9{R:Nat}:∀l:List cm,(∀v∈l,ik R v)->∃xs:List (Sn R),xs.map (·.1)=l
 |[],_=>⟨[],rfl⟩
 |v::l,h=>by
  obtain⟨xs,mM⟩:=K9 l λu hu=>h u (cJ _ hu);exact⟨⟨v,h v aH⟩::xs,by rw[bO,mM]⟩
theorem BS{R:Nat}(xs:List (Sn R))(s:List Bool):xs.foldl (λs y=>kM s y.1) s=(xs.map (·.1)).foldl kM s:=by rw[List.foldl_map]
theorem Jw(a:Option Addr)(R c:Nat)(s:List Bool)(hs:s.length=R)(x:en)(hx:uV R x)(hlen:x.args.length<=100000)(va:Option Addr)(vn vc:Nat)(S:Nat->Prop)(wz:World)(W7:∀p v,wz.cell? p=some v->¬S p.block)(pG:aM wz (.slice va vn vc) 2 x.args l9)(w:World)(hw:Wd S wz [iF a R c s] w):
  gV Tryz.prog 146 [.slice a R c,.agg #[.int .i64 x.op,.int .i64 x.dst,.bool x.a.bD,.int .i64 x.a.n,.bool x.b.bD,.int .i64 x.b.n,.int .i64 x.fn,.slice va vn vc]] w λu w'=>∃_:Unit,u=.tuple #[]/\Wd (cF [iF a R c s]) w [iF a R c (uQ s x)] w'/\True:=by
 have hz:=hw.cE;refine vW (w0:=wz) (S:=S) Tryz.func146 rfl Tryz.ntmps146 rfl hw.yH ?_;generalize y7:bN.rest (BG S wz.heap.size w [iF a R c s]) w=RS
 repeat(first|refine aU ?_|refine dX λ_ _=>?_)
 rename_i b2 _ b3 _;generalize Gu:(if 0<=x.dst then s.set x.dst.toNat false else s)=s1;have Tz:s1.length=R:=by subst Gu;split<;>simpa using hs
 refine U3 [(2,.pointer (some ⟨b2,0,none⟩)),(3,.pointer (some ⟨b3,0,none⟩))] [aj b3 [.int .i64 x.op,.int .i64 x.dst,.bool x.a.bD,.int .i64 x.a.n,.bool x.b.bD,.int .i64 x.b.n,.int .i64 x.fn,.slice va vn vc] 56,aj b2 [.slice a R c] 145,RS,iF a R c s1] ?_ ?_
 ·refine aN (λh1=>?_) (λh1=>?_)
  ·have h0:0<=x.dst:=by simpa using h1
   have hR:=hx.dst h0;obtain⟨k,hk⟩:∃k:Nat,x.dst=k:=⟨x.dst.toNat,ag⟩;obtain⟨y,hy⟩:∃y,s[k]?=some y:=⟨_,aB ag⟩;unfold iF;refine eW 3 rfl ag λvb vo nz=>?_;have mW:bZ k R:=⟨ag⟩;have hea:oJ s k y:=⟨hy⟩;have XD:ky x.dst k:=⟨hk⟩;rw[nz];refine aI ?_;rw[if_pos h0,show x.dst.toNat=k by omega]at Gu;rw[Gu];exact aV aw ag2
  ·have h0:¬0<=x.dst:=by simpa using h1
   refine aO ?_;rw[if_neg h0]at Gu;rw[Gu];exact aV aw ag2
 refine aU ?_;refine cV (val:=λp:Nat=>.func (.func 164) #[] #[.pointer (some ⟨p,0,none⟩)]) (E:=λp=>[aj p [.int .i64 x.op,.int .i64 x.dst,.bool x.a.bD,.int .i64 x.a.n,.bool x.b.bD,.int .i64 x.b.n,.int .i64 x.fn,.slice va vn vc] 56]) (φ:=λ_=>True) rfl (λw hw=>YU x _ ⟨_,_,_,rfl⟩ w) λbp _=>?_;simp only[a6,aT];refine aO ?_;obtain⟨xs,mM⟩:=K9 (R:=R) (mH x) hx.tU;have zr:xs.foldl (λs y=>kM s y.1) s1=uQ s x:=by rw[BS,mM,<-Gu];rfl
 refine jp (L':=[(13,.func (.func 164) #[] #[.pointer (some ⟨bp,0,none⟩)]),(2,.pointer (some ⟨b2,0,none⟩)),(3,.pointer (some ⟨b3,0,none⟩))]) aw (.refl _) ?_;refine q7 [4,0,1,2,3] (by decide) ?_;refine LL (α:=Sn R) (gf:=164) (lb:=[.pointer (some ⟨bp,0,none⟩)]) [aj bp [.int .i64 x.op,.int .i64 x.dst,.bool x.a.bD,.int .i64 x.a.n,.bool x.b.bD,.int .i64 x.b.n,.int .i64 x.fn,.slice va vn vc] 56,aj b3 [.int .i64 x.op,.int .i64 x.dst,.bool x.a.bD,.int .i64 x.a.n,.bool x.b.bD,.int .i64 x.b.n,.int .i64 x.fn,.slice va vn vc] 56,aj b2 [.slice a R c] 145,RS] (λs:List Bool=>[iF a R c s]) s1 (λs=>⟨by intro e he;simp only[bU]at he;subst he;unfold iF;infer_instance⟩) (λs s' b ⟨e,he,hb⟩=>⟨iF a R c s',by simp,by simp only[bU]at he;subst he;exact hb⟩) xs
  (encs:=λy=>#[.agg #[.bool y.1.bD,.int .i64 y.1.n]]) (Bs:=bp) (bcs:=[.int .i64 x.op,.int .i64 x.dst,.bool x.a.bD,.int .i64 x.a.n,.bool x.b.bD,.int .i64 x.b.n,.int .i64 x.fn,.slice va vn vc]) (bt:=56) aH
  (λw1 mz=>?_) (λpre s=>s=pre.foldl (λs y=>kM s y.1) s1) rfl (.refl _) (λ_=>rfl) (λy=>[.bool y.1.bD,.int .i64 y.1.n]) 41
  (λy=>[(14,.agg #[.bool y.1.bD,.int .i64 y.1.n]),(2,.pointer (some ⟨b2,0,none⟩)),(3,.pointer (some ⟨b3,0,none⟩))]) (λy q=>[(4,.pointer (some ⟨q,0,none⟩)),(2,.pointer (some ⟨b2,0,none⟩)),(3,.pointer (some ⟨b3,0,none⟩))]) (λy a h=>?_) (λl y s R=>?_) (λl pre y s q RR hI bT=>?_) λD s2 hD hI=>?_
 ·intro l J Jx W hW hJ WH hY h0
  have Kk:∀b,cF ([iF a R c s1]++[aj bp [.int .i64 x.op,.int .i64 x.dst,.bool x.a.bD,.int .i64 x.a.n,.bool x.b.bD,.int .i64 x.b.n,.int .i64 x.fn,.slice va vn vc] 56,aj b3 [.int .i64 x.op,.int .i64 x.dst,.bool x.a.bD,.int .i64 x.a.n,.bool x.b.bD,.int .i64 x.b.n,.int .i64 x.fn,.slice va vn vc] 56,aj b2 [.slice a R c] 145,RS]) b->(S b∨wz.heap.size<=b)/\b<w1.heap.size:=λb ⟨e,he,hb⟩=>mz.own e he b hb;have hkz:∀p v,wz.cell? p=some v->w1.cell? p=some v:=λp v hp=>(World.cell?_of_block (mz.cE.block _ (World.block_lt_of_cell? wz p hp) (W7 p v hp))).trans hp;have h2:=UD (α:=Sn R) (λy=>y.1) x va vn vc xs mM hlen l bp _ wz pG (λp v hp h=>(Kk _ h.1).1.elim (W7 p v hp) λh2=>by have:=World.block_lt_of_cell? wz p hp;omega) (λh=>h.2 rfl) W (λb hb h=>by have:=(Kk b h.1).2;have:=hW.size;omega) J Jx _ hJ WH hY (λp v hp=>by
   have h3:=hkz p v hp;exact(hW.cell (World.block_lt_of_cell? w1 _ h3)).trans h3) (λj v hj=>by
   have h3:w1.cell? ⟨bp,0+j,none⟩=some v:=mz.gW bp j v hj;exact(hW.cell (World.block_lt_of_cell? w1 _ h3)).trans h3) h0
  exact DX (CallsIn.mono h2 λe w' ⟨v,he,hh⟩=>⟨⟨v,he⟩,hh⟩)
 ·have h2:=(h.to (L':=[(2,.pointer (some ⟨b2,0,none⟩)),(3,.pointer (some ⟨b3,0,none⟩))]) aw).dP (d:=14) rfl (.agg #[.bool y.1.bD,.int .i64 y.1.n])
  have e:(#[14].zip #[Value.agg #[.bool y.1.bD,.int .i64 y.1.n]]).foldl (λ(t:Array Value) (q:Tmp×Value)=>t.setIfInBounds q.1 q.2) a.tmps=a.tmps.setIfInBounds 14 (.agg #[.bool y.1.bD,.int .i64 y.1.n]):=by simp
  refine⟨Eq.trans (congrArg Array.size e) h2.size,rfl,λp hp=>?_⟩;exact Eq.trans (congrArg (λt:Array Value=>t[p.1]?) e) (h2.slot p hp)
 ·repeat(first|refine aI ?_|refine dX λ_ _=>?_)
  exact JZ _ aw ag2
 ·have PC:s.length=R:=by
   rw[hI,BS,xl,Tz]
  simp only[a6,aT];refine aO ?_;refine q7 [2,0,1,3,4,5,6] (by decide) ?_;refine fg (H1:=[iF a R c s]++[RR,aj q [.bool y.1.bD,.int .i64 y.1.n] 41,aj bp [.int .i64 x.op,.int .i64 x.dst,.bool x.a.bD,.int .i64 x.a.n,.bool x.b.bD,.int .i64 x.b.n,.int .i64 x.fn,.slice va vn vc] 56,aj b3 [.int .i64 x.op,.int .i64 x.dst,.bool x.a.bD,.int .i64 x.a.n,.bool x.b.bD,.int .i64 x.b.n,.int .i64 x.fn,.slice va vn vc] 56,aj b2 [.slice a R c] 145,RS]) rfl ?_;refine fH (val:=λ_:Unit=>.tuple #[]) (E:=λ_=>[iF a R c (kM s y.1)]) (φ:=λ_=>True) rfl (λw hw=>JG a R c s PC y.1 y.2 w hw.pre) λ_ _=>?_;simp only[a6,aT];refine aO ?_;refine q7 [1,0,2,3,4,5,6] (by decide) ?_;refine J3 (kM s y.1) ?_ (.refl _);rw[nJ,<-hI];rfl
 ·simp only[a6,aT]
  refine aO ?_;refine q7 [0,5,1] (by decide) ?_;refine J0 rfl hD λw' dO=>⟨(),rfl,?_,trivial⟩;rw[<-zr,<-hI];rw[<-y7]at dO;exact RK W7 hz dO
end
section
open Go Go.RowKit
attribute [local irreducible] wpListIn Code.wpIn Exit.then Exit.inBlock bodyPost wpQuiet wpAnyIn
set_option maxHeartbeats 4000000
theorem fO(nm pa re:Value)(bl:List ar)(bs:Value)(w0:World)(mU:aM w0 bs 6 bl ed)(hlen:bl.length<=100)(cW:cL bl):
  gV Tryz.prog 65 [.agg #[nm,pa,re,bs]] w0 λu w'=>∃x:(Option Addr×Nat×Nat)×(Nat->Prop),u=.slice x.1.1 x.1.2.1 x.1.2.2/\Wd dh w0 [⟨x.2,λw=>aM w (.slice x.1.1 x.1.2.1 x.1.2.2) 1 (bm bl) cS⟩] w'/\True:=by
 obtain⟨ba,n,bc,bb,xH,rfl,hn,pE,E3,LY,xS,iK⟩:=mU;refine aQ Tryz.func65 rfl Tryz.ntmps65 rfl (Wd.nil dh w0) ?_
 repeat(first|refine aO ?_|refine dX λ_ _=>?_)
 rename_i b1 _ bo _;refine kS 3 1 n ?_;rw[show(List.replicate n (Value.slice none 0 0))=(List.replicate n (⟨none,0,[]⟩:Row)).map eO by simp[eO],show(List.replicate n (ai none 0 0 3 1 []))=(List.replicate n (⟨none,0,[]⟩:Row)).map gy by simp[gy]];refine bP (λ(x:Nat×List Row)=>x.1<=n/\x.2.map (·.l)=jt bl x.1/\x.2.length=n/\∀r∈x.2,r.l.length<=2*x.1/\∀y∈r.l,c9 y) (λx=>[(15,.int .i64 x.1),(13,.slice ba n bc),(14,.int .i64 n),(3,.slice (some ⟨bo,0,none⟩) n n)]) (λx=>ai (some ⟨bo,0,none⟩) n n 42 1 (x.2.map eO)::x.2.map gy) (λx=>n-x.1) (0,List.replicate n ⟨none,0,[]⟩)
  ⟨aY _,by simp[jt,hn],by simp,by simp⟩ (aV aw ap) λx ⟨hi,sJ,qd,sI⟩=>?_
 obtain⟨i,rs⟩:=x;simp only at hi sJ qd sI⊢;refine aU ?_;refine aN (λh1=>?_) (λh1=>?_)
 ·have bT:i<n:=by simpa using h1
  obtain⟨B,hB⟩:=dJ hn bT;have pY:bY ba bb xH:=⟨xS (aW hB)⟩;have mW:bZ i n:=⟨bT⟩;obtain⟨cs,fZ,pv,lv,tv,rfl,_,_,oE,mX,ht⟩:=iK i B hB;obtain⟨Sa,pn,pc,_,_,rfl,_⟩:=oE;obtain⟨la,ln,lc,_,_,rfl,_⟩:=mX;obtain⟨ta,tn,tc,tb,yD,rfl,sN,Er,Ep,TC,wl,r6⟩:=ht;have oQ:a_ w0 bb (xH+i*6) _:=⟨fZ⟩;have IP:UC bl.length B.to:=cW B (aA hB)
  repeat(first|refine aI ?_|refine dX λ_ _=>?_)
  refine bP (λ(x:Nat×List Row)=>x.1<=tn/\x.2.map (·.l)=(B.to.take x.1).foldl (oK i) (jt bl i)/\x.2.length=n/\∀r∈x.2,r.l.length<=2*i+x.1/\∀y∈r.l,c9 y) (λx=>[(24,.int .i64 x.1),(22,.slice ta tn tc),(23,.int .i64 tn),(4,.int .i64 i),(15,.int .i64 i),(13,.slice ba n bc),(14,.int .i64 n),(3,.slice (some ⟨bo,0,none⟩) n n)])
   (λx=>ai (some ⟨bo,0,none⟩) n n 42 1 (x.2.map eO)::x.2.map gy) (λx=>tn-x.1) (0,rs)
   ⟨aY _,by simpa using sJ,qd,λr hr=>by simpa using sI r hr⟩ (aV aw ap) λx ⟨hj,vF,IM,Eg⟩=>?_
  obtain⟨j,EQ⟩:=x;simp only at hj vF IM Eg⊢;refine aU ?_;refine aN (λh2=>?_) (λh2=>?_)
  ·have n9:j<tn:=by simpa using h2
   obtain⟨t,Gz⟩:=dJ sN n9;have htt:=IP.2 t (aA Gz);obtain⟨k,hk⟩:∃k:Nat,t=k:=⟨t.toNat,ag⟩;have L9:k<n:=ag;have xz:k<EQ.length:=ag;obtain⟨r,hr⟩:∃r,EQ[k]?=some r:=⟨_,aB xz⟩;have uL:bY ta tb yD:=⟨wl (aW Gz)⟩;have Pe:bZ j tn:=⟨n9⟩;have adH:bZ k n:=⟨L9⟩;have XD:ky t k:=⟨hk⟩;obtain⟨CN,vD,rfl,_⟩:=r6 j t Gz;have vC:a_ w0 tb (yD+j*1) _:=⟨vD⟩;have Kv:NX (EQ.map eO) (k*1) (.slice r.a r.l.length r.c):=⟨by simp[hr,eO]⟩;have Km:=Eg r (aA hr)
   repeat(first|refine aO ?_|refine dX λ_ _=>?_)
   rename_i bt _;have PH:=IP.1;refine gq (k+2) (xs:=r.l.map (.int .i64)) (e:=3) (by simp[hr,gy]) rfl rfl ag ag λa' c'=>?_;refine fg (H1:=ai (some ⟨bt,0,none⟩) 1 1 3 1 [.int .i64 i]::ai (some ⟨bo,0,none⟩) n n 42 1 (EQ.map eO)::(EQ.set k ⟨a',c',r.l++[(i:Int)]⟩).map gy) (by simp[gy,eh]) ?_;have mM:lN (EQ.map eO) (k*1) (.slice a' (r.l.length+1) c') ((EQ.set k ⟨a',c',r.l++[(i:Int)]⟩).map eO):=⟨by simp[eO,eh],by simpa using xz⟩;refine aI ?_;refine bC (j+1,EQ.set k ⟨a',c',r.l++[(i:Int)]⟩) ⟨n9,?_,by simpa using IM,?_⟩ (by simp only;omega) aw ap
   ·simp only
    rw[cj,Gz];simp only[lr,nJ,fF,List.foldl_nil];rw[<-vF,oK,show t.toNat=k by omega];exact pJ hr rfl
   ·intro q hq
    rcases jM hq with hq|rfl
    ·have:=Eg q hq
     exact⟨by simp only;omega,this.2⟩
    ·refine⟨by simp only[bR,jL];omega,λy hy=>?_⟩
     rcases bL.1 hy with hy|hy
     ·exact Km.2 y hy
     ·simp only[bU]at hy
      subst hy;simp only[c9];omega
  ·have gT:j=tn:=by have:=h2;simp at this;omega
   refine aI ?_;refine bC (i+1,EQ) ⟨bT,?_,IM,λr hr=>?_⟩ (by simp only;omega) aw ag2
   ·simp only[jt,hB]
    rw[vF,gT,sN,cO]
   ·have:=Eg r hr
    have PH:=IP.1;exact⟨by simp only;omega,this.2⟩
 ·have gT:i=n:=by have:=h1;simp at this;omega
  refine aI ?_;refine cA rfl λw hw=>⟨((some ⟨bo,0,none⟩,n,n),cF (ai (some ⟨bo,0,none⟩) n n 42 1 (rs.map eO)::rs.map gy)),rfl,?_,trivial⟩;have dO:Wd dh w0 ((ai (some ⟨bo,0,none⟩) n n 42 1 (rs.map eO)::rs.map gy)++[]) w:=by rw[cq];exact hw
  refine dO.pack _ λw2 jl=>?_;have:=EP (H:=[]) (by rw[cq];exact jl) qd.symm ag λr hr=>⟨by have:=(sI r hr).1;omega,(sI r hr).2⟩;rw[sJ,gT,hn]at this;exact hn▸this
def Cg(w:World)(l:List Bool)(cs:List Value):Prop:=∃v,cs=[v]/\aM w v 1 l yL
def n_(rows:List (List Bool))(t r:Nat):Prop:=∃s,rows[t]?=some s/\has s r
theorem pg{bl:List ar}{t b:Nat}(hb:b<bl.length)(h:(t:Int)∈dd bl b):b∈bf bl t:=by
 unfold bf;rw[cI];exact⟨by simpa using hb,by simpa using h⟩
theorem Jn{bl:List ar}{t:Nat}{B:ar}(h:bl[t]?=some B):eU bl t=B.aL:=by simp[eU,h]
theorem HR(nm pa:Value)(R:Nat)(hR:R<=100)(bl:List ar)(bs:Value)(b:Nat)(rows:List (List Bool))(aa ia:Option Addr)(an ac ic:Nat)(w0:World)(mU:aM w0 bs 6 bl ed)(n':Nat)(NB:n'=bl.length)(hf:eX R bl)(hb:b<bl.length)(qd:rows.length=bl.length)(R9:∀s∈rows,s.length=R)
  (LV:aM w0 (.slice aa an ac) 1 (bm bl) cS) (mO:aM w0 (.slice ia n' ic) 1 rows Cg):
  gV Tryz.prog 142 [.agg #[nm,pa,.int .i64 R,bs],.slice aa an ac,.slice ia n' ic,.int .i64 b] w0 λu w'=>∃x:Nat×List Bool,u=.slice (some ⟨x.1,0,none⟩) R R/\Wd dh w0 [iF (some ⟨x.1,0,none⟩) R R x.2] w'/\(x.2.length=R/\∀r,has x.2 r↔Fc bl (n_ rows) b r):=by
 subst NB;have cW:=hf.iM;have jq:∀(b:Nat) (B:ar),bl[b]?=some B->B.to.Nodup:=λb B hB=>(hf.block b B hB).to;obtain⟨ba,n,bc,bb,xH,rfl,hn,pE,E3,LY,xS,iK⟩:=mU;obtain⟨VS,in',ic',ib,io,hv,afQ,_,_,_,R1,O_⟩:=mO;simp only[Value.slice.injEq]at hv;obtain⟨rfl,rfl,rfl⟩:=hv;obtain⟨aa',an',ac',ab,ao,hv,EY,_,_,_,Iw,AJ⟩:=LV;simp only[Value.slice.injEq]at hv;obtain⟨rfl,rfl,rfl⟩:=hv;rw[<-hn]at hb qd⊢;refine aQ Tryz.func142 rfl Tryz.ntmps142 rfl (Wd.nil dh w0) ?_;obtain⟨B,hB⟩:=dJ hn hb;have pY:bY ba bb xH:=⟨xS (aW hB)⟩;have mW:bZ b n:=⟨hb⟩;obtain⟨cs,fZ,pv',lv,tv,rfl,_,_,oE,mX,ht⟩:=iK b B hB;obtain⟨Sa,pn,pc,_,_,rfl,_⟩:=oE;obtain⟨la,ln,lc,_,_,rfl,_⟩:=mX;obtain⟨ta,tn,tc,tb,yD,rfl,sN,Er,Ep,TC,wl,r6⟩:=ht;have oQ:a_ w0 bb (xH+b*6) _:=⟨fZ⟩;have Is:=cW B (aA hB)
 repeat(first|refine aI ?_|refine dX λ_ _=>?_)
 rename_i p4 _ ob _ HH _;rw[show List.replicate R (Value.bool false)=(List.replicate R false).map Value.bool by simp];refine bP (λ(x:Nat×List Bool)=>x.1<=tn/\x.2.length=R/\∀r,has x.2 r↔∃t:Nat,(∃q,q<x.1/\B.to[q]?=some (t:Int))/\(tT bl t b r=true∨n_ rows t r)) (λx=>[(31,.int .i64 x.1),(29,.slice ta tn tc),(30,.int .i64 tn),(9,.slice (some ⟨ob,0,none⟩) R R),(4,.pointer (some ⟨p4,0,none⟩)),(1,.slice aa an ac),(2,.slice ia n ic),(3,.int .i64 b)]) (λx=>[iF (some ⟨ob,0,none⟩) R R x.2,aj p4 [nm,pa,.int .i64 R,.slice ba n bc] 35]) (λx=>tn-x.1) (0,List.replicate R false)
  ⟨aY _,by simp,λr=>by simp[has,h_]⟩ (aV aw ap) λx ⟨hi,pG,hs⟩=>?_
 obtain⟨i,s⟩:=x;simp only at hi pG hs⊢;refine aU ?_;refine aN (λh1=>?_) (λh1=>?_)
 ·have Xn:i<tn:=by simpa using h1
  obtain⟨t,Gz⟩:=dJ sN Xn;have htt:=Is.2 t (aA Gz);obtain⟨k,hk⟩:∃k:Nat,t=k:=⟨t.toNat,ag⟩;subst hk;have L9:k<n:=ag;have uL:bY ta tb yD:=⟨wl (aW Gz)⟩;have Pe:bZ i tn:=⟨Xn⟩;obtain⟨CN,vD,rfl,_⟩:=r6 i _ Gz;have vC:a_ w0 tb (yD+i*1) _:=⟨vD⟩;obtain⟨T,hT⟩:=dJ hn L9;have Pf:bZ k n:=⟨L9⟩;obtain⟨csT,ada,pvT,lvT,tvT,rfl,_,_,XQ,Xv,aeq⟩:=iK k T hT;obtain⟨xa,xn,xc,xb,xo,rfl,Ym,Yo,Yn,hxc,Kv,PO⟩:=XQ;obtain⟨l2a,l2n,l2c,_,_,rfl,_⟩:=Xv;obtain⟨t2a,t2n,t2c,_,_,rfl,_⟩:=aeq;have ac3:a_ w0 bb (xH+k*6) _:=⟨ada⟩;obtain⟨row,fK⟩:=dJ qd.symm L9;have acN:bY ia ib io:=⟨R1 (aW fK)⟩;obtain⟨csr,ade,rv,rfl,y8⟩:=O_ k row fK;have afD:a_ w0 ib (io+k*1) _:=⟨ade⟩;have ae4:=R9 row (aA fK);obtain⟨ra,rn,rc,rb,ro,rfl,zx,aby,agI,NE,ND,hrel⟩:=y8;have aeh:R=rn:=ag;subst aeh
  repeat(first|refine aI ?_|refine dX λ_ _=>?_)
  rename_i p13 _;refine bP (λ(x:Nat×List Bool)=>x.1<=R/\x.2.length=R/\∀r,has x.2 r↔(has s r∨(r<x.1/\has row r))) (λx=>[(45,.int .i64 x.1),(43,.slice ra R rc),(44,.int .i64 R),(12,.int .i64 k),(13,.pointer (some ⟨p13,0,none⟩)),(31,.int .i64 i),(29,.slice ta tn tc),(30,.int .i64 tn),(9,.slice (some ⟨ob,0,none⟩) R R),(4,.pointer (some ⟨p4,0,none⟩)),(1,.slice aa an ac),(2,.slice ia n ic),(3,.int .i64 b)]) (λx=>[iF (some ⟨ob,0,none⟩) R R x.2,aj p13 [.slice xa xn xc,.slice l2a l2n l2c,.int .i64 T.kind,.bool T.on.bD,.int .i64 T.on.n,.slice t2a t2n t2c] 46,aj p4 [nm,pa,.int .i64 R,.slice ba n bc] 35]) (λx=>R-x.1) (0,s)
   ⟨aY _,pG,λr=>by simp⟩ ?_ λx ⟨hj,TA,gU⟩=>?_
  ·refine q7 [1,0,2] (by decide) ?_
   exact aV aw ag2
  obtain⟨j,s'⟩:=x;simp only at hj TA gU⊢;refine aU ?_;refine aN (λh2=>?_) (λh2=>?_)
  ·have n9:j<R:=by simpa using h2
   obtain⟨y,hy⟩:=dJ zx n9;have aan:bY ra rb ro:=⟨ND (aW hy)⟩;have IH:bZ j R:=⟨n9⟩;obtain⟨cs3,ac9,rfl⟩:=hrel j y hy;have OQ:a_ w0 rb (ro+j*1) _:=⟨ac9⟩;obtain⟨z,hz⟩:∃z,s'[j]?=some z:=⟨_,aB ag⟩;have hez:oJ s' j z:=⟨hz⟩;have AR:∀r,has (s'.set j (z||y)) r↔(has s r∨(r<j+1/\has row r)):=λr=>by
    unfold has;rw[dQ]
    by_cases e:j=r
    ·subst e
     have h3:=gU j;unfold has at h3;rw[hz]at h3;rw[if_pos rfl,if_pos ag,hy];cases z<;>cases y<;>simp at h3⊢<;>first|exact h3|(simp[h3])
    ·rw[if_neg e]
     have h3:=gU r;unfold has at h3;rw[h3];constructor
     ·rintro(h|⟨h,h4⟩)
      ·exact .inl h
      ·exact .inr ⟨ag,h4⟩
     ·rintro(h|⟨h,h4⟩)
      ·exact .inl h
      ·exact .inr ⟨ag,h4⟩
   unfold iF;cases z
   ·refine aI ?_
    exact bC (j+1,s'.set j y) ⟨n9,by simpa using TA,by simpa using AR⟩ (by simp only;omega) aw ag2
   ·refine iL ?_
    exact bC (j+1,s'.set j true) ⟨n9,by simpa using TA,by simpa using AR⟩ (by simp only;omega) aw ag2
  ·have gT:j=R:=by have:=h2;simp at this;omega
   have xB:=pg (by omega:b<bl.length) (show(k:Int)∈dd bl b by rw[fR hB];exact aA Gz);have hag:=gm cW jq (show k<bl.length by omega);have WO:bY aa ab ao:=⟨Iw (aW hag)⟩;have af6:bZ k an:=⟨by rw[EY];exact(aC.1 hag).1⟩;obtain⟨csa,adb,av,rfl,B9⟩:=AJ k _ hag;have afC:a_ w0 ab (ao+k*1) _:=⟨adb⟩;have OK:=B9;obtain⟨a2,a2n,a2c,_,_,rfl,_⟩:=B9;have Y8:=hf.block k T hT;refine aI ?_;refine bI rfl (λw hw=>zU _ (bf bl k) b w xB (OK.cu eK hw.cE)) ?_;have O9:(bf bl k).idxOf b<(bf bl k).length:=ju xB;generalize hix:(bf bl k).idxOf b=ix at O9;refine aO ?_;refine bP (λ(x:Nat×List Bool)=>x.1<=xn/\x.2.length=R/\∀r,has x.2 r↔(has s' r∨∃q p,q<x.1/\T.aL[q]?=some p/\ke [p.src[ix]?.getD gK] r=true)) (λx=>[(70,.int .i64 x.1),(68,.slice xa xn xc),(69,.int .i64 xn),(16,.int .i64 (ix:Nat)),(12,.int .i64 k),(13,.pointer (some ⟨p13,0,none⟩)),(31,.int .i64 i),(29,.slice ta tn tc),(30,.int .i64 tn),(9,.slice (some ⟨ob,0,none⟩) R R),(4,.pointer (some ⟨p4,0,none⟩)),(1,.slice aa an ac),(2,.slice ia n ic),(3,.int .i64 b)]) (λx=>[iF (some ⟨ob,0,none⟩) R R x.2,aj p13 [.slice xa xn xc,.slice l2a l2n l2c,.int .i64 T.kind,.bool T.on.bD,.int .i64 T.on.n,.slice t2a t2n t2c] 46,aj p4 [nm,pa,.int .i64 R,.slice ba n bc] 35]) (λx=>xn-x.1) (0,s')
    ⟨aY _,TA,λr=>by simp⟩ (aV aw ag2) λx ⟨hj3,PD,hs3⟩=>?_
   obtain⟨m,s3⟩:=x;simp only at hj3 PD hs3⊢;refine aU ?_;refine aN (λh3=>?_) (λh3=>?_)
   ·have II:m<xn:=by simpa using h3
    obtain⟨p,hp⟩:=dJ Ym II;have aao:bY xa xb xo:=⟨Kv (aW hp)⟩;have Zk:bZ m xn:=⟨II⟩;obtain⟨csp,Xb,sv,rfl,_,mP⟩:=PO m p hp;have aaB:a_ w0 xb (xo+m*2) _:=⟨Xb⟩;have AX:=Y8.aL p (aA hp);obtain⟨s2a,s2n,s2c,s2b,s2o,rfl,aem,_,_,_,aek,abz⟩:=mP;obtain⟨v,hv⟩:∃v,p.src[ix]?=some v:=⟨_,aB (by rw[AX.len];exact O9)⟩;have acP:bY s2a s2b s2o:=⟨aek (aW hv)⟩;have adJ:bZ ix s2n:=⟨by rw[aem,AX.len];exact O9⟩;obtain⟨csv,adf,rfl,_⟩:=abz ix v hv;have afE:a_ w0 s2b (s2o+ix*2) _:=⟨adf⟩;have hvo:=AX.tU v (aA hv)
    repeat(first|refine aI ?_|refine dX λ_ _=>?_)
    rename_i Zt _;refine q7 [1,0,2,3] (by decide) ?_;refine fg (H1:=[iF (some ⟨ob,0,none⟩) R R s3]++[aj Zt [.int .i64 p.dst,.slice s2a s2n s2c] 49,aj p13 [.slice xa xn xc,.slice l2a l2n l2c,.int .i64 T.kind,.bool T.on.bD,.int .i64 T.on.n,.slice t2a t2n t2c] 46,aj p4 [nm,pa,.int .i64 R,.slice ba n bc] 35]) rfl ?_;refine fH (val:=λ_:Unit=>.tuple #[]) (E:=λ_=>[iF (some ⟨ob,0,none⟩) R R (kM s3 v)]) (φ:=λ_=>True) rfl (λw hw=>JG (some ⟨ob,0,none⟩) R R s3 PD v hvo w hw.pre) λ_ _=>?_;simp only[a6,aT];refine aO ?_;refine bC (m+1,kM s3 v) ⟨II,by rw[mF];exact PD,λr=>?_⟩ (by simp only;omega) aw ap;simp only;rw[xR (by rw[PD];exact hvo),hs3 r];have uP:ke [p.src[ix]?.getD gK] r=true↔(v.bD=true/\v.n=r):=by rw[hv];simp[ke]
    constructor
    ·rintro((h|⟨q,p',h4,h5,h6⟩)|h)
     ·exact .inl h
     ·exact .inr ⟨q,p',ag,h5,h6⟩
     ·exact .inr ⟨m,p,ag,hp,uP.2 h⟩
    ·rintro(h|⟨q,p',h4,h5,h6⟩)
     ·exact .inl (.inl h)
     ·by_cases e:q=m
      ·subst e
       rw[hp]at h5;simp only[bW]at h5;subst h5;exact .inr (uP.1 h6)
      ·exact .inl (.inr ⟨q,p',ag,h5,h6⟩)
   ·have aaR:m=xn:=by have:=h3;simp at this;omega
    refine aI ?_;refine bC (i+1,s3) ⟨Xn,PD,λr=>?_⟩ (by simp only;omega) aw ap;simp only;rw[hs3 r,gU r,hs r];have Cv:tT bl k b r=true↔∃q p,q<m/\T.aL[q]?=some p/\ke [p.src[ix]?.getD gK] r=true:=by
     unfold tT;rw[Jn hT,oq,hix];constructor
     ·rintro⟨p,hp,h⟩
      obtain⟨q,hq⟩:=br hp;exact⟨q,p,by have:=(aC.1 hq).1;omega,hq,h⟩
     ·rintro⟨q,p,_,hq,h⟩
      exact⟨p,aA hq,h⟩
    have hIn:n_ rows k r↔(r<j/\has row r):=by
     unfold n_;rw[fK];constructor
     ·rintro⟨s,e,h⟩
      simp only[bW]at e;subst e;exact⟨by have:=(aC.1 h).1;omega,h⟩
     ·rintro⟨_,h⟩;exact⟨row,rfl,h⟩
    rw[<-Cv,<-hIn];constructor
    ·rintro((⟨t,⟨q,h4,h5⟩,h6⟩|h)|h)
     ·exact⟨t,⟨q,ag,h5⟩,h6⟩
     ·exact⟨k,⟨i,ag,Gz⟩,.inr h⟩
     ·exact⟨k,⟨i,ag,Gz⟩,.inl h⟩
    ·rintro⟨t,⟨q,h4,h5⟩,h6⟩
     by_cases e:q=i
     ·subst e
      rw[Gz]at h5;have h7:(k:Int)=t:=by simpa using h5
      have:k=t:=ag;subst this;rcases h6 with h6|h6
      ·exact .inr h6
      ·exact .inl (.inr h6)
     ·exact .inl (.inl ⟨t,⟨q,ag,h5⟩,h6⟩)
 ·have gT:i=tn:=by have:=h1;simp at this;omega
  refine aI ?_;refine cA rfl λw hw=>⟨(ob,s),rfl,hw.Zv [0] (by decide),pG,λr=>?_⟩;simp only;rw[hs r];unfold Fc;rw[fR hB];constructor
  ·rintro⟨t,⟨q,_,hq⟩,h⟩;exact⟨t,aA hq,h⟩
  ·rintro⟨t,ht,h⟩
   obtain⟨q,hq⟩:=br ht;exact⟨t,⟨q,by have:=(aC.1 hq).1;omega,hq⟩,h⟩
end
end Go.Proofs.YthfhgolkafpmnaaGreatDoor
