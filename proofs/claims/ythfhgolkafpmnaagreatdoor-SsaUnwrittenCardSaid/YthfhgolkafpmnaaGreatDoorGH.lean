/- Texts joined: Open Door DoorB LiveD HeldB LiveF LiveE LiveG LiveH LiveI LiveJ LiveK. -/
import Derived.Deep.DeepHandedRow
import Derived.Deep.Slices
import Derived.Lib.LaidTab
import Derived.OpenShut
import Derived.ProofKit
import Derived.Test.YthfhgolkafpmnaaGreatDoorCards
import Derived.Test.YthfhgolkafpmnaaGreatDoorTie
import Derived.Test.YthfhgolkafpmnaaGreatDoorGA
import Derived.Test.YthfhgolkafpmnaaGreatDoorGB
import Derived.Test.YthfhgolkafpmnaaGreatDoorGC
import Derived.Test.YthfhgolkafpmnaaGreatDoorGD
import Derived.Test.YthfhgolkafpmnaaGreatDoorGF
namespace Go.Proofs.YthfhgolkafpmnaaGreatDoor
section
open Go Go.RowKit Go.ChangeShapes Go.WideShapes
set_option maxRecDepth 100000
section
variable {H:Type} {enc:TypeId×Value->H} {P:Program} {w:World} {base:Nat} {spare:Nat->Bool} {held:Bool}
theorem Fw{α:Type}{n:Nat}{p:Nat->α->Prop}(h:∀i,i<n->∃x,p i x):∃l:List α,l.length=n/\∀i x,l[i]?=some x->p i x:=by
 induction n with
 |zero=>exact⟨[],rfl,by simp⟩
 |succ n ih=>
  obtain⟨l,hl,hp⟩:=ih (λi hi=>h i ag);obtain⟨x,hx⟩:=h n ag;refine⟨l++[x],by simp[hl],λi y hy=>?_⟩
  by_cases hi:i<l.length
  ·rw[dG hi]at hy;exact hp i y hy
  ·rw[dg ag]at hy
   have:i-l.length=0:=by
    cases hk:i-l.length with
    |zero=>rfl
    |succ k=>rw[hk]at hy;simp at hy
   rw[this]at hy;simp at hy;subst hy;have:i=n:=ag;subst this;exact hx
theorem pK{e:TypeId}{d:DataW H}{k:Nat}:∀{l:List (DataW H)},d∈l->k∈d.weights P e->k∈DataW.weightsAll P e l
 |[],h,_=>by cases h
 |x::l,h,hk=>by
  simp only[DataW.weightsAll,bL];rcases bJ.1 h with rfl|h
  ·exact .inl hk
  ·exact .inr (pK h hk)
theorem lI{d:DataW H}{k:Nat}:∀{ts:List TypeId} {l:List (DataW H)} {i:Nat} {t:TypeId},ts[i]?=some t->l[i]?=some d->k∈d.weights P t->k∈DataW.weightsEach P ts l
 |[],_,i,t,h,_,_=>by simp at h
 |_::_,[],i,t,_,h,_=>by simp at h
 |t0::ts,x::l,0,t,h,hd,hk=>by
  simp only[jJ,bW]at h hd;subst h hd;simp only[DataW.weightsEach,bL];exact .inl hk
 |t0::ts,x::l,i+1,t,h,hd,hk=>by
  simp only[nK]at h hd;simp only[DataW.weightsEach,bL];exact .inr (lI h hd hk)
def Small(P:Program)(t:TypeId)(d:DataW H):Prop:=∀k∈d.weights P t,k<=reachBytes
theorem sq{α:Type}{V:World->α->List Value->Prop}{t e s:Nat}(ht:P.underlying t=some (.slice e))(hs:P.cellsOf e=s)(dS:0<s)(Zc:0<P.bytesOf e)
  (hV:∀bE cs x,cs.length=s->DataW.trod enc P w base spare held bE e cs=some x->Small P e x.1->∃u,V w u cs)
  {bE:Nat} {v:Value} {x:DataW H×List MemPlace} (h:DataW.trod enc P w base spare held bE t [v]=some x) (hz:Small P t x.1):∃l,aM w v s l V:=by
 rcases Deep.open_slice ht h with⟨fZ,_⟩|⟨a,len,cap,m,n,D,Pl,fZ,_,hl,hm,hmm,rfl,hi⟩
 ·simp only[List.cons.injEq,and_true]at fZ
  subst fZ;exact⟨[],none,0,0,0,0,rfl,rfl,bH _,ag,ag,by simp,by simp⟩
 ·simp only[List.cons.injEq,and_true]at fZ
  subst fZ;have Zk:len<=m:=by rw[hmm];split<;>omega
  have oj:len<=140737488355328:=by
   have h1:(len+(m-len))*P.bytesOf e<=reachBytes:=by
    have:=hz ((len+(m-len))*P.bytesOf e) (by simp[DataW.weights,ht]);exact this
   have h2:len+(m-len)<=(len+(m-len))*P.bytesOf e:=Nat.le_mul_of_pos_right _ Zc;simp only[reachBytes]at h1;omega
  have hD:∀i,i<m->Small P e (D i):=λi R3 k hk=>by
   refine hz k ?_;simp only[DataW.weights,ht,bJ,bL]
   right
   by_cases iQ:i<len
   ·exact .inl (pK (aX.2 ⟨i,by simpa using iQ,rfl⟩) hk)
   ·exact .inr (pK (aX.2 ⟨i-len,by simp;omega,by rw[show len+(i-len)=i by omega]⟩) hk)
  obtain⟨l,Kf,hp⟩:=Fw (α:=α) (n:=len) (p:=λi u=>∃rV,w.cells? base (a.add (i*s)) s=some rV/\V w u rV) (λi iQ=>by
   obtain⟨rV,hc,HE⟩:=hi i ag;rw[hs]at hc;obtain⟨u,hu⟩:=hV n rV _ (World.cells?_some hc).2.1 HE (hD i ag);exact⟨u,rV,hc,hu⟩)
  refine⟨l,some a,len,cap,a.block,a.off,rfl,Kf.symm,hl,oj,by simpa[maxLen]using hm,λeH=>?_,λi u hu=>?_⟩
  ·have h0:0<l.length:=rR.2 eH
   obtain⟨rV,hc,_⟩:=hp 0 _ (aB h0);obtain⟨_,hlen,ny⟩:=World.cells?_some hc;have h1:=ny 0 dS;rw[aB ag]at h1;have:=World.cell?_spot h1;simp only[Nat.zero_mul,Addr.add_zero']at this;obtain⟨b,o,sp⟩:=a;simp only at this;subst this;rfl
  ·obtain⟨rV,hc,hv⟩:=hp i u hu
   refine⟨rV,λj y hj=>?_,hv⟩;obtain⟨_,hlen,ny⟩:=World.cells?_some hc;have jE:j<s:=by have:=(aC.1 hj).1;omega
   have h1:=ny j jE;rw[hj]at h1;have Eo:a.spot=none:=by
    have h0:=ny 0 dS;rw[aB ag,Addr.add_zero']at h0;have:=World.cell?_spot h0;unfold Addr.add at this
    split at this
    ·exact this
    ·rename_i eH
     have h0':0<l.length:=by have:=(aC.1 hu).1;omega
     obtain⟨cs0,Gc,_⟩:=hp 0 _ (aB h0');obtain⟨_,aeV,acS⟩:=World.cells?_some Gc;have h3:=acS 0 dS;rw[aB ag]at h3;have:=World.cell?_spot h3;simpa only[Nat.zero_mul,Addr.add_zero']using this
   obtain⟨b,o,sp⟩:=a;simp only at Eo;subst Eo;rw[Addr.add_lit,Addr.add_lit]at h1;exact h1
end
section
variable {H:Type} {enc:TypeId×Value->H} {w:World} {base:Nat} {spare:Nat->Bool} {held:Bool}
theorem Fv:Tryz.prog.cellsOf 3=1:=by kernel_rfl
end
theorem own:ownKnob Tryz.prog.godebug=none:=by kernel_rfl
theorem laidOut:laidOutB Tryz.prog=true:=by kernel_rfl
theorem vm{H:Type}{enc:TypeId×Value->H}{W W':World}(hb:Below W.heap.size W W'):∀(ts:List TypeId) (vs:List Value) (ds:List (DataW H)) (ps:List MemPlace),
  (∀t∈ts,Tryz.prog.readableRec t=true/\t<Tryz.prog.types.size)->DataW.TrodAll enc Tryz.prog W 0 (λ_=>true) true ts vs ds ps->DataW.TrodAll enc Tryz.prog W' 0 (λb=>decide (b<W.heap.size)) true ts vs ds ps
 |[],vs,ds,ps,_,h=>by obtain⟨rfl,rfl,rfl⟩:=trodAll_nil h;exact rfl
 |t::ts,vs,ds,ps,hr,h=>by
  obtain⟨v,vs',d,ds',p,q,rfl,rfl,rfl,h0,h1⟩:=trodAll_cons h;have lt0:∀x∈p,x.block<W.heap.size:=by obtain⟨m,hm⟩:=h0;exact DataW.trod_lt m _ _ _ hm
  exact⟨p,q,Below.trod laidOut (hr t aH).1 (hr t aH).2 h0 hb lt0,vm hb ts vs' ds' q (λu hu=>hr u (by simp[hu])) h1,rfl⟩
theorem Qf{k:FuncId}{fn:Func}{s:ChangeSpec}{ts:List TypeId}(hp:fn.params.toList=ts)(aef:fn.resultTypes= #[4])(VQ:s.vars=[])
  (TG:∀t∈ts,Tryz.prog.readableRec t=true/\t<Tryz.prog.types.size)
  {H:Type} {enc:TypeId×Value->H} {W:World} {args:Array Value} {ds gs:List (DataW H)} {before:List MemPlace}
  (oY:ds.length=ts.length->s.fn H ds={results:=[.lit (.bool true)],args:=ds})
  (hW:DataW.Whole enc Tryz.prog fn.params.toList s.vars false W args.toList ds gs before)
  (abS:∀p,DataW.TrodAll enc Tryz.prog W 0 (λ_=>true) true ts args.toList ds p->fi Tryz.prog k args.toList W (.bool true)):
  Calls Tryz.prog k args W λe W'=>∃v,e=.returned v/\s.post enc Tryz.prog fn false true false false W args v W':=by
 have u_:=hW;obtain⟨p,q,hA,hV,rfl,Vn,oh⟩:=hW;rw[hp]at hA;rw[VQ]at hV;obtain⟨rfl,rfl⟩:=trodVars_none hV;have hlen:∀(ts:List TypeId) (vs:List Value) (ds:List (DataW H)) (ps:List MemPlace),DataW.TrodAll enc Tryz.prog W 0 (λ_=>true) true ts vs ds ps->ds.length=ts.length:=by
  intro ts
  induction ts with
  |nil=>intro vs ds ps h;obtain⟨_,rfl,_⟩:=trodAll_nil h;rfl
  |cons t ts ih=>intro vs ds ps h;obtain⟨v,vs',d,ds',p,q,rfl,rfl,rfl,h0,h1⟩:=trodAll_cons h;simp[ih _ _ _ h1]
 have hs:=oY (hlen _ _ _ _ hA);have h3:Calls Tryz.prog k args W λe w'=>∃u,e=.returned u/\u=.bool true/\lL dh W w':=by
  have:=callsIn_wide.1 (abS _ hA);simpa using this
 refine h3.mono λe W' ⟨u,he,hu,hc⟩=>?_;subst hu;refine⟨_,he,ds,[],_,[],p,[],u_,?_,?_,?_,hc.below.frame _,λh=>by cases h⟩
 ·rw[cq,hs,aef]
  exact trodAll_mk1 (shut_bool Tryz.underlying4 _)
 ·rw[cq,hs,hp]
  exact vm hc.below _ _ _ _ TG hA
 ·rw[cq,hs,VQ]
  exact rfl
end
section
open Go Go.RowKit Go.ChangeShapes Go.WideShapes Go.ChangeAt
set_option maxRecDepth 100000
def BZ:List (String×DataW Unit):=[("turnery/code.ways",Rows.laid_turnery_code_ways)]
theorem FQ:Tryz.prog.globalNamed "turnery/code.ways" =some 0:=by kernel_rfl
theorem LK:(Tryz.prog.globals[0]?).map (·.type)=some 155:=by kernel_rfl
theorem ZS:Tryz.prog.cellsOf 155=4:=by kernel_rfl
theorem UH{W:World}(h:laidMetH Tryz.prog BZ W):bG W 0 0 mI:=by
 have ht:Lib.TabIs Tryz.prog W "turnery/code.ways" .i64 [0,0,1,2]:=Lib.tabIs_of_head (rest:=[]) FQ LK Tryz.underlying155 Tryz.underlying3 Fv ZS h
 intro j v hj;rw[dM]
 match j,hj with
 |0,hj=>simp only[mI,jJ,bW]at hj;subst hj;exact ht.cell FQ 0 (by decide)
 |1,hj=>simp only[mI,nK,jJ,bW]at hj;subst hj;exact ht.cell FQ 1 (by decide)
 |2,hj=>simp only[mI,nK,jJ,bW]at hj;subst hj;exact ht.cell FQ 2 (by decide)
 |3,hj=>simp only[mI,nK,jJ,bW]at hj;subst hj;exact ht.cell FQ 3 (by decide)
 |j+4,hj=>simp[mI]at hj
theorem Nb{l:List Nat}(h:l.all (·<=reachBytes)=true):∀k∈l,k<=reachBytes:=by
 intro k hk;have:=List.all_eq_true.1 h k hk;simpa using this
noncomputable def x_(os:Os):World:=
 {World.holding Tryz.prog os ⟨#[],#[],[]⟩with heap:=(World.holding Tryz.prog os ⟨#[],#[],[]⟩).heap.modify 0 λ
  | .cells _ t frozen=>.cells #[.int .i64 0,.int .i64 0,.int .i64 1,.int .i64 2] t frozen
  |o=>o}
theorem Qc(os:Os)(args:Array Value):laidMet Tryz.prog BZ ((x_ os).forCall (λ_ _=>0) ⟨#[],args,[]⟩).memory:=
 laidMet_of_run' 8 aP aP
end
section
open Go Go.RowKit
attribute [local irreducible] wpListIn Code.wpIn Exit.then Exit.inBlock bodyPost wpQuiet wpAnyIn bodyPostM
set_option maxHeartbeats 4000000
structure jC where
 a:Option Addr
 c:Nat
 l:List Bool
def gJ(R:Nat)(r:jC):Value:=.slice r.a R r.c
def ir(R:Nat)(r:jC):bN:=iF r.a R r.c r.l
theorem KX{S:Nat->Prop}{w0 w:World}{R:Nat}{rs:List jC}{a:Option Addr}{n c e:Nat}{H:List bN}(h:Wd S w0 (ai a n c e 1 (rs.map (gJ R))::(rs.map (ir R)++H)) w)(hn:n=rs.length)(hb:n<=1000)(hR:R<=1000)(hl:∀r∈rs,r.l.length=R):
  aM w (.slice a n c) 1 (rs.map (·.l)) Cg:=by
 refine h.nC (k:=0) rfl (by simpa using hn) ag λi x hx=>?_;rw[aK]at hx;obtain⟨r,hr,rfl⟩:=cT.1 hx;have bT:i<rs.length:=(aC.1 hr).1;have mL:=hl r (aA hr);refine⟨[gJ R r],λj v hj=>?_,gJ R r,rfl,?_⟩
 ·match j,hj with
  |0,hj=>simpa[hr]using hj
 ·refine h.nC (k:=i+1) (a:=r.a) (n:=R) (c:=r.c) (e:=4) (s:=1) (xs:=r.l.map .bool) ?_ mL.symm ag λj y hy=>⟨[.bool y],λk v hk=>?_,rfl⟩
  ·rw[nK,dG (by simpa using bT),aK,hr];rfl
  ·match k,hk with
   |0,hk=>simpa[hy]using hk
theorem YN{S:Nat->Prop}{w0 w:World}{R:Nat}{rs:List jC}{E H:List bN}(h:Wd S w0 (E++(rs.map (ir R)++H)) w){i:Nat}{r:jC}(hr:rs[i]?=some r)(hR:R<=1000)(hl:r.l.length=R):aM w (gJ R r) 1 r.l yL:=by
 have bT:i<rs.length:=(aC.1 hr).1;refine h.nC (k:=E.length+i) (a:=r.a) (n:=R) (c:=r.c) (e:=4) (s:=1) (xs:=r.l.map .bool) ?_ hl.symm ag λj y hy=>⟨[.bool y],λk v hk=>?_,rfl⟩
 ·rw[dg ag,show E.length+i-E.length=i by omega,dG (by simpa using bT),aK,hr];rfl
 ·match k,hk with
  |0,hk=>simpa[hy]using hk
abbrev qU(R:Nat)(wz:World):Type:={y:Int×en×(Option Addr×Nat×Nat)//uV R y.2.1/\y.2.1.args.length<=1000/\aM wz (.slice y.2.2.1 y.2.2.2.1 y.2.2.2.2) 2 y.2.1.args l9}
def zD(x:en)(v:Option Addr×Nat×Nat):List Value:=[.int .i64 x.op,.int .i64 x.dst,.bool x.a.bD,.int .i64 x.a.n,.bool x.b.bD,.int .i64 x.b.n,.int .i64 x.fn,.slice v.1 v.2.1 v.2.2]
def qU.enc{R:Nat}{wz:World}(y:qU R wz):Int×List Value:=(y.1.1,zD y.1.2.1 y.1.2.2)
theorem Dj{α β:Type}{p:Nat->α->β->Prop}:∀(l:List α),(∀i x,l[i]?=some x->∃y,p i x y)->∃ys:List β,ys.length=l.length/\∀i x,l[i]?=some x->∃y,ys[i]?=some y/\p i x y:=by
 intro l h
 classical
 refine⟨(List.range l.length).attach.map λi=>Classical.choose (h i.1 (l[i.1]'(by have:=i.2;simpa using this)) (aB _)),by simp,λi x hx=>?_⟩;have bT:=(aC.1 hx).1;have Ce:=(aC.1 hx).2;refine⟨_,by rw[aB (by simpa using bT)],?_⟩;simp only[List.getElem_map,List.getElem_attach,List.getElem_range];have:=Classical.choose_spec (h i (l[i]'bT) (aB _));simpa[Ce]using this
theorem TO{R:Nat}{wz:World}{b o:Nat}{l:List en}(cW:∀x∈l,uV R x)(tk:∀x∈l,x.args.length<=1000)(iK:∀i x,l[i]?=some x->∃cs,bG wz b (o+i*8) cs/\DK wz x cs):
  ∃(zs:List (List Value)) (xs:List (qU R wz)),zs.length=l.length/\(∀z∈zs,z.length=8)/\xs.map qU.enc=wG zs zs.length/\xs.map (·.1.2.1)=l.reverse/\∀m z,zs[m]?=some z->∀j v,z[j]?=some v->wz.cell? ⟨b,o+m*8+j,none⟩=some v:=by
 obtain⟨ys,Cw,Zs⟩:=Dj (p:=λi x (v:Option Addr×Nat×Nat)=>bG wz b (o+i*8) (zD x v)/\aM wz (.slice v.1 v.2.1 v.2.2) 2 x.args l9) l λi x hx=>by
  obtain⟨cs,hc,v,rfl,_,_,_,_,_,hs⟩:=iK i x hx;have Mh:=hs;obtain⟨va,vn,vc,_,_,rfl,_⟩:=hs;exact⟨(va,vn,vc),hc,Mh⟩
 have hex:∀k,k<=l.length->∃xs:List (qU R wz),xs.map qU.enc=wG ((List.range l.length).map λi=>zD (l[i]?.getD ⟨0,0,gK,gK,0,[]⟩) (ys[i]?.getD (none,0,0))) k/\xs.map (·.1.2.1)=l.reverse.take k:=by
  intro k
  induction k with
  |zero=>exact λ_=>⟨[],by simp[wG],by simp⟩
  |succ k ih=>
   intro hk;obtain⟨xs,h1,h2⟩:=ih ag;obtain⟨x,hx⟩:∃x,l[l.length-1-k]?=some x:=⟨_,aB ag⟩;obtain⟨v,hv,hc,hs⟩:=Zs _ x hx;refine⟨xs++[⟨(((l.length-1-k:Nat):Int),x,v),cW x (aA hx),tk x (aA hx),hs⟩],?_,?_⟩
   ·rw[bB,h1]
    simp only[wG,kA,bB,bO,dp,aG,fG];congr 1;have bT:l.length-1-k<l.length:=ag;simp only[qU.enc,aK,eQ bT,bz,dF,hx,hv]
   ·rw[bB,h2,cj,List.getElem?_reverse ag,hx];rfl
 obtain⟨xs,h1,h2⟩:=hex l.length (bH _);refine⟨(List.range l.length).map λi=>zD (l[i]?.getD ⟨0,0,gK,gK,0,[]⟩) (ys[i]?.getD (none,0,0)),xs,by simp,λz hz=>?_,by simpa using h1,by rw[h2,jw aH],λm z hz j v hj=>?_⟩
 ·obtain⟨i,_,rfl⟩:=aX.1 hz
  rfl
 ·rw[aK]at hz
  obtain⟨i,hi,rfl⟩:=cT.1 hz;have bT:m<l.length:=by have:=(aC.1 hi).1;simpa using this
  rw[eQ bT]at hi;simp only[bW]at hi;subst hi;obtain⟨x,hx⟩:∃x,l[m]?=some x:=⟨_,aB bT⟩;obtain⟨v',hv',hc,_⟩:=Zs m x hx;rw[hx,hv']at hj;exact hc j v hj
theorem DS{R:Nat}{own:Nat->Prop}{wz w:World}{Bs n c b o:Nat}{a:Option Addr}{zs:List (List Value)}{xs:List (qU R wz)}(hn:n=zs.length)(ha:zs≠[]->a=some ⟨b,o,none⟩)(hlen:zs.length<=100000)(h8:∀z∈zs,z.length=8)
  (j4:∀m z,zs[m]?=some z->∀j v,z[j]?=some v->wz.cell? ⟨b,o+m*8+j,none⟩=some v) (XP:∀p v,wz.cell? p=some v->¬own p.block) (Z9:¬own Bs) (TM:∀p v,wz.cell? p=some v->w.cell? p=some v) (hB:w.cell? ⟨Bs,0,none⟩=some (.slice a n c)) (mM:xs.map qU.enc=wG zs zs.length):
  SeqStopsK (FW none) 4 Tryz.prog 165 #[.pointer (some ⟨Bs,0,none⟩)] (λx:qU R wz=>#[.int .i64 (qU.enc x).1,.agg (qU.enc x).2.toArray]) (kZ own) (λys=>ys=xs) (λpre=>pre<+:xs) xs.length w:=by
 intro l J Jx W hW _ _ hY h0;have r8:xs.length=zs.length:=by have:=congrArg List.length mM;rwa[aG,wH]at this
 subst hn;have hcW:∀p v,w.cell? p=some v->W.cell? p=some v:=λp v hp=>(hW.cell (World.block_lt_of_cell? w _ hp)).trans hp;refine Fl 4 ag qU.enc l Bs b o c (λb=>¬own b) (kZ own) (kZ.refl own) (λ_ _ _ h k=>h.trans k) (λA B h p v hp hc=>h.cell hp hc) zs xs mM hlen (λeH=>?_) Z9 J Jx a (λeH=>ha eH) (λpre x W1 hJ hl=>hY pre x W1 hJ ag) W (hcW _ _ hB) h8 (λm z hz j v hj=>hcW _ _ (TM _ _ (j4 m z hz j v hj))) h0;obtain⟨z,hz⟩:∃z,zs[0]?=some z:=⟨_,aB (rR.2 eH)⟩;have hz8:=h8 z (aA hz);obtain⟨v,hv⟩:∃v,z[0]?=some v:=⟨_,aB ag⟩;exact XP _ v (j4 0 z hz 0 v hv)
end
section
open Go Go.RowKit
section
variable {P:Program} {N:Nat} {ds:List Deferred} {S:Nat->Prop} {w0:World} {L L':List (Nat×Value)} {H H' Hr:List bN} {Q:Exit->Act->World->Prop} {x y:Operand} {M:Act->World->Prop} {l:List Oper} {bE:Nat} {listed:Array Bool}
theorem OD{d ty f:Nat}(i:Nat){args:List Operand}{vs:List Value}{og:Array Nat}{pos:String}{aft:Array Go.Edge}(R:World->Value->World->Prop)[ho:dm l i ⟨some d,.call {callee:=.value (.func f),args:=args.toArray,argTypes:=og},ty,pos,aft,none⟩][h:aS P f][hx:zk L args vs](hd:dj d N L=true)
  (hr:decide (Region.ready .any l.toArray listed=[i])=true)
  (hc:∀w,Wd S w0 H w->gV P f vs w (R w))
  (k:∀v w w',Wd S w0 H w->R w v w'->Wd S w0 Hr w'/\∀a,Fr N ds ((d,v)::L) a->wpAnyH P .any l.toArray (dy M) (Wd S w0 Hr) bE (listed.setIfInBounds i true) a w'):G N ds S w0 L H (wpAnyH P .any l.toArray (dy M) (Wd S w0 Hr) (bE+1) listed):=by
 intro a w hS;refine wpAnyH_all (of_decide_eq_true hr) aH λi' yZ=>?_;simp only[bU]at yZ;subst yZ;unfold wpOp;rw[show l.toArray[i']?=some ⟨some d,.call {callee:=.value (.func f),args:=args.toArray,argTypes:=og},ty,pos,aft,none⟩ by simpa using ho.at'];simp only;rw[if_pos (show Region.wanted (⟨some d,.call {callee:=.value (.func f),args:=args.toArray,argTypes:=og},ty,pos,aft,none⟩:Oper) (yielded l.toArray a.tmps)=true from rfl)]
 left
 unfold Oper.wp;have pF:(execOp a.eval ⟨some d,.call {callee:=.value (.func f),args:=args.toArray,argTypes:=og},ty,pos,aft,none⟩).run P w=.ok (.enter f vs.toArray) w:=by
  simp[execOp,resolve,Act.eval,Deferred.ofValue,invoke,hx.eq _ _ _ hS.fr,h.run]
 rw[pF];refine Calls.mono (callsIn_wide.1 (hc w hS.wd)) λe w' ⟨v,he,hR⟩=>?_;subst he;obtain⟨h1,h2⟩:=k v w w' hS.wd hR;exact⟨h1,h2 _ (hS.fr.dP hd v)⟩
theorem zQ{α:Type}{val:α->Value}{E:α->List bN}{φ:α->Prop}{d ty f:Nat}(i:Nat){args:List Operand}{vs:List Value}{og:Array Nat}{pos:String}{aft:Array Go.Edge}[ho:dm l i ⟨some d,.call {callee:=.value (.func f),args:=args.toArray,argTypes:=og},ty,pos,aft,none⟩][h:aS P f][hx:zk L args vs](hd:dj d N L=true)
  (hr:decide (Region.ready .any l.toArray listed=[i])=true) (hH:Hr.Sublist H)
  (hc:∀w,Wd S w0 H w->gV P f vs w λu w'=>∃x,u=val x/\Wd dh w (E x) w'/\φ x)
  (k:∀x,φ x->G N ds S w0 ((d,val x)::L) (E x++H) (wpAnyH P .any l.toArray (dy M) (Wd S w0 Hr) bE (listed.setIfInBounds i true))):G N ds S w0 L H (wpAnyH P .any l.toArray (dy M) (Wd S w0 Hr) (bE+1) listed):=
 OD i (λ_ u w'=>∃x,u=val x/\Wd S w0 (E x++H) w'/\φ x) hd hr (λw hw=>(hc w hw).mono λv w' ⟨x,h1,h2,h3⟩=>⟨x,h1,hw.more h2,h3⟩) λv w w' hw hR=>by
  obtain⟨x,rfl,h2,h3⟩:=hR;exact⟨h2.sub (hH.trans (qV _ _)),λa hF=>k x h3 a w' ⟨hF,h2⟩⟩
theorem mu{α:Type}{val:α->Value}{E:α->List bN}{φ:α->Prop}{H1 H2:List bN}{d ty f:Nat}(i:Nat){args:List Operand}{vs:List Value}{og:Array Nat}{pos:String}{aft:Array Go.Edge}[ho:dm l i ⟨some d,.call {callee:=.value (.func f),args:=args.toArray,argTypes:=og},ty,pos,aft,none⟩][h:aS P f][hx:zk L args vs](hd:dj d N L=true)
  (hr:decide (Region.ready .any l.toArray listed=[i])=true) (hH:Hr.Sublist H2)
  (hc:∀w,Wd S w0 (H1++H2) w->gV P f vs w λu w'=>∃x,u=val x/\Wd (cF H1) w (E x) w'/\φ x)
  (k:∀x,φ x->G N ds S w0 ((d,val x)::L) (E x++H2) (wpAnyH P .any l.toArray (dy M) (Wd S w0 Hr) bE (listed.setIfInBounds i true))):G N ds S w0 L (H1++H2) (wpAnyH P .any l.toArray (dy M) (Wd S w0 Hr) (bE+1) listed):=
 OD i (λ_ u w'=>∃x,u=val x/\Wd S w0 (E x++H2) w'/\φ x) hd hr (λw hw=>(hc w hw).mono λv w' ⟨x,h1,h2,h3⟩=>⟨x,h1,hw.comp h2,h3⟩) λv w w' hw hR=>by
  obtain⟨x,rfl,h2,h3⟩:=hR;exact⟨h2.sub (hH.trans (qV _ _)),λa hF=>k x h3 a w' ⟨hF,h2⟩⟩
theorem OE{o:Oper}(i:Nat)[ho:dm l i o](hg:o.guard=none)(hr:decide (Region.ready .any l.toArray listed=[i])=true)
  (k:∀a w,St N ds S w0 L H a w->∃w',(execOp a.eval o).run P w=.ok .skip w'/\Wd S w0 Hr w'/\wpAnyH P .any l.toArray (dy M) (Wd S w0 Hr) bE (listed.setIfInBounds i true) (a.put o.dst undef) w'):G N ds S w0 L H (wpAnyH P .any l.toArray (dy M) (Wd S w0 Hr) (bE+1) listed):=by
 intro a w hS;obtain⟨w',h1,h2,h3⟩:=k a w hS;refine wpAnyH_all (of_decide_eq_true hr) aH λi' yZ=>?_;simp only[bU]at yZ;subst yZ;unfold wpOp;rw[show l.toArray[i']?=some o by simpa using ho.at'];simp only;rw[if_pos (show Region.wanted o (yielded l.toArray a.tmps)=true by simp[Region.wanted,hg])]
 left
 unfold Oper.wp;rw[h1];exact⟨h2,h3⟩
theorem F5{o:Oper}(i:Nat)[ho:dm l i o](hg:o.guard=none)(hr:decide (Region.ready .any l.toArray listed=[i])=true)
  (k:∀a w,St N ds S w0 L H a w->∃v w',(execOp a.eval o).run P w=.ok (.value v) w'/\Wd S w0 Hr w'/\wpAnyH P .any l.toArray (dy M) (Wd S w0 Hr) bE (listed.setIfInBounds i true) (a.put o.dst v) w'):G N ds S w0 L H (wpAnyH P .any l.toArray (dy M) (Wd S w0 Hr) (bE+1) listed):=by
 intro a w hS;obtain⟨v,w',h1,h2,h3⟩:=k a w hS;refine wpAnyH_all (of_decide_eq_true hr) aH λi' yZ=>?_;simp only[bU]at yZ;subst yZ;unfold wpOp;rw[show l.toArray[i']?=some o by simpa using ho.at'];simp only;rw[if_pos (show Region.wanted o (yielded l.toArray a.tmps)=true by simp[Region.wanted,hg])]
 left
 unfold Oper.wp;rw[h1];exact⟨h2,h3⟩
theorem cH{ty T b o j t n:Nat}(i:Nat)[h:d_ P T n]{cs vs rV:List Value}{pos:String}{aft:Array Go.Edge}[ho:dm l i ⟨none,.store T x y,ty,pos,aft,none⟩]
  [hx:Ev L x (.pointer (some ⟨b,o,none⟩))] [hy:Ev L y (.agg vs.toArray)] [hb:l7 H b j cs t] [hn:kx vs n] [hp:yM cs o vs rV] [h1:sU vs] [hH:qi H j (aj b rV t) H']
  (hr:decide (Region.ready .any l.toArray listed=[i])=true) (LP:Hr.Sublist H')
  (kk:G N ds S w0 L H' (wpAnyH P .any l.toArray (dy M) (Wd S w0 Hr) bE (listed.setIfInBounds i true))):G N ds S w0 L H (wpAnyH P .any l.toArray (dy M) (Wd S w0 Hr) (bE+1) listed):=by
 refine OE i rfl hr λa w hS=>?_;have IB:=hS.wd.Ah j hb.at';have hs:=run_storeCells_at P b o t vs 0 cs.toArray w IB (by simpa using hp.le) h1.all;have e:(cs.toArray.toList.take (o+0)++vs++cs.toArray.toList.drop (o+0+vs.length)).toArray=rV.toArray:=by
  rw[<-hp.eq,<-xe cs o vs hp.le];simp
 rw[e]at hs;have dO:=hS.wd.Rg j rV hb.at';rw[hH.zG]at dO;exact⟨w.setRow b rV.toArray,by simp[execOp,hx.eq _ _ _ hS.fr,hy.eq _ _ _ hS.fr,Instr.storeAt,Instr.sureAddr,storeVar,h.sz,Value.cells,hn.eq,hs],dO.sub LP,kk _ _ ⟨hS.fr,dO⟩⟩
theorem eF(hr:(Region.ready .any l.toArray listed).isEmpty=true)(k:G N ds S w0 L H M):G N ds S w0 L H (wpAnyH P .any l.toArray (dy M) (Wd S w0 Hr) bE listed):=λa w hS=>wpAnyH_done (List.isEmpty_iff.1 hr) (k a w hS) _
end
end
section
open Go Go.RowKit
attribute [local irreducible] wpListIn Code.wpIn Exit.then Exit.inBlock bodyPost wpQuiet wpAnyIn bodyPostM
set_option maxHeartbeats 8000000
def qz(rs:List jC):Nat:=(rs.map λr=>gu r.l).sum
theorem GU{rs:List jC}{b:Nat}{r r':jC}(h:rs[b]?=some r):qz (rs.set b r')+gu r.l=qz rs+gu r'.l:=by
 unfold qz
 induction rs generalizing b with
 |nil=>simp at h
 |cons x rs ih=>
  cases b with
  |zero=>
   simp only[jJ,bW]at h;subst h;simp only[bS,bO,et];omega
  |succ b=>
   have:=ih (by simpa using h);simp only[cn,bO,et]at this⊢;omega
theorem zh:∀{l m:List Bool},l.length=m.length->(∀r,has l r->has m r)->l≠m->gu m<gu l
 |[],[],_,_,h=>absurd rfl h
 |[],_::_,h,_,_=>by simp at h
 |_::_,[],h,_,_=>by simp at h
 |x::l,y::m,h,hs,eH=>by
  have hl:l.length=m.length:=by simpa using h
  have ht:∀r,has l r->has m r:=λr hr=>by have:=hs (r+1);simpa[has]using this (by simpa[has]using hr)
  have h0:=hs 0;simp only[has,jJ,bW]at h0
  by_cases e:l=m
  ·subst e
   cases x<;>cases y<;>simp_all [gu]
  ·have:=zh hl ht e
   cases x<;>cases y<;>simp_all [gu]<;>omega
structure Ab(R:Nat)(bl:List ar)(rs:List jC):Prop where
 len:rs.length=bl.length
 row:∀r∈rs,r.l.length=R
 pre:∀b r,n_ (rs.map (·.l)) b r->Head bl (n_ (rs.map (·.l))) b r
 sound:∀b r,n_ (rs.map (·.l)) b r->gM bl r b (-1)
theorem A_{rs:List jC}{b r:Nat}{q:jC}(h:rs[b]?=some q):n_ (rs.map (·.l)) b r↔has q.l r:=by
 unfold n_;rw[aK,h];simp
theorem Ba{rs:List jC}{b t r:Nat}{q:jC}(hb:b<rs.length):n_ ((rs.set b q).map (·.l)) t r↔(if t=b then has q.l r else n_ (rs.map (·.l)) t r):=by
 unfold n_;rw[aK,dQ]
 by_cases e:b=t
 ·subst e
  rw[if_pos rfl,if_pos hb,if_pos rfl];simp
 ·rw[if_neg e,if_neg (Ne.symm e),aK]
theorem Ab.upd{R:Nat}{bl:List ar}{rs:List jC}{b:Nat}{q:jC}(h:Ab R bl rs)(hb:b<rs.length)(hq:q.l.length=R)(hh:∀r,has q.l r↔Head bl (n_ (rs.map (·.l))) b r):Ab R bl (rs.set b q):=by
 have up:∀t r,n_ (rs.map (·.l)) t r->n_ ((rs.set b q).map (·.l)) t r:=λt r hr=>by
  rw[Ba hb]
  by_cases e:t=b
  ·subst e
   rw[if_pos rfl,hh r];exact h.pre t r hr
  ·rw[if_neg e];exact hr
 refine⟨by rw[eA];exact h.len,λr hr=>?_,λt r hr=>?_,λt r hr=>?_⟩
 ·rcases jM hr with hr|rfl
  ·exact h.row r hr
  ·exact hq
 ·rw[Ba hb]at hr
  by_cases e:t=b
  ·subst e
   rw[if_pos rfl,hh r]at hr;exact hr.mono up
  ·rw[if_neg e]at hr
   exact(h.pre t r hr).mono up
 ·rw[Ba hb]at hr
  by_cases e:t=b
  ·subst e
   rw[if_pos rfl,hh r]at hr;exact L4 h.sound hr
  ·rw[if_neg e]at hr
   exact h.sound t r hr
structure Sf(R:Nat)(bl:List ar)(ins outs:List jC):Prop where
 abX:ins.length=bl.length
 YI:outs.length=bl.length
 VT:∀r∈ins,r.l.length=R
 aeJ:∀r∈outs,r.l.length=R
 aeG:∀b q r,ins[b]?=some q->(has q.l r↔gM bl r b (-1))
 ae7:∀b q r B,outs[b]?=some q->bl[b]?=some B->(has q.l r↔gM bl r b (B.list.length+1))
theorem Sr{R:Nat}{bl:List ar}{ins outs:List jC}(h:Ab R bl ins)(ho:outs.length=bl.length)(XM:∀r∈outs,r.l.length=R)(hc:∀b,b<bl.length->∀r,Head bl (n_ (ins.map (·.l))) b r->n_ (ins.map (·.l)) b r)(hb:∀b q r,outs[b]?=some q->(has q.l r↔Fc bl (n_ (ins.map (·.l))) b r)):Sf R bl ins outs:=by
 have fv:∀r b,Head bl (n_ (ins.map (·.l))) b r->n_ (ins.map (·.l)) b r:=λr b hh=>by
  obtain⟨B,hB,_⟩:=id hh;exact hc b (aC.1 hB).1 r hh
 refine⟨h.len,ho,h.row,XM,λb q r hq=>?_,λb q r B hq hB=>?_⟩
 ·rw[<-A_ hq]
  refine⟨h.sound b r,λhl=>?_⟩;obtain⟨B,hB⟩:∃B,bl[b]?=some B:=⟨_,aB (by have:=(aC.1 hq).1;rw[<-h.len];exact this)⟩;exact(y9 (λb=>fv r b) hl B hB).1 rfl
 ·rw[hb b q r hq]
  refine⟨λhh=>Fq h.sound hB (.inr rfl) hh,λhl=>?_⟩;exact(y9 (λb=>fv r b) hl B hB).2.2 rfl
theorem nu{N:Nat}{ds:List Deferred}{S:Nat->Prop}{w0:World}{L:List (Nat×Value)}{H H':List bN}{p:Act->World->Prop}(h:∀w,Wd S w0 H w->Wd S w0 H' w)(k:G N ds S w0 L H' p):G N ds S w0 L H p:=λa w hS=>k a w ⟨hS.fr,h w hS.wd⟩
theorem QV{α:Type}(m r:α)(X O M:List α):(m::r::(X++(O++M))).Perm (X++((O++[r])++(m::M))):=by
 have h1:X++((O++[r])++(m::M))=(X++O)++r::(m::M):=by simp[dE]
 rw[h1,<-dE];exact(List.Perm.swap _ _ _).trans (((lm (l₁:=X++O) (a:=m) (l₂:=M)).symm.cons r).trans (lm (l₁:=X++O) (a:=r) (l₂:=m::M)).symm)
theorem YW{S:Nat->Prop}{w0 w:World}{e RM:bN}{X I Y:List bN}{b:Nat}(h:Wd S w0 (e::(X++(I++Y))) w)(hb:I[b]?=some RM):Wd S w0 (X++(I.set b e++Y)) w:=by
 have h1:Wd S w0 (e::(X++(I.eraseIdx b++Y))) w:=h.sub (dn (Ag (List.Sublist.append_right (List.eraseIdx_sublist I b) Y) X));refine h1.perm ((lm (l₁:=X) (a:=e) (l₂:=I.eraseIdx b++Y)).symm.trans ?_);exact List.Perm.append_left X (List.Perm.append_right Y (Bw hb e))
theorem Sq(nm pa:Value)(R:Nat)(hR:R<=100)(bl:List ar)(bs:Value)(w0:World)(mU:aM w0 bs 6 bl ed)(hlen:bl.length<=100)(hf:eX R bl)(tk:∀B∈bl,∀x∈B.list,x.args.length<=1000)(mX:∀B∈bl,B.list.length<=1000/\B.aL.length<=1000):
  gV Tryz.prog 99 [.agg #[nm,pa,.int .i64 R,bs]] w0 λu w'=>∃x:(Option Addr×Nat×List jC)×(Option Addr×Nat×List jC),u=.tuple #[.slice x.1.1 bl.length x.1.2.1,.slice x.2.1 bl.length x.2.2.1]/\
   Wd dh w0 (ai x.1.1 bl.length x.1.2.1 145 1 (x.1.2.2.map (gJ R))::ai x.2.1 bl.length x.2.2.1 145 1 (x.2.2.2.map (gJ R))::(x.1.2.2.map (ir R)++x.2.2.2.map (ir R))) w'/\Sf R bl x.1.2.2 x.2.2.2:=by
 have IA:=mU;have cW:=hf.iM;obtain⟨ba,n,bc,bb,xH,rfl,hn,pE,E3,LY,xS,iK⟩:=mU;rw[<-hn]at hlen⊢;refine vW Tryz.func99 rfl Tryz.ntmps99 rfl (Wd.nil dh w0) ?_
 repeat(first|refine aU ?_|refine dX λ_ _=>?_)
 rename_i p1 _;refine cV (val:=λx:(Option Addr×Nat×Nat)×(Nat->Prop)=>.slice x.1.1 x.1.2.1 x.1.2.2) (E:=λx=>[⟨x.2,λw=>aM w (.slice x.1.1 x.1.2.1 x.1.2.2) 1 (bm bl) cS⟩]) (φ:=λ_=>True) rfl (λw hw=>fO _ _ _ bl _ w (IA.cu fh hw.cE) ag cW) λx _=>?_;obtain⟨⟨aa,an,ac⟩,fp⟩:=x;simp only[a6,aT];refine aO ?_;refine fq 145 1 ?_;refine bP (λ(x:Option Addr×Nat×List jC)=>x.2.2.length<=n/\∀r∈x.2.2,r.l=List.replicate R false) (λx=>[(17,.int .i64 x.2.2.length),(16,.int .i64 n),(2,.slice x.1 x.2.2.length x.2.1),(3,.slice none 0 0),(4,.slice aa an ac),(1,.pointer (some ⟨p1,0,none⟩))])
  (λx=>⟨fp,λw=>aM w (.slice aa an ac) 1 (bm bl) cS⟩::aj p1 [nm,pa,.int .i64 R,.slice ba n bc] 35::ai x.1 x.2.2.length x.2.1 145 1 (x.2.2.map (gJ R))::x.2.2.map (ir R)) (λx=>n-x.2.2.length) (none,0,[]) ⟨aY _,by simp⟩ ?_ λx ⟨hi,cP⟩=>?_
 ·refine q7 [1,2,0] (by decide) ?_
  exact aV aw ag2
 obtain⟨ia,ic,ins⟩:=x;simp only at hi cP⊢;refine aU ?_;refine aN (λh1=>?_) (λh1=>?_)
 ·have bT:ins.length<n:=by simpa using h1
  repeat(first|refine aO ?_|refine dX λ_ _=>?_)
  rename_i pr _ bt _;refine mq rfl rfl ag ag λa' c'=>?_;rw[show List.replicate R (Value.bool false)=(List.replicate R false).map Value.bool by simp];refine jp (L':=[(24,.slice a' (ins.length+1) c'),(17,.int .i64 ins.length),(16,.int .i64 n),(3,.slice none 0 0),(4,.slice aa an ac),(1,.pointer (some ⟨p1,0,none⟩))]) aw (.cons _ (.refl _)) ?_;refine bj (List.perm_append_singleton _ _).symm ?_;refine fg (H1:=⟨fp,λw=>aM w (.slice aa an ac) 1 (bm bl) cS⟩::aj p1 [nm,pa,.int .i64 R,.slice ba n bc] 35::ai a' (ins++[(⟨some ⟨pr,0,none⟩,R,List.replicate R false⟩:jC)]).length c' 145 1 ((ins++[(⟨some ⟨pr,0,none⟩,R,List.replicate R false⟩:jC)]).map (gJ R))::(ins++[(⟨some ⟨pr,0,none⟩,R,List.replicate R false⟩:jC)]).map (ir R)) (by simp[gJ,ir,iF]) ?_;refine aO ?_;refine bC (a',c',ins++[(⟨some ⟨pr,0,none⟩,R,List.replicate R false⟩:jC)]) ⟨by simp;omega,λr hr=>?_⟩ (by simp;omega) ?_ ag2
  ·rcases bL.1 hr with hr|hr
   ·exact cP r hr
   ·simp only[bU]at hr;subst hr;rfl
  ·simp only[bR,jL,Int.natCast_add]
   exact aw
 have gT:ins.length=n:=by have:=h1;simp at this;omega
 have hL0:Ab R bl ins:=by
  have qu:∀b r,¬n_ (ins.map (·.l)) b r:=λb r ⟨s,hs,h⟩=>by
   rw[aK]at hs;obtain⟨q,hq,rfl⟩:=cT.1 hs;rw[cP q (aA hq)]at h;unfold has at h;rw[h_]at h
   split at h<;>simp at h
  exact⟨ag,λr hr=>by rw[cP r hr];simp,λb r h=>absurd h (qu b r),λb r h=>absurd h (qu b r)⟩
 rw[gT];refine aI ?_;refine fq 145 1 ?_;clear cP;refine J2 (λx:Bool×List jC×(Option Addr×Nat×List jC)×List Nat=>SA x.2.2.2) (λx=>Ab R bl x.2.1/\(x.1=false->Sf R bl x.2.1 x.2.2.1.2.2)) (λx=>[(5,.bool x.1),(2,.slice ia n ic),(3,.slice x.2.2.1.1 x.2.2.1.2.2.length x.2.2.1.2.1),(4,.slice aa an ac),(1,.pointer (some ⟨p1,0,none⟩))])
  (λx=>⟨fp,λw=>aM w (.slice aa an ac) 1 (bm bl) cS⟩::aj p1 [nm,pa,.int .i64 R,.slice ba n bc] 35::ai ia n ic 145 1 (x.2.1.map (gJ R))::ai x.2.2.1.1 x.2.2.1.2.2.length x.2.2.1.2.1 145 1 (x.2.2.1.2.2.map (gJ R))::(x.2.1.map (ir R)++(x.2.2.1.2.2.map (ir R)++marks x.2.2.2))) (λx=>qz x.2.1*2+(if x.1 then 1 else 0)) (true,ins,(none,0,[]),[]) rfl ⟨hL0,by simp⟩ ?_ λx ⟨hL,hA⟩=>?_
 ·refine bj (H1:=⟨fp,λw=>aM w (.slice aa an ac) 1 (bm bl) cS⟩::aj p1 [nm,pa,.int .i64 R,.slice ba n bc] 35::ai ia n ic 145 1 (ins.map (gJ R))::ai none 0 0 145 1 []::ins.map (ir R)) ?_ ?_
  ·exact(lm (l₁:=[⟨fp,λw=>aM w (.slice aa an ac) 1 (bm bl) cS⟩,aj p1 [nm,pa,.int .i64 R,.slice ba n bc] 35,ai ia n ic 145 1 (ins.map (gJ R))]) (a:=ai none 0 0 145 1 []) (l₂:=ins.map (ir R))).symm
  ·exact aV aw (by simp[marks])
 clear hL0 gT hi h1;obtain⟨more,ins,⟨oa,oc,outs⟩,Ds⟩:=x;simp only at hL hA⊢;cases more
 case false=>
  have hA:=hA rfl;have Gp:outs.length=n:=by rw[hA.YI,hn]
  refine aI ?_;refine fg (H1:=(⟨fp,λw=>aM w (.slice aa an ac) 1 (bm bl) cS⟩::aj p1 [nm,pa,.int .i64 R,.slice ba n bc] 35::ai ia n ic 145 1 (ins.map (gJ R))::ai oa outs.length oc 145 1 (outs.map (gJ R))::(ins.map (ir R)++outs.map (ir R)))++marks Ds) (by simp[dE]) ?_;refine bj dH ?_;refine Oq rfl λw hw=>⟨((ia,ic,ins),(oa,oc,outs)),?_,?_,hA⟩
  ·rw[Gp]
  ·rw[Gp]at hw
   exact hw.sub (.cons _ (.cons _ (.refl _)))
 clear hA;refine aO ?_;refine fq 145 1 ?_;refine J2 (λx:Bool×List jC×(Option Addr×Nat×List jC)×List Nat=>SA x.2.2.2) (λx=>x.2.2.1.2.2.length<=n/\Ab R bl x.2.1/\(∀r∈x.2.2.1.2.2,r.l.length=R)/\(x.1=false->x.2.1=ins/\(∀b,b<x.2.2.1.2.2.length->∀r,Head bl (n_ (ins.map (·.l))) b r->n_ (ins.map (·.l)) b r)/\∀b q r,x.2.2.1.2.2[b]?=some q->(has q.l r↔Fc bl (n_ (ins.map (·.l))) b r))/\(x.1=true->qz x.2.1<qz ins))
  (λx=>[(30,.int .i64 x.2.2.1.2.2.length),(29,.int .i64 n),(5,.bool x.1),(2,.slice ia n ic),(3,.slice x.2.2.1.1 x.2.2.1.2.2.length x.2.2.1.2.1),(4,.slice aa an ac),(1,.pointer (some ⟨p1,0,none⟩))])
  (λx=>⟨fp,λw=>aM w (.slice aa an ac) 1 (bm bl) cS⟩::aj p1 [nm,pa,.int .i64 R,.slice ba n bc] 35::ai ia n ic 145 1 (x.2.1.map (gJ R))::ai x.2.2.1.1 x.2.2.1.2.2.length x.2.2.1.2.1 145 1 (x.2.2.1.2.2.map (gJ R))::(x.2.1.map (ir R)++(x.2.2.1.2.2.map (ir R)++marks x.2.2.2))) (λx=>n-x.2.2.1.2.2.length) (false,ins,(none,0,[]),Ds) rfl ⟨aY _,hL,by simp,λ_=>⟨rfl,by simp,by simp⟩,by simp⟩ ?_ λx ⟨xA,RX,XM,qu,Mj⟩=>?_
 ·refine bj (H1:=⟨fp,λw=>aM w (.slice aa an ac) 1 (bm bl) cS⟩::aj p1 [nm,pa,.int .i64 R,.slice ba n bc] 35::ai ia n ic 145 1 (ins.map (gJ R))::ai none 0 0 145 1 []::ai oa outs.length oc 145 1 (outs.map (gJ R))::(ins.map (ir R)++(outs.map (ir R)++marks Ds))) ?_ ?_
  ·exact(lm (l₁:=[⟨fp,λw=>aM w (.slice aa an ac) 1 (bm bl) cS⟩,aj p1 [nm,pa,.int .i64 R,.slice ba n bc] 35,ai ia n ic 145 1 (ins.map (gJ R))]) (a:=ai none 0 0 145 1 [])).symm
  ·refine aV aw ?_
   exact List.Sublist.cons_cons _ (dn (dn (dn (.cons _ (Ag (qV _ _) _)))))
 obtain⟨vj,lh,⟨oa,oc,fP⟩,Ds⟩:=x;simp only at xA RX XM qu Mj⊢;refine aU ?_;refine aN (λh2=>?_) (λh2=>?_)
 case refine_2=>
  have L6:fP.length=n:=by have:=h2;simp at this;omega
  refine aI ?_;refine Ea (vj,lh,(oa,oc,fP),Ds) rfl ⟨RX,λe=>?_⟩ ?_ aw ag2
  ·obtain⟨e1,e2,e3⟩:=qu e
   subst e1;refine Sr RX ?_ XM (λb hb r h=>e2 b ag r h) e3;show fP.length=bl.length;omega
  ·cases vj
   ·obtain⟨e1,_⟩:=qu rfl
    subst e1;simp
   ·have:=Mj rfl
    simp;omega
 have pC:fP.length<n:=by simpa using h2
 generalize J9:fP.length=b at pC h2;refine aO ?_;obtain⟨B,hB⟩:=dJ hn pC;have hBL:b<bl.length:=ag;have pY:bY ba bb xH:=⟨xS (aW hB)⟩;have mW:bZ b n:=⟨pC⟩;obtain⟨cs,fZ,pv',lv,tv,rfl,_,_,oE,Tn,ht⟩:=iK b B hB;obtain⟨xa,xn,xc,xb,xo,rfl,Ym,Yo,Yn,hxc,Kv,PO⟩:=oE;obtain⟨la,ln,lc,lb,lo,rfl,Ma,adL,Pg,hlc,Tk,Pd⟩:=Tn;obtain⟨ta,tn,tc,_,_,rfl,_⟩:=ht;have oQ:a_ w0 bb (xH+b*6) _:=⟨fZ⟩;have Z9:=hf.block b B hB;have iQ:lh.length=n:=by rw[RX.len,hn]
 obtain⟨q0,NC⟩:∃q0,lh[b]?=some q0:=⟨_,aB ag⟩;refine cV (val:=λx:Nat×List Bool=>.slice (some ⟨x.1,0,none⟩) R R) (E:=λx=>[iF (some ⟨x.1,0,none⟩) R R x.2]) (φ:=λx=>x.2.length=R/\∀r,has x.2 r↔Fc bl (n_ (lh.map (·.l))) b r) rfl
  (λw hw=>HR nm pa R hR bl _ b (lh.map (·.l)) aa ia an ac ic w (IA.cu fh hw.cE) n hn hf hBL (by rw[aG,iQ,hn]) (λs hs=>by obtain⟨q,hq,rfl⟩:=aX.1 hs;exact RX.row q hq) (hw.get (k:=0) rfl) (KX (e:=145) (H:=fP.map (ir R)++marks Ds) (hw.sub (.cons _ (.cons _ (dn (.cons _ (.refl _)))))) iQ.symm ag ag RX.row)) λx hx=>?_
 obtain⟨po,s0⟩:=x;simp only[a6,aT]at hx⊢;unfold iF
 repeat(first|refine dX λ_ _=>?_)
 rename_i bt _;refine mq rfl rfl ag ag λoa' Dr=>?_;refine aO ?_;refine eW 5 rfl ag λob oo hoa=>?_;subst hoa;refine eW 4 rfl ag λib io R1=>?_;subst R1;have PP:NX (fP.map (gJ R)++[.slice (some ⟨po,0,none⟩) R R]) (b*1) (.slice (some ⟨po,0,none⟩) R R):=⟨by rw[fB,dg (by simp;omega)];simp[J9]⟩;have afX:bZ b (b+1):=⟨ag⟩;refine aU ?_;refine cV (val:=λx:Option Addr×Nat=>.slice x.1 R x.2) (E:=λx=>[iF x.1 R x.2 s0]) (φ:=λ_=>True) rfl (λw hw=>N8 _ R R s0 ag w (Ft hw (k:=1) rfl hx.1.symm ag)) λx _=>?_;obtain⟨ca,cc⟩:=x;simp only[a6,aT]
 repeat(first|refine aI ?_|refine dX λ_ _=>?_)
 rename_i p7 _;refine wM [(7,.pointer (some ⟨p7,0,none⟩)),(6,.int .i64 b),(30,.int .i64 b),(29,.int .i64 n),(5,.bool vj),(2,.slice (some ⟨ib,io,none⟩) n ic),(3,.slice (some ⟨ob,oo,none⟩) (b+1) Dr),(4,.slice aa an ac),(1,.pointer (some ⟨p1,0,none⟩))] (iF ca R cc (kM s0 B.on)::aj p7 [.slice ca R cc] 145::ai (some ⟨bt,0,none⟩) 1 1 145 1 [.slice (some ⟨po,0,none⟩) R R]::ai (some ⟨po,0,none⟩) R R 4 1 (s0.map .bool)::⟨fp,λw=>aM w (.slice aa an ac) 1 (bm bl) cS⟩::aj p1 [nm,pa,.int .i64 R,.slice ba n bc] 35::(ai (some ⟨ib,io,none⟩) n ic 145 1 (lh.map (gJ R))::ai (some ⟨ob,oo,none⟩) (b+1) Dr 145 1 (fP.map (gJ R)++[.slice (some ⟨po,0,none⟩) R R])::(lh.map (ir R)++(fP.map (ir R)++marks Ds)))) mixed ?_ ?_
 ·repeat' (first|refine fA 1 rfl aq ?_|refine fA 3 rfl aq ?_|refine fA 4 rfl aq ?_|refine fA 5 rfl aq ?_|refine fA 6 rfl aq ?_|refine AB aq ?_|refine any_nil|refine pt aq ?_|refine any_cons ?_ ?_|refine ms rfl ?_|refine k9 ?_|refine oD ?_)
  all_goals
   refine bj (List.Perm.swap _ _ _) ?_;refine fg (H1:=[iF ca R cc s0]++(aj p7 [.slice ca R cc] 145::ai (some ⟨bt,0,none⟩) 1 1 145 1 [.slice (some ⟨po,0,none⟩) R R]::ai (some ⟨po,0,none⟩) R R 4 1 (s0.map .bool)::⟨fp,λw=>aM w (.slice aa an ac) 1 (bm bl) cS⟩::aj p1 [nm,pa,.int .i64 R,.slice ba n bc] 35::(ai (some ⟨ib,io,none⟩) n ic 145 1 (lh.map (gJ R))::ai (some ⟨ob,oo,none⟩) (b+1) Dr 145 1 (fP.map (gJ R)++[.slice (some ⟨po,0,none⟩) R R])::(lh.map (ir R)++(fP.map (ir R)++marks Ds))))) rfl ?_;refine fH (val:=λ_:Unit=>.tuple #[]) (E:=λ_=>[iF ca R cc (kM s0 B.on)]) (φ:=λ_=>True) rfl (λw hw=>JG ca R cc s0 hx.1 B.on Z9.on w hw.pre) λ_ _=>?_;simp only[a6,aT]
   repeat' (first|refine AC aq ?_|refine k9 ?_|refine oD ?_)
   exact aV aw ag2
 generalize Gu:kM s0 B.on=s1;have Tz:s1.length=R:=by rw[<-Gu,mF];exact hx.1
 refine aU ?_;refine cV (val:=λp:Nat×Nat=>.func (.func 165) #[] #[.pointer (some ⟨p.1,0,none⟩)]) (E:=λp=>[aj p.1 [.slice la ln lc] p.2]) (φ:=λ_=>True) rfl (λw hw=>Fo _ ⟨_,_,_,rfl⟩ w) λBp _=>?_;obtain⟨Bs,Bt⟩:=Bp;simp only[a6,aT];refine aO ?_;obtain⟨zs,xs,IS,h8,mM,oZ,hzc⟩:=TO (R:=R) (wz:=w0) Z9.list (tk B (aA hB)) Pd;have aaM:∀s,xs.foldl (λs y=>uQ s y.1.2.1) s=B.list.reverse.foldl uQ s:=λs=>by rw[<-oZ,List.foldl_map]
 refine jp (L':=[(61,.func (.func 165) #[] #[.pointer (some ⟨Bs,0,none⟩)]),(7,.pointer (some ⟨p7,0,none⟩)),(6,.int .i64 b),(30,.int .i64 b),(29,.int .i64 n),(5,.bool vj),(2,.slice (some ⟨ib,io,none⟩) n ic),(3,.slice (some ⟨ob,oo,none⟩) (b+1) Dr),(4,.slice aa an ac),(1,.pointer (some ⟨p1,0,none⟩))]) aw (.refl _) ?_;refine bj (List.Perm.swap _ _ _) ?_;refine Oo (α:=qU R w0) (gf:=165) (lb:=[.pointer (some ⟨Bs,0,none⟩)]) (aj Bs [.slice la ln lc] Bt::aj p7 [.slice ca R cc] 145::ai (some ⟨bt,0,none⟩) 1 1 145 1 [.slice (some ⟨po,0,none⟩) R R]::ai (some ⟨po,0,none⟩) R R 4 1 (s0.map .bool)::⟨fp,λw=>aM w (.slice aa an ac) 1 (bm bl) cS⟩::aj p1 [nm,pa,.int .i64 R,.slice ba n bc] 35::(ai (some ⟨ib,io,none⟩) n ic 145 1 (lh.map (gJ R))::ai (some ⟨ob,oo,none⟩) (b+1) Dr 145 1 (fP.map (gJ R)++[.slice (some ⟨po,0,none⟩) R R])::(lh.map (ir R)++(fP.map (ir R)++marks Ds)))) (λs:List Bool=>[iF ca R cc s]) s1 (λs=>⟨by intro e he;simp only[bU]at he;subst he;unfold iF;infer_instance⟩) (λs s' b ⟨e,he,hb⟩=>⟨iF ca R cc s',by simp,by simp only[bU]at he;subst he;exact hb⟩) xs
  (encs:=λy=>#[.int .i64 (qU.enc y).1,.agg (qU.enc y).2.toArray]) (Bs:=Bs) (bcs:=[.slice la ln lc]) (bt:=Bt) (rS ..)
  (λw1 mz=>?_) (λpre s=>s=pre.foldl (λs y=>uQ s y.1.2.1) s1) rfl (.refl _) (λ_=>rfl) (λy=>zD y.1.2.1 y.1.2.2) 56
  (λy=>[(63,.agg (zD y.1.2.1 y.1.2.2).toArray),(62,.int .i64 y.1.1),(7,.pointer (some ⟨p7,0,none⟩)),(6,.int .i64 b),(30,.int .i64 b),(29,.int .i64 n),(5,.bool vj),(2,.slice (some ⟨ib,io,none⟩) n ic),(3,.slice (some ⟨ob,oo,none⟩) (b+1) Dr),(4,.slice aa an ac),(1,.pointer (some ⟨p1,0,none⟩))]) (λy q=>[(9,.pointer (some ⟨q,0,none⟩)),(7,.pointer (some ⟨p7,0,none⟩)),(6,.int .i64 b),(30,.int .i64 b),(29,.int .i64 n),(5,.bool vj),(2,.slice (some ⟨ib,io,none⟩) n ic),(3,.slice (some ⟨ob,oo,none⟩) (b+1) Dr),(4,.slice aa an ac),(1,.pointer (some ⟨p1,0,none⟩))]) (λy a h=>?_) (λl y s R'=>?_) (λl pre y s q RR hI bT=>?_) λD s2 hD hI=>?_
 ·have Kk:∀b',cF ([iF ca R cc s1]++(aj Bs [.slice la ln lc] Bt::aj p7 [.slice ca R cc] 145::ai (some ⟨bt,0,none⟩) 1 1 145 1 [.slice (some ⟨po,0,none⟩) R R]::ai (some ⟨po,0,none⟩) R R 4 1 (s0.map .bool)::⟨fp,λw=>aM w (.slice aa an ac) 1 (bm bl) cS⟩::aj p1 [nm,pa,.int .i64 R,.slice ba n bc] 35::(ai (some ⟨ib,io,none⟩) n ic 145 1 (lh.map (gJ R))::ai (some ⟨ob,oo,none⟩) (b+1) Dr 145 1 (fP.map (gJ R)++[.slice (some ⟨po,0,none⟩) R R])::(lh.map (ir R)++(fP.map (ir R)++marks Ds))))) b'->w0.heap.size<=b':=λb' ⟨e,he,mL⟩=>(mz.own e he b' mL).1.elim (λh=>h.elim) id
  exact DS (R:=R) (wz:=w0) (b:=lb) (o:=lo) ag (λeH=>Tk (λe=>eH (by rw[e]at IS;exact kN IS))) (by have:=(mX B (aA hB)).1;omega) h8 hzc (λp v hp h=>by have:=Kk _ h.1;have:=World.block_lt_of_cell? w0 p hp;omega) (λh=>h.2 rfl) (λp v hp=>fU mz.cE hp) (mz.gW Bs 0 _ rfl) mM
 ·have h2:=((h.to (L':=[(7,.pointer (some ⟨p7,0,none⟩)),(6,.int .i64 b),(30,.int .i64 b),(29,.int .i64 n),(5,.bool vj),(2,.slice (some ⟨ib,io,none⟩) n ic),(3,.slice (some ⟨ob,oo,none⟩) (b+1) Dr),(4,.slice aa an ac),(1,.pointer (some ⟨p1,0,none⟩))]) aw).dP (d:=62) rfl (.int .i64 y.1.1)).dP (d:=63) rfl (.agg (zD y.1.2.1 y.1.2.2).toArray)
  have e:(#[62,63].zip #[Value.int .i64 (qU.enc y).1,.agg (qU.enc y).2.toArray]).foldl (λ(t:Array Value) (q:Tmp×Value)=>t.setIfInBounds q.1 q.2) a.tmps=(a.tmps.setIfInBounds 62 (.int .i64 y.1.1)).setIfInBounds 63 (.agg (zD y.1.2.1 y.1.2.2).toArray):=by simp[qU.enc]
  refine⟨Eq.trans (congrArg Array.size e) h2.size,rfl,λp hp=>?_⟩;exact Eq.trans (congrArg (λt:Array Value=>t[p.1]?) e) (h2.slot p hp)
 ·simp only[zD]
  repeat(first|refine aI ?_|refine dX λ_ _=>?_)
  exact JZ _ aw ag2
 ·obtain⟨⟨i0,x,⟨va,vn,vc⟩⟩,PP,Kv,TI⟩:=y
  simp only at PP Kv TI;have PC:s.length=R:=by
   rw[hI];have:∀(l:List (qU R w0)) (s:List Bool),(l.foldl (λs y=>uQ s y.1.2.1) s).length=s.length:=by
    intro l
    induction l with
    |nil=>exact λ_=>rfl
    |cons y l ih=>exact λs=>by rw[fF,ih,tp]
   rw[this,Tz]
  simp only[zD,a6,aT];refine aO ?_;refine bj (lm (l₁:=[RR,aj q (zD x (va,vn,vc)) 56]) (a:=iF ca R cc s)) ?_;refine fg (H1:=[iF ca R cc s]++(RR::aj q (zD x (va,vn,vc)) 56::aj Bs [.slice la ln lc] Bt::aj p7 [.slice ca R cc] 145::ai (some ⟨bt,0,none⟩) 1 1 145 1 [.slice (some ⟨po,0,none⟩) R R]::ai (some ⟨po,0,none⟩) R R 4 1 (s0.map .bool)::⟨fp,λw=>aM w (.slice aa an ac) 1 (bm bl) cS⟩::aj p1 [nm,pa,.int .i64 R,.slice ba n bc] 35::(ai (some ⟨ib,io,none⟩) n ic 145 1 (lh.map (gJ R))::ai (some ⟨ob,oo,none⟩) (b+1) Dr 145 1 (fP.map (gJ R)++[.slice (some ⟨po,0,none⟩) R R])::(lh.map (ir R)++(fP.map (ir R)++marks Ds))))) rfl ?_;refine fH (val:=λ_:Unit=>.tuple #[]) (E:=λ_=>[iF ca R cc (uQ s x)]) (φ:=λ_=>True) rfl (λw hw=>Jw ca R cc s PC x PP ag va vn vc dh w0 (λ_ _ _ h=>h) TI w (hw.sub (dY _ _))) λ_ _=>?_;simp only[a6,aT];refine aO ?_;refine bj (List.Perm.swap _ _ _) ?_;refine J3 (uQ s x) ?_ (.refl _);rw[nJ,<-hI];rfl
 rw[aaM]at hI;have ael:s2.length=R:=by
  rw[hI];have:∀(l:List en) (s:List Bool),(l.foldl uQ s).length=s.length:=by
   intro l
   induction l with
   |nil=>exact λ_=>rfl
   |cons y l ih=>exact λs=>by rw[fF,ih,tp]
  rw[this,Tz]
 simp only[a6,aT];refine aO ?_;refine nu (H':=iF ca R cc s2::aj p7 [.slice ca R cc] 145::bN.mark D::ai (some ⟨po,0,none⟩) R R 4 1 (s0.map .bool)::⟨fp,λw=>aM w (.slice aa an ac) 1 (bm bl) cS⟩::aj p1 [nm,pa,.int .i64 R,.slice ba n bc] 35::(ai (some ⟨ib,io,none⟩) n ic 145 1 (lh.map (gJ R))::ai (some ⟨ob,oo,none⟩) (b+1) Dr 145 1 (fP.map (gJ R)++[.slice (some ⟨po,0,none⟩) R R])::(lh.map (ir R)++(fP.map (ir R)++marks Ds)))) (λw hw=>?_) ?_
 ·refine(hw.sub (dn (dn (.cons _ (dn (.cons _ (.refl _))))))).perm ?_
  exact(lm (l₁:=[iF ca R cc s2,aj p7 [.slice ca R cc] 145]) (a:=bN.mark D)).symm
 refine bP (λ(x:Nat×List Bool)=>x.1<=xn/\x.2.length=R/\x.2=(B.aL.take x.1).foldl (λs p=>s.set p.dst.toNat false) s2) (λx=>[(74,.int .i64 x.1),(72,.slice xa xn xc),(73,.int .i64 xn),(7,.pointer (some ⟨p7,0,none⟩)),(6,.int .i64 b),(30,.int .i64 b),(29,.int .i64 n),(5,.bool vj),(2,.slice (some ⟨ib,io,none⟩) n ic),(3,.slice (some ⟨ob,oo,none⟩) (b+1) Dr),(4,.slice aa an ac),(1,.pointer (some ⟨p1,0,none⟩))]) (λx=>iF ca R cc x.2::aj p7 [.slice ca R cc] 145::bN.mark D::ai (some ⟨po,0,none⟩) R R 4 1 (s0.map .bool)::⟨fp,λw=>aM w (.slice aa an ac) 1 (bm bl) cS⟩::aj p1 [nm,pa,.int .i64 R,.slice ba n bc] 35::(ai (some ⟨ib,io,none⟩) n ic 145 1 (lh.map (gJ R))::ai (some ⟨ob,oo,none⟩) (b+1) Dr 145 1 (fP.map (gJ R)++[.slice (some ⟨po,0,none⟩) R R])::(lh.map (ir R)++(fP.map (ir R)++marks Ds)))) (λx=>xn-x.1) (0,s2)
  ⟨aY _,ael,by simp⟩ (aV aw ag2) λx ⟨hm,pG,hs⟩=>?_
 ·obtain⟨m,s⟩:=x
  simp only at hm pG hs⊢;refine aU ?_;refine aN (λh3=>?_) (λh3=>?_)
  ·have II:m<xn:=by simpa using h3
   obtain⟨p,hp⟩:=dJ Ym II;have aao:bY xa xb xo:=⟨Kv (aW hp)⟩;have Zk:bZ m xn:=⟨II⟩;obtain⟨csp,Xb,sv,rfl,_,mP⟩:=PO m p hp;have aaB:a_ w0 xb (xo+m*2) _:=⟨Xb⟩;have AX:=Z9.aL p (aA hp);obtain⟨s2a,s2n,s2c,_,_,rfl,_⟩:=mP;obtain⟨d,hd⟩:∃d:Nat,p.dst=d:=⟨p.dst.toNat,by have:=AX.dst;omega⟩;have Ze:d<R:=by have:=AX.dst;omega
   obtain⟨y,hy⟩:∃y,s[d]?=some y:=⟨_,aB ag⟩;have oh:ky p.dst d:=⟨hd⟩;have hld:bZ d R:=⟨Ze⟩;have hey:oJ s d y:=⟨hy⟩;have kr:(B.aL.take (m+1)).foldl (λs p=>s.set p.dst.toNat false) s2=s.set d false:=by
    rw[cj,hp,nJ,<-hs,show d=p.dst.toNat by omega];rfl
   unfold iF;refine eW 0 rfl ag λcb co Ge=>?_;subst Ge
   repeat(first|refine aI ?_|refine dX λ_ _=>?_)
   refine bC (m+1,s.set d false) ⟨II,by simpa using pG,kr.symm⟩ (by simp only;omega) aw ?_;exact List.Sublist.cons _ (.refl _)
  ·have aaR:m=xn:=by have:=h3;simp at this;omega
   rw[aaR,Ym,cO,hI,<-Gu]at hs;have hs4:s=OW B s0:=hs;have O8:∀r,has s r↔Head bl (n_ (lh.map (·.l))) b r:=λr=>by rw[hs4];exact LX hf hB hx.1 hx.2 r
   have ad9:=RX.row q0 (aA NC);have afL:oJ lh b q0:=⟨NC⟩;unfold iF;refine aI ?_;refine kE mixed aP ?_;refine j9 ?_;refine tK rfl (λw hw=>Oe _ _ s q0.l w (Ft hw (k:=0) rfl pG.symm ag) (YN (R:=R) (rs:=lh) (E:=[ai ca R cc 4 1 (s.map .bool),aj p7 [.slice ca R cc] 145,bN.mark D,ai (some ⟨po,0,none⟩) R R 4 1 (s0.map .bool),⟨fp,λw=>aM w (.slice aa an ac) 1 (bm bl) cS⟩,aj p1 [nm,pa,.int .i64 R,.slice ba n bc] 35,ai (some ⟨ib,io,none⟩) n ic 145 1 (lh.map (gJ R)),ai (some ⟨ob,oo,none⟩) (b+1) Dr 145 1 (fP.map (gJ R)++[.slice (some ⟨po,0,none⟩) R R])]) (H:=fP.map (ir R)++marks Ds) hw NC ag ad9)) ?_;refine j9 ?_;refine aU ?_;have Md:fP.length+1=b+1:=ag;have fin:∀(I:List jC) (w:World),Wd dh w0 (bN.mark D::ai (some ⟨po,0,none⟩) R R 4 1 (s0.map .bool)::⟨fp,λw=>aM w (.slice aa an ac) 1 (bm bl) cS⟩::aj p1 [nm,pa,.int .i64 R,.slice ba n bc] 35::ai (some ⟨ib,io,none⟩) n ic 145 1 (I.map (gJ R))::ai (some ⟨ob,oo,none⟩) (b+1) Dr 145 1 (fP.map (gJ R)++[.slice (some ⟨po,0,none⟩) R R])::(I.map (ir R)++(fP.map (ir R)++marks Ds))) w->
     Wd dh w0 (⟨fp,λw=>aM w (.slice aa an ac) 1 (bm bl) cS⟩::aj p1 [nm,pa,.int .i64 R,.slice ba n bc] 35::ai (some ⟨ib,io,none⟩) n ic 145 1 (I.map (gJ R))::ai (some ⟨ob,oo,none⟩) (fP++[(⟨some ⟨po,0,none⟩,R,s0⟩:jC)]).length Dr 145 1 ((fP++[(⟨some ⟨po,0,none⟩,R,s0⟩:jC)]).map (gJ R))::(I.map (ir R)++((fP++[(⟨some ⟨po,0,none⟩,R,s0⟩:jC)]).map (ir R)++marks (D::Ds)))) w:=λI w hw=>by
    have h1:=hw.perm (QV (α:=bN) (bN.mark D) (ai (some ⟨po,0,none⟩) R R 4 1 (s0.map .bool)) (⟨fp,λw=>aM w (.slice aa an ac) 1 (bm bl) cS⟩::aj p1 [nm,pa,.int .i64 R,.slice ba n bc] 35::ai (some ⟨ib,io,none⟩) n ic 145 1 (I.map (gJ R))::ai (some ⟨ob,oo,none⟩) (b+1) Dr 145 1 (fP.map (gJ R)++[Value.slice (some ⟨po,0,none⟩) R R])::I.map (ir R)) (fP.map (ir R)) (marks Ds));have e:(fP++[(⟨some ⟨po,0,none⟩,R,s0⟩:jC)]).length=b+1:=by simp;omega
    rw[e];simpa[gJ,ir,iF,marks,dE]using h1
   have G3:∀r∈fP++[(⟨some ⟨po,0,none⟩,R,s0⟩:jC)],r.l.length=R:=λr hr=>by
    rcases bL.1 hr with hr|hr
    ·exact XM r hr
    ·simp only[bU]at hr;subst hr;exact hx.1
   have Ca:(fP++[(⟨some ⟨po,0,none⟩,R,s0⟩:jC)]).length=b+1:=by simp;omega
   refine aN (λh4=>?_) (λh4=>?_)
   ·
    have eH:s≠q0.l:=by simpa using h4
    have Gk:=RX.upd (b:=b) (q:=⟨ca,cc,s⟩) ag pG O8;have aa4:qz (lh.set b ⟨ca,cc,s⟩)<qz lh:=by
     have h5:=GU (r':=(⟨ca,cc,s⟩:jC)) NC;have h6:=zh (l:=q0.l) (m:=s) ag (λr hr=>(O8 r).2 (RX.pre b r ((A_ NC).2 hr))) (Ne.symm eH);simp only at h5;omega
    have TI:lN (lh.map (gJ R)) (b*1) (.slice ca R cc) ((lh.set b ⟨ca,cc,s⟩).map (gJ R)):=⟨by rw[fB,eh];rfl,by simp;omega⟩;refine aI ?_;refine nu (λw hw=>fin (lh.set b ⟨ca,cc,s⟩) w ?_) ?_
    ·have h7:=YW (e:=ir R ⟨ca,cc,s⟩) (X:=[aj p7 [.slice ca R cc] 145,bN.mark D,ai (some ⟨po,0,none⟩) R R 4 1 (s0.map .bool),⟨fp,λw=>aM w (.slice aa an ac) 1 (bm bl) cS⟩,aj p1 [nm,pa,.int .i64 R,.slice ba n bc] 35,ai (some ⟨ib,io,none⟩) n ic 145 1 ((lh.set b ⟨ca,cc,s⟩).map (gJ R)),ai (some ⟨ob,oo,none⟩) (b+1) Dr 145 1 (fP.map (gJ R)++[.slice (some ⟨po,0,none⟩) R R])]) (I:=lh.map (ir R)) (Y:=fP.map (ir R)++marks Ds) (b:=b) hw (by rw[aK,NC];rfl)
     rw[<-eh]at h7;exact h7.sub (dZ _ _)
    refine Ea (true,lh.set b ⟨ca,cc,s⟩,(some ⟨ob,oo,none⟩,Dr,fP++[(⟨some ⟨po,0,none⟩,R,s0⟩:jC)]),D::Ds) rfl ⟨by simp only;omega,Gk,G3,by simp,λ_=>?_⟩ (by simp only;omega) ?_ ag2
    ·simp only
     cases vj
     ·obtain⟨e1,_⟩:=qu rfl
      subst e1;exact aa4
     ·have:=Mj rfl
      omega
    ·simp only[Ca]
     exact aw
   ·have R0:s=q0.l:=by simpa using h4
    refine aO ?_;refine nu (λw hw=>fin lh w (hw.sub (.cons _ (.cons _ (.refl _))))) ?_;refine Ea (vj,lh,(some ⟨ob,oo,none⟩,Dr,fP++[(⟨some ⟨po,0,none⟩,R,s0⟩:jC)]),D::Ds) rfl ⟨by simp only;omega,RX,G3,λe=>?_,Mj⟩ (by simp only;omega) ?_ ag2
    ·obtain⟨e1,e2,e3⟩:=qu e
     subst e1;refine⟨rfl,λt ht r hr=>?_,λt q r hq=>?_⟩
     ·simp only[Ca]at ht
      by_cases e:t=b
      ·subst e
       rw[A_ NC,<-R0];exact(O8 r).2 hr
      ·exact e2 t ag r hr
     ·simp only at hq
      by_cases e:t<fP.length
      ·rw[dG e]at hq
       exact e3 t q r hq
      ·have ht:t=b:=by
        have:=(aC.1 hq).1;rw[Ca]at this;omega
       subst ht;rw[dg ag,J9,dq]at hq;simp only[jJ,bW]at hq;subst hq;exact hx.2 r
    ·simp only[Ca]
     exact aw
end
section
open Go Go.RowKit
attribute [local irreducible] wpListIn Code.wpIn Exit.then Exit.inBlock bodyPost wpQuiet wpAnyIn wpAnyH
set_option maxHeartbeats 4000000
theorem HZ{u:a7}(h:(dr u).1=0){k:Nat}{X:aZ}(hX:u.funcs[k]?=some X):∀B∈X.blocks,∀x∈B.list,x.args.length<=1000:=λB hB x hx=>by
 have hb:=rU h X (aA hX);obtain⟨b,Ve⟩:=br hB;unfold fX at hb
 split at hb
 ·rename_i h1;exact absurd hb h1
 have hb:=im hb b (aC.1 Ve).1;simp only[jc,Ve]at hb
 split at hb
 ·rename_i h2;exact absurd hb h2
 have hi:=l_ hb x hx
 by_cases e:x.op=20
 ·unfold dK at hi
  split at hi
  ·cases hi
  split at hi
  ·cases hi
  split at hi
  ·rename_i h3
   simp only[Bool.and_eq_true,Bool.not_eq_true',decide_eq_false_iff_not]at h3;exact absurd hi h3.2
  split at hi
  ·rename_i h4;exact absurd hi h4
  split at hi
  ·rename_i h5;exact absurd hi h5
  unfold fY at hi;rw[if_neg (by simpa using e)]at hi
  split at hi
  ·cases hi
  rename_i h6
  split at hi
  ·cases hi
  rename_i h7;simp only[within,Bool.not_eq_true',Bool.and_eq_false_iff,decide_eq_false_iff_not,not_or,Decidable.not_not]at h6;simp only[ne_eq,Decidable.not_not,jr]at h7
  split at h7
  ·rename_i Y hY
   have:=nh h hY;omega
  ·omega
 ·rw[(xZ (R:=X.aF.toNat) (fs:=u.funcs) (by rw[Int.toNat_of_nonneg (by have:=nh h hX;omega)];exact hi)).args e]
  simp
theorem I6{X:aZ}(h:Bf X):∀B∈X.blocks,B.list.length<=1000/\B.aL.length<=1000:=λB hB=>by
 have h1:((B.aL.length+B.list.length:Nat):Int)<=fQ X.blocks:=by
  unfold fQ;generalize X.blocks=l at hB
  induction l with
  |nil=>cases hB
  |cons C l ih=>
   have Pm:∀m:List ar,0<=(m.map λb=>((b.aL.length+b.list.length:Nat):Int)).sum:=λm=>by
    induction m with
    |nil=>simp
    |cons D m ih=>simp only[bO,et];omega
   simp only[bO,et];rcases bJ.1 hB with rfl|hB
   ·have:=Pm l;omega
   ·have:=ih hB;omega
 have:=h.2;omega
class z8(m n:Int):Prop where
 lo:-9223372036854775808<=m+n
 hi:m+n<=9223372036854775807
instance{P:Program}{N:Nat}{ds:List Deferred}{S:Nat->Prop}{w0:World}{L:List (Nat×Value)}{H:List bN}{x y:Operand}{T T2:Nat}{m n:Int}[hx:Ev L x (.int .i64 m)][hy:Ev L y (.int .i64 n)][h:z8 m n]:dz P N ds S w0 L H (.binOp .add T x y T2) (.int .i64 (m+n)):=by
 have:=Dz (P:=P) (N:=N) (ds:=ds) (S:=S) (w0:=w0) (L:=L) (H:=H) (x:=x) (y:=y) (T:=T) (T2:=T2) (m:=m) (n:=n)
 rwa[uI _ h.lo h.hi]at this
end
end Go.Proofs.YthfhgolkafpmnaaGreatDoor
