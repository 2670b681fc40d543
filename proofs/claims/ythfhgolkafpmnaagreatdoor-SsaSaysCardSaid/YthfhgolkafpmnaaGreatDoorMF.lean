/- Lemmas. -/
import Derived.Test.YthfhgolkafpmnaaGreatDoorIJ
import Derived.Test.YthfhgolkafpmnaaGreatDoorMA
namespace Go.Proofs.YthfhgolkafpmnaaGreatDoor
open Go.Value renaming int->J,slice->I,pointer->aO,bool->ag,agg->aC
open Go.IntKind renaming i64->Z
open Option renaming some->O,none->U
open Go renaming Value->K,World->ae
open List renaming replicate->aI,range->bj
open Go.Proofs.Tryz renaming prog->Y
open Go.Region renaming wanted->fq
open Go.Proofs.Tryz
open Go Go.RowKit
section
variable {R':Int} {X:bZ} {x y:iA} {u:dk} {v:cI} {bl:List aq} {fs:List bZ} {R b f n:Nat} {ν:Nat->Nat->Int}
section
theorem M6(hc:jy u){k:Nat}(hX:u.funcs[k]?=O X):(bi X.blocks 0).bg=[]:=by
 have hb:=hc.body X (aA hX);have hs:=B9.same hc hX;refine List.eq_nil_iff_forall_not_mem.2 λp hp=>?_;have h1:=hb.bg 0 _ (ck (by have:=hs.many;omega)) p hp;unfold oO at h1;exact(xM.1 h1).1 rfl
noncomputable def xH(P:List aq)(n:Nat):Nat:=n+((wn P).map λb=>zI (bi P b)).sum
noncomputable def tS(X:bZ):bZ:={X with bm:=(xH (gU X) X.params.toNat:Nat),blocks:=pU (B5 (gU X) X.params.toNat) (gU X) X.params.toNat}
noncomputable def Bz(X:bZ):bZ:=fJ (tS (ju X))
noncomputable def Ai(u:dk):dk:={u with funcs:=u.funcs.map Bz}
theorem L8(s:Nat->Nat):∀{o:List Nat},b∈o->wM o s b+s b<=(o.map s).sum
 |[],h=>by cases h
 |x::o,h=>by
  unfold wM
  by_cases e:x=b
  ·subst e
   rw[List.takeWhile_cons_of_neg cK,cf,g_];simp
  ·have h2:b∈o:=by rcases bX.1 h with h|h;exact absurd h.symm e;exact h
   have ih:=L8 s h2;unfold wM at ih;rw[uL (by simp;exact e),cf,g_,cf,g_];omega
structure vM(X:bZ)(R:Nat):Prop where
 all:lj X R
 reach:∀b,b<X.blocks.length->jg X.blocks (-1) 0 b
 pos:ql X.blocks
theorem qM(h:lj X R):gU X=jt X.blocks R:=by unfold gU;rw[h.bm];rfl
theorem kP(h:lj X R):dK (gU X)/\0<(gU X).length/\(∀i,dY (gU X) i=dY X.blocks i)/\(gU X).length=X.blocks.length:=by
 rw[qM h];exact⟨DQ (jU _ _) (wt _ _) h.ok.iD,by rw[jU];exact h.pos,wt _ _,jU _ _⟩
theorem vB(h:vM X R):∀b,b<(gU X).length->jg (gU X) (-1) 0 b:=λb hb=>by
 obtain⟨_,_,h3,h4⟩:=kP h.all;exact(adi h3).2 (h.reach b A)
theorem Jh(h:vM X R):SgF X (tS X) (B5 (gU X) X.params.toNat):=by
 obtain⟨h1,h2,h3,h4⟩:=kP h.all;have hN:=V8 h1 h2 (vB h);have hp:=h.all.par;refine⟨rfl,λb c k k' B C hB hC hk G6 e=>DX hN hB hC hk G6 e,λb k=>?_,λb B k hB hk=>?_,?_,h.reach,h.pos⟩
 ·have:=xL (wn (gU X)) (λb=>zI (bi (gU X) b)) (λb k=>WJ (bi (gU X) b) k) X.params.toNat b k
  unfold B5;omega
 ·have h5:=hN.lt b B k hB hk
  have h6:=L8 (λb=>zI (bi (gU X) b)) (hN.all b (aJ.1 hB).1);show B5 (gU X) X.params.toNat b k<((xH (gU X) X.params.toNat:Nat):Int);unfold B5 num xH;simp only at h5 h6|-
  omega
 ·show 0<=X.params/\X.params<=((xH (gU X) X.params.toNat:Nat):Int)
  unfold xH;omega
theorem L_(hu:Whole u):∀(k:Nat) X,(BP u).funcs[k]?=O X->∃R,vM X R:=λk cP hY=>by
 have hu2:=(xV hu).1;have hY2:=hY;rw[CP]at hY;obtain⟨X,hX,rfl⟩:=ff.1 hY;obtain⟨_,_,hT⟩:=D3 hu.ok hX;obtain⟨R,hA⟩:=xj hu2.ok hY2;have ho:=OF hT;refine⟨R,hA,λb hb=>?_,(AM hu2.ok hY2).2⟩;have h1:b∈cQ (ju X).blocks:=by rw[ho];exact cW.2 hb
 unfold cQ at h1;exact(HC hA.ok.iD hA.pos).1 (List.mem_reverse.1 h1)
structure af5(fs:List bZ)(R:Int)(x:iA):Prop where
 op:1<=x.op/\x.op<=22
 s1:(shape x.op).1=false->x.dst=-1
 s2:(shape x.op).2.1=false->kN x.a=true
 s3:(shape x.op).2.2=false->kN x.b=true
 s4:x.op≠20->x.fn=0/\x.args.length=0
 dst:(shape x.op).1=true->(x.op=20/\x.dst=-1)\/(0<=x.dst/\x.dst<R)
 a:fw R x.a=0
 b:fw R x.b=0
 call:jA fs R x=0
theorem Eo{R n:Int}:lM R n=0↔0<=n/\n<R:=by
 unfold lM within;constructor
 ·intro h
  split at h
  ·cases h
  ·rename_i h1
   simp at h1;omega
 ·intro h
  rw[ai];simp;omega
theorem K6{R:Int}:fA fs R x=0↔af5 fs R x:=by
 constructor
 ·intro h
  unfold fA at h
  split at h
  ·cases h
  rename_i h1
  split at h
  ·cases h
  rename_i h2
  split at h
  ·rename_i h3
   rw[h]at h3;simp at h3
  rename_i h3
  split at h
  ·rename_i h4;exact absurd h h4
  rename_i h4
  split at h
  ·rename_i h5;exact absurd h h5
  rename_i h5;have h1:1<=x.op/\x.op<=22:=by simp[within]at h1;omega
  simp only[Bool.not_eq_true]at h2;unfold tG at h2;simp only[Bool.or_eq_false_iff,iW,Bool.not_eq_false',fg,dv]at h2;obtain⟨⟨⟨a1,a2⟩,a3⟩,a4⟩:=h2;refine⟨h1,λe=>?_,λe=>?_,λe=>?_,λe=>?_,λe=>?_,Decidable.not_not.1 h4,Decidable.not_not.1 h5,h⟩
  ·rcases a1 with a1|a1
   ·rw[e]at a1;cases a1
   ·exact a1
  ·rcases a2 with a2|a2
   ·rw[e]at a2;cases a2
   ·exact a2
  ·rcases a3 with a3|a3
   ·rw[e]at a3;cases a3
   ·exact a3
  ·rcases a4 with a4|a4
   ·exact absurd a4 e
   ·exact⟨a4.1,A⟩
  ·by_cases e2:x.op=20/\x.dst=-1
   ·exact .inl e2
   ·refine .inr (Eo.1 ?_)
    refine it λhd=>h3 ?_;rw[e];simp only[Bool.true_and,eU,gy,iW,fg];refine⟨?_,hd⟩
    by_cases e3:x.op=20
    ·exact .inr λe4=>e2 ⟨e3,e4⟩
    ·exact .inl e3
 ·intro h
  unfold fA;rw[ai,ai,ai,ai,ai]
  ·exact h.call
  ·exact not_not_intro h.b
  ·exact not_not_intro h.a
  ·intro hc
   simp only[eU,gy,iW,fg]at hc;rcases h.dst hc.1.1 with⟨h1,h2⟩|h1
   ·rcases hc.1.2 with h3|h3
    ·exact h3 h1
    ·exact h3 h2
   ·exact hc.2 (Eo.2 h1)
  ·simp only[Bool.not_eq_true]
   unfold tG;simp only[Bool.or_eq_false_iff,iW,Bool.not_eq_false',fg,dv];refine⟨⟨⟨?_,?_⟩,?_⟩,?_⟩
   ·cases e:(shape x.op).1 with
    |true=>exact .inl rfl
    |false=>exact .inr (h.s1 e)
   ·cases e:(shape x.op).2.1 with
    |true=>exact .inl rfl
    |false=>exact .inr (h.s2 e)
   ·cases e:(shape x.op).2.2 with
    |true=>exact .inl rfl
    |false=>exact .inr (h.s3 e)
   ·by_cases e:x.op=20
    ·exact .inl e
    ·have:=h.s4 e
     exact .inr ⟨this.1,A⟩
  ·have:=h.op
   simp[within];omega
theorem TH{R:Int}(G_:y.op=x.op)(ve:y.fn=x.fn)(hl:y.args.length=x.args.length)(hv:∀v∈y.args,fw R' v=0)(h:jA fs R x=0):jA fs R' y=0:=by
 unfold jA at h|-
 rw[G_,ve,hl]
 split at h
 ·rename_i h1;rw[al h1]
 rename_i h1;rw[ai h1]
 split at h
 ·cases h
 rename_i h2;rw[ai h2]
 split at h
 ·cases h
 rename_i h3;rw[ai h3,jO];intro j hj;unfold lC;rw[bL A];exact hv _ (my _)
theorem Pv{R:Int}(h:fA fs R x=0)(G_:y.op=x.op)(ve:y.fn=x.fn)(ha:fw R' y.a=0/\(kN x.a=true->kN y.a=true))(hb:fw R' y.b=0/\(kN x.b=true->kN y.b=true))(hl:y.args.length=x.args.length)(hv:∀v∈y.args,fw R' v=0)
  (hd:0<=x.dst->0<=y.dst/\y.dst<R') (Uy:x.dst<0->y.dst=x.dst):fA fs R' y=0:=by
 have hz:=K6.1 h;refine K6.2 ⟨by rw[G_];exact hz.op,λe=>?_,λe=>ha.2 (hz.s2 (by rw[<-G_];exact e)),λe=>hb.2 (hz.s3 (by rw[<-G_];exact e)),λe=>?_,λe=>?_,ha.1,hb.1,TH G_ ve hl hv hz.call⟩
 ·have:=hz.s1 (by rw[<-G_];exact e)
  rw[Uy A,this]
 ·rw[ve,hl]
  exact hz.s4 (by rw[<-G_];exact e)
 ·rcases hz.dst (by rw[<-G_];exact e)with⟨h1,h2⟩|⟨h1,h2⟩
  ·exact .inl ⟨by rw[G_];exact h1,by rw[Uy A,h2]⟩
  ·exact .inr (hd h1)
theorem V5(h:kN v=true):v=lB:=by
 obtain⟨vr,vn⟩:=v;simp only[kN,eU,beq_iff_eq,dv]at h;obtain⟨rfl,rfl⟩:=h
 rfl
section
variable {X:bZ} {R:Nat}
theorem Jg(h:vM X R):∀r,XN (B5 (gU X) X.params.toNat) (gU X) X.params.toNat r->0<=r/\r<(tS X).bm:=λr hr=>by
 have hs:=Jh h;have hp:=hs.par;rcases hr with⟨h1,h2⟩|⟨b,B,k,hB,hk,rfl⟩
 ·omega
 ·have h1:=hs.ge b k
  have h2:=hs.lt b B k hB hk;omega
theorem FQ(h:vM X R)(hv:uJ (XN (B5 (gU X) X.params.toNat) (gU X) X.params.toNat) v):fw (tS X).bm v=0:=val_zero.2 λhr=>by
 have:=Jg h _ (hv hr);omega
theorem Bv{i:Nat}(h:kN v=true):kN (kt ν bl n b i v)=true:=by
 rw[V5 h]
 rfl
end
theorem Ji(ν:Nat->Nat->Int)(P:List aq)(n:Nat)(i:Nat):dY (pU ν P n) i=dY P i:=by
 unfold dY;cases hz:P[i]? with
 |none=>rw[cm (by rw[jF];exact mx.1 hz)]
 |some eE=>rw[xU hz];rfl
theorem DJ(h:vM X R)(hb:qx fs X):∀B∈gU X,n_ (JP R) B:=by
 rw[qM h.all];exact RE (TD h.all.bm h.all.ok hb) (cz _)
theorem WZ(h:vM X R)(hb:qx fs X)(h0:(bi X.blocks 0).bg=[]):qx fs (tS X):=by
 have pK:=DJ h hb;have EN:∀B∈gU X,n_ (λr=>0<=r) B:=λB hB=>(pK B hB).mono λr hr=>hr.1;have Y_:=BN (ν:=B5 (gU X) X.params.toNat) (n:=X.params.toNat) EN;obtain⟨hg,dW,lG,hlen⟩:=kP h.all;have hlS:(tS X).blocks.length=X.blocks.length:=by show(pU _ _ _).length=_;rw[jF,hlen]
 have jT:∀{b C},(tS X).blocks[b]?=O C->∃B,X.blocks[b]?=O B/\(gU X)[b]?=O {B with bg:=B.bg++fx X.blocks R b}/\C=FF (B5 (gU X) X.params.toNat) (gU X) X.params.toNat b {B with bg:=B.bg++fx X.blocks R b}:=λ{b C} hC=>by
  have jX:b<X.blocks.length:=by rw[<-hlS];exact(aJ.1 hC).1
  obtain⟨B,hB⟩:=bE X.blocks b jX;have hP:(gU X)[b]?=O {B with bg:=B.bg++fx X.blocks R b}:=by rw[qM h.all];exact ly hB
  have Jr:(pU (B5 (gU X) X.params.toNat) (gU X) X.params.toNat)[b]?=O C:=hC;rw[xU hP]at Jr;exact⟨B,hB,hP,(bJ Jr).symm⟩
 refine⟨λC hC=>?_,λb C hC q hq=>?_,λb C hC y hy=>?_⟩
 ·obtain⟨b,wS⟩:=bR hC
  have hR:=Y_ C hC;obtain⟨B,hB,_,Ub⟩:=jT wS;have hE:=oh.1 (hb.ends B (aA hB));have Dv:kN B.on=true->kN C.on=true:=λhn=>by rw[Ub];exact Bv hn
  have hk:C.kind=B.kind:=by rw[Ub];rfl
  have ht:C.to=B.to:=by rw[Ub];rfl
  rw[hlS];refine oh.2 ⟨by rw[hk];exact hE.kind,by rw[hk,ht];exact hE.len,by rw[ht];exact hE.to,by rw[hk,ht];exact hE.two,λh2=>Dv (hE.one (by rw[<-hk];exact h2)),FQ h hR.on⟩
 ·have hR:=Y_ C (aA hC)
  obtain⟨B,hB,hP,Ub⟩:=jT hC;have uw:=hR.bg q hq;have hfP:eW R (gU X):=by rw[qM h.all];exact pQ h.all.ok (cz _)
  have U3:=hq;rw[Ub]at U3;obtain⟨i,hi⟩:=bR U3;have Ju:((B.bg++fx X.blocks R b).mapIdx (FG (B5 (gU X) X.params.toNat) (gU X) X.params.toNat b))[i]?=O q:=hi;rw[eD]at Ju;obtain⟨p,hp,SH⟩:=ff.1 Ju;have Cx:=(hfP.block b _ hP).bg p (aA hp);have vh:q.src.length=(be (gU X) b).length:=by rw[<-SH,<-Cx.len];simp[FG]
  have wH:b≠0:=λe=>by
   subst e;have h1:B.bg=[]:=by rw[gK hB]at h0;exact h0
   rw[h1,I4 λr _ hn=>Rs h.pos hn.1]at hp;simp at hp
  have hd:=Jg h _ uw.1;have Au:be (tS X).blocks b=be (gU X) b:=Fl (jF _ _ _) (Ji _ _ _) b;have hgS:dK (tS X).blocks:=DQ (jF _ _ _) (Ji _ _ _) hg;have tP:∀(b:Nat) C,(tS X).blocks[b]?=O C->C.to.Nodup:=λb C hC=>by
   obtain⟨B',qq,_,agi⟩:=jT hC;rw[agi];exact(h.all.ok.block b B' qq).to
  unfold oO BC;rw[ai A,ai (by rw[Eo.2 hd];simp),ai]
  ·rw[jO]
   intro j hj;unfold lC;rw[bL hj];exact FQ h (uw.2 _ (my hj))
  ·rw[kf hgS tP (by rw[hlS];exact(aJ.1 hB).1),gw,aG,Au,vh]
   simp
 ·have hR:=(Y_ C (aA hC)).list y hy
  obtain⟨B,hB,hP,Ub⟩:=jT hC;rw[Ub]at hy;obtain⟨k,hk⟩:=bR hy;have Ct:(B.list.mapIdx (su (B5 (gU X) X.params.toNat) (gU X) X.params.toNat b))[k]?=O y:=hk;rw[eD]at Ct;obtain⟨x,hx,rfl⟩:=ff.1 Ct;refine Pv (hb.list b B hB x (aA hx)) rfl rfl ⟨FQ h hR.a,Bv⟩ ⟨FQ h hR.b,Bv⟩ (by simp[su]) (λv hv=>FQ h (hR.args v hv)) (λh1=>?_) λh1=>?_
  ·refine Jg h _ (hR.dst ?_)
   show 0<=(if 0<=x.dst then _ else x.dst);rw[al h1];have:=(Jh h).ge b ((bi (gU X) b).bg.length+k);have:=(Jh h).par;omega
  ·show(if 0<=x.dst then _ else x.dst)=x.dst
   rw[ai A]
theorem Oc{r:Int}:∀(g b i:Nat),(PH ν bl n g b i r).dq=false->PH ν bl n g b i r=lB
 |0,b,i,_=>rfl
 |g+1,b,i,h=>by
  unfold PH at h|-
  cases hd:oV (bi bl b) r i with
  |some k=>rw[hd]at h;cases h
  |none=>
   rw[hd]at h;simp only at h|-
   split
   ·rename_i h1
    rw[al h1]at h
    split
    ·rename_i h2;rw[al h2]at h;cases h
    ·rfl
   ·rename_i h1
    rw[ai h1]at h;exact Oc g _ _ h
end
section
set_option maxHeartbeats 8000000
attribute [local irreducible] wpListIn Code.wpIn Exit.then Exit.inBlock bodyPost wpQuiet wpAnyIn wpAnyH bodyPostM md
theorem Ra[bf Y f](cap:List K)(g:gD->Bool)(v:K)(l:List gD)(w0:ae)(hv:aY w0 v 2 l B_)(kV:∀w,nX db w0 w->∀x∈l,∀sv,(∃a n c,sv=I a n c)->gF Y f (aC #[J Z x.dst,sv]::cap) w (ag (g x))):
  iL Y 166 [v,.func (.func f) #[] cap.toArray] w0 λu w'=>∃r:Int,u=J Z r/\Wd db w0 [] w'/\decide (0<=r)=l.any g:=by
 obtain⟨a,n,c,b,o,rfl,hn,qg,A_,hc,ha,iw⟩:=hv;refine aR func166 rfl ntmps166 rfl (Wd.nil db w0) ?_;refine aU ?_;refine bH (λ(i:Nat)=>i<=n/\∀j t,j<i->l[j]?=O t->g t=false) (λi=>[(8,J Z i),(0,I a n c),(1,.func (.func f) #[] cap.toArray),(7,J Z n)]) (λ_=>[]) (λi=>n-i) 0 ⟨aN _,by simp⟩ (aP V kg) λi ⟨hi,cX⟩=>?_;refine bA ?_;apply aL<;>intro h1
 ·have ce:i<n:=aD h1
  obtain⟨x,hx⟩:=eI hn ce;have mJ:cl a b o:=⟨ha (aZ hx)⟩;have kK:cg i n:=⟨ce⟩;obtain⟨cs,gW,sv,rfl,_,rC⟩:=iw i x hx;obtain⟨sa,sn,sc,_,_,rfl,_⟩:=id rC;have nO:bu w0 b (o+i*2) [J Z x.dst,I sa sn sc]:=⟨gW⟩;refine aU ?_;refine uV rfl (us:=[]) (vs:=[aC #[J Z x.dst,I sa sn sc]]) (xs:=cap) (λw hw=>kV w hw.c_ x (aA hx) _ ⟨_,_,_,rfl⟩) ?_;refine bA ?_;apply aL<;>intro h2
  ·refine aV ?_
   refine dh rfl λw hw=>⟨_,rfl,⟨hw.c_,by simp,by simp,by simp⟩,?_⟩;rw[fQ (by omega:(0:Int)<=(i:Int))]
   symm
   simp only[rG];exact⟨x,aA hx,h2⟩
  ·refine aU ?_
   refine a_ (i+1) ⟨ce,λj t hj ht=>?_⟩ A V cK
   by_cases A7:j=i
   ·subst A7
    rw[hx]at ht;obtain rfl:=bJ ht;exact h2
   ·exact cX j t A ht
 ·have fX:i=n:=by have:=h1;simp at this;omega
  refine aV ?_;refine dh rfl λw hw=>⟨-1,rfl,⟨hw.c_,by simp,by simp,by simp⟩,?_⟩;rw[gx (by omega:¬(0:Int)<=-1)]
  symm
  rw[List.any_eq_false];intro t ht;obtain⟨j,hj⟩:=bR ht;rw[cX j t (by have:=(aJ.1 hj).1;omega) hj];simp
theorem If[bf Y f](cap:List K)(g:gD->Bool)(v:K)(l:List gD)(w0:ae)(hv:aY w0 v 2 l B_)(kV:∀w,nX db w0 w->∀x∈l,∀sv,(∃a n c,sv=I a n c)->gF Y f (aC #[J Z x.dst,sv]::cap) w (ag (g x))):
  gF Y 149 [v,.func (.func f) #[] cap.toArray] w0 (ag (l.any g)):=by
 obtain⟨a,n,c,rfl⟩:∃a n c,v=I a n c:=by obtain⟨a,n,c,b,o,rfl,_⟩:=hv;exact⟨a,n,c,rfl⟩
 refine aR func149 rfl ntmps149 rfl (Wd.nil db w0) ?_;refine bA ?_;refine cN (val:=λr:Int=>.int Z r) (cZ:=λ_=>[]) (φ:=λr=>decide (0<=r)=l.any g) rfl (λw hw=>Ra cap g _ l w (hv.cB nF hw.c_) λw2 h2=>kV w2 (hw.c_.trans h2)) λr hr=>?_;simp only[aS];refine aU ?_;rw[hr];exact cv rfl rfl
theorem Q_[bf Y f](cap:List K)(g:iA->Bool)(v:K)(l:List iA)(w0:ae)(hv:aY w0 v 8 l Dm)(kV:∀w,nX db w0 w->∀x∈l,∀sv,(∃a n c,sv=I a n c)->gF Y f (aC #[J Z x.op,J Z x.dst,ag x.a.dq,J Z x.a.n,ag x.b.dq,J Z x.b.n,J Z x.fn,sv]::cap) w (ag (g x))):
  iL Y 148 [v,.func (.func f) #[] cap.toArray] w0 λu w'=>∃r:Int,u=J Z r/\Wd db w0 [] w'/\decide (0<=r)=l.any g:=by
 obtain⟨a,n,c,b,o,rfl,hn,qg,A_,hc,ha,iw⟩:=hv;refine aR func148 rfl ntmps148 rfl (Wd.nil db w0) ?_;refine aU ?_;refine bH (λ(i:Nat)=>i<=n/\∀j t,j<i->l[j]?=O t->g t=false) (λi=>[(8,J Z i),(0,I a n c),(1,.func (.func f) #[] cap.toArray),(7,J Z n)]) (λ_=>[]) (λi=>n-i) 0 ⟨aN _,by simp⟩ (aP V kg) λi ⟨hi,cX⟩=>?_;refine bA ?_;apply aL<;>intro h1
 ·have ce:i<n:=aD h1
  obtain⟨x,hx⟩:=eI hn ce;have mJ:cl a b o:=⟨ha (aZ hx)⟩;have kK:cg i n:=⟨ce⟩;obtain⟨cs,gW,sv,rfl,_,_,_,_,_,rC⟩:=iw i x hx;obtain⟨sa,sn,sc,_,_,rfl,_⟩:=id rC;have nO:bu w0 b (o+i*8) [J Z x.op,J Z x.dst,ag x.a.dq,J Z x.a.n,ag x.b.dq,J Z x.b.n,J Z x.fn,I sa sn sc]:=⟨gW⟩;refine aU ?_;refine uV rfl (us:=[]) (vs:=[aC #[J Z x.op,J Z x.dst,ag x.a.dq,J Z x.a.n,ag x.b.dq,J Z x.b.n,J Z x.fn,I sa sn sc]]) (xs:=cap) (λw hw=>kV w hw.c_ x (aA hx) _ ⟨_,_,_,rfl⟩) ?_;refine bA ?_;apply aL<;>intro h2
  ·refine aV ?_
   refine dh rfl λw hw=>⟨_,rfl,⟨hw.c_,by simp,by simp,by simp⟩,?_⟩;rw[fQ (by omega:(0:Int)<=(i:Int))]
   symm
   simp only[rG];exact⟨x,aA hx,h2⟩
  ·refine aU ?_
   refine a_ (i+1) ⟨ce,λj t hj ht=>?_⟩ A V cK
   by_cases A7:j=i
   ·subst A7
    rw[hx]at ht;obtain rfl:=bJ ht;exact h2
   ·exact cX j t A ht
 ·have fX:i=n:=by have:=h1;simp at this;omega
  refine aV ?_;refine dh rfl λw hw=>⟨-1,rfl,⟨hw.c_,by simp,by simp,by simp⟩,?_⟩;rw[gx (by omega:¬(0:Int)<=-1)]
  symm
  rw[List.any_eq_false];intro t ht;obtain⟨j,hj⟩:=bR ht;rw[cX j t (by have:=(aJ.1 hj).1;omega) hj];simp
theorem Ie[bf Y f](cap:List K)(g:iA->Bool)(v:K)(l:List iA)(w0:ae)(hv:aY w0 v 8 l Dm)(kV:∀w,nX db w0 w->∀x∈l,∀sv,(∃a n c,sv=I a n c)->gF Y f (aC #[J Z x.op,J Z x.dst,ag x.a.dq,J Z x.a.n,ag x.b.dq,J Z x.b.n,J Z x.fn,sv]::cap) w (ag (g x))):
  gF Y 100 [v,.func (.func f) #[] cap.toArray] w0 (ag (l.any g)):=by
 obtain⟨a,n,c,rfl⟩:∃a n c,v=I a n c:=by obtain⟨a,n,c,b,o,rfl,_⟩:=hv;exact⟨a,n,c,rfl⟩
 refine aR func100 rfl ntmps100 rfl (Wd.nil db w0) ?_;refine bA ?_;refine cN (val:=λr:Int=>.int Z r) (cZ:=λ_=>[]) (φ:=λr=>decide (0<=r)=l.any g) rfl (λw hw=>Q_ cap g _ l w (hv.cB vq hw.c_) λw2 h2=>kV w2 (hw.c_.trans h2)) λr hr=>?_;simp only[aS];refine aU ?_;rw[hr];exact cv rfl rfl
theorem Wu(r:Int)(pr:Nat)(x:iA)(sv:K)(rC:∃a n c,sv=I a n c)(w0:ae)(hp:ct w0 pr 0 [J Z r]):
  gF Y 101 [aC #[J Z x.op,J Z x.dst,ag x.a.dq,J Z x.a.n,ag x.b.dq,J Z x.b.n,J Z x.fn,sv],aO (O ⟨pr,0,U⟩)] w0 (ag (decide (x.dst=r))):=by
 obtain⟨a,n,c,rfl⟩:=rC;have nO:bu w0 pr 0 _:=⟨hp⟩;refine aR func101 rfl ntmps101 rfl (Wd.nil db w0) ?_
 repeat(first|refine aU ?_|refine dd λ_ _=>?_)
 exact cv rfl rfl
theorem Sj(r:Int)(pr:Nat)(x:gD)(sv:K)(rC:∃a n c,sv=I a n c)(w0:ae)(hp:ct w0 pr 0 [J Z r]):
  gF Y 150 [aC #[J Z x.dst,sv],aO (O ⟨pr,0,U⟩)] w0 (ag (decide (x.dst=r))):=by
 obtain⟨a,n,c,rfl⟩:=rC;have nO:bu w0 pr 0 _:=⟨hp⟩;refine aR func150 rfl ntmps150 rfl (Wd.nil db w0) ?_
 repeat(first|refine aU ?_|refine dd λ_ _=>?_)
 exact cv rfl rfl
theorem L4(B:aq)(r:Int)(pv lv tv:K)(KL:∃a n c,lv=I a n c)(Zc:∃a n c,tv=I a n c)(w0:ae)(wP:aY w0 pv 2 B.bg B_):
  gF Y 102 [aC #[pv,lv,J Z B.kind,ag B.on.dq,J Z B.on.n,tv],J Z r] w0 (ag (kY B r)):=by
 obtain⟨la,ln,lc,rfl⟩:=KL;obtain⟨ta,tn,tc,rfl⟩:=Zc;obtain⟨pa,pn,pc,rfl⟩:∃a n c,pv=I a n c:=by obtain⟨a,n,c,b,o,rfl,_⟩:=wP;exact⟨a,n,c,rfl⟩
 refine aR func102 rfl ntmps102 rfl (Wd.nil db w0) ?_
 repeat(first|refine bA ?_|refine dd λ_ _=>?_)
 rename_i p2 _ p3 _;refine bY rfl (λw hw=>If (f:=150) [aO (O ⟨p3,0,U⟩)] (λp=>decide (p.dst=r)) (I pa pn pc) B.bg w (wP.cB nF hw.c_) λw2 h2 x hx sv rC=>Sj r p3 x sv rC w2 λj v hj=>?_) ?_
 ·have h3:w.cell? ⟨p3,0+j,U⟩=O v:=hw.kr p3 j v hj
  exact jv h2 h3
 refine aU ?_;exact cv rfl rfl
theorem Yj(q pf:Nat)(av kv:K)(m:Int)(hm:0<=m/\m<=1000000)(w:ae)(hw:Wd (df [(λm:Int=>aM q [aO (O ⟨pf,0,U⟩),av,kv,J Z m] 102) m]) w [(λm:Int=>aM q [aO (O ⟨pf,0,U⟩),av,kv,J Z m] 102) m] w):
  iL Y 111 [aO (O ⟨q,0,U⟩)] w λu w'=>∃_x:Unit,u=aC #[ag true,J Z m]/\Wd (df [(λm:Int=>aM q [aO (O ⟨pf,0,U⟩),av,kv,J Z m] 102) m]) w [(λm:Int=>aM q [aO (O ⟨pf,0,U⟩),av,kv,J Z m] 102) (m+1)] w'/\True:=by
 refine aR func111 rfl ntmps111 rfl hw ?_;have ha1:Az m 1:=⟨A,A⟩;generalize df [(λm:Int=>aM q [aO (O ⟨pf,0,U⟩),av,kv,J Z m] 102) m]=SS;simp only
 repeat(first|refine aV ?_|refine dd λ_ _=>?_)
 rw[show m+1-1=m by omega];exact fD rfl λw hw=>⟨(),rfl,hw.sub cK,trivial⟩
def Oe(names:List cI)(v:cI):cI:=if v.dq then names.getD v.n.toNat lB else v
theorem afS(pn:Nat)(nv:K)(names:List cI)(w0:ae)(hp:ct w0 pn 0 [nv])(hn:aY w0 nv 2 names λ_ v cs=>cs=mm v)(v:cI)(hv:v.dq=true->0<=v.n/\v.n<names.length):
  gF Y 110 [aC #[ag v.dq,J Z v.n],aO (O ⟨pn,0,U⟩)] w0 (aC #[ag (Oe names v).dq,J Z (Oe names v).n]):=by
 obtain⟨a,n,c,b,o,rfl,yS,_,_,_,ha,iw⟩:=hn;have nO:bu w0 pn 0 _:=⟨hp⟩;refine aR func110 rfl ntmps110 rfl (Wd.nil db w0) ?_;obtain⟨dq,vn⟩:=v;cases dq with
 |false=>
  simp only[Oe]
  repeat(first|refine aV ?_|refine dd λ_ _=>?_)
  exact fD rfl λw hw=>⟨rfl,hw.c_⟩
 |true=>
  obtain⟨h1,h2⟩:=hv rfl;simp only at h1 h2;obtain⟨r,rfl⟩:∃r:Nat,vn=r:=⟨vn.toNat,A⟩;have hr:r<names.length:=A;obtain⟨x,hx⟩:=bE names r hr;have ahQ:Oe names ⟨true,r⟩=x:=by unfold Oe;simp only[if_true,fR];rw[fF,hx];rfl
  rw[ahQ];have mJ:cl a b o:=⟨ha (aZ hx)⟩;have kK:cg r n:=⟨A⟩;obtain⟨cs,gW,rfl⟩:=iw r x hx;have uv:bu w0 b (o+r*2) [ag x.dq,J Z x.n]:=⟨gW⟩;simp only
  repeat(first|refine aV ?_|refine dd λ_ _=>?_)
  exact fD rfl λw hw=>⟨rfl,hw.c_⟩
theorem R0(b0 o0 n:Nat)(z:cI)(w:ae)(hx:ct w b0 o0 (mm z))(SE:n<=1000):
  iL Y 104 [I (O ⟨b0,o0,U⟩) 1 1,J Z n] w λu w'=>∃a:Nat,u=I (O ⟨a,0,U⟩) n n/\Wd db w [ar (O ⟨a,0,U⟩) n n (aI n z)] w'/\True:=by
 have hg:∀x:cI,(mm x).length=2:=λ_=>rfl;refine aR func104 rfl ntmps104 rfl (Wd.nil db w) ?_;refine aU ?_;rw[show decide ((n:Int)<0)=false by simp]
 refine vW rfl rfl ?_;refine bA ?_;refine vW rfl (by rw[IntKind.wrap_u64];omega) ?_;refine bY rfl (λw' _=>V0 1 n A A A w') ?_;rw[Nat.one_mul];refine aV ?_;rw[show decide (9223372036854775807<(n:Int))=false by simp;omega,show decide ((0:Int)<0)=false from rfl];refine aU ?_;refine vW rfl ?_ ?_
 ·rw[IntKind.wrap_i64];omega
 refine Yr rfl rfl A A mm lB rfl λa _=>?_;have EK:∀(l:List (cI)),∀v∈l.flatMap mm,v.oneCell'=true:=λl v hv=>by
  obtain⟨q,_,hq⟩:=dg.1 hv;simp only[mm,bX,gr,or_false]at hq;rcases hq with rfl|rfl<;>rfl
 refine bA ?_;refine Il (b:=a) (o:=0) (off:=0) 0 (min 1 n) ((aI (min 1 n) z).flatMap mm) rfl rfl rfl (by rw[cA hg,im]) (λw' hw j v hj=>?_) (by rw[cA hg,cA hg,im,im];omega) (EK _) ?_
 ·obtain⟨i,x,k,h1,h2,rfl⟩:=sF hg _ _ _ hj
  have hi:=(aJ.1 h1).1;rw[im]at hi;obtain rfl:=oC (aA h1);obtain rfl:i=0:=A;have:=jv hw.c_ (hx k v h2);rw[Nat.zero_mul,eC];exact this
 have e0:=Kf hg (aI n lB) (aI (min 1 n) z) 0;rw[Nat.zero_mul]at e0;simp only[bI];rw[e0];rw[show(aI n lB).take 0++aI (min 1 n) z++(aI n lB).drop (0+(aI (min 1 n) z).length)=aI (min 1 n) z++aI (n-min 1 n) lB by simp[List.drop_replicate]];refine aU ?_;refine bH (λ(m:Nat)=>(1<=m\/n=0)/\m<=n) (λm=>[(8,J Z m),(7,I (O ⟨a,0,U⟩) n n)]) (λm=>[ar (O ⟨a,0,U⟩) n n (aI m z++aI (n-m) lB)]) (λm=>n-m) (min 1 n) ⟨A,A⟩ (aP V aF) λm ⟨hm1,hmn⟩=>?_;refine bA ?_;apply aL<;>intro h1
 ·have ce:m<n:=aD h1
  have hc1:SV m n n:=⟨A,ce⟩;have G2:JG m n:=⟨A⟩;refine aU ?_;refine AR [(8,J Z ((m+min m (n-m):Nat):Int)),(7,I (O ⟨a,0,U⟩) n n)] [ar (O ⟨a,0,U⟩) n n (aI (m+min m (n-m)) z++aI (n-(m+min m (n-m))) lB)] mixed ?_ ?_
  ·repeat' (first|refine gu 0 rfl E ?_|refine gu 1 rfl E ?_|refine gu 2 rfl E ?_|refine gu 3 rfl E ?_|refine gu 4 rfl E ?_|refine gu 5 rfl E ?_|refine gu 6 rfl E ?_|refine AQ E ?_|refine any_nil|refine pC E ?_|refine any_cons ?_ ?_)
   refine Il (b:=a) (o:=0) (off:=m*2) 0 (min m (n-m)) ((aI (min m (n-m)) z).flatMap mm) rfl rfl rfl (by rw[cA hg,im]) (λw' hw j v hj=>?_) (by rw[cA hg,cA hg,bW,im,im,im];omega) (EK _) ?_
   ·obtain⟨i,x,k,h1,h2,rfl⟩:=sF hg _ _ _ hj
    have hi:=(aJ.1 h1).1;rw[im]at hi;have hk:k<2:=(aJ.1 h2).1;refine hw.dp (k:=0) rfl (e_ hg _ i x k v ?_ h2);rw[eX (by rw[im];omega),ku,al A];rw[oC (aA h1)]
   rw[Kf hg,im,RW z lB m n _ (Nat.min_comm _ _) hmn];simp only[bI]
   repeat' (first|refine Cj E ?_|refine AQ E ?_|refine any_nil|refine pC E ?_|refine any_cons ?_ ?_|refine ms ?_|refine qm ?_|refine xq rfl ?_|refine zk rfl A A ?_)
   all_goals
    rw[<-Int.natCast_add]
   all_goals exact aP V aF
  ·refine aU ?_
   exact a_ (m+min m (n-m)) ⟨A,A⟩ A V aF
 ·have fX:m=n:=by have:=h1;simp at this;omega
  subst fX;rw[cV,List.replicate_zero,cj];refine aV ?_;exact dh rfl λw' hw=>⟨a,rfl,hw,trivial⟩
end
end
variable {T:aK} {B C:aq} {zs:List aK} {X:List cq} {here:List Int} {bl:List aq} {R b c d i r t ty:Nat} {S:Nat->Prop} {α β:Type} {w w0:ae}
section
set_option maxHeartbeats 8000000
attribute [local irreducible] wpListIn Code.wpIn Exit.then Exit.inBlock bodyPost wpQuiet wpAnyIn wpAnyH bodyPostM md
theorem Zp{w1:ae}{H1 H2:List cq}(h:Wd S w0 (H1++H2) w1):∀p v,(cC S w0).cell? p=O v->(cC (df H1) w1).cell? p=O v:=λp v hc=>by
 obtain⟨hn,h1⟩:=oZ hc;have ce:=jC _ p h1;have oL:¬df H1 p.block:=λ⟨e,he,hb⟩=>(h.own e (cM _ he) _ hb).1.elim hn λh2=>A;rw[<-h1];exact World.cell?_of_block ((kL w1 oL).trans (h.c_.block _ ce hn))
theorem qI:∀{l:List Nat} {x:Nat},x∈l->x<=l.sum
 |y::l,x,h=>by
  rw[g_];rcases bX.1 h with rfl|h
  ·omega
  ·have:=qI h
   omega
theorem Ru:AB CT:=λ_ _ _ _ _ h=>h
theorem VZ:AB F9:=λ_ _ hc _ _ ⟨v,h1,h2⟩=>⟨v,h1,h2.le Ru hc⟩
theorem af8{args:List K}{f:FuncId}(hR:R<=100)(hlen:bl.length<=100)(h:iL Y f args w0 λu w'=>∃x:(ax×Nat×List lR)×(ax×Nat×List lR),u=.tuple #[I x.1.1 bl.length x.1.2.1,I x.2.1 bl.length x.2.2.1]/\
   Wd db w0 (G x.1.1 bl.length x.1.2.1 145 1 (x.1.2.2.map (jW R))::G x.2.1 bl.length x.2.2.1 145 1 (x.2.2.2.map (jW R))::(x.1.2.2.map (kF R)++x.2.2.2.map (kF R))) w'/\XK R bl x.1.2.2 x.2.2.2):
  iL Y f args w0 λu w'=>∃x:(ax×Nat)×(ax×Nat)×(Nat->Prop)×List (List Bool),u=.tuple #[I x.1.1 bl.length x.1.2,I x.2.1.1 bl.length x.2.1.2]/\Wd db w0 [⟨x.2.2.1,λw=>aY w (I x.1.1 bl.length x.1.2) 1 x.2.2.2 F9⟩] w'/\
   (x.2.2.2.length=bl.length/\∀(b:Nat) q,x.2.2.2[b]?=O q->q.length=R/\∀r,(has q r↔kB bl r b (-1))):=
 h.mono λu w' ⟨x,h1,h2,h3⟩=>by
  obtain⟨⟨ia,ic,ins⟩,⟨oa,oc,outs⟩⟩:=x;simp only at h1 h2 h3;have iM:=h3.afP;have h4:Wd db w0 ((G ia bl.length ic 145 1 (ins.map (jW R))::G oa bl.length oc 145 1 (outs.map (jW R))::(ins.map (kF R)++outs.map (kF R)))++[]) w':=by rw[cj];exact h2
  refine⟨((ia,ic),(oa,oc),_,ins.map (·.l)),h1,h4.pack _ λw2 hw=>?_,by rw[aG];exact iM,λb q hq=>?_⟩
  ·simp only
   have h5:Wd _ w2 (G ia bl.length ic 145 1 (ins.map (jW R))::(ins.map (kF R)++[])) w2:=hw.sub (dN (.cons _ (by rw[cj];exact fe _ _)));exact P2 h5 iM.symm A A h3.aaV
  ·rw[aW]at hq
   obtain⟨y,hy,rfl⟩:=ff.1 hq;exact⟨h3.aaV y (aA hy),λr=>h3.aiM b y r hy⟩
noncomputable def Oi(X:bZ):bZ:=⟨X.name,X.params,X.bm,jt X.blocks X.bm.toNat⟩
open Classical in
noncomputable def nS(bl:List aq)(r:Nat)(here:List Int):List aq:=bl.mapIdx λb B=>{B with bg:=B.bg++(fx bl r b++if tm bl b r/\(b:Int)∈here then[mv bl b r]else[])}
theorem Fh(bl:List aq)(r:Nat):nS bl r []=jt bl r:=by
 unfold nS jt;simp
theorem Fg(h:∀b,tm bl b r->(b:Int)∈here):nS bl r here=jt bl (r+1):=by
 classical
 unfold nS jt;congr 1
 funext b B
 rw[I5];congr 3
 by_cases hn:tm bl b r
 ·rw[al hn,al ⟨hn,h b hn⟩]
 ·rw[ai hn,ai λh=>hn h.1]
theorem tp(h:bl[b]?=O B)[Decidable (tm bl b r/\(b:Int)∈here)]:(nS bl r here)[b]?=O {B with bg:=B.bg++(fx bl r b++if tm bl b r/\(b:Int)∈here then[mv bl b r]else[])}:=by
 unfold nS;rw[eD,h];simp only[b_];congr
theorem tq(bl:List aq)(r:Nat)(here:List Int):(nS bl r here).length=bl.length:=by simp[nS]
theorem HB(hB:bl[b]?=O B)(hb:(b:Int)∉here)(hn:tm bl b r):
  nS bl r (here++[(b:Int)])=(nS bl r here).set b {B with bg:=(B.bg++fx bl r b)++[mv bl b r]}:=by
 classical
 apply cY;intro i
 by_cases hi:i=b
 ·subst hi
  rw[tp hB,fk (by rw[tq];exact(aJ.1 hB).1),al ⟨hn,by simp⟩,fu]
 ·rw[fY (λe=>hi e.symm)]
  cases h:bl[i]? with
  |none=>
   have:=mx.1 h;rw[cm (by rw[tq];exact this),cm (by rw[tq];exact this)]
  |some C=>
   rw[tp h,tp h];have e:(tm bl i r/\(i:Int)∈here++[(b:Int)])↔(tm bl i r/\(i:Int)∈here):=by
    rw[bO,bQ];constructor
    ·rintro⟨h1,h2|h2⟩
     ·exact⟨h1,h2⟩
     ·omega
    ·rintro⟨h1,h2⟩
     exact⟨h1,.inl h2⟩
   simp only[e]
theorem ws(hn:¬tm bl b r):nS bl r (here++[(b:Int)])=nS bl r here:=by
 classical
 unfold nS;congr 1
 funext i B
 have e:(tm bl i r/\(i:Int)∈here++[(b:Int)])↔(tm bl i r/\(i:Int)∈here):=by
  rw[bO,bQ];constructor
  ·rintro⟨h1,h2|h2⟩
   ·exact⟨h1,h2⟩
   ·have:i=b:=A
    subst this;exact absurd h1 hn
  ·rintro⟨h1,h2⟩
   exact⟨h1,.inl h2⟩
 simp only[e]
theorem Ob:∀p∈fx bl r b,p.dst≠(r:Int):=λp hp e=>by
 obtain⟨q,hq,_,rfl⟩:=ui hp;simp only[mv]at e;omega
theorem C5:kY {B with bg:=B.bg++fx bl r b} r=kY B r:=by
 unfold kY;simp only;rw[List.any_append];have:(fx bl r b).any (λp=>decide (p.dst=(r:Int)))=false:=by
  rw[List.any_eq_false];intro p hp;simpa using Ob p hp
 rw[this,Bool.or_false]
def fW(bl:List aq)(r i:Nat):List Int:=(0:Int)::((bj i).filter λb=>decide (1<=b)&&rN (bi bl b) r).map λx:Nat=>(x:Int)
theorem HP(bl:List aq)(r i:Nat):fW bl r (i+1)=fW bl r i++if decide (1<=i)&&rN (bi bl i) r then[(i:Int)]else[]:=by
 unfold fW;rw[iV,mw,bz,bF];congr 2
 by_cases h:(decide (1<=i)&&rN (bi bl i) r)=true
 ·rw[al h];simp only[List.filter_cons,h,if_true,List.filter_nil];rfl
 ·rw[ai h];simp only[List.filter_cons,h,List.filter_nil];rfl
theorem FX(bl:List aq)(r i:Nat):(fW bl r i).length<=i+1:=by
 unfold fW;rw[lF,aG];have:=fC (λb=>decide (1<=b)&&rN (bi bl b) r) (bj i);rw[d_]at this;omega
theorem Jm{x:Int}(h:x∈fW bl r i):∃c:Nat,x=c/\(c=0\/c<i):=by
 unfold fW at h;rcases bX.1 h with rfl|h
 ·exact⟨0,rfl,.inl rfl⟩
 ·obtain⟨c,hc,rfl⟩:=aT.1 h
  exact⟨c,rfl,.inr (cW.1 (cR.1 hc).1)⟩
def ow(T:aK)(a:ax)(c:Nat)(ps:List ch):aK:={T with pa:=a,pc:=c,ps:=ps}
theorem Mj{a:ax}{na:ax}{nc:Nat}{ps:List ch}(hT:zs[t]?=O T)
  (h:Wd S w0 (X++(am a zs.length c (zs.set t (ow T na nc ps))::aw na ps.length nc ps::qJ T::lQ T::(ps.map dZ++(T.xs.map gC++(zs.eraseIdx t).map bP)))) w):Wd S w0 (X++eM a c (zs.set t (ow T na nc ps))) w:=by
 have EQ:=(aJ.1 hT).1;have h2:Wd S w0 (ij (ow T na nc ps)++(X++(am a zs.length c (zs.set t (ow T na nc ps))::(zs.eraseIdx t).map bP))) w:=by
  refine h.perm ?_;unfold ij ow qJ lQ
  classical
  refine aX.2 λe=>?_;simp only[bU,bM,am,aw];omega
 refine(Wd.join h2).perm ?_;have h5:=ig bP (l:=zs.set t (ow T na nc ps)) (k:=t) (x:=ow T na nc ps) (fk EQ);rw[nt]at h5;unfold eM;rw[fK]
 classical
 refine aX.2 λe=>?_;have h7:=aX.1 h5 e;simp only[bU,bM,bP,am]at h7|-
 omega
theorem OD(X:bZ)(R:Nat)(hX:lj X R)(hlen:X.blocks.length<=100)(oY:eu X.blocks<=800)(w0:ae):GG w0 63 [] [] Oi X:=by
 classical
 obtain⟨xn,xp,xr,xb⟩:=X;have Sx:=hX.bm;have hR:=hX.le;have hf:=hX.ok;have dW:=hX.pos;have vg:=hX.par;simp only at hlen oY hf dW Sx vg;subst Sx;intro a c bs wb gV oF QP hfr hw;simp only at gV;subst gV;have jX:bs.length<=100:=by rw[aG]at hlen;exact hlen
 have hg:=hf.iD;simp only[aS,cj];refine aR func63 rfl ntmps63 rfl hw ?_;obtain⟨SS,DT⟩:∃SS,SS=df (eM a c bs):=⟨_,rfl⟩;rw[<-DT];obtain⟨bl,or⟩:∃bl,bl=bs.map aK.dD:=⟨_,rfl⟩;rw[<-or]at hf dW oY hlen hg;have agL:bl.length=bs.length:=by rw[or,aG]
 have hTF:Oi ⟨xn,xp,(R:Int),bs.map aK.dD⟩=⟨xn,xp,(R:Int),jt bl R⟩:=by unfold Oi;rw[or];rfl
 rw[hTF];obtain⟨n,hn⟩:∃n,n=bs.length:=⟨_,rfl⟩;rw[<-hn]
 repeat(first|refine bA ?_|refine dd λ_ _=>?_)
 rename_i p1 _ p2 _;have rB:∀{H:List cq} {w:ae},Wd SS wb H w->(eM a c bs).Sublist H->aY w (I a n c) 6 bl da:=λ{H w} hw hs=>by
  rw[or,hn];refine Wd.blocks (H:=[]) (hw.sub ?_) A oF;rw[cj];exact hs
 have tP:∀(b:Nat) B,bl[b]?=O B->B.to.Nodup:=λb B hB=>(hf.block b B hB).to;let Tb:=(D p1 xn xp (R:Int) a n c::aj p2::eM a c bs);refine dI [] (λx:(ax×Nat×(Nat->Prop))×((ax×Nat×Nat)×(Nat->Prop))=>True) (λx=>[(4,I x.2.1.1 x.2.1.2.1 x.2.1.2.2),(3,I x.1.1 (ip bl).length x.1.2.1),M 1 p1,M 2 p2])
  (λx=>(D p1 xn xp (R:Int) a n c::aj p2::eM a c bs)++[⟨x.1.2.2,λw=>aY w (I x.1.1 (ip bl).length x.1.2.1) 1 (ip bl) dQ⟩,⟨x.2.2,λw=>aY w (I x.2.1.1 x.2.1.2.1 x.2.1.2.2) 1 (ci bl) dQ⟩]) mixed qy ?_ λx _=>?_
 ·refine jL 0 2 E ?_ ?_
  ·refine gM 0 rfl aB ?_;refine jL 1 2 E ?_ ?_
   ·refine I8 1 (s:=1) (q:=ip bl) (dL:=dQ) (mk:=λv=>v) rfl aB (λw hw=>Ik A (Ci _ _ _ bl _ ⟨_,_,_,rfl⟩ w (rB hw aB) A hg tP dW)) λfa fc fp=>?_;refine cD 2 E ?_;refine gM 2 rfl aB ?_;refine cD 3 E ?_
    (refine gZ 3 (val:=λx:(ax×Nat×Nat)×(Nat->Prop)=>.slice x.1.1 x.1.2.1 x.1.2.2) (cZ:=λx=>[⟨x.2,λw=>aY w (I x.1.1 x.1.2.1 x.1.2.2) 1 (ci bl) dQ⟩]) (φ:=λ_=>True) rfl aB (λw hw=>jq _ _ _ bl _ w (rB hw aB) A hg) λy _=>?_;obtain⟨⟨aa,an,ac⟩,af⟩:=y;simp only[bF,aS])
    refine cD 4 E ?_;refine gM 4 rfl aB ?_;refine cD 5 E ?_;refine gM 5 rfl aB ?_;refine bG (H1:=Tb++[⟨fp,λw=>aY w (I fa (ip bl).length fc) 1 (ip bl) dQ⟩,⟨af,λw=>aY w (I aa an ac) 1 (ci bl) dQ⟩]) fM ?_<;>(try unfold Tb);refine ef E ?_;exact dy ((fa,fc,fp),((aa,an,ac),af)) trivial V aF
   ·refine gM 2 rfl aB ?_;refine cD 1 E ?_;refine I8 1 (s:=1) (q:=ip bl) (dL:=dQ) (mk:=λv=>v) rfl aB (λw hw=>Ik A (Ci _ _ _ bl _ ⟨_,_,_,rfl⟩ w (rB hw aB) A hg tP dW)) λfa fc fp=>?_;refine cD 3 E ?_
    (refine gZ 3 (val:=λx:(ax×Nat×Nat)×(Nat->Prop)=>.slice x.1.1 x.1.2.1 x.1.2.2) (cZ:=λx=>[⟨x.2,λw=>aY w (I x.1.1 x.1.2.1 x.1.2.2) 1 (ci bl) dQ⟩]) (φ:=λ_=>True) rfl aB (λw hw=>jq _ _ _ bl _ w (rB hw aB) A hg) λy _=>?_;obtain⟨⟨aa,an,ac⟩,af⟩:=y;simp only[bF,aS])
    refine cD 4 E ?_;refine gM 4 rfl aB ?_;refine cD 5 E ?_;refine gM 5 rfl aB ?_;refine bG (H1:=Tb++[⟨fp,λw=>aY w (I fa (ip bl).length fc) 1 (ip bl) dQ⟩,⟨af,λw=>aY w (I aa an ac) 1 (ci bl) dQ⟩]) fM ?_<;>(try unfold Tb);refine ef E ?_;exact dy ((fa,fc,fp),((aa,an,ac),af)) trivial V aF
  ·refine gM 2 rfl aB ?_;refine cD 0 E ?_;refine gM 0 rfl aB ?_;refine cD 1 E ?_;refine I8 1 (s:=1) (q:=ip bl) (dL:=dQ) (mk:=λv=>v) rfl aB (λw hw=>Ik A (Ci _ _ _ bl _ ⟨_,_,_,rfl⟩ w (rB hw aB) A hg tP dW)) λfa fc fp=>?_;refine cD 3 E ?_
   (refine gZ 3 (val:=λx:(ax×Nat×Nat)×(Nat->Prop)=>.slice x.1.1 x.1.2.1 x.1.2.2) (cZ:=λx=>[⟨x.2,λw=>aY w (I x.1.1 x.1.2.1 x.1.2.2) 1 (ci bl) dQ⟩]) (φ:=λ_=>True) rfl aB (λw hw=>jq _ _ _ bl _ w (rB hw aB) A hg) λy _=>?_;obtain⟨⟨aa,an,ac⟩,af⟩:=y;simp only[bF,aS])
   refine cD 4 E ?_;refine gM 4 rfl aB ?_;refine cD 5 E ?_;refine gM 5 rfl aB ?_;refine bG (H1:=Tb++[⟨fp,λw=>aY w (I fa (ip bl).length fc) 1 (ip bl) dQ⟩,⟨af,λw=>aY w (I aa an ac) 1 (ci bl) dQ⟩]) fM ?_<;>(try unfold Tb);refine ef E ?_;exact dy ((fa,fc,fp),((aa,an,ac),af)) trivial V aF
 obtain⟨⟨fa,fc,fp⟩,⟨⟨aa,an,ac⟩,af⟩⟩:=x;simp only[bF];rw[sW];have sZ:∀B∈bl,∀x∈B.list,x.args.length<=1000:=λB hB x hx=>by
  rw[or]at hB;obtain⟨q,hq,rfl⟩:=aT.1 hB;obtain⟨y,hy,rfl⟩:=aT.1 hx;exact((oF q hq).ins y hy).2.1
 have lu:∀B∈bl,B.list.length<=1000/\B.bg.length<=1000:=λB hB=>by
  rw[or]at hB;obtain⟨q,hq,rfl⟩:=aT.1 hB;unfold aK.dD;simp only[aG];exact⟨(oF q hq).list,(oF q hq).bg⟩
 refine bA ?_;refine cN (val:=λx:(ax×Nat)×(ax×Nat)×(Nat->Prop)×List (List Bool)=>.tuple #[I x.1.1 bl.length x.1.2,I x.2.1.1 bl.length x.2.1.2]) (cZ:=λx=>[⟨x.2.2.1,λw=>aY w (I x.1.1 bl.length x.1.2) 1 x.2.2.2 F9⟩]) (φ:=λx=>x.2.2.2.length=bl.length/\∀(b:Nat) q,x.2.2.2[b]?=O q->q.length=R/\∀r,(has q r↔kB bl r b (-1))) rfl
  (λw hw=>af8 hR A (XU _ _ R hR bl _ w (rB hw (iR (.cons _ (.cons _ (.refl _))) (fe _ _))) A hf sZ lu)) λx hx=>?_
 obtain⟨⟨ia,ic⟩,⟨oa,oc⟩,sp,R9⟩:=x;obtain⟨pt,qh⟩:=hx;simp only at pt qh|-
 simp only[bF,aS];refine aU ?_;refine bG (H1:=Tb++[(⟨sp,λw=>aY w (I ia bl.length ic) 1 R9 F9⟩:cq),(⟨fp,λw=>aY w (I fa bl.length fc) 1 (ip bl) dQ⟩:cq),(⟨af,λw=>aY w (I aa an ac) 1 (ci bl) dQ⟩:cq)]) fM ?_<;>(try unfold Tb);refine mA λw1 mS=>?_;have QM:aY (cC (df (Tb)) w1) (I aa an ac) 1 (ci bl) dQ:=mS.beside (e:=(⟨af,λw=>aY w (I aa an ac) 1 (ci bl) dQ⟩:cq)) cK;have hfr:aY (cC (df (Tb)) w1) (I fa bl.length fc) 1 (ip bl) dQ:=mS.beside (e:=(⟨fp,λw=>aY w (I fa bl.length fc) 1 (ip bl) dQ⟩:cq)) cK;have hse:aY (cC (df (Tb)) w1) (I ia bl.length ic) 1 R9 F9:=mS.beside (e:=(⟨sp,λw=>aY w (I ia bl.length ic) 1 R9 F9⟩:cq)) cK;have back:∀{cZ:List cq} {w:ae},Wd (df (Tb)) (cC (df (Tb)) w1) cZ w->Wd SS wb (cZ++[(⟨sp,λw=>aY w (I ia bl.length ic) 1 R9 F9⟩:cq),(⟨fp,λw=>aY w (I fa bl.length fc) 1 (ip bl) dQ⟩:cq),(⟨af,λw=>aY w (I aa an ac) 1 (ci bl) dQ⟩:cq)]) w:=λhw=>mS.comp hw.ni;have Ph:∀{cZ:List cq} {w:ae},Wd (df (Tb)) (cC (df (Tb)) w1) cZ w->pz (cC (df (Tb)) w1) w:=λhw=>hw.ov;have nW:∀{E1 E2:List cq} {w:ae},Wd (df (Tb)) (cC (df (Tb)) w1) (E1++E2) w->pz (cC (df (Tb)) w1) (cC (df E1) w):=λhw=>Zp hw.ni;have hold:∀{b o:Nat} {v:K} {l:List K},ct (cC (df (Tb)) w1) b o (v::l)->iO (df (Tb)) b:=λhc=>iF hc cK;generalize cC (df (Tb)) w1=wk at*;generalize df (Tb)=SK at*
 let Tf:=[(25,J Z (R:Int)),(3,I fa bl.length fc),(4,I aa an ac),(5,I ia bl.length ic),(6,I oa bl.length oc),M 1 p1,M 2 p2];refine bH (λx:Nat×List aK=>x.1<=R/\x.2.map aK.dD=jt bl x.1/\∀b∈x.2,b.Bd) (λx=>(26,J Z x.1)::Tf) (λx=>D p1 xn xp (R:Int) a n c::aj p2::eM a c x.2) (λx=>R-x.1) (0,bs) ⟨aN _,by rw[BD,or],oF⟩ (aP V aF) λx ⟨hr,p_,uG⟩=>?_<;>(try unfold Tf);obtain⟨r,ys⟩:=x;simp only at hr p_ uG|-
 have NN:ys.length=n:=by
  have h3:=bD List.length p_;rw[aG,jU]at h3;omega
 refine bA ?_;refine aL (λh1=>?_) (λh1=>?_)
 case refine_2=>
  obtain rfl:r=R:=by have:=cE h1;omega
  refine aV ?_;refine fD rfl λw hw=>⟨(a,c,ys),by simp only[NN],(back hw).sub ?_,p_,uG,by simp only;omega,⟨A,A⟩,⟨A,A⟩⟩;exact iR (.cons _ (.cons _ (.refl _))) (fe _ _)
 have hrR:r<R:=aD h1
 repeat(first|refine aV ?_|refine dd λ_ _=>?_)
 rename_i p7 _ e8 _;let Td:=[eG p7 (r:Int),D p1 xn xp (R:Int) a n c,aj p2];let Te:=(G (O ⟨e8,0,U⟩) 1 1 3 1 [J Z 0]::Td);refine fU (H1:=Te++eM a c ys) rfl ?_<;>(try unfold Te)<;>(try unfold Td);refine mA λw2 lP=>?_;have aeo:aY (cC (df [G (O ⟨e8,0,U⟩) 1 1 3 1 [J Z 0],eG p7 (r:Int),D p1 xn xp (R:Int) a n c,aj p2]) w2) (I a n c) 6 (jt bl r) da:=by
  have:=Wd.blocks (H:=[]) (ba:=a) (bc:=c) (bs:=ys) (by rw[cj];exact lP.kw) A uG;rw[p_,NN]at this;exact this
 have adG:∀{cZ:List cq} {w:ae},Wd (df Te) (cC (df Te) w2) cZ w->Wd SK wk (cZ++eM a c ys) w:=λhw=>lP.comp hw.ni;have ab8:∀{cZ:List cq} {w:ae},Wd (df Te) (cC (df Te) w2) cZ w->pz (cC (df Te) w2) w:=λhw=>hw.ov;have td:∀{b o:Nat} {v:K} {l:List K},ct (cC (df Te) w2) b o (v::l)->iO (df Te) b:=λhc=>iF hc cK;generalize cC (df Te) w2=wk2 at*;generalize df Te=S2 at*;let Ti:=M 7 p7::(26,J Z r)::Tf;refine bH (λx:Nat×ax×Nat=>x.1<=n) (λx=>(33,J Z x.1)::(31,I a n c)::(32,J Z n)::(8,I x.2.1 (fW bl r x.1).length x.2.2)::Ti) (λx=>aE x.2.1 (fW bl r x.1).length x.2.2 (fW bl r x.1)::Td) (λx=>n-x.1) (0,O ⟨e8,0,U⟩,1) (aN _) (aP V aF) λx hi=>?_<;>(try unfold Ti)<;>(try unfold Tf)<;>try unfold Td
 ·obtain⟨i,wa,wc⟩:=x
  simp only at hi|-
  refine bA ?_;refine aL (λh2=>?_) (λh2=>?_)
  case refine_2=>
   obtain rfl:n=i:=by have:=cE h2;omega
   refine aV ?_;refine rp adG ?_;clear td ab8 aeo;have SJ:fW bl r n=Ao bl r:=by unfold fW Ao;rw[hn,<-agL]
   have hwl:=FX bl r n;obtain⟨dw,hM⟩:∃dw,dw=ru bl (fW bl r n):=⟨_,rfl⟩;have hMn:dw.Nodup:=by rw[hM];exact Dc _ _
   have hMm:∀x∈dw,∃b:Nat,x=b/\mN bl (Ao bl r) b:=λx hx=>by
    rw[hM,SJ]at hx;exact(yE hg).1 hx
   have hMl:dw.length<=100:=by
    rw[hM];unfold ru;rw[aG];exact dS (fC _ _) (by rw[d_];omega)
   refine cN (val:=λx:ax×Nat=>.slice x.1 dw.length x.2) (cZ:=λx=>[aE x.1 dw.length x.2 dw]) (φ:=λ_=>True) rfl (λw hw=>?_) λx _=>?_
   ·rw[hM]
    refine VT bl hg dW A fa fc wa wc (fW bl r n) A (λx hx=>?_) w (hfr.le Br (Ph hw)) (hw.nf (k:=0) rfl rfl A λi x hx=>⟨[J Z x],λj v hj=>by match j,hj with|0,hj=>simpa[hx]using hj,rfl,?_⟩)
    ·obtain⟨c,rfl,hc⟩:=Jm hx
     exact⟨c,rfl,A⟩
    ·obtain⟨c,rfl,hc⟩:=Jm (aA hx)
     exact⟨A,A⟩
   obtain⟨ma,mc⟩:=x;simp only[bF,aS];refine aU ?_;refine bH (λx:Nat×List aK=>x.1<=dw.length/\x.2.map aK.dD=nS bl r (dw.take x.1)/\∀b∈x.2,b.Bd) (λx=>(61,J Z x.1)::(60,J Z dw.length)::(59,I ma dw.length mc)::Ti) (λx=>aE ma dw.length mc dw::aE wa (fW bl r n).length wc (fW bl r n)::eG p7 (r:Int)::D p1 xn xp (R:Int) a n c::aj p2::eM a c x.2) (λx=>dw.length-x.1) (0,ys) ⟨aN _,by simp only[ri];rw[Fh,p_],uG⟩ (aP V aF) λx ⟨hj,yD,Gp⟩=>?_<;>(try unfold Ti)<;>(try unfold Tf);clear p_ uG NN;obtain⟨j,zs⟩:=x;simp only at hj yD Gp|-
   have NP:zs.length=n:=by
    have h3:=bD List.length yD;rw[aG,tq]at h3;omega
   refine bA ?_;refine aL (λh2=>?_) (λh2=>?_)
   case refine_2=>
    obtain rfl:j=dw.length:=by have:=cE h2;omega
    rw[cL,Fg λb hb=>?_]at yD
    ·refine aV ?_
     refine a_ (r+1,zs) ⟨hrR,yD,Gp⟩ bB V aB
    ·rw[hM,SJ]
     exact(yE hg).2 ⟨b,rfl,hb.1⟩
   have iS:j<dw.length:=aD h2;obtain⟨xb,uF⟩:∃x,dw[j]?=O x:=⟨_,bL iS⟩;obtain⟨b,rfl,Pm⟩:=hMm xb (aA uF);have Mq:b<bl.length:=Pm.lt hg;have wK:dw.take (j+1)=dw.take j++[(b:Int)]:=by rw[bV,uF];rfl
   have Cv:(b:Int)∉dw.take j:=λh=>by
    have h3:(dw.take j++[(b:Int)]).Nodup:=by rw[<-wK];exact hMn.sublist (List.take_sublist _ _)
    exact(nA.1 h3).2.2 _ h _ cK rfl
   obtain⟨C,hC⟩:=bE bl b Mq;have hB:=tp (r:=r) (here:=dw.take j) hC;rw[ai λh=>Cv h.2,cj]at hB;obtain⟨B,Su⟩:∃B:aq,B={C with bg:=C.bg++fx bl r b}:=⟨_,rfl⟩;rw[<-Su]at hB;have ab5:kY B r=kY (bi bl b) r:=by rw[Su,C5,gK hC]
   obtain⟨q,hq⟩:=bE R9 b A;obtain⟨vh,Hb⟩:=qh b q hq;obtain⟨bit,abG⟩:∃z,q[r]?=O z:=⟨_,bL A⟩;have UU:bit=true↔kB bl r b (-1):=by
    rw[<-Hb r];unfold has;rw[abG];simp
   have Ba:tm bl b r↔(bit=true/\kY B r=false):=by
    rw[UU,ab5];exact⟨λh=>⟨h.2.2,h.2.1⟩,λh=>⟨Pm,h.2,h.1⟩⟩
   refine fy 0 rfl A λmb mo UX=>?_;subst UX;have Dt:cg j dw.length:=⟨iS⟩;have abZ:uk dw j (b:Int):=⟨uF⟩;have aca:cg b n:=⟨A⟩;have aj3:cg b bl.length:=⟨Mq⟩;have ake:cg r q.length:=⟨A⟩;let Ta:=[aE wa (fW bl r n).length wc (fW bl r n),eG p7 (r:Int),D p1 xn xp (R:Int) a n c,aj p2];let Tc:=(aE (O ⟨mb,mo,U⟩) dw.length mc dw::Ta);refine fU (H1:=Tc++eM a c zs) rfl ?_<;>(try unfold Tc)<;>(try unfold Ta);refine mA λw3 Zd=>?_;have aep:aY (cC (df [aE (O ⟨mb,mo,U⟩) dw.length mc dw,aE wa (fW bl r n).length wc (fW bl r n),eG p7 (r:Int),D p1 xn xp (R:Int) a n c,aj p2]) w3) (I a n c) 6 (nS bl r (dw.take j)) da:=by
    have:=Wd.blocks (H:=[]) (ba:=a) (bc:=c) (bs:=zs) (by rw[cj];exact Zd.kw) A Gp;rw[yD,NP]at this;exact this
   have afu:aY (cC (df Tc) w3) (I ia bl.length ic) 1 R9 F9:=hse.le VZ (nW (E1:=Tc) Zd);have TB:∀{cZ:List cq} {w:ae},Wd (df Tc) (cC (df Tc) w3) cZ w->Wd SK wk (cZ++eM a c zs) w:=λhw=>Zd.comp hw.ni;have aeK:∀{cZ:List cq} {w:ae},Wd (df Tc) (cC (df Tc) w3) cZ w->pz (cC (df Tc) w3) w:=λhw=>hw.ov;have C6:∀{b o:Nat} {v:K} {l:List K},ct (cC (df Tc) w3) b o (v::l)->iO (df Tc) b:=λhc=>iF hc cK;generalize cC (df Tc) w3=wk3 at*;generalize df Tc=S3 at*;obtain⟨b1,o1,Ge,zw,tN⟩:=fd aep C6 (λ_ _ h=>by obtain⟨_,_,_,e,_⟩:=h;exact⟨_,_,e⟩) (aZ hB);obtain⟨_,IC,pv,lv,tv,rfl,_,_,wP,kK,ht⟩:=tN b B hB;obtain⟨pa,pn,pc,_,_,rfl,_⟩:=id wP;obtain⟨xa,xm,xc,_,_,rfl,_⟩:=id kK;obtain⟨F4,F6,F5,_,_,rfl,_⟩:=id ht;obtain⟨b2,o2,uu,td,r_⟩:=fd afu C6 (λ_ _ h=>by obtain⟨_,e,_⟩:=h;exact⟨_,_,e⟩) (aZ hq);obtain⟨_,uv,qv,rfl,Mt⟩:=r_ b q hq;obtain⟨qa,qn,qc,_,_,rfl,U4,_⟩:=id Mt;subst U4;obtain⟨b3,o3,Ul,Bb,ID⟩:=fd Mt C6 (λ_ _ h=>⟨_,_,h⟩) (aZ abG);obtain⟨_,KB,rfl⟩:=ID r bit abG;refine aU ?_;refine kX mixed bC ?_;refine kJ ?_;cases bit with
   |false=>
    have xA:=ws (here:=dw.take j) λh:tm bl b r=>by cases(Ba.1 h).1
    rw[<-wK]at xA;refine kJ ?_;refine aU ?_;refine rp TB ?_;exact a_ (j+1,zs) ⟨iS,by rw[xA];exact yD,Gp⟩ bB V aF
   |true=>
    refine kJ ?_;refine ww rfl (λw hw=>L4 B (r:Int) (I pa pn pc) (I xa xm xc) (I F4 F6 F5) ⟨_,_,_,rfl⟩ ⟨_,_,_,rfl⟩ w (wP.le E7 (aeK hw))) ?_;cases YQ:kY B r with
    |true=>
     have xA:=ws (here:=dw.take j) λh:tm bl b r=>by rw[YQ]at Ba;cases(Ba.1 h).2
     rw[<-wK]at xA;refine kJ ?_;refine aU ?_;refine rp TB ?_;exact a_ (j+1,zs) ⟨iS,by rw[xA];exact yD,Gp⟩ bB V aF
    |false=>
     have Dv:=HB hC Cv (Ba.2 ⟨rfl,YQ⟩);rw[<-wK]at Dv;refine kJ ?_
     repeat(first|refine aV ?_|refine dd λ_ _=>?_)
     refine rp TB ?_;clear zw IC td uv Bb KB Ge uu Ul aep afu aeK C6 Mt;rename_i nk _;obtain⟨T,hT⟩:=bE zs b A;have Nj:T.dD=B:=by
      have h3:(zs.map aK.dD)[b]?=O T.dD:=by rw[aW,hT];rfl
      rw[yD,hB]at h3;exact(bJ h3).symm
     have rK:=Gp T (aA hT);have hCl:C.bg.length<=800:=by
      have h3:C.bg.length+C.list.length<=eu bl:=by
       unfold eu;exact qI (aT.2 ⟨C,aA hC,rfl⟩)
      omega
     have hTl:T.ps.length<=900:=by
      have h3:T.ps.length=B.bg.length:=by rw[<-Nj];unfold aK.dD;rw[aG]
      have h4:(fx bl r b).length<=r:=by
       unfold fx;rw[aG];exact dS (fC _ _) (by rw[d_];exact cz _)
      rw[h3,Su,bW];omega
     obtain⟨m,hm⟩:∃m,m=(be bl b).length:=⟨_,rfl⟩;have aeR:m<=100:=by
      rw[hm];exact dS (fC _ _) (by rw[d_];omega)
     obtain⟨l,hl⟩:∃l:List cI,l=aI m ⟨true,(r:Int)⟩:=⟨_,rfl⟩;have Du:l.length=m:=by rw[hl,im]
     have iy:=kf hg tP Mq;obtain⟨Ku,_⟩:=QM.at;have Gf:(ci bl).length=bl.length:=by unfold ci;rw[jj]
     rw[Gf]at Ku;have aj2:cg b an:=⟨A⟩;obtain⟨b1,o1,Ge,zw,tN⟩:=fd QM hold (λ_ _ h=>by obtain⟨_,e,_⟩:=h;exact⟨_,_,e⟩) (aZ iy);obtain⟨_,IC,rv,rfl,CA⟩:=tN b _ iy;obtain⟨ra,rn,rc,_,_,rfl,Av,_⟩:=id CA;rw[aG,<-hm]at Av;subst Av;let Tg:=(T.ps.map dZ++(T.xs.map gC++(zs.eraseIdx b).map bP));let Th:=(eK nk true (r:Int)::aE (O ⟨mb,mo,U⟩) dw.length mc dw::Ta);refine lr (H':=Th++(am a zs.length c zs::aw T.pa T.ps.length T.pc T.ps::qJ T::lQ T::Tg)) (λw hw=>xX hT (X:=Th) hw) ?_<;>(try unfold Tg)<;>(try unfold Th)<;>(try unfold Ta);simp only[bF,aS];refine fy 6 rfl A λvb vo qt=>?_;subst qt;have aht:cg b zs.length:=⟨A⟩;have hoc:∀cP,gB (am (O ⟨vb,vo,U⟩) zs.length c zs::cP) vb (vo+b*6) (I T.pa T.ps.length T.pc):=λ_=>⟨λ_ _ _ hw=>hw.dp (k:=0) rfl (e_ de zs b T 0 _ hT rfl)⟩;obtain⟨nq,Po⟩:∃nq:Nat->ch,nq=λra=>⟨(r:Int),O ⟨ra,0,U⟩,l.length,l⟩:=⟨_,rfl⟩;have mT:∀na nc ra,lS (zs.flatMap eA) (b*6+0) (I na (T.ps++[nq ra]).length nc) ((zs.set b (ow T na nc (T.ps++[nq ra]))).flatMap eA):=λna nc ra=>⟨by
      exact fL de hT (k:=0) A (y:=ow T na nc (T.ps++[nq ra])) rfl,by rw[cA de];omega⟩
     have Q0:∀(X0 X1 X2 X3 X4 X5 X6 X7 X8:cq) (cP:List cq),mf (X0::X1::X2::X3::X4::X5::X6::X7::X8::am (O ⟨vb,vo,U⟩) zs.length c zs::cP) vb (vo+b*6) 9 vo (b*6+0) zs.length c 46 6 (zs.flatMap eA):=λ_ _ _ _ _ _ _ _ _ _=>⟨rfl,A⟩;have enq:∀ra,T.ps.flatMap iz++[J Z (r:Int),I (O ⟨ra,0,U⟩) l.length l.length]=(T.ps++[nq ra]).flatMap iz:=λra=>by rw[ee,Po];rfl
     have enl:∀ra,T.ps.length+1=(T.ps++[nq ra]).length:=λra=>by rw[bW];rfl
     have acH:∀v1 (w:ae),ct w v1 0 [ag true,J Z (r:Int)]->iL Y 104 [I (O ⟨v1,0,U⟩) 1 1,J Z rn] w λu w'=>∃a:Nat,u=I (O ⟨a,0,U⟩) l.length l.length/\Wd db w [ar (O ⟨a,0,U⟩) l.length l.length l] w'/\True:=λv1 w hc=>by
      have h3:=R0 v1 0 rn ⟨true,(r:Int)⟩ w hc A;rw[<-hl,<-Du]at h3;rw[<-Du];exact h3
     refine dI [eK nk true (r:Int),eG p7 (r:Int),D p1 xn xp (R:Int) (O ⟨vb,vo,U⟩) n c] (λ_:(ax×Nat)×Nat=>True) (λ_=>(61,J Z j)::(60,J Z dw.length)::(59,I (O ⟨mb,mo,U⟩) dw.length mc)::Ti) (λy=>ar (O ⟨y.2,0,U⟩) l.length l.length l::aE (O ⟨mb,mo,U⟩) dw.length mc dw::aE wa (fW bl r n).length wc (fW bl r n)::eG p7 (r:Int)::D p1 xn xp (R:Int) (O ⟨vb,vo,U⟩) n c::aj p2::am (O ⟨vb,vo,U⟩) zs.length c (zs.set b (ow T y.1.1 y.1.2 (T.ps++[nq y.2])))::aw y.1.1 (T.ps++[nq y.2]).length y.1.2 (T.ps++[nq y.2])::qJ T::lQ T::Tg) mixed aB ?_ λy _=>?_
     ·refine W 0 ?_;refine W 1 ?_;refine W 2 ?_;refine W 3 ?_;refine W 4 ?_;refine W 5 ?_;refine W 6 ?_;refine W 7 ?_;refine W 9 ?_;refine W 10 ?_;refine W 12 ?_;refine W 13 ?_;refine W 14 ?_;refine W 15 ?_;refine W 16 ?_;refine jL 8 11 E ?_ ?_
      ·refine gM 8 rfl aB ?_;refine cD 11 E ?_;refine gT 11 rfl E aB λv1 _=>?_;refine cD 17 E ?_
       (refine gZ 17 (val:=λa:Nat=>.slice (O ⟨a,0,U⟩) l.length l.length) (cZ:=λa=>[ar (O ⟨a,0,U⟩) l.length l.length l]) (φ:=λ_=>True) rfl aB (λw hw=>acH _ w λj v hj=>hw.dp (k:=0) (o:=0) (j:=j) rfl hj) λSO _=>?_;simp only[bF,aS])
       refine cD 18 E ?_;refine gM 18 rfl aB ?_;refine cD 19 E ?_;refine gT 19 rfl E aB λnb _=>?_;refine iu 20 10 rfl rfl E A A E (λ_=>aB) λRM RN=>?_;simp only[bS,bI];rw[enq,enl SO];refine W 21 ?_;refine W 22 ?_;refine cD 23 E ?_;refine mW 23 aB ?_;refine ef E ?_;exact dy ((RM,RN),SO) trivial V aB
      ·refine gT 11 rfl E aB λv1 _=>?_;refine jL 8 17 E ?_ ?_
       ·refine gM 8 rfl aB ?_;refine cD 17 E ?_
        (refine gZ 17 (val:=λa:Nat=>.slice (O ⟨a,0,U⟩) l.length l.length) (cZ:=λa=>[ar (O ⟨a,0,U⟩) l.length l.length l]) (φ:=λ_=>True) rfl aB (λw hw=>acH _ w λj v hj=>hw.dp (k:=0) (o:=0) (j:=j) rfl hj) λSO _=>?_;simp only[bF,aS])
        refine cD 18 E ?_;refine gM 18 rfl aB ?_;refine cD 19 E ?_;refine gT 19 rfl E aB λnb _=>?_;refine iu 20 10 rfl rfl E A A E (λ_=>aB) λRM RN=>?_;simp only[bS,bI];rw[enq,enl SO];refine W 21 ?_;refine W 22 ?_;refine cD 23 E ?_;refine mW 23 aB ?_;refine ef E ?_;exact dy ((RM,RN),SO) trivial V aB
       ·(refine gZ 17 (val:=λa:Nat=>.slice (O ⟨a,0,U⟩) l.length l.length) (cZ:=λa=>[ar (O ⟨a,0,U⟩) l.length l.length l]) (φ:=λ_=>True) rfl aB (λw hw=>acH _ w λj v hj=>hw.dp (k:=0) (o:=0) (j:=j) rfl hj) λSO _=>?_;simp only[bF,aS])
        refine jL 8 18 E ?_ ?_
        ·refine gM 8 rfl aB ?_;refine cD 18 E ?_;refine gM 18 rfl aB ?_;refine cD 19 E ?_;refine gT 19 rfl E aB λnb _=>?_;refine iu 20 10 rfl rfl E A A E (λ_=>aB) λRM RN=>?_;simp only[bS,bI];rw[enq,enl SO];refine W 21 ?_;refine W 22 ?_;refine cD 23 E ?_;refine mW 23 aB ?_;refine ef E ?_;exact dy ((RM,RN),SO) trivial V aB
        ·refine gM 18 rfl aB ?_;refine jL 8 19 E ?_ ?_
         ·refine gM 8 rfl aB ?_;refine cD 19 E ?_;refine gT 19 rfl E aB λnb _=>?_;refine iu 20 10 rfl rfl E A A E (λ_=>aB) λRM RN=>?_;simp only[bS,bI];rw[enq,enl SO];refine W 21 ?_;refine W 22 ?_;refine cD 23 E ?_;refine mW 23 aB ?_;refine ef E ?_;exact dy ((RM,RN),SO) trivial V aB
         ·refine gT 19 rfl E aB λnb _=>?_;refine cD 8 E ?_;refine gM 8 rfl aB ?_;refine iu 20 10 rfl rfl E A A E (λ_=>aB) λRM RN=>?_;simp only[bS,bI];rw[enq,enl SO];refine W 21 ?_;refine W 22 ?_;refine cD 23 E ?_;refine mW 23 aB ?_;refine ef E ?_;exact dy ((RM,RN),SO) trivial V aB
     obtain⟨⟨na,nc⟩,SP⟩:=y;simp only;obtain⟨T',Kr⟩:∃T',T'=ow T na nc (T.ps++[nq SP]):=⟨_,rfl⟩;rw[<-Kr];refine lr (H':=aE (O ⟨mb,mo,U⟩) dw.length mc dw::aE wa (fW bl r n).length wc (fW bl r n)::eG p7 (r:Int)::D p1 xn xp (R:Int) (O ⟨vb,vo,U⟩) n c::aj p2::eM (O ⟨vb,vo,U⟩) c (zs.set b T')) (λw hw=>?_) ?_
     ·have h4:Wd SK wk ([aE (O ⟨mb,mo,U⟩) dw.length mc dw,aE wa (fW bl r n).length wc (fW bl r n),eG p7 (r:Int),D p1 xn xp (R:Int) (O ⟨vb,vo,U⟩) n c,aj p2]++(am (O ⟨vb,vo,U⟩) zs.length c (zs.set b (ow T na nc (T.ps++[nq SP])))::aw na (T.ps++[nq SP]).length nc (T.ps++[nq SP])::qJ T::lQ T::((T.ps++[nq SP]).map dZ++(T.xs.map gC++(zs.eraseIdx b).map bP)))) w:=by
       rw[<-Kr];refine hw.perm (aX.2 λe=>?_);have e1:(T.ps++[nq SP]).map dZ=T.ps.map dZ++[ar (O ⟨SP,0,U⟩) l.length l.length l]:=by rw[bz,Po];rfl
       rw[e1];simp only[bU,bM,dG,D,aj,am,ar,aw,aE,eG,Tg];omega
      have h5:=Mj hT h4;rw[<-Kr]at h5;exact h5
     have abz:T'.dD={C with bg:=(C.bg++fx bl r b)++[mv bl b r]}:=by
      rw[Kr];have h6:T.dD=⟨T.ps.map ch.iN,T.xs.map (·.x),T.kind,T.on,T.to⟩:=rfl;show(⟨(T.ps++[nq SP]).map ch.iN,T.xs.map (·.x),T.kind,T.on,T.to⟩:aq)=_;rw[Nj,Su]at h6;have h7:=bD aq.bg h6;have h8:=bD aq.list h6;have h9:=bD aq.kind h6;have Ss:=bD aq.on h6;have Kn:=bD aq.to h6;simp only at h7 h8 h9 Ss Kn;rw[bz,<-h7,<-h8,<-h9,<-Ss,<-Kn,Po];congr 1;rw[show mv bl b r=⟨r,l⟩ by rw[hl,hm];rfl]
      rfl
     refine aU ?_;refine a_ (j+1,zs.set b T') ⟨iS,?_,λq hq=>?_⟩ bB V aF
     ·simp only
      rw[Dv,eT,yD,abz]
     ·rcases j_ hq with hq|rfl
      ·exact Gp q hq
      ·rw[Kr]
       refine⟨rK.kind,rK.on,by unfold ow;simp only[bW,lm];omega,λp hp=>?_,rK.list,rK.ins,rK.to⟩;unfold ow at hp;simp only at hp;rcases bO.1 hp with hp|hp
       ·exact rK.iN p hp
       ·rw[bQ.1 hp,Po]
        refine⟨⟨by simp only;omega,by simp only;omega⟩,by simp only;omega,λv hv=>?_⟩;simp only at hv;rw[hl]at hv;rw[oC hv];exact⟨by simp only;omega,by simp only;omega⟩
  have iM:i<n:=aD h2;obtain⟨C,hC⟩:=bE bl i A;have hB:=ly (m:=r) hC;obtain⟨B,Su⟩:∃B:aq,B={C with bg:=C.bg++fx bl r i}:=⟨_,rfl⟩;rw[<-Su]at hB;have ab5:kY B r=kY C r:=by rw[Su];exact C5
  have ahH:B.list=C.list:=by rw[Su]
  have hws:rN (bi bl i) r=(B.list.any (λx=>decide (x.dst=(r:Int)))||kY B r):=by
   rw[gK hC,ab5,ahH]
   rfl
  have jD:=HP bl r i;have hwl:=FX bl r i;rw[hws]at jD;obtain⟨b1,o1,Ge,zw,tN⟩:=fd aeo td (λ_ _ h=>by obtain⟨_,_,_,e,_⟩:=h;exact⟨_,_,e⟩) (aZ hB);obtain⟨_,IC,pv,lv,tv,rfl,_,_,wP,kK,ht⟩:=tN i B hB;have KJ:cg i n:=⟨iM⟩;obtain⟨pa,pn,pc,_,_,rfl,_⟩:=id wP;obtain⟨xa,xm,xc,_,_,rfl,_⟩:=id kK;obtain⟨F4,F6,F5,_,_,rfl,_⟩:=id ht
  repeat(first|refine aV ?_|refine dd λ_ _=>?_)
  rename_i zB _;refine bY rfl (λw hw=>Ie (f:=101) [aO (O ⟨p7,0,U⟩)] (λx=>decide (x.dst=(r:Int))) (I xa xm xc) B.list w (kK.le Lm (ab8 hw)) λw2 h2 x hx sv rC=>Wu r p7 x sv rC w2 λj v hj=>?_) ?_
  ·have h3:w.cell? ⟨p7,0+j,U⟩=O v:=hw.kr p7 j v hj
   exact jv h2 h3
  have abD:(decide (1<=i)&&(B.list.any (λx=>decide (x.dst=(r:Int)))||kY B r))=true->(fW bl r (i+1)).length=(fW bl r i).length+1/\(fW bl r (i+1)).map (J Z)=(fW bl r i).map (J Z)++[J Z (i:Int)]:=λh=>by
   rw[jD,al h,bW,bz];exact⟨rfl,rfl⟩
  have acm:(decide (1<=i)&&(B.list.any (λx=>decide (x.dst=(r:Int)))||kY B r))=false->fW bl r (i+1)=fW bl r i:=λh=>by
   rw[jD,h];simp
  refine bA ?_
  by_cases h0:i=0
  ·have e0:=acm (by rw[h0];rfl)
   rw[show decide ((0:Int)<(i:Int))=false by rw[h0];rfl];refine cT ?_;refine a_ (i+1,wa,wc) iM bB (by simp only[e0];exact V) (by simp only[e0];exact .cons _ aF)
  rw[show decide ((0:Int)<(i:Int))=true by simp;omega];have h1i:decide (1<=i)=true:=by simp;omega
  rw[h1i,Bool.true_and]at abD acm;cases aef:B.list.any (λx=>decide (x.dst=(r:Int)))with
  |true=>
   obtain⟨e3,e4⟩:=abD (by rw[aef];rfl)
   repeat(first|refine cT ?_|refine dd λ_ _=>?_)
   refine kh 2 rfl rfl E A A λna nc=>?_;simp only[bS,bI];rw[<-e3,<-e4];refine aU ?_;exact a_ (i+1,na,nc) iM bB V aB
  |false=>
   refine aV ?_;refine bY rfl (λw hw=>L4 B (r:Int) (I pa pn pc) (I xa xm xc) (I F4 F6 F5) ⟨_,_,_,rfl⟩ ⟨_,_,_,rfl⟩ w (wP.le E7 (ab8 hw))) ?_;cases YQ:kY B r with
   |true=>
    obtain⟨e3,e4⟩:=abD (by rw[YQ,Bool.or_true])
    repeat(first|refine aV ?_|refine dd λ_ _=>?_)
    refine kh 2 rfl rfl E A A λna nc=>?_;simp only[bS,bI];rw[<-e3,<-e4];refine aU ?_;exact a_ (i+1,na,nc) iM bB V aB
   |false=>
    have e0:=acm (by rw[aef,YQ];rfl);refine aV ?_;refine a_ (i+1,wa,wc) iM bB (by simp only[e0];exact V) (by simp only[e0];exact .cons _ aF)
section
section
variable {P:Program} {ro:Option Nat} {N:Nat} {ds:List Deferred} {S:Nat->Prop} {w0:ae} {L:List (Nat×K)} {H Hr:List cq} {dw:Act->ae->Prop} {l:List Oper} {di:Nat} {listed:Array Bool} {x:Operand}
theorem mV{f:Nat}(i:Nat){args:List Operand}{us vs xs:List K}{tJ:Array Nat}{pos:String}{aft:Array Go.Edge}{u:K}[ho:eJ l i ⟨O d,.call {callee:=.value x,args:=args.toArray,argTypes:=tJ},ty,pos,aft,U⟩][h:bf P f][hx:B8 L args vs][hf:Ev L x (.func (.func f) us.toArray xs.toArray)](hd:ev d N L=true)(hH:Hr.Sublist H)
  (hc:∀w,Wd S w0 H w->gF P f (us++vs++xs) w u)
  (k:cU N ds S w0 ((d,u)::L) H (wpAnyH P .any l.toArray (et dw) (Wd S w0 Hr) di (listed.setIfInBounds i true))):cU N ds S w0 L H (md P l dw (Wd S w0 Hr) di listed i):=by
 intro a w hS;unfold md wpOp;rw[show l.toArray[i]?=O ⟨O d,.call {callee:=.value x,args:=args.toArray,argTypes:=tJ},ty,pos,aft,U⟩ by simpa using ho.at'];simp only;rw[al (show fq (⟨O d,.call {callee:=.value x,args:=args.toArray,argTypes:=tJ},ty,pos,aft,U⟩:Oper) (yielded l.toArray a.tmps)=true from rfl)]
 left
 unfold Oper.wp;have zV:(execOp a.eval ⟨O d,.call {callee:=.value x,args:=args.toArray,argTypes:=tJ},ty,pos,aft,U⟩).run P w=.ok (.enter f (us++vs++xs).toArray) w:=by
  simp[execOp,resolve,hf.eq _ _ _ hS.fr,Deferred.ofValue,invoke,hx.eq _ _ _ hS.fr,h.run]
 rw[zV];refine Calls.mono (callsIn_wide.1 (hc w hS.wd)) λe w' ⟨v,he,hv,hR⟩=>?_;subst he;subst hv;exact⟨(hS.wd.call hR).sub hH,k _ _ ⟨hS.fr.fv hd v,hS.wd.call hR⟩⟩
theorem Wb{T:Nat}{v:K}{cs:List K}{pos:String}{aft:Array Go.Edge}(i0:Nat)[ho:eJ l i0 ⟨O d,.box T x,ty,pos,aft,U⟩][hx:Ev L x v][hv:jY v cs](hd:ev d N L=true)(hH:Hr.Sublist H)
  (k:∀b,w0.heap.size<=b->cU N ds S w0 (M d b::L) (aM b cs T::H) (wpAnyH P .any l.toArray (et dw) (Wd S w0 Hr) di (listed.setIfInBounds i0 true))):cU N ds S w0 L H (md P l dw (Wd S w0 Hr) di listed i0):=
 Ag i0 rfl λa w hS=>by
  have hv:=hS.wd.box cs T;have e:cs.toArray=v.cells:=by rw[<-‹jY v cs›.eq]
  rw[e]at hv;exact⟨aO (O ⟨w.heap.size,0,U⟩),w.alloc (.cells v.cells T),by simp[execOp,hx.eq _ _ _ hS.fr,Instr.box,newVar,newRow],hv.sub (hH.trans (gh _ _)),k _ hS.wd.size _ _ ⟨hS.fr.fv hd _,hv⟩⟩
end
instance aaX(b off:Nat)(cs:List K)(x:cq)(H:List cq)[h:gm H b off cs]:gm (x::H) b off cs:=⟨λS w0 w hw=>h.eq S w0 w (hw.sub (gh _ _))⟩
def ii{α:Type}(g:Nat->α->α)(i:Nat)(l:List α):List α:=l.mapIdx λj x=>if j<i then g j x else x
section
variable {α:Type} {g:Nat->α->α} {l:List α}
theorem nJ(i:Nat):(ii g i l).length=l.length:=by simp[ii]
theorem wB:ii g 0 l=l:=by
 unfold ii;apply cY;intro j;rw[eD];cases l[j]?<;>simp
theorem vG:ii g l.length l=l.mapIdx g:=by
 unfold ii;refine kM λj x hx=>al (aJ.1 hx).1
theorem qR{j:Nat}{x:α}(h:l[j]?=O x):(ii g i l)[j]?=O (if j<i then g j x else x):=by
 unfold ii;rw[eD,h]
 rfl
theorem BS{x:α}(h:l[i]?=O x):(ii g i l)[i]?=O x:=by rw[qR h,ai A]
theorem yK{x:α}(h:l[i]?=O x):(ii g i l).set i (g i x)=ii g (i+1) l:=by
 apply cY;intro j
 by_cases e:i=j
 ·subst e
  rw[fk (by rw[nJ];exact(aJ.1 h).1),qR h,al A]
 ·rw[fY e]
  cases hj:l[j]? with
  |none=>
   have:=mx.1 hj;rw[cm (by rw[nJ];exact this),cm (by rw[nJ];exact this)]
  |some y=>
   rw[qR hj,qR hj]
   by_cases h1:j<i
   ·rw[al h1,al A]
   ·rw[ai h1,ai A]
theorem Sn(f:α->β)(h:∀j x,f (g j x)=f x)(i:Nat):(ii g i l).map f=l.map f:=by
 apply cY;intro j;rw[aW,aW];cases hj:l[j]? with
 |none=>rw[cm (by rw[nJ];exact mx.1 hj)]
 |some y=>
  rw[qR hj]
  by_cases h1:j<i
  ·rw[al h1,b_,b_,h]
  ·rw[ai h1]
end
noncomputable def iX(bl:List aq)(dL:List Nat):Nat:=(dL.map λb=>zI (bi bl b)).sum
theorem Eg(bl:List aq)(dL dO:List Nat):iX bl (dL++dO)=iX bl dL+iX bl dO:=by unfold iX;rw[bz,List.sum_append]
theorem J6(bl:List aq)(b:Nat):iX bl [b]=zI (bi bl b):=by simp[iX]
theorem zD:∀{dL dO:List Nat},b∉dL->(dL++b::dO).takeWhile (λc=>decide (c≠b))=dL
 |[],dO,_=>by simp
 |x::dL,dO,h=>by
  have h1:x≠b:=λe=>h (e▸vO);rw[bF,uL (aD h1),zD λh2=>h (ey _ h2)]
theorem ac3{n k:Nat}{dL dO:List Nat}(ho:wn bl=dL++b::dO)(hb:b∉dL):B5 bl n b k=((n+iX bl dL+WJ (bi bl b) k:Nat):Int):=by
 unfold B5 num wM;rw[ho,zD hb]
 rfl
theorem P0(h:i<B.bg.length):WJ B i=i:=by unfold WJ;rw[al h]
theorem ZQ(B:aq)(k:Nat):WJ B (B.bg.length+k)=B.bg.length+((B.list.take k).filter ON).length:=by
 unfold WJ;rw[ai A,uN]
section
variable {ν:Nat->Nat->Int} {bl:List aq} {n:Nat} {dL:List Nat} {b:Nat}
noncomputable def Df(ν:Nat->Nat->Int)(b:Nat):Nat->ch->ch:=λi p=>⟨ν b i,p.a,p.c,p.l⟩
noncomputable def zY(ν:Nat->Nat->Int)(bl:List aq)(n b:Nat):Nat->dP->dP:=λk u=>⟨su ν bl n b k u.x,u.a,u.c⟩
noncomputable def TL(ν:Nat->Nat->Int)(bl:List aq)(n b jB:Nat):Nat->ch->ch:=λ_ p=>⟨p.dst,p.a,p.c,p.l.set jB (kt ν bl n b (bi bl b).list.length (p.l.getD jB lB))⟩
noncomputable def LL(ν:Nat->Nat->Int)(bl:List aq)(n b:Nat)(T:aK):aK:={T with ps:=T.ps.mapIdx (Df ν b),xs:=T.xs.mapIdx (zY ν bl n b),on:=kt ν bl n b (bi bl b).list.length T.on}
noncomputable def R5(ν:Nat->Nat->Int)(bl:List aq)(n b jB:Nat)(T:aK):aK:={T with ps:=T.ps.mapIdx (TL ν bl n b jB)}
theorem WK(hB:bl[b]?=O B)(hb:b∉dL)(hT:T.dD=tK ν bl n (yG bl dL) b B):(LL ν bl n b T).dD=tK ν bl n (qi bl dL b []) b B:=by
 obtain⟨h1,h2,h3,h4,h5⟩:=PE (ν:=ν) (n:=n) hb B;obtain⟨h6,h7⟩:=VY (ν:=ν) (n:=n) (dL:=dL) (b:=b) (bl:=bl) B;rw[<-hT]at h1 h2 h3 h4;have e1:(T.ps.mapIdx (Df ν b)).map ch.iN=(tK ν bl n (qi bl dL b []) b B).bg:=by
  rw[oN];apply cY;intro i;rw[eD];have yT:(tK ν bl n (qi bl dL b []) b B).bg.length=T.ps.length:=by
   have h8:=bD (λx:aq=>x.bg.length) hT;simp only[aK.dD,aG]at h8;rw[h8];show(B.bg.mapIdx _).length=(B.bg.mapIdx _).length;rw[kR,kR]
  cases hp:T.ps[i]? with
  |none=>rw[cm (by rw[yT];exact mx.1 hp)];rfl
  |some p=>
   have hq:(tK ν bl n (yG bl dL) b B).bg[i]?=O p.iN:=by
    rw[<-hT];show(T.ps.map ch.iN)[i]?=_;rw[aW,hp]
    rfl
   rw[ZA hq]
   rfl
 have e2:(T.xs.mapIdx (zY ν bl n b)).map (·.x)=(tK ν bl n (qi bl dL b []) b B).list:=by
  rw[oN,h6,<-h1];show _=(T.xs.map (·.x)).mapIdx _;apply cY;intro i;rw[eD,eD,aW];cases T.xs[i]?<;>rfl
 show(⟨(T.ps.mapIdx (Df ν b)).map ch.iN,(T.xs.mapIdx (zY ν bl n b)).map (·.x),T.kind,kt ν bl n b (bi bl b).list.length T.on,T.to⟩:aq)=_;rw[e1,e2];have e3:T.kind=(tK ν bl n (qi bl dL b []) b B).kind:=h4;have e4:T.to=(tK ν bl n (qi bl dL b []) b B).to:=h3;have e5:kt ν bl n b (bi bl b).list.length T.on=(tK ν bl n (qi bl dL b []) b B).on:=by
  rw[h7,gK hB];rw[show T.on=B.on from h2]
 rw[e3,e4,e5]
theorem WM{jB:Nat}{eE:List Int}(hC:bl[t]?=O C)(hb:b∉dL)(ht:(t:Int)∉eE)(hK:(be bl t)[jB]?=O b)(tP:∀j,(be bl t)[j]?=O b->j=jB)(hT:T.dD=tK ν bl n (qi bl dL b eE) t C)(hl:∀p∈C.bg,jB<p.src.length):
  (R5 ν bl n b jB T).dD=tK ν bl n (qi bl dL b (eE++[(t:Int)])) t C:=by
 have Au:prB bl t jB=b:=by unfold prB;rw[hK];rfl
 have e1:(T.ps.mapIdx (TL ν bl n b jB)).map ch.iN=(tK ν bl n (qi bl dL b (eE++[(t:Int)])) t C).bg:=by
  rw[oN];apply cY;intro i;rw[eD];have yT:C.bg.length=T.ps.length:=by
   have h8:=bD (λx:aq=>x.bg.length) hT;simp only[aK.dD,aG]at h8;rw[h8];show _=(C.bg.mapIdx _).length;rw[kR]
  cases hp:T.ps[i]? with
  |none=>
   rw[cm (by
    show(C.bg.mapIdx _).length<=i;rw[kR,yT];exact mx.1 hp)]
   rfl
  |some p=>
   have hq:(tK ν bl n (qi bl dL b eE) t C).bg[i]?=O p.iN:=by
    rw[<-hT];show(T.ps.map ch.iN)[i]?=_;rw[aW,hp]
    rfl
   obtain⟨c,hc⟩:∃c,C.bg[i]?=O c:=⟨_,bL (by rw[yT];exact(aJ.1 hp).1)⟩;obtain⟨v,_,h2,_,h3⟩:=Ll hc hb ht hK tP hq (hl c (aA hc));have DR:p.l[jB]?=O v:=h2;rw[h3];show O (ch.iN (TL ν bl n b jB i p))=O ⟨p.iN.dst,p.iN.src.set jB (pV ν bl n t jB v)⟩;congr 1;show(⟨p.dst,p.l.set jB (kt ν bl n b (bi bl b).list.length (p.l.getD jB lB))⟩:gD)=⟨p.dst,p.l.set jB (pV ν bl n t jB v)⟩;rw[show p.l.getD jB lB=v by rw[fF,DR];rfl];unfold pV;rw[Au]
 have h1:=bD aq.list hT;have h2:=bD aq.kind hT;have h3:=bD aq.on hT;have h4:=bD aq.to hT;show(⟨(T.ps.mapIdx (TL ν bl n b jB)).map ch.iN,T.xs.map (·.x),T.kind,T.on,T.to⟩:aq)=_;rw[e1];let Ta:=(qi bl dL b (eE++[(t:Int)]));have QK:T.xs.map (·.x)=(tK ν bl n Ta t C).list:=h1;have DR:T.kind=(tK ν bl n Ta t C).kind:=h2;have tM:T.on=(tK ν bl n Ta t C).on:=h3;have h4':T.to=(tK ν bl n Ta t C).to:=h4;rw[QK,DR,tM,h4']
theorem Qf{F cU:Mk}{b:Nat}(hB:bl[b]?=O B)(hC:C=tK ν bl n cU b B)(ho:∀c eE,c≠b->tK ν bl n cU c eE=tK ν bl n F c eE):(F7 ν bl n F).set b C=F7 ν bl n cU:=by
 apply cY;intro i
 by_cases e:b=i
 ·subst e
  rw[fk (by rw[BW];exact(aJ.1 hB).1),BV hB,hC]
 ·rw[fY e]
  cases h:bl[i]? with
  |none=>
   have:=mx.1 h;rw[cm (by rw[BW];exact this),cm (by rw[BW];exact this)]
  |some eE=>rw[BV h,BV h,ho i eE λh=>e h.symm]
theorem V7{v:cI}(hv:kW R v):Oe (f_ R (nm ν bl n b i)) v=kt ν bl n b i v:=by
 unfold Oe kt
 by_cases h:v.dq=true
 ·rw[al h,al h]
  obtain⟨h1,h2⟩:=hv h;rw[fF,xP A];simp only[gw];congr 1;omega
 ·rw[ai h,ai h]
theorem Yd(hc:c∈pN bl b):O0 ν bl n c=nm ν bl n b (bi bl b).list.length:=by
 have h2:ed bl c=(b:Int):=by unfold pN at hc;simpa using(cR.1 hc).2
 funext r
 unfold O0;rw[h2,ai A,fR]
end
theorem P7{u v:α}:∀{L:List α} {j:Nat},j+2<=L.length->L.take j++[u,v]++L.drop (j+2)=(L.set j u).set (j+1) v
 |x::y::L,0,_=>by simp
 |x::L,j+1,h=>by
  have h1:=P7 (u:=u) (v:=v) (L:=L) (j:=j) (by simp only[lF]at h;omega);rw[List.take_succ_cons,bS,bS,<-h1];simp
theorem Xj{a:ax}{T':aK}(hT:zs[t]?=O T)
  (h:Wd S w0 (X++(am a zs.length c (zs.set t T')::(ij T'++(zs.eraseIdx t).map bP))) w):Wd S w0 (X++eM a c (zs.set t T')) w:=by
 have EQ:=(aJ.1 hT).1;have h2:Wd S w0 (ij T'++(X++(am a zs.length c (zs.set t T')::(zs.eraseIdx t).map bP))) w:=by
  refine h.perm ?_
  classical
  refine aX.2 λe=>?_;simp only[bU,bM,am];omega
 refine(Wd.join h2).perm ?_;have h5:=ig bP (l:=zs.set t T') (k:=t) (x:=T') (fk EQ);rw[nt]at h5;unfold eM;rw[fK]
 classical
 refine aX.2 λe=>?_;have h7:=aX.1 h5 e;simp only[bU,bM,bP,am]at h7|-
 omega
theorem Db{g:Nat->α->α}(f:α->β)(h:∀j x,f (g j x)=f x)(l:List α):(l.mapIdx g).map f=l.map f:=by rw[<-vG];exact Sn f h _
theorem Ij{g:Nat->α->α}(f:α->List β)(h:∀j x,f (g j x)=f x)(l:List α):(l.mapIdx g).flatMap f=l.flatMap f:=by
 rw[rT,rT,Db f h]
end
end
end Go.Proofs.YthfhgolkafpmnaaGreatDoor
