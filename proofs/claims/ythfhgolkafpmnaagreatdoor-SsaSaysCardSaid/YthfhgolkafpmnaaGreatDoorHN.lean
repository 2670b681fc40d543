/- Lemmas. -/
import Derived.Test.YthfhgolkafpmnaaGreatDoorHF
namespace Go.Proofs.YthfhgolkafpmnaaGreatDoor
open Go.Value renaming int->J,slice->I,pointer->aO,string->aQ,bool->ag,agg->aC
open Go.IntKind renaming i64->Z
open Option renaming some->O,none->U
open Go renaming Value->K,World->ae
open List renaming range->bj
open Go.Instr renaming sureAddr->dB
open Go.Proofs.Tryz
open Go.Proofs.Tryz renaming prog->Y
open Go Go.RowKit
variable {f:Fin} {R d e:Int} {FR:Int->Int->sD->sD->Prop} {B C:aq} {X:bZ} {x:iA} {p:gD} {u v:dk} {m:List sD} {bl:List aq} {s t:nZ} {b i j n:Nat} {α β:Type}
structure B9(fs:List bZ)(X cP:bZ):Prop where
 name:cP.name=X.name
 params:cP.params=X.params
 bm:cP.params<=cP.bm/\cP.bm<=100
 many:1<=cP.blocks.length/\cP.blocks.length<=40
 size:ja cP.blocks<=300
 body:qx fs cP
theorem Hq{l m:List α}{g:α->β}(hl:m.length=l.length)(h:∀(i:Nat) x y,l[i]?=O x->m[i]?=O y->g y=g x):m.map g=l.map g:=by
 apply cY;intro i;rw[aW,aW]
 by_cases hi:i<l.length
 ·rw[bL hi,bL (show i<m.length by omega)]
  simp only[b_];rw[h i _ _ (bL hi) (bL A)]
 ·rw[cm A,cm A]
theorem GM(h:jy u)(hg:v.globals=u.globals)(hl:v.funcs.length=u.funcs.length)(hf:∀(i:Nat) X cP,u.funcs[i]?=O X->v.funcs[i]?=O cP->B9 u.funcs X cP):jy v:=by
 have Pn:v.funcs.map (·.name)=u.funcs.map (·.name):=Hq hl λi X cP hX hY=>(hf i X cP hX hY).name;have vg:∀i:Nat,(v.funcs[i]?).map bZ.params=(u.funcs[i]?).map bZ.params:=λi=>by
  rw[<-aW,<-aW,Hq (g:=bZ.params) hl λi X cP hX hY=>(hf i X cP hX hY).params]
 have aaE:fE v.funcs=fE u.funcs:=by rw[v_,v_,Pn]
 refine⟨by rw[hg];exact h.zm,by rw[hl];exact h.funcs,by rw[hg];exact h.Kl,λi hi=>?_,λzf hZ=>?_,by rw[aaE];exact h.main,?_⟩
 ·have zt:i<u.funcs.length:=A
  have h0:=h.head i zt;unfold mR at h0|-
  rw[List.map_take,Pn,<-List.map_take,hg];unfold lC at h0|-
  rw[bL zt]at h0;rw[bL hi];have lG:=hf i _ _ (bL zt) (bL hi);obtain⟨h1,h2,h3,h4,h5,h6⟩:=vd.1 h0;refine vd.2 ⟨by rw[lG.name];exact h1,by rw[lG.name];exact h2,by rw[lG.params];exact h3,lG.bm,?_,lG.size⟩;have:=lG.many;omega
 ·obtain⟨j,hj⟩:=bR hZ
  have iS:=(aJ.1 hj).1;have hb:=(hf j _ _ (bL (show j<u.funcs.length by omega)) hj).body;exact⟨hb.ends,hb.bg,λb C hC x hx=>by rw[K4 hl vg];exact hb.list b C hC x hx⟩
 ·rw[aaE]
  have:=h.none;have hp:=vg (fE u.funcs).toNat;unfold lC at this|-
  cases h1:u.funcs[(fE u.funcs).toNat]?<;>cases h2:v.funcs[(fE u.funcs).toNat]?<;>simp[h1,h2]at hp this|-
  omega
theorem J1(h:jy u):vu u:=by
 refine⟨h.funcs,λX hX=>?_⟩;obtain⟨j,hj⟩:=bR hX;have h0:=h.head j (aJ.1 hj).1;unfold mR lC at h0;rw[hj]at h0;obtain⟨_,_,_,_,h5,h6⟩:=vd.1 h0;exact⟨A,h6⟩
theorem B9.same(h:jy u)(hX:u.funcs[i]?=O X):B9 u.funcs X X:=by
 have h0:=h.head i (aJ.1 hX).1;unfold mR lC at h0;rw[hX]at h0;obtain⟨_,_,_,h4,h5,h6⟩:=vd.1 h0;exact⟨rfl,rfl,h4,A,h6,h.body X (aA hX)⟩
def adB(u:dk):Prop:=∀X∈u.funcs,∀B∈X.blocks,AA B
def adx(u:dk):Prop:=∀g∈u.globals,∀x∈g.init,dE x
def MB(v:dk):Nat->nZ->nZ->Prop
 |0,t,t'=>t=t'
 |k+1,t,t'=>∃t1,nM v t=.inl t1/\MB v k t1 t'
theorem Ez:∀{k:Nat} {t t':nZ},MB v k t t'->∀m,tE v (k+m) t=tE v m t'
 |0,_,_,h,m=>by rw[show _=_ from h,eC]
 |k+1,t,t',⟨t1,h1,h2⟩,m=>by
  rw[show k+1+m=(k+m)+1 by omega,tE,h1];exact Ez h2 m
theorem MB.one{t':nZ}(h:nM v t=.inl t'):MB v 1 t t':=⟨t',h,rfl⟩
theorem TM(h:sV u s B=.inr f):f=s.stop 0 (iU s.dC B.on):=by
 unfold sV at h
 split at h
 ·cases h
 split at h
 ·cases h
 split at h
 ·exact(Sum.inr.inj h).symm
 ·cases h
theorem Vs(h:vl u s x=.inr f):∃c:Int,c≠1/\f=s.stop c 0:=by
 unfold vl at h;simp only at h
 repeat' (split at h)
 all_goals first
  |(cases h;done)
  |exact⟨_,by decide,(Sum.inr.inj h).symm⟩
theorem wy{s':nZ}(h:nM u s=.inl s'):s'.steps=s.steps+1:=by
 rw[oA]at h
 split at h
 ·exact Ep h
 ·exact EZ h
theorem yJ(h:nM u s=.inr f):f.steps=s.steps+1/\f.state≠1:=by
 rw[oA]at h
 split at h
 ·rw[TM h];exact⟨rfl,show(0:Int)≠1 by decide⟩
 ·obtain⟨c,h1,h2⟩:=Vs h
  rw[h2];exact⟨rfl,h1⟩
theorem zO:∀{k:Nat} {t t':nZ},MB v k t t'->t'.steps=t.steps+k
 |0,t,t',h=>by rw[show t=t' from h];rfl
 |k+1,t,t',⟨t1,h1,h2⟩=>by rw[zO h2,wy h1];omega
structure Alike(f g:Fin):Prop where
 state:g.state=f.state
 value:g.value=f.value
 out:g.out=f.out
def Sim(u v:dk)(lo hi:Nat)(R:nZ->nZ->Prop):Prop:=∀s t,R s t->
 (∀s',nM u s=.inl s'->∃k t',lo<=k/\k<=hi/\MB v k t t'/\R s' t')/\
 (∀f,nM u s=.inr f->∃k t' g,lo<=k+1/\k+1<=hi/\MB v k t t'/\nM v t'=.inr g/\Alike f g)
theorem P4{lo hi:Nat}{R:nZ->nZ->Prop}(h:Sim u v lo hi R):∀(n:Nat) (s t:nZ) (m:Nat),R s t->(tE u n s).state≠1->hi*n<=m->
  Alike (tE u n s) (tE v m t)/\∃i j,(tE u n s).steps=s.steps+i/\(tE v m t).steps=t.steps+j/\lo*i<=j/\j<=hi*i
 |0,s,t,m,_,h1,_=>absurd rfl h1
 |n+1,s,t,m,hR,h1,hm=>by
  rw[Nat.mul_add,km]at hm;obtain⟨hg,hf⟩:=h s t hR;rw[tE]at h1|-
  cases he:nM u s with
  |inl s'=>
   rw[he]at h1;simp only at h1|-
   obtain⟨k,t',hlo,hhi,UI,hR'⟩:=hg s' he;obtain⟨q,rfl⟩:∃q,m=k+q:=⟨m-k,A⟩;rw[Ez UI];obtain⟨ha,i,j,e1,e2,e3,e4⟩:=P4 h n s' t' q hR' h1 A;have h5:=wy he;have h6:=zO UI;refine⟨ha,i+1,j+k,A,A,?_,?_⟩
   ·rw[Nat.mul_add];omega
   ·rw[Nat.mul_add];omega
  |inr f=>
   simp only;obtain⟨k,t',g,hlo,hhi,UI,nW,ha⟩:=hf f he;obtain⟨q,rfl⟩:∃q,m=k+(q+1):=⟨m-k-1,A⟩;rw[Ez UI,tE,nW];simp only;have h5:=(yJ he).1;have h6:=zO UI;have h7:=(yJ nW).1;exact⟨ha,1,k+1,h5,A,A,A⟩
inductive S8(FR:Int->Int->sD->sD->Prop):List sD->List sD->Int->Int->Prop
 |nil (d e:Int):S8 FR [] [] d e
 |add {l m:List sD} {f g:sD} {d e:Int}:S8 FR l m f.dst g.dst->FR d e f g->S8 FR (l++[f]) (m++[g]) d e
theorem S8.len{l:List sD}(h:S8 FR l m d e):m.length=l.length:=by
 induction h with
 |nil=>rfl
 |add _ _ ih=>simp[ih]
theorem S8.abc{l':List sD}(h:S8 FR l' m d e):(l'=[]/\m=[])\/∃l f m' g,l'=l++[f]/\m=m'++[g]/\S8 FR l m' f.dst g.dst/\FR d e f g:=by
 cases h with
 |nil=>exact .inl ⟨rfl,rfl⟩
 |add h1 h2=>exact .inr ⟨_,_,_,_,rfl,rfl,h1,h2⟩
structure adz(FR:Int->Int->sD->sD->Prop)(FT:sD->sD->Prop)(s t:nZ):Prop where
 mem:t.mem=s.mem
 mE:t.mE=s.mE
 out:t.out=s.out
 stk:S8 FR s.rest t.rest s.dC.dst t.dC.dst
 dC:FT s.dC t.dC
theorem Pw{y:iA}(G_:y.op=x.op)(ve:y.fn=x.fn)(ha:iU t.dC y.a=iU s.dC x.a)(hb:iU t.dC y.b=iU s.dC x.b)(sZ:x.op=20->y.args.map (iU t.dC)=x.args.map (iU s.dC))
  (hm:t.mem=s.mem) (hi:t.mE=s.mE) (ho:t.out=s.out) (hl:t.rest.length=s.rest.length) (hdx:x.op=19\/x.op=22->x.dst<0) (hdy:x.op=19\/x.op=22->y.dst<0):
  (∃f g,vl u s x=.inr f/\vl v t y=.inr g/\Alike f g)\/
  (x.op=20/\vl u s x=.inl (zL u s x.fn.toNat x.dst (x.args.map (iU s.dC)))/\vl v t y=.inl (zL v t x.fn.toNat y.dst (x.args.map (iU s.dC))))\/
  (x.op≠20/\∃mem mE out n,vl u s x=.inl {s with mem:=mem,mE:=mE,out:=out,dC:=s.dC.set x.dst n}/\vl v t y=.inl {t with mem:=mem,mE:=mE,out:=out,dC:=t.dC.set y.dst n}):=by
 obtain⟨akW,akV,akX,ss,sr,st,sc⟩:=s;obtain⟨ado,afZ,adp,ts,tr,tt,tc⟩:=t;simp only at ha hb sZ hm hi ho hl;subst hm hi ho;have qh:∀(f:sD) (d n:Int),d<0->f.set d n=f:=λf d n h=>by
  unfold sD.set LQ;rw[ai A]
 unfold vl;simp only[G_,ve,ha,hb,hl]
 by_cases h1:x.op=18\/x.op=19
 ·simp only[al h1]
  by_cases hw:(!within (iU st x.a) 0 ((ado.length:Int)-1))=true
  ·simp only[hw,if_true]
   exact .inl ⟨_,_,rfl,rfl,rfl,rfl,rfl⟩
  ·simp only[hw]
   refine .inr (.inr ⟨A,?_⟩)
   by_cases h9:x.op=19
   ·simp only[h9,if_true]
    refine⟨ado.set (iU st x.a).toNat (iU st x.b),afZ,adp,0,?_,?_⟩
    ·rw[qh _ _ _ (hdx (.inl h9))];rfl
    ·rw[qh _ _ _ (hdy (.inl h9))];rfl
   ·simp only[h9,if_false]
    exact⟨_,_,_,_,rfl,rfl⟩
 simp only[ai h1]
 by_cases h2:x.op=20
 ·simp only[al h2,sZ h2]
  by_cases hd:sr.length+1=30
  ·simp only[hd,if_true]
   exact .inl ⟨_,_,rfl,rfl,rfl,rfl,rfl⟩
  ·simp only[hd,if_false]
   exact .inr (.inl ⟨h2,by trivial,by trivial⟩)
 simp only[ai h2]
 by_cases h3:x.op=21
 ·simp only[al h3]
  exact .inr (.inr ⟨A,_,_,_,_,rfl,rfl⟩)
 simp only[ai h3]
 by_cases h4:x.op=22
 ·simp only[al h4]
  by_cases hd:adp.length=200
  ·simp only[hd,if_true]
   exact .inl ⟨_,_,rfl,rfl,rfl,rfl,rfl⟩
  ·simp only[hd,if_false]
   refine .inr (.inr ⟨A,ado,afZ,adp++[iU st x.a],0,?_,?_⟩)
   ·rw[qh _ _ _ (hdx (.inr h4))]
   ·rw[qh _ _ _ (hdy (.inr h4))]
 simp only[ai h4];cases Xb x.op (iU st x.a) (iU st x.b)with
 |none=>exact .inl ⟨_,_,rfl,rfl,rfl,rfl,rfl⟩
 |some n=>exact .inr (.inr ⟨h2,_,_,_,_,rfl,rfl⟩)
theorem PY(h2:B.kind≠2)(h3:B.kind≠3)(hk:C.kind=B.kind)(Dv:iU t.dC C.on=iU s.dC B.on)(ho:t.out=s.out)(hs:S8 FR s.rest t.rest s.dC.dst t.dC.dst):
  (∃f g,sV u s B=.inr f/\sV v t C=.inr g/\Alike f g)\/
  (∃l f m g,s.rest=l++[f]/\t.rest=m++[g]/\sV u s B=.inl {s with rest:=l,dC:=f.set s.dC.dst (iU s.dC B.on)}/\sV v t C=.inl {t with rest:=m,dC:=g.set t.dC.dst (iU s.dC B.on)}/\S8 FR l m f.dst g.dst/\FR s.dC.dst t.dC.dst f g):=by
 unfold sV;rw[hk,Dv];simp only[ai h2,ai h3];rcases hs.abc with⟨e1,e2⟩|⟨l,f,m,g,e1,e2,e3,e4⟩
 ·refine .inl ⟨s.stop 0 (iU s.dC B.on),t.stop 0 (iU s.dC B.on),by rw[e1];rfl,by rw[e2];rfl,rfl,rfl,ho⟩
 ·refine .inr ⟨l,f,m,g,e1,e2,?_,?_,e3,e4⟩
  ·rw[e1];simp
  ·rw[e2];simp
theorem K9(hB:B.kind=2\/B.kind=3)(hk:C.kind=B.kind)(hl:(B.to.length:Int)=B.kind-1)(Dv:iU t.dC C.on=iU s.dC B.on):
  ∃i,i<B.to.length/\sV u s B=.inl (Bm u s (B.to.getD i 0))/\sV v t C=.inl (Bm v t (C.to.getD i 0)):=by
 unfold sV;rw[hk,Dv];rcases hB with h|h
 ·simp only[al h]
  exact⟨0,A,rfl,rfl⟩
 ·simp only[ai (show¬B.kind=2 by omega),al h]
  by_cases h0:iU s.dC B.on≠0
  ·simp only[al h0]
   exact⟨0,A,rfl,rfl⟩
  ·simp only[ai h0]
   exact⟨1,A,rfl,rfl⟩
def WS(bm:List Int)(l:List (Nat×Int)):List Int:=l.foldl (λrs p=>rs.set p.1 p.2) bm
theorem HA(f:sD)(k:Nat)(ps:List gD):pe f k ps=WS f.bm (ps.map λp=>(p.dst.toNat,iU f (p.src.getD k lB))):=by
 unfold pe WS;rw[List.foldl_map]
theorem vH{fs:List bZ}(h:fA fs R x=0):(x.a∈eh x\/x.a=lB)/\(x.b∈eh x\/x.b=lB)/\(x.op=20->x.args=eh x)/\(x.op=19\/x.op=22->x.dst<0):=by
 unfold fA at h
 split at h
 ·cases h
 rename_i G_
 split at h
 ·cases h
 rename_i hs;simp only[Bool.not_eq_true]at hs;clear h;have G_:1<=x.op/\x.op<=22:=by simp[within]at G_;omega
 have oL:∀v:cI,kN v=true->v=lB:=λv hv=>by
  obtain⟨vr,vn⟩:=v;simp only[kN,eU,beq_iff_eq,dv]at hv;obtain⟨rfl,rfl⟩:=hv
  rfl
 unfold tG at hs;simp only[Bool.or_eq_false_iff,iW,Bool.not_eq_false',fg]at hs;obtain⟨⟨⟨h1,h2⟩,h3⟩,h4⟩:=hs;unfold shape at h1 h2 h3;unfold eh
 by_cases e20:x.op=20
 ·simp[e20]at h2 h3|-
  exact⟨.inr (oL _ h2),.inr (oL _ h3)⟩
 by_cases e21:x.op=21
 ·simp[e21]at h2 h3|-
  exact⟨oL _ h2,oL _ h3⟩
 rw[ai e21,ai e20]
 by_cases e1:((x.op=1\/x.op=16)\/x.op=17)\/x.op=18
 ·rw[al e1]at h1 h2 h3
  rw[ai A,al A];simp at h3;exact⟨.inl cK,.inr (oL _ h3),λe=>absurd e e20,λe=>A⟩
 rw[ai e1]at h1 h2 h3
 by_cases e2:2<=x.op/\x.op<=15
 ·rw[al (.inl e2)]
  exact⟨.inl cK,.inl cK,λe=>absurd e e20,λe=>A⟩
 rw[ai e2]at h1 h2 h3
 by_cases e3:x.op=19
 ·simp[e3]at h1|-
  omega
 have e4:x.op=22:=A;simp[e4]at h1 h3|-
 exact⟨.inr (oL _ h3),A⟩
theorem wu{rW:List aq}(hl:rW.length=bl.length)(ht:∀i,dY rW i=dY bl i)(t:Nat):be rW t=be bl t:=by
 unfold be;simp only[hl,ht]
section
set_option maxHeartbeats 8000000
attribute [local irreducible] wpListIn Code.wpIn Exit.then Exit.inBlock bodyPost wpQuiet wpAnyIn wpAnyH bodyPostM
theorem iJ(a:Int):decide (a=a)=true:=by simp
theorem GA(a b:K)(l:List cI)(w0:ae)(ha:aY w0 a 2 l mp)(hb:aY w0 b 2 l mp):gF Y 139 [a,b] w0 (ag true):=by
 obtain⟨aa,an,ac,ab,ao,rfl,rfl,_,_,_,Kt,Iw⟩:=ha;obtain⟨ba,bn,bc,bb,bo,rfl,rfl,_,_,_,qd,zP⟩:=hb;refine aR func139 rfl ntmps139 rfl (Wd.nil db w0) ?_;refine bA ?_;rw[iJ];refine aU ?_;refine bH (λ(i:Nat)=>i<=l.length) (λi=>[(5,J Z i),(0,I aa l.length ac),(1,I ba l.length bc)]) (λ_=>[]) (λi=>l.length-i) 0 (aN _) (aP V kg) λi hi=>?_;refine bA ?_;apply aL<;>intro h2
 ·have ce:i<l.length:=aD h2
  obtain⟨x,hx⟩:=bE l i ce;have mJ:cl aa ab ao:=⟨Kt (aZ hx)⟩;have oF:cl ba bb bo:=⟨qd (aZ hx)⟩;have kK:cg i l.length:=⟨ce⟩;obtain⟨_,gW,rfl,_⟩:=Iw i x hx;obtain⟨_,nP,rfl,_⟩:=zP i x hx;have nO:bu w0 ab (ao+i*2) _:=⟨gW⟩;have QQ:bu w0 bb (bo+i*2) _:=⟨nP⟩;refine aU ?_;refine kX mixed bC ?_;refine kJ ?_;rw[iJ,beq_self_eq_true,Bool.and_self];refine aU ?_;rw[show(i:Int)+1=((i+1:Nat):Int) by omega];refine a_ (i+1) ce A V aF
 refine aV ?_;exact cv rfl rfl
theorem Rb(x:iA)(va vb:K)(w0:ae)(ha:aY w0 va 2 x.args mp)(hb:aY w0 vb 2 x.args mp):
  gF Y 140 [aC #[J Z x.op,J Z x.dst,ag x.a.dq,J Z x.a.n,ag x.b.dq,J Z x.b.n,J Z x.fn,va],aC #[J Z x.op,J Z x.dst,ag x.a.dq,J Z x.a.n,ag x.b.dq,J Z x.b.n,J Z x.fn,vb]] w0 (ag true):=by
 have Uk:=ha;have wH:=hb;obtain⟨aa,an,ac,_,_,rfl,_⟩:=ha;obtain⟨ba,bn,bc,_,_,rfl,_⟩:=hb;refine aR func140 rfl ntmps140 rfl (Wd.nil db w0) ?_
 repeat(first|refine bA ?_|refine dd λ_ _=>?_)
 rw[iJ];refine aV ?_;rw[iJ];refine aV ?_;rw[iJ,beq_self_eq_true,Bool.and_self];refine aV ?_;rw[iJ,beq_self_eq_true,Bool.and_self];refine aV ?_;rw[iJ];refine aV ?_;refine bY rfl (λw hw=>GA _ _ x.args w (Uk.cB jH hw.c_) (wH.cB jH hw.c_)) ?_;refine aU ?_;exact cv rfl rfl
theorem JX(p l t p2 l2 t2:K)(B:aq)(w0:ae)(hp:aY w0 p 2 B.bg B_)(hl:aY w0 l 8 B.list Dm)(ht:aY w0 t 1 B.to gI)(Ps:aY w0 p2 2 B.bg B_)(UR:aY w0 l2 8 B.list Dm)(XC:aY w0 t2 1 B.to gI):
  gF Y 93 [aC #[p,l,J Z B.kind,ag B.on.dq,J Z B.on.n,t],aC #[p2,l2,J Z B.kind,ag B.on.dq,J Z B.on.n,t2]] w0 (ag true):=by
 have IK:=ht;have aiw:=XC;obtain⟨pa,pn,pc,pb,po,rfl,rfl,_,_,_,hpa,U2⟩:=hp;obtain⟨qa,qn,qc,qb,qo,rfl,rfl,_,_,_,Dy,acz⟩:=Ps;obtain⟨la,ln,lc,lb,lo,rfl,rfl,_,_,_,IJ,xz⟩:=hl;obtain⟨ma,mn,mc,mb,mo,rfl,rfl,_,_,_,UX,Nw⟩:=UR;obtain⟨ta,tn,tc,_,_,rfl,_⟩:=ht;obtain⟨ua,un,uc,_,_,rfl,_⟩:=XC;refine aR func93 rfl ntmps93 rfl (Wd.nil db w0) ?_
 repeat(first|refine bA ?_|refine dd λ_ _=>?_)
 rename_i p2 _ p3 _;rw[iJ,Bool.not_true];refine aV ?_;rw[iJ,Bool.not_true];refine aU ?_;refine bH (λ(i:Nat)=>i<=B.bg.length) (λi=>[(5,J Z i),M 2 p2,M 3 p3]) (λ_=>[au p3 qa B.bg.length qc ma B.list.length mc B.kind B.on ua un uc,au p2 pa B.bg.length pc la B.list.length lc B.kind B.on ta tn tc]) (λi=>B.bg.length-i) 0 (aN _) (aP V kg) λi hi=>?_;refine bA ?_;apply aL<;>intro h2
 ·have ce:i<B.bg.length:=aD h2
  obtain⟨x,hx⟩:=bE B.bg i ce;have mJ:cl pa pb po:=⟨hpa (aZ hx)⟩;have oF:cl qa qb qo:=⟨Dy (aZ hx)⟩;have kK:cg i B.bg.length:=⟨ce⟩;obtain⟨_,gW,v1,rfl,_,hv1⟩:=U2 i x hx;obtain⟨_,nP,v2,rfl,_,Bi⟩:=acz i x hx;have aiD:=hv1;have aiE:=Bi;obtain⟨_,_,_,_,_,rfl,_⟩:=hv1;obtain⟨_,_,_,_,_,rfl,_⟩:=Bi;have nO:bu w0 pb (po+i*2) _:=⟨gW⟩;have QQ:bu w0 qb (qo+i*2) _:=⟨nP⟩;refine aU ?_;refine kX mixed bC ?_;refine kJ ?_;rw[iJ,Bool.not_true];refine kJ ?_;refine ww rfl (λw hw=>GA _ _ x.src w (aiD.cB jH hw.c_) (aiE.cB jH hw.c_)) ?_;refine kJ ?_;refine aU ?_;rw[show(i:Int)+1=((i+1:Nat):Int) by omega];refine a_ (i+1) ce A V aF
 refine aV ?_;refine bH (λ(i:Nat)=>i<=B.list.length) (λi=>[(6,J Z i),M 2 p2,M 3 p3]) (λ_=>[au p3 qa B.bg.length qc ma B.list.length mc B.kind B.on ua un uc,au p2 pa B.bg.length pc la B.list.length lc B.kind B.on ta tn tc]) (λi=>B.list.length-i) 0 (aN _) (aP V kg) λi hi=>?_;refine bA ?_;apply aL<;>intro h3
 ·have ce:i<B.list.length:=aD h3
  obtain⟨x,hx⟩:=bE B.list i ce;have mJ:cl la lb lo:=⟨IJ (aZ hx)⟩;have oF:cl ma mb mo:=⟨UX (aZ hx)⟩;have kK:cg i B.list.length:=⟨ce⟩;obtain⟨_,gW,v1,rfl,_,_,_,_,_,hv1⟩:=xz i x hx;obtain⟨_,nP,v2,rfl,_,_,_,_,_,Bi⟩:=Nw i x hx;have nO:bu w0 lb (lo+i*8) _:=⟨gW⟩;have QQ:bu w0 mb (mo+i*8) _:=⟨nP⟩;refine aU ?_;refine kX mixed bC ?_;refine kJ ?_;refine ww rfl (λw hw=>Rb x _ _ w (hv1.cB jH hw.c_) (Bi.cB jH hw.c_)) ?_;refine kJ ?_;refine aU ?_;rw[show(i:Int)+1=((i+1:Nat):Int) by omega];refine a_ (i+1) ce A V aF
 refine aV ?_;rw[iJ];refine aV ?_;rw[iJ,beq_self_eq_true,Bool.and_self];refine aV ?_;refine bY rfl (λw hw=>Vw _ _ B.to B.to w (IK.cB du hw.c_) (aiw.cB du hw.c_)) ?_;rw[show decide (B.to=B.to)=true by simp];refine aU ?_;exact cv rfl rfl
theorem Nc(nm:ByteArray)(pa re:Int)(bl:List aq)(v v2:K)(w0:ae)(hv:aY w0 v 6 bl da)(Bi:aY w0 v2 6 bl da):
  gF Y 57 [aC #[aQ nm,J Z pa,J Z re,v],aC #[aQ nm,J Z pa,J Z re,v2]] w0 (ag true):=by
 obtain⟨la,ln,lc,lb,lo,rfl,rfl,_,_,_,IJ,xz⟩:=hv;obtain⟨ma,mn,mc,mb,mo,rfl,rfl,_,_,_,UX,Nw⟩:=Bi;refine aR func57 rfl ntmps57 rfl (Wd.nil db w0) ?_
 repeat(first|refine bA ?_|refine dd λ_ _=>?_)
 rename_i p2 _ p3 _;rw[show(!(nm.toList==nm.toList))=false by simp];refine aV ?_;rw[iJ,Bool.not_true];refine aV ?_;rw[iJ,Bool.not_true];refine aV ?_;rw[iJ,Bool.not_true];refine aU ?_;refine bH (λ(i:Nat)=>i<=bl.length) (λi=>[(5,J Z i),M 2 p2,M 3 p3]) (λ_=>[D p3 nm pa re ma bl.length mc,D p2 nm pa re la bl.length lc]) (λi=>bl.length-i) 0 (aN _) (aP V kg) λi hi=>?_;refine bA ?_;apply aL<;>intro h2
 ·have ce:i<bl.length:=aD h2
  obtain⟨x,hx⟩:=bE bl i ce;have mJ:cl la lb lo:=⟨IJ (aZ hx)⟩;have oF:cl ma mb mo:=⟨UX (aZ hx)⟩;have kK:cg i bl.length:=⟨ce⟩;obtain⟨_,gW,p1,l1,t1,rfl,_,_,Kn,h12,h13⟩:=xz i x hx;obtain⟨_,nP,p4,l4,t4,rfl,_,_,h41,h42,h43⟩:=Nw i x hx;have nO:bu w0 lb (lo+i*6) _:=⟨gW⟩;have QQ:bu w0 mb (mo+i*6) _:=⟨nP⟩;refine aU ?_;refine kX mixed bC ?_;refine kJ ?_;refine ww rfl (λw hw=>JX _ _ _ _ _ _ x w (Kn.cB nF hw.c_) (h12.cB vq hw.c_) (h13.cB du hw.c_) (h41.cB nF hw.c_) (h42.cB vq hw.c_) (h43.cB du hw.c_)) ?_;refine kJ ?_;refine aU ?_;rw[show(i:Int)+1=((i+1:Nat):Int) by omega];refine a_ (i+1) ce A V aF
 refine aV ?_;exact cv rfl rfl
theorem Gd(v v2:K)(gl:List lD)(w0:ae)(hv:aY w0 v 3 gl gX)(Bi:aY w0 v2 3 gl gX):
  gF Y 56 [v,v2] w0 (ag true):=by
 obtain⟨la,ln,lc,lb,lo,rfl,rfl,_,_,_,IJ,xz⟩:=hv;obtain⟨ma,mn,mc,mb,mo,rfl,rfl,_,_,_,UX,Nw⟩:=Bi;refine aR func56 rfl ntmps56 rfl (Wd.nil db w0) ?_;refine bA ?_;rw[iJ];refine aU ?_;refine bH (λ(i:Nat)=>i<=gl.length) (λi=>[(5,J Z i),(0,I la gl.length lc),(1,I ma gl.length mc)]) (λ_=>[]) (λi=>gl.length-i) 0 (aN _) (aP V kg) λi hi=>?_;refine bA ?_;apply aL<;>intro h2
 ·have ce:i<gl.length:=aD h2
  obtain⟨x,hx⟩:=bE gl i ce;have mJ:cl la lb lo:=⟨IJ (aZ hx)⟩;have oF:cl ma mb mo:=⟨UX (aZ hx)⟩;have kK:cg i gl.length:=⟨ce⟩;obtain⟨_,gW,v1,rfl,_,Kn⟩:=xz i x hx;obtain⟨_,nP,v4,rfl,_,h41⟩:=Nw i x hx;have age:=Kn;have agf:=h41;obtain⟨_,_,_,_,_,rfl,_⟩:=Kn;obtain⟨_,_,_,_,_,rfl,_⟩:=h41;have nO:bu w0 lb (lo+i*3) _:=⟨gW⟩;have QQ:bu w0 mb (mo+i*3) _:=⟨nP⟩;refine aU ?_;refine kX mixed bC ?_;refine kJ ?_;rw[show(!(x.name.toList==x.name.toList))=false by simp];refine kJ ?_;rw[iJ,Bool.not_true];refine kJ ?_;refine ww rfl (λw hw=>Vw _ _ x.init x.init w (age.cB du hw.c_) (agf.cB du hw.c_)) ?_;rw[show decide (x.init=x.init)=true by simp];refine kJ ?_;refine aU ?_;rw[show(i:Int)+1=((i+1:Nat):Int) by omega];refine a_ (i+1) ce A V aF
 refine aV ?_;exact cv rfl rfl
theorem Mg(g f g2 f2:K)(u:dk)(w0:ae)(hg:aY w0 g 3 u.globals gX)(hf:aY w0 f 4 u.funcs kG)(hg2:aY w0 g2 3 u.globals gX)(hf2:aY w0 f2 4 u.funcs kG):
  gF Y 22 [aC #[g,f],aC #[g2,f2]] w0 (ag true):=by
 have KE:=hg;have ahf:=hg2;obtain⟨ga,gn,gc,_,_,rfl,_⟩:=hg;obtain⟨ha,hn,hc,_,_,rfl,_⟩:=hg2;obtain⟨la,ln,lc,lb,lo,rfl,rfl,_,_,_,IJ,xz⟩:=hf;obtain⟨ma,mn,mc,mb,mo,rfl,rfl,_,_,_,UX,Nw⟩:=hf2;refine aR func22 rfl ntmps22 rfl (Wd.nil db w0) ?_
 repeat(first|refine bA ?_|refine dd λ_ _=>?_)
 rename_i p2 _ p3 _;refine bY rfl (λw hw=>Gd _ _ u.globals w (KE.cB gS hw.c_) (ahf.cB gS hw.c_)) ?_;refine aV ?_;rw[iJ];refine aU ?_;refine bH (λ(i:Nat)=>i<=u.funcs.length) (λi=>[(5,J Z i),M 2 p2,M 3 p3]) (λ_=>[cw p3 ha hn hc ma u.funcs.length mc,cw p2 ga gn gc la u.funcs.length lc]) (λi=>u.funcs.length-i) 0 (aN _) (aP V kg) λi hi=>?_;refine bA ?_;apply aL<;>intro h2
 ·have ce:i<u.funcs.length:=aD h2
  obtain⟨x,hx⟩:=bE u.funcs i ce;have mJ:cl la lb lo:=⟨IJ (aZ hx)⟩;have oF:cl ma mb mo:=⟨UX (aZ hx)⟩;have kK:cg i u.funcs.length:=⟨ce⟩;obtain⟨_,gW,v1,rfl,_,_,Kn⟩:=xz i x hx;obtain⟨_,nP,v4,rfl,_,_,h41⟩:=Nw i x hx;have nO:bu w0 lb (lo+i*4) _:=⟨gW⟩;have QQ:bu w0 mb (mo+i*4) _:=⟨nP⟩;refine aU ?_;refine kX mixed bC ?_;refine kJ ?_;refine ww rfl (λw hw=>Nc _ _ _ x.blocks _ _ w (Kn.cB cu hw.c_) (h41.cB cu hw.c_)) ?_;refine kJ ?_;refine aU ?_;rw[show(i:Int)+1=((i+1:Nat):Int) by omega];refine a_ (i+1) ce A V aF
 refine aV ?_;exact cv rfl rfl
theorem acY(nm pa re:K)(bl:List aq)(bs:K)(w0:ae)(gV:aY w0 bs 6 bl da)(hlen:bl.length<=1000)(hb:∀b∈bl,b.bg.length<=1000/\b.list.length<=1000):
  gF Y 86 [aC #[nm,pa,re,bs]] w0 (J Z (eu bl:Nat)):=by
 obtain⟨ba,n,bc,bb,bo,rfl,rfl,qg,A_,yy,qd,iw⟩:=gV;refine aR func86 rfl ntmps86 rfl (Wd.nil db w0) ?_
 repeat(first|refine aU ?_|refine dd λ_ _=>?_)
 rename_i p1 _;have wO:=PC hb;refine bH (λ(i:Nat)=>i<=bl.length) (λi=>[(4,J Z i),(3,J Z (eu (bl.take i))),M 1 p1]) (λ_=>[cS p1 nm pa re ba bl.length bc]) (λi=>bl.length-i) 0 (aN _) (aP V kg) λi hi=>?_;refine bA ?_;apply aL<;>intro h1
 ·have ce:i<bl.length:=aD h1
  obtain⟨B,hB⟩:=bE bl i ce;have mJ:cl ba bb bo:=⟨qd (aZ hB)⟩;have kK:cg i bl.length:=⟨ce⟩;obtain⟨cs,gW,pv,lv,tv,rfl,_,_,Ha,KL,Zc⟩:=iw i B hB;obtain⟨Wo,pn,pc,_,_,rfl,rfl,_⟩:=Ha;obtain⟨la,ln,lc,_,_,rfl,rfl,_⟩:=KL;have nO:bu w0 bb (bo+i*6) _:=⟨gW⟩;have hBl:=hb B (aA hB);have hm:=wO i;have hmt:=CH hB;refine aU ?_;refine kX mixed bC ?_;refine kJ ?_;refine aU ?_;rw[show(eu (bl.take i):Int)+(B.bg.length:Int)+(B.list.length:Int)=(eu (bl.take (i+1)):Nat) by omega,show(i:Int)+1=((i+1:Nat):Int) by omega];exact a_ (i+1) ce A V aF
 have fX:i=bl.length:=by have:=h1;simp at this;omega
 subst fX;rw[cL];refine aV ?_;exact cv rfl rfl
theorem Oo(nm pa:K)(re:Int)(bl:List aq)(bs:K)(w0:ae)(gV:aY w0 bs 6 bl da)(hlen:bl.length<=1000)(hb:∀b∈bl,b.bg.length<=1000/\b.list.length<=1000):
  gF Y 45 [aC #[nm,pa,J Z re,bs]] w0 (ag (ux bl re)):=by
 have rq:=gV;obtain⟨ba,n,bc,_,_,rfl,rfl,_⟩:=gV;refine aR func45 rfl ntmps45 rfl (Wd.nil db w0) ?_
 repeat(first|refine bA ?_|refine dd λ_ _=>?_)
 unfold ux
 by_cases h40:40<bl.length
 ·rw[show decide ((40:Int)<(bl.length:Int))=true by simp;omega,show decide (40<bl.length)=true by simpa using h40]
  refine cT ?_;exact cv rfl rfl
 ·rw[show decide ((40:Int)<(bl.length:Int))=false by simp;omega,show decide (40<bl.length)=false by simpa using h40]
  refine aV ?_;refine bY rfl (λw hw=>acY _ _ _ bl _ w (rq.cB cu hw.c_) hlen hb) ?_;refine aV ?_
  by_cases T_:300<eu bl
  ·rw[show decide ((300:Int)<(eu bl:Int))=true by simp;omega,show decide (300<eu bl)=true by simpa using T_]
   refine cT ?_;exact cv rfl rfl
  ·rw[show decide ((300:Int)<(eu bl:Int))=false by simp;omega,show decide (300<eu bl)=false by simpa using T_]
   refine aV ?_;exact cv rfl rfl
theorem ac2(g f:K)(u:dk)(w0:ae)(hg:aY w0 g 3 u.globals gX)(hf:aY w0 f 4 u.funcs kG):
  gF Y 12 [aC #[g,f]] w0 (ag (decide (u.globals.length=0)&&decide (u.funcs.length=0))):=by
 obtain⟨ga,gn,gc,_,_,rfl,rfl,_⟩:=hg;obtain⟨fa,fn,fc,_,_,rfl,rfl,_⟩:=hf;refine aR func12 rfl ntmps12 rfl (Wd.nil db w0) ?_
 repeat(first|refine bA ?_|refine dd λ_ _=>?_)
 by_cases h1:u.globals.length=0
 ·rw[show decide ((u.globals.length:Int)=0)=true by simp[h1],show decide (u.globals.length=0)=true by simp[h1]]
  refine aV ?_;refine cv rfl ?_;rw[Bool.true_and];congr 1;simp
 ·rw[show decide ((u.globals.length:Int)=0)=false by simp only[fg];omega,show decide (u.globals.length=0)=false by simp[h1]]
  refine cT ?_;exact cv rfl rfl
theorem PO(w0:ae):gF Y 12 [aC #[I U 0 0,I U 0 0]] w0 (ag true):=by
 have h1:aY w0 (I U 0 0) 3 ([]:List lD) gX:=⟨U,0,0,0,0,rfl,rfl,A,A,A,by simp,by simp⟩;have h2:aY w0 (I U 0 0) 4 ([]:List bZ) kG:=⟨U,0,0,0,0,rfl,rfl,A,A,A,by simp,by simp⟩;exact ac2 _ _ ⟨[],[]⟩ w0 h1 h2
section
theorem N8(l:List α)(f g:α->α)(b:Nat):(l.modify b f).modify b g=l.modify b λx=>g (f x):=by
 apply cY;intro m;simp only[rU];cases l[m]? with
 |none=>rfl
 |some x=>
  simp only[Option.map_eq_map,b_]
  by_cases h1:b=m<;>simp[h1]
section
variable {u v:dk} {dO:Int} {pos:Nat->Nat->Nat->Nat}
theorem Alike.refl(f:Fin):Alike f f:=⟨rfl,rfl,rfl⟩
theorem Alike.trans{g h:Fin}(a:Alike f g)(b:Alike g h):Alike f h:=⟨b.state.trans a.state,b.value.trans a.value,b.out.trans a.out⟩
def pA(u v:dk):Prop:=∀(mE:List Int) (f m:Nat),(∀x∈mE,dE x)->(lI u mE f).state≠1->f<=m->Alike (lI u mE f) (lI v mE m)/\(lI v mE m).steps<=(lI u mE f).steps
theorem Fz(u:dk):∀(n m:Nat) (s:nZ),(tE u n s).state≠1->n<=m->tE u m s=tE u n s
 |0,_,_,h,_=>absurd rfl h
 |n+1,m,s,h,hm=>by
  obtain⟨m,rfl⟩:∃q,m=q+1:=⟨m-1,A⟩;rw[tE]at h|-
  rw[tE];cases he:nM u s with
  |inl s'=>
   rw[he]at h;exact Fz u n m s' h A
  |inr f=>rfl
theorem pA.refl(u:dk):pA u u:=λmE f m _ h hm=>by
 have:lI u mE m=lI u mE f:=Fz u f m _ h hm;rw[this];exact⟨.refl _,cz _⟩
theorem pA.trans{a b c:dk}(h:pA a b)(k:pA b c):pA a c:=λmE f m uB h1 hm=>by
 obtain⟨h2,h3⟩:=h mE f f uB h1 (cz _);obtain⟨h4,h5⟩:=k mE f m uB (by rw[h2.state];exact h1) hm;exact⟨h2.trans h4,dS h5 h3⟩
end
structure Whole(u:dk):Prop where
 ok:jy u
 Af:adB u
 T6:adx u
theorem Whole.fit(h:Whole u):tV u:=Xc (J1 h.ok) (jo.2 h.ok) h.Af
theorem Whole.start(h:Whole u):HW u:=J3 (jo.2 h.ok) h.T6
def px(X:bZ)(bl:List aq):bZ:={X with blocks:=bl}
def tA(u:dk)(k:Nat)(bl:List aq):dk:={u with funcs:=u.funcs.modify k λX=>px X bl}
theorem vC(u:dk)(k:Nat)(bl:List aq)(j:Nat):(tA u k bl).funcs[j]?=if k=j then(u.funcs[j]?).map (λX=>px X bl)else u.funcs[j]?:=by
 unfold tA;simp only;rw[rU]
 by_cases e:k=j
 ·simp only[e,if_true];rfl
 ·simp only[e,if_false,id_map']
end
attribute [local irreducible] md
section
section
variable {P:Program} {N:Nat} {ds:List Deferred} {S:Nat->Prop} {w0:ae} {L L':List (Nat×K)} {H H' Hr:List cq} {x y:Operand} {dw:Act->ae->Prop} {l:List Oper} {di:Nat} {listed:Array Bool}
theorem jw{ty T o off c e s m:Nat}(i k:Nat){xs vs:List K}{pos:String}{aft:Array Go.Edge}[ho:eJ l i ⟨U,.store T x y,ty,pos,aft,U⟩][h:gO P T m][hx:Ev L x (aO (O ⟨b,off,U⟩))][hy:Ev L y (aC vs.toArray)][hn:mL vs m][h1:wU vs]
  (hk:H[k]?=O (G (O ⟨b,o,U⟩) n c e s xs)) (xA:off=o+j) (pJ:j+m<=xs.length) (Ud:Hr.Sublist (H.set k (G (O ⟨b,o,U⟩) n c e s (xs.take j++vs++xs.drop (j+m)))))
  (kk:cU N ds S w0 L (H.set k (G (O ⟨b,o,U⟩) n c e s (xs.take j++vs++xs.drop (j+m)))) (wpAnyH P .any l.toArray (et dw) (Wd S w0 Hr) di (listed.setIfInBounds i true))):cU N ds S w0 L H (md P l dw (Wd S w0 Hr) di listed i):=by
 refine ada i rfl λa w hS=>?_;subst xA;have uD:=hn.eq;obtain⟨w',hs,zp⟩:=hS.wd.Jn (P:=P) hk j (vs:=vs) h1.all A;rw[uD]at zp;refine⟨w',?_,zp.sub Ud,kk _ _ ⟨hS.fr,zp⟩⟩;simp[execOp,hx.eq _ _ _ hS.fr,hy.eq _ _ _ hS.fr,Instr.storeAt,dB,storeVar,h.sz,Value.cells,uD,hs]
end
end
def Told(want:dk)(w:ae)(g f:K)(c k:Int):Prop:=
 (∃(i:Nat) (X:bZ),want.funcs[i]?=O X/\lO X=true/\(∀(j:Nat) (cP:bZ),j<i->want.funcs[j]?=O cP->lO cP=false)/\g=I U 0 0/\f=I U 0 0/\c=10/\k=i)\/
 ((∀X∈want.funcs,lO X=false)/\c=0/\k=0/\aY w g 3 want.globals gX/\aY w f 4 want.funcs kG)
structure XO(X:bZ):Prop where
 n:X.blocks.length<=1000
 each:∀b∈X.blocks,b.bg.length<=1000/\b.list.length<=1000
theorem Yt(ug uf g f:K)(c k:Int)(wg wf:K)(want:dk)(w0:ae)(hwg:aY w0 wg 3 want.globals gX)(hwf:aY w0 wf 4 want.funcs kG)(A8:∀X∈want.funcs,XO X)(yQ:dE k)(hT:Told want w0 g f c k):
  gF Y 17 [aC #[ug,uf],aC #[g,f],aC #[J Z c,J Z k],aC #[wg,wf]] w0 (ag true):=by
 have aiH:=hwg;have aiG:=hwf;obtain⟨ga,gn,gc,_,_,rfl,_⟩:=hwg;obtain⟨fa,fn,fc,fb,fo,rfl,rfl,_,_,_,QV,Cr⟩:=hwf;refine aR func17 rfl ntmps17 rfl (Wd.nil db w0) ?_
 repeat(first|refine aU ?_|refine dd λ_ _=>?_)
 rename_i p4 _ p5 _ p6 _ p7 _;refine bH (λ(i:Nat)=>i<=want.funcs.length/\∀(j:Nat) (cP:bZ),j<i->want.funcs[j]?=O cP->lO cP=false) (λi=>[(9,J Z i),M 5 p5,M 6 p6,M 7 p7]) (λ_=>[cw p7 ga gn gc fa want.funcs.length fc,fS p6 c k,aM p5 [g,f] 25,aM p4 [ug,uf] 25]) (λi=>want.funcs.length-i) 0 ⟨aN _,λj cP hj=>A⟩ (aP V kg) λi ⟨hi,cX⟩=>?_;refine bA ?_;apply aL<;>intro h2
 ·have ce:i<want.funcs.length:=aD h2
  obtain⟨X,hX⟩:=bE want.funcs i ce;have mJ:cl fa fb fo:=⟨QV (aZ hX)⟩;have kK:cg i want.funcs.length:=⟨ce⟩;obtain⟨_,gW,bv,rfl,SF,hri,Js⟩:=Cr i X hX;have nO:bu w0 fb (fo+i*4) _:=⟨gW⟩;have hXl:=A8 X (aA hX);refine aU ?_;refine bY rfl (λw hw=>Oo _ _ X.bm X.blocks _ w (Js.cB cu hw.c_) hXl.n hXl.each) ?_;refine bA ?_;apply aL<;>intro h3
  ·have hlg:lO X=true:=h3
   rcases hT with⟨i0,X0,h4,h5,h6,rfl,rfl,rfl,rfl⟩|⟨h4,_⟩
   ·have hii:i0=i:=by
     rcases Nat.lt_trichotomy i0 i with h7|h7|h7
     ·rw[cX i0 X0 h7 h4]at h5;cases h5
     ·exact h7
     ·rw[h6 i X h7 hX]at hlg;cases hlg
    subst hii;refine bA ?_;refine kX mixed bC ?_;refine kJ ?_;refine ww rfl (λw _=>LP _ _ w) ?_;refine kJ ?_;rw[iJ,iJ,Bool.and_self];refine kJ ?_;refine ww rfl (λw _=>PO w) ?_;refine kJ ?_;refine aV ?_;exact cv rfl rfl
   ·rw[h4 X (aA hX)]at hlg;cases hlg
  ·have hlg:lO X=false:=by unfold lO;simpa using h3
   refine aU ?_;rw[show(i:Int)+1=((i+1:Nat):Int) by omega];refine a_ (i+1) ⟨ce,λj cP hj hY=>?_⟩ A V aF
   by_cases e:j=i
   ·subst e
    rw[hX]at hY;rw[<-bJ hY];exact hlg
   ·exact cX j cP A hY
 have fX:i=want.funcs.length:=by have:=h2;simp at this;omega
 rcases hT with⟨i0,X0,h4,h5,_⟩|⟨_,rfl,rfl,h8,h9⟩
 ·rw[cX i0 X0 (by have:=(aJ.1 h4).1;omega) h4]at h5;cases h5
 have h80:=h8;have h90:=h9;obtain⟨_,_,_,_,_,rfl,_⟩:=h8;obtain⟨_,_,_,_,_,rfl,_⟩:=h9;refine aV ?_;rw[iJ,Bool.and_self]
 refine bY rfl (λw hw=>Mg _ _ _ _ want w (h80.cB gS hw.c_) (h90.cB ie hw.c_) (aiH.cB gS hw.c_) (aiG.cB ie hw.c_)) ?_;refine aU ?_;exact cv rfl rfl
theorem J2(hc:jy u)(hX:X∈u.funcs):(0<=X.params/\X.params<=6)/\(0<=X.bm/\X.bm<=100)/\X.blocks.length<=40/\ja X.blocks<=300:=by
 obtain⟨j,hj⟩:=bR hX;have h0:=hc.head j (aJ.1 hj).1;unfold mR lC at h0;rw[hj]at h0;obtain⟨_,_,h3,h4,h5,h6⟩:=vd.1 h0;exact⟨h3,A,h5.2,h6⟩
theorem sI(bl:List aq):(eu bl:Int)=ja bl:=by
 unfold eu ja
 induction bl with
 |nil=>rfl
 |cons b bl ih=>simp only[cf,g_,<-ih];omega
def pY(b:aK):cq:=G b.ta b.to.length b.tc 3 1 (b.to.map (J Z))
def phV(b:aK):cq:=G b.pa b.ps.length b.pc 49 2 (b.ps.flatMap iz)
def oz(b:aK):List cq:=G b.la b.xs.length b.lc 56 8 (b.xs.flatMap ki)::pY b::b.xs.map gC
theorem xd(b:aK):(ij b).Perm (phV b::(b.ps.map dZ++oz b)):=by
 unfold ij phV oz pY;exact List.Perm.cons _ (fG (l₁:=[_,_]) (l₂:=b.ps.map dZ++b.xs.map gC)|>.trans (by
  rw[fu];exact List.Perm.append_left _ (fG (l₁:=b.xs.map gC) (l₂:=[_,_]))))
def gi(bl:List aq)(t:Nat)(p:gD)(b:Nat):cI:=p.src.getD ((be bl t).idxOf b) lB
theorem mz(hg:dK bl){t:Int}(h:t∈dY bl b):0<=t/\t<bl.length/\b<bl.length:=by
 unfold dY at h
 split at h
 ·rename_i B hB
  have:=(hg B (aA hB)).2 t h;exact⟨this.1,this.2,(aJ.1 hB).1⟩
 ·cases h
theorem mU{f:α->β}:∀{l:List α},l.Nodup->(∀x∈l,∀y∈l,f x=f y->x=y)->(l.map f).Nodup
 |[],_,_=>by simp
 |a::l,h,hi=>by
  rw[rV]at h;rw[cf,rV];refine⟨λhm=>?_,mU h.2 λx hx y hy=>hi x (ey _ hx) y (ey _ hy)⟩;obtain⟨y,hy,e⟩:=aT.1 hm;have:=hi y (ey _ hy) a (vO ..) e;subst this;exact h.1 hy
theorem jV(bl:List aq)(t:Nat):(be bl t).Nodup:=List.Nodup.sublist nu tX
theorem VQ{l m:List cI}(hl:l.length=m.length)(h:∀i:Nat,i<l.length->l.getD i lB=m.getD i lB):l=m:=by
 refine List.ext_getElem hl λi h1 h2=>?_;have:=h i h1;rwa[fF,fF,bL h1,bL h2]at this
theorem Sh{t:Nat}(h:p.src.length=(be bl t).length):(be bl t).map (gi bl t p)=p.src:=by
 refine VQ (by rw[aG,h]) λi hi=>?_;rw[aG]at hi;rw[fF,aW,bL hi,b_,gw];unfold gi;rw[(jV bl t).idxOf_getElem i hi]
theorem Gq(f:α->β)(l:List α)(i:Nat):(l.eraseIdx i).map f=(l.map f).eraseIdx i:=by rw[List.eraseIdx_eq_take_drop_succ,List.eraseIdx_eq_take_drop_succ,bz,List.map_take,List.map_drop]
theorem vF{R:Nat}{t:Nat}(hp:p.src.length=(be bl t).length)(hb:b∈be bl t):gi bl t p b∈p.src:=by
 have h:=ll hb;unfold gi;rw[fF,bL A,gw];exact my _
theorem af1{S:Nat->Prop}{w0 w:ae}{H:List cq}{B:aK}(h:Wd S w0 H w)(hm:bP B∈H)(hB:B.Bd):aY w (I B.ta B.to.length B.tc) 1 B.to gI:=by
 obtain⟨r,hr⟩:=Lj hm;have h1:=(h.perm hr).nh;refine h1.nf (k:=2) rfl rfl (by have:=hB.to.1;omega) λi x hx=>⟨[J Z x],λj v hj=>?_,rfl,hB.to.2 x (aA hx)⟩
 match j,hj with
 |0,hj=>simpa[hx]using hj
structure oH(u:dk)(T:bZ->bZ)(i:Nat)(X:bZ):Prop where
 at':u.funcs[i]?=O X
 Pz:lO (T X)=true
 before:∀(j:Nat) (cP:bZ),j<i->u.funcs[j]?=O cP->lO (T cP)=false
theorem oH.one{T:bZ->bZ}{cP:bZ}(h:oH u T i X)(k:oH u T j cP):i=j:=by
 rcases Nat.lt_trichotomy i j with h1|h1|h1
 ·exact absurd h.Pz (by rw[k.before i X h1 h.at'];simp)
 ·exact h1
 ·exact absurd k.Pz (by rw[h.before j cP h1 k.at'];simp)
theorem VO(u:dk)(T:bZ->bZ):(∃i X,oH u T i X)\/∀X∈u.funcs,lO (T X)=false:=by
 have key:∀n,(∃i X,oH u T i X)\/∀(j:Nat) (cP:bZ),j<n->u.funcs[j]?=O cP->lO (T cP)=false:=by
  intro n
  induction n with
  |zero=>exact .inr λj cP hj=>A
  |succ n ih=>
   rcases ih with ih|ih
   ·exact .inl ih
   ·cases hX:u.funcs[n]? with
    |none=>exact .inr λj cP hj hY=>ih j cP (by have:=(aJ.1 hY).1;have:=mx.1 hX;omega) hY
    |some X=>
     cases hL:lO (T X)with
     |true=>exact .inl ⟨n,X,hX,hL,ih⟩
     |false=>
      refine .inr λj cP hj hY=>?_
      by_cases e:j=n
      ·subst e
       rw[hX]at hY;obtain rfl:=bJ hY;exact hL
      ·exact ih j cP A hY
 rcases key u.funcs.length with h|h
 ·exact .inl h
 ·refine .inr λX hX=>?_
  obtain⟨j,hj⟩:=bR hX;exact h j X (aJ.1 hj).1 hj
def DM(x:Int×cI):List K:=[J Z x.1,ag x.2.dq,J Z x.2.n]
theorem vR(x:Int×cI):(DM x).length=3:=rfl
def EdV(_:ae)(x:Int×cI)(cs:List K):Prop:=cs=DM x
def ky(bl:List aq)(b:Nat)(src:List cI):List (Int×cI):=((be bl b).map λx:Nat=>(x:Int)).zip src
theorem Fo(nm pa re:K)(bl:List aq)(bs:K)(qf:∃a n c,bs=I a n c)(b:Nat)(dst:Int)(va:ax)(vn vc:Nat)(src:List cI)(w0:ae)(gV:aY w0 bs 6 bl da)(hlen:bl.length<=100)(hv:aY w0 (I va vn vc) 2 src mp)(hl:src.length=(be bl b).length):
  iL Y 75 [aC #[nm,pa,re,bs],J Z b,aC #[J Z dst,I va vn vc]] w0 λu w'=>∃x:ax×Nat,u=I x.1 (be bl b).length x.2/\Wd db w0 [G x.1 (be bl b).length x.2 113 3 ((ky bl b src).flatMap DM)] w'/\True:=by
 obtain⟨ba,n,bc,rfl⟩:=qf;have yC:=hv;obtain⟨ET,_,_,vb,vo,qt,DB⟩:=hv.at;have yT:(be bl b).length<=100:=by
  unfold be;exact dS (fC _ _) (by rw[d_];exact hlen)
 have iw:(ky bl b src).length=(be bl b).length:=by unfold ky;rw[List.length_zip,aG];omega
 refine aR func75 rfl ntmps75 rfl (Wd.nil db w0) ?_
 repeat(first|refine bA ?_|refine dd λ_ _=>?_)
 rename_i p3 _ p5 _;refine cN (val:=λx:ax×Nat=>.slice x.1 (be bl b).length x.2) (cZ:=λx=>[G x.1 (be bl b).length x.2 3 1 ((be bl b).map dz)]) (φ:=λ_=>True) rfl (λw hw=>tC _ _ _ bl _ b w (gV.cB cu hw.c_) hlen) λx _=>?_;obtain⟨aa,ac⟩:=x;simp only[bF,aS];refine aU ?_;refine dJ 113 3 ?_;let Ta:=[bN p5 dst va vn vc,cS p3 nm pa re ba n bc];refine bH (λx:Nat×ax×Nat=>x.1<=(be bl b).length) (λx=>[(9,J Z x.1),(8,I x.2.1 x.1 x.2.2),(7,I aa (be bl b).length ac),M 5 p5,M 3 p3]) (λx=>G x.2.1 x.1 x.2.2 113 3 (((ky bl b src).take x.1).flatMap DM)::G aa (be bl b).length ac 3 1 ((be bl b).map dz)::Ta) (λx=>(be bl b).length-x.1) (0,U,0) (aN _) (aP V aF) λx hi=>?_<;>(try unfold Ta);obtain⟨i,ea,ec⟩:=x;simp only at hi|-
 refine bA ?_;apply aL<;>intro h1
 ·have ce:i<(be bl b).length:=aD h1
  obtain⟨q,hq⟩:=bE (be bl b) i ce;obtain⟨v,hv⟩:=bE src i A;have hed:(ky bl b src)[i]?=O ((q:Int),v):=by
   unfold ky;rw[List.getElem?_zip_eq_some];exact⟨by rw[aW,hq];rfl,hv⟩
  have agA:cl va vb vo:=⟨qt (aZ hv)⟩;have kK:cg i (be bl b).length:=⟨ce⟩;have KL:cg i vn:=⟨A⟩;obtain⟨_,gW,rfl,_⟩:=DB i v hv;have nO:bu w0 vb (vo+i*2) _:=⟨gW⟩;refine fy 1 rfl A λab ao Kt=>?_;subst Kt;have r_:uk (be bl b) i q:=⟨hq⟩;refine aU ?_;refine dI (G (O ⟨ab,ao,U⟩) (be bl b).length ac 3 1 ((be bl b).map dz)::Ta) (λ_:ax×Nat=>True) (λx=>[(9,J Z i),(8,I x.1 (i+1:Nat) x.2),(7,I (O ⟨ab,ao,U⟩) (be bl b).length ac),M 5 p5,M 3 p3]) (λx=>G x.1 (i+1) x.2 113 3 (((ky bl b src).take (i+1)).flatMap DM)::G (O ⟨ab,ao,U⟩) (be bl b).length ac 3 1 ((be bl b).map dz)::Ta) mixed aB ?_ λx _=>?_
  ·refine W 0 ?_;refine W 1 ?_;refine W 2 ?_;refine W 3 ?_;refine W 4 ?_;refine W 5 ?_;refine W 6 ?_;refine W 7 ?_;refine W 8 ?_;refine W 9 ?_;rw[show dz q=J Z (q:Int)from rfl];refine W 10 ?_;refine cD 11 E ?_;refine gT 11 rfl E aB λnb _=>?_;refine iu 12 1 rfl rfl E A A E (λ_=>List.Sublist.cons _ aB) λna nc=>?_;simp only[bS,bI];refine Kj 8 ?_;refine W 13 ?_;refine ef E ?_;refine dy (na,nc) trivial V ?_;rw[bV,hed,ee];exact List.Sublist.cons _ (.refl _)
  ·obtain⟨na,nc⟩:=x
   refine aU ?_;exact a_ (i+1,na,nc) ce bB V aF
 ·obtain rfl:i=(be bl b).length:=by have:=h1;simp at this;omega
  refine aV ?_;refine dh rfl λw hw=>⟨(ea,ec),rfl,?_,trivial⟩;rw[<-iw,cL]at hw;rw[iw]at hw;exact hw.Gu [0] (by decide)
def rowAt(l:List (Int×cI))(b:Nat):List cI:=match l.find? λe=>decide (e.1=(b:Int))with|some e=>[e.2]|none=>[]
def rA(l:List (Int×cI))(n:Nat):List cI:=(bj n).flatMap (rowAt l)
theorem yI(l:List (Int×cI))(n:Nat):rA l (n+1)=rA l n++rowAt l n:=by
 unfold rA;rw[iV,ee];simp
theorem R4(l:List (Int×cI))(b:Nat):(rowAt l b).length<=1:=by
 unfold rowAt
 split<;>simp
theorem BI(l:List (Int×cI)):∀n,(rA l n).length<=n
 |0=>by simp[rA]
 |n+1=>by
  rw[yI,bW];have:=BI l n;have:=R4 l n;omega
theorem LH(a:ax)(m c:Nat)(l:List (Int×cI))(n:Nat)(hn:n<=1000)(w0:ae)(hs:aY w0 (I a m c) 3 l EdV):
  iL Y 77 [I a m c,J Z n] w0 λu w'=>∃x:ax×Nat,u=I x.1 (rA l n).length x.2/\Wd db w0 [ar x.1 (rA l n).length x.2 (rA l n)] w'/\True:=by
 obtain⟨hm,_,Pm,eb,eo,ha,iw⟩:=hs.at;refine aR func77 rfl ntmps77 rfl (Wd.nil db w0) ?_;refine aU ?_;refine dJ 41 2 ?_;refine bH (λx:Nat×ax×Nat=>x.1<=n) (λx=>[(6,J Z x.1),(5,I x.2.1 (rA l x.1).length x.2.2),(0,I a m c),(1,J Z n)]) (λx=>[ar x.2.1 (rA l x.1).length x.2.2 (rA l x.1)]) (λx=>n-x.1) (0,U,0) (aN _) (aP V aF) λx hb=>?_;obtain⟨b,ra,rc⟩:=x;simp only at hb|-
 refine bA ?_;apply aL<;>intro h1
 ·have ce:b<n:=aD h1
  have oG:=BI l b;refine aU ?_;refine bH (λ(i:Nat)=>i<=m/\∀(j:Nat) e,j<i->l[j]?=O e->e.1≠(b:Int)) (λi=>[(7,J Z i),(6,J Z b),(5,I ra (rA l b).length rc),(0,I a m c),(1,J Z n)]) (λ_=>[ar ra (rA l b).length rc (rA l b)]) (λi=>m-i) 0 ⟨aN _,λj e hj=>A⟩ (aP V aF) λi ⟨hi,oL⟩=>?_;refine bA ?_;apply aL<;>intro h2
  ·have QY:i<m:=aD h2
   obtain⟨e,he⟩:=bE l i A;have mJ:cl a eb eo:=⟨ha (aZ he)⟩;have kK:cg i m:=⟨QY⟩;obtain⟨_,gW,rfl⟩:=iw i e he;unfold DM at gW;have nO:bu w0 eb (eo+i*3) _:=⟨gW⟩;refine aU ?_;apply aL<;>intro h3
   ·have tM:e.1=(b:Int):=aD h3
    have iy:rowAt l b=[e.2]:=by
     unfold rowAt;have:l.find? (λe=>decide (e.1=(b:Int)))=O e:=by
      rw[List.find?_eq_some_iff_getElem];refine⟨aD tM,i,(aJ.1 he).1,(aJ.1 he).2,λj hj=>?_⟩;simp only[gy,fg];exact oL j _ hj (bL _)
     rw[this]
    repeat(first|refine bA ?_|refine dd λ_ _=>?_)
    refine kh 1 rfl rfl E A A λna nc=>?_;simp only[bS,bI];refine aV ?_;have e1:(rA l b).length+1=(rA l (b+1)).length:=by rw[yI,iy,bW];rfl
    have e2:(rA l b).flatMap mm++[ag e.2.dq,J Z e.2.n]=(rA l (b+1)).flatMap mm:=by rw[yI,iy,ee];rfl
    rw[e1,e2];exact a_ (b+1,na,nc) ce bB V aB
   ·have tM:e.1≠(b:Int):=aD h3
    refine aU ?_;refine a_ (i+1) ⟨QY,λj x hj hx=>?_⟩ A V aF
    by_cases ej:j=i
    ·subst ej
     rw[he]at hx;obtain rfl:=bJ hx;exact tM
    ·exact oL j x A hx
  ·have iy:rowAt l b=[]:=by
    unfold rowAt;rw[List.find?_eq_none.2 λx hx=>?_];obtain⟨j,hj⟩:=bR hx;have:=oL j x (by have:=(aJ.1 hj).1;have:=h2;simp at this;omega) hj;simpa using this
   have e1:rA l (b+1)=rA l b:=by rw[yI,iy,cj]
   refine aV ?_;rw[<-e1];exact a_ (b+1,ra,rc) ce bB V aF
 ·obtain rfl:b=n:=by have:=h1;simp at this;omega
  refine aV ?_;exact dh rfl λw hw=>⟨(ra,rc),rfl,hw.Gu [0] (by decide),trivial⟩
theorem RJ(bl:List aq)(t:Nat):(be bl t).Pairwise (·<·):=List.pairwise_lt_range.sublist nu
theorem Fk(bl:List aq)(t:Nat):∀q∈be bl t,q<bl.length:=λq hq=>cW.1 (cR.1 hq).1
theorem Oh{f g:sD}{k k':Nat}{ps:List gD}{F:gD->gD}(hr:g.bm=f.bm)(hd:∀p∈ps,(F p).dst=p.dst)(hs:∀p∈ps,(F p).src.getD k' lB=p.src.getD k lB):pe g k' (ps.map F)=pe f k ps:=by
 rw[HA,HA,hr,dM];congr 1;refine ew λp hp=>?_;simp only[Function.comp_apply];rw[hd p hp,hs p hp];unfold iU;rw[hr]
structure SY(n:Nat)(R:Int)(B:aq):Prop where
 kind:1<=B.kind/\B.kind<=3
 len:(B.to.length:Int)=B.kind-1
 to:∀t∈B.to,1<=t/\t<=(n:Int)-1
 two:B.kind=3->B.to[0]?.getD 0≠B.to[1]?.getD 0
 one:B.kind=2->kN B.on=true
 on:fw R B.on=0
theorem oh:mr n R B=0↔SY n R B:=by
 unfold mr yN;constructor
 ·intro h
  split at h
  ·cases h
  rename_i h1
  split at h
  ·cases h
  rename_i h2
  split at h
  ·cases h
  rename_i h3
  split at h
  ·cases h
  rename_i h4;simp only[within,gy,iW,fg,not_or,h_]at h1;simp only[rj,eU,dv,gy,not_or,not_and,Bool.not_eq_false]at h4;refine⟨A,aD h2,λt ht=>?_,h4.1,h4.2,h⟩;simp only[rG,not_exists,not_and,within,gy,iW,fg,not_or,h_]at h3;have:=h3 t ht;omega
 ·intro h
  rw[ai,ai,ai,ai]
  ·exact h.on
  ·simp only[rj,eU,dv,gy,not_or,not_and,Bool.not_eq_false]
   exact⟨h.two,h.one⟩
  ·simp only[rG,not_exists,not_and,within,gy,iW,fg,not_or,h_]
   exact h.to
  ·simpa using h.len
  ·simp only[within,gy,iW,fg,not_or,h_]
   exact h.kind
theorem Zr{l:List Nat}{a:Nat}(hn:l.Nodup)(h:∀x∈l,x=a):l.length<=1:=by
 match l,hn,h with
 |[],_,_=>simp
 |[_],_,_=>simp
 |x::y::l,hn,h=>
  have h1:=h x cK;have h2:=h y cK;rw[h1,h2]at hn;simp at hn
end
end Go.Proofs.YthfhgolkafpmnaaGreatDoor
