/- Lemmas. -/
import Derived.Test.YthfhgolkafpmnaaGreatDoorIF
import Derived.Test.YthfhgolkafpmnaaGreatDoorKB
namespace Go.Proofs.YthfhgolkafpmnaaGreatDoor
open Option renaming some->O,none->U
open List renaming replicate->aI,range->bj
open Go Go.RowKit
variable {r:Int} {f:Int->Int} {g:Int->cI} {eE cZ:Int->Prop} {B:aq} {X cP:bZ} {x:iA} {p q:gD} {v:cI} {L:List Int} {bl:List aq} {o:List Nat} {R b c i k m n t:Nat} {s:Nat->Nat} {ν ν':Nat->Nat->Int} {ρ:Nat->Nat->Nat} {α β:Type}
section
def kY(B:aq)(r:Int):Bool:=B.bg.any λp=>decide (p.dst=r)
def rN(B:aq)(r:Int):Bool:=B.list.any (λx=>decide (x.dst=r))||kY B r
def Ao(bl:List aq)(r:Nat):List Int:=(0:Int)::((bj bl.length).filter λb=>decide (1<=b)&&rN (bi bl b) r).map λx:Nat=>(x:Int)
def tm(bl:List aq)(b r:Nat):Prop:=mN bl (Ao bl r) b/\kY (bi bl b) r=false/\kB bl r b (-1)
def mv(bl:List aq)(b r:Nat):gD:=⟨r,aI (be bl b).length ⟨true,r⟩⟩
open Classical in
noncomputable def fx(bl:List aq)(m b:Nat):List gD:=((bj m).filter λr=>decide (tm bl b r)).map (mv bl b)
noncomputable def jt(bl:List aq)(m:Nat):List aq:=bl.mapIdx λb B=>{B with bg:=B.bg++fx bl m b}
theorem I6(bl:List aq)(b:Nat):fx bl 0 b=[]:=rfl
theorem I5(bl:List aq)(m b:Nat)[d:Decidable (tm bl b m)]:fx bl (m+1) b=fx bl m b++if tm bl b m then[mv bl b m]else[]:=by
 classical
 unfold fx;rw[iV,mw,bz];congr 1
 by_cases h:tm bl b m
 ·rw[al h];simp[h]
 ·rw[ai h];simp[h]
theorem BD(bl:List aq):jt bl 0=bl:=by
 apply cY;intro i;unfold jt;rw[eD];cases bl[i]? with
 |none=>rfl
 |some B=>simp[I6]
theorem jU(bl:List aq)(m:Nat):(jt bl m).length=bl.length:=by simp[jt]
theorem ly(h:bl[b]?=O B):(jt bl m)[b]?=O {B with bg:=B.bg++fx bl m b}:=by
 unfold jt;rw[eD,h]
 rfl
theorem wt(bl:List aq)(m b:Nat):dY (jt bl m) b=dY bl b:=by
 unfold dY;cases h:bl[b]? with
 |none=>rw[cm (by rw[jU];exact mx.1 h)]
 |some B=>rw[ly h]
theorem ui(h:p∈fx bl m b):∃r,r<m/\tm bl b r/\p=mv bl b r:=by
 classical
 unfold fx at h;obtain⟨r,hr,rfl⟩:=aT.1 h;obtain⟨h1,h2⟩:=cR.1 hr;exact⟨r,cW.1 h1,aD h2,rfl⟩
def BA(ps:List gD)(r:Int):Nat->Option Nat
 |0=>U
 |j+1=>if (ps[j]?.map (·.dst))=O r then O j else BA ps r j
def oV(B:aq)(r:Int):Nat->Option Nat
 |0=>BA B.bg r B.bg.length
 |i+1=>if (B.list[i]?.map (·.dst))=O r then O (B.bg.length+i)else oV B r i
def Site(B:aq)(k:Nat):Prop:=k<B.bg.length\/∃i x,k=B.bg.length+i/\B.list[i]?=O x/\0<=x.dst
theorem Hy{ps:List gD}:∀{n k:Nat},BA ps r n=O k->k<n/\∃p,ps[k]?=O p/\p.dst=r
 |0,k,h=>by cases h
 |n+1,k,h=>by
  unfold BA at h
  split at h
  ·rename_i h1
   obtain rfl:=bJ h;obtain⟨p,h2,h3⟩:=ff.1 h1;exact⟨A,p,h2,h3⟩
  ·obtain⟨h1,h2⟩:=Hy h
   exact⟨A,h2⟩
theorem zJ(hr:0<=r):∀{i k:Nat},oV B r i=O k->Site B k
 |0,k,h=>.inl (Hy h).1
 |i+1,k,h=>by
  unfold oV at h
  split at h
  ·rename_i h1
   obtain rfl:=bJ h;obtain⟨x,h2,h3⟩:=ff.1 h1;exact .inr ⟨i,x,rfl,h2,A⟩
  ·exact zJ hr h
noncomputable def PH(ν:Nat->Nat->Int)(bl:List aq)(n:Nat):Nat->Nat->Nat->Int->cI
 |0,_,_,_=>lB
 |f+1,b,i,r=>match oV (bi bl b) r i with
  |some k=>⟨true,ν b k⟩
  |none=>if ed bl b<0 then(if r<n then⟨true,r⟩else lB)else PH ν bl n f (ed bl b).toNat (bi bl (ed bl b).toNat).list.length r
noncomputable def Ml(bl:List aq)(b:Nat):Nat:=(jp bl b bl.length).length
theorem TK(dV:dK bl)(h0:0<bl.length)(hb:jg bl (-1) 0 b)(hn:¬ed bl b<0):lJ bl (ed bl b).toNat b/\Ml bl (ed bl b).toNat+1=Ml bl b:=by
 by_cases h:∃c,lJ bl c b
 ·obtain⟨c,hc⟩:=h
  rw[lz hc,fR];exact⟨hc,vj dV h0 hc⟩
 ·rw[jK λc hc=>h ⟨c,hc⟩]at hn
  exact absurd (by omega:(-1:Int)<0) hn
theorem lJ.BG(h:lJ bl c b):jg bl (-1) 0 c:=h.1.1
theorem tZ(dV:dK bl)(h0:0<bl.length)(hb:jg bl (-1) 0 b):0<Ml bl b/\Ml bl b<=bl.length:=by
 constructor
 ·exact List.length_pos_of_mem (sE.2 ⟨dV.BG h0 hb,kU.refl hb⟩)
 ·unfold Ml jp
  exact dS (fC _ _) (by rw[d_];exact cz _)
theorem Lq(dV:dK bl)(h0:0<bl.length):∀(f g b i:Nat) (r:Int),jg bl (-1) 0 b->Ml bl b<=f->Ml bl b<=g->PH ν bl n f b i r=PH ν bl n g b i r
 |0,g,b,i,r,hb,hf,_=>by have:=(tZ dV h0 hb).1;omega
 |f+1,0,b,i,r,hb,_,hg=>by have:=(tZ dV h0 hb).1;omega
 |f+1,g+1,b,i,r,hb,hf,hg=>by
  unfold PH
  split
  ·rfl
  ·split
   ·rfl
   ·rename_i hn
    obtain⟨h1,h2⟩:=TK dV h0 hb hn;exact Lq dV h0 f g _ _ r h1.BG A A
noncomputable def nm(ν:Nat->Nat->Int)(bl:List aq)(n b i:Nat)(r:Int):cI:=PH ν bl n bl.length b i r
theorem PK(dV:dK bl)(h0:0<bl.length)(hb:jg bl (-1) 0 b):
  nm ν bl n b i r=match oV (bi bl b) r i with
   |some k=>⟨true,ν b k⟩
   |none=>if ed bl b<0 then(if r<n then⟨true,r⟩else lB)else nm ν bl n (ed bl b).toNat (bi bl (ed bl b).toNat).list.length r:=by
 have hp:=tZ dV h0 hb;have h1:nm ν bl n b i r=PH ν bl n (bl.length+1) b i r:=Lq dV h0 _ _ b i r hb hp.2 A;rw[h1]
 rfl
noncomputable def kt(ν:Nat->Nat->Int)(bl:List aq)(n b i:Nat)(v:cI):cI:=if v.dq then nm ν bl n b i v.n else v
noncomputable def su(ν:Nat->Nat->Int)(bl:List aq)(n b k:Nat)(x:iA):iA:={x with a:=kt ν bl n b k x.a,b:=kt ν bl n b k x.b,args:=x.args.map (kt ν bl n b k),dst:=if 0<=x.dst then ν b ((bi bl b).bg.length+k)else x.dst}
def prB(bl:List aq)(b j:Nat):Nat:=(be bl b)[j]?.getD 0
noncomputable def pV(ν:Nat->Nat->Int)(bl:List aq)(n b j:Nat)(v:cI):cI:=kt ν bl n (prB bl b j) (bi bl (prB bl b j)).list.length v
noncomputable def FG(ν:Nat->Nat->Int)(bl:List aq)(n b i:Nat)(p:gD):gD:=⟨ν b i,p.src.mapIdx (pV ν bl n b)⟩
noncomputable def FF(ν:Nat->Nat->Int)(bl:List aq)(n b:Nat)(B:aq):aq:={B with bg:=B.bg.mapIdx (FG ν bl n b),list:=B.list.mapIdx (su ν bl n b),on:=kt ν bl n b B.list.length B.on}
noncomputable def pU(ν:Nat->Nat->Int)(bl:List aq)(n:Nat):List aq:=bl.mapIdx (FF ν bl n)
theorem jF(ν:Nat->Nat->Int)(bl:List aq)(n:Nat):(pU ν bl n).length=bl.length:=by simp[pU]
theorem xU(h:bl[b]?=O B):(pU ν bl n)[b]?=O (FF ν bl n b B):=by
 unfold pU;rw[eD,h]
 rfl
def Je(f:Int->Int)(v:cI):cI:=if v.dq then⟨true,f v.n⟩else v
def rnR(f:Int->Int)(r:Int):Int:=if 0<=r then f r else r
def XH(f:Int->Int)(x:iA):iA:={x with a:=Je f x.a,b:=Je f x.b,args:=x.args.map (Je f),dst:=rnR f x.dst}
def R3(f:Int->Int)(p:gD):gD:=⟨f p.dst,p.src.map (Je f)⟩
def DF(f:Int->Int)(B:aq):aq:={B with bg:=B.bg.map (R3 f),list:=B.list.map (XH f),on:=Je f B.on}
structure Qp(f:Int->Int)(ν ν':Nat->Nat->Int)(bl:List aq)(n:Nat):Prop where
 adl:∀b k B,bl[b]?=O B->Site B k->ν' b k=f (ν b k)
 par:∀r:Int,0<=r->r<n->f r=r
 pos:∀b k,0<=ν b k
theorem PJ(h:Qp f ν ν' bl n)(hr:0<=r):∀(g b i:Nat),PH ν' bl n g b i r=Je f (PH ν bl n g b i r)
 |0,b,i=>rfl
 |g+1,b,i=>by
  unfold PH;cases hd:oV (bi bl b) r i with
  |some k=>
   simp only;have hs:=zJ hr hd;cases hB:bl[b]? with
   |none=>
    unfold bi at hs;rw[hB]at hs;simp only[Option.getD_none]at hs;rcases hs with h1|⟨i,x,_,h1,_⟩
    ·simp[sj]at h1
    ·simp[sj]at h1
   |some B=>
    have Sy:bi bl b=B:=by unfold bi;rw[hB];rfl
    rw[Sy]at hs;rw[h.adl b k B hB hs]
    rfl
  |none=>
   simp only
   split
   ·split
    ·rename_i h1
     show(⟨true,r⟩:cI)=⟨true,f r⟩;rw[h.par r hr h1]
    ·rfl
   ·exact PJ h hr g _ _
def uJ(eE:Int->Prop)(v:cI):Prop:=v.dq=true->eE v.n
structure JO(eE:Int->Prop)(x:iA):Prop where
 a:uJ eE x.a
 b:uJ eE x.b
 args:∀v∈x.args,uJ eE v
 dst:0<=x.dst->eE x.dst
structure n_(eE:Int->Prop)(B:aq):Prop where
 bg:∀p∈B.bg,eE p.dst/\∀v∈p.src,uJ eE v
 list:∀x∈B.list,JO eE x
 on:uJ eE B.on
theorem OK(h:JO eE x):∀v∈eh x,uJ eE v:=λv hv=>by
 unfold eh at hv
 split at hv
 ·cases hv
 split at hv
 ·exact h.args v hv
 split at hv
 ·simp only[bX,gr,or_false]at hv
  rcases hv with rfl|rfl
  ·exact h.a
  ·exact h.b
 split at hv
 ·simp only[bX,gr,or_false]at hv
  rw[hv];exact h.a
 ·cases hv
theorem FD:r∈eR v↔v.dq=true/\v.n=r:=by
 unfold eR
 by_cases h:v.dq=true
 ·rw[al h];simp[h,eq_comm]
 ·rw[ai h];simp[h]
theorem WQ(h:n_ eE B)(hr:r∈mZ B):eE r:=by
 unfold mZ at hr;rcases bO.1 hr with hr|hr
 ·obtain⟨p,hp,rfl⟩:=aT.1 hr
  exact(h.bg p hp).1
 rcases bO.1 hr with hr|hr
 ·obtain⟨x,hx,hr⟩:=dg.1 hr
  unfold rM at hr;rcases bO.1 hr with hr|hr
  ·obtain⟨v,hv,hr⟩:=dg.1 hr
   obtain⟨h1,rfl⟩:=FD.1 hr;exact OK (h.list x hx) v hv h1
  ·split at hr
   ·rename_i h0
    rw[bQ.1 hr];exact(h.list x hx).dst h0
   ·cases hr
 ·obtain⟨h1,rfl⟩:=FD.1 hr
  exact h.on h1
theorem WR(h:n_ eE B)(hr:r∈pS B):eE r:=by
 unfold pS at hr;obtain⟨p,hp,hr⟩:=dg.1 hr;obtain⟨v,hv,hr⟩:=dg.1 hr;obtain⟨h1,rfl⟩:=FD.1 hr;exact(h.bg p hp).2 v hv h1
structure SZ(f:Int->Int)(eE:Int->Prop)(n:Nat):Prop where
 inj:∀a b,eE a->eE b->f a=f b->a=b
 par:∀r:Int,0<=r->r<n->eE r/\f r=r
 pos:∀r,eE r->0<=r/\0<=f r
theorem P1(v:cI):eR (Je f v)=(eR v).map f:=by
 unfold eR Je
 by_cases h:v.dq=true
 ·rw[al h,al h,al rfl];rfl
 ·have h2:v.dq=false:=aD h
  simp[h2]
theorem So(f:Int->Int)(x:iA):eh (XH f x)=(eh x).map (Je f):=by
 unfold eh XH;simp only
 split
 ·rfl
 split
 ·rfl
 split
 ·rfl
 split<;>rfl
theorem O2(l:List cI):(l.map (Je f)).flatMap eR=(l.flatMap eR).map f:=by
 rw[qS,List.map_flatMap];exact oI λv _=>P1 v
theorem ZU(hf:SZ f eE n)(h:JO eE x):rM (XH f x)=(rM x).map f:=by
 unfold rM;rw[So,O2,bz];congr 1;unfold XH rnR;simp only
 by_cases h0:0<=x.dst
 ·have h2:=(hf.pos _ (h.dst h0)).2
  simp only[h0,if_true,h2,cf,dm]
 ·simp only[h0,if_false,dm]
theorem ZT(hf:SZ f eE n)(h:n_ eE B):mZ (DF f B)=(mZ B).map f:=by
 unfold mZ DF;simp only[bz,dM];congr 1;rw[P1];congr 1;rw[qS,List.map_flatMap];exact oI λx hx=>ZU hf (h.list x hx)
theorem ZW(f:Int->Int)(B:aq):pS (DF f B)=(pS B).map f:=by
 unfold pS DF;simp only;rw[qS,List.map_flatMap];exact oI λp _=>O2 p.src
theorem ZV(hf:SZ f eE n)(h:∀B∈bl,n_ eE B):DG n (bl.map (DF f))=(DG n bl).map f:=by
 unfold DG;simp only[bz];congr 1
 ·conv=>lhs;rw[<-pF (fV n)]
  exact ew λr hr=>by
   have:=pO.1 hr;exact(hf.par r this.1 this.2).2.symm
 ·congr 1
  ·rw[qS,List.map_flatMap]
   exact oI λB hB=>ZT hf (h B hB)
  ·rw[qS,List.map_flatMap]
   exact oI λB _=>ZW f B
theorem FC(hf:SZ f eE n)(h:∀B∈bl,n_ eE B)(hr:r∈DG n bl):eE r:=by
 unfold DG at hr;rcases bO.1 hr with hr|hr
 ·have:=pO.1 hr
  exact(hf.par r this.1 this.2).1
 rcases bO.1 hr with hr|hr
 ·obtain⟨B,hB,hr⟩:=dg.1 hr
  exact WQ (h B hB) hr
 ·obtain⟨B,hB,hr⟩:=dg.1 hr
  exact WR (h B hB) hr
theorem Zw(hf:SZ f eE n)(h:∀B∈bl,n_ eE B):l_ n (bl.map (DF f))=(l_ n bl).map f:=by
 unfold l_;rw[ZV hf h];exact Wk λa ha b hb e=>hf.inj a b (FC hf h ha) (FC hf h hb) e
theorem Pu:∀{L:List Int},(∀x∈L,f x=f r->x=r)->(L.map f).idxOf (f r)=L.idxOf r
 |[],_=>rfl
 |x::L,h=>by
  rw[cf,List.idxOf_cons,List.idxOf_cons]
  by_cases e:x=r
  ·subst e;simp
  ·have h2:f x≠f r:=λh3=>e (h x cK h3)
   have h3:(x==r)=false:=aD e;have h4:(f x==f r)=false:=aD h2;rw[h3,h4];simp only[cond_false];rw[Pu λy hy=>h y (ey _ hy)]
theorem Ol(hf:SZ f eE n)(hL:∀x∈L,eE x)(hr:eE r):gH (L.map f) (f r)=gH L r:=by
 unfold gH;rw[Pu λx hx e=>hf.inj x r (hL x hx) hr e]
theorem BH(hf:SZ f eE n)(hL:∀x∈L,eE x)(hv:uJ eE v):cr (L.map f) (Je f v)=cr L v:=by
 unfold cr Je
 by_cases h:v.dq=true
 ·rw[al h,al h]
  simp only[if_true];rw[Ol hf hL (hv h)]
 ·rw[ai h,ai h,ai h]
theorem ZO(hf:SZ f eE n)(hL:∀x∈L,eE x)(hx:JO eE x):gz (L.map f) (XH f x)=gz L x:=by
 unfold gz XH;simp only[dM];rw[BH hf hL hx.a,BH hf hL hx.b,ew (f:=cr (L.map f)∘Je f) (g:=cr L) λv hv=>BH hf hL (hx.args v hv)];congr 1;unfold oP rnR
 by_cases h0:0<=x.dst
 ·have h2:=hf.pos _ (hx.dst h0)
  simp only[h0,if_true,h2.2];exact Ol hf hL (hx.dst h0)
 ·simp only[h0,if_false]
theorem ZN(hf:SZ f eE n)(hL:∀x∈L,eE x)(hB:n_ eE B):py (L.map f) (DF f B)=py L B:=by
 unfold py DF;simp only[dM];rw[BH hf hL hB.on,ew (f:=gz (L.map f)∘XH f) (g:=gz L) λx hx=>ZO hf hL (hB.list x hx),ew (f:=Gs (L.map f)∘R3 f) (g:=Gs L) λp hp=>?_];unfold Gs R3;simp only[Function.comp];rw[Ol hf hL (hB.bg p hp).1];congr 1;rw[dM];exact ew λv hv=>BH hf hL ((hB.bg p hp).2 v hv)
theorem P9(f:Int->Int)(bl:List aq)(i:Nat):dY (bl.map (DF f)) i=dY bl i:=by
 unfold dY;rw[aW];cases bl[i]?<;>rfl
theorem LG(f:Int->Int)(bl:List aq)(t:Nat):be (bl.map (DF f)) t=be bl t:=by
 unfold be;rw[aG];exact lV λi _=>by rw[P9]
theorem W4(f:Int->Int)(bl:List aq)(b:Nat)(p:gD)(q:Nat):gi (bl.map (DF f)) b (R3 f p) q=Je f (gi bl b p q):=by
 have h:(R3 f p).src=p.src.map (Je f):=rfl;unfold gi;rw[LG,h,fF,fF,aW];cases p.src[(be bl b).idxOf q]? with
 |none=>rfl
 |some v=>rfl
theorem NW(f:Int->Int)(bl:List aq)(o:List Nat)(b:Nat)(p:gD):ft (bl.map (DF f)) o b (R3 f p)=R3 f (ft bl o b p):=by
 have h:(o.filter λq=>decide (q∈be bl b)).map (gi (bl.map (DF f)) b (R3 f p))=((o.filter λq=>decide (q∈be bl b)).map (gi bl b p)).map (Je f):=by
  rw[dM];exact ew λq _=>W4 f bl b p q
 unfold ft;rw[LG,h]
 rfl
theorem VE(f:Int->Int)(bl:List aq)(o:List Nat):cG (bl.map (DF f)) o=(cG bl o).map (DF f):=by
 unfold cG;rw[dM];refine ew λb _=>?_;have hb:bi (bl.map (DF f)) b=DF f (bi bl b):=by
  unfold bi;rw[aW];cases bl[b]? with
  |none=>rfl
  |some B=>rfl
 have wP:((bi bl b).bg.map (R3 f)).map (ft (bl.map (DF f)) o b)=((bi bl b).bg.map (ft bl o b)).map (R3 f):=by
  rw[dM,dM];exact ew λp _=>NW f bl o b p
 rw[hb];show(⟨((bi bl b).bg.map (R3 f)).map (ft (bl.map (DF f)) o b),_,_,_,_⟩:aq)=⟨((bi bl b).bg.map (ft bl o b)).map (R3 f),_,_,_,_⟩;rw[wP]
 rfl
theorem Sg(h:∀v∈p.src,uJ eE v)(q:Nat):uJ eE (gi bl b p q):=by
 unfold gi;rw[fF];cases hz:p.src[(be bl b).idxOf q]? with
 |none=>intro h;cases h
 |some v=>exact h v (aA hz)
theorem VF(h:∀B∈bl,n_ eE B)(o:List Nat):∀B∈cG bl o,n_ eE B:=λC hC=>by
 unfold cG at hC;obtain⟨b,_,rfl⟩:=aT.1 hC;have hB:n_ eE (bi bl b):=by
  unfold bi;cases hb:bl[b]? with
  |none=>exact⟨by simp[sj],by simp[sj],λh=>by cases h⟩
  |some B=>exact h B (aA hb)
 refine⟨λp hp=>?_,hB.list,hB.on⟩;unfold iP at hp;simp only at hp;obtain⟨q,hq,rfl⟩:=aT.1 hp;refine⟨(hB.bg q hq).1,λv hv=>?_⟩;unfold ft at hv;simp only at hv;obtain⟨c,_,rfl⟩:=aT.1 hv;exact Sg (hB.bg q hq).2 c
theorem Rw(hf:SZ f eE X.params.toNat)(h:∀B∈X.blocks,n_ eE B)(hn:cP.name=X.name)(hp:cP.params=X.params)(hb:cP.blocks=X.blocks.map (DF f)):fJ cP=fJ X:=by
 have ho:cQ cP.blocks=cQ X.blocks:=by
  rw[hb];exact De (by rw[aG]) λi=>P9 f _ i
 have hk:eN cP=(eN X).map (DF f):=by
  unfold eN;rw[ho,hb,VE]
 have hR:=VF h (cQ X.blocks);have hm:l_ cP.params.toNat (eN cP)=(l_ X.params.toNat (eN X)).map f:=by
  rw[hk,hp];exact Zw hf hR
 have hL:∀x∈l_ X.params.toNat (eN X),eE x:=λx hx=>FC hf hR (vx.1 hx);unfold fJ;rw[hm,hk,aG,dM];have hB:(eN X).map (py ((l_ X.params.toNat (eN X)).map f)∘DF f)=(eN X).map (py (l_ X.params.toNat (eN X))):=ew λB hB=>ZN hf hL (hR B hB);rw[hB,hn,hp]
def wM(o:List Nat)(s:Nat->Nat)(b:Nat):Nat:=((o.takeWhile λc=>decide (c≠b)).map s).sum
def num(o:List Nat)(s:Nat->Nat)(ρ:Nat->Nat->Nat)(n:Nat)(b k:Nat):Int:=((n+wM o s b+ρ b k:Nat):Int)
theorem HL(s:Nat->Nat)(fZ:b≠c):∀{o:List Nat},b∈o->c∈o->wM o s b+s b<=wM o s c\/wM o s c+s c<=wM o s b
 |[],hb,_=>by cases hb
 |x::o,hb,hc=>by
  unfold wM
  by_cases e1:x=b
  ·subst e1
   left
   rw[List.takeWhile_cons_of_neg cK,uL (by simp;exact fZ),cf,g_];simp
  ·by_cases e2:x=c
   ·subst e2
    right
    rw[List.takeWhile_cons_of_neg cK,uL (by simp;exact λh=>fZ h.symm),cf,g_];simp
   ·have wS:b∈o:=by rcases bX.1 hb with h|h;exact absurd h.symm e1;exact h
    have G2:c∈o:=by rcases bX.1 hc with h|h;exact absurd h.symm e2;exact h
    have ih:=HL s fZ wS G2;unfold wM at ih;rw[uL (by simp;exact e1),uL (by simp;exact e2),cf,g_,cf,g_];omega
structure CW(bl:List aq)(o:List Nat)(s:Nat->Nat)(ρ:Nat->Nat->Nat):Prop where
 all:∀b,b<bl.length->b∈o
 lt:∀b B k,bl[b]?=O B->Site B k->ρ b k<s b
 inj:∀b B k k',bl[b]?=O B->Site B k->Site B k'->ρ b k=ρ b k'->k=k'
theorem DX(h:CW bl o s ρ){k':Nat}{C:aq}(hB:bl[b]?=O B)(hC:bl[c]?=O C)(hk:Site B k)(G6:Site C k')(e:num o s ρ n b k=num o s ρ n c k'):b=c/\k=k':=by
 have h1:=h.lt b B k hB hk;have h2:=h.lt c C k' hC G6;unfold num at e
 by_cases fZ:b=c
 ·subst fZ
  rw[hB]at hC;obtain rfl:=bJ hC;exact⟨rfl,h.inj b B k k' hB hk G6 A⟩
 ·have:=HL s fZ (h.all b (aJ.1 hB).1) (h.all c (aJ.1 hC).1)
  omega
def XN(ν:Nat->Nat->Int)(bl:List aq)(n:Nat)(x:Int):Prop:=(0<=x/\x<n)\/∃b B k,bl[b]?=O B/\Site B k/\ν b k=x
open Classical in
noncomputable def Ls(ν ν':Nat->Nat->Int)(bl:List aq)(x:Int):Int:=if h:∃y:Nat×Nat,(∃B,bl[y.1]?=O B/\Site B y.2)/\ν y.1 y.2=x then ν' (Classical.choose h).1 (Classical.choose h).2 else x
theorem Hv(hi:∀b c k k' B C,bl[b]?=O B->bl[c]?=O C->Site B k->Site C k'->ν b k=ν c k'->b=c/\k=k')(hB:bl[b]?=O B)(hk:Site B k):Ls ν ν' bl (ν b k)=ν' b k:=by
 unfold Ls;have h:∃y:Nat×Nat,(∃B,bl[y.1]?=O B/\Site B y.2)/\ν y.1 y.2=ν b k:=⟨(b,k),⟨B,hB,hk⟩,rfl⟩;rw[dif_pos h];obtain⟨⟨C,hC,hs⟩,e⟩:=w_ h;obtain⟨h1,h2⟩:=hi _ _ _ _ C B hC hB hs hk e;rw[h1,h2]
theorem Lt(hp:∀b k,(n:Int)<=ν b k){x:Int}(hx:x<n):Ls ν ν' bl x=x:=by
 unfold Ls;rw[dif_neg];rintro⟨y,_,e⟩;have:=hp y.1 y.2;omega
theorem xL(o:List Nat)(s:Nat->Nat)(ρ:Nat->Nat->Nat)(n b k:Nat):(n:Int)<=num o s ρ n b k:=by unfold num;omega
section
variable {bl:List aq} {o o':List Nat} {s s':Nat->Nat} {ρ ρ':Nat->Nat->Nat} {n:Nat}
theorem ZH(h:CW bl o s ρ)(h':CW bl o' s' ρ'):SZ (Ls (num o s ρ n) (num o' s' ρ' n) bl) (XN (num o s ρ n) bl n) n:=by
 have hs:∀{b k B},bl[b]?=O B->Site B k->Ls (num o s ρ n) (num o' s' ρ' n) bl (num o s ρ n b k)=num o' s' ρ' n b k:=λhB hk=>Hv (λb c k k' B C hB hC hk G6 e=>DX h hB hC hk G6 e) hB hk;have hp:∀{x:Int},x<n->Ls (num o s ρ n) (num o' s' ρ' n) bl x=x:=λhx=>Lt (xL o s ρ n) hx;refine⟨λa c ha hc e=>?_,λr h0 hr=>⟨.inl ⟨h0,hr⟩,hp hr⟩,λr hr=>?_⟩
 ·rcases ha with⟨Uk,ha⟩|⟨b,B,k,hB,hk,rfl⟩
  ·rcases hc with⟨Nq,hc⟩|⟨c,C,k',hC,G6,rfl⟩
   ·rw[hp ha,hp hc]at e;exact e
   ·rw[hp ha,hs hC G6]at e
    have:=xL o' s' ρ' n c k';omega
  ·rcases hc with⟨Nq,hc⟩|⟨c,C,k',hC,G6,rfl⟩
   ·rw[hp hc,hs hB hk]at e
    have:=xL o' s' ρ' n b k;omega
   ·rw[hs hB hk,hs hC G6]at e
    obtain⟨rfl,rfl⟩:=DX h' hB hC hk G6 e
    rfl
 ·rcases hr with⟨h0,hr⟩|⟨b,B,k,hB,hk,rfl⟩
  ·rw[hp hr];exact⟨h0,h0⟩
  ·rw[hs hB hk]
   have h1:=xL o s ρ n b k;have h2:=xL o' s' ρ' n b k;omega
theorem V9(h:CW bl o s ρ):Qp (Ls (num o s ρ n) (num o' s' ρ' n) bl) (num o s ρ n) (num o' s' ρ' n) bl n:=
 ⟨λb k B hB hk=>(Hv (λb c k k' B C hB hC hk G6 e=>DX h hB hC hk G6 e) hB hk).symm,λr _ hr=>Lt (xL o s ρ n) hr,λb k=>by have:=xL o s ρ n b k;omega⟩
end
theorem PI(hr:0<=r):∀(g b i:Nat),uJ (XN ν bl n) (PH ν bl n g b i r)
 |0,b,i=>λh=>by cases h
 |g+1,b,i=>by
  unfold PH;cases hd:oV (bi bl b) r i with
  |some k=>
   simp only;have hs:=zJ hr hd;cases hB:bl[b]? with
   |none=>
    unfold bi at hs;rw[hB]at hs;simp only[Option.getD_none]at hs;rcases hs with h1|⟨i,x,_,h1,_⟩
    ·simp[sj]at h1
    ·simp[sj]at h1
   |some B=>
    have Sy:bi bl b=B:=by unfold bi;rw[hB];rfl
    rw[Sy]at hs;exact λ_=>.inr ⟨b,B,k,hB,hs,rfl⟩
  |none=>
   simp only
   split
   ·split
    ·rename_i h1
     exact λ_=>.inl ⟨hr,h1⟩
    ·exact λh=>by cases h
   ·exact PI hr g _ _
theorem wh(hv:uJ (λr=>0<=r) v):uJ (XN ν bl n) (kt ν bl n b i v):=by
 unfold kt
 by_cases h:v.dq=true
 ·rw[al h]
  exact PI (hv h) _ _ _
 ·rw[ai h]
  exact λh2=>absurd h2 h
theorem Bw(h:Qp f ν ν' bl n)(hv:uJ (λr=>0<=r) v):kt ν' bl n b i v=Je f (kt ν bl n b i v):=by
 unfold kt
 by_cases hr:v.dq=true
 ·rw[al hr,al hr]
  exact PJ h (hv hr) _ _ _
 ·rw[ai hr,ai hr]
  unfold Je;rw[ai hr]
theorem oN{γ:Type}(f:Nat->α->β)(g:β->γ)(l:List α):(l.mapIdx f).map g=l.mapIdx λi x=>g (f i x):=by
 apply cY;intro i;rw[aW,eD,eD,Option.map_map]
 rfl
theorem kM{f g:Nat->α->β}{l:List α}(h:∀i x,l[i]?=O x->f i x=g i x):l.mapIdx f=l.mapIdx g:=by
 apply cY;intro i;rw[eD,eD];cases hx:l[i]? with
 |none=>rfl
 |some x=>rw[b_,b_,h i x hx]
theorem WX(h:Qp f ν ν' bl n)(hB:bl[b]?=O B)(hx:B.list[k]?=O x)(hr:JO (λr=>0<=r) x):su ν' bl n b k x=XH f (su ν bl n b k x):=by
 have Sy:bi bl b=B:=by unfold bi;rw[hB];rfl
 unfold su XH;simp only[dM];rw[Bw h hr.a,Bw h hr.b,ew (f:=kt ν' bl n b k) (g:=Je f∘kt ν bl n b k) λv hv=>Bw h (hr.args v hv)];congr 1;unfold rnR
 by_cases h0:0<=x.dst
 ·simp only[h0,if_true,h.pos]
  rw[Sy];exact h.adl b _ B hB (.inr ⟨k,x,rfl,hx,h0⟩)
 ·simp only[h0,if_false]
theorem WW(h:Qp f ν ν' bl n)(hB:bl[b]?=O B)(hr:n_ (λr=>0<=r) B):FF ν' bl n b B=DF f (FF ν bl n b B):=by
 unfold FF DF;simp only;rw[Bw h hr.on,oN,oN];congr 1
 ·refine kM λi p hp=>?_
  unfold FG R3;simp only;rw[h.adl b i B hB (.inl (aJ.1 hp).1),oN];congr 1;refine kM λj v hv=>?_;unfold pV;exact Bw h ((hr.bg p (aA hp)).2 v (aA hv))
 ·exact kM λk x hx=>WX h hB hx (hr.list x (aA hx))
theorem WY(h:Qp f ν ν' bl n)(hr:∀B∈bl,n_ (λr=>0<=r) B):pU ν' bl n=(pU ν bl n).map (DF f):=by
 unfold pU;rw[oN];exact kM λb B hB=>WW h hB (hr B (aA hB))
theorem BN(hr:∀B∈bl,n_ (λr=>0<=r) B):∀C∈pU ν bl n,n_ (XN ν bl n) C:=λC hC=>by
 obtain⟨b,hb⟩:=bR hC;unfold pU at hb;rw[eD]at hb;obtain⟨B,hB,rfl⟩:=ff.1 hb;have hR:=hr B (aA hB);have Sy:bi bl b=B:=by unfold bi;rw[hB];rfl
 refine⟨λq hq=>?_,λy hy=>?_,wh hR.on⟩
 ·unfold FF at hq
  simp only at hq;obtain⟨i,hi⟩:=bR hq;rw[eD]at hi;obtain⟨p,hp,rfl⟩:=ff.1 hi;refine⟨.inr ⟨b,B,i,hB,.inl (aJ.1 hp).1,rfl⟩,λv hv=>?_⟩;unfold FG at hv;simp only at hv;obtain⟨j,hj⟩:=bR hv;rw[eD]at hj;obtain⟨u,hu,rfl⟩:=ff.1 hj;exact wh ((hR.bg p (aA hp)).2 u (aA hu))
 ·unfold FF at hy
  simp only at hy;obtain⟨k,hk⟩:=bR hy;rw[eD]at hk;obtain⟨x,hx,rfl⟩:=ff.1 hk;have hI:=hR.list x (aA hx);refine⟨wh hI.a,wh hI.b,λv hv=>?_,λh0=>?_⟩
  ·unfold su at hv
   simp only at hv;obtain⟨u,hu,rfl⟩:=aT.1 hv;exact wh (hI.args u hu)
  ·unfold su at h0|-
   simp only at h0|-
   by_cases h1:0<=x.dst
   ·rw[al h1,Sy]
    exact .inr ⟨b,B,_,hB,.inr ⟨k,x,rfl,hx,h1⟩,rfl⟩
   ·rw[ai h1]at h0
    exact absurd h0 h1
theorem Se{o':List Nat}{s':Nat->Nat}{ρ':Nat->Nat->Nat}(h:CW bl o s ρ)(h':CW bl o' s' ρ')(hr:∀B∈bl,n_ (λr=>0<=r) B)(hn:cP.name=X.name)(hp:cP.params=X.params)
  (hX:X.blocks=pU (num o s ρ X.params.toNat) bl X.params.toNat) (hY:cP.blocks=pU (num o' s' ρ' X.params.toNat) bl X.params.toNat):fJ cP=fJ X:=
 Rw (ZH h h') (by rw[hX];exact BN hr) hn hp (by rw[hX,hY];exact WY (V9 h) hr)
noncomputable def pN(bl:List aq)(b:Nat):List Nat:=(bj bl.length).filter λc=>decide (ed bl c=(b:Int))
noncomputable def mi(bl:List aq):Nat->Nat->List Nat
 |0,_=>[]
 |f+1,b=>b::(pN bl b).flatMap (mi bl f)
theorem pM(h:c∈pN bl b):lJ bl b c:=by
 unfold pN at h;have h2:ed bl c=(b:Int):=by simpa using(cR.1 h).2
 by_cases hc:∃d,lJ bl d c
 ·obtain⟨d,hd⟩:=hc
  rw[lz hd]at h2;have:d=b:=A;subst this;exact hd
 ·rw[jK λd hd=>hc ⟨d,hd⟩]at h2
  omega
theorem Vp(dV:dK bl)(h0:0<bl.length)(h:lJ bl b c):c∈pN bl b:=
 cR.2 ⟨cW.2 (dV.BG h0 h.1.2.1),by rw[lz h];simp⟩
theorem BE:∀{f b x:Nat},jg bl (-1) 0 b->x∈mi bl f b->kU bl b x
 |0,b,x,_,h=>by cases h
 |f+1,b,x,hb,h=>by
  unfold mi at h;rcases bX.1 h with rfl|h
  ·exact kU.refl hb
  ·obtain⟨k,hk,hx⟩:=dg.1 h
   have hi:=pM hk;exact hi.1.trans (BE hi.1.2.1 hx)
theorem PT(dV:dK bl)(h0:0<bl.length){y x:Nat}(hi:lJ bl y x):∀{f b:Nat},y∈mi bl f b->x∈mi bl (f+1) b
 |0,b,h=>by cases h
 |f+1,b,h=>by
  unfold mi at h;unfold mi;rcases bX.1 h with rfl|h
  ·refine ey _ (dg.2 ⟨x,Vp dV h0 hi,?_⟩)
   unfold mi;exact vO
  ·obtain⟨k,hk,hy⟩:=dg.1 h
   exact ey _ (dg.2 ⟨k,hk,PT dV h0 hi hy⟩)
theorem LF{x:Nat}:∀{f b:Nat},x∈mi bl f b->x∈mi bl (f+1) b
 |0,b,h=>by cases h
 |f+1,b,h=>by
  unfold mi at h;unfold mi;rcases bX.1 h with rfl|h
  ·exact vO
  ·obtain⟨k,hk,hy⟩:=dg.1 h
   exact ey _ (dg.2 ⟨k,hk,LF hy⟩)
theorem adg{x f:Nat}(h:x∈mi bl f b):∀{g:Nat},f<=g->x∈mi bl g b:=λ{g} hg=>by
 obtain⟨d,rfl⟩:=Nat.exists_eq_add_of_le hg
 induction d with
 |zero=>exact h
 |succ d ih=>exact LF (ih A)
theorem PS(dV:dK bl)(h0:0<bl.length):∀(m x:Nat),Ml bl x<=m->jg bl (-1) 0 x->x∈mi bl (Ml bl x) 0
 |0,x,h,hx=>by have:=(tZ dV h0 hx).1;omega
 |m+1,x,h,hx=>by
  by_cases e:x=0
  ·subst e
   have:=(tZ dV h0 hx).1;obtain⟨d,hd⟩:∃d,Ml bl 0=d+1:=⟨Ml bl 0-1,A⟩;rw[hd];unfold mi;exact vO
  ·obtain⟨c,hc⟩:=Bl dV h0 hx e
   have h1:=vj dV h0 hc;have h2:Ml bl c+1=Ml bl x:=h1;rw[<-h2];exact PT dV h0 hc (PS dV h0 m c A hc.BG)
noncomputable def wn(bl:List aq):List Nat:=mi bl bl.length 0
theorem PQ(dV:dK bl)(h0:0<bl.length){x:Nat}(hx:jg bl (-1) 0 x):x∈wn bl:=
 adg (PS dV h0 _ x (cz _) hx) (tZ dV h0 hx).2
theorem Es{f:α->List β}:∀{l:List α},l.Nodup->(∀x∈l,(f x).Nodup)->(∀x∈l,∀y∈l,x≠y->∀z,z∈f x->z∉f y)->(l.flatMap f).Nodup
 |[],_,_,_=>List.nodup_nil
 |x::l,hn,hf,hd=>by
  rw[fj];obtain⟨h1,h2⟩:=rV.1 hn;refine nA.2 ⟨hf x cK,Es h2 (λy hy=>hf y (ey _ hy)) λy hy z hz=>hd y (ey _ hy) z (ey _ hz),λa ha b hb e=>?_⟩;subst e;obtain⟨y,hy,hb⟩:=dg.1 hb;exact hd x cK y (ey _ hy) (λe=>h1 (e▸hy)) a ha hb
theorem N3(bl:List aq)(b:Nat):(pN bl b).Nodup:=List.nodup_range.filter _
theorem N0{l x:Nat}(hk:lJ bl b k)(hl:lJ bl b l)(fZ:k≠l)(h1:kU bl k x):¬kU bl l x:=λh2=>by
 have key:∀{k l:Nat},lJ bl b k->lJ bl b l->k≠l->kU bl k l->False:=λhk hl fZ h=>by
  have h3:=hl.2.2 _ h fZ;exact hk.2.1 (hk.1.antisymm h3)
 rcases h1.chain h2 with h|h
 ·exact key hk hl fZ h
 ·exact key hl hk (Ne.symm fZ) h
theorem CL:∀{f b:Nat},jg bl (-1) 0 b->(mi bl f b).Nodup
 |0,b,_=>List.nodup_nil
 |f+1,b,hb=>by
  unfold mi;refine rV.2 ⟨λh=>?_,Es (N3 bl b) (λk hk=>CL (pM hk).1.2.1) λk hk l hl fZ x hx hy=>?_⟩
  ·obtain⟨k,hk,hx⟩:=dg.1 h
   have hi:=pM hk;exact hi.2.1 (hi.1.antisymm (BE hi.1.2.1 hx))
  ·exact N0 (pM hk) (pM hl) fZ (BE (pM hk).1.2.1 hx) (BE (pM hl).1.2.1 hy)
def ON(x:iA):Bool:=decide (0<=x.dst)
def zI(B:aq):Nat:=B.bg.length+(B.list.filter ON).length
def WJ(B:aq)(k:Nat):Nat:=if k<B.bg.length then k else B.bg.length+((B.list.take (k-B.bg.length)).filter ON).length
theorem yt{l:List iA}(h:l[i]?=O x):((l.take (i+1)).filter ON).length=((l.take i).filter ON).length+if 0<=x.dst then 1 else 0:=by
 rw[bV,h,jk,mw,bW];congr 1
 by_cases h0:0<=x.dst<;>simp[ON,h0]
theorem O1(l:List iA){j:Nat}(h:i<=j):((l.take i).filter ON).length<=((l.take j).filter ON).length:=by
 have e:l.take i=(l.take j).take i:=by rw[List.take_take,fP h]
 rw[e];exact((List.take_sublist i (l.take j)).filter ON).length_le
theorem Kd(l:List iA)(i:Nat):((l.take i).filter ON).length<=(l.filter ON).length:=((List.take_sublist i l).filter ON).length_le
noncomputable def B5(bl:List aq)(n:Nat):Nat->Nat->Int:=num (wn bl) (λb=>zI (bi bl b)) (λb k=>WJ (bi bl b) k) n
def Ae(bl:List aq)(n:Nat):Nat->Nat->Int:=num (bj bl.length) (λb=>(bi bl b).bg.length+(bi bl b).list.length) (λ_ k=>k) n
theorem gK(h:bl[b]?=O B):bi bl b=B:=by unfold bi;rw[h];rfl
theorem ac5(bl:List aq):CW bl (bj bl.length) (λb=>(bi bl b).bg.length+(bi bl b).list.length) (λ_ k=>k):=
 ⟨λb hb=>cW.2 hb,λb B k hB hk=>by
  rw[gK hB];rcases hk with h|⟨i,x,rfl,hx,_⟩
  ·omega
  ·have:=(aJ.1 hx).1
   omega,λ_ _ _ _ _ _ _ h=>h⟩
theorem V8(dV:dK bl)(h0:0<bl.length)(hr:∀b,b<bl.length->jg bl (-1) 0 b):CW bl (wn bl) (λb=>zI (bi bl b)) (λb k=>WJ (bi bl b) k):=
 ⟨λb hb=>PQ dV h0 (hr b hb),λb B k hB hk=>by
  rw[gK hB];unfold WJ zI;rcases hk with h|⟨i,x,rfl,hx,h0⟩
  ·rw[al h];omega
  ·rw[ai A,uN]
   have h1:=yt hx;rw[al h0]at h1;have h2:=Kd B.list (i+1);omega,λb B k k' hB hk G6 e=>by
  rw[gK hB]at e;unfold WJ at e;rcases hk with h|⟨i,x,rfl,hx,Hi⟩
  ·rcases G6 with h'|⟨j,y,rfl,hy,hy0⟩
   ·rw[al h,al h']at e;exact e
   ·rw[al h,ai A]at e;omega
  ·rcases G6 with h'|⟨j,y,rfl,hy,hy0⟩
   ·rw[ai A,al h']at e;omega
   ·rw[ai A,ai A,uN,uN]at e
    have h1:=yt hx;have h2:=yt hy;rw[al Hi]at h1;rw[al hy0]at h2
    by_cases UN:i=j
    ·rw[UN]
    ·rcases Nat.lt_or_gt_of_ne UN with h|h
     ·have:=O1 B.list (show i+1<=j from h);omega
     ·have:=O1 B.list (show j+1<=i from h);omega⟩
structure Mk where
 dst:Nat->Nat->Prop
 src:Nat->Nat->Nat->Prop
 ins:Nat->Nat->Prop
 on:Nat->Prop
section
variable (ν:Nat->Nat->Int) (bl:List aq) (n:Nat)
open Classical in
noncomputable def Mx(F:Mk)(c i:Nat)(p:gD):gD:=⟨if F.dst c i then ν c i else p.dst,p.src.mapIdx λj v=>if F.src c i j then pV ν bl n c j v else v⟩
open Classical in
noncomputable def XI(F:Mk)(c k:Nat)(x:iA):iA:=if F.ins c k then su ν bl n c k x else x
open Classical in
noncomputable def tK(F:Mk)(c:Nat)(B:aq):aq:={B with bg:=B.bg.mapIdx (Mx ν bl n F c),list:=B.list.mapIdx (XI ν bl n F c),on:=if F.on c then kt ν bl n c B.list.length B.on else B.on}
noncomputable def F7(F:Mk):List aq:=bl.mapIdx (tK ν bl n F)
end
section
variable {ν:Nat->Nat->Int} {bl:List aq} {n:Nat}
theorem BW(F:Mk):(F7 ν bl n F).length=bl.length:=by simp[F7]
theorem BV{F:Mk}(h:bl[b]?=O B):(F7 ν bl n F)[b]?=O (tK ν bl n F b B):=by
 unfold F7;rw[eD,h]
 rfl
theorem aaf{F cU:Mk}(hd:∀c i,F.dst c i↔cU.dst c i)(hs:∀c i j,F.src c i j↔cU.src c i j)(hi:∀c k,F.ins c k↔cU.ins c k)(ho:∀c,F.on c↔cU.on c):F7 ν bl n F=F7 ν bl n cU:=by
 have e:F=cU:=by
  obtain⟨a,b,c,d⟩:=F;obtain⟨a',b',c',d'⟩:=cU;simp only at hd hs hi ho;have h1:a=a':=funext λx=>funext λy=>propext (hd x y);have h2:b=b':=funext λx=>funext λy=>funext λz=>propext (hs x y z);have h3:c=c':=funext λx=>funext λy=>propext (hi x y);have h4:d=d':=funext λx=>propext (ho x);rw[h1,h2,h3,h4]
 rw[e]
theorem Xk{F:Mk}(hd:∀c i,¬F.dst c i)(hs:∀c i j,¬F.src c i j)(hi:∀c k,¬F.ins c k)(ho:∀c,¬F.on c):F7 ν bl n F=bl:=by
 classical
 have h1:∀c B,tK ν bl n F c B=B:=λc B=>by
  have h2:B.bg.mapIdx (Mx ν bl n F c)=B.bg:=by
   apply cY;intro i;rw[eD];cases B.bg[i]? with
   |none=>rfl
   |some p=>
    rw[b_];unfold Mx;rw[ai (hd c i)];rw[show(p.src.mapIdx λj v=>if F.src c i j then pV ν bl n c j v else v)=p.src from by
     apply cY;intro j;rw[eD];cases p.src[j]? with
     |none=>rfl
     |some v=>rw[b_,ai (hs c i j)]]
  have h4:B.list.mapIdx (XI ν bl n F c)=B.list:=by
   apply cY;intro i;rw[eD];cases B.list[i]? with
   |none=>rfl
   |some x=>
    rw[b_];unfold XI;rw[ai (hi c i)]
  unfold tK;rw[h2,h4,ai (ho c)]
 apply cY;intro b;unfold F7;rw[eD];cases bl[b]? with
 |none=>rfl
 |some B=>rw[b_,h1]
theorem aae{F:Mk}(hd:∀c i B,bl[c]?=O B->i<B.bg.length->F.dst c i)(hs:∀c i j B p,bl[c]?=O B->B.bg[i]?=O p->j<p.src.length->F.src c i j)(hi:∀c k B,bl[c]?=O B->k<B.list.length->F.ins c k)(ho:∀c B,bl[c]?=O B->F.on c):F7 ν bl n F=pU ν bl n:=by
 unfold F7 pU;refine kM λc B hB=>?_;unfold tK FF;rw[al (ho c B hB)];have h1:B.bg.mapIdx (Mx ν bl n F c)=B.bg.mapIdx (FG ν bl n c):=kM λi p hp=>by
  unfold Mx FG;rw[al (hd c i B hB (aJ.1 hp).1)];congr 1;exact kM λj v hv=>al (hs c i j B p hB hp (aJ.1 hv).1)
 have h2:B.list.mapIdx (XI ν bl n F c)=B.list.mapIdx (su ν bl n c):=kM λk x hx=>by
  unfold XI;rw[al (hi c k B hB (aJ.1 hx).1)]
 rw[h1,h2]
variable (ν bl n)in
noncomputable def O0(b:Nat)(r:Int):cI:=if ed bl b<0 then(if r<n then⟨true,r⟩else lB)else nm ν bl n (ed bl b).toNat (bi bl (ed bl b).toNat).list.length r
variable (ν bl n)in
noncomputable def RA(b i:Nat)(r:Int):cI:=match BA (bi bl b).bg r i with
 |some k=>⟨true,ν b k⟩
 |none=>O0 ν bl n b r
theorem Od(dV:dK bl)(h0:0<bl.length)(hb:jg bl (-1) 0 b):nm ν bl n b i r=match oV (bi bl b) r i with
  |some k=>⟨true,ν b k⟩
  |none=>O0 ν bl n b r:=PK dV h0 hb
theorem ZF(dV:dK bl)(h0:0<bl.length)(hb:jg bl (-1) 0 b):nm ν bl n b 0 r=RA ν bl n b (bi bl b).bg.length r:=Od dV h0 hb
theorem V4(b:Nat)(r:Int):RA ν bl n b 0 r=O0 ν bl n b r:=rfl
theorem V3(hp:(bi bl b).bg[i]?=O p)(r:Int):RA ν bl n b (i+1) r=if p.dst=r then⟨true,ν b i⟩else RA ν bl n b i r:=by
 unfold RA;have h:BA (bi bl b).bg r (i+1)=if p.dst=r then O i else BA (bi bl b).bg r i:=by
  rw[BA,hp];simp only[b_,cF]
 rw[h]
 by_cases e:p.dst=r
 ·rw[al e,al e]
 ·rw[ai e,ai e]
theorem PL(dV:dK bl)(h0:0<bl.length)(hb:jg bl (-1) 0 b)(hx:(bi bl b).list[i]?=O x)(r:Int):nm ν bl n b (i+1) r=if x.dst=r then⟨true,ν b ((bi bl b).bg.length+i)⟩else nm ν bl n b i r:=by
 rw[Od dV h0 hb,Od dV h0 hb];have h:oV (bi bl b) r (i+1)=if x.dst=r then O ((bi bl b).bg.length+i)else oV (bi bl b) r i:=by
  rw[oV,hx];simp only[b_,cF]
 rw[h]
 by_cases e:x.dst=r
 ·rw[al e,al e]
 ·rw[ai e,ai e]
end
def f_(R:Nat)(f:Int->cI):List cI:=(bj R).map λr:Nat=>f r
theorem jE(R:Nat)(f:Int->cI):(f_ R f).length=R:=by simp[f_]
theorem xP{f:Int->cI}{r:Nat}(h:r<R):(f_ R f)[r]?=O (f r):=by unfold f_;rw[aW,gq h];rfl
theorem LN{f:Int->cI}{d:Nat}(h:∀r:Nat,r<R->g r=if (d:Int)=r then v else f r):(f_ R f).set d v=f_ R g:=by
 apply cY;intro r
 by_cases hr:r<R
 ·rw[xP hr,h r hr]
  by_cases e:d=r
  ·subst e
   rw[fk (by rw[jE];exact hr),al rfl]
  ·rw[fY e,xP hr,ai A]
 ·rw[cm (by rw[fK,jE];omega),cm (by rw[jE];omega)]
theorem Fy{f:Int->cI}(h:∀r:Nat,r<R->f r=g r):f_ R f=f_ R g:=by
 unfold f_;exact ew λr hr=>h r (cW.1 hr)
section
variable {bl rW:List aq}
theorem adi(h:∀i,dY rW i=dY bl i){wo:Int}{x:Nat}:jg rW wo b x↔jg bl wo b x:=by
 have key:∀{l l':List aq},(∀i,dY l' i=dY l i)->jg l wo b x->jg l' wo b x:=λ{l l'} h k=>by
  induction k with
  |refl=>exact .refl
  |step _ he hw ih=>exact ih.step (by unfold Edge at he|-;rw[h];exact he) hw
 exact⟨key λi=>(h i).symm,key h⟩
theorem Fl(hl:rW.length=bl.length)(h:∀i,dY rW i=dY bl i)(t:Nat):be rW t=be bl t:=by
 unfold be;rw[hl];exact lV λi _=>by rw[h]
theorem DQ(hl:rW.length=bl.length)(h:∀i,dY rW i=dY bl i)(hg:dK bl):dK rW:=λB hB=>by
 obtain⟨b,hb⟩:=bR hB;have h1:=h b;rw[fI hb]at h1;have jX:b<bl.length:=by rw[<-hl];exact(aJ.1 hb).1
 obtain⟨C,hC⟩:=bE bl b jX;rw[fI hC]at h1;rw[h1,hl];exact hg C (aA hC)
end
theorem LA(bl:List aq)(m t:Nat):be (jt bl m) t=be bl t:=Fl (jU bl m) (wt bl m) t
theorem pQ(hf:eW R bl)(hm:m<=R):eW R (jt bl m):=by
 refine⟨DQ (jU bl m) (wt bl m) hf.iD,λb C hC=>?_⟩;have jX:b<bl.length:=by rw[<-jU bl m];exact(aJ.1 hC).1
 obtain⟨B,hB⟩:=bE bl b jX;rw[ly hB]at hC;obtain rfl:=bJ hC;have ho:=hf.block b B hB;refine⟨λp hp=>?_,ho.list,ho.on,ho.to⟩;rw[LA];simp only at hp;rcases bO.1 hp with hp|hp
 ·exact ho.bg p hp
 ·obtain⟨r,hr,_,rfl⟩:=ui hp
  refine⟨⟨by simp[mv],by simp only[mv];omega⟩,by simp[mv],λv hv=>?_⟩;simp only[mv]at hv;rw[oC hv];exact λ_=>⟨by simp only;omega,by simp only;omega⟩
theorem uJ.mono(h:∀r,eE r->cZ r)(hv:uJ eE v):uJ cZ v:=λk=>h _ (hv k)
theorem JO.mono(h:∀r,eE r->cZ r)(hx:JO eE x):JO cZ x:=⟨hx.a.mono h,hx.b.mono h,λv hv=>(hx.args v hv).mono h,λh0=>h _ (hx.dst h0)⟩
theorem n_.mono(h:∀r,eE r->cZ r)(hB:n_ eE B):n_ cZ B:=⟨λp hp=>⟨h _ (hB.bg p hp).1,λv hv=>((hB.bg p hp).2 v hv).mono h⟩,λx hx=>(hB.list x hx).mono h,hB.on.mono h⟩
def JP(R:Nat)(r:Int):Prop:=0<=r/\r<R
theorem RE(h:∀B∈bl,n_ (JP R) B)(hm:m<=R):∀B∈jt bl m,n_ (JP R) B:=λC hC=>by
 obtain⟨b,hb⟩:=bR hC;have jX:b<bl.length:=by rw[<-jU bl m];exact(aJ.1 hb).1
 obtain⟨B,hB⟩:=bE bl b jX;rw[ly hB]at hb;obtain rfl:=bJ hb;have hR:=h B (aA hB);refine⟨λp hp=>?_,hR.list,hR.on⟩;simp only at hp;rcases bO.1 hp with hp|hp
 ·exact hR.bg p hp
 ·obtain⟨r,hr,_,rfl⟩:=ui hp
  refine⟨⟨by simp[mv],by simp only[mv];omega⟩,λv hv=>?_⟩;simp only[mv]at hv;rw[oC hv];exact λ_=>⟨by simp only;omega,by simp only;omega⟩
theorem TD{fs:List bZ}(hR:X.bm=R)(hf:eW R X.blocks)(h:qx fs X):∀B∈X.blocks,n_ (JP R) B:=λB hB=>by
 obtain⟨b,hb⟩:=bR hB;have ho:=hf.block b B hb;refine⟨λp hp=>⟨(ho.bg p hp).dst,λv hv=>(ho.bg p hp).tT v hv⟩,λx hx=>?_,ho.on⟩;have h0:=h.list b B hb x hx;have hI:=ho.list x hx;rw[hR]at h0;unfold fA at h0
 split at h0
 ·cases h0
 split at h0
 ·cases h0
 split at h0
 ·rename_i h3
  simp[h0]at h3
 split at h0
 ·rename_i h4;exact absurd h0 h4
 rename_i h4;have h4:=val_zero.1 (Decidable.not_not.1 h4)
 split at h0
 ·rename_i h5;exact absurd h0 h5
 rename_i h5;have h5:=val_zero.1 (Decidable.not_not.1 h5);refine⟨λhr=>by have:=h4 hr;exact⟨A,A⟩,λhr=>by have:=h5 hr;exact⟨A,A⟩,λv hv hr=>?_,λh6=>⟨h6,hI.dst h6⟩⟩;exact hI.tT v (by unfold oS;simp[hv]) hr
def yG(bl:List aq)(dL:List Nat):Mk:=⟨λc _=>c∈dL,λc _ j=>∃q,(be bl c)[j]?=O q/\q∈dL,λc _=>c∈dL,λc=>c∈dL⟩
def qi(bl:List aq)(dL:List Nat)(b:Nat)(eE:List Int):Mk:=⟨λc _=>c∈dL\/c=b,λc _ j=>∃q,(be bl c)[j]?=O q/\(q∈dL\/(q=b/\(c:Int)∈eE)),λc _=>c∈dL\/c=b,λc=>c∈dL\/c=b⟩
section
variable {ν:Nat->Nat->Int} {bl:List aq} {n:Nat} {dL:List Nat} {b:Nat}
theorem Zz(hB:bl[b]?=O B):F7 ν bl n (qi bl dL b B.to)=F7 ν bl n (yG bl (dL++[b])):=by
 refine aaf (λc i=>by simp[qi,yG]) (λc i j=>?_) (λc k=>by simp[qi,yG]) (λc=>by simp[qi,yG]);simp only[qi,yG,bO,bQ];constructor
 ·rintro⟨q,h1,h2|⟨h2,_⟩⟩
  ·exact⟨q,h1,.inl h2⟩
  ·exact⟨q,h1,.inr h2⟩
 ·rintro⟨q,h1,h2|h2⟩
  ·exact⟨q,h1,.inl h2⟩
  ·subst h2
   refine⟨q,h1,.inr ⟨rfl,?_⟩⟩;have h3:=aA h1;unfold be at h3;have h4:=(cR.1 h3).2;rw[dv,fI hB]at h4;exact h4
theorem Qe{F cU:Mk}(hd:∀i,F.dst c i↔cU.dst c i)(hs:∀i j,F.src c i j↔cU.src c i j)(hi:∀k,F.ins c k↔cU.ins c k)(ho:F.on c↔cU.on c)(C:aq):tK ν bl n F c C=tK ν bl n cU c C:=by
 classical
 unfold tK;have h1:Mx ν bl n F c=Mx ν bl n cU c:=by
  funext i p
  unfold Mx;have h2:(λj v=>if F.src c i j then pV ν bl n c j v else v)=λj v=>if cU.src c i j then pV ν bl n c j v else v:=by
   funext j v
   by_cases h:F.src c i j
   ·rw[al h,al ((hs i j).1 h)]
   ·rw[ai h,ai λk=>h ((hs i j).2 k)]
  by_cases h:F.dst c i
  ·rw[al h,al ((hd i).1 h)]
   exact bD _ (bD (λf=>p.src.mapIdx f) h2)
  ·rw[ai h,ai λk=>h ((hd i).2 k)]
   exact bD _ (bD (λf=>p.src.mapIdx f) h2)
 have h3:XI ν bl n F c=XI ν bl n cU c:=by
  funext k x
  unfold XI
  by_cases h:F.ins c k
  ·rw[al h,al ((hi k).1 h)]
  ·rw[ai h,ai λk2=>h ((hi k).2 k2)]
 rw[h1,h3]
 by_cases h:F.on c
 ·rw[al h,al (ho.1 h)]
 ·rw[ai h,ai λk=>h (ho.2 k)]
theorem Rt(hc:c≠b)(C:aq):tK ν bl n (qi bl dL b []) c C=tK ν bl n (yG bl dL) c C:=
 Qe (λi=>by simp[qi,yG,hc]) (λi j=>by simp[qi,yG]) (λk=>by simp[qi,yG,hc]) (by simp[qi,yG,hc]) C
theorem VX{eE:List Int}(hc:c≠t)(C:aq):tK ν bl n (qi bl dL b (eE++[(t:Int)])) c C=tK ν bl n (qi bl dL b eE) c C:=
 Qe (λi=>by simp[qi]) (λi j=>by
  have h:((c:Int)∈eE++[(t:Int)])↔(c:Int)∈eE:=by rw[bO,bQ];exact⟨λh=>h.resolve_right A,.inl⟩
  simp only[qi,h]) (λk=>by simp[qi]) (by simp[qi]) C
theorem PE(hb:b∉dL)(B:aq):(tK ν bl n (yG bl dL) b B).list=B.list/\(tK ν bl n (yG bl dL) b B).on=B.on/\(tK ν bl n (yG bl dL) b B).to=B.to/\(tK ν bl n (yG bl dL) b B).kind=B.kind/\∀(i:Nat) (p:gD),B.bg[i]?=O p->∃q:gD,(tK ν bl n (yG bl dL) b B).bg[i]?=O q/\q.dst=p.dst:=by
 classical
 refine⟨?_,?_,rfl,rfl,λi p hp=>?_⟩
 ·show B.list.mapIdx _=_
  apply cY;intro i;rw[eD];cases B.list[i]? with
  |none=>rfl
  |some x=>
   rw[b_];unfold XI;rw[ai (show¬(yG bl dL).ins b i from hb)]
 ·show(if (yG bl dL).on b then _ else _)=_
  rw[ai (show¬(yG bl dL).on b from hb)]
 ·refine⟨Mx ν bl n (yG bl dL) b i p,?_,?_⟩
  ·show(B.bg.mapIdx _)[i]?=_
   rw[eD,hp]
   rfl
  ·unfold Mx
   rw[ai (show¬(yG bl dL).dst b i from hb)]
theorem VY(B:aq):(tK ν bl n (qi bl dL b []) b B).list=B.list.mapIdx (su ν bl n b)/\(tK ν bl n (qi bl dL b []) b B).on=kt ν bl n b B.list.length B.on:=by
 classical
 constructor
 ·show B.list.mapIdx _=_
  refine kM λi x _=>?_;unfold XI;rw[al (show(qi bl dL b []).ins b i from .inr rfl)]
 ·show(if (qi bl dL b []).on b then _ else _)=_
  rw[al (show(qi bl dL b []).on b from .inr rfl)]
theorem ZA(hq:(tK ν bl n (yG bl dL) b B).bg[i]?=O q):(tK ν bl n (qi bl dL b []) b B).bg[i]?=O ⟨ν b i,q.src⟩:=by
 classical
 have uw:(B.bg.mapIdx (Mx ν bl n (yG bl dL) b))[i]?=O q:=hq;show(B.bg.mapIdx (Mx ν bl n (qi bl dL b []) b))[i]?=_;rw[eD]at uw|-
 cases hp:B.bg[i]? with
 |none=>rw[hp]at uw;cases uw
 |some p=>
  rw[hp]at uw;have U3:=bJ uw;rw[b_,<-U3];unfold Mx;rw[al (show(qi bl dL b []).dst b i from .inr rfl)];congr 2;refine kM λj v _=>?_;have h:(qi bl dL b []).src b i j↔(yG bl dL).src b i j:=by simp[qi,yG]
  by_cases hs:(yG bl dL).src b i j
  ·rw[al (h.2 hs),al hs]
  ·rw[ai λk=>hs (h.1 k),ai hs]
theorem Ll{jB:Nat}{T:aq}{eE:List Int}(hT:T.bg[i]?=O p)(hb:b∉dL)(ht:(t:Int)∉eE)(hK:(be bl t)[jB]?=O b)(tP:∀j,(be bl t)[j]?=O b->j=jB)(hq:(tK ν bl n (qi bl dL b eE) t T).bg[i]?=O q)(hl:jB<p.src.length):
  ∃v,p.src[jB]?=O v/\q.src[jB]?=O v/\q.src.length=p.src.length/\(tK ν bl n (qi bl dL b (eE++[(t:Int)])) t T).bg[i]?=O ⟨q.dst,q.src.set jB (pV ν bl n t jB v)⟩:=by
 classical
 have hv:p.src[jB]?=O (p.src[jB]'hl):=bL hl;generalize p.src[jB]'hl=v at hv;have uw:(T.bg.mapIdx (Mx ν bl n (qi bl dL b eE) t))[i]?=O q:=hq;rw[eD,hT,b_]at uw;have U3:=bJ uw;have oL:¬(qi bl dL b eE).src t i jB:=by
  rintro⟨c,h1,h2|⟨_,h2⟩⟩
  ·rw[hK]at h1
   obtain rfl:=bJ h1;exact hb h2
  ·exact ht h2
 have Hb:q.src=p.src.mapIdx λj v=>if (qi bl dL b eE).src t i j then pV ν bl n t j v else v:=by rw[<-U3];rfl
 refine⟨v,hv,?_,?_,?_⟩
 ·rw[Hb,eD,hv,b_,ai oL]
 ·rw[Hb,kR]
 ·show(T.bg.mapIdx (Mx ν bl n (qi bl dL b (eE++[(t:Int)])) t))[i]?=_
  rw[eD,hT,b_];have hd:(if (qi bl dL b (eE++[(t:Int)])).dst t i then ν t i else p.dst)=q.dst:=by rw[<-U3];rfl
  have se:(p.src.mapIdx λj v=>if (qi bl dL b (eE++[(t:Int)])).src t i j then pV ν bl n t j v else v)=q.src.set jB (pV ν bl n t jB v):=by
   apply cY;intro j;rw[eD,Hb]
   by_cases e:jB=j
   ·subst e
    rw[fk (by rw[kR];exact hl),hv,b_,al (show(qi bl dL b (eE++[(t:Int)])).src t i jB from⟨b,hK,.inr ⟨rfl,by simp⟩⟩)]
   ·rw[fY e,eD]
    cases hj:p.src[j]? with
    |none=>rfl
    |some u=>
     rw[b_,b_];have h:(qi bl dL b (eE++[(t:Int)])).src t i j↔(qi bl dL b eE).src t i j:=by
      constructor
      ·rintro⟨c,h1,h2|⟨h2,_⟩⟩
       ·exact⟨c,h1,.inl h2⟩
       ·subst h2
        exact absurd (tP j h1).symm e
      ·rintro⟨c,h1,h2|⟨h2,h3⟩⟩
       ·exact⟨c,h1,.inl h2⟩
       ·exact⟨c,h1,.inr ⟨h2,cM _ h3⟩⟩
     by_cases hs:(qi bl dL b eE).src t i j
     ·rw[al hs,al (h.2 hs)]
     ·rw[ai hs,ai λk=>hs (h.1 k)]
  unfold Mx;rw[hd,se]
end
noncomputable def gU(X:bZ):List aq:=jt X.blocks X.bm.toNat
structure SgF(X cP:bZ)(ν:Nat->Nat->Int):Prop where
 blocks:cP.blocks=pU ν (gU X) X.params.toNat
 inj:∀b c k k' B C,(gU X)[b]?=O B->(gU X)[c]?=O C->Site B k->Site C k'->ν b k=ν c k'->b=c/\k=k'
 ge:∀b k,X.params<=ν b k
 lt:∀b B k,(gU X)[b]?=O B->Site B k->ν b k<cP.bm
 par:0<=X.params/\X.params<=cP.bm
 reach:∀b,b<X.blocks.length->jg X.blocks (-1) 0 b
 pos:ql X.blocks
theorem GW(h:ql bl){a:Nat}:¬iQ bl a 0:=λ⟨p,_,he,_⟩=>by
 have:=h p (0:Nat) he;omega
theorem Rs(h:ql bl){bs:List Int}:¬mN bl bs 0:=λhm=>by
 cases hm with
 |base _ hf=>exact GW h hf
 |step _ hf=>exact GW h hf
theorem I4(h:∀r,r<m->¬tm bl b r):fx bl m b=[]:=by
 cases e:fx bl m b with
 |nil=>rfl
 |cons p l=>
  obtain⟨r,hr,hn,_⟩:=ui (show p∈fx bl m b by rw[e];simp);exact absurd hn (h r hr)
theorem OH:ed bl 0=-1:=jK λc h=>h.2.1 (uR h.1)
end
end Go.Proofs.YthfhgolkafpmnaaGreatDoor
