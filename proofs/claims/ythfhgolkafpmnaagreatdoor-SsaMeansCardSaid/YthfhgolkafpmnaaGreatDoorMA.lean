/- Texts joined: SngP SngQ SngR SngS SngW SngT SngX SngV SngY. -/
import Derived.Test.YthfhgolkafpmnaaGreatDoorIF
import Derived.Test.YthfhgolkafpmnaaGreatDoorKB
namespace Go.Proofs.YthfhgolkafpmnaaGreatDoor
open Option renaming some->Z,none->A
open Go Go.RowKit
section
def kp(B:E)(r:Int):Bool:=B.aD.any λp=>decide (p.dst=r)
def kR(B:E)(r:Int):Bool:=B.list.any (λx=>decide (x.dst=r))||kp B r
def ox(bl:List E)(r:Nat):List Int:=(0:Int)::((List.range bl.length).filter λb=>decide (1<=b)&&kR (aN bl b) r).map λx:Nat=>(x:Int)
def need(bl:List E)(b r:Nat):Prop:=l7 bl (ox bl r) b/\kp (aN bl b) r=false/\ik bl r b (-1)
def iI(bl:List E)(b r:Nat):ep:=⟨r,List.replicate (aZ bl b).length ⟨true,r⟩⟩
open Classical in
noncomputable def dg(bl:List E)(m b:Nat):List ep:=((List.range m).filter λr=>decide (need bl b r)).map (iI bl b)
noncomputable def dw(bl:List E)(m:Nat):List E:=bl.mapIdx λb B=>{B with aD:=B.aD++dg bl m b}
theorem Ha(bl:List E)(b:Nat):dg bl 0 b=[]:=rfl
theorem G_(bl:List E)(m b:Nat)[d:Decidable (need bl b m)]:dg bl (m+1) b=dg bl m b++if need bl b m then[iI bl b m]else[]:=by
 classical
 unfold dg;rw[kU,nU,bz];congr 1
 by_cases h:need bl b m
 ·rw[if_pos h];simp[h]
 ·rw[if_neg h];simp[h]
theorem Hn(bl:List E):dw bl 0=bl:=by
 apply ci;intro i;unfold dw;rw[cf];cases bl[i]? with
 |none=>rfl
 |some B=>simp[Ha]
theorem e7(bl:List E)(m:Nat):(dw bl m).length=bl.length:=by simp[dw]
theorem gG{bl:List E}{m b:Nat}{B:E}(h:bl[b]?=Z B):(dw bl m)[b]?=Z {B with aD:=B.aD++dg bl m b}:=by
 unfold dw;rw[cf,h]
 rfl
theorem lO(bl:List E)(m b:Nat):db (dw bl m) b=db bl b:=by
 unfold db;cases h:bl[b]? with
 |none=>rw[bO (by rw[e7];exact kD.1 h)]
 |some B=>rw[gG h]
theorem jU{bl:List E}{m b:Nat}{p:ep}(h:p∈dg bl m b):∃r,r<m/\need bl b r/\p=iI bl b r:=by
 classical
 unfold dg at h;obtain⟨r,hr,rfl⟩:=aV.1 h;obtain⟨h1,h2⟩:=cC.1 hr;exact⟨r,cM.1 h1,ax h2,rfl⟩
def oF(ps:List ep)(r:Int):Nat->Option Nat
 |0=>A
 |j+1=>if (ps[j]?.map (·.dst))=Z r then Z j else oF ps r j
def kj(B:E)(r:Int):Nat->Option Nat
 |0=>oF B.aD r B.aD.length
 |i+1=>if (B.list[i]?.map (·.dst))=Z r then Z (B.aD.length+i)else kj B r i
def Site(B:E)(k:Nat):Prop:=k<B.aD.length∨∃i x,k=B.aD.length+i/\B.list[i]?=Z x/\0<=x.dst
theorem pj{ps:List ep}{r:Int}:∀{n k:Nat},oF ps r n=Z k->k<n/\∃p,ps[k]?=Z p/\p.dst=r
 |0,k,h=>by cases h
 |n+1,k,h=>by
  unfold oF at h
  split at h
  ·rename_i h1
   obtain rfl:=a7 h;obtain⟨p,h2,h3⟩:=cA.1 h1;exact⟨I,p,h2,h3⟩
  ·obtain⟨h1,h2⟩:=pj h
   exact⟨I,h2⟩
theorem tQ{B:E}{r:Int}(hr:0<=r):∀{i k:Nat},kj B r i=Z k->Site B k
 |0,k,h=>.inl (pj h).1
 |i+1,k,h=>by
  unfold kj at h
  split at h
  ·rename_i h1
   obtain rfl:=a7 h;obtain⟨x,h2,h3⟩:=cA.1 h1;exact .inr ⟨i,x,rfl,h2,I⟩
  ·exact tQ hr h
noncomputable def NN(ν:Nat->Nat->Int)(bl:List E)(n:Nat):Nat->Nat->Nat->Int->cg
 |0,_,_,_=>iu
 |f+1,b,i,r=>match kj (aN bl b) r i with
  |some k=>⟨true,ν b k⟩
  |none=>if cS bl b<0 then(if r<n then⟨true,r⟩else iu)else NN ν bl n f (cS bl b).toNat (aN bl (cS bl b).toNat).list.length r
noncomputable def CH(bl:List E)(b:Nat):Nat:=(vg bl b bl.length).length
theorem Gt{bl:List E}(cY:cT bl)(h0:0<bl.length){b:Nat}(hb:gH bl (-1) 0 b)(hn:¬cS bl b<0):kS bl (cS bl b).toNat b/\CH bl (cS bl b).toNat+1=CH bl b:=by
 by_cases h:∃c,kS bl c b
 ·obtain⟨c,hc⟩:=h
  rw[iw hc,dO];exact⟨hc,s9 cY h0 hc⟩
 ·rw[gB λc hc=>h ⟨c,hc⟩]at hn
  exact absurd (by omega:(-1:Int)<0) hn
theorem kS.zQ{bl:List E}{c b:Nat}(h:kS bl c b):gH bl (-1) 0 c:=h.1.1
theorem mR{bl:List E}(cY:cT bl)(h0:0<bl.length){b:Nat}(hb:gH bl (-1) 0 b):0<CH bl b/\CH bl b<=bl.length:=by
 constructor
 ·exact List.length_pos_of_mem (E8.2 ⟨cY.zQ h0 hb,jY.refl hb⟩)
 ·unfold CH vg
  exact du (jL _ _) (by rw[fA];exact bG _)
theorem JI{ν:Nat->Nat->Int}{bl:List E}{n:Nat}(cY:cT bl)(h0:0<bl.length):∀(f g b i:Nat) (r:Int),gH bl (-1) 0 b->CH bl b<=f->CH bl b<=g->NN ν bl n f b i r=NN ν bl n g b i r
 |0,g,b,i,r,hb,hf,_=>by have:=(mR cY h0 hb).1;omega
 |f+1,0,b,i,r,hb,_,hg=>by have:=(mR cY h0 hb).1;omega
 |f+1,g+1,b,i,r,hb,hf,hg=>by
  unfold NN
  split
  ·rfl
  ·split
   ·rfl
   ·rename_i hn
    obtain⟨h1,h2⟩:=Gt cY h0 hb hn;exact JI cY h0 f g _ _ r h1.zQ I I
noncomputable def nm(ν:Nat->Nat->Int)(bl:List E)(n b i:Nat)(r:Int):cg:=NN ν bl n bl.length b i r
theorem T9{ν:Nat->Nat->Int}{bl:List E}{n:Nat}(cY:cT bl)(h0:0<bl.length){b i:Nat}{r:Int}(hb:gH bl (-1) 0 b):
  nm ν bl n b i r=match kj (aN bl b) r i with
   |some k=>⟨true,ν b k⟩
   |none=>if cS bl b<0 then(if r<n then⟨true,r⟩else iu)else nm ν bl n (cS bl b).toNat (aN bl (cS bl b).toNat).list.length r:=by
 have hp:=mR cY h0 hb;have h1:nm ν bl n b i r=NN ν bl n (bl.length+1) b i r:=JI cY h0 _ _ b i r hb hp.2 I;rw[h1]
 rfl
noncomputable def k7(ν:Nat->Nat->Int)(bl:List E)(n b i:Nat)(v:cg):cg:=if v.z then nm ν bl n b i v.n else v
noncomputable def iR(ν:Nat->Nat->Int)(bl:List E)(n b k:Nat)(x:dJ):dJ:={x with a:=k7 ν bl n b k x.a,b:=k7 ν bl n b k x.b,args:=x.args.map (k7 ν bl n b k),dst:=if 0<=x.dst then ν b ((aN bl b).aD.length+k)else x.dst}
def Mu(bl:List E)(b j:Nat):Nat:=(aZ bl b)[j]?.getD 0
noncomputable def uF(ν:Nat->Nat->Int)(bl:List E)(n b j:Nat)(v:cg):cg:=k7 ν bl n (Mu bl b j) (aN bl (Mu bl b j)).list.length v
noncomputable def qL(ν:Nat->Nat->Int)(bl:List E)(n b i:Nat)(p:ep):ep:=⟨ν b i,p.src.mapIdx (uF ν bl n b)⟩
noncomputable def fX(ν:Nat->Nat->Int)(bl:List E)(n b:Nat)(B:E):E:={B with aD:=B.aD.mapIdx (qL ν bl n b),list:=B.list.mapIdx (iR ν bl n b),on:=k7 ν bl n b B.list.length B.on}
noncomputable def ms(ν:Nat->Nat->Int)(bl:List E)(n:Nat):List E:=bl.mapIdx (fX ν bl n)
theorem fq(ν:Nat->Nat->Int)(bl:List E)(n:Nat):(ms ν bl n).length=bl.length:=by simp[ms]
theorem gz{ν:Nat->Nat->Int}{bl:List E}{n b:Nat}{B:E}(h:bl[b]?=Z B):(ms ν bl n)[b]?=Z (fX ν bl n b B):=by
 unfold ms;rw[cf,h]
 rfl
def BM(f:Int->Int)(v:cg):cg:=if v.z then⟨true,f v.n⟩else v
def rnR(f:Int->Int)(r:Int):Int:=if 0<=r then f r else r
def Qs(f:Int->Int)(x:dJ):dJ:={x with a:=BM f x.a,b:=BM f x.b,args:=x.args.map (BM f),dst:=rnR f x.dst}
def Kv(f:Int->Int)(p:ep):ep:=⟨f p.dst,p.src.map (BM f)⟩
def zr(f:Int->Int)(B:E):E:={B with aD:=B.aD.map (Kv f),list:=B.list.map (Qs f),on:=BM f B.on}
structure ON(f:Int->Int)(ν ν':Nat->Nat->Int)(bl:List E)(n:Nat):Prop where
 ab8:∀b k B,bl[b]?=Z B->Site B k->ν' b k=f (ν b k)
 par:∀r:Int,0<=r->r<n->f r=r
 pos:∀b k,0<=ν b k
theorem NP{f:Int->Int}{ν ν':Nat->Nat->Int}{bl:List E}{n:Nat}(h:ON f ν ν' bl n){r:Int}(hr:0<=r):∀(g b i:Nat),NN ν' bl n g b i r=BM f (NN ν bl n g b i r)
 |0,b,i=>rfl
 |g+1,b,i=>by
  unfold NN;cases hd:kj (aN bl b) r i with
  |some k=>
   simp only;have hs:=tQ hr hd;cases hB:bl[b]? with
   |none=>
    unfold aN at hs;rw[hB]at hs;simp only[Option.getD_none]at hs;rcases hs with h1|⟨i,x,_,h1,_⟩
    ·simp[px]at h1
    ·simp[px]at h1
   |some B=>
    have GH:aN bl b=B:=by unfold aN;rw[hB];rfl
    rw[GH]at hs;rw[h.ab8 b k B hB hs]
    rfl
  |none=>
   simp only
   split
   ·split
    ·rename_i h1
     show(⟨true,r⟩:cg)=⟨true,f r⟩;rw[h.par r hr h1]
    ·rfl
   ·exact NP h hr g _ _
def qZ(akf:Int->Prop)(v:cg):Prop:=v.z=true->akf v.n
structure HX(akf:Int->Prop)(x:dJ):Prop where
 a:qZ akf x.a
 b:qZ akf x.b
 args:∀v∈x.args,qZ akf v
 dst:0<=x.dst->akf x.dst
structure mh(akf:Int->Prop)(B:E):Prop where
 aD:∀p∈B.aD,akf p.dst/\∀v∈p.src,qZ akf v
 list:∀x∈B.list,HX akf x
 on:qZ akf B.on
theorem D_{akf:Int->Prop}{x:dJ}(h:HX akf x):∀v∈ff x,qZ akf v:=λv hv=>by
 unfold ff at hv
 split at hv
 ·cases hv
 split at hv
 ·exact h.args v hv
 split at hv
 ·simp only[bD,h_,or_false]at hv
  rcases hv with rfl|rfl
  ·exact h.a
  ·exact h.b
 split at hv
 ·simp only[bD,h_,or_false]at hv
  rw[hv];exact h.a
 ·cases hv
theorem DU{v:cg}{r:Int}:r∈eG v↔v.z=true/\v.n=r:=by
 unfold eG
 by_cases h:v.z=true
 ·rw[if_pos h];simp[h,eq_comm]
 ·rw[if_neg h];simp[h]
theorem U3{akf:Int->Prop}{B:E}(h:mh akf B){r:Int}(hr:r∈nj B):akf r:=by
 unfold nj at hr;rcases bA.1 hr with hr|hr
 ·obtain⟨p,hp,rfl⟩:=aV.1 hr
  exact(h.aD p hp).1
 rcases bA.1 hr with hr|hr
 ·obtain⟨x,hx,hr⟩:=df.1 hr
  unfold rI at hr;rcases bA.1 hr with hr|hr
  ·obtain⟨v,hv,hr⟩:=df.1 hr
   obtain⟨h1,rfl⟩:=DU.1 hr;exact D_ (h.list x hx) v hv h1
  ·split at hr
   ·rename_i h0
    rw[bR.1 hr];exact(h.list x hx).dst h0
   ·cases hr
 ·obtain⟨h1,rfl⟩:=DU.1 hr
  exact h.on h1
theorem U7{akf:Int->Prop}{B:E}(h:mh akf B){r:Int}(hr:r∈qi B):akf r:=by
 unfold qi at hr;obtain⟨p,hp,hr⟩:=df.1 hr;obtain⟨v,hv,hr⟩:=df.1 hr;obtain⟨h1,rfl⟩:=DU.1 hr;exact(h.aD p hp).2 v hv h1
structure Rj(f:Int->Int)(akf:Int->Prop)(n:Nat):Prop where
 inj:∀a b,akf a->akf b->f a=f b->a=b
 par:∀r:Int,0<=r->r<n->akf r/\f r=r
 pos:∀r,akf r->0<=r/\0<=f r
theorem Ob{f:Int->Int}(v:cg):eG (BM f v)=(eG v).map f:=by
 unfold eG BM
 by_cases h:v.z=true
 ·rw[if_pos h,if_pos h,if_pos rfl];rfl
 ·have h2:v.z=false:=ax h
  simp[h2]
theorem QX(f:Int->Int)(x:dJ):ff (Qs f x)=(ff x).map (BM f):=by
 unfold ff Qs;simp only
 split
 ·rfl
 split
 ·rfl
 split
 ·rfl
 split<;>rfl
theorem M3{f:Int->Int}(l:List cg):(l.map (BM f)).flatMap eG=(l.flatMap eG).map f:=by
 rw[lS,pH];exact jZ λv _=>Ob v
theorem Yr{f:Int->Int}{akf:Int->Prop}{n:Nat}(hf:Rj f akf n){x:dJ}(h:HX akf x):rI (Qs f x)=(rI x).map f:=by
 unfold rI;rw[QX,M3,bz];congr 1;unfold Qs rnR;simp only
 by_cases h0:0<=x.dst
 ·have h2:=(hf.pos _ (h.dst h0)).2
  simp only[h0,if_true,h2,bT,dn]
 ·simp only[h0,if_false,dn]
theorem Yq{f:Int->Int}{akf:Int->Prop}{n:Nat}(hf:Rj f akf n){B:E}(h:mh akf B):nj (zr f B)=(nj B).map f:=by
 unfold nj zr;simp only[bz,dE];congr 1;rw[Ob];congr 1;rw[lS,pH];exact jZ λx hx=>Yr hf (h.list x hx)
theorem Yt(f:Int->Int)(B:E):qi (zr f B)=(qi B).map f:=by
 unfold qi zr;simp only;rw[lS,pH];exact jZ λp _=>M3 p.src
theorem Ys{f:Int->Int}{akf:Int->Prop}{n:Nat}(hf:Rj f akf n){bl:List E}(h:∀B∈bl,mh akf B):AI n (bl.map (zr f))=(AI n bl).map f:=by
 unfold AI;simp only[bz];congr 1
 ·conv=>lhs;rw[<-ll (eO n)]
  exact dD λr hr=>by
   have:=jm.1 hr;exact(hf.par r this.1 this.2).2.symm
 ·congr 1
  ·rw[lS,pH]
   exact jZ λB hB=>Yq hf (h B hB)
  ·rw[lS,pH]
   exact jZ λB _=>Yt f B
theorem DT{f:Int->Int}{akf:Int->Prop}{n:Nat}(hf:Rj f akf n){bl:List E}(h:∀B∈bl,mh akf B){r:Int}(hr:r∈AI n bl):akf r:=by
 unfold AI at hr;rcases bA.1 hr with hr|hr
 ·have:=jm.1 hr
  exact(hf.par r this.1 this.2).1
 rcases bA.1 hr with hr|hr
 ·obtain⟨B,hB,hr⟩:=df.1 hr
  exact U3 (h B hB) hr
 ·obtain⟨B,hB,hr⟩:=df.1 hr
  exact U7 (h B hB) hr
theorem XO{f:Int->Int}{akf:Int->Prop}{n:Nat}(hf:Rj f akf n){bl:List E}(h:∀B∈bl,mh akf B):gi n (bl.map (zr f))=(gi n bl).map f:=by
 unfold gi;rw[Ys hf h];exact JN λa ha b hb e=>hf.inj a b (DT hf h ha) (DT hf h hb) e
theorem ND{f:Int->Int}{r:Int}:∀{L:List Int},(∀x∈L,f x=f r->x=r)->(L.map f).idxOf (f r)=L.idxOf r
 |[],_=>rfl
 |x::L,h=>by
  rw[bT,List.idxOf_cons,List.idxOf_cons]
  by_cases e:x=r
  ·subst e;simp
  ·have h2:f x≠f r:=λh3=>e (h x aC h3)
   have h3:(x==r)=false:=ax e;have h4:(f x==f r)=false:=ax h2;rw[h3,h4];simp only[cond_false];rw[ND λy hy=>h y (cO _ hy)]
theorem Mt{f:Int->Int}{akf:Int->Prop}{n:Nat}(hf:Rj f akf n){L:List Int}(hL:∀x∈L,akf x){r:Int}(hr:akf r):fE (L.map f) (f r)=fE L r:=by
 unfold fE;rw[ND λx hx e=>hf.inj x r (hL x hx) hr e]
theorem zq{f:Int->Int}{akf:Int->Prop}{n:Nat}(hf:Rj f akf n){L:List Int}(hL:∀x∈L,akf x){v:cg}(hv:qZ akf v):cu (L.map f) (BM f v)=cu L v:=by
 unfold cu BM
 by_cases h:v.z=true
 ·rw[if_pos h,if_pos h]
  simp only[if_true];rw[Mt hf hL (hv h)]
 ·rw[if_neg h,if_neg h,if_neg h]
theorem Yj{f:Int->Int}{akf:Int->Prop}{n:Nat}(hf:Rj f akf n){L:List Int}(hL:∀x∈L,akf x){x:dJ}(hx:HX akf x):iA (L.map f) (Qs f x)=iA L x:=by
 unfold iA Qs;simp only[dE];rw[zq hf hL hx.a,zq hf hL hx.b,dD (f:=cu (L.map f)∘BM f) (g:=cu L) λv hv=>zq hf hL (hx.args v hv)];congr 1;unfold nN rnR
 by_cases h0:0<=x.dst
 ·have h2:=hf.pos _ (hx.dst h0)
  simp only[h0,if_true,h2.2];exact Mt hf hL (hx.dst h0)
 ·simp only[h0,if_false]
theorem Yi{f:Int->Int}{akf:Int->Prop}{n:Nat}(hf:Rj f akf n){L:List Int}(hL:∀x∈L,akf x){B:E}(hB:mh akf B):iQ (L.map f) (zr f B)=iQ L B:=by
 unfold iQ zr;simp only[dE];rw[zq hf hL hB.on,dD (f:=iA (L.map f)∘Qs f) (g:=iA L) λx hx=>Yj hf hL (hB.list x hx),dD (f:=JX (L.map f)∘Kv f) (g:=JX L) λp hp=>?_];unfold JX Kv;simp only[Function.comp];rw[Mt hf hL (hB.aD p hp).1];congr 1;rw[dE];exact dD λv hv=>zq hf hL ((hB.aD p hp).2 v hv)
theorem Om(f:Int->Int)(bl:List E)(i:Nat):db (bl.map (zr f)) i=db bl i:=by
 unfold db;rw[aJ];cases bl[i]?<;>rfl
theorem JW(f:Int->Int)(bl:List E)(t:Nat):aZ (bl.map (zr f)) t=aZ bl t:=by
 unfold aZ;rw[aF];exact rV λi _=>by rw[Om]
theorem Vj(f:Int->Int)(bl:List E)(b:Nat)(p:ep)(q:Nat):jq (bl.map (zr f)) b (Kv f p) q=BM f (jq bl b p q):=by
 have h:(Kv f p).src=p.src.map (BM f):=rfl;unfold jq;rw[JW,h,cB,cB,aJ];cases p.src[(aZ bl b).idxOf q]? with
 |none=>rfl
 |some v=>rfl
theorem LR(f:Int->Int)(bl:List E)(o:List Nat)(b:Nat)(p:ep):fj (bl.map (zr f)) o b (Kv f p)=Kv f (fj bl o b p):=by
 have h:(o.filter λq=>decide (q∈aZ bl b)).map (jq (bl.map (zr f)) b (Kv f p))=((o.filter λq=>decide (q∈aZ bl b)).map (jq bl b p)).map (BM f):=by
  rw[dE];exact dD λq _=>Vj f bl b p q
 unfold fj;rw[JW,h]
 rfl
theorem TB(f:Int->Int)(bl:List E)(o:List Nat):cV (bl.map (zr f)) o=(cV bl o).map (zr f):=by
 unfold cV;rw[dE];refine dD λb _=>?_;have hb:aN (bl.map (zr f)) b=zr f (aN bl b):=by
  unfold aN;rw[aJ];cases bl[b]? with
  |none=>rfl
  |some B=>rfl
 have wj:((aN bl b).aD.map (Kv f)).map (fj (bl.map (zr f)) o b)=((aN bl b).aD.map (fj bl o b)).map (Kv f):=by
  rw[dE,dE];exact dD λp _=>LR f bl o b p
 rw[hb];show(⟨((aN bl b).aD.map (Kv f)).map (fj (bl.map (zr f)) o b),_,_,_,_⟩:E)=⟨((aN bl b).aD.map (fj bl o b)).map (Kv f),_,_,_,_⟩;rw[wj]
 rfl
theorem QH{akf:Int->Prop}{bl:List E}{b:Nat}{p:ep}(h:∀v∈p.src,qZ akf v)(q:Nat):qZ akf (jq bl b p q):=by
 unfold jq;rw[cB];cases hz:p.src[(aZ bl b).idxOf q]? with
 |none=>intro h;cases h
 |some v=>exact h v (aq hz)
theorem TC{akf:Int->Prop}{bl:List E}(h:∀B∈bl,mh akf B)(o:List Nat):∀B∈cV bl o,mh akf B:=λakh hC=>by
 unfold cV at hC;obtain⟨b,_,rfl⟩:=aV.1 hC;have hB:mh akf (aN bl b):=by
  unfold aN;cases hb:bl[b]? with
  |none=>exact⟨by simp[px],by simp[px],λh=>by cases h⟩
  |some B=>exact h B (aq hb)
 refine⟨λp hp=>?_,hB.list,hB.on⟩;unfold je at hp;simp only at hp;obtain⟨q,hq,rfl⟩:=aV.1 hp;refine⟨(hB.aD q hq).1,λv hv=>?_⟩;unfold fj at hv;simp only at hv;obtain⟨c,_,rfl⟩:=aV.1 hv;exact QH (hB.aD q hq).2 c
theorem P4{f:Int->Int}{akf:Int->Prop}{X Y:aY}(hf:Rj f akf X.params.toNat)(h:∀B∈X.blocks,mh akf B)(hn:Y.name=X.name)(hp:Y.params=X.params)(hb:Y.blocks=X.blocks.map (zr f)):en Y=en X:=by
 have ho:bI Y.blocks=bI X.blocks:=by
  rw[hb];exact sj (by rw[aF]) λi=>Om f _ i
 have hk:c9 Y=(c9 X).map (zr f):=by
  unfold c9;rw[ho,hb,TB]
 have hR:=TC h (bI X.blocks);have hm:gi Y.params.toNat (c9 Y)=(gi X.params.toNat (c9 X)).map f:=by
  rw[hk,hp];exact XO hf hR
 have hL:∀x∈gi X.params.toNat (c9 X),akf x:=λx hx=>DT hf hR (pX.1 hx);unfold en;rw[hm,hk,aF,dE];have hB:(c9 X).map (iQ ((gi X.params.toNat (c9 X)).map f)∘zr f)=(c9 X).map (iQ (gi X.params.toNat (c9 X))):=dD λB hB=>Yi hf hL (hR B hB);rw[hB,hn,hp]
def oK(o:List Nat)(s:Nat->Nat)(b:Nat):Nat:=((o.takeWhile λc=>decide (c≠b)).map s).sum
def num(o:List Nat)(s:Nat->Nat)(ρ:Nat->Nat->Nat)(n:Nat)(b k:Nat):Int:=((n+oK o s b+ρ b k:Nat):Int)
theorem F3(s:Nat->Nat){b c:Nat}(eQ:b≠c):∀{o:List Nat},b∈o->c∈o->oK o s b+s b<=oK o s c∨oK o s c+s c<=oK o s b
 |[],hb,_=>by cases hb
 |x::o,hb,hc=>by
  unfold oK
  by_cases e1:x=b
  ·subst e1
   left
   rw[List.takeWhile_cons_of_neg aC,q7 (by simp;exact eQ),bT,eT];simp
  ·by_cases e2:x=c
   ·subst e2
    right
    rw[List.takeWhile_cons_of_neg aC,q7 (by simp;exact λh=>eQ h.symm),bT,eT];simp
   ·have xd:b∈o:=by rcases bD.1 hb with h|h;exact absurd h.symm e1;exact h
    have HF:c∈o:=by rcases bD.1 hc with h|h;exact absurd h.symm e2;exact h
    have ih:=F3 s eQ xd HF;unfold oK at ih;rw[q7 (by simp;exact e1),q7 (by simp;exact e2),bT,eT,bT,eT];omega
structure YW(bl:List E)(o:List Nat)(s:Nat->Nat)(ρ:Nat->Nat->Nat):Prop where
 all:∀b,b<bl.length->b∈o
 lt:∀b B k,bl[b]?=Z B->Site B k->ρ b k<s b
 inj:∀b B k k',bl[b]?=Z B->Site B k->Site B k'->ρ b k=ρ b k'->k=k'
theorem XZ{bl:List E}{o:List Nat}{s:Nat->Nat}{ρ:Nat->Nat->Nat}{n:Nat}(h:YW bl o s ρ){b c k k':Nat}{B akh:E}(hB:bl[b]?=Z B)(hC:bl[c]?=Z akh)(hk:Site B k)(Bj:Site akh k')(e:num o s ρ n b k=num o s ρ n c k'):b=c/\k=k':=by
 have h1:=h.lt b B k hB hk;have h2:=h.lt c akh k' hC Bj;unfold num at e
 by_cases eQ:b=c
 ·subst eQ
  rw[hB]at hC;obtain rfl:=a7 hC;exact⟨rfl,h.inj b B k k' hB hk Bj I⟩
 ·have:=F3 s eQ (h.all b (az.1 hB).1) (h.all c (az.1 hC).1)
  omega
def DNu(ν:Nat->Nat->Int)(bl:List E)(n:Nat)(x:Int):Prop:=(0<=x/\x<n)∨∃b B k,bl[b]?=Z B/\Site B k/\ν b k=x
open Classical in
noncomputable def rB(ν ν':Nat->Nat->Int)(bl:List E)(x:Int):Int:=if h:∃y:Nat×Nat,(∃B,bl[y.1]?=Z B/\Site B y.2)/\ν y.1 y.2=x then ν' (Classical.choose h).1 (Classical.choose h).2 else x
theorem AB{ν ν':Nat->Nat->Int}{bl:List E}(hi:∀b c k k' B akh,bl[b]?=Z B->bl[c]?=Z akh->Site B k->Site akh k'->ν b k=ν c k'->b=c/\k=k'){b k:Nat}{B:E}(hB:bl[b]?=Z B)(hk:Site B k):rB ν ν' bl (ν b k)=ν' b k:=by
 unfold rB;have h:∃y:Nat×Nat,(∃B,bl[y.1]?=Z B/\Site B y.2)/\ν y.1 y.2=ν b k:=⟨(b,k),⟨B,hB,hk⟩,rfl⟩;rw[dif_pos h];obtain⟨⟨akh,hC,hs⟩,e⟩:=Classical.choose_spec h;obtain⟨h1,h2⟩:=hi _ _ _ _ akh B hC hB hs hk e;rw[h1,h2]
theorem JK{ν ν':Nat->Nat->Int}{bl:List E}{n:Nat}(hp:∀b k,(n:Int)<=ν b k){x:Int}(hx:x<n):rB ν ν' bl x=x:=by
 unfold rB;rw[dif_neg];rintro⟨y,_,e⟩;have:=hp y.1 y.2;omega
theorem abT(o:List Nat)(s:Nat->Nat)(ρ:Nat->Nat->Nat)(n b k:Nat):(n:Int)<=num o s ρ n b k:=by unfold num;omega
theorem NO{ν:Nat->Nat->Int}{bl:List E}{n:Nat}{r:Int}(hr:0<=r):∀(g b i:Nat),qZ (DNu ν bl n) (NN ν bl n g b i r)
 |0,b,i=>λh=>by cases h
 |g+1,b,i=>by
  unfold NN;cases hd:kj (aN bl b) r i with
  |some k=>
   simp only;have hs:=tQ hr hd;cases hB:bl[b]? with
   |none=>
    unfold aN at hs;rw[hB]at hs;simp only[Option.getD_none]at hs;rcases hs with h1|⟨i,x,_,h1,_⟩
    ·simp[px]at h1
    ·simp[px]at h1
   |some B=>
    have GH:aN bl b=B:=by unfold aN;rw[hB];rfl
    rw[GH]at hs;exact λ_=>.inr ⟨b,B,k,hB,hs,rfl⟩
  |none=>
   simp only
   split
   ·split
    ·rename_i h1
     exact λ_=>.inl ⟨hr,h1⟩
    ·exact λh=>by cases h
   ·exact NO hr g _ _
theorem uq{ν:Nat->Nat->Int}{bl:List E}{n b i:Nat}{v:cg}(hv:qZ (λr=>0<=r) v):qZ (DNu ν bl n) (k7 ν bl n b i v):=by
 unfold k7
 by_cases h:v.z=true
 ·rw[if_pos h]
  exact NO (hv h) _ _ _
 ·rw[if_neg h]
  exact λh2=>absurd h2 h
theorem zh{f:Int->Int}{ν ν':Nat->Nat->Int}{bl:List E}{n b i:Nat}(h:ON f ν ν' bl n){v:cg}(hv:qZ (λr=>0<=r) v):k7 ν' bl n b i v=BM f (k7 ν bl n b i v):=by
 unfold k7
 by_cases hr:v.z=true
 ·rw[if_pos hr,if_pos hr]
  exact NP h (hv hr) _ _ _
 ·rw[if_neg hr,if_neg hr]
  unfold BM;rw[if_neg hr]
theorem nf{α β γ:Type}(f:Nat->α->β)(g:β->γ)(l:List α):(l.mapIdx f).map g=l.mapIdx λi x=>g (f i x):=by
 apply ci;intro i;rw[aJ,cf,cf,Option.map_map]
 rfl
theorem jk{α β:Type}{f g:Nat->α->β}{l:List α}(h:∀i x,l[i]?=Z x->f i x=g i x):l.mapIdx f=l.mapIdx g:=by
 apply ci;intro i;rw[cf,cf];cases hx:l[i]? with
 |none=>rfl
 |some x=>rw[bu,bu,h i x hx]
theorem Vd{f:Int->Int}{ν ν':Nat->Nat->Int}{bl:List E}{n b k:Nat}(h:ON f ν ν' bl n){B:E}(hB:bl[b]?=Z B){x:dJ}(hx:B.list[k]?=Z x)(hr:HX (λr=>0<=r) x):iR ν' bl n b k x=Qs f (iR ν bl n b k x):=by
 have GH:aN bl b=B:=by unfold aN;rw[hB];rfl
 unfold iR Qs;simp only[dE];rw[zh h hr.a,zh h hr.b,dD (f:=k7 ν' bl n b k) (g:=BM f∘k7 ν bl n b k) λv hv=>zh h (hr.args v hv)];congr 1;unfold rnR
 by_cases h0:0<=x.dst
 ·simp only[h0,if_true,h.pos]
  rw[GH];exact h.ab8 b _ B hB (.inr ⟨k,x,rfl,hx,h0⟩)
 ·simp only[h0,if_false]
theorem Vb{f:Int->Int}{ν ν':Nat->Nat->Int}{bl:List E}{n b:Nat}(h:ON f ν ν' bl n){B:E}(hB:bl[b]?=Z B)(hr:mh (λr=>0<=r) B):fX ν' bl n b B=zr f (fX ν bl n b B):=by
 unfold fX zr;simp only;rw[zh h hr.on,nf,nf];congr 1
 ·refine jk λi p hp=>?_
  unfold qL Kv;simp only;rw[h.ab8 b i B hB (.inl (az.1 hp).1),nf];congr 1;refine jk λj v hv=>?_;unfold uF;exact zh h ((hr.aD p (aq hp)).2 v (aq hv))
 ·exact jk λk x hx=>Vd h hB hx (hr.list x (aq hx))
theorem Ve{f:Int->Int}{ν ν':Nat->Nat->Int}{bl:List E}{n:Nat}(h:ON f ν ν' bl n)(hr:∀B∈bl,mh (λr=>0<=r) B):ms ν' bl n=(ms ν bl n).map (zr f):=by
 unfold ms;rw[nf];exact jk λb B hB=>Vb h hB (hr B (aq hB))
theorem DX{ν:Nat->Nat->Int}{bl:List E}{n:Nat}(hr:∀B∈bl,mh (λr=>0<=r) B):∀akh∈ms ν bl n,mh (DNu ν bl n) akh:=λakh hC=>by
 obtain⟨b,hb⟩:=bg hC;unfold ms at hb;rw[cf]at hb;obtain⟨B,hB,rfl⟩:=cA.1 hb;have hR:=hr B (aq hB);have GH:aN bl b=B:=by unfold aN;rw[hB];rfl
 refine⟨λq hq=>?_,λy hy=>?_,uq hR.on⟩
 ·unfold fX at hq
  simp only at hq;obtain⟨i,hi⟩:=bg hq;rw[cf]at hi;obtain⟨p,hp,rfl⟩:=cA.1 hi;refine⟨.inr ⟨b,B,i,hB,.inl (az.1 hp).1,rfl⟩,λv hv=>?_⟩;unfold qL at hv;simp only at hv;obtain⟨j,hj⟩:=bg hv;rw[cf]at hj;obtain⟨u,hu,rfl⟩:=cA.1 hj;exact uq ((hR.aD p (aq hp)).2 u (aq hu))
 ·unfold fX at hy
  simp only at hy;obtain⟨k,hk⟩:=bg hy;rw[cf]at hk;obtain⟨x,hx,rfl⟩:=cA.1 hk;have hI:=hR.list x (aq hx);refine⟨uq hI.a,uq hI.b,λv hv=>?_,λh0=>?_⟩
  ·unfold iR at hv
   simp only at hv;obtain⟨u,hu,rfl⟩:=aV.1 hv;exact uq (hI.args u hu)
  ·unfold iR at h0⊢
   simp only at h0⊢
   by_cases h1:0<=x.dst
   ·rw[if_pos h1,GH]
    exact .inr ⟨b,B,_,hB,.inr ⟨k,x,rfl,hx,h1⟩,rfl⟩
   ·rw[if_neg h1]at h0
    exact absurd h0 h1
noncomputable def oh(bl:List E)(b:Nat):List Nat:=(List.range bl.length).filter λc=>decide (cS bl c=(b:Int))
noncomputable def kA(bl:List E):Nat->Nat->List Nat
 |0,_=>[]
 |f+1,b=>b::(oh bl b).flatMap (kA bl f)
theorem og{bl:List E}{b c:Nat}(h:c∈oh bl b):kS bl b c:=by
 unfold oh at h;have h2:cS bl c=(b:Int):=by simpa using(cC.1 h).2
 by_cases hc:∃d,kS bl d c
 ·obtain⟨d,hd⟩:=hc
  rw[iw hd]at h2;have:d=b:=I;subst this;exact hd
 ·rw[gB λd hd=>hc ⟨d,hd⟩]at h2
  omega
theorem To{bl:List E}(cY:cT bl)(h0:0<bl.length){b c:Nat}(h:kS bl b c):c∈oh bl b:=
 cC.2 ⟨cM.2 (cY.zQ h0 h.1.2.1),by rw[iw h];simp⟩
theorem wA{bl:List E}:∀{f b x:Nat},gH bl (-1) 0 b->x∈kA bl f b->jY bl b x
 |0,b,x,_,h=>by cases h
 |f+1,b,x,hb,h=>by
  unfold kA at h;rcases bD.1 h with rfl|h
  ·exact jY.refl hb
  ·obtain⟨k,hk,hx⟩:=df.1 h
   have hi:=og hk;exact hi.1.trans (wA hi.1.2.1 hx)
theorem N4{bl:List E}(cY:cT bl)(h0:0<bl.length){y x:Nat}(hi:kS bl y x):∀{f b:Nat},y∈kA bl f b->x∈kA bl (f+1) b
 |0,b,h=>by cases h
 |f+1,b,h=>by
  unfold kA at h;unfold kA;rcases bD.1 h with rfl|h
  ·refine cO _ (df.2 ⟨x,To cY h0 hi,?_⟩)
   unfold kA;exact tM
  ·obtain⟨k,hk,hy⟩:=df.1 h
   exact cO _ (df.2 ⟨k,hk,N4 cY h0 hi hy⟩)
theorem JU{bl:List E}{x:Nat}:∀{f b:Nat},x∈kA bl f b->x∈kA bl (f+1) b
 |0,b,h=>by cases h
 |f+1,b,h=>by
  unfold kA at h;unfold kA;rcases bD.1 h with rfl|h
  ·exact tM
  ·obtain⟨k,hk,hy⟩:=df.1 h
   exact cO _ (df.2 ⟨k,hk,JU hy⟩)
theorem ab1{bl:List E}{x b f:Nat}(h:x∈kA bl f b):∀{g:Nat},f<=g->x∈kA bl g b:=λ{g} hg=>by
 obtain⟨d,rfl⟩:=Nat.exists_eq_add_of_le hg
 induction d with
 |zero=>exact h
 |succ d ih=>exact JU (ih I)
theorem N3{bl:List E}(cY:cT bl)(h0:0<bl.length):∀(m x:Nat),CH bl x<=m->gH bl (-1) 0 x->x∈kA bl (CH bl x) 0
 |0,x,h,hx=>by have:=(mR cY h0 hx).1;omega
 |m+1,x,h,hx=>by
  by_cases e:x=0
  ·subst e
   have:=(mR cY h0 hx).1;obtain⟨d,hd⟩:∃d,CH bl 0=d+1:=⟨CH bl 0-1,I⟩;rw[hd];unfold kA;exact tM
  ·obtain⟨c,hc⟩:=ug cY h0 hx e
   have h1:=s9 cY h0 hc;have h2:CH bl c+1=CH bl x:=h1;rw[<-h2];exact N4 cY h0 hc (N3 cY h0 m c I hc.zQ)
noncomputable def sH(bl:List E):List Nat:=kA bl bl.length 0
theorem N0{bl:List E}(cY:cT bl)(h0:0<bl.length){x:Nat}(hx:gH bl (-1) 0 x):x∈sH bl:=
 ab1 (N3 cY h0 _ x (bG _) hx) (mR cY h0 hx).2
theorem CM{α β:Type}{f:α->List β}:∀{l:List α},l.Nodup->(∀x∈l,(f x).Nodup)->(∀x∈l,∀y∈l,x≠y->∀akj,akj∈f x->akj∉f y)->(l.flatMap f).Nodup
 |[],_,_,_=>List.nodup_nil
 |x::l,hn,hf,hd=>by
  rw[gZ];obtain⟨h1,h2⟩:=mO.1 hn;refine pI.2 ⟨hf x aC,CM h2 (λy hy=>hf y (cO _ hy)) λy hy akj hz=>hd y (cO _ hy) akj (cO _ hz),λa ha b hb e=>?_⟩;subst e;obtain⟨y,hy,hb⟩:=df.1 hb;exact hd x aC y (cO _ hy) (λe=>h1 (e▸hy)) a ha hb
theorem LX(bl:List E)(b:Nat):(oh bl b).Nodup:=List.nodup_range.filter _
theorem LW{bl:List E}{b k l x:Nat}(hk:kS bl b k)(hl:kS bl b l)(eQ:k≠l)(h1:jY bl k x):¬jY bl l x:=λh2=>by
 have key:∀{k l:Nat},kS bl b k->kS bl b l->k≠l->jY bl k l->False:=λhk hl eQ h=>by
  have h3:=hl.2.2 _ h eQ;exact hk.2.1 (hk.1.antisymm h3)
 rcases h1.chain h2 with h|h
 ·exact key hk hl eQ h
 ·exact key hl hk (Ne.symm eQ) h
theorem wB{bl:List E}:∀{f b:Nat},gH bl (-1) 0 b->(kA bl f b).Nodup
 |0,b,_=>List.nodup_nil
 |f+1,b,hb=>by
  unfold kA;refine mO.2 ⟨λh=>?_,CM (LX bl b) (λk hk=>wB (og hk).1.2.1) λk hk l hl eQ x hx hy=>?_⟩
  ·obtain⟨k,hk,hx⟩:=df.1 h
   have hi:=og hk;exact hi.2.1 (hi.1.antisymm (wA hi.1.2.1 hx))
  ·exact LW (og hk) (og hl) eQ (wA (og hk).1.2.1 hx) (wA (og hl).1.2.1 hy)
def ET(x:dJ):Bool:=decide (0<=x.dst)
def sx(B:E):Nat:=B.aD.length+(B.list.filter ET).length
def N8(B:E)(k:Nat):Nat:=if k<B.aD.length then k else B.aD.length+((B.list.take (k-B.aD.length)).filter ET).length
theorem v8{l:List dJ}{i:Nat}{x:dJ}(h:l[i]?=Z x):((l.take (i+1)).filter ET).length=((l.take i).filter ET).length+if 0<=x.dst then 1 else 0:=by
 rw[cz,h,mz,nU,bX];congr 1
 by_cases h0:0<=x.dst<;>simp[ET,h0]
theorem M2(l:List dJ){i j:Nat}(h:i<=j):((l.take i).filter ET).length<=((l.take j).filter ET).length:=by
 have e:l.take i=(l.take j).take i:=by rw[List.take_take,iq h]
 rw[e];exact((List.take_sublist i (l.take j)).filter ET).length_le
theorem Iu(l:List dJ)(i:Nat):((l.take i).filter ET).length<=(l.filter ET).length:=((List.take_sublist i l).filter ET).length_le
noncomputable def mT(bl:List E)(n:Nat):Nat->Nat->Int:=num (sH bl) (λb=>sx (aN bl b)) (λb k=>N8 (aN bl b) k) n
theorem bQ{bl:List E}{b:Nat}{B:E}(h:bl[b]?=Z B):aN bl b=B:=by unfold aN;rw[h];rfl
theorem abS{bl:List E}(cY:cT bl)(h0:0<bl.length)(hr:∀b,b<bl.length->gH bl (-1) 0 b):YW bl (sH bl) (λb=>sx (aN bl b)) (λb k=>N8 (aN bl b) k):=
 ⟨λb hb=>N0 cY h0 (hr b hb),λb B k hB hk=>by
  rw[bQ hB];unfold N8 sx;rcases hk with h|⟨i,x,rfl,hx,h0⟩
  ·rw[if_pos h];omega
  ·rw[if_neg I,lE]
   have h1:=v8 hx;rw[if_pos h0]at h1;have h2:=Iu B.list (i+1);omega,λb B k k' hB hk Bj e=>by
  rw[bQ hB]at e;unfold N8 at e;rcases hk with h|⟨i,x,rfl,hx,Eu⟩
  ·rcases Bj with h'|⟨j,y,rfl,hy,Xy⟩
   ·rw[if_pos h,if_pos h']at e;exact e
   ·rw[if_pos h,if_neg I]at e;omega
  ·rcases Bj with h'|⟨j,y,rfl,hy,Xy⟩
   ·rw[if_neg I,if_pos h']at e;omega
   ·rw[if_neg I,if_neg I,lE,lE]at e
    have h1:=v8 hx;have h2:=v8 hy;rw[if_pos Eu]at h1;rw[if_pos Xy]at h2
    by_cases Q5:i=j
    ·rw[Q5]
    ·rcases Nat.lt_or_gt_of_ne Q5 with h|h
     ·have:=M2 B.list (show i+1<=j from h);omega
     ·have:=M2 B.list (show j+1<=i from h);omega⟩
structure Mk where
 dst:Nat->Nat->Prop
 src:Nat->Nat->Nat->Prop
 ins:Nat->Nat->Prop
 on:Nat->Prop
section
variable (ν:Nat->Nat->Int) (bl:List E) (n:Nat)
open Classical in
noncomputable def Kw(F:Mk)(c i:Nat)(p:ep):ep:=⟨if F.dst c i then ν c i else p.dst,p.src.mapIdx λj v=>if F.src c i j then uF ν bl n c j v else v⟩
open Classical in
noncomputable def V2(F:Mk)(c k:Nat)(x:dJ):dJ:=if F.ins c k then iR ν bl n c k x else x
open Classical in
noncomputable def rP(F:Mk)(c:Nat)(B:E):E:={B with aD:=B.aD.mapIdx (Kw ν bl n F c),list:=B.list.mapIdx (V2 ν bl n F c),on:=if F.on c then k7 ν bl n c B.list.length B.on else B.on}
noncomputable def Ex(F:Mk):List E:=bl.mapIdx (rP ν bl n F)
end
section
variable {ν:Nat->Nat->Int} {bl:List E} {n:Nat}
theorem zL(F:Mk):(Ex ν bl n F).length=bl.length:=by simp[Ex]
theorem zK{F:Mk}{b:Nat}{B:E}(h:bl[b]?=Z B):(Ex ν bl n F)[b]?=Z (rP ν bl n F b B):=by
 unfold Ex;rw[cf,h]
 rfl
theorem YN{F aki:Mk}(hd:∀c i,F.dst c i↔aki.dst c i)(hs:∀c i j,F.src c i j↔aki.src c i j)(hi:∀c k,F.ins c k↔aki.ins c k)(ho:∀c,F.on c↔aki.on c):Ex ν bl n F=Ex ν bl n aki:=by
 have e:F=aki:=by
  obtain⟨a,b,c,d⟩:=F;obtain⟨a',b',c',d'⟩:=aki;simp only at hd hs hi ho;have h1:a=a':=funext λx=>funext λy=>propext (hd x y);have h2:b=b':=funext λx=>funext λy=>funext λakj=>propext (hs x y akj);have h3:c=c':=funext λx=>funext λy=>propext (hi x y);have h4:d=d':=funext λx=>propext (ho x);rw[h1,h2,h3,h4]
 rw[e]
theorem VA{F:Mk}(hd:∀c i,¬F.dst c i)(hs:∀c i j,¬F.src c i j)(hi:∀c k,¬F.ins c k)(ho:∀c,¬F.on c):Ex ν bl n F=bl:=by
 classical
 have h1:∀c B,rP ν bl n F c B=B:=λc B=>by
  have h2:B.aD.mapIdx (Kw ν bl n F c)=B.aD:=by
   apply ci;intro i;rw[cf];cases B.aD[i]? with
   |none=>rfl
   |some p=>
    rw[bu];unfold Kw;rw[if_neg (hd c i)];rw[show(p.src.mapIdx λj v=>if F.src c i j then uF ν bl n c j v else v)=p.src from by
     apply ci;intro j;rw[cf];cases p.src[j]? with
     |none=>rfl
     |some v=>rw[bu,if_neg (hs c i j)]]
  have h4:B.list.mapIdx (V2 ν bl n F c)=B.list:=by
   apply ci;intro i;rw[cf];cases B.list[i]? with
   |none=>rfl
   |some x=>
    rw[bu];unfold V2;rw[if_neg (hi c i)]
  unfold rP;rw[h2,h4,if_neg (ho c)]
 apply ci;intro b;unfold Ex;rw[cf];cases bl[b]? with
 |none=>rfl
 |some B=>rw[bu,h1]
theorem YM{F:Mk}(hd:∀c i B,bl[c]?=Z B->i<B.aD.length->F.dst c i)(hs:∀c i j B p,bl[c]?=Z B->B.aD[i]?=Z p->j<p.src.length->F.src c i j)(hi:∀c k B,bl[c]?=Z B->k<B.list.length->F.ins c k)(ho:∀c B,bl[c]?=Z B->F.on c):Ex ν bl n F=ms ν bl n:=by
 unfold Ex ms;refine jk λc B hB=>?_;unfold rP fX;rw[if_pos (ho c B hB)];have h1:B.aD.mapIdx (Kw ν bl n F c)=B.aD.mapIdx (qL ν bl n c):=jk λi p hp=>by
  unfold Kw qL;rw[if_pos (hd c i B hB (az.1 hp).1)];congr 1;exact jk λj v hv=>if_pos (hs c i j B p hB hp (az.1 hv).1)
 have h2:B.list.mapIdx (V2 ν bl n F c)=B.list.mapIdx (iR ν bl n c):=jk λk x hx=>by
  unfold V2;rw[if_pos (hi c k B hB (az.1 hx).1)]
 rw[h1,h2]
variable (ν bl n)in
noncomputable def BT(b:Nat)(r:Int):cg:=if cS bl b<0 then(if r<n then⟨true,r⟩else iu)else nm ν bl n (cS bl b).toNat (aN bl (cS bl b).toNat).list.length r
variable (ν bl n)in
noncomputable def NQ(b i:Nat)(r:Int):cg:=match oF (aN bl b).aD r i with
 |some k=>⟨true,ν b k⟩
 |none=>BT ν bl n b r
theorem Ay(cY:cT bl)(h0:0<bl.length){b i:Nat}{r:Int}(hb:gH bl (-1) 0 b):nm ν bl n b i r=match kj (aN bl b) r i with
  |some k=>⟨true,ν b k⟩
  |none=>BT ν bl n b r:=T9 cY h0 hb
theorem NT(cY:cT bl)(h0:0<bl.length){b:Nat}{r:Int}(hb:gH bl (-1) 0 b):nm ν bl n b 0 r=NQ ν bl n b (aN bl b).aD.length r:=Ay cY h0 hb
theorem T7(b:Nat)(r:Int):NQ ν bl n b 0 r=BT ν bl n b r:=rfl
theorem T6{b i:Nat}{p:ep}(hp:(aN bl b).aD[i]?=Z p)(r:Int):NQ ν bl n b (i+1) r=if p.dst=r then⟨true,ν b i⟩else NQ ν bl n b i r:=by
 unfold NQ;have h:oF (aN bl b).aD r (i+1)=if p.dst=r then Z i else oF (aN bl b).aD r i:=by
  rw[oF,hp];simp only[bu,b_]
 rw[h]
 by_cases e:p.dst=r
 ·rw[if_pos e,if_pos e]
 ·rw[if_neg e,if_neg e]
theorem B_(cY:cT bl)(h0:0<bl.length){b i:Nat}(hb:gH bl (-1) 0 b){x:dJ}(hx:(aN bl b).list[i]?=Z x)(r:Int):nm ν bl n b (i+1) r=if x.dst=r then⟨true,ν b ((aN bl b).aD.length+i)⟩else nm ν bl n b i r:=by
 rw[Ay cY h0 hb,Ay cY h0 hb];have h:kj (aN bl b) r (i+1)=if x.dst=r then Z ((aN bl b).aD.length+i)else kj (aN bl b) r i:=by
  rw[kj,hx];simp only[bu,b_]
 rw[h]
 by_cases e:x.dst=r
 ·rw[if_pos e,if_pos e]
 ·rw[if_neg e,if_neg e]
end
def eF(R:Nat)(f:Int->cg):List cg:=(List.range R).map λr:Nat=>f r
theorem gO(R:Nat)(f:Int->cg):(eF R f).length=R:=by simp[eF]
theorem vN{R:Nat}{f:Int->cg}{r:Nat}(h:r<R):(eF R f)[r]?=Z (f r):=by unfold eF;rw[aJ,eX h];rfl
theorem J1{R:Nat}{f g:Int->cg}{d:Nat}{v:cg}(h:∀r:Nat,r<R->g r=if (d:Int)=r then v else f r):(eF R f).set d v=eF R g:=by
 apply ci;intro r
 by_cases hr:r<R
 ·rw[vN hr,h r hr]
  by_cases e:d=r
  ·subst e
   rw[eK (by rw[gO];exact hr),if_pos rfl]
  ·rw[fz e,vN hr,if_neg I]
 ·rw[bO (by rw[eL,gO];omega),bO (by rw[gO];omega)]
theorem DR{R:Nat}{f g:Int->cg}(h:∀r:Nat,r<R->f r=g r):eF R f=eF R g:=by
 unfold eF;exact dD λr hr=>h r (cM.1 hr)
section
variable {bl oy:List E}
theorem uB(h:∀i,db oy i=db bl i){wo:Int}{b x:Nat}:gH oy wo b x↔gH bl wo b x:=by
 have key:∀{l l':List E},(∀i,db l' i=db l i)->gH l wo b x->gH l' wo b x:=λ{l l'} h k=>by
  induction k with
  |refl=>exact .refl
  |step _ he hw ih=>exact ih.step (by unfold Edge at he⊢;rw[h];exact he) hw
 exact⟨key λi=>(h i).symm,key h⟩
theorem CF(h:∀i,db oy i=db bl i){a b:Nat}:jY oy a b↔jY bl a b:=by
 unfold jY;rw[uB h,uB h,uB h]
theorem NC(h:∀i,db oy i=db bl i){c b:Nat}:kS oy c b↔kS bl c b:=by
 unfold kS;simp only[CF h]
theorem Oo(h:∀i,db oy i=db bl i)(b:Nat):cS oy b=cS bl b:=by
 by_cases hc:∃c,kS bl c b
 ·obtain⟨c,hc⟩:=hc
  rw[iw hc,iw ((NC h).2 hc)]
 ·rw[gB λc k=>hc ⟨c,k⟩,gB λc k=>hc ⟨c,(NC h).1 k⟩]
theorem pY(hl:oy.length=bl.length)(h:∀i,db oy i=db bl i)(t:Nat):aZ oy t=aZ bl t:=by
 unfold aZ;rw[hl];exact rV λi _=>by rw[h]
theorem tU(hl:oy.length=bl.length)(h:∀i,db oy i=db bl i)(hg:cT bl):cT oy:=λB hB=>by
 obtain⟨b,hb⟩:=bg hB;have h1:=h b;rw[fY hb]at h1;have gF:b<bl.length:=by rw[<-hl];exact(az.1 hb).1
 obtain⟨akh,hC⟩:=bf bl b gF;rw[fY hC]at h1;rw[h1,hl];exact hg akh (aq hC)
end
theorem Bu(bl:List E)(m t:Nat):aZ (dw bl m) t=aZ bl t:=pY (e7 bl m) (lO bl m) t
theorem qJ{R:Nat}{bl:List E}(hf:fu R bl){m:Nat}(hm:m<=R):fu R (dw bl m):=by
 refine⟨tU (e7 bl m) (lO bl m) hf.iM,λb akh hC=>?_⟩;have gF:b<bl.length:=by rw[<-e7 bl m];exact(az.1 hC).1
 obtain⟨B,hB⟩:=bf bl b gF;rw[gG hB]at hC;obtain rfl:=a7 hC;have ho:=hf.block b B hB;refine⟨λp hp=>?_,ho.list,ho.on,ho.to⟩;rw[Bu];simp only at hp;rcases bA.1 hp with hp|hp
 ·exact ho.aD p hp
 ·obtain⟨r,hr,_,rfl⟩:=jU hp
  refine⟨⟨by simp[iI],by simp only[iI];omega⟩,by simp[iI],λv hv=>?_⟩;simp only[iI]at hv;rw[jK hv];exact λ_=>⟨by simp only;omega,by simp only;omega⟩
theorem qZ.mono{akf akg:Int->Prop}(h:∀r,akf r->akg r){v:cg}(hv:qZ akf v):qZ akg v:=λk=>h _ (hv k)
theorem HX.mono{akf akg:Int->Prop}(h:∀r,akf r->akg r){x:dJ}(hx:HX akf x):HX akg x:=⟨hx.a.mono h,hx.b.mono h,λv hv=>(hx.args v hv).mono h,λh0=>h _ (hx.dst h0)⟩
theorem mh.mono{akf akg:Int->Prop}(h:∀r,akf r->akg r){B:E}(hB:mh akf B):mh akg B:=⟨λp hp=>⟨h _ (hB.aD p hp).1,λv hv=>((hB.aD p hp).2 v hv).mono h⟩,λx hx=>(hB.list x hx).mono h,hB.on.mono h⟩
def Rn(R:Nat)(r:Int):Prop:=0<=r/\r<R
theorem Qg{R:Nat}{bl:List E}(h:∀B∈bl,mh (Rn R) B){m:Nat}(hm:m<=R):∀B∈dw bl m,mh (Rn R) B:=λakh hC=>by
 obtain⟨b,hb⟩:=bg hC;have gF:b<bl.length:=by rw[<-e7 bl m];exact(az.1 hb).1
 obtain⟨B,hB⟩:=bf bl b gF;rw[gG hB]at hb;obtain rfl:=a7 hb;have hR:=h B (aq hB);refine⟨λp hp=>?_,hR.list,hR.on⟩;simp only at hp;rcases bA.1 hp with hp|hp
 ·exact hR.aD p hp
 ·obtain⟨r,hr,_,rfl⟩:=jU hp
  refine⟨⟨by simp[iI],by simp only[iI];omega⟩,λv hv=>?_⟩;simp only[iI]at hv;rw[jK hv];exact λ_=>⟨by simp only;omega,by simp only;omega⟩
theorem Rx{fs:List aY}{X:aY}{R:Nat}(hR:X.aB=R)(hf:fu R X.blocks)(h:sm fs X):∀B∈X.blocks,mh (Rn R) B:=λB hB=>by
 obtain⟨b,hb⟩:=bg hB;have ho:=hf.block b B hb;refine⟨λp hp=>⟨(ho.aD p hp).dst,λv hv=>(ho.aD p hp).uJ v hv⟩,λx hx=>?_,ho.on⟩;have h0:=h.list b B hb x hx;have hI:=ho.list x hx;rw[hR]at h0;unfold eu at h0
 split at h0
 ·cases h0
 split at h0
 ·cases h0
 split at h0
 ·rename_i h3
  simp[h0]at h3
 split at h0
 ·rename_i h4;exact absurd h0 h4
 rename_i h4;have h4:=val_zero.1 (Decidable.not_not.1 h4)
 split at h0
 ·rename_i h5;exact absurd h0 h5
 rename_i h5;have h5:=val_zero.1 (Decidable.not_not.1 h5);refine⟨λhr=>by have:=h4 hr;exact⟨I,I⟩,λhr=>by have:=h5 hr;exact⟨I,I⟩,λv hv hr=>?_,λh6=>⟨h6,hI.dst h6⟩⟩;exact hI.uJ v (by unfold j3;simp[hv]) hr
theorem qS{l:List cg}{r:Nat}(h:k_ l r=true):∃v∈l,v.z=true/\v.n=r:=by
 unfold k_ at h;obtain⟨v,hv,h2⟩:=mW.1 h;simp only[Bool.and_eq_true,decide_eq_true_eq]at h2;exact⟨v,hv,h2⟩
theorem XJ{R:Nat}{bl:List E}(hf:fu R bl){b:Nat}{j:Int}{r:Nat}(h:ik bl r b j):r<R:=by
 induction h with
 |kN _ _ _ ih=>exact ih
 |use hB hx hn=>
  have hI:=(hf.block _ _ hB).list _ (aq hx);obtain⟨v,hv,h1,h2⟩:=qS hn;have:=hI.uJ v (by rw[<-tH hI];exact hv) h1;omega
 |go _ _ _ _ ih=>exact ih
 |on hB hn=>
  obtain⟨v,hv,h1,h2⟩:=qS hn;rw[bR.1 hv]at h1 h2;have:=(hf.block _ _ hB).on h1;omega
 |take hB _ ht hn=>
  unfold uH at hn;obtain⟨p,hp,h2⟩:=mW.1 hn;obtain⟨v,hv,h3,h4⟩:=qS h2;rw[bR.1 hv]at h3 h4;unfold fD at hp
  split at hp
  ·rename_i T hT
   have De:=(hf.block _ T hT).aD p hp;cases hz:p.src[(aZ _ _).idxOf _]? with
   |none=>rw[hz]at h3;cases h3
   |some w=>
    rw[hz]at h3 h4;simp only[dW]at h3 h4;have:=De.uJ w (aq hz) h3;omega
  ·cases hp
 |jump _ _ _ _ ih=>exact ih
theorem AG{ps:List ep}{r:Int}(h:∀p∈ps,p.dst≠r):∀n,oF ps r n=A
 |0=>rfl
 |n+1=>by
  unfold oF;rw[if_neg,AG h n];intro e;obtain⟨p,hp,e2⟩:=cA.1 e;exact h p (aq hp) e2
theorem CC{B:E}{r:Int}(h:∀p∈B.aD,p.dst≠r)(h2:∀x∈B.list,x.dst≠r):∀i,kj B r i=A
 |0=>AG h _
 |i+1=>by
  unfold kj;rw[if_neg,CC h h2 i];intro e;obtain⟨x,hx,e2⟩:=cA.1 e;exact h2 x (aq hx) e2
theorem Io{B:E}{r:Int}:∀{i k:Nat},kj B r i=Z k->k<B.aD.length+i
 |0,k,h=>by have:=(pj h).1;omega
 |i+1,k,h=>by
  unfold kj at h
  split at h
  ·obtain rfl:=a7 h;omega
  ·have:=Io h;omega
theorem Ae{B:E}{r:Int}:kp B r=false↔∀p∈B.aD,p.dst≠r:=by
 unfold kp;rw[xw];simp
theorem Q0{B:E}{r:Int}:kR B r=false↔(∀x∈B.list,x.dst≠r)/\∀p∈B.aD,p.dst≠r:=by
 unfold kR;rw[Bool.or_eq_false_iff,Ae,xw];simp
theorem Eg{bl:List E}{r d:Nat}(hd:d<bl.length)(h:d=0∨kR (aN bl d) r=true):(d:Int)∈ox bl r:=by
 unfold ox
 by_cases e:d=0
 ·subst e;simp
 ·refine cO _ (aV.2 ⟨d,cC.2 ⟨cM.2 hd,?_⟩,rfl⟩)
  rw[(h.resolve_left e)];simp;omega
theorem vd{bl:List E}{m b:Nat}(hb:b<bl.length):aN (dw bl m) b={aN bl b with aD:=(aN bl b).aD++dg bl m b}:=by
 have h:bl[b]?=Z (aN bl b):=bM hb;exact bQ (gG h)
section
variable {bl:List E} {R n:Nat} {ν:Nat->Nat->Int}
theorem Qf{d r:Nat}{i:Nat}(hd:d<bl.length)(hw:kR (aN bl d) r=false)(hm:¬l7 bl (ox bl r) d):kj (aN (dw bl R) d) (r:Int) i=A:=by
 obtain⟨h1,h2⟩:=Q0.1 hw;rw[vd hd];refine CC ?_ ?_ i
 case refine_2=>exact h1
 intro p hp;simp only at hp;rcases bA.1 hp with hp|hp
 ·exact h2 p hp
 ·obtain⟨r',_,hn,rfl⟩:=jU hp
  intro e;have e2:r'=r:=by simp only[iI]at e;omega
  subst e2;exact hm hn.1
theorem RH(cY:cT bl)(h0:0<bl.length){b p r:Nat}(uZ:b≠0)(hp:gH bl (-1) 0 p)(he:Edge bl p b)(hm:¬l7 bl (ox bl r) b):
  nm ν (dw bl R) n p (aN (dw bl R) p).list.length (r:Int)=BT ν (dw bl R) n b (r:Int):=by
 have ii:=lO bl R;have EK:cT (dw bl R):=tU (e7 bl R) ii cY;have VD:0<(dw bl R).length:=by rw[e7];exact h0
 have hb:gH bl (-1) 0 b:=hp.step he I;obtain⟨c,hc⟩:=ug cY h0 hb uZ;have HG:jY bl c p:=hc.1.ED hc.2.1 he hp;have Pn:BT ν (dw bl R) n b (r:Int)=nm ν (dw bl R) n c (aN (dw bl R) c).list.length (r:Int):=by
  unfold BT;rw[Oo ii,iw hc,if_neg I,dO]
 rw[Pn];have key:∀(m d:Nat),CH bl d<=m->jY bl d p->jY bl c d->nm ν (dw bl R) n d (aN (dw bl R) d).list.length (r:Int)=nm ν (dw bl R) n c (aN (dw bl R) c).list.length (r:Int):=by
  intro m
  induction m with
  |zero=>intro d hd Zl _;have:=(mR cY h0 Zl.1).1;omega
  |succ m ih=>
   intro d hd Zl xF
   by_cases e:d=c
   ·rw[e]
   ·have Fl:d<bl.length:=cY.zQ h0 Zl.1
    have oZ:d=b∨¬jY bl d b:=by
     by_cases e2:d=b
     ·exact .inl e2
     ·refine .inr λh=>e ?_
      exact(hc.2.2 d h e2).antisymm xF
    have GJ:ij bl d b:=⟨p,hp,he,Zl,oZ⟩;have hd0:d≠0:=λe0=>hm (.base (Eg Fl (.inl e0)) GJ);have hwd:kR (aN bl d) (r:Int)=false:=by
     cases hw:kR (aN bl d) (r:Int)with
     |false=>rfl
     |true=>exact absurd (.base (Eg Fl (.inr hw)) GJ) hm
    have hmd:¬l7 bl (ox bl r) d:=λh=>hm (.step h GJ);obtain⟨e',VM⟩:=ug cY h0 Zl.1 hd0;have af4:CH bl e'+1=CH bl d:=s9 cY h0 VM;rw[Ay EK VD ((uB ii).2 Zl.1),Qf Fl hwd hmd];simp only;unfold BT;rw[Oo ii,iw VM,if_neg I,dO];exact ih e' I (VM.1.trans Zl) (VM.2.2 c xF λh=>e h.symm)
 exact key _ p (bG _) (jY.refl hp) HG
end
def Rp(bl:List E)(b m c k:Nat):Prop:=c<bl.length/\Site (aN bl c) k/\((c=b/\k<m)∨(c≠b/\jY bl c b))
theorem AA{ν:Nat->Nat->Int}{bl:List E}{n:Nat}(cY:cT bl)(h0:0<bl.length){r:Int}(hr:0<=r):∀(g b i:Nat),CH bl b<=g->gH bl (-1) 0 b->
  (∃c k,nm ν bl n b i r=⟨true,ν c k⟩/\Rp bl b ((aN bl b).aD.length+i) c k)∨(nm ν bl n b i r=⟨true,r⟩/\r<n)∨nm ν bl n b i r=iu
 |0,b,i,hg,hb=>by have:=(mR cY h0 hb).1;omega
 |g+1,b,i,hg,hb=>by
  rw[Ay cY h0 hb];cases hd:kj (aN bl b) r i with
  |some k=>exact .inl ⟨b,k,rfl,cY.zQ h0 hb,tQ hr hd,.inl ⟨rfl,Io hd⟩⟩
  |none=>
   simp only;unfold BT
   by_cases ht:cS bl b<0
   ·rw[if_pos ht]
    by_cases hn:r<n
    ·rw[if_pos hn];exact .inr (.inl ⟨rfl,hn⟩)
    ·rw[if_neg hn];exact .inr (.inr rfl)
   ·rw[if_neg ht]
    obtain⟨h1,h2⟩:=Gt cY h0 hb ht;rcases AA cY h0 hr g (cS bl b).toNat _ I h1.zQ with⟨c,k,e,e_,hs,hw⟩|h|h
    ·refine .inl ⟨c,k,e,e_,hs,.inr ?_⟩
     rcases hw with⟨rfl,_⟩|⟨eQ,Ko⟩
     ·exact⟨h1.2.1,h1.1⟩
     ·refine⟨λe2=>?_,Ko.trans h1.1⟩
      subst e2;exact h1.2.1 (h1.1.antisymm Ko)
    ·exact .inr (.inl h)
    ·exact .inr (.inr h)
theorem Ws{ν:Nat->Nat->Int}{bl:List E}{n:Nat}(cY:cT bl)(h0:0<bl.length){r:Int}(hr:0<=r){b:Nat}(hb:gH bl (-1) 0 b):
  (∃c k,BT ν bl n b r=⟨true,ν c k⟩/\c<bl.length/\Site (aN bl c) k/\c≠b/\jY bl c b)∨(BT ν bl n b r=⟨true,r⟩/\r<n)∨BT ν bl n b r=iu:=by
 unfold BT
 by_cases ht:cS bl b<0
 ·rw[if_pos ht]
  by_cases hn:r<n
  ·rw[if_pos hn];exact .inr (.inl ⟨rfl,hn⟩)
  ·rw[if_neg hn];exact .inr (.inr rfl)
 ·rw[if_neg ht]
  obtain⟨h1,h2⟩:=Gt cY h0 hb ht;rcases AA (ν:=ν) (n:=n) cY h0 hr _ (cS bl b).toNat (aN bl (cS bl b).toNat).list.length (bG _) h1.zQ with⟨c,k,e,e_,hs,hw⟩|h|h
  ·refine .inl ⟨c,k,e,e_,hs,?_⟩
   rcases hw with⟨rfl,_⟩|⟨eQ,Ko⟩
   ·exact⟨h1.2.1,h1.1⟩
   ·refine⟨λe2=>?_,Ko.trans h1.1⟩
    subst e2;exact h1.2.1 (h1.1.antisymm Ko)
  ·exact .inr (.inl h)
  ·exact .inr (.inr h)
def ww(bl:List E)(ake:List Nat):Mk:=⟨λc _=>c∈ake,λc _ j=>∃q,(aZ bl c)[j]?=Z q/\q∈ake,λc _=>c∈ake,λc=>c∈ake⟩
def oD(bl:List E)(ake:List Nat)(b:Nat)(akf:List Int):Mk:=⟨λc _=>c∈ake∨c=b,λc _ j=>∃q,(aZ bl c)[j]?=Z q/\(q∈ake∨(q=b/\(c:Int)∈akf)),λc _=>c∈ake∨c=b,λc=>c∈ake∨c=b⟩
section
variable {ν:Nat->Nat->Int} {bl:List E} {n:Nat} {ake:List Nat} {b:Nat}
theorem XQ{B:E}(hB:bl[b]?=Z B):Ex ν bl n (oD bl ake b B.to)=Ex ν bl n (ww bl (ake++[b])):=by
 refine YN (λc i=>by simp[oD,ww]) (λc i j=>?_) (λc k=>by simp[oD,ww]) (λc=>by simp[oD,ww]);simp only[oD,ww,bA,bR];constructor
 ·rintro⟨q,h1,h2|⟨h2,_⟩⟩
  ·exact⟨q,h1,.inl h2⟩
  ·exact⟨q,h1,.inr h2⟩
 ·rintro⟨q,h1,h2|h2⟩
  ·exact⟨q,h1,.inl h2⟩
  ·subst h2
   refine⟨q,h1,.inr ⟨rfl,?_⟩⟩;have h3:=aq h1;unfold aZ at h3;have h4:=(cC.1 h3).2;rw[decide_eq_true_eq,fY hB]at h4;exact h4
theorem Oz{F aki:Mk}{c:Nat}(hd:∀i,F.dst c i↔aki.dst c i)(hs:∀i j,F.src c i j↔aki.src c i j)(hi:∀k,F.ins c k↔aki.ins c k)(ho:F.on c↔aki.on c)(akh:E):rP ν bl n F c akh=rP ν bl n aki c akh:=by
 classical
 unfold rP;have h1:Kw ν bl n F c=Kw ν bl n aki c:=by
  funext i p
  unfold Kw;have h2:(λj v=>if F.src c i j then uF ν bl n c j v else v)=λj v=>if aki.src c i j then uF ν bl n c j v else v:=by
   funext j v
   by_cases h:F.src c i j
   ·rw[if_pos h,if_pos ((hs i j).1 h)]
   ·rw[if_neg h,if_neg λk=>h ((hs i j).2 k)]
  by_cases h:F.dst c i
  ·rw[if_pos h,if_pos ((hd i).1 h)]
   exact congrArg _ (congrArg (λf=>p.src.mapIdx f) h2)
  ·rw[if_neg h,if_neg λk=>h ((hd i).2 k)]
   exact congrArg _ (congrArg (λf=>p.src.mapIdx f) h2)
 have h3:V2 ν bl n F c=V2 ν bl n aki c:=by
  funext k x
  unfold V2
  by_cases h:F.ins c k
  ·rw[if_pos h,if_pos ((hi k).1 h)]
  ·rw[if_neg h,if_neg λk2=>h ((hi k).2 k2)]
 rw[h1,h3]
 by_cases h:F.on c
 ·rw[if_pos h,if_pos (ho.1 h)]
 ·rw[if_neg h,if_neg λk=>h (ho.2 k)]
theorem P2{c:Nat}(hc:c≠b)(akh:E):rP ν bl n (oD bl ake b []) c akh=rP ν bl n (ww bl ake) c akh:=
 Oz (λi=>by simp[oD,ww,hc]) (λi j=>by simp[oD,ww]) (λk=>by simp[oD,ww,hc]) (by simp[oD,ww,hc]) akh
theorem TX{c t:Nat}{akf:List Int}(hc:c≠t)(akh:E):rP ν bl n (oD bl ake b (akf++[(t:Int)])) c akh=rP ν bl n (oD bl ake b akf) c akh:=
 Oz (λi=>by simp[oD]) (λi j=>by
  have h:((c:Int)∈akf++[(t:Int)])↔(c:Int)∈akf:=by rw[bA,bR];exact⟨λh=>h.resolve_right I,.inl⟩
  simp only[oD,h]) (λk=>by simp[oD]) (by simp[oD]) akh
theorem NK(hb:b∉ake)(B:E):(rP ν bl n (ww bl ake) b B).list=B.list/\(rP ν bl n (ww bl ake) b B).on=B.on/\(rP ν bl n (ww bl ake) b B).to=B.to/\(rP ν bl n (ww bl ake) b B).kind=B.kind/\∀(i:Nat) (p:ep),B.aD[i]?=Z p->∃q:ep,(rP ν bl n (ww bl ake) b B).aD[i]?=Z q/\q.dst=p.dst:=by
 classical
 refine⟨?_,?_,rfl,rfl,λi p hp=>?_⟩
 ·show B.list.mapIdx _=_
  apply ci;intro i;rw[cf];cases B.list[i]? with
  |none=>rfl
  |some x=>
   rw[bu];unfold V2;rw[if_neg (show¬(ww bl ake).ins b i from hb)]
 ·show(if (ww bl ake).on b then _ else _)=_
  rw[if_neg (show¬(ww bl ake).on b from hb)]
 ·refine⟨Kw ν bl n (ww bl ake) b i p,?_,?_⟩
  ·show(B.aD.mapIdx _)[i]?=_
   rw[cf,hp]
   rfl
  ·unfold Kw
   rw[if_neg (show¬(ww bl ake).dst b i from hb)]
theorem TY(B:E):(rP ν bl n (oD bl ake b []) b B).list=B.list.mapIdx (iR ν bl n b)/\(rP ν bl n (oD bl ake b []) b B).on=k7 ν bl n b B.list.length B.on:=by
 classical
 constructor
 ·show B.list.mapIdx _=_
  refine jk λi x _=>?_;unfold V2;rw[if_pos (show(oD bl ake b []).ins b i from .inr rfl)]
 ·show(if (oD bl ake b []).on b then _ else _)=_
  rw[if_pos (show(oD bl ake b []).on b from .inr rfl)]
theorem XR{B:E}{i:Nat}{q:ep}(hq:(rP ν bl n (ww bl ake) b B).aD[i]?=Z q):(rP ν bl n (oD bl ake b []) b B).aD[i]?=Z ⟨ν b i,q.src⟩:=by
 classical
 have Ao:(B.aD.mapIdx (Kw ν bl n (ww bl ake) b))[i]?=Z q:=hq;show(B.aD.mapIdx (Kw ν bl n (oD bl ake b []) b))[i]?=_;rw[cf]at Ao⊢;cases hp:B.aD[i]? with
 |none=>rw[hp]at Ao;cases Ao
 |some p=>
  rw[hp]at Ao;have hq3:=a7 Ao;rw[bu,<-hq3];unfold Kw;rw[if_pos (show(oD bl ake b []).dst b i from .inr rfl)];congr 2;refine jk λj v _=>?_;have h:(oD bl ake b []).src b i j↔(ww bl ake).src b i j:=by simp[oD,ww]
  by_cases hs:(ww bl ake).src b i j
  ·rw[if_pos (h.2 hs),if_pos hs]
  ·rw[if_neg λk=>hs (h.1 k),if_neg hs]
theorem JE{t akc i:Nat}{T:E}{akf:List Int}{p q:ep}(hT:T.aD[i]?=Z p)(hb:b∉ake)(ht:(t:Int)∉akf)(hK:(aZ bl t)[akc]?=Z b)(oZ:∀j,(aZ bl t)[j]?=Z b->j=akc)(hq:(rP ν bl n (oD bl ake b akf) t T).aD[i]?=Z q)(hl:akc<p.src.length):
  ∃v,p.src[akc]?=Z v/\q.src[akc]?=Z v/\q.src.length=p.src.length/\(rP ν bl n (oD bl ake b (akf++[(t:Int)])) t T).aD[i]?=Z ⟨q.dst,q.src.set akc (uF ν bl n t akc v)⟩:=by
 classical
 have hv:p.src[akc]?=Z (p.src[akc]'hl):=a_ hl;generalize p.src[akc]'hl=v at hv;have Ao:(T.aD.mapIdx (Kw ν bl n (oD bl ake b akf) t))[i]?=Z q:=hq;rw[cf,hT,bu]at Ao;have hq3:=a7 Ao;have oB:¬(oD bl ake b akf).src t i akc:=by
  rintro⟨c,h1,h2|⟨_,h2⟩⟩
  ·rw[hK]at h1
   obtain rfl:=a7 h1;exact hb h2
  ·exact ht h2
 have Xh:q.src=p.src.mapIdx λj v=>if (oD bl ake b akf).src t i j then uF ν bl n t j v else v:=by rw[<-hq3];rfl
 refine⟨v,hv,?_,?_,?_⟩
 ·rw[Xh,cf,hv,bu,if_neg oB]
 ·rw[Xh,iW]
 ·show(T.aD.mapIdx (Kw ν bl n (oD bl ake b (akf++[(t:Int)])) t))[i]?=_
  rw[cf,hT,bu];have hd:(if (oD bl ake b (akf++[(t:Int)])).dst t i then ν t i else p.dst)=q.dst:=by rw[<-hq3];rfl
  have tY:(p.src.mapIdx λj v=>if (oD bl ake b (akf++[(t:Int)])).src t i j then uF ν bl n t j v else v)=q.src.set akc (uF ν bl n t akc v):=by
   apply ci;intro j;rw[cf,Xh]
   by_cases e:akc=j
   ·subst e
    rw[eK (by rw[iW];exact hl),hv,bu,if_pos (show(oD bl ake b (akf++[(t:Int)])).src t i akc from⟨b,hK,.inr ⟨rfl,by simp⟩⟩)]
   ·rw[fz e,cf]
    cases hj:p.src[j]? with
    |none=>rfl
    |some u=>
     rw[bu,bu];have h:(oD bl ake b (akf++[(t:Int)])).src t i j↔(oD bl ake b akf).src t i j:=by
      constructor
      ·rintro⟨c,h1,h2|⟨h2,_⟩⟩
       ·exact⟨c,h1,.inl h2⟩
       ·subst h2
        exact absurd (oZ j h1).symm e
      ·rintro⟨c,h1,h2|⟨h2,h3⟩⟩
       ·exact⟨c,h1,.inl h2⟩
       ·exact⟨c,h1,.inr ⟨h2,ct _ h3⟩⟩
     by_cases hs:(oD bl ake b akf).src t i j
     ·rw[if_pos hs,if_pos (h.2 hs)]
     ·rw[if_neg hs,if_neg λk=>hs (h.1 k)]
  unfold Kw;rw[hd,tY]
end
noncomputable def cw(X:aY):List E:=dw X.blocks X.aB.toNat
structure Ek(X Y:aY)(ν:Nat->Nat->Int):Prop where
 blocks:Y.blocks=ms ν (cw X) X.params.toNat
 inj:∀b c k k' B akh,(cw X)[b]?=Z B->(cw X)[c]?=Z akh->Site B k->Site akh k'->ν b k=ν c k'->b=c/\k=k'
 ge:∀b k,X.params<=ν b k
 lt:∀b B k,(cw X)[b]?=Z B->Site B k->ν b k<Y.aB
 par:0<=X.params/\X.params<=Y.aB
 reach:∀b,b<X.blocks.length->gH X.blocks (-1) 0 b
 pos:qY X.blocks
structure SgU(u v:a8)(ν:Nat->Nat->Nat->Int):Prop where
 vt:v.globals=u.globals
 main:dh v.funcs=dh u.funcs
 fn:∀(k:Nat) X,u.funcs[k]?=Z X->∃Y,v.funcs[k]?=Z Y/\Ek X Y (ν k)
def Z3(u:a8)(j:Nat):Nat:=match u.funcs[j]? with|some X=>X.params.toNat|none=>0
noncomputable def Kt(u:a8)(ν:Nat->Nat->Nat->Int)(fn b i:Nat)(r:Int):cg:=nm (ν fn) (dw (fH u fn) (fQ u fn)) (Z3 u fn) b i r
theorem T5{u:a8}{ν:Nat->Nat->Nat->Int}{fn b i:Nat}{r:Int}{X:aY}(h:u.funcs[fn]?=Z X):Kt u ν fn b i r=nm (ν fn) (cw X) X.params.toNat b i r:=by
 unfold Kt fH fQ Z3 cw;rw[h]
structure FTg(u v:a8)(ν:Nat->Nat->Nat->Int)(f g:mf):Prop where
 fn:g.fn=f.fn
 block:g.block=f.block
 at':g.at'=f.at'
 len:g.aB.length=fQ v f.fn
 aB:∀r:Nat,ik (fH u f.fn) r f.block f.at'->cK g (Kt u ν f.fn f.block f.at' r)=f.aB.getD r 0
structure FRg(u v:a8)(ν:Nat->Nat->Nat->Int)(d e:Int)(f g:mf):Prop where
 fn:g.fn=f.fn
 block:g.block=f.block
 at':g.at'=f.at'
 len:g.aB.length=fQ v f.fn
 afe:0<=d->d<f.aB.length
 aB:∀r:Nat,(r:Int)≠d->ik (fH u f.fn) r f.block f.at'->cK g (Kt u ν f.fn f.block f.at' r)=f.aB.getD r 0
 neg:d<0->e<0
 dst:0<=d->0<=e/\e<g.aB.length/\Kt u ν f.fn f.block f.at' d=⟨true,e⟩
 apart:0<=d->∀r:Nat,(r:Int)≠d->(Kt u ν f.fn f.block f.at' r).z=true->0<=(Kt u ν f.fn f.block f.at' r).n/\(Kt u ν f.fn f.block f.at' r).n≠e
theorem Vs{g:mf}{e n:Int}{w:cg}(he:0<=e)(h:w.z=true->0<=w.n/\w.n≠e):cK (g.set e n) w=cK g w:=by
 unfold cK
 by_cases hr:w.z=true
 ·obtain⟨h1,h2⟩:=h hr
  rw[if_pos hr,if_pos hr];show(uD g.aB e n).getD _ 0=_;unfold uD;rw[if_pos he,cB,cB,fz I]
 ·rw[if_neg hr,if_neg hr]
theorem Oc{f:mf}{d n:Int}(h:d<0):f.set d n=f:=by
 unfold mf.set uD;rw[if_neg I]
theorem FRg.back{u v:a8}{ν:Nat->Nat->Nat->Int}{d e:Int}{f g:mf}(h:FRg u v ν d e f g)(n:Int):FTg u v ν (f.set d n) (g.set e n):=by
 by_cases hd:d<0
 ·rw[Oc hd,Oc (h.neg hd)]
  exact⟨h.fn,h.block,h.at',h.len,λr hl=>h.aB r I hl⟩
 ·have hd:0<=d:=I
  obtain⟨h1,h2,h3⟩:=h.dst hd;have Fm:=h.afe hd;have GJ:(f.set d n).aB=f.aB.set d.toNat n:=by show uD _ _ _=_;unfold uD;rw[if_pos hd]
  have Zu:(g.set e n).aB=g.aB.set e.toNat n:=by show uD _ _ _=_;unfold uD;rw[if_pos h1]
  refine⟨h.fn,h.block,h.at',by rw[Zu,eL];exact h.len,λr hl=>?_⟩;show cK (g.set e n) (Kt u ν f.fn f.block f.at' r)=(f.set d n).aB.getD r 0
  by_cases hr:(r:Int)=d
  ·rw[hr,h3]
   unfold cK;simp only[if_true];rw[Zu,GJ,cB,eK I,cB,show d.toNat=r by omega,eK I]
  ·rw[Vs h1 (h.apart hd r hr),h.aB r hr hl,GJ,cB,cB,fz I]
theorem Ff{bl:List E}(h:qY bl){a:Nat}:¬ij bl a 0:=λ⟨p,_,he,_⟩=>by
 have:=h p (0:Nat) he;omega
theorem FJ{bl:List E}(h:qY bl){bs:List Int}:¬l7 bl bs 0:=λhm=>by
 cases hm with
 |base _ hf=>exact Ff h hf
 |step _ hf=>exact Ff h hf
theorem um{bl:List E}{m b:Nat}(h:∀r,r<m->¬need bl b r):dg bl m b=[]:=by
 cases e:dg bl m b with
 |nil=>rfl
 |cons p l=>
  obtain⟨r,hr,hn,_⟩:=jU (show p∈dg bl m b by rw[e];simp);exact absurd hn (h r hr)
theorem D9{bl:List E}:cS bl 0=-1:=gB λc h=>h.2.1 (sU h.1)
theorem T_{bl:List E}(cY:cT bl)(h0:0<bl.length)(hp:qY bl)(wj:(aN bl 0).aD=[]){ν:Nat->Nat->Int}{m n:Nat}(r:Int):nm ν (dw bl m) n 0 0 r=if r<n then⟨true,r⟩else iu:=by
 have ii:=lO bl m;have EK:cT (dw bl m):=tU (e7 bl m) ii cY;have VD:0<(dw bl m).length:=by rw[e7];exact h0
 have ag1:(aN (dw bl m) 0).aD=[]:=by
  rw[vd h0,wj,um λr _ hn=>FJ hp hn.1]
  rfl
 rw[Ay EK VD .refl];have hd:kj (aN (dw bl m) 0) r 0=A:=by unfold kj;rw[ag1];rfl
 rw[hd];simp only;unfold BT;rw[D9,if_pos I]
theorem EX{u v:a8}{ν:Nat->Nat->Nat->Int}{k:Nat}{aj9 W:aY}{RZ:Nat}(hZ:u.funcs[k]?=Z aj9)(Zr:MR u aj9 RZ)(hW:v.funcs[k]?=Z W)(hs:Ek aj9 W (ν k))(wj:(aN aj9.blocks 0).aD=[])(d e:Int){args:List Int}(ha:(args.length:Int)=aj9.params):
  FTg u v ν ⟨k,0,0,eN (fQ u k) args,d⟩ ⟨k,0,0,eN (fQ v k) args,e⟩:=by
 have hru:fQ u k=RZ:=by unfold fQ;rw[hZ];simp only;rw[Zr.aB];omega
 have y7:fQ v k=W.aB.toNat:=by unfold fQ;rw[hW]
 have hpa:=hs.par;have hlen:∀m,(eN m args).length=m:=λm=>by unfold eN;rw[dd,bX,dm];omega
 have jS:∀(m r:Nat),args.length<=m->(eN m args).getD r 0=if r<args.length then args.getD r 0 else 0:=λm r hm=>by
  unfold eN;rw[cB,tL]
  by_cases h1:r<m
  ·rw[if_pos h1]
   by_cases h2:r<args.length
   ·rw[if_pos h2,dY h2,cB]
   ·rw[if_neg h2,dC I,g_]
    split<;>rfl
  ·rw[if_neg h1,if_neg I]
   rfl
 have Zq:=Zr.params;refine⟨rfl,rfl,rfl,hlen _,λr _=>?_⟩;show cK _ (Kt u ν k 0 0 r)=(eN (fQ u k) args).getD r 0;rw[T5 hZ];unfold cw;rw[T_ Zr.ok.iM Zr.pos hs.pos wj,jS _ _ I]
 by_cases hr:(r:Int)<(aj9.params.toNat:Nat)
 ·rw[if_pos hr,if_pos I]
  unfold cK;simp only[if_true,dO];rw[jS _ _ I,if_pos I]
 ·rw[if_neg hr,if_neg I]
  rfl
theorem LY(l:List (Nat×Int))(p:Nat×Int)(r:Nat):qu (l++[p]) r=if p.1=r then Z p.2 else qu l r:=by
 induction l with
 |nil=>rfl
 |cons q l ih=>
  rw[aW,rr,ih,rr]
  by_cases h:p.1=r
  ·rw[if_pos h,if_pos h]
  ·rw[if_neg h,if_neg h]
theorem y9{ps:List ep}{F:ep->Int}{r:Nat}(h0:∀p∈ps,0<=p.dst):∀n,n<=ps.length->qu ((ps.take n).map λp=>(p.dst.toNat,F p)) r=(oF ps r n).bind λj=>(ps[j]?).map F
 |0,_=>rfl
 |n+1,hn=>by
  have hp:ps[n]?=Z (ps[n]'I):=a_ I;have zO:ps[n]'I∈ps:=j9 _;generalize ps[n]'I=p at hp zO;have h1:=h0 p zO;rw[cz,hp,mz,bz,bT,dn,LY,y9 h0 n I];have e0:oF ps (r:Int) (n+1)=if (ps[n]?.map (·.dst))=Z (r:Int)then Z n else oF ps (r:Int) n:=rfl
  rw[e0,hp];simp only[bu,b_]
  by_cases e:p.dst=r
  ·rw[if_pos I,if_pos e]
   simp[hp]
  ·rw[if_neg I,if_neg e]
end
end Go.Proofs.YthfhgolkafpmnaaGreatDoor
