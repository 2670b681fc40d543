/- Texts joined: MetR MetS NamedR NamedS KeptR TidyJ TidyK TidyL TidyD NamesT NamesL. -/
import Derived.Test.YthfhgolkafpmnaaGreatDoorGD
import Derived.Test.YthfhgolkafpmnaaGreatDoorGH
import Derived.Test.YthfhgolkafpmnaaGreatDoorHA
import Derived.Test.YthfhgolkafpmnaaGreatDoorHF
import Derived.Test.YthfhgolkafpmnaaGreatDoorHN
import Derived.Test.YthfhgolkafpmnaaGreatDoorIA
import Derived.Test.YthfhgolkafpmnaaGreatDoorID
import Derived.Test.YthfhgolkafpmnaaGreatDoorIE
namespace Go.Proofs.YthfhgolkafpmnaaGreatDoor
section
open Go Go.RowKit
structure iy(bl:List ar)(b t:Nat):Prop where
 blt:b<bl.length
 Ht:t<bl.length
 ne:t≠b
 kind:(a8 bl b).kind=2
 to:(a8 bl b).to=[(t:Int)]
 none:(a8 bl t).aL=[]
 one:bf bl t=[b]
def Sc(bl:List ar)(b t q:Nat):List Int:=if q=t then[]else if q=b then dd bl t else dd bl q
def kK(bl:List ar)(b t c:Nat):List Nat:=(List.range bl.length).filter λq=>decide ((c:Int)∈Sc bl b t q)
def E_(bl:List ar)(b t c:Nat)(p:eC):eC:=⟨p.dst,(kK bl b t c).map λq=>kj bl c p (if q=b then t else q)⟩
def ow(bl:List ar)(b t c:Nat)(B:ar):ar:=
 if c=t then sP else if c=b then⟨B.aL.map (E_ bl b t c),B.list++(a8 bl t).list,(a8 bl t).kind,(a8 bl t).on,(a8 bl t).to⟩else{B with aL:=B.aL.map (E_ bl b t c)}
def eu(bl:List ar)(b t:Nat):List ar:=bl.mapIdx (ow bl b t)
theorem eJ(bl:List ar)(b t:Nat):(eu bl b t).length=bl.length:=by simp[eu]
theorem iV{bl:List ar}{b t c:Nat}{B:ar}(h:bl[c]?=some B):(eu bl b t)[c]?=some (ow bl b t c B):=by
 unfold eu;rw[cM,h]
 rfl
theorem tq{bl:List ar}{b t c:Nat}(h:c<bl.length):a8 (eu bl b t) c=ow bl b t c (a8 bl c):=kO (iV (bK h))
theorem DT(bl:List ar)(b t c:Nat)(B:ar):(ow bl b t c B).to=if c=t then[]else if c=b then(a8 bl t).to else B.to:=by
 unfold ow
 split
 ·rfl
 split<;>rfl
theorem qX(bl:List ar)(b t c:Nat)(B:ar):(ow bl b t c B).aL=if c=t then[]else B.aL.map (E_ bl b t c):=by
 unfold ow
 split
 ·rfl
 split<;>rfl
theorem rJ{bl:List ar}{c:Nat}(h:¬c<bl.length):dd bl c=[]:=by
 unfold dd;rw[bM ag]
section
variable {bl:List ar} {b t:Nat} (hg:cL bl) (hj:iy bl b t)
include hj
theorem uF(c:Nat):dd (eu bl b t) c=Sc bl b t c:=by
 by_cases hc:c<bl.length
 ·rw[lK (by rw[eJ];exact hc),tq hc,DT]
  unfold Sc;rw[lK hj.Ht,lK hc]
 ·rw[rJ (by rw[eJ];exact hc)]
  unfold Sc;rw[if_neg (by have:=hj.Ht;omega),if_neg (by have:=hj.blt;omega),rJ hc]
theorem lS(c:Nat):bf (eu bl b t) c=kK bl b t c:=by
 unfold bf kK;rw[eJ];refine rO λq _=>?_;rw[uF hj]
theorem z7:dd bl b=[(t:Int)]:=by rw[lK hj.blt,hj.to]
theorem Br{q:Nat}(h:(t:Int)∈dd bl q):q=b:=by
 have hq:q<bl.length:=Classical.byContradiction λhq=>by rw[rJ hq]at h;cases h
 have h1:q∈bf bl t:=cI.2 ⟨cQ.2 hq,by simpa using h⟩;rw[hj.one]at h1;exact bU.1 h1
theorem YM:(t:Int)∉dd bl t:=λh=>hj.ne (Br hj h)
theorem jU{c q:Nat}(hc:c≠t):q∈kK bl b t c↔q≠t/\(if q=b then t else q)∈bf bl c:=by
 unfold kK bf;rw[cI,cI,cQ,cQ,decide_eq_true_eq,decide_eq_true_eq];unfold Sc
 by_cases h1:q=t
 ·simp[h1]
 ·rw[if_neg h1]
  by_cases h2:q=b
  ·rw[if_pos h2,if_pos h2]
   have:=hj.Ht;have:=hj.blt;exact⟨λh=>⟨h1,hj.Ht,h.2⟩,λh=>⟨ag,h.2.2⟩⟩
  ·rw[if_neg h2,if_neg h2]
   exact⟨λh=>⟨h1,h⟩,λh=>h.2⟩
theorem pN{c:Nat}(hc:c≠t):b∉bf bl c:=λh=>by
 have h1:=(cI.1 h).2;simp only[decide_eq_true_eq]at h1;rw[z7 hj,bU]at h1;omega
theorem By{c:Nat}(hc:c≠t):(kK bl b t c).length=(bf bl c).length:=by
 have h1:((kK bl b t c).map λq=>if q=b then t else q).Perm (bf bl c):=by
  refine(s5 (lW (List.Nodup.sublist mg rT) λx hx y hy e=>?_) (jH bl c)).2 λx=>?_
  ·have h2:=(jU hj hc).1 hx
   have h3:=(jU hj hc).1 hy
   split at e
   ·split at e
    ·omega
    ·exact absurd e.symm h3.1
   ·split at e
    ·exact absurd e h2.1
    ·exact e
  ·rw[aX]
   constructor
   ·rintro⟨q,hq,rfl⟩
    exact((jU hj hc).1 hq).2
   ·intro hx
    by_cases e:x=t
    ·refine⟨b,(jU hj hc).2 ⟨λe2=>hj.ne e2.symm,by rw[if_pos rfl,<-e];exact hx⟩,by rw[if_pos rfl,e]⟩
    ·have zC:x≠b:=λe2=>pN hj hc (e2▸hx)
     exact⟨x,(jU hj hc).2 ⟨e,by rw[if_neg zC];exact hx⟩,by rw[if_neg zC]⟩
 have:=h1.length_eq;rwa[aG]at this
theorem Q3:kK bl b t t=[]:=by
 unfold kK;refine List.filter_eq_nil_iff.2 λq _=>?_;simp only[decide_eq_true_eq];unfold Sc
 split
 ·simp
 split
 ·exact YM hj
 ·rename_i h1 h2
  exact λh=>h2 (Br hj h)
theorem JE{c q:Nat}(hc:c≠t)(hq:q∈kK bl b t c)(p:eC):kj (eu bl b t) c (E_ bl b t c p) q=kj bl c p (if q=b then t else q):=by
 unfold kj;rw[lS hj];unfold E_;simp only;rw[cz,aK,aB (ju hq),nL]
 rfl
include hg
theorem De:cL (eu bl b t):=λC hC=>by
 obtain⟨c,hc⟩:=br hC;have fv:c<bl.length:=by rw[<-eJ bl b t];exact(aC.1 hc).1
 rw[iV (bK fv)]at hc;obtain rfl:=be hc;rw[DT,eJ]
 split
 ·simp
 split
 ·exact hg _ (aA (bK hj.Ht))
 ·exact hg _ (aA (bK fv))
end
theorem Bc{bl:List ar}{b t:Nat}(hj:iy bl b t)(oh:∀(c:Nat) B,bl[c]?=some B->B.to.Nodup):∀(c:Nat) B,(eu bl b t)[c]?=some B->B.to.Nodup:=λc C hc=>by
 have fv:c<bl.length:=by rw[<-eJ bl b t];exact(aC.1 hc).1
 rw[iV (bK fv)]at hc;obtain rfl:=be hc;rw[DT]
 split
 ·simp
 split
 ·exact oh _ _ (bK hj.Ht)
 ·exact oh _ _ (bK fv)
theorem EL{R:Nat}{bl:List ar}{b t c:Nat}(hf:eX R bl)(hj:iy bl b t)(hc:c≠t)(fv:c<bl.length){p:eC}(hp:p∈(a8 bl c).aL){v:cm}(hv:v∈(E_ bl b t c p).src):v∈p.src:=by
 unfold E_ at hv;obtain⟨q,hq,rfl⟩:=aX.1 hv;exact uD (R:=R) ((hf.block c _ (bK fv)).aL p hp).len ((jU hj hc).1 hq).2
theorem GH{R:Nat}{bl:List ar}{b t:Nat}(hf:eX R bl)(hj:iy bl b t):eX R (eu bl b t):=by
 refine⟨De hf.iM hj,λc C hC=>?_⟩;have fv:c<bl.length:=by rw[<-eJ bl b t];exact(aC.1 hC).1
 have oh:=Bc hj (λb B hB=>(hf.block b B hB).to) c C hC;have hB:=hf.block _ _ (bK fv);have hT:=hf.block _ _ (bK hj.Ht);rw[iV (bK fv)]at hC;obtain rfl:=be hC;refine⟨λp' uj=>?_,λx hx=>?_,?_,oh⟩
 ·rw[qX]at uj
  split at uj
  ·cases uj
  rename_i J_;obtain⟨p,hp,rfl⟩:=aX.1 uj;have AX:=hB.aL p hp;refine⟨AX.dst,by rw[lS hj];simp[E_],λv hv=>AX.tU v (EL hf hj J_ fv hp hv)⟩
 ·unfold ow at hx
  split at hx
  ·cases hx
  split at hx
  ·rcases bL.1 hx with hx|hx
   ·exact hB.list x hx
   ·exact hT.list x hx
  ·exact hB.list x hx
 ·unfold ow
  split
  ·exact λh=>by cases h
  split
  ·exact hT.on
  ·exact hB.on
theorem yd{bl:List ar}{b t:Nat}(hj:iy bl b t):dV (eu bl b t)=dV bl:=by
 rw[vN,vN,eJ];have hs:∀c,c<bl.length->Fb (a8 (eu bl b t) c)=if c=t then 0 else if c=b then Fb (a8 bl b)+Fb (a8 bl t)else Fb (a8 bl c):=λc hc=>by
  rw[tq hc];unfold ow
  split
  ·rfl
  split
  ·rename_i h2
   subst h2;unfold Fb;simp only[aG,bR,hj.none,ql];omega
  ·unfold Fb
   simp
 rw[fw λc hc=>hs c (cQ.1 hc)];have hpt:(List.range bl.length).Perm (t::b::((List.range bl.length).erase t).erase b):=by
  have h1:=List.perm_cons_erase (cQ.2 hj.Ht);have h2:b∈(List.range bl.length).erase t:=(List.mem_erase_of_ne (λe=>hj.ne e.symm)).2 (cQ.2 hj.blt);exact h1.trans ((List.perm_cons_erase h2).cons t)
 rw[(hpt.map _).sum_nat,(hpt.map λc=>Fb (a8 bl c)).sum_nat];simp only[bO,et,if_true];rw[if_neg (λe=>hj.ne e.symm)];have oh:((List.range bl.length).erase t).Nodup:=List.nodup_range.erase t;have h3:∀c∈((List.range bl.length).erase t).erase b,c≠t/\c≠b:=λc hc=>by
  have h4:=(List.Nodup.mem_erase_iff oh).1 hc;have h5:=(List.Nodup.mem_erase_iff rT).1 h4.2;exact⟨h5.1,h4.1⟩
 rw[fw (g:=λc=>Fb (a8 bl c)) λc hc=>by rw[if_neg (h3 c hc).1,if_neg (h3 c hc).2]];omega
structure US(k b t lb:Nat)(f g:k7):Prop where
 fn:g.fn=f.fn
 aF:g.aF=f.aF
 dst:g.dst=f.dst
 place:(f.fn=k/\f.block=t/\g.block=b/\g.at'=lb+f.at')∨(¬(f.fn=k/\f.block=t)/\g.block=f.block/\g.at'=f.at')
def FRj(k b t lb:Nat)(d e:Int)(f g:k7):Prop:=e=d/\US k b t lb f g
theorem US.back{k b t lb:Nat}{f g:k7}(h:US k b t lb f g)(d n:Int):US k b t lb (f.set d n) (g.set d n):=by
 obtain⟨h1,h2,h3,h4⟩:=h;exact⟨h1,by unfold k7.set;simp only[h2],h3,h4⟩
structure acn(u:a7)(k b t lb:Nat)(s s2:js):Prop where
 ok:ij u (s.steps+1) s
 rel:V7 (FRj k b t lb) (US k b t lb) s s2
theorem MV{u:a7}{k:Nat}{bl:List ar}:cZ (pO u k bl).funcs=cZ u.funcs:=by
 refine Dk ?_;apply cf;intro j;rw[aK,aK,rD]
 by_cases e:k=j
 ·simp only[e,if_true]
  cases u.funcs[j]?<;>rfl
 ·simp only[e,if_false]
theorem Dx(u:a7)(k:Nat)(bl:List ar)(j:Nat):e_ (pO u k bl) j=e_ u j:=by
 unfold e_;rw[rD]
 by_cases e:k=j
 ·simp only[e,if_true]
  cases u.funcs[j]?<;>rfl
 ·simp only[e,if_false]
theorem Q4{u:a7}{k:Nat}{X:aZ}(hX:u.funcs[k]?=some X)(bl:List ar)(j:Nat):eP (pO u k bl) j=if k=j then bl else eP u j:=by
 unfold eP;rw[rD]
 by_cases e:k=j
 ·subst e
  simp only[if_true,hX,bz]
  rfl
 ·simp only[e,if_false]
theorem HU(u:a7)(f:k7):ox u f=(eP u f.fn).getD f.block ⟨[],[],1,gK,[]⟩:=by
 unfold ox eP;cases u.funcs[f.fn]? with
 |none=>rfl
 |some X=>rfl
theorem P4{u:a7}{k b t:Nat}{X0:aZ}(hu:iZ u)(hc:iW u)(Y9:u.funcs[k]?=some X0)(hj:iy X0.blocks b t):ZD u (pO u k (eu X0.blocks b t)) 0 1 (acn u k b t (a8 X0.blocks b).list.length):=by
 obtain⟨v,hv⟩:∃v,v=pO u k (eu X0.blocks b t):=⟨_,rfl⟩;rw[<-hv];intro s s2 ⟨cW,hrel⟩;obtain⟨X,R,hf⟩:=cW.bF;obtain⟨B,hB⟩:∃B,X.blocks[s.bF.block]?=some B:=⟨_,aB hf.block⟩;have Ir:=aA hB;have fW:=hf.fit.eo B Ir;have q_:=hc.body X (aA hf.get);obtain⟨hm,hi,ho,kr,r7⟩:=hrel;obtain⟨Cc,E6,VL,TE⟩:=r7;have uM:eP u s.bF.fn=X.blocks:=by unfold eP;rw[hf.get]
 have sM:eP v s.bF.fn=if k=s.bF.fn then eu X.blocks b t else X.blocks:=by
  rw[hv,Q4 Y9,uM]
  by_cases e:k=s.bF.fn
  ·rw[if_pos e,if_pos e]
   have:X0=X:=by rw[e,hf.get]at Y9;exact(be Y9).symm
   rw[this]
  ·rw[if_neg e,if_neg e]
 have hXk:s.bF.fn=k->X0=X:=λe=>by rw[<-e,hf.get]at Y9;exact(be Y9).symm
 have LZ:=qY hf hB;have Kf:=kr.len;obtain⟨C,J6⟩:∃C,ox v s2.bF=C:=⟨_,rfl⟩;have hCb:C=(eP v s.bF.fn).getD s2.bF.block ⟨[],[],1,gK,[]⟩:=by rw[<-J6,HU,Cc]
 have PE:iE v s2=match C.list[s2.bF.at']? with
  |none=>k8 v (tick s2) C
  |some x=>j5 v (jD (tick s2)) x:=by rw[gY,J6];rfl
 have Y5:(s.bF.fn=k/\s.bF.block=t/\s2.bF.block=b/\s2.bF.at'=(a8 X.blocks b).list.length+s.bF.at'/\C.list=(a8 X.blocks b).list++B.list/\C.kind=B.kind/\C.on=B.on/\C.to=B.to)∨
   (s.bF.fn=k/\s.bF.block=b/\s2.bF.block=b/\s2.bF.at'=s.bF.at'/\C.list=B.list++(a8 X.blocks t).list)∨
   (¬(s.bF.fn=k/\s.bF.block=t)/\¬(s.bF.fn=k/\s.bF.block=b)/\s2.bF.block=s.bF.block/\s2.bF.at'=s.bF.at'/\C.list=B.list/\C.kind=B.kind/\C.on=B.on/\C.to=B.to):=by
  rcases TE with⟨h1,h2,h3,h4⟩|⟨h1,h3,h4⟩
  ·have S9:=hXk h1
   subst S9;rw[if_pos h1.symm]at sM;have Vb:a8 X0.blocks t=B:=by rw[<-h2];exact kO hB
   have:C=ow X0.blocks b t b (a8 X0.blocks b):=by rw[hCb,sM,cz,h3,iV (bK hj.blt)];rfl
   unfold ow at this;rw[if_neg (λe=>hj.ne e.symm),if_pos rfl,Vb]at this;exact .inl ⟨h1,h2,h3,h4,by rw[this],by rw[this],by rw[this],by rw[this]⟩
  ·by_cases h5:s.bF.fn=k
   ·have S9:=hXk h5
    subst S9;rw[if_pos h5.symm]at sM;have J_:s.bF.block≠t:=λe=>h1 ⟨h5,e⟩;have:C=ow X0.blocks b t s.bF.block B:=by rw[hCb,sM,cz,h3,iV hB];rfl
    unfold ow at this;rw[if_neg J_]at this
    by_cases h6:s.bF.block=b
    ·rw[if_pos h6]at this
     exact .inr (.inl ⟨h5,h6,by rw[h3,h6],h4,by rw[this]⟩)
    ·rw[if_neg h6]at this
     exact .inr (.inr ⟨h1,λh=>h6 h.2,h3,h4,by rw[this],by rw[this],by rw[this],by rw[this]⟩)
   ·rw[if_neg (λe=>h5 e.symm)]at sM
    have:C=B:=by rw[hCb,sM,cz,h3,hB];rfl
    exact .inr (.inr ⟨h1,λh=>h5 h.1,h3,h4,by rw[this],by rw[this],by rw[this],by rw[this]⟩)
 have hFT:US k b t (a8 X0.blocks b).list.length s.bF s2.bF:=⟨Cc,E6,VL,TE⟩;have oy:∀w:cm,cD s2.bF w=cD s.bF w:=λw=>by unfold cD;rw[E6]
 cases hx:B.list[s.bF.at']? with
 |some x=>
  have qx:iE u s=j5 u (jD (tick s)) x:=by rw[gY,LZ];simp only[hx]
  have oZ:=aA hx;have r8:=(aC.1 hx).1;have C1:C.list[s2.bF.at']?=some x:=by
   rcases Y5 with⟨_,_,_,h4,h5,_⟩|⟨_,_,_,h4,h5⟩|⟨_,_,_,h4,h5,_⟩
   ·rw[h4,h5,dg ag,mf,hx]
   ·rw[h4,h5,dG r8,hx]
   ·rw[h4,h5,hx]
  have mP:iE v s2=j5 v (jD (tick s2)) x:=by rw[PE];simp only[C1]
  obtain⟨_,_,_,ud⟩:=pj (q_.list _ B hB x oZ);have hgt:US k b t (a8 X0.blocks b).list.length (jD (tick s)).bF (jD (tick s2)).bF:=by
   refine⟨Cc,E6,VL,?_⟩;rcases TE with⟨h1,h2,h3,h4⟩|⟨h1,h3,h4⟩
   ·exact .inl ⟨h1,h2,h3,by show s2.bF.at'+1=_+(s.bF.at'+1);omega⟩
   ·exact .inr ⟨h1,h3,by show s2.bF.at'+1=s.bF.at'+1;omega⟩
  have Cd:∀w:cm,cD (jD (tick s2)).bF w=cD (jD (tick s)).bF w:=oy;rcases Eu (u:=u) (v:=v) (s:=jD (tick s)) (t:=jD (tick s2)) (x:=x) (y:=x) rfl rfl (Cd _) (Cd _) (λ_=>fw λw _=>Cd w) hm hi ho Kf ud ud with⟨f,g,e1,e2,ha⟩|⟨tj,e1,e2⟩|⟨tj,mem,cX,out,z,e1,e2⟩
  ·refine⟨λs' gU=>?_,λf' mV=>?_⟩
   ·rw[qx,e1]at gU;cases gU
   ·rw[qx,e1]at mV
    rw[<-Sum.inr.inj mV];exact⟨0,s2,g,ag,ag,rfl,by rw[mP,e2],ha⟩
  ·refine⟨λs' gU=>?_,λf' mV=>?_⟩
   ·have h9:=(jV hu cW gU).1
    rw[qx,e1]at gU;have gU:=Sum.inl.inj gU;refine⟨1,_,ag,ag,.one (by rw[mP,e2]),h9,?_⟩;rw[<-gU,nj,nj,hv,Dx];refine⟨hm,hi,ho,.add kr ⟨rfl,hgt⟩,rfl,rfl,rfl,.inr ⟨?_,rfl,rfl⟩⟩;rintro⟨e4,e5⟩;have e5:(0:Nat)=t:=e5;have h1:t=0:=e5.symm;have e6:=lu.1 ((hc.body X0 (aA Y9)).ends _ (aA (bK hj.blt)));have:=(e6.to t (by rw[hj.to];simp)).1;omega
   ·rw[qx,e1]at mV;cases mV
  ·refine⟨λs' gU=>?_,λf' mV=>?_⟩
   ·have h9:=(jV hu cW gU).1
    rw[qx,e1]at gU;have gU:=Sum.inl.inj gU;refine⟨1,_,ag,ag,.one (by rw[mP,e2]),h9,?_⟩;rw[<-gU];exact⟨rfl,rfl,rfl,kr,hgt.back x.dst z⟩
   ·rw[qx,e1]at mV;cases mV
 |none=>
  have qx:iE u s=k8 u (tick s) B:=by rw[gY,LZ];simp only[hx]
  have r8:=kg.1 hx
  by_cases Iz:s.bF.fn=k/\s.bF.block=b
  ·
   have S9:=hXk Iz.1;subst S9;have RV:a8 X0.blocks b=B:=by rw[<-Iz.2];exact kO hB
   have AQ:B.kind=2:=by rw[<-RV];exact hj.kind
   have jq:B.to=[(t:Int)]:=by rw[<-RV];exact hj.to
   have he:k8 u (tick s) B=.inl (rj u (tick s) (t:Int)):=by
    unfold k8;rw[if_pos AQ,jq]
    rfl
   rw[he]at qx;refine⟨λs' gU=>?_,λf' mV=>by rw[qx]at mV;cases mV⟩;have h9:=(jV hu cW gU).1;rw[qx]at gU;have gU:=Sum.inl.inj gU;refine⟨0,s2,ag,ag,rfl,h9,?_⟩;rw[<-gU,nA];have Cs:eU (eP u s.bF.fn) t=[]:=by rw[uM];unfold eU;rw[bK hj.Ht];exact hj.none
   refine⟨hm,hi,ho,kr,Cc,?_,VL,.inl ⟨Iz.1,dD t,?_,?_⟩⟩
   ·show s2.bF.aF=iD s.bF ((bf (eP u s.bF.fn) (t:Int).toNat).idxOf s.bF.block) (eU (eP u s.bF.fn) (t:Int).toNat)
    rw[dD,Cs];exact E6
   ·rcases Y5 with⟨_,h2,_⟩|⟨_,_,h3,_⟩|⟨_,h2,_⟩
    ·exact absurd (Iz.2.symm.trans h2).symm hj.ne
    ·exact h3
    ·exact absurd Iz h2
   ·show s2.bF.at'=_+0
    have ny:=hf.at' B hB;rw[RV];rcases Y5 with⟨_,h2,_⟩|⟨_,_,_,h4,_⟩|⟨_,h2,_⟩
    ·exact absurd (Iz.2.symm.trans h2).symm hj.ne
    ·omega
    ·exact absurd Iz h2
  have y7:C.list[s2.bF.at']?=none/\C.kind=B.kind/\C.on=B.on/\C.to=B.to:=by
   rcases Y5 with⟨_,_,_,h4,h5,h6,h7,h8⟩|⟨h1,h2,_⟩|⟨_,_,_,h4,h5,h6,h7,h8⟩
   ·refine⟨?_,h6,h7,h8⟩
    rw[h4,h5];refine bM ?_;rw[bR];omega
   ·exact absurd ⟨h1,h2⟩ Iz
   ·exact⟨by rw[h4,h5];exact hx,h6,h7,h8⟩
  obtain⟨x8,hCk,hCo,hCt⟩:=y7;have mP:iE v s2=k8 v (tick s2) C:=by rw[PE];simp only[x8]
  have VP:cD s2.bF C.on=cD s.bF B.on:=by rw[hCo];exact oy _
  by_cases IF:B.kind=2∨B.kind=3
  ·obtain⟨i,iQ,e1,e2⟩:=Be (u:=u) (v:=v) (s:=tick s) (t:=tick s2) (C:=C) IF hCk fW.kind.2 VP
   have PG:=yF (B:=B) iQ;obtain⟨to,T,e,hg⟩:=Io hf hB PG;have IQ:to<X.blocks.length:=(aC.1 hg.get).1;rw[e]at e1;rw[hCt,e]at e2;have abL:(to:Int)∈dd X.blocks s.bF.block:=by rw[fR hB,<-e];exact PG
   have AW:eU (eP u s.bF.fn) to=T.aL:=by rw[uM];unfold eU;rw[hg.get]
   have XG:¬(s.bF.fn=k/\to=t):=λ⟨h1,h2⟩=>by
    have S9:=hXk h1;subst S9;rw[h2]at abL;exact Iz ⟨h1,Br hj abL⟩
   refine⟨λs' gU=>?_,λf' mV=>?_⟩
   ·have h9:=(jV hu cW gU).1
    rw[qx,e1]at gU;have gU:=Sum.inl.inj gU;refine⟨1,_,ag,ag,.one (by rw[mP,e2]),h9,?_⟩;rw[<-gU,nA,nA];refine⟨hm,hi,ho,kr,Cc,?_,VL,.inr ⟨λh=>XG ⟨h.1,by have:=h.2;rw[<-this];exact(dD to).symm⟩,rfl,rfl⟩⟩;show iD s2.bF ((bf (eP v s2.bF.fn) (to:Int).toNat).idxOf s2.bF.block) (eU (eP v s2.bF.fn) (to:Int).toNat)=iD s.bF ((bf (eP u s.bF.fn) (to:Int).toNat).idxOf s.bF.block) (eU (eP u s.bF.fn) (to:Int).toNat);rw[Cc,dD,AW]
    by_cases h5:s.bF.fn=k
    ·have S9:=hXk h5
     subst S9;have J_:to≠t:=λe=>XG ⟨h5,e⟩;rw[if_pos h5.symm]at sM;have XR:eU (eP v s.bF.fn) to=T.aL.map (E_ X0.blocks b t to):=by
      rw[sM];unfold eU;rw[iV hg.get];simp only;rw[qX,if_neg J_]
     rw[XR,sM,uM,lS hj];have hq:s2.bF.block∈kK X0.blocks b t to/\(if s2.bF.block=b then t else s2.bF.block)=s.bF.block:=by
      rcases Y5 with⟨_,h2,h3,_⟩|⟨h1,h2,_⟩|⟨h1,h2,h3,_⟩
      ·refine⟨(jU hj J_).2 ⟨by rw[h3];exact λe=>hj.ne e.symm,?_⟩,by rw[if_pos h3,h2]⟩
       rw[if_pos h3,<-h2];exact hg.mem
      ·exact absurd ⟨h1,h2⟩ Iz
      ·have h6:s2.bF.block≠b:=λe=>h2 ⟨h5,by rw[<-h3];exact e⟩
       refine⟨(jU hj J_).2 ⟨λe=>h1 ⟨h5,by rw[<-h3];exact e⟩,?_⟩,by rw[if_neg h6,h3]⟩;rw[if_neg h6,h3];exact hg.mem
     refine Jm (F:=E_ X0.blocks b t to) E6 (λp _=>rfl) λp _=>?_;have h6:=JE hj J_ hq.1 p;unfold kj at h6;rw[lS hj,hq.2]at h6;exact h6
    ·rw[if_neg (λe=>h5 e.symm)]at sM
     have XR:eU (eP v s.bF.fn) to=T.aL:=by rw[sM];unfold eU;rw[hg.get]
     have wi:s2.bF.block=s.bF.block:=by
      rcases Y5 with⟨h1,_⟩|⟨h1,_⟩|⟨_,_,h3,_⟩
      ·exact absurd h1 h5
      ·exact absurd h1 h5
      ·exact h3
     rw[XR,sM,uM,wi];unfold iD;rw[E6];refine congrArg (λg=>List.foldl g s.bF.aF T.aL) ?_
     funext rs p
     rw[oy]
   ·rw[qx,e1]at mV;cases mV
  ·rcases EO (u:=u) (v:=v) (FR:=FRj k b t (a8 X0.blocks b).list.length) (s:=tick s) (t:=tick s2) (C:=C) (λh=>IF (.inl h)) (λh=>IF (.inr h)) hCk VP ho kr with⟨f,g,e1,e2,ha⟩|⟨l,f,m,g,d1,d2,e1,e2,d3,d4⟩
   ·refine⟨λs' gU=>?_,λf' mV=>?_⟩
    ·rw[qx,e1]at gU;cases gU
    ·rw[qx,e1]at mV
     rw[<-Sum.inr.inj mV];exact⟨0,s2,g,ag,ag,rfl,by rw[mP,e2],ha⟩
   ·refine⟨λs' gU=>?_,λf' mV=>?_⟩
    ·have h9:=(jV hu cW gU).1
     rw[qx,e1]at gU;have gU:=Sum.inl.inj gU;refine⟨1,_,ag,ag,.one (by rw[mP,e2]),h9,?_⟩;rw[<-gU];refine⟨hm,hi,ho,d3,?_⟩;show US k b t _ (f.set s.bF.dst (cD s.bF B.on)) (g.set s2.bF.dst (cD s.bF B.on));rw[VL];exact d4.2.back _ _
    ·rw[qx,e1]at mV;cases mV
theorem Ms{u:a7}(hc:iW u){k b t:Nat}{X:aZ}(hX:u.funcs[k]?=some X)(hj:iy X.blocks b t):zl u.funcs X (qO X (eu X.blocks b t)):=by
 have hs:=zl.same hc hX;have hb:=hs.body;obtain⟨R,OB,hR,hf⟩:=pz (fz.2 hc) hX;have hg:=hf.iM;have oh:∀(b:Nat) B,X.blocks[b]?=some B->B.to.Nodup:=λb B hB=>(hf.block b B hB).to;have Ka:∀c,c<X.blocks.length->NP X.blocks.length X.aF (a8 X.blocks c):=λc fv=>lu.1 (hb.ends _ (aA (bK fv)));have jS:∀(c:Nat) C,(eu X.blocks b t)[c]?=some C->c<X.blocks.length/\C=ow X.blocks b t c (a8 X.blocks c):=λc C hC=>by
  have fv:c<X.blocks.length:=by rw[<-eJ X.blocks b t];exact(aC.1 hC).1
  rw[iV (bK fv)]at hC;exact⟨fv,(be hC).symm⟩
 refine⟨rfl,rfl,hs.aF,?_,?_,?_,?_,?_⟩
 ·show 1<=(eu X.blocks b t).length/\(eu X.blocks b t).length<=40
  rw[eJ];exact hs.many
 ·show fQ (eu X.blocks b t)<=300
  rw[<-al,yd hj,al];exact hs.size
 ·intro C hC
  have hC:C∈eu X.blocks b t:=hC;show j8 (eu X.blocks b t).length X.aF C=0;rw[eJ];obtain⟨c,Gd⟩:=br hC;obtain⟨fv,rfl⟩:=jS c C Gd;refine lu.2 ?_;unfold ow
  split
  ·exact⟨⟨by simp[sP],by simp[sP]⟩,by simp[sP],by simp[sP],λh=>by simp[sP]at h,λh=>by simp[sP]at h,rfl⟩
  split
  ·have h:=Ka t hj.Ht
   exact⟨h.kind,h.len,h.to,h.two,h.one,h.on⟩
  ·have h:=Ka c fv
   exact⟨h.kind,h.len,h.to,h.two,h.one,h.on⟩
 ·intro c C hC p' uj
  obtain⟨fv,rfl⟩:=jS c C hC;rw[qX]at uj
  split at uj
  ·cases uj
  rename_i J_;obtain⟨p,hp,rfl⟩:=aX.1 uj;have h0:=hb.aL c _ (bK fv) p hp;unfold lQ at h0⊢;obtain⟨h1,h2,h3,h4⟩:=tH.1 h0;show w9 X.aF c ((bm (eu X.blocks b t))[c]?.getD []).length (E_ X.blocks b t c p)=0;rw[gm (De hg hj) (Bc hj oh) (by rw[eJ];exact fv)];refine tH.2 ⟨h1,h2,?_,λw hw=>h4 w (EL hf hj J_ fv hp hw)⟩;rw[dF,aG,lS hj];simp[E_]
 ·intro c C hC x hx
  obtain⟨fv,rfl⟩:=jS c C hC;show dK u.funcs X.aF x=0;unfold ow at hx
  split at hx
  ·cases hx
  split at hx
  ·rcases bL.1 hx with hx|hx
   ·exact hb.list c _ (bK fv) x hx
   ·exact hb.list t _ (bK hj.Ht) x hx
  ·exact hb.list c _ (bK fv) x hx
theorem IW{u:a7}(h:Whole u){k b t:Nat}{X:aZ}(hX:u.funcs[k]?=some X)(hj:iy X.blocks b t):Whole (pO u k (eu X.blocks b t))/\kz u (pO u k (eu X.blocks b t)):=by
 have adR:∀Y∈(pO u k (eu X.blocks b t)).funcs,Y∈u.funcs∨Y=qO X (eu X.blocks b t):=λY hY=>by
  obtain⟨i,hi⟩:=br hY;rw[rD]at hi
  by_cases e:k=i
  ·subst e
   rw[if_pos rfl,hX]at hi;exact .inr (be hi).symm
  ·rw[if_neg e]at hi
   exact .inl (aA hi)
 refine⟨⟨xJ h.ok rfl (List.length_modify _ _ _) λi Z Y hZ hY=>?_,λY hY C hC=>?_,h.J4⟩,λcX f m mO h1 hm=>?_⟩
 ·rw[rD]at hY
  by_cases e:k=i
  ·subst e
   rw[hX]at hZ;obtain rfl:=be hZ;rw[if_pos rfl,hX]at hY;obtain rfl:=be hY;exact Ms h.ok hX hj
  ·rw[if_neg e,hZ]at hY
   obtain rfl:=be hY;exact zl.same h.ok hZ
 ·obtain⟨R,_,_,hf⟩:=pz (fz.2 h.ok) hX
  have h0:=h.ry X (aA hX);rcases adR Y hY with hY|rfl
  ·exact h.ry Y hY C hC
  ·have hC:C∈eu X.blocks b t:=hC
   obtain⟨c,hc⟩:=br hC;have fv:c<X.blocks.length:=by rw[<-eJ X.blocks b t];exact(aC.1 hc).1
   rw[iV (bK fv)]at hc;obtain rfl:=be hc;have hB:=h0 _ (aA (bK fv));have hT:=h0 _ (aA (bK hj.Ht));refine⟨?_,λq hq v hv=>?_,λx hx=>?_⟩
   ·unfold ow
    split
    ·exact⟨by simp[sP],by simp[sP]⟩
    split
    ·exact hT.on
    ·exact hB.on
   ·rw[qX]at hq
    split at hq
    ·cases hq
    rename_i J_;obtain⟨p,hp,rfl⟩:=aX.1 hq;exact hB.aL p hp v (EL hf hj J_ fv hp hv)
   ·unfold ow at hx
    split at hx
    ·cases hx
    split at hx
    ·rcases bL.1 hx with hx|hx
     ·exact hB.list x hx
     ·exact hT.list x hx
    ·exact hB.list x hx
 ·have e1:∀v:a7,iU v cX=⟨se v.globals,cX,[],0,[],⟨(cZ v.funcs).toNat,0,0,List.replicate (e_ v (cZ v.funcs).toNat) 0,-1⟩,bump (v.funcs.map λX=>List.replicate X.blocks.length 0) (cZ v.funcs).toNat 0⟩:=λ_=>rfl
  have Kt:(0:Nat)≠t:=λe=>by
   have e6:=lu.1 ((h.ok.body X (aA hX)).ends _ (aA (bK hj.blt)));have:=(e6.to t (by rw[hj.to];simp)).1;omega
  obtain⟨h2,i,j,h3,h4,h5,h6⟩:=KZ (P4 h.fit h.ok hX hj) f (iU u cX) (iU (pO u k (eu X.blocks b t)) cX) m ⟨tS h.fit h.start mO,by
   rw[e1,e1,MV,Dx];exact⟨rfl,rfl,rfl,.nil _ _,rfl,rfl,rfl,.inr ⟨λe=>Kt e.2,rfl,rfl⟩⟩⟩ h1 ag
  refine⟨h2,?_⟩;have e2:(iU u cX).steps=0:=rfl;have e3:(iU (pO u k (eu X.blocks b t)) cX).steps=0:=rfl;unfold cg;omega
def qE(bl:List ar):Prop:=∀B∈bl,(B.kind=1∨B.kind=2∨B.kind=3)/\(B.to.length:Int)=B.kind-1
def oz(bl:List ar)(b:Nat):Nat:=((a8 bl b).to.getD 0 0).toNat
def mi(bl:List ar)(b:Nat):Option Nat:=
 if (a8 bl b).kind=2/\oz bl b≠b/\(a8 bl (oz bl b)).aL=[]/\(bf bl (oz bl b)).length<=1 then some (oz bl b)else none
theorem vt{bl:List ar}{b:Nat}(h:¬b<bl.length):a8 bl b=sP:=by unfold a8;rw[bM ag];rfl
theorem Kz{bl:List ar}(hk:qE bl)(hg:cL bl){b:Nat}(h:(a8 bl b).kind=2):b<bl.length/\(a8 bl b).to=[((oz bl b:Nat):Int)]/\oz bl b<bl.length:=by
 have hb:b<bl.length:=Classical.byContradiction λhb=>by rw[vt hb]at h;simp[sP]at h
 have h1:=(hk _ (aA (bK hb))).2;rw[h]at h1;have h3:=(hg _ (aA (bK hb))).2;unfold oz
 match jq:(a8 bl b).to with
 |[]=>rw[jq]at h1;simp at h1
 |[t]=>
  have:=h3 t (by rw[jq];simp);refine⟨hb,?_,?_⟩
  ·simp only[List.getD_cons_zero]
   rw[Int.toNat_of_nonneg this.1]
  ·simp only[List.getD_cons_zero]
   omega
 |_::_::_=>rw[jq]at h1;simp at h1;omega
theorem ng{bl:List ar}(hk:qE bl)(hg:cL bl){b t:Nat}:mi bl b=some t↔iy bl b t:=by
 unfold mi;constructor
 ·intro h
  split at h
  ·rename_i h1
   obtain⟨h1,h2,h3,h4⟩:=h1;obtain⟨h5,h6,h7⟩:=Kz hk hg h1;obtain rfl:=be h;refine⟨h5,h7,h2,h1,h6,h3,?_⟩;have hm:b∈bf bl (oz bl b):=cI.2 ⟨cQ.2 h5,by simp only[decide_eq_true_eq];rw[lK h5,h6];simp⟩
   match hp:bf bl (oz bl b)with
   |[]=>rw[hp]at hm;cases hm
   |[a]=>rw[hp]at hm;rw[bU.1 hm]
   |_::_::_=>rw[hp]at h4;simp at h4
  ·cases h
 ·intro h
  have e:oz bl b=t:=by unfold oz;rw[h.to];simp
  rw[e,if_pos ⟨h.kind,h.ne,h.none,by rw[h.one];simp⟩]
theorem Mt{bl:List ar}{b t:Nat}(hk:qE bl)(hj:iy bl b t):qE (eu bl b t):=λC hC=>by
 obtain⟨c,hc⟩:=br hC;have fv:c<bl.length:=by rw[<-eJ bl b t];exact(aC.1 hc).1
 rw[iV (bK fv)]at hc;obtain rfl:=be hc;have h1:=hk _ (aA (bK fv));have h2:=hk _ (aA (bK hj.Ht));unfold ow
 split
 ·simp[sP]
 split
 ·exact h2
 ·exact h1
def Ix(bl:List ar):Nat:=((List.range bl.length).filter λc=>!(bf bl c).isEmpty).length
theorem uh{bl:List ar}{b t:Nat}(hj:iy bl b t):Ix (eu bl b t)+1=Ix bl:=by
 unfold Ix;rw[eJ];have h1:(List.range bl.length).filter (λc=>!(bf (eu bl b t) c).isEmpty)=((List.range bl.length).filter λc=>!(bf bl c).isEmpty).erase t:=by
  rw[List.Nodup.erase_eq_filter (List.nodup_range.sublist mg),List.filter_filter];refine rO λc _=>?_;rw[lS hj]
  by_cases e:c=t
  ·subst e
   rw[Q3 hj];simp
  ·have h2:=By hj e
   have h3:(kK bl b t c).isEmpty=(bf bl c).isEmpty:=by
    cases h4:kK bl b t c with
    |nil=>rw[h4]at h2;cases h5:bf bl c with
     |nil=>rfl
     |cons _ _=>rw[h5]at h2;simp at h2
    |cons _ _=>rw[h4]at h2;cases h5:bf bl c with
     |nil=>rw[h5]at h2;simp at h2
     |cons _ _=>rfl
   rw[h3];simp[e]
 rw[h1];have hm:t∈(List.range bl.length).filter λc=>!(bf bl c).isEmpty:=cI.2 ⟨cQ.2 hj.Ht,by rw[hj.one];rfl⟩;rw[List.length_erase_of_mem hm];have:=List.length_pos_of_mem hm;omega
def DY:Nat->List ar->Nat->List ar
 |0,bl,_=>bl
 |f+1,bl,b=>match mi bl b with
  |some t=>DY f (eu bl b t) b
  |none=>bl
theorem yP(f:Nat)(bl:List ar)(b:Nat):DY (f+1) bl b=match mi bl b with
  |some t=>DY f (eu bl b t) b
  |none=>bl:=rfl
def kP(bl:List ar)(b:Nat):List ar:=DY (Ix bl) bl b
def j0(bl:List ar)(i:Nat):List ar:=(List.range i).foldl kP bl
def fx(bl:List ar):List ar:=j0 bl bl.length
theorem u2(bl:List ar)(i:Nat):j0 bl (i+1)=kP (j0 bl i) i:=by unfold j0;rw[kA,nJ];rfl
structure sR(R:Nat)(bl:List ar):Prop where
 ok:eX R bl
 kind:qE bl
theorem sR.join{R:Nat}{bl:List ar}{b t:Nat}(h:sR R bl)(hj:iy bl b t):sR R (eu bl b t):=⟨GH h.ok hj,Mt h.kind hj⟩
theorem wC{R:Nat}{bl:List ar}{b t:Nat}(h:sR R bl)(hc:mi bl b=some t):kP bl b=kP (eu bl b t) b:=by
 have hj:=(ng h.kind h.ok.iM).1 hc;have h1:=uh hj;unfold kP;rw[<-h1];rw[yP,hc]
theorem kQ{bl:List ar}{b:Nat}(hc:mi bl b=none):kP bl b=bl:=by
 unfold kP;cases Ix bl with
 |zero=>rfl
 |succ n=>rw[yP,hc]
inductive ll:List ar->List ar->Prop
 |refl (a:List ar):ll a a
 |head {a c:List ar} {b t:Nat}:iy a b t->ll (eu a b t) c->ll a c
theorem ll.trans{a b c:List ar}(h:ll a b)(k:ll b c):ll a c:=by
 induction h with
 |refl=>exact k
 |head h1 _ ih=>exact .head h1 (ih k)
theorem ll.inv{p:List ar->Prop}(hp:∀a b t,iy a b t->p a->p (eu a b t)){a c:List ar}(h:ll a c)(ha:p a):p c:=by
 induction h with
 |refl=>exact ha
 |head h1 _ ih=>exact ih (hp _ _ _ h1 ha)
theorem ll.ok{R:Nat}{a c:List ar}(h:ll a c)(ha:sR R a):sR R c:=h.inv (λ_ _ _ hj h=>h.join hj) ha
theorem ll.len{a c:List ar}(h:ll a c):c.length=a.length:=h.inv (p:=λx=>x.length=a.length) (λ_ _ _ _ h=>by rw[eJ];exact h) rfl
theorem ll.many{a c:List ar}(h:ll a c):dV c=dV a:=h.inv (p:=λx=>dV x=dV a) (λ_ _ _ hj h=>by rw[yd hj];exact h) rfl
theorem Ch{R:Nat}:∀(n:Nat) (bl:List ar) (b:Nat),Ix bl=n->sR R bl->ll bl (kP bl b)/\mi (kP bl b) b=none:=by
 intro n
 induction n with
 |zero=>
  intro bl b hn h;cases hc:mi bl b with
  |none=>rw[kQ hc];exact⟨.refl _,hc⟩
  |some t=>
   have:=uh ((ng h.kind h.ok.iM).1 hc);omega
 |succ n ih=>
  intro bl b hn h;cases hc:mi bl b with
  |none=>rw[kQ hc];exact⟨.refl _,hc⟩
  |some t=>
   have hj:=(ng h.kind h.ok.iM).1 hc;have h1:=uh hj;rw[wC h hc];obtain⟨h2,h3⟩:=ih (eu bl b t) b ag (h.join hj);exact⟨.head hj h2,h3⟩
theorem HW{R:Nat}{bl:List ar}{b t c:Nat}(h:sR R bl)(hj:iy bl b t)(hc:mi bl c=none):mi (eu bl b t) c=none:=by
 cases hn:mi (eu bl b t) c with
 |none=>rfl
 |some d=>
  exfalso;have h2:=h.join hj;have hd:=(ng h2.kind h2.ok.iM).1 hn;have fv:c<bl.length:=by have:=hd.blt;rwa[eJ]at this
  have IC:d<bl.length:=by have:=hd.Ht;rwa[eJ]at this
  have J_:c≠t:=λe=>by
   have:=hd.kind;rw[tq fv,e]at this;unfold ow at this;rw[if_pos rfl]at this;simp[sP]at this
  have Cm:c≠b:=λe=>by
   rw[e]at hc;have:=(ng h.kind h.ok.iM).2 hj;rw[hc]at this;cases this
  have hB:ow bl b t c (a8 bl c)={a8 bl c with aL:=(a8 bl c).aL.map (E_ bl b t c)}:=by
   unfold ow;rw[if_neg J_,if_neg Cm]
  have hk:=hd.kind;have jq:=hd.to;rw[tq fv,hB]at hk jq;simp only at hk jq;have hdt:d≠t:=λe=>by
   rw[e]at jq;exact Cm (Br hj (by rw[lK fv,jq];simp))
  have qu:=hd.none;rw[tq IC,qX,if_neg hdt,List.map_eq_nil_iff]at qu;have AV:=hd.one;rw[lS hj]at AV;have hlen:=By hj hdt;rw[AV]at hlen;have:mi bl c=some d:=(ng h.kind h.ok.iM).2 ⟨fv,IC,hd.ne,hk,jq,qu,by
   have hm:c∈bf bl d:=cI.2 ⟨cQ.2 fv,by simp only[decide_eq_true_eq];rw[lK fv,jq];simp⟩
   match hp:bf bl d with
   |[]=>rw[hp]at hm;cases hm
   |[a]=>rw[hp]at hm;rw[bU.1 hm]
   |_::_::_=>rw[hp]at hlen;simp at hlen⟩
  rw[hc]at this;cases this
theorem s7{R:Nat}{bl:List ar}(h:sR R bl):∀i,ll bl (j0 bl i)/\∀c,c<i->mi (j0 bl i) c=none:=by
 intro i
 induction i with
 |zero=>exact⟨.refl _,λc hc=>ag⟩
 |succ i ih=>
  obtain⟨h1,h2⟩:=ih;have cW:=h1.ok h;obtain⟨h3,h4⟩:=Ch _ (j0 bl i) i rfl cW;rw[u2];refine⟨h1.trans h3,λc hc=>?_⟩
  by_cases e:c=i
  ·rw[e];exact h4
  ·have:sR R (kP (j0 bl i) i)/\mi (kP (j0 bl i) i) c=none:=h3.inv (p:=λx=>sR R x/\mi x c=none) (λa b t hj hp=>⟨hp.1.join hj,HW hp.1 hj hp.2⟩) ⟨cW,h2 c ag⟩
   exact this.2
theorem u1{R:Nat}{bl:List ar}(h:sR R bl):ll bl (fx bl)/\∀c,mi (fx bl) c=none:=by
 obtain⟨h1,h2⟩:=s7 h bl.length;refine⟨h1,λc=>?_⟩
 by_cases hc:c<bl.length
 ·exact h2 c hc
 ·unfold mi
  rw[if_neg];intro h3;have:=h3.1;unfold fx at this;rw[vt (by rw[h1.len];exact hc)]at this;simp[sP]at this
theorem GI{a b:List ar}(hc:ll a b):∀{u:a7} {k:Nat} {X:aZ},Whole u->u.funcs[k]?=some X->X.blocks=a->Whole (pO u k b)/\kz u (pO u k b):=by
 induction hc with
 |refl a=>
  intro u k X h hX e;have:pO u k a=u:=by
   unfold pO;congr 1;apply cf;intro j;rw[lG]
   by_cases ej:k=j
   ·subst ej
    rw[hX];simp only[if_true,Option.map_eq_map,bz];unfold qO;rw[<-e]
   ·simp only[ej,if_false,id_map']
  rw[this];exact⟨h,.refl _⟩
 |@head a c b' t' h1 h2 ih=>
  intro u k X h hX e;subst e;obtain⟨h3,h4⟩:=IW h hX h1;have hX':(pO u k (eu X.blocks b' t')).funcs[k]?=some (qO X (eu X.blocks b' t')):=by rw[rD,if_pos rfl,hX];rfl
  obtain⟨h5,h6⟩:=ih h3 hX' rfl;have:pO (pO u k (eu X.blocks b' t')) k c=pO u k c:=by
   unfold pO;simp only;rw[Ja]
   rfl
  rw[this]at h5 h6;exact⟨h5,h4.trans h6⟩
theorem Ex{u v:a7}(h:Whole u)(hg:v.globals=u.globals)(hl:v.funcs.length=u.funcs.length)(hf:∀(k:Nat) X Y,u.funcs[k]?=some X->v.funcs[k]?=some Y->∃bl,Y=qO X bl/\ll X.blocks bl):Whole v/\kz u v:=by
 have key:∀n,n<=u.funcs.length->Whole {u with funcs:=v.funcs.take n++u.funcs.drop n}/\kz u {u with funcs:=v.funcs.take n++u.funcs.drop n}:=by
  intro n
  induction n with
  |zero=>
   intro _;simp only[List.take_zero,aT,List.drop_zero];exact⟨h,.refl _⟩
  |succ n ih=>
   intro hn;obtain⟨h1,h2⟩:=ih ag;have hX:u.funcs[n]?=some u.funcs[n]:=aB ag;have hY:v.funcs[n]?=some (v.funcs[n]'ag):=aB _;obtain⟨bl,iR,adg⟩:=hf n _ _ hX hY;have bT:(v.funcs.take n).length=n:=by rw[cU,hl];omega
   have hX2:(v.funcs.take n++u.funcs.drop n)[n]?=some u.funcs[n]:=by
    rw[dg ag,bT,dq,g_,dL];exact hX
   obtain⟨h3,h4⟩:=GI adg (u:={u with funcs:=v.funcs.take n++u.funcs.drop n}) (k:=n) h1 hX2 rfl;have:pO {u with funcs:=v.funcs.take n++u.funcs.drop n} n bl={u with funcs:=v.funcs.take (n+1)++u.funcs.drop (n+1)}:=by
    unfold pO;simp only;congr 1;apply cf;intro j;rw[lG];rcases Nat.lt_trichotomy j n with hj|hj|hj
    ·simp only[show¬n=j by omega,if_false,id_map']
     rw[dG ag,dG (by rw[cU,hl];omega),wB hj,wB ag]
    ·subst hj
     rw[hX2,dG (by rw[cU,hl];omega),wB ag,hY];simp only[if_true,Option.map_eq_map,bz];rw[<-iR]
    ·simp only[show¬n=j by omega,if_false,id_map']
     rw[dg ag,dg (by rw[cU,hl];omega),bT,cU,hl,iA hn,g_,g_];congr 1;omega
   rw[this]at h3 h4;exact⟨h3,h2.trans h4⟩
 have:=key u.funcs.length (bH _);rw[jw (by rw[hl];exact bH _),iH,cq,<-hg]at this;exact this
def qh(bl:List ar):Prop:=∀q,∀t∈dd bl q,1<=t
def Ac(bl:List ar):Prop:=∀q,dd bl q≠[]->gD bl (-1) 0 q
theorem iy.pos{bl:List ar}{b t:Nat}(hj:iy bl b t)(hp:qh bl):t≠0:=by
 have:=hp b t (by rw[z7 hj];simp);omega
theorem Q0{bl:List ar}{b t:Nat}(hj:iy bl b t)(hp:qh bl):qh (eu bl b t):=λq x hx=>by
 rw[uF hj]at hx;unfold Sc at hx
 split at hx
 ·cases hx
 split at hx
 ·exact hp _ x hx
 ·exact hp _ x hx
theorem Q8{bl:List ar}{b t:Nat}(hj:iy bl b t)(hp:qh bl){q:Nat}(h:gD bl (-1) 0 q):gD (eu bl b t) (-1) 0 (if q=t then b else q):=by
 have h0:=hj.pos hp
 induction h with
 |refl=>rw[if_neg (λe=>h0 e.symm)];exact .refl
 |@step x y _ he hw ih=>
  have he:(y:Int)∈dd bl x:=he
  by_cases hy:y=t
  ·subst hy
   have hx:=Br hj he;subst hx;rw[if_pos rfl];rw[if_neg (λe=>hj.ne e.symm)]at ih;exact ih
  ·rw[if_neg hy]
   refine ih.step ?_ hw;show(y:Int)∈dd (eu bl b t) _;rw[uF hj];unfold Sc
   by_cases hx:x=t
   ·rw[if_pos hx,if_neg (λe=>hj.ne e.symm),if_pos rfl,<-hx]
    exact he
   ·rw[if_neg hx,if_neg hx]
    by_cases hb:x=b
    ·rw[hb,z7 hj,bU]at he
     omega
    ·rw[if_neg hb];exact he
theorem Lu{bl:List ar}{b t:Nat}(hj:iy bl b t)(hp:qh bl)(h:Ac bl):Ac (eu bl b t):=λq hq=>by
 rw[uF hj]at hq;unfold Sc at hq
 by_cases h1:q=t
 ·rw[if_pos h1]at hq;exact absurd rfl hq
 rw[if_neg h1]at hq;have h2:gD bl (-1) 0 q:=by
  by_cases hb:q=b
  ·exact h q (by rw[hb,z7 hj];simp)
  ·rw[if_neg hb]at hq
   exact h q hq
 have:=Q8 hj hp h2;rwa[if_neg h1]at this
theorem Lv{bl:List ar}(hg:cL bl)(h0:0<bl.length):Ac (cY bl (ch bl)):=λq hq=>by
 have hk:=j7 hg h0;obtain⟨hp,_⟩:=pe hg h0;have Nz:=ur hg hk;have Me:0<(cY bl (ch bl)).length:=by rw[dU];exact hp
 have Cb:q<(cY bl (ch bl)).length:=Classical.byContradiction λhn=>hq (rJ hn);refine((su Nz Me).mem q).1 ?_;rw[Bu hg h0];rw[dU]at Cb;exact cQ.2 Cb
theorem Q1{bl:List ar}{o:List Nat}(hg:cL bl)(hk:HO bl o)(hz:nth o 0=0)(hp:qh bl):qh (cY bl o):=λq t ht=>by
 have Cb:q<o.length:=Classical.byContradiction λhn=>by
  rw[rJ (by rw[dU];exact hn)]at ht;cases ht
 rw[rI hg hk (gB Cb)]at ht;obtain⟨x,hx,rfl⟩:=aX.1 ht;have h1:=hp _ x hx;have h2:=qB (hk.closed _ (jT Cb) x hx);have h3:o.idxOf x.toNat≠0:=λe=>by
  rw[e,hz]at h2;omega
 omega
theorem Di{bl:List ar}{o:List Nat}(hk:HO bl o)(h:qE bl):qE (cY bl o):=λC hC=>by
 unfold cY at hC;obtain⟨b,hb,rfl⟩:=aX.1 hC;have:=h _ (aA (bK (hk.lt b hb)));unfold jf;simp only[aG];exact this
def lZ(X:aZ):aZ:=gR (qO X (fx (ew X)))
noncomputable def sL(u:a7):a7:={u with funcs:=u.funcs.map lZ}
def Kx(u:a7):a7:={u with funcs:=u.funcs.map λX=>qO X (ew X)}
def wD(u:a7):a7:={u with funcs:=u.funcs.map λX=>qO X (fx X.blocks)}
theorem yC(u:a7)(k:Nat):(sL u).funcs[k]?=(u.funcs[k]?).map lZ:=by unfold sL;simp only[aK]
theorem RB(u:a7):sL u=Bk (wD (Kx u)):=by
 unfold sL Bk wD Kx;simp only[eS]
 rfl
theorem kw.ach{X:aZ}{R:Nat}(h:kw X R):∀B∈X.blocks,∀x∈B.list,(x.a∈gI x∨x.a=gK)/\(x.b∈gI x∨x.b=gK)/\∀v∈x.args,v∈gI x:=λB hB x hx=>by
 obtain⟨fs,h1⟩:=h.Nr B hB x hx;obtain⟨h2,h3,h4,_⟩:=pj h1;refine⟨h2,h3,λv hv=>?_⟩;obtain⟨b,hb⟩:=br hB
 by_cases tj:x.op=20
 ·rw[<-h4 tj];exact hv
 ·rw[((h.ok.block b B hb).list x hx).args tj]at hv
  cases hv
theorem Dh:∀X R,kw X R->Sj X (qO X (ew X)) (ch X.blocks) (eZ X.aF.toNat)/\(eZ X.aF.toNat).length<=R/\(qO X (ew X)).name=X.name/\(qO X (ew X)).params=X.params:=λX R h=>by
 have hk:=j7 h.ok.iM h.pos;have x3:=kH h.ok hk;have Pv:=h.aF;have qJ:=h.par;have mO:∀B∈cY X.blocks (ch X.blocks),∀r,r∈pR B∨r∈tQ B->r∈eZ X.aF.toNat:=λB hB r hr=>by
  have:=uC x3 hB hr;exact mD.2 ag
 refine⟨⟨hk,pe h.ok.iM h.pos,?_,?_,?_,mO,λr hr=>?_⟩,by rw[rz];omega,rfl,rfl⟩
 ·show ew X=(cY X.blocks (ch X.blocks)).map _
  conv=>lhs;unfold ew;rw[<-nM (cY X.blocks (ch X.blocks))]
  refine fw λB hB=>(Q_ (mO B hB) ?_).symm;unfold cY at hB;obtain⟨b,hb,rfl⟩:=aX.1 hB;show∀x∈(a8 X.blocks b).list,_;exact h.ach _ (aA (bK (hk.lt b hb)))
 ·show X.aF=_
  rw[rz];omega
 ·have:∀m n,m<=n->eZ m<+:eZ n:=λm n hmn=>by
   unfold eZ;obtain⟨d,rfl⟩:∃d,n=m+d:=⟨n-m,ag⟩;rw[List.range_add,bB];exact List.prefix_append _ _
  exact this _ _ ag
 ·have:=mD.1 hr
  omega
theorem yh{u v:a7}{o:Nat->List Nat}{L:Nat->List Int}(hu:Whole u)(hn:NmU u v o L):kz u v:=λcX f m mO h1 hm=>by
 obtain⟨h2,h3⟩:=T8 hu hn cX mO f;have h4:cg v cX m=cg v cX f:=xg v f m _ (by have:=h2.state;unfold cg at this h1;rw[this];exact h1) hm;rw[h4];exact⟨h2,ag⟩
theorem zN{u:a7}(hc:iW u){k:Nat}{X:aZ}(hX:u.funcs[k]?=some X):qE X.blocks/\qh X.blocks:=by
 have hb:=(zl.same hc hX).body;refine⟨λB hB=>?_,λq t ht=>?_⟩
 ·have h:=lu.1 (hb.ends B hB)
  exact⟨by have:=h.kind;omega,h.len⟩
 ·unfold dd at ht
  split at ht
  ·rename_i B hB
   exact((lu.1 (hb.ends B (aA hB))).to t ht).1
  ·cases ht
theorem Ci{u:a7}(hu:Whole u):Whole (wD u)/\kz u (wD u):=
 Ex hu rfl (aG _) λk X Y hX hY=>by
  unfold wD at hY;simp only[aK,hX,bz]at hY;obtain⟨R,h⟩:=yU hu.ok hX;exact⟨_,(be hY).symm,(u1 ⟨h.ok,(zN hu.ok hX).1⟩).1⟩
theorem GK{u:a7}(hu:Whole u):Whole (Kx u)/\kz u (Kx u):=
 ⟨G1 hu (λX=>qO X (ew X)) _ _ Dh,yh hu (EF hu.ok (λX=>qO X (ew X)) _ _ Dh)⟩
theorem oe{u:a7}(hu:Whole u):Whole (sL u)/\kz u (sL u):=by
 obtain⟨h1,h2⟩:=GK hu;obtain⟨h3,h4⟩:=Ci h1;rw[RB];exact⟨w6 h3,(h2.trans h4).trans (yh h3 (EF h3.ok gR _ _ vQ))⟩
structure wx(X:aZ)(R:Nat):Prop where
 mid:kw (qO X (fx (ew X))) R
 bl:sR R (fx (ew X))
 none:∀c,mi (fx (ew X)) c=none
 all:Ac (fx (ew X))
 len:(fx (ew X)).length<=X.blocks.length
 many:dV (fx (ew X))<=dV X.blocks
theorem IX{Q:en->Prop}{a c:List ar}(h:ll a c)(ha:∀B∈a,∀x∈B.list,Q x):∀B∈c,∀x∈B.list,Q x:=
 h.inv (p:=λl=>∀B∈l,∀x∈B.list,Q x) (λl b t hj hl C hC x hx=>by
  obtain⟨y,hy⟩:=br hC;have Cw:y<l.length:=by rw[<-eJ l b t];exact(aC.1 hy).1
  rw[iV (bK Cw)]at hy;obtain rfl:=be hy;unfold ow at hx
  split at hx
  ·cases hx
  split at hx
  ·rcases bL.1 hx with hx|hx
   ·exact hl _ (aA (bK Cw)) x hx
   ·exact hl _ (aA (bK hj.Ht)) x hx
  ·exact hl _ (aA (bK Cw)) x hx) ha
theorem Mw{Q:en->Prop}{l:List ar}{o:List Nat}(hk:HO l o)(ha:∀B∈l,∀x∈B.list,Q x):∀B∈cY l o,∀x∈B.list,Q x:=λB hB x hx=>by
 unfold cY at hB;obtain⟨b,hb,rfl⟩:=aX.1 hB;exact ha _ (aA (bK (hk.lt b hb))) x hx
theorem ET{u:a7}(hc:iW u){k:Nat}{X:aZ}(hX:u.funcs[k]?=some X):∃R,kw X R/\wx X R:=by
 obtain⟨R,h⟩:=yU hc hX;have hk:=j7 h.ok.iM h.pos;obtain⟨E9,Ml⟩:=pe h.ok.iM h.pos;obtain⟨Ej,wV⟩:=zN hc hX;have WV:sR R (ew X):=⟨kH h.ok hk,Di hk Ej⟩;obtain⟨hj,hn⟩:=u1 WV;refine⟨R,h,⟨h.aF,h.le,(hj.ok WV).ok,?_,h.par,?_⟩,hj.ok WV,hn,?_,?_,?_⟩
 ·show 0<(fx (ew X)).length
  rw[hj.len];unfold ew;rw[dU];exact E9
 ·exact IX hj (Mw hk h.Nr)
 ·exact(hj.inv (p:=λx=>qh x/\Ac x) (λa b t hj hp=>⟨Q0 hj hp.1,Lu hj hp.1 hp.2⟩) ⟨Q1 h.ok.iM hk Ml wV,Lv h.ok.iM h.pos⟩).2
 ·rw[hj.len]
  unfold ew;rw[dU];exact tu hk
 ·rw[hj.many]
  exact oR hk
theorem BT{X:aZ}{R:Nat}(h:wx X R):ch (lZ X).blocks=List.range (lZ X).blocks.length:=GX h.mid
theorem No{X:aZ}{R:Nat}(h:kw X R)(ht:wx X R):(lZ X).blocks.length<=X.blocks.length/\dV (lZ X).blocks<=dV X.blocks/\(lZ X).aF<=X.aF:=by
 have hk:=j7 ht.mid.ok.iM ht.mid.pos;have h1:(lZ X).blocks=(cY (fx (ew X)) (ch (fx (ew X)))).map (qg (pL X.params.toNat (ew (qO X (fx (ew X)))))):=rfl;refine⟨?_,?_,?_⟩
 ·rw[h1,aG,dU]
  have h2:=tu hk;have h3:=ht.len;have h4:(qO X (fx (ew X))).blocks.length=(fx (ew X)).length:=rfl;have h5:(ch (qO X (fx (ew X))).blocks).length=(ch (fx (ew X))).length:=rfl;omega
 ·rw[h1,GO]
  exact dB (oR hk) ht.many
 ·have:=Bl ht.mid
  have h2:=h.aF;show((pL X.params.toNat (ew (qO X (fx (ew X))))).length:Int)<=X.aF;have h3:(qO X (fx (ew X))).params=X.params:=rfl;rw[h3]at this;omega
end
end Go.Proofs.YthfhgolkafpmnaaGreatDoor
