/- Lemmas. -/
import Derived.Shelf.SlSortCmp.NoneTotal
import Derived.Test.YthfhgolkafpmnaaGreatDoorGM
import Derived.Test.YthfhgolkafpmnaaGreatDoorIA
namespace Go.Proofs.YthfhgolkafpmnaaGreatDoor
open Go.Value renaming int->J,slice->I,bool->ag,agg->aC,string->aQ
open Go.IntKind renaming i64->Z
open Option renaming some->O,none->U
open Go renaming Value->K,World->ae
open Go.Proofs.Tryz renaming prog->Y
open List renaming replicate->aI,range->bj
open Go.Proofs.Tryz
open Go Go.RowKit
section
variable {x:Nat×cI} {α:Type}
def Gw:Go.Shelf.Ren:=⟨λ|6=>153|14=>171|15=>168|20=>189|21=>190|22=>191|23=>192|24=>193|25=>194|26=>195|27=>196|28=>185|29=>186|46=>205|47=>199|48=>200|49=>206|50=>207|57=>210|n=>n,λ|0=>0|3=>3|4=>4|5=>5|9=>9|22=>198|24=>200|25=>202|39=>172|45=>230|46=>231|50=>227|53=>210|55=>213|66=>244|70=>248|76=>252|77=>253|n=>n,λn=>n⟩
theorem HJ:Go.Proofs.SlLaysF0.n6 Y Gw where
 mixed:=bC
 f6:=⟨ "slices.SortFunc[[]turnery/tidy.from,turnery/tidy.from]",by decide+kernel,func153.trans (bD O bC)⟩
 f14:=⟨ "slices.pdqsortCmpFunc[turnery/tidy.from]",by decide+kernel,func171.trans (bD O bC)⟩
 f15:=func168.trans (bD O bC)
 f20:=⟨ "slices.insertionSortCmpFunc[turnery/tidy.from]",by decide+kernel,func189.trans (bD O bC)⟩
 f21:=⟨ "slices.heapSortCmpFunc[turnery/tidy.from]",by decide+kernel,func190.trans (bD O bC)⟩
 f22:=⟨ "slices.breakPatternsCmpFunc[turnery/tidy.from]",by decide+kernel,func191.trans (bD O bC)⟩
 f23:=⟨ "slices.choosePivotCmpFunc[turnery/tidy.from]",by decide+kernel,func192.trans (bD O bC)⟩
 f24:=⟨ "slices.reverseRangeCmpFunc[turnery/tidy.from]",by decide+kernel,func193.trans (bD O bC)⟩
 f25:=⟨ "slices.partialInsertionSortCmpFunc[turnery/tidy.from]",by decide+kernel,func194.trans (bD O bC)⟩
 f26:=⟨ "slices.partitionEqualCmpFunc[turnery/tidy.from]",by decide+kernel,func195.trans (bD O bC)⟩
 f27:=⟨ "slices.partitionCmpFunc[turnery/tidy.from]",by decide+kernel,func196.trans (bD O bC)⟩
 f28:=func185.trans (bD O bC)
 f29:=func186.trans (bD O bC)
 f46:=⟨ "slices.siftDownCmpFunc[turnery/tidy.from]",by decide+kernel,func205.trans (bD O bC)⟩
 f47:=func199.trans (bD O bC)
 f48:=func200.trans (bD O bC)
 f49:=⟨ "slices.medianAdjacentCmpFunc[turnery/tidy.from]",by decide+kernel,func206.trans (bD O bC)⟩
 f50:=⟨ "slices.medianCmpFunc[turnery/tidy.from]",by decide+kernel,func207.trans (bD O bC)⟩
 f57:=⟨ "slices.order2CmpFunc[turnery/tidy.from]",by decide+kernel,func210.trans (bD O bC)⟩
 t0:=underlying0
 a0:=isAgg0
 z0:=sizeOf0
 v0:=zeroValue0
 t3:=underlying3
 a3:=isAgg3
 z3:=sizeOf3
 v3:=zeroValue3
 t4:=underlying4
 a4:=isAgg4
 z4:=sizeOf4
 v4:=zeroValue4
 t5:=underlying5
 a5:=isAgg5
 z5:=sizeOf5
 v5:=zeroValue5
 t9:=underlying9
 a9:=isAgg9
 z9:=sizeOf9
 v9:=zeroValue9
 t22:=underlying198
 a22:=isAgg198
 z22:=sizeOf198
 v22:=zeroValue198
 t25:=underlying202
 a25:=isAgg202
 z25:=sizeOf202
 v25:=zeroValue202
 t39:=underlying172
 a39:=isAgg172
 z39:=sizeOf172
 v39:=zeroValue172
 t45:=underlying230
 a45:=isAgg230
 z45:=sizeOf230
 v45:=zeroValue230
 t46:=underlying231
 a46:=isAgg231
 z46:=sizeOf231
 v46:=zeroValue231
 t50:=underlying227
 a50:=isAgg227
 z50:=sizeOf227
 v50:=zeroValue227
 t53:=underlying210
 a53:=isAgg210
 z53:=sizeOf210
 v53:=zeroValue210
 t55:=underlying213
 a55:=isAgg213
 z55:=sizeOf213
 v55:=zeroValue213
 t66:=underlying244
 a66:=isAgg244
 z66:=sizeOf244
 v66:=zeroValue244
 t70:=underlying248
 a70:=isAgg248
 z70:=sizeOf248
 v70:=zeroValue248
 t76:=underlying252
 a76:=isAgg252
 z76:=sizeOf252
 v76:=zeroValue252
 t77:=underlying253
 a77:=isAgg253
 z77:=sizeOf253
 v77:=zeroValue253
theorem Oz(pre xs sp l:List K)(h:xs.length=l.length):Go.Sort.putCells id pre.length l.toArray (pre++xs++sp).toArray=(pre++l++sp).toArray:=by
 apply Array.ext';apply cY;intro j;unfold Go.Sort.putCells
 by_cases hj:j<(pre++xs++sp).length
 ·rw[Array.getElem?_toList,Array.getElem?_mapIdx]
  rw[List.getElem?_toArray,bL hj];simp only[b_]
  by_cases h1:j<pre.length
  ·rw[ai dr]
   simp[List.getElem?_append,h1]
  ·by_cases h2:j<pre.length+l.length
   ·rw[al dr]
    rw[fu,dH A,eX A];have h3:j-pre.length<l.length:=A;simp[h3]
   ·rw[ai dr]
    rw[dH dr];simp only[bW]at hj|-
    rw[List.getElem_append_right dr];simp only[bW,h];rw[bL A]
 ·rw[Array.getElem?_toList,zF (by simp only[Array.size_mapIdx];simpa using hj),cm (by simp at hj|-;omega)]
theorem Wd.Z2{S:Nat->Prop}{w0 w:ae}{H:List cq}(hW:Wd S w0 H w){k b o n c e s m:Nat}{os:Array Obj}{xs l':List K}(hk:H[k]?=O (G (O ⟨b,o,U⟩) n c e s xs))(hl:l'.length=xs.length):
  Wd S w0 (H.set k (G (O ⟨b,o,U⟩) n c e s l')) (Go.Sort.grow (Go.Sort.putRow id (Go.Sort.ahead w m) b o l'.toArray) os):=by
 obtain⟨h1,h2,h3,pre,sp,rfl,h5,hb⟩:=hW.nj hk;have ce:b<w.heap.size:=(jl.1 hb).1;have mK:(Go.Sort.putRow id (Go.Sort.ahead w m) b pre.length l'.toArray).heap.size=w.heap.size:=by simp[Go.Sort.putRow,Go.Sort.mapBlock,Go.Sort.ahead]
 have yR:(Go.Sort.putRow id (Go.Sort.ahead w m) b pre.length l'.toArray).heap[b]?=O (.cells (pre++l'++sp).toArray e (0,0)):=by
  simp only[Go.Sort.putRow,Go.Sort.mapBlock,Go.Sort.ahead,Array.getElem?_modify,if_true,hb,b_,Go.Sort.onCells];rw[Oz pre _ sp l' hl.symm]
 have acr:∀j,j≠b->(Go.Sort.putRow id (Go.Sort.ahead w m) b pre.length l'.toArray).heap[j]?=w.heap[j]?:=λj hj=>by
  simp[Go.Sort.putRow,Go.Sort.mapBlock,Go.Sort.ahead,Array.getElem?_modify,Ne.symm hj]
 have hT:Wd S w0 (H.set k (G (O ⟨b,pre.length,U⟩) n c e s l')) (Go.Sort.putRow id (Go.Sort.ahead w m) b pre.length l'.toArray):=by
  refine hW.nV hk ⟨rfl,rfl,rfl,by rw[mK];exact cz _,λj _ hj=>acr j λe'=>hj (by simp[G,e'])⟩ (λb' oX=>?_) λw2 lP=>?_
  ·simp only[G,b_,cF]at oX|-
   subst oX;exact⟨.inl rfl,by rw[mK];exact ce⟩
  ·have:=lP b (by simp[G])
   refine⟨by rw[hl];exact h1,.inr ⟨b,pre,sp,rfl,h2,h3,h5,?_⟩⟩;rw[this,yR]
 refine hT.call ⟨rfl,rfl,rfl,by simp[Go.Sort.grow],λj hj _=>?_⟩;simp only[Go.Sort.grow];rw[Array.getElem?_append_left hj]
instance:Inhabited cI:=⟨lB⟩
def LS(x:_root_.Fin 1000×cI):List K:=[J Z (x.1.val:Int),ag x.2.dq,J Z x.2.n]
theorem D2(x:_root_.Fin 1000×cI):(LS x).length=3:=rfl
def HI(x y:_root_.Fin 1000×cI):Int:=(x.1.val:Int)-(y.1.val:Int)
theorem BM(x y:_root_.Fin 1000×cI):Go.Proofs.ltOf HI x y=decide (x.1.val<y.1.val):=by
 unfold Go.Proofs.ltOf HI;rw[kq];omega
theorem R_:Go.Sort.SWO (Go.Proofs.ltOf HI) where
 irrefl x:=by rw[BM];simp
 trans x y z h1 h2:=by rw[BM]at*;simp at*;omega
 ntrans x y z h1 h2:=by rw[BM]at*;simp at*;omega
theorem Er[Inhabited α](enc:α->List K)(k:Nat)(hk:∀x,(enc x).length=k)(l:List α):Go.Sort.flatK enc k l.toArray=(l.flatMap enc).toArray:=by
 apply Array.ext';apply cY;intro t;unfold Go.Sort.flatK;have IF:(l.flatMap enc).length=l.length*k:=cA hk l
 by_cases ht:t<l.length*k
 ·have hk0:0<k:=by
   rcases Nat.eq_zero_or_pos k with e|e
   ·subst e;simp at ht
   ·exact e
  have h1:t/k<l.length:=Nat.div_lt_of_lt_mul (by rwa[Nat.mul_comm]);have h2:t%k<k:=Nat.mod_lt _ hk0;have h3:=e_ hk l (t/k) l[t/k] (t%k) ((enc l[t/k])[t%k]'(by rw[hk];exact h2)) (bL h1) (bL _);rw[show t/k*k+t%k=t from Nat.div_add_mod' t k]at h3;simp only[Array.toList_map,aW,Array.toList_range,List.size_toArray];rw[gq ht,h3];simp[h1,hk,h2]
 ·rw[cm dr,cm (by simp only[IF];omega)]
def yu(x:Nat×cI):List K:=[J Z (x.1:Int),ag x.2.dq,J Z x.2.n]
theorem O4(x:Nat×cI):(yu x).length=3:=rfl
def toFin(x:Nat×cI):_root_.Fin 1000×cI:=(⟨x.1%1000,Nat.mod_lt _ A⟩,x.2)
def ofFin(x:_root_.Fin 1000×cI):Nat×cI:=(x.1.val,x.2)
theorem abl(h:x.1<1000):LS (toFin x)=yu x:=by
 unfold LS toFin yu;simp only;rw[Nat.mod_eq_of_lt h]
theorem afV(h:x.1<1000):ofFin (toFin x)=x:=by
 unfold ofFin toFin;simp only;rw[Nat.mod_eq_of_lt h]
theorem permIn_all[Inhabited α]{d d':Array α}(h:Go.Sort.PermIn 0 d.size d d'):d'.toList.Perm d.toList:=by
 obtain⟨h1,_,h3⟩:=h;have e1:d'.extract 0 d.size=d':=by rw[<-h1];simp
 have e2:d.extract 0 d.size=d:=by simp
 rwa[e1,e2]at h3
open Go.Shelf Go.Lib Go.Sort in
theorem Rj(x y:_root_.Fin 1000×cI)(dO:ae):Calls Y 154 #[aC (LS x).toArray,aC (LS y).toArray] dO λe w'=>e=.returned (J Z (HI x y))/\∃q os',w'=grow (dO.drewN q) os':=by
 have hx:=x.1.isLt;have hy:=y.1.isLt;unfold LS HI
 go_enter func154,ntmps154
 go_wp2
 go_ret
 exact⟨rfl,0,_,by rw[alloc_eq_grow,alloc_eq_grow,grow_grow];rfl⟩
theorem Z1(a:ax)(c:Nat)(l:List (Nat×cI))(hk:∀x∈l,x.1<1000)(hlen:l.length<=100000)(w:ae)(hw:Wd (df [G a l.length c 200 3 (l.flatMap yu)]) w [G a l.length c 200 3 (l.flatMap yu)] w):
  iL Y 153 [I a l.length c,.func (.func 154) #[] #[]] w λu w'=>∃l':List (Nat×cI),u=.tuple #[]/\Wd (df [G a l.length c 200 3 (l.flatMap yu)]) w [G a l'.length c 200 3 (l'.flatMap yu)] w'/\(l'.Perm l/\l'.Pairwise λx y=>x.1<y.1\/x.1=y.1):=by
 rcases(hw.get (k:=0) rfl).2 with⟨rfl,h0,rfl⟩|⟨b,pre,sp,rfl,h2,_⟩
 ·have hl:l=[]:=nr h0
  subst hl;refine callsIn_wide.2 ((Go.Proofs.AnyF.slices_SortFunc_none HJ U 0 _ w).mono λe w' ⟨he,kE⟩=>⟨_,he,[],rfl,?_,List.Perm.refl _,List.Pairwise.nil⟩);rw[kE];exact hw
 ·have IF:l.flatMap yu=(l.map toFin).flatMap LS:=by
   rw[qS];have:∀m:List (Nat×cI),(∀x∈m,x.1<1000)->m.flatMap yu=m.flatMap λx=>LS (toFin x):=by
    intro m
    induction m with
    |nil=>exact λ_=>rfl
    |cons x m ih=>exact λh=>by rw[fj,fj,abl (h x cK),ih λy hy=>h y (by simp[hy])]
   exact this l hk
  have hd:(l.map toFin).toArray.size=l.length:=by simp
  have hH:Go.Sort.HoldsK LS 3 w b pre.length (l.map toFin).toArray/\b<w.heap.size:=by
   obtain⟨_,_,_,RI,sp',e,_,hb⟩:=hw.nj (k:=0) rfl;have ce:=(jl.1 hb).1;refine⟨?_,ce⟩;unfold Go.Sort.HoldsK;rw[Er LS 3 D2,<-IF];intro j hj;have SC:j<(l.flatMap yu).length:=aD hj;refine⟨?_,by simp[World.frozen?,hb]⟩;refine hw.dp (k:=0) rfl ?_;rw[bL SC];simp[bL SC]
  have eg:∀args w,(callFunc 154 args).run Y w=.ok (.enter 154 args) w:=enters_of func154 bC rfl;have aex:=Go.Proofs.AnyQ.slices_SortFunc HJ 3 isAgg200 sizeOf200 LS D2 (λx v hv=>by simp[LS]at hv;rcases hv with rfl|rfl|rfl<;>rfl) HI R_ 154 #[] b pre.length c (l.map toFin).toArray w eg (λ_ _ _ _ x y=>Rj x y _) hH.1 hH.2 (by rw[hd];omega);rw[hd]at aex;refine callsIn_wide.2 (aex.mono λe w' ⟨he,d',m,os,h3,h4,kE⟩=>⟨_,he,d'.toList.map ofFin,rfl,?_,?_,?_⟩)
  ·have yT:=(permIn_all (by rw[hd];exact h3)).length_eq
   have YK:d'.toList.length=l.length:=by rw[yT];simp
   have:=hw.Z2 (k:=0) (m:=m) (os:=os) (l':=d'.toList.flatMap LS) rfl (by rw[cA D2,cA O4,YK]);rw[kE];unfold sortWorldK Go.Sort.putRowK;have e3:Go.Sort.flatK LS 3 d'=(d'.toList.flatMap LS).toArray:=by
    have:=Er LS 3 D2 d'.toList;simpa using this
   rw[e3];have e4:(d'.toList.map ofFin).flatMap yu=d'.toList.flatMap LS:=by rw[qS];rfl
   rw[e4,aG,YK];exact this
  ·have h5:=(permIn_all (by rw[hd];exact h3)).map ofFin
   refine h5.trans ?_;simp only[dM];rw[show l.map (ofFin∘toFin)=l by
    conv=>rhs;rw[<-pF l]
    exact ew λx hx=>afV (hk x hx)]
  ·rw[List.pairwise_map,List.pairwise_iff_getElem]
   intro i j hi hj UN;have mK:d'.size=l.length:=by
    have:=h3.1;rwa[hd]at this
   have h6:=h4 i j (aN _) UN (by simp at hj;omega);rw[BM]at h6;simp at hi hj;simp only[fg]at h6;simp[hi,hj]at h6;simp only[ofFin,Array.getElem_toList];omega
end
variable {bs out rs:List aK} {l:List Int} {bl:List aq} {o:List Nat} {R b n r:Nat} {S:Nat->Prop} {w w0:ae}
def Ad(R:Nat)(l:List Int):List Int:=(bj R).map λr:Nat=>if (r:Int)∈l then gH l r else -1
theorem xK(R:Nat)(l:List Int):(Ad R l).length=R:=by simp[Ad]
theorem Bx(h:r<R):(Ad R l)[r]?=O (if (r:Int)∈l then gH l r else -1):=by
 unfold Ad;rw[aW,gq h]
 rfl
theorem ZM{r:Int}(h:r∉l):gH (iK l r) r=l.length:=by
 unfold gH iK;rw[ai h,List.idxOf_append,ai h];simp
theorem RB(h:(r:Int)∉l):(Ad R l).set r (l.length:Int)=Ad R (iK l r):=by
 apply cY;intro x;rw[fN]
 by_cases hx:x<R
 ·by_cases e:r=x
  ·subst e
   rw[al rfl,al (by rw[xK];exact hx),Bx hx,al (tk.2 (.inr rfl)),ZM h]
  ·rw[ai e,Bx hx,Bx hx]
   by_cases hm:(x:Int)∈l
   ·rw[al hm,al (tk.2 (.inl hm)),yH (Lh l r) hm]
   ·rw[ai hm,ai]
    intro h2;rcases tk.1 h2 with h2|h2
    ·exact hm h2
    ·exact e A
 ·rw[cm (l:=Ad R (iK l r)) (by rw[xK];omega)]
  by_cases e:r=x
  ·subst e
   rw[al rfl,ai (by rw[xK];exact hx)]
  ·rw[ai e,cm (by rw[xK];omega)]
theorem V6(R:Nat):Ad R []=aI R (-1):=by
 unfold Ad;simp only[gr,if_false];rw[List.map_const',d_]
theorem IT(hk:F8 bl o):o.length<=bl.length:=by
 have:=hk.nodup.length_le_of_subset (l₂:=bj bl.length) λx hx=>cW.2 (hk.lt x hx);simpa using this
def HZ(n:Nat)(o:List Nat):List Int:=(bj n).map λb:Nat=>if b∈o then((o.idxOf b:Nat):Int)else -1
theorem x_(h:b<n):(HZ n o)[b]?=O (if b∈o then((o.idxOf b:Nat):Int)else -1):=by
 unfold HZ;rw[aW,gq h]
 rfl
theorem tW(n:Nat)(o:List Nat):(HZ n o).length=n:=by simp[HZ]
theorem XX(n:Nat):HZ n []=aI n (-1):=by
 unfold HZ;simp only[gr,if_false];rw[List.map_const',d_]
theorem TA(h:b∉o):(HZ n o).set b (o.length:Int)=HZ n (o++[b]):=by
 apply cY;intro x;rw[fN]
 by_cases hx:x<n
 ·by_cases e:b=x
  ·subst e
   rw[al rfl,al (by rw[tW];exact hx),x_ hx,al cK,List.idxOf_append,ai h];simp
  ·rw[ai e,x_ hx,x_ hx]
   by_cases hm:x∈o
   ·rw[al hm,al (cM _ hm),List.idxOf_append,al hm]
   ·rw[ai hm,ai]
    intro h2;rcases bO.1 h2 with h2|h2
    ·exact hm h2
    ·exact e (bQ.1 h2).symm
 ·rw[cm (l:=HZ n (o++[b])) (by rw[tW];omega)]
  by_cases e:b=x
  ·subst e
   rw[al rfl,ai (by rw[tW];exact hx)]
  ·rw[ai e,cm (by rw[tW];omega)]
def uU(bl:List aq)(o:List Nat)(b:Nat)(p:gD):List (Nat×cI):=((be bl b).filter λq=>decide (q∈o)).map λq=>(o.idxOf q,gi bl b p q)
def Et(bl:List aq)(o:List Nat)(b:Nat)(p:gD):List (Nat×cI):=(o.filter λq=>decide (q∈be bl b)).map λq=>(o.idxOf q,gi bl b p q)
theorem QE(bl:List aq)(o:List Nat)(b:Nat)(p:gD):(Et bl o b p).map (·.2)=(ft bl o b p).src:=by
 unfold Et ft;rw[dM]
 rfl
theorem Vq(hn:o.Nodup):(o.map λq=>o.idxOf q).Pairwise (·<·):=by
 rw[List.pairwise_iff_getElem];intro i j hi hj UN;rw[aG]at hi hj;rw[List.getElem_map,List.getElem_map];have h1:=mD hn hi;have h2:=mD hn hj;unfold nth at h1 h2;rw[bL hi]at h1;rw[bL hj]at h2;simp only[gw]at h1 h2;omega
theorem M_(hn:o.Nodup)(b:Nat)(p:gD):(Et bl o b p).Pairwise λx y=>x.1<y.1:=by
 unfold Et;rw[List.pairwise_map];have h:=Vq hn;rw[List.pairwise_map]at h;exact h.sublist nu
theorem M9(hn:o.Nodup)(b:Nat)(p:gD):(Et bl o b p).Perm (uU bl o b p):=by
 unfold Et uU;refine List.Perm.map _ ((wZ (hn.sublist nu) ((jV bl b).sublist nu)).2 λx=>?_);rw[cR,cR,dv,dv];exact⟨λh=>⟨h.2,h.1⟩,λh=>⟨h.2,h.1⟩⟩
theorem FI{α:Type}{f:α->Nat}:∀{l m:List α},l.Perm m->l.Pairwise (λx y=>f x<f y)->m.Pairwise (λx y=>f x<f y\/f x=f y)->m=l
 |[],m,h,_,_=>h.symm.eq_nil
 |x::l,[],h,_,_=>by have:=h.length_eq;simp at this
 |x::l,y::m,h,h1,h2=>by
  rw[jm]at h1 h2;have e:y=x:=by
   have hx:x∈y::m:=h.subset cK;have hy:y∈x::l:=h.symm.subset cK;rcases bX.1 hx with e|hx
   ·exact e.symm
   rcases bX.1 hy with e|hy
   ·exact e
   have:=h1.1 y hy;have:=h2.1 x hx;omega
  subst e;rw[FI (h.cons_inv) h1.2 h2.2]
section
set_option maxHeartbeats 8000000
attribute [local irreducible] wpListIn Code.wpIn Exit.then Exit.inBlock bodyPost wpQuiet wpAnyIn wpAnyH bodyPostM md
theorem Wd.VL{H1 H2:List cq}(h:Wd S w0 (H1++H2) w):∀p v,(cC S w0).cell? p=O v->(cC (df H1) w).cell? p=O v:=λp v hc=>by
 have ce:=jC _ p hc;rw[ml]at ce;have YW:=(oZ hc).1;have hn:¬df H1 p.block:=λ⟨e,he,hb⟩=>by
  have:=(h.own e (cM _ he) _ hb).1;exact this.elim YW λh=>A
 rw[<-hc];refine World.cell?_of_block ?_;rw[kL w hn,kL w0 YW];exact h.c_.block _ ce YW
theorem VI:∀p v,(cC S w).cell? p=O v->w.cell? p=O v:=λp v hc=>by
 rw[<-hc];exact World.cell?_of_block (kL w (oZ hc).1).symm
theorem Wd.NU{H:List cq}(h:Wd S w0 H w){k c:Nat}{a:ax}(hk:H[k]?=O (aE a n c l))(hn:n=l.length)(hb:n<=1000)(uB:∀x∈l,dE x):aY w (I a n c) 1 l gI:=
 h.nf hk hn A λi x hx=>⟨[J Z x],λj v hj=>by
  match j,hj with
  |0,hj=>simpa[hx]using hj,rfl,uB x (aA hx)⟩
structure KSt(bl:List aq)(bs:List aK)(o:List Nat)(i:Nat)(rs out:List aK):Prop where
 ZR:rs.length=bs.length
 Lv:out.length=i
 I9:∀b,b∉o.take i->rs[b]?=bs[b]?
 new:∀j b,j<i->o[j]?=O b->∃r,rs[b]?=O r/\out[j]?=O r/\r.dD=iP bl o b (bi bl b)/\r.Bd
theorem KSt.step{i:Nat}(h:KSt bl bs o i rs out)(hn:o.Nodup)(hb:o[i]?=O b)(jX:b<bs.length){r:aK}(h1:r.dD=iP bl o b (bi bl b))(h2:r.Bd):KSt bl bs o (i+1) (rs.set b r) (out++[r]):=by
 have iM:=(aJ.1 hb).1;refine⟨by rw[fK];exact h.ZR,by rw[bW,h.Lv];rfl,λd hd=>?_,λj d hj hd=>?_⟩
 ·rw[bV,hb]at hd
  simp only[jk,bO,bQ,not_or]at hd;rw[fY (λe=>hd.2 e.symm)];exact h.I9 d hd.1
 ·by_cases e:j=i
  ·subst e
   rw[hb]at hd;obtain rfl:=bJ hd;exact⟨r,fk (by rw[h.ZR];exact jX),by rw[dH (by rw[h.Lv];exact cz _),h.Lv,cV];rfl,h1,h2⟩
  ·obtain⟨q,q1,q2,q3,q4⟩:=h.new j d A hd
   have fZ:b≠d:=λe2=>e (mG hn (aJ.1 hd).1 iM (by rw[lx hd,lx hb,e2]));exact⟨q,by rw[fY fZ];exact q1,by rw[eX (by rw[h.Lv];omega)];exact q2,q3,q4⟩
theorem KSt.done(h:KSt bl bs o o.length rs out)(hn:o.Nodup)(ce:∀b∈o,b<bs.length):out.map aK.dD=cG bl o/\(∀r∈out,r.Bd)/\∃rest,rs.Perm (out++rest):=by
 refine⟨?_,λr hr=>?_,?_⟩
 ·apply cY
  intro j
  by_cases hj:j<o.length
  ·obtain⟨q,q1,q2,q3,q4⟩:=h.new j (nth o j) hj (gR hj)
   rw[aW,q2,mj (gR hj),<-q3]
   rfl
  ·rw[cm (by rw[aG,h.Lv];omega),cm (by rw[dX];omega)]
 ·obtain⟨j,hj⟩:=bR hr
  have iS:j<o.length:=by rw[<-h.Lv];exact(aJ.1 hj).1
  obtain⟨q,q1,q2,q3,q4⟩:=h.new j (nth o j) iS (gR iS);rw[hj]at q2;rw[bJ q2];exact q4
 ·obtain⟨f,hf⟩:∃f:Nat->aK,f=λb=>rs[b]?.getD ⟨U,0,[],U,0,[],0,lB,U,0,[]⟩:=⟨_,rfl⟩
  refine⟨((bj rs.length).filter λb=>decide (b∉o)).map f,?_⟩;have h1:rs=(bj rs.length).map f:=by
   apply cY;intro j;rw[aW]
   by_cases hj:j<rs.length
   ·rw[gq hj,bL hj,hf]
    simp[bL hj]
   ·rw[cm A,cm dr];rfl
  have h2:out=o.map f:=by
   apply cY;intro j;rw[aW]
   by_cases hj:j<o.length
   ·obtain⟨q,q1,q2,q3,q4⟩:=h.new j (nth o j) hj (gR hj)
    rw[q2,gR hj,b_,hf];simp only[q1,gw]
   ·rw[cm (by rw[h.Lv];omega),cm A];rfl
  conv=>lhs;rw[h1]
  rw[h2,<-bz];refine List.Perm.map f ?_;refine(wZ tX (nA.2 ⟨hn,List.nodup_range.sublist nu,λa ha b hb e=>?_⟩)).2 λx=>?_
  ·have:=(cR.1 hb).2
   simp only[dv]at this;exact this (e▸ha)
  ·rw[bO,cR,cW,dv]
   constructor
   ·intro hx
    by_cases e:x∈o
    ·exact .inl e
    ·exact .inr ⟨hx,e⟩
   ·rintro(hx|hx)
    ·rw[h.ZR];exact ce x hx
    ·exact hx.1
theorem VD(nm:ByteArray)(pa re:Int)(a:ax)(c:Nat)(bs:List aK)(o:List Nat)(oa:ax)(oc R:Nat)(hlen:bs.length<=100)(dW:0<bs.length)(oF:∀b∈bs,b.Bd)(hf:eW R (bs.map aK.dD))(hk:F8 (bs.map aK.dD) o)(w0:ae)
  (hW:Wd (df (eM a c bs)) w0 (eM a c bs) w0) (U0:aY (cC (df (eM a c bs)) w0) (I oa o.length oc) 1 (o.map λx:Nat=>(x:Int)) gI):
  iL Y 106 [aC #[aQ nm,J Z pa,J Z re,I a bs.length c],I oa o.length oc] w0 λu w'=>∃x:ax×Nat×List aK,u=aC #[aQ nm,J Z pa,J Z re,I x.1 x.2.2.length x.2.1]/\Wd (df (eM a c bs)) w0 (eM x.1 x.2.1 x.2.2) w'/\
   (x.2.2.map aK.dD=cG (bs.map aK.dD) o/\∀b∈x.2.2,b.Bd):=by
 classical
 have hg:=hf.iD;obtain⟨bl,jX⟩:∃bl,bl=bs.map aK.dD:=⟨_,rfl⟩;have AZ:bl.length=bs.length:=by rw[jX,aG]
 have EJ:o.length<=bs.length:=by rw[<-AZ,jX];exact IT hk
 refine aR func106 rfl ntmps106 rfl hW ?_;obtain⟨SS,DT⟩:∃SS,SS=df (eM a c bs):=⟨_,rfl⟩;rw[<-DT]at U0|-
 have ae5:o≠[]->∃b oo:Nat,cl oa b oo/\iO SS b/\∀i x:Nat,o[i]?=O x->bu w0 b (oo+i*1) [J Z (x:Int)]:=λfZ=>by
  obtain⟨b,oo,h1,h2,h3⟩:=fd U0 (λhc=>iF hc cK) (λ_ _ h=>⟨_,_,h.1⟩) (aD fZ);refine⟨b,oo,h1,h2,λi x hx=>?_⟩;obtain⟨cs,h4,rfl,_⟩:=h3 i (x:Int) (by rw[aW,hx];rfl);exact⟨λj v hj=>VI _ _ (h4.eq j v hj)⟩
 obtain⟨n,hn⟩:∃n,n=bs.length:=⟨_,rfl⟩;obtain⟨m,hm⟩:∃m,m=o.length:=⟨_,rfl⟩;rw[<-hn]at hlen dW AZ EJ;rw[<-hm]at EJ;rw[<-hn,<-hm]
 repeat(first|refine bA ?_|refine dd λ_ _=>?_)
 rename_i p2 _ p4 _ e1 _;refine cN (val:=λa:Nat=>.slice (O ⟨a,0,U⟩) n n) (cZ:=λa=>[G (O ⟨a,0,U⟩) n n 3 1 (aI n (J Z (-1)))]) (φ:=λ_=>True) rfl (λw hw=>Fv e1 0 n (-1) w (hw.dp (k:=0) (o:=0) (j:=0) rfl rfl) dW A) λta _=>?_;simp only[bF,aS];rw[show aI n (J Z (-1))=(HZ n (o.take 0)).map (J Z) by rw[ri,XX];simp];refine aU ?_;let Tq:=G (O ⟨e1,0,U⟩) 1 1 3 1 [J Z (-1)]::aj p4::D p2 nm pa re a n c::eM a c bs;refine bH (λ(i:Nat)=>i<=m) (λi=>[(30,J Z i),(28,I oa m oc),(29,J Z m),M 2 p2,M 4 p4,(5,I (O ⟨ta,0,U⟩) n n),(1,I oa m oc)]) (λi=>aE (O ⟨ta,0,U⟩) n n (HZ n (o.take i))::Tq) (λi=>m-i) 0 (aN _) (aP V aF) λi hi=>?_<;>(try unfold Tq);refine bA ?_;apply aL<;>intro h1
 ·have iM:i<m:=aD h1
  obtain⟨b,hb⟩:=bE o i A;obtain⟨qb,qo,Dy,EM,vh⟩:=ae5 (aZ hb);have nO:=vh i b hb;have qe:b<n:=by rw[<-AZ,jX];exact hk.lt b (aA hb)
  have kK:cg i m:=⟨iM⟩;have SD:cg b n:=⟨qe⟩;have vJ:b∉o.take i:=λh=>by
   obtain⟨j,hj⟩:=bR h;rw[List.getElem?_take]at hj
   split at hj
   ·have iS:=(aJ.1 hj).1
    have:=mG hk.nodup iS A ((lx hj).trans (lx hb).symm);omega
   ·cases hj
  have mT:lS ((HZ n (o.take i)).map (J Z)) (b*1) (J Z (i:Int)) ((HZ n (o.take (i+1))).map (J Z)):=⟨by
   have h2:=TA (n:=n) vJ;rw[dA,fP A]at h2;rw[km,<-eT,h2,bV,hb]
   rfl,by rw[aG,tW];omega⟩
  refine aV ?_;exact a_ (i+1) A A V aF
 obtain rfl:m=i:=by have:=h1;simp at this;omega
 rw[hm,cL,<-hm];refine aV ?_;have rB:∀w,Wd SS w0 (aE (O ⟨ta,0,U⟩) n n (HZ n o)::Tq) w->aY w (I a n c) 6 bl da:=λw hw=>by
  rw[hn,jX];refine Wd.blocks (H:=[]) (hw.sub (.cons _ (.cons _ (.cons _ (.cons _ ?_))))) A oF;rw[cj];exact dU _
 refine cN (val:=λx:(ax×Nat×Nat)×(Nat->Prop)=>.slice x.1.1 x.1.2.1 x.1.2.2) (cZ:=λx=>[⟨x.2,λw=>aY w (I x.1.1 x.1.2.1 x.1.2.2) 1 (ci bl) dQ⟩]) (φ:=λ_=>True) rfl (λw hw=>jq _ _ _ bl (I a n c) w (rB w hw) A (by rw[jX];exact hg)) λx _=>?_;obtain⟨⟨aa,an,ac⟩,af⟩:=x;simp only[bF,aS];refine aU ?_;refine dJ 46 6 ?_;let Tc:=aj p4::am a n c bs::G U 0 0 46 6 []::bs.map bP;let Tg:=(D p2 nm pa re a n c::Tc);refine lr (H':=Tg++[aE (O ⟨ta,0,U⟩) n n (HZ n o),(⟨af,λw=>aY w (I aa an ac) 1 (ci bl) dQ⟩:cq)]) (λw hw=>?_) ?_<;>(try unfold Tg)<;>try unfold Tc
 ·refine hw.pick ⟨[G (O ⟨e1,0,U⟩) 1 1 3 1 [J Z (-1)]],?_⟩
  unfold eM;rw[<-hn];refine aX.2 λe=>?_;simp only[bU,bM,dG,D,aj,am,aE];omega
 refine mA λw1 mS=>?_;have abE:aY (cC (df Tg) w1) (I (O ⟨ta,0,U⟩) n n) 1 (HZ n o) gI:=mS.kw.NU (k:=0) rfl (tW n o).symm A λx hx=>by
  obtain⟨b,hb⟩:=bR hx;have abI:b<n:=by rw[<-tW n o];exact(aJ.1 hb).1
  rw[x_ abI]at hb;obtain rfl:=bJ hb
  split
  ·rename_i h2
   have:=oM h2;exact⟨A,A⟩
  ·exact⟨A,A⟩
 have Dq:aY (cC (df Tg) w1) (I aa an ac) 1 (ci bl) dQ:=mS.beside (e:=(⟨af,λw=>aY w (I aa an ac) 1 (ci bl) dQ⟩:cq)) cK;have U1:aY (cC (df (D p2 nm pa re a n c::aj p4::am a n c bs::G U 0 0 46 6 []::bs.map bP)) w1) (I oa m oc) 1 (o.map λx:Nat=>(x:Int)) gI:=by
  rw[hm];exact U0.le ry mS.VL
 have back:∀{cZ:List cq} {w:ae},Wd (df Tg) (cC (df Tg) w1) cZ w->Wd SS w0 (cZ++[aE (O ⟨ta,0,U⟩) n n (HZ n o),(⟨af,λw=>aY w (I aa an ac) 1 (ci bl) dQ⟩:cq)]) w:=λhw=>mS.comp hw.ni;have Ph:∀{cZ:List cq} {w:ae},Wd (df Tg) (cC (df Tg) w1) cZ w->∀p v,(cC (df Tg) w1).cell? p=O v->w.cell? p=O v:=λhw=>hw.ov;have hold:∀{b o:Nat} {v:K} {l:List K},ct (cC (df Tg) w1) b o (v::l)->iO (df Tg) b:=λhc=>iF hc cK;generalize cC (df Tg) w1=wk at*;generalize df Tg=S2 at*;have Gf:(ci bl).length=n:=by unfold ci;rw[jj,AZ]
 obtain⟨No,_⟩:=Dq.at;rw[Gf]at No;subst an;have abJ:ci bl≠[]:=λe=>by rw[e]at Gf;simp at Gf;omega
 have agB:HZ n o≠[]:=λe=>by have:=tW n o;rw[e]at this;simp at this;omega
 obtain⟨b8,o8,aea,aaH,UD⟩:=fd Dq hold (λ_ _ h=>by obtain⟨_,e,_⟩:=h;exact⟨_,_,e⟩) abJ;obtain⟨b5,o5,agw,ae0,YN⟩:=fd abE hold (λ_ _ h=>⟨_,_,h.1⟩) agB;refine fy 2 rfl dW λvb vo qt=>?_;subst qt;let Tp:=[(5,I (O ⟨ta,0,U⟩) n n),(8,I aa n ac),M 2 p2,M 4 p4,(42,I oa m oc),(43,J Z m)];refine bH (λ(x:Nat×List aK×List aK×ax×Nat)=>x.1<=m/\KSt bl bs o x.1 x.2.1 x.2.2.1) (λx=>(44,J Z x.1)::(9,I x.2.2.2.1 x.2.2.1.length x.2.2.2.2)::Tp) (λx=>D p2 nm pa re (O ⟨vb,vo,U⟩) n c::aj p4::am (O ⟨vb,vo,U⟩) n c bs::am x.2.2.2.1 x.2.2.1.length x.2.2.2.2 x.2.2.1::x.2.1.map bP) (λx=>m-x.1) (0,bs,[],U,0) ⟨aN _,⟨rfl,rfl,λ_ _=>rfl,λj b hj=>A⟩⟩ (aP V aF) λx ⟨hi,nW⟩=>?_<;>(try unfold Tp);obtain⟨i,rs,out,na,nc⟩:=x;simp only at hi nW|-
 refine bA ?_;apply aL<;>intro h1
 ·have iM:i<m:=aD h1
  obtain⟨b,hb⟩:=bE o i A;obtain⟨qb,qo,Dy,EM,vh⟩:=fd U1 hold (λ_ _ h=>⟨_,_,h.1⟩) (λe=>by have:=aZ hb;simp at e;exact this e);obtain⟨_,nO,rfl,_⟩:=vh i (b:Int) (by rw[aW,hb];rfl);have qe:b<n:=by rw[<-AZ,jX];exact hk.lt b (aA hb)
  have kK:cg i m:=⟨iM⟩;have SD:cg b n:=⟨qe⟩;have vJ:b∉o.take i:=λh=>by
   obtain⟨j,hj⟩:=bR h;rw[List.getElem?_take]at hj
   split at hj
   ·have iS:=(aJ.1 hj).1
    have:=mG hk.nodup iS A ((lx hj).trans (lx hb).symm);omega
   ·cases hj
  obtain⟨BB,Ko⟩:∃B,bs[b]?=O B:=⟨_,bL A⟩;obtain⟨qa,qc,ps,la,lc,xs,kd,on,xa,xc,to⟩:=BB;let Tl:=(⟨qa,qc,ps,la,lc,xs,kd,on,xa,xc,to⟩:aK);have hB:bs[b]?=O Tl:=Ko;have hrB:rs[b]?=O (⟨qa,qc,ps,la,lc,xs,kd,on,xa,xc,to⟩:aK):=by rw[nW.I9 b vJ];exact hB
  have rP:=oF _ (aA hB);have Dx:ps.length<=1000:=rP.bg;have acP:to.length<=1000:=rP.to.1;have IB:bl[b]?=O ((⟨qa,qc,ps,la,lc,xs,kd,on,xa,xc,to⟩:aK)).dD:=by rw[jX,aW,hB];rfl
  have Cp:=hf.block b _ (by rw[<-jX];exact IB);have iy:(ci bl)[b]?=O ((be bl b).map λx:Nat=>(x:Int)):=by
   rw[jX];exact kf hg (λb B hB=>(hf.block b B hB).to) (by rw[<-jX,AZ];exact qe)
  have zu:gm (D p2 nm pa re (O ⟨vb,vo,U⟩) n c::aj p4::am (O ⟨vb,vo,U⟩) n c bs::am na out.length nc out::rs.map bP) vb (vo+b*6) _:=jJ (k:=2) rfl de hB;simp only[eA,D,aj,am]at zu
  repeat(first|refine aV ?_|refine dd λ_ _=>?_)
  rename_i tQ _;have EL:=ig bP hrB;let Tj:=(au tQ qa ps.length qc la xs.length lc kd on xa to.length xc::D p2 nm pa re (O ⟨vb,vo,U⟩) n c::aj p4::am (O ⟨vb,vo,U⟩) n c bs::am na out.length nc out::(rs.eraseIdx b).map bP);refine bG (H1:=bP Tl::Tj) (aX.2 λe=>?_) ?_<;>(try unfold Tj)<;>try unfold Tl
  ·have:=aX.1 EL e
   simp only[bM,D,aj,am,au]at this|-
   omega
  refine uY ?_;let Tt:=(ps.map dZ++(oz Tl++(rs.eraseIdx b).map bP));refine bG (H1:=aw qa ps.length qc ps::au tQ qa ps.length qc la xs.length lc kd on xa to.length xc::D p2 nm pa re (O ⟨vb,vo,U⟩) n c::aj p4::am (O ⟨vb,vo,U⟩) n c bs::am na out.length nc out::Tt) (aX.2 λe=>?_) ?_<;>(try unfold Tt)<;>try unfold Tl
  ·have:=aX.1 (xd Tl) e
   unfold phV at this;simp only[bM,bU,D,aj,am,au,aw,Tl]at this|-
   omega
  let Tb:=(M 12 tQ::(11,J Z b)::(44,J Z i)::(9,I na out.length nc)::Tp);refine bH (λ(es:List ch)=>es.length<=ps.length/\es.map ch.iN=(ps.take es.length).map (λq=>ft bl o b q.iN)/\∀q∈es,dE q.dst/\q.l.length<=1000/\∀v∈q.l,dE v.n) (λes=>(56,J Z es.length)::(54,I qa ps.length qc)::(55,J Z ps.length)::Tb)
   (λes=>aw qa ps.length qc (es++ps.drop es.length)::au tQ qa ps.length qc la xs.length lc kd on xa to.length xc::D p2 nm pa re (O ⟨vb,vo,U⟩) n c::aj p4::am (O ⟨vb,vo,U⟩) n c bs::am na out.length nc out::((es++ps.drop es.length).map dZ++(oz Tl++(rs.eraseIdx b).map bP))) (λes=>ps.length-es.length) [] ⟨aN _,rfl,by simp⟩ (aP V aF) λes ⟨Ju,vZ,zR⟩=>?_<;>(try unfold Tb)<;>(try unfold Tl)<;>try unfold Tp
  refine bA ?_;apply aL<;>intro h2
  ·have ce:es.length<ps.length:=aD h2
   generalize tO:es.length=ei at*;obtain⟨q,hq⟩:=bE ps ei ce;have xB:=aA hq;obtain⟨Y2,hqb,Mt⟩:=rP.iN q xB;have Cx:=Cp.bg q.iN (aT.2 ⟨q,xB,rfl⟩);obtain⟨pd,iq,gH,pl⟩:=q;simp only at Y2 hqb Mt;have yT:pl.length=(be bl b).length:=by rw[jX];exact Cx.len
   refine fy 0 rfl A λzb zo Bk=>?_;subst Bk;have Dt:cg ei ps.length:=⟨ce⟩;have jT:(es++ps.drop ei)[ei]?=O (⟨pd,iq,gH,pl⟩:ch):=by
    rw[dH A,tO,cV,gp,dR];exact hq
   have BZ:ps.drop ei=(⟨pd,iq,gH,pl⟩:ch)::ps.drop (ei+1):=by rw[jb ce,(aJ.1 hq).2]
   let Tr:=(⟨O ⟨zb,zo,U⟩,qc,ps,la,lc,xs,kd,on,xa,xc,to⟩:aK);let Tm:=((es++ps.drop (ei+1)).map dZ++(oz Tr++(rs.eraseIdx b).map bP));let Ta:=au tQ (O ⟨zb,zo,U⟩) ps.length qc la xs.length lc kd on xa to.length xc::D p2 nm pa re (O ⟨vb,vo,U⟩) n c::aj p4::am (O ⟨vb,vo,U⟩) n c bs::am na out.length nc out::Tm;let Tf:=aw (O ⟨zb,zo,U⟩) ps.length qc (es++ps.drop ei)::Ta;refine bG (H1:=ar iq pl.length gH pl::Tf) (aX.2 λe=>?_) ?_<;>(try unfold Tf)<;>(try unfold Ta)<;>(try unfold Tm)<;>try unfold Tr
   ·rw[BZ]
    have e2:dZ (⟨pd,iq,gH,pl⟩:ch)=ar iq pl.length gH pl:=rfl;simp only[bz,cf,bU,bM,e2,D,aj,am,au,ar,aw];omega
   have QZ:gm (ar iq pl.length gH pl::Tf) zb (zo+ei*2) _:=jJ (k:=1) rfl eP jT;simp only[iz,ar]at QZ
   repeat(first|refine aV ?_|refine dd λ_ _=>?_)
   rename_i nk _;refine dJ 200 3 ?_;obtain⟨Fx,Bh⟩:∃Fx:Nat->List (Nat×cI),Fx=λj=>(((be bl b).take j).filter λq=>decide (q∈o)).map λq=>(o.idxOf q,gi bl b ⟨pd,pl⟩ q):=⟨_,rfl⟩;have Bg:Fx 0=[]:=by rw[Bh];simp
   let Ti:=M 14 nk::(13,J Z ei)::(56,J Z ei)::(54,I (O ⟨zb,zo,U⟩) ps.length qc)::(55,J Z ps.length)::Tb;let Ts:=bN nk pd iq pl.length gH::ar iq pl.length gH pl::Tf;refine bH (λ(x:Nat×List (Nat×cI)×ax×Nat)=>x.1<=pl.length/\x.2.1=Fx x.1) (λx=>(64,J Z x.1)::(62,I iq pl.length gH)::(63,J Z pl.length)::(15,I x.2.2.1 x.2.1.length x.2.2.2)::Ti)
    (λx=>G x.2.2.1 x.2.1.length x.2.2.2 200 3 (x.2.1.flatMap yu)::Ts) (λx=>pl.length-x.1) (0,[],U,0) ⟨aN _,Bg.symm⟩ (aP V aF) λx ⟨hj,hl⟩=>?_<;>(try unfold Ts)<;>(try unfold Tf)<;>(try unfold Ta)<;>(try unfold Ti)<;>(try unfold Tb)<;>(try unfold Tp)<;>(try unfold Tm)<;>try unfold Tr
   obtain⟨j,l,ra,rc⟩:=x;simp only at hj hl|-
   have Du:l.length<=j:=by
    rw[hl,Bh,aG];refine dS (fC _ _) ?_;rw[dA];omega
   refine bA ?_;apply aL<;>intro h3
   ·have iS:j<pl.length:=aD h3
    obtain⟨v,hv⟩:=bE pl j iS;obtain⟨qj,Cy⟩:=bE (be bl b) j A;have afg:qj<n:=by rw[<-AZ];exact Fk bl b qj (aA Cy)
    have se:gi bl b ⟨pd,pl⟩ qj=v:=by
     unfold gi;have h4:(be bl b).idxOf qj=j:=by
      have h5:=mD (jV bl b) (i:=j) A;rwa[lx Cy]at h5
     rw[h4,fF,hv]
     rfl
    have mC:Fx (j+1)=l++if qj∈o then[(o.idxOf qj,v)]else[]:=by
     rw[hl,Bh];simp only;rw[bV,Cy,mw,bz];congr 1
     by_cases h4:qj∈o
     ·simp[h4,se]
     ·simp[h4]
    refine fy 2 rfl A λyb yo B4=>?_;subst B4;have Pk:cg j pl.length:=⟨iS⟩;have Nz:gm (G ra l.length rc 200 3 (l.flatMap yu)::bN nk pd (O ⟨yb,yo,U⟩) pl.length gH::ar (O ⟨yb,yo,U⟩) pl.length gH pl::Tf) yb (yo+j*2) _:=jJ (k:=2) rfl eQ hv;simp only[mm,ar,bN]at Nz;obtain⟨_,aes,rv,rfl,CA⟩:=UD b _ iy;obtain⟨rva,rvn,rvc,_,_,rfl,KS,_⟩:=id CA;have akK:rvn=pl.length:=by rw[KS,aG,yT]
    have hlr:cg j rvn:=⟨A⟩;obtain⟨b7,o7,agx,ae1,abY⟩:=fd CA hold (λ_ _ h=>⟨_,_,h.1⟩) (λe=>by have:=aZ Cy;simp at e;exact this e);obtain⟨_,agP,rfl,_⟩:=abY j (qj:Int) (by rw[aW,Cy];rfl);have hlq:cg qj n:=⟨afg⟩;obtain⟨_,abR,rfl,_⟩:=YN qj _ (x_ afg)
    repeat(first|refine aV ?_|refine dd λ_ _=>?_)
    by_cases EM:qj∈o
    ·rw[al EM]
     rw[al EM]at mC;rw[show decide ((0:Int)<=((o.idxOf qj:Nat):Int))=true by simp]
     repeat(first|refine aU ?_|refine dd λ_ _=>?_)
     refine fB rfl rfl A A λSP rc'=>?_;rw[show l.length+1=(l++[(o.idxOf qj,v)]).length by simp,show l.flatMap yu++[J Z ((o.idxOf qj:Nat):Int),ag v.dq,J Z v.n]=(l++[(o.idxOf qj,v)]).flatMap yu by rw[ee];rfl];refine aU ?_;exact a_ (j+1,l++[(o.idxOf qj,v)],SP,rc') ⟨A,mC.symm⟩ bB V aB
    ·rw[ai EM]
     rw[ai EM,cj]at mC;rw[show decide ((0:Int)<=(-1:Int))=false by decide];refine aU ?_;exact a_ (j+1,l,ra,rc) ⟨A,mC.symm⟩ bB V aB
   obtain rfl:j=pl.length:=by have:=cE h3;omega
   have hlf:l=uU bl o b ⟨pd,pl⟩:=by
    rw[hl,Bh];unfold uU;simp only;rw[jR A]
   refine aV ?_;refine fU (H1:=[G ra l.length rc 200 3 (l.flatMap yu)]++(bN nk pd iq pl.length gH::ar iq pl.length gH pl::Tf)) rfl ?_<;>(try unfold Tf)<;>(try unfold Ta)<;>(try unfold Tm)<;>(try unfold Tr);refine fO (val:=λ_:List (Nat×cI)=>.tuple #[]) (cZ:=λl'=>[G ra l'.length rc 200 3 (l'.flatMap yu)]) (φ:=λl'=>l'.Perm l/\l'.Pairwise λx y=>x.1<y.1\/x.1=y.1) rfl (λw hw=>Z1 ra rc l (λx hx=>?_) A w hw.pre) λl' hl'=>?_
   ·rw[hlf]at hx
    unfold uU at hx;obtain⟨q,hq,rfl⟩:=aT.1 hx;have h4:=(cR.1 hq).2;simp only[dv]at h4;have:=oM h4;simp only;omega
   have ahs:l'=Et bl o b ⟨pd,pl⟩:=by
    have h4:=M9 (bl:=bl) hk.nodup b ⟨pd,pl⟩;rw[<-hlf]at h4;exact FI (f:=λx:Nat×cI=>x.1) (h4.trans hl'.1.symm) (M_ hk.nodup b _) hl'.2
   have hQ:l'.map (·.2)=(ft bl o b ⟨pd,pl⟩).src:=by rw[ahs];exact QE bl o b _
   have ajY:l'.length<=1000:=by have:=hl'.1.length_eq;omega
   have aeQ:l'.length=l.length:=hl'.1.length_eq;rw[<-aeQ];simp only[bF,aS];have EU:lS ((es++ps.drop ei).flatMap iz) (ei*2+1) (I U 0 0) (((es++[(⟨pd,U,0,[]⟩:ch)])++ps.drop (ei+1)).flatMap iz):=⟨by
    show((es++ps.drop ei).flatMap iz).set (ei*2+1) (I U ([]:List cI).length 0)=_;rw[fL eP jT (k:=1) (v:=.slice U ([]:List cI).length 0) A (y:=(⟨pd,U,0,[]⟩:ch)) rfl];congr 1;exact kS tO ce,by rw[cA eP,bW,eS];omega⟩
   have Ny:mf (G ra l'.length rc 200 3 (l'.flatMap yu)::Ts) zb (zo+ei*2+1) 3 zo (ei*2+1) ps.length qc 49 2 ((es++ps.drop ei).flatMap iz):=⟨rfl,A⟩;refine aV ?_;clear Ny EU;obtain⟨Q,hQd⟩:∃Q,Q=l'.map (·.2):=⟨_,rfl⟩;have hQl:Q.length=l'.length:=by rw[hQd,aG]
   refine dJ 41 2 ?_;refine bH (λ(x:List cI×ax×Nat)=>x.1.length<=Q.length/\x.1=Q.take x.1.length) (λx=>(97,J Z x.1.length)::(95,I ra l'.length rc)::(96,J Z l'.length)::Ti)
    (λx=>ar x.2.1 x.1.length x.2.2 x.1::G ra l'.length rc 200 3 (l'.flatMap yu)::aw (O ⟨zb,zo,U⟩) ps.length qc ((es++[(⟨pd,x.2.1,x.2.2,x.1⟩:ch)])++ps.drop (ei+1))::Ta) (λx=>Q.length-x.1.length) ([],U,0) ⟨aN _,by simp⟩ (aP V aB) λx ⟨hk1,Ct⟩=>?_<;>(try unfold Ta)<;>(try unfold Ti)<;>(try unfold Tb)<;>(try unfold Tp)<;>(try unfold Tm)<;>try unfold Tr
   obtain⟨vs,fa,fc⟩:=x;simp only at hk1 Ct|-
   refine bA ?_;let Tn:=(es++[(⟨pd,fa,fc,vs⟩:ch)]);apply aL<;>intro h4
   ·have hvl:vs.length<l'.length:=by have:=iG h4;omega
    generalize hvL:vs.length=kk at*;obtain⟨x,hx⟩:=bE l' kk hvl;have hxQ:Q[kk]?=O x.2:=by rw[hQd,aW,hx];rfl
    refine fy 1 rfl A λrb ro F1=>?_;subst F1;have Pk:cg kk l'.length:=⟨hvl⟩;let Td:=G (O ⟨rb,ro,U⟩) l'.length rc 200 3 (l'.flatMap yu)::aw (O ⟨zb,zo,U⟩) ps.length qc (Tn++ps.drop (ei+1))::Ta;have Y0:gm (ar fa kk fc vs::Td) rb (ro+kk*3) _:=jJ (k:=1) rfl O4 hx;simp only[yu,ar]at Y0
    repeat(first|refine aV ?_|refine dd λ_ _=>?_)
    rename_i CK _;have rQ:((es++[(⟨pd,fa,fc,vs⟩:ch)])++ps.drop (ei+1))[ei]?=O (⟨pd,fa,fc,vs⟩:ch):=by
     rw[eX (by simp[tO]),dH A,tO,cV];rfl
    have ahV:gB (iI CK (x.1:Int) x.2::ar fa kk fc vs::Td) zb (zo+ei*2+1) (I fa kk fc):=⟨λ_ _ _ hw=>by
     have h5:=hw.dp (k:=3) rfl (e_ eP _ ei _ 1 (I fa vs.length fc) rQ rfl);rw[hvL]at h5;rwa[<-eB]at h5⟩
    have akn:∀zf:cq,gB (zf::iI CK (x.1:Int) x.2::ar fa kk fc vs::Td) zb (zo+ei*2+1) (I fa kk fc):=λzf=>⟨λ_ _ _ hw=>by
     have h5:=hw.dp (k:=4) rfl (e_ eP _ ei _ 1 (I fa vs.length fc) rQ rfl);rw[hvL]at h5;rwa[<-eB]at h5⟩
    have mT:∀(ya:ax) (yc:Nat),lS ((Tn++ps.drop (ei+1)).flatMap iz) (ei*2+1) (I ya (vs++[x.2]).length yc) (((es++[(⟨pd,ya,yc,vs++[x.2]⟩:ch)])++ps.drop (ei+1)).flatMap iz):=λya yc=>⟨by
     rw[fL eP rQ (k:=1) A (y:=(⟨pd,ya,yc,vs++[x.2]⟩:ch)) rfl];congr 1;rw[List.set_append_left _ _ (by simp[tO]),kj _ _ A,tO,cV]
     rfl,by rw[cA eP,bW,bW,tO];simp;omega⟩
    have Q0:∀X cP:cq,mf (X::iI CK (x.1:Int) x.2::cP::Td) zb (zo+ei*2+1) 4 zo (ei*2+1) ps.length qc 49 2 ((Tn++ps.drop (ei+1)).flatMap iz):=λX cP=>⟨rfl,A⟩;have G8:vs.flatMap mm++[ag x.2.dq,J Z x.2.n]=(vs++[x.2]).flatMap mm:=by rw[ee];rfl
    have yS:kk+1=(vs++[x.2]).length:=by rw[bW,hvL];rfl
    refine dI [iI CK (x.1:Int) x.2,au tQ (O ⟨zb,zo,U⟩) ps.length qc la xs.length lc kd on xa to.length xc] (λ_:ax×Nat=>True) (λy=>(97,J Z kk)::(95,I (O ⟨rb,ro,U⟩) l'.length rc)::(96,J Z l'.length)::Ti)
     (λy=>ar y.1 (vs++[x.2]).length y.2 (vs++[x.2])::G (O ⟨rb,ro,U⟩) l'.length rc 200 3 (l'.flatMap yu)::aw (O ⟨zb,zo,U⟩) ps.length qc ((es++[(⟨pd,y.1,y.2,vs++[x.2]⟩:ch)])++ps.drop (ei+1))::Ta) mixed (by first|exact dN (.cons _ (.cons _ (.cons _ (dN qy))))|exact .cons _ (dN (.cons _ (.cons _ (.cons _ (dN qy)))))) ?_ λy _=>?_
    ·refine W 0 ?_;refine W 1 ?_;refine W 2 ?_;refine W 3 ?_;refine W 4 ?_;refine W 5 ?_;refine W 6 ?_;refine W 7 ?_;refine W 9 ?_;refine W 10 ?_;refine jL 8 11 E ?_ ?_
     ·refine gM 8 rfl aB ?_
      refine Ks 11 rfl E E aB λnb _=>?_;refine iu 12 2 rfl rfl E A A E (λ_=>aB) λya yc=>?_;rw[yS,G8];simp only[bS,bI];have Zh:=mT ya yc;refine W 13 ?_;refine W 14 ?_;refine jr 15 E E aB ?_;exact dy (ya,yc) trivial V aB
     ·refine gT 11 rfl E aB λnb _=>?_
      refine cD 8 E (gM 8 rfl aB ?_);refine iu 12 2 rfl rfl E A A E (λ_=>aB) λya yc=>?_;rw[yS,G8];simp only[bS,bI];have Zh:=mT ya yc;refine W 13 ?_;refine W 14 ?_;refine jr 15 E E aB ?_;exact dy (ya,yc) trivial V aB
    ·obtain⟨ya,yc⟩:=y
     refine aU ?_;exact a_ (vs++[x.2],ya,yc) ⟨by rw[<-yS];omega,by rw[<-yS,bV,hxQ,<-Ct];rfl⟩ (by rw[<-yS];simp only;omega) (by simp only[<-yS];repeat(first|exact trivial|refine⟨rfl,?_⟩)) aF
   ·have hvl:vs.length=Q.length:=by have:=cE h4;omega
    have hvQ:vs=Q:=by rw[Ct,hvl,cL]
    subst hvQ;refine aV ?_;have gk:(es++[(⟨pd,fa,fc,vs⟩:ch)]).length=ei+1:=by simp[tO]
    let Tk:=((Tn++ps.drop (es++[(⟨pd,fa,fc,vs⟩:ch)]).length).map dZ++(oz Tr++(rs.eraseIdx b).map bP));refine lr (H':=aw (O ⟨zb,zo,U⟩) ps.length qc (Tn++ps.drop (es++[(⟨pd,fa,fc,vs⟩:ch)]).length)::au tQ (O ⟨zb,zo,U⟩) ps.length qc la xs.length lc kd on xa to.length xc::D p2 nm pa re (O ⟨vb,vo,U⟩) n c::aj p4::am (O ⟨vb,vo,U⟩) n c bs::am na out.length nc out::Tk) (λw hw=>?_) ?_<;>(try unfold Tk)<;>(try unfold Tr)<;>try unfold Tn
    ·refine hw.pick ⟨[G ra l'.length rc 200 3 (l'.flatMap yu)],aX.2 λe=>?_⟩
     have e2:dZ (⟨pd,fa,fc,vs⟩:ch)=ar fa vs.length fc vs:=rfl;rw[gk];simp only[bz,cf,dm,bU,bM,dG,e2,D,aj,am,au,ar,aw];omega
    refine a_ (es++[(⟨pd,fa,fc,vs⟩:ch)]) ⟨by rw[gk];omega,?_,λq hq=>?_⟩ (by rw[gk];omega) (by simp only[gk];repeat(first|exact trivial|refine⟨rfl,?_⟩)) aF
    ·rw[gk,bV,hq,bz,bz,vZ]
     simp only[jk,cf,dm,ch.iN,List.append_cancel_left_eq,List.cons.injEq,and_true];rw[hQd,hQ]
     rfl
    ·rcases bO.1 hq with hq|hq
     ·exact zR q hq
     ·rw[bQ.1 hq]
      refine⟨Y2,by rw[hQl];omega,λv hv=>?_⟩;rw[hQd]at hv;rw[hQ]at hv;unfold ft at hv;obtain⟨y,hy,rfl⟩:=aT.1 hv;have EV:=(cR.1 hy).2;exact Mt _ (vF (R:=R) (p:=⟨pd,pl⟩) yT (aD EV))
  have fX:es.length=ps.length:=by have:=cE h2;omega
  rw[fX,gY,cj];rw[fX,cL]at vZ;let Te:=(es.map dZ++(aH la xs.length lc xs::(xs.map gC++(rs.eraseIdx b).map bP)));let Th:=D p2 nm pa re (O ⟨vb,vo,U⟩) n c::aj p4::am (O ⟨vb,vo,U⟩) n c bs::am na out.length nc out::Te;let To:=aw qa ps.length qc es::au tQ qa ps.length qc la xs.length lc kd on xa to.length xc::Th;refine bG (H1:=aE xa to.length xc to::To) (aX.2 λe=>?_) ?_<;>(try unfold To)<;>(try unfold Th)<;>try unfold Te
  ·unfold oz pY
   simp only[bU,bM,D,aj,am,au,aw,aE,aH];omega
  obtain⟨Ay,ER⟩:∃Ay:Nat->List Int,Ay=λk=>(to.take k).map (λt=>((o.idxOf t.toNat:Nat):Int))++to.drop k:=⟨_,rfl⟩;have KX:∀k,(Ay k).length=to.length:=λk=>by rw[ER];simp;omega
  have Vi:Ay 0=to:=by rw[ER];simp
  rw[show aE xa to.length xc to=aE xa to.length xc (Ay 0) by rw[Vi]];refine aV ?_;refine bH (λ(k:Nat)=>k<=to.length) (λk=>(122,J Z k)::(120,I xa to.length xc)::(121,J Z to.length)::Tb) (λk=>aE xa to.length xc (Ay k)::To) (λk=>to.length-k) 0 (aN _) (aP V aF) λk UO=>?_<;>(try unfold To)<;>(try unfold Th)<;>(try unfold Te)<;>(try unfold Tb)<;>(try unfold Tp);refine bA ?_;apply aL<;>intro h3
  ·have B0:k<to.length:=aD h3
   obtain⟨x,hx⟩:=bE to k B0;have Ze:x∈dY bl b:=by rw[fI IB];exact aA hx
   have KZ:=hk.closed b (aA hb) x (by rw[<-jX];exact Ze);have Mv:=mz (by rw[jX];exact hg) Ze;obtain⟨xn,rfl⟩:∃xn:Nat,x=xn:=⟨x.toNat,A⟩;rw[fR]at KZ;refine fy 0 rfl A λyb yo B4=>?_;subst B4;have Pk:cg k to.length:=⟨B0⟩;have hlx:cg xn n:=⟨A⟩;have acT:MG ((Ay k).map (J Z)) (k*1) (J Z (xn:Int)):=⟨by
    rw[km,aW,ER];simp only;rw[dH dr,aG,dA,fP A,cV,gp,dR,hx]
    rfl⟩
   have Uz:to.drop k=(xn:Int)::to.drop (k+1):=by rw[jb B0,(aJ.1 hx).2]
   have qh:(Ay k).set k ((o.idxOf xn:Nat):Int)=Ay (k+1):=by
    rw[ER];simp only;rw[kj _ _ dr,aG,dA,fP A,cV,Uz,bI,bV,hx,bz];simp
   have mT:lS ((Ay k).map (J Z)) (k*1) (J Z ((o.idxOf xn:Nat):Int)) ((Ay (k+1)).map (J Z)):=⟨by
    rw[km,<-eT,qh],by rw[aG,KX];omega⟩
   obtain⟨_,abR,rfl,_⟩:=YN xn _ (x_ A);rw[al KZ]at abR;refine aU ?_;refine dI [au tQ qa ps.length qc la xs.length lc kd on (O ⟨yb,yo,U⟩) to.length xc] (λ_:Unit=>True) (λ_=>(122,J Z k)::(120,I (O ⟨yb,yo,U⟩) to.length xc)::(121,J Z to.length)::Tb) (λ_=>aE (O ⟨yb,yo,U⟩) to.length xc (Ay (k+1))::aw qa ps.length qc es::au tQ qa ps.length qc la xs.length lc kd on (O ⟨yb,yo,U⟩) to.length xc::Th) mixed aB ?_ λ_ _=>?_
   ·refine W 0 ?_;refine W 1 ?_;refine W 2 ?_;refine W 3 ?_;refine W 4 ?_;refine W 5 ?_;refine W 6 ?_;refine W 7 ?_;refine W 8 ?_;refine jr 9 E E aB ?_;exact dy () trivial V aF
   ·refine aU ?_
    exact a_ (k+1) A A V aF
  ·obtain rfl:k=to.length:=by have:=cE h3;omega
   have EF:(Ay to.length)=(iP bl o b ((⟨qa,qc,ps,la,lc,xs,kd,on,xa,xc,to⟩:aK)).dD).to:=by
    rw[ER];simp only[cL,gY,cj]
    rfl
   obtain⟨tn,qZ⟩:∃tn,tn=Ay to.length:=⟨_,rfl⟩;rw[<-qZ]at EF|-
   have KW:tn.length=to.length:=by rw[qZ,KX]
   obtain⟨B',qq⟩:∃B':aK,B'=⟨qa,qc,es,la,lc,xs,kd,on,xa,xc,tn⟩:=⟨_,rfl⟩;have hbC:eA B'=[I qa ps.length qc,I la xs.length lc,J Z kd,ag on.dq,J Z on.n,I xa to.length xc]:=by rw[qq];simp only[eA,fX,KW]
   have AY:B'.dD=iP bl o b (bi bl b):=by
    rw[gG IB,qq];unfold aK.dD iP;simp only[vZ,EF,dM]
    rfl
   have Is:B'.Bd:=by
    rw[qq];refine⟨rP.kind,rP.on,by rw[fX];exact Dx,zR,rP.list,rP.ins,by rw[KW];exact acP,λt ht=>?_⟩;rw[EF]at ht;obtain⟨y,hy,rfl⟩:=aT.1 ht;have:=List.idxOf_le_length (a:=y.toNat) (l:=o);exact⟨A,A⟩
   have hoi:=nW.Lv
   repeat(first|refine aV ?_|refine dd λ_ _=>?_)
   refine fB rfl rfl A A λRv Rz=>?_
   try simp only[au]
   rw[<-hbC,show out.length+1=(out++[B']).length by simp,show out.flatMap eA++eA B'=(out++[B']).flatMap eA by rw[ee];simp];refine aU ?_;rename_i nb _;have e1:ij B'=aw qa ps.length qc es::aH la xs.length lc xs::aE xa to.length xc tn::(es.map dZ++xs.map gC):=by rw[qq];simp only[ij,fX,KW]
   refine lr (H':=ij B'++(D p2 nm pa re (O ⟨vb,vo,U⟩) n c::aj p4::am (O ⟨vb,vo,U⟩) n c bs::am Rv (out++[B']).length Rz (out++[B'])::(rs.eraseIdx b).map bP)) (λw hw=>?_) ?_
   ·refine hw.pick ⟨[G (O ⟨nb,0,U⟩) 1 1 46 6 (eA B'),aM tQ (eA B') 46],aX.2 λe=>?_⟩
    rw[e1];simp only[bU,bM,dG,D,aj,am,aw,aE,aH];omega
   refine yv ?_;have qh:(rs.set b B')[b]?=O B':=fk (by rw[nW.ZR];omega);have te:=ig bP qh;rw[nt]at te;refine bG (H1:=D p2 nm pa re (O ⟨vb,vo,U⟩) n c::aj p4::am (O ⟨vb,vo,U⟩) n c bs::am Rv (out++[B']).length Rz (out++[B'])::(rs.set b B').map bP) (aX.2 λe=>?_) ?_
   ·have:=aX.1 te e
    unfold bP at this|-
    simp only[bM,D,aj,am]at this|-
    omega
   exact a_ (i+1,rs.set b B',out++[B'],Rv,Rz) ⟨A,nW.step hk.nodup hb A AY Is⟩ bB V aF
 ·obtain rfl:i=m:=by have:=cE h1;omega
  refine aV ?_;rw[hm]at nW;obtain⟨hd1,Uy,rest,hd3⟩:=nW.done hk.nodup λb hb=>by have:=hk.lt b hb;rw[aG]at this;exact this
  refine fD rfl λw hw=>⟨(na,nc,out),rfl,?_,by rw[<-jX];exact hd1,Uy⟩;have h9:=back hw;simp only[bF]at h9;refine h9.pick ⟨[D p2 nm pa re na out.length nc,D p4 nm pa re na out.length nc,am (O ⟨vb,vo,U⟩) n c bs,aE (O ⟨ta,0,U⟩) n n (HZ n o),(⟨af,λw=>aY w (I aa n ac) 1 (ci bl) dQ⟩:cq)]++rest.map bP,aX.2 λe=>?_⟩;have Ss:=aX.1 (hd3.map bP) e;unfold eM;simp only[bz,bU,bM,dG,D,am,aE]at Ss|-
  omega
end
end Go.Proofs.YthfhgolkafpmnaaGreatDoor
