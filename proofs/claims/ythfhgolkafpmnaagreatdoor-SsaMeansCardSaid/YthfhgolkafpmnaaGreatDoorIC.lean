/- Texts joined: SortF. -/
import Derived.Shelf.SlSortCmp.NoneTotal
import Derived.Test.YthfhgolkafpmnaaGreatDoorGM
namespace Go.Proofs.YthfhgolkafpmnaaGreatDoor
open Go.Value renaming int->U,slice->J,bool->D,agg->au
open Go.IntKind renaming i64->O
open Option renaming some->Z,none->A
open Go renaming Value->V,World->C
open Go.Proofs.Tryz
open Go.Proofs.Tryz renaming prog->ae
open Go Go.RowKit
def EP:Go.Shelf.Ren:=⟨λ|6=>153|14=>171|15=>168|20=>189|21=>190|22=>191|23=>192|24=>193|25=>194|26=>195|27=>196|28=>185|29=>186|46=>205|47=>199|48=>200|49=>206|50=>207|57=>210|n=>n,λ|0=>0|3=>3|4=>4|5=>5|9=>9|22=>198|24=>200|25=>202|39=>172|45=>230|46=>231|50=>227|53=>210|55=>213|66=>244|70=>248|76=>252|77=>253|n=>n,λn=>n⟩
theorem F2:Go.Proofs.SlLaysF0.n6 ae EP where
 mixed:=aR
 f6:=⟨ "slices.SortFunc[[]turnery/tidy.from,turnery/tidy.from]",by decide+kernel,func153.trans (congrArg Z aR)⟩
 f14:=⟨ "slices.pdqsortCmpFunc[turnery/tidy.from]",by decide+kernel,func171.trans (congrArg Z aR)⟩
 f15:=func168.trans (congrArg Z aR)
 f20:=⟨ "slices.insertionSortCmpFunc[turnery/tidy.from]",by decide+kernel,func189.trans (congrArg Z aR)⟩
 f21:=⟨ "slices.heapSortCmpFunc[turnery/tidy.from]",by decide+kernel,func190.trans (congrArg Z aR)⟩
 f22:=⟨ "slices.breakPatternsCmpFunc[turnery/tidy.from]",by decide+kernel,func191.trans (congrArg Z aR)⟩
 f23:=⟨ "slices.choosePivotCmpFunc[turnery/tidy.from]",by decide+kernel,func192.trans (congrArg Z aR)⟩
 f24:=⟨ "slices.reverseRangeCmpFunc[turnery/tidy.from]",by decide+kernel,func193.trans (congrArg Z aR)⟩
 f25:=⟨ "slices.partialInsertionSortCmpFunc[turnery/tidy.from]",by decide+kernel,func194.trans (congrArg Z aR)⟩
 f26:=⟨ "slices.partitionEqualCmpFunc[turnery/tidy.from]",by decide+kernel,func195.trans (congrArg Z aR)⟩
 f27:=⟨ "slices.partitionCmpFunc[turnery/tidy.from]",by decide+kernel,func196.trans (congrArg Z aR)⟩
 f28:=func185.trans (congrArg Z aR)
 f29:=func186.trans (congrArg Z aR)
 f46:=⟨ "slices.siftDownCmpFunc[turnery/tidy.from]",by decide+kernel,func205.trans (congrArg Z aR)⟩
 f47:=func199.trans (congrArg Z aR)
 f48:=func200.trans (congrArg Z aR)
 f49:=⟨ "slices.medianAdjacentCmpFunc[turnery/tidy.from]",by decide+kernel,func206.trans (congrArg Z aR)⟩
 f50:=⟨ "slices.medianCmpFunc[turnery/tidy.from]",by decide+kernel,func207.trans (congrArg Z aR)⟩
 f57:=⟨ "slices.order2CmpFunc[turnery/tidy.from]",by decide+kernel,func210.trans (congrArg Z aR)⟩
 t0:=underlying0
 a0:=isAgg0
 z0:=sizeOf0
 v0:=zeroValue0
 t3:=underlying3
 a3:=isAgg3
 z3:=sizeOf3
 v3:=zeroValue3
 t4:=underlying4
 a4:=isAgg4
 z4:=sizeOf4
 v4:=zeroValue4
 t5:=underlying5
 a5:=isAgg5
 z5:=sizeOf5
 v5:=zeroValue5
 t9:=underlying9
 a9:=isAgg9
 z9:=sizeOf9
 v9:=zeroValue9
 t22:=underlying198
 a22:=isAgg198
 z22:=sizeOf198
 v22:=zeroValue198
 t25:=underlying202
 a25:=isAgg202
 z25:=sizeOf202
 v25:=zeroValue202
 t39:=underlying172
 a39:=isAgg172
 z39:=sizeOf172
 v39:=zeroValue172
 t45:=underlying230
 a45:=isAgg230
 z45:=sizeOf230
 v45:=zeroValue230
 t46:=underlying231
 a46:=isAgg231
 z46:=sizeOf231
 v46:=zeroValue231
 t50:=underlying227
 a50:=isAgg227
 z50:=sizeOf227
 v50:=zeroValue227
 t53:=underlying210
 a53:=isAgg210
 z53:=sizeOf210
 v53:=zeroValue210
 t55:=underlying213
 a55:=isAgg213
 z55:=sizeOf213
 v55:=zeroValue213
 t66:=underlying244
 a66:=isAgg244
 z66:=sizeOf244
 v66:=zeroValue244
 t70:=underlying248
 a70:=isAgg248
 z70:=sizeOf248
 v70:=zeroValue248
 t76:=underlying252
 a76:=isAgg252
 z76:=sizeOf252
 v76:=zeroValue252
 t77:=underlying253
 a77:=isAgg253
 z77:=sizeOf253
 v77:=zeroValue253
theorem MD(pre xs sp l:List V)(h:xs.length=l.length):Go.Sort.putCells id pre.length l.toArray (pre++xs++sp).toArray=(pre++l++sp).toArray:=by
 apply Array.ext';apply ci;intro j;unfold Go.Sort.putCells
 by_cases hj:j<(pre++xs++sp).length
 ·rw[Array.getElem?_toList,Array.getElem?_mapIdx]
  rw[List.getElem?_toArray,a_ hj];simp only[bu]
  by_cases h1:j<pre.length
  ·rw[if_neg dp]
   simp[List.getElem?_append,h1]
  ·by_cases h2:j<pre.length+l.length
   ·rw[if_pos dp]
    rw[dz,dC I,dY I];have h3:j-pre.length<l.length:=I;simp[h3]
   ·rw[if_neg dp]
    rw[dC dp];simp only[bX]at hj⊢;rw[List.getElem_append_right dp];simp only[bX,h];rw[a_ I]
 ·rw[Array.getElem?_toList,xu (by simp only[Array.size_mapIdx];simpa using hj),bO (by simp at hj⊢;omega)]
theorem Wd.YA{S:Nat->Prop}{w0 w:C}{H:List bN}(hW:Wd S w0 H w){k b o n c e s m:Nat}{os:Array Obj}{xs l':List V}(hk:H[k]?=Z (M (Z ⟨b,o,A⟩) n c e s xs))(hl:l'.length=xs.length):
  Wd S w0 (H.set k (M (Z ⟨b,o,A⟩) n c e s l')) (Go.Sort.grow (Go.Sort.putRow id (Go.Sort.ahead w m) b o l'.toArray) os):=by
 obtain⟨h1,h2,h3,pre,sp,rfl,h5,hb⟩:=hW.lu hk;have bS:b<w.heap.size:=(fv.1 hb).1;have pU:(Go.Sort.putRow id (Go.Sort.ahead w m) b pre.length l'.toArray).heap.size=w.heap.size:=by simp[Go.Sort.putRow,Go.Sort.mapBlock,Go.Sort.ahead]
 have C9:(Go.Sort.putRow id (Go.Sort.ahead w m) b pre.length l'.toArray).heap[b]?=Z (.cells (pre++l'++sp).toArray e (0,0)):=by
  simp only[Go.Sort.putRow,Go.Sort.mapBlock,Go.Sort.ahead,Array.getElem?_modify,if_true,hb,bu,Go.Sort.onCells];rw[MD pre _ sp l' hl.symm]
 have abo:∀j,j≠b->(Go.Sort.putRow id (Go.Sort.ahead w m) b pre.length l'.toArray).heap[j]?=w.heap[j]?:=λj hj=>by
  simp[Go.Sort.putRow,Go.Sort.mapBlock,Go.Sort.ahead,Array.getElem?_modify,Ne.symm hj]
 have hT:Wd S w0 (H.set k (M (Z ⟨b,pre.length,A⟩) n c e s l')) (Go.Sort.putRow id (Go.Sort.ahead w m) b pre.length l'.toArray):=by
  refine hW.lj hk ⟨rfl,rfl,rfl,by rw[pU];exact bG _,λj _ hj=>abo j λe'=>hj (by simp[M,e'])⟩ (λb' nO=>?_) λw2 jg=>?_
  ·simp only[M,bu,b_]at nO⊢
   subst nO;exact⟨.inl rfl,by rw[pU];exact bS⟩
  ·have:=jg b (by simp[M])
   refine⟨by rw[hl];exact h1,.inr ⟨b,pre,sp,rfl,h2,h3,h5,?_⟩⟩;rw[this,C9]
 refine hT.call ⟨rfl,rfl,rfl,by simp[Go.Sort.grow],λj hj _=>?_⟩;simp only[Go.Sort.grow];rw[Array.getElem?_append_left hj]
instance:Inhabited cg:=⟨iu⟩
def J5(x:Fin 1000×cg):List V:=[U O (x.1.val:Int),D x.2.z,U O x.2.n]
theorem Cb(x:Fin 1000×cg):(J5 x).length=3:=rfl
def FZ(x y:Fin 1000×cg):Int:=(x.1.val:Int)-(y.1.val:Int)
theorem zA(x y:Fin 1000×cg):Go.Proofs.ltOf FZ x y=decide (x.1.val<y.1.val):=by
 unfold Go.Proofs.ltOf FZ;rw[decide_eq_decide];omega
theorem QC:Go.Sort.SWO (Go.Proofs.ltOf FZ) where
 irrefl x:=by rw[zA];simp
 trans x y akj h1 h2:=by rw[zA]at*;simp at*;omega
 ntrans x y akj h1 h2:=by rw[zA]at*;simp at*;omega
theorem CL{α:Type}[Inhabited α](enc:α->List V)(k:Nat)(hk:∀x,(enc x).length=k)(l:List α):Go.Sort.flatK enc k l.toArray=(l.flatMap enc).toArray:=by
 apply Array.ext';apply ci;intro t;unfold Go.Sort.flatK;have Fm:(l.flatMap enc).length=l.length*k:=cj hk l
 by_cases ht:t<l.length*k
 ·have hk0:0<k:=by
   rcases Nat.eq_zero_or_pos k with e|e
   ·subst e;simp at ht
   ·exact e
  have h1:t/k<l.length:=Nat.div_lt_of_lt_mul (by rwa[Nat.mul_comm]);have h2:t%k<k:=Nat.mod_lt _ hk0;have h3:=fB hk l (t/k) l[t/k] (t%k) ((enc l[t/k])[t%k]'(by rw[hk];exact h2)) (a_ h1) (a_ _);rw[show t/k*k+t%k=t from Nat.div_add_mod' t k]at h3;simp only[Array.toList_map,aJ,Array.toList_range,List.size_toArray];rw[eX ht,h3];simp[h1,hk,h2]
 ·rw[bO dp,bO (by simp only[Fm];omega)]
def Be(x:Nat×cg):List V:=[U O (x.1:Int),D x.2.z,U O x.2.n]
theorem M4(x:Nat×cg):(Be x).length=3:=rfl
def toFin(x:Nat×cg):Fin 1000×cg:=(⟨x.1%1000,Nat.mod_lt _ I⟩,x.2)
def ofFin(x:Fin 1000×cg):Nat×cg:=(x.1.val,x.2)
theorem aar{x:Nat×cg}(h:x.1<1000):J5 (toFin x)=Be x:=by
 unfold J5 toFin Be;simp only;rw[Nat.mod_eq_of_lt h]
theorem aeR{x:Nat×cg}(h:x.1<1000):ofFin (toFin x)=x:=by
 unfold ofFin toFin;simp only;rw[Nat.mod_eq_of_lt h]
theorem permIn_all{α:Type}[Inhabited α]{d d':Array α}(h:Go.Sort.PermIn 0 d.size d d'):d'.toList.Perm d.toList:=by
 obtain⟨h1,_,h3⟩:=h;have e1:d'.extract 0 d.size=d':=by rw[<-h1];simp
 have e2:d.extract 0 d.size=d:=by simp
 rwa[e1,e2]at h3
open Go.Shelf Go.Lib Go.Sort in
theorem PN(x y:Fin 1000×cg)(W:C):Calls ae 154 #[au (J5 x).toArray,au (J5 y).toArray] W λe w'=>e=.returned (U O (FZ x y))/\∃q os',w'=grow (W.drewN q) os':=by
 have hx:=x.1.isLt;have hy:=y.1.isLt;unfold J5 FZ
 go_enter func154,ntmps154
 go_wp2
 go_ret
 exact⟨rfl,0,_,by rw[alloc_eq_grow,alloc_eq_grow,grow_grow];rfl⟩
theorem Yz(a:Option Addr)(c:Nat)(l:List (Nat×cg))(hk:∀x∈l,x.1<1000)(hlen:l.length<=100000)(w:C)(hw:Wd (cH [M a l.length c 200 3 (l.flatMap Be)]) w [M a l.length c 200 3 (l.flatMap Be)] w):
  iC ae 153 [J a l.length c,.func (.func 154) #[] #[]] w λu w'=>∃l':List (Nat×cg),u=.tuple #[]/\Wd (cH [M a l.length c 200 3 (l.flatMap Be)]) w [M a l'.length c 200 3 (l'.flatMap Be)] w'/\(l'.Perm l/\l'.Pairwise λx y=>x.1<y.1∨x.1=y.1):=by
 rcases(hw.get (k:=0) rfl).2 with⟨rfl,h0,rfl⟩|⟨b,pre,sp,rfl,h2,_⟩
 ·have hl:l=[]:=lk h0
  subst hl;refine callsIn_wide.2 ((Go.Proofs.AnyF.slices_SortFunc_none F2 A 0 _ w).mono λe w' ⟨he,ek⟩=>⟨_,he,[],rfl,?_,List.Perm.refl _,List.Pairwise.nil⟩);rw[ek];exact hw
 ·have Fm:l.flatMap Be=(l.map toFin).flatMap J5:=by
   rw[lS];have:∀m:List (Nat×cg),(∀x∈m,x.1<1000)->m.flatMap Be=m.flatMap λx=>J5 (toFin x):=by
    intro m
    induction m with
    |nil=>exact λ_=>rfl
    |cons x m ih=>exact λh=>by rw[gZ,gZ,aar (h x aC),ih λy hy=>h y (by simp[hy])]
   exact this l hk
  have hd:(l.map toFin).toArray.size=l.length:=by simp
  have hH:Go.Sort.HoldsK J5 3 w b pre.length (l.map toFin).toArray/\b<w.heap.size:=by
   obtain⟨_,_,_,Qh,sp',e,_,hb⟩:=hw.lu (k:=0) rfl;have bS:=(fv.1 hb).1;refine⟨?_,bS⟩;unfold Go.Sort.HoldsK;rw[CL J5 3 Cb,<-Fm];intro j hj;have Nn:j<(l.flatMap Be).length:=ax hj;refine⟨?_,by simp[World.frozen?,hb]⟩;refine hw.cL (k:=0) rfl ?_;rw[a_ Nn];simp[a_ Nn]
  have eg:∀args w,(callFunc 154 args).run ae w=.ok (.enter 154 args) w:=enters_of func154 aR rfl;have adr:=Go.Proofs.AnyQ.slices_SortFunc F2 3 isAgg200 sizeOf200 J5 Cb (λx v hv=>by simp[J5]at hv;rcases hv with rfl|rfl|rfl<;>rfl) FZ QC 154 #[] b pre.length c (l.map toFin).toArray w eg (λ_ _ _ _ x y=>PN x y _) hH.1 hH.2 (by rw[hd];omega);rw[hd]at adr;refine callsIn_wide.2 (adr.mono λe w' ⟨he,d',m,os,h3,h4,ek⟩=>⟨_,he,d'.toList.map ofFin,rfl,?_,?_,?_⟩)
  ·have Fq:=(permIn_all (by rw[hd];exact h3)).length_eq
   have Fl:d'.toList.length=l.length:=by rw[Fq];simp
   have:=hw.YA (k:=0) (m:=m) (os:=os) (l':=d'.toList.flatMap J5) rfl (by rw[cj Cb,cj M4,Fl]);rw[ek];unfold sortWorldK Go.Sort.putRowK;have e3:Go.Sort.flatK J5 3 d'=(d'.toList.flatMap J5).toArray:=by
    have:=CL J5 3 Cb d'.toList;simpa using this
   rw[e3];have e4:(d'.toList.map ofFin).flatMap Be=d'.toList.flatMap J5:=by rw[lS];rfl
   rw[e4,aF,Fl];exact this
  ·have h5:=(permIn_all (by rw[hd];exact h3)).map ofFin
   refine h5.trans ?_;simp only[dE];rw[show l.map (ofFin∘toFin)=l by
    conv=>rhs;rw[<-ll l]
    exact dD λx hx=>aeR (hk x hx)]
  ·rw[q6,List.pairwise_iff_getElem]
   intro i j hi hj Q5;have pU:d'.size=l.length:=by
    have:=h3.1;rwa[hd]at this
   have h6:=h4 i j (aT _) Q5 (by simp at hj;omega);rw[zA]at h6;simp at hi hj;simp only[decide_eq_false_iff_not]at h6;simp[hi,hj]at h6;simp only[ofFin,Array.getElem_toList];omega
end Go.Proofs.YthfhgolkafpmnaaGreatDoor
