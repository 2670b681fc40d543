/- Texts joined: SortF. -/
import Derived.Shelf.SlSortCmp.NoneTotal
import Derived.Test.YthfhgolkafpmnaaGreatDoorGF
import Derived.Test.YthfhgolkafpmnaaGreatDoorGM
namespace Go.Proofs.YthfhgolkafpmnaaGreatDoor
section
open Go Go.RowKit
def CB:Go.Shelf.Ren:=⟨λ|6=>153|14=>171|15=>168|20=>189|21=>190|22=>191|23=>192|24=>193|25=>194|26=>195|27=>196|28=>185|29=>186|46=>205|47=>199|48=>200|49=>206|50=>207|57=>210|n=>n,λ|0=>0|3=>3|4=>4|5=>5|9=>9|22=>198|24=>200|25=>202|39=>172|45=>230|46=>231|50=>227|53=>210|55=>213|66=>244|70=>248|76=>252|77=>253|n=>n,λn=>n⟩
theorem DB:Go.Proofs.SlLaysF0.n6 Tryz.prog CB where
 mixed:=aP
 f6:=⟨ "slices.SortFunc[[]turnery/tidy.from,turnery/tidy.from]",by decide+kernel,Tryz.func153.trans (congrArg some aP)⟩
 f14:=⟨ "slices.pdqsortCmpFunc[turnery/tidy.from]",by decide+kernel,Tryz.func171.trans (congrArg some aP)⟩
 f15:=Tryz.func168.trans (congrArg some aP)
 f20:=⟨ "slices.insertionSortCmpFunc[turnery/tidy.from]",by decide+kernel,Tryz.func189.trans (congrArg some aP)⟩
 f21:=⟨ "slices.heapSortCmpFunc[turnery/tidy.from]",by decide+kernel,Tryz.func190.trans (congrArg some aP)⟩
 f22:=⟨ "slices.breakPatternsCmpFunc[turnery/tidy.from]",by decide+kernel,Tryz.func191.trans (congrArg some aP)⟩
 f23:=⟨ "slices.choosePivotCmpFunc[turnery/tidy.from]",by decide+kernel,Tryz.func192.trans (congrArg some aP)⟩
 f24:=⟨ "slices.reverseRangeCmpFunc[turnery/tidy.from]",by decide+kernel,Tryz.func193.trans (congrArg some aP)⟩
 f25:=⟨ "slices.partialInsertionSortCmpFunc[turnery/tidy.from]",by decide+kernel,Tryz.func194.trans (congrArg some aP)⟩
 f26:=⟨ "slices.partitionEqualCmpFunc[turnery/tidy.from]",by decide+kernel,Tryz.func195.trans (congrArg some aP)⟩
 f27:=⟨ "slices.partitionCmpFunc[turnery/tidy.from]",by decide+kernel,Tryz.func196.trans (congrArg some aP)⟩
 f28:=Tryz.func185.trans (congrArg some aP)
 f29:=Tryz.func186.trans (congrArg some aP)
 f46:=⟨ "slices.siftDownCmpFunc[turnery/tidy.from]",by decide+kernel,Tryz.func205.trans (congrArg some aP)⟩
 f47:=Tryz.func199.trans (congrArg some aP)
 f48:=Tryz.func200.trans (congrArg some aP)
 f49:=⟨ "slices.medianAdjacentCmpFunc[turnery/tidy.from]",by decide+kernel,Tryz.func206.trans (congrArg some aP)⟩
 f50:=⟨ "slices.medianCmpFunc[turnery/tidy.from]",by decide+kernel,Tryz.func207.trans (congrArg some aP)⟩
 f57:=⟨ "slices.order2CmpFunc[turnery/tidy.from]",by decide+kernel,Tryz.func210.trans (congrArg some aP)⟩
 t0:=Tryz.underlying0
 a0:=Tryz.isAgg0
 z0:=Tryz.sizeOf0
 v0:=Tryz.zeroValue0
 t3:=Tryz.underlying3
 a3:=Tryz.isAgg3
 z3:=Tryz.sizeOf3
 v3:=Tryz.zeroValue3
 t4:=Tryz.underlying4
 a4:=Tryz.isAgg4
 z4:=Tryz.sizeOf4
 v4:=Tryz.zeroValue4
 t5:=Tryz.underlying5
 a5:=Tryz.isAgg5
 z5:=Tryz.sizeOf5
 v5:=Tryz.zeroValue5
 t9:=Tryz.underlying9
 a9:=Tryz.isAgg9
 z9:=Tryz.sizeOf9
 v9:=Tryz.zeroValue9
 t22:=Tryz.underlying198
 a22:=Tryz.isAgg198
 z22:=Tryz.sizeOf198
 v22:=Tryz.zeroValue198
 t25:=Tryz.underlying202
 a25:=Tryz.isAgg202
 z25:=Tryz.sizeOf202
 v25:=Tryz.zeroValue202
 t39:=Tryz.underlying172
 a39:=Tryz.isAgg172
 z39:=Tryz.sizeOf172
 v39:=Tryz.zeroValue172
 t45:=Tryz.underlying230
 a45:=Tryz.isAgg230
 z45:=Tryz.sizeOf230
 v45:=Tryz.zeroValue230
 t46:=Tryz.underlying231
 a46:=Tryz.isAgg231
 z46:=Tryz.sizeOf231
 v46:=Tryz.zeroValue231
 t50:=Tryz.underlying227
 a50:=Tryz.isAgg227
 z50:=Tryz.sizeOf227
 v50:=Tryz.zeroValue227
 t53:=Tryz.underlying210
 a53:=Tryz.isAgg210
 z53:=Tryz.sizeOf210
 v53:=Tryz.zeroValue210
 t55:=Tryz.underlying213
 a55:=Tryz.isAgg213
 z55:=Tryz.sizeOf213
 v55:=Tryz.zeroValue213
 t66:=Tryz.underlying244
 a66:=Tryz.isAgg244
 z66:=Tryz.sizeOf244
 v66:=Tryz.zeroValue244
 t70:=Tryz.underlying248
 a70:=Tryz.isAgg248
 z70:=Tryz.sizeOf248
 v70:=Tryz.zeroValue248
 t76:=Tryz.underlying252
 a76:=Tryz.isAgg252
 z76:=Tryz.sizeOf252
 v76:=Tryz.zeroValue252
 t77:=Tryz.underlying253
 a77:=Tryz.isAgg253
 z77:=Tryz.sizeOf253
 v77:=Tryz.zeroValue253
theorem JB(pre xs sp l:List Value)(h:xs.length=l.length):Go.Sort.putCells id pre.length l.toArray (pre++xs++sp).toArray=(pre++l++sp).toArray:=by
 apply Array.ext';apply cf;intro j;unfold Go.Sort.putCells
 by_cases hj:j<(pre++xs++sp).length
 ·rw[Array.getElem?_toList,Array.getElem?_mapIdx]
  rw[List.getElem?_toArray,aB hj];simp only[bz]
  by_cases h1:j<pre.length
  ·rw[if_neg (by simp;omega)]
   simp[List.getElem?_append,h1]
  ·by_cases h2:j<pre.length+l.length
   ·rw[if_pos (by simp;omega)]
    rw[dE,dg ag,dG ag];have h3:j-pre.length<l.length:=ag;simp[h3]
   ·rw[if_neg (by simp;omega)]
    rw[dg (by simp;omega)];simp only[bR]at hj⊢;rw[List.getElem_append_right (by simp;omega)];simp only[bR,h];rw[aB ag]
 ·rw[Array.getElem?_toList,vp (by simp only[Array.size_mapIdx];simpa using hj),bM (by simp at hj⊢;omega)]
theorem Wd.Uy{S:Nat->Prop}{w0 w:World}{H:List bN}(hW:Wd S w0 H w){k b o n c e s m:Nat}{os:Array Obj}{xs l':List Value}(hk:H[k]?=some (ai (some ⟨b,o,none⟩) n c e s xs))(hl:l'.length=xs.length):
  Wd S w0 (H.set k (ai (some ⟨b,o,none⟩) n c e s l')) (Go.Sort.grow (Go.Sort.putRow id (Go.Sort.ahead w m) b o l'.toArray) os):=by
 obtain⟨h1,h2,h3,pre,sp,rfl,h5,hb⟩:=hW.km hk;have bT:b<w.heap.size:=(fI.1 hb).1;have oj:(Go.Sort.putRow id (Go.Sort.ahead w m) b pre.length l'.toArray).heap.size=w.heap.size:=by simp[Go.Sort.putRow,Go.Sort.mapBlock,Go.Sort.ahead]
 have AR:(Go.Sort.putRow id (Go.Sort.ahead w m) b pre.length l'.toArray).heap[b]?=some (.cells (pre++l'++sp).toArray e (0,0)):=by
  simp only[Go.Sort.putRow,Go.Sort.mapBlock,Go.Sort.ahead,Array.getElem?_modify,if_true,hb,bz,Go.Sort.onCells];rw[JB pre _ sp l' hl.symm]
 have XO:∀j,j≠b->(Go.Sort.putRow id (Go.Sort.ahead w m) b pre.length l'.toArray).heap[j]?=w.heap[j]?:=λj hj=>by
  simp[Go.Sort.putRow,Go.Sort.mapBlock,Go.Sort.ahead,Array.getElem?_modify,Ne.symm hj]
 have hT:Wd S w0 (H.set k (ai (some ⟨b,pre.length,none⟩) n c e s l')) (Go.Sort.putRow id (Go.Sort.ahead w m) b pre.length l'.toArray):=by
  refine hW.kf hk ⟨rfl,rfl,rfl,by rw[oj];exact bH _,λj _ hj=>XO j λe'=>hj (by simp[ai,e'])⟩ (λb' mL=>?_) λw2 jl=>?_
  ·simp only[ai,bz,bW]at mL⊢
   subst mL;exact⟨.inl rfl,by rw[oj];exact bT⟩
  ·have:=jl b (by simp[ai])
   refine⟨by rw[hl];exact h1,.inr ⟨b,pre,sp,rfl,h2,h3,h5,?_⟩⟩;rw[this,AR]
 refine hT.call ⟨rfl,rfl,rfl,by simp[Go.Sort.grow],λj hj _=>?_⟩;simp only[Go.Sort.grow];rw[Array.getElem?_append_left hj]
instance:Inhabited cm:=⟨gK⟩
def Hf(x:Fin 1000×cm):List Value:=[.int .i64 (x.1.val:Int),.bool x.2.bD,.int .i64 x.2.n]
theorem zZ(x:Fin 1000×cm):(Hf x).length=3:=rfl
def DA(x y:Fin 1000×cm):Int:=(x.1.val:Int)-(y.1.val:Int)
theorem xj(x y:Fin 1000×cm):Go.Proofs.ltOf DA x y=decide (x.1.val<y.1.val):=by
 unfold Go.Proofs.ltOf DA;rw[decide_eq_decide];omega
theorem Na:Go.Sort.SWO (Go.Proofs.ltOf DA) where
 irrefl x:=by rw[xj];simp
 trans x y z h1 h2:=by rw[xj]at*;simp at*;omega
 ntrans x y z h1 h2:=by rw[xj]at*;simp at*;omega
theorem Aw{α:Type}[Inhabited α](enc:α->List Value)(k:Nat)(hk:∀x,(enc x).length=k)(l:List α):Go.Sort.flatK enc k l.toArray=(l.flatMap enc).toArray:=by
 apply Array.ext';apply cf;intro t;unfold Go.Sort.flatK;have C6:(l.flatMap enc).length=l.length*k:=ct hk l
 by_cases ht:t<l.length*k
 ·have hk0:0<k:=by
   rcases Nat.eq_zero_or_pos k with e|e
   ·subst e;simp at ht
   ·exact e
  have h1:t/k<l.length:=Nat.div_lt_of_lt_mul (by rwa[Nat.mul_comm]);have h2:t%k<k:=Nat.mod_lt _ hk0;have h3:=fy hk l (t/k) l[t/k] (t%k) ((enc l[t/k])[t%k]'(by rw[hk];exact h2)) (aB h1) (aB _);rw[show t/k*k+t%k=t from Nat.div_add_mod' t k]at h3;simp only[Array.toList_map,aK,Array.toList_range,List.size_toArray];rw[eQ ht,h3];simp[h1,hk,h2]
 ·rw[bM (by simp;omega),bM (by simp only[C6];omega)]
def yV(x:Nat×cm):List Value:=[.int .i64 (x.1:Int),.bool x.2.bD,.int .i64 x.2.n]
theorem JX(x:Nat×cm):(yV x).length=3:=rfl
def toFin(x:Nat×cm):Fin 1000×cm:=(⟨x.1%1000,Nat.mod_lt _ ag⟩,x.2)
def ofFin(x:Fin 1000×cm):Nat×cm:=(x.1.val,x.2)
theorem Wp{x:Nat×cm}(h:x.1<1000):Hf (toFin x)=yV x:=by
 unfold Hf toFin yV;simp only;rw[Nat.mod_eq_of_lt h]
theorem ab4{x:Nat×cm}(h:x.1<1000):ofFin (toFin x)=x:=by
 unfold ofFin toFin;simp only;rw[Nat.mod_eq_of_lt h]
theorem permIn_all{α:Type}[Inhabited α]{d d':Array α}(h:Go.Sort.PermIn 0 d.size d d'):d'.toList.Perm d.toList:=by
 obtain⟨h1,_,h3⟩:=h;have e1:d'.extract 0 d.size=d':=by rw[<-h1];simp
 have e2:d.extract 0 d.size=d:=by simp
 rwa[e1,e2]at h3
open Go.Shelf Go.Lib Go.Sort in
theorem Mu(x y:Fin 1000×cm)(W:World):Calls Tryz.prog 154 #[.agg (Hf x).toArray,.agg (Hf y).toArray] W λe w'=>e=.returned (.int .i64 (DA x y))/\∃q os',w'=grow (W.drewN q) os':=by
 have hx:=x.1.isLt;have hy:=y.1.isLt;unfold Hf DA
 go_enter Tryz.func154,Tryz.ntmps154
 go_wp2
 go_ret
 exact⟨rfl,0,_,by rw[alloc_eq_grow,alloc_eq_grow,grow_grow];rfl⟩
theorem Ux(a:Option Addr)(c:Nat)(l:List (Nat×cm))(hk:∀x∈l,x.1<1000)(hlen:l.length<=100000)(w:World)(hw:Wd (cF [ai a l.length c 200 3 (l.flatMap yV)]) w [ai a l.length c 200 3 (l.flatMap yV)] w):
  gV Tryz.prog 153 [.slice a l.length c,.func (.func 154) #[] #[]] w λu w'=>∃l':List (Nat×cm),u=.tuple #[]/\Wd (cF [ai a l.length c 200 3 (l.flatMap yV)]) w [ai a l'.length c 200 3 (l'.flatMap yV)] w'/\(l'.Perm l/\l'.Pairwise λx y=>x.1<y.1∨x.1=y.1):=by
 rcases(hw.get (k:=0) rfl).2 with⟨rfl,h0,rfl⟩|⟨b,pre,sp,rfl,h2,_⟩
 ·have hl:l=[]:=kN h0
  subst hl;refine callsIn_wide.2 ((Go.Proofs.AnyF.slices_SortFunc_none DB none 0 _ w).mono λe w' ⟨he,dO⟩=>⟨_,he,[],rfl,?_,List.Perm.refl _,List.Pairwise.nil⟩);rw[dO];exact hw
 ·have C6:l.flatMap yV=(l.map toFin).flatMap Hf:=by
   rw[List.flatMap_map];have:∀m:List (Nat×cm),(∀x∈m,x.1<1000)->m.flatMap yV=m.flatMap λx=>Hf (toFin x):=by
    intro m
    induction m with
    |nil=>exact λ_=>rfl
    |cons x m ih=>exact λh=>by rw[gx,gx,Wp (h x aH),ih λy hy=>h y (by simp[hy])]
   exact this l hk
  have hd:(l.map toFin).toArray.size=l.length:=by simp
  have hH:Go.Sort.HoldsK Hf 3 w b pre.length (l.map toFin).toArray/\b<w.heap.size:=by
   obtain⟨_,_,_,MT,sp',e,_,hb⟩:=hw.km (k:=0) rfl;have bT:=(fI.1 hb).1;refine⟨?_,bT⟩;unfold Go.Sort.HoldsK;rw[Aw Hf 3 zZ,<-C6];intro j hj;have Pb:j<(l.flatMap yV).length:=by simpa using hj
   refine⟨?_,by simp[World.frozen?,hb]⟩;refine hw.cK (k:=0) rfl ?_;rw[aB Pb];simp[aB Pb]
  have eg:∀args w,(callFunc 154 args).run Tryz.prog w=.ok (.enter 154 args) w:=enters_of Tryz.func154 aP rfl;have aaG:=Go.Proofs.AnyQ.slices_SortFunc DB 3 Tryz.isAgg200 Tryz.sizeOf200 Hf zZ (λx v hv=>by simp[Hf]at hv;rcases hv with rfl|rfl|rfl<;>rfl) DA Na 154 #[] b pre.length c (l.map toFin).toArray w eg (λ_ _ _ _ x y=>Mu x y _) hH.1 hH.2 (by rw[hd];omega);rw[hd]at aaG;refine callsIn_wide.2 (aaG.mono λe w' ⟨he,d',m,os,h3,h4,dO⟩=>⟨_,he,d'.toList.map ofFin,rfl,?_,?_,?_⟩)
  ·have E4:=(permIn_all (by rw[hd];exact h3)).length_eq
   have IC:d'.toList.length=l.length:=by rw[E4];simp
   have:=hw.Uy (k:=0) (m:=m) (os:=os) (l':=d'.toList.flatMap Hf) rfl (by rw[ct zZ,ct JX,IC]);rw[dO];unfold sortWorldK Go.Sort.putRowK;have e3:Go.Sort.flatK Hf 3 d'=(d'.toList.flatMap Hf).toArray:=by
    have:=Aw Hf 3 zZ d'.toList;simpa using this
   rw[e3];have e4:(d'.toList.map ofFin).flatMap yV=d'.toList.flatMap Hf:=by rw[List.flatMap_map];rfl
   rw[e4,aG,IC];exact this
  ·have h5:=(permIn_all (by rw[hd];exact h3)).map ofFin
   refine h5.trans ?_;simp only[eS];rw[show l.map (ofFin∘toFin)=l by
    conv=>rhs;rw[<-nM l]
    exact fw λx hx=>ab4 (hk x hx)]
  ·rw[List.pairwise_map,List.pairwise_iff_getElem]
   intro i j hi hj Pa;have oj:d'.size=l.length:=by
    have:=h3.1;rwa[hd]at this
   have h6:=h4 i j (aY _) Pa (by simp at hj;omega);rw[xj]at h6;simp at hi hj;simp only[decide_eq_false_iff_not]at h6;simp[hi,hj]at h6;simp only[ofFin,Array.getElem_toList];omega
end
end Go.Proofs.YthfhgolkafpmnaaGreatDoor
