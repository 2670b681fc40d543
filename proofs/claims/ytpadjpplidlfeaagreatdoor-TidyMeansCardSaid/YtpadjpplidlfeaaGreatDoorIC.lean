/- Texts joined: SortF. -/
import Derived.Shelf.SlSortCmp.NoneTotal
import Derived.Test.YtpadjpplidlfeaaGreatDoorGF
import Derived.Test.YtpadjpplidlfeaaGreatDoorGM
namespace Go.Proofs.YtpadjpplidlfeaaGreatDoor
open Go Go.RowKit
def sortFLays_ren : Go.Shelf.Ren:=⟨fun|6=>78|14=>101|15=>102|20=>114|21=>115|22=>116|23=>117|24=>118|25=>119|26=>120|27=>121|28=>122|29=>123|46=>131|47=>132|48=>133|49=>134|50=>135|57=>138|n=>n,fun|0=>0|3=>3|4=>4|5=>5|9=>9|22=>116|24=>118|25=>120|39=>122|45=>172|46=>173|50=>177|53=>155|55=>158|66=>185|70=>189|76=>192|77=>193|n=>n,fun n=>n⟩
theorem sortFLays : Go.Proofs.SlLaysF0.n6 Tryz.prog sortFLays_ren where
 mixed:=by kernel_rfl
 f6 := ⟨ "slices.SortFunc[[]turnery/tidy.from,turnery/tidy.from]", by decide +kernel, Tryz.func78.trans (congrArg some (by kernel_rfl))⟩
 f14 := ⟨ "slices.pdqsortCmpFunc[turnery/tidy.from]", by decide +kernel, Tryz.func101.trans (congrArg some (by kernel_rfl))⟩
 f15:=Tryz.func102.trans (congrArg some (by kernel_rfl))
 f20 := ⟨ "slices.insertionSortCmpFunc[turnery/tidy.from]", by decide +kernel, Tryz.func114.trans (congrArg some (by kernel_rfl))⟩
 f21 := ⟨ "slices.heapSortCmpFunc[turnery/tidy.from]", by decide +kernel, Tryz.func115.trans (congrArg some (by kernel_rfl))⟩
 f22 := ⟨ "slices.breakPatternsCmpFunc[turnery/tidy.from]", by decide +kernel, Tryz.func116.trans (congrArg some (by kernel_rfl))⟩
 f23 := ⟨ "slices.choosePivotCmpFunc[turnery/tidy.from]", by decide +kernel, Tryz.func117.trans (congrArg some (by kernel_rfl))⟩
 f24 := ⟨ "slices.reverseRangeCmpFunc[turnery/tidy.from]", by decide +kernel, Tryz.func118.trans (congrArg some (by kernel_rfl))⟩
 f25 := ⟨ "slices.partialInsertionSortCmpFunc[turnery/tidy.from]", by decide +kernel, Tryz.func119.trans (congrArg some (by kernel_rfl))⟩
 f26 := ⟨ "slices.partitionEqualCmpFunc[turnery/tidy.from]", by decide +kernel, Tryz.func120.trans (congrArg some (by kernel_rfl))⟩
 f27 := ⟨ "slices.partitionCmpFunc[turnery/tidy.from]", by decide +kernel, Tryz.func121.trans (congrArg some (by kernel_rfl))⟩
 f28:=Tryz.func122.trans (congrArg some (by kernel_rfl))
 f29:=Tryz.func123.trans (congrArg some (by kernel_rfl))
 f46 := ⟨ "slices.siftDownCmpFunc[turnery/tidy.from]", by decide +kernel, Tryz.func131.trans (congrArg some (by kernel_rfl))⟩
 f47:=Tryz.func132.trans (congrArg some (by kernel_rfl))
 f48:=Tryz.func133.trans (congrArg some (by kernel_rfl))
 f49 := ⟨ "slices.medianAdjacentCmpFunc[turnery/tidy.from]", by decide +kernel, Tryz.func134.trans (congrArg some (by kernel_rfl))⟩
 f50 := ⟨ "slices.medianCmpFunc[turnery/tidy.from]", by decide +kernel, Tryz.func135.trans (congrArg some (by kernel_rfl))⟩
 f57 := ⟨ "slices.order2CmpFunc[turnery/tidy.from]", by decide +kernel, Tryz.func138.trans (congrArg some (by kernel_rfl))⟩
 t0:=Tryz.underlying0
 a0:=Tryz.isAgg0
 z0:=Tryz.sizeOf0
 v0:=Tryz.zeroValue0
 t3:=Tryz.underlying3
 a3:=Tryz.isAgg3
 z3:=Tryz.sizeOf3
 v3:=Tryz.zeroValue3
 t4:=Tryz.underlying4
 a4:=Tryz.isAgg4
 z4:=Tryz.sizeOf4
 v4:=Tryz.zeroValue4
 t5:=Tryz.underlying5
 a5:=Tryz.isAgg5
 z5:=Tryz.sizeOf5
 v5:=Tryz.zeroValue5
 t9:=Tryz.underlying9
 a9:=Tryz.isAgg9
 z9:=Tryz.sizeOf9
 v9:=Tryz.zeroValue9
 t22:=Tryz.underlying116
 a22:=Tryz.isAgg116
 z22:=Tryz.sizeOf116
 v22:=Tryz.zeroValue116
 t25:=Tryz.underlying120
 a25:=Tryz.isAgg120
 z25:=Tryz.sizeOf120
 v25:=Tryz.zeroValue120
 t39:=Tryz.underlying122
 a39:=Tryz.isAgg122
 z39:=Tryz.sizeOf122
 v39:=Tryz.zeroValue122
 t45:=Tryz.underlying172
 a45:=Tryz.isAgg172
 z45:=Tryz.sizeOf172
 v45:=Tryz.zeroValue172
 t46:=Tryz.underlying173
 a46:=Tryz.isAgg173
 z46:=Tryz.sizeOf173
 v46:=Tryz.zeroValue173
 t50:=Tryz.underlying177
 a50:=Tryz.isAgg177
 z50:=Tryz.sizeOf177
 v50:=Tryz.zeroValue177
 t53:=Tryz.underlying155
 a53:=Tryz.isAgg155
 z53:=Tryz.sizeOf155
 v53:=Tryz.zeroValue155
 t55:=Tryz.underlying158
 a55:=Tryz.isAgg158
 z55:=Tryz.sizeOf158
 v55:=Tryz.zeroValue158
 t66:=Tryz.underlying185
 a66:=Tryz.isAgg185
 z66:=Tryz.sizeOf185
 v66:=Tryz.zeroValue185
 t70:=Tryz.underlying189
 a70:=Tryz.isAgg189
 z70:=Tryz.sizeOf189
 v70:=Tryz.zeroValue189
 t76:=Tryz.underlying192
 a76:=Tryz.isAgg192
 z76:=Tryz.sizeOf192
 v76:=Tryz.zeroValue192
 t77:=Tryz.underlying193
 a77:=Tryz.isAgg193
 z77:=Tryz.sizeOf193
 v77:=Tryz.zeroValue193
theorem sfCells_id (pre xs sp l : List Value) (h : xs.length = l.length) : Go.Sort.putCells id pre.length l.toArray (pre++xs++sp).toArray = (pre++l++sp).toArray:=by
 apply Array.ext'
 apply List.ext_getElem?
 intro j
 unfold Go.Sort.putCells
 by_cases hj : j < (pre++xs++sp).length
 ·rw [Array.getElem?_toList,Array.getElem?_mapIdx]
  rw [List.getElem?_toArray,List.getElem?_eq_getElem hj]
  simp only [Option.map_some]
  by_cases h1 : j < pre.length
  ·rw [if_neg (by simp; omega)]
   simp [List.getElem?_append,h1]
  ·by_cases h2 : j < pre.length + l.length
   ·rw [if_pos (by simp; omega)]
    rw [List.append_assoc,List.getElem?_append_right (by omega),List.getElem?_append_left (by omega)]
    have h3 : j - pre.length < l.length:=by omega
    simp [h3]
   ·rw [if_neg (by simp; omega)]
    rw [List.getElem?_append_right (by simp; omega)]
    simp only [List.length_append] at hj ⊢
    rw [List.getElem_append_right (by simp; omega)]
    simp only [List.length_append,h]
    rw [List.getElem?_eq_getElem (by omega)]
 ·rw [Array.getElem?_toList,Array.getElem?_eq_none (by simp only [Array.size_mapIdx]; simpa using hj),List.getElem?_eq_none (by simp at hj ⊢; omega)]
theorem Wd.sortedV {S : Nat→Prop} {w0 w : World} {H : List Ent} (hW : Wd S w0 H w) {k b o n c e s m : Nat} {os : Array Obj} {xs l' : List Value} (hk : H[k]? = some (Ent.vec (some ⟨b,o,none⟩) n c e s xs)) (hl : l'.length = xs.length) :
  Wd S w0 (H.set k (Ent.vec (some ⟨b,o,none⟩) n c e s l')) (Go.Sort.grow (Go.Sort.putRow id (Go.Sort.ahead w m) b o l'.toArray) os):=by
 obtain ⟨h1,h2,h3,pre,sp,rfl,h5,hb⟩:=hW.vecAt hk
 have hlt : b < w.heap.size:=(Array.getElem?_eq_some_iff.1 hb).1
 have hsz : (Go.Sort.putRow id (Go.Sort.ahead w m) b pre.length l'.toArray).heap.size = w.heap.size:=by simp [Go.Sort.putRow,Go.Sort.mapBlock,Go.Sort.ahead]
 have hnew : (Go.Sort.putRow id (Go.Sort.ahead w m) b pre.length l'.toArray).heap[b]? = some (.cells (pre++l'++sp).toArray e (0,0)):=by
  simp only [Go.Sort.putRow,Go.Sort.mapBlock,Go.Sort.ahead,Array.getElem?_modify,if_true,hb,Option.map_some,Go.Sort.onCells]
  rw [sfCells_id pre _ sp l' hl.symm]
 have hoth : ∀ j,j ≠ b→(Go.Sort.putRow id (Go.Sort.ahead w m) b pre.length l'.toArray).heap[j]? = w.heap[j]?:=fun j hj=>by
  simp [Go.Sort.putRow,Go.Sort.mapBlock,Go.Sort.ahead,Array.getElem?_modify,Ne.symm hj]
 have hT : Wd S w0 (H.set k (Ent.vec (some ⟨b,pre.length,none⟩) n c e s l')) (Go.Sort.putRow id (Go.Sort.ahead w m) b pre.length l'.toArray):=by
  refine hW.turnAt hk ⟨rfl,rfl,rfl,by rw [hsz]; exact Nat.le_refl _,fun j _ hj=>hoth j fun e'=>hj (by simp [Ent.vec,e'])⟩ (fun b' hb'=>?_) fun w2 hw2=>?_
  ·simp only [Ent.vec,Option.map_some,Option.some.injEq] at hb' ⊢
   subst hb'
   exact ⟨.inl rfl,by rw [hsz]; exact hlt⟩
  ·have:=hw2 b (by simp [Ent.vec])
   refine ⟨by rw [hl]; exact h1,.inr ⟨b,pre,sp,rfl,h2,h3,h5,?_⟩⟩
   rw [this,hnew]
 refine hT.call ⟨rfl,rfl,rfl,by simp [Go.Sort.grow],fun j hj _=>?_⟩
 simp only [Go.Sort.grow]
 rw [Array.getElem?_append_left hj]
instance : Inhabited LVal:=⟨noV⟩
def sfC (x : Fin 1000 × LVal) : List Value:=[.int .i64 (x.1.val : Int),.bool x.2.reg,.int .i64 x.2.n]
theorem sfC_len (x : Fin 1000 × LVal) : (sfC x).length = 3:=rfl
def sfCmp (x y : Fin 1000 × LVal) : Int:=(x.1.val : Int) - (y.1.val : Int)
theorem sfCmp_lt (x y : Fin 1000 × LVal) : Go.Proofs.ltOf sfCmp x y = decide (x.1.val < y.1.val):=by
 unfold Go.Proofs.ltOf sfCmp
 rw [decide_eq_decide]
 omega
theorem sfCmp_swo : Go.Sort.SWO (Go.Proofs.ltOf sfCmp) where
 irrefl x:=by rw [sfCmp_lt]; simp
 trans x y z h1 h2:=by rw [sfCmp_lt] at *; simp at *; omega
 ntrans x y z h1 h2:=by rw [sfCmp_lt] at *; simp at *; omega
theorem flatK_list {α : Type} [Inhabited α] (enc : α→List Value) (k : Nat) (hk : ∀ x,(enc x).length = k) (l : List α) : Go.Sort.flatK enc k l.toArray = (l.flatMap enc).toArray:=by
 apply Array.ext'
 apply List.ext_getElem?
 intro t
 unfold Go.Sort.flatK
 have hfl : (l.flatMap enc).length = l.length * k:=flat_len hk l
 by_cases ht : t < l.length * k
 ·have hk0 : 0 < k:=by
   rcases Nat.eq_zero_or_pos k with e|e
   ·subst e; simp at ht
   ·exact e
  have h1 : t / k < l.length:=Nat.div_lt_of_lt_mul (by rwa [Nat.mul_comm])
  have h2 : t % k < k:=Nat.mod_lt _ hk0
  have h3:=flat_at hk l (t / k) l[t / k] (t % k) ((enc l[t / k])[t % k]'(by rw [hk]; exact h2)) (List.getElem?_eq_getElem h1) (List.getElem?_eq_getElem _)
  rw [show t / k * k + t % k = t from Nat.div_add_mod' t k] at h3
  simp only [Array.toList_map,List.getElem?_map,Array.toList_range,List.size_toArray]
  rw [List.getElem?_range ht,h3]
  simp [h1,hk,h2]
 ·rw [List.getElem?_eq_none (by simp; omega),List.getElem?_eq_none (by simp only [hfl]; omega)]
def fvC (x : Nat × LVal) : List Value:=[.int .i64 (x.1 : Int),.bool x.2.reg,.int .i64 x.2.n]
theorem fvC_len (x : Nat × LVal) : (fvC x).length = 3:=rfl
def toFin (x : Nat × LVal) : Fin 1000 × LVal:=(⟨x.1 % 1000,Nat.mod_lt _ (by omega)⟩,x.2)
def ofFin (x : Fin 1000 × LVal) : Nat × LVal:=(x.1.val,x.2)
theorem fvC_to {x : Nat × LVal} (h : x.1 < 1000) : sfC (toFin x) = fvC x:=by
 unfold sfC toFin fvC
 simp only
 rw [Nat.mod_eq_of_lt h]
theorem of_to {x : Nat × LVal} (h : x.1 < 1000) : ofFin (toFin x) = x:=by
 unfold ofFin toFin
 simp only
 rw [Nat.mod_eq_of_lt h]
theorem permIn_all {α : Type} [Inhabited α] {d d' : Array α} (h : Go.Sort.PermIn 0 d.size d d') : d'.toList.Perm d.toList:=by
 obtain ⟨h1,_,h3⟩:=h
 have e1 : d'.extract 0 d.size = d':=by rw [← h1]; simp
 have e2 : d.extract 0 d.size = d:=by simp
 rwa [e1,e2] at h3
open Go.Shelf Go.Lib Go.Sort in
theorem keepCmp_c (x y : Fin 1000 × LVal) (W : World) : Calls Tryz.prog 79 #[.agg (sfC x).toArray,.agg (sfC y).toArray] W fun e w'=>e = .returned (.int .i64 (sfCmp x y))∧∃ q os',w' = grow (W.drewN q) os':=by
 have hx:=x.1.isLt
 have hy:=y.1.isLt
 unfold sfC sfCmp
 go_enter Tryz.func79,Tryz.ntmps79
 go_wp2
 go_ret
 exact ⟨rfl,0,_,by rw [alloc_eq_grow,alloc_eq_grow,grow_grow]; rfl⟩
theorem sortF_c (a : Option Addr) (c : Nat) (l : List (Nat × LVal)) (hk : ∀ x ∈ l,x.1 < 1000) (hlen : l.length ≤ 100000) (w : World) (hw : Wd (fps [Ent.vec a l.length c 118 3 (l.flatMap fvC)]) w [Ent.vec a l.length c 118 3 (l.flatMap fvC)] w) :
  Ret Tryz.prog 78 [.slice a l.length c,.func (.func 79) #[] #[]] w fun u w'=>∃ l' : List (Nat × LVal),u = .tuple #[]∧Wd (fps [Ent.vec a l.length c 118 3 (l.flatMap fvC)]) w [Ent.vec a l'.length c 118 3 (l'.flatMap fvC)] w'∧(l'.Perm l∧l'.Pairwise fun x y=>x.1 < y.1 ∨ x.1 = y.1):=by
 rcases (hw.get (k:=0) rfl).2 with ⟨rfl,h0,rfl⟩|⟨b,pre,sp,rfl,h2,_⟩
 ·have hl : l = []:=List.eq_nil_of_length_eq_zero h0
  subst hl
  refine callsIn_wide.2 ((Go.Proofs.AnyF.slices_SortFunc_none sortFLays none 0 _ w).mono fun e w' ⟨he,hw'⟩=>⟨_,he,[],rfl,?_,List.Perm.refl _,List.Pairwise.nil⟩)
  rw [hw']
  exact hw
 ·have hfl : l.flatMap fvC = (l.map toFin).flatMap sfC:=by
   rw [List.flatMap_map]
   have : ∀ m : List (Nat × LVal),(∀ x ∈ m,x.1 < 1000)→m.flatMap fvC = m.flatMap fun x=>sfC (toFin x):=by
    intro m
    induction m with
    | nil=>exact fun _=>rfl
    | cons x m ih=>exact fun h=>by rw [List.flatMap_cons,List.flatMap_cons,fvC_to (h x (by simp)),ih fun y hy=>h y (by simp [hy])]
   exact this l hk
  have hd : (l.map toFin).toArray.size = l.length:=by simp
  have hH : Go.Sort.HoldsK sfC 3 w b pre.length (l.map toFin).toArray∧b < w.heap.size:=by
   obtain ⟨_,_,_,pre',sp',e,_,hb⟩:=hw.vecAt (k:=0) rfl
   have hlt:=(Array.getElem?_eq_some_iff.1 hb).1
   refine ⟨?_,hlt⟩
   unfold Go.Sort.HoldsK
   rw [flatK_list sfC 3 sfC_len,← hfl]
   intro j hj
   have hj' : j < (l.flatMap fvC).length:=by simpa using hj
   refine ⟨?_,by simp [World.frozen?,hb]⟩
   refine hw.vecCell (k:=0) rfl ?_
   rw [List.getElem?_eq_getElem hj']
   simp [List.getElem?_eq_getElem hj']
  have eg : ∀ args w,(callFunc 79 args).run Tryz.prog w = .ok (.enter 79 args) w:=enters_of Tryz.func79 (by kernel_rfl) rfl
  have hcon:=Go.Proofs.AnyQ.slices_SortFunc sortFLays 3 Tryz.isAgg118 Tryz.sizeOf118 sfC sfC_len (fun x v hv=>by simp [sfC] at hv; rcases hv with rfl|rfl|rfl <;> rfl) sfCmp sfCmp_swo 79 #[] b pre.length c (l.map toFin).toArray w eg (fun _ _ _ _ x y=>keepCmp_c x y _) hH.1 hH.2 (by rw [hd]; omega)
  rw [hd] at hcon
  refine callsIn_wide.2 (hcon.mono fun e w' ⟨he,d',m,os,h3,h4,hw'⟩=>⟨_,he,d'.toList.map ofFin,rfl,?_,?_,?_⟩)
  ·have hpl:=(permIn_all (by rw [hd]; exact h3)).length_eq
   have hdl : d'.toList.length = l.length:=by rw [hpl]; simp
   have:=hw.sortedV (k:=0) (m:=m) (os:=os) (l':=d'.toList.flatMap sfC) rfl (by rw [flat_len sfC_len,flat_len fvC_len,hdl])
   rw [hw']
   unfold sortWorldK Go.Sort.putRowK
   have e3 : Go.Sort.flatK sfC 3 d' = (d'.toList.flatMap sfC).toArray:=by
    have:=flatK_list sfC 3 sfC_len d'.toList
    simpa using this
   rw [e3]
   have e4 : (d'.toList.map ofFin).flatMap fvC = d'.toList.flatMap sfC:=by rw [List.flatMap_map]; rfl
   rw [e4,List.length_map,hdl]
   exact this
  ·have h5:=(permIn_all (by rw [hd]; exact h3)).map ofFin
   refine h5.trans ?_
   simp only [List.map_map]
   rw [show l.map (ofFin ∘ toFin) = l by
    conv=>rhs; rw [← List.map_id l]
    exact List.map_congr_left fun x hx=>of_to (hk x hx)]
  ·rw [List.pairwise_map,List.pairwise_iff_getElem]
   intro i j hi hj hij
   have hsz : d'.size = l.length:=by
    have:=h3.1
    rwa [hd] at this
   have h6:=h4 i j (Nat.zero_le _) hij (by simp at hj; omega)
   rw [sfCmp_lt] at h6
   simp at hi hj
   simp only [decide_eq_false_iff_not] at h6
   simp [hi,hj] at h6
   simp only [ofFin,Array.getElem_toList]
   omega
end Go.Proofs.YtpadjpplidlfeaaGreatDoor
