/- Lemmas. -/
import Derived.BigQuiet
import Derived.Deep.MidRow
import Derived.Deep.Quiet
import Derived.Great.BuildSlice
import Derived.Laws.OwnMore
import Derived.OrdersIn
import Derived.RangeFuncCalls
import Derived.TacticsIn
import Derived.WalkKit
namespace Go.Proofs.YthfhgolkafpmnaaGreatDoor
open Go.Value renaming int->J
open Go.IntKind renaming i64->Z
open Option renaming some->O,none->U
open Go renaming Value->K,World->ae
open List renaming replicate->aI
open Go.Code renaming wpIn->eY
open Go.Instr renaming sureAddr->dB,fieldAt->ez
open Go.Region renaming wanted->fq,ready->eZ
open Go.Exit renaming inBlock->vP
open Go Go.RowKit
variable {Qq:Act->Prop} {jB dw:Act->ae->Prop} {listed:Array Bool} {tJ:Array Nat} {r want:Bool} {m z:Int} {q:IntKind} {parts:List (Nat×Operand)} {xW:List (Nat×K)} {l l1 l2:List Oper} {args:List Operand} {cs ym news us vs xs zs:List K} {T T2 b b2 bt qz c c2 d e e2 f di i j k k2 n o o2 off s t ty:Nat} {S:Nat->Prop} {op:Op} {x y:Operand} {p:Prop} {α:Type} {u v:K} {R:K->ae->Prop} {w w':ae}
theorem V{p:Prop}(h:p:=by repeat(first|exact trivial|refine⟨rfl,?_⟩)):p:=h
theorem A{p:Prop}(h:p:=by omega):p:=h
theorem E{p:Prop}(h:p:=by decide+kernel):p:=h
theorem bC{p:Prop}(h:p:=by kernel_rfl):p:=h
theorem bT{p:Prop}(h:p:=by simp):p:=h
theorem aB{p:Prop}(h:p:=by repeat(first|exact List.Sublist.refl _|exact List.nil_sublist _|refine List.Sublist.cons_cons _ ?_|refine List.Sublist.cons _ ?_)):p:=h
theorem aF{α:Type}{l:List α}:l.Sublist l:=List.Sublist.refl l
theorem qy{α:Type}{l:List α}:([]:List α).Sublist l:=List.nil_sublist _
theorem dN{α:Type}{a:α}{l l':List α}(h:l.Sublist l'):(a::l).Sublist (a::l'):=.cons_cons _ h
theorem cn{p:Prop}(h:p:=by repeat(first|exact List.Sublist.refl _|refine List.Sublist.cons _ ?_)):p:=h
theorem bB{p:Prop}(h:p:=by simp only;omega):p:=h
theorem dr{p:Prop}(h:p:=by simp;omega):p:=h
theorem aD{p q:Prop}(h:p)(e:p->q:=by intro h;simpa using h):q:=e h
abbrev M(k p:Nat):Nat×Value:=(k,.pointer (some ⟨p,0,none⟩))
theorem bE{α:Type}(l:List α)(k:Nat)(h:k<l.length):∃x,l[k]?=some x:=⟨_,List.getElem?_eq_getElem h⟩
abbrev ax:=Option Addr
abbrev sR:ByteArray:=ByteArray.empty
abbrev aiV(n:Int):Value:=.int .i64 n
abbrev af9(b:Nat):Option Addr:=some ⟨b,0,none⟩
abbrev aiU(b o:Nat):Option Addr:=some ⟨b,o,none⟩
abbrev aiW(b:Nat):Value:=.pointer (some ⟨b,0,none⟩)
theorem Ca:type_of% @Array.getD_eq_getD_getElem?:=@Array.getD_eq_getD_getElem?
theorem zF:type_of% @Array.getElem?_eq_none:=@Array.getElem?_eq_none
theorem jl:type_of% @Array.getElem?_eq_some_iff:=@Array.getElem?_eq_some_iff
theorem fR:type_of% @Int.toNat_natCast:=@Int.toNat_natCast
theorem dU:type_of% @List.Sublist.refl:=@List.Sublist.refl
theorem iR:type_of% @List.Sublist.trans:=@List.Sublist.trans
theorem rG:type_of% @List.any_eq_true:=@List.any_eq_true
theorem fu:type_of% @List.append_assoc:=@List.append_assoc
theorem cj:type_of% @List.append_nil:=@List.append_nil
theorem bF:type_of% @List.cons_append:=@List.cons_append
theorem bU:type_of% @List.count_append:=@List.count_append
theorem bM:type_of% @List.count_cons:=@List.count_cons
theorem dG:type_of% @List.count_nil:=@List.count_nil
theorem AF:type_of% @List.drop_append_of_le_length:=@List.drop_append_of_le_length
theorem jb:type_of% @List.drop_eq_getElem_cons:=@List.drop_eq_getElem_cons
theorem gY:type_of% @List.drop_length:=@List.drop_length
theorem yd:type_of% @List.drop_length_add_append:=@List.drop_length_add_append
theorem nr:type_of% @List.eq_nil_of_length_eq_zero:=@List.eq_nil_of_length_eq_zero
theorem oC:type_of% @List.eq_of_mem_replicate:=@List.eq_of_mem_replicate
theorem nt:type_of% @List.eraseIdx_set_eq:=@List.eraseIdx_set_eq
theorem cY:type_of% @List.ext_getElem?:=@List.ext_getElem?
theorem mw:type_of% @List.filter_append:=@List.filter_append
theorem lV:type_of% @List.filter_congr:=@List.filter_congr
theorem nu:type_of% @List.filter_sublist:=@List.filter_sublist
theorem ee:type_of% @List.flatMap_append:=@List.flatMap_append
theorem fj:type_of% @List.flatMap_cons:=@List.flatMap_cons
theorem rT:type_of% @List.flatMap_def:=@List.flatMap_def
theorem qS:type_of% @List.flatMap_map:=@List.flatMap_map
theorem jc:type_of% @List.flatMap_nil:=@List.flatMap_nil
theorem qT:type_of% @List.foldl_append:=@List.foldl_append
theorem jZ:type_of% @List.foldl_cons:=@List.foldl_cons
theorem fF:type_of% @List.getD_eq_getElem?_getD:=@List.getD_eq_getElem?_getD
theorem eX:type_of% @List.getElem?_append_left:=@List.getElem?_append_left
theorem dH:type_of% @List.getElem?_append_right:=@List.getElem?_append_right
theorem oD:type_of% @List.getElem?_cons_succ:=@List.getElem?_cons_succ
theorem jN:type_of% @List.getElem?_cons_zero:=@List.getElem?_cons_zero
theorem gp:type_of% @List.getElem?_drop:=@List.getElem?_drop
theorem bL:type_of% @List.getElem?_eq_getElem:=@List.getElem?_eq_getElem
theorem cm:type_of% @List.getElem?_eq_none:=@List.getElem?_eq_none
theorem mx:type_of% @List.getElem?_eq_none_iff:=@List.getElem?_eq_none_iff
theorem aJ:type_of% @List.getElem?_eq_some_iff:=@List.getElem?_eq_some_iff
theorem aW:type_of% @List.getElem?_map:=@List.getElem?_map
theorem eD:type_of% @List.getElem?_mapIdx:=@List.getElem?_mapIdx
theorem rU:type_of% @List.getElem?_modify:=@List.getElem?_modify
theorem bR:type_of% @List.getElem?_of_mem:=@List.getElem?_of_mem
theorem gq:type_of% @List.getElem?_range:=@List.getElem?_range
theorem ku:type_of% @List.getElem?_replicate:=@List.getElem?_replicate
theorem vN:type_of% @List.getElem?_reverse:=@List.getElem?_reverse
theorem fN:type_of% @List.getElem?_set:=@List.getElem?_set
theorem fY:type_of% @List.getElem?_set_ne:=@List.getElem?_set_ne
theorem fk:type_of% @List.getElem?_set_self:=@List.getElem?_set_self
theorem yf:type_of% @List.getElem?_take_of_lt:=@List.getElem?_take_of_lt
theorem nw:type_of% @List.getElem_idxOf:=@List.getElem_idxOf
theorem my:type_of% @List.getElem_mem:=@List.getElem_mem
theorem yg:type_of% @List.idxOf_lt_length_iff:=@List.idxOf_lt_length_iff
theorem ll:type_of% @List.idxOf_lt_length_of_mem:=@List.idxOf_lt_length_of_mem
theorem bW:type_of% @List.length_append:=@List.length_append
theorem lF:type_of% @List.length_cons:=@List.length_cons
theorem eS:type_of% @List.length_drop:=@List.length_drop
theorem fC:type_of% @List.length_filter_le:=@List.length_filter_le
theorem aG:type_of% @List.length_map:=@List.length_map
theorem kR:type_of% @List.length_mapIdx:=@List.length_mapIdx
theorem pE:type_of% @List.length_nil:=@List.length_nil
theorem yh:type_of% @List.length_pos_iff:=@List.length_pos_iff
theorem d_:type_of% @List.length_range:=@List.length_range
theorem im:type_of% @List.length_replicate:=@List.length_replicate
theorem ny:type_of% @List.length_reverse:=@List.length_reverse
theorem fK:type_of% @List.length_set:=@List.length_set
theorem lm:type_of% @List.length_singleton:=@List.length_singleton
theorem dA:type_of% @List.length_take:=@List.length_take
theorem bz:type_of% @List.map_append:=@List.map_append
theorem ew:type_of% @List.map_congr_left:=@List.map_congr_left
theorem cf:type_of% @List.map_cons:=@List.map_cons
theorem pF:type_of% @List.map_id:=@List.map_id
theorem dM:type_of% @List.map_map:=@List.map_map
theorem dm:type_of% @List.map_nil:=@List.map_nil
theorem eT:type_of% @List.map_set:=@List.map_set
theorem bO:type_of% @List.mem_append:=@List.mem_append
theorem cM:type_of% @List.mem_append_left:=@List.mem_append_left
theorem en:type_of% @List.mem_append_right:=@List.mem_append_right
theorem bX:type_of% @List.mem_cons:=@List.mem_cons
theorem ey:type_of% @List.mem_cons_of_mem:=@List.mem_cons_of_mem
theorem vO:type_of% @List.mem_cons_self:=@List.mem_cons_self
theorem cR:type_of% @List.mem_filter:=@List.mem_filter
theorem dg:type_of% @List.mem_flatMap:=@List.mem_flatMap
theorem aT:type_of% @List.mem_map:=@List.mem_map
theorem aA:type_of% @List.mem_of_getElem?:=@List.mem_of_getElem?
theorem nz:type_of% @List.mem_of_mem_take:=@List.mem_of_mem_take
theorem j_:type_of% @List.mem_or_eq_of_mem_set:=@List.mem_or_eq_of_mem_set
theorem cW:type_of% @List.mem_range:=@List.mem_range
theorem bQ:type_of% @List.mem_singleton:=@List.mem_singleton
theorem qU:type_of% @List.ne_nil_of_mem:=@List.ne_nil_of_mem
theorem aS:type_of% @List.nil_append:=@List.nil_append
theorem nA:type_of% @List.nodup_append:=@List.nodup_append
theorem rV:type_of% @List.nodup_cons:=@List.nodup_cons
theorem tX:type_of% @List.nodup_range:=@List.nodup_range
theorem gr:type_of% @List.not_mem_nil:=@List.not_mem_nil
theorem qV:type_of% @List.pairwise_append:=@List.pairwise_append
theorem jm:type_of% @List.pairwise_cons:=@List.pairwise_cons
theorem fG:type_of% @List.perm_append_comm:=@List.perm_append_comm
theorem wZ:type_of% @List.perm_ext_iff_of_nodup:=@List.perm_ext_iff_of_nodup
theorem aX:type_of% @List.perm_iff_count:=@List.perm_iff_count
theorem rh:type_of% @List.perm_middle:=@List.perm_middle
theorem iV:type_of% @List.range_succ:=@List.range_succ
theorem kj:type_of% @List.set_append_right:=@List.set_append_right
theorem bS:type_of% @List.set_cons_succ:=@List.set_cons_succ
theorem bI:type_of% @List.set_cons_zero:=@List.set_cons_zero
theorem fe:type_of% @List.sublist_append_left:=@List.sublist_append_left
theorem eF:type_of% @List.sublist_append_right:=@List.sublist_append_right
theorem gh:type_of% @List.sublist_cons_self:=@List.sublist_cons_self
theorem g_:type_of% @List.sum_cons:=@List.sum_cons
theorem uL:type_of% @List.takeWhile_cons_of_pos:=@List.takeWhile_cons_of_pos
theorem bV:type_of% @List.take_add_one:=@List.take_add_one
theorem mg:type_of% @List.take_append_of_le_length:=@List.take_append_of_le_length
theorem cL:type_of% @List.take_length:=@List.take_length
theorem uM:type_of% @List.take_length_add_append:=@List.take_length_add_append
theorem jR:type_of% @List.take_of_length_le:=@List.take_of_length_le
theorem ri:type_of% @List.take_zero:=@List.take_zero
theorem eB:type_of% @Nat.add_assoc:=@Nat.add_assoc
theorem lk:type_of% @Nat.add_mul:=@Nat.add_mul
theorem uN:type_of% @Nat.add_sub_cancel_left:=@Nat.add_sub_cancel_left
theorem dR:type_of% @Nat.add_zero:=@Nat.add_zero
theorem sP:type_of% @Nat.eq_of_beq_eq_true:=@Nat.eq_of_beq_eq_true
theorem cz:type_of% @Nat.le_refl:=@Nat.le_refl
theorem dS:type_of% @Nat.le_trans:=@Nat.le_trans
theorem od:type_of% @Nat.lt_of_le_of_ne:=@Nat.lt_of_le_of_ne
theorem fP:type_of% @Nat.min_eq_left:=@Nat.min_eq_left
theorem sQ:type_of% @Nat.mul_le_mul_right:=@Nat.mul_le_mul_right
theorem km:type_of% @Nat.mul_one:=@Nat.mul_one
theorem cV:type_of% @Nat.sub_self:=@Nat.sub_self
theorem eC:type_of% @Nat.zero_add:=@Nat.zero_add
theorem aN:type_of% @Nat.zero_le:=@Nat.zero_le
theorem gw:type_of% @Option.getD_some:=@Option.getD_some
theorem ff:type_of% @Option.map_eq_some_iff:=@Option.map_eq_some_iff
theorem b_:type_of% @Option.map_some:=@Option.map_some
theorem bJ:type_of% @Option.some.inj:=@Option.some.inj
theorem cF:type_of% @Option.some.injEq:=@Option.some.injEq
theorem jk:type_of% @Option.toList_some:=@Option.toList_some
theorem ai:type_of% @if_neg:=@if_neg
theorem al:type_of% @if_pos:=@if_pos
theorem cE:type_of% @of_decide_eq_false:=@of_decide_eq_false
theorem iG:type_of% @of_decide_eq_true:=@of_decide_eq_true
theorem dv:type_of% @decide_eq_true_eq:=@decide_eq_true_eq
theorem fg:type_of% @decide_eq_false_iff_not:=@decide_eq_false_iff_not
theorem bD:type_of% @congrArg:=@congrArg
theorem fQ:type_of% @decide_eq_true:=@decide_eq_true
theorem gx:type_of% @decide_eq_false:=@decide_eq_false
theorem it:type_of% @Classical.byContradiction:=@Classical.byContradiction
theorem eU:type_of% @Bool.and_eq_true:=@Bool.and_eq_true
theorem iW:type_of% @Bool.and_eq_false_iff:=@Bool.and_eq_false_iff
theorem gy:type_of% @Bool.not_eq_true':=@Bool.not_eq_true'
theorem h_:type_of% @Decidable.not_not:=@Decidable.not_not
theorem jC:type_of% @World.block_lt_of_cell?:=@World.block_lt_of_cell?
theorem w_:type_of% @Classical.choose_spec:=@Classical.choose_spec
theorem kq:type_of% @decide_eq_decide:=@decide_eq_decide
theorem rj:type_of% @Bool.or_eq_true:=@Bool.or_eq_true
section
def FW(ro:Option Nat):Fence:={fn:=λ_=>True,depth:=U,alive:=false,round:=ro}
structure Fr(N:Nat)(ds:List Deferred)(L:List (Nat×K))(a:Act):Prop where
 size:a.tmps.size=N
 defers:a.defers=ds
 slot:∀p∈L,a.tmps[p.1]?=O p.2
section
variable {N:Nat} {ds:List Deferred} {L:List (Nat×K)} {a:Act}
theorem Fr.put(h:Fr N ds L a)(hd:d.blt N=true)(v:K)(fZ:∀p∈L,¬p.1=d):Fr N ds ((d,v)::L) (a.put (O d) v):=by
 have hd:d<N:=aD hd;refine⟨by simp[Act.put,h.size],by simpa[Act.put]using h.defers,λp hp=>?_⟩;rcases bX.1 hp with rfl|hp
 ·simp[Act.put,h.size,hd]
 ·have h1:=fZ p hp
  simp only[Act.put];rw[Array.getElem?_setIfInBounds,ai A];exact h.slot p hp
def wX(L:List (Nat×K)):List (Nat×K)->Prop
 |[]=>True
 |p::r=>L.lookup p.1=O p.2/\wX L r
theorem Gr{L:List (Nat×K)}(h:L.lookup s=O v):(s,v)∈L:=by
 induction L with
 |nil=>simp[List.lookup]at h
 |cons p r ih=>
  obtain⟨k,u⟩:=p;simp only[List.lookup_cons]at h
  by_cases e:s=k
  ·subst e
   simp at h;subst h;simp
  ·have:(s==k)=false:=aD e
   simp only[this]at h;exact ey _ (ih h)
theorem Fr.to(h:Fr N ds L a){L':List (Nat×K)}(hs:wX L L'):Fr N ds L' a:=by
 refine⟨h.size,h.defers,λp hp=>?_⟩
 induction L' with
 |nil=>simp at hp
 |cons q r ih=>
  obtain⟨h1,h2⟩:=hs;rcases bX.1 hp with rfl|hp
  ·exact h.slot p (Gr h1)
  ·exact ih h2 hp
end
structure nX(S:Nat->Prop)(w w':ae):Prop where
 os:w'.os=w.os
 tape:w'.tape=w.tape
 output:w'.output=w.output
 size:w.heap.size<=w'.heap.size
 block:∀k,k<w.heap.size->¬S k->w'.heap[k]?=w.heap[k]?
def db:Nat->Prop:=λ_=>False
theorem nX.refl(S:Nat->Prop)(w:ae):nX S w w:=⟨rfl,rfl,rfl,cz _,λ_ _ _=>rfl⟩
theorem nX.trans{a b c:ae}(h:nX S a b)(k:nX S b c):nX S a c:=
 ⟨k.os.trans h.os,k.tape.trans h.tape,k.output.trans h.output,dS h.size k.size,λi hi hS=>(k.block i (by have:=h.size;omega) hS).trans (h.block i hi hS)⟩
theorem nX.mono{T:Nat->Prop}(h:nX S w w')(hs:∀b,b<w.heap.size->S b->T b):nX T w w':=
 ⟨h.os,h.tape,h.output,h.size,λk hk hT=>h.block k hk λhS=>hT (hs k hk hS)⟩
theorem nX.below(h:nX db w w'):Below w.heap.size w w':=⟨h.os,h.tape,h.output,h.size,λk hk=>h.block k hk (λh=>h)⟩
theorem nX.heap(ho:w'.os=w.os)(ht:w'.tape=w.tape)(hp:w'.output=w.output)(h:w'.heap=w.heap)(S:Nat->Prop):nX S w w':=⟨ho,ht,hp,by rw[h];exact cz _,λ_ _ _=>by rw[h]⟩
theorem nX.alloc(w:ae)(o:Obj)(S:Nat->Prop):nX S w (w.alloc o):=⟨rfl,rfl,rfl,by simp,λk hk _=>Below.heap_alloc w o k hk⟩
theorem nX.setCell(w:ae)(p:Addr)(v:K):nX (λb=>b=p.block) w (w.setCell p v):=
 ⟨rfl,rfl,rfl,by simp[World.setCell],λk _ hk=>Below.heap_setCell w p v k hk⟩
structure cq where
 fp:Nat->Prop
 ok:ae->Prop
def aM(b:Nat)(cs:List K)(t:TypeId):cq:=⟨λk=>k=b,λw=>w.heap[b]?=O (.cells cs.toArray t (0,0))⟩
def df(H:List cq):Nat->Prop:=λb=>∃e∈H,e.fp b
structure Wd(S:Nat->Prop)(w0:ae)(H:List cq)(w:ae):Prop where
 c_:nX S w0 w
 own:∀e∈H,∀b,e.fp b->(S b\/w0.heap.size<=b)/\b<w.heap.size
 ok:∀e∈H,∀w':ae,w.heap.size<=w'.heap.size->(∀b,e.fp b->w'.heap[b]?=w.heap[b]?)->e.ok w'
 apart:H.Pairwise λe f=>∀b,e.fp b->¬f.fp b
section
variable {S:Nat->Prop} {w0 w w':ae} {H H1 H' cZ:List cq}
theorem Wd.nil(S:Nat->Prop)(w:ae):Wd S w [] w:=⟨nX.refl _ _,by simp,by simp,by simp⟩
theorem Wd.get(h:Wd S w0 H w){e:cq}(hk:H[k]?=O e):e.ok w:=h.ok e (aA hk) w (cz _) λ_ _=>rfl
theorem Wd.size(h:Wd S w0 H w):w0.heap.size<=w.heap.size:=h.c_.size
theorem Wd.sub(h:Wd S w0 H w)(hs:H'.Sublist H):Wd S w0 H' w:=
 ⟨h.c_,λe he=>h.own e (hs.subset he),λe he=>h.ok e (hs.subset he),h.apart.sublist hs⟩
theorem Wd.perm(h:Wd S w0 H w)(hp:H.Perm H'):Wd S w0 H' w:=
 ⟨h.c_,λe he=>h.own e (hp.mem_iff.2 he),λe he=>h.ok e (hp.mem_iff.2 he),
  (hp.pairwise_iff (λZk b hy hx=>Zk b hx hy)).1 h.apart⟩
theorem Wd.pre(h:Wd S w0 (H1++H) w):Wd (df H1) w H1 w:=
 ⟨nX.refl _ _,λe he b hb=>⟨.inl ⟨e,he,hb⟩,(h.own e (cM _ he) b hb).2⟩,λe he=>h.ok e (cM _ he),(qV.1 h.apart).1⟩
theorem Wd.comp(h:Wd S w0 (H1++H) w)(hc:Wd (df H1) w cZ w'):Wd S w0 (cZ++H) w':=by
 have hS:∀b,df H1 b->S b\/w0.heap.size<=b:=λb ⟨e,he,hb⟩=>(h.own e (cM _ he) b hb).1;have AW:=(qV.1 h.apart);have mK:=h.c_.size;have afy:=hc.c_.size;have cB:∀f∈H,∀b,f.fp b->w'.heap[b]?=w.heap[b]?:=λf hf b hb=>
  hc.c_.block b (h.own f (en _ hf) b hb).2 λ⟨e,he,zR⟩=>AW.2.2 e he f hf b zR hb
 refine⟨⟨hc.c_.os.trans h.c_.os,hc.c_.tape.trans h.c_.tape,hc.c_.output.trans h.c_.output,dS mK afy,λk hk hnS=>?_⟩,?_,?_,?_⟩
 ·exact(hc.c_.block k A λhf=>(hS k hf).elim hnS λh1=>A).trans (h.c_.block k hk hnS)
 ·intro e he b hb
  rcases bO.1 he with he|he
  ·have h1:=hc.own e he b hb
   exact⟨h1.1.elim (hS b) λh2=>.inr A,h1.2⟩
  ·have h1:=h.own e (en _ he) b hb
   exact⟨h1.1,A⟩
 ·intro e he w2 NG lP
  rcases bO.1 he with he|he
  ·exact hc.ok e he w2 NG lP
  ·exact h.ok e (en _ he) w2 (dS afy NG) λb hb=>(lP b hb).trans (cB e he b hb)
 ·refine qV.2 ⟨hc.apart,AW.2.1,λe he f hf b hb Ar=>?_⟩
  have ce:=(h.own f (en _ hf) b Ar).2;rcases(hc.own e he b hb).1 with⟨g,hg,Pg⟩|h1
  ·exact AW.2.2 g hg f hf b Pg Ar
  ·omega
theorem Wd.same(h:Wd S w0 H w)(ho:w'.os=w.os)(ht:w'.tape=w.tape)(hp:w'.output=w.output)(hh:w'.heap=w.heap):Wd S w0 H w':=
 ⟨h.c_.trans (nX.heap ho ht hp hh S),by rw[hh];exact h.own,λe he w2 NG lP=>h.ok e he w2 (by rw[hh]at NG;exact NG) (by rw[hh]at lP;exact lP),h.apart⟩
theorem Wd.more(h:Wd S w0 H w)(hc:Wd db w cZ w'):Wd S w0 (cZ++H) w':=by
 refine Wd.comp (H1:=[]) h ⟨hc.c_.mono (λb _ hb=>hb.elim),λe he b hb=>?_,hc.ok,hc.apart⟩;have:=hc.own e he b hb;exact⟨.inr (this.1.elim (λh=>h.elim) id),this.2⟩
theorem Wd.call(h:Wd S w0 H w)(hc:nX db w w'):Wd S w0 H w':=
 Wd.more (cZ:=[]) h ⟨hc,by simp,by simp,by simp⟩
theorem Wd.box(h:Wd S w0 H w)(cs:List K)(t:TypeId):Wd S w0 (aM w.heap.size cs t::H) (w.alloc (.cells cs.toArray t)):=by
 refine Wd.more (cZ:=[aM w.heap.size cs t]) h ⟨nX.alloc _ _ _,?_,?_,by simp⟩
 ·intro e he b hb
  simp only[bQ]at he;subst he;simp only[aM]at hb;subst hb;exact⟨.inr (cz _),by simp⟩
 ·intro e he w2 _ lP
  simp only[bQ]at he;subst he;have:=lP w.heap.size rfl;simp only[aM];rw[this];exact heap_alloc_new w _
theorem adu{e e':cq}(hc:nX e.fp w w')(ho:∀b,e'.fp b->(e.fp b\/w.heap.size<=b)/\b<w'.heap.size)(dV:∀w2:ae,(∀b,e'.fp b->w2.heap[b]?=w'.heap[b]?)->e'.ok w2):Wd (df [e]) w [e'] w':=by
 refine⟨hc.mono λb _ hb=>⟨e,by simp,hb⟩,?_,?_,by simp⟩
 ·intro f hf b hb
  simp only[bQ]at hf;subst hf;have:=ho b hb;exact⟨this.1.imp (λh=>⟨e,by simp,h⟩) id,this.2⟩
 ·intro f hf
  simp only[bQ]at hf;subst hf;exact λw2 _ h=>dV w2 h
theorem Wd.aiS{e e':cq}(h:Wd S w0 (e::H) w)(hc:nX e.fp w w')(ho:∀b,e'.fp b->(e.fp b\/w.heap.size<=b)/\b<w'.heap.size)(dV:∀w2:ae,(∀b,e'.fp b->w2.heap[b]?=w'.heap[b]?)->e'.ok w2):Wd S w0 (e'::H) w':=
 Wd.comp (H1:=[e]) (cZ:=[e']) h (adu hc ho dV)
theorem Fe{l:List α}{e:α}(h:l[k]?=O e)(e':α):(e'::l.eraseIdx k).Perm (l.set k e'):=by
 induction l generalizing k with
 |nil=>simp at h
 |cons x r ih=>
  cases k with
  |zero=>simp
  |succ k=>
   simp only[oD]at h;simp only[List.eraseIdx_cons_succ,bS];exact(List.Perm.swap x e' _).trans ((ih h).cons x)
theorem lh{l:List α}{e:α}(h:l[k]?=O e):l.Perm (e::l.eraseIdx k):=by
 have:=Fe h e;have hs:l.set k e=l:=by
  apply cY;intro i;rw[fN]
  split
  ·rename_i hi;subst hi;split
   ·exact h.symm
   ·rename_i ce;rw[cm A]
  ·rfl
 rw[hs]at this;exact this.symm
theorem Wd.nV{e e':cq}(h:Wd S w0 H w)(hk:H[k]?=O e)(hc:nX e.fp w w')(ho:∀b,e'.fp b->(e.fp b\/w.heap.size<=b)/\b<w'.heap.size)(dV:∀w2:ae,(∀b,e'.fp b->w2.heap[b]?=w'.heap[b]?)->e'.ok w2):Wd S w0 (H.set k e') w':=
 ((h.perm (lh hk)).aiS hc ho dV).perm (Fe hk e')
theorem Wd.DL(h:Wd S w0 H w){p:Addr}(hc:w0.cell? p=O v)(hS:¬S p.block:=by exact λh=>h):w.cell? p=O v:=by
 have ce:=jC w0 p hc;rw[<-hc];exact World.cell?_of_block (h.c_.block _ ce hS)
theorem Wd.rX(h:Wd S w0 H w)(k:Nat){t:TypeId}(hk:H[k]?=O (aM b cs t))(hc:cs[o]?=O v):w.cell? ⟨b,o,U⟩=O v:=by
 have:=h.get hk;simp only[aM]at this;simp[World.cell?,this,hc]
theorem Wd.GK(h:Wd S w0 H w)(k:Nat){t:TypeId}(hk:H[k]?=O (aM b cs t)):w.heap[b]?=O (.cells cs.toArray t (0,0)):=h.get hk
theorem zr{w:ae}{t:TypeId}(hb:w.heap[b]?=O (.cells cs.toArray t (0,0)))(v:K):
  (w.setCell ⟨b,o,U⟩ v).heap[b]?=O (.cells (cs.set o v).toArray t (0,0)):=by
 simp[World.setCell,Array.getElem?_modify,hb]
theorem Wd.WT(h:Wd S w0 H w)(k:Nat){t:TypeId}(v:K)(hk:H[k]?=O (aM b cs t)):
  Wd S w0 (H.set k (aM b (cs.set o v) t)) (w.setCell ⟨b,o,U⟩ v):=by
 have hb:=h.GK k hk;have ce:b<w.heap.size:=(jl.1 hb).1;refine h.nV hk (nX.setCell w ⟨b,o,U⟩ v) (λb' oX=>?_) λw2 lP=>?_
 ·simp only[aM]at oX|-
  subst oX;exact⟨.inl rfl,by simpa[World.setCell]using ce⟩
 ·have:=lP b rfl
  simp only[aM];rw[this];exact zr hb v
theorem Wd.WL(h:Wd S w0 H w)(k:Nat){t:TypeId}(vs:List K)(hk:H[k]?=O (aM b cs t)):
  Wd S w0 (H.set k (aM b vs t)) (w.setRow b vs.toArray):=by
 have hb:=h.GK k hk;have ce:b<w.heap.size:=(jl.1 hb).1;have mK:(w.setRow b vs.toArray).heap.size=w.heap.size:=by simp[World.setRow]
 refine h.nV hk ⟨rfl,rfl,rfl,by rw[mK];exact cz _,λk _ hk=>setRow_other w b k _ hk⟩ (λb' oX=>?_) λw2 lP=>?_
 ·simp only[aM]at oX|-
  subst oX;exact⟨.inl rfl,by rw[mK];exact ce⟩
 ·have:=lP b rfl
  simp only[aM];rw[this];exact setRow_heap w b cs.toArray _ t _ hb
end
class eJ{α:Type}(l:List α)(k:Nat)(x:outParam α):Prop where
 at':l[k]?=O x
instance(x:α)(l:List α):eJ (x::l) 0 x:=⟨rfl⟩
instance(x y:α)(l:List α)(k:Nat)[h:eJ l k x]:eJ (y::l) (k+1) x:=⟨h.at'⟩
class wG{α:Type}(l:List α)(k:Nat)(x:α)(l':outParam (List α)):Prop where
 Gv:l.set k x=l'
instance(x y:α)(l:List α):wG (y::l) 0 x (x::l):=⟨rfl⟩
instance(x y:α)(l l':List α)(k:Nat)[h:wG l k x l']:wG (y::l) (k+1) x (y::l'):=⟨by rw[bS,h.Gv]⟩
class mL{α:Type}(l:List α)(n:Nat):Prop where
 eq:l.length=n
instance:mL ([]:List α) 0:=⟨rfl⟩
instance(x:α)(l:List α)(n:Nat)[h:mL l n]:mL (x::l) (n+1):=⟨by rw[lF,h.eq]⟩
class sM(H:List cq)(b:Nat)(k:outParam Nat)(cs:outParam (List K))(t:outParam TypeId):Prop where
 at':H[k]?=O (aM b cs t)
instance(b:Nat)(cs:List K)(t:TypeId)(H:List cq):sM (aM b cs t::H) b 0 cs t:=⟨rfl⟩
instance(b:Nat)(cs:List K)(t:TypeId)(H:List cq)(e:cq)(k:Nat)[h:sM H b k cs t]:sM (e::H) b (k+1) cs t:=⟨h.at'⟩
class jY(v:K)(cs:outParam (List K)):Prop where
 eq:v.cells.toList=cs
instance(l:List K):jY (.agg l.toArray) l:=⟨rfl⟩
instance(b:Bool):jY (.bool b) [.bool b]:=⟨rfl⟩
instance(k:IntKind)(n:Int):jY (J k n) [J k n]:=⟨rfl⟩
instance(s:ByteArray):jY (.string s) [.string s]:=⟨rfl⟩
instance(p:ax):jY (.pointer p) [.pointer p]:=⟨rfl⟩
instance(p:ax)(n c:Nat):jY (.slice p n c) [.slice p n c]:=⟨rfl⟩
instance:jY .nilFunc [.nilFunc]:=⟨rfl⟩
def tR:List K->Nat->List K->List K
 |cs,_,[]=>cs
 |[],_,_::_=>[]
 |_::cs,0,v::vs=>v::tR cs 0 vs
 |c::cs,o+1,v::vs=>c::tR cs o (v::vs)
class CX(cs:List K)(o:Nat)(vs:List K)(ym:outParam (List K)):Prop where
 eq:tR cs o vs=ym
 le:o+vs.length<=cs.length
instance(cs:List K):CX cs 0 [] cs:=⟨by cases cs<;>rfl,by simp⟩
instance(c v:K)(cs vs ym:List K)[h:CX cs 0 vs ym]:CX (c::cs) 0 (v::vs) (v::ym):=⟨by simp only[tR,h.eq],by have:=h.le;simp at this|-;omega⟩
instance(c v:K)(cs vs ym:List K)(o:Nat)[h:CX cs o (v::vs) ym]:CX (c::cs) (o+1) (v::vs) (c::ym):=⟨by simp only[tR,h.eq],by have:=h.le;simp at this|-;omega⟩
theorem wv:∀(cs:List K) (o:Nat) (vs:List K),o+vs.length<=cs.length->cs.take o++vs++cs.drop (o+vs.length)=tR cs o vs
 |[],o,[],h=>by simp[tR]
 |c::cs,o,[],h=>by simp[tR]
 |[],_,_::_,h=>by simp at h
 |c::cs,0,v::vs,h=>by
  have:=wv cs 0 vs (by simp at h|-;omega);simp[tR]at this|-
  exact this
 |c::cs,o+1,v::vs,h=>by
  have:=wv cs o (v::vs) (by simp at h|-;omega);simp only[tR];rw[<-this];have e:o+1+(v::vs).length=(o+(v::vs).length)+1:=A;rw[e];simp
class HT(places:List (Nat×Nat))(cs:List K)(parts:List (Nat×K))(ym:outParam (List K)):Prop where
 eq:Instr.fill (λi=>places[i]?) cs.toArray parts=O ym.toArray
theorem uS:∀(vs:List K) (cs:List K) (o j:Nat),o+j+vs.length<=cs.length->
  (vs.zipIdx j).foldl (λ(a:Array K) (p:K×Nat)=>a.setIfInBounds (o+p.2) p.1) cs.toArray=(tR cs (o+j) vs).toArray
 |[],cs,o,j,_=>by cases cs<;>simp[tR]
 |v::vs,cs,o,j,hl=>by
  simp only[List.zipIdx_cons,jZ];rw[show cs.toArray.setIfInBounds (o+j) v=(cs.set (o+j) v).toArray by simp];rw[uS vs (cs.set (o+j) v) o (j+1) (by simp at hl|-;omega)];congr 1;have key:∀(cs:List K) (k:Nat),k+(v::vs).length<=cs.length->tR (cs.set k v) (k+1) vs=tR cs k (v::vs):=by
   intro cs
   induction cs with
   |nil=>intro k hk;simp at hk
   |cons c cs ih=>
    intro k hk;cases k with
    |zero=>
     cases vs with
     |nil=>cases cs<;>simp[tR]
     |cons u us=>simp[tR]
    |succ k=>
     cases vs with
     |nil=>
      have:=ih k (by simp at hk|-;omega);simp only[bS,tR];rw[<-this];cases cs.set k v<;>simp[tR]
     |cons u us=>
      have:=ih k (by simp at hk|-;omega);simp only[bS,tR];rw[<-this]
  exact key cs (o+j) (by simp at hl|-;omega)
instance(places:List (Nat×Nat))(cs:List K):HT places cs [] cs:=⟨rfl⟩
instance(places:List (Nat×Nat))(cs vs cs1 Jq:List K)(i off size:Nat)(v:K)(r:List (Nat×K))[hp:eJ places i (off,size)][hv:jY v vs][hq:CX cs off vs cs1][hl:mL vs size][hr:HT places cs1 r Jq]:HT places cs ((i,v)::r) Jq:=⟨by
 have hlen:v.cells.size=size:=by rw[<-Array.length_toList,hv.eq,hl.eq]
 have hle:=hq.le
 have fZ:¬((decide (v.cells.size≠size)||decide (off+v.cells.size>cs.toArray.size))=true):=by
  simp[hlen]
  rw[<-hl.eq];omega
 simp only[Instr.fill,hp.at']
 rw[ai fZ]
 have hz:v.cells.zipIdx.foldl (λcs (x:K×Nat)=>cs.setIfInBounds (off+x.2) x.1) cs.toArray=cs1.toArray:=by
  have e:v.cells=vs.toArray:=by rw[<-hv.eq]
  rw[e]
  have:=uS vs cs off 0 A
  rw[<-hq.eq]
  simpa using this
 rw[hz]
 exact hr.eq⟩
structure cI where
 dq:Bool
 n:Int
 deriving DecidableEq
structure iA where
 op:Int
 dst:Int
 a:cI
 b:cI
 fn:Int
 args:List cI
 deriving DecidableEq
structure gD where
 dst:Int
 src:List cI
 deriving DecidableEq
structure aq where
 bg:List gD
 list:List iA
 kind:Int
 on:cI
 to:List Int
 deriving DecidableEq
structure bZ where
 name:ByteArray
 params:Int
 bm:Int
 blocks:List aq
structure lD where
 name:ByteArray
 size:Int
 init:List Int
structure dk where
 globals:List lD
 funcs:List bZ
def dE(x:Int):Prop:=-9223372036854775808<=x/\x<=9223372036854775807
def ct(w:ae)(b o:Nat)(cs:List K):Prop:=∀j v,cs[j]?=O v->w.cell? ⟨b,o+j,U⟩=O v
def aY{α:Type}(w:ae)(v:K)(s:Nat)(l:List α)(dL:ae->α->List K->Prop):Prop:=
 ∃(a:ax) (n c b o:Nat),v=.slice a n c/\n=l.length/\n<=c/\n<=140737488355328/\c<=9223372036854775807/\(l≠[]->a=O ⟨b,o,U⟩)/\∀i x,l[i]?=O x->∃cs,ct w b (o+i*s) cs/\dL w x cs
def gI(_:ae)(x:Int)(cs:List K):Prop:=cs=[J Z x]/\dE x
def CT(_:ae)(x:Bool)(cs:List K):Prop:=cs=[.bool x]
def S9(_:ae)(x:ByteArray)(cs:List K):Prop:=cs=[.string x]
def mp(_:ae)(x:cI)(cs:List K):Prop:=cs=[.bool x.dq,J Z x.n]/\dE x.n
def B_(w:ae)(x:gD)(cs:List K):Prop:=∃v,cs=[J Z x.dst,v]/\dE x.dst/\aY w v 2 x.src mp
def Dm(w:ae)(x:iA)(cs:List K):Prop:=∃v,cs=[J Z x.op,J Z x.dst,.bool x.a.dq,J Z x.a.n,.bool x.b.dq,J Z x.b.n,J Z x.fn,v]/\
 dE x.op/\dE x.dst/\dE x.a.n/\dE x.b.n/\dE x.fn/\aY w v 2 x.args mp
def da(w:ae)(x:aq)(cs:List K):Prop:=∃p l t,cs=[p,l,J Z x.kind,.bool x.on.dq,J Z x.on.n,t]/\dE x.kind/\dE x.on.n/\
 aY w p 2 x.bg B_/\aY w l 8 x.list Dm/\aY w t 1 x.to gI
def kG(w:ae)(x:bZ)(cs:List K):Prop:=∃v,cs=[.string x.name,J Z x.params,J Z x.bm,v]/\dE x.params/\dE x.bm/\aY w v 6 x.blocks da
def gX(w:ae)(x:lD)(cs:List K):Prop:=∃v,cs=[.string x.name,J Z x.size,v]/\dE x.size/\aY w v 1 x.init gI
def adC(w:ae)(x:dk)(cs:List K):Prop:=∃g f,cs=[g,f]/\aY w g 3 x.globals gX/\aY w f 4 x.funcs kG
theorem jv(h:nX db w w'){p:Addr}(hc:w.cell? p=O v):w'.cell? p=O v:=by
 rw[<-hc];exact World.cell?_of_block (h.block _ (jC w p hc) λh=>h)
theorem ct.cB(h:nX db w w')(hc:ct w b o cs):ct w' b o cs:=λj v hj=>jv h (hc j v hj)
def zd{α:Type}(dL:ae->α->List K->Prop):Prop:=∀w w',nX db w w'->∀x cs,dL w x cs->dL w' x cs
theorem aY.cB{dL:ae->α->List K->Prop}(hV:zd dL)(h:nX db w w'){l:List α}(hs:aY w v s l dL):aY w' v s l dL:=by
 obtain⟨a,n,c,b,o,h1,h2,h3,hz,h4,h5,h6⟩:=hs;refine⟨a,n,c,b,o,h1,h2,h3,hz,h4,h5,λi x hx=>?_⟩;obtain⟨cs,hc,hv⟩:=h6 i x hx;exact⟨cs,hc.cB h,hV w w' h x cs hv⟩
theorem du:zd gI:=λ_ _ _ _ _ h=>h
theorem NY:zd CT:=λ_ _ _ _ _ h=>h
theorem Hl:zd S9:=λ_ _ _ _ _ h=>h
theorem jH:zd mp:=λ_ _ _ _ _ h=>h
theorem nF:zd B_:=λ_ _ hc _ _ ⟨v,h1,h2,h3⟩=>⟨v,h1,h2,h3.cB jH hc⟩
theorem vq:zd Dm:=λ_ _ hc _ _ ⟨v,h1,h2,h3,h4,h5,h6,h7⟩=>⟨v,h1,h2,h3,h4,h5,h6,h7.cB jH hc⟩
theorem cu:zd da:=λ_ _ hc _ _ ⟨p,l,t,h1,h2,h3,h4,h5,h6⟩=>⟨p,l,t,h1,h2,h3,h4.cB nF hc,h5.cB vq hc,h6.cB du hc⟩
theorem ie:zd kG:=λ_ _ hc _ _ ⟨v,h1,h2,h3,h4⟩=>⟨v,h1,h2,h3,h4.cB cu hc⟩
theorem gS:zd gX:=λ_ _ hc _ _ ⟨v,h1,h2,h3⟩=>⟨v,h1,h2,h3.cB du hc⟩
structure St(N:Nat)(ds:List Deferred)(S:Nat->Prop)(w0:ae)(L:List (Nat×K))(H:List cq)(a:Act)(w:ae):Prop where
 fr:Fr N ds L a
 wd:Wd S w0 H w
def cU(N:Nat)(ds:List Deferred)(S:Nat->Prop)(w0:ae)(L:List (Nat×K))(H:List cq)(p:Act->ae->Prop):Prop:=∀a w,St N ds S w0 L H a w->p a w
class dF(P:Program)(T i:Nat)(off:outParam Nat):Prop where
 run:∀(b o:Nat) (w:ae),(ez T (.pointer (O ⟨b,o,U⟩)) i).run P w=.ok (.pointer (O ⟨b,o+off,U⟩)) w
class gv(P:Program)(T:Nat)(s:outParam Nat):Prop where
 sy:P.underlying T=O (.slice (P.elem T))
 sz:∀w:ae,(sizeOf (P.elem T)).run P w=.ok s w
class OneCell(P:Program)(T:Nat):Prop where
 agg:∀w:ae,(isAgg T).run P w=.ok false w
 sz:∀w:ae,(sizeOf T).run P w=.ok 1 w
class gO(P:Program)(T:Nat)(n:outParam Nat):Prop where
 agg:∀w:ae,(isAgg T).run P w=.ok true w
 sz:∀w:ae,(sizeOf T).run P w=.ok n w
class jM(P:Program)(T:Nat)(z:outParam K):Prop where
 run:∀w:ae,(zeroValue T).run P w=.ok z w
class bf(P:Program)(f:Nat):Prop where
 run:∀(args:Array K) (w:ae),(callFunc f args).run P w=.ok (.enter f args) w
class kI(P:Program)(T:Nat)(zs:outParam (List K))(places:outParam (List (Nat×Nat))):Prop where
 built:∀parts cells,Instr.fill (λi=>places[i]?) zs.toArray parts=O cells->P.built T parts=O cells
class CU(P:Program)(T:Nat)(u v:K)(r:outParam Bool):Prop where
 grd:∀op x y w,(eqGuard op T x y u v).run P w=.ok () w
 eq:∀w:ae,(binOp .eql T u v).run P w=.ok (.bool r) w
 ne:∀w:ae,(binOp .neq T u v).run P w=.ok (.bool (!r)) w
class B6(w:ae)(b o:Nat)(v:outParam K):Prop where
 eq:w.cell? ⟨b,o,U⟩=O v
class bu(w:ae)(b o:Nat)(cs:outParam (List K)):Prop where
 eq:ct w b o cs
instance(priority:=high)[h:bu w b o cs][hv:eJ cs j v]:B6 w b (o+j) v:=⟨h.eq j v hv.at'⟩
instance[h:bu w b o cs][hv:eJ cs 0 v]:B6 w b o v:=⟨h.eq 0 v hv.at'⟩
class cl(a:ax)(b o:outParam Nat):Prop where
 eq:a=O ⟨b,o,U⟩
instance(b o:Nat):cl (O ⟨b,o,U⟩) b o:=⟨rfl⟩
class cg(i n:Nat):Prop where
 lt:i<n
class oT(x:Int)(i:outParam Nat):Prop where
 eq:x=(i:Int)
instance(i:Nat):oT (i:Int) i:=⟨rfl⟩
instance:oT 0 0:=⟨rfl⟩
instance:oT 1 1:=⟨rfl⟩
class HQ(o k:Nat)(s:outParam Nat):Prop where
 eq:o+k=s
instance(priority:=2000)(o:Nat):HQ o 0 o:=⟨rfl⟩
instance(priority:=1900)(k:Nat):HQ 0 k k:=⟨eC k⟩
instance(priority:=3000):HQ 2 1 3:=⟨rfl⟩
instance(priority:=3000):HQ 2 2 4:=⟨rfl⟩
instance(priority:=3000):HQ 2 3 5:=⟨rfl⟩
instance(priority:=2500)(o:Nat):HQ (o+2) 1 (o+3):=⟨rfl⟩
instance(priority:=2500)(o:Nat):HQ (o+2) 3 (o+5):=⟨rfl⟩
instance(o k:Nat):HQ o k (o+k):=⟨rfl⟩
class JM(b:Bool)(c:outParam Bool):Prop where
 eq:(!b)=c
instance(priority:=2000):JM true false:=⟨rfl⟩
instance(priority:=2000):JM false true:=⟨rfl⟩
instance(b:Bool):JM b (!b):=⟨rfl⟩
class jQ(L:List (Nat×K))(t:Nat)(v:outParam K):Prop where
 mem:(t,v)∈L
instance(t:Nat)(v:K)(L:List (Nat×K)):jQ ((t,v)::L) t v:=⟨by simp⟩
instance(t:Nat)(v:K)(p:Nat×K)(L:List (Nat×K))[h:jQ L t v]:jQ (p::L) t v:=⟨ey _ h.mem⟩
class Ev(L:List (Nat×K))(x:Operand)(v:outParam K):Prop where
 eq:∀(N:Nat) (ds:List Deferred) (a:Act),Fr N ds L a->a.eval x=v
instance(L:List (Nat×K))(t:Nat)(v:K)[h:jQ L t v]:Ev L (.tmp t) v:=⟨λ_ _ a hF=>by simp[Act.eval,hF.slot _ h.mem]⟩
instance(L:List (Nat×K))(v:K):Ev L (.const v) v:=⟨λ_ _ _ _=>rfl⟩
instance(L:List (Nat×K))(g:Nat):Ev L (.global g) (.pointer (O ⟨g,0,U⟩)):=⟨λ_ _ _ _=>rfl⟩
instance(L:List (Nat×K))(f:Nat):Ev L (.func f) (.func (.func f) #[] #[]):=⟨λ_ _ _ _=>rfl⟩
class B8(L:List (Nat×K))(xs:List Operand)(vs:outParam (List K)):Prop where
 eq:∀(N:Nat) (ds:List Deferred) (a:Act),Fr N ds L a->xs.map a.eval=vs
instance(L:List (Nat×K)):B8 L [] []:=⟨λ_ _ _ _=>rfl⟩
instance(L:List (Nat×K))(x:Operand)(v:K)(xs:List Operand)(vs:List K)[h:Ev L x v][hs:B8 L xs vs]:B8 L (x::xs) (v::vs):=⟨λN ds a hF=>by rw[cf,h.eq N ds a hF,hs.eq N ds a hF]⟩
class Evp(L:List (Nat×K))(xs:List (Nat×Operand))(vs:outParam (List (Nat×K))):Prop where
 eq:∀(N:Nat) (ds:List Deferred) (a:Act),Fr N ds L a->xs.map (λp=>(p.1,a.eval p.2))=vs
instance(L:List (Nat×K)):Evp L [] []:=⟨λ_ _ _ _=>rfl⟩
instance(L:List (Nat×K))(i:Nat)(x:Operand)(v:K)(xs:List (Nat×Operand))(vs:List (Nat×K))[h:Ev L x v][hs:Evp L xs vs]:Evp L ((i,x)::xs) ((i,v)::vs):=⟨λN ds a hF=>by rw[cf,h.eq N ds a hF,hs.eq N ds a hF]⟩
class D7(L:List (Nat×K))(d:Nat)(L':outParam (List (Nat×K))):Prop where
 sub:∀p∈L',p∈L
instance(d:Nat)(u:K)(L:List (Nat×K)):D7 ((d,u)::L) d L:=⟨λ_ h=>ey _ h⟩
instance(d:Nat)(p:Nat×K)(L L':List (Nat×K))[h:D7 L d L']:D7 (p::L) d (p::L'):=⟨λq hq=>by
 rcases bX.1 hq with rfl|hq
 ·simp
 ·exact ey _ (h.sub q hq)⟩
section
variable {P:Program} {ro:Option Nat} {N:Nat} {ds:List Deferred} {S:Nat->Prop} {w0:ae} {L L':List (Nat×K)} {H H':List cq} {a:Act} {w:ae}
 {ops:Array Oper} {rest:List Oper} {Q:Exit->Act->ae->Prop} {p:Act->ae->Prop}
theorem xS(ro:Option Nat)(ρ:Operand->K)(o:Oper)(h:∀c,o.op≠ .defer c):o.semAt ro ρ=execOp ρ o:=Oper.semAt_eq ro ρ o h
theorem gj{o:Oper}(hg:o.guard=U)(tP:∀c,o.op≠ .defer c)(zV:(execOp a.eval o).run P w=.ok (.value v) w')
  (hk:wpListIn (FW ro) 0 P ops Q rest (a.put o.dst v) w'):wpListIn (FW ro) 0 P ops Q (o::rest) a w:=by
 refine wpListIn_plain hg λjB hK=>?_;refine⟨λ_ _=>trivial,?_⟩;rw[xS _ _ _ tP,zV];exact hK _ _ hk
theorem step_skip{o:Oper}(hg:o.guard=U)(tP:∀c,o.op≠ .defer c)(zV:(execOp a.eval o).run P w=.ok .skip w')
  (hk:wpListIn (FW ro) 0 P ops Q rest (a.put o.dst undef) w'):wpListIn (FW ro) 0 P ops Q (o::rest) a w:=by
 refine wpListIn_plain hg λjB hK=>?_;refine⟨λ_ _=>trivial,?_⟩;rw[xS _ _ _ tP,zV];exact hK _ _ hk
class gg(P:Program)(N:Nat)(ds:List Deferred)(S:Nat->Prop)(w0:ae)(L:List (Nat×K))(H:List cq)(op:Op)(v:outParam K):Prop where
 nd:∀c,op≠ .defer c
 ns:∀cs b,op≠ .select cs b
 run:∀(d:Option Tmp) (ty:Nat) (pos:String) (aft:Array Go.Edge) (gd:Option (Nat×Bool)) a w,Fr N ds L a->Wd S w0 H w->(execOp a.eval ⟨d,op,ty,pos,aft,gd⟩).run P w=.ok (.value v) w
section
variable {x y c:Operand}
instance[hx:Ev L x v]:gg P N ds S w0 L H (.move x) v:=⟨λ_ h=>(by cases h),λ_ _ h=>(by cases h),λ_ _ _ _ _ a w hF _=>by simp[execOp,hx.eq _ _ _ hF]⟩
instance[hx:Ev L x v]:gg P N ds S w0 L H (.assign x) v:=⟨λ_ h=>(by cases h),λ_ _ h=>(by cases h),λ_ _ _ _ _ a w hF _=>by simp[execOp,hx.eq _ _ _ hF]⟩
instance[hc:Ev L c (.bool true)][hx:Ev L x v]:gg P N ds S w0 L H (.pick c x y) v:=⟨λ_ h=>(by cases h),λ_ _ h=>(by cases h),λ_ _ _ _ _ a w hF _=>by simp[execOp,hx.eq _ _ _ hF,hc.eq _ _ _ hF,asBool]⟩
instance[hc:Ev L c (.bool false)][hx:Ev L y v]:gg P N ds S w0 L H (.pick c x y) v:=⟨λ_ h=>(by cases h),λ_ _ h=>(by cases h),λ_ _ _ _ _ a w hF _=>by simp[execOp,hx.eq _ _ _ hF,hc.eq _ _ _ hF,asBool]⟩
instance{o':Nat}[hx:Ev L x (.pointer (O ⟨b,o,U⟩))][h:dF P T i off][ho:HQ o off o']:gg P N ds S w0 L H (.fieldAddr T x i) (.pointer (O ⟨b,o',U⟩)):=
 ⟨λ_ h=>(by cases h),λ_ _ h=>(by cases h),λ_ _ _ _ _ a w hF _=>by simp[execOp,hx.eq _ _ _ hF,h.run,ho.eq]⟩
instance{ad:ax}[hx:Ev L x (.slice ad n k)][hy:Ev L y (J Z z)][ha:cl ad b o][hz:oT z i][hi:cg i n][h:gv P T s]:gg P N ds S w0 L H (.indexAddr T x y) (.pointer (O ⟨b,o+i*s,U⟩)):=
 ⟨λ_ h=>(by cases h),λ_ _ h=>(by cases h),λ_ _ _ _ _ a w hF _=>by
  have h1:=hx.eq _ _ _ hF
  have h2:=hy.eq _ _ _ hF
  rw[ha.eq]at h1
  rw[hz.eq]at h2
  simp[execOp,h1,h2,run_indexAt_slice w T ⟨b,o,U⟩ n k Z i h.sy,h.sz,hi.lt,Addr.add_lit]⟩
instance{ad:ax}[hx:Ev L x (.slice ad n k)][h:gv P T s]:gg P N ds S w0 L H (.call {callee:=.builtin .len,args:=#[x],argTypes:=#[T]}) (J Z n):=
 ⟨λ_ h=>(by cases h),λ_ _ h=>(by cases h),λ_ ty _ _ _ a w hF _=>by simp[execOp,resolve,invoke,builtin,hx.eq _ _ _ hF,run_len_slice w T ty ad n k h.sy,goInt]⟩
theorem xR[h:OneCell P T]{p:Addr}(hc:w.cell? p=O v):(Instr.loadAt T (.pointer (O p))).run P w=.ok v w:=by
 simp[Instr.loadAt,dB,loadVar,h.agg,hc]
instance[h:OneCell P T][hx:Ev L x (.pointer (O ⟨b,o,U⟩))][hb:sM H b j cs t][hv:eJ cs o v]:gg P N ds S w0 L H (.load T x) v:=
 ⟨λ_ h=>(by cases h),λ_ _ h=>(by cases h),λ_ _ _ _ _ a w hF hW=>by simp[execOp,hx.eq _ _ _ hF,xR (hW.rX j hb.at' hv.at')]⟩
class iO(S:Nat->Prop)(b:Nat):Prop where
 no:¬S b
instance(b:Nat):iO db b:=⟨λh=>h⟩
instance[h:OneCell P T][hx:Ev L x (.pointer (O ⟨b,o,U⟩))][hc:B6 w0 b o v][hs:iO S b]:gg P N ds S w0 L H (.load T x) v:=
 ⟨λ_ h=>(by cases h),λ_ _ h=>(by cases h),λ_ _ _ _ _ a w hF hW=>by simp[execOp,hx.eq _ _ _ hF,xR (hW.DL hc.eq hs.no)]⟩
theorem mX[h:gO P T n](hn:cs.length=n)(hc:ct w b o cs):(Instr.loadAt T (.pointer (O ⟨b,o,U⟩))).run P w=.ok (.agg cs.toArray) w:=by
 subst hn;have h1:=run_loadCells_list (P:=P) w ⟨b,o,U⟩ cs (λj v hv=>by rw[Addr.add_lit];exact hc j v hv);simp[Instr.loadAt,dB,loadVar,h.agg,h.sz,h1]
theorem ct.I9(h:Wd S w0 H w)(hc:ct w0 b o cs)(hS:¬S b):ct w b o cs:=λj v hv=>h.DL (hc j v hv) hS
instance[h:gO P T n][hx:Ev L x (.pointer (O ⟨b,0,U⟩))][hb:sM H b j cs t][hn:mL cs n]:gg P N ds S w0 L H (.load T x) (.agg cs.toArray):=
 ⟨λ_ h=>(by cases h),λ_ _ h=>(by cases h),λ_ _ _ _ _ a w hF hW=>by
  have:=mX (P:=P) (T:=T) hn.eq (λi v hv=>by rw[eC];exact hW.rX j hb.at' hv:ct w b 0 cs)
  simp[execOp,hx.eq _ _ _ hF,this]⟩
instance[h:gO P T n][hx:Ev L x (.pointer (O ⟨b,o,U⟩))][hc:bu w0 b o cs][hn:mL cs n][hs:iO S b]:gg P N ds S w0 L H (.load T x) (.agg cs.toArray):=
 ⟨λ_ h=>(by cases h),λ_ _ h=>(by cases h),λ_ _ _ _ _ a w hF hW=>by simp[execOp,hx.eq _ _ _ hF,mX hn.eq (hc.eq.I9 hW hs.no)]⟩
instance{places:List (Nat×Nat)}[h:kI P T zs places][hx:Evp L parts xW][hf:HT places zs xW cs]:gg P N ds S w0 L H (.build T parts.toArray) (.agg cs.toArray):=
 ⟨λ_ h=>(by cases h),λ_ _ h=>(by cases h),λ_ _ _ _ _ a w hF _=>by
  have e:(parts.toArray.map λ(p:Nat×Operand)=>(p.1,a.eval p.2))=xW.toArray:=by
   simp only[List.map_toArray]
   rw[hx.eq _ _ _ hF]
  have:=run_build (P:=P) w T xW.toArray cs.toArray (h.built _ _ hf.eq)
  simp only[execOp,Sem.run_bind]
  rw[e,this]
  rfl⟩
instance{fn:Fn}{xs ys:List Operand}[hx:B8 L xs us][hy:B8 L ys vs]:gg P N ds S w0 L H (.makeFunc fn xs.toArray ys.toArray) (.func fn us.toArray vs.toArray):=
 ⟨λ_ h=>(by cases h),λ_ _ h=>(by cases h),λ_ _ _ _ _ a w hF _=>by
  simp only[execOp,List.map_toArray,hx.eq _ _ _ hF,hy.eq _ _ _ hF,Instr.makeFunc]
  rfl⟩
theorem BY(n:Int)(h1:-9223372036854775808<=n)(h2:n<=9223372036854775807):IntKind.i64.wrap n=n:=by
 have h:=IntWalk.i64_in n A;exact h
theorem mY{op:BinOp}{r:K}[hx:Ev L x u][hy:Ev L y v]
  (hg:∀w,(eqGuard op T x y u v).run P w=.ok () w) (hr:∀w,(binOp op T u v).run P w=.ok r w):gg P N ds S w0 L H (.binOp op T x y T2) r:=
 ⟨λ_ h=>(by cases h),λ_ _ h=>(by cases h),λ_ _ _ _ _ a w hF _=>by simp[execOp,hx.eq _ _ _ hF,hy.eq _ _ _ hF,hg,hr]⟩
theorem FA{n:Int}[hx:Ev L x (J Z m)][hy:Ev L y (J Z n)](h1:-9223372036854775808<=m+n)(h2:m+n<=9223372036854775807):gg P N ds S w0 L H (.binOp .add T x y T2) (J Z (m+n)):=
 mY (λ_=>rfl) λw=>by rw[binOp_add];simp[Op.intArith,BY _ h1 h2]
theorem LO{n:Int}[hx:Ev L x (J Z m)][hy:Ev L y (J Z n)](h1:-9223372036854775808<=m-n)(h2:m-n<=9223372036854775807):gg P N ds S w0 L H (.binOp .sub T x y T2) (J Z (m-n)):=
 mY (λ_=>rfl) λw=>by rw[binOp_sub];simp[Op.intArith,BY _ h1 h2]
instance{n:Int}[hx:Ev L x (J q m)][hy:Ev L y (J q n)]:gg P N ds S w0 L H (.binOp .lss T x y T2) (.bool (decide (m<n))):=mY (λ_=>rfl) λw=>by rw[binOp_lss];simp
instance{n:Int}[hx:Ev L x (J q m)][hy:Ev L y (J q n)]:gg P N ds S w0 L H (.binOp .leq T x y T2) (.bool (decide (m<=n))):=mY (λ_=>rfl) λw=>by rw[binOp_leq];simp
instance{n:Int}[hx:Ev L x (J q m)][hy:Ev L y (J q n)]:gg P N ds S w0 L H (.binOp .gtr T x y T2) (.bool (decide (n<m))):=mY (λ_=>rfl) λw=>by rw[binOp_gtr];simp
instance{n:Int}[hx:Ev L x (J q m)][hy:Ev L y (J q n)]:gg P N ds S w0 L H (.binOp .geq T x y T2) (.bool (decide (n<=m))):=mY (λ_=>rfl) λw=>by rw[binOp_geq];simp
instance{n:Int}[hx:Ev L x (J q m)][hy:Ev L y (J q n)]:gg P N ds S w0 L H (.binOp .eql T x y T2) (.bool (decide (m=n))):=mY (λ_=>by rw[eqGuard_at_int];rfl) λw=>by rw[binOp_eql];rfl
instance{n:Int}[hx:Ev L x (J q m)][hy:Ev L y (J q n)]:gg P N ds S w0 L H (.binOp .neq T x y T2) (.bool (!decide (m=n))):=mY (λ_=>by rw[eqGuard_at_int];rfl) λw=>by rw[binOp_neq];rfl
instance[hx:Ev L x u][hy:Ev L y v][h:CU P T u v r]:gg P N ds S w0 L H (.binOp .eql T x y T2) (.bool r):=mY (h.grd _ _ _) h.eq
instance[hx:Ev L x u][hy:Ev L y v]{r':Bool}[h:CU P T u v r][hn:JM r r']:gg P N ds S w0 L H (.binOp .neq T x y T2) (.bool r'):=mY (h.grd _ _ _) λw=>by rw[h.ne,hn.eq]
instance{b b':Bool}[hx:Ev L x (.bool b)][hn:JM b b']:gg P N ds S w0 L H (.unOp .not T x) (.bool b'):=
 ⟨λ_ h=>(by cases h),λ_ _ h=>(by cases h),λ_ _ _ _ _ a w hF _=>by simp[execOp,hx.eq _ _ _ hF,Op.unary,hn.eq]⟩
end
def ev(d N:Nat)(L:List (Nat×K)):Bool:=d.blt N&&L.all λp=>!Nat.beq p.1 d
theorem Fr.fv(h:Fr N ds L a)(hd:ev d N L=true)(v:K):Fr N ds ((d,v)::L) (a.put (O d) v):=by
 simp only[ev,eU,List.all_eq_true]at hd;refine h.put hd.1 v λp hp e=>?_;have:=hd.2 p hp;rw[e]at this;simp at this
theorem Fr.W6(h:Fr N ds L a)(d:Nat)[hs:D7 L d L']:Fr N ds L' a:=⟨h.size,h.defers,λp hp=>h.slot p (hs.sub p hp)⟩
theorem yO{pos:String}{aft:Array Go.Edge}[h:gg P N ds S w0 L H op v](hd:ev d N L=true)
  (k:cU N ds S w0 ((d,v)::L) H (wpListIn (FW ro) 0 P ops Q rest)):cU N ds S w0 L H (wpListIn (FW ro) 0 P ops Q (⟨O d,op,ty,pos,aft,U⟩::rest)):=
 λa w hS=>gj rfl h.nd (h.run _ _ _ _ _ a w hS.fr hS.wd) (k _ _ ⟨hS.fr.fv hd v,hS.wd⟩)
theorem xq{pos:String}{aft:Array Go.Edge}[h:gg P N ds S w0 L H op v][hs:D7 L d L'](hd:ev d N L'=true)
  (k:cU N ds S w0 ((d,v)::L') H (wpListIn (FW ro) 0 P ops Q rest)):cU N ds S w0 L H (wpListIn (FW ro) 0 P ops Q (⟨O d,op,ty,pos,aft,U⟩::rest)):=
 λa w hS=>gj rfl h.nd (h.run _ _ _ _ _ a w hS.fr hS.wd) (k _ _ ⟨(hS.fr.W6 (L':=L') d).fv hd v,hS.wd⟩)
theorem Kj(d:Nat)[hs:D7 L d L'](k:cU N ds S w0 L' H p):cU N ds S w0 L H p:=λa w hS=>k a w ⟨hS.fr.W6 d,hS.wd⟩
theorem zk{pos:String}{aft:Array Go.Edge}{n:Int}[hx:Ev L x (J Z m)][hy:Ev L y (J Z n)](hd:ev d N L=true)(h1:-9223372036854775808<=m+n)(h2:m+n<=9223372036854775807)
  (k:cU N ds S w0 ((d,J Z (m+n))::L) H (wpListIn (FW ro) 0 P ops Q rest)):cU N ds S w0 L H (wpListIn (FW ro) 0 P ops Q (⟨O d,.binOp .add T x y T2,ty,pos,aft,U⟩::rest)):=by
 have:=FA (P:=P) (N:=N) (ds:=ds) (S:=S) (w0:=w0) (H:=H) (T:=T) (T2:=T2) (x:=x) (y:=y) (L:=L) h1 h2;exact yO hd k
theorem GY{pos:String}{aft:Array Go.Edge}{n:Int}[hx:Ev L x (J Z m)][hy:Ev L y (J Z n)](hd:ev d N L=true)(h1:-9223372036854775808<=m-n)(h2:m-n<=9223372036854775807)
  (k:cU N ds S w0 ((d,J Z (m-n))::L) H (wpListIn (FW ro) 0 P ops Q rest)):cU N ds S w0 L H (wpListIn (FW ro) 0 P ops Q (⟨O d,.binOp .sub T x y T2,ty,pos,aft,U⟩::rest)):=by
 have:=LO (P:=P) (N:=N) (ds:=ds) (S:=S) (w0:=w0) (H:=H) (T:=T) (T2:=T2) (x:=x) (y:=y) (L:=L) h1 h2;exact yO hd k
theorem adW{pos:String}{aft:Array Go.Edge}[hx:Ev L x v][hv:jY v cs](hd:ev d N L=true)
  (k:∀b,w0.heap.size<=b->cU N ds S w0 (M d b::L) (aM b cs T::H) (wpListIn (FW ro) 0 P ops Q rest)):cU N ds S w0 L H (wpListIn (FW ro) 0 P ops Q (⟨O d,.box T x,ty,pos,aft,U⟩::rest)):=by
 intro a w hS;refine gj (v:=.pointer (O ⟨w.heap.size,0,U⟩)) (w':=w.alloc (.cells v.cells T)) rfl (λ_ h=>by cases h) ?_ ?_
 ·simp[execOp,hx.eq _ _ _ hS.fr,Instr.box,newVar,newRow]
 ·refine k _ hS.wd.size _ _ ⟨hS.fr.fv hd _,?_⟩
  have:=hS.wd.box cs T;have e:cs.toArray=v.cells:=by rw[<-hv.eq]
  rw[e]at this;exact this
theorem Yk{z:K}[h:jM P T z][hv:jY z cs]{pos:String}{aft:Array Go.Edge}(hd:ev d N L=true)
  (k:∀b,w0.heap.size<=b->cU N ds S w0 (M d b::L) (aM b cs T::H) (wpListIn (FW ro) 0 P ops Q rest)):cU N ds S w0 L H (wpListIn (FW ro) 0 P ops Q (⟨O d,.alloc T,ty,pos,aft,U⟩::rest)):=by
 intro a w hS;refine gj (v:=.pointer (O ⟨w.heap.size,0,U⟩)) (w':=w.alloc (.cells z.cells T)) rfl (λ_ h=>by cases h) ?_ ?_
 ·simp[execOp,Instr.alloc,newVar,newRow,h.run]
 ·refine k _ hS.wd.size _ _ ⟨hS.fr.fv hd _,?_⟩
  have:=hS.wd.box cs T;have e:cs.toArray=z.cells:=by rw[<-hv.eq]
  rw[e]at this;exact this
theorem pR[h:OneCell P T]{p:Addr}(h1:v.oneCell'=true)(hc:w.cell? p=O u)(hz:w.frozen? p=false):(Instr.storeAt T (.pointer (O p)) v).run P w=.ok () (w.setCell p v):=by
 have hs:(store p v).run P w=.ok () (w.setCell p v):=by
  rw[run_store P w p v .plain (by cases v<;>first|rfl|cases h1)];simp[hc,hz]
 have ha:p.add 0=p:=by simp[Addr.add]
 have gW:v.cells= #[v]:=by cases v<;>first|rfl|cases h1
 simp[Instr.storeAt,dB,storeVar,h.sz,gW,storeCells,hs,ha]
class Dn(v:K):Prop where
 one:v.oneCell'=true
instance(b:Bool):Dn (.bool b):=⟨rfl⟩
instance(k:IntKind)(n:Int):Dn (J k n):=⟨rfl⟩
instance(s:ByteArray):Dn (.string s):=⟨rfl⟩
instance(p:ax)(n c:Nat):Dn (.slice p n c):=⟨rfl⟩
instance(f:Fn)(x y:Array K):Dn (.func f x y):=⟨rfl⟩
class wU(vs:List K):Prop where
 all:∀v∈vs,v.oneCell'=true
instance:wU []:=⟨by simp⟩
instance(v:K)(vs:List K)[h:Dn v][hs:wU vs]:wU (v::vs):=⟨by
 intro u hu
 rcases bX.1 hu with rfl|hu
 ·exact h.one
 ·exact hs.all u hu⟩
theorem yw[h:OneCell P T]{pos:String}{aft:Array Go.Edge} 
  [hx:Ev L x (.pointer (O ⟨b,o,U⟩))] [hy:Ev L y v] [h1:Dn v] [hb:sM H b j cs t] [hu:eJ cs o u] [hs:wG cs o v ym] [hH:wG H j (aM b ym t) H']
  (k:cU N ds S w0 L H' (wpListIn (FW ro) 0 P ops Q rest)):cU N ds S w0 L H (wpListIn (FW ro) 0 P ops Q (⟨U,.store T x y,ty,pos,aft,U⟩::rest)):=by
 intro a w hS;have QO:=hS.wd.GK j hb.at';refine step_skip (w':=w.setCell ⟨b,o,U⟩ v) rfl (λ_ h=>by cases h) ?_ ?_
 ·have:=pR (P:=P) (T:=T) h1.one (hS.wd.rX j hb.at' hu.at') (by simp[World.frozen?,QO])
  simp[execOp,hx.eq _ _ _ hS.fr,hy.eq _ _ _ hS.fr,this]
 ·refine k _ _ ⟨hS.fr,?_⟩
  have:=hS.wd.WT j (o:=o) v hb.at';rw[hs.Gv,hH.Gv]at this;exact this
theorem oJ[h:gO P T n]{pos:String}{aft:Array Go.Edge} 
  [hx:Ev L x (.pointer (O ⟨b,o,U⟩))] [hy:Ev L y (.agg vs.toArray)] [hb:sM H b j cs t] [hn:mL vs n] [hp:CX cs o vs ym] [h1:wU vs] [hH:wG H j (aM b ym t) H']
  (k:cU N ds S w0 L H' (wpListIn (FW ro) 0 P ops Q rest)):cU N ds S w0 L H (wpListIn (FW ro) 0 P ops Q (⟨U,.store T x y,ty,pos,aft,U⟩::rest)):=by
 intro a w hS;have QO:=hS.wd.GK j hb.at';refine step_skip (w':=w.setRow b ym.toArray) rfl (λ_ h=>by cases h) ?_ ?_
 ·have hs:=run_storeCells_at P b o t vs 0 cs.toArray w QO (aD hp.le) h1.all
  have e:(cs.toArray.toList.take (o+0)++vs++cs.toArray.toList.drop (o+0+vs.length)).toArray=ym.toArray:=by
   rw[<-hp.eq,<-wv cs o vs hp.le];simp
  rw[e]at hs;simp[execOp,hx.eq _ _ _ hS.fr,hy.eq _ _ _ hS.fr,Instr.storeAt,dB,storeVar,h.sz,Value.cells,hn.eq,hs]
 ·refine k _ _ ⟨hS.fr,?_⟩
  have:=hS.wd.WL j ym hb.at';rw[hH.Gv]at this;exact this
class tU(ops:Array Oper)(j:Nat)(t:outParam Nat):Prop where
 eq:(ops[j]?).bind (·.dst)=O t
instance{pos:String}{aft:Array Go.Edge}{gd:Option (Nat×Bool)}[h:eJ l j ⟨O t,op,ty,pos,aft,gd⟩]:tU l.toArray j t:=⟨by simp[h.at']⟩
theorem Fr.yield(h:Fr N ds L a){b:Bool}[hj:tU ops j t][hb:jQ L t (.bool b)]:yielded ops a.tmps j=O b:=by
 have:=h.slot _ hb.mem;simp only at this;simp[yielded,hj.eq,this]
class JL(b:Bool)(c:outParam Bool):Prop where
 eq:b= !c
instance:JL true false:=⟨rfl⟩
instance:JL false true:=⟨rfl⟩
theorem JL.ne{b c:Bool}(h:JL b c):(O c==O b)=false:=by
 have:=h.eq;cases b<;>cases c<;>first|rfl|cases this
theorem In{b:Bool}{pos:String}{aft:Array Go.Edge}[hj:tU ops j t][hn:JL want b][hb:jQ L t (.bool b)](hd:ev d N L=true)
  (k:cU N ds S w0 ((d,undef)::L) H (wpListIn (FW ro) 0 P ops Q rest)):cU N ds S w0 L H (wpListIn (FW ro) 0 P ops Q (⟨O d,op,ty,pos,aft,O (j,want)⟩::rest)):=by
 intro a w hS;refine wpListIn_step λjB hK=>?_;have h1:fq (⟨O d,op,ty,pos,aft,O (j,want)⟩:Oper) (yielded ops a.tmps)=false:=by
  simp only[fq,hS.fr.yield (ops:=ops) (j:=j) (b:=b)];exact hn.ne
 rw[h1];exact⟨λ_ _=>trivial,hK _ _ (k _ _ ⟨hS.fr.fv hd undef,hS.wd⟩)⟩
theorem Cm{d:Option Tmp}{pos:String}{aft:Array Go.Edge}[hj:tU ops j t][hb:jQ L t (.bool want)]
  (k:cU N ds S w0 L H (wpListIn (FW ro) 0 P ops Q (⟨d,op,ty,pos,aft,U⟩::rest))):cU N ds S w0 L H (wpListIn (FW ro) 0 P ops Q (⟨d,op,ty,pos,aft,O (j,want)⟩::rest)):=by
 intro a w hS;have h1:fq (⟨d,op,ty,pos,aft,O (j,want)⟩:Oper) (yielded ops a.tmps)=true:=by
  simp only[fq,hS.fr.yield (ops:=ops) (j:=j) (b:=want)];simp
 have h2:fq (⟨d,op,ty,pos,aft,U⟩:Oper) (yielded ops a.tmps)=true:=rfl;have k:=k a w hS;unfold wpListIn at k|-
 rw[al h1];rw[al h2]at k;exact k
theorem St.fix(h:St N ds S w0 L H a w)(hL:wX L L')(hH:H'.Sublist H):St N ds S w0 L' H' a w:=⟨h.fr.to hL,h.wd.sub hH⟩
theorem iC(hL:wX L L')(hH:H'.Sublist H)(k:cU N ds S w0 L' H' p):cU N ds S w0 L H p:=λa w hS=>k a w (hS.fix hL hH)
theorem aP(hL:wX L L')(hH:H'.Sublist H):cU N ds S w0 L H (St N ds S w0 L' H'):=λ_ _ hS=>hS.fix hL hH
theorem CS(n:Nat)(h2:∀a w,dw a w->wpListIn (FW ro) 0 P ops Q (l.drop n) a w):
  ∀{a:Act} {w:ae},wpListIn (FW ro) 0 P ops (Exit.then dw Q) (l.take n) a w->wpListIn (FW ro) 0 P ops Q l a w:=by
 have upon:∀(o:Oper) (a:Act) (jB K':Act->ae->Prop),(∀a w,jB a w->K' a w)->∀r,o.uponIn (FW ro) 0 P a jB (Exit.then dw Q) r->o.uponIn (FW ro) 0 P a K' Q r:=by
  intro o a jB K' hK r h;cases r with
  |ok nx w1=>
   cases nx with
   |value v=>exact hK _ _ h
   |skip=>exact hK _ _ h
   |defer d=>exact hK _ _ h
   |enter f args=>
    refine⟨h.1,h.2.mono λe w2 hh=>?_⟩;cases e with
    |returned v=>exact hK _ _ hh
    |panicked c=>exact hh
    |outgrown=>exact hh
   |row r args=>exact⟨h.1,h.2.mono λv w2 hh=>hK _ _ hh⟩
   |round l f tmps assign body=>
    refine⟨h.1,h.2.mono λe w2 hh=>?_⟩;cases e with
    |returned v=>exact hK _ _ hh
    |panicked c=>exact hh
    |outgrown=>exact hh
   |_=>exact h
  |halt x w1=>cases x<;>exact h
 induction n generalizing l with
 |zero=>
  intro a w h;exact h2 a w h
 |succ n ih=>
  intro a w h;cases l with
  |nil=>exact h2 a w h
  |cons o r=>
   simp only[List.take_succ_cons]at h;simp only[List.drop_succ_cons]at h2;unfold wpListIn at h|-
   split
   ·rename_i hw
    rw[al hw]at h;exact⟨h.1,upon o a _ _ (λa w hh=>ih h2 hh) _ h.2⟩
   ·rename_i hw
    rw[ai hw]at h;exact⟨h.1,ih h2 h.2⟩
class DI{α:Type}(l:List α)(n:Nat)(l1 l2:outParam (List α)):Prop where
 t:l.take n=l1
 d:l.drop n=l2
instance(l:List α):DI l 0 [] l:=⟨by simp,by simp⟩
instance(x:α)(l l1 l2:List α)(n:Nat)[h:DI l n l1 l2]:DI (x::l) (n+1) (x::l1) l2:=⟨by simp[h.t],by simp[h.d]⟩
theorem ut(n d:Nat)(val:K)[hs:DI l n l1 l2]
  (h1:cU N ds S w0 L H (wpListIn (FW ro) 0 P ops (Exit.then (St N ds S w0 ((d,val)::L) H) Q) l1))
  (h2:cU N ds S w0 ((d,val)::L) H (wpListIn (FW ro) 0 P ops Q l2)):cU N ds S w0 L H (wpListIn (FW ro) 0 P ops Q l):=λa w hS=>
 CS (dw:=St N ds S w0 ((d,val)::L) H) n (λa w h=>by rw[hs.d];exact h2 a w h) (by rw[hs.t];exact h1 a w hS)
theorem om{id:Nat}(h:cU N ds S w0 L H (wpListIn (FW ro) 0 P l.toArray Q l)):cU N ds S w0 L H (eY (FW ro) 0 P (Code.region id l.toArray false) Q):=λa w hS=>wpIn_region_lit (h a w hS)
theorem qm(h:cU N ds S w0 L H (Q .normal)):cU N ds S w0 L H (wpListIn (FW ro) 0 P ops Q []):=h
theorem zl{x y:Code}(h:cU N ds S w0 L H (eY (FW ro) 0 P x (Exit.then (eY (FW ro) 0 P y Q) Q))):cU N ds S w0 L H (eY (FW ro) 0 P (x.seq y) Q):=λa w hS=>wpIn_seq (h a w hS)
theorem vV{id:Nat}{x:Code}(h:cU N ds S w0 L H (eY (FW ro) 0 P x (vP id Q))):cU N ds S w0 L H (eY (FW ro) 0 P (Code.block id x) Q):=λa w hS=>wpIn_block (h a w hS)
theorem xt(h:cU N ds S w0 L H (Q .normal)):cU N ds S w0 L H (eY (FW ro) 0 P Code.skip Q):=λa w hS=>wpIn_skip (h a w hS)
theorem Cl{id:Nat}(h:cU N ds S w0 L H (Q (.exit id))):cU N ds S w0 L H (eY (FW ro) 0 P (Code.exit id) Q):=λa w hS=>wpIn_exit (h a w hS)
theorem C4(h:cU N ds S w0 L H (Q .ret)):cU N ds S w0 L H (eY (FW ro) 0 P Code.ret Q):=λa w hS=>wpIn_ret (h a w hS)
theorem ms(h:cU N ds S w0 L H jB):cU N ds S w0 L H (Exit.then jB Q .normal):=h
theorem sG{id:Nat}(h:cU N ds S w0 L H (Q .normal)):cU N ds S w0 L H (vP id Q .normal):=h
theorem qD{id:Nat}(h:cU N ds S w0 L H (Q .normal)):cU N ds S w0 L H (vP id Q (.exit id)):=λa w hS=>by simp only[vP,if_true];exact h a w hS
theorem uW{id id':Nat}(fZ:Nat.beq id' id=false)(h:cU N ds S w0 L H (Q (.exit id'))):cU N ds S w0 L H (vP id Q (.exit id')):=λa w hS=>by
 have:¬id'=id:=by intro e;subst e;simp at fZ
 simp only[vP,ai this];exact h a w hS
theorem qE{id:Nat}(h:cU N ds S w0 L H (Q (.exit id))):cU N ds S w0 L H (Exit.then jB Q (.exit id)):=h
theorem sH(h:cU N ds S w0 L H (Q .ret)):cU N ds S w0 L H (Exit.then jB Q .ret):=h
theorem qC{id:Nat}(h:cU N ds S w0 L H (Q .ret)):cU N ds S w0 L H (vP id Q .ret):=h
theorem aL{c:Operand}{x y:Code}{b:Bool}[hc:Ev L c (.bool b)](ht:b=true->cU N ds S w0 L H (eY (FW ro) 0 P x Q))(hf:b=false->cU N ds S w0 L H (eY (FW ro) 0 P y Q)):cU N ds S w0 L H (eY (FW ro) 0 P (Code.cond c x y) Q):=
 λa w hS=>wpIn_cond_split (hc.eq _ _ _ hS.fr) (λh=>ht h a w hS) (λh=>hf h a w hS)
theorem t_{c:Operand}{x y:Code}[hc:Ev L c (.bool true)](ht:cU N ds S w0 L H (eY (FW ro) 0 P x Q)):cU N ds S w0 L H (eY (FW ro) 0 P (Code.cond c x y) Q):=aL (b:=true) (λ_=>ht) (λh=>by cases h)
theorem rZ{c:Operand}{x y:Code}[hc:Ev L c (.bool false)](hf:cU N ds S w0 L H (eY (FW ro) 0 P y Q)):cU N ds S w0 L H (eY (FW ro) 0 P (Code.cond c x y) Q):=aL (b:=false) (λh=>by cases h) (λ_=>hf)
theorem MP(kH:α->Act->ae->Prop)(m:α->Nat){c:Code}(x:α)(h0:kH x a w)
  (round:∀x a w,kH x a w->c.wpIn (FW ro) 0 P (Exit.then (λa' w'=>∃x',kH x' a' w'/\m x'<m x) Q) a w):(Code.loop c).wpIn (FW ro) 0 P Q a w:=by
 classical
 have ex:∀a w,(∃x,kH x a w)->∃x,kH x a w/\∀y,kH y a w->m x<=m y:=by
  intro a w h;have:∀k:Nat,∀x,kH x a w->m x=k->∃x,kH x a w/\∀y,kH y a w->m x<=m y:=by
   intro k
   induction k using Nat.strongRecOn with
   |_ k ih=>
    intro x hx hk
    by_cases hy:∃y,kH y a w/\m y<m x
    ·obtain⟨y,DC,EV⟩:=hy
     exact ih (m y) A y DC rfl
    ·exact⟨x,hx,λy SL=>Nat.le_of_not_lt λce=>hy ⟨y,SL,ce⟩⟩
  obtain⟨x,hx⟩:=h;exact this _ x hx rfl
 refine wpIn_loop (λa w=>∃x,kH x a w) (λa w=>if h:∃x,kH x a w then m (Classical.choose (ex a w h))else 0) ⟨x,h0⟩ λa w hI=>?_;have hs:=w_ (ex a w hI);have hr:=round _ a w hs.1;refine Code.wpIn_mono (λe a' w' q=>?_) hr;cases e with
 |normal=>
  obtain⟨x',IM,ce⟩:=q;have It:∃x,kH x a' w':=⟨x',IM⟩;refine⟨It,?_⟩;rw[dif_pos hI,dif_pos It];exact Nat.lt_of_le_of_lt ((w_ (ex a' w' It)).2 x' IM) ce
 |_=>exact q
def Next{α:Type}(N:Nat)(ds:List Deferred)(S:Nat->Prop)(w0:ae)(kH:α->Prop)(Lx:α->List (Nat×K))(Hx:α->List cq)(m:α->Nat)(x:α):Act->ae->Prop:=
 λa w=>∃x',(kH x'/\St N ds S w0 (Lx x') (Hx x') a w)/\m x'<m x
theorem bH(kH:α->Prop)(Lx:α->List (Nat×K))(Hx:α->List cq)(m:α->Nat){c:Code}(x:α)(hI:kH x)(h0:cU N ds S w0 L H (St N ds S w0 (Lx x) (Hx x)))
  (round:∀x,kH x->cU N ds S w0 (Lx x) (Hx x) (eY (FW ro) 0 P c (Exit.then (Next N ds S w0 kH Lx Hx m x) Q))):cU N ds S w0 L H (eY (FW ro) 0 P (Code.loop c) Q):=
 λa w hS=>MP (λx a w=>kH x/\St N ds S w0 (Lx x) (Hx x) a w) m x ⟨hI,h0 a w hS⟩ λx a w h=>round x h.1 a w h.2
theorem a_{kH:α->Prop}{Lx:α->List (Nat×K)}{Hx:α->List cq}{m:α->Nat}{x:α}(x':α)(hI:kH x')(hm:m x'<m x)(hL:wX L (Lx x'))(hH:(Hx x').Sublist H):cU N ds S w0 L H (Next N ds S w0 kH Lx Hx m x):=
 λ_ _ hS=>⟨x',⟨hI,hS.fix hL hH⟩,hm⟩
def iL(P:Program)(f:FuncId)(args:List K)(w:ae)(R:K->ae->Prop):Prop:=CallsIn (FW U) 0 P f args.toArray w λe w'=>∃v,e=.returned v/\R v w'
def gF(P:Program)(f:FuncId)(args:List K)(w:ae)(v:K):Prop:=iL P f args w λu w'=>u=v/\nX db w w'
theorem iL.mono{f:FuncId}{args:List K}{R':K->ae->Prop}(h:iL P f args w R)(hr:∀v w',R v w'->R' v w'):iL P f args w R':=
 CallsIn.mono h λ_ w' ⟨v,he,hR⟩=>⟨v,he,hr v w' hR⟩
def xh:Nat->List K->List (Nat×K)
 |_,[]=>[]
 |i,v::r=>(i,v)::xh (i+1) r
theorem GU:∀(i:Nat) (l:List K) (p:Nat×K),p∈xh i l->∃j,p.1=i+j/\l[j]?=O p.2
 |i,[],p,h=>by simp[xh]at h
 |i,u::r,p,h=>by
  simp only[xh,bX]at h;rcases h with rfl|h
  ·exact⟨0,rfl,rfl⟩
  ·obtain⟨j,h1,h2⟩:=GU (i+1) r p h
   exact⟨j+1,A,h2⟩
theorem Eu{args:List K}(hlen:args.length<=N):Fr N [] (xh 0 args) {tmps:=args.toArray++Array.replicate (N-args.toArray.size) undef,defers:=[]}:=by
 refine⟨by simp;omega,rfl,λp h=>?_⟩;obtain⟨j,hj1,h2⟩:=GU 0 args p h;have hj:j<args.length:=(aJ.1 h2).1;rw[hj1,eC];rw[Array.getElem?_append_left (aD hj)];simpa using h2
class B7(i:Nat)(args:List K)(L:outParam (List (Nat×K))):Prop where
 eq:xh i args=L
instance(i:Nat):B7 i [] []:=⟨rfl⟩
class gJ(i:Nat)(j:outParam Nat):Prop where
 eq:i+1=j
instance:gJ 0 1:=⟨rfl⟩
instance:gJ 1 2:=⟨rfl⟩
instance:gJ 2 3:=⟨rfl⟩
instance:gJ 3 4:=⟨rfl⟩
instance:gJ 4 5:=⟨rfl⟩
instance:gJ 5 6:=⟨rfl⟩
instance:gJ 6 7:=⟨rfl⟩
instance:gJ 7 8:=⟨rfl⟩
instance(i j:Nat)(v:K)(r:List K)(L:List (Nat×K))[hj:gJ i j][h:B7 j r L]:B7 i (v::r) ((i,v)::L):=⟨by simp only[xh];rw[hj.eq,h.eq]⟩
theorem aR{f:FuncId}{fn:Func}{c:Code}{args:List K}(hf:P.funcs[f]?=O fn)(hb:fn.body=O c)(hN:fn.ntmps=N)[hL:B7 0 args L](hlen:args.length.ble N=true)(hW:Wd S w H w)
  (h:cU N [] S w L H (eY (FW U) 0 P c (bodyPost P fn λe w'=>∃v,e=.returned v/\R v w'))):iL P f args w R:=by
 subst hN;refine callsIn_of_wp hf hb trivial (h _ _ ⟨?_,hW⟩);rw[<-hL.eq];exact Eu (Nat.le_of_ble_eq_true hlen)
theorem Nd{pos:String}{aft:Array Go.Edge}(R:ae->K->ae->Prop)[h:bf P f][hx:B8 L args vs](hd:ev d N L=true)
  (hc:∀w,Wd S w0 H w->iL P f vs w (R w))
  (k:∀v w w',Wd S w0 H w->R w v w'->∀a,Fr N ds ((d,v)::L) a->wpListIn (FW ro) 0 P ops Q rest a w'):cU N ds S w0 L H (wpListIn (FW ro) 0 P ops Q (⟨O d,.call {callee:=.value (.func f),args:=args.toArray,argTypes:=tJ},ty,pos,aft,U⟩::rest)):=by
 intro a w hS;refine wpListIn_plain rfl λjB hK=>?_;refine⟨λ_ _=>trivial,?_⟩;rw[xS _ _ _ (λ_ h=>by cases h)];have hr:(execOp a.eval ⟨O d,.call {callee:=.value (.func f),args:=args.toArray,argTypes:=tJ},ty,pos,aft,U⟩).run P w=.ok (.enter f vs.toArray) w:=by
  simp[execOp,resolve,Act.eval,Deferred.ofValue,invoke,hx.eq _ _ _ hS.fr,h.run]
 rw[hr];refine⟨λh=>(by cases h),?_⟩;refine CallsIn.mono (R:=λe w'=>∃v,e=.returned v/\R w v w') (hc w hS.wd) λe w' ⟨v,he,hR⟩=>?_;subst he;exact hK _ _ (k v w w' hS.wd hR _ (hS.fr.fv hd v))
theorem bY{pos:String}{aft:Array Go.Edge}[h:bf P f][hx:B8 L args vs](hd:ev d N L=true)
  (hc:∀w,Wd S w0 H w->gF P f vs w u)
  (k:cU N ds S w0 ((d,u)::L) H (wpListIn (FW ro) 0 P ops Q rest)):cU N ds S w0 L H (wpListIn (FW ro) 0 P ops Q (⟨O d,.call {callee:=.value (.func f),args:=args.toArray,argTypes:=tJ},ty,pos,aft,U⟩::rest)):=
 Nd (λw v w'=>v=u/\nX db w w') hd hc λv _ w' hw hR a hF=>k a w' ⟨by rw[<-hR.1];exact hF,hw.call hR.2⟩
theorem cN{val:α->K}{cZ:α->List cq}{φ:α->Prop}{pos:String}{aft:Array Go.Edge}[h:bf P f][hx:B8 L args vs](hd:ev d N L=true)
  (hc:∀w,Wd S w0 H w->iL P f vs w λu w'=>∃x,u=val x/\Wd db w (cZ x) w'/\φ x)
  (k:∀x,φ x->cU N ds S w0 ((d,val x)::L) (cZ x++H) (wpListIn (FW ro) 0 P ops Q rest)):cU N ds S w0 L H (wpListIn (FW ro) 0 P ops Q (⟨O d,.call {callee:=.value (.func f),args:=args.toArray,argTypes:=tJ},ty,pos,aft,U⟩::rest)):=by
 intro a w hS;refine Nd (S:=S) (w0:=w0) (H:=H) (λ_ u w'=>∃x,u=val x/\Wd S w0 (cZ x++H) w'/\φ x) hd (λw hw=>(hc w hw).mono λv w' ⟨x,h1,h2,h3⟩=>⟨x,h1,hw.more h2,h3⟩) (λv w w' hw hR a hF=>?_) a w hS;obtain⟨x,rfl,h2,h3⟩:=hR;exact k x h3 a w' ⟨hF,h2⟩
theorem dh{fn:Func}(hr:fn.results= #[.tmp t])[hv:jQ L t v](hR:∀w,Wd S w0 H w->R v w):cU N [] S w0 L H (bodyPost P fn (λe w'=>∃v,e=.returned v/\R v w') .ret):=λa w hS=>
 ⟨hS.fr.defers,v,by rw[results_tmp hr];simp[hS.fr.slot _ hv.mem],v,rfl,hR w hS.wd⟩
theorem cv{fn:Func}(hr:fn.results= #[.tmp t])[hv:jQ L t v](hu:v=u):cU N [] db w0 L H (bodyPost P fn (λe w'=>∃v,e=.returned v/\v=u/\nX db w0 w') .ret):=
 dh hr λ_ hw=>⟨hu,hw.c_⟩
theorem T1{fn:Func}(hr:fn.results= #[.tmp t,.tmp s])[hv:jQ L t v][hu:jQ L s u](hR:∀w,Wd S w0 H w->R (.tuple #[v,u]) w):cU N [] S w0 L H (bodyPost P fn (λe w'=>∃v,e=.returned v/\R v w') .ret):=λa w hS=>
 ⟨hS.fr.defers,.tuple #[v,u],by rw[results_tmp2 hr];simp[hS.fr.slot _ hv.mem,hS.fr.slot _ hu.mem],_,rfl,hR w hS.wd⟩
theorem Ng{fn:Func}(hr:fn.results= #[])(hR:∀w,Wd S w0 H w->R (.tuple #[]) w):cU N [] S w0 L H (bodyPost P fn (λe w'=>∃v,e=.returned v/\R v w') .ret):=λ_ w hS=>
 ⟨hS.fr.defers,.tuple #[],results_none hr _ _ _,_,rfl,hR w hS.wd⟩
theorem Ck{fn:Func}(hr:fn.results= #[])(hR:∀w,Wd S w0 H w->R (.tuple #[]) w):cU N [] S w0 L H (bodyPost P fn (λe w'=>∃v,e=.returned v/\R v w') .normal):=λ_ w hS=>
 ⟨hS.fr.defers,.tuple #[],results_none hr _ _ _,_,rfl,hR w hS.wd⟩
def GQ(N:Nat)(ds:List Deferred)(L:List (Nat×K))(p:Act->Prop):Prop:=∀a,Fr N ds L a->p a
theorem kX{id:Nat}(hm:P.follows .mixedOrders=true)(hB:Region.lexB .any l.toArray=true)
  (h:GQ N ds L (wpQuiet P l.toArray (Wd S w0 H) (λa'=>∀w',Wd S w0 H w'->Q .normal a' w') l)):cU N ds S w0 L H (eY (FW U) 0 P (Code.region id l.toArray true) Q):=λa w hS=>
 wpIn_wide.2 (wp_region_quiet hm hB (hS.wd.same rfl rfl rfl rfl) (by simpa using h a hS.fr))
theorem aaZ(h:cU N ds S w0 L H p):GQ N ds L (wpQuiet P ops (Wd S w0 H) (λa'=>∀w',Wd S w0 H w'->p a' w') []):=λa hF w hw=>h a w ⟨hF,hw⟩
theorem WA{pos:String}{aft:Array Go.Edge}[h:gg P N ds S w0 L H op v](hd:ev d N L=true)
  (k:GQ N ds ((d,v)::L) (wpQuiet P ops (Wd S w0 H) Qq rest)):GQ N ds L (wpQuiet P ops (Wd S w0 H) Qq (⟨O d,op,ty,pos,aft,U⟩::rest)):=by
 intro a hF;have h2:fq (⟨O d,op,ty,pos,aft,U⟩:Oper) (yielded ops a.tmps)=true:=rfl;refine BigFrame.wpQuiet_want h2 λjB hK=>⟨v,λw hw=>?_,hK _ (k _ (hF.fv hd v))⟩;unfold Oper.quietAt;rw[h.run _ _ _ _ _ a w hF hw];exact⟨rfl,rfl⟩
theorem aa0{pos:String}{aft:Array Go.Edge}[h:gg P N ds S w0 L H op v][hs:D7 L d L'](hd:ev d N L'=true)
  (k:GQ N ds ((d,v)::L') (wpQuiet P ops (Wd S w0 H) Qq rest)):GQ N ds L (wpQuiet P ops (Wd S w0 H) Qq (⟨O d,op,ty,pos,aft,U⟩::rest)):=by
 intro a hF;have h2:fq (⟨O d,op,ty,pos,aft,U⟩:Oper) (yielded ops a.tmps)=true:=rfl;refine BigFrame.wpQuiet_want h2 λjB hK=>⟨v,λw hw=>?_,hK _ (k _ ((hF.W6 (L':=L') d).fv hd v))⟩;unfold Oper.quietAt;rw[h.run _ _ _ _ _ a w hF hw];exact⟨rfl,rfl⟩
theorem WC{b:Bool}{pos:String}{aft:Array Go.Edge}[hj:tU ops j t][hn:JL want b][hb:jQ L t (.bool b)](hd:ev d N L=true)
  (k:GQ N ds ((d,undef)::L) (wpQuiet P ops (Wd S w0 H) Qq rest)):GQ N ds L (wpQuiet P ops (Wd S w0 H) Qq (⟨O d,op,ty,pos,aft,O (j,want)⟩::rest)):=by
 intro a hF;refine BigFrame.wpQuiet_skip ?_ (k _ (hF.fv hd undef));simp only[fq,hF.yield (ops:=ops) (j:=j) (b:=b)];exact hn.ne
theorem WB{d:Option Tmp}{pos:String}{aft:Array Go.Edge}[hj:tU ops j t][hb:jQ L t (.bool want)]
  (k:GQ N ds L (wpQuiet P ops (Wd S w0 H) Qq (⟨d,op,ty,pos,aft,U⟩::rest))):GQ N ds L (wpQuiet P ops (Wd S w0 H) Qq (⟨d,op,ty,pos,aft,O (j,want)⟩::rest)):=by
 intro a hF;have h1:fq (⟨d,op,ty,pos,aft,O (j,want)⟩:Oper) (yielded ops a.tmps)=true:=by
  simp only[fq,hF.yield (ops:=ops) (j:=j) (b:=want)];simp
 have h2:fq (⟨d,op,ty,pos,aft,U⟩:Oper) (yielded ops a.tmps)=true:=rfl;have k:=k a hF;unfold wpQuiet at k|-
 rw[al h1];rw[al h2]at k;exact k
theorem aaY{pos:String}{aft:Array Go.Edge}{n:Int}[hx:Ev L x (J Z m)][hy:Ev L y (J Z n)](hd:ev d N L=true)(h1:-9223372036854775808<=m+n)(h2:m+n<=9223372036854775807)
  (k:GQ N ds ((d,J Z (m+n))::L) (wpQuiet P ops (Wd S w0 H) Qq rest)):GQ N ds L (wpQuiet P ops (Wd S w0 H) Qq (⟨O d,.binOp .add T x y T2,ty,pos,aft,U⟩::rest)):=by
 have:=FA (P:=P) (N:=N) (ds:=ds) (S:=S) (w0:=w0) (H:=H) (T:=T) (T2:=T2) (x:=x) (y:=y) (L:=L) h1 h2;exact WA hd k
theorem aa1{pos:String}{aft:Array Go.Edge}{n:Int}[hx:Ev L x (J Z m)][hy:Ev L y (J Z n)](hd:ev d N L=true)(h1:-9223372036854775808<=m-n)(h2:m-n<=9223372036854775807)
  (k:GQ N ds ((d,J Z (m-n))::L) (wpQuiet P ops (Wd S w0 H) Qq rest)):GQ N ds L (wpQuiet P ops (Wd S w0 H) Qq (⟨O d,.binOp .sub T x y T2,ty,pos,aft,U⟩::rest)):=by
 have:=LO (P:=P) (N:=N) (ds:=ds) (S:=S) (w0:=w0) (H:=H) (T:=T) (T2:=T2) (x:=x) (y:=y) (L:=L) h1 h2;exact WA hd k
theorem ww{pos:String}{aft:Array Go.Edge}[h:bf P f][hx:B8 L args vs](hd:ev d N L=true)
  (hc:∀w,Wd S w0 H w->gF P f vs w v)
  (k:GQ N ds ((d,v)::L) (wpQuiet P ops (Wd S w0 H) Qq rest)):GQ N ds L (wpQuiet P ops (Wd S w0 H) Qq (⟨O d,.call {callee:=.value (.func f),args:=args.toArray,argTypes:=tJ},ty,pos,aft,U⟩::rest)):=by
 intro a hF;have h2:fq (⟨O d,.call {callee:=.value (.func f),args:=args.toArray,argTypes:=tJ},ty,pos,aft,U⟩:Oper) (yielded ops a.tmps)=true:=rfl;refine BigFrame.wpQuiet_want h2 λjB hK=>⟨v,λw hw=>?_,hK _ (k _ (hF.fv hd v))⟩;unfold Oper.quietAt;have hr:(execOp a.eval ⟨O d,.call {callee:=.value (.func f),args:=args.toArray,argTypes:=tJ},ty,pos,aft,U⟩).run P w=.ok (.enter f vs.toArray) w:=by
  simp[execOp,resolve,Act.eval,Deferred.ofValue,invoke,hx.eq _ _ _ hF,h.run]
 rw[hr];refine⟨rfl,?_⟩;have h3:Calls P f vs.toArray w λe w'=>∃u,e=.returned u/\u=v/\nX db w w':=callsIn_wide.1 (hc w hw);exact h3.mono λe w' ⟨u,he,hu,kE⟩=>⟨by rw[he,hu],hw.call kE⟩
end
def G(a:ax)(n c e s:Nat)(xs:List K):cq:=
 ⟨λk=>a.map (·.block)=O k,λw=>xs.length=n*s/\((a=U/\n=0/\c=0)\/
  ∃(g:Nat) (pre sp:List K),a=O ⟨g,pre.length,U⟩/\n<=c/\c<=maxLen/\(c-n)*s<=sp.length/\w.heap[g]?=O (.cells (pre++xs++sp).toArray e (0,0)))⟩
section
variable {S:Nat->Prop} {w0 w w':ae} {H:List cq}
theorem Wd.nj(h:Wd S w0 H w)(hk:H[k]?=O (G (O ⟨b,o,U⟩) n c e s xs)):
  xs.length=n*s/\n<=c/\c<=maxLen/\∃pre sp:List K,pre.length=o/\(c-n)*s<=sp.length/\w.heap[b]?=O (.cells (pre++xs++sp).toArray e (0,0)):=by
 obtain⟨h1,h2⟩:=h.get hk;rcases h2 with⟨h2,_⟩|⟨g,pre,sp,h2,h3,h4,h5,h6⟩
 ·cases h2
 ·simp only[cF,Addr.mk.injEq,and_true]at h2
  obtain⟨rfl,rfl⟩:=h2;exact⟨h1,h3,h4,pre,sp,rfl,h5,h6⟩
theorem Wd.dp(h:Wd S w0 H w)(hk:H[k]?=O (G (O ⟨b,o,U⟩) n c e s xs))(hv:xs[j]?=O v):w.cell? ⟨b,o+j,U⟩=O v:=by
 obtain⟨_,_,_,pre,sp,rfl,_,hb⟩:=h.nj hk;have hj:j<xs.length:=(aJ.1 hv).1;have hv':=(aJ.1 hv).2;simp[World.cell?,hb,List.getElem?_append,hj,hv']
theorem Wd.CI(h:Wd S w0 H w)(e s:Nat):Wd S w0 (G U 0 0 e s []::H) w:=
 ⟨h.c_,λx hx b hb=>by
  rcases bX.1 hx with rfl|hx
  ·simp[G]at hb
  ·exact h.own x hx b hb,λx hx w' lU kE=>by
  rcases bX.1 hx with rfl|hx
  ·exact⟨by simp,.inl ⟨rfl,rfl,rfl⟩⟩
  ·exact h.ok x hx w' lU kE,jm.2 ⟨λx _ b hb=>by simp[G]at hb,h.apart⟩⟩
theorem Wd.uA(h:Wd S w0 H w)(e s n:Nat)(xs:List K)(hl:xs.length=n*s)(hn:n<=maxLen):Wd S w0 (G (O ⟨w.heap.size,0,U⟩) n n e s xs::H) (w.alloc (.cells xs.toArray e)):=by
 refine Wd.more (cZ:=[_]) h ⟨nX.alloc _ _ _,?_,?_,by simp⟩
 ·intro x hx b hb
  simp only[bQ]at hx;subst hx;simp only[G,b_,cF]at hb;subst hb;exact⟨.inr (cz _),by simp⟩
 ·intro x hx w2 _ lP
  simp only[bQ]at hx;subst hx;have:=lP w.heap.size (by simp[G]);refine⟨hl,.inr ⟨w.heap.size,[],[],rfl,cz _,hn,by simp,?_⟩⟩;rw[this];simpa using heap_alloc_new w (.cells xs.toArray e)
theorem Wd.Oy(h:Wd S w0 H w)(v:K)(hk:H[k]?=O (G (O ⟨b,o,U⟩) n c e s xs))(hj:j<xs.length):
  Wd S w0 (H.set k (G (O ⟨b,o,U⟩) n c e s (xs.set j v))) (w.setCell ⟨b,o+j,U⟩ v):=by
 obtain⟨h1,h2,h3,pre,sp,rfl,h5,hb⟩:=h.nj hk;have ce:b<w.heap.size:=(jl.1 hb).1;refine h.nV hk ((nX.setCell w _ v).mono λx _ hx=>?_) (λb' oX=>?_) λw2 lP=>?_
 ·simp only[G,b_,cF];exact hx.symm
 ·simp only[G,b_,cF]at oX|-
  subst oX;exact⟨.inl rfl,by simpa[World.setCell]using ce⟩
 ·have:=lP b (by simp[G])
  refine⟨aD h1,.inr ⟨b,pre,sp,rfl,h2,h3,h5,?_⟩⟩;rw[this,zr hb v];simp[hj]
theorem Wd.nf(h:Wd S w0 H w){dL:ae->α->List K->Prop}{a:ax}{l:List α}(hk:H[k]?=O (G a n c e s xs))(hn:n=l.length)(hb:n<=140737488355328)
  (hV:∀i x,l[i]?=O x->∃cs:List K,(∀j v,cs[j]?=O v->xs[i*s+j]?=O v)/\dL w x cs):aY w (.slice a n c) s l dL:=by
 obtain⟨h1,h2⟩:=h.get hk;rcases h2 with⟨rfl,rfl,rfl⟩|⟨g,pre,sp,rfl,h3,h4,h5,h6⟩
 ·have:l=[]:=nr hn.symm
  subst this;exact⟨U,0,0,0,0,rfl,rfl,cz _,A,A,by simp,by simp⟩
 ·refine⟨_,n,c,g,pre.length,rfl,hn,h3,hb,by simpa[maxLen]using h4,λ_=>rfl,λi x hx=>?_⟩
  obtain⟨cs,hc,hv⟩:=hV i x hx;refine⟨cs,λj v hj=>?_,hv⟩;have:=h.dp hk (hc j v hj);rwa[<-eB]at this
end
instance:gJ 8 9:=⟨rfl⟩
instance:gJ 9 10:=⟨rfl⟩
instance:gJ 10 11:=⟨rfl⟩
instance:gJ 11 12:=⟨rfl⟩
instance:gJ 12 13:=⟨rfl⟩
instance:gJ 13 14:=⟨rfl⟩
instance:gJ 14 15:=⟨rfl⟩
instance:gJ 15 16:=⟨rfl⟩
instance:gJ 16 17:=⟨rfl⟩
instance:gJ 17 18:=⟨rfl⟩
instance:gJ 18 19:=⟨rfl⟩
instance:gJ 19 20:=⟨rfl⟩
instance:gJ 20 21:=⟨rfl⟩
instance:gJ 21 22:=⟨rfl⟩
instance:gJ 22 23:=⟨rfl⟩
instance:gJ 23 24:=⟨rfl⟩
instance:gJ 24 25:=⟨rfl⟩
instance:gJ 25 26:=⟨rfl⟩
instance:gJ 26 27:=⟨rfl⟩
instance:gJ 27 28:=⟨rfl⟩
instance:gJ 28 29:=⟨rfl⟩
instance:gJ 29 30:=⟨rfl⟩
instance:gJ 30 31:=⟨rfl⟩
instance:gJ 31 32:=⟨rfl⟩
instance:gJ 32 33:=⟨rfl⟩
instance:gJ 33 34:=⟨rfl⟩
class HU{α:Type}(l:List α)(n:outParam Nat):Prop where
 eq:l.length=n
instance:HU ([]:List α) 0:=⟨rfl⟩
instance(x:α)(l:List α)(i j:Nat)[h:HU l i][hj:gJ i j]:HU (x::l) j:=⟨by rw[lF,h.eq,hj.eq]⟩
class dt(P:Program)(T:Nat)(e s qz:outParam Nat)(zs:outParam (List K)):Prop where
 sy:P.underlying T=O (.slice e)
 aiN:(P.info? e).map (λi=>(i.zero.map (·.cells.toList),i.size,i.bytes))=O (O zs,s,qz)
theorem dt.get{P:Program}(h:dt P T e s qz zs):∃i z,P.info? e=O i/\i.zero=O z/\z.cells=zs.toArray/\i.size=s/\i.bytes=qz:=by
 obtain⟨i,hi,h1⟩:=ff.1 h.aiN;simp only[Prod.mk.injEq]at h1;obtain⟨h1,h2,h3⟩:=h1;obtain⟨z,hz,h4⟩:=ff.1 h1;exact⟨i,z,hi,hz,by rw[<-h4],h2,h3⟩
class wW(H:List cq)(a:ax)(n c:Nat)(k e s:outParam Nat)(xs:outParam (List K)):Prop where
 at':H[k]?=O (G a n c e s xs)
instance(a:ax)(n c e s:Nat)(xs:List K)(H:List cq):wW (G a n c e s xs::H) a n c 0 e s xs:=⟨rfl⟩
instance(a:ax)(n c e s k:Nat)(xs:List K)(H:List cq)(x:cq)[h:wW H a n c k e s xs]:wW (x::H) a n c (k+1) e s xs:=⟨h.at'⟩
class uk{α:Type}(l:List α)(i:Nat)(x:outParam α):Prop where
 eq:l[i]?=O x
class MG(xs:List K)(j:Nat)(v:outParam K):Prop where
 eq:xs[j]?=O v
instance(f:α->K)(l:List α)(i:Nat)(x:α)[h:uk l i x]:MG (l.map f) (i*1) (f x):=⟨by simp[h.eq]⟩
instance(f:α->K)(x:α)(l:List α):MG ((x::l).map f) (0*1) (f x):=⟨rfl⟩
class lS(xs:List K)(j:Nat)(v:K)(XJ:outParam (List K)):Prop where
 eq:xs.set j v=XJ
 lt:j<xs.length
instance(f:α->K)(l:List α)(i:Nat)(x y:α)[h:uk l i y]:lS (l.map f) (i*1) (f x) ((l.set i x).map f):=
 ⟨by simp[],by have:=(aJ.1 h.eq).1;simpa using this⟩
class gB(H:List cq)(b off:Nat)(v:outParam K):Prop where
 eq:∀S w0 w,Wd S w0 H w->w.cell? ⟨b,off,U⟩=O v
instance(b o j n c e s:Nat)(xs:List K)(v:K)(H:List cq)[h:MG xs j v]:gB (G (O ⟨b,o,U⟩) n c e s xs::H) b (o+j) v:=
 ⟨λ_ _ _ hw=>Wd.dp hw (k:=0) rfl h.eq⟩
instance(b off:Nat)(v:K)(x:cq)(H:List cq)[h:gB H b off v]:gB (x::H) b off v:=⟨λS w0 w hw=>h.eq S w0 w (hw.sub (gh _ _))⟩
class mf(H:List cq)(b off:Nat)(k o j n c e s:outParam Nat)(xs:outParam (List K)):Prop where
 at':H[k]?=O (G (O ⟨b,o,U⟩) n c e s xs)
 eq:off=o+j
instance(b o j n c e s:Nat)(xs:List K)(H:List cq):mf (G (O ⟨b,o,U⟩) n c e s xs::H) b (o+j) 0 o j n c e s xs:=⟨rfl,rfl⟩
instance(b off k o j n c e s:Nat)(xs:List K)(x:cq)(H:List cq)[h:mf H b off k o j n c e s xs]:mf (x::H) b off (k+1) o j n c e s xs:=⟨h.at',h.eq⟩
class wV(cs:List K)(o n:Nat)(vs:outParam (List K)):Prop where
 len:vs.length=n
 eq:∀j v,vs[j]?=O v->cs[o+j]?=O v
instance(cs:List K):wV cs 0 0 []:=⟨rfl,by simp⟩
instance(c:K)(cs vs:List K)(n:Nat)[h:wV cs 0 n vs]:wV (c::cs) 0 (n+1) (c::vs):=⟨by simp[h.len],λj v hj=>by
 cases j with
 |zero=>simpa using hj
 |succ j=>simpa using h.eq j v (aD hj)⟩
instance(c:K)(cs vs:List K)(o n:Nat)[h:wV cs o n vs]:wV (c::cs) (o+1) n vs:=⟨h.len,λj v hj=>by
 have:=h.eq j v hj
 rw[show o+1+j=(o+j)+1 by omega]
 simpa using this⟩
class D6(H:List cq)(k:Nat)(f:outParam (cq->List cq)):Prop where
 eq:∀e,H.set k e=f e
instance(x:cq)(H:List cq):D6 (x::H) 0 (λe=>e::H):=⟨λ_=>rfl⟩
instance(x:cq)(H:List cq)(k:Nat)(f:cq->List cq)[h:D6 H k f]:D6 (x::H) (k+1) (λe=>x::f e):=⟨λe=>by rw[bS,h.eq]⟩
theorem Wd.kr{w0:ae}{H:List cq}(h:Wd S w0 H w)(b:Nat)[hb:sM H b k cs t]:ct w b 0 cs:=λj v hj=>by rw[eC];exact h.rX k hb.at' hj
section
variable {P:Program} {ro:Option Nat} {N:Nat} {ds:List Deferred} {S:Nat->Prop} {w0:ae} {L L':List (Nat×K)} {H H':List cq} {a:Act} {w:ae}
 {ops:Array Oper} {rest:List Oper} {Q:Exit->Act->ae->Prop} {p:Act->ae->Prop} {x y:Operand}
instance[h:OneCell P T][hx:Ev L x (.pointer (O ⟨b,off,U⟩))][hc:gB H b off v]:gg P N ds S w0 L H (.load T x) v:=
 ⟨λ_ h=>(by cases h),λ_ _ h=>(by cases h),λ_ _ _ _ _ a w hF hW=>by simp[execOp,hx.eq _ _ _ hF,xR (hc.eq _ _ _ hW)]⟩
instance(priority:=low)[h:gO P T n][hx:Ev L x (.pointer (O ⟨b,o,U⟩))][hb:sM H b j cs t][hp:wV cs o n vs]:gg P N ds S w0 L H (.load T x) (.agg vs.toArray):=
 ⟨λ_ h=>(by cases h),λ_ _ h=>(by cases h),λ_ _ _ _ _ a w hF hW=>by
  have:=mX (P:=P) (T:=T) hp.len (λi v hv=>hW.rX j hb.at' (hp.eq i v hv):ct w b o vs)
  simp[execOp,hx.eq _ _ _ hF,this]⟩
instance(priority:=low)[h:gO P T n][hx:Ev L x (.pointer (O ⟨b,o+f,U⟩))][hc:bu w0 b o cs][hp:wV cs f n vs][hs:iO S b]:gg P N ds S w0 L H (.load T x) (.agg vs.toArray):=
 ⟨λ_ h=>(by cases h),λ_ _ h=>(by cases h),λ_ _ _ _ _ a w hF hW=>by
  have:=mX (P:=P) (T:=T) hp.len (λi v hv=>by rw[eB];exact hW.DL (hc.eq _ _ (hp.eq i v hv)) hs.no:ct w b (o+f) vs)
  simp[execOp,hx.eq _ _ _ hF,this]⟩
instance(priority:=low){w:ae}[h:bu w b 0 cs][hv:eJ cs j v]:B6 w b j v:=⟨by simpa using h.eq j v hv.at'⟩
instance(priority:=low)[h:gO P T n][hx:Ev L x (.pointer (O ⟨b,f,U⟩))][hc:bu w0 b 0 cs][hp:wV cs f n vs][hs:iO S b]:gg P N ds S w0 L H (.load T x) (.agg vs.toArray):=
 ⟨λ_ h=>(by cases h),λ_ _ h=>(by cases h),λ_ _ _ _ _ a w hF hW=>by
  have:=mX (P:=P) (T:=T) hp.len (λi v hv=>by have h1:=hc.eq _ _ (hp.eq i v hv);rw[eC]at h1;exact hW.DL h1 hs.no:ct w b f vs)
  simp[execOp,hx.eq _ _ _ hF,this]⟩
class aah(P:Program)(T:Nat)(n s:outParam Nat):Prop where
 sy:P.underlying T=O (.array (P.arrayLen T) (P.elem T))
 len:P.arrayLen T=n
 sz:∀w:ae,(sizeOf (P.elem T)).run P w=.ok s w
instance[hx:Ev L x (.pointer (O ⟨b,o,U⟩))][hy:Ev L y (J Z z)][hz:oT z i][h:aah P T n s][hi:cg i n]:gg P N ds S w0 L H (.indexAddr T x y) (.pointer (O ⟨b,o+i*s,U⟩)):=
 ⟨λ_ h=>(by cases h),λ_ _ h=>(by cases h),λ_ _ _ _ _ a w hF _=>by
  have h1:=hx.eq _ _ _ hF
  have h2:=hy.eq _ _ _ hF
  rw[hz.eq]at h2
  have ce:=hi.lt
  simp[execOp,h1,h2,run_indexAt_array w T ⟨b,o,U⟩ Z i h.sy,h.sz,h.len,ce,Addr.add_lit]⟩
class S6(P:Program)(T:Nat):Prop where
 sy:P.underlying T=O .string
instance{s:ByteArray}[hx:Ev L x (.string s)][h:S6 P T]:gg P N ds S w0 L H (.call {callee:=.builtin .len,args:=#[x],argTypes:=#[T]}) (J Z s.size):=
 ⟨λ_ h=>(by cases h),λ_ _ h=>(by cases h),λ_ ty _ _ _ a w hF _=>by simp[execOp,resolve,invoke,builtin,hx.eq _ _ _ hF,run_len_string w T ty s h.sy,goInt]⟩
class SR(s:ByteArray)(i:Nat)(c:outParam Int):Prop where
 lt:i<s.size
 eq:((s[i]'lt).toNat:Int)=c
instance{s:ByteArray}{c:Int}[hx:Ev L x (.string s)][hy:Ev L y (J Z z)][hz:oT z i][hb:SR s i c][h:S6 P T]:gg P N ds S w0 L H (.index T x y) (J .u8 c):=
 ⟨λ_ h=>(by cases h),λ_ _ h=>(by cases h),λ_ _ _ _ _ a w hF _=>by
  have h1:=hx.eq _ _ _ hF
  have h2:=hy.eq _ _ _ hF
  rw[hz.eq]at h2
  have ce:=hb.lt
  have he:=hb.eq
  simp[execOp,h1,h2,run_index_string w T s Z i h.sy,ce,he]⟩
instance[hx:Ev L x (.tuple vs.toArray)][hv:eJ vs i v]:gg P N ds S w0 L H (.extract x i) v:=
 ⟨λ_ h=>(by cases h),λ_ _ h=>(by cases h),λ_ _ _ _ _ a w hF _=>by simp[execOp,hx.eq _ _ _ hF,Instr.extract,hv.at']⟩
theorem HH{n:Int}[hx:Ev L x (J Z m)][hy:Ev L y (J Z n)]:gg P N ds S w0 L H (.binOp .add T x y T2) (J Z (IntKind.i64.wrap (m+n))):=
 mY (λ_=>rfl) λw=>by rw[binOp_add];simp[Op.intArith]
theorem Wz{pos:String}{aft:Array Go.Edge}{n:Int}[hx:Ev L x (J Z m)][hy:Ev L y (J Z n)](hd:ev d N L=true)
  (k:GQ N ds ((d,J Z (IntKind.i64.wrap (m+n)))::L) (wpQuiet P ops (Wd S w0 H) Qq rest)):GQ N ds L (wpQuiet P ops (Wd S w0 H) Qq (⟨O d,.binOp .add T x y T2,ty,pos,aft,U⟩::rest)):=by
 have:=HH (P:=P) (N:=N) (ds:=ds) (S:=S) (w0:=w0) (H:=H) (T:=T) (T2:=T2) (x:=x) (y:=y) (L:=L);exact WA hd k
theorem Fr.Xm(h:Fr N ds L a)[hj:tU ops j t][hb:jQ L t undef]:yielded ops a.tmps j=U:=by
 have:=h.slot _ hb.mem;simp only at this;simp[yielded,hj.eq,this,undef]
theorem DN{pos:String}{aft:Array Go.Edge}[hj:tU ops j t][hb:jQ L t undef](hd:ev d N L=true)
  (k:cU N ds S w0 ((d,undef)::L) H (wpListIn (FW ro) 0 P ops Q rest)):cU N ds S w0 L H (wpListIn (FW ro) 0 P ops Q (⟨O d,op,ty,pos,aft,O (j,want)⟩::rest)):=by
 intro a w hS;refine wpListIn_step λjB hK=>?_;have h1:fq (⟨O d,op,ty,pos,aft,O (j,want)⟩:Oper) (yielded ops a.tmps)=false:=by
  simp only[fq,hS.fr.Xm (ops:=ops) (j:=j)]
  rfl
 rw[h1];exact⟨λ_ _=>trivial,hK _ _ (k _ _ ⟨hS.fr.fv hd undef,hS.wd⟩)⟩
theorem PV{pos:String}{aft:Array Go.Edge}[hj:tU ops j t][hb:jQ L t undef](hd:ev d N L=true)
  (k:GQ N ds ((d,undef)::L) (wpQuiet P ops (Wd S w0 H) Qq rest)):GQ N ds L (wpQuiet P ops (Wd S w0 H) Qq (⟨O d,op,ty,pos,aft,O (j,want)⟩::rest)):=by
 intro a hF;refine BigFrame.wpQuiet_skip ?_ (k _ (hF.fv hd undef));simp only[fq,hF.Xm (ops:=ops) (j:=j)]
 rfl
class AD(l:List Oper)(d:Nat)(l1 l2:outParam (List Oper)):Prop where
 eq:∃n,l.take n=l1/\l.drop n=l2
instance(priority:=2000)(d ty:Nat)(op:Op)(pos:String)(aft:Array Go.Edge)(gd:Option (Nat×Bool))(l:List Oper):AD (⟨O d,op,ty,pos,aft,gd⟩::l) d [⟨O d,op,ty,pos,aft,gd⟩] l:=⟨1,by simp,by simp⟩
instance(d:Nat)(o:Oper)(l l1 l2:List Oper)[h:AD l d l1 l2]:AD (o::l) d (o::l1) l2:=⟨by
 obtain⟨n,h1,h2⟩:=h.eq
 exact⟨n+1,by simp[h1],by simp[h2]⟩⟩
theorem jS(d:Nat)(val:K)[hs:AD l d l1 l2]
  (h1:cU N ds S w0 L H (wpListIn (FW ro) 0 P ops (Exit.then (St N ds S w0 ((d,val)::L) H) Q) l1))
  (h2:cU N ds S w0 ((d,val)::L) H (wpListIn (FW ro) 0 P ops Q l2)):cU N ds S w0 L H (wpListIn (FW ro) 0 P ops Q l):=λa w hS=>by
 obtain⟨n,e1,e2⟩:=hs.eq;exact CS (dw:=St N ds S w0 ((d,val)::L) H) n (λa w h=>by rw[e2];exact h2 a w h) (by rw[e1];exact h1 a w hS)
theorem aaq{c y:Code}(L':List (Nat×K))(H':List cq)(h1:cU N ds S w0 L H (eY (FW ro) 0 P c (Exit.then (St N ds S w0 L' H') Q)))(h2:cU N ds S w0 L' H' (eY (FW ro) 0 P y Q)):cU N ds S w0 L H (eY (FW ro) 0 P c (Exit.then (eY (FW ro) 0 P y Q) Q)):=λa w hS=>
 Code.wpIn_mono (λe a' w' q=>by
  cases e with
  |normal=>exact h2 a' w' q
  |_=>exact q) (h1 a w hS)
theorem fy(k:Nat){ad:ax}(hk:H[k]?=O (G ad n c e s xs))(hn:0<n)(h:∀b o,ad=O ⟨b,o,U⟩->cU N ds S w0 L H p):cU N ds S w0 L H p:=λa w hS=>by
 obtain⟨_,h2⟩:=hS.wd.get hk;rcases h2 with⟨_,h2,_⟩|⟨g,pre,sp,h2,_⟩
 ·omega
 ·exact h _ _ h2 a w hS
theorem DO(k:Nat){ad:ax}(hk:H[k]?=O (G ad n c e s xs))(h:xs.length=n*s->n<=c->c<=9223372036854775807->cU N ds S w0 L H p):cU N ds S w0 L H p:=λa w hS=>by
 obtain⟨h1,h2⟩:=hS.wd.get hk;rcases h2 with⟨_,h2,h3⟩|⟨g,pre,sp,_,h3,h4,_⟩
 ·exact h h1 A A a w hS
 ·exact h h1 h3 (by simpa[maxLen]using h4) a w hS
theorem dJ(e s:Nat)(h:cU N ds S w0 L (G U 0 0 e s []::H) p):cU N ds S w0 L H p:=λa w hS=>h a w ⟨hS.fr,hS.wd.CI e s⟩
theorem sX[h:OneCell P T]{XJ:List K}{pos:String}{aft:Array Go.Edge}
  [hx:Ev L x (.pointer (O ⟨b,off,U⟩))] [hy:Ev L y v] [h1:Dn v] [hb:mf H b off k o j n c e s xs] [hu:lS xs j v XJ] [hH:wG H k (G (O ⟨b,o,U⟩) n c e s XJ) H']
  (kk:cU N ds S w0 L H' (wpListIn (FW ro) 0 P ops Q rest)):cU N ds S w0 L H (wpListIn (FW ro) 0 P ops Q (⟨U,.store T x y,ty,pos,aft,U⟩::rest)):=by
 intro a w hS;obtain⟨_,_,_,pre,sp,Dw,_,QO⟩:=hS.wd.nj hb.at';have e1:=hb.eq;subst e1;have ce:=hu.lt;refine step_skip (w':=w.setCell ⟨b,o+j,U⟩ v) rfl (λ_ h=>by cases h) ?_ ?_
 ·have hc:=hS.wd.dp hb.at' (bL ce)
  have:=pR (P:=P) (T:=T) h1.one hc (by simp[World.frozen?,QO]);simp[execOp,hx.eq _ _ _ hS.fr,hy.eq _ _ _ hS.fr,this]
 ·refine kk _ _ ⟨hS.fr,?_⟩
  have:=hS.wd.Oy v hb.at' ce;rw[hu.eq,hH.Gv]at this;exact this
theorem qO(zs:List K)(n:Nat):(madeCells zs.toArray (n*zs.length)).toList=(aI n zs).flatten:=by
 cases zs with
 |nil=>simp[madeCells]
 |cons z zs=>
  apply cY;intro i;have h0:0<(z::zs).length:=by simp
  rw[show(madeCells (z::zs).toArray (n*(z::zs).length)).toList[i]?=(madeCells (z::zs).toArray (n*(z::zs).length))[i]? by simp]
  by_cases hi:i<n*(z::zs).length
  ·have e:((aI n (z::zs)).flatten)[i]?=(z::zs)[i%(z::zs).length]?:=by
    clear h0
    induction n generalizing i with
    |zero=>simp at hi
    |succ n ih=>
     rw[List.replicate_succ,List.flatten_cons]
     by_cases h1:i<(z::zs).length
     ·rw[eX h1,Nat.mod_eq_of_lt h1]
     ·rw[dH A,ih (i-(z::zs).length) (by rw[lk]at hi;omega)]
      rw[Nat.mod_eq_sub_mod (a:=i) A]
   rw[e];have ce:i%(z::zs).length<(z::zs).length:=Nat.mod_lt _ h0;have hm:(madeCells (z::zs).toArray (n*(z::zs).length))[i]?=O ((z::zs).toArray[i%(z::zs).toArray.size]!):=by
    unfold madeCells;simp only[Array.getElem?_map];rw[Array.getElem?_range];rw[al hi];rfl
   rw[hm,bL ce];simp[getElem!_def];rw[bL (aD ce)]
  ·have e1:(madeCells (z::zs).toArray (n*(z::zs).length)).size<=i:=by unfold madeCells;simp at hi|-;omega
   have e2:((aI n (z::zs)).flatten).length<=i:=by rw[List.length_flatten];simp at hi|-;omega
   rw[zF e1,cm e2]
theorem abq{z1 z2:Int}{z:K}{pos:String}{aft:Array Go.Edge}[h:dt P T e 1 qz [z]][hx:Ev L x (J Z z1)][Gn:oT z1 n][hy:Ev L y (J Z z2)][Bj:oT z2 n](hd:ev d N L=true)(hb:qz*n<=281474976710656)(hm:n<=9223372036854775807)
  (k:∀b,w0.heap.size<=b->cU N ds S w0 ((d,.slice (O ⟨b,0,U⟩) n n)::L) (G (O ⟨b,0,U⟩) n n e 1 (aI n z)::H) (wpListIn (FW ro) 0 P ops Q rest)):cU N ds S w0 L H (wpListIn (FW ro) 0 P ops Q (⟨O d,.makeSlice T x y,ty,pos,aft,U⟩::rest)):=by
 intro a w hS;obtain⟨i,zz,hi,Q5,gW,h1,h2⟩:=h.get;have h3:=hx.eq _ _ _ hS.fr;have h4:=hy.eq _ _ _ hS.fr;rw[Gn.eq]at h3;rw[Bj.eq]at h4;have Ur:(i.bytes:Int)*(n:Int)<=281474976710656:=by
  have e:((qz*n:Nat):Int)<=281474976710656:=A;rw[Int.natCast_mul]at e;rw[h2];exact e
 have hr:=run_make (P:=P) w T e i zz h.sy hi Q5 Z Z (n:Int) (n:Int) A (Int.le_refl _) Ur A;have mT:madeCells zz.cells ((n:Int).toNat*i.size)=(aI n z).toArray:=by
  have:=qO [z] n;rw[h1,gW,fR];simp only[lm]at this;rw[show(aI n [z]).flatten=aI n z by simp]at this;rw[<-this]
 refine gj (v:=.slice (O ⟨w.heap.size,0,U⟩) n n) (w':=w.alloc (.cells (aI n z).toArray e)) rfl (λ_ h=>by cases h) ?_ ?_
 ·simp only[fR]at hr mT
  simp[execOp,h3,h4,hr,mT]
 ·exact k _ hS.wd.size _ _ ⟨hS.fr.fv hd _,hS.wd.uA e 1 n _ (by rw[im,km]) (by unfold maxLen;omega)⟩
theorem Kc(v:K)(cs zs:List K)(hv:v.cells.toList=cs)(hz:zs.length=cs.length):Instr.fill (λi=>O (i*cs.length,cs.length)) zs.toArray [(0,v)]=O cs.toArray:=by
 have hs:v.cells.size=cs.length:=by rw[<-hv];simp
 have hf:=uS cs zs 0 0 A;have e:v.cells=cs.toArray:=by rw[<-hv]
 have hp:tR zs 0 cs=cs:=by
  rw[<-wv zs 0 cs A];simp[hz]
 simp only[Instr.fill];rw[ai (by simp[hs,hz])];rw[e];simp only[Nat.zero_mul];simp only[dR]at hf;rw[hp]at hf;simpa using hf
theorem TU{pos:String}{aft:Array Go.Edge}[h:dt P T e s qz zs][hx:Ev L x v][hv:jY v cs][hl:mL cs s](hd:ev d N L=true)(hs:((Nat.blt 0 s&&Nat.ble s 1000)&&Nat.beq zs.length s)=true)
  (k:∀b,w0.heap.size<=b->cU N ds S w0 ((d,.slice (O ⟨b,0,U⟩) 1 1)::L) (G (O ⟨b,0,U⟩) 1 1 e s cs::H) (wpListIn (FW ro) 0 P ops Q rest)):cU N ds S w0 L H (wpListIn (FW ro) 0 P ops Q (⟨O d,.buildSlice T 1 #[(0,x)],ty,pos,aft,U⟩::rest)):=by
 intro a w hS;obtain⟨i,zz,hi,Q5,gW,h1,h2⟩:=h.get;simp only[eU,Nat.blt_eq,Nat.ble_eq]at hs;have hle:=hl.eq;refine gj (v:=.slice (O ⟨w.heap.size,0,U⟩) 1 1) (w':=w.alloc (.cells cs.toArray e)) rfl (λ_ h=>by cases h) ?_ ?_
 ·have hr:=run_buildSlice (P:=P) w T e 1 #[(0,v)] cs.toArray i zz h.sy hi Q5 (by rw[h1];omega) (by rw[h1];omega) (by
   rw[h1,<-hle];have:=Kc v cs ((Array.range (1*cs.length)).map (zz.cells[·%zz.cells.size]!)).toList hv.eq bT;rw[Array.toArray_toList]at this;exact this)
  simp[execOp,hx.eq _ _ _ hS.fr,hr]
 ·exact k _ hS.wd.size _ _ ⟨hS.fr.fv hd _,hS.wd.uA e s 1 _ A (by simp[maxLen])⟩
theorem Kb:∀(vs:List K) (i:Nat) (pre zs:List K),(∀v∈vs,v.oneCell'=true)->pre.length=i->zs.length=vs.length->Instr.fill (λi=>O (i*1,1)) (pre++zs).toArray (xh i vs)=O (pre++vs).toArray
 |[],i,pre,zs,_,_,hz=>by
  have:zs=[]:=nr (aD hz);subst this;rfl
 |v::vs,i,pre,[],_,_,hz=>by simp at hz
 |v::vs,i,pre,z::zs,h1,hp,hz=>by
  have gW:v.cells= #[v]:=by have:=h1 v bT;cases v<;>first|rfl|cases this
  simp only[xh,Instr.fill,gW];rw[ai dr];have e:(Array.foldl (λ(cs:Array K) (x:K×Nat)=>cs.setIfInBounds (i*1+x.2) x.1) (pre++z::zs).toArray (#[v]:Array K).zipIdx)=((pre++[v])++zs).toArray:=by
   subst hp;simp
  rw[e];have:=Kb vs (i+1) (pre++[v]) zs (λu hu=>h1 u (ey _ hu)) (by simp[hp]) (aD hz);simpa using this
class OO(parts:List (Nat×K))(vs:outParam (List K))(i:Nat):Prop where
 eq:parts=xh i vs
instance(i:Nat):OO [] [] i:=⟨rfl⟩
instance(i j:Nat)(v:K)(r:List (Nat×K))(vs:List K)[hj:gJ i j][h:OO r vs j]:OO ((i,v)::r) (v::vs) i:=⟨by simp only[xh];rw[hj.eq,<-h.eq]⟩
theorem TW{z:K}{pos:String}{aft:Array Go.Edge}[h:dt P T e 1 qz [z]][hx:Evp L parts xW][hv:OO xW vs 0][hl:mL vs n][h1:wU vs](hd:ev d N L=true)(hs:(Nat.blt 0 n&&Nat.ble n 1000)=true)
  (k:∀b,w0.heap.size<=b->cU N ds S w0 ((d,.slice (O ⟨b,0,U⟩) n n)::L) (G (O ⟨b,0,U⟩) n n e 1 vs::H) (wpListIn (FW ro) 0 P ops Q rest)):cU N ds S w0 L H (wpListIn (FW ro) 0 P ops Q (⟨O d,.buildSlice T n parts.toArray,ty,pos,aft,U⟩::rest)):=by
 intro a w hS;obtain⟨i,zz,hi,Q5,gW,h2,h3⟩:=h.get;simp only[eU,Nat.blt_eq,Nat.ble_eq]at hs;have hle:=hl.eq;refine gj (v:=.slice (O ⟨w.heap.size,0,U⟩) n n) (w':=w.alloc (.cells vs.toArray e)) rfl (λ_ h=>by cases h) ?_ ?_
 ·have hr:=run_buildSlice (P:=P) w T e n xW.toArray vs.toArray i zz h.sy hi Q5 (by rw[h2];omega) (by rw[h2];omega) (by
   rw[h2,hv.eq];have:=Kb vs 0 [] ((Array.range (n*1)).map (zz.cells[·%zz.cells.size]!)).toList h1.all rfl (by simp[hle]);rw[aS,aS,Array.toArray_toList]at this;exact this)
  have e1:(parts.toArray.map λ(p:Nat×Operand)=>(p.1,a.eval p.2))=xW.toArray:=by
   simp only[List.map_toArray];rw[hx.eq _ _ _ hS.fr]
  simp only[execOp,Sem.run_bind];rw[e1,hr]
  rfl
 ·exact k _ hS.wd.size _ _ ⟨hS.fr.fv hd _,hS.wd.uA e 1 n _ A (by simp[maxLen];omega)⟩
theorem Wd.append(hW:Wd S w0 H w)(h:dt P T e s qz zs)(hs:0<s){ad:ax}(hk:H[k]?=O (G ad n c e s xs))
  {a2:Addr} {m:Nat} (hm:0<m) (hl:news.length=m*s) (UZ:∀j u,news[j]?=O u->w.cell? (a2.add j)=O u) (h1:∀u∈news,u.oneCell'=true) (nN:(n+m)*qz<=140737488355328) (Mm:n+m<=140737488355328) (hzs:zs.length=s):
  ∃a' c' w',(Builtin.append_ #[T,T] ty #[.slice ad n c,.slice (O a2) m c2]).run P w=.ok (.slice a' (n+m) c') w'/\Wd S w0 (H.set k (G a' (n+m) c' e s (xs++news))) w':=by
 obtain⟨i,z,hi,hz,gW,h2,h3⟩:=h.get;subst h2 h3;obtain⟨NL,Mv⟩:=hW.get hk;have hlen:(xs++news).length=(n+m)*i.size:=by rw[bW,NL,hl,lk]
 have aiL:z.cells.size=i.size:=by rw[gW];simpa using hzs
 have grown:∀I9,Wd S w0 (H.set k (G (O ⟨w.heap.size,0,U⟩) (n+m) (grownCap w (n+m) I9 e) e i.size (xs++news))) (w.drew.alloc (.cells (xs.toArray++news.toArray++Builtin.zeroCells z.cells (grownCap w (n+m) I9 e-(n+m))) e)):=by
  intro I9;have fX:=grownCap_ge w (n+m) I9 e;have ED:grownCap w (n+m) I9 e<=maxLen:=grownCap_le_maxLen w (n+m) I9 e (by simp[maxLen];omega);refine hW.nV hk ⟨rfl,rfl,rfl,by simp,λb hb _=>heap_alloc_old w.drew _ hb⟩ (λb hb=>?_) λw2 lP=>?_
  ·simp only[G,b_,cF]at hb
   subst hb;exact⟨.inr (cz _),by simp⟩
  ·have:=lP w.heap.size (by simp[G])
   refine⟨hlen,.inr ⟨w.heap.size,[],(Builtin.zeroCells z.cells (grownCap w (n+m) I9 e-(n+m))).toList,rfl,fX,ED,?_,?_⟩⟩
   ·rw[Array.length_toList,size_zeroCells,aiL];exact cz _
   ·rw[this]
    have e1:(xs.toArray++news.toArray++Builtin.zeroCells z.cells (grownCap w (n+m) I9 e-(n+m)))=([]++(xs++news)++(Builtin.zeroCells z.cells (grownCap w (n+m) I9 e-(n+m))).toList).toArray:=by
     apply Array.toList_inj.1;simp only[Array.toList_append,aS]
    rw[e1];exact heap_alloc_new w.drew _
 rcases Mv with⟨rfl,rfl,rfl⟩|⟨g,pre,sp,rfl,h4,h5,h6,h7⟩
 ·have:xs=[]:=nr (aD NL)
  subst this;have hr:=run_append_nil (P:=P) w T ty e i z h.sy hi hz a2 m c2 news hl UZ hm A (by have hb:=nN;simp only[eC]at hb;omega);have hgr:=grown 0;simp only[eC,aS,Array.empty_append]at hgr|-
  exact⟨_,_,_,hr,hgr⟩
 ·by_cases Bf:n+m<=c
  ·have hmul:(n+m)*i.size<=c*i.size:=sQ _ Bf
   have Gi:c*i.size=n*i.size+(c-n)*i.size:=by rw[<-lk];congr 1;omega
   have pJ:news.length<=sp.length:=by rw[hl];rw[lk]at hmul;omega
   have hf:=run_firstCells_some (P:=P) w i.size m a2 m c2 news hl UZ;have nW:=run_storeCells_at P g (pre.length+n*i.size) e news 0 (pre++xs++sp).toArray w h7 (by simp[NL];omega) h1;simp only[dR]at nW;have etk:((pre++xs++sp).toArray.toList.take (pre.length+n*i.size)++news++(pre++xs++sp).toArray.toList.drop (pre.length+n*i.size+news.length))=pre++(xs++news)++sp.drop news.length:=by
    have e1:pre.length+n*i.size=(pre++xs).length:=by simp[NL]
    have e2:(pre++xs++sp).toArray.toList=(pre++xs)++sp:=rfl;rw[e1,e2,List.take_left,List.drop_append];simp[]
   rw[etk]at nW;refine⟨_,_,_,by simp[Builtin.append_,run_underlying h.sy,sizeOf,typeInfo,hi,Builtin.lenOf,Bf,hf,Addr.add_lit,nW];exact⟨⟨rfl,rfl⟩,rfl⟩,?_⟩;have ce:g<w.heap.size:=(jl.1 h7).1;have mK:∀cs,(w.setRow g cs).heap.size=w.heap.size:=λcs=>by simp[World.setRow]
   refine hW.nV hk ⟨rfl,rfl,rfl,by rw[mK];exact cz _,λb hb fZ=>setRow_other w g b _ (λe=>fZ (by simp[G,e]))⟩ (λb hb=>?_) λw2 lP=>?_
   ·simp only[G,b_,cF]at hb|-
    subst hb;exact⟨.inl rfl,by rw[mK];exact ce⟩
   ·have:=lP g (by simp[G])
    refine⟨hlen,.inr ⟨g,pre,sp.drop news.length,rfl,Bf,h5,?_,?_⟩⟩
    ·rw[eS,hl]
     have:(c-(n+m))*i.size=(c-n)*i.size-m*i.size:=by rw[<-Nat.sub_mul];congr 1;omega
     omega
    ·rw[this]
     have:=setRow_heap w g _ (pre++(xs++(news++List.drop news.length sp))).toArray e _ h7;simpa using this
  ·have holds:∀j u,xs[j]?=O u->w.cell? ((⟨g,pre.length,U⟩:Addr).add j)=O u:=λj u hj=>by
    rw[Addr.add_lit];exact hW.dp hk hj
   have hr:=run_append_grow (P:=P) w T ty e i z h.sy hi hz ⟨g,pre.length,U⟩ n c xs NL holds a2 m c2 news hl UZ A A (growslice_fits A nN);exact⟨_,_,_,hr,grown c⟩
theorem fB{pos:String}{aft:Array Go.Edge}{ad:ax}{m:Nat}[h:dt P T e s qz zs][hx:Ev L x (.slice ad n c)][hy:Ev L y (.slice (O ⟨b2,o2,U⟩) m c2)]
  [hv:wW H ad n c k e s xs] [Bi:wW H (O ⟨b2,o2,U⟩) m c2 k2 e2 s news] [h1:wU news] (hd:ev d N L=true) (hs:((Nat.blt 0 s&&Nat.blt 0 m)&&Nat.beq zs.length s)=true) (nN:(n+m)*qz<=140737488355328) (Mm:n+m<=140737488355328)
  {F:cq->List cq} [hF:D6 H k F] (kk:∀a' c',cU N ds S w0 ((d,.slice a' (n+m) c')::L) (F (G a' (n+m) c' e s (xs++news))) (wpListIn (FW ro) 0 P ops Q rest)):cU N ds S w0 L H (wpListIn (FW ro) 0 P ops Q (⟨O d,.call {callee:=.builtin .append,args:=#[x,y],argTypes:=#[T,T]},ty,pos,aft,U⟩::rest)):=by
 intro a w hS;simp only[eU,Nat.blt_eq]at hs;obtain⟨hl,_⟩:=hS.wd.nj Bi.at';obtain⟨a',c',w',hr,kE⟩:=hS.wd.append (P:=P) (ty:=ty) (c2:=c2) h hs.1.1 hv.at' hs.1.2 hl (λj u hj=>by rw[Addr.add_lit];exact hS.wd.dp Bi.at' hj) h1.all nN Mm (sP hs.2);refine gj (v:=.slice a' (n+m) c') (w':=w') rfl (λ_ h=>by cases h) ?_ ?_
 ·simp[execOp,resolve,invoke,builtin,hx.eq _ _ _ hS.fr,hy.eq _ _ _ hS.fr,hr]
 ·rw[hF.eq]at kE
  exact kk a' c' _ _ ⟨hS.fr.fv hd _,kE⟩
theorem kh{pos:String}{aft:Array Go.Edge}{ad:ax}(k:Nat){m:Nat}[h:dt P T e s qz zs][hx:Ev L x (.slice ad n c)][hy:Ev L y (.slice (O ⟨b2,o2,U⟩) m c2)]
  (hk:H[k]?=O (G ad n c e s xs)) [Bi:wW H (O ⟨b2,o2,U⟩) m c2 k2 e2 s news] [h1:wU news] (hd:ev d N L=true) (hs:((Nat.blt 0 s&&Nat.blt 0 m)&&Nat.beq zs.length s)=true) (nN:(n+m)*qz<=140737488355328) (Mm:n+m<=140737488355328)
  (kk:∀a' c',cU N ds S w0 ((d,.slice a' (n+m) c')::L) (H.set k (G a' (n+m) c' e s (xs++news))) (wpListIn (FW ro) 0 P ops Q rest)):cU N ds S w0 L H (wpListIn (FW ro) 0 P ops Q (⟨O d,.call {callee:=.builtin .append,args:=#[x,y],argTypes:=#[T,T]},ty,pos,aft,U⟩::rest)):=by
 intro a w hS;simp only[eU,Nat.blt_eq]at hs;obtain⟨hl,_⟩:=hS.wd.nj Bi.at';obtain⟨a',c',w',hr,kE⟩:=hS.wd.append (P:=P) (ty:=ty) (c2:=c2) h hs.1.1 hk hs.1.2 hl (λj u hj=>by rw[Addr.add_lit];exact hS.wd.dp Bi.at' hj) h1.all nN Mm (sP hs.2);refine gj (v:=.slice a' (n+m) c') (w':=w') rfl (λ_ h=>by cases h) ?_ ?_
 ·simp[execOp,resolve,invoke,builtin,hx.eq _ _ _ hS.fr,hy.eq _ _ _ hS.fr,hr]
 ·exact kk a' c' _ _ ⟨hS.fr.fv hd _,kE⟩
theorem fU{H1:List cq}(h:H=H1)(k:cU N ds S w0 L H1 p):cU N ds S w0 L H p:=h▸k
theorem bG{H1:List cq}(h:H.Perm H1)(k:cU N ds S w0 L H1 p):cU N ds S w0 L H p:=λa w hS=>k a w ⟨hS.fr,hS.wd.perm h⟩
theorem Wd.PG(h:Wd S w0 H w)(e s:Nat):∀n:Nat,Wd S w0 (aI n (G U 0 0 e s [])++H) w
 |0=>h
 |n+1=>(Wd.PG h e s n).CI e s
theorem uX(e s n:Nat)(h:cU N ds S w0 L (H++aI n (G U 0 0 e s [])) p):cU N ds S w0 L H p:=λa w hS=>h a w ⟨hS.fr,(hS.wd.PG e s n).perm fG⟩
theorem abr{pos:String}{aft:Array Go.Edge}{ad:ax}[h:dt P T e s qz zs][hx:Ev L x (.slice ad n c)]
  [hv:wW H ad n c k e s xs] (hd:ev d N L=true) (hn:0<n)
  {F:cq->List cq} [hF:D6 H k F] (kk:∀a',cU N ds S w0 ((d,.slice a' (n-1) (c-1))::L) (F (G a' (n-1) (c-1) e s (xs.drop s))) (wpListIn (FW ro) 0 P ops Q rest)):cU N ds S w0 L H (wpListIn (FW ro) 0 P ops Q (⟨O d,.slice T x (O (.const (J Z 1))) U U,ty,pos,aft,U⟩::rest)):=by
 intro a w hS;simp only[<-hF.eq]at kk;obtain⟨NL,Mv⟩:=hS.wd.get hv.at';rcases Mv with⟨_,h0,_⟩|⟨g,pre,sp,rfl,h4,h5,h6,h7⟩
 ·omega
 obtain⟨i,z,hi,hz,gW,h2,h3⟩:=h.get;have iw:P.elem T=e:=by simp[Program.elem,h.sy]
 have mK:∀w:ae,(sizeOf (P.elem T)).run P w=.ok s w:=λw=>by rw[iw];simp[sizeOf,typeInfo,hi,h2]
 have hr:=run_slice_l (P:=P) w T (O ⟨g,pre.length,U⟩) n c (by rw[iw];exact h.sy) Z 1 A A;have hsn:s<=xs.length:=by rw[NL];exact Nat.le_mul_of_pos_left _ hn
 have ce:g<w.heap.size:=(jl.1 h7).1;have fin:∀RI,(∃q,RI++xs.drop s++sp=pre++xs++sp/\q=RI.length)->Wd S w0 (H.set k (G (O ⟨g,RI.length,U⟩) (n-1) (c-1) e s (xs.drop s))) w:=by
  intro RI ⟨_,hq,_⟩;refine hS.wd.nV hv.at' (nX.refl _ _) (λb hb=>?_) λw2 lP=>?_
  ·simp only[G,b_,cF]at hb|-
   subst hb;exact⟨.inl rfl,ce⟩
  ·have:=lP g (by simp[G])
   refine⟨by rw[eS,NL,Nat.sub_mul,Nat.one_mul],.inr ⟨g,RI,sp,rfl,A,A,?_,?_⟩⟩
   ·rw[show c-1-(n-1)=c-n by omega];exact h6
   ·rw[this,hq];exact h7
 by_cases hc:c=1
 ·have hn1:n=1:=A
  subst hc hn1;refine gj (v:=.slice (O ⟨g,pre.length,U⟩) 0 0) (w':=w) rfl (λ_ h=>by cases h) ?_ ?_
  ·have ec:a.eval (.const (J Z 1))=J Z 1:=rfl
   simp[execOp,hx.eq _ _ _ hS.fr,ec,run_sliceAt_slice (P:=P) w T _ _ _ _ (by rw[iw];exact h.sy),hr,mK,sliced]
  ·refine kk (O ⟨g,pre.length,U⟩) _ _ ⟨hS.fr.fv hd _,?_⟩
   have hd0:xs.drop s=[]:=List.drop_of_length_le A;refine hS.wd.nV hv.at' (nX.refl _ _) (λb hb=>?_) λw2 lP=>?_
   ·simp only[G,b_,cF]at hb|-
    subst hb;exact⟨.inl rfl,ce⟩
   ·have:=lP g (by simp[G])
    refine⟨by simp[hd0],.inr ⟨g,pre,xs++sp,rfl,A,A,by simp,?_⟩⟩;rw[this,hd0,h7];simp
 ·refine gj (v:=.slice (O ⟨g,pre.length+s,U⟩) (n-1) (c-1)) (w':=w) rfl (λ_ h=>by cases h) ?_ ?_
  ·have ec:a.eval (.const (J Z 1))=J Z 1:=rfl
   simp[execOp,hx.eq _ _ _ hS.fr,ec,run_sliceAt_slice (P:=P) w T _ _ _ _ (by rw[iw];exact h.sy),hr,mK,sliced,hc,Addr.add_lit]
  ·refine kk (O ⟨g,pre.length+s,U⟩) _ _ ⟨hS.fr.fv hd _,?_⟩
   have:=fin (pre++xs.take s) ⟨_,by rw[fu,fu,fu];congr 1;rw[<-fu,List.take_append_drop],rfl⟩;rw[bW,dA,fP hsn]at this;exact this
theorem O5{pos:String}{aft:Array Go.Edge}(R:ae->K->ae->Prop)[h:bf P f][hx:B8 L args vs][hf:Ev L x (.func (.func f) us.toArray xs.toArray)](hd:ev d N L=true)
  (hc:∀w,Wd S w0 H w->iL P f (us++vs++xs) w (R w))
  (k:∀v w w',Wd S w0 H w->R w v w'->∀a,Fr N ds ((d,v)::L) a->wpListIn (FW ro) 0 P ops Q rest a w'):cU N ds S w0 L H (wpListIn (FW ro) 0 P ops Q (⟨O d,.call {callee:=.value x,args:=args.toArray,argTypes:=tJ},ty,pos,aft,U⟩::rest)):=by
 intro a w hS;refine wpListIn_plain rfl λjB hK=>?_;refine⟨λ_ _=>trivial,?_⟩;rw[xS _ _ _ (λ_ h=>by cases h)];have hr:(execOp a.eval ⟨O d,.call {callee:=.value x,args:=args.toArray,argTypes:=tJ},ty,pos,aft,U⟩).run P w=.ok (.enter f (us++vs++xs).toArray) w:=by
  simp[execOp,resolve,hf.eq _ _ _ hS.fr,Deferred.ofValue,invoke,hx.eq _ _ _ hS.fr,h.run]
 rw[hr];refine⟨λh=>(by cases h),?_⟩;refine CallsIn.mono (R:=λe w'=>∃v,e=.returned v/\R w v w') (hc w hS.wd) λe w' ⟨v,he,hR⟩=>?_;subst he;exact hK _ _ (k v w w' hS.wd hR _ (hS.fr.fv hd v))
theorem uV{pos:String}{aft:Array Go.Edge}[h:bf P f][hx:B8 L args vs][hf:Ev L x (.func (.func f) us.toArray xs.toArray)](hd:ev d N L=true)
  (hc:∀w,Wd S w0 H w->gF P f (us++vs++xs) w u)
  (k:cU N ds S w0 ((d,u)::L) H (wpListIn (FW ro) 0 P ops Q rest)):cU N ds S w0 L H (wpListIn (FW ro) 0 P ops Q (⟨O d,.call {callee:=.value x,args:=args.toArray,argTypes:=tJ},ty,pos,aft,U⟩::rest)):=
 O5 (λw v w'=>v=u/\nX db w w') hd hc λv _ w' hw hR a hF=>k a w' ⟨by rw[<-hR.1];exact hF,hw.call hR.2⟩
theorem xQ[h:gO P T n][hb:sM H b j cs t][hl:mL cs n](hW:Wd S w0 H w):(loadVar T ⟨b,0,U⟩).run P w=.ok (.agg cs.toArray) w:=by
 have h1:=run_loadCells_list (P:=P) w ⟨b,0,U⟩ cs (λi v hv=>by rw[Addr.add_lit,eC];exact hW.rX j hb.at' hv);rw[hl.eq]at h1;simp[loadVar,h.agg,h.sz,h1]
theorem fD{fn:Func}(hr:fn.results= #[.cell t T])[hv:jQ L t (.pointer (O ⟨b,0,U⟩))][h:gO P T n][hb:sM H b j cs bt][hl:mL cs n](hR:∀w,Wd S w0 H w->R (.agg cs.toArray) w):cU N [] S w0 L H (bodyPost P fn (λe w'=>∃v,e=.returned v/\R v w') .ret):=λa w hS=>by
 refine⟨hS.fr.defers,.agg cs.toArray,?_,_,rfl,hR w hS.wd⟩;have:=xQ (P:=P) (T:=T) (b:=b) (cs:=cs) hS.wd;simp[results,hr,hS.fr.slot _ hv.mem,asAddr,this]
theorem AS{fn:Func}{n2 j2 bt2:Nat}{Jq:List K}(hr:fn.results= #[.cell s T2,.cell t T])[hu:jQ L s (.pointer (O ⟨b2,0,U⟩))][h2:gO P T2 n2][wS:sM H b2 j2 Jq bt2][UR:mL Jq n2][hv:jQ L t (.pointer (O ⟨b,0,U⟩))][h:gO P T n][hb:sM H b j cs bt][hl:mL cs n](hR:∀w,Wd S w0 H w->R (.tuple #[.agg Jq.toArray,.agg cs.toArray]) w):cU N [] S w0 L H (bodyPost P fn (λe w'=>∃v,e=.returned v/\R v w') .ret):=λa w hS=>by
 refine⟨hS.fr.defers,_,?_,_,rfl,hR w hS.wd⟩;have h3:=xQ (P:=P) (T:=T) (b:=b) (cs:=cs) hS.wd;have h4:=xQ (P:=P) (T:=T2) (b:=b2) (cs:=Jq) hS.wd;simp[results,hr,hS.fr.slot _ hv.mem,hS.fr.slot _ hu.mem,asAddr,h3,h4]
def wY(P:Program)(N:Nat)(ds:List Deferred)(S:Nat->Prop)(w0:ae)(L:List (Nat×K))(H:List cq)(ro:Option Nat)(l:List Oper)(Q:Exit->Act->ae->Prop)(di:Nat)(listed:Array Bool):Nat->Prop
 |0=>True
 |i+1=>((eZ .any l.toArray listed).contains i=false\/∃o,l[i]?=O o/\cU N ds S w0 L H (wpListIn (FW ro) 0 P l.toArray (Exit.then (wpAnyIn (FW ro) 0 P .any l.toArray Q di (listed.setIfInBounds i true)) Q) [o]))/\wY P N ds S w0 L H ro l Q di listed i
theorem any_nil:wY P N ds S w0 L H ro l Q di listed 0:=trivial
theorem pC(h1:(eZ .any l.toArray listed).contains i=false)(h2:wY P N ds S w0 L H ro l Q di listed i):wY P N ds S w0 L H ro l Q di listed (i+1):=⟨.inl h1,h2⟩
theorem any_cons{o:Oper}(h1:cU N ds S w0 L H (wpListIn (FW ro) 0 P l.toArray (Exit.then (wpAnyIn (FW ro) 0 P .any l.toArray Q di (listed.setIfInBounds i true)) Q) [o]))(h2:wY P N ds S w0 L H ro l Q di listed i)[ho:eJ l i o]:wY P N ds S w0 L H ro l Q di listed (i+1):=⟨.inr ⟨o,ho.at',h1⟩,h2⟩
theorem aag{o:Oper}(h:wpListIn (FW ro) 0 P ops (Exit.then dw Q) [o] a w):if fq o (yielded ops a.tmps)then o.wpIn (FW ro) 0 P a w dw Q else(∀f,o.about P w a.eval=O f->(FW ro).fn f)/\dw (a.put o.dst undef) w:=by
 unfold wpListIn at h
 split
 ·rename_i hw
  rw[al hw]at h;refine⟨h.1,?_⟩;have h2:=h.2
  revert h2
  generalize (o.semAt (FW ro).round a.eval).run P w=r;intro h2;cases r with
  |ok nx w1=>
   cases nx with
   |value v=>exact h2
   |skip=>exact h2
   |defer d=>exact h2
   |enter f args=>
    refine⟨h2.1,h2.2.mono λe w2 hh=>?_⟩;cases e<;>exact hh
   |row r args=>exact⟨h2.1,h2.2.mono λv w2 hh=>hh⟩
   |round l f tmps assign body=>
    refine⟨h2.1,h2.2.mono λe w2 hh=>?_⟩;cases e<;>exact hh
   |_=>exact h2
  |halt x w1=>cases x<;>exact h2
 ·rename_i hw
  rw[ai hw]at h;exact⟨h.1,h.2⟩
theorem D9:∀{n:Nat},wY P N ds S w0 L H ro l Q di listed n->∀i,i<n->i∈eZ .any l.toArray listed->cU N ds S w0 L H (λa w=>wpOpIn (FW ro) 0 P l.toArray Q i (wpAnyIn (FW ro) 0 P .any l.toArray Q di (listed.setIfInBounds i true)) a w)
 |0,_,i,hi,_=>A
 |j+1,⟨h1,h2⟩,i,hi,hm=>by
  by_cases UN:i=j
  ·subst UN
   rcases h1 with h1|⟨o,ho,h1⟩
   ·rw[List.contains_iff_mem.2 hm]at h1;cases h1
   ·intro a w hS
    unfold wpOpIn;rw[show l.toArray[i]?=O o by simpa using ho];exact aag (h1 a w hS)
  ·exact D9 h2 i A hm
theorem WE(h:i∈eZ .any l.toArray listed):i<l.length:=by
 unfold eZ at h;have:=cR.1 h;simpa using this.1
theorem AQ[hl:HU l n](fZ:(eZ .any l.toArray listed).isEmpty=false)(h:wY P N ds S w0 L H ro l Q di listed n):cU N ds S w0 L H (wpAnyIn (FW ro) 0 P .any l.toArray Q (di+1) listed):=λa w hS=>by
 refine⟨λe=>?_,λi hi=>D9 h i (by rw[<-hl.eq];exact WE hi) hi a w hS⟩;rw[e]at fZ;cases fZ
theorem Cj(hr:eZ .any l.toArray listed=[])(h:cU N ds S w0 L H (Q .normal)):cU N ds S w0 L H (wpAnyIn (FW ro) 0 P .any l.toArray Q 0 listed):=λa w hS=>⟨hr,h a w hS⟩
def et(dw:Act->ae->Prop):Exit->Act->ae->Prop
 | .normal,a,w=>dw a w
 |_,_,_=>False
def ZG:Op->Bool
 | .call _=>false
 |_=>true
theorem gu(i:Nat){pos:String}{aft:Array Go.Edge}[ho:eJ l i ⟨O d,op,ty,pos,aft,U⟩][h:∀w,gg P N ds db w L [] op v](hd:(ev d N L&&ZG op)=true)
  (hr:((Region.noSelect l.toArray&&Region.free .any l.toArray listed i)&&(eZ .any l.toArray listed).contains i)=true)
  (k:cU N ds S w0 ((d,v)::L) H (wpAnyIn (FW U) 0 P .any l.toArray (et dw) di (listed.setIfInBounds i true))):cU N ds S w0 L H (wpAnyIn (FW U) 0 P .any l.toArray (et dw) (di+1) listed):=λa w hS=>by
 simp only[eU]at hr hd;refine wpAnyIn_take (i:=i) (oi:=⟨O d,op,ty,pos,aft,U⟩) (v:=v) rfl (aD ho.at') hr.1.1 hr.1.2 hr.2 (λc a w hh=>hh) ⟨.inl ⟨rfl,λw=>?_⟩,λw=>?_⟩ (k _ _ ⟨hS.fr.fv hd.1 v,hS.wd⟩)
 ·exact(h w).run _ _ _ _ _ a w hS.fr (Wd.nil db w)
 ·have:=hd.2
  cases op<;>first|rfl|cases this
theorem AR{id:Nat}[hl:HU l n](L':List (Nat×K))(H':List cq)(hm:P.follows .mixedOrders=true)
  (h:cU N ds S w0 L H (wpAnyIn (FW ro) 0 P .any l.toArray (et (St N ds S w0 L' H')) n (Array.replicate n false)))
  (k:cU N ds S w0 L' H' (Q .normal)):cU N ds S w0 L H (eY (FW ro) 0 P (Code.region id l.toArray true) Q):=λa w hS=>by
 refine wpIn_region_any hm ?_;have h1:=h a {w with drawn:=w.drawn+1} ⟨hS.fr,hS.wd.same rfl rfl rfl rfl⟩;have key:∀(di:Nat) (listed:Array Bool) (a:Act) (w:ae),wpAnyIn (FW ro) 0 P .any l.toArray (et (St N ds S w0 L' H')) di listed a w->wpAnyIn (FW ro) 0 P .any l.toArray Q di listed a w:=by
  intro di
  induction di with
  |zero=>exact λlisted a w h=>⟨h.1,k a w h.2⟩
  |succ di ih=>
   intro listed a w h;refine⟨λe=>k a w (h.1 e),λi hi=>?_⟩;have h2:=h.2 i hi;unfold wpOpIn at h2|-
   split
   ·rename_i ho
    simp only[ho]at h2;exact ih _ _ _ h2
   ·rename_i o ho
    simp only[ho]at h2
    split
    ·rename_i hw
     rw[al hw]at h2;refine⟨h2.1,?_⟩;have h3:=h2.2
     revert h3
     generalize (o.semAt (FW ro).round a.eval).run P w=r;intro h3;cases r with
     |ok nx w1=>
      cases nx with
      |value v=>exact ih _ _ _ h3
      |skip=>exact ih _ _ _ h3
      |defer d=>exact ih _ _ _ h3
      |enter f args=>
       refine⟨h3.1,h3.2.mono λe w2 hh=>?_⟩;cases e with
       |returned v=>exact ih _ _ _ hh
       |panicked c=>exact(hh:False).elim
       |outgrown=>exact(Exists.elim hh λ_ h=>Exists.elim h λ_ h=>(h:False).elim)
      |row r args=>exact⟨h3.1,h3.2.mono λv w2 hh=>ih _ _ _ hh⟩
      |round l f tmps assign body=>
       refine⟨h3.1,h3.2.mono λe w2 hh=>?_⟩;cases e with
       |returned v=>exact ih _ _ _ hh
       |panicked c=>exact(hh:False).elim
       |outgrown=>exact(Exists.elim hh λ_ h=>Exists.elim h λ_ h=>(h:False).elim)
      |_=>exact h3
     |halt x w1=>cases x<;>exact(h3:False).elim
    ·rename_i hw
     rw[ai hw]at h2;exact⟨h2.1,ih _ _ _ h2.2⟩
 have:=key _ _ _ _ h1;rw[<-hl.eq]at this;simpa using this
end
structure Hd(q:Prop):Prop where
 g:q
theorem bA{q:Prop}(k:q)(h:Hd q->p:=by intro k;(first|refine yO rfl ?_|refine ms ?_|refine qm ?_|refine om ?_|refine zl ?_);(repeat(first|refine yO rfl ?_|refine ms ?_|refine qm ?_|refine om ?_|refine zl ?_));exact k.g):p:=h ⟨k⟩
theorem aU{q:Prop}(k:q)(h:Hd q->p:=by intro k;(first|refine yO rfl ?_|refine ms ?_|refine qm ?_|refine om ?_|refine zl ?_|refine xq rfl ?_|refine zk rfl A A ?_|refine xt ?_|refine vV ?_|refine sG ?_|refine C4 ?_|refine rZ ?_|refine t_ ?_);(repeat(first|refine yO rfl ?_|refine ms ?_|refine qm ?_|refine om ?_|refine zl ?_|refine xq rfl ?_|refine zk rfl A A ?_|refine xt ?_|refine vV ?_|refine sG ?_|refine C4 ?_|refine rZ ?_|refine t_ ?_));exact k.g):p:=h ⟨k⟩
theorem aV{q:Prop}(k:q)(h:Hd q->p:=by intro k;(first|refine yO rfl ?_|refine ms ?_|refine qm ?_|refine om ?_|refine zl ?_|refine xq rfl ?_|refine zk rfl A A ?_|refine xt ?_|refine vV ?_|refine sG ?_|refine C4 ?_|refine rZ ?_|refine t_ ?_|refine oJ ?_|refine yw ?_|refine sX ?_|refine Cl ?_|refine qE ?_|refine qD ?_|refine sH ?_|refine qC ?_|refine GY rfl A A ?_|refine uW rfl ?_|refine Cm ?_);(repeat(first|refine yO rfl ?_|refine ms ?_|refine qm ?_|refine om ?_|refine zl ?_|refine xq rfl ?_|refine zk rfl A A ?_|refine xt ?_|refine vV ?_|refine sG ?_|refine C4 ?_|refine rZ ?_|refine t_ ?_|refine oJ ?_|refine yw ?_|refine sX ?_|refine Cl ?_|refine qE ?_|refine qD ?_|refine sH ?_|refine qC ?_|refine GY rfl A A ?_|refine uW rfl ?_|refine Cm ?_));exact k.g):p:=h ⟨k⟩
theorem cT{q:Prop}(k:q)(h:Hd q->p:=by intro k;(first|refine yO rfl ?_|refine ms ?_|refine qm ?_|refine om ?_|refine zl ?_|refine xq rfl ?_|refine Cm ?_|refine In rfl ?_|refine yw ?_|refine oJ ?_|refine sG ?_|refine vV ?_|refine xt ?_|refine t_ ?_|refine rZ ?_|refine zk rfl A A ?_|refine GY rfl A A ?_|refine Cl ?_|refine qE ?_|refine qD ?_|refine uW rfl ?_|refine C4 ?_|refine sH ?_|refine qC ?_|refine Ip rfl ?_|refine Io ?_|refine DN rfl ?_|refine Ey rfl ?_|refine sX ?_);(repeat(first|refine yO rfl ?_|refine ms ?_|refine qm ?_|refine om ?_|refine zl ?_|refine xq rfl ?_|refine Cm ?_|refine In rfl ?_|refine yw ?_|refine oJ ?_|refine sG ?_|refine vV ?_|refine xt ?_|refine t_ ?_|refine rZ ?_|refine zk rfl A A ?_|refine GY rfl A A ?_|refine Cl ?_|refine qE ?_|refine qD ?_|refine uW rfl ?_|refine C4 ?_|refine sH ?_|refine qC ?_|refine Ip rfl ?_|refine Io ?_|refine DN rfl ?_|refine Ey rfl ?_|refine sX ?_));exact k.g):p:=h ⟨k⟩
theorem adU{q:Prop}(k:q)(h:Hd q->p:=by intro k;(first|refine yO rfl ?_|refine ms ?_|refine qm ?_|refine om ?_|refine zl ?_|refine xq rfl ?_|refine Cm ?_|refine In rfl ?_|refine yw ?_|refine oJ ?_|refine xt ?_|refine t_ ?_|refine rZ ?_|refine zk rfl A A ?_|refine GY rfl A A ?_|refine Cl ?_|refine qE ?_|refine qD ?_|refine uW rfl ?_|refine C4 ?_|refine sH ?_|refine qC ?_|refine Ip rfl ?_|refine Io ?_|refine DN rfl ?_|refine Ey rfl ?_|refine sX ?_);(repeat(first|refine yO rfl ?_|refine ms ?_|refine qm ?_|refine om ?_|refine zl ?_|refine xq rfl ?_|refine Cm ?_|refine In rfl ?_|refine yw ?_|refine oJ ?_|refine xt ?_|refine t_ ?_|refine rZ ?_|refine zk rfl A A ?_|refine GY rfl A A ?_|refine Cl ?_|refine qE ?_|refine qD ?_|refine uW rfl ?_|refine C4 ?_|refine sH ?_|refine qC ?_|refine Ip rfl ?_|refine Io ?_|refine DN rfl ?_|refine Ey rfl ?_|refine sX ?_));exact k.g):p:=h ⟨k⟩
theorem kJ{q:Prop}(k:q)(h:Hd q->p:=by intro k;(first|refine WA rfl ?_|refine aa0 rfl ?_|refine WB ?_|refine WC rfl ?_|refine PV rfl ?_|refine aaY rfl A A ?_|refine aa1 rfl A A ?_|refine aaZ ?_);(repeat(first|refine WA rfl ?_|refine aa0 rfl ?_|refine WB ?_|refine WC rfl ?_|refine PV rfl ?_|refine aaY rfl A A ?_|refine aa1 rfl A A ?_|refine aaZ ?_));exact k.g):p:=h ⟨k⟩
theorem dd{c q:Nat->Prop}(k:∀b,c b->q b)(h:Hd (∀b,c b->q b)->p:=by intro k;(first|refine adW rfl ?_|refine Yk rfl ?_|refine adV rfl ?_|refine TU rfl rfl ?_|refine TW rfl rfl ?_|refine abq rfl A A ?_);exact k.g):p:=h ⟨k⟩
end
end Go.Proofs.YthfhgolkafpmnaaGreatDoor
