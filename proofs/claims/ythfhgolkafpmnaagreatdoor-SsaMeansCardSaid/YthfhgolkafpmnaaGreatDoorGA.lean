/- Texts joined: Core Data Step More. -/
import Derived.BigQuiet
import Derived.Deep.MidRow
import Derived.Deep.Quiet
import Derived.Great.BuildSlice
import Derived.Laws.OwnMore
import Derived.OrdersIn
import Derived.RangeFuncCalls
import Derived.TacticsIn
import Derived.WalkKit
namespace Go.Proofs.YthfhgolkafpmnaaGreatDoor
open Go.Value renaming int->U
open Go.IntKind renaming i64->O
open Option renaming some->Z,none->A
open Go renaming Value->V,World->C
open Go Go.RowKit
theorem ap{p:Prop}(h:p:=by repeat(first|exact trivial|refine⟨rfl,?_⟩)):p:=h
theorem I{p:Prop}(h:p:=by omega):p:=h
theorem ai{p:Prop}(h:p:=by decide+kernel):p:=h
theorem aR{p:Prop}(h:p:=by kernel_rfl):p:=h
theorem aC{p:Prop}(h:p:=by simp):p:=h
theorem aw{p:Prop}(h:p:=by repeat(first|exact List.Sublist.refl _|exact List.nil_sublist _|refine List.Sublist.cons_cons _ ?_|refine List.Sublist.cons _ ?_)):p:=h
theorem aK{α:Type}{l:List α}:l.Sublist l:=List.Sublist.refl l
theorem qd{α:Type}{l:List α}:([]:List α).Sublist l:=List.nil_sublist _
theorem dM{α:Type}{a:α}{l l':List α}(h:l.Sublist l'):(a::l).Sublist (a::l'):=.cons_cons _ h
theorem dU{p:Prop}(h:p:=by repeat(first|exact List.Sublist.refl _|refine List.Sublist.cons _ ?_)):p:=h
theorem bK{p:Prop}(h:p:=by simp only;omega):p:=h
theorem dp{p:Prop}(h:p:=by simp;omega):p:=h
theorem ax{p q:Prop}(h:p)(e:p->q:=by intro h;simpa using h):q:=e h
abbrev aj(k p:Nat):Nat×Value:=(k,.pointer (some ⟨p,0,none⟩))
theorem bf{α:Type}(l:List α)(k:Nat)(h:k<l.length):∃x,l[k]?=some x:=⟨_,List.getElem?_eq_getElem h⟩
abbrev aA:ByteArray:=ByteArray.empty
abbrev ahR(n:Int):Value:=.int .i64 n
abbrev afa(b:Nat):Option Addr:=some ⟨b,0,none⟩
abbrev ahQ(b o:Nat):Option Addr:=some ⟨b,o,none⟩
abbrev ahS(b:Nat):Value:=.pointer (some ⟨b,0,none⟩)
theorem tK:type_of% @Array.getD_eq_getD_getElem?:=@Array.getD_eq_getD_getElem?
theorem xu:type_of% @Array.getElem?_eq_none:=@Array.getElem?_eq_none
theorem fv:type_of% @Array.getElem?_eq_some_iff:=@Array.getElem?_eq_some_iff
theorem dO:type_of% @Int.toNat_natCast:=@Int.toNat_natCast
theorem zV:type_of% @List.Sublist.append_left:=@List.Sublist.append_left
theorem ey:type_of% @List.Sublist.refl:=@List.Sublist.refl
theorem xw:type_of% @List.any_eq_false:=@List.any_eq_false
theorem mW:type_of% @List.any_eq_true:=@List.any_eq_true
theorem dz:type_of% @List.append_assoc:=@List.append_assoc
theorem cD:type_of% @List.append_nil:=@List.append_nil
theorem aW:type_of% @List.cons_append:=@List.cons_append
theorem bC:type_of% @List.count_append:=@List.count_append
theorem br:type_of% @List.count_cons:=@List.count_cons
theorem cq:type_of% @List.count_nil:=@List.count_nil
theorem yv:type_of% @List.drop_append_of_le_length:=@List.drop_append_of_le_length
theorem lR:type_of% @List.drop_eq_getElem_cons:=@List.drop_eq_getElem_cons
theorem iU:type_of% @List.drop_length:=@List.drop_length
theorem vW:type_of% @List.drop_length_add_append:=@List.drop_length_add_append
theorem vX:type_of% @List.drop_replicate:=@List.drop_replicate
theorem lk:type_of% @List.eq_nil_of_length_eq_zero:=@List.eq_nil_of_length_eq_zero
theorem jK:type_of% @List.eq_of_mem_replicate:=@List.eq_of_mem_replicate
theorem qA:type_of% @List.eraseIdx_set_eq:=@List.eraseIdx_set_eq
theorem ci:type_of% @List.ext_getElem?:=@List.ext_getElem?
theorem nU:type_of% @List.filter_append:=@List.filter_append
theorem rV:type_of% @List.filter_congr:=@List.filter_congr
theorem nV:type_of% @List.filter_sublist:=@List.filter_sublist
theorem iD:type_of% @List.flatMap_append:=@List.flatMap_append
theorem gZ:type_of% @List.flatMap_cons:=@List.flatMap_cons
theorem qB:type_of% @List.flatMap_def:=@List.flatMap_def
theorem lS:type_of% @List.flatMap_map:=@List.flatMap_map
theorem qC:type_of% @List.flatMap_nil:=@List.flatMap_nil
theorem pF:type_of% @List.foldl_append:=@List.foldl_append
theorem gj:type_of% @List.foldl_cons:=@List.foldl_cons
theorem cB:type_of% @List.getD_eq_getElem?_getD:=@List.getD_eq_getElem?_getD
theorem dY:type_of% @List.getElem?_append_left:=@List.getElem?_append_left
theorem dC:type_of% @List.getElem?_append_right:=@List.getElem?_append_right
theorem pG:type_of% @List.getElem?_cons_succ:=@List.getElem?_cons_succ
theorem kC:type_of% @List.getElem?_cons_zero:=@List.getElem?_cons_zero
theorem iV:type_of% @List.getElem?_drop:=@List.getElem?_drop
theorem a_:type_of% @List.getElem?_eq_getElem:=@List.getElem?_eq_getElem
theorem bO:type_of% @List.getElem?_eq_none:=@List.getElem?_eq_none
theorem kD:type_of% @List.getElem?_eq_none_iff:=@List.getElem?_eq_none_iff
theorem az:type_of% @List.getElem?_eq_some_iff:=@List.getElem?_eq_some_iff
theorem aJ:type_of% @List.getElem?_map:=@List.getElem?_map
theorem cf:type_of% @List.getElem?_mapIdx:=@List.getElem?_mapIdx
theorem mM:type_of% @List.getElem?_modify:=@List.getElem?_modify
theorem bg:type_of% @List.getElem?_of_mem:=@List.getElem?_of_mem
theorem eX:type_of% @List.getElem?_range:=@List.getElem?_range
theorem g_:type_of% @List.getElem?_replicate:=@List.getElem?_replicate
theorem ez:type_of% @List.getElem?_set:=@List.getElem?_set
theorem fz:type_of% @List.getElem?_set_ne:=@List.getElem?_set_ne
theorem eK:type_of% @List.getElem?_set_self:=@List.getElem?_set_self
theorem tL:type_of% @List.getElem?_take:=@List.getElem?_take
theorem yw:type_of% @List.getElem?_take_of_lt:=@List.getElem?_take_of_lt
theorem mN:type_of% @List.getElem_idxOf:=@List.getElem_idxOf
theorem j9:type_of% @List.getElem_mem:=@List.getElem_mem
theorem vY:type_of% @List.idxOf_lt_length_iff:=@List.idxOf_lt_length_iff
theorem ju:type_of% @List.idxOf_lt_length_of_mem:=@List.idxOf_lt_length_of_mem
theorem bX:type_of% @List.length_append:=@List.length_append
theorem gk:type_of% @List.length_cons:=@List.length_cons
theorem eY:type_of% @List.length_drop:=@List.length_drop
theorem jL:type_of% @List.length_filter_le:=@List.length_filter_le
theorem aF:type_of% @List.length_map:=@List.length_map
theorem iW:type_of% @List.length_mapIdx:=@List.length_mapIdx
theorem qD:type_of% @List.length_nil:=@List.length_nil
theorem rW:type_of% @List.length_pos_iff:=@List.length_pos_iff
theorem fA:type_of% @List.length_range:=@List.length_range
theorem dm:type_of% @List.length_replicate:=@List.length_replicate
theorem vZ:type_of% @List.length_reverse:=@List.length_reverse
theorem eL:type_of% @List.length_set:=@List.length_set
theorem j_:type_of% @List.length_singleton:=@List.length_singleton
theorem dd:type_of% @List.length_take:=@List.length_take
theorem bz:type_of% @List.map_append:=@List.map_append
theorem dD:type_of% @List.map_congr_left:=@List.map_congr_left
theorem bT:type_of% @List.map_cons:=@List.map_cons
theorem pH:type_of% @List.map_flatMap:=@List.map_flatMap
theorem ll:type_of% @List.map_id:=@List.map_id
theorem dE:type_of% @List.map_map:=@List.map_map
theorem dn:type_of% @List.map_nil:=@List.map_nil
theorem eM:type_of% @List.map_set:=@List.map_set
theorem bA:type_of% @List.mem_append:=@List.mem_append
theorem ct:type_of% @List.mem_append_left:=@List.mem_append_left
theorem de:type_of% @List.mem_append_right:=@List.mem_append_right
theorem bD:type_of% @List.mem_cons:=@List.mem_cons
theorem cO:type_of% @List.mem_cons_of_mem:=@List.mem_cons_of_mem
theorem tM:type_of% @List.mem_cons_self:=@List.mem_cons_self
theorem cC:type_of% @List.mem_filter:=@List.mem_filter
theorem df:type_of% @List.mem_flatMap:=@List.mem_flatMap
theorem aV:type_of% @List.mem_map:=@List.mem_map
theorem aq:type_of% @List.mem_of_getElem?:=@List.mem_of_getElem?
theorem rX:type_of% @List.mem_of_mem_take:=@List.mem_of_mem_take
theorem kE:type_of% @List.mem_or_eq_of_mem_set:=@List.mem_or_eq_of_mem_set
theorem cM:type_of% @List.mem_range:=@List.mem_range
theorem bR:type_of% @List.mem_singleton:=@List.mem_singleton
theorem aO:type_of% @List.nil_append:=@List.nil_append
theorem fh:type_of% @List.nil_sublist:=@List.nil_sublist
theorem pI:type_of% @List.nodup_append:=@List.nodup_append
theorem mO:type_of% @List.nodup_cons:=@List.nodup_cons
theorem qE:type_of% @List.nodup_range:=@List.nodup_range
theorem h_:type_of% @List.not_mem_nil:=@List.not_mem_nil
theorem jI:type_of% @List.pairwise_append:=@List.pairwise_append
theorem ew:type_of% @List.pairwise_cons:=@List.pairwise_cons
theorem q6:type_of% @List.pairwise_map:=@List.pairwise_map
theorem cP:type_of% @List.perm_append_comm:=@List.perm_append_comm
theorem sO:type_of% @List.perm_ext_iff_of_nodup:=@List.perm_ext_iff_of_nodup
theorem aP:type_of% @List.perm_iff_count:=@List.perm_iff_count
theorem lD:type_of% @List.perm_middle:=@List.perm_middle
theorem kU:type_of% @List.range_succ:=@List.range_succ
theorem my:type_of% @List.set_append_right:=@List.set_append_right
theorem cG:type_of% @List.set_cons_succ:=@List.set_cons_succ
theorem bW:type_of% @List.set_cons_zero:=@List.set_cons_zero
theorem eI:type_of% @List.sublist_append_left:=@List.sublist_append_left
theorem sP:type_of% @List.sublist_append_right:=@List.sublist_append_right
theorem dR:type_of% @List.sublist_cons_self:=@List.sublist_cons_self
theorem eT:type_of% @List.sum_cons:=@List.sum_cons
theorem q7:type_of% @List.takeWhile_cons_of_pos:=@List.takeWhile_cons_of_pos
theorem cz:type_of% @List.take_add_one:=@List.take_add_one
theorem q8:type_of% @List.take_append_drop:=@List.take_append_drop
theorem kV:type_of% @List.take_append_of_le_length:=@List.take_append_of_le_length
theorem cQ:type_of% @List.take_length:=@List.take_length
theorem sQ:type_of% @List.take_length_add_append:=@List.take_length_add_append
theorem kh:type_of% @List.take_of_length_le:=@List.take_of_length_le
theorem dI:type_of% @Nat.add_assoc:=@Nat.add_assoc
theorem jJ:type_of% @Nat.add_mul:=@Nat.add_mul
theorem lE:type_of% @Nat.add_sub_cancel_left:=@Nat.add_sub_cancel_left
theorem ef:type_of% @Nat.add_zero:=@Nat.add_zero
theorem q9:type_of% @Nat.eq_of_beq_eq_true:=@Nat.eq_of_beq_eq_true
theorem bG:type_of% @Nat.le_refl:=@Nat.le_refl
theorem du:type_of% @Nat.le_trans:=@Nat.le_trans
theorem pN:type_of% @Nat.lt_of_le_of_ne:=@Nat.lt_of_le_of_ne
theorem iq:type_of% @Nat.min_eq_left:=@Nat.min_eq_left
theorem q_:type_of% @Nat.mul_le_mul_right:=@Nat.mul_le_mul_right
theorem f_:type_of% @Nat.mul_one:=@Nat.mul_one
theorem nS:type_of% @Nat.not_lt_zero:=@Nat.not_lt_zero
theorem dN:type_of% @Nat.sub_self:=@Nat.sub_self
theorem di:type_of% @Nat.zero_add:=@Nat.zero_add
theorem aT:type_of% @Nat.zero_le:=@Nat.zero_le
theorem nT:type_of% @Nat.zero_mul:=@Nat.zero_mul
theorem dW:type_of% @Option.getD_some:=@Option.getD_some
theorem cA:type_of% @Option.map_eq_some_iff:=@Option.map_eq_some_iff
theorem bu:type_of% @Option.map_some:=@Option.map_some
theorem a7:type_of% @Option.some.inj:=@Option.some.inj
theorem b_:type_of% @Option.some.injEq:=@Option.some.injEq
theorem mz:type_of% @Option.toList_some:=@Option.toList_some
section
def FW(ro:Option Nat):Fence:={fn:=λ_=>True,depth:=A,alive:=false,round:=ro}
structure Fr(N:Nat)(ds:List Deferred)(L:List (Nat×V))(a:Act):Prop where
 size:a.tmps.size=N
 defers:a.defers=ds
 slot:∀p∈L,a.tmps[p.1]?=Z p.2
section
variable {N:Nat} {ds:List Deferred} {L:List (Nat×V)} {a:Act}
theorem Fr.put(h:Fr N ds L a){d:Nat}(hd:d.blt N=true)(v:V)(eQ:∀p∈L,¬p.1=d):Fr N ds ((d,v)::L) (a.put (Z d) v):=by
 have hd:d<N:=ax hd;refine⟨by simp[Act.put,h.size],by simpa[Act.put]using h.defers,λp hp=>?_⟩;rcases bD.1 hp with rfl|hp
 ·simp[Act.put,h.size,hd]
 ·have h1:=eQ p hp
  simp only[Act.put];rw[Array.getElem?_setIfInBounds,if_neg I];exact h.slot p hp
def yu(L:List (Nat×V)):List (Nat×V)->Prop
 |[]=>True
 |p::r=>L.lookup p.1=Z p.2/\yu L r
theorem EN{L:List (Nat×V)}{s:Nat}{v:V}(h:L.lookup s=Z v):(s,v)∈L:=by
 induction L with
 |nil=>simp[List.lookup]at h
 |cons p r ih=>
  obtain⟨k,u⟩:=p;simp only[List.lookup_cons]at h
  by_cases e:s=k
  ·subst e
   simp at h;subst h;simp
  ·have:(s==k)=false:=ax e
   simp only[this]at h;exact cO _ (ih h)
theorem Fr.to(h:Fr N ds L a){L':List (Nat×V)}(hs:yu L L'):Fr N ds L' a:=by
 refine⟨h.size,h.defers,λp hp=>?_⟩
 induction L' with
 |nil=>simp at hp
 |cons q r ih=>
  obtain⟨h1,h2⟩:=hs;rcases bD.1 hp with rfl|hp
  ·exact h.slot p (EN h1)
  ·exact ih h2 hp
end
structure l_(S:Nat->Prop)(w w':C):Prop where
 os:w'.os=w.os
 tape:w'.tape=w.tape
 output:w'.output=w.output
 size:w.heap.size<=w'.heap.size
 block:∀k,k<w.heap.size->¬S k->w'.heap[k]?=w.heap[k]?
def cX:Nat->Prop:=λ_=>False
theorem l_.refl(S:Nat->Prop)(w:C):l_ S w w:=⟨rfl,rfl,rfl,bG _,λ_ _ _=>rfl⟩
theorem l_.trans{S:Nat->Prop}{a b c:C}(h:l_ S a b)(k:l_ S b c):l_ S a c:=
 ⟨k.os.trans h.os,k.tape.trans h.tape,k.output.trans h.output,du h.size k.size,λi hi hS=>(k.block i (by have:=h.size;omega) hS).trans (h.block i hi hS)⟩
theorem l_.mono{S T:Nat->Prop}{w w':C}(h:l_ S w w')(hs:∀b,b<w.heap.size->S b->T b):l_ T w w':=
 ⟨h.os,h.tape,h.output,h.size,λk hk hT=>h.block k hk λhS=>hT (hs k hk hS)⟩
theorem l_.below{w w':C}(h:l_ cX w w'):Below w.heap.size w w':=⟨h.os,h.tape,h.output,h.size,λk hk=>h.block k hk (λh=>h)⟩
theorem l_.heap{w w':C}(ho:w'.os=w.os)(ht:w'.tape=w.tape)(hp:w'.output=w.output)(h:w'.heap=w.heap)(S:Nat->Prop):l_ S w w':=⟨ho,ht,hp,by rw[h];exact bG _,λ_ _ _=>by rw[h]⟩
theorem l_.alloc(w:C)(o:Obj)(S:Nat->Prop):l_ S w (w.alloc o):=⟨rfl,rfl,rfl,by simp,λk hk _=>Below.heap_alloc w o k hk⟩
theorem l_.setCell(w:C)(p:Addr)(v:V):l_ (λb=>b=p.block) w (w.setCell p v):=
 ⟨rfl,rfl,rfl,by simp[World.setCell],λk _ hk=>Below.heap_setCell w p v k hk⟩
structure bN where
 fp:Nat->Prop
 ok:C->Prop
def K(b:Nat)(cs:List V)(t:TypeId):bN:=⟨λk=>k=b,λw=>w.heap[b]?=Z (.cells cs.toArray t (0,0))⟩
def cH(H:List bN):Nat->Prop:=λb=>∃e∈H,e.fp b
structure Wd(S:Nat->Prop)(w0:C)(H:List bN)(w:C):Prop where
 ch:l_ S w0 w
 own:∀e∈H,∀b,e.fp b->(S b∨w0.heap.size<=b)/\b<w.heap.size
 ok:∀e∈H,∀w':C,w.heap.size<=w'.heap.size->(∀b,e.fp b->w'.heap[b]?=w.heap[b]?)->e.ok w'
 apart:H.Pairwise λe f=>∀b,e.fp b->¬f.fp b
section
variable {S:Nat->Prop} {w0 w w':C} {H H1 H' akg:List bN}
theorem Wd.nil(S:Nat->Prop)(w:C):Wd S w [] w:=⟨l_.refl _ _,by simp,by simp,by simp⟩
theorem Wd.get(h:Wd S w0 H w){k:Nat}{e:bN}(hk:H[k]?=Z e):e.ok w:=h.ok e (aq hk) w (bG _) λ_ _=>rfl
theorem Wd.size(h:Wd S w0 H w):w0.heap.size<=w.heap.size:=h.ch.size
theorem Wd.sub(h:Wd S w0 H w)(hs:H'.Sublist H):Wd S w0 H' w:=
 ⟨h.ch,λe he=>h.own e (hs.subset he),λe he=>h.ok e (hs.subset he),h.apart.sublist hs⟩
theorem Wd.perm(h:Wd S w0 H w)(hp:H.Perm H'):Wd S w0 H' w:=
 ⟨h.ch,λe he=>h.own e (hp.mem_iff.2 he),λe he=>h.ok e (hp.mem_iff.2 he),
  (hp.pairwise_iff (λXx b hy hx=>Xx b hx hy)).1 h.apart⟩
theorem Wd.pre(h:Wd S w0 (H1++H) w):Wd (cH H1) w H1 w:=
 ⟨l_.refl _ _,λe he b hb=>⟨.inl ⟨e,he,hb⟩,(h.own e (ct _ he) b hb).2⟩,λe he=>h.ok e (ct _ he),(jI.1 h.apart).1⟩
theorem Wd.comp(h:Wd S w0 (H1++H) w)(hc:Wd (cH H1) w akg w'):Wd S w0 (akg++H) w':=by
 have hS:∀b,cH H1 b->S b∨w0.heap.size<=b:=λb ⟨e,he,hb⟩=>(h.own e (ct _ he) b hb).1;have vv:=(jI.1 h.apart);have pU:=h.ch.size;have aet:=hc.ch.size;have bZ:∀f∈H,∀b,f.fp b->w'.heap[b]?=w.heap[b]?:=λf hf b hb=>
  hc.ch.block b (h.own f (de _ hf) b hb).2 λ⟨e,he,Ll⟩=>vv.2.2 e he f hf b Ll hb
 refine⟨⟨hc.ch.os.trans h.ch.os,hc.ch.tape.trans h.ch.tape,hc.ch.output.trans h.ch.output,du pU aet,λk hk hnS=>?_⟩,?_,?_,?_⟩
 ·exact(hc.ch.block k I λhf=>(hS k hf).elim hnS λh1=>I).trans (h.ch.block k hk hnS)
 ·intro e he b hb
  rcases bA.1 he with he|he
  ·have h1:=hc.own e he b hb
   exact⟨h1.1.elim (hS b) λh2=>.inr I,h1.2⟩
  ·have h1:=h.own e (de _ he) b hb
   exact⟨h1.1,I⟩
 ·intro e he w2 Q9 jg
  rcases bA.1 he with he|he
  ·exact hc.ok e he w2 Q9 jg
  ·exact h.ok e (de _ he) w2 (du aet Q9) λb hb=>(jg b hb).trans (bZ e he b hb)
 ·refine jI.2 ⟨hc.apart,vv.2.1,λe he f hf b hb u1=>?_⟩
  have bS:=(h.own f (de _ hf) b u1).2;rcases(hc.own e he b hb).1 with⟨g,hg,hgb⟩|h1
  ·exact vv.2.2 g hg f hf b hgb u1
  ·omega
theorem Wd.same(h:Wd S w0 H w)(ho:w'.os=w.os)(ht:w'.tape=w.tape)(hp:w'.output=w.output)(hh:w'.heap=w.heap):Wd S w0 H w':=
 ⟨h.ch.trans (l_.heap ho ht hp hh S),by rw[hh];exact h.own,λe he w2 Q9 jg=>h.ok e he w2 (by rw[hh]at Q9;exact Q9) (by rw[hh]at jg;exact jg),h.apart⟩
theorem Wd.more(h:Wd S w0 H w)(hc:Wd cX w akg w'):Wd S w0 (akg++H) w':=by
 refine Wd.comp (H1:=[]) h ⟨hc.ch.mono (λb _ hb=>hb.elim),λe he b hb=>?_,hc.ok,hc.apart⟩;have:=hc.own e he b hb;exact⟨.inr (this.1.elim (λh=>h.elim) id),this.2⟩
theorem Wd.call(h:Wd S w0 H w)(hc:l_ cX w w'):Wd S w0 H w':=
 Wd.more (akg:=[]) h ⟨hc,by simp,by simp,by simp⟩
theorem Wd.box(h:Wd S w0 H w)(cs:List V)(t:TypeId):Wd S w0 (K w.heap.size cs t::H) (w.alloc (.cells cs.toArray t)):=by
 refine Wd.more (akg:=[K w.heap.size cs t]) h ⟨l_.alloc _ _ _,?_,?_,by simp⟩
 ·intro e he b hb
  simp only[bR]at he;subst he;simp only[K]at hb;subst hb;exact⟨.inr (bG _),by simp⟩
 ·intro e he w2 _ jg
  simp only[bR]at he;subst he;have:=jg w.heap.size rfl;simp only[K];rw[this];exact heap_alloc_new w _
theorem acf{e e':bN}(hc:l_ e.fp w w')(ho:∀b,e'.fp b->(e.fp b∨w.heap.size<=b)/\b<w'.heap.size)(cY:∀w2:C,(∀b,e'.fp b->w2.heap[b]?=w'.heap[b]?)->e'.ok w2):Wd (cH [e]) w [e'] w':=by
 refine⟨hc.mono λb _ hb=>⟨e,by simp,hb⟩,?_,?_,by simp⟩
 ·intro f hf b hb
  simp only[bR]at hf;subst hf;have:=ho b hb;exact⟨this.1.imp (λh=>⟨e,by simp,h⟩) id,this.2⟩
 ·intro f hf
  simp only[bR]at hf;subst hf;exact λw2 _ h=>cY w2 h
theorem Wd.ahO{e e':bN}(h:Wd S w0 (e::H) w)(hc:l_ e.fp w w')(ho:∀b,e'.fp b->(e.fp b∨w.heap.size<=b)/\b<w'.heap.size)(cY:∀w2:C,(∀b,e'.fp b->w2.heap[b]?=w'.heap[b]?)->e'.ok w2):Wd S w0 (e'::H) w':=
 Wd.comp (H1:=[e]) (akg:=[e']) h (acf hc ho cY)
theorem DI{α:Type}{l:List α}{k:Nat}{e:α}(h:l[k]?=Z e)(e':α):(e'::l.eraseIdx k).Perm (l.set k e'):=by
 induction l generalizing k with
 |nil=>simp at h
 |cons x r ih=>
  cases k with
  |zero=>simp
  |succ k=>
   simp only[pG]at h;simp only[List.eraseIdx_cons_succ,cG];exact(List.Perm.swap x e' _).trans ((ih h).cons x)
theorem ku{α:Type}{l:List α}{k:Nat}{e:α}(h:l[k]?=Z e):l.Perm (e::l.eraseIdx k):=by
 have:=DI h e;have hs:l.set k e=l:=by
  apply ci;intro i;rw[ez]
  split
  ·rename_i hi;subst hi;split
   ·exact h.symm
   ·rename_i bS;rw[bO I]
  ·rfl
 rw[hs]at this;exact this.symm
theorem Wd.lj{k:Nat}{e e':bN}(h:Wd S w0 H w)(hk:H[k]?=Z e)(hc:l_ e.fp w w')(ho:∀b,e'.fp b->(e.fp b∨w.heap.size<=b)/\b<w'.heap.size)(cY:∀w2:C,(∀b,e'.fp b->w2.heap[b]?=w'.heap[b]?)->e'.ok w2):Wd S w0 (H.set k e') w':=
 ((h.perm (ku hk)).ahO hc ho cY).perm (DI hk e')
theorem Wd.BS(h:Wd S w0 H w){p:Addr}{v:V}(hc:w0.cell? p=Z v)(hS:¬S p.block:=by exact λh=>h):w.cell? p=Z v:=by
 have bS:=World.block_lt_of_cell? w0 p hc;rw[<-hc];exact World.cell?_of_block (h.ch.block _ bS hS)
theorem Wd.mP(h:Wd S w0 H w)(k:Nat){b o:Nat}{cs:List V}{t:TypeId}{v:V}(hk:H[k]?=Z (K b cs t))(hc:cs[o]?=Z v):w.cell? ⟨b,o,A⟩=Z v:=by
 have:=h.get hk;simp only[K]at this;simp[World.cell?,this,hc]
theorem Wd.Cs(h:Wd S w0 H w)(k:Nat){b:Nat}{cs:List V}{t:TypeId}(hk:H[k]?=Z (K b cs t)):w.heap[b]?=Z (.cells cs.toArray t (0,0)):=h.get hk
theorem xe{w:C}{b o:Nat}{cs:List V}{t:TypeId}(hb:w.heap[b]?=Z (.cells cs.toArray t (0,0)))(v:V):
  (w.setCell ⟨b,o,A⟩ v).heap[b]?=Z (.cells (cs.set o v).toArray t (0,0)):=by
 simp[World.setCell,Array.getElem?_modify,hb]
theorem Wd.MB(h:Wd S w0 H w)(k:Nat){b o:Nat}{cs:List V}{t:TypeId}(v:V)(hk:H[k]?=Z (K b cs t)):
  Wd S w0 (H.set k (K b (cs.set o v) t)) (w.setCell ⟨b,o,A⟩ v):=by
 have hb:=h.Cs k hk;have bS:b<w.heap.size:=(fv.1 hb).1;refine h.lj hk (l_.setCell w ⟨b,o,A⟩ v) (λb' nO=>?_) λw2 jg=>?_
 ·simp only[K]at nO⊢
  subst nO;exact⟨.inl rfl,by simpa[World.setCell]using bS⟩
 ·have:=jg b rfl
  simp only[K];rw[this];exact xe hb v
theorem Wd.UQ(h:Wd S w0 H w)(k:Nat){b:Nat}{cs:List V}{t:TypeId}(vs:List V)(hk:H[k]?=Z (K b cs t)):
  Wd S w0 (H.set k (K b vs t)) (w.setRow b vs.toArray):=by
 have hb:=h.Cs k hk;have bS:b<w.heap.size:=(fv.1 hb).1;have pU:(w.setRow b vs.toArray).heap.size=w.heap.size:=by simp[World.setRow]
 refine h.lj hk ⟨rfl,rfl,rfl,by rw[pU];exact bG _,λk _ hk=>setRow_other w b k _ hk⟩ (λb' nO=>?_) λw2 jg=>?_
 ·simp only[K]at nO⊢
  subst nO;exact⟨.inl rfl,by rw[pU];exact bS⟩
 ·have:=jg b rfl
  simp only[K];rw[this];exact setRow_heap w b cs.toArray _ t _ hb
end
class dF{α:Type}(l:List α)(k:Nat)(x:outParam α):Prop where
 at':l[k]?=Z x
instance{α:Type}(x:α)(l:List α):dF (x::l) 0 x:=⟨rfl⟩
instance{α:Type}(x y:α)(l:List α)(k:Nat)[h:dF l k x]:dF (y::l) (k+1) x:=⟨h.at'⟩
class rT{α:Type}(l:List α)(k:Nat)(x:α)(l':outParam (List α)):Prop where
 BN:l.set k x=l'
instance{α:Type}(x y:α)(l:List α):rT (y::l) 0 x (x::l):=⟨rfl⟩
instance{α:Type}(x y:α)(l l':List α)(k:Nat)[h:rT l k x l']:rT (y::l) (k+1) x (y::l'):=⟨by rw[cG,h.BN]⟩
class lA{α:Type}(l:List α)(n:Nat):Prop where
 eq:l.length=n
instance{α:Type}:lA ([]:List α) 0:=⟨rfl⟩
instance{α:Type}(x:α)(l:List α)(n:Nat)[h:lA l n]:lA (x::l) (n+1):=⟨by rw[gk,h.eq]⟩
class nr(H:List bN)(b:Nat)(k:outParam Nat)(cs:outParam (List V))(t:outParam TypeId):Prop where
 at':H[k]?=Z (K b cs t)
instance(b:Nat)(cs:List V)(t:TypeId)(H:List bN):nr (K b cs t::H) b 0 cs t:=⟨rfl⟩
instance(b:Nat)(cs:List V)(t:TypeId)(H:List bN)(e:bN)(k:Nat)[h:nr H b k cs t]:nr (e::H) b (k+1) cs t:=⟨h.at'⟩
class iB(v:V)(cs:outParam (List V)):Prop where
 eq:v.cells.toList=cs
instance(l:List V):iB (.agg l.toArray) l:=⟨rfl⟩
instance(b:Bool):iB (.bool b) [.bool b]:=⟨rfl⟩
instance(k:IntKind)(n:Int):iB (U k n) [U k n]:=⟨rfl⟩
instance(s:ByteArray):iB (.string s) [.string s]:=⟨rfl⟩
instance(p:Option Addr):iB (.pointer p) [.pointer p]:=⟨rfl⟩
instance(p:Option Addr)(n c:Nat):iB (.slice p n c) [.slice p n c]:=⟨rfl⟩
instance:iB .nilFunc [.nilFunc]:=⟨rfl⟩
def tw:List V->Nat->List V->List V
 |cs,_,[]=>cs
 |[],_,_::_=>[]
 |_::cs,0,v::vs=>v::tw cs 0 vs
 |c::cs,o+1,v::vs=>c::tw cs o (v::vs)
class AZ(cs:List V)(o:Nat)(vs:List V)(tP:outParam (List V)):Prop where
 eq:tw cs o vs=tP
 le:o+vs.length<=cs.length
instance(cs:List V):AZ cs 0 [] cs:=⟨by cases cs<;>rfl,by simp⟩
instance(c v:V)(cs vs tP:List V)[h:AZ cs 0 vs tP]:AZ (c::cs) 0 (v::vs) (v::tP):=⟨by simp only[tw,h.eq],by have:=h.le;simp at this⊢;omega⟩
instance(c v:V)(cs vs tP:List V)(o:Nat)[h:AZ cs o (v::vs) tP]:AZ (c::cs) (o+1) (v::vs) (c::tP):=⟨by simp only[tw,h.eq],by have:=h.le;simp at this⊢;omega⟩
theorem zn:∀(cs:List V) (o:Nat) (vs:List V),o+vs.length<=cs.length->cs.take o++vs++cs.drop (o+vs.length)=tw cs o vs
 |[],o,[],h=>by simp[tw]
 |c::cs,o,[],h=>by simp[tw]
 |[],_,_::_,h=>by simp at h
 |c::cs,0,v::vs,h=>by
  have:=zn cs 0 vs (by simp at h⊢;omega);simp[tw]at this⊢;exact this
 |c::cs,o+1,v::vs,h=>by
  have:=zn cs o (v::vs) (by simp at h⊢;omega);simp only[tw];rw[<-this];have e:o+1+(v::vs).length=(o+(v::vs).length)+1:=I;rw[e];simp
class F9(places:List (Nat×Nat))(cs:List V)(parts:List (Nat×V))(tP:outParam (List V)):Prop where
 eq:Instr.fill (λi=>places[i]?) cs.toArray parts=Z tP.toArray
theorem z6:∀(vs:List V) (cs:List V) (o j:Nat),o+j+vs.length<=cs.length->
  (vs.zipIdx j).foldl (λ(a:Array V) (p:V×Nat)=>a.setIfInBounds (o+p.2) p.1) cs.toArray=(tw cs (o+j) vs).toArray
 |[],cs,o,j,_=>by cases cs<;>simp[tw]
 |v::vs,cs,o,j,hl=>by
  simp only[List.zipIdx_cons,gj];rw[show cs.toArray.setIfInBounds (o+j) v=(cs.set (o+j) v).toArray by simp];rw[z6 vs (cs.set (o+j) v) o (j+1) (by simp at hl⊢;omega)];congr 1;have key:∀(cs:List V) (k:Nat),k+(v::vs).length<=cs.length->tw (cs.set k v) (k+1) vs=tw cs k (v::vs):=by
   intro cs
   induction cs with
   |nil=>intro k hk;simp at hk
   |cons c cs ih=>
    intro k hk;cases k with
    |zero=>
     cases vs with
     |nil=>cases cs<;>simp[tw]
     |cons u us=>simp[tw]
    |succ k=>
     cases vs with
     |nil=>
      have:=ih k (by simp at hk⊢;omega);simp only[cG,tw];rw[<-this];cases cs.set k v<;>simp[tw]
     |cons u us=>
      have:=ih k (by simp at hk⊢;omega);simp only[cG,tw];rw[<-this]
  exact key cs (o+j) (by simp at hl⊢;omega)
instance(places:List (Nat×Nat))(cs:List V):F9 places cs [] cs:=⟨rfl⟩
instance(places:List (Nat×Nat))(cs vs cs1 E4:List V)(i off size:Nat)(v:V)(r:List (Nat×V))[hp:dF places i (off,size)][hv:iB v vs][hq:AZ cs off vs cs1][hl:lA vs size][hr:F9 places cs1 r E4]:F9 places cs ((i,v)::r) E4:=⟨by
 have hlen:v.cells.size=size:=by rw[<-Array.length_toList,hv.eq,hl.eq]
 have hle:=hq.le
 have eQ:¬((decide (v.cells.size≠size)||decide (off+v.cells.size>cs.toArray.size))=true):=by
  simp[hlen]
  rw[<-hl.eq];omega
 simp only[Instr.fill,hp.at']
 rw[if_neg eQ]
 have hz:v.cells.zipIdx.foldl (λcs (x:V×Nat)=>cs.setIfInBounds (off+x.2) x.1) cs.toArray=cs1.toArray:=by
  have e:v.cells=vs.toArray:=by rw[<-hv.eq]
  rw[e]
  have:=z6 vs cs off 0 I
  rw[<-hq.eq]
  simpa using this
 rw[hz]
 exact hr.eq⟩
structure cg where
 z:Bool
 n:Int
 deriving DecidableEq
structure dJ where
 op:Int
 dst:Int
 a:cg
 b:cg
 fn:Int
 args:List cg
 deriving DecidableEq
structure ep where
 dst:Int
 src:List cg
 deriving DecidableEq
structure E where
 aD:List ep
 list:List dJ
 kind:Int
 on:cg
 to:List Int
 deriving DecidableEq
structure aY where
 name:ByteArray
 params:Int
 aB:Int
 blocks:List E
structure jt where
 name:ByteArray
 size:Int
 init:List Int
structure a8 where
 globals:List jt
 funcs:List aY
def dk(x:Int):Prop:=-9223372036854775808<=x/\x<=9223372036854775807
def bF(w:C)(b o:Nat)(cs:List V):Prop:=∀j v,cs[j]?=Z v->w.cell? ⟨b,o+j,A⟩=Z v
def aG{α:Type}(w:C)(v:V)(s:Nat)(l:List α)(ake:C->α->List V->Prop):Prop:=
 ∃(a:Option Addr) (n c b o:Nat),v=.slice a n c/\n=l.length/\n<=c/\n<=140737488355328/\c<=9223372036854775807/\(l≠[]->a=Z ⟨b,o,A⟩)/\∀i x,l[i]?=Z x->∃cs,bF w b (o+i*s) cs/\ake w x cs
def fI(_:C)(x:Int)(cs:List V):Prop:=cs=[U O x]/\dk x
def AX(_:C)(x:Bool)(cs:List V):Prop:=cs=[.bool x]
def Rr(_:C)(x:ByteArray)(cs:List V):Prop:=cs=[.string x]
def mi(_:C)(x:cg)(cs:List V):Prop:=cs=[.bool x.z,U O x.n]/\dk x.n
def Cm(w:C)(x:ep)(cs:List V):Prop:=∃v,cs=[U O x.dst,v]/\dk x.dst/\aG w v 2 x.src mi
def Cj(w:C)(x:dJ)(cs:List V):Prop:=∃v,cs=[U O x.op,U O x.dst,.bool x.a.z,U O x.a.n,.bool x.b.z,U O x.b.n,U O x.fn,v]/\
 dk x.op/\dk x.dst/\dk x.a.n/\dk x.b.n/\dk x.fn/\aG w v 2 x.args mi
def ed(w:C)(x:E)(cs:List V):Prop:=∃p l t,cs=[p,l,U O x.kind,.bool x.on.z,U O x.on.n,t]/\dk x.kind/\dk x.on.n/\
 aG w p 2 x.aD Cm/\aG w l 8 x.list Cj/\aG w t 1 x.to fI
def gq(w:C)(x:aY)(cs:List V):Prop:=∃v,cs=[.string x.name,U O x.params,U O x.aB,v]/\dk x.params/\dk x.aB/\aG w v 6 x.blocks ed
def fg(w:C)(x:jt)(cs:List V):Prop:=∃v,cs=[.string x.name,U O x.size,v]/\dk x.size/\aG w v 1 x.init fI
def acv(w:C)(x:a8)(cs:List V):Prop:=∃g f,cs=[g,f]/\aG w g 3 x.globals fg/\aG w f 4 x.funcs gq
theorem fJ{w w':C}(h:l_ cX w w'){p:Addr}{v:V}(hc:w.cell? p=Z v):w'.cell? p=Z v:=by
 rw[<-hc];exact World.cell?_of_block (h.block _ (World.block_lt_of_cell? w p hc) λh=>h)
theorem bF.bZ{w w':C}(h:l_ cX w w'){b o:Nat}{cs:List V}(hc:bF w b o cs):bF w' b o cs:=λj v hj=>fJ h (hc j v hj)
def wW{α:Type}(ake:C->α->List V->Prop):Prop:=∀w w',l_ cX w w'->∀x cs,ake w x cs->ake w' x cs
theorem aG.bZ{α:Type}{ake:C->α->List V->Prop}(hV:wW ake){w w':C}(h:l_ cX w w'){v:V}{s:Nat}{l:List α}(hs:aG w v s l ake):aG w' v s l ake:=by
 obtain⟨a,n,c,b,o,h1,h2,h3,hz,h4,h5,h6⟩:=hs;refine⟨a,n,c,b,o,h1,h2,h3,hz,h4,h5,λi x hx=>?_⟩;obtain⟨cs,hc,hv⟩:=h6 i x hx;exact⟨cs,hc.bZ h,hV w w' h x cs hv⟩
theorem dP:wW fI:=λ_ _ _ _ _ h=>h
theorem LU:wW AX:=λ_ _ _ _ _ h=>h
theorem FB:wW Rr:=λ_ _ _ _ _ h=>h
theorem kq:wW mi:=λ_ _ _ _ _ h=>h
theorem te:wW Cm:=λ_ _ hc _ _ ⟨v,h1,h2,h3⟩=>⟨v,h1,h2,h3.bZ kq hc⟩
theorem wm:wW Cj:=λ_ _ hc _ _ ⟨v,h1,h2,h3,h4,h5,h6,h7⟩=>⟨v,h1,h2,h3,h4,h5,h6,h7.bZ kq hc⟩
theorem dH:wW ed:=λ_ _ hc _ _ ⟨p,l,t,h1,h2,h3,h4,h5,h6⟩=>⟨p,l,t,h1,h2,h3,h4.bZ te hc,h5.bZ wm hc,h6.bZ dP hc⟩
theorem dG:wW gq:=λ_ _ hc _ _ ⟨v,h1,h2,h3,h4⟩=>⟨v,h1,h2,h3,h4.bZ dH hc⟩
theorem dq:wW fg:=λ_ _ hc _ _ ⟨v,h1,h2,h3⟩=>⟨v,h1,h2,h3.bZ dP hc⟩
structure St(N:Nat)(ds:List Deferred)(S:Nat->Prop)(w0:C)(L:List (Nat×V))(H:List bN)(a:Act)(w:C):Prop where
 fr:Fr N ds L a
 wd:Wd S w0 H w
def aki(N:Nat)(ds:List Deferred)(S:Nat->Prop)(w0:C)(L:List (Nat×V))(H:List bN)(p:Act->C->Prop):Prop:=∀a w,St N ds S w0 L H a w->p a w
class bV(P:Program)(T i:Nat)(off:outParam Nat):Prop where
 run:∀(b o:Nat) (w:C),(Instr.fieldAt T (.pointer (Z ⟨b,o,A⟩)) i).run P w=.ok (.pointer (Z ⟨b,o+off,A⟩)) w
class eH(P:Program)(T:Nat)(s:outParam Nat):Prop where
 qx:P.underlying T=Z (.slice (P.elem T))
 sz:∀w:C,(sizeOf (P.elem T)).run P w=.ok s w
class OneCell(P:Program)(T:Nat):Prop where
 agg:∀w:C,(isAgg T).run P w=.ok false w
 sz:∀w:C,(sizeOf T).run P w=.ok 1 w
class eD(P:Program)(T:Nat)(n:outParam Nat):Prop where
 agg:∀w:C,(isAgg T).run P w=.ok true w
 sz:∀w:C,(sizeOf T).run P w=.ok n w
class gY(P:Program)(T:Nat)(akj:outParam V):Prop where
 run:∀w:C,(zeroValue T).run P w=.ok akj w
class aQ(P:Program)(f:Nat):Prop where
 run:∀(args:Array V) (w:C),(callFunc f args).run P w=.ok (.enter f args) w
class im(P:Program)(T:Nat)(zs:outParam (List V))(places:outParam (List (Nat×Nat))):Prop where
 built:∀parts cells,Instr.fill (λi=>places[i]?) zs.toArray parts=Z cells->P.built T parts=Z cells
class Ci(P:Program)(T:Nat)(u v:V)(r:outParam Bool):Prop where
 grd:∀op x y w,(eqGuard op T x y u v).run P w=.ok () w
 eq:∀w:C,(binOp .eql T u v).run P w=.ok (.bool r) w
 ne:∀w:C,(binOp .neq T u v).run P w=.ok (.bool (!r)) w
class zR(w:C)(b o:Nat)(v:outParam V):Prop where
 eq:w.cell? ⟨b,o,A⟩=Z v
class a6(w:C)(b o:Nat)(cs:outParam (List V)):Prop where
 eq:bF w b o cs
instance(priority:=high){w:C}{b o j:Nat}{cs:List V}{v:V}[h:a6 w b o cs][hv:dF cs j v]:zR w b (o+j) v:=⟨h.eq j v hv.at'⟩
instance{w:C}{b o:Nat}{cs:List V}{v:V}[h:a6 w b o cs][hv:dF cs 0 v]:zR w b o v:=⟨h.eq 0 v hv.at'⟩
class bU(a:Option Addr)(b o:outParam Nat):Prop where
 eq:a=Z ⟨b,o,A⟩
instance(b o:Nat):bU (Z ⟨b,o,A⟩) b o:=⟨rfl⟩
class bY(i n:Nat):Prop where
 lt:i<n
class lB(x:Int)(i:outParam Nat):Prop where
 eq:x=(i:Int)
instance(i:Nat):lB (i:Int) i:=⟨rfl⟩
instance:lB 0 0:=⟨rfl⟩
instance:lB 1 1:=⟨rfl⟩
class Bz(o k:Nat)(s:outParam Nat):Prop where
 eq:o+k=s
instance(priority:=2000)(o:Nat):Bz o 0 o:=⟨rfl⟩
instance(priority:=1900)(k:Nat):Bz 0 k k:=⟨di k⟩
instance(priority:=3000):Bz 2 1 3:=⟨rfl⟩
instance(priority:=3000):Bz 2 2 4:=⟨rfl⟩
instance(priority:=3000):Bz 2 3 5:=⟨rfl⟩
instance(priority:=3000):Bz 5 1 6:=⟨rfl⟩
instance(priority:=3000):Bz 5 2 7:=⟨rfl⟩
instance(priority:=3000):Bz 5 3 8:=⟨rfl⟩
instance(priority:=2500)(o:Nat):Bz (o+2) 1 (o+3):=⟨rfl⟩
instance(priority:=2500)(o:Nat):Bz (o+2) 3 (o+5):=⟨rfl⟩
instance(o k:Nat):Bz o k (o+k):=⟨rfl⟩
class HW(b:Bool)(c:outParam Bool):Prop where
 eq:(!b)=c
instance(priority:=2000):HW true false:=⟨rfl⟩
instance(priority:=2000):HW false true:=⟨rfl⟩
instance(b:Bool):HW b (!b):=⟨rfl⟩
class gR(L:List (Nat×V))(t:Nat)(v:outParam V):Prop where
 mem:(t,v)∈L
instance(t:Nat)(v:V)(L:List (Nat×V)):gR ((t,v)::L) t v:=⟨by simp⟩
instance(t:Nat)(v:V)(p:Nat×V)(L:List (Nat×V))[h:gR L t v]:gR (p::L) t v:=⟨cO _ h.mem⟩
class Ev(L:List (Nat×V))(x:Operand)(v:outParam V):Prop where
 eq:∀(N:Nat) (ds:List Deferred) (a:Act),Fr N ds L a->a.eval x=v
instance(L:List (Nat×V))(t:Nat)(v:V)[h:gR L t v]:Ev L (.tmp t) v:=⟨λ_ _ a hF=>by simp[Act.eval,tK,hF.slot _ h.mem]⟩
instance(L:List (Nat×V))(v:V):Ev L (.const v) v:=⟨λ_ _ _ _=>rfl⟩
instance(L:List (Nat×V))(g:Nat):Ev L (.global g) (.pointer (Z ⟨g,0,A⟩)):=⟨λ_ _ _ _=>rfl⟩
instance(L:List (Nat×V))(f:Nat):Ev L (.func f) (.func (.func f) #[] #[]):=⟨λ_ _ _ _=>rfl⟩
class AY(L:List (Nat×V))(xs:List Operand)(vs:outParam (List V)):Prop where
 eq:∀(N:Nat) (ds:List Deferred) (a:Act),Fr N ds L a->xs.map a.eval=vs
instance(L:List (Nat×V)):AY L [] []:=⟨λ_ _ _ _=>rfl⟩
instance(L:List (Nat×V))(x:Operand)(v:V)(xs:List Operand)(vs:List V)[h:Ev L x v][hs:AY L xs vs]:AY L (x::xs) (v::vs):=⟨λN ds a hF=>by rw[bT,h.eq N ds a hF,hs.eq N ds a hF]⟩
class Evp(L:List (Nat×V))(xs:List (Nat×Operand))(vs:outParam (List (Nat×V))):Prop where
 eq:∀(N:Nat) (ds:List Deferred) (a:Act),Fr N ds L a->xs.map (λp=>(p.1,a.eval p.2))=vs
instance(L:List (Nat×V)):Evp L [] []:=⟨λ_ _ _ _=>rfl⟩
instance(L:List (Nat×V))(i:Nat)(x:Operand)(v:V)(xs:List (Nat×Operand))(vs:List (Nat×V))[h:Ev L x v][hs:Evp L xs vs]:Evp L ((i,x)::xs) ((i,v)::vs):=⟨λN ds a hF=>by rw[bT,h.eq N ds a hF,hs.eq N ds a hF]⟩
class Cn(L:List (Nat×V))(d:Nat)(L':outParam (List (Nat×V))):Prop where
 sub:∀p∈L',p∈L
instance(d:Nat)(u:V)(L:List (Nat×V)):Cn ((d,u)::L) d L:=⟨λ_ h=>cO _ h⟩
instance(d:Nat)(p:Nat×V)(L L':List (Nat×V))[h:Cn L d L']:Cn (p::L) d (p::L'):=⟨λq hq=>by
 rcases bD.1 hq with rfl|hq
 ·simp
 ·exact cO _ (h.sub q hq)⟩
section
variable {P:Program} {ro:Option Nat} {N:Nat} {ds:List Deferred} {S:Nat->Prop} {w0:C} {L L':List (Nat×V)} {H H':List bN} {a:Act} {w:C}
 {ops:Array Oper} {rest:List Oper} {Q:Exit->Act->C->Prop} {p:Act->C->Prop}
theorem vP(ro:Option Nat)(ρ:Operand->V)(o:Oper)(h:∀c,o.op≠ .defer c):o.semAt ro ρ=execOp ρ o:=Oper.semAt_eq ro ρ o h
theorem ft{o:Oper}{v:V}{w':C}(hg:o.guard=A)(oZ:∀c,o.op≠ .defer c)(rp:(execOp a.eval o).run P w=.ok (.value v) w')
  (hk:wpListIn (FW ro) 0 P ops Q rest (a.put o.dst v) w'):wpListIn (FW ro) 0 P ops Q (o::rest) a w:=by
 refine wpListIn_plain hg λakc hK=>?_;refine⟨λ_ _=>trivial,?_⟩;rw[vP _ _ _ oZ,rp];exact hK _ _ hk
theorem step_skip{o:Oper}{w':C}(hg:o.guard=A)(oZ:∀c,o.op≠ .defer c)(rp:(execOp a.eval o).run P w=.ok .skip w')
  (hk:wpListIn (FW ro) 0 P ops Q rest (a.put o.dst undef) w'):wpListIn (FW ro) 0 P ops Q (o::rest) a w:=by
 refine wpListIn_plain hg λakc hK=>?_;refine⟨λ_ _=>trivial,?_⟩;rw[vP _ _ _ oZ,rp];exact hK _ _ hk
class dL(P:Program)(N:Nat)(ds:List Deferred)(S:Nat->Prop)(w0:C)(L:List (Nat×V))(H:List bN)(op:Op)(v:outParam V):Prop where
 nd:∀c,op≠ .defer c
 ns:∀cs b,op≠ .select cs b
 run:∀(d:Option Tmp) (ty:Nat) (pos:String) (aft:Array Go.Edge) (gd:Option (Nat×Bool)) a w,Fr N ds L a->Wd S w0 H w->(execOp a.eval ⟨d,op,ty,pos,aft,gd⟩).run P w=.ok (.value v) w
section
variable {x y c:Operand}
instance{v:V}[hx:Ev L x v]:dL P N ds S w0 L H (.move x) v:=⟨λ_ h=>(by cases h),λ_ _ h=>(by cases h),λ_ _ _ _ _ a w hF _=>by simp[execOp,hx.eq _ _ _ hF]⟩
instance{v:V}[hx:Ev L x v]:dL P N ds S w0 L H (.assign x) v:=⟨λ_ h=>(by cases h),λ_ _ h=>(by cases h),λ_ _ _ _ _ a w hF _=>by simp[execOp,hx.eq _ _ _ hF]⟩
instance{v:V}[hc:Ev L c (.bool true)][hx:Ev L x v]:dL P N ds S w0 L H (.pick c x y) v:=⟨λ_ h=>(by cases h),λ_ _ h=>(by cases h),λ_ _ _ _ _ a w hF _=>by simp[execOp,hx.eq _ _ _ hF,hc.eq _ _ _ hF,asBool]⟩
instance{v:V}[hc:Ev L c (.bool false)][hx:Ev L y v]:dL P N ds S w0 L H (.pick c x y) v:=⟨λ_ h=>(by cases h),λ_ _ h=>(by cases h),λ_ _ _ _ _ a w hF _=>by simp[execOp,hx.eq _ _ _ hF,hc.eq _ _ _ hF,asBool]⟩
instance{T i b o off o':Nat}[hx:Ev L x (.pointer (Z ⟨b,o,A⟩))][h:bV P T i off][ho:Bz o off o']:dL P N ds S w0 L H (.fieldAddr T x i) (.pointer (Z ⟨b,o',A⟩)):=
 ⟨λ_ h=>(by cases h),λ_ _ h=>(by cases h),λ_ _ _ _ _ a w hF _=>by simp[execOp,hx.eq _ _ _ hF,h.run,ho.eq]⟩
instance{T b o n k i s:Nat}{ad:Option Addr}{akj:Int}[hx:Ev L x (.slice ad n k)][hy:Ev L y (U O akj)][ha:bU ad b o][hz:lB akj i][hi:bY i n][h:eH P T s]:dL P N ds S w0 L H (.indexAddr T x y) (.pointer (Z ⟨b,o+i*s,A⟩)):=
 ⟨λ_ h=>(by cases h),λ_ _ h=>(by cases h),λ_ _ _ _ _ a w hF _=>by
  have h1:=hx.eq _ _ _ hF
  have h2:=hy.eq _ _ _ hF
  rw[ha.eq]at h1
  rw[hz.eq]at h2
  simp[execOp,h1,h2,run_indexAt_slice w T ⟨b,o,A⟩ n k O i h.qx,h.sz,hi.lt,Addr.add_lit]⟩
instance{T n k s:Nat}{ad:Option Addr}[hx:Ev L x (.slice ad n k)][h:eH P T s]:dL P N ds S w0 L H (.call {callee:=.builtin .len,args:=#[x],argTypes:=#[T]}) (U O n):=
 ⟨λ_ h=>(by cases h),λ_ _ h=>(by cases h),λ_ ty _ _ _ a w hF _=>by simp[execOp,resolve,invoke,builtin,hx.eq _ _ _ hF,run_len_slice w T ty ad n k h.qx,goInt]⟩
theorem vO{T:Nat}[h:OneCell P T]{p:Addr}{v:V}(hc:w.cell? p=Z v):(Instr.loadAt T (.pointer (Z p))).run P w=.ok v w:=by
 simp[Instr.loadAt,Instr.sureAddr,loadVar,h.agg,hc]
instance{T b o j t:Nat}{cs:List V}{v:V}[h:OneCell P T][hx:Ev L x (.pointer (Z ⟨b,o,A⟩))][hb:nr H b j cs t][hv:dF cs o v]:dL P N ds S w0 L H (.load T x) v:=
 ⟨λ_ h=>(by cases h),λ_ _ h=>(by cases h),λ_ _ _ _ _ a w hF hW=>by simp[execOp,hx.eq _ _ _ hF,vO (hW.mP j hb.at' hv.at')]⟩
class eS(S:Nat->Prop)(b:Nat):Prop where
 no:¬S b
instance(b:Nat):eS cX b:=⟨λh=>h⟩
instance{T b o:Nat}{v:V}[h:OneCell P T][hx:Ev L x (.pointer (Z ⟨b,o,A⟩))][hc:zR w0 b o v][hs:eS S b]:dL P N ds S w0 L H (.load T x) v:=
 ⟨λ_ h=>(by cases h),λ_ _ h=>(by cases h),λ_ _ _ _ _ a w hF hW=>by simp[execOp,hx.eq _ _ _ hF,vO (hW.BS hc.eq hs.no)]⟩
theorem nE{T n:Nat}[h:eD P T n]{b o:Nat}{cs:List V}(hn:cs.length=n)(hc:bF w b o cs):(Instr.loadAt T (.pointer (Z ⟨b,o,A⟩))).run P w=.ok (.agg cs.toArray) w:=by
 subst hn;have h1:=run_loadCells_list (P:=P) w ⟨b,o,A⟩ cs (λj v hv=>by rw[Addr.add_lit];exact hc j v hv);simp[Instr.loadAt,Instr.sureAddr,loadVar,h.agg,h.sz,h1]
theorem bF.old{b o:Nat}{cs:List V}(h:Wd S w0 H w)(hc:bF w0 b o cs)(hS:¬S b):bF w b o cs:=λj v hv=>h.BS (hc j v hv) hS
instance{T b j t n:Nat}{cs:List V}[h:eD P T n][hx:Ev L x (.pointer (Z ⟨b,0,A⟩))][hb:nr H b j cs t][hn:lA cs n]:dL P N ds S w0 L H (.load T x) (.agg cs.toArray):=
 ⟨λ_ h=>(by cases h),λ_ _ h=>(by cases h),λ_ _ _ _ _ a w hF hW=>by
  have:=nE (P:=P) (T:=T) hn.eq (λi v hv=>by rw[di];exact hW.mP j hb.at' hv:bF w b 0 cs)
  simp[execOp,hx.eq _ _ _ hF,this]⟩
instance{T b o n:Nat}{cs:List V}[h:eD P T n][hx:Ev L x (.pointer (Z ⟨b,o,A⟩))][hc:a6 w0 b o cs][hn:lA cs n][hs:eS S b]:dL P N ds S w0 L H (.load T x) (.agg cs.toArray):=
 ⟨λ_ h=>(by cases h),λ_ _ h=>(by cases h),λ_ _ _ _ _ a w hF hW=>by simp[execOp,hx.eq _ _ _ hF,nE hn.eq (hc.eq.old hW hs.no)]⟩
instance{T:Nat}{zs cs:List V}{places:List (Nat×Nat)}{uK:List (Nat×V)}{parts:List (Nat×Operand)}[h:im P T zs places][hx:Evp L parts uK][hf:F9 places zs uK cs]:dL P N ds S w0 L H (.build T parts.toArray) (.agg cs.toArray):=
 ⟨λ_ h=>(by cases h),λ_ _ h=>(by cases h),λ_ _ _ _ _ a w hF _=>by
  have e:(parts.toArray.map λ(p:Nat×Operand)=>(p.1,a.eval p.2))=uK.toArray:=by
   simp only[List.map_toArray]
   rw[hx.eq _ _ _ hF]
  have:=run_build (P:=P) w T uK.toArray cs.toArray (h.built _ _ hf.eq)
  simp only[execOp,Sem.run_bind]
  rw[e,this]
  rfl⟩
instance{fn:Fn}{xs ys:List Operand}{us vs:List V}[hx:AY L xs us][hy:AY L ys vs]:dL P N ds S w0 L H (.makeFunc fn xs.toArray ys.toArray) (.func fn us.toArray vs.toArray):=
 ⟨λ_ h=>(by cases h),λ_ _ h=>(by cases h),λ_ _ _ _ _ a w hF _=>by
  simp only[execOp,List.map_toArray,hx.eq _ _ _ hF,hy.eq _ _ _ hF,Instr.makeFunc]
  rfl⟩
theorem uM(n:Int)(h1:-9223372036854775808<=n)(h2:n<=9223372036854775807):IntKind.i64.wrap n=n:=by
 have h:=IntWalk.i64_in n I;exact h
theorem fM{T T2:Nat}{op:BinOp}{u v r:V}[hx:Ev L x u][hy:Ev L y v]
  (hg:∀w,(eqGuard op T x y u v).run P w=.ok () w) (hr:∀w,(binOp op T u v).run P w=.ok r w):dL P N ds S w0 L H (.binOp op T x y T2) r:=
 ⟨λ_ h=>(by cases h),λ_ _ h=>(by cases h),λ_ _ _ _ _ a w hF _=>by simp[execOp,hx.eq _ _ _ hF,hy.eq _ _ _ hF,hg,hr]⟩
theorem J2{T T2:Nat}{m n:Int}[hx:Ev L x (U O m)][hy:Ev L y (U O n)](h1:-9223372036854775808<=m+n)(h2:m+n<=9223372036854775807):dL P N ds S w0 L H (.binOp .add T x y T2) (U O (m+n)):=
 fM (λ_=>rfl) λw=>by rw[binOp_add];simp[Op.intArith,uM _ h1 h2]
theorem tA{T T2:Nat}{m n:Int}[hx:Ev L x (U O m)][hy:Ev L y (U O n)](h1:-9223372036854775808<=m-n)(h2:m-n<=9223372036854775807):dL P N ds S w0 L H (.binOp .sub T x y T2) (U O (m-n)):=
 fM (λ_=>rfl) λw=>by rw[binOp_sub];simp[Op.intArith,uM _ h1 h2]
theorem UX{T T2:Nat}{m n:Int}[hx:Ev L x (U O m)][hy:Ev L y (U O n)](h1:-9223372036854775808<=m*n)(h2:m*n<=9223372036854775807):dL P N ds S w0 L H (.binOp .mul T x y T2) (U O (m*n)):=
 fM (λ_=>rfl) λw=>by rw[binOp_mul];simp[Op.intArith,uM _ h1 h2]
instance{T T2:Nat}{m n:Int}{q:IntKind}[hx:Ev L x (U q m)][hy:Ev L y (U q n)]:dL P N ds S w0 L H (.binOp .lss T x y T2) (.bool (decide (m<n))):=fM (λ_=>rfl) λw=>by rw[binOp_lss];simp
instance{T T2:Nat}{m n:Int}{q:IntKind}[hx:Ev L x (U q m)][hy:Ev L y (U q n)]:dL P N ds S w0 L H (.binOp .leq T x y T2) (.bool (decide (m<=n))):=fM (λ_=>rfl) λw=>by rw[binOp_leq];simp
instance{T T2:Nat}{m n:Int}{q:IntKind}[hx:Ev L x (U q m)][hy:Ev L y (U q n)]:dL P N ds S w0 L H (.binOp .gtr T x y T2) (.bool (decide (n<m))):=fM (λ_=>rfl) λw=>by rw[binOp_gtr];simp
instance{T T2:Nat}{m n:Int}{q:IntKind}[hx:Ev L x (U q m)][hy:Ev L y (U q n)]:dL P N ds S w0 L H (.binOp .geq T x y T2) (.bool (decide (n<=m))):=fM (λ_=>rfl) λw=>by rw[binOp_geq];simp
instance{T T2:Nat}{m n:Int}{q:IntKind}[hx:Ev L x (U q m)][hy:Ev L y (U q n)]:dL P N ds S w0 L H (.binOp .eql T x y T2) (.bool (decide (m=n))):=fM (λ_=>by rw[eqGuard_at_int];rfl) λw=>by rw[binOp_eql];rfl
instance{T T2:Nat}{m n:Int}{q:IntKind}[hx:Ev L x (U q m)][hy:Ev L y (U q n)]:dL P N ds S w0 L H (.binOp .neq T x y T2) (.bool (!decide (m=n))):=fM (λ_=>by rw[eqGuard_at_int];rfl) λw=>by rw[binOp_neq];rfl
instance{T T2:Nat}{u v:V}{r:Bool}[hx:Ev L x u][hy:Ev L y v][h:Ci P T u v r]:dL P N ds S w0 L H (.binOp .eql T x y T2) (.bool r):=fM (h.grd _ _ _) h.eq
instance{T T2:Nat}{u v:V}{r:Bool}[hx:Ev L x u][hy:Ev L y v]{r':Bool}[h:Ci P T u v r][hn:HW r r']:dL P N ds S w0 L H (.binOp .neq T x y T2) (.bool r'):=fM (h.grd _ _ _) λw=>by rw[h.ne,hn.eq]
instance{T:Nat}{b b':Bool}[hx:Ev L x (.bool b)][hn:HW b b']:dL P N ds S w0 L H (.unOp .not T x) (.bool b'):=
 ⟨λ_ h=>(by cases h),λ_ _ h=>(by cases h),λ_ _ _ _ _ a w hF _=>by simp[execOp,hx.eq _ _ _ hF,Op.unary,hn.eq]⟩
end
def dy(d N:Nat)(L:List (Nat×V)):Bool:=d.blt N&&L.all λp=>!Nat.beq p.1 d
theorem Fr.eo(h:Fr N ds L a){d:Nat}(hd:dy d N L=true)(v:V):Fr N ds ((d,v)::L) (a.put (Z d) v):=by
 simp only[dy,Bool.and_eq_true,List.all_eq_true]at hd;refine h.put hd.1 v λp hp e=>?_;have:=hd.2 p hp;rw[e]at this;simp at this
theorem Fr.Vl(h:Fr N ds L a)(d:Nat)[hs:Cn L d L']:Fr N ds L' a:=⟨h.size,h.defers,λp hp=>h.slot p (hs.sub p hp)⟩
theorem nJ{d ty:Nat}{pos:String}{aft:Array Go.Edge}{op:Op}{v:V}[h:dL P N ds S w0 L H op v](hd:dy d N L=true)
  (k:aki N ds S w0 ((d,v)::L) H (wpListIn (FW ro) 0 P ops Q rest)):aki N ds S w0 L H (wpListIn (FW ro) 0 P ops Q (⟨Z d,op,ty,pos,aft,A⟩::rest)):=
 λa w hS=>ft rfl h.nd (h.run _ _ _ _ _ a w hS.fr hS.wd) (k _ _ ⟨hS.fr.eo hd v,hS.wd⟩)
theorem vp{d ty:Nat}{pos:String}{aft:Array Go.Edge}{op:Op}{v:V}[h:dL P N ds S w0 L H op v][hs:Cn L d L'](hd:dy d N L'=true)
  (k:aki N ds S w0 ((d,v)::L') H (wpListIn (FW ro) 0 P ops Q rest)):aki N ds S w0 L H (wpListIn (FW ro) 0 P ops Q (⟨Z d,op,ty,pos,aft,A⟩::rest)):=
 λa w hS=>ft rfl h.nd (h.run _ _ _ _ _ a w hS.fr hS.wd) (k _ _ ⟨(hS.fr.Vl (L':=L') d).eo hd v,hS.wd⟩)
theorem RV(d:Nat)[hs:Cn L d L'](k:aki N ds S w0 L' H p):aki N ds S w0 L H p:=λa w hS=>k a w ⟨hS.fr.Vl d,hS.wd⟩
theorem vm{d ty T T2:Nat}{pos:String}{aft:Array Go.Edge}{x y:Operand}{m n:Int}[hx:Ev L x (U O m)][hy:Ev L y (U O n)](hd:dy d N L=true)(h1:-9223372036854775808<=m+n)(h2:m+n<=9223372036854775807)
  (k:aki N ds S w0 ((d,U O (m+n))::L) H (wpListIn (FW ro) 0 P ops Q rest)):aki N ds S w0 L H (wpListIn (FW ro) 0 P ops Q (⟨Z d,.binOp .add T x y T2,ty,pos,aft,A⟩::rest)):=by
 have:=J2 (P:=P) (N:=N) (ds:=ds) (S:=S) (w0:=w0) (H:=H) (T:=T) (T2:=T2) (x:=x) (y:=y) (L:=L) h1 h2;exact nJ hd k
theorem Fh{d ty T T2:Nat}{pos:String}{aft:Array Go.Edge}{x y:Operand}{m n:Int}[hx:Ev L x (U O m)][hy:Ev L y (U O n)](hd:dy d N L=true)(h1:-9223372036854775808<=m-n)(h2:m-n<=9223372036854775807)
  (k:aki N ds S w0 ((d,U O (m-n))::L) H (wpListIn (FW ro) 0 P ops Q rest)):aki N ds S w0 L H (wpListIn (FW ro) 0 P ops Q (⟨Z d,.binOp .sub T x y T2,ty,pos,aft,A⟩::rest)):=by
 have:=tA (P:=P) (N:=N) (ds:=ds) (S:=S) (w0:=w0) (H:=H) (T:=T) (T2:=T2) (x:=x) (y:=y) (L:=L) h1 h2;exact nJ hd k
theorem acM{d ty T T2:Nat}{pos:String}{aft:Array Go.Edge}{x y:Operand}{m n:Int}[hx:Ev L x (U O m)][hy:Ev L y (U O n)](hd:dy d N L=true)(h1:-9223372036854775808<=m*n)(h2:m*n<=9223372036854775807)
  (k:aki N ds S w0 ((d,U O (m*n))::L) H (wpListIn (FW ro) 0 P ops Q rest)):aki N ds S w0 L H (wpListIn (FW ro) 0 P ops Q (⟨Z d,.binOp .mul T x y T2,ty,pos,aft,A⟩::rest)):=by
 have:=UX (P:=P) (N:=N) (ds:=ds) (S:=S) (w0:=w0) (H:=H) (T:=T) (T2:=T2) (x:=x) (y:=y) (L:=L) h1 h2;exact nJ hd k
theorem acL{d ty T:Nat}{pos:String}{aft:Array Go.Edge}{x:Operand}{v:V}{cs:List V}[hx:Ev L x v][hv:iB v cs](hd:dy d N L=true)
  (k:∀b,w0.heap.size<=b->aki N ds S w0 (aj d b::L) (K b cs T::H) (wpListIn (FW ro) 0 P ops Q rest)):aki N ds S w0 L H (wpListIn (FW ro) 0 P ops Q (⟨Z d,.box T x,ty,pos,aft,A⟩::rest)):=by
 intro a w hS;refine ft (v:=.pointer (Z ⟨w.heap.size,0,A⟩)) (w':=w.alloc (.cells v.cells T)) rfl (λ_ h=>by cases h) ?_ ?_
 ·simp[execOp,hx.eq _ _ _ hS.fr,Instr.box,newVar,newRow]
 ·refine k _ hS.wd.size _ _ ⟨hS.fr.eo hd _,?_⟩
  have:=hS.wd.box cs T;have e:cs.toArray=v.cells:=by rw[<-hv.eq]
  rw[e]at this;exact this
theorem Wz{d ty T:Nat}{akj:V}{cs:List V}[h:gY P T akj][hv:iB akj cs]{pos:String}{aft:Array Go.Edge}(hd:dy d N L=true)
  (k:∀b,w0.heap.size<=b->aki N ds S w0 (aj d b::L) (K b cs T::H) (wpListIn (FW ro) 0 P ops Q rest)):aki N ds S w0 L H (wpListIn (FW ro) 0 P ops Q (⟨Z d,.alloc T,ty,pos,aft,A⟩::rest)):=by
 intro a w hS;refine ft (v:=.pointer (Z ⟨w.heap.size,0,A⟩)) (w':=w.alloc (.cells akj.cells T)) rfl (λ_ h=>by cases h) ?_ ?_
 ·simp[execOp,Instr.alloc,newVar,newRow,h.run]
 ·refine k _ hS.wd.size _ _ ⟨hS.fr.eo hd _,?_⟩
  have:=hS.wd.box cs T;have e:cs.toArray=akj.cells:=by rw[<-hv.eq]
  rw[e]at this;exact this
theorem l0{T:Nat}[h:OneCell P T]{p:Addr}{v u:V}(h1:v.oneCell'=true)(hc:w.cell? p=Z u)(hz:w.frozen? p=false):(Instr.storeAt T (.pointer (Z p)) v).run P w=.ok () (w.setCell p v):=by
 have hs:(store p v).run P w=.ok () (w.setCell p v):=by
  rw[run_store P w p v .plain (by cases v<;>first|rfl|cases h1)];simp[hc,hz]
 have ha:p.add 0=p:=by simp[Addr.add]
 have fT:v.cells= #[v]:=by cases v<;>first|rfl|cases h1
 simp[Instr.storeAt,Instr.sureAddr,storeVar,h.sz,fT,storeCells,hs,ha]
class zT(v:V):Prop where
 one:v.oneCell'=true
instance(b:Bool):zT (.bool b):=⟨rfl⟩
instance(k:IntKind)(n:Int):zT (U k n):=⟨rfl⟩
instance(s:ByteArray):zT (.string s):=⟨rfl⟩
instance(p:Option Addr)(n c:Nat):zT (.slice p n c):=⟨rfl⟩
instance(f:Fn)(x y:Array V):zT (.func f x y):=⟨rfl⟩
class u4(vs:List V):Prop where
 all:∀v∈vs,v.oneCell'=true
instance:u4 []:=⟨by simp⟩
instance(v:V)(vs:List V)[h:zT v][hs:u4 vs]:u4 (v::vs):=⟨by
 intro u hu
 rcases bD.1 hu with rfl|hu
 ·exact h.one
 ·exact hs.all u hu⟩
theorem we{ty T b o j t:Nat}[h:OneCell P T]{cs tP:List V}{u v:V}{pos:String}{aft:Array Go.Edge}{x y:Operand}
  [hx:Ev L x (.pointer (Z ⟨b,o,A⟩))] [hy:Ev L y v] [h1:zT v] [hb:nr H b j cs t] [hu:dF cs o u] [hs:rT cs o v tP] [hH:rT H j (K b tP t) H']
  (k:aki N ds S w0 L H' (wpListIn (FW ro) 0 P ops Q rest)):aki N ds S w0 L H (wpListIn (FW ro) 0 P ops Q (⟨A,.store T x y,ty,pos,aft,A⟩::rest)):=by
 intro a w hS;have IW:=hS.wd.Cs j hb.at';refine step_skip (w':=w.setCell ⟨b,o,A⟩ v) rfl (λ_ h=>by cases h) ?_ ?_
 ·have:=l0 (P:=P) (T:=T) h1.one (hS.wd.mP j hb.at' hu.at') (by simp[World.frozen?,IW])
  simp[execOp,hx.eq _ _ _ hS.fr,hy.eq _ _ _ hS.fr,this]
 ·refine k _ _ ⟨hS.fr,?_⟩
  have:=hS.wd.MB j (o:=o) v hb.at';rw[hs.BN,hH.BN]at this;exact this
theorem mZ{ty T b o j t n:Nat}[h:eD P T n]{cs vs tP:List V}{pos:String}{aft:Array Go.Edge}{x y:Operand}
  [hx:Ev L x (.pointer (Z ⟨b,o,A⟩))] [hy:Ev L y (.agg vs.toArray)] [hb:nr H b j cs t] [hn:lA vs n] [hp:AZ cs o vs tP] [h1:u4 vs] [hH:rT H j (K b tP t) H']
  (k:aki N ds S w0 L H' (wpListIn (FW ro) 0 P ops Q rest)):aki N ds S w0 L H (wpListIn (FW ro) 0 P ops Q (⟨A,.store T x y,ty,pos,aft,A⟩::rest)):=by
 intro a w hS;have IW:=hS.wd.Cs j hb.at';refine step_skip (w':=w.setRow b tP.toArray) rfl (λ_ h=>by cases h) ?_ ?_
 ·have hs:=run_storeCells_at P b o t vs 0 cs.toArray w IW (ax hp.le) h1.all
  have e:(cs.toArray.toList.take (o+0)++vs++cs.toArray.toList.drop (o+0+vs.length)).toArray=tP.toArray:=by
   rw[<-hp.eq,<-zn cs o vs hp.le];simp
  rw[e]at hs;simp[execOp,hx.eq _ _ _ hS.fr,hy.eq _ _ _ hS.fr,Instr.storeAt,Instr.sureAddr,storeVar,h.sz,Value.cells,hn.eq,hs]
 ·refine k _ _ ⟨hS.fr,?_⟩
  have:=hS.wd.UQ j tP hb.at';rw[hH.BN]at this;exact this
class ym(ops:Array Oper)(j:Nat)(t:outParam Nat):Prop where
 eq:(ops[j]?).bind (·.dst)=Z t
instance{l:List Oper}{j t ty:Nat}{op:Op}{pos:String}{aft:Array Go.Edge}{gd:Option (Nat×Bool)}[h:dF l j ⟨Z t,op,ty,pos,aft,gd⟩]:ym l.toArray j t:=⟨by simp[h.at']⟩
theorem Fr.yield(h:Fr N ds L a){j t:Nat}{b:Bool}[hj:ym ops j t][hb:gR L t (.bool b)]:yielded ops a.tmps j=Z b:=by
 have:=h.slot _ hb.mem;simp only at this;simp[yielded,hj.eq,this]
class OM(b:Bool)(c:outParam Bool):Prop where
 eq:b= !c
instance:OM true false:=⟨rfl⟩
instance:OM false true:=⟨rfl⟩
theorem OM.ne{b c:Bool}(h:OM b c):(Z c==Z b)=false:=by
 have:=h.eq;cases b<;>cases c<;>first|rfl|cases this
theorem GB{d ty j t:Nat}{want b:Bool}{pos:String}{aft:Array Go.Edge}{op:Op}[hj:ym ops j t][hn:OM want b][hb:gR L t (.bool b)](hd:dy d N L=true)
  (k:aki N ds S w0 ((d,undef)::L) H (wpListIn (FW ro) 0 P ops Q rest)):aki N ds S w0 L H (wpListIn (FW ro) 0 P ops Q (⟨Z d,op,ty,pos,aft,Z (j,want)⟩::rest)):=by
 intro a w hS;refine wpListIn_step λakc hK=>?_;have h1:Region.wanted (⟨Z d,op,ty,pos,aft,Z (j,want)⟩:Oper) (yielded ops a.tmps)=false:=by
  simp only[Region.wanted,hS.fr.yield (ops:=ops) (j:=j) (b:=b)];exact hn.ne
 rw[h1];exact⟨λ_ _=>trivial,hK _ _ (k _ _ ⟨hS.fr.eo hd undef,hS.wd⟩)⟩
theorem Ab{d:Option Tmp}{ty j t:Nat}{want:Bool}{pos:String}{aft:Array Go.Edge}{op:Op}[hj:ym ops j t][hb:gR L t (.bool want)]
  (k:aki N ds S w0 L H (wpListIn (FW ro) 0 P ops Q (⟨d,op,ty,pos,aft,A⟩::rest))):aki N ds S w0 L H (wpListIn (FW ro) 0 P ops Q (⟨d,op,ty,pos,aft,Z (j,want)⟩::rest)):=by
 intro a w hS;have h1:Region.wanted (⟨d,op,ty,pos,aft,Z (j,want)⟩:Oper) (yielded ops a.tmps)=true:=by
  simp only[Region.wanted,hS.fr.yield (ops:=ops) (j:=j) (b:=want)];simp
 have h2:Region.wanted (⟨d,op,ty,pos,aft,A⟩:Oper) (yielded ops a.tmps)=true:=rfl;have k:=k a w hS;unfold wpListIn at k⊢;rw[if_pos h1];rw[if_pos h2]at k;exact k
theorem St.fix(h:St N ds S w0 L H a w)(hL:yu L L')(hH:H'.Sublist H):St N ds S w0 L' H' a w:=⟨h.fr.to hL,h.wd.sub hH⟩
theorem jQ(hL:yu L L')(hH:H'.Sublist H)(k:aki N ds S w0 L' H' p):aki N ds S w0 L H p:=λa w hS=>k a w (hS.fix hL hH)
theorem aS(hL:yu L L')(hH:H'.Sublist H):aki N ds S w0 L H (St N ds S w0 L' H'):=λ_ _ hS=>hS.fix hL hH
theorem AU{l:List Oper}(n:Nat){akd:Act->C->Prop}(h2:∀a w,akd a w->wpListIn (FW ro) 0 P ops Q (l.drop n) a w):
  ∀{a:Act} {w:C},wpListIn (FW ro) 0 P ops (Exit.then akd Q) (l.take n) a w->wpListIn (FW ro) 0 P ops Q l a w:=by
 have upon:∀(o:Oper) (a:Act) (akc K':Act->C->Prop),(∀a w,akc a w->K' a w)->∀r,o.uponIn (FW ro) 0 P a akc (Exit.then akd Q) r->o.uponIn (FW ro) 0 P a K' Q r:=by
  intro o a akc K' hK r h;cases r with
  |ok nx w1=>
   cases nx with
   |value v=>exact hK _ _ h
   |skip=>exact hK _ _ h
   |defer d=>exact hK _ _ h
   |enter f args=>
    refine⟨h.1,h.2.mono λe w2 hh=>?_⟩;cases e with
    |returned v=>exact hK _ _ hh
    |panicked c=>exact hh
    |outgrown=>exact hh
   |row r args=>exact⟨h.1,h.2.mono λv w2 hh=>hK _ _ hh⟩
   |round l f tmps assign body=>
    refine⟨h.1,h.2.mono λe w2 hh=>?_⟩;cases e with
    |returned v=>exact hK _ _ hh
    |panicked c=>exact hh
    |outgrown=>exact hh
   |_=>exact h
  |halt x w1=>cases x<;>exact h
 induction n generalizing l with
 |zero=>
  intro a w h;exact h2 a w h
 |succ n ih=>
  intro a w h;cases l with
  |nil=>exact h2 a w h
  |cons o r=>
   simp only[List.take_succ_cons]at h;simp only[List.drop_succ_cons]at h2;unfold wpListIn at h⊢
   split
   ·rename_i hw
    rw[if_pos hw]at h;exact⟨h.1,upon o a _ _ (λa w hh=>ih h2 hh) _ h.2⟩
   ·rename_i hw
    rw[if_neg hw]at h;exact⟨h.1,ih h2 h.2⟩
class BP{α:Type}(l:List α)(n:Nat)(l1 l2:outParam (List α)):Prop where
 t:l.take n=l1
 d:l.drop n=l2
instance{α:Type}(l:List α):BP l 0 [] l:=⟨by simp,by simp⟩
instance{α:Type}(x:α)(l l1 l2:List α)(n:Nat)[h:BP l n l1 l2]:BP (x::l) (n+1) (x::l1) l2:=⟨by simp[h.t],by simp[h.d]⟩
theorem sD{l l1 l2:List Oper}(n d:Nat)(val:V)[hs:BP l n l1 l2]
  (h1:aki N ds S w0 L H (wpListIn (FW ro) 0 P ops (Exit.then (St N ds S w0 ((d,val)::L) H) Q) l1))
  (h2:aki N ds S w0 ((d,val)::L) H (wpListIn (FW ro) 0 P ops Q l2)):aki N ds S w0 L H (wpListIn (FW ro) 0 P ops Q l):=λa w hS=>
 AU (akd:=St N ds S w0 ((d,val)::L) H) n (λa w h=>by rw[hs.d];exact h2 a w h) (by rw[hs.t];exact h1 a w hS)
theorem mC{id:Nat}{l:List Oper}(h:aki N ds S w0 L H (wpListIn (FW ro) 0 P l.toArray Q l)):aki N ds S w0 L H (Code.wpIn (FW ro) 0 P (Code.region id l.toArray false) Q):=λa w hS=>wpIn_region_lit (h a w hS)
theorem pQ(h:aki N ds S w0 L H (Q .normal)):aki N ds S w0 L H (wpListIn (FW ro) 0 P ops Q []):=h
theorem w9{x y:Code}(h:aki N ds S w0 L H (Code.wpIn (FW ro) 0 P x (Exit.then (Code.wpIn (FW ro) 0 P y Q) Q))):aki N ds S w0 L H (Code.wpIn (FW ro) 0 P (x.seq y) Q):=λa w hS=>wpIn_seq (h a w hS)
theorem tR{id:Nat}{x:Code}(h:aki N ds S w0 L H (Code.wpIn (FW ro) 0 P x (Exit.inBlock id Q))):aki N ds S w0 L H (Code.wpIn (FW ro) 0 P (Code.block id x) Q):=λa w hS=>wpIn_block (h a w hS)
theorem vq(h:aki N ds S w0 L H (Q .normal)):aki N ds S w0 L H (Code.wpIn (FW ro) 0 P Code.skip Q):=λa w hS=>wpIn_skip (h a w hS)
theorem Aa{id:Nat}(h:aki N ds S w0 L H (Q (.exit id))):aki N ds S w0 L H (Code.wpIn (FW ro) 0 P (Code.exit id) Q):=λa w hS=>wpIn_exit (h a w hS)
theorem Bf(h:aki N ds S w0 L H (Q .ret)):aki N ds S w0 L H (Code.wpIn (FW ro) 0 P Code.ret Q):=λa w hS=>wpIn_ret (h a w hS)
theorem lJ{akc:Act->C->Prop}(h:aki N ds S w0 L H akc):aki N ds S w0 L H (Exit.then akc Q .normal):=h
theorem qN{id:Nat}(h:aki N ds S w0 L H (Q .normal)):aki N ds S w0 L H (Exit.inBlock id Q .normal):=h
theorem oS{id:Nat}(h:aki N ds S w0 L H (Q .normal)):aki N ds S w0 L H (Exit.inBlock id Q (.exit id)):=λa w hS=>by simp only[Exit.inBlock,if_true];exact h a w hS
theorem sW{id id':Nat}(eQ:Nat.beq id' id=false)(h:aki N ds S w0 L H (Q (.exit id'))):aki N ds S w0 L H (Exit.inBlock id Q (.exit id')):=λa w hS=>by
 have:¬id'=id:=by intro e;subst e;simp at eQ
 simp only[Exit.inBlock,if_neg this];exact h a w hS
theorem oT{akc:Act->C->Prop}{id:Nat}(h:aki N ds S w0 L H (Q (.exit id))):aki N ds S w0 L H (Exit.then akc Q (.exit id)):=h
theorem qO{akc:Act->C->Prop}(h:aki N ds S w0 L H (Q .ret)):aki N ds S w0 L H (Exit.then akc Q .ret):=h
theorem oR{id:Nat}(h:aki N ds S w0 L H (Q .ret)):aki N ds S w0 L H (Exit.inBlock id Q .ret):=h
theorem aI{c:Operand}{x y:Code}{b:Bool}[hc:Ev L c (.bool b)](ht:b=true->aki N ds S w0 L H (Code.wpIn (FW ro) 0 P x Q))(hf:b=false->aki N ds S w0 L H (Code.wpIn (FW ro) 0 P y Q)):aki N ds S w0 L H (Code.wpIn (FW ro) 0 P (Code.cond c x y) Q):=
 λa w hS=>wpIn_cond_split (hc.eq _ _ _ hS.fr) (λh=>ht h a w hS) (λh=>hf h a w hS)
theorem rZ{c:Operand}{x y:Code}[hc:Ev L c (.bool true)](ht:aki N ds S w0 L H (Code.wpIn (FW ro) 0 P x Q)):aki N ds S w0 L H (Code.wpIn (FW ro) 0 P (Code.cond c x y) Q):=aI (b:=true) (λ_=>ht) (λh=>by cases h)
theorem qG{c:Operand}{x y:Code}[hc:Ev L c (.bool false)](hf:aki N ds S w0 L H (Code.wpIn (FW ro) 0 P y Q)):aki N ds S w0 L H (Code.wpIn (FW ro) 0 P (Code.cond c x y) Q):=aI (b:=false) (λh=>by cases h) (λ_=>hf)
theorem KJ{α:Type}(akb:α->Act->C->Prop)(m:α->Nat){c:Code}(x:α)(h0:akb x a w)
  (round:∀x a w,akb x a w->c.wpIn (FW ro) 0 P (Exit.then (λa' w'=>∃x',akb x' a' w'/\m x'<m x) Q) a w):(Code.loop c).wpIn (FW ro) 0 P Q a w:=by
 classical
 have ex:∀a w,(∃x,akb x a w)->∃x,akb x a w/\∀y,akb y a w->m x<=m y:=by
  intro a w h;have:∀k:Nat,∀x,akb x a w->m x=k->∃x,akb x a w/\∀y,akb y a w->m x<=m y:=by
   intro k
   induction k using Nat.strongRecOn with
   |_ k ih=>
    intro x hx hk
    by_cases hy:∃y,akb y a w/\m y<m x
    ·obtain⟨y,hy1,hy2⟩:=hy
     exact ih (m y) I y hy1 rfl
    ·exact⟨x,hx,λy VV=>Nat.le_of_not_lt λbS=>hy ⟨y,VV,bS⟩⟩
  obtain⟨x,hx⟩:=h;exact this _ x hx rfl
 refine wpIn_loop (λa w=>∃x,akb x a w) (λa w=>if h:∃x,akb x a w then m (Classical.choose (ex a w h))else 0) ⟨x,h0⟩ λa w hI=>?_;have hs:=Classical.choose_spec (ex a w hI);have hr:=round _ a w hs.1;refine Code.wpIn_mono (λe a' w' q=>?_) hr;cases e with
 |normal=>
  obtain⟨x',GW,bS⟩:=q;have R6:∃x,akb x a' w':=⟨x',GW⟩;refine⟨R6,?_⟩;rw[dif_pos hI,dif_pos R6];exact Nat.lt_of_le_of_lt ((Classical.choose_spec (ex a' w' R6)).2 x' GW) bS
 |_=>exact q
def Next{α:Type}(N:Nat)(ds:List Deferred)(S:Nat->Prop)(w0:C)(akb:α->Prop)(Lx:α->List (Nat×V))(Hx:α->List bN)(m:α->Nat)(x:α):Act->C->Prop:=
 λa w=>∃x',(akb x'/\St N ds S w0 (Lx x') (Hx x') a w)/\m x'<m x
theorem bL{α:Type}(akb:α->Prop)(Lx:α->List (Nat×V))(Hx:α->List bN)(m:α->Nat){c:Code}(x:α)(hI:akb x)(h0:aki N ds S w0 L H (St N ds S w0 (Lx x) (Hx x)))
  (round:∀x,akb x->aki N ds S w0 (Lx x) (Hx x) (Code.wpIn (FW ro) 0 P c (Exit.then (Next N ds S w0 akb Lx Hx m x) Q))):aki N ds S w0 L H (Code.wpIn (FW ro) 0 P (Code.loop c) Q):=
 λa w hS=>KJ (λx a w=>akb x/\St N ds S w0 (Lx x) (Hx x) a w) m x ⟨hI,h0 a w hS⟩ λx a w h=>round x h.1 a w h.2
theorem bj{α:Type}{akb:α->Prop}{Lx:α->List (Nat×V)}{Hx:α->List bN}{m:α->Nat}{x:α}(x':α)(hI:akb x')(hm:m x'<m x)(hL:yu L (Lx x'))(hH:(Hx x').Sublist H):aki N ds S w0 L H (Next N ds S w0 akb Lx Hx m x):=
 λ_ _ hS=>⟨x',⟨hI,hS.fix hL hH⟩,hm⟩
def iC(P:Program)(f:FuncId)(args:List V)(w:C)(R:V->C->Prop):Prop:=CallsIn (FW A) 0 P f args.toArray w λe w'=>∃v,e=.returned v/\R v w'
def eP(P:Program)(f:FuncId)(args:List V)(w:C)(v:V):Prop:=iC P f args w λu w'=>u=v/\l_ cX w w'
theorem iC.mono{f:FuncId}{args:List V}{R R':V->C->Prop}(h:iC P f args w R)(hr:∀v w',R v w'->R' v w'):iC P f args w R':=
 CallsIn.mono h λ_ w' ⟨v,he,hR⟩=>⟨v,he,hr v w' hR⟩
def vi:Nat->List V->List (Nat×V)
 |_,[]=>[]
 |i,v::r=>(i,v)::vi (i+1) r
theorem Fc:∀(i:Nat) (l:List V) (p:Nat×V),p∈vi i l->∃j,p.1=i+j/\l[j]?=Z p.2
 |i,[],p,h=>by simp[vi]at h
 |i,u::r,p,h=>by
  simp only[vi,bD]at h;rcases h with rfl|h
  ·exact⟨0,rfl,rfl⟩
  ·obtain⟨j,h1,h2⟩:=Fc (i+1) r p h
   exact⟨j+1,I,h2⟩
theorem CO{args:List V}(hlen:args.length<=N):Fr N [] (vi 0 args) {tmps:=args.toArray++Array.replicate (N-args.toArray.size) undef,defers:=[]}:=by
 refine⟨by simp;omega,rfl,λp h=>?_⟩;obtain⟨j,hj1,h2⟩:=Fc 0 args p h;have hj:j<args.length:=(az.1 h2).1;rw[hj1,di];rw[Array.getElem?_append_left (ax hj)];simpa using h2
class zS(i:Nat)(args:List V)(L:outParam (List (Nat×V))):Prop where
 eq:vi i args=L
instance(i:Nat):zS i [] []:=⟨rfl⟩
class gS(i:Nat)(j:outParam Nat):Prop where
 eq:i+1=j
instance:gS 0 1:=⟨rfl⟩
instance:gS 1 2:=⟨rfl⟩
instance:gS 2 3:=⟨rfl⟩
instance:gS 3 4:=⟨rfl⟩
instance:gS 4 5:=⟨rfl⟩
instance:gS 5 6:=⟨rfl⟩
instance:gS 6 7:=⟨rfl⟩
instance:gS 7 8:=⟨rfl⟩
instance(i j:Nat)(v:V)(r:List V)(L:List (Nat×V))[hj:gS i j][h:zS j r L]:zS i (v::r) ((i,v)::L):=⟨by simp only[vi];rw[hj.eq,h.eq]⟩
theorem aM{f:FuncId}{fn:Func}{c:Code}{args:List V}{R:V->C->Prop}(hf:P.funcs[f]?=Z fn)(hb:fn.body=Z c)(hN:fn.ntmps=N)[hL:zS 0 args L](hlen:args.length.ble N=true)(hW:Wd S w H w)
  (h:aki N [] S w L H (Code.wpIn (FW A) 0 P c (bodyPost P fn λe w'=>∃v,e=.returned v/\R v w'))):iC P f args w R:=by
 subst hN;refine callsIn_of_wp hf hb trivial (h _ _ ⟨?_,hW⟩);rw[<-hL.eq];exact CO (Nat.le_of_ble_eq_true hlen)
theorem K5{d ty f:Nat}{args:List Operand}{vs:List V}{pA:Array Nat}{pos:String}{aft:Array Go.Edge}(R:C->V->C->Prop)[h:aQ P f][hx:AY L args vs](hd:dy d N L=true)
  (hc:∀w,Wd S w0 H w->iC P f vs w (R w))
  (k:∀v w w',Wd S w0 H w->R w v w'->∀a,Fr N ds ((d,v)::L) a->wpListIn (FW ro) 0 P ops Q rest a w'):aki N ds S w0 L H (wpListIn (FW ro) 0 P ops Q (⟨Z d,.call {callee:=.value (.func f),args:=args.toArray,argTypes:=pA},ty,pos,aft,A⟩::rest)):=by
 intro a w hS;refine wpListIn_plain rfl λakc hK=>?_;refine⟨λ_ _=>trivial,?_⟩;rw[vP _ _ _ (λ_ h=>by cases h)];have hr:(execOp a.eval ⟨Z d,.call {callee:=.value (.func f),args:=args.toArray,argTypes:=pA},ty,pos,aft,A⟩).run P w=.ok (.enter f vs.toArray) w:=by
  simp[execOp,resolve,Act.eval,Deferred.ofValue,invoke,hx.eq _ _ _ hS.fr,h.run]
 rw[hr];refine⟨λh=>(by cases h),?_⟩;refine CallsIn.mono (R:=λe w'=>∃v,e=.returned v/\R w v w') (hc w hS.wd) λe w' ⟨v,he,hR⟩=>?_;subst he;exact hK _ _ (k v w w' hS.wd hR _ (hS.fr.eo hd v))
theorem bB{d ty f:Nat}{args:List Operand}{vs:List V}{pA:Array Nat}{pos:String}{aft:Array Go.Edge}{u:V}[h:aQ P f][hx:AY L args vs](hd:dy d N L=true)
  (hc:∀w,Wd S w0 H w->eP P f vs w u)
  (k:aki N ds S w0 ((d,u)::L) H (wpListIn (FW ro) 0 P ops Q rest)):aki N ds S w0 L H (wpListIn (FW ro) 0 P ops Q (⟨Z d,.call {callee:=.value (.func f),args:=args.toArray,argTypes:=pA},ty,pos,aft,A⟩::rest)):=
 K5 (λw v w'=>v=u/\l_ cX w w') hd hc λv _ w' hw hR a hF=>k a w' ⟨by rw[<-hR.1];exact hF,hw.call hR.2⟩
theorem cZ{α:Type}{val:α->V}{akg:α->List bN}{φ:α->Prop}{d ty f:Nat}{args:List Operand}{vs:List V}{pA:Array Nat}{pos:String}{aft:Array Go.Edge}[h:aQ P f][hx:AY L args vs](hd:dy d N L=true)
  (hc:∀w,Wd S w0 H w->iC P f vs w λu w'=>∃x,u=val x/\Wd cX w (akg x) w'/\φ x)
  (k:∀x,φ x->aki N ds S w0 ((d,val x)::L) (akg x++H) (wpListIn (FW ro) 0 P ops Q rest)):aki N ds S w0 L H (wpListIn (FW ro) 0 P ops Q (⟨Z d,.call {callee:=.value (.func f),args:=args.toArray,argTypes:=pA},ty,pos,aft,A⟩::rest)):=by
 intro a w hS;refine K5 (S:=S) (w0:=w0) (H:=H) (λ_ u w'=>∃x,u=val x/\Wd S w0 (akg x++H) w'/\φ x) hd (λw hw=>(hc w hw).mono λv w' ⟨x,h1,h2,h3⟩=>⟨x,h1,hw.more h2,h3⟩) (λv w w' hw hR a hF=>?_) a w hS;obtain⟨x,rfl,h2,h3⟩:=hR;exact k x h3 a w' ⟨hF,h2⟩
theorem cE{fn:Func}{R:V->C->Prop}{t:Nat}{v:V}(hr:fn.results= #[.tmp t])[hv:gR L t v](hR:∀w,Wd S w0 H w->R v w):aki N [] S w0 L H (bodyPost P fn (λe w'=>∃v,e=.returned v/\R v w') .ret):=λa w hS=>
 ⟨hS.fr.defers,v,by rw[results_tmp hr];simp[tK,hS.fr.slot _ hv.mem],v,rfl,hR w hS.wd⟩
theorem bP{fn:Func}{t:Nat}{u v:V}(hr:fn.results= #[.tmp t])[hv:gR L t v](hu:v=u):aki N [] cX w0 L H (bodyPost P fn (λe w'=>∃v,e=.returned v/\v=u/\l_ cX w0 w') .ret):=
 cE hr λ_ hw=>⟨hu,hw.ch⟩
theorem kL{fn:Func}{R:V->C->Prop}{t s:Nat}{v u:V}(hr:fn.results= #[.tmp t,.tmp s])[hv:gR L t v][hu:gR L s u](hR:∀w,Wd S w0 H w->R (.tuple #[v,u]) w):aki N [] S w0 L H (bodyPost P fn (λe w'=>∃v,e=.returned v/\R v w') .ret):=λa w hS=>
 ⟨hS.fr.defers,.tuple #[v,u],by rw[results_tmp2 hr];simp[tK,hS.fr.slot _ hv.mem,hS.fr.slot _ hu.mem],_,rfl,hR w hS.wd⟩
theorem K6{fn:Func}{R:V->C->Prop}(hr:fn.results= #[])(hR:∀w,Wd S w0 H w->R (.tuple #[]) w):aki N [] S w0 L H (bodyPost P fn (λe w'=>∃v,e=.returned v/\R v w') .ret):=λ_ w hS=>
 ⟨hS.fr.defers,.tuple #[],results_none hr _ _ _,_,rfl,hR w hS.wd⟩
theorem sC{fn:Func}{R:V->C->Prop}(hr:fn.results= #[])(hR:∀w,Wd S w0 H w->R (.tuple #[]) w):aki N [] S w0 L H (bodyPost P fn (λe w'=>∃v,e=.returned v/\R v w') .normal):=λ_ w hS=>
 ⟨hS.fr.defers,.tuple #[],results_none hr _ _ _,_,rfl,hR w hS.wd⟩
def GQ(N:Nat)(ds:List Deferred)(L:List (Nat×V))(p:Act->Prop):Prop:=∀a,Fr N ds L a->p a
theorem jj{id:Nat}{l:List Oper}(hm:P.follows .mixedOrders=true)(hB:Region.lexB .any l.toArray=true)
  (h:GQ N ds L (wpQuiet P l.toArray (Wd S w0 H) (λa'=>∀w',Wd S w0 H w'->Q .normal a' w') l)):aki N ds S w0 L H (Code.wpIn (FW A) 0 P (Code.region id l.toArray true) Q):=λa w hS=>
 wpIn_wide.2 (wp_region_quiet hm hB (hS.wd.same rfl rfl rfl rfl) (by simpa using h a hS.fr))
theorem Z5(h:aki N ds S w0 L H p):GQ N ds L (wpQuiet P ops (Wd S w0 H) (λa'=>∀w',Wd S w0 H w'->p a' w') []):=λa hF w hw=>h a w ⟨hF,hw⟩
theorem Yf{Qq:Act->Prop}{d ty:Nat}{pos:String}{aft:Array Go.Edge}{op:Op}{v:V}[h:dL P N ds S w0 L H op v](hd:dy d N L=true)
  (k:GQ N ds ((d,v)::L) (wpQuiet P ops (Wd S w0 H) Qq rest)):GQ N ds L (wpQuiet P ops (Wd S w0 H) Qq (⟨Z d,op,ty,pos,aft,A⟩::rest)):=by
 intro a hF;have h2:Region.wanted (⟨Z d,op,ty,pos,aft,A⟩:Oper) (yielded ops a.tmps)=true:=rfl;refine BigFrame.wpQuiet_want h2 λakc hK=>⟨v,λw hw=>?_,hK _ (k _ (hF.eo hd v))⟩;unfold Oper.quietAt;rw[h.run _ _ _ _ _ a w hF hw];exact⟨rfl,rfl⟩
theorem Z6{Qq:Act->Prop}{d ty:Nat}{pos:String}{aft:Array Go.Edge}{op:Op}{v:V}[h:dL P N ds S w0 L H op v][hs:Cn L d L'](hd:dy d N L'=true)
  (k:GQ N ds ((d,v)::L') (wpQuiet P ops (Wd S w0 H) Qq rest)):GQ N ds L (wpQuiet P ops (Wd S w0 H) Qq (⟨Z d,op,ty,pos,aft,A⟩::rest)):=by
 intro a hF;have h2:Region.wanted (⟨Z d,op,ty,pos,aft,A⟩:Oper) (yielded ops a.tmps)=true:=rfl;refine BigFrame.wpQuiet_want h2 λakc hK=>⟨v,λw hw=>?_,hK _ (k _ ((hF.Vl (L':=L') d).eo hd v))⟩;unfold Oper.quietAt;rw[h.run _ _ _ _ _ a w hF hw];exact⟨rfl,rfl⟩
theorem UJ{Qq:Act->Prop}{d ty j t:Nat}{want b:Bool}{pos:String}{aft:Array Go.Edge}{op:Op}[hj:ym ops j t][hn:OM want b][hb:gR L t (.bool b)](hd:dy d N L=true)
  (k:GQ N ds ((d,undef)::L) (wpQuiet P ops (Wd S w0 H) Qq rest)):GQ N ds L (wpQuiet P ops (Wd S w0 H) Qq (⟨Z d,op,ty,pos,aft,Z (j,want)⟩::rest)):=by
 intro a hF;refine BigFrame.wpQuiet_skip ?_ (k _ (hF.eo hd undef));simp only[Region.wanted,hF.yield (ops:=ops) (j:=j) (b:=b)];exact hn.ne
theorem UI{Qq:Act->Prop}{d:Option Tmp}{ty j t:Nat}{want:Bool}{pos:String}{aft:Array Go.Edge}{op:Op}[hj:ym ops j t][hb:gR L t (.bool want)]
  (k:GQ N ds L (wpQuiet P ops (Wd S w0 H) Qq (⟨d,op,ty,pos,aft,A⟩::rest))):GQ N ds L (wpQuiet P ops (Wd S w0 H) Qq (⟨d,op,ty,pos,aft,Z (j,want)⟩::rest)):=by
 intro a hF;have h1:Region.wanted (⟨d,op,ty,pos,aft,Z (j,want)⟩:Oper) (yielded ops a.tmps)=true:=by
  simp only[Region.wanted,hF.yield (ops:=ops) (j:=j) (b:=want)];simp
 have h2:Region.wanted (⟨d,op,ty,pos,aft,A⟩:Oper) (yielded ops a.tmps)=true:=rfl;have k:=k a hF;unfold wpQuiet at k⊢;rw[if_pos h1];rw[if_pos h2]at k;exact k
theorem Z7{Qq:Act->Prop}{d ty T T2:Nat}{pos:String}{aft:Array Go.Edge}{x y:Operand}{m n:Int}[hx:Ev L x (U O m)][hy:Ev L y (U O n)](hd:dy d N L=true)(h1:-9223372036854775808<=m-n)(h2:m-n<=9223372036854775807)
  (k:GQ N ds ((d,U O (m-n))::L) (wpQuiet P ops (Wd S w0 H) Qq rest)):GQ N ds L (wpQuiet P ops (Wd S w0 H) Qq (⟨Z d,.binOp .sub T x y T2,ty,pos,aft,A⟩::rest)):=by
 have:=tA (P:=P) (N:=N) (ds:=ds) (S:=S) (w0:=w0) (H:=H) (T:=T) (T2:=T2) (x:=x) (y:=y) (L:=L) h1 h2;exact Yf hd k
theorem pu{Qq:Act->Prop}{d ty f:Nat}{args:List Operand}{vs:List V}{pA:Array Nat}{pos:String}{aft:Array Go.Edge}{v:V}[h:aQ P f][hx:AY L args vs](hd:dy d N L=true)
  (hc:∀w,Wd S w0 H w->eP P f vs w v)
  (k:GQ N ds ((d,v)::L) (wpQuiet P ops (Wd S w0 H) Qq rest)):GQ N ds L (wpQuiet P ops (Wd S w0 H) Qq (⟨Z d,.call {callee:=.value (.func f),args:=args.toArray,argTypes:=pA},ty,pos,aft,A⟩::rest)):=by
 intro a hF;have h2:Region.wanted (⟨Z d,.call {callee:=.value (.func f),args:=args.toArray,argTypes:=pA},ty,pos,aft,A⟩:Oper) (yielded ops a.tmps)=true:=rfl;refine BigFrame.wpQuiet_want h2 λakc hK=>⟨v,λw hw=>?_,hK _ (k _ (hF.eo hd v))⟩;unfold Oper.quietAt;have hr:(execOp a.eval ⟨Z d,.call {callee:=.value (.func f),args:=args.toArray,argTypes:=pA},ty,pos,aft,A⟩).run P w=.ok (.enter f vs.toArray) w:=by
  simp[execOp,resolve,Act.eval,Deferred.ofValue,invoke,hx.eq _ _ _ hF,h.run]
 rw[hr];refine⟨rfl,?_⟩;have h3:Calls P f vs.toArray w λe w'=>∃u,e=.returned u/\u=v/\l_ cX w w':=callsIn_wide.1 (hc w hw);exact h3.mono λe w' ⟨u,he,hu,ek⟩=>⟨by rw[he,hu],hw.call ek⟩
end
def M(a:Option Addr)(n c e s:Nat)(xs:List V):bN:=
 ⟨λk=>a.map (·.block)=Z k,λw=>xs.length=n*s/\((a=A/\n=0/\c=0)∨
  ∃(g:Nat) (pre sp:List V),a=Z ⟨g,pre.length,A⟩/\n<=c/\c<=maxLen/\(c-n)*s<=sp.length/\w.heap[g]?=Z (.cells (pre++xs++sp).toArray e (0,0)))⟩
section
variable {S:Nat->Prop} {w0 w w':C} {H:List bN}
theorem Wd.lu(h:Wd S w0 H w){k:Nat}{b o n c e s:Nat}{xs:List V}(hk:H[k]?=Z (M (Z ⟨b,o,A⟩) n c e s xs)):
  xs.length=n*s/\n<=c/\c<=maxLen/\∃pre sp:List V,pre.length=o/\(c-n)*s<=sp.length/\w.heap[b]?=Z (.cells (pre++xs++sp).toArray e (0,0)):=by
 obtain⟨h1,h2⟩:=h.get hk;rcases h2 with⟨h2,_⟩|⟨g,pre,sp,h2,h3,h4,h5,h6⟩
 ·cases h2
 ·simp only[b_,Addr.mk.injEq,and_true]at h2
  obtain⟨rfl,rfl⟩:=h2;exact⟨h1,h3,h4,pre,sp,rfl,h5,h6⟩
theorem Wd.cL(h:Wd S w0 H w){k:Nat}{b o n c e s j:Nat}{xs:List V}{v:V}(hk:H[k]?=Z (M (Z ⟨b,o,A⟩) n c e s xs))(hv:xs[j]?=Z v):w.cell? ⟨b,o+j,A⟩=Z v:=by
 obtain⟨_,_,_,pre,sp,rfl,_,hb⟩:=h.lu hk;have hj:j<xs.length:=(az.1 hv).1;have PA:=(az.1 hv).2;simp[World.cell?,hb,List.getElem?_append,hj,PA]
theorem Wd.DA(h:Wd S w0 H w)(e s:Nat):Wd S w0 (M A 0 0 e s []::H) w:=
 ⟨h.ch,λx hx b hb=>by
  rcases bD.1 hx with rfl|hx
  ·simp[M]at hb
  ·exact h.own x hx b hb,λx hx w' iK ek=>by
  rcases bD.1 hx with rfl|hx
  ·exact⟨by simp,.inl ⟨rfl,rfl,rfl⟩⟩
  ·exact h.ok x hx w' iK ek,ew.2 ⟨λx _ b hb=>by simp[M]at hb,h.apart⟩⟩
theorem Wd.yd(h:Wd S w0 H w)(e s n:Nat)(xs:List V)(hl:xs.length=n*s)(hn:n<=maxLen):Wd S w0 (M (Z ⟨w.heap.size,0,A⟩) n n e s xs::H) (w.alloc (.cells xs.toArray e)):=by
 refine Wd.more (akg:=[_]) h ⟨l_.alloc _ _ _,?_,?_,by simp⟩
 ·intro x hx b hb
  simp only[bR]at hx;subst hx;simp only[M,bu,b_]at hb;subst hb;exact⟨.inr (bG _),by simp⟩
 ·intro x hx w2 _ jg
  simp only[bR]at hx;subst hx;have:=jg w.heap.size (by simp[M]);refine⟨hl,.inr ⟨w.heap.size,[],[],rfl,bG _,hn,by simp,?_⟩⟩;rw[this];simpa using heap_alloc_new w (.cells xs.toArray e)
theorem Wd.MC(h:Wd S w0 H w){k:Nat}{b o n c e s j:Nat}{xs:List V}(v:V)(hk:H[k]?=Z (M (Z ⟨b,o,A⟩) n c e s xs))(hj:j<xs.length):
  Wd S w0 (H.set k (M (Z ⟨b,o,A⟩) n c e s (xs.set j v))) (w.setCell ⟨b,o+j,A⟩ v):=by
 obtain⟨h1,h2,h3,pre,sp,rfl,h5,hb⟩:=h.lu hk;have bS:b<w.heap.size:=(fv.1 hb).1;refine h.lj hk ((l_.setCell w _ v).mono λx _ hx=>?_) (λb' nO=>?_) λw2 jg=>?_
 ·simp only[M,bu,b_];exact hx.symm
 ·simp only[M,bu,b_]at nO⊢
  subst nO;exact⟨.inl rfl,by simpa[World.setCell]using bS⟩
 ·have:=jg b (by simp[M])
  refine⟨ax h1,.inr ⟨b,pre,sp,rfl,h2,h3,h5,?_⟩⟩;rw[this,xe hb v];simp[hj]
theorem Wd.oH(h:Wd S w0 H w){α:Type}{ake:C->α->List V->Prop}{k:Nat}{a:Option Addr}{n c e s:Nat}{xs:List V}{l:List α}(hk:H[k]?=Z (M a n c e s xs))(hn:n=l.length)(hb:n<=140737488355328)
  (hV:∀i x,l[i]?=Z x->∃cs:List V,(∀j v,cs[j]?=Z v->xs[i*s+j]?=Z v)/\ake w x cs):aG w (.slice a n c) s l ake:=by
 obtain⟨h1,h2⟩:=h.get hk;rcases h2 with⟨rfl,rfl,rfl⟩|⟨g,pre,sp,rfl,h3,h4,h5,h6⟩
 ·have:l=[]:=lk hn.symm
  subst this;exact⟨A,0,0,0,0,rfl,rfl,bG _,I,I,by simp,by simp⟩
 ·refine⟨_,n,c,g,pre.length,rfl,hn,h3,hb,by simpa[maxLen]using h4,λ_=>rfl,λi x hx=>?_⟩
  obtain⟨cs,hc,hv⟩:=hV i x hx;refine⟨cs,λj v hj=>?_,hv⟩;have:=h.cL hk (hc j v hj);rwa[<-dI]at this
end
instance:gS 8 9:=⟨rfl⟩
instance:gS 9 10:=⟨rfl⟩
instance:gS 10 11:=⟨rfl⟩
instance:gS 11 12:=⟨rfl⟩
instance:gS 12 13:=⟨rfl⟩
instance:gS 13 14:=⟨rfl⟩
instance:gS 14 15:=⟨rfl⟩
instance:gS 15 16:=⟨rfl⟩
instance:gS 16 17:=⟨rfl⟩
instance:gS 17 18:=⟨rfl⟩
instance:gS 18 19:=⟨rfl⟩
instance:gS 19 20:=⟨rfl⟩
instance:gS 20 21:=⟨rfl⟩
instance:gS 21 22:=⟨rfl⟩
instance:gS 22 23:=⟨rfl⟩
instance:gS 23 24:=⟨rfl⟩
class HU{α:Type}(l:List α)(n:outParam Nat):Prop where
 eq:l.length=n
instance{α:Type}:HU ([]:List α) 0:=⟨rfl⟩
instance{α:Type}(x:α)(l:List α)(i j:Nat)[h:HU l i][hj:gS i j]:HU (x::l) j:=⟨by rw[gk,h.eq,hj.eq]⟩
class cI(P:Program)(T:Nat)(e s jy:outParam Nat)(zs:outParam (List V)):Prop where
 qx:P.underlying T=Z (.slice e)
 ahJ:(P.info? e).map (λi=>(i.zero.map (·.cells.toList),i.size,i.bytes))=Z (Z zs,s,jy)
theorem cI.get{P:Program}{T e s jy:Nat}{zs:List V}(h:cI P T e s jy zs):∃i akj,P.info? e=Z i/\i.zero=Z akj/\akj.cells=zs.toArray/\i.size=s/\i.bytes=jy:=by
 obtain⟨i,hi,h1⟩:=cA.1 h.ahJ;simp only[Prod.mk.injEq]at h1;obtain⟨h1,h2,h3⟩:=h1;obtain⟨akj,hz,h4⟩:=cA.1 h1;exact⟨i,akj,hi,hz,by rw[<-h4],h2,h3⟩
class u7(H:List bN)(a:Option Addr)(n c:Nat)(k e s:outParam Nat)(xs:outParam (List V)):Prop where
 at':H[k]?=Z (M a n c e s xs)
instance(a:Option Addr)(n c e s:Nat)(xs:List V)(H:List bN):u7 (M a n c e s xs::H) a n c 0 e s xs:=⟨rfl⟩
instance(a:Option Addr)(n c e s k:Nat)(xs:List V)(H:List bN)(x:bN)[h:u7 H a n c k e s xs]:u7 (x::H) a n c (k+1) e s xs:=⟨h.at'⟩
class qy{α:Type}(l:List α)(i:Nat)(x:outParam α):Prop where
 eq:l[i]?=Z x
class Rs(xs:List V)(j:Nat)(v:outParam V):Prop where
 eq:xs[j]?=Z v
instance{α:Type}(f:α->V)(l:List α)(i:Nat)(x:α)[h:qy l i x]:Rs (l.map f) (i*1) (f x):=⟨by simp[h.eq]⟩
instance{α:Type}(f:α->V)(x:α)(l:List α):Rs ((x::l).map f) (0*1) (f x):=⟨rfl⟩
class mV(xs:List V)(j:Nat)(v:V)(V4:outParam (List V)):Prop where
 eq:xs.set j v=V4
 lt:j<xs.length
instance{α:Type}(f:α->V)(l:List α)(i:Nat)(x y:α)[h:qy l i y]:mV (l.map f) (i*1) (f x) ((l.set i x).map f):=
 ⟨by simp[eM],by have:=(az.1 h.eq).1;simpa using this⟩
class fy(H:List bN)(b off:Nat)(v:outParam V):Prop where
 eq:∀S w0 w,Wd S w0 H w->w.cell? ⟨b,off,A⟩=Z v
instance(b o j n c e s:Nat)(xs:List V)(v:V)(H:List bN)[h:Rs xs j v]:fy (M (Z ⟨b,o,A⟩) n c e s xs::H) b (o+j) v:=
 ⟨λ_ _ _ hw=>Wd.cL hw (k:=0) rfl h.eq⟩
instance(b off:Nat)(v:V)(x:bN)(H:List bN)[h:fy H b off v]:fy (x::H) b off v:=⟨λS w0 w hw=>h.eq S w0 w (hw.sub (dR _ _))⟩
class oI(H:List bN)(b off:Nat)(k o j n c e s:outParam Nat)(xs:outParam (List V)):Prop where
 at':H[k]?=Z (M (Z ⟨b,o,A⟩) n c e s xs)
 eq:off=o+j
instance(b o j n c e s:Nat)(xs:List V)(H:List bN):oI (M (Z ⟨b,o,A⟩) n c e s xs::H) b (o+j) 0 o j n c e s xs:=⟨rfl,rfl⟩
instance(b off k o j n c e s:Nat)(xs:List V)(x:bN)(H:List bN)[h:oI H b off k o j n c e s xs]:oI (x::H) b off (k+1) o j n c e s xs:=⟨h.at',h.eq⟩
class u5(cs:List V)(o n:Nat)(vs:outParam (List V)):Prop where
 len:vs.length=n
 eq:∀j v,vs[j]?=Z v->cs[o+j]?=Z v
instance(cs:List V):u5 cs 0 0 []:=⟨rfl,by simp⟩
instance(c:V)(cs vs:List V)(n:Nat)[h:u5 cs 0 n vs]:u5 (c::cs) 0 (n+1) (c::vs):=⟨by simp[h.len],λj v hj=>by
 cases j with
 |zero=>simpa using hj
 |succ j=>simpa using h.eq j v (ax hj)⟩
instance(c:V)(cs vs:List V)(o n:Nat)[h:u5 cs o n vs]:u5 (c::cs) (o+1) n vs:=⟨h.len,λj v hj=>by
 have:=h.eq j v hj
 rw[show o+1+j=(o+j)+1 by omega]
 simpa using this⟩
class EZ(H:List bN)(k:Nat)(f:outParam (bN->List bN)):Prop where
 eq:∀e,H.set k e=f e
instance(x:bN)(H:List bN):EZ (x::H) 0 (λe=>e::H):=⟨λ_=>rfl⟩
instance(x:bN)(H:List bN)(k:Nat)(f:bN->List bN)[h:EZ H k f]:EZ (x::H) (k+1) (λe=>x::f e):=⟨λe=>by rw[cG,h.eq]⟩
theorem Wd.gL{S:Nat->Prop}{w0 w:C}{H:List bN}(h:Wd S w0 H w)(b:Nat){k t:Nat}{cs:List V}[hb:nr H b k cs t]:bF w b 0 cs:=λj v hj=>by rw[di];exact h.mP k hb.at' hj
section
variable {P:Program} {ro:Option Nat} {N:Nat} {ds:List Deferred} {S:Nat->Prop} {w0:C} {L L':List (Nat×V)} {H H':List bN} {a:Act} {w:C}
 {ops:Array Oper} {rest:List Oper} {Q:Exit->Act->C->Prop} {p:Act->C->Prop} {x y:Operand}
instance{T b off:Nat}{v:V}[h:OneCell P T][hx:Ev L x (.pointer (Z ⟨b,off,A⟩))][hc:fy H b off v]:dL P N ds S w0 L H (.load T x) v:=
 ⟨λ_ h=>(by cases h),λ_ _ h=>(by cases h),λ_ _ _ _ _ a w hF hW=>by simp[execOp,hx.eq _ _ _ hF,vO (hc.eq _ _ _ hW)]⟩
instance(priority:=low){T b o j t n:Nat}{cs vs:List V}[h:eD P T n][hx:Ev L x (.pointer (Z ⟨b,o,A⟩))][hb:nr H b j cs t][hp:u5 cs o n vs]:dL P N ds S w0 L H (.load T x) (.agg vs.toArray):=
 ⟨λ_ h=>(by cases h),λ_ _ h=>(by cases h),λ_ _ _ _ _ a w hF hW=>by
  have:=nE (P:=P) (T:=T) hp.len (λi v hv=>hW.mP j hb.at' (hp.eq i v hv):bF w b o vs)
  simp[execOp,hx.eq _ _ _ hF,this]⟩
instance(priority:=low){T b o f n:Nat}{cs vs:List V}[h:eD P T n][hx:Ev L x (.pointer (Z ⟨b,o+f,A⟩))][hc:a6 w0 b o cs][hp:u5 cs f n vs][hs:eS S b]:dL P N ds S w0 L H (.load T x) (.agg vs.toArray):=
 ⟨λ_ h=>(by cases h),λ_ _ h=>(by cases h),λ_ _ _ _ _ a w hF hW=>by
  have:=nE (P:=P) (T:=T) hp.len (λi v hv=>by rw[dI];exact hW.BS (hc.eq _ _ (hp.eq i v hv)) hs.no:bF w b (o+f) vs)
  simp[execOp,hx.eq _ _ _ hF,this]⟩
instance(priority:=low){b j:Nat}{cs:List V}{v:V}{w:C}[h:a6 w b 0 cs][hv:dF cs j v]:zR w b j v:=⟨by simpa using h.eq j v hv.at'⟩
instance(priority:=low){T b f n:Nat}{cs vs:List V}[h:eD P T n][hx:Ev L x (.pointer (Z ⟨b,f,A⟩))][hc:a6 w0 b 0 cs][hp:u5 cs f n vs][hs:eS S b]:dL P N ds S w0 L H (.load T x) (.agg vs.toArray):=
 ⟨λ_ h=>(by cases h),λ_ _ h=>(by cases h),λ_ _ _ _ _ a w hF hW=>by
  have:=nE (P:=P) (T:=T) hp.len (λi v hv=>by have h1:=hc.eq _ _ (hp.eq i v hv);rw[di]at h1;exact hW.BS h1 hs.no:bF w b f vs)
  simp[execOp,hx.eq _ _ _ hF,this]⟩
class YS(P:Program)(T:Nat)(n s:outParam Nat):Prop where
 qx:P.underlying T=Z (.array (P.arrayLen T) (P.elem T))
 len:P.arrayLen T=n
 sz:∀w:C,(sizeOf (P.elem T)).run P w=.ok s w
instance{T b o n i s:Nat}{akj:Int}[hx:Ev L x (.pointer (Z ⟨b,o,A⟩))][hy:Ev L y (U O akj)][hz:lB akj i][h:YS P T n s][hi:bY i n]:dL P N ds S w0 L H (.indexAddr T x y) (.pointer (Z ⟨b,o+i*s,A⟩)):=
 ⟨λ_ h=>(by cases h),λ_ _ h=>(by cases h),λ_ _ _ _ _ a w hF _=>by
  have h1:=hx.eq _ _ _ hF
  have h2:=hy.eq _ _ _ hF
  rw[hz.eq]at h2
  have bS:=hi.lt
  simp[execOp,h1,h2,run_indexAt_array w T ⟨b,o,A⟩ O i h.qx,h.sz,h.len,bS,Addr.add_lit]⟩
class Rl(P:Program)(T:Nat):Prop where
 qx:P.underlying T=Z .string
instance{T:Nat}{s:ByteArray}[hx:Ev L x (.string s)][h:Rl P T]:dL P N ds S w0 L H (.call {callee:=.builtin .len,args:=#[x],argTypes:=#[T]}) (U O s.size):=
 ⟨λ_ h=>(by cases h),λ_ _ h=>(by cases h),λ_ ty _ _ _ a w hF _=>by simp[execOp,resolve,invoke,builtin,hx.eq _ _ _ hF,run_len_string w T ty s h.qx,goInt]⟩
class Re(s:ByteArray)(i:Nat)(c:outParam Int):Prop where
 lt:i<s.size
 eq:((s[i]'lt).toNat:Int)=c
instance{T i:Nat}{s:ByteArray}{akj c:Int}[hx:Ev L x (.string s)][hy:Ev L y (U O akj)][hz:lB akj i][hb:Re s i c][h:Rl P T]:dL P N ds S w0 L H (.index T x y) (U .u8 c):=
 ⟨λ_ h=>(by cases h),λ_ _ h=>(by cases h),λ_ _ _ _ _ a w hF _=>by
  have h1:=hx.eq _ _ _ hF
  have h2:=hy.eq _ _ _ hF
  rw[hz.eq]at h2
  have bS:=hb.lt
  have he:=hb.eq
  simp[execOp,h1,h2,run_index_string w T s O i h.qx,bS,he]⟩
instance{vs:List V}{i:Nat}{v:V}[hx:Ev L x (.tuple vs.toArray)][hv:dF vs i v]:dL P N ds S w0 L H (.extract x i) v:=
 ⟨λ_ h=>(by cases h),λ_ _ h=>(by cases h),λ_ _ _ _ _ a w hF _=>by simp[execOp,hx.eq _ _ _ hF,Instr.extract,hv.at']⟩
theorem FY{T T2:Nat}{m n:Int}[hx:Ev L x (U O m)][hy:Ev L y (U O n)]:dL P N ds S w0 L H (.binOp .add T x y T2) (U O (IntKind.i64.wrap (m+n))):=
 fM (λ_=>rfl) λw=>by rw[binOp_add];simp[Op.intArith]
theorem UH{Qq:Act->Prop}{d ty T T2:Nat}{pos:String}{aft:Array Go.Edge}{m n:Int}[hx:Ev L x (U O m)][hy:Ev L y (U O n)](hd:dy d N L=true)
  (k:GQ N ds ((d,U O (IntKind.i64.wrap (m+n)))::L) (wpQuiet P ops (Wd S w0 H) Qq rest)):GQ N ds L (wpQuiet P ops (Wd S w0 H) Qq (⟨Z d,.binOp .add T x y T2,ty,pos,aft,A⟩::rest)):=by
 have:=FY (P:=P) (N:=N) (ds:=ds) (S:=S) (w0:=w0) (H:=H) (T:=T) (T2:=T2) (x:=x) (y:=y) (L:=L);exact Yf hd k
theorem Fr.VC(h:Fr N ds L a){j t:Nat}[hj:ym ops j t][hb:gR L t undef]:yielded ops a.tmps j=A:=by
 have:=h.slot _ hb.mem;simp only at this;simp[yielded,hj.eq,this,undef]
theorem BW{d ty j t:Nat}{want:Bool}{pos:String}{aft:Array Go.Edge}{op:Op}[hj:ym ops j t][hb:gR L t undef](hd:dy d N L=true)
  (k:aki N ds S w0 ((d,undef)::L) H (wpListIn (FW ro) 0 P ops Q rest)):aki N ds S w0 L H (wpListIn (FW ro) 0 P ops Q (⟨Z d,op,ty,pos,aft,Z (j,want)⟩::rest)):=by
 intro a w hS;refine wpListIn_step λakc hK=>?_;have h1:Region.wanted (⟨Z d,op,ty,pos,aft,Z (j,want)⟩:Oper) (yielded ops a.tmps)=false:=by
  simp only[Region.wanted,hS.fr.VC (ops:=ops) (j:=j)]
  rfl
 rw[h1];exact⟨λ_ _=>trivial,hK _ _ (k _ _ ⟨hS.fr.eo hd undef,hS.wd⟩)⟩
theorem N5{Qq:Act->Prop}{d ty j t:Nat}{want:Bool}{pos:String}{aft:Array Go.Edge}{op:Op}[hj:ym ops j t][hb:gR L t undef](hd:dy d N L=true)
  (k:GQ N ds ((d,undef)::L) (wpQuiet P ops (Wd S w0 H) Qq rest)):GQ N ds L (wpQuiet P ops (Wd S w0 H) Qq (⟨Z d,op,ty,pos,aft,Z (j,want)⟩::rest)):=by
 intro a hF;refine BigFrame.wpQuiet_skip ?_ (k _ (hF.eo hd undef));simp only[Region.wanted,hF.VC (ops:=ops) (j:=j)]
 rfl
class yq(l:List Oper)(d:Nat)(l1 l2:outParam (List Oper)):Prop where
 eq:∃n,l.take n=l1/\l.drop n=l2
instance(priority:=2000)(d ty:Nat)(op:Op)(pos:String)(aft:Array Go.Edge)(gd:Option (Nat×Bool))(l:List Oper):yq (⟨Z d,op,ty,pos,aft,gd⟩::l) d [⟨Z d,op,ty,pos,aft,gd⟩] l:=⟨1,by simp,by simp⟩
instance(d:Nat)(o:Oper)(l l1 l2:List Oper)[h:yq l d l1 l2]:yq (o::l) d (o::l1) l2:=⟨by
 obtain⟨n,h1,h2⟩:=h.eq
 exact⟨n+1,by simp[h1],by simp[h2]⟩⟩
theorem lI{l l1 l2:List Oper}(d:Nat)(val:V)[hs:yq l d l1 l2]
  (h1:aki N ds S w0 L H (wpListIn (FW ro) 0 P ops (Exit.then (St N ds S w0 ((d,val)::L) H) Q) l1))
  (h2:aki N ds S w0 ((d,val)::L) H (wpListIn (FW ro) 0 P ops Q l2)):aki N ds S w0 L H (wpListIn (FW ro) 0 P ops Q l):=λa w hS=>by
 obtain⟨n,e1,e2⟩:=hs.eq;exact AU (akd:=St N ds S w0 ((d,val)::L) H) n (λa w h=>by rw[e2];exact h2 a w h) (by rw[e1];exact h1 a w hS)
theorem Y4{c y:Code}(L':List (Nat×V))(H':List bN)(h1:aki N ds S w0 L H (Code.wpIn (FW ro) 0 P c (Exit.then (St N ds S w0 L' H') Q)))(h2:aki N ds S w0 L' H' (Code.wpIn (FW ro) 0 P y Q)):aki N ds S w0 L H (Code.wpIn (FW ro) 0 P c (Exit.then (Code.wpIn (FW ro) 0 P y Q) Q)):=λa w hS=>
 Code.wpIn_mono (λe a' w' q=>by
  cases e with
  |normal=>exact h2 a' w' q
  |_=>exact q) (h1 a w hS)
theorem fL(k:Nat){ad:Option Addr}{n c e s:Nat}{xs:List V}(hk:H[k]?=Z (M ad n c e s xs))(hn:0<n)(h:∀b o,ad=Z ⟨b,o,A⟩->aki N ds S w0 L H p):aki N ds S w0 L H p:=λa w hS=>by
 obtain⟨_,h2⟩:=hS.wd.get hk;rcases h2 with⟨_,h2,_⟩|⟨g,pre,sp,h2,_⟩
 ·omega
 ·exact h _ _ h2 a w hS
theorem BX(k:Nat){ad:Option Addr}{n c e s:Nat}{xs:List V}(hk:H[k]?=Z (M ad n c e s xs))(h:xs.length=n*s->n<=c->c<=9223372036854775807->aki N ds S w0 L H p):aki N ds S w0 L H p:=λa w hS=>by
 obtain⟨h1,h2⟩:=hS.wd.get hk;rcases h2 with⟨_,h2,h3⟩|⟨g,pre,sp,_,h3,h4,_⟩
 ·exact h h1 I I a w hS
 ·exact h h1 h3 (by simpa[maxLen]using h4) a w hS
theorem fU(e s:Nat)(h:aki N ds S w0 L (M A 0 0 e s []::H) p):aki N ds S w0 L H p:=λa w hS=>h a w ⟨hS.fr,hS.wd.DA e s⟩
theorem rh{ty T b off k o j n c e s:Nat}[h:OneCell P T]{xs V4:List V}{v:V}{pos:String}{aft:Array Go.Edge}
  [hx:Ev L x (.pointer (Z ⟨b,off,A⟩))] [hy:Ev L y v] [h1:zT v] [hb:oI H b off k o j n c e s xs] [hu:mV xs j v V4] [hH:rT H k (M (Z ⟨b,o,A⟩) n c e s V4) H']
  (kk:aki N ds S w0 L H' (wpListIn (FW ro) 0 P ops Q rest)):aki N ds S w0 L H (wpListIn (FW ro) 0 P ops Q (⟨A,.store T x y,ty,pos,aft,A⟩::rest)):=by
 intro a w hS;obtain⟨_,_,_,pre,sp,wP,_,IW⟩:=hS.wd.lu hb.at';have e1:=hb.eq;subst e1;have bS:=hu.lt;refine step_skip (w':=w.setCell ⟨b,o+j,A⟩ v) rfl (λ_ h=>by cases h) ?_ ?_
 ·have hc:=hS.wd.cL hb.at' (a_ bS)
  have:=l0 (P:=P) (T:=T) h1.one hc (by simp[World.frozen?,IW]);simp[execOp,hx.eq _ _ _ hS.fr,hy.eq _ _ _ hS.fr,this]
 ·refine kk _ _ ⟨hS.fr,?_⟩
  have:=hS.wd.MC v hb.at' bS;rw[hu.eq,hH.BN]at this;exact this
theorem py(zs:List V)(n:Nat):(madeCells zs.toArray (n*zs.length)).toList=(List.replicate n zs).flatten:=by
 cases zs with
 |nil=>simp[madeCells]
 |cons akj zs=>
  apply ci;intro i;have h0:0<(akj::zs).length:=by simp
  rw[show(madeCells (akj::zs).toArray (n*(akj::zs).length)).toList[i]?=(madeCells (akj::zs).toArray (n*(akj::zs).length))[i]? by simp]
  by_cases hi:i<n*(akj::zs).length
  ·have e:((List.replicate n (akj::zs)).flatten)[i]?=(akj::zs)[i%(akj::zs).length]?:=by
    clear h0
    induction n generalizing i with
    |zero=>simp at hi
    |succ n ih=>
     rw[List.replicate_succ,List.flatten_cons]
     by_cases h1:i<(akj::zs).length
     ·rw[dY h1,Nat.mod_eq_of_lt h1]
     ·rw[dC I,ih (i-(akj::zs).length) (by rw[jJ]at hi;omega)]
      rw[Nat.mod_eq_sub_mod (a:=i) I]
   rw[e];have bS:i%(akj::zs).length<(akj::zs).length:=Nat.mod_lt _ h0;have hm:(madeCells (akj::zs).toArray (n*(akj::zs).length))[i]?=Z ((akj::zs).toArray[i%(akj::zs).toArray.size]!):=by
    unfold madeCells;simp only[Array.getElem?_map];rw[Array.getElem?_range];rw[if_pos hi];rfl
   rw[hm,a_ bS];simp[getElem!_def];rw[a_ (ax bS)]
  ·have e1:(madeCells (akj::zs).toArray (n*(akj::zs).length)).size<=i:=by unfold madeCells;simp at hi⊢;omega
   have e2:((List.replicate n (akj::zs)).flatten).length<=i:=by rw[List.length_flatten];simp at hi⊢;omega
   rw[xu e1,bO e2]
theorem aax{d ty T e jy n:Nat}{z1 z2:Int}{akj:V}{pos:String}{aft:Array Go.Edge}[h:cI P T e 1 jy [akj]][hx:Ev L x (U O z1)][HN:lB z1 n][hy:Ev L y (U O z2)][PD:lB z2 n](hd:dy d N L=true)(hb:jy*n<=281474976710656)(hm:n<=9223372036854775807)
  (k:∀b,w0.heap.size<=b->aki N ds S w0 ((d,.slice (Z ⟨b,0,A⟩) n n)::L) (M (Z ⟨b,0,A⟩) n n e 1 (List.replicate n akj)::H) (wpListIn (FW ro) 0 P ops Q rest)):aki N ds S w0 L H (wpListIn (FW ro) 0 P ops Q (⟨Z d,.makeSlice T x y,ty,pos,aft,A⟩::rest)):=by
 intro a w hS;obtain⟨i,zz,hi,Tn,fT,h1,h2⟩:=h.get;have h3:=hx.eq _ _ _ hS.fr;have h4:=hy.eq _ _ _ hS.fr;rw[HN.eq]at h3;rw[PD.eq]at h4;have Si:(i.bytes:Int)*(n:Int)<=281474976710656:=by
  have e:((jy*n:Nat):Int)<=281474976710656:=I;rw[Int.natCast_mul]at e;rw[h2];exact e
 have hr:=run_make (P:=P) w T e i zz h.qx hi Tn O O (n:Int) (n:Int) I (Int.le_refl _) Si I;have nK:madeCells zz.cells ((n:Int).toNat*i.size)=(List.replicate n akj).toArray:=by
  have:=py [akj] n;rw[h1,fT,dO];simp only[j_]at this;rw[show(List.replicate n [akj]).flatten=List.replicate n akj by simp]at this;rw[<-this]
 refine ft (v:=.slice (Z ⟨w.heap.size,0,A⟩) n n) (w':=w.alloc (.cells (List.replicate n akj).toArray e)) rfl (λ_ h=>by cases h) ?_ ?_
 ·simp only[dO]at hr nK
  simp[execOp,h3,h4,hr,nK]
 ·exact k _ hS.wd.size _ _ ⟨hS.fr.eo hd _,hS.wd.yd e 1 n _ (by rw[dm,f_]) (by unfold maxLen;omega)⟩
theorem It(v:V)(cs zs:List V)(hv:v.cells.toList=cs)(hz:zs.length=cs.length):Instr.fill (λi=>Z (i*cs.length,cs.length)) zs.toArray [(0,v)]=Z cs.toArray:=by
 have hs:v.cells.size=cs.length:=by rw[<-hv];simp
 have hf:=z6 cs zs 0 0 I;have e:v.cells=cs.toArray:=by rw[<-hv]
 have hp:tw zs 0 cs=cs:=by
  rw[<-zn zs 0 cs I];simp[hz]
 simp only[Instr.fill];rw[if_neg (by simp[hs,hz])];rw[e];simp only[nT];simp only[ef]at hf;rw[hp]at hf;simpa using hf
theorem RP{d ty T e jy:Nat}{zs cs:List V}{s:Nat}{v:V}{pos:String}{aft:Array Go.Edge}[h:cI P T e s jy zs][hx:Ev L x v][hv:iB v cs][hl:lA cs s](hd:dy d N L=true)(hs:((Nat.blt 0 s&&Nat.ble s 1000)&&Nat.beq zs.length s)=true)
  (k:∀b,w0.heap.size<=b->aki N ds S w0 ((d,.slice (Z ⟨b,0,A⟩) 1 1)::L) (M (Z ⟨b,0,A⟩) 1 1 e s cs::H) (wpListIn (FW ro) 0 P ops Q rest)):aki N ds S w0 L H (wpListIn (FW ro) 0 P ops Q (⟨Z d,.buildSlice T 1 #[(0,x)],ty,pos,aft,A⟩::rest)):=by
 intro a w hS;obtain⟨i,zz,hi,Tn,fT,h1,h2⟩:=h.get;simp only[Bool.and_eq_true,Nat.blt_eq,Nat.ble_eq]at hs;have hle:=hl.eq;refine ft (v:=.slice (Z ⟨w.heap.size,0,A⟩) 1 1) (w':=w.alloc (.cells cs.toArray e)) rfl (λ_ h=>by cases h) ?_ ?_
 ·have hr:=run_buildSlice (P:=P) w T e 1 #[(0,v)] cs.toArray i zz h.qx hi Tn (by rw[h1];omega) (by rw[h1];omega) (by
   rw[h1,<-hle];have:=It v cs ((Array.range (1*cs.length)).map (zz.cells[·%zz.cells.size]!)).toList hv.eq aC;rw[Array.toArray_toList]at this;exact this)
  simp[execOp,hx.eq _ _ _ hS.fr,hr]
 ·exact k _ hS.wd.size _ _ ⟨hS.fr.eo hd _,hS.wd.yd e s 1 _ I (by simp[maxLen])⟩
theorem Is:∀(vs:List V) (i:Nat) (pre zs:List V),(∀v∈vs,v.oneCell'=true)->pre.length=i->zs.length=vs.length->Instr.fill (λi=>Z (i*1,1)) (pre++zs).toArray (vi i vs)=Z (pre++vs).toArray
 |[],i,pre,zs,_,_,hz=>by
  have:zs=[]:=lk (ax hz);subst this;rfl
 |v::vs,i,pre,[],_,_,hz=>by simp at hz
 |v::vs,i,pre,akj::zs,h1,hp,hz=>by
  have fT:v.cells= #[v]:=by have:=h1 v aC;cases v<;>first|rfl|cases this
  simp only[vi,Instr.fill,fT];rw[if_neg dp];have e:(Array.foldl (λ(cs:Array V) (x:V×Nat)=>cs.setIfInBounds (i*1+x.2) x.1) (pre++akj::zs).toArray (#[v]:Array V).zipIdx)=((pre++[v])++zs).toArray:=by
   subst hp;simp
  rw[e];have:=Is vs (i+1) (pre++[v]) zs (λu hu=>h1 u (cO _ hu)) (by simp[hp]) (ax hz);simpa using this
class MQ(parts:List (Nat×V))(vs:outParam (List V))(i:Nat):Prop where
 eq:parts=vi i vs
instance(i:Nat):MQ [] [] i:=⟨rfl⟩
instance(i j:Nat)(v:V)(r:List (Nat×V))(vs:List V)[hj:gS i j][h:MQ r vs j]:MQ ((i,v)::r) (v::vs) i:=⟨by simp only[vi];rw[hj.eq,<-h.eq]⟩
theorem RQ{d ty T e jy n:Nat}{uK:List (Nat×V)}{parts:List (Nat×Operand)}{vs:List V}{akj:V}{pos:String}{aft:Array Go.Edge}[h:cI P T e 1 jy [akj]][hx:Evp L parts uK][hv:MQ uK vs 0][hl:lA vs n][h1:u4 vs](hd:dy d N L=true)(hs:(Nat.blt 0 n&&Nat.ble n 1000)=true)
  (k:∀b,w0.heap.size<=b->aki N ds S w0 ((d,.slice (Z ⟨b,0,A⟩) n n)::L) (M (Z ⟨b,0,A⟩) n n e 1 vs::H) (wpListIn (FW ro) 0 P ops Q rest)):aki N ds S w0 L H (wpListIn (FW ro) 0 P ops Q (⟨Z d,.buildSlice T n parts.toArray,ty,pos,aft,A⟩::rest)):=by
 intro a w hS;obtain⟨i,zz,hi,Tn,fT,h2,h3⟩:=h.get;simp only[Bool.and_eq_true,Nat.blt_eq,Nat.ble_eq]at hs;have hle:=hl.eq;refine ft (v:=.slice (Z ⟨w.heap.size,0,A⟩) n n) (w':=w.alloc (.cells vs.toArray e)) rfl (λ_ h=>by cases h) ?_ ?_
 ·have hr:=run_buildSlice (P:=P) w T e n uK.toArray vs.toArray i zz h.qx hi Tn (by rw[h2];omega) (by rw[h2];omega) (by
   rw[h2,hv.eq];have:=Is vs 0 [] ((Array.range (n*1)).map (zz.cells[·%zz.cells.size]!)).toList h1.all rfl (by simp[hle]);rw[aO,aO,Array.toArray_toList]at this;exact this)
  have e1:(parts.toArray.map λ(p:Nat×Operand)=>(p.1,a.eval p.2))=uK.toArray:=by
   simp only[List.map_toArray];rw[hx.eq _ _ _ hS.fr]
  simp only[execOp,Sem.run_bind];rw[e1,hr]
  rfl
 ·exact k _ hS.wd.size _ _ ⟨hS.fr.eo hd _,hS.wd.yd e 1 n _ I (by simp[maxLen];omega)⟩
theorem Wd.append(hW:Wd S w0 H w){T ty e s jy:Nat}{zs:List V}(h:cI P T e s jy zs)(hs:0<s){k:Nat}{ad:Option Addr}{n c:Nat}{xs:List V}(hk:H[k]?=Z (M ad n c e s xs))
  {a2:Addr} {m c2:Nat} {news:List V} (hm:0<m) (hl:news.length=m*s) (SO:∀j u,news[j]?=Z u->w.cell? (a2.add j)=Z u) (h1:∀u∈news,u.oneCell'=true) (kM:(n+m)*jy<=140737488355328) (II:n+m<=140737488355328) (hzs:zs.length=s):
  ∃a' c' w',(Builtin.append_ #[T,T] ty #[.slice ad n c,.slice (Z a2) m c2]).run P w=.ok (.slice a' (n+m) c') w'/\Wd S w0 (H.set k (M a' (n+m) c' e s (xs++news))) w':=by
 obtain⟨i,akj,hi,hz,fT,h2,h3⟩:=h.get;subst h2 h3;obtain⟨BI,Ew⟩:=hW.get hk;have hlen:(xs++news).length=(n+m)*i.size:=by rw[bX,BI,hl,jJ]
 have ahH:akj.cells.size=i.size:=by rw[fT];simpa using hzs
 have grown:∀old,Wd S w0 (H.set k (M (Z ⟨w.heap.size,0,A⟩) (n+m) (grownCap w (n+m) old e) e i.size (xs++news))) (w.drew.alloc (.cells (xs.toArray++news.toArray++Builtin.zeroCells akj.cells (grownCap w (n+m) old e-(n+m))) e)):=by
  intro old;have gP:=grownCap_ge w (n+m) old e;have BZ:grownCap w (n+m) old e<=maxLen:=grownCap_le_maxLen w (n+m) old e (by simp[maxLen];omega);refine hW.lj hk ⟨rfl,rfl,rfl,by simp,λb hb _=>heap_alloc_old w.drew _ hb⟩ (λb hb=>?_) λw2 jg=>?_
  ·simp only[M,bu,b_]at hb
   subst hb;exact⟨.inr (bG _),by simp⟩
  ·have:=jg w.heap.size (by simp[M])
   refine⟨hlen,.inr ⟨w.heap.size,[],(Builtin.zeroCells akj.cells (grownCap w (n+m) old e-(n+m))).toList,rfl,gP,BZ,?_,?_⟩⟩
   ·rw[Array.length_toList,size_zeroCells,ahH];exact bG _
   ·rw[this]
    have e1:(xs.toArray++news.toArray++Builtin.zeroCells akj.cells (grownCap w (n+m) old e-(n+m)))=([]++(xs++news)++(Builtin.zeroCells akj.cells (grownCap w (n+m) old e-(n+m))).toList).toArray:=by
     apply Array.toList_inj.1;simp only[Array.toList_append,aO]
    rw[e1];exact heap_alloc_new w.drew _
 rcases Ew with⟨rfl,rfl,rfl⟩|⟨g,pre,sp,rfl,h4,h5,h6,h7⟩
 ·have:xs=[]:=lk (ax BI)
  subst this;have hr:=run_append_nil (P:=P) w T ty e i akj h.qx hi hz a2 m c2 news hl SO hm I (by have hb:=kM;simp only[di]at hb;omega);have Zu:=grown 0;simp only[di,aO,Array.empty_append]at Zu⊢;exact⟨_,_,_,hr,Zu⟩
 ·by_cases s8:n+m<=c
  ·have hmul:(n+m)*i.size<=c*i.size:=q_ _ s8
   have BG:c*i.size=n*i.size+(c-n)*i.size:=by rw[<-jJ];congr 1;omega
   have gI:news.length<=sp.length:=by rw[hl];rw[jJ]at hmul;omega
   have hf:=run_firstCells_some (P:=P) w i.size m a2 m c2 news hl SO;have lK:=run_storeCells_at P g (pre.length+n*i.size) e news 0 (pre++xs++sp).toArray w h7 (by simp[BI];omega) h1;simp only[ef]at lK;have etk:((pre++xs++sp).toArray.toList.take (pre.length+n*i.size)++news++(pre++xs++sp).toArray.toList.drop (pre.length+n*i.size+news.length))=pre++(xs++news)++sp.drop news.length:=by
    have e1:pre.length+n*i.size=(pre++xs).length:=by simp[BI]
    have e2:(pre++xs++sp).toArray.toList=(pre++xs)++sp:=rfl;rw[e1,e2,List.take_left,List.drop_append];simp[dz]
   rw[etk]at lK;refine⟨_,_,_,by simp[Builtin.append_,run_underlying h.qx,sizeOf,typeInfo,hi,Builtin.lenOf,s8,hf,Addr.add_lit,lK];exact⟨⟨rfl,rfl⟩,rfl⟩,?_⟩;have bS:g<w.heap.size:=(fv.1 h7).1;have pU:∀cs,(w.setRow g cs).heap.size=w.heap.size:=λcs=>by simp[World.setRow]
   refine hW.lj hk ⟨rfl,rfl,rfl,by rw[pU];exact bG _,λb hb eQ=>setRow_other w g b _ (λe=>eQ (by simp[M,e]))⟩ (λb hb=>?_) λw2 jg=>?_
   ·simp only[M,bu,b_]at hb⊢
    subst hb;exact⟨.inl rfl,by rw[pU];exact bS⟩
   ·have:=jg g (by simp[M])
    refine⟨hlen,.inr ⟨g,pre,sp.drop news.length,rfl,s8,h5,?_,?_⟩⟩
    ·rw[eY,hl]
     have:(c-(n+m))*i.size=(c-n)*i.size-m*i.size:=by rw[<-Nat.sub_mul];congr 1;omega
     omega
    ·rw[this]
     have:=setRow_heap w g _ (pre++(xs++(news++List.drop news.length sp))).toArray e _ h7;simpa using this
  ·have holds:∀j u,xs[j]?=Z u->w.cell? ((⟨g,pre.length,A⟩:Addr).add j)=Z u:=λj u hj=>by
    rw[Addr.add_lit];exact hW.cL hk hj
   have hr:=run_append_grow (P:=P) w T ty e i akj h.qx hi hz ⟨g,pre.length,A⟩ n c xs BI holds a2 m c2 news hl SO I I (growslice_fits I kM);exact⟨_,_,_,hr,grown c⟩
theorem nX{d ty T e s jy:Nat}{zs:List V}{pos:String}{aft:Array Go.Edge}{ad:Option Addr}{n c k:Nat}{xs:List V}{b2 o2 m c2 k2 e2:Nat}{news:List V}[h:cI P T e s jy zs][hx:Ev L x (.slice ad n c)][hy:Ev L y (.slice (Z ⟨b2,o2,A⟩) m c2)]
  [hv:u7 H ad n c k e s xs] [tI:u7 H (Z ⟨b2,o2,A⟩) m c2 k2 e2 s news] [h1:u4 news] (hd:dy d N L=true) (hs:((Nat.blt 0 s&&Nat.blt 0 m)&&Nat.beq zs.length s)=true) (kM:(n+m)*jy<=140737488355328) (II:n+m<=140737488355328)
  {F:bN->List bN} [hF:EZ H k F] (kk:∀a' c',aki N ds S w0 ((d,.slice a' (n+m) c')::L) (F (M a' (n+m) c' e s (xs++news))) (wpListIn (FW ro) 0 P ops Q rest)):aki N ds S w0 L H (wpListIn (FW ro) 0 P ops Q (⟨Z d,.call {callee:=.builtin .append,args:=#[x,y],argTypes:=#[T,T]},ty,pos,aft,A⟩::rest)):=by
 intro a w hS;simp only[Bool.and_eq_true,Nat.blt_eq]at hs;obtain⟨hl,_⟩:=hS.wd.lu tI.at';obtain⟨a',c',w',hr,ek⟩:=hS.wd.append (P:=P) (ty:=ty) (c2:=c2) h hs.1.1 hv.at' hs.1.2 hl (λj u hj=>by rw[Addr.add_lit];exact hS.wd.cL tI.at' hj) h1.all kM II (q9 hs.2);refine ft (v:=.slice a' (n+m) c') (w':=w') rfl (λ_ h=>by cases h) ?_ ?_
 ·simp[execOp,resolve,invoke,builtin,hx.eq _ _ _ hS.fr,hy.eq _ _ _ hS.fr,hr]
 ·rw[hF.eq]at ek
  exact kk a' c' _ _ ⟨hS.fr.eo hd _,ek⟩
theorem gU{d ty T e s jy:Nat}{zs:List V}{pos:String}{aft:Array Go.Edge}{ad:Option Addr}{n c:Nat}(k:Nat){xs:List V}{b2 o2 m c2 k2 e2:Nat}{news:List V}[h:cI P T e s jy zs][hx:Ev L x (.slice ad n c)][hy:Ev L y (.slice (Z ⟨b2,o2,A⟩) m c2)]
  (hk:H[k]?=Z (M ad n c e s xs)) [tI:u7 H (Z ⟨b2,o2,A⟩) m c2 k2 e2 s news] [h1:u4 news] (hd:dy d N L=true) (hs:((Nat.blt 0 s&&Nat.blt 0 m)&&Nat.beq zs.length s)=true) (kM:(n+m)*jy<=140737488355328) (II:n+m<=140737488355328)
  (kk:∀a' c',aki N ds S w0 ((d,.slice a' (n+m) c')::L) (H.set k (M a' (n+m) c' e s (xs++news))) (wpListIn (FW ro) 0 P ops Q rest)):aki N ds S w0 L H (wpListIn (FW ro) 0 P ops Q (⟨Z d,.call {callee:=.builtin .append,args:=#[x,y],argTypes:=#[T,T]},ty,pos,aft,A⟩::rest)):=by
 intro a w hS;simp only[Bool.and_eq_true,Nat.blt_eq]at hs;obtain⟨hl,_⟩:=hS.wd.lu tI.at';obtain⟨a',c',w',hr,ek⟩:=hS.wd.append (P:=P) (ty:=ty) (c2:=c2) h hs.1.1 hk hs.1.2 hl (λj u hj=>by rw[Addr.add_lit];exact hS.wd.cL tI.at' hj) h1.all kM II (q9 hs.2);refine ft (v:=.slice a' (n+m) c') (w':=w') rfl (λ_ h=>by cases h) ?_ ?_
 ·simp[execOp,resolve,invoke,builtin,hx.eq _ _ _ hS.fr,hy.eq _ _ _ hS.fr,hr]
 ·exact kk a' c' _ _ ⟨hS.fr.eo hd _,ek⟩
theorem fC{H1:List bN}(h:H=H1)(k:aki N ds S w0 L H1 p):aki N ds S w0 L H p:=h▸k
theorem bi{H1:List bN}(h:H.Perm H1)(k:aki N ds S w0 L H1 p):aki N ds S w0 L H p:=λa w hS=>k a w ⟨hS.fr,hS.wd.perm h⟩
theorem Wd.NM(h:Wd S w0 H w)(e s:Nat):∀n:Nat,Wd S w0 (List.replicate n (M A 0 0 e s [])++H) w
 |0=>h
 |n+1=>(Wd.NM h e s n).DA e s
theorem lW(e s n:Nat)(h:aki N ds S w0 L (H++List.replicate n (M A 0 0 e s [])) p):aki N ds S w0 L H p:=λa w hS=>h a w ⟨hS.fr,(hS.wd.NM e s n).perm cP⟩
theorem aaA{d ty T e s jy:Nat}{zs:List V}{pos:String}{aft:Array Go.Edge}{ad:Option Addr}{n c k:Nat}{xs:List V}[h:cI P T e s jy zs][hx:Ev L x (.slice ad n c)]
  [hv:u7 H ad n c k e s xs] (hd:dy d N L=true) (hn:0<n)
  {F:bN->List bN} [hF:EZ H k F] (kk:∀a',aki N ds S w0 ((d,.slice a' (n-1) (c-1))::L) (F (M a' (n-1) (c-1) e s (xs.drop s))) (wpListIn (FW ro) 0 P ops Q rest)):aki N ds S w0 L H (wpListIn (FW ro) 0 P ops Q (⟨Z d,.slice T x (Z (.const (U O 1))) A A,ty,pos,aft,A⟩::rest)):=by
 intro a w hS;simp only[<-hF.eq]at kk;obtain⟨BI,Ew⟩:=hS.wd.get hv.at';rcases Ew with⟨_,h0,_⟩|⟨g,pre,sp,rfl,h4,h5,h6,h7⟩
 ·omega
 obtain⟨i,akj,hi,hz,fT,h2,h3⟩:=h.get;have ji:P.elem T=e:=by simp[Program.elem,h.qx]
 have pU:∀w:C,(sizeOf (P.elem T)).run P w=.ok s w:=λw=>by rw[ji];simp[sizeOf,typeInfo,hi,h2]
 have hr:=run_slice_l (P:=P) w T (Z ⟨g,pre.length,A⟩) n c (by rw[ji];exact h.qx) O 1 I I;have hsn:s<=xs.length:=by rw[BI];exact Nat.le_mul_of_pos_left _ hn
 have bS:g<w.heap.size:=(fv.1 h7).1;have fin:∀Qh,(∃q,Qh++xs.drop s++sp=pre++xs++sp/\q=Qh.length)->Wd S w0 (H.set k (M (Z ⟨g,Qh.length,A⟩) (n-1) (c-1) e s (xs.drop s))) w:=by
  intro Qh ⟨_,hq,_⟩;refine hS.wd.lj hv.at' (l_.refl _ _) (λb hb=>?_) λw2 jg=>?_
  ·simp only[M,bu,b_]at hb⊢
   subst hb;exact⟨.inl rfl,bS⟩
  ·have:=jg g (by simp[M])
   refine⟨by rw[eY,BI,Nat.sub_mul,Nat.one_mul],.inr ⟨g,Qh,sp,rfl,I,I,?_,?_⟩⟩
   ·rw[show c-1-(n-1)=c-n by omega];exact h6
   ·rw[this,hq];exact h7
 by_cases hc:c=1
 ·have hn1:n=1:=I
  subst hc hn1;refine ft (v:=.slice (Z ⟨g,pre.length,A⟩) 0 0) (w':=w) rfl (λ_ h=>by cases h) ?_ ?_
  ·have ec:a.eval (.const (U O 1))=U O 1:=rfl
   simp[execOp,hx.eq _ _ _ hS.fr,ec,run_sliceAt_slice (P:=P) w T _ _ _ _ (by rw[ji];exact h.qx),hr,pU,sliced]
  ·refine kk (Z ⟨g,pre.length,A⟩) _ _ ⟨hS.fr.eo hd _,?_⟩
   have hd0:xs.drop s=[]:=List.drop_of_length_le I;refine hS.wd.lj hv.at' (l_.refl _ _) (λb hb=>?_) λw2 jg=>?_
   ·simp only[M,bu,b_]at hb⊢
    subst hb;exact⟨.inl rfl,bS⟩
   ·have:=jg g (by simp[M])
    refine⟨by simp[hd0],.inr ⟨g,pre,xs++sp,rfl,I,I,by simp,?_⟩⟩;rw[this,hd0,h7];simp
 ·refine ft (v:=.slice (Z ⟨g,pre.length+s,A⟩) (n-1) (c-1)) (w':=w) rfl (λ_ h=>by cases h) ?_ ?_
  ·have ec:a.eval (.const (U O 1))=U O 1:=rfl
   simp[execOp,hx.eq _ _ _ hS.fr,ec,run_sliceAt_slice (P:=P) w T _ _ _ _ (by rw[ji];exact h.qx),hr,pU,sliced,hc,Addr.add_lit]
  ·refine kk (Z ⟨g,pre.length+s,A⟩) _ _ ⟨hS.fr.eo hd _,?_⟩
   have:=fin (pre++xs.take s) ⟨_,by rw[dz,dz,dz];congr 1;rw[<-dz,q8],rfl⟩;rw[bX,dd,iq hsn]at this;exact this
theorem M5{d ty f:Nat}{args:List Operand}{us vs xs:List V}{pA:Array Nat}{pos:String}{aft:Array Go.Edge}(R:C->V->C->Prop)[h:aQ P f][hx:AY L args vs][hf:Ev L x (.func (.func f) us.toArray xs.toArray)](hd:dy d N L=true)
  (hc:∀w,Wd S w0 H w->iC P f (us++vs++xs) w (R w))
  (k:∀v w w',Wd S w0 H w->R w v w'->∀a,Fr N ds ((d,v)::L) a->wpListIn (FW ro) 0 P ops Q rest a w'):aki N ds S w0 L H (wpListIn (FW ro) 0 P ops Q (⟨Z d,.call {callee:=.value x,args:=args.toArray,argTypes:=pA},ty,pos,aft,A⟩::rest)):=by
 intro a w hS;refine wpListIn_plain rfl λakc hK=>?_;refine⟨λ_ _=>trivial,?_⟩;rw[vP _ _ _ (λ_ h=>by cases h)];have hr:(execOp a.eval ⟨Z d,.call {callee:=.value x,args:=args.toArray,argTypes:=pA},ty,pos,aft,A⟩).run P w=.ok (.enter f (us++vs++xs).toArray) w:=by
  simp[execOp,resolve,hf.eq _ _ _ hS.fr,Deferred.ofValue,invoke,hx.eq _ _ _ hS.fr,h.run]
 rw[hr];refine⟨λh=>(by cases h),?_⟩;refine CallsIn.mono (R:=λe w'=>∃v,e=.returned v/\R w v w') (hc w hS.wd) λe w' ⟨v,he,hR⟩=>?_;subst he;exact hK _ _ (k v w w' hS.wd hR _ (hS.fr.eo hd v))
theorem lH{d ty f:Nat}{args:List Operand}{us vs xs:List V}{pA:Array Nat}{pos:String}{aft:Array Go.Edge}{u:V}[h:aQ P f][hx:AY L args vs][hf:Ev L x (.func (.func f) us.toArray xs.toArray)](hd:dy d N L=true)
  (hc:∀w,Wd S w0 H w->eP P f (us++vs++xs) w u)
  (k:aki N ds S w0 ((d,u)::L) H (wpListIn (FW ro) 0 P ops Q rest)):aki N ds S w0 L H (wpListIn (FW ro) 0 P ops Q (⟨Z d,.call {callee:=.value x,args:=args.toArray,argTypes:=pA},ty,pos,aft,A⟩::rest)):=
 M5 (λw v w'=>v=u/\l_ cX w w') hd hc λv _ w' hw hR a hF=>k a w' ⟨by rw[<-hR.1];exact hF,hw.call hR.2⟩
theorem nF{T n b j t:Nat}{cs:List V}[h:eD P T n][hb:nr H b j cs t][hl:lA cs n](hW:Wd S w0 H w):(loadVar T ⟨b,0,A⟩).run P w=.ok (.agg cs.toArray) w:=by
 have h1:=run_loadCells_list (P:=P) w ⟨b,0,A⟩ cs (λi v hv=>by rw[Addr.add_lit,di];exact hW.mP j hb.at' hv);rw[hl.eq]at h1;simp[loadVar,h.agg,h.sz,h1]
theorem gw{fn:Func}{R:V->C->Prop}{t T n b j bt:Nat}{cs:List V}(hr:fn.results= #[.cell t T])[hv:gR L t (.pointer (Z ⟨b,0,A⟩))][h:eD P T n][hb:nr H b j cs bt][hl:lA cs n](hR:∀w,Wd S w0 H w->R (.agg cs.toArray) w):aki N [] S w0 L H (bodyPost P fn (λe w'=>∃v,e=.returned v/\R v w') .ret):=λa w hS=>by
 refine⟨hS.fr.defers,.agg cs.toArray,?_,_,rfl,hR w hS.wd⟩;have:=nF (P:=P) (T:=T) (b:=b) (cs:=cs) hS.wd;simp[results,hr,tK,hS.fr.slot _ hv.mem,asAddr,this]
theorem WE{fn:Func}{R:V->C->Prop}{s t T n b j bt:Nat}{u:V}{cs:List V}(hr:fn.results= #[.tmp s,.cell t T])[hu:gR L s u][hv:gR L t (.pointer (Z ⟨b,0,A⟩))][h:eD P T n][hb:nr H b j cs bt][hl:lA cs n](hR:∀w,Wd S w0 H w->R (.tuple #[u,.agg cs.toArray]) w):aki N [] S w0 L H (bodyPost P fn (λe w'=>∃v,e=.returned v/\R v w') .ret):=λa w hS=>by
 refine⟨hS.fr.defers,_,?_,_,rfl,hR w hS.wd⟩;have:=nF (P:=P) (T:=T) (b:=b) (cs:=cs) hS.wd;simp[results,hr,tK,hS.fr.slot _ hv.mem,hS.fr.slot _ hu.mem,asAddr,this]
theorem tT{fn:Func}{R:V->C->Prop}{s T2 n2 b2 j2 bt2 t T n b j bt:Nat}{cs E4:List V}(hr:fn.results= #[.cell s T2,.cell t T])[hu:gR L s (.pointer (Z ⟨b2,0,A⟩))][h2:eD P T2 n2][xd:nr H b2 j2 E4 bt2][HI:lA E4 n2][hv:gR L t (.pointer (Z ⟨b,0,A⟩))][h:eD P T n][hb:nr H b j cs bt][hl:lA cs n](hR:∀w,Wd S w0 H w->R (.tuple #[.agg E4.toArray,.agg cs.toArray]) w):aki N [] S w0 L H (bodyPost P fn (λe w'=>∃v,e=.returned v/\R v w') .ret):=λa w hS=>by
 refine⟨hS.fr.defers,_,?_,_,rfl,hR w hS.wd⟩;have h3:=nF (P:=P) (T:=T) (b:=b) (cs:=cs) hS.wd;have h4:=nF (P:=P) (T:=T2) (b:=b2) (cs:=E4) hS.wd;simp[results,hr,tK,hS.fr.slot _ hv.mem,hS.fr.slot _ hu.mem,asAddr,h3,h4]
def u_(P:Program)(N:Nat)(ds:List Deferred)(S:Nat->Prop)(w0:C)(L:List (Nat×V))(H:List bN)(ro:Option Nat)(l:List Oper)(Q:Exit->Act->C->Prop)(bH:Nat)(listed:Array Bool):Nat->Prop
 |0=>True
 |i+1=>((Region.ready .any l.toArray listed).contains i=false∨∃o,l[i]?=Z o/\aki N ds S w0 L H (wpListIn (FW ro) 0 P l.toArray (Exit.then (wpAnyIn (FW ro) 0 P .any l.toArray Q bH (listed.setIfInBounds i true)) Q) [o]))/\u_ P N ds S w0 L H ro l Q bH listed i
theorem any_nil{l:List Oper}{bH:Nat}{listed:Array Bool}:u_ P N ds S w0 L H ro l Q bH listed 0:=trivial
theorem nQ{l:List Oper}{bH i:Nat}{listed:Array Bool}(h1:(Region.ready .any l.toArray listed).contains i=false)(h2:u_ P N ds S w0 L H ro l Q bH listed i):u_ P N ds S w0 L H ro l Q bH listed (i+1):=⟨.inl h1,h2⟩
theorem any_cons{l:List Oper}{bH i:Nat}{listed:Array Bool}{o:Oper}(h1:aki N ds S w0 L H (wpListIn (FW ro) 0 P l.toArray (Exit.then (wpAnyIn (FW ro) 0 P .any l.toArray Q bH (listed.setIfInBounds i true)) Q) [o]))(h2:u_ P N ds S w0 L H ro l Q bH listed i)[ho:dF l i o]:u_ P N ds S w0 L H ro l Q bH listed (i+1):=⟨.inr ⟨o,ho.at',h1⟩,h2⟩
theorem YO{o:Oper}{akd:Act->C->Prop}(h:wpListIn (FW ro) 0 P ops (Exit.then akd Q) [o] a w):if Region.wanted o (yielded ops a.tmps)then o.wpIn (FW ro) 0 P a w akd Q else(∀f,o.about P w a.eval=Z f->(FW ro).fn f)/\akd (a.put o.dst undef) w:=by
 unfold wpListIn at h
 split
 ·rename_i hw
  rw[if_pos hw]at h;refine⟨h.1,?_⟩;have h2:=h.2
  revert h2
  generalize (o.semAt (FW ro).round a.eval).run P w=r;intro h2;cases r with
  |ok nx w1=>
   cases nx with
   |value v=>exact h2
   |skip=>exact h2
   |defer d=>exact h2
   |enter f args=>
    refine⟨h2.1,h2.2.mono λe w2 hh=>?_⟩;cases e<;>exact hh
   |row r args=>exact⟨h2.1,h2.2.mono λv w2 hh=>hh⟩
   |round l f tmps assign body=>
    refine⟨h2.1,h2.2.mono λe w2 hh=>?_⟩;cases e<;>exact hh
   |_=>exact h2
  |halt x w1=>cases x<;>exact h2
 ·rename_i hw
  rw[if_neg hw]at h;exact⟨h.1,h.2⟩
theorem Cp{l:List Oper}{bH:Nat}{listed:Array Bool}:∀{n:Nat},u_ P N ds S w0 L H ro l Q bH listed n->∀i,i<n->i∈Region.ready .any l.toArray listed->aki N ds S w0 L H (λa w=>wpOpIn (FW ro) 0 P l.toArray Q i (wpAnyIn (FW ro) 0 P .any l.toArray Q bH (listed.setIfInBounds i true)) a w)
 |0,_,i,hi,_=>I
 |j+1,⟨h1,h2⟩,i,hi,hm=>by
  by_cases Q5:i=j
  ·subst Q5
   rcases h1 with h1|⟨o,ho,h1⟩
   ·rw[List.contains_iff_mem.2 hm]at h1;cases h1
   ·intro a w hS
    unfold wpOpIn;rw[show l.toArray[i]?=Z o by simpa using ho];exact YO (h1 a w hS)
  ·exact Cp h2 i I hm
theorem UL{l:List Oper}{listed:Array Bool}{i:Nat}(h:i∈Region.ready .any l.toArray listed):i<l.length:=by
 unfold Region.ready at h;have:=cC.1 h;simpa using this.1
theorem yN{l:List Oper}{bH n:Nat}{listed:Array Bool}[hl:HU l n](eQ:(Region.ready .any l.toArray listed).isEmpty=false)(h:u_ P N ds S w0 L H ro l Q bH listed n):aki N ds S w0 L H (wpAnyIn (FW ro) 0 P .any l.toArray Q (bH+1) listed):=λa w hS=>by
 refine⟨λe=>?_,λi hi=>Cp h i (by rw[<-hl.eq];exact UL hi) hi a w hS⟩;rw[e]at eQ;cases eQ
theorem z_{l:List Oper}{listed:Array Bool}(hr:Region.ready .any l.toArray listed=[])(h:aki N ds S w0 L H (Q .normal)):aki N ds S w0 L H (wpAnyIn (FW ro) 0 P .any l.toArray Q 0 listed):=λa w hS=>⟨hr,h a w hS⟩
def dK(akd:Act->C->Prop):Exit->Act->C->Prop
 | .normal,a,w=>akd a w
 |_,_,_=>False
def XX:Op->Bool
 | .call _=>false
 |_=>true
theorem eV{l:List Oper}{bH d ty:Nat}(i:Nat){pos:String}{aft:Array Go.Edge}{op:Op}{v:V}{listed:Array Bool}{akd:Act->C->Prop}[ho:dF l i ⟨Z d,op,ty,pos,aft,A⟩][h:∀w,dL P N ds cX w L [] op v](hd:(dy d N L&&XX op)=true)
  (hr:((Region.noSelect l.toArray&&Region.free .any l.toArray listed i)&&(Region.ready .any l.toArray listed).contains i)=true)
  (k:aki N ds S w0 ((d,v)::L) H (wpAnyIn (FW A) 0 P .any l.toArray (dK akd) bH (listed.setIfInBounds i true))):aki N ds S w0 L H (wpAnyIn (FW A) 0 P .any l.toArray (dK akd) (bH+1) listed):=λa w hS=>by
 simp only[Bool.and_eq_true]at hr hd;refine wpAnyIn_take (i:=i) (oi:=⟨Z d,op,ty,pos,aft,A⟩) (v:=v) rfl (ax ho.at') hr.1.1 hr.1.2 hr.2 (λc a w hh=>hh) ⟨.inl ⟨rfl,λw=>?_⟩,λw=>?_⟩ (k _ _ ⟨hS.fr.eo hd.1 v,hS.wd⟩)
 ·exact(h w).run _ _ _ _ _ a w hS.fr (Wd.nil cX w)
 ·have:=hd.2
  cases op<;>first|rfl|cases this
theorem v_{id n:Nat}{l:List Oper}[hl:HU l n](L':List (Nat×V))(H':List bN)(hm:P.follows .mixedOrders=true)
  (h:aki N ds S w0 L H (wpAnyIn (FW ro) 0 P .any l.toArray (dK (St N ds S w0 L' H')) n (Array.replicate n false)))
  (k:aki N ds S w0 L' H' (Q .normal)):aki N ds S w0 L H (Code.wpIn (FW ro) 0 P (Code.region id l.toArray true) Q):=λa w hS=>by
 refine wpIn_region_any hm ?_;have h1:=h a {w with drawn:=w.drawn+1} ⟨hS.fr,hS.wd.same rfl rfl rfl rfl⟩;have key:∀(bH:Nat) (listed:Array Bool) (a:Act) (w:C),wpAnyIn (FW ro) 0 P .any l.toArray (dK (St N ds S w0 L' H')) bH listed a w->wpAnyIn (FW ro) 0 P .any l.toArray Q bH listed a w:=by
  intro bH
  induction bH with
  |zero=>exact λlisted a w h=>⟨h.1,k a w h.2⟩
  |succ bH ih=>
   intro listed a w h;refine⟨λe=>k a w (h.1 e),λi hi=>?_⟩;have h2:=h.2 i hi;unfold wpOpIn at h2⊢
   split
   ·rename_i ho
    simp only[ho]at h2;exact ih _ _ _ h2
   ·rename_i o ho
    simp only[ho]at h2
    split
    ·rename_i hw
     rw[if_pos hw]at h2;refine⟨h2.1,?_⟩;have h3:=h2.2
     revert h3
     generalize (o.semAt (FW ro).round a.eval).run P w=r;intro h3;cases r with
     |ok nx w1=>
      cases nx with
      |value v=>exact ih _ _ _ h3
      |skip=>exact ih _ _ _ h3
      |defer d=>exact ih _ _ _ h3
      |enter f args=>
       refine⟨h3.1,h3.2.mono λe w2 hh=>?_⟩;cases e with
       |returned v=>exact ih _ _ _ hh
       |panicked c=>exact(hh:False).elim
       |outgrown=>exact(Exists.elim hh λ_ h=>Exists.elim h λ_ h=>(h:False).elim)
      |row r args=>exact⟨h3.1,h3.2.mono λv w2 hh=>ih _ _ _ hh⟩
      |round l f tmps assign body=>
       refine⟨h3.1,h3.2.mono λe w2 hh=>?_⟩;cases e with
       |returned v=>exact ih _ _ _ hh
       |panicked c=>exact(hh:False).elim
       |outgrown=>exact(Exists.elim hh λ_ h=>Exists.elim h λ_ h=>(h:False).elim)
      |_=>exact h3
     |halt x w1=>cases x<;>exact(h3:False).elim
    ·rename_i hw
     rw[if_neg hw]at h2;exact⟨h2.1,ih _ _ _ h2.2⟩
 have:=key _ _ _ _ h1;rw[<-hl.eq]at this;simpa using this
end
structure Hd(q:Prop):Prop where
 g:q
theorem aU{p q:Prop}(k:q)(h:Hd q->p:=by intro k;(first|refine nJ rfl ?_|refine lJ ?_|refine pQ ?_|refine mC ?_|refine w9 ?_);(repeat(first|refine nJ rfl ?_|refine lJ ?_|refine pQ ?_|refine mC ?_|refine w9 ?_));exact k.g):p:=h ⟨k⟩
theorem aH{p q:Prop}(k:q)(h:Hd q->p:=by intro k;(first|refine nJ rfl ?_|refine lJ ?_|refine pQ ?_|refine mC ?_|refine w9 ?_|refine vp rfl ?_|refine vm rfl I I ?_|refine vq ?_|refine tR ?_|refine qN ?_|refine Bf ?_|refine qG ?_|refine rZ ?_);(repeat(first|refine nJ rfl ?_|refine lJ ?_|refine pQ ?_|refine mC ?_|refine w9 ?_|refine vp rfl ?_|refine vm rfl I I ?_|refine vq ?_|refine tR ?_|refine qN ?_|refine Bf ?_|refine qG ?_|refine rZ ?_));exact k.g):p:=h ⟨k⟩
theorem aE{p q:Prop}(k:q)(h:Hd q->p:=by intro k;(first|refine nJ rfl ?_|refine lJ ?_|refine pQ ?_|refine mC ?_|refine w9 ?_|refine vp rfl ?_|refine vm rfl I I ?_|refine vq ?_|refine tR ?_|refine qN ?_|refine Bf ?_|refine qG ?_|refine rZ ?_|refine mZ ?_|refine we ?_|refine rh ?_|refine Aa ?_|refine oT ?_|refine oS ?_|refine qO ?_|refine oR ?_|refine Fh rfl I I ?_|refine sW rfl ?_|refine Ab ?_);(repeat(first|refine nJ rfl ?_|refine lJ ?_|refine pQ ?_|refine mC ?_|refine w9 ?_|refine vp rfl ?_|refine vm rfl I I ?_|refine vq ?_|refine tR ?_|refine qN ?_|refine Bf ?_|refine qG ?_|refine rZ ?_|refine mZ ?_|refine we ?_|refine rh ?_|refine Aa ?_|refine oT ?_|refine oS ?_|refine qO ?_|refine oR ?_|refine Fh rfl I I ?_|refine sW rfl ?_|refine Ab ?_));exact k.g):p:=h ⟨k⟩
theorem iL{p q:Prop}(k:q)(h:Hd q->p:=by intro k;(first|refine nJ rfl ?_|refine lJ ?_|refine pQ ?_|refine mC ?_|refine w9 ?_|refine vp rfl ?_|refine Ab ?_|refine GB rfl ?_|refine we ?_|refine mZ ?_|refine qN ?_|refine tR ?_|refine vq ?_|refine rZ ?_|refine qG ?_|refine vm rfl I I ?_|refine Fh rfl I I ?_|refine Aa ?_|refine oT ?_|refine oS ?_|refine sW rfl ?_|refine Bf ?_|refine qO ?_|refine oR ?_|refine GD rfl ?_|refine GC ?_|refine BW rfl ?_|refine CR rfl ?_|refine rh ?_);(repeat(first|refine nJ rfl ?_|refine lJ ?_|refine pQ ?_|refine mC ?_|refine w9 ?_|refine vp rfl ?_|refine Ab ?_|refine GB rfl ?_|refine we ?_|refine mZ ?_|refine qN ?_|refine tR ?_|refine vq ?_|refine rZ ?_|refine qG ?_|refine vm rfl I I ?_|refine Fh rfl I I ?_|refine Aa ?_|refine oT ?_|refine oS ?_|refine sW rfl ?_|refine Bf ?_|refine qO ?_|refine oR ?_|refine GD rfl ?_|refine GC ?_|refine BW rfl ?_|refine CR rfl ?_|refine rh ?_));exact k.g):p:=h ⟨k⟩
theorem aas{p q:Prop}(k:q)(h:Hd q->p:=by intro k;(first|refine nJ rfl ?_|refine lJ ?_|refine pQ ?_|refine mC ?_|refine w9 ?_|refine vp rfl ?_|refine Ab ?_|refine GB rfl ?_|refine we ?_|refine mZ ?_|refine vq ?_|refine rZ ?_|refine qG ?_|refine vm rfl I I ?_|refine Fh rfl I I ?_|refine Aa ?_|refine oT ?_|refine oS ?_|refine sW rfl ?_|refine Bf ?_|refine qO ?_|refine oR ?_|refine GD rfl ?_|refine GC ?_|refine BW rfl ?_|refine CR rfl ?_|refine rh ?_);(repeat(first|refine nJ rfl ?_|refine lJ ?_|refine pQ ?_|refine mC ?_|refine w9 ?_|refine vp rfl ?_|refine Ab ?_|refine GB rfl ?_|refine we ?_|refine mZ ?_|refine vq ?_|refine rZ ?_|refine qG ?_|refine vm rfl I I ?_|refine Fh rfl I I ?_|refine Aa ?_|refine oT ?_|refine oS ?_|refine sW rfl ?_|refine Bf ?_|refine qO ?_|refine oR ?_|refine GD rfl ?_|refine GC ?_|refine BW rfl ?_|refine CR rfl ?_|refine rh ?_));exact k.g):p:=h ⟨k⟩
theorem iH{p q:Prop}(k:q)(h:Hd q->p:=by intro k;(first|refine Yf rfl ?_|refine Z6 rfl ?_|refine UI ?_|refine UJ rfl ?_|refine N5 rfl ?_|refine aeV rfl I I ?_|refine Z7 rfl I I ?_|refine Z5 ?_);(repeat(first|refine Yf rfl ?_|refine Z6 rfl ?_|refine UI ?_|refine UJ rfl ?_|refine N5 rfl ?_|refine aeV rfl I I ?_|refine Z7 rfl I I ?_|refine Z5 ?_));exact k.g):p:=h ⟨k⟩
theorem dZ{p:Prop}{c q:Nat->Prop}(k:∀b,c b->q b)(h:Hd (∀b,c b->q b)->p:=by intro k;(first|refine acL rfl ?_|refine Wz rfl ?_|refine acK rfl ?_|refine RP rfl rfl ?_|refine RQ rfl rfl ?_|refine aax rfl I I ?_);exact k.g):p:=h ⟨k⟩
end
end Go.Proofs.YthfhgolkafpmnaaGreatDoor
