/- Texts joined: Core Data Step More. -/
import Derived.BigQuiet
import Derived.Deep.MidRow
import Derived.Deep.Quiet
import Derived.Great.BuildSlice
import Derived.Laws.OwnMore
import Derived.OrdersIn
import Derived.RangeFuncCalls
import Derived.TacticsIn
import Derived.WalkKit
namespace Go.Proofs.YthfhgolkafpmnaaGreatDoor
section
open Go Go.RowKit
theorem aw{p:Prop}(h:p:=by repeat(first|exact trivial|refine⟨rfl,?_⟩)):p:=h
theorem ag{p:Prop}(h:p:=by omega):p:=h
theorem aq{p:Prop}(h:p:=by decide+kernel):p:=h
theorem aP{p:Prop}(h:p:=by kernel_rfl):p:=h
theorem aH{p:Prop}(h:p:=by simp):p:=h
theorem ap{p:Prop}(h:p:=by repeat(first|exact List.Sublist.refl _|exact List.nil_sublist _|refine List.Sublist.cons_cons _ ?_|refine List.Sublist.cons _ ?_)):p:=h
theorem ag2{α:Type}{l:List α}:l.Sublist l:=List.Sublist.refl l
theorem ou{α:Type}{l:List α}:([]:List α).Sublist l:=List.nil_sublist _
theorem dn{α:Type}{a:α}{l l':List α}(h:l.Sublist l'):(a::l).Sublist (a::l'):=.cons_cons _ h
abbrev aE:ByteArray:=ByteArray.empty
abbrev ae(n:Int):Value:=.int .i64 n
abbrev aD(b:Nat):Option Addr:=some ⟨b,0,none⟩
abbrev au(b o:Nat):Option Addr:=some ⟨b,o,none⟩
abbrev ax(b:Nat):Value:=.pointer (some ⟨b,0,none⟩)
theorem sZ:type_of% @Array.getD_eq_getD_getElem?:=@Array.getD_eq_getD_getElem?
theorem vp:type_of% @Array.getElem?_eq_none:=@Array.getElem?_eq_none
theorem fI:type_of% @Array.getElem?_eq_some_iff:=@Array.getElem?_eq_some_iff
theorem dD:type_of% @Int.toNat_natCast:=@Int.toNat_natCast
theorem Ag:type_of% @List.Sublist.append_left:=@List.Sublist.append_left
theorem cN:type_of% @List.Sublist.refl:=@List.Sublist.refl
theorem vq:type_of% @List.any_eq_false:=@List.any_eq_false
theorem oq:type_of% @List.any_eq_true:=@List.any_eq_true
theorem dE:type_of% @List.append_assoc:=@List.append_assoc
theorem cq:type_of% @List.append_nil:=@List.append_nil
theorem a6:type_of% @List.cons_append:=@List.cons_append
theorem bu:type_of% @List.count_append:=@List.count_append
theorem bi:type_of% @List.count_cons:=@List.count_cons
theorem cd:type_of% @List.count_nil:=@List.count_nil
theorem wA:type_of% @List.drop_append_of_le_length:=@List.drop_append_of_le_length
theorem lF:type_of% @List.drop_eq_getElem_cons:=@List.drop_eq_getElem_cons
theorem iH:type_of% @List.drop_length:=@List.drop_length
theorem tX:type_of% @List.drop_length_add_append:=@List.drop_length_add_append
theorem kN:type_of% @List.eq_nil_of_length_eq_zero:=@List.eq_nil_of_length_eq_zero
theorem jI:type_of% @List.eq_of_mem_replicate:=@List.eq_of_mem_replicate
theorem oL:type_of% @List.eraseIdx_set_eq:=@List.eraseIdx_set_eq
theorem cf:type_of% @List.ext_getElem?:=@List.ext_getElem?
theorem nI:type_of% @List.filter_append:=@List.filter_append
theorem rO:type_of% @List.filter_congr:=@List.filter_congr
theorem mg:type_of% @List.filter_sublist:=@List.filter_sublist
theorem gO:type_of% @List.flatMap_append:=@List.flatMap_append
theorem gx:type_of% @List.flatMap_cons:=@List.flatMap_cons
theorem rP:type_of% @List.flatMap_def:=@List.flatMap_def
theorem oM:type_of% @List.flatMap_nil:=@List.flatMap_nil
theorem nJ:type_of% @List.foldl_append:=@List.foldl_append
theorem fF:type_of% @List.foldl_cons:=@List.foldl_cons
theorem cz:type_of% @List.getD_eq_getElem?_getD:=@List.getD_eq_getElem?_getD
theorem dG:type_of% @List.getElem?_append_left:=@List.getElem?_append_left
theorem dg:type_of% @List.getElem?_append_right:=@List.getElem?_append_right
theorem nK:type_of% @List.getElem?_cons_succ:=@List.getElem?_cons_succ
theorem jJ:type_of% @List.getElem?_cons_zero:=@List.getElem?_cons_zero
theorem g_:type_of% @List.getElem?_drop:=@List.getElem?_drop
theorem aB:type_of% @List.getElem?_eq_getElem:=@List.getElem?_eq_getElem
theorem bM:type_of% @List.getElem?_eq_none:=@List.getElem?_eq_none
theorem kg:type_of% @List.getElem?_eq_none_iff:=@List.getElem?_eq_none_iff
theorem aC:type_of% @List.getElem?_eq_some_iff:=@List.getElem?_eq_some_iff
theorem aK:type_of% @List.getElem?_map:=@List.getElem?_map
theorem cM:type_of% @List.getElem?_mapIdx:=@List.getElem?_mapIdx
theorem lG:type_of% @List.getElem?_modify:=@List.getElem?_modify
theorem br:type_of% @List.getElem?_of_mem:=@List.getElem?_of_mem
theorem eQ:type_of% @List.getElem?_range:=@List.getElem?_range
theorem h_:type_of% @List.getElem?_replicate:=@List.getElem?_replicate
theorem dQ:type_of% @List.getElem?_set:=@List.getElem?_set
theorem eR:type_of% @List.getElem?_set_ne:=@List.getElem?_set_ne
theorem ey:type_of% @List.getElem?_set_self:=@List.getElem?_set_self
theorem rQ:type_of% @List.getElem?_take:=@List.getElem?_take
theorem wB:type_of% @List.getElem?_take_of_lt:=@List.getElem?_take_of_lt
theorem nL:type_of% @List.getElem_idxOf:=@List.getElem_idxOf
theorem jK:type_of% @List.getElem_mem:=@List.getElem_mem
theorem tY:type_of% @List.idxOf_lt_length_iff:=@List.idxOf_lt_length_iff
theorem ju:type_of% @List.idxOf_lt_length_of_mem:=@List.idxOf_lt_length_of_mem
theorem bR:type_of% @List.length_append:=@List.length_append
theorem ie:type_of% @List.length_cons:=@List.length_cons
theorem ez:type_of% @List.length_drop:=@List.length_drop
theorem ja:type_of% @List.length_filter_le:=@List.length_filter_le
theorem aG:type_of% @List.length_map:=@List.length_map
theorem kh:type_of% @List.length_mapIdx:=@List.length_mapIdx
theorem ql:type_of% @List.length_nil:=@List.length_nil
theorem rR:type_of% @List.length_pos_iff:=@List.length_pos_iff
theorem fG:type_of% @List.length_range:=@List.length_range
theorem ef:type_of% @List.length_replicate:=@List.length_replicate
theorem tZ:type_of% @List.length_reverse:=@List.length_reverse
theorem eA:type_of% @List.length_set:=@List.length_set
theorem jL:type_of% @List.length_singleton:=@List.length_singleton
theorem cU:type_of% @List.length_take:=@List.length_take
theorem bB:type_of% @List.map_append:=@List.map_append
theorem fw:type_of% @List.map_congr_left:=@List.map_congr_left
theorem bO:type_of% @List.map_cons:=@List.map_cons
theorem nM:type_of% @List.map_id:=@List.map_id
theorem eS:type_of% @List.map_map:=@List.map_map
theorem dp:type_of% @List.map_nil:=@List.map_nil
theorem eh:type_of% @List.map_set:=@List.map_set
theorem bL:type_of% @List.mem_append:=@List.mem_append
theorem cC:type_of% @List.mem_append_left:=@List.mem_append_left
theorem dt:type_of% @List.mem_append_right:=@List.mem_append_right
theorem bJ:type_of% @List.mem_cons:=@List.mem_cons
theorem cJ:type_of% @List.mem_cons_of_mem:=@List.mem_cons_of_mem
theorem rS:type_of% @List.mem_cons_self:=@List.mem_cons_self
theorem cI:type_of% @List.mem_filter:=@List.mem_filter
theorem du:type_of% @List.mem_flatMap:=@List.mem_flatMap
theorem aX:type_of% @List.mem_map:=@List.mem_map
theorem aA:type_of% @List.mem_of_getElem?:=@List.mem_of_getElem?
theorem qm:type_of% @List.mem_of_mem_take:=@List.mem_of_mem_take
theorem jM:type_of% @List.mem_or_eq_of_mem_set:=@List.mem_or_eq_of_mem_set
theorem cQ:type_of% @List.mem_range:=@List.mem_range
theorem bU:type_of% @List.mem_singleton:=@List.mem_singleton
theorem aT:type_of% @List.nil_append:=@List.nil_append
theorem eL:type_of% @List.nil_sublist:=@List.nil_sublist
theorem nN:type_of% @List.nodup_append:=@List.nodup_append
theorem mh:type_of% @List.nodup_cons:=@List.nodup_cons
theorem rT:type_of% @List.nodup_range:=@List.nodup_range
theorem iI:type_of% @List.not_mem_nil:=@List.not_mem_nil
theorem nO:type_of% @List.pairwise_append:=@List.pairwise_append
theorem fN:type_of% @List.pairwise_cons:=@List.pairwise_cons
theorem dH:type_of% @List.perm_append_comm:=@List.perm_append_comm
theorem s5:type_of% @List.perm_ext_iff_of_nodup:=@List.perm_ext_iff_of_nodup
theorem aJ:type_of% @List.perm_iff_count:=@List.perm_iff_count
theorem lm:type_of% @List.perm_middle:=@List.perm_middle
theorem kA:type_of% @List.range_succ:=@List.range_succ
theorem lq:type_of% @List.set_append_right:=@List.set_append_right
theorem cn:type_of% @List.set_cons_succ:=@List.set_cons_succ
theorem bS:type_of% @List.set_cons_zero:=@List.set_cons_zero
theorem dY:type_of% @List.sublist_append_left:=@List.sublist_append_left
theorem qV:type_of% @List.sublist_append_right:=@List.sublist_append_right
theorem dZ:type_of% @List.sublist_cons_self:=@List.sublist_cons_self
theorem et:type_of% @List.sum_cons:=@List.sum_cons
theorem pu:type_of% @List.takeWhile_cons_of_pos:=@List.takeWhile_cons_of_pos
theorem cj:type_of% @List.take_add_one:=@List.take_add_one
theorem pw:type_of% @List.take_append_drop:=@List.take_append_drop
theorem jY:type_of% @List.take_append_of_le_length:=@List.take_append_of_le_length
theorem cO:type_of% @List.take_length:=@List.take_length
theorem qW:type_of% @List.take_length_add_append:=@List.take_length_add_append
theorem jw:type_of% @List.take_of_length_le:=@List.take_of_length_le
theorem dA:type_of% @Nat.add_assoc:=@Nat.add_assoc
theorem i_:type_of% @Nat.add_mul:=@Nat.add_mul
theorem mf:type_of% @Nat.add_sub_cancel_left:=@Nat.add_sub_cancel_left
theorem dL:type_of% @Nat.add_zero:=@Nat.add_zero
theorem px:type_of% @Nat.eq_of_beq_eq_true:=@Nat.eq_of_beq_eq_true
theorem bH:type_of% @Nat.le_refl:=@Nat.le_refl
theorem dB:type_of% @Nat.le_trans:=@Nat.le_trans
theorem nU:type_of% @Nat.lt_of_le_of_ne:=@Nat.lt_of_le_of_ne
theorem iA:type_of% @Nat.min_eq_left:=@Nat.min_eq_left
theorem py:type_of% @Nat.mul_le_mul_right:=@Nat.mul_le_mul_right
theorem fB:type_of% @Nat.mul_one:=@Nat.mul_one
theorem dq:type_of% @Nat.sub_self:=@Nat.sub_self
theorem dM:type_of% @Nat.zero_add:=@Nat.zero_add
theorem aY:type_of% @Nat.zero_le:=@Nat.zero_le
theorem dF:type_of% @Option.getD_some:=@Option.getD_some
theorem cT:type_of% @Option.map_eq_some_iff:=@Option.map_eq_some_iff
theorem bz:type_of% @Option.map_some:=@Option.map_some
theorem be:type_of% @Option.some.inj:=@Option.some.inj
theorem bW:type_of% @Option.some.injEq:=@Option.some.injEq
theorem lr:type_of% @Option.toList_some:=@Option.toList_some
def FW(ro:Option Nat):Fence:={fn:=λ_=>True,depth:=none,alive:=false,round:=ro}
structure Fr(N:Nat)(ds:List Deferred)(L:List (Nat×Value))(a:Act):Prop where
 size:a.tmps.size=N
 defers:a.defers=ds
 slot:∀p∈L,a.tmps[p.1]?=some p.2
section
variable {N:Nat} {ds:List Deferred} {L:List (Nat×Value)} {a:Act}
theorem Fr.put(h:Fr N ds L a){d:Nat}(hd:d.blt N=true)(v:Value)(eH:∀p∈L,¬p.1=d):Fr N ds ((d,v)::L) (a.put (some d) v):=by
 have hd:d<N:=by simpa using hd
 refine⟨by simp[Act.put,h.size],by simpa[Act.put]using h.defers,λp hp=>?_⟩;rcases bJ.1 hp with rfl|hp
 ·simp[Act.put,h.size,hd]
 ·have h1:=eH p hp
  simp only[Act.put];rw[Array.getElem?_setIfInBounds,if_neg ag];exact h.slot p hp
def wy(L:List (Nat×Value)):List (Nat×Value)->Prop
 |[]=>True
 |p::r=>L.lookup p.1=some p.2/\wy L r
theorem Cy{L:List (Nat×Value)}{s:Nat}{v:Value}(h:L.lookup s=some v):(s,v)∈L:=by
 induction L with
 |nil=>simp[List.lookup]at h
 |cons p r ih=>
  obtain⟨k,u⟩:=p;simp only[List.lookup_cons]at h
  by_cases e:s=k
  ·subst e
   simp at h;subst h;simp
  ·have:(s==k)=false:=by simpa using e
   simp only[this]at h;exact cJ _ (ih h)
theorem Fr.to(h:Fr N ds L a){L':List (Nat×Value)}(hs:wy L L'):Fr N ds L' a:=by
 refine⟨h.size,h.defers,λp hp=>?_⟩
 induction L' with
 |nil=>simp at hp
 |cons q r ih=>
  obtain⟨h1,h2⟩:=hs;rcases bJ.1 hp with rfl|hp
  ·exact h.slot p (Cy h1)
  ·exact ih h2 hp
end
structure lL(S:Nat->Prop)(w w':World):Prop where
 os:w'.os=w.os
 tape:w'.tape=w.tape
 output:w'.output=w.output
 size:w.heap.size<=w'.heap.size
 block:∀k,k<w.heap.size->¬S k->w'.heap[k]?=w.heap[k]?
def dh:Nat->Prop:=λ_=>False
theorem lL.refl(S:Nat->Prop)(w:World):lL S w w:=⟨rfl,rfl,rfl,bH _,λ_ _ _=>rfl⟩
theorem lL.trans{S:Nat->Prop}{a b c:World}(h:lL S a b)(k:lL S b c):lL S a c:=
 ⟨k.os.trans h.os,k.tape.trans h.tape,k.output.trans h.output,dB h.size k.size,λi hi hS=>(k.block i (by have:=h.size;omega) hS).trans (h.block i hi hS)⟩
theorem lL.mono{S T:Nat->Prop}{w w':World}(h:lL S w w')(hs:∀b,b<w.heap.size->S b->T b):lL T w w':=
 ⟨h.os,h.tape,h.output,h.size,λk hk hT=>h.block k hk λhS=>hT (hs k hk hS)⟩
theorem lL.below{w w':World}(h:lL dh w w'):Below w.heap.size w w':=⟨h.os,h.tape,h.output,h.size,λk hk=>h.block k hk (λh=>h)⟩
theorem lL.heap{w w':World}(ho:w'.os=w.os)(ht:w'.tape=w.tape)(hp:w'.output=w.output)(h:w'.heap=w.heap)(S:Nat->Prop):lL S w w':=⟨ho,ht,hp,by rw[h];exact bH _,λ_ _ _=>by rw[h]⟩
theorem lL.alloc(w:World)(o:Obj)(S:Nat->Prop):lL S w (w.alloc o):=⟨rfl,rfl,rfl,by simp,λk hk _=>Below.heap_alloc w o k hk⟩
theorem lL.setCell(w:World)(p:Addr)(v:Value):lL (λb=>b=p.block) w (w.setCell p v):=
 ⟨rfl,rfl,rfl,by simp[World.setCell],λk _ hk=>Below.heap_setCell w p v k hk⟩
structure bN where
 fp:Nat->Prop
 ok:World->Prop
def aj(b:Nat)(cs:List Value)(t:TypeId):bN:=⟨λk=>k=b,λw=>w.heap[b]?=some (.cells cs.toArray t (0,0))⟩
def cF(H:List bN):Nat->Prop:=λb=>∃e∈H,e.fp b
structure Wd(S:Nat->Prop)(w0:World)(H:List bN)(w:World):Prop where
 cE:lL S w0 w
 own:∀e∈H,∀b,e.fp b->(S b∨w0.heap.size<=b)/\b<w.heap.size
 ok:∀e∈H,∀w':World,w.heap.size<=w'.heap.size->(∀b,e.fp b->w'.heap[b]?=w.heap[b]?)->e.ok w'
 apart:H.Pairwise λe f=>∀b,e.fp b->¬f.fp b
section
variable {S:Nat->Prop} {w0 w w':World} {H H1 H' E:List bN}
theorem Wd.nil(S:Nat->Prop)(w:World):Wd S w [] w:=⟨lL.refl _ _,by simp,by simp,by simp⟩
theorem Wd.get(h:Wd S w0 H w){k:Nat}{e:bN}(hk:H[k]?=some e):e.ok w:=h.ok e (aA hk) w (bH _) λ_ _=>rfl
theorem Wd.size(h:Wd S w0 H w):w0.heap.size<=w.heap.size:=h.cE.size
theorem Wd.sub(h:Wd S w0 H w)(hs:H'.Sublist H):Wd S w0 H' w:=
 ⟨h.cE,λe he=>h.own e (hs.subset he),λe he=>h.ok e (hs.subset he),h.apart.sublist hs⟩
theorem Wd.perm(h:Wd S w0 H w)(hp:H.Perm H'):Wd S w0 H' w:=
 ⟨h.cE,λe he=>h.own e (hp.mem_iff.2 he),λe he=>h.ok e (hp.mem_iff.2 he),
  (hp.pairwise_iff (λTK b hy hx=>TK b hx hy)).1 h.apart⟩
theorem Wd.pre(h:Wd S w0 (H1++H) w):Wd (cF H1) w H1 w:=
 ⟨lL.refl _ _,λe he b hb=>⟨.inl ⟨e,he,hb⟩,(h.own e (cC _ he) b hb).2⟩,λe he=>h.ok e (cC _ he),(nO.1 h.apart).1⟩
theorem Wd.comp(h:Wd S w0 (H1++H) w)(hc:Wd (cF H1) w E w'):Wd S w0 (E++H) w':=by
 have hS:∀b,cF H1 b->S b∨w0.heap.size<=b:=λb ⟨e,he,hb⟩=>(h.own e (cC _ he) b hb).1;have wR:=(nO.1 h.apart);have oj:=h.cE.size;have abF:=hc.cE.size;have cu:∀f∈H,∀b,f.fp b->w'.heap[b]?=w.heap[b]?:=λf hf b hb=>
  hc.cE.block b (h.own f (dt _ hf) b hb).2 λ⟨e,he,ID⟩=>wR.2.2 e he f hf b ID hb
 refine⟨⟨hc.cE.os.trans h.cE.os,hc.cE.tape.trans h.cE.tape,hc.cE.output.trans h.cE.output,dB oj abF,λk hk Zn=>?_⟩,?_,?_,?_⟩
 ·exact(hc.cE.block k ag λhf=>(hS k hf).elim Zn λh1=>ag).trans (h.cE.block k hk Zn)
 ·intro e he b hb
  rcases bL.1 he with he|he
  ·have h1:=hc.own e he b hb
   exact⟨h1.1.elim (hS b) λh2=>.inr ag,h1.2⟩
  ·have h1:=h.own e (dt _ he) b hb
   exact⟨h1.1,ag⟩
 ·intro e he w2 NF jl
  rcases bL.1 he with he|he
  ·exact hc.ok e he w2 NF jl
  ·exact h.ok e (dt _ he) w2 (dB abF NF) λb hb=>(jl b hb).trans (cu e he b hb)
 ·refine nO.2 ⟨hc.apart,wR.2.1,λe he f hf b hb wj=>?_⟩
  have bT:=(h.own f (dt _ hf) b wj).2;rcases(hc.own e he b hb).1 with⟨g,hg,hgb⟩|h1
  ·exact wR.2.2 g hg f hf b hgb wj
  ·omega
theorem Wd.same(h:Wd S w0 H w)(ho:w'.os=w.os)(ht:w'.tape=w.tape)(hp:w'.output=w.output)(hh:w'.heap=w.heap):Wd S w0 H w':=
 ⟨h.cE.trans (lL.heap ho ht hp hh S),by rw[hh];exact h.own,λe he w2 NF jl=>h.ok e he w2 (by rw[hh]at NF;exact NF) (by rw[hh]at jl;exact jl),h.apart⟩
theorem Wd.more(h:Wd S w0 H w)(hc:Wd dh w E w'):Wd S w0 (E++H) w':=by
 refine Wd.comp (H1:=[]) h ⟨hc.cE.mono (λb _ hb=>hb.elim),λe he b hb=>?_,hc.ok,hc.apart⟩;have:=hc.own e he b hb;exact⟨.inr (this.1.elim (λh=>h.elim) id),this.2⟩
theorem Wd.call(h:Wd S w0 H w)(hc:lL dh w w'):Wd S w0 H w':=
 Wd.more (E:=[]) h ⟨hc,by simp,by simp,by simp⟩
theorem Wd.box(h:Wd S w0 H w)(cs:List Value)(t:TypeId):Wd S w0 (aj w.heap.size cs t::H) (w.alloc (.cells cs.toArray t)):=by
 refine Wd.more (E:=[aj w.heap.size cs t]) h ⟨lL.alloc _ _ _,?_,?_,by simp⟩
 ·intro e he b hb
  simp only[bU]at he;subst he;simp only[aj]at hb;subst hb;exact⟨.inr (bH _),by simp⟩
 ·intro e he w2 _ jl
  simp only[bU]at he;subst he;have:=jl w.heap.size rfl;simp only[aj];rw[this];exact heap_alloc_new w _
theorem YV{e e':bN}(hc:lL e.fp w w')(ho:∀b,e'.fp b->(e.fp b∨w.heap.size<=b)/\b<w'.heap.size)(cW:∀w2:World,(∀b,e'.fp b->w2.heap[b]?=w'.heap[b]?)->e'.ok w2):Wd (cF [e]) w [e'] w':=by
 refine⟨hc.mono λb _ hb=>⟨e,by simp,hb⟩,?_,?_,by simp⟩
 ·intro f hf b hb
  simp only[bU]at hf;subst hf;have:=ho b hb;exact⟨this.1.imp (λh=>⟨e,by simp,h⟩) id,this.2⟩
 ·intro f hf
  simp only[bU]at hf;subst hf;exact λw2 _ h=>cW w2 h
theorem Wd.aeN{e e':bN}(h:Wd S w0 (e::H) w)(hc:lL e.fp w w')(ho:∀b,e'.fp b->(e.fp b∨w.heap.size<=b)/\b<w'.heap.size)(cW:∀w2:World,(∀b,e'.fp b->w2.heap[b]?=w'.heap[b]?)->e'.ok w2):Wd S w0 (e'::H) w':=
 Wd.comp (H1:=[e]) (E:=[e']) h (YV hc ho cW)
theorem Bw{α:Type}{l:List α}{k:Nat}{e:α}(h:l[k]?=some e)(e':α):(e'::l.eraseIdx k).Perm (l.set k e'):=by
 induction l generalizing k with
 |nil=>simp at h
 |cons x r ih=>
  cases k with
  |zero=>simp
  |succ k=>
   simp only[nK]at h;simp only[List.eraseIdx_cons_succ,cn];exact(List.Perm.swap x e' _).trans ((ih h).cons x)
theorem jz{α:Type}{l:List α}{k:Nat}{e:α}(h:l[k]?=some e):l.Perm (e::l.eraseIdx k):=by
 have:=Bw h e;have hs:l.set k e=l:=by
  apply cf;intro i;rw[dQ]
  split
  ·rename_i hi;subst hi;split
   ·exact h.symm
   ·rename_i bT;rw[bM ag]
  ·rfl
 rw[hs]at this;exact this.symm
theorem Wd.kf{k:Nat}{e e':bN}(h:Wd S w0 H w)(hk:H[k]?=some e)(hc:lL e.fp w w')(ho:∀b,e'.fp b->(e.fp b∨w.heap.size<=b)/\b<w'.heap.size)(cW:∀w2:World,(∀b,e'.fp b->w2.heap[b]?=w'.heap[b]?)->e'.ok w2):Wd S w0 (H.set k e') w':=
 ((h.perm (jz hk)).aeN hc ho cW).perm (Bw hk e')
theorem Wd.zL(h:Wd S w0 H w){p:Addr}{v:Value}(hc:w0.cell? p=some v)(hS:¬S p.block:=by exact λh=>h):w.cell? p=some v:=by
 have bT:=World.block_lt_of_cell? w0 p hc;rw[<-hc];exact World.cell?_of_block (h.cE.block _ bT hS)
theorem Wd.mj(h:Wd S w0 H w)(k:Nat){b o:Nat}{cs:List Value}{t:TypeId}{v:Value}(hk:H[k]?=some (aj b cs t))(hc:cs[o]?=some v):w.cell? ⟨b,o,none⟩=some v:=by
 have:=h.get hk;simp only[aj]at this;simp[World.cell?,this,hc]
theorem Wd.Ah(h:Wd S w0 H w)(k:Nat){b:Nat}{cs:List Value}{t:TypeId}(hk:H[k]?=some (aj b cs t)):w.heap[b]?=some (.cells cs.toArray t (0,0)):=h.get hk
theorem vf{w:World}{b o:Nat}{cs:List Value}{t:TypeId}(hb:w.heap[b]?=some (.cells cs.toArray t (0,0)))(v:Value):
  (w.setCell ⟨b,o,none⟩ v).heap[b]?=some (.cells (cs.set o v).toArray t (0,0)):=by
 simp[World.setCell,Array.getElem?_modify,hb]
theorem Wd.Jz(h:Wd S w0 H w)(k:Nat){b o:Nat}{cs:List Value}{t:TypeId}(v:Value)(hk:H[k]?=some (aj b cs t)):
  Wd S w0 (H.set k (aj b (cs.set o v) t)) (w.setCell ⟨b,o,none⟩ v):=by
 have hb:=h.Ah k hk;have bT:b<w.heap.size:=(fI.1 hb).1;refine h.kf hk (lL.setCell w ⟨b,o,none⟩ v) (λb' mL=>?_) λw2 jl=>?_
 ·simp only[aj]at mL⊢
  subst mL;exact⟨.inl rfl,by simpa[World.setCell]using bT⟩
 ·have:=jl b rfl
  simp only[aj];rw[this];exact vf hb v
theorem Wd.Rg(h:Wd S w0 H w)(k:Nat){b:Nat}{cs:List Value}{t:TypeId}(vs:List Value)(hk:H[k]?=some (aj b cs t)):
  Wd S w0 (H.set k (aj b vs t)) (w.setRow b vs.toArray):=by
 have hb:=h.Ah k hk;have bT:b<w.heap.size:=(fI.1 hb).1;have oj:(w.setRow b vs.toArray).heap.size=w.heap.size:=by simp[World.setRow]
 refine h.kf hk ⟨rfl,rfl,rfl,by rw[oj];exact bH _,λk _ hk=>setRow_other w b k _ hk⟩ (λb' mL=>?_) λw2 jl=>?_
 ·simp only[aj]at mL⊢
  subst mL;exact⟨.inl rfl,by rw[oj];exact bT⟩
 ·have:=jl b rfl
  simp only[aj];rw[this];exact setRow_heap w b cs.toArray _ t _ hb
end
class dm{α:Type}(l:List α)(k:Nat)(x:outParam α):Prop where
 at':l[k]?=some x
instance{α:Type}(x:α)(l:List α):dm (x::l) 0 x:=⟨rfl⟩
instance{α:Type}(x y:α)(l:List α)(k:Nat)[h:dm l k x]:dm (y::l) (k+1) x:=⟨h.at'⟩
class qi{α:Type}(l:List α)(k:Nat)(x:α)(l':outParam (List α)):Prop where
 zG:l.set k x=l'
instance{α:Type}(x y:α)(l:List α):qi (y::l) 0 x (x::l):=⟨rfl⟩
instance{α:Type}(x y:α)(l l':List α)(k:Nat)[h:qi l k x l']:qi (y::l) (k+1) x (y::l'):=⟨by rw[cn,h.zG]⟩
class kx{α:Type}(l:List α)(n:Nat):Prop where
 eq:l.length=n
instance{α:Type}:kx ([]:List α) 0:=⟨rfl⟩
instance{α:Type}(x:α)(l:List α)(n:Nat)[h:kx l n]:kx (x::l) (n+1):=⟨by rw[ie,h.eq]⟩
class l7(H:List bN)(b:Nat)(k:outParam Nat)(cs:outParam (List Value))(t:outParam TypeId):Prop where
 at':H[k]?=some (aj b cs t)
instance(b:Nat)(cs:List Value)(t:TypeId)(H:List bN):l7 (aj b cs t::H) b 0 cs t:=⟨rfl⟩
instance(b:Nat)(cs:List Value)(t:TypeId)(H:List bN)(e:bN)(k:Nat)[h:l7 H b k cs t]:l7 (e::H) b (k+1) cs t:=⟨h.at'⟩
class iG(v:Value)(cs:outParam (List Value)):Prop where
 eq:v.cells.toList=cs
instance(l:List Value):iG (.agg l.toArray) l:=⟨rfl⟩
instance(b:Bool):iG (.bool b) [.bool b]:=⟨rfl⟩
instance(k:IntKind)(n:Int):iG (.int k n) [.int k n]:=⟨rfl⟩
instance(s:ByteArray):iG (.string s) [.string s]:=⟨rfl⟩
instance(p:Option Addr):iG (.pointer p) [.pointer p]:=⟨rfl⟩
instance(p:Option Addr)(n c:Nat):iG (.slice p n c) [.slice p n c]:=⟨rfl⟩
instance:iG .nilFunc [.nilFunc]:=⟨rfl⟩
def rC:List Value->Nat->List Value->List Value
 |cs,_,[]=>cs
 |[],_,_::_=>[]
 |_::cs,0,v::vs=>v::rC cs 0 vs
 |c::cs,o+1,v::vs=>c::rC cs o (v::vs)
class yM(cs:List Value)(o:Nat)(vs:List Value)(rV:outParam (List Value)):Prop where
 eq:rC cs o vs=rV
 le:o+vs.length<=cs.length
instance(cs:List Value):yM cs 0 [] cs:=⟨by cases cs<;>rfl,by simp⟩
instance(c v:Value)(cs vs rV:List Value)[h:yM cs 0 vs rV]:yM (c::cs) 0 (v::vs) (v::rV):=⟨by simp only[rC,h.eq],by have:=h.le;simp at this⊢;omega⟩
instance(c v:Value)(cs vs rV:List Value)(o:Nat)[h:yM cs o (v::vs) rV]:yM (c::cs) (o+1) (v::vs) (c::rV):=⟨by simp only[rC,h.eq],by have:=h.le;simp at this⊢;omega⟩
theorem xe:∀(cs:List Value) (o:Nat) (vs:List Value),o+vs.length<=cs.length->cs.take o++vs++cs.drop (o+vs.length)=rC cs o vs
 |[],o,[],h=>by simp[rC]
 |c::cs,o,[],h=>by simp[rC]
 |[],_,_::_,h=>by simp at h
 |c::cs,0,v::vs,h=>by
  have:=xe cs 0 vs (by simp at h⊢;omega);simp[rC]at this⊢;exact this
 |c::cs,o+1,v::vs,h=>by
  have:=xe cs o (v::vs) (by simp at h⊢;omega);simp only[rC];rw[<-this];have e:o+1+(v::vs).length=(o+(v::vs).length)+1:=ag;rw[e];simp
class DH(places:List (Nat×Nat))(cs:List Value)(parts:List (Nat×Value))(rV:outParam (List Value)):Prop where
 eq:Instr.fill (λi=>places[i]?) cs.toArray parts=some rV.toArray
theorem xK:∀(vs:List Value) (cs:List Value) (o j:Nat),o+j+vs.length<=cs.length->
  (vs.zipIdx j).foldl (λ(a:Array Value) (p:Value×Nat)=>a.setIfInBounds (o+p.2) p.1) cs.toArray=(rC cs (o+j) vs).toArray
 |[],cs,o,j,_=>by cases cs<;>simp[rC]
 |v::vs,cs,o,j,hl=>by
  simp only[List.zipIdx_cons,fF];rw[show cs.toArray.setIfInBounds (o+j) v=(cs.set (o+j) v).toArray by simp];rw[xK vs (cs.set (o+j) v) o (j+1) (by simp at hl⊢;omega)];congr 1;have key:∀(cs:List Value) (k:Nat),k+(v::vs).length<=cs.length->rC (cs.set k v) (k+1) vs=rC cs k (v::vs):=by
   intro cs
   induction cs with
   |nil=>intro k hk;simp at hk
   |cons c cs ih=>
    intro k hk;cases k with
    |zero=>
     cases vs with
     |nil=>cases cs<;>simp[rC]
     |cons u us=>simp[rC]
    |succ k=>
     cases vs with
     |nil=>
      have:=ih k (by simp at hk⊢;omega);simp only[cn,rC];rw[<-this];cases cs.set k v<;>simp[rC]
     |cons u us=>
      have:=ih k (by simp at hk⊢;omega);simp only[cn,rC];rw[<-this]
  exact key cs (o+j) (by simp at hl⊢;omega)
instance(places:List (Nat×Nat))(cs:List Value):DH places cs [] cs:=⟨rfl⟩
instance(places:List (Nat×Nat))(cs vs cs1 CN:List Value)(i off size:Nat)(v:Value)(r:List (Nat×Value))[hp:dm places i (off,size)][hv:iG v vs][hq:yM cs off vs cs1][hl:kx vs size][hr:DH places cs1 r CN]:DH places cs ((i,v)::r) CN:=⟨by
 have hlen:v.cells.size=size:=by rw[<-Array.length_toList,hv.eq,hl.eq]
 have hle:=hq.le
 have eH:¬((decide (v.cells.size≠size)||decide (off+v.cells.size>cs.toArray.size))=true):=by
  simp[hlen]
  rw[<-hl.eq];omega
 simp only[Instr.fill,hp.at']
 rw[if_neg eH]
 have hz:v.cells.zipIdx.foldl (λcs (x:Value×Nat)=>cs.setIfInBounds (off+x.2) x.1) cs.toArray=cs1.toArray:=by
  have e:v.cells=vs.toArray:=by rw[<-hv.eq]
  rw[e]
  have:=xK vs cs off 0 ag
  rw[<-hq.eq]
  simpa using this
 rw[hz]
 exact hr.eq⟩
structure cm where
 bD:Bool
 n:Int
 deriving DecidableEq
structure en where
 op:Int
 dst:Int
 a:cm
 b:cm
 fn:Int
 args:List cm
 deriving DecidableEq
structure eC where
 dst:Int
 src:List cm
 deriving DecidableEq
structure ar where
 aL:List eC
 list:List en
 kind:Int
 on:cm
 to:List Int
 deriving DecidableEq
structure aZ where
 name:ByteArray
 params:Int
 aF:Int
 blocks:List ar
structure iY where
 name:ByteArray
 size:Int
 init:List Int
structure a7 where
 globals:List iY
 funcs:List aZ
def c9(x:Int):Prop:=-9223372036854775808<=x/\x<=9223372036854775807
def bG(w:World)(b o:Nat)(cs:List Value):Prop:=∀j v,cs[j]?=some v->w.cell? ⟨b,o+j,none⟩=some v
def aM{α:Type}(w:World)(v:Value)(s:Nat)(l:List α)(V:World->α->List Value->Prop):Prop:=
 ∃(a:Option Addr) (n c b o:Nat),v=.slice a n c/\n=l.length/\n<=c/\n<=140737488355328/\c<=9223372036854775807/\(l≠[]->a=some ⟨b,o,none⟩)/\∀i x,l[i]?=some x->∃cs,bG w b (o+i*s) cs/\V w x cs
def fj(_:World)(x:Int)(cs:List Value):Prop:=cs=[.int .i64 x]/\c9 x
def yL(_:World)(x:Bool)(cs:List Value):Prop:=cs=[.bool x]
def NW(_:World)(x:ByteArray)(cs:List Value):Prop:=cs=[.string x]
def l9(_:World)(x:cm)(cs:List Value):Prop:=cs=[.bool x.bD,.int .i64 x.n]/\c9 x.n
def DN(w:World)(x:eC)(cs:List Value):Prop:=∃v,cs=[.int .i64 x.dst,v]/\c9 x.dst/\aM w v 2 x.src l9
def DK(w:World)(x:en)(cs:List Value):Prop:=∃v,cs=[.int .i64 x.op,.int .i64 x.dst,.bool x.a.bD,.int .i64 x.a.n,.bool x.b.bD,.int .i64 x.b.n,.int .i64 x.fn,v]/\
 c9 x.op/\c9 x.dst/\c9 x.a.n/\c9 x.b.n/\c9 x.fn/\aM w v 2 x.args l9
def ed(w:World)(x:ar)(cs:List Value):Prop:=∃p l t,cs=[p,l,.int .i64 x.kind,.bool x.on.bD,.int .i64 x.on.n,t]/\c9 x.kind/\c9 x.on.n/\
 aM w p 2 x.aL DN/\aM w l 8 x.list DK/\aM w t 1 x.to fj
def gg(w:World)(x:aZ)(cs:List Value):Prop:=∃v,cs=[.string x.name,.int .i64 x.params,.int .i64 x.aF,v]/\c9 x.params/\c9 x.aF/\aM w v 6 x.blocks ed
def fE(w:World)(x:iY)(cs:List Value):Prop:=∃v,cs=[.string x.name,.int .i64 x.size,v]/\c9 x.size/\aM w v 1 x.init fj
theorem fU{w w':World}(h:lL dh w w'){p:Addr}{v:Value}(hc:w.cell? p=some v):w'.cell? p=some v:=by
 rw[<-hc];exact World.cell?_of_block (h.block _ (World.block_lt_of_cell? w p hc) λh=>h)
theorem bG.cu{w w':World}(h:lL dh w w'){b o:Nat}{cs:List Value}(hc:bG w b o cs):bG w' b o cs:=λj v hj=>fU h (hc j v hj)
def uW{α:Type}(V:World->α->List Value->Prop):Prop:=∀w w',lL dh w w'->∀x cs,V w x cs->V w' x cs
theorem aM.cu{α:Type}{V:World->α->List Value->Prop}(hV:uW V){w w':World}(h:lL dh w w'){v:Value}{s:Nat}{l:List α}(hs:aM w v s l V):aM w' v s l V:=by
 obtain⟨a,n,c,b,o,h1,h2,h3,hz,h4,h5,h6⟩:=hs;refine⟨a,n,c,b,o,h1,h2,h3,hz,h4,h5,λi x hx=>?_⟩;obtain⟨cs,hc,hv⟩:=h6 i x hx;exact⟨cs,hc.cu h,hV w w' h x cs hv⟩
theorem eK:uW fj:=λ_ _ _ _ _ h=>h
theorem IZ:uW yL:=λ_ _ _ _ _ h=>h
theorem Dg:uW NW:=λ_ _ _ _ _ h=>h
theorem rm:uW l9:=λ_ _ _ _ _ h=>h
theorem x9:uW DN:=λ_ _ hc _ _ ⟨v,h1,h2,h3⟩=>⟨v,h1,h2,h3.cu rm hc⟩
theorem Df:uW DK:=λ_ _ hc _ _ ⟨v,h1,h2,h3,h4,h5,h6,h7⟩=>⟨v,h1,h2,h3,h4,h5,h6,h7.cu rm hc⟩
theorem fh:uW ed:=λ_ _ hc _ _ ⟨p,l,t,h1,h2,h3,h4,h5,h6⟩=>⟨p,l,t,h1,h2,h3,h4.cu x9 hc,h5.cu Df hc,h6.cu eK hc⟩
theorem dk:uW gg:=λ_ _ hc _ _ ⟨v,h1,h2,h3,h4⟩=>⟨v,h1,h2,h3,h4.cu fh hc⟩
theorem dv:uW fE:=λ_ _ hc _ _ ⟨v,h1,h2,h3⟩=>⟨v,h1,h2,h3.cu eK hc⟩
structure St(N:Nat)(ds:List Deferred)(S:Nat->Prop)(w0:World)(L:List (Nat×Value))(H:List bN)(a:Act)(w:World):Prop where
 fr:Fr N ds L a
 wd:Wd S w0 H w
def G(N:Nat)(ds:List Deferred)(S:Nat->Prop)(w0:World)(L:List (Nat×Value))(H:List bN)(p:Act->World->Prop):Prop:=∀a w,St N ds S w0 L H a w->p a w
class bV(P:Program)(T i:Nat)(off:outParam Nat):Prop where
 run:∀(b o:Nat) (w:World),(Instr.fieldAt T (.pointer (some ⟨b,o,none⟩)) i).run P w=.ok (.pointer (some ⟨b,o+off,none⟩)) w
class ep(P:Program)(T:Nat)(s:outParam Nat):Prop where
 oI:P.underlying T=some (.slice (P.elem T))
 sz:∀w:World,(sizeOf (P.elem T)).run P w=.ok s w
class OneCell(P:Program)(T:Nat):Prop where
 agg:∀w:World,(isAgg T).run P w=.ok false w
 sz:∀w:World,(sizeOf T).run P w=.ok 1 w
class d_(P:Program)(T:Nat)(n:outParam Nat):Prop where
 agg:∀w:World,(isAgg T).run P w=.ok true w
 sz:∀w:World,(sizeOf T).run P w=.ok n w
class gN(P:Program)(T:Nat)(z:outParam Value):Prop where
 run:∀w:World,(zeroValue T).run P w=.ok z w
class aS(P:Program)(f:Nat):Prop where
 run:∀(args:Array Value) (w:World),(callFunc f args).run P w=.ok (.enter f args) w
class iz(P:Program)(T:Nat)(zs:outParam (List Value))(places:outParam (List (Nat×Nat))):Prop where
 built:∀parts cells,Instr.fill (λi=>places[i]?) zs.toArray parts=some cells->P.built T parts=some cells
class z_(P:Program)(T:Nat)(u v:Value)(r:outParam Bool):Prop where
 grd:∀op x y w,(eqGuard op T x y u v).run P w=.ok () w
 eq:∀w:World,(binOp .eql T u v).run P w=.ok (.bool r) w
 ne:∀w:World,(binOp .neq T u v).run P w=.ok (.bool (!r)) w
class xD(w:World)(b o:Nat)(v:outParam Value):Prop where
 eq:w.cell? ⟨b,o,none⟩=some v
class a_(w:World)(b o:Nat)(cs:outParam (List Value)):Prop where
 eq:bG w b o cs
instance(priority:=high){w:World}{b o j:Nat}{cs:List Value}{v:Value}[h:a_ w b o cs][hv:dm cs j v]:xD w b (o+j) v:=⟨h.eq j v hv.at'⟩
instance{w:World}{b o:Nat}{cs:List Value}{v:Value}[h:a_ w b o cs][hv:dm cs 0 v]:xD w b o v:=⟨h.eq 0 v hv.at'⟩
class bY(a:Option Addr)(b o:outParam Nat):Prop where
 eq:a=some ⟨b,o,none⟩
instance(b o:Nat):bY (some ⟨b,o,none⟩) b o:=⟨rfl⟩
class bZ(i n:Nat):Prop where
 lt:i<n
class ky(x:Int)(i:outParam Nat):Prop where
 eq:x=(i:Int)
instance(i:Nat):ky (i:Int) i:=⟨rfl⟩
instance:ky 0 0:=⟨rfl⟩
instance:ky 1 1:=⟨rfl⟩
class zj(o k:Nat)(s:outParam Nat):Prop where
 eq:o+k=s
instance(priority:=2000)(o:Nat):zj o 0 o:=⟨rfl⟩
instance(priority:=1900)(k:Nat):zj 0 k k:=⟨dM k⟩
instance(priority:=3000):zj 2 1 3:=⟨rfl⟩
instance(priority:=3000):zj 2 2 4:=⟨rfl⟩
instance(priority:=3000):zj 2 3 5:=⟨rfl⟩
instance(priority:=2500)(o:Nat):zj (o+2) 1 (o+3):=⟨rfl⟩
instance(priority:=2500)(o:Nat):zj (o+2) 3 (o+5):=⟨rfl⟩
instance(o k:Nat):zj o k (o+k):=⟨rfl⟩
class Fh(b:Bool)(c:outParam Bool):Prop where
 eq:(!b)=c
instance(priority:=2000):Fh true false:=⟨rfl⟩
instance(priority:=2000):Fh false true:=⟨rfl⟩
instance(b:Bool):Fh b (!b):=⟨rfl⟩
class gF(L:List (Nat×Value))(t:Nat)(v:outParam Value):Prop where
 mem:(t,v)∈L
instance(t:Nat)(v:Value)(L:List (Nat×Value)):gF ((t,v)::L) t v:=⟨by simp⟩
instance(t:Nat)(v:Value)(p:Nat×Value)(L:List (Nat×Value))[h:gF L t v]:gF (p::L) t v:=⟨cJ _ h.mem⟩
class Ev(L:List (Nat×Value))(x:Operand)(v:outParam Value):Prop where
 eq:∀(N:Nat) (ds:List Deferred) (a:Act),Fr N ds L a->a.eval x=v
instance(L:List (Nat×Value))(t:Nat)(v:Value)[h:gF L t v]:Ev L (.tmp t) v:=⟨λ_ _ a hF=>by simp[Act.eval,sZ,hF.slot _ h.mem]⟩
instance(L:List (Nat×Value))(v:Value):Ev L (.const v) v:=⟨λ_ _ _ _=>rfl⟩
instance(L:List (Nat×Value))(g:Nat):Ev L (.global g) (.pointer (some ⟨g,0,none⟩)):=⟨λ_ _ _ _=>rfl⟩
instance(L:List (Nat×Value))(f:Nat):Ev L (.func f) (.func (.func f) #[] #[]):=⟨λ_ _ _ _=>rfl⟩
class zk(L:List (Nat×Value))(xs:List Operand)(vs:outParam (List Value)):Prop where
 eq:∀(N:Nat) (ds:List Deferred) (a:Act),Fr N ds L a->xs.map a.eval=vs
instance(L:List (Nat×Value)):zk L [] []:=⟨λ_ _ _ _=>rfl⟩
instance(L:List (Nat×Value))(x:Operand)(v:Value)(xs:List Operand)(vs:List Value)[h:Ev L x v][hs:zk L xs vs]:zk L (x::xs) (v::vs):=⟨λN ds a hF=>by rw[bO,h.eq N ds a hF,hs.eq N ds a hF]⟩
class Zx(L:List (Nat×Value))(xs:List (Nat×Operand))(vs:outParam (List (Nat×Value))):Prop where
 eq:∀(N:Nat) (ds:List Deferred) (a:Act),Fr N ds L a->xs.map (λp=>(p.1,a.eval p.2))=vs
instance(L:List (Nat×Value)):Zx L [] []:=⟨λ_ _ _ _=>rfl⟩
instance(L:List (Nat×Value))(i:Nat)(x:Operand)(v:Value)(xs:List (Nat×Operand))(vs:List (Nat×Value))[h:Ev L x v][hs:Zx L xs vs]:Zx L ((i,x)::xs) ((i,v)::vs):=⟨λN ds a hF=>by rw[bO,h.eq N ds a hF,hs.eq N ds a hF]⟩
class Ad(L:List (Nat×Value))(d:Nat)(L':outParam (List (Nat×Value))):Prop where
 sub:∀p∈L',p∈L
instance(d:Nat)(u:Value)(L:List (Nat×Value)):Ad ((d,u)::L) d L:=⟨λ_ h=>cJ _ h⟩
instance(d:Nat)(p:Nat×Value)(L L':List (Nat×Value))[h:Ad L d L']:Ad (p::L) d (p::L'):=⟨λq hq=>by
 rcases bJ.1 hq with rfl|hq
 ·simp
 ·exact cJ _ (h.sub q hq)⟩
section
variable {P:Program} {ro:Option Nat} {N:Nat} {ds:List Deferred} {S:Nat->Prop} {w0:World} {L L':List (Nat×Value)} {H H':List bN} {a:Act} {w:World}
 {ops:Array Oper} {rest:List Oper} {Q:Exit->Act->World->Prop} {p:Act->World->Prop}
theorem tO(ro:Option Nat)(ρ:Operand->Value)(o:Oper)(h:∀c,o.op≠ .defer c):o.semAt ro ρ=execOp ρ o:=Oper.semAt_eq ro ρ o h
theorem eG{o:Oper}{v:Value}{w':World}(hg:o.guard=none)(oh:∀c,o.op≠ .defer c)(pF:(execOp a.eval o).run P w=.ok (.value v) w')
  (hk:wpListIn (FW ro) 0 P ops Q rest (a.put o.dst v) w'):wpListIn (FW ro) 0 P ops Q (o::rest) a w:=by
 refine wpListIn_plain hg λK hK=>?_;refine⟨λ_ _=>trivial,?_⟩;rw[tO _ _ _ oh,pF];exact hK _ _ hk
theorem step_skip{o:Oper}{w':World}(hg:o.guard=none)(oh:∀c,o.op≠ .defer c)(pF:(execOp a.eval o).run P w=.ok .skip w')
  (hk:wpListIn (FW ro) 0 P ops Q rest (a.put o.dst undef) w'):wpListIn (FW ro) 0 P ops Q (o::rest) a w:=by
 refine wpListIn_plain hg λK hK=>?_;refine⟨λ_ _=>trivial,?_⟩;rw[tO _ _ _ oh,pF];exact hK _ _ hk
class dz(P:Program)(N:Nat)(ds:List Deferred)(S:Nat->Prop)(w0:World)(L:List (Nat×Value))(H:List bN)(op:Op)(v:outParam Value):Prop where
 nd:∀c,op≠ .defer c
 ns:∀cs b,op≠ .select cs b
 run:∀(d:Option Tmp) (ty:Nat) (pos:String) (aft:Array Go.Edge) (gd:Option (Nat×Bool)) a w,Fr N ds L a->Wd S w0 H w->(execOp a.eval ⟨d,op,ty,pos,aft,gd⟩).run P w=.ok (.value v) w
section
variable {x y c:Operand}
instance{v:Value}[hx:Ev L x v]:dz P N ds S w0 L H (.move x) v:=⟨λ_ h=>(by cases h),λ_ _ h=>(by cases h),λ_ _ _ _ _ a w hF _=>by simp[execOp,hx.eq _ _ _ hF]⟩
instance{v:Value}[hx:Ev L x v]:dz P N ds S w0 L H (.assign x) v:=⟨λ_ h=>(by cases h),λ_ _ h=>(by cases h),λ_ _ _ _ _ a w hF _=>by simp[execOp,hx.eq _ _ _ hF]⟩
instance{v:Value}[hc:Ev L c (.bool true)][hx:Ev L x v]:dz P N ds S w0 L H (.pick c x y) v:=⟨λ_ h=>(by cases h),λ_ _ h=>(by cases h),λ_ _ _ _ _ a w hF _=>by simp[execOp,hx.eq _ _ _ hF,hc.eq _ _ _ hF,asBool]⟩
instance{v:Value}[hc:Ev L c (.bool false)][hx:Ev L y v]:dz P N ds S w0 L H (.pick c x y) v:=⟨λ_ h=>(by cases h),λ_ _ h=>(by cases h),λ_ _ _ _ _ a w hF _=>by simp[execOp,hx.eq _ _ _ hF,hc.eq _ _ _ hF,asBool]⟩
instance{T i b o off o':Nat}[hx:Ev L x (.pointer (some ⟨b,o,none⟩))][h:bV P T i off][ho:zj o off o']:dz P N ds S w0 L H (.fieldAddr T x i) (.pointer (some ⟨b,o',none⟩)):=
 ⟨λ_ h=>(by cases h),λ_ _ h=>(by cases h),λ_ _ _ _ _ a w hF _=>by simp[execOp,hx.eq _ _ _ hF,h.run,ho.eq]⟩
instance{T b o n k i s:Nat}{ad:Option Addr}{z:Int}[hx:Ev L x (.slice ad n k)][hy:Ev L y (.int .i64 z)][ha:bY ad b o][hz:ky z i][hi:bZ i n][h:ep P T s]:dz P N ds S w0 L H (.indexAddr T x y) (.pointer (some ⟨b,o+i*s,none⟩)):=
 ⟨λ_ h=>(by cases h),λ_ _ h=>(by cases h),λ_ _ _ _ _ a w hF _=>by
  have h1:=hx.eq _ _ _ hF
  have h2:=hy.eq _ _ _ hF
  rw[ha.eq]at h1
  rw[hz.eq]at h2
  simp[execOp,h1,h2,run_indexAt_slice w T ⟨b,o,none⟩ n k .i64 i h.oI,h.sz,hi.lt,Addr.add_lit]⟩
instance{T n k s:Nat}{ad:Option Addr}[hx:Ev L x (.slice ad n k)][h:ep P T s]:dz P N ds S w0 L H (.call {callee:=.builtin .len,args:=#[x],argTypes:=#[T]}) (.int .i64 n):=
 ⟨λ_ h=>(by cases h),λ_ _ h=>(by cases h),λ_ ty _ _ _ a w hF _=>by simp[execOp,resolve,invoke,builtin,hx.eq _ _ _ hF,run_len_slice w T ty ad n k h.oI,goInt]⟩
theorem tN{T:Nat}[h:OneCell P T]{p:Addr}{v:Value}(hc:w.cell? p=some v):(Instr.loadAt T (.pointer (some p))).run P w=.ok v w:=by
 simp[Instr.loadAt,Instr.sureAddr,loadVar,h.agg,hc]
instance{T b o j t:Nat}{cs:List Value}{v:Value}[h:OneCell P T][hx:Ev L x (.pointer (some ⟨b,o,none⟩))][hb:l7 H b j cs t][hv:dm cs o v]:dz P N ds S w0 L H (.load T x) v:=
 ⟨λ_ h=>(by cases h),λ_ _ h=>(by cases h),λ_ _ _ _ _ a w hF hW=>by simp[execOp,hx.eq _ _ _ hF,tN (hW.mj j hb.at' hv.at')]⟩
class eI(S:Nat->Prop)(b:Nat):Prop where
 no:¬S b
instance(b:Nat):eI dh b:=⟨λh=>h⟩
instance{T b o:Nat}{v:Value}[h:OneCell P T][hx:Ev L x (.pointer (some ⟨b,o,none⟩))][hc:xD w0 b o v][hs:eI S b]:dz P N ds S w0 L H (.load T x) v:=
 ⟨λ_ h=>(by cases h),λ_ _ h=>(by cases h),λ_ _ _ _ _ a w hF hW=>by simp[execOp,hx.eq _ _ _ hF,tN (hW.zL hc.eq hs.no)]⟩
theorem lX{T n:Nat}[h:d_ P T n]{b o:Nat}{cs:List Value}(hn:cs.length=n)(hc:bG w b o cs):(Instr.loadAt T (.pointer (some ⟨b,o,none⟩))).run P w=.ok (.agg cs.toArray) w:=by
 subst hn;have h1:=run_loadCells_list (P:=P) w ⟨b,o,none⟩ cs (λj v hv=>by rw[Addr.add_lit];exact hc j v hv);simp[Instr.loadAt,Instr.sureAddr,loadVar,h.agg,h.sz,h1]
theorem bG.RM{b o:Nat}{cs:List Value}(h:Wd S w0 H w)(hc:bG w0 b o cs)(hS:¬S b):bG w b o cs:=λj v hv=>h.zL (hc j v hv) hS
instance{T b j t n:Nat}{cs:List Value}[h:d_ P T n][hx:Ev L x (.pointer (some ⟨b,0,none⟩))][hb:l7 H b j cs t][hn:kx cs n]:dz P N ds S w0 L H (.load T x) (.agg cs.toArray):=
 ⟨λ_ h=>(by cases h),λ_ _ h=>(by cases h),λ_ _ _ _ _ a w hF hW=>by
  have:=lX (P:=P) (T:=T) hn.eq (λi v hv=>by rw[dM];exact hW.mj j hb.at' hv:bG w b 0 cs)
  simp[execOp,hx.eq _ _ _ hF,this]⟩
instance{T b o n:Nat}{cs:List Value}[h:d_ P T n][hx:Ev L x (.pointer (some ⟨b,o,none⟩))][hc:a_ w0 b o cs][hn:kx cs n][hs:eI S b]:dz P N ds S w0 L H (.load T x) (.agg cs.toArray):=
 ⟨λ_ h=>(by cases h),λ_ _ h=>(by cases h),λ_ _ _ _ _ a w hF hW=>by simp[execOp,hx.eq _ _ _ hF,lX hn.eq (hc.eq.RM hW hs.no)]⟩
instance{T:Nat}{zs cs:List Value}{places:List (Nat×Nat)}{sG:List (Nat×Value)}{parts:List (Nat×Operand)}[h:iz P T zs places][hx:Zx L parts sG][hf:DH places zs sG cs]:dz P N ds S w0 L H (.build T parts.toArray) (.agg cs.toArray):=
 ⟨λ_ h=>(by cases h),λ_ _ h=>(by cases h),λ_ _ _ _ _ a w hF _=>by
  have e:(parts.toArray.map λ(p:Nat×Operand)=>(p.1,a.eval p.2))=sG.toArray:=by
   simp only[List.map_toArray]
   rw[hx.eq _ _ _ hF]
  have:=run_build (P:=P) w T sG.toArray cs.toArray (h.built _ _ hf.eq)
  simp only[execOp,Sem.run_bind]
  rw[e,this]
  rfl⟩
instance{fn:Fn}{xs ys:List Operand}{us vs:List Value}[hx:zk L xs us][hy:zk L ys vs]:dz P N ds S w0 L H (.makeFunc fn xs.toArray ys.toArray) (.func fn us.toArray vs.toArray):=
 ⟨λ_ h=>(by cases h),λ_ _ h=>(by cases h),λ_ _ _ _ _ a w hF _=>by
  simp only[execOp,List.map_toArray,hx.eq _ _ _ hF,hy.eq _ _ _ hF,Instr.makeFunc]
  rfl⟩
theorem uI(n:Int)(h1:-9223372036854775808<=n)(h2:n<=9223372036854775807):IntKind.i64.wrap n=n:=by
 have h:=IntWalk.i64_in n ag;exact h
theorem fu{T T2:Nat}{op:BinOp}{u v r:Value}[hx:Ev L x u][hy:Ev L y v]
  (hg:∀w,(eqGuard op T x y u v).run P w=.ok () w) (hr:∀w,(binOp op T u v).run P w=.ok r w):dz P N ds S w0 L H (.binOp op T x y T2) r:=
 ⟨λ_ h=>(by cases h),λ_ _ h=>(by cases h),λ_ _ _ _ _ a w hF _=>by simp[execOp,hx.eq _ _ _ hF,hy.eq _ _ _ hF,hg,hr]⟩
theorem Hb{T T2:Nat}{m n:Int}[hx:Ev L x (.int .i64 m)][hy:Ev L y (.int .i64 n)](h1:-9223372036854775808<=m+n)(h2:m+n<=9223372036854775807):dz P N ds S w0 L H (.binOp .add T x y T2) (.int .i64 (m+n)):=
 fu (λ_=>rfl) λw=>by rw[binOp_add];simp[Op.intArith,uI _ h1 h2]
theorem rE{T T2:Nat}{m n:Int}[hx:Ev L x (.int .i64 m)][hy:Ev L y (.int .i64 n)](h1:-9223372036854775808<=m-n)(h2:m-n<=9223372036854775807):dz P N ds S w0 L H (.binOp .sub T x y T2) (.int .i64 (m-n)):=
 fu (λ_=>rfl) λw=>by rw[binOp_sub];simp[Op.intArith,uI _ h1 h2]
instance{T T2:Nat}{m n:Int}{q:IntKind}[hx:Ev L x (.int q m)][hy:Ev L y (.int q n)]:dz P N ds S w0 L H (.binOp .lss T x y T2) (.bool (decide (m<n))):=fu (λ_=>rfl) λw=>by rw[binOp_lss];simp
instance{T T2:Nat}{m n:Int}{q:IntKind}[hx:Ev L x (.int q m)][hy:Ev L y (.int q n)]:dz P N ds S w0 L H (.binOp .leq T x y T2) (.bool (decide (m<=n))):=fu (λ_=>rfl) λw=>by rw[binOp_leq];simp
instance{T T2:Nat}{m n:Int}{q:IntKind}[hx:Ev L x (.int q m)][hy:Ev L y (.int q n)]:dz P N ds S w0 L H (.binOp .gtr T x y T2) (.bool (decide (n<m))):=fu (λ_=>rfl) λw=>by rw[binOp_gtr];simp
instance{T T2:Nat}{m n:Int}{q:IntKind}[hx:Ev L x (.int q m)][hy:Ev L y (.int q n)]:dz P N ds S w0 L H (.binOp .geq T x y T2) (.bool (decide (n<=m))):=fu (λ_=>rfl) λw=>by rw[binOp_geq];simp
instance{T T2:Nat}{m n:Int}{q:IntKind}[hx:Ev L x (.int q m)][hy:Ev L y (.int q n)]:dz P N ds S w0 L H (.binOp .eql T x y T2) (.bool (decide (m=n))):=fu (λ_=>by rw[eqGuard_at_int];rfl) λw=>by rw[binOp_eql];rfl
instance{T T2:Nat}{m n:Int}{q:IntKind}[hx:Ev L x (.int q m)][hy:Ev L y (.int q n)]:dz P N ds S w0 L H (.binOp .neq T x y T2) (.bool (!decide (m=n))):=fu (λ_=>by rw[eqGuard_at_int];rfl) λw=>by rw[binOp_neq];rfl
instance{T T2:Nat}{u v:Value}{r:Bool}[hx:Ev L x u][hy:Ev L y v][h:z_ P T u v r]:dz P N ds S w0 L H (.binOp .eql T x y T2) (.bool r):=fu (h.grd _ _ _) h.eq
instance{T T2:Nat}{u v:Value}{r:Bool}[hx:Ev L x u][hy:Ev L y v]{r':Bool}[h:z_ P T u v r][hn:Fh r r']:dz P N ds S w0 L H (.binOp .neq T x y T2) (.bool r'):=fu (h.grd _ _ _) λw=>by rw[h.ne,hn.eq]
instance{T:Nat}{b b':Bool}[hx:Ev L x (.bool b)][hn:Fh b b']:dz P N ds S w0 L H (.unOp .not T x) (.bool b'):=
 ⟨λ_ h=>(by cases h),λ_ _ h=>(by cases h),λ_ _ _ _ _ a w hF _=>by simp[execOp,hx.eq _ _ _ hF,Op.unary,hn.eq]⟩
end
def dj(d N:Nat)(L:List (Nat×Value)):Bool:=d.blt N&&L.all λp=>!Nat.beq p.1 d
theorem Fr.dP(h:Fr N ds L a){d:Nat}(hd:dj d N L=true)(v:Value):Fr N ds ((d,v)::L) (a.put (some d) v):=by
 simp only[dj,Bool.and_eq_true,List.all_eq_true]at hd;refine h.put hd.1 v λp hp e=>?_;have:=hd.2 p hp;rw[e]at this;simp at this
theorem Fr.Ry(h:Fr N ds L a)(d:Nat)[hs:Ad L d L']:Fr N ds L' a:=⟨h.size,h.defers,λp hp=>h.slot p (hs.sub p hp)⟩
theorem ms{d ty:Nat}{pos:String}{aft:Array Go.Edge}{op:Op}{v:Value}[h:dz P N ds S w0 L H op v](hd:dj d N L=true)
  (k:G N ds S w0 ((d,v)::L) H (wpListIn (FW ro) 0 P ops Q rest)):G N ds S w0 L H (wpListIn (FW ro) 0 P ops Q (⟨some d,op,ty,pos,aft,none⟩::rest)):=
 λa w hS=>eG rfl h.nd (h.run _ _ _ _ _ a w hS.fr hS.wd) (k _ _ ⟨hS.fr.dP hd v,hS.wd⟩)
theorem u6{d ty:Nat}{pos:String}{aft:Array Go.Edge}{op:Op}{v:Value}[h:dz P N ds S w0 L H op v][hs:Ad L d L'](hd:dj d N L'=true)
  (k:G N ds S w0 ((d,v)::L') H (wpListIn (FW ro) 0 P ops Q rest)):G N ds S w0 L H (wpListIn (FW ro) 0 P ops Q (⟨some d,op,ty,pos,aft,none⟩::rest)):=
 λa w hS=>eG rfl h.nd (h.run _ _ _ _ _ a w hS.fr hS.wd) (k _ _ ⟨(hS.fr.Ry (L':=L') d).dP hd v,hS.wd⟩)
theorem On(d:Nat)[hs:Ad L d L'](k:G N ds S w0 L' H p):G N ds S w0 L H p:=λa w hS=>k a w ⟨hS.fr.Ry d,hS.wd⟩
theorem u5{d ty T T2:Nat}{pos:String}{aft:Array Go.Edge}{x y:Operand}{m n:Int}[hx:Ev L x (.int .i64 m)][hy:Ev L y (.int .i64 n)](hd:dj d N L=true)(h1:-9223372036854775808<=m+n)(h2:m+n<=9223372036854775807)
  (k:G N ds S w0 ((d,.int .i64 (m+n))::L) H (wpListIn (FW ro) 0 P ops Q rest)):G N ds S w0 L H (wpListIn (FW ro) 0 P ops Q (⟨some d,.binOp .add T x y T2,ty,pos,aft,none⟩::rest)):=by
 have:=Hb (P:=P) (N:=N) (ds:=ds) (S:=S) (w0:=w0) (H:=H) (T:=T) (T2:=T2) (x:=x) (y:=y) (L:=L) h1 h2;exact ms hd k
theorem C3{d ty T T2:Nat}{pos:String}{aft:Array Go.Edge}{x y:Operand}{m n:Int}[hx:Ev L x (.int .i64 m)][hy:Ev L y (.int .i64 n)](hd:dj d N L=true)(h1:-9223372036854775808<=m-n)(h2:m-n<=9223372036854775807)
  (k:G N ds S w0 ((d,.int .i64 (m-n))::L) H (wpListIn (FW ro) 0 P ops Q rest)):G N ds S w0 L H (wpListIn (FW ro) 0 P ops Q (⟨some d,.binOp .sub T x y T2,ty,pos,aft,none⟩::rest)):=by
 have:=rE (P:=P) (N:=N) (ds:=ds) (S:=S) (w0:=w0) (H:=H) (T:=T) (T2:=T2) (x:=x) (y:=y) (L:=L) h1 h2;exact ms hd k
theorem Z3{d ty T:Nat}{pos:String}{aft:Array Go.Edge}{x:Operand}{v:Value}{cs:List Value}[hx:Ev L x v][hv:iG v cs](hd:dj d N L=true)
  (k:∀b,w0.heap.size<=b->G N ds S w0 ((d,.pointer (some ⟨b,0,none⟩))::L) (aj b cs T::H) (wpListIn (FW ro) 0 P ops Q rest)):G N ds S w0 L H (wpListIn (FW ro) 0 P ops Q (⟨some d,.box T x,ty,pos,aft,none⟩::rest)):=by
 intro a w hS;refine eG (v:=.pointer (some ⟨w.heap.size,0,none⟩)) (w':=w.alloc (.cells v.cells T)) rfl (λ_ h=>by cases h) ?_ ?_
 ·simp[execOp,hx.eq _ _ _ hS.fr,Instr.box,newVar,newRow]
 ·refine k _ hS.wd.size _ _ ⟨hS.fr.dP hd _,?_⟩
  have:=hS.wd.box cs T;have e:cs.toArray=v.cells:=by rw[<-hv.eq]
  rw[e]at this;exact this
theorem SM{d ty T:Nat}{z:Value}{cs:List Value}[h:gN P T z][hv:iG z cs]{pos:String}{aft:Array Go.Edge}(hd:dj d N L=true)
  (k:∀b,w0.heap.size<=b->G N ds S w0 ((d,.pointer (some ⟨b,0,none⟩))::L) (aj b cs T::H) (wpListIn (FW ro) 0 P ops Q rest)):G N ds S w0 L H (wpListIn (FW ro) 0 P ops Q (⟨some d,.alloc T,ty,pos,aft,none⟩::rest)):=by
 intro a w hS;refine eG (v:=.pointer (some ⟨w.heap.size,0,none⟩)) (w':=w.alloc (.cells z.cells T)) rfl (λ_ h=>by cases h) ?_ ?_
 ·simp[execOp,Instr.alloc,newVar,newRow,h.run]
 ·refine k _ hS.wd.size _ _ ⟨hS.fr.dP hd _,?_⟩
  have:=hS.wd.box cs T;have e:cs.toArray=z.cells:=by rw[<-hv.eq]
  rw[e]at this;exact this
theorem kW{T:Nat}[h:OneCell P T]{p:Addr}{v u:Value}(h1:v.oneCell'=true)(hc:w.cell? p=some u)(hz:w.frozen? p=false):(Instr.storeAt T (.pointer (some p)) v).run P w=.ok () (w.setCell p v):=by
 have hs:(store p v).run P w=.ok () (w.setCell p v):=by
  rw[run_store P w p v .plain (by cases v<;>first|rfl|cases h1)];simp[hc,hz]
 have ha:p.add 0=p:=by simp[Addr.add]
 have fZ:v.cells= #[v]:=by cases v<;>first|rfl|cases h1
 simp[Instr.storeAt,Instr.sureAddr,storeVar,h.sz,fZ,storeCells,hs,ha]
class xF(v:Value):Prop where
 one:v.oneCell'=true
instance(b:Bool):xF (.bool b):=⟨rfl⟩
instance(k:IntKind)(n:Int):xF (.int k n):=⟨rfl⟩
instance(s:ByteArray):xF (.string s):=⟨rfl⟩
instance(p:Option Addr)(n c:Nat):xF (.slice p n c):=⟨rfl⟩
instance(f:Fn)(x y:Array Value):xF (.func f x y):=⟨rfl⟩
class sU(vs:List Value):Prop where
 all:∀v∈vs,v.oneCell'=true
instance:sU []:=⟨by simp⟩
instance(v:Value)(vs:List Value)[h:xF v][hs:sU vs]:sU (v::vs):=⟨by
 intro u hu
 rcases bJ.1 hu with rfl|hu
 ·exact h.one
 ·exact hs.all u hu⟩
theorem ug{ty T b o j t:Nat}[h:OneCell P T]{cs rV:List Value}{u v:Value}{pos:String}{aft:Array Go.Edge}{x y:Operand}
  [hx:Ev L x (.pointer (some ⟨b,o,none⟩))] [hy:Ev L y v] [h1:xF v] [hb:l7 H b j cs t] [hu:dm cs o u] [hs:qi cs o v rV] [hH:qi H j (aj b rV t) H']
  (k:G N ds S w0 L H' (wpListIn (FW ro) 0 P ops Q rest)):G N ds S w0 L H (wpListIn (FW ro) 0 P ops Q (⟨none,.store T x y,ty,pos,aft,none⟩::rest)):=by
 intro a w hS;have IB:=hS.wd.Ah j hb.at';refine step_skip (w':=w.setCell ⟨b,o,none⟩ v) rfl (λ_ h=>by cases h) ?_ ?_
 ·have:=kW (P:=P) (T:=T) h1.one (hS.wd.mj j hb.at' hu.at') (by simp[World.frozen?,IB])
  simp[execOp,hx.eq _ _ _ hS.fr,hy.eq _ _ _ hS.fr,this]
 ·refine k _ _ ⟨hS.fr,?_⟩
  have:=hS.wd.Jz j (o:=o) v hb.at';rw[hs.zG,hH.zG]at this;exact this
theorem lO{ty T b o j t n:Nat}[h:d_ P T n]{cs vs rV:List Value}{pos:String}{aft:Array Go.Edge}{x y:Operand}
  [hx:Ev L x (.pointer (some ⟨b,o,none⟩))] [hy:Ev L y (.agg vs.toArray)] [hb:l7 H b j cs t] [hn:kx vs n] [hp:yM cs o vs rV] [h1:sU vs] [hH:qi H j (aj b rV t) H']
  (k:G N ds S w0 L H' (wpListIn (FW ro) 0 P ops Q rest)):G N ds S w0 L H (wpListIn (FW ro) 0 P ops Q (⟨none,.store T x y,ty,pos,aft,none⟩::rest)):=by
 intro a w hS;have IB:=hS.wd.Ah j hb.at';refine step_skip (w':=w.setRow b rV.toArray) rfl (λ_ h=>by cases h) ?_ ?_
 ·have hs:=run_storeCells_at P b o t vs 0 cs.toArray w IB (by simpa using hp.le) h1.all
  have e:(cs.toArray.toList.take (o+0)++vs++cs.toArray.toList.drop (o+0+vs.length)).toArray=rV.toArray:=by
   rw[<-hp.eq,<-xe cs o vs hp.le];simp
  rw[e]at hs;simp[execOp,hx.eq _ _ _ hS.fr,hy.eq _ _ _ hS.fr,Instr.storeAt,Instr.sureAddr,storeVar,h.sz,Value.cells,hn.eq,hs]
 ·refine k _ _ ⟨hS.fr,?_⟩
  have:=hS.wd.Rg j rV hb.at';rw[hH.zG]at this;exact this
class wq(ops:Array Oper)(j:Nat)(t:outParam Nat):Prop where
 eq:(ops[j]?).bind (·.dst)=some t
instance{l:List Oper}{j t ty:Nat}{op:Op}{pos:String}{aft:Array Go.Edge}{gd:Option (Nat×Bool)}[h:dm l j ⟨some t,op,ty,pos,aft,gd⟩]:wq l.toArray j t:=⟨by simp[h.at']⟩
theorem Fr.yield(h:Fr N ds L a){j t:Nat}{b:Bool}[hj:wq ops j t][hb:gF L t (.bool b)]:yielded ops a.tmps j=some b:=by
 have:=h.slot _ hb.mem;simp only at this;simp[yielded,hj.eq,this]
class Lr(b:Bool)(c:outParam Bool):Prop where
 eq:b= !c
instance:Lr true false:=⟨rfl⟩
instance:Lr false true:=⟨rfl⟩
theorem Lr.ne{b c:Bool}(h:Lr b c):(some c==some b)=false:=by
 have:=h.eq;cases b<;>cases c<;>first|rfl|cases this
theorem Eb{d ty j t:Nat}{want b:Bool}{pos:String}{aft:Array Go.Edge}{op:Op}[hj:wq ops j t][hn:Lr want b][hb:gF L t (.bool b)](hd:dj d N L=true)
  (k:G N ds S w0 ((d,undef)::L) H (wpListIn (FW ro) 0 P ops Q rest)):G N ds S w0 L H (wpListIn (FW ro) 0 P ops Q (⟨some d,op,ty,pos,aft,some (j,want)⟩::rest)):=by
 intro a w hS;refine wpListIn_step λK hK=>?_;have h1:Region.wanted (⟨some d,op,ty,pos,aft,some (j,want)⟩:Oper) (yielded ops a.tmps)=false:=by
  simp only[Region.wanted,hS.fr.yield (ops:=ops) (j:=j) (b:=b)];exact hn.ne
 rw[h1];exact⟨λ_ _=>trivial,hK _ _ (k _ _ ⟨hS.fr.dP hd undef,hS.wd⟩)⟩
theorem xO{d:Option Tmp}{ty j t:Nat}{want:Bool}{pos:String}{aft:Array Go.Edge}{op:Op}[hj:wq ops j t][hb:gF L t (.bool want)]
  (k:G N ds S w0 L H (wpListIn (FW ro) 0 P ops Q (⟨d,op,ty,pos,aft,none⟩::rest))):G N ds S w0 L H (wpListIn (FW ro) 0 P ops Q (⟨d,op,ty,pos,aft,some (j,want)⟩::rest)):=by
 intro a w hS;have h1:Region.wanted (⟨d,op,ty,pos,aft,some (j,want)⟩:Oper) (yielded ops a.tmps)=true:=by
  simp only[Region.wanted,hS.fr.yield (ops:=ops) (j:=j) (b:=want)];simp
 have h2:Region.wanted (⟨d,op,ty,pos,aft,none⟩:Oper) (yielded ops a.tmps)=true:=rfl;have k:=k a w hS;unfold wpListIn at k⊢;rw[if_pos h1];rw[if_pos h2]at k;exact k
theorem St.fix(h:St N ds S w0 L H a w)(hL:wy L L')(hH:H'.Sublist H):St N ds S w0 L' H' a w:=⟨h.fr.to hL,h.wd.sub hH⟩
theorem jp(hL:wy L L')(hH:H'.Sublist H)(k:G N ds S w0 L' H' p):G N ds S w0 L H p:=λa w hS=>k a w (hS.fix hL hH)
theorem aV(hL:wy L L')(hH:H'.Sublist H):G N ds S w0 L H (St N ds S w0 L' H'):=λ_ _ hS=>hS.fix hL hH
theorem yI{l:List Oper}(n:Nat){M:Act->World->Prop}(h2:∀a w,M a w->wpListIn (FW ro) 0 P ops Q (l.drop n) a w):
  ∀{a:Act} {w:World},wpListIn (FW ro) 0 P ops (Exit.then M Q) (l.take n) a w->wpListIn (FW ro) 0 P ops Q l a w:=by
 have upon:∀(o:Oper) (a:Act) (K K':Act->World->Prop),(∀a w,K a w->K' a w)->∀r,o.uponIn (FW ro) 0 P a K (Exit.then M Q) r->o.uponIn (FW ro) 0 P a K' Q r:=by
  intro o a K K' hK r h;cases r with
  |ok nx w1=>
   cases nx with
   |value v=>exact hK _ _ h
   |skip=>exact hK _ _ h
   |defer d=>exact hK _ _ h
   |enter f args=>
    refine⟨h.1,h.2.mono λe w2 hh=>?_⟩;cases e with
    |returned v=>exact hK _ _ hh
    |panicked c=>exact hh
    |outgrown=>exact hh
   |row r args=>exact⟨h.1,h.2.mono λv w2 hh=>hK _ _ hh⟩
   |round l f tmps assign body=>
    refine⟨h.1,h.2.mono λe w2 hh=>?_⟩;cases e with
    |returned v=>exact hK _ _ hh
    |panicked c=>exact hh
    |outgrown=>exact hh
   |_=>exact h
  |halt x w1=>cases x<;>exact h
 induction n generalizing l with
 |zero=>
  intro a w h;exact h2 a w h
 |succ n ih=>
  intro a w h;cases l with
  |nil=>exact h2 a w h
  |cons o r=>
   simp only[List.take_succ_cons]at h;simp only[List.drop_succ_cons]at h2;unfold wpListIn at h⊢
   split
   ·rename_i hw
    rw[if_pos hw]at h;exact⟨h.1,upon o a _ _ (λa w hh=>ih h2 hh) _ h.2⟩
   ·rename_i hw
    rw[if_neg hw]at h;exact⟨h.1,ih h2 h.2⟩
class zI{α:Type}(l:List α)(n:Nat)(l1 l2:outParam (List α)):Prop where
 t:l.take n=l1
 d:l.drop n=l2
instance{α:Type}(l:List α):zI l 0 [] l:=⟨by simp,by simp⟩
instance{α:Type}(x:α)(l l1 l2:List α)(n:Nat)[h:zI l n l1 l2]:zI (x::l) (n+1) (x::l1) l2:=⟨by simp[h.t],by simp[h.d]⟩
theorem qI{l l1 l2:List Oper}(n d:Nat)(val:Value)[hs:zI l n l1 l2]
  (h1:G N ds S w0 L H (wpListIn (FW ro) 0 P ops (Exit.then (St N ds S w0 ((d,val)::L) H) Q) l1))
  (h2:G N ds S w0 ((d,val)::L) H (wpListIn (FW ro) 0 P ops Q l2)):G N ds S w0 L H (wpListIn (FW ro) 0 P ops Q l):=λa w hS=>
 yI (M:=St N ds S w0 ((d,val)::L) H) n (λa w h=>by rw[hs.d];exact h2 a w h) (by rw[hs.t];exact h1 a w hS)
theorem lx{id:Nat}{l:List Oper}(h:G N ds S w0 L H (wpListIn (FW ro) 0 P l.toArray Q l)):G N ds S w0 L H (Code.wpIn (FW ro) 0 P (Code.region id l.toArray false) Q):=λa w hS=>wpIn_region_lit (h a w hS)
theorem oD(h:G N ds S w0 L H (Q .normal)):G N ds S w0 L H (wpListIn (FW ro) 0 P ops Q []):=h
theorem u7{x y:Code}(h:G N ds S w0 L H (Code.wpIn (FW ro) 0 P x (Exit.then (Code.wpIn (FW ro) 0 P y Q) Q))):G N ds S w0 L H (Code.wpIn (FW ro) 0 P (x.seq y) Q):=λa w hS=>wpIn_seq (h a w hS)
theorem rW{id:Nat}{x:Code}(h:G N ds S w0 L H (Code.wpIn (FW ro) 0 P x (Exit.inBlock id Q))):G N ds S w0 L H (Code.wpIn (FW ro) 0 P (Code.block id x) Q):=λa w hS=>wpIn_block (h a w hS)
theorem th(h:G N ds S w0 L H (Q .normal)):G N ds S w0 L H (Code.wpIn (FW ro) 0 P Code.skip Q):=λa w hS=>wpIn_skip (h a w hS)
theorem xN{id:Nat}(h:G N ds S w0 L H (Q (.exit id))):G N ds S w0 L H (Code.wpIn (FW ro) 0 P (Code.exit id) Q):=λa w hS=>wpIn_exit (h a w hS)
theorem yW(h:G N ds S w0 L H (Q .ret)):G N ds S w0 L H (Code.wpIn (FW ro) 0 P Code.ret Q):=λa w hS=>wpIn_ret (h a w hS)
theorem k9{K:Act->World->Prop}(h:G N ds S w0 L H K):G N ds S w0 L H (Exit.then K Q .normal):=h
theorem oW{id:Nat}(h:G N ds S w0 L H (Q .normal)):G N ds S w0 L H (Exit.inBlock id Q .normal):=h
theorem nr{id:Nat}(h:G N ds S w0 L H (Q .normal)):G N ds S w0 L H (Exit.inBlock id Q (.exit id)):=λa w hS=>by simp only[Exit.inBlock,if_true];exact h a w hS
theorem q6{id id':Nat}(eH:Nat.beq id' id=false)(h:G N ds S w0 L H (Q (.exit id'))):G N ds S w0 L H (Exit.inBlock id Q (.exit id')):=λa w hS=>by
 have:¬id'=id:=by intro e;subst e;simp at eH
 simp only[Exit.inBlock,if_neg this];exact h a w hS
theorem nt{K:Act->World->Prop}{id:Nat}(h:G N ds S w0 L H (Q (.exit id))):G N ds S w0 L H (Exit.then K Q (.exit id)):=h
theorem oX{K:Act->World->Prop}(h:G N ds S w0 L H (Q .ret)):G N ds S w0 L H (Exit.then K Q .ret):=h
theorem nk{id:Nat}(h:G N ds S w0 L H (Q .ret)):G N ds S w0 L H (Exit.inBlock id Q .ret):=h
theorem aN{c:Operand}{x y:Code}{b:Bool}[hc:Ev L c (.bool b)](ht:b=true->G N ds S w0 L H (Code.wpIn (FW ro) 0 P x Q))(hf:b=false->G N ds S w0 L H (Code.wpIn (FW ro) 0 P y Q)):G N ds S w0 L H (Code.wpIn (FW ro) 0 P (Code.cond c x y) Q):=
 λa w hS=>wpIn_cond_split (hc.eq _ _ _ hS.fr) (λh=>ht h a w hS) (λh=>hf h a w hS)
theorem qt{c:Operand}{x y:Code}[hc:Ev L c (.bool true)](ht:G N ds S w0 L H (Code.wpIn (FW ro) 0 P x Q)):G N ds S w0 L H (Code.wpIn (FW ro) 0 P (Code.cond c x y) Q):=aN (b:=true) (λ_=>ht) (λh=>by cases h)
theorem oP{c:Operand}{x y:Code}[hc:Ev L c (.bool false)](hf:G N ds S w0 L H (Code.wpIn (FW ro) 0 P y Q)):G N ds S w0 L H (Code.wpIn (FW ro) 0 P (Code.cond c x y) Q):=aN (b:=false) (λh=>by cases h) (λ_=>hf)
theorem HV{α:Type}(I:α->Act->World->Prop)(m:α->Nat){c:Code}(x:α)(h0:I x a w)
  (round:∀x a w,I x a w->c.wpIn (FW ro) 0 P (Exit.then (λa' w'=>∃x',I x' a' w'/\m x'<m x) Q) a w):(Code.loop c).wpIn (FW ro) 0 P Q a w:=by
 classical
 have ex:∀a w,(∃x,I x a w)->∃x,I x a w/\∀y,I y a w->m x<=m y:=by
  intro a w h;have:∀k:Nat,∀x,I x a w->m x=k->∃x,I x a w/\∀y,I y a w->m x<=m y:=by
   intro k
   induction k using Nat.strongRecOn with
   |_ k ih=>
    intro x hx hk
    by_cases hy:∃y,I y a w/\m y<m x
    ·obtain⟨y,hy1,Zr⟩:=hy
     exact ih (m y) ag y hy1 rfl
    ·exact⟨x,hx,λy Zq=>Nat.le_of_not_lt λbT=>hy ⟨y,Zq,bT⟩⟩
  obtain⟨x,hx⟩:=h;exact this _ x hx rfl
 refine wpIn_loop (λa w=>∃x,I x a w) (λa w=>if h:∃x,I x a w then m (Classical.choose (ex a w h))else 0) ⟨x,h0⟩ λa w hI=>?_;have hs:=Classical.choose_spec (ex a w hI);have hr:=round _ a w hs.1;refine Code.wpIn_mono (λe a' w' q=>?_) hr;cases e with
 |normal=>
  obtain⟨x',HF,bT⟩:=q;have SX:∃x,I x a' w':=⟨x',HF⟩;refine⟨SX,?_⟩;rw[dif_pos hI,dif_pos SX];exact Nat.lt_of_le_of_lt ((Classical.choose_spec (ex a' w' SX)).2 x' HF) bT
 |_=>exact q
def Next{α:Type}(N:Nat)(ds:List Deferred)(S:Nat->Prop)(w0:World)(I:α->Prop)(Lx:α->List (Nat×Value))(Hx:α->List bN)(m:α->Nat)(x:α):Act->World->Prop:=
 λa w=>∃x',(I x'/\St N ds S w0 (Lx x') (Hx x') a w)/\m x'<m x
theorem bP{α:Type}(I:α->Prop)(Lx:α->List (Nat×Value))(Hx:α->List bN)(m:α->Nat){c:Code}(x:α)(hI:I x)(h0:G N ds S w0 L H (St N ds S w0 (Lx x) (Hx x)))
  (round:∀x,I x->G N ds S w0 (Lx x) (Hx x) (Code.wpIn (FW ro) 0 P c (Exit.then (Next N ds S w0 I Lx Hx m x) Q))):G N ds S w0 L H (Code.wpIn (FW ro) 0 P (Code.loop c) Q):=
 λa w hS=>HV (λx a w=>I x/\St N ds S w0 (Lx x) (Hx x) a w) m x ⟨hI,h0 a w hS⟩ λx a w h=>round x h.1 a w h.2
theorem bC{α:Type}{I:α->Prop}{Lx:α->List (Nat×Value)}{Hx:α->List bN}{m:α->Nat}{x:α}(x':α)(hI:I x')(hm:m x'<m x)(hL:wy L (Lx x'))(hH:(Hx x').Sublist H):G N ds S w0 L H (Next N ds S w0 I Lx Hx m x):=
 λ_ _ hS=>⟨x',⟨hI,hS.fix hL hH⟩,hm⟩
def gV(P:Program)(f:FuncId)(args:List Value)(w:World)(R:Value->World->Prop):Prop:=CallsIn (FW none) 0 P f args.toArray w λe w'=>∃v,e=.returned v/\R v w'
def fi(P:Program)(f:FuncId)(args:List Value)(w:World)(v:Value):Prop:=gV P f args w λu w'=>u=v/\lL dh w w'
theorem gV.mono{f:FuncId}{args:List Value}{R R':Value->World->Prop}(h:gV P f args w R)(hr:∀v w',R v w'->R' v w'):gV P f args w R':=
 CallsIn.mono h λ_ w' ⟨v,he,hR⟩=>⟨v,he,hr v w' hR⟩
def td:Nat->List Value->List (Nat×Value)
 |_,[]=>[]
 |i,v::r=>(i,v)::td (i+1) r
theorem CW:∀(i:Nat) (l:List Value) (p:Nat×Value),p∈td i l->∃j,p.1=i+j/\l[j]?=some p.2
 |i,[],p,h=>by simp[td]at h
 |i,u::r,p,h=>by
  simp only[td,bJ]at h;rcases h with rfl|h
  ·exact⟨0,rfl,rfl⟩
  ·obtain⟨j,h1,h2⟩:=CW (i+1) r p h
   exact⟨j+1,ag,h2⟩
theorem Az{args:List Value}(hlen:args.length<=N):Fr N [] (td 0 args) {tmps:=args.toArray++Array.replicate (N-args.toArray.size) undef,defers:=[]}:=by
 refine⟨by simp;omega,rfl,λp h=>?_⟩;obtain⟨j,hj1,h2⟩:=CW 0 args p h;have hj:j<args.length:=(aC.1 h2).1;rw[hj1,dM];rw[Array.getElem?_append_left (by simpa using hj)];simpa using h2
class xE(i:Nat)(args:List Value)(L:outParam (List (Nat×Value))):Prop where
 eq:td i args=L
instance(i:Nat):xE i [] []:=⟨rfl⟩
class gk(i:Nat)(j:outParam Nat):Prop where
 eq:i+1=j
instance:gk 0 1:=⟨rfl⟩
instance:gk 1 2:=⟨rfl⟩
instance:gk 2 3:=⟨rfl⟩
instance:gk 3 4:=⟨rfl⟩
instance:gk 4 5:=⟨rfl⟩
instance:gk 5 6:=⟨rfl⟩
instance:gk 6 7:=⟨rfl⟩
instance:gk 7 8:=⟨rfl⟩
instance(i j:Nat)(v:Value)(r:List Value)(L:List (Nat×Value))[hj:gk i j][h:xE j r L]:xE i (v::r) ((i,v)::L):=⟨by simp only[td];rw[hj.eq,h.eq]⟩
theorem aQ{f:FuncId}{fn:Func}{c:Code}{args:List Value}{R:Value->World->Prop}(hf:P.funcs[f]?=some fn)(hb:fn.body=some c)(hN:fn.ntmps=N)[hL:xE 0 args L](hlen:args.length.ble N=true)(hW:Wd S w H w)
  (h:G N [] S w L H (Code.wpIn (FW none) 0 P c (bodyPost P fn λe w'=>∃v,e=.returned v/\R v w'))):gV P f args w R:=by
 subst hN;refine callsIn_of_wp hf hb trivial (h _ _ ⟨?_,hW⟩);rw[<-hL.eq];exact Az (Nat.le_of_ble_eq_true hlen)
theorem Ik{d ty f:Nat}{args:List Operand}{vs:List Value}{og:Array Nat}{pos:String}{aft:Array Go.Edge}(R:World->Value->World->Prop)[h:aS P f][hx:zk L args vs](hd:dj d N L=true)
  (hc:∀w,Wd S w0 H w->gV P f vs w (R w))
  (k:∀v w w',Wd S w0 H w->R w v w'->∀a,Fr N ds ((d,v)::L) a->wpListIn (FW ro) 0 P ops Q rest a w'):G N ds S w0 L H (wpListIn (FW ro) 0 P ops Q (⟨some d,.call {callee:=.value (.func f),args:=args.toArray,argTypes:=og},ty,pos,aft,none⟩::rest)):=by
 intro a w hS;refine wpListIn_plain rfl λK hK=>?_;refine⟨λ_ _=>trivial,?_⟩;rw[tO _ _ _ (λ_ h=>by cases h)];have hr:(execOp a.eval ⟨some d,.call {callee:=.value (.func f),args:=args.toArray,argTypes:=og},ty,pos,aft,none⟩).run P w=.ok (.enter f vs.toArray) w:=by
  simp[execOp,resolve,Act.eval,Deferred.ofValue,invoke,hx.eq _ _ _ hS.fr,h.run]
 rw[hr];refine⟨λh=>(by cases h),?_⟩;refine CallsIn.mono (R:=λe w'=>∃v,e=.returned v/\R w v w') (hc w hS.wd) λe w' ⟨v,he,hR⟩=>?_;subst he;exact hK _ _ (k v w w' hS.wd hR _ (hS.fr.dP hd v))
theorem bI{d ty f:Nat}{args:List Operand}{vs:List Value}{og:Array Nat}{pos:String}{aft:Array Go.Edge}{u:Value}[h:aS P f][hx:zk L args vs](hd:dj d N L=true)
  (hc:∀w,Wd S w0 H w->fi P f vs w u)
  (k:G N ds S w0 ((d,u)::L) H (wpListIn (FW ro) 0 P ops Q rest)):G N ds S w0 L H (wpListIn (FW ro) 0 P ops Q (⟨some d,.call {callee:=.value (.func f),args:=args.toArray,argTypes:=og},ty,pos,aft,none⟩::rest)):=
 Ik (λw v w'=>v=u/\lL dh w w') hd hc λv _ w' hw hR a hF=>k a w' ⟨by rw[<-hR.1];exact hF,hw.call hR.2⟩
theorem cV{α:Type}{val:α->Value}{E:α->List bN}{φ:α->Prop}{d ty f:Nat}{args:List Operand}{vs:List Value}{og:Array Nat}{pos:String}{aft:Array Go.Edge}[h:aS P f][hx:zk L args vs](hd:dj d N L=true)
  (hc:∀w,Wd S w0 H w->gV P f vs w λu w'=>∃x,u=val x/\Wd dh w (E x) w'/\φ x)
  (k:∀x,φ x->G N ds S w0 ((d,val x)::L) (E x++H) (wpListIn (FW ro) 0 P ops Q rest)):G N ds S w0 L H (wpListIn (FW ro) 0 P ops Q (⟨some d,.call {callee:=.value (.func f),args:=args.toArray,argTypes:=og},ty,pos,aft,none⟩::rest)):=by
 intro a w hS;refine Ik (S:=S) (w0:=w0) (H:=H) (λ_ u w'=>∃x,u=val x/\Wd S w0 (E x++H) w'/\φ x) hd (λw hw=>(hc w hw).mono λv w' ⟨x,h1,h2,h3⟩=>⟨x,h1,hw.more h2,h3⟩) (λv w w' hw hR a hF=>?_) a w hS;obtain⟨x,rfl,h2,h3⟩:=hR;exact k x h3 a w' ⟨hF,h2⟩
theorem cA{fn:Func}{R:Value->World->Prop}{t:Nat}{v:Value}(hr:fn.results= #[.tmp t])[hv:gF L t v](hR:∀w,Wd S w0 H w->R v w):G N [] S w0 L H (bodyPost P fn (λe w'=>∃v,e=.returned v/\R v w') .ret):=λa w hS=>
 ⟨hS.fr.defers,v,by rw[results_tmp hr];simp[sZ,hS.fr.slot _ hv.mem],v,rfl,hR w hS.wd⟩
theorem bQ{fn:Func}{t:Nat}{u v:Value}(hr:fn.results= #[.tmp t])[hv:gF L t v](hu:v=u):G N [] dh w0 L H (bodyPost P fn (λe w'=>∃v,e=.returned v/\v=u/\lL dh w0 w') .ret):=
 cA hr λ_ hw=>⟨hu,hw.cE⟩
theorem jQ{fn:Func}{R:Value->World->Prop}{t s:Nat}{v u:Value}(hr:fn.results= #[.tmp t,.tmp s])[hv:gF L t v][hu:gF L s u](hR:∀w,Wd S w0 H w->R (.tuple #[v,u]) w):G N [] S w0 L H (bodyPost P fn (λe w'=>∃v,e=.returned v/\R v w') .ret):=λa w hS=>
 ⟨hS.fr.defers,.tuple #[v,u],by rw[results_tmp2 hr];simp[sZ,hS.fr.slot _ hv.mem,hS.fr.slot _ hu.mem],_,rfl,hR w hS.wd⟩
theorem Il{fn:Func}{R:Value->World->Prop}(hr:fn.results= #[])(hR:∀w,Wd S w0 H w->R (.tuple #[]) w):G N [] S w0 L H (bodyPost P fn (λe w'=>∃v,e=.returned v/\R v w') .ret):=λ_ w hS=>
 ⟨hS.fr.defers,.tuple #[],results_none hr _ _ _,_,rfl,hR w hS.wd⟩
theorem qH{fn:Func}{R:Value->World->Prop}(hr:fn.results= #[])(hR:∀w,Wd S w0 H w->R (.tuple #[]) w):G N [] S w0 L H (bodyPost P fn (λe w'=>∃v,e=.returned v/\R v w') .normal):=λ_ w hS=>
 ⟨hS.fr.defers,.tuple #[],results_none hr _ _ _,_,rfl,hR w hS.wd⟩
def GQ(N:Nat)(ds:List Deferred)(L:List (Nat×Value))(p:Act->Prop):Prop:=∀a,Fr N ds L a->p a
theorem kE{id:Nat}{l:List Oper}(hm:P.follows .mixedOrders=true)(hB:Region.lexB .any l.toArray=true)
  (h:GQ N ds L (wpQuiet P l.toArray (Wd S w0 H) (λa'=>∀w',Wd S w0 H w'->Q .normal a' w') l)):G N ds S w0 L H (Code.wpIn (FW none) 0 P (Code.region id l.toArray true) Q):=λa w hS=>
 wpIn_wide.2 (wp_region_quiet hm hB (hS.wd.same rfl rfl rfl rfl) (by simpa using h a hS.fr))
theorem VY(h:G N ds S w0 L H p):GQ N ds L (wpQuiet P ops (Wd S w0 H) (λa'=>∀w',Wd S w0 H w'->p a' w') []):=λa hF w hw=>h a w ⟨hF,hw⟩
theorem Uj{Qq:Act->Prop}{d ty:Nat}{pos:String}{aft:Array Go.Edge}{op:Op}{v:Value}[h:dz P N ds S w0 L H op v](hd:dj d N L=true)
  (k:GQ N ds ((d,v)::L) (wpQuiet P ops (Wd S w0 H) Qq rest)):GQ N ds L (wpQuiet P ops (Wd S w0 H) Qq (⟨some d,op,ty,pos,aft,none⟩::rest)):=by
 intro a hF;have h2:Region.wanted (⟨some d,op,ty,pos,aft,none⟩:Oper) (yielded ops a.tmps)=true:=rfl;refine BigFrame.wpQuiet_want h2 λK hK=>⟨v,λw hw=>?_,hK _ (k _ (hF.dP hd v))⟩;unfold Oper.quietAt;rw[h.run _ _ _ _ _ a w hF hw];exact⟨rfl,rfl⟩
theorem Q7{Qq:Act->Prop}{d ty j t:Nat}{want b:Bool}{pos:String}{aft:Array Go.Edge}{op:Op}[hj:wq ops j t][hn:Lr want b][hb:gF L t (.bool b)](hd:dj d N L=true)
  (k:GQ N ds ((d,undef)::L) (wpQuiet P ops (Wd S w0 H) Qq rest)):GQ N ds L (wpQuiet P ops (Wd S w0 H) Qq (⟨some d,op,ty,pos,aft,some (j,want)⟩::rest)):=by
 intro a hF;refine BigFrame.wpQuiet_skip ?_ (k _ (hF.dP hd undef));simp only[Region.wanted,hF.yield (ops:=ops) (j:=j) (b:=b)];exact hn.ne
theorem Q6{Qq:Act->Prop}{d:Option Tmp}{ty j t:Nat}{want:Bool}{pos:String}{aft:Array Go.Edge}{op:Op}[hj:wq ops j t][hb:gF L t (.bool want)]
  (k:GQ N ds L (wpQuiet P ops (Wd S w0 H) Qq (⟨d,op,ty,pos,aft,none⟩::rest))):GQ N ds L (wpQuiet P ops (Wd S w0 H) Qq (⟨d,op,ty,pos,aft,some (j,want)⟩::rest)):=by
 intro a hF;have h1:Region.wanted (⟨d,op,ty,pos,aft,some (j,want)⟩:Oper) (yielded ops a.tmps)=true:=by
  simp only[Region.wanted,hF.yield (ops:=ops) (j:=j) (b:=want)];simp
 have h2:Region.wanted (⟨d,op,ty,pos,aft,none⟩:Oper) (yielded ops a.tmps)=true:=rfl;have k:=k a hF;unfold wpQuiet at k⊢;rw[if_pos h1];rw[if_pos h2]at k;exact k
theorem tK{Qq:Act->Prop}{d ty f:Nat}{args:List Operand}{vs:List Value}{og:Array Nat}{pos:String}{aft:Array Go.Edge}{v:Value}[h:aS P f][hx:zk L args vs](hd:dj d N L=true)
  (hc:∀w,Wd S w0 H w->fi P f vs w v)
  (k:GQ N ds ((d,v)::L) (wpQuiet P ops (Wd S w0 H) Qq rest)):GQ N ds L (wpQuiet P ops (Wd S w0 H) Qq (⟨some d,.call {callee:=.value (.func f),args:=args.toArray,argTypes:=og},ty,pos,aft,none⟩::rest)):=by
 intro a hF;have h2:Region.wanted (⟨some d,.call {callee:=.value (.func f),args:=args.toArray,argTypes:=og},ty,pos,aft,none⟩:Oper) (yielded ops a.tmps)=true:=rfl;refine BigFrame.wpQuiet_want h2 λK hK=>⟨v,λw hw=>?_,hK _ (k _ (hF.dP hd v))⟩;unfold Oper.quietAt;have hr:(execOp a.eval ⟨some d,.call {callee:=.value (.func f),args:=args.toArray,argTypes:=og},ty,pos,aft,none⟩).run P w=.ok (.enter f vs.toArray) w:=by
  simp[execOp,resolve,Act.eval,Deferred.ofValue,invoke,hx.eq _ _ _ hF,h.run]
 rw[hr];refine⟨rfl,?_⟩;have h3:Calls P f vs.toArray w λe w'=>∃u,e=.returned u/\u=v/\lL dh w w':=callsIn_wide.1 (hc w hw);exact h3.mono λe w' ⟨u,he,hu,dO⟩=>⟨by rw[he,hu],hw.call dO⟩
end
def ai(a:Option Addr)(n c e s:Nat)(xs:List Value):bN:=
 ⟨λk=>a.map (·.block)=some k,λw=>xs.length=n*s/\((a=none/\n=0/\c=0)∨
  ∃(g:Nat) (pre sp:List Value),a=some ⟨g,pre.length,none⟩/\n<=c/\c<=maxLen/\(c-n)*s<=sp.length/\w.heap[g]?=some (.cells (pre++xs++sp).toArray e (0,0)))⟩
section
variable {S:Nat->Prop} {w0 w w':World} {H:List bN}
theorem Wd.km(h:Wd S w0 H w){k:Nat}{b o n c e s:Nat}{xs:List Value}(hk:H[k]?=some (ai (some ⟨b,o,none⟩) n c e s xs)):
  xs.length=n*s/\n<=c/\c<=maxLen/\∃pre sp:List Value,pre.length=o/\(c-n)*s<=sp.length/\w.heap[b]?=some (.cells (pre++xs++sp).toArray e (0,0)):=by
 obtain⟨h1,h2⟩:=h.get hk;rcases h2 with⟨h2,_⟩|⟨g,pre,sp,h2,h3,h4,h5,h6⟩
 ·cases h2
 ·simp only[bW,Addr.mk.injEq,and_true]at h2
  obtain⟨rfl,rfl⟩:=h2;exact⟨h1,h3,h4,pre,sp,rfl,h5,h6⟩
theorem Wd.cK(h:Wd S w0 H w){k:Nat}{b o n c e s j:Nat}{xs:List Value}{v:Value}(hk:H[k]?=some (ai (some ⟨b,o,none⟩) n c e s xs))(hv:xs[j]?=some v):w.cell? ⟨b,o+j,none⟩=some v:=by
 obtain⟨_,_,_,pre,sp,rfl,_,hb⟩:=h.km hk;have hj:j<xs.length:=(aC.1 hv).1;have hv':=(aC.1 hv).2;simp[World.cell?,hb,List.getElem?_append,hj,hv']
theorem Wd.Bm(h:Wd S w0 H w)(e s:Nat):Wd S w0 (ai none 0 0 e s []::H) w:=
 ⟨h.cE,λx hx b hb=>by
  rcases bJ.1 hx with rfl|hx
  ·simp[ai]at hb
  ·exact h.own x hx b hb,λx hx w' gU dO=>by
  rcases bJ.1 hx with rfl|hx
  ·exact⟨by simp,.inl ⟨rfl,rfl,rfl⟩⟩
  ·exact h.ok x hx w' gU dO,fN.2 ⟨λx _ b hb=>by simp[ai]at hb,h.apart⟩⟩
theorem Wd.we(h:Wd S w0 H w)(e s n:Nat)(xs:List Value)(hl:xs.length=n*s)(hn:n<=maxLen):Wd S w0 (ai (some ⟨w.heap.size,0,none⟩) n n e s xs::H) (w.alloc (.cells xs.toArray e)):=by
 refine Wd.more (E:=[_]) h ⟨lL.alloc _ _ _,?_,?_,by simp⟩
 ·intro x hx b hb
  simp only[bU]at hx;subst hx;simp only[ai,bz,bW]at hb;subst hb;exact⟨.inr (bH _),by simp⟩
 ·intro x hx w2 _ jl
  simp only[bU]at hx;subst hx;have:=jl w.heap.size (by simp[ai]);refine⟨hl,.inr ⟨w.heap.size,[],[],rfl,bH _,hn,by simp,?_⟩⟩;rw[this];simpa using heap_alloc_new w (.cells xs.toArray e)
theorem Wd.JA(h:Wd S w0 H w){k:Nat}{b o n c e s j:Nat}{xs:List Value}(v:Value)(hk:H[k]?=some (ai (some ⟨b,o,none⟩) n c e s xs))(hj:j<xs.length):
  Wd S w0 (H.set k (ai (some ⟨b,o,none⟩) n c e s (xs.set j v))) (w.setCell ⟨b,o+j,none⟩ v):=by
 obtain⟨h1,h2,h3,pre,sp,rfl,h5,hb⟩:=h.km hk;have bT:b<w.heap.size:=(fI.1 hb).1;refine h.kf hk ((lL.setCell w _ v).mono λx _ hx=>?_) (λb' mL=>?_) λw2 jl=>?_
 ·simp only[ai,bz,bW];exact hx.symm
 ·simp only[ai,bz,bW]at mL⊢
  subst mL;exact⟨.inl rfl,by simpa[World.setCell]using bT⟩
 ·have:=jl b (by simp[ai])
  refine⟨by simpa using h1,.inr ⟨b,pre,sp,rfl,h2,h3,h5,?_⟩⟩;rw[this,vf hb v];simp[hj]
theorem Wd.nC(h:Wd S w0 H w){α:Type}{V:World->α->List Value->Prop}{k:Nat}{a:Option Addr}{n c e s:Nat}{xs:List Value}{l:List α}(hk:H[k]?=some (ai a n c e s xs))(hn:n=l.length)(hb:n<=140737488355328)
  (hV:∀i x,l[i]?=some x->∃cs:List Value,(∀j v,cs[j]?=some v->xs[i*s+j]?=some v)/\V w x cs):aM w (.slice a n c) s l V:=by
 obtain⟨h1,h2⟩:=h.get hk;rcases h2 with⟨rfl,rfl,rfl⟩|⟨g,pre,sp,rfl,h3,h4,h5,h6⟩
 ·have:l=[]:=kN hn.symm
  subst this;exact⟨none,0,0,0,0,rfl,rfl,bH _,ag,ag,by simp,by simp⟩
 ·refine⟨_,n,c,g,pre.length,rfl,hn,h3,hb,by simpa[maxLen]using h4,λ_=>rfl,λi x hx=>?_⟩
  obtain⟨cs,hc,hv⟩:=hV i x hx;refine⟨cs,λj v hj=>?_,hv⟩;have:=h.cK hk (hc j v hj);rwa[<-dA]at this
end
instance:gk 8 9:=⟨rfl⟩
instance:gk 9 10:=⟨rfl⟩
instance:gk 10 11:=⟨rfl⟩
instance:gk 11 12:=⟨rfl⟩
instance:gk 12 13:=⟨rfl⟩
instance:gk 13 14:=⟨rfl⟩
instance:gk 14 15:=⟨rfl⟩
instance:gk 15 16:=⟨rfl⟩
instance:gk 16 17:=⟨rfl⟩
instance:gk 17 18:=⟨rfl⟩
instance:gk 18 19:=⟨rfl⟩
instance:gk 19 20:=⟨rfl⟩
instance:gk 20 21:=⟨rfl⟩
instance:gk 21 22:=⟨rfl⟩
instance:gk 22 23:=⟨rfl⟩
instance:gk 23 24:=⟨rfl⟩
class Ff{α:Type}(l:List α)(n:outParam Nat):Prop where
 eq:l.length=n
instance{α:Type}:Ff ([]:List α) 0:=⟨rfl⟩
instance{α:Type}(x:α)(l:List α)(i j:Nat)[h:Ff l i][hj:gk i j]:Ff (x::l) j:=⟨by rw[ie,h.eq,hj.eq]⟩
class cB(P:Program)(T:Nat)(e s jZ:outParam Nat)(zs:outParam (List Value)):Prop where
 oI:P.underlying T=some (.slice e)
 aeH:(P.info? e).map (λi=>(i.zero.map (·.cells.toList),i.size,i.bytes))=some (some zs,s,jZ)
theorem cB.get{P:Program}{T e s jZ:Nat}{zs:List Value}(h:cB P T e s jZ zs):∃i z,P.info? e=some i/\i.zero=some z/\z.cells=zs.toArray/\i.size=s/\i.bytes=jZ:=by
 obtain⟨i,hi,h1⟩:=cT.1 h.aeH;simp only[Prod.mk.injEq]at h1;obtain⟨h1,h2,h3⟩:=h1;obtain⟨z,hz,h4⟩:=cT.1 h1;exact⟨i,z,hi,hz,by rw[<-h4],h2,h3⟩
class sX(H:List bN)(a:Option Addr)(n c:Nat)(k e s:outParam Nat)(xs:outParam (List Value)):Prop where
 at':H[k]?=some (ai a n c e s xs)
instance(a:Option Addr)(n c e s:Nat)(xs:List Value)(H:List bN):sX (ai a n c e s xs::H) a n c 0 e s xs:=⟨rfl⟩
instance(a:Option Addr)(n c e s k:Nat)(xs:List Value)(H:List bN)(x:bN)[h:sX H a n c k e s xs]:sX (x::H) a n c (k+1) e s xs:=⟨h.at'⟩
class oJ{α:Type}(l:List α)(i:Nat)(x:outParam α):Prop where
 eq:l[i]?=some x
class NX(xs:List Value)(j:Nat)(v:outParam Value):Prop where
 eq:xs[j]?=some v
instance{α:Type}(f:α->Value)(l:List α)(i:Nat)(x:α)[h:oJ l i x]:NX (l.map f) (i*1) (f x):=⟨by simp[h.eq]⟩
instance{α:Type}(f:α->Value)(x:α)(l:List α):NX ((x::l).map f) (0*1) (f x):=⟨rfl⟩
class lN(xs:List Value)(j:Nat)(v:Value)(Se:outParam (List Value)):Prop where
 eq:xs.set j v=Se
 lt:j<xs.length
instance{α:Type}(f:α->Value)(l:List α)(i:Nat)(x y:α)[h:oJ l i y]:lN (l.map f) (i*1) (f x) ((l.set i x).map f):=
 ⟨by simp[eh],by have:=(aC.1 h.eq).1;simpa using this⟩
class fe(H:List bN)(b off:Nat)(v:outParam Value):Prop where
 eq:∀S w0 w,Wd S w0 H w->w.cell? ⟨b,off,none⟩=some v
instance(b o j n c e s:Nat)(xs:List Value)(v:Value)(H:List bN)[h:NX xs j v]:fe (ai (some ⟨b,o,none⟩) n c e s xs::H) b (o+j) v:=
 ⟨λ_ _ _ hw=>Wd.cK hw (k:=0) rfl h.eq⟩
instance(b off:Nat)(v:Value)(x:bN)(H:List bN)[h:fe H b off v]:fe (x::H) b off v:=⟨λS w0 w hw=>h.eq S w0 w (hw.sub (dZ _ _))⟩
class mT(H:List bN)(b off:Nat)(k o j n c e s:outParam Nat)(xs:outParam (List Value)):Prop where
 at':H[k]?=some (ai (some ⟨b,o,none⟩) n c e s xs)
 eq:off=o+j
instance(b o j n c e s:Nat)(xs:List Value)(H:List bN):mT (ai (some ⟨b,o,none⟩) n c e s xs::H) b (o+j) 0 o j n c e s xs:=⟨rfl,rfl⟩
instance(b off k o j n c e s:Nat)(xs:List Value)(x:bN)(H:List bN)[h:mT H b off k o j n c e s xs]:mT (x::H) b off (k+1) o j n c e s xs:=⟨h.at',h.eq⟩
class sV(cs:List Value)(o n:Nat)(vs:outParam (List Value)):Prop where
 len:vs.length=n
 eq:∀j v,vs[j]?=some v->cs[o+j]?=some v
instance(cs:List Value):sV cs 0 0 []:=⟨rfl,by simp⟩
instance(c:Value)(cs vs:List Value)(n:Nat)[h:sV cs 0 n vs]:sV (c::cs) 0 (n+1) (c::vs):=⟨by simp[h.len],λj v hj=>by
 cases j with
 |zero=>simpa using hj
 |succ j=>simpa using h.eq j v (by simpa using hj)⟩
instance(c:Value)(cs vs:List Value)(o n:Nat)[h:sV cs o n vs]:sV (c::cs) (o+1) n vs:=⟨h.len,λj v hj=>by
 have:=h.eq j v hj
 rw[show o+1+j=(o+j)+1 by omega]
 simpa using this⟩
class CL(H:List bN)(k:Nat)(f:outParam (bN->List bN)):Prop where
 eq:∀e,H.set k e=f e
instance(x:bN)(H:List bN):CL (x::H) 0 (λe=>e::H):=⟨λ_=>rfl⟩
instance(x:bN)(H:List bN)(k:Nat)(f:bN->List bN)[h:CL H k f]:CL (x::H) (k+1) (λe=>x::f e):=⟨λe=>by rw[cn,h.eq]⟩
theorem Wd.gW{S:Nat->Prop}{w0 w:World}{H:List bN}(h:Wd S w0 H w)(b:Nat){k t:Nat}{cs:List Value}[hb:l7 H b k cs t]:bG w b 0 cs:=λj v hj=>by rw[dM];exact h.mj k hb.at' hj
section
variable {P:Program} {ro:Option Nat} {N:Nat} {ds:List Deferred} {S:Nat->Prop} {w0:World} {L L':List (Nat×Value)} {H H':List bN} {a:Act} {w:World}
 {ops:Array Oper} {rest:List Oper} {Q:Exit->Act->World->Prop} {p:Act->World->Prop} {x y:Operand}
instance{T b off:Nat}{v:Value}[h:OneCell P T][hx:Ev L x (.pointer (some ⟨b,off,none⟩))][hc:fe H b off v]:dz P N ds S w0 L H (.load T x) v:=
 ⟨λ_ h=>(by cases h),λ_ _ h=>(by cases h),λ_ _ _ _ _ a w hF hW=>by simp[execOp,hx.eq _ _ _ hF,tN (hc.eq _ _ _ hW)]⟩
instance(priority:=low){T b o j t n:Nat}{cs vs:List Value}[h:d_ P T n][hx:Ev L x (.pointer (some ⟨b,o,none⟩))][hb:l7 H b j cs t][hp:sV cs o n vs]:dz P N ds S w0 L H (.load T x) (.agg vs.toArray):=
 ⟨λ_ h=>(by cases h),λ_ _ h=>(by cases h),λ_ _ _ _ _ a w hF hW=>by
  have:=lX (P:=P) (T:=T) hp.len (λi v hv=>hW.mj j hb.at' (hp.eq i v hv):bG w b o vs)
  simp[execOp,hx.eq _ _ _ hF,this]⟩
instance(priority:=low){T b o f n:Nat}{cs vs:List Value}[h:d_ P T n][hx:Ev L x (.pointer (some ⟨b,o+f,none⟩))][hc:a_ w0 b o cs][hp:sV cs f n vs][hs:eI S b]:dz P N ds S w0 L H (.load T x) (.agg vs.toArray):=
 ⟨λ_ h=>(by cases h),λ_ _ h=>(by cases h),λ_ _ _ _ _ a w hF hW=>by
  have:=lX (P:=P) (T:=T) hp.len (λi v hv=>by rw[dA];exact hW.zL (hc.eq _ _ (hp.eq i v hv)) hs.no:bG w b (o+f) vs)
  simp[execOp,hx.eq _ _ _ hF,this]⟩
instance(priority:=low){b j:Nat}{cs:List Value}{v:Value}{w:World}[h:a_ w b 0 cs][hv:dm cs j v]:xD w b j v:=⟨by simpa using h.eq j v hv.at'⟩
instance(priority:=low){T b f n:Nat}{cs vs:List Value}[h:d_ P T n][hx:Ev L x (.pointer (some ⟨b,f,none⟩))][hc:a_ w0 b 0 cs][hp:sV cs f n vs][hs:eI S b]:dz P N ds S w0 L H (.load T x) (.agg vs.toArray):=
 ⟨λ_ h=>(by cases h),λ_ _ h=>(by cases h),λ_ _ _ _ _ a w hF hW=>by
  have:=lX (P:=P) (T:=T) hp.len (λi v hv=>by have h1:=hc.eq _ _ (hp.eq i v hv);rw[dM]at h1;exact hW.zL h1 hs.no:bG w b f vs)
  simp[execOp,hx.eq _ _ _ hF,this]⟩
class UQ(P:Program)(T:Nat)(n s:outParam Nat):Prop where
 oI:P.underlying T=some (.array (P.arrayLen T) (P.elem T))
 len:P.arrayLen T=n
 sz:∀w:World,(sizeOf (P.elem T)).run P w=.ok s w
instance{T b o n i s:Nat}{z:Int}[hx:Ev L x (.pointer (some ⟨b,o,none⟩))][hy:Ev L y (.int .i64 z)][hz:ky z i][h:UQ P T n s][hi:bZ i n]:dz P N ds S w0 L H (.indexAddr T x y) (.pointer (some ⟨b,o+i*s,none⟩)):=
 ⟨λ_ h=>(by cases h),λ_ _ h=>(by cases h),λ_ _ _ _ _ a w hF _=>by
  have h1:=hx.eq _ _ _ hF
  have h2:=hy.eq _ _ _ hF
  rw[hz.eq]at h2
  have bT:=hi.lt
  simp[execOp,h1,h2,run_indexAt_array w T ⟨b,o,none⟩ .i64 i h.oI,h.sz,h.len,bT,Addr.add_lit]⟩
class NR(P:Program)(T:Nat):Prop where
 oI:P.underlying T=some .string
instance{T:Nat}{s:ByteArray}[hx:Ev L x (.string s)][h:NR P T]:dz P N ds S w0 L H (.call {callee:=.builtin .len,args:=#[x],argTypes:=#[T]}) (.int .i64 s.size):=
 ⟨λ_ h=>(by cases h),λ_ _ h=>(by cases h),λ_ ty _ _ _ a w hF _=>by simp[execOp,resolve,invoke,builtin,hx.eq _ _ _ hF,run_len_string w T ty s h.oI,goInt]⟩
class NL(s:ByteArray)(i:Nat)(c:outParam Int):Prop where
 lt:i<s.size
 eq:((s[i]'lt).toNat:Int)=c
instance{T i:Nat}{s:ByteArray}{z c:Int}[hx:Ev L x (.string s)][hy:Ev L y (.int .i64 z)][hz:ky z i][hb:NL s i c][h:NR P T]:dz P N ds S w0 L H (.index T x y) (.int .u8 c):=
 ⟨λ_ h=>(by cases h),λ_ _ h=>(by cases h),λ_ _ _ _ _ a w hF _=>by
  have h1:=hx.eq _ _ _ hF
  have h2:=hy.eq _ _ _ hF
  rw[hz.eq]at h2
  have bT:=hb.lt
  have he:=hb.eq
  simp[execOp,h1,h2,run_index_string w T s .i64 i h.oI,bT,he]⟩
instance{vs:List Value}{i:Nat}{v:Value}[hx:Ev L x (.tuple vs.toArray)][hv:dm vs i v]:dz P N ds S w0 L H (.extract x i) v:=
 ⟨λ_ h=>(by cases h),λ_ _ h=>(by cases h),λ_ _ _ _ _ a w hF _=>by simp[execOp,hx.eq _ _ _ hF,Instr.extract,hv.at']⟩
theorem Dz{T T2:Nat}{m n:Int}[hx:Ev L x (.int .i64 m)][hy:Ev L y (.int .i64 n)]:dz P N ds S w0 L H (.binOp .add T x y T2) (.int .i64 (IntKind.i64.wrap (m+n))):=
 fu (λ_=>rfl) λw=>by rw[binOp_add];simp[Op.intArith]
theorem Fr.RQ(h:Fr N ds L a){j t:Nat}[hj:wq ops j t][hb:gF L t undef]:yielded ops a.tmps j=none:=by
 have:=h.slot _ hb.mem;simp only at this;simp[yielded,hj.eq,this,undef]
theorem zO{d ty j t:Nat}{want:Bool}{pos:String}{aft:Array Go.Edge}{op:Op}[hj:wq ops j t][hb:gF L t undef](hd:dj d N L=true)
  (k:G N ds S w0 ((d,undef)::L) H (wpListIn (FW ro) 0 P ops Q rest)):G N ds S w0 L H (wpListIn (FW ro) 0 P ops Q (⟨some d,op,ty,pos,aft,some (j,want)⟩::rest)):=by
 intro a w hS;refine wpListIn_step λK hK=>?_;have h1:Region.wanted (⟨some d,op,ty,pos,aft,some (j,want)⟩:Oper) (yielded ops a.tmps)=false:=by
  simp only[Region.wanted,hS.fr.RQ (ops:=ops) (j:=j)]
  rfl
 rw[h1];exact⟨λ_ _=>trivial,hK _ _ (k _ _ ⟨hS.fr.dP hd undef,hS.wd⟩)⟩
theorem KP{Qq:Act->Prop}{d ty j t:Nat}{want:Bool}{pos:String}{aft:Array Go.Edge}{op:Op}[hj:wq ops j t][hb:gF L t undef](hd:dj d N L=true)
  (k:GQ N ds ((d,undef)::L) (wpQuiet P ops (Wd S w0 H) Qq rest)):GQ N ds L (wpQuiet P ops (Wd S w0 H) Qq (⟨some d,op,ty,pos,aft,some (j,want)⟩::rest)):=by
 intro a hF;refine BigFrame.wpQuiet_skip ?_ (k _ (hF.dP hd undef));simp only[Region.wanted,hF.RQ (ops:=ops) (j:=j)]
 rfl
class wu(l:List Oper)(d:Nat)(l1 l2:outParam (List Oper)):Prop where
 eq:∃n,l.take n=l1/\l.drop n=l2
instance(priority:=2000)(d ty:Nat)(op:Op)(pos:String)(aft:Array Go.Edge)(gd:Option (Nat×Bool))(l:List Oper):wu (⟨some d,op,ty,pos,aft,gd⟩::l) d [⟨some d,op,ty,pos,aft,gd⟩] l:=⟨1,by simp,by simp⟩
instance(d:Nat)(o:Oper)(l l1 l2:List Oper)[h:wu l d l1 l2]:wu (o::l) d (o::l1) l2:=⟨by
 obtain⟨n,h1,h2⟩:=h.eq
 exact⟨n+1,by simp[h1],by simp[h2]⟩⟩
theorem kF{l l1 l2:List Oper}(d:Nat)(val:Value)[hs:wu l d l1 l2]
  (h1:G N ds S w0 L H (wpListIn (FW ro) 0 P ops (Exit.then (St N ds S w0 ((d,val)::L) H) Q) l1))
  (h2:G N ds S w0 ((d,val)::L) H (wpListIn (FW ro) 0 P ops Q l2)):G N ds S w0 L H (wpListIn (FW ro) 0 P ops Q l):=λa w hS=>by
 obtain⟨n,e1,e2⟩:=hs.eq;exact yI (M:=St N ds S w0 ((d,val)::L) H) n (λa w h=>by rw[e2];exact h2 a w h) (by rw[e1];exact h1 a w hS)
theorem U3{c y:Code}(L':List (Nat×Value))(H':List bN)(h1:G N ds S w0 L H (Code.wpIn (FW ro) 0 P c (Exit.then (St N ds S w0 L' H') Q)))(h2:G N ds S w0 L' H' (Code.wpIn (FW ro) 0 P y Q)):G N ds S w0 L H (Code.wpIn (FW ro) 0 P c (Exit.then (Code.wpIn (FW ro) 0 P y Q) Q)):=λa w hS=>
 Code.wpIn_mono (λe a' w' q=>by
  cases e with
  |normal=>exact h2 a' w' q
  |_=>exact q) (h1 a w hS)
theorem eW(k:Nat){ad:Option Addr}{n c e s:Nat}{xs:List Value}(hk:H[k]?=some (ai ad n c e s xs))(hn:0<n)(h:∀b o,ad=some ⟨b,o,none⟩->G N ds S w0 L H p):G N ds S w0 L H p:=λa w hS=>by
 obtain⟨_,h2⟩:=hS.wd.get hk;rcases h2 with⟨_,h2,_⟩|⟨g,pre,sp,h2,_⟩
 ·omega
 ·exact h _ _ h2 a w hS
theorem zP(k:Nat){ad:Option Addr}{n c e s:Nat}{xs:List Value}(hk:H[k]?=some (ai ad n c e s xs))(h:xs.length=n*s->n<=c->c<=9223372036854775807->G N ds S w0 L H p):G N ds S w0 L H p:=λa w hS=>by
 obtain⟨h1,h2⟩:=hS.wd.get hk;rcases h2 with⟨_,h2,h3⟩|⟨g,pre,sp,_,h3,h4,_⟩
 ·exact h h1 ag ag a w hS
 ·exact h h1 h3 (by simpa[maxLen]using h4) a w hS
theorem fq(e s:Nat)(h:G N ds S w0 L (ai none 0 0 e s []::H) p):G N ds S w0 L H p:=λa w hS=>h a w ⟨hS.fr,hS.wd.Bm e s⟩
theorem pB{ty T b off k o j n c e s:Nat}[h:OneCell P T]{xs Se:List Value}{v:Value}{pos:String}{aft:Array Go.Edge}
  [hx:Ev L x (.pointer (some ⟨b,off,none⟩))] [hy:Ev L y v] [h1:xF v] [hb:mT H b off k o j n c e s xs] [hu:lN xs j v Se] [hH:qi H k (ai (some ⟨b,o,none⟩) n c e s Se) H']
  (kk:G N ds S w0 L H' (wpListIn (FW ro) 0 P ops Q rest)):G N ds S w0 L H (wpListIn (FW ro) 0 P ops Q (⟨none,.store T x y,ty,pos,aft,none⟩::rest)):=by
 intro a w hS;obtain⟨_,_,_,pre,sp,Em,_,IB⟩:=hS.wd.km hb.at';have e1:=hb.eq;subst e1;have bT:=hu.lt;refine step_skip (w':=w.setCell ⟨b,o+j,none⟩ v) rfl (λ_ h=>by cases h) ?_ ?_
 ·have hc:=hS.wd.cK hb.at' (aB bT)
  have:=kW (P:=P) (T:=T) h1.one hc (by simp[World.frozen?,IB]);simp[execOp,hx.eq _ _ _ hS.fr,hy.eq _ _ _ hS.fr,this]
 ·refine kk _ _ ⟨hS.fr,?_⟩
  have:=hS.wd.JA v hb.at' bT;rw[hu.eq,hH.zG]at this;exact this
theorem nD(zs:List Value)(n:Nat):(madeCells zs.toArray (n*zs.length)).toList=(List.replicate n zs).flatten:=by
 cases zs with
 |nil=>simp[madeCells]
 |cons z zs=>
  apply cf;intro i;have h0:0<(z::zs).length:=by simp
  rw[show(madeCells (z::zs).toArray (n*(z::zs).length)).toList[i]?=(madeCells (z::zs).toArray (n*(z::zs).length))[i]? by simp]
  by_cases hi:i<n*(z::zs).length
  ·have e:((List.replicate n (z::zs)).flatten)[i]?=(z::zs)[i%(z::zs).length]?:=by
    clear h0
    induction n generalizing i with
    |zero=>simp at hi
    |succ n ih=>
     rw[List.replicate_succ,List.flatten_cons]
     by_cases h1:i<(z::zs).length
     ·rw[dG h1,Nat.mod_eq_of_lt h1]
     ·rw[dg ag,ih (i-(z::zs).length) (by rw[i_]at hi;omega)]
      rw[Nat.mod_eq_sub_mod (a:=i) ag]
   rw[e];have bT:i%(z::zs).length<(z::zs).length:=Nat.mod_lt _ h0;have hm:(madeCells (z::zs).toArray (n*(z::zs).length))[i]?=some ((z::zs).toArray[i%(z::zs).toArray.size]!):=by
    unfold madeCells;simp only[Array.getElem?_map];rw[Array.getElem?_range];rw[if_pos hi];rfl
   rw[hm,aB bT];simp[getElem!_def];rw[aB (by simpa using bT)]
  ·have e1:(madeCells (z::zs).toArray (n*(z::zs).length)).size<=i:=by unfold madeCells;simp at hi⊢;omega
   have e2:((List.replicate n (z::zs)).flatten).length<=i:=by rw[List.length_flatten];simp at hi⊢;omega
   rw[vp e1,bM e2]
theorem Wv{d ty T e jZ n:Nat}{z1 z2:Int}{z:Value}{pos:String}{aft:Array Go.Edge}[h:cB P T e 1 jZ [z]][hx:Ev L x (.int .i64 z1)][E9:ky z1 n][hy:Ev L y (.int .i64 z2)][Ml:ky z2 n](hd:dj d N L=true)(hb:jZ*n<=281474976710656)(hm:n<=9223372036854775807)
  (k:∀b,w0.heap.size<=b->G N ds S w0 ((d,.slice (some ⟨b,0,none⟩) n n)::L) (ai (some ⟨b,0,none⟩) n n e 1 (List.replicate n z)::H) (wpListIn (FW ro) 0 P ops Q rest)):G N ds S w0 L H (wpListIn (FW ro) 0 P ops Q (⟨some d,.makeSlice T x y,ty,pos,aft,none⟩::rest)):=by
 intro a w hS;obtain⟨i,zz,hi,PU,fZ,h1,h2⟩:=h.get;have h3:=hx.eq _ _ _ hS.fr;have h4:=hy.eq _ _ _ hS.fr;rw[E9.eq]at h3;rw[Ml.eq]at h4;have OM:(i.bytes:Int)*(n:Int)<=281474976710656:=by
  have e:((jZ*n:Nat):Int)<=281474976710656:=ag;rw[Int.natCast_mul]at e;rw[h2];exact e
 have hr:=run_make (P:=P) w T e i zz h.oI hi PU .i64 .i64 (n:Int) (n:Int) ag (Int.le_refl _) OM ag;have mM:madeCells zz.cells ((n:Int).toNat*i.size)=(List.replicate n z).toArray:=by
  have:=nD [z] n;rw[h1,fZ,dD];simp only[jL]at this;rw[show(List.replicate n [z]).flatten=List.replicate n z by simp]at this;rw[<-this]
 refine eG (v:=.slice (some ⟨w.heap.size,0,none⟩) n n) (w':=w.alloc (.cells (List.replicate n z).toArray e)) rfl (λ_ h=>by cases h) ?_ ?_
 ·simp only[dD]at hr mM
  simp[execOp,h3,h4,hr,mM]
 ·exact k _ hS.wd.size _ _ ⟨hS.fr.dP hd _,hS.wd.we e 1 n _ (by rw[ef,fB]) (by unfold maxLen;omega)⟩
theorem FI(v:Value)(cs zs:List Value)(hv:v.cells.toList=cs)(hz:zs.length=cs.length):Instr.fill (λi=>some (i*cs.length,cs.length)) zs.toArray [(0,v)]=some cs.toArray:=by
 have hs:v.cells.size=cs.length:=by rw[<-hv];simp
 have hf:=xK cs zs 0 0 ag;have e:v.cells=cs.toArray:=by rw[<-hv]
 have hp:rC zs 0 cs=cs:=by
  rw[<-xe zs 0 cs ag];simp[hz]
 simp only[Instr.fill];rw[if_neg (by simp[hs,hz])];rw[e];simp only[Nat.zero_mul];simp only[dL]at hf;rw[hp]at hf;simpa using hf
theorem Oi{d ty T e jZ:Nat}{zs cs:List Value}{s:Nat}{v:Value}{pos:String}{aft:Array Go.Edge}[h:cB P T e s jZ zs][hx:Ev L x v][hv:iG v cs][hl:kx cs s](hd:dj d N L=true)(hs:((Nat.blt 0 s&&Nat.ble s 1000)&&Nat.beq zs.length s)=true)
  (k:∀b,w0.heap.size<=b->G N ds S w0 ((d,.slice (some ⟨b,0,none⟩) 1 1)::L) (ai (some ⟨b,0,none⟩) 1 1 e s cs::H) (wpListIn (FW ro) 0 P ops Q rest)):G N ds S w0 L H (wpListIn (FW ro) 0 P ops Q (⟨some d,.buildSlice T 1 #[(0,x)],ty,pos,aft,none⟩::rest)):=by
 intro a w hS;obtain⟨i,zz,hi,PU,fZ,h1,h2⟩:=h.get;simp only[Bool.and_eq_true,Nat.blt_eq,Nat.ble_eq]at hs;have hle:=hl.eq;refine eG (v:=.slice (some ⟨w.heap.size,0,none⟩) 1 1) (w':=w.alloc (.cells cs.toArray e)) rfl (λ_ h=>by cases h) ?_ ?_
 ·have hr:=run_buildSlice (P:=P) w T e 1 #[(0,v)] cs.toArray i zz h.oI hi PU (by rw[h1];omega) (by rw[h1];omega) (by
   rw[h1,<-hle];have:=FI v cs ((Array.range (1*cs.length)).map (zz.cells[·%zz.cells.size]!)).toList hv.eq aH;rw[Array.toArray_toList]at this;exact this)
  simp[execOp,hx.eq _ _ _ hS.fr,hr]
 ·exact k _ hS.wd.size _ _ ⟨hS.fr.dP hd _,hS.wd.we e s 1 _ ag (by simp[maxLen])⟩
theorem FH:∀(vs:List Value) (i:Nat) (pre zs:List Value),(∀v∈vs,v.oneCell'=true)->pre.length=i->zs.length=vs.length->Instr.fill (λi=>some (i*1,1)) (pre++zs).toArray (td i vs)=some (pre++vs).toArray
 |[],i,pre,zs,_,_,hz=>by
  have:zs=[]:=kN (by simpa using hz);subst this;rfl
 |v::vs,i,pre,[],_,_,hz=>by simp at hz
 |v::vs,i,pre,z::zs,h1,hp,hz=>by
  have fZ:v.cells= #[v]:=by have:=h1 v aH;cases v<;>first|rfl|cases this
  simp only[td,Instr.fill,fZ];rw[if_neg (by simp;omega)];have e:(Array.foldl (λ(cs:Array Value) (x:Value×Nat)=>cs.setIfInBounds (i*1+x.2) x.1) (pre++z::zs).toArray (#[v]:Array Value).zipIdx)=((pre++[v])++zs).toArray:=by
   subst hp;simp
  rw[e];have:=FH vs (i+1) (pre++[v]) zs (λu hu=>h1 u (cJ _ hu)) (by simp[hp]) (by simpa using hz);simpa using this
class JK(parts:List (Nat×Value))(vs:outParam (List Value))(i:Nat):Prop where
 eq:parts=td i vs
instance(i:Nat):JK [] [] i:=⟨rfl⟩
instance(i j:Nat)(v:Value)(r:List (Nat×Value))(vs:List Value)[hj:gk i j][h:JK r vs j]:JK ((i,v)::r) (v::vs) i:=⟨by simp only[td];rw[hj.eq,<-h.eq]⟩
theorem Oj{d ty T e jZ n:Nat}{sG:List (Nat×Value)}{parts:List (Nat×Operand)}{vs:List Value}{z:Value}{pos:String}{aft:Array Go.Edge}[h:cB P T e 1 jZ [z]][hx:Zx L parts sG][hv:JK sG vs 0][hl:kx vs n][h1:sU vs](hd:dj d N L=true)(hs:(Nat.blt 0 n&&Nat.ble n 1000)=true)
  (k:∀b,w0.heap.size<=b->G N ds S w0 ((d,.slice (some ⟨b,0,none⟩) n n)::L) (ai (some ⟨b,0,none⟩) n n e 1 vs::H) (wpListIn (FW ro) 0 P ops Q rest)):G N ds S w0 L H (wpListIn (FW ro) 0 P ops Q (⟨some d,.buildSlice T n parts.toArray,ty,pos,aft,none⟩::rest)):=by
 intro a w hS;obtain⟨i,zz,hi,PU,fZ,h2,h3⟩:=h.get;simp only[Bool.and_eq_true,Nat.blt_eq,Nat.ble_eq]at hs;have hle:=hl.eq;refine eG (v:=.slice (some ⟨w.heap.size,0,none⟩) n n) (w':=w.alloc (.cells vs.toArray e)) rfl (λ_ h=>by cases h) ?_ ?_
 ·have hr:=run_buildSlice (P:=P) w T e n sG.toArray vs.toArray i zz h.oI hi PU (by rw[h2];omega) (by rw[h2];omega) (by
   rw[h2,hv.eq];have:=FH vs 0 [] ((Array.range (n*1)).map (zz.cells[·%zz.cells.size]!)).toList h1.all rfl (by simp[hle]);rw[aT,aT,Array.toArray_toList]at this;exact this)
  have e1:(parts.toArray.map λ(p:Nat×Operand)=>(p.1,a.eval p.2))=sG.toArray:=by
   simp only[List.map_toArray];rw[hx.eq _ _ _ hS.fr]
  simp only[execOp,Sem.run_bind];rw[e1,hr]
  rfl
 ·exact k _ hS.wd.size _ _ ⟨hS.fr.dP hd _,hS.wd.we e 1 n _ ag (by simp[maxLen];omega)⟩
theorem Wd.append(hW:Wd S w0 H w){T ty e s jZ:Nat}{zs:List Value}(h:cB P T e s jZ zs)(hs:0<s){k:Nat}{ad:Option Addr}{n c:Nat}{xs:List Value}(hk:H[k]?=some (ai ad n c e s xs))
  {a2:Addr} {m c2:Nat} {news:List Value} (hm:0<m) (hl:news.length=m*s) (Pk:∀j u,news[j]?=some u->w.cell? (a2.add j)=some u) (h1:∀u∈news,u.oneCell'=true) (jR:(n+m)*jZ<=140737488355328) (F1:n+m<=140737488355328) (hzs:zs.length=s):
  ∃a' c' w',(Builtin.append_ #[T,T] ty #[.slice ad n c,.slice (some a2) m c2]).run P w=.ok (.slice a' (n+m) c') w'/\Wd S w0 (H.set k (ai a' (n+m) c' e s (xs++news))) w':=by
 obtain⟨i,z,hi,hz,fZ,h2,h3⟩:=h.get;subst h2 h3;obtain⟨zB,Ce⟩:=hW.get hk;have hlen:(xs++news).length=(n+m)*i.size:=by rw[bR,zB,hl,i_]
 have aeF:z.cells.size=i.size:=by rw[fZ];simpa using hzs
 have grown:∀RM,Wd S w0 (H.set k (ai (some ⟨w.heap.size,0,none⟩) (n+m) (grownCap w (n+m) RM e) e i.size (xs++news))) (w.drew.alloc (.cells (xs.toArray++news.toArray++Builtin.zeroCells z.cells (grownCap w (n+m) RM e-(n+m))) e)):=by
  intro RM;have gT:=grownCap_ge w (n+m) RM e;have zS:grownCap w (n+m) RM e<=maxLen:=grownCap_le_maxLen w (n+m) RM e (by simp[maxLen];omega);refine hW.kf hk ⟨rfl,rfl,rfl,by simp,λb hb _=>heap_alloc_old w.drew _ hb⟩ (λb hb=>?_) λw2 jl=>?_
  ·simp only[ai,bz,bW]at hb
   subst hb;exact⟨.inr (bH _),by simp⟩
  ·have:=jl w.heap.size (by simp[ai])
   refine⟨hlen,.inr ⟨w.heap.size,[],(Builtin.zeroCells z.cells (grownCap w (n+m) RM e-(n+m))).toList,rfl,gT,zS,?_,?_⟩⟩
   ·rw[Array.length_toList,size_zeroCells,aeF];exact bH _
   ·rw[this]
    have e1:(xs.toArray++news.toArray++Builtin.zeroCells z.cells (grownCap w (n+m) RM e-(n+m)))=([]++(xs++news)++(Builtin.zeroCells z.cells (grownCap w (n+m) RM e-(n+m))).toList).toArray:=by
     apply Array.toList_inj.1;simp only[Array.toList_append,aT]
    rw[e1];exact heap_alloc_new w.drew _
 rcases Ce with⟨rfl,rfl,rfl⟩|⟨g,pre,sp,rfl,h4,h5,h6,h7⟩
 ·have:xs=[]:=kN (by simpa using zB)
  subst this;have hr:=run_append_nil (P:=P) w T ty e i z h.oI hi hz a2 m c2 news hl Pk hm ag (by have hb:=jR;simp only[dM]at hb;omega);have Vp:=grown 0;simp only[dM,aT,Array.empty_append]at Vp⊢;exact⟨_,_,_,hr,Vp⟩
 ·by_cases ri:n+m<=c
  ·have hmul:(n+m)*i.size<=c*i.size:=py _ ri
   have zy:c*i.size=n*i.size+(c-n)*i.size:=by rw[<-i_];congr 1;omega
   have fW:news.length<=sp.length:=by rw[hl];rw[i_]at hmul;omega
   have hf:=run_firstCells_some (P:=P) w i.size m a2 m c2 news hl Pk;have kr:=run_storeCells_at P g (pre.length+n*i.size) e news 0 (pre++xs++sp).toArray w h7 (by simp[zB];omega) h1;simp only[dL]at kr;have etk:((pre++xs++sp).toArray.toList.take (pre.length+n*i.size)++news++(pre++xs++sp).toArray.toList.drop (pre.length+n*i.size+news.length))=pre++(xs++news)++sp.drop news.length:=by
    have e1:pre.length+n*i.size=(pre++xs).length:=by simp[zB]
    have e2:(pre++xs++sp).toArray.toList=(pre++xs)++sp:=rfl;rw[e1,e2,List.take_left,List.drop_append];simp[dE]
   rw[etk]at kr;refine⟨_,_,_,by simp[Builtin.append_,run_underlying h.oI,sizeOf,typeInfo,hi,Builtin.lenOf,ri,hf,Addr.add_lit,kr];exact⟨⟨rfl,rfl⟩,rfl⟩,?_⟩;have bT:g<w.heap.size:=(fI.1 h7).1;have oj:∀cs,(w.setRow g cs).heap.size=w.heap.size:=λcs=>by simp[World.setRow]
   refine hW.kf hk ⟨rfl,rfl,rfl,by rw[oj];exact bH _,λb hb eH=>setRow_other w g b _ (λe=>eH (by simp[ai,e]))⟩ (λb hb=>?_) λw2 jl=>?_
   ·simp only[ai,bz,bW]at hb⊢
    subst hb;exact⟨.inl rfl,by rw[oj];exact bT⟩
   ·have:=jl g (by simp[ai])
    refine⟨hlen,.inr ⟨g,pre,sp.drop news.length,rfl,ri,h5,?_,?_⟩⟩
    ·rw[ez,hl]
     have:(c-(n+m))*i.size=(c-n)*i.size-m*i.size:=by rw[<-Nat.sub_mul];congr 1;omega
     omega
    ·rw[this]
     have:=setRow_heap w g _ (pre++(xs++(news++List.drop news.length sp))).toArray e _ h7;simpa using this
  ·have holds:∀j u,xs[j]?=some u->w.cell? ((⟨g,pre.length,none⟩:Addr).add j)=some u:=λj u hj=>by
    rw[Addr.add_lit];exact hW.cK hk hj
   have hr:=run_append_grow (P:=P) w T ty e i z h.oI hi hz ⟨g,pre.length,none⟩ n c xs zB holds a2 m c2 news hl Pk ag ag (growslice_fits ag jR);exact⟨_,_,_,hr,grown c⟩
theorem mq{d ty T e s jZ:Nat}{zs:List Value}{pos:String}{aft:Array Go.Edge}{ad:Option Addr}{n c k:Nat}{xs:List Value}{b2 o2 m c2 k2 e2:Nat}{news:List Value}[h:cB P T e s jZ zs][hx:Ev L x (.slice ad n c)][hy:Ev L y (.slice (some ⟨b2,o2,none⟩) m c2)]
  [hv:sX H ad n c k e s xs] [Cd:sX H (some ⟨b2,o2,none⟩) m c2 k2 e2 s news] [h1:sU news] (hd:dj d N L=true) (hs:((Nat.blt 0 s&&Nat.blt 0 m)&&Nat.beq zs.length s)=true) (jR:(n+m)*jZ<=140737488355328) (F1:n+m<=140737488355328)
  {F:bN->List bN} [hF:CL H k F] (kk:∀a' c',G N ds S w0 ((d,.slice a' (n+m) c')::L) (F (ai a' (n+m) c' e s (xs++news))) (wpListIn (FW ro) 0 P ops Q rest)):G N ds S w0 L H (wpListIn (FW ro) 0 P ops Q (⟨some d,.call {callee:=.builtin .append,args:=#[x,y],argTypes:=#[T,T]},ty,pos,aft,none⟩::rest)):=by
 intro a w hS;simp only[Bool.and_eq_true,Nat.blt_eq]at hs;obtain⟨hl,_⟩:=hS.wd.km Cd.at';obtain⟨a',c',w',hr,dO⟩:=hS.wd.append (P:=P) (ty:=ty) (c2:=c2) h hs.1.1 hv.at' hs.1.2 hl (λj u hj=>by rw[Addr.add_lit];exact hS.wd.cK Cd.at' hj) h1.all jR F1 (px hs.2);refine eG (v:=.slice a' (n+m) c') (w':=w') rfl (λ_ h=>by cases h) ?_ ?_
 ·simp[execOp,resolve,invoke,builtin,hx.eq _ _ _ hS.fr,hy.eq _ _ _ hS.fr,hr]
 ·rw[hF.eq]at dO
  exact kk a' c' _ _ ⟨hS.fr.dP hd _,dO⟩
theorem gq{d ty T e s jZ:Nat}{zs:List Value}{pos:String}{aft:Array Go.Edge}{ad:Option Addr}{n c:Nat}(k:Nat){xs:List Value}{b2 o2 m c2 k2 e2:Nat}{news:List Value}[h:cB P T e s jZ zs][hx:Ev L x (.slice ad n c)][hy:Ev L y (.slice (some ⟨b2,o2,none⟩) m c2)]
  (hk:H[k]?=some (ai ad n c e s xs)) [Cd:sX H (some ⟨b2,o2,none⟩) m c2 k2 e2 s news] [h1:sU news] (hd:dj d N L=true) (hs:((Nat.blt 0 s&&Nat.blt 0 m)&&Nat.beq zs.length s)=true) (jR:(n+m)*jZ<=140737488355328) (F1:n+m<=140737488355328)
  (kk:∀a' c',G N ds S w0 ((d,.slice a' (n+m) c')::L) (H.set k (ai a' (n+m) c' e s (xs++news))) (wpListIn (FW ro) 0 P ops Q rest)):G N ds S w0 L H (wpListIn (FW ro) 0 P ops Q (⟨some d,.call {callee:=.builtin .append,args:=#[x,y],argTypes:=#[T,T]},ty,pos,aft,none⟩::rest)):=by
 intro a w hS;simp only[Bool.and_eq_true,Nat.blt_eq]at hs;obtain⟨hl,_⟩:=hS.wd.km Cd.at';obtain⟨a',c',w',hr,dO⟩:=hS.wd.append (P:=P) (ty:=ty) (c2:=c2) h hs.1.1 hk hs.1.2 hl (λj u hj=>by rw[Addr.add_lit];exact hS.wd.cK Cd.at' hj) h1.all jR F1 (px hs.2);refine eG (v:=.slice a' (n+m) c') (w':=w') rfl (λ_ h=>by cases h) ?_ ?_
 ·simp[execOp,resolve,invoke,builtin,hx.eq _ _ _ hS.fr,hy.eq _ _ _ hS.fr,hr]
 ·exact kk a' c' _ _ ⟨hS.fr.dP hd _,dO⟩
theorem fg{H1:List bN}(h:H=H1)(k:G N ds S w0 L H1 p):G N ds S w0 L H p:=h▸k
theorem bj{H1:List bN}(h:H.Perm H1)(k:G N ds S w0 L H1 p):G N ds S w0 L H p:=λa w hS=>k a w ⟨hS.fr,hS.wd.perm h⟩
theorem Wd.KE(h:Wd S w0 H w)(e s:Nat):∀n:Nat,Wd S w0 (List.replicate n (ai none 0 0 e s [])++H) w
 |0=>h
 |n+1=>(Wd.KE h e s n).Bm e s
theorem kS(e s n:Nat)(h:G N ds S w0 L (H++List.replicate n (ai none 0 0 e s [])) p):G N ds S w0 L H p:=λa w hS=>h a w ⟨hS.fr,(hS.wd.KE e s n).perm dH⟩
theorem Wx{d ty T e s jZ:Nat}{zs:List Value}{pos:String}{aft:Array Go.Edge}{ad:Option Addr}{n c k:Nat}{xs:List Value}[h:cB P T e s jZ zs][hx:Ev L x (.slice ad n c)]
  [hv:sX H ad n c k e s xs] (hd:dj d N L=true) (hn:0<n)
  {F:bN->List bN} [hF:CL H k F] (kk:∀a',G N ds S w0 ((d,.slice a' (n-1) (c-1))::L) (F (ai a' (n-1) (c-1) e s (xs.drop s))) (wpListIn (FW ro) 0 P ops Q rest)):G N ds S w0 L H (wpListIn (FW ro) 0 P ops Q (⟨some d,.slice T x (some (.const (.int .i64 1))) none none,ty,pos,aft,none⟩::rest)):=by
 intro a w hS;simp only[<-hF.eq]at kk;obtain⟨zB,Ce⟩:=hS.wd.get hv.at';rcases Ce with⟨_,h0,_⟩|⟨g,pre,sp,rfl,h4,h5,h6,h7⟩
 ·omega
 obtain⟨i,z,hi,hz,fZ,h2,h3⟩:=h.get;have iK:P.elem T=e:=by simp[Program.elem,h.oI]
 have oj:∀w:World,(sizeOf (P.elem T)).run P w=.ok s w:=λw=>by rw[iK];simp[sizeOf,typeInfo,hi,h2]
 have hr:=run_slice_l (P:=P) w T (some ⟨g,pre.length,none⟩) n c (by rw[iK];exact h.oI) .i64 1 ag ag;have hsn:s<=xs.length:=by rw[zB];exact Nat.le_mul_of_pos_left _ hn
 have bT:g<w.heap.size:=(fI.1 h7).1;have fin:∀MT,(∃q,MT++xs.drop s++sp=pre++xs++sp/\q=MT.length)->Wd S w0 (H.set k (ai (some ⟨g,MT.length,none⟩) (n-1) (c-1) e s (xs.drop s))) w:=by
  intro MT ⟨_,hq,_⟩;refine hS.wd.kf hv.at' (lL.refl _ _) (λb hb=>?_) λw2 jl=>?_
  ·simp only[ai,bz,bW]at hb⊢
   subst hb;exact⟨.inl rfl,bT⟩
  ·have:=jl g (by simp[ai])
   refine⟨by rw[ez,zB,Nat.sub_mul,Nat.one_mul],.inr ⟨g,MT,sp,rfl,ag,ag,?_,?_⟩⟩
   ·rw[show c-1-(n-1)=c-n by omega];exact h6
   ·rw[this,hq];exact h7
 by_cases hc:c=1
 ·have hn1:n=1:=ag
  subst hc hn1;refine eG (v:=.slice (some ⟨g,pre.length,none⟩) 0 0) (w':=w) rfl (λ_ h=>by cases h) ?_ ?_
  ·have ec:a.eval (.const (.int .i64 1))=.int .i64 1:=rfl
   simp[execOp,hx.eq _ _ _ hS.fr,ec,run_sliceAt_slice (P:=P) w T _ _ _ _ (by rw[iK];exact h.oI),hr,oj,sliced]
  ·refine kk (some ⟨g,pre.length,none⟩) _ _ ⟨hS.fr.dP hd _,?_⟩
   have hd0:xs.drop s=[]:=List.drop_of_length_le ag;refine hS.wd.kf hv.at' (lL.refl _ _) (λb hb=>?_) λw2 jl=>?_
   ·simp only[ai,bz,bW]at hb⊢
    subst hb;exact⟨.inl rfl,bT⟩
   ·have:=jl g (by simp[ai])
    refine⟨by simp[hd0],.inr ⟨g,pre,xs++sp,rfl,ag,ag,by simp,?_⟩⟩;rw[this,hd0,h7];simp
 ·refine eG (v:=.slice (some ⟨g,pre.length+s,none⟩) (n-1) (c-1)) (w':=w) rfl (λ_ h=>by cases h) ?_ ?_
  ·have ec:a.eval (.const (.int .i64 1))=.int .i64 1:=rfl
   simp[execOp,hx.eq _ _ _ hS.fr,ec,run_sliceAt_slice (P:=P) w T _ _ _ _ (by rw[iK];exact h.oI),hr,oj,sliced,hc,Addr.add_lit]
  ·refine kk (some ⟨g,pre.length+s,none⟩) _ _ ⟨hS.fr.dP hd _,?_⟩
   have:=fin (pre++xs.take s) ⟨_,by rw[dE,dE,dE];congr 1;rw[<-dE,pw],rfl⟩;rw[bR,cU,iA hsn]at this;exact this
theorem JY{d ty f:Nat}{args:List Operand}{us vs xs:List Value}{og:Array Nat}{pos:String}{aft:Array Go.Edge}(R:World->Value->World->Prop)[h:aS P f][hx:zk L args vs][hf:Ev L x (.func (.func f) us.toArray xs.toArray)](hd:dj d N L=true)
  (hc:∀w,Wd S w0 H w->gV P f (us++vs++xs) w (R w))
  (k:∀v w w',Wd S w0 H w->R w v w'->∀a,Fr N ds ((d,v)::L) a->wpListIn (FW ro) 0 P ops Q rest a w'):G N ds S w0 L H (wpListIn (FW ro) 0 P ops Q (⟨some d,.call {callee:=.value x,args:=args.toArray,argTypes:=og},ty,pos,aft,none⟩::rest)):=by
 intro a w hS;refine wpListIn_plain rfl λK hK=>?_;refine⟨λ_ _=>trivial,?_⟩;rw[tO _ _ _ (λ_ h=>by cases h)];have hr:(execOp a.eval ⟨some d,.call {callee:=.value x,args:=args.toArray,argTypes:=og},ty,pos,aft,none⟩).run P w=.ok (.enter f (us++vs++xs).toArray) w:=by
  simp[execOp,resolve,hf.eq _ _ _ hS.fr,Deferred.ofValue,invoke,hx.eq _ _ _ hS.fr,h.run]
 rw[hr];refine⟨λh=>(by cases h),?_⟩;refine CallsIn.mono (R:=λe w'=>∃v,e=.returned v/\R w v w') (hc w hS.wd) λe w' ⟨v,he,hR⟩=>?_;subst he;exact hK _ _ (k v w w' hS.wd hR _ (hS.fr.dP hd v))
theorem kD{d ty f:Nat}{args:List Operand}{us vs xs:List Value}{og:Array Nat}{pos:String}{aft:Array Go.Edge}{u:Value}[h:aS P f][hx:zk L args vs][hf:Ev L x (.func (.func f) us.toArray xs.toArray)](hd:dj d N L=true)
  (hc:∀w,Wd S w0 H w->fi P f (us++vs++xs) w u)
  (k:G N ds S w0 ((d,u)::L) H (wpListIn (FW ro) 0 P ops Q rest)):G N ds S w0 L H (wpListIn (FW ro) 0 P ops Q (⟨some d,.call {callee:=.value x,args:=args.toArray,argTypes:=og},ty,pos,aft,none⟩::rest)):=
 JY (λw v w'=>v=u/\lL dh w w') hd hc λv _ w' hw hR a hF=>k a w' ⟨by rw[<-hR.1];exact hF,hw.call hR.2⟩
theorem lY{T n b j t:Nat}{cs:List Value}[h:d_ P T n][hb:l7 H b j cs t][hl:kx cs n](hW:Wd S w0 H w):(loadVar T ⟨b,0,none⟩).run P w=.ok (.agg cs.toArray) w:=by
 have h1:=run_loadCells_list (P:=P) w ⟨b,0,none⟩ cs (λi v hv=>by rw[Addr.add_lit,dM];exact hW.mj j hb.at' hv);rw[hl.eq]at h1;simp[loadVar,h.agg,h.sz,h1]
theorem gH{fn:Func}{R:Value->World->Prop}{t T n b j bt:Nat}{cs:List Value}(hr:fn.results= #[.cell t T])[hv:gF L t (.pointer (some ⟨b,0,none⟩))][h:d_ P T n][hb:l7 H b j cs bt][hl:kx cs n](hR:∀w,Wd S w0 H w->R (.agg cs.toArray) w):G N [] S w0 L H (bodyPost P fn (λe w'=>∃v,e=.returned v/\R v w') .ret):=λa w hS=>by
 refine⟨hS.fr.defers,.agg cs.toArray,?_,_,rfl,hR w hS.wd⟩;have:=lY (P:=P) (T:=T) (b:=b) (cs:=cs) hS.wd;simp[results,hr,sZ,hS.fr.slot _ hv.mem,asAddr,this]
theorem rZ{fn:Func}{R:Value->World->Prop}{s T2 n2 b2 j2 bt2 t T n b j bt:Nat}{cs CN:List Value}(hr:fn.results= #[.cell s T2,.cell t T])[hu:gF L s (.pointer (some ⟨b2,0,none⟩))][h2:d_ P T2 n2][wi:l7 H b2 j2 CN bt2][Kd:kx CN n2][hv:gF L t (.pointer (some ⟨b,0,none⟩))][h:d_ P T n][hb:l7 H b j cs bt][hl:kx cs n](hR:∀w,Wd S w0 H w->R (.tuple #[.agg CN.toArray,.agg cs.toArray]) w):G N [] S w0 L H (bodyPost P fn (λe w'=>∃v,e=.returned v/\R v w') .ret):=λa w hS=>by
 refine⟨hS.fr.defers,_,?_,_,rfl,hR w hS.wd⟩;have h3:=lY (P:=P) (T:=T) (b:=b) (cs:=cs) hS.wd;have h4:=lY (P:=P) (T:=T2) (b:=b2) (cs:=CN) hS.wd;simp[results,hr,sZ,hS.fr.slot _ hv.mem,hS.fr.slot _ hu.mem,asAddr,h3,h4]
def sY(P:Program)(N:Nat)(ds:List Deferred)(S:Nat->Prop)(w0:World)(L:List (Nat×Value))(H:List bN)(ro:Option Nat)(l:List Oper)(Q:Exit->Act->World->Prop)(bE:Nat)(listed:Array Bool):Nat->Prop
 |0=>True
 |i+1=>((Region.ready .any l.toArray listed).contains i=false∨∃o,l[i]?=some o/\G N ds S w0 L H (wpListIn (FW ro) 0 P l.toArray (Exit.then (wpAnyIn (FW ro) 0 P .any l.toArray Q bE (listed.setIfInBounds i true)) Q) [o]))/\sY P N ds S w0 L H ro l Q bE listed i
theorem any_nil{l:List Oper}{bE:Nat}{listed:Array Bool}:sY P N ds S w0 L H ro l Q bE listed 0:=trivial
theorem pt{l:List Oper}{bE i:Nat}{listed:Array Bool}(h1:(Region.ready .any l.toArray listed).contains i=false)(h2:sY P N ds S w0 L H ro l Q bE listed i):sY P N ds S w0 L H ro l Q bE listed (i+1):=⟨.inl h1,h2⟩
theorem any_cons{l:List Oper}{bE i:Nat}{listed:Array Bool}{o:Oper}(h1:G N ds S w0 L H (wpListIn (FW ro) 0 P l.toArray (Exit.then (wpAnyIn (FW ro) 0 P .any l.toArray Q bE (listed.setIfInBounds i true)) Q) [o]))(h2:sY P N ds S w0 L H ro l Q bE listed i)[ho:dm l i o]:sY P N ds S w0 L H ro l Q bE listed (i+1):=⟨.inr ⟨o,ho.at',h1⟩,h2⟩
theorem UM{o:Oper}{M:Act->World->Prop}(h:wpListIn (FW ro) 0 P ops (Exit.then M Q) [o] a w):if Region.wanted o (yielded ops a.tmps)then o.wpIn (FW ro) 0 P a w M Q else(∀f,o.about P w a.eval=some f->(FW ro).fn f)/\M (a.put o.dst undef) w:=by
 unfold wpListIn at h
 split
 ·rename_i hw
  rw[if_pos hw]at h;refine⟨h.1,?_⟩;have h2:=h.2
  revert h2
  generalize (o.semAt (FW ro).round a.eval).run P w=r;intro h2;cases r with
  |ok nx w1=>
   cases nx with
   |value v=>exact h2
   |skip=>exact h2
   |defer d=>exact h2
   |enter f args=>
    refine⟨h2.1,h2.2.mono λe w2 hh=>?_⟩;cases e<;>exact hh
   |row r args=>exact⟨h2.1,h2.2.mono λv w2 hh=>hh⟩
   |round l f tmps assign body=>
    refine⟨h2.1,h2.2.mono λe w2 hh=>?_⟩;cases e<;>exact hh
   |_=>exact h2
  |halt x w1=>cases x<;>exact h2
 ·rename_i hw
  rw[if_neg hw]at h;exact⟨h.1,h.2⟩
theorem Af{l:List Oper}{bE:Nat}{listed:Array Bool}:∀{n:Nat},sY P N ds S w0 L H ro l Q bE listed n->∀i,i<n->i∈Region.ready .any l.toArray listed->G N ds S w0 L H (λa w=>wpOpIn (FW ro) 0 P l.toArray Q i (wpAnyIn (FW ro) 0 P .any l.toArray Q bE (listed.setIfInBounds i true)) a w)
 |0,_,i,hi,_=>ag
 |j+1,⟨h1,h2⟩,i,hi,hm=>by
  by_cases Pa:i=j
  ·subst Pa
   rcases h1 with h1|⟨o,ho,h1⟩
   ·rw[List.contains_iff_mem.2 hm]at h1;cases h1
   ·intro a w hS
    unfold wpOpIn;rw[show l.toArray[i]?=some o by simpa using ho];exact UM (h1 a w hS)
  ·exact Af h2 i ag hm
theorem Q9{l:List Oper}{listed:Array Bool}{i:Nat}(h:i∈Region.ready .any l.toArray listed):i<l.length:=by
 unfold Region.ready at h;have:=cI.1 h;simpa using this.1
theorem AB{l:List Oper}{bE n:Nat}{listed:Array Bool}[hl:Ff l n](eH:(Region.ready .any l.toArray listed).isEmpty=false)(h:sY P N ds S w0 L H ro l Q bE listed n):G N ds S w0 L H (wpAnyIn (FW ro) 0 P .any l.toArray Q (bE+1) listed):=λa w hS=>by
 refine⟨λe=>?_,λi hi=>Af h i (by rw[<-hl.eq];exact Q9 hi) hi a w hS⟩;rw[e]at eH;cases eH
theorem AC{l:List Oper}{listed:Array Bool}(hr:Region.ready .any l.toArray listed=[])(h:G N ds S w0 L H (Q .normal)):G N ds S w0 L H (wpAnyIn (FW ro) 0 P .any l.toArray Q 0 listed):=λa w hS=>⟨hr,h a w hS⟩
def dy(M:Act->World->Prop):Exit->Act->World->Prop
 | .normal,a,w=>M a w
 |_,_,_=>False
def T9:Op->Bool
 | .call _=>false
 |_=>true
theorem fA{l:List Oper}{bE d ty:Nat}(i:Nat){pos:String}{aft:Array Go.Edge}{op:Op}{v:Value}{listed:Array Bool}{M:Act->World->Prop}[ho:dm l i ⟨some d,op,ty,pos,aft,none⟩][h:∀w,dz P N ds dh w L [] op v](hd:(dj d N L&&T9 op)=true)
  (hr:((Region.noSelect l.toArray&&Region.free .any l.toArray listed i)&&(Region.ready .any l.toArray listed).contains i)=true)
  (k:G N ds S w0 ((d,v)::L) H (wpAnyIn (FW none) 0 P .any l.toArray (dy M) bE (listed.setIfInBounds i true))):G N ds S w0 L H (wpAnyIn (FW none) 0 P .any l.toArray (dy M) (bE+1) listed):=λa w hS=>by
 simp only[Bool.and_eq_true]at hr hd;refine wpAnyIn_take (i:=i) (oi:=⟨some d,op,ty,pos,aft,none⟩) (v:=v) rfl (by simpa using ho.at') hr.1.1 hr.1.2 hr.2 (λc a w hh=>hh) ⟨.inl ⟨rfl,λw=>?_⟩,λw=>?_⟩ (k _ _ ⟨hS.fr.dP hd.1 v,hS.wd⟩)
 ·exact(h w).run _ _ _ _ _ a w hS.fr (Wd.nil dh w)
 ·have:=hd.2
  cases op<;>first|rfl|cases this
theorem wM{id n:Nat}{l:List Oper}[hl:Ff l n](L':List (Nat×Value))(H':List bN)(hm:P.follows .mixedOrders=true)
  (h:G N ds S w0 L H (wpAnyIn (FW ro) 0 P .any l.toArray (dy (St N ds S w0 L' H')) n (Array.replicate n false)))
  (k:G N ds S w0 L' H' (Q .normal)):G N ds S w0 L H (Code.wpIn (FW ro) 0 P (Code.region id l.toArray true) Q):=λa w hS=>by
 refine wpIn_region_any hm ?_;have h1:=h a {w with drawn:=w.drawn+1} ⟨hS.fr,hS.wd.same rfl rfl rfl rfl⟩;have key:∀(bE:Nat) (listed:Array Bool) (a:Act) (w:World),wpAnyIn (FW ro) 0 P .any l.toArray (dy (St N ds S w0 L' H')) bE listed a w->wpAnyIn (FW ro) 0 P .any l.toArray Q bE listed a w:=by
  intro bE
  induction bE with
  |zero=>exact λlisted a w h=>⟨h.1,k a w h.2⟩
  |succ bE ih=>
   intro listed a w h;refine⟨λe=>k a w (h.1 e),λi hi=>?_⟩;have h2:=h.2 i hi;unfold wpOpIn at h2⊢
   split
   ·rename_i ho
    simp only[ho]at h2;exact ih _ _ _ h2
   ·rename_i o ho
    simp only[ho]at h2
    split
    ·rename_i hw
     rw[if_pos hw]at h2;refine⟨h2.1,?_⟩;have h3:=h2.2
     revert h3
     generalize (o.semAt (FW ro).round a.eval).run P w=r;intro h3;cases r with
     |ok nx w1=>
      cases nx with
      |value v=>exact ih _ _ _ h3
      |skip=>exact ih _ _ _ h3
      |defer d=>exact ih _ _ _ h3
      |enter f args=>
       refine⟨h3.1,h3.2.mono λe w2 hh=>?_⟩;cases e with
       |returned v=>exact ih _ _ _ hh
       |panicked c=>exact(hh:False).elim
       |outgrown=>exact(Exists.elim hh λ_ h=>Exists.elim h λ_ h=>(h:False).elim)
      |row r args=>exact⟨h3.1,h3.2.mono λv w2 hh=>ih _ _ _ hh⟩
      |round l f tmps assign body=>
       refine⟨h3.1,h3.2.mono λe w2 hh=>?_⟩;cases e with
       |returned v=>exact ih _ _ _ hh
       |panicked c=>exact(hh:False).elim
       |outgrown=>exact(Exists.elim hh λ_ h=>Exists.elim h λ_ h=>(h:False).elim)
      |_=>exact h3
     |halt x w1=>cases x<;>exact(h3:False).elim
    ·rename_i hw
     rw[if_neg hw]at h2;exact⟨h2.1,ih _ _ _ h2.2⟩
 have:=key _ _ _ _ h1;rw[<-hl.eq]at this;simpa using this
end
structure Hd(q:Prop):Prop where
 g:q
theorem aU{p q:Prop}(k:q)(h:Hd q->p:=by intro k;(first|refine ms rfl ?_|refine k9 ?_|refine oD ?_|refine lx ?_|refine u7 ?_);(repeat(first|refine ms rfl ?_|refine k9 ?_|refine oD ?_|refine lx ?_|refine u7 ?_));exact k.g):p:=h ⟨k⟩
theorem aO{p q:Prop}(k:q)(h:Hd q->p:=by intro k;(first|refine ms rfl ?_|refine k9 ?_|refine oD ?_|refine lx ?_|refine u7 ?_|refine u6 rfl ?_|refine u5 rfl ag ag ?_|refine th ?_|refine rW ?_|refine oW ?_|refine yW ?_|refine oP ?_|refine qt ?_);(repeat(first|refine ms rfl ?_|refine k9 ?_|refine oD ?_|refine lx ?_|refine u7 ?_|refine u6 rfl ?_|refine u5 rfl ag ag ?_|refine th ?_|refine rW ?_|refine oW ?_|refine yW ?_|refine oP ?_|refine qt ?_));exact k.g):p:=h ⟨k⟩
theorem aI{p q:Prop}(k:q)(h:Hd q->p:=by intro k;(first|refine ms rfl ?_|refine k9 ?_|refine oD ?_|refine lx ?_|refine u7 ?_|refine u6 rfl ?_|refine u5 rfl ag ag ?_|refine th ?_|refine rW ?_|refine oW ?_|refine yW ?_|refine oP ?_|refine qt ?_|refine lO ?_|refine ug ?_|refine pB ?_|refine xN ?_|refine nt ?_|refine nr ?_|refine oX ?_|refine nk ?_|refine C3 rfl ag ag ?_|refine q6 rfl ?_|refine xO ?_);(repeat(first|refine ms rfl ?_|refine k9 ?_|refine oD ?_|refine lx ?_|refine u7 ?_|refine u6 rfl ?_|refine u5 rfl ag ag ?_|refine th ?_|refine rW ?_|refine oW ?_|refine yW ?_|refine oP ?_|refine qt ?_|refine lO ?_|refine ug ?_|refine pB ?_|refine xN ?_|refine nt ?_|refine nr ?_|refine oX ?_|refine nk ?_|refine C3 rfl ag ag ?_|refine q6 rfl ?_|refine xO ?_));exact k.g):p:=h ⟨k⟩
theorem iL{p q:Prop}(k:q)(h:Hd q->p:=by intro k;(first|refine ms rfl ?_|refine k9 ?_|refine oD ?_|refine lx ?_|refine u7 ?_|refine u6 rfl ?_|refine xO ?_|refine Eb rfl ?_|refine ug ?_|refine lO ?_|refine oW ?_|refine rW ?_|refine th ?_|refine qt ?_|refine oP ?_|refine u5 rfl ag ag ?_|refine C3 rfl ag ag ?_|refine xN ?_|refine nt ?_|refine nr ?_|refine q6 rfl ?_|refine yW ?_|refine oX ?_|refine nk ?_|refine Ed rfl ?_|refine Ec ?_|refine zO rfl ?_|refine AE rfl ?_|refine pB ?_);(repeat(first|refine ms rfl ?_|refine k9 ?_|refine oD ?_|refine lx ?_|refine u7 ?_|refine u6 rfl ?_|refine xO ?_|refine Eb rfl ?_|refine ug ?_|refine lO ?_|refine oW ?_|refine rW ?_|refine th ?_|refine qt ?_|refine oP ?_|refine u5 rfl ag ag ?_|refine C3 rfl ag ag ?_|refine xN ?_|refine nt ?_|refine nr ?_|refine q6 rfl ?_|refine yW ?_|refine oX ?_|refine nk ?_|refine Ed rfl ?_|refine Ec ?_|refine zO rfl ?_|refine AE rfl ?_|refine pB ?_));exact k.g):p:=h ⟨k⟩
theorem Wq{p q:Prop}(k:q)(h:Hd q->p:=by intro k;(first|refine ms rfl ?_|refine k9 ?_|refine oD ?_|refine lx ?_|refine u7 ?_|refine u6 rfl ?_|refine xO ?_|refine Eb rfl ?_|refine ug ?_|refine lO ?_|refine th ?_|refine qt ?_|refine oP ?_|refine u5 rfl ag ag ?_|refine C3 rfl ag ag ?_|refine xN ?_|refine nt ?_|refine nr ?_|refine q6 rfl ?_|refine yW ?_|refine oX ?_|refine nk ?_|refine Ed rfl ?_|refine Ec ?_|refine zO rfl ?_|refine AE rfl ?_|refine pB ?_);(repeat(first|refine ms rfl ?_|refine k9 ?_|refine oD ?_|refine lx ?_|refine u7 ?_|refine u6 rfl ?_|refine xO ?_|refine Eb rfl ?_|refine ug ?_|refine lO ?_|refine th ?_|refine qt ?_|refine oP ?_|refine u5 rfl ag ag ?_|refine C3 rfl ag ag ?_|refine xN ?_|refine nt ?_|refine nr ?_|refine q6 rfl ?_|refine yW ?_|refine oX ?_|refine nk ?_|refine Ed rfl ?_|refine Ec ?_|refine zO rfl ?_|refine AE rfl ?_|refine pB ?_));exact k.g):p:=h ⟨k⟩
theorem j9{p q:Prop}(k:q)(h:Hd q->p:=by intro k;(first|refine Uj rfl ?_|refine VZ rfl ?_|refine Q6 ?_|refine Q7 rfl ?_|refine KP rfl ?_|refine ab8 rfl ag ag ?_|refine V0 rfl ag ag ?_|refine VY ?_);(repeat(first|refine Uj rfl ?_|refine VZ rfl ?_|refine Q6 ?_|refine Q7 rfl ?_|refine KP rfl ?_|refine ab8 rfl ag ag ?_|refine V0 rfl ag ag ?_|refine VY ?_));exact k.g):p:=h ⟨k⟩
theorem dX{p:Prop}{c q:Nat->Prop}(k:∀b,c b->q b)(h:Hd (∀b,c b->q b)->p:=by intro k;(first|refine Z3 rfl ?_|refine SM rfl ?_|refine Z2 rfl ?_|refine Oi rfl rfl ?_|refine Oj rfl rfl ?_|refine Wv rfl ag ag ?_);exact k.g):p:=h ⟨k⟩
end
end Go.Proofs.YthfhgolkafpmnaaGreatDoor
