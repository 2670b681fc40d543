/- Texts joined: TidyJ TidyK TidyL TidyD. -/
import Derived.Test.YtpadjpplidlfeaaGreatDoorIB
namespace Go.Proofs.YtpadjpplidlfeaaGreatDoor
open Go Go.RowKit
structure JoinOk (bl : List LBlock) (b t : Nat) : Prop where
 blt : b < bl.length
 tlt : t < bl.length
 ne : t ≠ b
 kind : (blkAt bl b).kind = 2
 to : (blkAt bl b).to = [(t : Int)]
 none : (blkAt bl t).phis = []
 one : preds bl t = [b]
def toJ (bl : List LBlock) (b t q : Nat) : List Int:=if q = t then [] else if q = b then toOf bl t else toOf bl q
def predsJ (bl : List LBlock) (b t c : Nat) : List Nat:=(List.range bl.length).filter fun q=>decide ((c : Int) ∈ toJ bl b t q)
def phJ (bl : List LBlock) (b t c : Nat) (p : LPhi) : LPhi:=⟨p.dst,(predsJ bl b t c).map fun q=>srcAt bl c p (if q = b then t else q)⟩
def blkJ (bl : List LBlock) (b t c : Nat) (B : LBlock) : LBlock :=
 if c = t then retB else if c = b then ⟨B.phis.map (phJ bl b t c),B.list++(blkAt bl t).list,(blkAt bl t).kind,(blkAt bl t).on,(blkAt bl t).to⟩ else { B with phis:=B.phis.map (phJ bl b t c) }
def joinB (bl : List LBlock) (b t : Nat) : List LBlock:=bl.mapIdx (blkJ bl b t)
theorem joinB_len (bl : List LBlock) (b t : Nat) : (joinB bl b t).length = bl.length:=by simp [joinB]
theorem joinB_get {bl : List LBlock} {b t c : Nat} {B : LBlock} (h : bl[c]? = some B) : (joinB bl b t)[c]? = some (blkJ bl b t c B):=by
 unfold joinB
 rw [List.getElem?_mapIdx,h]
 rfl
theorem joinB_at {bl : List LBlock} {b t c : Nat} (h : c < bl.length) : blkAt (joinB bl b t) c = blkJ bl b t c (blkAt bl c):=blkAt_get (joinB_get (get_blkAt h))
theorem blkJ_to (bl : List LBlock) (b t c : Nat) (B : LBlock) : (blkJ bl b t c B).to = if c = t then [] else if c = b then (blkAt bl t).to else B.to:=by
 unfold blkJ
 split
 ·rfl
 split <;> rfl
theorem blkJ_phis (bl : List LBlock) (b t c : Nat) (B : LBlock) : (blkJ bl b t c B).phis = if c = t then [] else B.phis.map (phJ bl b t c):=by
 unfold blkJ
 split
 ·rfl
 split <;> rfl
theorem toOf_none {bl : List LBlock} {c : Nat} (h : ¬ c < bl.length) : toOf bl c = []:=by
 unfold toOf
 rw [List.getElem?_eq_none (by omega)]
section
variable {bl : List LBlock} {b t : Nat} (hg : GoodB bl) (hj : JoinOk bl b t)
include hj
theorem toOf_join (c : Nat) : toOf (joinB bl b t) c = toJ bl b t c:=by
 by_cases hc : c < bl.length
 ·rw [toOf_at (by rw [joinB_len]; exact hc),joinB_at hc,blkJ_to]
  unfold toJ
  rw [toOf_at hj.tlt,toOf_at hc]
 ·rw [toOf_none (by rw [joinB_len]; exact hc)]
  unfold toJ
  rw [if_neg (by have:=hj.tlt; omega),if_neg (by have:=hj.blt; omega),toOf_none hc]
theorem preds_join (c : Nat) : preds (joinB bl b t) c = predsJ bl b t c:=by
 unfold preds predsJ
 rw [joinB_len]
 refine List.filter_congr fun q _=>?_
 rw [toOf_join hj]
theorem toOf_jb : toOf bl b = [(t : Int)]:=by rw [toOf_at hj.blt,hj.to]
theorem only_b {q : Nat} (h : (t : Int) ∈ toOf bl q) : q = b:=by
 have hq : q < bl.length:=Classical.byContradiction fun hq=>by rw [toOf_none hq] at h; cases h
 have h1 : q ∈ preds bl t:=List.mem_filter.2 ⟨List.mem_range.2 hq,by simpa using h⟩
 rw [hj.one] at h1
 exact List.mem_singleton.1 h1
theorem self_t : (t : Int) ∉ toOf bl t:=fun h=>hj.ne (only_b hj h)
theorem predsJ_mem {c q : Nat} (hc : c ≠ t) : q ∈ predsJ bl b t c ↔ q ≠ t∧(if q = b then t else q) ∈ preds bl c:=by
 unfold predsJ preds
 rw [List.mem_filter,List.mem_filter,List.mem_range,List.mem_range,decide_eq_true_eq,decide_eq_true_eq]
 unfold toJ
 by_cases h1 : q = t
 ·simp [h1]
 ·rw [if_neg h1]
  by_cases h2 : q = b
  ·rw [if_pos h2,if_pos h2]
   have:=hj.tlt
   have:=hj.blt
   exact ⟨fun h=>⟨h1,hj.tlt,h.2⟩,fun h=>⟨by omega,h.2.2⟩⟩
  ·rw [if_neg h2,if_neg h2]
   exact ⟨fun h=>⟨h1,h⟩,fun h=>h.2⟩
theorem pred_not_b {c : Nat} (hc : c ≠ t) : b ∉ preds bl c:=fun h=>by
 have h1:=(List.mem_filter.1 h).2
 simp only [decide_eq_true_eq] at h1
 rw [toOf_jb hj,List.mem_singleton] at h1
 omega
theorem predsJ_len {c : Nat} (hc : c ≠ t) : (predsJ bl b t c).length = (preds bl c).length:=by
 have h1 : ((predsJ bl b t c).map fun q=>if q = b then t else q).Perm (preds bl c):=by
  refine (List.perm_ext_iff_of_nodup (nodup_mapOn (List.Nodup.sublist List.filter_sublist List.nodup_range) fun x hx y hy e=>?_) (preds_nodup bl c)).2 fun x=>?_
  ·have h2:=(predsJ_mem hj hc).1 hx
   have h3:=(predsJ_mem hj hc).1 hy
   split at e
   ·split at e
    ·omega
    ·exact absurd e.symm h3.1
   ·split at e
    ·exact absurd e h2.1
    ·exact e
  ·rw [List.mem_map]
   constructor
   ·rintro ⟨q,hq,rfl⟩
    exact ((predsJ_mem hj hc).1 hq).2
   ·intro hx
    by_cases e : x = t
    ·refine ⟨b,(predsJ_mem hj hc).2 ⟨fun e2=>hj.ne e2.symm,by rw [if_pos rfl,← e]; exact hx⟩,by rw [if_pos rfl,e]⟩
    ·have hxb : x ≠ b:=fun e2=>pred_not_b hj hc (e2 ▸ hx)
     exact ⟨x,(predsJ_mem hj hc).2 ⟨e,by rw [if_neg hxb]; exact hx⟩,by rw [if_neg hxb]⟩
 have:=h1.length_eq
 rwa [List.length_map] at this
theorem predsJ_t : predsJ bl b t t = []:=by
 unfold predsJ
 refine List.filter_eq_nil_iff.2 fun q _=>?_
 simp only [decide_eq_true_eq]
 unfold toJ
 split
 ·simp
 split
 ·exact self_t hj
 ·rename_i h1 h2
  exact fun h=>h2 (only_b hj h)
theorem srcAt_join {c q : Nat} (hc : c ≠ t) (hq : q ∈ predsJ bl b t c) (p : LPhi) : srcAt (joinB bl b t) c (phJ bl b t c p) q = srcAt bl c p (if q = b then t else q):=by
 unfold srcAt
 rw [preds_join hj]
 unfold phJ
 simp only
 rw [List.getD_eq_getElem?_getD,List.getElem?_map,List.getElem?_eq_getElem (List.idxOf_lt_length_of_mem hq),List.getElem_idxOf]
 rfl
include hg
theorem join_good : GoodB (joinB bl b t):=fun C hC=>by
 obtain ⟨c,hc⟩:=List.getElem?_of_mem hC
 have hcl : c < bl.length:=by rw [← joinB_len bl b t]; exact (List.getElem?_eq_some_iff.1 hc).1
 rw [joinB_get (get_blkAt hcl)] at hc
 obtain rfl:=Option.some.inj hc
 rw [blkJ_to,joinB_len]
 split
 ·simp
 split
 ·exact hg _ (List.mem_of_getElem? (get_blkAt hj.tlt))
 ·exact hg _ (List.mem_of_getElem? (get_blkAt hcl))
end
theorem join_nodup {bl : List LBlock} {b t : Nat} (hj : JoinOk bl b t) (hnd : ∀ (c : Nat) B,bl[c]? = some B→B.to.Nodup) : ∀ (c : Nat) B,(joinB bl b t)[c]? = some B→B.to.Nodup:=fun c C hc=>by
 have hcl : c < bl.length:=by rw [← joinB_len bl b t]; exact (List.getElem?_eq_some_iff.1 hc).1
 rw [joinB_get (get_blkAt hcl)] at hc
 obtain rfl:=Option.some.inj hc
 rw [blkJ_to]
 split
 ·simp
 split
 ·exact hnd _ _ (get_blkAt hj.tlt)
 ·exact hnd _ _ (get_blkAt hcl)
theorem phJ_mem {R : Nat} {bl : List LBlock} {b t c : Nat} (hf : FuncOk R bl) (hj : JoinOk bl b t) (hc : c ≠ t) (hcl : c < bl.length) {p : LPhi} (hp : p ∈ (blkAt bl c).phis) {v : LVal} (hv : v ∈ (phJ bl b t c p).src) : v ∈ p.src:=by
 unfold phJ at hv
 obtain ⟨q,hq,rfl⟩:=List.mem_map.1 hv
 exact srcAt_mem (R:=R) ((hf.block c _ (get_blkAt hcl)).phis p hp).len ((predsJ_mem hj hc).1 hq).2
theorem join_funcOk {R : Nat} {bl : List LBlock} {b t : Nat} (hf : FuncOk R bl) (hj : JoinOk bl b t) : FuncOk R (joinB bl b t):=by
 refine ⟨join_good hf.good hj,fun c C hC=>?_⟩
 have hcl : c < bl.length:=by rw [← joinB_len bl b t]; exact (List.getElem?_eq_some_iff.1 hC).1
 have hnd:=join_nodup hj (fun b B hB=>(hf.block b B hB).to) c C hC
 have hB:=hf.block _ _ (get_blkAt hcl)
 have hT:=hf.block _ _ (get_blkAt hj.tlt)
 rw [joinB_get (get_blkAt hcl)] at hC
 obtain rfl:=Option.some.inj hC
 refine ⟨fun p' hp'=>?_,fun x hx=>?_,?_,hnd⟩
 ·rw [blkJ_phis] at hp'
  split at hp'
  ·cases hp'
  rename_i hct
  obtain ⟨p,hp,rfl⟩:=List.mem_map.1 hp'
  have hpo:=hB.phis p hp
  refine ⟨hpo.dst,by rw [preds_join hj]; simp [phJ],fun v hv=>hpo.vals v (phJ_mem hf hj hct hcl hp hv)⟩
 ·unfold blkJ at hx
  split at hx
  ·cases hx
  split at hx
  ·rcases List.mem_append.1 hx with hx|hx
   ·exact hB.list x hx
   ·exact hT.list x hx
  ·exact hB.list x hx
 ·unfold blkJ
  split
  ·exact fun h=>by cases h
  split
  ·exact hT.on
  ·exact hB.on
theorem many_join {bl : List LBlock} {b t : Nat} (hj : JoinOk bl b t) : manyL (joinB bl b t) = manyL bl:=by
 rw [many_range,many_range,joinB_len]
 have hs : ∀ c,c < bl.length→szB (blkAt (joinB bl b t) c) = if c = t then 0 else if c = b then szB (blkAt bl b) + szB (blkAt bl t) else szB (blkAt bl c):=fun c hc=>by
  rw [joinB_at hc]
  unfold blkJ
  split
  ·rfl
  split
  ·rename_i h2
   subst h2
   unfold szB
   simp only [List.length_map,List.length_append,hj.none,List.length_nil]
   omega
  ·unfold szB
   simp
 rw [List.map_congr_left fun c hc=>hs c (List.mem_range.1 hc)]
 have hpt : (List.range bl.length).Perm (t::b::((List.range bl.length).erase t).erase b):=by
  have h1:=List.perm_cons_erase (List.mem_range.2 hj.tlt)
  have h2 : b ∈ (List.range bl.length).erase t:=(List.mem_erase_of_ne (fun e=>hj.ne e.symm)).2 (List.mem_range.2 hj.blt)
  exact h1.trans ((List.perm_cons_erase h2).cons t)
 rw [(hpt.map _).sum_nat,(hpt.map fun c=>szB (blkAt bl c)).sum_nat]
 simp only [List.map_cons,List.sum_cons,if_true]
 rw [if_neg (fun e=>hj.ne e.symm)]
 have hnd : ((List.range bl.length).erase t).Nodup:=List.nodup_range.erase t
 have h3 : ∀ c ∈ ((List.range bl.length).erase t).erase b,c ≠ t∧c ≠ b:=fun c hc=>by
  have h4:=(List.Nodup.mem_erase_iff hnd).1 hc
  have h5:=(List.Nodup.mem_erase_iff List.nodup_range).1 h4.2
  exact ⟨h5.1,h4.1⟩
 rw [List.map_congr_left (g:=fun c=>szB (blkAt bl c)) fun c hc=>by rw [if_neg (h3 c hc).1,if_neg (h3 c hc).2]]
 omega
def KindOk (bl : List LBlock) : Prop:=∀ B ∈ bl,(B.kind = 1 ∨ B.kind = 2 ∨ B.kind = 3)∧(B.to.length : Int) = B.kind - 1
def jumpTo (bl : List LBlock) (b : Nat) : Nat:=((blkAt bl b).to.getD 0 0).toNat
def canJ (bl : List LBlock) (b : Nat) : Option Nat :=
 if (blkAt bl b).kind = 2∧jumpTo bl b ≠ b∧(blkAt bl (jumpTo bl b)).phis = []∧(preds bl (jumpTo bl b)).length ≤ 1 then some (jumpTo bl b) else none
theorem blkAt_none {bl : List LBlock} {b : Nat} (h : ¬ b < bl.length) : blkAt bl b = retB:=by unfold blkAt; rw [List.getElem?_eq_none (by omega)]; rfl
theorem kind_to {bl : List LBlock} (hk : KindOk bl) (hg : GoodB bl) {b : Nat} (h : (blkAt bl b).kind = 2) : b < bl.length∧(blkAt bl b).to = [((jumpTo bl b : Nat) : Int)]∧jumpTo bl b < bl.length:=by
 have hb : b < bl.length:=Classical.byContradiction fun hb=>by rw [blkAt_none hb] at h; simp [retB] at h
 have h1:=(hk _ (List.mem_of_getElem? (get_blkAt hb))).2
 rw [h] at h1
 have h3:=(hg _ (List.mem_of_getElem? (get_blkAt hb))).2
 unfold jumpTo
 match hto : (blkAt bl b).to with
 | []=>rw [hto] at h1; simp at h1
 | [t] =>
  have:=h3 t (by rw [hto]; simp)
  refine ⟨hb,?_,?_⟩
  ·simp only [List.getD_cons_zero]
   rw [Int.toNat_of_nonneg this.1]
  ·simp only [List.getD_cons_zero]
   omega
 | _::_::_=>rw [hto] at h1; simp at h1; omega
theorem canJ_some {bl : List LBlock} (hk : KindOk bl) (hg : GoodB bl) {b t : Nat} : canJ bl b = some t ↔ JoinOk bl b t:=by
 unfold canJ
 constructor
 ·intro h
  split at h
  ·rename_i h1
   obtain ⟨h1,h2,h3,h4⟩:=h1
   obtain ⟨h5,h6,h7⟩:=kind_to hk hg h1
   obtain rfl:=Option.some.inj h
   refine ⟨h5,h7,h2,h1,h6,h3,?_⟩
   have hm : b ∈ preds bl (jumpTo bl b):=List.mem_filter.2 ⟨List.mem_range.2 h5,by simp only [decide_eq_true_eq]; rw [toOf_at h5,h6]; simp⟩
   match hp : preds bl (jumpTo bl b) with
   | []=>rw [hp] at hm; cases hm
   | [a]=>rw [hp] at hm; rw [List.mem_singleton.1 hm]
   | _::_::_=>rw [hp] at h4; simp at h4
  ·cases h
 ·intro h
  have e : jumpTo bl b = t:=by unfold jumpTo; rw [h.to]; simp
  rw [e,if_pos ⟨h.kind,h.ne,h.none,by rw [h.one]; simp⟩]
theorem join_kind {bl : List LBlock} {b t : Nat} (hk : KindOk bl) (hj : JoinOk bl b t) : KindOk (joinB bl b t):=fun C hC=>by
 obtain ⟨c,hc⟩:=List.getElem?_of_mem hC
 have hcl : c < bl.length:=by rw [← joinB_len bl b t]; exact (List.getElem?_eq_some_iff.1 hc).1
 rw [joinB_get (get_blkAt hcl)] at hc
 obtain rfl:=Option.some.inj hc
 have h1:=hk _ (List.mem_of_getElem? (get_blkAt hcl))
 have h2:=hk _ (List.mem_of_getElem? (get_blkAt hj.tlt))
 unfold blkJ
 split
 ·simp [retB]
 split
 ·exact h2
 ·exact h1
def hasP (bl : List LBlock) : Nat:=((List.range bl.length).filter fun c=>!(preds bl c).isEmpty).length
theorem hasP_join {bl : List LBlock} {b t : Nat} (hj : JoinOk bl b t) : hasP (joinB bl b t) + 1 = hasP bl:=by
 unfold hasP
 rw [joinB_len]
 have h1 : (List.range bl.length).filter (fun c=>!(preds (joinB bl b t) c).isEmpty) = ((List.range bl.length).filter fun c=>!(preds bl c).isEmpty).erase t:=by
  rw [List.Nodup.erase_eq_filter (List.nodup_range.sublist List.filter_sublist),List.filter_filter]
  refine List.filter_congr fun c _=>?_
  rw [preds_join hj]
  by_cases e : c = t
  ·subst e
   rw [predsJ_t hj]
   simp
  ·have h2:=predsJ_len hj e
   have h3 : (predsJ bl b t c).isEmpty = (preds bl c).isEmpty:=by
    cases h4 : predsJ bl b t c with
    | nil=>rw [h4] at h2; cases h5 : preds bl c with
     | nil=>rfl
     | cons _ _=>rw [h5] at h2; simp at h2
    | cons _ _=>rw [h4] at h2; cases h5 : preds bl c with
     | nil=>rw [h5] at h2; simp at h2
     | cons _ _=>rfl
   rw [h3]
   simp [e]
 rw [h1]
 have hm : t ∈ (List.range bl.length).filter fun c=>!(preds bl c).isEmpty:=List.mem_filter.2 ⟨List.mem_range.2 hj.tlt,by rw [hj.one]; rfl⟩
 rw [List.length_erase_of_mem hm]
 have:=List.length_pos_of_mem hm
 omega
def chainB : Nat→List LBlock→Nat→List LBlock
 | 0,bl,_=>bl
 | f + 1,bl,b=>match canJ bl b with
  | some t=>chainB f (joinB bl b t) b
  | none=>bl
theorem chainB_succ (f : Nat) (bl : List LBlock) (b : Nat) : chainB (f + 1) bl b = match canJ bl b with
  | some t=>chainB f (joinB bl b t) b
  | none=>bl:=rfl
def chainOf (bl : List LBlock) (b : Nat) : List LBlock:=chainB (hasP bl) bl b
def chainsTo (bl : List LBlock) (i : Nat) : List LBlock:=(List.range i).foldl chainOf bl
def chainsL (bl : List LBlock) : List LBlock:=chainsTo bl bl.length
theorem chainsTo_succ (bl : List LBlock) (i : Nat) : chainsTo bl (i + 1) = chainOf (chainsTo bl i) i:=by unfold chainsTo; rw [List.range_succ,List.foldl_append]; rfl
structure BlOk (R : Nat) (bl : List LBlock) : Prop where
 ok : FuncOk R bl
 kind : KindOk bl
theorem BlOk.join {R : Nat} {bl : List LBlock} {b t : Nat} (h : BlOk R bl) (hj : JoinOk bl b t) : BlOk R (joinB bl b t):=⟨join_funcOk h.ok hj,join_kind h.kind hj⟩
theorem chainOf_some {R : Nat} {bl : List LBlock} {b t : Nat} (h : BlOk R bl) (hc : canJ bl b = some t) : chainOf bl b = chainOf (joinB bl b t) b:=by
 have hj:=(canJ_some h.kind h.ok.good).1 hc
 have h1:=hasP_join hj
 unfold chainOf
 rw [← h1]
 rw [chainB_succ,hc]
theorem chainOf_none {bl : List LBlock} {b : Nat} (hc : canJ bl b = none) : chainOf bl b = bl:=by
 unfold chainOf
 cases hasP bl with
 | zero=>rfl
 | succ n=>rw [chainB_succ,hc]
inductive Joins : List LBlock→List LBlock→Prop
 | refl (a : List LBlock) : Joins a a
 | head {a c : List LBlock} {b t : Nat} : JoinOk a b t→Joins (joinB a b t) c→Joins a c
theorem Joins.trans {a b c : List LBlock} (h : Joins a b) (k : Joins b c) : Joins a c:=by
 induction h with
 | refl=>exact k
 | head h1 _ ih=>exact .head h1 (ih k)
theorem Joins.inv {p : List LBlock→Prop} (hp : ∀ a b t,JoinOk a b t→p a→p (joinB a b t)) {a c : List LBlock} (h : Joins a c) (ha : p a) : p c:=by
 induction h with
 | refl=>exact ha
 | head h1 _ ih=>exact ih (hp _ _ _ h1 ha)
theorem Joins.ok {R : Nat} {a c : List LBlock} (h : Joins a c) (ha : BlOk R a) : BlOk R c:=h.inv (fun _ _ _ hj h=>h.join hj) ha
theorem Joins.len {a c : List LBlock} (h : Joins a c) : c.length = a.length:=h.inv (p:=fun x=>x.length = a.length) (fun _ _ _ _ h=>by rw [joinB_len]; exact h) rfl
theorem Joins.many {a c : List LBlock} (h : Joins a c) : manyL c = manyL a:=h.inv (p:=fun x=>manyL x = manyL a) (fun _ _ _ hj h=>by rw [many_join hj]; exact h) rfl
theorem chainOf_joins {R : Nat} : ∀ (n : Nat) (bl : List LBlock) (b : Nat),hasP bl = n→BlOk R bl→Joins bl (chainOf bl b)∧canJ (chainOf bl b) b = none:=by
 intro n
 induction n with
 | zero =>
  intro bl b hn h
  cases hc : canJ bl b with
  | none=>rw [chainOf_none hc]; exact ⟨.refl _,hc⟩
  | some t =>
   have:=hasP_join ((canJ_some h.kind h.ok.good).1 hc)
   omega
 | succ n ih =>
  intro bl b hn h
  cases hc : canJ bl b with
  | none=>rw [chainOf_none hc]; exact ⟨.refl _,hc⟩
  | some t =>
   have hj:=(canJ_some h.kind h.ok.good).1 hc
   have h1:=hasP_join hj
   rw [chainOf_some h hc]
   obtain ⟨h2,h3⟩:=ih (joinB bl b t) b (by omega) (h.join hj)
   exact ⟨.head hj h2,h3⟩
theorem canJ_stays {R : Nat} {bl : List LBlock} {b t c : Nat} (h : BlOk R bl) (hj : JoinOk bl b t) (hc : canJ bl c = none) : canJ (joinB bl b t) c = none:=by
 cases hn : canJ (joinB bl b t) c with
 | none=>rfl
 | some d =>
  exfalso
  have h2:=h.join hj
  have hd:=(canJ_some h2.kind h2.ok.good).1 hn
  have hcl : c < bl.length:=by have:=hd.blt; rwa [joinB_len] at this
  have hdl : d < bl.length:=by have:=hd.tlt; rwa [joinB_len] at this
  have hct : c ≠ t:=fun e=>by
   have:=hd.kind
   rw [joinB_at hcl,e] at this
   unfold blkJ at this
   rw [if_pos rfl] at this
   simp [retB] at this
  have hcb : c ≠ b:=fun e=>by
   rw [e] at hc
   have:=(canJ_some h.kind h.ok.good).2 hj
   rw [hc] at this
   cases this
  have hB : blkJ bl b t c (blkAt bl c) = { blkAt bl c with phis:=(blkAt bl c).phis.map (phJ bl b t c) }:=by
   unfold blkJ
   rw [if_neg hct,if_neg hcb]
  have hk:=hd.kind
  have hto:=hd.to
  rw [joinB_at hcl,hB] at hk hto
  simp only at hk hto
  have hdt : d ≠ t:=fun e=>by
   rw [e] at hto
   exact hcb (only_b hj (by rw [toOf_at hcl,hto]; simp))
  have hno:=hd.none
  rw [joinB_at hdl,blkJ_phis,if_neg hdt,List.map_eq_nil_iff] at hno
  have hone:=hd.one
  rw [preds_join hj] at hone
  have hlen:=predsJ_len hj hdt
  rw [hone] at hlen
  have : canJ bl c = some d:=(canJ_some h.kind h.ok.good).2 ⟨hcl,hdl,hd.ne,hk,hto,hno,by
   have hm : c ∈ preds bl d:=List.mem_filter.2 ⟨List.mem_range.2 hcl,by simp only [decide_eq_true_eq]; rw [toOf_at hcl,hto]; simp⟩
   match hp : preds bl d with
   | []=>rw [hp] at hm; cases hm
   | [a]=>rw [hp] at hm; rw [List.mem_singleton.1 hm]
   | _::_::_=>rw [hp] at hlen; simp at hlen⟩
  rw [hc] at this
  cases this
theorem chainsTo_joins {R : Nat} {bl : List LBlock} (h : BlOk R bl) : ∀ i,Joins bl (chainsTo bl i)∧∀ c,c < i→canJ (chainsTo bl i) c = none:=by
 intro i
 induction i with
 | zero=>exact ⟨.refl _,fun c hc=>by omega⟩
 | succ i ih =>
  obtain ⟨h1,h2⟩:=ih
  have hok:=h1.ok h
  obtain ⟨h3,h4⟩:=chainOf_joins _ (chainsTo bl i) i rfl hok
  rw [chainsTo_succ]
  refine ⟨h1.trans h3,fun c hc=>?_⟩
  by_cases e : c = i
  ·rw [e]; exact h4
  ·have : BlOk R (chainOf (chainsTo bl i) i)∧canJ (chainOf (chainsTo bl i) i) c = none:=h3.inv (p:=fun x=>BlOk R x∧canJ x c = none) (fun a b t hj hp=>⟨hp.1.join hj,canJ_stays hp.1 hj hp.2⟩) ⟨hok,h2 c (by omega)⟩
   exact this.2
theorem chainsL_joins {R : Nat} {bl : List LBlock} (h : BlOk R bl) : Joins bl (chainsL bl)∧∀ c,canJ (chainsL bl) c = none:=by
 obtain ⟨h1,h2⟩:=chainsTo_joins h bl.length
 refine ⟨h1,fun c=>?_⟩
 by_cases hc : c < bl.length
 ·exact h2 c hc
 ·unfold canJ
  rw [if_neg]
  intro h3
  have:=h3.1
  unfold chainsL at this
  rw [blkAt_none (by rw [h1.len]; exact hc)] at this
  simp [retB] at this
def PosOk (bl : List LBlock) : Prop:=∀ q,∀ t ∈ toOf bl q,1 ≤ t
def ReachR (bl : List LBlock) : Prop:=∀ q,toOf bl q ≠ []→Rch bl (-1) 0 q
theorem JoinOk.pos {bl : List LBlock} {b t : Nat} (hj : JoinOk bl b t) (hp : PosOk bl) : t ≠ 0:=by
 have:=hp b t (by rw [toOf_jb hj]; simp)
 omega
theorem pos_join {bl : List LBlock} {b t : Nat} (hj : JoinOk bl b t) (hp : PosOk bl) : PosOk (joinB bl b t):=fun q x hx=>by
 rw [toOf_join hj] at hx
 unfold toJ at hx
 split at hx
 ·cases hx
 split at hx
 ·exact hp _ x hx
 ·exact hp _ x hx
theorem rch_join {bl : List LBlock} {b t : Nat} (hj : JoinOk bl b t) (hp : PosOk bl) {q : Nat} (h : Rch bl (-1) 0 q) : Rch (joinB bl b t) (-1) 0 (if q = t then b else q):=by
 have h0:=hj.pos hp
 induction h with
 | refl=>rw [if_neg (fun e=>h0 e.symm)]; exact .refl
 | @step x y _ he hw ih =>
  have he : (y : Int) ∈ toOf bl x:=he
  by_cases hy : y = t
  ·subst hy
   have hx:=only_b hj he
   subst hx
   rw [if_pos rfl]
   rw [if_neg (fun e=>hj.ne e.symm)] at ih
   exact ih
  ·rw [if_neg hy]
   refine ih.step ?_ hw
   show (y : Int) ∈ toOf (joinB bl b t) _
   rw [toOf_join hj]
   unfold toJ
   by_cases hx : x = t
   ·rw [if_pos hx,if_neg (fun e=>hj.ne e.symm),if_pos rfl,← hx]
    exact he
   ·rw [if_neg hx,if_neg hx]
    by_cases hb : x = b
    ·rw [hb,toOf_jb hj,List.mem_singleton] at he
     omega
    ·rw [if_neg hb]; exact he
theorem allR_join {bl : List LBlock} {b t : Nat} (hj : JoinOk bl b t) (hp : PosOk bl) (h : ReachR bl) : ReachR (joinB bl b t):=fun q hq=>by
 rw [toOf_join hj] at hq
 unfold toJ at hq
 by_cases h1 : q = t
 ·rw [if_pos h1] at hq; exact absurd rfl hq
 rw [if_neg h1] at hq
 have h2 : Rch bl (-1) 0 q:=by
  by_cases hb : q = b
  ·exact h q (by rw [hb,toOf_jb hj]; simp)
  ·rw [if_neg hb] at hq
   exact h q hq
 have:=rch_join hj hp h2
 rwa [if_neg h1] at this
theorem allR_kept {bl : List LBlock} (hg : GoodB bl) (h0 : 0 < bl.length) : ReachR (keptL bl (orderL bl)):=fun q hq=>by
 have hk:=orderK_ok hg h0
 obtain ⟨hp,_⟩:=order_pos hg h0
 have hg2:=keep_good hg hk
 have hp2 : 0 < (keptL bl (orderL bl)).length:=by rw [keptL_len]; exact hp
 have hql : q < (keptL bl (orderL bl)).length:=Classical.byContradiction fun hn=>hq (toOf_none hn)
 refine ((orderL_ord hg2 hp2).mem q).1 ?_
 rw [order_self hg h0]
 rw [keptL_len] at hql
 exact List.mem_range.2 hql
theorem pos_kept {bl : List LBlock} {o : List Nat} (hg : GoodB bl) (hk : KOk bl o) (hz : nth o 0 = 0) (hp : PosOk bl) : PosOk (keptL bl o):=fun q t ht=>by
 have hql : q < o.length:=Classical.byContradiction fun hn=>by
  rw [toOf_none (by rw [keptL_len]; exact hn)] at ht
  cases ht
 rw [toOf_keep hg hk (get_nth hql)] at ht
 obtain ⟨x,hx,rfl⟩:=List.mem_map.1 ht
 have h1:=hp _ x hx
 have h2:=nth_idx (hk.closed _ (nth_mem hql) x hx)
 have h3 : o.idxOf x.toNat ≠ 0:=fun e=>by
  rw [e,hz] at h2
  omega
 omega
theorem kind_kept {bl : List LBlock} {o : List Nat} (hk : KOk bl o) (h : KindOk bl) : KindOk (keptL bl o):=fun C hC=>by
 unfold keptL at hC
 obtain ⟨b,hb,rfl⟩:=List.mem_map.1 hC
 have:=h _ (List.mem_of_getElem? (get_blkAt (hk.lt b hb)))
 unfold keepB
 simp only [List.length_map]
 exact this
def tidyF (X : LFunc) : LFunc:=namesF (putB X (chainsL (keptF X)))
noncomputable def tidyU (u : LUnit) : LUnit:={ u with funcs:=u.funcs.map tidyF }
theorem fn_kind {u : LUnit} (hc : CheckOk u) {k : Nat} {X : LFunc} (hX : u.funcs[k]? = some X) : KindOk X.blocks∧PosOk X.blocks:=by
 have hb:=(FnTo.same hc hX).body
 refine ⟨fun B hB=>?_,fun q t ht=>?_⟩
 ·have h:=end_zero.1 (hb.ends B hB)
  exact ⟨by have:=h.kind; omega,h.len⟩
 ·unfold toOf at ht
  split at ht
  ·rename_i B hB
   exact ((end_zero.1 (hb.ends B (List.mem_of_getElem? hB))).to t ht).1
  ·cases ht
structure TidyAll (X : LFunc) (R : Nat) : Prop where
 mid : FnAll (putB X (chainsL (keptF X))) R
 bl : BlOk R (chainsL (keptF X))
 none : ∀ c,canJ (chainsL (keptF X)) c = none
 all : ReachR (chainsL (keptF X))
 len : (chainsL (keptF X)).length ≤ X.blocks.length
 many : manyL (chainsL (keptF X)) ≤ manyL X.blocks
theorem joins_list {Q : LIns→Prop} {a c : List LBlock} (h : Joins a c) (ha : ∀ B ∈ a,∀ x ∈ B.list,Q x) : ∀ B ∈ c,∀ x ∈ B.list,Q x :=
 h.inv (p:=fun l=>∀ B ∈ l,∀ x ∈ B.list,Q x) (fun l b t hj hl C hC x hx=>by
  obtain ⟨y,hy⟩:=List.getElem?_of_mem hC
  have hyl : y < l.length:=by rw [← joinB_len l b t]; exact (List.getElem?_eq_some_iff.1 hy).1
  rw [joinB_get (get_blkAt hyl)] at hy
  obtain rfl:=Option.some.inj hy
  unfold blkJ at hx
  split at hx
  ·cases hx
  split at hx
  ·rcases List.mem_append.1 hx with hx|hx
   ·exact hl _ (List.mem_of_getElem? (get_blkAt hyl)) x hx
   ·exact hl _ (List.mem_of_getElem? (get_blkAt hj.tlt)) x hx
  ·exact hl _ (List.mem_of_getElem? (get_blkAt hyl)) x hx) ha
theorem kept_list {Q : LIns→Prop} {l : List LBlock} {o : List Nat} (hk : KOk l o) (ha : ∀ B ∈ l,∀ x ∈ B.list,Q x) : ∀ B ∈ keptL l o,∀ x ∈ B.list,Q x:=fun B hB x hx=>by
 unfold keptL at hB
 obtain ⟨b,hb,rfl⟩:=List.mem_map.1 hB
 exact ha _ (List.mem_of_getElem? (get_blkAt (hk.lt b hb))) x hx
theorem tidyAll {u : LUnit} (hc : CheckOk u) {k : Nat} {X : LFunc} (hX : u.funcs[k]? = some X) : ∃ R,FnAll X R∧TidyAll X R:=by
 obtain ⟨R,h⟩:=fnAll hc hX
 have hk:=orderK_ok h.ok.good h.pos
 obtain ⟨hz1,hz2⟩:=order_pos h.ok.good h.pos
 obtain ⟨hkd,hps⟩:=fn_kind hc hX
 have hbl0 : BlOk R (keptF X):=⟨keep_funcOk h.ok hk,kind_kept hk hkd⟩
 obtain ⟨hj,hn⟩:=chainsL_joins hbl0
 refine ⟨R,h,⟨h.regs,h.le,(hj.ok hbl0).ok,?_,h.par,?_⟩,hj.ok hbl0,hn,?_,?_,?_⟩
 ·show 0 < (chainsL (keptF X)).length
  rw [hj.len]
  unfold keptF
  rw [keptL_len]
  exact hz1
 ·exact joins_list hj (kept_list hk h.uses)
 ·exact (hj.inv (p:=fun x=>PosOk x∧ReachR x) (fun a b t hj hp=>⟨pos_join hj hp.1,allR_join hj hp.1 hp.2⟩) ⟨pos_kept h.ok.good hk hz2 hps,allR_kept h.ok.good h.pos⟩).2
 ·rw [hj.len]
  unfold keptF
  rw [keptL_len]
  exact keep_len_le hk
 ·rw [hj.many]
  exact many_keep_le hk
theorem tidy_less {X : LFunc} {R : Nat} (h : FnAll X R) (ht : TidyAll X R) : (tidyF X).blocks.length ≤ X.blocks.length∧manyL (tidyF X).blocks ≤ manyL X.blocks∧(tidyF X).regs ≤ X.regs:=by
 have hk:=orderK_ok ht.mid.ok.good ht.mid.pos
 have h1 : (tidyF X).blocks = (keptL (chainsL (keptF X)) (orderL (chainsL (keptF X)))).map (renB (metL X.params.toNat (keptF (putB X (chainsL (keptF X)))))):=rfl
 refine ⟨?_,?_,?_⟩
 ·rw [h1,List.length_map,keptL_len]
  have h2:=keep_len_le hk
  have h3:=ht.len
  have h4 : (putB X (chainsL (keptF X))).blocks.length = (chainsL (keptF X)).length:=rfl
  have h5 : (orderL (putB X (chainsL (keptF X))).blocks).length = (orderL (chainsL (keptF X))).length:=rfl
  omega
 ·rw [h1,many_ren]
  exact Nat.le_trans (many_keep_le hk) ht.many
 ·have:=names_regs ht.mid
  have h2:=h.regs
  show ((metL X.params.toNat (keptF (putB X (chainsL (keptF X))))).length : Int) ≤ X.regs
  have h3 : (putB X (chainsL (keptF X))).params = X.params:=rfl
  rw [h3] at this
  omega
end Go.Proofs.YtpadjpplidlfeaaGreatDoor
