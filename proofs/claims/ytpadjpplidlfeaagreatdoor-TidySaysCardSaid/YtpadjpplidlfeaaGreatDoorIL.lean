/- Texts joined: TidyX TidyY TidyZ JoinR JnP ChainR. -/
import Derived.Test.YtpadjpplidlfeaaGreatDoorIG
import Derived.Test.YtpadjpplidlfeaaGreatDoorIH
import Derived.Test.YtpadjpplidlfeaaGreatDoorII
namespace Go.Proofs.YtpadjpplidlfeaaGreatDoor
open Go Go.RowKit
def ahd (b t q : Nat) : Nat:=if q = b then t else q
def now' (b t x : Nat) : Nat:=if x = t then b else x
section
variable {R : Nat} {bl : List LBlock} {b t c d : Nat}
theorem no_ring (ha : ReachR bl) (hp : PosOk bl) (h1 : JoinOk bl b t) (h2 : JoinOk bl c d) : ¬ (c = t∧b = d):=fun ⟨e1,e2⟩=>by
 subst e1 e2
 have hr:=ha b (by rw [toOf_jb h1]; simp)
 have key : ∀ x,Rch bl (-1) 0 x→x ≠ b∧x ≠ c:=fun x hx=>by
  induction hx with
  | refl=>exact ⟨fun e=>h2.pos hp e.symm,fun e=>h1.pos hp e.symm⟩
  | @step x y _ he hw ih =>
   have he : (y : Int) ∈ toOf bl x:=he
   refine ⟨fun e=>?_,fun e=>?_⟩
   ·rw [e] at he
    exact ih.2 (only_b h2 he)
   ·rw [e] at he
    exact ih.1 (only_b h1 he)
 exact (key b hr).1 rfl
theorem join_ne (h1 : JoinOk bl b t) (h2 : JoinOk bl c d) (hne : t ≠ d) : b ≠ c:=fun e=>by
 have:=h1.to
 rw [e,h2.to] at this
 simp at this
 omega
theorem toJ_at (h1 : JoinOk bl b t) (x : Nat) : toOf (joinB bl b t) x = if x = t then [] else toOf bl (ahd b t x):=by
 rw [toOf_join h1]
 unfold toJ ahd
 split
 ·rfl
 split <;> rfl
theorem blkJ_at (h1 : JoinOk bl b t) {x : Nat} (hx : x < bl.length) (hxt : x ≠ t) : (blkAt (joinB bl b t) x).kind = (blkAt bl (ahd b t x)).kind∧(blkAt (joinB bl b t) x).on = (blkAt bl (ahd b t x)).on∧(blkAt (joinB bl b t) x).to = (blkAt bl (ahd b t x)).to∧(blkAt (joinB bl b t) x).phis = (blkAt bl x).phis.map (phJ bl b t x)∧(blkAt (joinB bl b t) x).list = (blkAt bl x).list++if x = b then (blkAt bl t).list else []:=by
 rw [joinB_at hx]
 unfold blkJ ahd
 rw [if_neg hxt]
 by_cases e : x = b
 ·simp only [e,if_true]
  exact ⟨trivial,trivial,trivial,trivial,trivial⟩
 ·simp only [e,if_false,List.append_nil]
  exact ⟨trivial,trivial,trivial,trivial,trivial⟩
theorem join_still (hk : BlOk R bl) (ha : ReachR bl) (hp : PosOk bl) (h1 : JoinOk bl b t) (h2 : JoinOk bl c d) (hne : t ≠ d) : JoinOk (joinB bl b t) (now' b t c) d:=by
 have hbc:=join_ne h1 h2 hne
 have hnr:=no_ring ha hp h1 h2
 have hnl : now' b t c < bl.length:=by unfold now'; split; exact h1.blt; exact h2.blt
 have hnt : now' b t c ≠ t:=by
  unfold now'
  split
  ·exact fun e=>h1.ne e.symm
  ·rename_i e; exact e
 have had : ahd b t (now' b t c) = c:=by
  unfold ahd now'
  by_cases e : c = t
  ·rw [if_pos e,if_pos rfl,e]
  ·rw [if_neg e,if_neg (fun e2=>hbc e2.symm)]
 obtain ⟨g1,g2,g3,g4,g5⟩:=blkJ_at h1 hnl hnt
 obtain ⟨k1,k2,k3,k4,k5⟩:=blkJ_at h1 h2.tlt (fun e=>hne e.symm)
 refine ⟨by rw [joinB_len]; exact hnl,by rw [joinB_len]; exact h2.tlt,?_,by rw [g1,had]; exact h2.kind,by rw [g3,had]; exact h2.to,by rw [k4,h2.none]; rfl,?_⟩
 ·unfold now'
  by_cases e : c = t
  ·rw [if_pos e]
   exact fun e2=>hnr ⟨e,e2.symm⟩
  ·rw [if_neg e]
   exact h2.ne
 ·rw [preds_join h1]
  have hlen:=predsJ_len h1 (c:=d) (fun e=>hne e.symm)
  rw [h2.one] at hlen
  have hm : now' b t c ∈ predsJ bl b t d:=(predsJ_mem h1 (fun e=>hne e.symm)).2 ⟨hnt,by
   have:=had
   unfold ahd at this
   rw [this,h2.one]
   simp⟩
  match hq : predsJ bl b t d with
  | []=>rw [hq] at hm; cases hm
  | [a]=>rw [hq] at hm; rw [List.mem_singleton.1 hm]
  | _::_::_=>rw [hq] at hlen; simp at hlen
theorem ahd_two (hbc : b ≠ c) (h1 : t ≠ b) (h2 : d ≠ c) (hne : t ≠ d) (hnr : ¬ (c = t∧b = d)) {q : Nat} (hqt : q ≠ t) (hqd : q ≠ d) : ahd b t (ahd (now' b t c) d q) = ahd c d (ahd (now' c d b) t q):=by
 unfold ahd now'
 by_cases e1 : c = t
 ·have e2 : b ≠ d:=fun e=>hnr ⟨e1,e⟩
  subst e1
  simp only [if_true,e2,if_false]
  by_cases e3 : q = b
  ·simp only [e3,if_true,fun e : d = b=>e2 e.symm,if_false]
   rw [if_neg (fun e=>e2 e.symm)]
  ·simp only [e3,if_false]
   rw [if_neg hqt]
 ·by_cases e2 : b = d
  ·subst e2
   simp only [e1,if_false,if_true]
   by_cases e3 : q = c
   ·simp only [e3,if_true]
    rw [if_neg (fun e=>e1 e.symm)]
   ·simp only [e3,if_false]
    rw [if_neg hqd]
  ·simp only [e1,e2,if_false]
   by_cases e3 : q = c
   ·have e4 : c ≠ b:=fun e=>hbc e.symm
    simp only [e3,if_true,e4,if_false]
    rw [if_neg (fun e=>e2 e.symm)]
   ·simp only [e3,if_false]
    by_cases e4 : q = b
    ·simp only [e4,if_true]
     rw [if_neg (fun e=>e1 e.symm)]
    ·simp only [e4,if_false]
     rw [if_neg e3]
theorem toOf_two (hk : BlOk R bl) (ha : ReachR bl) (hp : PosOk bl) (h1 : JoinOk bl b t) (h2 : JoinOk bl c d) (hne : t ≠ d) (x : Nat) : toOf (joinB (joinB bl b t) (now' b t c) d) x = if x = t ∨ x = d then [] else toOf bl (ahd b t (ahd (now' b t c) d x)):=by
 have h3:=join_still hk ha hp h1 h2 hne
 have hbc:=join_ne h1 h2 hne
 rw [toJ_at h3]
 by_cases e1 : x = d
 ·rw [if_pos e1,if_pos (.inr e1)]
 ·rw [if_neg e1,toJ_at h1]
  by_cases e2 : x = t
  ·have e3 : x ≠ now' b t c:=by
    unfold now'
    split
    ·rw [e2]; exact h1.ne
    ·rename_i e; rw [e2]; exact fun e4=>e e4.symm
   have e4 : ahd (now' b t c) d x = t:=by unfold ahd; rw [if_neg e3,e2]
   rw [if_pos e4,if_pos (Or.inl e2)]
  ·rw [if_neg (show ¬ (x = t ∨ x = d) by rintro (e|e); exact e2 e; exact e1 e)]
   have e3 : ahd (now' b t c) d x ≠ t:=by
    unfold ahd
    split
    ·exact fun e=>hne e.symm
    ·exact e2
   rw [if_neg e3]
theorem join_two (hk : BlOk R bl) (ha : ReachR bl) (hp : PosOk bl) (h1 : JoinOk bl b t) (h2 : JoinOk bl c d) (hne : t ≠ d) : joinB (joinB bl b t) (now' b t c) d = joinB (joinB bl c d) (now' c d b) t:=by
 have h3:=join_still hk ha hp h1 h2 hne
 have h4:=join_still hk ha hp h2 h1 (fun e=>hne e.symm)
 have hbc:=join_ne h1 h2 hne
 have hnr:=no_ring ha hp h1 h2
 have hpre : ∀ x,preds (joinB (joinB bl b t) (now' b t c) d) x = preds (joinB (joinB bl c d) (now' c d b) t) x:=fun x=>by
  unfold preds
  simp only [joinB_len]
  refine List.filter_congr fun q _=>?_
  rw [toOf_two hk ha hp h1 h2 hne,toOf_two hk ha hp h2 h1 (fun e=>hne e.symm)]
  by_cases e : q = t ∨ q = d
  ·rw [if_pos e,if_pos e.symm]
  ·rw [if_neg e,if_neg (fun h=>e h.symm),ahd_two hbc h1.ne h2.ne hne hnr (fun h=>e (.inl h)) (fun h=>e (.inr h))]
 apply List.ext_getElem?
 intro x
 by_cases hx : x < bl.length
 ·rw [get_blkAt (bl:=joinB (joinB bl b t) (now' b t c) d) (by rw [joinB_len,joinB_len]; exact hx),get_blkAt (bl:=joinB (joinB bl c d) (now' c d b) t) (by rw [joinB_len,joinB_len]; exact hx)]
  congr 1
  have hx1 : x < (joinB bl b t).length:=by rw [joinB_len]; exact hx
  have hx2 : x < (joinB bl c d).length:=by rw [joinB_len]; exact hx
  have gone : ∀ {bl : List LBlock} {b t c d : Nat},x < bl.length→x = t→t ≠ d→t ≠ now' b t c→blkAt (joinB (joinB bl b t) (now' b t c) d) x = retB:=fun {bl b t c d} hx e1 e2 e3=>by
   rw [joinB_at (by rw [joinB_len]; exact hx),joinB_at hx]
   unfold blkJ
   rw [if_neg (by rw [e1]; exact e2),if_neg (by rw [e1]; exact e3),if_pos e1]
   rfl
  have gone2 : ∀ {bl : List LBlock} {b d : Nat},x < bl.length→x = d→blkAt (joinB bl b d) x = retB:=fun {bl b d} hx e=>by
   rw [joinB_at hx]
   unfold blkJ
   rw [if_pos e]
  have n1 : t ≠ now' b t c:=by
   unfold now'
   split
   ·exact h1.ne
   ·rename_i e; exact fun e4=>e e4.symm
  have n2 : d ≠ now' c d b:=by
   unfold now'
   split
   ·exact h2.ne
   ·rename_i e; exact fun e4=>e e4.symm
  by_cases ext : x = t
  ·rw [gone hx ext hne n1,gone2 hx2 ext]
  by_cases exd : x = d
  ·rw [gone2 hx1 exd,gone hx exd (fun e=>hne e.symm) n2]
  obtain ⟨a1,a2,a3,a4,a5⟩:=blkJ_at h3 hx1 exd
  obtain ⟨b1,b2,b3,b4,b5⟩:=blkJ_at h4 hx2 ext
  have m1 : ahd (now' b t c) d x < bl.length:=by unfold ahd; split; exact h2.tlt; exact hx
  have m2 : ahd (now' c d b) t x < bl.length:=by unfold ahd; split; exact h1.tlt; exact hx
  have m3 : ahd (now' b t c) d x ≠ t:=by unfold ahd; split; exact fun e=>hne e.symm; exact ext
  have m4 : ahd (now' c d b) t x ≠ d:=by unfold ahd; split; exact hne; exact exd
  obtain ⟨c1,c2,c3,_,_⟩:=blkJ_at h1 m1 m3
  obtain ⟨d1,d2,d3,_,_⟩:=blkJ_at h2 m2 m4
  obtain ⟨_,_,_,e4,e5⟩:=blkJ_at h1 hx ext
  obtain ⟨_,_,_,f4,f5⟩:=blkJ_at h2 hx exd
  have had:=ahd_two hbc h1.ne h2.ne hne hnr (q:=x) ext exd
  have hphis : (blkAt (joinB (joinB bl b t) (now' b t c) d) x).phis = (blkAt (joinB (joinB bl c d) (now' c d b) t) x).phis:=by
   rw [a4,b4,e4,f4,List.map_map,List.map_map]
   refine List.map_congr_left fun p _=>?_
   simp only [Function.comp_apply]
   refine congrArg (LPhi.mk p.dst) (?_ : (predsJ (joinB bl b t) (now' b t c) d x).map (fun q=>srcAt (joinB bl b t) x (phJ bl b t x p) (ahd (now' b t c) d q)) = (predsJ (joinB bl c d) (now' c d b) t x).map (fun q=>srcAt (joinB bl c d) x (phJ bl c d x p) (ahd (now' c d b) t q)))
   rw [← preds_join h3,← preds_join h4,← hpre x]
   refine List.map_congr_left fun q hq=>?_
   have hq1 : q ∈ predsJ (joinB bl b t) (now' b t c) d x:=by rw [← preds_join h3]; exact hq
   have hq2 : q ∈ predsJ (joinB bl c d) (now' c d b) t x:=by rw [← preds_join h4,← hpre x]; exact hq
   obtain ⟨i1,i2⟩:=(predsJ_mem h3 exd).1 hq1
   obtain ⟨j1,j2⟩:=(predsJ_mem h4 ext).1 hq2
   rw [preds_join h1] at i2
   rw [preds_join h2] at j2
   have u1:=srcAt_join h1 ext i2 p
   have u2:=srcAt_join h2 exd j2 p
   have w1 : ahd (now' b t c) d q = if q = now' b t c then d else q:=rfl
   have w2 : ahd (now' c d b) t q = if q = now' c d b then t else q:=rfl
   rw [w1,w2,u1,u2]
   have:=ahd_two hbc h1.ne h2.ne hne hnr (q:=q) j1 i1
   unfold ahd at this
   rw [this]
  have hlist : (blkAt (joinB (joinB bl b t) (now' b t c) d) x).list = (blkAt (joinB (joinB bl c d) (now' c d b) t) x).list:=by
   obtain ⟨_,_,_,_,g5⟩:=blkJ_at h1 h2.tlt (fun e=>hne e.symm)
   obtain ⟨_,_,_,_,k5⟩:=blkJ_at h2 h1.tlt hne
   rw [a5,b5,e5,f5,g5,k5]
   unfold now'
   by_cases o1 : c = t
   ·have o2 : b ≠ d:=fun e=>hnr ⟨o1,e⟩
    have o3 : d ≠ b:=fun e=>o2 e.symm
    subst o1
    simp only [if_true,o2,if_false,o3,List.append_nil]
    by_cases o4 : x = b
    ·simp only [o4,if_true,hbc,if_false,List.append_nil,List.append_assoc]
    ·simp only [o4,if_false,List.append_nil,ext]
   ·by_cases o2 : b = d
    ·subst o2
     have o3 : t ≠ c:=fun e=>o1 e.symm
     simp only [o1,if_false,if_true,o3,List.append_nil]
     by_cases o4 : x = c
     ·have o5 : c ≠ b:=fun e=>hbc e.symm
      simp only [o4,if_true,o5,if_false,List.append_nil,List.append_assoc]
     ·simp only [o4,if_false,List.append_nil,exd]
    ·have o3 : d ≠ b:=fun e=>o2 e.symm
     have o4 : t ≠ c:=fun e=>o1 e.symm
     simp only [o1,if_false,o2,o3,o4,List.append_nil]
     by_cases o5 : x = b
     ·have o6 : x ≠ c:=fun e=>hbc (o5.symm.trans e)
      simp only [o5,if_true,hbc,if_false,List.append_nil]
     ·simp only [o5,if_false,List.append_nil]
  have ext' : ∀ A B : LBlock,A.kind = B.kind→A.on = B.on→A.to = B.to→A.phis = B.phis→A.list = B.list→A = B:=by
   rintro ⟨⟩ ⟨⟩ rfl rfl rfl rfl rfl
   rfl
  exact ext' _ _ (by rw [a1,b1,c1,d1,had]) (by rw [a2,b2,c2,d2,had]) (by rw [a3,b3,c3,d3,had]) hphis hlist
 ·rw [List.getElem?_eq_none (by rw [joinB_len,joinB_len]; omega),List.getElem?_eq_none (by rw [joinB_len,joinB_len]; omega)]
end
structure JnOk (R : Nat) (bl : List LBlock) : Prop where
 base : BlOk R bl
 pos : PosOk bl
 all : ReachR bl
theorem JnOk.join {R : Nat} {bl : List LBlock} {b t : Nat} (h : JnOk R bl) (hj : JoinOk bl b t) : JnOk R (joinB bl b t):=⟨h.base.join hj,pos_join hj h.pos,allR_join hj h.pos h.all⟩
theorem JnOk.none {R : Nat} {bl : List LBlock} (h : JnOk R bl) (hn : ∀ c,canJ bl c = none) {b t : Nat} (hj : JoinOk bl b t) : False:=by
 have:=(canJ_some h.base.kind h.base.ok.good).2 hj
 rw [hn] at this
 cases this
theorem joins_end {R : Nat} : ∀ (n : Nat) (l a c : List LBlock),hasP l = n→JnOk R l→Joins l a→Joins l c→(∀ x,canJ a x = none)→(∀ x,canJ c x = none)→a = c:=by
 intro n
 induction n with
 | zero =>
  intro l a c hn h ha hc na nc
  cases ha with
  | refl =>
   cases hc with
   | refl=>rfl
   | head hj _=>exact (h.none na hj).elim
  | head hj _=>have:=hasP_join hj; omega
 | succ n ih =>
  intro l a c hn h ha hc na nc
  cases ha with
  | refl =>
   cases hc with
   | refl=>rfl
   | head hj _=>exact (h.none na hj).elim
  | @head _ _ b t hj ha =>
   cases hc with
   | refl=>exact (h.none nc hj).elim
   | @head _ _ b' t' hj' hc =>
    have m1:=hasP_join hj
    have m2:=hasP_join hj'
    by_cases e : t = t'
    ·subst e
     obtain rfl : b = b':=by
      have:=hj'.one
      rw [hj.one] at this
      simpa using this
     exact ih _ a c (by omega) (h.join hj) ha hc na nc
    ·have k1:=join_still h.base h.all h.pos hj hj' e
     have k2:=join_still h.base h.all h.pos hj' hj (fun x=>e x.symm)
     have ke:=join_two h.base h.all h.pos hj hj' e
     have hok:=(h.join hj).join k1
     obtain ⟨f1,f2⟩:=chainsL_joins hok.base
     have r1:=ih _ a _ (by omega) (h.join hj) ha (.head k1 f1) na f2
     have r2:=ih _ c _ (by omega) (h.join hj') hc (.head k2 (ke ▸ f1)) nc f2
     rw [r1,r2]
structure FullO (l : List LBlock) (o : List Nat) : Prop where
 ok : KOk l o
 full : ∀ q,toOf l q ≠ []→q ∈ o
theorem blkAt_kept {l : List LBlock} {o : List Nat} {i : Nat} (h : i < o.length) : blkAt (keptL l o) i = keepB l o (nth o i) (blkAt l (nth o i)):=blkAt_get (keptL_get (get_nth h))
theorem kept_join {R : Nat} {l : List LBlock} {o : List Nat} (h : BlOk R l) (hF : FullO l o) {i j : Nat} (hi : i < o.length) (hj : j < o.length) : JoinOk (keptL l o) i j ↔ JoinOk l (nth o i) (nth o j):=by
 have hg:=h.ok.good
 have hk:=hF.ok
 have hbi:=hk.lt _ (nth_mem hi)
 have hbj:=hk.lt _ (nth_mem hj)
 have e1:=blkAt_kept (l:=l) hi
 have e2:=blkAt_kept (l:=l) hj
 have hpi : ∀ q,q < o.length→(q ∈ preds (keptL l o) j ↔ nth o q ∈ preds l (nth o j)):=fun q hq=>by
  rw [preds_keep hg hk (get_nth hj),List.mem_filter,List.mem_range,decide_eq_true_eq]
  exact ⟨fun h=>h.2,fun h=>⟨hq,h⟩⟩
 have hpo : ∀ q ∈ preds l (nth o j),q ∈ o:=fun q hq=>hF.full q fun e=>by
  have:=(List.mem_filter.1 hq).2
  simp only [decide_eq_true_eq,e] at this
  cases this
 have one_of : ∀ {L : List Nat} {a : Nat},L.Nodup→a ∈ L→(∀ x ∈ L,x = a)→L = [a]:=fun {L a} hn hm hall=>by
  have hl:=len_one hn hall
  match L,hm,hl with
  | [x],hm,_=>rw [List.mem_singleton.1 hm]
  | _::_::_,_,hl=>simp at hl
 constructor
 ·intro hJ
  have hkind:=hJ.kind
  rw [e1] at hkind
  have hkind : (blkAt l (nth o i)).kind = 2:=hkind
  obtain ⟨_,h4,h5⟩:=kind_to h.kind hg hkind
  have hto:=hJ.to
  rw [e1] at hto
  have hto : (blkAt l (nth o i)).to.map (fun t=>((o.idxOf t.toNat : Nat) : Int)) = [(j : Int)]:=hto
  rw [h4] at hto
  simp only [List.map_cons,List.map_nil,Int.toNat_natCast,List.cons.injEq,and_true,Int.natCast_inj] at hto
  have hmem : jumpTo l (nth o i) ∈ o:=by
   have:=hk.closed _ (nth_mem hi) ((jumpTo l (nth o i) : Nat) : Int) (by rw [toOf_at hbi,h4]; simp)
   rwa [Int.toNat_natCast] at this
  have htj : jumpTo l (nth o i) = nth o j:=by rw [← hto]; exact (nth_idx hmem).symm
  rw [htj] at h4
  have hno:=hJ.none
  rw [e2] at hno
  have hno : (blkAt l (nth o j)).phis = []:=List.map_eq_nil_iff.1 hno
  refine ⟨hbi,hbj,fun e=>hJ.ne (nth_inj hk.nodup hj hi e),hkind,h4,hno,one_of (preds_nodup _ _) ?_ fun q hq=>?_⟩
  ·exact List.mem_filter.2 ⟨List.mem_range.2 hbi,by simp only [decide_eq_true_eq]; rw [toOf_at hbi,h4]; simp⟩
  ·have hqo:=hpo q hq
   have h6:=(hpi (o.idxOf q) (idx_lt hqo)).2 (by rw [nth_idx hqo]; exact hq)
   rw [hJ.one,List.mem_singleton] at h6
   rw [← h6,nth_idx hqo]
 ·intro hJ
  refine ⟨by rw [keptL_len]; exact hi,by rw [keptL_len]; exact hj,fun e=>hJ.ne (by rw [e]),by rw [e1]; exact hJ.kind,?_,?_,one_of (preds_nodup _ _) ?_ fun q hq=>?_⟩
  ·rw [e1]
   show (blkAt l (nth o i)).to.map (fun t=>((o.idxOf t.toNat : Nat) : Int)) = _
   rw [hJ.to]
   simp only [List.map_cons,List.map_nil,Int.toNat_natCast]
   rw [idx_nth hk.nodup hj]
  ·rw [e2]
   show (blkAt l (nth o j)).phis.map _ = []
   rw [hJ.none]
   rfl
  ·rw [hpi i hi,hJ.one]
   simp
  ·have hql:=preds_lt _ _ q hq
   rw [keptL_len] at hql
   have h6:=(hpi q hql).1 hq
   rw [hJ.one,List.mem_singleton] at h6
   exact nth_inj hk.nodup hql hi h6
theorem erase_map {o : List Nat} (hn : o.Nodup) {j : Nat} (hj : j < o.length) : o.erase (nth o j) = ((List.range o.length).filter fun i=>decide (i ≠ j)).map (nth o):=by
 rw [List.Nodup.erase_eq_filter hn]
 conv=>lhs; rw [← map_nth o]
 rw [List.filter_map,map_nth]
 congr 1
 refine List.filter_congr fun i hi=>?_
 have hil:=List.mem_range.1 hi
 simp only [Function.comp_apply,bne_iff_ne,ne_eq,decide_not,Bool.not_eq_eq_eq_not]
 by_cases e : i = j
 ·simp [e]
 ·have : ¬ nth o i = nth o j:=fun h=>e (nth_inj hn hil hj h)
  simp [e,this]
theorem FullO.join {R : Nat} {l : List LBlock} {o : List Nat} {b t : Nat} (h : BlOk R l) (hF : FullO l o) (hJ : JoinOk l b t) : FullO (joinB l b t) (o.erase t):=by
 have hk:=hF.ok
 have hme : ∀ x,x ∈ o.erase t ↔ x ≠ t∧x ∈ o:=fun x=>List.Nodup.mem_erase_iff hk.nodup
 refine ⟨⟨hk.nodup.erase t,fun x hx=>by rw [joinB_len]; exact hk.lt x ((hme x).1 hx).2,fun q hq x hx=>?_⟩,fun q hq=>?_⟩
 ·obtain ⟨q1,q2⟩:=(hme q).1 hq
  rw [toOf_join hJ] at hx
  unfold toJ at hx
  rw [if_neg q1] at hx
  have hgood:=h.ok.good
  by_cases e : q = b
  ·rw [if_pos e] at hx
   have hto : t ∈ o:=by
    have:=hk.closed q q2 (t : Int) (by rw [e,toOf_jb hJ]; simp)
    rwa [Int.toNat_natCast] at this
   refine (hme _).2 ⟨fun e2=>?_,hk.closed t hto x hx⟩
   have:=edge_of hgood hx
   exact self_t hJ (by rw [show (t : Int) = x by omega]; exact hx)
  ·rw [if_neg e] at hx
   refine (hme _).2 ⟨fun e2=>?_,hk.closed q q2 x hx⟩
   have:=edge_of hgood hx
   exact e (only_b hJ (by rw [show (t : Int) = x by omega]; exact hx))
 ·rw [toOf_join hJ] at hq
  unfold toJ at hq
  by_cases e1 : q = t
  ·rw [if_pos e1] at hq; exact absurd rfl hq
  rw [if_neg e1] at hq
  refine (hme q).2 ⟨e1,hF.full q ?_⟩
  by_cases e2 : q = b
  ·rw [e2,toOf_jb hJ]; simp
  ·rwa [if_neg e2] at hq
theorem kept_joined {R : Nat} {l : List LBlock} {o : List Nat} (h : BlOk R l) (hF : FullO l o) {i j : Nat} (hi : i < o.length) (hj : j < o.length) (hJ : JoinOk (keptL l o) i j) :
  keptL (joinB (keptL l o) i j) ((List.range o.length).filter fun x=>decide (x ≠ j)) = keptL (joinB l (nth o i) (nth o j)) (o.erase (nth o j)):=by
 have hg:=h.ok.good
 have hk:=hF.ok
 have hL:=(kept_join h hF hi hj).1 hJ
 obtain ⟨o',ho'⟩ : ∃ o',o' = (List.range o.length).filter fun x=>decide (x ≠ j):=⟨_,rfl⟩
 have hm : ∀ x ∈ o',x < o.length∧x ≠ j:=fun x hx=>by
  rw [ho'] at hx
  have:=List.mem_filter.1 hx
  exact ⟨List.mem_range.1 this.1,by simpa using this.2⟩
 have hm2 : ∀ x,x < o.length→x ≠ j→x ∈ o':=fun x h1 h2=>by
  rw [ho']
  exact List.mem_filter.2 ⟨List.mem_range.2 h1,by simpa using h2⟩
 have hn' : o'.Nodup:=by rw [ho']; exact List.nodup_range.sublist List.filter_sublist
 have hF2:=hF.join h hL
 rw [erase_map hk.nodup hj,← ho'] at hF2 ⊢
 have hahd : ∀ x,x < o.length→nth o (ahd i j x) = ahd (nth o i) (nth o j) (nth o x):=fun x hx=>by
  unfold ahd
  by_cases e : x = i
  ·rw [if_pos e,if_pos (by rw [e])]
  ·rw [if_neg e,if_neg (fun e2=>e (nth_inj hk.nodup hx hi e2))]
 have hal : ∀ x,x < o.length→ahd i j x < o.length:=fun x hx=>by unfold ahd; split; exact hj; exact hx
 unfold keptL
 rw [List.map_map]
 refine List.map_congr_left fun x hx=>?_
 obtain ⟨hxl,hxj⟩:=hm x hx
 show keepB (joinB (keptL l o) i j) o' x (blkAt (joinB (keptL l o) i j) x) = keepB (joinB l (nth o i) (nth o j)) (o'.map (nth o)) (nth o x) (blkAt (joinB l (nth o i) (nth o j)) (nth o x))
 have hxt : nth o x ≠ nth o j:=fun e=>hxj (nth_inj hk.nodup hxl hj e)
 obtain ⟨a1,a2,a3,a4,a5⟩:=blkJ_at hJ (x:=x) (by rw [keptL_len]; exact hxl) hxj
 obtain ⟨b1,b2,b3,b4,b5⟩:=blkJ_at hL (x:=nth o x) (hk.lt _ (nth_mem hxl)) hxt
 have e1:=blkAt_kept (l:=l) (hal x hxl)
 rw [hahd x hxl] at e1
 have e2:=blkAt_kept (l:=l) hxl
 have e3:=blkAt_kept (l:=l) hj
 rw [e1] at a1 a2 a3
 rw [e2] at a4 a5
 rw [e3] at a5
 have ext' : ∀ A B : LBlock,A.kind = B.kind→A.on = B.on→A.to = B.to→A.phis = B.phis→A.list = B.list→A = B:=by
  rintro ⟨⟩ ⟨⟩ rfl rfl rfl rfl rfl
  rfl
 refine ext' _ _ (by show (blkAt _ x).kind = (blkAt _ (nth o x)).kind; rw [a1,b1]; rfl) (by show (blkAt _ x).on = (blkAt _ (nth o x)).on; rw [a2,b2]; rfl) ?_ ?_ ?_
 ·show (blkAt (joinB (keptL l o) i j) x).to.map (fun t=>((o'.idxOf t.toNat : Nat) : Int)) = (blkAt (joinB l (nth o i) (nth o j)) (nth o x)).to.map fun t=>(((o'.map (nth o)).idxOf t.toNat : Nat) : Int)
  rw [a3]
  show ((blkAt l (ahd (nth o i) (nth o j) (nth o x))).to.map fun t=>((o.idxOf t.toNat : Nat) : Int)).map _ = _
  rw [← b3,List.map_map]
  refine List.map_congr_left fun t ht=>?_
  simp only [Function.comp_apply]
  rw [Int.toNat_natCast]
  have ht1 : t ∈ toOf (joinB l (nth o i) (nth o j)) (nth o x):=by rw [toOf_at (by rw [joinB_len]; exact hk.lt _ (nth_mem hxl))]; exact ht
  have ht2:=hF2.ok.closed (nth o x) (List.mem_map.2 ⟨x,hx,rfl⟩) t ht1
  obtain ⟨y,hy,hye⟩:=List.mem_map.1 ht2
  have hyl:=(hm y hy).1
  rw [← hye,idx_nth hk.nodup hyl]
  have e4 : nth (o'.map (nth o)) (o'.idxOf y) = nth o y:=by
   unfold nth
   rw [List.getElem?_map,List.getElem?_eq_getElem (idx_lt hy),List.getElem_idxOf]
   rfl
  have e5:=idx_nth hF2.ok.nodup (i:=o'.idxOf y) (by rw [List.length_map]; exact idx_lt hy)
  rw [e4] at e5
  rw [e5]
 ·show (blkAt (joinB (keptL l o) i j) x).phis.map _ = (blkAt (joinB l (nth o i) (nth o j)) (nth o x)).phis.map _
  rw [a4,b4]
  show ((((blkAt l (nth o x)).phis.map (keepPhi l o (nth o x))).map (phJ (keptL l o) i j x)).map (keepPhi (joinB (keptL l o) i j) o' x)) = _
  rw [List.map_map,List.map_map,List.map_map]
  refine List.map_congr_left fun p _=>?_
  simp only [Function.comp_apply]
  have hpq : ∀ q ∈ o',(q ∈ preds (joinB (keptL l o) i j) x ↔ nth o q ∈ preds (joinB l (nth o i) (nth o j)) (nth o x)):=fun q hq=>by
   obtain ⟨hql,hqj⟩:=hm q hq
   rw [preds_join hJ,preds_join hL,predsJ_mem hJ hxj,predsJ_mem hL hxt]
   have hqt : nth o q ≠ nth o j:=fun e=>hqj (nth_inj hk.nodup hql hj e)
   have h3 : (if q = i then j else q) ∈ preds (keptL l o) x ↔ nth o (ahd i j q) ∈ preds l (nth o x):=by
    rw [preds_keep hg hk (get_nth hxl),List.mem_filter,List.mem_range,decide_eq_true_eq]
    exact ⟨fun h=>h.2,fun h=>⟨hal q hql,h⟩⟩
   rw [h3,hahd q hql]
   exact ⟨fun h=>⟨hqt,h.2⟩,fun h=>⟨hqj,h.2⟩⟩
  refine congrArg (LPhi.mk p.dst) (?_ : (o'.filter fun q=>decide (q ∈ preds (joinB (keptL l o) i j) x)).map (srcAt (joinB (keptL l o) i j) x (phJ (keptL l o) i j x (keepPhi l o (nth o x) p))) = ((o'.map (nth o)).filter fun q=>decide (q ∈ preds (joinB l (nth o i) (nth o j)) (nth o x))).map (srcAt (joinB l (nth o i) (nth o j)) (nth o x) (phJ l (nth o i) (nth o j) (nth o x) p)))
  rw [List.filter_map,List.map_map]
  rw [List.filter_congr (q:=((fun q=>decide (q ∈ preds (joinB l (nth o i) (nth o j)) (nth o x))) ∘ nth o)) fun q hq=>by simp only [Function.comp_apply]; exact decide_eq_decide.2 (hpq q hq)]
  refine List.map_congr_left fun q hq=>?_
  obtain ⟨hq1,hq2⟩:=List.mem_filter.1 hq
  obtain ⟨hql,hqj⟩:=hm q hq1
  have hq2 : nth o q ∈ preds (joinB l (nth o i) (nth o j)) (nth o x):=by simpa using hq2
  have hq3:=(hpq q hq1).2 hq2
  rw [preds_join hJ] at hq3
  rw [preds_join hL] at hq2
  simp only [Function.comp_apply]
  rw [srcAt_join hJ hxj hq3,srcAt_join hL hxt hq2]
  have hq4:=((predsJ_mem hJ hxj).1 hq3).2
  rw [keepPhi_at hg hk (get_nth hxl) hq4]
  have:=hahd q hql
  unfold ahd at this
  rw [this]
 ·show (blkAt (joinB (keptL l o) i j) x).list = (blkAt (joinB l (nth o i) (nth o j)) (nth o x)).list
  rw [a5,b5]
  by_cases e : x = i
  ·rw [if_pos e,if_pos (by rw [e])]; rfl
  ·rw [if_neg e,if_neg (fun e2=>e (nth_inj hk.nodup hxl hi e2))]; rfl
def jnL (g : List LBlock) (i j : Nat) : List LBlock:=keptL (joinB g i j) ((List.range g.length).filter fun x=>decide (x ≠ j))
structure RefSt (X : LFunc) (R : Nat) (g l : List LBlock) (o : List Nat) : Prop where
 eq : g = keptL l o
 jn : Joins (keptF X) l
 ok : JnOk R l
 full : FullO l o
 zero : 0 < o.length∧nth o 0 = 0
theorem RefSt.len {X : LFunc} {R : Nat} {g l : List LBlock} {o : List Nat} (h : RefSt X R g l o) : g.length = o.length:=by rw [h.eq,keptL_len]
theorem Joins.snoc {a c : List LBlock} (h : Joins a c) {b t : Nat} (hj : JoinOk c b t) : Joins a (joinB c b t):=h.trans (.head hj (.refl _))
theorem refSt_begin {u : LUnit} (hu : CheckOk u) {k : Nat} {X : LFunc} (hX : u.funcs[k]? = some X) : ∃ R,FnAll X R∧RefSt X R (keptF X) (keptF X) (List.range (keptF X).length):=by
 obtain ⟨R,h⟩:=fnAll hu hX
 obtain ⟨hkd,hps⟩:=fn_kind hu hX
 have hk:=orderK_ok h.ok.good h.pos
 obtain ⟨hz1,hz2⟩:=order_pos h.ok.good h.pos
 have hok : FuncOk R (keptF X):=keep_funcOk h.ok hk
 have hlen : (keptF X).length = (orderL X.blocks).length:=keptL_len _ _
 refine ⟨R,h,(keep_all hok).symm,.refl _,⟨⟨hok,kind_kept hk hkd⟩,pos_kept h.ok.good hk hz2 hps,allR_kept h.ok.good h.pos⟩,⟨⟨List.nodup_range,fun b hb=>List.mem_range.1 hb,fun b _ t ht=>?_⟩,fun q hq=>?_⟩,?_,?_⟩
 ·have:=edge_of hok.good ht
  exact List.mem_range.2 (by omega)
 ·exact List.mem_range.2 (Classical.byContradiction fun hn=>hq (toOf_none hn))
 ·rw [List.length_range]; omega
 ·exact nth_get (List.getElem?_range (by omega))
theorem refSt_step {X : LFunc} {R : Nat} {g l : List LBlock} {o : List Nat} (h : RefSt X R g l o) {i j : Nat} (hJ : JoinOk g i j) : RefSt X R (jnL g i j) (joinB l (nth o i) (nth o j)) (o.erase (nth o j))∧(jnL g i j).length + 1 = g.length:=by
 have hlen:=h.len
 have hi : i < o.length:=by rw [← hlen]; exact hJ.blt
 have hj : j < o.length:=by rw [← hlen]; exact hJ.tlt
 have hJ':=hJ
 rw [h.eq] at hJ'
 have hL:=(kept_join h.ok.base h.full hi hj).1 hJ'
 have e : jnL g i j = keptL (joinB l (nth o i) (nth o j)) (o.erase (nth o j)):=by
  unfold jnL
  rw [hlen,h.eq]
  exact kept_joined h.ok.base h.full hi hj hJ'
 have hm:=nth_mem hj
 have hl1:=List.length_erase_of_mem hm
 have hne:=hL.pos h.ok.pos
 refine ⟨⟨e,h.jn.snoc hL,h.ok.join hL,h.full.join h.ok.base hL,?_⟩,by rw [e,keptL_len,hl1]; omega⟩
 cases ho : o with
 | nil=>rw [ho] at hi; simp at hi
 | cons a r =>
  have ha : a = 0:=by
   have:=h.zero.2
   rw [ho] at this
   exact this
  subst ha
  rw [ho] at hne
  rw [List.erase_cons_tail (by simpa using fun e=>hne e.symm)]
  exact ⟨by simp,rfl⟩
theorem refSt_end {u : LUnit} (hu : CheckOk u) {k : Nat} {X : LFunc} (hX : u.funcs[k]? = some X) {R : Nat} (hXR : X.regs = R) {g l : List LBlock} {o : List Nat} (h : RefSt X R g l o) (hn : ∀ i,i < g.length→canJ g i = none) : namesF (putB X g) = tidyF X:=by
 have hlen:=h.len
 have hg:=h.ok.base.ok.good
 have hkg : BlOk R g:=by rw [h.eq]; exact ⟨keep_funcOk h.ok.base.ok h.full.ok,kind_kept h.full.ok h.ok.base.kind⟩
 have hnl : ∀ c,canJ l c = none:=fun c=>by
  cases hc : canJ l c with
  | none=>rfl
  | some t =>
   exfalso
   have hJ:=(canJ_some h.ok.base.kind hg).1 hc
   have hco:=h.full.full c (by rw [toOf_jb hJ]; simp)
   have hto : t ∈ o:=by
    have:=h.full.ok.closed c hco (t : Int) (by rw [toOf_jb hJ]; simp)
    rwa [Int.toNat_natCast] at this
   have hJ2:=(kept_join h.ok.base h.full (idx_lt hco) (idx_lt hto)).2 (by rw [nth_idx hco,nth_idx hto]; exact hJ)
   rw [← h.eq] at hJ2
   have:=(canJ_some hkg.kind hkg.ok.good).2 hJ2
   rw [hn _ (by rw [hlen]; exact idx_lt hco)] at this
   cases this
 obtain ⟨R2,h0,h2⟩:=refSt_begin hu hX
 obtain rfl : R2 = R:=by have:=h0.regs; omega
 obtain ⟨f1,f2⟩:=chainsL_joins h2.ok.base
 have he : l = chainsL (keptF X):=joins_end _ _ _ _ rfl h2.ok h.jn f1 hnl f2
 have hk : keptL g (orderL g) = keptL (chainsL (keptF X)) (orderL (chainsL (keptF X))):=by
  rw [h.eq,keep_order h.ok.base.ok h.full.ok h.zero.1 h.zero.2,he]
 unfold tidyF namesF
 have e1 : keptF (putB X g) = keptL g (orderL g):=rfl
 have e2 : keptF (putB X (chainsL (keptF X))) = keptL (chainsL (keptF X)) (orderL (chainsL (keptF X))):=rfl
 rw [e1,e2,hk]
 rfl
def repJ (t b : Nat) (e : Int × LVal) : Int × LVal:=if e.1 = (t : Int) then ((b : Int),e.2) else e
theorem edges_map {bl : List LBlock} {c : Nat} {p : LPhi} (hp : p.src.length = (preds bl c).length) : edgesL bl c p.src = (preds bl c).map fun q : Nat=>((q : Int),srcAt bl c p q):=by
 apply List.ext_getElem?
 intro j
 unfold edgesL
 rw [List.getElem?_map]
 by_cases hj : j < (preds bl c).length
 ·obtain ⟨q,hq⟩ : ∃ q,(preds bl c)[j]? = some q:=⟨_,List.getElem?_eq_getElem hj⟩
  obtain ⟨v,hv⟩ : ∃ v,p.src[j]? = some v:=⟨_,List.getElem?_eq_getElem (by omega)⟩
  rw [(List.getElem?_zip_eq_some (z:=((q : Int),v))).2 ⟨by rw [List.getElem?_map,hq]; rfl,hv⟩,hq,Option.map_some]
  have h5:=idx_nth (preds_nodup bl c) (i:=j) hj
  rw [nth_get hq] at h5
  unfold srcAt
  rw [h5,List.getD_eq_getElem?_getD,hv]
  rfl
 ·rw [List.getElem?_eq_none (by rw [List.length_zip,List.length_map]; omega),List.getElem?_eq_none (by omega)]
  rfl
theorem rowR_join {bl : List LBlock} {b t c : Nat} (hJ : JoinOk bl b t) (hc : c ≠ t) (p : LPhi) (hp : p.src.length = (preds bl c).length) : rowR ((edgesL bl c p.src).map (repJ t b)) bl.length = (phJ bl b t c p).src:=by
 have hto : toOf bl b = [(t : Int)]:=by
  rw [toOf_get (get_blkAt hJ.blt)]
  exact hJ.to
 have hmp : ∀ q,q ∈ preds bl c ↔ q < bl.length∧(c : Int) ∈ toOf bl q:=fun q=>by
  unfold preds
  rw [List.mem_filter,List.mem_range,decide_eq_true_eq]
 have hbn : b ∉ preds bl c:=fun h=>by
  have:=((hmp b).1 h).2
  rw [hto,List.mem_singleton] at this
  omega
 rw [edges_map hp,List.map_map]
 have hkey : ∀ k,k < bl.length→rowAt ((preds bl c).map (repJ t b ∘ fun q : Nat=>((q : Int),srcAt bl c p q))) k = if (c : Int) ∈ toJ bl b t k then [srcAt bl c p (if k = b then t else k)] else []:=fun k hk=>by
  have huniq : ∀ q ∈ preds bl c,(repJ t b ((q : Int),srcAt bl c p q)).1 = (k : Int)→q = (if k = b then t else k)∧k ≠ t:=fun q hq he=>by
   unfold repJ at he
   simp only at he
   split at he
   ·rename_i h1
    have h2 : q = t:=by omega
    have h3 : k = b:=by simp only at he; omega
    rw [if_pos h3,h3]
    exact ⟨h2,fun h=>hJ.ne h.symm⟩
   ·rename_i h1
    have h2 : q = k:=by simp only at he; omega
    have h3 : k ≠ b:=fun h=>hbn (by rw [← h,← h2]; exact hq)
    rw [if_neg h3]
    exact ⟨h2,fun h=>h1 (by omega)⟩
  unfold rowAt
  by_cases hm : (c : Int) ∈ toJ bl b t k
  ·rw [if_pos hm]
   unfold toJ at hm
   have hq : (if k = b then t else k) ∈ preds bl c∧(repJ t b (((if k = b then t else k : Nat) : Int),srcAt bl c p (if k = b then t else k))).1 = (k : Int):=by
    split at hm
    ·cases hm
    ·rename_i h1
     split at hm
     ·rename_i h2
      rw [if_pos h2]
      refine ⟨(hmp t).2 ⟨hJ.tlt,hm⟩,?_⟩
      unfold repJ
      rw [if_pos rfl,h2]
     ·rename_i h2
      rw [if_neg h2]
      refine ⟨(hmp k).2 ⟨hk,hm⟩,?_⟩
      unfold repJ
      rw [if_neg (by simp only; omega)]
   have hex : ∃ e,((preds bl c).map (repJ t b ∘ fun q : Nat=>((q : Int),srcAt bl c p q))).find? (fun e=>decide (e.1 = (k : Int))) = some e:=by
    rw [← Option.isSome_iff_exists,List.find?_isSome]
    exact ⟨_,List.mem_map.2 ⟨_,hq.1,rfl⟩,by simpa using hq.2⟩
   obtain ⟨e,he⟩:=hex
   rw [he]
   have h3:=List.find?_some he
   have h4:=List.mem_of_find?_eq_some he
   simp only [decide_eq_true_eq] at h3
   obtain ⟨q,hq2,rfl⟩:=List.mem_map.1 h4
   have h5:=(huniq q hq2 h3).1
   rw [← h5]
   simp only [Function.comp]
   unfold repJ
   split <;> rfl
  ·rw [if_neg hm]
   split
   ·rename_i e he
    have h3:=List.find?_some he
    have h4:=List.mem_of_find?_eq_some he
    simp only [decide_eq_true_eq] at h3
    obtain ⟨q,hq2,rfl⟩:=List.mem_map.1 h4
    obtain ⟨h5,h6⟩:=huniq q hq2 h3
    refine absurd ?_ hm
    unfold toJ
    rw [if_neg h6]
    split
    ·rename_i h7
     rw [if_pos h7] at h5
     rw [← h5]
     exact ((hmp q).1 hq2).2
    ·rename_i h7
     rw [if_neg h7] at h5
     rw [← h5]
     exact ((hmp q).1 hq2).2
   ·rfl
 have h2 : ∀ l : List Nat,(l.filter fun q=>decide ((c : Int) ∈ toJ bl b t q)).map (fun q=>srcAt bl c p (if q = b then t else q)) = l.flatMap fun q=>if (c : Int) ∈ toJ bl b t q then [srcAt bl c p (if q = b then t else q)] else []:=fun l=>by
  induction l with
  | nil=>rfl
  | cons q l ih =>
   rw [List.flatMap_cons,← ih]
   by_cases h : (c : Int) ∈ toJ bl b t q
   ·simp [h]
   ·simp [h]
 unfold phJ rowR predsJ
 simp only
 rw [h2]
 exact flat_congr fun k hk=>hkey k (List.mem_range.1 hk)
def butL (n t : Nat) : List Nat:=(List.range n).filter fun x=>decide (x ≠ t)
theorem butL_succ (n t : Nat) : butL (n + 1) t = butL n t++if n ≠ t then [n] else []:=by
 unfold butL
 rw [List.range_succ,List.filter_append]
 by_cases h : n = t
 ·simp [h]
 ·simp [h]
theorem butL_len (n t : Nat) : (butL n t).length ≤ n:=by
 unfold butL
 refine Nat.le_trans (List.length_filter_le _ _) ?_
 rw [List.length_range]
 exact Nat.le_refl _
theorem butL_mem {n t x : Nat} : x ∈ butL n t ↔ x < n∧x ≠ t:=by
 unfold butL
 rw [List.mem_filter,List.mem_range,decide_eq_true_eq]
def turnJ (bl : List LBlock) (b t c : Nat) (B : LBlock) : LBlock:={ B with phis:=B.phis.map (phJ bl b t c) }
def turnTo (bl : List LBlock) (b t i : Nat) : List LBlock:=bl.mapIdx fun c B=>if c < i then turnJ bl b t c B else B
theorem turnTo_len (bl : List LBlock) (b t i : Nat) : (turnTo bl b t i).length = bl.length:=by simp [turnTo]
theorem turnTo_get {bl : List LBlock} {b t i c : Nat} {B : LBlock} (h : bl[c]? = some B) : (turnTo bl b t i)[c]? = some (if c < i then turnJ bl b t c B else B):=by
 unfold turnTo
 rw [List.getElem?_mapIdx,h]
 rfl
theorem turnTo_zero (bl : List LBlock) (b t : Nat) : turnTo bl b t 0 = bl:=by
 apply List.ext_getElem?
 intro c
 cases h : bl[c]? with
 | none=>rw [List.getElem?_eq_none]; rw [turnTo_len]; exact List.getElem?_eq_none_iff.1 h
 | some B=>rw [turnTo_get h,if_neg (by omega)]
theorem turnTo_succ {bl : List LBlock} {b t i : Nat} {B : LBlock} (h : bl[i]? = some B) : (turnTo bl b t i).set i (turnJ bl b t i B) = turnTo bl b t (i + 1):=by
 apply List.ext_getElem?
 intro c
 have hil:=(List.getElem?_eq_some_iff.1 h).1
 by_cases e : i = c
 ·subst e
  rw [List.getElem?_set_self (by rw [turnTo_len]; exact hil),turnTo_get h,if_pos (by omega)]
 ·rw [List.getElem?_set_ne e]
  cases hc : bl[c]? with
  | none =>
   have:=List.getElem?_eq_none_iff.1 hc
   rw [List.getElem?_eq_none (by rw [turnTo_len]; exact this),List.getElem?_eq_none (by rw [turnTo_len]; exact this)]
  | some C =>
   rw [turnTo_get hc,turnTo_get hc]
   by_cases h2 : c < i
   ·rw [if_pos h2,if_pos (by omega)]
   ·rw [if_neg h2,if_neg (by omega)]
structure JnLike (bl : List LBlock) (b t : Nat) (l : List LBlock) : Prop where
 len : l.length = bl.length
 rest : ∀ c,c < bl.length→c ≠ t→blkAt l c = blkAt (joinB bl b t) c
 to : (blkAt l t).to = []
 phis : (blkAt l t).phis = []
 list : (blkAt l t).list = (blkAt bl t).list
 on : (blkAt l t).on = noV
section
variable {bl l : List LBlock} {b t R : Nat} (hj : JoinOk bl b t) (h : JnLike bl b t l)
include hj h
theorem JnLike.toOf (c : Nat) : toOf l c = toOf (joinB bl b t) c:=by
 by_cases hc : c < bl.length
 ·rw [toOf_at (by rw [h.len]; exact hc)]
  by_cases e : c = t
  ·subst e
   rw [h.to,toOf_join hj]
   unfold toJ
   rw [if_pos rfl]
  ·rw [h.rest c hc e,toOf_at (by rw [joinB_len]; exact hc)]
 ·rw [toOf_none (by rw [h.len]; exact hc),toOf_none (by rw [joinB_len]; exact hc)]
theorem JnLike.preds (c : Nat) : preds l c = preds (joinB bl b t) c:=preds_same (by rw [h.len,joinB_len]) (fun i=>h.toOf hj i) c
theorem JnLike.kept {o : List Nat} (ho : ∀ c ∈ o,c < bl.length∧c ≠ t) : keptL l o = keptL (joinB bl b t) o:=by
 unfold keptL
 refine List.map_congr_left fun c hc=>?_
 obtain ⟨h1,h2⟩:=ho c hc
 rw [h.rest c h1 h2]
 unfold keepB keepPhi srcAt
 simp only [h.preds hj]
theorem JnLike.jn : keptL l (butL bl.length t) = jnL bl b t:=h.kept hj fun c hc=>butL_mem.1 hc
theorem JnLike.kok (hg : GoodB bl) : KOk l (butL bl.length t):=by
 refine ⟨List.nodup_range.sublist List.filter_sublist,fun c hc=>by rw [h.len]; exact (butL_mem.1 hc).1,fun c hc x hx=>?_⟩
 rw [h.toOf hj,toOf_join hj] at hx
 unfold toJ at hx
 have hne:=(butL_mem.1 hc).2
 rw [if_neg hne] at hx
 by_cases e : c = b
 ·rw [if_pos e] at hx
  have h1:=edge_of hg hx
  refine butL_mem.2 ⟨by omega,fun e2=>self_t hj ?_⟩
  rw [show (t : Int) = x by omega]
  exact hx
 ·rw [if_neg e] at hx
  have h1:=edge_of hg hx
  refine butL_mem.2 ⟨by omega,fun e2=>e (only_b hj ?_)⟩
  rw [show (t : Int) = x by omega]
  exact hx
theorem JnLike.funcOk (hf : FuncOk R bl) : FuncOk R l:=by
 have hJ:=join_funcOk hf hj
 have hat : ∀ {c C},l[c]? = some C→c < bl.length∧blkAt l c = C:=fun {c C} hc=>⟨by rw [← h.len]; exact (List.getElem?_eq_some_iff.1 hc).1,blkAt_get hc⟩
 refine ⟨fun C hC=>?_,fun c C hc=>?_⟩
 ·obtain ⟨c,hc⟩:=List.getElem?_of_mem hC
  obtain ⟨h1,h2⟩:=hat hc
  by_cases e : c = t
  ·subst e
   rw [← h2,h.to]
   simp
  ·rw [← h2,h.rest c h1 e,h.len,← joinB_len bl b t]
   exact hJ.good _ (List.mem_of_getElem? (get_blkAt (by rw [joinB_len]; exact h1)))
 ·obtain ⟨h1,h2⟩:=hat hc
  have hB:=hJ.block c _ (get_blkAt (bl:=joinB bl b t) (by rw [joinB_len]; exact h1))
  by_cases e : c = t
  ·subst e
   have hT:=hf.block c _ (get_blkAt h1)
   rw [← h2]
   refine ⟨fun p hp=>?_,fun x hx=>hT.list x (by rw [← h.list]; exact hx),?_,by rw [h.to]; exact List.nodup_nil⟩
   ·rw [h.phis] at hp
    cases hp
   ·rw [h.on]
    unfold ValOk noV
    simp
  ·rw [← h2,h.rest c h1 e]
   refine ⟨fun p hp=>?_,hB.list,hB.on,hB.to⟩
   rw [h.preds hj]
   exact hB.phis p hp
end
theorem jnLike_of {bl l : List LBlock} {b t : Nat} (hj : JoinOk bl b t) (hl : l.length = bl.length) (hr : ∀ c,c < bl.length→c ≠ t→c ≠ b→blkAt l c = turnJ bl b t c (blkAt bl c))
  (hb : blkAt l b = ⟨(blkAt bl b).phis.map (phJ bl b t b),(blkAt bl b).list++(blkAt bl t).list,(blkAt bl t).kind,(blkAt bl t).on,(blkAt bl t).to⟩) (ht : blkAt l t = ⟨(blkAt bl t).phis.map (phJ bl b t t),(blkAt bl t).list,1,noV,[]⟩) : JnLike bl b t l:=by
 refine ⟨hl,fun c hc e=>?_,by rw [ht],by rw [ht,hj.none]; rfl,by rw [ht],by rw [ht]⟩
 rw [joinB_at hc]
 unfold blkJ
 rw [if_neg e]
 by_cases e2 : c = b
 ·rw [if_pos e2,e2,hb]
 ·rw [if_neg e2,hr c hc e e2]
  rfl
end Go.Proofs.YtpadjpplidlfeaaGreatDoor
namespace Go.Proofs.YtpadjpplidlfeaaGreatDoor
open Go Go.RowKit
attribute [local irreducible] wpListIn Code.wpIn Exit.then Exit.inBlock bodyPost wpQuiet wpAnyIn wpAnyH bodyPostM oneH
set_option maxHeartbeats 8000000
section
variable {P : Program} {N : Nat} {ds : List Deferred} {S : Nat→Prop} {w0 : World} {L L' : List (Nat × Value)} {H H' Hr : List Ent} {Q : Exit→Act→World→Prop} {x y : Operand} {M : Act→World→Prop} {l : List Oper} {fuel : Nat} {listed : Array Bool}
theorem h_callGE {α : Type} {val : α→Value} {E : α→List Ent} {φ : α→Prop} {d ty f j t : Nat} (i : Nat) {want : Bool} {args : List Operand} {vs : List Value} {tys : Array Nat} {pos : String} {aft : Array Go.Edge} [ho : ListAt l i ⟨some d,.call { callee:=.value (.func f),args:=args.toArray,argTypes:=tys },ty,pos,aft,some (j,want)⟩] [hj : DstOf l.toArray j t] [hb : SlotIs L t (.bool want)] [h : EnterOk P f] [hx : Evs L args vs] (hd : okPut d N L = true)
  (hr : decide (Region.ready .any l.toArray listed = [i]) = true) (hH : Hr.Sublist H)
  (hc : ∀ w,Wd S w0 H w→Ret P f vs w fun u w'=>∃ x,u = val x∧Wd NoS w (E x) w'∧φ x)
  (k : ∀ x,φ x→G N ds S w0 ((d,val x)::L) (E x++H) (wpAnyH P .any l.toArray (OnlyN M) (Wd S w0 Hr) fuel (listed.setIfInBounds i true))) : G N ds S w0 L H (wpAnyH P .any l.toArray (OnlyN M) (Wd S w0 Hr) (fuel + 1) listed):=by
 intro a w hS
 refine wpAnyH_all (of_decide_eq_true hr) (by simp) fun i' hi'=>?_
 simp only [List.mem_singleton] at hi'
 subst hi'
 unfold wpOp
 rw [show l.toArray[i']? = some ⟨some d,.call { callee:=.value (.func f),args:=args.toArray,argTypes:=tys },ty,pos,aft,some (j,want)⟩ by simpa using ho.at']
 simp only
 rw [if_pos (show Region.wanted (⟨some d,.call { callee:=.value (.func f),args:=args.toArray,argTypes:=tys },ty,pos,aft,some (j,want)⟩ : Oper) (yielded l.toArray a.tmps) = true by
  simp only [Region.wanted,hS.fr.yield (ops:=l.toArray) (j:=j) (b:=want)]
  simp)]
 left
 unfold Oper.wp
 have hrun : (execOp a.eval ⟨some d,.call { callee:=.value (.func f),args:=args.toArray,argTypes:=tys },ty,pos,aft,some (j,want)⟩).run P w = .ok (.enter f vs.toArray) w:=by
  simp [execOp,resolve,Act.eval,Deferred.ofValue,invoke,hx.eq _ _ _ hS.fr,h.run]
 rw [hrun]
 refine Calls.mono (callsIn_wide.1 (hc w hS.wd)) fun e w' ⟨v,he,q,hv,h2,h3⟩=>?_
 subst he hv
 have hw2 : Wd S w0 (E q++H) w':=hS.wd.more h2
 exact ⟨hw2.sub (hH.trans (List.sublist_append_right _ _)),k q h3 _ w' ⟨hS.fr.putOk hd _,hw2⟩⟩
end
def lastJ (bl : List LBlock) : Nat→Int
 | 0=>-1
 | n + 1=>if (canJ bl n).isSome = true then (n : Int) else lastJ bl n
theorem chainR_c (nm pa re : Value) (bl : List LBlock) (va : Option Addr) (vn vc : Nat) (hlen : bl.length ≤ 100) (hg : GoodB bl) (hk : KindOk bl) (w0 : World) (hbs : SlAt w0 (.slice va vn vc) 6 bl BlockV) :
  RetV Tryz.prog 38 [.agg #[nm,pa,re,.slice va vn vc]] w0 (.int .i64 (lastJ bl bl.length)):=by
 classical
 obtain ⟨hvn,_⟩:=hbs.at
 refine ret_enter Tryz.func38 rfl Tryz.ntmps38 rfl (Wd.nil NoS w0) ?_
 repeat (first|refine g_op rfl ?_|refine g_then ?_|refine g_nil ?_|refine g_region ?_|refine g_seq ?_|refine g_box rfl fun _ _=>?_|refine g_block ?_|refine g_sub rfl (by omega) (by omega) ?_)
 rename_i p1 _
 refine g_loop (fun (n : Nat)=>n ≤ vn∧lastJ bl bl.length = lastJ bl n) (fun n=>[(3,.int .i64 ((n : Int) - 1)),(1,.pointer (some ⟨p1,0,none⟩))]) (fun _=>[Ent.box p1 [nm,pa,re,.slice va vn vc] 35]) (fun n=>n) vn ⟨Nat.le_refl _,by rw [hvn]⟩ (g_done (by repeat (first|exact trivial|refine ⟨rfl,?_⟩)) (.refl _)) fun n ⟨hn,hlast⟩=>?_
 repeat (first|refine g_op rfl ?_|refine g_then ?_|refine g_nil ?_|refine g_region ?_|refine g_seq ?_)
 refine g_cond (fun h1=>?_) (fun h1=>?_)
 ·have hn0 : 0 < n:=by have:=of_decide_eq_true h1; omega
  obtain ⟨b,rfl⟩ : ∃ b,n = b + 1:=⟨n - 1,by omega⟩
  rw [show ((b + 1 : Nat) : Int) - 1 = (b : Int) by omega]
  have hlt : b < bl.length:=by omega
  obtain ⟨B,hB⟩ : ∃ B,bl[b]? = some B:=⟨_,List.getElem?_eq_getElem hlt⟩
  obtain ⟨b1,o1,had1,hold1,hel1⟩:=slKnown (S:=NoS) hbs (fun _=>inferInstance) (fun _ _ h=>by obtain ⟨_,_,_,e,_⟩:=h; exact ⟨_,_,e⟩) (ne_of_get hB)
  obtain ⟨_,hci1,pv,lv,tv,rfl,_,_,hph,hli,ht⟩:=hel1 b B hB
  have hlii : LtIs b vn:=⟨by omega⟩
  obtain ⟨ta,tn,tc,_,_,rfl,_⟩:=id ht
  repeat (first|refine g_op rfl ?_|refine g_then ?_|refine g_nil ?_|refine g_region ?_|refine g_seq ?_|refine g_alloc rfl fun _ _=>?_|refine g_storeAgg ?_|refine g_block ?_|refine g_skip ?_)
  rename_i p4 _
  refine g_drawX [Ent.box p4 [.int .i64 B.kind,.bool B.on.reg,.int .i64 B.on.n,.slice ta tn tc] 48,Ent.box p1 [nm,pa,re,.slice va vn vc] 35] (fun _ : Unit=>True) (fun _=>[(52,.bool (canJ bl b).isSome),(3,.int .i64 b),(1,.pointer (some ⟨p1,0,none⟩))]) (fun _=>[Ent.box p1 [nm,pa,re,.slice va vn vc] 35]) mixed (.refl _) ?_ fun _ _=>?_
  ·skip
   refine h_take 0 rfl (by decide +kernel) (.refl _) ?_
   refine h_take 1 rfl (by decide +kernel) (.refl _) ?_
   refine h_take 2 rfl (by decide +kernel) (.refl _) ?_
   refine h_take 3 rfl (by decide +kernel) (.refl _) ?_
   by_cases hkd : B.kind = 2
   ·have hkb : (blkAt bl b).kind = 2:=by rw [blkAt_get hB]; exact hkd
    obtain ⟨_,hto,htl⟩:=kind_to hk hg hkb
    obtain ⟨t,htD⟩ : ∃ t,t = jumpTo bl b:=⟨_,rfl⟩
    rw [← htD] at hto htl
    rw [blkAt_get hB] at hto
    rw [show decide (B.kind = 2) = true by simp [hkd]]
    have htb : (t : Int) ∈ toOf bl b:=by rw [toOf_get hB,hto]; simp
    obtain ⟨htn,_⟩:=ht.at
    rw [hto] at htn
    simp only [List.length_cons,List.length_nil,Nat.zero_add] at htn
    subst htn
    obtain ⟨b2,o2,had2,hold2,hel2⟩:=slKnown (S:=NoS) ht (fun _=>inferInstance) (fun _ _ h=>⟨_,_,h.1⟩) (by rw [hto]; simp)
    obtain ⟨_,hci2,rfl,_⟩:=hel2 0 (t : Int) (by rw [hto]; rfl)
    have hl01 : LtIs 0 1:=⟨by omega⟩
    obtain ⟨C,hC⟩ : ∃ C,bl[t]? = some C:=⟨_,List.getElem?_eq_getElem htl⟩
    obtain ⟨_,hci3,pv2,lv2,tv2,rfl,_,_,hph2,_,_⟩:=hel1 t C hC
    have hlit : LtIs t vn:=⟨by omega⟩
    obtain ⟨pa2,pn2,pc2,_,_,rfl,hpn2,_⟩:=id hph2
    have hcan : canJ bl b = if t ≠ b∧C.phis = []∧(preds bl t).length ≤ 1 then some t else none:=by
     unfold canJ
     rw [← htD,blkAt_get hC]
     by_cases h : t ≠ b∧C.phis = []∧(preds bl t).length ≤ 1
     ·rw [if_pos h,if_pos ⟨hkb,h⟩]
     ·rw [if_neg h,if_neg fun h'=>h h'.2]
    refine h_takeG 4 rfl (by decide +kernel) (.refl _) ?_
    refine h_takeG 5 rfl (by decide +kernel) (.refl _) ?_
    refine h_takeG 6 rfl (by decide +kernel) (.refl _) ?_
    refine h_takeG 7 rfl (by decide +kernel) (.refl _) ?_
    refine h_takeG 8 rfl (by decide +kernel) (.refl _) ?_
    refine h_takeG 9 rfl (by decide +kernel) (.refl _) ?_
    refine h_take 10 rfl (by decide +kernel) (.refl _) ?_
    refine h_take 11 rfl (by decide +kernel) (.refl _) ?_
    by_cases hne : t = b
    ·rw [show (!decide ((t : Int) = (b : Int))) = false by simp [hne]]
     rw [hcan,if_neg fun h=>h.1 hne]
     refine h_takeP 12 rfl (by decide +kernel) (.refl _) ?_
     refine h_takeP 13 rfl (by decide +kernel) (.refl _) ?_
     refine h_takeP 14 rfl (by decide +kernel) (.refl _) ?_
     refine h_takeP 15 rfl (by decide +kernel) (.refl _) ?_
     refine h_takeP 16 rfl (by decide +kernel) (.refl _) ?_
     refine h_takeP 17 rfl (by decide +kernel) (.refl _) ?_
     refine h_takeP 18 rfl (by decide +kernel) (.refl _) ?_
     refine h_takeP 19 rfl (by decide +kernel) (.refl _) ?_
     refine h_takeP 20 rfl (by decide +kernel) (.refl _) ?_
     refine h_takeP 21 rfl (by decide +kernel) (.refl _) ?_
     refine h_takeP 22 rfl (by decide +kernel) (.refl _) ?_
     refine h_take 23 rfl (by decide +kernel) (.refl _) ?_
     refine h_take 24 rfl (by decide +kernel) (.refl _) ?_
     refine h_takeP 25 rfl (by decide +kernel) (.refl _) ?_
     refine h_takeP 26 rfl (by decide +kernel) (.refl _) ?_
     refine h_takeP 27 rfl (by decide +kernel) (.refl _) ?_
     refine h_takeP 28 rfl (by decide +kernel) (.refl _) ?_
     refine h_takeP 29 rfl (by decide +kernel) (.refl _) ?_
     refine h_takeP 30 rfl (by decide +kernel) (.refl _) ?_
     refine h_takeP 31 rfl (by decide +kernel) (.refl _) ?_
     refine h_takeP 32 rfl (by decide +kernel) (.refl _) ?_
     refine h_take 33 rfl (by decide +kernel) (.refl _) ?_
     refine h_end (by decide +kernel) ?_
     exact g_mem () trivial (by repeat (first|exact trivial|refine ⟨rfl,?_⟩)) (.cons _ (.refl _))
    ·rw [show (!decide ((t : Int) = (b : Int))) = true by simp; omega]
     refine h_takeG 12 rfl (by decide +kernel) (.refl _) ?_
     refine h_takeG 13 rfl (by decide +kernel) (.refl _) ?_
     refine h_takeG 14 rfl (by decide +kernel) (.refl _) ?_
     refine h_takeG 15 rfl (by decide +kernel) (.refl _) ?_
     refine h_takeG 16 rfl (by decide +kernel) (.refl _) ?_
     refine h_takeG 17 rfl (by decide +kernel) (.refl _) ?_
     refine h_takeG 18 rfl (by decide +kernel) (.refl _) ?_
     refine h_takeG 19 rfl (by decide +kernel) (.refl _) ?_
     refine h_takeG 20 rfl (by decide +kernel) (.refl _) ?_
     refine h_takeG 21 rfl (by decide +kernel) (.refl _) ?_
     refine h_takeG 22 rfl (by decide +kernel) (.refl _) ?_
     refine h_take 23 rfl (by decide +kernel) (.refl _) ?_
     refine h_take 24 rfl (by decide +kernel) (.refl _) ?_
     by_cases hphs : C.phis = []
     ·rw [show decide ((pn2 : Int) = 0) = true by rw [hpn2,hphs]; rfl]
      have hpb:=preds_mem hlt htb
      have hpl:=List.length_pos_of_mem hpb
      have hpl2 : (preds bl t).length ≤ 100:=by
       unfold preds
       exact Nat.le_trans (List.length_filter_le _ _) (by rw [List.length_range]; exact hlen)
      refine h_takeG 25 rfl (by decide +kernel) (.refl _) ?_
      refine h_takeG 26 rfl (by decide +kernel) (.refl _) ?_
      refine h_takeG 27 rfl (by decide +kernel) (.refl _) ?_
      refine h_takeG 28 rfl (by decide +kernel) (.refl _) ?_
      refine h_takeG 29 rfl (by decide +kernel) (.refl _) ?_
      refine h_callGE 30 (val:=fun x : Option Addr × Nat=>.slice x.1 (preds bl t).length x.2) (E:=fun x=>[Ent.vec x.1 (preds bl t).length x.2 3 1 ((preds bl t).map intN)]) (φ:=fun _=>True) rfl (by decide +kernel) (.refl _) (fun w hw=>refAhead_c nm pa re bl (.slice va vn vc) t w (hbs.keep keeps_block hw.chg) hlen) fun x _=>?_
      obtain ⟨ea,ec⟩:=x
      simp only [List.cons_append,List.nil_append]
      refine h_takeG 31 rfl (by decide +kernel) (.cons _ (.refl _)) ?_
      refine h_takeG 32 rfl (by decide +kernel) (.cons _ (.refl _)) ?_
      refine h_take 33 rfl (by decide +kernel) (.cons _ (.refl _)) ?_
      rw [hcan]
      refine h_end (by decide +kernel) ?_
      by_cases hp1 : (preds bl t).length ≤ 1
      ·rw [if_pos ⟨hne,hphs,hp1⟩]
       rw [show decide (((preds bl t).length : Int) = 1) = true by simp; omega]
       exact g_mem () trivial (by repeat (first|exact trivial|refine ⟨rfl,?_⟩)) (.cons _ (.cons _ (.refl _)))
      ·rw [if_neg fun h=>hp1 h.2.2]
       rw [show decide (((preds bl t).length : Int) = 1) = false by simp; omega]
       exact g_mem () trivial (by repeat (first|exact trivial|refine ⟨rfl,?_⟩)) (.cons _ (.cons _ (.refl _)))
     ·have hpn0 : C.phis.length ≠ 0:=fun h=>hphs (List.length_eq_zero_iff.1 h)
      rw [show decide ((pn2 : Int) = 0) = false by simp; omega]
      rw [hcan,if_neg fun h=>hphs h.2.1]
      refine h_takeP 25 rfl (by decide +kernel) (.refl _) ?_
      refine h_takeP 26 rfl (by decide +kernel) (.refl _) ?_
      refine h_takeP 27 rfl (by decide +kernel) (.refl _) ?_
      refine h_takeP 28 rfl (by decide +kernel) (.refl _) ?_
      refine h_takeP 29 rfl (by decide +kernel) (.refl _) ?_
      refine h_takeP 30 rfl (by decide +kernel) (.refl _) ?_
      refine h_takeP 31 rfl (by decide +kernel) (.refl _) ?_
      refine h_takeP 32 rfl (by decide +kernel) (.refl _) ?_
      refine h_take 33 rfl (by decide +kernel) (.refl _) ?_
      refine h_end (by decide +kernel) ?_
      exact g_mem () trivial (by repeat (first|exact trivial|refine ⟨rfl,?_⟩)) (.cons _ (.refl _))
   ·rw [show decide (B.kind = 2) = false by simp [hkd]]
    have hcn : canJ bl b = none:=by
     unfold canJ
     rw [if_neg fun h=>hkd (by rw [← blkAt_get hB]; exact h.1)]
    rw [hcn]
    refine h_takeP 4 rfl (by decide +kernel) (.refl _) ?_
    refine h_takeP 5 rfl (by decide +kernel) (.refl _) ?_
    refine h_takeP 6 rfl (by decide +kernel) (.refl _) ?_
    refine h_takeP 7 rfl (by decide +kernel) (.refl _) ?_
    refine h_takeP 8 rfl (by decide +kernel) (.refl _) ?_
    refine h_takeP 9 rfl (by decide +kernel) (.refl _) ?_
    refine h_take 10 rfl (by decide +kernel) (.refl _) ?_
    refine h_take 11 rfl (by decide +kernel) (.refl _) ?_
    refine h_takeP 12 rfl (by decide +kernel) (.refl _) ?_
    refine h_takeP 13 rfl (by decide +kernel) (.refl _) ?_
    refine h_takeP 14 rfl (by decide +kernel) (.refl _) ?_
    refine h_takeP 15 rfl (by decide +kernel) (.refl _) ?_
    refine h_takeP 16 rfl (by decide +kernel) (.refl _) ?_
    refine h_takeP 17 rfl (by decide +kernel) (.refl _) ?_
    refine h_takeP 18 rfl (by decide +kernel) (.refl _) ?_
    refine h_takeP 19 rfl (by decide +kernel) (.refl _) ?_
    refine h_takeP 20 rfl (by decide +kernel) (.refl _) ?_
    refine h_takeP 21 rfl (by decide +kernel) (.refl _) ?_
    refine h_takeP 22 rfl (by decide +kernel) (.refl _) ?_
    refine h_take 23 rfl (by decide +kernel) (.refl _) ?_
    refine h_take 24 rfl (by decide +kernel) (.refl _) ?_
    refine h_takeP 25 rfl (by decide +kernel) (.refl _) ?_
    refine h_takeP 26 rfl (by decide +kernel) (.refl _) ?_
    refine h_takeP 27 rfl (by decide +kernel) (.refl _) ?_
    refine h_takeP 28 rfl (by decide +kernel) (.refl _) ?_
    refine h_takeP 29 rfl (by decide +kernel) (.refl _) ?_
    refine h_takeP 30 rfl (by decide +kernel) (.refl _) ?_
    refine h_takeP 31 rfl (by decide +kernel) (.refl _) ?_
    refine h_takeP 32 rfl (by decide +kernel) (.refl _) ?_
    refine h_take 33 rfl (by decide +kernel) (.refl _) ?_
    refine h_end (by decide +kernel) ?_
    exact g_mem () trivial (by repeat (first|exact trivial|refine ⟨rfl,?_⟩)) (.cons _ (.refl _))
  cases hcj : canJ bl b with
  | none =>
   rw [show (none : Option Nat).isSome = false from rfl]
   repeat (first|refine g_op rfl ?_|refine g_then ?_|refine g_nil ?_|refine g_region ?_|refine g_opS rfl ?_|refine g_inBlock ?_|refine g_skip ?_|refine g_condF ?_|refine g_sub rfl (by omega) (by omega) ?_)
   refine g_next b ⟨by omega,by rw [hlast,show lastJ bl (b + 1) = if (canJ bl b).isSome = true then (b : Int) else lastJ bl b from rfl,hcj]; rfl⟩ (by omega) (by repeat (first|exact trivial|refine ⟨rfl,?_⟩)) (.refl _)
  | some t =>
   rw [show (some t : Option Nat).isSome = true from rfl]
   repeat (first|refine g_op rfl ?_|refine g_then ?_|refine g_nil ?_|refine g_region ?_|refine g_seq ?_|refine g_condT ?_|refine g_ret ?_|refine g_thenRet ?_|refine g_blockRet ?_)
   refine g_retV rfl ?_
   rw [hlast,show lastJ bl (b + 1) = if (canJ bl b).isSome = true then (b : Int) else lastJ bl b from rfl,hcj]
   rfl
 ·have hn0 : n = 0:=by have:=of_decide_eq_false h1; omega
  subst hn0
  repeat (first|refine g_op rfl ?_|refine g_then ?_|refine g_nil ?_|refine g_region ?_|refine g_seq ?_|refine g_exit ?_|refine g_thenExit ?_|refine g_exitHere ?_|refine g_ret ?_)
  exact g_retV rfl (by rw [hlast]; rfl)
end Go.Proofs.YtpadjpplidlfeaaGreatDoor
