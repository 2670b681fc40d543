/- Texts joined: TidyP TidyM TidyS. -/
import Derived.Test.YtpadjpplidlfeaaDoorGG
import Derived.Test.YtpadjpplidlfeaaDoorHN
import Derived.Test.YtpadjpplidlfeaaDoorHP
import Derived.Test.YtpadjpplidlfeaaDoorHW
namespace Go.Proofs.YtpadjpplidlfeaaDoor
open Go Go.RowKit
def retB : LBlock:=⟨[],[],1,⟨false,0⟩,[]⟩
def blkAt (bl : List LBlock) (b : Nat) : LBlock:=bl[b]?.getD retB
def keepPhi (bl : List LBlock) (o : List Nat) (b : Nat) (p : LPhi) : LPhi:=⟨p.dst,(o.filter fun q=>decide (q ∈ preds bl b)).map (srcAt bl b p)⟩
def keepB (bl : List LBlock) (o : List Nat) (b : Nat) (B : LBlock) : LBlock:={ B with phis:=B.phis.map (keepPhi bl o b),to:=B.to.map fun t=>((o.idxOf t.toNat : Nat) : Int) }
def keptL (bl : List LBlock) (o : List Nat) : List LBlock:=o.map fun b=>keepB bl o b (blkAt bl b)
structure KOk (bl : List LBlock) (o : List Nat) : Prop where
 nodup : o.Nodup
 lt : ∀ b ∈ o,b < bl.length
 closed : ∀ b ∈ o,∀ t ∈ toOf bl b,t.toNat ∈ o
def nth (o : List Nat) (i : Nat) : Nat:=o[i]?.getD 0
theorem nth_get {o : List Nat} {i b : Nat} (h : o[i]? = some b) : nth o i = b:=by unfold nth; rw [h]; rfl
theorem get_nth {o : List Nat} {i : Nat} (h : i < o.length) : o[i]? = some (nth o i):=by unfold nth; rw [List.getElem?_eq_getElem h]; rfl
theorem nth_mem {o : List Nat} {i : Nat} (h : i < o.length) : nth o i ∈ o:=List.mem_of_getElem? (get_nth h)
theorem idx_lt {o : List Nat} {b : Nat} (h : b ∈ o) : o.idxOf b < o.length:=List.idxOf_lt_length_of_mem h
theorem nth_idx {o : List Nat} {b : Nat} (h : b ∈ o) : nth o (o.idxOf b) = b:=by
 unfold nth
 rw [List.getElem?_eq_getElem (idx_lt h),List.getElem_idxOf]
 rfl
theorem nth_inj {o : List Nat} (hn : o.Nodup) {i j : Nat} (hi : i < o.length) (hj : j < o.length) (h : nth o i = nth o j) : i = j:=by
 unfold nth at h
 rw [List.getElem?_eq_getElem hi,List.getElem?_eq_getElem hj] at h
 exact (List.getElem_inj hn).1 h
theorem idx_nth {o : List Nat} (hn : o.Nodup) {i : Nat} (hi : i < o.length) : o.idxOf (nth o i) = i :=
 nth_inj hn (idx_lt (nth_mem hi)) hi (nth_idx (nth_mem hi))
theorem map_nth (o : List Nat) : (List.range o.length).map (nth o) = o:=by
 apply List.ext_getElem?
 intro i
 rw [List.getElem?_map]
 by_cases h : i < o.length
 ·rw [List.getElem?_range h,Option.map_some,← get_nth h]
 ·rw [List.getElem?_eq_none (by simp; omega),List.getElem?_eq_none (by omega)]; rfl
theorem keptL_len (bl : List LBlock) (o : List Nat) : (keptL bl o).length = o.length:=by simp [keptL]
theorem blkAt_get {bl : List LBlock} {b : Nat} {B : LBlock} (h : bl[b]? = some B) : blkAt bl b = B:=by unfold blkAt; rw [h]; rfl
theorem get_blkAt {bl : List LBlock} {b : Nat} (h : b < bl.length) : bl[b]? = some (blkAt bl b):=by unfold blkAt; rw [List.getElem?_eq_getElem h]; rfl
theorem keptL_get {bl : List LBlock} {o : List Nat} {i b : Nat} (h : o[i]? = some b) : (keptL bl o)[i]? = some (keepB bl o b (blkAt bl b)):=by
 unfold keptL
 rw [List.getElem?_map,h]
 rfl
theorem toOf_at {bl : List LBlock} {b : Nat} (h : b < bl.length) : toOf bl b = (blkAt bl b).to:=by
 unfold toOf
 rw [get_blkAt h]
section
variable {bl : List LBlock} {o : List Nat} (hg : GoodB bl) (hk : KOk bl o)
include hg hk
theorem toOf_keep {i b : Nat} (h : o[i]? = some b) : toOf (keptL bl o) i = (toOf bl b).map fun t=>((o.idxOf t.toNat : Nat) : Int):=by
 have _:=hg
 rw [toOf_at (hk.lt b (List.mem_of_getElem? h))]
 unfold toOf
 rw [keptL_get h]
 rfl
theorem keep_good : GoodB (keptL bl o):=fun C hC=>by
 obtain ⟨i,hi⟩:=List.getElem?_of_mem hC
 have hil : i < o.length:=by rw [← keptL_len bl o]; exact (List.getElem?_eq_some_iff.1 hi).1
 have hto:=toOf_keep hg hk (get_nth hil)
 have h1 : toOf (keptL bl o) i = C.to:=by unfold toOf; rw [hi]
 rw [h1] at hto
 rw [hto,keptL_len]
 have hb:=hk.lt _ (nth_mem hil)
 refine ⟨by rw [List.length_map,toOf_at hb]; exact (hg _ (List.mem_of_getElem? (get_blkAt hb))).1,fun t ht=>?_⟩
 obtain ⟨x,hx,rfl⟩:=List.mem_map.1 ht
 have:=idx_lt (hk.closed _ (nth_mem hil) x hx)
 omega
theorem mem_keep {i j b t : Nat} (hi : o[i]? = some b) (hj : o[j]? = some t) : (j : Int) ∈ toOf (keptL bl o) i ↔ (t : Int) ∈ toOf bl b:=by
 have hbm:=List.mem_of_getElem? hi
 have hjl:=(List.getElem?_eq_some_iff.1 hj).1
 rw [toOf_keep hg hk hi,List.mem_map]
 constructor
 ·rintro ⟨x,hx,e⟩
  have h1:=edge_of hg hx
  have h2:=nth_idx (hk.closed b hbm x hx)
  rw [show o.idxOf x.toNat = j by omega,nth_get hj] at h2
  rw [show (t : Int) = x by omega]
  exact hx
 ·intro h
  refine ⟨t,h,?_⟩
  rw [Int.toNat_natCast]
  have:=idx_nth hk.nodup hjl
  rw [nth_get hj] at this
  rw [this]
theorem preds_keep {j t : Nat} (hj : o[j]? = some t) : preds (keptL bl o) j = (List.range o.length).filter fun i=>decide (nth o i ∈ preds bl t):=by
 unfold preds
 rw [keptL_len]
 refine List.filter_congr fun i hi=>?_
 have hil:=List.mem_range.1 hi
 rw [decide_eq_decide,mem_keep hg hk (get_nth hil) hj,List.mem_filter,List.mem_range,decide_eq_true_eq]
 exact ⟨fun h=>⟨hk.lt _ (nth_mem hil),h⟩,fun h=>h.2⟩
theorem preds_keep_map {j t : Nat} (hj : o[j]? = some t) : (preds (keptL bl o) j).map (nth o) = o.filter fun q=>decide (q ∈ preds bl t):=by
 rw [preds_keep hg hk hj]
 have h:=map_nth o
 have h2 : ((List.range o.length).map (nth o)).filter (fun q=>decide (q ∈ preds bl t)) = ((List.range o.length).filter fun i=>decide (nth o i ∈ preds bl t)).map (nth o):=by rw [List.filter_map]; rfl
 rw [← h2,h]
theorem keepPhi_src {j t : Nat} (hj : o[j]? = some t) (p : LPhi) : (keepPhi bl o t p).src = (preds (keptL bl o) j).map fun i=>srcAt bl t p (nth o i):=by
 unfold keepPhi
 rw [← preds_keep_map hg hk hj,List.map_map]
 rfl
theorem keepPhi_at {i j t : Nat} (hj : o[j]? = some t) (hi : i ∈ preds (keptL bl o) j) (p : LPhi) : srcAt (keptL bl o) j (keepPhi bl o t p) i = srcAt bl t p (nth o i):=by
 unfold srcAt
 rw [keepPhi_src hg hk hj,List.getD_eq_getElem?_getD,List.getElem?_map,List.getElem?_eq_getElem (List.idxOf_lt_length_of_mem hi),List.getElem_idxOf]
 rfl
omit hk in
theorem keep_nodup (hk : KOk bl o) (hnd : ∀ (b : Nat) B,bl[b]? = some B→B.to.Nodup) : ∀ (i : Nat) C,(keptL bl o)[i]? = some C→C.to.Nodup:=fun i C hC=>by
 have hil : i < o.length:=by rw [← keptL_len bl o]; exact (List.getElem?_eq_some_iff.1 hC).1
 have hb:=hk.lt _ (nth_mem hil)
 have hto:=toOf_keep hg hk (get_nth hil)
 have h1 : toOf (keptL bl o) i = C.to:=by unfold toOf; rw [hC]
 rw [← h1,hto]
 refine nodup_mapOn (by rw [toOf_at hb]; exact hnd _ _ (get_blkAt hb)) fun x hx y hy e=>?_
 have hx1:=edge_of hg hx
 have hy1:=edge_of hg hy
 have hx2:=nth_idx (hk.closed _ (nth_mem hil) x hx)
 have hy2:=nth_idx (hk.closed _ (nth_mem hil) y hy)
 rw [show o.idxOf x.toNat = o.idxOf y.toNat by omega] at hx2
 omega
end
theorem keep_funcOk {R : Nat} {bl : List LBlock} {o : List Nat} (hf : FuncOk R bl) (hk : KOk bl o) : FuncOk R (keptL bl o):=by
 have hg:=hf.good
 refine ⟨keep_good hg hk,fun i C hC=>?_⟩
 have hil : i < o.length:=by rw [← keptL_len bl o]; exact (List.getElem?_eq_some_iff.1 hC).1
 have hnd:=keep_nodup hg hk (fun b B hB=>(hf.block b B hB).to) i C hC
 have hb:=hk.lt _ (nth_mem hil)
 have hB:=hf.block _ _ (get_blkAt hb)
 rw [keptL_get (get_nth hil)] at hC
 obtain rfl:=Option.some.inj hC
 refine ⟨fun p' hp'=>?_,hB.list,hB.on,hnd⟩
 unfold keepB at hp'
 simp only at hp'
 obtain ⟨p,hp,rfl⟩:=List.mem_map.1 hp'
 have hpo:=hB.phis p hp
 refine ⟨hpo.dst,by rw [keepPhi_src hg hk (get_nth hil),List.length_map],fun v hv=>?_⟩
 unfold keepPhi at hv
 simp only at hv
 obtain ⟨x,hx,rfl⟩:=List.mem_map.1 hv
 have h2:=(List.mem_filter.1 hx).2
 exact hpo.vals _ (srcAt_mem (R:=R) hpo.len (by simpa using h2))
structure RenB (bl bl' : List LBlock) (π : Nat→Nat) : Prop where
 lt : ∀ i,i < bl'.length→π i < bl.length
 inj : ∀ i j,i < bl'.length→j < bl'.length→π i = π j→i = j
 to : ∀ i,i < bl'.length→((toOf bl' i).map Int.toNat).map π = (toOf bl (π i)).map Int.toNat
 good : GoodB bl'
structure RelD (bl bl' : List LBlock) (π : Nat→Nat) (st st' : List Bool × List Nat) : Prop where
 len : st.1.length = bl.length
 len' : st'.1.length = bl'.length
 seen : ∀ i,i < bl'.length→st'.1[i]? = st.1[π i]?
 left : st.2 = st'.2.map π
theorem dfs_ren {bl bl' : List LBlock} {π : Nat→Nat} (h : RenB bl bl' π) : ∀ (f f' b : Nat) (st st' : List Bool × List Nat),RelD bl bl' π st st'→b < bl'.length→st'.1[b]? = some false→unseen st.1 ≤ f→unseen st'.1 ≤ f'→RelD bl bl' π (dfs bl f (π b) st) (dfs bl' f' b st'):=by
 intro f
 induction f with
 | zero =>
  intro f' b st st' hr hb hs hu hu'
  have:=unseen_pos (l:=st.1) (t:=π b) (by rw [← hr.seen b hb]; exact hs)
  omega
 | succ f ih =>
  intro f' b st st' hr hb hs hu hu'
  have hs2 : st.1[π b]? = some false:=by rw [← hr.seen b hb]; exact hs
  obtain ⟨f',rfl⟩ : ∃ k,f' = k + 1:=⟨f' - 1,by have:=unseen_pos hs; omega⟩
  have h1:=unseen_set hs
  have h2:=unseen_set hs2
  rw [dfs_succ,dfs_succ]
  have key : ∀ (l : List Nat) (s s' : List Bool × List Nat),(∀ t ∈ l,t < bl'.length)→RelD bl bl' π s s'→unseen s.1 ≤ f→unseen s'.1 ≤ f'→RelD bl bl' π ((l.map π).foldl (vstep bl f) s) (l.foldl (vstep bl' f') s'):=by
   intro l
   induction l with
   | nil=>exact fun s s' _ hs _ _=>hs
   | cons t l ihl =>
    intro s s' hl hs hu hu'
    have ht:=hl t (by simp)
    rw [List.map_cons,List.foldl_cons,List.foldl_cons]
    have hstep : RelD bl bl' π (vstep bl f s (π t)) (vstep bl' f' s' t):=by
     have hst:=hs.seen t ht
     unfold vstep
     rw [← hst]
     by_cases e : s'.1[t]?.getD true = true
     ·rw [if_pos e,if_pos e]; exact hs
     ·rw [if_neg e,if_neg e]
      exact ih f' t s s' hs ht (getD_false (by simpa using e)) hu hu'
    have g1:=(vsteps_grows bl f s [π t]).2.2.1
    have g2:=(vsteps_grows bl' f' s' [t]).2.2.1
    simp only [List.foldl_cons,List.foldl_nil] at g1 g2
    exact ihl _ _ (fun x hx=>hl x (by simp [hx])) hstep (by omega) (by omega)
  have e1 : (toOf bl (π b)).reverse.map Int.toNat = ((toOf bl' b).reverse.map Int.toNat).map π:=by
   rw [List.map_reverse,List.map_reverse,List.map_reverse,← h.to b hb]
  rw [e1]
  have hk:=key ((toOf bl' b).reverse.map Int.toNat) (st.1.set (π b) true,st.2) (st'.1.set b true,st'.2) (fun t ht=>?_) ⟨by simp [hr.len],by simp [hr.len'],fun i hi=>?_,hr.left⟩ (by simp only; omega) (by simp only; omega)
  ·exact ⟨hk.len,hk.len',hk.seen,by simp only [List.map_append,List.map_cons,List.map_nil,hk.left]⟩
  ·obtain ⟨z,hz,rfl⟩:=List.mem_map.1 ht
   have hz:=List.mem_reverse.1 hz
   have:=edge_of h.good hz
   omega
  ·simp only [List.getElem?_set]
   by_cases e : b = i
   ·subst e
    rw [if_pos rfl,if_pos rfl,if_pos (by rw [hr.len']; exact hi),if_pos (by rw [hr.len]; exact h.lt _ hi)]
   ·rw [if_neg e,if_neg (fun e2=>e (h.inj b i hb hi e2))]
    exact hr.seen i hi
theorem post_ren {bl bl' : List LBlock} {π : Nat→Nat} (h : RenB bl bl' π) (h0 : 0 < bl'.length) (hz : π 0 = 0) : postL bl = (postL bl').map π:=by
 have hb0:=h.lt 0 h0
 have hr : RelD bl bl' π (List.replicate bl.length false,[]) (List.replicate bl'.length false,[]):=⟨by simp,by simp,fun i hi=>by
  have:=h.lt i hi
  simp only
  rw [List.getElem?_replicate,List.getElem?_replicate,if_pos hi,if_pos this],rfl⟩
 have:=dfs_ren h bl.length bl'.length 0 _ _ hr h0 (by simp [h0]) (by simp only [unseen_all]; omega) (by simp only [unseen_all]; omega)
 rw [hz] at this
 exact this.left
theorem keep_renB {bl : List LBlock} {o : List Nat} (hg : GoodB bl) (hk : KOk bl o) : RenB bl (keptL bl o) (nth o):=by
 refine ⟨fun i hi=>hk.lt _ (nth_mem (by rwa [keptL_len] at hi)),fun i j hi hj e=>nth_inj hk.nodup (by rwa [keptL_len] at hi) (by rwa [keptL_len] at hj) e,fun i hi=>?_,keep_good hg hk⟩
 have hil : i < o.length:=by rwa [keptL_len] at hi
 rw [toOf_keep hg hk (get_nth hil),List.map_map,List.map_map]
 refine List.map_congr_left fun t ht=>?_
 simp only [Function.comp_apply,Int.toNat_natCast]
 exact nth_idx (hk.closed _ (nth_mem hil) t ht)
theorem orderK_ok {bl : List LBlock} (hg : GoodB bl) (h0 : 0 < bl.length) : KOk bl (orderL bl):=by
 have ho:=orderL_ord hg h0
 refine ⟨ho.nodup,fun b hb=>hg.rch h0 ((ho.mem b).1 hb),fun b hb t ht=>(ho.mem _).2 ?_⟩
 have:=edge_of hg ht
 exact .step ((ho.mem b).1 hb) (by unfold Edge; rw [show ((t.toNat : Nat) : Int) = t by omega]; exact ht) (by omega)
theorem order_pos {bl : List LBlock} (hg : GoodB bl) (h0 : 0 < bl.length) : 0 < (orderL bl).length∧nth (orderL bl) 0 = 0:=by
 have ho:=orderL_ord hg h0
 exact ⟨(List.getElem?_eq_some_iff.1 ho.zero).1,nth_get ho.zero⟩
theorem order_keep {bl : List LBlock} {o : List Nat} (hg : GoodB bl) (hk : KOk bl o) (h0 : 0 < o.length) (hz : nth o 0 = 0) : orderL bl = (orderL (keptL bl o)).map (nth o):=by
 have h:=post_ren (keep_renB hg hk) (by rw [keptL_len]; exact h0) hz
 unfold orderL
 rw [h,List.map_reverse]
theorem order_self {bl : List LBlock} (hg : GoodB bl) (h0 : 0 < bl.length) : orderL (keptL bl (orderL bl)) = List.range (orderL bl).length:=by
 have hk:=orderK_ok hg h0
 obtain ⟨hp,hz⟩:=order_pos hg h0
 have h1:=order_keep hg hk hp hz
 have hg2:=keep_good hg hk
 have hp2 : 0 < (keptL bl (orderL bl)).length:=by rw [keptL_len]; exact hp
 have hlt:=(orderK_ok hg2 hp2).lt
 have hl : (orderL (keptL bl (orderL bl))).length = (orderL bl).length:=by
  have:=congrArg List.length h1
  rw [List.length_map] at this
  exact this.symm
 apply List.ext_getElem?
 intro i
 by_cases hi : i < (orderL bl).length
 ·rw [List.getElem?_range hi,get_nth (by rw [hl]; exact hi)]
  congr 1
  have h2 : nth (orderL bl) i = nth ((orderL (keptL bl (orderL bl))).map (nth (orderL bl))) i:=congrArg (fun l=>nth l i) h1
  rw [show nth ((orderL (keptL bl (orderL bl))).map (nth (orderL bl))) i = nth (orderL bl) (nth (orderL (keptL bl (orderL bl))) i) by
   rw [nth_get (o:=(orderL (keptL bl (orderL bl))).map (nth (orderL bl)))]
   rw [List.getElem?_map,get_nth (by rw [hl]; exact hi)]; rfl] at h2
  have h3:=hlt _ (nth_mem (show i < (orderL (keptL bl (orderL bl))).length by rw [hl]; exact hi))
  rw [keptL_len] at h3
  exact (nth_inj hk.nodup hi h3 h2).symm
 ·rw [List.getElem?_eq_none (by rw [hl]; omega),List.getElem?_eq_none (by simp; omega)]
def meet (l : List Int) (r : Int) : List Int:=if r ∈ l then l else l++[r]
def meets (l s : List Int) : List Int:=s.foldl meet l
def once (s : List Int) : List Int:=meets [] s
theorem meets_app (l s t : List Int) : meets l (s++t) = meets (meets l s) t:=List.foldl_append
theorem meets_nil (l : List Int) : meets l [] = l:=rfl
theorem meets_cons (l : List Int) (r : Int) (t : List Int) : meets l (r::t) = meets (meet l r) t:=rfl
theorem once_app (s t : List Int) : once (s++t) = meets (once s) t:=meets_app _ _ _
theorem mem_meet {l : List Int} {r x : Int} : x ∈ meet l r ↔ x ∈ l ∨ x = r:=by
 unfold meet
 split
 ·rename_i h
  exact ⟨.inl,fun h2=>h2.elim id fun e=>e ▸ h⟩
 ·rw [List.mem_append,List.mem_singleton]
theorem mem_meets {s : List Int} : ∀ {l : List Int} {x : Int},x ∈ meets l s ↔ x ∈ l ∨ x ∈ s:=by
 induction s with
 | nil=>intro l x; rw [meets_nil]; simp
 | cons a s ih =>
  intro l x
  rw [meets_cons,ih,mem_meet,List.mem_cons,or_assoc]
theorem mem_once {s : List Int} {x : Int} : x ∈ once s ↔ x ∈ s:=by unfold once; rw [mem_meets]; simp
theorem meet_nodup {l : List Int} {r : Int} (h : l.Nodup) : (meet l r).Nodup:=by
 unfold meet
 split
 ·exact h
 ·rename_i hr
  exact List.nodup_append.2 ⟨h,by simp,fun a ha b hb e=>hr (by rw [List.mem_singleton] at hb; rw [← hb,← e]; exact ha)⟩
theorem meets_nodup {s : List Int} : ∀ {l : List Int},l.Nodup→(meets l s).Nodup:=by
 induction s with
 | nil=>intro l h; exact h
 | cons a s ih=>intro l h; exact ih (meet_nodup h)
theorem once_nodup (s : List Int) : (once s).Nodup:=meets_nodup List.nodup_nil
theorem meet_pre (l : List Int) (r : Int) : l <+: meet l r:=by
 unfold meet
 split
 ·exact List.prefix_refl l
 ·exact List.prefix_append _ _
theorem meets_pre (s : List Int) : ∀ l : List Int,l <+: meets l s:=by
 induction s with
 | nil=>exact fun l=>List.prefix_refl l
 | cons a s ih=>exact fun l=>(meet_pre l a).trans (ih _)
theorem once_pre (s t : List Int) : once s <+: once (s++t):=by rw [once_app]; exact meets_pre _ _
theorem idx_pre {l m : List Int} {r : Int} (h : l <+: m) (hr : r ∈ l) : m.idxOf r = l.idxOf r:=by
 obtain ⟨t,rfl⟩:=h
 rw [List.idxOf_append,if_pos hr]
theorem meet_in {l : List Int} {r : Int} (h : r ∈ l) : meet l r = l:=by unfold meet; rw [if_pos h]
theorem meets_in {s : List Int} : ∀ {l : List Int},(∀ r ∈ s,r ∈ l)→meets l s = l:=by
 induction s with
 | nil=>intro l _; rfl
 | cons a s ih=>intro l h; rw [meets_cons,meet_in (h a (by simp))]; exact ih fun r hr=>h r (by simp [hr])
theorem once_self {s : List Int} (h : s.Nodup) : once s = s:=by
 have key : ∀ (s l : List Int),(l++s).Nodup→meets l s = l++s:=by
  intro s
  induction s with
  | nil=>intro l _; rw [meets_nil,List.append_nil]
  | cons a s ih =>
   intro l h
   have ha : a ∉ l:=fun hl=>(List.nodup_append.1 h).2.2 a hl a (by simp) rfl
   rw [meets_cons,show meet l a = l++[a] by unfold meet; rw [if_neg ha],ih _ (by simpa using h)]
   simp
 exact key s [] (by simpa using h)
def seqV (v : LVal) : List Int:=if v.reg then [v.n] else []
def seqI (x : LIns) : List Int:=(usesOf x).flatMap seqV++if 0 ≤ x.dst then [x.dst] else []
def seqB (B : LBlock) : List Int:=B.phis.map (·.dst)++(B.list.flatMap seqI++seqV B.on)
def seqP (B : LBlock) : List Int:=B.phis.flatMap fun p=>p.src.flatMap seqV
def parL (n : Nat) : List Int:=(List.range n).map fun x : Nat=>(x : Int)
def seqL (params : Nat) (bl : List LBlock) : List Int:=parL params++(bl.flatMap seqB++bl.flatMap seqP)
def metL (params : Nat) (bl : List LBlock) : List Int:=once (seqL params bl)
def plc (L : List Int) (r : Int) : Int:=((L.idxOf r : Nat) : Int)
def renV (L : List Int) (v : LVal) : LVal:=if v.reg then ⟨true,plc L v.n⟩ else v
def renR (L : List Int) (r : Int) : Int:=if 0 ≤ r then plc L r else r
def renI (L : List Int) (x : LIns) : LIns:={ x with a:=renV L x.a,b:=renV L x.b,args:=x.args.map (renV L),dst:=renR L x.dst }
def renP (L : List Int) (p : LPhi) : LPhi:=⟨plc L p.dst,p.src.map (renV L)⟩
def renB (L : List Int) (B : LBlock) : LBlock:={ B with phis:=B.phis.map (renP L),list:=B.list.map (renI L),on:=renV L B.on }
def keptF (X : LFunc) : List LBlock:=keptL X.blocks (orderL X.blocks)
def namesF (X : LFunc) : LFunc:={ X with regs:=(metL X.params.toNat (keptF X)).length,blocks:=(keptF X).map (renB (metL X.params.toNat (keptF X))) }
theorem plc_lt {L : List Int} {r : Int} (h : r ∈ L) : 0 ≤ plc L r∧plc L r < L.length:=by
 have:=List.idxOf_lt_length_of_mem h
 unfold plc
 omega
theorem plc_inj {L : List Int} {a b : Int} (ha : a ∈ L) (hb : b ∈ L) (h : plc L a = plc L b) : a = b:=by
 unfold plc at h
 have h1 : L[L.idxOf a]'(List.idxOf_lt_length_of_mem ha) = a:=List.getElem_idxOf _
 have h2 : L[L.idxOf b]'(List.idxOf_lt_length_of_mem hb) = b:=List.getElem_idxOf _
 have h3 : L.idxOf a = L.idxOf b:=by omega
 rw [← h1,← h2]
 simp only [h3]
theorem plc_pre {l m : List Int} {r : Int} (h : l <+: m) (hr : r ∈ l) : plc m r = plc l r:=by unfold plc; rw [idx_pre h hr]
theorem parL_nodup (n : Nat) : (parL n).Nodup:=nodup_mapOn List.nodup_range fun x _ y _ e=>by omega
theorem mem_parL {n : Nat} {r : Int} : r ∈ parL n ↔ 0 ≤ r∧r < n:=by
 unfold parL
 rw [List.mem_map]
 constructor
 ·rintro ⟨x,hx,rfl⟩
  have:=List.mem_range.1 hx
  omega
 ·rintro ⟨h1,h2⟩
  exact ⟨r.toNat,List.mem_range.2 (by omega),by omega⟩
theorem parL_len (n : Nat) : (parL n).length = n:=by simp [parL]
theorem plc_parL {n : Nat} {r : Int} (h : r ∈ parL n) : plc (parL n) r = r:=by
 have h1:=plc_lt h
 rw [parL_len] at h1
 have h2 : (parL n)[(parL n).idxOf r]'(List.idxOf_lt_length_of_mem h) = r:=List.getElem_idxOf _
 unfold plc at h1 ⊢
 simp only [parL,List.getElem_map,List.getElem_range] at h2
 exact h2
theorem met_par (params : Nat) (bl : List LBlock) : parL params <+: metL params bl:=by
 have:=once_pre (parL params) (bl.flatMap seqB++bl.flatMap seqP)
 rwa [once_self (parL_nodup _)] at this
theorem mem_metL {params : Nat} {bl : List LBlock} {r : Int} : r ∈ metL params bl ↔ r ∈ parL params ∨ (∃ B ∈ bl,r ∈ seqB B) ∨ ∃ B ∈ bl,r ∈ seqP B:=by
 unfold metL seqL
 rw [mem_once,List.mem_append,List.mem_append,List.mem_flatMap,List.mem_flatMap]
theorem met_len {params : Nat} {R : Nat} {bl : List LBlock} (h : ∀ r ∈ seqL params bl,0 ≤ r∧r < R) : (metL params bl).length ≤ R:=by
 have h1 : ((metL params bl).map Int.toNat).Nodup:=nodup_mapOn (once_nodup _) fun x hx y hy e=>by
  have:=h x (mem_once.1 hx)
  have:=h y (mem_once.1 hy)
  omega
 have h2 : ∀ x ∈ (metL params bl).map Int.toNat,x ∈ List.range R:=fun x hx=>by
  obtain ⟨y,hy,rfl⟩:=List.mem_map.1 hx
  have:=h y (mem_once.1 hy)
  exact List.mem_range.2 (by omega)
 have:=h1.length_le_of_subset h2
 simpa using this
def RegR (L rs ss : List Int) : Prop:=∀ r ∈ L,ss[(plc L r).toNat]? = rs[r.toNat]?
theorem RegR.val {L : List Int} {f g : Frm} (h : RegR L f.regs g.regs) {v : LVal} (hv : v.reg = true→v.n ∈ L) : valM g (renV L v) = valM f v:=by
 unfold valM renV
 by_cases hr : v.reg = true
 ·rw [if_pos hr,if_pos hr]
  simp only [if_true]
  rw [List.getD_eq_getElem?_getD,List.getD_eq_getElem?_getD,h v.n (hv hr)]
 ·rw [if_neg hr,if_neg hr,if_neg hr]
theorem RegR.put {L rs ss : List Int} (hL : ∀ r ∈ L,0 ≤ r) (h : RegR L rs ss) {d : Int} (hd : d ∈ L) (n : Int) : RegR L (rs.set d.toNat n) (ss.set (plc L d).toNat n):=fun r hr=>by
 have h0:=h d hd
 rw [List.getElem?_set,List.getElem?_set]
 by_cases e : d = r
 ·subst e
  rw [if_pos rfl,if_pos rfl]
  by_cases h1 : d.toNat < rs.length
  ·rw [if_pos h1,if_pos]
   rw [List.getElem?_eq_getElem h1] at h0
   exact (List.getElem?_eq_some_iff.1 h0).1
  ·rw [if_neg h1,if_neg]
   rw [List.getElem?_eq_none (l:=rs) (by omega)] at h0
   have:=List.getElem?_eq_none_iff.1 h0
   omega
 ·have h1 : ¬ d.toNat = r.toNat:=fun e2=>e (by have:=hL d hd; have:=hL r hr; omega)
  have h2 : ¬ (plc L d).toNat = (plc L r).toNat:=fun e2=>e (plc_inj hd hr (by have:=plc_lt hd; have:=plc_lt hr; omega))
  rw [if_neg h1,if_neg h2]
  exact h r hr
theorem RegR.set {L rs ss : List Int} (hL : ∀ r ∈ L,0 ≤ r) (h : RegR L rs ss) {d : Int} (hd : 0 ≤ d→d ∈ L) (n : Int) : RegR L (setR rs d n) (setR ss (renR L d) n):=by
 unfold setR renR
 by_cases h1 : 0 ≤ d
 ·have:=plc_lt (hd h1)
  rw [if_pos h1,if_pos h1,if_pos (by omega)]
  exact h.put hL (hd h1) n
 ·rw [if_neg h1,if_neg h1,if_neg h1]
  exact h
theorem RegR.phis {L : List Int} (hL : ∀ r ∈ L,0 ≤ r) {f g : Frm} (h : RegR L f.regs g.regs) {k k' : Nat} {F : LPhi→LPhi} {ps : List LPhi} (hp : ∀ p ∈ ps,p.dst ∈ L∧(F p).dst = plc L p.dst∧valM g ((F p).src.getD k' noV) = valM f (p.src.getD k noV)) : RegR L (phisM f k ps) (phisM g k' (ps.map F)):=by
 unfold phisM
 rw [List.foldl_map]
 have key : ∀ (ps : List LPhi) (rs ss : List Int),(∀ p ∈ ps,p.dst ∈ L∧(F p).dst = plc L p.dst∧valM g ((F p).src.getD k' noV) = valM f (p.src.getD k noV))→RegR L rs ss→RegR L (ps.foldl (fun regs p=>regs.set p.dst.toNat (valM f (p.src.getD k noV))) rs) (ps.foldl (fun regs p=>regs.set (F p).dst.toNat (valM g ((F p).src.getD k' noV))) ss):=by
  intro ps
  induction ps with
  | nil=>exact fun _ _ _ h=>h
  | cons p ps ih =>
   intro rs ss hp h
   obtain ⟨h1,h2,h3⟩:=hp p (by simp)
   rw [List.foldl_cons,List.foldl_cons,h2,h3]
   exact ih _ _ (fun q hq=>hp q (by simp [hq])) (h.put hL h1 _)
 exact key ps _ _ hp h
theorem RegR.enter {L args : List Int} {P R : Nat} (hp : parL P <+: L) (hb : ∀ r ∈ L,0 ≤ r∧r < R) (ha : args.length = P) : RegR L (enterR R args) (enterR L.length args):=fun r hr=>by
 have h1:=hb r hr
 have h2:=plc_lt hr
 have hk : ∀ i : Nat,(args++List.replicate R 0)[i]? = (if i < P then args[i]? else (List.replicate R (0 : Int))[i - P]?)∧(args++List.replicate L.length 0)[i]? = if i < P then args[i]? else (List.replicate L.length (0 : Int))[i - P]?:=fun i=>by
  rw [List.getElem?_append,List.getElem?_append,ha]
  exact ⟨rfl,rfl⟩
 unfold enterR
 rw [List.getElem?_take,List.getElem?_take,if_pos (by omega),if_pos (by omega),(hk _).1,(hk _).2]
 by_cases h3 : r.toNat < P
 ·have h4 : plc L r = r:=by
   have h5 : r ∈ parL P:=mem_parL.2 (by omega)
   rw [plc_pre hp h5,plc_parL h5]
  rw [if_pos h3,if_pos (by omega),h4]
 ·have h4 : ¬ (plc L r).toNat < P:=fun h4=>by
   have h5 : plc L r ∈ parL P:=mem_parL.2 (by omega)
   have h6 : plc L (plc L r) = plc L r:=by rw [plc_pre hp h5,plc_parL h5]
   have h7:=plc_inj (hp.subset h5) hr h6
   omega
  rw [if_neg h3,if_neg h4,List.getElem?_replicate,List.getElem?_replicate,if_pos (by omega),if_pos (by omega)]
structure NmF (X Y : LFunc) (o : List Nat) (L : List Int) : Prop where
 ok : KOk X.blocks o
 zero : 0 < o.length∧nth o 0 = 0
 blocks : Y.blocks = (keptL X.blocks o).map (renB L)
 regs : Y.regs = L.length
 par : parL X.params.toNat <+: L
 all : ∀ B ∈ keptL X.blocks o,∀ r,r ∈ seqB B ∨ r ∈ seqP B→r ∈ L
 bound : ∀ r ∈ L,0 ≤ r∧r < X.regs
structure NmU (u v : LUnit) (o : Nat→List Nat) (L : Nat→List Int) : Prop where
 globs : v.globals = u.globals
 main : mainAt v.funcs = mainAt u.funcs
 fn : ∀ (k : Nat) X,u.funcs[k]? = some X→∃ Y,v.funcs[k]? = some Y∧NmF X Y (o k) (L k)
structure FTn (o : Nat→List Nat) (L : Nat→List Int) (f g : Frm) : Prop where
 fn : g.fn = f.fn
 block : g.block < (o f.fn).length∧nth (o f.fn) g.block = f.block
 at' : g.at' = f.at'
 regs : RegR (L f.fn) f.regs g.regs
structure FRn (o : Nat→List Nat) (L : Nat→List Int) (d e : Int) (f g : Frm) : Prop where
 same : FTn o L f g
 dst : e = renR (L f.fn) d
 has : 0 ≤ d→d ∈ L f.fn
theorem FRn.back {o : Nat→List Nat} {L : Nat→List Int} {d e : Int} {f g : Frm} (h : FRn o L d e f g) (hL : ∀ r ∈ L f.fn,0 ≤ r) (n : Int) : FTn o L (f.set d n) (g.set e n):=by
 obtain ⟨⟨h1,h2,h3,h4⟩,h5,h6⟩:=h
 subst h5
 exact ⟨h1,h2,h3,h4.set hL h6 n⟩
structure RelN (u : LUnit) (o : Nat→List Nat) (L : Nat→List Int) (s t : Mac) : Prop where
 ok : MacOk u (s.steps + 1) s
 rel : RelM (FRn o L) (FTn o L) s t
theorem seqI_val {x : LIns} {v : LVal} (h : v ∈ usesOf x) (hr : v.reg = true) : v.n ∈ seqI x:=by
 unfold seqI
 refine List.mem_append_left _ (List.mem_flatMap.2 ⟨v,h,?_⟩)
 unfold seqV
 rw [if_pos hr]
 simp
theorem seqI_dst {x : LIns} (h : 0 ≤ x.dst) : x.dst ∈ seqI x:=by
 unfold seqI
 rw [if_pos h]
 simp
theorem seqB_ins {B : LBlock} {x : LIns} (h : x ∈ B.list) {r : Int} (hr : r ∈ seqI x) : r ∈ seqB B:=by
 unfold seqB
 exact List.mem_append_right _ (List.mem_append_left _ (List.mem_flatMap.2 ⟨x,h,hr⟩))
theorem seqB_on {B : LBlock} (h : B.on.reg = true) : B.on.n ∈ seqB B:=by
 unfold seqB seqV
 rw [if_pos h]
 simp
theorem seqB_phi {B : LBlock} {p : LPhi} (h : p ∈ B.phis) : p.dst ∈ seqB B:=by
 unfold seqB
 exact List.mem_append_left _ (List.mem_map.2 ⟨p,h,rfl⟩)
theorem seqP_val {B : LBlock} {p : LPhi} (h : p ∈ B.phis) {v : LVal} (hv : v ∈ p.src) (hr : v.reg = true) : v.n ∈ seqP B:=by
 unfold seqP
 refine List.mem_flatMap.2 ⟨p,h,List.mem_flatMap.2 ⟨v,hv,?_⟩⟩
 unfold seqV
 rw [if_pos hr]
 simp
theorem toOf_ren (L : List Int) (bl : List LBlock) (i : Nat) : toOf (bl.map (renB L)) i = toOf bl i:=by
 unfold toOf
 rw [List.getElem?_map]
 cases bl[i]? <;> rfl
theorem preds_ren (L : List Int) (bl : List LBlock) (t : Nat) : preds (bl.map (renB L)) t = preds bl t:=preds_same (List.length_map _) (toOf_ren L bl) t
theorem nm_sim {u v : LUnit} {o : Nat→List Nat} {L : Nat→List Int} (hu : UnitFit u) (hc : CheckOk u) (hn : NmU u v o L) : Sim u v 1 1 (RelN u o L):=by
 intro s t ⟨hok,hrel⟩
 obtain ⟨X,R,hf⟩:=hok.top
 obtain ⟨B,hB⟩ : ∃ B,X.blocks[s.top.block]? = some B:=⟨_,List.getElem?_eq_getElem hf.block⟩
 have hBm:=List.mem_of_getElem? hB
 have hfit:=hf.fit.blk B hBm
 have hgood:=hf.fit.ok.good
 have hbok:=hf.fit.ok.block _ B hB
 have hbody:=hc.body X (List.mem_of_getElem? hf.get)
 obtain ⟨Y,hY,hnf⟩:=hn.fn s.top.fn X hf.get
 obtain ⟨hm,hi,ho,hst,htop⟩:=hrel
 obtain ⟨htf,⟨hbl,hbn⟩,hta,htr⟩:=htop
 have hLp : ∀ r ∈ L s.top.fn,0 ≤ r:=fun r hr=>(hnf.bound r hr).1
 have hblu : blsOf u s.top.fn = X.blocks:=by unfold blsOf; rw [hf.get]
 have hblv : blsOf v s.top.fn = Y.blocks:=by unfold blsOf; rw [hY]
 obtain ⟨ob,hob⟩ : ∃ ob,ob = o s.top.fn:=⟨_,rfl⟩
 obtain ⟨Lb,hLb⟩ : ∃ Lb,Lb = L s.top.fn:=⟨_,rfl⟩
 rw [← hob,← hLb] at hnf
 rw [← hob] at hbl hbn
 rw [← hLb] at hLp htr
 have hbg : ob[t.top.block]? = some s.top.block:=by rw [get_nth hbl,hbn]
 have hKB : keepB X.blocks ob s.top.block (blkAt X.blocks s.top.block) = keepB X.blocks ob s.top.block B:=by rw [blkAt_get hB]
 have hKm : keepB X.blocks ob s.top.block B ∈ keptL X.blocks ob:=by rw [← hKB]; exact List.mem_of_getElem? (keptL_get hbg)
 obtain ⟨C,hCd⟩ : ∃ C,C = renB Lb (keepB X.blocks ob s.top.block B):=⟨_,rfl⟩
 have hC : Y.blocks[t.top.block]? = some C:=by rw [hnf.blocks,List.getElem?_map,keptL_get hbg,hKB,hCd]; rfl
 have hbu:=blockM_eq hf hB
 have hbv : blockM v t.top = C:=by
  unfold blockM
  rw [htf,hY]
  simp only [List.getD_eq_getElem?_getD,hC,Option.getD_some]
 have hClist : C.list = B.list.map (renI Lb):=by rw [hCd]; rfl
 have hll:=hst.len
 have hinL : ∀ x ∈ B.list,∀ r ∈ seqI x,r ∈ Lb:=fun x hx r hr=>hnf.all _ hKm r (.inl (seqB_ins (B:=keepB X.blocks ob s.top.block B) hx hr))
 cases hx : B.list[s.top.at']? with
 | some x =>
  have hsu : stepM u s = insM u (goOn (tick s)) x:=by rw [stepM_eq,hbu]; simp only [hx]
  have hxm:=List.mem_of_getElem? hx
  have hCx : C.list[t.top.at']? = some (renI Lb x):=by rw [hClist,List.getElem?_map,hta,hx]; rfl
  have hsv : stepM v t = insM v (goOn (tick t)) (renI Lb x):=by rw [stepM_eq,hbv]; simp only [hCx]
  obtain ⟨ua,ub,uc,ud⟩:=vals_used (hbody.list _ B hB x hxm)
  have hgt : FTn o L (goOn (tick s)).top (goOn (tick t)).top:=⟨htf,⟨by show t.top.block < (o s.top.fn).length; rw [← hob]; exact hbl,by show nth (o s.top.fn) t.top.block = s.top.block; rw [← hob]; exact hbn⟩,by show t.top.at' + 1 = s.top.at' + 1; rw [hta],by show RegR (L s.top.fn) s.top.regs t.top.regs; rw [← hLb]; exact htr⟩
  have hv : ∀ w ∈ usesOf x,w.reg = true→w.n ∈ Lb:=fun w hw hr=>hinL x hxm _ (seqI_val hw hr)
  have hva : ∀ w : LVal,w ∈ usesOf x ∨ w = noV→valM (goOn (tick t)).top (renV Lb w) = valM (goOn (tick s)).top w:=fun w hw=>by
   refine RegR.val (f:=(goOn (tick s)).top) (g:=(goOn (tick t)).top) htr fun hr=>?_
   rcases hw with hw|rfl
   ·exact hv w hw hr
   ·cases hr
  have hdst : 0 ≤ x.dst→x.dst ∈ Lb:=fun h=>hinL x hxm _ (seqI_dst h)
  rcases ins_sim (u:=u) (v:=v) (s:=goOn (tick s)) (t:=goOn (tick t)) (x:=x) (y:=renI Lb x) rfl rfl (hva _ ua) (hva _ ub) (fun h20=>by
   show (x.args.map (renV Lb)).map _ = _
   rw [List.map_map]
   refine List.map_congr_left fun w hw=>hva w (.inl ?_)
   rw [uc h20] at hw
   exact hw) hm hi ho hll ud (fun h=>by show renR Lb x.dst < 0; unfold renR; rw [if_neg (by have:=ud h; omega)]; exact ud h) with ⟨f,g,e1,e2,ha⟩|⟨h20,e1,e2⟩|⟨h20,mem,inp,out,z,e1,e2⟩
  ·refine ⟨fun s' hs'=>?_,fun f' hf'=>?_⟩
   ·rw [hsu,e1] at hs'; cases hs'
   ·rw [hsu,e1] at hf'
    rw [← Sum.inr.inj hf']
    exact ⟨0,t,g,by omega,by omega,rfl,by rw [hsv,e2],ha⟩
  ·refine ⟨fun s' hs'=>?_,fun f' hf'=>?_⟩
   ·have h9:=(step_ok hu hok hs').1
    rw [hsu,e1] at hs'
    have hs':=Sum.inl.inj hs'
    obtain ⟨k,Z,hk,hZ,hlen⟩:=(hfit.list.2 x hxm).call h20
    obtain ⟨W,hW,hnz⟩:=hn.fn k Z hZ
    obtain ⟨RZ,hfz⟩:=hu.2 k Z hZ
    have hxk : x.fn.toNat = k:=by omega
    refine ⟨1,_,by omega,by omega,.one (by rw [hsv,e2]),h9,?_⟩
    rw [← hs',enterM_def,enterM_def,hxk]
    refine ⟨hm,hi,ho,?_,?_⟩
    ·refine .add hst ⟨hgt,?_,?_⟩
     ·show renR Lb x.dst = renR (L s.top.fn) x.dst; rw [hLb]
     ·show 0 ≤ x.dst→x.dst ∈ L s.top.fn; rw [← hLb]; exact hdst
    ·refine ⟨rfl,⟨hnz.zero.1,hnz.zero.2⟩,rfl,?_⟩
     show RegR (L k) (enterR (regsOf u k) _) (enterR (regsOf v k) _)
     have e3 : regsOf v k = (L k).length:=by unfold regsOf; rw [hW]; simp only; rw [hnz.regs]; omega
     have e4 : regsOf u k = Z.regs.toNat:=by unfold regsOf; rw [hZ]
     rw [e3,e4]
     exact RegR.enter (P:=Z.params.toNat) hnz.par (fun r hr=>by have:=hnz.bound r hr; omega) (by rw [List.length_map]; omega)
   ·rw [hsu,e1] at hf'; cases hf'
  ·refine ⟨fun s' hs'=>?_,fun f' hf'=>?_⟩
   ·have h9:=(step_ok hu hok hs').1
    rw [hsu,e1] at hs'
    have hs':=Sum.inl.inj hs'
    refine ⟨1,_,by omega,by omega,.one (by rw [hsv,e2]),h9,?_⟩
    rw [← hs']
    refine ⟨rfl,rfl,rfl,hst,?_⟩
    have:=FRn.back (o:=o) (L:=L) (d:=x.dst) (e:=renR Lb x.dst) (f:=(goOn (tick s)).top) (g:=(goOn (tick t)).top) ⟨hgt,by show renR Lb x.dst = renR (L s.top.fn) x.dst; rw [hLb],by show 0 ≤ x.dst→x.dst ∈ L s.top.fn; rw [← hLb]; exact hdst⟩ (by show ∀ r ∈ L s.top.fn,0 ≤ r; rw [← hLb]; exact hLp) z
    exact this
   ·rw [hsu,e1] at hf'; cases hf'
 | none =>
  have hsu : stepM u s = endM u (tick s) B:=by rw [stepM_eq,hbu]; simp only [hx]
  have hCn : C.list[t.top.at']? = none:=by rw [hClist,List.getElem?_map,hta,hx]; rfl
  have hsv : stepM v t = endM v (tick t) C:=by rw [stepM_eq,hbv]; simp only [hCn]
  have hval : valM t.top C.on = valM s.top B.on:=by
   rw [hCd]
   exact RegR.val htr fun hr=>hnf.all _ hKm _ (.inl (seqB_on (B:=keepB X.blocks ob s.top.block B) hr))
  have hk : C.kind = B.kind:=by rw [hCd]; rfl
  by_cases hkj : B.kind = 2 ∨ B.kind = 3
  ·obtain ⟨i,hil,e1,e2⟩:=jump_sim (u:=u) (v:=v) (s:=tick s) (t:=tick t) (C:=C) hkj hk hfit.kind.2 hval
   have htm:=to_get (B:=B) hil
   obtain ⟨to,T,e,hg⟩:=goTo hf hB htm
   have hton : to < X.blocks.length:=(List.getElem?_eq_some_iff.1 hg.get).1
   have htob : to ∈ ob:=by
    have:=hnf.ok.closed s.top.block (List.mem_of_getElem? hbg) (B.to.getD i 0) (by rw [toOf_get hB]; exact htm)
    rwa [e,Int.toNat_natCast] at this
   have hCi : C.to.getD i 0 = ((ob.idxOf to : Nat) : Int):=by
    rw [hCd]
    show (B.to.map fun t=>((ob.idxOf t.toNat : Nat) : Int)).getD i 0 = _
    rw [List.getD_eq_getElem?_getD,List.getElem?_map,List.getElem?_eq_getElem hil,Option.map_some,Option.getD_some]
    rw [List.getD_eq_getElem?_getD,List.getElem?_eq_getElem hil,Option.getD_some] at e
    rw [e,Int.toNat_natCast]
   rw [e] at e1
   rw [hCi] at e2
   have hjn : nth ob (ob.idxOf to) = to:=nth_idx htob
   have hjl:=idx_lt htob
   have hjg : ob[ob.idxOf to]? = some to:=by rw [get_nth hjl,hjn]
   generalize ob.idxOf to = j at *
   have hKT : (keptL X.blocks ob)[j]? = some (keepB X.blocks ob to T):=by rw [keptL_get hjg,blkAt_get hg.get]
   have hTS : Y.blocks[j]? = some (renB Lb (keepB X.blocks ob to T)):=by rw [hnf.blocks,List.getElem?_map,hKT]; rfl
   have hphi : phisOf (blsOf u s.top.fn) to = T.phis:=by rw [hblu]; unfold phisOf; rw [hg.get]
   have hphiv : phisOf (blsOf v s.top.fn) j = T.phis.map fun p=>renP Lb (keepPhi X.blocks ob to p):=by
    rw [hblv]
    unfold phisOf
    rw [hTS]
    show (T.phis.map _).map _ = _
    rw [List.map_map]
    rfl
   have hpr : preds (blsOf v s.top.fn) j = preds (keptL X.blocks ob) j:=by rw [hblv,hnf.blocks,preds_ren]
   have hbp : t.top.block ∈ preds (keptL X.blocks ob) j:=by
    rw [preds_keep hgood hnf.ok hjg,List.mem_filter,List.mem_range,decide_eq_true_eq]
    exact ⟨hbl,by rw [hbn]; exact hg.mem⟩
   refine ⟨fun s' hs'=>?_,fun f' hf'=>?_⟩
   ·have h9:=(step_ok hu hok hs').1
    rw [hsu,e1] at hs'
    have hs':=Sum.inl.inj hs'
    refine ⟨1,_,by omega,by omega,.one (by rw [hsv,e2]),h9,?_⟩
    rw [← hs',jumpM_def,jumpM_def]
    refine ⟨hm,hi,ho,hst,?_⟩
    refine ⟨htf,⟨?_,?_⟩,rfl,?_⟩
    ·show ((j : Nat) : Int).toNat < (o s.top.fn).length; rw [Int.toNat_natCast,← hob]; exact hjl
    ·show nth (o s.top.fn) ((j : Nat) : Int).toNat = ((to : Nat) : Int).toNat; rw [Int.toNat_natCast,Int.toNat_natCast,← hob]; exact hjn
    ·show RegR (L s.top.fn) (phisM s.top ((preds (blsOf u s.top.fn) ((to : Nat) : Int).toNat).idxOf s.top.block) (phisOf (blsOf u s.top.fn) ((to : Nat) : Int).toNat)) (phisM t.top ((preds (blsOf v t.top.fn) ((j : Nat) : Int).toNat).idxOf t.top.block) (phisOf (blsOf v t.top.fn) ((j : Nat) : Int).toNat))
     rw [htf,Int.toNat_natCast,Int.toNat_natCast,hphi,hphiv,hpr,hblu,← hLb]
     refine RegR.phis hLp htr fun p hp=>?_
     have hpk : keepPhi X.blocks ob to p ∈ (keepB X.blocks ob to T).phis:=List.mem_map.2 ⟨p,hp,rfl⟩
     have hKm2:=List.mem_of_getElem? hKT
     refine ⟨hnf.all _ hKm2 (keepPhi X.blocks ob to p).dst (.inl (seqB_phi hpk)),rfl,?_⟩
     have hpo:=(hf.fit.ok.block to T hg.get).phis p hp
     have hsrc : (keepPhi X.blocks ob to p).src.getD ((preds (keptL X.blocks ob) j).idxOf t.top.block) noV = p.src.getD ((preds X.blocks to).idxOf s.top.block) noV:=by
      have:=keepPhi_at hgood hnf.ok hjg hbp p
      unfold srcAt at this
      rw [hbn] at this
      exact this
     have hlen : (preds (keptL X.blocks ob) j).idxOf t.top.block < (keepPhi X.blocks ob to p).src.length:=by
      rw [keepPhi_src hgood hnf.ok hjg,List.length_map]
      exact List.idxOf_lt_length_of_mem hbp
     show valM t.top (((keepPhi X.blocks ob to p).src.map (renV Lb)).getD _ noV) = _
     rw [← hsrc,List.getD_eq_getElem?_getD,List.getElem?_map,List.getElem?_eq_getElem hlen,List.getD_eq_getElem?_getD,List.getElem?_eq_getElem hlen]
     simp only [Option.map_some,Option.getD_some]
     exact RegR.val htr fun hr=>hnf.all _ hKm2 _ (.inr (seqP_val hpk (List.getElem_mem hlen) hr))
   ·rw [hsu,e1] at hf'; cases hf'
  ·rcases ret_sim (u:=u) (v:=v) (FR:=FRn o L) (s:=tick s) (t:=tick t) (C:=C) (fun h=>hkj (.inl h)) (fun h=>hkj (.inr h)) hk hval ho hst with ⟨f,g,e1,e2,ha⟩|⟨l,f,m,g,d1,d2,e1,e2,d3,d4⟩
   ·refine ⟨fun s' hs'=>?_,fun f' hf'=>?_⟩
    ·rw [hsu,e1] at hs'; cases hs'
    ·rw [hsu,e1] at hf'
     rw [← Sum.inr.inj hf']
     exact ⟨0,t,g,by omega,by omega,rfl,by rw [hsv,e2],ha⟩
   ·refine ⟨fun s' hs'=>?_,fun f' hf'=>?_⟩
    ·have h9:=(step_ok hu hok hs').1
     rw [hsu,e1] at hs'
     have hs':=Sum.inl.inj hs'
     refine ⟨1,_,by omega,by omega,.one (by rw [hsv,e2]),h9,?_⟩
     rw [← hs']
     have hfm : f ∈ s.rest:=by
      have : s.rest = l++[f]:=d1
      rw [this]; simp
     obtain ⟨XF,RF,hff⟩:=hok.rest f hfm
     obtain ⟨YF,_,hnF⟩:=hn.fn f.fn XF hff.get
     exact ⟨hm,hi,ho,d3,d4.back (fun r hr=>(hnF.bound r hr).1) _⟩
    ·rw [hsu,e1] at hf'; cases hf'
theorem sim_lock {u v : LUnit} {R : Mac→Mac→Prop} (h : Sim u v 1 1 R) (ho : ∀ s t,R s t→t.out = s.out) : ∀ (n : Nat) (s t : Mac),R s t→Alike (runM u n s) (runM v n t)∧(runM v n t).steps + s.steps = (runM u n s).steps + t.steps
 | 0,s,t,hR=>⟨⟨rfl,rfl,ho s t hR⟩,Nat.add_comm _ _⟩
 | n + 1,s,t,hR=>by
  obtain ⟨hg,hf⟩:=h s t hR
  rw [runM,runM]
  cases he : stepM u s with
  | inl s' =>
   obtain ⟨k,t',hlo,hhi,hgo,hR'⟩:=hg s' he
   obtain rfl : k = 1:=by omega
   obtain ⟨t1,h1,h2⟩:=hgo
   rw [h1]
   obtain rfl : t1 = t':=h2
   simp only
   obtain ⟨ha,hs⟩:=sim_lock h ho n s' t1 hR'
   have h3:=step_steps he
   have h4:=step_steps h1
   exact ⟨ha,by omega⟩
  | inr f =>
   obtain ⟨k,t',g,hlo,hhi,hgo,hst,ha⟩:=hf f he
   obtain rfl : k = 0:=by omega
   obtain rfl : t = t':=hgo
   rw [hst]
   simp only
   have h3:=(step_finS he).1
   have h4:=(step_finS hst).1
   exact ⟨ha,by omega⟩
theorem nm_runs {u v : LUnit} {o : Nat→List Nat} {L : Nat→List Int} (hu : Whole u) (hn : NmU u v o L) (inp : List Int) (hin : ∀ x ∈ inp,inI x) (f : Nat) : Alike (resultM u inp f) (resultM v inp f)∧(resultM v inp f).steps = (resultM u inp f).steps:=by
 have e1 : ∀ v : LUnit,startM v inp = ⟨memL v.globals,inp,[],0,[],⟨(mainAt v.funcs).toNat,0,0,List.replicate (regsOf v (mainAt v.funcs).toNat) 0,-1⟩,bump (v.funcs.map fun X=>List.replicate X.blocks.length 0) (mainAt v.funcs).toNat 0⟩:=fun _=>rfl
 obtain ⟨fm,M,hfm,hM⟩:=hu.start.main
 obtain ⟨W,hW,hnm⟩:=hn.fn fm M hM
 have hrel : RelN u o L (startM u inp) (startM v inp):=⟨start_ok hu.fit hu.start hin,by
  rw [e1,e1,hn.main,hn.globs]
  refine ⟨rfl,rfl,rfl,.nil _ _,rfl,?_,rfl,?_⟩
  ·show 0 < (o (mainAt u.funcs).toNat).length∧nth (o (mainAt u.funcs).toNat) 0 = 0
   rw [hfm,Int.toNat_natCast]
   exact hnm.zero
  ·show RegR (L (mainAt u.funcs).toNat) (List.replicate (regsOf u (mainAt u.funcs).toNat) 0) (List.replicate (regsOf v (mainAt u.funcs).toNat) 0)
   rw [hfm,Int.toNat_natCast]
   have e3 : regsOf v fm = (L fm).length:=by unfold regsOf; rw [hW]; simp only; rw [hnm.regs]; omega
   have e4 : regsOf u fm = M.regs.toNat:=by unfold regsOf; rw [hM]
   rw [e3,e4]
   intro r hr
   have h1:=hnm.bound r hr
   have h2:=plc_lt hr
   rw [List.getElem?_replicate,List.getElem?_replicate,if_pos (by omega),if_pos (by omega)]⟩
 obtain ⟨h1,h2⟩:=sim_lock (nm_sim hu.fit hu.ok hn) (fun s t h=>h.rel.out) f _ _ hrel
 refine ⟨h1,?_⟩
 have e2 : (startM u inp).steps = 0:=rfl
 have e3 : (startM v inp).steps = 0:=rfl
 unfold resultM
 omega
end Go.Proofs.YtpadjpplidlfeaaDoor
