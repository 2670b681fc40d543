/- Texts joined: TidyP TidyM TidyS. -/
import Derived.Test.YtpadjpplidlfeaaGreatDoorGG
import Derived.Test.YtpadjpplidlfeaaGreatDoorHN
import Derived.Test.YtpadjpplidlfeaaGreatDoorHP
import Derived.Test.YtpadjpplidlfeaaGreatDoorHW
namespace Go.Proofs.YtpadjpplidlfeaaGreatDoor
open Go Go.RowKit
def retB : LBlock:=⟨[],[],1,⟨false,0⟩,[]⟩
def blkAt (bl : List LBlock) (b : Nat) : LBlock:=bl[b]?.getD retB
def keepPhi (bl : List LBlock) (o : List Nat) (b : Nat) (p : LPhi) : LPhi:=⟨p.dst,(o.filter fun q=>decide (q ∈ preds bl b)).map (srcAt bl b p)⟩
def keepB (bl : List LBlock) (o : List Nat) (b : Nat) (B : LBlock) : LBlock:={ B with phis:=B.phis.map (keepPhi bl o b),to:=B.to.map fun t=>((o.idxOf t.toNat : Nat) : Int) }
def keptL (bl : List LBlock) (o : List Nat) : List LBlock:=o.map fun b=>keepB bl o b (blkAt bl b)
structure KOk (bl : List LBlock) (o : List Nat) : Prop where
 nodup : o.Nodup
 lt : ∀ b ∈ o,b < bl.length
 closed : ∀ b ∈ o,∀ t ∈ toOf bl b,t.toNat ∈ o
def nth (o : List Nat) (i : Nat) : Nat:=o[i]?.getD 0
theorem nth_get {o : List Nat} {i b : Nat} (h : o[i]? = some b) : nth o i = b:=by unfold nth; rw [h]; rfl
theorem get_nth {o : List Nat} {i : Nat} (h : i < o.length) : o[i]? = some (nth o i):=by unfold nth; rw [List.getElem?_eq_getElem h]; rfl
theorem nth_mem {o : List Nat} {i : Nat} (h : i < o.length) : nth o i ∈ o:=List.mem_of_getElem? (get_nth h)
theorem idx_lt {o : List Nat} {b : Nat} (h : b ∈ o) : o.idxOf b < o.length:=List.idxOf_lt_length_of_mem h
theorem nth_idx {o : List Nat} {b : Nat} (h : b ∈ o) : nth o (o.idxOf b) = b:=by
 unfold nth
 rw [List.getElem?_eq_getElem (idx_lt h),List.getElem_idxOf]
 rfl
theorem nth_inj {o : List Nat} (hn : o.Nodup) {i j : Nat} (hi : i < o.length) (hj : j < o.length) (h : nth o i = nth o j) : i = j:=by
 unfold nth at h
 rw [List.getElem?_eq_getElem hi,List.getElem?_eq_getElem hj] at h
 exact (List.getElem_inj hn).1 h
theorem idx_nth {o : List Nat} (hn : o.Nodup) {i : Nat} (hi : i < o.length) : o.idxOf (nth o i) = i :=
 nth_inj hn (idx_lt (nth_mem hi)) hi (nth_idx (nth_mem hi))
theorem map_nth (o : List Nat) : (List.range o.length).map (nth o) = o:=by
 apply List.ext_getElem?
 intro i
 rw [List.getElem?_map]
 by_cases h : i < o.length
 ·rw [List.getElem?_range h,Option.map_some,← get_nth h]
 ·rw [List.getElem?_eq_none (by simp; omega),List.getElem?_eq_none (by omega)]; rfl
theorem keptL_len (bl : List LBlock) (o : List Nat) : (keptL bl o).length = o.length:=by simp [keptL]
theorem blkAt_get {bl : List LBlock} {b : Nat} {B : LBlock} (h : bl[b]? = some B) : blkAt bl b = B:=by unfold blkAt; rw [h]; rfl
theorem get_blkAt {bl : List LBlock} {b : Nat} (h : b < bl.length) : bl[b]? = some (blkAt bl b):=by unfold blkAt; rw [List.getElem?_eq_getElem h]; rfl
theorem keptL_get {bl : List LBlock} {o : List Nat} {i b : Nat} (h : o[i]? = some b) : (keptL bl o)[i]? = some (keepB bl o b (blkAt bl b)):=by
 unfold keptL
 rw [List.getElem?_map,h]
 rfl
theorem toOf_at {bl : List LBlock} {b : Nat} (h : b < bl.length) : toOf bl b = (blkAt bl b).to:=by
 unfold toOf
 rw [get_blkAt h]
section
variable {bl : List LBlock} {o : List Nat} (hg : GoodB bl) (hk : KOk bl o)
include hg hk
theorem toOf_keep {i b : Nat} (h : o[i]? = some b) : toOf (keptL bl o) i = (toOf bl b).map fun t=>((o.idxOf t.toNat : Nat) : Int):=by
 have _:=hg
 rw [toOf_at (hk.lt b (List.mem_of_getElem? h))]
 unfold toOf
 rw [keptL_get h]
 rfl
theorem keep_good : GoodB (keptL bl o):=fun C hC=>by
 obtain ⟨i,hi⟩:=List.getElem?_of_mem hC
 have hil : i < o.length:=by rw [← keptL_len bl o]; exact (List.getElem?_eq_some_iff.1 hi).1
 have hto:=toOf_keep hg hk (get_nth hil)
 have h1 : toOf (keptL bl o) i = C.to:=by unfold toOf; rw [hi]
 rw [h1] at hto
 rw [hto,keptL_len]
 have hb:=hk.lt _ (nth_mem hil)
 refine ⟨by rw [List.length_map,toOf_at hb]; exact (hg _ (List.mem_of_getElem? (get_blkAt hb))).1,fun t ht=>?_⟩
 obtain ⟨x,hx,rfl⟩:=List.mem_map.1 ht
 have:=idx_lt (hk.closed _ (nth_mem hil) x hx)
 omega
theorem mem_keep {i j b t : Nat} (hi : o[i]? = some b) (hj : o[j]? = some t) : (j : Int) ∈ toOf (keptL bl o) i ↔ (t : Int) ∈ toOf bl b:=by
 have hbm:=List.mem_of_getElem? hi
 have hjl:=(List.getElem?_eq_some_iff.1 hj).1
 rw [toOf_keep hg hk hi,List.mem_map]
 constructor
 ·rintro ⟨x,hx,e⟩
  have h1:=edge_of hg hx
  have h2:=nth_idx (hk.closed b hbm x hx)
  rw [show o.idxOf x.toNat = j by omega,nth_get hj] at h2
  rw [show (t : Int) = x by omega]
  exact hx
 ·intro h
  refine ⟨t,h,?_⟩
  rw [Int.toNat_natCast]
  have:=idx_nth hk.nodup hjl
  rw [nth_get hj] at this
  rw [this]
theorem preds_keep {j t : Nat} (hj : o[j]? = some t) : preds (keptL bl o) j = (List.range o.length).filter fun i=>decide (nth o i ∈ preds bl t):=by
 unfold preds
 rw [keptL_len]
 refine List.filter_congr fun i hi=>?_
 have hil:=List.mem_range.1 hi
 rw [decide_eq_decide,mem_keep hg hk (get_nth hil) hj,List.mem_filter,List.mem_range,decide_eq_true_eq]
 exact ⟨fun h=>⟨hk.lt _ (nth_mem hil),h⟩,fun h=>h.2⟩
theorem preds_keep_map {j t : Nat} (hj : o[j]? = some t) : (preds (keptL bl o) j).map (nth o) = o.filter fun q=>decide (q ∈ preds bl t):=by
 rw [preds_keep hg hk hj]
 have h:=map_nth o
 have h2 : ((List.range o.length).map (nth o)).filter (fun q=>decide (q ∈ preds bl t)) = ((List.range o.length).filter fun i=>decide (nth o i ∈ preds bl t)).map (nth o):=by rw [List.filter_map]; rfl
 rw [← h2,h]
theorem keepPhi_src {j t : Nat} (hj : o[j]? = some t) (p : LPhi) : (keepPhi bl o t p).src = (preds (keptL bl o) j).map fun i=>srcAt bl t p (nth o i):=by
 unfold keepPhi
 rw [← preds_keep_map hg hk hj,List.map_map]
 rfl
theorem keepPhi_at {i j t : Nat} (hj : o[j]? = some t) (hi : i ∈ preds (keptL bl o) j) (p : LPhi) : srcAt (keptL bl o) j (keepPhi bl o t p) i = srcAt bl t p (nth o i):=by
 unfold srcAt
 rw [keepPhi_src hg hk hj,List.getD_eq_getElem?_getD,List.getElem?_map,List.getElem?_eq_getElem (List.idxOf_lt_length_of_mem hi),List.getElem_idxOf]
 rfl
omit hk in
theorem keep_nodup (hk : KOk bl o) (hnd : ∀ (b : Nat) B,bl[b]? = some B→B.to.Nodup) : ∀ (i : Nat) C,(keptL bl o)[i]? = some C→C.to.Nodup:=fun i C hC=>by
 have hil : i < o.length:=by rw [← keptL_len bl o]; exact (List.getElem?_eq_some_iff.1 hC).1
 have hb:=hk.lt _ (nth_mem hil)
 have hto:=toOf_keep hg hk (get_nth hil)
 have h1 : toOf (keptL bl o) i = C.to:=by unfold toOf; rw [hC]
 rw [← h1,hto]
 refine nodup_mapOn (by rw [toOf_at hb]; exact hnd _ _ (get_blkAt hb)) fun x hx y hy e=>?_
 have hx1:=edge_of hg hx
 have hy1:=edge_of hg hy
 have hx2:=nth_idx (hk.closed _ (nth_mem hil) x hx)
 have hy2:=nth_idx (hk.closed _ (nth_mem hil) y hy)
 rw [show o.idxOf x.toNat = o.idxOf y.toNat by omega] at hx2
 omega
end
theorem keep_funcOk {R : Nat} {bl : List LBlock} {o : List Nat} (hf : FuncOk R bl) (hk : KOk bl o) : FuncOk R (keptL bl o):=by
 have hg:=hf.good
 refine ⟨keep_good hg hk,fun i C hC=>?_⟩
 have hil : i < o.length:=by rw [← keptL_len bl o]; exact (List.getElem?_eq_some_iff.1 hC).1
 have hnd:=keep_nodup hg hk (fun b B hB=>(hf.block b B hB).to) i C hC
 have hb:=hk.lt _ (nth_mem hil)
 have hB:=hf.block _ _ (get_blkAt hb)
 rw [keptL_get (get_nth hil)] at hC
 obtain rfl:=Option.some.inj hC
 refine ⟨fun p' hp'=>?_,hB.list,hB.on,hnd⟩
 unfold keepB at hp'
 simp only at hp'
 obtain ⟨p,hp,rfl⟩:=List.mem_map.1 hp'
 have hpo:=hB.phis p hp
 refine ⟨hpo.dst,by rw [keepPhi_src hg hk (get_nth hil),List.length_map],fun v hv=>?_⟩
 unfold keepPhi at hv
 simp only at hv
 obtain ⟨x,hx,rfl⟩:=List.mem_map.1 hv
 have h2:=(List.mem_filter.1 hx).2
 exact hpo.vals _ (srcAt_mem (R:=R) hpo.len (by simpa using h2))
theorem keep_keep {R : Nat} {bl : List LBlock} {o o' : List Nat} (hf : FuncOk R bl) (hk : KOk bl o) (hk' : KOk (keptL bl o) o') : keptL (keptL bl o) o' = keptL bl (o'.map (nth o)):=by
 have hg:=hf.good
 have hlt : ∀ i ∈ o',i < o.length:=fun i hi=>by have:=hk'.lt i hi; rwa [keptL_len] at this
 unfold keptL
 rw [List.map_map]
 refine List.map_congr_left fun i hi=>?_
 have hil:=hlt i hi
 have hb:=hk.lt _ (nth_mem hil)
 have e1 : blkAt (o.map fun b=>keepB bl o b (blkAt bl b)) i = keepB bl o (nth o i) (blkAt bl (nth o i)):=blkAt_get (keptL_get (get_nth hil))
 rw [e1]
 show keepB (keptL bl o) o' i (keepB bl o (nth o i) (blkAt bl (nth o i))) = keepB bl (o'.map (nth o)) (nth o i) (blkAt bl (nth o i))
 have hpred : ∀ q ∈ o',(decide (q ∈ preds (keptL bl o) i)) = decide (nth o q ∈ preds bl (nth o i)):=fun q hq=>by
  rw [decide_eq_decide,preds_keep hg hk (get_nth hil),List.mem_filter,List.mem_range,decide_eq_true_eq]
  exact ⟨fun h=>h.2,fun h=>⟨hlt q hq,h⟩⟩
 unfold keepB
 simp only [List.map_map]
 congr 1
 ·refine List.map_congr_left fun p _=>?_
  simp only [Function.comp_apply]
  unfold keepPhi
  simp only [LPhi.mk.injEq,true_and]
  rw [List.filter_map,List.map_map]
  have e2 : (o'.filter fun q=>decide (q ∈ preds (keptL bl o) i)) = o'.filter ((fun q=>decide (q ∈ preds bl (nth o i))) ∘ nth o):=List.filter_congr fun q hq=>hpred q hq
  rw [e2]
  refine List.map_congr_left fun q hq=>?_
  have hq1:=List.mem_filter.1 hq
  have hq2 : q ∈ preds (keptL bl o) i:=by
   have:=hpred q hq1.1
   rw [show decide (nth o q ∈ preds bl (nth o i)) = true from hq1.2] at this
   simpa using this
  exact keepPhi_at hg hk (get_nth hil) hq2 p
 ·refine List.map_congr_left fun t ht=>?_
  simp only [Function.comp_apply]
  rw [Int.toNat_natCast]
  have ht1 : t ∈ toOf bl (nth o i):=by rw [toOf_at hb]; exact ht
  have ht2:=hk.closed _ (nth_mem hil) t ht1
  have ht3 : o.idxOf t.toNat ∈ o':=by
   have:=hk'.closed i hi ((o.idxOf t.toNat : Nat) : Int) (by rw [toOf_keep hg hk (get_nth hil)]; exact List.mem_map.2 ⟨t,ht1,rfl⟩)
   rwa [Int.toNat_natCast] at this
  have hn2 : (o'.map (nth o)).Nodup:=nodup_mapOn hk'.nodup fun x hx y hy e=>nth_inj hk.nodup (hlt x hx) (hlt y hy) e
  have e3 : nth (o'.map (nth o)) (o'.idxOf (o.idxOf t.toNat)) = t.toNat:=by
   unfold nth
   rw [List.getElem?_map,List.getElem?_eq_getElem (idx_lt ht3),List.getElem_idxOf]
   simp only [Option.map_some,Option.getD_some]
   exact nth_idx ht2
  have e4:=idx_nth hn2 (i:=o'.idxOf (o.idxOf t.toNat)) (by rw [List.length_map]; exact idx_lt ht3)
  rw [e3] at e4
  rw [e4]
theorem keep_all {R : Nat} {bl : List LBlock} (hf : FuncOk R bl) : keptL bl (List.range bl.length) = bl:=by
 have hg:=hf.good
 unfold keptL
 apply List.ext_getElem?
 intro i
 by_cases hi : i < bl.length
 ·rw [List.getElem?_map,List.getElem?_range hi,Option.map_some,get_blkAt hi]
  have hB:=hf.block _ _ (get_blkAt hi)
  congr 1
  have hidx : ∀ t : Nat,t < bl.length→(List.range bl.length).idxOf t = t:=fun t ht=>by
   have:=idx_nth (o:=List.range bl.length) List.nodup_range (i:=t) (by simpa using ht)
   rwa [nth_get (List.getElem?_range ht)] at this
  unfold keepB
  have e1 : (blkAt bl i).phis.map (keepPhi bl (List.range bl.length) i) = (blkAt bl i).phis:=by
   conv=>rhs; rw [← List.map_id (blkAt bl i).phis]
   refine List.map_congr_left fun p hp=>?_
   unfold keepPhi
   have e2 : (List.range bl.length).filter (fun q=>decide (q ∈ preds bl i)) = preds bl i:=by
    unfold preds
    refine List.filter_congr fun q hq=>?_
    rw [decide_eq_decide,List.mem_filter,decide_eq_true_eq]
    exact ⟨fun h=>h.2,fun h=>⟨hq,h⟩⟩
   rw [e2,srcs_back (hB.phis p hp).len]
   rfl
  have e3 : (blkAt bl i).to.map (fun t=>(((List.range bl.length).idxOf t.toNat : Nat) : Int)) = (blkAt bl i).to:=by
   conv=>rhs; rw [← List.map_id (blkAt bl i).to]
   refine List.map_congr_left fun t ht=>?_
   have:=edge_of hg (b:=i) (t:=t) (by rw [toOf_at hi]; exact ht)
   rw [hidx t.toNat (by omega)]
   simp only [id]
   omega
  rw [e1,e3]
 ·rw [List.getElem?_eq_none (by simp; omega),List.getElem?_eq_none (by omega)]
structure RenB (bl bl' : List LBlock) (π : Nat→Nat) : Prop where
 lt : ∀ i,i < bl'.length→π i < bl.length
 inj : ∀ i j,i < bl'.length→j < bl'.length→π i = π j→i = j
 to : ∀ i,i < bl'.length→((toOf bl' i).map Int.toNat).map π = (toOf bl (π i)).map Int.toNat
 good : GoodB bl'
structure RelD (bl bl' : List LBlock) (π : Nat→Nat) (st st' : List Bool × List Nat) : Prop where
 len : st.1.length = bl.length
 len' : st'.1.length = bl'.length
 seen : ∀ i,i < bl'.length→st'.1[i]? = st.1[π i]?
 left : st.2 = st'.2.map π
theorem dfs_ren {bl bl' : List LBlock} {π : Nat→Nat} (h : RenB bl bl' π) : ∀ (f f' b : Nat) (st st' : List Bool × List Nat),RelD bl bl' π st st'→b < bl'.length→st'.1[b]? = some false→unseen st.1 ≤ f→unseen st'.1 ≤ f'→RelD bl bl' π (dfs bl f (π b) st) (dfs bl' f' b st'):=by
 intro f
 induction f with
 | zero =>
  intro f' b st st' hr hb hs hu hu'
  have:=unseen_pos (l:=st.1) (t:=π b) (by rw [← hr.seen b hb]; exact hs)
  omega
 | succ f ih =>
  intro f' b st st' hr hb hs hu hu'
  have hs2 : st.1[π b]? = some false:=by rw [← hr.seen b hb]; exact hs
  obtain ⟨f',rfl⟩ : ∃ k,f' = k + 1:=⟨f' - 1,by have:=unseen_pos hs; omega⟩
  have h1:=unseen_set hs
  have h2:=unseen_set hs2
  rw [dfs_succ,dfs_succ]
  have key : ∀ (l : List Nat) (s s' : List Bool × List Nat),(∀ t ∈ l,t < bl'.length)→RelD bl bl' π s s'→unseen s.1 ≤ f→unseen s'.1 ≤ f'→RelD bl bl' π ((l.map π).foldl (vstep bl f) s) (l.foldl (vstep bl' f') s'):=by
   intro l
   induction l with
   | nil=>exact fun s s' _ hs _ _=>hs
   | cons t l ihl =>
    intro s s' hl hs hu hu'
    have ht:=hl t (by simp)
    rw [List.map_cons,List.foldl_cons,List.foldl_cons]
    have hstep : RelD bl bl' π (vstep bl f s (π t)) (vstep bl' f' s' t):=by
     have hst:=hs.seen t ht
     unfold vstep
     rw [← hst]
     by_cases e : s'.1[t]?.getD true = true
     ·rw [if_pos e,if_pos e]; exact hs
     ·rw [if_neg e,if_neg e]
      exact ih f' t s s' hs ht (getD_false (by simpa using e)) hu hu'
    have g1:=(vsteps_grows bl f s [π t]).2.2.1
    have g2:=(vsteps_grows bl' f' s' [t]).2.2.1
    simp only [List.foldl_cons,List.foldl_nil] at g1 g2
    exact ihl _ _ (fun x hx=>hl x (by simp [hx])) hstep (by omega) (by omega)
  have e1 : (toOf bl (π b)).reverse.map Int.toNat = ((toOf bl' b).reverse.map Int.toNat).map π:=by
   rw [List.map_reverse,List.map_reverse,List.map_reverse,← h.to b hb]
  rw [e1]
  have hk:=key ((toOf bl' b).reverse.map Int.toNat) (st.1.set (π b) true,st.2) (st'.1.set b true,st'.2) (fun t ht=>?_) ⟨by simp [hr.len],by simp [hr.len'],fun i hi=>?_,hr.left⟩ (by simp only; omega) (by simp only; omega)
  ·exact ⟨hk.len,hk.len',hk.seen,by simp only [List.map_append,List.map_cons,List.map_nil,hk.left]⟩
  ·obtain ⟨z,hz,rfl⟩:=List.mem_map.1 ht
   have hz:=List.mem_reverse.1 hz
   have:=edge_of h.good hz
   omega
  ·simp only [List.getElem?_set]
   by_cases e : b = i
   ·subst e
    rw [if_pos rfl,if_pos rfl,if_pos (by rw [hr.len']; exact hi),if_pos (by rw [hr.len]; exact h.lt _ hi)]
   ·rw [if_neg e,if_neg (fun e2=>e (h.inj b i hb hi e2))]
    exact hr.seen i hi
theorem post_ren {bl bl' : List LBlock} {π : Nat→Nat} (h : RenB bl bl' π) (h0 : 0 < bl'.length) (hz : π 0 = 0) : postL bl = (postL bl').map π:=by
 have hb0:=h.lt 0 h0
 have hr : RelD bl bl' π (List.replicate bl.length false,[]) (List.replicate bl'.length false,[]):=⟨by simp,by simp,fun i hi=>by
  have:=h.lt i hi
  simp only
  rw [List.getElem?_replicate,List.getElem?_replicate,if_pos hi,if_pos this],rfl⟩
 have:=dfs_ren h bl.length bl'.length 0 _ _ hr h0 (by simp [h0]) (by simp only [unseen_all]; omega) (by simp only [unseen_all]; omega)
 rw [hz] at this
 exact this.left
theorem keep_renB {bl : List LBlock} {o : List Nat} (hg : GoodB bl) (hk : KOk bl o) : RenB bl (keptL bl o) (nth o):=by
 refine ⟨fun i hi=>hk.lt _ (nth_mem (by rwa [keptL_len] at hi)),fun i j hi hj e=>nth_inj hk.nodup (by rwa [keptL_len] at hi) (by rwa [keptL_len] at hj) e,fun i hi=>?_,keep_good hg hk⟩
 have hil : i < o.length:=by rwa [keptL_len] at hi
 rw [toOf_keep hg hk (get_nth hil),List.map_map,List.map_map]
 refine List.map_congr_left fun t ht=>?_
 simp only [Function.comp_apply,Int.toNat_natCast]
 exact nth_idx (hk.closed _ (nth_mem hil) t ht)
theorem orderK_ok {bl : List LBlock} (hg : GoodB bl) (h0 : 0 < bl.length) : KOk bl (orderL bl):=by
 have ho:=orderL_ord hg h0
 refine ⟨ho.nodup,fun b hb=>hg.rch h0 ((ho.mem b).1 hb),fun b hb t ht=>(ho.mem _).2 ?_⟩
 have:=edge_of hg ht
 exact .step ((ho.mem b).1 hb) (by unfold Edge; rw [show ((t.toNat : Nat) : Int) = t by omega]; exact ht) (by omega)
theorem order_pos {bl : List LBlock} (hg : GoodB bl) (h0 : 0 < bl.length) : 0 < (orderL bl).length∧nth (orderL bl) 0 = 0:=by
 have ho:=orderL_ord hg h0
 exact ⟨(List.getElem?_eq_some_iff.1 ho.zero).1,nth_get ho.zero⟩
theorem order_keep {bl : List LBlock} {o : List Nat} (hg : GoodB bl) (hk : KOk bl o) (h0 : 0 < o.length) (hz : nth o 0 = 0) : orderL bl = (orderL (keptL bl o)).map (nth o):=by
 have h:=post_ren (keep_renB hg hk) (by rw [keptL_len]; exact h0) hz
 unfold orderL
 rw [h,List.map_reverse]
theorem order_self {bl : List LBlock} (hg : GoodB bl) (h0 : 0 < bl.length) : orderL (keptL bl (orderL bl)) = List.range (orderL bl).length:=by
 have hk:=orderK_ok hg h0
 obtain ⟨hp,hz⟩:=order_pos hg h0
 have h1:=order_keep hg hk hp hz
 have hg2:=keep_good hg hk
 have hp2 : 0 < (keptL bl (orderL bl)).length:=by rw [keptL_len]; exact hp
 have hlt:=(orderK_ok hg2 hp2).lt
 have hl : (orderL (keptL bl (orderL bl))).length = (orderL bl).length:=by
  have:=congrArg List.length h1
  rw [List.length_map] at this
  exact this.symm
 apply List.ext_getElem?
 intro i
 by_cases hi : i < (orderL bl).length
 ·rw [List.getElem?_range hi,get_nth (by rw [hl]; exact hi)]
  congr 1
  have h2 : nth (orderL bl) i = nth ((orderL (keptL bl (orderL bl))).map (nth (orderL bl))) i:=congrArg (fun l=>nth l i) h1
  rw [show nth ((orderL (keptL bl (orderL bl))).map (nth (orderL bl))) i = nth (orderL bl) (nth (orderL (keptL bl (orderL bl))) i) by
   rw [nth_get (o:=(orderL (keptL bl (orderL bl))).map (nth (orderL bl)))]
   rw [List.getElem?_map,get_nth (by rw [hl]; exact hi)]; rfl] at h2
  have h3:=hlt _ (nth_mem (show i < (orderL (keptL bl (orderL bl))).length by rw [hl]; exact hi))
  rw [keptL_len] at h3
  exact (nth_inj hk.nodup hi h3 h2).symm
 ·rw [List.getElem?_eq_none (by rw [hl]; omega),List.getElem?_eq_none (by simp; omega)]
theorem keep_order {R : Nat} {bl : List LBlock} {o : List Nat} (hf : FuncOk R bl) (hk : KOk bl o) (h0 : 0 < o.length) (hz : nth o 0 = 0) : keptL (keptL bl o) (orderL (keptL bl o)) = keptL bl (orderL bl):=by
 have hg:=hf.good
 have hg2:=keep_good hg hk
 rw [keep_keep hf hk (orderK_ok hg2 (by rw [keptL_len]; exact h0)),← order_keep hg hk h0 hz]
def meet (l : List Int) (r : Int) : List Int:=if r ∈ l then l else l++[r]
def meets (l s : List Int) : List Int:=s.foldl meet l
def once (s : List Int) : List Int:=meets [] s
theorem meets_app (l s t : List Int) : meets l (s++t) = meets (meets l s) t:=List.foldl_append
theorem meets_nil (l : List Int) : meets l [] = l:=rfl
theorem meets_cons (l : List Int) (r : Int) (t : List Int) : meets l (r::t) = meets (meet l r) t:=rfl
theorem mem_meet {l : List Int} {r x : Int} : x ∈ meet l r ↔ x ∈ l ∨ x = r:=by
 unfold meet
 split
 ·rename_i h
  exact ⟨.inl,fun h2=>h2.elim id fun e=>e ▸ h⟩
 ·rw [List.mem_append,List.mem_singleton]
theorem mem_meets {s : List Int} : ∀ {l : List Int} {x : Int},x ∈ meets l s ↔ x ∈ l ∨ x ∈ s:=by
 induction s with
 | nil=>intro l x; rw [meets_nil]; simp
 | cons a s ih =>
  intro l x
  rw [meets_cons,ih,mem_meet,List.mem_cons,or_assoc]
theorem mem_once {s : List Int} {x : Int} : x ∈ once s ↔ x ∈ s:=by unfold once; rw [mem_meets]; simp
theorem meet_nodup {l : List Int} {r : Int} (h : l.Nodup) : (meet l r).Nodup:=by
 unfold meet
 split
 ·exact h
 ·rename_i hr
  exact List.nodup_append.2 ⟨h,by simp,fun a ha b hb e=>hr (by rw [List.mem_singleton] at hb; rw [← hb,← e]; exact ha)⟩
theorem meets_nodup {s : List Int} : ∀ {l : List Int},l.Nodup→(meets l s).Nodup:=by
 induction s with
 | nil=>intro l h; exact h
 | cons a s ih=>intro l h; exact ih (meet_nodup h)
theorem once_nodup (s : List Int) : (once s).Nodup:=meets_nodup List.nodup_nil
theorem meet_pre (l : List Int) (r : Int) : l <+: meet l r:=by
 unfold meet
 split
 ·exact List.prefix_refl l
 ·exact List.prefix_append _ _
theorem meets_pre (s : List Int) : ∀ l : List Int,l <+: meets l s:=by
 induction s with
 | nil=>exact fun l=>List.prefix_refl l
 | cons a s ih=>exact fun l=>(meet_pre l a).trans (ih _)
theorem idx_pre {l m : List Int} {r : Int} (h : l <+: m) (hr : r ∈ l) : m.idxOf r = l.idxOf r:=by
 obtain ⟨t,rfl⟩:=h
 rw [List.idxOf_append,if_pos hr]
theorem meet_in {l : List Int} {r : Int} (h : r ∈ l) : meet l r = l:=by unfold meet; rw [if_pos h]
theorem meets_in {s : List Int} : ∀ {l : List Int},(∀ r ∈ s,r ∈ l)→meets l s = l:=by
 induction s with
 | nil=>intro l _; rfl
 | cons a s ih=>intro l h; rw [meets_cons,meet_in (h a (by simp))]; exact ih fun r hr=>h r (by simp [hr])
theorem once_self {s : List Int} (h : s.Nodup) : once s = s:=by
 have key : ∀ (s l : List Int),(l++s).Nodup→meets l s = l++s:=by
  intro s
  induction s with
  | nil=>intro l _; rw [meets_nil,List.append_nil]
  | cons a s ih =>
   intro l h
   have ha : a ∉ l:=fun hl=>(List.nodup_append.1 h).2.2 a hl a (by simp) rfl
   rw [meets_cons,show meet l a = l++[a] by unfold meet; rw [if_neg ha],ih _ (by simpa using h)]
   simp
 exact key s [] (by simpa using h)
def seqV (v : LVal) : List Int:=if v.reg then [v.n] else []
def seqI (x : LIns) : List Int:=(usesOf x).flatMap seqV++if 0 ≤ x.dst then [x.dst] else []
def seqB (B : LBlock) : List Int:=B.phis.map (·.dst)++(B.list.flatMap seqI++seqV B.on)
def seqP (B : LBlock) : List Int:=B.phis.flatMap fun p=>p.src.flatMap seqV
def parL (n : Nat) : List Int:=(List.range n).map fun x : Nat=>(x : Int)
def seqL (params : Nat) (bl : List LBlock) : List Int:=parL params++(bl.flatMap seqB++bl.flatMap seqP)
def metL (params : Nat) (bl : List LBlock) : List Int:=once (seqL params bl)
def plc (L : List Int) (r : Int) : Int:=((L.idxOf r : Nat) : Int)
def renV (L : List Int) (v : LVal) : LVal:=if v.reg then ⟨true,plc L v.n⟩ else v
def renR (L : List Int) (r : Int) : Int:=if 0 ≤ r then plc L r else r
def renI (L : List Int) (x : LIns) : LIns:={ x with a:=renV L x.a,b:=renV L x.b,args:=x.args.map (renV L),dst:=renR L x.dst }
def renP (L : List Int) (p : LPhi) : LPhi:=⟨plc L p.dst,p.src.map (renV L)⟩
def renB (L : List Int) (B : LBlock) : LBlock:={ B with phis:=B.phis.map (renP L),list:=B.list.map (renI L),on:=renV L B.on }
def keptF (X : LFunc) : List LBlock:=keptL X.blocks (orderL X.blocks)
def namesF (X : LFunc) : LFunc:={ X with regs:=(metL X.params.toNat (keptF X)).length,blocks:=(keptF X).map (renB (metL X.params.toNat (keptF X))) }
theorem plc_lt {L : List Int} {r : Int} (h : r ∈ L) : 0 ≤ plc L r∧plc L r < L.length:=by
 have:=List.idxOf_lt_length_of_mem h
 unfold plc
 omega
theorem plc_pre {l m : List Int} {r : Int} (h : l <+: m) (hr : r ∈ l) : plc m r = plc l r:=by unfold plc; rw [idx_pre h hr]
theorem parL_nodup (n : Nat) : (parL n).Nodup:=nodup_mapOn List.nodup_range fun x _ y _ e=>by omega
theorem mem_parL {n : Nat} {r : Int} : r ∈ parL n ↔ 0 ≤ r∧r < n:=by
 unfold parL
 rw [List.mem_map]
 constructor
 ·rintro ⟨x,hx,rfl⟩
  have:=List.mem_range.1 hx
  omega
 ·rintro ⟨h1,h2⟩
  exact ⟨r.toNat,List.mem_range.2 (by omega),by omega⟩
theorem parL_len (n : Nat) : (parL n).length = n:=by simp [parL]
theorem mem_metL {params : Nat} {bl : List LBlock} {r : Int} : r ∈ metL params bl ↔ r ∈ parL params ∨ (∃ B ∈ bl,r ∈ seqB B) ∨ ∃ B ∈ bl,r ∈ seqP B:=by
 unfold metL seqL
 rw [mem_once,List.mem_append,List.mem_append,List.mem_flatMap,List.mem_flatMap]
theorem flat_congr {α β : Type} {l : List α} {f g : α→List β} (h : ∀ x ∈ l,f x = g x) : l.flatMap f = l.flatMap g:=by
 rw [List.flatMap_def,List.flatMap_def,List.map_congr_left h]
theorem met_len {params : Nat} {R : Nat} {bl : List LBlock} (h : ∀ r ∈ seqL params bl,0 ≤ r∧r < R) : (metL params bl).length ≤ R:=by
 have h1 : ((metL params bl).map Int.toNat).Nodup:=nodup_mapOn (once_nodup _) fun x hx y hy e=>by
  have:=h x (mem_once.1 hx)
  have:=h y (mem_once.1 hy)
  omega
 have h2 : ∀ x ∈ (metL params bl).map Int.toNat,x ∈ List.range R:=fun x hx=>by
  obtain ⟨y,hy,rfl⟩:=List.mem_map.1 hx
  have:=h y (mem_once.1 hy)
  exact List.mem_range.2 (by omega)
 have:=h1.length_le_of_subset h2
 simpa using this
end Go.Proofs.YtpadjpplidlfeaaGreatDoor
