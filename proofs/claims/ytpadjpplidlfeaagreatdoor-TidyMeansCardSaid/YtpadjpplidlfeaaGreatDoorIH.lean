/- Texts joined: TidyJ TidyK TidyL TidyD. -/
import Derived.Test.YtpadjpplidlfeaaGreatDoorIB
namespace Go.Proofs.YtpadjpplidlfeaaGreatDoor
open Go Go.RowKit
structure JoinOk (bl : List LBlock) (b t : Nat) : Prop where
 blt : b < bl.length
 tlt : t < bl.length
 ne : t ≠ b
 kind : (blkAt bl b).kind = 2
 to : (blkAt bl b).to = [(t : Int)]
 none : (blkAt bl t).phis = []
 one : preds bl t = [b]
def toJ (bl : List LBlock) (b t q : Nat) : List Int:=if q = t then [] else if q = b then toOf bl t else toOf bl q
def predsJ (bl : List LBlock) (b t c : Nat) : List Nat:=(List.range bl.length).filter fun q=>decide ((c : Int) ∈ toJ bl b t q)
def phJ (bl : List LBlock) (b t c : Nat) (p : LPhi) : LPhi:=⟨p.dst,(predsJ bl b t c).map fun q=>srcAt bl c p (if q = b then t else q)⟩
def blkJ (bl : List LBlock) (b t c : Nat) (B : LBlock) : LBlock :=
 if c = t then retB else if c = b then ⟨B.phis.map (phJ bl b t c),B.list++(blkAt bl t).list,(blkAt bl t).kind,(blkAt bl t).on,(blkAt bl t).to⟩ else { B with phis:=B.phis.map (phJ bl b t c) }
def joinB (bl : List LBlock) (b t : Nat) : List LBlock:=bl.mapIdx (blkJ bl b t)
theorem joinB_len (bl : List LBlock) (b t : Nat) : (joinB bl b t).length = bl.length:=by simp [joinB]
theorem joinB_get {bl : List LBlock} {b t c : Nat} {B : LBlock} (h : bl[c]? = some B) : (joinB bl b t)[c]? = some (blkJ bl b t c B):=by
 unfold joinB
 rw [List.getElem?_mapIdx,h]
 rfl
theorem joinB_at {bl : List LBlock} {b t c : Nat} (h : c < bl.length) : blkAt (joinB bl b t) c = blkJ bl b t c (blkAt bl c):=blkAt_get (joinB_get (get_blkAt h))
theorem blkJ_to (bl : List LBlock) (b t c : Nat) (B : LBlock) : (blkJ bl b t c B).to = if c = t then [] else if c = b then (blkAt bl t).to else B.to:=by
 unfold blkJ
 split
 ·rfl
 split <;> rfl
theorem blkJ_phis (bl : List LBlock) (b t c : Nat) (B : LBlock) : (blkJ bl b t c B).phis = if c = t then [] else B.phis.map (phJ bl b t c):=by
 unfold blkJ
 split
 ·rfl
 split <;> rfl
theorem toOf_none {bl : List LBlock} {c : Nat} (h : ¬ c < bl.length) : toOf bl c = []:=by
 unfold toOf
 rw [List.getElem?_eq_none (by omega)]
section
variable {bl : List LBlock} {b t : Nat} (hg : GoodB bl) (hj : JoinOk bl b t)
include hj
theorem toOf_join (c : Nat) : toOf (joinB bl b t) c = toJ bl b t c:=by
 by_cases hc : c < bl.length
 ·rw [toOf_at (by rw [joinB_len]; exact hc),joinB_at hc,blkJ_to]
  unfold toJ
  rw [toOf_at hj.tlt,toOf_at hc]
 ·rw [toOf_none (by rw [joinB_len]; exact hc)]
  unfold toJ
  rw [if_neg (by have:=hj.tlt; omega),if_neg (by have:=hj.blt; omega),toOf_none hc]
theorem preds_join (c : Nat) : preds (joinB bl b t) c = predsJ bl b t c:=by
 unfold preds predsJ
 rw [joinB_len]
 refine List.filter_congr fun q _=>?_
 rw [toOf_join hj]
theorem toOf_jb : toOf bl b = [(t : Int)]:=by rw [toOf_at hj.blt,hj.to]
theorem only_b {q : Nat} (h : (t : Int) ∈ toOf bl q) : q = b:=by
 have hq : q < bl.length:=Classical.byContradiction fun hq=>by rw [toOf_none hq] at h; cases h
 have h1 : q ∈ preds bl t:=List.mem_filter.2 ⟨List.mem_range.2 hq,by simpa using h⟩
 rw [hj.one] at h1
 exact List.mem_singleton.1 h1
theorem self_t : (t : Int) ∉ toOf bl t:=fun h=>hj.ne (only_b hj h)
theorem predsJ_mem {c q : Nat} (hc : c ≠ t) : q ∈ predsJ bl b t c ↔ q ≠ t∧(if q = b then t else q) ∈ preds bl c:=by
 unfold predsJ preds
 rw [List.mem_filter,List.mem_filter,List.mem_range,List.mem_range,decide_eq_true_eq,decide_eq_true_eq]
 unfold toJ
 by_cases h1 : q = t
 ·simp [h1]
 ·rw [if_neg h1]
  by_cases h2 : q = b
  ·rw [if_pos h2,if_pos h2]
   have:=hj.tlt
   have:=hj.blt
   exact ⟨fun h=>⟨h1,hj.tlt,h.2⟩,fun h=>⟨by omega,h.2.2⟩⟩
  ·rw [if_neg h2,if_neg h2]
   exact ⟨fun h=>⟨h1,h⟩,fun h=>h.2⟩
theorem pred_not_b {c : Nat} (hc : c ≠ t) : b ∉ preds bl c:=fun h=>by
 have h1:=(List.mem_filter.1 h).2
 simp only [decide_eq_true_eq] at h1
 rw [toOf_jb hj,List.mem_singleton] at h1
 omega
theorem predsJ_len {c : Nat} (hc : c ≠ t) : (predsJ bl b t c).length = (preds bl c).length:=by
 have h1 : ((predsJ bl b t c).map fun q=>if q = b then t else q).Perm (preds bl c):=by
  refine (List.perm_ext_iff_of_nodup (nodup_mapOn (List.Nodup.sublist List.filter_sublist List.nodup_range) fun x hx y hy e=>?_) (preds_nodup bl c)).2 fun x=>?_
  ·have h2:=(predsJ_mem hj hc).1 hx
   have h3:=(predsJ_mem hj hc).1 hy
   split at e
   ·split at e
    ·omega
    ·exact absurd e.symm h3.1
   ·split at e
    ·exact absurd e h2.1
    ·exact e
  ·rw [List.mem_map]
   constructor
   ·rintro ⟨q,hq,rfl⟩
    exact ((predsJ_mem hj hc).1 hq).2
   ·intro hx
    by_cases e : x = t
    ·refine ⟨b,(predsJ_mem hj hc).2 ⟨fun e2=>hj.ne e2.symm,by rw [if_pos rfl,← e]; exact hx⟩,by rw [if_pos rfl,e]⟩
    ·have hxb : x ≠ b:=fun e2=>pred_not_b hj hc (e2 ▸ hx)
     exact ⟨x,(predsJ_mem hj hc).2 ⟨e,by rw [if_neg hxb]; exact hx⟩,by rw [if_neg hxb]⟩
 have:=h1.length_eq
 rwa [List.length_map] at this
theorem predsJ_t : predsJ bl b t t = []:=by
 unfold predsJ
 refine List.filter_eq_nil_iff.2 fun q _=>?_
 simp only [decide_eq_true_eq]
 unfold toJ
 split
 ·simp
 split
 ·exact self_t hj
 ·rename_i h1 h2
  exact fun h=>h2 (only_b hj h)
theorem srcAt_join {c q : Nat} (hc : c ≠ t) (hq : q ∈ predsJ bl b t c) (p : LPhi) : srcAt (joinB bl b t) c (phJ bl b t c p) q = srcAt bl c p (if q = b then t else q):=by
 unfold srcAt
 rw [preds_join hj]
 unfold phJ
 simp only
 rw [List.getD_eq_getElem?_getD,List.getElem?_map,List.getElem?_eq_getElem (List.idxOf_lt_length_of_mem hq),List.getElem_idxOf]
 rfl
include hg
theorem join_good : GoodB (joinB bl b t):=fun C hC=>by
 obtain ⟨c,hc⟩:=List.getElem?_of_mem hC
 have hcl : c < bl.length:=by rw [← joinB_len bl b t]; exact (List.getElem?_eq_some_iff.1 hc).1
 rw [joinB_get (get_blkAt hcl)] at hc
 obtain rfl:=Option.some.inj hc
 rw [blkJ_to,joinB_len]
 split
 ·simp
 split
 ·exact hg _ (List.mem_of_getElem? (get_blkAt hj.tlt))
 ·exact hg _ (List.mem_of_getElem? (get_blkAt hcl))
end
theorem join_nodup {bl : List LBlock} {b t : Nat} (hj : JoinOk bl b t) (hnd : ∀ (c : Nat) B,bl[c]? = some B→B.to.Nodup) : ∀ (c : Nat) B,(joinB bl b t)[c]? = some B→B.to.Nodup:=fun c C hc=>by
 have hcl : c < bl.length:=by rw [← joinB_len bl b t]; exact (List.getElem?_eq_some_iff.1 hc).1
 rw [joinB_get (get_blkAt hcl)] at hc
 obtain rfl:=Option.some.inj hc
 rw [blkJ_to]
 split
 ·simp
 split
 ·exact hnd _ _ (get_blkAt hj.tlt)
 ·exact hnd _ _ (get_blkAt hcl)
theorem phJ_mem {R : Nat} {bl : List LBlock} {b t c : Nat} (hf : FuncOk R bl) (hj : JoinOk bl b t) (hc : c ≠ t) (hcl : c < bl.length) {p : LPhi} (hp : p ∈ (blkAt bl c).phis) {v : LVal} (hv : v ∈ (phJ bl b t c p).src) : v ∈ p.src:=by
 unfold phJ at hv
 obtain ⟨q,hq,rfl⟩:=List.mem_map.1 hv
 exact srcAt_mem (R:=R) ((hf.block c _ (get_blkAt hcl)).phis p hp).len ((predsJ_mem hj hc).1 hq).2
theorem join_funcOk {R : Nat} {bl : List LBlock} {b t : Nat} (hf : FuncOk R bl) (hj : JoinOk bl b t) : FuncOk R (joinB bl b t):=by
 refine ⟨join_good hf.good hj,fun c C hC=>?_⟩
 have hcl : c < bl.length:=by rw [← joinB_len bl b t]; exact (List.getElem?_eq_some_iff.1 hC).1
 have hnd:=join_nodup hj (fun b B hB=>(hf.block b B hB).to) c C hC
 have hB:=hf.block _ _ (get_blkAt hcl)
 have hT:=hf.block _ _ (get_blkAt hj.tlt)
 rw [joinB_get (get_blkAt hcl)] at hC
 obtain rfl:=Option.some.inj hC
 refine ⟨fun p' hp'=>?_,fun x hx=>?_,?_,hnd⟩
 ·rw [blkJ_phis] at hp'
  split at hp'
  ·cases hp'
  rename_i hct
  obtain ⟨p,hp,rfl⟩:=List.mem_map.1 hp'
  have hpo:=hB.phis p hp
  refine ⟨hpo.dst,by rw [preds_join hj]; simp [phJ],fun v hv=>hpo.vals v (phJ_mem hf hj hct hcl hp hv)⟩
 ·unfold blkJ at hx
  split at hx
  ·cases hx
  split at hx
  ·rcases List.mem_append.1 hx with hx|hx
   ·exact hB.list x hx
   ·exact hT.list x hx
  ·exact hB.list x hx
 ·unfold blkJ
  split
  ·exact fun h=>by cases h
  split
  ·exact hT.on
  ·exact hB.on
theorem many_join {bl : List LBlock} {b t : Nat} (hj : JoinOk bl b t) : manyL (joinB bl b t) = manyL bl:=by
 rw [many_range,many_range,joinB_len]
 have hs : ∀ c,c < bl.length→szB (blkAt (joinB bl b t) c) = if c = t then 0 else if c = b then szB (blkAt bl b) + szB (blkAt bl t) else szB (blkAt bl c):=fun c hc=>by
  rw [joinB_at hc]
  unfold blkJ
  split
  ·rfl
  split
  ·rename_i h2
   subst h2
   unfold szB
   simp only [List.length_map,List.length_append,hj.none,List.length_nil]
   omega
  ·unfold szB
   simp
 rw [List.map_congr_left fun c hc=>hs c (List.mem_range.1 hc)]
 have hpt : (List.range bl.length).Perm (t::b::((List.range bl.length).erase t).erase b):=by
  have h1:=List.perm_cons_erase (List.mem_range.2 hj.tlt)
  have h2 : b ∈ (List.range bl.length).erase t:=(List.mem_erase_of_ne (fun e=>hj.ne e.symm)).2 (List.mem_range.2 hj.blt)
  exact h1.trans ((List.perm_cons_erase h2).cons t)
 rw [(hpt.map _).sum_nat,(hpt.map fun c=>szB (blkAt bl c)).sum_nat]
 simp only [List.map_cons,List.sum_cons,if_true]
 rw [if_neg (fun e=>hj.ne e.symm)]
 have hnd : ((List.range bl.length).erase t).Nodup:=List.nodup_range.erase t
 have h3 : ∀ c ∈ ((List.range bl.length).erase t).erase b,c ≠ t∧c ≠ b:=fun c hc=>by
  have h4:=(List.Nodup.mem_erase_iff hnd).1 hc
  have h5:=(List.Nodup.mem_erase_iff List.nodup_range).1 h4.2
  exact ⟨h5.1,h4.1⟩
 rw [List.map_congr_left (g:=fun c=>szB (blkAt bl c)) fun c hc=>by rw [if_neg (h3 c hc).1,if_neg (h3 c hc).2]]
 omega
structure FTj (k b t lb : Nat) (f g : Frm) : Prop where
 fn : g.fn = f.fn
 regs : g.regs = f.regs
 dst : g.dst = f.dst
 place : (f.fn = k∧f.block = t∧g.block = b∧g.at' = lb + f.at') ∨ (¬ (f.fn = k∧f.block = t)∧g.block = f.block∧g.at' = f.at')
def FRj (k b t lb : Nat) (d e : Int) (f g : Frm) : Prop:=e = d∧FTj k b t lb f g
theorem FTj.back {k b t lb : Nat} {f g : Frm} (h : FTj k b t lb f g) (d n : Int) : FTj k b t lb (f.set d n) (g.set d n):=by
 obtain ⟨h1,h2,h3,h4⟩:=h
 exact ⟨h1,by unfold Frm.set; simp only [h2],h3,h4⟩
structure RelJ (u : LUnit) (k b t lb : Nat) (s s2 : Mac) : Prop where
 ok : MacOk u (s.steps + 1) s
 rel : RelM (FRj k b t lb) (FTj k b t lb) s s2
theorem putU_main {u : LUnit} {k : Nat} {bl : List LBlock} : mainAt (putU u k bl).funcs = mainAt u.funcs:=by
 refine main_same ?_
 apply List.ext_getElem?
 intro j
 rw [List.getElem?_map,List.getElem?_map,putU_get]
 by_cases e : k = j
 ·simp only [e,if_true]
  cases u.funcs[j]? <;> rfl
 ·simp only [e,if_false]
theorem putU_regs (u : LUnit) (k : Nat) (bl : List LBlock) (j : Nat) : regsOf (putU u k bl) j = regsOf u j:=by
 unfold regsOf
 rw [putU_get]
 by_cases e : k = j
 ·simp only [e,if_true]
  cases u.funcs[j]? <;> rfl
 ·simp only [e,if_false]
theorem putU_bls {u : LUnit} {k : Nat} {X : LFunc} (hX : u.funcs[k]? = some X) (bl : List LBlock) (j : Nat) : blsOf (putU u k bl) j = if k = j then bl else blsOf u j:=by
 unfold blsOf
 rw [putU_get]
 by_cases e : k = j
 ·subst e
  simp only [if_true,hX,Option.map_some]
  rfl
 ·simp only [e,if_false]
theorem blockM_bls (u : LUnit) (f : Frm) : blockM u f = (blsOf u f.fn).getD f.block ⟨[],[],1,noV,[]⟩:=by
 unfold blockM blsOf
 cases u.funcs[f.fn]? with
 | none=>rfl
 | some X=>rfl
theorem join_sim {u : LUnit} {k b t : Nat} {X0 : LFunc} (hu : UnitFit u) (hc : CheckOk u) (hX0 : u.funcs[k]? = some X0) (hj : JoinOk X0.blocks b t) : Sim u (putU u k (joinB X0.blocks b t)) 0 1 (RelJ u k b t (blkAt X0.blocks b).list.length):=by
 obtain ⟨v,hv⟩ : ∃ v,v = putU u k (joinB X0.blocks b t):=⟨_,rfl⟩
 rw [← hv]
 intro s s2 ⟨hok,hrel⟩
 obtain ⟨X,R,hf⟩:=hok.top
 obtain ⟨B,hB⟩ : ∃ B,X.blocks[s.top.block]? = some B:=⟨_,List.getElem?_eq_getElem hf.block⟩
 have hBm:=List.mem_of_getElem? hB
 have hfit:=hf.fit.blk B hBm
 have hbody:=hc.body X (List.mem_of_getElem? hf.get)
 obtain ⟨hm,hi,ho,hst,htop⟩:=hrel
 obtain ⟨htf,htr,htd,htp⟩:=htop
 have hblu : blsOf u s.top.fn = X.blocks:=by unfold blsOf; rw [hf.get]
 have hblv : blsOf v s.top.fn = if k = s.top.fn then joinB X.blocks b t else X.blocks:=by
  rw [hv,putU_bls hX0,hblu]
  by_cases e : k = s.top.fn
  ·rw [if_pos e,if_pos e]
   have : X0 = X:=by rw [e,hf.get] at hX0; exact (Option.some.inj hX0).symm
   rw [this]
  ·rw [if_neg e,if_neg e]
 have hXk : s.top.fn = k→X0 = X:=fun e=>by rw [← e,hf.get] at hX0; exact (Option.some.inj hX0).symm
 have hbu:=blockM_eq hf hB
 have hll:=hst.len
 obtain ⟨C,hCd⟩ : ∃ C,blockM v s2.top = C:=⟨_,rfl⟩
 have hCb : C = (blsOf v s.top.fn).getD s2.top.block ⟨[],[],1,noV,[]⟩:=by rw [← hCd,blockM_bls,htf]
 have hsteps : stepM v s2 = match C.list[s2.top.at']? with
  | none=>endM v (tick s2) C
  | some x=>insM v (goOn (tick s2)) x:=by rw [stepM_eq,hCd]; rfl
 -- what the other block is
 have hCc : (s.top.fn = k∧s.top.block = t∧s2.top.block = b∧s2.top.at' = (blkAt X.blocks b).list.length + s.top.at'∧C.list = (blkAt X.blocks b).list++B.list∧C.kind = B.kind∧C.on = B.on∧C.to = B.to) ∨
   (s.top.fn = k∧s.top.block = b∧s2.top.block = b∧s2.top.at' = s.top.at'∧C.list = B.list++(blkAt X.blocks t).list) ∨
   (¬ (s.top.fn = k∧s.top.block = t)∧¬ (s.top.fn = k∧s.top.block = b)∧s2.top.block = s.top.block∧s2.top.at' = s.top.at'∧C.list = B.list∧C.kind = B.kind∧C.on = B.on∧C.to = B.to):=by
  rcases htp with ⟨h1,h2,h3,h4⟩|⟨h1,h3,h4⟩
  ·have hXe:=hXk h1
   subst hXe
   rw [if_pos h1.symm] at hblv
   have hTB : blkAt X0.blocks t = B:=by rw [← h2]; exact blkAt_get hB
   have : C = blkJ X0.blocks b t b (blkAt X0.blocks b):=by rw [hCb,hblv,List.getD_eq_getElem?_getD,h3,joinB_get (get_blkAt hj.blt)]; rfl
   unfold blkJ at this
   rw [if_neg (fun e=>hj.ne e.symm),if_pos rfl,hTB] at this
   exact .inl ⟨h1,h2,h3,h4,by rw [this],by rw [this],by rw [this],by rw [this]⟩
  ·by_cases h5 : s.top.fn = k
   ·have hXe:=hXk h5
    subst hXe
    rw [if_pos h5.symm] at hblv
    have hct : s.top.block ≠ t:=fun e=>h1 ⟨h5,e⟩
    have : C = blkJ X0.blocks b t s.top.block B:=by rw [hCb,hblv,List.getD_eq_getElem?_getD,h3,joinB_get hB]; rfl
    unfold blkJ at this
    rw [if_neg hct] at this
    by_cases h6 : s.top.block = b
    ·rw [if_pos h6] at this
     exact .inr (.inl ⟨h5,h6,by rw [h3,h6],h4,by rw [this]⟩)
    ·rw [if_neg h6] at this
     exact .inr (.inr ⟨h1,fun h=>h6 h.2,h3,h4,by rw [this],by rw [this],by rw [this],by rw [this]⟩)
   ·rw [if_neg (fun e=>h5 e.symm)] at hblv
    have : C = B:=by rw [hCb,hblv,List.getD_eq_getElem?_getD,h3,hB]; rfl
    exact .inr (.inr ⟨h1,fun h=>h5 h.1,h3,h4,by rw [this],by rw [this],by rw [this],by rw [this]⟩)
 have hFT : FTj k b t (blkAt X0.blocks b).list.length s.top s2.top:=⟨htf,htr,htd,htp⟩
 have hval : ∀ w : LVal,valM s2.top w = valM s.top w:=fun w=>by unfold valM; rw [htr]
 cases hx : B.list[s.top.at']? with
 | some x =>
  have hsu : stepM u s = insM u (goOn (tick s)) x:=by rw [stepM_eq,hbu]; simp only [hx]
  have hxm:=List.mem_of_getElem? hx
  have hxl:=(List.getElem?_eq_some_iff.1 hx).1
  have hCx : C.list[s2.top.at']? = some x:=by
   rcases hCc with ⟨_,_,_,h4,h5,_⟩|⟨_,_,_,h4,h5⟩|⟨_,_,_,h4,h5,_⟩
   ·rw [h4,h5,List.getElem?_append_right (by omega),Nat.add_sub_cancel_left,hx]
   ·rw [h4,h5,List.getElem?_append_left hxl,hx]
   ·rw [h4,h5,hx]
  have hsv : stepM v s2 = insM v (goOn (tick s2)) x:=by rw [hsteps]; simp only [hCx]
  obtain ⟨_,_,_,ud⟩:=vals_used (hbody.list _ B hB x hxm)
  have hgt : FTj k b t (blkAt X0.blocks b).list.length (goOn (tick s)).top (goOn (tick s2)).top:=by
   refine ⟨htf,htr,htd,?_⟩
   rcases htp with ⟨h1,h2,h3,h4⟩|⟨h1,h3,h4⟩
   ·exact .inl ⟨h1,h2,h3,by show s2.top.at' + 1 = _ + (s.top.at' + 1); omega⟩
   ·exact .inr ⟨h1,h3,by show s2.top.at' + 1 = s.top.at' + 1; omega⟩
  have hv2 : ∀ w : LVal,valM (goOn (tick s2)).top w = valM (goOn (tick s)).top w:=hval
  rcases ins_sim (u:=u) (v:=v) (s:=goOn (tick s)) (t:=goOn (tick s2)) (x:=x) (y:=x) rfl rfl (hv2 _) (hv2 _) (fun _=>List.map_congr_left fun w _=>hv2 w) hm hi ho hll ud ud with ⟨f,g,e1,e2,ha⟩|⟨h20,e1,e2⟩|⟨h20,mem,inp,out,z,e1,e2⟩
  ·refine ⟨fun s' hs'=>?_,fun f' hf'=>?_⟩
   ·rw [hsu,e1] at hs'; cases hs'
   ·rw [hsu,e1] at hf'
    rw [← Sum.inr.inj hf']
    exact ⟨0,s2,g,by omega,by omega,rfl,by rw [hsv,e2],ha⟩
  ·refine ⟨fun s' hs'=>?_,fun f' hf'=>?_⟩
   ·have h9:=(step_ok hu hok hs').1
    rw [hsu,e1] at hs'
    have hs':=Sum.inl.inj hs'
    refine ⟨1,_,by omega,by omega,.one (by rw [hsv,e2]),h9,?_⟩
    rw [← hs',enterM_def,enterM_def,hv,putU_regs]
    refine ⟨hm,hi,ho,.add hst ⟨rfl,hgt⟩,rfl,rfl,rfl,.inr ⟨?_,rfl,rfl⟩⟩
    rintro ⟨e4,e5⟩
    have e5 : (0 : Nat) = t:=e5
    have h1 : t = 0:=e5.symm
    have e6:=end_zero.1 ((hc.body X0 (List.mem_of_getElem? hX0)).ends _ (List.mem_of_getElem? (get_blkAt hj.blt)))
    have:=(e6.to t (by rw [hj.to]; simp)).1
    omega
   ·rw [hsu,e1] at hf'; cases hf'
  ·refine ⟨fun s' hs'=>?_,fun f' hf'=>?_⟩
   ·have h9:=(step_ok hu hok hs').1
    rw [hsu,e1] at hs'
    have hs':=Sum.inl.inj hs'
    refine ⟨1,_,by omega,by omega,.one (by rw [hsv,e2]),h9,?_⟩
    rw [← hs']
    exact ⟨rfl,rfl,rfl,hst,hgt.back x.dst z⟩
   ·rw [hsu,e1] at hf'; cases hf'
 | none =>
  have hsu : stepM u s = endM u (tick s) B:=by rw [stepM_eq,hbu]; simp only [hx]
  have hxl:=List.getElem?_eq_none_iff.1 hx
  by_cases hbk : s.top.fn = k∧s.top.block = b
  · -- the jump that is no more
   have hXe:=hXk hbk.1
   subst hXe
   have hBb : blkAt X0.blocks b = B:=by rw [← hbk.2]; exact blkAt_get hB
   have hkind : B.kind = 2:=by rw [← hBb]; exact hj.kind
   have hto : B.to = [(t : Int)]:=by rw [← hBb]; exact hj.to
   have he : endM u (tick s) B = .inl (jumpM u (tick s) (t : Int)):=by
    unfold endM
    rw [if_pos hkind,hto]
    rfl
   rw [he] at hsu
   refine ⟨fun s' hs'=>?_,fun f' hf'=>by rw [hsu] at hf'; cases hf'⟩
   have h9:=(step_ok hu hok hs').1
   rw [hsu] at hs'
   have hs':=Sum.inl.inj hs'
   refine ⟨0,s2,by omega,by omega,rfl,h9,?_⟩
   rw [← hs',jumpM_def]
   have hph : phisOf (blsOf u s.top.fn) t = []:=by rw [hblu]; unfold phisOf; rw [get_blkAt hj.tlt]; exact hj.none
   refine ⟨hm,hi,ho,hst,htf,?_,htd,.inl ⟨hbk.1,Int.toNat_natCast t,?_,?_⟩⟩
   ·show s2.top.regs = phisM s.top ((preds (blsOf u s.top.fn) (t : Int).toNat).idxOf s.top.block) (phisOf (blsOf u s.top.fn) (t : Int).toNat)
    rw [Int.toNat_natCast,hph]
    exact htr
   ·rcases hCc with ⟨_,h2,_⟩|⟨_,_,h3,_⟩|⟨_,h2,_⟩
    ·exact absurd (hbk.2.symm.trans h2).symm hj.ne
    ·exact h3
    ·exact absurd hbk h2
   ·show s2.top.at' = _ + 0
    have hat:=hf.at' B hB
    rw [hBb]
    rcases hCc with ⟨_,h2,_⟩|⟨_,_,_,h4,_⟩|⟨_,h2,_⟩
    ·exact absurd (hbk.2.symm.trans h2).symm hj.ne
    ·omega
    ·exact absurd hbk h2
  have hrest : C.list[s2.top.at']? = none∧C.kind = B.kind∧C.on = B.on∧C.to = B.to:=by
   rcases hCc with ⟨_,_,_,h4,h5,h6,h7,h8⟩|⟨h1,h2,_⟩|⟨_,_,_,h4,h5,h6,h7,h8⟩
   ·refine ⟨?_,h6,h7,h8⟩
    rw [h4,h5]
    refine List.getElem?_eq_none ?_
    rw [List.length_append]
    omega
   ·exact absurd ⟨h1,h2⟩ hbk
   ·exact ⟨by rw [h4,h5]; exact hx,h6,h7,h8⟩
  obtain ⟨hCn,hCk,hCo,hCt⟩:=hrest
  have hsv : stepM v s2 = endM v (tick s2) C:=by rw [hsteps]; simp only [hCn]
  have hval2 : valM s2.top C.on = valM s.top B.on:=by rw [hCo]; exact hval _
  by_cases hkj : B.kind = 2 ∨ B.kind = 3
  ·obtain ⟨i,hil,e1,e2⟩:=jump_sim (u:=u) (v:=v) (s:=tick s) (t:=tick s2) (C:=C) hkj hCk hfit.kind.2 hval2
   have htm:=to_get (B:=B) hil
   obtain ⟨to,T,e,hg⟩:=goTo hf hB htm
   have hton : to < X.blocks.length:=(List.getElem?_eq_some_iff.1 hg.get).1
   rw [e] at e1
   rw [hCt,e] at e2
   have htoe : (to : Int) ∈ toOf X.blocks s.top.block:=by rw [toOf_get hB,← e]; exact htm
   have hphi : phisOf (blsOf u s.top.fn) to = T.phis:=by rw [hblu]; unfold phisOf; rw [hg.get]
   have hnt : ¬ (s.top.fn = k∧to = t):=fun ⟨h1,h2⟩=>by
    have hXe:=hXk h1
    subst hXe
    rw [h2] at htoe
    exact hbk ⟨h1,only_b hj htoe⟩
   refine ⟨fun s' hs'=>?_,fun f' hf'=>?_⟩
   ·have h9:=(step_ok hu hok hs').1
    rw [hsu,e1] at hs'
    have hs':=Sum.inl.inj hs'
    refine ⟨1,_,by omega,by omega,.one (by rw [hsv,e2]),h9,?_⟩
    rw [← hs',jumpM_def,jumpM_def]
    refine ⟨hm,hi,ho,hst,htf,?_,htd,.inr ⟨fun h=>hnt ⟨h.1,by have:=h.2; rw [← this]; exact (Int.toNat_natCast to).symm⟩,rfl,rfl⟩⟩
    show phisM s2.top ((preds (blsOf v s2.top.fn) (to : Int).toNat).idxOf s2.top.block) (phisOf (blsOf v s2.top.fn) (to : Int).toNat) = phisM s.top ((preds (blsOf u s.top.fn) (to : Int).toNat).idxOf s.top.block) (phisOf (blsOf u s.top.fn) (to : Int).toNat)
    rw [htf,Int.toNat_natCast,hphi]
    by_cases h5 : s.top.fn = k
    ·have hXe:=hXk h5
     subst hXe
     have hct : to ≠ t:=fun e=>hnt ⟨h5,e⟩
     rw [if_pos h5.symm] at hblv
     have hphv : phisOf (blsOf v s.top.fn) to = T.phis.map (phJ X0.blocks b t to):=by
      rw [hblv]
      unfold phisOf
      rw [joinB_get hg.get]
      simp only
      rw [blkJ_phis,if_neg hct]
     rw [hphv,hblv,hblu,preds_join hj]
     -- where it comes from
     have hq : s2.top.block ∈ predsJ X0.blocks b t to∧(if s2.top.block = b then t else s2.top.block) = s.top.block:=by
      rcases hCc with ⟨_,h2,h3,_⟩|⟨h1,h2,_⟩|⟨h1,h2,h3,_⟩
      ·refine ⟨(predsJ_mem hj hct).2 ⟨by rw [h3]; exact fun e=>hj.ne e.symm,?_⟩,by rw [if_pos h3,h2]⟩
       rw [if_pos h3,← h2]
       exact hg.mem
      ·exact absurd ⟨h1,h2⟩ hbk
      ·have h6 : s2.top.block ≠ b:=fun e=>h2 ⟨h5,by rw [← h3]; exact e⟩
       refine ⟨(predsJ_mem hj hct).2 ⟨fun e=>h1 ⟨h5,by rw [← h3]; exact e⟩,?_⟩,by rw [if_neg h6,h3]⟩
       rw [if_neg h6,h3]
       exact hg.mem
     refine phisM_same (F:=phJ X0.blocks b t to) htr (fun p _=>rfl) fun p _=>?_
     have h6:=srcAt_join hj hct hq.1 p
     unfold srcAt at h6
     rw [preds_join hj,hq.2] at h6
     exact h6
    ·rw [if_neg (fun e=>h5 e.symm)] at hblv
     have hphv : phisOf (blsOf v s.top.fn) to = T.phis:=by rw [hblv]; unfold phisOf; rw [hg.get]
     have hb2 : s2.top.block = s.top.block:=by
      rcases hCc with ⟨h1,_⟩|⟨h1,_⟩|⟨_,_,h3,_⟩
      ·exact absurd h1 h5
      ·exact absurd h1 h5
      ·exact h3
     rw [hphv,hblv,hblu,hb2]
     unfold phisM
     rw [htr]
     refine congrArg (fun g=>List.foldl g s.top.regs T.phis) ?_
     funext rs p
     rw [hval]
   ·rw [hsu,e1] at hf'; cases hf'
  ·rcases ret_sim (u:=u) (v:=v) (FR:=FRj k b t (blkAt X0.blocks b).list.length) (s:=tick s) (t:=tick s2) (C:=C) (fun h=>hkj (.inl h)) (fun h=>hkj (.inr h)) hCk hval2 ho hst with ⟨f,g,e1,e2,ha⟩|⟨l,f,m,g,d1,d2,e1,e2,d3,d4⟩
   ·refine ⟨fun s' hs'=>?_,fun f' hf'=>?_⟩
    ·rw [hsu,e1] at hs'; cases hs'
    ·rw [hsu,e1] at hf'
     rw [← Sum.inr.inj hf']
     exact ⟨0,s2,g,by omega,by omega,rfl,by rw [hsv,e2],ha⟩
   ·refine ⟨fun s' hs'=>?_,fun f' hf'=>?_⟩
    ·have h9:=(step_ok hu hok hs').1
     rw [hsu,e1] at hs'
     have hs':=Sum.inl.inj hs'
     refine ⟨1,_,by omega,by omega,.one (by rw [hsv,e2]),h9,?_⟩
     rw [← hs']
     refine ⟨hm,hi,ho,d3,?_⟩
     show FTj k b t _ (f.set s.top.dst (valM s.top B.on)) (g.set s2.top.dst (valM s.top B.on))
     rw [htd]
     exact d4.2.back _ _
    ·rw [hsu,e1] at hf'; cases hf'
theorem join_fnTo {u : LUnit} (hc : CheckOk u) {k b t : Nat} {X : LFunc} (hX : u.funcs[k]? = some X) (hj : JoinOk X.blocks b t) : FnTo u.funcs X (putB X (joinB X.blocks b t)):=by
 have hs:=FnTo.same hc hX
 have hb:=hs.body
 obtain ⟨R,hXR,hR,hf⟩:=check_func (check_zero.2 hc) hX
 have hg:=hf.good
 have hnd : ∀ (b : Nat) B,X.blocks[b]? = some B→B.to.Nodup:=fun b B hB=>(hf.block b B hB).to
 have hends : ∀ c,c < X.blocks.length→EndOk X.blocks.length X.regs (blkAt X.blocks c):=fun c hcl=>end_zero.1 (hb.ends _ (List.mem_of_getElem? (get_blkAt hcl)))
 have hget : ∀ (c : Nat) C,(joinB X.blocks b t)[c]? = some C→c < X.blocks.length∧C = blkJ X.blocks b t c (blkAt X.blocks c):=fun c C hC=>by
  have hcl : c < X.blocks.length:=by rw [← joinB_len X.blocks b t]; exact (List.getElem?_eq_some_iff.1 hC).1
  rw [joinB_get (get_blkAt hcl)] at hC
  exact ⟨hcl,(Option.some.inj hC).symm⟩
 refine ⟨rfl,rfl,hs.regs,?_,?_,?_,?_,?_⟩
 ·show 1 ≤ (joinB X.blocks b t).length∧(joinB X.blocks b t).length ≤ 40
  rw [joinB_len]; exact hs.many
 ·show sizeOfBs (joinB X.blocks b t) ≤ 300
  rw [← many_size,many_join hj,many_size]; exact hs.size
 ·intro C hC
  have hC : C ∈ joinB X.blocks b t:=hC
  show endErr (joinB X.blocks b t).length X.regs C = 0
  rw [joinB_len]
  obtain ⟨c,hc2⟩:=List.getElem?_of_mem hC
  obtain ⟨hcl,rfl⟩:=hget c C hc2
  refine end_zero.2 ?_
  unfold blkJ
  split
  ·exact ⟨⟨by simp [retB],by simp [retB]⟩,by simp [retB],by simp [retB],fun h=>by simp [retB] at h,fun h=>by simp [retB] at h,rfl⟩
  split
  ·have h:=hends t hj.tlt
   exact ⟨h.kind,h.len,h.to,h.two,h.one,h.on⟩
  ·have h:=hends c hcl
   exact ⟨h.kind,h.len,h.to,h.two,h.one,h.on⟩
 ·intro c C hC p' hp'
  obtain ⟨hcl,rfl⟩:=hget c C hC
  rw [blkJ_phis] at hp'
  split at hp'
  ·cases hp'
  rename_i hct
  obtain ⟨p,hp,rfl⟩:=List.mem_map.1 hp'
  have h0:=hb.phis c _ (get_blkAt hcl) p hp
  unfold phiErr at h0 ⊢
  obtain ⟨h1,h2,h3,h4⟩:=phi_zero.1 h0
  show phiE X.regs c ((aheadL (joinB X.blocks b t))[c]?.getD []).length (phJ X.blocks b t c p) = 0
  rw [aheadL_get (join_good hg hj) (join_nodup hj hnd) (by rw [joinB_len]; exact hcl)]
  refine phi_zero.2 ⟨h1,h2,?_,fun w hw=>h4 w (phJ_mem hf hj hct hcl hp hw)⟩
  rw [Option.getD_some,List.length_map,preds_join hj]
  simp [phJ]
 ·intro c C hC x hx
  obtain ⟨hcl,rfl⟩:=hget c C hC
  show insErr u.funcs X.regs x = 0
  unfold blkJ at hx
  split at hx
  ·cases hx
  split at hx
  ·rcases List.mem_append.1 hx with hx|hx
   ·exact hb.list c _ (get_blkAt hcl) x hx
   ·exact hb.list t _ (get_blkAt hj.tlt) x hx
  ·exact hb.list c _ (get_blkAt hcl) x hx
theorem join_whole {u : LUnit} (h : Whole u) {k b t : Nat} {X : LFunc} (hX : u.funcs[k]? = some X) (hj : JoinOk X.blocks b t) : Whole (putU u k (joinB X.blocks b t))∧NoMore u (putU u k (joinB X.blocks b t)):=by
 have hmod : ∀ Y ∈ (putU u k (joinB X.blocks b t)).funcs,Y ∈ u.funcs ∨ Y = putB X (joinB X.blocks b t):=fun Y hY=>by
  obtain ⟨i,hi⟩:=List.getElem?_of_mem hY
  rw [putU_get] at hi
  by_cases e : k = i
  ·subst e
   rw [if_pos rfl,hX] at hi
   exact .inr (Option.some.inj hi).symm
  ·rw [if_neg e] at hi
   exact .inl (List.mem_of_getElem? hi)
 refine ⟨⟨check_map h.ok rfl (List.length_modify _ _ _) fun i Z Y hZ hY=>?_,fun Y hY C hC=>?_,h.gnums⟩,fun inp f m hin h1 hm=>?_⟩
 ·rw [putU_get] at hY
  by_cases e : k = i
  ·subst e
   rw [hX] at hZ
   obtain rfl:=Option.some.inj hZ
   rw [if_pos rfl,hX] at hY
   obtain rfl:=Option.some.inj hY
   exact join_fnTo h.ok hX hj
  ·rw [if_neg e,hZ] at hY
   obtain rfl:=Option.some.inj hY
   exact FnTo.same h.ok hZ
 ·obtain ⟨R,_,_,hf⟩:=check_func (check_zero.2 h.ok) hX
  have h0:=h.nums X (List.mem_of_getElem? hX)
  rcases hmod Y hY with hY|rfl
  ·exact h.nums Y hY C hC
  ·have hC : C ∈ joinB X.blocks b t:=hC
   obtain ⟨c,hc⟩:=List.getElem?_of_mem hC
   have hcl : c < X.blocks.length:=by rw [← joinB_len X.blocks b t]; exact (List.getElem?_eq_some_iff.1 hc).1
   rw [joinB_get (get_blkAt hcl)] at hc
   obtain rfl:=Option.some.inj hc
   have hB:=h0 _ (List.mem_of_getElem? (get_blkAt hcl))
   have hT:=h0 _ (List.mem_of_getElem? (get_blkAt hj.tlt))
   refine ⟨?_,fun q hq v hv=>?_,fun x hx=>?_⟩
   ·unfold blkJ
    split
    ·exact ⟨by simp [retB],by simp [retB]⟩
    split
    ·exact hT.on
    ·exact hB.on
   ·rw [blkJ_phis] at hq
    split at hq
    ·cases hq
    rename_i hct
    obtain ⟨p,hp,rfl⟩:=List.mem_map.1 hq
    exact hB.phis p hp v (phJ_mem hf hj hct hcl hp hv)
   ·unfold blkJ at hx
    split at hx
    ·cases hx
    split at hx
    ·rcases List.mem_append.1 hx with hx|hx
     ·exact hB.list x hx
     ·exact hT.list x hx
    ·exact hB.list x hx
 ·have e1 : ∀ v : LUnit,startM v inp = ⟨memL v.globals,inp,[],0,[],⟨(mainAt v.funcs).toNat,0,0,List.replicate (regsOf v (mainAt v.funcs).toNat) 0,-1⟩,bump (v.funcs.map fun X=>List.replicate X.blocks.length 0) (mainAt v.funcs).toNat 0⟩:=fun _=>rfl
  have ht0 : (0 : Nat) ≠ t:=fun e=>by
   have e6:=end_zero.1 ((h.ok.body X (List.mem_of_getElem? hX)).ends _ (List.mem_of_getElem? (get_blkAt hj.blt)))
   have:=(e6.to t (by rw [hj.to]; simp)).1
   omega
  obtain ⟨h2,i,j,h3,h4,h5,h6⟩:=sim_run (join_sim h.fit h.ok hX hj) f (startM u inp) (startM (putU u k (joinB X.blocks b t)) inp) m ⟨start_ok h.fit h.start hin,by
   rw [e1,e1,putU_main,putU_regs]
   exact ⟨rfl,rfl,rfl,.nil _ _,rfl,rfl,rfl,.inr ⟨fun e=>ht0 e.2,rfl,rfl⟩⟩⟩ h1 (by omega)
  refine ⟨h2,?_⟩
  have e2 : (startM u inp).steps = 0:=rfl
  have e3 : (startM (putU u k (joinB X.blocks b t)) inp).steps = 0:=rfl
  unfold resultM
  omega
def KindOk (bl : List LBlock) : Prop:=∀ B ∈ bl,(B.kind = 1 ∨ B.kind = 2 ∨ B.kind = 3)∧(B.to.length : Int) = B.kind - 1
def jumpTo (bl : List LBlock) (b : Nat) : Nat:=((blkAt bl b).to.getD 0 0).toNat
def canJ (bl : List LBlock) (b : Nat) : Option Nat :=
 if (blkAt bl b).kind = 2∧jumpTo bl b ≠ b∧(blkAt bl (jumpTo bl b)).phis = []∧(preds bl (jumpTo bl b)).length ≤ 1 then some (jumpTo bl b) else none
theorem blkAt_none {bl : List LBlock} {b : Nat} (h : ¬ b < bl.length) : blkAt bl b = retB:=by unfold blkAt; rw [List.getElem?_eq_none (by omega)]; rfl
theorem kind_to {bl : List LBlock} (hk : KindOk bl) (hg : GoodB bl) {b : Nat} (h : (blkAt bl b).kind = 2) : b < bl.length∧(blkAt bl b).to = [((jumpTo bl b : Nat) : Int)]∧jumpTo bl b < bl.length:=by
 have hb : b < bl.length:=Classical.byContradiction fun hb=>by rw [blkAt_none hb] at h; simp [retB] at h
 have h1:=(hk _ (List.mem_of_getElem? (get_blkAt hb))).2
 rw [h] at h1
 have h3:=(hg _ (List.mem_of_getElem? (get_blkAt hb))).2
 unfold jumpTo
 match hto : (blkAt bl b).to with
 | []=>rw [hto] at h1; simp at h1
 | [t] =>
  have:=h3 t (by rw [hto]; simp)
  refine ⟨hb,?_,?_⟩
  ·simp only [List.getD_cons_zero]
   rw [Int.toNat_of_nonneg this.1]
  ·simp only [List.getD_cons_zero]
   omega
 | _::_::_=>rw [hto] at h1; simp at h1; omega
theorem canJ_some {bl : List LBlock} (hk : KindOk bl) (hg : GoodB bl) {b t : Nat} : canJ bl b = some t ↔ JoinOk bl b t:=by
 unfold canJ
 constructor
 ·intro h
  split at h
  ·rename_i h1
   obtain ⟨h1,h2,h3,h4⟩:=h1
   obtain ⟨h5,h6,h7⟩:=kind_to hk hg h1
   obtain rfl:=Option.some.inj h
   refine ⟨h5,h7,h2,h1,h6,h3,?_⟩
   have hm : b ∈ preds bl (jumpTo bl b):=List.mem_filter.2 ⟨List.mem_range.2 h5,by simp only [decide_eq_true_eq]; rw [toOf_at h5,h6]; simp⟩
   match hp : preds bl (jumpTo bl b) with
   | []=>rw [hp] at hm; cases hm
   | [a]=>rw [hp] at hm; rw [List.mem_singleton.1 hm]
   | _::_::_=>rw [hp] at h4; simp at h4
  ·cases h
 ·intro h
  have e : jumpTo bl b = t:=by unfold jumpTo; rw [h.to]; simp
  rw [e,if_pos ⟨h.kind,h.ne,h.none,by rw [h.one]; simp⟩]
theorem join_kind {bl : List LBlock} {b t : Nat} (hk : KindOk bl) (hj : JoinOk bl b t) : KindOk (joinB bl b t):=fun C hC=>by
 obtain ⟨c,hc⟩:=List.getElem?_of_mem hC
 have hcl : c < bl.length:=by rw [← joinB_len bl b t]; exact (List.getElem?_eq_some_iff.1 hc).1
 rw [joinB_get (get_blkAt hcl)] at hc
 obtain rfl:=Option.some.inj hc
 have h1:=hk _ (List.mem_of_getElem? (get_blkAt hcl))
 have h2:=hk _ (List.mem_of_getElem? (get_blkAt hj.tlt))
 unfold blkJ
 split
 ·simp [retB]
 split
 ·exact h2
 ·exact h1
def hasP (bl : List LBlock) : Nat:=((List.range bl.length).filter fun c=>!(preds bl c).isEmpty).length
theorem hasP_join {bl : List LBlock} {b t : Nat} (hj : JoinOk bl b t) : hasP (joinB bl b t) + 1 = hasP bl:=by
 unfold hasP
 rw [joinB_len]
 have h1 : (List.range bl.length).filter (fun c=>!(preds (joinB bl b t) c).isEmpty) = ((List.range bl.length).filter fun c=>!(preds bl c).isEmpty).erase t:=by
  rw [List.Nodup.erase_eq_filter (List.nodup_range.sublist List.filter_sublist),List.filter_filter]
  refine List.filter_congr fun c _=>?_
  rw [preds_join hj]
  by_cases e : c = t
  ·subst e
   rw [predsJ_t hj]
   simp
  ·have h2:=predsJ_len hj e
   have h3 : (predsJ bl b t c).isEmpty = (preds bl c).isEmpty:=by
    cases h4 : predsJ bl b t c with
    | nil=>rw [h4] at h2; cases h5 : preds bl c with
     | nil=>rfl
     | cons _ _=>rw [h5] at h2; simp at h2
    | cons _ _=>rw [h4] at h2; cases h5 : preds bl c with
     | nil=>rw [h5] at h2; simp at h2
     | cons _ _=>rfl
   rw [h3]
   simp [e]
 rw [h1]
 have hm : t ∈ (List.range bl.length).filter fun c=>!(preds bl c).isEmpty:=List.mem_filter.2 ⟨List.mem_range.2 hj.tlt,by rw [hj.one]; rfl⟩
 rw [List.length_erase_of_mem hm]
 have:=List.length_pos_of_mem hm
 omega
def chainB : Nat→List LBlock→Nat→List LBlock
 | 0,bl,_=>bl
 | f + 1,bl,b=>match canJ bl b with
  | some t=>chainB f (joinB bl b t) b
  | none=>bl
theorem chainB_succ (f : Nat) (bl : List LBlock) (b : Nat) : chainB (f + 1) bl b = match canJ bl b with
  | some t=>chainB f (joinB bl b t) b
  | none=>bl:=rfl
def chainOf (bl : List LBlock) (b : Nat) : List LBlock:=chainB (hasP bl) bl b
def chainsTo (bl : List LBlock) (i : Nat) : List LBlock:=(List.range i).foldl chainOf bl
def chainsL (bl : List LBlock) : List LBlock:=chainsTo bl bl.length
theorem chainsTo_succ (bl : List LBlock) (i : Nat) : chainsTo bl (i + 1) = chainOf (chainsTo bl i) i:=by unfold chainsTo; rw [List.range_succ,List.foldl_append]; rfl
structure BlOk (R : Nat) (bl : List LBlock) : Prop where
 ok : FuncOk R bl
 kind : KindOk bl
theorem BlOk.join {R : Nat} {bl : List LBlock} {b t : Nat} (h : BlOk R bl) (hj : JoinOk bl b t) : BlOk R (joinB bl b t):=⟨join_funcOk h.ok hj,join_kind h.kind hj⟩
theorem chainOf_some {R : Nat} {bl : List LBlock} {b t : Nat} (h : BlOk R bl) (hc : canJ bl b = some t) : chainOf bl b = chainOf (joinB bl b t) b:=by
 have hj:=(canJ_some h.kind h.ok.good).1 hc
 have h1:=hasP_join hj
 unfold chainOf
 rw [← h1]
 rw [chainB_succ,hc]
theorem chainOf_none {bl : List LBlock} {b : Nat} (hc : canJ bl b = none) : chainOf bl b = bl:=by
 unfold chainOf
 cases hasP bl with
 | zero=>rfl
 | succ n=>rw [chainB_succ,hc]
inductive Joins : List LBlock→List LBlock→Prop
 | refl (a : List LBlock) : Joins a a
 | head {a c : List LBlock} {b t : Nat} : JoinOk a b t→Joins (joinB a b t) c→Joins a c
theorem Joins.trans {a b c : List LBlock} (h : Joins a b) (k : Joins b c) : Joins a c:=by
 induction h with
 | refl=>exact k
 | head h1 _ ih=>exact .head h1 (ih k)
theorem Joins.inv {p : List LBlock→Prop} (hp : ∀ a b t,JoinOk a b t→p a→p (joinB a b t)) {a c : List LBlock} (h : Joins a c) (ha : p a) : p c:=by
 induction h with
 | refl=>exact ha
 | head h1 _ ih=>exact ih (hp _ _ _ h1 ha)
theorem Joins.ok {R : Nat} {a c : List LBlock} (h : Joins a c) (ha : BlOk R a) : BlOk R c:=h.inv (fun _ _ _ hj h=>h.join hj) ha
theorem Joins.len {a c : List LBlock} (h : Joins a c) : c.length = a.length:=h.inv (p:=fun x=>x.length = a.length) (fun _ _ _ _ h=>by rw [joinB_len]; exact h) rfl
theorem Joins.many {a c : List LBlock} (h : Joins a c) : manyL c = manyL a:=h.inv (p:=fun x=>manyL x = manyL a) (fun _ _ _ hj h=>by rw [many_join hj]; exact h) rfl
theorem chainOf_joins {R : Nat} : ∀ (n : Nat) (bl : List LBlock) (b : Nat),hasP bl = n→BlOk R bl→Joins bl (chainOf bl b)∧canJ (chainOf bl b) b = none:=by
 intro n
 induction n with
 | zero =>
  intro bl b hn h
  cases hc : canJ bl b with
  | none=>rw [chainOf_none hc]; exact ⟨.refl _,hc⟩
  | some t =>
   have:=hasP_join ((canJ_some h.kind h.ok.good).1 hc)
   omega
 | succ n ih =>
  intro bl b hn h
  cases hc : canJ bl b with
  | none=>rw [chainOf_none hc]; exact ⟨.refl _,hc⟩
  | some t =>
   have hj:=(canJ_some h.kind h.ok.good).1 hc
   have h1:=hasP_join hj
   rw [chainOf_some h hc]
   obtain ⟨h2,h3⟩:=ih (joinB bl b t) b (by omega) (h.join hj)
   exact ⟨.head hj h2,h3⟩
theorem canJ_stays {R : Nat} {bl : List LBlock} {b t c : Nat} (h : BlOk R bl) (hj : JoinOk bl b t) (hc : canJ bl c = none) : canJ (joinB bl b t) c = none:=by
 cases hn : canJ (joinB bl b t) c with
 | none=>rfl
 | some d =>
  exfalso
  have h2:=h.join hj
  have hd:=(canJ_some h2.kind h2.ok.good).1 hn
  have hcl : c < bl.length:=by have:=hd.blt; rwa [joinB_len] at this
  have hdl : d < bl.length:=by have:=hd.tlt; rwa [joinB_len] at this
  have hct : c ≠ t:=fun e=>by
   have:=hd.kind
   rw [joinB_at hcl,e] at this
   unfold blkJ at this
   rw [if_pos rfl] at this
   simp [retB] at this
  have hcb : c ≠ b:=fun e=>by
   rw [e] at hc
   have:=(canJ_some h.kind h.ok.good).2 hj
   rw [hc] at this
   cases this
  have hB : blkJ bl b t c (blkAt bl c) = { blkAt bl c with phis:=(blkAt bl c).phis.map (phJ bl b t c) }:=by
   unfold blkJ
   rw [if_neg hct,if_neg hcb]
  have hk:=hd.kind
  have hto:=hd.to
  rw [joinB_at hcl,hB] at hk hto
  simp only at hk hto
  have hdt : d ≠ t:=fun e=>by
   rw [e] at hto
   exact hcb (only_b hj (by rw [toOf_at hcl,hto]; simp))
  have hno:=hd.none
  rw [joinB_at hdl,blkJ_phis,if_neg hdt,List.map_eq_nil_iff] at hno
  have hone:=hd.one
  rw [preds_join hj] at hone
  have hlen:=predsJ_len hj hdt
  rw [hone] at hlen
  have : canJ bl c = some d:=(canJ_some h.kind h.ok.good).2 ⟨hcl,hdl,hd.ne,hk,hto,hno,by
   have hm : c ∈ preds bl d:=List.mem_filter.2 ⟨List.mem_range.2 hcl,by simp only [decide_eq_true_eq]; rw [toOf_at hcl,hto]; simp⟩
   match hp : preds bl d with
   | []=>rw [hp] at hm; cases hm
   | [a]=>rw [hp] at hm; rw [List.mem_singleton.1 hm]
   | _::_::_=>rw [hp] at hlen; simp at hlen⟩
  rw [hc] at this
  cases this
theorem chainsTo_joins {R : Nat} {bl : List LBlock} (h : BlOk R bl) : ∀ i,Joins bl (chainsTo bl i)∧∀ c,c < i→canJ (chainsTo bl i) c = none:=by
 intro i
 induction i with
 | zero=>exact ⟨.refl _,fun c hc=>by omega⟩
 | succ i ih =>
  obtain ⟨h1,h2⟩:=ih
  have hok:=h1.ok h
  obtain ⟨h3,h4⟩:=chainOf_joins _ (chainsTo bl i) i rfl hok
  rw [chainsTo_succ]
  refine ⟨h1.trans h3,fun c hc=>?_⟩
  by_cases e : c = i
  ·rw [e]; exact h4
  ·have : BlOk R (chainOf (chainsTo bl i) i)∧canJ (chainOf (chainsTo bl i) i) c = none:=h3.inv (p:=fun x=>BlOk R x∧canJ x c = none) (fun a b t hj hp=>⟨hp.1.join hj,canJ_stays hp.1 hj hp.2⟩) ⟨hok,h2 c (by omega)⟩
   exact this.2
theorem chainsL_joins {R : Nat} {bl : List LBlock} (h : BlOk R bl) : Joins bl (chainsL bl)∧∀ c,canJ (chainsL bl) c = none:=by
 obtain ⟨h1,h2⟩:=chainsTo_joins h bl.length
 refine ⟨h1,fun c=>?_⟩
 by_cases hc : c < bl.length
 ·exact h2 c hc
 ·unfold canJ
  rw [if_neg]
  intro h3
  have:=h3.1
  unfold chainsL at this
  rw [blkAt_none (by rw [h1.len]; exact hc)] at this
  simp [retB] at this
theorem chainOf_nil {bl : List LBlock} (h : ∀ c,canJ bl c = none) : chainsL bl = bl:=by
 have : ∀ i,chainsTo bl i = bl:=fun i=>by
  induction i with
  | zero=>rfl
  | succ i ih=>rw [chainsTo_succ,ih,chainOf_none (h i)]
 exact this _
theorem joins_whole {a b : List LBlock} (hc : Joins a b) : ∀ {u : LUnit} {k : Nat} {X : LFunc},Whole u→u.funcs[k]? = some X→X.blocks = a→Whole (putU u k b)∧NoMore u (putU u k b):=by
 induction hc with
 | refl a =>
  intro u k X h hX e
  have : putU u k a = u:=by
   unfold putU
   congr 1
   apply List.ext_getElem?
   intro j
   rw [List.getElem?_modify]
   by_cases ej : k = j
   ·subst ej
    rw [hX]
    simp only [if_true,Option.map_eq_map,Option.map_some]
    unfold putB
    rw [← e]
   ·simp only [ej,if_false,id_map']
  rw [this]
  exact ⟨h,.refl _⟩
 | @head a c b' t' h1 h2 ih =>
  intro u k X h hX e
  subst e
  obtain ⟨h3,h4⟩:=join_whole h hX h1
  have hX' : (putU u k (joinB X.blocks b' t')).funcs[k]? = some (putB X (joinB X.blocks b' t')):=by rw [putU_get,if_pos rfl,hX]; rfl
  obtain ⟨h5,h6⟩:=ih h3 hX' rfl
  have : putU (putU u k (joinB X.blocks b' t')) k c = putU u k c:=by
   unfold putU
   simp only
   rw [modify_one]
   rfl
  rw [this] at h5 h6
  exact ⟨h5,h4.trans h6⟩
theorem joinsU_whole {u v : LUnit} (h : Whole u) (hg : v.globals = u.globals) (hl : v.funcs.length = u.funcs.length) (hf : ∀ (k : Nat) X Y,u.funcs[k]? = some X→v.funcs[k]? = some Y→∃ bl,Y = putB X bl∧Joins X.blocks bl) : Whole v∧NoMore u v:=by
 have key : ∀ n,n ≤ u.funcs.length→Whole { u with funcs:=v.funcs.take n++u.funcs.drop n }∧NoMore u { u with funcs:=v.funcs.take n++u.funcs.drop n }:=by
  intro n
  induction n with
  | zero =>
   intro _
   simp only [List.take_zero,List.nil_append,List.drop_zero]
   exact ⟨h,.refl _⟩
  | succ n ih =>
   intro hn
   obtain ⟨h1,h2⟩:=ih (by omega)
   have hX : u.funcs[n]? = some u.funcs[n]:=List.getElem?_eq_getElem (by omega)
   have hY : v.funcs[n]? = some (v.funcs[n]'(by omega)):=List.getElem?_eq_getElem _
   obtain ⟨bl,hbl,hcut⟩:=hf n _ _ hX hY
   have hlt : (v.funcs.take n).length = n:=by rw [List.length_take,hl]; omega
   have hX2 : (v.funcs.take n++u.funcs.drop n)[n]? = some u.funcs[n]:=by
    rw [List.getElem?_append_right (by omega),hlt,Nat.sub_self,List.getElem?_drop,Nat.add_zero]; exact hX
   obtain ⟨h3,h4⟩:=joins_whole hcut (u:={ u with funcs:=v.funcs.take n++u.funcs.drop n }) (k:=n) h1 hX2 rfl
   have : putU { u with funcs:=v.funcs.take n++u.funcs.drop n } n bl = { u with funcs:=v.funcs.take (n + 1)++u.funcs.drop (n + 1) }:=by
    unfold putU
    simp only
    congr 1
    apply List.ext_getElem?
    intro j
    rw [List.getElem?_modify]
    rcases Nat.lt_trichotomy j n with hj|hj|hj
    ·simp only [show ¬ n = j by omega,if_false,id_map']
     rw [List.getElem?_append_left (by omega),List.getElem?_append_left (by rw [List.length_take,hl]; omega),List.getElem?_take_of_lt hj,List.getElem?_take_of_lt (by omega)]
    ·subst hj
     rw [hX2,List.getElem?_append_left (by rw [List.length_take,hl]; omega),List.getElem?_take_of_lt (by omega),hY]
     simp only [if_true,Option.map_eq_map,Option.map_some]
     rw [← hbl]
    ·simp only [show ¬ n = j by omega,if_false,id_map']
     rw [List.getElem?_append_right (by omega),List.getElem?_append_right (by rw [List.length_take,hl]; omega),hlt,List.length_take,hl,Nat.min_eq_left hn,List.getElem?_drop,List.getElem?_drop]
     congr 1
     omega
   rw [this] at h3 h4
   exact ⟨h3,h2.trans h4⟩
 have:=key u.funcs.length (Nat.le_refl _)
 rw [List.take_of_length_le (by rw [hl]; exact Nat.le_refl _),List.drop_length,List.append_nil,← hg] at this
 exact this
def PosOk (bl : List LBlock) : Prop:=∀ q,∀ t ∈ toOf bl q,1 ≤ t
def ReachR (bl : List LBlock) : Prop:=∀ q,toOf bl q ≠ []→Rch bl (-1) 0 q
theorem JoinOk.pos {bl : List LBlock} {b t : Nat} (hj : JoinOk bl b t) (hp : PosOk bl) : t ≠ 0:=by
 have:=hp b t (by rw [toOf_jb hj]; simp)
 omega
theorem pos_join {bl : List LBlock} {b t : Nat} (hj : JoinOk bl b t) (hp : PosOk bl) : PosOk (joinB bl b t):=fun q x hx=>by
 rw [toOf_join hj] at hx
 unfold toJ at hx
 split at hx
 ·cases hx
 split at hx
 ·exact hp _ x hx
 ·exact hp _ x hx
theorem rch_join {bl : List LBlock} {b t : Nat} (hj : JoinOk bl b t) (hp : PosOk bl) {q : Nat} (h : Rch bl (-1) 0 q) : Rch (joinB bl b t) (-1) 0 (if q = t then b else q):=by
 have h0:=hj.pos hp
 induction h with
 | refl=>rw [if_neg (fun e=>h0 e.symm)]; exact .refl
 | @step x y _ he hw ih =>
  have he : (y : Int) ∈ toOf bl x:=he
  by_cases hy : y = t
  ·subst hy
   have hx:=only_b hj he
   subst hx
   rw [if_pos rfl]
   rw [if_neg (fun e=>hj.ne e.symm)] at ih
   exact ih
  ·rw [if_neg hy]
   refine ih.step ?_ hw
   show (y : Int) ∈ toOf (joinB bl b t) _
   rw [toOf_join hj]
   unfold toJ
   by_cases hx : x = t
   ·rw [if_pos hx,if_neg (fun e=>hj.ne e.symm),if_pos rfl,← hx]
    exact he
   ·rw [if_neg hx,if_neg hx]
    by_cases hb : x = b
    ·rw [hb,toOf_jb hj,List.mem_singleton] at he
     omega
    ·rw [if_neg hb]; exact he
theorem allR_join {bl : List LBlock} {b t : Nat} (hj : JoinOk bl b t) (hp : PosOk bl) (h : ReachR bl) : ReachR (joinB bl b t):=fun q hq=>by
 rw [toOf_join hj] at hq
 unfold toJ at hq
 by_cases h1 : q = t
 ·rw [if_pos h1] at hq; exact absurd rfl hq
 rw [if_neg h1] at hq
 have h2 : Rch bl (-1) 0 q:=by
  by_cases hb : q = b
  ·exact h q (by rw [hb,toOf_jb hj]; simp)
  ·rw [if_neg hb] at hq
   exact h q hq
 have:=rch_join hj hp h2
 rwa [if_neg h1] at this
theorem allR_kept {bl : List LBlock} (hg : GoodB bl) (h0 : 0 < bl.length) : ReachR (keptL bl (orderL bl)):=fun q hq=>by
 have hk:=orderK_ok hg h0
 obtain ⟨hp,_⟩:=order_pos hg h0
 have hg2:=keep_good hg hk
 have hp2 : 0 < (keptL bl (orderL bl)).length:=by rw [keptL_len]; exact hp
 have hql : q < (keptL bl (orderL bl)).length:=Classical.byContradiction fun hn=>hq (toOf_none hn)
 refine ((orderL_ord hg2 hp2).mem q).1 ?_
 rw [order_self hg h0]
 rw [keptL_len] at hql
 exact List.mem_range.2 hql
theorem pos_kept {bl : List LBlock} {o : List Nat} (hg : GoodB bl) (hk : KOk bl o) (hz : nth o 0 = 0) (hp : PosOk bl) : PosOk (keptL bl o):=fun q t ht=>by
 have hql : q < o.length:=Classical.byContradiction fun hn=>by
  rw [toOf_none (by rw [keptL_len]; exact hn)] at ht
  cases ht
 rw [toOf_keep hg hk (get_nth hql)] at ht
 obtain ⟨x,hx,rfl⟩:=List.mem_map.1 ht
 have h1:=hp _ x hx
 have h2:=nth_idx (hk.closed _ (nth_mem hql) x hx)
 have h3 : o.idxOf x.toNat ≠ 0:=fun e=>by
  rw [e,hz] at h2
  omega
 omega
theorem kind_kept {bl : List LBlock} {o : List Nat} (hk : KOk bl o) (h : KindOk bl) : KindOk (keptL bl o):=fun C hC=>by
 unfold keptL at hC
 obtain ⟨b,hb,rfl⟩:=List.mem_map.1 hC
 have:=h _ (List.mem_of_getElem? (get_blkAt (hk.lt b hb)))
 unfold keepB
 simp only [List.length_map]
 exact this
theorem canJ_kept {R : Nat} {bl : List LBlock} (h : BlOk R bl) (h0 : 0 < bl.length) (ha : ReachR bl) (hn : ∀ c,canJ bl c = none) : ∀ i,canJ (keptL bl (orderL bl)) i = none:=fun i=>by
 have hg:=h.ok.good
 have hk:=orderK_ok hg h0
 have ho:=orderL_ord hg h0
 cases hc : canJ (keptL bl (orderL bl)) i with
 | none=>rfl
 | some j =>
  exfalso
  have hj:=(canJ_some (kind_kept hk h.kind) (keep_good hg hk)).1 hc
  have hi : i < (orderL bl).length:=by have:=hj.blt; rwa [keptL_len] at this
  have hjl : j < (orderL bl).length:=by have:=hj.tlt; rwa [keptL_len] at this
  have hbi:=hk.lt _ (nth_mem hi)
  have hbj:=hk.lt _ (nth_mem hjl)
  have e1 : blkAt (keptL bl (orderL bl)) i = keepB bl (orderL bl) (nth (orderL bl) i) (blkAt bl (nth (orderL bl) i)):=blkAt_get (keptL_get (get_nth hi))
  have e2 : blkAt (keptL bl (orderL bl)) j = keepB bl (orderL bl) (nth (orderL bl) j) (blkAt bl (nth (orderL bl) j)):=blkAt_get (keptL_get (get_nth hjl))
  have hkind:=hj.kind
  rw [e1] at hkind
  have hkind : (blkAt bl (nth (orderL bl) i)).kind = 2:=hkind
  obtain ⟨_,h4,h5⟩:=kind_to h.kind hg hkind
  have hto:=hj.to
  rw [e1] at hto
  have hto : (blkAt bl (nth (orderL bl) i)).to.map (fun t=>(((orderL bl).idxOf t.toNat : Nat) : Int)) = [(j : Int)]:=hto
  rw [h4] at hto
  simp only [List.map_cons,List.map_nil,Int.toNat_natCast,List.cons.injEq,and_true,Int.natCast_inj] at hto
  have hmem : jumpTo bl (nth (orderL bl) i) ∈ orderL bl:=by
   have:=hk.closed _ (nth_mem hi) ((jumpTo bl (nth (orderL bl) i) : Nat) : Int) (by rw [toOf_at hbi,h4]; simp)
   rwa [Int.toNat_natCast] at this
  have htj : jumpTo bl (nth (orderL bl) i) = nth (orderL bl) j:=by rw [← hto]; exact (nth_idx hmem).symm
  rw [htj] at h4
  have hno:=hj.none
  rw [e2] at hno
  have hno : (blkAt bl (nth (orderL bl) j)).phis = []:=List.map_eq_nil_iff.1 hno
  have hJ : JoinOk bl (nth (orderL bl) i) (nth (orderL bl) j):=by
   refine ⟨hbi,hbj,fun e=>hj.ne (nth_inj hk.nodup hjl hi e),hkind,h4,hno,?_⟩
   have hall : ∀ q ∈ preds bl (nth (orderL bl) j),q = nth (orderL bl) i:=fun q hq=>by
    have hq2:=(List.mem_filter.1 hq).2
    simp only [decide_eq_true_eq] at hq2
    have hqo : q ∈ orderL bl:=(ho.mem q).2 (ha q (fun e=>by rw [e] at hq2; cases hq2))
    have h6 : (orderL bl).idxOf q ∈ preds (keptL bl (orderL bl)) j:=by
     rw [preds_keep hg hk (get_nth hjl),List.mem_filter,List.mem_range,decide_eq_true_eq]
     exact ⟨idx_lt hqo,by rw [nth_idx hqo]; exact hq⟩
    rw [hj.one,List.mem_singleton] at h6
    rw [← h6,nth_idx hqo]
   have hm : nth (orderL bl) i ∈ preds bl (nth (orderL bl) j):=List.mem_filter.2 ⟨List.mem_range.2 hbi,by simp only [decide_eq_true_eq]; rw [toOf_at hbi,h4]; simp⟩
   have hl:=len_one (preds_nodup bl _) hall
   match hp : preds bl (nth (orderL bl) j) with
   | []=>rw [hp] at hm; cases hm
   | [a]=>rw [hp] at hm; rw [List.mem_singleton.1 hm]
   | _::_::_=>rw [hp] at hl; simp at hl
  have:=(canJ_some h.kind hg).2 hJ
  rw [hn] at this
  cases this
theorem canJ_ren (L : List Int) (bl : List LBlock) (c : Nat) : canJ (bl.map (renB L)) c = canJ bl c:=by
 have hb : ∀ c,blkAt (bl.map (renB L)) c = renB L (blkAt bl c) ∨ (blkAt (bl.map (renB L)) c = retB∧blkAt bl c = retB):=fun c=>by
  by_cases h : c < bl.length
  ·exact .inl (blkAt_get (by rw [List.getElem?_map,get_blkAt h]; rfl))
  ·exact .inr ⟨blkAt_none (by rw [List.length_map]; exact h),blkAt_none h⟩
 have h1 : ∀ c,(blkAt (bl.map (renB L)) c).kind = (blkAt bl c).kind∧(blkAt (bl.map (renB L)) c).to = (blkAt bl c).to∧((blkAt (bl.map (renB L)) c).phis = [] ↔ (blkAt bl c).phis = []):=fun c=>by
  rcases hb c with h|⟨h,h2⟩
  ·rw [h]
   exact ⟨rfl,rfl,List.map_eq_nil_iff⟩
  ·rw [h,h2]
   exact ⟨rfl,rfl,Iff.rfl⟩
 have h2 : jumpTo (bl.map (renB L)) c = jumpTo bl c:=by unfold jumpTo; rw [(h1 c).2.1]
 unfold canJ
 rw [h2,(h1 c).1,preds_ren]
 have h3:=(h1 (jumpTo bl c)).2.2
 by_cases h4 : (blkAt bl (jumpTo bl c)).phis = []
 ·rw [h3.2 h4,h4]
 ·have h5 : ¬ (blkAt (bl.map (renB L)) (jumpTo bl c)).phis = []:=fun h=>h4 (h3.1 h)
  simp only [h4,h5,false_and,and_false,if_false]
def tidyF (X : LFunc) : LFunc:=namesF (putB X (chainsL (keptF X)))
noncomputable def tidyU (u : LUnit) : LUnit:={ u with funcs:=u.funcs.map tidyF }
def keptU (u : LUnit) : LUnit:={ u with funcs:=u.funcs.map fun X=>putB X (keptF X) }
def chainsU (u : LUnit) : LUnit:={ u with funcs:=u.funcs.map fun X=>putB X (chainsL X.blocks) }
theorem tidyU_get (u : LUnit) (k : Nat) : (tidyU u).funcs[k]? = (u.funcs[k]?).map tidyF:=by unfold tidyU; simp only [List.getElem?_map]
theorem tidyU_eq (u : LUnit) : tidyU u = namesU (chainsU (keptU u)):=by
 unfold tidyU namesU chainsU keptU
 simp only [List.map_map]
 rfl
theorem FnAll.uses' {X : LFunc} {R : Nat} (h : FnAll X R) : ∀ B ∈ X.blocks,∀ x ∈ B.list,(x.a ∈ usesOf x ∨ x.a = noV)∧(x.b ∈ usesOf x ∨ x.b = noV)∧∀ v ∈ x.args,v ∈ usesOf x:=fun B hB x hx=>by
 obtain ⟨fs,h1⟩:=h.uses B hB x hx
 obtain ⟨h2,h3,h4,_⟩:=vals_used h1
 refine ⟨h2,h3,fun v hv=>?_⟩
 obtain ⟨b,hb⟩:=List.getElem?_of_mem hB
 by_cases h20 : x.op = 20
 ·rw [← h4 h20]; exact hv
 ·rw [((h.ok.block b B hb).list x hx).args h20] at hv
  cases hv
theorem kept_turn : ∀ X R,FnAll X R→NmF X (putB X (keptF X)) (orderL X.blocks) (parL X.regs.toNat)∧(parL X.regs.toNat).length ≤ R∧(putB X (keptF X)).name = X.name∧(putB X (keptF X)).params = X.params:=fun X R h=>by
 have hk:=orderK_ok h.ok.good h.pos
 have hfk:=keep_funcOk h.ok hk
 have hreg:=h.regs
 have hpar:=h.par
 have hin : ∀ B ∈ keptL X.blocks (orderL X.blocks),∀ r,r ∈ seqB B ∨ r ∈ seqP B→r ∈ parL X.regs.toNat:=fun B hB r hr=>by
  have:=seq_bound hfk hB hr
  exact mem_parL.2 (by omega)
 refine ⟨⟨hk,order_pos h.ok.good h.pos,?_,?_,?_,hin,fun r hr=>?_⟩,by rw [parL_len]; omega,rfl,rfl⟩
 ·show keptF X = (keptL X.blocks (orderL X.blocks)).map _
  conv=>lhs; unfold keptF; rw [← List.map_id (keptL X.blocks (orderL X.blocks))]
  refine List.map_congr_left fun B hB=>(renB_par (hin B hB) ?_).symm
  unfold keptL at hB
  obtain ⟨b,hb,rfl⟩:=List.mem_map.1 hB
  show ∀ x ∈ (blkAt X.blocks b).list,_
  exact h.uses' _ (List.mem_of_getElem? (get_blkAt (hk.lt b hb)))
 ·show X.regs = _
  rw [parL_len]; omega
 ·have : ∀ m n,m ≤ n→parL m <+: parL n:=fun m n hmn=>by
   unfold parL
   obtain ⟨d,rfl⟩ : ∃ d,n = m + d:=⟨n - m,by omega⟩
   rw [List.range_add,List.map_append]
   exact List.prefix_append _ _
  exact this _ _ (by omega)
 ·have:=mem_parL.1 hr
  omega
theorem nm_noMore {u v : LUnit} {o : Nat→List Nat} {L : Nat→List Int} (hu : Whole u) (hn : NmU u v o L) : NoMore u v:=fun inp f m hin h1 hm=>by
 obtain ⟨h2,h3⟩:=nm_runs hu hn inp hin f
 have h4 : resultM v inp m = resultM v inp f:=run_more v f m _ (by have:=h2.state; unfold resultM at this h1; rw [this]; exact h1) hm
 rw [h4]
 exact ⟨h2,by omega⟩
theorem fn_kind {u : LUnit} (hc : CheckOk u) {k : Nat} {X : LFunc} (hX : u.funcs[k]? = some X) : KindOk X.blocks∧PosOk X.blocks:=by
 have hb:=(FnTo.same hc hX).body
 refine ⟨fun B hB=>?_,fun q t ht=>?_⟩
 ·have h:=end_zero.1 (hb.ends B hB)
  exact ⟨by have:=h.kind; omega,h.len⟩
 ·unfold toOf at ht
  split at ht
  ·rename_i B hB
   exact ((end_zero.1 (hb.ends B (List.mem_of_getElem? hB))).to t ht).1
  ·cases ht
theorem chainsU_whole {u : LUnit} (hu : Whole u) : Whole (chainsU u)∧NoMore u (chainsU u) :=
 joinsU_whole hu rfl (List.length_map _) fun k X Y hX hY=>by
  unfold chainsU at hY
  simp only [List.getElem?_map,hX,Option.map_some] at hY
  obtain ⟨R,h⟩:=fnAll hu.ok hX
  exact ⟨_,(Option.some.inj hY).symm,(chainsL_joins ⟨h.ok,(fn_kind hu.ok hX).1⟩).1⟩
theorem keptU_whole {u : LUnit} (hu : Whole u) : Whole (keptU u)∧NoMore u (keptU u) :=
 ⟨nm_whole hu (fun X=>putB X (keptF X)) _ _ kept_turn,nm_noMore hu (nm_unit hu.ok (fun X=>putB X (keptF X)) _ _ kept_turn)⟩
theorem tidyU_whole {u : LUnit} (hu : Whole u) : Whole (tidyU u)∧NoMore u (tidyU u):=by
 obtain ⟨h1,h2⟩:=keptU_whole hu
 obtain ⟨h3,h4⟩:=chainsU_whole h1
 rw [tidyU_eq]
 exact ⟨namesU_whole h3,(h2.trans h4).trans (nm_noMore h3 (nm_unit h3.ok namesF _ _ names_turn))⟩
structure TidyAll (X : LFunc) (R : Nat) : Prop where
 mid : FnAll (putB X (chainsL (keptF X))) R
 bl : BlOk R (chainsL (keptF X))
 none : ∀ c,canJ (chainsL (keptF X)) c = none
 all : ReachR (chainsL (keptF X))
 len : (chainsL (keptF X)).length ≤ X.blocks.length
 many : manyL (chainsL (keptF X)) ≤ manyL X.blocks
theorem joins_list {Q : LIns→Prop} {a c : List LBlock} (h : Joins a c) (ha : ∀ B ∈ a,∀ x ∈ B.list,Q x) : ∀ B ∈ c,∀ x ∈ B.list,Q x :=
 h.inv (p:=fun l=>∀ B ∈ l,∀ x ∈ B.list,Q x) (fun l b t hj hl C hC x hx=>by
  obtain ⟨y,hy⟩:=List.getElem?_of_mem hC
  have hyl : y < l.length:=by rw [← joinB_len l b t]; exact (List.getElem?_eq_some_iff.1 hy).1
  rw [joinB_get (get_blkAt hyl)] at hy
  obtain rfl:=Option.some.inj hy
  unfold blkJ at hx
  split at hx
  ·cases hx
  split at hx
  ·rcases List.mem_append.1 hx with hx|hx
   ·exact hl _ (List.mem_of_getElem? (get_blkAt hyl)) x hx
   ·exact hl _ (List.mem_of_getElem? (get_blkAt hj.tlt)) x hx
  ·exact hl _ (List.mem_of_getElem? (get_blkAt hyl)) x hx) ha
theorem kept_list {Q : LIns→Prop} {l : List LBlock} {o : List Nat} (hk : KOk l o) (ha : ∀ B ∈ l,∀ x ∈ B.list,Q x) : ∀ B ∈ keptL l o,∀ x ∈ B.list,Q x:=fun B hB x hx=>by
 unfold keptL at hB
 obtain ⟨b,hb,rfl⟩:=List.mem_map.1 hB
 exact ha _ (List.mem_of_getElem? (get_blkAt (hk.lt b hb))) x hx
theorem tidyAll {u : LUnit} (hc : CheckOk u) {k : Nat} {X : LFunc} (hX : u.funcs[k]? = some X) : ∃ R,FnAll X R∧TidyAll X R:=by
 obtain ⟨R,h⟩:=fnAll hc hX
 have hk:=orderK_ok h.ok.good h.pos
 obtain ⟨hz1,hz2⟩:=order_pos h.ok.good h.pos
 obtain ⟨hkd,hps⟩:=fn_kind hc hX
 have hbl0 : BlOk R (keptF X):=⟨keep_funcOk h.ok hk,kind_kept hk hkd⟩
 obtain ⟨hj,hn⟩:=chainsL_joins hbl0
 refine ⟨R,h,⟨h.regs,h.le,(hj.ok hbl0).ok,?_,h.par,?_⟩,hj.ok hbl0,hn,?_,?_,?_⟩
 ·show 0 < (chainsL (keptF X)).length
  rw [hj.len]
  unfold keptF
  rw [keptL_len]
  exact hz1
 ·exact joins_list hj (kept_list hk h.uses)
 ·exact (hj.inv (p:=fun x=>PosOk x∧ReachR x) (fun a b t hj hp=>⟨pos_join hj hp.1,allR_join hj hp.1 hp.2⟩) ⟨pos_kept h.ok.good hk hz2 hps,allR_kept h.ok.good h.pos⟩).2
 ·rw [hj.len]
  unfold keptF
  rw [keptL_len]
  exact keep_len_le hk
 ·rw [hj.many]
  exact many_keep_le hk
theorem tidy_canJ {X : LFunc} {R : Nat} (h : TidyAll X R) : ∀ c,canJ (tidyF X).blocks c = none:=fun c=>by
 show canJ ((keptL (chainsL (keptF X)) (orderL (chainsL (keptF X)))).map _) c = none
 rw [canJ_ren]
 exact canJ_kept h.bl h.mid.pos h.all h.none c
theorem tidy_order {X : LFunc} {R : Nat} (h : TidyAll X R) : orderL (tidyF X).blocks = List.range (tidyF X).blocks.length:=names_order h.mid
theorem tidy_less {X : LFunc} {R : Nat} (h : FnAll X R) (ht : TidyAll X R) : (tidyF X).blocks.length ≤ X.blocks.length∧manyL (tidyF X).blocks ≤ manyL X.blocks∧(tidyF X).regs ≤ X.regs:=by
 have hk:=orderK_ok ht.mid.ok.good ht.mid.pos
 have h1 : (tidyF X).blocks = (keptL (chainsL (keptF X)) (orderL (chainsL (keptF X)))).map (renB (metL X.params.toNat (keptF (putB X (chainsL (keptF X)))))):=rfl
 refine ⟨?_,?_,?_⟩
 ·rw [h1,List.length_map,keptL_len]
  have h2:=keep_len_le hk
  have h3:=ht.len
  have h4 : (putB X (chainsL (keptF X))).blocks.length = (chainsL (keptF X)).length:=rfl
  have h5 : (orderL (putB X (chainsL (keptF X))).blocks).length = (orderL (chainsL (keptF X))).length:=rfl
  omega
 ·rw [h1,many_ren]
  exact Nat.le_trans (many_keep_le hk) ht.many
 ·have:=names_regs ht.mid
  have h2:=h.regs
  show ((metL X.params.toNat (keptF (putB X (chainsL (keptF X))))).length : Int) ≤ X.regs
  have h3 : (putB X (chainsL (keptF X))).params = X.params:=rfl
  rw [h3] at this
  omega
theorem tidy_met {X : LFunc} {R : Nat} (h : TidyAll X R) : metL (tidyF X).params.toNat (tidyF X).blocks = parL (tidyF X).regs.toNat:=by
 have:=names_met h.mid
 generalize hZ : putB X (chainsL (keptF X)) = Z at this
 have h2 : tidyF X = namesF Z:=by rw [← hZ]; rfl
 rw [h2]
 exact this
theorem tidy_same {X : LFunc} {R : Nat} (h : FnAll X R) (ho : orderL X.blocks = List.range X.blocks.length) (hm : metL X.params.toNat X.blocks = parL X.regs.toNat) (hc : ∀ c,canJ X.blocks c = none) : tidyF X = X:=by
 have h1 : keptF X = X.blocks:=by unfold keptF; rw [ho]; exact keep_all h.ok
 have h2 : chainsL X.blocks = X.blocks:=chainOf_nil hc
 have hreg:=h.regs
 unfold tidyF
 rw [h1,h2]
 show namesF X = X
 unfold namesF
 rw [h1,hm]
 have h3 : X.blocks.map (renB (parL X.regs.toNat)) = X.blocks:=by
  conv=>rhs; rw [← List.map_id X.blocks]
  refine List.map_congr_left fun B hB=>renB_par (fun r hr=>?_) (h.uses' B hB)
  have:=seq_bound h.ok hB hr
  exact mem_parL.2 (by omega)
 rw [h3,parL_len,Int.toNat_of_nonneg (by omega)]
theorem tidyU_again {u : LUnit} (hu : Whole u) : tidyU (tidyU u) = tidyU u:=by
 obtain ⟨h1,_⟩:=tidyU_whole hu
 have h2 : (tidyU (tidyU u)).funcs = (tidyU u).funcs:=by
  show (tidyU u).funcs.map tidyF = (tidyU u).funcs
  conv=>rhs; rw [← List.map_id (tidyU u).funcs]
  refine List.map_congr_left fun Y hY=>?_
  obtain ⟨k,hk⟩:=List.getElem?_of_mem hY
  obtain ⟨R,h3⟩:=fnAll h1.ok hk
  rw [tidyU_get] at hk
  obtain ⟨X,hX,rfl⟩:=Option.map_eq_some_iff.1 hk
  obtain ⟨R',h4,h5⟩:=tidyAll hu.ok hX
  exact tidy_same h3 (tidy_order h5) (tidy_met h5) (tidy_canJ h5)
 have key : ∀ a b : LUnit,a.globals = b.globals→a.funcs = b.funcs→a = b:=by
  rintro ⟨_,_⟩ ⟨_,_⟩ rfl rfl
  rfl
 exact key _ _ rfl h2
end Go.Proofs.YtpadjpplidlfeaaGreatDoor
