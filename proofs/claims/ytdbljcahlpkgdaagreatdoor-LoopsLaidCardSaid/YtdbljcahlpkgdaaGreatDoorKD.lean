/- Texts joined: LayP LayQ LayG LayK LayI LayF LayR LayS LayW LayV. -/
import Derived.Test.YtdbljcahlpkgdaaGreatDoorHW
import Derived.Test.YtdbljcahlpkgdaaGreatDoorHY
import Derived.Test.YtdbljcahlpkgdaaGreatDoorIA
import Derived.Test.YtdbljcahlpkgdaaGreatDoorIH
import Derived.Test.YtdbljcahlpkgdaaGreatDoorKC
namespace Go.Proofs.YtdbljcahlpkgdaaGreatDoor
open Go Go.RowKit
section
variable (bl : List LBlock) (h : Nat) (lp : List Int) (R : Nat)
def inQ : List Nat:=(preds bl h).filter fun a : Nat=>decide ((a : Int) ∈ lp)
def outQ : List Nat:=(preds bl h).filter fun a : Nat=>decide ((a : Int) ∉ lp)
def layV (i : Nat) (p : LPhi) : LVal:=if 1 < (outQ bl h lp).length then ⟨true,((R + i : Nat) : Int)⟩ else srcAt bl h p ((outQ bl h lp).getD 0 0)
def layPh (i : Nat) (p : LPhi) : LPhi:=⟨p.dst,(inQ bl h lp).map (srcAt bl h p)++[layV bl h lp R i p]⟩
def porchPs : List LPhi:=if 1 < (outQ bl h lp).length then (blkAt bl h).phis.mapIdx fun i p=>⟨((R + i : Nat) : Int),(outQ bl h lp).map (srcAt bl h p)⟩ else []
def layTo (c : Nat) (to : List Int) : List Int:=if c ∈ outQ bl h lp then to.map (fun t=>if t = (h : Int) then (bl.length : Int) else t) else to
def layBk (c : Nat) (B : LBlock) : LBlock:={ (if c = h then { B with phis:=B.phis.mapIdx (layPh bl h lp R) } else B) with to:=layTo bl h lp c B.to }
def porchB : LBlock:=⟨porchPs bl h lp R,[],2,noV,[(h : Int)]⟩
def layB : List LBlock:=bl.mapIdx (layBk bl h lp R)++[porchB bl h lp R]
def layR : Nat:=if 1 < (outQ bl h lp).length then R + (blkAt bl h).phis.length else R
end
section
variable {bl : List LBlock} {h : Nat} {lp : List Int} {R : Nat}
theorem layB_len : (layB bl h lp R).length = bl.length + 1:=by unfold layB; simp
theorem layB_get {c : Nat} {B : LBlock} (hB : bl[c]? = some B) : (layB bl h lp R)[c]? = some (layBk bl h lp R c B):=by
 have hl:=(List.getElem?_eq_some_iff.1 hB).1
 unfold layB
 rw [List.getElem?_append_left (by simp [hl]),List.getElem?_mapIdx,hB]
 rfl
theorem layB_new : (layB bl h lp R)[bl.length]? = some (porchB bl h lp R):=by
 unfold layB
 rw [List.getElem?_append_right (by simp),List.length_mapIdx,Nat.sub_self]
 rfl
theorem layBk_to (c : Nat) (B : LBlock) : (layBk bl h lp R c B).to = layTo bl h lp c B.to:=rfl
theorem layR_le : R ≤ layR bl h lp R:=by unfold layR; split <;> omega
theorem toOf_lay {c : Nat} (hc : c < bl.length) : toOf (layB bl h lp R) c = layTo bl h lp c (toOf bl c):=by
 unfold toOf
 rw [layB_get (get_blkAt hc),get_blkAt hc]
 rfl
theorem toOf_new : toOf (layB bl h lp R) bl.length = [(h : Int)]:=by
 unfold toOf
 rw [layB_new]
 rfl
theorem mem_outQ {a : Nat} : a ∈ outQ bl h lp ↔ a ∈ preds bl h∧(a : Int) ∉ lp:=by unfold outQ; rw [List.mem_filter,decide_eq_true_eq]
theorem mem_inQ {a : Nat} : a ∈ inQ bl h lp ↔ a ∈ preds bl h∧(a : Int) ∈ lp:=by unfold inQ; rw [List.mem_filter,decide_eq_true_eq]
theorem mem_preds {x a : Nat} : a ∈ preds bl x ↔ a < bl.length∧(x : Int) ∈ toOf bl a:=by unfold preds; rw [List.mem_filter,List.mem_range,decide_eq_true_eq]
variable (hg : GoodB bl)
include hg
theorem layTo_mem {c x : Nat} (hx : x < bl.length) : (x : Int) ∈ layTo bl h lp c (toOf bl c) ↔ (x : Int) ∈ toOf bl c∧¬ (x = h∧c ∈ outQ bl h lp):=by
 have _:=hg
 unfold layTo
 split
 ·rename_i hc
  rw [List.mem_map]
  constructor
  ·rintro ⟨t,ht,e⟩
   split at e
   ·omega
   ·rename_i hn
    exact ⟨by rw [← e]; exact ht,fun hh=>hn (by rw [e,hh.1])⟩
  ·rintro ⟨h1,h2⟩
   exact ⟨_,h1,by rw [if_neg (fun e=>h2 ⟨by omega,hc⟩)]⟩
 ·rename_i hc
  exact ⟨fun h1=>⟨h1,fun h2=>hc h2.2⟩,fun h1=>h1.1⟩
theorem layTo_new {c : Nat} (hc : c < bl.length) : ((bl.length : Nat) : Int) ∈ layTo bl h lp c (toOf bl c) ↔ c ∈ outQ bl h lp:=by
 unfold layTo
 split
 ·rename_i hm
  rw [List.mem_map]
  exact ⟨fun _=>hm,fun _=>⟨h,(mem_preds.1 (mem_outQ.1 hm).1).2,if_pos rfl⟩⟩
 ·rename_i hm
  refine ⟨fun h1=>?_,fun h1=>absurd h1 hm⟩
  have:=edge_of hg h1
  omega
theorem preds_lay_same {x : Nat} (hx : x < bl.length) (hne : x ≠ h) : preds (layB bl h lp R) x = preds bl x:=by
 unfold preds
 rw [layB_len,List.range_succ,List.filter_append]
 have h1 : ([bl.length] : List Nat).filter (fun q=>decide ((x : Int) ∈ toOf (layB bl h lp R) q)) = []:=by
  rw [List.filter_cons_of_neg (by rw [toOf_new]; simp; omega)]
  rfl
 rw [h1,List.append_nil]
 refine List.filter_congr fun q hq=>?_
 have hql:=List.mem_range.1 hq
 rw [toOf_lay hql,decide_eq_decide,layTo_mem hg hx]
 exact ⟨fun h=>h.1,fun h=>⟨h,fun h2=>hne h2.1⟩⟩
theorem preds_lay_head (hh : h < bl.length) : preds (layB bl h lp R) h = inQ bl h lp++[bl.length]:=by
 unfold preds inQ
 rw [layB_len,List.range_succ,List.filter_append]
 have h1 : ([bl.length] : List Nat).filter (fun q=>decide ((h : Int) ∈ toOf (layB bl h lp R) q)) = [bl.length]:=by
  rw [List.filter_cons_of_pos (by rw [toOf_new]; simp)]
  rfl
 rw [h1]
 congr 1
 unfold preds
 rw [List.filter_filter]
 refine List.filter_congr fun q hq=>?_
 have hql:=List.mem_range.1 hq
 rw [toOf_lay hql,← Bool.decide_and,decide_eq_decide,layTo_mem hg hh,mem_outQ,mem_preds]
 constructor
 ·rintro ⟨g1,g2⟩
  exact ⟨Classical.byContradiction fun hn=>g2 ⟨rfl,⟨hql,g1⟩,hn⟩,g1⟩
 ·rintro ⟨g1,g2⟩
  exact ⟨g2,fun g3=>g3.2.2 g1⟩
theorem preds_lay_new (hh : h < bl.length) : preds (layB bl h lp R) bl.length = outQ bl h lp:=by
 have h1 : ([bl.length] : List Nat).filter (fun q=>decide (((bl.length : Nat) : Int) ∈ toOf (layB bl h lp R) q)) = []:=by
  rw [List.filter_cons_of_neg (by rw [toOf_new]; simp; omega)]
  rfl
 unfold preds
 rw [layB_len,List.range_succ,List.filter_append,h1,List.append_nil]
 unfold outQ preds
 rw [List.filter_filter]
 refine List.filter_congr fun q hq=>?_
 have hql:=List.mem_range.1 hq
 rw [toOf_lay hql,← Bool.decide_and,decide_eq_decide,layTo_new hg hql,mem_outQ,mem_preds]
 exact ⟨fun g=>⟨g.2,g.1.2⟩,fun g=>⟨⟨hql,g.2⟩,g.1⟩⟩
theorem lay_good (hh : h < bl.length) : GoodB (layB bl h lp R):=fun C hC=>by
 rw [layB_len]
 unfold layB at hC
 rcases List.mem_append.1 hC with hC|hC
 ·obtain ⟨c,hc⟩:=List.getElem?_of_mem hC
  have hcl : c < bl.length:=by have:=(List.getElem?_eq_some_iff.1 hc).1; rwa [List.length_mapIdx] at this
  rw [List.getElem?_mapIdx,get_blkAt hcl] at hc
  obtain rfl:=Option.some.inj hc
  obtain ⟨g1,g2⟩:=hg _ (List.mem_of_getElem? (get_blkAt hcl))
  rw [layBk_to]
  unfold layTo
  split
  ·refine ⟨by rw [List.length_map]; exact g1,fun t ht=>?_⟩
   obtain ⟨y,hy,rfl⟩:=List.mem_map.1 ht
   have:=g2 y hy
   split <;> omega
  ·exact ⟨g1,fun t ht=>by have:=g2 t ht; omega⟩
 ·rw [List.mem_singleton.1 hC]
  refine ⟨by unfold porchB; simp,fun t ht=>?_⟩
  unfold porchB at ht
  simp only [List.mem_singleton] at ht
  omega
end
theorem ValOk.mono {R R' : Nat} (h : R ≤ R') {v : LVal} (hv : ValOk R v) : ValOk R' v:=fun hr=>by
 have:=hv hr
 omega
theorem InsOk.mono {R R' : Nat} (h : R ≤ R') {x : LIns} (hx : InsOk R x) : InsOk R' x:=⟨hx.op,hx.args,fun hd=>by have:=hx.dst hd; omega,fun v hv=>(hx.vals v hv).mono h⟩
theorem lay_funcOk {bl : List LBlock} {h : Nat} {lp : List Int} {R : Nat} (hf : FuncOk R bl) (hh : h < bl.length) (ho : outQ bl h lp ≠ []) : FuncOk (layR bl h lp R) (layB bl h lp R):=by
 have hg:=hf.good
 have hle : R ≤ layR bl h lp R:=layR_le
 have hH:=hf.block h _ (get_blkAt hh)
 have hv : ∀ p ∈ (blkAt bl h).phis,∀ q ∈ preds bl h,ValOk (layR bl h lp R) (srcAt bl h p q):=fun p hp q hq=>((hH.phis p hp).vals _ (srcAt_mem (R:=R) (hH.phis p hp).len hq)).mono hle
 have hR2 : 1 < (outQ bl h lp).length→layR bl h lp R = R + (blkAt bl h).phis.length:=fun h1=>by unfold layR; rw [if_pos h1]
 refine ⟨lay_good hg hh,fun c C hc=>?_⟩
 by_cases hcl : c < bl.length
 ·rw [layB_get (get_blkAt hcl)] at hc
  obtain rfl:=Option.some.inj hc
  have hB:=hf.block c _ (get_blkAt hcl)
  have hto : (layBk bl h lp R c (blkAt bl c)).to.Nodup:=by
   rw [layBk_to]
   unfold layTo
   split
   ·refine nodup_mapOn hB.to fun x hx y hy e=>?_
    have h1:=(hg _ (List.mem_of_getElem? (get_blkAt hcl))).2 x hx
    have h2:=(hg _ (List.mem_of_getElem? (get_blkAt hcl))).2 y hy
    split at e
    ·split at e
     ·omega
     ·omega
    ·split at e
     ·omega
     ·exact e
   ·exact hB.to
  have hl : (layBk bl h lp R c (blkAt bl c)).list = (blkAt bl c).list:=by unfold layBk; split <;> rfl
  have hon : (layBk bl h lp R c (blkAt bl c)).on = (blkAt bl c).on:=by unfold layBk; split <;> rfl
  refine ⟨fun p hp=>?_,fun x hx=>(hB.list x (by rw [← hl]; exact hx)).mono hle,by rw [hon]; exact hB.on.mono hle,hto⟩
  by_cases e : c = h
  ·subst e
   rw [preds_lay_head hg hh,List.length_append,List.length_singleton]
   unfold layBk at hp
   rw [if_pos rfl] at hp
   simp only at hp
   obtain ⟨i,hi⟩:=List.getElem?_of_mem hp
   rw [List.getElem?_mapIdx] at hi
   obtain ⟨q,hq,rfl⟩:=Option.map_eq_some_iff.1 hi
   have hqm:=List.mem_of_getElem? hq
   have hil:=(List.getElem?_eq_some_iff.1 hq).1
   have hpo:=hB.phis q hqm
   refine ⟨by unfold layPh; simp only; have:=hpo.dst; omega,by unfold layPh; simp,fun v hvm=>?_⟩
   unfold layPh at hvm
   simp only at hvm
   rcases List.mem_append.1 hvm with hvm|hvm
   ·obtain ⟨y,hy,rfl⟩:=List.mem_map.1 hvm
    exact hv q hqm y (mem_inQ.1 hy).1
   ·rw [List.mem_singleton.1 hvm]
    unfold layV
    split
    ·rename_i h1
     intro _
     rw [hR2 h1]
     simp only
     omega
    ·refine hv q hqm _ ((mem_outQ (lp:=lp)).1 ?_).1
     rw [List.getD_eq_getElem?_getD,List.getElem?_eq_getElem (List.length_pos_iff.2 ho),Option.getD_some]
     exact List.getElem_mem _
  ·rw [preds_lay_same hg hcl e]
   unfold layBk at hp
   rw [if_neg e] at hp
   have hpo:=hB.phis p hp
   exact ⟨by have:=hpo.dst; omega,hpo.len,fun v hv=>(hpo.vals v hv).mono hle⟩
 ·have hcn : c = bl.length:=by
   have:=(List.getElem?_eq_some_iff.1 hc).1
   rw [layB_len] at this
   omega
  subst hcn
  rw [layB_new] at hc
  obtain rfl:=Option.some.inj hc
  refine ⟨fun p hp=>?_,fun x hx=>(by unfold porchB at hx; cases hx),(by unfold porchB ValOk noV; simp),(by unfold porchB; simp)⟩
  rw [preds_lay_new hg hh]
  unfold porchB porchPs at hp
  simp only at hp
  split at hp
  ·rename_i h1
   obtain ⟨i,hi⟩:=List.getElem?_of_mem hp
   rw [List.getElem?_mapIdx] at hi
   obtain ⟨q,hq,rfl⟩:=Option.map_eq_some_iff.1 hi
   have hqm:=List.mem_of_getElem? hq
   have hil:=(List.getElem?_eq_some_iff.1 hq).1
   refine ⟨by rw [hR2 h1]; simp only; omega,by simp,fun v hvm=>?_⟩
   obtain ⟨y,hy,rfl⟩:=List.mem_map.1 hvm
   exact hv q hqm y (mem_outQ.1 hy).1
  ·cases hp
theorem out_some {bl : List LBlock} (hg : GoodB bl) (hp : PosOk bl) {h : Nat} {lp : List Int} (hlp : ∀ x : Nat,(x : Int) ∈ lp→InLoop bl h x) (hne : ∃ x : Nat,(x : Int) ∈ lp) : h < bl.length∧outQ bl h lp ≠ []:=by
 obtain ⟨x,hx⟩:=hne
 have hin:=hlp x hx
 have hd:=hin.dom
 obtain ⟨t,⟨hb,_⟩,_⟩:=hin
 have hed : Edge bl t h:=hb.2.1
 have hh0 : h ≠ 0:=fun e=>by
  have:=hp t (h : Int) hed
  omega
 have hlt:=(edge_of hg hed).2.1
 refine ⟨by omega,?_⟩
 obtain ⟨a,h1,h3⟩:=hd.1.first (fun e=>hh0 e.symm)
 have h2 : (a : Int) ≠ h:=h1.ends (by omega)
 refine List.ne_nil_of_mem (mem_outQ.2 ⟨mem_preds.2 ⟨(edge_of hg h3).2.2,h3⟩,fun ha=>?_⟩)
 have hd2:=(hlp a ha).dom
 rcases hd2.2.2 with e|e|e
 ·omega
 ·exact hh0 e
 ·exact e h1
def porchOk (bl : List LBlock) (h : Nat) (lp : List Int) : Bool:=decide ((outQ bl h lp).length = 1) && decide ((blkAt bl ((outQ bl h lp).getD 0 0)).kind = 2)
def layAt (lps : List (List Int)) (s : List LBlock × Nat) (h : Nat) : List LBlock × Nat :=
 if 0 < (lps.getD h []).length∧porchOk s.1 h (lps.getD h []) = false then (layB s.1 h (lps.getD h []) s.2,layR s.1 h (lps.getD h []) s.2) else s
def laysTo (lps : List (List Int)) (s : List LBlock × Nat) (i : Nat) : List LBlock × Nat:=(List.range i).foldl (layAt lps) s
theorem laysTo_succ (lps : List (List Int)) (s : List LBlock × Nat) (i : Nat) : laysTo lps s (i + 1) = layAt lps (laysTo lps s i) i:=by unfold laysTo; rw [List.range_succ,List.foldl_append]; rfl
structure LaySt (bl : List LBlock) (R i : Nat) (s : List LBlock × Nat) : Prop where
 ok : FuncOk s.2 s.1
 len : bl.length ≤ s.1.length∧s.1.length ≤ bl.length + i
 regs : R ≤ s.2∧s.2 ≤ R + manyL (bl.take i)
 phl : ∀ x,x < bl.length→(blkAt s.1 x).phis.length = (blkAt bl x).phis.length
 pre : ∀ x,i ≤ x→x < bl.length→preds s.1 x = preds bl x
theorem outQ_congr {bl bl' : List LBlock} {h : Nat} {lp : List Int} (hp : preds bl' h = preds bl h) : outQ bl' h lp = outQ bl h lp:=by unfold outQ; rw [hp]
theorem LaySt.step {bl : List LBlock} {R i : Nat} {s : List LBlock × Nat} {lps : List (List Int)} (h : LaySt bl R i s) (hi : i < bl.length) (ho : 0 < (lps.getD i []).length→outQ bl i (lps.getD i []) ≠ []) : LaySt bl R (i + 1) (layAt lps s i):=by
 have hm:=many_take (get_blkAt hi)
 unfold layAt
 split
 ·rename_i hc
  have hil : i < s.1.length:=by have:=h.len; omega
  have hg:=h.ok.good
  have hoe:=ho hc.1
  rw [← outQ_congr (h.pre i (Nat.le_refl _) hi)] at hoe
  refine ⟨lay_funcOk h.ok hil hoe,by simp only; rw [layB_len]; have:=h.len; omega,?_,fun x hx=>?_,fun x h1 h2=>?_⟩
  ·simp only
   have h3:=layR_le (bl:=s.1) (h:=i) (lp:=lps.getD i []) (R:=s.2)
   have h4:=h.regs
   have h5:=h.phl i hi
   refine ⟨by omega,?_⟩
   unfold layR
   split <;> omega
  ·simp only
   have hxs : x < s.1.length:=by have:=h.len; omega
   rw [blkAt_get (layB_get (get_blkAt hxs)),← h.phl x hx]
   unfold layBk
   split
   ·simp
   ·rfl
  ·simp only
   rw [preds_lay_same hg (by have:=h.len; omega) (by omega)]
   exact h.pre x (by omega) h2
 ·exact ⟨h.ok,by have:=h.len; omega,by have:=h.regs; omega,h.phl,fun x h1 h2=>h.pre x (by omega) h2⟩
def pickV (m : Int→Bool) (row : List Int) (ls : List LVal) : List LVal:=((row.zip ls).filter fun q=>m q.1).map (·.2)
theorem pickV_succ {m : Int→Bool} {row : List Int} {ls : List LVal} {j : Nat} {x : Int} {v : LVal} (hx : row[j]? = some x) (hv : ls[j]? = some v) : pickV m (row.take (j + 1)) ls = pickV m (row.take j) ls++if m x then [v] else []:=by
 unfold pickV
 have hj:=(List.getElem?_eq_some_iff.1 hx).1
 have h1 : (row.take (j + 1)).zip ls = (row.take j).zip ls++[(x,v)]:=by
  have h2 : ∀ (r : List Int) (l : List LVal) (k : Nat),(r.take k).zip l = (r.zip l).take k:=by
   intro r
   induction r with
   | nil=>intro l k; simp
   | cons y r ih =>
    intro l k
    cases l with
    | nil=>simp
    | cons z l =>
     cases k with
     | zero=>simp
     | succ k=>simp [ih]
  have h3 : (row.zip ls)[j]? = some (x,v):=List.getElem?_zip_eq_some.2 ⟨hx,hv⟩
  rw [h2,h2,List.take_add_one,h3]
  rfl
 rw [h1,List.filter_append,List.map_append]
 congr 1
 by_cases e : m x = true
 ·rw [List.filter_cons_of_pos (by simpa using e),if_pos e]; rfl
 ·rw [List.filter_cons_of_neg (by simpa using e),if_neg e]; rfl
theorem pickV_all (m : Int→Bool) (g : Nat→LVal) : ∀ (l : List Nat),pickV m (l.map fun x : Nat=>(x : Int)) (l.map g) = (l.filter fun a : Nat=>m a).map g
 | []=>rfl
 | a::l=>by
  have h:=pickV_all m g l
  unfold pickV at h ⊢
  rw [List.map_cons,List.map_cons,List.zip_cons_cons]
  by_cases e : m (a : Int) = true
  ·rw [List.filter_cons_of_pos (by simpa using e),List.filter_cons_of_pos (by simpa using e),List.map_cons,List.map_cons,h]
  ·rw [List.filter_cons_of_neg (by simpa using e),List.filter_cons_of_neg (by simpa using e),h]
theorem src_map {bl : List LBlock} {t : Nat} {p : LPhi} (h : p.src.length = (preds bl t).length) : (preds bl t).map (srcAt bl t p) = p.src:=by
 apply List.ext_getElem?
 intro i
 by_cases hi : i < (preds bl t).length
 ·rw [List.getElem?_map,List.getElem?_eq_getElem hi,Option.map_some,List.getElem?_eq_getElem (by omega : i < p.src.length)]
  unfold srcAt
  rw [(preds_nodup bl t).idxOf_getElem i hi,List.getD_eq_getElem?_getD,List.getElem?_eq_getElem (by omega),Option.getD_some]
 ·rw [List.getElem?_eq_none (by simp; omega),List.getElem?_eq_none (by omega)]
theorem pickV_in {bl : List LBlock} {t : Nat} {lp : List Int} {p : LPhi} (h : p.src.length = (preds bl t).length) : pickV (fun x=>decide (x ∈ lp)) ((preds bl t).map fun x : Nat=>(x : Int)) p.src = (inQ bl t lp).map (srcAt bl t p):=by
 conv=>lhs; rw [← src_map h]
 exact pickV_all _ _ _
theorem pickV_out {bl : List LBlock} {t : Nat} {lp : List Int} {p : LPhi} (h : p.src.length = (preds bl t).length) : pickV (fun x=>decide (x ∉ lp)) ((preds bl t).map fun x : Nat=>(x : Int)) p.src = (outQ bl t lp).map (srcAt bl t p):=by
 conv=>lhs; rw [← src_map h]
 exact pickV_all _ _ _
theorem pickV_le (m : Int→Bool) (row : List Int) (ls : List LVal) : (pickV m row ls).length ≤ row.length:=by
 unfold pickV
 rw [List.length_map]
 refine Nat.le_trans (List.length_filter_le _ _) ?_
 rw [List.length_zip]
 omega
theorem pickV_mem {m : Int→Bool} {row : List Int} {ls : List LVal} {v : LVal} (h : v ∈ pickV m row ls) : v ∈ ls:=by
 unfold pickV at h
 obtain ⟨q,hq,rfl⟩:=List.mem_map.1 h
 exact (List.of_mem_zip (List.mem_filter.1 hq).1).2
section
variable (bl : List LBlock) (h : Nat) (lp : List Int) (R : Nat)
def porchTo (i : Nat) : List LPhi:=(porchPs bl h lp R).take i
def regTo (i : Nat) : Nat:=if 1 < (outQ bl h lp).length then R + i else R
def phisTo (i : Nat) : List LPhi:=((blkAt bl h).phis.take i).mapIdx (layPh bl h lp R)
def turnTo (n : Nat) (D : List Nat) (c : Nat) (to : List Int) : List Int:=if c ∈ D then to.map (fun t=>if t = (h : Int) then (n : Int) else t) else to
end
theorem mapIdx_take_succ {α β : Type} (f : Nat→α→β) (l : List α) {i : Nat} {x : α} (h : l[i]? = some x) : (l.take (i + 1)).mapIdx f = (l.take i).mapIdx f++[f i x]:=by
 have hi:=(List.getElem?_eq_some_iff.1 h).1
 rw [List.take_add_one,h,List.mapIdx_append]
 have : (l.take i).length = i:=by rw [List.length_take]; omega
 rw [this]
 simp
section
variable {bl : List LBlock} {h : Nat} {lp : List Int} {R : Nat}
theorem porchTo_zero : porchTo bl h lp R 0 = []:=by unfold porchTo; simp
theorem porchTo_succ {i : Nat} {p : LPhi} (hp : (blkAt bl h).phis[i]? = some p) : porchTo bl h lp R (i + 1) = porchTo bl h lp R i++if 1 < (outQ bl h lp).length then [⟨((R + i : Nat) : Int),(outQ bl h lp).map (srcAt bl h p)⟩] else []:=by
 unfold porchTo porchPs
 split
 ·rw [List.take_add_one,List.getElem?_mapIdx,hp]
  rfl
 ·simp
theorem porchTo_len {i : Nat} (hi : i ≤ (blkAt bl h).phis.length) : (porchTo bl h lp R i).length = if 1 < (outQ bl h lp).length then i else 0:=by
 unfold porchTo porchPs
 split
 ·rw [List.length_take,List.length_mapIdx]; omega
 ·simp
theorem porchTo_all : porchTo bl h lp R (blkAt bl h).phis.length = porchPs bl h lp R:=by
 unfold porchTo
 refine List.take_of_length_le ?_
 unfold porchPs
 split
 ·rw [List.length_mapIdx]; exact Nat.le_refl _
 ·simp
theorem regTo_zero : regTo bl h lp R 0 = R:=by unfold regTo; split <;> omega
theorem regTo_all : regTo bl h lp R (blkAt bl h).phis.length = layR bl h lp R:=rfl
theorem phisTo_succ {i : Nat} {p : LPhi} (hp : (blkAt bl h).phis[i]? = some p) : phisTo bl h lp R (i + 1) = phisTo bl h lp R i++[layPh bl h lp R i p]:=mapIdx_take_succ _ _ hp
theorem phisTo_all : phisTo bl h lp R (blkAt bl h).phis.length = (blkAt bl h).phis.mapIdx (layPh bl h lp R):=by unfold phisTo; rw [List.take_length]
end
theorem turnTo_nil (h n c : Nat) (to : List Int) : turnTo h n [] c to = to:=by unfold turnTo; rw [if_neg (by simp)]
theorem set_turn {h : Int} {n : Int} : ∀ {to : List Int},to.Nodup→h ∈ to→to.set (to.idxOf h) n = to.map fun t=>if t = h then n else t
 | [],_,hm=>by simp at hm
 | t::l,hn,hm=>by
  have hn2:=List.nodup_cons.1 hn
  by_cases e : t = h
  ·subst e
   rw [List.idxOf_cons_self,List.set_cons_zero,List.map_cons,if_pos rfl]
   congr 1
   conv=>lhs; rw [← List.map_id l]
   refine List.map_congr_left fun x hx=>?_
   rw [if_neg (fun e2 : x = t=>hn2.1 (by rw [← e2]; exact hx))]
   rfl
  ·have e3 : (t::l).idxOf h = l.idxOf h + 1:=by rw [List.idxOf_cons,beq_false_of_ne e]; rfl
   rw [e3,List.set_cons_succ,List.map_cons,if_neg e,set_turn hn2.2 ((List.mem_cons.1 hm).resolve_left fun e2=>e e2.symm)]
theorem turnTo_add {h n : Nat} {D : List Nat} {a c : Nat} {to : List Int} (ha : a ∉ D) : turnTo h n (D++[a]) c to = if c = a then to.map (fun t=>if t = (h : Int) then (n : Int) else t) else turnTo h n D c to:=by
 unfold turnTo
 by_cases e : c = a
 ·subst e
  rw [if_pos (by simp),if_pos rfl]
 ·rw [if_neg e]
  have : (c ∈ D++[a]) ↔ c ∈ D:=by simp [e]
  by_cases hc : c ∈ D
  ·rw [if_pos (this.2 hc),if_pos hc]
  ·rw [if_neg (fun h=>hc (this.1 h)),if_neg hc]
def bkTo (bl : List LBlock) (h : Nat) (lp : List Int) (R : Nat) (D : List Nat) : List LBlock:=bl.mapIdx fun c B=>{ (if c = h then { B with phis:=B.phis.mapIdx (layPh bl h lp R) } else B) with to:=turnTo h bl.length D c B.to }
def outTo (bl : List LBlock) (h : Nat) (lp : List Int) (j : Nat) : List Nat:=((preds bl h).take j).filter fun a : Nat=>decide ((a : Int) ∉ lp)
section
variable {bl : List LBlock} {h : Nat} {lp : List Int} {R : Nat}
theorem bkTo_len (D : List Nat) : (bkTo bl h lp R D).length = bl.length:=by unfold bkTo; rw [List.length_mapIdx]
theorem bkTo_nil {B : LBlock} (hB : bl[h]? = some B) : bkTo bl h lp R [] = bl.set h { B with phis:=B.phis.mapIdx (layPh bl h lp R) }:=by
 unfold bkTo
 apply List.ext_getElem?
 intro c
 rw [List.getElem?_mapIdx,List.getElem?_set]
 by_cases e : h = c
 ·subst e
  rw [if_pos rfl,if_pos (List.getElem?_eq_some_iff.1 hB).1,hB]
  simp only [Option.map_some,if_true]
  rw [turnTo_nil]
 ·rw [if_neg e]
  cases bl[c]? with
  | none=>rfl
  | some B =>
   simp only [Option.map_some]
   rw [if_neg (fun h=>e h.symm),turnTo_nil]
theorem bkTo_all : bkTo bl h lp R (outQ bl h lp)++[porchB bl h lp R] = layB bl h lp R:=rfl
theorem bkTo_add {D : List Nat} {a : Nat} {C : LBlock} (ha : a ∉ D) (hC : (bkTo bl h lp R D)[a]? = some C) : (bkTo bl h lp R D).set a { C with to:=C.to.map fun t=>if t = (h : Int) then (bl.length : Int) else t } = bkTo bl h lp R (D++[a]):=by
 apply List.ext_getElem?
 intro c
 have hal:=(List.getElem?_eq_some_iff.1 hC).1
 rw [List.getElem?_set]
 unfold bkTo at hC hal ⊢
 rw [List.length_mapIdx] at hal
 rw [List.length_mapIdx,List.getElem?_mapIdx,List.getElem?_mapIdx]
 by_cases e : a = c
 ·subst e
  rw [if_pos rfl,if_pos hal]
  rw [List.getElem?_mapIdx] at hC
  obtain ⟨B,hB,rfl⟩:=Option.map_eq_some_iff.1 hC
  rw [hB]
  simp only [Option.map_some]
  rw [turnTo_add ha,if_pos rfl]
  have : turnTo h bl.length D a B.to = B.to:=by unfold turnTo; rw [if_neg ha]
  rw [this]
 ·rw [if_neg e]
  cases bl[c]? with
  | none=>rfl
  | some B =>
   simp only [Option.map_some]
   have h2:=turnTo_add (h:=h) (n:=bl.length) (c:=c) (to:=B.to) ha
   rw [if_neg (fun h=>e h.symm)] at h2
   rw [h2]
theorem bkTo_to {D : List Nat} {a : Nat} (hal : a < bl.length) : toOf (bkTo bl h lp R D) a = turnTo h bl.length D a (toOf bl a):=by
 unfold toOf bkTo
 rw [List.getElem?_mapIdx,List.getElem?_eq_getElem hal]
 rfl
theorem outTo_succ {j a : Nat} (ha : (preds bl h)[j]? = some a) : outTo bl h lp (j + 1) = outTo bl h lp j++if (a : Int) ∈ lp then [] else [a]:=by
 unfold outTo
 rw [List.take_add_one,ha,List.filter_append]
 congr 1
 by_cases e : (a : Int) ∈ lp
 ·rw [if_pos e,Option.toList_some,List.filter_cons_of_neg (by simpa using e)]; rfl
 ·rw [if_neg e,Option.toList_some,List.filter_cons_of_pos (by simpa using e)]; rfl
theorem outTo_all : outTo bl h lp (preds bl h).length = outQ bl h lp:=by unfold outTo outQ; rw [List.take_length]
theorem outTo_not {j a : Nat} (ha : (preds bl h)[j]? = some a) : a ∉ outTo bl h lp j:=fun hm=>by
 have h1:=(List.mem_filter.1 hm).1
 have hj:=(List.getElem?_eq_some_iff.1 ha).1
 have hn:=preds_nodup bl h
 rw [← List.take_append_drop j (preds bl h),List.drop_eq_getElem_cons hj,(List.getElem?_eq_some_iff.1 ha).2] at hn
 exact (List.nodup_append.1 hn).2.2 a h1 a (by simp) rfl
end
theorem dom_rk {bl : List LBlock} (hok : GoodB bl) (h0 : 0 < bl.length) {a : Nat} : ∀ (k b : Nat),rk (orderL bl) b ≤ k→Dom bl a b→rk (orderL bl) a ≤ rk (orderL bl) b:=by
 have ho:=orderL_ord hok h0
 intro k
 induction k with
 | zero =>
  intro b hb hd
  have hbm:=(ho.mem b).2 hd.2.1
  have e : b = 0:=rk_inj hbm (List.mem_of_getElem? ho.zero) (by rw [rk_zero ho]; omega)
  subst e
  rw [dom_zero hd]
  exact Nat.le_refl _
 | succ k ih =>
  intro b hb hd
  by_cases e : a = b
  ·subst e; exact Nat.le_refl _
  by_cases e0 : b = 0
  ·subst e0; rw [dom_zero hd]; exact Nat.le_refl _
  have hbm:=(ho.mem b).2 hd.2.1
  obtain ⟨j,p,hj,hp,he⟩:=ho.ahead _ b (get_rk hbm) e0
  have hpr:=rk_get ho.nodup hp
  have h1:=ih p (by omega) (hd.edge e he ((ho.mem p).1 (List.mem_of_getElem? hp)))
  omega
theorem tail_iff {bl : List LBlock} (hok : GoodB bl) (h0 : 0 < bl.length) {h t : Nat} : Tail bl h t ↔ Edge bl t h∧Dom bl h t :=
 ⟨fun ⟨h1,h2⟩=>⟨h1.2.1,h2⟩,fun ⟨h1,h2⟩=>⟨⟨h2.2.1,h1,dom_rk hok h0 _ t (Nat.le_refl _) h2⟩,h2⟩⟩
theorem tail_in {bl : List LBlock} {h t : Nat} (ht : Tail bl h t) : InLoop bl h t:=by
 by_cases e : t = h
 ·exact ⟨t,ht,.inl e⟩
 ·exact ⟨t,ht,.inr ⟨e,ht.1.1,.refl⟩⟩
section
variable {bl : List LBlock} {h : Nat} {lp : List Int} {R : Nat} (hg : GoodB bl) (hh : h < bl.length)
include hg
theorem edge_lay {a b : Nat} (ha : a < bl.length) (hb : b < bl.length) : Edge (layB bl h lp R) a b ↔ Edge bl a b∧¬ (b = h∧a ∈ outQ bl h lp):=by
 unfold Edge
 rw [toOf_lay ha,layTo_mem hg hb]
theorem edge_layN {a : Nat} (ha : a < bl.length) : Edge (layB bl h lp R) a bl.length ↔ a ∈ outQ bl h lp:=by
 unfold Edge
 rw [toOf_lay ha,layTo_new hg ha]
theorem edge_layO {b : Nat} : Edge (layB bl h lp R) bl.length b ↔ b = h:=by
 have _:=hg
 unfold Edge
 rw [toOf_new]
 simp
 omega
theorem out_edge {a : Nat} (ha : a ∈ outQ bl h lp) : Edge bl a h∧a < bl.length:=by
 have _:=hg
 have:=mem_preds.1 (mem_outQ.1 ha).1
 exact ⟨this.2,this.1⟩
include hh
theorem rch_layB {wo : Int} {a y : Nat} (ha : a < bl.length) (hr : Rch (layB bl h lp R) wo a y) : (y < bl.length∧Rch bl wo a y) ∨ (y = bl.length∧∃ p ∈ outQ bl h lp,Rch bl wo a p):=by
 have hgl : GoodB (layB bl h lp R):=lay_good hg hh
 induction hr with
 | refl=>exact .inl ⟨ha,.refl⟩
 | @step y z hy he hw ih =>
  have hzl:=hgl.edge he
  rw [layB_len] at hzl
  rcases ih with ⟨h1,h2⟩|⟨rfl,p,hp,h2⟩
  ·by_cases ez : z = bl.length
   ·subst ez
    exact .inr ⟨rfl,y,(edge_layN hg h1).1 he,h2⟩
   ·have hz : z < bl.length:=by omega
    exact .inl ⟨hz,h2.step ((edge_lay hg h1 hz).1 he).1 hw⟩
  ·have e:=(edge_layO hg).1 he
   subst e
   exact .inl ⟨hh,h2.step (out_edge hg hp).1 hw⟩
theorem rch_layF {wo : Int} (hwo : wo ≠ bl.length) {a y : Nat} (ha : a < bl.length) (hr : Rch bl wo a y) : Rch (layB bl h lp R) wo a y:=by
 induction hr with
 | refl=>exact .refl
 | @step y z hy he hw ih =>
  have hyl:=(edge_of hg he).2.2
  have hzl : z < bl.length:=hg.edge he
  by_cases e : z = h∧y ∈ outQ bl h lp
  ·obtain ⟨rfl,ho⟩:=e
   exact (ih.step ((edge_layN hg hyl).2 ho) (fun e=>hwo e.symm)).step ((edge_layO hg).2 rfl) hw
  ·exact ih.step ((edge_lay hg hyl hzl).2 ⟨he,e⟩) hw
theorem rch_lay {wo : Int} (hwo : wo ≠ bl.length) {a y : Nat} (ha : a < bl.length) (hy : y < bl.length) : Rch (layB bl h lp R) wo a y ↔ Rch bl wo a y :=
 ⟨fun hr=>by
  rcases rch_layB hg hh ha hr with h1|h1
  ·exact h1.2
  ·omega,rch_layF hg hh hwo ha⟩
theorem dom_lay {a b : Nat} (ha : a < bl.length) (hb : b < bl.length) : Dom (layB bl h lp R) a b ↔ Dom bl a b:=by
 unfold Dom
 rw [rch_lay hg hh (by omega) (by omega) ha,rch_lay hg hh (by omega) (by omega) hb,rch_lay hg hh (by omega) (by omega) hb]
variable (hlp : ∀ c ∈ preds bl h,(c : Int) ∈ lp ↔ InLoop bl h c)
include hlp
theorem out_tail {t : Nat} (ht : t ∈ outQ bl h lp) (hd : Dom bl h t) : False:=by
 have h1:=mem_outQ.1 ht
 refine h1.2 ((hlp t h1.1).2 (tail_in ((tail_iff hg (by omega)).2 ⟨(out_edge hg ht).1,hd⟩)))
theorem dom_porch (hd : Dom (layB bl h lp R) h bl.length) : False:=by
 rcases rch_layB hg hh (by omega) hd.2.1 with h1|⟨_,p,hp,h2⟩
 ·omega
 ·have hpl:=(out_edge hg hp).2
  have h3:=Dom.edge hd (by omega) ((edge_layN hg hpl).2 hp) ((rch_lay hg hh (by omega) (by omega) hpl).2 h2)
  exact out_tail hg hh hlp hp ((dom_lay hg hh hh hpl).1 h3)
theorem tail_lay {g t : Nat} (hgl : g < bl.length) (ht : Tail (layB bl h lp R) g t) : t < bl.length∧Tail bl g t:=by
 have hgd : GoodB (layB bl h lp R):=lay_good hg hh
 obtain ⟨h1,h2⟩:=(tail_iff hgd (by rw [layB_len]; omega)).1 ht
 have htl:=(edge_of hgd h1).2.2
 rw [layB_len] at htl
 by_cases e : t = bl.length
 ·subst e
  obtain rfl:=(edge_layO hg).1 h1
  exact (dom_porch hg hh hlp h2).elim
 ·have htl : t < bl.length:=by omega
  exact ⟨htl,(tail_iff hg (by omega)).2 ⟨((edge_lay hg htl hgl).1 h1).1,(dom_lay hg hh hgl htl).1 h2⟩⟩
theorem tail_layF {g t : Nat} (ht : Tail bl g t) : Tail (layB bl h lp R) g t:=by
 obtain ⟨h1,h2⟩:=(tail_iff hg (by omega)).1 ht
 have hgd : GoodB (layB bl h lp R):=lay_good hg hh
 have htl:=(edge_of hg h1).2.2
 have hgl : g < bl.length:=hg.edge h1
 refine (tail_iff hgd (by rw [layB_len]; omega)).2 ⟨(edge_lay hg htl hgl).2 ⟨h1,fun ⟨e,ho⟩=>?_⟩,(dom_lay hg hh hgl htl).2 h2⟩
 subst e
 exact out_tail hg hh hlp ho h2
theorem inLoop_lay {g x : Nat} (hgl : g < bl.length) (hxl : x < bl.length) : InLoop (layB bl h lp R) g x ↔ InLoop bl g x:=by
 constructor
 ·rintro ⟨t,ht,k⟩
  obtain ⟨htl,ht2⟩:=tail_lay hg hh hlp hgl ht
  refine ⟨t,ht2,k.imp id fun ⟨h1,h2,h3⟩=>⟨h1,(rch_lay hg hh (by omega) (by omega) hxl).1 h2,(rch_lay hg hh (by omega) hxl htl).1 h3⟩⟩
 ·rintro ⟨t,ht,k⟩
  have htl:=(edge_of hg ht.1.2.1).2.2
  exact ⟨t,tail_layF hg hh hlp ht,k.imp id fun ⟨h1,h2,h3⟩=>⟨h1,(rch_lay hg hh (by omega) (by omega) hxl).2 h2,(rch_lay hg hh (by omega) hxl htl).2 h3⟩⟩
theorem porch_out : ¬ InLoop (layB bl h lp R) h bl.length:=by
 rintro ⟨t,ht,k⟩
 obtain ⟨htl,_⟩:=tail_lay hg hh hlp hh ht
 rcases k with k|⟨_,_,h3⟩
 ·omega
 ·have key : ∀ y,Rch (layB bl h lp R) h bl.length y→y = bl.length:=by
   intro y hy
   induction hy with
   | refl=>rfl
   | @step y z hy he hw ih =>
    subst ih
    have:=(edge_layO hg).1 he
    omega
  have:=key t h3
  omega
theorem porch_head {x : Nat} : ¬ InLoop (layB bl h lp R) bl.length x:=by
 rintro ⟨t,ht,_⟩
 have hgd : GoodB (layB bl h lp R):=lay_good hg hh
 obtain ⟨h1,h2⟩:=(tail_iff hgd (by rw [layB_len]; omega)).1 ht
 have htl:=(edge_of hgd h1).2.2
 rw [layB_len] at htl
 by_cases e : t = bl.length
 ·subst e
  have:=(edge_layO hg).1 h1
  omega
 have htl : t < bl.length:=by omega
 have hto:=(edge_layN hg htl).1 h1
 have htr:=(rch_lay hg hh (by omega) (by omega) htl).1 h2.2.1
 refine out_tail hg hh hlp hto ⟨htr.step (out_edge hg hto).1 (by omega),htr,?_⟩
 refine .inr (.inr fun hr=>?_)
 have key : ∀ y,Rch bl h 0 y→Rch (layB bl h lp R) bl.length 0 y:=by
  intro y hy
  induction hy with
  | refl=>exact .refl
  | @step y z hy he hw ih =>
   have hzl : z < bl.length:=hg.edge he
   exact ih.step ((edge_lay hg (edge_of hg he).2.2 hzl).2 ⟨he,fun e=>hw (by omega)⟩) (by omega)
 rcases h2.2.2 with e|e|e
 ·omega
 ·omega
 ·exact e (key t hr)
end
structure IsLoops (bl : List LBlock) (lps : List (List Int)) : Prop where
 mem : ∀ h x : Nat,h < bl.length→((x : Int) ∈ lps.getD h [] ↔ x < bl.length∧InLoop bl h x)
 nat : ∀ h,∀ y ∈ lps.getD h [],∃ c : Nat,y = c
 none : ∀ h,bl.length ≤ h→lps.getD h [] = []
theorem IsLoops.some {bl : List LBlock} {lps : List (List Int)} (hl : IsLoops bl lps) {h : Nat} (h0 : 0 < (lps.getD h []).length) : h < bl.length∧∃ x : Nat,(x : Int) ∈ lps.getD h []:=by
 refine ⟨Classical.byContradiction fun hn=>?_,?_⟩
 ·rw [hl.none h (by omega)] at h0
  simp at h0
 ·obtain ⟨y,hy⟩:=List.exists_mem_of_length_pos h0
  obtain ⟨c,rfl⟩:=hl.nat h y hy
  exact ⟨c,hy⟩
def PorchAt (bl : List LBlock) (h : Nat) : Prop:=∃ p,p ∈ preds bl h∧¬ InLoop bl h p∧(blkAt bl p).kind = 2∧∀ a ∈ preds bl h,¬ InLoop bl h a→a = p
theorem nodup_one {α : Type} {l : List α} {p : α} (hn : l.Nodup) (hp : p ∈ l) (ha : ∀ x ∈ l,x = p) : l = [p]:=by
 cases l with
 | nil=>cases hp
 | cons a l =>
  have e:=ha a (by simp)
  subst e
  cases l with
  | nil=>rfl
  | cons b l =>
   have e2:=ha b (by simp)
   subst e2
   simp at hn
theorem porchAt_ok {bl : List LBlock} {h : Nat} {lp : List Int} (hlp : ∀ c ∈ preds bl h,(c : Int) ∈ lp ↔ InLoop bl h c) (hp : PorchAt bl h) : porchOk bl h lp = true:=by
 obtain ⟨p,h1,h2,h3,h4⟩:=hp
 have e : outQ bl h lp = [p]:=nodup_one ((preds_nodup bl h).filter _) (mem_outQ.2 ⟨h1,fun hm=>h2 ((hlp p h1).1 hm)⟩) fun x hx=>by
  have h5:=mem_outQ.1 hx
  exact h4 x h5.1 fun hi=>h5.2 ((hlp x h5.1).2 hi)
 unfold porchOk
 rw [e]
 simp [h3]
theorem porchOk_at {bl : List LBlock} {h : Nat} {lp : List Int} (hlp : ∀ c ∈ preds bl h,(c : Int) ∈ lp ↔ InLoop bl h c) (hp : porchOk bl h lp = true) : PorchAt bl h:=by
 unfold porchOk at hp
 simp only [Bool.and_eq_true,decide_eq_true_eq] at hp
 obtain ⟨p,e⟩:=List.length_eq_one_iff.1 hp.1
 have hpm : p ∈ outQ bl h lp:=by rw [e]; simp
 have h1:=mem_outQ.1 hpm
 rw [e] at hp
 refine ⟨p,h1.1,fun hi=>h1.2 ((hlp p h1.1).2 hi),hp.2,fun a ha hi=>?_⟩
 have h2 : a ∈ outQ bl h lp:=mem_outQ.2 ⟨ha,fun hm=>hi ((hlp a ha).1 hm)⟩
 rw [e] at h2
 simpa using h2
theorem kind_lay {bl : List LBlock} {h : Nat} {lp : List Int} {R c : Nat} (hc : c < bl.length) : (blkAt (layB bl h lp R) c).kind = (blkAt bl c).kind:=by
 rw [blkAt_get (layB_get (get_blkAt hc))]
 unfold layBk
 split <;> rfl
structure LayLp (bl : List LBlock) (i : Nat) (s : List LBlock × Nat) : Prop where
 old : ∀ g x,g < bl.length→x < bl.length→(InLoop s.1 g x ↔ InLoop bl g x)
 new : ∀ g x,bl.length ≤ g→¬ InLoop s.1 g x
 porch : ∀ h,h < i→InLoop bl h h→PorchAt s.1 h
theorem inLoop_self {bl : List LBlock} {h x : Nat} (hx : InLoop bl h x) : InLoop bl h h:=by
 obtain ⟨t,ht,_⟩:=hx
 exact ⟨t,ht,.inl rfl⟩
theorem LayLp.zero {bl : List LBlock} {R : Nat} (hg : GoodB bl) : LayLp bl 0 (bl,R) :=
 ⟨fun _ _ _ _=>Iff.rfl,fun g x hgl ⟨t,ht,_⟩=>by have:=hg.edge ht.1.2.1; omega,fun h hh=>absurd hh (Nat.not_lt_zero h)⟩
theorem LayLp.step {bl : List LBlock} {R i : Nat} {s : List LBlock × Nat} {lps : List (List Int)} (hl : IsLoops bl lps) (hs : LaySt bl R i s) (h : LayLp bl i s) (hi : i < bl.length) : LayLp bl (i + 1) (layAt lps s i):=by
 have hg:=hs.ok.good
 have hil : i < s.1.length:=by have:=hs.len; omega
 have hpre:=hs.pre i (Nat.le_refl _) hi
 have hpl : ∀ c ∈ preds s.1 i,c < bl.length:=fun c hc=>by rw [hpre] at hc; exact (mem_preds.1 hc).1
 have hlp : ∀ c ∈ preds s.1 i,(c : Int) ∈ lps.getD i [] ↔ InLoop s.1 i c:=fun c hc=>by
  rw [hl.mem i c hi,h.old i c hi (hpl c hc)]
  exact ⟨fun k=>k.2,fun k=>⟨hpl c hc,k⟩⟩
 unfold layAt
 split
 ·rename_i hc
  refine ⟨fun g x h1 h2=>?_,fun g x h1=>?_,fun k h1 h2=>?_⟩
  ·have:=hs.len
   simp only
   rw [inLoop_lay hg hil hlp (by omega) (by omega)]
   exact h.old g x h1 h2
  ·simp only
   intro hx
   have hin:=inLoop_self hx
   have hgl : g < (layB s.1 i (lps.getD i []) s.2).length:=by
    obtain ⟨t,ht,_⟩:=hx
    exact (lay_good hg hil).edge ht.1.2.1
   rw [layB_len] at hgl
   by_cases e : g = s.1.length
   ·subst e
    exact porch_head hg hil hlp hx
   ·exact h.new g g h1 ((inLoop_lay hg hil hlp (by omega) (by omega)).1 hin)
  ·simp only
   by_cases e : k = i
   ·subst e
    refine ⟨s.1.length,by rw [preds_lay_head hg hil]; simp,porch_out hg hil hlp,by rw [blkAt_get layB_new]; rfl,fun a ha hn=>?_⟩
    rw [preds_lay_head hg hil] at ha
    rcases List.mem_append.1 ha with ha|ha
    ·have h3:=mem_inQ.1 ha
     exact absurd ((inLoop_lay hg hil hlp hil (mem_preds.1 h3.1).1).2 ((hlp a h3.1).1 h3.2)) hn
    ·exact List.mem_singleton.1 ha
   ·obtain ⟨p,h3,h4,h5,h6⟩:=h.porch k (by omega) h2
    have hkl : k < s.1.length:=by omega
    have hpp : ∀ a ∈ preds s.1 k,a < s.1.length:=fun a ha=>(mem_preds.1 ha).1
    refine ⟨p,by rw [preds_lay_same hg hkl e]; exact h3,fun hn=>h4 ((inLoop_lay hg hil hlp hkl (hpp p h3)).1 hn),by rw [kind_lay (hpp p h3)]; exact h5,fun a ha hn=>?_⟩
    rw [preds_lay_same hg hkl e] at ha
    exact h6 a ha fun hx=>hn ((inLoop_lay hg hil hlp hkl (hpp a ha)).2 hx)
 ·rename_i hc
  refine ⟨h.old,h.new,fun k h1 h2=>?_⟩
  by_cases e : k = i
  ·subst e
   have h0 : 0 < (lps.getD k []).length:=List.length_pos_of_mem ((hl.mem k k hi).2 ⟨hi,h2⟩)
   refine porchOk_at hlp ?_
   cases e2 : porchOk s.1 k (lps.getD k []) with
   | true=>rfl
   | false=>exact absurd ⟨h0,e2⟩ hc
  ·exact h.porch k (by omega) h2
theorem IsLoops.out {bl : List LBlock} {lps : List (List Int)} (hl : IsLoops bl lps) (hg : GoodB bl) (hp : PosOk bl) {h : Nat} (h0 : 0 < (lps.getD h []).length) : h < bl.length∧outQ bl h (lps.getD h []) ≠ []:=by
 obtain ⟨h1,h2⟩:=hl.some h0
 exact out_some hg hp (fun x hx=>((hl.mem h x h1).1 hx).2) h2
theorem LaySt.zero {bl : List LBlock} {R : Nat} (hf : FuncOk R bl) : LaySt bl R 0 (bl,R):=⟨hf,⟨Nat.le_refl _,Nat.le_refl _⟩,⟨Nat.le_refl _,by simp⟩,fun _ _=>rfl,fun _ _ _=>rfl⟩
theorem lays_st {bl : List LBlock} {lps : List (List Int)} {R : Nat} (hl : IsLoops bl lps) (hf : FuncOk R bl) (hp : PosOk bl) : ∀ i,i ≤ bl.length→LaySt bl R i (laysTo lps (bl,R) i)
 | 0,_=>LaySt.zero hf
 | i + 1,hi=>by
  rw [laysTo_succ]
  exact (lays_st hl hf hp i (by omega)).step (by omega) fun h0=>(hl.out hf.good hp h0).2
theorem lays_lp {bl : List LBlock} {lps : List (List Int)} {R : Nat} (hl : IsLoops bl lps) (hf : FuncOk R bl) (hp : PosOk bl) : ∀ i,i ≤ bl.length→LayLp bl i (laysTo lps (bl,R) i)
 | 0,_=>LayLp.zero hf.good
 | i + 1,hi=>by
  rw [laysTo_succ]
  exact (lays_lp hl hf hp i (by omega)).step hl (lays_st hl hf hp i (by omega)) (by omega)
theorem lays_porch {bl : List LBlock} {lps lps' : List (List Int)} {R : Nat} (hl : IsLoops bl lps) (hf : FuncOk R bl) (hp : PosOk bl) (hl' : IsLoops (laysTo lps (bl,R) bl.length).1 lps') {h : Nat} (h0 : 0 < (lps'.getD h []).length) :
  porchOk (laysTo lps (bl,R) bl.length).1 h (lps'.getD h []) = true:=by
 have hlp:=lays_lp (R:=R) hl hf hp bl.length (Nat.le_refl _)
 obtain ⟨h1,x,hx⟩:=hl'.some h0
 have hin:=inLoop_self ((hl'.mem h x h1).1 hx).2
 have hb : h < bl.length:=Classical.byContradiction fun hn=>hlp.new h h (by omega) hin
 refine porchAt_ok (fun c hc=>?_) (hlp.porch h hb ((hlp.old h h hb hb).1 hin))
 rw [hl'.mem h c h1]
 exact ⟨fun k=>k.2,fun k=>⟨(mem_preds.1 hc).1,k⟩⟩
theorem lays_again {bl : List LBlock} {lps lps' : List (List Int)} {R : Nat} (hl : IsLoops bl lps) (hf : FuncOk R bl) (hp : PosOk bl) (hl' : IsLoops (laysTo lps (bl,R) bl.length).1 lps') : ∀ j,laysTo lps' (laysTo lps (bl,R) bl.length) j = laysTo lps (bl,R) bl.length
 | 0=>rfl
 | j + 1=>by
  rw [laysTo_succ,lays_again hl hf hp hl' j]
  unfold layAt
  refine if_neg fun h=>?_
  have h3:=lays_porch hl hf hp hl' h.1
  rw [h.2] at h3
  cases h3
noncomputable def layN (X : LFunc) (i : Nat) : List LBlock × Nat:=laysTo (loopsL X.blocks) (X.blocks,X.regs.toNat) i
noncomputable def layF (X : LFunc) : LFunc:={ X with blocks:=(layN X X.blocks.length).1,regs:=(((layN X X.blocks.length).2 : Nat) : Int) }
noncomputable def layU (u : LUnit) : LUnit:={ u with funcs:=u.funcs.map layF }
theorem loopsL_is (bl : List LBlock) : IsLoops bl (loopsL bl):=by
 have hd : ∀ h,h < bl.length→(loopsL bl).getD h [] = loopRow bl h:=fun h hh=>by rw [List.getD_eq_getElem?_getD,loopsL_get hh,Option.getD_some]
 have hn : ∀ h,bl.length ≤ h→(loopsL bl).getD h [] = []:=fun h hh=>by rw [List.getD_eq_getElem?_getD,List.getElem?_eq_none (by rw [loopsL_len]; omega)]; rfl
 refine ⟨fun h x hh=>by rw [hd h hh]; exact loopRow_mem,fun h y hy=>?_,hn⟩
 by_cases hh : h < bl.length
 ·rw [hd h hh] at hy
  obtain ⟨c,e,_⟩:=loopRow_lt hy
  exact ⟨c,e⟩
 ·rw [hn h (by omega)] at hy
  cases hy
def PhiAs (bl bl' : List LBlock) (c t b : Nat) : Prop:=∀ (i : Nat) p,(blkAt bl t).phis[i]? = some p→∃ p',(blkAt bl' t).phis[i]? = some p'∧p'.dst = p.dst∧p'.src.getD ((preds bl' t).idxOf b) noV = srcAt bl t p c
structure PhiBy (bl bl' : List LBlock) (R R' : Nat) (ps : List LPhi) (c t m base : Nat) : Prop where
 lo : R ≤ base
 hi : base + (blkAt bl t).phis.length ≤ R'
 len : ps.length = (blkAt bl t).phis.length
 phi : ∀ (i : Nat) p,(blkAt bl t).phis[i]? = some p→∃ p' q,(blkAt bl' t).phis[i]? = some p'∧p'.dst = p.dst∧p'.src.getD ((preds bl' t).idxOf m) noV = ⟨true,((base + i : Nat) : Int)⟩∧ps[i]? = some q∧q.dst = ((base + i : Nat) : Int)∧q.src.getD ((preds bl' m).idxOf c) noV = srcAt bl t p c
def ViaE (bl bl' : List LBlock) (R R' c t m : Nat) : Prop:=bl.length ≤ m∧m < bl'.length∧∃ ps,bl'[m]? = some ⟨ps,[],2,noV,[(t : Int)]⟩∧((ps = []∧PhiAs bl bl' c t m) ∨ ∃ base,PhiBy bl bl' R R' ps c t m base)
structure LaidR (bl : List LBlock) (R i : Nat) (s : List LBlock × Nat) : Prop where
 blk : ∀ (c : Nat) B,bl[c]? = some B→∃ C,s.1[c]? = some C∧C.list = B.list∧C.kind = B.kind∧C.on = B.on∧C.to.length = B.to.length∧C.phis.length = B.phis.length
 edge : ∀ c t j : Nat,c < bl.length→(toOf bl c)[j]? = some (t : Int)→((toOf s.1 c)[j]? = some (t : Int)∧PhiAs bl s.1 c t c) ∨ ∃ m : Nat,(toOf s.1 c)[j]? = some (m : Int)∧ViaE bl s.1 R s.2 c t m
 late : ∀ c t j : Nat,c < bl.length→i ≤ t→(toOf bl c)[j]? = some (t : Int)→(toOf s.1 c)[j]? = some (t : Int)
 phis : ∀ t,i ≤ t→t < bl.length→(blkAt s.1 t).phis = (blkAt bl t).phis
theorem LaidR.zero (bl : List LBlock) (R : Nat) : LaidR bl R 0 (bl,R) :=
 ⟨fun _ B hB=>⟨B,hB,rfl,rfl,rfl,rfl,rfl⟩,fun _ _ _ _ h=>.inl ⟨h,fun _ p hp=>⟨p,hp,rfl,rfl⟩⟩,fun _ _ _ _ _ h=>h,fun _ _ _=>rfl⟩
theorem blkAt_lay {bl : List LBlock} {h : Nat} {lp : List Int} {R c : Nat} (hc : c < bl.length) : blkAt (layB bl h lp R) c = layBk bl h lp R c (blkAt bl c):=blkAt_get (layB_get (get_blkAt hc))
theorem layBk_phis {bl : List LBlock} {h : Nat} {lp : List Int} {R c : Nat} {B : LBlock} (hc : c ≠ h) : (layBk bl h lp R c B).phis = B.phis:=by unfold layBk; rw [if_neg hc]
theorem toOf_layGet {bl : List LBlock} {h : Nat} {lp : List Int} {R c j : Nat} {x : Int} (hc : c < bl.length) (hx : (toOf bl c)[j]? = some x) : (toOf (layB bl h lp R) c)[j]? = some (if c ∈ outQ bl h lp∧x = (h : Int) then (bl.length : Int) else x):=by
 rw [toOf_lay hc]
 unfold layTo
 by_cases e : c ∈ outQ bl h lp
 ·rw [if_pos e,List.getElem?_map,hx]
  simp [e]
 ·rw [if_neg e,hx,if_neg (fun h=>e h.1)]
theorem map_getD {l : List Nat} {g : Nat→LVal} {c : Nat} (hc : c ∈ l) (m : List LVal) : (l.map g++m).getD (l.idxOf c) noV = g c:=by
 have hl:=List.idxOf_lt_length_of_mem hc
 rw [List.getD_eq_getElem?_getD,List.getElem?_append_left (by rw [List.length_map]; exact hl),List.getElem?_map,List.getElem?_eq_getElem hl,List.getElem_idxOf]
 rfl
theorem LaidR.step {bl : List LBlock} {R i : Nat} {s : List LBlock × Nat} {lps : List (List Int)} (hs : LaySt bl R i s) (h : LaidR bl R i s) (hi : i < bl.length) (ho : 0 < (lps.getD i []).length→outQ bl i (lps.getD i []) ≠ []) : LaidR bl R (i + 1) (layAt lps s i):=by
 have hg:=hs.ok.good
 have hl1:=hs.len
 have hil : i < s.1.length:=by omega
 have hpre:=hs.pre i (Nat.le_refl _) hi
 have hphs:=h.phis i (Nat.le_refl _) hi
 unfold layAt
 split
 case isFalse=>exact ⟨h.blk,h.edge,fun c t j h1 h2=>h.late c t j h1 (by omega),fun t h1=>h.phis t (by omega)⟩
 rename_i hc
 have hoe:=ho hc.1
 rw [← outQ_congr hpre] at hoe
 generalize lps.getD i [] = lp at *
 obtain ⟨b1,r1⟩:=s
 simp only at *
 have hphi : ∀ t,t ≠ i→t < b1.length→(blkAt (layB b1 i lp r1) t).phis = (blkAt b1 t).phis:=fun t h1 h2=>by rw [blkAt_lay h2,layBk_phis h1]
 have hpr : ∀ t,t ≠ i→t < b1.length→preds (layB b1 i lp r1) t = preds b1 t:=fun t h1 h2=>preds_lay_same hg h2 h1
 have htl : ∀ c t j : Nat,(toOf bl c)[j]? = some (t : Int)→c < bl.length→t < b1.length:=fun c t j h1 h2=>by
  rcases h.edge c t j h2 h1 with ⟨h3,_⟩|⟨m,_,_,h4,ps,h5,_⟩
  ·have:=(edge_of hg (List.mem_of_getElem? h3)).2.1; omega
  ·have:=(hg _ (List.mem_of_getElem? h5)).2 (t : Int) (by simp); omega
 refine ⟨fun c B hB=>?_,fun c t j hcl hx=>?_,fun c t j hcl ht hx=>?_,fun t h1 h2=>?_⟩
 ·obtain ⟨C,h1,h2,h3,h4,h5,h6⟩:=h.blk c B hB
  refine ⟨_,layB_get h1,?_,?_,?_,?_,?_⟩
  ·rw [← h2]; unfold layBk; split <;> rfl
  ·rw [← h3]; unfold layBk; split <;> rfl
  ·rw [← h4]; unfold layBk; split <;> rfl
  ·rw [← h5,layBk_to]; unfold layTo; split
   ·rw [List.length_map]
   ·rfl
  ·rw [← h6]; unfold layBk; split
   ·simp
   ·rfl
 ·have htb:=htl c t j hx hcl
  have hcb : c < b1.length:=by omega
  by_cases e : t = i
  ·subst e
   have hx1:=h.late c t j hcl (Nat.le_refl _) hx
   have hcp : c ∈ preds b1 t:=mem_preds.2 ⟨hcb,List.mem_of_getElem? hx1⟩
   have hx2:=toOf_layGet (R:=r1) (h:=t) (lp:=lp) hcb hx1
   have hsrc : ∀ p,srcAt b1 t p c = srcAt bl t p c:=fun p=>by unfold srcAt; rw [hpre]
   have hget : ∀ (k : Nat) p,(blkAt bl t).phis[k]? = some p→(blkAt (layB b1 t lp r1) t).phis[k]? = some (layPh b1 t lp r1 k p):=fun k p hp=>by
    rw [blkAt_lay hil]
    unfold layBk
    rw [if_pos rfl]
    simp only
    rw [List.getElem?_mapIdx,hphs,hp]
    rfl
   have hph:=preds_lay_head (R:=r1) (lp:=lp) hg hil
   by_cases hd : c ∈ outQ b1 t lp
   ·rw [if_pos ⟨hd,rfl⟩] at hx2
    refine .inr ⟨b1.length,hx2,by omega,by rw [layB_len]; omega,_,layB_new,?_⟩
    have hn : b1.length ∉ inQ b1 t lp:=fun hm=>by have:=(mem_preds.1 (mem_inQ.1 hm).1).1; omega
    have hlast : ∀ (k : Nat) p,(layPh b1 t lp r1 k p).src.getD ((preds (layB b1 t lp r1) t).idxOf b1.length) noV = layV b1 t lp r1 k p:=fun k p=>by
     rw [hph,List.idxOf_append,if_neg hn]
     unfold layPh
     simp only
     rw [List.getD_eq_getElem?_getD,List.getElem?_append_right (by rw [List.length_map]; omega)]
     simp
    by_cases h1 : 1 < (outQ b1 t lp).length
    ·refine .inr ⟨r1,hs.regs.1,by rw [← hphs]; unfold layR; rw [if_pos h1]; omega,by unfold porchPs; rw [if_pos h1,List.length_mapIdx,hphs],fun k p hp=>?_⟩
     refine ⟨_,⟨((r1 + k : Nat) : Int),(outQ b1 t lp).map (srcAt b1 t p)⟩,hget k p hp,rfl,?_,?_,?_,?_⟩
     ·rw [hlast]; unfold layV; rw [if_pos h1]
     ·unfold porchPs
      rw [if_pos h1,List.getElem?_mapIdx,hphs,hp]
      rfl
     ·rfl
     ·rw [preds_lay_new hg hil,← hsrc]
      have:=map_getD (g:=srcAt b1 t p) hd []
      rw [List.append_nil] at this
      exact this
    ·refine .inl ⟨by unfold porchPs; rw [if_neg h1],fun k p hp=>⟨_,hget k p hp,rfl,?_⟩⟩
     rw [hlast]
     unfold layV
     rw [if_neg h1,← hsrc]
     congr 1
     obtain ⟨x,hx⟩ : ∃ x,outQ b1 t lp = [x]:=by
      match hq : outQ b1 t lp with
      | []=>rw [hq] at hd; cases hd
      | [x]=>exact ⟨x,rfl⟩
      | _::_::_=>rw [hq] at h1; simp at h1
     rw [hx] at hd ⊢
     rw [List.mem_singleton.1 hd]
     rfl
   ·rw [if_neg (fun h=>hd h.1)] at hx2
    refine .inl ⟨hx2,fun k p hp=>⟨_,hget k p hp,rfl,?_⟩⟩
    have hin : c ∈ inQ b1 t lp:=mem_inQ.2 ⟨hcp,Classical.byContradiction fun hn=>hd (mem_outQ.2 ⟨hcp,hn⟩)⟩
    rw [hph,List.idxOf_append,if_pos hin,← hsrc]
    exact map_getD hin _
  ·rcases h.edge c t j hcl hx with ⟨h1,h2⟩|⟨m,h1,h2,h3,ps,h4,h5⟩
   ·have hx2:=toOf_layGet (R:=r1) (h:=i) (lp:=lp) hcb h1
    rw [if_neg (fun h=>e (by have:=h.2; omega))] at hx2
    refine .inl ⟨hx2,fun k p hp=>?_⟩
    obtain ⟨p',g1,g2,g3⟩:=h2 k p hp
    exact ⟨p',by rw [hphi t e htb]; exact g1,g2,by rw [hpr t e htb]; exact g3⟩
   ·have hx2:=toOf_layGet (R:=r1) (h:=i) (lp:=lp) hcb h1
    rw [if_neg (fun h=>by have:=h.2; omega)] at hx2
    have h3 : m < b1.length:=h3
    refine .inr ⟨m,hx2,h2,by rw [layB_len]; omega,ps,?_,?_⟩
    ·rw [layB_get h4]
     unfold layBk
     rw [if_neg (by omega)]
     congr 2
     unfold layTo
     split
     ·rw [List.map_singleton,if_neg (by omega)]
     ·rfl
    ·rcases h5 with ⟨rfl,h5⟩|⟨base,h5⟩
     ·refine .inl ⟨rfl,fun k p hp=>?_⟩
      obtain ⟨p',g1,g2,g3⟩:=h5 k p hp
      exact ⟨p',by rw [hphi t e htb]; exact g1,g2,by rw [hpr t e htb]; exact g3⟩
     ·refine .inr ⟨base,h5.lo,Nat.le_trans h5.hi layR_le,h5.len,fun k p hp=>?_⟩
      obtain ⟨p',q,g1,g2,g3,g4,g5,g6⟩:=h5.phi k p hp
      exact ⟨p',q,by rw [hphi t e htb]; exact g1,g2,by rw [hpr t e htb]; exact g3,g4,g5,by rw [hpr m (by omega) h3]; exact g6⟩
 ·have hx1:=h.late c t j hcl (by omega) hx
  have hx2:=toOf_layGet (R:=r1) (h:=i) (lp:=lp) (by omega : c < b1.length) hx1
  rw [if_neg (fun h=>by have:=h.2; omega)] at hx2
  exact hx2
 ·rw [hphi t (by omega) (by omega)]
  exact h.phis t (by omega) h2
theorem lays_laid {bl : List LBlock} {lps : List (List Int)} {R : Nat} (hl : IsLoops bl lps) (hf : FuncOk R bl) (hp : PosOk bl) : ∀ i,i ≤ bl.length→LaidR bl R i (laysTo lps (bl,R) i)
 | 0,_=>LaidR.zero bl R
 | i + 1,hi=>by
  rw [laysTo_succ]
  exact (lays_laid hl hf hp i (by omega)).step (lays_st hl hf hp i (by omega)) (by omega) fun h0=>(hl.out hf.good hp h0).2
theorem setAll_app (l : List (Nat × Int)) : ∀ (a b : List Int),(∀ p ∈ l,p.1 < a.length)→setAll (a++b) l = setAll a l++b:=by
 induction l with
 | nil=>exact fun _ _ _=>rfl
 | cons p l ih =>
  intro a b h
  unfold setAll at ih ⊢
  rw [List.foldl_cons,List.foldl_cons,List.set_append_left p.1 p.2 (h p (by simp))]
  exact ih _ _ fun q hq=>by rw [List.length_set]; exact h q (List.mem_cons_of_mem _ hq)
theorem lastV_at {r : Nat} {x : Int} : ∀ {l : List (Nat × Int)} {i : Nat},l[i]? = some (r,x)→(∀ j q,i < j→l[j]? = some q→q.1 ≠ r)→lastV l r = some x
 | [],i,h,_=>by simp at h
 | p::l,0,h,hn=>by
  simp only [List.getElem?_cons_zero,Option.some.injEq] at h
  subst h
  have h1 : lastV l r = none:=lastV_none.2 fun q hq=>by
   obtain ⟨j,hj⟩:=List.getElem?_of_mem hq
   exact hn (j + 1) q (by omega) (by simpa using hj)
  rw [lastV_cons,h1]
  simp
 | p::l,i + 1,h,hn=>by
  have h1:=lastV_at (l:=l) (i:=i) (by simpa using h) fun j q hj hq=>hn (j + 1) q (by omega) (by simpa using hq)
  rw [lastV_cons,h1]
theorem app_of_get {a c : List Int} (hl : a.length ≤ c.length) (h : ∀ r,r < a.length→c[r]? = a[r]?) : ∃ b,c = a++b:=by
 refine ⟨c.drop a.length,?_⟩
 have h1 : c.take a.length = a:=by
  apply List.ext_getElem?
  intro r
  by_cases hr : r < a.length
  ·rw [List.getElem?_take_of_lt hr,h r hr]
  ·rw [List.getElem?_eq_none (by rw [List.length_take]; omega),List.getElem?_eq_none (by omega)]
 conv=>lhs; rw [← List.take_append_drop a.length c,h1]
theorem valM_app {f g : Frm} {b : List Int} (h : g.regs = f.regs++b) {w : LVal} (hw : ValOk f.regs.length w) : valM g w = valM f w:=by
 unfold valM
 split
 ·rename_i hr
  have:=hw hr
  rw [h,List.getD_eq_getElem?_getD,List.getElem?_append_left (by omega),List.getD_eq_getElem?_getD]
 ·rfl
structure LaidU (u v : LUnit) : Prop where
 globs : v.globals = u.globals
 main : mainAt v.funcs = mainAt u.funcs
 fn : ∀ (k : Nat) X (R : Nat),u.funcs[k]? = some X→X.regs = R→∃ Y,∃ R' : Nat,v.funcs[k]? = some Y∧Y.regs = R'∧R ≤ R'∧LaidR X.blocks R X.blocks.length (Y.blocks,R')
structure FTy (v : LUnit) (f g : Frm) : Prop where
 fn : g.fn = f.fn
 block : g.block = f.block
 at' : g.at' = f.at'
 dst : g.dst = f.dst
 regs : ∃ b,g.regs = f.regs++b
 len : g.regs.length = regsOf v f.fn
structure FRy (v : LUnit) (d e : Int) (f g : Frm) : Prop where
 same : FTy v f g
 dst : e = d
 lt : d < f.regs.length
theorem FTy.set {v : LUnit} {f g : Frm} (h : FTy v f g) {d : Int} (hd : d < f.regs.length) (n : Int) : FTy v (f.set d n) (g.set d n):=by
 obtain ⟨h1,h2,h3,h4,⟨b,h5⟩,h6⟩:=h
 refine ⟨h1,h2,h3,h4,⟨b,?_⟩,?_⟩
 ·unfold Frm.set setR
  simp only
  split
  ·rw [h5,List.set_append_left _ _ (by omega)]
  ·exact h5
 ·unfold Frm.set setR
  simp only
  split
  ·rw [List.length_set]; exact h6
  ·exact h6
structure RelY (u v : LUnit) (s t : Mac) : Prop where
 ok : MacOk u (s.steps + 1) s
 rel : RelM (FRy v) (FTy v) s t
theorem enterR_app {R R' : Nat} {args : List Int} (h : R ≤ R') (ha : args.length ≤ R) : ∃ b,enterR R' args = enterR R args++b:=by
 refine app_of_get (by rw [enterR_length,enterR_length]; exact h) fun r hr=>?_
 rw [enterR_length] at hr
 unfold enterR
 rw [List.getElem?_take_of_lt (by omega),List.getElem?_take_of_lt hr]
 by_cases h1 : r < args.length
 ·rw [List.getElem?_append_left h1,List.getElem?_append_left h1]
 ·rw [List.getElem?_append_right (by omega),List.getElem?_append_right (by omega),List.getElem?_replicate,List.getElem?_replicate,if_pos (by omega),if_pos (by omega)]
theorem phis_as {f g : Frm} {k k' : Nat} {ps ps' : List LPhi} {b : List Int} (hr : g.regs = f.regs++b) (hl : ps'.length = ps.length) (hd : ∀ p ∈ ps,p.dst.toNat < f.regs.length)
  (hp : ∀ (i : Nat) p,ps[i]? = some p→∃ p',ps'[i]? = some p'∧p'.dst = p.dst∧valM g (p'.src.getD k' noV) = valM f (p.src.getD k noV)) : phisM g k' ps' = phisM f k ps++b:=by
 have h1 : (ps'.map fun p=>(p.dst.toNat,valM g (p.src.getD k' noV))) = ps.map fun p=>(p.dst.toNat,valM f (p.src.getD k noV)):=by
  apply List.ext_getElem?
  intro i
  rw [List.getElem?_map,List.getElem?_map]
  by_cases hi : i < ps.length
  ·obtain ⟨p',h1,h2,h3⟩:=hp i ps[i] (List.getElem?_eq_getElem hi)
   rw [h1,List.getElem?_eq_getElem hi,Option.map_some,Option.map_some,h2,h3]
  ·rw [List.getElem?_eq_none (by omega),List.getElem?_eq_none (by omega)]
   rfl
 rw [phisM_all,phisM_all,h1,hr]
 refine setAll_app _ _ _ fun q hq=>?_
 obtain ⟨p,hpm,rfl⟩:=List.mem_map.1 hq
 exact hd p hpm
theorem phisM_len (f : Frm) (k : Nat) (ps : List LPhi) : (phisM f k ps).length = f.regs.length:=by rw [phisM_all,setAll_len]
theorem phis_by {g : Frm} {k n base : Nat} {ps : List LPhi} {a b : List Int} (hr : g.regs = a++b) (hlo : a.length ≤ base) (hhi : base + n ≤ g.regs.length) (hl : ps.length = n) (hd : ∀ (i : Nat) q,ps[i]? = some q→q.dst = ((base + i : Nat) : Int)) :
  (∃ b',phisM g k ps = a++b')∧∀ (i : Nat) q,ps[i]? = some q→(phisM g k ps).getD (base + i) 0 = valM g (q.src.getD k noV):=by
 have hkey : ∀ (i : Nat) q,(ps.map fun p : LPhi=>(p.dst.toNat,valM g (p.src.getD k noV)))[i]? = some q→q.1 = base + i:=fun i q hq=>by
  rw [List.getElem?_map] at hq
  obtain ⟨p,hp,rfl⟩:=Option.map_eq_some_iff.1 hq
  have:=hd i p hp
  simp only
  omega
 rw [phisM_all]
 refine ⟨app_of_get (by rw [setAll_len,hr,List.length_append]; omega) fun r hrl=>?_,fun i q hq=>?_⟩
 ·have h1 : lastV (ps.map fun p : LPhi=>(p.dst.toNat,valM g (p.src.getD k noV))) r = none:=lastV_none.2 fun q hq=>by
   obtain ⟨j,hj⟩:=List.getElem?_of_mem hq
   have:=hkey j q hj
   omega
  rw [setAll_get,h1,hr,List.getElem?_append_left hrl,List.getElem?_eq_getElem hrl]
  rfl
 ·have hil:=(List.getElem?_eq_some_iff.1 hq).1
  have h1:=lastV_at (r:=base + i) (x:=valM g (q.src.getD k noV)) (l:=ps.map fun p : LPhi=>(p.dst.toNat,valM g (p.src.getD k noV))) (i:=i) (by
   rw [List.getElem?_map,hq,Option.map_some]
   have:=hd i q hq
   congr 2
   omega) fun j p hj hp=>by
    have:=hkey j p hp
    omega
  rw [List.getD_eq_getElem?_getD,setAll_get,h1,List.getElem?_eq_getElem (by omega)]
  rfl
theorem lay_sim {u v : LUnit} (hu : UnitFit u) (hc : CheckOk u) (hL : LaidU u v) : Sim u v 1 2 (RelY u v):=by
 intro s t ⟨hok,hrel⟩
 obtain ⟨X,R,hf⟩:=hok.top
 obtain ⟨B,hB⟩ : ∃ B,X.blocks[s.top.block]? = some B:=⟨_,List.getElem?_eq_getElem hf.block⟩
 have hBm:=List.mem_of_getElem? hB
 have hfit:=hf.fit.blk B hBm
 have hgood:=hf.fit.ok.good
 have hbody:=hc.body X (List.mem_of_getElem? hf.get)
 obtain ⟨Y,R',hY,hYR,hRR,hlr⟩:=hL.fn s.top.fn X R hf.get hf.fit.regs
 have hblv : blsOf v s.top.fn = Y.blocks:=by unfold blsOf; rw [hY]
 have hblu : blsOf u s.top.fn = X.blocks:=by unfold blsOf; rw [hf.get]
 obtain ⟨C,hC,hCl,hCk,hCo,hCt,hCp⟩:=hlr.blk s.top.block B hB
 simp only at hC
 obtain ⟨hm,hi,ho,hst,htop⟩:=hrel
 obtain ⟨htf,htb,hta,htd,⟨ext,hext⟩,htl⟩:=htop
 have hregs:=hf.regs
 have hro : regsOf v s.top.fn = R':=by unfold regsOf; rw [hY]; simp only; rw [hYR]; exact Int.toNat_natCast R'
 rw [hro] at htl
 have hbu:=blockM_eq hf hB
 have hbv : blockM v t.top = C:=by
  rw [blockM_bls,htf,htb,hblv,List.getD_eq_getElem?_getD,hC]
  rfl
 have hll:=hst.len
 have hFT : FTy v s.top t.top:=⟨htf,htb,hta,htd,⟨ext,hext⟩,by rw [hro]; exact htl⟩
 have hval : ∀ w,ValOk R w→valM t.top w = valM s.top w:=fun w hw=>valM_app hext (by rw [hregs]; exact hw)
 cases hx : B.list[s.top.at']? with
 | some x =>
  have hsu : stepM u s = insM u (goOn (tick s)) x:=by rw [stepM_eq,hbu]; simp only [hx]
  have hxm:=List.mem_of_getElem? hx
  have hCx : C.list[t.top.at']? = some x:=by rw [hCl,hta]; exact hx
  have hsv : stepM v t = insM v (goOn (tick t)) x:=by rw [stepM_eq,hbv]; simp only [hCx]
  obtain ⟨_,_,_,ud⟩:=vals_used (hbody.list _ B hB x hxm)
  have hxf:=hfit.list.2 x hxm
  have hgt : FTy v (goOn (tick s)).top (goOn (tick t)).top:=⟨htf,htb,by show t.top.at' + 1 = s.top.at' + 1; rw [hta],htd,⟨ext,hext⟩,by show t.top.regs.length = regsOf v s.top.fn; rw [hro]; exact htl⟩
  have hv2 : ∀ w,ValOk R w→valM (goOn (tick t)).top w = valM (goOn (tick s)).top w:=hval
  have hdl : x.dst < (s.top.regs.length : Int):=by
   rw [hregs]
   by_cases h0 : 0 ≤ x.dst
   ·exact hxf.dst h0
   ·omega
  rcases ins_sim (u:=u) (v:=v) (s:=goOn (tick s)) (t:=goOn (tick t)) (x:=x) (y:=x) rfl rfl (hv2 _ hxf.a) (hv2 _ hxf.b) (fun _=>List.map_congr_left fun w hw=>hv2 w (hxf.args w hw)) hm hi ho hll ud ud with ⟨f,g,e1,e2,ha⟩|⟨h20,e1,e2⟩|⟨h20,mem,inp,out,z,e1,e2⟩
  ·refine ⟨fun s' hs'=>?_,fun f' hf'=>?_⟩
   ·rw [hsu,e1] at hs'; cases hs'
   ·rw [hsu,e1] at hf'
    rw [← Sum.inr.inj hf']
    exact ⟨0,t,g,by omega,by omega,rfl,by rw [hsv,e2],ha⟩
  ·refine ⟨fun s' hs'=>?_,fun f' hf'=>?_⟩
   ·have h9:=(step_ok hu hok hs').1
    rw [hsu,e1] at hs'
    have hs':=Sum.inl.inj hs'
    obtain ⟨k,Z,hk,hZ,hlen⟩:=hxf.call h20
    obtain ⟨RZ,hfz⟩:=hu.2 k Z hZ
    obtain ⟨W,RW,hW,hWR,hle,_⟩:=hL.fn k Z RZ hZ hfz.regs
    have hxk : x.fn.toNat = k:=by omega
    refine ⟨1,_,by omega,by omega,.one (by rw [hsv,e2]),h9,?_⟩
    rw [← hs',enterM_def,enterM_def,hxk]
    have e3 : regsOf v k = RW:=by unfold regsOf; rw [hW]; simp only; rw [hWR]; exact Int.toNat_natCast RW
    have e4 : regsOf u k = RZ:=by unfold regsOf; rw [hZ]; simp only; rw [hfz.regs]; exact Int.toNat_natCast RZ
    refine ⟨hm,hi,ho,.add hst ⟨hgt,rfl,hdl⟩,rfl,rfl,rfl,rfl,?_,?_⟩
    ·show ∃ b,enterR (regsOf v k) _ = enterR (regsOf u k) _++b
     rw [e3,e4]
     have:=hfz.params
     exact enterR_app hle (by rw [List.length_map]; omega)
    ·show (enterR (regsOf v k) _).length = regsOf v k
     rw [enterR_length]
   ·rw [hsu,e1] at hf'; cases hf'
  ·refine ⟨fun s' hs'=>?_,fun f' hf'=>?_⟩
   ·have h9:=(step_ok hu hok hs').1
    rw [hsu,e1] at hs'
    have hs':=Sum.inl.inj hs'
    refine ⟨1,_,by omega,by omega,.one (by rw [hsv,e2]),h9,?_⟩
    rw [← hs']
    exact ⟨rfl,rfl,rfl,hst,hgt.set hdl z⟩
   ·rw [hsu,e1] at hf'; cases hf'
 | none =>
  have hsu : stepM u s = endM u (tick s) B:=by rw [stepM_eq,hbu]; simp only [hx]
  have hCn : C.list[t.top.at']? = none:=by rw [hCl,hta]; exact hx
  have hsv : stepM v t = endM v (tick t) C:=by rw [stepM_eq,hbv]; simp only [hCn]
  have hvon : valM t.top C.on = valM s.top B.on:=by rw [hCo]; exact hval _ hfit.on.1
  by_cases hkj : B.kind = 2 ∨ B.kind = 3
  ·obtain ⟨i,hil,e1,e2⟩:=jump_sim (u:=u) (v:=v) (s:=tick s) (t:=tick t) (C:=C) hkj hCk hfit.kind.2 hvon
   have htm:=to_get (B:=B) hil
   obtain ⟨to,T,e,hg⟩:=goTo hf hB htm
   have hton : to < X.blocks.length:=(List.getElem?_eq_some_iff.1 hg.get).1
   have hbk : blkAt X.blocks to = T:=blkAt_get hg.get
   rw [e] at e1
   have hti : (toOf X.blocks s.top.block)[i]? = some (to : Int):=by
    rw [toOf_get hB]
    rw [List.getD_eq_getElem?_getD,List.getElem?_eq_getElem hil,Option.getD_some] at e
    rw [List.getElem?_eq_getElem hil,e]
   have hphi : phisOf (blsOf u s.top.fn) to = T.phis:=by rw [hblu]; unfold phisOf; rw [hg.get]
   have hTok:=hf.fit.ok.block to T hg.get
   obtain ⟨T',hT',_,_,_,_,hTp⟩:=hlr.blk to T hg.get
   simp only at hT'
   have hbk' : blkAt Y.blocks to = T':=blkAt_get hT'
   have hphv : phisOf (blsOf v s.top.fn) to = T'.phis:=by rw [hblv]; unfold phisOf; rw [hT']
   have hdT : ∀ p ∈ T.phis,p.dst.toNat < s.top.regs.length:=fun p hp=>by
    have:=(hTok.phis p hp).dst
    omega
   have hsv2 : ∀ p ∈ T.phis,ValOk R (srcAt X.blocks to p s.top.block):=fun p hp=>(hTok.phis p hp).vals _ (srcAt_mem (R:=R) (hTok.phis p hp).len hg.mem)
   have hCi : ∀ m : Nat,(toOf Y.blocks s.top.block)[i]? = some (m : Int)→C.to.getD i 0 = (m : Int):=fun m h=>by
    rw [toOf_get hC] at h
    rw [List.getD_eq_getElem?_getD,h]
    rfl
   refine ⟨fun s' hs'=>?_,fun f' hf'=>by rw [hsu,e1] at hf'; cases hf'⟩
   have h9:=(step_ok hu hok hs').1
   rw [hsu,e1] at hs'
   have hs':=Sum.inl.inj hs'
   rcases hlr.edge s.top.block to i hf.block hti with ⟨hd1,hd2⟩|⟨m,hm1,hm2,hm3,ps,hm4,hm5⟩
   ·rw [hCi to hd1] at e2
    refine ⟨1,_,by omega,by omega,.one (by rw [hsv,e2]),h9,?_⟩
    rw [← hs',jumpM_def,jumpM_def]
    have hp:=phis_as (f:=s.top) (g:=t.top) (k:=(preds X.blocks to).idxOf s.top.block) (k':=(preds Y.blocks to).idxOf s.top.block) (ps:=T.phis) (ps':=T'.phis) hext hTp hdT fun i p hp=>by
     obtain ⟨p',g1,g2,g3⟩:=hd2 i p (by rw [hbk]; exact hp)
     rw [hbk'] at g1
     simp only at g3
     exact ⟨p',g1,g2,by rw [g3]; exact hval _ (hsv2 p (List.mem_of_getElem? hp))⟩
    refine ⟨hm,hi,ho,hst,htf,rfl,rfl,htd,⟨ext,?_⟩,?_⟩
    ·show phisM t.top ((preds (blsOf v t.top.fn) (to : Int).toNat).idxOf t.top.block) (phisOf (blsOf v t.top.fn) (to : Int).toNat) = phisM s.top ((preds (blsOf u s.top.fn) (to : Int).toNat).idxOf s.top.block) (phisOf (blsOf u s.top.fn) (to : Int).toNat)++ext
     rw [htf,Int.toNat_natCast,hphi,hphv,hblu,hblv,htb]
     exact hp
    ·show (phisM t.top _ _).length = regsOf v s.top.fn
     rw [phisM_len,hro]
     exact htl
   ·rw [hCi m hm1] at e2
    simp only at hm3 hm4
    have hbm : blkAt Y.blocks m = ⟨ps,[],2,noV,[(to : Int)]⟩:=blkAt_get hm4
    have hphm : phisOf (blsOf v s.top.fn) m = ps:=by rw [hblv]; unfold phisOf; rw [hm4]
    obtain ⟨t1,ht1⟩ : ∃ t1,t1 = jumpM v (tick t) (m : Int):=⟨_,rfl⟩
    have ht1d:=ht1
    rw [jumpM_def] at ht1d
    have ht1r : t1.top.regs = phisM t.top ((preds Y.blocks m).idxOf s.top.block) ps:=by
     rw [ht1d]
     show phisM t.top ((preds (blsOf v t.top.fn) (m : Int).toNat).idxOf t.top.block) (phisOf (blsOf v t.top.fn) (m : Int).toNat) = _
     rw [htf,htb,Int.toNat_natCast,hphm,hblv]
    have ht1f : t1.top.fn = s.top.fn:=by rw [ht1d]; exact htf
    have ht1b : t1.top.block = m:=by rw [ht1d]; exact Int.toNat_natCast m
    have ht1a : t1.top.at' = 0:=by rw [ht1d]
    have ht1s : t1.top.dst = s.top.dst:=by rw [ht1d]; exact htd
    have ht1l : t1.top.regs.length = R':=by rw [ht1r,phisM_len]; exact htl
    have hb1 : blockM v t1.top = ⟨ps,[],2,noV,[(to : Int)]⟩:=by
     rw [blockM_bls,ht1f,ht1b,hblv,List.getD_eq_getElem?_getD,hm4]
     rfl
    have hst2 : stepM v t1 = .inl (jumpM v (tick t1) (to : Int)):=by
     rw [stepM_eq,hb1]
     rfl
    refine ⟨2,_,by omega,by omega,Goes.trans (k:=1) (.one (show stepM v t = .inl t1 by rw [hsv,e2,ht1])) (.one hst2),h9,?_⟩
    rw [← hs',jumpM_def,jumpM_def]
    have hfin : ∃ b,phisM t1.top ((preds Y.blocks to).idxOf m) T'.phis = phisM s.top ((preds X.blocks to).idxOf s.top.block) T.phis++b:=by
     rcases hm5 with ⟨rfl,h6⟩|⟨base,h6⟩
     ·have h7 : t1.top.regs = s.top.regs++ext:=by rw [ht1r]; exact hext
      refine ⟨ext,phis_as h7 hTp hdT fun i p hp=>?_⟩
      obtain ⟨p',g1,g2,g3⟩:=h6 i p (by rw [hbk]; exact hp)
      rw [hbk'] at g1
      simp only at g3
      exact ⟨p',g1,g2,by rw [g3]; exact valM_app h7 (by rw [hregs]; exact hsv2 p (List.mem_of_getElem? hp))⟩
     ·have hlo:=h6.lo
      have hhi:=h6.hi
      have hle:=h6.len
      rw [hbk] at hhi hle
      simp only at hhi
      obtain ⟨⟨b',h7⟩,h8⟩:=phis_by (g:=t.top) (k:=(preds Y.blocks m).idxOf s.top.block) (n:=T.phis.length) (base:=base) (ps:=ps) hext (by rw [hregs]; exact hlo) (by rw [htl]; exact hhi) hle fun i q hq=>by
       have hil:=(List.getElem?_eq_some_iff.1 hq).1
       obtain ⟨p',q',_,_,_,g4,g5,_⟩:=h6.phi i (T.phis[i]'(by omega)) (by rw [hbk]; exact List.getElem?_eq_getElem _)
       rw [hq] at g4
       rw [Option.some.inj g4]
       exact g5
      rw [← ht1r] at h7 h8
      refine ⟨b',phis_as h7 hTp hdT fun i p hp=>?_⟩
      obtain ⟨p',q,g1,g2,g3,g4,g5,g6⟩:=h6.phi i p (by rw [hbk]; exact hp)
      rw [hbk'] at g1
      simp only at g3 g6
      refine ⟨p',g1,g2,?_⟩
      rw [g3]
      show (if true = true then t1.top.regs.getD ((base + i : Nat) : Int).toNat 0 else _) = _
      rw [if_pos rfl,Int.toNat_natCast,h8 i q g4,g6]
      exact hval _ (hsv2 p (List.mem_of_getElem? hp))
    obtain ⟨b',hb'⟩:=hfin
    refine ⟨?_,?_,?_,?_,ht1f,rfl,rfl,ht1s,⟨b',?_⟩,?_⟩
    ·show t1.mem = s.mem; rw [ht1d]; exact hm
    ·show t1.inp = s.inp; rw [ht1d]; exact hi
    ·show t1.out = s.out; rw [ht1d]; exact ho
    ·show Stk (FRy v) s.rest t1.rest s.top.dst t1.top.dst
     rw [ht1s,ht1d]
     show Stk (FRy v) s.rest t.rest s.top.dst s.top.dst
     rw [htd] at hst
     exact hst
    ·show phisM t1.top ((preds (blsOf v t1.top.fn) (to : Int).toNat).idxOf t1.top.block) (phisOf (blsOf v t1.top.fn) (to : Int).toNat) = phisM s.top ((preds (blsOf u s.top.fn) (to : Int).toNat).idxOf s.top.block) (phisOf (blsOf u s.top.fn) (to : Int).toNat)++b'
     rw [ht1f,ht1b,Int.toNat_natCast,hphi,hphv,hblu,hblv]
     exact hb'
    ·show (phisM t1.top _ _).length = regsOf v s.top.fn
     rw [phisM_len,hro]
     exact ht1l
  ·rcases ret_sim (u:=u) (v:=v) (FR:=FRy v) (s:=tick s) (t:=tick t) (C:=C) (fun h=>hkj (.inl h)) (fun h=>hkj (.inr h)) hCk hvon ho hst with ⟨f,g,e1,e2,ha⟩|⟨l,f,m,g,d1,d2,e1,e2,d3,d4⟩
   ·refine ⟨fun s' hs'=>?_,fun f' hf'=>?_⟩
    ·rw [hsu,e1] at hs'; cases hs'
    ·rw [hsu,e1] at hf'
     rw [← Sum.inr.inj hf']
     exact ⟨0,t,g,by omega,by omega,rfl,by rw [hsv,e2],ha⟩
   ·refine ⟨fun s' hs'=>?_,fun f' hf'=>?_⟩
    ·have h9:=(step_ok hu hok hs').1
     rw [hsu,e1] at hs'
     have hs':=Sum.inl.inj hs'
     refine ⟨1,_,by omega,by omega,.one (by rw [hsv,e2]),h9,?_⟩
     rw [← hs']
     refine ⟨hm,hi,ho,d3,?_⟩
     show FTy v (f.set s.top.dst (valM s.top B.on)) (g.set t.top.dst (valM s.top B.on))
     rw [htd]
     exact d4.same.set d4.lt _
    ·rw [hsu,e1] at hf'; cases hf'
theorem lay_runs {u v : LUnit} (hu : Whole u) (hL : LaidU u v) (inp : List Int) (f m : Nat) (hin : ∀ x ∈ inp,inI x) (h1 : (resultM u inp f).state ≠ 1) (hm : 2 * f ≤ m) : Alike (resultM u inp f) (resultM v inp m)∧(resultM v inp m).steps ≤ 2 * (resultM u inp f).steps:=by
 have e1 : ∀ v : LUnit,startM v inp = ⟨memL v.globals,inp,[],0,[],⟨(mainAt v.funcs).toNat,0,0,List.replicate (regsOf v (mainAt v.funcs).toNat) 0,-1⟩,bump (v.funcs.map fun X=>List.replicate X.blocks.length 0) (mainAt v.funcs).toNat 0⟩:=fun _=>rfl
 obtain ⟨fm,M,hfm,hM⟩:=hu.start.main
 obtain ⟨RM,hRM⟩:=hu.fit.2 fm M hM
 obtain ⟨W,RW,hW,hWR,hle,_⟩:=hL.fn fm M RM hM hRM.regs
 have e3 : regsOf v fm = RW:=by unfold regsOf; rw [hW]; simp only; rw [hWR]; exact Int.toNat_natCast RW
 have e4 : regsOf u fm = RM:=by unfold regsOf; rw [hM]; simp only; rw [hRM.regs]; exact Int.toNat_natCast RM
 obtain ⟨h2,i,j,h3,h4,h5,h6⟩:=sim_run (lay_sim hu.fit hu.ok hL) f (startM u inp) (startM v inp) m ⟨start_ok hu.fit hu.start hin,by
  rw [e1,e1,hL.main,hL.globs,hfm,Int.toNat_natCast]
  refine ⟨rfl,rfl,rfl,.nil _ _,rfl,rfl,rfl,rfl,⟨List.replicate (RW - RM) 0,?_⟩,?_⟩
  ·show List.replicate (regsOf v fm) 0 = List.replicate (regsOf u fm) 0++_
   rw [e3,e4,List.replicate_append_replicate]
   congr 1
   omega
  ·show (List.replicate (regsOf v fm) 0).length = regsOf v fm
   rw [List.length_replicate]⟩ h1 (by omega)
 refine ⟨h2,?_⟩
 have e2 : (startM u inp).steps = 0:=rfl
 have e5 : (startM v inp).steps = 0:=rfl
 unfold resultM
 omega
theorem val_mono {R R' : Int} (h : R ≤ R') {v : LVal} (hv : valErr R v = 0) : valErr R' v = 0:=val_zero.2 fun hr=>by
 have:=val_zero.1 hv hr
 omega
theorem dst_mono {R R' : Int} (h : R ≤ R') {n : Int} (hv : dstErr R n = 0) : dstErr R' n = 0:=by
 unfold dstErr within at hv ⊢
 split at hv
 ·cases hv
 ·rename_i h1
  rw [if_neg]
  simp only [Bool.not_eq_true',Bool.and_eq_false_iff,decide_eq_false_iff_not,not_or,Decidable.not_not] at h1 ⊢
  omega
theorem call_mono {fs : List LFunc} {R R' : Int} (h : R ≤ R') {x : LIns} (hx : callErr fs R x = 0) : callErr fs R' x = 0:=by
 unfold callErr at hx ⊢
 split at hx
 ·rename_i h1; rw [if_pos h1]
 rename_i h1
 rw [if_neg h1]
 split at hx
 ·cases hx
 rename_i h2
 rw [if_neg h2]
 split at hx
 ·cases hx
 rename_i h3
 rw [if_neg h3,firstI_zero']
 intro j hj
 unfold at0
 rw [List.getElem?_eq_getElem hj]
 exact val_mono h (at0_all hx _ (List.getElem_mem hj))
theorem ins_mono {fs : List LFunc} {R R' : Int} (h : R ≤ R') {x : LIns} (hx : insErr fs R x = 0) : insErr fs R' x = 0:=by
 unfold insErr at hx ⊢
 split at hx
 ·cases hx
 rename_i h1
 rw [if_neg h1]
 split at hx
 ·cases hx
 rename_i h2
 rw [if_neg h2]
 split at hx
 ·rename_i h3
  simp [hx] at h3
 rename_i h3
 rw [if_neg fun h4=>h3 (by
  simp only [Bool.and_eq_true,Bool.not_eq_true',decide_eq_false_iff_not] at h4 ⊢
  exact ⟨h4.1,fun h5=>h4.2 (dst_mono h h5)⟩)]
 split at hx
 ·rename_i h4; exact absurd hx h4
 rename_i h4
 have h4:=Decidable.not_not.1 h4
 rw [if_neg (Decidable.not_not.2 (val_mono h h4))]
 split at hx
 ·rename_i h5; exact absurd hx h5
 rename_i h5
 have h5:=Decidable.not_not.1 h5
 rw [if_neg (Decidable.not_not.2 (val_mono h h5))]
 exact call_mono h hx
structure LayCk (fs : List LFunc) (s : List LBlock × Nat) : Prop where
 ends : ∀ C ∈ s.1,EndOk s.1.length s.2 C
 zero : (blkAt s.1 0).phis = []
 pos : 0 < s.1.length
 list : ∀ C ∈ s.1,∀ x ∈ C.list,insErr fs s.2 x = 0
 nums : ∀ C ∈ s.1,BlkNums C
theorem srcAt_nums {bl : List LBlock} (hn : ∀ C ∈ bl,BlkNums C) {t : Nat} (ht : t < bl.length) {p : LPhi} (hp : p ∈ (blkAt bl t).phis) (b : Nat) : inI (srcAt bl t p b).n:=by
 unfold srcAt
 rw [List.getD_eq_getElem?_getD]
 cases hz : p.src[(preds bl t).idxOf b]? with
 | none=>exact ⟨by simp [noV],by simp [noV]⟩
 | some z=>exact (hn _ (List.mem_of_getElem? (get_blkAt ht))).phis p hp z (List.mem_of_getElem? hz)
theorem LayCk.step {fs : List LFunc} {s : List LBlock × Nat} (h : LayCk fs s) (hf : FuncOk s.2 s.1) {i : Nat} {lp : List Int} (hi : i < s.1.length) (ho : outQ s.1 i lp ≠ []) (hb : layR s.1 i lp s.2 ≤ 1000000) : LayCk fs (layB s.1 i lp s.2,layR s.1 i lp s.2):=by
 obtain ⟨bl,R⟩:=s
 simp only at *
 have hends : ∀ C ∈ bl,EndOk bl.length R C:=h.ends
 have hlist : ∀ C ∈ bl,∀ x ∈ C.list,insErr fs R x = 0:=h.list
 have hnums : ∀ C ∈ bl,BlkNums C:=h.nums
 have hg:=hf.good
 have hf2:=lay_funcOk hf hi ho
 have hle : ((R : Nat) : Int) ≤ ((layR bl i lp R : Nat) : Int):=by have:=layR_le (bl:=bl) (h:=i) (lp:=lp) (R:=R); omega
 have hi1 : 1 ≤ i:=by
  obtain ⟨a,ha⟩:=List.exists_mem_of_ne_nil _ ho
  obtain ⟨h1,h2⟩:=out_edge hg ha
  have h3:=(hends _ (List.mem_of_getElem? (get_blkAt h2))).to (i : Int) (by rw [← toOf_get (get_blkAt h2)]; exact h1)
  omega
 have hcases : ∀ C ∈ layB bl i lp R,(∃ c,c < bl.length∧(layB bl i lp R)[c]? = some C∧C = layBk bl i lp R c (blkAt bl c)) ∨ C = porchB bl i lp R:=fun C hC=>by
  obtain ⟨c,hc⟩:=List.getElem?_of_mem hC
  have hcl:=(List.getElem?_eq_some_iff.1 hc).1
  rw [layB_len] at hcl
  by_cases e : c < bl.length
  ·have hc2:=hc
   rw [layB_get (get_blkAt e)] at hc2
   exact .inl ⟨c,e,hc,(Option.some.inj hc2).symm⟩
  ·have : c = bl.length:=by omega
   subst this
   rw [layB_new] at hc
   exact .inr (Option.some.inj hc).symm
 have hbk : ∀ c B,(layBk bl i lp R c B).list = B.list∧(layBk bl i lp R c B).kind = B.kind∧(layBk bl i lp R c B).on = B.on:=fun c B=>by
  unfold layBk
  split <;> exact ⟨rfl,rfl,rfl⟩
 refine ⟨fun C hC=>?_,?_,by rw [layB_len]; omega,fun C hC x hx=>?_,fun C hC=>?_⟩
 ·rw [layB_len]
  rcases hcases C hC with ⟨c,hcl,hc,rfl⟩|rfl
  ·have hB:=hends _ (List.mem_of_getElem? (get_blkAt hcl))
   have hnd:=(hf2.block c _ hc).to
   obtain ⟨_,g2,g3⟩:=hbk c (blkAt bl c)
   have hlen : (layBk bl i lp R c (blkAt bl c)).to.length = (blkAt bl c).to.length:=by
    rw [layBk_to]; unfold layTo; split
    ·rw [List.length_map]
    ·rfl
   refine ⟨by rw [g2]; exact hB.kind,by rw [hlen,g2]; exact hB.len,fun t ht=>?_,fun h3 e=>?_,by rw [g2,g3]; exact hB.one,by rw [g3]; exact val_mono hle hB.on⟩
   ·rw [layBk_to] at ht
    unfold layTo at ht
    split at ht
    ·obtain ⟨x,hx,rfl⟩:=List.mem_map.1 ht
     have:=hB.to x hx
     split <;> omega
    ·have:=hB.to t ht
     omega
   ·have hl:=hB.len
    rw [g2] at h3
    rw [List.getElem?_eq_getElem (show 0 < (layBk bl i lp R c (blkAt bl c)).to.length by omega),List.getElem?_eq_getElem (show 1 < (layBk bl i lp R c (blkAt bl c)).to.length by omega)] at e
    simp only [Option.getD_some] at e
    have:=(List.getElem_inj hnd).1 e
    omega
  ·refine ⟨⟨by simp [porchB],by simp [porchB]⟩,by simp [porchB],fun t ht=>?_,fun h3=>by simp [porchB] at h3,fun _=>rfl,rfl⟩
   simp only [porchB,List.mem_singleton] at ht
   omega
 ·rw [blkAt_lay h.pos,layBk_phis (by omega)]
  exact h.zero
 ·rcases hcases C hC with ⟨c,hcl,_,rfl⟩|rfl
  ·rw [(hbk c (blkAt bl c)).1] at hx
   exact ins_mono hle (hlist _ (List.mem_of_getElem? (get_blkAt hcl)) x hx)
  ·simp [porchB] at hx
 ·rcases hcases C hC with ⟨c,hcl,_,rfl⟩|rfl
  ·have hn:=hnums _ (List.mem_of_getElem? (get_blkAt hcl))
   obtain ⟨g1,_,g3⟩:=hbk c (blkAt bl c)
   refine ⟨by rw [g3]; exact hn.on,fun q hq v hv=>?_,by rw [g1]; exact hn.list⟩
   by_cases e : c = i
   ·subst e
    unfold layBk at hq
    rw [if_pos rfl] at hq
    simp only at hq
    obtain ⟨j,hj⟩:=List.getElem?_of_mem hq
    rw [List.getElem?_mapIdx] at hj
    obtain ⟨p,hp,rfl⟩:=Option.map_eq_some_iff.1 hj
    have hpm:=List.mem_of_getElem? hp
    have hjl:=(List.getElem?_eq_some_iff.1 hp).1
    unfold layPh at hv
    simp only at hv
    rcases List.mem_append.1 hv with hv|hv
    ·obtain ⟨x,_,rfl⟩:=List.mem_map.1 hv
     exact srcAt_nums hnums hcl hpm x
    ·rw [List.mem_singleton.1 hv]
     unfold layV
     split
     ·rename_i h1
      unfold layR at hb
      rw [if_pos h1] at hb
      exact ⟨by simp only; omega,by simp only; omega⟩
     ·exact srcAt_nums hnums hcl hpm _
   ·rw [layBk_phis e] at hq
    exact hn.phis q hq v hv
  ·refine ⟨show inI (0 : Int) from ⟨by omega,by omega⟩,fun q hq v hv=>?_,by simp [porchB]⟩
   unfold porchB porchPs at hq
   simp only at hq
   split at hq
   ·obtain ⟨j,hj⟩:=List.getElem?_of_mem hq
    rw [List.getElem?_mapIdx] at hj
    obtain ⟨p,hp,rfl⟩:=Option.map_eq_some_iff.1 hj
    simp only at hv
    obtain ⟨x,_,rfl⟩:=List.mem_map.1 hv
    exact srcAt_nums hnums hi (List.mem_of_getElem? hp) x
   ·cases hq
theorem layAt_le (lps : List (List Int)) (s : List LBlock × Nat) (h : Nat) : s.2 ≤ (layAt lps s h).2:=by
 unfold layAt
 split
 ·exact layR_le
 ·exact Nat.le_refl _
theorem lays_ck {fs : List LFunc} {bl : List LBlock} {lps : List (List Int)} {R : Nat} (hl : IsLoops bl lps) (hf : FuncOk R bl) (hp : PosOk bl) (h0 : LayCk fs (bl,R)) : ∀ i,i ≤ bl.length→(laysTo lps (bl,R) i).2 ≤ 1000000→LayCk fs (laysTo lps (bl,R) i)
 | 0,_,_=>h0
 | i + 1,hi,hb=>by
  rw [laysTo_succ] at hb ⊢
  have h1:=layAt_le lps (laysTo lps (bl,R) i) i
  have ih:=lays_ck hl hf hp h0 i (by omega) (by omega)
  have hst:=lays_st hl hf hp i (by omega)
  unfold layAt at hb ⊢
  split at hb
  ·rename_i hc
   rw [if_pos hc]
   have hoe:=(hl.out hf.good hp hc.1).2
   rw [← outQ_congr (hst.pre i (Nat.le_refl _) (by omega))] at hoe
   exact ih.step hst.ok (by have:=hst.len; omega) hoe hb
  ·rename_i hc
   rw [if_neg hc]
   exact ih
theorem layCk_zero {u : LUnit} (hu : Whole u) {k : Nat} {X : LFunc} (hX : u.funcs[k]? = some X) {R : Nat} (hR : X.regs = R) : LayCk u.funcs (X.blocks,R):=by
 have hb:=hu.ok.body X (List.mem_of_getElem? hX)
 have hs:=FnTo.same hu.ok hX
 refine ⟨fun C hC=>by rw [← hR]; exact end_zero.1 (hb.ends C hC),?_,by have:=hs.many; simp only; omega,fun C hC x hx=>?_,hu.nums X (List.mem_of_getElem? hX)⟩
 ·simp only
  refine List.eq_nil_iff_forall_not_mem.2 fun p hp=>?_
  have h1:=hb.phis 0 _ (get_blkAt (by have:=hs.many; omega)) p hp
  unfold phiErr at h1
  exact (phi_zero.1 h1).1 rfl
 ·obtain ⟨c,hc⟩:=List.getElem?_of_mem hC
  simp only
  rw [← hR]
  exact hb.list c C hc x hx
theorem lays_fnTo {u : LUnit} (hu : Whole u) {k : Nat} {X : LFunc} (hX : u.funcs[k]? = some X) {lps : List (List Int)} (hl : IsLoops X.blocks lps) {R : Nat} (hR : X.regs = R) (hL : largeL (laysTo lps (X.blocks,R) X.blocks.length).1 (laysTo lps (X.blocks,R) X.blocks.length).2 = false) :
  FnTo u.funcs X { X with blocks:=(laysTo lps (X.blocks,R) X.blocks.length).1,regs:=((laysTo lps (X.blocks,R) X.blocks.length).2 : Nat) }∧∀ C ∈ (laysTo lps (X.blocks,R) X.blocks.length).1,BlkNums C:=by
 have hs:=FnTo.same hu.ok hX
 obtain ⟨R2,hXR,hR2,hf⟩:=check_func (check_zero.2 hu.ok) hX
 obtain rfl : R = R2:=by omega
 have hp:=(fn_kind hu.ok hX).2
 have hst:=lays_st hl hf hp X.blocks.length (Nat.le_refl _)
 unfold largeL at hL
 simp only [Bool.or_eq_false_iff,decide_eq_false_iff_not] at hL
 have hck:=lays_ck hl hf hp (layCk_zero hu hX hR) X.blocks.length (Nat.le_refl _) (by omega)
 have hms:=many_size (laysTo lps (X.blocks,R) X.blocks.length).1
 generalize laysTo lps (X.blocks,R) X.blocks.length = s at *
 have h1:=hst.len
 have h2:=hst.regs
 have h3:=hs.many
 refine ⟨⟨rfl,rfl,⟨?_,?_⟩,⟨?_,?_⟩,?_,⟨fun C hC=>?_,fun c C hC p hp=>?_,fun c C hC x hx=>?_⟩⟩,hck.nums⟩
 ·have:=hs.regs; simp only; omega
 ·simp only; omega
 ·simp only; omega
 ·simp only; omega
 ·simp only; omega
 ·exact end_zero.2 (hck.ends C hC)
 ·have hcl:=(List.getElem?_eq_some_iff.1 hC).1
  have hg:=hst.ok.good
  have hB:=(hst.ok.block c C hC).phis p hp
  unfold phiErr
  rw [aheadL_get hg (fun b B hB=>(hst.ok.block b B hB).to) hcl,Option.getD_some,List.length_map]
  refine phi_zero.2 ⟨fun e=>?_,hB.dst,hB.len,fun v hv=>val_zero.2 (hB.vals v hv)⟩
  subst e
  have h4:=hck.zero
  rw [blkAt_get hC] at h4
  rw [h4] at hp
  cases hp
 ·exact hck.list C (List.mem_of_getElem? hC) x hx
theorem layU_get (u : LUnit) (k : Nat) : (layU u).funcs[k]? = (u.funcs[k]?).map layF:=by unfold layU; simp only [List.getElem?_map]
theorem layF_eq {X : LFunc} {R : Nat} (hR : X.regs = R) : layF X = { X with blocks:=(laysTo (loopsL X.blocks) (X.blocks,R) X.blocks.length).1,regs:=((laysTo (loopsL X.blocks) (X.blocks,R) X.blocks.length).2 : Nat) }:=by
 unfold layF layN
 rw [hR,Int.toNat_natCast]
theorem layU_whole {u : LUnit} (hu : Whole u) (hL : ∀ X ∈ u.funcs,largeF (layF X) = false) : Whole (layU u):=by
 have key : ∀ (k : Nat) X,u.funcs[k]? = some X→FnTo u.funcs X (layF X)∧∀ C ∈ (layF X).blocks,BlkNums C:=fun k X hX=>by
  obtain ⟨R,hXR,hR,hf⟩:=check_func (check_zero.2 hu.ok) hX
  have h1:=hL X (List.mem_of_getElem? hX)
  rw [layF_eq hXR] at h1 ⊢
  exact lays_fnTo hu hX (loopsL_is _) hXR h1
 refine ⟨check_map hu.ok rfl (by unfold layU; rw [List.length_map]) fun i X Y hX hY=>?_,fun Y hY C hC=>?_,hu.gnums⟩
 ·rw [layU_get,hX] at hY
  obtain rfl:=Option.some.inj hY
  exact (key i X hX).1
 ·unfold layU at hY
  obtain ⟨X,hX,rfl⟩:=List.mem_map.1 hY
  obtain ⟨k,hk⟩:=List.getElem?_of_mem hX
  exact (key k X hk).2 C hC
theorem layU_main (u : LUnit) : mainAt (layU u).funcs = mainAt u.funcs:=by
 rw [mainAt_map,mainAt_map]
 unfold layU
 simp only [List.map_map]
 rfl
theorem layU_laid {u : LUnit} (hc : CheckOk u) : LaidU u (layU u):=⟨rfl,layU_main u,fun k X R hX hR=>by
 obtain ⟨R2,hXR,hR2,hf⟩:=check_func (check_zero.2 hc) hX
 obtain rfl : R = R2:=by omega
 have hp:=(fn_kind hc hX).2
 refine ⟨layF X,(laysTo (loopsL X.blocks) (X.blocks,R) X.blocks.length).2,by rw [layU_get,hX]; rfl,by rw [layF_eq hR],(lays_st (loopsL_is _) hf hp _ (Nat.le_refl _)).regs.1,?_⟩
 rw [layF_eq hR]
 exact lays_laid (loopsL_is _) hf hp _ (Nat.le_refl _)⟩
theorem layF_again {u : LUnit} (hc : CheckOk u) {k : Nat} {X : LFunc} (hX : u.funcs[k]? = some X) : layF (layF X) = layF X:=by
 obtain ⟨R,hR,hR2,hf⟩:=check_func (check_zero.2 hc) hX
 have hp:=(fn_kind hc hX).2
 have h1:=lays_again (lps':=loopsL (layF X).blocks) (loopsL_is X.blocks) hf hp (by rw [layF_eq hR]; exact loopsL_is _) (layF X).blocks.length
 have h2 : laysTo (loopsL X.blocks) (X.blocks,R) X.blocks.length = ((layF X).blocks,(layF X).regs.toNat):=by
  rw [layF_eq hR]
  simp
 rw [h2] at h1
 have h3 : ∀ Y : LFunc,layF Y = { Y with blocks:=(laysTo (loopsL Y.blocks) (Y.blocks,Y.regs.toNat) Y.blocks.length).1,regs:=(((laysTo (loopsL Y.blocks) (Y.blocks,Y.regs.toNat) Y.blocks.length).2 : Nat) : Int) }:=fun _=>rfl
 have h4 : ((layF X).regs.toNat : Int) = (layF X).regs:=by
  rw [layF_eq hR]
  simp
 rw [h3 (layF X),h1]
 simp only
 rw [h4]
theorem layU_again {u : LUnit} (hc : CheckOk u) : layU (layU u) = layU u:=by
 unfold layU
 simp only [List.map_map]
 congr 1
 refine List.map_congr_left fun X hX=>?_
 obtain ⟨k,hk⟩:=List.getElem?_of_mem hX
 exact layF_again hc hk
theorem layF_porch {u : LUnit} (hc : CheckOk u) {k : Nat} {X : LFunc} (hX : u.funcs[k]? = some X) {h : Nat} (h0 : 0 < ((loopsL (layF X).blocks).getD h []).length) : porchOk (layF X).blocks h ((loopsL (layF X).blocks).getD h []) = true:=by
 obtain ⟨R,hR,hR2,hf⟩:=check_func (check_zero.2 hc) hX
 have hp:=(fn_kind hc hX).2
 have e : (layF X).blocks = (laysTo (loopsL X.blocks) (X.blocks,R) X.blocks.length).1:=by rw [layF_eq hR]
 rw [e] at h0 ⊢
 exact lays_porch (loopsL_is X.blocks) hf hp (loopsL_is _) h0
end Go.Proofs.YtdbljcahlpkgdaaGreatDoor
