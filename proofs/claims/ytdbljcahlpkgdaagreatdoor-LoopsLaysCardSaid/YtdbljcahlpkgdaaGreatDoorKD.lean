/- Texts joined: LayP LayQ LayG LayK LayI LayF LayR LayS LayW LayV. -/
import Derived.Test.YtdbljcahlpkgdaaGreatDoorHW
import Derived.Test.YtdbljcahlpkgdaaGreatDoorHY
import Derived.Test.YtdbljcahlpkgdaaGreatDoorIA
import Derived.Test.YtdbljcahlpkgdaaGreatDoorIH
import Derived.Test.YtdbljcahlpkgdaaGreatDoorKC
namespace Go.Proofs.YtdbljcahlpkgdaaGreatDoor
open Go Go.RowKit
section
variable (bl : List LBlock) (h : Nat) (lp : List Int) (R : Nat)
def inQ : List Nat:=(preds bl h).filter fun a : Nat=>decide ((a : Int) ∈ lp)
def outQ : List Nat:=(preds bl h).filter fun a : Nat=>decide ((a : Int) ∉ lp)
def layV (i : Nat) (p : LPhi) : LVal:=if 1 < (outQ bl h lp).length then ⟨true,((R + i : Nat) : Int)⟩ else srcAt bl h p ((outQ bl h lp).getD 0 0)
def layPh (i : Nat) (p : LPhi) : LPhi:=⟨p.dst,(inQ bl h lp).map (srcAt bl h p)++[layV bl h lp R i p]⟩
def porchPs : List LPhi:=if 1 < (outQ bl h lp).length then (blkAt bl h).phis.mapIdx fun i p=>⟨((R + i : Nat) : Int),(outQ bl h lp).map (srcAt bl h p)⟩ else []
def layTo (c : Nat) (to : List Int) : List Int:=if c ∈ outQ bl h lp then to.map (fun t=>if t = (h : Int) then (bl.length : Int) else t) else to
def layBk (c : Nat) (B : LBlock) : LBlock:={ (if c = h then { B with phis:=B.phis.mapIdx (layPh bl h lp R) } else B) with to:=layTo bl h lp c B.to }
def porchB : LBlock:=⟨porchPs bl h lp R,[],2,noV,[(h : Int)]⟩
def layB : List LBlock:=bl.mapIdx (layBk bl h lp R)++[porchB bl h lp R]
def layR : Nat:=if 1 < (outQ bl h lp).length then R + (blkAt bl h).phis.length else R
end
section
variable {bl : List LBlock} {h : Nat} {lp : List Int} {R : Nat}
theorem layB_len : (layB bl h lp R).length = bl.length + 1:=by unfold layB; simp
theorem layB_get {c : Nat} {B : LBlock} (hB : bl[c]? = some B) : (layB bl h lp R)[c]? = some (layBk bl h lp R c B):=by
 have hl:=(List.getElem?_eq_some_iff.1 hB).1
 unfold layB
 rw [List.getElem?_append_left (by simp [hl]),List.getElem?_mapIdx,hB]
 rfl
theorem layB_new : (layB bl h lp R)[bl.length]? = some (porchB bl h lp R):=by
 unfold layB
 rw [List.getElem?_append_right (by simp),List.length_mapIdx,Nat.sub_self]
 rfl
theorem layBk_to (c : Nat) (B : LBlock) : (layBk bl h lp R c B).to = layTo bl h lp c B.to:=rfl
theorem layR_le : R ≤ layR bl h lp R:=by unfold layR; split <;> omega
theorem toOf_lay {c : Nat} (hc : c < bl.length) : toOf (layB bl h lp R) c = layTo bl h lp c (toOf bl c):=by
 unfold toOf
 rw [layB_get (get_blkAt hc),get_blkAt hc]
 rfl
theorem toOf_new : toOf (layB bl h lp R) bl.length = [(h : Int)]:=by
 unfold toOf
 rw [layB_new]
 rfl
theorem mem_outQ {a : Nat} : a ∈ outQ bl h lp ↔ a ∈ preds bl h∧(a : Int) ∉ lp:=by unfold outQ; rw [List.mem_filter,decide_eq_true_eq]
theorem mem_inQ {a : Nat} : a ∈ inQ bl h lp ↔ a ∈ preds bl h∧(a : Int) ∈ lp:=by unfold inQ; rw [List.mem_filter,decide_eq_true_eq]
theorem mem_preds {x a : Nat} : a ∈ preds bl x ↔ a < bl.length∧(x : Int) ∈ toOf bl a:=by unfold preds; rw [List.mem_filter,List.mem_range,decide_eq_true_eq]
variable (hg : GoodB bl)
include hg
theorem layTo_mem {c x : Nat} (hx : x < bl.length) : (x : Int) ∈ layTo bl h lp c (toOf bl c) ↔ (x : Int) ∈ toOf bl c∧¬ (x = h∧c ∈ outQ bl h lp):=by
 have _:=hg
 unfold layTo
 split
 ·rename_i hc
  rw [List.mem_map]
  constructor
  ·rintro ⟨t,ht,e⟩
   split at e
   ·omega
   ·rename_i hn
    exact ⟨by rw [← e]; exact ht,fun hh=>hn (by rw [e,hh.1])⟩
  ·rintro ⟨h1,h2⟩
   exact ⟨_,h1,by rw [if_neg (fun e=>h2 ⟨by omega,hc⟩)]⟩
 ·rename_i hc
  exact ⟨fun h1=>⟨h1,fun h2=>hc h2.2⟩,fun h1=>h1.1⟩
theorem layTo_new {c : Nat} (hc : c < bl.length) : ((bl.length : Nat) : Int) ∈ layTo bl h lp c (toOf bl c) ↔ c ∈ outQ bl h lp:=by
 unfold layTo
 split
 ·rename_i hm
  rw [List.mem_map]
  exact ⟨fun _=>hm,fun _=>⟨h,(mem_preds.1 (mem_outQ.1 hm).1).2,if_pos rfl⟩⟩
 ·rename_i hm
  refine ⟨fun h1=>?_,fun h1=>absurd h1 hm⟩
  have:=edge_of hg h1
  omega
theorem preds_lay_same {x : Nat} (hx : x < bl.length) (hne : x ≠ h) : preds (layB bl h lp R) x = preds bl x:=by
 unfold preds
 rw [layB_len,List.range_succ,List.filter_append]
 have h1 : ([bl.length] : List Nat).filter (fun q=>decide ((x : Int) ∈ toOf (layB bl h lp R) q)) = []:=by
  rw [List.filter_cons_of_neg (by rw [toOf_new]; simp; omega)]
  rfl
 rw [h1,List.append_nil]
 refine List.filter_congr fun q hq=>?_
 have hql:=List.mem_range.1 hq
 rw [toOf_lay hql,decide_eq_decide,layTo_mem hg hx]
 exact ⟨fun h=>h.1,fun h=>⟨h,fun h2=>hne h2.1⟩⟩
theorem preds_lay_head (hh : h < bl.length) : preds (layB bl h lp R) h = inQ bl h lp++[bl.length]:=by
 unfold preds inQ
 rw [layB_len,List.range_succ,List.filter_append]
 have h1 : ([bl.length] : List Nat).filter (fun q=>decide ((h : Int) ∈ toOf (layB bl h lp R) q)) = [bl.length]:=by
  rw [List.filter_cons_of_pos (by rw [toOf_new]; simp)]
  rfl
 rw [h1]
 congr 1
 unfold preds
 rw [List.filter_filter]
 refine List.filter_congr fun q hq=>?_
 have hql:=List.mem_range.1 hq
 rw [toOf_lay hql,← Bool.decide_and,decide_eq_decide,layTo_mem hg hh,mem_outQ,mem_preds]
 constructor
 ·rintro ⟨g1,g2⟩
  exact ⟨Classical.byContradiction fun hn=>g2 ⟨rfl,⟨hql,g1⟩,hn⟩,g1⟩
 ·rintro ⟨g1,g2⟩
  exact ⟨g2,fun g3=>g3.2.2 g1⟩
theorem preds_lay_new (hh : h < bl.length) : preds (layB bl h lp R) bl.length = outQ bl h lp:=by
 have h1 : ([bl.length] : List Nat).filter (fun q=>decide (((bl.length : Nat) : Int) ∈ toOf (layB bl h lp R) q)) = []:=by
  rw [List.filter_cons_of_neg (by rw [toOf_new]; simp; omega)]
  rfl
 unfold preds
 rw [layB_len,List.range_succ,List.filter_append,h1,List.append_nil]
 unfold outQ preds
 rw [List.filter_filter]
 refine List.filter_congr fun q hq=>?_
 have hql:=List.mem_range.1 hq
 rw [toOf_lay hql,← Bool.decide_and,decide_eq_decide,layTo_new hg hql,mem_outQ,mem_preds]
 exact ⟨fun g=>⟨g.2,g.1.2⟩,fun g=>⟨⟨hql,g.2⟩,g.1⟩⟩
theorem lay_good (hh : h < bl.length) : GoodB (layB bl h lp R):=fun C hC=>by
 rw [layB_len]
 unfold layB at hC
 rcases List.mem_append.1 hC with hC|hC
 ·obtain ⟨c,hc⟩:=List.getElem?_of_mem hC
  have hcl : c < bl.length:=by have:=(List.getElem?_eq_some_iff.1 hc).1; rwa [List.length_mapIdx] at this
  rw [List.getElem?_mapIdx,get_blkAt hcl] at hc
  obtain rfl:=Option.some.inj hc
  obtain ⟨g1,g2⟩:=hg _ (List.mem_of_getElem? (get_blkAt hcl))
  rw [layBk_to]
  unfold layTo
  split
  ·refine ⟨by rw [List.length_map]; exact g1,fun t ht=>?_⟩
   obtain ⟨y,hy,rfl⟩:=List.mem_map.1 ht
   have:=g2 y hy
   split <;> omega
  ·exact ⟨g1,fun t ht=>by have:=g2 t ht; omega⟩
 ·rw [List.mem_singleton.1 hC]
  refine ⟨by unfold porchB; simp,fun t ht=>?_⟩
  unfold porchB at ht
  simp only [List.mem_singleton] at ht
  omega
end
theorem ValOk.mono {R R' : Nat} (h : R ≤ R') {v : LVal} (hv : ValOk R v) : ValOk R' v:=fun hr=>by
 have:=hv hr
 omega
theorem InsOk.mono {R R' : Nat} (h : R ≤ R') {x : LIns} (hx : InsOk R x) : InsOk R' x:=⟨hx.op,hx.args,fun hd=>by have:=hx.dst hd; omega,fun v hv=>(hx.vals v hv).mono h⟩
theorem lay_funcOk {bl : List LBlock} {h : Nat} {lp : List Int} {R : Nat} (hf : FuncOk R bl) (hh : h < bl.length) (ho : outQ bl h lp ≠ []) : FuncOk (layR bl h lp R) (layB bl h lp R):=by
 have hg:=hf.good
 have hle : R ≤ layR bl h lp R:=layR_le
 have hH:=hf.block h _ (get_blkAt hh)
 have hv : ∀ p ∈ (blkAt bl h).phis,∀ q ∈ preds bl h,ValOk (layR bl h lp R) (srcAt bl h p q):=fun p hp q hq=>((hH.phis p hp).vals _ (srcAt_mem (R:=R) (hH.phis p hp).len hq)).mono hle
 have hR2 : 1 < (outQ bl h lp).length→layR bl h lp R = R + (blkAt bl h).phis.length:=fun h1=>by unfold layR; rw [if_pos h1]
 refine ⟨lay_good hg hh,fun c C hc=>?_⟩
 by_cases hcl : c < bl.length
 ·rw [layB_get (get_blkAt hcl)] at hc
  obtain rfl:=Option.some.inj hc
  have hB:=hf.block c _ (get_blkAt hcl)
  have hto : (layBk bl h lp R c (blkAt bl c)).to.Nodup:=by
   rw [layBk_to]
   unfold layTo
   split
   ·refine nodup_mapOn hB.to fun x hx y hy e=>?_
    have h1:=(hg _ (List.mem_of_getElem? (get_blkAt hcl))).2 x hx
    have h2:=(hg _ (List.mem_of_getElem? (get_blkAt hcl))).2 y hy
    split at e
    ·split at e
     ·omega
     ·omega
    ·split at e
     ·omega
     ·exact e
   ·exact hB.to
  have hl : (layBk bl h lp R c (blkAt bl c)).list = (blkAt bl c).list:=by unfold layBk; split <;> rfl
  have hon : (layBk bl h lp R c (blkAt bl c)).on = (blkAt bl c).on:=by unfold layBk; split <;> rfl
  refine ⟨fun p hp=>?_,fun x hx=>(hB.list x (by rw [← hl]; exact hx)).mono hle,by rw [hon]; exact hB.on.mono hle,hto⟩
  by_cases e : c = h
  ·subst e
   rw [preds_lay_head hg hh,List.length_append,List.length_singleton]
   unfold layBk at hp
   rw [if_pos rfl] at hp
   simp only at hp
   obtain ⟨i,hi⟩:=List.getElem?_of_mem hp
   rw [List.getElem?_mapIdx] at hi
   obtain ⟨q,hq,rfl⟩:=Option.map_eq_some_iff.1 hi
   have hqm:=List.mem_of_getElem? hq
   have hil:=(List.getElem?_eq_some_iff.1 hq).1
   have hpo:=hB.phis q hqm
   refine ⟨by unfold layPh; simp only; have:=hpo.dst; omega,by unfold layPh; simp,fun v hvm=>?_⟩
   unfold layPh at hvm
   simp only at hvm
   rcases List.mem_append.1 hvm with hvm|hvm
   ·obtain ⟨y,hy,rfl⟩:=List.mem_map.1 hvm
    exact hv q hqm y (mem_inQ.1 hy).1
   ·rw [List.mem_singleton.1 hvm]
    unfold layV
    split
    ·rename_i h1
     intro _
     rw [hR2 h1]
     simp only
     omega
    ·refine hv q hqm _ ((mem_outQ (lp:=lp)).1 ?_).1
     rw [List.getD_eq_getElem?_getD,List.getElem?_eq_getElem (List.length_pos_iff.2 ho),Option.getD_some]
     exact List.getElem_mem _
  ·rw [preds_lay_same hg hcl e]
   unfold layBk at hp
   rw [if_neg e] at hp
   have hpo:=hB.phis p hp
   exact ⟨by have:=hpo.dst; omega,hpo.len,fun v hv=>(hpo.vals v hv).mono hle⟩
 ·have hcn : c = bl.length:=by
   have:=(List.getElem?_eq_some_iff.1 hc).1
   rw [layB_len] at this
   omega
  subst hcn
  rw [layB_new] at hc
  obtain rfl:=Option.some.inj hc
  refine ⟨fun p hp=>?_,fun x hx=>(by unfold porchB at hx; cases hx),(by unfold porchB ValOk noV; simp),(by unfold porchB; simp)⟩
  rw [preds_lay_new hg hh]
  unfold porchB porchPs at hp
  simp only at hp
  split at hp
  ·rename_i h1
   obtain ⟨i,hi⟩:=List.getElem?_of_mem hp
   rw [List.getElem?_mapIdx] at hi
   obtain ⟨q,hq,rfl⟩:=Option.map_eq_some_iff.1 hi
   have hqm:=List.mem_of_getElem? hq
   have hil:=(List.getElem?_eq_some_iff.1 hq).1
   refine ⟨by rw [hR2 h1]; simp only; omega,by simp,fun v hvm=>?_⟩
   obtain ⟨y,hy,rfl⟩:=List.mem_map.1 hvm
   exact hv q hqm y (mem_outQ.1 hy).1
  ·cases hp
theorem out_some {bl : List LBlock} (hg : GoodB bl) (hp : PosOk bl) {h : Nat} {lp : List Int} (hlp : ∀ x : Nat,(x : Int) ∈ lp→InLoop bl h x) (hne : ∃ x : Nat,(x : Int) ∈ lp) : h < bl.length∧outQ bl h lp ≠ []:=by
 obtain ⟨x,hx⟩:=hne
 have hin:=hlp x hx
 have hd:=hin.dom
 obtain ⟨t,⟨hb,_⟩,_⟩:=hin
 have hed : Edge bl t h:=hb.2.1
 have hh0 : h ≠ 0:=fun e=>by
  have:=hp t (h : Int) hed
  omega
 have hlt:=(edge_of hg hed).2.1
 refine ⟨by omega,?_⟩
 obtain ⟨a,h1,h3⟩:=hd.1.first (fun e=>hh0 e.symm)
 have h2 : (a : Int) ≠ h:=h1.ends (by omega)
 refine List.ne_nil_of_mem (mem_outQ.2 ⟨mem_preds.2 ⟨(edge_of hg h3).2.2,h3⟩,fun ha=>?_⟩)
 have hd2:=(hlp a ha).dom
 rcases hd2.2.2 with e|e|e
 ·omega
 ·exact hh0 e
 ·exact e h1
def porchOk (bl : List LBlock) (h : Nat) (lp : List Int) : Bool:=decide ((outQ bl h lp).length = 1) && decide ((blkAt bl ((outQ bl h lp).getD 0 0)).kind = 2)
def layAt (lps : List (List Int)) (s : List LBlock × Nat) (h : Nat) : List LBlock × Nat :=
 if 0 < (lps.getD h []).length∧porchOk s.1 h (lps.getD h []) = false then (layB s.1 h (lps.getD h []) s.2,layR s.1 h (lps.getD h []) s.2) else s
def laysTo (lps : List (List Int)) (s : List LBlock × Nat) (i : Nat) : List LBlock × Nat:=(List.range i).foldl (layAt lps) s
theorem laysTo_succ (lps : List (List Int)) (s : List LBlock × Nat) (i : Nat) : laysTo lps s (i + 1) = layAt lps (laysTo lps s i) i:=by unfold laysTo; rw [List.range_succ,List.foldl_append]; rfl
structure LaySt (bl : List LBlock) (R i : Nat) (s : List LBlock × Nat) : Prop where
 ok : FuncOk s.2 s.1
 len : bl.length ≤ s.1.length∧s.1.length ≤ bl.length + i
 regs : R ≤ s.2∧s.2 ≤ R + manyL (bl.take i)
 phl : ∀ x,x < bl.length→(blkAt s.1 x).phis.length = (blkAt bl x).phis.length
 pre : ∀ x,i ≤ x→x < bl.length→preds s.1 x = preds bl x
theorem outQ_congr {bl bl' : List LBlock} {h : Nat} {lp : List Int} (hp : preds bl' h = preds bl h) : outQ bl' h lp = outQ bl h lp:=by unfold outQ; rw [hp]
theorem LaySt.step {bl : List LBlock} {R i : Nat} {s : List LBlock × Nat} {lps : List (List Int)} (h : LaySt bl R i s) (hi : i < bl.length) (ho : 0 < (lps.getD i []).length→outQ bl i (lps.getD i []) ≠ []) : LaySt bl R (i + 1) (layAt lps s i):=by
 have hm:=many_take (get_blkAt hi)
 unfold layAt
 split
 ·rename_i hc
  have hil : i < s.1.length:=by have:=h.len; omega
  have hg:=h.ok.good
  have hoe:=ho hc.1
  rw [← outQ_congr (h.pre i (Nat.le_refl _) hi)] at hoe
  refine ⟨lay_funcOk h.ok hil hoe,by simp only; rw [layB_len]; have:=h.len; omega,?_,fun x hx=>?_,fun x h1 h2=>?_⟩
  ·simp only
   have h3:=layR_le (bl:=s.1) (h:=i) (lp:=lps.getD i []) (R:=s.2)
   have h4:=h.regs
   have h5:=h.phl i hi
   refine ⟨by omega,?_⟩
   unfold layR
   split <;> omega
  ·simp only
   have hxs : x < s.1.length:=by have:=h.len; omega
   rw [blkAt_get (layB_get (get_blkAt hxs)),← h.phl x hx]
   unfold layBk
   split
   ·simp
   ·rfl
  ·simp only
   rw [preds_lay_same hg (by have:=h.len; omega) (by omega)]
   exact h.pre x (by omega) h2
 ·exact ⟨h.ok,by have:=h.len; omega,by have:=h.regs; omega,h.phl,fun x h1 h2=>h.pre x (by omega) h2⟩
def pickV (m : Int→Bool) (row : List Int) (ls : List LVal) : List LVal:=((row.zip ls).filter fun q=>m q.1).map (·.2)
theorem pickV_succ {m : Int→Bool} {row : List Int} {ls : List LVal} {j : Nat} {x : Int} {v : LVal} (hx : row[j]? = some x) (hv : ls[j]? = some v) : pickV m (row.take (j + 1)) ls = pickV m (row.take j) ls++if m x then [v] else []:=by
 unfold pickV
 have hj:=(List.getElem?_eq_some_iff.1 hx).1
 have h1 : (row.take (j + 1)).zip ls = (row.take j).zip ls++[(x,v)]:=by
  have h2 : ∀ (r : List Int) (l : List LVal) (k : Nat),(r.take k).zip l = (r.zip l).take k:=by
   intro r
   induction r with
   | nil=>intro l k; simp
   | cons y r ih =>
    intro l k
    cases l with
    | nil=>simp
    | cons z l =>
     cases k with
     | zero=>simp
     | succ k=>simp [ih]
  have h3 : (row.zip ls)[j]? = some (x,v):=List.getElem?_zip_eq_some.2 ⟨hx,hv⟩
  rw [h2,h2,List.take_add_one,h3]
  rfl
 rw [h1,List.filter_append,List.map_append]
 congr 1
 by_cases e : m x = true
 ·rw [List.filter_cons_of_pos (by simpa using e),if_pos e]; rfl
 ·rw [List.filter_cons_of_neg (by simpa using e),if_neg e]; rfl
theorem pickV_all (m : Int→Bool) (g : Nat→LVal) : ∀ (l : List Nat),pickV m (l.map fun x : Nat=>(x : Int)) (l.map g) = (l.filter fun a : Nat=>m a).map g
 | []=>rfl
 | a::l=>by
  have h:=pickV_all m g l
  unfold pickV at h ⊢
  rw [List.map_cons,List.map_cons,List.zip_cons_cons]
  by_cases e : m (a : Int) = true
  ·rw [List.filter_cons_of_pos (by simpa using e),List.filter_cons_of_pos (by simpa using e),List.map_cons,List.map_cons,h]
  ·rw [List.filter_cons_of_neg (by simpa using e),List.filter_cons_of_neg (by simpa using e),h]
theorem src_map {bl : List LBlock} {t : Nat} {p : LPhi} (h : p.src.length = (preds bl t).length) : (preds bl t).map (srcAt bl t p) = p.src:=by
 apply List.ext_getElem?
 intro i
 by_cases hi : i < (preds bl t).length
 ·rw [List.getElem?_map,List.getElem?_eq_getElem hi,Option.map_some,List.getElem?_eq_getElem (by omega : i < p.src.length)]
  unfold srcAt
  rw [(preds_nodup bl t).idxOf_getElem i hi,List.getD_eq_getElem?_getD,List.getElem?_eq_getElem (by omega),Option.getD_some]
 ·rw [List.getElem?_eq_none (by simp; omega),List.getElem?_eq_none (by omega)]
theorem pickV_in {bl : List LBlock} {t : Nat} {lp : List Int} {p : LPhi} (h : p.src.length = (preds bl t).length) : pickV (fun x=>decide (x ∈ lp)) ((preds bl t).map fun x : Nat=>(x : Int)) p.src = (inQ bl t lp).map (srcAt bl t p):=by
 conv=>lhs; rw [← src_map h]
 exact pickV_all _ _ _
theorem pickV_out {bl : List LBlock} {t : Nat} {lp : List Int} {p : LPhi} (h : p.src.length = (preds bl t).length) : pickV (fun x=>decide (x ∉ lp)) ((preds bl t).map fun x : Nat=>(x : Int)) p.src = (outQ bl t lp).map (srcAt bl t p):=by
 conv=>lhs; rw [← src_map h]
 exact pickV_all _ _ _
theorem pickV_le (m : Int→Bool) (row : List Int) (ls : List LVal) : (pickV m row ls).length ≤ row.length:=by
 unfold pickV
 rw [List.length_map]
 refine Nat.le_trans (List.length_filter_le _ _) ?_
 rw [List.length_zip]
 omega
theorem pickV_mem {m : Int→Bool} {row : List Int} {ls : List LVal} {v : LVal} (h : v ∈ pickV m row ls) : v ∈ ls:=by
 unfold pickV at h
 obtain ⟨q,hq,rfl⟩:=List.mem_map.1 h
 exact (List.of_mem_zip (List.mem_filter.1 hq).1).2
section
variable (bl : List LBlock) (h : Nat) (lp : List Int) (R : Nat)
def porchTo (i : Nat) : List LPhi:=(porchPs bl h lp R).take i
def regTo (i : Nat) : Nat:=if 1 < (outQ bl h lp).length then R + i else R
def phisTo (i : Nat) : List LPhi:=((blkAt bl h).phis.take i).mapIdx (layPh bl h lp R)
def turnTo (n : Nat) (D : List Nat) (c : Nat) (to : List Int) : List Int:=if c ∈ D then to.map (fun t=>if t = (h : Int) then (n : Int) else t) else to
end
theorem mapIdx_take_succ {α β : Type} (f : Nat→α→β) (l : List α) {i : Nat} {x : α} (h : l[i]? = some x) : (l.take (i + 1)).mapIdx f = (l.take i).mapIdx f++[f i x]:=by
 have hi:=(List.getElem?_eq_some_iff.1 h).1
 rw [List.take_add_one,h,List.mapIdx_append]
 have : (l.take i).length = i:=by rw [List.length_take]; omega
 rw [this]
 simp
section
variable {bl : List LBlock} {h : Nat} {lp : List Int} {R : Nat}
theorem porchTo_zero : porchTo bl h lp R 0 = []:=by unfold porchTo; simp
theorem porchTo_succ {i : Nat} {p : LPhi} (hp : (blkAt bl h).phis[i]? = some p) : porchTo bl h lp R (i + 1) = porchTo bl h lp R i++if 1 < (outQ bl h lp).length then [⟨((R + i : Nat) : Int),(outQ bl h lp).map (srcAt bl h p)⟩] else []:=by
 unfold porchTo porchPs
 split
 ·rw [List.take_add_one,List.getElem?_mapIdx,hp]
  rfl
 ·simp
theorem porchTo_len {i : Nat} (hi : i ≤ (blkAt bl h).phis.length) : (porchTo bl h lp R i).length = if 1 < (outQ bl h lp).length then i else 0:=by
 unfold porchTo porchPs
 split
 ·rw [List.length_take,List.length_mapIdx]; omega
 ·simp
theorem porchTo_all : porchTo bl h lp R (blkAt bl h).phis.length = porchPs bl h lp R:=by
 unfold porchTo
 refine List.take_of_length_le ?_
 unfold porchPs
 split
 ·rw [List.length_mapIdx]; exact Nat.le_refl _
 ·simp
theorem regTo_zero : regTo bl h lp R 0 = R:=by unfold regTo; split <;> omega
theorem regTo_all : regTo bl h lp R (blkAt bl h).phis.length = layR bl h lp R:=rfl
theorem phisTo_succ {i : Nat} {p : LPhi} (hp : (blkAt bl h).phis[i]? = some p) : phisTo bl h lp R (i + 1) = phisTo bl h lp R i++[layPh bl h lp R i p]:=mapIdx_take_succ _ _ hp
theorem phisTo_all : phisTo bl h lp R (blkAt bl h).phis.length = (blkAt bl h).phis.mapIdx (layPh bl h lp R):=by unfold phisTo; rw [List.take_length]
end
theorem turnTo_nil (h n c : Nat) (to : List Int) : turnTo h n [] c to = to:=by unfold turnTo; rw [if_neg (by simp)]
theorem set_turn {h : Int} {n : Int} : ∀ {to : List Int},to.Nodup→h ∈ to→to.set (to.idxOf h) n = to.map fun t=>if t = h then n else t
 | [],_,hm=>by simp at hm
 | t::l,hn,hm=>by
  have hn2:=List.nodup_cons.1 hn
  by_cases e : t = h
  ·subst e
   rw [List.idxOf_cons_self,List.set_cons_zero,List.map_cons,if_pos rfl]
   congr 1
   conv=>lhs; rw [← List.map_id l]
   refine List.map_congr_left fun x hx=>?_
   rw [if_neg (fun e2 : x = t=>hn2.1 (by rw [← e2]; exact hx))]
   rfl
  ·have e3 : (t::l).idxOf h = l.idxOf h + 1:=by rw [List.idxOf_cons,beq_false_of_ne e]; rfl
   rw [e3,List.set_cons_succ,List.map_cons,if_neg e,set_turn hn2.2 ((List.mem_cons.1 hm).resolve_left fun e2=>e e2.symm)]
theorem turnTo_add {h n : Nat} {D : List Nat} {a c : Nat} {to : List Int} (ha : a ∉ D) : turnTo h n (D++[a]) c to = if c = a then to.map (fun t=>if t = (h : Int) then (n : Int) else t) else turnTo h n D c to:=by
 unfold turnTo
 by_cases e : c = a
 ·subst e
  rw [if_pos (by simp),if_pos rfl]
 ·rw [if_neg e]
  have : (c ∈ D++[a]) ↔ c ∈ D:=by simp [e]
  by_cases hc : c ∈ D
  ·rw [if_pos (this.2 hc),if_pos hc]
  ·rw [if_neg (fun h=>hc (this.1 h)),if_neg hc]
def bkTo (bl : List LBlock) (h : Nat) (lp : List Int) (R : Nat) (D : List Nat) : List LBlock:=bl.mapIdx fun c B=>{ (if c = h then { B with phis:=B.phis.mapIdx (layPh bl h lp R) } else B) with to:=turnTo h bl.length D c B.to }
def outTo (bl : List LBlock) (h : Nat) (lp : List Int) (j : Nat) : List Nat:=((preds bl h).take j).filter fun a : Nat=>decide ((a : Int) ∉ lp)
section
variable {bl : List LBlock} {h : Nat} {lp : List Int} {R : Nat}
theorem bkTo_len (D : List Nat) : (bkTo bl h lp R D).length = bl.length:=by unfold bkTo; rw [List.length_mapIdx]
theorem bkTo_nil {B : LBlock} (hB : bl[h]? = some B) : bkTo bl h lp R [] = bl.set h { B with phis:=B.phis.mapIdx (layPh bl h lp R) }:=by
 unfold bkTo
 apply List.ext_getElem?
 intro c
 rw [List.getElem?_mapIdx,List.getElem?_set]
 by_cases e : h = c
 ·subst e
  rw [if_pos rfl,if_pos (List.getElem?_eq_some_iff.1 hB).1,hB]
  simp only [Option.map_some,if_true]
  rw [turnTo_nil]
 ·rw [if_neg e]
  cases bl[c]? with
  | none=>rfl
  | some B =>
   simp only [Option.map_some]
   rw [if_neg (fun h=>e h.symm),turnTo_nil]
theorem bkTo_all : bkTo bl h lp R (outQ bl h lp)++[porchB bl h lp R] = layB bl h lp R:=rfl
theorem bkTo_add {D : List Nat} {a : Nat} {C : LBlock} (ha : a ∉ D) (hC : (bkTo bl h lp R D)[a]? = some C) : (bkTo bl h lp R D).set a { C with to:=C.to.map fun t=>if t = (h : Int) then (bl.length : Int) else t } = bkTo bl h lp R (D++[a]):=by
 apply List.ext_getElem?
 intro c
 have hal:=(List.getElem?_eq_some_iff.1 hC).1
 rw [List.getElem?_set]
 unfold bkTo at hC hal ⊢
 rw [List.length_mapIdx] at hal
 rw [List.length_mapIdx,List.getElem?_mapIdx,List.getElem?_mapIdx]
 by_cases e : a = c
 ·subst e
  rw [if_pos rfl,if_pos hal]
  rw [List.getElem?_mapIdx] at hC
  obtain ⟨B,hB,rfl⟩:=Option.map_eq_some_iff.1 hC
  rw [hB]
  simp only [Option.map_some]
  rw [turnTo_add ha,if_pos rfl]
  have : turnTo h bl.length D a B.to = B.to:=by unfold turnTo; rw [if_neg ha]
  rw [this]
 ·rw [if_neg e]
  cases bl[c]? with
  | none=>rfl
  | some B =>
   simp only [Option.map_some]
   have h2:=turnTo_add (h:=h) (n:=bl.length) (c:=c) (to:=B.to) ha
   rw [if_neg (fun h=>e h.symm)] at h2
   rw [h2]
theorem bkTo_to {D : List Nat} {a : Nat} (hal : a < bl.length) : toOf (bkTo bl h lp R D) a = turnTo h bl.length D a (toOf bl a):=by
 unfold toOf bkTo
 rw [List.getElem?_mapIdx,List.getElem?_eq_getElem hal]
 rfl
theorem outTo_succ {j a : Nat} (ha : (preds bl h)[j]? = some a) : outTo bl h lp (j + 1) = outTo bl h lp j++if (a : Int) ∈ lp then [] else [a]:=by
 unfold outTo
 rw [List.take_add_one,ha,List.filter_append]
 congr 1
 by_cases e : (a : Int) ∈ lp
 ·rw [if_pos e,Option.toList_some,List.filter_cons_of_neg (by simpa using e)]; rfl
 ·rw [if_neg e,Option.toList_some,List.filter_cons_of_pos (by simpa using e)]; rfl
theorem outTo_all : outTo bl h lp (preds bl h).length = outQ bl h lp:=by unfold outTo outQ; rw [List.take_length]
theorem outTo_not {j a : Nat} (ha : (preds bl h)[j]? = some a) : a ∉ outTo bl h lp j:=fun hm=>by
 have h1:=(List.mem_filter.1 hm).1
 have hj:=(List.getElem?_eq_some_iff.1 ha).1
 have hn:=preds_nodup bl h
 rw [← List.take_append_drop j (preds bl h),List.drop_eq_getElem_cons hj,(List.getElem?_eq_some_iff.1 ha).2] at hn
 exact (List.nodup_append.1 hn).2.2 a h1 a (by simp) rfl
end
structure IsLoops (bl : List LBlock) (lps : List (List Int)) : Prop where
 mem : ∀ h x : Nat,h < bl.length→((x : Int) ∈ lps.getD h [] ↔ x < bl.length∧InLoop bl h x)
 nat : ∀ h,∀ y ∈ lps.getD h [],∃ c : Nat,y = c
 none : ∀ h,bl.length ≤ h→lps.getD h [] = []
theorem IsLoops.some {bl : List LBlock} {lps : List (List Int)} (hl : IsLoops bl lps) {h : Nat} (h0 : 0 < (lps.getD h []).length) : h < bl.length∧∃ x : Nat,(x : Int) ∈ lps.getD h []:=by
 refine ⟨Classical.byContradiction fun hn=>?_,?_⟩
 ·rw [hl.none h (by omega)] at h0
  simp at h0
 ·obtain ⟨y,hy⟩:=List.exists_mem_of_length_pos h0
  obtain ⟨c,rfl⟩:=hl.nat h y hy
  exact ⟨c,hy⟩
theorem IsLoops.out {bl : List LBlock} {lps : List (List Int)} (hl : IsLoops bl lps) (hg : GoodB bl) (hp : PosOk bl) {h : Nat} (h0 : 0 < (lps.getD h []).length) : h < bl.length∧outQ bl h (lps.getD h []) ≠ []:=by
 obtain ⟨h1,h2⟩:=hl.some h0
 exact out_some hg hp (fun x hx=>((hl.mem h x h1).1 hx).2) h2
theorem LaySt.zero {bl : List LBlock} {R : Nat} (hf : FuncOk R bl) : LaySt bl R 0 (bl,R):=⟨hf,⟨Nat.le_refl _,Nat.le_refl _⟩,⟨Nat.le_refl _,by simp⟩,fun _ _=>rfl,fun _ _ _=>rfl⟩
theorem lays_st {bl : List LBlock} {lps : List (List Int)} {R : Nat} (hl : IsLoops bl lps) (hf : FuncOk R bl) (hp : PosOk bl) : ∀ i,i ≤ bl.length→LaySt bl R i (laysTo lps (bl,R) i)
 | 0,_=>LaySt.zero hf
 | i + 1,hi=>by
  rw [laysTo_succ]
  exact (lays_st hl hf hp i (by omega)).step (by omega) fun h0=>(hl.out hf.good hp h0).2
noncomputable def layN (X : LFunc) (i : Nat) : List LBlock × Nat:=laysTo (loopsL X.blocks) (X.blocks,X.regs.toNat) i
noncomputable def layF (X : LFunc) : LFunc:={ X with blocks:=(layN X X.blocks.length).1,regs:=(((layN X X.blocks.length).2 : Nat) : Int) }
noncomputable def layU (u : LUnit) : LUnit:={ u with funcs:=u.funcs.map layF }
theorem loopsL_is (bl : List LBlock) : IsLoops bl (loopsL bl):=by
 have hd : ∀ h,h < bl.length→(loopsL bl).getD h [] = loopRow bl h:=fun h hh=>by rw [List.getD_eq_getElem?_getD,loopsL_get hh,Option.getD_some]
 have hn : ∀ h,bl.length ≤ h→(loopsL bl).getD h [] = []:=fun h hh=>by rw [List.getD_eq_getElem?_getD,List.getElem?_eq_none (by rw [loopsL_len]; omega)]; rfl
 refine ⟨fun h x hh=>by rw [hd h hh]; exact loopRow_mem,fun h y hy=>?_,hn⟩
 by_cases hh : h < bl.length
 ·rw [hd h hh] at hy
  obtain ⟨c,e,_⟩:=loopRow_lt hy
  exact ⟨c,e⟩
 ·rw [hn h (by omega)] at hy
  cases hy
theorem layF_eq {X : LFunc} {R : Nat} (hR : X.regs = R) : layF X = { X with blocks:=(laysTo (loopsL X.blocks) (X.blocks,R) X.blocks.length).1,regs:=((laysTo (loopsL X.blocks) (X.blocks,R) X.blocks.length).2 : Nat) }:=by
 unfold layF layN
 rw [hR,Int.toNat_natCast]
end Go.Proofs.YtdbljcahlpkgdaaGreatDoor
