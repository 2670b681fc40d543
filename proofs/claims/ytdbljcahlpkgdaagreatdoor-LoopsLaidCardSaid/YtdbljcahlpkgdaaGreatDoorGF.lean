/- Texts joined: RangeB BackB LiveP LiveQ Vals LiveA RangeG RangeF RangeS LiveB LiveC. -/
import Derived.Laws.Cover3
import Derived.Test.YtdbljcahlpkgdaaGreatDoorGB
import Derived.Test.YtdbljcahlpkgdaaGreatDoorGD
import Derived.Test.YtdbljcahlpkgdaaGreatDoorGE
namespace Go.Proofs.YtdbljcahlpkgdaaGreatDoor
open Go Go.RowKit
theorem flat_one {α : Type} (f : α→Value) : ∀ l : List α,l.flatMap (fun x=>[f x]) = l.map f
 | []=>rfl
 | x::l=>by rw [List.flatMap_cons,flat_one f l]; rfl
theorem flat_len {α : Type} {g : α→List Value} {s : Nat} (h : ∀ x,(g x).length = s) : ∀ l : List α,(l.flatMap g).length = l.length * s
 | []=>by simp
 | x::l=>by rw [List.flatMap_cons,List.length_append,h,flat_len h l,List.length_cons,Nat.add_mul]; omega
theorem flat_at {α : Type} {g : α→List Value} {s : Nat} (h : ∀ x,(g x).length = s) : ∀ (l : List α) (i : Nat) (x : α) (j : Nat) (v : Value),l[i]? = some x→(g x)[j]? = some v→(l.flatMap g)[i * s + j]? = some v
 | [],i,x,j,v,hi,_=>by simp at hi
 | y::l,0,x,j,v,hi,hj=>by
  simp only [List.getElem?_cons_zero,Option.some.injEq] at hi
  subst hi
  rw [List.flatMap_cons,List.getElem?_append_left (by have:=(List.getElem?_eq_some_iff.1 hj).1; omega)]
  simpa using hj
 | y::l,i + 1,x,j,v,hi,hj=>by
  rw [List.flatMap_cons,List.getElem?_append_right (by rw [h,Nat.add_mul]; omega),h,show (i + 1) * s + j - s = i * s + j by rw [Nat.add_mul]; omega]
  exact flat_at h l i x j v (by simpa using hi) hj
theorem flat_from {α : Type} {g : α→List Value} {s : Nat} (h : ∀ x,(g x).length = s) : ∀ (l : List α) (k : Nat) (v : Value),(l.flatMap g)[k]? = some v→∃ i x j,l[i]? = some x∧(g x)[j]? = some v∧k = i * s + j
 | [],k,v,hk=>by simp at hk
 | y::l,k,v,hk=>by
  rw [List.flatMap_cons] at hk
  by_cases hlt : k < (g y).length
  ·rw [List.getElem?_append_left hlt] at hk
   exact ⟨0,y,k,rfl,hk,by omega⟩
  ·rw [List.getElem?_append_right (by omega),h] at hk
   obtain ⟨i,x,j,h1,h2,h3⟩:=flat_from h l _ v hk
   rw [h] at hlt
   exact ⟨i + 1,x,j,by simpa using h1,h2,by rw [Nat.add_mul]; omega⟩
section
variable {P : Program} {ro : Option Nat} {N : Nat} {ds : List Deferred} {S : Nat→Prop} {w0 : World} {L L' : List (Nat × Value)} {H H' : List Ent} {a : Act} {w : World}
 {ops : Array Oper} {rest : List Oper} {Q : Exit→Act→World→Prop} {p : Act→World→Prop} {x y : Operand}
instance {T e s by' : Nat} {zs : List Value} [h : ElemInfo P T e s by' zs] (ad : Option Addr) (n c : Nat) : EqVal P T (.slice ad n c) (.slice none 0 0) ad.isNone :=
 ⟨fun op _ _ w=>by unfold eqGuard; split <;> simp,fun w=>by simp [binOp,run_equal_slice_nil w T e ad n c h.und],fun w=>run_neq_slice_nil w T e ad n c h.und⟩
theorem g_appendF {α : Type} {d ty T e s by' : Nat} {zs : List Value} {pos : String} {aft : Array Go.Edge} {ad a2 : Option Addr} {n c m c2 k : Nat} {xs : List Value} [h : ElemInfo P T e s by' zs] [hx : Ev L x (.slice ad n c)] [hy : Ev L y (.slice a2 m c2)]
  [hv : VecIn H ad n c k e s xs] (hd : okPut d N L = true) (hs : (Nat.blt 0 s && Nat.beq zs.length s) = true) (l : List α) {V : World→α→List Value→Prop} (g : α→List Value) (hg : ∀ w x cs,V w x cs→cs = g x) (hlen : ∀ x,(g x).length = s) (hone : ∀ x,∀ u ∈ g x,u.oneCell' = true)
  (hsl : ∀ w,Wd S w0 H w→SlAt w (.slice a2 m c2) s l V) (hbytes : (n + m) * by' ≤ 140737488355328) (h63 : n + m ≤ 140737488355328)
  {F : Ent→List Ent} [hF : SetFn H k F] (kk : ∀ a' c',G N ds S w0 ((d,.slice a' (n + m) c')::L) (F (Ent.vec a' (n + m) c' e s (xs++l.flatMap g))) (wpListIn (FW ro) 0 P ops Q rest)) : G N ds S w0 L H (wpListIn (FW ro) 0 P ops Q (⟨some d,.call { callee:=.builtin .append,args:=#[x,y],argTypes:=#[T,T] },ty,pos,aft,none⟩::rest)):=by
 intro a w hS
 simp only [Bool.and_eq_true,Nat.blt_eq] at hs
 obtain ⟨a2',m',c2',b,o,hval,hm,hmc,_,_,ha,hel⟩:=hsl w hS.wd
 simp only [Value.slice.injEq] at hval
 obtain ⟨rfl,rfl,rfl⟩:=hval
 by_cases h0 : m = 0
 ·subst h0
  have hl : l = []:=List.eq_nil_of_length_eq_zero hm.symm
  subst hl
  obtain ⟨i,zz,hi,_,_,_,_⟩:=h.get
  have hnc : n ≤ c:=by
   obtain ⟨_,h2⟩:=hS.wd.get hv.at'
   rcases h2 with ⟨_,h2,h3⟩|⟨_,_,_,_,h3,_⟩ <;> omega
  have hr : (Builtin.append_ #[T,T] ty #[.slice ad n c,.slice a2 0 c2]).run P w = .ok (.slice ad n c) w:=by
   cases ad <;> cases a2 <;> simp [Builtin.append_,run_underlying h.und,sizeOf,typeInfo,hi,Builtin.lenOf,Builtin.firstCells,hnc,storeCells,loadCells,loadCellsFrom]
  refine step_val (v:=.slice ad n c) (w':=w) rfl (fun _ h=>by cases h) ?_ ?_
  ·simp [execOp,resolve,invoke,builtin,hx.eq _ _ _ hS.fr,hy.eq _ _ _ hS.fr,hr]
  ·have:=kk ad c
   simp only [List.flatMap_nil,List.append_nil,Nat.add_zero] at this
   rw [← hF.eq,set_self hv.at'] at this
   exact this _ _ ⟨hS.fr.putOk hd _,hS.wd⟩
 ·have hne : l ≠ []:=by rintro rfl; simp at hm; exact h0 hm
  have ha:=ha hne
  subst ha
  obtain ⟨a',c',w',hr,hw'⟩:=hS.wd.append (P:=P) (ty:=ty) (c2:=c2) (a2:=⟨b,o,none⟩) (m:=m) (news:=l.flatMap g) h hs.1 hv.at' (by omega) (by rw [flat_len hlen,hm]) (fun j u hj=>by
   obtain ⟨i,q,j',h1,h2,rfl⟩:=flat_from hlen l j u hj
   obtain ⟨cs,hc,hV⟩:=hel i q h1
   rw [hg _ _ _ hV] at hc
   have:=hc j' u h2
   rw [Addr.add_lit,← Nat.add_assoc]
   exact this) (fun u hu=>by obtain ⟨q,_,hq⟩:=List.mem_flatMap.1 hu; exact hone q u hq) hbytes h63 (Nat.eq_of_beq_eq_true hs.2)
  refine step_val (v:=.slice a' (n + m) c') (w':=w') rfl (fun _ h=>by cases h) ?_ ?_
  ·simp [execOp,resolve,invoke,builtin,hx.eq _ _ _ hS.fr,hy.eq _ _ _ hS.fr,hr]
  ·rw [hF.eq] at hw'
   exact kk a' c' _ _ ⟨hS.fr.putOk hd _,hw'⟩
end
def valsOf (x : LIns) : List LVal:=(if (shape x.op).2.1 then [x.a] else [])++((if (shape x.op).2.2 then [x.b] else [])++x.args)
def usesOf (x : LIns) : List LVal:=if x.op = 21 then [] else if x.op = 20 then x.args else if (2 ≤ x.op∧x.op ≤ 15) ∨ x.op = 19 then [x.a,x.b] else if 1 ≤ x.op∧x.op ≤ 22 then [x.a] else []
def ValOk (R : Nat) (v : LVal) : Prop:=v.reg = true→0 ≤ v.n∧v.n < R
structure InsOk (R : Nat) (x : LIns) : Prop where
 op : 1 ≤ x.op∧x.op ≤ 22
 args : x.op ≠ 20→x.args = []
 dst : 0 ≤ x.dst→x.dst < R
 vals : ∀ v ∈ valsOf x,ValOk R v
def preds (bl : List LBlock) (t : Nat) : List Nat:=(List.range bl.length).filter fun i=>decide ((t : Int) ∈ toOf bl i)
def phisOf (bl : List LBlock) (t : Nat) : List LPhi:=match bl[t]? with|some B=>B.phis|none=>[]
def noV : LVal:=⟨false,0⟩
structure PhiOk (R np : Nat) (p : LPhi) : Prop where
 dst : 0 ≤ p.dst∧p.dst < R
 len : p.src.length = np
 vals : ∀ v ∈ p.src,ValOk R v
structure BlockOk (R : Nat) (bl : List LBlock) (b : Nat) (B : LBlock) : Prop where
 phis : ∀ p ∈ B.phis,PhiOk R (preds bl b).length p
 list : ∀ x ∈ B.list,InsOk R x
 on : ValOk R B.on
 to : B.to.Nodup
structure FuncOk (R : Nat) (bl : List LBlock) : Prop where
 good : GoodB bl
 block : ∀ b B,bl[b]? = some B→BlockOk R bl b B
theorem aheadIn_get (i t : Nat) : ∀ (l : List Int) (rows : List (List Int)),(∀ z ∈ l,0 ≤ z)→(l.foldl (aheadIn i) rows)[t]? = rows[t]?.map (·++(l.filter fun z : Int=>decide (z = (t : Int))).map fun _=>(i : Int))
 | [],rows,_=>by
  simp only [List.foldl_nil,List.filter_nil,List.map_nil,List.append_nil]
  cases rows[t]? <;> rfl
 | z::l,rows,h=>by
  rw [List.foldl_cons,aheadIn_get i t l _ fun y hy=>h y (List.mem_cons_of_mem _ hy)]
  have hz:=h z (by simp)
  unfold aheadIn
  rw [List.getElem?_modify]
  by_cases e : z.toNat = t
  ·have e2 : z = t:=by omega
   rw [e]
   cases rows[t]? with
   | none=>simp
   | some r=>simp [e2]
  ·have e2 : ¬ z = t:=by omega
   cases hr : rows[t]? with
   | none=>simp
   | some r=>simp [e,e2]
theorem filter_one {l : List Int} (hn : l.Nodup) (t : Int) : l.filter (fun z : Int=>decide (z = t)) = if t ∈ l then [t] else []:=by
 induction l with
 | nil=>simp
 | cons z l ih =>
  rw [List.nodup_cons] at hn
  have:=ih hn.2
  by_cases e : z = t
  ·subst e
   rw [List.filter_cons_of_pos (by simp),this,if_neg hn.1,if_pos (by simp)]
  ·rw [List.filter_cons_of_neg (by simpa using e),this]
   by_cases h : t ∈ l
   ·rw [if_pos h,if_pos (List.mem_cons_of_mem _ h)]
   ·rw [if_neg h,if_neg (by simp only [List.mem_cons,not_or]; exact ⟨fun h=>e h.symm,h⟩)]
theorem aheadTo_get {bl : List LBlock} (hok : GoodB bl) (hto : ∀ (b : Nat) (B : LBlock),bl[b]? = some B→B.to.Nodup) {t : Nat} (ht : t < bl.length) : ∀ i,i ≤ bl.length→(aheadTo bl i)[t]? = some (((List.range i).filter fun i=>decide ((t : Int) ∈ toOf bl i)).map fun x : Nat=>(x : Int))
 | 0,_=>by simp [aheadTo,ht]
 | i + 1,hi=>by
  obtain ⟨B,hB⟩ : ∃ B,bl[i]? = some B:=⟨_,List.getElem?_eq_getElem (by omega)⟩
  simp only [aheadTo,hB]
  rw [aheadIn_get i t _ _ fun z hz=>((hok B (List.mem_of_getElem? hB)).2 z hz).1,aheadTo_get hok hto ht i (by omega),filter_one (hto i B hB),List.range_succ,List.filter_append,List.map_append]
  simp only [Option.map_some,Option.some.injEq]
  congr 1
  by_cases h : (t : Int) ∈ B.to
  ·rw [if_pos h]; simp [toOf_get hB,h]
  ·rw [if_neg h]; simp [toOf_get hB,h]
theorem aheadL_get {bl : List LBlock} (hok : GoodB bl) (hto : ∀ (b : Nat) (B : LBlock),bl[b]? = some B→B.to.Nodup) {t : Nat} (ht : t < bl.length) : (aheadL bl)[t]? = some ((preds bl t).map fun x : Nat=>(x : Int)):=aheadTo_get hok hto ht bl.length (Nat.le_refl _)
theorem valErr_ok {R : Nat} {v : LVal} (h : valErr R v = 0) : ValOk R v:=by
 intro hr
 unfold valErr within at h
 rw [hr] at h
 by_cases h1 : 0 ≤ v.n
 ·by_cases h2 : v.n ≤ (R : Int) - 1
  ·exact ⟨h1,by omega⟩
  ·simp [h2] at h
 ·simp [h1] at h
theorem dstErr_ok {R : Nat} {n : Int} (h : dstErr R n = 0) : 0 ≤ n∧n < R:=by
 unfold dstErr within at h
 by_cases h1 : 0 ≤ n
 ·by_cases h2 : n ≤ (R : Int) - 1
  ·exact ⟨h1,by omega⟩
  ·simp [h2] at h
 ·simp [h1] at h
theorem at0_all {α : Type} {f : α→Int} {l : List α} (h : (firstI (at0 l f) l.length).1 = 0) : ∀ x ∈ l,f x = 0:=fun x hx=>by
 obtain ⟨j,hj⟩:=List.getElem?_of_mem hx
 have:=firstI_zero h j (List.getElem?_eq_some_iff.1 hj).1
 simpa [at0,hj] using this
theorem insErr_ok {fs : List LFunc} {R : Nat} {x : LIns} (h : insErr fs R x = 0) : InsOk R x:=by
 unfold insErr at h
 split at h
 ·cases h
 rename_i h1
 split at h
 ·cases h
 rename_i h2
 split at h
 ·rename_i h3
  simp only [Bool.and_eq_true,Bool.not_eq_true',decide_eq_false_iff_not] at h3
  exact absurd h h3.2
 rename_i h3
 split at h
 ·rename_i h4; exact absurd h h4
 rename_i h4
 split at h
 ·rename_i h5; exact absurd h h5
 rename_i h5
 have hop : 1 ≤ x.op∧x.op ≤ 22:=by simpa [within] using h1
 simp only [strayB,Bool.or_eq_true,Bool.and_eq_true,Bool.not_eq_true',decide_eq_false_iff_not,decide_eq_true_eq,not_or,not_and,Decidable.not_not,Bool.not_eq_false] at h2
 simp only [ne_eq,Decidable.not_not] at h4 h5
 have harg : x.op ≠ 20→x.args = []:=fun e=>by
  have:=(h2.2 e).2
  exact List.eq_nil_of_length_eq_zero (by omega)
 refine ⟨hop,harg,fun hd=>?_,fun v hv=>?_⟩
 ·by_cases hs : (shape x.op).1 = true
  ·simp only [Bool.and_eq_true,Bool.not_eq_true',decide_eq_false_iff_not,hs,true_and,not_and,Decidable.not_not,Bool.and_eq_false_iff] at h3
   have:=h3 (by
    by_cases e : x.op = 20
    ·right; omega
    ·left; exact e)
   exact (dstErr_ok this).2
  ·have:=h2.1.1.1 (by simpa using hs)
   omega
 ·unfold valsOf at hv
  rcases List.mem_append.1 hv with hv|hv
  ·split at hv
   ·simp only [List.mem_singleton] at hv; subst hv; exact valErr_ok h4
   ·cases hv
  ·rcases List.mem_append.1 hv with hv|hv
   ·split at hv
    ·simp only [List.mem_singleton] at hv; subst hv; exact valErr_ok h5
    ·cases hv
   ·unfold callErr at h
    by_cases e : x.op = 20
    ·rw [if_neg (by simpa using e)] at h
     split at h
     ·cases h
     ·split at h
      ·cases h
      ·exact valErr_ok (at0_all h v hv)
    ·rw [harg e] at hv; cases hv
theorem endErr_ok {n R : Nat} {b : LBlock} (h : endErr n R b = 0) : ValOk R b.on∧b.to.Nodup:=by
 unfold endErr endE at h
 split at h
 ·cases h
 rename_i h1
 split at h
 ·cases h
 rename_i h2
 split at h
 ·cases h
 split at h
 ·cases h
 rename_i h4
 refine ⟨valErr_ok h,?_⟩
 simp only [within,Bool.not_eq_true',Bool.and_eq_false_iff,decide_eq_false_iff_not,not_or,Decidable.not_not] at h1
 simp only [ne_eq,Decidable.not_not] at h2
 simp only [Bool.or_eq_true,Bool.and_eq_true,decide_eq_true_eq,not_or,not_and] at h4
 have h5:=h4.1
 generalize b.to = l at h2 h5
 match l,h2,h5 with
 | [],_,_=>simp
 | [x],_,_=>simp
 | [x,y],h2,h5 =>
  have:=h5 (by simp at h2; omega)
  simp at this
  simp [this]
 | x::y::z::l,h2,_=>simp at h2; omega
theorem func_okF {fs : List LFunc} {f : LFunc} {R : Nat} (hR : f.regs = R) (h : bodyErr fs f = 0) : FuncOk R f.blocks:=by
 have hg:=bodyErr_good h
 unfold bodyErr at h
 split at h
 ·rename_i h1; exact absurd h h1
 rename_i h1
 have hend:=at0_all (by simpa using h1 : (firstI (at0 f.blocks (endErr f.blocks.length f.regs)) f.blocks.length).1 = 0)
 rw [hR] at hend
 have hto : ∀ (b : Nat) (B : LBlock),f.blocks[b]? = some B→B.to.Nodup:=fun b B hB=>(endErr_ok (hend B (List.mem_of_getElem? hB))).2
 refine ⟨hg,fun b B hB=>?_⟩
 have hb:=firstI_zero h b (List.getElem?_eq_some_iff.1 hB).1
 simp only [blockErr,hB] at hb
 split at hb
 ·rename_i h2; exact absurd hb h2
 rename_i h2
 have hphi:=at0_all (by simpa using h2 : (firstI (at0 B.phis (phiErr f.regs f.blocks b)) B.phis.length).1 = 0)
 have hins:=at0_all hb
 rw [hR] at hphi hins
 refine ⟨fun p hp=>?_,fun x hx=>insErr_ok (hins x hx),(endErr_ok (hend B (List.mem_of_getElem? hB))).1,hto b B hB⟩
 have hp':=hphi p hp
 unfold phiErr phiE at hp'
 split at hp'
 ·cases hp'
 split at hp'
 ·rename_i h3; exact absurd hp' h3
 rename_i h3
 split at hp'
 ·cases hp'
 rename_i h4
 rw [aheadL_get hg hto (List.getElem?_eq_some_iff.1 hB).1] at h4
 simp only [Option.getD_some,List.length_map,ne_eq,Decidable.not_not] at h4
 exact ⟨dstErr_ok (by simpa using h3),by omega,fun v hv=>valErr_ok (at0_all hp' v hv)⟩
theorem check_head {u : LUnit} (h : (checkL u).1 = 0) {k : Nat} {X : LFunc} (hX : u.funcs[k]? = some X) : 0 ≤ X.params∧X.params ≤ X.regs∧X.regs ≤ 100:=by
 unfold checkL at h
 split at h
 ·cases h
 ·split at h
  ·rename_i h2; exact absurd h h2
  ·split at h
   ·rename_i h2; exact absurd h h2
   ·rename_i h3
    have hz:=firstI_zero (by simpa using h3)
    have:=hz k (List.getElem?_eq_some_iff.1 hX).1
    simp only [headAt,at0,hX,headErr] at this
    split at this
    ·cases this
    split at this
    ·cases this
    split at this
    ·cases this
    rename_i h4
    simp only [within,Bool.or_eq_true,Bool.not_eq_true',Bool.and_eq_false_iff,decide_eq_false_iff_not,not_or,Decidable.not_not] at h4
    omega
theorem check_func {u : LUnit} (h : (checkL u).1 = 0) {k : Nat} {X : LFunc} (hX : u.funcs[k]? = some X) : ∃ R : Nat,X.regs = R∧R ≤ 100∧FuncOk R X.blocks:=by
 have h1:=check_head h hX
 refine ⟨X.regs.toNat,by omega,by omega,func_okF (by omega) (check_bodies h X (List.mem_of_getElem? hX))⟩
section
variable {P : Program} {N : Nat} {ds : List Deferred} {S : Nat→Prop} {w0 : World} {L : List (Nat × Value)} {H : List Ent} {ops : Array Oper} {rest : List Oper} {Q : Exit→Act→World→Prop} {p : Act→World→Prop}
theorem rebase {a : Act} {w : World} (hF : Fr N ds L a) (h : G N ds NoS w L [] p) : p a w:=h a w ⟨hF,Wd.nil NoS w⟩
theorem g_yield {d ty l m : Nat} {args : List Operand} {vs : List Value} {tys : Array Nat} {pos : String} {aft : Array Go.Edge} {x : Operand} (R : World→Value→World→Prop) [hf : Ev L x (.func (.yield l) #[] #[])] [hx : Evs L args vs] (hd : okPut d N L = true)
  (hc : ∀ w,Wd S w0 H w→YieldAt (FW none) m P l vs.toArray w fun e w'=>∃ v,e = .returned v∧R w v w')
  (k : ∀ v w w',Wd S w0 H w→R w v w'→∀ a,Fr N ds ((d,v)::L) a→wpListIn (FW none) 0 P ops Q rest a w') : G N ds S w0 L H (wpListIn (FW none) 0 P ops Q (⟨some d,.call { callee:=.value x,args:=args.toArray,argTypes:=tys },ty,pos,aft,none⟩::rest)):=by
 intro a w hS
 obtain ⟨fn,tmps,assign,body,hy,hR⟩:=hc w hS.wd
 refine wpListIn_plain rfl fun K hK=>?_
 refine ⟨fun _ _=>trivial,?_⟩
 rw [semAt_ne _ _ _ (fun _ h=>by cases h)]
 have hr : (execOp a.eval ⟨some d,.call { callee:=.value x,args:=args.toArray,argTypes:=tys },ty,pos,aft,none⟩).run P w = .ok (.round l fn tmps assign body) w:=by
  simp [execOp,resolve,hf.eq _ _ _ hS.fr,Deferred.ofValue,invoke,hx.eq _ _ _ hS.fr,hy]
 rw [hr]
 refine ⟨fun h=>(by cases h),?_⟩
 have hR0 : RoundIn (FW none) (0 - 1) P l fn tmps assign body w fun e w'=>∃ v,e = .returned v∧R w v w':=⟨hR.1,fun c cs _=>hR.2 c cs (fun d hd=>by cases hd)⟩
 refine hR0.mono fun e w' ⟨v,he,hv⟩=>?_
 subst he
 exact hK _ _ (k v w w' hS.wd hv _ (hS.fr.putOk hd v))
end
theorem CellsAt.mono {w w' : World} (h : ∀ p v,w.cell? p = some v→w'.cell? p = some v) {b o : Nat} {cs : List Value} (hc : CellsAt w b o cs) : CellsAt w' b o cs:=fun j v hj=>h _ _ (hc j v hj)
theorem SlAt.mono {α : Type} {V : World→α→List Value→Prop} {w w' : World} (hV : ∀ x cs,V w x cs→V w' x cs) (h : ∀ p v,w.cell? p = some v→w'.cell? p = some v) {v : Value} {s : Nat} {l : List α} (hs : SlAt w v s l V) : SlAt w' v s l V:=by
 obtain ⟨a,n,c,b,o,h1,h2,h3,hz,h4,h5,h6⟩:=hs
 refine ⟨a,n,c,b,o,h1,h2,h3,hz,h4,h5,fun i x hx=>?_⟩
 obtain ⟨cs,hc,hv⟩:=h6 i x hx
 exact ⟨cs,hc.mono h,hV x cs hv⟩
theorem jchg {β : Type} {B : Nat} {J : β→World→Prop} (h : AbidesFrom B J) {s : β} {w w' : World} (hc : Chg NoS w w') (hs : J s w) : J s w' :=
 h s w w' none hs ⟨hc.os,hc.tape,hc.output,hc.size,fun k hk _=>hc.block k hk fun h=>h⟩ (fun r e=>by cases e)
attribute [local irreducible] wpListIn Code.wpIn Exit.then Exit.inBlock bodyPost wpQuiet wpAnyIn
set_option maxHeartbeats 4000000
end Go.Proofs.YtdbljcahlpkgdaaGreatDoor
namespace Go.Proofs.YtdbljcahlpkgdaaGreatDoor
open Go Go.RowKit
attribute [local irreducible] wpListIn Code.wpIn Exit.then Exit.inBlock bodyPost wpQuiet wpAnyIn
set_option maxHeartbeats 4000000
theorem idxOf_le {x : Nat} : ∀ {l : List Nat} {i : Nat},l[i]? = some x→l.idxOf x ≤ i
 | [],i,h=>by simp at h
 | y::l,0,h=>by
  simp only [List.getElem?_cons_zero,Option.some.injEq] at h
  subst h
  simp
 | y::l,i + 1,h=>by
  rw [List.idxOf_cons]
  cases (y == x)
  ·have:=idxOf_le (l:=l) (i:=i) (by simpa using h)
   simpa using this
  ·simp
theorem index_c (v : Value) (l : List Nat) (x : Nat) (w0 : World) (hx : x ∈ l) (hv : SlAt w0 v 1 (l.map fun x : Nat=>(x : Int)) IntV) : RetV Tryz.prog 70 [v,.int .i64 x] w0 (.int .i64 (l.idxOf x : Nat)):=by
 obtain ⟨a,n,c,b,o,rfl,hn,hnc,hnb,hc,ha,hel⟩:=hv
 rw [List.length_map] at hn
 have hil:=List.idxOf_lt_length_of_mem hx
 refine ret_enter Tryz.func70 rfl Tryz.ntmps70 rfl (Wd.nil NoS w0) ?_
 repeat (first|refine g_op rfl ?_|refine g_then ?_|refine g_nil ?_|refine g_region ?_|refine g_seq ?_|refine g_block ?_)
 refine g_loop (fun (i : Nat)=>i ≤ l.idxOf x) (fun i=>[(8,.int .i64 i),(6,.slice a n c),(7,.int .i64 n),(0,.slice a n c),(1,.int .i64 x)]) (fun _=>[]) (fun i=>n - i) 0 (Nat.zero_le _) (g_done (by repeat (first|exact trivial|refine ⟨rfl,?_⟩)) (by simp)) fun i hi=>?_
 repeat (first|refine g_op rfl ?_|refine g_then ?_|refine g_nil ?_|refine g_region ?_|refine g_seq ?_)
 refine g_cond (fun h1=>?_) (fun h1=>?_)
 ·have hlt : i < n:=by simpa using h1
  obtain ⟨t,ht⟩ : ∃ t,l[i]? = some t:=⟨_,List.getElem?_eq_getElem (by omega)⟩
  have ht' : (l.map fun x : Nat=>(x : Int))[i]? = some (t : Int):=by rw [List.getElem?_map,ht]; rfl
  have had : AddrIs a b o:=⟨ha (ne_of_get ht')⟩
  have hli : LtIs i n:=⟨hlt⟩
  obtain ⟨cs,hcs,rfl,_⟩:=hel i _ ht'
  have hci : CellsIs w0 b (o + i * 1) _:=⟨hcs⟩
  repeat (first|refine g_op rfl ?_|refine g_then ?_|refine g_nil ?_|refine g_region ?_|refine g_seq ?_|refine g_block ?_|refine g_skip ?_)
  refine g_cond (fun h2=>?_) (fun h2=>?_)
  ·have h5 : (x : Int) = t:=by simpa using h2
   have htx : x = t:=by omega
   subst htx
   have : l.idxOf x = i:=by
    have h4:=idxOf_le ht
    omega
   repeat (first|refine g_op rfl ?_|refine g_then ?_|refine g_nil ?_|refine g_region ?_|refine g_seq ?_|refine g_ret ?_|refine g_thenRet ?_|refine g_blockRet ?_)
   exact g_retV rfl (by rw [this])
  ·repeat (first|refine g_then ?_|refine g_nil ?_|refine g_region ?_|refine g_opS rfl ?_|refine g_inBlock ?_|refine g_skip ?_|refine g_add rfl (by omega) (by omega) ?_)
   refine g_next (i + 1) ?_ (by omega) (by repeat (first|exact trivial|refine ⟨rfl,?_⟩)) (by simp)
   refine Nat.lt_of_le_of_ne hi fun e=>?_
   subst e
   have h3:=List.getElem_idxOf hil
   have h4:=(List.getElem?_eq_some_iff.1 ht).2
   rw [h3] at h4
   simp [h4] at h2
 ·exact absurd h1 (by simp; omega)
theorem graphAhead_c (nm pa re : Value) (bl : List LBlock) (bs : Value) (w0 : World) (hbs : SlAt w0 bs 6 bl BlockV) (hlen : bl.length ≤ 100) (hok : GoodB bl) :
  Ret Tryz.prog 65 [.agg #[nm,pa,re,bs]] w0 fun u w'=>∃ x : (Option Addr × Nat × Nat) × (Nat→Prop),u = .slice x.1.1 x.1.2.1 x.1.2.2∧Wd NoS w0 [⟨x.2,fun w=>SlAt w (.slice x.1.1 x.1.2.1 x.1.2.2) 1 (aheadL bl) RowV⟩] w'∧True:=by
 obtain ⟨ba,n,bc,bb,bo',rfl,hn,hnc,hnb,hbc,hba,hel⟩:=hbs
 refine ret_enter Tryz.func65 rfl Tryz.ntmps65 rfl (Wd.nil NoS w0) ?_
 repeat (first|refine g_op rfl ?_|refine g_then ?_|refine g_nil ?_|refine g_region ?_|refine g_seq ?_|refine g_box rfl fun _ _=>?_|refine g_block ?_|refine g_make rfl (by omega) (by omega) fun _ _=>?_)
 rename_i b1 _ bo _
 refine g_nilVecs 3 1 n ?_
 rw [show (List.replicate n (Value.slice none 0 0)) = (List.replicate n (⟨none,0,[]⟩ : Row)).map valR by simp [valR],show (List.replicate n (Ent.vec none 0 0 3 1 [])) = (List.replicate n (⟨none,0,[]⟩ : Row)).map entR by simp [entR]]
 refine g_loop (fun (x : Nat × List Row)=>x.1 ≤ n∧x.2.map (·.l) = aheadTo bl x.1∧x.2.length = n∧∀ r ∈ x.2,r.l.length ≤ 2 * x.1∧∀ y ∈ r.l,inI y) (fun x=>[(15,.int .i64 x.1),(13,.slice ba n bc),(14,.int .i64 n),(3,.slice (some ⟨bo,0,none⟩) n n)]) (fun x=>Ent.vec (some ⟨bo,0,none⟩) n n 38 1 (x.2.map valR)::x.2.map entR) (fun x=>n - x.1) (0,List.replicate n ⟨none,0,[]⟩)
  ⟨Nat.zero_le _,by simp [aheadTo,hn],by simp,by simp⟩ (g_done (by repeat (first|exact trivial|refine ⟨rfl,?_⟩)) (.cons_cons _ (.cons _ (.refl _)))) fun x ⟨hi,hrows,hrl,hbd⟩=>?_
 obtain ⟨i,rs⟩:=x
 simp only at hi hrows hrl hbd ⊢
 repeat (first|refine g_op rfl ?_|refine g_then ?_|refine g_nil ?_|refine g_region ?_|refine g_seq ?_)
 refine g_cond (fun h1=>?_) (fun h1=>?_)
 ·have hlt : i < n:=by simpa using h1
  obtain ⟨B,hB⟩:=get_lt hn hlt
  have had : AddrIs ba bb bo':=⟨hba (ne_of_get hB)⟩
  have hli : LtIs i n:=⟨hlt⟩
  obtain ⟨cs,hcs,pv,lv,tv,rfl,_,_,hphis,hlist,ht⟩:=hel i B hB
  obtain ⟨pa',pn,pc,_,_,rfl,_⟩:=hphis
  obtain ⟨la,ln,lc,_,_,rfl,_⟩:=hlist
  obtain ⟨ta,tn,tc,tb,to',rfl,htn,htnc,htnb,htc,hta,htel⟩:=ht
  have hci : CellsIs w0 bb (bo' + i * 6) _:=⟨hcs⟩
  have htok : toOk bl.length B.to:=hok B (List.mem_of_getElem? hB)
  repeat (first|refine g_op rfl ?_|refine g_then ?_|refine g_nil ?_|refine g_region ?_|refine g_seq ?_|refine g_alloc rfl fun _ _=>?_|refine g_storeAgg ?_|refine g_block ?_|refine g_skip ?_)
  refine g_loop (fun (x : Nat × List Row)=>x.1 ≤ tn∧x.2.map (·.l) = (B.to.take x.1).foldl (aheadIn i) (aheadTo bl i)∧x.2.length = n∧∀ r ∈ x.2,r.l.length ≤ 2 * i + x.1∧∀ y ∈ r.l,inI y) (fun x=>[(24,.int .i64 x.1),(22,.slice ta tn tc),(23,.int .i64 tn),(4,.int .i64 i),(15,.int .i64 i),(13,.slice ba n bc),(14,.int .i64 n),(3,.slice (some ⟨bo,0,none⟩) n n)])
   (fun x=>Ent.vec (some ⟨bo,0,none⟩) n n 38 1 (x.2.map valR)::x.2.map entR) (fun x=>tn - x.1) (0,rs)
   ⟨Nat.zero_le _,by simpa using hrows,hrl,fun r hr=>by simpa using hbd r hr⟩ (g_done (by repeat (first|exact trivial|refine ⟨rfl,?_⟩)) (.cons _ (.refl _))) fun x ⟨hj,hrows',hrl',hbd'⟩=>?_
  obtain ⟨j,rs'⟩:=x
  simp only at hj hrows' hrl' hbd' ⊢
  repeat (first|refine g_op rfl ?_|refine g_then ?_|refine g_nil ?_|refine g_region ?_|refine g_seq ?_)
  refine g_cond (fun h2=>?_) (fun h2=>?_)
  ·have hjlt : j < tn:=by simpa using h2
   obtain ⟨t,htj⟩:=get_lt htn hjlt
   have htt:=htok.2 t (List.mem_of_getElem? htj)
   obtain ⟨k,hk⟩ : ∃ k : Nat,t = k:=⟨t.toNat,by omega⟩
   have hkn : k < n:=by omega
   have hkl : k < rs'.length:=by omega
   obtain ⟨r,hr⟩ : ∃ r,rs'[k]? = some r:=⟨_,List.getElem?_eq_getElem hkl⟩
   have had2 : AddrIs ta tb to':=⟨hta (ne_of_get htj)⟩
   have hli2 : LtIs j tn:=⟨hjlt⟩
   have hli3 : LtIs k n:=⟨hkn⟩
   have hni : NatIs t k:=⟨hk⟩
   obtain ⟨cs2,hcs2,rfl,_⟩:=htel j t htj
   have hci2 : CellsIs w0 tb (to' + j * 1) _:=⟨hcs2⟩
   have hxa : XAt (rs'.map valR) (k * 1) (.slice r.a r.l.length r.c):=⟨by simp [hr,valR]⟩
   have hrb:=hbd' r (List.mem_of_getElem? hr)
   repeat (first|refine g_op rfl ?_|refine g_then ?_|refine g_nil ?_|refine g_region ?_|refine g_seq ?_|refine g_block ?_|refine g_skip ?_|refine g_build1 rfl rfl fun _ _=>?_)
   rename_i bt _
   have htok1:=htok.1
   refine g_appendAt (k + 2) (xs:=r.l.map (.int .i64)) (e:=3) (by simp [hr,entR]) rfl rfl (by omega) (by omega) fun a' c'=>?_
   refine g_eqH (H1:=Ent.vec (some ⟨bt,0,none⟩) 1 1 3 1 [.int .i64 i]::Ent.vec (some ⟨bo,0,none⟩) n n 38 1 (rs'.map valR)::(rs'.set k ⟨a',c',r.l++[(i : Int)]⟩).map entR) (by simp [entR,List.map_set]) ?_
   have hxs : XSet (rs'.map valR) (k * 1) (.slice a' (r.l.length + 1) c') ((rs'.set k ⟨a',c',r.l++[(i : Int)]⟩).map valR):=⟨by simp [valR,List.map_set],by simpa using hkl⟩
   repeat (first|refine g_op rfl ?_|refine g_then ?_|refine g_nil ?_|refine g_region ?_|refine g_opS rfl ?_|refine g_inBlock ?_|refine g_add rfl (by omega) (by omega) ?_|refine g_storeV ?_)
   refine g_next (j + 1,rs'.set k ⟨a',c',r.l++[(i : Int)]⟩) ⟨hjlt,?_,by simpa using hrl',?_⟩ (by simp only; omega) (by repeat (first|exact trivial|refine ⟨rfl,?_⟩)) (.cons _ (.refl _))
   ·simp only
    rw [List.take_add_one,htj]
    simp only [Option.toList_some,List.foldl_append,List.foldl_cons,List.foldl_nil]
    rw [← hrows',aheadIn,show t.toNat = k by omega]
    exact map_set_modify hr rfl
   ·intro q hq
    rcases List.mem_or_eq_of_mem_set hq with hq|rfl
    ·have:=hbd' q hq
     exact ⟨by simp only; omega,this.2⟩
    ·refine ⟨by simp only [List.length_append,List.length_singleton]; omega,fun y hy=>?_⟩
     rcases List.mem_append.1 hy with hy|hy
     ·exact hrb.2 y hy
     ·simp only [List.mem_singleton] at hy
      subst hy
      simp only [inI]; omega
  ·have hge : j = tn:=by have:=h2; simp at this; omega
   repeat (first|refine g_then ?_|refine g_nil ?_|refine g_region ?_|refine g_opS rfl ?_|refine g_inBlock ?_|refine g_add rfl (by omega) (by omega) ?_|refine g_exit ?_|refine g_thenExit ?_|refine g_exitHere ?_)
   refine g_next (i + 1,rs') ⟨hlt,?_,hrl',fun r hr=>?_⟩ (by simp only; omega) (by repeat (first|exact trivial|refine ⟨rfl,?_⟩)) (.refl _)
   ·simp only [aheadTo,hB]
    rw [hrows',hge,htn,List.take_length]
   ·have:=hbd' r hr
    have htok1:=htok.1
    exact ⟨by simp only; omega,this.2⟩
 ·have hge : i = n:=by have:=h1; simp at this; omega
  repeat (first|refine g_op rfl ?_|refine g_then ?_|refine g_nil ?_|refine g_region ?_|refine g_seq ?_|refine g_exit ?_|refine g_thenExit ?_|refine g_exitHere ?_|refine g_ret ?_)
  refine g_ret1 rfl fun w hw=>⟨((some ⟨bo,0,none⟩,n,n),fps (Ent.vec (some ⟨bo,0,none⟩) n n 38 1 (rs.map valR)::rs.map entR)),rfl,?_,trivial⟩
  have hw' : Wd NoS w0 ((Ent.vec (some ⟨bo,0,none⟩) n n 38 1 (rs.map valR)::rs.map entR)++[]) w:=by rw [List.append_nil]; exact hw
  refine hw'.pack _ fun w2 hw2=>?_
  have:=rows_sl (H:=[]) (by rw [List.append_nil]; exact hw2) hrl.symm (by omega) fun r hr=>⟨by have:=(hbd r hr).1; omega,(hbd r hr).2⟩
  rw [hrows,hge,hn] at this
  exact hn ▸ this
theorem preds_mem {bl : List LBlock} {t b : Nat} (hb : b < bl.length) (h : (t : Int) ∈ toOf bl b) : b ∈ preds bl t:=by
 unfold preds
 rw [List.mem_filter]
 exact ⟨by simpa using hb,by simpa using h⟩
end Go.Proofs.YtdbljcahlpkgdaaGreatDoor
