/- Texts joined: LiveP LiveQ RangeB BackB Vals LiveA RangeG RangeF RangeS LiveB LiveC. -/
import Derived.Laws.Cover3
import Derived.Test.YtdbljcahlpkgdaaDoorGB
import Derived.Test.YtdbljcahlpkgdaaDoorGD
import Derived.Test.YtdbljcahlpkgdaaDoorGE
namespace Go.Proofs.YtdbljcahlpkgdaaDoor
open Go Go.RowKit
def valsOf (x : LIns) : List LVal:=(if (shape x.op).2.1 then [x.a] else [])++((if (shape x.op).2.2 then [x.b] else [])++x.args)
def usesOf (x : LIns) : List LVal:=if x.op = 21 then [] else if x.op = 20 then x.args else if (2 ≤ x.op∧x.op ≤ 15) ∨ x.op = 19 then [x.a,x.b] else if 1 ≤ x.op∧x.op ≤ 22 then [x.a] else []
def ValOk (R : Nat) (v : LVal) : Prop:=v.reg = true→0 ≤ v.n∧v.n < R
structure InsOk (R : Nat) (x : LIns) : Prop where
 op : 1 ≤ x.op∧x.op ≤ 22
 args : x.op ≠ 20→x.args = []
 dst : 0 ≤ x.dst→x.dst < R
 vals : ∀ v ∈ valsOf x,ValOk R v
theorem uses_vals {R : Nat} {x : LIns} (h : InsOk R x) : usesOf x = valsOf x:=by
 have h1:=h.op
 unfold usesOf valsOf shape
 by_cases e20 : x.op = 20
 ·simp [e20]
 ·rw [h.args e20]
  by_cases e21 : x.op = 21
  ·simp [e21]
  ·rw [if_neg e21,if_neg e20]
   by_cases e1 : ((x.op = 1 ∨ x.op = 16) ∨ x.op = 17) ∨ x.op = 18
   ·rw [if_pos e1,if_neg (by omega),if_pos h1]; simp
   ·rw [if_neg e1]
    by_cases e2 : 2 ≤ x.op∧x.op ≤ 15
    ·rw [if_pos e2,if_pos (.inl e2)]; simp
    ·rw [if_neg e2]
     by_cases e3 : x.op = 19
     ·rw [if_pos e3,if_pos (.inr e3)]; simp
     ·have e4 : x.op = 22:=by omega
      simp [e4]
def preds (bl : List LBlock) (t : Nat) : List Nat:=(List.range bl.length).filter fun i=>decide ((t : Int) ∈ toOf bl i)
structure PhiOk (R np : Nat) (p : LPhi) : Prop where
 dst : 0 ≤ p.dst∧p.dst < R
 len : p.src.length = np
 vals : ∀ v ∈ p.src,ValOk R v
structure BlockOk (R : Nat) (bl : List LBlock) (b : Nat) (B : LBlock) : Prop where
 phis : ∀ p ∈ B.phis,PhiOk R (preds bl b).length p
 list : ∀ x ∈ B.list,InsOk R x
 on : ValOk R B.on
 to : B.to.Nodup
structure FuncOk (R : Nat) (bl : List LBlock) : Prop where
 good : GoodB bl
 block : ∀ b B,bl[b]? = some B→BlockOk R bl b B
theorem aheadIn_get (i t : Nat) : ∀ (l : List Int) (rows : List (List Int)),(∀ z ∈ l,0 ≤ z)→(l.foldl (aheadIn i) rows)[t]? = rows[t]?.map (·++(l.filter fun z : Int=>decide (z = (t : Int))).map fun _=>(i : Int))
 | [],rows,_=>by
  simp only [List.foldl_nil,List.filter_nil,List.map_nil,List.append_nil]
  cases rows[t]? <;> rfl
 | z::l,rows,h=>by
  rw [List.foldl_cons,aheadIn_get i t l _ fun y hy=>h y (List.mem_cons_of_mem _ hy)]
  have hz:=h z (by simp)
  unfold aheadIn
  rw [List.getElem?_modify]
  by_cases e : z.toNat = t
  ·have e2 : z = t:=by omega
   rw [e]
   cases rows[t]? with
   | none=>simp
   | some r=>simp [e2]
  ·have e2 : ¬ z = t:=by omega
   cases hr : rows[t]? with
   | none=>simp
   | some r=>simp [e,e2]
theorem filter_one {l : List Int} (hn : l.Nodup) (t : Int) : l.filter (fun z : Int=>decide (z = t)) = if t ∈ l then [t] else []:=by
 induction l with
 | nil=>simp
 | cons z l ih =>
  rw [List.nodup_cons] at hn
  have:=ih hn.2
  by_cases e : z = t
  ·subst e
   rw [List.filter_cons_of_pos (by simp),this,if_neg hn.1,if_pos (by simp)]
  ·rw [List.filter_cons_of_neg (by simpa using e),this]
   by_cases h : t ∈ l
   ·rw [if_pos h,if_pos (List.mem_cons_of_mem _ h)]
   ·rw [if_neg h,if_neg (by simp only [List.mem_cons,not_or]; exact ⟨fun h=>e h.symm,h⟩)]
theorem aheadTo_get {bl : List LBlock} (hok : GoodB bl) (hto : ∀ (b : Nat) (B : LBlock),bl[b]? = some B→B.to.Nodup) {t : Nat} (ht : t < bl.length) : ∀ i,i ≤ bl.length→(aheadTo bl i)[t]? = some (((List.range i).filter fun i=>decide ((t : Int) ∈ toOf bl i)).map fun x : Nat=>(x : Int))
 | 0,_=>by simp [aheadTo,ht]
 | i + 1,hi=>by
  obtain ⟨B,hB⟩ : ∃ B,bl[i]? = some B:=⟨_,List.getElem?_eq_getElem (by omega)⟩
  simp only [aheadTo,hB]
  rw [aheadIn_get i t _ _ fun z hz=>((hok B (List.mem_of_getElem? hB)).2 z hz).1,aheadTo_get hok hto ht i (by omega),filter_one (hto i B hB),List.range_succ,List.filter_append,List.map_append]
  simp only [Option.map_some,Option.some.injEq]
  congr 1
  by_cases h : (t : Int) ∈ B.to
  ·rw [if_pos h]; simp [toOf_get hB,h]
  ·rw [if_neg h]; simp [toOf_get hB,h]
theorem aheadL_get {bl : List LBlock} (hok : GoodB bl) (hto : ∀ (b : Nat) (B : LBlock),bl[b]? = some B→B.to.Nodup) {t : Nat} (ht : t < bl.length) : (aheadL bl)[t]? = some ((preds bl t).map fun x : Nat=>(x : Int)):=aheadTo_get hok hto ht bl.length (Nat.le_refl _)
theorem valErr_ok {R : Nat} {v : LVal} (h : valErr R v = 0) : ValOk R v:=by
 intro hr
 unfold valErr within at h
 rw [hr] at h
 by_cases h1 : 0 ≤ v.n
 ·by_cases h2 : v.n ≤ (R : Int) - 1
  ·exact ⟨h1,by omega⟩
  ·simp [h2] at h
 ·simp [h1] at h
theorem dstErr_ok {R : Nat} {n : Int} (h : dstErr R n = 0) : 0 ≤ n∧n < R:=by
 unfold dstErr within at h
 by_cases h1 : 0 ≤ n
 ·by_cases h2 : n ≤ (R : Int) - 1
  ·exact ⟨h1,by omega⟩
  ·simp [h2] at h
 ·simp [h1] at h
theorem at0_all {α : Type} {f : α→Int} {l : List α} (h : (firstI (at0 l f) l.length).1 = 0) : ∀ x ∈ l,f x = 0:=fun x hx=>by
 obtain ⟨j,hj⟩:=List.getElem?_of_mem hx
 have:=firstI_zero h j (List.getElem?_eq_some_iff.1 hj).1
 simpa [at0,hj] using this
theorem insErr_ok {fs : List LFunc} {R : Nat} {x : LIns} (h : insErr fs R x = 0) : InsOk R x:=by
 unfold insErr at h
 split at h
 ·cases h
 rename_i h1
 split at h
 ·cases h
 rename_i h2
 split at h
 ·rename_i h3
  simp only [Bool.and_eq_true,Bool.not_eq_true',decide_eq_false_iff_not] at h3
  exact absurd h h3.2
 rename_i h3
 split at h
 ·rename_i h4; exact absurd h h4
 rename_i h4
 split at h
 ·rename_i h5; exact absurd h h5
 rename_i h5
 have hop : 1 ≤ x.op∧x.op ≤ 22:=by simpa [within] using h1
 simp only [strayB,Bool.or_eq_true,Bool.and_eq_true,Bool.not_eq_true',decide_eq_false_iff_not,decide_eq_true_eq,not_or,not_and,Decidable.not_not,Bool.not_eq_false] at h2
 simp only [ne_eq,Decidable.not_not] at h4 h5
 have harg : x.op ≠ 20→x.args = []:=fun e=>by
  have:=(h2.2 e).2
  exact List.eq_nil_of_length_eq_zero (by omega)
 refine ⟨hop,harg,fun hd=>?_,fun v hv=>?_⟩
 ·by_cases hs : (shape x.op).1 = true
  ·simp only [Bool.and_eq_true,Bool.not_eq_true',decide_eq_false_iff_not,hs,true_and,not_and,Decidable.not_not,Bool.and_eq_false_iff] at h3
   have:=h3 (by
    by_cases e : x.op = 20
    ·right; omega
    ·left; exact e)
   exact (dstErr_ok this).2
  ·have:=h2.1.1.1 (by simpa using hs)
   omega
 ·unfold valsOf at hv
  rcases List.mem_append.1 hv with hv|hv
  ·split at hv
   ·simp only [List.mem_singleton] at hv; subst hv; exact valErr_ok h4
   ·cases hv
  ·rcases List.mem_append.1 hv with hv|hv
   ·split at hv
    ·simp only [List.mem_singleton] at hv; subst hv; exact valErr_ok h5
    ·cases hv
   ·unfold callErr at h
    by_cases e : x.op = 20
    ·rw [if_neg (by simpa using e)] at h
     split at h
     ·cases h
     ·split at h
      ·cases h
      ·exact valErr_ok (at0_all h v hv)
    ·rw [harg e] at hv; cases hv
theorem endErr_ok {n R : Nat} {b : LBlock} (h : endErr n R b = 0) : ValOk R b.on∧b.to.Nodup:=by
 unfold endErr endE at h
 split at h
 ·cases h
 rename_i h1
 split at h
 ·cases h
 rename_i h2
 split at h
 ·cases h
 split at h
 ·cases h
 rename_i h4
 refine ⟨valErr_ok h,?_⟩
 simp only [within,Bool.not_eq_true',Bool.and_eq_false_iff,decide_eq_false_iff_not,not_or,Decidable.not_not] at h1
 simp only [ne_eq,Decidable.not_not] at h2
 simp only [Bool.or_eq_true,Bool.and_eq_true,decide_eq_true_eq,not_or,not_and] at h4
 have h5:=h4.1
 generalize b.to = l at h2 h5
 match l,h2,h5 with
 | [],_,_=>simp
 | [x],_,_=>simp
 | [x,y],h2,h5 =>
  have:=h5 (by simp at h2; omega)
  simp at this
  simp [this]
 | x::y::z::l,h2,_=>simp at h2; omega
theorem func_okF {fs : List LFunc} {f : LFunc} {R : Nat} (hR : f.regs = R) (h : bodyErr fs f = 0) : FuncOk R f.blocks:=by
 have hg:=bodyErr_good h
 unfold bodyErr at h
 split at h
 ·rename_i h1; exact absurd h h1
 rename_i h1
 have hend:=at0_all (by simpa using h1 : (firstI (at0 f.blocks (endErr f.blocks.length f.regs)) f.blocks.length).1 = 0)
 rw [hR] at hend
 have hto : ∀ (b : Nat) (B : LBlock),f.blocks[b]? = some B→B.to.Nodup:=fun b B hB=>(endErr_ok (hend B (List.mem_of_getElem? hB))).2
 refine ⟨hg,fun b B hB=>?_⟩
 have hb:=firstI_zero h b (List.getElem?_eq_some_iff.1 hB).1
 simp only [blockErr,hB] at hb
 split at hb
 ·rename_i h2; exact absurd hb h2
 rename_i h2
 have hphi:=at0_all (by simpa using h2 : (firstI (at0 B.phis (phiErr f.regs f.blocks b)) B.phis.length).1 = 0)
 have hins:=at0_all hb
 rw [hR] at hphi hins
 refine ⟨fun p hp=>?_,fun x hx=>insErr_ok (hins x hx),(endErr_ok (hend B (List.mem_of_getElem? hB))).1,hto b B hB⟩
 have hp':=hphi p hp
 unfold phiErr phiE at hp'
 split at hp'
 ·cases hp'
 split at hp'
 ·rename_i h3; exact absurd hp' h3
 rename_i h3
 split at hp'
 ·cases hp'
 rename_i h4
 rw [aheadL_get hg hto (List.getElem?_eq_some_iff.1 hB).1] at h4
 simp only [Option.getD_some,List.length_map,ne_eq,Decidable.not_not] at h4
 exact ⟨dstErr_ok (by simpa using h3),by omega,fun v hv=>valErr_ok (at0_all hp' v hv)⟩
theorem check_head {u : LUnit} (h : (checkL u).1 = 0) {k : Nat} {X : LFunc} (hX : u.funcs[k]? = some X) : 0 ≤ X.params∧X.params ≤ X.regs∧X.regs ≤ 100:=by
 unfold checkL at h
 split at h
 ·cases h
 ·split at h
  ·rename_i h2; exact absurd h h2
  ·split at h
   ·rename_i h2; exact absurd h h2
   ·rename_i h3
    have hz:=firstI_zero (by simpa using h3)
    have:=hz k (List.getElem?_eq_some_iff.1 hX).1
    simp only [headAt,at0,hX,headErr] at this
    split at this
    ·cases this
    split at this
    ·cases this
    split at this
    ·cases this
    rename_i h4
    simp only [within,Bool.or_eq_true,Bool.not_eq_true',Bool.and_eq_false_iff,decide_eq_false_iff_not,not_or,Decidable.not_not] at h4
    omega
theorem check_func {u : LUnit} (h : (checkL u).1 = 0) {k : Nat} {X : LFunc} (hX : u.funcs[k]? = some X) : ∃ R : Nat,X.regs = R∧R ≤ 100∧FuncOk R X.blocks:=by
 have h1:=check_head h hX
 refine ⟨X.regs.toNat,by omega,by omega,func_okF (by omega) (check_bodies h X (List.mem_of_getElem? hX))⟩
theorem flat_len {α : Type} {g : α→List Value} {s : Nat} (h : ∀ x,(g x).length = s) : ∀ l : List α,(l.flatMap g).length = l.length * s
 | []=>by simp
 | x::l=>by rw [List.flatMap_cons,List.length_append,h,flat_len h l,List.length_cons,Nat.add_mul]; omega
theorem flat_at {α : Type} {g : α→List Value} {s : Nat} (h : ∀ x,(g x).length = s) : ∀ (l : List α) (i : Nat) (x : α) (j : Nat) (v : Value),l[i]? = some x→(g x)[j]? = some v→(l.flatMap g)[i * s + j]? = some v
 | [],i,x,j,v,hi,_=>by simp at hi
 | y::l,0,x,j,v,hi,hj=>by
  simp only [List.getElem?_cons_zero,Option.some.injEq] at hi
  subst hi
  rw [List.flatMap_cons,List.getElem?_append_left (by have:=(List.getElem?_eq_some_iff.1 hj).1; omega)]
  simpa using hj
 | y::l,i + 1,x,j,v,hi,hj=>by
  rw [List.flatMap_cons,List.getElem?_append_right (by rw [h,Nat.add_mul]; omega),h,show (i + 1) * s + j - s = i * s + j by rw [Nat.add_mul]; omega]
  exact flat_at h l i x j v (by simpa using hi) hj
theorem flat_from {α : Type} {g : α→List Value} {s : Nat} (h : ∀ x,(g x).length = s) : ∀ (l : List α) (k : Nat) (v : Value),(l.flatMap g)[k]? = some v→∃ i x j,l[i]? = some x∧(g x)[j]? = some v∧k = i * s + j
 | [],k,v,hk=>by simp at hk
 | y::l,k,v,hk=>by
  rw [List.flatMap_cons] at hk
  by_cases hlt : k < (g y).length
  ·rw [List.getElem?_append_left hlt] at hk
   exact ⟨0,y,k,rfl,hk,by omega⟩
  ·rw [List.getElem?_append_right (by omega),h] at hk
   obtain ⟨i,x,j,h1,h2,h3⟩:=flat_from h l _ v hk
   rw [h] at hlt
   exact ⟨i + 1,x,j,by simpa using h1,h2,by rw [Nat.add_mul]; omega⟩
section
variable {P : Program} {ro : Option Nat} {N : Nat} {ds : List Deferred} {S : Nat→Prop} {w0 : World} {L L' : List (Nat × Value)} {H H' : List Ent} {a : Act} {w : World}
 {ops : Array Oper} {rest : List Oper} {Q : Exit→Act→World→Prop} {p : Act→World→Prop} {x y : Operand}
theorem g_appendF {α : Type} {d ty T e s by' : Nat} {zs : List Value} {pos : String} {aft : Array Go.Edge} {ad a2 : Option Addr} {n c m c2 k : Nat} {xs : List Value} [h : ElemInfo P T e s by' zs] [hx : Ev L x (.slice ad n c)] [hy : Ev L y (.slice a2 m c2)]
  [hv : VecIn H ad n c k e s xs] (hd : okPut d N L = true) (hs : (Nat.blt 0 s && Nat.beq zs.length s) = true) (l : List α) {V : World→α→List Value→Prop} (g : α→List Value) (hg : ∀ w x cs,V w x cs→cs = g x) (hlen : ∀ x,(g x).length = s) (hone : ∀ x,∀ u ∈ g x,u.oneCell' = true)
  (hsl : ∀ w,Wd S w0 H w→SlAt w (.slice a2 m c2) s l V) (hbytes : (n + m) * by' ≤ 140737488355328) (h63 : n + m ≤ 140737488355328)
  {F : Ent→List Ent} [hF : SetFn H k F] (kk : ∀ a' c',G N ds S w0 ((d,.slice a' (n + m) c')::L) (F (Ent.vec a' (n + m) c' e s (xs++l.flatMap g))) (wpListIn (FW ro) 0 P ops Q rest)) : G N ds S w0 L H (wpListIn (FW ro) 0 P ops Q (⟨some d,.call { callee:=.builtin .append,args:=#[x,y],argTypes:=#[T,T] },ty,pos,aft,none⟩::rest)):=by
 intro a w hS
 simp only [Bool.and_eq_true,Nat.blt_eq] at hs
 obtain ⟨a2',m',c2',b,o,hval,hm,hmc,_,_,ha,hel⟩:=hsl w hS.wd
 simp only [Value.slice.injEq] at hval
 obtain ⟨rfl,rfl,rfl⟩:=hval
 by_cases h0 : m = 0
 ·subst h0
  have hl : l = []:=List.eq_nil_of_length_eq_zero hm.symm
  subst hl
  obtain ⟨i,zz,hi,_,_,_,_⟩:=h.get
  have hnc : n ≤ c:=by
   obtain ⟨_,h2⟩:=hS.wd.get hv.at'
   rcases h2 with ⟨_,h2,h3⟩|⟨_,_,_,_,h3,_⟩ <;> omega
  have hr : (Builtin.append_ #[T,T] ty #[.slice ad n c,.slice a2 0 c2]).run P w = .ok (.slice ad n c) w:=by
   cases ad <;> cases a2 <;> simp [Builtin.append_,run_underlying h.und,sizeOf,typeInfo,hi,Builtin.lenOf,Builtin.firstCells,hnc,storeCells,loadCells,loadCellsFrom]
  refine step_val (v:=.slice ad n c) (w':=w) rfl (fun _ h=>by cases h) ?_ ?_
  ·simp [execOp,resolve,invoke,builtin,hx.eq _ _ _ hS.fr,hy.eq _ _ _ hS.fr,hr]
  ·have:=kk ad c
   simp only [List.flatMap_nil,List.append_nil,Nat.add_zero] at this
   rw [← hF.eq,set_self hv.at'] at this
   exact this _ _ ⟨hS.fr.putOk hd _,hS.wd⟩
 ·have hne : l ≠ []:=by rintro rfl; simp at hm; exact h0 hm
  have ha:=ha hne
  subst ha
  obtain ⟨a',c',w',hr,hw'⟩:=hS.wd.append (P:=P) (ty:=ty) (c2:=c2) (a2:=⟨b,o,none⟩) (m:=m) (news:=l.flatMap g) h hs.1 hv.at' (by omega) (by rw [flat_len hlen,hm]) (fun j u hj=>by
   obtain ⟨i,q,j',h1,h2,rfl⟩:=flat_from hlen l j u hj
   obtain ⟨cs,hc,hV⟩:=hel i q h1
   rw [hg _ _ _ hV] at hc
   have:=hc j' u h2
   rw [Addr.add_lit,← Nat.add_assoc]
   exact this) (fun u hu=>by obtain ⟨q,_,hq⟩:=List.mem_flatMap.1 hu; exact hone q u hq) hbytes h63 (Nat.eq_of_beq_eq_true hs.2)
  refine step_val (v:=.slice a' (n + m) c') (w':=w') rfl (fun _ h=>by cases h) ?_ ?_
  ·simp [execOp,resolve,invoke,builtin,hx.eq _ _ _ hS.fr,hy.eq _ _ _ hS.fr,hr]
  ·rw [hF.eq] at hw'
   exact kk a' c' _ _ ⟨hS.fr.putOk hd _,hw'⟩
def marks (Ds : List Nat) : List Ent:=Ds.map Ent.mark
def dsOf (Ds : List Nat) : List Deferred:=Ds.map fun D=>⟨.collected D,#[]⟩
def NextD {α : Type} (N : Nat) (dx : α→List Deferred) (S : Nat→Prop) (w0 : World) (I : α→Prop) (Lx : α→List (Nat × Value)) (Hx : α→List Ent) (m : α→Nat) (x : α) : Act→World→Prop :=
 fun a w=>∃ x',(I x'∧St N (dx x') S w0 (Lx x') (Hx x') a w)∧m x' < m x
theorem g_loopD {α : Type} (dx : α→List Deferred) (I : α→Prop) (Lx : α→List (Nat × Value)) (Hx : α→List Ent) (m : α→Nat) {c : Code} (x : α) (hds : dx x = ds) (hI : I x) (h0 : G N ds S w0 L H (St N ds S w0 (Lx x) (Hx x)))
  (round : ∀ x,I x→G N (dx x) S w0 (Lx x) (Hx x) (Code.wpIn (FW ro) 0 P c (Exit.then (NextD N dx S w0 I Lx Hx m x) Q))) : G N ds S w0 L H (Code.wpIn (FW ro) 0 P (Code.loop c) Q) :=
 fun a w hS=>c_loop (fun x a w=>I x∧St N (dx x) S w0 (Lx x) (Hx x) a w) m x ⟨hI,by rw [hds]; exact h0 a w hS⟩ fun x a w h=>round x h.1 a w h.2
theorem g_nextD {α : Type} {dx : α→List Deferred} {I : α→Prop} {Lx : α→List (Nat × Value)} {Hx : α→List Ent} {m : α→Nat} {x : α} (x' : α) (hds : dx x' = ds) (hI : I x') (hm : m x' < m x) (hL : allIn L (Lx x')) (hH : (Hx x').Sublist H) : G N ds S w0 L H (NextD N dx S w0 I Lx Hx m x) :=
 fun _ _ hS=>⟨x',⟨hI,by rw [hds]; exact hS.fix hL hH⟩,hm⟩
def KeepX (own : Nat→Prop) (W W' : World) : Prop:=∀ b cs t z,¬ own b→W.heap[b]? = some (.cells cs t z)→W'.heap[b]? = some (.cells cs t z)
theorem KeepX.trans {own : Nat→Prop} {A B C : World} (h : KeepX own A B) (k : KeepX own B C) : KeepX own A C:=fun b cs t z hb hc=>k b cs t z hb (h b cs t z hb hc)
theorem cell_block {W : World} {p : Addr} {v : Value} (h : W.cell? p = some v) : ∃ cs t z,W.heap[p.block]? = some (.cells cs t z):=by
 unfold World.cell? at h
 revert h
 cases W.heap[p.block]? with
 | none=>intro h; simp at h
 | some o=>cases o <;> intro h <;> first|exact ⟨_,_,_,rfl⟩|simp at h
theorem KeepX.cell {own : Nat→Prop} {A B : World} (h : KeepX own A B) {p : Addr} {v : Value} (hp : ¬ own p.block) (hc : A.cell? p = some v) : B.cell? p = some v:=by
 obtain ⟨cs,t,z,hb⟩:=cell_block hc
 have:=h _ _ _ _ hp hb
 rw [← hc]
 exact World.cell?_of_block (this.trans hb.symm)
theorem g_doneP {Lp : Nat→List (Nat × Value)} {Hp : Nat→List Ent} (q : Nat) (hL : allIn L (Lp q)) (hH : (Hp q).Sublist H) : G N ds S w0 L H (fun a w=>∃ q,St N ds S w0 (Lp q) (Hp q) a w):=fun _ _ hS=>⟨q,hS.fix hL hH⟩
end
section
variable {P : Program} {N : Nat} {ds : List Deferred} {S : Nat→Prop} {w0 : World} {L : List (Nat × Value)} {H : List Ent} {ops : Array Oper} {rest : List Oper} {Q : Exit→Act→World→Prop} {p : Act→World→Prop}
theorem rebase {a : Act} {w : World} (hF : Fr N ds L a) (h : G N ds NoS w L [] p) : p a w:=h a w ⟨hF,Wd.nil NoS w⟩
theorem g_yield {d ty l m : Nat} {args : List Operand} {vs : List Value} {tys : Array Nat} {pos : String} {aft : Array Go.Edge} {x : Operand} (R : World→Value→World→Prop) [hf : Ev L x (.func (.yield l) #[] #[])] [hx : Evs L args vs] (hd : okPut d N L = true)
  (hc : ∀ w,Wd S w0 H w→YieldAt (FW none) m P l vs.toArray w fun e w'=>∃ v,e = .returned v∧R w v w')
  (k : ∀ v w w',Wd S w0 H w→R w v w'→∀ a,Fr N ds ((d,v)::L) a→wpListIn (FW none) 0 P ops Q rest a w') : G N ds S w0 L H (wpListIn (FW none) 0 P ops Q (⟨some d,.call { callee:=.value x,args:=args.toArray,argTypes:=tys },ty,pos,aft,none⟩::rest)):=by
 intro a w hS
 obtain ⟨fn,tmps,assign,body,hy,hR⟩:=hc w hS.wd
 refine wpListIn_plain rfl fun K hK=>?_
 refine ⟨fun _ _=>trivial,?_⟩
 rw [semAt_ne _ _ _ (fun _ h=>by cases h)]
 have hr : (execOp a.eval ⟨some d,.call { callee:=.value x,args:=args.toArray,argTypes:=tys },ty,pos,aft,none⟩).run P w = .ok (.round l fn tmps assign body) w:=by
  simp [execOp,resolve,hf.eq _ _ _ hS.fr,Deferred.ofValue,invoke,hx.eq _ _ _ hS.fr,hy]
 rw [hr]
 refine ⟨fun h=>(by cases h),?_⟩
 have hR0 : RoundIn (FW none) (0 - 1) P l fn tmps assign body w fun e w'=>∃ v,e = .returned v∧R w v w':=⟨hR.1,fun c cs _=>hR.2 c cs (fun d hd=>by cases hd)⟩
 refine hR0.mono fun e w' ⟨v,he,hv⟩=>?_
 subst he
 exact hK _ _ (k v w w' hS.wd hv _ (hS.fr.putOk hd v))
theorem g_joinM {ro : Option Nat} {l l1 l2 : List Oper} (d : Nat) (M : Act→World→Prop) [hs : SplitTo l d l1 l2] (h1 : G N ds S w0 L H (wpListIn (FW ro) 0 P ops (Exit.then M Q) l1)) (h2 : ∀ a w,M a w→wpListIn (FW ro) 0 P ops Q l2 a w) : G N ds S w0 L H (wpListIn (FW ro) 0 P ops Q l):=fun a w hS=>by
 obtain ⟨n,e1,e2⟩:=hs.eq
 exact wpl_split (M:=M) n (fun a w h=>by rw [e2]; exact h2 a w h) (by rw [e1]; exact h1 a w hS)
end
theorem CellsAt.mono {w w' : World} (h : ∀ p v,w.cell? p = some v→w'.cell? p = some v) {b o : Nat} {cs : List Value} (hc : CellsAt w b o cs) : CellsAt w' b o cs:=fun j v hj=>h _ _ (hc j v hj)
theorem SlAt.mono {α : Type} {V : World→α→List Value→Prop} {w w' : World} (hV : ∀ x cs,V w x cs→V w' x cs) (h : ∀ p v,w.cell? p = some v→w'.cell? p = some v) {v : Value} {s : Nat} {l : List α} (hs : SlAt w v s l V) : SlAt w' v s l V:=by
 obtain ⟨a,n,c,b,o,h1,h2,h3,hz,h4,h5,h6⟩:=hs
 refine ⟨a,n,c,b,o,h1,h2,h3,hz,h4,h5,fun i x hx=>?_⟩
 obtain ⟨cs,hc,hv⟩:=h6 i x hx
 exact ⟨cs,hc.mono h,hV x cs hv⟩
theorem Chg.cells {w w' : World} (h : Chg NoS w w') : ∀ p v,w.cell? p = some v→w'.cell? p = some v:=fun _ _ hc=>cell_keep h hc
theorem jchg {β : Type} {B : Nat} {J : β→World→Prop} (h : AbidesFrom B J) {s : β} {w w' : World} (hc : Chg NoS w w') (hs : J s w) : J s w' :=
 h s w w' none hs ⟨hc.os,hc.tape,hc.output,hc.size,fun k hk _=>hc.block k hk fun h=>h⟩ (fun r e=>by cases e)
attribute [local irreducible] wpListIn Code.wpIn Exit.then Exit.inBlock bodyPost wpQuiet wpAnyIn
set_option maxHeartbeats 4000000
theorem vals_c (x : LIns) (xv : Value) (hxv : ∃ a n c,xv = .slice a n c) (w0 : World) :
  Ret Tryd.prog 46 [.agg #[.int .i64 x.op,.int .i64 x.dst,.bool x.a.reg,.int .i64 x.a.n,.bool x.b.reg,.int .i64 x.b.n,.int .i64 x.fn,xv]] w0 fun u w'=>∃ p : Nat,u = .func (.func 61) #[] #[.pointer (some ⟨p,0,none⟩)]∧Wd NoS w0 [Ent.box p [.int .i64 x.op,.int .i64 x.dst,.bool x.a.reg,.int .i64 x.a.n,.bool x.b.reg,.int .i64 x.b.n,.int .i64 x.fn,xv] 40] w'∧True:=by
 obtain ⟨a,n,c,rfl⟩:=hxv
 refine ret_enter Tryd.func46 rfl Tryd.ntmps46 rfl (Wd.nil NoS w0) ?_
 repeat (first|refine g_op rfl ?_|refine g_then ?_|refine g_nil ?_|refine g_region ?_|refine g_seq ?_|refine g_opS rfl ?_|refine g_box rfl fun _ _=>?_|refine g_ret ?_)
 exact g_ret1 rfl fun w hw=>⟨_,rfl,hw,trivial⟩
theorem vals1_c {α : Type} (enc : α→LVal) (x : LIns) (va : Option Addr) (vn vc : Nat) (xs : List α) (hxs : xs.map enc = valsOf x) (hlen : x.args.length ≤ 100000) (l bp : Nat) (own : Nat→Prop) (wz : World) (hsl : SlAt wz (.slice va vn vc) 2 x.args ValV) (hown : ∀ p v,wz.cell? p = some v→¬ own p.block) (hbp : ¬ own bp) (W : World) (hownW : ∀ b,W.heap.size ≤ b→¬ own b) (J Jx : List α→World→Prop) (B : Nat) (hJ : AbidesFrom B J) (hJx : AbidesFrom B Jx)
  (hY : ∀ pre y W,J pre W→pre.length < xs.length→YieldAt (FW none) 3 Tryd.prog l #[.agg #[.bool (enc y).reg,.int .i64 (enc y).n]] W fun e W' =>
   (e = .returned (.bool true)∧J (pre++[y]) W'∧KeepX own W W') ∨ (e = .returned (.bool false)∧Jx (pre++[y]) W'))
  (hz : ∀ p v,wz.cell? p = some v→W.cell? p = some v) (hc : CellsAt W bp 0 [.int .i64 x.op,.int .i64 x.dst,.bool x.a.reg,.int .i64 x.a.n,.bool x.b.reg,.int .i64 x.b.n,.int .i64 x.fn,.slice va vn vc]) (h0 : J [] W) :
  Ret Tryd.prog 61 [.func (.yield l) #[] #[],.pointer (some ⟨bp,0,none⟩)] W fun _ W'=>(∃ ys,ys = xs∧J ys W') ∨ (∃ pre,pre <+: xs∧Jx pre W'):=by
 have hbpi : CellsIs W bp 0 _:=⟨hc⟩
 refine ret_enter Tryd.func61 rfl Tryd.ntmps61 rfl (Wd.nil NoS W) ?_
 repeat (first|refine g_op rfl ?_|refine g_region ?_|refine g_seq ?_)
 refine g_callV rfl (fun w hw=>shapes_c x.op w) ?_
 repeat (first|refine g_op rfl ?_|refine g_then ?_|refine g_nil ?_|refine g_region ?_|refine g_seq ?_|refine g_alloc rfl fun _ _=>?_|refine g_storeAgg ?_)
 rename_i p3 hp3
 have henc : ∀ j v,(valsOf x)[j]? = some v→∃ y,xs[j]? = some y∧enc y = v:=fun j v hj=>by
  rw [← hxs,List.getElem?_map] at hj
  obtain ⟨y,hy,e⟩:=Option.map_eq_some_iff.1 hj
  exact ⟨y,hy,e⟩
 have hxl : xs.length = (valsOf x).length:=by have:=congrArg List.length hxs; rwa [List.length_map] at this
 have htk : ∀ j y,xs[j]? = some y→xs.take j++[y] = xs.take (j + 1):=fun j y hy=>by rw [List.take_add_one,hy]; rfl
 -- one more value
 have step : ∀ j v,(valsOf x)[j]? = some v→∀ w,J (xs.take j) w→YieldAt (FW none) 3 Tryd.prog l [Value.agg #[.bool v.reg,.int .i64 v.n]].toArray w fun e W'=>∃ u,e = .returned u∧((u = .bool true∧J (xs.take (j + 1)) W'∧KeepX own w W') ∨ (u = .bool false∧Jx (xs.take (j + 1)) W')):=fun j v hj w hJw=>by
  obtain ⟨y,hy,rfl⟩:=henc j v hj
  have hlt:=(List.getElem?_eq_some_iff.1 hy).1
  have:=hY (xs.take j) y w hJw (by rw [List.length_take]; omega)
  rw [htk j y hy] at this
  exact this.mono fun e W' h=>h.elim (fun ⟨h1,h2,h3⟩=>⟨_,h1,.inl ⟨rfl,h2,h3⟩⟩) fun ⟨h1,h2⟩=>⟨_,h1,.inr ⟨rfl,h2⟩⟩
 have keepW : ∀ w,(∀ p v,wz.cell? p = some v→w.cell? p = some v)→∀ w',KeepX own w w'→∀ p v,wz.cell? p = some v→w'.cell? p = some v:=fun w h w' hk p v hp=>hk.cell (hown p v hp) (h p v hp)
 have keepC : ∀ b cs,¬ own b→∀ w,CellsAt w b 0 cs→∀ w',KeepX own w w'→CellsAt w' b 0 cs:=fun b cs hb w h w' hk j v hj=>hk.cell hb (h j v hj)
 unfold valsOf at hxl step
 generalize shape x.op = sh at hxl step ⊢
 obtain ⟨s1,sA,sB⟩:=sh
 simp only at hxl step ⊢
 have hn3 : ¬ own p3:=hownW p3 hp3
 refine g_joinM 18 (fun a w=>(Fr 41 [] [(18,.bool false),(3,.pointer (some ⟨p3,0,none⟩)),(0,.func (.yield l) #[] #[]),(1,.pointer (some ⟨bp,0,none⟩))] a∧J (xs.take (if sA then 1 else 0)) w∧(∀ p v,wz.cell? p = some v→w.cell? p = some v)∧CellsAt w bp 0 [.int .i64 x.op,.int .i64 x.dst,.bool x.a.reg,.int .i64 x.a.n,.bool x.b.reg,.int .i64 x.b.n,.int .i64 x.fn,.slice va vn vc]∧CellsAt w p3 0 [.bool s1,.bool sA,.bool sB]) ∨ (Fr 41 [] [(18,.bool true),(0,.func (.yield l) #[] #[]),(1,.pointer (some ⟨bp,0,none⟩))] a∧∃ pre,pre <+: xs∧Jx pre w)) ?_ ?_
 ·cases sA
  ·repeat (first|refine g_op rfl ?_|refine g_then ?_|refine g_nil ?_|refine g_pass rfl ?_)
   exact fun a w hS=>.inl ⟨hS.fr.to (by repeat (first|exact trivial|refine ⟨rfl,?_⟩)),jchg hJ hS.wd.chg (by simpa using h0),fun p v h=>cell_keep hS.wd.chg (hz p v h),hc.keep hS.wd.chg,hS.wd.boxCells p3⟩
  ·repeat (first|refine g_op rfl ?_|refine g_open ?_)
   refine g_yield (m:=3) (fun w v w'=>(v = .bool true∧J (xs.take 1) w'∧KeepX own w w') ∨ (v = .bool false∧Jx (xs.take 1) w')) rfl (fun w hw=>step 0 x.a rfl w (jchg hJ hw.chg (by simpa using h0))) fun v w w' hw hR a hF=>?_
   rcases hR with ⟨rfl,hJ',hk⟩|⟨rfl,hJ'⟩
   ·have hb':=keepC bp _ hbp w (hc.keep hw.chg) w' hk
    have h3':=keepC p3 _ hn3 w (hw.boxCells p3) w' hk
    have hz':=keepW w (fun p v h=>cell_keep hw.chg (hz p v h)) w' hk
    refine rebase hF ?_
    repeat (first|refine g_op rfl ?_|refine g_then ?_|refine g_nil ?_|refine g_open ?_)
    exact fun a w hS=>.inl ⟨hS.fr.to (by repeat (first|exact trivial|refine ⟨rfl,?_⟩)),jchg hJ hS.wd.chg hJ',fun p v h=>cell_keep hS.wd.chg (hz' p v h),hb'.keep hS.wd.chg,h3'.keep hS.wd.chg⟩
   ·refine rebase hF ?_
    repeat (first|refine g_op rfl ?_|refine g_then ?_|refine g_nil ?_|refine g_open ?_)
    exact fun a w hS=>.inr ⟨hS.fr.to (by repeat (first|exact trivial|refine ⟨rfl,?_⟩)),_,List.take_prefix _ _,jchg hJx hS.wd.chg hJ'⟩
 intro a w hM
 rcases hM with ⟨hF,hJA,hzA,hbA,h3A⟩|⟨hF,pre,hpre,hJA⟩
 case inr =>
  refine rebase hF ?_
  repeat (first|refine g_op rfl ?_|refine g_then ?_|refine g_nil ?_|refine g_pass rfl ?_|refine g_condT ?_|refine g_ret ?_|refine g_thenRet ?_|refine g_passU rfl ?_)
  exact g_ret0 rfl fun w' hw'=>.inr ⟨pre,hpre,jchg hJx hw'.chg hJA⟩
 refine rebase hF ?_
 have hbi : CellsIs w bp 0 _:=⟨hbA⟩
 have h3i : CellsIs w p3 0 _:=⟨h3A⟩
 repeat (first|refine g_op rfl ?_|refine g_open ?_)
 refine g_joinM 28 (fun a w=>(Fr 41 [] [(28,.bool false),(0,.func (.yield l) #[] #[]),(1,.pointer (some ⟨bp,0,none⟩))] a∧J (xs.take ((if sA then 1 else 0) + (if sB then 1 else 0))) w∧(∀ p v,wz.cell? p = some v→w.cell? p = some v)∧CellsAt w bp 0 [.int .i64 x.op,.int .i64 x.dst,.bool x.a.reg,.int .i64 x.a.n,.bool x.b.reg,.int .i64 x.b.n,.int .i64 x.fn,.slice va vn vc]) ∨ (Fr 41 [] [(28,.bool true),(0,.func (.yield l) #[] #[]),(1,.pointer (some ⟨bp,0,none⟩))] a∧∃ pre,pre <+: xs∧Jx pre w)) ?_ ?_
 ·cases sB
  ·repeat (first|refine g_op rfl ?_|refine g_then ?_|refine g_nil ?_|refine g_open ?_|refine g_pass rfl ?_)
   exact fun a w2 hS=>.inl ⟨hS.fr.to (by repeat (first|exact trivial|refine ⟨rfl,?_⟩)),jchg hJ hS.wd.chg (by simpa using hJA),fun p v h=>cell_keep hS.wd.chg (hzA p v h),hbA.keep hS.wd.chg⟩
  ·repeat (first|refine g_op rfl ?_|refine g_open ?_)
   refine g_yield (m:=3) (fun w v w'=>(v = .bool true∧J (xs.take ((if sA then 1 else 0) + 1)) w'∧KeepX own w w') ∨ (v = .bool false∧Jx (xs.take ((if sA then 1 else 0) + 1)) w')) rfl (fun w2 hw=>step (if sA then 1 else 0) x.b (by cases sA <;> rfl) w2 (jchg hJ hw.chg hJA)) fun v w2 w' hw hR a hF=>?_
   rcases hR with ⟨rfl,hJ',hk⟩|⟨rfl,hJ'⟩
   ·have hb':=keepC bp _ hbp w2 (hbA.keep hw.chg) w' hk
    have hz':=keepW w2 (fun p v h=>cell_keep hw.chg (hzA p v h)) w' hk
    refine rebase hF ?_
    repeat (first|refine g_op rfl ?_|refine g_then ?_|refine g_nil ?_|refine g_open ?_)
    exact fun a w hS=>.inl ⟨hS.fr.to (by repeat (first|exact trivial|refine ⟨rfl,?_⟩)),jchg hJ hS.wd.chg hJ',fun p v h=>cell_keep hS.wd.chg (hz' p v h),hb'.keep hS.wd.chg⟩
   ·refine rebase hF ?_
    repeat (first|refine g_op rfl ?_|refine g_then ?_|refine g_nil ?_|refine g_open ?_)
    exact fun a w hS=>.inr ⟨hS.fr.to (by repeat (first|exact trivial|refine ⟨rfl,?_⟩)),_,List.take_prefix _ _,jchg hJx hS.wd.chg hJ'⟩
 intro a w hM
 rcases hM with ⟨hF,hJB,hzB,hbB⟩|⟨hF,pre,hpre,hJB⟩
 case inr =>
  refine rebase hF ?_
  repeat (first|refine g_then ?_|refine g_nil ?_|refine g_condT ?_|refine g_ret ?_|refine g_thenRet ?_)
  exact g_ret0 rfl fun w' hw'=>.inr ⟨pre,hpre,jchg hJx hw'.chg hJB⟩
 refine rebase hF ?_
 have hbi2 : CellsIs w bp 0 _:=⟨hbB⟩
 repeat (first|refine g_op rfl ?_|refine g_then ?_|refine g_nil ?_|refine g_region ?_|refine g_seq ?_|refine g_block ?_|refine g_skip ?_|refine g_condF ?_)
 generalize hc0 : (if sA = true then 1 else 0) + (if sB = true then 1 else 0) = c0 at hJB
 have hn : vn = x.args.length:=by
  obtain ⟨_,_,_,_,_,e,h,_⟩:=hsl
  simp only [Value.slice.injEq] at e
  rw [e.2.1]; exact h
 have hstep : ∀ i v,x.args[i]? = some v→((if sA = true then [x.a] else [])++((if sB = true then [x.b] else [])++x.args))[c0 + i]? = some v:=fun i v hi=>by
  subst hc0
  cases sA <;> cases sB <;> simp [hi,Nat.add_comm]
 have hxl2 : xs.length = c0 + x.args.length:=by
  subst hc0
  rw [hxl]
  cases sA <;> cases sB <;> simp <;> omega
 intro a w1 hS1
 have hJ1:=jchg hJ hS1.wd.chg hJB
 have hz1:=fun p v h=>cell_keep hS1.wd.chg (hzB p v h)
 have hF1:=hS1.fr
 refine c_loop (fun (i : Nat) a w=>i ≤ vn∧Fr 41 [] [(32,.int .i64 (i : Int)),(30,.slice va vn vc),(31,.int .i64 vn),(0,.func (.yield l) #[] #[]),(1,.pointer (some ⟨bp,0,none⟩))] a∧J (xs.take (c0 + i)) w∧∀ p v,wz.cell? p = some v→w.cell? p = some v) (fun i=>vn - i) 0 ⟨Nat.zero_le _,hF1.to (by repeat (first|exact trivial|refine ⟨rfl,?_⟩)),by simpa using hJ1,hz1⟩ ?_
 rintro i a w ⟨hi,hF,hJi,hzi⟩
 refine rebase hF ?_
 repeat (first|refine g_op rfl ?_|refine g_then ?_|refine g_nil ?_|refine g_region ?_|refine g_seq ?_)
 refine g_cond (fun h1=>?_) (fun h1=>?_)
 ·have hlt : i < vn:=by simpa using h1
  obtain ⟨v,hv⟩ : ∃ v,x.args[i]? = some v:=⟨_,List.getElem?_eq_getElem (by omega)⟩
  have hsl2 : SlAt w (.slice va vn vc) 2 x.args ValV:=SlAt.mono (w:=wz) (w':=w) (V:=ValV) (fun _ _ h=>h) hzi hsl
  obtain ⟨va',vn',vc',vb,vo,e,hvn,_,_,_,hva,hvel⟩:=hsl2
  simp only [Value.slice.injEq] at e
  obtain ⟨rfl,rfl,rfl⟩:=e
  have had : AddrIs va vb vo:=⟨hva (ne_of_get hv)⟩
  have hli : LtIs i vn:=⟨hlt⟩
  obtain ⟨cs,hcs,rfl,_⟩:=hvel i v hv
  have hci : CellsIs w vb (vo + i * 2) _:=⟨hcs⟩
  repeat (first|refine g_op rfl ?_|refine g_then ?_|refine g_nil ?_|refine g_region ?_|refine g_seq ?_|refine g_alloc rfl fun _ _=>?_|refine g_storeAgg ?_|refine g_block ?_|refine g_skip ?_)
  refine g_yield (m:=3) (fun w v w'=>(v = .bool true∧J (xs.take (c0 + i + 1)) w'∧KeepX own w w') ∨ (v = .bool false∧Jx (xs.take (c0 + i + 1)) w')) rfl (fun w2 hw=>step (c0 + i) v (hstep i v hv) w2 (jchg hJ hw.chg hJi)) fun v w2 w' hw hR a hF=>?_
  rcases hR with ⟨rfl,hJ',hk⟩|⟨rfl,hJ'⟩
  ·have hz':=keepW w2 (fun p v h=>cell_keep hw.chg (hzi p v h)) w' hk
   refine rebase hF ?_
   repeat (first|refine g_op rfl ?_|refine g_then ?_|refine g_nil ?_|refine g_region ?_|refine g_opS rfl ?_|refine g_inBlock ?_|refine g_skip ?_|refine g_condF ?_|refine g_add rfl (by omega) (by omega) ?_)
   exact fun a w3 hS=>⟨i + 1,⟨hlt,hS.fr.to (by repeat (first|exact trivial|refine ⟨rfl,?_⟩)),jchg hJ hS.wd.chg hJ',fun p v h=>cell_keep hS.wd.chg (hz' p v h)⟩,by omega⟩
  ·refine rebase hF ?_
   repeat (first|refine g_op rfl ?_|refine g_then ?_|refine g_nil ?_|refine g_condT ?_|refine g_ret ?_|refine g_thenRet ?_|refine g_blockRet ?_)
   exact g_ret0 rfl fun w3 hw3=>.inr ⟨_,List.take_prefix _ _,jchg hJx hw3.chg hJ'⟩
 ·have hge : i = vn:=by have:=h1; simp at this; omega
  repeat (first|refine g_exit ?_|refine g_thenExit ?_|refine g_exitHere ?_)
  refine g_end0 rfl fun w3 hw3=>.inl ⟨xs,rfl,?_⟩
  rw [List.take_of_length_le (by omega)] at hJi
  exact jchg hJ hw3.chg hJi
end Go.Proofs.YtdbljcahlpkgdaaDoor
namespace Go.Proofs.YtdbljcahlpkgdaaDoor
open Go Go.RowKit
attribute [local irreducible] wpListIn Code.wpIn Exit.then Exit.inBlock bodyPost wpQuiet wpAnyIn
set_option maxHeartbeats 4000000
theorem graphAhead_c (nm pa re : Value) (bl : List LBlock) (bs : Value) (w0 : World) (hbs : SlAt w0 bs 6 bl BlockV) (hlen : bl.length ≤ 100) (hok : GoodB bl) :
  Ret Tryd.prog 39 [.agg #[nm,pa,re,bs]] w0 fun u w'=>∃ x : (Option Addr × Nat × Nat) × (Nat→Prop),u = .slice x.1.1 x.1.2.1 x.1.2.2∧Wd NoS w0 [⟨x.2,fun w=>SlAt w (.slice x.1.1 x.1.2.1 x.1.2.2) 1 (aheadL bl) RowV⟩] w'∧True:=by
 obtain ⟨ba,n,bc,bb,bo',rfl,hn,hnc,hnb,hbc,hba,hel⟩:=hbs
 refine ret_enter Tryd.func39 rfl Tryd.ntmps39 rfl (Wd.nil NoS w0) ?_
 repeat (first|refine g_op rfl ?_|refine g_then ?_|refine g_nil ?_|refine g_region ?_|refine g_seq ?_|refine g_box rfl fun _ _=>?_|refine g_block ?_|refine g_make rfl (by omega) (by omega) fun _ _=>?_)
 rename_i b1 _ bo _
 refine g_nilVecs 3 1 n ?_
 rw [show (List.replicate n (Value.slice none 0 0)) = (List.replicate n (⟨none,0,[]⟩ : Row)).map valR by simp [valR],show (List.replicate n (Ent.vec none 0 0 3 1 [])) = (List.replicate n (⟨none,0,[]⟩ : Row)).map entR by simp [entR]]
 refine g_loop (fun (x : Nat × List Row)=>x.1 ≤ n∧x.2.map (·.l) = aheadTo bl x.1∧x.2.length = n∧∀ r ∈ x.2,r.l.length ≤ 2 * x.1∧∀ y ∈ r.l,inI y) (fun x=>[(15,.int .i64 x.1),(13,.slice ba n bc),(14,.int .i64 n),(3,.slice (some ⟨bo,0,none⟩) n n)]) (fun x=>Ent.vec (some ⟨bo,0,none⟩) n n 43 1 (x.2.map valR)::x.2.map entR) (fun x=>n - x.1) (0,List.replicate n ⟨none,0,[]⟩)
  ⟨Nat.zero_le _,by simp [aheadTo,hn],by simp,by simp⟩ (g_done (by repeat (first|exact trivial|refine ⟨rfl,?_⟩)) (.cons_cons _ (.cons _ (.refl _)))) fun x ⟨hi,hrows,hrl,hbd⟩=>?_
 obtain ⟨i,rs⟩:=x
 simp only at hi hrows hrl hbd ⊢
 repeat (first|refine g_op rfl ?_|refine g_then ?_|refine g_nil ?_|refine g_region ?_|refine g_seq ?_)
 refine g_cond (fun h1=>?_) (fun h1=>?_)
 ·have hlt : i < n:=by simpa using h1
  obtain ⟨B,hB⟩:=get_lt hn hlt
  have had : AddrIs ba bb bo':=⟨hba (ne_of_get hB)⟩
  have hli : LtIs i n:=⟨hlt⟩
  obtain ⟨cs,hcs,pv,lv,tv,rfl,_,_,hphis,hlist,ht⟩:=hel i B hB
  obtain ⟨pa',pn,pc,_,_,rfl,_⟩:=hphis
  obtain ⟨la,ln,lc,_,_,rfl,_⟩:=hlist
  obtain ⟨ta,tn,tc,tb,to',rfl,htn,htnc,htnb,htc,hta,htel⟩:=ht
  have hci : CellsIs w0 bb (bo' + i * 6) _:=⟨hcs⟩
  have htok : toOk bl.length B.to:=hok B (List.mem_of_getElem? hB)
  repeat (first|refine g_op rfl ?_|refine g_then ?_|refine g_nil ?_|refine g_region ?_|refine g_seq ?_|refine g_alloc rfl fun _ _=>?_|refine g_storeAgg ?_|refine g_block ?_|refine g_skip ?_)
  refine g_loop (fun (x : Nat × List Row)=>x.1 ≤ tn∧x.2.map (·.l) = (B.to.take x.1).foldl (aheadIn i) (aheadTo bl i)∧x.2.length = n∧∀ r ∈ x.2,r.l.length ≤ 2 * i + x.1∧∀ y ∈ r.l,inI y) (fun x=>[(24,.int .i64 x.1),(22,.slice ta tn tc),(23,.int .i64 tn),(4,.int .i64 i),(15,.int .i64 i),(13,.slice ba n bc),(14,.int .i64 n),(3,.slice (some ⟨bo,0,none⟩) n n)])
   (fun x=>Ent.vec (some ⟨bo,0,none⟩) n n 43 1 (x.2.map valR)::x.2.map entR) (fun x=>tn - x.1) (0,rs)
   ⟨Nat.zero_le _,by simpa using hrows,hrl,fun r hr=>by simpa using hbd r hr⟩ (g_done (by repeat (first|exact trivial|refine ⟨rfl,?_⟩)) (.cons _ (.refl _))) fun x ⟨hj,hrows',hrl',hbd'⟩=>?_
  obtain ⟨j,rs'⟩:=x
  simp only at hj hrows' hrl' hbd' ⊢
  repeat (first|refine g_op rfl ?_|refine g_then ?_|refine g_nil ?_|refine g_region ?_|refine g_seq ?_)
  refine g_cond (fun h2=>?_) (fun h2=>?_)
  ·have hjlt : j < tn:=by simpa using h2
   obtain ⟨t,htj⟩:=get_lt htn hjlt
   have htt:=htok.2 t (List.mem_of_getElem? htj)
   obtain ⟨k,hk⟩ : ∃ k : Nat,t = k:=⟨t.toNat,by omega⟩
   have hkn : k < n:=by omega
   have hkl : k < rs'.length:=by omega
   obtain ⟨r,hr⟩ : ∃ r,rs'[k]? = some r:=⟨_,List.getElem?_eq_getElem hkl⟩
   have had2 : AddrIs ta tb to':=⟨hta (ne_of_get htj)⟩
   have hli2 : LtIs j tn:=⟨hjlt⟩
   have hli3 : LtIs k n:=⟨hkn⟩
   have hni : NatIs t k:=⟨hk⟩
   obtain ⟨cs2,hcs2,rfl,_⟩:=htel j t htj
   have hci2 : CellsIs w0 tb (to' + j * 1) _:=⟨hcs2⟩
   have hxa : XAt (rs'.map valR) (k * 1) (.slice r.a r.l.length r.c):=⟨by simp [hr,valR]⟩
   have hrb:=hbd' r (List.mem_of_getElem? hr)
   repeat (first|refine g_op rfl ?_|refine g_then ?_|refine g_nil ?_|refine g_region ?_|refine g_seq ?_|refine g_block ?_|refine g_skip ?_|refine g_build1 rfl rfl fun _ _=>?_)
   rename_i bt _
   have htok1:=htok.1
   refine g_appendAt (k + 2) (xs:=r.l.map (.int .i64)) (e:=3) (by simp [hr,entR]) rfl rfl (by omega) (by omega) fun a' c'=>?_
   refine g_eqH (H1:=Ent.vec (some ⟨bt,0,none⟩) 1 1 3 1 [.int .i64 i]::Ent.vec (some ⟨bo,0,none⟩) n n 43 1 (rs'.map valR)::(rs'.set k ⟨a',c',r.l++[(i : Int)]⟩).map entR) (by simp [entR,List.map_set]) ?_
   have hxs : XSet (rs'.map valR) (k * 1) (.slice a' (r.l.length + 1) c') ((rs'.set k ⟨a',c',r.l++[(i : Int)]⟩).map valR):=⟨by simp [valR,List.map_set],by simpa using hkl⟩
   repeat (first|refine g_op rfl ?_|refine g_then ?_|refine g_nil ?_|refine g_region ?_|refine g_opS rfl ?_|refine g_inBlock ?_|refine g_add rfl (by omega) (by omega) ?_|refine g_storeV ?_)
   refine g_next (j + 1,rs'.set k ⟨a',c',r.l++[(i : Int)]⟩) ⟨hjlt,?_,by simpa using hrl',?_⟩ (by simp only; omega) (by repeat (first|exact trivial|refine ⟨rfl,?_⟩)) (.cons _ (.refl _))
   ·simp only
    rw [List.take_add_one,htj]
    simp only [Option.toList_some,List.foldl_append,List.foldl_cons,List.foldl_nil]
    rw [← hrows',aheadIn,show t.toNat = k by omega]
    exact map_set_modify hr rfl
   ·intro q hq
    rcases List.mem_or_eq_of_mem_set hq with hq|rfl
    ·have:=hbd' q hq
     exact ⟨by simp only; omega,this.2⟩
    ·refine ⟨by simp only [List.length_append,List.length_singleton]; omega,fun y hy=>?_⟩
     rcases List.mem_append.1 hy with hy|hy
     ·exact hrb.2 y hy
     ·simp only [List.mem_singleton] at hy
      subst hy
      simp only [inI]; omega
  ·have hge : j = tn:=by have:=h2; simp at this; omega
   repeat (first|refine g_then ?_|refine g_nil ?_|refine g_region ?_|refine g_opS rfl ?_|refine g_inBlock ?_|refine g_add rfl (by omega) (by omega) ?_|refine g_exit ?_|refine g_thenExit ?_|refine g_exitHere ?_)
   refine g_next (i + 1,rs') ⟨hlt,?_,hrl',fun r hr=>?_⟩ (by simp only; omega) (by repeat (first|exact trivial|refine ⟨rfl,?_⟩)) (.refl _)
   ·simp only [aheadTo,hB]
    rw [hrows',hge,htn,List.take_length]
   ·have:=hbd' r hr
    have htok1:=htok.1
    exact ⟨by simp only; omega,this.2⟩
 ·have hge : i = n:=by have:=h1; simp at this; omega
  repeat (first|refine g_op rfl ?_|refine g_then ?_|refine g_nil ?_|refine g_region ?_|refine g_seq ?_|refine g_exit ?_|refine g_thenExit ?_|refine g_exitHere ?_|refine g_ret ?_)
  refine g_ret1 rfl fun w hw=>⟨((some ⟨bo,0,none⟩,n,n),fps (Ent.vec (some ⟨bo,0,none⟩) n n 43 1 (rs.map valR)::rs.map entR)),rfl,?_,trivial⟩
  have hw' : Wd NoS w0 ((Ent.vec (some ⟨bo,0,none⟩) n n 43 1 (rs.map valR)::rs.map entR)++[]) w:=by rw [List.append_nil]; exact hw
  refine hw'.pack _ fun w2 hw2=>?_
  have:=rows_sl (H:=[]) (by rw [List.append_nil]; exact hw2) hrl.symm (by omega) fun r hr=>⟨by have:=(hbd r hr).1; omega,(hbd r hr).2⟩
  rw [hrows,hge,hn] at this
  exact hn ▸ this
end Go.Proofs.YtdbljcahlpkgdaaDoor
