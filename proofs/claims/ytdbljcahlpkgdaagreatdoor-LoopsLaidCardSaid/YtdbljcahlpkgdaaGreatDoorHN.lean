/- Texts joined: Pass Sim Agree SwapP Same Many. -/
import Derived.Test.YtdbljcahlpkgdaaGreatDoorGC
import Derived.Test.YtdbljcahlpkgdaaGreatDoorGE
import Derived.Test.YtdbljcahlpkgdaaGreatDoorGF
import Derived.Test.YtdbljcahlpkgdaaGreatDoorHA
import Derived.Test.YtdbljcahlpkgdaaGreatDoorHI
import Derived.Test.YtdbljcahlpkgdaaGreatDoorHK
namespace Go.Proofs.YtdbljcahlpkgdaaGreatDoor
open Go Go.RowKit
structure FnTo (fs : List LFunc) (X Y : LFunc) : Prop where
 name : Y.name = X.name
 params : Y.params = X.params
 regs : Y.params ≤ Y.regs∧Y.regs ≤ 100
 many : 1 ≤ Y.blocks.length∧Y.blocks.length ≤ 40
 size : sizeOfBs Y.blocks ≤ 300
 body : BodyOk fs Y
theorem map_eq_of {α β : Type} {l m : List α} {g : α→β} (hl : m.length = l.length) (h : ∀ (i : Nat) x y,l[i]? = some x→m[i]? = some y→g y = g x) : m.map g = l.map g:=by
 apply List.ext_getElem?
 intro i
 rw [List.getElem?_map,List.getElem?_map]
 by_cases hi : i < l.length
 ·rw [List.getElem?_eq_getElem hi,List.getElem?_eq_getElem (show i < m.length by omega)]
  simp only [Option.map_some]
  rw [h i _ _ (List.getElem?_eq_getElem hi) (List.getElem?_eq_getElem (by omega))]
 ·rw [List.getElem?_eq_none (by omega),List.getElem?_eq_none (by omega)]
theorem check_map {u v : LUnit} (h : CheckOk u) (hg : v.globals = u.globals) (hl : v.funcs.length = u.funcs.length) (hf : ∀ (i : Nat) X Y,u.funcs[i]? = some X→v.funcs[i]? = some Y→FnTo u.funcs X Y) : CheckOk v:=by
 have hname : v.funcs.map (·.name) = u.funcs.map (·.name):=map_eq_of hl fun i X Y hX hY=>(hf i X Y hX hY).name
 have hpar : ∀ i : Nat,(v.funcs[i]?).map LFunc.params = (u.funcs[i]?).map LFunc.params:=fun i=>by
  rw [← List.getElem?_map,← List.getElem?_map,map_eq_of (g:=LFunc.params) hl fun i X Y hX hY=>(hf i X Y hX hY).params]
 have hmain : mainAt v.funcs = mainAt u.funcs:=by rw [mainAt_map,mainAt_map,hname]
 refine ⟨by rw [hg]; exact h.globs,by rw [hl]; exact h.funcs,by rw [hg]; exact h.glob,fun i hi=>?_,fun Z hZ=>?_,by rw [hmain]; exact h.main,?_⟩
 ·have hi' : i < u.funcs.length:=by omega
  have h0:=h.head i hi'
  unfold headAt at h0 ⊢
  rw [List.map_take,hname,← List.map_take,hg]
  unfold at0 at h0 ⊢
  rw [List.getElem?_eq_getElem hi'] at h0
  rw [List.getElem?_eq_getElem hi]
  have hto:=hf i _ _ (List.getElem?_eq_getElem hi') (List.getElem?_eq_getElem hi)
  obtain ⟨h1,h2,h3,h4,h5,h6⟩:=head_zero.1 h0
  refine head_zero.2 ⟨by rw [hto.name]; exact h1,by rw [hto.name]; exact h2,by rw [hto.params]; exact h3,hto.regs,?_,hto.size⟩
  have:=hto.many
  omega
 ·obtain ⟨j,hj⟩:=List.getElem?_of_mem hZ
  have hjl:=(List.getElem?_eq_some_iff.1 hj).1
  have hb:=(hf j _ _ (List.getElem?_eq_getElem (show j < u.funcs.length by omega)) hj).body
  exact ⟨hb.ends,hb.phis,fun b C hC x hx=>by rw [insErr_same hl hpar]; exact hb.list b C hC x hx⟩
 ·rw [hmain]
  have:=h.none
  have hp:=hpar (mainAt u.funcs).toNat
  unfold at0 at this ⊢
  cases h1 : u.funcs[(mainAt u.funcs).toNat]? <;> cases h2 : v.funcs[(mainAt u.funcs).toNat]? <;> simp [h1,h2] at hp this ⊢
  omega
theorem check_light {u : LUnit} (h : CheckOk u) : light u:=by
 refine ⟨h.funcs,fun X hX=>?_⟩
 obtain ⟨j,hj⟩:=List.getElem?_of_mem hX
 have h0:=h.head j (List.getElem?_eq_some_iff.1 hj).1
 unfold headAt at0 at h0
 rw [hj] at h0
 obtain ⟨_,_,_,_,h5,h6⟩:=head_zero.1 h0
 exact ⟨by omega,h6⟩
theorem FnTo.same {u : LUnit} (h : CheckOk u) {i : Nat} {X : LFunc} (hX : u.funcs[i]? = some X) : FnTo u.funcs X X:=by
 have h0:=h.head i (List.getElem?_eq_some_iff.1 hX).1
 unfold headAt at0 at h0
 rw [hX] at h0
 obtain ⟨_,_,_,h4,h5,h6⟩:=head_zero.1 h0
 exact ⟨rfl,rfl,h4,by omega,h6,h.body X (List.mem_of_getElem? hX)⟩
def UNums (u : LUnit) : Prop:=∀ X ∈ u.funcs,∀ B ∈ X.blocks,BlkNums B
def GNums (u : LUnit) : Prop:=∀ g ∈ u.globals,∀ x ∈ g.init,inI x
def Goes (v : LUnit) : Nat→Mac→Mac→Prop
 | 0,t,t'=>t = t'
 | k + 1,t,t'=>∃ t1,stepM v t = .inl t1∧Goes v k t1 t'
theorem goes_run {v : LUnit} : ∀ {k : Nat} {t t' : Mac},Goes v k t t'→∀ m,runM v (k + m) t = runM v m t'
 | 0,_,_,h,m=>by rw [show _ = _ from h,Nat.zero_add]
 | k + 1,t,t',⟨t1,h1,h2⟩,m=>by
  rw [show k + 1 + m = (k + m) + 1 by omega,runM,h1]
  exact goes_run h2 m
theorem Goes.one {v : LUnit} {t t' : Mac} (h : stepM v t = .inl t') : Goes v 1 t t':=⟨t',h,rfl⟩
theorem Goes.trans {v : LUnit} : ∀ {k j : Nat} {a b c : Mac},Goes v k a b→Goes v j b c→Goes v (k + j) a c
 | 0,j,a,b,c,h,h2=>by rw [show a = b from h,Nat.zero_add]; exact h2
 | k + 1,j,a,b,c,⟨t1,h1,h⟩,h2=>by rw [show k + 1 + j = (k + j) + 1 by omega]; exact ⟨t1,h1,h.trans h2⟩
theorem endM_fin {u : LUnit} {s : Mac} {B : LBlock} {f : Fin} (h : endM u s B = .inr f) : f = s.stop 0 (valM s.top B.on):=by
 unfold endM at h
 split at h
 ·cases h
 split at h
 ·cases h
 split at h
 ·exact (Sum.inr.inj h).symm
 ·cases h
theorem insM_fin {u : LUnit} {s : Mac} {x : LIns} {f : Fin} (h : insM u s x = .inr f) : ∃ c : Int,c ≠ 1∧f = s.stop c 0:=by
 unfold insM at h
 simp only at h
 repeat' (split at h)
 all_goals first
  | (cases h; done)
  | exact ⟨_,by decide,(Sum.inr.inj h).symm⟩
theorem step_steps {u : LUnit} {s s' : Mac} (h : stepM u s = .inl s') : s'.steps = s.steps + 1:=by
 rw [stepM_eq] at h
 split at h
 ·exact endM_steps h
 ·exact insM_steps h
theorem step_finS {u : LUnit} {s : Mac} {f : Fin} (h : stepM u s = .inr f) : f.steps = s.steps + 1∧f.state ≠ 1:=by
 rw [stepM_eq] at h
 split at h
 ·rw [endM_fin h]; exact ⟨rfl,show (0 : Int) ≠ 1 by decide⟩
 ·obtain ⟨c,h1,h2⟩:=insM_fin h
  rw [h2]; exact ⟨rfl,h1⟩
theorem goes_steps {v : LUnit} : ∀ {k : Nat} {t t' : Mac},Goes v k t t'→t'.steps = t.steps + k
 | 0,t,t',h=>by rw [show t = t' from h]; rfl
 | k + 1,t,t',⟨t1,h1,h2⟩=>by rw [goes_steps h2,step_steps h1]; omega
structure Alike (f g : Fin) : Prop where
 state : g.state = f.state
 value : g.value = f.value
 out : g.out = f.out
def Sim (u v : LUnit) (lo hi : Nat) (R : Mac→Mac→Prop) : Prop:=∀ s t,R s t →
 (∀ s',stepM u s = .inl s'→∃ k t',lo ≤ k∧k ≤ hi∧Goes v k t t'∧R s' t') ∧
 (∀ f,stepM u s = .inr f→∃ k t' g,lo ≤ k + 1∧k + 1 ≤ hi∧Goes v k t t'∧stepM v t' = .inr g∧Alike f g)
theorem sim_run {u v : LUnit} {lo hi : Nat} {R : Mac→Mac→Prop} (h : Sim u v lo hi R) : ∀ (n : Nat) (s t : Mac) (m : Nat),R s t→(runM u n s).state ≠ 1→hi * n ≤ m →
  Alike (runM u n s) (runM v m t)∧∃ i j,(runM u n s).steps = s.steps + i∧(runM v m t).steps = t.steps + j∧lo * i ≤ j∧j ≤ hi * i
 | 0,s,t,m,_,h1,_=>absurd rfl h1
 | n + 1,s,t,m,hR,h1,hm=>by
  rw [Nat.mul_add,Nat.mul_one] at hm
  obtain ⟨hg,hf⟩:=h s t hR
  rw [runM] at h1 ⊢
  cases he : stepM u s with
  | inl s' =>
   rw [he] at h1
   simp only at h1 ⊢
   obtain ⟨k,t',hlo,hhi,hgo,hR'⟩:=hg s' he
   obtain ⟨q,rfl⟩ : ∃ q,m = k + q:=⟨m - k,by omega⟩
   rw [goes_run hgo]
   obtain ⟨ha,i,j,e1,e2,e3,e4⟩:=sim_run h n s' t' q hR' h1 (by omega)
   have h5:=step_steps he
   have h6:=goes_steps hgo
   refine ⟨ha,i + 1,j + k,by omega,by omega,?_,?_⟩
   ·rw [Nat.mul_add]; omega
   ·rw [Nat.mul_add]; omega
  | inr f =>
   simp only
   obtain ⟨k,t',g,hlo,hhi,hgo,hst,ha⟩:=hf f he
   obtain ⟨q,rfl⟩ : ∃ q,m = k + (q + 1):=⟨m - k - 1,by omega⟩
   rw [goes_run hgo,runM,hst]
   simp only
   have h5:=(step_finS he).1
   have h6:=goes_steps hgo
   have h7:=(step_finS hst).1
   exact ⟨ha,1,k + 1,h5,by omega,by omega,by omega⟩
inductive Stk (FR : Int→Int→Frm→Frm→Prop) : List Frm→List Frm→Int→Int→Prop
 | nil (d e : Int) : Stk FR [] [] d e
 | add {l m : List Frm} {f g : Frm} {d e : Int} : Stk FR l m f.dst g.dst→FR d e f g→Stk FR (l++[f]) (m++[g]) d e
theorem Stk.len {FR : Int→Int→Frm→Frm→Prop} {l m : List Frm} {d e : Int} (h : Stk FR l m d e) : m.length = l.length:=by
 induction h with
 | nil=>rfl
 | add _ _ ih=>simp [ih]
theorem Stk.cases' {FR : Int→Int→Frm→Frm→Prop} {l' m : List Frm} {d e : Int} (h : Stk FR l' m d e) : (l' = []∧m = []) ∨ ∃ l f m' g,l' = l++[f]∧m = m'++[g]∧Stk FR l m' f.dst g.dst∧FR d e f g:=by
 cases h with
 | nil=>exact .inl ⟨rfl,rfl⟩
 | add h1 h2=>exact .inr ⟨_,_,_,_,rfl,rfl,h1,h2⟩
structure RelM (FR : Int→Int→Frm→Frm→Prop) (FT : Frm→Frm→Prop) (s t : Mac) : Prop where
 mem : t.mem = s.mem
 inp : t.inp = s.inp
 out : t.out = s.out
 stk : Stk FR s.rest t.rest s.top.dst t.top.dst
 top : FT s.top t.top
theorem ins_sim {u v : LUnit} {s t : Mac} {x y : LIns} (hop : y.op = x.op) (hfn : y.fn = x.fn) (ha : valM t.top y.a = valM s.top x.a) (hb : valM t.top y.b = valM s.top x.b) (hargs : x.op = 20→y.args.map (valM t.top) = x.args.map (valM s.top))
  (hm : t.mem = s.mem) (hi : t.inp = s.inp) (ho : t.out = s.out) (hl : t.rest.length = s.rest.length) (hdx : x.op = 19 ∨ x.op = 22→x.dst < 0) (hdy : x.op = 19 ∨ x.op = 22→y.dst < 0) :
  (∃ f g,insM u s x = .inr f∧insM v t y = .inr g∧Alike f g) ∨
  (x.op = 20∧insM u s x = .inl (enterM u s x.fn.toNat x.dst (x.args.map (valM s.top)))∧insM v t y = .inl (enterM v t x.fn.toNat y.dst (x.args.map (valM s.top)))) ∨
  (x.op ≠ 20∧∃ mem inp out n,insM u s x = .inl { s with mem:=mem,inp:=inp,out:=out,top:=s.top.set x.dst n }∧insM v t y = .inl { t with mem:=mem,inp:=inp,out:=out,top:=t.top.set y.dst n }):=by
 obtain ⟨smem,sinp,sout,ss,sr,st,sc⟩:=s
 obtain ⟨tmem,tinp,tout,ts,tr,tt,tc⟩:=t
 simp only at ha hb hargs hm hi ho hl
 subst hm hi ho
 have hset : ∀ (f : Frm) (d n : Int),d < 0→f.set d n = f:=fun f d n h=>by
  unfold Frm.set setR
  rw [if_neg (by omega)]
 unfold insM
 simp only [hop,hfn,ha,hb,hl]
 by_cases h1 : x.op = 18 ∨ x.op = 19
 ·simp only [if_pos h1]
  by_cases hw : (!within (valM st x.a) 0 ((tmem.length : Int) - 1)) = true
  ·simp only [hw,if_true]
   exact .inl ⟨_,_,rfl,rfl,rfl,rfl,rfl⟩
  ·simp only [hw]
   refine .inr (.inr ⟨by omega,?_⟩)
   by_cases h9 : x.op = 19
   ·simp only [h9,if_true]
    refine ⟨tmem.set (valM st x.a).toNat (valM st x.b),tinp,tout,0,?_,?_⟩
    ·rw [hset _ _ _ (hdx (.inl h9))]; rfl
    ·rw [hset _ _ _ (hdy (.inl h9))]; rfl
   ·simp only [h9,if_false]
    exact ⟨_,_,_,_,rfl,rfl⟩
 simp only [if_neg h1]
 by_cases h2 : x.op = 20
 ·simp only [if_pos h2,hargs h2]
  by_cases hd : sr.length + 1 = 30
  ·simp only [hd,if_true]
   exact .inl ⟨_,_,rfl,rfl,rfl,rfl,rfl⟩
  ·simp only [hd,if_false]
   exact .inr (.inl ⟨h2,by trivial,by trivial⟩)
 simp only [if_neg h2]
 by_cases h3 : x.op = 21
 ·simp only [if_pos h3]
  exact .inr (.inr ⟨by omega,_,_,_,_,rfl,rfl⟩)
 simp only [if_neg h3]
 by_cases h4 : x.op = 22
 ·simp only [if_pos h4]
  by_cases hd : tout.length = 200
  ·simp only [hd,if_true]
   exact .inl ⟨_,_,rfl,rfl,rfl,rfl,rfl⟩
  ·simp only [hd,if_false]
   refine .inr (.inr ⟨by omega,tmem,tinp,tout++[valM st x.a],0,?_,?_⟩)
   ·rw [hset _ _ _ (hdx (.inr h4))]
   ·rw [hset _ _ _ (hdy (.inr h4))]
 simp only [if_neg h4]
 cases twoL x.op (valM st x.a) (valM st x.b) with
 | none=>exact .inl ⟨_,_,rfl,rfl,rfl,rfl,rfl⟩
 | some n=>exact .inr (.inr ⟨h2,_,_,_,_,rfl,rfl⟩)
theorem ret_sim {u v : LUnit} {FR : Int→Int→Frm→Frm→Prop} {s t : Mac} {B C : LBlock} (h2 : B.kind ≠ 2) (h3 : B.kind ≠ 3) (hk : C.kind = B.kind) (hon : valM t.top C.on = valM s.top B.on) (ho : t.out = s.out) (hs : Stk FR s.rest t.rest s.top.dst t.top.dst) :
  (∃ f g,endM u s B = .inr f∧endM v t C = .inr g∧Alike f g) ∨
  (∃ l f m g,s.rest = l++[f]∧t.rest = m++[g]∧endM u s B = .inl { s with rest:=l,top:=f.set s.top.dst (valM s.top B.on) }∧endM v t C = .inl { t with rest:=m,top:=g.set t.top.dst (valM s.top B.on) }∧Stk FR l m f.dst g.dst∧FR s.top.dst t.top.dst f g):=by
 unfold endM
 rw [hk,hon]
 simp only [if_neg h2,if_neg h3]
 rcases hs.cases' with ⟨e1,e2⟩|⟨l,f,m,g,e1,e2,e3,e4⟩
 ·refine .inl ⟨s.stop 0 (valM s.top B.on),t.stop 0 (valM s.top B.on),by rw [e1]; rfl,by rw [e2]; rfl,rfl,rfl,ho⟩
 ·refine .inr ⟨l,f,m,g,e1,e2,?_,?_,e3,e4⟩
  ·rw [e1]; simp
  ·rw [e2]; simp
theorem jump_sim {u v : LUnit} {s t : Mac} {B C : LBlock} (hB : B.kind = 2 ∨ B.kind = 3) (hk : C.kind = B.kind) (hl : (B.to.length : Int) = B.kind - 1) (hon : valM t.top C.on = valM s.top B.on) :
  ∃ i,i < B.to.length∧endM u s B = .inl (jumpM u s (B.to.getD i 0))∧endM v t C = .inl (jumpM v t (C.to.getD i 0)):=by
 unfold endM
 rw [hk,hon]
 rcases hB with h|h
 ·simp only [if_pos h]
  exact ⟨0,by omega,rfl,rfl⟩
 ·simp only [if_neg (show ¬ B.kind = 2 by omega),if_pos h]
  by_cases h0 : valM s.top B.on ≠ 0
  ·simp only [if_pos h0]
   exact ⟨0,by omega,rfl,rfl⟩
  ·simp only [if_neg h0]
   exact ⟨1,by omega,rfl,rfl⟩
def setAll (regs : List Int) (l : List (Nat × Int)) : List Int:=l.foldl (fun rs p=>rs.set p.1 p.2) regs
def lastV : List (Nat × Int)→Nat→Option Int
 | [],_=>none
 | p::l,r=>match lastV l r with
  | some x=>some x
  | none=>if p.1 = r then some p.2 else none
theorem lastV_cons (p : Nat × Int) (l : List (Nat × Int)) (r : Nat) : lastV (p::l) r = match lastV l r with|some x=>some x|none=>if p.1 = r then some p.2 else none:=rfl
theorem setAll_len (l : List (Nat × Int)) : ∀ regs : List Int,(setAll regs l).length = regs.length:=by
 induction l with
 | nil=>exact fun _=>rfl
 | cons p l ih=>exact fun regs=>by unfold setAll at ih ⊢; rw [List.foldl_cons,ih,List.length_set]
theorem setAll_get (l : List (Nat × Int)) (r : Nat) : ∀ regs : List Int,(setAll regs l)[r]? = (regs[r]?).map fun x=>(lastV l r).getD x:=by
 induction l with
 | nil=>exact fun regs=>by simp [setAll,lastV]
 | cons p l ih =>
  intro regs
  unfold setAll at ih ⊢
  rw [List.foldl_cons,ih,List.getElem?_set]
  rw [lastV_cons]
  cases h : lastV l r with
  | some x =>
   by_cases e : p.1 = r
   ·by_cases hl : p.1 < regs.length
    ·simp [e,e ▸ hl]
    ·simp [e,e ▸ hl]
   ·simp [e]
  | none =>
   by_cases e : p.1 = r
   ·by_cases hl : p.1 < regs.length
    ·simp [e,e ▸ hl]
    ·simp [e,e ▸ hl]
   ·simp [e]
theorem phisM_all (f : Frm) (k : Nat) (ps : List LPhi) : phisM f k ps = setAll f.regs (ps.map fun p=>(p.dst.toNat,valM f (p.src.getD k noV))):=by
 unfold phisM setAll
 rw [List.foldl_map]
theorem lastV_none {l : List (Nat × Int)} {r : Nat} : lastV l r = none ↔ ∀ p ∈ l,p.1 ≠ r:=by
 induction l with
 | nil=>simp [lastV]
 | cons p l ih =>
  rw [lastV_cons]
  cases h : lastV l r with
  | some x =>
   rw [h] at ih
   simp only [reduceCtorEq,false_iff] at ih ⊢
   exact fun hh=>ih fun q hq=>hh q (List.mem_cons_of_mem _ hq)
  | none =>
   have ih:=ih.1 h
   simp only
   split
   ·rename_i e
    simp only [reduceCtorEq,false_iff]
    exact fun hh=>hh p (by simp) e
   ·rename_i e
    simp only [true_iff]
    intro q hq
    rcases List.mem_cons.1 hq with rfl|hq
    ·exact e
    ·exact ih q hq
theorem vals_used {fs : List LFunc} {R : Int} {x : LIns} (h : insErr fs R x = 0) : (x.a ∈ usesOf x ∨ x.a = noV)∧(x.b ∈ usesOf x ∨ x.b = noV)∧(x.op = 20→x.args = usesOf x)∧(x.op = 19 ∨ x.op = 22→x.dst < 0):=by
 unfold insErr at h
 split at h
 ·cases h
 rename_i hop
 split at h
 ·cases h
 rename_i hs
 simp only [Bool.not_eq_true] at hs
 clear h
 have hop : 1 ≤ x.op∧x.op ≤ 22:=by simp [within] at hop; omega
 have hno : ∀ v : LVal,noVal v = true→v = noV:=fun v hv=>by
  obtain ⟨vr,vn⟩:=v
  simp only [noVal,Bool.and_eq_true,beq_iff_eq,decide_eq_true_eq] at hv
  obtain ⟨rfl,rfl⟩:=hv
  rfl
 unfold strayB at hs
 simp only [Bool.or_eq_false_iff,Bool.and_eq_false_iff,Bool.not_eq_false',decide_eq_false_iff_not] at hs
 obtain ⟨⟨⟨h1,h2⟩,h3⟩,h4⟩:=hs
 unfold shape at h1 h2 h3
 unfold usesOf
 by_cases e20 : x.op = 20
 ·simp [e20] at h2 h3 ⊢
  exact ⟨.inr (hno _ h2),.inr (hno _ h3)⟩
 by_cases e21 : x.op = 21
 ·simp [e21] at h2 h3 ⊢
  exact ⟨hno _ h2,hno _ h3⟩
 rw [if_neg e21,if_neg e20]
 by_cases e1 : ((x.op = 1 ∨ x.op = 16) ∨ x.op = 17) ∨ x.op = 18
 ·rw [if_pos e1] at h1 h2 h3
  rw [if_neg (by omega),if_pos (by omega)]
  simp at h3
  exact ⟨.inl (by simp),.inr (hno _ h3),fun e=>absurd e e20,fun e=>by omega⟩
 rw [if_neg e1] at h1 h2 h3
 by_cases e2 : 2 ≤ x.op∧x.op ≤ 15
 ·rw [if_pos (.inl e2)]
  exact ⟨.inl (by simp),.inl (by simp),fun e=>absurd e e20,fun e=>by omega⟩
 rw [if_neg e2] at h1 h2 h3
 by_cases e3 : x.op = 19
 ·simp [e3] at h1 ⊢
  omega
 have e4 : x.op = 22:=by omega
 simp [e4] at h1 h3 ⊢
 exact ⟨.inr (hno _ h3),by omega⟩
end Go.Proofs.YtdbljcahlpkgdaaGreatDoor
namespace Go.Proofs.YtdbljcahlpkgdaaGreatDoor
open Go Go.RowKit
attribute [local irreducible] wpListIn Code.wpIn Exit.then Exit.inBlock bodyPost wpQuiet wpAnyIn wpAnyH bodyPostM
set_option maxHeartbeats 4000000
theorem dec_self (a : Int) : decide (a = a) = true:=by simp
theorem valsSame_c (a b : Value) (l : List LVal) (w0 : World) (ha : SlAt w0 a 2 l ValV) (hb : SlAt w0 b 2 l ValV) : RetV Tryz.prog 80 [a,b] w0 (.bool true):=by
 obtain ⟨aa,an,ac,ab,ao,rfl,rfl,_,_,_,haa,hael⟩:=ha
 obtain ⟨ba,bn,bc,bb,bo,rfl,rfl,_,_,_,hba,hbel⟩:=hb
 refine ret_enter Tryz.func80 rfl Tryz.ntmps80 rfl (Wd.nil NoS w0) ?_
 repeat (first|refine g_op rfl ?_|refine g_then ?_|refine g_nil ?_|refine g_region ?_|refine g_seq ?_)
 rw [dec_self]
 repeat (first|refine g_op rfl ?_|refine g_then ?_|refine g_nil ?_|refine g_region ?_|refine g_seq ?_|refine g_block ?_|refine g_skip ?_|refine g_condF ?_)
 refine g_loop (fun (i : Nat)=>i ≤ l.length) (fun i=>[(5,.int .i64 i),(0,.slice aa l.length ac),(1,.slice ba l.length bc)]) (fun _=>[]) (fun i=>l.length - i) 0 (Nat.zero_le _) (g_done (by repeat (first|exact trivial|refine ⟨rfl,?_⟩)) (by simp)) fun i hi=>?_
 repeat (first|refine g_op rfl ?_|refine g_then ?_|refine g_nil ?_|refine g_region ?_|refine g_seq ?_)
 refine g_cond (fun h2=>?_) (fun h2=>?_)
 ·have hlt : i < l.length:=by simpa using h2
  obtain ⟨x,hx⟩ : ∃ x,l[i]? = some x:=⟨_,List.getElem?_eq_getElem hlt⟩
  have had : AddrIs aa ab ao:=⟨haa (ne_of_get hx)⟩
  have hbd : AddrIs ba bb bo:=⟨hba (ne_of_get hx)⟩
  have hli : LtIs i l.length:=⟨hlt⟩
  obtain ⟨_,hcs,rfl,_⟩:=hael i x hx
  obtain ⟨_,hcs2,rfl,_⟩:=hbel i x hx
  have hci : CellsIs w0 ab (ao + i * 2) _:=⟨hcs⟩
  have hcj : CellsIs w0 bb (bo + i * 2) _:=⟨hcs2⟩
  repeat (first|refine g_then ?_|refine g_seq ?_|refine g_block ?_|refine g_skip ?_)
  refine g_draw mixed (by kernel_rfl) ?_
  repeat (first|refine q_op rfl ?_|refine q_nil ?_)
  rw [dec_self,beq_self_eq_true,Bool.and_self]
  repeat (first|refine g_op rfl ?_|refine g_then ?_|refine g_nil ?_|refine g_region ?_|refine g_opS rfl ?_|refine g_inBlock ?_|refine g_skip ?_|refine g_condF ?_|refine g_add rfl (by omega) (by omega) ?_)
  rw [show (i : Int) + 1 = ((i + 1 : Nat) : Int) by omega]
  refine g_next (i + 1) hlt (by omega) (by repeat (first|exact trivial|refine ⟨rfl,?_⟩)) (.refl _)
 repeat (first|refine g_op rfl ?_|refine g_then ?_|refine g_nil ?_|refine g_region ?_|refine g_seq ?_|refine g_exit ?_|refine g_thenExit ?_|refine g_exitHere ?_|refine g_ret ?_)
 exact g_retV rfl rfl
theorem insSame_c (x : LIns) (va vb : Value) (w0 : World) (ha : SlAt w0 va 2 x.args ValV) (hb : SlAt w0 vb 2 x.args ValV) :
  RetV Tryz.prog 81 [.agg #[.int .i64 x.op,.int .i64 x.dst,.bool x.a.reg,.int .i64 x.a.n,.bool x.b.reg,.int .i64 x.b.n,.int .i64 x.fn,va],.agg #[.int .i64 x.op,.int .i64 x.dst,.bool x.a.reg,.int .i64 x.a.n,.bool x.b.reg,.int .i64 x.b.n,.int .i64 x.fn,vb]] w0 (.bool true):=by
 have ha0:=ha
 have hb0:=hb
 obtain ⟨aa,an,ac,_,_,rfl,_⟩:=ha
 obtain ⟨ba,bn,bc,_,_,rfl,_⟩:=hb
 refine ret_enter Tryz.func81 rfl Tryz.ntmps81 rfl (Wd.nil NoS w0) ?_
 repeat (first|refine g_op rfl ?_|refine g_then ?_|refine g_nil ?_|refine g_region ?_|refine g_seq ?_|refine g_box rfl fun _ _=>?_)
 rw [dec_self]
 repeat (first|refine g_op rfl ?_|refine g_open ?_)
 rw [dec_self]
 repeat (first|refine g_op rfl ?_|refine g_open ?_)
 rw [dec_self,beq_self_eq_true,Bool.and_self]
 repeat (first|refine g_op rfl ?_|refine g_open ?_)
 rw [dec_self,beq_self_eq_true,Bool.and_self]
 repeat (first|refine g_op rfl ?_|refine g_open ?_)
 rw [dec_self]
 repeat (first|refine g_op rfl ?_|refine g_open ?_)
 refine g_callV rfl (fun w hw=>valsSame_c _ _ x.args w (ha0.keep keeps_val hw.chg) (hb0.keep keeps_val hw.chg)) ?_
 repeat (first|refine g_op rfl ?_|refine g_then ?_|refine g_nil ?_|refine g_opS rfl ?_|refine g_ret ?_)
 exact g_retV rfl rfl
theorem blockSame_c (p l t p2 l2 t2 : Value) (B : LBlock) (w0 : World) (hp : SlAt w0 p 2 B.phis PhiV) (hl : SlAt w0 l 8 B.list InsV) (ht : SlAt w0 t 1 B.to IntV) (hp2 : SlAt w0 p2 2 B.phis PhiV) (hl2 : SlAt w0 l2 8 B.list InsV) (ht2 : SlAt w0 t2 1 B.to IntV) :
  RetV Tryz.prog 53 [.agg #[p,l,.int .i64 B.kind,.bool B.on.reg,.int .i64 B.on.n,t],.agg #[p2,l2,.int .i64 B.kind,.bool B.on.reg,.int .i64 B.on.n,t2]] w0 (.bool true):=by
 have ht0:=ht
 have ht20:=ht2
 obtain ⟨pa,pn,pc,pb,po,rfl,rfl,_,_,_,hpa,hpel⟩:=hp
 obtain ⟨qa,qn,qc,qb,qo,rfl,rfl,_,_,_,hqa,hqel⟩:=hp2
 obtain ⟨la,ln,lc,lb,lo,rfl,rfl,_,_,_,hla,hlel⟩:=hl
 obtain ⟨ma,mn,mc,mb,mo,rfl,rfl,_,_,_,hma,hmel⟩:=hl2
 obtain ⟨ta,tn,tc,_,_,rfl,_⟩:=ht
 obtain ⟨ua,un,uc,_,_,rfl,_⟩:=ht2
 refine ret_enter Tryz.func53 rfl Tryz.ntmps53 rfl (Wd.nil NoS w0) ?_
 repeat (first|refine g_op rfl ?_|refine g_then ?_|refine g_nil ?_|refine g_region ?_|refine g_seq ?_|refine g_box rfl fun _ _=>?_)
 rename_i p2 _ p3 _
 rw [dec_self,Bool.not_true]
 repeat (first|refine g_op rfl ?_|refine g_then ?_|refine g_nil ?_|refine g_open ?_)
 rw [dec_self,Bool.not_true]
 repeat (first|refine g_op rfl ?_|refine g_then ?_|refine g_nil ?_|refine g_region ?_|refine g_seq ?_|refine g_block ?_|refine g_skip ?_|refine g_condF ?_)
 refine g_loop (fun (i : Nat)=>i ≤ B.phis.length) (fun i=>[(5,.int .i64 i),(2,.pointer (some ⟨p2,0,none⟩)),(3,.pointer (some ⟨p3,0,none⟩))]) (fun _=>[Ent.box p3 [.slice qa B.phis.length qc,.slice ma B.list.length mc,.int .i64 B.kind,.bool B.on.reg,.int .i64 B.on.n,.slice ua un uc] 52,Ent.box p2 [.slice pa B.phis.length pc,.slice la B.list.length lc,.int .i64 B.kind,.bool B.on.reg,.int .i64 B.on.n,.slice ta tn tc] 52]) (fun i=>B.phis.length - i) 0 (Nat.zero_le _) (g_done (by repeat (first|exact trivial|refine ⟨rfl,?_⟩)) (by simp)) fun i hi=>?_
 repeat (first|refine g_op rfl ?_|refine g_then ?_|refine g_nil ?_|refine g_region ?_|refine g_seq ?_)
 refine g_cond (fun h2=>?_) (fun h2=>?_)
 ·have hlt : i < B.phis.length:=by simpa using h2
  obtain ⟨x,hx⟩ : ∃ x,B.phis[i]? = some x:=⟨_,List.getElem?_eq_getElem hlt⟩
  have had : AddrIs pa pb po:=⟨hpa (ne_of_get hx)⟩
  have hbd : AddrIs qa qb qo:=⟨hqa (ne_of_get hx)⟩
  have hli : LtIs i B.phis.length:=⟨hlt⟩
  obtain ⟨_,hcs,v1,rfl,_,hv1⟩:=hpel i x hx
  obtain ⟨_,hcs2,v2,rfl,_,hv2⟩:=hqel i x hx
  have hv10:=hv1
  have hv20:=hv2
  obtain ⟨_,_,_,_,_,rfl,_⟩:=hv1
  obtain ⟨_,_,_,_,_,rfl,_⟩:=hv2
  have hci : CellsIs w0 pb (po + i * 2) _:=⟨hcs⟩
  have hcj : CellsIs w0 qb (qo + i * 2) _:=⟨hcs2⟩
  repeat (first|refine g_then ?_|refine g_seq ?_|refine g_block ?_|refine g_skip ?_)
  refine g_draw mixed (by kernel_rfl) ?_
  repeat (refine q_op rfl ?_)
  rw [dec_self,Bool.not_true]
  repeat (first|refine q_op rfl ?_|refine q_open ?_)
  refine q_call rfl (fun w hw=>valsSame_c _ _ x.src w (hv10.keep keeps_val hw.chg) (hv20.keep keeps_val hw.chg)) ?_
  repeat (first|refine q_op rfl ?_|refine q_open ?_|refine q_nil ?_)
  repeat (first|refine g_op rfl ?_|refine g_then ?_|refine g_nil ?_|refine g_region ?_|refine g_opS rfl ?_|refine g_inBlock ?_|refine g_skip ?_|refine g_condF ?_|refine g_add rfl (by omega) (by omega) ?_)
  rw [show (i : Int) + 1 = ((i + 1 : Nat) : Int) by omega]
  refine g_next (i + 1) hlt (by omega) (by repeat (first|exact trivial|refine ⟨rfl,?_⟩)) (.refl _)
 repeat (first|refine g_op rfl ?_|refine g_then ?_|refine g_nil ?_|refine g_region ?_|refine g_seq ?_|refine g_block ?_|refine g_exit ?_|refine g_thenExit ?_|refine g_exitHere ?_)
 refine g_loop (fun (i : Nat)=>i ≤ B.list.length) (fun i=>[(6,.int .i64 i),(2,.pointer (some ⟨p2,0,none⟩)),(3,.pointer (some ⟨p3,0,none⟩))]) (fun _=>[Ent.box p3 [.slice qa B.phis.length qc,.slice ma B.list.length mc,.int .i64 B.kind,.bool B.on.reg,.int .i64 B.on.n,.slice ua un uc] 52,Ent.box p2 [.slice pa B.phis.length pc,.slice la B.list.length lc,.int .i64 B.kind,.bool B.on.reg,.int .i64 B.on.n,.slice ta tn tc] 52]) (fun i=>B.list.length - i) 0 (Nat.zero_le _) (g_done (by repeat (first|exact trivial|refine ⟨rfl,?_⟩)) (by simp)) fun i hi=>?_
 repeat (first|refine g_op rfl ?_|refine g_then ?_|refine g_nil ?_|refine g_region ?_|refine g_seq ?_)
 refine g_cond (fun h3=>?_) (fun h3=>?_)
 ·have hlt : i < B.list.length:=by simpa using h3
  obtain ⟨x,hx⟩ : ∃ x,B.list[i]? = some x:=⟨_,List.getElem?_eq_getElem hlt⟩
  have had : AddrIs la lb lo:=⟨hla (ne_of_get hx)⟩
  have hbd : AddrIs ma mb mo:=⟨hma (ne_of_get hx)⟩
  have hli : LtIs i B.list.length:=⟨hlt⟩
  obtain ⟨_,hcs,v1,rfl,_,_,_,_,_,hv1⟩:=hlel i x hx
  obtain ⟨_,hcs2,v2,rfl,_,_,_,_,_,hv2⟩:=hmel i x hx
  have hci : CellsIs w0 lb (lo + i * 8) _:=⟨hcs⟩
  have hcj : CellsIs w0 mb (mo + i * 8) _:=⟨hcs2⟩
  repeat (first|refine g_then ?_|refine g_seq ?_|refine g_block ?_|refine g_skip ?_)
  refine g_draw mixed (by kernel_rfl) ?_
  repeat (refine q_op rfl ?_)
  refine q_call rfl (fun w hw=>insSame_c x _ _ w (hv1.keep keeps_val hw.chg) (hv2.keep keeps_val hw.chg)) ?_
  repeat (first|refine q_op rfl ?_|refine q_nil ?_)
  repeat (first|refine g_op rfl ?_|refine g_then ?_|refine g_nil ?_|refine g_region ?_|refine g_opS rfl ?_|refine g_inBlock ?_|refine g_skip ?_|refine g_condF ?_|refine g_add rfl (by omega) (by omega) ?_)
  rw [show (i : Int) + 1 = ((i + 1 : Nat) : Int) by omega]
  refine g_next (i + 1) hlt (by omega) (by repeat (first|exact trivial|refine ⟨rfl,?_⟩)) (.refl _)
 repeat (first|refine g_op rfl ?_|refine g_then ?_|refine g_region ?_|refine g_seq ?_|refine g_exit ?_|refine g_thenExit ?_|refine g_exitHere ?_)
 rw [dec_self]
 repeat (first|refine g_op rfl ?_|refine g_open ?_)
 rw [dec_self,beq_self_eq_true,Bool.and_self]
 repeat (first|refine g_op rfl ?_|refine g_open ?_)
 refine g_callV rfl (fun w hw=>ints_c _ _ B.to B.to w (ht0.keep keeps_int hw.chg) (ht20.keep keeps_int hw.chg)) ?_
 rw [show decide (B.to = B.to) = true by simp]
 repeat (first|refine g_op rfl ?_|refine g_then ?_|refine g_nil ?_|refine g_ret ?_)
 exact g_retV rfl rfl
theorem funcSame_c (nm : ByteArray) (pa re : Int) (bl : List LBlock) (v v2 : Value) (w0 : World) (hv : SlAt w0 v 6 bl BlockV) (hv2 : SlAt w0 v2 6 bl BlockV) :
  RetV Tryz.prog 31 [.agg #[.string nm,.int .i64 pa,.int .i64 re,v],.agg #[.string nm,.int .i64 pa,.int .i64 re,v2]] w0 (.bool true):=by
 obtain ⟨la,ln,lc,lb,lo,rfl,rfl,_,_,_,hla,hlel⟩:=hv
 obtain ⟨ma,mn,mc,mb,mo,rfl,rfl,_,_,_,hma,hmel⟩:=hv2
 refine ret_enter Tryz.func31 rfl Tryz.ntmps31 rfl (Wd.nil NoS w0) ?_
 repeat (first|refine g_op rfl ?_|refine g_then ?_|refine g_nil ?_|refine g_region ?_|refine g_seq ?_|refine g_box rfl fun _ _=>?_)
 rename_i p2 _ p3 _
 rw [show (!(nm.toList == nm.toList)) = false by simp]
 repeat (first|refine g_op rfl ?_|refine g_open ?_)
 rw [dec_self,Bool.not_true]
 repeat (first|refine g_op rfl ?_|refine g_open ?_)
 rw [dec_self,Bool.not_true]
 repeat (first|refine g_op rfl ?_|refine g_then ?_|refine g_nil ?_|refine g_open ?_)
 rw [dec_self,Bool.not_true]
 repeat (first|refine g_op rfl ?_|refine g_then ?_|refine g_nil ?_|refine g_region ?_|refine g_seq ?_|refine g_block ?_|refine g_skip ?_|refine g_condF ?_)
 refine g_loop (fun (i : Nat)=>i ≤ bl.length) (fun i=>[(5,.int .i64 i),(2,.pointer (some ⟨p2,0,none⟩)),(3,.pointer (some ⟨p3,0,none⟩))]) (fun _=>[Ent.box p3 [.string nm,.int .i64 pa,.int .i64 re,.slice ma bl.length mc] 35,Ent.box p2 [.string nm,.int .i64 pa,.int .i64 re,.slice la bl.length lc] 35]) (fun i=>bl.length - i) 0 (Nat.zero_le _) (g_done (by repeat (first|exact trivial|refine ⟨rfl,?_⟩)) (by simp)) fun i hi=>?_
 repeat (first|refine g_op rfl ?_|refine g_then ?_|refine g_nil ?_|refine g_region ?_|refine g_seq ?_)
 refine g_cond (fun h2=>?_) (fun h2=>?_)
 ·have hlt : i < bl.length:=by simpa using h2
  obtain ⟨x,hx⟩ : ∃ x,bl[i]? = some x:=⟨_,List.getElem?_eq_getElem hlt⟩
  have had : AddrIs la lb lo:=⟨hla (ne_of_get hx)⟩
  have hbd : AddrIs ma mb mo:=⟨hma (ne_of_get hx)⟩
  have hli : LtIs i bl.length:=⟨hlt⟩
  obtain ⟨_,hcs,p1,l1,t1,rfl,_,_,h11,h12,h13⟩:=hlel i x hx
  obtain ⟨_,hcs2,p4,l4,t4,rfl,_,_,h41,h42,h43⟩:=hmel i x hx
  have hci : CellsIs w0 lb (lo + i * 6) _:=⟨hcs⟩
  have hcj : CellsIs w0 mb (mo + i * 6) _:=⟨hcs2⟩
  repeat (first|refine g_then ?_|refine g_seq ?_|refine g_block ?_|refine g_skip ?_)
  refine g_draw mixed (by kernel_rfl) ?_
  repeat (refine q_op rfl ?_)
  refine q_call rfl (fun w hw=>blockSame_c _ _ _ _ _ _ x w (h11.keep keeps_phi hw.chg) (h12.keep keeps_ins hw.chg) (h13.keep keeps_int hw.chg) (h41.keep keeps_phi hw.chg) (h42.keep keeps_ins hw.chg) (h43.keep keeps_int hw.chg)) ?_
  repeat (first|refine q_op rfl ?_|refine q_nil ?_)
  repeat (first|refine g_op rfl ?_|refine g_then ?_|refine g_nil ?_|refine g_region ?_|refine g_opS rfl ?_|refine g_inBlock ?_|refine g_skip ?_|refine g_condF ?_|refine g_add rfl (by omega) (by omega) ?_)
  rw [show (i : Int) + 1 = ((i + 1 : Nat) : Int) by omega]
  refine g_next (i + 1) hlt (by omega) (by repeat (first|exact trivial|refine ⟨rfl,?_⟩)) (.refl _)
 repeat (first|refine g_op rfl ?_|refine g_then ?_|refine g_nil ?_|refine g_region ?_|refine g_seq ?_|refine g_exit ?_|refine g_thenExit ?_|refine g_exitHere ?_|refine g_ret ?_)
 exact g_retV rfl rfl
theorem globalsSame_c (v v2 : Value) (gl : List LGlobal) (w0 : World) (hv : SlAt w0 v 3 gl GlobalV) (hv2 : SlAt w0 v2 3 gl GlobalV) :
  RetV Tryz.prog 30 [v,v2] w0 (.bool true):=by
 obtain ⟨la,ln,lc,lb,lo,rfl,rfl,_,_,_,hla,hlel⟩:=hv
 obtain ⟨ma,mn,mc,mb,mo,rfl,rfl,_,_,_,hma,hmel⟩:=hv2
 refine ret_enter Tryz.func30 rfl Tryz.ntmps30 rfl (Wd.nil NoS w0) ?_
 repeat (first|refine g_op rfl ?_|refine g_then ?_|refine g_nil ?_|refine g_region ?_|refine g_seq ?_)
 rw [dec_self]
 repeat (first|refine g_op rfl ?_|refine g_then ?_|refine g_nil ?_|refine g_region ?_|refine g_seq ?_|refine g_block ?_|refine g_skip ?_|refine g_condF ?_)
 refine g_loop (fun (i : Nat)=>i ≤ gl.length) (fun i=>[(5,.int .i64 i),(0,.slice la gl.length lc),(1,.slice ma gl.length mc)]) (fun _=>[]) (fun i=>gl.length - i) 0 (Nat.zero_le _) (g_done (by repeat (first|exact trivial|refine ⟨rfl,?_⟩)) (by simp)) fun i hi=>?_
 repeat (first|refine g_op rfl ?_|refine g_then ?_|refine g_nil ?_|refine g_region ?_|refine g_seq ?_)
 refine g_cond (fun h2=>?_) (fun h2=>?_)
 ·have hlt : i < gl.length:=by simpa using h2
  obtain ⟨x,hx⟩ : ∃ x,gl[i]? = some x:=⟨_,List.getElem?_eq_getElem hlt⟩
  have had : AddrIs la lb lo:=⟨hla (ne_of_get hx)⟩
  have hbd : AddrIs ma mb mo:=⟨hma (ne_of_get hx)⟩
  have hli : LtIs i gl.length:=⟨hlt⟩
  obtain ⟨_,hcs,v1,rfl,_,h11⟩:=hlel i x hx
  obtain ⟨_,hcs2,v4,rfl,_,h41⟩:=hmel i x hx
  have h110:=h11
  have h410:=h41
  obtain ⟨_,_,_,_,_,rfl,_⟩:=h11
  obtain ⟨_,_,_,_,_,rfl,_⟩:=h41
  have hci : CellsIs w0 lb (lo + i * 3) _:=⟨hcs⟩
  have hcj : CellsIs w0 mb (mo + i * 3) _:=⟨hcs2⟩
  repeat (first|refine g_then ?_|refine g_seq ?_|refine g_block ?_|refine g_skip ?_)
  refine g_draw mixed (by kernel_rfl) ?_
  repeat (refine q_op rfl ?_)
  rw [show (!(x.name.toList == x.name.toList)) = false by simp]
  repeat (first|refine q_op rfl ?_|refine q_open ?_)
  rw [dec_self,Bool.not_true]
  repeat (first|refine q_op rfl ?_|refine q_open ?_)
  refine q_call rfl (fun w hw=>ints_c _ _ x.init x.init w (h110.keep keeps_int hw.chg) (h410.keep keeps_int hw.chg)) ?_
  rw [show decide (x.init = x.init) = true by simp]
  repeat (first|refine q_op rfl ?_|refine q_open ?_|refine q_nil ?_)
  repeat (first|refine g_op rfl ?_|refine g_then ?_|refine g_nil ?_|refine g_region ?_|refine g_opS rfl ?_|refine g_inBlock ?_|refine g_skip ?_|refine g_condF ?_|refine g_add rfl (by omega) (by omega) ?_)
  rw [show (i : Int) + 1 = ((i + 1 : Nat) : Int) by omega]
  refine g_next (i + 1) hlt (by omega) (by repeat (first|exact trivial|refine ⟨rfl,?_⟩)) (.refl _)
 repeat (first|refine g_op rfl ?_|refine g_then ?_|refine g_nil ?_|refine g_region ?_|refine g_seq ?_|refine g_exit ?_|refine g_thenExit ?_|refine g_exitHere ?_|refine g_ret ?_)
 exact g_retV rfl rfl
theorem unitsSame_c (g f g2 f2 : Value) (u : LUnit) (w0 : World) (hg : SlAt w0 g 3 u.globals GlobalV) (hf : SlAt w0 f 4 u.funcs FuncV) (hg2 : SlAt w0 g2 3 u.globals GlobalV) (hf2 : SlAt w0 f2 4 u.funcs FuncV) :
  RetV Tryz.prog 12 [.agg #[g,f],.agg #[g2,f2]] w0 (.bool true):=by
 have hg0:=hg
 have hg20:=hg2
 obtain ⟨ga,gn,gc,_,_,rfl,_⟩:=hg
 obtain ⟨ha,hn,hc,_,_,rfl,_⟩:=hg2
 obtain ⟨la,ln,lc,lb,lo,rfl,rfl,_,_,_,hla,hlel⟩:=hf
 obtain ⟨ma,mn,mc,mb,mo,rfl,rfl,_,_,_,hma,hmel⟩:=hf2
 refine ret_enter Tryz.func12 rfl Tryz.ntmps12 rfl (Wd.nil NoS w0) ?_
 repeat (first|refine g_op rfl ?_|refine g_then ?_|refine g_nil ?_|refine g_region ?_|refine g_seq ?_|refine g_box rfl fun _ _=>?_)
 rename_i p2 _ p3 _
 refine g_callV rfl (fun w hw=>globalsSame_c _ _ u.globals w (hg0.keep keeps_global hw.chg) (hg20.keep keeps_global hw.chg)) ?_
 repeat (first|refine g_op rfl ?_|refine g_then ?_|refine g_nil ?_|refine g_open ?_)
 rw [dec_self]
 repeat (first|refine g_op rfl ?_|refine g_then ?_|refine g_nil ?_|refine g_region ?_|refine g_seq ?_|refine g_block ?_|refine g_skip ?_|refine g_condF ?_)
 refine g_loop (fun (i : Nat)=>i ≤ u.funcs.length) (fun i=>[(5,.int .i64 i),(2,.pointer (some ⟨p2,0,none⟩)),(3,.pointer (some ⟨p3,0,none⟩))]) (fun _=>[Ent.box p3 [.slice ha hn hc,.slice ma u.funcs.length mc] 25,Ent.box p2 [.slice ga gn gc,.slice la u.funcs.length lc] 25]) (fun i=>u.funcs.length - i) 0 (Nat.zero_le _) (g_done (by repeat (first|exact trivial|refine ⟨rfl,?_⟩)) (by simp)) fun i hi=>?_
 repeat (first|refine g_op rfl ?_|refine g_then ?_|refine g_nil ?_|refine g_region ?_|refine g_seq ?_)
 refine g_cond (fun h2=>?_) (fun h2=>?_)
 ·have hlt : i < u.funcs.length:=by simpa using h2
  obtain ⟨x,hx⟩ : ∃ x,u.funcs[i]? = some x:=⟨_,List.getElem?_eq_getElem hlt⟩
  have had : AddrIs la lb lo:=⟨hla (ne_of_get hx)⟩
  have hbd : AddrIs ma mb mo:=⟨hma (ne_of_get hx)⟩
  have hli : LtIs i u.funcs.length:=⟨hlt⟩
  obtain ⟨_,hcs,v1,rfl,_,_,h11⟩:=hlel i x hx
  obtain ⟨_,hcs2,v4,rfl,_,_,h41⟩:=hmel i x hx
  have hci : CellsIs w0 lb (lo + i * 4) _:=⟨hcs⟩
  have hcj : CellsIs w0 mb (mo + i * 4) _:=⟨hcs2⟩
  repeat (first|refine g_then ?_|refine g_seq ?_|refine g_block ?_|refine g_skip ?_)
  refine g_draw mixed (by kernel_rfl) ?_
  repeat (refine q_op rfl ?_)
  refine q_call rfl (fun w hw=>funcSame_c _ _ _ x.blocks _ _ w (h11.keep keeps_block hw.chg) (h41.keep keeps_block hw.chg)) ?_
  repeat (first|refine q_op rfl ?_|refine q_nil ?_)
  repeat (first|refine g_op rfl ?_|refine g_then ?_|refine g_nil ?_|refine g_region ?_|refine g_opS rfl ?_|refine g_inBlock ?_|refine g_skip ?_|refine g_condF ?_|refine g_add rfl (by omega) (by omega) ?_)
  rw [show (i : Int) + 1 = ((i + 1 : Nat) : Int) by omega]
  refine g_next (i + 1) hlt (by omega) (by repeat (first|exact trivial|refine ⟨rfl,?_⟩)) (.refl _)
 repeat (first|refine g_op rfl ?_|refine g_then ?_|refine g_nil ?_|refine g_region ?_|refine g_seq ?_|refine g_exit ?_|refine g_thenExit ?_|refine g_exitHere ?_|refine g_ret ?_)
 exact g_retV rfl rfl
theorem none_c (g f : Value) (u : LUnit) (w0 : World) (hg : SlAt w0 g 3 u.globals GlobalV) (hf : SlAt w0 f 4 u.funcs FuncV) :
  RetV Tryz.prog 8 [.agg #[g,f]] w0 (.bool (decide (u.globals.length = 0) && decide (u.funcs.length = 0))):=by
 obtain ⟨ga,gn,gc,_,_,rfl,rfl,_⟩:=hg
 obtain ⟨fa,fn,fc,_,_,rfl,rfl,_⟩:=hf
 refine ret_enter Tryz.func8 rfl Tryz.ntmps8 rfl (Wd.nil NoS w0) ?_
 repeat (first|refine g_op rfl ?_|refine g_then ?_|refine g_nil ?_|refine g_region ?_|refine g_seq ?_|refine g_box rfl fun _ _=>?_)
 by_cases h1 : u.globals.length = 0
 ·rw [show decide ((u.globals.length : Int) = 0) = true by simp [h1],show decide (u.globals.length = 0) = true by simp [h1]]
  repeat (first|refine g_op rfl ?_|refine g_then ?_|refine g_nil ?_|refine g_opS rfl ?_|refine g_open ?_|refine g_ret ?_)
  refine g_retV rfl ?_
  rw [Bool.true_and]
  congr 1
  simp
 ·rw [show decide ((u.globals.length : Int) = 0) = false by simp only [decide_eq_false_iff_not]; omega,show decide (u.globals.length = 0) = false by simp [h1]]
  repeat (first|refine g_op rfl ?_|refine g_then ?_|refine g_nil ?_|refine g_opS rfl ?_|refine g_pass rfl ?_|refine g_ret ?_)
  exact g_retV rfl rfl
theorem noneE_c (w0 : World) : RetV Tryz.prog 8 [.agg #[.slice none 0 0,.slice none 0 0]] w0 (.bool true):=by
 have h1 : SlAt w0 (.slice none 0 0) 3 ([] : List LGlobal) GlobalV:=⟨none,0,0,0,0,rfl,rfl,by omega,by omega,by omega,by simp,by simp⟩
 have h2 : SlAt w0 (.slice none 0 0) 4 ([] : List LFunc) FuncV:=⟨none,0,0,0,0,rfl,rfl,by omega,by omega,by omega,by simp,by simp⟩
 exact none_c _ _ ⟨[],[]⟩ w0 h1 h2
end Go.Proofs.YtdbljcahlpkgdaaGreatDoor
