/- Texts joined: OwnR Del Clean RunP RunQ RunR. -/
import Derived.Test.YtdbljcahlpkgdaaGreatDoorGF
import Derived.Test.YtdbljcahlpkgdaaGreatDoorGG
import Derived.Test.YtdbljcahlpkgdaaGreatDoorGI
import Derived.Test.YtdbljcahlpkgdaaGreatDoorGJ
import Derived.Test.YtdbljcahlpkgdaaGreatDoorGM
namespace Go.Proofs.YtdbljcahlpkgdaaGreatDoor
open Go Go.RowKit
class OwnAgg (H : List Ent) (b off : Nat) (cs : outParam (List Value)) : Prop where
 eq : ∀ S w0 w,Wd S w0 H w→CellsAt w b off cs
section
variable {P : Program} {ro : Option Nat} {N : Nat} {ds : List Deferred} {S : Nat→Prop} {w0 : World} {L : List (Nat × Value)} {H : List Ent} {ops : Array Oper} {rest : List Oper} {Q : Exit→Act→World→Prop} {x y : Operand}
instance {T b off n : Nat} {cs : List Value} [h : AggSize P T n] [hx : Ev L x (.pointer (some ⟨b,off,none⟩))] [hc : OwnAgg H b off cs] [hn : LenIs cs n] : RunsC P N ds S w0 L H (.load T x) (.agg cs.toArray) :=
 ⟨fun _ h=>(by cases h),fun _ _ h=>(by cases h),fun _ _ _ _ _ a w hF hW=>by simp [execOp,hx.eq _ _ _ hF,run_loadAgg hn.eq (hc.eq _ _ _ hW)]⟩
theorem ownAgg {α : Type} {k b o n c e s i : Nat} {l : List α} {g : α→List Value} {y : α} (hk : H[k]? = some (Ent.vec (some ⟨b,o,none⟩) n c e s (l.flatMap g))) (hg : ∀ x,(g x).length = s) (hy : l[i]? = some y) : OwnAgg H b (o + i * s) (g y) :=
 ⟨fun _ _ w hw j v hj=>by
  have:=hw.vecCell hk (flat_at hg l i y j v hy hj)
  rwa [← Nat.add_assoc] at this⟩
theorem flat_cut {α : Type} {g : α→List Value} {s : Nat} (hg : ∀ x,(g x).length = s) : ∀ (l : List α) (i : Nat),(l.flatMap g).take (i * s) = (l.take i).flatMap g∧(l.flatMap g).drop (i * s) = (l.drop i).flatMap g
 | [],i=>by simp
 | x::l,0=>by simp
 | x::l,i + 1=>by
  obtain ⟨h1,h2⟩:=flat_cut hg l i
  have e : (i + 1) * s = (g x).length + i * s:=by rw [hg,Nat.succ_mul]; omega
  rw [List.flatMap_cons,e,List.take_length_add_append,List.drop_length_add_append,h1,h2]
  simp
theorem flat_put {α : Type} {g : α→List Value} {s : Nat} (hg : ∀ x,(g x).length = s) {l : List α} {i : Nat} (hi : i < l.length) (y : α) : (l.flatMap g).take (i * s)++g y++(l.flatMap g).drop (i * s + s) = (l.set i y).flatMap g:=by
 have e : i * s + s = (i + 1) * s:=by rw [Nat.succ_mul]
 rw [e,(flat_cut hg l i).1,(flat_cut hg l (i + 1)).2]
 conv=>rhs; rw [List.set_eq_take_append_cons_drop]
 rw [if_pos hi]
 simp
theorem flat_set {α : Type} {g : α→List Value} {s : Nat} (hg : ∀ x,(g x).length = s) : ∀ {l : List α} {i k : Nat} {x y : α} {v : Value},l[i]? = some x→k < s→(g x).set k v = g y→(l.flatMap g).set (i * s + k) v = (l.set i y).flatMap g
 | [],i,k,x,y,v,hx,_,_=>by simp at hx
 | z::l,0,k,x,y,v,hx,hk,he=>by
  simp only [List.getElem?_cons_zero,Option.some.injEq] at hx
  subst hx
  rw [List.flatMap_cons,Nat.zero_mul,Nat.zero_add,List.set_append_left _ _ (by rw [hg]; exact hk),he]
  simp
 | z::l,i + 1,k,x,y,v,hx,hk,he=>by
  have ih:=flat_set hg (l:=l) (i:=i) (k:=k) (x:=x) (y:=y) (v:=v) (by simpa using hx) hk he
  have e : (i + 1) * s + k = (g z).length + (i * s + k):=by rw [hg,Nat.succ_mul]; omega
  rw [List.flatMap_cons,e,List.set_append_right _ _ (by omega),Nat.add_sub_cancel_left,ih]
  simp
theorem g_storeVA {ty T b o off j n c e s m : Nat} (k : Nat) {xs vs : List Value} {pos : String} {aft : Array Go.Edge} [h : AggSize P T m] [hx : Ev L x (.pointer (some ⟨b,off,none⟩))] [hy : Ev L y (.agg vs.toArray)] [hn : LenIs vs m] [h1 : OneVs vs]
  (hk : H[k]? = some (Ent.vec (some ⟨b,o,none⟩) n c e s xs)) (hoff : off = o + j) (hfit : j + m ≤ xs.length)
  (kk : G N ds S w0 L (H.set k (Ent.vec (some ⟨b,o,none⟩) n c e s (xs.take j++vs++xs.drop (j + m)))) (wpListIn (FW ro) 0 P ops Q rest)) : G N ds S w0 L H (wpListIn (FW ro) 0 P ops Q (⟨none,.store T x y,ty,pos,aft,none⟩::rest)):=fun a w hS=>by
 subst hoff
 obtain ⟨hl,hnc,hcm,pre,sp,rfl,hsp,hb⟩:=hS.wd.vecAt hk
 have hlt : b < w.heap.size:=(Array.getElem?_eq_some_iff.1 hb).1
 have hvm:=hn.eq
 have hs:=run_storeCells_at P b (pre.length + j) e vs 0 _ w hb (by simp; omega) h1.all
 have hrow : (pre++xs++sp).take (pre.length + j + 0)++vs++(pre++xs++sp).drop (pre.length + j + 0 + vs.length) = pre++(xs.take j++vs++xs.drop (j + m))++sp:=by
  rw [Nat.add_zero,List.append_assoc pre xs sp,List.take_length_add_append,Nat.add_assoc,List.drop_length_add_append,List.take_append_of_le_length (by omega),List.drop_append_of_le_length (by omega),hvm]
  simp
 simp only at hs
 rw [hrow] at hs
 refine step_skip (w':=w.setRow b (pre++(xs.take j++vs++xs.drop (j + m))++sp).toArray) rfl (fun _ h=>by cases h) ?_ ?_
 ·simp [execOp,hx.eq _ _ _ hS.fr,hy.eq _ _ _ hS.fr,Instr.storeAt,Instr.sureAddr,storeVar,h.sz,Value.cells,hvm,hs]
 ·refine kk _ _ ⟨hS.fr,?_⟩
  have hsz : ∀ q : Array Value,(w.setRow b q).heap.size = w.heap.size:=fun q=>by simp [World.setRow]
  refine hS.wd.turnAt hk ⟨rfl,rfl,rfl,by rw [hsz]; exact Nat.le_refl _,fun j _ hj=>setRow_other w b j _ fun e'=>hj (by simp [Ent.vec,e'])⟩ (fun b' hb'=>?_) fun w2 hw2=>?_
  ·simp only [Ent.vec,Option.map_some,Option.some.injEq] at hb' ⊢
   subst hb'
   exact ⟨.inl rfl,by rw [hsz]; exact hlt⟩
  ·have:=hw2 b (by simp [Ent.vec])
   refine ⟨?_,.inr ⟨b,pre,sp,rfl,hnc,hcm,hsp,?_⟩⟩
   ·simp only [List.length_append,List.length_take,List.length_drop]; omega
   ·rw [this]
    exact setRow_heap w b _ _ e _ hb
end
end Go.Proofs.YtdbljcahlpkgdaaGreatDoor
namespace Go.Proofs.YtdbljcahlpkgdaaGreatDoor
open Go Go.RowKit
attribute [local irreducible] wpListIn Code.wpIn Exit.then Exit.inBlock bodyPost wpQuiet wpAnyIn wpAnyH
set_option maxHeartbeats 4000000
section
variable {P : Program} {ro : Option Nat} {N : Nat} {ds : List Deferred} {S : Nat→Prop} {w0 w : World} {L : List (Nat × Value)} {H : List Ent} {ops : Array Oper} {rest : List Oper} {Q : Exit→Act→World→Prop} {p : Act→World→Prop} {x y z u : Operand}
theorem Wd.shrink (hW : Wd S w0 H w) {k : Nat} {b o n c e s : Nat} {xs : List Value} (hk : H[k]? = some (Ent.vec (some ⟨b,o,none⟩) n c e s xs)) (m : Nat) (hm : m ≤ n) :
  Wd S w0 (H.set k (Ent.vec (some ⟨b,o,none⟩) m c e s (xs.take (m * s)))) w:=by
 obtain ⟨hl,hnc,hcm,pre,sp,rfl,hsp,hb⟩:=hW.vecAt hk
 have hlt : b < w.heap.size:=(Array.getElem?_eq_some_iff.1 hb).1
 have hms : m * s ≤ n * s:=Nat.mul_le_mul_right _ hm
 refine hW.turnAt hk (Chg.refl _ _) (fun b' hb'=>?_) fun w2 hw2=>?_
 ·simp only [Ent.vec,Option.map_some,Option.some.injEq] at hb' ⊢
  subst hb'
  exact ⟨.inl rfl,hlt⟩
 ·have:=hw2 b (by simp [Ent.vec])
  refine ⟨by rw [List.length_take]; omega,.inr ⟨b,pre,xs.drop (m * s)++sp,rfl,by omega,hcm,?_,?_⟩⟩
  ·rw [List.length_append,List.length_drop,hl]
   have h1 : (c - m) * s = (c - n) * s + (n - m) * s:=by rw [← Nat.add_mul]; congr 1; omega
   have h2 : (n - m) * s = n * s - m * s:=Nat.sub_mul _ _ _
   omega
  ·rw [this,hb]
   have : pre++xs++sp = pre++xs.take (m * s)++(xs.drop (m * s)++sp):=by
    rw [List.append_assoc,List.append_assoc,← List.append_assoc (xs.take _),List.take_append_drop]
   rw [this]
theorem g_shrink (k : Nat) {b o n c e s : Nat} {xs : List Value} (hk : H[k]? = some (Ent.vec (some ⟨b,o,none⟩) n c e s xs)) (m : Nat) (hm : m ≤ n)
  (kk : G N ds S w0 L (H.set k (Ent.vec (some ⟨b,o,none⟩) m c e s (xs.take (m * s)))) p) : G N ds S w0 L H p:=fun a w hS=>kk a w ⟨hS.fr,hS.wd.shrink hk m hm⟩
end
end Go.Proofs.YtdbljcahlpkgdaaGreatDoor
namespace Go.Proofs.YtdbljcahlpkgdaaGreatDoor
open Go Go.RowKit
def CellLe (w w' : World) : Prop:=∀ p v,w.cell? p = some v→w'.cell? p = some v
theorem CellsAt.le {w w' : World} (h : CellLe w w') {b o : Nat} {cs : List Value} (hc : CellsAt w b o cs) : CellsAt w' b o cs:=fun j v hj=>h _ _ (hc j v hj)
def MonoV {α : Type} (V : World→α→List Value→Prop) : Prop:=∀ w w',CellLe w w'→∀ x cs,V w x cs→V w' x cs
theorem SlAt.le {α : Type} {V : World→α→List Value→Prop} (hV : MonoV V) {w w' : World} (h : CellLe w w') {v : Value} {s : Nat} {l : List α} (hs : SlAt w v s l V) : SlAt w' v s l V:=by
 obtain ⟨a,n,c,b,o,h1,h2,h3,hz,h4,h5,h6⟩:=hs
 refine ⟨a,n,c,b,o,h1,h2,h3,hz,h4,h5,fun i x hx=>?_⟩
 obtain ⟨cs,hc,hv⟩:=h6 i x hx
 exact ⟨cs,hc.le h,hV w w' h x cs hv⟩
theorem mono_int : MonoV IntV:=fun _ _ _ _ _ h=>h
theorem mono_val : MonoV ValV:=fun _ _ _ _ _ h=>h
theorem mono_row : MonoV RowV:=fun _ _ hc _ _ ⟨v,h1,h2⟩=>⟨v,h1,h2.le mono_int hc⟩
theorem mono_phi : MonoV PhiV:=fun _ _ hc _ _ ⟨v,h1,h2,h3⟩=>⟨v,h1,h2,h3.le mono_val hc⟩
theorem mono_ins : MonoV InsV:=fun _ _ hc _ _ ⟨v,h1,h2,h3,h4,h5,h6,h7⟩=>⟨v,h1,h2,h3,h4,h5,h6,h7.le mono_val hc⟩
theorem mono_block : MonoV BlockV:=fun _ _ hc _ _ ⟨p,l,t,h1,h2,h3,h4,h5,h6⟩=>⟨p,l,t,h1,h2,h3,h4.le mono_phi hc,h5.le mono_ins hc,h6.le mono_int hc⟩
theorem mono_func : MonoV FuncV:=fun _ _ hc _ _ ⟨v,h1,h2,h3,h4⟩=>⟨v,h1,h2,h3,h4.le mono_block hc⟩
def Clean (S : Nat→Prop) (w : World) : Prop:=∀ p v,w.cell? p = some v→¬ S p.block
theorem clean_no (w : World) : Clean NoS w:=fun _ _ _ h=>h
theorem clean_kill (S : Nat→Prop) (w : World) : Clean S (killW S w):=fun _ _ h=>(kill_cell h).1
theorem Clean.old {S : Nat→Prop} {w : World} (h : Clean S w) {b o : Nat} {v : Value} {l : List Value} (hc : CellsAt w b o (v::l)) : OldIs S b:=⟨h _ _ (hc 0 v rfl)⟩
section
variable {P : Program} {ro : Option Nat} {N : Nat} {ds : List Deferred} {S : Nat→Prop} {w0 w : World} {L : List (Nat × Value)} {H H1 H2 Hr : List Ent} {ops : Array Oper} {rest : List Oper} {Q : Exit→Act→World→Prop} {M : Act→World→Prop} {l : List Oper} {fuel : Nat} {listed : Array Bool}
theorem Clean.le (hcl : Clean S w0) (hw : Wd S w0 (H1++H2) w) : CellLe w0 (killW (fps H1) w):=fun p v hc=>by
 have hlt:=World.block_lt_of_cell? w0 p hc
 have hS:=hcl p v hc
 rw [← hc]
 refine World.cell?_of_block ((kill_get w fun ⟨e,he,hb⟩=>?_).trans (hw.chg.block _ hlt hS))
 have:=(hw.own e (List.mem_append_left _ he) _ hb).1
 exact this.elim hS fun h=>by omega
theorem Clean.now (hcl : Clean S w0) (hw : Wd S w0 H w) : CellLe w0 w:=fun p v hc=>by
 rw [← hc]
 exact World.cell?_of_block (hw.chg.block _ (World.block_lt_of_cell? w0 p hc) (hcl p v hc))
theorem g_callC {α : Type} {val : α→Value} {E : α→List Ent} {φ : α→Prop} {d ty f : Nat} {args : List Operand} {vs : List Value} {tys : Array Nat} {pos : String} {aft : Array Go.Edge} [h : EnterOk P f] [hx : Evs L args vs] (hcl : Clean S w0) (hd : okPut d N L = true)
  (hc : ∀ wz w,Clean (fps H1) wz→CellLe w0 wz→Wd (fun _=>True) wz H2 wz→Wd (fps H1) wz H1 w→Ret P f vs w fun u w'=>∃ x,u = val x∧Wd (fps H1) wz (E x) w'∧φ x)
  (k : ∀ x,φ x→G N ds S w0 ((d,val x)::L) (E x++H2) (wpListIn (FW ro) 0 P ops Q rest)) : G N ds S w0 L (H1++H2) (wpListIn (FW ro) 0 P ops Q (⟨some d,.call { callee:=.value (.func f),args:=args.toArray,argTypes:=tys },ty,pos,aft,none⟩::rest)) :=
 g_callS hd (fun w hw=>(hc (killW (fps H1) w) w (clean_kill _ _) (hcl.le hw) hw.besides hw.prek).mono fun _ _ ⟨x,h1,h2,h3⟩=>⟨x,h1,h2.unkill,h3⟩) k
theorem h_callC {α : Type} {val : α→Value} {E : α→List Ent} {φ : α→Prop} {d ty f : Nat} (i : Nat) {args : List Operand} {vs : List Value} {tys : Array Nat} {pos : String} {aft : Array Go.Edge} [ho : ListAt l i ⟨some d,.call { callee:=.value (.func f),args:=args.toArray,argTypes:=tys },ty,pos,aft,none⟩] [h : EnterOk P f] [hx : Evs L args vs] (hcl : Clean S w0) (hd : okPut d N L = true)
  (hr : decide (Region.ready .any l.toArray listed = [i]) = true) (hH : Hr.Sublist H2)
  (hc : ∀ wz w,Clean (fps H1) wz→CellLe w0 wz→Wd (fun _=>True) wz H2 wz→Wd (fps H1) wz H1 w→Ret P f vs w fun u w'=>∃ x,u = val x∧Wd (fps H1) wz (E x) w'∧φ x)
  (k : ∀ x,φ x→G N ds S w0 ((d,val x)::L) (E x++H2) (wpAnyH P .any l.toArray (OnlyN M) (Wd S w0 Hr) fuel (listed.setIfInBounds i true))) : G N ds S w0 L (H1++H2) (wpAnyH P .any l.toArray (OnlyN M) (Wd S w0 Hr) (fuel + 1) listed) :=
 h_callS i hd hr hH (fun w hw=>(hc (killW (fps H1) w) w (clean_kill _ _) (hcl.le hw) hw.besides hw.prek).mono fun _ _ ⟨x,h1,h2,h3⟩=>⟨x,h1,h2.unkill,h3⟩) k
end
def wrapI (x : Int) : Int:=IntKind.i64.wrap x
def bitsI (f : BitVec 64→BitVec 64→BitVec 64) (x y : Int) : Int:=wrapI ((f (BitVec.ofInt 64 x) (BitVec.ofInt 64 y)).toNat : Int)
def andI (x y : Int) : Int:=bitsI (· &&& ·) x y
def cntI (y : Int) : Nat:=min (andI y 63).toNat 64
def yesI (b : Bool) : Int:=if b then 1 else 0
def twoL (op a b : Int) : Option Int :=
 if op = 1 then some a else if op = 2 then some (wrapI (a + b)) else if op = 3 then some (wrapI (a - b)) else if op = 4 then some (wrapI (a * b))
 else if op = 5 then (if b = 0 then none else some (wrapI (a.tdiv b))) else if op = 6 then (if b = 0 then none else some (a.tmod b))
 else if op = 7 then some (andI a b) else if op = 8 then some (bitsI (· ||| ·) a b) else if op = 9 then some (bitsI (· ^^^ ·) a b)
 else if op = 10 then some (wrapI (a * 2 ^ cntI b)) else if op = 11 then some (a.fdiv (2 ^ cntI b))
 else if op = 12 then some (yesI (decide (a = b))) else if op = 13 then some (yesI (!decide (a = b))) else if op = 14 then some (yesI (decide (a < b))) else if op = 15 then some (yesI (decide (a ≤ b)))
 else if op = 16 then some (wrapI (0 - a)) else if op = 17 then some (bitsI (· ^^^ ·) (-1) a) else some 0
structure Frm where
 fn : Nat
 block : Nat
 at' : Nat
 regs : List Int
 dst : Int
structure Mac where
 mem : List Int
 inp : List Int
 out : List Int
 steps : Nat
 rest : List Frm
 top : Frm
 counts : List (List Nat)
structure Fin where
 state : Int
 value : Int
 out : List Int
 steps : Nat
 counts : List (List Nat)
def Mac.stop (s : Mac) (state value : Int) : Fin:=⟨state,value,s.out,s.steps,s.counts⟩
def valM (t : Frm) (v : LVal) : Int:=if v.reg then t.regs.getD v.n.toNat 0 else v.n
def setR (regs : List Int) (dst n : Int) : List Int:=if 0 ≤ dst then regs.set dst.toNat n else regs
def Frm.set (t : Frm) (dst n : Int) : Frm:={ t with regs:=setR t.regs dst n }
def bump (counts : List (List Nat)) (k b : Nat) : List (List Nat):=counts.modify k fun l=>l.modify b (· + 1)
def Mac.set (s : Mac) (dst n : Int) : Mac:={ s with top:=s.top.set dst n }
def phisM (t : Frm) (k : Nat) (phis : List LPhi) : List Int:=phis.foldl (fun regs p=>regs.set p.dst.toNat (valM t (p.src.getD k noV))) t.regs
def jumpM (u : LUnit) (s : Mac) (to : Int) : Mac :=
 let bl:=match u.funcs[s.top.fn]? with|some X=>X.blocks|none=>[]
 let k:=(preds bl to.toNat).idxOf s.top.block
 { s with top:={ s.top with regs:=phisM s.top k (phisOf bl to.toNat),block:=to.toNat,at':=0 },counts:=bump s.counts s.top.fn to.toNat }
def enterR (n : Nat) (args : List Int) : List Int:=(args++List.replicate n 0).take n
def enterM (u : LUnit) (s : Mac) (fn : Nat) (dst : Int) (args : List Int) : Mac :=
 let n:=match u.funcs[fn]? with|some X=>X.regs.toNat|none=>0
 { s with rest:=s.rest++[s.top],top:=⟨fn,0,0,enterR n args,dst⟩,counts:=bump s.counts fn 0 }
def endM (u : LUnit) (s : Mac) (B : LBlock) : Mac ⊕ Fin :=
 if B.kind = 2 then .inl (jumpM u s (B.to.getD 0 0))
 else if B.kind = 3 then .inl (jumpM u s (if valM s.top B.on ≠ 0 then B.to.getD 0 0 else B.to.getD 1 0))
 else match s.rest.getLast? with
  | none=>.inr (s.stop 0 (valM s.top B.on))
  | some t=>.inl { s with rest:=s.rest.dropLast,top:=t.set s.top.dst (valM s.top B.on) }
def insM (u : LUnit) (s : Mac) (x : LIns) : Mac ⊕ Fin :=
 let a:=valM s.top x.a
 let b:=valM s.top x.b
 if x.op = 18 ∨ x.op = 19 then
  if !within a 0 ((s.mem.length : Int) - 1) then .inr (s.stop 3 0)
  else if x.op = 19 then .inl { s with mem:=s.mem.set a.toNat b } else .inl (s.set x.dst (s.mem.getD a.toNat 0))
 else if x.op = 20 then (if s.rest.length + 1 = 30 then .inr (s.stop 4 0) else .inl (enterM u s x.fn.toNat x.dst (x.args.map (valM s.top))))
 else if x.op = 21 then .inl { s with top:=s.top.set x.dst (s.inp.headD (-1)),inp:=s.inp.tail }
 else if x.op = 22 then (if s.out.length = 200 then .inr (s.stop 5 0) else .inl { s with out:=s.out++[a] })
 else match twoL x.op a b with
  | none=>.inr (s.stop 2 0)
  | some n=>.inl (s.set x.dst n)
def blockM (u : LUnit) (t : Frm) : LBlock:=match u.funcs[t.fn]? with
 | some X=>X.blocks.getD t.block ⟨[],[],1,noV,[]⟩
 | none=>⟨[],[],1,noV,[]⟩
def stepM (u : LUnit) (s : Mac) : Mac ⊕ Fin :=
 let B:=blockM u s.top
 let s1:={ s with steps:=s.steps + 1 }
 match B.list[s.top.at']? with
 | none=>endM u s1 B
 | some x=>insM u { s1 with top:={ s1.top with at':=s1.top.at' + 1 } } x
def runM (u : LUnit) : Nat→Mac→Fin
 | 0,s=>s.stop 1 0
 | n + 1,s=>match stepM u s with
  | .inl s'=>runM u n s'
  | .inr f=>f
def memL (gs : List LGlobal) : List Int:=gs.flatMap fun g=>g.init++List.replicate (g.size.toNat - g.init.length) 0
def startM (u : LUnit) (input : List Int) : Mac :=
 let m:=(mainAt u.funcs).toNat
 let n:=match u.funcs[m]? with|some X=>X.regs.toNat|none=>0
 ⟨memL u.globals,input,[],0,[],⟨m,0,0,List.replicate n 0,-1⟩,bump (u.funcs.map fun X=>List.replicate X.blocks.length 0) m 0⟩
def resultM (u : LUnit) (input : List Int) (fuel : Nat) : Fin:=runM u fuel (startM u input)
theorem wrap_inI (x : Int) : inI (wrapI x):=by
 unfold wrapI inI
 rw [IntKind.wrap_i64]
 omega
theorem tmod_in {a b : Int} (h : inI a) : inI (a.tmod b):=by
 have h1 : (a.tmod b).natAbs ≤ a.natAbs:=by
  rw [Int.natAbs_tmod]
  exact Nat.mod_le _ _
 unfold inI at *
 rcases Int.le_total 0 a with h0|h0
 ·have:=Int.tmod_nonneg b h0
  omega
 ·have h2 : a.tmod b ≤ 0:=by
   have:=Int.tmod_nonneg b (a:=-a) (by omega)
   rw [Int.neg_tmod] at this
   omega
  omega
theorem fdiv_in {a : Int} (k : Nat) (h : inI a) : inI (a.fdiv (2 ^ k)):=by
 have hp : (0 : Int) < 2 ^ k:=Int.pow_pos (by omega)
 rw [Int.fdiv_eq_ediv_of_nonneg _ (by omega)]
 unfold inI at *
 constructor
 ·rcases Int.le_total 0 a with h0|h0
  ·have:=Int.ediv_nonneg h0 (by omega : (0 : Int) ≤ 2 ^ k)
   omega
  ·have h2 : a ≤ a / 2 ^ k:=by
    rw [Int.le_ediv_iff_mul_le hp]
    have : a * 2 ^ k ≤ a * 1:=Int.mul_le_mul_of_nonpos_left h0 (by omega)
    omega
   omega
 ·rcases Int.le_total 0 a with h0|h0
  ·have:=Int.ediv_le_self (2 ^ k) h0
   omega
  ·have h2 : a / 2 ^ k ≤ 0:=by
    have h3 : a / 2 ^ k < 1:=by rw [Int.ediv_lt_iff_lt_mul hp]; omega
    omega
   omega
theorem yes_in (b : Bool) : inI (yesI b):=by cases b <;> simp [yesI,inI]
theorem bits_in (f : BitVec 64→BitVec 64→BitVec 64) (x y : Int) : inI (bitsI f x y):=wrap_inI _
theorem two_in {op a b n : Int} (ha : inI a) (h : twoL op a b = some n) : inI n:=by
 unfold twoL at h
 by_cases h1 : op = 1
 ·rw [if_pos h1] at h
  rw [← Option.some.inj h]; exact ha
 rw [if_neg h1] at h
 by_cases h2 : op = 2
 ·rw [if_pos h2] at h
  rw [← Option.some.inj h]; exact wrap_inI _
 rw [if_neg h2] at h
 by_cases h3 : op = 3
 ·rw [if_pos h3] at h
  rw [← Option.some.inj h]; exact wrap_inI _
 rw [if_neg h3] at h
 by_cases h4 : op = 4
 ·rw [if_pos h4] at h
  rw [← Option.some.inj h]; exact wrap_inI _
 rw [if_neg h4] at h
 by_cases h5 : op = 5
 ·rw [if_pos h5] at h
  by_cases hb : b = 0
  ·rw [if_pos hb] at h; cases h
  ·rw [if_neg hb] at h; rw [← Option.some.inj h]; exact wrap_inI _
 rw [if_neg h5] at h
 by_cases h6 : op = 6
 ·rw [if_pos h6] at h
  by_cases hb : b = 0
  ·rw [if_pos hb] at h; cases h
  ·rw [if_neg hb] at h; rw [← Option.some.inj h]; exact tmod_in ha
 rw [if_neg h6] at h
 by_cases h7 : op = 7
 ·rw [if_pos h7] at h
  rw [← Option.some.inj h]; exact bits_in _ _ _
 rw [if_neg h7] at h
 by_cases h8 : op = 8
 ·rw [if_pos h8] at h
  rw [← Option.some.inj h]; exact bits_in _ _ _
 rw [if_neg h8] at h
 by_cases h9 : op = 9
 ·rw [if_pos h9] at h
  rw [← Option.some.inj h]; exact bits_in _ _ _
 rw [if_neg h9] at h
 by_cases h10 : op = 10
 ·rw [if_pos h10] at h
  rw [← Option.some.inj h]; exact wrap_inI _
 rw [if_neg h10] at h
 by_cases h11 : op = 11
 ·rw [if_pos h11] at h
  rw [← Option.some.inj h]; exact fdiv_in _ ha
 rw [if_neg h11] at h
 by_cases h12 : op = 12
 ·rw [if_pos h12] at h
  rw [← Option.some.inj h]; exact yes_in _
 rw [if_neg h12] at h
 by_cases h13 : op = 13
 ·rw [if_pos h13] at h
  rw [← Option.some.inj h]; exact yes_in _
 rw [if_neg h13] at h
 by_cases h14 : op = 14
 ·rw [if_pos h14] at h
  rw [← Option.some.inj h]; exact yes_in _
 rw [if_neg h14] at h
 by_cases h15 : op = 15
 ·rw [if_pos h15] at h
  rw [← Option.some.inj h]; exact yes_in _
 rw [if_neg h15] at h
 by_cases h16 : op = 16
 ·rw [if_pos h16] at h
  rw [← Option.some.inj h]; exact wrap_inI _
 rw [if_neg h16] at h
 by_cases h17 : op = 17
 ·rw [if_pos h17] at h
  rw [← Option.some.inj h]; exact bits_in _ _ _
 rw [if_neg h17] at h
 rw [← Option.some.inj h]; simp [inI]
structure InsFit (u : LUnit) (R : Nat) (x : LIns) : Prop where
 op : 1 ≤ x.op∧x.op ≤ 22
 a : ValOk R x.a
 b : ValOk R x.b
 dst : 0 ≤ x.dst→x.dst < R
 args : ∀ v ∈ x.args,ValOk R v
 few : x.args.length ≤ 1000
 call : x.op = 20→∃ (k : Nat) (Y : LFunc),x.fn = k∧u.funcs[k]? = some Y∧(x.args.length : Int) = Y.params
 nums : inI x.dst∧inI x.a.n∧inI x.b.n∧∀ v ∈ x.args,inI v.n
structure BlkFit (u : LUnit) (R : Nat) (B : LBlock) : Prop where
 kind : (B.kind = 1 ∨ B.kind = 2 ∨ B.kind = 3)∧(B.to.length : Int) = B.kind - 1
 on : ValOk R B.on∧inI B.on.n
 list : B.list.length ≤ 1000∧∀ x ∈ B.list,InsFit u R x
 phis : B.phis.length ≤ 1000∧∀ q ∈ B.phis,∀ v ∈ q.src,inI v.n
structure FnFit (u : LUnit) (X : LFunc) (R : Nat) : Prop where
 regs : X.regs = R
 le : R ≤ 100
 ok : FuncOk R X.blocks
 pos : 0 < X.blocks.length
 few : X.blocks.length ≤ 100
 params : 0 ≤ X.params∧X.params ≤ R
 blk : ∀ B ∈ X.blocks,BlkFit u R B
def UnitFit (u : LUnit) : Prop:=u.funcs.length ≤ 1000∧∀ (k : Nat) (X : LFunc),u.funcs[k]? = some X→∃ R,FnFit u X R
structure FrmOk (u : LUnit) (f : Frm) (X : LFunc) (R : Nat) : Prop where
 get : u.funcs[f.fn]? = some X
 fit : FnFit u X R
 regs : f.regs.length = R
 block : f.block < X.blocks.length
 nums : ∀ x ∈ f.regs,inI x
 dst : inI f.dst
 at' : ∀ B,X.blocks[f.block]? = some B→f.at' ≤ B.list.length
def shp (f : Frm) : Nat × Int:=(f.regs.length,f.dst)
def DstS (l : List (Nat × Int)) : Prop:=∀ i p q,l[i]? = some p→l[i + 1]? = some q→0 ≤ q.2→q.2 < p.1
theorem DstS.add {l : List (Nat × Int)} {p q : Nat × Int} (h : DstS (l++[p])) (hq : 0 ≤ q.2→q.2 < p.1) : DstS (l++[p]++[q]):=fun i a b ha hb h0=>by
 by_cases hi : i + 1 < (l++[p]).length
 ·rw [List.getElem?_append_left (by omega)] at ha
  rw [List.getElem?_append_left hi] at hb
  exact h i a b ha hb h0
 ·have hl : (l++[p]).length = l.length + 1:=by simp
  have hb':=(List.getElem?_eq_some_iff.1 hb).1
  have hl2 : (l++[p]++[q]).length = l.length + 2:=by simp
  have hil : i = l.length:=by omega
  subst hil
  rw [List.getElem?_append_left (by omega)] at ha
  rw [List.getElem?_append_right (by omega),hl,Nat.sub_self] at hb
  simp at ha hb
  subst ha hb
  exact hq h0
theorem DstS.drop {l : List (Nat × Int)} {q : Nat × Int} (h : DstS (l++[q])) : DstS l:=fun i a b ha hb h0=>by
 have h1:=(List.getElem?_eq_some_iff.1 ha).1
 have h2:=(List.getElem?_eq_some_iff.1 hb).1
 exact h i a b (by rw [List.getElem?_append_left h1]; exact ha) (by rw [List.getElem?_append_left h2]; exact hb) h0
theorem DstS.last {l : List (Nat × Int)} {p q : Nat × Int} (h : DstS (l++[p]++[q])) : 0 ≤ q.2→q.2 < p.1 :=
 h l.length p q (by simp) (by rw [List.getElem?_append_right (by simp)]; simp)
structure MacOk (u : LUnit) (c : Nat) (s : Mac) : Prop where
 top : ∃ X R,FrmOk u s.top X R
 rest : ∀ f ∈ s.rest,∃ X R,FrmOk u f X R
 dst : DstS ((s.rest++[s.top]).map shp)
 cnt : s.counts.length = u.funcs.length∧∀ (k : Nat) (X : LFunc),u.funcs[k]? = some X→∃ l,s.counts[k]? = some l∧l.length = X.blocks.length∧∀ x ∈ l,x ≤ c
 deep : s.rest.length + 1 ≤ 30
 out : s.out.length ≤ 200∧∀ x ∈ s.out,inI x
 mem : s.mem.length ≤ 100000∧∀ x ∈ s.mem,inI x
 inp : ∀ x ∈ s.inp,inI x
theorem valM_in {u : LUnit} {f : Frm} {X : LFunc} {R : Nat} (h : FrmOk u f X R) {v : LVal} (hv : ValOk R v) (hn : inI v.n) : inI (valM f v):=by
 unfold valM
 split
 ·rename_i hr
  obtain ⟨h0,h1⟩:=hv hr
  have:=h.regs
  rw [List.getD_eq_getElem?_getD,List.getElem?_eq_getElem (by omega),Option.getD_some]
  exact h.nums _ (List.getElem_mem _)
 ·exact hn
theorem setRegs_in {regs : List Int} {d : Nat} {n : Int} (h : ∀ x ∈ regs,inI x) (hn : inI n) : ∀ x ∈ regs.set d n,inI x:=fun x hx=>by
 rcases List.mem_or_eq_of_mem_set hx with h1|rfl
 ·exact h x h1
 ·exact hn
theorem FrmOk.set {u : LUnit} {f : Frm} {X : LFunc} {R : Nat} (h : FrmOk u f X R) (dst : Int) {n : Int} (hn : inI n) : FrmOk u (f.set dst n) X R:=by
 refine ⟨h.get,h.fit,?_,h.block,?_,h.dst,h.at'⟩
 ·unfold Frm.set setR; simp only; split <;> simp [h.regs]
 ·unfold Frm.set setR
  simp only
  split
  ·exact setRegs_in h.nums hn
  ·exact h.nums
theorem shp_set (f : Frm) (dst n : Int) : shp (f.set dst n) = shp f:=by unfold shp Frm.set setR; simp only; split <;> simp
theorem bump_cnt {u : LUnit} {c : Nat} {cs : List (List Nat)} (h : cs.length = u.funcs.length∧∀ (k : Nat) (X : LFunc),u.funcs[k]? = some X→∃ l,cs[k]? = some l∧l.length = X.blocks.length∧∀ x ∈ l,x ≤ c) (k b : Nat) :
  (bump cs k b).length = u.funcs.length∧∀ (j : Nat) (X : LFunc),u.funcs[j]? = some X→∃ l,(bump cs k b)[j]? = some l∧l.length = X.blocks.length∧∀ x ∈ l,x ≤ c + 1:=by
 refine ⟨by unfold bump; rw [List.length_modify]; exact h.1,fun j X hX=>?_⟩
 obtain ⟨l,h1,h2,h3⟩:=h.2 j X hX
 unfold bump
 rw [List.getElem?_modify,h1]
 by_cases e : k = j
 ·refine ⟨_,rfl,?_,?_⟩
  ·simp [e,h2]
  ·intro x hx
   simp only [e,ite_true] at hx
   obtain ⟨i,hi⟩:=List.getElem?_of_mem hx
   rw [List.getElem?_modify] at hi
   obtain ⟨y,hy,rfl⟩:=Option.map_eq_some_iff.1 hi
   have:=h3 y (List.mem_of_getElem? hy)
   split <;> omega
 ·exact ⟨l,by simp [e],h2,fun x hx=>by have:=h3 x hx; omega⟩
theorem phisM_ok {u : LUnit} {f : Frm} {X : LFunc} {R : Nat} (h : FrmOk u f X R) (k : Nat) (l : List LPhi) (hl : ∀ q ∈ l,inI (valM f (q.src.getD k noV))) : (phisM f k l).length = R∧∀ x ∈ phisM f k l,inI x:=by
 unfold phisM
 have : ∀ (rs : List Int),rs.length = R→(∀ x ∈ rs,inI x)→(l.foldl (fun regs p=>regs.set p.dst.toNat (valM f (p.src.getD k noV))) rs).length = R∧∀ x ∈ l.foldl (fun regs p=>regs.set p.dst.toNat (valM f (p.src.getD k noV))) rs,inI x:=by
  clear h
  induction l with
  | nil=>exact fun rs h1 h2=>⟨h1,h2⟩
  | cons q l ih =>
   intro rs h1 h2
   rw [List.foldl_cons]
   exact ih (fun q hq=>hl q (List.mem_cons_of_mem _ hq)) _ (by rw [List.length_set]; exact h1) (setRegs_in h2 (hl q (by simp)))
 exact this f.regs h.regs h.nums
theorem src_getD {R np k : Nat} {q : LPhi} (h : PhiOk R np q) (hk : k < np) : ∃ v ∈ q.src,q.src.getD k noV = v:=by
 have:=h.len
 exact ⟨q.src[k]'(by omega),List.getElem_mem _,by rw [List.getD_eq_getElem?_getD,List.getElem?_eq_getElem (by omega)]; rfl⟩
structure GoTo (X : LFunc) (b to : Nat) (T : LBlock) : Prop where
 get : X.blocks[to]? = some T
 mem : b ∈ preds X.blocks to
theorem goTo {u : LUnit} {f : Frm} {X : LFunc} {R : Nat} (h : FrmOk u f X R) {B : LBlock} (hB : X.blocks[f.block]? = some B) {t : Int} (ht : t ∈ B.to) : ∃ (to : Nat) (T : LBlock),t = to∧GoTo X f.block to T:=by
 have hg:=(h.fit.ok.good B (List.mem_of_getElem? hB)).2 t ht
 obtain ⟨to,rfl⟩ : ∃ to : Nat,t = to:=⟨t.toNat,by omega⟩
 exact ⟨to,X.blocks[to]'(by omega),rfl,List.getElem?_eq_getElem _,preds_mem h.block (by unfold toOf; rw [hB]; exact ht)⟩
theorem jumpM_eq {u : LUnit} {s : Mac} {X : LFunc} (hX : u.funcs[s.top.fn]? = some X) {to : Nat} {T : LBlock} (hT : X.blocks[to]? = some T) : jumpM u s to = { s with top:={ s.top with regs:=phisM s.top ((preds X.blocks to).idxOf s.top.block) T.phis,block:=to,at':=0 },counts:=bump s.counts s.top.fn to }:=by
 unfold jumpM phisOf
 simp only [hX,Int.toNat_natCast,hT]
theorem jump_ok {u : LUnit} {c : Nat} {s : Mac} (h : MacOk u c s) {X : LFunc} {R : Nat} (hf : FrmOk u s.top X R) {to : Nat} {T : LBlock} (hg : GoTo X s.top.block to T) : MacOk u (c + 1) (jumpM u s to):=by
 rw [jumpM_eq hf.get hg.get]
 have hTm:=List.mem_of_getElem? hg.get
 have hfit:=hf.fit.blk T hTm
 have hok:=hf.fit.ok.block to T hg.get
 obtain ⟨h1,h2⟩:=phisM_ok hf ((preds X.blocks to).idxOf s.top.block) T.phis fun q hq=>by
  obtain ⟨v,hv,e⟩:=src_getD (hok.phis q hq) (List.idxOf_lt_length_of_mem hg.mem)
  rw [e]
  exact valM_in hf ((hok.phis q hq).vals v hv) (hfit.phis.2 q hq v hv)
 refine ⟨⟨X,R,⟨hf.get,hf.fit,h1,(List.getElem?_eq_some_iff.1 hg.get).1,h2,hf.dst,fun _ _=>Nat.zero_le _⟩⟩,h.rest,?_,bump_cnt h.cnt _ _,h.deep,h.out,h.mem,h.inp⟩
 have e : ((s.rest++[{ s.top with regs:=phisM s.top ((preds X.blocks to).idxOf s.top.block) T.phis,block:=to,at':=0 }]).map shp) = (s.rest++[s.top]).map shp:=by
  simp only [List.map_append,List.map_cons,List.map_nil,shp,h1,hf.regs]
 exact e ▸ h.dst
theorem enterR_in {R : Nat} {args : List Int} (h : ∀ x ∈ args,inI x) : ∀ x ∈ enterR R args,inI x:=fun x hx=>by
 have:=List.mem_of_mem_take hx
 rcases List.mem_append.1 this with h1|h1
 ·exact h x h1
 ·rw [List.eq_of_mem_replicate h1]; simp [inI]
theorem enterR_length (R : Nat) (args : List Int) : (enterR R args).length = R:=by simp [enterR]
theorem enterM_eq {u : LUnit} {s : Mac} {fn : Nat} {Y : LFunc} {R : Nat} (hY : u.funcs[fn]? = some Y) (hR : Y.regs = R) (dst : Int) (args : List Int) : enterM u s fn dst args = { s with rest:=s.rest++[s.top],top:=⟨fn,0,0,enterR R args,dst⟩,counts:=bump s.counts fn 0 }:=by
 unfold enterM
 simp only [hY,hR,Int.toNat_natCast]
theorem enter_ok {u : LUnit} (hu : UnitFit u) {c : Nat} {s : Mac} (h : MacOk u c s) {fn : Nat} {Y : LFunc} (hY : u.funcs[fn]? = some Y) {dst : Int} (hd : 0 ≤ dst→dst < s.top.regs.length) (hdi : inI dst) {args : List Int} (ha : ∀ x ∈ args,inI x) (hdeep : s.rest.length + 1 < 30) : MacOk u (c + 1) (enterM u s fn dst args):=by
 obtain ⟨R,hfit⟩:=hu.2 fn Y hY
 rw [enterM_eq hY hfit.regs]
 refine ⟨⟨Y,R,⟨hY,hfit,enterR_length _ _,hfit.pos,enterR_in ha,hdi,fun _ _=>Nat.zero_le _⟩⟩,fun f hf=>?_,?_,bump_cnt h.cnt _ _,?_,h.out,h.mem,h.inp⟩
 ·rcases List.mem_append.1 hf with hf|hf
  ·exact h.rest f hf
  ·rw [List.mem_singleton.1 hf]; exact h.top
 ·have:=h.dst
  simp only [List.map_append,List.map_cons,List.map_nil] at this ⊢
  exact this.add (q:=shp ⟨fn,0,0,enterR R args,dst⟩) (fun h0=>hd h0)
 ·simp; omega
theorem MacOk.mono {u : LUnit} {c d : Nat} {s : Mac} (h : MacOk u c s) (hcd : c ≤ d) : MacOk u d s :=
 ⟨h.top,h.rest,h.dst,⟨h.cnt.1,fun k X hX=>by
  obtain ⟨l,h1,h2,h3⟩:=h.cnt.2 k X hX
  exact ⟨l,h1,h2,fun x hx=>Nat.le_trans (h3 x hx) hcd⟩⟩,h.deep,h.out,h.mem,h.inp⟩
theorem MacOk.set {u : LUnit} {c : Nat} {s : Mac} (h : MacOk u c s) (dst : Int) {n : Int} (hn : inI n) : MacOk u c (s.set dst n):=by
 obtain ⟨X,R,hf⟩:=h.top
 refine ⟨⟨X,R,hf.set dst hn⟩,h.rest,?_,h.cnt,h.deep,h.out,h.mem,h.inp⟩
 have:=h.dst
 simp only [Mac.set,List.map_append,List.map_cons,List.map_nil,shp_set] at this ⊢
 exact this
theorem to_get {B : LBlock} {i : Nat} (h : i < B.to.length) : B.to.getD i 0 ∈ B.to:=by
 rw [List.getD_eq_getElem?_getD,List.getElem?_eq_getElem h,Option.getD_some]
 exact List.getElem_mem _
theorem last_split {α : Type} {l : List α} {t : α} (h : l.getLast? = some t) : l = l.dropLast++[t]:=by
 have hne : l ≠ []:=fun e=>by rw [e] at h; simp at h
 have h2:=List.dropLast_concat_getLast hne
 rw [List.getLast?_eq_some_getLast hne] at h
 rw [Option.some.inj h] at h2
 exact h2.symm
theorem end_ok {u : LUnit} {c : Nat} {s : Mac} (h : MacOk u c s) {X : LFunc} {R : Nat} (hf : FrmOk u s.top X R) {B : LBlock} (hB : X.blocks[s.top.block]? = some B) {s' : Mac} (he : endM u s B = .inl s') : MacOk u (c + 1) s':=by
 have hfit:=hf.fit.blk B (List.mem_of_getElem? hB)
 have hlen:=hfit.kind.2
 unfold endM at he
 by_cases h2 : B.kind = 2
 ·rw [if_pos h2] at he
  obtain ⟨to,T,e,hg⟩:=goTo hf hB (to_get (B:=B) (i:=0) (by omega))
  rw [e] at he
  rw [← Sum.inl.inj he]
  exact jump_ok h hf hg
 rw [if_neg h2] at he
 by_cases h3 : B.kind = 3
 ·rw [if_pos h3] at he
  rw [← Sum.inl.inj he]
  split
  ·obtain ⟨to,T,e,hg⟩:=goTo hf hB (to_get (B:=B) (i:=0) (by omega))
   rw [e]
   exact jump_ok h hf hg
  ·obtain ⟨to,T,e,hg⟩:=goTo hf hB (to_get (B:=B) (i:=1) (by omega))
   rw [e]
   exact jump_ok h hf hg
 rw [if_neg h3] at he
 cases hl : s.rest.getLast? with
 | none=>rw [hl] at he; cases he
 | some t =>
  rw [hl] at he
  rw [← Sum.inl.inj he]
  have hsp:=last_split hl
  have hd:=h.dst
  rw [hsp] at hd
  simp only [List.map_append,List.map_cons,List.map_nil] at hd
  obtain ⟨Y,R',hft⟩:=h.rest t (by rw [hsp]; simp)
  have hn:=valM_in hf hfit.on.1 hfit.on.2
  refine ⟨⟨Y,R',hft.set _ hn⟩,fun f hf=>h.rest f (List.dropLast_subset _ hf),?_,⟨h.cnt.1,fun k X hX=>?_⟩,?_,h.out,h.mem,h.inp⟩
  ·simp only [List.map_append,List.map_cons,List.map_nil,shp_set]
   exact hd.drop
  ·obtain ⟨l,h1,h2,h3⟩:=h.cnt.2 k X hX
   exact ⟨l,h1,h2,fun x hx=>by have:=h3 x hx; omega⟩
  ·have:=h.deep
   simp only [List.length_dropLast]
   omega
theorem ins_ok {u : LUnit} (hu : UnitFit u) {c : Nat} {s : Mac} (h : MacOk u c s) {X : LFunc} {R : Nat} (hf : FrmOk u s.top X R) {x : LIns} (hx : InsFit u R x) {s' : Mac} (he : insM u s x = .inl s') : MacOk u (c + 1) s':=by
 have ha:=valM_in hf hx.a hx.nums.2.1
 have hb:=valM_in hf hx.b hx.nums.2.2.1
 have hm:=h.mono (Nat.le_succ c)
 unfold insM at he
 simp only at he
 by_cases h1 : x.op = 18 ∨ x.op = 19
 ·rw [if_pos h1] at he
  split at he
  ·cases he
  rename_i hw
  simp only [within,Bool.not_eq_true',Bool.and_eq_false_iff,decide_eq_false_iff_not,not_or,Decidable.not_not] at hw
  split at he
  ·rw [← Sum.inl.inj he]
   exact ⟨hm.top,hm.rest,hm.dst,hm.cnt,hm.deep,hm.out,⟨by rw [List.length_set]; exact hm.mem.1,setRegs_in hm.mem.2 hb⟩,hm.inp⟩
  ·rw [← Sum.inl.inj he]
   refine hm.set _ ?_
   rw [List.getD_eq_getElem?_getD,List.getElem?_eq_getElem (by omega),Option.getD_some]
   exact hm.mem.2 _ (List.getElem_mem _)
 rw [if_neg h1] at he
 by_cases h2 : x.op = 20
 ·rw [if_pos h2] at he
  split at he
  ·cases he
  rename_i hdp
  obtain ⟨k,Y,e,hY,_⟩:=hx.call h2
  rw [e,Int.toNat_natCast] at he
  rw [← Sum.inl.inj he]
  have:=h.deep
  refine enter_ok hu h hY (fun h0=>by rw [hf.regs]; exact hx.dst h0) hx.nums.1 (fun z hz=>?_) (by omega)
  obtain ⟨v,hv,rfl⟩:=List.mem_map.1 hz
  exact valM_in hf (hx.args v hv) (hx.nums.2.2.2 v hv)
 rw [if_neg h2] at he
 by_cases h3 : x.op = 21
 ·rw [if_pos h3] at he
  rw [← Sum.inl.inj he]
  have hn : inI (s.inp.headD (-1)):=by
   cases hi : s.inp with
   | nil=>simp [inI]
   | cons y l=>exact h.inp y (by rw [hi]; simp)
  have h5:=hm.set x.dst hn
  exact ⟨h5.top,h5.rest,h5.dst,h5.cnt,h5.deep,h5.out,h5.mem,fun z hz=>h.inp z (List.mem_of_mem_tail hz)⟩
 rw [if_neg h3] at he
 by_cases h4 : x.op = 22
 ·rw [if_pos h4] at he
  split at he
  ·cases he
  rename_i ho
  rw [← Sum.inl.inj he]
  have:=hm.out.1
  refine ⟨hm.top,hm.rest,hm.dst,hm.cnt,hm.deep,⟨by simp; omega,fun z hz=>?_⟩,hm.mem,hm.inp⟩
  rcases List.mem_append.1 hz with hz|hz
  ·exact hm.out.2 z hz
  ·rw [List.mem_singleton.1 hz]; exact ha
 rw [if_neg h4] at he
 cases ht : twoL x.op (valM s.top x.a) (valM s.top x.b) with
 | none=>rw [ht] at he; cases he
 | some n =>
  rw [ht] at he
  rw [← Sum.inl.inj he]
  exact hm.set _ (two_in ha ht)
def tick (s : Mac) : Mac:={ s with steps:=s.steps + 1 }
def goOn (s : Mac) : Mac:={ s with top:={ s.top with at':=s.top.at' + 1 } }
theorem tick_ok {u : LUnit} {c : Nat} {s : Mac} (h : MacOk u c s) : MacOk u c (tick s):=⟨h.top,h.rest,h.dst,h.cnt,h.deep,h.out,h.mem,h.inp⟩
theorem blockM_eq {u : LUnit} {f : Frm} {X : LFunc} {R : Nat} (hf : FrmOk u f X R) {B : LBlock} (hB : X.blocks[f.block]? = some B) : blockM u f = B:=by
 unfold blockM
 rw [hf.get]
 simp only [List.getD_eq_getElem?_getD,hB,Option.getD_some]
theorem goOn_ok {u : LUnit} {c : Nat} {s : Mac} (h : MacOk u c s) {X : LFunc} {R : Nat} (hf : FrmOk u s.top X R) {B : LBlock} (hB : X.blocks[s.top.block]? = some B) (hlt : s.top.at' < B.list.length) : MacOk u c (goOn s)∧FrmOk u (goOn s).top X R:=by
 have h2 : FrmOk u (goOn s).top X R:=⟨hf.get,hf.fit,hf.regs,hf.block,hf.nums,hf.dst,fun C hC=>by
  have hC : X.blocks[s.top.block]? = some C:=hC
  rw [hB] at hC
  rw [← Option.some.inj hC]
  exact hlt⟩
 exact ⟨⟨⟨X,R,h2⟩,h.rest,by have:=h.dst; simp only [List.map_append,List.map_cons,List.map_nil] at this ⊢; exact this,h.cnt,h.deep,h.out,h.mem,h.inp⟩,h2⟩
theorem stepM_eq (u : LUnit) (s : Mac) : stepM u s = match (blockM u s.top).list[s.top.at']? with|none=>endM u (tick s) (blockM u s.top)|some x=>insM u (goOn (tick s)) x:=rfl
theorem endM_steps {u : LUnit} {s s' : Mac} {B : LBlock} (h : endM u s B = .inl s') : s'.steps = s.steps:=by
 unfold endM at h
 split at h
 ·rw [← Sum.inl.inj h]; rfl
 split at h
 ·rw [← Sum.inl.inj h]; rfl
 split at h
 ·cases h
 ·rw [← Sum.inl.inj h]
theorem insM_steps {u : LUnit} {s s' : Mac} {x : LIns} (h : insM u s x = .inl s') : s'.steps = s.steps:=by
 unfold insM at h
 simp only at h
 repeat' (split at h)
 all_goals first
  | (cases h; done)
  | (rw [← Sum.inl.inj h] <;> rfl)
theorem step_ok {u : LUnit} (hu : UnitFit u) {s s' : Mac} (h : MacOk u (s.steps + 1) s) (he : stepM u s = .inl s') : MacOk u (s'.steps + 1) s'∧s'.steps = s.steps + 1:=by
 obtain ⟨X,R,hf⟩:=h.top
 obtain ⟨B,hB⟩ : ∃ B,X.blocks[s.top.block]? = some B:=⟨_,List.getElem?_eq_getElem hf.block⟩
 rw [stepM_eq,blockM_eq hf hB] at he
 cases hx : B.list[s.top.at']? with
 | none =>
  rw [hx] at he
  have h1:=end_ok (tick_ok h) hf hB he
  have h2:=endM_steps he
  exact ⟨by rw [h2]; exact h1,h2⟩
 | some x =>
  rw [hx] at he
  have hlt:=(List.getElem?_eq_some_iff.1 hx).1
  obtain ⟨h3,h4⟩:=goOn_ok (tick_ok h) (s:=tick s) hf hB hlt
  have h1:=ins_ok hu h3 h4 ((hf.fit.blk B (List.mem_of_getElem? hB)).list.2 x (List.mem_of_getElem? hx)) he
  have h2:=insM_steps he
  exact ⟨by rw [h2]; exact h1,h2⟩
end Go.Proofs.YtdbljcahlpkgdaaGreatDoor
