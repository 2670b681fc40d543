/- Texts joined: OwnR Clean. -/
import Derived.Test.YtdbljcahlpkgdaaDoorGG
import Derived.Test.YtdbljcahlpkgdaaDoorGI
import Derived.Test.YtdbljcahlpkgdaaDoorGM
namespace Go.Proofs.YtdbljcahlpkgdaaDoor
open Go Go.RowKit
section
variable {P : Program} {ro : Option Nat} {N : Nat} {ds : List Deferred} {S : Nat→Prop} {w0 : World} {L : List (Nat × Value)} {H : List Ent} {ops : Array Oper} {rest : List Oper} {Q : Exit→Act→World→Prop} {x y : Operand}
theorem flat_cut {α : Type} {g : α→List Value} {s : Nat} (hg : ∀ x,(g x).length = s) : ∀ (l : List α) (i : Nat),(l.flatMap g).take (i * s) = (l.take i).flatMap g∧(l.flatMap g).drop (i * s) = (l.drop i).flatMap g
 | [],i=>by simp
 | x::l,0=>by simp
 | x::l,i + 1=>by
  obtain ⟨h1,h2⟩:=flat_cut hg l i
  have e : (i + 1) * s = (g x).length + i * s:=by rw [hg,Nat.succ_mul]; omega
  rw [List.flatMap_cons,e,List.take_length_add_append,List.drop_length_add_append,h1,h2]
  simp
theorem flat_put {α : Type} {g : α→List Value} {s : Nat} (hg : ∀ x,(g x).length = s) {l : List α} {i : Nat} (hi : i < l.length) (y : α) : (l.flatMap g).take (i * s)++g y++(l.flatMap g).drop (i * s + s) = (l.set i y).flatMap g:=by
 have e : i * s + s = (i + 1) * s:=by rw [Nat.succ_mul]
 rw [e,(flat_cut hg l i).1,(flat_cut hg l (i + 1)).2]
 conv=>rhs; rw [List.set_eq_take_append_cons_drop]
 rw [if_pos hi]
 simp
theorem g_storeVA {ty T b o off j n c e s m : Nat} (k : Nat) {xs vs : List Value} {pos : String} {aft : Array Go.Edge} [h : AggSize P T m] [hx : Ev L x (.pointer (some ⟨b,off,none⟩))] [hy : Ev L y (.agg vs.toArray)] [hn : LenIs vs m] [h1 : OneVs vs]
  (hk : H[k]? = some (Ent.vec (some ⟨b,o,none⟩) n c e s xs)) (hoff : off = o + j) (hfit : j + m ≤ xs.length)
  (kk : G N ds S w0 L (H.set k (Ent.vec (some ⟨b,o,none⟩) n c e s (xs.take j++vs++xs.drop (j + m)))) (wpListIn (FW ro) 0 P ops Q rest)) : G N ds S w0 L H (wpListIn (FW ro) 0 P ops Q (⟨none,.store T x y,ty,pos,aft,none⟩::rest)):=fun a w hS=>by
 subst hoff
 obtain ⟨hl,hnc,hcm,pre,sp,rfl,hsp,hb⟩:=hS.wd.vecAt hk
 have hlt : b < w.heap.size:=(Array.getElem?_eq_some_iff.1 hb).1
 have hvm:=hn.eq
 have hs:=run_storeCells_at P b (pre.length + j) e vs 0 _ w hb (by simp; omega) h1.all
 have hrow : (pre++xs++sp).take (pre.length + j + 0)++vs++(pre++xs++sp).drop (pre.length + j + 0 + vs.length) = pre++(xs.take j++vs++xs.drop (j + m))++sp:=by
  rw [Nat.add_zero,List.append_assoc pre xs sp,List.take_length_add_append,Nat.add_assoc,List.drop_length_add_append,List.take_append_of_le_length (by omega),List.drop_append_of_le_length (by omega),hvm]
  simp
 simp only at hs
 rw [hrow] at hs
 refine step_skip (w':=w.setRow b (pre++(xs.take j++vs++xs.drop (j + m))++sp).toArray) rfl (fun _ h=>by cases h) ?_ ?_
 ·simp [execOp,hx.eq _ _ _ hS.fr,hy.eq _ _ _ hS.fr,Instr.storeAt,Instr.sureAddr,storeVar,h.sz,Value.cells,hvm,hs]
 ·refine kk _ _ ⟨hS.fr,?_⟩
  have hsz : ∀ q : Array Value,(w.setRow b q).heap.size = w.heap.size:=fun q=>by simp [World.setRow]
  refine hS.wd.turnAt hk ⟨rfl,rfl,rfl,by rw [hsz]; exact Nat.le_refl _,fun j _ hj=>setRow_other w b j _ fun e'=>hj (by simp [Ent.vec,e'])⟩ (fun b' hb'=>?_) fun w2 hw2=>?_
  ·simp only [Ent.vec,Option.map_some,Option.some.injEq] at hb' ⊢
   subst hb'
   exact ⟨.inl rfl,by rw [hsz]; exact hlt⟩
  ·have:=hw2 b (by simp [Ent.vec])
   refine ⟨?_,.inr ⟨b,pre,sp,rfl,hnc,hcm,hsp,?_⟩⟩
   ·simp only [List.length_append,List.length_take,List.length_drop]; omega
   ·rw [this]
    exact setRow_heap w b _ _ e _ hb
end
def CellLe (w w' : World) : Prop:=∀ p v,w.cell? p = some v→w'.cell? p = some v
theorem CellLe.chg {w w' : World} (h : Chg NoS w w') : CellLe w w':=fun _ _ hc=>cell_keep h hc
theorem CellsAt.le {w w' : World} (h : CellLe w w') {b o : Nat} {cs : List Value} (hc : CellsAt w b o cs) : CellsAt w' b o cs:=fun j v hj=>h _ _ (hc j v hj)
def MonoV {α : Type} (V : World→α→List Value→Prop) : Prop:=∀ w w',CellLe w w'→∀ x cs,V w x cs→V w' x cs
theorem SlAt.le {α : Type} {V : World→α→List Value→Prop} (hV : MonoV V) {w w' : World} (h : CellLe w w') {v : Value} {s : Nat} {l : List α} (hs : SlAt w v s l V) : SlAt w' v s l V:=by
 obtain ⟨a,n,c,b,o,h1,h2,h3,hz,h4,h5,h6⟩:=hs
 refine ⟨a,n,c,b,o,h1,h2,h3,hz,h4,h5,fun i x hx=>?_⟩
 obtain ⟨cs,hc,hv⟩:=h6 i x hx
 exact ⟨cs,hc.le h,hV w w' h x cs hv⟩
theorem mono_int : MonoV IntV:=fun _ _ _ _ _ h=>h
theorem mono_val : MonoV ValV:=fun _ _ _ _ _ h=>h
theorem mono_phi : MonoV PhiV:=fun _ _ hc _ _ ⟨v,h1,h2,h3⟩=>⟨v,h1,h2,h3.le mono_val hc⟩
theorem mono_ins : MonoV InsV:=fun _ _ hc _ _ ⟨v,h1,h2,h3,h4,h5,h6,h7⟩=>⟨v,h1,h2,h3,h4,h5,h6,h7.le mono_val hc⟩
theorem mono_block : MonoV BlockV:=fun _ _ hc _ _ ⟨p,l,t,h1,h2,h3,h4,h5,h6⟩=>⟨p,l,t,h1,h2,h3,h4.le mono_phi hc,h5.le mono_ins hc,h6.le mono_int hc⟩
def Clean (S : Nat→Prop) (w : World) : Prop:=∀ p v,w.cell? p = some v→¬ S p.block
theorem clean_no (w : World) : Clean NoS w:=fun _ _ _ h=>h
theorem clean_kill (S : Nat→Prop) (w : World) : Clean S (killW S w):=fun _ _ h=>(kill_cell h).1
theorem Clean.old {S : Nat→Prop} {w : World} (h : Clean S w) {b o : Nat} {v : Value} {l : List Value} (hc : CellsAt w b o (v::l)) : OldIs S b:=⟨h _ _ (hc 0 v rfl)⟩
section
variable {P : Program} {ro : Option Nat} {N : Nat} {ds : List Deferred} {S : Nat→Prop} {w0 w : World} {L : List (Nat × Value)} {H H1 H2 Hr : List Ent} {ops : Array Oper} {rest : List Oper} {Q : Exit→Act→World→Prop} {M : Act→World→Prop} {l : List Oper} {fuel : Nat} {listed : Array Bool}
theorem Clean.le (hcl : Clean S w0) (hw : Wd S w0 (H1++H2) w) : CellLe w0 (killW (fps H1) w):=fun p v hc=>by
 have hlt:=World.block_lt_of_cell? w0 p hc
 have hS:=hcl p v hc
 rw [← hc]
 refine World.cell?_of_block ((kill_get w fun ⟨e,he,hb⟩=>?_).trans (hw.chg.block _ hlt hS))
 have:=(hw.own e (List.mem_append_left _ he) _ hb).1
 exact this.elim hS fun h=>by omega
theorem g_callC {α : Type} {val : α→Value} {E : α→List Ent} {φ : α→Prop} {d ty f : Nat} {args : List Operand} {vs : List Value} {tys : Array Nat} {pos : String} {aft : Array Go.Edge} [h : EnterOk P f] [hx : Evs L args vs] (hcl : Clean S w0) (hd : okPut d N L = true)
  (hc : ∀ wz w,Clean (fps H1) wz→CellLe w0 wz→Wd (fun _=>True) wz H2 wz→Wd (fps H1) wz H1 w→Ret P f vs w fun u w'=>∃ x,u = val x∧Wd (fps H1) wz (E x) w'∧φ x)
  (k : ∀ x,φ x→G N ds S w0 ((d,val x)::L) (E x++H2) (wpListIn (FW ro) 0 P ops Q rest)) : G N ds S w0 L (H1++H2) (wpListIn (FW ro) 0 P ops Q (⟨some d,.call { callee:=.value (.func f),args:=args.toArray,argTypes:=tys },ty,pos,aft,none⟩::rest)) :=
 g_callS hd (fun w hw=>(hc (killW (fps H1) w) w (clean_kill _ _) (hcl.le hw) hw.besides hw.prek).mono fun _ _ ⟨x,h1,h2,h3⟩=>⟨x,h1,h2.unkill,h3⟩) k
end
end Go.Proofs.YtdbljcahlpkgdaaDoor
