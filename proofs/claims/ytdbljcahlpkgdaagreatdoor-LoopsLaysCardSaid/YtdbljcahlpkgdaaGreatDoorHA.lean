/- Texts joined: OwnR Del Clean RunP RunQ RunR. -/
import Derived.Test.YtdbljcahlpkgdaaGreatDoorGF
import Derived.Test.YtdbljcahlpkgdaaGreatDoorGG
import Derived.Test.YtdbljcahlpkgdaaGreatDoorGI
import Derived.Test.YtdbljcahlpkgdaaGreatDoorGM
namespace Go.Proofs.YtdbljcahlpkgdaaGreatDoor
open Go Go.RowKit
class OwnAgg (H : List Ent) (b off : Nat) (cs : outParam (List Value)) : Prop where
 eq : ∀ S w0 w,Wd S w0 H w→CellsAt w b off cs
section
variable {P : Program} {ro : Option Nat} {N : Nat} {ds : List Deferred} {S : Nat→Prop} {w0 : World} {L : List (Nat × Value)} {H : List Ent} {ops : Array Oper} {rest : List Oper} {Q : Exit→Act→World→Prop} {x y : Operand}
instance {T b off n : Nat} {cs : List Value} [h : AggSize P T n] [hx : Ev L x (.pointer (some ⟨b,off,none⟩))] [hc : OwnAgg H b off cs] [hn : LenIs cs n] : RunsC P N ds S w0 L H (.load T x) (.agg cs.toArray) :=
 ⟨fun _ h=>(by cases h),fun _ _ h=>(by cases h),fun _ _ _ _ _ a w hF hW=>by simp [execOp,hx.eq _ _ _ hF,run_loadAgg hn.eq (hc.eq _ _ _ hW)]⟩
theorem ownAgg {α : Type} {k b o n c e s i : Nat} {l : List α} {g : α→List Value} {y : α} (hk : H[k]? = some (Ent.vec (some ⟨b,o,none⟩) n c e s (l.flatMap g))) (hg : ∀ x,(g x).length = s) (hy : l[i]? = some y) : OwnAgg H b (o + i * s) (g y) :=
 ⟨fun _ _ w hw j v hj=>by
  have:=hw.vecCell hk (flat_at hg l i y j v hy hj)
  rwa [← Nat.add_assoc] at this⟩
theorem flat_cut {α : Type} {g : α→List Value} {s : Nat} (hg : ∀ x,(g x).length = s) : ∀ (l : List α) (i : Nat),(l.flatMap g).take (i * s) = (l.take i).flatMap g∧(l.flatMap g).drop (i * s) = (l.drop i).flatMap g
 | [],i=>by simp
 | x::l,0=>by simp
 | x::l,i + 1=>by
  obtain ⟨h1,h2⟩:=flat_cut hg l i
  have e : (i + 1) * s = (g x).length + i * s:=by rw [hg,Nat.succ_mul]; omega
  rw [List.flatMap_cons,e,List.take_length_add_append,List.drop_length_add_append,h1,h2]
  simp
theorem flat_put {α : Type} {g : α→List Value} {s : Nat} (hg : ∀ x,(g x).length = s) {l : List α} {i : Nat} (hi : i < l.length) (y : α) : (l.flatMap g).take (i * s)++g y++(l.flatMap g).drop (i * s + s) = (l.set i y).flatMap g:=by
 have e : i * s + s = (i + 1) * s:=by rw [Nat.succ_mul]
 rw [e,(flat_cut hg l i).1,(flat_cut hg l (i + 1)).2]
 conv=>rhs; rw [List.set_eq_take_append_cons_drop]
 rw [if_pos hi]
 simp
theorem flat_set {α : Type} {g : α→List Value} {s : Nat} (hg : ∀ x,(g x).length = s) : ∀ {l : List α} {i k : Nat} {x y : α} {v : Value},l[i]? = some x→k < s→(g x).set k v = g y→(l.flatMap g).set (i * s + k) v = (l.set i y).flatMap g
 | [],i,k,x,y,v,hx,_,_=>by simp at hx
 | z::l,0,k,x,y,v,hx,hk,he=>by
  simp only [List.getElem?_cons_zero,Option.some.injEq] at hx
  subst hx
  rw [List.flatMap_cons,Nat.zero_mul,Nat.zero_add,List.set_append_left _ _ (by rw [hg]; exact hk),he]
  simp
 | z::l,i + 1,k,x,y,v,hx,hk,he=>by
  have ih:=flat_set hg (l:=l) (i:=i) (k:=k) (x:=x) (y:=y) (v:=v) (by simpa using hx) hk he
  have e : (i + 1) * s + k = (g z).length + (i * s + k):=by rw [hg,Nat.succ_mul]; omega
  rw [List.flatMap_cons,e,List.set_append_right _ _ (by omega),Nat.add_sub_cancel_left,ih]
  simp
theorem g_storeVA {ty T b o off j n c e s m : Nat} (k : Nat) {xs vs : List Value} {pos : String} {aft : Array Go.Edge} [h : AggSize P T m] [hx : Ev L x (.pointer (some ⟨b,off,none⟩))] [hy : Ev L y (.agg vs.toArray)] [hn : LenIs vs m] [h1 : OneVs vs]
  (hk : H[k]? = some (Ent.vec (some ⟨b,o,none⟩) n c e s xs)) (hoff : off = o + j) (hfit : j + m ≤ xs.length)
  (kk : G N ds S w0 L (H.set k (Ent.vec (some ⟨b,o,none⟩) n c e s (xs.take j++vs++xs.drop (j + m)))) (wpListIn (FW ro) 0 P ops Q rest)) : G N ds S w0 L H (wpListIn (FW ro) 0 P ops Q (⟨none,.store T x y,ty,pos,aft,none⟩::rest)):=fun a w hS=>by
 subst hoff
 obtain ⟨hl,hnc,hcm,pre,sp,rfl,hsp,hb⟩:=hS.wd.vecAt hk
 have hlt : b < w.heap.size:=(Array.getElem?_eq_some_iff.1 hb).1
 have hvm:=hn.eq
 have hs:=run_storeCells_at P b (pre.length + j) e vs 0 _ w hb (by simp; omega) h1.all
 have hrow : (pre++xs++sp).take (pre.length + j + 0)++vs++(pre++xs++sp).drop (pre.length + j + 0 + vs.length) = pre++(xs.take j++vs++xs.drop (j + m))++sp:=by
  rw [Nat.add_zero,List.append_assoc pre xs sp,List.take_length_add_append,Nat.add_assoc,List.drop_length_add_append,List.take_append_of_le_length (by omega),List.drop_append_of_le_length (by omega),hvm]
  simp
 simp only at hs
 rw [hrow] at hs
 refine step_skip (w':=w.setRow b (pre++(xs.take j++vs++xs.drop (j + m))++sp).toArray) rfl (fun _ h=>by cases h) ?_ ?_
 ·simp [execOp,hx.eq _ _ _ hS.fr,hy.eq _ _ _ hS.fr,Instr.storeAt,Instr.sureAddr,storeVar,h.sz,Value.cells,hvm,hs]
 ·refine kk _ _ ⟨hS.fr,?_⟩
  have hsz : ∀ q : Array Value,(w.setRow b q).heap.size = w.heap.size:=fun q=>by simp [World.setRow]
  refine hS.wd.turnAt hk ⟨rfl,rfl,rfl,by rw [hsz]; exact Nat.le_refl _,fun j _ hj=>setRow_other w b j _ fun e'=>hj (by simp [Ent.vec,e'])⟩ (fun b' hb'=>?_) fun w2 hw2=>?_
  ·simp only [Ent.vec,Option.map_some,Option.some.injEq] at hb' ⊢
   subst hb'
   exact ⟨.inl rfl,by rw [hsz]; exact hlt⟩
  ·have:=hw2 b (by simp [Ent.vec])
   refine ⟨?_,.inr ⟨b,pre,sp,rfl,hnc,hcm,hsp,?_⟩⟩
   ·simp only [List.length_append,List.length_take,List.length_drop]; omega
   ·rw [this]
    exact setRow_heap w b _ _ e _ hb
end
end Go.Proofs.YtdbljcahlpkgdaaGreatDoor
namespace Go.Proofs.YtdbljcahlpkgdaaGreatDoor
open Go Go.RowKit
attribute [local irreducible] wpListIn Code.wpIn Exit.then Exit.inBlock bodyPost wpQuiet wpAnyIn wpAnyH
set_option maxHeartbeats 4000000
section
variable {P : Program} {ro : Option Nat} {N : Nat} {ds : List Deferred} {S : Nat→Prop} {w0 w : World} {L : List (Nat × Value)} {H : List Ent} {ops : Array Oper} {rest : List Oper} {Q : Exit→Act→World→Prop} {p : Act→World→Prop} {x y z u : Operand}
theorem Wd.writeAt (hW : Wd S w0 H w) {k : Nat} {b o n c e s : Nat} {xs vs : List Value} (hk : H[k]? = some (Ent.vec (some ⟨b,o,none⟩) n c e s xs)) (j : Nat) (h1 : ∀ v ∈ vs,v.oneCell' = true) (hfit : j + vs.length ≤ xs.length) :
  ∃ w',(storeCells ⟨b,o + j,none⟩ vs).run P w = .ok () w'∧Wd S w0 (H.set k (Ent.vec (some ⟨b,o,none⟩) n c e s (xs.take j++vs++xs.drop (j + vs.length)))) w':=by
 obtain ⟨hl,hnc,hcm,pre,sp,rfl,hsp,hb⟩:=hW.vecAt hk
 have hlt : b < w.heap.size:=(Array.getElem?_eq_some_iff.1 hb).1
 have hs:=run_storeCells_at P b (pre.length + j) e vs 0 _ w hb (by simp; omega) h1
 have hrow : (pre++xs++sp).take (pre.length + j + 0)++vs++(pre++xs++sp).drop (pre.length + j + 0 + vs.length) = pre++(xs.take j++vs++xs.drop (j + vs.length))++sp:=by
  rw [Nat.add_zero,List.append_assoc pre xs sp,List.take_length_add_append,Nat.add_assoc,List.drop_length_add_append,List.take_append_of_le_length (by omega),List.drop_append_of_le_length (by omega)]
  simp
 simp only at hs
 rw [hrow] at hs
 refine ⟨_,hs,?_⟩
 have hsz : ∀ q : Array Value,(w.setRow b q).heap.size = w.heap.size:=fun q=>by simp [World.setRow]
 refine hW.turnAt hk ⟨rfl,rfl,rfl,by rw [hsz]; exact Nat.le_refl _,fun j _ hj=>setRow_other w b j _ fun e'=>hj (by simp [Ent.vec,e'])⟩ (fun b' hb'=>?_) fun w2 hw2=>?_
 ·simp only [Ent.vec,Option.map_some,Option.some.injEq] at hb' ⊢
  subst hb'
  exact ⟨.inl rfl,by rw [hsz]; exact hlt⟩
 ·have:=hw2 b (by simp [Ent.vec])
  refine ⟨?_,.inr ⟨b,pre,sp,rfl,hnc,hcm,hsp,?_⟩⟩
  ·simp only [List.length_append,List.length_take,List.length_drop]; omega
  ·rw [this]
   exact setRow_heap w b _ _ e _ hb
end
end Go.Proofs.YtdbljcahlpkgdaaGreatDoor
