/- Texts joined: Two HeldC TwoB. -/
import Derived.Test.YtdbljcahlpkgdaaDoorGE
import Derived.Test.YtdbljcahlpkgdaaDoorGF
import Derived.Test.YtdbljcahlpkgdaaDoorGI
import Derived.Test.YtdbljcahlpkgdaaDoorGN
namespace Go.Proofs.YtdbljcahlpkgdaaDoor
open Go Go.RowKit
section
variable {P : Program} {N : Nat} {ds : List Deferred} {S : Nat→Prop} {w0 : World} {L : List (Nat × Value)} {H Hr : List Ent} {x y : Operand} {M : Act→World→Prop} {l : List Oper} {fuel : Nat} {listed : Array Bool}
def oneH (P : Program) (l : List Oper) (M : Act→World→Prop) (K : World→Prop) (fuel : Nat) (listed : Array Bool) (i : Nat) (a : Act) (w : World) : Prop :=
 wpOp P l.toArray (OnlyN M) i (fun a' w'=>K w'∧wpAnyH P .any l.toArray (OnlyN M) K fuel (listed.setIfInBounds i true) a' w') a w
theorem h_two (i j : Nat) (hr : decide (Region.ready .any l.toArray listed = [i,j]) = true) (h1 : G N ds S w0 L H (oneH P l M (Wd S w0 Hr) fuel listed i)) (h2 : G N ds S w0 L H (oneH P l M (Wd S w0 Hr) fuel listed j)) :
  G N ds S w0 L H (wpAnyH P .any l.toArray (OnlyN M) (Wd S w0 Hr) (fuel + 1) listed):=fun a w hS =>
 wpAnyH_all (of_decide_eq_true hr) (by simp) fun i' hi'=>by
  simp only [List.mem_cons,List.not_mem_nil,or_false] at hi'
  rcases hi' with rfl|rfl
  ·exact h1 a w hS
  ·exact h2 a w hS
theorem o_call {d ty f : Nat} (i : Nat) {args : List Operand} {vs : List Value} {tys : Array Nat} {pos : String} {aft : Array Go.Edge} (R : World→Value→World→Prop) [ho : ListAt l i ⟨some d,.call { callee:=.value (.func f),args:=args.toArray,argTypes:=tys },ty,pos,aft,none⟩] [h : EnterOk P f] [hx : Evs L args vs] (hd : okPut d N L = true)
  (hc : ∀ w,Wd S w0 H w→Ret P f vs w (R w))
  (k : ∀ v w w',Wd S w0 H w→R w v w'→Wd S w0 Hr w'∧∀ a,Fr N ds ((d,v)::L) a→wpAnyH P .any l.toArray (OnlyN M) (Wd S w0 Hr) fuel (listed.setIfInBounds i true) a w') : G N ds S w0 L H (oneH P l M (Wd S w0 Hr) fuel listed i):=by
 intro a w hS
 unfold oneH wpOp
 rw [show l.toArray[i]? = some ⟨some d,.call { callee:=.value (.func f),args:=args.toArray,argTypes:=tys },ty,pos,aft,none⟩ by simpa using ho.at']
 simp only
 rw [if_pos (show Region.wanted (⟨some d,.call { callee:=.value (.func f),args:=args.toArray,argTypes:=tys },ty,pos,aft,none⟩ : Oper) (yielded l.toArray a.tmps) = true from rfl)]
 left
 unfold Oper.wp
 have hrun : (execOp a.eval ⟨some d,.call { callee:=.value (.func f),args:=args.toArray,argTypes:=tys },ty,pos,aft,none⟩).run P w = .ok (.enter f vs.toArray) w:=by
  simp [execOp,resolve,Act.eval,Deferred.ofValue,invoke,hx.eq _ _ _ hS.fr,h.run]
 rw [hrun]
 refine Calls.mono (callsIn_wide.1 (hc w hS.wd)) fun e w' ⟨v,he,hR⟩=>?_
 subst he
 obtain ⟨h1,h2⟩:=k v w w' hS.wd hR
 exact ⟨h1,h2 _ (hS.fr.putOk hd v)⟩
theorem o_valH {o : Oper} (i : Nat) [ho : ListAt l i o] (hg : o.guard = none)
  (k : ∀ a w,St N ds S w0 L H a w→∃ v w',(execOp a.eval o).run P w = .ok (.value v) w'∧Wd S w0 Hr w'∧wpAnyH P .any l.toArray (OnlyN M) (Wd S w0 Hr) fuel (listed.setIfInBounds i true) (a.put o.dst v) w') : G N ds S w0 L H (oneH P l M (Wd S w0 Hr) fuel listed i):=by
 intro a w hS
 obtain ⟨v,w',h1,h2,h3⟩:=k a w hS
 unfold oneH wpOp
 rw [show l.toArray[i]? = some o by simpa using ho.at']
 simp only
 rw [if_pos (show Region.wanted o (yielded l.toArray a.tmps) = true by simp [Region.wanted,hg])]
 left
 unfold Oper.wp
 rw [h1]
 exact ⟨h2,h3⟩
theorem build1_run {d ty T e by' : Nat} {zs cs : List Value} {s : Nat} {v : Value} {pos : String} {aft : Array Go.Edge} [h : ElemInfo P T e s by' zs] [hx : Ev L x v] [hv : CellsOf v cs] [hl : LenIs cs s] (hs : ((Nat.blt 0 s && Nat.ble s 1000) && Nat.beq zs.length s) = true) (a : Act) (w : World) (hS : St N ds S w0 L H a w) :
  ∃ w',(execOp a.eval ⟨some d,.buildSlice T 1 #[(0,x)],ty,pos,aft,none⟩).run P w = .ok (.value (.slice (some ⟨w.heap.size,0,none⟩) 1 1)) w'∧Wd S w0 (Ent.vec (some ⟨w.heap.size,0,none⟩) 1 1 e s cs::H) w':=by
 obtain ⟨i,zz,hi,hzz,hcs,h1,h2⟩:=h.get
 simp only [Bool.and_eq_true,Nat.blt_eq,Nat.ble_eq] at hs
 have hle:=hl.eq
 refine ⟨w.alloc (.cells cs.toArray e),?_,hS.wd.vecNew e s 1 _ (by omega) (by simp [maxLen])⟩
 have hr:=run_buildSlice (P:=P) w T e 1 #[(0,v)] cs.toArray i zz h.und hi hzz (by rw [h1]; omega) (by rw [h1]; omega) (by
  rw [h1,← hle]
  have:=fill_one v cs ((Array.range (1 * cs.length)).map (zz.cells[· % zz.cells.size]!)).toList hv.eq (by simp)
  rw [Array.toArray_toList] at this
  exact this)
 simp [execOp,hx.eq _ _ _ hS.fr,hr]
theorem o_build1 {d ty T e by' : Nat} {zs cs : List Value} {s : Nat} {v : Value} {pos : String} {aft : Array Go.Edge} (i : Nat) [ho : ListAt l i ⟨some d,.buildSlice T 1 #[(0,x)],ty,pos,aft,none⟩] [h : ElemInfo P T e s by' zs] [hx : Ev L x v] [hv : CellsOf v cs] [hl : LenIs cs s] (hd : okPut d N L = true) (hs : ((Nat.blt 0 s && Nat.ble s 1000) && Nat.beq zs.length s) = true) (hH : Hr.Sublist H)
  (k : ∀ b,w0.heap.size ≤ b→G N ds S w0 ((d,.slice (some ⟨b,0,none⟩) 1 1)::L) (Ent.vec (some ⟨b,0,none⟩) 1 1 e s cs::H) (wpAnyH P .any l.toArray (OnlyN M) (Wd S w0 Hr) fuel (listed.setIfInBounds i true))) : G N ds S w0 L H (oneH P l M (Wd S w0 Hr) fuel listed i) :=
 o_valH i rfl fun a w hS=>by
  obtain ⟨w',h1,h2⟩:=build1_run (P:=P) (d:=d) (ty:=ty) (pos:=pos) (aft:=aft) (h:=h) (hx:=hx) (hv:=hv) (hl:=hl) hs a w hS
  exact ⟨_,w',h1,h2.sub (hH.trans (List.sublist_cons_self _ _)),k _ hS.wd.size _ _ ⟨hS.fr.putOk hd _,h2⟩⟩
theorem h_build1 {d ty T e by' : Nat} {zs cs : List Value} {s : Nat} {v : Value} {pos : String} {aft : Array Go.Edge} (i : Nat) [ho : ListAt l i ⟨some d,.buildSlice T 1 #[(0,x)],ty,pos,aft,none⟩] [h : ElemInfo P T e s by' zs] [hx : Ev L x v] [hv : CellsOf v cs] [hl : LenIs cs s] (hd : okPut d N L = true) (hs : ((Nat.blt 0 s && Nat.ble s 1000) && Nat.beq zs.length s) = true)
  (hr : decide (Region.ready .any l.toArray listed = [i]) = true) (hH : Hr.Sublist H)
  (k : ∀ b,w0.heap.size ≤ b→G N ds S w0 ((d,.slice (some ⟨b,0,none⟩) 1 1)::L) (Ent.vec (some ⟨b,0,none⟩) 1 1 e s cs::H) (wpAnyH P .any l.toArray (OnlyN M) (Wd S w0 Hr) fuel (listed.setIfInBounds i true))) : G N ds S w0 L H (wpAnyH P .any l.toArray (OnlyN M) (Wd S w0 Hr) (fuel + 1) listed) :=
 h_val i rfl hr fun a w hS=>by
  obtain ⟨w',h1,h2⟩:=build1_run (P:=P) (d:=d) (ty:=ty) (pos:=pos) (aft:=aft) (h:=h) (hx:=hx) (hv:=hv) (hl:=hl) hs a w hS
  exact ⟨_,w',h1,h2.sub (hH.trans (List.sublist_cons_self _ _)),k _ hS.wd.size _ _ ⟨hS.fr.putOk hd _,h2⟩⟩
end
section
variable {P : Program} {N : Nat} {ds : List Deferred} {S : Nat→Prop} {w0 : World} {L L' : List (Nat × Value)} {H H' Hr : List Ent} {Q : Exit→Act→World→Prop} {x y : Operand} {M : Act→World→Prop} {l : List Oper} {fuel : Nat} {listed : Array Bool}
theorem h_one (i : Nat) (hr : decide (Region.ready .any l.toArray listed = [i]) = true) (h1 : G N ds S w0 L H (oneH P l M (Wd S w0 Hr) fuel listed i)) :
  G N ds S w0 L H (wpAnyH P .any l.toArray (OnlyN M) (Wd S w0 Hr) (fuel + 1) listed):=fun a w hS =>
 wpAnyH_all (of_decide_eq_true hr) (by simp) fun i' hi'=>by
  simp only [List.mem_cons,List.not_mem_nil,or_false] at hi'
  rcases hi' with rfl
  exact h1 a w hS
theorem g_drawM {id n : Nat} [hl : LenO l n] (Hr : List Ent) (M : Act→World→Prop) (hm : P.follows .mixedOrders = true) (_hH : Hr.Sublist H)
  (h : G N ds S w0 L H (wpAnyH P .any l.toArray (OnlyN M) (Wd S w0 Hr) n (Array.replicate n false))) (k : ∀ a w,M a w→Q .normal a w) : G N ds S w0 L H (Code.wpIn (FW none) 0 P (Code.region id l.toArray true) Q):=fun a w hS=>by
 refine Code.wpIn_mono (Q:=OnlyN M) (fun e a' w' hq=>?_) (g_drawH (Q:=OnlyN M) Hr hm _hH h a w hS)
 cases e <;> first|exact k _ _ hq|exact False.elim hq
def MemX {α : Type} (N : Nat) (ds : List Deferred) (S : Nat→Prop) (w0 : World) (φ : α→Prop) (Lx : α→List (Nat × Value)) (Hx : α→List Ent) : Act→World→Prop:=fun a w=>∃ x,φ x∧St N ds S w0 (Lx x) (Hx x) a w
theorem g_mem {α : Type} {φ : α→Prop} {Lx : α→List (Nat × Value)} {Hx : α→List Ent} (x : α) (hx : φ x) (hL : allIn L (Lx x)) (hH : (Hx x).Sublist H) : G N ds S w0 L H (MemX N ds S w0 φ Lx Hx) :=
 fun _ _ hS=>⟨x,hx,hS.fix hL hH⟩
theorem g_drawX {α : Type} {id n : Nat} [hl : LenO l n] (Hr : List Ent) (φ : α→Prop) (Lx : α→List (Nat × Value)) (Hx : α→List Ent) (hm : P.follows .mixedOrders = true) (hH : Hr.Sublist H)
  (h : G N ds S w0 L H (wpAnyH P .any l.toArray (OnlyN (MemX N ds S w0 φ Lx Hx)) (Wd S w0 Hr) n (Array.replicate n false))) (k : ∀ x,φ x→G N ds S w0 (Lx x) (Hx x) (Q .normal)) : G N ds S w0 L H (Code.wpIn (FW none) 0 P (Code.region id l.toArray true) Q) :=
 g_drawM Hr _ hm hH h fun a w ⟨x,hx,hS⟩=>k x hx a w hS
theorem o_alloc {d ty T : Nat} {z : Value} {cs : List Value} {pos : String} {aft : Array Go.Edge} (i0 : Nat) [ho : ListAt l i0 ⟨some d,.alloc T,ty,pos,aft,none⟩] [h : ZeroVal P T z] [hv : CellsOf z cs] (hd : okPut d N L = true) (hH : Hr.Sublist H)
  (k : ∀ b,w0.heap.size ≤ b→G N ds S w0 ((d,.pointer (some ⟨b,0,none⟩))::L) (Ent.box b cs T::H) (wpAnyH P .any l.toArray (OnlyN M) (Wd S w0 Hr) fuel (listed.setIfInBounds i0 true))) : G N ds S w0 L H (oneH P l M (Wd S w0 Hr) fuel listed i0) :=
 o_valH i0 rfl fun a w hS=>by
  have hv:=hS.wd.box cs T
  have e : cs.toArray = z.cells:=by rw [← ‹CellsOf z cs›.eq]
  rw [e] at hv
  exact ⟨.pointer (some ⟨w.heap.size,0,none⟩),w.alloc (.cells z.cells T),by simp [execOp,Instr.alloc,newVar,newRow,h.run],hv.sub (hH.trans (List.sublist_cons_self _ _)),k _ hS.wd.size _ _ ⟨hS.fr.putOk hd _,hv⟩⟩
theorem o_callE {α : Type} {val : α→Value} {E : α→List Ent} {φ : α→Prop} {d ty f : Nat} (i : Nat) {args : List Operand} {vs : List Value} {tys : Array Nat} {pos : String} {aft : Array Go.Edge} [ho : ListAt l i ⟨some d,.call { callee:=.value (.func f),args:=args.toArray,argTypes:=tys },ty,pos,aft,none⟩] [h : EnterOk P f] [hx : Evs L args vs] (hd : okPut d N L = true) (hH : Hr.Sublist H)
  (hc : ∀ w,Wd S w0 H w→Ret P f vs w fun u w'=>∃ x,u = val x∧Wd NoS w (E x) w'∧φ x)
  (k : ∀ x,φ x→G N ds S w0 ((d,val x)::L) (E x++H) (wpAnyH P .any l.toArray (OnlyN M) (Wd S w0 Hr) fuel (listed.setIfInBounds i true))) : G N ds S w0 L H (oneH P l M (Wd S w0 Hr) fuel listed i) :=
 o_call i (fun _ u w'=>∃ x,u = val x∧Wd S w0 (E x++H) w'∧φ x) hd (fun w hw=>(hc w hw).mono fun v w' ⟨x,h1,h2,h3⟩=>⟨x,h1,hw.more h2,h3⟩) fun v w w' hw hR=>by
  obtain ⟨x,rfl,h2,h3⟩:=hR
  exact ⟨h2.sub (hH.trans (List.sublist_append_right _ _)),fun a hF=>k x h3 a w' ⟨hF,h2⟩⟩
end
end Go.Proofs.YtdbljcahlpkgdaaDoor
