/- Texts joined: Tame LoopQ LoopR LoopS TameL LoopT LoopU Deep. -/
import Derived.Test.YtdbljcahlpkgdaaDoorGM
import Derived.Test.YtdbljcahlpkgdaaDoorKA
import Derived.Test.YtdbljcahlpkgdaaDoorKB
namespace Go.Proofs.YtdbljcahlpkgdaaDoor
open Go Go.RowKit
attribute [local irreducible] wpListIn Code.wpIn Exit.then Exit.inBlock bodyPost wpQuiet wpAnyIn wpAnyH bodyPostM
set_option maxHeartbeats 4000000
theorem rules_c (v : Value) (bl : List LBlock) (hok : GoodB bl) (hpos : 0 < bl.length) (a b : Nat) (hb : Rch bl (-1) 0 b) (w0 : World) (hv : SlAt w0 v 1 ((List.range bl.length).map (treeN bl)) IntV) : RetV Tryd.prog 60 [v,.int .i64 a,.int .i64 b] w0 (.bool (open Classical in decide (Dom bl a b))):=by
 classical
 obtain ⟨va,vn,vc,vb,vo,rfl,hn,hnc,hnb,hc,hva,hel⟩:=hv
 rw [List.length_map,List.length_range] at hn
 refine ret_enter Tryd.func60 rfl Tryd.ntmps60 rfl (Wd.nil NoS w0) ?_
 repeat (first|refine g_op rfl ?_|refine g_then ?_|refine g_nil ?_|refine g_region ?_|refine g_seq ?_|refine g_block ?_)
 refine g_loop (fun (z : Int)=>((z < 0∧z = -1) ∨ ∃ c : Nat,z = c∧Dom bl c b)∧(Dom bl a b ↔ DomI bl a z)) (fun z=>[(2,.int .i64 z),(0,.slice va vn vc),(1,.int .i64 a)]) (fun _=>[]) (fun z=>wayM bl z) (b : Int) ⟨.inr ⟨b,rfl,.refl hb⟩,⟨fun h=>⟨b,rfl,h⟩,fun ⟨c,e,h⟩=>(show b = c by omega) ▸ h⟩⟩ (g_done (by repeat (first|exact trivial|refine ⟨rfl,?_⟩)) (by simp)) fun z ⟨hz,hd⟩=>?_
 repeat (first|refine g_op rfl ?_|refine g_region ?_|refine g_seq ?_)
 rcases hz with ⟨hz0,rfl⟩|⟨c,rfl,hcd⟩
 ·rw [show decide ((0 : Int) ≤ -1) = false from rfl]
  repeat (first|refine g_op rfl ?_|refine g_then ?_|refine g_nil ?_|refine g_region ?_|refine g_seq ?_|refine g_pass rfl ?_|refine g_condF ?_|refine g_exit ?_|refine g_thenExit ?_|refine g_exitHere ?_|refine g_ret ?_)
  refine g_retV rfl ?_
  rw [decide_eq_false fun h=>?_,decide_eq_false fun h=>?_]
  ·obtain ⟨d,hd1,_⟩:=hd.1 h
   omega
  ·omega
 ·rw [show decide ((0 : Int) ≤ (c : Int)) = true by simp]
  have hcn : c < vn:=by have:=hok.rch hpos hcd.1; omega
  repeat (first|refine g_op rfl ?_|refine g_then ?_|refine g_nil ?_|refine g_open ?_)
  refine g_cond (fun h1=>?_) (fun h1=>?_)
  ·have hne : c ≠ a:=by have:=h1; simp at this; omega
   have hlc : LtIs c vn:=⟨hcn⟩
   obtain ⟨_,hcs,rfl,_⟩:=hel c (treeN bl c) (by rw [List.getElem?_map,List.getElem?_range (by omega)]; rfl)
   have had : AddrIs va vb vo:=⟨hva (fun e=>by have:=congrArg List.length e; rw [List.length_map,List.length_range,List.length_nil] at this; omega)⟩
   have hci : CellsIs w0 vb (vo + c * 1) _:=⟨hcs⟩
   repeat (first|refine g_op rfl ?_|refine g_then ?_|refine g_nil ?_|refine g_region ?_|refine g_opS rfl ?_|refine g_inBlock ?_|refine g_block ?_|refine g_skip ?_)
   refine g_next (treeN bl c) ⟨treeN_dom hok hpos hcd,hd.trans ?_⟩ (wayM_lt hok hpos hcd.1) (by repeat (first|exact trivial|refine ⟨rfl,?_⟩)) (by simp)
   have h3:=domI_tree hok hpos (a:=c) (i:=a) hcd.1
   exact ⟨fun ⟨d,e,h⟩=>(h3.1 ((show c = d by omega) ▸ h)).resolve_right (Ne.symm hne),fun h=>⟨c,rfl,h3.2 (.inl h)⟩⟩
  ·have he : c = a:=by have:=h1; simp at this; omega
   subst he
   repeat (first|refine g_op rfl ?_|refine g_then ?_|refine g_nil ?_|refine g_region ?_|refine g_seq ?_|refine g_exit ?_|refine g_thenExit ?_|refine g_exitHere ?_|refine g_ret ?_)
   refine g_retV rfl ?_
   rw [decide_eq_true rfl,decide_eq_true (hd.2 ⟨c,rfl,.refl hcd.1⟩)]
end Go.Proofs.YtdbljcahlpkgdaaDoor
namespace Go.Proofs.YtdbljcahlpkgdaaDoor
open Go Go.RowKit
section
variable {P : Program} {N : Nat} {ds : List Deferred} {S : Nat→Prop} {w0 : World} {L L' : List (Nat × Value)} {H H' Hr : List Ent} {Q : Exit→Act→World→Prop} {x y : Operand} {M : Act→World→Prop} {l : List Oper} {fuel : Nat} {listed : Array Bool}
theorem h_callEG {α : Type} {val : α→Value} {E : α→List Ent} {φ : α→Prop} {d ty f j t : Nat} (i : Nat) {want : Bool} {args : List Operand} {vs : List Value} {tys : Array Nat} {pos : String} {aft : Array Go.Edge} [ho : ListAt l i ⟨some d,.call { callee:=.value (.func f),args:=args.toArray,argTypes:=tys },ty,pos,aft,some (j,want)⟩] [hj : DstOf l.toArray j t] [hb : SlotIs L t (.bool want)] [h : EnterOk P f] [hx : Evs L args vs] (hd : okPut d N L = true)
  (hr : decide (Region.ready .any l.toArray listed = [i]) = true) (hH : Hr.Sublist H)
  (hc : ∀ w,Wd S w0 H w→Ret P f vs w fun u w'=>∃ x,u = val x∧Wd NoS w (E x) w'∧φ x)
  (k : ∀ x,φ x→G N ds S w0 ((d,val x)::L) (E x++H) (wpAnyH P .any l.toArray (OnlyN M) (Wd S w0 Hr) fuel (listed.setIfInBounds i true))) : G N ds S w0 L H (wpAnyH P .any l.toArray (OnlyN M) (Wd S w0 Hr) (fuel + 1) listed):=by
 intro a w hS
 refine wpAnyH_all (of_decide_eq_true hr) (by simp) fun i' hi'=>?_
 simp only [List.mem_singleton] at hi'
 subst hi'
 unfold wpOp
 rw [show l.toArray[i']? = some ⟨some d,.call { callee:=.value (.func f),args:=args.toArray,argTypes:=tys },ty,pos,aft,some (j,want)⟩ by simpa using ho.at']
 simp only
 rw [if_pos (show Region.wanted (⟨some d,.call { callee:=.value (.func f),args:=args.toArray,argTypes:=tys },ty,pos,aft,some (j,want)⟩ : Oper) (yielded l.toArray a.tmps) = true by
  simp only [Region.wanted,hS.fr.yield (ops:=l.toArray) (j:=j) (b:=want)]
  simp)]
 left
 unfold Oper.wp
 have hrun : (execOp a.eval ⟨some d,.call { callee:=.value (.func f),args:=args.toArray,argTypes:=tys },ty,pos,aft,some (j,want)⟩).run P w = .ok (.enter f vs.toArray) w:=by
  simp [execOp,resolve,Act.eval,Deferred.ofValue,invoke,hx.eq _ _ _ hS.fr,h.run]
 rw [hrun]
 refine Calls.mono (callsIn_wide.1 (hc w hS.wd)) fun e w' ⟨v,he,q,hv,h2,h3⟩=>?_
 subst he hv
 have hw2 : Wd S w0 (E q++H) w':=hS.wd.more h2
 exact ⟨hw2.sub (hH.trans (List.sublist_append_right _ _)),k q h3 _ w' ⟨hS.fr.putOk hd _,hw2⟩⟩
end
attribute [local irreducible] wpListIn Code.wpIn Exit.then Exit.inBlock bodyPost wpQuiet wpAnyIn wpAnyH bodyPostM
set_option maxHeartbeats 8000000
end Go.Proofs.YtdbljcahlpkgdaaDoor
