/- Texts joined: TidyX TidyY TidyZ JoinR JnP ChainR. -/
import Derived.Test.YtpadjpplidlfeaaDoorGD
import Derived.Test.YtpadjpplidlfeaaDoorGE
import Derived.Test.YtpadjpplidlfeaaDoorGI
import Derived.Test.YtpadjpplidlfeaaDoorHA
import Derived.Test.YtpadjpplidlfeaaDoorHJ
import Derived.Test.YtpadjpplidlfeaaDoorHQ
import Derived.Test.YtpadjpplidlfeaaDoorHS
import Derived.Test.YtpadjpplidlfeaaDoorHW
import Derived.Test.YtpadjpplidlfeaaDoorIB
import Derived.Test.YtpadjpplidlfeaaDoorID
import Derived.Test.YtpadjpplidlfeaaDoorIE
import Derived.Test.YtpadjpplidlfeaaDoorIH
namespace Go.Proofs.YtpadjpplidlfeaaDoor
open Go Go.RowKit
attribute [local irreducible] wpListIn Code.wpIn Exit.then Exit.inBlock bodyPost wpQuiet wpAnyIn wpAnyH bodyPostM oneH
set_option maxHeartbeats 8000000
section
variable {P : Program} {N : Nat} {ds : List Deferred} {S : Nat→Prop} {w0 : World} {L L' : List (Nat × Value)} {H H' Hr : List Ent} {Q : Exit→Act→World→Prop} {x y : Operand} {M : Act→World→Prop} {l : List Oper} {fuel : Nat} {listed : Array Bool}
theorem h_callGE {α : Type} {val : α→Value} {E : α→List Ent} {φ : α→Prop} {d ty f j t : Nat} (i : Nat) {want : Bool} {args : List Operand} {vs : List Value} {tys : Array Nat} {pos : String} {aft : Array Go.Edge} [ho : ListAt l i ⟨some d,.call { callee:=.value (.func f),args:=args.toArray,argTypes:=tys },ty,pos,aft,some (j,want)⟩] [hj : DstOf l.toArray j t] [hb : SlotIs L t (.bool want)] [h : EnterOk P f] [hx : Evs L args vs] (hd : okPut d N L = true)
  (hr : decide (Region.ready .any l.toArray listed = [i]) = true) (hH : Hr.Sublist H)
  (hc : ∀ w,Wd S w0 H w→Ret P f vs w fun u w'=>∃ x,u = val x∧Wd NoS w (E x) w'∧φ x)
  (k : ∀ x,φ x→G N ds S w0 ((d,val x)::L) (E x++H) (wpAnyH P .any l.toArray (OnlyN M) (Wd S w0 Hr) fuel (listed.setIfInBounds i true))) : G N ds S w0 L H (wpAnyH P .any l.toArray (OnlyN M) (Wd S w0 Hr) (fuel + 1) listed):=by
 intro a w hS
 refine wpAnyH_all (of_decide_eq_true hr) (by simp) fun i' hi'=>?_
 simp only [List.mem_singleton] at hi'
 subst hi'
 unfold wpOp
 rw [show l.toArray[i']? = some ⟨some d,.call { callee:=.value (.func f),args:=args.toArray,argTypes:=tys },ty,pos,aft,some (j,want)⟩ by simpa using ho.at']
 simp only
 rw [if_pos (show Region.wanted (⟨some d,.call { callee:=.value (.func f),args:=args.toArray,argTypes:=tys },ty,pos,aft,some (j,want)⟩ : Oper) (yielded l.toArray a.tmps) = true by
  simp only [Region.wanted,hS.fr.yield (ops:=l.toArray) (j:=j) (b:=want)]
  simp)]
 left
 unfold Oper.wp
 have hrun : (execOp a.eval ⟨some d,.call { callee:=.value (.func f),args:=args.toArray,argTypes:=tys },ty,pos,aft,some (j,want)⟩).run P w = .ok (.enter f vs.toArray) w:=by
  simp [execOp,resolve,Act.eval,Deferred.ofValue,invoke,hx.eq _ _ _ hS.fr,h.run]
 rw [hrun]
 refine Calls.mono (callsIn_wide.1 (hc w hS.wd)) fun e w' ⟨v,he,q,hv,h2,h3⟩=>?_
 subst he hv
 have hw2 : Wd S w0 (E q++H) w':=hS.wd.more h2
 exact ⟨hw2.sub (hH.trans (List.sublist_append_right _ _)),k q h3 _ w' ⟨hS.fr.putOk hd _,hw2⟩⟩
end
end Go.Proofs.YtpadjpplidlfeaaDoor
