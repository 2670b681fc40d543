/- Texts joined: Round. -/
import Derived.Test.YtdbljcahlpkgdaaDoorGE
import Derived.Test.YtdbljcahlpkgdaaDoorKC
namespace Go.Proofs.YtdbljcahlpkgdaaDoor
open Go Go.RowKit
attribute [local irreducible] wpListIn Code.wpIn Exit.then Exit.inBlock bodyPost wpQuiet wpAnyIn wpAnyH bodyPostM
set_option maxHeartbeats 8000000
section
variable {P : Program} {N : Nat} {ds : List Deferred} {S : Nat→Prop} {w0 : World} {L : List (Nat × Value)} {H Hr : List Ent} {M : Act→World→Prop} {l : List Oper} {fuel : Nat} {listed : Array Bool}
theorem h_takeU {d ty j t : Nat} (i : Nat) {want : Bool} {pos : String} {aft : Array Go.Edge} {op : Op} [ho : ListAt l i ⟨some d,op,ty,pos,aft,some (j,want)⟩] [hj : DstOf l.toArray j t] [hb : SlotIs L t undef] (hd : okPut d N L = true)
  (hr : ((Region.noSelect l.toArray && Region.free .any l.toArray listed i) && (Region.ready .any l.toArray listed).contains i) = true) (hH : Hr.Sublist H)
  (k : G N ds S w0 ((d,undef)::L) H (wpAnyH P .any l.toArray (OnlyN M) (Wd S w0 Hr) fuel (listed.setIfInBounds i true))) : G N ds S w0 L H (wpAnyH P .any l.toArray (OnlyN M) (Wd S w0 Hr) (fuel + 1) listed):=fun a w hS=>by
 simp only [Bool.and_eq_true] at hr
 refine wpAnyH_take (i:=i) (oi:=⟨some d,op,ty,pos,aft,some (j,want)⟩) (v:=undef) (by simpa using ho.at') hr.1.1 hr.1.2 hr.2 (fun c a w hh=>hh) (.inr ⟨?_,rfl⟩) (hS.wd.sub hH) (k _ _ ⟨hS.fr.putOk hd undef,hS.wd⟩)
 simp only [Region.wanted,hS.fr.yieldU (ops:=l.toArray) (j:=j)]
 rfl
end
end Go.Proofs.YtdbljcahlpkgdaaDoor
