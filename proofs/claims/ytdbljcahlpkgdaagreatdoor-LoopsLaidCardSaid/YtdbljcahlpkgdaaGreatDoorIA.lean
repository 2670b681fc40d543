/- Texts joined: TidyP TidyM TidyS. -/
import Derived.Test.YtdbljcahlpkgdaaGreatDoorGG
import Derived.Test.YtdbljcahlpkgdaaGreatDoorHN
import Derived.Test.YtdbljcahlpkgdaaGreatDoorHP
import Derived.Test.YtdbljcahlpkgdaaGreatDoorHW
namespace Go.Proofs.YtdbljcahlpkgdaaGreatDoor
open Go Go.RowKit
def retB : LBlock:=⟨[],[],1,⟨false,0⟩,[]⟩
def blkAt (bl : List LBlock) (b : Nat) : LBlock:=bl[b]?.getD retB
theorem blkAt_get {bl : List LBlock} {b : Nat} {B : LBlock} (h : bl[b]? = some B) : blkAt bl b = B:=by unfold blkAt; rw [h]; rfl
theorem get_blkAt {bl : List LBlock} {b : Nat} (h : b < bl.length) : bl[b]? = some (blkAt bl b):=by unfold blkAt; rw [List.getElem?_eq_getElem h]; rfl
end Go.Proofs.YtdbljcahlpkgdaaGreatDoor
