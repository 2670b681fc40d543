/- Texts joined: DoE. -/
import Derived.Test.YtpadjpplidlfeaaGreatDoorGF
import Derived.Test.YtpadjpplidlfeaaGreatDoorGI
import Derived.Test.YtpadjpplidlfeaaGreatDoorHJ
import Derived.Test.YtpadjpplidlfeaaGreatDoorHQ
namespace Go.Proofs.YtpadjpplidlfeaaGreatDoor
open Go Go.RowKit
attribute [local irreducible] wpListIn Code.wpIn Exit.then Exit.inBlock bodyPost wpQuiet wpAnyIn wpAnyH bodyPostM oneH
set_option maxHeartbeats 4000000
theorem many_size (bl : List LBlock) : (manyL bl : Int) = sizeOfBs bl:=by
 unfold manyL sizeOfBs
 induction bl with
 | nil=>rfl
 | cons b bl ih=>simp only [List.map_cons,List.sum_cons,← ih]; omega
end Go.Proofs.YtpadjpplidlfeaaGreatDoor
