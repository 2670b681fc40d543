/- Texts joined: DoE. -/
import Derived.Test.YtpadjpplidlfeaaDoorGF
import Derived.Test.YtpadjpplidlfeaaDoorGI
import Derived.Test.YtpadjpplidlfeaaDoorHJ
import Derived.Test.YtpadjpplidlfeaaDoorHQ
namespace Go.Proofs.YtpadjpplidlfeaaDoor
open Go Go.RowKit
attribute [local irreducible] wpListIn Code.wpIn Exit.then Exit.inBlock bodyPost wpQuiet wpAnyIn wpAnyH bodyPostM oneH
set_option maxHeartbeats 4000000
theorem many_size (bl : List LBlock) : (manyL bl : Int) = sizeOfBs bl:=by
 unfold manyL sizeOfBs
 induction bl with
 | nil=>rfl
 | cons b bl ih=>simp only [List.map_cons,List.sum_cons,← ih]; omega
end Go.Proofs.YtpadjpplidlfeaaDoor
