/- Texts joined: RunA. -/
import Derived.Test.YtpadjpplidlfeaaGreatDoorGD
import Derived.Test.YtpadjpplidlfeaaGreatDoorHA
/- core.Two: what it returns. -/
namespace Go.Proofs.YtpadjpplidlfeaaGreatDoor
open Go Go.RowKit
attribute [local irreducible] wpListIn Code.wpIn Exit.then Exit.inBlock bodyPost wpQuiet wpAnyIn wpAnyH
set_option maxHeartbeats 8000000
section
variable {P : Program} {N : Nat} {ds : List Deferred} {S : Nat → Prop} {w0 : World} {L : List (Nat × Value)} {H : List Ent} {x y : Operand}
end
end Go.Proofs.YtpadjpplidlfeaaGreatDoor

