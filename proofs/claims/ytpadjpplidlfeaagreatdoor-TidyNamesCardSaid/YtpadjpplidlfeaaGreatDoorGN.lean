/- Texts joined: Know. -/
import Derived.Test.YtpadjpplidlfeaaGreatDoorGC
import Derived.Test.YtpadjpplidlfeaaGreatDoorGE
import Derived.Test.YtpadjpplidlfeaaGreatDoorGI
import Derived.Test.YtpadjpplidlfeaaGreatDoorGM
/- A callee that hands back a slice of new memory that is only read from then on. The unit 'ring'. -/
namespace Go.Proofs.YtpadjpplidlfeaaGreatDoor
open Go Go.RowKit

section
variable {P : Program} {ro : Option Nat} {N : Nat} {ds : List Deferred} {S : Nat → Prop} {w0 w : World} {L : List (Nat × Value)} {H E : List Ent} {ops : Array Oper} {rest : List Oper} {Q : Exit → Act → World → Prop}
end
attribute [local irreducible] wpListIn Code.wpIn Exit.then Exit.inBlock bodyPost wpQuiet wpAnyIn
set_option maxHeartbeats 4000000
end Go.Proofs.YtpadjpplidlfeaaGreatDoor

