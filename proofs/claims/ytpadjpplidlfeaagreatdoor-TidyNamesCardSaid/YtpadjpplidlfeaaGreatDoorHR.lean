/- Texts joined: DoC DoD. -/
import Derived.Test.YtpadjpplidlfeaaGreatDoorGF
import Derived.Test.YtpadjpplidlfeaaGreatDoorGI
import Derived.Test.YtpadjpplidlfeaaGreatDoorHJ
import Derived.Test.YtpadjpplidlfeaaGreatDoorHQ
/- What live.once needs: its list as what the iterator yields; what is kept, by rows; returning behind rounds that deferred nothing. -/
namespace Go.Proofs.YtpadjpplidlfeaaGreatDoor
open Go Go.RowKit

section
variable {P : Program} {ro : Option Nat} {N : Nat} {ds : List Deferred} {S : Nat → Prop} {w0 : World} {L : List (Nat × Value)} {H : List Ent}
end
end Go.Proofs.YtpadjpplidlfeaaGreatDoor


/- live.once: what it turns a function into. -/
namespace Go.Proofs.YtpadjpplidlfeaaGreatDoor
open Go Go.RowKit
attribute [local irreducible] wpListIn Code.wpIn Exit.then Exit.inBlock bodyPost wpQuiet wpAnyIn wpAnyH bodyPostM oneH
set_option maxHeartbeats 8000000

end Go.Proofs.YtpadjpplidlfeaaGreatDoor

