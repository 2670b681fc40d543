/- Texts joined: DoG. -/
import Derived.Test.YtbmnkjaelfjlhaaDoorHS
/- turnerylaw3.ends and the law LiveSteps: after live.Do no run takes more steps. -/
namespace Go.Proofs.YtbmnkjaelfjlhaaDoor
open Go Go.RowKit
attribute [local irreducible] wpListIn Code.wpIn Exit.then Exit.inBlock bodyPost wpQuiet wpAnyIn wpAnyH bodyPostM oneH
set_option maxHeartbeats 4000000

end Go.Proofs.YtbmnkjaelfjlhaaDoor

