/- Texts joined: DoH DoI DoJ. -/
import Derived.Test.YtbmnkjaelfjlhaaDoorGI
import Derived.Test.YtbmnkjaelfjlhaaDoorGX
import Derived.Test.YtbmnkjaelfjlhaaDoorHJ
import Derived.Test.YtbmnkjaelfjlhaaDoorHR
import Derived.Test.YtbmnkjaelfjlhaaDoorHS
/- turneryref3.spare: the first that nobody needs, or none. -/
namespace Go.Proofs.YtbmnkjaelfjlhaaDoor
open Go Go.RowKit
attribute [local irreducible] wpListIn Code.wpIn Exit.then Exit.inBlock bodyPost wpQuiet wpAnyIn wpAnyH bodyPostM oneH
set_option maxHeartbeats 4000000

structure NoCut (W : Int) (bl : List LBlock) (b : Nat) (B : LBlock) : Prop where
  ins : ∀ (i : Nat) x, B.list[i]? = some x → quietI W x = true → ∃ r : Nat, x.dst = r ∧ LiveS bl r b (i + 1 : Nat)
  phi : ∀ (i : Nat) p, B.phis[i]? = some p → ∃ r : Nat, p.dst = r ∧ LiveS bl r b 0
section
variable {P : Program} {N : Nat} {ds : List Deferred} {S : Nat → Prop} {w0 : World} {L : List (Nat × Value)} {H : List Ent}
end
end Go.Proofs.YtbmnkjaelfjlhaaDoor


/- turneryref3.Trim: what it makes of a function. -/
namespace Go.Proofs.YtbmnkjaelfjlhaaDoor
open Go Go.RowKit
attribute [local irreducible] wpListIn Code.wpIn Exit.then Exit.inBlock bodyPost wpQuiet wpAnyIn wpAnyH bodyPostM oneH
set_option maxHeartbeats 8000000

section
variable {N : Nat} {ds : List Deferred} {S : Nat → Prop} {w0 : World} {L : List (Nat × Value)} {H : List Ent} {p : Act → World → Prop}
end
end Go.Proofs.YtbmnkjaelfjlhaaDoor


/- The law LiveSays: live.Do returns the unit of which the reference has trimmed every function, or the fault. -/
namespace Go.Proofs.YtbmnkjaelfjlhaaDoor
open Go Go.RowKit
attribute [local irreducible] wpListIn Code.wpIn Exit.then Exit.inBlock bodyPost wpQuiet wpAnyIn wpAnyH bodyPostM oneH
set_option maxHeartbeats 4000000

end Go.Proofs.YtbmnkjaelfjlhaaDoor

