/- Texts joined: RunB RunC RunD. -/
import Derived.Test.YtdbljcahlpkgdaaGreatDoorGF
import Derived.Test.YtdbljcahlpkgdaaGreatDoorGX
import Derived.Test.YtdbljcahlpkgdaaGreatDoorHA
namespace Go.Proofs.YtdbljcahlpkgdaaGreatDoor
open Go Go.RowKit
attribute [local irreducible] wpListIn Code.wpIn Exit.then Exit.inBlock bodyPost wpQuiet wpAnyIn wpAnyH bodyPostM oneH
set_option maxHeartbeats 8000000
instance nilOk {P : Program} {N : Nat} {ds : List Deferred} {S : Nat→Prop} {w0 : World} {L : List (Nat × Value)} {H : List Ent} {x : Operand} {p : Addr} [hx : Ev L x (.pointer (some p))] : RunsC P N ds S w0 L H (.nilCheck x) (.pointer (some p)) :=
 ⟨fun _ h=>(by cases h),fun _ _ h=>(by cases h),fun _ _ _ _ _ a w hF _=>by simp [execOp,hx.eq _ _ _ hF]⟩
end Go.Proofs.YtdbljcahlpkgdaaGreatDoor
