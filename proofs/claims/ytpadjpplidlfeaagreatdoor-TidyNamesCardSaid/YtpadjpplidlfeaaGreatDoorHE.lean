/- Texts joined: Grow RunH RunS. -/
import Derived.Test.YtpadjpplidlfeaaGreatDoorGD
import Derived.Test.YtpadjpplidlfeaaGreatDoorGX
import Derived.Test.YtpadjpplidlfeaaGreatDoorHD
/- append of so many zeros: append(s, make([]T, n)...). -/
namespace Go.Proofs.YtpadjpplidlfeaaGreatDoor
open Go Go.RowKit
set_option maxHeartbeats 2000000

section
variable {P : Program} {N : Nat} {ds : List Deferred} {S : Nat → Prop} {w0 w : World} {L : List (Nat × Value)} {H Hr : List Ent} {x y : Operand} {M : Act → World → Prop} {l : List Oper} {fuel : Nat} {listed : Array Bool}
end
end Go.Proofs.YtpadjpplidlfeaaGreatDoor


/- What run.Counts calls before the first step. -/
namespace Go.Proofs.YtpadjpplidlfeaaGreatDoor
open Go Go.RowKit
attribute [local irreducible] wpListIn Code.wpIn Exit.then Exit.inBlock bodyPost wpQuiet wpAnyIn wpAnyH bodyPostM oneH
set_option maxHeartbeats 8000000

end Go.Proofs.YtpadjpplidlfeaaGreatDoor


/- The start of a run. -/
namespace Go.Proofs.YtpadjpplidlfeaaGreatDoor
open Go Go.RowKit
set_option maxHeartbeats 2000000

/-- the rows of the blocks ahead of each, where they lie -/
structure TabR where
  a : Option Addr
  n : Nat
  c : Nat
  fp : Nat → Prop
  l : List (List Int)
section
variable {P : Program} {ro : Option Nat} {N : Nat} {ds : List Deferred} {S : Nat → Prop} {w0 : World} {L : List (Nat × Value)} {H : List Ent} {Q : Exit → Act → World → Prop}
end
/-- what is so of a unit that passes the check -/
structure StartOk (u : LUnit) : Prop where
  globs : u.globals.length ≤ 10
  glob : ∀ g ∈ u.globals, (g.init.length : Int) ≤ g.size ∧ g.size ≤ 200
  init : ∀ g ∈ u.globals, ∀ x ∈ g.init, inI x
  funcs : u.funcs.length ≤ 10
  main : ∃ (fm : Nat) (M : LFunc), mainAt u.funcs = fm ∧ u.funcs[fm]? = some M
end Go.Proofs.YtpadjpplidlfeaaGreatDoor

