/- Texts joined: Know BackL Table. -/
import Derived.Test.YtbmnkjaelfjlhaaDoorGC
import Derived.Test.YtbmnkjaelfjlhaaDoorGD
import Derived.Test.YtbmnkjaelfjlhaaDoorGE
import Derived.Test.YtbmnkjaelfjlhaaDoorGF
import Derived.Test.YtbmnkjaelfjlhaaDoorGI
import Derived.Test.YtbmnkjaelfjlhaaDoorGK
import Derived.Test.YtbmnkjaelfjlhaaDoorGL
import Derived.Test.YtbmnkjaelfjlhaaDoorGM
/- A callee that hands back a slice of new memory that is only read from then on. The unit 'ring'. -/
namespace Go.Proofs.YtbmnkjaelfjlhaaDoor
open Go Go.RowKit

section
variable {P : Program} {ro : Option Nat} {N : Nat} {ds : List Deferred} {S : Nat → Prop} {w0 w : World} {L : List (Nat × Value)} {H E : List Ent} {ops : Array Oper} {rest : List Oper} {Q : Exit → Act → World → Prop}
end
attribute [local irreducible] wpListIn Code.wpIn Exit.then Exit.inBlock bodyPost wpQuiet wpAnyIn
set_option maxHeartbeats 4000000
end Go.Proofs.YtbmnkjaelfjlhaaDoor


/- graph.Back, turneryref3.Back: what they return; the law GraphBacks, walked. -/
namespace Go.Proofs.YtbmnkjaelfjlhaaDoor
open Go Go.RowKit
attribute [local irreducible] wpListIn Code.wpIn Exit.then Exit.inBlock bodyPost wpQuiet wpAnyIn wpAnyH bodyPostM
set_option maxHeartbeats 4000000

end Go.Proofs.YtbmnkjaelfjlhaaDoor


/- dom.Table: what it returns; the law DomTables, walked. -/
namespace Go.Proofs.YtbmnkjaelfjlhaaDoor
open Go Go.RowKit
attribute [local irreducible] wpListIn Code.wpIn Exit.then Exit.inBlock bodyPost wpQuiet wpAnyIn wpAnyH bodyPostM
set_option maxHeartbeats 8000000

section
variable {P : Program} {ro : Option Nat} {N : Nat} {ds : List Deferred} {S : Nat → Prop} {w0 w : World} {L : List (Nat × Value)} {H : List Ent} {ops : Array Oper} {rest : List Oper} {Q : Exit → Act → World → Prop}
end
/-- those that rule b from b up to, but not with, z -/
structure ChainUp (bl : List LBlock) (b : Nat) (z : Int) (l : List Int) : Prop where
  nodup : l.Nodup
  mem : ∀ x : Int, x ∈ l ↔ ∃ c : Nat, x = c ∧ Dom bl c b ∧ ¬ DomI bl c z
  len : l.length + wayM bl z ≤ bl.length
end Go.Proofs.YtbmnkjaelfjlhaaDoor

