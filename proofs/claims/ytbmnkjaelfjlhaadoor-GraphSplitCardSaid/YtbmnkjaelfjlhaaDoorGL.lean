/- Texts joined: FrontA FrontB. -/
import Derived.Test.YtbmnkjaelfjlhaaDoorGG
/- Dominance frontiers, as plain facts; slices.Contains at numbers: what it returns. -/
namespace Go.Proofs.YtbmnkjaelfjlhaaDoor
open Go Go.RowKit
attribute [local irreducible] wpListIn Code.wpIn Exit.then Exit.inBlock bodyPost wpQuiet wpAnyIn wpAnyH
set_option maxHeartbeats 4000000

/-- i rules the nearest one of b -/
def Stop (bl : List LBlock) (b i : Nat) : Prop := ∃ c, IDom bl c b ∧ Dom bl i c
/-- a number as a block that is ruled -/
def DomI (bl : List LBlock) (i : Nat) (z : Int) : Prop := ∃ c : Nat, z = c ∧ Dom bl i c
noncomputable def wayM (bl : List LBlock) (z : Int) : Nat := if z < 0 then 0 else (domTo bl z.toNat bl.length).length
end Go.Proofs.YtbmnkjaelfjlhaaDoor


/- dom.FrontOf: what it returns. -/
namespace Go.Proofs.YtbmnkjaelfjlhaaDoor
open Go Go.RowKit
attribute [local irreducible] wpListIn Code.wpIn Exit.then Exit.inBlock bodyPost wpQuiet wpAnyIn wpAnyH
set_option maxHeartbeats 8000000

end Go.Proofs.YtbmnkjaelfjlhaaDoor

