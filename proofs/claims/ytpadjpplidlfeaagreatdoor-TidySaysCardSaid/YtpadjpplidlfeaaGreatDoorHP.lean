/- Texts joined: TrimP Thin. -/
import Derived.Test.YtpadjpplidlfeaaGreatDoorGF
import Derived.Test.YtpadjpplidlfeaaGreatDoorHN
namespace Go.Proofs.YtpadjpplidlfeaaGreatDoor
open Go Go.RowKit
def putB (X : LFunc) (bl : List LBlock) : LFunc:={ X with blocks:=bl }
end Go.Proofs.YtpadjpplidlfeaaGreatDoor
