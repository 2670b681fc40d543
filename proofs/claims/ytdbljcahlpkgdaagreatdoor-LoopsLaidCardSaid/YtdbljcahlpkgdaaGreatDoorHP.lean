/- Texts joined: TrimP Thin. -/
import Derived.Test.YtdbljcahlpkgdaaGreatDoorGF
import Derived.Test.YtdbljcahlpkgdaaGreatDoorHN
namespace Go.Proofs.YtdbljcahlpkgdaaGreatDoor
open Go Go.RowKit
structure Whole (u : LUnit) : Prop where
 ok : CheckOk u
 nums : UNums u
 gnums : GNums u
theorem Whole.fit {u : LUnit} (h : Whole u) : UnitFit u:=unit_fit (check_light h.ok) (check_zero.2 h.ok) h.nums
theorem Whole.start {u : LUnit} (h : Whole u) : StartOk u:=check_start (check_zero.2 h.ok) h.gnums
end Go.Proofs.YtdbljcahlpkgdaaGreatDoor
