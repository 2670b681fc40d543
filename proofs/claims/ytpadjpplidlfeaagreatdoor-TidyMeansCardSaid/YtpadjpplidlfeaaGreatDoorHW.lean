/- Texts joined: SplitA SplitB SplitS. -/
import Derived.Test.YtpadjpplidlfeaaGreatDoorGG
import Derived.Test.YtpadjpplidlfeaaGreatDoorGI
import Derived.Test.YtpadjpplidlfeaaGreatDoorHJ
import Derived.Test.YtpadjpplidlfeaaGreatDoorHS
import Derived.Test.YtpadjpplidlfeaaGreatDoorHV
namespace Go.Proofs.YtpadjpplidlfeaaGreatDoor
open Go Go.RowKit
theorem preds_srt (bl : List LBlock) (t : Nat) : (preds bl t).Pairwise (· < ·):=List.pairwise_lt_range.sublist List.filter_sublist
theorem preds_lt (bl : List LBlock) (t : Nat) : ∀ q ∈ preds bl t,q < bl.length:=fun q hq=>List.mem_range.1 (List.mem_filter.1 hq).1
end Go.Proofs.YtpadjpplidlfeaaGreatDoor
