/- Texts joined: SplitA SplitB SplitS. -/
import Derived.Test.YtpadjpplidlfeaaDoorGG
import Derived.Test.YtpadjpplidlfeaaDoorGI
import Derived.Test.YtpadjpplidlfeaaDoorHJ
import Derived.Test.YtpadjpplidlfeaaDoorHS
import Derived.Test.YtpadjpplidlfeaaDoorHV
namespace Go.Proofs.YtpadjpplidlfeaaDoor
open Go Go.RowKit
theorem preds_srt (bl : List LBlock) (t : Nat) : (preds bl t).Pairwise (· < ·):=List.pairwise_lt_range.sublist List.filter_sublist
theorem preds_lt (bl : List LBlock) (t : Nat) : ∀ q ∈ preds bl t,q < bl.length:=fun q hq=>List.mem_range.1 (List.mem_filter.1 hq).1
end Go.Proofs.YtpadjpplidlfeaaDoor
