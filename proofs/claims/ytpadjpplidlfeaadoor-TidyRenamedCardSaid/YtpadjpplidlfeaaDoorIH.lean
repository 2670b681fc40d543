/- Texts joined: TidyJ TidyK TidyL TidyD. -/
import Derived.Test.YtpadjpplidlfeaaDoorIB
namespace Go.Proofs.YtpadjpplidlfeaaDoor
open Go Go.RowKit
theorem nm_noMore {u v : LUnit} {o : Nat→List Nat} {L : Nat→List Int} (hu : Whole u) (hn : NmU u v o L) : NoMore u v:=fun inp f m hin h1 hm=>by
 obtain ⟨h2,h3⟩:=nm_runs hu hn inp hin f
 have h4 : resultM v inp m = resultM v inp f:=run_more v f m _ (by have:=h2.state; unfold resultM at this h1; rw [this]; exact h1) hm
 rw [h4]
 exact ⟨h2,by omega⟩
end Go.Proofs.YtpadjpplidlfeaaDoor
