/- Texts joined: DoF DoG. -/
import Derived.Test.YtpadjpplidlfeaaGreatDoorHJ
import Derived.Test.YtpadjpplidlfeaaGreatDoorHN
import Derived.Test.YtpadjpplidlfeaaGreatDoorHS
import Derived.Test.YtpadjpplidlfeaaGreatDoorIQ
namespace Go.Proofs.YtpadjpplidlfeaaGreatDoor
open Go Go.RowKit
attribute [local irreducible] wpListIn Code.wpIn Exit.then Exit.inBlock bodyPost wpQuiet wpAnyIn wpAnyH bodyPostM oneH
set_option maxHeartbeats 4000000
theorem noMore_comes {u v : LUnit} (h : NoMore u v) (hv : CheckOk v) {inp : List Int} (hin : ∀ x ∈ inp,inI x) {f m : Nat} (hc : (countsE u inp.length f).1 = 0) (hs : (resultM u inp f).state ≠ 1) (hf : f ≤ m) (hm : m ≤ 100000) : Comes u v inp f m:=by
 obtain ⟨_,hil,_⟩:=countsE_zero hc
 obtain ⟨h1,_⟩:=h inp f m hin hs hf
 refine ⟨?_,h1.state,h1.value,h1.out⟩
 unfold countsE
 rw [if_neg (by simp [check_zero.2 hv]),if_neg (by omega),if_neg (by simp [within]; omega)]
end Go.Proofs.YtpadjpplidlfeaaGreatDoor
