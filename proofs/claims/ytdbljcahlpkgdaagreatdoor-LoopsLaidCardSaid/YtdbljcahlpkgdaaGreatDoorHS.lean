/- Texts joined: DoE. -/
import Derived.Test.YtdbljcahlpkgdaaGreatDoorGB
import Derived.Test.YtdbljcahlpkgdaaGreatDoorGF
import Derived.Test.YtdbljcahlpkgdaaGreatDoorGG
import Derived.Test.YtdbljcahlpkgdaaGreatDoorGI
import Derived.Test.YtdbljcahlpkgdaaGreatDoorHA
import Derived.Test.YtdbljcahlpkgdaaGreatDoorHI
import Derived.Test.YtdbljcahlpkgdaaGreatDoorHJ
import Derived.Test.YtdbljcahlpkgdaaGreatDoorHN
import Derived.Test.YtdbljcahlpkgdaaGreatDoorHP
namespace Go.Proofs.YtdbljcahlpkgdaaGreatDoor
open Go Go.RowKit
attribute [local irreducible] wpListIn Code.wpIn Exit.then Exit.inBlock bodyPost wpQuiet wpAnyIn wpAnyH bodyPostM oneH
set_option maxHeartbeats 4000000
theorem check_small {u : LUnit} (hc : CheckOk u) {X : LFunc} (hX : X ∈ u.funcs) : (0 ≤ X.params∧X.params ≤ 6)∧(0 ≤ X.regs∧X.regs ≤ 100)∧X.blocks.length ≤ 40∧sizeOfBs X.blocks ≤ 300:=by
 obtain ⟨j,hj⟩:=List.getElem?_of_mem hX
 have h0:=hc.head j (List.getElem?_eq_some_iff.1 hj).1
 unfold headAt at0 at h0
 rw [hj] at h0
 obtain ⟨_,_,h3,h4,h5,h6⟩:=head_zero.1 h0
 exact ⟨h3,by omega,h5.2,h6⟩
theorem many_size (bl : List LBlock) : (manyL bl : Int) = sizeOfBs bl:=by
 unfold manyL sizeOfBs
 induction bl with
 | nil=>rfl
 | cons b bl ih=>simp only [List.map_cons,List.sum_cons,← ih]; omega
end Go.Proofs.YtdbljcahlpkgdaaGreatDoor
