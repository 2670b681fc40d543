/- Texts joined: RangeO SortC Backs Pair BacksB PostC BackL Table. -/
import Derived.ChangeKeysEq
import Derived.Shelf.Slices.In.SortNone
import Derived.Shelf.Sort.Plain
import Derived.Test.YtdbljcahlpkgdaaDoorGB
import Derived.Test.YtdbljcahlpkgdaaDoorGD
import Derived.Test.YtdbljcahlpkgdaaDoorGE
import Derived.Test.YtdbljcahlpkgdaaDoorGF
import Derived.Test.YtdbljcahlpkgdaaDoorGG
import Derived.Test.YtdbljcahlpkgdaaDoorGI
import Derived.Test.YtdbljcahlpkgdaaDoorGM
import Derived.Test.YtdbljcahlpkgdaaDoorGN
import Derived.Test.YtdbljcahlpkgdaaDoorKB
namespace Go.Proofs.YtdbljcahlpkgdaaDoor
open Go Go.RowKit
attribute [local irreducible] wpListIn Code.wpIn Exit.then Exit.inBlock bodyPost wpQuiet wpAnyIn wpAnyH bodyPostM
set_option maxHeartbeats 8000000
theorem domL_len (bl : List LBlock) : (domL bl).length = bl.length:=by unfold domL gridL; rw [List.length_map,List.length_range]
theorem refTableK (nm pa re : Value) (bl : List LBlock) (bs : Value) (hbsl : ∃ a n c,bs = .slice a n c) (w0 : World) (hbs : SlAt w0 bs 6 bl BlockV) (hlen : bl.length ≤ 100) (hok : GoodB bl) (hpos : 0 < bl.length) :
  RetK Tryd.prog 21 [.agg #[nm,pa,re,bs]] w0 1 (domL bl) RowV fun v=>v :=
 (refTable_c nm pa re bl bs hbsl w0 hbs hlen hok hpos).mono fun u w' ⟨x,h1,h2,_⟩=>⟨(some ⟨x.1,0,none⟩,bl.length,x.2),by rw [h1,domL_len],by simp only [domL_len]; exact h2,trivial⟩
end Go.Proofs.YtdbljcahlpkgdaaDoor
