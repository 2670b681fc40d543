/-
  NARROWER THAN 'FOR EVERY INPUT', by the rows' own cells (each row's printed sentence says how): GraphParts: laid · GraphReaches: laid · GraphOrders: laid · DomHangs: laid · DomPosts: laid · GraphSplits: laid · LiveIns: laid · LiveOuts: laid · DomTrees: laid · LiveAts: laid · DomFronts: laid.
  DERIVED. THE GIVEN ROWS OF THIS SEAT. 11 by the template 'for every input the law returns true; each argument reads behind the call as it read before'; 0 by the template 'total and deterministic' (their statements: YtebajiafdkokjaaDoorTotals.lean).
  GIVEN WITH THE SEED: the statements are not yours to turn. If you find one false, say at which input.
  Laid BY PROGRAM, IN A SANDBOX (cutbox-rows.mjs): the forced cells as the released guide's own fill.sh prints them over the translation f13bbd8f1f4896c0… (all of the seat's roots in one cut). By AI agents, Wed Nov 11 2026. No macro, syntax, notation, axiom, sorry.
-/
import Derived.Test.YtebajiafdkokjaaDoorChecked
import GoSem.Claim
import GoSem.ClaimJoined
import GoSem.ClaimMapViews
import Derived.JoinedTies
import Derived.KernelRfl
namespace Go.Proofs.YtebajiafdkokjaaDoor
/- THE CELL 'sum', in the pinned program and in every row, IS THE sha256 OF THE DUMP (.gsa) THAT YtebajiafdkokjaaDoorProg.lean LOADS. Nothing in Lean hashes anything: it is a label: what it is worth is what the hold of that sum in a sandbox is worth. -/
noncomputable def Tryd.pinned : Pinned := { name := "ytebajiafdkokjaadoor", sum := "f13bbd8f1f4896c08d770f960490c8c6d656d404e24de4a6d6834976de66d785", checked := Tryd.checked }
namespace Rows
def none {H : Type} : Left H := { results := [], args := [] }

/- WHAT THE LISTED PACKAGE-LEVEL VARIABLES READ AS WHEN THE CALL BEGINS. Each datum BY PROGRAM (the guide's laid-datum.mjs) off the statement by which the dump's own 'gosem.cut.vars' lays the variable. In a bare row this is a premise. The card (YtebajiafdkokjaaDoorCards.lean) ties it to the program's text. -/
def laid_turnery_code_ways {H : Type} : DataW H := .agg [.lit (.int .i64 0), .lit (.int .i64 0), .lit (.int .i64 1), .lit (.int .i64 2)]

/-- 'turnerylaw3.GraphParts': WHATEVER THE INPUT: true; the input reads as it did. -/
def graphPartsSpec : ChangeSpec := { name := "graphParts", fn := fun _ => fun
  | [d1, d2] => { results := [.lit (.bool true)], args := [d1, d2] }
  | _ => none }
def graphPartsRow : OpenClaim := { program := "ytebajiafdkokjaadoor", sum := "f13bbd8f1f4896c08d770f960490c8c6d656d404e24de4a6d6834976de66d785", func := "turnery/turnerylaw3.GraphParts", spec := "graphParts", unfollowed := true, recurses := true, named := ["turnery/code.ways"], apart := false, laid := [("turnery/code.ways", laid_turnery_code_ways)] }
def GraphPartsSaid : Prop := graphPartsRow.holds Tryd.pinned (OpenSpec.ofChange graphPartsSpec)

/-- ITS FALSE NEIGHBOUR: 'it returns false'. Refute it at one input. -/
def graphPartsWrong : ChangeSpec := { name := "graphParts", fn := fun _ => fun
  | [d1, d2] => { results := [.lit (.bool false)], args := [d1, d2] }
  | _ => none }
def GraphPartsWrongFalsely : Prop := graphPartsRow.holds Tryd.pinned (OpenSpec.ofChange graphPartsWrong)

/-- 'turnerylaw3.GraphReaches': WHATEVER THE INPUT: true; the input reads as it did. -/
def graphReachesSpec : ChangeSpec := { name := "graphReaches", fn := fun _ => fun
  | [d1, d2] => { results := [.lit (.bool true)], args := [d1, d2] }
  | _ => none }
def graphReachesRow : OpenClaim := { program := "ytebajiafdkokjaadoor", sum := "f13bbd8f1f4896c08d770f960490c8c6d656d404e24de4a6d6834976de66d785", func := "turnery/turnerylaw3.GraphReaches", spec := "graphReaches", unfollowed := true, recurses := true, named := ["turnery/code.ways"], apart := false, laid := [("turnery/code.ways", laid_turnery_code_ways)] }
def GraphReachesSaid : Prop := graphReachesRow.holds Tryd.pinned (OpenSpec.ofChange graphReachesSpec)

/-- ITS FALSE NEIGHBOUR: 'it returns false'. Refute it at one input. -/
def graphReachesWrong : ChangeSpec := { name := "graphReaches", fn := fun _ => fun
  | [d1, d2] => { results := [.lit (.bool false)], args := [d1, d2] }
  | _ => none }
def GraphReachesWrongFalsely : Prop := graphReachesRow.holds Tryd.pinned (OpenSpec.ofChange graphReachesWrong)

/-- 'turnerylaw3.GraphOrders': WHATEVER THE INPUT: true; the input reads as it did. -/
def graphOrdersSpec : ChangeSpec := { name := "graphOrders", fn := fun _ => fun
  | [d1, d2] => { results := [.lit (.bool true)], args := [d1, d2] }
  | _ => none }
def graphOrdersRow : OpenClaim := { program := "ytebajiafdkokjaadoor", sum := "f13bbd8f1f4896c08d770f960490c8c6d656d404e24de4a6d6834976de66d785", func := "turnery/turnerylaw3.GraphOrders", spec := "graphOrders", unfollowed := true, recurses := true, named := ["turnery/code.ways"], apart := false, laid := [("turnery/code.ways", laid_turnery_code_ways)] }
def GraphOrdersSaid : Prop := graphOrdersRow.holds Tryd.pinned (OpenSpec.ofChange graphOrdersSpec)

/-- ITS FALSE NEIGHBOUR: 'it returns false'. Refute it at one input. -/
def graphOrdersWrong : ChangeSpec := { name := "graphOrders", fn := fun _ => fun
  | [d1, d2] => { results := [.lit (.bool false)], args := [d1, d2] }
  | _ => none }
def GraphOrdersWrongFalsely : Prop := graphOrdersRow.holds Tryd.pinned (OpenSpec.ofChange graphOrdersWrong)

/-- 'turnerylaw3.DomHangs': WHATEVER THE INPUT: true; the input reads as it did. -/
def domHangsSpec : ChangeSpec := { name := "domHangs", fn := fun _ => fun
  | [d1, d2] => { results := [.lit (.bool true)], args := [d1, d2] }
  | _ => none }
def domHangsRow : OpenClaim := { program := "ytebajiafdkokjaadoor", sum := "f13bbd8f1f4896c08d770f960490c8c6d656d404e24de4a6d6834976de66d785", func := "turnery/turnerylaw3.DomHangs", spec := "domHangs", unfollowed := true, recurses := true, named := ["turnery/code.ways"], apart := false, laid := [("turnery/code.ways", laid_turnery_code_ways)] }
def DomHangsSaid : Prop := domHangsRow.holds Tryd.pinned (OpenSpec.ofChange domHangsSpec)

/-- ITS FALSE NEIGHBOUR: 'it returns false'. Refute it at one input. -/
def domHangsWrong : ChangeSpec := { name := "domHangs", fn := fun _ => fun
  | [d1, d2] => { results := [.lit (.bool false)], args := [d1, d2] }
  | _ => none }
def DomHangsWrongFalsely : Prop := domHangsRow.holds Tryd.pinned (OpenSpec.ofChange domHangsWrong)

/-- 'turnerylaw3.DomPosts': WHATEVER THE INPUT: true; the input reads as it did. -/
def domPostsSpec : ChangeSpec := { name := "domPosts", fn := fun _ => fun
  | [d1, d2] => { results := [.lit (.bool true)], args := [d1, d2] }
  | _ => none }
def domPostsRow : OpenClaim := { program := "ytebajiafdkokjaadoor", sum := "f13bbd8f1f4896c08d770f960490c8c6d656d404e24de4a6d6834976de66d785", func := "turnery/turnerylaw3.DomPosts", spec := "domPosts", unfollowed := true, recurses := true, named := ["turnery/code.ways"], apart := false, laid := [("turnery/code.ways", laid_turnery_code_ways)] }
def DomPostsSaid : Prop := domPostsRow.holds Tryd.pinned (OpenSpec.ofChange domPostsSpec)

/-- ITS FALSE NEIGHBOUR: 'it returns false'. Refute it at one input. -/
def domPostsWrong : ChangeSpec := { name := "domPosts", fn := fun _ => fun
  | [d1, d2] => { results := [.lit (.bool false)], args := [d1, d2] }
  | _ => none }
def DomPostsWrongFalsely : Prop := domPostsRow.holds Tryd.pinned (OpenSpec.ofChange domPostsWrong)

/-- 'turnerylaw3.GraphSplits': WHATEVER THE INPUT: true; the input reads as it did. -/
def graphSplitsSpec : ChangeSpec := { name := "graphSplits", fn := fun _ => fun
  | [d] => { results := [.lit (.bool true)], args := [d] }
  | _ => none }
def graphSplitsRow : OpenClaim := { program := "ytebajiafdkokjaadoor", sum := "f13bbd8f1f4896c08d770f960490c8c6d656d404e24de4a6d6834976de66d785", func := "turnery/turnerylaw3.GraphSplits", spec := "graphSplits", unfollowed := true, recurses := true, named := ["turnery/code.ways"], apart := false, laid := [("turnery/code.ways", laid_turnery_code_ways)] }
def GraphSplitsSaid : Prop := graphSplitsRow.holds Tryd.pinned (OpenSpec.ofChange graphSplitsSpec)

/-- ITS FALSE NEIGHBOUR: 'it returns false'. Refute it at one input. -/
def graphSplitsWrong : ChangeSpec := { name := "graphSplits", fn := fun _ => fun
  | [d] => { results := [.lit (.bool false)], args := [d] }
  | _ => none }
def GraphSplitsWrongFalsely : Prop := graphSplitsRow.holds Tryd.pinned (OpenSpec.ofChange graphSplitsWrong)

/-- 'turnerylaw3.LiveIns': WHATEVER THE INPUT: true; the input reads as it did. -/
def liveInsSpec : ChangeSpec := { name := "liveIns", fn := fun _ => fun
  | [d1, d2] => { results := [.lit (.bool true)], args := [d1, d2] }
  | _ => none }
def liveInsRow : OpenClaim := { program := "ytebajiafdkokjaadoor", sum := "f13bbd8f1f4896c08d770f960490c8c6d656d404e24de4a6d6834976de66d785", func := "turnery/turnerylaw3.LiveIns", spec := "liveIns", unfollowed := true, recurses := true, named := ["turnery/code.ways"], apart := false, laid := [("turnery/code.ways", laid_turnery_code_ways)] }
def LiveInsSaid : Prop := liveInsRow.holds Tryd.pinned (OpenSpec.ofChange liveInsSpec)

/-- ITS FALSE NEIGHBOUR: 'it returns false'. Refute it at one input. -/
def liveInsWrong : ChangeSpec := { name := "liveIns", fn := fun _ => fun
  | [d1, d2] => { results := [.lit (.bool false)], args := [d1, d2] }
  | _ => none }
def LiveInsWrongFalsely : Prop := liveInsRow.holds Tryd.pinned (OpenSpec.ofChange liveInsWrong)

/-- 'turnerylaw3.LiveOuts': WHATEVER THE INPUT: true; the input reads as it did. -/
def liveOutsSpec : ChangeSpec := { name := "liveOuts", fn := fun _ => fun
  | [d1, d2] => { results := [.lit (.bool true)], args := [d1, d2] }
  | _ => none }
def liveOutsRow : OpenClaim := { program := "ytebajiafdkokjaadoor", sum := "f13bbd8f1f4896c08d770f960490c8c6d656d404e24de4a6d6834976de66d785", func := "turnery/turnerylaw3.LiveOuts", spec := "liveOuts", unfollowed := true, recurses := true, named := ["turnery/code.ways"], apart := false, laid := [("turnery/code.ways", laid_turnery_code_ways)] }
def LiveOutsSaid : Prop := liveOutsRow.holds Tryd.pinned (OpenSpec.ofChange liveOutsSpec)

/-- ITS FALSE NEIGHBOUR: 'it returns false'. Refute it at one input. -/
def liveOutsWrong : ChangeSpec := { name := "liveOuts", fn := fun _ => fun
  | [d1, d2] => { results := [.lit (.bool false)], args := [d1, d2] }
  | _ => none }
def LiveOutsWrongFalsely : Prop := liveOutsRow.holds Tryd.pinned (OpenSpec.ofChange liveOutsWrong)

/-- 'turnerylaw3.DomTrees': WHATEVER THE INPUT: true; the input reads as it did. -/
def domTreesSpec : ChangeSpec := { name := "domTrees", fn := fun _ => fun
  | [d1, d2] => { results := [.lit (.bool true)], args := [d1, d2] }
  | _ => none }
def domTreesRow : OpenClaim := { program := "ytebajiafdkokjaadoor", sum := "f13bbd8f1f4896c08d770f960490c8c6d656d404e24de4a6d6834976de66d785", func := "turnery/turnerylaw3.DomTrees", spec := "domTrees", unfollowed := true, recurses := true, named := ["turnery/code.ways"], apart := false, laid := [("turnery/code.ways", laid_turnery_code_ways)] }
def DomTreesSaid : Prop := domTreesRow.holds Tryd.pinned (OpenSpec.ofChange domTreesSpec)

/-- ITS FALSE NEIGHBOUR: 'it returns false'. Refute it at one input. -/
def domTreesWrong : ChangeSpec := { name := "domTrees", fn := fun _ => fun
  | [d1, d2] => { results := [.lit (.bool false)], args := [d1, d2] }
  | _ => none }
def DomTreesWrongFalsely : Prop := domTreesRow.holds Tryd.pinned (OpenSpec.ofChange domTreesWrong)

/-- 'turnerylaw3.LiveAts': WHATEVER THE INPUT: true; the input reads as it did. -/
def liveAtsSpec : ChangeSpec := { name := "liveAts", fn := fun _ => fun
  | [d1, d2, d3] => { results := [.lit (.bool true)], args := [d1, d2, d3] }
  | _ => none }
def liveAtsRow : OpenClaim := { program := "ytebajiafdkokjaadoor", sum := "f13bbd8f1f4896c08d770f960490c8c6d656d404e24de4a6d6834976de66d785", func := "turnery/turnerylaw3.LiveAts", spec := "liveAts", unfollowed := true, recurses := true, named := ["turnery/code.ways"], apart := false, laid := [("turnery/code.ways", laid_turnery_code_ways)] }
def LiveAtsSaid : Prop := liveAtsRow.holds Tryd.pinned (OpenSpec.ofChange liveAtsSpec)

/-- ITS FALSE NEIGHBOUR: 'it returns false'. Refute it at one input. -/
def liveAtsWrong : ChangeSpec := { name := "liveAts", fn := fun _ => fun
  | [d1, d2, d3] => { results := [.lit (.bool false)], args := [d1, d2, d3] }
  | _ => none }
def LiveAtsWrongFalsely : Prop := liveAtsRow.holds Tryd.pinned (OpenSpec.ofChange liveAtsWrong)

/-- 'turnerylaw3.DomFronts': WHATEVER THE INPUT: true; the input reads as it did. -/
def domFrontsSpec : ChangeSpec := { name := "domFronts", fn := fun _ => fun
  | [d1, d2] => { results := [.lit (.bool true)], args := [d1, d2] }
  | _ => none }
def domFrontsRow : OpenClaim := { program := "ytebajiafdkokjaadoor", sum := "f13bbd8f1f4896c08d770f960490c8c6d656d404e24de4a6d6834976de66d785", func := "turnery/turnerylaw3.DomFronts", spec := "domFronts", unfollowed := true, recurses := true, named := ["turnery/code.ways"], apart := false, laid := [("turnery/code.ways", laid_turnery_code_ways)] }
def DomFrontsSaid : Prop := domFrontsRow.holds Tryd.pinned (OpenSpec.ofChange domFrontsSpec)

/-- ITS FALSE NEIGHBOUR: 'it returns false'. Refute it at one input. -/
def domFrontsWrong : ChangeSpec := { name := "domFronts", fn := fun _ => fun
  | [d1, d2] => { results := [.lit (.bool false)], args := [d1, d2] }
  | _ => none }
def DomFrontsWrongFalsely : Prop := domFrontsRow.holds Tryd.pinned (OpenSpec.ofChange domFrontsWrong)

/- THE SECOND FORM. 'bulk': how many values and letters a reading holds, each counted each time it is reached (what is shared counts as often as it is met; a slice's spare places count too). A statement '..UptoSaid' is the law's where the arguments, and the package variables that the reading takes, are together of bulk at most 1048576: NARROWER than '..Said'. Prove '..Said' where nothing that the law and all that it calls make is longer than what came in: it says more and counts as full. Else prove '..UptoSaid'. A law counts once. -/
mutual
def uptoBulk {H : Type} : DataW H → Nat
  | .lit (.string bytes) => bytes.length + 1
  | .lit _ => 1
  | .nil => 1
  | .ptr d => uptoBulk d + 1
  | .slice elems spare => uptoBulkAll elems + uptoBulkAll spare + 1
  | .agg parts => uptoBulkAll parts + 1
  | .iface _ d => uptoBulk d + 1
  | .map entries => uptoBulkEntries entries + 1
  | .held _ => 1
def uptoBulkAll {H : Type} : List (DataW H) → Nat
  | [] => 0
  | d :: r => uptoBulk d + uptoBulkAll r
def uptoBulkEntries {H : Type} : List (Lit × DataW H) → Nat
  | [] => 0
  | x :: r => uptoBulkEntry x + uptoBulkEntries r
def uptoBulkEntry {H : Type} : Lit × DataW H → Nat
  | (.string bytes, d) => bytes.length + uptoBulk d + 1
  | (_, d) => uptoBulk d + 1
 end
def uptoSmall : (H : Type) → List (DataW H) → Bool := fun _ ds => decide (uptoBulkAll ds ≤ 1048576)
def OpenSpec.upto (s : _root_.Go.ChangeSpec) : _root_.Go.OpenSpec := { _root_.Go.OpenSpec.ofChange s with cond := some uptoSmall }

/-- 'turnerylaw3.GraphParts', WHERE WHAT IT READS IS OF BULK AT MOST 1048576: true; the input reads as it did. -/
def graphPartsUptoRow : OpenClaim := { program := "ytebajiafdkokjaadoor", sum := "f13bbd8f1f4896c08d770f960490c8c6d656d404e24de4a6d6834976de66d785", func := "turnery/turnerylaw3.GraphParts", spec := "graphParts", unfollowed := true, recurses := true, named := ["turnery/code.ways"], apart := false, laid := [("turnery/code.ways", laid_turnery_code_ways)], narrowed := true }
def GraphPartsUptoSaid : Prop := graphPartsUptoRow.holds Tryd.pinned (OpenSpec.upto graphPartsSpec)

/-- 'turnerylaw3.GraphReaches', WHERE WHAT IT READS IS OF BULK AT MOST 1048576: true; the input reads as it did. -/
def graphReachesUptoRow : OpenClaim := { program := "ytebajiafdkokjaadoor", sum := "f13bbd8f1f4896c08d770f960490c8c6d656d404e24de4a6d6834976de66d785", func := "turnery/turnerylaw3.GraphReaches", spec := "graphReaches", unfollowed := true, recurses := true, named := ["turnery/code.ways"], apart := false, laid := [("turnery/code.ways", laid_turnery_code_ways)], narrowed := true }
def GraphReachesUptoSaid : Prop := graphReachesUptoRow.holds Tryd.pinned (OpenSpec.upto graphReachesSpec)

/-- 'turnerylaw3.GraphOrders', WHERE WHAT IT READS IS OF BULK AT MOST 1048576: true; the input reads as it did. -/
def graphOrdersUptoRow : OpenClaim := { program := "ytebajiafdkokjaadoor", sum := "f13bbd8f1f4896c08d770f960490c8c6d656d404e24de4a6d6834976de66d785", func := "turnery/turnerylaw3.GraphOrders", spec := "graphOrders", unfollowed := true, recurses := true, named := ["turnery/code.ways"], apart := false, laid := [("turnery/code.ways", laid_turnery_code_ways)], narrowed := true }
def GraphOrdersUptoSaid : Prop := graphOrdersUptoRow.holds Tryd.pinned (OpenSpec.upto graphOrdersSpec)

/-- 'turnerylaw3.DomHangs', WHERE WHAT IT READS IS OF BULK AT MOST 1048576: true; the input reads as it did. -/
def domHangsUptoRow : OpenClaim := { program := "ytebajiafdkokjaadoor", sum := "f13bbd8f1f4896c08d770f960490c8c6d656d404e24de4a6d6834976de66d785", func := "turnery/turnerylaw3.DomHangs", spec := "domHangs", unfollowed := true, recurses := true, named := ["turnery/code.ways"], apart := false, laid := [("turnery/code.ways", laid_turnery_code_ways)], narrowed := true }
def DomHangsUptoSaid : Prop := domHangsUptoRow.holds Tryd.pinned (OpenSpec.upto domHangsSpec)

/-- 'turnerylaw3.DomPosts', WHERE WHAT IT READS IS OF BULK AT MOST 1048576: true; the input reads as it did. -/
def domPostsUptoRow : OpenClaim := { program := "ytebajiafdkokjaadoor", sum := "f13bbd8f1f4896c08d770f960490c8c6d656d404e24de4a6d6834976de66d785", func := "turnery/turnerylaw3.DomPosts", spec := "domPosts", unfollowed := true, recurses := true, named := ["turnery/code.ways"], apart := false, laid := [("turnery/code.ways", laid_turnery_code_ways)], narrowed := true }
def DomPostsUptoSaid : Prop := domPostsUptoRow.holds Tryd.pinned (OpenSpec.upto domPostsSpec)

/-- 'turnerylaw3.GraphSplits', WHERE WHAT IT READS IS OF BULK AT MOST 1048576: true; the input reads as it did. -/
def graphSplitsUptoRow : OpenClaim := { program := "ytebajiafdkokjaadoor", sum := "f13bbd8f1f4896c08d770f960490c8c6d656d404e24de4a6d6834976de66d785", func := "turnery/turnerylaw3.GraphSplits", spec := "graphSplits", unfollowed := true, recurses := true, named := ["turnery/code.ways"], apart := false, laid := [("turnery/code.ways", laid_turnery_code_ways)], narrowed := true }
def GraphSplitsUptoSaid : Prop := graphSplitsUptoRow.holds Tryd.pinned (OpenSpec.upto graphSplitsSpec)

/-- 'turnerylaw3.LiveIns', WHERE WHAT IT READS IS OF BULK AT MOST 1048576: true; the input reads as it did. -/
def liveInsUptoRow : OpenClaim := { program := "ytebajiafdkokjaadoor", sum := "f13bbd8f1f4896c08d770f960490c8c6d656d404e24de4a6d6834976de66d785", func := "turnery/turnerylaw3.LiveIns", spec := "liveIns", unfollowed := true, recurses := true, named := ["turnery/code.ways"], apart := false, laid := [("turnery/code.ways", laid_turnery_code_ways)], narrowed := true }
def LiveInsUptoSaid : Prop := liveInsUptoRow.holds Tryd.pinned (OpenSpec.upto liveInsSpec)

/-- 'turnerylaw3.LiveOuts', WHERE WHAT IT READS IS OF BULK AT MOST 1048576: true; the input reads as it did. -/
def liveOutsUptoRow : OpenClaim := { program := "ytebajiafdkokjaadoor", sum := "f13bbd8f1f4896c08d770f960490c8c6d656d404e24de4a6d6834976de66d785", func := "turnery/turnerylaw3.LiveOuts", spec := "liveOuts", unfollowed := true, recurses := true, named := ["turnery/code.ways"], apart := false, laid := [("turnery/code.ways", laid_turnery_code_ways)], narrowed := true }
def LiveOutsUptoSaid : Prop := liveOutsUptoRow.holds Tryd.pinned (OpenSpec.upto liveOutsSpec)

/-- 'turnerylaw3.DomTrees', WHERE WHAT IT READS IS OF BULK AT MOST 1048576: true; the input reads as it did. -/
def domTreesUptoRow : OpenClaim := { program := "ytebajiafdkokjaadoor", sum := "f13bbd8f1f4896c08d770f960490c8c6d656d404e24de4a6d6834976de66d785", func := "turnery/turnerylaw3.DomTrees", spec := "domTrees", unfollowed := true, recurses := true, named := ["turnery/code.ways"], apart := false, laid := [("turnery/code.ways", laid_turnery_code_ways)], narrowed := true }
def DomTreesUptoSaid : Prop := domTreesUptoRow.holds Tryd.pinned (OpenSpec.upto domTreesSpec)

/-- 'turnerylaw3.LiveAts', WHERE WHAT IT READS IS OF BULK AT MOST 1048576: true; the input reads as it did. -/
def liveAtsUptoRow : OpenClaim := { program := "ytebajiafdkokjaadoor", sum := "f13bbd8f1f4896c08d770f960490c8c6d656d404e24de4a6d6834976de66d785", func := "turnery/turnerylaw3.LiveAts", spec := "liveAts", unfollowed := true, recurses := true, named := ["turnery/code.ways"], apart := false, laid := [("turnery/code.ways", laid_turnery_code_ways)], narrowed := true }
def LiveAtsUptoSaid : Prop := liveAtsUptoRow.holds Tryd.pinned (OpenSpec.upto liveAtsSpec)

/-- 'turnerylaw3.DomFronts', WHERE WHAT IT READS IS OF BULK AT MOST 1048576: true; the input reads as it did. -/
def domFrontsUptoRow : OpenClaim := { program := "ytebajiafdkokjaadoor", sum := "f13bbd8f1f4896c08d770f960490c8c6d656d404e24de4a6d6834976de66d785", func := "turnery/turnerylaw3.DomFronts", spec := "domFronts", unfollowed := true, recurses := true, named := ["turnery/code.ways"], apart := false, laid := [("turnery/code.ways", laid_turnery_code_ways)], narrowed := true }
def DomFrontsUptoSaid : Prop := domFrontsUptoRow.holds Tryd.pinned (OpenSpec.upto domFrontsSpec)

end Rows
end Go.Proofs.YtebajiafdkokjaaDoor
