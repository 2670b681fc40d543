/-
  NARROWER THAN 'FOR EVERY INPUT', by the rows' own cells (each row's printed sentence says how): TidyNames: laid · TidySays: laid · TidyMeans: laid · TidySteps: laid.
  DERIVED. THE GIVEN ROWS OF THIS SEAT. 4 by the template 'for every input the law returns true; each argument reads behind the call as it read before'; 0 by the template 'total and deterministic' (their statements: YtpadjpplidlfeaaGreatDoorTotals.lean).
  GIVEN WITH THE SEED: the statements are not yours to turn. If you find one false, say at which input.
  Laid BY PROGRAM, IN A SANDBOX (cutbox-rows.mjs): the forced cells as the released guide's own fill.sh prints them over the translation e1641338217ff0ba… (all of the seat's roots in one cut). By AI agents, Wed Nov 11 2026. No macro, syntax, notation, axiom, sorry.
-/
import Derived.Test.YtpadjpplidlfeaaGreatDoorChecked
import GoSem.Claim
import GoSem.ClaimJoined
import GoSem.ClaimMapViews
import Derived.JoinedTies
import Derived.KernelRfl
namespace Go.Proofs.YtpadjpplidlfeaaGreatDoor
/- THE CELL 'sum', in the pinned program and in every row, IS THE sha256 OF THE DUMP (.gsa) THAT YtpadjpplidlfeaaGreatDoorProg.lean LOADS. Nothing in Lean hashes anything: it is a label: what it is worth is what the hold of that sum in a sandbox is worth. -/
noncomputable def Tryz.pinned : Pinned := { name := "ytpadjpplidlfeaagreatdoor", sum := "e1641338217ff0ba9b9fa8b80e5bda75cbe1fac1d0ac2384de847721226d8014", checked := Tryz.checked }
namespace Rows
def none {H : Type} : Left H := { results := [], args := [] }

/- WHAT THE LISTED PACKAGE-LEVEL VARIABLES READ AS WHEN THE CALL BEGINS. Each datum BY PROGRAM (the guide's laid-datum.mjs) off the statement by which the dump's own 'gosem.cut.vars' lays the variable. In a bare row this is a premise. The card (YtpadjpplidlfeaaGreatDoorCards.lean) ties it to the program's text. -/
def laid_turnery_code_ways {H : Type} : DataW H := .agg [.lit (.int .i64 0), .lit (.int .i64 0), .lit (.int .i64 1), .lit (.int .i64 2)]

/-- 'turnerylaw3.TidyNames': WHATEVER THE INPUT: true; the input reads as it did. -/
def tidyNamesSpec : ChangeSpec := { name := "tidyNames", fn := fun _ => fun
  | [d] => { results := [.lit (.bool true)], args := [d] }
  | _ => none }
def tidyNamesRow : OpenClaim := { program := "ytpadjpplidlfeaagreatdoor", sum := "e1641338217ff0ba9b9fa8b80e5bda75cbe1fac1d0ac2384de847721226d8014", func := "turnery/turnerylaw3.TidyNames", spec := "tidyNames", unfollowed := true, recurses := true, named := ["turnery/code.ways"], apart := false, laid := [("turnery/code.ways", laid_turnery_code_ways)] }
def TidyNamesSaid : Prop := tidyNamesRow.holds Tryz.pinned (OpenSpec.ofChange tidyNamesSpec)

/-- ITS FALSE NEIGHBOUR: 'it returns false'. Refute it at one input. -/
def tidyNamesWrong : ChangeSpec := { name := "tidyNames", fn := fun _ => fun
  | [d] => { results := [.lit (.bool false)], args := [d] }
  | _ => none }
def TidyNamesWrongFalsely : Prop := tidyNamesRow.holds Tryz.pinned (OpenSpec.ofChange tidyNamesWrong)

/-- 'turnerylaw3.TidySays': WHATEVER THE INPUT: true; the input reads as it did. -/
def tidySaysSpec : ChangeSpec := { name := "tidySays", fn := fun _ => fun
  | [d] => { results := [.lit (.bool true)], args := [d] }
  | _ => none }
def tidySaysRow : OpenClaim := { program := "ytpadjpplidlfeaagreatdoor", sum := "e1641338217ff0ba9b9fa8b80e5bda75cbe1fac1d0ac2384de847721226d8014", func := "turnery/turnerylaw3.TidySays", spec := "tidySays", inPlace := ["slices.overlaps[turnery/api.Val]"], unfollowed := true, recurses := true, named := ["turnery/code.ways"], apart := false, laid := [("turnery/code.ways", laid_turnery_code_ways)] }
def TidySaysSaid : Prop := tidySaysRow.holds Tryz.pinned (OpenSpec.ofChange tidySaysSpec)

/-- ITS FALSE NEIGHBOUR: 'it returns false'. Refute it at one input. -/
def tidySaysWrong : ChangeSpec := { name := "tidySays", fn := fun _ => fun
  | [d] => { results := [.lit (.bool false)], args := [d] }
  | _ => none }
def TidySaysWrongFalsely : Prop := tidySaysRow.holds Tryz.pinned (OpenSpec.ofChange tidySaysWrong)

/-- 'turnerylaw3.TidyMeans': WHATEVER THE INPUT: true; the input reads as it did. -/
def tidyMeansSpec : ChangeSpec := { name := "tidyMeans", fn := fun _ => fun
  | [d1, d2, d3] => { results := [.lit (.bool true)], args := [d1, d2, d3] }
  | _ => none }
def tidyMeansRow : OpenClaim := { program := "ytpadjpplidlfeaagreatdoor", sum := "e1641338217ff0ba9b9fa8b80e5bda75cbe1fac1d0ac2384de847721226d8014", func := "turnery/turnerylaw3.TidyMeans", spec := "tidyMeans", inPlace := ["slices.overlaps[turnery/api.Val]"], unfollowed := true, recurses := true, named := ["turnery/code.ways"], apart := false, laid := [("turnery/code.ways", laid_turnery_code_ways)] }
def TidyMeansSaid : Prop := tidyMeansRow.holds Tryz.pinned (OpenSpec.ofChange tidyMeansSpec)

/-- ITS FALSE NEIGHBOUR: 'it returns false'. Refute it at one input. -/
def tidyMeansWrong : ChangeSpec := { name := "tidyMeans", fn := fun _ => fun
  | [d1, d2, d3] => { results := [.lit (.bool false)], args := [d1, d2, d3] }
  | _ => none }
def TidyMeansWrongFalsely : Prop := tidyMeansRow.holds Tryz.pinned (OpenSpec.ofChange tidyMeansWrong)

/-- 'turnerylaw3.TidySteps': WHATEVER THE INPUT: true; the input reads as it did. -/
def tidyStepsSpec : ChangeSpec := { name := "tidySteps", fn := fun _ => fun
  | [d1, d2, d3] => { results := [.lit (.bool true)], args := [d1, d2, d3] }
  | _ => none }
def tidyStepsRow : OpenClaim := { program := "ytpadjpplidlfeaagreatdoor", sum := "e1641338217ff0ba9b9fa8b80e5bda75cbe1fac1d0ac2384de847721226d8014", func := "turnery/turnerylaw3.TidySteps", spec := "tidySteps", inPlace := ["slices.overlaps[turnery/api.Val]"], unfollowed := true, recurses := true, named := ["turnery/code.ways"], apart := false, laid := [("turnery/code.ways", laid_turnery_code_ways)] }
def TidyStepsSaid : Prop := tidyStepsRow.holds Tryz.pinned (OpenSpec.ofChange tidyStepsSpec)

/-- ITS FALSE NEIGHBOUR: 'it returns false'. Refute it at one input. -/
def tidyStepsWrong : ChangeSpec := { name := "tidySteps", fn := fun _ => fun
  | [d1, d2, d3] => { results := [.lit (.bool false)], args := [d1, d2, d3] }
  | _ => none }
def TidyStepsWrongFalsely : Prop := tidyStepsRow.holds Tryz.pinned (OpenSpec.ofChange tidyStepsWrong)

/- THE SECOND FORM. 'bulk': how many values and letters a reading holds, each counted each time it is reached (what is shared counts as often as it is met; a slice's spare places count too). A statement '..UptoSaid' is the law's where the arguments, and the package variables that the reading takes, are together of bulk at most 1048576: NARROWER than '..Said'. Prove '..Said' where nothing that the law and all that it calls make is longer than what came in: it says more and counts as full. Else prove '..UptoSaid'. A law counts once. -/
mutual
def uptoBulk {H : Type} : DataW H → Nat
  | .lit (.string bytes) => bytes.length + 1
  | .lit _ => 1
  | .nil => 1
  | .ptr d => uptoBulk d + 1
  | .slice elems spare => uptoBulkAll elems + uptoBulkAll spare + 1
  | .agg parts => uptoBulkAll parts + 1
  | .iface _ d => uptoBulk d + 1
  | .map entries => uptoBulkEntries entries + 1
  | .held _ => 1
def uptoBulkAll {H : Type} : List (DataW H) → Nat
  | [] => 0
  | d :: r => uptoBulk d + uptoBulkAll r
def uptoBulkEntries {H : Type} : List (Lit × DataW H) → Nat
  | [] => 0
  | x :: r => uptoBulkEntry x + uptoBulkEntries r
def uptoBulkEntry {H : Type} : Lit × DataW H → Nat
  | (.string bytes, d) => bytes.length + uptoBulk d + 1
  | (_, d) => uptoBulk d + 1
 end
def uptoSmall : (H : Type) → List (DataW H) → Bool := fun _ ds => decide (uptoBulkAll ds ≤ 1048576)
def OpenSpec.upto (s : _root_.Go.ChangeSpec) : _root_.Go.OpenSpec := { _root_.Go.OpenSpec.ofChange s with cond := some uptoSmall }

/-- 'turnerylaw3.TidyNames', WHERE WHAT IT READS IS OF BULK AT MOST 1048576: true; the input reads as it did. -/
def tidyNamesUptoRow : OpenClaim := { program := "ytpadjpplidlfeaagreatdoor", sum := "e1641338217ff0ba9b9fa8b80e5bda75cbe1fac1d0ac2384de847721226d8014", func := "turnery/turnerylaw3.TidyNames", spec := "tidyNames", unfollowed := true, recurses := true, named := ["turnery/code.ways"], apart := false, laid := [("turnery/code.ways", laid_turnery_code_ways)], narrowed := true }
def TidyNamesUptoSaid : Prop := tidyNamesUptoRow.holds Tryz.pinned (OpenSpec.upto tidyNamesSpec)

/-- 'turnerylaw3.TidySays', WHERE WHAT IT READS IS OF BULK AT MOST 1048576: true; the input reads as it did. -/
def tidySaysUptoRow : OpenClaim := { program := "ytpadjpplidlfeaagreatdoor", sum := "e1641338217ff0ba9b9fa8b80e5bda75cbe1fac1d0ac2384de847721226d8014", func := "turnery/turnerylaw3.TidySays", spec := "tidySays", inPlace := ["slices.overlaps[turnery/api.Val]"], unfollowed := true, recurses := true, named := ["turnery/code.ways"], apart := false, laid := [("turnery/code.ways", laid_turnery_code_ways)], narrowed := true }
def TidySaysUptoSaid : Prop := tidySaysUptoRow.holds Tryz.pinned (OpenSpec.upto tidySaysSpec)

/-- 'turnerylaw3.TidyMeans', WHERE WHAT IT READS IS OF BULK AT MOST 1048576: true; the input reads as it did. -/
def tidyMeansUptoRow : OpenClaim := { program := "ytpadjpplidlfeaagreatdoor", sum := "e1641338217ff0ba9b9fa8b80e5bda75cbe1fac1d0ac2384de847721226d8014", func := "turnery/turnerylaw3.TidyMeans", spec := "tidyMeans", inPlace := ["slices.overlaps[turnery/api.Val]"], unfollowed := true, recurses := true, named := ["turnery/code.ways"], apart := false, laid := [("turnery/code.ways", laid_turnery_code_ways)], narrowed := true }
def TidyMeansUptoSaid : Prop := tidyMeansUptoRow.holds Tryz.pinned (OpenSpec.upto tidyMeansSpec)

/-- 'turnerylaw3.TidySteps', WHERE WHAT IT READS IS OF BULK AT MOST 1048576: true; the input reads as it did. -/
def tidyStepsUptoRow : OpenClaim := { program := "ytpadjpplidlfeaagreatdoor", sum := "e1641338217ff0ba9b9fa8b80e5bda75cbe1fac1d0ac2384de847721226d8014", func := "turnery/turnerylaw3.TidySteps", spec := "tidySteps", inPlace := ["slices.overlaps[turnery/api.Val]"], unfollowed := true, recurses := true, named := ["turnery/code.ways"], apart := false, laid := [("turnery/code.ways", laid_turnery_code_ways)], narrowed := true }
def TidyStepsUptoSaid : Prop := tidyStepsUptoRow.holds Tryz.pinned (OpenSpec.upto tidyStepsSpec)

end Rows
end Go.Proofs.YtpadjpplidlfeaaGreatDoor
