/-
  NARROWER THAN 'FOR EVERY INPUT', by the rows' own cells (each row's printed sentence says how): GraphSplits: laid · GraphSplit: laid · GraphSteps: laid · DomSure: laid · DomRuns: laid · LiveSays: laid · LiveSwap: laid · LiveZero: laid · LiveMeans: laid · LiveSteps: laid.
  DERIVED. THE GIVEN ROWS OF THIS SEAT. 10 by the template 'for every input the law returns true; each argument reads behind the call as it read before'; 0 by the template 'total and deterministic' (their statements: YtbmnkjaelfjlhaaDoorTotals.lean).
  GIVEN WITH THE SEED: the statements are not yours to turn. If you find one false, say at which input.
  Laid BY PROGRAM, IN A SANDBOX (cutbox-rows.mjs): the forced cells as the released guide's own fill.sh prints them over the translation 9fa20609d6f3dc6d… (all of the seat's roots in one cut). By AI agents, Wed Nov 11 2026. No macro, syntax, notation, axiom, sorry.
-/
import Derived.Test.YtbmnkjaelfjlhaaDoorChecked
import GoSem.Claim
import GoSem.ClaimJoined
import GoSem.ClaimMapViews
import Derived.JoinedTies
import Derived.KernelRfl
namespace Go.Proofs.YtbmnkjaelfjlhaaDoor
/- THE CELL 'sum', in the pinned program and in every row, IS THE sha256 OF THE DUMP (.gsa) THAT YtbmnkjaelfjlhaaDoorProg.lean LOADS. Nothing in Lean hashes anything: it is a label: what it is worth is what the hold of that sum in a sandbox is worth. -/
noncomputable def Tryd.pinned : Pinned := { name := "ytbmnkjaelfjlhaadoor", sum := "9fa20609d6f3dc6d20833aaa2b526fd5b63f359bb3a8dbe49fd98bfc96fc8b22", checked := Tryd.checked }
namespace Rows
def none {H : Type} : Left H := { results := [], args := [] }

/- WHAT THE LISTED PACKAGE-LEVEL VARIABLES READ AS WHEN THE CALL BEGINS. Each datum BY PROGRAM (the guide's laid-datum.mjs) off the statement by which the dump's own 'gosem.cut.vars' lays the variable. In a bare row this is a premise. The card (YtbmnkjaelfjlhaaDoorCards.lean) ties it to the program's text. -/
def laid_turnery_code_ways {H : Type} : DataW H := .agg [.lit (.int .i64 0), .lit (.int .i64 0), .lit (.int .i64 1), .lit (.int .i64 2)]

/-- 'turnerylaw3.GraphSplits': WHATEVER THE INPUT: true; the input reads as it did. -/
def graphSplitsSpec : ChangeSpec := { name := "graphSplits", fn := fun _ => fun
  | [d] => { results := [.lit (.bool true)], args := [d] }
  | _ => none }
def graphSplitsRow : OpenClaim := { program := "ytbmnkjaelfjlhaadoor", sum := "9fa20609d6f3dc6d20833aaa2b526fd5b63f359bb3a8dbe49fd98bfc96fc8b22", func := "turnery/turnerylaw3.GraphSplits", spec := "graphSplits", unfollowed := true, recurses := true, named := ["turnery/code.ways"], apart := false, laid := [("turnery/code.ways", laid_turnery_code_ways)] }
def GraphSplitsSaid : Prop := graphSplitsRow.holds Tryd.pinned (OpenSpec.ofChange graphSplitsSpec)

/-- ITS FALSE NEIGHBOUR: 'it returns false'. Refute it at one input. -/
def graphSplitsWrong : ChangeSpec := { name := "graphSplits", fn := fun _ => fun
  | [d] => { results := [.lit (.bool false)], args := [d] }
  | _ => none }
def GraphSplitsWrongFalsely : Prop := graphSplitsRow.holds Tryd.pinned (OpenSpec.ofChange graphSplitsWrong)

/-- 'turnerylaw3.GraphSplit': WHATEVER THE INPUT: true; the input reads as it did. -/
def graphSplitSpec : ChangeSpec := { name := "graphSplit", fn := fun _ => fun
  | [d1, d2, d3] => { results := [.lit (.bool true)], args := [d1, d2, d3] }
  | _ => none }
def graphSplitRow : OpenClaim := { program := "ytbmnkjaelfjlhaadoor", sum := "9fa20609d6f3dc6d20833aaa2b526fd5b63f359bb3a8dbe49fd98bfc96fc8b22", func := "turnery/turnerylaw3.GraphSplit", spec := "graphSplit", unfollowed := true, recurses := true, named := ["turnery/code.ways"], apart := false, laid := [("turnery/code.ways", laid_turnery_code_ways)] }
def GraphSplitSaid : Prop := graphSplitRow.holds Tryd.pinned (OpenSpec.ofChange graphSplitSpec)

/-- ITS FALSE NEIGHBOUR: 'it returns false'. Refute it at one input. -/
def graphSplitWrong : ChangeSpec := { name := "graphSplit", fn := fun _ => fun
  | [d1, d2, d3] => { results := [.lit (.bool false)], args := [d1, d2, d3] }
  | _ => none }
def GraphSplitWrongFalsely : Prop := graphSplitRow.holds Tryd.pinned (OpenSpec.ofChange graphSplitWrong)

/-- 'turnerylaw3.GraphSteps': WHATEVER THE INPUT: true; the input reads as it did. -/
def graphStepsSpec : ChangeSpec := { name := "graphSteps", fn := fun _ => fun
  | [d1, d2, d3] => { results := [.lit (.bool true)], args := [d1, d2, d3] }
  | _ => none }
def graphStepsRow : OpenClaim := { program := "ytbmnkjaelfjlhaadoor", sum := "9fa20609d6f3dc6d20833aaa2b526fd5b63f359bb3a8dbe49fd98bfc96fc8b22", func := "turnery/turnerylaw3.GraphSteps", spec := "graphSteps", unfollowed := true, recurses := true, named := ["turnery/code.ways"], apart := false, laid := [("turnery/code.ways", laid_turnery_code_ways)] }
def GraphStepsSaid : Prop := graphStepsRow.holds Tryd.pinned (OpenSpec.ofChange graphStepsSpec)

/-- ITS FALSE NEIGHBOUR: 'it returns false'. Refute it at one input. -/
def graphStepsWrong : ChangeSpec := { name := "graphSteps", fn := fun _ => fun
  | [d1, d2, d3] => { results := [.lit (.bool false)], args := [d1, d2, d3] }
  | _ => none }
def GraphStepsWrongFalsely : Prop := graphStepsRow.holds Tryd.pinned (OpenSpec.ofChange graphStepsWrong)

/-- 'turnerylaw3.DomSure': WHATEVER THE INPUT: true; the input reads as it did. -/
def domSureSpec : ChangeSpec := { name := "domSure", fn := fun _ => fun
  | [d1, d2, d3] => { results := [.lit (.bool true)], args := [d1, d2, d3] }
  | _ => none }
def domSureRow : OpenClaim := { program := "ytbmnkjaelfjlhaadoor", sum := "9fa20609d6f3dc6d20833aaa2b526fd5b63f359bb3a8dbe49fd98bfc96fc8b22", func := "turnery/turnerylaw3.DomSure", spec := "domSure", unfollowed := true, recurses := true, named := ["turnery/code.ways"], apart := false, laid := [("turnery/code.ways", laid_turnery_code_ways)] }
def DomSureSaid : Prop := domSureRow.holds Tryd.pinned (OpenSpec.ofChange domSureSpec)

/-- ITS FALSE NEIGHBOUR: 'it returns false'. Refute it at one input. -/
def domSureWrong : ChangeSpec := { name := "domSure", fn := fun _ => fun
  | [d1, d2, d3] => { results := [.lit (.bool false)], args := [d1, d2, d3] }
  | _ => none }
def DomSureWrongFalsely : Prop := domSureRow.holds Tryd.pinned (OpenSpec.ofChange domSureWrong)

/-- 'turnerylaw3.DomRuns': WHATEVER THE INPUT: true; the input reads as it did. -/
def domRunsSpec : ChangeSpec := { name := "domRuns", fn := fun _ => fun
  | [d1, d2, d3] => { results := [.lit (.bool true)], args := [d1, d2, d3] }
  | _ => none }
def domRunsRow : OpenClaim := { program := "ytbmnkjaelfjlhaadoor", sum := "9fa20609d6f3dc6d20833aaa2b526fd5b63f359bb3a8dbe49fd98bfc96fc8b22", func := "turnery/turnerylaw3.DomRuns", spec := "domRuns", unfollowed := true, recurses := true, named := ["turnery/code.ways"], apart := false, laid := [("turnery/code.ways", laid_turnery_code_ways)] }
def DomRunsSaid : Prop := domRunsRow.holds Tryd.pinned (OpenSpec.ofChange domRunsSpec)

/-- ITS FALSE NEIGHBOUR: 'it returns false'. Refute it at one input. -/
def domRunsWrong : ChangeSpec := { name := "domRuns", fn := fun _ => fun
  | [d1, d2, d3] => { results := [.lit (.bool false)], args := [d1, d2, d3] }
  | _ => none }
def DomRunsWrongFalsely : Prop := domRunsRow.holds Tryd.pinned (OpenSpec.ofChange domRunsWrong)

/-- 'turnerylaw3.LiveSays': WHATEVER THE INPUT: true; the input reads as it did. -/
def liveSaysSpec : ChangeSpec := { name := "liveSays", fn := fun _ => fun
  | [d] => { results := [.lit (.bool true)], args := [d] }
  | _ => none }
def liveSaysRow : OpenClaim := { program := "ytbmnkjaelfjlhaadoor", sum := "9fa20609d6f3dc6d20833aaa2b526fd5b63f359bb3a8dbe49fd98bfc96fc8b22", func := "turnery/turnerylaw3.LiveSays", spec := "liveSays", unfollowed := true, recurses := true, named := ["turnery/code.ways"], apart := false, laid := [("turnery/code.ways", laid_turnery_code_ways)] }
def LiveSaysSaid : Prop := liveSaysRow.holds Tryd.pinned (OpenSpec.ofChange liveSaysSpec)

/-- ITS FALSE NEIGHBOUR: 'it returns false'. Refute it at one input. -/
def liveSaysWrong : ChangeSpec := { name := "liveSays", fn := fun _ => fun
  | [d] => { results := [.lit (.bool false)], args := [d] }
  | _ => none }
def LiveSaysWrongFalsely : Prop := liveSaysRow.holds Tryd.pinned (OpenSpec.ofChange liveSaysWrong)

/-- 'turnerylaw3.LiveSwap': WHATEVER THE INPUT: true; the input reads as it did. -/
def liveSwapSpec : ChangeSpec := { name := "liveSwap", fn := fun _ => fun
  | [d1, d2, d3, d4, d5, d6, d7] => { results := [.lit (.bool true)], args := [d1, d2, d3, d4, d5, d6, d7] }
  | _ => none }
def liveSwapRow : OpenClaim := { program := "ytbmnkjaelfjlhaadoor", sum := "9fa20609d6f3dc6d20833aaa2b526fd5b63f359bb3a8dbe49fd98bfc96fc8b22", func := "turnery/turnerylaw3.LiveSwap", spec := "liveSwap", unfollowed := true, recurses := true, named := ["turnery/code.ways"], apart := false, laid := [("turnery/code.ways", laid_turnery_code_ways)] }
def LiveSwapSaid : Prop := liveSwapRow.holds Tryd.pinned (OpenSpec.ofChange liveSwapSpec)

/-- ITS FALSE NEIGHBOUR: 'it returns false'. Refute it at one input. -/
def liveSwapWrong : ChangeSpec := { name := "liveSwap", fn := fun _ => fun
  | [d1, d2, d3, d4, d5, d6, d7] => { results := [.lit (.bool false)], args := [d1, d2, d3, d4, d5, d6, d7] }
  | _ => none }
def LiveSwapWrongFalsely : Prop := liveSwapRow.holds Tryd.pinned (OpenSpec.ofChange liveSwapWrong)

/-- 'turnerylaw3.LiveZero': WHATEVER THE INPUT: true; the input reads as it did. -/
def liveZeroSpec : ChangeSpec := { name := "liveZero", fn := fun _ => fun
  | [d1, d2, d3, d4] => { results := [.lit (.bool true)], args := [d1, d2, d3, d4] }
  | _ => none }
def liveZeroRow : OpenClaim := { program := "ytbmnkjaelfjlhaadoor", sum := "9fa20609d6f3dc6d20833aaa2b526fd5b63f359bb3a8dbe49fd98bfc96fc8b22", func := "turnery/turnerylaw3.LiveZero", spec := "liveZero", unfollowed := true, recurses := true, named := ["turnery/code.ways"], apart := false, laid := [("turnery/code.ways", laid_turnery_code_ways)] }
def LiveZeroSaid : Prop := liveZeroRow.holds Tryd.pinned (OpenSpec.ofChange liveZeroSpec)

/-- ITS FALSE NEIGHBOUR: 'it returns false'. Refute it at one input. -/
def liveZeroWrong : ChangeSpec := { name := "liveZero", fn := fun _ => fun
  | [d1, d2, d3, d4] => { results := [.lit (.bool false)], args := [d1, d2, d3, d4] }
  | _ => none }
def LiveZeroWrongFalsely : Prop := liveZeroRow.holds Tryd.pinned (OpenSpec.ofChange liveZeroWrong)

/-- 'turnerylaw3.LiveMeans': WHATEVER THE INPUT: true; the input reads as it did. -/
def liveMeansSpec : ChangeSpec := { name := "liveMeans", fn := fun _ => fun
  | [d1, d2, d3] => { results := [.lit (.bool true)], args := [d1, d2, d3] }
  | _ => none }
def liveMeansRow : OpenClaim := { program := "ytbmnkjaelfjlhaadoor", sum := "9fa20609d6f3dc6d20833aaa2b526fd5b63f359bb3a8dbe49fd98bfc96fc8b22", func := "turnery/turnerylaw3.LiveMeans", spec := "liveMeans", unfollowed := true, recurses := true, named := ["turnery/code.ways"], apart := false, laid := [("turnery/code.ways", laid_turnery_code_ways)] }
def LiveMeansSaid : Prop := liveMeansRow.holds Tryd.pinned (OpenSpec.ofChange liveMeansSpec)

/-- ITS FALSE NEIGHBOUR: 'it returns false'. Refute it at one input. -/
def liveMeansWrong : ChangeSpec := { name := "liveMeans", fn := fun _ => fun
  | [d1, d2, d3] => { results := [.lit (.bool false)], args := [d1, d2, d3] }
  | _ => none }
def LiveMeansWrongFalsely : Prop := liveMeansRow.holds Tryd.pinned (OpenSpec.ofChange liveMeansWrong)

/-- 'turnerylaw3.LiveSteps': WHATEVER THE INPUT: true; the input reads as it did. -/
def liveStepsSpec : ChangeSpec := { name := "liveSteps", fn := fun _ => fun
  | [d1, d2, d3] => { results := [.lit (.bool true)], args := [d1, d2, d3] }
  | _ => none }
def liveStepsRow : OpenClaim := { program := "ytbmnkjaelfjlhaadoor", sum := "9fa20609d6f3dc6d20833aaa2b526fd5b63f359bb3a8dbe49fd98bfc96fc8b22", func := "turnery/turnerylaw3.LiveSteps", spec := "liveSteps", unfollowed := true, recurses := true, named := ["turnery/code.ways"], apart := false, laid := [("turnery/code.ways", laid_turnery_code_ways)] }
def LiveStepsSaid : Prop := liveStepsRow.holds Tryd.pinned (OpenSpec.ofChange liveStepsSpec)

/-- ITS FALSE NEIGHBOUR: 'it returns false'. Refute it at one input. -/
def liveStepsWrong : ChangeSpec := { name := "liveSteps", fn := fun _ => fun
  | [d1, d2, d3] => { results := [.lit (.bool false)], args := [d1, d2, d3] }
  | _ => none }
def LiveStepsWrongFalsely : Prop := liveStepsRow.holds Tryd.pinned (OpenSpec.ofChange liveStepsWrong)

/- THE SECOND FORM. 'bulk': how many values and letters a reading holds, each counted each time it is reached (what is shared counts as often as it is met; a slice's spare places count too). A statement '..UptoSaid' is the law's where the arguments, and the package variables that the reading takes, are together of bulk at most 1048576: NARROWER than '..Said'. Prove '..Said' where nothing that the law and all that it calls make is longer than what came in: it says more and counts as full. Else prove '..UptoSaid'. A law counts once. -/
mutual
def uptoBulk {H : Type} : DataW H → Nat
  | .lit (.string bytes) => bytes.length + 1
  | .lit _ => 1
  | .nil => 1
  | .ptr d => uptoBulk d + 1
  | .slice elems spare => uptoBulkAll elems + uptoBulkAll spare + 1
  | .agg parts => uptoBulkAll parts + 1
  | .iface _ d => uptoBulk d + 1
  | .map entries => uptoBulkEntries entries + 1
  | .held _ => 1
def uptoBulkAll {H : Type} : List (DataW H) → Nat
  | [] => 0
  | d :: r => uptoBulk d + uptoBulkAll r
def uptoBulkEntries {H : Type} : List (Lit × DataW H) → Nat
  | [] => 0
  | x :: r => uptoBulkEntry x + uptoBulkEntries r
def uptoBulkEntry {H : Type} : Lit × DataW H → Nat
  | (.string bytes, d) => bytes.length + uptoBulk d + 1
  | (_, d) => uptoBulk d + 1
 end
def uptoSmall : (H : Type) → List (DataW H) → Bool := fun _ ds => decide (uptoBulkAll ds ≤ 1048576)
def OpenSpec.upto (s : _root_.Go.ChangeSpec) : _root_.Go.OpenSpec := { _root_.Go.OpenSpec.ofChange s with cond := some uptoSmall }

/-- 'turnerylaw3.GraphSplits', WHERE WHAT IT READS IS OF BULK AT MOST 1048576: true; the input reads as it did. -/
def graphSplitsUptoRow : OpenClaim := { program := "ytbmnkjaelfjlhaadoor", sum := "9fa20609d6f3dc6d20833aaa2b526fd5b63f359bb3a8dbe49fd98bfc96fc8b22", func := "turnery/turnerylaw3.GraphSplits", spec := "graphSplits", unfollowed := true, recurses := true, named := ["turnery/code.ways"], apart := false, laid := [("turnery/code.ways", laid_turnery_code_ways)], narrowed := true }
def GraphSplitsUptoSaid : Prop := graphSplitsUptoRow.holds Tryd.pinned (OpenSpec.upto graphSplitsSpec)

/-- 'turnerylaw3.GraphSplit', WHERE WHAT IT READS IS OF BULK AT MOST 1048576: true; the input reads as it did. -/
def graphSplitUptoRow : OpenClaim := { program := "ytbmnkjaelfjlhaadoor", sum := "9fa20609d6f3dc6d20833aaa2b526fd5b63f359bb3a8dbe49fd98bfc96fc8b22", func := "turnery/turnerylaw3.GraphSplit", spec := "graphSplit", unfollowed := true, recurses := true, named := ["turnery/code.ways"], apart := false, laid := [("turnery/code.ways", laid_turnery_code_ways)], narrowed := true }
def GraphSplitUptoSaid : Prop := graphSplitUptoRow.holds Tryd.pinned (OpenSpec.upto graphSplitSpec)

/-- 'turnerylaw3.GraphSteps', WHERE WHAT IT READS IS OF BULK AT MOST 1048576: true; the input reads as it did. -/
def graphStepsUptoRow : OpenClaim := { program := "ytbmnkjaelfjlhaadoor", sum := "9fa20609d6f3dc6d20833aaa2b526fd5b63f359bb3a8dbe49fd98bfc96fc8b22", func := "turnery/turnerylaw3.GraphSteps", spec := "graphSteps", unfollowed := true, recurses := true, named := ["turnery/code.ways"], apart := false, laid := [("turnery/code.ways", laid_turnery_code_ways)], narrowed := true }
def GraphStepsUptoSaid : Prop := graphStepsUptoRow.holds Tryd.pinned (OpenSpec.upto graphStepsSpec)

/-- 'turnerylaw3.DomSure', WHERE WHAT IT READS IS OF BULK AT MOST 1048576: true; the input reads as it did. -/
def domSureUptoRow : OpenClaim := { program := "ytbmnkjaelfjlhaadoor", sum := "9fa20609d6f3dc6d20833aaa2b526fd5b63f359bb3a8dbe49fd98bfc96fc8b22", func := "turnery/turnerylaw3.DomSure", spec := "domSure", unfollowed := true, recurses := true, named := ["turnery/code.ways"], apart := false, laid := [("turnery/code.ways", laid_turnery_code_ways)], narrowed := true }
def DomSureUptoSaid : Prop := domSureUptoRow.holds Tryd.pinned (OpenSpec.upto domSureSpec)

/-- 'turnerylaw3.DomRuns', WHERE WHAT IT READS IS OF BULK AT MOST 1048576: true; the input reads as it did. -/
def domRunsUptoRow : OpenClaim := { program := "ytbmnkjaelfjlhaadoor", sum := "9fa20609d6f3dc6d20833aaa2b526fd5b63f359bb3a8dbe49fd98bfc96fc8b22", func := "turnery/turnerylaw3.DomRuns", spec := "domRuns", unfollowed := true, recurses := true, named := ["turnery/code.ways"], apart := false, laid := [("turnery/code.ways", laid_turnery_code_ways)], narrowed := true }
def DomRunsUptoSaid : Prop := domRunsUptoRow.holds Tryd.pinned (OpenSpec.upto domRunsSpec)

/-- 'turnerylaw3.LiveSays', WHERE WHAT IT READS IS OF BULK AT MOST 1048576: true; the input reads as it did. -/
def liveSaysUptoRow : OpenClaim := { program := "ytbmnkjaelfjlhaadoor", sum := "9fa20609d6f3dc6d20833aaa2b526fd5b63f359bb3a8dbe49fd98bfc96fc8b22", func := "turnery/turnerylaw3.LiveSays", spec := "liveSays", unfollowed := true, recurses := true, named := ["turnery/code.ways"], apart := false, laid := [("turnery/code.ways", laid_turnery_code_ways)], narrowed := true }
def LiveSaysUptoSaid : Prop := liveSaysUptoRow.holds Tryd.pinned (OpenSpec.upto liveSaysSpec)

/-- 'turnerylaw3.LiveSwap', WHERE WHAT IT READS IS OF BULK AT MOST 1048576: true; the input reads as it did. -/
def liveSwapUptoRow : OpenClaim := { program := "ytbmnkjaelfjlhaadoor", sum := "9fa20609d6f3dc6d20833aaa2b526fd5b63f359bb3a8dbe49fd98bfc96fc8b22", func := "turnery/turnerylaw3.LiveSwap", spec := "liveSwap", unfollowed := true, recurses := true, named := ["turnery/code.ways"], apart := false, laid := [("turnery/code.ways", laid_turnery_code_ways)], narrowed := true }
def LiveSwapUptoSaid : Prop := liveSwapUptoRow.holds Tryd.pinned (OpenSpec.upto liveSwapSpec)

/-- 'turnerylaw3.LiveZero', WHERE WHAT IT READS IS OF BULK AT MOST 1048576: true; the input reads as it did. -/
def liveZeroUptoRow : OpenClaim := { program := "ytbmnkjaelfjlhaadoor", sum := "9fa20609d6f3dc6d20833aaa2b526fd5b63f359bb3a8dbe49fd98bfc96fc8b22", func := "turnery/turnerylaw3.LiveZero", spec := "liveZero", unfollowed := true, recurses := true, named := ["turnery/code.ways"], apart := false, laid := [("turnery/code.ways", laid_turnery_code_ways)], narrowed := true }
def LiveZeroUptoSaid : Prop := liveZeroUptoRow.holds Tryd.pinned (OpenSpec.upto liveZeroSpec)

/-- 'turnerylaw3.LiveMeans', WHERE WHAT IT READS IS OF BULK AT MOST 1048576: true; the input reads as it did. -/
def liveMeansUptoRow : OpenClaim := { program := "ytbmnkjaelfjlhaadoor", sum := "9fa20609d6f3dc6d20833aaa2b526fd5b63f359bb3a8dbe49fd98bfc96fc8b22", func := "turnery/turnerylaw3.LiveMeans", spec := "liveMeans", unfollowed := true, recurses := true, named := ["turnery/code.ways"], apart := false, laid := [("turnery/code.ways", laid_turnery_code_ways)], narrowed := true }
def LiveMeansUptoSaid : Prop := liveMeansUptoRow.holds Tryd.pinned (OpenSpec.upto liveMeansSpec)

/-- 'turnerylaw3.LiveSteps', WHERE WHAT IT READS IS OF BULK AT MOST 1048576: true; the input reads as it did. -/
def liveStepsUptoRow : OpenClaim := { program := "ytbmnkjaelfjlhaadoor", sum := "9fa20609d6f3dc6d20833aaa2b526fd5b63f359bb3a8dbe49fd98bfc96fc8b22", func := "turnery/turnerylaw3.LiveSteps", spec := "liveSteps", unfollowed := true, recurses := true, named := ["turnery/code.ways"], apart := false, laid := [("turnery/code.ways", laid_turnery_code_ways)], narrowed := true }
def LiveStepsUptoSaid : Prop := liveStepsUptoRow.holds Tryd.pinned (OpenSpec.upto liveStepsSpec)

end Rows
end Go.Proofs.YtbmnkjaelfjlhaaDoor
