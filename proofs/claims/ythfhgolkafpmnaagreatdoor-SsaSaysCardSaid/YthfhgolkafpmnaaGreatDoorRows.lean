/-
  NARROWER THAN 'FOR EVERY INPUT', by the rows' own cells (each row's printed sentence says how): SsaSays: laid · SsaPruned: laid · SsaOne: laid · SsaUnwritten: laid · SsaSteps: laid · SsaMeans: laid.
  DERIVED. THE GIVEN ROWS OF THIS SEAT. 6 by the template 'for every input the law returns true; each argument reads behind the call as it read before'; 0 by the template 'total and deterministic' (their statements: YthfhgolkafpmnaaGreatDoorTotals.lean).
  GIVEN WITH THE SEED: the statements are not yours to turn. If you find one false, say at which input.
  Laid BY PROGRAM, IN A SANDBOX (cutbox-rows.mjs): the forced cells as the released guide's own fill.sh prints them over the translation 042e42bb95381f47… (all of the seat's roots in one cut). By AI agents, Wed Nov 11 2026. No macro, syntax, notation, axiom, sorry.
-/
import Derived.Test.YthfhgolkafpmnaaGreatDoorChecked
import GoSem.Claim
import GoSem.ClaimJoined
import GoSem.ClaimMapViews
import Derived.JoinedTies
import Derived.KernelRfl
namespace Go.Proofs.YthfhgolkafpmnaaGreatDoor
/- THE CELL 'sum', in the pinned program and in every row, IS THE sha256 OF THE DUMP (.gsa) THAT YthfhgolkafpmnaaGreatDoorProg.lean LOADS. Nothing in Lean hashes anything: it is a label: what it is worth is what the hold of that sum in a sandbox is worth. -/
noncomputable def Tryz.pinned : Pinned := { name := "ythfhgolkafpmnaagreatdoor", sum := "042e42bb95381f4785f98ac858fe0892b3bc80404c6de33f84d11de2fa53063e", checked := Tryz.checked }
namespace Rows
def none {H : Type} : Left H := { results := [], args := [] }

/- WHAT THE LISTED PACKAGE-LEVEL VARIABLES READ AS WHEN THE CALL BEGINS. Each datum BY PROGRAM (the guide's laid-datum.mjs) off the statement by which the dump's own 'gosem.cut.vars' lays the variable. In a bare row this is a premise. The card (YthfhgolkafpmnaaGreatDoorCards.lean) ties it to the program's text. -/
def laid_turnery_code_ways {H : Type} : DataW H := .agg [.lit (.int .i64 0), .lit (.int .i64 0), .lit (.int .i64 1), .lit (.int .i64 2)]

/-- 'turnerylaw3.SsaSays': WHATEVER THE INPUT: true; the input reads as it did. -/
def ssaSaysSpec : ChangeSpec := { name := "ssaSays", fn := fun _ => fun
  | [d] => { results := [.lit (.bool true)], args := [d] }
  | _ => none }
def ssaSaysRow : OpenClaim := { program := "ythfhgolkafpmnaagreatdoor", sum := "042e42bb95381f4785f98ac858fe0892b3bc80404c6de33f84d11de2fa53063e", func := "turnery/turnerylaw3.SsaSays", spec := "ssaSays", inPlace := ["slices.overlaps[turnery/api.Val]"], unfollowed := true, recurses := true, named := ["turnery/code.ways"], apart := false, laid := [("turnery/code.ways", laid_turnery_code_ways)] }
def SsaSaysSaid : Prop := ssaSaysRow.holds Tryz.pinned (OpenSpec.ofChange ssaSaysSpec)

/-- ITS FALSE NEIGHBOUR: 'it returns false'. Refute it at one input. -/
def ssaSaysWrong : ChangeSpec := { name := "ssaSays", fn := fun _ => fun
  | [d] => { results := [.lit (.bool false)], args := [d] }
  | _ => none }
def SsaSaysWrongFalsely : Prop := ssaSaysRow.holds Tryz.pinned (OpenSpec.ofChange ssaSaysWrong)

/-- 'turnerylaw3.SsaPruned': WHATEVER THE INPUT: true; the input reads as it did. -/
def ssaPrunedSpec : ChangeSpec := { name := "ssaPruned", fn := fun _ => fun
  | [d] => { results := [.lit (.bool true)], args := [d] }
  | _ => none }
def ssaPrunedRow : OpenClaim := { program := "ythfhgolkafpmnaagreatdoor", sum := "042e42bb95381f4785f98ac858fe0892b3bc80404c6de33f84d11de2fa53063e", func := "turnery/turnerylaw3.SsaPruned", spec := "ssaPruned", inPlace := ["slices.overlaps[turnery/api.Val]"], unfollowed := true, recurses := true, named := ["turnery/code.ways"], apart := false, laid := [("turnery/code.ways", laid_turnery_code_ways)] }
def SsaPrunedSaid : Prop := ssaPrunedRow.holds Tryz.pinned (OpenSpec.ofChange ssaPrunedSpec)

/-- ITS FALSE NEIGHBOUR: 'it returns false'. Refute it at one input. -/
def ssaPrunedWrong : ChangeSpec := { name := "ssaPruned", fn := fun _ => fun
  | [d] => { results := [.lit (.bool false)], args := [d] }
  | _ => none }
def SsaPrunedWrongFalsely : Prop := ssaPrunedRow.holds Tryz.pinned (OpenSpec.ofChange ssaPrunedWrong)

/-- 'turnerylaw3.SsaOne': WHATEVER THE INPUT: true; the input reads as it did. -/
def ssaOneSpec : ChangeSpec := { name := "ssaOne", fn := fun _ => fun
  | [d] => { results := [.lit (.bool true)], args := [d] }
  | _ => none }
def ssaOneRow : OpenClaim := { program := "ythfhgolkafpmnaagreatdoor", sum := "042e42bb95381f4785f98ac858fe0892b3bc80404c6de33f84d11de2fa53063e", func := "turnery/turnerylaw3.SsaOne", spec := "ssaOne", inPlace := ["slices.overlaps[turnery/api.Val]"], unfollowed := true, recurses := true, named := ["turnery/code.ways"], apart := false, laid := [("turnery/code.ways", laid_turnery_code_ways)] }
def SsaOneSaid : Prop := ssaOneRow.holds Tryz.pinned (OpenSpec.ofChange ssaOneSpec)

/-- ITS FALSE NEIGHBOUR: 'it returns false'. Refute it at one input. -/
def ssaOneWrong : ChangeSpec := { name := "ssaOne", fn := fun _ => fun
  | [d] => { results := [.lit (.bool false)], args := [d] }
  | _ => none }
def SsaOneWrongFalsely : Prop := ssaOneRow.holds Tryz.pinned (OpenSpec.ofChange ssaOneWrong)

/-- 'turnerylaw3.SsaUnwritten': WHATEVER THE INPUT: true; the input reads as it did. -/
def ssaUnwrittenSpec : ChangeSpec := { name := "ssaUnwritten", fn := fun _ => fun
  | [d] => { results := [.lit (.bool true)], args := [d] }
  | _ => none }
def ssaUnwrittenRow : OpenClaim := { program := "ythfhgolkafpmnaagreatdoor", sum := "042e42bb95381f4785f98ac858fe0892b3bc80404c6de33f84d11de2fa53063e", func := "turnery/turnerylaw3.SsaUnwritten", spec := "ssaUnwritten", inPlace := ["slices.overlaps[turnery/api.Val]"], unfollowed := true, recurses := true, named := ["turnery/code.ways"], apart := false, laid := [("turnery/code.ways", laid_turnery_code_ways)] }
def SsaUnwrittenSaid : Prop := ssaUnwrittenRow.holds Tryz.pinned (OpenSpec.ofChange ssaUnwrittenSpec)

/-- ITS FALSE NEIGHBOUR: 'it returns false'. Refute it at one input. -/
def ssaUnwrittenWrong : ChangeSpec := { name := "ssaUnwritten", fn := fun _ => fun
  | [d] => { results := [.lit (.bool false)], args := [d] }
  | _ => none }
def SsaUnwrittenWrongFalsely : Prop := ssaUnwrittenRow.holds Tryz.pinned (OpenSpec.ofChange ssaUnwrittenWrong)

/-- 'turnerylaw3.SsaSteps': WHATEVER THE INPUT: true; the input reads as it did. -/
def ssaStepsSpec : ChangeSpec := { name := "ssaSteps", fn := fun _ => fun
  | [d1, d2, d3] => { results := [.lit (.bool true)], args := [d1, d2, d3] }
  | _ => none }
def ssaStepsRow : OpenClaim := { program := "ythfhgolkafpmnaagreatdoor", sum := "042e42bb95381f4785f98ac858fe0892b3bc80404c6de33f84d11de2fa53063e", func := "turnery/turnerylaw3.SsaSteps", spec := "ssaSteps", inPlace := ["slices.overlaps[turnery/api.Val]"], unfollowed := true, recurses := true, named := ["turnery/code.ways"], apart := false, laid := [("turnery/code.ways", laid_turnery_code_ways)] }
def SsaStepsSaid : Prop := ssaStepsRow.holds Tryz.pinned (OpenSpec.ofChange ssaStepsSpec)

/-- ITS FALSE NEIGHBOUR: 'it returns false'. Refute it at one input. -/
def ssaStepsWrong : ChangeSpec := { name := "ssaSteps", fn := fun _ => fun
  | [d1, d2, d3] => { results := [.lit (.bool false)], args := [d1, d2, d3] }
  | _ => none }
def SsaStepsWrongFalsely : Prop := ssaStepsRow.holds Tryz.pinned (OpenSpec.ofChange ssaStepsWrong)

/-- 'turnerylaw3.SsaMeans': WHATEVER THE INPUT: true; the input reads as it did. -/
def ssaMeansSpec : ChangeSpec := { name := "ssaMeans", fn := fun _ => fun
  | [d1, d2, d3] => { results := [.lit (.bool true)], args := [d1, d2, d3] }
  | _ => none }
def ssaMeansRow : OpenClaim := { program := "ythfhgolkafpmnaagreatdoor", sum := "042e42bb95381f4785f98ac858fe0892b3bc80404c6de33f84d11de2fa53063e", func := "turnery/turnerylaw3.SsaMeans", spec := "ssaMeans", inPlace := ["slices.overlaps[turnery/api.Val]"], unfollowed := true, recurses := true, named := ["turnery/code.ways"], apart := false, laid := [("turnery/code.ways", laid_turnery_code_ways)] }
def SsaMeansSaid : Prop := ssaMeansRow.holds Tryz.pinned (OpenSpec.ofChange ssaMeansSpec)

/-- ITS FALSE NEIGHBOUR: 'it returns false'. Refute it at one input. -/
def ssaMeansWrong : ChangeSpec := { name := "ssaMeans", fn := fun _ => fun
  | [d1, d2, d3] => { results := [.lit (.bool false)], args := [d1, d2, d3] }
  | _ => none }
def SsaMeansWrongFalsely : Prop := ssaMeansRow.holds Tryz.pinned (OpenSpec.ofChange ssaMeansWrong)

/- THE SECOND FORM. 'bulk': how many values and letters a reading holds, each counted each time it is reached (what is shared counts as often as it is met; a slice's spare places count too). A statement '..UptoSaid' is the law's where the arguments, and the package variables that the reading takes, are together of bulk at most 1048576: NARROWER than '..Said'. Prove '..Said' where nothing that the law and all that it calls make is longer than what came in: it says more and counts as full. Else prove '..UptoSaid'. A law counts once. -/
mutual
def uptoBulk {H : Type} : DataW H → Nat
  | .lit (.string bytes) => bytes.length + 1
  | .lit _ => 1
  | .nil => 1
  | .ptr d => uptoBulk d + 1
  | .slice elems spare => uptoBulkAll elems + uptoBulkAll spare + 1
  | .agg parts => uptoBulkAll parts + 1
  | .iface _ d => uptoBulk d + 1
  | .map entries => uptoBulkEntries entries + 1
  | .held _ => 1
def uptoBulkAll {H : Type} : List (DataW H) → Nat
  | [] => 0
  | d :: r => uptoBulk d + uptoBulkAll r
def uptoBulkEntries {H : Type} : List (Lit × DataW H) → Nat
  | [] => 0
  | x :: r => uptoBulkEntry x + uptoBulkEntries r
def uptoBulkEntry {H : Type} : Lit × DataW H → Nat
  | (.string bytes, d) => bytes.length + uptoBulk d + 1
  | (_, d) => uptoBulk d + 1
 end
def uptoSmall : (H : Type) → List (DataW H) → Bool := fun _ ds => decide (uptoBulkAll ds ≤ 1048576)
def OpenSpec.upto (s : _root_.Go.ChangeSpec) : _root_.Go.OpenSpec := { _root_.Go.OpenSpec.ofChange s with cond := some uptoSmall }

/-- 'turnerylaw3.SsaSays', WHERE WHAT IT READS IS OF BULK AT MOST 1048576: true; the input reads as it did. -/
def ssaSaysUptoRow : OpenClaim := { program := "ythfhgolkafpmnaagreatdoor", sum := "042e42bb95381f4785f98ac858fe0892b3bc80404c6de33f84d11de2fa53063e", func := "turnery/turnerylaw3.SsaSays", spec := "ssaSays", inPlace := ["slices.overlaps[turnery/api.Val]"], unfollowed := true, recurses := true, named := ["turnery/code.ways"], apart := false, laid := [("turnery/code.ways", laid_turnery_code_ways)], narrowed := true }
def SsaSaysUptoSaid : Prop := ssaSaysUptoRow.holds Tryz.pinned (OpenSpec.upto ssaSaysSpec)

/-- 'turnerylaw3.SsaPruned', WHERE WHAT IT READS IS OF BULK AT MOST 1048576: true; the input reads as it did. -/
def ssaPrunedUptoRow : OpenClaim := { program := "ythfhgolkafpmnaagreatdoor", sum := "042e42bb95381f4785f98ac858fe0892b3bc80404c6de33f84d11de2fa53063e", func := "turnery/turnerylaw3.SsaPruned", spec := "ssaPruned", inPlace := ["slices.overlaps[turnery/api.Val]"], unfollowed := true, recurses := true, named := ["turnery/code.ways"], apart := false, laid := [("turnery/code.ways", laid_turnery_code_ways)], narrowed := true }
def SsaPrunedUptoSaid : Prop := ssaPrunedUptoRow.holds Tryz.pinned (OpenSpec.upto ssaPrunedSpec)

/-- 'turnerylaw3.SsaOne', WHERE WHAT IT READS IS OF BULK AT MOST 1048576: true; the input reads as it did. -/
def ssaOneUptoRow : OpenClaim := { program := "ythfhgolkafpmnaagreatdoor", sum := "042e42bb95381f4785f98ac858fe0892b3bc80404c6de33f84d11de2fa53063e", func := "turnery/turnerylaw3.SsaOne", spec := "ssaOne", inPlace := ["slices.overlaps[turnery/api.Val]"], unfollowed := true, recurses := true, named := ["turnery/code.ways"], apart := false, laid := [("turnery/code.ways", laid_turnery_code_ways)], narrowed := true }
def SsaOneUptoSaid : Prop := ssaOneUptoRow.holds Tryz.pinned (OpenSpec.upto ssaOneSpec)

/-- 'turnerylaw3.SsaUnwritten', WHERE WHAT IT READS IS OF BULK AT MOST 1048576: true; the input reads as it did. -/
def ssaUnwrittenUptoRow : OpenClaim := { program := "ythfhgolkafpmnaagreatdoor", sum := "042e42bb95381f4785f98ac858fe0892b3bc80404c6de33f84d11de2fa53063e", func := "turnery/turnerylaw3.SsaUnwritten", spec := "ssaUnwritten", inPlace := ["slices.overlaps[turnery/api.Val]"], unfollowed := true, recurses := true, named := ["turnery/code.ways"], apart := false, laid := [("turnery/code.ways", laid_turnery_code_ways)], narrowed := true }
def SsaUnwrittenUptoSaid : Prop := ssaUnwrittenUptoRow.holds Tryz.pinned (OpenSpec.upto ssaUnwrittenSpec)

/-- 'turnerylaw3.SsaSteps', WHERE WHAT IT READS IS OF BULK AT MOST 1048576: true; the input reads as it did. -/
def ssaStepsUptoRow : OpenClaim := { program := "ythfhgolkafpmnaagreatdoor", sum := "042e42bb95381f4785f98ac858fe0892b3bc80404c6de33f84d11de2fa53063e", func := "turnery/turnerylaw3.SsaSteps", spec := "ssaSteps", inPlace := ["slices.overlaps[turnery/api.Val]"], unfollowed := true, recurses := true, named := ["turnery/code.ways"], apart := false, laid := [("turnery/code.ways", laid_turnery_code_ways)], narrowed := true }
def SsaStepsUptoSaid : Prop := ssaStepsUptoRow.holds Tryz.pinned (OpenSpec.upto ssaStepsSpec)

/-- 'turnerylaw3.SsaMeans', WHERE WHAT IT READS IS OF BULK AT MOST 1048576: true; the input reads as it did. -/
def ssaMeansUptoRow : OpenClaim := { program := "ythfhgolkafpmnaagreatdoor", sum := "042e42bb95381f4785f98ac858fe0892b3bc80404c6de33f84d11de2fa53063e", func := "turnery/turnerylaw3.SsaMeans", spec := "ssaMeans", inPlace := ["slices.overlaps[turnery/api.Val]"], unfollowed := true, recurses := true, named := ["turnery/code.ways"], apart := false, laid := [("turnery/code.ways", laid_turnery_code_ways)], narrowed := true }
def SsaMeansUptoSaid : Prop := ssaMeansUptoRow.holds Tryz.pinned (OpenSpec.upto ssaMeansSpec)

end Rows
end Go.Proofs.YthfhgolkafpmnaaGreatDoor
