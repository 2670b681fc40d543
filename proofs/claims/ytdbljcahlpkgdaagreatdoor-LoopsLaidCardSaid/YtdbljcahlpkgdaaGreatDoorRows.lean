/-
  NARROWER THAN 'FOR EVERY INPUT', by the rows' own cells (each row's printed sentence says how): LoopsLays: laid · LoopsLaid: laid.
  DERIVED. THE GIVEN ROWS OF THIS SEAT. 2 by the template 'for every input the law returns true; each argument reads behind the call as it read before'; 0 by the template 'total and deterministic' (their statements: YtdbljcahlpkgdaaGreatDoorTotals.lean).
  GIVEN WITH THE SEED: the statements are not yours to turn. If you find one false, say at which input.
  Laid BY PROGRAM, IN A SANDBOX (cutbox-rows.mjs): the forced cells as the released guide's own fill.sh prints them over the translation a4a0be73e6db395e… (all of the seat's roots in one cut). By AI agents, Wed Nov 11 2026. No macro, syntax, notation, axiom, sorry.
-/
import Derived.Test.YtdbljcahlpkgdaaGreatDoorChecked
import GoSem.Claim
import GoSem.ClaimJoined
import GoSem.ClaimMapViews
import Derived.JoinedTies
import Derived.KernelRfl
namespace Go.Proofs.YtdbljcahlpkgdaaGreatDoor
/- THE CELL 'sum', in the pinned program and in every row, IS THE sha256 OF THE DUMP (.gsa) THAT YtdbljcahlpkgdaaGreatDoorProg.lean LOADS. Nothing in Lean hashes anything: it is a label: what it is worth is what the hold of that sum in a sandbox is worth. -/
noncomputable def Tryz.pinned : Pinned := { name := "ytdbljcahlpkgdaagreatdoor", sum := "a4a0be73e6db395efd909ac744dad6625a7d8a9aed2ef126b5f196fd7211eac0", checked := Tryz.checked }
namespace Rows
def none {H : Type} : Left H := { results := [], args := [] }

/- WHAT THE LISTED PACKAGE-LEVEL VARIABLES READ AS WHEN THE CALL BEGINS. Each datum BY PROGRAM (the guide's laid-datum.mjs) off the statement by which the dump's own 'gosem.cut.vars' lays the variable. In a bare row this is a premise. The card (YtdbljcahlpkgdaaGreatDoorCards.lean) ties it to the program's text. -/
def laid_turnery_code_ways {H : Type} : DataW H := .agg [.lit (.int .i64 0), .lit (.int .i64 0), .lit (.int .i64 1), .lit (.int .i64 2)]

/-- 'turnerylaw3.LoopsLays': WHATEVER THE INPUT: true; the input reads as it did. -/
def loopsLaysSpec : ChangeSpec := { name := "loopsLays", fn := fun _ => fun
  | [d] => { results := [.lit (.bool true)], args := [d] }
  | _ => none }
def loopsLaysRow : OpenClaim := { program := "ytdbljcahlpkgdaagreatdoor", sum := "a4a0be73e6db395efd909ac744dad6625a7d8a9aed2ef126b5f196fd7211eac0", func := "turnery/turnerylaw3.LoopsLays", spec := "loopsLays", unfollowed := true, recurses := true, named := ["turnery/code.ways"], apart := false, laid := [("turnery/code.ways", laid_turnery_code_ways)] }
def LoopsLaysSaid : Prop := loopsLaysRow.holds Tryz.pinned (OpenSpec.ofChange loopsLaysSpec)

/-- ITS FALSE NEIGHBOUR: 'it returns false'. Refute it at one input. -/
def loopsLaysWrong : ChangeSpec := { name := "loopsLays", fn := fun _ => fun
  | [d] => { results := [.lit (.bool false)], args := [d] }
  | _ => none }
def LoopsLaysWrongFalsely : Prop := loopsLaysRow.holds Tryz.pinned (OpenSpec.ofChange loopsLaysWrong)

/-- 'turnerylaw3.LoopsLaid': WHATEVER THE INPUT: true; the input reads as it did. -/
def loopsLaidSpec : ChangeSpec := { name := "loopsLaid", fn := fun _ => fun
  | [d1, d2, d3] => { results := [.lit (.bool true)], args := [d1, d2, d3] }
  | _ => none }
def loopsLaidRow : OpenClaim := { program := "ytdbljcahlpkgdaagreatdoor", sum := "a4a0be73e6db395efd909ac744dad6625a7d8a9aed2ef126b5f196fd7211eac0", func := "turnery/turnerylaw3.LoopsLaid", spec := "loopsLaid", unfollowed := true, recurses := true, named := ["turnery/code.ways"], apart := false, laid := [("turnery/code.ways", laid_turnery_code_ways)] }
def LoopsLaidSaid : Prop := loopsLaidRow.holds Tryz.pinned (OpenSpec.ofChange loopsLaidSpec)

/-- ITS FALSE NEIGHBOUR: 'it returns false'. Refute it at one input. -/
def loopsLaidWrong : ChangeSpec := { name := "loopsLaid", fn := fun _ => fun
  | [d1, d2, d3] => { results := [.lit (.bool false)], args := [d1, d2, d3] }
  | _ => none }
def LoopsLaidWrongFalsely : Prop := loopsLaidRow.holds Tryz.pinned (OpenSpec.ofChange loopsLaidWrong)

/- THE SECOND FORM. 'bulk': how many values and letters a reading holds, each counted each time it is reached (what is shared counts as often as it is met; a slice's spare places count too). A statement '..UptoSaid' is the law's where the arguments, and the package variables that the reading takes, are together of bulk at most 1048576: NARROWER than '..Said'. Prove '..Said' where nothing that the law and all that it calls make is longer than what came in: it says more and counts as full. Else prove '..UptoSaid'. A law counts once. -/
mutual
def uptoBulk {H : Type} : DataW H → Nat
  | .lit (.string bytes) => bytes.length + 1
  | .lit _ => 1
  | .nil => 1
  | .ptr d => uptoBulk d + 1
  | .slice elems spare => uptoBulkAll elems + uptoBulkAll spare + 1
  | .agg parts => uptoBulkAll parts + 1
  | .iface _ d => uptoBulk d + 1
  | .map entries => uptoBulkEntries entries + 1
  | .held _ => 1
def uptoBulkAll {H : Type} : List (DataW H) → Nat
  | [] => 0
  | d :: r => uptoBulk d + uptoBulkAll r
def uptoBulkEntries {H : Type} : List (Lit × DataW H) → Nat
  | [] => 0
  | x :: r => uptoBulkEntry x + uptoBulkEntries r
def uptoBulkEntry {H : Type} : Lit × DataW H → Nat
  | (.string bytes, d) => bytes.length + uptoBulk d + 1
  | (_, d) => uptoBulk d + 1
 end
def uptoSmall : (H : Type) → List (DataW H) → Bool := fun _ ds => decide (uptoBulkAll ds ≤ 1048576)
def OpenSpec.upto (s : _root_.Go.ChangeSpec) : _root_.Go.OpenSpec := { _root_.Go.OpenSpec.ofChange s with cond := some uptoSmall }

/-- 'turnerylaw3.LoopsLays', WHERE WHAT IT READS IS OF BULK AT MOST 1048576: true; the input reads as it did. -/
def loopsLaysUptoRow : OpenClaim := { program := "ytdbljcahlpkgdaagreatdoor", sum := "a4a0be73e6db395efd909ac744dad6625a7d8a9aed2ef126b5f196fd7211eac0", func := "turnery/turnerylaw3.LoopsLays", spec := "loopsLays", unfollowed := true, recurses := true, named := ["turnery/code.ways"], apart := false, laid := [("turnery/code.ways", laid_turnery_code_ways)], narrowed := true }
def LoopsLaysUptoSaid : Prop := loopsLaysUptoRow.holds Tryz.pinned (OpenSpec.upto loopsLaysSpec)

/-- 'turnerylaw3.LoopsLaid', WHERE WHAT IT READS IS OF BULK AT MOST 1048576: true; the input reads as it did. -/
def loopsLaidUptoRow : OpenClaim := { program := "ytdbljcahlpkgdaagreatdoor", sum := "a4a0be73e6db395efd909ac744dad6625a7d8a9aed2ef126b5f196fd7211eac0", func := "turnery/turnerylaw3.LoopsLaid", spec := "loopsLaid", unfollowed := true, recurses := true, named := ["turnery/code.ways"], apart := false, laid := [("turnery/code.ways", laid_turnery_code_ways)], narrowed := true }
def LoopsLaidUptoSaid : Prop := loopsLaidUptoRow.holds Tryz.pinned (OpenSpec.upto loopsLaidSpec)

end Rows
end Go.Proofs.YtdbljcahlpkgdaaGreatDoor
