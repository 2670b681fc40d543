/-
  NARROWER THAN 'FOR EVERY INPUT', by the rows' own cells (each row's printed sentence says how): LiveFlows: laid · SsaChecks: laid · GraphBacks: laid · DomTables: laid · GraphOrder: laid · DomChain: laid · GraphRing: laid · DomMeets: laid · DomMeet: laid · LoopsTames: laid · LoopsSays: laid · LoopsDeeps: laid · LoopsRound: laid · LoopsNest: laid.
  DERIVED. THE GIVEN ROWS OF THIS SEAT. 14 by the template 'for every input the law returns true; each argument reads behind the call as it read before'; 0 by the template 'total and deterministic' (their statements: YtoahickmkkcneaaDoorTotals.lean).
  GIVEN WITH THE SEED: the statements are not yours to turn. If you find one false, say at which input.
  Laid BY PROGRAM, IN A SANDBOX (cutbox-rows.mjs): the forced cells as the released guide's own fill.sh prints them over the translation e6bac2965b7150bc… (all of the seat's roots in one cut). By AI agents, Wed Nov 11 2026. No macro, syntax, notation, axiom, sorry.
-/
import Derived.Test.YtoahickmkkcneaaDoorChecked
import GoSem.Claim
import GoSem.ClaimJoined
import GoSem.ClaimMapViews
import Derived.JoinedTies
import Derived.KernelRfl
namespace Go.Proofs.YtoahickmkkcneaaDoor
/- THE CELL 'sum', in the pinned program and in every row, IS THE sha256 OF THE DUMP (.gsa) THAT YtoahickmkkcneaaDoorProg.lean LOADS. Nothing in Lean hashes anything: it is a label: what it is worth is what the hold of that sum in a sandbox is worth. -/
noncomputable def Tryd.pinned : Pinned := { name := "ytoahickmkkcneaadoor", sum := "e6bac2965b7150bc3747c0fea70f4ebe76ee0dcc436bb16505a5906505c64787", checked := Tryd.checked }
namespace Rows
def none {H : Type} : Left H := { results := [], args := [] }

/- WHAT THE LISTED PACKAGE-LEVEL VARIABLES READ AS WHEN THE CALL BEGINS. Each datum BY PROGRAM (the guide's laid-datum.mjs) off the statement by which the dump's own 'gosem.cut.vars' lays the variable. In a bare row this is a premise. The card (YtoahickmkkcneaaDoorCards.lean) ties it to the program's text. -/
def laid_turnery_code_ways {H : Type} : DataW H := .agg [.lit (.int .i64 0), .lit (.int .i64 0), .lit (.int .i64 1), .lit (.int .i64 2)]

/-- 'turnerylaw3.LiveFlows': WHATEVER THE INPUT: true; the input reads as it did. -/
def liveFlowsSpec : ChangeSpec := { name := "liveFlows", fn := fun _ => fun
  | [d1, d2] => { results := [.lit (.bool true)], args := [d1, d2] }
  | _ => none }
def liveFlowsRow : OpenClaim := { program := "ytoahickmkkcneaadoor", sum := "e6bac2965b7150bc3747c0fea70f4ebe76ee0dcc436bb16505a5906505c64787", func := "turnery/turnerylaw3.LiveFlows", spec := "liveFlows", unfollowed := true, recurses := true, named := ["turnery/code.ways"], apart := false, laid := [("turnery/code.ways", laid_turnery_code_ways)] }
def LiveFlowsSaid : Prop := liveFlowsRow.holds Tryd.pinned (OpenSpec.ofChange liveFlowsSpec)

/-- ITS FALSE NEIGHBOUR: 'it returns false'. Refute it at one input. -/
def liveFlowsWrong : ChangeSpec := { name := "liveFlows", fn := fun _ => fun
  | [d1, d2] => { results := [.lit (.bool false)], args := [d1, d2] }
  | _ => none }
def LiveFlowsWrongFalsely : Prop := liveFlowsRow.holds Tryd.pinned (OpenSpec.ofChange liveFlowsWrong)

/-- 'turnerylaw3.SsaChecks': WHATEVER THE INPUT: true; the input reads as it did. -/
def ssaChecksSpec : ChangeSpec := { name := "ssaChecks", fn := fun _ => fun
  | [d] => { results := [.lit (.bool true)], args := [d] }
  | _ => none }
def ssaChecksRow : OpenClaim := { program := "ytoahickmkkcneaadoor", sum := "e6bac2965b7150bc3747c0fea70f4ebe76ee0dcc436bb16505a5906505c64787", func := "turnery/turnerylaw3.SsaChecks", spec := "ssaChecks", unfollowed := true, recurses := true, named := ["turnery/code.ways"], apart := false, laid := [("turnery/code.ways", laid_turnery_code_ways)] }
def SsaChecksSaid : Prop := ssaChecksRow.holds Tryd.pinned (OpenSpec.ofChange ssaChecksSpec)

/-- ITS FALSE NEIGHBOUR: 'it returns false'. Refute it at one input. -/
def ssaChecksWrong : ChangeSpec := { name := "ssaChecks", fn := fun _ => fun
  | [d] => { results := [.lit (.bool false)], args := [d] }
  | _ => none }
def SsaChecksWrongFalsely : Prop := ssaChecksRow.holds Tryd.pinned (OpenSpec.ofChange ssaChecksWrong)

/-- 'turnerylaw3.GraphBacks': WHATEVER THE INPUT: true; the input reads as it did. -/
def graphBacksSpec : ChangeSpec := { name := "graphBacks", fn := fun _ => fun
  | [d1, d2] => { results := [.lit (.bool true)], args := [d1, d2] }
  | _ => none }
def graphBacksRow : OpenClaim := { program := "ytoahickmkkcneaadoor", sum := "e6bac2965b7150bc3747c0fea70f4ebe76ee0dcc436bb16505a5906505c64787", func := "turnery/turnerylaw3.GraphBacks", spec := "graphBacks", unfollowed := true, recurses := true, named := ["turnery/code.ways"], apart := false, laid := [("turnery/code.ways", laid_turnery_code_ways)] }
def GraphBacksSaid : Prop := graphBacksRow.holds Tryd.pinned (OpenSpec.ofChange graphBacksSpec)

/-- ITS FALSE NEIGHBOUR: 'it returns false'. Refute it at one input. -/
def graphBacksWrong : ChangeSpec := { name := "graphBacks", fn := fun _ => fun
  | [d1, d2] => { results := [.lit (.bool false)], args := [d1, d2] }
  | _ => none }
def GraphBacksWrongFalsely : Prop := graphBacksRow.holds Tryd.pinned (OpenSpec.ofChange graphBacksWrong)

/-- 'turnerylaw3.DomTables': WHATEVER THE INPUT: true; the input reads as it did. -/
def domTablesSpec : ChangeSpec := { name := "domTables", fn := fun _ => fun
  | [d1, d2] => { results := [.lit (.bool true)], args := [d1, d2] }
  | _ => none }
def domTablesRow : OpenClaim := { program := "ytoahickmkkcneaadoor", sum := "e6bac2965b7150bc3747c0fea70f4ebe76ee0dcc436bb16505a5906505c64787", func := "turnery/turnerylaw3.DomTables", spec := "domTables", unfollowed := true, recurses := true, named := ["turnery/code.ways"], apart := false, laid := [("turnery/code.ways", laid_turnery_code_ways)] }
def DomTablesSaid : Prop := domTablesRow.holds Tryd.pinned (OpenSpec.ofChange domTablesSpec)

/-- ITS FALSE NEIGHBOUR: 'it returns false'. Refute it at one input. -/
def domTablesWrong : ChangeSpec := { name := "domTables", fn := fun _ => fun
  | [d1, d2] => { results := [.lit (.bool false)], args := [d1, d2] }
  | _ => none }
def DomTablesWrongFalsely : Prop := domTablesRow.holds Tryd.pinned (OpenSpec.ofChange domTablesWrong)

/-- 'turnerylaw3.GraphOrder': WHATEVER THE INPUT: true; the input reads as it did. -/
def graphOrderSpec : ChangeSpec := { name := "graphOrder", fn := fun _ => fun
  | [d1, d2] => { results := [.lit (.bool true)], args := [d1, d2] }
  | _ => none }
def graphOrderRow : OpenClaim := { program := "ytoahickmkkcneaadoor", sum := "e6bac2965b7150bc3747c0fea70f4ebe76ee0dcc436bb16505a5906505c64787", func := "turnery/turnerylaw3.GraphOrder", spec := "graphOrder", unfollowed := true, recurses := true, named := ["turnery/code.ways"], apart := false, laid := [("turnery/code.ways", laid_turnery_code_ways)] }
def GraphOrderSaid : Prop := graphOrderRow.holds Tryd.pinned (OpenSpec.ofChange graphOrderSpec)

/-- ITS FALSE NEIGHBOUR: 'it returns false'. Refute it at one input. -/
def graphOrderWrong : ChangeSpec := { name := "graphOrder", fn := fun _ => fun
  | [d1, d2] => { results := [.lit (.bool false)], args := [d1, d2] }
  | _ => none }
def GraphOrderWrongFalsely : Prop := graphOrderRow.holds Tryd.pinned (OpenSpec.ofChange graphOrderWrong)

/-- 'turnerylaw3.DomChain': WHATEVER THE INPUT: true; the input reads as it did. -/
def domChainSpec : ChangeSpec := { name := "domChain", fn := fun _ => fun
  | [d1, d2] => { results := [.lit (.bool true)], args := [d1, d2] }
  | _ => none }
def domChainRow : OpenClaim := { program := "ytoahickmkkcneaadoor", sum := "e6bac2965b7150bc3747c0fea70f4ebe76ee0dcc436bb16505a5906505c64787", func := "turnery/turnerylaw3.DomChain", spec := "domChain", unfollowed := true, recurses := true, named := ["turnery/code.ways"], apart := false, laid := [("turnery/code.ways", laid_turnery_code_ways)] }
def DomChainSaid : Prop := domChainRow.holds Tryd.pinned (OpenSpec.ofChange domChainSpec)

/-- ITS FALSE NEIGHBOUR: 'it returns false'. Refute it at one input. -/
def domChainWrong : ChangeSpec := { name := "domChain", fn := fun _ => fun
  | [d1, d2] => { results := [.lit (.bool false)], args := [d1, d2] }
  | _ => none }
def DomChainWrongFalsely : Prop := domChainRow.holds Tryd.pinned (OpenSpec.ofChange domChainWrong)

/-- 'turnerylaw3.GraphRing': WHATEVER THE INPUT: true; the input reads as it did. -/
def graphRingSpec : ChangeSpec := { name := "graphRing", fn := fun _ => fun
  | [d1, d2] => { results := [.lit (.bool true)], args := [d1, d2] }
  | _ => none }
def graphRingRow : OpenClaim := { program := "ytoahickmkkcneaadoor", sum := "e6bac2965b7150bc3747c0fea70f4ebe76ee0dcc436bb16505a5906505c64787", func := "turnery/turnerylaw3.GraphRing", spec := "graphRing", unfollowed := true, recurses := true, named := ["turnery/code.ways"], apart := false, laid := [("turnery/code.ways", laid_turnery_code_ways)] }
def GraphRingSaid : Prop := graphRingRow.holds Tryd.pinned (OpenSpec.ofChange graphRingSpec)

/-- ITS FALSE NEIGHBOUR: 'it returns false'. Refute it at one input. -/
def graphRingWrong : ChangeSpec := { name := "graphRing", fn := fun _ => fun
  | [d1, d2] => { results := [.lit (.bool false)], args := [d1, d2] }
  | _ => none }
def GraphRingWrongFalsely : Prop := graphRingRow.holds Tryd.pinned (OpenSpec.ofChange graphRingWrong)

/-- 'turnerylaw3.DomMeets': WHATEVER THE INPUT: true; the input reads as it did. -/
def domMeetsSpec : ChangeSpec := { name := "domMeets", fn := fun _ => fun
  | [d1, d2, d3] => { results := [.lit (.bool true)], args := [d1, d2, d3] }
  | _ => none }
def domMeetsRow : OpenClaim := { program := "ytoahickmkkcneaadoor", sum := "e6bac2965b7150bc3747c0fea70f4ebe76ee0dcc436bb16505a5906505c64787", func := "turnery/turnerylaw3.DomMeets", spec := "domMeets", unfollowed := true, recurses := true, named := ["turnery/code.ways"], apart := false, laid := [("turnery/code.ways", laid_turnery_code_ways)] }
def DomMeetsSaid : Prop := domMeetsRow.holds Tryd.pinned (OpenSpec.ofChange domMeetsSpec)

/-- ITS FALSE NEIGHBOUR: 'it returns false'. Refute it at one input. -/
def domMeetsWrong : ChangeSpec := { name := "domMeets", fn := fun _ => fun
  | [d1, d2, d3] => { results := [.lit (.bool false)], args := [d1, d2, d3] }
  | _ => none }
def DomMeetsWrongFalsely : Prop := domMeetsRow.holds Tryd.pinned (OpenSpec.ofChange domMeetsWrong)

/-- 'turnerylaw3.DomMeet': WHATEVER THE INPUT: true; the input reads as it did. -/
def domMeetSpec : ChangeSpec := { name := "domMeet", fn := fun _ => fun
  | [d1, d2, d3, d4] => { results := [.lit (.bool true)], args := [d1, d2, d3, d4] }
  | _ => none }
def domMeetRow : OpenClaim := { program := "ytoahickmkkcneaadoor", sum := "e6bac2965b7150bc3747c0fea70f4ebe76ee0dcc436bb16505a5906505c64787", func := "turnery/turnerylaw3.DomMeet", spec := "domMeet", unfollowed := true, recurses := true, named := ["turnery/code.ways"], apart := false, laid := [("turnery/code.ways", laid_turnery_code_ways)] }
def DomMeetSaid : Prop := domMeetRow.holds Tryd.pinned (OpenSpec.ofChange domMeetSpec)

/-- ITS FALSE NEIGHBOUR: 'it returns false'. Refute it at one input. -/
def domMeetWrong : ChangeSpec := { name := "domMeet", fn := fun _ => fun
  | [d1, d2, d3, d4] => { results := [.lit (.bool false)], args := [d1, d2, d3, d4] }
  | _ => none }
def DomMeetWrongFalsely : Prop := domMeetRow.holds Tryd.pinned (OpenSpec.ofChange domMeetWrong)

/-- 'turnerylaw3.LoopsTames': WHATEVER THE INPUT: true; the input reads as it did. -/
def loopsTamesSpec : ChangeSpec := { name := "loopsTames", fn := fun _ => fun
  | [d1, d2] => { results := [.lit (.bool true)], args := [d1, d2] }
  | _ => none }
def loopsTamesRow : OpenClaim := { program := "ytoahickmkkcneaadoor", sum := "e6bac2965b7150bc3747c0fea70f4ebe76ee0dcc436bb16505a5906505c64787", func := "turnery/turnerylaw3.LoopsTames", spec := "loopsTames", unfollowed := true, recurses := true, named := ["turnery/code.ways"], apart := false, laid := [("turnery/code.ways", laid_turnery_code_ways)] }
def LoopsTamesSaid : Prop := loopsTamesRow.holds Tryd.pinned (OpenSpec.ofChange loopsTamesSpec)

/-- ITS FALSE NEIGHBOUR: 'it returns false'. Refute it at one input. -/
def loopsTamesWrong : ChangeSpec := { name := "loopsTames", fn := fun _ => fun
  | [d1, d2] => { results := [.lit (.bool false)], args := [d1, d2] }
  | _ => none }
def LoopsTamesWrongFalsely : Prop := loopsTamesRow.holds Tryd.pinned (OpenSpec.ofChange loopsTamesWrong)

/-- 'turnerylaw3.LoopsSays': WHATEVER THE INPUT: true; the input reads as it did. -/
def loopsSaysSpec : ChangeSpec := { name := "loopsSays", fn := fun _ => fun
  | [d1, d2] => { results := [.lit (.bool true)], args := [d1, d2] }
  | _ => none }
def loopsSaysRow : OpenClaim := { program := "ytoahickmkkcneaadoor", sum := "e6bac2965b7150bc3747c0fea70f4ebe76ee0dcc436bb16505a5906505c64787", func := "turnery/turnerylaw3.LoopsSays", spec := "loopsSays", unfollowed := true, recurses := true, named := ["turnery/code.ways"], apart := false, laid := [("turnery/code.ways", laid_turnery_code_ways)] }
def LoopsSaysSaid : Prop := loopsSaysRow.holds Tryd.pinned (OpenSpec.ofChange loopsSaysSpec)

/-- ITS FALSE NEIGHBOUR: 'it returns false'. Refute it at one input. -/
def loopsSaysWrong : ChangeSpec := { name := "loopsSays", fn := fun _ => fun
  | [d1, d2] => { results := [.lit (.bool false)], args := [d1, d2] }
  | _ => none }
def LoopsSaysWrongFalsely : Prop := loopsSaysRow.holds Tryd.pinned (OpenSpec.ofChange loopsSaysWrong)

/-- 'turnerylaw3.LoopsDeeps': WHATEVER THE INPUT: true; the input reads as it did. -/
def loopsDeepsSpec : ChangeSpec := { name := "loopsDeeps", fn := fun _ => fun
  | [d1, d2] => { results := [.lit (.bool true)], args := [d1, d2] }
  | _ => none }
def loopsDeepsRow : OpenClaim := { program := "ytoahickmkkcneaadoor", sum := "e6bac2965b7150bc3747c0fea70f4ebe76ee0dcc436bb16505a5906505c64787", func := "turnery/turnerylaw3.LoopsDeeps", spec := "loopsDeeps", unfollowed := true, recurses := true, named := ["turnery/code.ways"], apart := false, laid := [("turnery/code.ways", laid_turnery_code_ways)] }
def LoopsDeepsSaid : Prop := loopsDeepsRow.holds Tryd.pinned (OpenSpec.ofChange loopsDeepsSpec)

/-- ITS FALSE NEIGHBOUR: 'it returns false'. Refute it at one input. -/
def loopsDeepsWrong : ChangeSpec := { name := "loopsDeeps", fn := fun _ => fun
  | [d1, d2] => { results := [.lit (.bool false)], args := [d1, d2] }
  | _ => none }
def LoopsDeepsWrongFalsely : Prop := loopsDeepsRow.holds Tryd.pinned (OpenSpec.ofChange loopsDeepsWrong)

/-- 'turnerylaw3.LoopsRound': WHATEVER THE INPUT: true; the input reads as it did. -/
def loopsRoundSpec : ChangeSpec := { name := "loopsRound", fn := fun _ => fun
  | [d1, d2] => { results := [.lit (.bool true)], args := [d1, d2] }
  | _ => none }
def loopsRoundRow : OpenClaim := { program := "ytoahickmkkcneaadoor", sum := "e6bac2965b7150bc3747c0fea70f4ebe76ee0dcc436bb16505a5906505c64787", func := "turnery/turnerylaw3.LoopsRound", spec := "loopsRound", unfollowed := true, recurses := true, named := ["turnery/code.ways"], apart := false, laid := [("turnery/code.ways", laid_turnery_code_ways)] }
def LoopsRoundSaid : Prop := loopsRoundRow.holds Tryd.pinned (OpenSpec.ofChange loopsRoundSpec)

/-- ITS FALSE NEIGHBOUR: 'it returns false'. Refute it at one input. -/
def loopsRoundWrong : ChangeSpec := { name := "loopsRound", fn := fun _ => fun
  | [d1, d2] => { results := [.lit (.bool false)], args := [d1, d2] }
  | _ => none }
def LoopsRoundWrongFalsely : Prop := loopsRoundRow.holds Tryd.pinned (OpenSpec.ofChange loopsRoundWrong)

/-- 'turnerylaw3.LoopsNest': WHATEVER THE INPUT: true; the input reads as it did. -/
def loopsNestSpec : ChangeSpec := { name := "loopsNest", fn := fun _ => fun
  | [d1, d2] => { results := [.lit (.bool true)], args := [d1, d2] }
  | _ => none }
def loopsNestRow : OpenClaim := { program := "ytoahickmkkcneaadoor", sum := "e6bac2965b7150bc3747c0fea70f4ebe76ee0dcc436bb16505a5906505c64787", func := "turnery/turnerylaw3.LoopsNest", spec := "loopsNest", unfollowed := true, recurses := true, named := ["turnery/code.ways"], apart := false, laid := [("turnery/code.ways", laid_turnery_code_ways)] }
def LoopsNestSaid : Prop := loopsNestRow.holds Tryd.pinned (OpenSpec.ofChange loopsNestSpec)

/-- ITS FALSE NEIGHBOUR: 'it returns false'. Refute it at one input. -/
def loopsNestWrong : ChangeSpec := { name := "loopsNest", fn := fun _ => fun
  | [d1, d2] => { results := [.lit (.bool false)], args := [d1, d2] }
  | _ => none }
def LoopsNestWrongFalsely : Prop := loopsNestRow.holds Tryd.pinned (OpenSpec.ofChange loopsNestWrong)

/- THE SECOND FORM. 'bulk': how many values and letters a reading holds, each counted each time it is reached (what is shared counts as often as it is met; a slice's spare places count too). A statement '..UptoSaid' is the law's where the arguments, and the package variables that the reading takes, are together of bulk at most 1048576: NARROWER than '..Said'. Prove '..Said' where nothing that the law and all that it calls make is longer than what came in: it says more and counts as full. Else prove '..UptoSaid'. A law counts once. -/
mutual
def uptoBulk {H : Type} : DataW H → Nat
  | .lit (.string bytes) => bytes.length + 1
  | .lit _ => 1
  | .nil => 1
  | .ptr d => uptoBulk d + 1
  | .slice elems spare => uptoBulkAll elems + uptoBulkAll spare + 1
  | .agg parts => uptoBulkAll parts + 1
  | .iface _ d => uptoBulk d + 1
  | .map entries => uptoBulkEntries entries + 1
  | .held _ => 1
def uptoBulkAll {H : Type} : List (DataW H) → Nat
  | [] => 0
  | d :: r => uptoBulk d + uptoBulkAll r
def uptoBulkEntries {H : Type} : List (Lit × DataW H) → Nat
  | [] => 0
  | x :: r => uptoBulkEntry x + uptoBulkEntries r
def uptoBulkEntry {H : Type} : Lit × DataW H → Nat
  | (.string bytes, d) => bytes.length + uptoBulk d + 1
  | (_, d) => uptoBulk d + 1
 end
def uptoSmall : (H : Type) → List (DataW H) → Bool := fun _ ds => decide (uptoBulkAll ds ≤ 1048576)
def OpenSpec.upto (s : _root_.Go.ChangeSpec) : _root_.Go.OpenSpec := { _root_.Go.OpenSpec.ofChange s with cond := some uptoSmall }

/-- 'turnerylaw3.LiveFlows', WHERE WHAT IT READS IS OF BULK AT MOST 1048576: true; the input reads as it did. -/
def liveFlowsUptoRow : OpenClaim := { program := "ytoahickmkkcneaadoor", sum := "e6bac2965b7150bc3747c0fea70f4ebe76ee0dcc436bb16505a5906505c64787", func := "turnery/turnerylaw3.LiveFlows", spec := "liveFlows", unfollowed := true, recurses := true, named := ["turnery/code.ways"], apart := false, laid := [("turnery/code.ways", laid_turnery_code_ways)], narrowed := true }
def LiveFlowsUptoSaid : Prop := liveFlowsUptoRow.holds Tryd.pinned (OpenSpec.upto liveFlowsSpec)

/-- 'turnerylaw3.SsaChecks', WHERE WHAT IT READS IS OF BULK AT MOST 1048576: true; the input reads as it did. -/
def ssaChecksUptoRow : OpenClaim := { program := "ytoahickmkkcneaadoor", sum := "e6bac2965b7150bc3747c0fea70f4ebe76ee0dcc436bb16505a5906505c64787", func := "turnery/turnerylaw3.SsaChecks", spec := "ssaChecks", unfollowed := true, recurses := true, named := ["turnery/code.ways"], apart := false, laid := [("turnery/code.ways", laid_turnery_code_ways)], narrowed := true }
def SsaChecksUptoSaid : Prop := ssaChecksUptoRow.holds Tryd.pinned (OpenSpec.upto ssaChecksSpec)

/-- 'turnerylaw3.GraphBacks', WHERE WHAT IT READS IS OF BULK AT MOST 1048576: true; the input reads as it did. -/
def graphBacksUptoRow : OpenClaim := { program := "ytoahickmkkcneaadoor", sum := "e6bac2965b7150bc3747c0fea70f4ebe76ee0dcc436bb16505a5906505c64787", func := "turnery/turnerylaw3.GraphBacks", spec := "graphBacks", unfollowed := true, recurses := true, named := ["turnery/code.ways"], apart := false, laid := [("turnery/code.ways", laid_turnery_code_ways)], narrowed := true }
def GraphBacksUptoSaid : Prop := graphBacksUptoRow.holds Tryd.pinned (OpenSpec.upto graphBacksSpec)

/-- 'turnerylaw3.DomTables', WHERE WHAT IT READS IS OF BULK AT MOST 1048576: true; the input reads as it did. -/
def domTablesUptoRow : OpenClaim := { program := "ytoahickmkkcneaadoor", sum := "e6bac2965b7150bc3747c0fea70f4ebe76ee0dcc436bb16505a5906505c64787", func := "turnery/turnerylaw3.DomTables", spec := "domTables", unfollowed := true, recurses := true, named := ["turnery/code.ways"], apart := false, laid := [("turnery/code.ways", laid_turnery_code_ways)], narrowed := true }
def DomTablesUptoSaid : Prop := domTablesUptoRow.holds Tryd.pinned (OpenSpec.upto domTablesSpec)

/-- 'turnerylaw3.GraphOrder', WHERE WHAT IT READS IS OF BULK AT MOST 1048576: true; the input reads as it did. -/
def graphOrderUptoRow : OpenClaim := { program := "ytoahickmkkcneaadoor", sum := "e6bac2965b7150bc3747c0fea70f4ebe76ee0dcc436bb16505a5906505c64787", func := "turnery/turnerylaw3.GraphOrder", spec := "graphOrder", unfollowed := true, recurses := true, named := ["turnery/code.ways"], apart := false, laid := [("turnery/code.ways", laid_turnery_code_ways)], narrowed := true }
def GraphOrderUptoSaid : Prop := graphOrderUptoRow.holds Tryd.pinned (OpenSpec.upto graphOrderSpec)

/-- 'turnerylaw3.DomChain', WHERE WHAT IT READS IS OF BULK AT MOST 1048576: true; the input reads as it did. -/
def domChainUptoRow : OpenClaim := { program := "ytoahickmkkcneaadoor", sum := "e6bac2965b7150bc3747c0fea70f4ebe76ee0dcc436bb16505a5906505c64787", func := "turnery/turnerylaw3.DomChain", spec := "domChain", unfollowed := true, recurses := true, named := ["turnery/code.ways"], apart := false, laid := [("turnery/code.ways", laid_turnery_code_ways)], narrowed := true }
def DomChainUptoSaid : Prop := domChainUptoRow.holds Tryd.pinned (OpenSpec.upto domChainSpec)

/-- 'turnerylaw3.GraphRing', WHERE WHAT IT READS IS OF BULK AT MOST 1048576: true; the input reads as it did. -/
def graphRingUptoRow : OpenClaim := { program := "ytoahickmkkcneaadoor", sum := "e6bac2965b7150bc3747c0fea70f4ebe76ee0dcc436bb16505a5906505c64787", func := "turnery/turnerylaw3.GraphRing", spec := "graphRing", unfollowed := true, recurses := true, named := ["turnery/code.ways"], apart := false, laid := [("turnery/code.ways", laid_turnery_code_ways)], narrowed := true }
def GraphRingUptoSaid : Prop := graphRingUptoRow.holds Tryd.pinned (OpenSpec.upto graphRingSpec)

/-- 'turnerylaw3.DomMeets', WHERE WHAT IT READS IS OF BULK AT MOST 1048576: true; the input reads as it did. -/
def domMeetsUptoRow : OpenClaim := { program := "ytoahickmkkcneaadoor", sum := "e6bac2965b7150bc3747c0fea70f4ebe76ee0dcc436bb16505a5906505c64787", func := "turnery/turnerylaw3.DomMeets", spec := "domMeets", unfollowed := true, recurses := true, named := ["turnery/code.ways"], apart := false, laid := [("turnery/code.ways", laid_turnery_code_ways)], narrowed := true }
def DomMeetsUptoSaid : Prop := domMeetsUptoRow.holds Tryd.pinned (OpenSpec.upto domMeetsSpec)

/-- 'turnerylaw3.DomMeet', WHERE WHAT IT READS IS OF BULK AT MOST 1048576: true; the input reads as it did. -/
def domMeetUptoRow : OpenClaim := { program := "ytoahickmkkcneaadoor", sum := "e6bac2965b7150bc3747c0fea70f4ebe76ee0dcc436bb16505a5906505c64787", func := "turnery/turnerylaw3.DomMeet", spec := "domMeet", unfollowed := true, recurses := true, named := ["turnery/code.ways"], apart := false, laid := [("turnery/code.ways", laid_turnery_code_ways)], narrowed := true }
def DomMeetUptoSaid : Prop := domMeetUptoRow.holds Tryd.pinned (OpenSpec.upto domMeetSpec)

/-- 'turnerylaw3.LoopsTames', WHERE WHAT IT READS IS OF BULK AT MOST 1048576: true; the input reads as it did. -/
def loopsTamesUptoRow : OpenClaim := { program := "ytoahickmkkcneaadoor", sum := "e6bac2965b7150bc3747c0fea70f4ebe76ee0dcc436bb16505a5906505c64787", func := "turnery/turnerylaw3.LoopsTames", spec := "loopsTames", unfollowed := true, recurses := true, named := ["turnery/code.ways"], apart := false, laid := [("turnery/code.ways", laid_turnery_code_ways)], narrowed := true }
def LoopsTamesUptoSaid : Prop := loopsTamesUptoRow.holds Tryd.pinned (OpenSpec.upto loopsTamesSpec)

/-- 'turnerylaw3.LoopsSays', WHERE WHAT IT READS IS OF BULK AT MOST 1048576: true; the input reads as it did. -/
def loopsSaysUptoRow : OpenClaim := { program := "ytoahickmkkcneaadoor", sum := "e6bac2965b7150bc3747c0fea70f4ebe76ee0dcc436bb16505a5906505c64787", func := "turnery/turnerylaw3.LoopsSays", spec := "loopsSays", unfollowed := true, recurses := true, named := ["turnery/code.ways"], apart := false, laid := [("turnery/code.ways", laid_turnery_code_ways)], narrowed := true }
def LoopsSaysUptoSaid : Prop := loopsSaysUptoRow.holds Tryd.pinned (OpenSpec.upto loopsSaysSpec)

/-- 'turnerylaw3.LoopsDeeps', WHERE WHAT IT READS IS OF BULK AT MOST 1048576: true; the input reads as it did. -/
def loopsDeepsUptoRow : OpenClaim := { program := "ytoahickmkkcneaadoor", sum := "e6bac2965b7150bc3747c0fea70f4ebe76ee0dcc436bb16505a5906505c64787", func := "turnery/turnerylaw3.LoopsDeeps", spec := "loopsDeeps", unfollowed := true, recurses := true, named := ["turnery/code.ways"], apart := false, laid := [("turnery/code.ways", laid_turnery_code_ways)], narrowed := true }
def LoopsDeepsUptoSaid : Prop := loopsDeepsUptoRow.holds Tryd.pinned (OpenSpec.upto loopsDeepsSpec)

/-- 'turnerylaw3.LoopsRound', WHERE WHAT IT READS IS OF BULK AT MOST 1048576: true; the input reads as it did. -/
def loopsRoundUptoRow : OpenClaim := { program := "ytoahickmkkcneaadoor", sum := "e6bac2965b7150bc3747c0fea70f4ebe76ee0dcc436bb16505a5906505c64787", func := "turnery/turnerylaw3.LoopsRound", spec := "loopsRound", unfollowed := true, recurses := true, named := ["turnery/code.ways"], apart := false, laid := [("turnery/code.ways", laid_turnery_code_ways)], narrowed := true }
def LoopsRoundUptoSaid : Prop := loopsRoundUptoRow.holds Tryd.pinned (OpenSpec.upto loopsRoundSpec)

/-- 'turnerylaw3.LoopsNest', WHERE WHAT IT READS IS OF BULK AT MOST 1048576: true; the input reads as it did. -/
def loopsNestUptoRow : OpenClaim := { program := "ytoahickmkkcneaadoor", sum := "e6bac2965b7150bc3747c0fea70f4ebe76ee0dcc436bb16505a5906505c64787", func := "turnery/turnerylaw3.LoopsNest", spec := "loopsNest", unfollowed := true, recurses := true, named := ["turnery/code.ways"], apart := false, laid := [("turnery/code.ways", laid_turnery_code_ways)], narrowed := true }
def LoopsNestUptoSaid : Prop := loopsNestUptoRow.holds Tryd.pinned (OpenSpec.upto loopsNestSpec)

end Rows
end Go.Proofs.YtoahickmkkcneaaDoor
