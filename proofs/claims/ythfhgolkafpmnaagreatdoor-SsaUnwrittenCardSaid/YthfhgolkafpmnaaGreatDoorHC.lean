/- Texts joined: RunB RunC RunD. -/
import Derived.Test.YthfhgolkafpmnaaGreatDoorGF
import Derived.Test.YthfhgolkafpmnaaGreatDoorGM
import Derived.Test.YthfhgolkafpmnaaGreatDoorHA
namespace Go.Proofs.YthfhgolkafpmnaaGreatDoor
section
open Go Go.RowKit
attribute [local irreducible] wpListIn Code.wpIn Exit.then Exit.inBlock bodyPost wpQuiet wpAnyIn wpAnyH bodyPostM gX
set_option maxHeartbeats 8000000
instance ae6{P:Program}{N:Nat}{ds:List Deferred}{S:Nat->Prop}{w0:World}{L:List (Nat×Value)}{H:List bN}{x:Operand}{p:Addr}[hx:Ev L x (.pointer (some p))]:dz P N ds S w0 L H (.nilCheck x) (.pointer (some p)):=
 ⟨λ_ h=>(by cases h),λ_ _ h=>(by cases h),λ_ _ _ _ _ a w hF _=>by simp[execOp,hx.eq _ _ _ hF]⟩
end
end Go.Proofs.YthfhgolkafpmnaaGreatDoor
