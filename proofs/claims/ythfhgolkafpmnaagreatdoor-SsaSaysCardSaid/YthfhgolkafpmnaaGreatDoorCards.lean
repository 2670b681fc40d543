/-
  DERIVED. GIVEN WITH THE SEED: THE CARDS: each row of YthfhgolkafpmnaaGreatDoorRows.lean that lists a variable, with what it lists TIED to the program's text (the seventh form; the later family's looks); each row that meets fmt, with fmt's text TOLD by the authors' own Lean function (tested against real Go, not proved from fmt's source: count such statements apart). THE CARD IS WHAT COUNTS. Prove the row's statement (the work); the ties are given (YthfhgolkafpmnaaGreatDoorTie.lean); close each card by the builder's one call (the guide's Derived/Test/ToyasCard.lean, 'card_holds'). Laid BY PROGRAM, IN A SANDBOX (cutbox-door.mjs). By AI agents, Wed Nov 11 2026. No macro, syntax, notation, axiom, sorry.
-/
import Derived.Test.YthfhgolkafpmnaaGreatDoorRows
import GoSem.ClaimSeven
namespace Go.Proofs.YthfhgolkafpmnaaGreatDoor
namespace Rows

/-- THE TIED CARD OF 'turnerylaw3.SsaSays'. -/
def ssaSaysCard : Claim7 := { stood := { row := ssaSaysRow, standIns := [], harness := (true, "8669ead4b32728fdf9e29d04b7d2b6c73694481c33b05d9cc4f7bf77e8b7237f"), looks := false }, kinds := [], alts := [], laidByText := true, laidKinds := [.data], laidTests := true, laidLooks := .later }
def SsaSaysCardSaid : Prop := Claim7.holds Tryz.pinned (.plain (OpenSpec.ofChange ssaSaysSpec)) ssaSaysCard

/-- THE TIED CARD OF 'turnerylaw3.SsaPruned'. -/
def ssaPrunedCard : Claim7 := { stood := { row := ssaPrunedRow, standIns := [], harness := (true, "8669ead4b32728fdf9e29d04b7d2b6c73694481c33b05d9cc4f7bf77e8b7237f"), looks := false }, kinds := [], alts := [], laidByText := true, laidKinds := [.data], laidTests := true, laidLooks := .later }
def SsaPrunedCardSaid : Prop := Claim7.holds Tryz.pinned (.plain (OpenSpec.ofChange ssaPrunedSpec)) ssaPrunedCard

/-- THE TIED CARD OF 'turnerylaw3.SsaOne'. -/
def ssaOneCard : Claim7 := { stood := { row := ssaOneRow, standIns := [], harness := (true, "8669ead4b32728fdf9e29d04b7d2b6c73694481c33b05d9cc4f7bf77e8b7237f"), looks := false }, kinds := [], alts := [], laidByText := true, laidKinds := [.data], laidTests := true, laidLooks := .later }
def SsaOneCardSaid : Prop := Claim7.holds Tryz.pinned (.plain (OpenSpec.ofChange ssaOneSpec)) ssaOneCard

/-- THE TIED CARD OF 'turnerylaw3.SsaUnwritten'. -/
def ssaUnwrittenCard : Claim7 := { stood := { row := ssaUnwrittenRow, standIns := [], harness := (true, "8669ead4b32728fdf9e29d04b7d2b6c73694481c33b05d9cc4f7bf77e8b7237f"), looks := false }, kinds := [], alts := [], laidByText := true, laidKinds := [.data], laidTests := true, laidLooks := .later }
def SsaUnwrittenCardSaid : Prop := Claim7.holds Tryz.pinned (.plain (OpenSpec.ofChange ssaUnwrittenSpec)) ssaUnwrittenCard

/-- THE TIED CARD OF 'turnerylaw3.SsaSteps'. -/
def ssaStepsCard : Claim7 := { stood := { row := ssaStepsRow, standIns := [], harness := (true, "8669ead4b32728fdf9e29d04b7d2b6c73694481c33b05d9cc4f7bf77e8b7237f"), looks := false }, kinds := [], alts := [], laidByText := true, laidKinds := [.data], laidTests := true, laidLooks := .later }
def SsaStepsCardSaid : Prop := Claim7.holds Tryz.pinned (.plain (OpenSpec.ofChange ssaStepsSpec)) ssaStepsCard

/-- THE TIED CARD OF 'turnerylaw3.SsaMeans'. -/
def ssaMeansCard : Claim7 := { stood := { row := ssaMeansRow, standIns := [], harness := (true, "8669ead4b32728fdf9e29d04b7d2b6c73694481c33b05d9cc4f7bf77e8b7237f"), looks := false }, kinds := [], alts := [], laidByText := true, laidKinds := [.data], laidTests := true, laidLooks := .later }
def SsaMeansCardSaid : Prop := Claim7.holds Tryz.pinned (.plain (OpenSpec.ofChange ssaMeansSpec)) ssaMeansCard

/-- THE SECOND FORM's CARD OF 'turnerylaw3.SsaSays'. -/
def ssaSaysUptoCard : Claim7 := { stood := { row := ssaSaysUptoRow, standIns := [], harness := (true, "8669ead4b32728fdf9e29d04b7d2b6c73694481c33b05d9cc4f7bf77e8b7237f"), looks := false }, kinds := [], alts := [], laidByText := true, laidKinds := [.data], laidTests := true, laidLooks := .later }
def SsaSaysUptoCardSaid : Prop := Claim7.holds Tryz.pinned (.plain (OpenSpec.upto ssaSaysSpec)) ssaSaysUptoCard

/-- THE SECOND FORM's CARD OF 'turnerylaw3.SsaPruned'. -/
def ssaPrunedUptoCard : Claim7 := { stood := { row := ssaPrunedUptoRow, standIns := [], harness := (true, "8669ead4b32728fdf9e29d04b7d2b6c73694481c33b05d9cc4f7bf77e8b7237f"), looks := false }, kinds := [], alts := [], laidByText := true, laidKinds := [.data], laidTests := true, laidLooks := .later }
def SsaPrunedUptoCardSaid : Prop := Claim7.holds Tryz.pinned (.plain (OpenSpec.upto ssaPrunedSpec)) ssaPrunedUptoCard

/-- THE SECOND FORM's CARD OF 'turnerylaw3.SsaOne'. -/
def ssaOneUptoCard : Claim7 := { stood := { row := ssaOneUptoRow, standIns := [], harness := (true, "8669ead4b32728fdf9e29d04b7d2b6c73694481c33b05d9cc4f7bf77e8b7237f"), looks := false }, kinds := [], alts := [], laidByText := true, laidKinds := [.data], laidTests := true, laidLooks := .later }
def SsaOneUptoCardSaid : Prop := Claim7.holds Tryz.pinned (.plain (OpenSpec.upto ssaOneSpec)) ssaOneUptoCard

/-- THE SECOND FORM's CARD OF 'turnerylaw3.SsaUnwritten'. -/
def ssaUnwrittenUptoCard : Claim7 := { stood := { row := ssaUnwrittenUptoRow, standIns := [], harness := (true, "8669ead4b32728fdf9e29d04b7d2b6c73694481c33b05d9cc4f7bf77e8b7237f"), looks := false }, kinds := [], alts := [], laidByText := true, laidKinds := [.data], laidTests := true, laidLooks := .later }
def SsaUnwrittenUptoCardSaid : Prop := Claim7.holds Tryz.pinned (.plain (OpenSpec.upto ssaUnwrittenSpec)) ssaUnwrittenUptoCard

/-- THE SECOND FORM's CARD OF 'turnerylaw3.SsaSteps'. -/
def ssaStepsUptoCard : Claim7 := { stood := { row := ssaStepsUptoRow, standIns := [], harness := (true, "8669ead4b32728fdf9e29d04b7d2b6c73694481c33b05d9cc4f7bf77e8b7237f"), looks := false }, kinds := [], alts := [], laidByText := true, laidKinds := [.data], laidTests := true, laidLooks := .later }
def SsaStepsUptoCardSaid : Prop := Claim7.holds Tryz.pinned (.plain (OpenSpec.upto ssaStepsSpec)) ssaStepsUptoCard

/-- THE SECOND FORM's CARD OF 'turnerylaw3.SsaMeans'. -/
def ssaMeansUptoCard : Claim7 := { stood := { row := ssaMeansUptoRow, standIns := [], harness := (true, "8669ead4b32728fdf9e29d04b7d2b6c73694481c33b05d9cc4f7bf77e8b7237f"), looks := false }, kinds := [], alts := [], laidByText := true, laidKinds := [.data], laidTests := true, laidLooks := .later }
def SsaMeansUptoCardSaid : Prop := Claim7.holds Tryz.pinned (.plain (OpenSpec.upto ssaMeansSpec)) ssaMeansUptoCard
end Rows
end Go.Proofs.YthfhgolkafpmnaaGreatDoor
