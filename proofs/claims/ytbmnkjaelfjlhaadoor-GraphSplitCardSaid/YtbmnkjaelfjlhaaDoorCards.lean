/-
  DERIVED. GIVEN WITH THE SEED: THE CARDS: each row of YtbmnkjaelfjlhaaDoorRows.lean that lists a variable, with what it lists TIED to the program's text (the seventh form; the later family's looks); each row that meets fmt, with fmt's text TOLD by the authors' own Lean function (tested against real Go, not proved from fmt's source: count such statements apart). THE CARD IS WHAT COUNTS. Prove the row's statement (the work); the ties are given (YtbmnkjaelfjlhaaDoorTie.lean); close each card by the builder's one call (the guide's Derived/Test/ToyasCard.lean, 'card_holds'). Laid BY PROGRAM, IN A SANDBOX (cutbox-door.mjs). By AI agents, Wed Nov 11 2026. No macro, syntax, notation, axiom, sorry.
-/
import Derived.Test.YtbmnkjaelfjlhaaDoorRows
import GoSem.ClaimSeven
namespace Go.Proofs.YtbmnkjaelfjlhaaDoor
namespace Rows

/-- THE TIED CARD OF 'turnerylaw3.GraphSplits'. -/
def graphSplitsCard : Claim7 := { stood := { row := graphSplitsRow, standIns := [], harness := (true, "90ac86cdc84d9888305de1e51e06df66c54c61e7673b8069329fcea6cabaded1"), looks := false }, kinds := [], alts := [], laidByText := true, laidKinds := [.data], laidTests := true, laidLooks := .later }
def GraphSplitsCardSaid : Prop := Claim7.holds Tryd.pinned (.plain (OpenSpec.ofChange graphSplitsSpec)) graphSplitsCard

/-- THE TIED CARD OF 'turnerylaw3.GraphSplit'. -/
def graphSplitCard : Claim7 := { stood := { row := graphSplitRow, standIns := [], harness := (true, "90ac86cdc84d9888305de1e51e06df66c54c61e7673b8069329fcea6cabaded1"), looks := false }, kinds := [], alts := [], laidByText := true, laidKinds := [.data], laidTests := true, laidLooks := .later }
def GraphSplitCardSaid : Prop := Claim7.holds Tryd.pinned (.plain (OpenSpec.ofChange graphSplitSpec)) graphSplitCard

/-- THE TIED CARD OF 'turnerylaw3.GraphSteps'. -/
def graphStepsCard : Claim7 := { stood := { row := graphStepsRow, standIns := [], harness := (true, "90ac86cdc84d9888305de1e51e06df66c54c61e7673b8069329fcea6cabaded1"), looks := false }, kinds := [], alts := [], laidByText := true, laidKinds := [.data], laidTests := true, laidLooks := .later }
def GraphStepsCardSaid : Prop := Claim7.holds Tryd.pinned (.plain (OpenSpec.ofChange graphStepsSpec)) graphStepsCard

/-- THE TIED CARD OF 'turnerylaw3.DomSure'. -/
def domSureCard : Claim7 := { stood := { row := domSureRow, standIns := [], harness := (true, "90ac86cdc84d9888305de1e51e06df66c54c61e7673b8069329fcea6cabaded1"), looks := false }, kinds := [], alts := [], laidByText := true, laidKinds := [.data], laidTests := true, laidLooks := .later }
def DomSureCardSaid : Prop := Claim7.holds Tryd.pinned (.plain (OpenSpec.ofChange domSureSpec)) domSureCard

/-- THE TIED CARD OF 'turnerylaw3.DomRuns'. -/
def domRunsCard : Claim7 := { stood := { row := domRunsRow, standIns := [], harness := (true, "90ac86cdc84d9888305de1e51e06df66c54c61e7673b8069329fcea6cabaded1"), looks := false }, kinds := [], alts := [], laidByText := true, laidKinds := [.data], laidTests := true, laidLooks := .later }
def DomRunsCardSaid : Prop := Claim7.holds Tryd.pinned (.plain (OpenSpec.ofChange domRunsSpec)) domRunsCard

/-- THE TIED CARD OF 'turnerylaw3.LiveSays'. -/
def liveSaysCard : Claim7 := { stood := { row := liveSaysRow, standIns := [], harness := (true, "90ac86cdc84d9888305de1e51e06df66c54c61e7673b8069329fcea6cabaded1"), looks := false }, kinds := [], alts := [], laidByText := true, laidKinds := [.data], laidTests := true, laidLooks := .later }
def LiveSaysCardSaid : Prop := Claim7.holds Tryd.pinned (.plain (OpenSpec.ofChange liveSaysSpec)) liveSaysCard

/-- THE TIED CARD OF 'turnerylaw3.LiveSwap'. -/
def liveSwapCard : Claim7 := { stood := { row := liveSwapRow, standIns := [], harness := (true, "90ac86cdc84d9888305de1e51e06df66c54c61e7673b8069329fcea6cabaded1"), looks := false }, kinds := [], alts := [], laidByText := true, laidKinds := [.data], laidTests := true, laidLooks := .later }
def LiveSwapCardSaid : Prop := Claim7.holds Tryd.pinned (.plain (OpenSpec.ofChange liveSwapSpec)) liveSwapCard

/-- THE TIED CARD OF 'turnerylaw3.LiveZero'. -/
def liveZeroCard : Claim7 := { stood := { row := liveZeroRow, standIns := [], harness := (true, "90ac86cdc84d9888305de1e51e06df66c54c61e7673b8069329fcea6cabaded1"), looks := false }, kinds := [], alts := [], laidByText := true, laidKinds := [.data], laidTests := true, laidLooks := .later }
def LiveZeroCardSaid : Prop := Claim7.holds Tryd.pinned (.plain (OpenSpec.ofChange liveZeroSpec)) liveZeroCard

/-- THE TIED CARD OF 'turnerylaw3.LiveMeans'. -/
def liveMeansCard : Claim7 := { stood := { row := liveMeansRow, standIns := [], harness := (true, "90ac86cdc84d9888305de1e51e06df66c54c61e7673b8069329fcea6cabaded1"), looks := false }, kinds := [], alts := [], laidByText := true, laidKinds := [.data], laidTests := true, laidLooks := .later }
def LiveMeansCardSaid : Prop := Claim7.holds Tryd.pinned (.plain (OpenSpec.ofChange liveMeansSpec)) liveMeansCard

/-- THE TIED CARD OF 'turnerylaw3.LiveSteps'. -/
def liveStepsCard : Claim7 := { stood := { row := liveStepsRow, standIns := [], harness := (true, "90ac86cdc84d9888305de1e51e06df66c54c61e7673b8069329fcea6cabaded1"), looks := false }, kinds := [], alts := [], laidByText := true, laidKinds := [.data], laidTests := true, laidLooks := .later }
def LiveStepsCardSaid : Prop := Claim7.holds Tryd.pinned (.plain (OpenSpec.ofChange liveStepsSpec)) liveStepsCard

/-- THE SECOND FORM's CARD OF 'turnerylaw3.GraphSplits'. -/
def graphSplitsUptoCard : Claim7 := { stood := { row := graphSplitsUptoRow, standIns := [], harness := (true, "90ac86cdc84d9888305de1e51e06df66c54c61e7673b8069329fcea6cabaded1"), looks := false }, kinds := [], alts := [], laidByText := true, laidKinds := [.data], laidTests := true, laidLooks := .later }
def GraphSplitsUptoCardSaid : Prop := Claim7.holds Tryd.pinned (.plain (OpenSpec.upto graphSplitsSpec)) graphSplitsUptoCard

/-- THE SECOND FORM's CARD OF 'turnerylaw3.GraphSplit'. -/
def graphSplitUptoCard : Claim7 := { stood := { row := graphSplitUptoRow, standIns := [], harness := (true, "90ac86cdc84d9888305de1e51e06df66c54c61e7673b8069329fcea6cabaded1"), looks := false }, kinds := [], alts := [], laidByText := true, laidKinds := [.data], laidTests := true, laidLooks := .later }
def GraphSplitUptoCardSaid : Prop := Claim7.holds Tryd.pinned (.plain (OpenSpec.upto graphSplitSpec)) graphSplitUptoCard

/-- THE SECOND FORM's CARD OF 'turnerylaw3.GraphSteps'. -/
def graphStepsUptoCard : Claim7 := { stood := { row := graphStepsUptoRow, standIns := [], harness := (true, "90ac86cdc84d9888305de1e51e06df66c54c61e7673b8069329fcea6cabaded1"), looks := false }, kinds := [], alts := [], laidByText := true, laidKinds := [.data], laidTests := true, laidLooks := .later }
def GraphStepsUptoCardSaid : Prop := Claim7.holds Tryd.pinned (.plain (OpenSpec.upto graphStepsSpec)) graphStepsUptoCard

/-- THE SECOND FORM's CARD OF 'turnerylaw3.DomSure'. -/
def domSureUptoCard : Claim7 := { stood := { row := domSureUptoRow, standIns := [], harness := (true, "90ac86cdc84d9888305de1e51e06df66c54c61e7673b8069329fcea6cabaded1"), looks := false }, kinds := [], alts := [], laidByText := true, laidKinds := [.data], laidTests := true, laidLooks := .later }
def DomSureUptoCardSaid : Prop := Claim7.holds Tryd.pinned (.plain (OpenSpec.upto domSureSpec)) domSureUptoCard

/-- THE SECOND FORM's CARD OF 'turnerylaw3.DomRuns'. -/
def domRunsUptoCard : Claim7 := { stood := { row := domRunsUptoRow, standIns := [], harness := (true, "90ac86cdc84d9888305de1e51e06df66c54c61e7673b8069329fcea6cabaded1"), looks := false }, kinds := [], alts := [], laidByText := true, laidKinds := [.data], laidTests := true, laidLooks := .later }
def DomRunsUptoCardSaid : Prop := Claim7.holds Tryd.pinned (.plain (OpenSpec.upto domRunsSpec)) domRunsUptoCard

/-- THE SECOND FORM's CARD OF 'turnerylaw3.LiveSays'. -/
def liveSaysUptoCard : Claim7 := { stood := { row := liveSaysUptoRow, standIns := [], harness := (true, "90ac86cdc84d9888305de1e51e06df66c54c61e7673b8069329fcea6cabaded1"), looks := false }, kinds := [], alts := [], laidByText := true, laidKinds := [.data], laidTests := true, laidLooks := .later }
def LiveSaysUptoCardSaid : Prop := Claim7.holds Tryd.pinned (.plain (OpenSpec.upto liveSaysSpec)) liveSaysUptoCard

/-- THE SECOND FORM's CARD OF 'turnerylaw3.LiveSwap'. -/
def liveSwapUptoCard : Claim7 := { stood := { row := liveSwapUptoRow, standIns := [], harness := (true, "90ac86cdc84d9888305de1e51e06df66c54c61e7673b8069329fcea6cabaded1"), looks := false }, kinds := [], alts := [], laidByText := true, laidKinds := [.data], laidTests := true, laidLooks := .later }
def LiveSwapUptoCardSaid : Prop := Claim7.holds Tryd.pinned (.plain (OpenSpec.upto liveSwapSpec)) liveSwapUptoCard

/-- THE SECOND FORM's CARD OF 'turnerylaw3.LiveZero'. -/
def liveZeroUptoCard : Claim7 := { stood := { row := liveZeroUptoRow, standIns := [], harness := (true, "90ac86cdc84d9888305de1e51e06df66c54c61e7673b8069329fcea6cabaded1"), looks := false }, kinds := [], alts := [], laidByText := true, laidKinds := [.data], laidTests := true, laidLooks := .later }
def LiveZeroUptoCardSaid : Prop := Claim7.holds Tryd.pinned (.plain (OpenSpec.upto liveZeroSpec)) liveZeroUptoCard

/-- THE SECOND FORM's CARD OF 'turnerylaw3.LiveMeans'. -/
def liveMeansUptoCard : Claim7 := { stood := { row := liveMeansUptoRow, standIns := [], harness := (true, "90ac86cdc84d9888305de1e51e06df66c54c61e7673b8069329fcea6cabaded1"), looks := false }, kinds := [], alts := [], laidByText := true, laidKinds := [.data], laidTests := true, laidLooks := .later }
def LiveMeansUptoCardSaid : Prop := Claim7.holds Tryd.pinned (.plain (OpenSpec.upto liveMeansSpec)) liveMeansUptoCard

/-- THE SECOND FORM's CARD OF 'turnerylaw3.LiveSteps'. -/
def liveStepsUptoCard : Claim7 := { stood := { row := liveStepsUptoRow, standIns := [], harness := (true, "90ac86cdc84d9888305de1e51e06df66c54c61e7673b8069329fcea6cabaded1"), looks := false }, kinds := [], alts := [], laidByText := true, laidKinds := [.data], laidTests := true, laidLooks := .later }
def LiveStepsUptoCardSaid : Prop := Claim7.holds Tryd.pinned (.plain (OpenSpec.upto liveStepsSpec)) liveStepsUptoCard
end Rows
end Go.Proofs.YtbmnkjaelfjlhaaDoor
