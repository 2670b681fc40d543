/-
  DERIVED. GIVEN WITH THE SEED: THE CARDS: each row of YtpadjpplidlfeaaGreatDoorRows.lean that lists a variable, with what it lists TIED to the program's text (the seventh form; the later family's looks); each row that meets fmt, with fmt's text TOLD by the authors' own Lean function (tested against real Go, not proved from fmt's source: count such statements apart). THE CARD IS WHAT COUNTS. Prove the row's statement (the work); the ties are given (YtpadjpplidlfeaaGreatDoorTie.lean); close each card by the builder's one call (the guide's Derived/Test/ToyasCard.lean, 'card_holds'). Laid BY PROGRAM, IN A SANDBOX (cutbox-door.mjs). By AI agents, Wed Nov 11 2026. No macro, syntax, notation, axiom, sorry.
-/
import Derived.Test.YtpadjpplidlfeaaGreatDoorRows
import GoSem.ClaimSeven
namespace Go.Proofs.YtpadjpplidlfeaaGreatDoor
namespace Rows

/-- THE TIED CARD OF 'turnerylaw3.TidyNames'. -/
def tidyNamesCard : Claim7 := { stood := { row := tidyNamesRow, standIns := [], harness := (true, "456ec6fd73de18b24e4ef2a502bfcc2c6d4ee3b100c86b0e68f833db68bcd91f"), looks := false }, kinds := [], alts := [], laidByText := true, laidKinds := [.data], laidTests := true, laidLooks := .later }
def TidyNamesCardSaid : Prop := Claim7.holds Tryz.pinned (.plain (OpenSpec.ofChange tidyNamesSpec)) tidyNamesCard

/-- THE TIED CARD OF 'turnerylaw3.TidySays'. -/
def tidySaysCard : Claim7 := { stood := { row := tidySaysRow, standIns := [], harness := (true, "456ec6fd73de18b24e4ef2a502bfcc2c6d4ee3b100c86b0e68f833db68bcd91f"), looks := false }, kinds := [], alts := [], laidByText := true, laidKinds := [.data], laidTests := true, laidLooks := .later }
def TidySaysCardSaid : Prop := Claim7.holds Tryz.pinned (.plain (OpenSpec.ofChange tidySaysSpec)) tidySaysCard

/-- THE TIED CARD OF 'turnerylaw3.TidyMeans'. -/
def tidyMeansCard : Claim7 := { stood := { row := tidyMeansRow, standIns := [], harness := (true, "456ec6fd73de18b24e4ef2a502bfcc2c6d4ee3b100c86b0e68f833db68bcd91f"), looks := false }, kinds := [], alts := [], laidByText := true, laidKinds := [.data], laidTests := true, laidLooks := .later }
def TidyMeansCardSaid : Prop := Claim7.holds Tryz.pinned (.plain (OpenSpec.ofChange tidyMeansSpec)) tidyMeansCard

/-- THE TIED CARD OF 'turnerylaw3.TidySteps'. -/
def tidyStepsCard : Claim7 := { stood := { row := tidyStepsRow, standIns := [], harness := (true, "456ec6fd73de18b24e4ef2a502bfcc2c6d4ee3b100c86b0e68f833db68bcd91f"), looks := false }, kinds := [], alts := [], laidByText := true, laidKinds := [.data], laidTests := true, laidLooks := .later }
def TidyStepsCardSaid : Prop := Claim7.holds Tryz.pinned (.plain (OpenSpec.ofChange tidyStepsSpec)) tidyStepsCard

/-- THE SECOND FORM's CARD OF 'turnerylaw3.TidyNames'. -/
def tidyNamesUptoCard : Claim7 := { stood := { row := tidyNamesUptoRow, standIns := [], harness := (true, "456ec6fd73de18b24e4ef2a502bfcc2c6d4ee3b100c86b0e68f833db68bcd91f"), looks := false }, kinds := [], alts := [], laidByText := true, laidKinds := [.data], laidTests := true, laidLooks := .later }
def TidyNamesUptoCardSaid : Prop := Claim7.holds Tryz.pinned (.plain (OpenSpec.upto tidyNamesSpec)) tidyNamesUptoCard

/-- THE SECOND FORM's CARD OF 'turnerylaw3.TidySays'. -/
def tidySaysUptoCard : Claim7 := { stood := { row := tidySaysUptoRow, standIns := [], harness := (true, "456ec6fd73de18b24e4ef2a502bfcc2c6d4ee3b100c86b0e68f833db68bcd91f"), looks := false }, kinds := [], alts := [], laidByText := true, laidKinds := [.data], laidTests := true, laidLooks := .later }
def TidySaysUptoCardSaid : Prop := Claim7.holds Tryz.pinned (.plain (OpenSpec.upto tidySaysSpec)) tidySaysUptoCard

/-- THE SECOND FORM's CARD OF 'turnerylaw3.TidyMeans'. -/
def tidyMeansUptoCard : Claim7 := { stood := { row := tidyMeansUptoRow, standIns := [], harness := (true, "456ec6fd73de18b24e4ef2a502bfcc2c6d4ee3b100c86b0e68f833db68bcd91f"), looks := false }, kinds := [], alts := [], laidByText := true, laidKinds := [.data], laidTests := true, laidLooks := .later }
def TidyMeansUptoCardSaid : Prop := Claim7.holds Tryz.pinned (.plain (OpenSpec.upto tidyMeansSpec)) tidyMeansUptoCard

/-- THE SECOND FORM's CARD OF 'turnerylaw3.TidySteps'. -/
def tidyStepsUptoCard : Claim7 := { stood := { row := tidyStepsUptoRow, standIns := [], harness := (true, "456ec6fd73de18b24e4ef2a502bfcc2c6d4ee3b100c86b0e68f833db68bcd91f"), looks := false }, kinds := [], alts := [], laidByText := true, laidKinds := [.data], laidTests := true, laidLooks := .later }
def TidyStepsUptoCardSaid : Prop := Claim7.holds Tryz.pinned (.plain (OpenSpec.upto tidyStepsSpec)) tidyStepsUptoCard
end Rows
end Go.Proofs.YtpadjpplidlfeaaGreatDoor
