/-
  DERIVED. GIVEN WITH THE SEED: THE CARDS: each row of YtpadjpplidlfeaaDoorRows.lean that lists a variable, with what it lists TIED to the program's text (the seventh form; the later family's looks); each row that meets fmt, with fmt's text TOLD by the authors' own Lean function (tested against real Go, not proved from fmt's source: count such statements apart). THE CARD IS WHAT COUNTS. Prove the row's statement (the work); the ties are given (YtpadjpplidlfeaaDoorTie.lean); close each card by the builder's one call (the guide's Derived/Test/ToyasCard.lean, 'card_holds'). Laid BY PROGRAM, IN A SANDBOX (cutbox-door.mjs). By AI agents, Wed Nov 11 2026. No macro, syntax, notation, axiom, sorry.
-/
import Derived.Test.YtpadjpplidlfeaaDoorRows
import GoSem.ClaimSeven
namespace Go.Proofs.YtpadjpplidlfeaaDoor
namespace Rows

/-- THE TIED CARD OF 'turnerylaw3.TidyChains'. -/
def tidyChainsCard : Claim7 := { stood := { row := tidyChainsRow, standIns := [], harness := (true, "8edf59577dd5b20d0bd059e40c1d74e046a9504c15b15c35ecbf5e0b2ab42bd2"), looks := false }, kinds := [], alts := [], laidByText := true, laidKinds := [.data], laidTests := true, laidLooks := .later }
def TidyChainsCardSaid : Prop := Claim7.holds Tryd.pinned (.plain (OpenSpec.ofChange tidyChainsSpec)) tidyChainsCard

/-- THE TIED CARD OF 'turnerylaw3.TidyRenamed'. -/
def tidyRenamedCard : Claim7 := { stood := { row := tidyRenamedRow, standIns := [], harness := (true, "8edf59577dd5b20d0bd059e40c1d74e046a9504c15b15c35ecbf5e0b2ab42bd2"), looks := false }, kinds := [], alts := [], laidByText := true, laidKinds := [.data], laidTests := true, laidLooks := .later }
def TidyRenamedCardSaid : Prop := Claim7.holds Tryd.pinned (.plain (OpenSpec.ofChange tidyRenamedSpec)) tidyRenamedCard

/-- THE SECOND FORM's CARD OF 'turnerylaw3.TidyChains'. -/
def tidyChainsUptoCard : Claim7 := { stood := { row := tidyChainsUptoRow, standIns := [], harness := (true, "8edf59577dd5b20d0bd059e40c1d74e046a9504c15b15c35ecbf5e0b2ab42bd2"), looks := false }, kinds := [], alts := [], laidByText := true, laidKinds := [.data], laidTests := true, laidLooks := .later }
def TidyChainsUptoCardSaid : Prop := Claim7.holds Tryd.pinned (.plain (OpenSpec.upto tidyChainsSpec)) tidyChainsUptoCard

/-- THE SECOND FORM's CARD OF 'turnerylaw3.TidyRenamed'. -/
def tidyRenamedUptoCard : Claim7 := { stood := { row := tidyRenamedUptoRow, standIns := [], harness := (true, "8edf59577dd5b20d0bd059e40c1d74e046a9504c15b15c35ecbf5e0b2ab42bd2"), looks := false }, kinds := [], alts := [], laidByText := true, laidKinds := [.data], laidTests := true, laidLooks := .later }
def TidyRenamedUptoCardSaid : Prop := Claim7.holds Tryd.pinned (.plain (OpenSpec.upto tidyRenamedSpec)) tidyRenamedUptoCard
end Rows
end Go.Proofs.YtpadjpplidlfeaaDoor
