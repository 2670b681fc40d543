/-
  DERIVED. GIVEN WITH THE SEED: THE CARDS: each row of YtdbljcahlpkgdaaGreatDoorRows.lean that lists a variable, with what it lists TIED to the program's text (the seventh form; the later family's looks); each row that meets fmt, with fmt's text TOLD by the authors' own Lean function (tested against real Go, not proved from fmt's source: count such statements apart). THE CARD IS WHAT COUNTS. Prove the row's statement (the work); the ties are given (YtdbljcahlpkgdaaGreatDoorTie.lean); close each card by the builder's one call (the guide's Derived/Test/ToyasCard.lean, 'card_holds'). Laid BY PROGRAM, IN A SANDBOX (cutbox-door.mjs). By AI agents, Wed Nov 11 2026. No macro, syntax, notation, axiom, sorry.
-/
import Derived.Test.YtdbljcahlpkgdaaGreatDoorRows
import GoSem.ClaimSeven
namespace Go.Proofs.YtdbljcahlpkgdaaGreatDoor
namespace Rows

/-- THE TIED CARD OF 'turnerylaw3.LoopsLays'. -/
def loopsLaysCard : Claim7 := { stood := { row := loopsLaysRow, standIns := [], harness := (true, "994372aad7ec92826009f39dd9566a1ebcf3b8c8eb61cb4e4d893c33918bef53"), looks := false }, kinds := [], alts := [], laidByText := true, laidKinds := [.data], laidTests := true, laidLooks := .later }
def LoopsLaysCardSaid : Prop := Claim7.holds Tryz.pinned (.plain (OpenSpec.ofChange loopsLaysSpec)) loopsLaysCard

/-- THE TIED CARD OF 'turnerylaw3.LoopsLaid'. -/
def loopsLaidCard : Claim7 := { stood := { row := loopsLaidRow, standIns := [], harness := (true, "994372aad7ec92826009f39dd9566a1ebcf3b8c8eb61cb4e4d893c33918bef53"), looks := false }, kinds := [], alts := [], laidByText := true, laidKinds := [.data], laidTests := true, laidLooks := .later }
def LoopsLaidCardSaid : Prop := Claim7.holds Tryz.pinned (.plain (OpenSpec.ofChange loopsLaidSpec)) loopsLaidCard

/-- THE SECOND FORM's CARD OF 'turnerylaw3.LoopsLays'. -/
def loopsLaysUptoCard : Claim7 := { stood := { row := loopsLaysUptoRow, standIns := [], harness := (true, "994372aad7ec92826009f39dd9566a1ebcf3b8c8eb61cb4e4d893c33918bef53"), looks := false }, kinds := [], alts := [], laidByText := true, laidKinds := [.data], laidTests := true, laidLooks := .later }
def LoopsLaysUptoCardSaid : Prop := Claim7.holds Tryz.pinned (.plain (OpenSpec.upto loopsLaysSpec)) loopsLaysUptoCard

/-- THE SECOND FORM's CARD OF 'turnerylaw3.LoopsLaid'. -/
def loopsLaidUptoCard : Claim7 := { stood := { row := loopsLaidUptoRow, standIns := [], harness := (true, "994372aad7ec92826009f39dd9566a1ebcf3b8c8eb61cb4e4d893c33918bef53"), looks := false }, kinds := [], alts := [], laidByText := true, laidKinds := [.data], laidTests := true, laidLooks := .later }
def LoopsLaidUptoCardSaid : Prop := Claim7.holds Tryz.pinned (.plain (OpenSpec.upto loopsLaidSpec)) loopsLaidUptoCard
end Rows
end Go.Proofs.YtdbljcahlpkgdaaGreatDoor
