/-
  DERIVED. GIVEN WITH THE SEED: THE CARDS: each row of YtdbljcahlpkgdaaDoorRows.lean that lists a variable, with what it lists TIED to the program's text (the seventh form; the later family's looks); each row that meets fmt, with fmt's text TOLD by the authors' own Lean function (tested against real Go, not proved from fmt's source: count such statements apart). THE CARD IS WHAT COUNTS. Prove the row's statement (the work); the ties are given (YtdbljcahlpkgdaaDoorTie.lean); close each card by the builder's one call (the guide's Derived/Test/ToyasCard.lean, 'card_holds'). Laid BY PROGRAM, IN A SANDBOX (cutbox-door.mjs). By AI agents, Wed Nov 11 2026. No macro, syntax, notation, axiom, sorry.
-/
import Derived.Test.YtdbljcahlpkgdaaDoorRows
import GoSem.ClaimSeven
namespace Go.Proofs.YtdbljcahlpkgdaaDoor
namespace Rows

/-- THE TIED CARD OF 'turnerylaw3.SsaChecks'. -/
def ssaChecksCard : Claim7 := { stood := { row := ssaChecksRow, standIns := [], harness := (true, "cb93f163641c1e023b5c19ce85814acce5ca8a3e888e2abf5787c7f627d7b57f"), looks := false }, kinds := [], alts := [], laidByText := true, laidKinds := [.data], laidTests := true, laidLooks := .later }
def SsaChecksCardSaid : Prop := Claim7.holds Tryd.pinned (.plain (OpenSpec.ofChange ssaChecksSpec)) ssaChecksCard

/-- THE SECOND FORM's CARD OF 'turnerylaw3.SsaChecks'. -/
def ssaChecksUptoCard : Claim7 := { stood := { row := ssaChecksUptoRow, standIns := [], harness := (true, "cb93f163641c1e023b5c19ce85814acce5ca8a3e888e2abf5787c7f627d7b57f"), looks := false }, kinds := [], alts := [], laidByText := true, laidKinds := [.data], laidTests := true, laidLooks := .later }
def SsaChecksUptoCardSaid : Prop := Claim7.holds Tryd.pinned (.plain (OpenSpec.upto ssaChecksSpec)) ssaChecksUptoCard
end Rows
end Go.Proofs.YtdbljcahlpkgdaaDoor
