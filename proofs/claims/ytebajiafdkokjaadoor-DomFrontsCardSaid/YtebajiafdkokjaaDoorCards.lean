/-
  DERIVED. GIVEN WITH THE SEED: THE CARDS: each row of YtebajiafdkokjaaDoorRows.lean that lists a variable, with what it lists TIED to the program's text (the seventh form; the later family's looks); each row that meets fmt, with fmt's text TOLD by the authors' own Lean function (tested against real Go, not proved from fmt's source: count such statements apart). THE CARD IS WHAT COUNTS. Prove the row's statement (the work); the ties are given (YtebajiafdkokjaaDoorTie.lean); close each card by the builder's one call (the guide's Derived/Test/ToyasCard.lean, 'card_holds'). Laid BY PROGRAM, IN A SANDBOX (cutbox-door.mjs). By AI agents, Wed Nov 11 2026. No macro, syntax, notation, axiom, sorry.
-/
import Derived.Test.YtebajiafdkokjaaDoorRows
import GoSem.ClaimSeven
namespace Go.Proofs.YtebajiafdkokjaaDoor
namespace Rows

/-- THE TIED CARD OF 'turnerylaw3.GraphParts'. -/
def graphPartsCard : Claim7 := { stood := { row := graphPartsRow, standIns := [], harness := (true, "3e032bedba3a5fd9504a638b6bd202ff28781c1afb0c602054deb0c104e5b9c4"), looks := false }, kinds := [], alts := [], laidByText := true, laidKinds := [.data], laidTests := true, laidLooks := .later }
def GraphPartsCardSaid : Prop := Claim7.holds Tryd.pinned (.plain (OpenSpec.ofChange graphPartsSpec)) graphPartsCard

/-- THE TIED CARD OF 'turnerylaw3.GraphReaches'. -/
def graphReachesCard : Claim7 := { stood := { row := graphReachesRow, standIns := [], harness := (true, "3e032bedba3a5fd9504a638b6bd202ff28781c1afb0c602054deb0c104e5b9c4"), looks := false }, kinds := [], alts := [], laidByText := true, laidKinds := [.data], laidTests := true, laidLooks := .later }
def GraphReachesCardSaid : Prop := Claim7.holds Tryd.pinned (.plain (OpenSpec.ofChange graphReachesSpec)) graphReachesCard

/-- THE TIED CARD OF 'turnerylaw3.GraphOrders'. -/
def graphOrdersCard : Claim7 := { stood := { row := graphOrdersRow, standIns := [], harness := (true, "3e032bedba3a5fd9504a638b6bd202ff28781c1afb0c602054deb0c104e5b9c4"), looks := false }, kinds := [], alts := [], laidByText := true, laidKinds := [.data], laidTests := true, laidLooks := .later }
def GraphOrdersCardSaid : Prop := Claim7.holds Tryd.pinned (.plain (OpenSpec.ofChange graphOrdersSpec)) graphOrdersCard

/-- THE TIED CARD OF 'turnerylaw3.DomHangs'. -/
def domHangsCard : Claim7 := { stood := { row := domHangsRow, standIns := [], harness := (true, "3e032bedba3a5fd9504a638b6bd202ff28781c1afb0c602054deb0c104e5b9c4"), looks := false }, kinds := [], alts := [], laidByText := true, laidKinds := [.data], laidTests := true, laidLooks := .later }
def DomHangsCardSaid : Prop := Claim7.holds Tryd.pinned (.plain (OpenSpec.ofChange domHangsSpec)) domHangsCard

/-- THE TIED CARD OF 'turnerylaw3.DomPosts'. -/
def domPostsCard : Claim7 := { stood := { row := domPostsRow, standIns := [], harness := (true, "3e032bedba3a5fd9504a638b6bd202ff28781c1afb0c602054deb0c104e5b9c4"), looks := false }, kinds := [], alts := [], laidByText := true, laidKinds := [.data], laidTests := true, laidLooks := .later }
def DomPostsCardSaid : Prop := Claim7.holds Tryd.pinned (.plain (OpenSpec.ofChange domPostsSpec)) domPostsCard

/-- THE TIED CARD OF 'turnerylaw3.GraphSplits'. -/
def graphSplitsCard : Claim7 := { stood := { row := graphSplitsRow, standIns := [], harness := (true, "3e032bedba3a5fd9504a638b6bd202ff28781c1afb0c602054deb0c104e5b9c4"), looks := false }, kinds := [], alts := [], laidByText := true, laidKinds := [.data], laidTests := true, laidLooks := .later }
def GraphSplitsCardSaid : Prop := Claim7.holds Tryd.pinned (.plain (OpenSpec.ofChange graphSplitsSpec)) graphSplitsCard

/-- THE TIED CARD OF 'turnerylaw3.LiveIns'. -/
def liveInsCard : Claim7 := { stood := { row := liveInsRow, standIns := [], harness := (true, "3e032bedba3a5fd9504a638b6bd202ff28781c1afb0c602054deb0c104e5b9c4"), looks := false }, kinds := [], alts := [], laidByText := true, laidKinds := [.data], laidTests := true, laidLooks := .later }
def LiveInsCardSaid : Prop := Claim7.holds Tryd.pinned (.plain (OpenSpec.ofChange liveInsSpec)) liveInsCard

/-- THE TIED CARD OF 'turnerylaw3.LiveOuts'. -/
def liveOutsCard : Claim7 := { stood := { row := liveOutsRow, standIns := [], harness := (true, "3e032bedba3a5fd9504a638b6bd202ff28781c1afb0c602054deb0c104e5b9c4"), looks := false }, kinds := [], alts := [], laidByText := true, laidKinds := [.data], laidTests := true, laidLooks := .later }
def LiveOutsCardSaid : Prop := Claim7.holds Tryd.pinned (.plain (OpenSpec.ofChange liveOutsSpec)) liveOutsCard

/-- THE TIED CARD OF 'turnerylaw3.DomTrees'. -/
def domTreesCard : Claim7 := { stood := { row := domTreesRow, standIns := [], harness := (true, "3e032bedba3a5fd9504a638b6bd202ff28781c1afb0c602054deb0c104e5b9c4"), looks := false }, kinds := [], alts := [], laidByText := true, laidKinds := [.data], laidTests := true, laidLooks := .later }
def DomTreesCardSaid : Prop := Claim7.holds Tryd.pinned (.plain (OpenSpec.ofChange domTreesSpec)) domTreesCard

/-- THE TIED CARD OF 'turnerylaw3.LiveAts'. -/
def liveAtsCard : Claim7 := { stood := { row := liveAtsRow, standIns := [], harness := (true, "3e032bedba3a5fd9504a638b6bd202ff28781c1afb0c602054deb0c104e5b9c4"), looks := false }, kinds := [], alts := [], laidByText := true, laidKinds := [.data], laidTests := true, laidLooks := .later }
def LiveAtsCardSaid : Prop := Claim7.holds Tryd.pinned (.plain (OpenSpec.ofChange liveAtsSpec)) liveAtsCard

/-- THE TIED CARD OF 'turnerylaw3.DomFronts'. -/
def domFrontsCard : Claim7 := { stood := { row := domFrontsRow, standIns := [], harness := (true, "3e032bedba3a5fd9504a638b6bd202ff28781c1afb0c602054deb0c104e5b9c4"), looks := false }, kinds := [], alts := [], laidByText := true, laidKinds := [.data], laidTests := true, laidLooks := .later }
def DomFrontsCardSaid : Prop := Claim7.holds Tryd.pinned (.plain (OpenSpec.ofChange domFrontsSpec)) domFrontsCard

/-- THE SECOND FORM's CARD OF 'turnerylaw3.GraphParts'. -/
def graphPartsUptoCard : Claim7 := { stood := { row := graphPartsUptoRow, standIns := [], harness := (true, "3e032bedba3a5fd9504a638b6bd202ff28781c1afb0c602054deb0c104e5b9c4"), looks := false }, kinds := [], alts := [], laidByText := true, laidKinds := [.data], laidTests := true, laidLooks := .later }
def GraphPartsUptoCardSaid : Prop := Claim7.holds Tryd.pinned (.plain (OpenSpec.upto graphPartsSpec)) graphPartsUptoCard

/-- THE SECOND FORM's CARD OF 'turnerylaw3.GraphReaches'. -/
def graphReachesUptoCard : Claim7 := { stood := { row := graphReachesUptoRow, standIns := [], harness := (true, "3e032bedba3a5fd9504a638b6bd202ff28781c1afb0c602054deb0c104e5b9c4"), looks := false }, kinds := [], alts := [], laidByText := true, laidKinds := [.data], laidTests := true, laidLooks := .later }
def GraphReachesUptoCardSaid : Prop := Claim7.holds Tryd.pinned (.plain (OpenSpec.upto graphReachesSpec)) graphReachesUptoCard

/-- THE SECOND FORM's CARD OF 'turnerylaw3.GraphOrders'. -/
def graphOrdersUptoCard : Claim7 := { stood := { row := graphOrdersUptoRow, standIns := [], harness := (true, "3e032bedba3a5fd9504a638b6bd202ff28781c1afb0c602054deb0c104e5b9c4"), looks := false }, kinds := [], alts := [], laidByText := true, laidKinds := [.data], laidTests := true, laidLooks := .later }
def GraphOrdersUptoCardSaid : Prop := Claim7.holds Tryd.pinned (.plain (OpenSpec.upto graphOrdersSpec)) graphOrdersUptoCard

/-- THE SECOND FORM's CARD OF 'turnerylaw3.DomHangs'. -/
def domHangsUptoCard : Claim7 := { stood := { row := domHangsUptoRow, standIns := [], harness := (true, "3e032bedba3a5fd9504a638b6bd202ff28781c1afb0c602054deb0c104e5b9c4"), looks := false }, kinds := [], alts := [], laidByText := true, laidKinds := [.data], laidTests := true, laidLooks := .later }
def DomHangsUptoCardSaid : Prop := Claim7.holds Tryd.pinned (.plain (OpenSpec.upto domHangsSpec)) domHangsUptoCard

/-- THE SECOND FORM's CARD OF 'turnerylaw3.DomPosts'. -/
def domPostsUptoCard : Claim7 := { stood := { row := domPostsUptoRow, standIns := [], harness := (true, "3e032bedba3a5fd9504a638b6bd202ff28781c1afb0c602054deb0c104e5b9c4"), looks := false }, kinds := [], alts := [], laidByText := true, laidKinds := [.data], laidTests := true, laidLooks := .later }
def DomPostsUptoCardSaid : Prop := Claim7.holds Tryd.pinned (.plain (OpenSpec.upto domPostsSpec)) domPostsUptoCard

/-- THE SECOND FORM's CARD OF 'turnerylaw3.GraphSplits'. -/
def graphSplitsUptoCard : Claim7 := { stood := { row := graphSplitsUptoRow, standIns := [], harness := (true, "3e032bedba3a5fd9504a638b6bd202ff28781c1afb0c602054deb0c104e5b9c4"), looks := false }, kinds := [], alts := [], laidByText := true, laidKinds := [.data], laidTests := true, laidLooks := .later }
def GraphSplitsUptoCardSaid : Prop := Claim7.holds Tryd.pinned (.plain (OpenSpec.upto graphSplitsSpec)) graphSplitsUptoCard

/-- THE SECOND FORM's CARD OF 'turnerylaw3.LiveIns'. -/
def liveInsUptoCard : Claim7 := { stood := { row := liveInsUptoRow, standIns := [], harness := (true, "3e032bedba3a5fd9504a638b6bd202ff28781c1afb0c602054deb0c104e5b9c4"), looks := false }, kinds := [], alts := [], laidByText := true, laidKinds := [.data], laidTests := true, laidLooks := .later }
def LiveInsUptoCardSaid : Prop := Claim7.holds Tryd.pinned (.plain (OpenSpec.upto liveInsSpec)) liveInsUptoCard

/-- THE SECOND FORM's CARD OF 'turnerylaw3.LiveOuts'. -/
def liveOutsUptoCard : Claim7 := { stood := { row := liveOutsUptoRow, standIns := [], harness := (true, "3e032bedba3a5fd9504a638b6bd202ff28781c1afb0c602054deb0c104e5b9c4"), looks := false }, kinds := [], alts := [], laidByText := true, laidKinds := [.data], laidTests := true, laidLooks := .later }
def LiveOutsUptoCardSaid : Prop := Claim7.holds Tryd.pinned (.plain (OpenSpec.upto liveOutsSpec)) liveOutsUptoCard

/-- THE SECOND FORM's CARD OF 'turnerylaw3.DomTrees'. -/
def domTreesUptoCard : Claim7 := { stood := { row := domTreesUptoRow, standIns := [], harness := (true, "3e032bedba3a5fd9504a638b6bd202ff28781c1afb0c602054deb0c104e5b9c4"), looks := false }, kinds := [], alts := [], laidByText := true, laidKinds := [.data], laidTests := true, laidLooks := .later }
def DomTreesUptoCardSaid : Prop := Claim7.holds Tryd.pinned (.plain (OpenSpec.upto domTreesSpec)) domTreesUptoCard

/-- THE SECOND FORM's CARD OF 'turnerylaw3.LiveAts'. -/
def liveAtsUptoCard : Claim7 := { stood := { row := liveAtsUptoRow, standIns := [], harness := (true, "3e032bedba3a5fd9504a638b6bd202ff28781c1afb0c602054deb0c104e5b9c4"), looks := false }, kinds := [], alts := [], laidByText := true, laidKinds := [.data], laidTests := true, laidLooks := .later }
def LiveAtsUptoCardSaid : Prop := Claim7.holds Tryd.pinned (.plain (OpenSpec.upto liveAtsSpec)) liveAtsUptoCard

/-- THE SECOND FORM's CARD OF 'turnerylaw3.DomFronts'. -/
def domFrontsUptoCard : Claim7 := { stood := { row := domFrontsUptoRow, standIns := [], harness := (true, "3e032bedba3a5fd9504a638b6bd202ff28781c1afb0c602054deb0c104e5b9c4"), looks := false }, kinds := [], alts := [], laidByText := true, laidKinds := [.data], laidTests := true, laidLooks := .later }
def DomFrontsUptoCardSaid : Prop := Claim7.holds Tryd.pinned (.plain (OpenSpec.upto domFrontsSpec)) domFrontsUptoCard
end Rows
end Go.Proofs.YtebajiafdkokjaaDoor
