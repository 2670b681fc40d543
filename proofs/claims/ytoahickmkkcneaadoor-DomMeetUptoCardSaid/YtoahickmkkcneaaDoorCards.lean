/-
  DERIVED. GIVEN WITH THE SEED: THE CARDS: each row of YtoahickmkkcneaaDoorRows.lean that lists a variable, with what it lists TIED to the program's text (the seventh form; the later family's looks); each row that meets fmt, with fmt's text TOLD by the authors' own Lean function (tested against real Go, not proved from fmt's source: count such statements apart). THE CARD IS WHAT COUNTS. Prove the row's statement (the work); the ties are given (YtoahickmkkcneaaDoorTie.lean); close each card by the builder's one call (the guide's Derived/Test/ToyasCard.lean, 'card_holds'). Laid BY PROGRAM, IN A SANDBOX (cutbox-door.mjs). By AI agents, Wed Nov 11 2026. No macro, syntax, notation, axiom, sorry.
-/
import Derived.Test.YtoahickmkkcneaaDoorRows
import GoSem.ClaimSeven
namespace Go.Proofs.YtoahickmkkcneaaDoor
namespace Rows

/-- THE TIED CARD OF 'turnerylaw3.LiveFlows'. -/
def liveFlowsCard : Claim7 := { stood := { row := liveFlowsRow, standIns := [], harness := (true, "08272a0e9484c647a9104ae6d79b70ff06e3069aaaeb10d4e1a8772b536dbe47"), looks := false }, kinds := [], alts := [], laidByText := true, laidKinds := [.data], laidTests := true, laidLooks := .later }
def LiveFlowsCardSaid : Prop := Claim7.holds Tryd.pinned (.plain (OpenSpec.ofChange liveFlowsSpec)) liveFlowsCard

/-- THE TIED CARD OF 'turnerylaw3.SsaChecks'. -/
def ssaChecksCard : Claim7 := { stood := { row := ssaChecksRow, standIns := [], harness := (true, "08272a0e9484c647a9104ae6d79b70ff06e3069aaaeb10d4e1a8772b536dbe47"), looks := false }, kinds := [], alts := [], laidByText := true, laidKinds := [.data], laidTests := true, laidLooks := .later }
def SsaChecksCardSaid : Prop := Claim7.holds Tryd.pinned (.plain (OpenSpec.ofChange ssaChecksSpec)) ssaChecksCard

/-- THE TIED CARD OF 'turnerylaw3.GraphBacks'. -/
def graphBacksCard : Claim7 := { stood := { row := graphBacksRow, standIns := [], harness := (true, "08272a0e9484c647a9104ae6d79b70ff06e3069aaaeb10d4e1a8772b536dbe47"), looks := false }, kinds := [], alts := [], laidByText := true, laidKinds := [.data], laidTests := true, laidLooks := .later }
def GraphBacksCardSaid : Prop := Claim7.holds Tryd.pinned (.plain (OpenSpec.ofChange graphBacksSpec)) graphBacksCard

/-- THE TIED CARD OF 'turnerylaw3.DomTables'. -/
def domTablesCard : Claim7 := { stood := { row := domTablesRow, standIns := [], harness := (true, "08272a0e9484c647a9104ae6d79b70ff06e3069aaaeb10d4e1a8772b536dbe47"), looks := false }, kinds := [], alts := [], laidByText := true, laidKinds := [.data], laidTests := true, laidLooks := .later }
def DomTablesCardSaid : Prop := Claim7.holds Tryd.pinned (.plain (OpenSpec.ofChange domTablesSpec)) domTablesCard

/-- THE TIED CARD OF 'turnerylaw3.GraphOrder'. -/
def graphOrderCard : Claim7 := { stood := { row := graphOrderRow, standIns := [], harness := (true, "08272a0e9484c647a9104ae6d79b70ff06e3069aaaeb10d4e1a8772b536dbe47"), looks := false }, kinds := [], alts := [], laidByText := true, laidKinds := [.data], laidTests := true, laidLooks := .later }
def GraphOrderCardSaid : Prop := Claim7.holds Tryd.pinned (.plain (OpenSpec.ofChange graphOrderSpec)) graphOrderCard

/-- THE TIED CARD OF 'turnerylaw3.DomChain'. -/
def domChainCard : Claim7 := { stood := { row := domChainRow, standIns := [], harness := (true, "08272a0e9484c647a9104ae6d79b70ff06e3069aaaeb10d4e1a8772b536dbe47"), looks := false }, kinds := [], alts := [], laidByText := true, laidKinds := [.data], laidTests := true, laidLooks := .later }
def DomChainCardSaid : Prop := Claim7.holds Tryd.pinned (.plain (OpenSpec.ofChange domChainSpec)) domChainCard

/-- THE TIED CARD OF 'turnerylaw3.GraphRing'. -/
def graphRingCard : Claim7 := { stood := { row := graphRingRow, standIns := [], harness := (true, "08272a0e9484c647a9104ae6d79b70ff06e3069aaaeb10d4e1a8772b536dbe47"), looks := false }, kinds := [], alts := [], laidByText := true, laidKinds := [.data], laidTests := true, laidLooks := .later }
def GraphRingCardSaid : Prop := Claim7.holds Tryd.pinned (.plain (OpenSpec.ofChange graphRingSpec)) graphRingCard

/-- THE TIED CARD OF 'turnerylaw3.DomMeets'. -/
def domMeetsCard : Claim7 := { stood := { row := domMeetsRow, standIns := [], harness := (true, "08272a0e9484c647a9104ae6d79b70ff06e3069aaaeb10d4e1a8772b536dbe47"), looks := false }, kinds := [], alts := [], laidByText := true, laidKinds := [.data], laidTests := true, laidLooks := .later }
def DomMeetsCardSaid : Prop := Claim7.holds Tryd.pinned (.plain (OpenSpec.ofChange domMeetsSpec)) domMeetsCard

/-- THE TIED CARD OF 'turnerylaw3.DomMeet'. -/
def domMeetCard : Claim7 := { stood := { row := domMeetRow, standIns := [], harness := (true, "08272a0e9484c647a9104ae6d79b70ff06e3069aaaeb10d4e1a8772b536dbe47"), looks := false }, kinds := [], alts := [], laidByText := true, laidKinds := [.data], laidTests := true, laidLooks := .later }
def DomMeetCardSaid : Prop := Claim7.holds Tryd.pinned (.plain (OpenSpec.ofChange domMeetSpec)) domMeetCard

/-- THE TIED CARD OF 'turnerylaw3.LoopsTames'. -/
def loopsTamesCard : Claim7 := { stood := { row := loopsTamesRow, standIns := [], harness := (true, "08272a0e9484c647a9104ae6d79b70ff06e3069aaaeb10d4e1a8772b536dbe47"), looks := false }, kinds := [], alts := [], laidByText := true, laidKinds := [.data], laidTests := true, laidLooks := .later }
def LoopsTamesCardSaid : Prop := Claim7.holds Tryd.pinned (.plain (OpenSpec.ofChange loopsTamesSpec)) loopsTamesCard

/-- THE TIED CARD OF 'turnerylaw3.LoopsSays'. -/
def loopsSaysCard : Claim7 := { stood := { row := loopsSaysRow, standIns := [], harness := (true, "08272a0e9484c647a9104ae6d79b70ff06e3069aaaeb10d4e1a8772b536dbe47"), looks := false }, kinds := [], alts := [], laidByText := true, laidKinds := [.data], laidTests := true, laidLooks := .later }
def LoopsSaysCardSaid : Prop := Claim7.holds Tryd.pinned (.plain (OpenSpec.ofChange loopsSaysSpec)) loopsSaysCard

/-- THE TIED CARD OF 'turnerylaw3.LoopsDeeps'. -/
def loopsDeepsCard : Claim7 := { stood := { row := loopsDeepsRow, standIns := [], harness := (true, "08272a0e9484c647a9104ae6d79b70ff06e3069aaaeb10d4e1a8772b536dbe47"), looks := false }, kinds := [], alts := [], laidByText := true, laidKinds := [.data], laidTests := true, laidLooks := .later }
def LoopsDeepsCardSaid : Prop := Claim7.holds Tryd.pinned (.plain (OpenSpec.ofChange loopsDeepsSpec)) loopsDeepsCard

/-- THE TIED CARD OF 'turnerylaw3.LoopsRound'. -/
def loopsRoundCard : Claim7 := { stood := { row := loopsRoundRow, standIns := [], harness := (true, "08272a0e9484c647a9104ae6d79b70ff06e3069aaaeb10d4e1a8772b536dbe47"), looks := false }, kinds := [], alts := [], laidByText := true, laidKinds := [.data], laidTests := true, laidLooks := .later }
def LoopsRoundCardSaid : Prop := Claim7.holds Tryd.pinned (.plain (OpenSpec.ofChange loopsRoundSpec)) loopsRoundCard

/-- THE TIED CARD OF 'turnerylaw3.LoopsNest'. -/
def loopsNestCard : Claim7 := { stood := { row := loopsNestRow, standIns := [], harness := (true, "08272a0e9484c647a9104ae6d79b70ff06e3069aaaeb10d4e1a8772b536dbe47"), looks := false }, kinds := [], alts := [], laidByText := true, laidKinds := [.data], laidTests := true, laidLooks := .later }
def LoopsNestCardSaid : Prop := Claim7.holds Tryd.pinned (.plain (OpenSpec.ofChange loopsNestSpec)) loopsNestCard

/-- THE SECOND FORM's CARD OF 'turnerylaw3.LiveFlows'. -/
def liveFlowsUptoCard : Claim7 := { stood := { row := liveFlowsUptoRow, standIns := [], harness := (true, "08272a0e9484c647a9104ae6d79b70ff06e3069aaaeb10d4e1a8772b536dbe47"), looks := false }, kinds := [], alts := [], laidByText := true, laidKinds := [.data], laidTests := true, laidLooks := .later }
def LiveFlowsUptoCardSaid : Prop := Claim7.holds Tryd.pinned (.plain (OpenSpec.upto liveFlowsSpec)) liveFlowsUptoCard

/-- THE SECOND FORM's CARD OF 'turnerylaw3.SsaChecks'. -/
def ssaChecksUptoCard : Claim7 := { stood := { row := ssaChecksUptoRow, standIns := [], harness := (true, "08272a0e9484c647a9104ae6d79b70ff06e3069aaaeb10d4e1a8772b536dbe47"), looks := false }, kinds := [], alts := [], laidByText := true, laidKinds := [.data], laidTests := true, laidLooks := .later }
def SsaChecksUptoCardSaid : Prop := Claim7.holds Tryd.pinned (.plain (OpenSpec.upto ssaChecksSpec)) ssaChecksUptoCard

/-- THE SECOND FORM's CARD OF 'turnerylaw3.GraphBacks'. -/
def graphBacksUptoCard : Claim7 := { stood := { row := graphBacksUptoRow, standIns := [], harness := (true, "08272a0e9484c647a9104ae6d79b70ff06e3069aaaeb10d4e1a8772b536dbe47"), looks := false }, kinds := [], alts := [], laidByText := true, laidKinds := [.data], laidTests := true, laidLooks := .later }
def GraphBacksUptoCardSaid : Prop := Claim7.holds Tryd.pinned (.plain (OpenSpec.upto graphBacksSpec)) graphBacksUptoCard

/-- THE SECOND FORM's CARD OF 'turnerylaw3.DomTables'. -/
def domTablesUptoCard : Claim7 := { stood := { row := domTablesUptoRow, standIns := [], harness := (true, "08272a0e9484c647a9104ae6d79b70ff06e3069aaaeb10d4e1a8772b536dbe47"), looks := false }, kinds := [], alts := [], laidByText := true, laidKinds := [.data], laidTests := true, laidLooks := .later }
def DomTablesUptoCardSaid : Prop := Claim7.holds Tryd.pinned (.plain (OpenSpec.upto domTablesSpec)) domTablesUptoCard

/-- THE SECOND FORM's CARD OF 'turnerylaw3.GraphOrder'. -/
def graphOrderUptoCard : Claim7 := { stood := { row := graphOrderUptoRow, standIns := [], harness := (true, "08272a0e9484c647a9104ae6d79b70ff06e3069aaaeb10d4e1a8772b536dbe47"), looks := false }, kinds := [], alts := [], laidByText := true, laidKinds := [.data], laidTests := true, laidLooks := .later }
def GraphOrderUptoCardSaid : Prop := Claim7.holds Tryd.pinned (.plain (OpenSpec.upto graphOrderSpec)) graphOrderUptoCard

/-- THE SECOND FORM's CARD OF 'turnerylaw3.DomChain'. -/
def domChainUptoCard : Claim7 := { stood := { row := domChainUptoRow, standIns := [], harness := (true, "08272a0e9484c647a9104ae6d79b70ff06e3069aaaeb10d4e1a8772b536dbe47"), looks := false }, kinds := [], alts := [], laidByText := true, laidKinds := [.data], laidTests := true, laidLooks := .later }
def DomChainUptoCardSaid : Prop := Claim7.holds Tryd.pinned (.plain (OpenSpec.upto domChainSpec)) domChainUptoCard

/-- THE SECOND FORM's CARD OF 'turnerylaw3.GraphRing'. -/
def graphRingUptoCard : Claim7 := { stood := { row := graphRingUptoRow, standIns := [], harness := (true, "08272a0e9484c647a9104ae6d79b70ff06e3069aaaeb10d4e1a8772b536dbe47"), looks := false }, kinds := [], alts := [], laidByText := true, laidKinds := [.data], laidTests := true, laidLooks := .later }
def GraphRingUptoCardSaid : Prop := Claim7.holds Tryd.pinned (.plain (OpenSpec.upto graphRingSpec)) graphRingUptoCard

/-- THE SECOND FORM's CARD OF 'turnerylaw3.DomMeets'. -/
def domMeetsUptoCard : Claim7 := { stood := { row := domMeetsUptoRow, standIns := [], harness := (true, "08272a0e9484c647a9104ae6d79b70ff06e3069aaaeb10d4e1a8772b536dbe47"), looks := false }, kinds := [], alts := [], laidByText := true, laidKinds := [.data], laidTests := true, laidLooks := .later }
def DomMeetsUptoCardSaid : Prop := Claim7.holds Tryd.pinned (.plain (OpenSpec.upto domMeetsSpec)) domMeetsUptoCard

/-- THE SECOND FORM's CARD OF 'turnerylaw3.DomMeet'. -/
def domMeetUptoCard : Claim7 := { stood := { row := domMeetUptoRow, standIns := [], harness := (true, "08272a0e9484c647a9104ae6d79b70ff06e3069aaaeb10d4e1a8772b536dbe47"), looks := false }, kinds := [], alts := [], laidByText := true, laidKinds := [.data], laidTests := true, laidLooks := .later }
def DomMeetUptoCardSaid : Prop := Claim7.holds Tryd.pinned (.plain (OpenSpec.upto domMeetSpec)) domMeetUptoCard

/-- THE SECOND FORM's CARD OF 'turnerylaw3.LoopsTames'. -/
def loopsTamesUptoCard : Claim7 := { stood := { row := loopsTamesUptoRow, standIns := [], harness := (true, "08272a0e9484c647a9104ae6d79b70ff06e3069aaaeb10d4e1a8772b536dbe47"), looks := false }, kinds := [], alts := [], laidByText := true, laidKinds := [.data], laidTests := true, laidLooks := .later }
def LoopsTamesUptoCardSaid : Prop := Claim7.holds Tryd.pinned (.plain (OpenSpec.upto loopsTamesSpec)) loopsTamesUptoCard

/-- THE SECOND FORM's CARD OF 'turnerylaw3.LoopsSays'. -/
def loopsSaysUptoCard : Claim7 := { stood := { row := loopsSaysUptoRow, standIns := [], harness := (true, "08272a0e9484c647a9104ae6d79b70ff06e3069aaaeb10d4e1a8772b536dbe47"), looks := false }, kinds := [], alts := [], laidByText := true, laidKinds := [.data], laidTests := true, laidLooks := .later }
def LoopsSaysUptoCardSaid : Prop := Claim7.holds Tryd.pinned (.plain (OpenSpec.upto loopsSaysSpec)) loopsSaysUptoCard

/-- THE SECOND FORM's CARD OF 'turnerylaw3.LoopsDeeps'. -/
def loopsDeepsUptoCard : Claim7 := { stood := { row := loopsDeepsUptoRow, standIns := [], harness := (true, "08272a0e9484c647a9104ae6d79b70ff06e3069aaaeb10d4e1a8772b536dbe47"), looks := false }, kinds := [], alts := [], laidByText := true, laidKinds := [.data], laidTests := true, laidLooks := .later }
def LoopsDeepsUptoCardSaid : Prop := Claim7.holds Tryd.pinned (.plain (OpenSpec.upto loopsDeepsSpec)) loopsDeepsUptoCard

/-- THE SECOND FORM's CARD OF 'turnerylaw3.LoopsRound'. -/
def loopsRoundUptoCard : Claim7 := { stood := { row := loopsRoundUptoRow, standIns := [], harness := (true, "08272a0e9484c647a9104ae6d79b70ff06e3069aaaeb10d4e1a8772b536dbe47"), looks := false }, kinds := [], alts := [], laidByText := true, laidKinds := [.data], laidTests := true, laidLooks := .later }
def LoopsRoundUptoCardSaid : Prop := Claim7.holds Tryd.pinned (.plain (OpenSpec.upto loopsRoundSpec)) loopsRoundUptoCard

/-- THE SECOND FORM's CARD OF 'turnerylaw3.LoopsNest'. -/
def loopsNestUptoCard : Claim7 := { stood := { row := loopsNestUptoRow, standIns := [], harness := (true, "08272a0e9484c647a9104ae6d79b70ff06e3069aaaeb10d4e1a8772b536dbe47"), looks := false }, kinds := [], alts := [], laidByText := true, laidKinds := [.data], laidTests := true, laidLooks := .later }
def LoopsNestUptoCardSaid : Prop := Claim7.holds Tryd.pinned (.plain (OpenSpec.upto loopsNestSpec)) loopsNestUptoCard
end Rows
end Go.Proofs.YtoahickmkkcneaaDoor
