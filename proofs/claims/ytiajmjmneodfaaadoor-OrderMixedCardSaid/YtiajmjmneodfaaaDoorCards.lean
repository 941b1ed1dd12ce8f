/-
  DERIVED. GIVEN WITH THE SEED: THE CARDS: each row of YtiajmjmneodfaaaDoorRows.lean that lists a variable, with what it lists TIED to the program's text (the seventh form; the later family's looks); each row that meets fmt, with fmt's text TOLD by the authors' own Lean function (tested against real Go, not proved from fmt's source: count such statements apart). THE CARD IS WHAT COUNTS. Prove the row's statement (the work); the ties are given (YtiajmjmneodfaaaDoorTie.lean); close each card by the builder's one call (the guide's Derived/Test/ToyasCard.lean, 'card_holds'). Laid BY PROGRAM, IN A SANDBOX (cutbox-door.mjs). By AI agents, Wed Nov 11 2026. No macro, syntax, notation, axiom, sorry.
-/
import Derived.Test.YtiajmjmneodfaaaDoorRows
import GoSem.ClaimSeven
namespace Go.Proofs.YtiajmjmneodfaaaDoor
namespace Rows

/-- THE TIED CARD OF 'reliquarylaw13.OrderNexts'. -/
def orderNextsCard : Claim7 := { stood := { row := orderNextsRow, standIns := [], harness := (true, "897779745fc636cd1857dfb91c2b8f4b8ad4ddfdd98cf6415f4e940e2e212dc7"), looks := false }, kinds := [], alts := [], laidByText := true, laidKinds := [.data, .pinned], laidTests := true, laidLooks := .later }
def OrderNextsCardSaid : Prop := Claim7.holds Tryd.pinned (.plain (OpenSpec.ofChange orderNextsSpec)) orderNextsCard

/-- THE TIED CARD OF 'reliquarylaw13.OrderNext'. -/
def orderNextCard : Claim7 := { stood := { row := orderNextRow, standIns := [], harness := (true, "897779745fc636cd1857dfb91c2b8f4b8ad4ddfdd98cf6415f4e940e2e212dc7"), looks := false }, kinds := [], alts := [], laidByText := true, laidKinds := [.data, .pinned], laidTests := true, laidLooks := .later }
def OrderNextCardSaid : Prop := Claim7.holds Tryd.pinned (.plain (OpenSpec.ofChange orderNextSpec)) orderNextCard

/-- THE TIED CARD OF 'reliquarylaw13.OrderChains'. -/
def orderChainsCard : Claim7 := { stood := { row := orderChainsRow, standIns := [], harness := (true, "897779745fc636cd1857dfb91c2b8f4b8ad4ddfdd98cf6415f4e940e2e212dc7"), looks := false }, kinds := [], alts := [], laidByText := true, laidKinds := [.data, .pinned], laidTests := true, laidLooks := .later }
def OrderChainsCardSaid : Prop := Claim7.holds Tryd.pinned (.plain (OpenSpec.ofChange orderChainsSpec)) orderChainsCard

/-- THE TIED CARD OF 'reliquarylaw13.OrderTexts'. -/
def orderTextsCard : Claim7 := { stood := { row := orderTextsRow, standIns := [], harness := (true, "897779745fc636cd1857dfb91c2b8f4b8ad4ddfdd98cf6415f4e940e2e212dc7"), looks := false }, kinds := [], alts := [], laidByText := true, laidKinds := [.data, .pinned], laidTests := true, laidLooks := .later }
def OrderTextsCardSaid : Prop := Claim7.holds Tryd.pinned (.plain (OpenSpec.ofChange orderTextsSpec)) orderTextsCard

/-- THE TIED CARD OF 'reliquarylaw13.OrderScores'. -/
def orderScoresCard : Claim7 := { stood := { row := orderScoresRow, standIns := [], harness := (true, "897779745fc636cd1857dfb91c2b8f4b8ad4ddfdd98cf6415f4e940e2e212dc7"), looks := false }, kinds := [], alts := [], laidByText := true, laidKinds := [.data, .pinned], laidTests := true, laidLooks := .later }
def OrderScoresCardSaid : Prop := Claim7.holds Tryd.pinned (.plain (OpenSpec.ofChange orderScoresSpec)) orderScoresCard

/-- THE TIED CARD OF 'reliquarylaw13.OrderKeys'. -/
def orderKeysCard : Claim7 := { stood := { row := orderKeysRow, standIns := [], harness := (true, "897779745fc636cd1857dfb91c2b8f4b8ad4ddfdd98cf6415f4e940e2e212dc7"), looks := false }, kinds := [], alts := [], laidByText := true, laidKinds := [.data, .pinned], laidTests := true, laidLooks := .later }
def OrderKeysCardSaid : Prop := Claim7.holds Tryd.pinned (.plain (OpenSpec.ofChange orderKeysSpec)) orderKeysCard

/-- THE TIED CARD OF 'reliquarylaw13.OrderMixed'. -/
def orderMixedCard : Claim7 := { stood := { row := orderMixedRow, standIns := [], harness := (true, "897779745fc636cd1857dfb91c2b8f4b8ad4ddfdd98cf6415f4e940e2e212dc7"), looks := false }, kinds := [], alts := [], laidByText := true, laidKinds := [.data, .pinned], laidTests := true, laidLooks := .later }
def OrderMixedCardSaid : Prop := Claim7.holds Tryd.pinned (.plain (OpenSpec.ofChange orderMixedSpec)) orderMixedCard

/-- THE SECOND FORM's CARD OF 'reliquarylaw13.OrderNexts'. -/
def orderNextsUptoCard : Claim7 := { stood := { row := orderNextsUptoRow, standIns := [], harness := (true, "897779745fc636cd1857dfb91c2b8f4b8ad4ddfdd98cf6415f4e940e2e212dc7"), looks := false }, kinds := [], alts := [], laidByText := true, laidKinds := [.data, .pinned], laidTests := true, laidLooks := .later }
def OrderNextsUptoCardSaid : Prop := Claim7.holds Tryd.pinned (.plain (OpenSpec.upto orderNextsSpec)) orderNextsUptoCard

/-- THE SECOND FORM's CARD OF 'reliquarylaw13.OrderNext'. -/
def orderNextUptoCard : Claim7 := { stood := { row := orderNextUptoRow, standIns := [], harness := (true, "897779745fc636cd1857dfb91c2b8f4b8ad4ddfdd98cf6415f4e940e2e212dc7"), looks := false }, kinds := [], alts := [], laidByText := true, laidKinds := [.data, .pinned], laidTests := true, laidLooks := .later }
def OrderNextUptoCardSaid : Prop := Claim7.holds Tryd.pinned (.plain (OpenSpec.upto orderNextSpec)) orderNextUptoCard

/-- THE SECOND FORM's CARD OF 'reliquarylaw13.OrderChains'. -/
def orderChainsUptoCard : Claim7 := { stood := { row := orderChainsUptoRow, standIns := [], harness := (true, "897779745fc636cd1857dfb91c2b8f4b8ad4ddfdd98cf6415f4e940e2e212dc7"), looks := false }, kinds := [], alts := [], laidByText := true, laidKinds := [.data, .pinned], laidTests := true, laidLooks := .later }
def OrderChainsUptoCardSaid : Prop := Claim7.holds Tryd.pinned (.plain (OpenSpec.upto orderChainsSpec)) orderChainsUptoCard

/-- THE SECOND FORM's CARD OF 'reliquarylaw13.OrderTexts'. -/
def orderTextsUptoCard : Claim7 := { stood := { row := orderTextsUptoRow, standIns := [], harness := (true, "897779745fc636cd1857dfb91c2b8f4b8ad4ddfdd98cf6415f4e940e2e212dc7"), looks := false }, kinds := [], alts := [], laidByText := true, laidKinds := [.data, .pinned], laidTests := true, laidLooks := .later }
def OrderTextsUptoCardSaid : Prop := Claim7.holds Tryd.pinned (.plain (OpenSpec.upto orderTextsSpec)) orderTextsUptoCard

/-- THE SECOND FORM's CARD OF 'reliquarylaw13.OrderScores'. -/
def orderScoresUptoCard : Claim7 := { stood := { row := orderScoresUptoRow, standIns := [], harness := (true, "897779745fc636cd1857dfb91c2b8f4b8ad4ddfdd98cf6415f4e940e2e212dc7"), looks := false }, kinds := [], alts := [], laidByText := true, laidKinds := [.data, .pinned], laidTests := true, laidLooks := .later }
def OrderScoresUptoCardSaid : Prop := Claim7.holds Tryd.pinned (.plain (OpenSpec.upto orderScoresSpec)) orderScoresUptoCard

/-- THE SECOND FORM's CARD OF 'reliquarylaw13.OrderKeys'. -/
def orderKeysUptoCard : Claim7 := { stood := { row := orderKeysUptoRow, standIns := [], harness := (true, "897779745fc636cd1857dfb91c2b8f4b8ad4ddfdd98cf6415f4e940e2e212dc7"), looks := false }, kinds := [], alts := [], laidByText := true, laidKinds := [.data, .pinned], laidTests := true, laidLooks := .later }
def OrderKeysUptoCardSaid : Prop := Claim7.holds Tryd.pinned (.plain (OpenSpec.upto orderKeysSpec)) orderKeysUptoCard

/-- THE SECOND FORM's CARD OF 'reliquarylaw13.OrderMixed'. -/
def orderMixedUptoCard : Claim7 := { stood := { row := orderMixedUptoRow, standIns := [], harness := (true, "897779745fc636cd1857dfb91c2b8f4b8ad4ddfdd98cf6415f4e940e2e212dc7"), looks := false }, kinds := [], alts := [], laidByText := true, laidKinds := [.data, .pinned], laidTests := true, laidLooks := .later }
def OrderMixedUptoCardSaid : Prop := Claim7.holds Tryd.pinned (.plain (OpenSpec.upto orderMixedSpec)) orderMixedUptoCard
end Rows
end Go.Proofs.YtiajmjmneodfaaaDoor
