/-
  DERIVED. GIVEN WITH THE SEED: THE CARDS: each row of YtfchglcclgcgfaaGreatDoorRows.lean that lists a variable, with what it lists TIED to the program's text (the seventh form; the later family's looks); each row that meets fmt, with fmt's text TOLD by the authors' own Lean function (tested against real Go, not proved from fmt's source: count such statements apart). THE CARD IS WHAT COUNTS. Prove the row's statement (the work); the ties are given (YtfchglcclgcgfaaGreatDoorTie.lean); close each card by the builder's one call (the guide's Derived/Test/ToyasCard.lean, 'card_holds'). Laid BY PROGRAM, IN A SANDBOX (cutbox-door.mjs). By AI agents, Wed Nov 11 2026. No macro, syntax, notation, axiom, sorry.
-/
import Derived.Test.YtfchglcclgcgfaaGreatDoorRows
import GoSem.ClaimSeven
namespace Go.Proofs.YtfchglcclgcgfaaGreatDoor
namespace Rows

/-- THE TIED CARD OF 'bodkinlaw09.StoreTexts'. -/
def storeTextsCard : Claim7 := { stood := { row := storeTextsRow, standIns := [], harness := (true, "58ed3838abb72d75cef2c36fd1c16d82567fbf4e9be189d38833892728cb8256"), looks := true }, kinds := [], alts := [], laidByText := true, laidKinds := [.data, .pinned], laidTests := true, laidLooks := .later }
def StoreTextsCardSaid : Prop := Claim7.holds Tryz.pinned (.plain (OpenSpec.ofChange storeTextsSpec)) storeTextsCard

/-- THE TIED CARD OF 'bodkinlaw09.StorePlays'. -/
def storePlaysCard : Claim7 := { stood := { row := storePlaysRow, standIns := [], harness := (true, "58ed3838abb72d75cef2c36fd1c16d82567fbf4e9be189d38833892728cb8256"), looks := true }, kinds := [], alts := [], laidByText := true, laidKinds := [.data, .pinned], laidTests := true, laidLooks := .later }
def StorePlaysCardSaid : Prop := Claim7.holds Tryz.pinned (.plain (OpenSpec.ofChange storePlaysSpec)) storePlaysCard

/-- THE TIED CARD OF 'bodkinlaw09.StoreUnseen'. -/
def storeUnseenCard : Claim7 := { stood := { row := storeUnseenRow, standIns := [], harness := (true, "58ed3838abb72d75cef2c36fd1c16d82567fbf4e9be189d38833892728cb8256"), looks := true }, kinds := [], alts := [], laidByText := true, laidKinds := [.data, .pinned], laidTests := true, laidLooks := .later }
def StoreUnseenCardSaid : Prop := Claim7.holds Tryz.pinned (.plain (OpenSpec.ofChange storeUnseenSpec)) storeUnseenCard

/-- THE TIED CARD OF 'bodkinlaw09.StoreClones'. -/
def storeClonesCard : Claim7 := { stood := { row := storeClonesRow, standIns := [], harness := (true, "58ed3838abb72d75cef2c36fd1c16d82567fbf4e9be189d38833892728cb8256"), looks := true }, kinds := [], alts := [], laidByText := true, laidKinds := [.data, .pinned], laidTests := true, laidLooks := .later }
def StoreClonesCardSaid : Prop := Claim7.holds Tryz.pinned (.plain (OpenSpec.ofChange storeClonesSpec)) storeClonesCard

/-- THE TIED CARD OF 'bodkinlaw09.StoreEnds'. -/
def storeEndsCard : Claim7 := { stood := { row := storeEndsRow, standIns := [], harness := (true, "58ed3838abb72d75cef2c36fd1c16d82567fbf4e9be189d38833892728cb8256"), looks := true }, kinds := [], alts := [], laidByText := true, laidKinds := [.data, .pinned], laidTests := true, laidLooks := .later }
def StoreEndsCardSaid : Prop := Claim7.holds Tryz.pinned (.plain (OpenSpec.ofChange storeEndsSpec)) storeEndsCard

/-- THE TIED CARD OF 'bodkinlaw16.MoveWalks'. -/
def moveWalksCard : Claim7 := { stood := { row := moveWalksRow, standIns := [], harness := (true, "58ed3838abb72d75cef2c36fd1c16d82567fbf4e9be189d38833892728cb8256"), looks := true }, kinds := [], alts := [], laidByText := true, laidKinds := [.data, .pinned], laidTests := true, laidLooks := .later }
def MoveWalksCardSaid : Prop := Claim7.holds Tryz.pinned (.plain (OpenSpec.ofChange moveWalksSpec)) moveWalksCard

/-- THE TIED CARD OF 'bodkinlaw16.MoveStays'. -/
def moveStaysCard : Claim7 := { stood := { row := moveStaysRow, standIns := [], harness := (true, "58ed3838abb72d75cef2c36fd1c16d82567fbf4e9be189d38833892728cb8256"), looks := true }, kinds := [], alts := [], laidByText := true, laidKinds := [.data, .pinned], laidTests := true, laidLooks := .later }
def MoveStaysCardSaid : Prop := Claim7.holds Tryz.pinned (.plain (OpenSpec.ofChange moveStaysSpec)) moveStaysCard

/-- THE TIED CARD OF 'bodkinlaw16.MoveGoal'. -/
def moveGoalCard : Claim7 := { stood := { row := moveGoalRow, standIns := [], harness := (true, "58ed3838abb72d75cef2c36fd1c16d82567fbf4e9be189d38833892728cb8256"), looks := true }, kinds := [], alts := [], laidByText := true, laidKinds := [.data, .pinned], laidTests := true, laidLooks := .later }
def MoveGoalCardSaid : Prop := Claim7.holds Tryz.pinned (.plain (OpenSpec.ofChange moveGoalSpec)) moveGoalCard

/-- THE TIED CARD OF 'bodkinlaw16.MovePlaces'. -/
def movePlacesCard : Claim7 := { stood := { row := movePlacesRow, standIns := [], harness := (true, "58ed3838abb72d75cef2c36fd1c16d82567fbf4e9be189d38833892728cb8256"), looks := true }, kinds := [], alts := [], laidByText := true, laidKinds := [.data, .pinned], laidTests := true, laidLooks := .later }
def MovePlacesCardSaid : Prop := Claim7.holds Tryz.pinned (.plain (OpenSpec.ofChange movePlacesSpec)) movePlacesCard

/-- THE TIED CARD OF 'bodkinlaw16.MoveGoes'. -/
def moveGoesCard : Claim7 := { stood := { row := moveGoesRow, standIns := [], harness := (true, "58ed3838abb72d75cef2c36fd1c16d82567fbf4e9be189d38833892728cb8256"), looks := true }, kinds := [], alts := [], laidByText := true, laidKinds := [.data, .pinned], laidTests := true, laidLooks := .later }
def MoveGoesCardSaid : Prop := Claim7.holds Tryz.pinned (.plain (OpenSpec.ofChange moveGoesSpec)) moveGoesCard

/-- THE TIED CARD OF 'bodkinlaw16.MoveLines'. -/
def moveLinesCard : Claim7 := { stood := { row := moveLinesRow, standIns := [], harness := (true, "58ed3838abb72d75cef2c36fd1c16d82567fbf4e9be189d38833892728cb8256"), looks := true }, kinds := [], alts := [], laidByText := true, laidKinds := [.data, .pinned], laidTests := true, laidLooks := .later }
def MoveLinesCardSaid : Prop := Claim7.holds Tryz.pinned (.plain (OpenSpec.ofChange moveLinesSpec)) moveLinesCard

/-- THE TIED CARD OF 'bodkinlaw16.MoveEnds'. -/
def moveEndsCard : Claim7 := { stood := { row := moveEndsRow, standIns := [], harness := (true, "58ed3838abb72d75cef2c36fd1c16d82567fbf4e9be189d38833892728cb8256"), looks := true }, kinds := [], alts := [], laidByText := true, laidKinds := [.data, .pinned], laidTests := true, laidLooks := .later }
def MoveEndsCardSaid : Prop := Claim7.holds Tryz.pinned (.plain (OpenSpec.ofChange moveEndsSpec)) moveEndsCard

/-- THE SECOND FORM's CARD OF 'bodkinlaw09.StoreTexts'. -/
def storeTextsUptoCard : Claim7 := { stood := { row := storeTextsUptoRow, standIns := [], harness := (true, "58ed3838abb72d75cef2c36fd1c16d82567fbf4e9be189d38833892728cb8256"), looks := true }, kinds := [], alts := [], laidByText := true, laidKinds := [.data, .pinned], laidTests := true, laidLooks := .later }
def StoreTextsUptoCardSaid : Prop := Claim7.holds Tryz.pinned (.plain (OpenSpec.upto storeTextsSpec)) storeTextsUptoCard

/-- THE SECOND FORM's CARD OF 'bodkinlaw09.StorePlays'. -/
def storePlaysUptoCard : Claim7 := { stood := { row := storePlaysUptoRow, standIns := [], harness := (true, "58ed3838abb72d75cef2c36fd1c16d82567fbf4e9be189d38833892728cb8256"), looks := true }, kinds := [], alts := [], laidByText := true, laidKinds := [.data, .pinned], laidTests := true, laidLooks := .later }
def StorePlaysUptoCardSaid : Prop := Claim7.holds Tryz.pinned (.plain (OpenSpec.upto storePlaysSpec)) storePlaysUptoCard

/-- THE SECOND FORM's CARD OF 'bodkinlaw09.StoreUnseen'. -/
def storeUnseenUptoCard : Claim7 := { stood := { row := storeUnseenUptoRow, standIns := [], harness := (true, "58ed3838abb72d75cef2c36fd1c16d82567fbf4e9be189d38833892728cb8256"), looks := true }, kinds := [], alts := [], laidByText := true, laidKinds := [.data, .pinned], laidTests := true, laidLooks := .later }
def StoreUnseenUptoCardSaid : Prop := Claim7.holds Tryz.pinned (.plain (OpenSpec.upto storeUnseenSpec)) storeUnseenUptoCard

/-- THE SECOND FORM's CARD OF 'bodkinlaw09.StoreClones'. -/
def storeClonesUptoCard : Claim7 := { stood := { row := storeClonesUptoRow, standIns := [], harness := (true, "58ed3838abb72d75cef2c36fd1c16d82567fbf4e9be189d38833892728cb8256"), looks := true }, kinds := [], alts := [], laidByText := true, laidKinds := [.data, .pinned], laidTests := true, laidLooks := .later }
def StoreClonesUptoCardSaid : Prop := Claim7.holds Tryz.pinned (.plain (OpenSpec.upto storeClonesSpec)) storeClonesUptoCard

/-- THE SECOND FORM's CARD OF 'bodkinlaw09.StoreEnds'. -/
def storeEndsUptoCard : Claim7 := { stood := { row := storeEndsUptoRow, standIns := [], harness := (true, "58ed3838abb72d75cef2c36fd1c16d82567fbf4e9be189d38833892728cb8256"), looks := true }, kinds := [], alts := [], laidByText := true, laidKinds := [.data, .pinned], laidTests := true, laidLooks := .later }
def StoreEndsUptoCardSaid : Prop := Claim7.holds Tryz.pinned (.plain (OpenSpec.upto storeEndsSpec)) storeEndsUptoCard

/-- THE SECOND FORM's CARD OF 'bodkinlaw16.MoveWalks'. -/
def moveWalksUptoCard : Claim7 := { stood := { row := moveWalksUptoRow, standIns := [], harness := (true, "58ed3838abb72d75cef2c36fd1c16d82567fbf4e9be189d38833892728cb8256"), looks := true }, kinds := [], alts := [], laidByText := true, laidKinds := [.data, .pinned], laidTests := true, laidLooks := .later }
def MoveWalksUptoCardSaid : Prop := Claim7.holds Tryz.pinned (.plain (OpenSpec.upto moveWalksSpec)) moveWalksUptoCard

/-- THE SECOND FORM's CARD OF 'bodkinlaw16.MoveStays'. -/
def moveStaysUptoCard : Claim7 := { stood := { row := moveStaysUptoRow, standIns := [], harness := (true, "58ed3838abb72d75cef2c36fd1c16d82567fbf4e9be189d38833892728cb8256"), looks := true }, kinds := [], alts := [], laidByText := true, laidKinds := [.data, .pinned], laidTests := true, laidLooks := .later }
def MoveStaysUptoCardSaid : Prop := Claim7.holds Tryz.pinned (.plain (OpenSpec.upto moveStaysSpec)) moveStaysUptoCard

/-- THE SECOND FORM's CARD OF 'bodkinlaw16.MoveGoal'. -/
def moveGoalUptoCard : Claim7 := { stood := { row := moveGoalUptoRow, standIns := [], harness := (true, "58ed3838abb72d75cef2c36fd1c16d82567fbf4e9be189d38833892728cb8256"), looks := true }, kinds := [], alts := [], laidByText := true, laidKinds := [.data, .pinned], laidTests := true, laidLooks := .later }
def MoveGoalUptoCardSaid : Prop := Claim7.holds Tryz.pinned (.plain (OpenSpec.upto moveGoalSpec)) moveGoalUptoCard

/-- THE SECOND FORM's CARD OF 'bodkinlaw16.MovePlaces'. -/
def movePlacesUptoCard : Claim7 := { stood := { row := movePlacesUptoRow, standIns := [], harness := (true, "58ed3838abb72d75cef2c36fd1c16d82567fbf4e9be189d38833892728cb8256"), looks := true }, kinds := [], alts := [], laidByText := true, laidKinds := [.data, .pinned], laidTests := true, laidLooks := .later }
def MovePlacesUptoCardSaid : Prop := Claim7.holds Tryz.pinned (.plain (OpenSpec.upto movePlacesSpec)) movePlacesUptoCard

/-- THE SECOND FORM's CARD OF 'bodkinlaw16.MoveGoes'. -/
def moveGoesUptoCard : Claim7 := { stood := { row := moveGoesUptoRow, standIns := [], harness := (true, "58ed3838abb72d75cef2c36fd1c16d82567fbf4e9be189d38833892728cb8256"), looks := true }, kinds := [], alts := [], laidByText := true, laidKinds := [.data, .pinned], laidTests := true, laidLooks := .later }
def MoveGoesUptoCardSaid : Prop := Claim7.holds Tryz.pinned (.plain (OpenSpec.upto moveGoesSpec)) moveGoesUptoCard

/-- THE SECOND FORM's CARD OF 'bodkinlaw16.MoveLines'. -/
def moveLinesUptoCard : Claim7 := { stood := { row := moveLinesUptoRow, standIns := [], harness := (true, "58ed3838abb72d75cef2c36fd1c16d82567fbf4e9be189d38833892728cb8256"), looks := true }, kinds := [], alts := [], laidByText := true, laidKinds := [.data, .pinned], laidTests := true, laidLooks := .later }
def MoveLinesUptoCardSaid : Prop := Claim7.holds Tryz.pinned (.plain (OpenSpec.upto moveLinesSpec)) moveLinesUptoCard

/-- THE SECOND FORM's CARD OF 'bodkinlaw16.MoveEnds'. -/
def moveEndsUptoCard : Claim7 := { stood := { row := moveEndsUptoRow, standIns := [], harness := (true, "58ed3838abb72d75cef2c36fd1c16d82567fbf4e9be189d38833892728cb8256"), looks := true }, kinds := [], alts := [], laidByText := true, laidKinds := [.data, .pinned], laidTests := true, laidLooks := .later }
def MoveEndsUptoCardSaid : Prop := Claim7.holds Tryz.pinned (.plain (OpenSpec.upto moveEndsSpec)) moveEndsUptoCard
end Rows
end Go.Proofs.YtfchglcclgcgfaaGreatDoor
