/-
  DERIVED. GIVEN WITH THE SEED: THE CARDS: each row of YtgmpohdkignadaaGreatDoorRows.lean that lists a variable, with what it lists TIED to the program's text (the seventh form; the later family's looks); each row that meets fmt, with fmt's text TOLD by the authors' own Lean function (tested against real Go, not proved from fmt's source: count such statements apart). THE CARD IS WHAT COUNTS. Prove the row's statement (the work); the ties are given (YtgmpohdkignadaaGreatDoorTie.lean); close each card by the builder's one call (the guide's Derived/Test/ToyasCard.lean, 'card_holds'). Laid BY PROGRAM, IN A SANDBOX (cutbox-door.mjs). By AI agents, Wed Nov 11 2026. No macro, syntax, notation, axiom, sorry.
-/
import Derived.Test.YtgmpohdkignadaaGreatDoorRows
import GoSem.ClaimSeven
namespace Go.Proofs.YtgmpohdkignadaaGreatDoor
namespace Rows

/-- THE TIED CARD OF 'bodkinlaw11.LinesColumns'. -/
def linesColumnsCard : Claim7 := { stood := { row := linesColumnsRow, standIns := [], harness := (true, "729d1fc8d8cb29f50a4677a8f5930e40d98fd6008b5ab8b7d73c64f611457251"), looks := true }, kinds := [], alts := [], laidByText := true, laidKinds := [.data, .pinned], laidTests := true, laidLooks := .later }
def LinesColumnsCardSaid : Prop := Claim7.holds Tryz.pinned (.plain (OpenSpec.ofChange linesColumnsSpec)) linesColumnsCard

/-- THE TIED CARD OF 'bodkinlaw11.LinesBack'. -/
def linesBackCard : Claim7 := { stood := { row := linesBackRow, standIns := [], harness := (true, "729d1fc8d8cb29f50a4677a8f5930e40d98fd6008b5ab8b7d73c64f611457251"), looks := true }, kinds := [], alts := [], laidByText := true, laidKinds := [.data, .pinned], laidTests := true, laidLooks := .later }
def LinesBackCardSaid : Prop := Claim7.holds Tryz.pinned (.plain (OpenSpec.ofChange linesBackSpec)) linesBackCard

/-- THE TIED CARD OF 'bodkinlaw11.LinesAlike'. -/
def linesAlikeCard : Claim7 := { stood := { row := linesAlikeRow, standIns := [], harness := (true, "729d1fc8d8cb29f50a4677a8f5930e40d98fd6008b5ab8b7d73c64f611457251"), looks := true }, kinds := [], alts := [], laidByText := true, laidKinds := [.data, .pinned], laidTests := true, laidLooks := .later }
def LinesAlikeCardSaid : Prop := Claim7.holds Tryz.pinned (.plain (OpenSpec.ofChange linesAlikeSpec)) linesAlikeCard

/-- THE TIED CARD OF 'bodkinlaw11.LinesSpans'. -/
def linesSpansCard : Claim7 := { stood := { row := linesSpansRow, standIns := [], harness := (true, "729d1fc8d8cb29f50a4677a8f5930e40d98fd6008b5ab8b7d73c64f611457251"), looks := true }, kinds := [], alts := [], laidByText := true, laidKinds := [.data, .pinned], laidTests := true, laidLooks := .later }
def LinesSpansCardSaid : Prop := Claim7.holds Tryz.pinned (.plain (OpenSpec.ofChange linesSpansSpec)) linesSpansCard

/-- THE TIED CARD OF 'bodkinlaw11.LinesTile'. -/
def linesTileCard : Claim7 := { stood := { row := linesTileRow, standIns := [], harness := (true, "729d1fc8d8cb29f50a4677a8f5930e40d98fd6008b5ab8b7d73c64f611457251"), looks := true }, kinds := [], alts := [], laidByText := true, laidKinds := [.data, .pinned], laidTests := true, laidLooks := .later }
def LinesTileCardSaid : Prop := Claim7.holds Tryz.pinned (.plain (OpenSpec.ofChange linesTileSpec)) linesTileCard

/-- THE TIED CARD OF 'bodkinlaw11.LinesNil'. -/
def linesNilCard : Claim7 := { stood := { row := linesNilRow, standIns := [], harness := (true, "729d1fc8d8cb29f50a4677a8f5930e40d98fd6008b5ab8b7d73c64f611457251"), looks := true }, kinds := [], alts := [], laidByText := true, laidKinds := [.data, .pinned], laidTests := true, laidLooks := .later }
def LinesNilCardSaid : Prop := Claim7.holds Tryz.pinned (.plain (OpenSpec.ofChange linesNilSpec)) linesNilCard

/-- THE TIED CARD OF 'bodkinlaw11.LinesKeeps'. -/
def linesKeepsCard : Claim7 := { stood := { row := linesKeepsRow, standIns := [], harness := (true, "729d1fc8d8cb29f50a4677a8f5930e40d98fd6008b5ab8b7d73c64f611457251"), looks := true }, kinds := [], alts := [], laidByText := true, laidKinds := [.data, .pinned], laidTests := true, laidLooks := .later }
def LinesKeepsCardSaid : Prop := Claim7.holds Tryz.pinned (.plain (OpenSpec.ofChange linesKeepsSpec)) linesKeepsCard

/-- THE TIED CARD OF 'bodkinlaw11.LinesWalks'. -/
def linesWalksCard : Claim7 := { stood := { row := linesWalksRow, standIns := [], harness := (true, "729d1fc8d8cb29f50a4677a8f5930e40d98fd6008b5ab8b7d73c64f611457251"), looks := true }, kinds := [], alts := [], laidByText := true, laidKinds := [.data, .pinned], laidTests := true, laidLooks := .later }
def LinesWalksCardSaid : Prop := Claim7.holds Tryz.pinned (.plain (OpenSpec.ofChange linesWalksSpec)) linesWalksCard

/-- THE SECOND FORM's CARD OF 'bodkinlaw11.LinesColumns'. -/
def linesColumnsUptoCard : Claim7 := { stood := { row := linesColumnsUptoRow, standIns := [], harness := (true, "729d1fc8d8cb29f50a4677a8f5930e40d98fd6008b5ab8b7d73c64f611457251"), looks := true }, kinds := [], alts := [], laidByText := true, laidKinds := [.data, .pinned], laidTests := true, laidLooks := .later }
def LinesColumnsUptoCardSaid : Prop := Claim7.holds Tryz.pinned (.plain (OpenSpec.upto linesColumnsSpec)) linesColumnsUptoCard

/-- THE SECOND FORM's CARD OF 'bodkinlaw11.LinesBack'. -/
def linesBackUptoCard : Claim7 := { stood := { row := linesBackUptoRow, standIns := [], harness := (true, "729d1fc8d8cb29f50a4677a8f5930e40d98fd6008b5ab8b7d73c64f611457251"), looks := true }, kinds := [], alts := [], laidByText := true, laidKinds := [.data, .pinned], laidTests := true, laidLooks := .later }
def LinesBackUptoCardSaid : Prop := Claim7.holds Tryz.pinned (.plain (OpenSpec.upto linesBackSpec)) linesBackUptoCard

/-- THE SECOND FORM's CARD OF 'bodkinlaw11.LinesAlike'. -/
def linesAlikeUptoCard : Claim7 := { stood := { row := linesAlikeUptoRow, standIns := [], harness := (true, "729d1fc8d8cb29f50a4677a8f5930e40d98fd6008b5ab8b7d73c64f611457251"), looks := true }, kinds := [], alts := [], laidByText := true, laidKinds := [.data, .pinned], laidTests := true, laidLooks := .later }
def LinesAlikeUptoCardSaid : Prop := Claim7.holds Tryz.pinned (.plain (OpenSpec.upto linesAlikeSpec)) linesAlikeUptoCard

/-- THE SECOND FORM's CARD OF 'bodkinlaw11.LinesSpans'. -/
def linesSpansUptoCard : Claim7 := { stood := { row := linesSpansUptoRow, standIns := [], harness := (true, "729d1fc8d8cb29f50a4677a8f5930e40d98fd6008b5ab8b7d73c64f611457251"), looks := true }, kinds := [], alts := [], laidByText := true, laidKinds := [.data, .pinned], laidTests := true, laidLooks := .later }
def LinesSpansUptoCardSaid : Prop := Claim7.holds Tryz.pinned (.plain (OpenSpec.upto linesSpansSpec)) linesSpansUptoCard

/-- THE SECOND FORM's CARD OF 'bodkinlaw11.LinesTile'. -/
def linesTileUptoCard : Claim7 := { stood := { row := linesTileUptoRow, standIns := [], harness := (true, "729d1fc8d8cb29f50a4677a8f5930e40d98fd6008b5ab8b7d73c64f611457251"), looks := true }, kinds := [], alts := [], laidByText := true, laidKinds := [.data, .pinned], laidTests := true, laidLooks := .later }
def LinesTileUptoCardSaid : Prop := Claim7.holds Tryz.pinned (.plain (OpenSpec.upto linesTileSpec)) linesTileUptoCard

/-- THE SECOND FORM's CARD OF 'bodkinlaw11.LinesNil'. -/
def linesNilUptoCard : Claim7 := { stood := { row := linesNilUptoRow, standIns := [], harness := (true, "729d1fc8d8cb29f50a4677a8f5930e40d98fd6008b5ab8b7d73c64f611457251"), looks := true }, kinds := [], alts := [], laidByText := true, laidKinds := [.data, .pinned], laidTests := true, laidLooks := .later }
def LinesNilUptoCardSaid : Prop := Claim7.holds Tryz.pinned (.plain (OpenSpec.upto linesNilSpec)) linesNilUptoCard

/-- THE SECOND FORM's CARD OF 'bodkinlaw11.LinesKeeps'. -/
def linesKeepsUptoCard : Claim7 := { stood := { row := linesKeepsUptoRow, standIns := [], harness := (true, "729d1fc8d8cb29f50a4677a8f5930e40d98fd6008b5ab8b7d73c64f611457251"), looks := true }, kinds := [], alts := [], laidByText := true, laidKinds := [.data, .pinned], laidTests := true, laidLooks := .later }
def LinesKeepsUptoCardSaid : Prop := Claim7.holds Tryz.pinned (.plain (OpenSpec.upto linesKeepsSpec)) linesKeepsUptoCard

/-- THE SECOND FORM's CARD OF 'bodkinlaw11.LinesWalks'. -/
def linesWalksUptoCard : Claim7 := { stood := { row := linesWalksUptoRow, standIns := [], harness := (true, "729d1fc8d8cb29f50a4677a8f5930e40d98fd6008b5ab8b7d73c64f611457251"), looks := true }, kinds := [], alts := [], laidByText := true, laidKinds := [.data, .pinned], laidTests := true, laidLooks := .later }
def LinesWalksUptoCardSaid : Prop := Claim7.holds Tryz.pinned (.plain (OpenSpec.upto linesWalksSpec)) linesWalksUptoCard
end Rows
end Go.Proofs.YtgmpohdkignadaaGreatDoor
