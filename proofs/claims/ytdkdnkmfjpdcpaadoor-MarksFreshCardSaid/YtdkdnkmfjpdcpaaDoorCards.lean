/-
  DERIVED. GIVEN WITH THE SEED: THE CARDS: each row of YtdkdnkmfjpdcpaaDoorRows.lean that lists a variable, with what it lists TIED to the program's text (the seventh form; the later family's looks); each row that meets fmt, with fmt's text TOLD by the authors' own Lean function (tested against real Go, not proved from fmt's source: count such statements apart). THE CARD IS WHAT COUNTS. Prove the row's statement (the work); the ties are given (YtdkdnkmfjpdcpaaDoorTie.lean); close each card by the builder's one call (the guide's Derived/Test/ToyasCard.lean, 'card_holds'). Laid BY PROGRAM, IN A SANDBOX (cutbox-door.mjs). By AI agents, Wed Nov 11 2026. No macro, syntax, notation, axiom, sorry.
-/
import Derived.Test.YtdkdnkmfjpdcpaaDoorRows
import GoSem.ClaimSeven
namespace Go.Proofs.YtdkdnkmfjpdcpaaDoor
namespace Rows

/-- THE TIED CARD OF 'bodkinlaw10.MarksMoved'. -/
def marksMovedCard : Claim7 := { stood := { row := marksMovedRow, standIns := [], harness := (true, "94a69fc0901b87a20bb5fce10b73c05345c1f992799d0b5f3c08fee5b0932592"), looks := false }, kinds := [], alts := [], laidByText := true, laidKinds := [.data, .pinned], laidTests := true, laidLooks := .later }
def MarksMovedCardSaid : Prop := Claim7.holds Tryd.pinned (.plain (OpenSpec.ofChange marksMovedSpec)) marksMovedCard

/-- THE TIED CARD OF 'bodkinlaw10.MarksFollow'. -/
def marksFollowCard : Claim7 := { stood := { row := marksFollowRow, standIns := [], harness := (true, "94a69fc0901b87a20bb5fce10b73c05345c1f992799d0b5f3c08fee5b0932592"), looks := false }, kinds := [], alts := [], laidByText := true, laidKinds := [.data, .pinned], laidTests := true, laidLooks := .later }
def MarksFollowCardSaid : Prop := Claim7.holds Tryd.pinned (.plain (OpenSpec.ofChange marksFollowSpec)) marksFollowCard

/-- THE TIED CARD OF 'bodkinlaw10.MarksFresh'. -/
def marksFreshCard : Claim7 := { stood := { row := marksFreshRow, standIns := [], harness := (true, "94a69fc0901b87a20bb5fce10b73c05345c1f992799d0b5f3c08fee5b0932592"), looks := false }, kinds := [], alts := [], laidByText := true, laidKinds := [.data, .pinned], laidTests := true, laidLooks := .later }
def MarksFreshCardSaid : Prop := Claim7.holds Tryd.pinned (.plain (OpenSpec.ofChange marksFreshSpec)) marksFreshCard

/-- THE TIED CARD OF 'bodkinlaw10.MarksBack'. -/
def marksBackCard : Claim7 := { stood := { row := marksBackRow, standIns := [], harness := (true, "94a69fc0901b87a20bb5fce10b73c05345c1f992799d0b5f3c08fee5b0932592"), looks := false }, kinds := [], alts := [], laidByText := true, laidKinds := [.data, .pinned], laidTests := true, laidLooks := .later }
def MarksBackCardSaid : Prop := Claim7.holds Tryd.pinned (.plain (OpenSpec.ofChange marksBackSpec)) marksBackCard

/-- THE TIED CARD OF 'bodkinlaw10.MarksLast'. -/
def marksLastCard : Claim7 := { stood := { row := marksLastRow, standIns := [], harness := (true, "94a69fc0901b87a20bb5fce10b73c05345c1f992799d0b5f3c08fee5b0932592"), looks := false }, kinds := [], alts := [], laidByText := true, laidKinds := [.data, .pinned], laidTests := true, laidLooks := .later }
def MarksLastCardSaid : Prop := Claim7.holds Tryd.pinned (.plain (OpenSpec.ofChange marksLastSpec)) marksLastCard

/-- THE TIED CARD OF 'bodkinlaw10.MarksPlays'. -/
def marksPlaysCard : Claim7 := { stood := { row := marksPlaysRow, standIns := [], harness := (true, "94a69fc0901b87a20bb5fce10b73c05345c1f992799d0b5f3c08fee5b0932592"), looks := false }, kinds := [], alts := [], laidByText := true, laidKinds := [.data, .pinned], laidTests := true, laidLooks := .later }
def MarksPlaysCardSaid : Prop := Claim7.holds Tryd.pinned (.plain (OpenSpec.ofChange marksPlaysSpec)) marksPlaysCard

/-- THE TIED CARD OF 'bodkinlaw10.MarksEnds'. -/
def marksEndsCard : Claim7 := { stood := { row := marksEndsRow, standIns := [], harness := (true, "94a69fc0901b87a20bb5fce10b73c05345c1f992799d0b5f3c08fee5b0932592"), looks := false }, kinds := [], alts := [], laidByText := true, laidKinds := [.data, .pinned], laidTests := true, laidLooks := .later }
def MarksEndsCardSaid : Prop := Claim7.holds Tryd.pinned (.plain (OpenSpec.ofChange marksEndsSpec)) marksEndsCard

/-- THE TIED CARD OF 'bodkinlaw10.MarksSnaps'. -/
def marksSnapsCard : Claim7 := { stood := { row := marksSnapsRow, standIns := [], harness := (true, "94a69fc0901b87a20bb5fce10b73c05345c1f992799d0b5f3c08fee5b0932592"), looks := false }, kinds := [], alts := [], laidByText := true, laidKinds := [.data, .pinned], laidTests := true, laidLooks := .later }
def MarksSnapsCardSaid : Prop := Claim7.holds Tryd.pinned (.plain (OpenSpec.ofChange marksSnapsSpec)) marksSnapsCard

/-- THE TIED CARD OF 'bodkinlaw10.MarksNone'. -/
def marksNoneCard : Claim7 := { stood := { row := marksNoneRow, standIns := [], harness := (true, "94a69fc0901b87a20bb5fce10b73c05345c1f992799d0b5f3c08fee5b0932592"), looks := false }, kinds := [], alts := [], laidByText := true, laidKinds := [.data, .pinned], laidTests := true, laidLooks := .later }
def MarksNoneCardSaid : Prop := Claim7.holds Tryd.pinned (.plain (OpenSpec.ofChange marksNoneSpec)) marksNoneCard

/-- THE SECOND FORM's CARD OF 'bodkinlaw10.MarksMoved'. -/
def marksMovedUptoCard : Claim7 := { stood := { row := marksMovedUptoRow, standIns := [], harness := (true, "94a69fc0901b87a20bb5fce10b73c05345c1f992799d0b5f3c08fee5b0932592"), looks := false }, kinds := [], alts := [], laidByText := true, laidKinds := [.data, .pinned], laidTests := true, laidLooks := .later }
def MarksMovedUptoCardSaid : Prop := Claim7.holds Tryd.pinned (.plain (OpenSpec.upto marksMovedSpec)) marksMovedUptoCard

/-- THE SECOND FORM's CARD OF 'bodkinlaw10.MarksFollow'. -/
def marksFollowUptoCard : Claim7 := { stood := { row := marksFollowUptoRow, standIns := [], harness := (true, "94a69fc0901b87a20bb5fce10b73c05345c1f992799d0b5f3c08fee5b0932592"), looks := false }, kinds := [], alts := [], laidByText := true, laidKinds := [.data, .pinned], laidTests := true, laidLooks := .later }
def MarksFollowUptoCardSaid : Prop := Claim7.holds Tryd.pinned (.plain (OpenSpec.upto marksFollowSpec)) marksFollowUptoCard

/-- THE SECOND FORM's CARD OF 'bodkinlaw10.MarksFresh'. -/
def marksFreshUptoCard : Claim7 := { stood := { row := marksFreshUptoRow, standIns := [], harness := (true, "94a69fc0901b87a20bb5fce10b73c05345c1f992799d0b5f3c08fee5b0932592"), looks := false }, kinds := [], alts := [], laidByText := true, laidKinds := [.data, .pinned], laidTests := true, laidLooks := .later }
def MarksFreshUptoCardSaid : Prop := Claim7.holds Tryd.pinned (.plain (OpenSpec.upto marksFreshSpec)) marksFreshUptoCard

/-- THE SECOND FORM's CARD OF 'bodkinlaw10.MarksBack'. -/
def marksBackUptoCard : Claim7 := { stood := { row := marksBackUptoRow, standIns := [], harness := (true, "94a69fc0901b87a20bb5fce10b73c05345c1f992799d0b5f3c08fee5b0932592"), looks := false }, kinds := [], alts := [], laidByText := true, laidKinds := [.data, .pinned], laidTests := true, laidLooks := .later }
def MarksBackUptoCardSaid : Prop := Claim7.holds Tryd.pinned (.plain (OpenSpec.upto marksBackSpec)) marksBackUptoCard

/-- THE SECOND FORM's CARD OF 'bodkinlaw10.MarksLast'. -/
def marksLastUptoCard : Claim7 := { stood := { row := marksLastUptoRow, standIns := [], harness := (true, "94a69fc0901b87a20bb5fce10b73c05345c1f992799d0b5f3c08fee5b0932592"), looks := false }, kinds := [], alts := [], laidByText := true, laidKinds := [.data, .pinned], laidTests := true, laidLooks := .later }
def MarksLastUptoCardSaid : Prop := Claim7.holds Tryd.pinned (.plain (OpenSpec.upto marksLastSpec)) marksLastUptoCard

/-- THE SECOND FORM's CARD OF 'bodkinlaw10.MarksPlays'. -/
def marksPlaysUptoCard : Claim7 := { stood := { row := marksPlaysUptoRow, standIns := [], harness := (true, "94a69fc0901b87a20bb5fce10b73c05345c1f992799d0b5f3c08fee5b0932592"), looks := false }, kinds := [], alts := [], laidByText := true, laidKinds := [.data, .pinned], laidTests := true, laidLooks := .later }
def MarksPlaysUptoCardSaid : Prop := Claim7.holds Tryd.pinned (.plain (OpenSpec.upto marksPlaysSpec)) marksPlaysUptoCard

/-- THE SECOND FORM's CARD OF 'bodkinlaw10.MarksEnds'. -/
def marksEndsUptoCard : Claim7 := { stood := { row := marksEndsUptoRow, standIns := [], harness := (true, "94a69fc0901b87a20bb5fce10b73c05345c1f992799d0b5f3c08fee5b0932592"), looks := false }, kinds := [], alts := [], laidByText := true, laidKinds := [.data, .pinned], laidTests := true, laidLooks := .later }
def MarksEndsUptoCardSaid : Prop := Claim7.holds Tryd.pinned (.plain (OpenSpec.upto marksEndsSpec)) marksEndsUptoCard

/-- THE SECOND FORM's CARD OF 'bodkinlaw10.MarksSnaps'. -/
def marksSnapsUptoCard : Claim7 := { stood := { row := marksSnapsUptoRow, standIns := [], harness := (true, "94a69fc0901b87a20bb5fce10b73c05345c1f992799d0b5f3c08fee5b0932592"), looks := false }, kinds := [], alts := [], laidByText := true, laidKinds := [.data, .pinned], laidTests := true, laidLooks := .later }
def MarksSnapsUptoCardSaid : Prop := Claim7.holds Tryd.pinned (.plain (OpenSpec.upto marksSnapsSpec)) marksSnapsUptoCard

/-- THE SECOND FORM's CARD OF 'bodkinlaw10.MarksNone'. -/
def marksNoneUptoCard : Claim7 := { stood := { row := marksNoneUptoRow, standIns := [], harness := (true, "94a69fc0901b87a20bb5fce10b73c05345c1f992799d0b5f3c08fee5b0932592"), looks := false }, kinds := [], alts := [], laidByText := true, laidKinds := [.data, .pinned], laidTests := true, laidLooks := .later }
def MarksNoneUptoCardSaid : Prop := Claim7.holds Tryd.pinned (.plain (OpenSpec.upto marksNoneSpec)) marksNoneUptoCard
end Rows
end Go.Proofs.YtdkdnkmfjpdcpaaDoor
