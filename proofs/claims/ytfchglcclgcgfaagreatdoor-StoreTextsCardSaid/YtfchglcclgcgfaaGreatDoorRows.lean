/-
  NARROWER THAN 'FOR EVERY INPUT', by the rows' own cells (each row's printed sentence says how): StoreTexts: laid · StorePlays: laid · StoreUnseen: laid · StoreClones: laid · StoreEnds: laid · MoveWalks: laid · MoveStays: laid · MoveGoal: laid · MovePlaces: laid · MoveGoes: laid · MoveLines: laid · MoveEnds: laid.
  DERIVED. THE GIVEN ROWS OF THIS SEAT. 12 by the template 'for every input the law returns true; each argument reads behind the call as it read before'; 0 by the template 'total and deterministic' (their statements: YtfchglcclgcgfaaGreatDoorTotals.lean).
  GIVEN WITH THE SEED: the statements are not yours to turn. If you find one false, say at which input.
  Laid BY PROGRAM, IN A SANDBOX (cutbox-rows.mjs): the forced cells as the released guide's own fill.sh prints them over the translation 2f3b4da9ee8d3ac5… (all of the seat's roots in one cut). By AI agents, Wed Nov 11 2026. No macro, syntax, notation, axiom, sorry.
-/
import Derived.Test.YtfchglcclgcgfaaGreatDoorChecked
import GoSem.PinnedTables
import GoSem.Claim
import GoSem.ClaimJoined
import GoSem.ClaimMapViews
import Derived.JoinedTies
import Derived.KernelRfl
namespace Go.Proofs.YtfchglcclgcgfaaGreatDoor
/- THE CELL 'sum', in the pinned program and in every row, IS THE sha256 OF THE DUMP (.gsa) THAT YtfchglcclgcgfaaGreatDoorProg.lean LOADS. Nothing in Lean hashes anything: it is a label: what it is worth is what the hold of that sum in a sandbox is worth. -/
noncomputable def Tryz.pinned : Pinned := { name := "ytfchglcclgcgfaagreatdoor", sum := "2f3b4da9ee8d3ac5b522692f2e0b309206e4648a13bc94759e7044f1ccc279ee", checked := Tryz.checked }
namespace Rows
def none {H : Type} : Left H := { results := [], args := [] }

/- WHAT THE LISTED PACKAGE-LEVEL VARIABLES READ AS WHEN THE CALL BEGINS. Each datum BY PROGRAM (the guide's laid-datum.mjs) off the statement by which the dump's own 'gosem.cut.vars' lays the variable. In a bare row this is a premise. The card (YtfchglcclgcgfaaGreatDoorCards.lean) ties it to the program's text. -/
def laid_unicode_utf8_acceptRanges {H : Type} : DataW H := .agg [.agg [.lit (.int .u8 128), .lit (.int .u8 191)], .agg [.lit (.int .u8 160), .lit (.int .u8 191)], .agg [.lit (.int .u8 128), .lit (.int .u8 159)], .agg [.lit (.int .u8 144), .lit (.int .u8 191)], .agg [.lit (.int .u8 128), .lit (.int .u8 143)], .agg [.lit (.int .u8 0), .lit (.int .u8 0)], .agg [.lit (.int .u8 0), .lit (.int .u8 0)], .agg [.lit (.int .u8 0), .lit (.int .u8 0)], .agg [.lit (.int .u8 0), .lit (.int .u8 0)], .agg [.lit (.int .u8 0), .lit (.int .u8 0)], .agg [.lit (.int .u8 0), .lit (.int .u8 0)], .agg [.lit (.int .u8 0), .lit (.int .u8 0)], .agg [.lit (.int .u8 0), .lit (.int .u8 0)], .agg [.lit (.int .u8 0), .lit (.int .u8 0)], .agg [.lit (.int .u8 0), .lit (.int .u8 0)], .agg [.lit (.int .u8 0), .lit (.int .u8 0)]]
/-- One of Go's own tables, pinned by name: the form's constant. -/
def laid_unicode_utf8_first : DataW Unit := Go.Pinned.utf8First

/-- 'bodkinlaw09.StoreTexts': WHATEVER THE INPUT: true; the input reads as it did. -/
def storeTextsSpec : ChangeSpec := { name := "storeTexts", fn := fun _ => fun
  | [d1, d2, d3] => { results := [.lit (.bool true)], args := [d1, d2, d3] }
  | _ => none }
def storeTextsRow : OpenClaim := { program := "ytfchglcclgcgfaagreatdoor", sum := "2f3b4da9ee8d3ac5b522692f2e0b309206e4648a13bc94759e7044f1ccc279ee", func := "bodkin/bodkinlaw09.StoreTexts", spec := "storeTexts", inPlace := ["internal/bytealg.CountString", "internal/bytealg.IndexByteString", "internal/bytealg.IndexString"], unfollowed := true, recurses := true, named := ["unicode/utf8.first", "unicode/utf8.acceptRanges", "internal/bytealg.MaxLen"], apart := false, laid := [("unicode/utf8.acceptRanges", laid_unicode_utf8_acceptRanges), ("unicode/utf8.first", laid_unicode_utf8_first)] }
def StoreTextsSaid : Prop := storeTextsRow.holds Tryz.pinned (OpenSpec.ofChange storeTextsSpec)

/-- ITS FALSE NEIGHBOUR: 'it returns false'. Refute it at one input. -/
def storeTextsWrong : ChangeSpec := { name := "storeTexts", fn := fun _ => fun
  | [d1, d2, d3] => { results := [.lit (.bool false)], args := [d1, d2, d3] }
  | _ => none }
def StoreTextsWrongFalsely : Prop := storeTextsRow.holds Tryz.pinned (OpenSpec.ofChange storeTextsWrong)

/-- 'bodkinlaw09.StorePlays': WHATEVER THE INPUT: true; the input reads as it did. -/
def storePlaysSpec : ChangeSpec := { name := "storePlays", fn := fun _ => fun
  | [d1, d2] => { results := [.lit (.bool true)], args := [d1, d2] }
  | _ => none }
def storePlaysRow : OpenClaim := { program := "ytfchglcclgcgfaagreatdoor", sum := "2f3b4da9ee8d3ac5b522692f2e0b309206e4648a13bc94759e7044f1ccc279ee", func := "bodkin/bodkinlaw09.StorePlays", spec := "storePlays", inPlace := ["internal/bytealg.CountString", "internal/bytealg.IndexByteString", "internal/bytealg.IndexString"], unfollowed := true, recurses := true, named := ["unicode/utf8.first", "unicode/utf8.acceptRanges", "internal/bytealg.MaxLen"], apart := false, laid := [("unicode/utf8.acceptRanges", laid_unicode_utf8_acceptRanges), ("unicode/utf8.first", laid_unicode_utf8_first)] }
def StorePlaysSaid : Prop := storePlaysRow.holds Tryz.pinned (OpenSpec.ofChange storePlaysSpec)

/-- ITS FALSE NEIGHBOUR: 'it returns false'. Refute it at one input. -/
def storePlaysWrong : ChangeSpec := { name := "storePlays", fn := fun _ => fun
  | [d1, d2] => { results := [.lit (.bool false)], args := [d1, d2] }
  | _ => none }
def StorePlaysWrongFalsely : Prop := storePlaysRow.holds Tryz.pinned (OpenSpec.ofChange storePlaysWrong)

/-- 'bodkinlaw09.StoreUnseen': WHATEVER THE INPUT: true; the input reads as it did. -/
def storeUnseenSpec : ChangeSpec := { name := "storeUnseen", fn := fun _ => fun
  | [d1, d2, d3] => { results := [.lit (.bool true)], args := [d1, d2, d3] }
  | _ => none }
def storeUnseenRow : OpenClaim := { program := "ytfchglcclgcgfaagreatdoor", sum := "2f3b4da9ee8d3ac5b522692f2e0b309206e4648a13bc94759e7044f1ccc279ee", func := "bodkin/bodkinlaw09.StoreUnseen", spec := "storeUnseen", inPlace := ["internal/bytealg.CountString", "internal/bytealg.IndexByteString", "internal/bytealg.IndexString"], unfollowed := true, recurses := true, named := ["unicode/utf8.first", "unicode/utf8.acceptRanges", "internal/bytealg.MaxLen"], apart := false, laid := [("unicode/utf8.acceptRanges", laid_unicode_utf8_acceptRanges), ("unicode/utf8.first", laid_unicode_utf8_first)] }
def StoreUnseenSaid : Prop := storeUnseenRow.holds Tryz.pinned (OpenSpec.ofChange storeUnseenSpec)

/-- ITS FALSE NEIGHBOUR: 'it returns false'. Refute it at one input. -/
def storeUnseenWrong : ChangeSpec := { name := "storeUnseen", fn := fun _ => fun
  | [d1, d2, d3] => { results := [.lit (.bool false)], args := [d1, d2, d3] }
  | _ => none }
def StoreUnseenWrongFalsely : Prop := storeUnseenRow.holds Tryz.pinned (OpenSpec.ofChange storeUnseenWrong)

/-- 'bodkinlaw09.StoreClones': WHATEVER THE INPUT: true; the input reads as it did. -/
def storeClonesSpec : ChangeSpec := { name := "storeClones", fn := fun _ => fun
  | [d1, d2, d3] => { results := [.lit (.bool true)], args := [d1, d2, d3] }
  | _ => none }
def storeClonesRow : OpenClaim := { program := "ytfchglcclgcgfaagreatdoor", sum := "2f3b4da9ee8d3ac5b522692f2e0b309206e4648a13bc94759e7044f1ccc279ee", func := "bodkin/bodkinlaw09.StoreClones", spec := "storeClones", inPlace := ["internal/bytealg.CountString", "internal/bytealg.IndexByteString", "internal/bytealg.IndexString"], unfollowed := true, recurses := true, named := ["unicode/utf8.first", "unicode/utf8.acceptRanges", "internal/bytealg.MaxLen"], apart := false, laid := [("unicode/utf8.acceptRanges", laid_unicode_utf8_acceptRanges), ("unicode/utf8.first", laid_unicode_utf8_first)] }
def StoreClonesSaid : Prop := storeClonesRow.holds Tryz.pinned (OpenSpec.ofChange storeClonesSpec)

/-- ITS FALSE NEIGHBOUR: 'it returns false'. Refute it at one input. -/
def storeClonesWrong : ChangeSpec := { name := "storeClones", fn := fun _ => fun
  | [d1, d2, d3] => { results := [.lit (.bool false)], args := [d1, d2, d3] }
  | _ => none }
def StoreClonesWrongFalsely : Prop := storeClonesRow.holds Tryz.pinned (OpenSpec.ofChange storeClonesWrong)

/-- 'bodkinlaw09.StoreEnds': WHATEVER THE INPUT: true; the input reads as it did. -/
def storeEndsSpec : ChangeSpec := { name := "storeEnds", fn := fun _ => fun
  | [d] => { results := [.lit (.bool true)], args := [d] }
  | _ => none }
def storeEndsRow : OpenClaim := { program := "ytfchglcclgcgfaagreatdoor", sum := "2f3b4da9ee8d3ac5b522692f2e0b309206e4648a13bc94759e7044f1ccc279ee", func := "bodkin/bodkinlaw09.StoreEnds", spec := "storeEnds", inPlace := ["internal/bytealg.CountString", "internal/bytealg.IndexByteString", "internal/bytealg.IndexString"], unfollowed := true, recurses := true, named := ["unicode/utf8.first", "unicode/utf8.acceptRanges", "internal/bytealg.MaxLen"], apart := false, laid := [("unicode/utf8.acceptRanges", laid_unicode_utf8_acceptRanges), ("unicode/utf8.first", laid_unicode_utf8_first)] }
def StoreEndsSaid : Prop := storeEndsRow.holds Tryz.pinned (OpenSpec.ofChange storeEndsSpec)

/-- ITS FALSE NEIGHBOUR: 'it returns false'. Refute it at one input. -/
def storeEndsWrong : ChangeSpec := { name := "storeEnds", fn := fun _ => fun
  | [d] => { results := [.lit (.bool false)], args := [d] }
  | _ => none }
def StoreEndsWrongFalsely : Prop := storeEndsRow.holds Tryz.pinned (OpenSpec.ofChange storeEndsWrong)

/-- 'bodkinlaw16.MoveWalks': WHATEVER THE INPUT: true; the input reads as it did. -/
def moveWalksSpec : ChangeSpec := { name := "moveWalks", fn := fun _ => fun
  | [d1, d2, d3, d4] => { results := [.lit (.bool true)], args := [d1, d2, d3, d4] }
  | _ => none }
def moveWalksRow : OpenClaim := { program := "ytfchglcclgcgfaagreatdoor", sum := "2f3b4da9ee8d3ac5b522692f2e0b309206e4648a13bc94759e7044f1ccc279ee", func := "bodkin/bodkinlaw16.MoveWalks", spec := "moveWalks", inPlace := ["internal/bytealg.CountString", "internal/bytealg.IndexByteString", "internal/bytealg.IndexString"], unfollowed := true, recurses := true, named := ["unicode/utf8.first", "unicode/utf8.acceptRanges", "internal/bytealg.MaxLen"], apart := false, laid := [("unicode/utf8.acceptRanges", laid_unicode_utf8_acceptRanges), ("unicode/utf8.first", laid_unicode_utf8_first)] }
def MoveWalksSaid : Prop := moveWalksRow.holds Tryz.pinned (OpenSpec.ofChange moveWalksSpec)

/-- ITS FALSE NEIGHBOUR: 'it returns false'. Refute it at one input. -/
def moveWalksWrong : ChangeSpec := { name := "moveWalks", fn := fun _ => fun
  | [d1, d2, d3, d4] => { results := [.lit (.bool false)], args := [d1, d2, d3, d4] }
  | _ => none }
def MoveWalksWrongFalsely : Prop := moveWalksRow.holds Tryz.pinned (OpenSpec.ofChange moveWalksWrong)

/-- 'bodkinlaw16.MoveStays': WHATEVER THE INPUT: true; the input reads as it did. -/
def moveStaysSpec : ChangeSpec := { name := "moveStays", fn := fun _ => fun
  | [d1, d2, d3, d4] => { results := [.lit (.bool true)], args := [d1, d2, d3, d4] }
  | _ => none }
def moveStaysRow : OpenClaim := { program := "ytfchglcclgcgfaagreatdoor", sum := "2f3b4da9ee8d3ac5b522692f2e0b309206e4648a13bc94759e7044f1ccc279ee", func := "bodkin/bodkinlaw16.MoveStays", spec := "moveStays", inPlace := ["internal/bytealg.CountString", "internal/bytealg.IndexByteString", "internal/bytealg.IndexString"], unfollowed := true, recurses := true, named := ["unicode/utf8.first", "unicode/utf8.acceptRanges", "internal/bytealg.MaxLen"], apart := false, laid := [("unicode/utf8.acceptRanges", laid_unicode_utf8_acceptRanges), ("unicode/utf8.first", laid_unicode_utf8_first)] }
def MoveStaysSaid : Prop := moveStaysRow.holds Tryz.pinned (OpenSpec.ofChange moveStaysSpec)

/-- ITS FALSE NEIGHBOUR: 'it returns false'. Refute it at one input. -/
def moveStaysWrong : ChangeSpec := { name := "moveStays", fn := fun _ => fun
  | [d1, d2, d3, d4] => { results := [.lit (.bool false)], args := [d1, d2, d3, d4] }
  | _ => none }
def MoveStaysWrongFalsely : Prop := moveStaysRow.holds Tryz.pinned (OpenSpec.ofChange moveStaysWrong)

/-- 'bodkinlaw16.MoveGoal': WHATEVER THE INPUT: true; the input reads as it did. -/
def moveGoalSpec : ChangeSpec := { name := "moveGoal", fn := fun _ => fun
  | [d1, d2, d3, d4] => { results := [.lit (.bool true)], args := [d1, d2, d3, d4] }
  | _ => none }
def moveGoalRow : OpenClaim := { program := "ytfchglcclgcgfaagreatdoor", sum := "2f3b4da9ee8d3ac5b522692f2e0b309206e4648a13bc94759e7044f1ccc279ee", func := "bodkin/bodkinlaw16.MoveGoal", spec := "moveGoal", inPlace := ["internal/bytealg.CountString", "internal/bytealg.IndexByteString", "internal/bytealg.IndexString"], unfollowed := true, recurses := true, named := ["unicode/utf8.first", "unicode/utf8.acceptRanges", "internal/bytealg.MaxLen"], apart := false, laid := [("unicode/utf8.acceptRanges", laid_unicode_utf8_acceptRanges), ("unicode/utf8.first", laid_unicode_utf8_first)] }
def MoveGoalSaid : Prop := moveGoalRow.holds Tryz.pinned (OpenSpec.ofChange moveGoalSpec)

/-- ITS FALSE NEIGHBOUR: 'it returns false'. Refute it at one input. -/
def moveGoalWrong : ChangeSpec := { name := "moveGoal", fn := fun _ => fun
  | [d1, d2, d3, d4] => { results := [.lit (.bool false)], args := [d1, d2, d3, d4] }
  | _ => none }
def MoveGoalWrongFalsely : Prop := moveGoalRow.holds Tryz.pinned (OpenSpec.ofChange moveGoalWrong)

/-- 'bodkinlaw16.MovePlaces': WHATEVER THE INPUT: true; the input reads as it did. -/
def movePlacesSpec : ChangeSpec := { name := "movePlaces", fn := fun _ => fun
  | [d1, d2, d3, d4, d5] => { results := [.lit (.bool true)], args := [d1, d2, d3, d4, d5] }
  | _ => none }
def movePlacesRow : OpenClaim := { program := "ytfchglcclgcgfaagreatdoor", sum := "2f3b4da9ee8d3ac5b522692f2e0b309206e4648a13bc94759e7044f1ccc279ee", func := "bodkin/bodkinlaw16.MovePlaces", spec := "movePlaces", inPlace := ["internal/bytealg.CountString", "internal/bytealg.IndexByteString", "internal/bytealg.IndexString"], unfollowed := true, recurses := true, named := ["unicode/utf8.first", "unicode/utf8.acceptRanges", "internal/bytealg.MaxLen"], apart := false, laid := [("unicode/utf8.acceptRanges", laid_unicode_utf8_acceptRanges), ("unicode/utf8.first", laid_unicode_utf8_first)] }
def MovePlacesSaid : Prop := movePlacesRow.holds Tryz.pinned (OpenSpec.ofChange movePlacesSpec)

/-- ITS FALSE NEIGHBOUR: 'it returns false'. Refute it at one input. -/
def movePlacesWrong : ChangeSpec := { name := "movePlaces", fn := fun _ => fun
  | [d1, d2, d3, d4, d5] => { results := [.lit (.bool false)], args := [d1, d2, d3, d4, d5] }
  | _ => none }
def MovePlacesWrongFalsely : Prop := movePlacesRow.holds Tryz.pinned (OpenSpec.ofChange movePlacesWrong)

/-- 'bodkinlaw16.MoveGoes': WHATEVER THE INPUT: true; the input reads as it did. -/
def moveGoesSpec : ChangeSpec := { name := "moveGoes", fn := fun _ => fun
  | [d1, d2, d3, d4, d5] => { results := [.lit (.bool true)], args := [d1, d2, d3, d4, d5] }
  | _ => none }
def moveGoesRow : OpenClaim := { program := "ytfchglcclgcgfaagreatdoor", sum := "2f3b4da9ee8d3ac5b522692f2e0b309206e4648a13bc94759e7044f1ccc279ee", func := "bodkin/bodkinlaw16.MoveGoes", spec := "moveGoes", inPlace := ["internal/bytealg.CountString", "internal/bytealg.IndexByteString", "internal/bytealg.IndexString"], unfollowed := true, recurses := true, named := ["unicode/utf8.first", "unicode/utf8.acceptRanges", "internal/bytealg.MaxLen"], apart := false, laid := [("unicode/utf8.acceptRanges", laid_unicode_utf8_acceptRanges), ("unicode/utf8.first", laid_unicode_utf8_first)] }
def MoveGoesSaid : Prop := moveGoesRow.holds Tryz.pinned (OpenSpec.ofChange moveGoesSpec)

/-- ITS FALSE NEIGHBOUR: 'it returns false'. Refute it at one input. -/
def moveGoesWrong : ChangeSpec := { name := "moveGoes", fn := fun _ => fun
  | [d1, d2, d3, d4, d5] => { results := [.lit (.bool false)], args := [d1, d2, d3, d4, d5] }
  | _ => none }
def MoveGoesWrongFalsely : Prop := moveGoesRow.holds Tryz.pinned (OpenSpec.ofChange moveGoesWrong)

/-- 'bodkinlaw16.MoveLines': WHATEVER THE INPUT: true; the input reads as it did. -/
def moveLinesSpec : ChangeSpec := { name := "moveLines", fn := fun _ => fun
  | [d1, d2, d3, d4] => { results := [.lit (.bool true)], args := [d1, d2, d3, d4] }
  | _ => none }
def moveLinesRow : OpenClaim := { program := "ytfchglcclgcgfaagreatdoor", sum := "2f3b4da9ee8d3ac5b522692f2e0b309206e4648a13bc94759e7044f1ccc279ee", func := "bodkin/bodkinlaw16.MoveLines", spec := "moveLines", inPlace := ["internal/bytealg.CountString", "internal/bytealg.IndexByteString", "internal/bytealg.IndexString"], unfollowed := true, recurses := true, named := ["unicode/utf8.first", "unicode/utf8.acceptRanges", "internal/bytealg.MaxLen"], apart := false, laid := [("unicode/utf8.acceptRanges", laid_unicode_utf8_acceptRanges), ("unicode/utf8.first", laid_unicode_utf8_first)] }
def MoveLinesSaid : Prop := moveLinesRow.holds Tryz.pinned (OpenSpec.ofChange moveLinesSpec)

/-- ITS FALSE NEIGHBOUR: 'it returns false'. Refute it at one input. -/
def moveLinesWrong : ChangeSpec := { name := "moveLines", fn := fun _ => fun
  | [d1, d2, d3, d4] => { results := [.lit (.bool false)], args := [d1, d2, d3, d4] }
  | _ => none }
def MoveLinesWrongFalsely : Prop := moveLinesRow.holds Tryz.pinned (OpenSpec.ofChange moveLinesWrong)

/-- 'bodkinlaw16.MoveEnds': WHATEVER THE INPUT: true; the input reads as it did. -/
def moveEndsSpec : ChangeSpec := { name := "moveEnds", fn := fun _ => fun
  | [d1, d2, d3, d4, d5] => { results := [.lit (.bool true)], args := [d1, d2, d3, d4, d5] }
  | _ => none }
def moveEndsRow : OpenClaim := { program := "ytfchglcclgcgfaagreatdoor", sum := "2f3b4da9ee8d3ac5b522692f2e0b309206e4648a13bc94759e7044f1ccc279ee", func := "bodkin/bodkinlaw16.MoveEnds", spec := "moveEnds", inPlace := ["internal/bytealg.CountString", "internal/bytealg.IndexByteString", "internal/bytealg.IndexString"], unfollowed := true, recurses := true, named := ["unicode/utf8.first", "unicode/utf8.acceptRanges", "internal/bytealg.MaxLen"], apart := false, laid := [("unicode/utf8.acceptRanges", laid_unicode_utf8_acceptRanges), ("unicode/utf8.first", laid_unicode_utf8_first)] }
def MoveEndsSaid : Prop := moveEndsRow.holds Tryz.pinned (OpenSpec.ofChange moveEndsSpec)

/-- ITS FALSE NEIGHBOUR: 'it returns false'. Refute it at one input. -/
def moveEndsWrong : ChangeSpec := { name := "moveEnds", fn := fun _ => fun
  | [d1, d2, d3, d4, d5] => { results := [.lit (.bool false)], args := [d1, d2, d3, d4, d5] }
  | _ => none }
def MoveEndsWrongFalsely : Prop := moveEndsRow.holds Tryz.pinned (OpenSpec.ofChange moveEndsWrong)

/- THE SECOND FORM. 'bulk': how many values and letters a reading holds, each counted each time it is reached (what is shared counts as often as it is met; a slice's spare places count too). A statement '..UptoSaid' is the law's where the arguments, and the package variables that the reading takes, are together of bulk at most 1048576: NARROWER than '..Said'. Prove '..Said' where nothing that the law and all that it calls make is longer than what came in: it says more and counts as full. Else prove '..UptoSaid'. A law counts once. -/
mutual
def uptoBulk {H : Type} : DataW H → Nat
  | .lit (.string bytes) => bytes.length + 1
  | .lit _ => 1
  | .nil => 1
  | .ptr d => uptoBulk d + 1
  | .slice elems spare => uptoBulkAll elems + uptoBulkAll spare + 1
  | .agg parts => uptoBulkAll parts + 1
  | .iface _ d => uptoBulk d + 1
  | .map entries => uptoBulkEntries entries + 1
  | .held _ => 1
def uptoBulkAll {H : Type} : List (DataW H) → Nat
  | [] => 0
  | d :: r => uptoBulk d + uptoBulkAll r
def uptoBulkEntries {H : Type} : List (Lit × DataW H) → Nat
  | [] => 0
  | x :: r => uptoBulkEntry x + uptoBulkEntries r
def uptoBulkEntry {H : Type} : Lit × DataW H → Nat
  | (.string bytes, d) => bytes.length + uptoBulk d + 1
  | (_, d) => uptoBulk d + 1
 end
def uptoSmall : (H : Type) → List (DataW H) → Bool := fun _ ds => decide (uptoBulkAll ds ≤ 1048576)
def OpenSpec.upto (s : _root_.Go.ChangeSpec) : _root_.Go.OpenSpec := { _root_.Go.OpenSpec.ofChange s with cond := some uptoSmall }

/-- 'bodkinlaw09.StoreTexts', WHERE WHAT IT READS IS OF BULK AT MOST 1048576: true; the input reads as it did. -/
def storeTextsUptoRow : OpenClaim := { program := "ytfchglcclgcgfaagreatdoor", sum := "2f3b4da9ee8d3ac5b522692f2e0b309206e4648a13bc94759e7044f1ccc279ee", func := "bodkin/bodkinlaw09.StoreTexts", spec := "storeTexts", inPlace := ["internal/bytealg.CountString", "internal/bytealg.IndexByteString", "internal/bytealg.IndexString"], unfollowed := true, recurses := true, named := ["unicode/utf8.first", "unicode/utf8.acceptRanges", "internal/bytealg.MaxLen"], apart := false, laid := [("unicode/utf8.acceptRanges", laid_unicode_utf8_acceptRanges), ("unicode/utf8.first", laid_unicode_utf8_first)], narrowed := true }
def StoreTextsUptoSaid : Prop := storeTextsUptoRow.holds Tryz.pinned (OpenSpec.upto storeTextsSpec)

/-- 'bodkinlaw09.StorePlays', WHERE WHAT IT READS IS OF BULK AT MOST 1048576: true; the input reads as it did. -/
def storePlaysUptoRow : OpenClaim := { program := "ytfchglcclgcgfaagreatdoor", sum := "2f3b4da9ee8d3ac5b522692f2e0b309206e4648a13bc94759e7044f1ccc279ee", func := "bodkin/bodkinlaw09.StorePlays", spec := "storePlays", inPlace := ["internal/bytealg.CountString", "internal/bytealg.IndexByteString", "internal/bytealg.IndexString"], unfollowed := true, recurses := true, named := ["unicode/utf8.first", "unicode/utf8.acceptRanges", "internal/bytealg.MaxLen"], apart := false, laid := [("unicode/utf8.acceptRanges", laid_unicode_utf8_acceptRanges), ("unicode/utf8.first", laid_unicode_utf8_first)], narrowed := true }
def StorePlaysUptoSaid : Prop := storePlaysUptoRow.holds Tryz.pinned (OpenSpec.upto storePlaysSpec)

/-- 'bodkinlaw09.StoreUnseen', WHERE WHAT IT READS IS OF BULK AT MOST 1048576: true; the input reads as it did. -/
def storeUnseenUptoRow : OpenClaim := { program := "ytfchglcclgcgfaagreatdoor", sum := "2f3b4da9ee8d3ac5b522692f2e0b309206e4648a13bc94759e7044f1ccc279ee", func := "bodkin/bodkinlaw09.StoreUnseen", spec := "storeUnseen", inPlace := ["internal/bytealg.CountString", "internal/bytealg.IndexByteString", "internal/bytealg.IndexString"], unfollowed := true, recurses := true, named := ["unicode/utf8.first", "unicode/utf8.acceptRanges", "internal/bytealg.MaxLen"], apart := false, laid := [("unicode/utf8.acceptRanges", laid_unicode_utf8_acceptRanges), ("unicode/utf8.first", laid_unicode_utf8_first)], narrowed := true }
def StoreUnseenUptoSaid : Prop := storeUnseenUptoRow.holds Tryz.pinned (OpenSpec.upto storeUnseenSpec)

/-- 'bodkinlaw09.StoreClones', WHERE WHAT IT READS IS OF BULK AT MOST 1048576: true; the input reads as it did. -/
def storeClonesUptoRow : OpenClaim := { program := "ytfchglcclgcgfaagreatdoor", sum := "2f3b4da9ee8d3ac5b522692f2e0b309206e4648a13bc94759e7044f1ccc279ee", func := "bodkin/bodkinlaw09.StoreClones", spec := "storeClones", inPlace := ["internal/bytealg.CountString", "internal/bytealg.IndexByteString", "internal/bytealg.IndexString"], unfollowed := true, recurses := true, named := ["unicode/utf8.first", "unicode/utf8.acceptRanges", "internal/bytealg.MaxLen"], apart := false, laid := [("unicode/utf8.acceptRanges", laid_unicode_utf8_acceptRanges), ("unicode/utf8.first", laid_unicode_utf8_first)], narrowed := true }
def StoreClonesUptoSaid : Prop := storeClonesUptoRow.holds Tryz.pinned (OpenSpec.upto storeClonesSpec)

/-- 'bodkinlaw09.StoreEnds', WHERE WHAT IT READS IS OF BULK AT MOST 1048576: true; the input reads as it did. -/
def storeEndsUptoRow : OpenClaim := { program := "ytfchglcclgcgfaagreatdoor", sum := "2f3b4da9ee8d3ac5b522692f2e0b309206e4648a13bc94759e7044f1ccc279ee", func := "bodkin/bodkinlaw09.StoreEnds", spec := "storeEnds", inPlace := ["internal/bytealg.CountString", "internal/bytealg.IndexByteString", "internal/bytealg.IndexString"], unfollowed := true, recurses := true, named := ["unicode/utf8.first", "unicode/utf8.acceptRanges", "internal/bytealg.MaxLen"], apart := false, laid := [("unicode/utf8.acceptRanges", laid_unicode_utf8_acceptRanges), ("unicode/utf8.first", laid_unicode_utf8_first)], narrowed := true }
def StoreEndsUptoSaid : Prop := storeEndsUptoRow.holds Tryz.pinned (OpenSpec.upto storeEndsSpec)

/-- 'bodkinlaw16.MoveWalks', WHERE WHAT IT READS IS OF BULK AT MOST 1048576: true; the input reads as it did. -/
def moveWalksUptoRow : OpenClaim := { program := "ytfchglcclgcgfaagreatdoor", sum := "2f3b4da9ee8d3ac5b522692f2e0b309206e4648a13bc94759e7044f1ccc279ee", func := "bodkin/bodkinlaw16.MoveWalks", spec := "moveWalks", inPlace := ["internal/bytealg.CountString", "internal/bytealg.IndexByteString", "internal/bytealg.IndexString"], unfollowed := true, recurses := true, named := ["unicode/utf8.first", "unicode/utf8.acceptRanges", "internal/bytealg.MaxLen"], apart := false, laid := [("unicode/utf8.acceptRanges", laid_unicode_utf8_acceptRanges), ("unicode/utf8.first", laid_unicode_utf8_first)], narrowed := true }
def MoveWalksUptoSaid : Prop := moveWalksUptoRow.holds Tryz.pinned (OpenSpec.upto moveWalksSpec)

/-- 'bodkinlaw16.MoveStays', WHERE WHAT IT READS IS OF BULK AT MOST 1048576: true; the input reads as it did. -/
def moveStaysUptoRow : OpenClaim := { program := "ytfchglcclgcgfaagreatdoor", sum := "2f3b4da9ee8d3ac5b522692f2e0b309206e4648a13bc94759e7044f1ccc279ee", func := "bodkin/bodkinlaw16.MoveStays", spec := "moveStays", inPlace := ["internal/bytealg.CountString", "internal/bytealg.IndexByteString", "internal/bytealg.IndexString"], unfollowed := true, recurses := true, named := ["unicode/utf8.first", "unicode/utf8.acceptRanges", "internal/bytealg.MaxLen"], apart := false, laid := [("unicode/utf8.acceptRanges", laid_unicode_utf8_acceptRanges), ("unicode/utf8.first", laid_unicode_utf8_first)], narrowed := true }
def MoveStaysUptoSaid : Prop := moveStaysUptoRow.holds Tryz.pinned (OpenSpec.upto moveStaysSpec)

/-- 'bodkinlaw16.MoveGoal', WHERE WHAT IT READS IS OF BULK AT MOST 1048576: true; the input reads as it did. -/
def moveGoalUptoRow : OpenClaim := { program := "ytfchglcclgcgfaagreatdoor", sum := "2f3b4da9ee8d3ac5b522692f2e0b309206e4648a13bc94759e7044f1ccc279ee", func := "bodkin/bodkinlaw16.MoveGoal", spec := "moveGoal", inPlace := ["internal/bytealg.CountString", "internal/bytealg.IndexByteString", "internal/bytealg.IndexString"], unfollowed := true, recurses := true, named := ["unicode/utf8.first", "unicode/utf8.acceptRanges", "internal/bytealg.MaxLen"], apart := false, laid := [("unicode/utf8.acceptRanges", laid_unicode_utf8_acceptRanges), ("unicode/utf8.first", laid_unicode_utf8_first)], narrowed := true }
def MoveGoalUptoSaid : Prop := moveGoalUptoRow.holds Tryz.pinned (OpenSpec.upto moveGoalSpec)

/-- 'bodkinlaw16.MovePlaces', WHERE WHAT IT READS IS OF BULK AT MOST 1048576: true; the input reads as it did. -/
def movePlacesUptoRow : OpenClaim := { program := "ytfchglcclgcgfaagreatdoor", sum := "2f3b4da9ee8d3ac5b522692f2e0b309206e4648a13bc94759e7044f1ccc279ee", func := "bodkin/bodkinlaw16.MovePlaces", spec := "movePlaces", inPlace := ["internal/bytealg.CountString", "internal/bytealg.IndexByteString", "internal/bytealg.IndexString"], unfollowed := true, recurses := true, named := ["unicode/utf8.first", "unicode/utf8.acceptRanges", "internal/bytealg.MaxLen"], apart := false, laid := [("unicode/utf8.acceptRanges", laid_unicode_utf8_acceptRanges), ("unicode/utf8.first", laid_unicode_utf8_first)], narrowed := true }
def MovePlacesUptoSaid : Prop := movePlacesUptoRow.holds Tryz.pinned (OpenSpec.upto movePlacesSpec)

/-- 'bodkinlaw16.MoveGoes', WHERE WHAT IT READS IS OF BULK AT MOST 1048576: true; the input reads as it did. -/
def moveGoesUptoRow : OpenClaim := { program := "ytfchglcclgcgfaagreatdoor", sum := "2f3b4da9ee8d3ac5b522692f2e0b309206e4648a13bc94759e7044f1ccc279ee", func := "bodkin/bodkinlaw16.MoveGoes", spec := "moveGoes", inPlace := ["internal/bytealg.CountString", "internal/bytealg.IndexByteString", "internal/bytealg.IndexString"], unfollowed := true, recurses := true, named := ["unicode/utf8.first", "unicode/utf8.acceptRanges", "internal/bytealg.MaxLen"], apart := false, laid := [("unicode/utf8.acceptRanges", laid_unicode_utf8_acceptRanges), ("unicode/utf8.first", laid_unicode_utf8_first)], narrowed := true }
def MoveGoesUptoSaid : Prop := moveGoesUptoRow.holds Tryz.pinned (OpenSpec.upto moveGoesSpec)

/-- 'bodkinlaw16.MoveLines', WHERE WHAT IT READS IS OF BULK AT MOST 1048576: true; the input reads as it did. -/
def moveLinesUptoRow : OpenClaim := { program := "ytfchglcclgcgfaagreatdoor", sum := "2f3b4da9ee8d3ac5b522692f2e0b309206e4648a13bc94759e7044f1ccc279ee", func := "bodkin/bodkinlaw16.MoveLines", spec := "moveLines", inPlace := ["internal/bytealg.CountString", "internal/bytealg.IndexByteString", "internal/bytealg.IndexString"], unfollowed := true, recurses := true, named := ["unicode/utf8.first", "unicode/utf8.acceptRanges", "internal/bytealg.MaxLen"], apart := false, laid := [("unicode/utf8.acceptRanges", laid_unicode_utf8_acceptRanges), ("unicode/utf8.first", laid_unicode_utf8_first)], narrowed := true }
def MoveLinesUptoSaid : Prop := moveLinesUptoRow.holds Tryz.pinned (OpenSpec.upto moveLinesSpec)

/-- 'bodkinlaw16.MoveEnds', WHERE WHAT IT READS IS OF BULK AT MOST 1048576: true; the input reads as it did. -/
def moveEndsUptoRow : OpenClaim := { program := "ytfchglcclgcgfaagreatdoor", sum := "2f3b4da9ee8d3ac5b522692f2e0b309206e4648a13bc94759e7044f1ccc279ee", func := "bodkin/bodkinlaw16.MoveEnds", spec := "moveEnds", inPlace := ["internal/bytealg.CountString", "internal/bytealg.IndexByteString", "internal/bytealg.IndexString"], unfollowed := true, recurses := true, named := ["unicode/utf8.first", "unicode/utf8.acceptRanges", "internal/bytealg.MaxLen"], apart := false, laid := [("unicode/utf8.acceptRanges", laid_unicode_utf8_acceptRanges), ("unicode/utf8.first", laid_unicode_utf8_first)], narrowed := true }
def MoveEndsUptoSaid : Prop := moveEndsUptoRow.holds Tryz.pinned (OpenSpec.upto moveEndsSpec)

end Rows
end Go.Proofs.YtfchglcclgcgfaaGreatDoor
