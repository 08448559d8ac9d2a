/-
  NARROWER THAN 'FOR EVERY INPUT', by the rows' own cells (each row's printed sentence says how): MarksMoved: laid · MarksFollow: laid · MarksFresh: laid · MarksBack: laid · MarksLast: laid · MarksPlays: laid · MarksEnds: laid · MarksSnaps: laid · MarksNone: laid.
  DERIVED. THE GIVEN ROWS OF THIS SEAT. 9 by the template 'for every input the law returns true; each argument reads behind the call as it read before'; 0 by the template 'total and deterministic' (their statements: YtdkdnkmfjpdcpaaDoorTotals.lean).
  GIVEN WITH THE SEED: the statements are not yours to turn. If you find one false, say at which input.
  Laid BY PROGRAM, IN A SANDBOX (cutbox-rows.mjs): the forced cells as the released guide's own fill.sh prints them over the translation 1afe88487f617336… (all of the seat's roots in one cut). By AI agents, Wed Nov 11 2026. No macro, syntax, notation, axiom, sorry.
-/
import Derived.Test.YtdkdnkmfjpdcpaaDoorChecked
import GoSem.PinnedTables
import GoSem.Claim
import GoSem.ClaimJoined
import GoSem.ClaimMapViews
import Derived.JoinedTies
import Derived.KernelRfl
namespace Go.Proofs.YtdkdnkmfjpdcpaaDoor
/- THE CELL 'sum', in the pinned program and in every row, IS THE sha256 OF THE DUMP (.gsa) THAT YtdkdnkmfjpdcpaaDoorProg.lean LOADS. Nothing in Lean hashes anything: it is a label: what it is worth is what the hold of that sum in a sandbox is worth. -/
noncomputable def Tryd.pinned : Pinned := { name := "ytdkdnkmfjpdcpaadoor", sum := "1afe88487f617336240b4fd28bb4c11466c4c5af9b0515c52cf37f1c10f41bf6", checked := Tryd.checked }
namespace Rows
def none {H : Type} : Left H := { results := [], args := [] }

/- WHAT THE LISTED PACKAGE-LEVEL VARIABLES READ AS WHEN THE CALL BEGINS. Each datum BY PROGRAM (the guide's laid-datum.mjs) off the statement by which the dump's own 'gosem.cut.vars' lays the variable. In a bare row this is a premise. The card (YtdkdnkmfjpdcpaaDoorCards.lean) ties it to the program's text. -/
def laid_unicode_utf8_acceptRanges {H : Type} : DataW H := .agg [.agg [.lit (.int .u8 128), .lit (.int .u8 191)], .agg [.lit (.int .u8 160), .lit (.int .u8 191)], .agg [.lit (.int .u8 128), .lit (.int .u8 159)], .agg [.lit (.int .u8 144), .lit (.int .u8 191)], .agg [.lit (.int .u8 128), .lit (.int .u8 143)], .agg [.lit (.int .u8 0), .lit (.int .u8 0)], .agg [.lit (.int .u8 0), .lit (.int .u8 0)], .agg [.lit (.int .u8 0), .lit (.int .u8 0)], .agg [.lit (.int .u8 0), .lit (.int .u8 0)], .agg [.lit (.int .u8 0), .lit (.int .u8 0)], .agg [.lit (.int .u8 0), .lit (.int .u8 0)], .agg [.lit (.int .u8 0), .lit (.int .u8 0)], .agg [.lit (.int .u8 0), .lit (.int .u8 0)], .agg [.lit (.int .u8 0), .lit (.int .u8 0)], .agg [.lit (.int .u8 0), .lit (.int .u8 0)], .agg [.lit (.int .u8 0), .lit (.int .u8 0)]]
/-- One of Go's own tables, pinned by name: the form's constant. -/
def laid_unicode_utf8_first : DataW Unit := Go.Pinned.utf8First

/-- 'bodkinlaw10.MarksMoved': WHATEVER THE INPUT: true; the input reads as it did. -/
def marksMovedSpec : ChangeSpec := { name := "marksMoved", fn := fun _ => fun
  | [d1, d2] => { results := [.lit (.bool true)], args := [d1, d2] }
  | _ => none }
def marksMovedRow : OpenClaim := { program := "ytdkdnkmfjpdcpaadoor", sum := "1afe88487f617336240b4fd28bb4c11466c4c5af9b0515c52cf37f1c10f41bf6", func := "bodkin/bodkinlaw10.MarksMoved", spec := "marksMoved", unfollowed := true, recurses := true, named := ["unicode/utf8.first", "unicode/utf8.acceptRanges"], apart := false, laid := [("unicode/utf8.acceptRanges", laid_unicode_utf8_acceptRanges), ("unicode/utf8.first", laid_unicode_utf8_first)] }
def MarksMovedSaid : Prop := marksMovedRow.holds Tryd.pinned (OpenSpec.ofChange marksMovedSpec)

/-- ITS FALSE NEIGHBOUR: 'it returns false'. Refute it at one input. -/
def marksMovedWrong : ChangeSpec := { name := "marksMoved", fn := fun _ => fun
  | [d1, d2] => { results := [.lit (.bool false)], args := [d1, d2] }
  | _ => none }
def MarksMovedWrongFalsely : Prop := marksMovedRow.holds Tryd.pinned (OpenSpec.ofChange marksMovedWrong)

/-- 'bodkinlaw10.MarksFollow': WHATEVER THE INPUT: true; the input reads as it did. -/
def marksFollowSpec : ChangeSpec := { name := "marksFollow", fn := fun _ => fun
  | [d1, d2, d3, d4, d5, d6] => { results := [.lit (.bool true)], args := [d1, d2, d3, d4, d5, d6] }
  | _ => none }
def marksFollowRow : OpenClaim := { program := "ytdkdnkmfjpdcpaadoor", sum := "1afe88487f617336240b4fd28bb4c11466c4c5af9b0515c52cf37f1c10f41bf6", func := "bodkin/bodkinlaw10.MarksFollow", spec := "marksFollow", unfollowed := true, recurses := true, named := ["unicode/utf8.first", "unicode/utf8.acceptRanges"], apart := false, laid := [("unicode/utf8.acceptRanges", laid_unicode_utf8_acceptRanges), ("unicode/utf8.first", laid_unicode_utf8_first)] }
def MarksFollowSaid : Prop := marksFollowRow.holds Tryd.pinned (OpenSpec.ofChange marksFollowSpec)

/-- ITS FALSE NEIGHBOUR: 'it returns false'. Refute it at one input. -/
def marksFollowWrong : ChangeSpec := { name := "marksFollow", fn := fun _ => fun
  | [d1, d2, d3, d4, d5, d6] => { results := [.lit (.bool false)], args := [d1, d2, d3, d4, d5, d6] }
  | _ => none }
def MarksFollowWrongFalsely : Prop := marksFollowRow.holds Tryd.pinned (OpenSpec.ofChange marksFollowWrong)

/-- 'bodkinlaw10.MarksFresh': WHATEVER THE INPUT: true; the input reads as it did. -/
def marksFreshSpec : ChangeSpec := { name := "marksFresh", fn := fun _ => fun
  | [d1, d2] => { results := [.lit (.bool true)], args := [d1, d2] }
  | _ => none }
def marksFreshRow : OpenClaim := { program := "ytdkdnkmfjpdcpaadoor", sum := "1afe88487f617336240b4fd28bb4c11466c4c5af9b0515c52cf37f1c10f41bf6", func := "bodkin/bodkinlaw10.MarksFresh", spec := "marksFresh", unfollowed := true, recurses := true, named := ["unicode/utf8.first", "unicode/utf8.acceptRanges"], apart := false, laid := [("unicode/utf8.acceptRanges", laid_unicode_utf8_acceptRanges), ("unicode/utf8.first", laid_unicode_utf8_first)] }
def MarksFreshSaid : Prop := marksFreshRow.holds Tryd.pinned (OpenSpec.ofChange marksFreshSpec)

/-- ITS FALSE NEIGHBOUR: 'it returns false'. Refute it at one input. -/
def marksFreshWrong : ChangeSpec := { name := "marksFresh", fn := fun _ => fun
  | [d1, d2] => { results := [.lit (.bool false)], args := [d1, d2] }
  | _ => none }
def MarksFreshWrongFalsely : Prop := marksFreshRow.holds Tryd.pinned (OpenSpec.ofChange marksFreshWrong)

/-- 'bodkinlaw10.MarksBack': WHATEVER THE INPUT: true; the input reads as it did. -/
def marksBackSpec : ChangeSpec := { name := "marksBack", fn := fun _ => fun
  | [d1, d2, d3, d4, d5] => { results := [.lit (.bool true)], args := [d1, d2, d3, d4, d5] }
  | _ => none }
def marksBackRow : OpenClaim := { program := "ytdkdnkmfjpdcpaadoor", sum := "1afe88487f617336240b4fd28bb4c11466c4c5af9b0515c52cf37f1c10f41bf6", func := "bodkin/bodkinlaw10.MarksBack", spec := "marksBack", unfollowed := true, recurses := true, named := ["unicode/utf8.first", "unicode/utf8.acceptRanges"], apart := false, laid := [("unicode/utf8.acceptRanges", laid_unicode_utf8_acceptRanges), ("unicode/utf8.first", laid_unicode_utf8_first)] }
def MarksBackSaid : Prop := marksBackRow.holds Tryd.pinned (OpenSpec.ofChange marksBackSpec)

/-- ITS FALSE NEIGHBOUR: 'it returns false'. Refute it at one input. -/
def marksBackWrong : ChangeSpec := { name := "marksBack", fn := fun _ => fun
  | [d1, d2, d3, d4, d5] => { results := [.lit (.bool false)], args := [d1, d2, d3, d4, d5] }
  | _ => none }
def MarksBackWrongFalsely : Prop := marksBackRow.holds Tryd.pinned (OpenSpec.ofChange marksBackWrong)

/-- 'bodkinlaw10.MarksLast': WHATEVER THE INPUT: true; the input reads as it did. -/
def marksLastSpec : ChangeSpec := { name := "marksLast", fn := fun _ => fun
  | [d1, d2, d3] => { results := [.lit (.bool true)], args := [d1, d2, d3] }
  | _ => none }
def marksLastRow : OpenClaim := { program := "ytdkdnkmfjpdcpaadoor", sum := "1afe88487f617336240b4fd28bb4c11466c4c5af9b0515c52cf37f1c10f41bf6", func := "bodkin/bodkinlaw10.MarksLast", spec := "marksLast", unfollowed := true, recurses := true, named := ["unicode/utf8.first", "unicode/utf8.acceptRanges"], apart := false, laid := [("unicode/utf8.acceptRanges", laid_unicode_utf8_acceptRanges), ("unicode/utf8.first", laid_unicode_utf8_first)] }
def MarksLastSaid : Prop := marksLastRow.holds Tryd.pinned (OpenSpec.ofChange marksLastSpec)

/-- ITS FALSE NEIGHBOUR: 'it returns false'. Refute it at one input. -/
def marksLastWrong : ChangeSpec := { name := "marksLast", fn := fun _ => fun
  | [d1, d2, d3] => { results := [.lit (.bool false)], args := [d1, d2, d3] }
  | _ => none }
def MarksLastWrongFalsely : Prop := marksLastRow.holds Tryd.pinned (OpenSpec.ofChange marksLastWrong)

/-- 'bodkinlaw10.MarksPlays': WHATEVER THE INPUT: true; the input reads as it did. -/
def marksPlaysSpec : ChangeSpec := { name := "marksPlays", fn := fun _ => fun
  | [d1, d2] => { results := [.lit (.bool true)], args := [d1, d2] }
  | _ => none }
def marksPlaysRow : OpenClaim := { program := "ytdkdnkmfjpdcpaadoor", sum := "1afe88487f617336240b4fd28bb4c11466c4c5af9b0515c52cf37f1c10f41bf6", func := "bodkin/bodkinlaw10.MarksPlays", spec := "marksPlays", unfollowed := true, recurses := true, named := ["unicode/utf8.first", "unicode/utf8.acceptRanges"], apart := false, laid := [("unicode/utf8.acceptRanges", laid_unicode_utf8_acceptRanges), ("unicode/utf8.first", laid_unicode_utf8_first)] }
def MarksPlaysSaid : Prop := marksPlaysRow.holds Tryd.pinned (OpenSpec.ofChange marksPlaysSpec)

/-- ITS FALSE NEIGHBOUR: 'it returns false'. Refute it at one input. -/
def marksPlaysWrong : ChangeSpec := { name := "marksPlays", fn := fun _ => fun
  | [d1, d2] => { results := [.lit (.bool false)], args := [d1, d2] }
  | _ => none }
def MarksPlaysWrongFalsely : Prop := marksPlaysRow.holds Tryd.pinned (OpenSpec.ofChange marksPlaysWrong)

/-- 'bodkinlaw10.MarksEnds': WHATEVER THE INPUT: true; the input reads as it did. -/
def marksEndsSpec : ChangeSpec := { name := "marksEnds", fn := fun _ => fun
  | [d1, d2, d3, d4] => { results := [.lit (.bool true)], args := [d1, d2, d3, d4] }
  | _ => none }
def marksEndsRow : OpenClaim := { program := "ytdkdnkmfjpdcpaadoor", sum := "1afe88487f617336240b4fd28bb4c11466c4c5af9b0515c52cf37f1c10f41bf6", func := "bodkin/bodkinlaw10.MarksEnds", spec := "marksEnds", unfollowed := true, recurses := true, named := ["unicode/utf8.first", "unicode/utf8.acceptRanges"], apart := false, laid := [("unicode/utf8.acceptRanges", laid_unicode_utf8_acceptRanges), ("unicode/utf8.first", laid_unicode_utf8_first)] }
def MarksEndsSaid : Prop := marksEndsRow.holds Tryd.pinned (OpenSpec.ofChange marksEndsSpec)

/-- ITS FALSE NEIGHBOUR: 'it returns false'. Refute it at one input. -/
def marksEndsWrong : ChangeSpec := { name := "marksEnds", fn := fun _ => fun
  | [d1, d2, d3, d4] => { results := [.lit (.bool false)], args := [d1, d2, d3, d4] }
  | _ => none }
def MarksEndsWrongFalsely : Prop := marksEndsRow.holds Tryd.pinned (OpenSpec.ofChange marksEndsWrong)

/-- 'bodkinlaw10.MarksSnaps': WHATEVER THE INPUT: true; the input reads as it did. -/
def marksSnapsSpec : ChangeSpec := { name := "marksSnaps", fn := fun _ => fun
  | [d1, d2] => { results := [.lit (.bool true)], args := [d1, d2] }
  | _ => none }
def marksSnapsRow : OpenClaim := { program := "ytdkdnkmfjpdcpaadoor", sum := "1afe88487f617336240b4fd28bb4c11466c4c5af9b0515c52cf37f1c10f41bf6", func := "bodkin/bodkinlaw10.MarksSnaps", spec := "marksSnaps", unfollowed := true, recurses := true, named := ["unicode/utf8.first", "unicode/utf8.acceptRanges"], apart := false, laid := [("unicode/utf8.acceptRanges", laid_unicode_utf8_acceptRanges), ("unicode/utf8.first", laid_unicode_utf8_first)] }
def MarksSnapsSaid : Prop := marksSnapsRow.holds Tryd.pinned (OpenSpec.ofChange marksSnapsSpec)

/-- ITS FALSE NEIGHBOUR: 'it returns false'. Refute it at one input. -/
def marksSnapsWrong : ChangeSpec := { name := "marksSnaps", fn := fun _ => fun
  | [d1, d2] => { results := [.lit (.bool false)], args := [d1, d2] }
  | _ => none }
def MarksSnapsWrongFalsely : Prop := marksSnapsRow.holds Tryd.pinned (OpenSpec.ofChange marksSnapsWrong)

/-- 'bodkinlaw10.MarksNone': WHATEVER THE INPUT: true; the input reads as it did. -/
def marksNoneSpec : ChangeSpec := { name := "marksNone", fn := fun _ => fun
  | [d1, d2, d3] => { results := [.lit (.bool true)], args := [d1, d2, d3] }
  | _ => none }
def marksNoneRow : OpenClaim := { program := "ytdkdnkmfjpdcpaadoor", sum := "1afe88487f617336240b4fd28bb4c11466c4c5af9b0515c52cf37f1c10f41bf6", func := "bodkin/bodkinlaw10.MarksNone", spec := "marksNone", unfollowed := true, recurses := true, named := ["unicode/utf8.first", "unicode/utf8.acceptRanges"], apart := false, laid := [("unicode/utf8.acceptRanges", laid_unicode_utf8_acceptRanges), ("unicode/utf8.first", laid_unicode_utf8_first)] }
def MarksNoneSaid : Prop := marksNoneRow.holds Tryd.pinned (OpenSpec.ofChange marksNoneSpec)

/-- ITS FALSE NEIGHBOUR: 'it returns false'. Refute it at one input. -/
def marksNoneWrong : ChangeSpec := { name := "marksNone", fn := fun _ => fun
  | [d1, d2, d3] => { results := [.lit (.bool false)], args := [d1, d2, d3] }
  | _ => none }
def MarksNoneWrongFalsely : Prop := marksNoneRow.holds Tryd.pinned (OpenSpec.ofChange marksNoneWrong)

/- THE SECOND FORM. 'bulk': how many values and letters a reading holds, each counted each time it is reached (what is shared counts as often as it is met; a slice's spare places count too). A statement '..UptoSaid' is the law's where the arguments, and the package variables that the reading takes, are together of bulk at most 1048576: NARROWER than '..Said'. Prove '..Said' where nothing that the law and all that it calls make is longer than what came in: it says more and counts as full. Else prove '..UptoSaid'. A law counts once. -/
mutual
def uptoBulk {H : Type} : DataW H → Nat
  | .lit (.string bytes) => bytes.length + 1
  | .lit _ => 1
  | .nil => 1
  | .ptr d => uptoBulk d + 1
  | .slice elems spare => uptoBulkAll elems + uptoBulkAll spare + 1
  | .agg parts => uptoBulkAll parts + 1
  | .iface _ d => uptoBulk d + 1
  | .map entries => uptoBulkEntries entries + 1
  | .held _ => 1
def uptoBulkAll {H : Type} : List (DataW H) → Nat
  | [] => 0
  | d :: r => uptoBulk d + uptoBulkAll r
def uptoBulkEntries {H : Type} : List (Lit × DataW H) → Nat
  | [] => 0
  | x :: r => uptoBulkEntry x + uptoBulkEntries r
def uptoBulkEntry {H : Type} : Lit × DataW H → Nat
  | (.string bytes, d) => bytes.length + uptoBulk d + 1
  | (_, d) => uptoBulk d + 1
 end
def uptoSmall : (H : Type) → List (DataW H) → Bool := fun _ ds => decide (uptoBulkAll ds ≤ 1048576)
def OpenSpec.upto (s : _root_.Go.ChangeSpec) : _root_.Go.OpenSpec := { _root_.Go.OpenSpec.ofChange s with cond := some uptoSmall }

/-- 'bodkinlaw10.MarksMoved', WHERE WHAT IT READS IS OF BULK AT MOST 1048576: true; the input reads as it did. -/
def marksMovedUptoRow : OpenClaim := { program := "ytdkdnkmfjpdcpaadoor", sum := "1afe88487f617336240b4fd28bb4c11466c4c5af9b0515c52cf37f1c10f41bf6", func := "bodkin/bodkinlaw10.MarksMoved", spec := "marksMoved", unfollowed := true, recurses := true, named := ["unicode/utf8.first", "unicode/utf8.acceptRanges"], apart := false, laid := [("unicode/utf8.acceptRanges", laid_unicode_utf8_acceptRanges), ("unicode/utf8.first", laid_unicode_utf8_first)], narrowed := true }
def MarksMovedUptoSaid : Prop := marksMovedUptoRow.holds Tryd.pinned (OpenSpec.upto marksMovedSpec)

/-- 'bodkinlaw10.MarksFollow', WHERE WHAT IT READS IS OF BULK AT MOST 1048576: true; the input reads as it did. -/
def marksFollowUptoRow : OpenClaim := { program := "ytdkdnkmfjpdcpaadoor", sum := "1afe88487f617336240b4fd28bb4c11466c4c5af9b0515c52cf37f1c10f41bf6", func := "bodkin/bodkinlaw10.MarksFollow", spec := "marksFollow", unfollowed := true, recurses := true, named := ["unicode/utf8.first", "unicode/utf8.acceptRanges"], apart := false, laid := [("unicode/utf8.acceptRanges", laid_unicode_utf8_acceptRanges), ("unicode/utf8.first", laid_unicode_utf8_first)], narrowed := true }
def MarksFollowUptoSaid : Prop := marksFollowUptoRow.holds Tryd.pinned (OpenSpec.upto marksFollowSpec)

/-- 'bodkinlaw10.MarksFresh', WHERE WHAT IT READS IS OF BULK AT MOST 1048576: true; the input reads as it did. -/
def marksFreshUptoRow : OpenClaim := { program := "ytdkdnkmfjpdcpaadoor", sum := "1afe88487f617336240b4fd28bb4c11466c4c5af9b0515c52cf37f1c10f41bf6", func := "bodkin/bodkinlaw10.MarksFresh", spec := "marksFresh", unfollowed := true, recurses := true, named := ["unicode/utf8.first", "unicode/utf8.acceptRanges"], apart := false, laid := [("unicode/utf8.acceptRanges", laid_unicode_utf8_acceptRanges), ("unicode/utf8.first", laid_unicode_utf8_first)], narrowed := true }
def MarksFreshUptoSaid : Prop := marksFreshUptoRow.holds Tryd.pinned (OpenSpec.upto marksFreshSpec)

/-- 'bodkinlaw10.MarksBack', WHERE WHAT IT READS IS OF BULK AT MOST 1048576: true; the input reads as it did. -/
def marksBackUptoRow : OpenClaim := { program := "ytdkdnkmfjpdcpaadoor", sum := "1afe88487f617336240b4fd28bb4c11466c4c5af9b0515c52cf37f1c10f41bf6", func := "bodkin/bodkinlaw10.MarksBack", spec := "marksBack", unfollowed := true, recurses := true, named := ["unicode/utf8.first", "unicode/utf8.acceptRanges"], apart := false, laid := [("unicode/utf8.acceptRanges", laid_unicode_utf8_acceptRanges), ("unicode/utf8.first", laid_unicode_utf8_first)], narrowed := true }
def MarksBackUptoSaid : Prop := marksBackUptoRow.holds Tryd.pinned (OpenSpec.upto marksBackSpec)

/-- 'bodkinlaw10.MarksLast', WHERE WHAT IT READS IS OF BULK AT MOST 1048576: true; the input reads as it did. -/
def marksLastUptoRow : OpenClaim := { program := "ytdkdnkmfjpdcpaadoor", sum := "1afe88487f617336240b4fd28bb4c11466c4c5af9b0515c52cf37f1c10f41bf6", func := "bodkin/bodkinlaw10.MarksLast", spec := "marksLast", unfollowed := true, recurses := true, named := ["unicode/utf8.first", "unicode/utf8.acceptRanges"], apart := false, laid := [("unicode/utf8.acceptRanges", laid_unicode_utf8_acceptRanges), ("unicode/utf8.first", laid_unicode_utf8_first)], narrowed := true }
def MarksLastUptoSaid : Prop := marksLastUptoRow.holds Tryd.pinned (OpenSpec.upto marksLastSpec)

/-- 'bodkinlaw10.MarksPlays', WHERE WHAT IT READS IS OF BULK AT MOST 1048576: true; the input reads as it did. -/
def marksPlaysUptoRow : OpenClaim := { program := "ytdkdnkmfjpdcpaadoor", sum := "1afe88487f617336240b4fd28bb4c11466c4c5af9b0515c52cf37f1c10f41bf6", func := "bodkin/bodkinlaw10.MarksPlays", spec := "marksPlays", unfollowed := true, recurses := true, named := ["unicode/utf8.first", "unicode/utf8.acceptRanges"], apart := false, laid := [("unicode/utf8.acceptRanges", laid_unicode_utf8_acceptRanges), ("unicode/utf8.first", laid_unicode_utf8_first)], narrowed := true }
def MarksPlaysUptoSaid : Prop := marksPlaysUptoRow.holds Tryd.pinned (OpenSpec.upto marksPlaysSpec)

/-- 'bodkinlaw10.MarksEnds', WHERE WHAT IT READS IS OF BULK AT MOST 1048576: true; the input reads as it did. -/
def marksEndsUptoRow : OpenClaim := { program := "ytdkdnkmfjpdcpaadoor", sum := "1afe88487f617336240b4fd28bb4c11466c4c5af9b0515c52cf37f1c10f41bf6", func := "bodkin/bodkinlaw10.MarksEnds", spec := "marksEnds", unfollowed := true, recurses := true, named := ["unicode/utf8.first", "unicode/utf8.acceptRanges"], apart := false, laid := [("unicode/utf8.acceptRanges", laid_unicode_utf8_acceptRanges), ("unicode/utf8.first", laid_unicode_utf8_first)], narrowed := true }
def MarksEndsUptoSaid : Prop := marksEndsUptoRow.holds Tryd.pinned (OpenSpec.upto marksEndsSpec)

/-- 'bodkinlaw10.MarksSnaps', WHERE WHAT IT READS IS OF BULK AT MOST 1048576: true; the input reads as it did. -/
def marksSnapsUptoRow : OpenClaim := { program := "ytdkdnkmfjpdcpaadoor", sum := "1afe88487f617336240b4fd28bb4c11466c4c5af9b0515c52cf37f1c10f41bf6", func := "bodkin/bodkinlaw10.MarksSnaps", spec := "marksSnaps", unfollowed := true, recurses := true, named := ["unicode/utf8.first", "unicode/utf8.acceptRanges"], apart := false, laid := [("unicode/utf8.acceptRanges", laid_unicode_utf8_acceptRanges), ("unicode/utf8.first", laid_unicode_utf8_first)], narrowed := true }
def MarksSnapsUptoSaid : Prop := marksSnapsUptoRow.holds Tryd.pinned (OpenSpec.upto marksSnapsSpec)

/-- 'bodkinlaw10.MarksNone', WHERE WHAT IT READS IS OF BULK AT MOST 1048576: true; the input reads as it did. -/
def marksNoneUptoRow : OpenClaim := { program := "ytdkdnkmfjpdcpaadoor", sum := "1afe88487f617336240b4fd28bb4c11466c4c5af9b0515c52cf37f1c10f41bf6", func := "bodkin/bodkinlaw10.MarksNone", spec := "marksNone", unfollowed := true, recurses := true, named := ["unicode/utf8.first", "unicode/utf8.acceptRanges"], apart := false, laid := [("unicode/utf8.acceptRanges", laid_unicode_utf8_acceptRanges), ("unicode/utf8.first", laid_unicode_utf8_first)], narrowed := true }
def MarksNoneUptoSaid : Prop := marksNoneUptoRow.holds Tryd.pinned (OpenSpec.upto marksNoneSpec)

end Rows
end Go.Proofs.YtdkdnkmfjpdcpaaDoor
