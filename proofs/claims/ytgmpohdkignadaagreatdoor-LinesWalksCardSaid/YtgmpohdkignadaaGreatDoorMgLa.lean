/-
  What the proof of the laws L rests on: the texts Base ShelfL UtA WiA WiB ClA ClB Region Owes. Conditions: each theorem names its own.
-/
import Derived.Test.YtgmpohdkignadaaGreatDoorRows
import Derived.WalkKit
import Derived.ProofKit
import Derived.OpenShut
import Derived.Below
import Derived.LoopTactic
import Derived.Outline
import Derived.Lib.Hide
import Derived.Handy
import Derived.IntWalk
import Derived.Deep.QuietTactic
import Derived.BigQuiet
import Derived.Deep.RegionHeld3
import Derived.Deep.RegionLaw
import Derived.Deep.RegionWith
import Derived.Deep.DeepFit
import Derived.Deep.LoopGhost
import Derived.StillTailTactics
import Derived.Maps.OwnSet
import Derived.WalkSpells
import Derived.WalkLawsBesides
import Derived.Shelf.Strings.Builder1
import Derived.Shelf.Strings.BuilderF
import Derived.Shelf.Strings.BuilderK
import Derived.Shelf.Utf8.RuneCount
import Derived.Shelf.Strings.Search1
import Derived.Shelf.Strings.Search2
import Derived.Shelf.Strings.Search3
import Derived.Shelf.Strings.Count
import Derived.Shelf.LaysM
import Derived.Shelf.Strings.Shaped
import Derived.Shelf.Strings.Prefix
import Derived.Shelf.Strings.Split
import Derived.Shelf.Unicode.Decode
import Derived.Shelf.Strings.RuneCount
import Derived.Shelf.Unicode.DecodeSlow
import Derived.Shelf.Unicode.DecodeAny
import Derived.Shelf.Strings.BuilderCap
import Derived.Test.YtgmpohdkignadaaGreatDoorProg
import Derived.Shelf.Unicode.DecodeLastEight
import Derived.Orders
/-
  General words for the walks of this seat: what a call may change (Chg), and small helpers. No condition.
-/
namespace Go.Proofs.YtgmpohdkignadaaGreatDoor
open Go.RowKit
set_option linter.unusedVariables false
set_option linter.unusedSimpArgs false

/-- What a call may change of what lay before it: the blocks in S, nothing else. -/
structure Chg (S : Nat → Prop) (w w' : World) : Prop where
  os : w'.os = w.os
  tape : w'.tape = w.tape
  output : w'.output = w.output
  size : w.heap.size ≤ w'.heap.size
  block : ∀ k, k < w.heap.size → ¬ S k → w'.heap[k]? = w.heap[k]?

namespace Chg
variable {S T : Nat → Prop} {w w1 w2 : World}
theorem refl (S : Nat → Prop) (w : World) : Chg S w w := ⟨rfl, rfl, rfl, Nat.le_refl _, fun _ _ _ => rfl⟩
theorem trans (h : Chg S w w1) (k : Chg T w1 w2) (hT : ∀ x, x < w.heap.size → T x → S x) : Chg S w w2 :=
  ⟨k.os.trans h.os, k.tape.trans h.tape, k.output.trans h.output, Nat.le_trans h.size k.size, fun x hx hn => (k.block x (Nat.lt_of_lt_of_le hx h.size) (fun ht => hn (hT x hx ht))).trans (h.block x hx hn)⟩
theorem mono (h : Chg S w w1) (hT : ∀ x, S x → T x) : Chg T w w1 := ⟨h.os, h.tape, h.output, h.size, fun x hx hn => h.block x hx (fun hs => hn (hT x hs))⟩
theorem of_below (h : Below w.heap.size w w1) : Chg S w w1 := ⟨h.os, h.tape, h.output, h.size, fun x hx _ => h.block x hx⟩
theorem below (h : Chg (fun _ => False) w w1) : Below w.heap.size w w1 := ⟨h.os, h.tape, h.output, h.size, fun x hx => h.block x hx (fun f => f)⟩
theorem below_le {B : Nat} (h : Chg S w w1) (hB : B ≤ w.heap.size) (hS : ∀ x, S x → B ≤ x) : Below B w w1 := ⟨h.os, h.tape, h.output, h.size, fun x hx => h.block x (Nat.lt_of_lt_of_le hx hB) (fun hs => by have := hS x hs; omega)⟩
theorem then_below (h : Chg S w w1) (k : Below w1.heap.size w1 w2) : Chg S w w2 := h.trans (of_below (S := fun _ => False) k) (fun _ _ f => f.elim)
theorem of_grown {row : Option Nat} (h : w.grownBy w1 row) : Chg (fun k => some k = row) w w1 := ⟨h.os, h.tape, h.output, h.size, fun x hx hn => h.block x hx hn⟩
theorem set (w : World) (p : Addr) (u : Value) : Chg (fun k => k = p.block) w (w.setCell p u) := ⟨rfl, rfl, rfl, by simp [World.setCell], fun k _ hn => Below.heap_setCell w p u k hn⟩
theorem alloc (w : World) (o : Obj) : Chg S w (w.alloc o) := of_below ((Below.refl _ w).alloc (Nat.le_refl _) o)
theorem cell (h : Chg S w w1) {p : Addr} (hp : p.block < w.heap.size) (hS : ¬ S p.block) : w1.cell? p = w.cell? p := World.cell?_of_block (w := w) (h.block p.block hp hS)
theorem frozen (h : Chg S w w1) {p : Addr} (hp : p.block < w.heap.size) (hS : ¬ S p.block) : w1.frozen? p = w.frozen? p := World.frozen?_of_block (w := w) (h.block p.block hp hS)
end Chg

end Go.Proofs.YtgmpohdkignadaaGreatDoor
/-
  DERIVED: THE SHELF's CONTRACTS AT THIS DUMP, IN PLAIN WORDS (tools/lay-plain.mjs out of 'TryzShelf.lean', which tools/lay-shelf.mjs wrote): THE SAME DECLARATIONS UNDER THE SAME NAMES: 'import', 'namespace', 'open', 'def', 'theorem' AND NOTHING ELSE: no command of the shelf's: FOR A HAND-IN. Each laying: the table of numbers ('.._ren') and one theorem, a field a fact of the dump's own or the kernel's comparison; each contract: ONE APPLICATION.
-/
namespace Go.Proofs
open Go.Shelf
def Tryz.lays170_ren : Go.Shelf.Ren := ⟨fun | 170 => 167 | n => n, fun | 70 => 195 | 3 => 3 | 0 => 0 | 72 => 197 | 37 => 99 | 5 => 5 | n => n, fun | n => n⟩
theorem Tryz.lays170 : Go.Proofs.Lays.n170 Tryz.prog Tryz.lays170_ren := {
  mixed := by kernel_rfl
  f170 := Tryz.func167.trans (congrArg some (by kernel_rfl))
  t0 := Tryz.underlying0
  a0 := Tryz.isAgg0
  z0 := Tryz.sizeOf0
  v0 := Tryz.zeroValue0
  t3 := Tryz.underlying3
  a3 := Tryz.isAgg3
  z3 := Tryz.sizeOf3
  v3 := Tryz.zeroValue3
  t37 := Tryz.underlying99
  a37 := Tryz.isAgg99
  z37 := Tryz.sizeOf99
  v37 := Tryz.zeroValue99
  t70 := Tryz.underlying195
  a70 := Tryz.isAgg195
  z70 := Tryz.sizeOf195
  v70 := Tryz.zeroValue195
  t72 := Tryz.underlying197
  a72 := Tryz.isAgg197
  z72 := Tryz.sizeOf197
  v72 := Tryz.zeroValue197 }
open Go.RowKit in
/-- (*strings.Builder).Len: "Len returns the number of accumulated bytes; b.Len() == len(b.String()).": the world is as it was. (LAID: no walk: one application.) -/
theorem Tryz.Builder_Len (B b : Nat) (bs : List Value) (w : World) (h : Lib.IsBuilder 197 5 B b bs w) :
    Calls Tryz.prog 167 #[.pointer (some ⟨b, 0, none⟩)] w fun e w' => e = .returned (.int .i64 bs.length) ∧ w' = w := Any.Builder_Len Tryz.lays170 B b bs w h
def Tryz.lays169_ren : Go.Shelf.Ren := ⟨fun | 169 => 160 | n => n, fun | 70 => 195 | 9 => 9 | 0 => 0 | 72 => 197 | 37 => 99 | 127 => 182 | 3 => 3 | 5 => 5 | n => n, fun | n => n⟩
theorem Tryz.lays169 : Go.Proofs.Lays.n169 Tryz.prog Tryz.lays169_ren := {
  mixed := by kernel_rfl
  f169 := Tryz.func160.trans (congrArg some (by kernel_rfl))
  t0 := Tryz.underlying0
  a0 := Tryz.isAgg0
  z0 := Tryz.sizeOf0
  v0 := Tryz.zeroValue0
  t3 := Tryz.underlying3
  a3 := Tryz.isAgg3
  z3 := Tryz.sizeOf3
  v3 := Tryz.zeroValue3
  t9 := Tryz.underlying9
  a9 := Tryz.isAgg9
  z9 := Tryz.sizeOf9
  v9 := Tryz.zeroValue9
  t37 := Tryz.underlying99
  a37 := Tryz.isAgg99
  z37 := Tryz.sizeOf99
  v37 := Tryz.zeroValue99
  t70 := Tryz.underlying195
  a70 := Tryz.isAgg195
  z70 := Tryz.sizeOf195
  v70 := Tryz.zeroValue195
  t72 := Tryz.underlying197
  a72 := Tryz.isAgg197
  z72 := Tryz.sizeOf197
  v72 := Tryz.zeroValue197
  t127 := Tryz.underlying182
  a127 := Tryz.isAgg182
  z127 := Tryz.sizeOf182
  v127 := Tryz.zeroValue182 }
theorem Tryz.Builder_Extra_169 : Builder.Extra Tryz.prog Tryz.lays169_ren := {
  sizeBuilder := by kernel_rfl
  liesBuilder := by kernel_rfl
  t5 := Tryz.underlying5
  a5 := Tryz.isAgg5
  z5 := Tryz.sizeOf5
  v5 := Tryz.zeroValue5
  infoByte := by kernel_rfl
  cellsByte := by kernel_rfl
  sizeByte := by kernel_rfl
  neB5 := by decide }
open Go.RowKit in
/-- (*strings.Builder).String: "String returns the accumulated string.": OF A BUILDER THAT HOLDS AT LEAST ONE BYTE. ✋ THE MODEL FREEZES THOSE BYTES IN THE BUFFER (unsafe.String): a later write INTO them ends the model's run without an answer; a later append BEHIND them goes on. The statement's order of evaluation is drawn: one draw. (LAID: no walk: one application.) -/
theorem Tryz.Builder_String (B b : Nat) (l : List UInt8) (w : World) (h : Lib.IsBuilder 197 5 B b (Lib.byteCells l) w) (h0 : l ≠ []) :
    Calls Tryz.prog 160 #[.pointer (some ⟨b, 0, none⟩)] w fun e w' => e = .returned (.string ⟨l.toArray⟩) ∧ Below B w w' := Any.Builder_String Tryz.lays169 Tryz.Builder_Extra_169 B b l w h h0
open Go.RowKit in
/-- (*strings.Builder).String OF A BUILDER THAT HOLDS NO BYTE: the empty string. (Its buffer is nil, or a row of which it has taken nothing yet; where that row has NO capacity the model lays one new block for unsafe.SliceData's 'some address'.) One draw. (LAID: no walk: one application.) -/
theorem Tryz.Builder_String_empty (B b : Nat) (w : World) (h : Lib.IsBuilder 197 5 B b [] w) (hBw : B ≤ w.heap.size) :
    Calls Tryz.prog 160 #[.pointer (some ⟨b, 0, none⟩)] w fun e w' => e = .returned (.string ⟨#[]⟩) ∧ Below B w w' := Any.Builder_String_empty Tryz.lays169 Tryz.Builder_Extra_169 B b w h hBw
open Go.RowKit in
/-- (*strings.Builder).String: "String returns the accumulated string.": WHATEVER THE BUILDER HOLDS. (LAID: no walk: one application.) -/
theorem Tryz.Builder_String_any (B b : Nat) (l : List UInt8) (w : World) (h : Lib.IsBuilder 197 5 B b (Lib.byteCells l) w) (hBw : B ≤ w.heap.size) :
    Calls Tryz.prog 160 #[.pointer (some ⟨b, 0, none⟩)] w fun e w' => e = .returned (.string ⟨l.toArray⟩) ∧ Below B w w' := Any.Builder_String_any Tryz.lays169 Tryz.Builder_Extra_169 B b l w h hBw
open Go.RowKit in
/-- (*strings.Builder).Len: "Len returns the number of accumulated bytes; b.Len() == len(b.String()).": the world is as it was. (THE FORM '_f': 'Lib.IsBuilderF'.) (LAID: no walk: one application.) -/
theorem Tryz.Builder_Len_f (B b : Nat) (bs : List Value) (w : World) (h : Lib.IsBuilderF 197 5 B b bs w) :
    Calls Tryz.prog 167 #[.pointer (some ⟨b, 0, none⟩)] w fun e w' => e = .returned (.int .i64 bs.length) ∧ w' = w := Any.Builder_Len_f Tryz.lays170 B b bs w h
open Go.RowKit in
/-- (*strings.Builder).String: "String returns the accumulated string.": OF A BUILDER THAT HOLDS AT LEAST ONE BYTE. ✋ THE MODEL FREEZES THOSE BYTES IN THE BUFFER (unsafe.String): a later write INTO them ends the model's run without an answer; a later append BEHIND them goes on. The statement's order of evaluation is drawn: one draw. THE FORM '_f': IT SAYS BESIDES THAT THE BUILDER IS A BUILDER STILL ('Lib.IsBuilderF', the same bytes): SO IT CAN BE WRITTEN ON: 'b.WriteString(b.String()[:k])'. (LAID: no walk: one application.) -/
theorem Tryz.Builder_String_f (B b : Nat) (l : List UInt8) (w : World) (h : Lib.IsBuilderF 197 5 B b (Lib.byteCells l) w) (h0 : l ≠ []) :
    Calls Tryz.prog 160 #[.pointer (some ⟨b, 0, none⟩)] w fun e w' => e = .returned (.string ⟨l.toArray⟩) ∧ (Lib.IsBuilderF 197 5 B b (Lib.byteCells l) w' ∧ Below B w w') := Any.Builder_String_f Tryz.lays169 Tryz.Builder_Extra_169 B b l w h h0
open Go.RowKit in
/-- (*strings.Builder).String OF A BUILDER THAT HOLDS NO BYTE: the empty string; THE FORM '_f': a builder still. (LAID: no walk: one application.) -/
theorem Tryz.Builder_String_empty_f (B b : Nat) (w : World) (h : Lib.IsBuilderF 197 5 B b [] w) (hBw : B ≤ w.heap.size) :
    Calls Tryz.prog 160 #[.pointer (some ⟨b, 0, none⟩)] w fun e w' => e = .returned (.string ⟨#[]⟩) ∧ (Lib.IsBuilderF 197 5 B b [] w' ∧ Below B w w') := Any.Builder_String_empty_f Tryz.lays169 Tryz.Builder_Extra_169 B b w h hBw
open Go.RowKit in
/-- (*strings.Builder).String: "String returns the accumulated string.": WHATEVER THE BUILDER HOLDS; THE FORM '_f': OF A BUILDER THAT MAY HAVE BEEN READ BEFORE; AND IT IS A BUILDER STILL, holding the same bytes: it can be written on. (LAID: no walk: one application.) -/
theorem Tryz.Builder_String_any_f (B b : Nat) (l : List UInt8) (w : World) (h : Lib.IsBuilderF 197 5 B b (Lib.byteCells l) w) (hBw : B ≤ w.heap.size) :
    Calls Tryz.prog 160 #[.pointer (some ⟨b, 0, none⟩)] w fun e w' => e = .returned (.string ⟨l.toArray⟩) ∧ (Lib.IsBuilderF 197 5 B b (Lib.byteCells l) w' ∧ Below B w w') := Any.Builder_String_any_f Tryz.lays169 Tryz.Builder_Extra_169 B b l w h hBw
open Go.RowKit in
/-- (*strings.Builder).String: "String returns the accumulated string.": OF A BUILDER THAT HOLDS AT LEAST ONE BYTE. ✋ THE MODEL FREEZES THOSE BYTES IN THE BUFFER (unsafe.String): a later write INTO them ends the model's run without an answer; a later append BEHIND them goes on. The statement's order of evaluation is drawn: one draw. THE FORM '_k': OVER 'Lib.IsBuilderF' (a builder that 'String()' may have read), AND WITH THE FRAME THAT REACHES ABOVE THE BUILDER: 'Lib.OthersKept': every block that is not b and is no row of uint8's stands as it stood: the iterator of a range among them. (LAID: no walk: one application.) -/
theorem Tryz.Builder_String_k (B b : Nat) (l : List UInt8) (w : World) (h : Lib.IsBuilderF 197 5 B b (Lib.byteCells l) w) (h0 : l ≠ []) :
    Calls Tryz.prog 160 #[.pointer (some ⟨b, 0, none⟩)] w fun e w' => e = .returned (.string ⟨l.toArray⟩) ∧ (Lib.IsBuilderF 197 5 B b (Lib.byteCells l) w' ∧ Below B w w' ∧ Lib.OthersKept 5 (some b) w w') := Any.Builder_String_k Tryz.lays169 Tryz.Builder_Extra_169 B b l w h h0
open Go.RowKit in
/-- (*strings.Builder).String OF A BUILDER THAT HOLDS NO BYTE: the empty string; THE FORM '_k': OVER 'Lib.IsBuilderF' (a builder that 'String()' may have read), AND WITH THE FRAME THAT REACHES ABOVE THE BUILDER: 'Lib.OthersKept': every block that is not b and is no row of uint8's stands as it stood: the iterator of a range among them. (LAID: no walk: one application.) -/
theorem Tryz.Builder_String_empty_k (B b : Nat) (w : World) (h : Lib.IsBuilderF 197 5 B b [] w) (hBw : B ≤ w.heap.size) :
    Calls Tryz.prog 160 #[.pointer (some ⟨b, 0, none⟩)] w fun e w' => e = .returned (.string ⟨#[]⟩) ∧ (Lib.IsBuilderF 197 5 B b [] w' ∧ Below B w w' ∧ Lib.OthersKept 5 (some b) w w') := Any.Builder_String_empty_k Tryz.lays169 Tryz.Builder_Extra_169 B b w h hBw
open Go.RowKit in
/-- (*strings.Builder).String: "String returns the accumulated string.": WHATEVER THE BUILDER HOLDS; THE FORM '_k': OVER 'Lib.IsBuilderF' (a builder that 'String()' may have read), AND WITH THE FRAME THAT REACHES ABOVE THE BUILDER: 'Lib.OthersKept': every block that is not b and is no row of uint8's stands as it stood: the iterator of a range among them. (LAID: no walk: one application.) -/
theorem Tryz.Builder_String_any_k (B b : Nat) (l : List UInt8) (w : World) (h : Lib.IsBuilderF 197 5 B b (Lib.byteCells l) w) (hBw : B ≤ w.heap.size) :
    Calls Tryz.prog 160 #[.pointer (some ⟨b, 0, none⟩)] w fun e w' => e = .returned (.string ⟨l.toArray⟩) ∧ (Lib.IsBuilderF 197 5 B b (Lib.byteCells l) w' ∧ Below B w w' ∧ Lib.OthersKept 5 (some b) w w') := Any.Builder_String_any_k Tryz.lays169 Tryz.Builder_Extra_169 B b l w h hBw
def Tryz.lays195_ren : Go.Shelf.Ren := ⟨fun | 195 => 108 | n => n, fun | 9 => 9 | 3 => 3 | 0 => 0 | 4 => 4 | n => n, fun | n => n⟩
theorem Tryz.lays195 : Go.Proofs.Lays.n195 Tryz.prog Tryz.lays195_ren := {
  mixed := by kernel_rfl
  f195 := Tryz.func108.trans (congrArg some (by kernel_rfl))
  t0 := Tryz.underlying0
  a0 := Tryz.isAgg0
  z0 := Tryz.sizeOf0
  v0 := Tryz.zeroValue0
  t3 := Tryz.underlying3
  a3 := Tryz.isAgg3
  z3 := Tryz.sizeOf3
  v3 := Tryz.zeroValue3
  t4 := Tryz.underlying4
  a4 := Tryz.isAgg4
  z4 := Tryz.sizeOf4
  v4 := Tryz.zeroValue4
  t9 := Tryz.underlying9
  a9 := Tryz.isAgg9
  z9 := Tryz.sizeOf9
  v9 := Tryz.zeroValue9 }
open Go.RowKit in
/-- unicode/utf8.RuneCountInString: "RuneCountInString is like RuneCount but its input is a string." ("RuneCount returns the number of runes in p. Erroneous and short encodings are treated as single runes of width 1 byte."): EVERY STRING, valid UTF-8 or not: 'Lib.runeCount s' (plain Lean over the model's own 'Utf8.decode'; 'Lib.runeCount_le': at most len(s); 'Lib.runeCount_ascii': on ASCII: len(s)). THE ONE CONDITION: len(s) below 2^63 - 1 (the counter does not wrap): the form's reach pays it. THE WORLD BEHIND THE CALL: ONE BLOCK MORE: the model's iterator over s, at its end: all else as it was. (LAID: no walk: one application.) -/
theorem Tryz.utf8_RuneCountInString (s : ByteArray) (w : World) (hs : s.size < 9223372036854775807) :
    Calls Tryz.prog 108 #[.string s] w fun e w' => e = .returned (.int .i64 (Lib.runeCount s)) ∧ ∃ pos, w' = w.iter s pos := Any.utf8_RuneCountInString Tryz.lays195 s w hs
def Tryz.lays217_ren : Go.Shelf.Ren := ⟨fun | 217 => 112 | 266 => 116 | n => n, fun | 9 => 9 | 5 => 5 | 3 => 3 | n => n, fun | n => n⟩
theorem Tryz.lays217 : Go.Proofs.Lays.n217 Tryz.prog Tryz.lays217_ren := {
  mixed := by kernel_rfl
  f217 := Tryz.func112.trans (congrArg some (by kernel_rfl))
  f266 := Tryz.func116.trans (congrArg some (by kernel_rfl))
  t3 := Tryz.underlying3
  a3 := Tryz.isAgg3
  z3 := Tryz.sizeOf3
  v3 := Tryz.zeroValue3
  t5 := Tryz.underlying5
  a5 := Tryz.isAgg5
  z5 := Tryz.sizeOf5
  v5 := Tryz.zeroValue5
  t9 := Tryz.underlying9
  a9 := Tryz.isAgg9
  z9 := Tryz.sizeOf9
  v9 := Tryz.zeroValue9 }
open Go.RowKit Go.Lib in
/-- internal/stringslite.IndexByte (what strings.IndexByte calls): IT RETURNS 'Lib.indexByte s c'; the world is as it was. (LAID: no walk: one application.) -/
theorem Tryz.stringslite_IndexByte (s : ByteArray) (c : Int) (w : World) :
    Calls Tryz.prog 112 #[.string s, .int .u8 c] w fun e w' => e = .returned (.int .i64 (Lib.indexByte s.data.toList c.toNat.toUInt8)) ∧ w' = w := Any.stringslite_IndexByte Tryz.lays217 s c w
def Tryz.lays224_ren : Go.Shelf.Ren := ⟨fun | 224 => 114 | n => n, fun | 3 => 3 | n => n, fun | n => n⟩
theorem Tryz.lays224 : Go.Proofs.Lays.n224 Tryz.prog Tryz.lays224_ren := {
  mixed := by kernel_rfl
  f224 := Tryz.func114.trans (congrArg some (by kernel_rfl))
  t3 := Tryz.underlying3
  a3 := Tryz.isAgg3
  z3 := Tryz.sizeOf3
  v3 := Tryz.zeroValue3 }
open Go.RowKit Go.Lib in
/-- internal/bytealg.Cutover: "Cutover reports the number of failures of IndexByte we should tolerate before switching over to Index. n is the number of bytes processed so far.": on amd64: (n + 16) / 8. (LAID: no walk: one application.) -/
theorem Tryz.bytealg_Cutover (n : Int) (h0 : 0 ≤ n) (h1 : n < 4611686018427387904) (w : World) :
    Calls Tryz.prog 114 #[.int .i64 n] w fun e w' => e = .returned (.int .i64 ((n + 16) / 8)) ∧ w' = w := Any.bytealg_Cutover Tryz.lays224 n h0 h1 w
def Tryz.lays314_ren : Go.Shelf.Ren := ⟨fun | 314 => 117 | n => n, fun | 9 => 9 | 51 => 171 | 3 => 3 | 4 => 4 | 5 => 5 | 46 => 134 | n => n, fun | n => n⟩
theorem Tryz.lays314 : Go.Proofs.Lays.n314 Tryz.prog Tryz.lays314_ren := {
  mixed := by kernel_rfl
  f314 := Tryz.func117.trans (congrArg some (by kernel_rfl))
  t3 := Tryz.underlying3
  a3 := Tryz.isAgg3
  z3 := Tryz.sizeOf3
  v3 := Tryz.zeroValue3
  t4 := Tryz.underlying4
  a4 := Tryz.isAgg4
  z4 := Tryz.sizeOf4
  v4 := Tryz.zeroValue4
  t5 := Tryz.underlying5
  a5 := Tryz.isAgg5
  z5 := Tryz.sizeOf5
  v5 := Tryz.zeroValue5
  t9 := Tryz.underlying9
  a9 := Tryz.isAgg9
  z9 := Tryz.sizeOf9
  v9 := Tryz.zeroValue9
  t46 := Tryz.underlying134
  a46 := Tryz.isAgg134
  z46 := Tryz.sizeOf134
  v46 := Tryz.zeroValue134
  t51 := Tryz.underlying171
  a51 := Tryz.isAgg171
  z51 := Tryz.sizeOf171
  v51 := Tryz.zeroValue171 }
open Go.RowKit Go.Lib in
/-- hashStr: "returns the hash and the appropriate multiplicative factor for use in Rabin-Karp algorithm": THE HASH OF ALL OF sep, AND 16777619 ^ len(sep), both in uint32. (LAID: no walk: one application.) -/
theorem Tryz.bytealg_hashStr (sep : ByteArray) (hs : sep.size < 4294967281) (w : World) :
    Calls Tryz.prog 117 #[.string sep] w fun e w' => e = .returned (.tuple #[.int .u32 (RK.H sep.data.toList % 4294967296), .int .u32 (16777619 ^ sep.size % 4294967296)]) ∧ w' = w := Any.bytealg_hashStr Tryz.lays314 sep hs w
def Tryz.lays267_ren : Go.Shelf.Ren := ⟨fun | 267 => 115 | 314 => 117 | n => n, fun | 9 => 9 | 3 => 3 | 146 => 172 | 51 => 171 | 4 => 4 | 5 => 5 | 46 => 134 | n => n, fun | n => n⟩
theorem Tryz.lays267 : Go.Proofs.Lays.n267 Tryz.prog Tryz.lays267_ren := {
  mixed := by kernel_rfl
  f267 := Tryz.func115.trans (congrArg some (by kernel_rfl))
  f314 := Tryz.func117.trans (congrArg some (by kernel_rfl))
  t3 := Tryz.underlying3
  a3 := Tryz.isAgg3
  z3 := Tryz.sizeOf3
  v3 := Tryz.zeroValue3
  t4 := Tryz.underlying4
  a4 := Tryz.isAgg4
  z4 := Tryz.sizeOf4
  v4 := Tryz.zeroValue4
  t5 := Tryz.underlying5
  a5 := Tryz.isAgg5
  z5 := Tryz.sizeOf5
  v5 := Tryz.zeroValue5
  t9 := Tryz.underlying9
  a9 := Tryz.isAgg9
  z9 := Tryz.sizeOf9
  v9 := Tryz.zeroValue9
  t46 := Tryz.underlying134
  a46 := Tryz.isAgg134
  z46 := Tryz.sizeOf134
  v46 := Tryz.zeroValue134
  t51 := Tryz.underlying171
  a51 := Tryz.isAgg171
  z51 := Tryz.sizeOf171
  v51 := Tryz.zeroValue171
  t146 := Tryz.underlying172
  a146 := Tryz.isAgg172
  z146 := Tryz.sizeOf172
  v146 := Tryz.zeroValue172 }
open Go.RowKit Go.Lib in
theorem Tryz.bytealg_IndexRabinKarp (s sep : ByteArray) (h1 : 1 ≤ sep.size) (h2 : sep.size ≤ s.size) (hs : s.size < 4294967281) (w : World) :
    Calls Tryz.prog 115 #[.string s, .string sep] w fun e w' => e = .returned (.int .i64 (Lib.index s.data.toList sep.data.toList)) ∧ w' = w := Any.bytealg_IndexRabinKarp Tryz.lays267 s sep h1 h2 hs w
def Tryz.lays219_ren : Go.Shelf.Ren := ⟨fun | 219 => 111 | 217 => 112 | 225 => 113 | 224 => 114 | 267 => 115 | 266 => 116 | 314 => 117 | n => n, fun | 9 => 9 | 3 => 3 | 4 => 4 | 5 => 5 | 46 => 134 | 146 => 172 | 51 => 171 | n => n, fun | 1 => 2 | n => n⟩
theorem Tryz.lays219 : Go.Proofs.Lays.n219 Tryz.prog Tryz.lays219_ren := {
  mixed := by kernel_rfl
  f217 := Tryz.func112.trans (congrArg some (by kernel_rfl))
  f219 := Tryz.func111.trans (congrArg some (by kernel_rfl))
  f224 := Tryz.func114.trans (congrArg some (by kernel_rfl))
  f225 := Tryz.func113.trans (congrArg some (by kernel_rfl))
  f266 := Tryz.func116.trans (congrArg some (by kernel_rfl))
  f267 := Tryz.func115.trans (congrArg some (by kernel_rfl))
  f314 := Tryz.func117.trans (congrArg some (by kernel_rfl))
  t3 := Tryz.underlying3
  a3 := Tryz.isAgg3
  z3 := Tryz.sizeOf3
  v3 := Tryz.zeroValue3
  t4 := Tryz.underlying4
  a4 := Tryz.isAgg4
  z4 := Tryz.sizeOf4
  v4 := Tryz.zeroValue4
  t5 := Tryz.underlying5
  a5 := Tryz.isAgg5
  z5 := Tryz.sizeOf5
  v5 := Tryz.zeroValue5
  t9 := Tryz.underlying9
  a9 := Tryz.isAgg9
  z9 := Tryz.sizeOf9
  v9 := Tryz.zeroValue9
  t46 := Tryz.underlying134
  a46 := Tryz.isAgg134
  z46 := Tryz.sizeOf134
  v46 := Tryz.zeroValue134
  t51 := Tryz.underlying171
  a51 := Tryz.isAgg171
  z51 := Tryz.sizeOf171
  v51 := Tryz.zeroValue171
  t146 := Tryz.underlying172
  a146 := Tryz.isAgg172
  z146 := Tryz.sizeOf172
  v146 := Tryz.zeroValue172
  g1 := by kernel_rfl }
open Go.RowKit Go.Lib in
/-- internal/stringslite.Index (what strings.Index calls) AT A substr OF ONE BYTE c: IT RETURNS 'Lib.indexByte s c'; the world is as it was. (LAID: no walk: one application.) -/
theorem Tryz.stringslite_Index_one (s : ByteArray) (c : UInt8) (w : World) :
    Calls Tryz.prog 111 #[.string s, .string ⟨#[c]⟩] w fun e w' => e = .returned (.int .i64 (Lib.indexByte s.data.toList c)) ∧ w' = w := Any.stringslite_Index_one Tryz.lays219 s c w
open Go.RowKit Go.Lib in
/-- internal/stringslite.Index (what strings.Index calls) AT A substr OF WHATEVER LENGTH: IT RETURNS 'Lib.index s substr'; the world is as it was. 'm': what internal/bytealg.MaxLen holds: whatever. (LAID: no walk: one application.) -/
theorem Tryz.stringslite_Index (s sub : ByteArray) (m : Int) (w : World) (hs : s.size < 4294967281) (hm : w.cell? ⟨2, 0, none⟩ = some (.int .i64 m)) :
    Calls Tryz.prog 111 #[.string s, .string sub] w fun e w' => e = .returned (.int .i64 (Lib.index s.data.toList sub.data.toList)) ∧ w' = w := Any.stringslite_Index Tryz.lays219 s sub m w hs hm
def Tryz.lays143_ren : Go.Shelf.Ren := ⟨fun | 143 => 110 | 219 => 111 | 217 => 112 | 225 => 113 | 224 => 114 | 267 => 115 | 266 => 116 | 314 => 117 | n => n, fun | 9 => 9 | 3 => 3 | 4 => 4 | 5 => 5 | 46 => 134 | 146 => 172 | 51 => 171 | n => n, fun | 1 => 2 | n => n⟩
theorem Tryz.lays143 : Go.Proofs.Lays.n143 Tryz.prog Tryz.lays143_ren := {
  mixed := by kernel_rfl
  f143 := Tryz.func110.trans (congrArg some (by kernel_rfl))
  f217 := Tryz.func112.trans (congrArg some (by kernel_rfl))
  f219 := Tryz.func111.trans (congrArg some (by kernel_rfl))
  f224 := Tryz.func114.trans (congrArg some (by kernel_rfl))
  f225 := Tryz.func113.trans (congrArg some (by kernel_rfl))
  f266 := Tryz.func116.trans (congrArg some (by kernel_rfl))
  f267 := Tryz.func115.trans (congrArg some (by kernel_rfl))
  f314 := Tryz.func117.trans (congrArg some (by kernel_rfl))
  t3 := Tryz.underlying3
  a3 := Tryz.isAgg3
  z3 := Tryz.sizeOf3
  v3 := Tryz.zeroValue3
  t4 := Tryz.underlying4
  a4 := Tryz.isAgg4
  z4 := Tryz.sizeOf4
  v4 := Tryz.zeroValue4
  t5 := Tryz.underlying5
  a5 := Tryz.isAgg5
  z5 := Tryz.sizeOf5
  v5 := Tryz.zeroValue5
  t9 := Tryz.underlying9
  a9 := Tryz.isAgg9
  z9 := Tryz.sizeOf9
  v9 := Tryz.zeroValue9
  t46 := Tryz.underlying134
  a46 := Tryz.isAgg134
  z46 := Tryz.sizeOf134
  v46 := Tryz.zeroValue134
  t51 := Tryz.underlying171
  a51 := Tryz.isAgg171
  z51 := Tryz.sizeOf171
  v51 := Tryz.zeroValue171
  t146 := Tryz.underlying172
  a146 := Tryz.isAgg172
  z146 := Tryz.sizeOf172
  v146 := Tryz.zeroValue172
  g1 := by kernel_rfl }
open Go.RowKit Go.Lib in
/-- strings.Index: "Index returns the index of the first instance of substr in s, or -1 if substr is not present in s.": AT A substr OF ONE BYTE c: IT RETURNS 'Lib.indexByte s c'; the world is as it was. (LAID: no walk: one application.) -/
theorem Tryz.strings_Index_one (s : ByteArray) (c : UInt8) (w : World) :
    Calls Tryz.prog 110 #[.string s, .string ⟨#[c]⟩] w fun e w' => e = .returned (.int .i64 (Lib.indexByte s.data.toList c)) ∧ w' = w := Any.strings_Index_one Tryz.lays143 s c w
open Go.RowKit Go.Lib in
/-- strings.Index: "Index returns the index of the first instance of substr in s, or -1 if substr is not present in s.": IT RETURNS 'Lib.index s substr'; the world is as it was. (LAID: no walk: one application.) -/
theorem Tryz.strings_Index (s sub : ByteArray) (m : Int) (w : World) (hs : s.size < 4294967281) (hm : w.cell? ⟨2, 0, none⟩ = some (.int .i64 m)) :
    Calls Tryz.prog 110 #[.string s, .string sub] w fun e w' => e = .returned (.int .i64 (Lib.index s.data.toList sub.data.toList)) ∧ w' = w := Any.strings_Index Tryz.lays143 s sub m w hs hm
def Tryz.lays138_ren : Go.Shelf.Ren := ⟨fun | 138 => 102 | 195 => 108 | 218 => 109 | 143 => 110 | 219 => 111 | 217 => 112 | 225 => 113 | 224 => 114 | 267 => 115 | 266 => 116 | 314 => 117 | n => n, fun | 9 => 9 | 3 => 3 | 4 => 4 | 5 => 5 | 0 => 0 | 46 => 134 | 146 => 172 | 51 => 171 | n => n, fun | 1 => 2 | n => n⟩
theorem Tryz.lays138 : Go.Proofs.Lays.n138 Tryz.prog Tryz.lays138_ren := {
  mixed := by kernel_rfl
  f138 := Tryz.func102.trans (congrArg some (by kernel_rfl))
  f143 := Tryz.func110.trans (congrArg some (by kernel_rfl))
  f195 := Tryz.func108.trans (congrArg some (by kernel_rfl))
  f217 := Tryz.func112.trans (congrArg some (by kernel_rfl))
  f218 := Tryz.func109.trans (congrArg some (by kernel_rfl))
  f219 := Tryz.func111.trans (congrArg some (by kernel_rfl))
  f224 := Tryz.func114.trans (congrArg some (by kernel_rfl))
  f225 := Tryz.func113.trans (congrArg some (by kernel_rfl))
  f266 := Tryz.func116.trans (congrArg some (by kernel_rfl))
  f267 := Tryz.func115.trans (congrArg some (by kernel_rfl))
  f314 := Tryz.func117.trans (congrArg some (by kernel_rfl))
  t0 := Tryz.underlying0
  a0 := Tryz.isAgg0
  z0 := Tryz.sizeOf0
  v0 := Tryz.zeroValue0
  t3 := Tryz.underlying3
  a3 := Tryz.isAgg3
  z3 := Tryz.sizeOf3
  v3 := Tryz.zeroValue3
  t4 := Tryz.underlying4
  a4 := Tryz.isAgg4
  z4 := Tryz.sizeOf4
  v4 := Tryz.zeroValue4
  t5 := Tryz.underlying5
  a5 := Tryz.isAgg5
  z5 := Tryz.sizeOf5
  v5 := Tryz.zeroValue5
  t9 := Tryz.underlying9
  a9 := Tryz.isAgg9
  z9 := Tryz.sizeOf9
  v9 := Tryz.zeroValue9
  t46 := Tryz.underlying134
  a46 := Tryz.isAgg134
  z46 := Tryz.sizeOf134
  v46 := Tryz.zeroValue134
  t51 := Tryz.underlying171
  a51 := Tryz.isAgg171
  z51 := Tryz.sizeOf171
  v51 := Tryz.zeroValue171
  t146 := Tryz.underlying172
  a146 := Tryz.isAgg172
  z146 := Tryz.sizeOf172
  v146 := Tryz.zeroValue172
  g1 := by kernel_rfl }
open Go.RowKit Go.Lib in
/-- strings.Count AT A substr OF ONE BYTE ('hp'): "Count counts the number of non-overlapping instances of substr in s.": IT RETURNS 'Lib.countByte s (that byte)'; the world is as it was. ✋ NO CONTRACT HERE YET at an empty substr (utf8.RuneCountInString) or at a longer one (a loop over strings.Index). (LAID: no walk: one application.) -/
theorem Tryz.strings_Count_one (s : ByteArray) (c : UInt8) (w : World) :
    Calls Tryz.prog 102 #[.string s, .string ⟨#[c]⟩] w fun e w' => e = .returned (.int .i64 (Lib.countByte s.data.toList c)) ∧ w' = w := Any.strings_Count_one Tryz.lays138 s c w
open Go.RowKit Go.Lib in
/-- strings.Count AT A substr OF TWO BYTES OR MORE: "Count counts the number of non-overlapping instances of substr in s.": IT RETURNS 'Lib.count s substr'; the world is as it was. (LAID: no walk: one application.) -/
theorem Tryz.strings_Count (s sub : ByteArray) (m : Int) (w : World) (hs : s.size < 4294967281) (hm : w.cell? ⟨2, 0, none⟩ = some (.int .i64 m)) (h2 : 2 ≤ sub.size) :
    Calls Tryz.prog 102 #[.string s, .string sub] w fun e w' => e = .returned (.int .i64 (Lib.countB s sub)) ∧ w' = w := Any.strings_Count Tryz.lays138 s sub m w hs hm h2
def Tryz.laysM219_ren : Go.Shelf.Ren := ⟨fun | 219 => 111 | 217 => 112 | 225 => 113 | 224 => 114 | 267 => 115 | 266 => 116 | 314 => 117 | n => n, fun | 9 => 9 | 3 => 3 | 4 => 4 | 5 => 5 | 46 => 134 | 146 => 172 | 51 => 171 | n => n, fun | 1 => 2 | n => n⟩
theorem Tryz.laysM219 : Go.Proofs.LaysM.n219 Tryz.prog Tryz.laysM219_ren := {
  mixed := by kernel_rfl
  f217 := Tryz.func112.trans (congrArg some (by kernel_rfl))
  f219 := Tryz.func111.trans (congrArg some (by kernel_rfl))
  f224 := Tryz.func114.trans (congrArg some (by kernel_rfl))
  f225 := Tryz.func113.trans (congrArg some (by kernel_rfl))
  f266 := Tryz.func116.trans (congrArg some (by kernel_rfl))
  f267 := Tryz.func115.trans (congrArg some (by kernel_rfl))
  f314 := Tryz.func117.trans (congrArg some (by kernel_rfl))
  t3 := Tryz.underlying3
  a3 := Tryz.isAgg3
  z3 := Tryz.sizeOf3
  v3 := Tryz.zeroValue3
  t4 := Tryz.underlying4
  a4 := Tryz.isAgg4
  z4 := Tryz.sizeOf4
  v4 := Tryz.zeroValue4
  t5 := Tryz.underlying5
  a5 := Tryz.isAgg5
  z5 := Tryz.sizeOf5
  v5 := Tryz.zeroValue5
  t9 := Tryz.underlying9
  a9 := Tryz.isAgg9
  z9 := Tryz.sizeOf9
  v9 := Tryz.zeroValue9
  t46 := Tryz.underlying134
  a46 := Tryz.isAgg134
  z46 := Tryz.sizeOf134
  v46 := Tryz.zeroValue134
  t51 := Tryz.underlying171
  a51 := Tryz.isAgg171
  z51 := Tryz.sizeOf171
  v51 := Tryz.zeroValue171
  t146 := Tryz.underlying172
  a146 := Tryz.isAgg172
  z146 := Tryz.sizeOf172
  v146 := Tryz.zeroValue172
  g1 := by kernel_rfl
  i3 := by kernel_rfl
  i4 := by kernel_rfl
  i5 := by kernel_rfl
  i9 := by kernel_rfl
  i46 := by kernel_rfl
  i51 := by kernel_rfl
  i146 := by kernel_rfl
  m1 := by kernel_rfl
  s1_3 := fun w h => Go.Proofs.cell_of_shapedOpen_int (zero := #[.int .i64 0]) (t := 3) h (of_decide_eq_true (by kernel_rfl)) (by kernel_rfl) rfl (by kernel_rfl) (by kernel_rfl) Tryz.underlying3 }
open Go.RowKit Go.Lib in
theorem Tryz.stringslite_Index_shaped (s sub : ByteArray) (w : World) (h : w.ShapedOpen Tryz.prog) (hs : s.size < 4294967281) :
    Calls Tryz.prog 111 #[.string s, .string sub] w fun e w' => e = .returned (.int .i64 (Lib.index s.data.toList sub.data.toList)) ∧ w' = w := Any.stringslite_Index_shaped Tryz.laysM219 s sub w h hs
def Tryz.laysM143_ren : Go.Shelf.Ren := ⟨fun | 143 => 110 | 219 => 111 | 217 => 112 | 225 => 113 | 224 => 114 | 267 => 115 | 266 => 116 | 314 => 117 | n => n, fun | 9 => 9 | 3 => 3 | 4 => 4 | 5 => 5 | 46 => 134 | 146 => 172 | 51 => 171 | n => n, fun | 1 => 2 | n => n⟩
theorem Tryz.laysM143 : Go.Proofs.LaysM.n143 Tryz.prog Tryz.laysM143_ren := {
  mixed := by kernel_rfl
  f143 := Tryz.func110.trans (congrArg some (by kernel_rfl))
  f217 := Tryz.func112.trans (congrArg some (by kernel_rfl))
  f219 := Tryz.func111.trans (congrArg some (by kernel_rfl))
  f224 := Tryz.func114.trans (congrArg some (by kernel_rfl))
  f225 := Tryz.func113.trans (congrArg some (by kernel_rfl))
  f266 := Tryz.func116.trans (congrArg some (by kernel_rfl))
  f267 := Tryz.func115.trans (congrArg some (by kernel_rfl))
  f314 := Tryz.func117.trans (congrArg some (by kernel_rfl))
  t3 := Tryz.underlying3
  a3 := Tryz.isAgg3
  z3 := Tryz.sizeOf3
  v3 := Tryz.zeroValue3
  t4 := Tryz.underlying4
  a4 := Tryz.isAgg4
  z4 := Tryz.sizeOf4
  v4 := Tryz.zeroValue4
  t5 := Tryz.underlying5
  a5 := Tryz.isAgg5
  z5 := Tryz.sizeOf5
  v5 := Tryz.zeroValue5
  t9 := Tryz.underlying9
  a9 := Tryz.isAgg9
  z9 := Tryz.sizeOf9
  v9 := Tryz.zeroValue9
  t46 := Tryz.underlying134
  a46 := Tryz.isAgg134
  z46 := Tryz.sizeOf134
  v46 := Tryz.zeroValue134
  t51 := Tryz.underlying171
  a51 := Tryz.isAgg171
  z51 := Tryz.sizeOf171
  v51 := Tryz.zeroValue171
  t146 := Tryz.underlying172
  a146 := Tryz.isAgg172
  z146 := Tryz.sizeOf172
  v146 := Tryz.zeroValue172
  g1 := by kernel_rfl
  i3 := by kernel_rfl
  i4 := by kernel_rfl
  i5 := by kernel_rfl
  i9 := by kernel_rfl
  i46 := by kernel_rfl
  i51 := by kernel_rfl
  i146 := by kernel_rfl
  m1 := by kernel_rfl
  s1_3 := fun w h => Go.Proofs.cell_of_shapedOpen_int (zero := #[.int .i64 0]) (t := 3) h (of_decide_eq_true (by kernel_rfl)) (by kernel_rfl) rfl (by kernel_rfl) (by kernel_rfl) Tryz.underlying3 }
open Go.RowKit Go.Lib in
theorem Tryz.strings_Index_shaped (s sub : ByteArray) (w : World) (h : w.ShapedOpen Tryz.prog) (hs : s.size < 4294967281) :
    Calls Tryz.prog 110 #[.string s, .string sub] w fun e w' => e = .returned (.int .i64 (Lib.index s.data.toList sub.data.toList)) ∧ w' = w := Any.strings_Index_shaped Tryz.laysM143 s sub w h hs
def Tryz.laysM138_ren : Go.Shelf.Ren := ⟨fun | 138 => 102 | 195 => 108 | 218 => 109 | 143 => 110 | 219 => 111 | 217 => 112 | 225 => 113 | 224 => 114 | 267 => 115 | 266 => 116 | 314 => 117 | n => n, fun | 9 => 9 | 3 => 3 | 4 => 4 | 5 => 5 | 0 => 0 | 46 => 134 | 146 => 172 | 51 => 171 | n => n, fun | 1 => 2 | n => n⟩
theorem Tryz.laysM138 : Go.Proofs.LaysM.n138 Tryz.prog Tryz.laysM138_ren := {
  mixed := by kernel_rfl
  f138 := Tryz.func102.trans (congrArg some (by kernel_rfl))
  f143 := Tryz.func110.trans (congrArg some (by kernel_rfl))
  f195 := Tryz.func108.trans (congrArg some (by kernel_rfl))
  f217 := Tryz.func112.trans (congrArg some (by kernel_rfl))
  f218 := Tryz.func109.trans (congrArg some (by kernel_rfl))
  f219 := Tryz.func111.trans (congrArg some (by kernel_rfl))
  f224 := Tryz.func114.trans (congrArg some (by kernel_rfl))
  f225 := Tryz.func113.trans (congrArg some (by kernel_rfl))
  f266 := Tryz.func116.trans (congrArg some (by kernel_rfl))
  f267 := Tryz.func115.trans (congrArg some (by kernel_rfl))
  f314 := Tryz.func117.trans (congrArg some (by kernel_rfl))
  t0 := Tryz.underlying0
  a0 := Tryz.isAgg0
  z0 := Tryz.sizeOf0
  v0 := Tryz.zeroValue0
  t3 := Tryz.underlying3
  a3 := Tryz.isAgg3
  z3 := Tryz.sizeOf3
  v3 := Tryz.zeroValue3
  t4 := Tryz.underlying4
  a4 := Tryz.isAgg4
  z4 := Tryz.sizeOf4
  v4 := Tryz.zeroValue4
  t5 := Tryz.underlying5
  a5 := Tryz.isAgg5
  z5 := Tryz.sizeOf5
  v5 := Tryz.zeroValue5
  t9 := Tryz.underlying9
  a9 := Tryz.isAgg9
  z9 := Tryz.sizeOf9
  v9 := Tryz.zeroValue9
  t46 := Tryz.underlying134
  a46 := Tryz.isAgg134
  z46 := Tryz.sizeOf134
  v46 := Tryz.zeroValue134
  t51 := Tryz.underlying171
  a51 := Tryz.isAgg171
  z51 := Tryz.sizeOf171
  v51 := Tryz.zeroValue171
  t146 := Tryz.underlying172
  a146 := Tryz.isAgg172
  z146 := Tryz.sizeOf172
  v146 := Tryz.zeroValue172
  g1 := by kernel_rfl
  i0 := by kernel_rfl
  i3 := by kernel_rfl
  i4 := by kernel_rfl
  i5 := by kernel_rfl
  i9 := by kernel_rfl
  i46 := by kernel_rfl
  i51 := by kernel_rfl
  i146 := by kernel_rfl
  m1 := by kernel_rfl
  s1_3 := fun w h => Go.Proofs.cell_of_shapedOpen_int (zero := #[.int .i64 0]) (t := 3) h (of_decide_eq_true (by kernel_rfl)) (by kernel_rfl) rfl (by kernel_rfl) (by kernel_rfl) Tryz.underlying3 }
open Go.RowKit Go.Lib in
theorem Tryz.strings_Count_shaped (s sub : ByteArray) (w : World) (h : w.ShapedOpen Tryz.prog) (hs : s.size < 4294967281) (h2 : 2 ≤ sub.size) :
    Calls Tryz.prog 102 #[.string s, .string sub] w fun e w' => e = .returned (.int .i64 (Lib.countB s sub)) ∧ w' = w := Any.strings_Count_shaped Tryz.laysM138 s sub w h hs h2
def Tryz.lays206_ren : Go.Shelf.Ren := ⟨fun | 206 => 81 | n => n, fun | 9 => 9 | 4 => 4 | 3 => 3 | n => n, fun | n => n⟩
theorem Tryz.lays206 : Go.Proofs.Lays.n206 Tryz.prog Tryz.lays206_ren := {
  mixed := by kernel_rfl
  f206 := Tryz.func81.trans (congrArg some (by kernel_rfl))
  t3 := Tryz.underlying3
  a3 := Tryz.isAgg3
  z3 := Tryz.sizeOf3
  v3 := Tryz.zeroValue3
  t4 := Tryz.underlying4
  a4 := Tryz.isAgg4
  z4 := Tryz.sizeOf4
  v4 := Tryz.zeroValue4
  t9 := Tryz.underlying9
  a9 := Tryz.isAgg9
  z9 := Tryz.sizeOf9
  v9 := Tryz.zeroValue9 }
open Go.RowKit Go.Lib in
/-- internal/stringslite.HasPrefix (what strings.HasPrefix calls). (LAID: no walk: one application.) -/
theorem Tryz.stringslite_HasPrefix (s p : ByteArray) (w : World) :
    Calls Tryz.prog 81 #[.string s, .string p] w fun e w' => e = .returned (.bool (Lib.hasPrefix s.data.toList p.data.toList)) ∧ w' = w := Any.stringslite_HasPrefix Tryz.lays206 s p w
def Tryz.lays99_ren : Go.Shelf.Ren := ⟨fun | 99 => 70 | 206 => 81 | n => n, fun | 9 => 9 | 4 => 4 | 3 => 3 | n => n, fun | n => n⟩
theorem Tryz.lays99 : Go.Proofs.Lays.n99 Tryz.prog Tryz.lays99_ren := {
  mixed := by kernel_rfl
  f99 := Tryz.func70.trans (congrArg some (by kernel_rfl))
  f206 := Tryz.func81.trans (congrArg some (by kernel_rfl))
  t3 := Tryz.underlying3
  a3 := Tryz.isAgg3
  z3 := Tryz.sizeOf3
  v3 := Tryz.zeroValue3
  t4 := Tryz.underlying4
  a4 := Tryz.isAgg4
  z4 := Tryz.sizeOf4
  v4 := Tryz.zeroValue4
  t9 := Tryz.underlying9
  a9 := Tryz.isAgg9
  z9 := Tryz.sizeOf9
  v9 := Tryz.zeroValue9 }
open Go.RowKit Go.Lib in
/-- strings.HasPrefix: "HasPrefix reports whether the string s begins with prefix.": IT RETURNS 'Lib.hasPrefix s prefix'; the world is as it was. (LAID: no walk: one application.) -/
theorem Tryz.strings_HasPrefix (s p : ByteArray) (w : World) :
    Calls Tryz.prog 70 #[.string s, .string p] w fun e w' => e = .returned (.bool (Lib.hasPrefix s.data.toList p.data.toList)) ∧ w' = w := Any.strings_HasPrefix Tryz.lays99 s p w
open Go.RowKit Go.Lib in
/-- strings.Count at whatever sep that is not empty: the two roads under one statement. (LAID: no walk: one application.) -/
theorem Tryz.strings_Count_any (s sep : ByteArray) (m : Int) (w : World) (hs : s.size < 4294967281) (hm : w.cell? ⟨2, 0, none⟩ = some (.int .i64 m)) (h1 : 1 ≤ sep.size) :
    Calls Tryz.prog 102 #[.string s, .string sep] w fun e w' => e = .returned (.int .i64 (Lib.countB s sep)) ∧ w' = w := Any.strings_Count_any Tryz.lays138 s sep m w hs hm h1
def Tryz.lays197_ren : Go.Shelf.Ren := ⟨fun | 197 => 85 | 260 => 94 | n => n, fun | 9 => 9 | 21 => 21 | 3 => 3 | 4 => 4 | 5 => 5 | 105 => 143 | 119 => 161 | 0 => 0 | 46 => 134 | 139 => 164 | 138 => 163 | n => n, fun | 3 => 0 | 4 => 1 | n => n⟩
theorem Tryz.lays197 : Go.Proofs.Lays.n197 Tryz.prog Tryz.lays197_ren := {
  mixed := by kernel_rfl
  f197 := Tryz.func85.trans (congrArg some (by kernel_rfl))
  f260 := Tryz.func94.trans (congrArg some (by kernel_rfl))
  t0 := Tryz.underlying0
  a0 := Tryz.isAgg0
  z0 := Tryz.sizeOf0
  v0 := Tryz.zeroValue0
  t3 := Tryz.underlying3
  a3 := Tryz.isAgg3
  z3 := Tryz.sizeOf3
  v3 := Tryz.zeroValue3
  t4 := Tryz.underlying4
  a4 := Tryz.isAgg4
  z4 := Tryz.sizeOf4
  v4 := Tryz.zeroValue4
  t5 := Tryz.underlying5
  a5 := Tryz.isAgg5
  z5 := Tryz.sizeOf5
  v5 := Tryz.zeroValue5
  t9 := Tryz.underlying9
  a9 := Tryz.isAgg9
  z9 := Tryz.sizeOf9
  v9 := Tryz.zeroValue9
  t21 := Tryz.underlying21
  a21 := Tryz.isAgg21
  z21 := Tryz.sizeOf21
  v21 := Tryz.zeroValue21
  t46 := Tryz.underlying134
  a46 := Tryz.isAgg134
  z46 := Tryz.sizeOf134
  v46 := Tryz.zeroValue134
  t105 := Tryz.underlying143
  a105 := Tryz.isAgg143
  z105 := Tryz.sizeOf143
  v105 := Tryz.zeroValue143
  t119 := Tryz.underlying161
  a119 := Tryz.isAgg161
  z119 := Tryz.sizeOf161
  t138 := Tryz.underlying163
  a138 := Tryz.isAgg163
  z138 := Tryz.sizeOf163
  v138 := Tryz.zeroValue163
  t139 := Tryz.underlying164
  a139 := Tryz.isAgg164
  z139 := Tryz.sizeOf164
  v139 := Tryz.zeroValue164
  g3 := by kernel_rfl
  g4 := by kernel_rfl }
open Go.RowKit Go.Lib in
/-- unicode/utf8.DecodeRuneInString: "DecodeRuneInString is like DecodeRune but its input is a string.": ("DecodeRune unpacks the first UTF-8 encoding in p and returns the rune and its width in bytes."): WHERE s BEGINS WITH AN ASCII BYTE x: (x, 1). (LAID: no walk: one application.) -/
theorem Tryz.utf8_DecodeRuneInString_ascii (s : ByteArray) (x : UInt8) (w : World) (h0 : s.data.toList[0]? = some x) (hx : x.toNat < 128) :
    Calls Tryz.prog 85 #[.string s] w fun e w' => e = .returned (.tuple #[.int .i32 x.toNat, .int .i64 1]) ∧ w' = w := Any.utf8_DecodeRuneInString_ascii Tryz.lays197 s x w h0 hx
open Go.RowKit Go.Lib in
theorem Tryz.utf8_RuneCountInString_ascii (s : ByteArray) (w : World) (hs : s.size < 4294967281) (hascii : ∀ (j : Nat) b, s.data.toList[j]? = some b → b.toNat < 128) :
    Calls Tryz.prog 108 #[.string s] w fun e w' => e = .returned (.int .i64 s.size) ∧ w' = w.iter s s.size := Any.utf8_RuneCountInString_ascii Tryz.lays195 s w hs hascii
def Tryz.lays260_ren : Go.Shelf.Ren := ⟨fun | 260 => 94 | n => n, fun | 9 => 9 | 21 => 21 | 3 => 3 | 4 => 4 | 5 => 5 | 119 => 161 | 0 => 0 | 46 => 134 | 139 => 164 | 138 => 163 | n => n, fun | 3 => 0 | 4 => 1 | n => n⟩
theorem Tryz.lays260 : Go.Proofs.Lays.n260 Tryz.prog Tryz.lays260_ren := {
  mixed := by kernel_rfl
  f260 := Tryz.func94.trans (congrArg some (by kernel_rfl))
  t0 := Tryz.underlying0
  a0 := Tryz.isAgg0
  z0 := Tryz.sizeOf0
  v0 := Tryz.zeroValue0
  t3 := Tryz.underlying3
  a3 := Tryz.isAgg3
  z3 := Tryz.sizeOf3
  v3 := Tryz.zeroValue3
  t4 := Tryz.underlying4
  a4 := Tryz.isAgg4
  z4 := Tryz.sizeOf4
  v4 := Tryz.zeroValue4
  t5 := Tryz.underlying5
  a5 := Tryz.isAgg5
  z5 := Tryz.sizeOf5
  v5 := Tryz.zeroValue5
  t9 := Tryz.underlying9
  a9 := Tryz.isAgg9
  z9 := Tryz.sizeOf9
  v9 := Tryz.zeroValue9
  t21 := Tryz.underlying21
  a21 := Tryz.isAgg21
  z21 := Tryz.sizeOf21
  v21 := Tryz.zeroValue21
  t46 := Tryz.underlying134
  a46 := Tryz.isAgg134
  z46 := Tryz.sizeOf134
  v46 := Tryz.zeroValue134
  t119 := Tryz.underlying161
  a119 := Tryz.isAgg161
  z119 := Tryz.sizeOf161
  t138 := Tryz.underlying163
  a138 := Tryz.isAgg163
  z138 := Tryz.sizeOf163
  v138 := Tryz.zeroValue163
  t139 := Tryz.underlying164
  a139 := Tryz.isAgg164
  z139 := Tryz.sizeOf164
  v139 := Tryz.zeroValue164
  g3 := by kernel_rfl
  g4 := by kernel_rfl }
open Go.RowKit Go.Lib in
theorem Tryz.utf8_decodeRuneInStringSlow (s : ByteArray) (w : World) (hT : Lib.Utf8Tabs 0 1 w) :
    Calls Tryz.prog 94 #[.string s] w fun e w' => e = .returned (.tuple #[.int .i32 (Lib.decodeGo s).1, .int .i64 (Lib.decodeGo s).2]) ∧ Below w.heap.size w w' := Any.utf8_decodeRuneInStringSlow Tryz.lays260 s w hT
open Go.RowKit Go.Lib in
/-- **unicode/utf8.DecodeRuneInString AT EVERY STRING.** (LAID: no walk: one application.) -/
theorem Tryz.utf8_DecodeRuneInString (s : ByteArray) (w : World) (hT : Lib.Utf8Tabs 0 1 w) :
    Calls Tryz.prog 85 #[.string s] w fun e w' => e = .returned (.tuple #[.int .i32 (Lib.decodeGo s).1, .int .i64 (Lib.decodeGo s).2]) ∧ Below w.heap.size w w' := Any.utf8_DecodeRuneInString Tryz.lays197 s w hT
end Go.Proofs
/-
  Package unit: what first, around, Boundary, At, Down, Prev, Next answer. Condition: the two tables of unicode/utf8 lie as laid.
-/
namespace Go.Proofs.YtgmpohdkignadaaGreatDoor.Ut
open Go.RowKit
set_option linter.unusedVariables false
set_option linter.unusedSimpArgs false

/-- The two tables lie. -/
abbrev Tabs (w : World) : Prop := Lib.Utf8Tabs 0 1 w
theorem tabs_below {w w' : World} (h : Tabs w) (hb : Below w.heap.size w w') : Tabs w' := Go.Proofs.Utf8Tabs_below h hb

def ch (s : ByteArray) : Int := if (Lib.decodeGo s).1 = 65533 ∧ (Lib.decodeGo s).2 = 1 then -1 else (Lib.decodeGo s).1
def sz (s : ByteArray) : Nat := (Lib.decodeGo s).2
def from_ (s : ByteArray) (i : Nat) : ByteArray := s.extract i s.size
theorem from_size (s : ByteArray) (i : Nat) : (from_ s i).size = s.size - i := by unfold from_; simp [ByteArray.size_extract]
theorem sz_le (s : ByteArray) : sz s ≤ s.size := Lib.decodeGo_le_size s
theorem sz_le4 (s : ByteArray) : sz s ≤ 4 := Lib.decodeGo_le4 s
theorem sz_pos (s : ByteArray) (h : 0 < s.size) : 1 ≤ sz s := by
  unfold sz Lib.decodeGo
  rw [if_neg (by omega)]
  exact Lib.decode_width_pos s 0 h

theorem unit_box {w w1 : World} {x y : Value} {t : TypeId} (hb : Below (w.alloc (.cells #[x, y] t)).heap.size (w.alloc (.cells #[x, y] t)) w1) :
    w1.cell? ⟨w.heap.size, 0, none⟩ = some x ∧ w1.cell? ⟨w.heap.size, 1, none⟩ = some y ∧ w1.frozen? ⟨w.heap.size, 0, none⟩ = false ∧ w1.frozen? ⟨w.heap.size, 1, none⟩ = false ∧ Below w.heap.size w w1 :=
  ⟨(hb.cell (by simp)).trans (by simp), (hb.cell (by simp)).trans (by simp), (hb.frozen (by simp)).trans (by simp), (hb.frozen (by simp)).trans (by simp), ((Below.refl _ _).alloc (Nat.le_refl _) _).trans (hb.mono (by simp))⟩

theorem two_set {w : World} {g : Nat} {x y : Value} (a b : Value) (h0 : w.cell? ⟨g, 0, none⟩ = some x) (h1 : w.cell? ⟨g, 1, none⟩ = some y) :
    ((w.setCell ⟨g, 0, none⟩ a).setCell ⟨g, 1, none⟩ b).cell? ⟨g, 0, none⟩ = some a ∧ ((w.setCell ⟨g, 0, none⟩ a).setCell ⟨g, 1, none⟩ b).cell? ⟨g, 1, none⟩ = some b := by
  have hne : (⟨g, 0, none⟩ : Addr) ≠ ⟨g, 1, none⟩ := by simp
  have e1 : (w.setCell ⟨g, 0, none⟩ a).cell? ⟨g, 1, none⟩ = some y := (World.cell?_setCell_other _ _ _ _ hne).trans h1
  exact ⟨(World.cell?_setCell_other _ _ _ _ hne.symm).trans (World.cell?_setCell_same _ _ _ h0), World.cell?_setCell_same _ _ _ e1⟩

theorem first_any (s : ByteArray) (w : World) (hT : Tabs w) :
    Calls Tryz.prog 75 #[.string s] w fun e w' => e = .returned (.agg #[.int .i32 (ch s), .int .i64 (sz s)]) ∧ Below w.heap.size w w' := by
  have HT := Lib.hid hT
  clear hT
  obtain ⟨C, hC⟩ : ∃ C, ch s = C := ⟨_, rfl⟩
  obtain ⟨K, hK⟩ : ∃ K, sz s = K := ⟨_, rfl⟩
  rw [hC, hK]
  have HC := Lib.hid hC
  have HK := Lib.hid hK
  have hKK : Hid ((Lib.decodeGo s).2 = K) := hK
  clear hC hK
  by_cases h : (Lib.decodeGo s).1 = 65533 ∧ (Lib.decodeGo s).2 = 1
  · have e1 : C = -1 := by rw [← HC.out]; unfold ch; rw [if_pos h]
    have e2 : K = 1 := by rw [← hKK.out]; exact h.2
    have H := Lib.hid h
    subst e1 e2
    clear h
    go_enter Tryz.func75, Tryz.ntmps75
    go_wp2_with (go_at_call 85; refine (Tryz.utf8_DecodeRuneInString s _ (tabs_below HT.out ((Below.refl _ _).alloc (Nat.le_refl _) _))).mono ?_; rintro e w1 ⟨rfl, hb⟩; obtain ⟨b0, b1, f0, f1, hbw⟩ := unit_box hb; have HB := Lib.hid hbw; clear hb hbw; rw [H.out.1, H.out.2])
    obtain ⟨k0, k1⟩ := two_set (.int .i32 (-1)) (.int .i64 1) b0 b1; refine bodyPost_ret (v := .agg #[.int .i32 (-1), .int .i64 1]) (by simp [results, Tryz.results75, go_sem, k0, k1]) rfl ⟨rfl, ?_⟩
    exact ((Chg.of_below HB.out).trans (Chg.set w1 ⟨w.heap.size, 0, none⟩ _) (T := fun k => k = w.heap.size) (fun x _ h => h)).trans (Chg.set _ ⟨w.heap.size, 1, none⟩ _) (T := fun k => k = w.heap.size) (fun x _ h => h) |>.below_le (Nat.le_refl _) (fun x hx => by rw [hx]; exact Nat.le_refl _)
  · have e1 : ((Lib.decodeGo s).1 : Int) = C := by rw [← HC.out]; unfold ch; rw [if_neg h]
    have hq : (((C == 65533) : Bool) = true → ((K : Int) == 1) = false) := by
      intro hc
      rw [beq_eq_false_iff_ne]
      have : C = 65533 := by simpa using hc
      intro hk
      exact h ⟨by omega, by rw [hKK.out]; omega⟩
    have H := Lib.hid e1
    clear h e1
    cases hc : (C == 65533) with
    | true =>
      have hk := hq hc
      obtain rfl : C = 65533 := by simpa using hc
      clear hq hc
      go_enter Tryz.func75, Tryz.ntmps75
      go_wp2_with (go_at_call 85; refine (Tryz.utf8_DecodeRuneInString s _ (tabs_below HT.out ((Below.refl _ _).alloc (Nat.le_refl _) _))).mono ?_; rintro e w1 ⟨rfl, hb⟩; obtain ⟨b0, b1, f0, f1, hbw⟩ := unit_box hb; have HB := Lib.hid hbw; clear hb hbw; rw [H.out, hKK.out])
      obtain ⟨k0, k1⟩ := two_set (.int .i32 65533) (.int .i64 K) b0 b1; refine bodyPost_ret (v := .agg #[.int .i32 65533, .int .i64 K]) (by simp [results, Tryz.results75, go_sem, k0, k1]) rfl ⟨rfl, ?_⟩
      exact ((Chg.of_below HB.out).trans (Chg.set w1 ⟨w.heap.size, 0, none⟩ _) (T := fun k => k = w.heap.size) (fun x _ h => h)).trans (Chg.set _ ⟨w.heap.size, 1, none⟩ _) (T := fun k => k = w.heap.size) (fun x _ h => h) |>.below_le (Nat.le_refl _) (fun x hx => by rw [hx]; exact Nat.le_refl _)
    | false =>
      clear hq
      go_enter Tryz.func75, Tryz.ntmps75
      go_wp2_with (go_at_call 85; refine (Tryz.utf8_DecodeRuneInString s _ (tabs_below HT.out ((Below.refl _ _).alloc (Nat.le_refl _) _))).mono ?_; rintro e w1 ⟨rfl, hb⟩; obtain ⟨b0, b1, f0, f1, hbw⟩ := unit_box hb; have HB := Lib.hid hbw; clear hb hbw; rw [H.out, hKK.out])
      obtain ⟨k0, k1⟩ := two_set (.int .i32 C) (.int .i64 K) b0 b1; refine bodyPost_ret (v := .agg #[.int .i32 C, .int .i64 K]) (by simp [results, Tryz.results75, go_sem, k0, k1]) rfl ⟨rfl, ?_⟩
      exact ((Chg.of_below HB.out).trans (Chg.set w1 ⟨w.heap.size, 0, none⟩ _) (T := fun k => k = w.heap.size) (fun x _ h => h)).trans (Chg.set _ ⟨w.heap.size, 1, none⟩ _) (T := fun k => k = w.heap.size) (fun x _ h => h) |>.below_le (Nat.le_refl _) (fun x hx => by rw [hx]; exact Nat.le_refl _)

/-- Where the unit begins and ends that begins at j. -/
def up (s : ByteArray) (j : Nat) : Nat := j + sz (from_ s j)
/-- The unit around i, looked for from j on, f steps. -/
def arFrom (s : ByteArray) (i : Nat) : Nat → Nat → Nat × Nat
  | 0, _ => if i = s.size then (i, i) else (i, up s i)
  | f + 1, j => if i < up s j then (j, up s j) else arFrom s i f (j + 1)
def aroundF (s : ByteArray) (i : Nat) : Nat × Nat := arFrom s i (i - (i - 3)) (i - 3)
theorem up_le {s : ByteArray} {j : Nat} (h : j ≤ s.size) : up s j ≤ s.size := by
  have := sz_le (from_ s j)
  rw [from_size] at this
  unfold up; omega
theorem up_gt {s : ByteArray} {j : Nat} (h : j < s.size) : j < up s j := by
  have := sz_pos (from_ s j) (by rw [from_size]; omega)
  unfold up; omega

theorem field_unit (w : World) (a b : Int) : (Instr.field 111 (.agg #[.int .i32 a, .int .i64 b]) 1).run Tryz.prog w = .ok (.int .i64 b) w := by kernel_rfl

set_option maxRecDepth 100000 in
theorem around_any (s : ByteArray) (i : Nat) (w : World) (hT : Tabs w) (hs : s.size ≤ 140737488355328) (hi : i ≤ s.size) :
    Calls Tryz.prog 62 #[.string s, .int .i64 i] w fun e w' => e = .returned (.tuple #[.int .i64 (aroundF s i).1, .int .i64 (aroundF s i).2]) ∧ Below w.heap.size w w' := by
  have HT := Lib.hid hT
  obtain ⟨p, hp⟩ : ∃ p, aroundF s i = p := ⟨_, rfl⟩
  have HP := Lib.hid hp
  rw [hp]
  have hfl := field_unit
  have hmx : max (0 : Int) ((i : Int) - 3) = ((i - 3 : Nat) : Int) := by omega
  have hsub : IntKind.i64.wrap ((i : Int) - 3) = (i : Int) - 3 := IntWalk.i64_in _ (by omega)
  clear hT hp
  go_enter Tryz.func62, Tryz.ntmps62
  go_wp2
  go_loopw [6] (fun v wr => ∃ j : Nat, i - 3 ≤ j ∧ j ≤ i ∧ v = .int .i64 j ∧ Hid (arFrom s i (i - j) j = p) ∧ Below w.heap.size w wr) (fun v _ => i - (intOf v).toNat)
  case atStart => exact ⟨i - 3, Nat.le_refl _, by omega, rfl, HP.out, Below.refl _ _⟩
  case round =>
    obtain ⟨j, hj0, hj, rfl, HA, hb⟩ := hrel
    have HB := Lib.hid hb
    clear hb
    by_cases hlt : j < i
    · have hst : arFrom s i (i - j) j = if i < up s j then (j, up s j) else arFrom s i (i - (j + 1)) (j + 1) := by
        rw [show i - j = (i - (j + 1)) + 1 by omega]; rfl
      have HSt := Lib.hid hst
      have hup : up s j ≤ s.size := up_le (by omega)
      have hjs : (j : Int) ≤ (s.size : Int) := by omega
      have hex : s.extract j s.size = from_ s j := rfl
      have HUp : Hid (up s j = j + sz (from_ s j)) := rfl
      clear hst
      go_wp2_with fail
      refine (first_any (from_ s j) wr (tabs_below HT.out HB.out)).mono ?_
      rintro e w1 ⟨rfl, hb1⟩
      have HB1 := Lib.hid (HB.out.trans (hb1.mono HB.out.size))
      clear hb1
      have hle := sz_le (from_ s j)
      rw [from_size] at hle
      generalize sz (from_ s j) = K at *
      generalize ch (from_ s j) = C at *
      by_cases hgt : i < up s j
      · have hgt2 : (i : Int) < (j : Int) + (K : Int) := by rw [HUp.out] at hgt; omega
        have hp : p = (j, j + K) := by rw [← HA.out, HSt.out, if_pos hgt, HUp.out]
        subst hp
        clear HP HA HSt
        go_wp2
        go_quiet (fail)
        go_wp2
        go_ret2
        refine ⟨?_, (HB1.out.alloc HB1.out.size _).trans ⟨rfl, rfl, rfl, Nat.le_refl _, fun _ _ => rfl⟩⟩
        simp
      · have hgt2 : ¬ (i : Int) < (j : Int) + (K : Int) := by rw [HUp.out] at hgt; omega
        have hnx : arFrom s i (i - (j + 1)) (j + 1) = p := by rw [← HA.out, HSt.out, if_neg hgt]
        have HNx := Lib.hid hnx
        clear hnx
        go_wp2
        go_roundw
        case rel => exact ⟨j + 1, by omega, by omega, by go_num, HNx.out, HB1.out.alloc HB1.out.size _⟩
        case measure => simp [intOf]; omega
    · obtain rfl : j = i := by omega
      rw [Nat.sub_self] at HA
      have hA2 : (if j = s.size then (j, j) else (j, up s j)) = p := HA.out
      by_cases he : j = s.size
      · have hp : p = (j, j) := by rw [← hA2, if_pos he]
        subst hp
        have hq : ((j : Int) == (s.size : Int)) = true := by rw [beq_iff_eq]; omega
        clear HP HA hA2
        go_wp2
        go_ret2
        exact ⟨rfl, HB.out⟩
      · have hp : p = (j, up s j) := by rw [← hA2, if_neg he]
        have hq : ((j : Int) == (s.size : Int)) = false := by rw [beq_eq_false_iff_ne]; omega
        subst hp
        have hup : up s j ≤ s.size := up_le (by omega)
        have hex : s.extract j s.size = from_ s j := rfl
        have HUp : Hid (up s j = j + sz (from_ s j)) := rfl
        clear HP HA hA2
        go_wp2_with fail
        refine (first_any (from_ s j) wr (tabs_below HT.out HB.out)).mono ?_
        rintro e w1 ⟨rfl, hb1⟩
        have HB1 := Lib.hid (HB.out.trans (hb1.mono HB.out.size))
        clear hb1
        have hle := sz_le (from_ s j)
        rw [from_size] at hle
        generalize sz (from_ s j) = K at *
        generalize ch (from_ s j) = C at *
        go_wp2
        go_ret2
        refine ⟨?_, HB1.out⟩
        rw [HUp.out]
        simp

theorem around_low {s : ByteArray} {i : Nat} (h : i ≤ s.size) : ∀ f j, j + f = i → (arFrom s i f j).1 ≤ i ∧ i ≤ (arFrom s i f j).2 ∧ (arFrom s i f j).2 ≤ s.size ∧ (i < s.size → i < (arFrom s i f j).2)
  | 0, j, _ => by
    unfold arFrom
    split
    · simp; omega
    · have := up_le h
      have := up_gt (s := s) (j := i) (by omega)
      simp; omega
  | f + 1, j, hj => by
    unfold arFrom
    split
    · have := up_le (s := s) (j := j) (by omega)
      simp; omega
    · exact around_low h f (j + 1) (by omega)
theorem around_ok {s : ByteArray} {i : Nat} (h : i ≤ s.size) : (aroundF s i).1 ≤ i ∧ i ≤ (aroundF s i).2 ∧ (aroundF s i).2 ≤ s.size ∧ (i < s.size → i < (aroundF s i).2) := around_low h _ _ (by omega)

def boundF (s : ByteArray) (i : Nat) : Bool := decide ((aroundF s i).1 = i)
def downF (s : ByteArray) (i : Nat) : Nat := (aroundF s i).1
def nextU (s : ByteArray) (i : Nat) : Nat := (aroundF s i).2
def prevU (s : ByteArray) (i : Nat) : Nat := downF s (i - 1)

set_option maxRecDepth 100000 in
theorem Boundary_any (s : ByteArray) (i : Nat) (w : World) (hT : Tabs w) (hs : s.size ≤ 140737488355328) (hi : i ≤ s.size) :
    Calls Tryz.prog 63 #[.string s, .int .i64 i] w fun e w' => e = .returned (.bool (boundF s i)) ∧ Below w.heap.size w w' := by
  have HA := Lib.hid (around_any s i w hT hs hi)
  have hi0 : ¬ (i : Int) < 0 := by omega
  have hi1 : ¬ (s.size : Int) < (i : Int) := by omega
  unfold boundF
  generalize aroundF s i = p at *
  obtain ⟨p1, p2⟩ := p
  clear hT
  go_enter Tryz.func63, Tryz.ntmps63
  go_wp2_with (go_at_call 62; refine HA.out.mono ?_; rintro e w1 ⟨rfl, hb⟩; have HB := Lib.hid hb; clear hb)
  go_ret
  refine ⟨?_, HB.out⟩
  refine congrArg (fun b => Ending.returned (.bool b)) ?_
  rw [Bool.eq_iff_iff]
  simp only [beq_iff_eq, decide_eq_true_eq]
  omega

set_option maxRecDepth 100000 in
theorem Down_any (s : ByteArray) (i : Nat) (w : World) (hT : Tabs w) (hs : s.size ≤ 140737488355328) (hi : i ≤ s.size) :
    Calls Tryz.prog 76 #[.string s, .int .i64 i] w fun e w' => e = .returned (.int .i64 (downF s i)) ∧ Below w.heap.size w w' := by
  have HA := Lib.hid (around_any s i w hT hs hi)
  have hmx : max (i : Int) 0 = (i : Int) := by omega
  have hmn : min (i : Int) (s.size : Int) = (i : Int) := by omega
  unfold downF
  generalize aroundF s i = p at *
  obtain ⟨p1, p2⟩ := p
  clear hT
  go_enter Tryz.func76, Tryz.ntmps76
  go_wp2_with (go_at_call 62; refine HA.out.mono ?_; rintro e w1 ⟨rfl, hb⟩; have HB := Lib.hid hb; clear hb)
  go_ret
  exact ⟨rfl, HB.out⟩

set_option maxRecDepth 100000 in
theorem NextU_any (s : ByteArray) (i : Nat) (w : World) (hT : Tabs w) (hs : s.size ≤ 140737488355328) (hi : i ≤ s.size) :
    Calls Tryz.prog 44 #[.string s, .int .i64 i] w fun e w' => e = .returned (.int .i64 (nextU s i)) ∧ Below w.heap.size w w' := by
  have HA := Lib.hid (around_any s i w hT hs hi)
  have hi0 : ¬ (i : Int) < 0 := by omega
  have hmn : min (i : Int) (s.size : Int) = (i : Int) := by omega
  unfold nextU
  generalize aroundF s i = p at *
  obtain ⟨p1, p2⟩ := p
  clear hT
  go_enter Tryz.func44, Tryz.ntmps44
  go_wp2_with (go_at_call 62; refine HA.out.mono ?_; rintro e w1 ⟨rfl, hb⟩; have HB := Lib.hid hb; clear hb)
  go_ret
  exact ⟨rfl, HB.out⟩

set_option maxRecDepth 100000 in
theorem PrevU_any (s : ByteArray) (i : Nat) (w : World) (hT : Tabs w) (hs : s.size ≤ 140737488355328) (h0 : 0 < i) (hi : i ≤ s.size) :
    Calls Tryz.prog 65 #[.string s, .int .i64 i] w fun e w' => e = .returned (.int .i64 (prevU s i)) ∧ Below w.heap.size w w' := by
  have HA := Lib.hid (Down_any s (i - 1) w hT hs (by omega))
  have hi0 : ¬ (i : Int) ≤ 0 := by omega
  have hmn : min ((i : Int) - 1) (s.size : Int) = ((i - 1 : Nat) : Int) := by omega
  unfold prevU
  generalize downF s (i - 1) = p at *
  clear hT
  go_enter Tryz.func65, Tryz.ntmps65
  go_wp2_with (go_at_call 76; refine HA.out.mono ?_; rintro e w1 ⟨rfl, hb⟩; have HB := Lib.hid hb; clear hb)
  go_ret
  exact ⟨rfl, HB.out⟩
end Go.Proofs.YtgmpohdkignadaaGreatDoor.Ut
/-
  Package width: what within, Class, Cells answer; sort.Search. No condition.
-/
namespace Go.Proofs.YtgmpohdkignadaaGreatDoor.Ut
open Go.RowKit
set_option linter.unusedVariables false
set_option linter.unusedSimpArgs false

/-- sort.Search: an answer r from 0 to n: ahead of it g is false; at it, if it is below n, g is true. -/
theorem Search_any (n K : Nat) (caps : Array Value) (g : Nat → Bool) (w : World) (hn : n ≤ 4611686018427387904) (hent : ∀ args w, (callFunc K args).run Tryz.prog w = .ok (.enter K args) w)
    (hmono : ∀ a b, a ≤ b → b < n → g a = true → g b = true)
    (hf : ∀ (k : Nat) w', k < n → Below w.heap.size w w' → Calls Tryz.prog K (#[.int .i64 k] ++ caps) w' fun e w'' => e = .returned (.bool (g k)) ∧ Below w'.heap.size w' w'') :
    Calls Tryz.prog 60 #[.int .i64 n, .func (.func K) #[] caps] w fun e w' => ∃ r : Nat, e = .returned (.int .i64 r) ∧ r ≤ n ∧ (∀ k, k < r → g k = false) ∧ (∀ k, r ≤ k → k < n → g k = true) ∧ Below w.heap.size w w' := by
  have HF := Lib.hid hf
  have HM := Lib.hid hmono
  clear hf hmono
  go_enter Tryz.func60, Tryz.ntmps60
  go_wp2
  go_loopw [5, 6] (fun a b wr => ∃ i j : Nat, a = .int .i64 i ∧ b = .int .i64 j ∧ i ≤ j ∧ j ≤ n ∧ Hid (∀ k, k < i → g k = false) ∧ Hid (∀ k, j ≤ k → k < n → g k = true) ∧ Below w.heap.size w wr) (fun a b _ => (intOf b).toNat - (intOf a).toNat)
  case atStart => exact ⟨0, n, rfl, rfl, Nat.zero_le _, Nat.le_refl _, fun k hk => by omega, fun k h1 h2 => by omega, Below.refl _ _⟩
  case round =>
    obtain ⟨i, j, rfl, rfl, hij, hjn, HI, HJ, hb⟩ := hrel
    have HB := Lib.hid hb
    clear hb
    by_cases hlt : i < j
    · have hmid : ((i : Int) + (j : Int)) / 2 = (((i + j) / 2 : Nat) : Int) := by omega
      have hm : (i + j) / 2 < j := by omega
      have hm0 : i ≤ (i + j) / 2 := by omega
      generalize (i + j) / 2 = m at *
      go_wp2_with fail
      refine (HF.out m wr (by omega) HB.out).mono ?_
      rintro e w1 ⟨rfl, hb1⟩
      have HB1 := Lib.hid (HB.out.trans (hb1.mono HB.out.size))
      clear hb1 hmid
      cases hg : g m with
      | true =>
        have HJ2 : Hid (∀ k, m ≤ k → k < n → g k = true) := fun k h1 h2 => HM.out m k h1 h2 hg
        clear hg
        go_wp2
        go_roundw
        case rel => exact ⟨i, m, rfl, rfl, hm0, by omega, HI.out, HJ2.out, HB1.out⟩
        case measure => simp [intOf]; omega
      | false =>
        have HI2 : Hid (∀ k, k < m + 1 → g k = false) := fun k h1 => by
          cases hk : g k with
          | false => rfl
          | true => have := HM.out k m (by omega) (by omega) hk; rw [hg] at this; cases this
        clear hg
        go_wp2
        go_roundw
        case rel => exact ⟨m + 1, j, by go_num, rfl, by omega, hjn, HI2.out, HJ.out, HB1.out⟩
        case measure => simp [intOf]; omega
    · obtain rfl : i = j := by omega
      go_wp2
      go_ret
      exact ⟨i, rfl, hjn, HI.out, HJ.out, HB.out⟩

/-- A table of ranges that is read, in block g. -/
def RunesAt (w : World) (g : Nat) (t : List Int) : Prop := g < w.heap.size ∧ ∀ i (h : i < t.length), w.cell? ⟨g, i, none⟩ = some (.int .i32 t[i])
theorem RunesAt.below {w w' : World} {g : Nat} {t : List Int} (h : RunesAt w g t) (hb : Below w.heap.size w w') : RunesAt w' g t :=
  ⟨Nat.lt_of_lt_of_le h.1 hb.size, fun i hi => (hb.cell (p := ⟨g, i, none⟩) h.1).trans (h.2 i hi)⟩
/-- Does x lie in one of the ranges of t (first and last in turn)? -/
def inside (t : List Int) (x : Int) : Bool := (List.range (t.length / 2)).any fun k => decide ((t[2 * k]?).getD 0 ≤ x ∧ x ≤ (t[2 * k + 1]?).getD 0)
/-- A table whose ranges rise. -/
def Rising (t : List Int) : Prop := ∀ i j, i < j → j < t.length → (t[i]?).getD 0 ≤ (t[j]?).getD 0

theorem Drawn.below {w : World} (n : Nat) : Below w.heap.size w (w.drewN n) := ⟨rfl, rfl, rfl, Nat.le_refl _, fun _ _ => rfl⟩

set_option maxRecDepth 100000 in
theorem test_any (g : Nat) (t : List Int) (c : Nat) (x : Int) (k p q : Nat) (w : World) (ht : RunesAt w g t) (hk : 2 * k + 1 < t.length) (hl : t.length ≤ 1000) (h0 : w.cell? ⟨p, 0, none⟩ = some (.slice (some ⟨g, 0, none⟩) t.length c)) (h1 : w.cell? ⟨q, 0, none⟩ = some (.int .i32 x)) :
    Calls Tryz.prog 93 #[.int .i64 k, .pointer (some ⟨p, 0, none⟩), .pointer (some ⟨q, 0, none⟩)] w fun e w' => e = .returned (.bool (decide (x ≤ (t[2 * k + 1]?).getD 0))) ∧ Below w.heap.size w w' := by
  have g0 := ht.2 (2 * k + 1) hk
  have hi0 : (0 : Int) ≤ 2 * (k : Int) + 1 := by omega
  have hi1 : 2 * (k : Int) + 1 < (t.length : Int) := by omega
  have e : (t[2 * k + 1]?).getD 0 = t[2 * k + 1] := by rw [List.getElem?_eq_getElem hk]; rfl
  have w1 : IntKind.i64.wrap (2 * (k : Int)) = 2 * (k : Int) := IntWalk.i64_in _ (by omega)
  have w2 : IntKind.i64.wrap (2 * (k : Int) + 1) = 2 * (k : Int) + 1 := IntWalk.i64_in _ (by omega)
  rw [e]
  clear ht e
  generalize t[2 * k + 1] = y at *
  go_enter Tryz.func93, Tryz.ntmps93
  go_wp2
  go_quiet (fail)
  go_wp2
  go_ret
  exact ⟨rfl, Drawn.below _⟩

theorem boxes2 (w : World) (a b : Value) (s t : TypeId) : ((w.alloc (.cells #[a] s)).alloc (.cells #[b] t)).cell? ⟨w.heap.size, 0, none⟩ = some a ∧ ((w.alloc (.cells #[a] s)).alloc (.cells #[b] t)).cell? ⟨w.heap.size + 1, 0, none⟩ = some b := by
  constructor
  · exact (((Below.refl (w.heap.size + 1) (w.alloc (.cells #[a] s))).alloc (by simp) (.cells #[b] t)).cell (p := ⟨w.heap.size, 0, none⟩) (by simp)).trans (by simp)
  · have h : ((w.alloc (.cells #[a] s)).alloc (.cells #[b] t)).cell? ⟨(w.alloc (.cells #[a] s)).heap.size, 0, none⟩ = some b := by
      generalize w.alloc (.cells #[a] s) = w1
      simp
    rwa [World.size_alloc] at h

theorem least_inside {t : List Int} (hr : Rising t) (x : Int) (r : Nat) (hrn : r ≤ t.length / 2) (h0 : ∀ k, k < r → decide (x ≤ (t[2 * k + 1]?).getD 0) = false) (h1 : ∀ k, r ≤ k → k < t.length / 2 → decide (x ≤ (t[2 * k + 1]?).getD 0) = true) :
    inside t x = (decide (r < t.length / 2) && decide ((t[2 * r]?).getD 0 ≤ x)) := by
  unfold inside
  rw [Bool.eq_iff_iff]
  simp only [List.any_eq_true, List.mem_range, Bool.and_eq_true, decide_eq_true_eq]
  constructor
  · rintro ⟨k, hk, h2, h3⟩
    have hkr : ¬ k < r := fun h => by have := h0 k h; simp at this; omega
    have hrl : r < t.length / 2 := by omega
    refine ⟨hrl, ?_⟩
    by_cases hkr2 : k = r
    · subst hkr2; exact h2
    · have := hr (2 * r) (2 * k) (by omega) (by omega)
      omega
  · rintro ⟨h2, h3⟩
    exact ⟨r, h2, h3, by have := h1 r (Nat.le_refl _) h2; simpa using this⟩

set_option maxRecDepth 100000 in
theorem within_any (g : Nat) (t : List Int) (c : Nat) (x : Int) (w : World) (ht : RunesAt w g t) (hr : Rising t) (hl : t.length ≤ 1000) :
    Calls Tryz.prog 78 #[.slice (some ⟨g, 0, none⟩) t.length c, .int .i32 x] w fun e w' => e = .returned (.bool (inside t x)) ∧ Below w.heap.size w w' := by
  obtain ⟨R, hR0⟩ : ∃ R, inside t x = R := ⟨_, rfl⟩
  rw [hR0]
  have HRes := Lib.hid hR0
  clear hR0
  obtain ⟨N, hN⟩ : ∃ N, t.length / 2 = N := ⟨_, rfl⟩
  have hdiv : (t.length : Int) / 2 = (N : Int) := by omega
  have HN := Lib.hid hN
  have hb0 : Below w.heap.size w ((w.alloc (.cells #[.slice (some ⟨g, 0, none⟩) t.length c] 141)).alloc (.cells #[.int .i32 x] 21)) := ((Below.refl _ _).alloc (Nat.le_refl _) _).alloc (by simp) _
  have HT := Lib.hid (ht.below hb0)
  have HB0 := Lib.hid hb0
  have HR := Lib.hid hr
  obtain ⟨q0, q1⟩ := boxes2 w (.slice (some ⟨g, 0, none⟩) t.length c) (.int .i32 x) 141 21
  have HQ0 := Lib.hid q0
  have HQ1 := Lib.hid q1
  have hsz : ((w.alloc (.cells #[.slice (some ⟨g, 0, none⟩) t.length c] 141)).alloc (.cells #[.int .i32 x] 21)).heap.size = w.heap.size + 2 := by simp
  have HSz := Lib.hid hsz
  clear ht hr hb0 q0 q1 hsz hN
  go_enter Tryz.func78, Tryz.ntmps78
  go_wp2_with fail
  generalize ((w.alloc (.cells #[.slice (some ⟨g, 0, none⟩) t.length c] 141)).alloc (.cells #[.int .i32 x] 21)) = w0 at *
  try rw [hdiv]
  have hlt0 : w.heap.size < w0.heap.size := by have := HSz.out; omega
  have hlt1 : w.heap.size + 1 < w0.heap.size := by have := HSz.out; omega
  refine (Search_any N 93 _ (fun k => decide (x ≤ (t[2 * k + 1]?).getD 0)) w0 (by omega) (enters_of Tryz.func93 (by kernel_rfl) rfl) (fun a b hab hb h => ?_) (fun k w' hk hb => ?_)).mono ?_
  · simp only [decide_eq_true_eq] at h ⊢
    by_cases hab2 : a = b
    · subst hab2; exact h
    · have := HR.out (2 * a + 1) (2 * b + 1) (by omega) (by have := HN.out; omega); omega
  · exact test_any g t c x k w.heap.size (w.heap.size + 1) w' (HT.out.below hb) (by have := HN.out; omega) hl ((hb.cell (p := ⟨w.heap.size, 0, none⟩) hlt0).trans HQ0.out) ((hb.cell (p := ⟨w.heap.size + 1, 0, none⟩) hlt1).trans HQ1.out)
  · rintro e w1 ⟨r, rfl, hrn, h0, h1, hb1⟩
    have hI := least_inside HR.out x r (by rw [HN.out]; exact hrn) h0 (by rw [HN.out]; exact h1)
    rw [HN.out, HRes.out] at hI
    have HI := Lib.hid hI
    clear hI
    have c0 := (hb1.cell (p := ⟨w.heap.size, 0, none⟩) hlt0).trans HQ0.out
    have c1 := (hb1.cell (p := ⟨w.heap.size + 1, 0, none⟩) hlt1).trans HQ1.out
    have HT1 := Lib.hid (HT.out.below hb1)
    have HB1 := Lib.hid (HB0.out.trans (hb1.mono HB0.out.size))
    clear h0 h1 hb1
    by_cases hrl : r < N
    · have g0 := HT1.out.2 (2 * r) (by have := HN.out; omega)
      have e : (t[2 * r]?).getD 0 = t[2 * r]'(by have := HN.out; omega) := by rw [List.getElem?_eq_getElem (by have := HN.out; omega)]; rfl
      have hi0 : (0 : Int) ≤ 2 * (r : Int) := by omega
      have hi1 : 2 * (r : Int) < (t.length : Int) := by have := HN.out; omega
      have hr1 : (r : Int) < (N : Int) := by omega
      have w1' : IntKind.i64.wrap (2 * (r : Int)) = 2 * (r : Int) := IntWalk.i64_in _ (by omega)
      have hfin : R = decide (t[2 * r]'(by have := HN.out; omega) ≤ x) := by rw [HI.out, e]; simp [hrl]
      have HFin := Lib.hid hfin
      clear HI HRes hfin e
      generalize t[2 * r]'(by have := HN.out; omega) = y at *
      go_wp2
      go_quiet (fail)
      go_wp2
      go_ret
      exact ⟨by rw [HFin.out]; rfl, HB1.out.trans ((Drawn.below _).mono HB1.out.size)⟩
    · have hr1 : ¬ (r : Int) < (N : Int) := by omega
      have hfin : R = false := by rw [HI.out]; simp [hrl]
      clear HI HRes
      subst hfin
      go_wp2
      go_quiet (fail)
      go_wp2
      go_ret
      exact ⟨rfl, HB1.out.trans ((Drawn.below _).mono HB1.out.size)⟩
end Go.Proofs.YtgmpohdkignadaaGreatDoor.Ut
/-
  Package width: the tables, Class, Cells. No condition.
-/
namespace Go.Proofs.YtgmpohdkignadaaGreatDoor.Ut
open Go.RowKit
set_option linter.unusedVariables false
set_option linter.unusedSimpArgs false

def marksT : List Int := [768, 879, 1155, 1161, 1425, 1469, 1471, 1471, 1473, 1474, 1552, 1562, 1611, 1631, 1648, 1648, 1750, 1756, 2304, 2306, 2364, 2364, 2381, 2381, 3633, 3633, 3636, 3642, 3655, 3662, 4957, 4959, 6832, 6911, 7616, 7679, 8204, 8205, 8400, 8447, 12330, 12335, 12441, 12442, 65024, 65039, 65056, 65071, 127995, 127999, 917760, 917999]
def widesT : List Int := [4352, 4447, 8986, 8987, 9001, 9002, 9193, 9196, 9725, 9726, 9748, 9749, 9800, 9811, 9898, 9899, 11904, 12329, 12336, 12350, 12353, 12440, 12443, 19903, 19968, 42191, 43360, 43391, 44032, 55203, 63744, 64255, 65072, 65135, 65281, 65376, 65504, 65510, 94176, 101119, 110592, 111359, 127744, 127994, 128000, 128591, 128640, 128767, 129280, 129535, 131072, 196605, 196608, 262141]
theorem rising_of (t : List Int) (h : (List.range t.length).all (fun j => (List.range j).all fun i => decide ((t[i]?).getD 0 ≤ (t[j]?).getD 0)) = true) : Rising t := by
  intro i j hij hj
  have h1 := List.all_eq_true.1 h j (List.mem_range.2 hj)
  exact of_decide_eq_true (List.all_eq_true.1 h1 i (List.mem_range.2 hij))
theorem marks_rising : Rising marksT := rising_of _ (by decide +kernel)
theorem wides_rising : Rising widesT := rising_of _ (by decide +kernel)

theorem runes_new (w : World) (t : List Int) (ty : TypeId) : RunesAt (w.alloc (.cells (t.map fun x => Value.int .i32 x).toArray ty)) w.heap.size t := by
  refine ⟨by simp, fun i hi => ?_⟩
  have h : (w.alloc (.cells (t.map fun x => Value.int .i32 x).toArray ty)).cell? ⟨w.heap.size, i, none⟩ = (t.map fun x => Value.int .i32 x).toArray[i]? := by
    generalize (t.map fun x => Value.int .i32 x).toArray = cs
    simp
  rw [h]
  simp [hi]

set_option maxRecDepth 100000 in
theorem marks_any (w : World) : Calls Tryz.prog 79 #[] w fun e w' => ∃ g, e = .returned (.slice (some ⟨g, 0, none⟩) marksT.length marksT.length) ∧ RunesAt w' g marksT ∧ Below w.heap.size w w' := by
  go_enter Tryz.func79, Tryz.ntmps79
  go_wp2
  go_ret
  exact ⟨_, rfl, runes_new w marksT 21, (Below.refl _ _).alloc (Nat.le_refl _) _⟩
set_option maxRecDepth 100000 in
theorem wides_any (w : World) : Calls Tryz.prog 80 #[] w fun e w' => ∃ g, e = .returned (.slice (some ⟨g, 0, none⟩) widesT.length widesT.length) ∧ RunesAt w' g widesT ∧ Below w.heap.size w w' := by
  go_enter Tryz.func80, Tryz.ntmps80
  go_wp2
  go_ret
  exact ⟨_, rfl, runes_new w widesT 21, (Below.refl _ _).alloc (Nat.le_refl _) _⟩

def classF (c : Int) : Int := if c < 0 ∨ 1114111 < c ∨ (55296 ≤ c ∧ c ≤ 57343) then 5 else if c = 10 then 1 else if c < 32 ∨ (127 ≤ c ∧ c ≤ 159) then 2 else if inside marksT c = true then 3 else if inside widesT c = true then 4 else 0
def cellsF (c : Int) : Int := if classF c = 1 then 0 else if classF c = 4 then 2 else if classF c = 2 ∧ c ≤ 127 then 2 else 1

set_option maxRecDepth 100000 in
set_option maxHeartbeats 1000000 in
theorem Class_any (c : Int) (w : World) : Calls Tryz.prog 68 #[.int .i32 c] w fun e w' => e = .returned (.int .i64 (classF c)) ∧ Below w.heap.size w w' := by
  obtain ⟨R, hR⟩ : ∃ R, classF c = R := ⟨_, rfl⟩
  have HR := Lib.hid hR
  rw [hR]
  clear hR
  by_cases h1 : c < 0 ∨ 1114111 < c ∨ (55296 ≤ c ∧ c ≤ 57343)
  · have hr : R = 5 := by rw [← HR.out]; unfold classF; rw [if_pos h1]
    subst hr
    rcases (by omega : c < 0 ∨ (¬ c < 0 ∧ 1114111 < c) ∨ (¬ c < 0 ∧ ¬ 1114111 < c ∧ 55296 ≤ c ∧ c ≤ 57343)) with h | ⟨h, h'⟩ | ⟨h, h', h2, h3⟩
    all_goals
      clear h1
      go_enter Tryz.func68, Tryz.ntmps68
      go_wp2
      go_ret
      exact ⟨rfl, Below.refl _ _⟩
  · have a1 : ¬ c < 0 := by omega
    have a2 : ¬ 1114111 < c := by omega
    have hsur : (55296 ≤ c ∧ ¬ c ≤ 57343) ∨ ¬ 55296 ≤ c := by omega
    by_cases h2 : c = 10
    · have hr : R = 1 := by rw [← HR.out]; unfold classF; rw [if_neg h1, if_pos h2]
      subst hr
      subst h2
      clear HR h1 a1 a2 hsur
      go_enter Tryz.func68, Tryz.ntmps68
      go_wp2
      go_ret
      exact ⟨rfl, Below.refl _ _⟩
    · have hq : (c == 10) = false := by simpa using h2
      by_cases h3 : c < 32 ∨ (127 ≤ c ∧ c ≤ 159)
      · have hr : R = 2 := by rw [← HR.out]; unfold classF; rw [if_neg h1, if_neg h2, if_pos h3]
        subst hr
        clear HR h1 hsur
        have b0 : ¬ 55296 ≤ c := by omega
        rcases h3 with h | ⟨h, h'⟩
        · go_enter Tryz.func68, Tryz.ntmps68
          go_wp2
          go_ret
          exact ⟨rfl, Below.refl _ _⟩
        · have b1 : ¬ c < 32 := by omega
          go_enter Tryz.func68, Tryz.ntmps68
          go_wp2
          go_ret
          exact ⟨rfl, Below.refl _ _⟩
      · have b1 : ¬ c < 32 := by omega
        have hr : R = if inside marksT c = true then 3 else if inside widesT c = true then 4 else 0 := by rw [← HR.out]; unfold classF; rw [if_neg h1, if_neg h2, if_neg h3]
        have HRR := Lib.hid hr
        have hcon : (127 ≤ c ∧ ¬ c ≤ 159) ∨ ¬ 127 ≤ c := by omega
        clear HR h1 h3 h2 hr
        rcases hsur with ⟨s1, s2⟩ | s1 <;> rcases hcon with ⟨d1, d2⟩ | d1
        all_goals
          go_enter Tryz.func68, Tryz.ntmps68
          go_wp2_with fail
          refine (marks_any w).mono ?_
          rintro e w1 ⟨g, rfl, ht, hb⟩
          have HT := Lib.hid ht
          have HB := Lib.hid hb
          clear ht hb
          go_wp2_with fail
          refine (within_any g marksT _ c w1 HT.out marks_rising (by decide)).mono ?_
          rintro e w2 ⟨rfl, hb2⟩
          have HB2 := Lib.hid (HB.out.trans (hb2.mono HB.out.size))
          clear hb2 HT HB
          cases hm : inside marksT c with
          | true =>
            have HRes : Hid (R = 3) := by show _ = _; rw [HRR.out, hm]; rfl
            clear HRR hm
            go_wp2
            go_ret
            exact ⟨by rw [HRes.out]; rfl, HB2.out⟩
          | false =>
            have HRes : Hid (R = if inside widesT c = true then 4 else 0) := by show _ = _; rw [HRR.out, hm]; rfl
            clear HRR hm
            go_wp2_with fail
            refine (wides_any w2).mono ?_
            rintro e w3 ⟨g3, rfl, ht3, hb3⟩
            have HT3 := Lib.hid ht3
            have HB3 := Lib.hid (HB2.out.trans (hb3.mono HB2.out.size))
            clear ht3 hb3 HB2
            go_wp2_with fail
            refine (within_any g3 widesT _ c w3 HT3.out wides_rising (by decide)).mono ?_
            rintro e w4 ⟨rfl, hb4⟩
            have HB4 := Lib.hid (HB3.out.trans (hb4.mono HB3.out.size))
            clear hb4 HT3 HB3
            cases hm2 : inside widesT c with
            | true =>
              have HRes2 : Hid (R = 4) := by show _ = _; rw [HRes.out, hm2]; rfl
              clear HRes hm2
              go_wp2
              go_ret
              exact ⟨by rw [HRes2.out]; rfl, HB4.out⟩
            | false =>
              have HRes2 : Hid (R = 0) := by show _ = _; rw [HRes.out, hm2]; rfl
              clear HRes hm2
              go_wp2
              go_ret
              exact ⟨by rw [HRes2.out]; rfl, HB4.out⟩
end Go.Proofs.YtgmpohdkignadaaGreatDoor.Ut
/-
  width.Cells, unit.At, cluster.glued, Boundary, Next. Condition: the two tables of unicode/utf8 lie as laid.
-/
namespace Go.Proofs.YtgmpohdkignadaaGreatDoor.Ut
open Go.RowKit
set_option linter.unusedVariables false
set_option linter.unusedSimpArgs false

set_option maxRecDepth 100000 in
theorem Cells_any (c : Int) (w : World) : Calls Tryz.prog 69 #[.int .i32 c] w fun e w' => e = .returned (.int .i64 (cellsF c)) ∧ Below w.heap.size w w' := by
  obtain ⟨R, hR⟩ : ∃ R, cellsF c = R := ⟨_, rfl⟩
  have HR := Lib.hid hR
  have HC := Lib.hid (Class_any c w)
  rw [hR]
  clear hR
  have hk : classF c = 5 ∨ classF c = 1 ∨ classF c = 2 ∨ classF c = 3 ∨ classF c = 4 ∨ classF c = 0 := by
    unfold classF
    repeat' split
    all_goals simp
  unfold cellsF at HR
  generalize classF c = k at *
  rcases hk with rfl | rfl | rfl | rfl | rfl | rfl
  all_goals first
    | (have hr : R = 0 := by (rw [← HR.out]; simp; done)
       subst hr
       clear HR
       go_enter Tryz.func69, Tryz.ntmps69
       go_wp2_with fail
       refine HC.out.mono ?_
       rintro e w1 ⟨rfl, hb⟩
       have HB := Lib.hid hb
       clear hb
       go_wp2
       go_ret
       exact ⟨rfl, HB.out⟩)
    | (have hr : R = 1 := by (rw [← HR.out]; simp; done)
       subst hr
       clear HR
       go_enter Tryz.func69, Tryz.ntmps69
       go_wp2_with fail
       refine HC.out.mono ?_
       rintro e w1 ⟨rfl, hb⟩
       have HB := Lib.hid hb
       clear hb
       go_wp2
       go_ret
       exact ⟨rfl, HB.out⟩)
    | (have hr : R = 2 := by (rw [← HR.out]; simp; done)
       subst hr
       clear HR
       go_enter Tryz.func69, Tryz.ntmps69
       go_wp2_with fail
       refine HC.out.mono ?_
       rintro e w1 ⟨rfl, hb⟩
       have HB := Lib.hid hb
       clear hb
       go_wp2
       go_ret
       exact ⟨rfl, HB.out⟩)
    | (by_cases h7 : c ≤ 127
       · have hr : R = 2 := by (rw [← HR.out]; simp [h7]; done)
         subst hr
         clear HR
         go_enter Tryz.func69, Tryz.ntmps69
         go_wp2_with fail
         refine HC.out.mono ?_
         rintro e w1 ⟨rfl, hb⟩
         have HB := Lib.hid hb
         clear hb
         go_wp2
         go_ret
         exact ⟨rfl, HB.out⟩
       · have hr : R = 1 := by (rw [← HR.out]; simp [h7]; done)
         subst hr
         clear HR
         go_enter Tryz.func69, Tryz.ntmps69
         go_wp2_with fail
         refine HC.out.mono ?_
         rintro e w1 ⟨rfl, hb⟩
         have HB := Lib.hid hb
         clear hb
         go_wp2
         go_ret
         exact ⟨rfl, HB.out⟩)

def atC (s : ByteArray) (i : Nat) : Int := if boundF s i = true then ch (from_ s i) else 0
def atN (s : ByteArray) (i : Nat) : Int := if boundF s i = true then sz (from_ s i) else 0
theorem kept_set {w w1 : World} {x y : Value} (h : Below w.heap.size w w1) : Below w.heap.size w ((w1.setCell ⟨w.heap.size, 0, none⟩ x).setCell ⟨w.heap.size, 1, none⟩ y) :=
  ((Chg.of_below h).trans (Chg.set w1 ⟨w.heap.size, 0, none⟩ _) (T := fun k => k = w.heap.size) (fun x _ h => h)).trans (Chg.set _ ⟨w.heap.size, 1, none⟩ _) (T := fun k => k = w.heap.size) (fun x _ h => h) |>.below_le (Nat.le_refl _) (fun x hx => by rw [hx]; exact Nat.le_refl _)

set_option maxRecDepth 100000 in
theorem At_any (s : ByteArray) (i : Nat) (w : World) (hT : Tabs w) (hs : s.size ≤ 140737488355328) (hi : i < s.size) :
    Calls Tryz.prog 64 #[.string s, .int .i64 i] w fun e w' => e = .returned (.tuple #[.agg #[.int .i32 (atC s i), .int .i64 (atN s i)], .bool (boundF s i)]) ∧ Below w.heap.size w w' := by
  have hb0 : Below w.heap.size w (w.alloc (.cells #[.int .i32 0, .int .i64 0] 111)) := (Below.refl _ _).alloc (Nat.le_refl _) _
  have HT := Lib.hid hT
  have HA := Lib.hid (Boundary_any s i _ (tabs_below hT hb0) hs (Nat.le_of_lt hi))
  have hi0 : ¬ (i : Int) < 0 := by omega
  have hi1 : ¬ (s.size : Int) ≤ (i : Int) := by omega
  unfold atC atN
  cases hb : boundF s i with
  | false =>
    rw [hb] at HA
    clear hb hT hb0
    go_enter Tryz.func64, Tryz.ntmps64
    go_wp2_with (go_at_call 63; refine HA.out.mono ?_; rintro e w1 ⟨rfl, hb⟩; obtain ⟨b0, b1, f0, f1, hbw⟩ := unit_box hb; have HB := Lib.hid hbw; clear hb hbw)
    obtain ⟨k0, k1⟩ := two_set (.int .i32 0) (.int .i64 0) b0 b1
    refine bodyPost_ret (v := .tuple #[.agg #[.int .i32 0, .int .i64 0], .bool false]) (by simp [results, Tryz.results64, go_sem, k0, k1]) rfl ⟨rfl, kept_set HB.out⟩
  | true =>
    rw [hb] at HA
    simp only [if_true]
    have hex : s.extract i s.size = from_ s i := rfl
    obtain ⟨C, hC⟩ : ∃ C, ch (from_ s i) = C := ⟨_, rfl⟩
    obtain ⟨K, hK⟩ : ∃ K, sz (from_ s i) = K := ⟨_, rfl⟩
    rw [hC, hK]
    have HC := Lib.hid hC
    have HK := Lib.hid hK
    have hi2 : (i : Int) ≤ (s.size : Int) := by omega
    clear hb hT hb0 hC hK
    go_enter Tryz.func64, Tryz.ntmps64
    go_wp2_with fail
    refine HA.out.mono ?_
    rintro e w1 ⟨rfl, hb⟩
    obtain ⟨b0, b1, f0, f1, hbw⟩ := unit_box hb
    have HB := Lib.hid hbw
    clear hb hbw
    go_wp2_with fail
    refine (first_any (from_ s i) w1 (tabs_below HT.out HB.out)).mono ?_
    rintro e w2 ⟨rfl, hb2⟩
    rw [HC.out, HK.out]
    have hlt : w.heap.size < w1.heap.size := World.block_lt_of_cell? w1 _ b0
    have b0' := (hb2.cell (p := ⟨w.heap.size, 0, none⟩) hlt).trans b0
    have b1' := (hb2.cell (p := ⟨w.heap.size, 1, none⟩) hlt).trans b1
    have f0' := (hb2.frozen (p := ⟨w.heap.size, 0, none⟩) hlt).trans f0
    have f1' := (hb2.frozen (p := ⟨w.heap.size, 1, none⟩) hlt).trans f1
    have HB2 := Lib.hid (HB.out.trans (hb2.mono HB.out.size))
    clear hb2 b0 b1 f0 f1
    go_wp2
    obtain ⟨k0, k1⟩ := two_set (.int .i32 C) (.int .i64 (K : Int)) b0' b1'
    refine bodyPost_ret (v := .tuple #[.agg #[.int .i32 C, .int .i64 K], .bool true]) (by simp [results, Tryz.results64, go_sem, k0, k1]) rfl ⟨rfl, kept_set HB2.out⟩

def gluedF (u v : Int) : Bool := (decide (u = 13) && decide (v = 10)) || (decide (classF v = 3) && decide (classF u ≠ 1) && decide (classF u ≠ 2))

set_option maxRecDepth 100000 in
theorem glued_any (u v : Int) (w : World) : Calls Tryz.prog 66 #[.int .i32 u, .int .i32 v] w fun e w' => e = .returned (.bool (gluedF u v)) ∧ Below w.heap.size w w' := by
  obtain ⟨R, hR⟩ : ∃ R, gluedF u v = R := ⟨_, rfl⟩
  have HR := Lib.hid hR
  rw [hR]
  clear hR
  by_cases h1 : u = 13 ∧ v = 10
  · obtain ⟨rfl, rfl⟩ := h1
    have hr : R = true := by rw [← HR.out]; simp [gluedF]
    subst hr
    clear HR
    go_enter Tryz.func66, Tryz.ntmps66
    go_wp2
    go_ret
    exact ⟨rfl, Below.refl _ _⟩
  · have hr : R = (decide (classF v = 3) && decide (classF u ≠ 1) && decide (classF u ≠ 2)) := by
      rw [← HR.out]; unfold gluedF
      have : (decide (u = 13) && decide (v = 10)) = false := by
        rw [Bool.and_eq_false_iff]; simp; omega
      rw [this, Bool.false_or]
    have HRR := Lib.hid hr
    have HC1 := fun w => Class_any u w
    have HC2 := fun w => Class_any v w
    have HU := Lib.hid HC1
    have HV := Lib.hid HC2
    clear HR hr HC1 HC2
    generalize classF u = a at *
    generalize classF v = b at *
    have hcase : (u == 13) = false ∨ ((u == 13) = true ∧ (v == 10) = false) := by
      by_cases h : u = 13
      · right; exact ⟨by simpa using h, by simpa using fun hv => h1 ⟨h, hv⟩⟩
      · left; simpa using h
    clear h1
    rcases hcase with h | ⟨h, h'⟩
    all_goals
      go_enter Tryz.func66, Tryz.ntmps66
      go_wp2_with fail
      refine (HU.out _).mono ?_
      rintro e w1 ⟨rfl, hb⟩
      have HB := Lib.hid hb
      clear hb
      go_wp2_with fail
      refine (HV.out _).mono ?_
      rintro e w2 ⟨rfl, hb2⟩
      have HB2 := Lib.hid (HB.out.trans (hb2.mono HB.out.size))
      clear hb2
      by_cases hb3 : b = 3
      · by_cases ha1 : a = 1
        · subst hb3 ha1
          have hr : R = false := by rw [HRR.out]; rfl
          subst hr
          clear HRR
          go_wp2
          go_ret
          exact ⟨rfl, HB2.out⟩
        · have hr : R = decide (a ≠ 2) := by rw [HRR.out, hb3]; simp [ha1]
          subst hb3
          have q1 : (a != 1) = true := by simpa using ha1
          have q2 : (a != 2) = decide (a ≠ 2) := by by_cases h : a = 2 <;> simp [h]
          have HQ2 := Lib.hid q2
          have HR2 := Lib.hid hr
          clear HRR hr q2 ha1
          go_wp2
          go_ret
          exact ⟨by rw [HR2.out, ← HQ2.out]; rfl, HB2.out⟩
      · have hr : R = false := by rw [HRR.out]; simp [hb3]
        subst hr
        have q3 : (b == 3) = false := by simpa using hb3
        clear HRR hb3
        go_wp2
        go_ret
        exact ⟨rfl, HB2.out⟩
end Go.Proofs.YtgmpohdkignadaaGreatDoor.Ut
/-
  cluster.Boundary, cluster.Next. Condition: the two tables of unicode/utf8 lie as laid.
-/
namespace Go.Proofs.YtgmpohdkignadaaGreatDoor.Ut
open Go.RowKit
set_option linter.unusedVariables false
set_option linter.unusedSimpArgs false

/-- Is i (from 0 to the length) at a boundary of clusters? -/
def clB (s : ByteArray) (i : Nat) : Bool := decide (i = 0) || decide (i = s.size) || (boundF s i && !gluedF (atC s (prevU s i)) (atC s i))

theorem prev_lt {s : ByteArray} {i : Nat} (h0 : 0 < i) (hi : i ≤ s.size) : prevU s i < i := by
  have := (around_ok (s := s) (i := i - 1) (by omega)).1
  unfold prevU downF
  omega

theorem boxed {w : World} {x y : Value} {t : TypeId} : ((w.alloc (.cells #[x, y] t)).cell? ⟨w.heap.size, 0, none⟩ = some x) ∧ ((w.alloc (.cells #[x, y] t)).cell? ⟨w.heap.size, 1, none⟩ = some y) := by
  constructor <;> simp

set_option maxRecDepth 100000 in
theorem ClBoundary_any (s : ByteArray) (i : Nat) (w : World) (hT : Tabs w) (hs : s.size ≤ 140737488355328) (hi : i ≤ s.size) :
    Calls Tryz.prog 45 #[.string s, .int .i64 i] w fun e w' => e = .returned (.bool (clB s i)) ∧ Below w.heap.size w w' := by
  obtain ⟨R, hR⟩ : ∃ R, clB s i = R := ⟨_, rfl⟩
  have HR := Lib.hid hR
  rw [hR]
  clear hR
  have HT := Lib.hid hT
  clear hT
  by_cases h0 : i = 0
  · have hr : R = true := by rw [← HR.out]; simp [clB, h0]
    subst hr h0
    clear HR
    go_enter Tryz.func45, Tryz.ntmps45
    go_wp2
    go_ret
    exact ⟨rfl, Below.refl _ _⟩
  · have q0 : ¬ (i : Int) ≤ 0 := by omega
    have q1 : ((i : Int) == 0) = false := by rw [beq_eq_false_iff_ne]; omega
    by_cases h1 : i = s.size
    · have hr : R = true := by rw [← HR.out]; simp [clB, h1]
      subst hr
      have q2 : ((i : Int) == (s.size : Int)) = true := by rw [beq_iff_eq]; omega
      have q3 : (s.size : Int) ≤ (i : Int) := by omega
      clear HR h1
      go_enter Tryz.func45, Tryz.ntmps45
      go_wp2
      go_ret
      exact ⟨rfl, Below.refl _ _⟩
    · have q3 : ¬ (s.size : Int) ≤ (i : Int) := by omega
      have hr : R = (boundF s i && !gluedF (atC s (prevU s i)) (atC s i)) := by rw [← HR.out]; simp [clB, h0, h1]
      have HRR := Lib.hid hr
      have hp : prevU s i < i := prev_lt (by omega) hi
      clear HR hr h0 q1
      go_enter Tryz.func45, Tryz.ntmps45
      go_wp2_with fail
      refine (Boundary_any s i w HT.out hs hi).mono ?_
      rintro e w1 ⟨rfl, hb⟩
      have HB := Lib.hid hb
      clear hb
      cases hbd : boundF s i with
      | false =>
        have HRes : Hid (R = false) := by show _ = _; rw [HRR.out, hbd]; rfl
        clear HRR hbd
        go_wp2
        go_ret
        exact ⟨by rw [HRes.out]; rfl, HB.out⟩
      | true =>
        have HRes : Hid (R = !gluedF (atC s (prevU s i)) (atC s i)) := by show _ = _; rw [HRR.out, hbd]; rfl
        clear HRR
        go_wp2_with fail
        refine (PrevU_any s i w1 (tabs_below HT.out HB.out) hs (by omega) hi).mono ?_
        rintro e w2 ⟨rfl, hb2⟩
        have HB2 := Lib.hid (HB.out.trans (hb2.mono HB.out.size))
        clear hb2 HB
        generalize prevU s i = p at *
        go_wp2_with fail
        refine (At_any s p w2 (tabs_below HT.out HB2.out) hs (by omega)).mono ?_
        rintro e w3 ⟨rfl, hb3⟩
        have HB3 := Lib.hid (HB2.out.trans (hb3.mono HB2.out.size))
        clear hb3 HB2
        generalize atC s p = C1 at *
        generalize atN s p = N1 at *
        generalize boundF s p = b1 at *
        have HBd := Lib.hid hbd
        clear hbd
        go_wp2_with fail
        have hb4 : Below w3.heap.size w3 (w3.alloc (.cells #[.int .i32 C1, .int .i64 N1] 111)) := (Below.refl _ _).alloc (Nat.le_refl _) _
        have hs4 : (w3.alloc (.cells #[.int .i32 C1, .int .i64 N1] 111)).heap.size = w3.heap.size + 1 := by simp
        have hc4 := (boxed (w := w3) (x := .int .i32 C1) (y := .int .i64 N1) (t := 111)).1
        generalize w3.alloc (.cells #[.int .i32 C1, .int .i64 N1] 111) = w4 at *
        have HB4 := Lib.hid (HB3.out.trans (hb4.mono HB3.out.size))
        have hl4 : w3.heap.size < w4.heap.size := by omega
        clear hb4 HB3 hs4
        refine (At_any s i w4 (tabs_below HT.out HB4.out) hs (by omega)).mono ?_
        rintro e w5 ⟨rfl, hb5⟩
        have hc5 := (hb5.cell (p := ⟨w3.heap.size, 0, none⟩) hl4).trans hc4
        have HB5 := Lib.hid (HB4.out.trans (hb5.mono HB4.out.size))
        have hl5 : w3.heap.size < w5.heap.size := Nat.lt_of_lt_of_le hl4 hb5.size
        clear hb5 HB4 hc4 hl4
        generalize atC s i = C2 at *
        generalize atN s i = N2 at *
        generalize boundF s i = b2 at *
        have hb6 : Below w5.heap.size w5 (w5.alloc (.cells #[.int .i32 C2, .int .i64 N2] 111)) := (Below.refl _ _).alloc (Nat.le_refl _) _
        have hd6 := (boxed (w := w5) (x := .int .i32 C2) (y := .int .i64 N2) (t := 111)).1
        have hc6 := (hb6.cell (p := ⟨w3.heap.size, 0, none⟩) hl5).trans hc5
        have HB6 := Lib.hid (HB5.out.trans (hb6.mono HB5.out.size))
        clear hb6 HB5 hc5
        go_wp2_with fail
        generalize w5.alloc (.cells #[.int .i32 C2, .int .i64 N2] 111) = w6 at *
        refine (glued_any C1 C2 w6).mono ?_
        rintro e w7 ⟨rfl, hb7⟩
        have HB7 := Lib.hid (HB6.out.trans (hb7.mono HB6.out.size))
        clear hb7 HB6 hc6 hd6
        generalize gluedF C1 C2 = G at *
        go_wp2
        go_ret
        exact ⟨by rw [HRes.out]; rfl, HB7.out⟩

/-- The least boundary above i, looked for in f steps; the length at last. -/
def clNf (s : ByteArray) : Nat → Nat → Nat
  | 0, _ => s.size
  | f + 1, i => if i < s.size then (if clB s (nextU s i) = true then nextU s i else clNf s f (nextU s i)) else s.size
def clN (s : ByteArray) (i : Nat) : Nat := clNf s (s.size - i) i
theorem next_gt {s : ByteArray} {i : Nat} (h : i < s.size) : i < nextU s i ∧ nextU s i ≤ s.size := by
  have := around_ok (s := s) (i := i) (Nat.le_of_lt h)
  unfold nextU
  omega
theorem clNf_more (s : ByteArray) : ∀ f i, s.size - i ≤ f → clNf s f i = clN s i
  | 0, i, h => by unfold clN; rw [show s.size - i = 0 by omega]
  | f + 1, i, h => by
    unfold clN
    by_cases hi : i < s.size
    · obtain ⟨h1, h2⟩ := next_gt hi
      rw [show s.size - i = (s.size - i - 1) + 1 by omega]
      unfold clNf
      rw [if_pos hi, if_pos hi]
      split
      · rfl
      · rw [clNf_more s f (nextU s i) (by omega), clNf_more s (s.size - i - 1) (nextU s i) (by omega)]
    · rw [show s.size - i = 0 by omega]
      unfold clNf
      rw [if_neg hi]
theorem clN_step {s : ByteArray} {i : Nat} (h : i < s.size) : clN s i = if clB s (nextU s i) = true then nextU s i else clN s (nextU s i) := by
  obtain ⟨h1, h2⟩ := next_gt h
  have e : clN s i = clNf s ((s.size - i - 1) + 1) i := by unfold clN; congr 1; omega
  rw [e]
  unfold clNf
  rw [if_pos h, clNf_more s _ _ (by omega)]
theorem clN_end {s : ByteArray} {i : Nat} (h : s.size ≤ i) : clN s i = s.size := by unfold clN; rw [show s.size - i = 0 by omega]; rfl
theorem clN_le (s : ByteArray) (i : Nat) : clN s i ≤ s.size := by
  induction hn : s.size - i using Nat.strongRecOn generalizing i with
  | _ n ih =>
    by_cases h : i < s.size
    · obtain ⟨h1, h2⟩ := next_gt h
      rw [clN_step h]
      split
      · exact h2
      · exact ih _ (by omega) _ rfl
    · rw [clN_end (by omega)]; exact Nat.le_refl _
theorem clN_gt {s : ByteArray} {i : Nat} (h : i < s.size) : i < clN s i := by
  induction hn : s.size - i using Nat.strongRecOn generalizing i with
  | _ n ih =>
    obtain ⟨h1, h2⟩ := next_gt h
    rw [clN_step h]
    split
    · exact h1
    · by_cases h3 : nextU s i < s.size
      · have := ih _ (by omega) h3 rfl; omega
      · rw [clN_end (by omega)]; omega

set_option maxRecDepth 100000 in
theorem ClNext_any (s : ByteArray) (i : Nat) (w : World) (hT : Tabs w) (hs : s.size ≤ 140737488355328) (hi : i ≤ s.size) :
    Calls Tryz.prog 20 #[.string s, .int .i64 i] w fun e w' => e = .returned (.int .i64 (clN s i)) ∧ Below w.heap.size w w' := by
  have HT := Lib.hid hT
  obtain ⟨R, hR⟩ : ∃ R, clN s i = R := ⟨_, rfl⟩
  have HR := Lib.hid hR
  rw [hR]
  clear hT hR
  go_enter Tryz.func20, Tryz.ntmps20
  go_wp2
  go_loopw [1] (fun v wr => ∃ j : Nat, j ≤ s.size ∧ v = .int .i64 j ∧ Hid (clN s j = R) ∧ Below w.heap.size w wr) (fun v _ => s.size - (intOf v).toNat)
  case atStart => exact ⟨i, hi, rfl, HR.out, Below.refl _ _⟩
  case round =>
    obtain ⟨j, hj, rfl, HA, hb⟩ := hrel
    have HB := Lib.hid hb
    clear hb
    by_cases hlt : j < s.size
    · obtain ⟨h1, h2⟩ := next_gt hlt
      have hst := clN_step hlt
      rw [HA.out] at hst
      have HSt := Lib.hid hst
      clear hst HA
      go_wp2_with fail
      refine (NextU_any s j wr (tabs_below HT.out HB.out) hs hj).mono ?_
      rintro e w1 ⟨rfl, hb1⟩
      have HB1 := Lib.hid (HB.out.trans (hb1.mono HB.out.size))
      clear hb1 HB
      generalize nextU s j = k at *
      go_wp2_with fail
      refine (ClBoundary_any s k w1 (tabs_below HT.out HB1.out) hs h2).mono ?_
      rintro e w2 ⟨rfl, hb2⟩
      have HB2 := Lib.hid (HB1.out.trans (hb2.mono HB1.out.size))
      clear hb2 HB1
      cases hc : clB s k with
      | true =>
        have HRes : Hid (R = k) := by show _ = _; rw [HSt.out, if_pos hc]
        clear HSt hc
        go_wp2
        go_ret
        exact ⟨by rw [HRes.out]; rfl, HB2.out⟩
      | false =>
        have HRes : Hid (clN s k = R) := by show _ = _; rw [HSt.out, if_neg (by simp [hc])]
        clear HSt hc
        go_wp2
        go_roundw
        case rel => exact ⟨k, h2, rfl, HRes.out, HB2.out⟩
        case measure => simp [intOf]; omega
    · have hj' : j = s.size := by omega
      have HRes : Hid (R = s.size) := by show _ = _; rw [← HA.out, clN_end (by omega)]
      clear HA
      subst hj'
      go_wp2
      go_ret
      exact ⟨by rw [HRes.out]; rfl, HB.out⟩
end Go.Proofs.YtgmpohdkignadaaGreatDoor.Ut
/-
  A region that draws its order, by one obligation for each operation: each slot's value is said once, and holds in whatever order. No condition.
-/
namespace Go.Proofs.YtgmpohdkignadaaGreatDoor.Reg
open Go.RowKit
set_option linter.unusedVariables false
set_option linter.unusedSimpArgs false

section
variable {P : Program} {ops : Array Oper} {Q : Exit → Act → World → Prop}

/-- How many are not listed yet. -/
def left (listed : Array Bool) : Nat := (listed.toList.filter fun b => !b).length

theorem left_list : ∀ (l : List Bool) (i : Nat), l[i]? = some false → ((l.set i true).filter fun b => !b).length + 1 = (l.filter fun b => !b).length
  | [], i, h => by simp at h
  | b :: r, 0, h => by simp at h; subst h; simp
  | b :: r, i + 1, h => by
    have := left_list r i (by simpa using h)
    cases b <;> simp [List.set] at this ⊢ <;> omega

theorem left_set {listed : Array Bool} {i : Nat} (h : listed.getD i true = false) : left (listed.setIfInBounds i true) + 1 = left listed := by
  have hi : listed.toList[i]? = some false := by
    rw [Array.getElem?_toList]
    rw [Array.getD_eq_getD_getElem?] at h
    cases hx : listed[i]? with
    | none => rw [hx] at h; simp at h
    | some b => rw [hx] at h; simpa using h
  have := left_list listed.toList i hi
  unfold left
  rw [Array.toList_setIfInBounds]
  exact this

/-- Whatever is picked, Inv is kept; when nothing is left, the region is done. -/
theorem wp_inv {id : Nat} {a : Act} {w : World} (hm : P.follows .mixedOrders = true) (Inv : Array Bool → Act → World → Prop)
    (h0 : Inv (Array.replicate ops.size false) a { w with drawn := w.drawn + 1 })
    (step : ∀ listed a w i, Inv listed a w → listed.size = ops.size → i ∈ Region.ready .any ops listed → wpOp P ops Q i (fun a' w' => Inv (listed.setIfInBounds i true) a' w') a w)
    (done : ∀ listed a w, Inv listed a w → listed.size = ops.size → Region.ready .any ops listed = [] → Q .normal a w) : (Code.region id ops true).wp P Q a w := by
  refine wp_region_any hm ?_
  have key : ∀ fuel listed a w, left listed ≤ fuel → listed.size = ops.size → Inv listed a w → wpAny P .any ops Q fuel listed a w := by
    intro fuel
    induction fuel with
    | zero =>
      intro listed a w hl hs hI
      have hr : Region.ready .any ops listed = [] := by
        rcases hx : Region.ready .any ops listed with _ | ⟨i, r⟩
        · rfl
        · have hi : i ∈ Region.ready .any ops listed := by rw [hx]; exact List.mem_cons_self
          have := left_set (mem_ready.1 hi).1
          omega
      exact ⟨hr, done listed a w hI hs hr⟩
    | succ n ih =>
      intro listed a w hl hs hI
      refine ⟨fun hr => done listed a w hI hs hr, fun i hi => wpOp_mono (fun a' w' h => ?_) (step listed a w i hI hs hi)⟩
      have := left_set (mem_ready.1 hi).1
      exact ih _ a' w' (by omega) (by simpa using hs) h
  refine key _ _ a _ ?_ (by simp) h0
  unfold left
  refine Nat.le_trans (List.length_filter_le _ _) (by simp)

/-- Does operation i wait for operation j? -/
def waits (ops : Array Oper) (i j : Nat) : Bool := ((ops[i]?).map fun o => o.after.any fun e => e.on == j && Region.binds .any e).getD false
def writes (ops : Array Oper) (j d : Nat) : Bool := ((ops[j]?).bind (·.dst)) == some d
/-- The slots that operation i looks at; true: an operation for which it waits has written it. -/
def reads (ops : Array Oper) (i : Nat) : List (Nat × Bool) :=
  match ops[i]? with
  | none => []
  | some o => (o.looksAt ops).map fun d => (d, (List.range ops.size).any fun j => writes ops j d && waits ops i j)
/-- No slot is written twice; who writes what another looks at waits for it or is waited for. -/
def tidy (ops : Array Oper) : Bool :=
  ((List.range ops.size).all fun i => match ops[i]? with | none => true | some o => o.after.all fun e => !Region.binds .any e || decide (e.on < i)) && (List.range ops.size).all fun i => (List.range ops.size).all fun j => i == j || (match (ops[j]?).bind (·.dst) with
    | none => true
    | some d => !writes ops i d && (match ops[i]? with
      | none => true
      | some o => !(o.looksAt ops).contains d || waits ops i j || waits ops j i))

structure Inv (ops : Array Oper) (V : Nat → Value → World → Prop) (a0 : Act) (w0 : World) (listed : Array Bool) (a : Act) (w : World) : Prop where
  size : a.tmps.size = a0.tmps.size
  defers : a.defers = a0.defers
  below : Below w0.heap.size w0 w
  done : ∀ j d, writes ops j d = true → listed.getD j false = true → V d (a.tmps.getD d undef) w
  closed : ∀ j k, waits ops j k = true → listed.getD j false = true → listed.getD k false = true
  rest : ∀ d, (∀ j, writes ops j d = true → listed.getD j false = false) → a.tmps.getD d undef = a0.tmps.getD d undef

theorem getD_put (a : Act) (x : Option Tmp) (v : Value) (d : Nat) (hx : ∀ t, x = some t → t < a.tmps.size) : (a.put x v).tmps.getD d undef = if x = some d then v else a.tmps.getD d undef := by
  cases x with
  | none => simp [Act.put]
  | some t =>
    have := hx t rfl
    simp only [Act.put, Option.some.injEq]
    by_cases h : t = d
    · subst h; simp [Array.getD_eq_getD_getElem?, this]
    · rw [if_neg h]; simp [Array.getD_eq_getD_getElem?, Array.getElem?_setIfInBounds, h]

/-- What an operation owes: in every state in which what it looks at is as said, it leaves a value as said, and nothing that lay before has turned. -/
def Owes (P : Program) (ops : Array Oper) (Q : Exit → Act → World → Prop) (V : Nat → Value → World → Prop) (a0 : Act) (w0 : World) (i : Nat) : Prop :=
  ∀ a w, a.tmps.size = a0.tmps.size → a.defers = a0.defers → Below w0.heap.size w0 w →
    (∀ x ∈ reads ops i, (x.2 = true → V x.1 (a.tmps.getD x.1 undef) w) ∧ (x.2 = false → a.tmps.getD x.1 undef = a0.tmps.getD x.1 undef)) →
    wpOp P ops Q i (fun a' w' => ∃ v, a' = a.put ((ops[i]?).bind (·.dst)) v ∧ Below w.heap.size w w' ∧ ∀ d, writes ops i d = true → V d v w') a w

theorem writes_lt {j d : Nat} (h : writes ops j d = true) : j < ops.size := by
  rcases Nat.lt_or_ge j ops.size with hj | hj
  · exact hj
  · simp [writes, Array.getElem?_eq_none hj] at h

/-- When nothing is ready any more, all are listed. -/
theorem all_listed (ht : tidy ops = true) {listed : Array Bool} (hr : Region.ready .any ops listed = []) (hs : listed.size = ops.size) : ∀ j, j < ops.size → listed.getD j false = true := by
  intro j
  induction j using Nat.strongRecOn with
  | _ j ih =>
    intro hj
    cases hl : listed.getD j false with
    | true => rfl
    | false =>
      exfalso
      have ho : ops[j]? = some ops[j] := by simp [hj]
      have hmem : j ∈ Region.ready .any ops listed := mem_ready.2 ⟨by
        have : j < listed.size := by omega
        rw [Array.getD_eq_getD_getElem?] at hl ⊢
        simp [this] at hl ⊢
        exact hl, ops[j], ho, fun e he hbd => by
          unfold tidy at ht
          rw [Bool.and_eq_true] at ht
          have h1 := List.all_eq_true.1 ht.1 j (List.mem_range.2 hj)
          rw [ho] at h1
          simp only [Array.all_eq_true_iff_forall_mem, Bool.or_eq_true, Bool.not_eq_true', decide_eq_true_eq] at h1
          have := (h1 e he).resolve_left (by rw [hbd]; simp)
          exact ih e.on this (by omega)⟩
      rw [hr] at hmem
      cases hmem

theorem wp_held {id : Nat} {a0 : Act} {w0 : World} (hm : P.follows .mixedOrders = true) (V : Nat → Value → World → Prop)
    (hV : ∀ d v w w', V d v w → Below w.heap.size w w' → V d v w') (ht : tidy ops = true)
    (hsz : (ops.all fun o => match o.dst with | some d => decide (d < a0.tmps.size) | none => true) = true)
    (h : ∀ i, i < ops.size → Owes P ops Q V a0 w0 i)
    (hd : ∀ a w, a.tmps.size = a0.tmps.size → a.defers = a0.defers → Below w0.heap.size w0 w → (∀ j d, writes ops j d = true → V d (a.tmps.getD d undef) w) →
      (∀ d, (∀ j, writes ops j d = false) → a.tmps.getD d undef = a0.tmps.getD d undef) → Q .normal a w) :
    (Code.region id ops true).wp P Q a0 w0 := by
  have hdr : Below w0.heap.size w0 { w0 with drawn := w0.drawn + 1 } := ⟨rfl, rfl, rfl, Nat.le_refl _, fun _ _ => rfl⟩
  have hnone : ∀ j, (Array.replicate ops.size false).getD j false = false := fun j => by
    rw [Array.getD_eq_getD_getElem?]
    by_cases hj : j < ops.size <;> simp [hj]
  refine wp_inv hm (Inv ops V a0 w0) ⟨rfl, rfl, hdr, fun j d _ hl => ?_, fun j k _ hl => ?_, fun d _ => rfl⟩ ?_ ?_
  · rw [hnone] at hl; cases hl
  · rw [hnone] at hl; cases hl
  · intro listed a w i hI hs hi
    obtain ⟨hun, o, ho, haf⟩ := mem_ready.1 hi
    have hil : i < ops.size := (Array.getElem?_eq_some_iff.1 ho).1
    have hwl : ∀ j, waits ops i j = true → listed.getD j false = true := fun j hj => by
      unfold waits at hj
      rw [ho] at hj
      simp only [Option.map_some, Option.getD_some, Array.any_eq_true', Bool.and_eq_true, beq_iff_eq] at hj
      obtain ⟨e, he, rfl, hb⟩ := hj
      exact haf e he hb
    have hilt : i < listed.size := by omega
    have hnl : listed.getD i false = false := by
      rw [Array.getD_eq_getD_getElem?] at hun ⊢
      simp [hilt] at hun ⊢
      exact hun
    have htd : ∀ j, j < ops.size → i ≠ j → ∀ d, writes ops j d = true → writes ops i d = false ∧ (d ∈ o.looksAt ops → waits ops i j = true ∨ waits ops j i = true) := fun j hj hne d hw => by
      unfold tidy at ht
      rw [Bool.and_eq_true] at ht
      have h1 := List.all_eq_true.1 (List.all_eq_true.1 ht.2 i (List.mem_range.2 hil)) j (List.mem_range.2 hj)
      unfold writes at hw
      have hdj : (ops[j]?).bind (·.dst) = some d := by simpa using hw
      rw [hdj, ho] at h1
      have hb : (i == j) = false := by simpa using hne
      rw [hb] at h1
      simp only [Bool.false_or, Bool.and_eq_true, Bool.not_eq_true', Bool.or_eq_true] at h1
      refine ⟨h1.1, fun hd => ?_⟩
      rcases h1.2 with (h2 | h2) | h2
      · have : (o.looksAt ops).contains d = true := by simpa using hd
        rw [this] at h2; cases h2
      · exact .inl h2
      · exact .inr h2
    have hwn : ∀ j, waits ops j i = true → listed.getD j false = false := fun j hj => by
      cases hx : listed.getD j false with
      | false => rfl
      | true => have := hI.closed j i hj hx; rw [hnl] at this; cases this
    refine wpOp_mono (fun a' w' hh => ?_) (h i hil a w hI.size hI.defers hI.below (fun x hx => ?_))
    · obtain ⟨v, rfl, hb, hv⟩ := hh
      have hdl : ∀ t, (ops[i]?).bind (·.dst) = some t → t < a.tmps.size := fun t hte => by
        rw [ho] at hte
        have h2 := Array.all_eq_true_iff_forall_mem.1 hsz o (Array.mem_of_getElem? ho)
        have h3 : o.dst = some t := hte
        rw [h3] at h2
        rw [hI.size]
        exact of_decide_eq_true h2
      have hli : ∀ j, j ≠ i → (listed.setIfInBounds i true).getD j false = listed.getD j false := fun j hj => getD_set_ne false (Ne.symm hj)
      have hself : (listed.setIfInBounds i true).getD i false = true := by
        rw [Array.getD_eq_getD_getElem?]; simp [hilt]
      refine ⟨?_, ?_, hI.below.trans (hb.mono hI.below.size), fun j d hw hl => ?_, fun j k hjk hl => ?_, fun d hd => ?_⟩
      · cases hx : (ops[i]?).bind (·.dst) <;> simp [Act.put, hI.size]
      · cases hx : (ops[i]?).bind (·.dst) <;> simp [Act.put, hI.defers]
      · rw [getD_put a _ v d hdl]
        by_cases hji : j = i
        · subst hji
          have : (ops[j]?).bind (·.dst) = some d := by simpa [writes] using hw
          rw [if_pos this]
          exact hv d hw
        · have hne := (htd j (writes_lt hw) (Ne.symm hji) d hw).1
          rw [if_neg (by intro e; simp [writes, e] at hne)]
          rw [hli j hji] at hl
          exact hV _ _ _ _ (hI.done j d hw hl) hb
      · by_cases hki : k = i
        · subst hki; exact hself
        · rw [hli k hki]
          by_cases hji : j = i
          · subst hji; exact hwl k hjk
          · rw [hli j hji] at hl; exact hI.closed j k hjk hl
      · rw [getD_put a _ v d hdl]
        rw [if_neg]
        · refine hI.rest d (fun j hw => ?_)
          have := hd j hw
          by_cases hji : j = i
          · subst hji; rw [hself] at this; cases this
          · rwa [hli j hji] at this
        · intro e
          have := hd i (by simp [writes, e])
          rw [hself] at this; cases this
    · unfold reads at hx
      rw [ho] at hx
      obtain ⟨d, hdm, rfl⟩ := List.mem_map.1 hx
      refine ⟨fun hf => ?_, fun hf => ?_⟩
      · simp only [List.any_eq_true, List.mem_range, Bool.and_eq_true] at hf
        obtain ⟨j, _, hw, hwt⟩ := hf
        exact hI.done j d hw (hwl j hwt)
      · refine hI.rest d (fun j hw => ?_)
        by_cases hji : j = i
        · subst hji; exact hnl
        · rcases (htd j (writes_lt hw) (Ne.symm hji) d hw).2 hdm with h1 | h1
          · exfalso
            rw [List.any_eq_false] at hf
            have := hf j (List.mem_range.2 (writes_lt hw))
            simp [hw, h1] at this
          · exact hwn j h1
  · intro listed a w hI hs hr
    have hal := all_listed ht hr hs
    exact hd a w hI.size hI.defers hI.below (fun j d hw => hI.done j d hw (hal j (writes_lt hw))) (fun d hd => hI.rest d (fun j hw => by rw [hd j] at hw; cases hw))

/-- Slots set one after the other. -/
def putAll (a : Act) : List (Nat × Value) → Act
  | [] => a
  | (d, v) :: r => putAll (a.put (some d) v) r

theorem putAll_eq (a' : Act) : ∀ (ds : List Nat) (a0 : Act), a'.tmps.size = a0.tmps.size → a'.defers = a0.defers → (∀ d ∈ ds, d < a0.tmps.size) → (∀ d, d ∉ ds → a'.tmps.getD d undef = a0.tmps.getD d undef) →
    a' = putAll a0 (ds.map fun d => (d, a'.tmps.getD d undef))
  | [], a0, hs, hd, _, he => by
    obtain ⟨t, d⟩ := a'
    obtain ⟨t0, d0⟩ := a0
    simp only at hs hd he
    subst hd
    show _ = (⟨t0, d⟩ : Act)
    congr 1
    apply Array.ext hs
    intro k h1 h2
    have := he k (by simp)
    rw [Array.getD_eq_getD_getElem?, Array.getD_eq_getD_getElem?] at this
    simpa [h1, h2] using this
  | d :: r, a0, hs, hdf, hlt, he => by
    have hd0 := hlt d List.mem_cons_self
    simp only [List.map_cons, putAll]
    refine putAll_eq a' r _ ?_ ?_ ?_ ?_
    · simp [Act.put, hs]
    · simp [Act.put, hdf]
    · intro e he'
      simp only [Act.put, Array.size_setIfInBounds]
      exact hlt e (List.mem_cons_of_mem _ he')
    · intro e hne
      rw [getD_put a0 (some d) _ e (fun t h => by cases h; exact hd0)]
      by_cases hde : d = e
      · subst hde; simp
      · rw [if_neg (by simpa using hde)]
        exact he e (by simp; exact ⟨fun h => hde h.symm, hne⟩)

/-- The slots that a region writes. -/
def dsts (ops : Array Oper) : List Nat := ops.toList.filterMap (·.dst)

theorem mem_dsts {d : Nat} : d ∈ dsts ops ↔ ∃ j, writes ops j d = true := by
  unfold dsts writes
  rw [List.mem_filterMap]
  constructor
  · rintro ⟨o, ho, hd⟩
    obtain ⟨j, hj, rfl⟩ := List.getElem_of_mem ho
    exact ⟨j, by simp at hj; simp [hj]; simpa using hd⟩
  · rintro ⟨j, hj⟩
    cases hx : ops[j]? with
    | none => rw [hx] at hj; simp at hj
    | some o =>
      rw [hx] at hj
      exact ⟨o, by have := Array.mem_of_getElem? hx; simpa using this, by simpa using hj⟩

/-- The rule, its end with the frame written out. -/
theorem wp_held' {id : Nat} {a0 : Act} {w0 : World} (hm : P.follows .mixedOrders = true) (V : Nat → Value → World → Prop)
    (hV : ∀ d v w w', V d v w → Below w.heap.size w w' → V d v w') (ht : tidy ops = true) (D : List Nat) (hD : dsts ops = D)
    (hsz : (ops.all fun o => match o.dst with | some d => decide (d < a0.tmps.size) | none => true) = true)
    (h : ∀ i, i < ops.size → Owes P ops Q V a0 w0 i)
    (hd : ∀ (f : Nat → Value) w, (∀ d ∈ D, V d (f d) w) → Below w0.heap.size w0 w → Q .normal (putAll a0 (D.map fun d => (d, f d))) w) :
    (Code.region id ops true).wp P Q a0 w0 := by
  refine wp_held hm V hV ht hsz h (fun a w hs hdf hb hdone hrest => ?_)
  subst hD
  have e := putAll_eq a (dsts ops) a0 hs hdf (fun d hdm => by
    obtain ⟨j, hj⟩ := mem_dsts.1 hdm
    unfold writes at hj
    cases hx : ops[j]? with
    | none => rw [hx] at hj; simp at hj
    | some o =>
      rw [hx] at hj
      have h3 : o.dst = some d := by simpa using hj
      have h2 := Array.all_eq_true_iff_forall_mem.1 hsz o (Array.mem_of_getElem? hx)
      rw [h3] at h2
      exact of_decide_eq_true h2) (fun d hn => hrest d (fun j => by
    cases hx : writes ops j d with
    | false => rfl
    | true => exact absurd (mem_dsts.2 ⟨j, hx⟩) hn))
  rw [e]
  exact hd (fun d => a.tmps.getD d undef) w (fun d hdm => by obtain ⟨j, hj⟩ := mem_dsts.1 hdm; exact hdone j d hj) hb

/-- What is known of the slots that an operation looks at. -/
def Facts (V : Nat → Value → World → Prop) (a0 a : Act) (w : World) : List (Nat × Bool) → Prop
  | [] => True
  | (d, true) :: r => V d (a.tmps[d]?.getD undef) w ∧ Facts V a0 a w r
  | (d, false) :: r => a.tmps[d]?.getD undef = a0.tmps.getD d undef ∧ Facts V a0 a w r

theorem facts_of {V : Nat → Value → World → Prop} {a0 a : Act} {w : World} : ∀ {l : List (Nat × Bool)},
    (∀ x ∈ l, (x.2 = true → V x.1 (a.tmps.getD x.1 undef) w) ∧ (x.2 = false → a.tmps.getD x.1 undef = a0.tmps.getD x.1 undef)) → Facts V a0 a w l
  | [], _ => trivial
  | (d, true) :: r, h => ⟨by have := (h _ List.mem_cons_self).1 rfl; rwa [Array.getD_eq_getD_getElem?] at this, facts_of fun x hx => h x (List.mem_cons_of_mem _ hx)⟩
  | (d, false) :: r, h => ⟨by have := (h _ List.mem_cons_self).2 rfl; rwa [Array.getD_eq_getD_getElem? (xs := a.tmps)] at this, facts_of fun x hx => h x (List.mem_cons_of_mem _ hx)⟩

/-- An operation without a guard that leaves a value. -/
theorem owes_val {V : Nat → Value → World → Prop} {a0 : Act} {w0 : World} {i d : Nat} {o : Oper} {L : List (Nat × Bool)} (ho : ops[i]? = some o) (hg : o.guard = none) (hd : o.dst = some d) (hL : reads ops i = L)
    (h : ∀ a w, Below w0.heap.size w0 w → Facts V a0 a w L → o.wp P a w (fun a' w' => ∃ v, a' = a.put (some d) v ∧ Below w.heap.size w w' ∧ V d v w') Q) : Owes P ops Q V a0 w0 i := by
  intro a w _ _ hb hr
  rw [hL] at hr
  unfold wpOp
  rw [ho]
  simp only [Region.wanted, hg, if_true]
  refine .inl (Oper.wp_mono (fun a' w' hh => ?_) (h a w hb (facts_of hr)))
  obtain ⟨v, rfl, hb', hv⟩ := hh
  refine ⟨v, by rw [Option.bind_some, hd], hb', fun e he => ?_⟩
  have : d = e := by simpa [writes, ho, hd] using he
  subst this
  exact hv

/-- An operation that leaves no value. -/
theorem owes_none {V : Nat → Value → World → Prop} {a0 : Act} {w0 : World} {i : Nat} {o : Oper} {L : List (Nat × Bool)} (ho : ops[i]? = some o) (hg : o.guard = none) (hd : o.dst = none) (hL : reads ops i = L)
    (h : ∀ a w, Below w0.heap.size w0 w → Facts V a0 a w L → o.wp P a w (fun a' w' => ∃ v, a' = a.put none v ∧ Below w.heap.size w w') Q) : Owes P ops Q V a0 w0 i := by
  intro a w _ _ hb hr
  rw [hL] at hr
  unfold wpOp
  rw [ho]
  simp only [Region.wanted, hg, if_true]
  refine .inl (Oper.wp_mono (fun a' w' hh => ?_) (h a w hb (facts_of hr)))
  obtain ⟨v, rfl, hb'⟩ := hh
  exact ⟨v, by rw [Option.bind_some, hd]; rfl, hb', fun e he => by simp [writes, ho, hd] at he⟩
end
end Go.Proofs.YtgmpohdkignadaaGreatDoor.Reg
/-
  The obligations of a region that draws its order: operations under a guard; frames that are written out. No condition.
-/
namespace Go.Proofs.YtgmpohdkignadaaGreatDoor.Reg
open Go.RowKit
set_option linter.unusedVariables false
set_option linter.unusedSimpArgs false

section
variable {P : Program} {ops : Array Oper} {Q : Exit → Act → World → Prop}

theorem wanted_if {o : Oper} {g gd : Nat} {b : Bool} {c : Value} {a : Act} (hg : o.guard = some (g, b)) (hgd : (ops[g]?).bind (·.dst) = some gd) (h : a.tmps[gd]?.getD undef = c) :
    Region.wanted o (yielded ops a.tmps) = true ↔ c = .bool b := by
  have hy : yielded ops a.tmps g = match a.tmps[gd]? with | some (.bool b) => some b | _ => none := by
    simp only [yielded, hgd, Option.bind_some]
    generalize a.tmps[gd]? = z
    cases z with
    | none => rfl
    | some v => cases v <;> rfl
  simp only [Region.wanted, hg, hy]
  subst h
  cases hx : a.tmps[gd]? with
  | none => simp [undef]
  | some v => cases v <;> simp

/-- An operation under a guard that leaves a value. -/
theorem owes_if {V : Nat → Value → World → Prop} {a0 : Act} {w0 : World} {i d g gd : Nat} {b : Bool} {o : Oper} {L : List (Nat × Bool)} (ho : ops[i]? = some o) (hg : o.guard = some (g, b)) (hgd : (ops[g]?).bind (·.dst) = some gd) (hd : o.dst = some d) (hL : reads ops i = L)
    (h : ∀ a w, Below w0.heap.size w0 w → Facts V a0 a w L → ∃ c, a.tmps[gd]?.getD undef = c ∧
      (c = .bool b → o.wp P a w (fun a' w' => ∃ v, a' = a.put (some d) v ∧ Below w.heap.size w w' ∧ V d v w') Q) ∧ (c ≠ .bool b → V d undef w)) : Owes P ops Q V a0 w0 i := by
  intro a w _ _ hb hr
  rw [hL] at hr
  obtain ⟨c, hc, h1, h2⟩ := h a w hb (facts_of hr)
  unfold wpOp
  rw [ho]
  have hw := wanted_if (o := o) hg hgd hc
  have key : ∀ v w', V d v w' → ∀ e, writes ops i e = true → V e v w' := fun v w' hv e he => by
    have : d = e := by simpa [writes, ho, hd] using he
    subst this
    exact hv
  by_cases hcb : c = .bool b
  · simp only [hw.2 hcb, if_true]
    refine .inl (Oper.wp_mono (fun a' w' hh => ?_) (h1 hcb))
    obtain ⟨v, rfl, hb', hv⟩ := hh
    exact ⟨v, by rw [Option.bind_some, hd], hb', key v w' hv⟩
  · have hwf : Region.wanted o (yielded ops a.tmps) = false := by
      cases hx : Region.wanted o (yielded ops a.tmps) with
      | false => rfl
      | true => exact absurd (hw.1 hx) hcb
    simp only [hwf, Bool.false_eq_true, if_false]
    exact ⟨undef, by rw [Option.bind_some], Below.refl _ _, key _ _ (h2 hcb)⟩

/-- An operation under a guard that leaves no value. -/
theorem owes_if_none {V : Nat → Value → World → Prop} {a0 : Act} {w0 : World} {i g gd : Nat} {b : Bool} {o : Oper} {L : List (Nat × Bool)} (ho : ops[i]? = some o) (hg : o.guard = some (g, b)) (hgd : (ops[g]?).bind (·.dst) = some gd) (hd : o.dst = none) (hL : reads ops i = L)
    (h : ∀ a w, Below w0.heap.size w0 w → Facts V a0 a w L → ∃ c, a.tmps[gd]?.getD undef = c ∧
      (c = .bool b → o.wp P a w (fun a' w' => ∃ v, a' = a.put none v ∧ Below w.heap.size w w') Q)) : Owes P ops Q V a0 w0 i := by
  intro a w _ _ hb hr
  rw [hL] at hr
  obtain ⟨c, hc, h1⟩ := h a w hb (facts_of hr)
  unfold wpOp
  rw [ho]
  have hw := wanted_if (o := o) hg hgd hc
  have key : ∀ e, writes ops i e = true → False := fun e he => by simp [writes, ho, hd] at he
  by_cases hcb : c = .bool b
  · simp only [hw.2 hcb, if_true]
    refine .inl (Oper.wp_mono (fun a' w' hh => ?_) (h1 hcb))
    obtain ⟨v, rfl, hb'⟩ := hh
    exact ⟨v, by rw [Option.bind_some, hd]; rfl, hb', fun e he => (key e he).elim⟩
  · have hwf : Region.wanted o (yielded ops a.tmps) = false := by
      cases hx : Region.wanted o (yielded ops a.tmps) with
      | false => rfl
      | true => exact absurd (hw.1 hx) hcb
    simp only [hwf, Bool.false_eq_true, if_false]
    exact ⟨undef, by rw [Option.bind_some], Below.refl _ _, fun e he => (key e he).elim⟩
end

/-- A slot of a frame that is written out is put. -/
theorem put_lit (l : List Value) (df : List Deferred) (d : Nat) (v : Value) : ({ tmps := l.toArray, defers := df } : Act).put (some d) v = { tmps := (l.set d v).toArray, defers := df } := by
  simp [Act.put]
end Go.Proofs.YtgmpohdkignadaaGreatDoor.Reg
