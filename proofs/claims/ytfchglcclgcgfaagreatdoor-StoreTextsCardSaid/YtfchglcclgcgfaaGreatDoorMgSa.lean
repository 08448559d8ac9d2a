/-
  What the proof of the laws S rests on: the texts Base ShelfL UtA WiA WiB. Conditions: each theorem names its own.
-/
import Derived.Test.YtfchglcclgcgfaaGreatDoorRows
import Derived.WalkKit
import Derived.ProofKit
import Derived.OpenShut
import Derived.Below
import Derived.LoopTactic
import Derived.Outline
import Derived.Lib.Hide
import Derived.Handy
import Derived.IntWalk
import Derived.Deep.QuietTactic
import Derived.BigQuiet
import Derived.Deep.RegionHeld3
import Derived.Deep.RegionLaw
import Derived.Deep.RegionWith
import Derived.Deep.DeepFit
import Derived.Deep.LoopGhost
import Derived.StillTailTactics
import Derived.Maps.OwnSet
import Derived.WalkSpells
import Derived.WalkLawsBesides
import Derived.Shelf.Strings.Builder1
import Derived.Shelf.Strings.BuilderF
import Derived.Shelf.Strings.BuilderK
import Derived.Shelf.Utf8.RuneCount
import Derived.Shelf.Strings.Search1
import Derived.Shelf.Strings.Search2
import Derived.Shelf.Strings.Search3
import Derived.Shelf.Strings.Count
import Derived.Shelf.LaysM
import Derived.Shelf.Strings.Shaped
import Derived.Shelf.Strings.Prefix
import Derived.Shelf.Strings.Split
import Derived.Shelf.Unicode.Decode
import Derived.Shelf.Strings.RuneCount
import Derived.Shelf.Unicode.DecodeSlow
import Derived.Shelf.Unicode.DecodeAny
import Derived.Shelf.Strings.BuilderCap
import Derived.Test.YtfchglcclgcgfaaGreatDoorProg
import Derived.Shelf.Unicode.DecodeLastEight
/-
 General words for the walks of this seat: what a call may change (Chg), and small helpers. No condition.
-/
namespace Go.Proofs.YtfchglcclgcgfaaGreatDoor
open Go.RowKit
set_option linter.unusedVariables false
set_option linter.unusedSimpArgs false

/-- What a call may change of what lay before it: the blocks in S, nothing else. -/
structure Chg (S : Nat → Prop) (w w' : World) : Prop where
 os : w'.os = w.os
 tape : w'.tape = w.tape
 output : w'.output = w.output
 size : w.heap.size ≤ w'.heap.size
 block : ∀ k, k < w.heap.size → ¬ S k → w'.heap[k]? = w.heap[k]?

namespace Chg
variable {S T : Nat → Prop} {w w1 w2 : World}
theorem refl (S : Nat → Prop) (w : World) : Chg S w w := ⟨rfl, rfl, rfl, Nat.le_refl _, fun _ _ _ => rfl⟩
theorem trans (h : Chg S w w1) (k : Chg T w1 w2) (hT : ∀ x, x < w.heap.size → T x → S x) : Chg S w w2 :=
 ⟨k.os.trans h.os, k.tape.trans h.tape, k.output.trans h.output, Nat.le_trans h.size k.size, fun x hx hn => (k.block x (Nat.lt_of_lt_of_le hx h.size) (fun ht => hn (hT x hx ht))).trans (h.block x hx hn)⟩
theorem mono (h : Chg S w w1) (hT : ∀ x, S x → T x) : Chg T w w1 := ⟨h.os, h.tape, h.output, h.size, fun x hx hn => h.block x hx (fun hs => hn (hT x hs))⟩
theorem of_below (h : Below w.heap.size w w1) : Chg S w w1 := ⟨h.os, h.tape, h.output, h.size, fun x hx _ => h.block x hx⟩
theorem below (h : Chg (fun _ => False) w w1) : Below w.heap.size w w1 := ⟨h.os, h.tape, h.output, h.size, fun x hx => h.block x hx (fun f => f)⟩
theorem below_le {B : Nat} (h : Chg S w w1) (hB : B ≤ w.heap.size) (hS : ∀ x, S x → B ≤ x) : Below B w w1 := ⟨h.os, h.tape, h.output, h.size, fun x hx => h.block x (Nat.lt_of_lt_of_le hx hB) (fun hs => by have := hS x hs; omega)⟩
theorem then_below (h : Chg S w w1) (k : Below w1.heap.size w1 w2) : Chg S w w2 := h.trans (of_below (S := fun _ => False) k) (fun _ _ f => f.elim)
theorem of_grown {row : Option Nat} (h : w.grownBy w1 row) : Chg (fun k => some k = row) w w1 := ⟨h.os, h.tape, h.output, h.size, fun x hx hn => h.block x hx hn⟩
theorem set (w : World) (p : Addr) (u : Value) : Chg (fun k => k = p.block) w (w.setCell p u) := ⟨rfl, rfl, rfl, by simp [World.setCell], fun k _ hn => Below.heap_setCell w p u k hn⟩
theorem alloc (w : World) (o : Obj) : Chg S w (w.alloc o) := of_below ((Below.refl _ w).alloc (Nat.le_refl _) o)
theorem cell (h : Chg S w w1) {p : Addr} (hp : p.block < w.heap.size) (hS : ¬ S p.block) : w1.cell? p = w.cell? p := World.cell?_of_block (w := w) (h.block p.block hp hS)
theorem frozen (h : Chg S w w1) {p : Addr} (hp : p.block < w.heap.size) (hS : ¬ S p.block) : w1.frozen? p = w.frozen? p := World.frozen?_of_block (w := w) (h.block p.block hp hS)
end Chg

end Go.Proofs.YtfchglcclgcgfaaGreatDoor
/-
 The library's contracts that this program needs, laid at it (the kit's lay-shelf.mjs and lay-plain.mjs printed them at one seat; here by names). Condition: the tables of unicode/utf8, where a character is decoded.
-/
namespace Go.Proofs
open Go.Shelf
def Tryz.lays169_ren : Go.Shelf.Ren := ⟨fun | 169 => 253 | n => n, fun | 70 => 247 | 9 => 9 | 0 => 0 | 72 => 249 | 37 => 74 | 127 => 234 | 3 => 3 | 5 => 5 | n => n, fun | n => n⟩
theorem Tryz.lays169 : Go.Proofs.Lays.n169 Tryz.prog Tryz.lays169_ren := {
 mixed := by kernel_rfl
 f169 := Tryz.func253.trans (congrArg some (by kernel_rfl))
 t0 := Tryz.underlying0
 a0 := Tryz.isAgg0
 z0 := Tryz.sizeOf0
 v0 := Tryz.zeroValue0
 t3 := Tryz.underlying3
 a3 := Tryz.isAgg3
 z3 := Tryz.sizeOf3
 v3 := Tryz.zeroValue3
 t9 := Tryz.underlying9
 a9 := Tryz.isAgg9
 z9 := Tryz.sizeOf9
 v9 := Tryz.zeroValue9
 t37 := Tryz.underlying74
 a37 := Tryz.isAgg74
 z37 := Tryz.sizeOf74
 v37 := Tryz.zeroValue74
 t70 := Tryz.underlying247
 a70 := Tryz.isAgg247
 z70 := Tryz.sizeOf247
 v70 := Tryz.zeroValue247
 t72 := Tryz.underlying249
 a72 := Tryz.isAgg249
 z72 := Tryz.sizeOf249
 v72 := Tryz.zeroValue249
 t127 := Tryz.underlying234
 a127 := Tryz.isAgg234
 z127 := Tryz.sizeOf234
 v127 := Tryz.zeroValue234 }
theorem Tryz.Builder_Extra_169 : Builder.Extra Tryz.prog Tryz.lays169_ren := {
 sizeBuilder := by kernel_rfl
 liesBuilder := by kernel_rfl
 t5 := Tryz.underlying5
 a5 := Tryz.isAgg5
 z5 := Tryz.sizeOf5
 v5 := Tryz.zeroValue5
 infoByte := by kernel_rfl
 cellsByte := by kernel_rfl
 sizeByte := by kernel_rfl
 neB5 := by decide }
def Tryz.lays195_ren : Go.Shelf.Ren := ⟨fun | 195 => 203 | n => n, fun | 9 => 9 | 3 => 3 | 0 => 0 | 4 => 4 | n => n, fun | n => n⟩
theorem Tryz.lays195 : Go.Proofs.Lays.n195 Tryz.prog Tryz.lays195_ren := {
 mixed := by kernel_rfl
 f195 := Tryz.func203.trans (congrArg some (by kernel_rfl))
 t0 := Tryz.underlying0
 a0 := Tryz.isAgg0
 z0 := Tryz.sizeOf0
 v0 := Tryz.zeroValue0
 t3 := Tryz.underlying3
 a3 := Tryz.isAgg3
 z3 := Tryz.sizeOf3
 v3 := Tryz.zeroValue3
 t4 := Tryz.underlying4
 a4 := Tryz.isAgg4
 z4 := Tryz.sizeOf4
 v4 := Tryz.zeroValue4
 t9 := Tryz.underlying9
 a9 := Tryz.isAgg9
 z9 := Tryz.sizeOf9
 v9 := Tryz.zeroValue9 }
def Tryz.lays138_ren : Go.Shelf.Ren := ⟨fun | 138 => 197 | 195 => 203 | 218 => 204 | 143 => 205 | 219 => 207 | 217 => 208 | 225 => 209 | 224 => 210 | 267 => 211 | 266 => 212 | 314 => 213 | n => n, fun | 9 => 9 | 3 => 3 | 4 => 4 | 5 => 5 | 0 => 0 | 46 => 213 | 146 => 224 | 51 => 223 | n => n, fun | 1 => 2 | n => n⟩
theorem Tryz.lays138 : Go.Proofs.Lays.n138 Tryz.prog Tryz.lays138_ren := {
 mixed := by kernel_rfl
 f138 := Tryz.func197.trans (congrArg some (by kernel_rfl))
 f143 := Tryz.func205.trans (congrArg some (by kernel_rfl))
 f195 := Tryz.func203.trans (congrArg some (by kernel_rfl))
 f217 := Tryz.func208.trans (congrArg some (by kernel_rfl))
 f218 := Tryz.func204.trans (congrArg some (by kernel_rfl))
 f219 := Tryz.func207.trans (congrArg some (by kernel_rfl))
 f224 := Tryz.func210.trans (congrArg some (by kernel_rfl))
 f225 := Tryz.func209.trans (congrArg some (by kernel_rfl))
 f266 := Tryz.func212.trans (congrArg some (by kernel_rfl))
 f267 := Tryz.func211.trans (congrArg some (by kernel_rfl))
 f314 := Tryz.func213.trans (congrArg some (by kernel_rfl))
 t0 := Tryz.underlying0
 a0 := Tryz.isAgg0
 z0 := Tryz.sizeOf0
 v0 := Tryz.zeroValue0
 t3 := Tryz.underlying3
 a3 := Tryz.isAgg3
 z3 := Tryz.sizeOf3
 v3 := Tryz.zeroValue3
 t4 := Tryz.underlying4
 a4 := Tryz.isAgg4
 z4 := Tryz.sizeOf4
 v4 := Tryz.zeroValue4
 t5 := Tryz.underlying5
 a5 := Tryz.isAgg5
 z5 := Tryz.sizeOf5
 v5 := Tryz.zeroValue5
 t9 := Tryz.underlying9
 a9 := Tryz.isAgg9
 z9 := Tryz.sizeOf9
 v9 := Tryz.zeroValue9
 t46 := Tryz.underlying213
 a46 := Tryz.isAgg213
 z46 := Tryz.sizeOf213
 v46 := Tryz.zeroValue213
 t51 := Tryz.underlying223
 a51 := Tryz.isAgg223
 z51 := Tryz.sizeOf223
 v51 := Tryz.zeroValue223
 t146 := Tryz.underlying224
 a146 := Tryz.isAgg224
 z146 := Tryz.sizeOf224
 v146 := Tryz.zeroValue224
 g1 := by kernel_rfl }
def Tryz.lays99_ren : Go.Shelf.Ren := ⟨fun | 99 => 158 | 206 => 182 | n => n, fun | 9 => 9 | 4 => 4 | 3 => 3 | n => n, fun | n => n⟩
theorem Tryz.lays99 : Go.Proofs.Lays.n99 Tryz.prog Tryz.lays99_ren := {
 mixed := by kernel_rfl
 f99 := Tryz.func158.trans (congrArg some (by kernel_rfl))
 f206 := Tryz.func182.trans (congrArg some (by kernel_rfl))
 t3 := Tryz.underlying3
 a3 := Tryz.isAgg3
 z3 := Tryz.sizeOf3
 v3 := Tryz.zeroValue3
 t4 := Tryz.underlying4
 a4 := Tryz.isAgg4
 z4 := Tryz.sizeOf4
 v4 := Tryz.zeroValue4
 t9 := Tryz.underlying9
 a9 := Tryz.isAgg9
 z9 := Tryz.sizeOf9
 v9 := Tryz.zeroValue9 }
def Tryz.lays197_ren : Go.Shelf.Ren := ⟨fun | 197 => 152 | 260 => 178 | n => n, fun | 9 => 9 | 21 => 21 | 3 => 3 | 4 => 4 | 5 => 5 | 105 => 181 | 119 => 212 | 0 => 0 | 46 => 213 | 139 => 216 | 138 => 215 | n => n, fun | 3 => 0 | 4 => 1 | n => n⟩
theorem Tryz.lays197 : Go.Proofs.Lays.n197 Tryz.prog Tryz.lays197_ren := {
 mixed := by kernel_rfl
 f197 := Tryz.func152.trans (congrArg some (by kernel_rfl))
 f260 := Tryz.func178.trans (congrArg some (by kernel_rfl))
 t0 := Tryz.underlying0
 a0 := Tryz.isAgg0
 z0 := Tryz.sizeOf0
 v0 := Tryz.zeroValue0
 t3 := Tryz.underlying3
 a3 := Tryz.isAgg3
 z3 := Tryz.sizeOf3
 v3 := Tryz.zeroValue3
 t4 := Tryz.underlying4
 a4 := Tryz.isAgg4
 z4 := Tryz.sizeOf4
 v4 := Tryz.zeroValue4
 t5 := Tryz.underlying5
 a5 := Tryz.isAgg5
 z5 := Tryz.sizeOf5
 v5 := Tryz.zeroValue5
 t9 := Tryz.underlying9
 a9 := Tryz.isAgg9
 z9 := Tryz.sizeOf9
 v9 := Tryz.zeroValue9
 t21 := Tryz.underlying21
 a21 := Tryz.isAgg21
 z21 := Tryz.sizeOf21
 v21 := Tryz.zeroValue21
 t46 := Tryz.underlying213
 a46 := Tryz.isAgg213
 z46 := Tryz.sizeOf213
 v46 := Tryz.zeroValue213
 t105 := Tryz.underlying181
 a105 := Tryz.isAgg181
 z105 := Tryz.sizeOf181
 v105 := Tryz.zeroValue181
 t119 := Tryz.underlying212
 a119 := Tryz.isAgg212
 z119 := Tryz.sizeOf212
 t138 := Tryz.underlying215
 a138 := Tryz.isAgg215
 z138 := Tryz.sizeOf215
 v138 := Tryz.zeroValue215
 t139 := Tryz.underlying216
 a139 := Tryz.isAgg216
 z139 := Tryz.sizeOf216
 v139 := Tryz.zeroValue216
 g3 := by kernel_rfl
 g4 := by kernel_rfl }
open Go.RowKit Go.Lib in
theorem Tryz.Builder_String_any (B b : Nat) (l : List UInt8) (w : World) (h : Lib.IsBuilder 249 5 B b (Lib.byteCells l) w) (hBw : B ≤ w.heap.size) :
  Calls Tryz.prog 253 #[.pointer (some ⟨b, 0, none⟩)] w fun e w' => e = .returned (.string ⟨l.toArray⟩) ∧ Below B w w' := Any.Builder_String_any Tryz.lays169 Tryz.Builder_Extra_169 B b l w h hBw
open Go.RowKit Go.Lib in
theorem Tryz.utf8_RuneCountInString (s : ByteArray) (w : World) (hs : s.size < 9223372036854775807) :
  Calls Tryz.prog 203 #[.string s] w fun e w' => e = .returned (.int .i64 (Lib.runeCount s)) ∧ ∃ pos, w' = w.iter s pos := Any.utf8_RuneCountInString Tryz.lays195 s w hs
open Go.RowKit Go.Lib in
theorem Tryz.strings_Count_one (s : ByteArray) (c : UInt8) (w : World) :
  Calls Tryz.prog 197 #[.string s, .string ⟨#[c]⟩] w fun e w' => e = .returned (.int .i64 (Lib.countByte s.data.toList c)) ∧ w' = w := Any.strings_Count_one Tryz.lays138 s c w
open Go.RowKit Go.Lib in
theorem Tryz.strings_HasPrefix (s p : ByteArray) (w : World) :
  Calls Tryz.prog 158 #[.string s, .string p] w fun e w' => e = .returned (.bool (Lib.hasPrefix s.data.toList p.data.toList)) ∧ w' = w := Any.strings_HasPrefix Tryz.lays99 s p w
open Go.RowKit Go.Lib in
theorem Tryz.utf8_DecodeRuneInString (s : ByteArray) (w : World) (hT : Lib.Utf8Tabs 0 1 w) :
  Calls Tryz.prog 152 #[.string s] w fun e w' => e = .returned (.tuple #[.int .i32 (Lib.decodeGo s).1, .int .i64 (Lib.decodeGo s).2]) ∧ Below w.heap.size w w' := Any.utf8_DecodeRuneInString Tryz.lays197 s w hT
end Go.Proofs
/-
 Package unit: what first, around, Boundary, At, Down, Prev, Next answer. Condition: the two tables of unicode/utf8 lie as laid.
-/
namespace Go.Proofs.YtfchglcclgcgfaaGreatDoor.Ut
open Go.RowKit
set_option linter.unusedVariables false
set_option linter.unusedSimpArgs false

/-- The two tables lie. -/
abbrev Tabs (w : World) : Prop := Lib.Utf8Tabs 0 1 w
theorem tabs_below {w w' : World} (h : Tabs w) (hb : Below w.heap.size w w') : Tabs w' := Go.Proofs.Utf8Tabs_below h hb

def ch (s : ByteArray) : Int := if (Lib.decodeGo s).1 = 65533 ∧ (Lib.decodeGo s).2 = 1 then -1 else (Lib.decodeGo s).1
def sz (s : ByteArray) : Nat := (Lib.decodeGo s).2
def from_ (s : ByteArray) (i : Nat) : ByteArray := s.extract i s.size
theorem from_size (s : ByteArray) (i : Nat) : (from_ s i).size = s.size - i := by unfold from_; simp [ByteArray.size_extract]
theorem sz_le (s : ByteArray) : sz s ≤ s.size := Lib.decodeGo_le_size s
theorem sz_le4 (s : ByteArray) : sz s ≤ 4 := Lib.decodeGo_le4 s
theorem sz_pos (s : ByteArray) (h : 0 < s.size) : 1 ≤ sz s := by
 unfold sz Lib.decodeGo
 rw [if_neg (by omega)]
 exact Lib.decode_width_pos s 0 h

theorem unit_box {w w1 : World} {x y : Value} {t : TypeId} (hb : Below (w.alloc (.cells #[x, y] t)).heap.size (w.alloc (.cells #[x, y] t)) w1) :
  w1.cell? ⟨w.heap.size, 0, none⟩ = some x ∧ w1.cell? ⟨w.heap.size, 1, none⟩ = some y ∧ w1.frozen? ⟨w.heap.size, 0, none⟩ = false ∧ w1.frozen? ⟨w.heap.size, 1, none⟩ = false ∧ Below w.heap.size w w1 :=
 ⟨(hb.cell (by simp)).trans (by simp), (hb.cell (by simp)).trans (by simp), (hb.frozen (by simp)).trans (by simp), (hb.frozen (by simp)).trans (by simp), ((Below.refl _ _).alloc (Nat.le_refl _) _).trans (hb.mono (by simp))⟩

theorem two_set {w : World} {g : Nat} {x y : Value} (a b : Value) (h0 : w.cell? ⟨g, 0, none⟩ = some x) (h1 : w.cell? ⟨g, 1, none⟩ = some y) :
  ((w.setCell ⟨g, 0, none⟩ a).setCell ⟨g, 1, none⟩ b).cell? ⟨g, 0, none⟩ = some a ∧ ((w.setCell ⟨g, 0, none⟩ a).setCell ⟨g, 1, none⟩ b).cell? ⟨g, 1, none⟩ = some b := by
 have hne : (⟨g, 0, none⟩ : Addr) ≠ ⟨g, 1, none⟩ := by simp
 have e1 : (w.setCell ⟨g, 0, none⟩ a).cell? ⟨g, 1, none⟩ = some y := (World.cell?_setCell_other _ _ _ _ hne).trans h1
 exact ⟨(World.cell?_setCell_other _ _ _ _ hne.symm).trans (World.cell?_setCell_same _ _ _ h0), World.cell?_setCell_same _ _ _ e1⟩

theorem first_any (s : ByteArray) (w : World) (hT : Tabs w) :
  Calls Tryz.prog 122 #[.string s] w fun e w' => e = .returned (.agg #[.int .i32 (ch s), .int .i64 (sz s)]) ∧ Below w.heap.size w w' := by
 have HT := Lib.hid hT
 clear hT
 obtain ⟨C, hC⟩ : ∃ C, ch s = C := ⟨_, rfl⟩
 obtain ⟨K, hK⟩ : ∃ K, sz s = K := ⟨_, rfl⟩
 rw [hC, hK]
 have HC := Lib.hid hC
 have HK := Lib.hid hK
 have hKK : Hid ((Lib.decodeGo s).2 = K) := hK
 clear hC hK
 by_cases h : (Lib.decodeGo s).1 = 65533 ∧ (Lib.decodeGo s).2 = 1
 ·have e1 : C = -1 := by rw [← HC.out]; unfold ch; rw [if_pos h]
  have e2 : K = 1 := by rw [← hKK.out]; exact h.2
  have H := Lib.hid h
  subst e1 e2
  clear h
  go_enter Tryz.func122, Tryz.ntmps122
  go_wp2_with (go_at_call 152; refine (Tryz.utf8_DecodeRuneInString s _ (tabs_below HT.out ((Below.refl _ _).alloc (Nat.le_refl _) _))).mono ?_; rintro e w1 ⟨rfl, hb⟩; obtain ⟨b0, b1, f0, f1, hbw⟩ := unit_box hb; have HB := Lib.hid hbw; clear hb hbw; rw [H.out.1, H.out.2])
  obtain ⟨k0, k1⟩ := two_set (.int .i32 (-1)) (.int .i64 1) b0 b1; refine bodyPost_ret (v := .agg #[.int .i32 (-1), .int .i64 1]) (by simp [results, Tryz.results122, go_sem, k0, k1]) rfl ⟨rfl, ?_⟩
  exact ((Chg.of_below HB.out).trans (Chg.set w1 ⟨w.heap.size, 0, none⟩ _) (T := fun k => k = w.heap.size) (fun x _ h => h)).trans (Chg.set _ ⟨w.heap.size, 1, none⟩ _) (T := fun k => k = w.heap.size) (fun x _ h => h) |>.below_le (Nat.le_refl _) (fun x hx => by rw [hx]; exact Nat.le_refl _)
 ·have e1 : ((Lib.decodeGo s).1 : Int) = C := by rw [← HC.out]; unfold ch; rw [if_neg h]
  have hq : (((C == 65533) : Bool) = true → ((K : Int) == 1) = false) := by
   intro hc
   rw [beq_eq_false_iff_ne]
   have : C = 65533 := by simpa using hc
   intro hk
   exact h ⟨by omega, by rw [hKK.out]; omega⟩
  have H := Lib.hid e1
  clear h e1
  cases hc : (C == 65533) with
  | true =>
   have hk := hq hc
   obtain rfl : C = 65533 := by simpa using hc
   clear hq hc
   go_enter Tryz.func122, Tryz.ntmps122
   go_wp2_with (go_at_call 152; refine (Tryz.utf8_DecodeRuneInString s _ (tabs_below HT.out ((Below.refl _ _).alloc (Nat.le_refl _) _))).mono ?_; rintro e w1 ⟨rfl, hb⟩; obtain ⟨b0, b1, f0, f1, hbw⟩ := unit_box hb; have HB := Lib.hid hbw; clear hb hbw; rw [H.out, hKK.out])
   obtain ⟨k0, k1⟩ := two_set (.int .i32 65533) (.int .i64 K) b0 b1; refine bodyPost_ret (v := .agg #[.int .i32 65533, .int .i64 K]) (by simp [results, Tryz.results122, go_sem, k0, k1]) rfl ⟨rfl, ?_⟩
   exact ((Chg.of_below HB.out).trans (Chg.set w1 ⟨w.heap.size, 0, none⟩ _) (T := fun k => k = w.heap.size) (fun x _ h => h)).trans (Chg.set _ ⟨w.heap.size, 1, none⟩ _) (T := fun k => k = w.heap.size) (fun x _ h => h) |>.below_le (Nat.le_refl _) (fun x hx => by rw [hx]; exact Nat.le_refl _)
  | false =>
   clear hq
   go_enter Tryz.func122, Tryz.ntmps122
   go_wp2_with (go_at_call 152; refine (Tryz.utf8_DecodeRuneInString s _ (tabs_below HT.out ((Below.refl _ _).alloc (Nat.le_refl _) _))).mono ?_; rintro e w1 ⟨rfl, hb⟩; obtain ⟨b0, b1, f0, f1, hbw⟩ := unit_box hb; have HB := Lib.hid hbw; clear hb hbw; rw [H.out, hKK.out])
   obtain ⟨k0, k1⟩ := two_set (.int .i32 C) (.int .i64 K) b0 b1; refine bodyPost_ret (v := .agg #[.int .i32 C, .int .i64 K]) (by simp [results, Tryz.results122, go_sem, k0, k1]) rfl ⟨rfl, ?_⟩
   exact ((Chg.of_below HB.out).trans (Chg.set w1 ⟨w.heap.size, 0, none⟩ _) (T := fun k => k = w.heap.size) (fun x _ h => h)).trans (Chg.set _ ⟨w.heap.size, 1, none⟩ _) (T := fun k => k = w.heap.size) (fun x _ h => h) |>.below_le (Nat.le_refl _) (fun x hx => by rw [hx]; exact Nat.le_refl _)

/-- Where the unit begins and ends that begins at j. -/
def up (s : ByteArray) (j : Nat) : Nat := j + sz (from_ s j)
/-- The unit around i, looked for from j on, f steps. -/
def arFrom (s : ByteArray) (i : Nat) : Nat → Nat → Nat × Nat
 | 0, _ => if i = s.size then (i, i) else (i, up s i)
 | f + 1, j => if i < up s j then (j, up s j) else arFrom s i f (j + 1)
def aroundF (s : ByteArray) (i : Nat) : Nat × Nat := arFrom s i (i - (i - 3)) (i - 3)
theorem up_le {s : ByteArray} {j : Nat} (h : j ≤ s.size) : up s j ≤ s.size := by
 have := sz_le (from_ s j)
 rw [from_size] at this
 unfold up; omega
theorem up_gt {s : ByteArray} {j : Nat} (h : j < s.size) : j < up s j := by
 have := sz_pos (from_ s j) (by rw [from_size]; omega)
 unfold up; omega

theorem field_unit (w : World) (a b : Int) : (Instr.field 137 (.agg #[.int .i32 a, .int .i64 b]) 1).run Tryz.prog w = .ok (.int .i64 b) w := by kernel_rfl

set_option maxRecDepth 100000 in
theorem around_any (s : ByteArray) (i : Nat) (w : World) (hT : Tabs w) (hs : s.size ≤ 140737488355328) (hi : i ≤ s.size) :
  Calls Tryz.prog 121 #[.string s, .int .i64 i] w fun e w' => e = .returned (.tuple #[.int .i64 (aroundF s i).1, .int .i64 (aroundF s i).2]) ∧ Below w.heap.size w w' := by
 have HT := Lib.hid hT
 obtain ⟨p, hp⟩ : ∃ p, aroundF s i = p := ⟨_, rfl⟩
 have HP := Lib.hid hp
 rw [hp]
 have hfl := field_unit
 have hmx : max (0 : Int) ((i : Int) - 3) = ((i - 3 : Nat) : Int) := by omega
 have hsub : IntKind.i64.wrap ((i : Int) - 3) = (i : Int) - 3 := IntWalk.i64_in _ (by omega)
 clear hT hp
 go_enter Tryz.func121, Tryz.ntmps121
 go_wp2
 go_loopw [6] (fun v wr => ∃ j : Nat, i - 3 ≤ j ∧ j ≤ i ∧ v = .int .i64 j ∧ Hid (arFrom s i (i - j) j = p) ∧ Below w.heap.size w wr) (fun v _ => i - (intOf v).toNat)
 case atStart => exact ⟨i - 3, Nat.le_refl _, by omega, rfl, HP.out, Below.refl _ _⟩
 case round =>
  obtain ⟨j, hj0, hj, rfl, HA, hb⟩ := hrel
  have HB := Lib.hid hb
  clear hb
  by_cases hlt : j < i
  ·have hst : arFrom s i (i - j) j = if i < up s j then (j, up s j) else arFrom s i (i - (j + 1)) (j + 1) := by
    rw [show i - j = (i - (j + 1)) + 1 by omega]; rfl
   have HSt := Lib.hid hst
   have hup : up s j ≤ s.size := up_le (by omega)
   have hjs : (j : Int) ≤ (s.size : Int) := by omega
   have hex : s.extract j s.size = from_ s j := rfl
   have HUp : Hid (up s j = j + sz (from_ s j)) := rfl
   clear hst
   go_wp2_with fail
   refine (first_any (from_ s j) wr (tabs_below HT.out HB.out)).mono ?_
   rintro e w1 ⟨rfl, hb1⟩
   have HB1 := Lib.hid (HB.out.trans (hb1.mono HB.out.size))
   clear hb1
   have hle := sz_le (from_ s j)
   rw [from_size] at hle
   generalize sz (from_ s j) = K at *
   generalize ch (from_ s j) = C at *
   by_cases hgt : i < up s j
   ·have hgt2 : (i : Int) < (j : Int) + (K : Int) := by rw [HUp.out] at hgt; omega
    have hp : p = (j, j + K) := by rw [← HA.out, HSt.out, if_pos hgt, HUp.out]
    subst hp
    clear HP HA HSt
    go_wp2
    go_quiet (fail)
    go_wp2
    go_ret2
    refine ⟨?_, (HB1.out.alloc HB1.out.size _).trans ⟨rfl, rfl, rfl, Nat.le_refl _, fun _ _ => rfl⟩⟩
    simp
   ·have hgt2 : ¬ (i : Int) < (j : Int) + (K : Int) := by rw [HUp.out] at hgt; omega
    have hnx : arFrom s i (i - (j + 1)) (j + 1) = p := by rw [← HA.out, HSt.out, if_neg hgt]
    have HNx := Lib.hid hnx
    clear hnx
    go_wp2
    go_roundw
    case rel => exact ⟨j + 1, by omega, by omega, by go_num, HNx.out, HB1.out.alloc HB1.out.size _⟩
    case measure => simp [intOf]; omega
  ·obtain rfl : j = i := by omega
   rw [Nat.sub_self] at HA
   have hA2 : (if j = s.size then (j, j) else (j, up s j)) = p := HA.out
   by_cases he : j = s.size
   ·have hp : p = (j, j) := by rw [← hA2, if_pos he]
    subst hp
    have hq : ((j : Int) == (s.size : Int)) = true := by rw [beq_iff_eq]; omega
    clear HP HA hA2
    go_wp2
    go_ret2
    exact ⟨rfl, HB.out⟩
   ·have hp : p = (j, up s j) := by rw [← hA2, if_neg he]
    have hq : ((j : Int) == (s.size : Int)) = false := by rw [beq_eq_false_iff_ne]; omega
    subst hp
    have hup : up s j ≤ s.size := up_le (by omega)
    have hex : s.extract j s.size = from_ s j := rfl
    have HUp : Hid (up s j = j + sz (from_ s j)) := rfl
    clear HP HA hA2
    go_wp2_with fail
    refine (first_any (from_ s j) wr (tabs_below HT.out HB.out)).mono ?_
    rintro e w1 ⟨rfl, hb1⟩
    have HB1 := Lib.hid (HB.out.trans (hb1.mono HB.out.size))
    clear hb1
    have hle := sz_le (from_ s j)
    rw [from_size] at hle
    generalize sz (from_ s j) = K at *
    generalize ch (from_ s j) = C at *
    go_wp2
    go_ret2
    refine ⟨?_, HB1.out⟩
    rw [HUp.out]
    simp

theorem around_low {s : ByteArray} {i : Nat} (h : i ≤ s.size) : ∀ f j, j + f = i → (arFrom s i f j).1 ≤ i ∧ i ≤ (arFrom s i f j).2 ∧ (arFrom s i f j).2 ≤ s.size ∧ (i < s.size → i < (arFrom s i f j).2)
 | 0, j, _ => by
  unfold arFrom
  split
  ·simp; omega
  ·have := up_le h
   have := up_gt (s := s) (j := i) (by omega)
   simp; omega
 | f + 1, j, hj => by
  unfold arFrom
  split
  ·have := up_le (s := s) (j := j) (by omega)
   simp; omega
  ·exact around_low h f (j + 1) (by omega)
theorem around_ok {s : ByteArray} {i : Nat} (h : i ≤ s.size) : (aroundF s i).1 ≤ i ∧ i ≤ (aroundF s i).2 ∧ (aroundF s i).2 ≤ s.size ∧ (i < s.size → i < (aroundF s i).2) := around_low h _ _ (by omega)

def boundF (s : ByteArray) (i : Nat) : Bool := decide ((aroundF s i).1 = i)
def downF (s : ByteArray) (i : Nat) : Nat := (aroundF s i).1
def nextU (s : ByteArray) (i : Nat) : Nat := (aroundF s i).2
def prevU (s : ByteArray) (i : Nat) : Nat := downF s (i - 1)

set_option maxRecDepth 100000 in
theorem Boundary_any (s : ByteArray) (i : Nat) (w : World) (hT : Tabs w) (hs : s.size ≤ 140737488355328) (hi : i ≤ s.size) :
  Calls Tryz.prog 96 #[.string s, .int .i64 i] w fun e w' => e = .returned (.bool (boundF s i)) ∧ Below w.heap.size w w' := by
 have HA := Lib.hid (around_any s i w hT hs hi)
 have hi0 : ¬ (i : Int) < 0 := by omega
 have hi1 : ¬ (s.size : Int) < (i : Int) := by omega
 unfold boundF
 generalize aroundF s i = p at *
 obtain ⟨p1, p2⟩ := p
 clear hT
 go_enter Tryz.func96, Tryz.ntmps96
 go_wp2_with (go_at_call 121; refine HA.out.mono ?_; rintro e w1 ⟨rfl, hb⟩; have HB := Lib.hid hb; clear hb)
 go_ret
 refine ⟨?_, HB.out⟩
 refine congrArg (fun b => Ending.returned (.bool b)) ?_
 rw [Bool.eq_iff_iff]
 simp only [beq_iff_eq, decide_eq_true_eq]
 omega

set_option maxRecDepth 100000 in
theorem Down_any (s : ByteArray) (i : Nat) (w : World) (hT : Tabs w) (hs : s.size ≤ 140737488355328) (hi : i ≤ s.size) :
  Calls Tryz.prog 123 #[.string s, .int .i64 i] w fun e w' => e = .returned (.int .i64 (downF s i)) ∧ Below w.heap.size w w' := by
 have HA := Lib.hid (around_any s i w hT hs hi)
 have hmx : max (i : Int) 0 = (i : Int) := by omega
 have hmn : min (i : Int) (s.size : Int) = (i : Int) := by omega
 unfold downF
 generalize aroundF s i = p at *
 obtain ⟨p1, p2⟩ := p
 clear hT
 go_enter Tryz.func123, Tryz.ntmps123
 go_wp2_with (go_at_call 121; refine HA.out.mono ?_; rintro e w1 ⟨rfl, hb⟩; have HB := Lib.hid hb; clear hb)
 go_ret
 exact ⟨rfl, HB.out⟩

set_option maxRecDepth 100000 in
theorem NextU_any (s : ByteArray) (i : Nat) (w : World) (hT : Tabs w) (hs : s.size ≤ 140737488355328) (hi : i ≤ s.size) :
  Calls Tryz.prog 105 #[.string s, .int .i64 i] w fun e w' => e = .returned (.int .i64 (nextU s i)) ∧ Below w.heap.size w w' := by
 have HA := Lib.hid (around_any s i w hT hs hi)
 have hi0 : ¬ (i : Int) < 0 := by omega
 have hmn : min (i : Int) (s.size : Int) = (i : Int) := by omega
 unfold nextU
 generalize aroundF s i = p at *
 obtain ⟨p1, p2⟩ := p
 clear hT
 go_enter Tryz.func105, Tryz.ntmps105
 go_wp2_with (go_at_call 121; refine HA.out.mono ?_; rintro e w1 ⟨rfl, hb⟩; have HB := Lib.hid hb; clear hb)
 go_ret
 exact ⟨rfl, HB.out⟩

set_option maxRecDepth 100000 in
theorem PrevU_any (s : ByteArray) (i : Nat) (w : World) (hT : Tabs w) (hs : s.size ≤ 140737488355328) (h0 : 0 < i) (hi : i ≤ s.size) :
  Calls Tryz.prog 98 #[.string s, .int .i64 i] w fun e w' => e = .returned (.int .i64 (prevU s i)) ∧ Below w.heap.size w w' := by
 have HA := Lib.hid (Down_any s (i - 1) w hT hs (by omega))
 have hi0 : ¬ (i : Int) ≤ 0 := by omega
 have hmn : min ((i : Int) - 1) (s.size : Int) = ((i - 1 : Nat) : Int) := by omega
 unfold prevU
 generalize downF s (i - 1) = p at *
 clear hT
 go_enter Tryz.func98, Tryz.ntmps98
 go_wp2_with (go_at_call 123; refine HA.out.mono ?_; rintro e w1 ⟨rfl, hb⟩; have HB := Lib.hid hb; clear hb)
 go_ret
 exact ⟨rfl, HB.out⟩
end Go.Proofs.YtfchglcclgcgfaaGreatDoor.Ut
/-
 Package width: what within, Class, Cells answer; sort.Search. No condition.
-/
namespace Go.Proofs.YtfchglcclgcgfaaGreatDoor.Ut
open Go.RowKit
set_option linter.unusedVariables false
set_option linter.unusedSimpArgs false

/-- sort.Search: an answer r from 0 to n: ahead of it g is false; at it, if it is below n, g is true. -/
theorem Search_any (n K : Nat) (caps : Array Value) (g : Nat → Bool) (w : World) (hn : n ≤ 4611686018427387904) (hent : ∀ args w, (callFunc K args).run Tryz.prog w = .ok (.enter K args) w)
  (hmono : ∀ a b, a ≤ b → b < n → g a = true → g b = true)
  (hf : ∀ (k : Nat) w', k < n → Below w.heap.size w w' → Calls Tryz.prog K (#[.int .i64 k] ++ caps) w' fun e w'' => e = .returned (.bool (g k)) ∧ Below w'.heap.size w' w'') :
  Calls Tryz.prog 179 #[.int .i64 n, .func (.func K) #[] caps] w fun e w' => ∃ r : Nat, e = .returned (.int .i64 r) ∧ r ≤ n ∧ (∀ k, k < r → g k = false) ∧ (∀ k, r ≤ k → k < n → g k = true) ∧ Below w.heap.size w w' := by
 have HF := Lib.hid hf
 have HM := Lib.hid hmono
 clear hf hmono
 go_enter Tryz.func179, Tryz.ntmps179
 go_wp2
 go_loopw [5, 6] (fun a b wr => ∃ i j : Nat, a = .int .i64 i ∧ b = .int .i64 j ∧ i ≤ j ∧ j ≤ n ∧ Hid (∀ k, k < i → g k = false) ∧ Hid (∀ k, j ≤ k → k < n → g k = true) ∧ Below w.heap.size w wr) (fun a b _ => (intOf b).toNat - (intOf a).toNat)
 case atStart => exact ⟨0, n, rfl, rfl, Nat.zero_le _, Nat.le_refl _, fun k hk => by omega, fun k h1 h2 => by omega, Below.refl _ _⟩
 case round =>
  obtain ⟨i, j, rfl, rfl, hij, hjn, HI, HJ, hb⟩ := hrel
  have HB := Lib.hid hb
  clear hb
  by_cases hlt : i < j
  ·have hmid : ((i : Int) + (j : Int)) / 2 = (((i + j) / 2 : Nat) : Int) := by omega
   have hm : (i + j) / 2 < j := by omega
   have hm0 : i ≤ (i + j) / 2 := by omega
   generalize (i + j) / 2 = m at *
   go_wp2_with fail
   refine (HF.out m wr (by omega) HB.out).mono ?_
   rintro e w1 ⟨rfl, hb1⟩
   have HB1 := Lib.hid (HB.out.trans (hb1.mono HB.out.size))
   clear hb1 hmid
   cases hg : g m with
   | true =>
    have HJ2 : Hid (∀ k, m ≤ k → k < n → g k = true) := fun k h1 h2 => HM.out m k h1 h2 hg
    clear hg
    go_wp2
    go_roundw
    case rel => exact ⟨i, m, rfl, rfl, hm0, by omega, HI.out, HJ2.out, HB1.out⟩
    case measure => simp [intOf]; omega
   | false =>
    have HI2 : Hid (∀ k, k < m + 1 → g k = false) := fun k h1 => by
     cases hk : g k with
     | false => rfl
     | true => have := HM.out k m (by omega) (by omega) hk; rw [hg] at this; cases this
    clear hg
    go_wp2
    go_roundw
    case rel => exact ⟨m + 1, j, by go_num, rfl, by omega, hjn, HI2.out, HJ.out, HB1.out⟩
    case measure => simp [intOf]; omega
  ·obtain rfl : i = j := by omega
   go_wp2
   go_ret
   exact ⟨i, rfl, hjn, HI.out, HJ.out, HB.out⟩

/-- A table of ranges that is read, in block g. -/
def RunesAt (w : World) (g : Nat) (t : List Int) : Prop := g < w.heap.size ∧ ∀ i (h : i < t.length), w.cell? ⟨g, i, none⟩ = some (.int .i32 t[i])
theorem RunesAt.below {w w' : World} {g : Nat} {t : List Int} (h : RunesAt w g t) (hb : Below w.heap.size w w') : RunesAt w' g t :=
 ⟨Nat.lt_of_lt_of_le h.1 hb.size, fun i hi => (hb.cell (p := ⟨g, i, none⟩) h.1).trans (h.2 i hi)⟩
/-- Does x lie in one of the ranges of t (first and last in turn)? -/
def inside (t : List Int) (x : Int) : Bool := (List.range (t.length / 2)).any fun k => decide ((t[2 * k]?).getD 0 ≤ x ∧ x ≤ (t[2 * k + 1]?).getD 0)
/-- A table whose ranges rise. -/
def Rising (t : List Int) : Prop := ∀ i j, i < j → j < t.length → (t[i]?).getD 0 ≤ (t[j]?).getD 0

theorem Drawn.below {w : World} (n : Nat) : Below w.heap.size w (w.drewN n) := ⟨rfl, rfl, rfl, Nat.le_refl _, fun _ _ => rfl⟩

set_option maxRecDepth 100000 in
theorem test_any (g : Nat) (t : List Int) (c : Nat) (x : Int) (k p q : Nat) (w : World) (ht : RunesAt w g t) (hk : 2 * k + 1 < t.length) (hl : t.length ≤ 1000) (h0 : w.cell? ⟨p, 0, none⟩ = some (.slice (some ⟨g, 0, none⟩) t.length c)) (h1 : w.cell? ⟨q, 0, none⟩ = some (.int .i32 x)) :
  Calls Tryz.prog 180 #[.int .i64 k, .pointer (some ⟨p, 0, none⟩), .pointer (some ⟨q, 0, none⟩)] w fun e w' => e = .returned (.bool (decide (x ≤ (t[2 * k + 1]?).getD 0))) ∧ Below w.heap.size w w' := by
 have g0 := ht.2 (2 * k + 1) hk
 have hi0 : (0 : Int) ≤ 2 * (k : Int) + 1 := by omega
 have hi1 : 2 * (k : Int) + 1 < (t.length : Int) := by omega
 have e : (t[2 * k + 1]?).getD 0 = t[2 * k + 1] := by rw [List.getElem?_eq_getElem hk]; rfl
 have w1 : IntKind.i64.wrap (2 * (k : Int)) = 2 * (k : Int) := IntWalk.i64_in _ (by omega)
 have w2 : IntKind.i64.wrap (2 * (k : Int) + 1) = 2 * (k : Int) + 1 := IntWalk.i64_in _ (by omega)
 rw [e]
 clear ht e
 generalize t[2 * k + 1] = y at *
 go_enter Tryz.func180, Tryz.ntmps180
 go_wp2
 go_quiet (fail)
 go_wp2
 go_ret
 exact ⟨rfl, Drawn.below _⟩

theorem boxes2 (w : World) (a b : Value) (s t : TypeId) : ((w.alloc (.cells #[a] s)).alloc (.cells #[b] t)).cell? ⟨w.heap.size, 0, none⟩ = some a ∧ ((w.alloc (.cells #[a] s)).alloc (.cells #[b] t)).cell? ⟨w.heap.size + 1, 0, none⟩ = some b := by
 constructor
 ·exact (((Below.refl (w.heap.size + 1) (w.alloc (.cells #[a] s))).alloc (by simp) (.cells #[b] t)).cell (p := ⟨w.heap.size, 0, none⟩) (by simp)).trans (by simp)
 ·have h : ((w.alloc (.cells #[a] s)).alloc (.cells #[b] t)).cell? ⟨(w.alloc (.cells #[a] s)).heap.size, 0, none⟩ = some b := by
   generalize w.alloc (.cells #[a] s) = w1
   simp
  rwa [World.size_alloc] at h

theorem least_inside {t : List Int} (hr : Rising t) (x : Int) (r : Nat) (hrn : r ≤ t.length / 2) (h0 : ∀ k, k < r → decide (x ≤ (t[2 * k + 1]?).getD 0) = false) (h1 : ∀ k, r ≤ k → k < t.length / 2 → decide (x ≤ (t[2 * k + 1]?).getD 0) = true) :
  inside t x = (decide (r < t.length / 2) && decide ((t[2 * r]?).getD 0 ≤ x)) := by
 unfold inside
 rw [Bool.eq_iff_iff]
 simp only [List.any_eq_true, List.mem_range, Bool.and_eq_true, decide_eq_true_eq]
 constructor
 ·rintro ⟨k, hk, h2, h3⟩
  have hkr : ¬ k < r := fun h => by have := h0 k h; simp at this; omega
  have hrl : r < t.length / 2 := by omega
  refine ⟨hrl, ?_⟩
  by_cases hkr2 : k = r
  ·subst hkr2; exact h2
  ·have := hr (2 * r) (2 * k) (by omega) (by omega)
   omega
 ·rintro ⟨h2, h3⟩
  exact ⟨r, h2, h3, by have := h1 r (Nat.le_refl _) h2; simpa using this⟩

set_option maxRecDepth 100000 in
theorem within_any (g : Nat) (t : List Int) (c : Nat) (x : Int) (w : World) (ht : RunesAt w g t) (hr : Rising t) (hl : t.length ≤ 1000) :
  Calls Tryz.prog 153 #[.slice (some ⟨g, 0, none⟩) t.length c, .int .i32 x] w fun e w' => e = .returned (.bool (inside t x)) ∧ Below w.heap.size w w' := by
 obtain ⟨R, hR0⟩ : ∃ R, inside t x = R := ⟨_, rfl⟩
 rw [hR0]
 have HRes := Lib.hid hR0
 clear hR0
 obtain ⟨N, hN⟩ : ∃ N, t.length / 2 = N := ⟨_, rfl⟩
 have hdiv : (t.length : Int) / 2 = (N : Int) := by omega
 have HN := Lib.hid hN
 have hb0 : Below w.heap.size w ((w.alloc (.cells #[.slice (some ⟨g, 0, none⟩) t.length c] 184)).alloc (.cells #[.int .i32 x] 21)) := ((Below.refl _ _).alloc (Nat.le_refl _) _).alloc (by simp) _
 have HT := Lib.hid (ht.below hb0)
 have HB0 := Lib.hid hb0
 have HR := Lib.hid hr
 obtain ⟨q0, q1⟩ := boxes2 w (.slice (some ⟨g, 0, none⟩) t.length c) (.int .i32 x) 184 21
 have HQ0 := Lib.hid q0
 have HQ1 := Lib.hid q1
 have hsz : ((w.alloc (.cells #[.slice (some ⟨g, 0, none⟩) t.length c] 184)).alloc (.cells #[.int .i32 x] 21)).heap.size = w.heap.size + 2 := by simp
 have HSz := Lib.hid hsz
 clear ht hr hb0 q0 q1 hsz hN
 go_enter Tryz.func153, Tryz.ntmps153
 go_wp2_with fail
 generalize ((w.alloc (.cells #[.slice (some ⟨g, 0, none⟩) t.length c] 184)).alloc (.cells #[.int .i32 x] 21)) = w0 at *
 try rw [hdiv]
 have hlt0 : w.heap.size < w0.heap.size := by have := HSz.out; omega
 have hlt1 : w.heap.size + 1 < w0.heap.size := by have := HSz.out; omega
 refine (Search_any N 180 _ (fun k => decide (x ≤ (t[2 * k + 1]?).getD 0)) w0 (by omega) (enters_of Tryz.func180 (by kernel_rfl) rfl) (fun a b hab hb h => ?_) (fun k w' hk hb => ?_)).mono ?_
 ·simp only [decide_eq_true_eq] at h ⊢
  by_cases hab2 : a = b
  ·subst hab2; exact h
  ·have := HR.out (2 * a + 1) (2 * b + 1) (by omega) (by have := HN.out; omega); omega
 ·exact test_any g t c x k w.heap.size (w.heap.size + 1) w' (HT.out.below hb) (by have := HN.out; omega) hl ((hb.cell (p := ⟨w.heap.size, 0, none⟩) hlt0).trans HQ0.out) ((hb.cell (p := ⟨w.heap.size + 1, 0, none⟩) hlt1).trans HQ1.out)
 ·rintro e w1 ⟨r, rfl, hrn, h0, h1, hb1⟩
  have hI := least_inside HR.out x r (by rw [HN.out]; exact hrn) h0 (by rw [HN.out]; exact h1)
  rw [HN.out, HRes.out] at hI
  have HI := Lib.hid hI
  clear hI
  have c0 := (hb1.cell (p := ⟨w.heap.size, 0, none⟩) hlt0).trans HQ0.out
  have c1 := (hb1.cell (p := ⟨w.heap.size + 1, 0, none⟩) hlt1).trans HQ1.out
  have HT1 := Lib.hid (HT.out.below hb1)
  have HB1 := Lib.hid (HB0.out.trans (hb1.mono HB0.out.size))
  clear h0 h1 hb1
  by_cases hrl : r < N
  ·have g0 := HT1.out.2 (2 * r) (by have := HN.out; omega)
   have e : (t[2 * r]?).getD 0 = t[2 * r]'(by have := HN.out; omega) := by rw [List.getElem?_eq_getElem (by have := HN.out; omega)]; rfl
   have hi0 : (0 : Int) ≤ 2 * (r : Int) := by omega
   have hi1 : 2 * (r : Int) < (t.length : Int) := by have := HN.out; omega
   have hr1 : (r : Int) < (N : Int) := by omega
   have w1' : IntKind.i64.wrap (2 * (r : Int)) = 2 * (r : Int) := IntWalk.i64_in _ (by omega)
   have hfin : R = decide (t[2 * r]'(by have := HN.out; omega) ≤ x) := by rw [HI.out, e]; simp [hrl]
   have HFin := Lib.hid hfin
   clear HI HRes hfin e
   generalize t[2 * r]'(by have := HN.out; omega) = y at *
   go_wp2
   go_quiet (fail)
   go_wp2
   go_ret
   exact ⟨by rw [HFin.out]; rfl, HB1.out.trans ((Drawn.below _).mono HB1.out.size)⟩
  ·have hr1 : ¬ (r : Int) < (N : Int) := by omega
   have hfin : R = false := by rw [HI.out]; simp [hrl]
   clear HI HRes
   subst hfin
   go_wp2
   go_quiet (fail)
   go_wp2
   go_ret
   exact ⟨rfl, HB1.out.trans ((Drawn.below _).mono HB1.out.size)⟩
end Go.Proofs.YtfchglcclgcgfaaGreatDoor.Ut
/-
 Package width: the tables, Class, Cells. No condition.
-/
namespace Go.Proofs.YtfchglcclgcgfaaGreatDoor.Ut
open Go.RowKit
set_option linter.unusedVariables false
set_option linter.unusedSimpArgs false

def marksT : List Int := [768, 879, 1155, 1161, 1425, 1469, 1471, 1471, 1473, 1474, 1552, 1562, 1611, 1631, 1648, 1648, 1750, 1756, 2304, 2306, 2364, 2364, 2381, 2381, 3633, 3633, 3636, 3642, 3655, 3662, 4957, 4959, 6832, 6911, 7616, 7679, 8204, 8205, 8400, 8447, 12330, 12335, 12441, 12442, 65024, 65039, 65056, 65071, 127995, 127999, 917760, 917999]
def widesT : List Int := [4352, 4447, 8986, 8987, 9001, 9002, 9193, 9196, 9725, 9726, 9748, 9749, 9800, 9811, 9898, 9899, 11904, 12329, 12336, 12350, 12353, 12440, 12443, 19903, 19968, 42191, 43360, 43391, 44032, 55203, 63744, 64255, 65072, 65135, 65281, 65376, 65504, 65510, 94176, 101119, 110592, 111359, 127744, 127994, 128000, 128591, 128640, 128767, 129280, 129535, 131072, 196605, 196608, 262141]
theorem rising_of (t : List Int) (h : (List.range t.length).all (fun j => (List.range j).all fun i => decide ((t[i]?).getD 0 ≤ (t[j]?).getD 0)) = true) : Rising t := by
 intro i j hij hj
 have h1 := List.all_eq_true.1 h j (List.mem_range.2 hj)
 exact of_decide_eq_true (List.all_eq_true.1 h1 i (List.mem_range.2 hij))
theorem marks_rising : Rising marksT := rising_of _ (by decide +kernel)
theorem wides_rising : Rising widesT := rising_of _ (by decide +kernel)

theorem runes_new (w : World) (t : List Int) (ty : TypeId) : RunesAt (w.alloc (.cells (t.map fun x => Value.int .i32 x).toArray ty)) w.heap.size t := by
 refine ⟨by simp, fun i hi => ?_⟩
 have h : (w.alloc (.cells (t.map fun x => Value.int .i32 x).toArray ty)).cell? ⟨w.heap.size, i, none⟩ = (t.map fun x => Value.int .i32 x).toArray[i]? := by
  generalize (t.map fun x => Value.int .i32 x).toArray = cs
  simp
 rw [h]
 simp [hi]

set_option maxRecDepth 100000 in
theorem marks_any (w : World) : Calls Tryz.prog 154 #[] w fun e w' => ∃ g, e = .returned (.slice (some ⟨g, 0, none⟩) marksT.length marksT.length) ∧ RunesAt w' g marksT ∧ Below w.heap.size w w' := by
 go_enter Tryz.func154, Tryz.ntmps154
 go_wp2
 go_ret
 exact ⟨_, rfl, runes_new w marksT 21, (Below.refl _ _).alloc (Nat.le_refl _) _⟩
set_option maxRecDepth 100000 in
theorem wides_any (w : World) : Calls Tryz.prog 155 #[] w fun e w' => ∃ g, e = .returned (.slice (some ⟨g, 0, none⟩) widesT.length widesT.length) ∧ RunesAt w' g widesT ∧ Below w.heap.size w w' := by
 go_enter Tryz.func155, Tryz.ntmps155
 go_wp2
 go_ret
 exact ⟨_, rfl, runes_new w widesT 21, (Below.refl _ _).alloc (Nat.le_refl _) _⟩

def classF (c : Int) : Int := if c < 0 ∨ 1114111 < c ∨ (55296 ≤ c ∧ c ≤ 57343) then 5 else if c = 10 then 1 else if c < 32 ∨ (127 ≤ c ∧ c ≤ 159) then 2 else if inside marksT c = true then 3 else if inside widesT c = true then 4 else 0
def cellsF (c : Int) : Int := if classF c = 1 then 0 else if classF c = 4 then 2 else if classF c = 2 ∧ c ≤ 127 then 2 else 1

set_option maxRecDepth 100000 in
set_option maxHeartbeats 1000000 in
theorem Class_any (c : Int) (w : World) : Calls Tryz.prog 124 #[.int .i32 c] w fun e w' => e = .returned (.int .i64 (classF c)) ∧ Below w.heap.size w w' := by
 obtain ⟨R, hR⟩ : ∃ R, classF c = R := ⟨_, rfl⟩
 have HR := Lib.hid hR
 rw [hR]
 clear hR
 by_cases h1 : c < 0 ∨ 1114111 < c ∨ (55296 ≤ c ∧ c ≤ 57343)
 ·have hr : R = 5 := by rw [← HR.out]; unfold classF; rw [if_pos h1]
  subst hr
  rcases (by omega : c < 0 ∨ (¬ c < 0 ∧ 1114111 < c) ∨ (¬ c < 0 ∧ ¬ 1114111 < c ∧ 55296 ≤ c ∧ c ≤ 57343)) with h | ⟨h, h'⟩ | ⟨h, h', h2, h3⟩
  all_goals
   clear h1
   go_enter Tryz.func124, Tryz.ntmps124
   go_wp2
   go_ret
   exact ⟨rfl, Below.refl _ _⟩
 ·have a1 : ¬ c < 0 := by omega
  have a2 : ¬ 1114111 < c := by omega
  have hsur : (55296 ≤ c ∧ ¬ c ≤ 57343) ∨ ¬ 55296 ≤ c := by omega
  by_cases h2 : c = 10
  ·have hr : R = 1 := by rw [← HR.out]; unfold classF; rw [if_neg h1, if_pos h2]
   subst hr
   subst h2
   clear HR h1 a1 a2 hsur
   go_enter Tryz.func124, Tryz.ntmps124
   go_wp2
   go_ret
   exact ⟨rfl, Below.refl _ _⟩
  ·have hq : (c == 10) = false := by simpa using h2
   by_cases h3 : c < 32 ∨ (127 ≤ c ∧ c ≤ 159)
   ·have hr : R = 2 := by rw [← HR.out]; unfold classF; rw [if_neg h1, if_neg h2, if_pos h3]
    subst hr
    clear HR h1 hsur
    have b0 : ¬ 55296 ≤ c := by omega
    rcases h3 with h | ⟨h, h'⟩
    ·go_enter Tryz.func124, Tryz.ntmps124
     go_wp2
     go_ret
     exact ⟨rfl, Below.refl _ _⟩
    ·have b1 : ¬ c < 32 := by omega
     go_enter Tryz.func124, Tryz.ntmps124
     go_wp2
     go_ret
     exact ⟨rfl, Below.refl _ _⟩
   ·have b1 : ¬ c < 32 := by omega
    have hr : R = if inside marksT c = true then 3 else if inside widesT c = true then 4 else 0 := by rw [← HR.out]; unfold classF; rw [if_neg h1, if_neg h2, if_neg h3]
    have HRR := Lib.hid hr
    have hcon : (127 ≤ c ∧ ¬ c ≤ 159) ∨ ¬ 127 ≤ c := by omega
    clear HR h1 h3 h2 hr
    rcases hsur with ⟨s1, s2⟩ | s1 <;> rcases hcon with ⟨d1, d2⟩ | d1
    all_goals
     go_enter Tryz.func124, Tryz.ntmps124
     go_wp2_with fail
     refine (marks_any w).mono ?_
     rintro e w1 ⟨g, rfl, ht, hb⟩
     have HT := Lib.hid ht
     have HB := Lib.hid hb
     clear ht hb
     go_wp2_with fail
     refine (within_any g marksT _ c w1 HT.out marks_rising (by decide)).mono ?_
     rintro e w2 ⟨rfl, hb2⟩
     have HB2 := Lib.hid (HB.out.trans (hb2.mono HB.out.size))
     clear hb2 HT HB
     cases hm : inside marksT c with
     | true =>
      have HRes : Hid (R = 3) := by show _ = _; rw [HRR.out, hm]; rfl
      clear HRR hm
      go_wp2
      go_ret
      exact ⟨by rw [HRes.out]; rfl, HB2.out⟩
     | false =>
      have HRes : Hid (R = if inside widesT c = true then 4 else 0) := by show _ = _; rw [HRR.out, hm]; rfl
      clear HRR hm
      go_wp2_with fail
      refine (wides_any w2).mono ?_
      rintro e w3 ⟨g3, rfl, ht3, hb3⟩
      have HT3 := Lib.hid ht3
      have HB3 := Lib.hid (HB2.out.trans (hb3.mono HB2.out.size))
      clear ht3 hb3 HB2
      go_wp2_with fail
      refine (within_any g3 widesT _ c w3 HT3.out wides_rising (by decide)).mono ?_
      rintro e w4 ⟨rfl, hb4⟩
      have HB4 := Lib.hid (HB3.out.trans (hb4.mono HB3.out.size))
      clear hb4 HT3 HB3
      cases hm2 : inside widesT c with
      | true =>
       have HRes2 : Hid (R = 4) := by show _ = _; rw [HRes.out, hm2]; rfl
       clear HRes hm2
       go_wp2
       go_ret
       exact ⟨by rw [HRes2.out]; rfl, HB4.out⟩
      | false =>
       have HRes2 : Hid (R = 0) := by show _ = _; rw [HRes.out, hm2]; rfl
       clear HRes hm2
       go_wp2
       go_ret
       exact ⟨by rw [HRes2.out]; rfl, HB4.out⟩
end Go.Proofs.YtfchglcclgcgfaaGreatDoor.Ut
