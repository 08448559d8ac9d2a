/-
  What the proof of the laws L rests on: the texts RoN. Conditions: each theorem names its own.
-/
import Derived.Test.YtgmpohdkignadaaGreatDoorMgLg
import Derived.Deep.DeepCutAuto
/-
  rope: short, seam; put. Condition: the two tables of unicode/utf8 lie as laid.
-/
namespace Go.Proofs.YtgmpohdkignadaaGreatDoor.Ut
open Go.RowKit Go.Proofs.YtgmpohdkignadaaGreatDoor.Reg
set_option linter.unusedVariables false
set_option linter.unusedSimpArgs false

def isShort : Option Tr → Bool
  | some (.leaf s) => decide (s.size < 32)
  | _ => false
theorem short_any (v : Value) (t : Option Tr) (w : World) (h : IsOpt w v t) : Calls Tryz.prog 86 #[v] w fun e w' => e = .returned (.bool (isShort t)) ∧ w' = w := by
  match t, h with
  | none, h =>
    obtain rfl : v = .pointer none := h
    go_enter Tryz.func86, Tryz.ntmps86
    go_wp2
    go_ret
    exact ⟨rfl, rfl⟩
  | some (.leaf s), ⟨b, h1, h2⟩ =>
    subst h1
    have hL : Lies w b (nodeV (.pointer none) (.pointer none) 0 (measF s) s) := Blk.lies h2
    have c0 := (hL.2 0 _ rfl).1
    have c10 := (hL.2 10 _ rfl).1
    clear h2 hL
    unfold ptr isShort
    go_enter Tryz.func86, Tryz.ntmps86
    go_wp2
    go_ret
    refine ⟨?_, rfl⟩
    simp; omega
  | some (.knot l r), ⟨b, h1, h2⟩ =>
    subst h1
    obtain ⟨x, y, -, -, hL⟩ := h2
    have c0 := (hL.lies.2 0 _ rfl).1
    clear hL
    unfold ptr at *
    go_enter Tryz.func86, Tryz.ntmps86
    go_wp2
    go_ret
    exact ⟨rfl, rfl⟩

def seamF (a b : ByteArray) : Bool := clB (a ++ b) a.size
theorem seam_any (a b : ByteArray) (w : World) (hT : Tabs w) (hs : a.size + b.size ≤ 140737488355328) : Calls Tryz.prog 87 #[.string a, .string b] w fun e w' => e = .returned (.bool (seamF a b)) ∧ Below w.heap.size w w' := by
  have HC := Lib.hid (ClBoundary_any (a ++ b) a.size w hT (by rw [ByteArray.size_append]; exact hs) (by rw [ByteArray.size_append]; omega))
  unfold seamF
  have hz : ¬ 9223372036854775807 < a.size + b.size := by omega
  generalize clB (a ++ b) a.size = R at *
  clear hT
  go_enter Tryz.func87, Tryz.ntmps87
  go_wp2_with fail
  refine HC.out.mono ?_
  rintro e w1 ⟨rfl, hb⟩
  have HB := Lib.hid hb
  clear hb
  go_wp2
  go_ret
  exact ⟨rfl, HB.out⟩
end Go.Proofs.YtgmpohdkignadaaGreatDoor.Ut
