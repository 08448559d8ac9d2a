/-
  What the proof of the laws S rests on: the texts ClA ClB Region Owes. Conditions: each theorem names its own.
-/
import Derived.Test.YtfchglcclgcgfaaGreatDoorMgSa
import Derived.Orders
/-
 width.Cells, unit.At, cluster.glued, Boundary, Next. Condition: the two tables of unicode/utf8 lie as laid.
-/
namespace Go.Proofs.YtfchglcclgcgfaaGreatDoor.Ut
open Go.RowKit
set_option linter.unusedVariables false
set_option linter.unusedSimpArgs false

set_option maxRecDepth 100000 in
theorem Cells_any (c : Int) (w : World) : Calls Tryz.prog 157 #[.int .i32 c] w fun e w' => e = .returned (.int .i64 (cellsF c)) ∧ Below w.heap.size w w' := by
 obtain ⟨R, hR⟩ : ∃ R, cellsF c = R := ⟨_, rfl⟩
 have HR := Lib.hid hR
 have HC := Lib.hid (Class_any c w)
 rw [hR]
 clear hR
 have hk : classF c = 5 ∨ classF c = 1 ∨ classF c = 2 ∨ classF c = 3 ∨ classF c = 4 ∨ classF c = 0 := by
  unfold classF
  repeat' split
  all_goals simp
 unfold cellsF at HR
 generalize classF c = k at *
 rcases hk with rfl | rfl | rfl | rfl | rfl | rfl
 all_goals first
  | (have hr : R = 0 := by (rw [← HR.out]; simp; done)
     subst hr
     clear HR
     go_enter Tryz.func157, Tryz.ntmps157
     go_wp2_with fail
     refine HC.out.mono ?_
     rintro e w1 ⟨rfl, hb⟩
     have HB := Lib.hid hb
     clear hb
     go_wp2
     go_ret
     exact ⟨rfl, HB.out⟩)
  | (have hr : R = 1 := by (rw [← HR.out]; simp; done)
     subst hr
     clear HR
     go_enter Tryz.func157, Tryz.ntmps157
     go_wp2_with fail
     refine HC.out.mono ?_
     rintro e w1 ⟨rfl, hb⟩
     have HB := Lib.hid hb
     clear hb
     go_wp2
     go_ret
     exact ⟨rfl, HB.out⟩)
  | (have hr : R = 2 := by (rw [← HR.out]; simp; done)
     subst hr
     clear HR
     go_enter Tryz.func157, Tryz.ntmps157
     go_wp2_with fail
     refine HC.out.mono ?_
     rintro e w1 ⟨rfl, hb⟩
     have HB := Lib.hid hb
     clear hb
     go_wp2
     go_ret
     exact ⟨rfl, HB.out⟩)
  | (by_cases h7 : c ≤ 127
     ·have hr : R = 2 := by (rw [← HR.out]; simp [h7]; done)
      subst hr
      clear HR
      go_enter Tryz.func157, Tryz.ntmps157
      go_wp2_with fail
      refine HC.out.mono ?_
      rintro e w1 ⟨rfl, hb⟩
      have HB := Lib.hid hb
      clear hb
      go_wp2
      go_ret
      exact ⟨rfl, HB.out⟩
     ·have hr : R = 1 := by (rw [← HR.out]; simp [h7]; done)
      subst hr
      clear HR
      go_enter Tryz.func157, Tryz.ntmps157
      go_wp2_with fail
      refine HC.out.mono ?_
      rintro e w1 ⟨rfl, hb⟩
      have HB := Lib.hid hb
      clear hb
      go_wp2
      go_ret
      exact ⟨rfl, HB.out⟩)

def atC (s : ByteArray) (i : Nat) : Int := if boundF s i = true then ch (from_ s i) else 0
def atN (s : ByteArray) (i : Nat) : Int := if boundF s i = true then sz (from_ s i) else 0
theorem kept_set {w w1 : World} {x y : Value} (h : Below w.heap.size w w1) : Below w.heap.size w ((w1.setCell ⟨w.heap.size, 0, none⟩ x).setCell ⟨w.heap.size, 1, none⟩ y) :=
 ((Chg.of_below h).trans (Chg.set w1 ⟨w.heap.size, 0, none⟩ _) (T := fun k => k = w.heap.size) (fun x _ h => h)).trans (Chg.set _ ⟨w.heap.size, 1, none⟩ _) (T := fun k => k = w.heap.size) (fun x _ h => h) |>.below_le (Nat.le_refl _) (fun x hx => by rw [hx]; exact Nat.le_refl _)

set_option maxRecDepth 100000 in
theorem At_any (s : ByteArray) (i : Nat) (w : World) (hT : Tabs w) (hs : s.size ≤ 140737488355328) (hi : i < s.size) :
  Calls Tryz.prog 97 #[.string s, .int .i64 i] w fun e w' => e = .returned (.tuple #[.agg #[.int .i32 (atC s i), .int .i64 (atN s i)], .bool (boundF s i)]) ∧ Below w.heap.size w w' := by
 have hb0 : Below w.heap.size w (w.alloc (.cells #[.int .i32 0, .int .i64 0] 137)) := (Below.refl _ _).alloc (Nat.le_refl _) _
 have HT := Lib.hid hT
 have HA := Lib.hid (Boundary_any s i _ (tabs_below hT hb0) hs (Nat.le_of_lt hi))
 have hi0 : ¬ (i : Int) < 0 := by omega
 have hi1 : ¬ (s.size : Int) ≤ (i : Int) := by omega
 unfold atC atN
 cases hb : boundF s i with
 | false =>
  rw [hb] at HA
  clear hb hT hb0
  go_enter Tryz.func97, Tryz.ntmps97
  go_wp2_with (go_at_call 96; refine HA.out.mono ?_; rintro e w1 ⟨rfl, hb⟩; obtain ⟨b0, b1, f0, f1, hbw⟩ := unit_box hb; have HB := Lib.hid hbw; clear hb hbw)
  obtain ⟨k0, k1⟩ := two_set (.int .i32 0) (.int .i64 0) b0 b1
  refine bodyPost_ret (v := .tuple #[.agg #[.int .i32 0, .int .i64 0], .bool false]) (by simp [results, Tryz.results97, go_sem, k0, k1]) rfl ⟨rfl, kept_set HB.out⟩
 | true =>
  rw [hb] at HA
  simp only [if_true]
  have hex : s.extract i s.size = from_ s i := rfl
  obtain ⟨C, hC⟩ : ∃ C, ch (from_ s i) = C := ⟨_, rfl⟩
  obtain ⟨K, hK⟩ : ∃ K, sz (from_ s i) = K := ⟨_, rfl⟩
  rw [hC, hK]
  have HC := Lib.hid hC
  have HK := Lib.hid hK
  have hi2 : (i : Int) ≤ (s.size : Int) := by omega
  clear hb hT hb0 hC hK
  go_enter Tryz.func97, Tryz.ntmps97
  go_wp2_with fail
  refine HA.out.mono ?_
  rintro e w1 ⟨rfl, hb⟩
  obtain ⟨b0, b1, f0, f1, hbw⟩ := unit_box hb
  have HB := Lib.hid hbw
  clear hb hbw
  go_wp2_with fail
  refine (first_any (from_ s i) w1 (tabs_below HT.out HB.out)).mono ?_
  rintro e w2 ⟨rfl, hb2⟩
  rw [HC.out, HK.out]
  have hlt : w.heap.size < w1.heap.size := World.block_lt_of_cell? w1 _ b0
  have b0' := (hb2.cell (p := ⟨w.heap.size, 0, none⟩) hlt).trans b0
  have b1' := (hb2.cell (p := ⟨w.heap.size, 1, none⟩) hlt).trans b1
  have f0' := (hb2.frozen (p := ⟨w.heap.size, 0, none⟩) hlt).trans f0
  have f1' := (hb2.frozen (p := ⟨w.heap.size, 1, none⟩) hlt).trans f1
  have HB2 := Lib.hid (HB.out.trans (hb2.mono HB.out.size))
  clear hb2 b0 b1 f0 f1
  go_wp2
  obtain ⟨k0, k1⟩ := two_set (.int .i32 C) (.int .i64 (K : Int)) b0' b1'
  refine bodyPost_ret (v := .tuple #[.agg #[.int .i32 C, .int .i64 K], .bool true]) (by simp [results, Tryz.results97, go_sem, k0, k1]) rfl ⟨rfl, kept_set HB2.out⟩

def gluedF (u v : Int) : Bool := (decide (u = 13) && decide (v = 10)) || (decide (classF v = 3) && decide (classF u ≠ 1) && decide (classF u ≠ 2))

set_option maxRecDepth 100000 in
theorem glued_any (u v : Int) (w : World) : Calls Tryz.prog 99 #[.int .i32 u, .int .i32 v] w fun e w' => e = .returned (.bool (gluedF u v)) ∧ Below w.heap.size w w' := by
 obtain ⟨R, hR⟩ : ∃ R, gluedF u v = R := ⟨_, rfl⟩
 have HR := Lib.hid hR
 rw [hR]
 clear hR
 by_cases h1 : u = 13 ∧ v = 10
 ·obtain ⟨rfl, rfl⟩ := h1
  have hr : R = true := by rw [← HR.out]; simp [gluedF]
  subst hr
  clear HR
  go_enter Tryz.func99, Tryz.ntmps99
  go_wp2
  go_ret
  exact ⟨rfl, Below.refl _ _⟩
 ·have hr : R = (decide (classF v = 3) && decide (classF u ≠ 1) && decide (classF u ≠ 2)) := by
   rw [← HR.out]; unfold gluedF
   have : (decide (u = 13) && decide (v = 10)) = false := by
    rw [Bool.and_eq_false_iff]; simp; omega
   rw [this, Bool.false_or]
  have HRR := Lib.hid hr
  have HC1 := fun w => Class_any u w
  have HC2 := fun w => Class_any v w
  have HU := Lib.hid HC1
  have HV := Lib.hid HC2
  clear HR hr HC1 HC2
  generalize classF u = a at *
  generalize classF v = b at *
  have hcase : (u == 13) = false ∨ ((u == 13) = true ∧ (v == 10) = false) := by
   by_cases h : u = 13
   ·right; exact ⟨by simpa using h, by simpa using fun hv => h1 ⟨h, hv⟩⟩
   ·left; simpa using h
  clear h1
  rcases hcase with h | ⟨h, h'⟩
  all_goals
   go_enter Tryz.func99, Tryz.ntmps99
   go_wp2_with fail
   refine (HU.out _).mono ?_
   rintro e w1 ⟨rfl, hb⟩
   have HB := Lib.hid hb
   clear hb
   go_wp2_with fail
   refine (HV.out _).mono ?_
   rintro e w2 ⟨rfl, hb2⟩
   have HB2 := Lib.hid (HB.out.trans (hb2.mono HB.out.size))
   clear hb2
   by_cases hb3 : b = 3
   ·by_cases ha1 : a = 1
    ·subst hb3 ha1
     have hr : R = false := by rw [HRR.out]; rfl
     subst hr
     clear HRR
     go_wp2
     go_ret
     exact ⟨rfl, HB2.out⟩
    ·have hr : R = decide (a ≠ 2) := by rw [HRR.out, hb3]; simp [ha1]
     subst hb3
     have q1 : (a != 1) = true := by simpa using ha1
     have q2 : (a != 2) = decide (a ≠ 2) := by by_cases h : a = 2 <;> simp [h]
     have HQ2 := Lib.hid q2
     have HR2 := Lib.hid hr
     clear HRR hr q2 ha1
     go_wp2
     go_ret
     exact ⟨by rw [HR2.out, ← HQ2.out]; rfl, HB2.out⟩
   ·have hr : R = false := by rw [HRR.out]; simp [hb3]
    subst hr
    have q3 : (b == 3) = false := by simpa using hb3
    clear HRR hb3
    go_wp2
    go_ret
    exact ⟨rfl, HB2.out⟩
end Go.Proofs.YtfchglcclgcgfaaGreatDoor.Ut
/-
 cluster.Boundary, cluster.Next. Condition: the two tables of unicode/utf8 lie as laid.
-/
namespace Go.Proofs.YtfchglcclgcgfaaGreatDoor.Ut
open Go.RowKit
set_option linter.unusedVariables false
set_option linter.unusedSimpArgs false

/-- Is i (from 0 to the length) at a boundary of clusters? -/
def clB (s : ByteArray) (i : Nat) : Bool := decide (i = 0) || decide (i = s.size) || (boundF s i && !gluedF (atC s (prevU s i)) (atC s i))

theorem prev_lt {s : ByteArray} {i : Nat} (h0 : 0 < i) (hi : i ≤ s.size) : prevU s i < i := by
 have := (around_ok (s := s) (i := i - 1) (by omega)).1
 unfold prevU downF
 omega

theorem boxed {w : World} {x y : Value} {t : TypeId} : ((w.alloc (.cells #[x, y] t)).cell? ⟨w.heap.size, 0, none⟩ = some x) ∧ ((w.alloc (.cells #[x, y] t)).cell? ⟨w.heap.size, 1, none⟩ = some y) := by
 constructor <;> simp

set_option maxRecDepth 100000 in
theorem ClBoundary_any (s : ByteArray) (i : Nat) (w : World) (hT : Tabs w) (hs : s.size ≤ 140737488355328) (hi : i ≤ s.size) :
  Calls Tryz.prog 39 #[.string s, .int .i64 i] w fun e w' => e = .returned (.bool (clB s i)) ∧ Below w.heap.size w w' := by
 obtain ⟨R, hR⟩ : ∃ R, clB s i = R := ⟨_, rfl⟩
 have HR := Lib.hid hR
 rw [hR]
 clear hR
 have HT := Lib.hid hT
 clear hT
 by_cases h0 : i = 0
 ·have hr : R = true := by rw [← HR.out]; simp [clB, h0]
  subst hr h0
  clear HR
  go_enter Tryz.func39, Tryz.ntmps39
  go_wp2
  go_ret
  exact ⟨rfl, Below.refl _ _⟩
 ·have q0 : ¬ (i : Int) ≤ 0 := by omega
  have q1 : ((i : Int) == 0) = false := by rw [beq_eq_false_iff_ne]; omega
  by_cases h1 : i = s.size
  ·have hr : R = true := by rw [← HR.out]; simp [clB, h1]
   subst hr
   have q2 : ((i : Int) == (s.size : Int)) = true := by rw [beq_iff_eq]; omega
   have q3 : (s.size : Int) ≤ (i : Int) := by omega
   clear HR h1
   go_enter Tryz.func39, Tryz.ntmps39
   go_wp2
   go_ret
   exact ⟨rfl, Below.refl _ _⟩
  ·have q3 : ¬ (s.size : Int) ≤ (i : Int) := by omega
   have hr : R = (boundF s i && !gluedF (atC s (prevU s i)) (atC s i)) := by rw [← HR.out]; simp [clB, h0, h1]
   have HRR := Lib.hid hr
   have hp : prevU s i < i := prev_lt (by omega) hi
   clear HR hr h0 q1
   go_enter Tryz.func39, Tryz.ntmps39
   go_wp2_with fail
   refine (Boundary_any s i w HT.out hs hi).mono ?_
   rintro e w1 ⟨rfl, hb⟩
   have HB := Lib.hid hb
   clear hb
   cases hbd : boundF s i with
   | false =>
    have HRes : Hid (R = false) := by show _ = _; rw [HRR.out, hbd]; rfl
    clear HRR hbd
    go_wp2
    go_ret
    exact ⟨by rw [HRes.out]; rfl, HB.out⟩
   | true =>
    have HRes : Hid (R = !gluedF (atC s (prevU s i)) (atC s i)) := by show _ = _; rw [HRR.out, hbd]; rfl
    clear HRR
    go_wp2_with fail
    refine (PrevU_any s i w1 (tabs_below HT.out HB.out) hs (by omega) hi).mono ?_
    rintro e w2 ⟨rfl, hb2⟩
    have HB2 := Lib.hid (HB.out.trans (hb2.mono HB.out.size))
    clear hb2 HB
    generalize prevU s i = p at *
    go_wp2_with fail
    refine (At_any s p w2 (tabs_below HT.out HB2.out) hs (by omega)).mono ?_
    rintro e w3 ⟨rfl, hb3⟩
    have HB3 := Lib.hid (HB2.out.trans (hb3.mono HB2.out.size))
    clear hb3 HB2
    generalize atC s p = C1 at *
    generalize atN s p = N1 at *
    generalize boundF s p = b1 at *
    have HBd := Lib.hid hbd
    clear hbd
    go_wp2_with fail
    have hb4 : Below w3.heap.size w3 (w3.alloc (.cells #[.int .i32 C1, .int .i64 N1] 137)) := (Below.refl _ _).alloc (Nat.le_refl _) _
    have hs4 : (w3.alloc (.cells #[.int .i32 C1, .int .i64 N1] 137)).heap.size = w3.heap.size + 1 := by simp
    have hc4 := (boxed (w := w3) (x := .int .i32 C1) (y := .int .i64 N1) (t := 137)).1
    generalize w3.alloc (.cells #[.int .i32 C1, .int .i64 N1] 137) = w4 at *
    have HB4 := Lib.hid (HB3.out.trans (hb4.mono HB3.out.size))
    have hl4 : w3.heap.size < w4.heap.size := by omega
    clear hb4 HB3 hs4
    refine (At_any s i w4 (tabs_below HT.out HB4.out) hs (by omega)).mono ?_
    rintro e w5 ⟨rfl, hb5⟩
    have hc5 := (hb5.cell (p := ⟨w3.heap.size, 0, none⟩) hl4).trans hc4
    have HB5 := Lib.hid (HB4.out.trans (hb5.mono HB4.out.size))
    have hl5 : w3.heap.size < w5.heap.size := Nat.lt_of_lt_of_le hl4 hb5.size
    clear hb5 HB4 hc4 hl4
    generalize atC s i = C2 at *
    generalize atN s i = N2 at *
    generalize boundF s i = b2 at *
    have hb6 : Below w5.heap.size w5 (w5.alloc (.cells #[.int .i32 C2, .int .i64 N2] 137)) := (Below.refl _ _).alloc (Nat.le_refl _) _
    have hd6 := (boxed (w := w5) (x := .int .i32 C2) (y := .int .i64 N2) (t := 137)).1
    have hc6 := (hb6.cell (p := ⟨w3.heap.size, 0, none⟩) hl5).trans hc5
    have HB6 := Lib.hid (HB5.out.trans (hb6.mono HB5.out.size))
    clear hb6 HB5 hc5
    go_wp2_with fail
    generalize w5.alloc (.cells #[.int .i32 C2, .int .i64 N2] 137) = w6 at *
    refine (glued_any C1 C2 w6).mono ?_
    rintro e w7 ⟨rfl, hb7⟩
    have HB7 := Lib.hid (HB6.out.trans (hb7.mono HB6.out.size))
    clear hb7 HB6 hc6 hd6
    generalize gluedF C1 C2 = G at *
    go_wp2
    go_ret
    exact ⟨by rw [HRes.out]; rfl, HB7.out⟩

/-- The least boundary above i, looked for in f steps; the length at last. -/
def clNf (s : ByteArray) : Nat → Nat → Nat
 | 0, _ => s.size
 | f + 1, i => if i < s.size then (if clB s (nextU s i) = true then nextU s i else clNf s f (nextU s i)) else s.size
def clN (s : ByteArray) (i : Nat) : Nat := clNf s (s.size - i) i
theorem next_gt {s : ByteArray} {i : Nat} (h : i < s.size) : i < nextU s i ∧ nextU s i ≤ s.size := by
 have := around_ok (s := s) (i := i) (Nat.le_of_lt h)
 unfold nextU
 omega
theorem clNf_more (s : ByteArray) : ∀ f i, s.size - i ≤ f → clNf s f i = clN s i
 | 0, i, h => by unfold clN; rw [show s.size - i = 0 by omega]
 | f + 1, i, h => by
  unfold clN
  by_cases hi : i < s.size
  ·obtain ⟨h1, h2⟩ := next_gt hi
   rw [show s.size - i = (s.size - i - 1) + 1 by omega]
   unfold clNf
   rw [if_pos hi, if_pos hi]
   split
   ·rfl
   ·rw [clNf_more s f (nextU s i) (by omega), clNf_more s (s.size - i - 1) (nextU s i) (by omega)]
  ·rw [show s.size - i = 0 by omega]
   unfold clNf
   rw [if_neg hi]
theorem clN_step {s : ByteArray} {i : Nat} (h : i < s.size) : clN s i = if clB s (nextU s i) = true then nextU s i else clN s (nextU s i) := by
 obtain ⟨h1, h2⟩ := next_gt h
 have e : clN s i = clNf s ((s.size - i - 1) + 1) i := by unfold clN; congr 1; omega
 rw [e]
 unfold clNf
 rw [if_pos h, clNf_more s _ _ (by omega)]
theorem clN_end {s : ByteArray} {i : Nat} (h : s.size ≤ i) : clN s i = s.size := by unfold clN; rw [show s.size - i = 0 by omega]; rfl
theorem clN_le (s : ByteArray) (i : Nat) : clN s i ≤ s.size := by
 induction hn : s.size - i using Nat.strongRecOn generalizing i with
 | _ n ih =>
  by_cases h : i < s.size
  ·obtain ⟨h1, h2⟩ := next_gt h
   rw [clN_step h]
   split
   ·exact h2
   ·exact ih _ (by omega) _ rfl
  ·rw [clN_end (by omega)]; exact Nat.le_refl _
theorem clN_gt {s : ByteArray} {i : Nat} (h : i < s.size) : i < clN s i := by
 induction hn : s.size - i using Nat.strongRecOn generalizing i with
 | _ n ih =>
  obtain ⟨h1, h2⟩ := next_gt h
  rw [clN_step h]
  split
  ·exact h1
  ·by_cases h3 : nextU s i < s.size
   ·have := ih _ (by omega) h3 rfl; omega
   ·rw [clN_end (by omega)]; omega

set_option maxRecDepth 100000 in
theorem ClNext_any (s : ByteArray) (i : Nat) (w : World) (hT : Tabs w) (hs : s.size ≤ 140737488355328) (hi : i ≤ s.size) :
  Calls Tryz.prog 49 #[.string s, .int .i64 i] w fun e w' => e = .returned (.int .i64 (clN s i)) ∧ Below w.heap.size w w' := by
 have HT := Lib.hid hT
 obtain ⟨R, hR⟩ : ∃ R, clN s i = R := ⟨_, rfl⟩
 have HR := Lib.hid hR
 rw [hR]
 clear hT hR
 go_enter Tryz.func49, Tryz.ntmps49
 go_wp2
 go_loopw [1] (fun v wr => ∃ j : Nat, j ≤ s.size ∧ v = .int .i64 j ∧ Hid (clN s j = R) ∧ Below w.heap.size w wr) (fun v _ => s.size - (intOf v).toNat)
 case atStart => exact ⟨i, hi, rfl, HR.out, Below.refl _ _⟩
 case round =>
  obtain ⟨j, hj, rfl, HA, hb⟩ := hrel
  have HB := Lib.hid hb
  clear hb
  by_cases hlt : j < s.size
  ·obtain ⟨h1, h2⟩ := next_gt hlt
   have hst := clN_step hlt
   rw [HA.out] at hst
   have HSt := Lib.hid hst
   clear hst HA
   go_wp2_with fail
   refine (NextU_any s j wr (tabs_below HT.out HB.out) hs hj).mono ?_
   rintro e w1 ⟨rfl, hb1⟩
   have HB1 := Lib.hid (HB.out.trans (hb1.mono HB.out.size))
   clear hb1 HB
   generalize nextU s j = k at *
   go_wp2_with fail
   refine (ClBoundary_any s k w1 (tabs_below HT.out HB1.out) hs h2).mono ?_
   rintro e w2 ⟨rfl, hb2⟩
   have HB2 := Lib.hid (HB1.out.trans (hb2.mono HB1.out.size))
   clear hb2 HB1
   cases hc : clB s k with
   | true =>
    have HRes : Hid (R = k) := by show _ = _; rw [HSt.out, if_pos hc]
    clear HSt hc
    go_wp2
    go_ret
    exact ⟨by rw [HRes.out]; rfl, HB2.out⟩
   | false =>
    have HRes : Hid (clN s k = R) := by show _ = _; rw [HSt.out, if_neg (by simp [hc])]
    clear HSt hc
    go_wp2
    go_roundw
    case rel => exact ⟨k, h2, rfl, HRes.out, HB2.out⟩
    case measure => simp [intOf]; omega
  ·have hj' : j = s.size := by omega
   have HRes : Hid (R = s.size) := by show _ = _; rw [← HA.out, clN_end (by omega)]
   clear HA
   subst hj'
   go_wp2
   go_ret
   exact ⟨by rw [HRes.out]; rfl, HB.out⟩
end Go.Proofs.YtfchglcclgcgfaaGreatDoor.Ut
/-
 A region that draws its order, by one obligation for each operation: each slot's value is said once, and holds in whatever order. No condition.
-/
namespace Go.Proofs.YtfchglcclgcgfaaGreatDoor.Reg
open Go.RowKit
set_option linter.unusedVariables false
set_option linter.unusedSimpArgs false

section
variable {P : Program} {ops : Array Oper} {Q : Exit → Act → World → Prop}

/-- How many are not listed yet. -/
def left (listed : Array Bool) : Nat := (listed.toList.filter fun b => !b).length

theorem left_list : ∀ (l : List Bool) (i : Nat), l[i]? = some false → ((l.set i true).filter fun b => !b).length + 1 = (l.filter fun b => !b).length
 | [], i, h => by simp at h
 | b :: r, 0, h => by simp at h; subst h; simp
 | b :: r, i + 1, h => by
  have := left_list r i (by simpa using h)
  cases b <;> simp [List.set] at this ⊢ <;> omega

theorem left_set {listed : Array Bool} {i : Nat} (h : listed.getD i true = false) : left (listed.setIfInBounds i true) + 1 = left listed := by
 have hi : listed.toList[i]? = some false := by
  rw [Array.getElem?_toList]
  rw [Array.getD_eq_getD_getElem?] at h
  cases hx : listed[i]? with
  | none => rw [hx] at h; simp at h
  | some b => rw [hx] at h; simpa using h
 have := left_list listed.toList i hi
 unfold left
 rw [Array.toList_setIfInBounds]
 exact this

/-- Whatever is picked, Inv is kept; when nothing is left, the region is done. -/
theorem wp_inv {id : Nat} {a : Act} {w : World} (hm : P.follows .mixedOrders = true) (Inv : Array Bool → Act → World → Prop)
  (h0 : Inv (Array.replicate ops.size false) a { w with drawn := w.drawn + 1 })
  (step : ∀ listed a w i, Inv listed a w → listed.size = ops.size → i ∈ Region.ready .any ops listed → wpOp P ops Q i (fun a' w' => Inv (listed.setIfInBounds i true) a' w') a w)
  (done : ∀ listed a w, Inv listed a w → listed.size = ops.size → Region.ready .any ops listed = [] → Q .normal a w) : (Code.region id ops true).wp P Q a w := by
 refine wp_region_any hm ?_
 have key : ∀ fuel listed a w, left listed ≤ fuel → listed.size = ops.size → Inv listed a w → wpAny P .any ops Q fuel listed a w := by
  intro fuel
  induction fuel with
  | zero =>
   intro listed a w hl hs hI
   have hr : Region.ready .any ops listed = [] := by
    rcases hx : Region.ready .any ops listed with _ | ⟨i, r⟩
    ·rfl
    ·have hi : i ∈ Region.ready .any ops listed := by rw [hx]; exact List.mem_cons_self
     have := left_set (mem_ready.1 hi).1
     omega
   exact ⟨hr, done listed a w hI hs hr⟩
  | succ n ih =>
   intro listed a w hl hs hI
   refine ⟨fun hr => done listed a w hI hs hr, fun i hi => wpOp_mono (fun a' w' h => ?_) (step listed a w i hI hs hi)⟩
   have := left_set (mem_ready.1 hi).1
   exact ih _ a' w' (by omega) (by simpa using hs) h
 refine key _ _ a _ ?_ (by simp) h0
 unfold left
 refine Nat.le_trans (List.length_filter_le _ _) (by simp)

/-- Does operation i wait for operation j? -/
def waits (ops : Array Oper) (i j : Nat) : Bool := ((ops[i]?).map fun o => o.after.any fun e => e.on == j && Region.binds .any e).getD false
def writes (ops : Array Oper) (j d : Nat) : Bool := ((ops[j]?).bind (·.dst)) == some d
/-- The slots that operation i looks at; true: an operation for which it waits has written it. -/
def reads (ops : Array Oper) (i : Nat) : List (Nat × Bool) :=
 match ops[i]? with
 | none => []
 | some o => (o.looksAt ops).map fun d => (d, (List.range ops.size).any fun j => writes ops j d && waits ops i j)
/-- No slot is written twice; who writes what another looks at waits for it or is waited for. -/
def tidy (ops : Array Oper) : Bool :=
 ((List.range ops.size).all fun i => match ops[i]? with | none => true | some o => o.after.all fun e => !Region.binds .any e || decide (e.on < i)) && (List.range ops.size).all fun i => (List.range ops.size).all fun j => i == j || (match (ops[j]?).bind (·.dst) with
  | none => true
  | some d => !writes ops i d && (match ops[i]? with
   | none => true
   | some o => !(o.looksAt ops).contains d || waits ops i j || waits ops j i))

structure Inv (ops : Array Oper) (V : Nat → Value → World → Prop) (a0 : Act) (w0 : World) (listed : Array Bool) (a : Act) (w : World) : Prop where
 size : a.tmps.size = a0.tmps.size
 defers : a.defers = a0.defers
 below : Below w0.heap.size w0 w
 done : ∀ j d, writes ops j d = true → listed.getD j false = true → V d (a.tmps.getD d undef) w
 closed : ∀ j k, waits ops j k = true → listed.getD j false = true → listed.getD k false = true
 rest : ∀ d, (∀ j, writes ops j d = true → listed.getD j false = false) → a.tmps.getD d undef = a0.tmps.getD d undef

theorem getD_put (a : Act) (x : Option Tmp) (v : Value) (d : Nat) (hx : ∀ t, x = some t → t < a.tmps.size) : (a.put x v).tmps.getD d undef = if x = some d then v else a.tmps.getD d undef := by
 cases x with
 | none => simp [Act.put]
 | some t =>
  have := hx t rfl
  simp only [Act.put, Option.some.injEq]
  by_cases h : t = d
  ·subst h; simp [Array.getD_eq_getD_getElem?, this]
  ·rw [if_neg h]; simp [Array.getD_eq_getD_getElem?, Array.getElem?_setIfInBounds, h]

/-- What an operation owes: in every state in which what it looks at is as said, it leaves a value as said, and nothing that lay before has turned. -/
def Owes (P : Program) (ops : Array Oper) (Q : Exit → Act → World → Prop) (V : Nat → Value → World → Prop) (a0 : Act) (w0 : World) (i : Nat) : Prop :=
 ∀ a w, a.tmps.size = a0.tmps.size → a.defers = a0.defers → Below w0.heap.size w0 w →
  (∀ x ∈ reads ops i, (x.2 = true → V x.1 (a.tmps.getD x.1 undef) w) ∧ (x.2 = false → a.tmps.getD x.1 undef = a0.tmps.getD x.1 undef)) →
  wpOp P ops Q i (fun a' w' => ∃ v, a' = a.put ((ops[i]?).bind (·.dst)) v ∧ Below w.heap.size w w' ∧ ∀ d, writes ops i d = true → V d v w') a w

theorem writes_lt {j d : Nat} (h : writes ops j d = true) : j < ops.size := by
 rcases Nat.lt_or_ge j ops.size with hj | hj
 ·exact hj
 ·simp [writes, Array.getElem?_eq_none hj] at h

/-- When nothing is ready any more, all are listed. -/
theorem all_listed (ht : tidy ops = true) {listed : Array Bool} (hr : Region.ready .any ops listed = []) (hs : listed.size = ops.size) : ∀ j, j < ops.size → listed.getD j false = true := by
 intro j
 induction j using Nat.strongRecOn with
 | _ j ih =>
  intro hj
  cases hl : listed.getD j false with
  | true => rfl
  | false =>
   exfalso
   have ho : ops[j]? = some ops[j] := by simp [hj]
   have hmem : j ∈ Region.ready .any ops listed := mem_ready.2 ⟨by
    have : j < listed.size := by omega
    rw [Array.getD_eq_getD_getElem?] at hl ⊢
    simp [this] at hl ⊢
    exact hl, ops[j], ho, fun e he hbd => by
     unfold tidy at ht
     rw [Bool.and_eq_true] at ht
     have h1 := List.all_eq_true.1 ht.1 j (List.mem_range.2 hj)
     rw [ho] at h1
     simp only [Array.all_eq_true_iff_forall_mem, Bool.or_eq_true, Bool.not_eq_true', decide_eq_true_eq] at h1
     have := (h1 e he).resolve_left (by rw [hbd]; simp)
     exact ih e.on this (by omega)⟩
   rw [hr] at hmem
   cases hmem

theorem wp_held {id : Nat} {a0 : Act} {w0 : World} (hm : P.follows .mixedOrders = true) (V : Nat → Value → World → Prop)
  (hV : ∀ d v w w', V d v w → Below w.heap.size w w' → V d v w') (ht : tidy ops = true)
  (hsz : (ops.all fun o => match o.dst with | some d => decide (d < a0.tmps.size) | none => true) = true)
  (h : ∀ i, i < ops.size → Owes P ops Q V a0 w0 i)
  (hd : ∀ a w, a.tmps.size = a0.tmps.size → a.defers = a0.defers → Below w0.heap.size w0 w → (∀ j d, writes ops j d = true → V d (a.tmps.getD d undef) w) →
   (∀ d, (∀ j, writes ops j d = false) → a.tmps.getD d undef = a0.tmps.getD d undef) → Q .normal a w) :
  (Code.region id ops true).wp P Q a0 w0 := by
 have hdr : Below w0.heap.size w0 { w0 with drawn := w0.drawn + 1 } := ⟨rfl, rfl, rfl, Nat.le_refl _, fun _ _ => rfl⟩
 have hnone : ∀ j, (Array.replicate ops.size false).getD j false = false := fun j => by
  rw [Array.getD_eq_getD_getElem?]
  by_cases hj : j < ops.size <;> simp [hj]
 refine wp_inv hm (Inv ops V a0 w0) ⟨rfl, rfl, hdr, fun j d _ hl => ?_, fun j k _ hl => ?_, fun d _ => rfl⟩ ?_ ?_
 ·rw [hnone] at hl; cases hl
 ·rw [hnone] at hl; cases hl
 ·intro listed a w i hI hs hi
  obtain ⟨hun, o, ho, haf⟩ := mem_ready.1 hi
  have hil : i < ops.size := (Array.getElem?_eq_some_iff.1 ho).1
  have hwl : ∀ j, waits ops i j = true → listed.getD j false = true := fun j hj => by
   unfold waits at hj
   rw [ho] at hj
   simp only [Option.map_some, Option.getD_some, Array.any_eq_true', Bool.and_eq_true, beq_iff_eq] at hj
   obtain ⟨e, he, rfl, hb⟩ := hj
   exact haf e he hb
  have hilt : i < listed.size := by omega
  have hnl : listed.getD i false = false := by
   rw [Array.getD_eq_getD_getElem?] at hun ⊢
   simp [hilt] at hun ⊢
   exact hun
  have htd : ∀ j, j < ops.size → i ≠ j → ∀ d, writes ops j d = true → writes ops i d = false ∧ (d ∈ o.looksAt ops → waits ops i j = true ∨ waits ops j i = true) := fun j hj hne d hw => by
   unfold tidy at ht
   rw [Bool.and_eq_true] at ht
   have h1 := List.all_eq_true.1 (List.all_eq_true.1 ht.2 i (List.mem_range.2 hil)) j (List.mem_range.2 hj)
   unfold writes at hw
   have hdj : (ops[j]?).bind (·.dst) = some d := by simpa using hw
   rw [hdj, ho] at h1
   have hb : (i == j) = false := by simpa using hne
   rw [hb] at h1
   simp only [Bool.false_or, Bool.and_eq_true, Bool.not_eq_true', Bool.or_eq_true] at h1
   refine ⟨h1.1, fun hd => ?_⟩
   rcases h1.2 with (h2 | h2) | h2
   ·have : (o.looksAt ops).contains d = true := by simpa using hd
    rw [this] at h2; cases h2
   ·exact .inl h2
   ·exact .inr h2
  have hwn : ∀ j, waits ops j i = true → listed.getD j false = false := fun j hj => by
   cases hx : listed.getD j false with
   | false => rfl
   | true => have := hI.closed j i hj hx; rw [hnl] at this; cases this
  refine wpOp_mono (fun a' w' hh => ?_) (h i hil a w hI.size hI.defers hI.below (fun x hx => ?_))
  ·obtain ⟨v, rfl, hb, hv⟩ := hh
   have hdl : ∀ t, (ops[i]?).bind (·.dst) = some t → t < a.tmps.size := fun t hte => by
    rw [ho] at hte
    have h2 := Array.all_eq_true_iff_forall_mem.1 hsz o (Array.mem_of_getElem? ho)
    have h3 : o.dst = some t := hte
    rw [h3] at h2
    rw [hI.size]
    exact of_decide_eq_true h2
   have hli : ∀ j, j ≠ i → (listed.setIfInBounds i true).getD j false = listed.getD j false := fun j hj => getD_set_ne false (Ne.symm hj)
   have hself : (listed.setIfInBounds i true).getD i false = true := by
    rw [Array.getD_eq_getD_getElem?]; simp [hilt]
   refine ⟨?_, ?_, hI.below.trans (hb.mono hI.below.size), fun j d hw hl => ?_, fun j k hjk hl => ?_, fun d hd => ?_⟩
   ·cases hx : (ops[i]?).bind (·.dst) <;> simp [Act.put, hI.size]
   ·cases hx : (ops[i]?).bind (·.dst) <;> simp [Act.put, hI.defers]
   ·rw [getD_put a _ v d hdl]
    by_cases hji : j = i
    ·subst hji
     have : (ops[j]?).bind (·.dst) = some d := by simpa [writes] using hw
     rw [if_pos this]
     exact hv d hw
    ·have hne := (htd j (writes_lt hw) (Ne.symm hji) d hw).1
     rw [if_neg (by intro e; simp [writes, e] at hne)]
     rw [hli j hji] at hl
     exact hV _ _ _ _ (hI.done j d hw hl) hb
   ·by_cases hki : k = i
    ·subst hki; exact hself
    ·rw [hli k hki]
     by_cases hji : j = i
     ·subst hji; exact hwl k hjk
     ·rw [hli j hji] at hl; exact hI.closed j k hjk hl
   ·rw [getD_put a _ v d hdl]
    rw [if_neg]
    ·refine hI.rest d (fun j hw => ?_)
     have := hd j hw
     by_cases hji : j = i
     ·subst hji; rw [hself] at this; cases this
     ·rwa [hli j hji] at this
    ·intro e
     have := hd i (by simp [writes, e])
     rw [hself] at this; cases this
  ·unfold reads at hx
   rw [ho] at hx
   obtain ⟨d, hdm, rfl⟩ := List.mem_map.1 hx
   refine ⟨fun hf => ?_, fun hf => ?_⟩
   ·simp only [List.any_eq_true, List.mem_range, Bool.and_eq_true] at hf
    obtain ⟨j, _, hw, hwt⟩ := hf
    exact hI.done j d hw (hwl j hwt)
   ·refine hI.rest d (fun j hw => ?_)
    by_cases hji : j = i
    ·subst hji; exact hnl
    ·rcases (htd j (writes_lt hw) (Ne.symm hji) d hw).2 hdm with h1 | h1
     ·exfalso
      rw [List.any_eq_false] at hf
      have := hf j (List.mem_range.2 (writes_lt hw))
      simp [hw, h1] at this
     ·exact hwn j h1
 ·intro listed a w hI hs hr
  have hal := all_listed ht hr hs
  exact hd a w hI.size hI.defers hI.below (fun j d hw => hI.done j d hw (hal j (writes_lt hw))) (fun d hd => hI.rest d (fun j hw => by rw [hd j] at hw; cases hw))

/-- Slots set one after the other. -/
def putAll (a : Act) : List (Nat × Value) → Act
 | [] => a
 | (d, v) :: r => putAll (a.put (some d) v) r

theorem putAll_eq (a' : Act) : ∀ (ds : List Nat) (a0 : Act), a'.tmps.size = a0.tmps.size → a'.defers = a0.defers → (∀ d ∈ ds, d < a0.tmps.size) → (∀ d, d ∉ ds → a'.tmps.getD d undef = a0.tmps.getD d undef) →
  a' = putAll a0 (ds.map fun d => (d, a'.tmps.getD d undef))
 | [], a0, hs, hd, _, he => by
  obtain ⟨t, d⟩ := a'
  obtain ⟨t0, d0⟩ := a0
  simp only at hs hd he
  subst hd
  show _ = (⟨t0, d⟩ : Act)
  congr 1
  apply Array.ext hs
  intro k h1 h2
  have := he k (by simp)
  rw [Array.getD_eq_getD_getElem?, Array.getD_eq_getD_getElem?] at this
  simpa [h1, h2] using this
 | d :: r, a0, hs, hdf, hlt, he => by
  have hd0 := hlt d List.mem_cons_self
  simp only [List.map_cons, putAll]
  refine putAll_eq a' r _ ?_ ?_ ?_ ?_
  ·simp [Act.put, hs]
  ·simp [Act.put, hdf]
  ·intro e he'
   simp only [Act.put, Array.size_setIfInBounds]
   exact hlt e (List.mem_cons_of_mem _ he')
  ·intro e hne
   rw [getD_put a0 (some d) _ e (fun t h => by cases h; exact hd0)]
   by_cases hde : d = e
   ·subst hde; simp
   ·rw [if_neg (by simpa using hde)]
    exact he e (by simp; exact ⟨fun h => hde h.symm, hne⟩)

/-- The slots that a region writes. -/
def dsts (ops : Array Oper) : List Nat := ops.toList.filterMap (·.dst)

theorem mem_dsts {d : Nat} : d ∈ dsts ops ↔ ∃ j, writes ops j d = true := by
 unfold dsts writes
 rw [List.mem_filterMap]
 constructor
 ·rintro ⟨o, ho, hd⟩
  obtain ⟨j, hj, rfl⟩ := List.getElem_of_mem ho
  exact ⟨j, by simp at hj; simp [hj]; simpa using hd⟩
 ·rintro ⟨j, hj⟩
  cases hx : ops[j]? with
  | none => rw [hx] at hj; simp at hj
  | some o =>
   rw [hx] at hj
   exact ⟨o, by have := Array.mem_of_getElem? hx; simpa using this, by simpa using hj⟩

/-- The rule, its end with the frame written out. -/
theorem wp_held' {id : Nat} {a0 : Act} {w0 : World} (hm : P.follows .mixedOrders = true) (V : Nat → Value → World → Prop)
  (hV : ∀ d v w w', V d v w → Below w.heap.size w w' → V d v w') (ht : tidy ops = true) (D : List Nat) (hD : dsts ops = D)
  (hsz : (ops.all fun o => match o.dst with | some d => decide (d < a0.tmps.size) | none => true) = true)
  (h : ∀ i, i < ops.size → Owes P ops Q V a0 w0 i)
  (hd : ∀ (f : Nat → Value) w, (∀ d ∈ D, V d (f d) w) → Below w0.heap.size w0 w → Q .normal (putAll a0 (D.map fun d => (d, f d))) w) :
  (Code.region id ops true).wp P Q a0 w0 := by
 refine wp_held hm V hV ht hsz h (fun a w hs hdf hb hdone hrest => ?_)
 subst hD
 have e := putAll_eq a (dsts ops) a0 hs hdf (fun d hdm => by
  obtain ⟨j, hj⟩ := mem_dsts.1 hdm
  unfold writes at hj
  cases hx : ops[j]? with
  | none => rw [hx] at hj; simp at hj
  | some o =>
   rw [hx] at hj
   have h3 : o.dst = some d := by simpa using hj
   have h2 := Array.all_eq_true_iff_forall_mem.1 hsz o (Array.mem_of_getElem? hx)
   rw [h3] at h2
   exact of_decide_eq_true h2) (fun d hn => hrest d (fun j => by
  cases hx : writes ops j d with
  | false => rfl
  | true => exact absurd (mem_dsts.2 ⟨j, hx⟩) hn))
 rw [e]
 exact hd (fun d => a.tmps.getD d undef) w (fun d hdm => by obtain ⟨j, hj⟩ := mem_dsts.1 hdm; exact hdone j d hj) hb

/-- What is known of the slots that an operation looks at. -/
def Facts (V : Nat → Value → World → Prop) (a0 a : Act) (w : World) : List (Nat × Bool) → Prop
 | [] => True
 | (d, true) :: r => V d (a.tmps[d]?.getD undef) w ∧ Facts V a0 a w r
 | (d, false) :: r => a.tmps[d]?.getD undef = a0.tmps.getD d undef ∧ Facts V a0 a w r

theorem facts_of {V : Nat → Value → World → Prop} {a0 a : Act} {w : World} : ∀ {l : List (Nat × Bool)},
  (∀ x ∈ l, (x.2 = true → V x.1 (a.tmps.getD x.1 undef) w) ∧ (x.2 = false → a.tmps.getD x.1 undef = a0.tmps.getD x.1 undef)) → Facts V a0 a w l
 | [], _ => trivial
 | (d, true) :: r, h => ⟨by have := (h _ List.mem_cons_self).1 rfl; rwa [Array.getD_eq_getD_getElem?] at this, facts_of fun x hx => h x (List.mem_cons_of_mem _ hx)⟩
 | (d, false) :: r, h => ⟨by have := (h _ List.mem_cons_self).2 rfl; rwa [Array.getD_eq_getD_getElem? (xs := a.tmps)] at this, facts_of fun x hx => h x (List.mem_cons_of_mem _ hx)⟩

/-- An operation without a guard that leaves a value. -/
theorem owes_val {V : Nat → Value → World → Prop} {a0 : Act} {w0 : World} {i d : Nat} {o : Oper} {L : List (Nat × Bool)} (ho : ops[i]? = some o) (hg : o.guard = none) (hd : o.dst = some d) (hL : reads ops i = L)
  (h : ∀ a w, Below w0.heap.size w0 w → Facts V a0 a w L → o.wp P a w (fun a' w' => ∃ v, a' = a.put (some d) v ∧ Below w.heap.size w w' ∧ V d v w') Q) : Owes P ops Q V a0 w0 i := by
 intro a w _ _ hb hr
 rw [hL] at hr
 unfold wpOp
 rw [ho]
 simp only [Region.wanted, hg, if_true]
 refine .inl (Oper.wp_mono (fun a' w' hh => ?_) (h a w hb (facts_of hr)))
 obtain ⟨v, rfl, hb', hv⟩ := hh
 refine ⟨v, by rw [Option.bind_some, hd], hb', fun e he => ?_⟩
 have : d = e := by simpa [writes, ho, hd] using he
 subst this
 exact hv

/-- An operation that leaves no value. -/
theorem owes_none {V : Nat → Value → World → Prop} {a0 : Act} {w0 : World} {i : Nat} {o : Oper} {L : List (Nat × Bool)} (ho : ops[i]? = some o) (hg : o.guard = none) (hd : o.dst = none) (hL : reads ops i = L)
  (h : ∀ a w, Below w0.heap.size w0 w → Facts V a0 a w L → o.wp P a w (fun a' w' => ∃ v, a' = a.put none v ∧ Below w.heap.size w w') Q) : Owes P ops Q V a0 w0 i := by
 intro a w _ _ hb hr
 rw [hL] at hr
 unfold wpOp
 rw [ho]
 simp only [Region.wanted, hg, if_true]
 refine .inl (Oper.wp_mono (fun a' w' hh => ?_) (h a w hb (facts_of hr)))
 obtain ⟨v, rfl, hb'⟩ := hh
 exact ⟨v, by rw [Option.bind_some, hd]; rfl, hb', fun e he => by simp [writes, ho, hd] at he⟩
end
end Go.Proofs.YtfchglcclgcgfaaGreatDoor.Reg
/-
 The obligations of a region that draws its order: operations under a guard; frames that are written out. No condition.
-/
namespace Go.Proofs.YtfchglcclgcgfaaGreatDoor.Reg
open Go.RowKit
set_option linter.unusedVariables false
set_option linter.unusedSimpArgs false

section
variable {P : Program} {ops : Array Oper} {Q : Exit → Act → World → Prop}

theorem wanted_if {o : Oper} {g gd : Nat} {b : Bool} {c : Value} {a : Act} (hg : o.guard = some (g, b)) (hgd : (ops[g]?).bind (·.dst) = some gd) (h : a.tmps[gd]?.getD undef = c) :
  Region.wanted o (yielded ops a.tmps) = true ↔ c = .bool b := by
 have hy : yielded ops a.tmps g = match a.tmps[gd]? with | some (.bool b) => some b | _ => none := by
  simp only [yielded, hgd, Option.bind_some]
  generalize a.tmps[gd]? = z
  cases z with
  | none => rfl
  | some v => cases v <;> rfl
 simp only [Region.wanted, hg, hy]
 subst h
 cases hx : a.tmps[gd]? with
 | none => simp [undef]
 | some v => cases v <;> simp

/-- An operation under a guard that leaves a value. -/
theorem owes_if {V : Nat → Value → World → Prop} {a0 : Act} {w0 : World} {i d g gd : Nat} {b : Bool} {o : Oper} {L : List (Nat × Bool)} (ho : ops[i]? = some o) (hg : o.guard = some (g, b)) (hgd : (ops[g]?).bind (·.dst) = some gd) (hd : o.dst = some d) (hL : reads ops i = L)
  (h : ∀ a w, Below w0.heap.size w0 w → Facts V a0 a w L → ∃ c, a.tmps[gd]?.getD undef = c ∧
   (c = .bool b → o.wp P a w (fun a' w' => ∃ v, a' = a.put (some d) v ∧ Below w.heap.size w w' ∧ V d v w') Q) ∧ (c ≠ .bool b → V d undef w)) : Owes P ops Q V a0 w0 i := by
 intro a w _ _ hb hr
 rw [hL] at hr
 obtain ⟨c, hc, h1, h2⟩ := h a w hb (facts_of hr)
 unfold wpOp
 rw [ho]
 have hw := wanted_if (o := o) hg hgd hc
 have key : ∀ v w', V d v w' → ∀ e, writes ops i e = true → V e v w' := fun v w' hv e he => by
  have : d = e := by simpa [writes, ho, hd] using he
  subst this
  exact hv
 by_cases hcb : c = .bool b
 ·simp only [hw.2 hcb, if_true]
  refine .inl (Oper.wp_mono (fun a' w' hh => ?_) (h1 hcb))
  obtain ⟨v, rfl, hb', hv⟩ := hh
  exact ⟨v, by rw [Option.bind_some, hd], hb', key v w' hv⟩
 ·have hwf : Region.wanted o (yielded ops a.tmps) = false := by
   cases hx : Region.wanted o (yielded ops a.tmps) with
   | false => rfl
   | true => exact absurd (hw.1 hx) hcb
  simp only [hwf, Bool.false_eq_true, if_false]
  exact ⟨undef, by rw [Option.bind_some], Below.refl _ _, key _ _ (h2 hcb)⟩

/-- An operation under a guard that leaves no value. -/
theorem owes_if_none {V : Nat → Value → World → Prop} {a0 : Act} {w0 : World} {i g gd : Nat} {b : Bool} {o : Oper} {L : List (Nat × Bool)} (ho : ops[i]? = some o) (hg : o.guard = some (g, b)) (hgd : (ops[g]?).bind (·.dst) = some gd) (hd : o.dst = none) (hL : reads ops i = L)
  (h : ∀ a w, Below w0.heap.size w0 w → Facts V a0 a w L → ∃ c, a.tmps[gd]?.getD undef = c ∧
   (c = .bool b → o.wp P a w (fun a' w' => ∃ v, a' = a.put none v ∧ Below w.heap.size w w') Q)) : Owes P ops Q V a0 w0 i := by
 intro a w _ _ hb hr
 rw [hL] at hr
 obtain ⟨c, hc, h1⟩ := h a w hb (facts_of hr)
 unfold wpOp
 rw [ho]
 have hw := wanted_if (o := o) hg hgd hc
 have key : ∀ e, writes ops i e = true → False := fun e he => by simp [writes, ho, hd] at he
 by_cases hcb : c = .bool b
 ·simp only [hw.2 hcb, if_true]
  refine .inl (Oper.wp_mono (fun a' w' hh => ?_) (h1 hcb))
  obtain ⟨v, rfl, hb'⟩ := hh
  exact ⟨v, by rw [Option.bind_some, hd]; rfl, hb', fun e he => (key e he).elim⟩
 ·have hwf : Region.wanted o (yielded ops a.tmps) = false := by
   cases hx : Region.wanted o (yielded ops a.tmps) with
   | false => rfl
   | true => exact absurd (hw.1 hx) hcb
  simp only [hwf, Bool.false_eq_true, if_false]
  exact ⟨undef, by rw [Option.bind_some], Below.refl _ _, fun e he => (key e he).elim⟩
end

/-- A slot of a frame that is written out is put. -/
theorem put_lit (l : List Value) (df : List Deferred) (d : Nat) (v : Value) : ({ tmps := l.toArray, defers := df } : Act).put (some d) v = { tmps := (l.set d v).toArray, defers := df } := by
 simp [Act.put]
theorem Br (w : World) : Below w.heap.size w w := Below.refl _ _
theorem Ba (w : World) (o : Obj) : Below w.heap.size w (w.alloc o) := (Below.refl _ _).alloc (Nat.le_refl _) _
end Go.Proofs.YtfchglcclgcgfaaGreatDoor.Reg
