/-
  What the proof of the laws S rests on: the texts RoA. Conditions: each theorem names its own.
-/
import Derived.Test.YtfchglcclgcgfaaGreatDoorMgSg
/-
 metric.pair of two summaries. Condition: the two tables of unicode/utf8 lie as laid; bounded summaries.
-/
namespace Go.Proofs.YtfchglcclgcgfaaGreatDoor.Ut
open Go.RowKit Go.Proofs.YtfchglcclgcgfaaGreatDoor.Reg
set_option linter.unusedVariables false
set_option linter.unusedSimpArgs false

/-- A summary whose counts are small. -/
structure SmB (m : Sm) : Prop where
 b : 0 ≤ m.bytes ∧ m.bytes ≤ 68719476736
 u : 0 ≤ m.units ∧ m.units ≤ 68719476736
 c : 0 ≤ m.clusters ∧ m.clusters ≤ 68719476736
 w : 0 ≤ m.cells ∧ m.cells ≤ 68719476736
 n : 0 ≤ m.newlines ∧ m.newlines ≤ 68719476736
 h : m.head.size ≤ 16
 t : m.tail.size ≤ 16
def cntC (s : ByteArray) : Nat := (clAts s 0).length
def cntW (s : ByteArray) : Int := sumW s (clAts s 0)
def pairF (a b : Sm) : Sm := ⟨a.bytes + b.bytes, a.units + b.units + Lib.runeCount (a.tail ++ b.head) - Lib.runeCount a.tail - Lib.runeCount b.head, a.clusters + b.clusters + cntC (a.tail ++ b.head) - cntC a.tail - cntC b.head, a.cells + b.cells + cntW (a.tail ++ b.head) - cntW a.tail - cntW b.head, a.newlines + b.newlines, if a.head.size < 16 then headF (a.head ++ b.head) else a.head, if b.tail.size < 16 then tailF (a.tail ++ b.tail) else b.tail⟩
def Sm.cells7 (m : Sm) : List Value := [.int .i64 m.bytes, .int .i64 m.units, .int .i64 m.clusters, .int .i64 m.cells, .int .i64 m.newlines, .string m.head, .string m.tail]
theorem cntC_le (s : ByteArray) : cntC s ≤ s.size := by have := clAts_length s 0; unfold cntC; omega
theorem cntW_le (s : ByteArray) : 0 ≤ cntW s ∧ cntW s ≤ 2 * s.size := by have := sumW_bounds s (clAts s 0); have := clAts_length s 0; unfold cntW; omega

def VPair (A B n0 : Nat) (a b : Sm) (U3 U1 U2 C3 C1 C2 : Nat) (W3 W1 W2 : Int) : Nat → Value → World → Prop := fun d x w => match d with
 | 18 => x = .pointer (some ⟨A, 0, none⟩)
 | 19 => x = .int .i64 a.bytes
 | 20 => x = .pointer (some ⟨B, 0, none⟩)
 | 21 => x = .int .i64 b.bytes
 | 22 => x = .int .i64 (a.bytes + b.bytes)
 | 23 => x = .pointer (some ⟨A, 1, none⟩)
 | 24 => x = .int .i64 a.units
 | 25 => x = .pointer (some ⟨B, 1, none⟩)
 | 26 => x = .int .i64 b.units
 | 27 => x = .int .i64 (a.units + b.units)
 | 28 => x = .string (a.tail ++ b.head)
 | 29 => x = .int .i64 U3
 | 30 => x = .int .i64 ((a.units + b.units) + U3)
 | 31 => x = .string a.tail
 | 32 => x = .int .i64 U1
 | 33 => x = .int .i64 (((a.units + b.units) + U3) - U1)
 | 34 => x = .string b.head
 | 35 => x = .int .i64 U2
 | 36 => x = .int .i64 ((((a.units + b.units) + U3) - U1) - U2)
 | 37 => x = .pointer (some ⟨A, 2, none⟩)
 | 38 => x = .int .i64 a.clusters
 | 39 => x = .pointer (some ⟨B, 2, none⟩)
 | 40 => x = .int .i64 b.clusters
 | 41 => x = .int .i64 (a.clusters + b.clusters)
 | 42 => x = .string (a.tail ++ b.head)
 | 43 => x = .int .i64 C3
 | 44 => x = .int .i64 ((a.clusters + b.clusters) + C3)
 | 45 => x = .string a.tail
 | 46 => x = .int .i64 C1
 | 47 => x = .int .i64 (((a.clusters + b.clusters) + C3) - C1)
 | 48 => x = .string b.head
 | 49 => x = .int .i64 C2
 | 50 => x = .int .i64 ((((a.clusters + b.clusters) + C3) - C1) - C2)
 | 51 => x = .pointer (some ⟨A, 3, none⟩)
 | 52 => x = .int .i64 a.cells
 | 53 => x = .pointer (some ⟨B, 3, none⟩)
 | 54 => x = .int .i64 b.cells
 | 55 => x = .int .i64 (a.cells + b.cells)
 | 56 => x = .string (a.tail ++ b.head)
 | 57 => x = .int .i64 W3
 | 58 => x = .int .i64 ((a.cells + b.cells) + W3)
 | 59 => x = .string a.tail
 | 60 => x = .int .i64 W1
 | 61 => x = .int .i64 (((a.cells + b.cells) + W3) - W1)
 | 62 => x = .string b.head
 | 63 => x = .int .i64 W2
 | 64 => x = .int .i64 ((((a.cells + b.cells) + W3) - W1) - W2)
 | 65 => x = .pointer (some ⟨A, 4, none⟩)
 | 66 => x = .int .i64 a.newlines
 | 67 => x = .pointer (some ⟨B, 4, none⟩)
 | 68 => x = .int .i64 b.newlines
 | 69 => x = .int .i64 (a.newlines + b.newlines)
 | 70 => x = .pointer (some ⟨A, 5, none⟩)
 | 71 => x = .string a.head
 | 72 => x = .pointer (some ⟨B, 6, none⟩)
 | 73 => x = .string b.tail
 | 74 => x = .agg #[.int .i64 (a.bytes + b.bytes), .int .i64 ((((a.units + b.units) + U3) - U1) - U2), .int .i64 ((((a.clusters + b.clusters) + C3) - C1) - C2), .int .i64 ((((a.cells + b.cells) + W3) - W1) - W2), .int .i64 (a.newlines + b.newlines), .string a.head, .string b.tail]
 | 8 => ∃ g, x = .pointer (some ⟨g, 0, none⟩) ∧ n0 ≤ g ∧ Lies w g zero7
 | _ => True
theorem VPair_mono (A B n0 : Nat) (a b : Sm) (U3 U1 U2 C3 C1 C2 : Nat) (W3 W1 W2 : Int) : ∀ d x w w', VPair A B n0 a b U3 U1 U2 C3 C1 C2 W3 W1 W2 d x w → Below w.heap.size w w' → VPair A B n0 a b U3 U1 U2 C3 C1 C2 W3 W1 W2 d x w' := by
 intro d x w w' h hb
 unfold VPair at *
 split <;> first | exact h | exact trivial | skip
 obtain ⟨g, h1, h2, h3⟩ := h
 exact ⟨g, h1, h2, h3.below hb⟩

theorem boxes3 (w : World) (a b c : List Value) (t u v : TypeId) : ∃ W0, ((w.alloc (.cells a.toArray t)).alloc (.cells b.toArray u)).alloc (.cells c.toArray v) = W0 ∧ Lies W0 w.heap.size a ∧ Lies W0 (w.heap.size + 1) b ∧ Lies W0 (w.heap.size + 1 + 1) c ∧ Below w.heap.size w W0 ∧ W0.heap.size = w.heap.size + 1 + 1 + 1 := by
 have h1 : Below (w.alloc (.cells a.toArray t)).heap.size (w.alloc (.cells a.toArray t)) ((w.alloc (.cells a.toArray t)).alloc (.cells b.toArray u)) := (Below.refl _ _).alloc (Nat.le_refl _) _
 have h2 : Below ((w.alloc (.cells a.toArray t)).alloc (.cells b.toArray u)).heap.size ((w.alloc (.cells a.toArray t)).alloc (.cells b.toArray u)) (((w.alloc (.cells a.toArray t)).alloc (.cells b.toArray u)).alloc (.cells c.toArray v)) := (Below.refl _ _).alloc (Nat.le_refl _) _
 have s1 : (w.alloc (.cells a.toArray t)).heap.size = w.heap.size + 1 := by simp
 have s2 : ((w.alloc (.cells a.toArray t)).alloc (.cells b.toArray u)).heap.size = w.heap.size + 1 + 1 := by simp
 have k1 := ((Lies.new w a t).below h1).below h2
 have k2 := (Lies.new (w.alloc (.cells a.toArray t)) b u).below h2
 have k3 := Lies.new ((w.alloc (.cells a.toArray t)).alloc (.cells b.toArray u)) c v
 rw [s1] at k2
 rw [s2] at k3
 exact ⟨_, rfl, k1, k2, k3, (((Below.refl _ _).alloc (Nat.le_refl _) _).alloc (by simp) _).alloc (by simp; omega) _, by simp⟩

theorem seven {W : World} {g : Nat} {m : Sm} (h : Lies W g m.cells7) : W.cell? ⟨g, 0, none⟩ = some (.int .i64 m.bytes) ∧ W.cell? ⟨g, 1, none⟩ = some (.int .i64 m.units) ∧ W.cell? ⟨g, 2, none⟩ = some (.int .i64 m.clusters) ∧ W.cell? ⟨g, 3, none⟩ = some (.int .i64 m.cells) ∧ W.cell? ⟨g, 4, none⟩ = some (.int .i64 m.newlines) ∧ W.cell? ⟨g, 5, none⟩ = some (.string m.head) ∧ W.cell? ⟨g, 6, none⟩ = some (.string m.tail) :=
 ⟨(h.2 0 _ rfl).1, (h.2 1 _ rfl).1, (h.2 2 _ rfl).1, (h.2 3 _ rfl).1, (h.2 4 _ rfl).1, (h.2 5 _ rfl).1, (h.2 6 _ rfl).1⟩

set_option maxRecDepth 100000 in
set_option maxHeartbeats 4000000 in
theorem pair_any (a b : Sm) (w : World) (hT : Tabs w) (ha : SmB a) (hb : SmB b) : Calls Tryz.prog 202 #[a.val, b.val] w fun e w' => e = .returned (pairF a b).val ∧ Below w.heap.size w w' := by
 obtain ⟨P, hP⟩ : ∃ P, pairF a b = P := ⟨_, rfl⟩
 rw [hP]
 have HP := Lib.hid hP
 clear hP
 obtain ⟨W0, hW0, A0, B0, R0, b0, hsz⟩ := boxes3 w a.cells7 b.cells7 zero7 48 48 48
 have HA := Lib.hid A0
 have HB := Lib.hid B0
 have HR := Lib.hid R0
 have HW := Lib.hid b0
 have HS := Lib.hid hsz
 have HT := Lib.hid (tabs_below hT b0)
 have c6 := (A0.2 6 _ rfl).1
 have d5 := (B0.2 5 _ rfl).1
 have hh := ha.t
 have hh2 := hb.h
 unfold Sm.cells7 zero7 at hW0
 have HE := Lib.hid hW0
 clear A0 B0 R0 b0 hsz hT hW0
 unfold Sm.val
 go_enter Tryz.func202, Tryz.ntmps202
 go_wp2
 rw [HE.out]
 go_quiet (fail)
 go_wp2
 have hD := Drawn.below (w := W0) nq
 have hDs : (W0.drewN nq).heap.size = W0.heap.size := rfl
 have A1 := HA.out.below hD
 have B1 := HB.out.below hD
 have R1 := Lib.hid (HR.out.below hD)
 have HW1 := Lib.hid (HW.out.trans (hD.mono HW.out.size))
 have HT1 := Lib.hid (tabs_below HT.out hD)
 have HS1 := Lib.hid (hDs.trans HS.out)
 clear c6 d5 hD hDs HA HB HR HW HT HS HE
 generalize W0.drewN nq = w1 at *
 generalize hA : w.heap.size = A at *
 have cA : ∀ j v, a.cells7[j]? = some v → w1.cell? ⟨A, j, none⟩ = some v := fun j v h => (A1.2 j v h).1
 have cB : ∀ j v, b.cells7[j]? = some v → w1.cell? ⟨A + 1, j, none⟩ = some v := fun j v h => (B1.2 j v h).1
 have lA := A1.1
 have lB := B1.1
 have HcA := Lib.hid cA
 have HcB := Lib.hid cB
 have HA1 := Lib.hid A1
 have HB1 := Lib.hid B1
 obtain ⟨a1, a1'⟩ := ha.b
 obtain ⟨a2, a2'⟩ := ha.u
 obtain ⟨a3, a3'⟩ := ha.c
 obtain ⟨a4, a4'⟩ := ha.w
 obtain ⟨a5, a5'⟩ := ha.n
 obtain ⟨b1, b1'⟩ := hb.b
 obtain ⟨b2, b2'⟩ := hb.u
 obtain ⟨b3, b3'⟩ := hb.c
 obtain ⟨b4, b4'⟩ := hb.w
 obtain ⟨b5, b5'⟩ := hb.n
 have hz3 : (a.tail ++ b.head).size ≤ 32 := by rw [ByteArray.size_append]; omega
 have l1 := Lib.runeCount_le (a.tail ++ b.head)
 have l2 := Lib.runeCount_le a.tail
 have l3 := Lib.runeCount_le b.head
 have l4 := cntC_le (a.tail ++ b.head)
 have l5 := cntC_le a.tail
 have l6 := cntC_le b.head
 obtain ⟨l7, l7'⟩ := cntW_le (a.tail ++ b.head)
 obtain ⟨l8, l8'⟩ := cntW_le a.tail
 obtain ⟨l9, l9'⟩ := cntW_le b.head
 refine wp_held_far mixed (VPair A (A + 1) w1.heap.size a b (Lib.runeCount (a.tail ++ b.head)) (Lib.runeCount a.tail) (Lib.runeCount b.head) (cntC (a.tail ++ b.head)) (cntC a.tail) (cntC b.head) (cntW (a.tail ++ b.head)) (cntW a.tail) (cntW b.head)) (VPair_mono _ _ _ _ _ _ _ _ _ _ _ _ _ _) (by kernel_rfl) [18, 19, 20, 21, 22, 23, 24, 25, 26, 27, 28, 29, 30, 31, 32, 33, 34, 35, 36, 37, 38, 39, 40, 41, 42, 43, 44, 45, 46, 47, 48, 49, 50, 51, 52, 53, 54, 55, 56, 57, 58, 59, 60, 61, 62, 63, 64, 65, 66, 67, 68, 69, 70, 71, 72, 73, 74, 8] (by kernel_rfl) 58 (by kernel_rfl) (by kernel_rfl) (by kernel_rfl) (by kernel_rfl) ?_ ?_
 ·intro j hj
  have hj' : j < 58 := hj
  rcases (by omega : j = 0 ∨ j = 1 ∨ j = 2 ∨ j = 3 ∨ j = 4 ∨ j = 5 ∨ j = 6 ∨ j = 7 ∨ j = 8 ∨ j = 9 ∨ j = 10 ∨ j = 11 ∨ j = 12 ∨ j = 13 ∨ j = 14 ∨ j = 15 ∨ j = 16 ∨ j = 17 ∨ j = 18 ∨ j = 19 ∨ j = 20 ∨ j = 21 ∨ j = 22 ∨ j = 23 ∨ j = 24 ∨ j = 25 ∨ j = 26 ∨ j = 27 ∨ j = 28 ∨ j = 29 ∨ j = 30 ∨ j = 31 ∨ j = 32 ∨ j = 33 ∨ j = 34 ∨ j = 35 ∨ j = 36 ∨ j = 37 ∨ j = 38 ∨ j = 39 ∨ j = 40 ∨ j = 41 ∨ j = 42 ∨ j = 43 ∨ j = 44 ∨ j = 45 ∨ j = 46 ∨ j = 47 ∨ j = 48 ∨ j = 49 ∨ j = 50 ∨ j = 51 ∨ j = 52 ∨ j = 53 ∨ j = 54 ∨ j = 55 ∨ j = 56 ∨ j = 57) with rfl | rfl | rfl | rfl | rfl | rfl | rfl | rfl | rfl | rfl | rfl | rfl | rfl | rfl | rfl | rfl | rfl | rfl | rfl | rfl | rfl | rfl | rfl | rfl | rfl | rfl | rfl | rfl | rfl | rfl | rfl | rfl | rfl | rfl | rfl | rfl | rfl | rfl | rfl | rfl | rfl | rfl | rfl | rfl | rfl | rfl | rfl | rfl | rfl | rfl | rfl | rfl | rfl | rfl | rfl | rfl | rfl | rfl
  ·(refine owes_val (L := [(2, false)]) rfl rfl rfl (by kernel_rfl) ?_; intro a' w' hb' hfacts; obtain ⟨hf2, -⟩ := hfacts; replace hf2 : a'.tmps[2]?.getD undef = .pointer (some ⟨A, 0, none⟩) := hf2)
   obtain ⟨q0, q1, q2, q3, q4, q5, q6⟩ := seven (HA1.out.below hb'); obtain ⟨r0, r1, r2, r3, r4, r5, r6⟩ := seven (HB1.out.below hb')
   (go_simp; first | exact ⟨_, rfl, Br _, rfl⟩ | exact ⟨_, rfl, Br _, trivial⟩ | exact ⟨_, rfl, Ba _ _, trivial⟩ | exact ⟨_, rfl, Br _, congrArg (Value.int _) (IntWalk.i64_in _ (by omega))⟩)
  ·(refine owes_val (L := [(18, true)]) rfl rfl rfl (by kernel_rfl) ?_; intro a' w' hb' hfacts; obtain ⟨hf18, -⟩ := hfacts; try simp only [VPair] at hf18)
   obtain ⟨q0, q1, q2, q3, q4, q5, q6⟩ := seven (HA1.out.below hb'); obtain ⟨r0, r1, r2, r3, r4, r5, r6⟩ := seven (HB1.out.below hb')
   (go_simp; first | exact ⟨_, rfl, Br _, rfl⟩ | exact ⟨_, rfl, Br _, trivial⟩ | exact ⟨_, rfl, Ba _ _, trivial⟩ | exact ⟨_, rfl, Br _, congrArg (Value.int _) (IntWalk.i64_in _ (by omega))⟩)
  ·(refine owes_val (L := [(3, false)]) rfl rfl rfl (by kernel_rfl) ?_; intro a' w' hb' hfacts; obtain ⟨hf3, -⟩ := hfacts; replace hf3 : a'.tmps[3]?.getD undef = .pointer (some ⟨A + 1, 0, none⟩) := hf3)
   obtain ⟨q0, q1, q2, q3, q4, q5, q6⟩ := seven (HA1.out.below hb'); obtain ⟨r0, r1, r2, r3, r4, r5, r6⟩ := seven (HB1.out.below hb')
   (go_simp; first | exact ⟨_, rfl, Br _, rfl⟩ | exact ⟨_, rfl, Br _, trivial⟩ | exact ⟨_, rfl, Ba _ _, trivial⟩ | exact ⟨_, rfl, Br _, congrArg (Value.int _) (IntWalk.i64_in _ (by omega))⟩)
  ·(refine owes_val (L := [(20, true)]) rfl rfl rfl (by kernel_rfl) ?_; intro a' w' hb' hfacts; obtain ⟨hf20, -⟩ := hfacts; try simp only [VPair] at hf20)
   obtain ⟨q0, q1, q2, q3, q4, q5, q6⟩ := seven (HA1.out.below hb'); obtain ⟨r0, r1, r2, r3, r4, r5, r6⟩ := seven (HB1.out.below hb')
   (go_simp; first | exact ⟨_, rfl, Br _, rfl⟩ | exact ⟨_, rfl, Br _, trivial⟩ | exact ⟨_, rfl, Ba _ _, trivial⟩ | exact ⟨_, rfl, Br _, congrArg (Value.int _) (IntWalk.i64_in _ (by omega))⟩)
  ·(refine owes_val (L := [(19, true), (21, true)]) rfl rfl rfl (by kernel_rfl) ?_; intro a' w' hb' hfacts; obtain ⟨hf19, hf21, -⟩ := hfacts; try simp only [VPair] at hf19; try simp only [VPair] at hf21)
   obtain ⟨q0, q1, q2, q3, q4, q5, q6⟩ := seven (HA1.out.below hb'); obtain ⟨r0, r1, r2, r3, r4, r5, r6⟩ := seven (HB1.out.below hb')
   (go_simp; first | exact ⟨_, rfl, Br _, rfl⟩ | exact ⟨_, rfl, Br _, trivial⟩ | exact ⟨_, rfl, Ba _ _, trivial⟩ | exact ⟨_, rfl, Br _, congrArg (Value.int _) (IntWalk.i64_in _ (by omega))⟩)
  ·(refine owes_val (L := [(2, false)]) rfl rfl rfl (by kernel_rfl) ?_; intro a' w' hb' hfacts; obtain ⟨hf2, -⟩ := hfacts; replace hf2 : a'.tmps[2]?.getD undef = .pointer (some ⟨A, 0, none⟩) := hf2)
   obtain ⟨q0, q1, q2, q3, q4, q5, q6⟩ := seven (HA1.out.below hb'); obtain ⟨r0, r1, r2, r3, r4, r5, r6⟩ := seven (HB1.out.below hb')
   (go_simp; first | exact ⟨_, rfl, Br _, rfl⟩ | exact ⟨_, rfl, Br _, trivial⟩ | exact ⟨_, rfl, Ba _ _, trivial⟩ | exact ⟨_, rfl, Br _, congrArg (Value.int _) (IntWalk.i64_in _ (by omega))⟩)
  ·(refine owes_val (L := [(23, true)]) rfl rfl rfl (by kernel_rfl) ?_; intro a' w' hb' hfacts; obtain ⟨hf23, -⟩ := hfacts; try simp only [VPair] at hf23)
   obtain ⟨q0, q1, q2, q3, q4, q5, q6⟩ := seven (HA1.out.below hb'); obtain ⟨r0, r1, r2, r3, r4, r5, r6⟩ := seven (HB1.out.below hb')
   (go_simp; first | exact ⟨_, rfl, Br _, rfl⟩ | exact ⟨_, rfl, Br _, trivial⟩ | exact ⟨_, rfl, Ba _ _, trivial⟩ | exact ⟨_, rfl, Br _, congrArg (Value.int _) (IntWalk.i64_in _ (by omega))⟩)
  ·(refine owes_val (L := [(3, false)]) rfl rfl rfl (by kernel_rfl) ?_; intro a' w' hb' hfacts; obtain ⟨hf3, -⟩ := hfacts; replace hf3 : a'.tmps[3]?.getD undef = .pointer (some ⟨A + 1, 0, none⟩) := hf3)
   obtain ⟨q0, q1, q2, q3, q4, q5, q6⟩ := seven (HA1.out.below hb'); obtain ⟨r0, r1, r2, r3, r4, r5, r6⟩ := seven (HB1.out.below hb')
   (go_simp; first | exact ⟨_, rfl, Br _, rfl⟩ | exact ⟨_, rfl, Br _, trivial⟩ | exact ⟨_, rfl, Ba _ _, trivial⟩ | exact ⟨_, rfl, Br _, congrArg (Value.int _) (IntWalk.i64_in _ (by omega))⟩)
  ·(refine owes_val (L := [(25, true)]) rfl rfl rfl (by kernel_rfl) ?_; intro a' w' hb' hfacts; obtain ⟨hf25, -⟩ := hfacts; try simp only [VPair] at hf25)
   obtain ⟨q0, q1, q2, q3, q4, q5, q6⟩ := seven (HA1.out.below hb'); obtain ⟨r0, r1, r2, r3, r4, r5, r6⟩ := seven (HB1.out.below hb')
   (go_simp; first | exact ⟨_, rfl, Br _, rfl⟩ | exact ⟨_, rfl, Br _, trivial⟩ | exact ⟨_, rfl, Ba _ _, trivial⟩ | exact ⟨_, rfl, Br _, congrArg (Value.int _) (IntWalk.i64_in _ (by omega))⟩)
  ·(refine owes_val (L := [(24, true), (26, true)]) rfl rfl rfl (by kernel_rfl) ?_; intro a' w' hb' hfacts; obtain ⟨hf24, hf26, -⟩ := hfacts; try simp only [VPair] at hf24; try simp only [VPair] at hf26)
   obtain ⟨q0, q1, q2, q3, q4, q5, q6⟩ := seven (HA1.out.below hb'); obtain ⟨r0, r1, r2, r3, r4, r5, r6⟩ := seven (HB1.out.below hb')
   (go_simp; first | exact ⟨_, rfl, Br _, rfl⟩ | exact ⟨_, rfl, Br _, trivial⟩ | exact ⟨_, rfl, Ba _ _, trivial⟩ | exact ⟨_, rfl, Br _, congrArg (Value.int _) (IntWalk.i64_in _ (by omega))⟩)
  ·(refine owes_val (L := [(7, false)]) rfl rfl rfl (by kernel_rfl) ?_; intro a' w' hb' hfacts; obtain ⟨hf7, -⟩ := hfacts; replace hf7 : a'.tmps[7]?.getD undef = .string (a.tail ++ b.head) := hf7)
   obtain ⟨q0, q1, q2, q3, q4, q5, q6⟩ := seven (HA1.out.below hb'); obtain ⟨r0, r1, r2, r3, r4, r5, r6⟩ := seven (HB1.out.below hb')
   (go_simp; first | exact ⟨_, rfl, Br _, rfl⟩ | exact ⟨_, rfl, Br _, trivial⟩ | exact ⟨_, rfl, Ba _ _, trivial⟩ | exact ⟨_, rfl, Br _, congrArg (Value.int _) (IntWalk.i64_in _ (by omega))⟩)
  ·(refine owes_val (L := [(28, true)]) rfl rfl rfl (by kernel_rfl) ?_; intro a' w' hb' hfacts; obtain ⟨hf28, -⟩ := hfacts; try simp only [VPair] at hf28)
   go_simp
   refine (UnitCount_any (a.tail ++ b.head) _ (by omega)).mono ?_
   rintro e w3 ⟨rfl, hb3⟩
   exact ⟨_, rfl, hb3, rfl⟩
  ·(refine owes_val (L := [(27, true), (29, true)]) rfl rfl rfl (by kernel_rfl) ?_; intro a' w' hb' hfacts; obtain ⟨hf27, hf29, -⟩ := hfacts; try simp only [VPair] at hf27; try simp only [VPair] at hf29)
   obtain ⟨q0, q1, q2, q3, q4, q5, q6⟩ := seven (HA1.out.below hb'); obtain ⟨r0, r1, r2, r3, r4, r5, r6⟩ := seven (HB1.out.below hb')
   (go_simp; first | exact ⟨_, rfl, Br _, rfl⟩ | exact ⟨_, rfl, Br _, trivial⟩ | exact ⟨_, rfl, Ba _ _, trivial⟩ | exact ⟨_, rfl, Br _, congrArg (Value.int _) (IntWalk.i64_in _ (by omega))⟩)
  ·(refine owes_val (L := [(5, false)]) rfl rfl rfl (by kernel_rfl) ?_; intro a' w' hb' hfacts; obtain ⟨hf5, -⟩ := hfacts; replace hf5 : a'.tmps[5]?.getD undef = .string a.tail := hf5)
   obtain ⟨q0, q1, q2, q3, q4, q5, q6⟩ := seven (HA1.out.below hb'); obtain ⟨r0, r1, r2, r3, r4, r5, r6⟩ := seven (HB1.out.below hb')
   (go_simp; first | exact ⟨_, rfl, Br _, rfl⟩ | exact ⟨_, rfl, Br _, trivial⟩ | exact ⟨_, rfl, Ba _ _, trivial⟩ | exact ⟨_, rfl, Br _, congrArg (Value.int _) (IntWalk.i64_in _ (by omega))⟩)
  ·(refine owes_val (L := [(31, true)]) rfl rfl rfl (by kernel_rfl) ?_; intro a' w' hb' hfacts; obtain ⟨hf31, -⟩ := hfacts; try simp only [VPair] at hf31)
   go_simp
   refine (UnitCount_any (a.tail) _ (by omega)).mono ?_
   rintro e w3 ⟨rfl, hb3⟩
   exact ⟨_, rfl, hb3, rfl⟩
  ·(refine owes_val (L := [(30, true), (32, true)]) rfl rfl rfl (by kernel_rfl) ?_; intro a' w' hb' hfacts; obtain ⟨hf30, hf32, -⟩ := hfacts; try simp only [VPair] at hf30; try simp only [VPair] at hf32)
   obtain ⟨q0, q1, q2, q3, q4, q5, q6⟩ := seven (HA1.out.below hb'); obtain ⟨r0, r1, r2, r3, r4, r5, r6⟩ := seven (HB1.out.below hb')
   (go_simp; first | exact ⟨_, rfl, Br _, rfl⟩ | exact ⟨_, rfl, Br _, trivial⟩ | exact ⟨_, rfl, Ba _ _, trivial⟩ | exact ⟨_, rfl, Br _, congrArg (Value.int _) (IntWalk.i64_in _ (by omega))⟩)
  ·(refine owes_val (L := [(6, false)]) rfl rfl rfl (by kernel_rfl) ?_; intro a' w' hb' hfacts; obtain ⟨hf6, -⟩ := hfacts; replace hf6 : a'.tmps[6]?.getD undef = .string b.head := hf6)
   obtain ⟨q0, q1, q2, q3, q4, q5, q6⟩ := seven (HA1.out.below hb'); obtain ⟨r0, r1, r2, r3, r4, r5, r6⟩ := seven (HB1.out.below hb')
   (go_simp; first | exact ⟨_, rfl, Br _, rfl⟩ | exact ⟨_, rfl, Br _, trivial⟩ | exact ⟨_, rfl, Ba _ _, trivial⟩ | exact ⟨_, rfl, Br _, congrArg (Value.int _) (IntWalk.i64_in _ (by omega))⟩)
  ·(refine owes_val (L := [(34, true)]) rfl rfl rfl (by kernel_rfl) ?_; intro a' w' hb' hfacts; obtain ⟨hf34, -⟩ := hfacts; try simp only [VPair] at hf34)
   go_simp
   refine (UnitCount_any (b.head) _ (by omega)).mono ?_
   rintro e w3 ⟨rfl, hb3⟩
   exact ⟨_, rfl, hb3, rfl⟩
  ·(refine owes_val (L := [(33, true), (35, true)]) rfl rfl rfl (by kernel_rfl) ?_; intro a' w' hb' hfacts; obtain ⟨hf33, hf35, -⟩ := hfacts; try simp only [VPair] at hf33; try simp only [VPair] at hf35)
   obtain ⟨q0, q1, q2, q3, q4, q5, q6⟩ := seven (HA1.out.below hb'); obtain ⟨r0, r1, r2, r3, r4, r5, r6⟩ := seven (HB1.out.below hb')
   (go_simp; first | exact ⟨_, rfl, Br _, rfl⟩ | exact ⟨_, rfl, Br _, trivial⟩ | exact ⟨_, rfl, Ba _ _, trivial⟩ | exact ⟨_, rfl, Br _, congrArg (Value.int _) (IntWalk.i64_in _ (by omega))⟩)
  ·(refine owes_val (L := [(2, false)]) rfl rfl rfl (by kernel_rfl) ?_; intro a' w' hb' hfacts; obtain ⟨hf2, -⟩ := hfacts; replace hf2 : a'.tmps[2]?.getD undef = .pointer (some ⟨A, 0, none⟩) := hf2)
   obtain ⟨q0, q1, q2, q3, q4, q5, q6⟩ := seven (HA1.out.below hb'); obtain ⟨r0, r1, r2, r3, r4, r5, r6⟩ := seven (HB1.out.below hb')
   (go_simp; first | exact ⟨_, rfl, Br _, rfl⟩ | exact ⟨_, rfl, Br _, trivial⟩ | exact ⟨_, rfl, Ba _ _, trivial⟩ | exact ⟨_, rfl, Br _, congrArg (Value.int _) (IntWalk.i64_in _ (by omega))⟩)
  ·(refine owes_val (L := [(37, true)]) rfl rfl rfl (by kernel_rfl) ?_; intro a' w' hb' hfacts; obtain ⟨hf37, -⟩ := hfacts; try simp only [VPair] at hf37)
   obtain ⟨q0, q1, q2, q3, q4, q5, q6⟩ := seven (HA1.out.below hb'); obtain ⟨r0, r1, r2, r3, r4, r5, r6⟩ := seven (HB1.out.below hb')
   (go_simp; first | exact ⟨_, rfl, Br _, rfl⟩ | exact ⟨_, rfl, Br _, trivial⟩ | exact ⟨_, rfl, Ba _ _, trivial⟩ | exact ⟨_, rfl, Br _, congrArg (Value.int _) (IntWalk.i64_in _ (by omega))⟩)
  ·(refine owes_val (L := [(3, false)]) rfl rfl rfl (by kernel_rfl) ?_; intro a' w' hb' hfacts; obtain ⟨hf3, -⟩ := hfacts; replace hf3 : a'.tmps[3]?.getD undef = .pointer (some ⟨A + 1, 0, none⟩) := hf3)
   obtain ⟨q0, q1, q2, q3, q4, q5, q6⟩ := seven (HA1.out.below hb'); obtain ⟨r0, r1, r2, r3, r4, r5, r6⟩ := seven (HB1.out.below hb')
   (go_simp; first | exact ⟨_, rfl, Br _, rfl⟩ | exact ⟨_, rfl, Br _, trivial⟩ | exact ⟨_, rfl, Ba _ _, trivial⟩ | exact ⟨_, rfl, Br _, congrArg (Value.int _) (IntWalk.i64_in _ (by omega))⟩)
  ·(refine owes_val (L := [(39, true)]) rfl rfl rfl (by kernel_rfl) ?_; intro a' w' hb' hfacts; obtain ⟨hf39, -⟩ := hfacts; try simp only [VPair] at hf39)
   obtain ⟨q0, q1, q2, q3, q4, q5, q6⟩ := seven (HA1.out.below hb'); obtain ⟨r0, r1, r2, r3, r4, r5, r6⟩ := seven (HB1.out.below hb')
   (go_simp; first | exact ⟨_, rfl, Br _, rfl⟩ | exact ⟨_, rfl, Br _, trivial⟩ | exact ⟨_, rfl, Ba _ _, trivial⟩ | exact ⟨_, rfl, Br _, congrArg (Value.int _) (IntWalk.i64_in _ (by omega))⟩)
  ·(refine owes_val (L := [(38, true), (40, true)]) rfl rfl rfl (by kernel_rfl) ?_; intro a' w' hb' hfacts; obtain ⟨hf38, hf40, -⟩ := hfacts; try simp only [VPair] at hf38; try simp only [VPair] at hf40)
   obtain ⟨q0, q1, q2, q3, q4, q5, q6⟩ := seven (HA1.out.below hb'); obtain ⟨r0, r1, r2, r3, r4, r5, r6⟩ := seven (HB1.out.below hb')
   (go_simp; first | exact ⟨_, rfl, Br _, rfl⟩ | exact ⟨_, rfl, Br _, trivial⟩ | exact ⟨_, rfl, Ba _ _, trivial⟩ | exact ⟨_, rfl, Br _, congrArg (Value.int _) (IntWalk.i64_in _ (by omega))⟩)
  ·(refine owes_val (L := [(7, false)]) rfl rfl rfl (by kernel_rfl) ?_; intro a' w' hb' hfacts; obtain ⟨hf7, -⟩ := hfacts; replace hf7 : a'.tmps[7]?.getD undef = .string (a.tail ++ b.head) := hf7)
   obtain ⟨q0, q1, q2, q3, q4, q5, q6⟩ := seven (HA1.out.below hb'); obtain ⟨r0, r1, r2, r3, r4, r5, r6⟩ := seven (HB1.out.below hb')
   (go_simp; first | exact ⟨_, rfl, Br _, rfl⟩ | exact ⟨_, rfl, Br _, trivial⟩ | exact ⟨_, rfl, Ba _ _, trivial⟩ | exact ⟨_, rfl, Br _, congrArg (Value.int _) (IntWalk.i64_in _ (by omega))⟩)
  ·(refine owes_val (L := [(42, true)]) rfl rfl rfl (by kernel_rfl) ?_; intro a' w' hb' hfacts; obtain ⟨hf42, -⟩ := hfacts; try simp only [VPair] at hf42)
   go_simp
   refine (ClCount_any (a.tail ++ b.head) _ (tabs_below HT1.out hb') (by omega)).mono ?_
   rintro e w3 ⟨rfl, hb3⟩
   exact ⟨_, rfl, hb3, rfl⟩
  ·(refine owes_val (L := [(41, true), (43, true)]) rfl rfl rfl (by kernel_rfl) ?_; intro a' w' hb' hfacts; obtain ⟨hf41, hf43, -⟩ := hfacts; try simp only [VPair] at hf41; try simp only [VPair] at hf43)
   obtain ⟨q0, q1, q2, q3, q4, q5, q6⟩ := seven (HA1.out.below hb'); obtain ⟨r0, r1, r2, r3, r4, r5, r6⟩ := seven (HB1.out.below hb')
   (go_simp; first | exact ⟨_, rfl, Br _, rfl⟩ | exact ⟨_, rfl, Br _, trivial⟩ | exact ⟨_, rfl, Ba _ _, trivial⟩ | exact ⟨_, rfl, Br _, congrArg (Value.int _) (IntWalk.i64_in _ (by omega))⟩)
  ·(refine owes_val (L := [(5, false)]) rfl rfl rfl (by kernel_rfl) ?_; intro a' w' hb' hfacts; obtain ⟨hf5, -⟩ := hfacts; replace hf5 : a'.tmps[5]?.getD undef = .string a.tail := hf5)
   obtain ⟨q0, q1, q2, q3, q4, q5, q6⟩ := seven (HA1.out.below hb'); obtain ⟨r0, r1, r2, r3, r4, r5, r6⟩ := seven (HB1.out.below hb')
   (go_simp; first | exact ⟨_, rfl, Br _, rfl⟩ | exact ⟨_, rfl, Br _, trivial⟩ | exact ⟨_, rfl, Ba _ _, trivial⟩ | exact ⟨_, rfl, Br _, congrArg (Value.int _) (IntWalk.i64_in _ (by omega))⟩)
  ·(refine owes_val (L := [(45, true)]) rfl rfl rfl (by kernel_rfl) ?_; intro a' w' hb' hfacts; obtain ⟨hf45, -⟩ := hfacts; try simp only [VPair] at hf45)
   go_simp
   refine (ClCount_any (a.tail) _ (tabs_below HT1.out hb') (by omega)).mono ?_
   rintro e w3 ⟨rfl, hb3⟩
   exact ⟨_, rfl, hb3, rfl⟩
  ·(refine owes_val (L := [(44, true), (46, true)]) rfl rfl rfl (by kernel_rfl) ?_; intro a' w' hb' hfacts; obtain ⟨hf44, hf46, -⟩ := hfacts; try simp only [VPair] at hf44; try simp only [VPair] at hf46)
   obtain ⟨q0, q1, q2, q3, q4, q5, q6⟩ := seven (HA1.out.below hb'); obtain ⟨r0, r1, r2, r3, r4, r5, r6⟩ := seven (HB1.out.below hb')
   (go_simp; first | exact ⟨_, rfl, Br _, rfl⟩ | exact ⟨_, rfl, Br _, trivial⟩ | exact ⟨_, rfl, Ba _ _, trivial⟩ | exact ⟨_, rfl, Br _, congrArg (Value.int _) (IntWalk.i64_in _ (by omega))⟩)
  ·(refine owes_val (L := [(6, false)]) rfl rfl rfl (by kernel_rfl) ?_; intro a' w' hb' hfacts; obtain ⟨hf6, -⟩ := hfacts; replace hf6 : a'.tmps[6]?.getD undef = .string b.head := hf6)
   obtain ⟨q0, q1, q2, q3, q4, q5, q6⟩ := seven (HA1.out.below hb'); obtain ⟨r0, r1, r2, r3, r4, r5, r6⟩ := seven (HB1.out.below hb')
   (go_simp; first | exact ⟨_, rfl, Br _, rfl⟩ | exact ⟨_, rfl, Br _, trivial⟩ | exact ⟨_, rfl, Ba _ _, trivial⟩ | exact ⟨_, rfl, Br _, congrArg (Value.int _) (IntWalk.i64_in _ (by omega))⟩)
  ·(refine owes_val (L := [(48, true)]) rfl rfl rfl (by kernel_rfl) ?_; intro a' w' hb' hfacts; obtain ⟨hf48, -⟩ := hfacts; try simp only [VPair] at hf48)
   go_simp
   refine (ClCount_any (b.head) _ (tabs_below HT1.out hb') (by omega)).mono ?_
   rintro e w3 ⟨rfl, hb3⟩
   exact ⟨_, rfl, hb3, rfl⟩
  ·(refine owes_val (L := [(47, true), (49, true)]) rfl rfl rfl (by kernel_rfl) ?_; intro a' w' hb' hfacts; obtain ⟨hf47, hf49, -⟩ := hfacts; try simp only [VPair] at hf47; try simp only [VPair] at hf49)
   obtain ⟨q0, q1, q2, q3, q4, q5, q6⟩ := seven (HA1.out.below hb'); obtain ⟨r0, r1, r2, r3, r4, r5, r6⟩ := seven (HB1.out.below hb')
   (go_simp; first | exact ⟨_, rfl, Br _, rfl⟩ | exact ⟨_, rfl, Br _, trivial⟩ | exact ⟨_, rfl, Ba _ _, trivial⟩ | exact ⟨_, rfl, Br _, congrArg (Value.int _) (IntWalk.i64_in _ (by omega))⟩)
  ·(refine owes_val (L := [(2, false)]) rfl rfl rfl (by kernel_rfl) ?_; intro a' w' hb' hfacts; obtain ⟨hf2, -⟩ := hfacts; replace hf2 : a'.tmps[2]?.getD undef = .pointer (some ⟨A, 0, none⟩) := hf2)
   obtain ⟨q0, q1, q2, q3, q4, q5, q6⟩ := seven (HA1.out.below hb'); obtain ⟨r0, r1, r2, r3, r4, r5, r6⟩ := seven (HB1.out.below hb')
   (go_simp; first | exact ⟨_, rfl, Br _, rfl⟩ | exact ⟨_, rfl, Br _, trivial⟩ | exact ⟨_, rfl, Ba _ _, trivial⟩ | exact ⟨_, rfl, Br _, congrArg (Value.int _) (IntWalk.i64_in _ (by omega))⟩)
  ·(refine owes_val (L := [(51, true)]) rfl rfl rfl (by kernel_rfl) ?_; intro a' w' hb' hfacts; obtain ⟨hf51, -⟩ := hfacts; try simp only [VPair] at hf51)
   obtain ⟨q0, q1, q2, q3, q4, q5, q6⟩ := seven (HA1.out.below hb'); obtain ⟨r0, r1, r2, r3, r4, r5, r6⟩ := seven (HB1.out.below hb')
   (go_simp; first | exact ⟨_, rfl, Br _, rfl⟩ | exact ⟨_, rfl, Br _, trivial⟩ | exact ⟨_, rfl, Ba _ _, trivial⟩ | exact ⟨_, rfl, Br _, congrArg (Value.int _) (IntWalk.i64_in _ (by omega))⟩)
  ·(refine owes_val (L := [(3, false)]) rfl rfl rfl (by kernel_rfl) ?_; intro a' w' hb' hfacts; obtain ⟨hf3, -⟩ := hfacts; replace hf3 : a'.tmps[3]?.getD undef = .pointer (some ⟨A + 1, 0, none⟩) := hf3)
   obtain ⟨q0, q1, q2, q3, q4, q5, q6⟩ := seven (HA1.out.below hb'); obtain ⟨r0, r1, r2, r3, r4, r5, r6⟩ := seven (HB1.out.below hb')
   (go_simp; first | exact ⟨_, rfl, Br _, rfl⟩ | exact ⟨_, rfl, Br _, trivial⟩ | exact ⟨_, rfl, Ba _ _, trivial⟩ | exact ⟨_, rfl, Br _, congrArg (Value.int _) (IntWalk.i64_in _ (by omega))⟩)
  ·(refine owes_val (L := [(53, true)]) rfl rfl rfl (by kernel_rfl) ?_; intro a' w' hb' hfacts; obtain ⟨hf53, -⟩ := hfacts; try simp only [VPair] at hf53)
   obtain ⟨q0, q1, q2, q3, q4, q5, q6⟩ := seven (HA1.out.below hb'); obtain ⟨r0, r1, r2, r3, r4, r5, r6⟩ := seven (HB1.out.below hb')
   (go_simp; first | exact ⟨_, rfl, Br _, rfl⟩ | exact ⟨_, rfl, Br _, trivial⟩ | exact ⟨_, rfl, Ba _ _, trivial⟩ | exact ⟨_, rfl, Br _, congrArg (Value.int _) (IntWalk.i64_in _ (by omega))⟩)
  ·(refine owes_val (L := [(52, true), (54, true)]) rfl rfl rfl (by kernel_rfl) ?_; intro a' w' hb' hfacts; obtain ⟨hf52, hf54, -⟩ := hfacts; try simp only [VPair] at hf52; try simp only [VPair] at hf54)
   obtain ⟨q0, q1, q2, q3, q4, q5, q6⟩ := seven (HA1.out.below hb'); obtain ⟨r0, r1, r2, r3, r4, r5, r6⟩ := seven (HB1.out.below hb')
   (go_simp; first | exact ⟨_, rfl, Br _, rfl⟩ | exact ⟨_, rfl, Br _, trivial⟩ | exact ⟨_, rfl, Ba _ _, trivial⟩ | exact ⟨_, rfl, Br _, congrArg (Value.int _) (IntWalk.i64_in _ (by omega))⟩)
  ·(refine owes_val (L := [(7, false)]) rfl rfl rfl (by kernel_rfl) ?_; intro a' w' hb' hfacts; obtain ⟨hf7, -⟩ := hfacts; replace hf7 : a'.tmps[7]?.getD undef = .string (a.tail ++ b.head) := hf7)
   obtain ⟨q0, q1, q2, q3, q4, q5, q6⟩ := seven (HA1.out.below hb'); obtain ⟨r0, r1, r2, r3, r4, r5, r6⟩ := seven (HB1.out.below hb')
   (go_simp; first | exact ⟨_, rfl, Br _, rfl⟩ | exact ⟨_, rfl, Br _, trivial⟩ | exact ⟨_, rfl, Ba _ _, trivial⟩ | exact ⟨_, rfl, Br _, congrArg (Value.int _) (IntWalk.i64_in _ (by omega))⟩)
  ·(refine owes_val (L := [(56, true)]) rfl rfl rfl (by kernel_rfl) ?_; intro a' w' hb' hfacts; obtain ⟨hf56, -⟩ := hfacts; try simp only [VPair] at hf56)
   go_simp
   refine (ClCells_any (a.tail ++ b.head) _ (tabs_below HT1.out hb') (by omega)).mono ?_
   rintro e w3 ⟨rfl, hb3⟩
   exact ⟨_, rfl, hb3, rfl⟩
  ·(refine owes_val (L := [(55, true), (57, true)]) rfl rfl rfl (by kernel_rfl) ?_; intro a' w' hb' hfacts; obtain ⟨hf55, hf57, -⟩ := hfacts; try simp only [VPair] at hf55; try simp only [VPair] at hf57)
   obtain ⟨q0, q1, q2, q3, q4, q5, q6⟩ := seven (HA1.out.below hb'); obtain ⟨r0, r1, r2, r3, r4, r5, r6⟩ := seven (HB1.out.below hb')
   (go_simp; first | exact ⟨_, rfl, Br _, rfl⟩ | exact ⟨_, rfl, Br _, trivial⟩ | exact ⟨_, rfl, Ba _ _, trivial⟩ | exact ⟨_, rfl, Br _, congrArg (Value.int _) (IntWalk.i64_in _ (by omega))⟩)
  ·(refine owes_val (L := [(5, false)]) rfl rfl rfl (by kernel_rfl) ?_; intro a' w' hb' hfacts; obtain ⟨hf5, -⟩ := hfacts; replace hf5 : a'.tmps[5]?.getD undef = .string a.tail := hf5)
   obtain ⟨q0, q1, q2, q3, q4, q5, q6⟩ := seven (HA1.out.below hb'); obtain ⟨r0, r1, r2, r3, r4, r5, r6⟩ := seven (HB1.out.below hb')
   (go_simp; first | exact ⟨_, rfl, Br _, rfl⟩ | exact ⟨_, rfl, Br _, trivial⟩ | exact ⟨_, rfl, Ba _ _, trivial⟩ | exact ⟨_, rfl, Br _, congrArg (Value.int _) (IntWalk.i64_in _ (by omega))⟩)
  ·(refine owes_val (L := [(59, true)]) rfl rfl rfl (by kernel_rfl) ?_; intro a' w' hb' hfacts; obtain ⟨hf59, -⟩ := hfacts; try simp only [VPair] at hf59)
   go_simp
   refine (ClCells_any (a.tail) _ (tabs_below HT1.out hb') (by omega)).mono ?_
   rintro e w3 ⟨rfl, hb3⟩
   exact ⟨_, rfl, hb3, rfl⟩
  ·(refine owes_val (L := [(58, true), (60, true)]) rfl rfl rfl (by kernel_rfl) ?_; intro a' w' hb' hfacts; obtain ⟨hf58, hf60, -⟩ := hfacts; try simp only [VPair] at hf58; try simp only [VPair] at hf60)
   obtain ⟨q0, q1, q2, q3, q4, q5, q6⟩ := seven (HA1.out.below hb'); obtain ⟨r0, r1, r2, r3, r4, r5, r6⟩ := seven (HB1.out.below hb')
   (go_simp; first | exact ⟨_, rfl, Br _, rfl⟩ | exact ⟨_, rfl, Br _, trivial⟩ | exact ⟨_, rfl, Ba _ _, trivial⟩ | exact ⟨_, rfl, Br _, congrArg (Value.int _) (IntWalk.i64_in _ (by omega))⟩)
  ·(refine owes_val (L := [(6, false)]) rfl rfl rfl (by kernel_rfl) ?_; intro a' w' hb' hfacts; obtain ⟨hf6, -⟩ := hfacts; replace hf6 : a'.tmps[6]?.getD undef = .string b.head := hf6)
   obtain ⟨q0, q1, q2, q3, q4, q5, q6⟩ := seven (HA1.out.below hb'); obtain ⟨r0, r1, r2, r3, r4, r5, r6⟩ := seven (HB1.out.below hb')
   (go_simp; first | exact ⟨_, rfl, Br _, rfl⟩ | exact ⟨_, rfl, Br _, trivial⟩ | exact ⟨_, rfl, Ba _ _, trivial⟩ | exact ⟨_, rfl, Br _, congrArg (Value.int _) (IntWalk.i64_in _ (by omega))⟩)
  ·(refine owes_val (L := [(62, true)]) rfl rfl rfl (by kernel_rfl) ?_; intro a' w' hb' hfacts; obtain ⟨hf62, -⟩ := hfacts; try simp only [VPair] at hf62)
   go_simp
   refine (ClCells_any (b.head) _ (tabs_below HT1.out hb') (by omega)).mono ?_
   rintro e w3 ⟨rfl, hb3⟩
   exact ⟨_, rfl, hb3, rfl⟩
  ·(refine owes_val (L := [(61, true), (63, true)]) rfl rfl rfl (by kernel_rfl) ?_; intro a' w' hb' hfacts; obtain ⟨hf61, hf63, -⟩ := hfacts; try simp only [VPair] at hf61; try simp only [VPair] at hf63)
   obtain ⟨q0, q1, q2, q3, q4, q5, q6⟩ := seven (HA1.out.below hb'); obtain ⟨r0, r1, r2, r3, r4, r5, r6⟩ := seven (HB1.out.below hb')
   (go_simp; first | exact ⟨_, rfl, Br _, rfl⟩ | exact ⟨_, rfl, Br _, trivial⟩ | exact ⟨_, rfl, Ba _ _, trivial⟩ | exact ⟨_, rfl, Br _, congrArg (Value.int _) (IntWalk.i64_in _ (by omega))⟩)
  ·(refine owes_val (L := [(2, false)]) rfl rfl rfl (by kernel_rfl) ?_; intro a' w' hb' hfacts; obtain ⟨hf2, -⟩ := hfacts; replace hf2 : a'.tmps[2]?.getD undef = .pointer (some ⟨A, 0, none⟩) := hf2)
   obtain ⟨q0, q1, q2, q3, q4, q5, q6⟩ := seven (HA1.out.below hb'); obtain ⟨r0, r1, r2, r3, r4, r5, r6⟩ := seven (HB1.out.below hb')
   (go_simp; first | exact ⟨_, rfl, Br _, rfl⟩ | exact ⟨_, rfl, Br _, trivial⟩ | exact ⟨_, rfl, Ba _ _, trivial⟩ | exact ⟨_, rfl, Br _, congrArg (Value.int _) (IntWalk.i64_in _ (by omega))⟩)
  ·(refine owes_val (L := [(65, true)]) rfl rfl rfl (by kernel_rfl) ?_; intro a' w' hb' hfacts; obtain ⟨hf65, -⟩ := hfacts; try simp only [VPair] at hf65)
   obtain ⟨q0, q1, q2, q3, q4, q5, q6⟩ := seven (HA1.out.below hb'); obtain ⟨r0, r1, r2, r3, r4, r5, r6⟩ := seven (HB1.out.below hb')
   (go_simp; first | exact ⟨_, rfl, Br _, rfl⟩ | exact ⟨_, rfl, Br _, trivial⟩ | exact ⟨_, rfl, Ba _ _, trivial⟩ | exact ⟨_, rfl, Br _, congrArg (Value.int _) (IntWalk.i64_in _ (by omega))⟩)
  ·(refine owes_val (L := [(3, false)]) rfl rfl rfl (by kernel_rfl) ?_; intro a' w' hb' hfacts; obtain ⟨hf3, -⟩ := hfacts; replace hf3 : a'.tmps[3]?.getD undef = .pointer (some ⟨A + 1, 0, none⟩) := hf3)
   obtain ⟨q0, q1, q2, q3, q4, q5, q6⟩ := seven (HA1.out.below hb'); obtain ⟨r0, r1, r2, r3, r4, r5, r6⟩ := seven (HB1.out.below hb')
   (go_simp; first | exact ⟨_, rfl, Br _, rfl⟩ | exact ⟨_, rfl, Br _, trivial⟩ | exact ⟨_, rfl, Ba _ _, trivial⟩ | exact ⟨_, rfl, Br _, congrArg (Value.int _) (IntWalk.i64_in _ (by omega))⟩)
  ·(refine owes_val (L := [(67, true)]) rfl rfl rfl (by kernel_rfl) ?_; intro a' w' hb' hfacts; obtain ⟨hf67, -⟩ := hfacts; try simp only [VPair] at hf67)
   obtain ⟨q0, q1, q2, q3, q4, q5, q6⟩ := seven (HA1.out.below hb'); obtain ⟨r0, r1, r2, r3, r4, r5, r6⟩ := seven (HB1.out.below hb')
   (go_simp; first | exact ⟨_, rfl, Br _, rfl⟩ | exact ⟨_, rfl, Br _, trivial⟩ | exact ⟨_, rfl, Ba _ _, trivial⟩ | exact ⟨_, rfl, Br _, congrArg (Value.int _) (IntWalk.i64_in _ (by omega))⟩)
  ·(refine owes_val (L := [(66, true), (68, true)]) rfl rfl rfl (by kernel_rfl) ?_; intro a' w' hb' hfacts; obtain ⟨hf66, hf68, -⟩ := hfacts; try simp only [VPair] at hf66; try simp only [VPair] at hf68)
   obtain ⟨q0, q1, q2, q3, q4, q5, q6⟩ := seven (HA1.out.below hb'); obtain ⟨r0, r1, r2, r3, r4, r5, r6⟩ := seven (HB1.out.below hb')
   (go_simp; first | exact ⟨_, rfl, Br _, rfl⟩ | exact ⟨_, rfl, Br _, trivial⟩ | exact ⟨_, rfl, Ba _ _, trivial⟩ | exact ⟨_, rfl, Br _, congrArg (Value.int _) (IntWalk.i64_in _ (by omega))⟩)
  ·(refine owes_val (L := [(2, false)]) rfl rfl rfl (by kernel_rfl) ?_; intro a' w' hb' hfacts; obtain ⟨hf2, -⟩ := hfacts; replace hf2 : a'.tmps[2]?.getD undef = .pointer (some ⟨A, 0, none⟩) := hf2)
   obtain ⟨q0, q1, q2, q3, q4, q5, q6⟩ := seven (HA1.out.below hb'); obtain ⟨r0, r1, r2, r3, r4, r5, r6⟩ := seven (HB1.out.below hb')
   (go_simp; first | exact ⟨_, rfl, Br _, rfl⟩ | exact ⟨_, rfl, Br _, trivial⟩ | exact ⟨_, rfl, Ba _ _, trivial⟩ | exact ⟨_, rfl, Br _, congrArg (Value.int _) (IntWalk.i64_in _ (by omega))⟩)
  ·(refine owes_val (L := [(70, true)]) rfl rfl rfl (by kernel_rfl) ?_; intro a' w' hb' hfacts; obtain ⟨hf70, -⟩ := hfacts; try simp only [VPair] at hf70)
   obtain ⟨q0, q1, q2, q3, q4, q5, q6⟩ := seven (HA1.out.below hb'); obtain ⟨r0, r1, r2, r3, r4, r5, r6⟩ := seven (HB1.out.below hb')
   (go_simp; first | exact ⟨_, rfl, Br _, rfl⟩ | exact ⟨_, rfl, Br _, trivial⟩ | exact ⟨_, rfl, Ba _ _, trivial⟩ | exact ⟨_, rfl, Br _, congrArg (Value.int _) (IntWalk.i64_in _ (by omega))⟩)
  ·(refine owes_val (L := [(3, false)]) rfl rfl rfl (by kernel_rfl) ?_; intro a' w' hb' hfacts; obtain ⟨hf3, -⟩ := hfacts; replace hf3 : a'.tmps[3]?.getD undef = .pointer (some ⟨A + 1, 0, none⟩) := hf3)
   obtain ⟨q0, q1, q2, q3, q4, q5, q6⟩ := seven (HA1.out.below hb'); obtain ⟨r0, r1, r2, r3, r4, r5, r6⟩ := seven (HB1.out.below hb')
   (go_simp; first | exact ⟨_, rfl, Br _, rfl⟩ | exact ⟨_, rfl, Br _, trivial⟩ | exact ⟨_, rfl, Ba _ _, trivial⟩ | exact ⟨_, rfl, Br _, congrArg (Value.int _) (IntWalk.i64_in _ (by omega))⟩)
  ·(refine owes_val (L := [(72, true)]) rfl rfl rfl (by kernel_rfl) ?_; intro a' w' hb' hfacts; obtain ⟨hf72, -⟩ := hfacts; try simp only [VPair] at hf72)
   obtain ⟨q0, q1, q2, q3, q4, q5, q6⟩ := seven (HA1.out.below hb'); obtain ⟨r0, r1, r2, r3, r4, r5, r6⟩ := seven (HB1.out.below hb')
   (go_simp; first | exact ⟨_, rfl, Br _, rfl⟩ | exact ⟨_, rfl, Br _, trivial⟩ | exact ⟨_, rfl, Ba _ _, trivial⟩ | exact ⟨_, rfl, Br _, congrArg (Value.int _) (IntWalk.i64_in _ (by omega))⟩)
  ·(refine owes_val (L := [(22, true), (36, true), (50, true), (64, true), (69, true), (71, true), (73, true)]) rfl rfl rfl (by kernel_rfl) ?_; intro a' w' hb' hfacts; obtain ⟨hf22, hf36, hf50, hf64, hf69, hf71, hf73, -⟩ := hfacts; try simp only [VPair] at hf22; try simp only [VPair] at hf36; try simp only [VPair] at hf50; try simp only [VPair] at hf64; try simp only [VPair] at hf69; try simp only [VPair] at hf71; try simp only [VPair] at hf73)
   obtain ⟨q0, q1, q2, q3, q4, q5, q6⟩ := seven (HA1.out.below hb'); obtain ⟨r0, r1, r2, r3, r4, r5, r6⟩ := seven (HB1.out.below hb')
   (go_simp; first | exact ⟨_, rfl, Br _, rfl⟩ | exact ⟨_, rfl, Br _, trivial⟩ | exact ⟨_, rfl, Ba _ _, trivial⟩ | exact ⟨_, rfl, Br _, congrArg (Value.int _) (IntWalk.i64_in _ (by omega))⟩)
  ·(refine owes_val (L := []) rfl rfl rfl (by kernel_rfl) ?_; intro a' w' hb' hfacts; clear hfacts)
   go_simp
   exact ⟨_, rfl, (Below.refl _ _).alloc (Nat.le_refl _) _, _, rfl, hb'.size, Lies.new _ _ _⟩
 ·intro f W3 hf hb3
  obtain ⟨V1, hV1⟩ : ∃ V, a.units + b.units + Lib.runeCount (a.tail ++ b.head) - Lib.runeCount a.tail - Lib.runeCount b.head = V := ⟨_, rfl⟩
  obtain ⟨V2, hV2⟩ : ∃ V, a.clusters + b.clusters + cntC (a.tail ++ b.head) - cntC a.tail - cntC b.head = V := ⟨_, rfl⟩
  obtain ⟨V3, hV3⟩ : ∃ V, a.cells + b.cells + cntW (a.tail ++ b.head) - cntW a.tail - cntW b.head = V := ⟨_, rfl⟩
  have f74 : f 74 = .agg #[.int .i64 (a.bytes + b.bytes), .int .i64 V1, .int .i64 V2, .int .i64 V3, .int .i64 (a.newlines + b.newlines), .string a.head, .string b.tail] := by rw [← hV1, ← hV2, ← hV3]; exact hf 74 (by decide)
  obtain ⟨g, f8, hg, k8⟩ : ∃ g, f 8 = .pointer (some ⟨g, 0, none⟩) ∧ w1.heap.size ≤ g ∧ Lies W3 g zero7 := hf 8 (by decide)
  have A3 := HA1.out.below hb3
  have B3 := HB1.out.below hb3
  have R3 := R1.out.below hb3
  have HW3 : Below A w W3 := by have := HW1.out.size; exact HW1.out.trans (hb3.mono (by omega))
  have hgA : A ≠ g ∧ A + 1 ≠ g ∧ A + 1 + 1 ≠ g := by have := R1.out.1; omega
  have hAg : A ≤ g := by have := R1.out.1; omega
  have hRA : A + 1 + 1 < W3.heap.size := R3.1
  clear hf hb3 HA1 HB1 R1 HW1 HcA HcB cA cB lA lB HT1
  simp only [putAll, put_lit, List.map_cons, List.map_nil, List.set_cons_succ, List.set_cons_zero]
  simp only [f74, f8]
  refine wpOp_last rfl ?_
  refine wpList_store_mid rfl 48 (.tmp 8) (.tmp 74) rfl g 0 #[.int .i64 (a.bytes + b.bytes), .int .i64 V1, .int .i64 V2, .int .i64 V3, .int .i64 (a.newlines + b.newlines), .string a.head, .string b.tail] rfl rfl k8.there (by kernel_rfl) (by simp [Value.oneCell']) ?_
  have K4 := k8.stored [.int .i64 (a.bytes + b.bytes), .int .i64 V1, .int .i64 V2, .int .i64 V3, .int .i64 (a.newlines + b.newlines), .string a.head, .string b.tail] rfl
  have C4 := sets_chg g [.int .i64 (a.bytes + b.bytes), .int .i64 V1, .int .i64 V2, .int .i64 V3, .int .i64 (a.newlines + b.newlines), .string a.head, .string b.tail] 0 W3
  have A4 := A3.chg C4 hgA.1
  have B4 := B3.chg C4 hgA.2.1
  have R4 := R3.chg C4 hgA.2.2
  have BW4 : Below A w (W3.setCells g 0 [.int .i64 (a.bytes + b.bytes), .int .i64 V1, .int .i64 V2, .int .i64 V3, .int .i64 (a.newlines + b.newlines), .string a.head, .string b.tail]) := by
   rw [← hA]; exact chg_mine (by rw [hA]; exact HW3) C4 (by omega)
  change wpList _ _ _ _ _ (W3.setCells g 0 [.int .i64 (a.bytes + b.bytes), .int .i64 V1, .int .i64 V2, .int .i64 V3, .int .i64 (a.newlines + b.newlines), .string a.head, .string b.tail])
  generalize W3.setCells g 0 [.int .i64 (a.bytes + b.bytes), .int .i64 V1, .int .i64 V2, .int .i64 V3, .int .i64 (a.newlines + b.newlines), .string a.head, .string b.tail] = W4 at *
  obtain ⟨V0, hV0⟩ : ∃ V, a.bytes + b.bytes = V := ⟨_, rfl⟩
  obtain ⟨V4, hV4⟩ : ∃ V, a.newlines + b.newlines = V := ⟨_, rfl⟩
  rw [hV0, hV4] at K4
  rw [hV0, hV4]
  have HV0 := Lib.hid hV0
  have HV4 := Lib.hid hV4
  have HA4 := Lib.hid A4
  have HB4 := Lib.hid B4
  have HR4 := Lib.hid R4
  have HK4 := Lib.hid K4
  have HBW4 := Lib.hid BW4
  have c5 := (A4.2 5 _ rfl).1
  have c6 := (A4.2 6 _ rfl).1
  have d5 := (B4.2 5 _ rfl).1
  have d6 := (B4.2 6 _ rfl).1
  have HV1 := Lib.hid hV1
  have HV2 := Lib.hid hV2
  have HV3 := Lib.hid hV3
  obtain ⟨k0, m0⟩ := K4.2 0 _ rfl
  obtain ⟨k1, m1⟩ := K4.2 1 _ rfl
  obtain ⟨k2, m2⟩ := K4.2 2 _ rfl
  obtain ⟨k3, m3⟩ := K4.2 3 _ rfl
  obtain ⟨k4, m4⟩ := K4.2 4 _ rfl
  obtain ⟨k5, m5⟩ := K4.2 5 _ rfl
  obtain ⟨k6, m6⟩ := K4.2 6 _ rfl
  obtain ⟨r0, s0⟩ := R4.2 0 _ rfl
  obtain ⟨r1, s1⟩ := R4.2 1 _ rfl
  obtain ⟨r2, s2⟩ := R4.2 2 _ rfl
  obtain ⟨r3, s3⟩ := R4.2 3 _ rfl
  obtain ⟨r4, s4⟩ := R4.2 4 _ rfl
  obtain ⟨r5, s5⟩ := R4.2 5 _ rfl
  obtain ⟨r6, s6⟩ := R4.2 6 _ rfl
  obtain ⟨-, ne1, ne2⟩ := hgA
  have ne3 := ne2.symm
  clear hV0 hV4 A4 B4 R4 K4 BW4 C4 A3 B3 R3 HW3 k8 f74 f8 hV1 hV2 hV3 l1 l2 l3 l4 l5 l6 l7 l8 l9 l7' l8' l9'
  have zA : a.head.size ≤ 16 := ha.h
  have zB : b.tail.size ≤ 16 := hb.t
  have zs : (a.tail ++ b.tail).size ≤ 32 := by rw [ByteArray.size_append]; omega
  have zs2 : (a.head ++ b.head).size ≤ 32 := by rw [ByteArray.size_append]; omega
  rcases (by omega : (a.head.size : Int) < 16 ∨ ¬ (a.head.size : Int) < 16) with h1 | h1
  ·rcases (by omega : (b.tail.size : Int) < 16 ∨ ¬ (b.tail.size : Int) < 16) with h2 | h2
   ·go_wp2_with fail
    refine (head_any (a.head ++ b.head) _).mono ?_
    rintro e w5 ⟨rfl, rfl⟩
    obtain ⟨H, hH⟩ : ∃ H, headF (a.head ++ b.head) = H := ⟨_, rfl⟩
    have HH := Lib.hid hH
    rw [hH]
    clear hH
    go_wp2_with fail
    refine (tail_any (a.tail ++ b.tail) _ (by omega)).mono ?_
    rintro e w6 ⟨rfl, rfl⟩
    obtain ⟨T, hT⟩ : ∃ T, tailF (a.tail ++ b.tail) = T := ⟨_, rfl⟩
    have HTT := Lib.hid hT
    rw [hT]
    clear hT
    have hCF : Chg (fun k => k = g) w5 ((w5.setCell ⟨g, 5, none⟩ (.string H)).setCell ⟨g, 6, none⟩ (.string T)) := (Chg.trans (Chg.set w5 ⟨g, 5, none⟩ (.string H)) (Chg.set (w5.setCell ⟨g, 5, none⟩ (.string H)) ⟨g, 6, none⟩ (.string T)) (fun _ _ h => h))
    have RF := HR4.out.chg hCF ne2
    have BF := HBW4.out
    have CR := sets_chg (A + 1 + 1) [.int .i64 V0, .int .i64 V1, .int .i64 V2, .int .i64 V3, .int .i64 V4, .string H, .string T] 0 ((w5.setCell ⟨g, 5, none⟩ (.string H)).setCell ⟨g, 6, none⟩ (.string T))
    have BL : Below A w (((w5.setCell ⟨g, 5, none⟩ (.string H)).setCell ⟨g, 6, none⟩ (.string T)).setCells (A + 1 + 1) 0 [.int .i64 V0, .int .i64 V1, .int .i64 V2, .int .i64 V3, .int .i64 V4, .string H, .string T]) := ((Chg.of_below (S := fun k => A ≤ k) (hA ▸ BF)).trans hCF (fun x _ h => by have : x = g := h; omega)).trans CR (fun x _ h => by have : x = A + 1 + 1 := h; omega) |>.below_le (by omega) (fun _ h => h)
    have L := Lib.hid (RF.stored [.int .i64 V0, .int .i64 V1, .int .i64 V2, .int .i64 V3, .int .i64 V4, .string H, .string T] rfl).2
    have HBL := Lib.hid BL
    clear hCF RF BF CR BL HR4 HBW4 HK4 HA4 HB4
    go_wp2
    have j0 := (L.out 0 _ rfl).1
    have j1 := (L.out 1 _ rfl).1
    have j2 := (L.out 2 _ rfl).1
    have j3 := (L.out 3 _ rfl).1
    have j4 := (L.out 4 _ rfl).1
    have j5 := (L.out 5 _ rfl).1
    have j6 := (L.out 6 _ rfl).1
    simp only [World.setCells] at j0 j1 j2 j3 j4 j5 j6
    refine bodyPost_ret (v := .agg #[.int .i64 V0, .int .i64 V1, .int .i64 V2, .int .i64 V3, .int .i64 V4, .string H, .string T]) (by simp [results, Tryz.results202, go_sem, j0, j1, j2, j3, j4, j5, j6]) rfl ⟨?_, by first | exact HBL.out | (rw [hA]; exact HBL.out)⟩
    rw [← HP.out]
    unfold pairF
    rw [if_pos (by omega), if_pos (by omega), HV0.out, HV1.out, HV2.out, HV3.out, HV4.out, HH.out, HTT.out]
   ·go_wp2_with fail
    refine (head_any (a.head ++ b.head) _).mono ?_
    rintro e w5 ⟨rfl, rfl⟩
    obtain ⟨H, hH⟩ : ∃ H, headF (a.head ++ b.head) = H := ⟨_, rfl⟩
    have HH := Lib.hid hH
    rw [hH]
    clear hH
    obtain ⟨T, hT⟩ : ∃ T, b.tail = T := ⟨_, rfl⟩
    have HTT := Lib.hid hT
    clear hT
    have hCF : Chg (fun k => k = g) w5 (w5.setCell ⟨g, 5, none⟩ (.string H)) := Chg.set w5 ⟨g, 5, none⟩ (.string H)
    have RF := HR4.out.chg hCF ne2
    have BF := HBW4.out
    have CR := sets_chg (A + 1 + 1) [.int .i64 V0, .int .i64 V1, .int .i64 V2, .int .i64 V3, .int .i64 V4, .string H, .string b.tail] 0 (w5.setCell ⟨g, 5, none⟩ (.string H))
    have BL : Below A w ((w5.setCell ⟨g, 5, none⟩ (.string H)).setCells (A + 1 + 1) 0 [.int .i64 V0, .int .i64 V1, .int .i64 V2, .int .i64 V3, .int .i64 V4, .string H, .string b.tail]) := ((Chg.of_below (S := fun k => A ≤ k) (hA ▸ BF)).trans hCF (fun x _ h => by have : x = g := h; omega)).trans CR (fun x _ h => by have : x = A + 1 + 1 := h; omega) |>.below_le (by omega) (fun _ h => h)
    have L := Lib.hid (RF.stored [.int .i64 V0, .int .i64 V1, .int .i64 V2, .int .i64 V3, .int .i64 V4, .string H, .string b.tail] rfl).2
    have HBL := Lib.hid BL
    clear hCF RF BF CR BL HR4 HBW4 HK4 HA4 HB4
    go_wp2
    have j0 := (L.out 0 _ rfl).1
    have j1 := (L.out 1 _ rfl).1
    have j2 := (L.out 2 _ rfl).1
    have j3 := (L.out 3 _ rfl).1
    have j4 := (L.out 4 _ rfl).1
    have j5 := (L.out 5 _ rfl).1
    have j6 := (L.out 6 _ rfl).1
    simp only [World.setCells] at j0 j1 j2 j3 j4 j5 j6
    refine bodyPost_ret (v := .agg #[.int .i64 V0, .int .i64 V1, .int .i64 V2, .int .i64 V3, .int .i64 V4, .string H, .string b.tail]) (by simp [results, Tryz.results202, go_sem, j0, j1, j2, j3, j4, j5, j6]) rfl ⟨?_, by first | exact HBL.out | (rw [hA]; exact HBL.out)⟩
    rw [← HP.out]
    unfold pairF
    rw [if_pos (by omega), if_neg (by omega), HV0.out, HV1.out, HV2.out, HV3.out, HV4.out, HH.out]
  ·rcases (by omega : (b.tail.size : Int) < 16 ∨ ¬ (b.tail.size : Int) < 16) with h2 | h2
   ·obtain ⟨H, hH⟩ : ∃ H, a.head = H := ⟨_, rfl⟩
    have HH := Lib.hid hH
    clear hH
    go_wp2_with fail
    refine (tail_any (a.tail ++ b.tail) _ (by omega)).mono ?_
    rintro e w6 ⟨rfl, rfl⟩
    obtain ⟨T, hT⟩ : ∃ T, tailF (a.tail ++ b.tail) = T := ⟨_, rfl⟩
    have HTT := Lib.hid hT
    rw [hT]
    clear hT
    have hCF : Chg (fun k => k = g) w6 ((w6).setCell ⟨g, 6, none⟩ (.string T)) := (Chg.trans (Chg.refl (fun k => k = g) w6) (Chg.set (w6) ⟨g, 6, none⟩ (.string T)) (fun _ _ h => h))
    have RF := HR4.out.chg hCF ne2
    have BF := HBW4.out
    have CR := sets_chg (A + 1 + 1) [.int .i64 V0, .int .i64 V1, .int .i64 V2, .int .i64 V3, .int .i64 V4, .string a.head, .string T] 0 ((w6).setCell ⟨g, 6, none⟩ (.string T))
    have BL : Below A w (((w6).setCell ⟨g, 6, none⟩ (.string T)).setCells (A + 1 + 1) 0 [.int .i64 V0, .int .i64 V1, .int .i64 V2, .int .i64 V3, .int .i64 V4, .string a.head, .string T]) := ((Chg.of_below (S := fun k => A ≤ k) (hA ▸ BF)).trans hCF (fun x _ h => by have : x = g := h; omega)).trans CR (fun x _ h => by have : x = A + 1 + 1 := h; omega) |>.below_le (by omega) (fun _ h => h)
    have L := Lib.hid (RF.stored [.int .i64 V0, .int .i64 V1, .int .i64 V2, .int .i64 V3, .int .i64 V4, .string a.head, .string T] rfl).2
    have HBL := Lib.hid BL
    clear hCF RF BF CR BL HR4 HBW4 HK4 HA4 HB4
    go_wp2
    have j0 := (L.out 0 _ rfl).1
    have j1 := (L.out 1 _ rfl).1
    have j2 := (L.out 2 _ rfl).1
    have j3 := (L.out 3 _ rfl).1
    have j4 := (L.out 4 _ rfl).1
    have j5 := (L.out 5 _ rfl).1
    have j6 := (L.out 6 _ rfl).1
    simp only [World.setCells] at j0 j1 j2 j3 j4 j5 j6
    refine bodyPost_ret (v := .agg #[.int .i64 V0, .int .i64 V1, .int .i64 V2, .int .i64 V3, .int .i64 V4, .string a.head, .string T]) (by simp [results, Tryz.results202, go_sem, j0, j1, j2, j3, j4, j5, j6]) rfl ⟨?_, by first | exact HBL.out | (rw [hA]; exact HBL.out)⟩
    rw [← HP.out]
    unfold pairF
    rw [if_neg (by omega), if_pos (by omega), HV0.out, HV1.out, HV2.out, HV3.out, HV4.out, HTT.out]
   ·obtain ⟨H, hH⟩ : ∃ H, a.head = H := ⟨_, rfl⟩
    have HH := Lib.hid hH
    clear hH
    obtain ⟨T, hT⟩ : ∃ T, b.tail = T := ⟨_, rfl⟩
    have HTT := Lib.hid hT
    clear hT
    have hCF : Chg (fun k => k = g) W4 (W4) := Chg.refl (fun k => k = g) W4
    have RF := HR4.out.chg hCF ne2
    have BF := HBW4.out
    have CR := sets_chg (A + 1 + 1) [.int .i64 V0, .int .i64 V1, .int .i64 V2, .int .i64 V3, .int .i64 V4, .string a.head, .string b.tail] 0 (W4)
    have BL : Below A w ((W4).setCells (A + 1 + 1) 0 [.int .i64 V0, .int .i64 V1, .int .i64 V2, .int .i64 V3, .int .i64 V4, .string a.head, .string b.tail]) := ((Chg.of_below (S := fun k => A ≤ k) (hA ▸ BF)).trans hCF (fun x _ h => by have : x = g := h; omega)).trans CR (fun x _ h => by have : x = A + 1 + 1 := h; omega) |>.below_le (by omega) (fun _ h => h)
    have L := Lib.hid (RF.stored [.int .i64 V0, .int .i64 V1, .int .i64 V2, .int .i64 V3, .int .i64 V4, .string a.head, .string b.tail] rfl).2
    have HBL := Lib.hid BL
    clear hCF RF BF CR BL HR4 HBW4 HK4 HA4 HB4
    go_wp2
    have j0 := (L.out 0 _ rfl).1
    have j1 := (L.out 1 _ rfl).1
    have j2 := (L.out 2 _ rfl).1
    have j3 := (L.out 3 _ rfl).1
    have j4 := (L.out 4 _ rfl).1
    have j5 := (L.out 5 _ rfl).1
    have j6 := (L.out 6 _ rfl).1
    simp only [World.setCells] at j0 j1 j2 j3 j4 j5 j6
    refine bodyPost_ret (v := .agg #[.int .i64 V0, .int .i64 V1, .int .i64 V2, .int .i64 V3, .int .i64 V4, .string a.head, .string b.tail]) (by simp [results, Tryz.results202, go_sem, j0, j1, j2, j3, j4, j5, j6]) rfl ⟨?_, by first | exact HBL.out | (rw [hA]; exact HBL.out)⟩
    rw [← HP.out]
    unfold pairF
    rw [if_neg (by omega), if_neg (by omega), HV0.out, HV1.out, HV2.out, HV3.out, HV4.out]
end Go.Proofs.YtfchglcclgcgfaaGreatDoor.Ut
