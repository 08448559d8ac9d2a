/-
  What the proof of the laws S rests on: the texts RoK ClF RoL RoM LnA LnB LnC. Conditions: each theorem names its own.
-/
import Derived.Test.YtfchglcclgcgfaaGreatDoorMgSm
import Derived.Test.YtfchglcclgcgfaaGreatDoorMgSd
import Derived.Test.YtfchglcclgcgfaaGreatDoorMgSe
/-
 rope: what is read of a rope (tree, Len, within, Slice, Measure). Condition: the two tables of unicode/utf8 lie as laid.
-/
namespace Go.Proofs.YtfchglcclgcgfaaGreatDoor.Ut
open Go.RowKit Go.Proofs.YtfchglcclgcgfaaGreatDoor.Reg
set_option linter.unusedVariables false
set_option linter.unusedSimpArgs false

/-- A rope in block b with the tree t. -/
def IsRope (W : World) (b : Nat) (t : Tr) : Prop := ∃ x, Blk W b 169 [ptr x] ∧ IsTr W x t
theorem IsRope.keeps {W W' : World} {b : Nat} {t : Tr} (h : IsRope W b t) (hk : Keeps W W') : IsRope W' b t := by
 obtain ⟨x, h1, h2⟩ := h; exact ⟨x, hk b _ _ (.inr rfl) h1, h2.keeps hk⟩
theorem IsRope.below {W W' : World} {b : Nat} {t : Tr} (h : IsRope W b t) (hb : Below W.heap.size W W') : IsRope W' b t := by
 obtain ⟨x, h1, h2⟩ := h; exact ⟨x, h1.below hb, h2.below hb⟩

theorem tree_any (b x : Nat) (w : World) (h : Lies w b [ptr x]) : Calls Tryz.prog 249 #[ptr b] w fun e w' => e = .returned (ptr x) ∧ w' = w := by
 have c0 := (h.2 0 _ rfl).1
 clear h
 unfold ptr at *
 go_enter Tryz.func249, Tryz.ntmps249
 go_wp2
 go_ret
 exact ⟨rfl, rfl⟩
theorem RopeLen_any (b : Nat) (t : Tr) (w : World) (h : IsRope w b t) : Calls Tryz.prog 245 #[ptr b] w fun e w' => e = .returned (.int .i64 t.text.size) ∧ w' = w := by
 obtain ⟨x, h1, h2⟩ := h
 have c3 := h2.sumBytes
 have H := Lib.hid h1.lies
 clear h1 h2
 unfold ptr at *
 go_enter Tryz.func245, Tryz.ntmps245
 go_wp2_with fail
 refine (tree_any b x w H.out).mono ?_
 rintro e w1 ⟨rfl, rfl⟩
 unfold ptr
 go_wp2
 go_ret
 exact ⟨rfl, rfl⟩
theorem within_yes (b i j : Nat) (t : Tr) (w : World) (h : IsRope w b t) (hij : i ≤ j) (hj : j ≤ t.text.size) : Calls Tryz.prog 250 #[ptr b, .int .i64 i, .int .i64 j] w fun e w' => e = .returned (.bool true) ∧ w' = w := by
 have H := Lib.hid (RopeLen_any b t w h)
 have q0 : (0 : Int) ≤ (i : Int) := by omega
 have q1 : (i : Int) ≤ (j : Int) := by omega
 have q2 : (j : Int) ≤ (t.text.size : Int) := by omega
 clear h
 unfold ptr at *
 go_enter Tryz.func250, Tryz.ntmps250
 go_wp2_with fail
 refine H.out.mono ?_
 rintro e w1 ⟨rfl, rfl⟩
 go_wp2
 go_ret
 exact ⟨rfl, rfl⟩
theorem within_no (b : Nat) (i j : Int) (t : Tr) (w : World) (h : IsRope w b t) (hb : i < 0 ∨ j < i ∨ (t.text.size : Int) < j) : Calls Tryz.prog 250 #[ptr b, .int .i64 i, .int .i64 j] w fun e w' => e = .returned (.bool false) ∧ w' = w := by
 have H := Lib.hid (RopeLen_any b t w h)
 clear h
 unfold ptr at *
 rcases (by omega : i < 0 ∨ (0 ≤ i ∧ j < i) ∨ (0 ≤ i ∧ i ≤ j ∧ (t.text.size : Int) < j)) with h0 | ⟨h0, h1⟩ | ⟨h0, h1, h2⟩
 ·clear hb
  have q : decide (0 ≤ i) = false := by simpa using h0
  go_enter Tryz.func250, Tryz.ntmps250
  go_wp2
  go_ret
  exact ⟨rfl, rfl⟩
 ·clear hb
  have q : decide (i ≤ j) = false := by simpa using h1
  go_enter Tryz.func250, Tryz.ntmps250
  go_wp2
  go_ret
  exact ⟨rfl, rfl⟩
 ·clear hb
  have q : decide (j ≤ (t.text.size : Int)) = false := by simpa using h2
  go_enter Tryz.func250, Tryz.ntmps250
  go_wp2_with fail
  refine H.out.mono ?_
  rintro e w1 ⟨rfl, rfl⟩
  go_wp2
  go_ret
  exact ⟨rfl, rfl⟩

set_option maxRecDepth 100000 in
set_option maxHeartbeats 1000000 in
theorem RopeSlice_any (b i j : Nat) (t : Tr) (w : World) (h : IsRope w b t) (hs : t.text.size ≤ 4294967296) (hij : i ≤ j) (hj : j ≤ t.text.size) : Calls Tryz.prog 248 #[ptr b, .int .i64 i, .int .i64 j] w fun e w' => e = .returned (.tuple #[.string (t.text.extract i j), .int .i64 0]) ∧ Below w.heap.size w w' := by
 have HW := Lib.hid (within_yes b i j t w h hij hj)
 obtain ⟨x, h1, h2⟩ := h
 have H1 := Lib.hid h1.lies
 have H2 := Lib.hid h2
 have hx := cutB_extract t.text i j hj
 have HX := Lib.hid hx
 clear h1 h2 hx
 unfold ptr at HW ⊢
 go_enter Tryz.func248, Tryz.ntmps248
 go_wp2_with fail
 refine HW.out.mono ?_
 rintro e w1 ⟨rfl, rfl⟩
 have hbl : Bld w1.heap.size w1.heap.size [] (w1.alloc (.cells #[.pointer none, .slice none 0 0] 249)) := Lib.fresh_isBuilder 249 5 w1
 have b1 : Below w1.heap.size w1 (w1.alloc (.cells #[.pointer none, .slice none 0 0] 249)) := (Below.refl _ _).alloc (Nat.le_refl _) _
 obtain ⟨W0, hW⟩ : ∃ W0, w1.alloc (.cells #[.pointer none, .slice none 0 0] 249) = W0 := ⟨_, rfl⟩
 rw [hW] at hbl b1
 have HE := Lib.hid hW
 have HB := Lib.hid hbl
 have B1 := Lib.hid b1
 clear hW hbl b1
 go_wp2_with fail
 rw [HE.out]
 refine (tree_any b x W0 (H1.out.below B1.out)).mono ?_
 rintro e w2 ⟨rfl, rfl⟩
 unfold ptr
 go_wp2_with fail
 refine (slice_any w1 w1.heap.size t x i j [] w2 H2.out hs ⟨by omega, by omega⟩ ⟨by omega, by omega⟩ B1.out HB.out (by show 0 + _ ≤ _; omega)).mono ?_
 rintro e w3 ⟨rfl, h3, hb⟩
 rw [List.nil_append] at h3
 have H3 := Lib.hid h3
 have B3 := Lib.hid (B1.out.trans hb)
 clear h3 hb
 go_wp2_with fail
 refine (BldString_any w1.heap.size w1.heap.size _ w3 H3.out B3.out.size).mono ?_
 rintro e w4 ⟨rfl, hb⟩
 have B4 := Lib.hid (B3.out.trans hb)
 clear hb
 obtain ⟨R, hR⟩ : ∃ R : ByteArray, ⟨(cutB t.text i j).toArray⟩ = R := ⟨_, rfl⟩
 have HR := Lib.hid hR
 rw [hR]
 clear hR
 go_wp2
 refine bodyPost_ret (v := .tuple #[.string R, .int .i64 0]) (by simp [results, Tryz.results248, go_sem]) rfl ⟨?_, B4.out⟩
 rw [← HR.out, HX.out]
theorem RopeSlice_bad (b : Nat) (i j : Int) (t : Tr) (w : World) (h : IsRope w b t) (hb : i < 0 ∨ j < i ∨ (t.text.size : Int) < j) : Calls Tryz.prog 248 #[ptr b, .int .i64 i, .int .i64 j] w fun e w' => e = .returned (.tuple #[.string ⟨#[]⟩, .int .i64 1]) ∧ w' = w := by
 have HW := Lib.hid (within_no b i j t w h hb)
 clear h hb
 unfold ptr at HW ⊢
 go_enter Tryz.func248, Tryz.ntmps248
 go_wp2_with fail
 refine HW.out.mono ?_
 rintro e w1 ⟨rfl, rfl⟩
 go_wp2
 refine bodyPost_ret (v := .tuple #[.string ⟨#[]⟩, .int .i64 1]) (by simp [results, Tryz.results248, go_sem]) rfl ⟨rfl, rfl⟩

set_option maxRecDepth 100000 in
set_option maxHeartbeats 1000000 in
theorem RopeMeasure_any (b i j : Nat) (t : Tr) (w : World) (hT : Tabs w) (h : IsRope w b t) (hs : t.text.size ≤ 4294967296) (hij : i ≤ j) (hj : j ≤ t.text.size) : Calls Tryz.prog 246 #[ptr b, .int .i64 i, .int .i64 j] w fun e w' => e = .returned (.tuple #[(measF (t.text.extract i j)).val, .int .i64 0]) ∧ Below w.heap.size w w' := by
 obtain ⟨W0, hW0, A0, b0, hsz⟩ := boxL1 w zero7 48
 have HE := Lib.hid hW0
 unfold zero7 at HE
 have HR := Lib.hid A0
 have HB := Lib.hid b0
 have HW := Lib.hid (within_yes b i j t W0 (h.below b0) hij hj)
 have HT := Lib.hid (tabs_below hT b0)
 obtain ⟨x, h1, h2⟩ := h
 have H1 := Lib.hid (h1.lies.below b0)
 have H2 := Lib.hid (h2.below b0)
 have hc : cutS t.text i j = t.text.extract i j := cutS_extract (by omega) (by omega)
 have HC := Lib.hid hc
 clear h1 h2 hc hT hW0 A0 b0 hsz
 unfold ptr at HW ⊢
 go_enter Tryz.func246, Tryz.ntmps246
 go_wp2_with fail
 rw [HE.out]
 refine HW.out.mono ?_
 rintro e w1 ⟨rfl, rfl⟩
 go_wp2_with fail
 refine (tree_any b x w1 H1.out).mono ?_
 rintro e w2 ⟨rfl, rfl⟩
 unfold ptr
 go_wp2_with fail
 refine (measure_any t x i j w2 HT.out H2.out hs ⟨by omega, by omega⟩ ⟨by omega, by omega⟩).mono ?_
 rintro e w3 ⟨rfl, hb⟩
 rw [HC.out]
 obtain ⟨m, hm⟩ : ∃ m, measF (t.text.extract i j) = m := ⟨_, rfl⟩
 have HM := Lib.hid hm
 rw [hm]
 have HR := Lib.hid (HR.out.below hb)
 have HB := Lib.hid (HB.out.trans (hb.mono HB.out.size))
 clear hb
 clear hm
 unfold Sm.val
 have L := Lib.hid (HR.out.stored m.cells7 rfl).2
 have D4 := sets_chg w.heap.size m.cells7 0 w3
 have HBL := Lib.hid (chg_mine HB.out D4 (Nat.le_refl _))
 obtain ⟨r0, s0⟩ := HR.out.2 0 _ rfl
 obtain ⟨r1, s1⟩ := HR.out.2 1 _ rfl
 obtain ⟨r2, s2⟩ := HR.out.2 2 _ rfl
 obtain ⟨r3, s3⟩ := HR.out.2 3 _ rfl
 obtain ⟨r4, s4⟩ := HR.out.2 4 _ rfl
 obtain ⟨r5, s5⟩ := HR.out.2 5 _ rfl
 obtain ⟨r6, s6⟩ := HR.out.2 6 _ rfl
 clear D4
 go_wp2
 have j0 := (L.out 0 _ rfl).1
 have j1 := (L.out 1 _ rfl).1
 have j2 := (L.out 2 _ rfl).1
 have j3 := (L.out 3 _ rfl).1
 have j4 := (L.out 4 _ rfl).1
 have j5 := (L.out 5 _ rfl).1
 have j6 := (L.out 6 _ rfl).1
 simp only [Sm.cells7, zero7, World.setCells] at j0 j1 j2 j3 j4 j5 j6
 refine bodyPost_ret (v := .tuple #[m.val, .int .i64 0]) (by simp [results, Tryz.results246, go_sem, j0, j1, j2, j3, j4, j5, j6, Sm.val, zeroSm]) rfl ⟨by rw [HM.out], HBL.out⟩
theorem RopeMeasure_bad (b : Nat) (i j : Int) (t : Tr) (w : World) (h : IsRope w b t) (hb : i < 0 ∨ j < i ∨ (t.text.size : Int) < j) : Calls Tryz.prog 246 #[ptr b, .int .i64 i, .int .i64 j] w fun e w' => e = .returned (.tuple #[zeroSm.val, .int .i64 1]) ∧ Below w.heap.size w w' := by
 obtain ⟨W0, hW0, A0, b0, hsz⟩ := boxL1 w zero7 48
 have HE := Lib.hid hW0
 unfold zero7 at HE
 have HR := Lib.hid A0
 have HB := Lib.hid b0
 have HW := Lib.hid (within_no b i j t W0 (h.below b0) hb)
 clear h hb hW0 A0 b0 hsz
 unfold ptr at HW ⊢
 go_enter Tryz.func246, Tryz.ntmps246
 go_wp2_with fail
 rw [HE.out]
 refine HW.out.mono ?_
 rintro e w1 ⟨rfl, rfl⟩
 have L := Lib.hid (HR.out.stored zero7 rfl).2
 have D4 := sets_chg w.heap.size zero7 0 w1
 have HBL := Lib.hid (chg_mine HB.out D4 (Nat.le_refl _))
 obtain ⟨r0, s0⟩ := HR.out.2 0 _ rfl
 obtain ⟨r1, s1⟩ := HR.out.2 1 _ rfl
 obtain ⟨r2, s2⟩ := HR.out.2 2 _ rfl
 obtain ⟨r3, s3⟩ := HR.out.2 3 _ rfl
 obtain ⟨r4, s4⟩ := HR.out.2 4 _ rfl
 obtain ⟨r5, s5⟩ := HR.out.2 5 _ rfl
 obtain ⟨r6, s6⟩ := HR.out.2 6 _ rfl
 clear D4
 go_wp2
 have j0 := (L.out 0 _ rfl).1
 have j1 := (L.out 1 _ rfl).1
 have j2 := (L.out 2 _ rfl).1
 have j3 := (L.out 3 _ rfl).1
 have j4 := (L.out 4 _ rfl).1
 have j5 := (L.out 5 _ rfl).1
 have j6 := (L.out 6 _ rfl).1
 simp only [Sm.cells7, zero7, World.setCells] at j0 j1 j2 j3 j4 j5 j6
 refine bodyPost_ret (v := .tuple #[zeroSm.val, .int .i64 1]) (by simp [results, Tryz.results246, go_sem, j0, j1, j2, j3, j4, j5, j6, Sm.val, zeroSm]) rfl ⟨rfl, HBL.out⟩
end Go.Proofs.YtfchglcclgcgfaaGreatDoor.Ut
/-
 cluster.Prev, Snap; rope.place. Condition: the two tables of unicode/utf8 lie as laid.
-/
namespace Go.Proofs.YtfchglcclgcgfaaGreatDoor.Ut
open Go.RowKit
set_option linter.unusedVariables false
set_option linter.unusedSimpArgs false

/-- The greatest boundary below i, looked for in f steps; 0 at last. -/
def clPf (s : ByteArray) : Nat → Nat → Nat
 | 0, _ => 0
 | f + 1, i => if i = 0 then 0 else if clB s (prevU s i) = true then prevU s i else clPf s f (prevU s i)
def clP (s : ByteArray) (i : Nat) : Nat := clPf s i i
theorem clPf_zero (s : ByteArray) (f : Nat) : clPf s f 0 = 0 := by cases f <;> simp [clPf]
theorem clPf_same (s : ByteArray) : ∀ f g i, i ≤ s.size → i ≤ f → i ≤ g → clPf s f i = clPf s g i
 | 0, g, i, _, hf, _ => by
  obtain rfl : i = 0 := by omega
  rw [clPf_zero, clPf_zero]
 | f + 1, g, i, hs, hf, hg => by
  rcases Nat.eq_zero_or_pos i with e | e
  ·subst e; rw [clPf_zero, clPf_zero]
  ·obtain ⟨g', rfl⟩ : ∃ g', g = g' + 1 := ⟨g - 1, by omega⟩
   have hp := prev_lt (s := s) (i := i) e hs
   have hn : ¬ i = 0 := by omega
   rw [clPf, clPf, if_neg hn, if_neg hn]
   split
   ·rfl
   ·exact clPf_same s f g' _ (by omega) (by omega) (by omega)
theorem clPf_more (s : ByteArray) (f i : Nat) (hs : i ≤ s.size) (hf : i ≤ f) : clPf s f i = clP s i := clPf_same s f i i hs hf (Nat.le_refl _)
theorem clP_zero (s : ByteArray) : clP s 0 = 0 := rfl
theorem clP_step {s : ByteArray} {i : Nat} (h0 : 0 < i) (h : i ≤ s.size) : clP s i = if clB s (prevU s i) = true then prevU s i else clP s (prevU s i) := by
 have hp := prev_lt (s := s) (i := i) h0 h
 obtain ⟨j, rfl⟩ : ∃ j, i = j + 1 := ⟨i - 1, by omega⟩
 show clPf s (j + 1) (j + 1) = _
 rw [clPf, if_neg (show ¬ j + 1 = 0 by omega), clPf_more s j _ (by omega) (by omega)]
theorem clP_lt {s : ByteArray} {i : Nat} (h0 : 0 < i) (h : i ≤ s.size) : clP s i < i := by
 induction i using Nat.strongRecOn with
 | _ i ih =>
  have hp := prev_lt (s := s) (i := i) h0 h
  rw [clP_step h0 h]
  split
  ·exact hp
  ·rcases Nat.eq_zero_or_pos (prevU s i) with e | e
   ·rw [e, clP_zero]; exact h0
   ·have := ih _ hp e (by omega); omega

set_option maxRecDepth 100000 in
theorem ClPrev_any (s : ByteArray) (i : Nat) (w : World) (hT : Tabs w) (hs : s.size ≤ 140737488355328) (hi : i ≤ s.size) :
  Calls Tryz.prog 200 #[.string s, .int .i64 i] w fun e w' => e = .returned (.int .i64 (clP s i)) ∧ Below w.heap.size w w' := by
 have HT := Lib.hid hT
 obtain ⟨R, hR⟩ : ∃ R, clP s i = R := ⟨_, rfl⟩
 have HR := Lib.hid hR
 have hq : ¬ (s.size : Int) < (i : Int) := by omega
 rw [hR]
 clear hT hR
 go_enter Tryz.func200, Tryz.ntmps200
 go_wp2
 go_loopw [1] (fun v wr => ∃ j : Nat, j ≤ s.size ∧ v = .int .i64 j ∧ Hid (clP s j = R) ∧ Below w.heap.size w wr) (fun v _ => (intOf v).toNat)
 case atStart => exact ⟨i, hi, rfl, HR.out, Below.refl _ _⟩
 case round =>
  obtain ⟨j, hj, rfl, HA, hb⟩ := hrel
  have HB := Lib.hid hb
  clear hb hq
  by_cases hlt : 0 < j
  ·have h1 := prev_lt hlt hj
   have hst := clP_step hlt hj
   rw [HA.out] at hst
   have HSt := Lib.hid hst
   have hlt' : (0 : Int) < (j : Int) := by omega
   clear hst HA
   go_wp2_with fail
   refine (PrevU_any s j wr (tabs_below HT.out HB.out) hs hlt hj).mono ?_
   rintro e w1 ⟨rfl, hb1⟩
   have HB1 := Lib.hid (HB.out.trans (hb1.mono HB.out.size))
   clear hb1 HB
   generalize prevU s j = k at *
   go_wp2_with fail
   refine (ClBoundary_any s k w1 (tabs_below HT.out HB1.out) hs (by omega)).mono ?_
   rintro e w2 ⟨rfl, hb2⟩
   have HB2 := Lib.hid (HB1.out.trans (hb2.mono HB1.out.size))
   clear hb2 HB1
   cases hc : clB s k with
   | true =>
    have HRes : Hid (R = k) := by show _ = _; rw [HSt.out, if_pos hc]
    clear HSt hc
    go_wp2
    go_ret
    exact ⟨by rw [HRes.out]; rfl, HB2.out⟩
   | false =>
    have HRes : Hid (clP s k = R) := by show _ = _; rw [HSt.out, if_neg (by simp [hc])]
    clear HSt hc
    go_wp2
    go_roundw
    case rel => exact ⟨k, by omega, rfl, HRes.out, HB2.out⟩
    case measure => simp [intOf]; omega
  ·obtain rfl : j = 0 := by omega
   have HRes : Hid (R = 0) := by show _ = _; rw [← HA.out, clP_zero]
   clear HA
   go_wp2
   go_ret
   exact ⟨by rw [HRes.out]; rfl, HB.out⟩

def clS (s : ByteArray) (i : Nat) : Nat := if clB s i = true then i else clN s i
theorem clS_ge {s : ByteArray} {i : Nat} (hi : i ≤ s.size) : i ≤ clS s i ∧ clS s i ≤ s.size := by
 unfold clS
 split
 ·omega
 ·have := clN_le s i
  rcases Nat.lt_or_ge i s.size with h | h
  ·have := clN_gt h; omega
  ·rw [clN_end h]; omega
set_option maxRecDepth 100000 in
theorem ClSnap_any (s : ByteArray) (i : Nat) (w : World) (hT : Tabs w) (hs : s.size ≤ 140737488355328) (hi : i ≤ s.size) :
  Calls Tryz.prog 38 #[.string s, .int .i64 i] w fun e w' => e = .returned (.int .i64 (clS s i)) ∧ Below w.heap.size w w' := by
 have HT := Lib.hid hT
 have hq : ¬ (i : Int) < 0 := by omega
 have HB := Lib.hid (ClBoundary_any s i w hT hs hi)
 obtain ⟨R, hR⟩ : ∃ R, clS s i = R := ⟨_, rfl⟩
 rw [hR]
 unfold clS at hR
 cases hc : clB s i with
 | true =>
  rw [hc] at HB hR
  rw [if_pos rfl] at hR
  subst hR
  clear hc hT
  go_enter Tryz.func38, Tryz.ntmps38
  go_wp2_with fail
  refine HB.out.mono ?_
  rintro e w1 ⟨rfl, hb⟩
  have B1 := Lib.hid hb
  clear hb HB
  go_wp2
  go_ret
  exact ⟨rfl, B1.out⟩
 | false =>
  rw [hc] at HB hR
  rw [if_neg (by simp)] at hR
  have HR := Lib.hid hR
  clear hc hT hR
  go_enter Tryz.func38, Tryz.ntmps38
  go_wp2_with fail
  refine HB.out.mono ?_
  rintro e w1 ⟨rfl, hb⟩
  have B1 := Lib.hid hb
  clear hb HB
  go_wp2_with fail
  refine (ClNext_any s i w1 (tabs_below HT.out B1.out) hs hi).mono ?_
  rintro e w2 ⟨rfl, hb⟩
  have B2 := Lib.hid (B1.out.trans (hb.mono B1.out.size))
  rw [HR.out]
  clear hb
  go_wp2
  go_ret
  exact ⟨rfl, B2.out⟩

set_option maxRecDepth 100000 in
/-- Where a text longer than a leaf is cut. -/
theorem place_any (m : ByteArray) (w : World) (hT : Tabs w) (hm : 64 < m.size) (hs : m.size ≤ 4294967296) :
  Calls Tryz.prog 186 #[.string m] w fun e w' => ∃ r : Int, e = .returned (.int .i64 r) ∧ (r = -1 ∨ 32 ≤ r ∧ r + 32 ≤ m.size) ∧ Below w.heap.size w w' := by
 have HT := Lib.hid hT
 have e1 : IntKind.i64.wrap ((m.size : Int) - 32) = ((m.size - 32 : Nat) : Int) := by rw [IntWalk.i64_in _ (by omega)]; omega
 have e2 : (m.size : Int) - 32 = ((m.size - 32 : Nat) : Int) := by omega
 obtain ⟨L, hL⟩ : ∃ L, m.size - 32 = L := ⟨_, rfl⟩
 have hL1 : 33 ≤ L := by omega
 have hL2 : L + 32 ≤ m.size := by omega
 rw [hL] at e1 e2
 have e3 : min (L : Int) 64 = ((min L 64 : Nat) : Int) := by omega
 obtain ⟨K, hK⟩ : ∃ K, min L 64 = K := ⟨_, rfl⟩
 rw [hK] at e3
 have hK1 : K ≤ L := by omega
 have hK2 : 33 ≤ K := by omega
 have e4 : IntKind.i64.wrap ((K : Int) + 1) = (K : Int) + 1 := IntWalk.i64_in _ (by omega)
 have hPr : Calls Tryz.prog 200 #[.string m, .int .i64 ((K : Int) + 1)] w fun e w' => e = .returned (.int .i64 (clP m (K + 1))) ∧ Below w.heap.size w w' := ClPrev_any m (K + 1) w hT (by omega) (by omega)
 have HPr := Lib.hid hPr
 have hP := clP_lt (s := m) (i := K + 1) (by omega) (by omega)
 have hS := clS_ge (s := m) (i := 32) (by omega)
 clear hT hL hK hPr
 go_enter Tryz.func186, Tryz.ntmps186
 go_wp2_with fail
 refine HPr.out.mono ?_
 rintro e w1 ⟨rfl, hb⟩
 have B1 := Lib.hid hb
 clear hb
 generalize clP m (K + 1) = p at *
 by_cases h1 : 32 ≤ p
 ·have h1' : (32 : Int) ≤ (p : Int) := by omega
  clear e1 e2 e3 e4
  go_wp2
  go_ret
  exact ⟨p, rfl, .inr ⟨h1', by omega⟩, B1.out⟩
 ·have h1' : ¬ (32 : Int) ≤ (p : Int) := by omega
  clear e1 e2 e3 e4
  go_wp2_with fail
  refine (ClSnap_any m 32 w1 (tabs_below HT.out B1.out) (by omega) (by omega)).mono ?_
  rintro e w2 ⟨rfl, hb⟩
  have B2 := Lib.hid (B1.out.trans (hb.mono B1.out.size))
  clear hb
  generalize clS m 32 = q at *
  by_cases h2 : q ≤ L
  ·have h2' : (q : Int) ≤ (L : Int) := by omega
   go_wp2
   go_ret
   exact ⟨q, rfl, .inr ⟨by omega, by omega⟩, B2.out⟩
  ·have h2' : ¬ (q : Int) ≤ (L : Int) := by omega
   go_wp2
   go_ret
   exact ⟨-1, rfl, .inl rfl, B2.out⟩
end Go.Proofs.YtfchglcclgcgfaaGreatDoor.Ut
/-
 rope.cutUp: a text cut into pieces. Condition: the two tables of unicode/utf8 lie as laid.
-/
namespace Go.Proofs.YtfchglcclgcgfaaGreatDoor.Ut
open Go.RowKit Go.Proofs.YtfchglcclgcgfaaGreatDoor.Reg
set_option linter.unusedVariables false
set_option linter.unusedSimpArgs false

def strC (l : List ByteArray) : List Value := l.map Value.string
theorem infoStr : (Tryz.prog.info? 9).map (fun i => (i.zero, i.size, i.bytes)) = some (some (.string ⟨#[]⟩), 1, 16) := by kernel_rfl
theorem wpList_app_str {ops : Array Oper} {rest : List Oper} {o : Oper} {a : Act} {Q : Exit → Act → World → Prop} {w : World} {base : Nat} {u : Value} {l : List ByteArray} (hown : w.ownsRow base 9 1 u l.length (strC l)) (hgd : o.guard = none) (s x : Operand)
  (ho : o.op = .call { callee := .builtin .append, args := #[s, x], argTypes := #[195, 195] })
  (m : ByteArray) (ty : TypeId) (hs : a.eval s = u)
  (g : Nat) (hgs : g = w.heap.size) (hx : a.eval x = .slice (some ⟨g, 0, none⟩) 1 1) (hlen : (l.length + 1) * 16 ≤ 140737488355328) (hbase : base ≤ w.heap.size)
  (h : ∀ v' w', w'.ownsRow base 9 1 v' (l ++ [m]).length (strC (l ++ [m])) → (w.alloc (.cells #[.string m] ty)).grownBy w' u.ownBlock → wpList Tryz.prog ops Q rest (a.put o.dst v') w') :
  wpList Tryz.prog ops Q (o :: rest) a (w.alloc (.cells #[.string m] ty)) := by
 subst hgs
 obtain ⟨i0, hi, hz0, hz1, hz2⟩ := info_parts infoStr
 refine wpList_append_own _ hgd s x 195 ho base 9 i0 (.string ⟨#[]⟩) 1 16 Tryz.underlying195 hi hz0 hz1 hz2 rfl (by decide) u l.length (strC l) hs (hown.alloc _) ⟨w.heap.size, 0, none⟩ 1 1 [.string m] hx rfl (fun j u hj => ?_) (by intro u hu; simp at hu; subst hu; rfl) (by unfold maxLen; omega) (by omega) (by simp; omega) ?_
 ·have h1 := (Lies.new w [.string m] ty).2 j u hj
  have e : (⟨w.heap.size, 0, none⟩ : Addr).add j = ⟨w.heap.size, j, none⟩ := by rw [Addr.add_mid]; simp
  rw [e]; exact h1.1
 ·intro v' w' h1 h2 _
  refine h v' w' ?_ h2
  unfold strC at *
  simpa using h1

/-- Pieces of a text, in a row of the call's own. -/
structure Pcs (B : Nat) (v : Value) (l : List ByteArray) (w : World) : Prop where
 own : w.ownsRow B 9 1 v l.length (strC l)
 ne : ∀ x ∈ l, 0 < x.size
theorem own_below {B size n : Nat} {e : TypeId} {v : Value} {xs : List Value} {w w' : World} (h : w.ownsRow B e size v n xs) (hb : Below w.heap.size w w') : w'.ownsRow B e size v n xs := by
 refine ⟨h.1, ?_⟩
 rcases h.2 with h0 | ⟨g, cap, cur, hv, hg, hh, hr⟩
 ·exact .inl h0
 ·exact .inr ⟨g, cap, cur, hv, hg, (hb.block g (Array.getElem?_eq_some_iff.1 hh).1).trans hh, hr⟩
theorem Pcs.below {B : Nat} {v : Value} {l : List ByteArray} {w w' : World} (h : Pcs B v l w) (hb : Below w.heap.size w w') : Pcs B v l w' := ⟨own_below h.own hb, h.ne⟩
theorem len_cat {l : List ByteArray} (h : ∀ x ∈ l, 0 < x.size) : l.length ≤ (cat l).size := by
 induction l with
 | nil => simp
 | cons x r ih =>
  rw [cat_cons_size]
  have := h x (by simp)
  have := ih (fun y hy => h y (by simp [hy]))
  simp; omega
theorem extract_cut (m : ByteArray) (k : Nat) (h : k ≤ m.size) : m.extract 0 k ++ m.extract k m.size = m := by
 apply ext_of_list
 rw [app_list, extract_list, extract_list]
 simp only [List.drop_zero, Nat.sub_zero]
 rw [List.take_of_length_le (l := List.drop _ _) (by rw [List.length_drop, ← Lib.size_eq]; exact Nat.le_refl _), List.take_append_drop]
theorem cat_snoc (l : List ByteArray) (x : ByteArray) : cat (l ++ [x]) = cat l ++ x := by
 rw [cat_app]; congr 1; apply ext_of_list; simp [cat, app_list]

set_option maxRecDepth 100000 in
set_option maxHeartbeats 2000000 in
theorem cutUp_any (m : ByteArray) (w : World) (hT : Tabs w) (h0 : 0 < m.size) (hs : m.size ≤ 4294967296) :
  Calls Tryz.prog 165 #[.string m] w fun e w' => ∃ v l, e = .returned v ∧ Pcs w.heap.size v l w' ∧ cat l = m ∧ l ≠ [] ∧ Below w.heap.size w w' := by
 have HT := Lib.hid hT
 clear hT
 go_enter Tryz.func165, Tryz.ntmps165
 go_wp2
 go_loopw [0, 3] (fun s v wr => ∃ (l : List ByteArray) (k : ByteArray), s = .string k ∧ Pcs w.heap.size v l wr ∧ Hid (cat l ++ k = m) ∧ 0 < k.size ∧ k.size ≤ 4294967296 ∧ Below w.heap.size w wr) (fun s _ _ => match s with | .string k => k.size | _ => 0)
 case atStart => exact ⟨[], m, rfl, ⟨World.ownsRow_nil _ _ _ _, by simp⟩, Lib.hid (by apply ext_of_list; simp [cat, app_list]), h0, hs, Below.refl _ _⟩
 case round =>
  obtain ⟨l, k, rfl, hp, HC, hk0, hks, hb⟩ := hrel
  have HP := Lib.hid hp
  have HB := Lib.hid hb
  have hll : l.length ≤ 4294967296 := by
   have h1 := len_cat hp.ne
   have h2 : (cat l ++ k).size = m.size := by rw [HC.out]
   rw [ByteArray.size_append] at h2
   omega
  clear hp hb
  by_cases h64 : 64 < k.size
  ·have h64' : (64 : Int) < (k.size : Int) := by omega
   go_wp2_with fail
   refine (place_any k wr (tabs_below HT.out HB.out) h64 hks).mono ?_
   rintro e w1 ⟨r, rfl, hr, hb⟩
   have HP := Lib.hid (Pcs.below HP.out hb)
   have HB := Lib.hid (HB.out.trans (hb.mono HB.out.size))
   clear hb
   by_cases hr0 : r < 0
   ·go_wp2_with (at_builtin; refine wpList_app_str HP.out.own rfl _ _ rfl k _ rfl _ rfl rfl (by omega) (HB.out.size) ?_)
    intro v2 w3 hown hg
    have HO := Lib.hid hown
    have HB3 := Lib.hid ((HB.out.alloc HB.out.size _).grown hg (by have := HB.out.size; simp; omega) (fun j hj => (HP.out.own.lt j hj).1))
    have HC3 := Lib.hid ((cat_snoc l k).trans HC.out)
    have HNE := Lib.hid (HP.out.ne)
    clear hown hg
    obtain ⟨so, sn, sc, rfl⟩ : ∃ so sn sc, v2 = .slice so sn sc := by
     rcases HO.out.2 with ⟨hv, _⟩ | ⟨g, cap, cur, hv, _⟩
     ·exact ⟨_, _, _, hv⟩
     ·exact ⟨_, _, _, hv⟩
    go_wp2
    go_ret
    exact ⟨.slice so sn sc, l ++ [k], rfl, ⟨by simpa using HO.out, fun x hx => by rcases List.mem_append.1 hx with h | h; exact HNE.out x h; simp at h; subst h; exact hk0⟩, HC3.out, by simp, HB3.out⟩
   ·have hr1 := hr.resolve_left (by omega)
    obtain ⟨q, rfl⟩ : ∃ q : Nat, r = q := ⟨r.toNat, by omega⟩
    have q1 : (q : Int) ≤ (k.size : Int) := by omega
    have HX := Lib.hid (extract_cut k q (by omega))
    have e1 : (k.extract 0 q).size = q := by simp [ByteArray.size_extract]; omega
    have e2 : (k.extract q k.size).size = k.size - q := by simp [ByteArray.size_extract]
    have E1 := Lib.hid e1
    have E2 := Lib.hid e2
    clear e1 e2
    obtain ⟨x, hx⟩ : ∃ x, k.extract 0 q = x := ⟨_, rfl⟩
    obtain ⟨y, hy⟩ : ∃ y, k.extract q k.size = y := ⟨_, rfl⟩
    rw [hx, hy] at HX
    rw [hx] at E1
    rw [hy] at E2
    go_wp2_with (at_builtin; refine wpList_app_str HP.out.own rfl _ _ rfl x _ rfl _ rfl rfl (by omega) (HB.out.size) ?_)
    intro v2 w3 hown hg
    have HO := Lib.hid hown
    have HB3 := Lib.hid ((HB.out.alloc HB.out.size _).grown hg (by have := HB.out.size; simp; omega) (fun j hj => (HP.out.own.lt j hj).1))
    have HC3 : Hid (cat (l ++ [x]) ++ y = m) := Lib.hid (by rw [cat_snoc, app_assoc, HX.out]; exact HC.out)
    have HNE := Lib.hid (HP.out.ne)
    clear hown hg
    obtain ⟨so, sn, sc, rfl⟩ : ∃ so sn sc, v2 = .slice so sn sc := by
     rcases HO.out.2 with ⟨hv, _⟩ | ⟨g, cap, cur, hv, _⟩
     ·exact ⟨_, _, _, hv⟩
     ·exact ⟨_, _, _, hv⟩
    go_wp2
    try rw [hy]
    go_roundw
    case rel =>
     exact ⟨l ++ [x], y, rfl, ⟨by simpa using HO.out, fun z hz => by rcases List.mem_append.1 hz with h | h; exact HNE.out z h; simp at h; subst h; rw [E1.out]; omega⟩, HC3, by rw [E2.out]; omega, by rw [E2.out]; omega, HB3.out⟩
    case measure => show y.size < k.size; rw [E2.out]; omega
  ·have h64' : ¬ (64 : Int) < (k.size : Int) := by omega
   go_wp2_with (at_builtin; refine wpList_app_str HP.out.own rfl _ _ rfl k _ rfl _ rfl rfl (by omega) (HB.out.size) ?_)
   intro v2 w3 hown hg
   have HO := Lib.hid hown
   have HB3 := Lib.hid ((HB.out.alloc HB.out.size _).grown hg (by have := HB.out.size; simp; omega) (fun j hj => (HP.out.own.lt j hj).1))
   have HC3 := Lib.hid ((cat_snoc l k).trans HC.out)
   have HNE := Lib.hid (HP.out.ne)
   clear hown hg
   obtain ⟨so, sn, sc, rfl⟩ : ∃ so sn sc, v2 = .slice so sn sc := by
    rcases HO.out.2 with ⟨hv, _⟩ | ⟨g, cap, cur, hv, _⟩
    ·exact ⟨_, _, _, hv⟩
    ·exact ⟨_, _, _, hv⟩
   go_wp2
   go_ret
   exact ⟨.slice so sn sc, l ++ [k], rfl, ⟨by simpa using HO.out, fun x hx => by rcases List.mem_append.1 hx with h | h; exact HNE.out x h; simp at h; subst h; exact hk0⟩, HC3.out, by simp, HB3.out⟩
end Go.Proofs.YtfchglcclgcgfaaGreatDoor.Ut
/-
 rope.grown: the tree of leaves with these texts. Condition: the two tables of unicode/utf8 lie as laid.
-/
namespace Go.Proofs.YtfchglcclgcgfaaGreatDoor.Ut
open Go.RowKit Go.Proofs.YtfchglcclgcgfaaGreatDoor.Reg
set_option linter.unusedVariables false
set_option linter.unusedSimpArgs false

/-- The strings L lie in block g from o on. -/
def StrAt (W : World) (g o : Nat) (L : List ByteArray) : Prop := g < W.heap.size ∧ ∀ i s, L[i]? = some s → W.cell? ⟨g, o + i, none⟩ = some (.string s)
theorem StrAt.below {W W' : World} {g o : Nat} {L : List ByteArray} (h : StrAt W g o L) (hb : Below W.heap.size W W') : StrAt W' g o L :=
 ⟨Nat.lt_of_lt_of_le h.1 hb.size, fun i s hi => (hb.cell (p := ⟨g, o + i, none⟩) h.1).trans (h.2 i s hi)⟩
theorem StrAt.left {W : World} {g o : Nat} {A B : List ByteArray} (h : StrAt W g o (A ++ B)) : StrAt W g o A :=
 ⟨h.1, fun i s hi => h.2 i s (by
  have hl : i < A.length := (List.getElem?_eq_some_iff.1 hi).1
  rw [List.getElem?_append_left hl]; exact hi)⟩
theorem StrAt.right {W : World} {g o : Nat} {A B : List ByteArray} (h : StrAt W g o (A ++ B)) : StrAt W g (o + A.length) B :=
 ⟨h.1, fun i s hi => by
  rw [Nat.add_assoc]
  exact h.2 _ s (by rw [List.getElem?_append_right (by omega)]; rw [show A.length + i - A.length = i by omega]; exact hi)⟩

/-- What grown does, of n texts. -/
def GrownTo (n : Nat) : Prop := ∀ (g o c : Nat) (L : List ByteArray) (w : World), L.length = n → 0 < n → n ≤ c → Tabs w → StrAt w g o L → OkL L →
  Calls Tryz.prog 164 #[.slice (some ⟨g, o, none⟩) n c] w (Made L w)

set_option maxRecDepth 100000 in
theorem grown_one : GrownTo 1 := by
 intro g o c L w hL _ hc hT hS hO
 obtain ⟨s, rfl⟩ : ∃ s, L = [s] := List.length_eq_one_iff.1 hL
 have c0 := hS.2 0 s rfl
 rw [Nat.add_zero] at c0
 have hg := hS.1
 have hs := hO.leaf_le s (by simp)
 have HT := Lib.hid hT
 clear hT hS hO hL
 go_enter Tryz.func164, Tryz.ntmps164
 go_wp2_with fail
 refine (leaf_any s w HT.out hs).mono ?_
 rintro e w1 ⟨b, rfl, h1, hb, hB⟩
 have H1 := Lib.hid h1
 have HB := Lib.hid hB
 clear h1 hB
 unfold ptr
 go_wp2
 go_ret
 exact ⟨b, _, rfl, H1.out, rfl, hb, HB.out⟩

def VGrown (g o n c k base : Nat) (L1 L2 : List ByteArray) : Nat → Value → World → Prop := fun d x w => match d with
 | 14 => x = .slice (some ⟨g, o, none⟩) n c
 | 15 => x = .int .i64 k
 | 16 => x = .slice (some ⟨g, o, none⟩) k c
 | 17 => TrV base L1 x w
 | 18 => x = .slice (some ⟨g, o, none⟩) n c
 | 19 => x = .int .i64 k
 | 20 => x = .slice (some ⟨g, o + k, none⟩) (n - k) (c - k)
 | 21 => TrV base L2 x w
 | 22 => TrV base (L1 ++ L2) x w
 | 2 => TrV base (L1 ++ L2) x w
 | _ => True
theorem VGrown_mono (g o n c k base : Nat) (L1 L2 : List ByteArray) : ∀ d x w w', VGrown g o n c k base L1 L2 d x w → Below w.heap.size w w' → VGrown g o n c k base L1 L2 d x w' := by
 intro d x w w' h hb
 unfold VGrown at *
 split <;> first | exact h | exact trivial | skip
 all_goals exact h.below hb

set_option maxRecDepth 100000 in
set_option maxHeartbeats 1000000 in
theorem grown_more (n : Nat) (hn : 1 < n) (ih : ∀ m, m < n → GrownTo m) : GrownTo n := by
 intro g o c L w hL _ hc hT hS hO
 obtain ⟨k, hk⟩ : ∃ k, n / 2 = k := ⟨_, rfl⟩
 have hk0 : 0 < k := by omega
 have hkn : k < n := by omega
 obtain ⟨A, B, hAB, hA⟩ : ∃ A B, L = A ++ B ∧ A.length = k := ⟨L.take k, L.drop k, (List.take_append_drop k L).symm, by rw [List.length_take]; omega⟩
 subst hAB
 have hB : B.length = n - k := by rw [List.length_append] at hL; omega
 have hn2 : n ≤ 4294967296 := by
  have h1 := len_cat hO.ne
  have h2 := hO.sz
  omega
 have S1 := Lib.hid hS.left
 have hr := hS.right
 rw [hA] at hr
 have S2 := Lib.hid hr
 have HO := Lib.hid hO
 have HT := Lib.hid hT
 have I1 := Lib.hid (ih k hkn)
 have I2 := Lib.hid (ih (n - k) (by omega))
 have HA := Lib.hid hA
 have HBl := Lib.hid hB
 have hok : (∀ l r : Tr, l.leaves = A → r.leaves = B → (Tr.knot l r).Ok) := fun l r h1 h2 => Tr.ok_iff.2 (by simp only [Tr.leaves]; rw [h1, h2]; exact hO)
 have HK := Lib.hid hok
 have e1 : ((n : Int) == 1) = false := by rw [beq_eq_false_iff_ne]; omega
 have e2 : (n : Int) / 2 = (k : Int) := by omega
 have q1 : (k : Int) ≤ (n : Int) := by omega
 have q2 : (0 : Int) ≤ (k : Int) := by omega
 have HB := Lib.hid (Below.refl w.heap.size w)
 clear hL hA hB hr hS hO hT ih hok hk
 go_enter Tryz.func164, Tryz.ntmps164
 go_wp2
 have nkc : ¬ c = k := by omega
 have q3 : k ≤ c := by omega
 have q4 : (k : Int) ≤ (c : Int) := by omega
 refine wp_held' mixed (VGrown g o n c k w.heap.size A B) (VGrown_mono _ _ _ _ _ _ _ _) (by kernel_rfl) [14, 15, 16, 17, 18, 19, 20, 21, 22, 2] (by kernel_rfl) (by kernel_rfl) ?_ ?_
 ·intro j hj
  have hj' : j < 10 := hj
  rcases (by omega : j = 0 ∨ j = 1 ∨ j = 2 ∨ j = 3 ∨ j = 4 ∨ j = 5 ∨ j = 6 ∨ j = 7 ∨ j = 8 ∨ j = 9) with rfl | rfl | rfl | rfl | rfl | rfl | rfl | rfl | rfl | rfl
  ·(refine owes_val (L := [(0, false)]) rfl rfl rfl (by kernel_rfl) ?_; intro a' w' hb' hfacts; obtain ⟨hf0, -⟩ := hfacts; replace hf0 : a'.tmps[0]?.getD undef = .slice (some ⟨g, o, none⟩) n c := hf0)
   (go_simp; first | exact ⟨_, rfl, Br _, rfl⟩ | exact ⟨_, rfl, Br _, trivial⟩ | exact ⟨_, rfl, Ba _ _, trivial⟩ | exact ⟨_, rfl, Br _, congrArg (Value.int _) (IntWalk.i64_in _ (by omega))⟩)
  ·(refine owes_val (L := [(3, false)]) rfl rfl rfl (by kernel_rfl) ?_; intro a' w' hb' hfacts; obtain ⟨hf3, -⟩ := hfacts; replace hf3 : a'.tmps[3]?.getD undef = .int .i64 k := hf3)
   (go_simp; first | exact ⟨_, rfl, Br _, rfl⟩ | exact ⟨_, rfl, Br _, trivial⟩ | exact ⟨_, rfl, Ba _ _, trivial⟩ | exact ⟨_, rfl, Br _, congrArg (Value.int _) (IntWalk.i64_in _ (by omega))⟩)
  ·(refine owes_val (L := [(14, true), (15, true)]) rfl rfl rfl (by kernel_rfl) ?_; intro a' w' hb' hfacts; obtain ⟨hf14, hf15, -⟩ := hfacts; try simp only [VGrown] at hf14; try simp only [VGrown] at hf15)
   (go_simp; first | exact ⟨_, rfl, Br _, rfl⟩ | exact ⟨_, rfl, Br _, trivial⟩ | exact ⟨_, rfl, Ba _ _, trivial⟩ | exact ⟨_, rfl, Br _, congrArg (Value.int _) (IntWalk.i64_in _ (by omega))⟩)
  ·(refine owes_val (L := [(16, true)]) rfl rfl rfl (by kernel_rfl) ?_; intro a' w' hb' hfacts; obtain ⟨hf16, -⟩ := hfacts; try simp only [VGrown] at hf16)
   go_simp
   refine (I1.out g o c A _ HA.out hk0 (by omega) (tabs_below HT.out hb') (S1.out.below hb') HO.out.left).mono ?_
   rintro e w3 ⟨q, t, rfl, hq, ht, hs, hb3⟩
   exact ⟨_, rfl, hb3, q, t, rfl, Nat.le_trans hb'.size hs, hq, ht⟩
  ·(refine owes_val (L := [(0, false)]) rfl rfl rfl (by kernel_rfl) ?_; intro a' w' hb' hfacts; obtain ⟨hf0, -⟩ := hfacts; replace hf0 : a'.tmps[0]?.getD undef = .slice (some ⟨g, o, none⟩) n c := hf0)
   (go_simp; first | exact ⟨_, rfl, Br _, rfl⟩ | exact ⟨_, rfl, Br _, trivial⟩ | exact ⟨_, rfl, Ba _ _, trivial⟩ | exact ⟨_, rfl, Br _, congrArg (Value.int _) (IntWalk.i64_in _ (by omega))⟩)
  ·(refine owes_val (L := [(3, false)]) rfl rfl rfl (by kernel_rfl) ?_; intro a' w' hb' hfacts; obtain ⟨hf3, -⟩ := hfacts; replace hf3 : a'.tmps[3]?.getD undef = .int .i64 k := hf3)
   (go_simp; first | exact ⟨_, rfl, Br _, rfl⟩ | exact ⟨_, rfl, Br _, trivial⟩ | exact ⟨_, rfl, Ba _ _, trivial⟩ | exact ⟨_, rfl, Br _, congrArg (Value.int _) (IntWalk.i64_in _ (by omega))⟩)
  ·(refine owes_val (L := [(18, true), (19, true)]) rfl rfl rfl (by kernel_rfl) ?_; intro a' w' hb' hfacts; obtain ⟨hf18, hf19, -⟩ := hfacts; try simp only [VGrown] at hf18; try simp only [VGrown] at hf19)
   (go_simp; first | exact ⟨_, rfl, Br _, rfl⟩ | exact ⟨_, rfl, Br _, trivial⟩ | exact ⟨_, rfl, Ba _ _, trivial⟩ | exact ⟨_, rfl, Br _, congrArg (Value.int _) (IntWalk.i64_in _ (by omega))⟩)
  ·(refine owes_val (L := [(20, true)]) rfl rfl rfl (by kernel_rfl) ?_; intro a' w' hb' hfacts; obtain ⟨hf20, -⟩ := hfacts; try simp only [VGrown] at hf20)
   go_simp
   refine (I2.out g (o + k) (c - k) B _ HBl.out (by omega) (by omega) (tabs_below HT.out hb') (S2.out.below hb') HO.out.right).mono ?_
   rintro e w3 ⟨q, t, rfl, hq, ht, hs, hb3⟩
   exact ⟨_, rfl, hb3, q, t, rfl, Nat.le_trans hb'.size hs, hq, ht⟩
  ·(refine owes_val (L := [(17, true), (21, true)]) rfl rfl rfl (by kernel_rfl) ?_; intro a' w' hb' hfacts; obtain ⟨hf17, hf21, -⟩ := hfacts; try simp only [VGrown] at hf17; try simp only [VGrown] at hf21)
   obtain ⟨a, t, hh, hq, hL, ht⟩ := hf17
   obtain ⟨b, u, hh2, hq2, hL2, hu⟩ := hf21
   unfold ptr at hh hh2
   go_simp
   refine (knot_any a b t u _ (tabs_below HT.out hb') hL hL2 (HK.out t u ht hu)).mono ?_
   rintro e w3 ⟨q, rfl, hq, hs, hb3⟩
   exact ⟨_, rfl, hb3, q, .knot t u, rfl, Nat.le_trans hb'.size hs, hq, by simp only [Tr.leaves]; rw [ht, hu]⟩
  ·(refine owes_val (L := [(22, true)]) rfl rfl rfl (by kernel_rfl) ?_; intro a' w' hb' hfacts; obtain ⟨hf22, -⟩ := hfacts; try simp only [VGrown] at hf22)
   obtain ⟨a, t, hh, hq, hL, ht⟩ := hf22
   unfold ptr at hh
   go_simp
   exact ⟨_, rfl, Below.refl _ _, a, t, rfl, hq, hL, ht⟩
 ·intro f W9 hf hb3
  obtain ⟨q, t, f2, hq, hL, ht⟩ : TrV w.heap.size (A ++ B) (f 2) W9 := hf 2 (by decide)
  have R3 := Lib.hid hL
  have R5 := Lib.hid ht
  have HB := Lib.hid hb3
  clear hf hL ht hb3
  unfold ptr at f2
  simp only [putAll, put_lit, List.map_cons, List.map_nil, List.set_cons_succ, List.set_cons_zero]
  simp only [f2]
  go_wp2
  go_ret
  exact ⟨q, t, rfl, R3.out, R5.out, hq, HB.out⟩
theorem grown_to : ∀ n, GrownTo n
 | 0 => fun _ _ _ _ _ _ h => absurd h (Nat.lt_irrefl 0)
 | 1 => grown_one
 | n + 2 => grown_more (n + 2) (by omega) (fun m hm => grown_to m)
/-- grown over a row of pieces. -/
theorem grown_any (B : Nat) (v : Value) (L : List ByteArray) (w : World) (hT : Tabs w) (h : Pcs B v L w) (hn : L ≠ []) (hO : OkL L) : Calls Tryz.prog 164 #[v] w (Made L w) := by
 have h0 : 0 < L.length := List.length_pos_iff.2 hn
 rcases h.own.2 with ⟨_, hz⟩ | ⟨g, cap, cur, rfl, hB, hg, hc, hm, hs, ht⟩
 ·omega
 ·refine grown_to L.length g 0 cap L w rfl h0 hc hT ⟨(Array.getElem?_eq_some_iff.1 hg).1, fun i s hi => ?_⟩ hO
  have hi' : i < L.length := (List.getElem?_eq_some_iff.1 hi).1
  have e : cur[i]? = some (.string s) := by
   have h1 : (strC L)[i]? = some (.string s) := by unfold strC; rw [List.getElem?_map, hi]; rfl
   rw [← ht, List.getElem?_take] at h1
   rw [if_pos (by omega)] at h1
   simpa using h1
  simp [World.cell?, hg, e]
end Go.Proofs.YtfchglcclgcgfaaGreatDoor.Ut
/-
 Package lines over whatever keeps a text (TextIs): begin, Count, Of. Condition: TextIs.
-/
namespace Go.Proofs.YtfchglcclgcgfaaGreatDoor.Ut
open Go.RowKit Go.Proofs.YtfchglcclgcgfaaGreatDoor.Reg
set_option linter.unusedVariables false
set_option linter.unusedSimpArgs false

/-- Value v keeps the text s: what length, slice and newlines answer of it, now and later. -/
structure TextIs (W : World) (v : Value) (s : ByteArray) : Prop where
 form : v = .nilIface ∨ ∃ t x, v = .iface t x
 small : s.size ≤ 1073741824
 len : ∀ W', Below W.heap.size W W' → Calls Tryz.prog 129 #[v] W' fun e w' => e = .returned (.int .i64 s.size) ∧ Below W'.heap.size W' w'
 slice : ∀ W' (i j : Nat), Below W.heap.size W W' → i ≤ j → j ≤ s.size → Calls Tryz.prog 127 #[v, .int .i64 i, .int .i64 j] W' fun e w' => e = .returned (.string (s.extract i j)) ∧ Below W'.heap.size W' w'
 nl : ∀ W' (i : Nat), Below W.heap.size W W' → i ≤ s.size → Calls Tryz.prog 128 #[v, .int .i64 i] W' fun e w' => e = .returned (.int .i64 (nlF (s.extract 0 i))) ∧ Below W'.heap.size W' w'
theorem TextIs.below {W W' : World} {v : Value} {s : ByteArray} (h : TextIs W v s) (hb : Below W.heap.size W W') : TextIs W' v s :=
 ⟨h.form, h.small, fun w k => h.len w (hb.trans (k.mono hb.size)), fun w i j k => h.slice w i j (hb.trans (k.mono hb.size)), fun w i k => h.nl w i (hb.trans (k.mono hb.size))⟩

def nlTo (s : ByteArray) (k : Nat) : Nat := nlF (s.extract 0 k)
theorem nlTo_list (s : ByteArray) (k : Nat) : nlTo s k = Lib.countByte (s.data.toList.take k) 10 := by
 unfold nlTo nlF; rw [extract_list]; simp
theorem nlTo_le (s : ByteArray) (k : Nat) : nlTo s k ≤ s.size := by
 rw [nlTo_list]
 refine Nat.le_trans (List.countP_le_length) ?_
 rw [List.length_take, ← Lib.size_eq]
 exact Nat.min_le_right _ _
end Go.Proofs.YtfchglcclgcgfaaGreatDoor.Ut
/-
 Package lines over whatever keeps a text: Span, Line. Condition: TextIs.
-/
namespace Go.Proofs.YtfchglcclgcgfaaGreatDoor.Ut
open Go.RowKit Go.Proofs.YtfchglcclgcgfaaGreatDoor.Reg
set_option linter.unusedVariables false
set_option linter.unusedSimpArgs false

theorem toList_data (s : ByteArray) : s.toList = s.data.toList := ByteArray.toList_eq s
theorem extract_all (s : ByteArray) : s.extract 0 s.size = s := by
 apply ext_of_list; rw [extract_list]; simp only [List.drop_zero, Nat.sub_zero]; exact List.take_of_length_le (by rw [← Lib.size_eq]; exact Nat.le_refl _)
end Go.Proofs.YtfchglcclgcgfaaGreatDoor.Ut
/-
 Package lines over whatever keeps a text: Column, At. Conditions: TextIs; the two tables of unicode/utf8 lie as laid.
-/
namespace Go.Proofs.YtfchglcclgcgfaaGreatDoor.Ut
open Go.RowKit Go.Proofs.YtfchglcclgcgfaaGreatDoor.Reg
set_option linter.unusedVariables false
set_option linter.unusedSimpArgs false
attribute [local go_sem] Oper.semAt_some

theorem Lies.kept {W W' : World} {row : Option Nat} {g : Nat} {vs : List Value} (h : Lies W g vs) (hg : W.grownBy W' row) (hr : ∀ r, row = some r → ∃ o : Obj, W.heap[r]? = some o ∧ o.isCells = false) : Lies W' g vs :=
 ⟨Nat.lt_of_lt_of_le h.1 hg.size, fun j v hj => ⟨cell_kept (h.2 j v hj).1 hg hr, (frozen_kept (h.2 j v hj).1 hg hr).trans (h.2 j v hj).2⟩⟩
def atEnd (O : ByteArray) (F : Int) (p : List Nat) : Int := match p.getLast? with | none => F | some x => F + clN O x
end Go.Proofs.YtfchglcclgcgfaaGreatDoor.Ut
