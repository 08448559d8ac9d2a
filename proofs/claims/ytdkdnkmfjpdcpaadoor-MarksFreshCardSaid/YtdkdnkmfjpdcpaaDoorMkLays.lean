/-
  bodkinlaw10.lays is true. No condition.
-/
import Derived.Test.YtdkdnkmfjpdcpaaDoorMkSame
import Derived.Test.YtdkdnkmfjpdcpaaDoorNextA
namespace Go.Proofs.YtdkdnkmfjpdcpaaDoor.Mk
open Go.RowKit Go.Maps
set_option linter.unusedVariables false
set_option linter.unusedSimpArgs false

theorem MksAt.of_row {w : World} {base : Nat} {A : Option Addr} {c : Nat} {l : ML} (h : w.ownsRow base 33 2 (.slice A l.length c) l.length (cellsM l)) : MksAt w A l := by
  rcases Nat.eq_zero_or_pos l.length with h0 | h0
  · exact .inl (List.eq_nil_of_length_eq_zero h0)
  · obtain ⟨g, cap, he, hg, hlt⟩ := h.form h0
    obtain ⟨rfl, rfl⟩ : A = some ⟨g, 0, none⟩ ∧ c = cap := by simpa using he
    refine .inr ⟨_, rfl, hlt, fun i hi => ?_⟩
    obtain ⟨e1, e2⟩ := cellsM_get l i hi
    have ea : (⟨g, 0, none⟩ : Addr).add (i * 2) = ⟨g, i * 2, none⟩ := by unfold Addr.add; split <;> simp_all
    rw [ea]
    exact ⟨(h.cellAt (i * 2) (by omega)).trans e1, (h.cellAt (i * 2 + 1) (by omega)).trans e2⟩

abbrev m5 : ML := [(98, 3), (65, 1), (64, 2), (98, 4), (99, -1)]
abbrev m2 : ML := [(64, 2), (98, 4)]
theorem load5 : loadL m5 = m2 := by decide
theorem fits5 : Fits m5 := by
  intro x hx
  simp at hx
  rcases hx with rfl | rfl | rfl | rfl | rfl <;> decide

theorem mksAt5 (w : World) (t : TypeId) : MksAt (w.alloc (.cells #[.int .u8 98, .int .i64 3, .int .u8 65, .int .i64 1, .int .u8 64, .int .i64 2, .int .u8 98, .int .i64 4, .int .u8 99, .int .i64 (-1)] t)) (some ⟨w.heap.size, 0, none⟩) m5 := by
  refine .inr ⟨_, rfl, by simp, fun i hi => ?_⟩
  have hi' : i < 5 := by simpa using hi
  unfold MkAt
  rcases (by omega : i = 0 ∨ i = 1 ∨ i = 2 ∨ i = 3 ∨ i = 4) with rfl | rfl | rfl | rfl | rfl <;> simp [Addr.add]
theorem mksAt2 (w : World) (t : TypeId) : MksAt (w.alloc (.cells #[.int .u8 64, .int .i64 2, .int .u8 98, .int .i64 4] t)) (some ⟨w.heap.size, 0, none⟩) m2 := by
  refine .inr ⟨_, rfl, by simp, fun i hi => ?_⟩
  have hi' : i < 2 := by simpa using hi
  unfold MkAt
  rcases (by omega : i = 0 ∨ i = 1) with rfl | rfl <;> simp [Addr.add]

abbrev d1 : Dl := ⟨3, ⟨#[97, 98]⟩, ⟨#[120, 121, 122]⟩⟩
theorem dlsAt1 (w : World) (t : TypeId) : DlsAt (w.alloc (.cells #[.int .i64 3, .string ⟨#[97, 98]⟩, .string ⟨#[120, 121, 122]⟩] t)) (some ⟨w.heap.size, 0, none⟩) [d1] := by
  refine .inr ⟨_, rfl, by simp, fun i hi => ?_⟩
  have hi' : i < 1 := by simpa using hi
  unfold DlAt
  obtain rfl : i = 0 := by omega
  simp [Addr.add]
theorem moved1 : moved 5 [d1] = 6 := by decide +kernel

theorem lays_true (w : World) : Calls Tryd.prog 12 #[] w fun e w' => e = .returned (.bool true) ∧ Below w.heap.size w w' := by
  go_enter Tryd.func12, Tryd.ntmps12
  go_wp2_with fail
  refine (Next_a _).mono ?_
  rintro e w1 ⟨rfl, hb1⟩
  go_wp2_with fail
  refine (New_any (some ⟨w1.heap.size, 0, none⟩) m5 5 _ (mksAt5 w1 _) fits5 (by decide)).mono ?_
  rintro e w2 ⟨rfl, ro, hs, hfr, hb2⟩
  rw [load5] at hs
  have hb2' : Below w.heap.size w w2 := (hb1.alloc hb1.size _).trans (hb2.mono (by have := hb1.size; simp; omega))
  have HS := Lib.hid hs
  have HB := Lib.hid hb2'
  clear hs hfr hb2 hb2' hb1
  generalize hbk : (w1.alloc _).heap.size = b at *
  clear hbk
  go_wp2_with fail
  refine (All_any b ro m2 _ HS.out).mono ?_
  rintro e w3 ⟨v, rfl, hrow, hb3⟩
  obtain ⟨A, c, rfl⟩ := row_form hrow
  have HM := Lib.hid (MksAt.of_row hrow)
  have HS3 := Lib.hid (HS.out.below hb3)
  have HB3 := Lib.hid (HB.out.trans (hb3.mono HB.out.size))
  clear hrow hb3
  go_wp2_with fail
  refine (Same_any A (some ⟨w3.heap.size, 0, none⟩) m2 m2 c 2 _ (HM.out.below ((Below.refl _ _).alloc (Nat.le_refl _) _)) (mksAt2 w3 _) (by decide) (by decide)).mono ?_
  rintro e w4 ⟨rfl, hb4⟩
  have hb4' : Below w3.heap.size w3 w4 := ((Below.refl _ _).alloc (Nat.le_refl _) _).trans (hb4.mono (by simp))
  have HB4 := Lib.hid (HB3.out.trans (hb4'.mono HB3.out.size))
  have HS4 := Lib.hid (HS3.out.below hb4')
  clear hb4 hb4'
  rw [show decide (m2 = m2) = true by decide]
  go_wp2_with fail
  refine (Moved_any 5 (some ⟨w4.heap.size, 0, none⟩) [d1] 1 _ (by decide) (dlsAt1 w4 _)).mono ?_
  rintro e w5 ⟨rfl, hb5⟩
  have hb5' : Below w4.heap.size w4 w5 := ((Below.refl _ _).alloc (Nat.le_refl _) _).trans (hb5.mono (by simp))
  have HB5 := Lib.hid (HB4.out.trans (hb5'.mono HB4.out.size))
  clear hb5 hb5'
  rw [moved1]
  go_wp2_with fail
  refine (Put_bad _ 66 (-1) _ (by decide)).mono ?_
  rintro e w6 ⟨rfl, rfl⟩
  go_wp2_with fail
  refine (Put_neg _ 98 (-1) _ (by decide) (by decide)).mono ?_
  rintro e w7 ⟨rfl, rfl⟩
  go_wp2
  go_ret
  exact ⟨rfl, HB5.out⟩
end Go.Proofs.YtdkdnkmfjpdcpaaDoor.Mk
