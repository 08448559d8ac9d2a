/-
  What the proof of the laws S rests on: the texts SwC. Conditions: each theorem names its own.
-/
import Derived.Test.YtfchglcclgcgfaaGreatDoorMgSzf
/-
 bodkinlaw09: looks, asks, over a store and the document's. Condition: the two tables of unicode/utf8 lie as laid.
-/
namespace Go.Proofs.YtfchglcclgcgfaaGreatDoor.Ut
open Go.RowKit Go.Proofs.YtfchglcclgcgfaaGreatDoor.Reg
set_option linter.unusedVariables false
set_option linter.unusedSimpArgs false

set_option maxRecDepth 100000 in
set_option maxHeartbeats 4000000 in
theorem looks_two {W : World} {p : Option Addr} {b bb : Nat} {σ : Sto} {S : Nat → Prop} (h : Two W p b bb σ S) :
  Calls Tryz.prog 20 #[.pointer p, ptr b] W fun e w' => e = .returned (.bool true) ∧ Below W.heap.size W w' := by
 have HX := Lib.hid h
 have hsm := h.ok.small
 have HB := Lib.hid (Below.refl W.heap.size W)
 obtain ⟨i, T, s⟩ := σ
 clear h
 unfold ptr
 go_enter Tryz.func20, Tryz.ntmps20
 go_wp2_with fail
 refine (StThresholds_sp HX.out.st).mono ?_
 rintro e v1 ⟨rfl, hb⟩
 have HX := Lib.hid (HX.out.below hb)
 have HB := Lib.hid (HB.out.trans (hb.mono HB.out.size))
 clear hb
 go_wp2_with fail
 refine (RfThresholds9 HX.out.rf).mono ?_
 rintro e v2 ⟨rfl, hb⟩
 have HX := Lib.hid (HX.out.below hb)
 have HB := Lib.hid (HB.out.trans (hb.mono HB.out.size))
 clear hb
 go_wp2_with fail
 refine (StKind_sp HX.out.st).mono ?_
 rintro e v3 ⟨rfl, rfl⟩
 go_wp2_with fail
 refine (RfKind9 HX.out.rf).mono ?_
 rintro e v4 ⟨rfl, hb⟩
 have HX := Lib.hid (HX.out.below hb)
 have HB := Lib.hid (HB.out.trans (hb.mono HB.out.size))
 clear hb
 go_wp2_with fail
 refine (StBackend_sp HX.out.st).mono ?_
 rintro e v5 ⟨rfl, rfl⟩
 go_wp2_with fail
 refine (RfBackend9 HX.out.rf).mono ?_
 rintro e v6 ⟨rfl, hb⟩
 have HX := Lib.hid (HX.out.below hb)
 have HB := Lib.hid (HB.out.trans (hb.mono HB.out.size))
 clear hb
 go_wp2_with fail
 refine (StLimit_sp HX.out.st).mono ?_
 rintro e v7 ⟨rfl, rfl⟩
 go_wp2_with fail
 refine (RfLimit9 HX.out.rf).mono ?_
 rintro e v8 ⟨rfl, hb⟩
 have HX := Lib.hid (HX.out.below hb)
 have HB := Lib.hid (HB.out.trans (hb.mono HB.out.size))
 clear hb
 go_wp2_with fail
 refine (StCounts_sp HX.out.st).mono ?_
 rintro e v9 ⟨rfl, hb⟩
 have HX := Lib.hid (HX.out.below hb)
 have HB := Lib.hid (HB.out.trans (hb.mono HB.out.size))
 clear hb
 go_wp2_with fail
 refine (RfCounts9 HX.out.rf).mono ?_
 rintro e v10 ⟨rfl, hb⟩
 have HX := Lib.hid (HX.out.below hb)
 have HB := Lib.hid (HB.out.trans (hb.mono HB.out.size))
 clear hb
 unfold Stt.counts
 go_wp2_with fail
 refine ((HX.out.st.has HX.out.T hsm).len v10 (Below.refl _ _)).mono ?_
 rintro e v11 ⟨rfl, hb⟩
 have HX := Lib.hid (HX.out.below hb)
 have HB := Lib.hid (HB.out.trans (hb.mono HB.out.size))
 clear hb
 go_wp2_with fail
 refine (RfLen9 HX.out.rf).mono ?_
 rintro e v12 ⟨rfl, hb⟩
 have HX := Lib.hid (HX.out.below hb)
 have HB := Lib.hid (HB.out.trans (hb.mono HB.out.size))
 clear hb
 go_wp2_with fail
 refine (StText_any (HX.out.st.has HX.out.T hsm)).mono ?_
 rintro e v13 ⟨rfl, hb⟩
 have HX := Lib.hid (HX.out.below hb)
 have HB := Lib.hid (HB.out.trans (hb.mono HB.out.size))
 clear hb
 go_wp2_with fail
 refine (RfText9 HX.out.rf).mono ?_
 rintro e v14 ⟨rfl, hb⟩
 have HX := Lib.hid (HX.out.below hb)
 have HB := Lib.hid (HB.out.trans (hb.mono HB.out.size))
 clear hb
 go_wp2
 go_ret
 exact ⟨rfl, HB.out⟩
def VAk11 (q b : Nat) (p : Option Addr) (A : Int) (B1 : Bool) (N1 P1 S1 : Int) : Nat → Value → World → Prop := fun d x w => match d with
 | 75 => x = .pointer p
 | 76 => x = .pointer (some ⟨q, 1, none⟩)
 | 77 => x = .int .i64 A
 | 78 => x = .bool B1
 | 79 => x = .pointer (some ⟨b, 0, none⟩)
 | 80 => x = .pointer (some ⟨q, 1, none⟩)
 | 81 => x = .int .i64 A
 | 82 => x = .bool B1
 | 83 => x = .bool true
 | 84 => x = .bool true
 | 85 => x = .pointer p
 | 86 => x = .pointer (some ⟨q, 1, none⟩)
 | 87 => x = .int .i64 A
 | 88 => x = .int .i64 N1
 | 89 => x = .pointer (some ⟨b, 0, none⟩)
 | 90 => x = .pointer (some ⟨q, 1, none⟩)
 | 91 => x = .int .i64 A
 | 92 => x = .int .i64 N1
 | 93 => x = .bool true
 | 94 => x = .bool true
 | 95 => x = .bool true
 | 96 => x = .pointer p
 | 97 => x = .pointer (some ⟨q, 1, none⟩)
 | 98 => x = .int .i64 A
 | 99 => x = .int .i64 P1
 | 100 => x = .pointer (some ⟨b, 0, none⟩)
 | 101 => x = .pointer (some ⟨q, 1, none⟩)
 | 102 => x = .int .i64 A
 | 103 => x = .int .i64 P1
 | 104 => x = .bool true
 | 105 => x = .bool true
 | 106 => x = .bool true
 | 107 => x = .pointer p
 | 108 => x = .pointer (some ⟨q, 1, none⟩)
 | 109 => x = .int .i64 A
 | 110 => x = .int .i64 S1
 | 111 => x = .pointer (some ⟨b, 0, none⟩)
 | 112 => x = .pointer (some ⟨q, 1, none⟩)
 | 113 => x = .int .i64 A
 | 114 => x = .int .i64 S1
 | 115 => x = .bool true
 | 116 => x = .bool true
 | 6 => x = .bool true
 | _ => True
theorem VAk11_mono (q b : Nat) (p : Option Addr) (A : Int) (B1 : Bool) (N1 P1 S1 : Int) : ∀ d x w w', VAk11 q b p A B1 N1 P1 S1 d x w → Below w.heap.size w w' → VAk11 q b p A B1 N1 P1 S1 d x w' := by
 exact fun _ _ _ _ h _ => h
set_option maxRecDepth 100000 in
set_option maxHeartbeats 4000000 in
theorem asks_two {W : World} {p : Option Addr} {b bb : Nat} {σ : Sto} {S : Nat → Prop} (h : Two W p b bb σ S) (K A B : Int) (t : ByteArray) :
  Calls Tryz.prog 32 #[.pointer p, ptr b, .agg (opV K A B t).toArray] W fun e w' => e = .returned (.bool true) ∧ Below W.heap.size W w' := by
 have hsm := h.ok.small
 obtain ⟨W1, hW1, L0, b0, -⟩ := boxL1 W (opV K A B t) 44
 have HX := Lib.hid (h.below b0)
 have HE := Lib.hid hW1
 have HB := Lib.hid b0
 have HL := Lib.hid L0
 clear h hW1 b0 L0
 obtain ⟨i, T, s⟩ := σ
 unfold opV ptr at *
 rcases (by omega : K = 6 ∨ K = 7 ∨ K = 8 ∨ (K ≠ 6 ∧ K ≠ 7 ∧ K ≠ 8)) with rfl | rfl | rfl | ⟨k1, k2, k3⟩
 ·go_enter Tryz.func32, Tryz.ntmps32
  go_upto_region 1 with fail
  rw [HE.out]
  have a0 := (HL.out.2 0 _ rfl).1
  have a1 := (HL.out.2 1 _ rfl).1
  have a2 := (HL.out.2 2 _ rfl).1
  go_wp2_with fail
  refine ((HX.out.st.asks HX.out.T hsm).slice W1 A B (Below.refl _ _)).mono ?_
  rintro e w2 ⟨rfl, hb⟩
  have HX := Lib.hid (HX.out.below hb)
  have HL := Lib.hid (HL.out.below hb)
  have HB := Lib.hid (HB.out.trans (hb.mono HB.out.size))
  clear hb
  clear a0 a1 a2
  have a1 := (HL.out.2 1 _ rfl).1
  have a2 := (HL.out.2 2 _ rfl).1
  go_wp2_with fail
  refine (RfSlice9 HX.out.rf A B).mono ?_
  rintro e w3 ⟨rfl, hb⟩
  have HB := Lib.hid (HB.out.trans (hb.mono HB.out.size))
  clear hb
  clear a1 a2
  go_wp2
  go_ret
  exact ⟨rfl, HB.out⟩
 ·have HM := fun w (h : Two w p b bb ⟨i, T, s⟩ S) => (h.st.asks h.T hsm).meas w A B (Below.refl _ _)
  have HR := fun w (h : Two w p b bb ⟨i, T, s⟩ S) => RfMeasure9 h.rf hsm A B
  simp only at HM HR
  obtain ⟨m, hm⟩ : ∃ m, (meA s A B).1 = m := ⟨_, rfl⟩
  obtain ⟨E, hE⟩ : ∃ m, (meA s A B).2 = m := ⟨_, rfl⟩
  simp only [hm, hE] at HM HR
  have HM := Lib.hid HM
  have HR := Lib.hid HR
  clear hm hE
  go_enter Tryz.func32, Tryz.ntmps32
  go_upto_region 1 with fail
  rw [HE.out]
  have a0 := (HL.out.2 0 _ rfl).1
  have a1 := (HL.out.2 1 _ rfl).1
  have a2 := (HL.out.2 2 _ rfl).1
  go_wp2_with fail
  refine (HM.out W1 HX.out).mono ?_
  rintro e w2 ⟨rfl, hb⟩
  have HX := Lib.hid (HX.out.below hb)
  have HL := Lib.hid (HL.out.below hb)
  have HB := Lib.hid (HB.out.trans (hb.mono HB.out.size))
  clear hb
  clear a0 a1 a2
  obtain ⟨w3, hw3, L3, b3, -⟩ := boxL1 w2 m.cells7 48
  have HE3 := Lib.hid hw3
  have HL3 := Lib.hid L3
  have HX := Lib.hid (HX.out.below b3)
  have HL := Lib.hid (HL.out.below b3)
  have HB := Lib.hid (HB.out.trans (b3.mono HB.out.size))
  clear b3
  clear hw3 L3
  have a1 := (HL.out.2 1 _ rfl).1
  have a2 := (HL.out.2 2 _ rfl).1
  unfold Sm.cells7 at HE3
  unfold Sm.val
  go_upto_region 8 with fail
  rw [HE3.out]
  go_wp2_with fail
  refine (HR.out w3 HX.out).mono ?_
  rintro e w4 ⟨rfl, hb⟩
  have HL3 := Lib.hid (HL3.out.below hb)
  have HB := Lib.hid (HB.out.trans (hb.mono HB.out.size))
  clear hb
  clear a1 a2
  obtain ⟨w5, hw5, L5, b5, -⟩ := boxL1 w4 m.cells7 48
  have HE5 := Lib.hid hw5
  have HL5 := Lib.hid L5
  have HL3 := Lib.hid (HL3.out.below b5)
  have HB := Lib.hid (HB.out.trans (b5.mono HB.out.size))
  clear b5
  clear hw5 L5
  unfold Sm.cells7 at HE5
  unfold Sm.val
  go_upto_region 9 with fail
  rw [HE5.out]
  have c0 := (HL3.out.2 0 _ rfl).1
  have c1 := (HL3.out.2 1 _ rfl).1
  have c2 := (HL3.out.2 2 _ rfl).1
  have c3 := (HL3.out.2 3 _ rfl).1
  have c4 := (HL3.out.2 4 _ rfl).1
  have c5 := (HL3.out.2 5 _ rfl).1
  have c6 := (HL3.out.2 6 _ rfl).1
  have d0 := (HL5.out.2 0 _ rfl).1
  have d1 := (HL5.out.2 1 _ rfl).1
  have d2 := (HL5.out.2 2 _ rfl).1
  have d3 := (HL5.out.2 3 _ rfl).1
  have d4 := (HL5.out.2 4 _ rfl).1
  have d5 := (HL5.out.2 5 _ rfl).1
  have d6 := (HL5.out.2 6 _ rfl).1
  have lc := HL3.out.1
  have ld := HL5.out.1
  go_wp2
  go_ret
  exact ⟨rfl, HB.out⟩
 ·go_enter Tryz.func32, Tryz.ntmps32
  go_upto_region 1 with fail
  rw [HE.out]
  have a0 := (HL.out.2 0 _ rfl).1
  have a1 := (HL.out.2 1 _ rfl).1
  go_wp2
  refine wp_held' mixed (VAk11 W.heap.size b p A (inB s A) (nextB s A : Nat) (prevB s A : Nat) (snapB s A : Nat)) (VAk11_mono _ _ _ _ _ _ _ _) (by kernel_rfl) [75, 76, 77, 78, 79, 80, 81, 82, 83, 84, 85, 86, 87, 88, 89, 90, 91, 92, 93, 94, 95, 96, 97, 98, 99, 100, 101, 102, 103, 104, 105, 106, 107, 108, 109, 110, 111, 112, 113, 114, 115, 116, 6] (by kernel_rfl) (by kernel_rfl) ?_ ?_
  ·intro j hj
   have hj' : j < 43 := hj
   rcases (by omega : j = 0 ∨ j = 1 ∨ j = 2 ∨ j = 3 ∨ j = 4 ∨ j = 5 ∨ j = 6 ∨ j = 7 ∨ j = 8 ∨ j = 9 ∨ j = 10 ∨ j = 11 ∨ j = 12 ∨ j = 13 ∨ j = 14 ∨ j = 15 ∨ j = 16 ∨ j = 17 ∨ j = 18 ∨ j = 19 ∨ j = 20 ∨ j = 21 ∨ j = 22 ∨ j = 23 ∨ j = 24 ∨ j = 25 ∨ j = 26 ∨ j = 27 ∨ j = 28 ∨ j = 29 ∨ j = 30 ∨ j = 31 ∨ j = 32 ∨ j = 33 ∨ j = 34 ∨ j = 35 ∨ j = 36 ∨ j = 37 ∨ j = 38 ∨ j = 39 ∨ j = 40 ∨ j = 41 ∨ j = 42) with rfl | rfl | rfl | rfl | rfl | rfl | rfl | rfl | rfl | rfl | rfl | rfl | rfl | rfl | rfl | rfl | rfl | rfl | rfl | rfl | rfl | rfl | rfl | rfl | rfl | rfl | rfl | rfl | rfl | rfl | rfl | rfl | rfl | rfl | rfl | rfl | rfl | rfl | rfl | rfl | rfl | rfl | rfl
   ·(refine owes_val (L := [(0, false)]) rfl rfl rfl (by kernel_rfl) ?_; intro a' w' hb' hfacts; obtain ⟨hf0, -⟩ := hfacts; replace hf0 : a'.tmps[0]?.getD undef = .pointer p := hf0)
    have a1 := ((HL.out.below hb').2 1 _ rfl).1
    (go_simp; first | exact ⟨_, rfl, Br _, rfl⟩ | exact ⟨_, rfl, Br _, trivial⟩ | exact ⟨_, rfl, Ba _ _, trivial⟩ | exact ⟨_, rfl, Br _, congrArg (Value.int _) (IntWalk.i64_in _ (by omega))⟩)
   ·(refine owes_val (L := [(5, false)]) rfl rfl rfl (by kernel_rfl) ?_; intro a' w' hb' hfacts; obtain ⟨hf5, -⟩ := hfacts; replace hf5 : a'.tmps[5]?.getD undef = .pointer (some ⟨W.heap.size, 0, none⟩) := hf5)
    have a1 := ((HL.out.below hb').2 1 _ rfl).1
    (go_simp; first | exact ⟨_, rfl, Br _, rfl⟩ | exact ⟨_, rfl, Br _, trivial⟩ | exact ⟨_, rfl, Ba _ _, trivial⟩ | exact ⟨_, rfl, Br _, congrArg (Value.int _) (IntWalk.i64_in _ (by omega))⟩)
   ·(refine owes_val (L := [(76, true)]) rfl rfl rfl (by kernel_rfl) ?_; intro a' w' hb' hfacts; obtain ⟨hf76, -⟩ := hfacts; try simp only [VAk11] at hf76)
    have a1 := ((HL.out.below hb').2 1 _ rfl).1
    (go_simp; first | exact ⟨_, rfl, Br _, rfl⟩ | exact ⟨_, rfl, Br _, trivial⟩ | exact ⟨_, rfl, Ba _ _, trivial⟩ | exact ⟨_, rfl, Br _, congrArg (Value.int _) (IntWalk.i64_in _ (by omega))⟩)
   ·(refine owes_val (L := [(75, true), (77, true)]) rfl rfl rfl (by kernel_rfl) ?_; intro a' w' hb' hfacts; obtain ⟨hf75, hf77, -⟩ := hfacts; try simp only [VAk11] at hf75; try simp only [VAk11] at hf77)
    go_simp
    refine (StBoundary_any ((HX.out.below hb').st.has (HX.out.below hb').T hsm) (HX.out.below hb').T A).mono ?_
    rintro e w3 ⟨rfl, hb3⟩
    exact ⟨_, rfl, hb3, rfl⟩
   ·(refine owes_val (L := [(1, false)]) rfl rfl rfl (by kernel_rfl) ?_; intro a' w' hb' hfacts; obtain ⟨hf1, -⟩ := hfacts; replace hf1 : a'.tmps[1]?.getD undef = .pointer (some ⟨b, 0, none⟩) := hf1)
    have a1 := ((HL.out.below hb').2 1 _ rfl).1
    (go_simp; first | exact ⟨_, rfl, Br _, rfl⟩ | exact ⟨_, rfl, Br _, trivial⟩ | exact ⟨_, rfl, Ba _ _, trivial⟩ | exact ⟨_, rfl, Br _, congrArg (Value.int _) (IntWalk.i64_in _ (by omega))⟩)
   ·(refine owes_val (L := [(5, false)]) rfl rfl rfl (by kernel_rfl) ?_; intro a' w' hb' hfacts; obtain ⟨hf5, -⟩ := hfacts; replace hf5 : a'.tmps[5]?.getD undef = .pointer (some ⟨W.heap.size, 0, none⟩) := hf5)
    have a1 := ((HL.out.below hb').2 1 _ rfl).1
    (go_simp; first | exact ⟨_, rfl, Br _, rfl⟩ | exact ⟨_, rfl, Br _, trivial⟩ | exact ⟨_, rfl, Ba _ _, trivial⟩ | exact ⟨_, rfl, Br _, congrArg (Value.int _) (IntWalk.i64_in _ (by omega))⟩)
   ·(refine owes_val (L := [(80, true)]) rfl rfl rfl (by kernel_rfl) ?_; intro a' w' hb' hfacts; obtain ⟨hf80, -⟩ := hfacts; try simp only [VAk11] at hf80)
    have a1 := ((HL.out.below hb').2 1 _ rfl).1
    (go_simp; first | exact ⟨_, rfl, Br _, rfl⟩ | exact ⟨_, rfl, Br _, trivial⟩ | exact ⟨_, rfl, Ba _ _, trivial⟩ | exact ⟨_, rfl, Br _, congrArg (Value.int _) (IntWalk.i64_in _ (by omega))⟩)
   ·(refine owes_val (L := [(79, true), (81, true)]) rfl rfl rfl (by kernel_rfl) ?_; intro a' w' hb' hfacts; obtain ⟨hf79, hf81, -⟩ := hfacts; try simp only [VAk11] at hf79; try simp only [VAk11] at hf81)
    go_simp
    refine (RfBoundary9 (HX.out.below hb').rf hsm A).mono ?_
    rintro e w3 ⟨rfl, hb3⟩
    exact ⟨_, rfl, hb3, rfl⟩
   ·(refine owes_val (L := [(78, true), (82, true)]) rfl rfl rfl (by kernel_rfl) ?_; intro a' w' hb' hfacts; obtain ⟨hf78, hf82, -⟩ := hfacts; try simp only [VAk11] at hf78; try simp only [VAk11] at hf82)
    have a1 := ((HL.out.below hb').2 1 _ rfl).1
    (go_simp; first | exact ⟨_, rfl, Br _, rfl⟩ | exact ⟨_, rfl, Br _, trivial⟩ | exact ⟨_, rfl, Ba _ _, trivial⟩ | exact ⟨_, rfl, Br _, congrArg (Value.int _) (IntWalk.i64_in _ (by omega))⟩)
   ·(refine owes_val (L := [(83, true)]) rfl rfl rfl (by kernel_rfl) ?_; intro a' w' hb' hfacts; obtain ⟨hf83, -⟩ := hfacts; try simp only [VAk11] at hf83)
    have a1 := ((HL.out.below hb').2 1 _ rfl).1
    (go_simp; first | exact ⟨_, rfl, Br _, rfl⟩ | exact ⟨_, rfl, Br _, trivial⟩ | exact ⟨_, rfl, Ba _ _, trivial⟩ | exact ⟨_, rfl, Br _, congrArg (Value.int _) (IntWalk.i64_in _ (by omega))⟩)
   ·(refine owes_if (L := [(0, false), (84, true)]) rfl rfl rfl rfl (by kernel_rfl) ?_; intro a' w' hb' hfacts; obtain ⟨hf0, hf84, -⟩ := hfacts; replace hf0 : a'.tmps[0]?.getD undef = .pointer p := hf0; try simp only [VAk11] at hf84)
    have a1 := ((HL.out.below hb').2 1 _ rfl).1
    first | (go_simp; first | exact ⟨_, rfl, Br _, rfl⟩ | exact ⟨_, rfl, Br _, trivial⟩ | exact ⟨_, rfl, Br _⟩ | exact ⟨_, rfl, Ba _ _, trivial⟩) | (apply Exists.intro; apply And.intro; assumption; apply And.intro; (intro hc; first | exact absurd hc (by simp [undef]) | (go_simp; first | exact ⟨_, rfl, Br _, rfl⟩ | exact ⟨_, rfl, Br _, trivial⟩ | exact ⟨_, rfl, Br _⟩ | exact ⟨_, rfl, Ba _ _, trivial⟩)); (intro hc; first | exact absurd rfl hc | exact trivial | exact rfl)) | (apply Exists.intro; apply And.intro; assumption; intro hc; first | exact absurd hc (by simp [undef]) | (go_simp; first | exact ⟨_, rfl, Br _, rfl⟩ | exact ⟨_, rfl, Br _, trivial⟩ | exact ⟨_, rfl, Br _⟩ | exact ⟨_, rfl, Ba _ _, trivial⟩))
   ·(refine owes_if (L := [(5, false), (84, true)]) rfl rfl rfl rfl (by kernel_rfl) ?_; intro a' w' hb' hfacts; obtain ⟨hf5, hf84, -⟩ := hfacts; replace hf5 : a'.tmps[5]?.getD undef = .pointer (some ⟨W.heap.size, 0, none⟩) := hf5; try simp only [VAk11] at hf84)
    have a1 := ((HL.out.below hb').2 1 _ rfl).1
    first | (go_simp; first | exact ⟨_, rfl, Br _, rfl⟩ | exact ⟨_, rfl, Br _, trivial⟩ | exact ⟨_, rfl, Br _⟩ | exact ⟨_, rfl, Ba _ _, trivial⟩) | (apply Exists.intro; apply And.intro; assumption; apply And.intro; (intro hc; first | exact absurd hc (by simp [undef]) | (go_simp; first | exact ⟨_, rfl, Br _, rfl⟩ | exact ⟨_, rfl, Br _, trivial⟩ | exact ⟨_, rfl, Br _⟩ | exact ⟨_, rfl, Ba _ _, trivial⟩)); (intro hc; first | exact absurd rfl hc | exact trivial | exact rfl)) | (apply Exists.intro; apply And.intro; assumption; intro hc; first | exact absurd hc (by simp [undef]) | (go_simp; first | exact ⟨_, rfl, Br _, rfl⟩ | exact ⟨_, rfl, Br _, trivial⟩ | exact ⟨_, rfl, Br _⟩ | exact ⟨_, rfl, Ba _ _, trivial⟩))
   ·(refine owes_if (L := [(86, true), (84, true)]) rfl rfl rfl rfl (by kernel_rfl) ?_; intro a' w' hb' hfacts; obtain ⟨hf86, hf84, -⟩ := hfacts; try simp only [VAk11] at hf86; try simp only [VAk11] at hf84)
    have a1 := ((HL.out.below hb').2 1 _ rfl).1
    first | (go_simp; first | exact ⟨_, rfl, Br _, rfl⟩ | exact ⟨_, rfl, Br _, trivial⟩ | exact ⟨_, rfl, Br _⟩ | exact ⟨_, rfl, Ba _ _, trivial⟩) | (apply Exists.intro; apply And.intro; assumption; apply And.intro; (intro hc; first | exact absurd hc (by simp [undef]) | (go_simp; first | exact ⟨_, rfl, Br _, rfl⟩ | exact ⟨_, rfl, Br _, trivial⟩ | exact ⟨_, rfl, Br _⟩ | exact ⟨_, rfl, Ba _ _, trivial⟩)); (intro hc; first | exact absurd rfl hc | exact trivial | exact rfl)) | (apply Exists.intro; apply And.intro; assumption; intro hc; first | exact absurd hc (by simp [undef]) | (go_simp; first | exact ⟨_, rfl, Br _, rfl⟩ | exact ⟨_, rfl, Br _, trivial⟩ | exact ⟨_, rfl, Br _⟩ | exact ⟨_, rfl, Ba _ _, trivial⟩))
   ·(refine owes_if (L := [(85, true), (87, true), (84, true)]) rfl rfl rfl rfl (by kernel_rfl) ?_; intro a' w' hb' hfacts; obtain ⟨hf85, hf87, hf84, -⟩ := hfacts; try simp only [VAk11] at hf85; try simp only [VAk11] at hf87; try simp only [VAk11] at hf84)
    refine ⟨_, hf84, fun _ => ?_, fun hc => absurd rfl hc⟩
    go_simp
    refine (StNext_any ((HX.out.below hb').st.has (HX.out.below hb').T hsm) (HX.out.below hb').T A).mono ?_
    rintro e w3 ⟨rfl, hb3⟩
    exact ⟨_, rfl, hb3, rfl⟩
   ·(refine owes_if (L := [(1, false), (84, true)]) rfl rfl rfl rfl (by kernel_rfl) ?_; intro a' w' hb' hfacts; obtain ⟨hf1, hf84, -⟩ := hfacts; replace hf1 : a'.tmps[1]?.getD undef = .pointer (some ⟨b, 0, none⟩) := hf1; try simp only [VAk11] at hf84)
    have a1 := ((HL.out.below hb').2 1 _ rfl).1
    first | (go_simp; first | exact ⟨_, rfl, Br _, rfl⟩ | exact ⟨_, rfl, Br _, trivial⟩ | exact ⟨_, rfl, Br _⟩ | exact ⟨_, rfl, Ba _ _, trivial⟩) | (apply Exists.intro; apply And.intro; assumption; apply And.intro; (intro hc; first | exact absurd hc (by simp [undef]) | (go_simp; first | exact ⟨_, rfl, Br _, rfl⟩ | exact ⟨_, rfl, Br _, trivial⟩ | exact ⟨_, rfl, Br _⟩ | exact ⟨_, rfl, Ba _ _, trivial⟩)); (intro hc; first | exact absurd rfl hc | exact trivial | exact rfl)) | (apply Exists.intro; apply And.intro; assumption; intro hc; first | exact absurd hc (by simp [undef]) | (go_simp; first | exact ⟨_, rfl, Br _, rfl⟩ | exact ⟨_, rfl, Br _, trivial⟩ | exact ⟨_, rfl, Br _⟩ | exact ⟨_, rfl, Ba _ _, trivial⟩))
   ·(refine owes_if (L := [(5, false), (84, true)]) rfl rfl rfl rfl (by kernel_rfl) ?_; intro a' w' hb' hfacts; obtain ⟨hf5, hf84, -⟩ := hfacts; replace hf5 : a'.tmps[5]?.getD undef = .pointer (some ⟨W.heap.size, 0, none⟩) := hf5; try simp only [VAk11] at hf84)
    have a1 := ((HL.out.below hb').2 1 _ rfl).1
    first | (go_simp; first | exact ⟨_, rfl, Br _, rfl⟩ | exact ⟨_, rfl, Br _, trivial⟩ | exact ⟨_, rfl, Br _⟩ | exact ⟨_, rfl, Ba _ _, trivial⟩) | (apply Exists.intro; apply And.intro; assumption; apply And.intro; (intro hc; first | exact absurd hc (by simp [undef]) | (go_simp; first | exact ⟨_, rfl, Br _, rfl⟩ | exact ⟨_, rfl, Br _, trivial⟩ | exact ⟨_, rfl, Br _⟩ | exact ⟨_, rfl, Ba _ _, trivial⟩)); (intro hc; first | exact absurd rfl hc | exact trivial | exact rfl)) | (apply Exists.intro; apply And.intro; assumption; intro hc; first | exact absurd hc (by simp [undef]) | (go_simp; first | exact ⟨_, rfl, Br _, rfl⟩ | exact ⟨_, rfl, Br _, trivial⟩ | exact ⟨_, rfl, Br _⟩ | exact ⟨_, rfl, Ba _ _, trivial⟩))
   ·(refine owes_if (L := [(90, true), (84, true)]) rfl rfl rfl rfl (by kernel_rfl) ?_; intro a' w' hb' hfacts; obtain ⟨hf90, hf84, -⟩ := hfacts; try simp only [VAk11] at hf90; try simp only [VAk11] at hf84)
    have a1 := ((HL.out.below hb').2 1 _ rfl).1
    first | (go_simp; first | exact ⟨_, rfl, Br _, rfl⟩ | exact ⟨_, rfl, Br _, trivial⟩ | exact ⟨_, rfl, Br _⟩ | exact ⟨_, rfl, Ba _ _, trivial⟩) | (apply Exists.intro; apply And.intro; assumption; apply And.intro; (intro hc; first | exact absurd hc (by simp [undef]) | (go_simp; first | exact ⟨_, rfl, Br _, rfl⟩ | exact ⟨_, rfl, Br _, trivial⟩ | exact ⟨_, rfl, Br _⟩ | exact ⟨_, rfl, Ba _ _, trivial⟩)); (intro hc; first | exact absurd rfl hc | exact trivial | exact rfl)) | (apply Exists.intro; apply And.intro; assumption; intro hc; first | exact absurd hc (by simp [undef]) | (go_simp; first | exact ⟨_, rfl, Br _, rfl⟩ | exact ⟨_, rfl, Br _, trivial⟩ | exact ⟨_, rfl, Br _⟩ | exact ⟨_, rfl, Ba _ _, trivial⟩))
   ·(refine owes_if (L := [(89, true), (91, true), (84, true)]) rfl rfl rfl rfl (by kernel_rfl) ?_; intro a' w' hb' hfacts; obtain ⟨hf89, hf91, hf84, -⟩ := hfacts; try simp only [VAk11] at hf89; try simp only [VAk11] at hf91; try simp only [VAk11] at hf84)
    refine ⟨_, hf84, fun _ => ?_, fun hc => absurd rfl hc⟩
    go_simp
    refine (RfNext9 (HX.out.below hb').rf hsm A).mono ?_
    rintro e w3 ⟨rfl, hb3⟩
    exact ⟨_, rfl, hb3, rfl⟩
   ·(refine owes_if (L := [(88, true), (92, true), (84, true)]) rfl rfl rfl rfl (by kernel_rfl) ?_; intro a' w' hb' hfacts; obtain ⟨hf88, hf92, hf84, -⟩ := hfacts; try simp only [VAk11] at hf88; try simp only [VAk11] at hf92; try simp only [VAk11] at hf84)
    have a1 := ((HL.out.below hb').2 1 _ rfl).1
    first | (go_simp; first | exact ⟨_, rfl, Br _, rfl⟩ | exact ⟨_, rfl, Br _, trivial⟩ | exact ⟨_, rfl, Br _⟩ | exact ⟨_, rfl, Ba _ _, trivial⟩) | (apply Exists.intro; apply And.intro; assumption; apply And.intro; (intro hc; first | exact absurd hc (by simp [undef]) | (go_simp; first | exact ⟨_, rfl, Br _, rfl⟩ | exact ⟨_, rfl, Br _, trivial⟩ | exact ⟨_, rfl, Br _⟩ | exact ⟨_, rfl, Ba _ _, trivial⟩)); (intro hc; first | exact absurd rfl hc | exact trivial | exact rfl)) | (apply Exists.intro; apply And.intro; assumption; intro hc; first | exact absurd hc (by simp [undef]) | (go_simp; first | exact ⟨_, rfl, Br _, rfl⟩ | exact ⟨_, rfl, Br _, trivial⟩ | exact ⟨_, rfl, Br _⟩ | exact ⟨_, rfl, Ba _ _, trivial⟩))
   ·(refine owes_val (L := [(84, true), (93, true)]) rfl rfl rfl (by kernel_rfl) ?_; intro a' w' hb' hfacts; obtain ⟨hf84, hf93, -⟩ := hfacts; try simp only [VAk11] at hf84; try simp only [VAk11] at hf93)
    have a1 := ((HL.out.below hb').2 1 _ rfl).1
    (go_simp; first | exact ⟨_, rfl, Br _, rfl⟩ | exact ⟨_, rfl, Br _, trivial⟩ | exact ⟨_, rfl, Ba _ _, trivial⟩ | exact ⟨_, rfl, Br _, congrArg (Value.int _) (IntWalk.i64_in _ (by omega))⟩)
   ·(refine owes_val (L := [(94, true)]) rfl rfl rfl (by kernel_rfl) ?_; intro a' w' hb' hfacts; obtain ⟨hf94, -⟩ := hfacts; try simp only [VAk11] at hf94)
    have a1 := ((HL.out.below hb').2 1 _ rfl).1
    (go_simp; first | exact ⟨_, rfl, Br _, rfl⟩ | exact ⟨_, rfl, Br _, trivial⟩ | exact ⟨_, rfl, Ba _ _, trivial⟩ | exact ⟨_, rfl, Br _, congrArg (Value.int _) (IntWalk.i64_in _ (by omega))⟩)
   ·(refine owes_if (L := [(0, false), (95, true)]) rfl rfl rfl rfl (by kernel_rfl) ?_; intro a' w' hb' hfacts; obtain ⟨hf0, hf95, -⟩ := hfacts; replace hf0 : a'.tmps[0]?.getD undef = .pointer p := hf0; try simp only [VAk11] at hf95)
    have a1 := ((HL.out.below hb').2 1 _ rfl).1
    first | (go_simp; first | exact ⟨_, rfl, Br _, rfl⟩ | exact ⟨_, rfl, Br _, trivial⟩ | exact ⟨_, rfl, Br _⟩ | exact ⟨_, rfl, Ba _ _, trivial⟩) | (apply Exists.intro; apply And.intro; assumption; apply And.intro; (intro hc; first | exact absurd hc (by simp [undef]) | (go_simp; first | exact ⟨_, rfl, Br _, rfl⟩ | exact ⟨_, rfl, Br _, trivial⟩ | exact ⟨_, rfl, Br _⟩ | exact ⟨_, rfl, Ba _ _, trivial⟩)); (intro hc; first | exact absurd rfl hc | exact trivial | exact rfl)) | (apply Exists.intro; apply And.intro; assumption; intro hc; first | exact absurd hc (by simp [undef]) | (go_simp; first | exact ⟨_, rfl, Br _, rfl⟩ | exact ⟨_, rfl, Br _, trivial⟩ | exact ⟨_, rfl, Br _⟩ | exact ⟨_, rfl, Ba _ _, trivial⟩))
   ·(refine owes_if (L := [(5, false), (95, true)]) rfl rfl rfl rfl (by kernel_rfl) ?_; intro a' w' hb' hfacts; obtain ⟨hf5, hf95, -⟩ := hfacts; replace hf5 : a'.tmps[5]?.getD undef = .pointer (some ⟨W.heap.size, 0, none⟩) := hf5; try simp only [VAk11] at hf95)
    have a1 := ((HL.out.below hb').2 1 _ rfl).1
    first | (go_simp; first | exact ⟨_, rfl, Br _, rfl⟩ | exact ⟨_, rfl, Br _, trivial⟩ | exact ⟨_, rfl, Br _⟩ | exact ⟨_, rfl, Ba _ _, trivial⟩) | (apply Exists.intro; apply And.intro; assumption; apply And.intro; (intro hc; first | exact absurd hc (by simp [undef]) | (go_simp; first | exact ⟨_, rfl, Br _, rfl⟩ | exact ⟨_, rfl, Br _, trivial⟩ | exact ⟨_, rfl, Br _⟩ | exact ⟨_, rfl, Ba _ _, trivial⟩)); (intro hc; first | exact absurd rfl hc | exact trivial | exact rfl)) | (apply Exists.intro; apply And.intro; assumption; intro hc; first | exact absurd hc (by simp [undef]) | (go_simp; first | exact ⟨_, rfl, Br _, rfl⟩ | exact ⟨_, rfl, Br _, trivial⟩ | exact ⟨_, rfl, Br _⟩ | exact ⟨_, rfl, Ba _ _, trivial⟩))
   ·(refine owes_if (L := [(97, true), (95, true)]) rfl rfl rfl rfl (by kernel_rfl) ?_; intro a' w' hb' hfacts; obtain ⟨hf97, hf95, -⟩ := hfacts; try simp only [VAk11] at hf97; try simp only [VAk11] at hf95)
    have a1 := ((HL.out.below hb').2 1 _ rfl).1
    first | (go_simp; first | exact ⟨_, rfl, Br _, rfl⟩ | exact ⟨_, rfl, Br _, trivial⟩ | exact ⟨_, rfl, Br _⟩ | exact ⟨_, rfl, Ba _ _, trivial⟩) | (apply Exists.intro; apply And.intro; assumption; apply And.intro; (intro hc; first | exact absurd hc (by simp [undef]) | (go_simp; first | exact ⟨_, rfl, Br _, rfl⟩ | exact ⟨_, rfl, Br _, trivial⟩ | exact ⟨_, rfl, Br _⟩ | exact ⟨_, rfl, Ba _ _, trivial⟩)); (intro hc; first | exact absurd rfl hc | exact trivial | exact rfl)) | (apply Exists.intro; apply And.intro; assumption; intro hc; first | exact absurd hc (by simp [undef]) | (go_simp; first | exact ⟨_, rfl, Br _, rfl⟩ | exact ⟨_, rfl, Br _, trivial⟩ | exact ⟨_, rfl, Br _⟩ | exact ⟨_, rfl, Ba _ _, trivial⟩))
   ·(refine owes_if (L := [(96, true), (98, true), (95, true)]) rfl rfl rfl rfl (by kernel_rfl) ?_; intro a' w' hb' hfacts; obtain ⟨hf96, hf98, hf95, -⟩ := hfacts; try simp only [VAk11] at hf96; try simp only [VAk11] at hf98; try simp only [VAk11] at hf95)
    refine ⟨_, hf95, fun _ => ?_, fun hc => absurd rfl hc⟩
    go_simp
    refine (StPrev_any ((HX.out.below hb').st.has (HX.out.below hb').T hsm) (HX.out.below hb').T A).mono ?_
    rintro e w3 ⟨rfl, hb3⟩
    exact ⟨_, rfl, hb3, rfl⟩
   ·(refine owes_if (L := [(1, false), (95, true)]) rfl rfl rfl rfl (by kernel_rfl) ?_; intro a' w' hb' hfacts; obtain ⟨hf1, hf95, -⟩ := hfacts; replace hf1 : a'.tmps[1]?.getD undef = .pointer (some ⟨b, 0, none⟩) := hf1; try simp only [VAk11] at hf95)
    have a1 := ((HL.out.below hb').2 1 _ rfl).1
    first | (go_simp; first | exact ⟨_, rfl, Br _, rfl⟩ | exact ⟨_, rfl, Br _, trivial⟩ | exact ⟨_, rfl, Br _⟩ | exact ⟨_, rfl, Ba _ _, trivial⟩) | (apply Exists.intro; apply And.intro; assumption; apply And.intro; (intro hc; first | exact absurd hc (by simp [undef]) | (go_simp; first | exact ⟨_, rfl, Br _, rfl⟩ | exact ⟨_, rfl, Br _, trivial⟩ | exact ⟨_, rfl, Br _⟩ | exact ⟨_, rfl, Ba _ _, trivial⟩)); (intro hc; first | exact absurd rfl hc | exact trivial | exact rfl)) | (apply Exists.intro; apply And.intro; assumption; intro hc; first | exact absurd hc (by simp [undef]) | (go_simp; first | exact ⟨_, rfl, Br _, rfl⟩ | exact ⟨_, rfl, Br _, trivial⟩ | exact ⟨_, rfl, Br _⟩ | exact ⟨_, rfl, Ba _ _, trivial⟩))
   ·(refine owes_if (L := [(5, false), (95, true)]) rfl rfl rfl rfl (by kernel_rfl) ?_; intro a' w' hb' hfacts; obtain ⟨hf5, hf95, -⟩ := hfacts; replace hf5 : a'.tmps[5]?.getD undef = .pointer (some ⟨W.heap.size, 0, none⟩) := hf5; try simp only [VAk11] at hf95)
    have a1 := ((HL.out.below hb').2 1 _ rfl).1
    first | (go_simp; first | exact ⟨_, rfl, Br _, rfl⟩ | exact ⟨_, rfl, Br _, trivial⟩ | exact ⟨_, rfl, Br _⟩ | exact ⟨_, rfl, Ba _ _, trivial⟩) | (apply Exists.intro; apply And.intro; assumption; apply And.intro; (intro hc; first | exact absurd hc (by simp [undef]) | (go_simp; first | exact ⟨_, rfl, Br _, rfl⟩ | exact ⟨_, rfl, Br _, trivial⟩ | exact ⟨_, rfl, Br _⟩ | exact ⟨_, rfl, Ba _ _, trivial⟩)); (intro hc; first | exact absurd rfl hc | exact trivial | exact rfl)) | (apply Exists.intro; apply And.intro; assumption; intro hc; first | exact absurd hc (by simp [undef]) | (go_simp; first | exact ⟨_, rfl, Br _, rfl⟩ | exact ⟨_, rfl, Br _, trivial⟩ | exact ⟨_, rfl, Br _⟩ | exact ⟨_, rfl, Ba _ _, trivial⟩))
   ·(refine owes_if (L := [(101, true), (95, true)]) rfl rfl rfl rfl (by kernel_rfl) ?_; intro a' w' hb' hfacts; obtain ⟨hf101, hf95, -⟩ := hfacts; try simp only [VAk11] at hf101; try simp only [VAk11] at hf95)
    have a1 := ((HL.out.below hb').2 1 _ rfl).1
    first | (go_simp; first | exact ⟨_, rfl, Br _, rfl⟩ | exact ⟨_, rfl, Br _, trivial⟩ | exact ⟨_, rfl, Br _⟩ | exact ⟨_, rfl, Ba _ _, trivial⟩) | (apply Exists.intro; apply And.intro; assumption; apply And.intro; (intro hc; first | exact absurd hc (by simp [undef]) | (go_simp; first | exact ⟨_, rfl, Br _, rfl⟩ | exact ⟨_, rfl, Br _, trivial⟩ | exact ⟨_, rfl, Br _⟩ | exact ⟨_, rfl, Ba _ _, trivial⟩)); (intro hc; first | exact absurd rfl hc | exact trivial | exact rfl)) | (apply Exists.intro; apply And.intro; assumption; intro hc; first | exact absurd hc (by simp [undef]) | (go_simp; first | exact ⟨_, rfl, Br _, rfl⟩ | exact ⟨_, rfl, Br _, trivial⟩ | exact ⟨_, rfl, Br _⟩ | exact ⟨_, rfl, Ba _ _, trivial⟩))
   ·(refine owes_if (L := [(100, true), (102, true), (95, true)]) rfl rfl rfl rfl (by kernel_rfl) ?_; intro a' w' hb' hfacts; obtain ⟨hf100, hf102, hf95, -⟩ := hfacts; try simp only [VAk11] at hf100; try simp only [VAk11] at hf102; try simp only [VAk11] at hf95)
    refine ⟨_, hf95, fun _ => ?_, fun hc => absurd rfl hc⟩
    go_simp
    refine (RfPrev9 (HX.out.below hb').rf hsm A).mono ?_
    rintro e w3 ⟨rfl, hb3⟩
    exact ⟨_, rfl, hb3, rfl⟩
   ·(refine owes_if (L := [(99, true), (103, true), (95, true)]) rfl rfl rfl rfl (by kernel_rfl) ?_; intro a' w' hb' hfacts; obtain ⟨hf99, hf103, hf95, -⟩ := hfacts; try simp only [VAk11] at hf99; try simp only [VAk11] at hf103; try simp only [VAk11] at hf95)
    have a1 := ((HL.out.below hb').2 1 _ rfl).1
    first | (go_simp; first | exact ⟨_, rfl, Br _, rfl⟩ | exact ⟨_, rfl, Br _, trivial⟩ | exact ⟨_, rfl, Br _⟩ | exact ⟨_, rfl, Ba _ _, trivial⟩) | (apply Exists.intro; apply And.intro; assumption; apply And.intro; (intro hc; first | exact absurd hc (by simp [undef]) | (go_simp; first | exact ⟨_, rfl, Br _, rfl⟩ | exact ⟨_, rfl, Br _, trivial⟩ | exact ⟨_, rfl, Br _⟩ | exact ⟨_, rfl, Ba _ _, trivial⟩)); (intro hc; first | exact absurd rfl hc | exact trivial | exact rfl)) | (apply Exists.intro; apply And.intro; assumption; intro hc; first | exact absurd hc (by simp [undef]) | (go_simp; first | exact ⟨_, rfl, Br _, rfl⟩ | exact ⟨_, rfl, Br _, trivial⟩ | exact ⟨_, rfl, Br _⟩ | exact ⟨_, rfl, Ba _ _, trivial⟩))
   ·(refine owes_val (L := [(95, true), (104, true)]) rfl rfl rfl (by kernel_rfl) ?_; intro a' w' hb' hfacts; obtain ⟨hf95, hf104, -⟩ := hfacts; try simp only [VAk11] at hf95; try simp only [VAk11] at hf104)
    have a1 := ((HL.out.below hb').2 1 _ rfl).1
    (go_simp; first | exact ⟨_, rfl, Br _, rfl⟩ | exact ⟨_, rfl, Br _, trivial⟩ | exact ⟨_, rfl, Ba _ _, trivial⟩ | exact ⟨_, rfl, Br _, congrArg (Value.int _) (IntWalk.i64_in _ (by omega))⟩)
   ·(refine owes_val (L := [(105, true)]) rfl rfl rfl (by kernel_rfl) ?_; intro a' w' hb' hfacts; obtain ⟨hf105, -⟩ := hfacts; try simp only [VAk11] at hf105)
    have a1 := ((HL.out.below hb').2 1 _ rfl).1
    (go_simp; first | exact ⟨_, rfl, Br _, rfl⟩ | exact ⟨_, rfl, Br _, trivial⟩ | exact ⟨_, rfl, Ba _ _, trivial⟩ | exact ⟨_, rfl, Br _, congrArg (Value.int _) (IntWalk.i64_in _ (by omega))⟩)
   ·(refine owes_if (L := [(0, false), (106, true)]) rfl rfl rfl rfl (by kernel_rfl) ?_; intro a' w' hb' hfacts; obtain ⟨hf0, hf106, -⟩ := hfacts; replace hf0 : a'.tmps[0]?.getD undef = .pointer p := hf0; try simp only [VAk11] at hf106)
    have a1 := ((HL.out.below hb').2 1 _ rfl).1
    first | (go_simp; first | exact ⟨_, rfl, Br _, rfl⟩ | exact ⟨_, rfl, Br _, trivial⟩ | exact ⟨_, rfl, Br _⟩ | exact ⟨_, rfl, Ba _ _, trivial⟩) | (apply Exists.intro; apply And.intro; assumption; apply And.intro; (intro hc; first | exact absurd hc (by simp [undef]) | (go_simp; first | exact ⟨_, rfl, Br _, rfl⟩ | exact ⟨_, rfl, Br _, trivial⟩ | exact ⟨_, rfl, Br _⟩ | exact ⟨_, rfl, Ba _ _, trivial⟩)); (intro hc; first | exact absurd rfl hc | exact trivial | exact rfl)) | (apply Exists.intro; apply And.intro; assumption; intro hc; first | exact absurd hc (by simp [undef]) | (go_simp; first | exact ⟨_, rfl, Br _, rfl⟩ | exact ⟨_, rfl, Br _, trivial⟩ | exact ⟨_, rfl, Br _⟩ | exact ⟨_, rfl, Ba _ _, trivial⟩))
   ·(refine owes_if (L := [(5, false), (106, true)]) rfl rfl rfl rfl (by kernel_rfl) ?_; intro a' w' hb' hfacts; obtain ⟨hf5, hf106, -⟩ := hfacts; replace hf5 : a'.tmps[5]?.getD undef = .pointer (some ⟨W.heap.size, 0, none⟩) := hf5; try simp only [VAk11] at hf106)
    have a1 := ((HL.out.below hb').2 1 _ rfl).1
    first | (go_simp; first | exact ⟨_, rfl, Br _, rfl⟩ | exact ⟨_, rfl, Br _, trivial⟩ | exact ⟨_, rfl, Br _⟩ | exact ⟨_, rfl, Ba _ _, trivial⟩) | (apply Exists.intro; apply And.intro; assumption; apply And.intro; (intro hc; first | exact absurd hc (by simp [undef]) | (go_simp; first | exact ⟨_, rfl, Br _, rfl⟩ | exact ⟨_, rfl, Br _, trivial⟩ | exact ⟨_, rfl, Br _⟩ | exact ⟨_, rfl, Ba _ _, trivial⟩)); (intro hc; first | exact absurd rfl hc | exact trivial | exact rfl)) | (apply Exists.intro; apply And.intro; assumption; intro hc; first | exact absurd hc (by simp [undef]) | (go_simp; first | exact ⟨_, rfl, Br _, rfl⟩ | exact ⟨_, rfl, Br _, trivial⟩ | exact ⟨_, rfl, Br _⟩ | exact ⟨_, rfl, Ba _ _, trivial⟩))
   ·(refine owes_if (L := [(108, true), (106, true)]) rfl rfl rfl rfl (by kernel_rfl) ?_; intro a' w' hb' hfacts; obtain ⟨hf108, hf106, -⟩ := hfacts; try simp only [VAk11] at hf108; try simp only [VAk11] at hf106)
    have a1 := ((HL.out.below hb').2 1 _ rfl).1
    first | (go_simp; first | exact ⟨_, rfl, Br _, rfl⟩ | exact ⟨_, rfl, Br _, trivial⟩ | exact ⟨_, rfl, Br _⟩ | exact ⟨_, rfl, Ba _ _, trivial⟩) | (apply Exists.intro; apply And.intro; assumption; apply And.intro; (intro hc; first | exact absurd hc (by simp [undef]) | (go_simp; first | exact ⟨_, rfl, Br _, rfl⟩ | exact ⟨_, rfl, Br _, trivial⟩ | exact ⟨_, rfl, Br _⟩ | exact ⟨_, rfl, Ba _ _, trivial⟩)); (intro hc; first | exact absurd rfl hc | exact trivial | exact rfl)) | (apply Exists.intro; apply And.intro; assumption; intro hc; first | exact absurd hc (by simp [undef]) | (go_simp; first | exact ⟨_, rfl, Br _, rfl⟩ | exact ⟨_, rfl, Br _, trivial⟩ | exact ⟨_, rfl, Br _⟩ | exact ⟨_, rfl, Ba _ _, trivial⟩))
   ·(refine owes_if (L := [(107, true), (109, true), (106, true)]) rfl rfl rfl rfl (by kernel_rfl) ?_; intro a' w' hb' hfacts; obtain ⟨hf107, hf109, hf106, -⟩ := hfacts; try simp only [VAk11] at hf107; try simp only [VAk11] at hf109; try simp only [VAk11] at hf106)
    refine ⟨_, hf106, fun _ => ?_, fun hc => absurd rfl hc⟩
    go_simp
    refine (StSnap_any ((HX.out.below hb').st.has (HX.out.below hb').T hsm) (HX.out.below hb').T A).mono ?_
    rintro e w3 ⟨rfl, hb3⟩
    exact ⟨_, rfl, hb3, rfl⟩
   ·(refine owes_if (L := [(1, false), (106, true)]) rfl rfl rfl rfl (by kernel_rfl) ?_; intro a' w' hb' hfacts; obtain ⟨hf1, hf106, -⟩ := hfacts; replace hf1 : a'.tmps[1]?.getD undef = .pointer (some ⟨b, 0, none⟩) := hf1; try simp only [VAk11] at hf106)
    have a1 := ((HL.out.below hb').2 1 _ rfl).1
    first | (go_simp; first | exact ⟨_, rfl, Br _, rfl⟩ | exact ⟨_, rfl, Br _, trivial⟩ | exact ⟨_, rfl, Br _⟩ | exact ⟨_, rfl, Ba _ _, trivial⟩) | (apply Exists.intro; apply And.intro; assumption; apply And.intro; (intro hc; first | exact absurd hc (by simp [undef]) | (go_simp; first | exact ⟨_, rfl, Br _, rfl⟩ | exact ⟨_, rfl, Br _, trivial⟩ | exact ⟨_, rfl, Br _⟩ | exact ⟨_, rfl, Ba _ _, trivial⟩)); (intro hc; first | exact absurd rfl hc | exact trivial | exact rfl)) | (apply Exists.intro; apply And.intro; assumption; intro hc; first | exact absurd hc (by simp [undef]) | (go_simp; first | exact ⟨_, rfl, Br _, rfl⟩ | exact ⟨_, rfl, Br _, trivial⟩ | exact ⟨_, rfl, Br _⟩ | exact ⟨_, rfl, Ba _ _, trivial⟩))
   ·(refine owes_if (L := [(5, false), (106, true)]) rfl rfl rfl rfl (by kernel_rfl) ?_; intro a' w' hb' hfacts; obtain ⟨hf5, hf106, -⟩ := hfacts; replace hf5 : a'.tmps[5]?.getD undef = .pointer (some ⟨W.heap.size, 0, none⟩) := hf5; try simp only [VAk11] at hf106)
    have a1 := ((HL.out.below hb').2 1 _ rfl).1
    first | (go_simp; first | exact ⟨_, rfl, Br _, rfl⟩ | exact ⟨_, rfl, Br _, trivial⟩ | exact ⟨_, rfl, Br _⟩ | exact ⟨_, rfl, Ba _ _, trivial⟩) | (apply Exists.intro; apply And.intro; assumption; apply And.intro; (intro hc; first | exact absurd hc (by simp [undef]) | (go_simp; first | exact ⟨_, rfl, Br _, rfl⟩ | exact ⟨_, rfl, Br _, trivial⟩ | exact ⟨_, rfl, Br _⟩ | exact ⟨_, rfl, Ba _ _, trivial⟩)); (intro hc; first | exact absurd rfl hc | exact trivial | exact rfl)) | (apply Exists.intro; apply And.intro; assumption; intro hc; first | exact absurd hc (by simp [undef]) | (go_simp; first | exact ⟨_, rfl, Br _, rfl⟩ | exact ⟨_, rfl, Br _, trivial⟩ | exact ⟨_, rfl, Br _⟩ | exact ⟨_, rfl, Ba _ _, trivial⟩))
   ·(refine owes_if (L := [(112, true), (106, true)]) rfl rfl rfl rfl (by kernel_rfl) ?_; intro a' w' hb' hfacts; obtain ⟨hf112, hf106, -⟩ := hfacts; try simp only [VAk11] at hf112; try simp only [VAk11] at hf106)
    have a1 := ((HL.out.below hb').2 1 _ rfl).1
    first | (go_simp; first | exact ⟨_, rfl, Br _, rfl⟩ | exact ⟨_, rfl, Br _, trivial⟩ | exact ⟨_, rfl, Br _⟩ | exact ⟨_, rfl, Ba _ _, trivial⟩) | (apply Exists.intro; apply And.intro; assumption; apply And.intro; (intro hc; first | exact absurd hc (by simp [undef]) | (go_simp; first | exact ⟨_, rfl, Br _, rfl⟩ | exact ⟨_, rfl, Br _, trivial⟩ | exact ⟨_, rfl, Br _⟩ | exact ⟨_, rfl, Ba _ _, trivial⟩)); (intro hc; first | exact absurd rfl hc | exact trivial | exact rfl)) | (apply Exists.intro; apply And.intro; assumption; intro hc; first | exact absurd hc (by simp [undef]) | (go_simp; first | exact ⟨_, rfl, Br _, rfl⟩ | exact ⟨_, rfl, Br _, trivial⟩ | exact ⟨_, rfl, Br _⟩ | exact ⟨_, rfl, Ba _ _, trivial⟩))
   ·(refine owes_if (L := [(111, true), (113, true), (106, true)]) rfl rfl rfl rfl (by kernel_rfl) ?_; intro a' w' hb' hfacts; obtain ⟨hf111, hf113, hf106, -⟩ := hfacts; try simp only [VAk11] at hf111; try simp only [VAk11] at hf113; try simp only [VAk11] at hf106)
    refine ⟨_, hf106, fun _ => ?_, fun hc => absurd rfl hc⟩
    go_simp
    refine (RfSnap9 (HX.out.below hb').rf hsm A).mono ?_
    rintro e w3 ⟨rfl, hb3⟩
    exact ⟨_, rfl, hb3, rfl⟩
   ·(refine owes_if (L := [(110, true), (114, true), (106, true)]) rfl rfl rfl rfl (by kernel_rfl) ?_; intro a' w' hb' hfacts; obtain ⟨hf110, hf114, hf106, -⟩ := hfacts; try simp only [VAk11] at hf110; try simp only [VAk11] at hf114; try simp only [VAk11] at hf106)
    have a1 := ((HL.out.below hb').2 1 _ rfl).1
    first | (go_simp; first | exact ⟨_, rfl, Br _, rfl⟩ | exact ⟨_, rfl, Br _, trivial⟩ | exact ⟨_, rfl, Br _⟩ | exact ⟨_, rfl, Ba _ _, trivial⟩) | (apply Exists.intro; apply And.intro; assumption; apply And.intro; (intro hc; first | exact absurd hc (by simp [undef]) | (go_simp; first | exact ⟨_, rfl, Br _, rfl⟩ | exact ⟨_, rfl, Br _, trivial⟩ | exact ⟨_, rfl, Br _⟩ | exact ⟨_, rfl, Ba _ _, trivial⟩)); (intro hc; first | exact absurd rfl hc | exact trivial | exact rfl)) | (apply Exists.intro; apply And.intro; assumption; intro hc; first | exact absurd hc (by simp [undef]) | (go_simp; first | exact ⟨_, rfl, Br _, rfl⟩ | exact ⟨_, rfl, Br _, trivial⟩ | exact ⟨_, rfl, Br _⟩ | exact ⟨_, rfl, Ba _ _, trivial⟩))
   ·(refine owes_val (L := [(106, true), (115, true)]) rfl rfl rfl (by kernel_rfl) ?_; intro a' w' hb' hfacts; obtain ⟨hf106, hf115, -⟩ := hfacts; try simp only [VAk11] at hf106; try simp only [VAk11] at hf115)
    have a1 := ((HL.out.below hb').2 1 _ rfl).1
    (go_simp; first | exact ⟨_, rfl, Br _, rfl⟩ | exact ⟨_, rfl, Br _, trivial⟩ | exact ⟨_, rfl, Ba _ _, trivial⟩ | exact ⟨_, rfl, Br _, congrArg (Value.int _) (IntWalk.i64_in _ (by omega))⟩)
   ·(refine owes_val (L := [(116, true)]) rfl rfl rfl (by kernel_rfl) ?_; intro a' w' hb' hfacts; obtain ⟨hf116, -⟩ := hfacts; try simp only [VAk11] at hf116)
    have a1 := ((HL.out.below hb').2 1 _ rfl).1
    (go_simp; first | exact ⟨_, rfl, Br _, rfl⟩ | exact ⟨_, rfl, Br _, trivial⟩ | exact ⟨_, rfl, Ba _ _, trivial⟩ | exact ⟨_, rfl, Br _, congrArg (Value.int _) (IntWalk.i64_in _ (by omega))⟩)
  ·intro f W9 hf hb
   have f6 : f 6 = .bool true := hf 6 (by decide)
   have HB := Lib.hid (HB.out.trans (hb.mono HB.out.size))
   clear hb
   clear hf a0 a1
   simp only [putAll, put_lit, List.map_cons, List.map_nil, List.set_cons_succ, List.set_cons_zero]
   simp only [f6]
   go_wp2
   go_ret
   exact ⟨rfl, HB.out⟩
 ·have e1 : (K == 6) = false := by rw [beq_eq_false_iff_ne]; exact k1
  have e2 : (K == 7) = false := by rw [beq_eq_false_iff_ne]; exact k2
  have e3 : (K == 8) = false := by rw [beq_eq_false_iff_ne]; exact k3
  go_enter Tryz.func32, Tryz.ntmps32
  go_upto_region 1 with fail
  rw [HE.out]
  have a0 := (HL.out.2 0 _ rfl).1
  go_wp2
  go_ret
  exact ⟨rfl, HB.out⟩
end Go.Proofs.YtfchglcclgcgfaaGreatDoor.Ut
