/-
  What the proof of the laws S rests on: the texts LnD StA StB PlL LnE PlM PlN RfZ. Conditions: each theorem names its own.
-/
import Derived.Test.YtfchglcclgcgfaaGreatDoorMgSn
import Derived.Test.YtfchglcclgcgfaaGreatDoorMgSg
import Derived.Deep.AppendLies
import Derived.Laws.OwnMore
/-
 What keeps a text (TextIs): nothing, a nil buffer, a gap buffer. Condition: the two tables of unicode/utf8 lie as laid.
-/
namespace Go.Proofs.YtfchglcclgcgfaaGreatDoor.Ut
open Go.RowKit Go.Proofs.YtfchglcclgcgfaaGreatDoor.Reg
set_option linter.unusedVariables false
set_option linter.unusedSimpArgs false

def emptyB : ByteArray := ⟨#[]⟩
theorem empty_extract (i j : Nat) (hj : j ≤ emptyB.size) : emptyB.extract i j = emptyB := by
 apply ext_of_list
 rw [extract_list]
 simp [emptyB]

/-- A pointer whose methods fL, fS, fM (Len, Slice, Measure) answer as of the text s. -/
structure Has (fL fS fM : Nat) (W : World) (p : Option Addr) (s : ByteArray) : Prop where
 small : s.size ≤ 1073741824
 len : ∀ W', Below W.heap.size W W' → Calls Tryz.prog fL #[.pointer p] W' fun e w' => e = .returned (.int .i64 s.size) ∧ Below W'.heap.size W' w'
 slice : ∀ W' (i j : Nat), Below W.heap.size W W' → i ≤ j → j ≤ s.size → Calls Tryz.prog fS #[.pointer p, .int .i64 i, .int .i64 j] W' fun e w' => e = .returned (.tuple #[.string (s.extract i j), .int .i64 0]) ∧ Below W'.heap.size W' w'
 meas : ∀ W' (i : Nat), Below W.heap.size W W' → i ≤ s.size → Calls Tryz.prog fM #[.pointer p, .int .i64 0, .int .i64 i] W' fun e w' => ∃ m : Sm, e = .returned (.tuple #[m.val, .int .i64 0]) ∧ m.newlines = nlF (s.extract 0 i) ∧ Below W'.heap.size W' w'
theorem Has.below {fL fS fM : Nat} {W W' : World} {p : Option Addr} {s : ByteArray} (h : Has fL fS fM W p s) (hb : Below W.heap.size W W') : Has fL fS fM W' p s :=
 ⟨h.small, fun w k => h.len w (hb.trans (k.mono hb.size)), fun w i j k => h.slice w i j (hb.trans (k.mono hb.size)), fun w i k => h.meas w i (hb.trans (k.mono hb.size))⟩
abbrev HasG := Has 231 234 232
abbrev HasS := Has 58 69 70
abbrev HasR := Has 241 244 242

theorem hasG_gap {W : World} {b g : Nat} {r : ByteArray} {fr tq lim : Nat} (h : Gap W b g r fr tq lim) (hT : Tabs W) (hs : (gtext r fr tq).size ≤ 1073741824) : HasG W (some ⟨b, 0, none⟩) (gtext r fr tq) :=
 ⟨hs, fun W' hb => GapLen_any b g r fr tq lim W' (h.below hb), fun W' i j hb hij hj => GapSlice_any b g r fr tq lim i j W' (h.below hb) hij hj,
   fun W' i hb hi => (GapMeasure_any b g r fr tq lim 0 i W' (h.below hb) (tabs_below hT hb) (Nat.zero_le _) hi).mono fun e w h => ⟨_, h.1, rfl, h.2⟩⟩

set_option maxRecDepth 100000 in
set_option maxHeartbeats 1000000 in
theorem nilMeasure_any (w : World) (hT : Tabs w) : Calls Tryz.prog 232 #[.pointer none, .int .i64 0, .int .i64 0] w fun e w' => e = .returned (.tuple #[(measF emptyB).val, .int .i64 0]) ∧ Below w.heap.size w w' := by
 have k1 : Lies (w.alloc (.cells zero7.toArray 48)) w.heap.size zero7 := Lies.new _ _ _
 have b1 : Below w.heap.size w (w.alloc (.cells zero7.toArray 48)) := (Below.refl _ _).alloc (Nat.le_refl _) _
 have T1 := Lib.hid (tabs_below hT b1)
 have K1 := Lib.hid k1
 have B1 := Lib.hid b1
 clear hT k1 b1
 go_enter Tryz.func232, Tryz.ntmps232
 go_wp2_with fail
 change Calls _ _ _ (w.alloc (.cells zero7.toArray 48)) _
 generalize w.alloc (.cells zero7.toArray 48) = w1 at *
 refine (nilSlice_any w1).mono ?_
 rintro e w2 ⟨rfl, hb⟩
 have k2 := Lib.hid (K1.out.below hb)
 have b2 := Lib.hid (B1.out.trans (hb.mono B1.out.size))
 have T2 := Lib.hid (tabs_below T1.out hb)
 clear hb K1 B1 T1
 go_wp2_with fail
 refine (Measure_any emptyB w2 T2.out (by decide)).mono ?_
 rintro e w3 ⟨rfl, hb⟩
 have k3 := Lib.hid (k2.out.below hb)
 have b3 := Lib.hid (b2.out.trans (hb.mono b2.out.size))
 clear hb k2 b2 T2
 obtain ⟨m, hm⟩ : ∃ m, measF emptyB = m := ⟨_, rfl⟩
 have HM := Lib.hid hm
 rw [hm]
 clear hm
 have L := (Lies.stored k3.out [.int .i64 m.bytes, .int .i64 m.units, .int .i64 m.clusters, .int .i64 m.cells, .int .i64 m.newlines, .string m.head, .string m.tail] rfl).2
 have HB := Lib.hid (chg_mine b3.out (sets_chg w.heap.size [.int .i64 m.bytes, .int .i64 m.units, .int .i64 m.clusters, .int .i64 m.cells, .int .i64 m.newlines, .string m.head, .string m.tail] 0 w3) (Nat.le_refl _))
 have HL := Lib.hid L
 clear L
 obtain ⟨-, K⟩ := k3.out
 obtain ⟨c0, f0⟩ := K 0 _ rfl
 obtain ⟨c1, f1⟩ := K 1 _ rfl
 obtain ⟨c2, f2⟩ := K 2 _ rfl
 obtain ⟨c3, f3⟩ := K 3 _ rfl
 obtain ⟨c4, f4⟩ := K 4 _ rfl
 obtain ⟨c5, f5⟩ := K 5 _ rfl
 obtain ⟨c6, f6⟩ := K 6 _ rfl
 clear K
 unfold Sm.val
 go_wp2
 have j0 := (HL.out 0 _ rfl).1
 have j1 := (HL.out 1 _ rfl).1
 have j2 := (HL.out 2 _ rfl).1
 have j3 := (HL.out 3 _ rfl).1
 have j4 := (HL.out 4 _ rfl).1
 have j5 := (HL.out 5 _ rfl).1
 have j6 := (HL.out 6 _ rfl).1
 simp only [World.setCells] at j0 j1 j2 j3 j4 j5 j6
 refine bodyPost_ret (v := .tuple #[m.val, .int .i64 0]) (by simp [results, Tryz.results232, go_sem, j0, j1, j2, j3, j4, j5, j6, Sm.val]) rfl ⟨?_, HB.out⟩
 rw [← HM.out]
theorem hasG_nil {W : World} (hT : Tabs W) : HasG W none emptyB := by
 refine ⟨by decide, fun W' hb => ?_, fun W' i j hb hij hj => ?_, fun W' i hb hi => ?_⟩
 ·exact (nilLen_any W').mono fun e w h => ⟨h.1, by rw [h.2]; exact Below.refl _ _⟩
 ·rw [empty_extract i j hj]
  obtain rfl : j = 0 := by have : j ≤ 0 := hj; omega
  obtain rfl : i = 0 := by omega
  exact nilSlice_any W'
 ·rw [empty_extract 0 i hi]
  obtain rfl : i = 0 := by have : i ≤ 0 := hi; omega
  exact (nilMeasure_any W' (tabs_below hT hb)).mono fun e w h => ⟨_, h.1, rfl, h.2⟩
end Go.Proofs.YtfchglcclgcgfaaGreatDoor.Ut
/-
 Package store, reading: under, Len, Slice, Measure over what keeps the text. Condition: what the inner text answers.
-/
namespace Go.Proofs.YtfchglcclgcgfaaGreatDoor.Ut
open Go.RowKit Go.Proofs.YtfchglcclgcgfaaGreatDoor.Reg
set_option linter.unusedVariables false
set_option linter.unusedSimpArgs false

theorem under_any (b : Nat) (t : TypeId) (x : Value) (vs : List Value) (w : World) (h : Lies w b (.iface t x :: vs)) : Calls Tryz.prog 75 #[.pointer (some ⟨b, 0, none⟩)] w fun e w' => e = .returned (.iface t x) ∧ w' = w := by
 obtain ⟨c0, -⟩ := h.2 0 _ rfl
 clear h
 go_enter Tryz.func75, Tryz.ntmps75
 go_wp2
 go_ret
 exact ⟨rfl, rfl⟩
theorem under_nil (w : World) : Calls Tryz.prog 75 #[.pointer none] w fun e w' => e = .returned (.iface 30 (.pointer none)) ∧ w' = w := by
 go_enter Tryz.func75, Tryz.ntmps75
 go_wp2
 go_ret
 exact ⟨rfl, rfl⟩

set_option maxRecDepth 100000 in
set_option maxHeartbeats 2000000 in
theorem hasS57 {W : World} {q p : Option Addr} {s : ByteArray} (hu : ∀ W', Below W.heap.size W W' → Calls Tryz.prog 75 #[.pointer q] W' fun e w' => e = .returned (.iface 30 (.pointer p)) ∧ w' = W') (h : HasG W p s) : HasS W q s := by
 refine ⟨h.small, fun W' hb => ?_, fun W' i j hb hij hj => ?_, fun W' i hb hi => ?_⟩
 ·have H := Lib.hid (h.len W' hb)
  have HU := Lib.hid (hu W' hb)
  clear h hb hu
  generalize s.size = N at *
  go_enter Tryz.func58, Tryz.ntmps58
  go_wp2_with fail
  refine HU.out.mono ?_
  rintro e w1 ⟨rfl, rfl⟩
  go_wp2_with fail
  refine H.out.mono ?_
  rintro e w1 ⟨rfl, hb⟩
  have HB := Lib.hid hb
  clear hb
  go_wp2
  go_ret
  exact ⟨rfl, HB.out⟩
 ·have H := Lib.hid (h.slice W' i j hb hij hj)
  have HU := Lib.hid (hu W' hb)
  clear h hb hu
  generalize s.extract i j = N at *
  go_enter Tryz.func69, Tryz.ntmps69
  go_wp2_with fail
  refine HU.out.mono ?_
  rintro e w1 ⟨rfl, rfl⟩
  go_wp2_with fail
  refine H.out.mono ?_
  rintro e w1 ⟨rfl, hb⟩
  have HB := Lib.hid hb
  clear hb
  go_wp2
  refine bodyPost_ret (v := .tuple #[.string N, .int .i64 0]) (by simp [results, Tryz.results69, go_sem]) rfl ⟨rfl, HB.out⟩
 ·have b1 : Below W'.heap.size W' (W'.alloc (.cells zero7.toArray 48)) := (Below.refl _ _).alloc (Nat.le_refl _) _
  have K1 : Lies (W'.alloc (.cells zero7.toArray 48)) W'.heap.size zero7 := Lies.new _ _ _
  have K1 := Lib.hid K1
  have H := Lib.hid (h.meas _ i (hb.trans (b1.mono hb.size)) hi)
  have HU := Lib.hid (hu _ (hb.trans (b1.mono hb.size)))
  have B1 := Lib.hid b1
  clear h hb hu b1
  generalize s.extract 0 i = N at *
  go_enter Tryz.func70, Tryz.ntmps70
  go_wp2_with fail
  change Calls _ _ _ (W'.alloc (.cells zero7.toArray 48)) _
  generalize W'.alloc (.cells zero7.toArray 48) = w1 at *
  refine HU.out.mono ?_
  rintro e w2 ⟨rfl, rfl⟩
  go_wp2_with fail
  refine H.out.mono ?_
  rintro e w3 ⟨m, rfl, hm, hb⟩
  have K3 := K1.out.below hb
  have HM := Lib.hid hm
  have L := Lib.hid (Lies.stored K3 [.int .i64 m.bytes, .int .i64 m.units, .int .i64 m.clusters, .int .i64 m.cells, .int .i64 m.newlines, .string m.head, .string m.tail] rfl).2
  have HB := Lib.hid (chg_mine (B1.out.trans (hb.mono B1.out.size)) (sets_chg W'.heap.size [.int .i64 m.bytes, .int .i64 m.units, .int .i64 m.clusters, .int .i64 m.cells, .int .i64 m.newlines, .string m.head, .string m.tail] 0 w3) (Nat.le_refl _))
  obtain ⟨-, K⟩ := K3
  obtain ⟨c0, f0⟩ := K 0 _ rfl
  obtain ⟨c1, f1⟩ := K 1 _ rfl
  obtain ⟨c2, f2⟩ := K 2 _ rfl
  obtain ⟨c3, f3⟩ := K 3 _ rfl
  obtain ⟨c4, f4⟩ := K 4 _ rfl
  obtain ⟨c5, f5⟩ := K 5 _ rfl
  obtain ⟨c6, f6⟩ := K 6 _ rfl
  clear hb hm K K1 B1
  unfold Sm.val
  go_wp2
  have j0 := (L.out 0 _ rfl).1
  have j1 := (L.out 1 _ rfl).1
  have j2 := (L.out 2 _ rfl).1
  have j3 := (L.out 3 _ rfl).1
  have j4 := (L.out 4 _ rfl).1
  have j5 := (L.out 5 _ rfl).1
  have j6 := (L.out 6 _ rfl).1
  simp only [World.setCells] at j0 j1 j2 j3 j4 j5 j6
  refine bodyPost_ret (v := .tuple #[m.val, .int .i64 0]) (by simp [results, Tryz.results70, go_sem, j0, j1, j2, j3, j4, j5, j6, Sm.val]) rfl ⟨m, rfl, HM.out, HB.out⟩

set_option maxRecDepth 100000 in
set_option maxHeartbeats 2000000 in
theorem hasS94 {W : World} {q p : Option Addr} {s : ByteArray} (hu : ∀ W', Below W.heap.size W W' → Calls Tryz.prog 75 #[.pointer q] W' fun e w' => e = .returned (.iface 148 (.pointer p)) ∧ w' = W') (h : HasR W p s) : HasS W q s := by
 refine ⟨h.small, fun W' hb => ?_, fun W' i j hb hij hj => ?_, fun W' i hb hi => ?_⟩
 ·have H := Lib.hid (h.len W' hb)
  have HU := Lib.hid (hu W' hb)
  clear h hb hu
  generalize s.size = N at *
  go_enter Tryz.func58, Tryz.ntmps58
  go_wp2_with fail
  refine HU.out.mono ?_
  rintro e w1 ⟨rfl, rfl⟩
  go_wp2_with fail
  refine H.out.mono ?_
  rintro e w1 ⟨rfl, hb⟩
  have HB := Lib.hid hb
  clear hb
  go_wp2
  go_ret
  exact ⟨rfl, HB.out⟩
 ·have H := Lib.hid (h.slice W' i j hb hij hj)
  have HU := Lib.hid (hu W' hb)
  clear h hb hu
  generalize s.extract i j = N at *
  go_enter Tryz.func69, Tryz.ntmps69
  go_wp2_with fail
  refine HU.out.mono ?_
  rintro e w1 ⟨rfl, rfl⟩
  go_wp2_with fail
  refine H.out.mono ?_
  rintro e w1 ⟨rfl, hb⟩
  have HB := Lib.hid hb
  clear hb
  go_wp2
  refine bodyPost_ret (v := .tuple #[.string N, .int .i64 0]) (by simp [results, Tryz.results69, go_sem]) rfl ⟨rfl, HB.out⟩
 ·have b1 : Below W'.heap.size W' (W'.alloc (.cells zero7.toArray 48)) := (Below.refl _ _).alloc (Nat.le_refl _) _
  have K1 : Lies (W'.alloc (.cells zero7.toArray 48)) W'.heap.size zero7 := Lies.new _ _ _
  have K1 := Lib.hid K1
  have H := Lib.hid (h.meas _ i (hb.trans (b1.mono hb.size)) hi)
  have HU := Lib.hid (hu _ (hb.trans (b1.mono hb.size)))
  have B1 := Lib.hid b1
  clear h hb hu b1
  generalize s.extract 0 i = N at *
  go_enter Tryz.func70, Tryz.ntmps70
  go_wp2_with fail
  change Calls _ _ _ (W'.alloc (.cells zero7.toArray 48)) _
  generalize W'.alloc (.cells zero7.toArray 48) = w1 at *
  refine HU.out.mono ?_
  rintro e w2 ⟨rfl, rfl⟩
  go_wp2_with fail
  refine H.out.mono ?_
  rintro e w3 ⟨m, rfl, hm, hb⟩
  have K3 := K1.out.below hb
  have HM := Lib.hid hm
  have L := Lib.hid (Lies.stored K3 [.int .i64 m.bytes, .int .i64 m.units, .int .i64 m.clusters, .int .i64 m.cells, .int .i64 m.newlines, .string m.head, .string m.tail] rfl).2
  have HB := Lib.hid (chg_mine (B1.out.trans (hb.mono B1.out.size)) (sets_chg W'.heap.size [.int .i64 m.bytes, .int .i64 m.units, .int .i64 m.clusters, .int .i64 m.cells, .int .i64 m.newlines, .string m.head, .string m.tail] 0 w3) (Nat.le_refl _))
  obtain ⟨-, K⟩ := K3
  obtain ⟨c0, f0⟩ := K 0 _ rfl
  obtain ⟨c1, f1⟩ := K 1 _ rfl
  obtain ⟨c2, f2⟩ := K 2 _ rfl
  obtain ⟨c3, f3⟩ := K 3 _ rfl
  obtain ⟨c4, f4⟩ := K 4 _ rfl
  obtain ⟨c5, f5⟩ := K 5 _ rfl
  obtain ⟨c6, f6⟩ := K 6 _ rfl
  clear hb hm K K1 B1
  unfold Sm.val
  go_wp2
  have j0 := (L.out 0 _ rfl).1
  have j1 := (L.out 1 _ rfl).1
  have j2 := (L.out 2 _ rfl).1
  have j3 := (L.out 3 _ rfl).1
  have j4 := (L.out 4 _ rfl).1
  have j5 := (L.out 5 _ rfl).1
  have j6 := (L.out 6 _ rfl).1
  simp only [World.setCells] at j0 j1 j2 j3 j4 j5 j6
  refine bodyPost_ret (v := .tuple #[m.val, .int .i64 0]) (by simp [results, Tryz.results70, go_sem, j0, j1, j2, j3, j4, j5, j6, Sm.val]) rfl ⟨m, rfl, HM.out, HB.out⟩

theorem hasS_nil {W : World} (hT : Tabs W) : HasS W none emptyB := hasS57 (fun W' _ => under_nil W') (hasG_nil hT)
theorem hasS_gap {W : World} {b : Nat} {p : Option Addr} {vs : List Value} {s : ByteArray} (hb : Lies W b (.iface 30 (.pointer p) :: vs)) (h : HasG W p s) : HasS W (some ⟨b, 0, none⟩) s :=
 hasS57 (fun W' k => under_any b _ _ vs W' (hb.below k)) h
theorem hasS_rope {W : World} {b : Nat} {p : Option Addr} {vs : List Value} {s : ByteArray} (hb : Lies W b (.iface 148 (.pointer p) :: vs)) (h : HasR W p s) : HasS W (some ⟨b, 0, none⟩) s :=
 hasS94 (fun W' k => under_any b _ _ vs W' (hb.below k)) h

theorem extract_whole (s : ByteArray) : s.extract 0 s.size = s := extract_all s
set_option maxRecDepth 100000 in
theorem StText_any {W : World} {q : Option Addr} {s : ByteArray} (h : HasS W q s) : Calls Tryz.prog 37 #[.pointer q] W fun e w' => e = .returned (.string s) ∧ Below W.heap.size W w' := by
 have H := Lib.hid h
 have hw := extract_all s
 clear h
 go_enter Tryz.func37, Tryz.ntmps37
 go_wp2_with fail
 refine (H.out.len W (Below.refl _ _)).mono ?_
 rintro e w1 ⟨rfl, hb⟩
 have HB := Lib.hid hb
 clear hb
 go_wp2_with fail
 refine (H.out.slice w1 0 s.size HB.out (Nat.zero_le _) (Nat.le_refl _)).mono ?_
 rintro e w2 ⟨rfl, hb⟩
 have HB2 := Lib.hid (HB.out.trans (hb.mono HB.out.size))
 rw [hw]
 clear hb HB
 go_wp2
 go_ret
 exact ⟨rfl, HB2.out⟩
end Go.Proofs.YtfchglcclgcgfaaGreatDoor.Ut
/-
 Package store: kept and New, the gap backend. Condition: the two tables of unicode/utf8 lie as laid.
-/
namespace Go.Proofs.YtfchglcclgcgfaaGreatDoor.Ut
open Go.RowKit Go.Proofs.YtfchglcclgcgfaaGreatDoor.Reg
set_option linter.unusedVariables false
set_option linter.unusedSimpArgs false

set_option maxRecDepth 100000 in
theorem kept_gap (k : Int) (n : Nat) (s : ByteArray) (w : World) (hT : Tabs w) (hk : (k == 2) = false) (hn : n ≤ 1073741824) (hs : s.size ≤ n) :
  Calls Tryz.prog 67 #[.int .i64 k, .int .i64 n, .string s] w fun e w' => ∃ b, e = .returned (.iface 30 (.pointer (some ⟨b, 0, none⟩))) ∧ (∃ g r fr tq, Gap w' b g r fr tq n ∧ gtext r fr tq = s ∧ w.heap.size ≤ b ∧ w.heap.size ≤ g) ∧ Below w.heap.size w w' := by
 have HTb := Lib.hid hT
 clear hT
 go_enter Tryz.func67, Tryz.ntmps67
 go_wp2_with fail
 refine (GapNew_any s n w hn hs).mono ?_
 rintro e w1 ⟨b, g, r, fr, tq, rfl, hG, ht, hb, hg, hB⟩
 have HG := Lib.hid hG
 have HB := Lib.hid hB
 have HTx := Lib.hid ht
 clear hG hB ht
 go_wp2
 go_ret
 exact ⟨b, rfl, ⟨g, r, fr, tq, HG.out, HTx.out, hb, hg⟩, HB.out⟩
theorem hasG_of {w : World} {b n : Nat} {s : ByteArray} (hT : Tabs w) (hs : s.size ≤ 1073741824) (h : ∃ g r fr tq, Gap w b g r fr tq n ∧ gtext r fr tq = s) : HasG w (some ⟨b, 0, none⟩) s := by
 obtain ⟨g, r, fr, tq, hG, rfl⟩ := h
 exact hasG_gap hG hT hs

/-- The backend is a gap buffer: the kind says so, or none is said and the text is shorter than top. -/
def gapKind (k top : Int) (s : ByteArray) : Prop := k = 1 ∨ (k ≠ 1 ∧ k ≠ 2 ∧ (s.size : Int) < top)

set_option maxRecDepth 100000 in
set_option maxHeartbeats 2000000 in
theorem StNewM_gap (k lo hi m : Int) (n : Nat) (s : ByteArray) (w : World) (hT : Tabs w) (hm : min (max m 0) 1073741824 = (n : Int)) (hn : n ≤ 1073741824) (hs : s.size ≤ n) (hk : gapKind k (max hi (min (max lo 0) 1073741824 + 1)) s) :
  Calls Tryz.prog 22 #[.int .i64 k, .int .i64 lo, .int .i64 hi, .int .i64 m, .string s] w fun e w' => ∃ b, e = .returned (.tuple #[.pointer (some ⟨b, 0, none⟩), .int .i64 0]) ∧ ∃ gb,
   Blk w' b 66 [.iface 30 (.pointer (some ⟨gb, 0, none⟩)), .int .i64 (if k = 1 then 1 else 3), .int .i64 (min (max lo 0) 1073741824), .int .i64 (max hi (min (max lo 0) 1073741824 + 1)), .int .i64 n, .int .i64 0, .int .i64 0, .int .i64 0] ∧
   (∃ g r fr tq, Gap w' gb g r fr tq n ∧ gtext r fr tq = s ∧ w.heap.size ≤ gb ∧ w.heap.size ≤ g) ∧ w.heap.size ≤ b ∧ Below w.heap.size w w' := by
 have HTb := Lib.hid hT
 have e2 : ¬ (n : Int) < (s.size : Int) := by omega
 obtain ⟨low, hlow⟩ : ∃ low, min (max lo 0) 1073741824 = low := ⟨_, rfl⟩
 have hw1 : IntKind.i64.wrap (low + 1) = low + 1 := IntWalk.i64_in _ (by omega)
 rw [hlow] at hk ⊢
 obtain ⟨top, htop⟩ : ∃ top, max hi (low + 1) = top := ⟨_, rfl⟩
 rw [htop] at hk ⊢
 clear hT
 rcases hk with rfl | ⟨k1, k2, k3⟩
 ·go_enter Tryz.func22, Tryz.ntmps22
  go_wp2_with fail
  have kb : Blk (w.alloc (.cells ([.nilIface, .int .i64 1, .int .i64 low, .int .i64 top, .int .i64 n, .int .i64 0, .int .i64 0, .int .i64 0] : List Value).toArray 66)) w.heap.size 66 [.nilIface, .int .i64 1, .int .i64 low, .int .i64 top, .int .i64 n, .int .i64 0, .int .i64 0, .int .i64 0] := Blk.new _ _ _
  have b1 : Below w.heap.size w (w.alloc (.cells ([.nilIface, .int .i64 1, .int .i64 low, .int .i64 top, .int .i64 n, .int .i64 0, .int .i64 0, .int .i64 0] : List Value).toArray 66)) := (Below.refl _ _).alloc (Nat.le_refl _) _
  change Calls _ _ _ (w.alloc (.cells ([.nilIface, .int .i64 1, .int .i64 low, .int .i64 top, .int .i64 n, .int .i64 0, .int .i64 0, .int .i64 0] : List Value).toArray 66)) _
  generalize w.alloc (.cells ([.nilIface, .int .i64 1, .int .i64 low, .int .i64 top, .int .i64 n, .int .i64 0, .int .i64 0, .int .i64 0] : List Value).toArray 66) = w1 at *
  refine (kept_gap 1 n s w1 (tabs_below HTb.out b1) rfl hn hs).mono ?_
  rintro e w2 ⟨gb, rfl, ⟨g, r, fr, tq, hG, ht, hb, hg⟩, hB⟩
  have k2' := kb.below hB
  have hlt : w.heap.size < w1.heap.size := kb.lies.1
  have X := k2'.set 0 (.iface 30 (.pointer (some ⟨gb, 0, none⟩)))
  have CH := Chg.set w2 ⟨w.heap.size, 0, none⟩ (.iface 30 (.pointer (some ⟨gb, 0, none⟩)))
  have HX := Lib.hid X
  have HG := Lib.hid (hG.chg CH (by show ¬ gb = w.heap.size; omega) (by show ¬ g = w.heap.size; omega))
  have HTx := Lib.hid ht
  have HB := Lib.hid (chg_mine (b1.trans (hB.mono b1.size)) CH (Nat.le_refl _))
  have hb' : w.heap.size ≤ gb := by omega
  have hg' : w.heap.size ≤ g := by omega
  obtain ⟨c0, f0⟩ := k2'.lies.2 0 _ rfl
  clear kb b1 hG ht hB k2' X CH
  go_wp2
  refine bodyPost_ret (v := .tuple #[.pointer (some ⟨w.heap.size, 0, none⟩), .int .i64 0]) (by simp [results, Tryz.results22, go_sem]) rfl ⟨_, rfl, gb, ?_, ⟨g, r, fr, tq, HG.out, HTx.out, hb', hg'⟩, Nat.le_refl _, HB.out⟩
  exact HX.out
 ·have q1 : (k != 1) = true := by simpa using k1
  have q2 : (k != 2) = true := by simpa using k2
  have q3 : ¬ top ≤ (s.size : Int) := by omega
  go_enter Tryz.func22, Tryz.ntmps22
  go_wp2_with fail
  have kb : Blk (w.alloc (.cells ([.nilIface, .int .i64 3, .int .i64 low, .int .i64 top, .int .i64 n, .int .i64 0, .int .i64 0, .int .i64 0] : List Value).toArray 66)) w.heap.size 66 [.nilIface, .int .i64 3, .int .i64 low, .int .i64 top, .int .i64 n, .int .i64 0, .int .i64 0, .int .i64 0] := Blk.new _ _ _
  have b1 : Below w.heap.size w (w.alloc (.cells ([.nilIface, .int .i64 3, .int .i64 low, .int .i64 top, .int .i64 n, .int .i64 0, .int .i64 0, .int .i64 0] : List Value).toArray 66)) := (Below.refl _ _).alloc (Nat.le_refl _) _
  change Calls _ _ _ (w.alloc (.cells ([.nilIface, .int .i64 3, .int .i64 low, .int .i64 top, .int .i64 n, .int .i64 0, .int .i64 0, .int .i64 0] : List Value).toArray 66)) _
  generalize w.alloc (.cells ([.nilIface, .int .i64 3, .int .i64 low, .int .i64 top, .int .i64 n, .int .i64 0, .int .i64 0, .int .i64 0] : List Value).toArray 66) = w1 at *
  refine (kept_gap 1 n s w1 (tabs_below HTb.out b1) rfl hn hs).mono ?_
  rintro e w2 ⟨gb, rfl, ⟨g, r, fr, tq, hG, ht, hb, hg⟩, hB⟩
  have k2' := kb.below hB
  have hlt : w.heap.size < w1.heap.size := kb.lies.1
  have X := k2'.set 0 (.iface 30 (.pointer (some ⟨gb, 0, none⟩)))
  have CH := Chg.set w2 ⟨w.heap.size, 0, none⟩ (.iface 30 (.pointer (some ⟨gb, 0, none⟩)))
  have HX := Lib.hid X
  have HG := Lib.hid (hG.chg CH (by show ¬ gb = w.heap.size; omega) (by show ¬ g = w.heap.size; omega))
  have HTx := Lib.hid ht
  have HB := Lib.hid (chg_mine (b1.trans (hB.mono b1.size)) CH (Nat.le_refl _))
  have hb' : w.heap.size ≤ gb := by omega
  have hg' : w.heap.size ≤ g := by omega
  obtain ⟨c0, f0⟩ := k2'.lies.2 0 _ rfl
  clear kb b1 hG ht hB k2' X CH
  go_wp2
  refine bodyPost_ret (v := .tuple #[.pointer (some ⟨w.heap.size, 0, none⟩), .int .i64 0]) (by simp [results, Tryz.results22, go_sem]) rfl ⟨_, rfl, gb, ?_, ⟨g, r, fr, tq, HG.out, HTx.out, hb', hg'⟩, Nat.le_refl _, HB.out⟩
  exact HX.out
end Go.Proofs.YtfchglcclgcgfaaGreatDoor.Ut
/-
 A piece of a text between two boundaries of clusters has the text's clusters (plain). No condition.
-/
namespace Go.Proofs.YtfchglcclgcgfaaGreatDoor.Ut
open Go.RowKit Go.Proofs.YtfchglcclgcgfaaGreatDoor.Reg
set_option linter.unusedVariables false
set_option linter.unusedSimpArgs false

theorem dec4_low {a b c d : Nat} (h : a < 128) : dec4 a b c d = (a, 1) := by unfold dec4; rw [if_pos (by omega)]
theorem dec4_one {a b c d : Nat} (h : (dec4 a b c d).2 ≤ 1) (b' c' d' : Nat) (hb : b' / 64 ≠ 2) : dec4 a b' c' d' = dec4 a b c d := by
 have e : dec4 a b' c' d' = if a < 128 then (a, 1) else (65533, 1) := by unfold dec4; simp [hb]
 rw [e]
 unfold dec4 at h ⊢
 (repeat' split at h) <;> (repeat' split) <;> first | rfl | contradiction | (simp at h; done)
theorem dec4_upto2 {a b c d : Nat} (h : (dec4 a b c d).2 ≤ 2) (c' d' : Nat) (hc : c' / 64 ≠ 2) : dec4 a b c' d' = dec4 a b c d := by
 have e : dec4 a b c' d' = if a < 128 then (a, 1) else if a / 32 = 6 ∧ b / 64 = 2 then (if (a % 32) * 64 + b % 64 ≥ 0x80 then ((a % 32) * 64 + b % 64, 2) else (65533, 1)) else (65533, 1) := by unfold dec4; simp [hc]
 rw [e]
 unfold dec4 at h ⊢
 (repeat' split at h) <;> (repeat' split) <;> first | rfl | contradiction | (simp at h; done)
theorem dec4_upto3 {a b c d : Nat} (h : (dec4 a b c d).2 ≤ 3) (d' : Nat) (hd : d' / 64 ≠ 2) : dec4 a b c d' = dec4 a b c d := by
 have e : dec4 a b c d' = if a < 128 then (a, 1) else if a / 32 = 6 ∧ b / 64 = 2 then (if (a % 32) * 64 + b % 64 ≥ 0x80 then ((a % 32) * 64 + b % 64, 2) else (65533, 1)) else if a / 16 = 14 ∧ b / 64 = 2 ∧ c / 64 = 2 then (if (a % 16) * 4096 + (b % 64) * 64 + c % 64 ≥ 0x800 ∧ Utf8.valid ((a % 16) * 4096 + (b % 64) * 64 + c % 64 : Nat) = true then ((a % 16) * 4096 + (b % 64) * 64 + c % 64, 3) else (65533, 1)) else (65533, 1) := by unfold dec4; simp [hd]
 rw [e]
 unfold dec4 at h ⊢
 (repeat' split at h) <;> (repeat' split) <;> first | rfl | contradiction | (simp at h; done)
theorem dec4_ch {a b c d : Nat} {x : Int} (hx : 0 ≤ x) (hl : x < 128) (h : chOf (dec4 a b c d) = x) : (a : Int) = x := by
 unfold dec4 chOf at h
 (repeat' split at h) <;> simp_all <;> omega
theorem chOf_low {a b c d : Nat} (h : a < 128) : chOf (dec4 a b c d) = a := by
 rw [dec4_low h]; unfold chOf; rw [if_neg (by simp; omega)]

/-- Window w' is window w with all outside of m..M wiped out; units of w keep to that cut. -/
structure Agree (w w' : Nat → Nat) (m M : Nat) : Prop where
 low : m ≤ 4
 top : 5 ≤ M ∧ M ≤ 8
 same : ∀ k, m ≤ k → k < M → w' k = w k
 left' : ∀ k, k < m → w' k = 256
 right' : ∀ k, M ≤ k → k < 8 → w' k = 256
 left : ∀ k, k < m → wSz w k + k ≤ m
 right : ∀ k, k ≤ 4 → M < 8 → wSz w k + k ≤ M
theorem Agree.wD {w w' : Nat → Nat} {m M : Nat} (h : Agree w w' m M) {k : Nat} (h1 : m ≤ k) (h2 : k ≤ 4) : Ut.wD w' k = Ut.wD w k := by
 have ht := h.top
 have hr := h.right k h2
 unfold wSz Ut.wD at hr
 unfold Ut.wD
 rw [h.same k h1 (by omega)]
 rcases (by omega : M = k + 1 ∨ M = k + 2 ∨ M = k + 3 ∨ k + 3 < M) with e | e | e | e
 ·rw [h.right' (k + 1) (by omega) (by omega)]
  exact dec4_one (by have := hr (by omega); omega) _ _ _ (by decide)
 ·rw [h.same (k + 1) (by omega) (by omega), h.right' (k + 2) (by omega) (by omega)]
  exact dec4_upto2 (by have := hr (by omega); omega) _ _ (by decide)
 ·rw [h.same (k + 1) (by omega) (by omega), h.same (k + 2) (by omega) (by omega), h.right' (k + 3) (by omega) (by omega)]
  exact dec4_upto3 (by have := hr (by omega); omega) _ (by decide)
 ·rw [h.same (k + 1) (by omega) (by omega), h.same (k + 2) (by omega) (by omega), h.same (k + 3) (by omega) (by omega)]
theorem Agree.out {w w' : Nat → Nat} {m M : Nat} (h : Agree w w' m M) {k : Nat} (h1 : k < m) : wSz w' k = 1 := by
 unfold wSz Ut.wD; rw [h.left' k h1]; unfold dec4; simp
theorem Agree.cU {w w' : Nat → Nat} {m M : Nat} (h : Agree w w' m M) : Ut.cU w' = Ut.cU w := by
 have hl := h.low
 have one : ∀ k, 1 ≤ k → k ≤ 3 → (wSz w' k + k ≤ 4 ↔ wSz w k + k ≤ 4) := by
  intro k h1 h2
  by_cases hk : k < m
  ·have := h.out hk; have := h.left k hk; omega
  ·have : wSz w' k = wSz w k := by unfold wSz; rw [h.wD (by omega) (by omega)]
   omega
 have a1 := one 1 (by omega) (by omega)
 have a2 := one 2 (by omega) (by omega)
 have a3 := one 3 (by omega) (by omega)
 unfold Ut.cU
 rw [Bool.eq_iff_iff, decide_eq_true_eq, decide_eq_true_eq]
 omega
theorem Agree.cPrev {w w' : Nat → Nat} {m M : Nat} (h : Agree w w' m M) (hm : m ≤ 3) : Ut.cPrev w' = Ut.cPrev w := by
 have one : ∀ k, k ≤ 2 → (3 < wSz w' k + k ↔ 3 < wSz w k + k) := by
  intro k h2
  by_cases hk : k < m
  ·have := h.out hk; have := h.left k hk; omega
  ·have : wSz w' k = wSz w k := by unfold wSz; rw [h.wD (by omega) (by omega)]
   omega
 have ch : ∀ k, k ≤ 3 → 3 < wSz w k + k → wCh w' k = wCh w k := by
  intro k h2 h3
  by_cases hk : k < m
  ·have := h.left k hk; omega
  ·unfold wCh; rw [h.wD (by omega) (by omega)]
 have p3 : 1 ≤ wSz w 3 := (dec4_pos _ _ _ _).1
 have a0 := one 0 (by omega)
 have a1 := one 1 (by omega)
 have a2 := one 2 (by omega)
 unfold Ut.cPrev
 by_cases c0 : 3 < wSz w 0
 ·rw [if_pos (by omega), if_pos c0]; exact ch 0 (by omega) (by omega)
 ·rw [if_neg (by omega), if_neg c0]
  by_cases c1 : 2 < wSz w 1
  ·rw [if_pos (by omega), if_pos c1]; exact ch 1 (by omega) (by omega)
  ·rw [if_neg (by omega), if_neg c1]
   by_cases c2 : 1 < wSz w 2
   ·rw [if_pos (by omega), if_pos c2]; exact ch 2 (by omega) (by omega)
   ·rw [if_neg (by omega), if_neg c2]; exact ch 3 (by omega) (by omega)
theorem Agree.cB {w w' : Nat → Nat} {m M : Nat} (h : Agree w w' m M) (h4 : m = 4 → Ut.cB w = true) : Ut.cB w' = Ut.cB w := by
 have hl := h.low
 have ht := h.top
 by_cases e : m = 4
 ·rw [h4 e]
  unfold Ut.cB
  rw [h.left' 3 (by omega)]
  simp
 ·unfold Ut.cB
  rw [h.same 3 (by omega) (by omega), h.cU, h.cPrev (by omega)]
  unfold wCh
  rw [h.wD (k := 4) (by omega) (by omega)]
theorem Agree.cW {w w' : Nat → Nat} {m M : Nat} (h : Agree w w' m M) (hn : M = 5 → ¬ (w 4 = 13 ∧ w 5 = 10)) : Ut.cW w' = Ut.cW w := by
 have hl := h.low
 have ht := h.top
 have e4 : wCh w' 4 = wCh w 4 := by unfold wCh; rw [h.wD (k := 4) (by omega) (by omega)]
 unfold Ut.cW
 rw [e4]
 by_cases e : M = 5
 ·have hno : ¬ (wCh w 4 = 13 ∧ w 5 = 10) := by
   rintro ⟨c, d⟩
   have := dec4_ch (x := 13) (by omega) (by omega) c
   exact hn e ⟨by omega, d⟩
  rw [if_neg hno, if_neg (by rw [h.right' 5 (by omega) (by omega)]; simp)]
 ·rw [h.same 5 (by omega) (by omega)]

/-- A low byte is a unit of its own, at a boundary. -/
theorem low_bound (s : ByteArray) {p : Nat} (hp : p < s.size) (h : bt s p < 128) : boundF s p = true ∧ up s p = p + 1 := by
 constructor
 ·rw [bound_iff]
  intro k h1 h2
  by_cases e : up s k ≤ p
  ·exact e
  ·have := (mid_one s (j := k) (k := p) (by omega) h2 (by omega)).1; omega
 ·have := szD s hp
  rw [dec4_low h] at this
  unfold up; rw [this]
theorem win_at (s : ByteArray) (i : Nat) (k : Nat) (hk : k < 8) : win s i k = bt s ((i : Int) + k - 4) := by unfold win; rw [if_pos hk]
theorem bt_extract (s : ByteArray) {F T : Nat} (h1 : F ≤ T) (h2 : T ≤ s.size) (k : Int) : bt (s.extract F T) k = if 0 ≤ k ∧ k < (T : Int) - F then bt s (F + k) else 256 := by
 have hz : (s.extract F T).size = T - F := by simp [ByteArray.size_extract]; omega
 by_cases h0 : 0 ≤ k
 ·by_cases h : k < (T : Int) - F
  ·rw [if_pos ⟨h0, h⟩]
   obtain ⟨n, rfl⟩ : ∃ n : Nat, k = n := ⟨k.toNat, by omega⟩
   have e : ((F : Int) + (n : Int)) = ((F + n : Nat) : Int) := by omega
   rw [e, bt_in s (k := F + n) (by omega), bt_in (s.extract F T) (k := n) (by rw [hz]; omega)]
   congr 1
   exact ByteArray.getElem_extract ..
  ·rw [if_neg (by omega), bt_big _ (by rw [hz]; omega)]
 ·rw [if_neg (by omega), bt_neg _ (by omega)]
theorem cPrev_low {w : Nat → Nat} (h : w 3 < 128) : cPrev w = w 3 := by
 unfold cPrev
 rw [if_neg, if_neg, if_neg]
 ·exact chOf_low h
 ·intro h2; have e : w 3 / 64 = 2 := (dec4_two _ _ _ _ h2).2.2; omega
 ·intro h2; have e : w 3 / 64 = 2 := dec4_three _ _ _ _ h2; omega
 ·intro h2; have e : w 3 / 64 = 2 := dec4_four _ _ _ _ h2; omega
theorem cPrev_13 {w : Nat → Nat} (h : cPrev w = 13) : w 3 = 13 := by
 have no : ∀ k, wCh w k = 13 → w k = 13 ∧ wSz w k = 1 := by
  intro k hk
  have := dec4_ch (x := 13) (by omega) (by omega) hk
  have e : w k = 13 := by omega
  exact ⟨e, by unfold wSz wD; rw [dec4_low (by omega)]⟩
 unfold cPrev at h
 split at h
 ·have := no 0 h; omega
 ·split at h
  ·have := no 1 h; omega
  ·split at h
   ·have := no 2 h; omega
   ·exact (no 3 h).1
theorem win3 (s : ByteArray) (p : Nat) : win s (p + 1) 3 = bt s p := by rw [win_at s (p + 1) 3 (by omega)]; congr 1; omega
theorem win4 (s : ByteArray) (p : Nat) : win s p 4 = bt s p := by rw [win_at s p 4 (by omega)]; congr 1; omega
theorem win4_low (s : ByteArray) {p : Nat} (h : bt s p < 128) : wCh (win s p) 4 = bt s p := by
 unfold wCh wD; rw [chOf_low (by rw [win4]; exact h), win4]
theorem crlf_glue (s : ByteArray) {p : Nat} (hp : p + 1 < s.size) (h1 : bt s p = 13) (h2 : bt s (p + 1 : Nat) = 10) : clB s (p + 1) = false := by
 rw [clB_win s hp]
 unfold cB
 rw [win4_low s (by omega), cPrev_low (by rw [win3]; omega), win3, h1, h2]
 simp [gluedF]

section
variable (s : ByteArray) {F T : Nat}
end

/-- The clusters of a piece, and its cells. -/
def cutsOf (s : ByteArray) (F n : Nat) : List Nat := (List.range' F n).filter (clB s)
def cellsOf (s : ByteArray) (F n : Nat) : Int := sumW s (cutsOf s F n)
end Go.Proofs.YtfchglcclgcgfaaGreatDoor.Ut
/-
 Package lines over whatever keeps a text: each answer at any number, as one function of the text. Condition: TextIs.
-/
namespace Go.Proofs.YtfchglcclgcgfaaGreatDoor.Ut
open Go.RowKit Go.Proofs.YtfchglcclgcgfaaGreatDoor.Reg
set_option linter.unusedVariables false
set_option linter.unusedSimpArgs false

end Go.Proofs.YtfchglcclgcgfaaGreatDoor.Ut
/-
 Lines told by the bytes (plain): where they begin and end, their clusters, columns and back. No condition.
-/
namespace Go.Proofs.YtfchglcclgcgfaaGreatDoor.Ut
open Go.RowKit Go.Proofs.YtfchglcclgcgfaaGreatDoor.Reg
set_option linter.unusedVariables false
set_option linter.unusedSimpArgs false

theorem nlTo_succ (s : ByteArray) {k : Nat} (h : k < s.size) : nlTo s (k + 1) = nlTo s k + (if bt s k = 10 then 1 else 0) := by
 have hl : k < s.data.toList.length := by rw [← Lib.size_eq]; exact h
 have e : bt s k = (s.data.toList[k]).toNat := by
  unfold bt; rw [if_pos (by omega), Int.toNat_natCast, List.getElem?_eq_getElem hl]
 rw [nlTo_list, nlTo_list, List.take_succ_eq_append_getElem hl, e]
 have e2 : (s.data.toList[k].toNat = 10) ↔ (s.data.toList[k] = 10) := by rw [← UInt8.toNat_inj]; rfl
 unfold Lib.countByte
 by_cases hc : s.data.toList[k] = 10
 ·rw [if_pos (e2.2 hc)]; simp [hc, List.countP_append, List.count_append]
 ·rw [if_neg (fun h => hc (e2.1 h))]
  have hc2 : ¬ s.data[k]'(by simpa using hl) = 10 := by simpa using hc
  simp [hc2, List.countP_append, List.count_append, List.count_cons]
theorem class10 : classF 10 = 1 := by decide +kernel
theorem class13 : classF 13 = 2 := by decide +kernel
theorem lf_next (s : ByteArray) {p : Nat} (hp : p < s.size) (h : bt s p = 10) : clB s (p + 1) = true ∧ clN s p = p + 1 := by
 obtain ⟨hb, hu⟩ := low_bound s hp (by omega)
 have key : clB s (p + 1) = true := by
  by_cases e : p + 1 < s.size
  ·rw [clB_win s e]
   unfold cB
   rw [cPrev_low (by rw [win3]; omega), win3, h, ← bound_win s (by omega)]
   have := bound_up s hp hb
   rw [hu] at this
   rw [this]
   simp [gluedF, class10]
  ·rw [show p + 1 = s.size by omega]; exact clB_size s
 refine ⟨key, ?_⟩
 rw [clN_step hp, nextU_up hp hb, hu, if_pos key]
theorem lf_clB (s : ByteArray) {p : Nat} (hp : p < s.size) (h : bt s p = 10) (h1 : p = 0 ∨ bt s ((p - 1 : Nat) : Int) ≠ 13) : clB s p = true := by
 by_cases e : p = 0
 ·subst e; exact clB_zero s
 ·obtain ⟨q, rfl⟩ : ∃ q, p = q + 1 := ⟨p - 1, by omega⟩
  have hb := (low_bound s hp (by omega)).1
  rw [clB_win s hp]
  unfold cB
  rw [← bound_win s (by omega), hb, win4_low s (by omega), h]
  have hne : ¬ cPrev (win s (q + 1)) = 13 := by
   intro hc
   have := cPrev_13 hc
   rw [win3] at this
   rcases h1 with h1 | h1
   ·omega
   ·exact h1 this
  simp [gluedF, class10, hne]
theorem cr_clB (s : ByteArray) {p : Nat} (hp : p < s.size) (h : bt s p = 13) : clB s p = true := by
 have hb := (low_bound s hp (by omega)).1
 rw [clB_win s hp]
 unfold cB
 rw [← bound_win s (by omega), hb, win4_low s (by omega), h]
 simp [gluedF, class13]
theorem crlf_next (s : ByteArray) {p : Nat} (hp : p + 1 < s.size) (h1 : bt s p = 13) (h2 : bt s ((p + 1 : Nat) : Int) = 10) : clB s (p + 2) = true ∧ clN s p = p + 2 := by
 obtain ⟨hb, hu⟩ := low_bound s (p := p) (by omega) (by omega)
 have hg := crlf_glue s hp h1 h2
 obtain ⟨k1, k2⟩ := lf_next s hp h2
 refine ⟨k1, ?_⟩
 rw [clN_step (by omega), nextU_up (by omega) hb, hu, hg, if_neg (by simp), k2]

end Go.Proofs.YtfchglcclgcgfaaGreatDoor.Ut
/-
 Columns and back (plain). No condition.
-/
namespace Go.Proofs.YtfchglcclgcgfaaGreatDoor.Ut
open Go.RowKit Go.Proofs.YtfchglcclgcgfaaGreatDoor.Reg
set_option linter.unusedVariables false
set_option linter.unusedSimpArgs false

theorem cuts_all (u : ByteArray) : clAts u 0 = cutsOf u 0 u.size := clAts_all u
theorem cuts_split (u : ByteArray) (a n m : Nat) : cutsOf u a (n + m) = cutsOf u a n ++ cutsOf u (a + n) m := by
 unfold cutsOf
 rw [← List.filter_append, List.range'_append_1]
theorem cuts_cons (u : ByteArray) {j : Nat} (h : clB u j = true) (n : Nat) : cutsOf u j (n + 1) = j :: cutsOf u (j + 1) n := by
 unfold cutsOf
 rw [List.range'_succ, List.filter_cons, if_pos h]
theorem mem_cuts {u : ByteArray} {a n x : Nat} : x ∈ cutsOf u a n ↔ (a ≤ x ∧ x < a + n) ∧ clB u x = true := by
 unfold cutsOf
 rw [List.mem_filter, List.mem_range'_1]
theorem next_le {u : ByteArray} {x j : Nat} (hx : clB u x = true) (hj : clB u j = true) (h : x < j) (hs : j ≤ u.size) : clN u x ≤ j := by
 rcases Nat.lt_or_ge j (clN u x) with h1 | h1
 ·have := (clN_spec u (u.size - x) x (Nat.le_refl _) (by omega) (clB_bound (by omega) hx)).2 j h h1
  rw [hj] at this; exact absurd this (by simp)
 ·exact h1
theorem next_clB {u : ByteArray} {x : Nat} (hx : clB u x = true) (h : x < u.size) : clB u (clN u x) = true :=
 (clN_spec u (u.size - x) x (Nat.le_refl _) h (clB_bound h hx)).1
theorem atEnd_cuts {u : ByteArray} {j : Nat} (F : Int) (hj : clB u j = true) (h : j ≤ u.size) : atEnd u F (cutsOf u 0 j) = F + j := by
 unfold atEnd
 cases hg : (cutsOf u 0 j).getLast? with
 | none =>
  rw [List.getLast?_eq_none_iff] at hg
  rcases Nat.eq_zero_or_pos j with h0 | h0
  ·subst h0; simp
  ·have : 0 ∈ cutsOf u 0 j := mem_cuts.2 ⟨⟨Nat.le_refl _, by omega⟩, clB_zero u⟩
   rw [hg] at this; simp at this
 | some x =>
  simp only
  obtain ⟨ys, hys⟩ := List.getLast?_eq_some_iff.1 hg
  have hx : x ∈ cutsOf u 0 j := by rw [hys]; simp
  obtain ⟨⟨-, h1⟩, h2⟩ := mem_cuts.1 hx
  have hle := next_le h2 hj (by omega) h
  have hgt := clN_gt (s := u) (i := x) (by omega)
  have hpw : (cutsOf u 0 j).Pairwise (· < ·) := List.Pairwise.filter _ List.pairwise_lt_range'
  rw [hys, List.pairwise_append] at hpw
  rcases Nat.lt_or_eq_of_le hle with h3 | h3
  ·exfalso
   have : clN u x ∈ cutsOf u 0 j := mem_cuts.2 ⟨⟨Nat.zero_le _, by omega⟩, next_clB h2 (by omega)⟩
   rw [hys, List.mem_append] at this
   rcases this with h4 | h4
   ·have := hpw.2.2 _ h4 x (by simp); omega
   ·simp at h4; omega
  ·rw [h3]
section
variable {s : ByteArray} {N F T : Nat}
end
end Go.Proofs.YtfchglcclgcgfaaGreatDoor.Ut
/-
 What references over rows have in common: rows of spans, an append, where lines begin (plain). No condition.
-/
namespace Go.Proofs.YtfchglcclgcgfaaGreatDoor.Ut
open Go.RowKit Go.Proofs.YtfchglcclgcgfaaGreatDoor.Reg
set_option linter.unusedVariables false
set_option linter.unusedSimpArgs false

theorem row_forma {w : World} {base e size n : Nat} {v : Value} {xs : List Value} (h : w.ownsRow base e size v n xs) : ∃ A c, v = .slice A n c := by
 rcases h.2 with ⟨rfl, rfl⟩ | ⟨g, cap, cur, rfl, _⟩
 ·exact ⟨none, 0, rfl⟩
 ·exact ⟨_, cap, rfl⟩
theorem ix_bt (O : ByteArray) (j : Nat) (h : j < O.size) (w : World) : (Instr.index 9 (.string O) (.int .i64 j)).run Tryz.prog w = .ok (.int .u8 (bt O j)) w := by
 rw [run_index_string w 9 O .i64 j Tryz.underlying9, dif_pos ⟨by omega, by omega⟩, bt_in O h]
 rfl
theorem grown_cella {w w' : World} {row : Option Nat} (hg : w.grownBy w' row) {p : Addr} (hp : p.block < w.heap.size) (hn : row ≠ some p.block) : w'.cell? p = w.cell? p :=
 (Chg.of_grown hg).cell hp (fun h => hn h.symm)
end Go.Proofs.YtfchglcclgcgfaaGreatDoor.Ut
