/-
  What the proof of the laws S rests on: the texts StZ StAs. Conditions: each theorem names its own.
-/
import Derived.Test.YtfchglcclgcgfaaGreatDoorMgSw
/-
 Stores side by side: a store's own blocks are few, and none of them is a rope's. No condition.
-/
namespace Go.Proofs.YtfchglcclgcgfaaGreatDoor.Ut
open Go.RowKit Go.Proofs.YtfchglcclgcgfaaGreatDoor.Reg
set_option linter.unusedVariables false
set_option linter.unusedSimpArgs false

/-- No block of S is of a rope. -/
def NoRope (W : World) (S : Nat → Prop) : Prop := ∀ k vs T, S k → (T = 189 ∨ T = 169) → ¬ Blk W k T vs
theorem NoRope.keeps {W W' : World} {S : Nat → Prop} (h : NoRope W S) (hc : Chg S W W') : Keeps W W' := Keeps.of_chg hc h
theorem row_no_blk {W : World} {g : Nat} {l : List UInt8} (h : RowIs W g l) {T : TypeId} {vs : List Value} (hT : T = 189 ∨ T = 169) : ¬ Blk W g T vs := by
 intro hb
 unfold RowIs at h
 unfold Blk at hb
 rw [h] at hb
 rcases hT with rfl | rfl <;> simp at hb
theorem blk_no_blk {W : World} {g : Nat} {T0 : TypeId} {us : List Value} (h : Blk W g T0 us) (h0 : T0 ≠ 189 ∧ T0 ≠ 169) {T : TypeId} {vs : List Value} (hT : T = 189 ∨ T = 169) : ¬ Blk W g T vs := by
 intro hb
 have e := h.same hb
 rcases hT with h1 | h1
 ·exact h0.1 (e.trans h1)
 ·exact h0.2 (e.trans h1)
/-- The few blocks that a store needs. -/
theorem StoreIn.few {W : World} {b : Nat} {i : Stt} {T : TypeId} {s : ByteArray} {S : Nat → Prop} (h : StoreIn W b i T s S) :
  ∃ S0 : Nat → Prop, (∀ k, S0 k → S k) ∧ (∀ k, S0 k → k < W.heap.size) ∧ StoreIn W b i T s S0 ∧ NoRope W S0 := by
 obtain ⟨h0, p, h1, h2, h3⟩ := h
 rcases h3 with ⟨rfl, g, r, fr, tv, k1, k2, k3⟩ | ⟨rfl, rb, k1, k2⟩
 ·refine ⟨fun k => k = b ∨ k = p ∨ k = g, ?_, ?_, ⟨.inl rfl, p, h1, .inr (.inl rfl), .inl ⟨rfl, g, r, fr, tv, k1, k2, .inr (.inr rfl)⟩⟩, ?_⟩
  ·rintro k (rfl | rfl | rfl)
   ·exact h0
   ·exact h2
   ·exact k3
  ·rintro k (rfl | rfl | rfl)
   ·exact h1.lies.1
   ·exact k1.box.lies.1
   ·exact k1.lt
  ·rintro k vs T' (rfl | rfl | rfl) hT
   ·exact blk_no_blk h1 (by decide) hT
   ·exact blk_no_blk k1.box (by decide) hT
   ·exact row_no_blk k1.row hT
 ·refine ⟨fun k => k = b ∨ k = p, ?_, ?_, ⟨.inl rfl, p, h1, .inr rfl, .inr ⟨rfl, rb, k1, k2⟩⟩, ?_⟩
  ·rintro k (rfl | rfl)
   ·exact h0
   ·exact h2
  ·rintro k (rfl | rfl)
   ·exact h1.lies.1
   ·exact k1.lies.1
  ·rintro k vs T' (rfl | rfl) hT
   ·exact blk_no_blk h1 (by decide) hT
   ·exact blk_no_blk k1 (by decide) hT
/-- A store stays where other blocks change. -/
theorem StoreIn.chg {W W' : World} {b : Nat} {i : Stt} {T : TypeId} {s : ByteArray} {S R : Nat → Prop} (h : StoreIn W b i T s S) (hc : Chg R W W') (hR : ∀ j, S j → ¬ R j) (hK : Keeps W W') : StoreIn W' b i T s S := by
 obtain ⟨h0, p, h1, h2, h3⟩ := h
 refine ⟨h0, p, h1.chg hc (hR b h0), h2, ?_⟩
 rcases h3 with ⟨rfl, g, r, fr, tv, k1, k2, k3⟩ | ⟨rfl, k1⟩
 ·exact .inl ⟨rfl, g, r, fr, tv, k1.chg hc (hR p h2) (hR g k3), k2, k3⟩
 ·refine .inr ⟨rfl, k1.keeps hK ?_⟩
  obtain ⟨rb, k2, -⟩ := k1
  exact hc.block p k2.lies.1 (hR p h2)
theorem repE_zero {n lim : Nat} {a c : Int} {z : Nat} (h : repE n lim a c z = 0) : ∃ x y : Nat, a = x ∧ c = y ∧ x + y ≤ n ∧ (n - y + z ≤ lim ∨ False) := by
 unfold repE at h
 split at h
 ·cases h
 ·split at h
  ·cases h
  ·exact ⟨a.toNat, c.toNat, by omega, by omega, by omega, .inl (by omega)⟩
/-- What the document says of Replace: the answer's text, the error, the text behind it. -/
def repA (s : ByteArray) (lim : Nat) (a c : Int) (p : ByteArray) : ByteArray × Int × ByteArray :=
 if repE s.size lim a c p.size = 0 then (s.extract a.toNat (a.toNat + c.toNat), 0, repl s a.toNat c.toNat p) else (⟨#[]⟩, repE s.size lim a c p.size, s)
/-- What is told of the store behind Replace. -/
def repI (i : Stt) (T : TypeId) (s : ByteArray) (a c : Int) (p : ByteArray) : Stt := if repE s.size i.lim a c p.size = 0 then edI i T (repl s a.toNat c.toNat p).size (c + p.size) else i
def repTy (i : Stt) (T : TypeId) (s : ByteArray) (a c : Int) (p : ByteArray) : TypeId := if repE s.size i.lim a c p.size = 0 then edT i T (repl s a.toNat c.toNat p).size else T
theorem StReplace_all {W : World} {b : Nat} {i : Stt} {T : TypeId} {s : ByteArray} {S : Nat → Prop} (hT : Tabs W) (hN : NoTab S) (h : StoreIn W b i T s S) (hs : s.size ≤ i.lim) (hl : i.lim ≤ 1073741824) (a c : Int) (p : ByteArray) :
  Calls Tryz.prog 57 #[.pointer (some ⟨b, 0, none⟩), .int .i64 a, .int .i64 c, .string p] W fun e w' => e = .returned (.tuple #[.string (repA s i.lim a c p).1, .int .i64 (repA s i.lim a c p).2.1]) ∧
   StoreIn w' b (repI i T s a c p) (repTy i T s a c p) (repA s i.lim a c p).2.2 (fun j => S j ∨ W.heap.size ≤ j) ∧ Chg S W w' := by
 unfold repA repI repTy
 by_cases he : repE s.size i.lim a c p.size = 0
 ·rw [if_pos he, if_pos he, if_pos he]
  obtain ⟨x, y, rfl, rfl, h1, h2⟩ := repE_zero he
  rcases h2 with h2 | h2
  ·simp only [Int.toNat_natCast]
   exact StReplace_in hT hN h hs hl x y p h1 h2
  ·exact h2.elim
 ·rw [if_neg he, if_neg he, if_neg he]
  refine (StReplace_bad h (by omega) hl a c p he).mono ?_
  rintro e w' ⟨rfl, hb⟩
  exact ⟨rfl, (h.below hb).mono (fun j _ hj => .inl hj), Chg.of_below hb⟩
end Go.Proofs.YtfchglcclgcgfaaGreatDoor.Ut
/-
 Slice and Measure of stores at any numbers. Condition: the two tables of unicode/utf8 lie as laid.
-/
namespace Go.Proofs.YtfchglcclgcgfaaGreatDoor.Ut
open Go.RowKit Go.Proofs.YtfchglcclgcgfaaGreatDoor.Reg
set_option linter.unusedVariables false
set_option linter.unusedSimpArgs false

/-- What Slice and Measure answer at any numbers. -/
def slA (s : ByteArray) (i j : Int) : ByteArray × Int := if 0 ≤ i ∧ i ≤ j ∧ j ≤ (s.size : Int) then (s.extract i.toNat j.toNat, 0) else (⟨#[]⟩, 1)
def meA (s : ByteArray) (i j : Int) : Sm × Int := if 0 ≤ i ∧ i ≤ j ∧ j ≤ (s.size : Int) then (measF (s.extract i.toNat j.toNat), 0) else (zeroSm, 1)
structure Asks (fs fm : Nat) (W : World) (p : Option Addr) (s : ByteArray) : Prop where
 slice : ∀ W' (i j : Int), Below W.heap.size W W' → Calls Tryz.prog fs #[.pointer p, .int .i64 i, .int .i64 j] W' fun e w' => e = .returned (.tuple #[.string (slA s i j).1, .int .i64 (slA s i j).2]) ∧ Below W'.heap.size W' w'
 meas : ∀ W' (i j : Int), Below W.heap.size W W' → Calls Tryz.prog fm #[.pointer p, .int .i64 i, .int .i64 j] W' fun e w' => e = .returned (.tuple #[(meA s i j).1.val, .int .i64 (meA s i j).2]) ∧ Below W'.heap.size W' w'
theorem Asks.below {fs fm : Nat} {W W' : World} {p : Option Addr} {s : ByteArray} (h : Asks fs fm W p s) (hb : Below W.heap.size W W') : Asks fs fm W' p s :=
 ⟨fun w i j k => h.slice w i j (hb.trans (k.mono hb.size)), fun w i j k => h.meas w i j (hb.trans (k.mono hb.size))⟩
theorem asks_of {fs fm : Nat} {W : World} {p : Option Addr} {s : ByteArray}
  (h1 : ∀ W' (i j : Nat), Below W.heap.size W W' → i ≤ j → j ≤ s.size → Calls Tryz.prog fs #[.pointer p, .int .i64 i, .int .i64 j] W' fun e w' => e = .returned (.tuple #[.string (s.extract i j), .int .i64 0]) ∧ Below W'.heap.size W' w')
  (h2 : ∀ W' (i j : Int), Below W.heap.size W W' → (i < 0 ∨ j < i ∨ (s.size : Int) < j) → Calls Tryz.prog fs #[.pointer p, .int .i64 i, .int .i64 j] W' fun e w' => e = .returned (.tuple #[.string ⟨#[]⟩, .int .i64 1]) ∧ Below W'.heap.size W' w')
  (h3 : ∀ W' (i j : Nat), Below W.heap.size W W' → i ≤ j → j ≤ s.size → Calls Tryz.prog fm #[.pointer p, .int .i64 i, .int .i64 j] W' fun e w' => e = .returned (.tuple #[(measF (s.extract i j)).val, .int .i64 0]) ∧ Below W'.heap.size W' w')
  (h4 : ∀ W' (i j : Int), Below W.heap.size W W' → (i < 0 ∨ j < i ∨ (s.size : Int) < j) → Calls Tryz.prog fm #[.pointer p, .int .i64 i, .int .i64 j] W' fun e w' => e = .returned (.tuple #[zeroSm.val, .int .i64 1]) ∧ Below W'.heap.size W' w') : Asks fs fm W p s := by
 constructor
 ·intro W' i j hb
  unfold slA
  by_cases h : 0 ≤ i ∧ i ≤ j ∧ j ≤ (s.size : Int)
  ·rw [if_pos h]
   have := h1 W' i.toNat j.toNat hb (by omega) (by omega)
   rw [Int.toNat_of_nonneg h.1, Int.toNat_of_nonneg (by omega)] at this
   exact this
  ·rw [if_neg h]
   exact h2 W' i j hb (by omega)
 ·intro W' i j hb
  unfold meA
  by_cases h : 0 ≤ i ∧ i ≤ j ∧ j ≤ (s.size : Int)
  ·rw [if_pos h]
   have := h3 W' i.toNat j.toNat hb (by omega) (by omega)
   rw [Int.toNat_of_nonneg h.1, Int.toNat_of_nonneg (by omega)] at this
   exact this
  ·rw [if_neg h]
   exact h4 W' i j hb (by omega)
theorem out3 {N i j : Int} (hb : i < 0 ∨ j < i ∨ N < j) : i < 0 ∨ (¬ i < 0 ∧ j < i) ∨ (¬ i < 0 ∧ ¬ j < i ∧ N < j) := by omega
set_option maxRecDepth 100000 in
theorem GapSlice_bad {p : Option Addr} {N : Nat} {i j : Int} {w : World} (hL : Calls Tryz.prog 231 #[.pointer p] w fun e w' => e = .returned (.int .i64 N) ∧ Below w.heap.size w w') (hb : i < 0 ∨ j < i ∨ (N : Int) < j) :
  Calls Tryz.prog 234 #[.pointer p, .int .i64 i, .int .i64 j] w fun e w' => e = .returned (.tuple #[.string ⟨#[]⟩, .int .i64 1]) ∧ Below w.heap.size w w' := by
 have HL := Lib.hid hL
 have hcs := out3 hb
 clear hL hb
 rcases hcs with h1 | ⟨h1, h2⟩ | ⟨h1, h2, h3⟩
 ·go_enter Tryz.func234, Tryz.ntmps234
  go_wp2
  refine bodyPost_ret (v := .tuple #[.string ⟨#[]⟩, .int .i64 1]) (by simp [results, Tryz.results234, go_sem]) rfl ⟨rfl, Below.refl _ _⟩
 ·go_enter Tryz.func234, Tryz.ntmps234
  go_wp2
  refine bodyPost_ret (v := .tuple #[.string ⟨#[]⟩, .int .i64 1]) (by simp [results, Tryz.results234, go_sem]) rfl ⟨rfl, Below.refl _ _⟩
 ·go_enter Tryz.func234, Tryz.ntmps234
  go_wp2_with fail
  refine HL.out.mono ?_
  rintro e w1 ⟨rfl, hb⟩
  have HB := Lib.hid hb
  clear hb
  go_wp2
  refine bodyPost_ret (v := .tuple #[.string ⟨#[]⟩, .int .i64 1]) (by simp [results, Tryz.results234, go_sem]) rfl ⟨rfl, HB.out⟩
set_option maxRecDepth 100000 in
set_option maxHeartbeats 1000000 in
theorem GapMeasure_bad {p : Option Addr} {i j : Int} {w : World} (hS : ∀ w1, Below w.heap.size w w1 → Calls Tryz.prog 234 #[.pointer p, .int .i64 i, .int .i64 j] w1 fun e w' => e = .returned (.tuple #[.string ⟨#[]⟩, .int .i64 1]) ∧ Below w1.heap.size w1 w') :
  Calls Tryz.prog 232 #[.pointer p, .int .i64 i, .int .i64 j] w fun e w' => e = .returned (.tuple #[zeroSm.val, .int .i64 1]) ∧ Below w.heap.size w w' := by
 obtain ⟨W0, hW0, A0, b0, hsz⟩ := boxL1 w zero7 48
 have HE := Lib.hid hW0
 unfold zero7 at HE
 have HR := Lib.hid A0
 have HB := Lib.hid b0
 have HS := Lib.hid (hS W0 b0)
 clear hS hW0 A0 b0 hsz
 go_enter Tryz.func232, Tryz.ntmps232
 go_wp2_with fail
 rw [HE.out]
 refine HS.out.mono ?_
 rintro e w1 ⟨rfl, hb⟩
 have HR := Lib.hid (HR.out.below hb)
 have HB := Lib.hid (HB.out.trans (hb.mono HB.out.size))
 clear hb
 have L := Lib.hid (HR.out.stored zero7 rfl).2
 have D4 := sets_chg w.heap.size zero7 0 w1
 have HBL := Lib.hid (chg_mine HB.out D4 (Nat.le_refl _))
 obtain ⟨r0, s0⟩ := HR.out.2 0 _ rfl
 obtain ⟨r1, s1⟩ := HR.out.2 1 _ rfl
 obtain ⟨r2, s2⟩ := HR.out.2 2 _ rfl
 obtain ⟨r3, s3⟩ := HR.out.2 3 _ rfl
 obtain ⟨r4, s4⟩ := HR.out.2 4 _ rfl
 obtain ⟨r5, s5⟩ := HR.out.2 5 _ rfl
 obtain ⟨r6, s6⟩ := HR.out.2 6 _ rfl
 clear D4
 go_wp2
 have j0 := (L.out 0 _ rfl).1
 have j1 := (L.out 1 _ rfl).1
 have j2 := (L.out 2 _ rfl).1
 have j3 := (L.out 3 _ rfl).1
 have j4 := (L.out 4 _ rfl).1
 have j5 := (L.out 5 _ rfl).1
 have j6 := (L.out 6 _ rfl).1
 simp only [Sm.cells7, zero7, World.setCells] at j0 j1 j2 j3 j4 j5 j6
 refine bodyPost_ret (v := .tuple #[zeroSm.val, .int .i64 1]) (by simp [results, Tryz.results232, go_sem, j0, j1, j2, j3, j4, j5, j6, Sm.val, zeroSm]) rfl ⟨rfl, HBL.out⟩
theorem asks_gap {W : World} {b lim : Nat} {s : ByteArray} {S : Nat → Prop} (h : GapIn W b lim s S) (hT : Tabs W) (hs : s.size ≤ 1073741824) : Asks 234 232 W (some ⟨b, 0, none⟩) s := by
 obtain ⟨g, r, fr, tv, h1, rfl, h3⟩ := h
 refine asks_of (fun W' i j hb hij hj => GapSlice_any b g r fr tv lim i j W' (h1.below hb) hij hj) (fun W' i j hb hx => GapSlice_bad (GapLen_any b g r fr tv lim W' (h1.below hb)) hx)
  (fun W' i j hb hij hj => GapMeasure_any b g r fr tv lim i j W' (h1.below hb) (tabs_below hT hb) hij hj) (fun W' i j hb hx => GapMeasure_bad (fun w1 hb1 => GapSlice_bad (GapLen_any b g r fr tv lim w1 ((h1.below hb).below hb1)) hx))
theorem asks_gnil {W : World} (hT : Tabs W) : Asks 234 232 W none ⟨#[]⟩ := by
 have hL : ∀ w, Calls Tryz.prog 231 #[.pointer none] w fun e w' => e = .returned (.int .i64 ((0 : Nat) : Int)) ∧ Below w.heap.size w w' := fun w => (nilLen_any w).mono (by rintro e w' ⟨rfl, rfl⟩; exact ⟨rfl, Below.refl _ _⟩)
 refine asks_of (fun W' i j hb hij hj => ?_) (fun W' i j hb hx => GapSlice_bad (hL W') hx) (fun W' i j hb hij hj => ?_) (fun W' i j hb hx => GapMeasure_bad (fun w1 hb1 => GapSlice_bad (hL w1) hx))
 ·have hj : j ≤ 0 := hj
  obtain rfl : j = 0 := by omega
  obtain rfl : i = 0 := by omega
  exact nilSlice_any W'
 ·have hj : j ≤ 0 := hj
  obtain rfl : j = 0 := by omega
  obtain rfl : i = 0 := by omega
  exact nilMeasure_any W' (tabs_below hT hb)
set_option maxRecDepth 100000 in
theorem ropedSlice_bad (b lim : Nat) (s : ByteArray) (i j : Int) (w : World) (h : IsRoped w b lim s) (hb : i < 0 ∨ j < i ∨ (s.size : Int) < j) : Calls Tryz.prog 244 #[ptr b, .int .i64 i, .int .i64 j] w fun e w' => e = .returned (.tuple #[.string ⟨#[]⟩, .int .i64 1]) ∧ Below w.heap.size w w' := by
 obtain ⟨rb, h1, t, h2, rfl, -⟩ := h
 have H := Lib.hid (RopeSlice_bad rb i j t w h2 hb)
 have c0 := (h1.lies.2 0 _ rfl).1
 clear h1 h2 hb
 unfold ptr at *
 go_enter Tryz.func244, Tryz.ntmps244
 go_wp2_with fail
 refine H.out.mono ?_
 rintro e w1 ⟨rfl, rfl⟩
 go_wp2
 refine bodyPost_ret (v := .tuple #[.string ⟨#[]⟩, .int .i64 1]) (by simp [results, Tryz.results244, go_sem]) rfl ⟨rfl, Below.refl _ _⟩
set_option maxRecDepth 100000 in
set_option maxHeartbeats 1000000 in
theorem ropedMeasure_bad (b lim : Nat) (s : ByteArray) (i j : Int) (w : World) (h : IsRoped w b lim s) (hb : i < 0 ∨ j < i ∨ (s.size : Int) < j) : Calls Tryz.prog 242 #[ptr b, .int .i64 i, .int .i64 j] w fun e w' => e = .returned (.tuple #[zeroSm.val, .int .i64 1]) ∧ Below w.heap.size w w' := by
 obtain ⟨W0, hW0, A0, b0, hsz⟩ := boxL1 w zero7 48
 have HE := Lib.hid hW0
 unfold zero7 at HE
 have HR := Lib.hid A0
 have HB := Lib.hid b0
 obtain ⟨rb, h1, t, h2, rfl, -⟩ := h
 have H := Lib.hid (RopeMeasure_bad rb i j t W0 (h2.below b0) hb)
 have c0 := (h1.lies.2 0 _ rfl).1
 have hbl := h1.lies.1
 clear h1 h2 hW0 A0 b0 hsz hb
 unfold ptr at *
 go_enter Tryz.func242, Tryz.ntmps242
 go_wp2_with fail
 rw [HE.out]
 refine H.out.mono ?_
 rintro e w1 ⟨rfl, hb⟩
 have HR := Lib.hid (HR.out.below hb)
 have HB := Lib.hid (HB.out.trans (hb.mono HB.out.size))
 clear hb
 clear c0
 unfold Sm.val
 have L := Lib.hid (HR.out.stored zero7 rfl).2
 have D4 := sets_chg w.heap.size zero7 0 w1
 have HBL := Lib.hid (chg_mine HB.out D4 (Nat.le_refl _))
 obtain ⟨r0, s0⟩ := HR.out.2 0 _ rfl
 obtain ⟨r1, s1⟩ := HR.out.2 1 _ rfl
 obtain ⟨r2, s2⟩ := HR.out.2 2 _ rfl
 obtain ⟨r3, s3⟩ := HR.out.2 3 _ rfl
 obtain ⟨r4, s4⟩ := HR.out.2 4 _ rfl
 obtain ⟨r5, s5⟩ := HR.out.2 5 _ rfl
 obtain ⟨r6, s6⟩ := HR.out.2 6 _ rfl
 clear D4
 go_wp2
 have j0 := (L.out 0 _ rfl).1
 have j1 := (L.out 1 _ rfl).1
 have j2 := (L.out 2 _ rfl).1
 have j3 := (L.out 3 _ rfl).1
 have j4 := (L.out 4 _ rfl).1
 have j5 := (L.out 5 _ rfl).1
 have j6 := (L.out 6 _ rfl).1
 simp only [Sm.cells7, zero7, World.setCells] at j0 j1 j2 j3 j4 j5 j6
 refine bodyPost_ret (v := .tuple #[zeroSm.val, .int .i64 1]) (by simp [results, Tryz.results242, go_sem, j0, j1, j2, j3, j4, j5, j6, Sm.val, zeroSm]) rfl ⟨rfl, HBL.out⟩
theorem asks_roped {W : World} {b lim : Nat} {s : ByteArray} (h : IsRoped W b lim s) (hT : Tabs W) (hs : s.size ≤ 1073741824) : Asks 244 242 W (some ⟨b, 0, none⟩) s :=
 asks_of (fun W' i j hb hij hj => ropedSlice_any b lim s i j W' (h.below hb) (by omega) hij hj) (fun W' i j hb hx => ropedSlice_bad b lim s i j W' (h.below hb) hx)
  (fun W' i j hb hij hj => ropedMeasure_any b lim s i j W' (tabs_below hT hb) (h.below hb) (by omega) hij hj) (fun W' i j hb hx => ropedMeasure_bad b lim s i j W' (h.below hb) hx)
/-- Slice and Measure of a store are those of what keeps the text. -/
theorem StSlice_of {T : TypeId} {fs : Nat} {q p : Option Addr} {i j : Int} {O : ByteArray} {E : Int} {w : World} {Q : World → Prop} (hf : (T = 30 ∧ fs = 234) ∨ (T = 148 ∧ fs = 244))
  (hu : Calls Tryz.prog 75 #[.pointer q] w fun e w' => e = .returned (.iface T (.pointer p)) ∧ Q w')
  (h : ∀ w1, Q w1 → Calls Tryz.prog fs #[.pointer p, .int .i64 i, .int .i64 j] w1 fun e w' => e = .returned (.tuple #[.string O, .int .i64 E]) ∧ Q w') :
  Calls Tryz.prog 69 #[.pointer q, .int .i64 i, .int .i64 j] w fun e w' => e = .returned (.tuple #[.string O, .int .i64 E]) ∧ Q w' := by
 have HU := Lib.hid hu
 have H := Lib.hid h
 clear hu h
 rcases hf with ⟨rfl, rfl⟩ | ⟨rfl, rfl⟩
 all_goals
  go_enter Tryz.func69, Tryz.ntmps69
  go_wp2_with fail
  refine HU.out.mono ?_
  rintro e w1 ⟨rfl, hq⟩
  have H1 := Lib.hid (H.out w1 hq)
  clear hq H HU
  go_wp2_with fail
  refine H1.out.mono ?_
  rintro e w2 ⟨rfl, hq⟩
  have HQ := Lib.hid hq
  clear hq
  go_wp2
  refine bodyPost_ret (v := .tuple #[.string O, .int .i64 E]) (by simp [results, Tryz.results69, go_sem]) rfl ⟨rfl, HQ.out⟩
set_option maxRecDepth 100000 in
set_option maxHeartbeats 1000000 in
theorem StMeasure_of {T : TypeId} {fm : Nat} {q p : Option Addr} {i j : Int} {m : Sm} {E : Int} {w : World} (hf : (T = 30 ∧ fm = 232) ∨ (T = 148 ∧ fm = 242))
  (hu : ∀ w1, Below w.heap.size w w1 → Calls Tryz.prog 75 #[.pointer q] w1 fun e w' => e = .returned (.iface T (.pointer p)) ∧ w' = w1)
  (h : ∀ w1, Below w.heap.size w w1 → Calls Tryz.prog fm #[.pointer p, .int .i64 i, .int .i64 j] w1 fun e w' => e = .returned (.tuple #[m.val, .int .i64 E]) ∧ Below w1.heap.size w1 w') :
  Calls Tryz.prog 70 #[.pointer q, .int .i64 i, .int .i64 j] w fun e w' => e = .returned (.tuple #[m.val, .int .i64 E]) ∧ Below w.heap.size w w' := by
 obtain ⟨W0, hW0, A0, b0, hsz⟩ := boxL1 w zero7 48
 have HE := Lib.hid hW0
 unfold zero7 at HE
 have HR := Lib.hid A0
 have HB := Lib.hid b0
 have HU := Lib.hid (hu W0 b0)
 have H := Lib.hid (h W0 b0)
 clear hu h hW0 A0 b0 hsz
 rcases hf with ⟨rfl, rfl⟩ | ⟨rfl, rfl⟩
 all_goals
  go_enter Tryz.func70, Tryz.ntmps70
  go_wp2_with fail
  rw [HE.out]
  refine HU.out.mono ?_
  rintro e w1 ⟨rfl, rfl⟩
  go_wp2_with fail
  refine H.out.mono ?_
  rintro e w2 ⟨rfl, hb⟩
  have HR := Lib.hid (HR.out.below hb)
  have HB := Lib.hid (HB.out.trans (hb.mono HB.out.size))
  clear hb
  clear HU H
  unfold Sm.val
  have L := Lib.hid (HR.out.stored m.cells7 rfl).2
  have D4 := sets_chg w.heap.size m.cells7 0 w2
  have HBL := Lib.hid (chg_mine HB.out D4 (Nat.le_refl _))
  obtain ⟨r0, s0⟩ := HR.out.2 0 _ rfl
  obtain ⟨r1, s1⟩ := HR.out.2 1 _ rfl
  obtain ⟨r2, s2⟩ := HR.out.2 2 _ rfl
  obtain ⟨r3, s3⟩ := HR.out.2 3 _ rfl
  obtain ⟨r4, s4⟩ := HR.out.2 4 _ rfl
  obtain ⟨r5, s5⟩ := HR.out.2 5 _ rfl
  obtain ⟨r6, s6⟩ := HR.out.2 6 _ rfl
  clear D4
  go_wp2
  have j0 := (L.out 0 _ rfl).1
  have j1 := (L.out 1 _ rfl).1
  have j2 := (L.out 2 _ rfl).1
  have j3 := (L.out 3 _ rfl).1
  have j4 := (L.out 4 _ rfl).1
  have j5 := (L.out 5 _ rfl).1
  have j6 := (L.out 6 _ rfl).1
  simp only [Sm.cells7, zero7, World.setCells] at j0 j1 j2 j3 j4 j5 j6
  refine bodyPost_ret (v := .tuple #[m.val, .int .i64 E]) (by simp [results, Tryz.results70, go_sem, j0, j1, j2, j3, j4, j5, j6, Sm.val, zeroSm]) rfl ⟨rfl, HBL.out⟩
theorem asks_store {W : World} {T : TypeId} {fs fm : Nat} {q p : Option Addr} {s : ByteArray} (hf : (T = 30 ∧ fs = 234 ∧ fm = 232) ∨ (T = 148 ∧ fs = 244 ∧ fm = 242))
  (hu : ∀ w1, Below W.heap.size W w1 → Calls Tryz.prog 75 #[.pointer q] w1 fun e w' => e = .returned (.iface T (.pointer p)) ∧ w' = w1) (h : Asks fs fm W p s) : Asks 69 70 W q s := by
 constructor
 ·intro W' i j hb
  refine StSlice_of (p := p) (Q := fun w' => Below W'.heap.size W' w') (hf.imp (fun h => ⟨h.1, h.2.1⟩) (fun h => ⟨h.1, h.2.1⟩)) ((hu W' hb).mono ?_) (fun w1 hq => ?_)
  ·rintro e w' ⟨rfl, rfl⟩; exact ⟨rfl, Below.refl _ _⟩
  ·refine (h.slice w1 i j (hb.trans (hq.mono hb.size))).mono ?_
   rintro e w' ⟨rfl, hq2⟩; exact ⟨rfl, hq.trans (hq2.mono hq.size)⟩
 ·intro W' i j hb
  exact StMeasure_of (hf.imp (fun h => ⟨h.1, h.2.2⟩) (fun h => ⟨h.1, h.2.2⟩)) (fun w1 hb1 => hu w1 (hb.trans (hb1.mono hb.size))) (fun w1 hb1 => h.meas w1 i j (hb.trans (hb1.mono hb.size)))
theorem StoreIn.asks {W : World} {b : Nat} {i : Stt} {T : TypeId} {s : ByteArray} {S : Nat → Prop} (h : StoreIn W b i T s S) (hT : Tabs W) (hs : s.size ≤ 1073741824) : Asks 69 70 W (some ⟨b, 0, none⟩) s := by
 obtain ⟨-, p, h1, -, ⟨rfl, h2⟩ | ⟨rfl, h2⟩⟩ := h
 ·exact asks_store (.inl ⟨rfl, rfl, rfl⟩) (fun w1 hb => under_any b _ _ _ w1 (h1.below hb).lies) (asks_gap h2 hT hs)
 ·exact asks_store (.inr ⟨rfl, rfl, rfl⟩) (fun w1 hb => under_any b _ _ _ w1 (h1.below hb).lies) (asks_roped h2 hT hs)
theorem asks_nil {W : World} (hT : Tabs W) : Asks 69 70 W none ⟨#[]⟩ :=
 asks_store (.inl ⟨rfl, rfl, rfl⟩) (fun w1 _ => under_nil w1) (asks_gnil hT)
end Go.Proofs.YtfchglcclgcgfaaGreatDoor.Ut
