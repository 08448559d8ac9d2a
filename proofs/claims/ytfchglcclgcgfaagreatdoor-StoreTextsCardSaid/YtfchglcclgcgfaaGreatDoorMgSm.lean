/-
  What the proof of the laws S rests on: the texts RoI RoJ. Conditions: each theorem names its own.
-/
import Derived.Test.YtfchglcclgcgfaaGreatDoorMgSl
/-
 metric.Join where the first text is empty; rope: (*node).measure. Condition: the two tables of unicode/utf8 lie as laid.
-/
namespace Go.Proofs.YtfchglcclgcgfaaGreatDoor.Ut
open Go.RowKit Go.Proofs.YtfchglcclgcgfaaGreatDoor.Reg
set_option linter.unusedVariables false
set_option linter.unusedSimpArgs false

theorem measF_nil : measF ⟨#[]⟩ = zeroSm := rfl
theorem join_step (W : World) (g A : Nat) (m : Sm) (gs xs : List Value) (hg : Lies W g gs) (hA : Lies W A zero7) (hB : Lies W (A + 1) xs) (hx : xs.length = 7) (hgA : g < A) : ∃ W1, (W.setCells (A + 1) 0 m.cells7).alloc (.cells m.cells7.toArray 48) = W1 ∧ Lies W1 g gs ∧ Lies W1 A zero7 ∧ Lies W1 (A + 1) m.cells7 ∧ Chg (fun k => k = A + 1) W W1 ∧ W1.heap.size = W.heap.size + 1 := by
 have C := sets_chg (A + 1) m.cells7 0 W
 have hz : (W.setCells (A + 1) 0 m.cells7).heap.size = W.heap.size := by
  unfold Sm.cells7; simp only [World.setCells]; simp
 have D : Below (W.setCells (A + 1) 0 m.cells7).heap.size (W.setCells (A + 1) 0 m.cells7) ((W.setCells (A + 1) 0 m.cells7).alloc (.cells m.cells7.toArray 48)) := (Below.refl _ _).alloc (Nat.le_refl _) _
 refine ⟨_, rfl, (hg.chg C (by show ¬ g = A + 1; omega)).below D, (hA.chg C (by show ¬ A = A + 1; omega)).below D, ((hB.stored m.cells7 (by rw [hx]; rfl))).below D, C.then_below D, ?_⟩
 rw [← hz]; simp

set_option maxRecDepth 100000 in
set_option maxHeartbeats 4000000 in
theorem Join_two0 (b : ByteArray) (g : Nat) (w : World) (h : Lies w g (zero7 ++ (measF b).cells7)) : Calls Tryz.prog 193 #[.slice (some ⟨g, 0, none⟩) 2 2] w fun e w' => e = .returned (measF b).val ∧ Below w.heap.size w w' := by
 obtain ⟨n, hn⟩ : ∃ n, measF b = n := ⟨_, rfl⟩
 rw [hn] at h ⊢
 clear hn
 obtain ⟨W0, hW0, A0, B0, b0, hsz⟩ := boxesL2 w zero7 zero7 48 48
 have HE := Lib.hid hW0
 unfold zero7 at HE
 have G0 := h.below b0
 have hgl : g < w.heap.size := h.1
 have HB := Lib.hid b0
 have HS := Lib.hid hsz
 clear hW0 b0 h hsz
 unfold Sm.val
 go_enter Tryz.func193, Tryz.ntmps193
 go_wp2
 rw [HE.out]
 generalize hA : w.heap.size = A at *
 refine wp_loop_rounds 3 ?_
 rw [rounds_succ]
 have hgl0 : g < W0.heap.size := G0.1
 have hBl0 : A + 1 < W0.heap.size := B0.1
 obtain ⟨g0x, -⟩ := G0.2 0 _ rfl
 obtain ⟨g1x, -⟩ := G0.2 1 _ rfl
 obtain ⟨g2x, -⟩ := G0.2 2 _ rfl
 obtain ⟨g3x, -⟩ := G0.2 3 _ rfl
 obtain ⟨g4x, -⟩ := G0.2 4 _ rfl
 obtain ⟨g5x, -⟩ := G0.2 5 _ rfl
 obtain ⟨g6x, -⟩ := G0.2 6 _ rfl
 obtain ⟨g7x, -⟩ := G0.2 7 _ rfl
 obtain ⟨g8x, -⟩ := G0.2 8 _ rfl
 obtain ⟨g9x, -⟩ := G0.2 9 _ rfl
 obtain ⟨g10x, -⟩ := G0.2 10 _ rfl
 obtain ⟨g11x, -⟩ := G0.2 11 _ rfl
 obtain ⟨g12x, -⟩ := G0.2 12 _ rfl
 obtain ⟨g13x, -⟩ := G0.2 13 _ rfl
 obtain ⟨b0x, f0x⟩ := B0.2 0 _ rfl
 obtain ⟨b1x, f1x⟩ := B0.2 1 _ rfl
 obtain ⟨b2x, f2x⟩ := B0.2 2 _ rfl
 obtain ⟨b3x, f3x⟩ := B0.2 3 _ rfl
 obtain ⟨b4x, f4x⟩ := B0.2 4 _ rfl
 obtain ⟨b5x, f5x⟩ := B0.2 5 _ rfl
 obtain ⟨b6x, f6x⟩ := B0.2 6 _ rfl
 obtain ⟨W1, hW1, G1, A1, B1, C1, hs1⟩ := join_step W0 g A zeroSm _ _ G0 A0 B0 rfl hgl
 have HG1 := Lib.hid G1
 have HA1 := Lib.hid A1
 have HB1 := Lib.hid B1
 have HC1 := Lib.hid C1
 simp only [World.setCells, Sm.cells7, zeroSm] at hW1
 have HE1 := Lib.hid hW1
 have HS1 := Lib.hid hs1
 clear G0 A0 B0 G1 A1 B1 C1 hW1 hs1
 go_wp2
 rw [HE1.out]
 clear hgl0 hBl0 g0x g1x g2x g3x g4x g5x g6x g7x g8x g9x g10x g11x g12x g13x b0x f0x b1x f1x b2x f2x b3x f3x b4x f4x b5x f5x b6x f6x
 have G1 := HG1.out
 have A1 := HA1.out
 have B1 : Lies W1 (A + 1) zero7 := HB1.out
 rw [rounds_succ]
 have hgl1 : g < W1.heap.size := G1.1
 have hBl1 : A + 1 < W1.heap.size := B1.1
 obtain ⟨g0x, -⟩ := G1.2 0 _ rfl
 obtain ⟨g1x, -⟩ := G1.2 1 _ rfl
 obtain ⟨g2x, -⟩ := G1.2 2 _ rfl
 obtain ⟨g3x, -⟩ := G1.2 3 _ rfl
 obtain ⟨g4x, -⟩ := G1.2 4 _ rfl
 obtain ⟨g5x, -⟩ := G1.2 5 _ rfl
 obtain ⟨g6x, -⟩ := G1.2 6 _ rfl
 obtain ⟨g7x, -⟩ := G1.2 7 _ rfl
 obtain ⟨g8x, -⟩ := G1.2 8 _ rfl
 obtain ⟨g9x, -⟩ := G1.2 9 _ rfl
 obtain ⟨g10x, -⟩ := G1.2 10 _ rfl
 obtain ⟨g11x, -⟩ := G1.2 11 _ rfl
 obtain ⟨g12x, -⟩ := G1.2 12 _ rfl
 obtain ⟨g13x, -⟩ := G1.2 13 _ rfl
 obtain ⟨b0x, f0x⟩ := B1.2 0 _ rfl
 obtain ⟨b1x, f1x⟩ := B1.2 1 _ rfl
 obtain ⟨b2x, f2x⟩ := B1.2 2 _ rfl
 obtain ⟨b3x, f3x⟩ := B1.2 3 _ rfl
 obtain ⟨b4x, f4x⟩ := B1.2 4 _ rfl
 obtain ⟨b5x, f5x⟩ := B1.2 5 _ rfl
 obtain ⟨b6x, f6x⟩ := B1.2 6 _ rfl
 obtain ⟨W2, hW2, G2, A2, B2, C2, hs2⟩ := join_step W1 g A n _ _ G1 A1 B1 rfl hgl
 have HG2 := Lib.hid G2
 have HA2 := Lib.hid A2
 have HB2 := Lib.hid B2
 have HC2 := Lib.hid C2
 simp only [World.setCells, Sm.cells7] at hW2
 have HE2 := Lib.hid hW2
 have HS2 := Lib.hid hs2
 clear G1 A1 B1 G2 A2 B2 C2 hW2 hs2
 go_wp2
 rw [HE2.out]
 clear hgl1 hBl1 g0x g1x g2x g3x g4x g5x g6x g7x g8x g9x g10x g11x g12x g13x b0x f0x b1x f1x b2x f2x b3x f3x b4x f4x b5x f5x b6x f6x
 have G2 := HG2.out
 have A2 := HA2.out
 have B2 : Lies W2 (A + 1) n.cells7 := HB2.out
 have L := Lib.hid (A2.stored n.cells7 rfl).2
 have D4 := sets_chg A n.cells7 0 W2
 have BL : Below A w (W2.setCells A 0 n.cells7) :=
  ((((Chg.of_below (S := fun k => A ≤ k) (by rw [hA]; exact HB.out)).trans HC1.out (fun x _ h => by have : x = A + 1 := h; omega)).trans HC2.out (fun x _ h => by have : x = A + 1 := h; omega)).trans D4 (fun x _ h => by have : x = A := h; omega)).below_le (by omega) (fun _ h => h)
 have HBL := Lib.hid BL
 have hBl : A + 1 < W2.heap.size := B2.1
 obtain ⟨r0, s0⟩ := A2.2 0 _ rfl
 obtain ⟨r1, s1⟩ := A2.2 1 _ rfl
 obtain ⟨r2, s2⟩ := A2.2 2 _ rfl
 obtain ⟨r3, s3⟩ := A2.2 3 _ rfl
 obtain ⟨r4, s4⟩ := A2.2 4 _ rfl
 obtain ⟨r5, s5⟩ := A2.2 5 _ rfl
 obtain ⟨r6, s6⟩ := A2.2 6 _ rfl
 obtain ⟨t0, -⟩ := B2.2 0 _ rfl
 obtain ⟨t1, -⟩ := B2.2 1 _ rfl
 obtain ⟨t2, -⟩ := B2.2 2 _ rfl
 obtain ⟨t3, -⟩ := B2.2 3 _ rfl
 obtain ⟨t4, -⟩ := B2.2 4 _ rfl
 obtain ⟨t5, -⟩ := B2.2 5 _ rfl
 obtain ⟨t6, -⟩ := B2.2 6 _ rfl
 clear G2 A2 B2 D4 BL HB HS HE HG1 HA1 HB1 HC1 HE1 HS1 HG2 HA2 HB2 HC2 HE2 HS2
 rw [rounds_succ]
 go_wp2
 have j0 := (L.out 0 _ rfl).1
 have j1 := (L.out 1 _ rfl).1
 have j2 := (L.out 2 _ rfl).1
 have j3 := (L.out 3 _ rfl).1
 have j4 := (L.out 4 _ rfl).1
 have j5 := (L.out 5 _ rfl).1
 have j6 := (L.out 6 _ rfl).1
 simp only [Sm.cells7, World.setCells] at j0 j1 j2 j3 j4 j5 j6
 refine bodyPost_ret (v := n.val) (by simp [results, Tryz.results193, go_sem, j0, j1, j2, j3, j4, j5, j6, Sm.val]) rfl ⟨rfl, by first | exact HBL.out | (rw [hA]; exact HBL.out)⟩
theorem Join_all (a b : ByteArray) (g : Nat) (w : World) (hT : Tabs w) (ha : a.size + b.size ≤ 4294967296) (h : Lies w g ((measF a).cells7 ++ (measF b).cells7)) : Calls Tryz.prog 193 #[.slice (some ⟨g, 0, none⟩) 2 2] w fun e w' => e = .returned (measF (a ++ b)).val ∧ Below w.heap.size w w' := by
 by_cases h0 : 0 < a.size
 ·exact Join_two a b g w hT h0 ha h
 ·have : a = ⟨#[]⟩ := by
   apply ext_of_list
   exact List.eq_nil_of_length_eq_zero (by rw [← Lib.size_eq]; omega)
  subst this
  have e : (⟨#[]⟩ : ByteArray) ++ b = b := by apply ext_of_list; rw [app_list]; rfl
  rw [e]
  exact Join_two0 b g w h
end Go.Proofs.YtfchglcclgcgfaaGreatDoor.Ut
/-
 rope: (*node).measure. Condition: the two tables of unicode/utf8 lie as laid.
-/
namespace Go.Proofs.YtfchglcclgcgfaaGreatDoor.Ut
open Go.RowKit Go.Proofs.YtfchglcclgcgfaaGreatDoor.Reg
set_option linter.unusedVariables false
set_option linter.unusedSimpArgs false

def cutS (s : ByteArray) (i j : Int) : ByteArray := ⟨(cutB s i j).toArray⟩
theorem cutS_list (s : ByteArray) (i j : Int) : (cutS s i j).data.toList = cutB s i j := rfl
theorem cutS_size (s : ByteArray) (i j : Int) : (cutS s i j).size ≤ s.size := by
 have := cutB_length s i j
 rw [Lib.size_eq, cutS_list]; exact this
theorem cutS_nil {s : ByteArray} {i j : Int} (h : min j s.size ≤ max i 0) : cutS s i j = ⟨#[]⟩ := by
 apply ext_of_list; rw [cutS_list, cutB_nil h]
theorem cutS_all {s : ByteArray} {i j : Int} (h1 : max i 0 = 0) (h2 : min j (s.size : Int) = s.size) : cutS s i j = s := by
 apply ext_of_list; rw [cutS_list]; unfold cutB
 rw [h1, h2]
 simp only [Int.toNat_zero, List.drop_zero, Int.toNat_natCast, Nat.sub_zero]
 exact List.take_of_length_le (by rw [← Lib.size_eq]; exact Nat.le_refl _)
theorem cutS_extract {s : ByteArray} {i j : Int} {f t : Nat} (h1 : max i 0 = (f : Int)) (h2 : min j (s.size : Int) = (t : Int)) : cutS s i j = s.extract f t := by
 apply ext_of_list; rw [cutS_list, extract_list]; unfold cutB
 rw [h1, h2]; simp only [Int.toNat_natCast]
theorem cutS_app (a b : ByteArray) (i j : Int) (h : max i 0 < min j ((a ++ b).size : Int)) : cutS (a ++ b) i j = cutS a (max i 0) (min j ((a ++ b).size : Int)) ++ cutS b (max i 0 - a.size) (min j ((a ++ b).size : Int) - a.size) := by
 apply ext_of_list; rw [app_list, cutS_list, cutS_list, cutS_list, cutB_app _ _ _ _ h]
theorem boxL1 (w : World) (a : List Value) (t : TypeId) : ∃ W0, w.alloc (.cells a.toArray t) = W0 ∧ Lies W0 w.heap.size a ∧ Below w.heap.size w W0 ∧ W0.heap.size = w.heap.size + 1 :=
 ⟨_, rfl, Lies.new w a t, (Below.refl _ _).alloc (Nat.le_refl _) _, by simp⟩

/-- What measure answers of a tree. -/
def MeasTo (t : Tr) : Prop := ∀ (X : Nat) (i j : Int) (w : World), Tabs w → IsTr w X t → t.text.size ≤ 4294967296 → (-1099511627776 ≤ i ∧ i ≤ 1099511627776) → (-1099511627776 ≤ j ∧ j ≤ 1099511627776) →
  Calls Tryz.prog 251 #[ptr X, .int .i64 i, .int .i64 j] w fun e w' => e = .returned (measF (cutS t.text i j)).val ∧ Below w.heap.size w w'
set_option maxRecDepth 100000 in
set_option maxHeartbeats 4000000 in
theorem meas_nil (t : Tr) (X : Nat) (i j : Int) (w : World) (hT : Tabs w) (h : IsTr w X t) (hs : t.text.size ≤ 4294967296) (hlt : min j (t.text.size : Int) ≤ max i 0) :
  Calls Tryz.prog 251 #[ptr X, .int .i64 i, .int .i64 j] w fun e w' => e = .returned (measF (cutS t.text i j)).val ∧ Below w.heap.size w w' := by
 obtain ⟨lv, rv, sv, hL⟩ := h.node
 obtain ⟨W0, hW0, A0, b0, hsz⟩ := boxL1 w zero7 48
 have HE := Lib.hid hW0
 unfold zero7 at HE
 have HR := Lib.hid A0
 have HB := Lib.hid b0
 have HS := Lib.hid hsz
 have HT := Lib.hid (tabs_below hT b0)
 have HL := Lib.hid (hL.below b0)
 have c3 : W0.cell? ⟨X, 3, none⟩ = some (.int .i64 t.text.size) := (HL.out.2 3 _ rfl).1
 have c0 := (HL.out.2 0 _ rfl).1
 have hXl := hL.1
 rw [cutS_nil hlt, measF_nil]
 obtain ⟨n, hn⟩ : ∃ n, t.text.size = n := ⟨_, rfl⟩
 rw [hn] at c3 hlt hs
 obtain ⟨f, hf⟩ : ∃ f, max i 0 = f := ⟨_, rfl⟩
 obtain ⟨u, hu⟩ : ∃ u, min j (n : Int) = u := ⟨_, rfl⟩
 rw [hf, hu] at hlt
 clear hW0 A0 b0 hsz hT h hL hn
 unfold ptr
 go_enter Tryz.func251, Tryz.ntmps251
 go_wp2
 rw [HE.out]
 go_quiet (fail)
 clear c3 c0
 have hD := Drawn.below (w := W0) nq
 have HL := Lib.hid (HL.out.below hD)
 have HR := Lib.hid (HR.out.below hD)
 have HT := Lib.hid (tabs_below HT.out hD)
 have HB := Lib.hid (HB.out.trans (hD.mono HB.out.size))
 clear hD
 obtain ⟨W1, hW⟩ : ∃ W, W0.drewN nq = W := ⟨_, rfl⟩
 rw [hW] at HL HR HT HB
 rw [hW]
 clear hW
 have L := Lib.hid (HR.out.stored zero7 rfl).2
 have D4 := sets_chg w.heap.size zero7 0 W1
 have BL : Below w.heap.size w (W1.setCells w.heap.size 0 zero7) :=
  ((Chg.of_below (S := fun k => w.heap.size ≤ k) HB.out).trans D4 (fun x _ h => by have : x = w.heap.size := h; omega)).below_le (by omega) (fun _ h => h)
 have HBL := Lib.hid BL
 obtain ⟨r0, s0⟩ := HR.out.2 0 _ rfl
 obtain ⟨r1, s1⟩ := HR.out.2 1 _ rfl
 obtain ⟨r2, s2⟩ := HR.out.2 2 _ rfl
 obtain ⟨r3, s3⟩ := HR.out.2 3 _ rfl
 obtain ⟨r4, s4⟩ := HR.out.2 4 _ rfl
 obtain ⟨r5, s5⟩ := HR.out.2 5 _ rfl
 obtain ⟨r6, s6⟩ := HR.out.2 6 _ rfl
 clear D4 BL
 go_wp2
 have j0 := (L.out 0 _ rfl).1
 have j1 := (L.out 1 _ rfl).1
 have j2 := (L.out 2 _ rfl).1
 have j3 := (L.out 3 _ rfl).1
 have j4 := (L.out 4 _ rfl).1
 have j5 := (L.out 5 _ rfl).1
 have j6 := (L.out 6 _ rfl).1
 simp only [Sm.cells7, zero7, World.setCells] at j0 j1 j2 j3 j4 j5 j6
 refine bodyPost_ret (v := zeroSm.val) (by simp [results, Tryz.results251, go_sem, j0, j1, j2, j3, j4, j5, j6, Sm.val, zeroSm]) rfl ⟨rfl, HBL.out⟩

set_option maxRecDepth 100000 in
set_option maxHeartbeats 4000000 in
theorem meas_all (t : Tr) (X : Nat) (i j : Int) (w : World) (hT : Tabs w) (h : IsTr w X t) (hs : t.text.size ≤ 4294967296) (hf : max i 0 = 0) (hu : min j (t.text.size : Int) = t.text.size) (h0 : 0 < t.text.size) :
  Calls Tryz.prog 251 #[ptr X, .int .i64 i, .int .i64 j] w fun e w' => e = .returned (measF (cutS t.text i j)).val ∧ Below w.heap.size w w' := by
 obtain ⟨lv, rv, sv, hL⟩ := h.node
 obtain ⟨W0, hW0, A0, b0, hsz⟩ := boxL1 w zero7 48
 have HE := Lib.hid hW0
 unfold zero7 at HE
 have HR := Lib.hid A0
 have HB := Lib.hid b0
 have HS := Lib.hid hsz
 have HT := Lib.hid (tabs_below hT b0)
 have HL := Lib.hid (hL.below b0)
 have c3 : W0.cell? ⟨X, 3, none⟩ = some (.int .i64 t.text.size) := (HL.out.2 3 _ rfl).1
 have c0 := (HL.out.2 0 _ rfl).1
 have hXl := hL.1
 rw [cutS_all hf hu]
 have hlt : ¬ (measF t.text).bytes ≤ 0 := by show ¬ (t.text.size : Int) ≤ 0; omega
 have hq : ((measF t.text).bytes == (measF t.text).bytes) = true := by simp
 have hu' : min j (measF t.text).bytes = (measF t.text).bytes := hu
 replace c3 : W0.cell? ⟨X, 3, none⟩ = some (.int .i64 (measF t.text).bytes) := c3
 obtain ⟨m, hm⟩ : ∃ m, measF t.text = m := ⟨_, rfl⟩
 rw [hm] at HL hlt hq hu' c3
 rw [hm]
 clear hm hu h0 hs
 clear hW0 A0 b0 hsz hT h hL
 unfold ptr
 go_enter Tryz.func251, Tryz.ntmps251
 go_wp2
 rw [HE.out]
 go_quiet (fail)
 clear c3 c0
 have hD := Drawn.below (w := W0) nq
 have HL := Lib.hid (HL.out.below hD)
 have HR := Lib.hid (HR.out.below hD)
 have HT := Lib.hid (tabs_below HT.out hD)
 have HB := Lib.hid (HB.out.trans (hD.mono HB.out.size))
 clear hD
 obtain ⟨W1, hW⟩ : ∃ W, W0.drewN nq = W := ⟨_, rfl⟩
 rw [hW] at HL HR HT HB
 rw [hW]
 clear hW
 obtain ⟨q2, q3, q4, q5, q6, q7, q8, q9⟩ := nodeSum HL.out
 have L := Lib.hid (HR.out.stored m.cells7 rfl).2
 have D4 := sets_chg w.heap.size m.cells7 0 W1
 have BL : Below w.heap.size w (W1.setCells w.heap.size 0 m.cells7) :=
  ((Chg.of_below (S := fun k => w.heap.size ≤ k) HB.out).trans D4 (fun x _ h => by have : x = w.heap.size := h; omega)).below_le (by omega) (fun _ h => h)
 have HBL := Lib.hid BL
 obtain ⟨r0, s0⟩ := HR.out.2 0 _ rfl
 obtain ⟨r1, s1⟩ := HR.out.2 1 _ rfl
 obtain ⟨r2, s2⟩ := HR.out.2 2 _ rfl
 obtain ⟨r3, s3⟩ := HR.out.2 3 _ rfl
 obtain ⟨r4, s4⟩ := HR.out.2 4 _ rfl
 obtain ⟨r5, s5⟩ := HR.out.2 5 _ rfl
 obtain ⟨r6, s6⟩ := HR.out.2 6 _ rfl
 clear D4 BL
 go_wp2
 have j0 := (L.out 0 _ rfl).1
 have j1 := (L.out 1 _ rfl).1
 have j2 := (L.out 2 _ rfl).1
 have j3 := (L.out 3 _ rfl).1
 have j4 := (L.out 4 _ rfl).1
 have j5 := (L.out 5 _ rfl).1
 have j6 := (L.out 6 _ rfl).1
 simp only [Sm.cells7, zero7, World.setCells] at j0 j1 j2 j3 j4 j5 j6
 refine bodyPost_ret (v := m.val) (by simp [results, Tryz.results251, go_sem, j0, j1, j2, j3, j4, j5, j6, Sm.val, zeroSm]) rfl ⟨rfl, HBL.out⟩

set_option maxRecDepth 100000 in
set_option maxHeartbeats 4000000 in
theorem meas_leaf (s : ByteArray) (X : Nat) (i j : Int) (w : World) (hT : Tabs w) (h : IsTr w X (.leaf s)) (hs : s.size ≤ 4294967296) (hlt : max i 0 < min j (s.size : Int)) (hne : ¬ (max i 0 = 0 ∧ min j (s.size : Int) = s.size)) :
  Calls Tryz.prog 251 #[ptr X, .int .i64 i, .int .i64 j] w fun e w' => e = .returned (measF (cutS s i j)).val ∧ Below w.heap.size w w' := by
 have hL : Lies w X (nodeV (.pointer none) (.pointer none) 0 (measF s) s) := Blk.lies h
 obtain ⟨W0, hW0, A0, b0, hsz⟩ := boxL1 w zero7 48
 have HE := Lib.hid hW0
 unfold zero7 at HE
 have HR := Lib.hid A0
 have HB := Lib.hid b0
 have HT := Lib.hid (tabs_below hT b0)
 have HL := Lib.hid (hL.below b0)
 have c3 : W0.cell? ⟨X, 3, none⟩ = some (.int .i64 s.size) := (HL.out.2 3 _ rfl).1
 obtain ⟨f, hf⟩ : ∃ f, max i 0 = f := ⟨_, rfl⟩
 obtain ⟨u, hu⟩ : ∃ u, min j (s.size : Int) = u := ⟨_, rfl⟩
 rw [hf, hu] at hlt hne
 have f0 : 0 ≤ f := by omega
 have t1 : u ≤ (s.size : Int) := by omega
 obtain ⟨f', rfl⟩ : ∃ f' : Nat, f = f' := ⟨f.toNat, by omega⟩
 obtain ⟨u', rfl⟩ : ∃ u' : Nat, u = u' := ⟨u.toNat, by omega⟩
 rw [cutS_extract hf hu]
 have q1 : (f' : Int) ≤ (u' : Int) := by omega
 have q2 : (u' : Int) ≤ (s.size : Int) := t1
 have hlt' : ¬ (u' : Int) ≤ (f' : Int) := by omega
 have hes : (s.extract f' u').size ≤ s.size := by simp [ByteArray.size_extract]; omega
 have hxl : X < w.heap.size := hL.1
 obtain ⟨E, hE⟩ : ∃ E, s.extract f' u' = E := ⟨_, rfl⟩
 rw [hE]
 have HEE := Lib.hid hE
 rw [hE] at hes
 clear hW0 A0 b0 hsz hT h hL hE
 unfold ptr
 rcases (by omega : ((f' : Int) = 0 ∧ (u' : Int) ≠ (s.size : Int)) ∨ (f' : Int) ≠ 0) with hc | hc
 all_goals
  have hq : ((f' : Int) == 0) = decide ((f' : Int) = 0) := rfl
  have hqu : ((u' : Int) == (s.size : Int)) = decide ((u' : Int) = (s.size : Int)) := rfl
  first
   | rw [decide_eq_true hc.1] at hq; rw [decide_eq_false hc.2] at hqu
   | rw [decide_eq_false hc] at hq; clear hqu
  clear hc hne
  go_enter Tryz.func251, Tryz.ntmps251
  go_wp2
  rw [HE.out]
  go_quiet (fail)
  clear c3
  have hD := Drawn.below (w := W0) nq
  have HL := Lib.hid (HL.out.below hD)
  have HR := Lib.hid (HR.out.below hD)
  have HT := Lib.hid (tabs_below HT.out hD)
  have HB := Lib.hid (HB.out.trans (hD.mono HB.out.size))
  clear hD
  obtain ⟨W1, hW⟩ : ∃ W, W0.drewN nq = W := ⟨_, rfl⟩
  rw [hW] at HL HR HT HB
  rw [hW]
  clear hW
  have c0 := (HL.out.2 0 _ rfl).1
  have c3 : W1.cell? ⟨X, 3, none⟩ = some (.int .i64 s.size) := (HL.out.2 3 _ rfl).1
  have c10 := (HL.out.2 10 _ rfl).1
  go_wp2_with fail
  have hEE := HEE.out
  rw [hEE]
  clear hEE
  refine (Measure_any E W1 HT.out (by omega)).mono ?_
  rintro e W2 ⟨rfl, hb⟩
  obtain ⟨m, hm⟩ : ∃ m, measF E = m := ⟨_, rfl⟩
  rw [hm]
  have HM := Lib.hid hm
  have HR := Lib.hid (HR.out.below hb)
  have HB := Lib.hid (HB.out.trans (hb.mono HB.out.size))
  clear hb
  clear c0 c3 c10 hm
  unfold Sm.val
  have L := Lib.hid (HR.out.stored m.cells7 rfl).2
  have D4 := sets_chg w.heap.size m.cells7 0 W2
  have BL : Below w.heap.size w (W2.setCells w.heap.size 0 m.cells7) :=
   ((Chg.of_below (S := fun k => w.heap.size ≤ k) HB.out).trans D4 (fun x _ h => by have : x = w.heap.size := h; omega)).below_le (by omega) (fun _ h => h)
  have HBL := Lib.hid BL
  obtain ⟨r0, s0⟩ := HR.out.2 0 _ rfl
  obtain ⟨r1, s1⟩ := HR.out.2 1 _ rfl
  obtain ⟨r2, s2⟩ := HR.out.2 2 _ rfl
  obtain ⟨r3, s3⟩ := HR.out.2 3 _ rfl
  obtain ⟨r4, s4⟩ := HR.out.2 4 _ rfl
  obtain ⟨r5, s5⟩ := HR.out.2 5 _ rfl
  obtain ⟨r6, s6⟩ := HR.out.2 6 _ rfl
  clear D4 BL
  go_wp2
  have j0 := (L.out 0 _ rfl).1
  have j1 := (L.out 1 _ rfl).1
  have j2 := (L.out 2 _ rfl).1
  have j3 := (L.out 3 _ rfl).1
  have j4 := (L.out 4 _ rfl).1
  have j5 := (L.out 5 _ rfl).1
  have j6 := (L.out 6 _ rfl).1
  simp only [Sm.cells7, zero7, World.setCells] at j0 j1 j2 j3 j4 j5 j6
  refine bodyPost_ret (v := m.val) (by simp [results, Tryz.results251, go_sem, j0, j1, j2, j3, j4, j5, j6, Sm.val, zeroSm]) rfl ⟨by rw [← HM.out], HBL.out⟩
def VMeas (X k1 k2 A : Nat) (f u k : Int) (a b m : Sm) : Nat → Value → World → Prop := fun d x w => match d with
 | 60 => x = .pointer (some ⟨X, 0, none⟩)
 | 61 => x = .pointer (some ⟨X, 0, none⟩)
 | 62 => x = .pointer (some ⟨X, 0, none⟩)
 | 63 => x = .pointer (some ⟨k1, 0, none⟩)
 | 64 => x = .int .i64 f
 | 65 => x = .int .i64 u
 | 66 => x = .agg #[.int .i64 a.bytes, .int .i64 a.units, .int .i64 a.clusters, .int .i64 a.cells, .int .i64 a.newlines, .string a.head, .string a.tail]
 | 67 => x = .pointer (some ⟨X, 0, none⟩)
 | 68 => x = .pointer (some ⟨X, 0, none⟩)
 | 69 => x = .pointer (some ⟨X, 1, none⟩)
 | 70 => x = .pointer (some ⟨k2, 0, none⟩)
 | 71 => x = .int .i64 f
 | 72 => x = .int .i64 k
 | 73 => x = .int .i64 (f - k)
 | 74 => x = .int .i64 u
 | 75 => x = .int .i64 k
 | 76 => x = .int .i64 (u - k)
 | 77 => x = .agg #[.int .i64 b.bytes, .int .i64 b.units, .int .i64 b.clusters, .int .i64 b.cells, .int .i64 b.newlines, .string b.head, .string b.tail]
 | 78 => ∃ g, x = .slice (some ⟨g, 0, none⟩) 2 2 ∧ Lies w g (a.cells7 ++ b.cells7)
 | 79 => x = .agg #[.int .i64 m.bytes, .int .i64 m.units, .int .i64 m.clusters, .int .i64 m.cells, .int .i64 m.newlines, .string m.head, .string m.tail]
 | _ => True
theorem VMeas_mono (X k1 k2 A : Nat) (f u k : Int) (a b m : Sm) : ∀ d x w w', VMeas X k1 k2 A f u k a b m d x w → Below w.heap.size w w' → VMeas X k1 k2 A f u k a b m d x w' := by
 intro d x w w' h hb
 unfold VMeas at *
 split <;> first | exact h | exact trivial | skip
 all_goals (obtain ⟨g, h1, h2⟩ := h; exact ⟨g, h1, h2.below hb⟩)
theorem ptr_eq (b : Nat) : ptr b = .pointer (some ⟨b, 0, none⟩) := rfl
set_option maxRecDepth 100000 in
set_option maxHeartbeats 4000000 in
theorem meas_knot (tl tr : Tr) (ihl : MeasTo tl) (ihr : MeasTo tr) (X x y : Nat) (i j : Int) (w : World) (hT : Tabs w) (hx : IsTr w x tl) (hy : IsTr w y tr) (hL : Lies w X (nodeV (ptr x) (ptr y) ((Tr.knot tl tr).ht : Nat) (measF (tl.text ++ tr.text)) ⟨#[]⟩)) (hs : (tl.text ++ tr.text).size ≤ 4294967296) (hlt : max i 0 < min j ((tl.text ++ tr.text).size : Int)) (hne : ¬ (max i 0 = 0 ∧ min j ((tl.text ++ tr.text).size : Int) = (tl.text ++ tr.text).size)) :
  Calls Tryz.prog 251 #[ptr X, .int .i64 i, .int .i64 j] w fun e w' => e = .returned (measF (cutS (tl.text ++ tr.text) i j)).val ∧ Below w.heap.size w w' := by
 obtain ⟨W0, hW0, A0, b0, hsz⟩ := boxL1 w zero7 48
 have HE := Lib.hid hW0
 unfold zero7 at HE
 have HR := Lib.hid A0
 have HB := Lib.hid b0
 have HT := Lib.hid (tabs_below hT b0)
 have HL := Lib.hid (hL.below b0)
 have HX := Lib.hid (hx.below b0)
 have HY := Lib.hid (hy.below b0)
 have IL := Lib.hid ihl
 have IR := Lib.hid ihr
 have happ := cutS_app tl.text tr.text i j hlt
 have hss : (tl.text ++ tr.text).size = tl.text.size + tr.text.size := ByteArray.size_append
 have c3 : W0.cell? ⟨X, 3, none⟩ = some (.int .i64 (tl.text ++ tr.text).size) := (HL.out.2 3 _ rfl).1
 obtain ⟨n, hn⟩ : ∃ n, (tl.text ++ tr.text).size = n := ⟨_, rfl⟩
 have HN := Lib.hid hn
 rw [hn] at c3 hlt hne happ hs hss
 obtain ⟨f, hf⟩ : ∃ f, max i 0 = f := ⟨_, rfl⟩
 obtain ⟨u, hu⟩ : ∃ u, min j (n : Int) = u := ⟨_, rfl⟩
 rw [hf, hu] at hlt hne happ
 rw [happ]
 have f0 : 0 ≤ f := by omega
 have t1 : u ≤ (n : Int) := by omega
 have hlt' : ¬ u ≤ f := by omega
 have hz1 : tl.text.size ≤ 4294967296 := by omega
 have hz2 : tr.text.size ≤ 4294967296 := by omega
 have hu2 : u ≤ 4294967296 := by omega
 have hf2 : f ≤ 4294967296 := by omega
 have z1 := cutS_size tl.text f u
 have z2 := cutS_size tr.text (f - tl.text.size) (u - tl.text.size)
 have hJ : (cutS tl.text f u).size + (cutS tr.text (f - tl.text.size) (u - tl.text.size)).size ≤ 4294967296 := by omega
 have IL2 := Lib.hid (fun W hT hX => IL.out x f u W hT hX hz1 ⟨by omega, by omega⟩ ⟨by omega, by omega⟩)
 have IR2 := Lib.hid (fun W hT hX => IR.out y (f - tl.text.size) (u - tl.text.size) W hT hX hz2 ⟨by omega, by omega⟩ ⟨by omega, by omega⟩)
 obtain ⟨ta, hta⟩ : ∃ ta, cutS tl.text f u = ta := ⟨_, rfl⟩
 obtain ⟨tb, htb⟩ : ∃ tb, cutS tr.text (f - tl.text.size) (u - tl.text.size) = tb := ⟨_, rfl⟩
 rw [hta] at IL2 hJ
 rw [htb] at IR2 hJ
 rw [hta, htb]
 obtain ⟨m, hm⟩ : ∃ m, measF (ta ++ tb) = m := ⟨_, rfl⟩
 have HM := Lib.hid hm
 rw [hm]
 obtain ⟨a, ha⟩ : ∃ a, measF ta = a := ⟨_, rfl⟩
 obtain ⟨b, hb⟩ : ∃ b, measF tb = b := ⟨_, rfl⟩
 rw [ha] at IL2
 rw [hb] at IR2
 have HAa := Lib.hid ha
 have HBb := Lib.hid hb
 obtain ⟨k, hk⟩ : ∃ k : Int, (tl.text.size : Int) = k := ⟨_, rfl⟩
 rw [hk] at IR2
 have HK := Lib.hid hk
 have k0 : 0 ≤ k := by omega
 have k1 : k ≤ 4294967296 := by omega
 have hxl : X < w.heap.size := hL.1
 clear hW0 A0 b0 hsz hT hL hn hx hy ihl ihr IL IR happ hta htb hm ha hb z1 z2 hz1 hz2 hss hk
 rcases (by omega : (f = 0 ∧ u ≠ (n : Int)) ∨ f ≠ 0) with hc | hc
 all_goals
  have hq : (f == 0) = decide (f = 0) := rfl
  have hqu : (u == (n : Int)) = decide (u = (n : Int)) := rfl
  first
   | rw [decide_eq_true hc.1] at hq; rw [decide_eq_false hc.2] at hqu
   | rw [decide_eq_false hc] at hq; clear hqu
  clear hc hne
  unfold ptr
  go_enter Tryz.func251, Tryz.ntmps251
  go_wp2
  rw [HE.out]
  go_quiet (fail)
  clear c3
  have hD := Drawn.below (w := W0) nq
  have HL := Lib.hid (HL.out.below hD)
  have HR := Lib.hid (HR.out.below hD)
  have HX := Lib.hid (HX.out.below hD)
  have HY := Lib.hid (HY.out.below hD)
  have HT := Lib.hid (tabs_below HT.out hD)
  have HB := Lib.hid (HB.out.trans (hD.mono HB.out.size))
  clear hD
  obtain ⟨W1, hW⟩ : ∃ W, W0.drewN nq = W := ⟨_, rfl⟩
  rw [hW] at HL HR HX HY HT HB
  rw [hW]
  clear hW
  have c0 := (HL.out.2 0 _ rfl).1
  have c3 : W1.cell? ⟨X, 3, none⟩ = some (.int .i64 (tl.text ++ tr.text).size) := (HL.out.2 3 _ rfl).1
  rw [HN.out] at c3
  have d3 := HX.out.sumBytes
  rw [ptr_eq] at c0
  rw [HK.out] at d3
  go_wp2
  clear c0 c3 d3
  have e73 : IntKind.i64.wrap (f - k) = f - k := IntWalk.i64_in _ (by omega)
  have e76 : IntKind.i64.wrap (u - k) = u - k := IntWalk.i64_in _ (by omega)
  have E73 := Lib.hid e73
  have E76 := Lib.hid e76
  clear e73 e76
  have hX := HL.out.1
  refine wp_held_far mixed (VMeas X x y w.heap.size f u k a b m) (VMeas_mono _ _ _ _ _ _ _ _ _ _) (by kernel_rfl) [60, 61, 62, 63, 64, 65, 66, 67, 68, 69, 70, 71, 72, 73, 74, 75, 76, 77, 78, 79] (by kernel_rfl) 20 (by kernel_rfl) (by kernel_rfl) (by kernel_rfl) (by kernel_rfl) ?_ ?_
  ·intro j hj
   have hj' : j < 20 := hj
   rcases (by omega : j = 0 ∨ j = 1 ∨ j = 2 ∨ j = 3 ∨ j = 4 ∨ j = 5 ∨ j = 6 ∨ j = 7 ∨ j = 8 ∨ j = 9 ∨ j = 10 ∨ j = 11 ∨ j = 12 ∨ j = 13 ∨ j = 14 ∨ j = 15 ∨ j = 16 ∨ j = 17 ∨ j = 18 ∨ j = 19) with rfl | rfl | rfl | rfl | rfl | rfl | rfl | rfl | rfl | rfl | rfl | rfl | rfl | rfl | rfl | rfl | rfl | rfl | rfl | rfl
   ·(refine owes_val (L := [(0, false)]) rfl rfl rfl (by kernel_rfl) ?_; intro a' w' hb' hfacts; obtain ⟨hf0, -⟩ := hfacts; replace hf0 : a'.tmps[0]?.getD undef = .pointer (some ⟨X, 0, none⟩) := hf0)
    have p0 := ((HL.out.below hb').2 0 _ rfl).1; have p1 := ((HL.out.below hb').2 1 _ rfl).1; rw [ptr_eq] at p0 p1
    (go_simp; first | exact ⟨_, rfl, Br _, rfl⟩ | exact ⟨_, rfl, Br _, trivial⟩ | exact ⟨_, rfl, Ba _ _, trivial⟩ | exact ⟨_, rfl, Br _, congrArg (Value.int _) (IntWalk.i64_in _ (by omega))⟩)
   ·(refine owes_val (L := [(60, true)]) rfl rfl rfl (by kernel_rfl) ?_; intro a' w' hb' hfacts; obtain ⟨hf60, -⟩ := hfacts; try simp only [VMeas] at hf60)
    have p0 := ((HL.out.below hb').2 0 _ rfl).1; have p1 := ((HL.out.below hb').2 1 _ rfl).1; rw [ptr_eq] at p0 p1
    (go_simp; first | exact ⟨_, rfl, Br _, rfl⟩ | exact ⟨_, rfl, Br _, trivial⟩ | exact ⟨_, rfl, Ba _ _, trivial⟩ | exact ⟨_, rfl, Br _, congrArg (Value.int _) (IntWalk.i64_in _ (by omega))⟩)
   ·(refine owes_val (L := [(61, true)]) rfl rfl rfl (by kernel_rfl) ?_; intro a' w' hb' hfacts; obtain ⟨hf61, -⟩ := hfacts; try simp only [VMeas] at hf61)
    have p0 := ((HL.out.below hb').2 0 _ rfl).1; have p1 := ((HL.out.below hb').2 1 _ rfl).1; rw [ptr_eq] at p0 p1
    (go_simp; first | exact ⟨_, rfl, Br _, rfl⟩ | exact ⟨_, rfl, Br _, trivial⟩ | exact ⟨_, rfl, Ba _ _, trivial⟩ | exact ⟨_, rfl, Br _, congrArg (Value.int _) (IntWalk.i64_in _ (by omega))⟩)
   ·(refine owes_val (L := [(62, true)]) rfl rfl rfl (by kernel_rfl) ?_; intro a' w' hb' hfacts; obtain ⟨hf62, -⟩ := hfacts; try simp only [VMeas] at hf62)
    have p0 := ((HL.out.below hb').2 0 _ rfl).1; have p1 := ((HL.out.below hb').2 1 _ rfl).1; rw [ptr_eq] at p0 p1
    (go_simp; first | exact ⟨_, rfl, Br _, rfl⟩ | exact ⟨_, rfl, Br _, trivial⟩ | exact ⟨_, rfl, Ba _ _, trivial⟩ | exact ⟨_, rfl, Br _, congrArg (Value.int _) (IntWalk.i64_in _ (by omega))⟩)
   ·(refine owes_val (L := [(1, false)]) rfl rfl rfl (by kernel_rfl) ?_; intro a' w' hb' hfacts; obtain ⟨hf1, -⟩ := hfacts; replace hf1 : a'.tmps[1]?.getD undef = .int .i64 f := hf1)
    have p0 := ((HL.out.below hb').2 0 _ rfl).1; have p1 := ((HL.out.below hb').2 1 _ rfl).1; rw [ptr_eq] at p0 p1
    (go_simp; first | exact ⟨_, rfl, Br _, rfl⟩ | exact ⟨_, rfl, Br _, trivial⟩ | exact ⟨_, rfl, Ba _ _, trivial⟩ | exact ⟨_, rfl, Br _, congrArg (Value.int _) (IntWalk.i64_in _ (by omega))⟩)
   ·(refine owes_val (L := [(2, false)]) rfl rfl rfl (by kernel_rfl) ?_; intro a' w' hb' hfacts; obtain ⟨hf2, -⟩ := hfacts; replace hf2 : a'.tmps[2]?.getD undef = .int .i64 u := hf2)
    have p0 := ((HL.out.below hb').2 0 _ rfl).1; have p1 := ((HL.out.below hb').2 1 _ rfl).1; rw [ptr_eq] at p0 p1
    (go_simp; first | exact ⟨_, rfl, Br _, rfl⟩ | exact ⟨_, rfl, Br _, trivial⟩ | exact ⟨_, rfl, Ba _ _, trivial⟩ | exact ⟨_, rfl, Br _, congrArg (Value.int _) (IntWalk.i64_in _ (by omega))⟩)
   ·(refine owes_val (L := [(63, true), (64, true), (65, true)]) rfl rfl rfl (by kernel_rfl) ?_; intro a' w' hb' hfacts; obtain ⟨hf63, hf64, hf65, -⟩ := hfacts; try simp only [VMeas] at hf63; try simp only [VMeas] at hf64; try simp only [VMeas] at hf65)
    go_simp
    refine (IL2.out _ (tabs_below HT.out hb') (HX.out.below hb')).mono ?_
    rintro e w3 ⟨rfl, hb3⟩
    exact ⟨_, rfl, hb3, rfl⟩
   ·(refine owes_val (L := [(0, false)]) rfl rfl rfl (by kernel_rfl) ?_; intro a' w' hb' hfacts; obtain ⟨hf0, -⟩ := hfacts; replace hf0 : a'.tmps[0]?.getD undef = .pointer (some ⟨X, 0, none⟩) := hf0)
    have p0 := ((HL.out.below hb').2 0 _ rfl).1; have p1 := ((HL.out.below hb').2 1 _ rfl).1; rw [ptr_eq] at p0 p1
    (go_simp; first | exact ⟨_, rfl, Br _, rfl⟩ | exact ⟨_, rfl, Br _, trivial⟩ | exact ⟨_, rfl, Ba _ _, trivial⟩ | exact ⟨_, rfl, Br _, congrArg (Value.int _) (IntWalk.i64_in _ (by omega))⟩)
   ·(refine owes_val (L := [(67, true)]) rfl rfl rfl (by kernel_rfl) ?_; intro a' w' hb' hfacts; obtain ⟨hf67, -⟩ := hfacts; try simp only [VMeas] at hf67)
    have p0 := ((HL.out.below hb').2 0 _ rfl).1; have p1 := ((HL.out.below hb').2 1 _ rfl).1; rw [ptr_eq] at p0 p1
    (go_simp; first | exact ⟨_, rfl, Br _, rfl⟩ | exact ⟨_, rfl, Br _, trivial⟩ | exact ⟨_, rfl, Ba _ _, trivial⟩ | exact ⟨_, rfl, Br _, congrArg (Value.int _) (IntWalk.i64_in _ (by omega))⟩)
   ·(refine owes_val (L := [(68, true)]) rfl rfl rfl (by kernel_rfl) ?_; intro a' w' hb' hfacts; obtain ⟨hf68, -⟩ := hfacts; try simp only [VMeas] at hf68)
    have p0 := ((HL.out.below hb').2 0 _ rfl).1; have p1 := ((HL.out.below hb').2 1 _ rfl).1; rw [ptr_eq] at p0 p1
    (go_simp; first | exact ⟨_, rfl, Br _, rfl⟩ | exact ⟨_, rfl, Br _, trivial⟩ | exact ⟨_, rfl, Ba _ _, trivial⟩ | exact ⟨_, rfl, Br _, congrArg (Value.int _) (IntWalk.i64_in _ (by omega))⟩)
   ·(refine owes_val (L := [(69, true)]) rfl rfl rfl (by kernel_rfl) ?_; intro a' w' hb' hfacts; obtain ⟨hf69, -⟩ := hfacts; try simp only [VMeas] at hf69)
    have p0 := ((HL.out.below hb').2 0 _ rfl).1; have p1 := ((HL.out.below hb').2 1 _ rfl).1; rw [ptr_eq] at p0 p1
    (go_simp; first | exact ⟨_, rfl, Br _, rfl⟩ | exact ⟨_, rfl, Br _, trivial⟩ | exact ⟨_, rfl, Ba _ _, trivial⟩ | exact ⟨_, rfl, Br _, congrArg (Value.int _) (IntWalk.i64_in _ (by omega))⟩)
   ·(refine owes_val (L := [(1, false)]) rfl rfl rfl (by kernel_rfl) ?_; intro a' w' hb' hfacts; obtain ⟨hf1, -⟩ := hfacts; replace hf1 : a'.tmps[1]?.getD undef = .int .i64 f := hf1)
    have p0 := ((HL.out.below hb').2 0 _ rfl).1; have p1 := ((HL.out.below hb').2 1 _ rfl).1; rw [ptr_eq] at p0 p1
    (go_simp; first | exact ⟨_, rfl, Br _, rfl⟩ | exact ⟨_, rfl, Br _, trivial⟩ | exact ⟨_, rfl, Ba _ _, trivial⟩ | exact ⟨_, rfl, Br _, congrArg (Value.int _) (IntWalk.i64_in _ (by omega))⟩)
   ·(refine owes_val (L := [(7, false)]) rfl rfl rfl (by kernel_rfl) ?_; intro a' w' hb' hfacts; obtain ⟨hf7, -⟩ := hfacts; replace hf7 : a'.tmps[7]?.getD undef = .int .i64 k := hf7)
    have p0 := ((HL.out.below hb').2 0 _ rfl).1; have p1 := ((HL.out.below hb').2 1 _ rfl).1; rw [ptr_eq] at p0 p1
    (go_simp; first | exact ⟨_, rfl, Br _, rfl⟩ | exact ⟨_, rfl, Br _, trivial⟩ | exact ⟨_, rfl, Ba _ _, trivial⟩ | exact ⟨_, rfl, Br _, congrArg (Value.int _) (IntWalk.i64_in _ (by omega))⟩)
   ·(refine owes_val (L := [(71, true), (72, true)]) rfl rfl rfl (by kernel_rfl) ?_; intro a' w' hb' hfacts; obtain ⟨hf71, hf72, -⟩ := hfacts; try simp only [VMeas] at hf71; try simp only [VMeas] at hf72)
    go_simp
    exact ⟨_, rfl, Below.refl _ _, congrArg (Value.int _) E73.out⟩
   ·(refine owes_val (L := [(2, false)]) rfl rfl rfl (by kernel_rfl) ?_; intro a' w' hb' hfacts; obtain ⟨hf2, -⟩ := hfacts; replace hf2 : a'.tmps[2]?.getD undef = .int .i64 u := hf2)
    have p0 := ((HL.out.below hb').2 0 _ rfl).1; have p1 := ((HL.out.below hb').2 1 _ rfl).1; rw [ptr_eq] at p0 p1
    (go_simp; first | exact ⟨_, rfl, Br _, rfl⟩ | exact ⟨_, rfl, Br _, trivial⟩ | exact ⟨_, rfl, Ba _ _, trivial⟩ | exact ⟨_, rfl, Br _, congrArg (Value.int _) (IntWalk.i64_in _ (by omega))⟩)
   ·(refine owes_val (L := [(7, false)]) rfl rfl rfl (by kernel_rfl) ?_; intro a' w' hb' hfacts; obtain ⟨hf7, -⟩ := hfacts; replace hf7 : a'.tmps[7]?.getD undef = .int .i64 k := hf7)
    have p0 := ((HL.out.below hb').2 0 _ rfl).1; have p1 := ((HL.out.below hb').2 1 _ rfl).1; rw [ptr_eq] at p0 p1
    (go_simp; first | exact ⟨_, rfl, Br _, rfl⟩ | exact ⟨_, rfl, Br _, trivial⟩ | exact ⟨_, rfl, Ba _ _, trivial⟩ | exact ⟨_, rfl, Br _, congrArg (Value.int _) (IntWalk.i64_in _ (by omega))⟩)
   ·(refine owes_val (L := [(74, true), (75, true)]) rfl rfl rfl (by kernel_rfl) ?_; intro a' w' hb' hfacts; obtain ⟨hf74, hf75, -⟩ := hfacts; try simp only [VMeas] at hf74; try simp only [VMeas] at hf75)
    go_simp
    exact ⟨_, rfl, Below.refl _ _, congrArg (Value.int _) E76.out⟩
   ·(refine owes_val (L := [(70, true), (73, true), (76, true)]) rfl rfl rfl (by kernel_rfl) ?_; intro a' w' hb' hfacts; obtain ⟨hf70, hf73, hf76, -⟩ := hfacts; try simp only [VMeas] at hf70; try simp only [VMeas] at hf73; try simp only [VMeas] at hf76)
    go_simp
    refine (IR2.out _ (tabs_below HT.out hb') (HY.out.below hb')).mono ?_
    rintro e w3 ⟨rfl, hb3⟩
    exact ⟨_, rfl, hb3, rfl⟩
   ·(refine owes_val (L := [(66, true), (77, true)]) rfl rfl rfl (by kernel_rfl) ?_; intro a' w' hb' hfacts; obtain ⟨hf66, hf77, -⟩ := hfacts; try simp only [VMeas] at hf66; try simp only [VMeas] at hf77)
    go_simp
    exact ⟨_, rfl, (Below.refl _ _).alloc (Nat.le_refl _) _, _, rfl, Lies.new _ (a.cells7 ++ b.cells7) _⟩
   ·(refine owes_val (L := [(78, true)]) rfl rfl rfl (by kernel_rfl) ?_; intro a' w' hb' hfacts; obtain ⟨hf78, -⟩ := hfacts; try simp only [VMeas] at hf78)
    obtain ⟨g, hh, hg⟩ := hf78
    go_simp
    rw [← HAa.out, ← HBb.out] at hg
    refine (Join_all ta tb g _ (tabs_below HT.out hb') hJ hg).mono ?_
    rintro e w3 ⟨rfl, hb3⟩
    rw [HM.out]
    exact ⟨_, rfl, hb3, rfl⟩
  ·intro fs W3 hfs hb3
   have f79 : fs 79 = .agg #[.int .i64 m.bytes, .int .i64 m.units, .int .i64 m.clusters, .int .i64 m.cells, .int .i64 m.newlines, .string m.head, .string m.tail] := hfs 79 (by decide)
   have HR := Lib.hid (HR.out.below hb3)
   have HB := Lib.hid (HB.out.trans (hb3.mono HB.out.size))
   clear hb3
   clear hfs
   simp only [putAll, put_lit, List.map_cons, List.map_nil, List.set_cons_succ, List.set_cons_zero]
   simp only [f79]
   refine wpOp_last rfl ?_
   have L := Lib.hid (HR.out.stored m.cells7 rfl).2
   have D4 := sets_chg w.heap.size m.cells7 0 W3
   have BL : Below w.heap.size w (W3.setCells w.heap.size 0 m.cells7) :=
    ((Chg.of_below (S := fun k => w.heap.size ≤ k) HB.out).trans D4 (fun x _ h => by have : x = w.heap.size := h; omega)).below_le (by omega) (fun _ h => h)
   have HBL := Lib.hid BL
   obtain ⟨r0, s0⟩ := HR.out.2 0 _ rfl
   obtain ⟨r1, s1⟩ := HR.out.2 1 _ rfl
   obtain ⟨r2, s2⟩ := HR.out.2 2 _ rfl
   obtain ⟨r3, s3⟩ := HR.out.2 3 _ rfl
   obtain ⟨r4, s4⟩ := HR.out.2 4 _ rfl
   obtain ⟨r5, s5⟩ := HR.out.2 5 _ rfl
   obtain ⟨r6, s6⟩ := HR.out.2 6 _ rfl
   clear D4 BL
   go_wp2
   have j0 := (L.out 0 _ rfl).1
   have j1 := (L.out 1 _ rfl).1
   have j2 := (L.out 2 _ rfl).1
   have j3 := (L.out 3 _ rfl).1
   have j4 := (L.out 4 _ rfl).1
   have j5 := (L.out 5 _ rfl).1
   have j6 := (L.out 6 _ rfl).1
   simp only [Sm.cells7, zero7, World.setCells] at j0 j1 j2 j3 j4 j5 j6
   refine bodyPost_ret (v := m.val) (by simp [results, Tryz.results251, go_sem, j0, j1, j2, j3, j4, j5, j6, Sm.val, zeroSm]) rfl ⟨rfl, HBL.out⟩
theorem measure_any : ∀ t : Tr, MeasTo t
 | .leaf s => fun X i j w hT h hs _ _ => by
  by_cases h1 : min j (s.size : Int) ≤ max i 0
  ·exact meas_nil (.leaf s) X i j w hT h hs h1
  ·by_cases h2 : max i 0 = 0 ∧ min j (s.size : Int) = s.size
   ·exact meas_all (.leaf s) X i j w hT h hs h2.1 h2.2 (by show 0 < s.size; omega)
   ·exact meas_leaf s X i j w hT h hs (by omega) h2
 | .knot l r => fun X i j w hT h hs _ _ => by
  by_cases h1 : min j ((l.text ++ r.text).size : Int) ≤ max i 0
  ·exact meas_nil (.knot l r) X i j w hT h hs h1
  ·by_cases h2 : max i 0 = 0 ∧ min j ((l.text ++ r.text).size : Int) = (l.text ++ r.text).size
   ·exact meas_all (.knot l r) X i j w hT h hs h2.1 h2.2 (by show 0 < (l.text ++ r.text).size; omega)
   ·obtain ⟨x, y, hx, hy, hL⟩ := h
    exact meas_knot l r (measure_any l) (measure_any r) X x y i j w hT hx hy hL.lies hs (by omega) h2
end Go.Proofs.YtfchglcclgcgfaaGreatDoor.Ut
