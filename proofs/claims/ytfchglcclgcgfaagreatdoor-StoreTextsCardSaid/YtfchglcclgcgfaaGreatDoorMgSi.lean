/-
  What the proof of the laws S rests on: the texts RoB RoC RoD. Conditions: each theorem names its own.
-/
import Derived.Test.YtfchglcclgcgfaaGreatDoorMgSh
/-
 metric.Join of two summaries; the summary of two texts. Condition: the two tables of unicode/utf8 lie as laid.
-/
namespace Go.Proofs.YtfchglcclgcgfaaGreatDoor.Ut
open Go.RowKit Go.Proofs.YtfchglcclgcgfaaGreatDoor.Reg
set_option linter.unusedVariables false
set_option linter.unusedSimpArgs false

theorem nlF_app (a b : ByteArray) : nlF (a ++ b) = nlF a + nlF b := by
 unfold nlF; rw [app_list]; simp [Lib.countByte, List.countP_append]
theorem headF_list (s : ByteArray) : (headF s).data.toList = s.data.toList.take 16 := by
 unfold headF; rw [extract_list]; simp only [List.drop_zero, Nat.sub_zero, Lib.size_eq]
 rw [Nat.min_comm, ← List.take_take, List.take_length]
theorem tailF_list (s : ByteArray) : (tailF s).data.toList = s.data.toList.drop (s.size - 16) := by
 unfold tailF; rw [extract_list]
 rw [List.take_of_length_le (by rw [List.length_drop, ← Lib.size_eq]; exact Nat.le_refl _)]
 congr 1; omega
theorem headF_size (s : ByteArray) : (headF s).size = min s.size 16 := by unfold headF; simp [ByteArray.size_extract]
theorem tailF_size (s : ByteArray) : (tailF s).size = min s.size 16 := by unfold tailF; simp [ByteArray.size_extract]; omega
theorem headF_app (a b : ByteArray) : headF (a ++ b) = if (headF a).size < 16 then headF (headF a ++ headF b) else headF a := by
 apply ext_of_list
 have ha : a.data.toList.length = a.size := by rw [← Lib.size_eq]
 by_cases h : (headF a).size < 16
 ·rw [if_pos h]
  rw [headF_size] at h
  simp only [headF_list, app_list, List.take_append, List.length_take, ha, List.take_take]
  rw [Nat.min_eq_left (Nat.le_refl 16)]
  congr 2
  omega
 ·rw [if_neg h]
  rw [headF_size] at h
  rw [headF_list, headF_list, app_list, List.take_append_of_le_length (by omega)]
theorem tailF_app (a b : ByteArray) : tailF (a ++ b) = if (tailF b).size < 16 then tailF (tailF a ++ tailF b) else tailF b := by
 apply ext_of_list
 have ha : a.data.toList.length = a.size := by rw [← Lib.size_eq]
 have h1 := tailF_size a
 have h2 := tailF_size b
 have l1 := tailF_list a
 have l2 := tailF_list b
 have l3 := tailF_list (a ++ b)
 have l4 := tailF_list (tailF a ++ tailF b)
 rw [app_list, ByteArray.size_append] at l3 l4
 rw [l1, l2, h1, h2, List.drop_append, List.drop_drop, List.drop_drop, List.length_drop, ha] at l4
 rw [List.drop_append, ha] at l3
 by_cases h : (tailF b).size < 16
 ·rw [if_pos h, l3, l4]
  rw [h2] at h
  have k1 : a.size - 16 + (min a.size 16 + min b.size 16 - 16) = a.size + b.size - 16 := by omega
  have k2 : b.size - 16 + (min a.size 16 + min b.size 16 - 16 - (a.size - (a.size - 16))) = a.size + b.size - 16 - a.size := by omega
  rw [k1, k2]
 ·rw [if_neg h, l3, l2]
  rw [h2] at h
  rw [List.drop_eq_nil_of_le (by omega), List.nil_append]
  have k : a.size + b.size - 16 - a.size = b.size - 16 := by omega
  rw [k]
theorem measF_bounds (s : ByteArray) (h : s.size ≤ 17179869184) : SmB (measF s) := by
 have h1 := Lib.runeCount_le s
 have h2 := cntC_le s
 have h3 := cntW_le s
 have h4 : nlF s ≤ s.size := by unfold nlF; rw [Lib.size_eq]; exact List.countP_le_length
 unfold cntC at h2
 unfold cntW at h3
 unfold measF
 constructor <;> dsimp only
 ·omega
 ·omega
 ·omega
 ·omega
 ·omega
 ·rw [headF_size]; omega
 ·rw [tailF_size]; omega
theorem pair_meas (a b : ByteArray) : pairF (measF a) (measF b) = measF (a ++ b) := by
 have u1 := runes_tot (a ++ b)
 have u2 := runes_tot a
 have u3 := runes_tot b
 have u4 := runes_tot (tailF a ++ headF b)
 have u5 := runes_tot (tailF a)
 have u6 := runes_tot (headF b)
 have u7 := Tot_seam fU a b
 have c1 := count_tot (a ++ b)
 have c2 := count_tot a
 have c3 := count_tot b
 have c4 := count_tot (tailF a ++ headF b)
 have c5 := count_tot (tailF a)
 have c6 := count_tot (headF b)
 have c7 := Tot_seam fC a b
 have w1 := cells_tot (a ++ b)
 have w2 := cells_tot a
 have w3 := cells_tot b
 have w4 := cells_tot (tailF a ++ headF b)
 have w5 := cells_tot (tailF a)
 have w6 := cells_tot (headF b)
 have w7 := Tot_seam fW a b
 unfold pairF measF cntC cntW
 dsimp only
 rw [← headF_app, ← tailF_app, nlF_app]
 rw [Sm.mk.injEq]
 refine ⟨by rw [ByteArray.size_append]; omega, by omega, by omega, by omega, by omega, rfl, rfl⟩

def zeroSm : Sm := ⟨0, 0, 0, 0, 0, ⟨#[]⟩, ⟨#[]⟩⟩
theorem run_eqS_ne (m : Sm) (w : World) (h : (m.bytes == 0) = false) : (binOp .eql 48 (.agg #[.int .i64 m.bytes, .int .i64 m.units, .int .i64 m.clusters, .int .i64 m.cells, .int .i64 m.newlines, .string m.head, .string m.tail]) (.agg #[.int .i64 0, .int .i64 0, .int .i64 0, .int .i64 0, .int .i64 0, .string ⟨#[]⟩, .string ⟨#[]⟩])).run Tryz.prog w = .ok (.bool false) w := by
 have hS : Tryz.prog.underlying 48 = some (.struct (Tryz.prog.fieldsOf 48)) := by kernel_rfl
 have hp : Tryz.prog.stoodInHeld 48 = false := by kernel_rfl
 rw [run_eql_struct, show (10000 : Nat) = 9999 + 1 from rfl, run_equalIn_agg w 9999 48 _ _ hS hp]
 simp only [Program.fieldsOf, Tryz.underlying48]
 have u3 := Tryz.underlying3
 go_simp
end Go.Proofs.YtfchglcclgcgfaaGreatDoor.Ut
/-
 metric.Join of the summaries of two texts. Condition: the two tables of unicode/utf8 lie as laid; the first text is not empty.
-/
namespace Go.Proofs.YtfchglcclgcgfaaGreatDoor.Ut
open Go.RowKit Go.Proofs.YtfchglcclgcgfaaGreatDoor.Reg
set_option linter.unusedVariables false
set_option linter.unusedSimpArgs false

theorem boxesL2 (w : World) (a b : List Value) (t u : TypeId) : ∃ W0, (w.alloc (.cells a.toArray t)).alloc (.cells b.toArray u) = W0 ∧ Lies W0 w.heap.size a ∧ Lies W0 (w.heap.size + 1) b ∧ Below w.heap.size w W0 ∧ W0.heap.size = w.heap.size + 1 + 1 := by
 have h1 : Below (w.alloc (.cells a.toArray t)).heap.size (w.alloc (.cells a.toArray t)) ((w.alloc (.cells a.toArray t)).alloc (.cells b.toArray u)) := (Below.refl _ _).alloc (Nat.le_refl _) _
 have s1 : (w.alloc (.cells a.toArray t)).heap.size = w.heap.size + 1 := by simp
 have k1 := (Lies.new w a t).below h1
 have k2 := Lies.new (w.alloc (.cells a.toArray t)) b u
 rw [s1] at k2
 exact ⟨_, rfl, k1, k2, ((Below.refl _ _).alloc (Nat.le_refl _) _).alloc (by simp) _, by simp⟩

set_option maxRecDepth 100000 in
set_option maxHeartbeats 4000000 in
theorem Join_two (a b : ByteArray) (g : Nat) (w : World) (hT : Tabs w) (h0 : 0 < a.size) (ha : a.size + b.size ≤ 4294967296) (h : Lies w g ((measF a).cells7 ++ (measF b).cells7)) : Calls Tryz.prog 193 #[.slice (some ⟨g, 0, none⟩) 2 2] w fun e w' => e = .returned (measF (a ++ b)).val ∧ Below w.heap.size w w' := by
 have hp := Lib.hid (pair_meas a b)
 have hba := Lib.hid (measF_bounds a (by omega))
 have hbb := Lib.hid (measF_bounds b (by omega))
 have hbz : ((measF a).bytes == 0) = false := by
  show (((a.size : Nat) : Int) == 0) = false
  rw [beq_eq_false_iff_ne]; omega
 have hne := fun w => run_eqS_ne (measF a) w hbz
 obtain ⟨m, hm⟩ : ∃ m, measF a = m := ⟨_, rfl⟩
 obtain ⟨n, hn⟩ : ∃ n, measF b = n := ⟨_, rfl⟩
 rw [hm] at hp hba h hne
 rw [hn] at hp hbb h
 rw [← hp.out]
 clear hm hn hbz hp h0 ha
 obtain ⟨W0, hW0, A0, B0, b0, hsz⟩ := boxesL2 w zero7 zero7 48 48
 have HE := Lib.hid hW0
 unfold zero7 at HE
 have G0 := h.below b0
 have hgl : g < w.heap.size := h.1
 have HT := Lib.hid hT
 have HB := Lib.hid b0
 have HS := Lib.hid hsz
 have HA := Lib.hid A0
 clear hT hW0 b0 h hsz A0
 unfold Sm.val
 go_enter Tryz.func193, Tryz.ntmps193
 go_wp2
 rw [HE.out]
 generalize hA : w.heap.size = A at *
 refine wp_loop_rounds 3 ?_
 rw [rounds_succ]
 have hgl2 : g < W0.heap.size := by rw [HS.out]; omega
 have hBl : A + 1 < W0.heap.size := by rw [HS.out]; omega
 obtain ⟨g0, -⟩ := G0.2 0 _ rfl
 obtain ⟨g1, -⟩ := G0.2 1 _ rfl
 obtain ⟨g2, -⟩ := G0.2 2 _ rfl
 obtain ⟨g3, -⟩ := G0.2 3 _ rfl
 obtain ⟨g4, -⟩ := G0.2 4 _ rfl
 obtain ⟨g5, -⟩ := G0.2 5 _ rfl
 obtain ⟨g6, -⟩ := G0.2 6 _ rfl
 obtain ⟨g7, -⟩ := G0.2 7 _ rfl
 obtain ⟨g8, -⟩ := G0.2 8 _ rfl
 obtain ⟨g9, -⟩ := G0.2 9 _ rfl
 obtain ⟨g10, -⟩ := G0.2 10 _ rfl
 obtain ⟨g11, -⟩ := G0.2 11 _ rfl
 obtain ⟨g12, -⟩ := G0.2 12 _ rfl
 obtain ⟨g13, -⟩ := G0.2 13 _ rfl
 obtain ⟨b0, f0⟩ := B0.2 0 _ rfl
 obtain ⟨b1, f1⟩ := B0.2 1 _ rfl
 obtain ⟨b2, f2⟩ := B0.2 2 _ rfl
 obtain ⟨b3, f3⟩ := B0.2 3 _ rfl
 obtain ⟨b4, f4⟩ := B0.2 4 _ rfl
 obtain ⟨b5, f5⟩ := B0.2 5 _ rfl
 obtain ⟨b6, f6⟩ := B0.2 6 _ rfl
 have hC1 : ∃ W1, (W0.setCells (A + 1) 0 m.cells7).alloc (.cells m.cells7.toArray 48) = W1 ∧ Lies W1 g (m.cells7 ++ n.cells7) ∧ Lies W1 A zero7 ∧ Lies W1 (A + 1) m.cells7 ∧ Chg (fun k => k = A + 1) W0 W1 ∧ W1.heap.size = A + 1 + 1 + 1 := by
  have C := sets_chg (A + 1) m.cells7 0 W0
  have hz : (W0.setCells (A + 1) 0 m.cells7).heap.size = W0.heap.size := by
   unfold Sm.cells7; simp only [World.setCells]; simp
  have D : Below (W0.setCells (A + 1) 0 m.cells7).heap.size (W0.setCells (A + 1) 0 m.cells7) ((W0.setCells (A + 1) 0 m.cells7).alloc (.cells m.cells7.toArray 48)) := (Below.refl _ _).alloc (Nat.le_refl _) _
  refine ⟨_, rfl, (G0.chg C (by show ¬ g = A + 1; omega)).below D, (HA.out.chg C (by show ¬ A = A + 1; omega)).below D, ((B0.stored m.cells7 rfl)).below D, C.then_below D, ?_⟩
  rw [← HS.out, ← hz]; simp
 obtain ⟨W1, hW1, G1, A1, B1, C1, hs1⟩ := hC1
 simp only [World.setCells, Sm.cells7] at hW1
 have HE1 := Lib.hid hW1
 have HC1 := Lib.hid C1
 have HS1 := Lib.hid hs1
 have HG1 := Lib.hid G1
 have HA1 := Lib.hid A1
 have HB1 := Lib.hid B1
 clear G0 B0 hW1 G1 A1 B1 C1 hs1 HA
 go_wp2
 rw [HE1.out]
 clear g0 g1 g2 g3 g4 g5 g6 g7 g8 g9 g10 g11 g12 g13 b0 f0 b1 f1 b2 f2 b3 f3 b4 f4 b5 f5 b6 f6
 have bw2 : Below W1.heap.size W1 (W1.alloc (.cells n.cells7.toArray 48)) := (Below.refl _ _).alloc (Nat.le_refl _) _
 obtain ⟨g7, -⟩ := HG1.out.2 7 _ rfl
 obtain ⟨g8, -⟩ := HG1.out.2 8 _ rfl
 obtain ⟨g9, -⟩ := HG1.out.2 9 _ rfl
 obtain ⟨g10, -⟩ := HG1.out.2 10 _ rfl
 obtain ⟨g11, -⟩ := HG1.out.2 11 _ rfl
 obtain ⟨g12, -⟩ := HG1.out.2 12 _ rfl
 obtain ⟨g13, -⟩ := HG1.out.2 13 _ rfl
 obtain ⟨b0, f0⟩ := HB1.out.2 0 _ rfl
 obtain ⟨b1, f1⟩ := HB1.out.2 1 _ rfl
 obtain ⟨b2, f2⟩ := HB1.out.2 2 _ rfl
 obtain ⟨b3, f3⟩ := HB1.out.2 3 _ rfl
 obtain ⟨b4, f4⟩ := HB1.out.2 4 _ rfl
 obtain ⟨b5, f5⟩ := HB1.out.2 5 _ rfl
 obtain ⟨b6, f6⟩ := HB1.out.2 6 _ rfl
 have hgl3 : g < W1.heap.size := by rw [HS1.out]; omega
 have hBl3 : A + 1 < W1.heap.size := by rw [HS1.out]; omega
 have A2 := HA1.out.below bw2
 have B2 := HB1.out.below bw2
 have hBW1 : Below w.heap.size w W1 := by
  rw [hA]; exact ((Chg.of_below (S := fun k => A ≤ k) (by rw [hA]; exact HB.out)).trans HC1.out (fun x _ h => by have : x = A + 1 := h; omega)).below_le (by omega) (fun _ h => h)
 have T1 := tabs_below HT.out hBW1
 have HBW2 : Hid (Below A w (W1.alloc (.cells n.cells7.toArray 48))) := Lib.hid (by rw [← hA]; exact hBW1.trans (bw2.mono hBW1.size))
 obtain ⟨W2, hW2⟩ : ∃ W2, W1.alloc (.cells n.cells7.toArray 48) = W2 := ⟨_, rfl⟩
 rw [hW2] at A2 B2 bw2 HBW2
 have T2 := Lib.hid (tabs_below T1 bw2)
 simp only [Sm.cells7] at hW2
 have HE2 := Lib.hid hW2
 have HA2 := Lib.hid A2
 have HB2 := Lib.hid B2
 clear hBW1 bw2 hW2 A2 B2 T1
 rw [rounds_succ]
 go_wp2_with fail
 rw [HE2.out]
 have hc := pair_any m n W2 T2.out hba.out hbb.out
 unfold Sm.val at hc
 refine hc.mono ?_
 rintro e W3 ⟨rfl, hb3⟩
 obtain ⟨q, hq⟩ : ∃ q, pairF m n = q := ⟨_, rfl⟩
 rw [hq]
 have HQ := Lib.hid hq
 clear hq hc HE2 hne HE1 HE HG1 HA1 HB1 HC1 HT HB HS T2
 have A3 := HA2.out.below hb3
 have B3 := HB2.out.below hb3
 have HBW3 := HBW2.out.trans (hb3.mono (by have := HBW2.out.size; omega))
 have C4 := sets_chg (A + 1) q.cells7 0 W3
 have A4 := A3.chg C4 (by show ¬ A = A + 1; omega)
 have B4 := B3.stored q.cells7 rfl
 obtain ⟨t0, u0⟩ := B3.2 0 _ rfl
 obtain ⟨t1, u1⟩ := B3.2 1 _ rfl
 obtain ⟨t2, u2⟩ := B3.2 2 _ rfl
 obtain ⟨t3, u3⟩ := B3.2 3 _ rfl
 obtain ⟨t4, u4⟩ := B3.2 4 _ rfl
 obtain ⟨t5, u5⟩ := B3.2 5 _ rfl
 obtain ⟨t6, u6⟩ := B3.2 6 _ rfl
 obtain ⟨W4, hW4⟩ : ∃ W4, W3.setCells (A + 1) 0 q.cells7 = W4 := ⟨_, rfl⟩
 rw [hW4] at A4 B4 C4
 simp only [World.setCells, Sm.cells7] at hW4
 have HE4 := Lib.hid hW4
 have D4 := sets_chg A q.cells7 0 W4
 have L := Lib.hid (A4.stored q.cells7 rfl).2
 have BL : Below A w (W4.setCells A 0 q.cells7) := by
  exact (((Chg.of_below (S := fun k => A ≤ k) (by rw [hA]; exact HBW3)).trans C4 (fun x _ h => by have : x = A + 1 := h; omega)).trans D4 (fun x _ h => by have : x = A := h; omega)).below_le (by omega) (fun _ h => h)
 have HBL := Lib.hid BL
 have HA4 := Lib.hid A4
 have HB4 := Lib.hid B4
 clear A3 B3 HBW3 C4 A4 B4 D4 BL HBW2 HA2 HB2 hb3 hW4
 clear g7 g8 g9 g10 g11 g12 g13 b0 f0 b1 f1 b2 f2 b3 f3 b4 f4 b5 f5 b6 f6
 go_wp2
 rw [HE4.out]
 clear t0 u0 t1 u1 t2 u2 t3 u3 t4 u4 t5 u5 t6 u6
 obtain ⟨r0, s0⟩ := HA4.out.2 0 _ rfl
 obtain ⟨r1, s1⟩ := HA4.out.2 1 _ rfl
 obtain ⟨r2, s2⟩ := HA4.out.2 2 _ rfl
 obtain ⟨r3, s3⟩ := HA4.out.2 3 _ rfl
 obtain ⟨r4, s4⟩ := HA4.out.2 4 _ rfl
 obtain ⟨r5, s5⟩ := HA4.out.2 5 _ rfl
 obtain ⟨r6, s6⟩ := HA4.out.2 6 _ rfl
 obtain ⟨t0, -⟩ := HB4.out.2 0 _ rfl
 obtain ⟨t1, -⟩ := HB4.out.2 1 _ rfl
 obtain ⟨t2, -⟩ := HB4.out.2 2 _ rfl
 obtain ⟨t3, -⟩ := HB4.out.2 3 _ rfl
 obtain ⟨t4, -⟩ := HB4.out.2 4 _ rfl
 obtain ⟨t5, -⟩ := HB4.out.2 5 _ rfl
 obtain ⟨t6, -⟩ := HB4.out.2 6 _ rfl
 clear HE4 HA4 HB4
 rw [rounds_succ]
 go_wp2
 have j0 := (L.out 0 _ rfl).1
 have j1 := (L.out 1 _ rfl).1
 have j2 := (L.out 2 _ rfl).1
 have j3 := (L.out 3 _ rfl).1
 have j4 := (L.out 4 _ rfl).1
 have j5 := (L.out 5 _ rfl).1
 have j6 := (L.out 6 _ rfl).1
 simp only [Sm.cells7, World.setCells] at j0 j1 j2 j3 j4 j5 j6
 refine bodyPost_ret (v := q.val) (by simp [results, Tryz.results193, go_sem, j0, j1, j2, j3, j4, j5, j6, Sm.val]) rfl ⟨by rw [← HQ.out]; rfl, by first | exact HBL.out | (rw [hA]; exact HBL.out)⟩
end Go.Proofs.YtfchglcclgcgfaaGreatDoor.Ut
/-
 Trees of a rope: what a world holds of one; leaf, knot. Condition: the two tables of unicode/utf8 lie as laid.
-/
namespace Go.Proofs.YtfchglcclgcgfaaGreatDoor.Ut
open Go.RowKit Go.Proofs.YtfchglcclgcgfaaGreatDoor.Reg
set_option linter.unusedVariables false
set_option linter.unusedSimpArgs false

inductive Tr where
 | leaf (s : ByteArray)
 | knot (l r : Tr)
namespace Tr
def text : Tr → ByteArray
 | leaf s => s
 | knot l r => l.text ++ r.text
def leaves : Tr → List ByteArray
 | leaf s => [s]
 | knot l r => l.leaves ++ r.leaves
def ht : Tr → Nat
 | leaf _ => 0
 | knot l r => max l.ht r.ht + 1
/-- No leaf is empty, and the whole is of a size that is met. -/
structure Ok (t : Tr) : Prop where
 ne : ∀ x ∈ t.leaves, 0 < x.size
 sz : t.text.size ≤ 4294967296
end Tr
def nodeV (l r : Value) (h : Int) (m : Sm) (s : ByteArray) : List Value := [l, r, .int .i64 h, .int .i64 m.bytes, .int .i64 m.units, .int .i64 m.clusters, .int .i64 m.cells, .int .i64 m.newlines, .string m.head, .string m.tail, .string s]
def ptr (b : Nat) : Value := .pointer (some ⟨b, 0, none⟩)
/-- Ropes and their nodes stay as they are. -/
def Keeps (W W' : World) : Prop := ∀ k vs T, (T = 189 ∨ T = 169) → Blk W k T vs → Blk W' k T vs
theorem Keeps.of_below {W W' : World} (h : Below W.heap.size W W') : Keeps W W' := fun _ _ _ _ hk => hk.below h
theorem Keeps.trans {A B C : World} (h : Keeps A B) (k : Keeps B C) : Keeps A C := fun b vs T hT hb => k b vs T hT (h b vs T hT hb)
theorem Keeps.of_chg {S : Nat → Prop} {W W' : World} (h : Chg S W W') (hS : ∀ k vs T, S k → (T = 189 ∨ T = 169) → ¬ Blk W k T vs) : Keeps W W' :=
 fun k vs T hT hk => (h.block k hk.lies.1 (fun hs => hS k vs T hs hT hk)).trans hk
def IsTr (W : World) : Nat → Tr → Prop
 | b, .leaf s => Blk W b 189 (nodeV (.pointer none) (.pointer none) 0 (measF s) s)
 | b, .knot l r => ∃ x y, IsTr W x l ∧ IsTr W y r ∧ Blk W b 189 (nodeV (ptr x) (ptr y) ((Tr.knot l r).ht : Nat) (measF (l.text ++ r.text)) ⟨#[]⟩)
theorem IsTr.below {W W' : World} (hb : Below W.heap.size W W') : ∀ {t : Tr} {b : Nat}, IsTr W b t → IsTr W' b t
 | .leaf s, b, h => Blk.below (show Blk W b _ _ from h) hb
 | .knot l r, b, ⟨x, y, hx, hy, hL⟩ => ⟨x, y, IsTr.below hb hx, IsTr.below hb hy, hL.below hb⟩
theorem IsTr.keeps {W W' : World} (hk : Keeps W W') : ∀ {t : Tr} {b : Nat}, IsTr W b t → IsTr W' b t
 | .leaf s, b, h => hk b _ _ (.inl rfl) h
 | .knot l r, b, ⟨x, y, hx, hy, hL⟩ => ⟨x, y, IsTr.keeps hk hx, IsTr.keeps hk hy, hk b _ _ (.inl rfl) hL⟩
def cat (l : List ByteArray) : ByteArray := l.foldr (· ++ ·) ⟨#[]⟩
theorem cat_app (a b : List ByteArray) : cat (a ++ b) = cat a ++ cat b := by
 induction a with
 | nil => apply ext_of_list; simp [cat, app_list]
 | cons x r ih => show x ++ cat (r ++ b) = (x ++ cat r) ++ cat b; rw [ih, app_assoc]
theorem Tr.text_leaves : ∀ t : Tr, t.text = cat t.leaves
 | .leaf s => by apply ext_of_list; simp [text, leaves, cat, app_list]
 | .knot l r => by simp only [text, leaves]; rw [cat_app, text_leaves l, text_leaves r]
theorem Tr.leaves_ne : ∀ t : Tr, t.leaves ≠ []
 | .leaf s => by simp [leaves]
 | .knot l r => by simp [leaves, leaves_ne l]
theorem cat_pos {l : List ByteArray} (h : ∀ x ∈ l, 0 < x.size) (hn : l ≠ []) : 0 < (cat l).size := by
 cases l with
 | nil => exact absurd rfl hn
 | cons x r => show 0 < (x ++ cat r).size; rw [ByteArray.size_append]; have := h x (by simp); omega
theorem Tr.Ok.left {l r : Tr} (h : (Tr.knot l r).Ok) : l.Ok := ⟨fun x hx => h.ne x (by simp [leaves, hx]), by have := h.sz; simp only [text, ByteArray.size_append] at this; omega⟩
theorem Tr.Ok.right {l r : Tr} (h : (Tr.knot l r).Ok) : r.Ok := ⟨fun x hx => h.ne x (by simp [leaves, hx]), by have := h.sz; simp only [text, ByteArray.size_append] at this; omega⟩
theorem Tr.Ok.pos {t : Tr} (h : t.Ok) : 0 < t.text.size := by rw [text_leaves]; exact cat_pos h.ne t.leaves_ne
theorem Tr.Ok.ht_lt : ∀ {t : Tr}, t.Ok → t.ht < t.text.size
 | .leaf s, h => h.pos
 | .knot l r, h => by
  have h1 := ht_lt h.left
  have h2 := ht_lt h.right
  simp only [ht, text, ByteArray.size_append]; omega

set_option maxRecDepth 100000 in
set_option maxHeartbeats 1000000 in
theorem leaf_any (s : ByteArray) (w : World) (hT : Tabs w) (hs : s.size ≤ 4294967296) : Calls Tryz.prog 162 #[.string s] w fun e w' => ∃ b, e = .returned (ptr b) ∧ IsTr w' b (.leaf s) ∧ w.heap.size ≤ b ∧ Below w.heap.size w w' := by
 have H := Lib.hid (Measure_any s w hT (by omega))
 clear hT
 unfold IsTr ptr
 go_enter Tryz.func162, Tryz.ntmps162
 go_wp2_with fail
 refine H.out.mono ?_
 rintro e w1 ⟨rfl, hb⟩
 obtain ⟨m, hm⟩ : ∃ m, measF s = m := ⟨_, rfl⟩
 rw [hm]
 have HM := Lib.hid hm
 have HB := Lib.hid (hb.alloc hb.size (.cells (nodeV (.pointer none) (.pointer none) 0 m s).toArray 189))
 have hsz := hb.size
 have L := Lib.hid (Blk.new w1 (nodeV (.pointer none) (.pointer none) 0 m s) 189)
 clear hb H hm
 unfold Sm.val
 go_wp2
 go_ret
 exact ⟨_, rfl, by rw [HM.out]; exact L.out, hsz, HB.out⟩

def hv (a b : Tr) (h : Int) (x y : Nat) : List Value := nodeV (ptr x) (ptr y) h (measF (a.text ++ b.text)) ⟨#[]⟩
def VKnot (X Y base : Nat) (hl hr : Nat) (a b m : Sm) : Nat → Value → World → Prop := fun d x w => match d with
 | 5 => x = .pointer (some ⟨X, 0, none⟩)
 | 6 => x = .pointer (some ⟨Y, 0, none⟩)
 | 7 => x = .pointer (some ⟨X, 0, none⟩)
 | 8 => x = .pointer (some ⟨X, 0, none⟩)
 | 9 => x = .pointer (some ⟨X, 2, none⟩)
 | 10 => x = .int .i64 hl
 | 11 => x = .pointer (some ⟨Y, 0, none⟩)
 | 12 => x = .pointer (some ⟨Y, 0, none⟩)
 | 13 => x = .pointer (some ⟨Y, 2, none⟩)
 | 14 => x = .int .i64 hr
 | 15 => x = .int .i64 (max hl hr : Nat)
 | 16 => x = .int .i64 (max hl hr + 1 : Nat)
 | 17 => x = .pointer (some ⟨X, 0, none⟩)
 | 18 => x = .pointer (some ⟨X, 0, none⟩)
 | 19 => x = .pointer (some ⟨X, 3, none⟩)
 | 20 => x = .agg #[.int .i64 a.bytes, .int .i64 a.units, .int .i64 a.clusters, .int .i64 a.cells, .int .i64 a.newlines, .string a.head, .string a.tail]
 | 21 => x = .pointer (some ⟨Y, 0, none⟩)
 | 22 => x = .pointer (some ⟨Y, 0, none⟩)
 | 23 => x = .pointer (some ⟨Y, 3, none⟩)
 | 24 => x = .agg #[.int .i64 b.bytes, .int .i64 b.units, .int .i64 b.clusters, .int .i64 b.cells, .int .i64 b.newlines, .string b.head, .string b.tail]
 | 25 => ∃ g, x = .slice (some ⟨g, 0, none⟩) 2 2 ∧ Lies w g (a.cells7 ++ b.cells7)
 | 26 => x = .agg #[.int .i64 m.bytes, .int .i64 m.units, .int .i64 m.clusters, .int .i64 m.cells, .int .i64 m.newlines, .string m.head, .string m.tail]
 | 27 => x = .agg #[.pointer (some ⟨X, 0, none⟩), .pointer (some ⟨Y, 0, none⟩), .int .i64 (max hl hr + 1 : Nat), .int .i64 m.bytes, .int .i64 m.units, .int .i64 m.clusters, .int .i64 m.cells, .int .i64 m.newlines, .string m.head, .string m.tail, .string ⟨#[]⟩]
 | 28 => ∃ q, x = ptr q ∧ base ≤ q ∧ Blk w q 189 (nodeV (ptr X) (ptr Y) (max hl hr + 1 : Nat) m ⟨#[]⟩)
 | 4 => ∃ q, x = ptr q ∧ base ≤ q ∧ Blk w q 189 (nodeV (ptr X) (ptr Y) (max hl hr + 1 : Nat) m ⟨#[]⟩)
 | _ => True
theorem VKnot_mono (X Y base : Nat) (hl hr : Nat) (a b m : Sm) : ∀ d x w w', VKnot X Y base hl hr a b m d x w → Below w.heap.size w w' → VKnot X Y base hl hr a b m d x w' := by
 intro d x w w' h hb
 unfold VKnot at *
 split <;> first | exact h | exact trivial | skip
 ·obtain ⟨g, h1, h2⟩ := h; exact ⟨g, h1, h2.below hb⟩
 all_goals (obtain ⟨q, h1, h2, h3⟩ := h; exact ⟨q, h1, h2, h3.below hb⟩)
theorem IsTr.node {W : World} : ∀ {t : Tr} {b : Nat}, IsTr W b t → ∃ l r s, Lies W b (nodeV l r (t.ht : Nat) (measF t.text) s)
 | .leaf s, b, h => ⟨_, _, _, Blk.lies (show Blk W b _ _ from h)⟩
 | .knot l r, b, ⟨x, y, _, _, h⟩ => ⟨_, _, _, h.lies⟩

theorem nodeSum {W : World} {g : Nat} {l r : Value} {h : Int} {m : Sm} {s : ByteArray} (H : Lies W g (nodeV l r h m s)) : W.cell? ⟨g, 2, none⟩ = some (.int .i64 h) ∧ W.cell? ⟨g, 3, none⟩ = some (.int .i64 m.bytes) ∧ W.cell? ⟨g, 4, none⟩ = some (.int .i64 m.units) ∧ W.cell? ⟨g, 5, none⟩ = some (.int .i64 m.clusters) ∧ W.cell? ⟨g, 6, none⟩ = some (.int .i64 m.cells) ∧ W.cell? ⟨g, 7, none⟩ = some (.int .i64 m.newlines) ∧ W.cell? ⟨g, 8, none⟩ = some (.string m.head) ∧ W.cell? ⟨g, 9, none⟩ = some (.string m.tail) :=
 ⟨(H.2 2 _ rfl).1, (H.2 3 _ rfl).1, (H.2 4 _ rfl).1, (H.2 5 _ rfl).1, (H.2 6 _ rfl).1, (H.2 7 _ rfl).1, (H.2 8 _ rfl).1, (H.2 9 _ rfl).1⟩

set_option maxRecDepth 100000 in
set_option maxHeartbeats 4000000 in
theorem knot_any (X Y : Nat) (l r : Tr) (w : World) (hT : Tabs w) (hl : IsTr w X l) (hr : IsTr w Y r) (ho : (Tr.knot l r).Ok) : Calls Tryz.prog 184 #[ptr X, ptr Y] w fun e w' => ∃ b, e = .returned (ptr b) ∧ IsTr w' b (.knot l r) ∧ w.heap.size ≤ b ∧ Below w.heap.size w w' := by
 obtain ⟨l1, r1, s1, nl⟩ := hl.node
 obtain ⟨l2, r2, s2, nr⟩ := hr.node
 have hsz := ho.sz
 simp only [Tr.text, ByteArray.size_append] at hsz
 have hpos := ho.left.pos
 have htl := ho.left.ht_lt
 have htr := ho.right.ht_lt
 obtain ⟨m, hm⟩ : ∃ m, measF (l.text ++ r.text) = m := ⟨_, rfl⟩
 have HM := Lib.hid hm
 have HL := Lib.hid hl
 have HR := Lib.hid hr
 have HT := Lib.hid hT
 have HNL := Lib.hid nl
 have HNR := Lib.hid nr
 have hX := nl.1
 have hY := nr.1
 obtain ⟨a, ha⟩ : ∃ a, measF l.text = a := ⟨_, rfl⟩
 obtain ⟨b, hb⟩ : ∃ b, measF r.text = b := ⟨_, rfl⟩
 rw [ha] at HNL
 rw [hb] at HNR
 have HAa := Lib.hid ha
 have HBb := Lib.hid hb
 clear hl hr hT ho nl nr hm ha hb
 have emx : max (l.ht : Int) (r.ht : Int) = ((max l.ht r.ht : Nat) : Int) := by omega
 have e16 : IntKind.i64.wrap (((max l.ht r.ht : Nat) : Int) + 1) = ((max l.ht r.ht + 1 : Nat) : Int) := by rw [IntWalk.i64_in _ (by omega)]; omega
 have H16 := Lib.hid e16
 clear e16
 unfold ptr
 go_enter Tryz.func184, Tryz.ntmps184
 go_wp2
 refine wp_held' mixed (VKnot X Y w.heap.size l.ht r.ht a b m) (VKnot_mono _ _ _ _ _ _ _ _) (by kernel_rfl) [5, 6, 7, 8, 9, 10, 11, 12, 13, 14, 15, 16, 17, 18, 19, 20, 21, 22, 23, 24, 25, 26, 27, 28, 4] (by kernel_rfl) (by kernel_rfl) ?_ ?_
 ·intro j hj
  have hj' : j < 25 := hj
  rcases (by omega : j = 0 ∨ j = 1 ∨ j = 2 ∨ j = 3 ∨ j = 4 ∨ j = 5 ∨ j = 6 ∨ j = 7 ∨ j = 8 ∨ j = 9 ∨ j = 10 ∨ j = 11 ∨ j = 12 ∨ j = 13 ∨ j = 14 ∨ j = 15 ∨ j = 16 ∨ j = 17 ∨ j = 18 ∨ j = 19 ∨ j = 20 ∨ j = 21 ∨ j = 22 ∨ j = 23 ∨ j = 24) with rfl | rfl | rfl | rfl | rfl | rfl | rfl | rfl | rfl | rfl | rfl | rfl | rfl | rfl | rfl | rfl | rfl | rfl | rfl | rfl | rfl | rfl | rfl | rfl | rfl
  ·(refine owes_val (L := [(0, false)]) rfl rfl rfl (by kernel_rfl) ?_; intro a' w' hb' hfacts; obtain ⟨hf0, -⟩ := hfacts; replace hf0 : a'.tmps[0]?.getD undef = .pointer (some ⟨X, 0, none⟩) := hf0)
   obtain ⟨q0, q1, q2, q3, q4, q5, q6, q7⟩ := nodeSum (HNL.out.below hb'); obtain ⟨r0, r1, r2, r3, r4, r5, r6, r7⟩ := nodeSum (HNR.out.below hb')
   (go_simp; first | exact ⟨_, rfl, Br _, rfl⟩ | exact ⟨_, rfl, Br _, trivial⟩ | exact ⟨_, rfl, Ba _ _, trivial⟩ | exact ⟨_, rfl, Br _, congrArg (Value.int _) (IntWalk.i64_in _ (by omega))⟩)
  ·(refine owes_val (L := [(1, false)]) rfl rfl rfl (by kernel_rfl) ?_; intro a' w' hb' hfacts; obtain ⟨hf1, -⟩ := hfacts; replace hf1 : a'.tmps[1]?.getD undef = .pointer (some ⟨Y, 0, none⟩) := hf1)
   obtain ⟨q0, q1, q2, q3, q4, q5, q6, q7⟩ := nodeSum (HNL.out.below hb'); obtain ⟨r0, r1, r2, r3, r4, r5, r6, r7⟩ := nodeSum (HNR.out.below hb')
   (go_simp; first | exact ⟨_, rfl, Br _, rfl⟩ | exact ⟨_, rfl, Br _, trivial⟩ | exact ⟨_, rfl, Ba _ _, trivial⟩ | exact ⟨_, rfl, Br _, congrArg (Value.int _) (IntWalk.i64_in _ (by omega))⟩)
  ·(refine owes_val (L := [(0, false)]) rfl rfl rfl (by kernel_rfl) ?_; intro a' w' hb' hfacts; obtain ⟨hf0, -⟩ := hfacts; replace hf0 : a'.tmps[0]?.getD undef = .pointer (some ⟨X, 0, none⟩) := hf0)
   obtain ⟨q0, q1, q2, q3, q4, q5, q6, q7⟩ := nodeSum (HNL.out.below hb'); obtain ⟨r0, r1, r2, r3, r4, r5, r6, r7⟩ := nodeSum (HNR.out.below hb')
   (go_simp; first | exact ⟨_, rfl, Br _, rfl⟩ | exact ⟨_, rfl, Br _, trivial⟩ | exact ⟨_, rfl, Ba _ _, trivial⟩ | exact ⟨_, rfl, Br _, congrArg (Value.int _) (IntWalk.i64_in _ (by omega))⟩)
  ·(refine owes_val (L := [(7, true)]) rfl rfl rfl (by kernel_rfl) ?_; intro a' w' hb' hfacts; obtain ⟨hf7, -⟩ := hfacts; try simp only [VKnot] at hf7)
   obtain ⟨q0, q1, q2, q3, q4, q5, q6, q7⟩ := nodeSum (HNL.out.below hb'); obtain ⟨r0, r1, r2, r3, r4, r5, r6, r7⟩ := nodeSum (HNR.out.below hb')
   (go_simp; first | exact ⟨_, rfl, Br _, rfl⟩ | exact ⟨_, rfl, Br _, trivial⟩ | exact ⟨_, rfl, Ba _ _, trivial⟩ | exact ⟨_, rfl, Br _, congrArg (Value.int _) (IntWalk.i64_in _ (by omega))⟩)
  ·(refine owes_val (L := [(8, true)]) rfl rfl rfl (by kernel_rfl) ?_; intro a' w' hb' hfacts; obtain ⟨hf8, -⟩ := hfacts; try simp only [VKnot] at hf8)
   obtain ⟨q0, q1, q2, q3, q4, q5, q6, q7⟩ := nodeSum (HNL.out.below hb'); obtain ⟨r0, r1, r2, r3, r4, r5, r6, r7⟩ := nodeSum (HNR.out.below hb')
   (go_simp; first | exact ⟨_, rfl, Br _, rfl⟩ | exact ⟨_, rfl, Br _, trivial⟩ | exact ⟨_, rfl, Ba _ _, trivial⟩ | exact ⟨_, rfl, Br _, congrArg (Value.int _) (IntWalk.i64_in _ (by omega))⟩)
  ·(refine owes_val (L := [(9, true)]) rfl rfl rfl (by kernel_rfl) ?_; intro a' w' hb' hfacts; obtain ⟨hf9, -⟩ := hfacts; try simp only [VKnot] at hf9)
   obtain ⟨q0, q1, q2, q3, q4, q5, q6, q7⟩ := nodeSum (HNL.out.below hb'); obtain ⟨r0, r1, r2, r3, r4, r5, r6, r7⟩ := nodeSum (HNR.out.below hb')
   (go_simp; first | exact ⟨_, rfl, Br _, rfl⟩ | exact ⟨_, rfl, Br _, trivial⟩ | exact ⟨_, rfl, Ba _ _, trivial⟩ | exact ⟨_, rfl, Br _, congrArg (Value.int _) (IntWalk.i64_in _ (by omega))⟩)
  ·(refine owes_val (L := [(1, false)]) rfl rfl rfl (by kernel_rfl) ?_; intro a' w' hb' hfacts; obtain ⟨hf1, -⟩ := hfacts; replace hf1 : a'.tmps[1]?.getD undef = .pointer (some ⟨Y, 0, none⟩) := hf1)
   obtain ⟨q0, q1, q2, q3, q4, q5, q6, q7⟩ := nodeSum (HNL.out.below hb'); obtain ⟨r0, r1, r2, r3, r4, r5, r6, r7⟩ := nodeSum (HNR.out.below hb')
   (go_simp; first | exact ⟨_, rfl, Br _, rfl⟩ | exact ⟨_, rfl, Br _, trivial⟩ | exact ⟨_, rfl, Ba _ _, trivial⟩ | exact ⟨_, rfl, Br _, congrArg (Value.int _) (IntWalk.i64_in _ (by omega))⟩)
  ·(refine owes_val (L := [(11, true)]) rfl rfl rfl (by kernel_rfl) ?_; intro a' w' hb' hfacts; obtain ⟨hf11, -⟩ := hfacts; try simp only [VKnot] at hf11)
   obtain ⟨q0, q1, q2, q3, q4, q5, q6, q7⟩ := nodeSum (HNL.out.below hb'); obtain ⟨r0, r1, r2, r3, r4, r5, r6, r7⟩ := nodeSum (HNR.out.below hb')
   (go_simp; first | exact ⟨_, rfl, Br _, rfl⟩ | exact ⟨_, rfl, Br _, trivial⟩ | exact ⟨_, rfl, Ba _ _, trivial⟩ | exact ⟨_, rfl, Br _, congrArg (Value.int _) (IntWalk.i64_in _ (by omega))⟩)
  ·(refine owes_val (L := [(12, true)]) rfl rfl rfl (by kernel_rfl) ?_; intro a' w' hb' hfacts; obtain ⟨hf12, -⟩ := hfacts; try simp only [VKnot] at hf12)
   obtain ⟨q0, q1, q2, q3, q4, q5, q6, q7⟩ := nodeSum (HNL.out.below hb'); obtain ⟨r0, r1, r2, r3, r4, r5, r6, r7⟩ := nodeSum (HNR.out.below hb')
   (go_simp; first | exact ⟨_, rfl, Br _, rfl⟩ | exact ⟨_, rfl, Br _, trivial⟩ | exact ⟨_, rfl, Ba _ _, trivial⟩ | exact ⟨_, rfl, Br _, congrArg (Value.int _) (IntWalk.i64_in _ (by omega))⟩)
  ·(refine owes_val (L := [(13, true)]) rfl rfl rfl (by kernel_rfl) ?_; intro a' w' hb' hfacts; obtain ⟨hf13, -⟩ := hfacts; try simp only [VKnot] at hf13)
   obtain ⟨q0, q1, q2, q3, q4, q5, q6, q7⟩ := nodeSum (HNL.out.below hb'); obtain ⟨r0, r1, r2, r3, r4, r5, r6, r7⟩ := nodeSum (HNR.out.below hb')
   (go_simp; first | exact ⟨_, rfl, Br _, rfl⟩ | exact ⟨_, rfl, Br _, trivial⟩ | exact ⟨_, rfl, Ba _ _, trivial⟩ | exact ⟨_, rfl, Br _, congrArg (Value.int _) (IntWalk.i64_in _ (by omega))⟩)
  ·(refine owes_val (L := [(10, true), (14, true)]) rfl rfl rfl (by kernel_rfl) ?_; intro a' w' hb' hfacts; obtain ⟨hf10, hf14, -⟩ := hfacts; try simp only [VKnot] at hf10; try simp only [VKnot] at hf14)
   go_simp
   exact ⟨_, rfl, Below.refl _ _, rfl⟩
  ·(refine owes_val (L := [(15, true)]) rfl rfl rfl (by kernel_rfl) ?_; intro a' w' hb' hfacts; obtain ⟨hf15, -⟩ := hfacts; try simp only [VKnot] at hf15)
   go_simp
   exact ⟨_, rfl, Below.refl _ _, congrArg (Value.int _) H16.out⟩
  ·(refine owes_val (L := [(0, false)]) rfl rfl rfl (by kernel_rfl) ?_; intro a' w' hb' hfacts; obtain ⟨hf0, -⟩ := hfacts; replace hf0 : a'.tmps[0]?.getD undef = .pointer (some ⟨X, 0, none⟩) := hf0)
   obtain ⟨q0, q1, q2, q3, q4, q5, q6, q7⟩ := nodeSum (HNL.out.below hb'); obtain ⟨r0, r1, r2, r3, r4, r5, r6, r7⟩ := nodeSum (HNR.out.below hb')
   (go_simp; first | exact ⟨_, rfl, Br _, rfl⟩ | exact ⟨_, rfl, Br _, trivial⟩ | exact ⟨_, rfl, Ba _ _, trivial⟩ | exact ⟨_, rfl, Br _, congrArg (Value.int _) (IntWalk.i64_in _ (by omega))⟩)
  ·(refine owes_val (L := [(17, true)]) rfl rfl rfl (by kernel_rfl) ?_; intro a' w' hb' hfacts; obtain ⟨hf17, -⟩ := hfacts; try simp only [VKnot] at hf17)
   obtain ⟨q0, q1, q2, q3, q4, q5, q6, q7⟩ := nodeSum (HNL.out.below hb'); obtain ⟨r0, r1, r2, r3, r4, r5, r6, r7⟩ := nodeSum (HNR.out.below hb')
   (go_simp; first | exact ⟨_, rfl, Br _, rfl⟩ | exact ⟨_, rfl, Br _, trivial⟩ | exact ⟨_, rfl, Ba _ _, trivial⟩ | exact ⟨_, rfl, Br _, congrArg (Value.int _) (IntWalk.i64_in _ (by omega))⟩)
  ·(refine owes_val (L := [(18, true)]) rfl rfl rfl (by kernel_rfl) ?_; intro a' w' hb' hfacts; obtain ⟨hf18, -⟩ := hfacts; try simp only [VKnot] at hf18)
   obtain ⟨q0, q1, q2, q3, q4, q5, q6, q7⟩ := nodeSum (HNL.out.below hb'); obtain ⟨r0, r1, r2, r3, r4, r5, r6, r7⟩ := nodeSum (HNR.out.below hb')
   (go_simp; first | exact ⟨_, rfl, Br _, rfl⟩ | exact ⟨_, rfl, Br _, trivial⟩ | exact ⟨_, rfl, Ba _ _, trivial⟩ | exact ⟨_, rfl, Br _, congrArg (Value.int _) (IntWalk.i64_in _ (by omega))⟩)
  ·(refine owes_val (L := [(19, true)]) rfl rfl rfl (by kernel_rfl) ?_; intro a' w' hb' hfacts; obtain ⟨hf19, -⟩ := hfacts; try simp only [VKnot] at hf19)
   obtain ⟨q0, q1, q2, q3, q4, q5, q6, q7⟩ := nodeSum (HNL.out.below hb'); obtain ⟨r0, r1, r2, r3, r4, r5, r6, r7⟩ := nodeSum (HNR.out.below hb')
   (go_simp; first | exact ⟨_, rfl, Br _, rfl⟩ | exact ⟨_, rfl, Br _, trivial⟩ | exact ⟨_, rfl, Ba _ _, trivial⟩ | exact ⟨_, rfl, Br _, congrArg (Value.int _) (IntWalk.i64_in _ (by omega))⟩)
  ·(refine owes_val (L := [(1, false)]) rfl rfl rfl (by kernel_rfl) ?_; intro a' w' hb' hfacts; obtain ⟨hf1, -⟩ := hfacts; replace hf1 : a'.tmps[1]?.getD undef = .pointer (some ⟨Y, 0, none⟩) := hf1)
   obtain ⟨q0, q1, q2, q3, q4, q5, q6, q7⟩ := nodeSum (HNL.out.below hb'); obtain ⟨r0, r1, r2, r3, r4, r5, r6, r7⟩ := nodeSum (HNR.out.below hb')
   (go_simp; first | exact ⟨_, rfl, Br _, rfl⟩ | exact ⟨_, rfl, Br _, trivial⟩ | exact ⟨_, rfl, Ba _ _, trivial⟩ | exact ⟨_, rfl, Br _, congrArg (Value.int _) (IntWalk.i64_in _ (by omega))⟩)
  ·(refine owes_val (L := [(21, true)]) rfl rfl rfl (by kernel_rfl) ?_; intro a' w' hb' hfacts; obtain ⟨hf21, -⟩ := hfacts; try simp only [VKnot] at hf21)
   obtain ⟨q0, q1, q2, q3, q4, q5, q6, q7⟩ := nodeSum (HNL.out.below hb'); obtain ⟨r0, r1, r2, r3, r4, r5, r6, r7⟩ := nodeSum (HNR.out.below hb')
   (go_simp; first | exact ⟨_, rfl, Br _, rfl⟩ | exact ⟨_, rfl, Br _, trivial⟩ | exact ⟨_, rfl, Ba _ _, trivial⟩ | exact ⟨_, rfl, Br _, congrArg (Value.int _) (IntWalk.i64_in _ (by omega))⟩)
  ·(refine owes_val (L := [(22, true)]) rfl rfl rfl (by kernel_rfl) ?_; intro a' w' hb' hfacts; obtain ⟨hf22, -⟩ := hfacts; try simp only [VKnot] at hf22)
   obtain ⟨q0, q1, q2, q3, q4, q5, q6, q7⟩ := nodeSum (HNL.out.below hb'); obtain ⟨r0, r1, r2, r3, r4, r5, r6, r7⟩ := nodeSum (HNR.out.below hb')
   (go_simp; first | exact ⟨_, rfl, Br _, rfl⟩ | exact ⟨_, rfl, Br _, trivial⟩ | exact ⟨_, rfl, Ba _ _, trivial⟩ | exact ⟨_, rfl, Br _, congrArg (Value.int _) (IntWalk.i64_in _ (by omega))⟩)
  ·(refine owes_val (L := [(23, true)]) rfl rfl rfl (by kernel_rfl) ?_; intro a' w' hb' hfacts; obtain ⟨hf23, -⟩ := hfacts; try simp only [VKnot] at hf23)
   obtain ⟨q0, q1, q2, q3, q4, q5, q6, q7⟩ := nodeSum (HNL.out.below hb'); obtain ⟨r0, r1, r2, r3, r4, r5, r6, r7⟩ := nodeSum (HNR.out.below hb')
   (go_simp; first | exact ⟨_, rfl, Br _, rfl⟩ | exact ⟨_, rfl, Br _, trivial⟩ | exact ⟨_, rfl, Ba _ _, trivial⟩ | exact ⟨_, rfl, Br _, congrArg (Value.int _) (IntWalk.i64_in _ (by omega))⟩)
  ·(refine owes_val (L := [(20, true), (24, true)]) rfl rfl rfl (by kernel_rfl) ?_; intro a' w' hb' hfacts; obtain ⟨hf20, hf24, -⟩ := hfacts; try simp only [VKnot] at hf20; try simp only [VKnot] at hf24)
   go_simp
   exact ⟨_, rfl, (Below.refl _ _).alloc (Nat.le_refl _) _, _, rfl, Lies.new _ (a.cells7 ++ b.cells7) _⟩
  ·(refine owes_val (L := [(25, true)]) rfl rfl rfl (by kernel_rfl) ?_; intro a' w' hb' hfacts; obtain ⟨hf25, -⟩ := hfacts; try simp only [VKnot] at hf25)
   obtain ⟨g, hf, hg⟩ := hf25
   go_simp
   rw [← HAa.out, ← HBb.out] at hg
   refine (Join_two l.text r.text g _ (tabs_below HT.out hb') hpos (by omega) hg).mono ?_
   rintro e w3 ⟨rfl, hb3⟩
   rw [HM.out]
   exact ⟨_, rfl, hb3, rfl⟩
  ·(refine owes_val (L := [(5, true), (6, true), (16, true), (26, true)]) rfl rfl rfl (by kernel_rfl) ?_; intro a' w' hb' hfacts; obtain ⟨hf5, hf6, hf16, hf26, -⟩ := hfacts; try simp only [VKnot] at hf5; try simp only [VKnot] at hf6; try simp only [VKnot] at hf16; try simp only [VKnot] at hf26)
   obtain ⟨q0, q1, q2, q3, q4, q5, q6, q7⟩ := nodeSum (HNL.out.below hb'); obtain ⟨r0, r1, r2, r3, r4, r5, r6, r7⟩ := nodeSum (HNR.out.below hb')
   (go_simp; first | exact ⟨_, rfl, Br _, rfl⟩ | exact ⟨_, rfl, Br _, trivial⟩ | exact ⟨_, rfl, Ba _ _, trivial⟩ | exact ⟨_, rfl, Br _, congrArg (Value.int _) (IntWalk.i64_in _ (by omega))⟩)
  ·(refine owes_val (L := [(27, true)]) rfl rfl rfl (by kernel_rfl) ?_; intro a' w' hb' hfacts; obtain ⟨hf27, -⟩ := hfacts; try simp only [VKnot] at hf27)
   go_simp
   exact ⟨_, rfl, (Below.refl _ _).alloc (Nat.le_refl _) _, _, rfl, hb'.size, Blk.new _ (nodeV (ptr X) (ptr Y) (max l.ht r.ht + 1 : Nat) m ⟨#[]⟩) _⟩
  ·(refine owes_val (L := [(28, true)]) rfl rfl rfl (by kernel_rfl) ?_; intro a' w' hb' hfacts; obtain ⟨hf28, -⟩ := hfacts; try simp only [VKnot] at hf28)
   obtain ⟨q, hf, hq, hL⟩ := hf28
   unfold ptr at hf
   go_simp
   exact ⟨_, rfl, Below.refl _ _, q, rfl, hq, hL⟩
 ·intro f W3 hf hb3
  obtain ⟨q, f4, hq, hL⟩ : ∃ q, f 4 = ptr q ∧ w.heap.size ≤ q ∧ Blk W3 q 189 (nodeV (ptr X) (ptr Y) (max l.ht r.ht + 1 : Nat) m ⟨#[]⟩) := hf 4 (by decide)
  have R1 := Lib.hid (HL.out.below hb3)
  have R2 := Lib.hid (HR.out.below hb3)
  have R3 := Lib.hid hL
  have R4 := Lib.hid hb3
  clear hf hb3 hL
  unfold ptr at f4
  simp only [putAll, put_lit, List.map_cons, List.map_nil, List.set_cons_succ, List.set_cons_zero]
  simp only [f4]
  go_wp2
  go_ret
  exact ⟨q, rfl, ⟨X, Y, R1.out, R2.out, by rw [HM.out]; exact R3.out⟩, hq, R4.out⟩
end Go.Proofs.YtfchglcclgcgfaaGreatDoor.Ut
