/-
  What the proof of the laws S rests on: the texts ClE MeA GapA GapB. Conditions: each theorem names its own.
-/
import Derived.Test.YtfchglcclgcgfaaGreatDoorMgSc
import Derived.RangeFuncNested
import Derived.Deep.MidRow
import Derived.Lib.SlBytesRow
import Derived.Lib.BufferWrite
import Derived.Lib.LazyBuf
import Derived.Laws.MakeOwn
/-
 cluster.Walk, Count, Cells. Condition: the two tables of unicode/utf8 lie as laid.
-/
namespace Go.Proofs.YtfchglcclgcgfaaGreatDoor.Ut
open Go.RowKit Go.Proofs.YtfchglcclgcgfaaGreatDoor.Reg
set_option linter.unusedVariables false
set_option linter.unusedSimpArgs false
attribute [local go_sem] Oper.semAt_some

theorem Walk_any (s : ByteArray) (w : World) : Calls Tryz.prog 104 #[.string s] w fun e w' => e = .returned (.func (.func 130) #[] #[.pointer (some ⟨w.heap.size, 0, none⟩)]) ∧ w' = w.alloc (.cells #[.string s] 9) := by
 go_enter Tryz.func104, Tryz.ntmps104
 go_wp2
 go_ret
 exact ⟨rfl, rfl⟩

theorem walk_stops (n : Nat) (hn : 1 ≤ n) (Bx : Nat) (s : ByteArray) (hs : s.size ≤ 140737488355328) (w0 w : World) (hT : Tabs w0) (hb : Below w0.heap.size w0 w) (hc : w.cell? ⟨Bx, 0, none⟩ = some (.string s)) :
  SeqStopsK Fence.wide n Tryz.prog 130 #[.pointer (some ⟨Bx, 0, none⟩)] (fun x : Nat => #[mkCl s x (clN s x)]) (Kp2 w0.heap.size Bx) (fun xs => xs = clAts s 0) (fun pre => pre <+: clAts s 0) (clAts s 0).length w :=
 fun l J Jx W hW hJ _ hY h0 => walk1_in n hn l Bx s hs w0 hT J Jx hY W (fun k hk => (hb.trans (hW.mono hb.size)).block k hk) hJ ((hW.cell (p := ⟨Bx, 0, none⟩) (World.block_lt_of_cell? w _ hc)).trans hc) h0

theorem clAts_length (s : ByteArray) (i : Nat) : (clAts s i).length ≤ s.size - i := by
 induction hn : s.size - i using Nat.strongRecOn generalizing i with
 | _ n ih =>
  by_cases h : i < s.size
  ·have h1 := clN_gt h
   rw [clAts_step h, List.length_cons]
   have := ih (s.size - clN s i) (by omega) (clN s i) rfl
   omega
  ·rw [clAts_end (by omega)]; simp
def sumW (s : ByteArray) (xs : List Nat) : Int := (xs.map (clW s)).sum
theorem sumW_snoc (s : ByteArray) (xs : List Nat) (x : Nat) : sumW s (xs ++ [x]) = sumW s xs + clW s x := by simp [sumW]
theorem clW_bounds (s : ByteArray) (i : Nat) : 0 ≤ clW s i ∧ clW s i ≤ 2 := by unfold clW cellsF; split <;> (try split) <;> (try split) <;> (try split) <;> omega
theorem sumW_bounds (s : ByteArray) (xs : List Nat) : 0 ≤ sumW s xs ∧ sumW s xs ≤ 2 * xs.length := by
 induction xs with
 | nil => simp [sumW]
 | cons x r ih =>
  have h := clW_bounds s x
  have e : sumW s (x :: r) = clW s x + sumW s r := by simp [sumW]
  rw [e, List.length_cons]; omega

theorem two_boxes (w : World) (a b : Value) (s t : TypeId) : Boxed ((w.alloc (.cells #[a] s)).alloc (.cells #[b] t)) w.heap.size s a ∧ Boxed ((w.alloc (.cells #[a] s)).alloc (.cells #[b] t)) (w.heap.size + 1) t b := by
 constructor
 ·exact (Boxed.new w s a).alloc _
 ·have := Boxed.new (w.alloc (.cells #[a] s)) t b
  rwa [World.size_alloc] at this

set_option maxRecDepth 100000 in
set_option maxHeartbeats 2000000 in
theorem ClCount_any (s : ByteArray) (w : World) (hT : Tabs w) (hs : s.size ≤ 140737488355328) :
  Calls Tryz.prog 195 #[.string s] w fun e w' => e = .returned (.int .i64 (clAts s 0).length) ∧ Below w.heap.size w w' := by
 have HL : Hid ((clAts s 0).length ≤ s.size) := by have := clAts_length s 0; show _ ≤ _; omega
 refine (callsIn_wide (n := 3)).1 ?_
 refine callsIn_of_wp_marks Tryz.func195 rfl trivial ?_ rfl
 simp only [Tryz.ntmps195, List.size_toArray, List.length_cons, List.length_nil, Nat.reduceAdd, Nat.reduceSub, Array.replicate_succ, Array.replicate_zero, List.push_toArray, List.append_toArray, List.nil_append, List.cons_append]
 gi_wp2_with fail
 refine ⟨trivial, (callsIn_wide.2 (Walk_any s _)).mono ?_⟩
 rintro e w' ⟨rfl, rfl⟩
 simp only [World.size_alloc]
 gi_wp2
 obtain ⟨bN, bS⟩ := two_boxes w (.int .i64 0) (.string s) 3 9
 have hB0 : Below w.heap.size w ((w.alloc (.cells #[.int .i64 0] 3)).alloc (.cells #[.string s] 9)) := ((Below.refl _ w).alloc (Nat.le_refl _) _).alloc (by simp) _
 have hz : ((w.alloc (.cells #[.int .i64 0] 3)).alloc (.cells #[.string s] 9)).heap.size = w.heap.size + 2 := by simp
 refine wpIn_rangeFunc_ownG rfl (by omega) (gf := 130) (lb := #[.pointer (some ⟨w.heap.size + 1, 0, none⟩)]) rfl trivial (enters_of Tryz.func130 (by kernel_rfl) rfl)
  (walk_stops _ (by omega) (w.heap.size + 1) s hs w _ hT hB0 bS.cell) Kp2.trans (kp2_b (by omega) (by omega)) (Below.refl _ _) (fun _ => rfl)
  (fun pre W => Boxed W w.heap.size 3 (.int .i64 pre.length) ∧ Below w.heap.size w W)
  (fun _ _ _ => False)
  (OwnFrom.and (Own.from (boxed_own _ _ _) _) (ownFrom_below (Nat.le_refl _) (by omega)))
  (fun _ _ _ _ _ hs _ _ => hs)
  ⟨bN, hB0⟩
  (fun x => { tmps := #[.string s, undef, .int .i64 0, .pointer (some ⟨w.heap.size, 0, none⟩), .string s, .func (.func 130) #[] #[.pointer (some ⟨w.heap.size + 1, 0, none⟩)], mkCl s x (clN s x), undef, undef, undef], defers := [] }) ?assign ?body ?done ?stop
 case assign =>
  intro l x W K hK
  gi_wp2
  simpa using hK
 case body =>
  rintro l pre x W ⟨hv, hB⟩ hlt
  have hc := hv.cell
  have hf := hv.frozen
  have hw : IntKind.i64.wrap ((pre.length : Int) + 1) = (pre.length : Int) + 1 := IntWalk.i64_in _ (by have := HL.out; omega)
  generalize mkCl s x (clN s x) = mv at *
  gi_wp2
  refine ⟨(KeepsOthers.setCell _ _ _).from _, ?_, ?_, ?_⟩
  ·exact ⟨(Chg.set W _ _).size, fun k hk => Below.heap_setCell W _ _ k (by show k ≠ w.heap.size; omega)⟩
  ·simpa using hv.set (.int .i64 ((pre.length : Int) + 1))
  ·exact (Chg.of_below hB).trans (Chg.set W ⟨w.heap.size, 0, none⟩ _) (T := fun k => k = w.heap.size) (S := fun k => k = w.heap.size) (fun x _ h => h) |>.below_le (Nat.le_refl _) (fun x hx => by rw [hx]; exact Nat.le_refl _)
 case done =>
  rintro D xs W hD rfl ⟨hv, hB⟩ hK
  have hc := hv.cell
  gi_wp2
  refine ⟨by simp, .inl ⟨_, _, rfl, run_takeDeferred hK, ?_⟩⟩
  exact ⟨_, results_tmp rfl _ _ _, rfl, hB.trans (belowK_b (w := w) (Nat.le_refl _) W D _ _ (by simp at hD; omega) hK rfl rfl)⟩
 case stop =>
  rintro D c pre W _ _ h _
  exact h.elim

theorem ownFrom_size {β : Type} (B k : Nat) : OwnFrom B (fun (_ : β) W => k ≤ W.heap.size) := fun _ _ _ _ hs hg _ => Nat.le_trans hs hg.size
theorem Four.kept {W W' : World} {row : Option Nat} {g : Nat} {a b c d : Value} (h : Four W g a b c d) (hg : W.grownBy W' row) (hr : ∀ r, row = some r → ∃ o : Obj, W.heap[r]? = some o ∧ o.isCells = false) : Four W' g a b c d :=
 ⟨Nat.lt_of_lt_of_le h.lt hg.size, cell_kept h.c0 hg hr, cell_kept h.c1 hg hr, cell_kept h.c2 hg hr, cell_kept h.c3 hg hr, (frozen_kept h.c0 hg hr).trans h.f0, (frozen_kept h.c1 hg hr).trans h.f1, (frozen_kept h.c2 hg hr).trans h.f2, (frozen_kept h.c3 hg hr).trans h.f3⟩

set_option maxRecDepth 100000 in
set_option maxHeartbeats 2000000 in
theorem ClCells_any (s : ByteArray) (w : World) (hT : Tabs w) (hs : s.size ≤ 140737488355328) :
  Calls Tryz.prog 196 #[.string s] w fun e w' => e = .returned (.int .i64 (sumW s (clAts s 0))) ∧ Below w.heap.size w w' := by
 have HL : Hid ((clAts s 0).length ≤ s.size) := by have := clAts_length s 0; show _ ≤ _; omega
 refine (callsIn_wide (n := 3)).1 ?_
 refine callsIn_of_wp_marks Tryz.func196 rfl trivial ?_ rfl
 simp only [Tryz.ntmps196, List.size_toArray, List.length_cons, List.length_nil, Nat.reduceAdd, Nat.reduceSub, Array.replicate_succ, Array.replicate_zero, List.push_toArray, List.append_toArray, List.nil_append, List.cons_append]
 gi_wp2_with fail
 refine ⟨trivial, (callsIn_wide.2 (Walk_any s _)).mono ?_⟩
 rintro e w' ⟨rfl, rfl⟩
 simp only [World.size_alloc]
 gi_wp2
 obtain ⟨bN, bS⟩ := two_boxes w (.int .i64 0) (.string s) 3 9
 have hB0 : Below w.heap.size w ((w.alloc (.cells #[.int .i64 0] 3)).alloc (.cells #[.string s] 9)) := ((Below.refl _ w).alloc (Nat.le_refl _) _).alloc (by simp) _
 have hz : ((w.alloc (.cells #[.int .i64 0] 3)).alloc (.cells #[.string s] 9)).heap.size = w.heap.size + 2 := by simp
 refine wpIn_rangeFunc_ownH rfl (by omega) (gf := 130) (lb := #[.pointer (some ⟨w.heap.size + 1, 0, none⟩)]) rfl trivial (enters_of Tryz.func130 (by kernel_rfl) rfl)
  (walk_stops _ (by omega) (w.heap.size + 1) s hs w _ hT hB0 bS.cell) Kp2.trans (kp2_b (by omega) (by omega)) (Below.refl _ _) (fun _ => rfl)
  (fun pre W => Boxed W w.heap.size 3 (.int .i64 (sumW s pre)) ∧ Below w.heap.size w W ∧ w.heap.size + 2 ≤ W.heap.size)
  (fun _ _ _ => False)
  (OwnFrom.and (Own.from (boxed_own _ _ _) _) (OwnFrom.and (ownFrom_below (Nat.le_refl _) (by omega)) (ownFrom_size _ _)))
  (fun _ _ _ _ _ hs _ _ => hs)
  ⟨bN, hB0, by omega⟩
  (fun x a' W => ∃ g, w.heap.size + 2 ≤ g ∧ Four W g (.int .i64 x) (.int .i64 (clN s x)) (.int .i64 (clC s x)) (.int .i64 (clW s x)) ∧
   a' = { tmps := #[.string s, undef, .int .i64 0, .pointer (some ⟨w.heap.size, 0, none⟩), .pointer (some ⟨g, 0, none⟩), .string s, .func (.func 130) #[] #[.pointer (some ⟨w.heap.size + 1, 0, none⟩)], mkCl s x (clN s x), undef, undef, undef, undef, undef], defers := [] })
  (fun x a' _ W W' row hs hg hr => by obtain ⟨g, hgl, hF, he⟩ := hs; exact ⟨g, hgl, hF.kept hg (fun r e => (hr r e).2), he⟩) ?assign ?body ?done ?stop
 case assign =>
  intro l pre x W K ⟨hv, hB, hBs⟩ hK
  have hm : mkCl s x (clN s x) = .agg #[.int .i64 x, .int .i64 (clN s x), .int .i64 (clC s x), .int .i64 (clW s x)] := rfl
  rw [hm] at hK ⊢
  gi_wp2
  refine hK _ _ ((KeepsOthers.alloc _ _).from _) (Kp2.of_below ((Below.refl _ _).alloc (Nat.le_refl _) _) (by omega) (by omega)) ⟨hv.alloc _, hB.alloc hB.size _, by simp; omega⟩ ⟨W.heap.size, hBs, Four.new _ _ _ _ _ _, ?_⟩
  simp
 case body =>
  rintro l pre x a' W hl hr ⟨hv, hB, hBs⟩ ⟨g, hgl, hF, rfl⟩ hlt
  have hc := hv.cell
  have hf := hv.frozen
  have h3 := hF.c3
  have b1 := sumW_bounds s pre
  have b2 := clW_bounds s x
  have hpl : pre.length ≤ s.size := by have := HL.out; omega
  have e1 := sumW_snoc s pre x
  have hne : g ≠ w.heap.size := by omega
  have hne2 : g ≠ w.heap.size + 1 := by omega
  have HB := Lib.hid hB
  clear hB hF hr hlt
  generalize mkCl s x (clN s x) = mv at *
  generalize sumW s pre = A at *
  generalize clW s x = C at *
  have hw : IntKind.i64.wrap (A + C) = A + C := IntWalk.i64_in _ (by omega)
  have E1 := Lib.hid e1
  clear e1
  gi_wp2
  refine ⟨(KeepsOthers.setCell _ _ _).from _, ?_, ?_, ?_, ?_⟩
  ·exact ⟨(Chg.set W _ _).size, fun k hk => Below.heap_setCell W _ _ k (by show k ≠ w.heap.size; omega)⟩
  ·rw [E1.out]; exact hv.set (.int .i64 (A + C))
  ·exact (Chg.of_below HB.out).trans (Chg.set W ⟨w.heap.size, 0, none⟩ _) (T := fun k => k = w.heap.size) (S := fun k => k = w.heap.size) (fun x _ h => h) |>.below_le (Nat.le_refl _) (fun x hx => by rw [hx]; exact Nat.le_refl _)
  ·exact Nat.le_trans hBs (Chg.set W _ _).size
 case done =>
  rintro D xs W hD rfl ⟨hv, hB, hBs⟩ hK
  have hc := hv.cell
  gi_wp2
  refine ⟨by simp, .inl ⟨_, _, rfl, run_takeDeferred hK, ?_⟩⟩
  exact ⟨_, results_tmp rfl _ _ _, rfl, hB.trans (belowK_b (w := w) (Nat.le_refl _) W D _ _ (by simp at hD; omega) hK rfl rfl)⟩
 case stop =>
  rintro D c pre W _ _ h _
  exact h.elim
end Go.Proofs.YtfchglcclgcgfaaGreatDoor.Ut
/-
 metric.head, tail, Measure. Condition: the two tables of unicode/utf8 lie as laid.
-/
namespace Go.Proofs.YtfchglcclgcgfaaGreatDoor.Ut
open Go.RowKit Go.Proofs.YtfchglcclgcgfaaGreatDoor.Reg
set_option linter.unusedVariables false
set_option linter.unusedSimpArgs false

/-- A summary. -/
structure Sm where
 bytes : Int
 units : Int
 clusters : Int
 cells : Int
 newlines : Int
 head : ByteArray
 tail : ByteArray
def Sm.val (m : Sm) : Value := .agg #[.int .i64 m.bytes, .int .i64 m.units, .int .i64 m.clusters, .int .i64 m.cells, .int .i64 m.newlines, .string m.head, .string m.tail]
def headF (s : ByteArray) : ByteArray := s.extract 0 (min s.size 16)
def tailF (s : ByteArray) : ByteArray := s.extract (s.size - min s.size 16) s.size
def nlF (s : ByteArray) : Nat := Lib.countByte s.data.toList 10
def measF (s : ByteArray) : Sm := ⟨s.size, Lib.runeCount s, (clAts s 0).length, sumW s (clAts s 0), nlF s, headF s, tailF s⟩

theorem UnitCount_any (s : ByteArray) (w : World) (hs : s.size ≤ 140737488355328) : Calls Tryz.prog 194 #[.string s] w fun e w' => e = .returned (.int .i64 (Lib.runeCount s)) ∧ Below w.heap.size w w' := by
 go_enter Tryz.func194, Tryz.ntmps194
 go_wp2_with fail
 refine (Tryz.utf8_RuneCountInString s w (by omega)).mono ?_
 rintro e w1 ⟨rfl, pos, rfl⟩
 have hb : Below w.heap.size w (w.iter s pos) := (Below.refl _ _).alloc (Nat.le_refl _) _
 generalize w.iter s pos = w1 at *
 go_wp2
 go_ret
 exact ⟨rfl, hb⟩

theorem head_any (s : ByteArray) (w : World) : Calls Tryz.prog 198 #[.string s] w fun e w' => e = .returned (.string (headF s)) ∧ w' = w := by
 have h1 : min (s.size : Int) 16 = ((min s.size 16 : Nat) : Int) := by omega
 have h2 : min s.size 16 ≤ s.size := Nat.min_le_left _ _
 unfold headF
 generalize min s.size 16 = k at *
 have h3 : (k : Int) ≤ (s.size : Int) := by omega
 go_enter Tryz.func198, Tryz.ntmps198
 go_wp2
 go_ret
 exact ⟨rfl, rfl⟩
theorem tail_any (s : ByteArray) (w : World) (hs : s.size ≤ 140737488355328) : Calls Tryz.prog 199 #[.string s] w fun e w' => e = .returned (.string (tailF s)) ∧ w' = w := by
 have h1 : min (s.size : Int) 16 = ((min s.size 16 : Nat) : Int) := by omega
 have h2 : min s.size 16 ≤ s.size := Nat.min_le_left _ _
 unfold tailF
 generalize min s.size 16 = k at *
 have h3 : (k : Int) ≤ (s.size : Int) := by omega
 have h4 : IntKind.i64.wrap ((s.size : Int) - (k : Int)) = ((s.size - k : Nat) : Int) := by rw [IntWalk.i64_in _ (by omega)]; omega
 have h5 : (s.size : Int) - (k : Int) = ((s.size - k : Nat) : Int) := by omega
 have h6 : s.size - k ≤ s.size := by omega
 generalize s.size - k = j at *
 have h7 : (j : Int) ≤ (s.size : Int) := by omega
 go_enter Tryz.func199, Tryz.ntmps199
 go_wp2
 go_ret
 exact ⟨rfl, rfl⟩

/-- The cells of block g are vs, and may be written. -/
def Lies (W : World) (g : Nat) (vs : List Value) : Prop := g < W.heap.size ∧ ∀ j v, vs[j]? = some v → W.cell? ⟨g, j, none⟩ = some v ∧ W.frozen? ⟨g, j, none⟩ = false
theorem Lies.below {W W' : World} {g : Nat} {vs : List Value} (h : Lies W g vs) (hb : Below W.heap.size W W') : Lies W' g vs :=
 ⟨Nat.lt_of_lt_of_le h.1 hb.size, fun j v hj => ⟨(hb.cell (p := ⟨g, j, none⟩) h.1).trans (h.2 j v hj).1, (hb.frozen (p := ⟨g, j, none⟩) h.1).trans (h.2 j v hj).2⟩⟩
theorem Lies.chg {S : Nat → Prop} {W W' : World} {g : Nat} {vs : List Value} (h : Lies W g vs) (hb : Chg S W W') (hS : ¬ S g) : Lies W' g vs :=
 ⟨Nat.lt_of_lt_of_le h.1 hb.size, fun j v hj => ⟨(hb.cell (p := ⟨g, j, none⟩) h.1 hS).trans (h.2 j v hj).1, (hb.frozen (p := ⟨g, j, none⟩) h.1 hS).trans (h.2 j v hj).2⟩⟩
theorem Lies.new (W : World) (vs : List Value) (t : TypeId) : Lies (W.alloc (.cells vs.toArray t)) W.heap.size vs := by
 refine ⟨by simp, fun j v hj => ⟨?_, by simp⟩⟩
 have h : (W.alloc (.cells vs.toArray t)).cell? ⟨W.heap.size, j, none⟩ = vs.toArray[j]? := by
  generalize vs.toArray = cs
  simp
 rw [h]; simpa using hj
theorem Lies.there {W : World} {g : Nat} {vs : List Value} (h : Lies W g vs) : W.there g 0 vs.length := by
 intro j hj
 have := h.2 j vs[j] (List.getElem?_eq_getElem hj)
 simp [this]
theorem Lies.range {W : World} {g : Nat} {vs : List Value} (h : Lies W g vs) : W.rangeAt g 0 vs := fun j v hj => by simpa using (h.2 j v hj).1
theorem frozen_sets (g : Nat) : ∀ (vs : List Value) (o : Nat) (W : World) (q : Addr), (W.setCells g o vs).frozen? q = W.frozen? q
 | [], _, _, _ => rfl
 | v :: r, o, W, q => by
  have := frozen_sets g r (o + 1) (W.setCell ⟨g, o, none⟩ v) q
  exact this.trans (by simp)
theorem sets_chg (g : Nat) : ∀ (vs : List Value) (o : Nat) (W : World), Chg (fun k => k = g) W (W.setCells g o vs)
 | [], _, W => Chg.refl _ _
 | v :: r, o, W => (Chg.set W ⟨g, o, none⟩ v).trans (sets_chg g r (o + 1) _) (fun _ _ h => h)
theorem Lies.stored {W : World} {g : Nat} {vs : List Value} (h : Lies W g vs) (us : List Value) (hl : us.length = vs.length) : Lies (W.setCells g 0 us) g us := by
 refine ⟨Nat.lt_of_lt_of_le h.1 (sets_chg g us 0 W).size, fun j v hj => ⟨?_, ?_⟩⟩
 ·have := World.rangeAt_setCells_same W g 0 us (by rw [hl]; exact h.there) j v hj
  simpa using this
 ·have hj' : j < vs.length := by rw [← hl]; exact (List.getElem?_eq_some_iff.1 hj).1
  rw [frozen_sets]; exact (h.2 j _ (List.getElem?_eq_getElem hj')).2
theorem chg_mine {w W W' : World} {g : Nat} (h : Below w.heap.size w W) (hc : Chg (fun k => k = g) W W') (hg : w.heap.size ≤ g) : Below w.heap.size w W' :=
 (Chg.of_below h).trans hc (T := fun k => k = g) (S := fun k => k = g) (fun x _ h => h) |>.below_le (Nat.le_refl _) (fun x hx => by rw [hx]; exact hg)

def zero7 : List Value := [.int .i64 0, .int .i64 0, .int .i64 0, .int .i64 0, .int .i64 0, .string ⟨#[]⟩, .string ⟨#[]⟩]

set_option maxRecDepth 100000 in
set_option maxHeartbeats 1000000 in
theorem Measure_any (s : ByteArray) (w : World) (hT : Tabs w) (hs : s.size ≤ 140737488355328) : Calls Tryz.prog 185 #[.string s] w fun e w' => e = .returned (measF s).val ∧ Below w.heap.size w w' := by
 have HT := Lib.hid hT
 unfold measF Sm.val
 dsimp only
 clear hT
 go_enter Tryz.func185, Tryz.ntmps185
 go_wp2_with fail
 have k1 : Lies (w.alloc (.cells zero7.toArray 48)) w.heap.size zero7 := Lies.new _ _ _
 have b1 : Below w.heap.size w (w.alloc (.cells zero7.toArray 48)) := (Below.refl _ _).alloc (Nat.le_refl _) _
 change Calls _ _ _ (w.alloc (.cells zero7.toArray 48)) _
 generalize w.alloc (.cells zero7.toArray 48) = w1 at *
 refine (UnitCount_any s w1 hs).mono ?_
 rintro e w2 ⟨rfl, hb⟩
 have k2 := Lib.hid (k1.below hb)
 have b2 := Lib.hid (b1.trans (hb.mono b1.size))
 clear hb k1 b1
 go_wp2_with fail
 refine (ClCount_any s w2 (tabs_below HT.out b2.out) hs).mono ?_
 rintro e w3 ⟨rfl, hb⟩
 have k3 := Lib.hid (k2.out.below hb)
 have b3 := Lib.hid (b2.out.trans (hb.mono b2.out.size))
 clear hb k2 b2
 go_wp2_with fail
 refine (ClCells_any s w3 (tabs_below HT.out b3.out) hs).mono ?_
 rintro e w4 ⟨rfl, hb⟩
 have k4 := Lib.hid (k3.out.below hb)
 have b4 := Lib.hid (b3.out.trans (hb.mono b3.out.size))
 clear hb k3 b3
 go_wp2_with fail
 refine (Tryz.strings_Count_one s 10 w4).mono ?_
 rintro e w5 ⟨rfl, rfl⟩
 have hnl : (Lib.countByte s.data.toList 10 : Int) = nlF s := rfl
 rw [hnl]
 clear hnl
 go_wp2_with fail
 refine (head_any s w5).mono ?_
 rintro e w6 ⟨rfl, rfl⟩
 go_wp2_with fail
 refine (tail_any s w6 hs).mono ?_
 rintro e w7 ⟨rfl, rfl⟩
 obtain ⟨-, K⟩ := k4.out
 obtain ⟨c0, f0⟩ := K 0 _ rfl
 obtain ⟨c1, f1⟩ := K 1 _ rfl
 obtain ⟨c2, f2⟩ := K 2 _ rfl
 obtain ⟨c3, f3⟩ := K 3 _ rfl
 obtain ⟨c4, f4⟩ := K 4 _ rfl
 obtain ⟨c5, f5⟩ := K 5 _ rfl
 obtain ⟨c6, f6⟩ := K 6 _ rfl
 clear K
 have L := (Lies.stored k4.out [.int .i64 s.size, .int .i64 (Lib.runeCount s), .int .i64 (clAts s 0).length, .int .i64 (sumW s (clAts s 0)), .int .i64 (nlF s), .string (headF s), .string (tailF s)] rfl).2
 have HB := Lib.hid (chg_mine b4.out (sets_chg w.heap.size [.int .i64 s.size, .int .i64 (Lib.runeCount s), .int .i64 (clAts s 0).length, .int .i64 (sumW s (clAts s 0)), .int .i64 (nlF s), .string (headF s), .string (tailF s)] 0 w7) (Nat.le_refl _))
 have HL := Lib.hid L
 clear L
 go_wp2
 have j0 := (HL.out 0 _ rfl).1
 have j1 := (HL.out 1 _ rfl).1
 have j2 := (HL.out 2 _ rfl).1
 have j3 := (HL.out 3 _ rfl).1
 have j4 := (HL.out 4 _ rfl).1
 have j5 := (HL.out 5 _ rfl).1
 have j6 := (HL.out 6 _ rfl).1
 simp only [World.setCells] at j0 j1 j2 j3 j4 j5 j6
 refine bodyPost_ret (v := .agg #[.int .i64 s.size, .int .i64 (Lib.runeCount s), .int .i64 (clAts s 0).length, .int .i64 (sumW s (clAts s 0)), .int .i64 (nlF s), .string (headF s), .string (tailF s)]) (by simp [results, Tryz.results185, go_sem, j0, j1, j2, j3, j4, j5, j6]) rfl ⟨rfl, HB.out⟩
end Go.Proofs.YtfchglcclgcgfaaGreatDoor.Ut
/-
 Package gap: what a world holds of a buffer; held, Len. No condition.
-/
namespace Go.Proofs.YtfchglcclgcgfaaGreatDoor.Ut
open Go.RowKit Go.Proofs.YtfchglcclgcgfaaGreatDoor.Reg
set_option linter.unusedVariables false
set_option linter.unusedSimpArgs false

/-- A block of a type that holds these cells. -/
def Blk (W : World) (b : Nat) (T : TypeId) (vs : List Value) : Prop := W.heap[b]? = some (.cells vs.toArray T (0, 0))
theorem Blk.lies {W : World} {b : Nat} {T : TypeId} {vs : List Value} (h : Blk W b T vs) : Lies W b vs := by
 unfold Blk at h
 refine ⟨(Array.getElem?_eq_some_iff.1 h).1, fun j v hj => ⟨?_, by simp [World.frozen?, h]⟩⟩
 simp only [World.cell?, h]
 simpa using hj
theorem Blk.below {W W' : World} {b : Nat} {T : TypeId} {vs : List Value} (h : Blk W b T vs) (hb : Below W.heap.size W W') : Blk W' b T vs := (hb.block b h.lies.1).trans h
theorem Blk.new (W : World) (vs : List Value) (T : TypeId) : Blk (W.alloc (.cells vs.toArray T)) W.heap.size T vs := World.alloc_heap_new _ _
theorem Blk.same {W : World} {k : Nat} {T T' : TypeId} {vs us : List Value} (h : Blk W k T vs) (h' : Blk W k T' us) : T = T' := by
 unfold Blk at h h'
 rw [h] at h'
 simp at h'
 exact h'.2
theorem Blk.chg {S : Nat → Prop} {W W' : World} {b : Nat} {T : TypeId} {vs : List Value} (h : Blk W b T vs) (hb : Chg S W W') (hS : ¬ S b) : Blk W' b T vs := (hb.block b h.lies.1 hS).trans h
theorem Blk.set {W : World} {b : Nat} {T : TypeId} {vs : List Value} (h : Blk W b T vs) (k : Nat) (v : Value) : Blk (W.setCell ⟨b, k, none⟩ v) b T (vs.set k v) := by
 unfold Blk at *
 simp [World.setCell, Array.getElem?_modify, h]
/-- A buffer in block b, its array in block g, of bytes r; the gap from fr to to. -/
structure Gap (W : World) (b g : Nat) (r : ByteArray) (fr tq lim : Nat) : Prop where
 box : Blk W b 107 [.slice (some ⟨g, 0, none⟩) r.size r.size, .int .i64 fr, .int .i64 tq, .int .i64 lim]
 row : W.heap[g]? = some (.cells (Lib.byteCells r.data.toList).toArray 5 (0, 0))
 ne : b ≠ g
 h1 : fr ≤ tq
 h2 : tq ≤ r.size
 h64 : 64 ≤ r.size
 hm : r.size ≤ 4294967296
theorem Gap.lt {W : World} {b g : Nat} {r : ByteArray} {fr tq lim : Nat} (h : Gap W b g r fr tq lim) : g < W.heap.size := (Array.getElem?_eq_some_iff.1 h.row).1
theorem Gap.below {W W' : World} {b g : Nat} {r : ByteArray} {fr tq lim : Nat} (h : Gap W b g r fr tq lim) (hb : Below W.heap.size W W') : Gap W' b g r fr tq lim :=
 ⟨h.box.below hb, (hb.block g h.lt).trans h.row, h.ne, h.h1, h.h2, h.h64, h.hm⟩
theorem Gap.chg {S : Nat → Prop} {W W' : World} {b g : Nat} {r : ByteArray} {fr tq lim : Nat} (h : Gap W b g r fr tq lim) (hb : Chg S W W') (h1 : ¬ S b) (h2 : ¬ S g) : Gap W' b g r fr tq lim :=
 ⟨h.box.chg hb h1, (hb.block g h.lt h2).trans h.row, h.ne, h.h1, h.h2, h.h64, h.hm⟩
/-- The text. -/
def gtext (r : ByteArray) (fr tq : Nat) : ByteArray := r.extract 0 fr ++ r.extract tq r.size
theorem gtext_size {r : ByteArray} {fr tq : Nat} (h1 : fr ≤ tq) (h2 : tq ≤ r.size) : (gtext r fr tq).size = r.size - (tq - fr) := by
 unfold gtext; simp [ByteArray.size_append, ByteArray.size_extract]; omega

theorem Gap.bytes {W : World} {b g : Nat} {r : ByteArray} {fr tq lim : Nat} (h : Gap W b g r fr tq lim) : Lib.Bytes W g 0 r := by
 intro i hi
 have hlt : i < (Lib.byteCells r.data.toList).length := by rw [Lib.byteCells_length, ← Lib.size_eq]; exact hi
 simp only [World.cell?, h.row]
 simp [Lib.byteCells, hi]
 rfl

theorem held_any (n : Int) (w : World) : Calls Tryz.prog 54 #[.int .i64 n] w fun e w' => e = .returned (.int .i64 (min (max n 0) 1073741824)) ∧ w' = w := by
 go_enter Tryz.func54, Tryz.ntmps54
 go_wp2
 go_ret
 exact ⟨rfl, rfl⟩

theorem GapLen_any (b g : Nat) (r : ByteArray) (fr tq lim : Nat) (w : World) (h : Gap w b g r fr tq lim) : Calls Tryz.prog 231 #[.pointer (some ⟨b, 0, none⟩)] w fun e w' => e = .returned (.int .i64 ((gtext r fr tq).size)) ∧ Below w.heap.size w w' := by
 have hs := gtext_size h.h1 h.h2
 obtain ⟨c0, f0⟩ := h.box.lies.2 0 _ rfl
 obtain ⟨c1, f1⟩ := h.box.lies.2 1 _ rfl
 obtain ⟨c2, f2⟩ := h.box.lies.2 2 _ rfl
 have h1 := h.h1
 have h2 := h.h2
 have hm := h.hm
 have e1 : IntKind.i64.wrap ((tq : Int) - (fr : Int)) = (tq : Int) - (fr : Int) := IntWalk.i64_in _ (by omega)
 have e2 : IntKind.i64.wrap ((r.size : Int) - ((tq : Int) - (fr : Int))) = (r.size : Int) - ((tq : Int) - (fr : Int)) := IntWalk.i64_in _ (by omega)
 have e3 : (r.size : Int) - ((tq : Int) - (fr : Int)) = ((gtext r fr tq).size : Int) := by omega
 generalize (gtext r fr tq).size = k at *
 clear h
 go_enter Tryz.func231, Tryz.ntmps231
 go_wp2
 go_quiet (fail)
 go_wp2
 go_ret
 exact ⟨by simp; omega, Drawn.below _⟩

/-- Where a piece of a row from l on begins. -/
def offs (n l : Nat) : Nat := if n = l then 0 else l
set_option maxRecDepth 100000 in
theorem conv_at (g n l k c : Nat) (r : ByteArray) (hl : l ≤ k) (hn : n = r.size) (hk : k ≤ n) (W : World) (hb : Lib.Bytes W g 0 r) :
  (Go.convert 74 9 (.slice (some ⟨g, offs n l, none⟩) (k - l) c)).run Tryz.prog W = .ok (.string (r.extract l k)) W := by
 unfold offs
 by_cases h0 : n = l
 ·obtain rfl : k = n := by omega
  subst h0
  rw [if_pos rfl, Nat.sub_self]
  have := Lib.run_convert_window (P := Tryz.prog) W 74 5 9 Tryz.underlying74 Tryz.underlying5 Tryz.underlying9 g 0 r hb 0 0 c (by omega)
  simp only [Nat.add_zero] at this
  rw [this]
  congr 2
  apply ByteArray.ext
  apply Array.ext <;> simp <;> omega
 ·rw [if_neg h0]
  have := Lib.run_convert_window (P := Tryz.prog) W 74 5 9 Tryz.underlying74 Tryz.underlying5 Tryz.underlying9 g 0 r hb l (k - l) c (by omega)
  rw [Nat.zero_add, show l + (k - l) = k by omega] at this
  exact this

set_option maxRecDepth 100000 in
theorem Halves_any (b g : Nat) (r : ByteArray) (fr tq lim : Nat) (w : World) (h : Gap w b g r fr tq lim) : Calls Tryz.prog 238 #[.pointer (some ⟨b, 0, none⟩)] w fun e w' => e = .returned (.tuple #[.string (r.extract 0 fr), .string (r.extract tq r.size)]) ∧ Below w.heap.size w w' := by
 obtain ⟨c0, f0⟩ := h.box.lies.2 0 _ rfl
 obtain ⟨c1, f1⟩ := h.box.lies.2 1 _ rfl
 obtain ⟨c2, f2⟩ := h.box.lies.2 2 _ rfl
 have h1 := h.h1
 have h2 := h.h2
 have hm := h.hm
 have hB := h.bytes
 have i1 : (fr : Int) ≤ (r.size : Int) := by omega
 have i2 : (tq : Int) ≤ (r.size : Int) := by omega
 have v1 := fun c W hb => conv_at g r.size 0 fr c r (by omega) rfl (by omega) W hb
 have v2 := fun c W hb => conv_at g r.size tq r.size c r (by omega) rfl (by omega) W hb
 have o0 : offs r.size 0 = 0 := by unfold offs; split <;> rfl
 rw [o0] at v1
 have cv1 : ∀ (c q : Nat), (Go.convert 74 9 (.slice (some ⟨g, 0, none⟩) fr c)).run Tryz.prog (w.drewN q) = .ok (.string (r.extract 0 fr)) (w.drewN q) := fun c q => by simpa using v1 c _ (hB.drewN q)
 have cv1' : ∀ (c : Nat), (Go.convert 74 9 (.slice (some ⟨g, 0, none⟩) fr c)).run Tryz.prog w = .ok (.string (r.extract 0 fr)) w := fun c => by simpa using v1 c _ hB
 have cv2 : ∀ (c q : Nat), (Go.convert 74 9 (.slice (some ⟨g, offs r.size tq, none⟩) (r.size - tq) c)).run Tryz.prog (w.drewN q) = .ok (.string (r.extract tq r.size)) (w.drewN q) := fun c q => v2 c _ (hB.drewN q)
 have cv2' : ∀ (c : Nat), (Go.convert 74 9 (.slice (some ⟨g, offs r.size tq, none⟩) (r.size - tq) c)).run Tryz.prog w = .ok (.string (r.extract tq r.size)) w := fun c => v2 c _ hB
 clear v1 v2 o0
 have HB := Lib.hid hB
 clear h hB
 by_cases he : r.size = tq
 ·subst he
  have e : offs r.size r.size = 0 := by unfold offs; rw [if_pos rfl]
  rw [e, Nat.sub_self] at cv2 cv2'
  go_enter Tryz.func238, Tryz.ntmps238
  go_wp2
  go_quiet (fail)
  go_wp2
  refine bodyPost_ret (v := .tuple #[.string (r.extract 0 fr), .string (r.extract r.size r.size)]) (by simp [results, Tryz.results238, go_sem]) rfl ⟨rfl, Drawn.below _⟩
 ·have e : offs r.size tq = tq := by unfold offs; rw [if_neg he]
  rw [e] at cv2 cv2'
  go_enter Tryz.func238, Tryz.ntmps238
  go_wp2
  go_quiet (fail)
  go_wp2
  refine bodyPost_ret (v := .tuple #[.string (r.extract 0 fr), .string (r.extract tq r.size)]) (by simp [results, Tryz.results238, go_sem]) rfl ⟨rfl, Drawn.below _⟩

end Go.Proofs.YtfchglcclgcgfaaGreatDoor.Ut
/-
 Package gap: piece, Slice, Measure. Condition (Measure): the two tables of unicode/utf8 lie as laid.
-/
namespace Go.Proofs.YtfchglcclgcgfaaGreatDoor.Ut
open Go.RowKit Go.Proofs.YtfchglcclgcgfaaGreatDoor.Reg
set_option linter.unusedVariables false
set_option linter.unusedSimpArgs false

theorem ext_of_list {a b : ByteArray} (h : a.data.toList = b.data.toList) : a = b := by
 apply ByteArray.ext; exact Array.toList_inj.1 h
theorem extract_list (s : ByteArray) (a b : Nat) : (s.extract a b).data.toList = (s.data.toList.drop a).take (b - a) := Lib.extract_data s a b
theorem gtext_list (r : ByteArray) (fr tq : Nat) (h : tq ≤ r.size) : (gtext r fr tq).data.toList = r.data.toList.take fr ++ r.data.toList.drop tq := by
 unfold gtext
 rw [ByteArray.data_append, Array.toList_append, extract_list, extract_list]
 simp only [List.drop_zero, Nat.sub_zero]
 rw [List.take_of_length_le (l := List.drop tq r.data.toList)]
 rw [List.length_drop, ← Lib.size_eq]
 exact Nat.le_refl _
theorem piece_low {r : ByteArray} {fr tq i j : Nat} (h2 : tq ≤ r.size) (h1 : fr ≤ tq) (hj : j ≤ fr) (hij : i ≤ j) : (gtext r fr tq).extract i j = r.extract i j := by
 apply ext_of_list
 rw [extract_list, extract_list, gtext_list _ _ _ h2]
 have hl : (r.data.toList.take fr).length = fr := by rw [List.length_take, ← Lib.size_eq]; omega
 rw [List.drop_append_of_le_length (by omega), List.take_append_of_le_length (by rw [List.length_drop, hl]; omega), List.drop_take, List.take_take]
 congr 1; omega
theorem piece_high {r : ByteArray} {fr tq i j : Nat} (h2 : tq ≤ r.size) (h1 : fr ≤ tq) (hi : fr ≤ i) (hij : i ≤ j) (hj : j ≤ (gtext r fr tq).size) : (gtext r fr tq).extract i j = r.extract (i + (tq - fr)) (j + (tq - fr)) := by
 apply ext_of_list
 rw [extract_list, extract_list, gtext_list _ _ _ h2]
 have hl : (r.data.toList.take fr).length = fr := by rw [List.length_take, ← Lib.size_eq]; omega
 rw [List.drop_append, hl, List.drop_eq_nil_of_le (by omega), List.nil_append, List.drop_drop]
 congr 1
 ·omega
 ·congr 1; omega
theorem piece_mid {r : ByteArray} {fr tq i j : Nat} (h2 : tq ≤ r.size) (h1 : fr ≤ tq) (hi : i ≤ fr) (hj0 : fr ≤ j) (hj : j ≤ (gtext r fr tq).size) : (gtext r fr tq).extract i j = r.extract i fr ++ r.extract tq (j + (tq - fr)) := by
 apply ext_of_list
 rw [ByteArray.data_append, Array.toList_append, extract_list, extract_list, extract_list, gtext_list _ _ _ h2]
 have hl : (r.data.toList.take fr).length = fr := by rw [List.length_take, ← Lib.size_eq]; omega
 rw [List.drop_append_of_le_length (by omega), List.take_append, List.length_drop, hl, List.drop_take, List.take_take]
 congr 1
 ·congr 1; omega
 ·congr 1; omega

theorem drewN_drewN (w : World) (a b : Nat) : (w.drewN a).drewN b = w.drewN (a + b) := by simp [World.drewN, Nat.add_assoc]
theorem conv_at' {g : Nat} {r : ByteArray} {W : World} (hb : Lib.Bytes W g 0 r) (l k n : Nat) (hl : l ≤ k) (hn : n = r.size) (hk : k ≤ n) : ∀ (c q : Nat), (Go.convert 74 9 (.slice (some ⟨g, offs n l, none⟩) (k - l) c)).run Tryz.prog (W.drewN q) = .ok (.string (r.extract l k)) (W.drewN q) := fun c q =>
 conv_at g n l k c r hl hn hk _ (hb.drewN q)
theorem conv_at0 {g : Nat} {r : ByteArray} {W : World} (hb : Lib.Bytes W g 0 r) (l k n : Nat) (hl : l ≤ k) (hn : n = r.size) (hk : k ≤ n) : ∀ (c : Nat), (Go.convert 74 9 (.slice (some ⟨g, offs n l, none⟩) (k - l) c)).run Tryz.prog W = .ok (.string (r.extract l k)) W := fun c =>
 conv_at g n l k c r hl hn hk _ hb

set_option maxRecDepth 100000 in
set_option maxHeartbeats 1000000 in
theorem piece_any (b g : Nat) (r : ByteArray) (fr tq lim : Nat) (i j : Nat) (w : World) (h : Gap w b g r fr tq lim) (hij : i ≤ j) (hj : j ≤ (gtext r fr tq).size) : Calls Tryz.prog 236 #[.pointer (some ⟨b, 0, none⟩), .int .i64 i, .int .i64 j] w fun e w' => e = .returned (.string ((gtext r fr tq).extract i j)) ∧ Below w.heap.size w w' := by
 obtain ⟨R, hR⟩ : ∃ R, (gtext r fr tq).extract i j = R := ⟨_, rfl⟩
 rw [hR]
 obtain ⟨c0, f0⟩ := h.box.lies.2 0 _ rfl
 obtain ⟨c1, f1⟩ := h.box.lies.2 1 _ rfl
 obtain ⟨c2, f2⟩ := h.box.lies.2 2 _ rfl
 have h1 := h.h1
 have h2 := h.h2
 have hm := h.hm
 have hB := h.bytes
 have hsz := gtext_size h1 h2
 have eg : (tq : Int) - (fr : Int) = ((tq - fr : Nat) : Int) := by omega
 have ew : IntKind.i64.wrap ((tq : Int) - (fr : Int)) = (tq : Int) - (fr : Int) := IntWalk.i64_in _ (by omega)
 have ew2 : IntKind.i64.wrap ((tq - fr : Nat) : Int) = ((tq - fr : Nat) : Int) := IntWalk.i64_in _ (by omega)
 have ei : IntKind.i64.wrap ((i : Int) + ((tq - fr : Nat) : Int)) = (i : Int) + ((tq - fr : Nat) : Int) := IntWalk.i64_in _ (by omega)
 have ej : IntKind.i64.wrap ((j : Int) + ((tq - fr : Nat) : Int)) = (j : Int) + ((tq - fr : Nat) : Int) := IntWalk.i64_in _ (by omega)
 have ei2 : (i : Int) + ((tq - fr : Nat) : Int) = ((i + (tq - fr) : Nat) : Int) := by omega
 have ej2 : (j : Int) + ((tq - fr : Nat) : Int) = ((j + (tq - fr) : Nat) : Int) := by omega
 have hi0 : (0 : Int) ≤ (i : Int) := by omega
 have hij' : (i : Int) ≤ (j : Int) := by omega
 clear h
 by_cases hlo : j ≤ fr
 ·rw [piece_low h2 h1 hlo hij] at hR
  have cv := conv_at' hB i j r.size hij rfl (by omega)
  have cv0 := conv_at0 hB i j r.size hij rfl (by omega)
  rw [hR] at cv cv0
  have hlo' : (j : Int) ≤ (fr : Int) := by omega
  have hjr : (j : Int) ≤ (r.size : Int) := by omega
  clear hB hR ei ej ei2 ej2 hsz
  by_cases he : r.size = i
  ·have hji : j - i = 0 := by omega
   rw [hji] at cv cv0
   have o : offs r.size i = 0 := by unfold offs; rw [if_pos he]
   rw [o] at cv cv0
   obtain rfl : j = i := by omega
   subst he
   clear hji o
   go_enter Tryz.func236, Tryz.ntmps236
   go_wp2
   go_quiet (fail)
   go_wp2
   go_ret
   exact ⟨rfl, Drawn.below _⟩
  ·have o : offs r.size i = i := by unfold offs; rw [if_neg he]
   rw [o] at cv cv0
   clear o
   go_enter Tryz.func236, Tryz.ntmps236
   go_wp2
   go_quiet (fail)
   go_wp2
   go_ret
   exact ⟨rfl, Drawn.below _⟩
 ·have hlo' : ¬ (j : Int) ≤ (fr : Int) := by omega
  by_cases hhi : fr ≤ i
  ·rw [piece_high h2 h1 hhi hij hj] at hR
   have hsub : j + (tq - fr) - (i + (tq - fr)) = j - i := by omega
   have cv := conv_at' hB (i + (tq - fr)) (j + (tq - fr)) r.size (by omega) rfl (by omega)
   have cv0 := conv_at0 hB (i + (tq - fr)) (j + (tq - fr)) r.size (by omega) rfl (by omega)
   rw [hR, hsub] at cv cv0
   have hhi' : (fr : Int) ≤ (i : Int) := by omega
   have hjr : ((j + (tq - fr) : Nat) : Int) ≤ (r.size : Int) := by omega
   have hir : ((i + (tq - fr) : Nat) : Int) ≤ ((j + (tq - fr) : Nat) : Int) := by omega
   clear hB hR hj hsz
   generalize i + (tq - fr) = i' at *
   generalize j + (tq - fr) = j' at *
   by_cases he : r.size = i'
   ·have o : offs r.size i' = 0 := by unfold offs; rw [if_pos he]
    rw [o] at cv cv0
    obtain rfl : j' = i' := by omega
    subst he
    clear o
    go_enter Tryz.func236, Tryz.ntmps236
    go_wp2
    go_quiet (fail)
    go_wp2
    go_ret
    exact ⟨rfl, Drawn.below _⟩
   ·have o : offs r.size i' = i' := by unfold offs; rw [if_neg he]
    rw [o] at cv cv0
    clear o
    go_enter Tryz.func236, Tryz.ntmps236
    go_wp2
    go_quiet (fail)
    go_wp2
    go_ret
    exact ⟨rfl, Drawn.below _⟩
  ·rw [piece_mid h2 h1 (by omega) (by omega) hj] at hR
   have cv := conv_at' hB i fr r.size (by omega) rfl (by omega)
   have cv0 := conv_at0 hB i fr r.size (by omega) rfl (by omega)
   have cw := conv_at' hB tq (j + (tq - fr)) r.size (by omega) rfl (by omega)
   have cw0 := conv_at0 hB tq (j + (tq - fr)) r.size (by omega) rfl (by omega)
   have o1 : offs r.size i = i := by unfold offs; rw [if_neg (by omega)]
   have o2 : offs r.size tq = tq := by unfold offs; rw [if_neg (by omega)]
   have hz : ¬ 9223372036854775807 < (r.extract i fr).size + (r.extract tq (j + (tq - fr))).size := by simp [ByteArray.size_extract]; omega
   rw [o1] at cv cv0
   rw [o2] at cw cw0
   generalize r.extract i fr = x at *
   generalize r.extract tq (j + (tq - fr)) = y at *
   have HR := Lib.hid hR
   have hhi' : ¬ (fr : Int) ≤ (i : Int) := by omega
   have hfr : (fr : Int) ≤ (r.size : Int) := by omega
   have hif : (i : Int) ≤ (fr : Int) := by omega
   have hjr : ((j + (tq - fr) : Nat) : Int) ≤ (r.size : Int) := by omega
   have hir : (tq : Int) ≤ ((j + (tq - fr) : Nat) : Int) := by omega
   have n1 : ¬ r.size = i := by omega
   have n2 : ¬ r.size = tq := by omega
   clear hB hR hj hsz o1 o2
   generalize j + (tq - fr) = j' at *
   go_enter Tryz.func236, Tryz.ntmps236
   go_wp2
   go_quiet (fail)
   go_wp2
   have d0 : (w.drewN nq).cell? ⟨b, 0, none⟩ = _ := c0
   have d1 : (w.drewN nq).cell? ⟨b, 1, none⟩ = _ := c1
   have d2 : (w.drewN nq).cell? ⟨b, 2, none⟩ = _ := c2
   have av : ∀ (c q : Nat), (Go.convert 74 9 (.slice (some ⟨g, i, none⟩) (fr - i) c)).run Tryz.prog ((w.drewN nq).drewN q) = .ok (.string x) ((w.drewN nq).drewN q) := fun c q => by rw [drewN_drewN]; exact cv c _
   have aw : ∀ (c q : Nat), (Go.convert 74 9 (.slice (some ⟨g, tq, none⟩) (j' - tq) c)).run Tryz.prog ((w.drewN nq).drewN q) = .ok (.string y) ((w.drewN nq).drewN q) := fun c q => by rw [drewN_drewN]; exact cw c _
   have av0 := fun c => cv c nq
   have aw0 := fun c => cw c nq
   have hD := Lib.hid (Drawn.below (w := w) nq)
   clear cv cw cv0 cw0 c0 c1 c2 f0 f1 f2
   generalize w.drewN nq = w1 at *
   go_quiet (fail)
   go_wp2
   go_ret
   exact ⟨by rw [← HR.out]; rfl, hD.out.trans ((Drawn.below _).mono hD.out.size)⟩

set_option maxRecDepth 100000 in
theorem GapSlice_any (b g : Nat) (r : ByteArray) (fr tq lim : Nat) (i j : Nat) (w : World) (h : Gap w b g r fr tq lim) (hij : i ≤ j) (hj : j ≤ (gtext r fr tq).size) : Calls Tryz.prog 234 #[.pointer (some ⟨b, 0, none⟩), .int .i64 i, .int .i64 j] w fun e w' => e = .returned (.tuple #[.string ((gtext r fr tq).extract i j), .int .i64 0]) ∧ Below w.heap.size w w' := by
 have H := Lib.hid h
 have h0 : ¬ (i : Int) < 0 := by omega
 have h1 : ¬ (j : Int) < (i : Int) := by omega
 have h2 : ¬ ((gtext r fr tq).size : Int) < (j : Int) := by omega
 clear h
 go_enter Tryz.func234, Tryz.ntmps234
 go_wp2_with fail
 refine (GapLen_any b g r fr tq lim w H.out).mono ?_
 rintro e w1 ⟨rfl, hb⟩
 have H1 := Lib.hid (H.out.below hb)
 have HB := Lib.hid hb
 clear hb H
 go_wp2_with fail
 refine (piece_any b g r fr tq lim i j w1 H1.out hij hj).mono ?_
 rintro e w2 ⟨rfl, hb⟩
 have HB2 := Lib.hid (HB.out.trans (hb.mono HB.out.size))
 clear hb HB H1
 obtain ⟨R, hR⟩ : ∃ R, (gtext r fr tq).extract i j = R := ⟨_, rfl⟩
 have HR := Lib.hid hR
 rw [hR]
 clear hR
 go_wp2
 refine bodyPost_ret (v := .tuple #[.string R, .int .i64 0]) (by simp [results, Tryz.results234, go_sem]) rfl ⟨by rw [HR.out], HB2.out⟩

set_option maxRecDepth 100000 in
set_option maxHeartbeats 1000000 in
theorem GapMeasure_any (b g : Nat) (r : ByteArray) (fr tq lim : Nat) (i j : Nat) (w : World) (h : Gap w b g r fr tq lim) (hT : Tabs w) (hij : i ≤ j) (hj : j ≤ (gtext r fr tq).size) : Calls Tryz.prog 232 #[.pointer (some ⟨b, 0, none⟩), .int .i64 i, .int .i64 j] w fun e w' => e = .returned (.tuple #[(measF ((gtext r fr tq).extract i j)).val, .int .i64 0]) ∧ Below w.heap.size w w' := by
 have hsz : (gtext r fr tq).size ≤ 140737488355328 := by
  have := gtext_size h.h1 h.h2; have := h.hm; omega
 have k1 : Lies (w.alloc (.cells zero7.toArray 48)) w.heap.size zero7 := Lies.new _ _ _
 have b1 : Below w.heap.size w (w.alloc (.cells zero7.toArray 48)) := (Below.refl _ _).alloc (Nat.le_refl _) _
 have H1 := Lib.hid (h.below b1)
 have T1 := Lib.hid (tabs_below hT b1)
 have K1 := Lib.hid k1
 have B1 := Lib.hid b1
 clear h hT k1 b1
 go_enter Tryz.func232, Tryz.ntmps232
 go_wp2_with fail
 change Calls _ _ _ (w.alloc (.cells zero7.toArray 48)) _
 generalize w.alloc (.cells zero7.toArray 48) = w1 at *
 refine (GapSlice_any b g r fr tq lim i j w1 H1.out hij hj).mono ?_
 rintro e w2 ⟨rfl, hb⟩
 have k2 := Lib.hid (K1.out.below hb)
 have b2 := Lib.hid (B1.out.trans (hb.mono B1.out.size))
 have T2 := Lib.hid (tabs_below T1.out hb)
 have hrs : ((gtext r fr tq).extract i j).size ≤ 140737488355328 := by simp [ByteArray.size_extract]; omega
 clear hb K1 B1 T1 H1
 obtain ⟨R, hR⟩ : ∃ R, (gtext r fr tq).extract i j = R := ⟨_, rfl⟩
 rw [hR] at hrs
 have HR := Lib.hid hR
 rw [hR]
 clear hR
 go_wp2_with fail
 refine (Measure_any R w2 T2.out hrs).mono ?_
 rintro e w3 ⟨rfl, hb⟩
 have k3 := Lib.hid (k2.out.below hb)
 have b3 := Lib.hid (b2.out.trans (hb.mono b2.out.size))
 clear hb k2 b2 T2
 have hv : ∃ m, measF R = m := ⟨_, rfl⟩
 obtain ⟨m, hm⟩ := hv
 have HM := Lib.hid hm
 rw [hm]
 clear hm
 have L := (Lies.stored k3.out [.int .i64 m.bytes, .int .i64 m.units, .int .i64 m.clusters, .int .i64 m.cells, .int .i64 m.newlines, .string m.head, .string m.tail] rfl).2
 have HB := Lib.hid (chg_mine b3.out (sets_chg w.heap.size [.int .i64 m.bytes, .int .i64 m.units, .int .i64 m.clusters, .int .i64 m.cells, .int .i64 m.newlines, .string m.head, .string m.tail] 0 w3) (Nat.le_refl _))
 have HL := Lib.hid L
 clear L
 obtain ⟨-, K⟩ := k3.out
 obtain ⟨c0, f0⟩ := K 0 _ rfl
 obtain ⟨c1, f1⟩ := K 1 _ rfl
 obtain ⟨c2, f2⟩ := K 2 _ rfl
 obtain ⟨c3, f3⟩ := K 3 _ rfl
 obtain ⟨c4, f4⟩ := K 4 _ rfl
 obtain ⟨c5, f5⟩ := K 5 _ rfl
 obtain ⟨c6, f6⟩ := K 6 _ rfl
 clear K
 unfold Sm.val
 go_wp2
 have j0 := (HL.out 0 _ rfl).1
 have j1 := (HL.out 1 _ rfl).1
 have j2 := (HL.out 2 _ rfl).1
 have j3 := (HL.out 3 _ rfl).1
 have j4 := (HL.out 4 _ rfl).1
 have j5 := (HL.out 5 _ rfl).1
 have j6 := (HL.out 6 _ rfl).1
 simp only [World.setCells] at j0 j1 j2 j3 j4 j5 j6
 refine bodyPost_ret (v := .tuple #[m.val, .int .i64 0]) (by simp [results, Tryz.results232, go_sem, j0, j1, j2, j3, j4, j5, j6, Sm.val]) rfl ⟨?_, HB.out⟩
 rw [← HM.out, ← HR.out]
end Go.Proofs.YtfchglcclgcgfaaGreatDoor.Ut
