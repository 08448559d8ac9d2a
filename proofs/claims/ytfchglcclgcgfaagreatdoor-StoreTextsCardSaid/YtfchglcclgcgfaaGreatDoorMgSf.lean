/-
  What the proof of the laws S rests on: the texts GapD. Conditions: each theorem names its own.
-/
import Derived.Test.YtfchglcclgcgfaaGreatDoorMgSe
import Derived.Laws.IdiomCopy
/-
 Package gap: move. No condition.
-/
namespace Go.Proofs.YtfchglcclgcgfaaGreatDoor.Ut
open Go.RowKit Go.Proofs.YtfchglcclgcgfaaGreatDoor.Reg
set_option linter.unusedVariables false
set_option linter.unusedSimpArgs false

/-- Bytes are copied within a row. -/
theorem copyB_at {W : World} {g : Nat} {l : List UInt8} (h : RowIs W g l) (o p n dLen dCap k sCap : Nat) (hn : n = l.length) (h1 : k ≤ dLen) (h2 : o + k ≤ n) (h3 : p + k ≤ n) :
  ∃ W', (Builtin.copy_ #[74, 74] 3 #[.slice (some ⟨g, offs n o, none⟩) dLen dCap, .slice (some ⟨g, offs n p, none⟩) k sCap]).run Tryz.prog W = .ok (goInt k) W' ∧ RowIs W' g (l.take o ++ (l.drop p).take k ++ l.drop (o + k)) ∧ Chg (fun x => x = g) W W' := by
 have hz : (Tryz.prog.info? 5).map (·.size) = some 1 := by kernel_rfl
 rcases Nat.eq_zero_or_pos k with h0 | h0
 ·subst h0
  refine ⟨W, ?_, ?_, Chg.refl _ _⟩
  ·have := run_copy_none (P := Tryz.prog) W 74 74 3 5 (some ⟨g, offs n o, none⟩) (some ⟨g, offs n p, none⟩) dLen dCap 0 sCap Tryz.underlying74 hz (by simp)
   exact this
  ·simpa using h
 ·have eo : offs n o = o := by unfold offs; rw [if_neg (by omega)]
  have ep : offs n p = p := by unfold offs; rw [if_neg (by omega)]
  rw [eo, ep]
  have hcs : ((l.drop p).take k).length = k := by simp; omega
  have hbl : (Lib.byteCells ((l.drop p).take k)).length = k := by rw [Lib.byteCells_length, hcs]
  have := run_copy_row (P := Tryz.prog) W 74 74 3 5 g o dLen dCap ⟨g, p, none⟩ k sCap _ _ (Lib.byteCells ((l.drop p).take k)) Tryz.underlying74 hz h (by rw [hbl]; exact (Nat.min_eq_left h1).symm) (fun j v hj => ?_) (by rw [hbl]; simp [Lib.byteCells]; omega) (Lib.byteCells_one _)
  ·rw [hbl] at this
   refine ⟨_, this, ?_, setRow_chg _ _ _⟩
   have h4 := setRow_heap W g _ ((Lib.byteCells l).toArray.toList.take o ++ Lib.byteCells ((l.drop p).take k) ++ (Lib.byteCells l).toArray.toList.drop (o + k)).toArray _ _ h
   unfold RowIs
   rw [h4]
   simp only [byteCells_take, byteCells_drop, ← Lib.byteCells_append]
  ·have hjk : j < k := by have := (List.getElem?_eq_some_iff.1 hj).1; omega
   have hadd : (⟨g, p, none⟩ : Addr).add j = ⟨g, p + j, none⟩ := by unfold Addr.add; split <;> simp_all
   rw [hadd]
   unfold RowIs at h
   simp only [World.cell?, h]
   have e : (Lib.byteCells ((l.drop p).take k))[j]? = (Lib.byteCells l)[p + j]? := by
    rw [← byteCells_take, ← byteCells_drop, List.getElem?_take, if_pos hjk, List.getElem?_drop]
   rw [e] at hj
   simpa using hj

theorem wpList_copyR {ops : Array Oper} {rest : List Oper} {o : Oper} {a : Act} {Q : Exit → Act → World → Prop} {w : World} (hgd : o.guard = none) (d s : Operand) (t t' : TypeId)
  (ho : o.op = .call { callee := .builtin .copy, args := #[d, s], argTypes := #[t, t'] }) (v u : Value) (hd : a.eval d = v) (hs : a.eval s = u) {v' : Value} {w' : World}
  (hr : (Builtin.copy_ #[t, t'] o.type #[v, u]).run Tryz.prog w = .ok v' w') (h : wpList Tryz.prog ops Q rest (a.put o.dst v') w') : wpList Tryz.prog ops Q (o :: rest) a w := by
 refine wpList_plain hgd fun K hK => ?_
 unfold Oper.wp
 simp [execOp, ho, resolve, invoke, builtin, hd, hs, hr, Result.andThen]
 exact hK _ _ h
/-- The row behind a move. -/
def moveL (l : List UInt8) (fr tv a : Nat) : List UInt8 := if a < fr then l.take (tv - (fr - a)) ++ (l.drop a).take (fr - a) ++ l.drop (tv - (fr - a) + (fr - a)) else l.take fr ++ (l.drop tv).take (a - fr) ++ l.drop (fr + (a - fr))
theorem take_drop_take {l : List UInt8} {a f : Nat} (h : a ≤ f) : l.take a ++ (l.drop a).take (f - a) = l.take f := by
 rw [show f = a + (f - a) by omega, List.take_add]; congr 2; omega
theorem moveL_len {l : List UInt8} {fr tv a : Nat} (h1 : fr ≤ tv) (h2 : tv ≤ l.length) (ha : a ≤ l.length - (tv - fr)) : (moveL l fr tv a).length = l.length := by
 unfold moveL; split <;> simp <;> omega
theorem moveL_text {l : List UInt8} {fr tv a : Nat} (h1 : fr ≤ tv) (h2 : tv ≤ l.length) (ha : a ≤ l.length - (tv - fr)) :
  (moveL l fr tv a).take a ++ (moveL l fr tv a).drop (a + (tv - fr)) = l.take fr ++ l.drop tv := by
 unfold moveL
 split
 ·rename_i h
  have e1 : (l.take (tv - (fr - a)) ++ (l.drop a).take (fr - a) ++ l.drop (tv - (fr - a) + (fr - a))).take a = l.take a := by
   rw [List.append_assoc, List.take_append_of_le_length (by simp; omega), List.take_take]; congr 1; omega
  have e2 : (l.take (tv - (fr - a)) ++ (l.drop a).take (fr - a) ++ l.drop (tv - (fr - a) + (fr - a))).drop (a + (tv - fr)) = (l.drop a).take (fr - a) ++ l.drop tv := by
   rw [List.append_assoc, List.drop_left' (by simp; omega)]
   congr 2; omega
  rw [e1, e2, ← List.append_assoc, take_drop_take (by omega)]
 ·rename_i h
  have e1 : (l.take fr ++ (l.drop tv).take (a - fr) ++ l.drop (fr + (a - fr))).take a = l.take fr ++ (l.drop tv).take (a - fr) := by
   rw [List.take_left' (by simp; omega)]
  have e2 : (l.take fr ++ (l.drop tv).take (a - fr) ++ l.drop (fr + (a - fr))).drop (a + (tv - fr)) = l.drop (tv + (a - fr)) := by
   rw [List.drop_append, List.drop_eq_nil_of_le (by simp; omega), List.nil_append, List.drop_drop]
   congr 1; simp; omega
  rw [e1, e2, List.append_assoc]
  congr 1
  have : l.drop (tv + (a - fr)) = (l.drop tv).drop (a - fr) := by rw [List.drop_drop]
  rw [this, List.take_append_drop]

def VMv3 (b g N fr tv k a M : Nat) : Nat → Value → World → Prop := fun d x w => match d with
 | 15 => x = .pointer (some ⟨b, 0, none⟩)
 | 16 => x = .pointer (some ⟨b, 0, none⟩)
 | 17 => x = .pointer (some ⟨b, 0, none⟩)
 | 18 => x = .slice (some ⟨g, 0, none⟩) N N
 | 19 => x = .pointer (some ⟨b, 0, none⟩)
 | 20 => x = .pointer (some ⟨b, 0, none⟩)
 | 21 => x = .pointer (some ⟨b, 2, none⟩)
 | 22 => x = .int .i64 tv
 | 23 => x = .int .i64 k
 | 24 => x = .int .i64 M
 | 25 => x = .slice (some ⟨g, M, none⟩) (N - M) (N - M)
 | 26 => x = .pointer (some ⟨b, 0, none⟩)
 | 27 => x = .pointer (some ⟨b, 0, none⟩)
 | 28 => x = .pointer (some ⟨b, 0, none⟩)
 | 29 => x = .slice (some ⟨g, 0, none⟩) N N
 | 30 => x = .int .i64 a
 | 31 => x = .pointer (some ⟨b, 0, none⟩)
 | 32 => x = .pointer (some ⟨b, 0, none⟩)
 | 33 => x = .pointer (some ⟨b, 1, none⟩)
 | 34 => x = .int .i64 fr
 | 35 => x = .slice (some ⟨g, a, none⟩) k (N - a)
 | 36 => True
 | _ => True
theorem VMv3_mono (b g N fr tv k a M : Nat) : ∀ d x w w', VMv3 b g N fr tv k a M d x w → Below w.heap.size w w' → VMv3 b g N fr tv k a M d x w' := by
 exact fun _ _ _ _ h _ => h
def VMv4 (b g N fr tv M o1 o2 : Nat) (k : Int) : Nat → Value → World → Prop := fun d x w => match d with
 | 37 => x = .pointer (some ⟨b, 0, none⟩)
 | 38 => x = .pointer (some ⟨b, 0, none⟩)
 | 39 => x = .pointer (some ⟨b, 0, none⟩)
 | 40 => x = .slice (some ⟨g, 0, none⟩) N N
 | 41 => x = .pointer (some ⟨b, 0, none⟩)
 | 42 => x = .pointer (some ⟨b, 0, none⟩)
 | 43 => x = .pointer (some ⟨b, 1, none⟩)
 | 44 => x = .int .i64 fr
 | 45 => x = .slice (some ⟨g, o1, none⟩) (N - fr) (N - fr)
 | 46 => x = .pointer (some ⟨b, 0, none⟩)
 | 47 => x = .pointer (some ⟨b, 0, none⟩)
 | 48 => x = .pointer (some ⟨b, 0, none⟩)
 | 49 => x = .slice (some ⟨g, 0, none⟩) N N
 | 50 => x = .pointer (some ⟨b, 0, none⟩)
 | 51 => x = .pointer (some ⟨b, 0, none⟩)
 | 52 => x = .pointer (some ⟨b, 2, none⟩)
 | 53 => x = .int .i64 tv
 | 54 => x = .pointer (some ⟨b, 0, none⟩)
 | 55 => x = .pointer (some ⟨b, 0, none⟩)
 | 56 => x = .pointer (some ⟨b, 2, none⟩)
 | 57 => x = .int .i64 tv
 | 58 => x = .int .i64 k
 | 59 => x = .int .i64 M
 | 60 => x = .slice (some ⟨g, o2, none⟩) (M - tv) (N - tv)
 | 61 => True
 | _ => True
theorem VMv4_mono (b g N fr tv M o1 o2 : Nat) (k : Int) : ∀ d x w w', VMv4 b g N fr tv M o1 o2 k d x w → Below w.heap.size w w' → VMv4 b g N fr tv M o1 o2 k d x w' := by
 exact fun _ _ _ _ h _ => h
def VMv5 (b fr tv a T : Nat) : Nat → Value → World → Prop := fun d x w => match d with
 | 62 => x = .pointer (some ⟨b, 0, none⟩)
 | 63 => x = .pointer (some ⟨b, 0, none⟩)
 | 64 => x = .pointer (some ⟨b, 2, none⟩)
 | 65 => x = .int .i64 tv
 | 66 => x = .int .i64 a
 | 67 => x = .pointer (some ⟨b, 0, none⟩)
 | 68 => x = .pointer (some ⟨b, 0, none⟩)
 | 69 => x = .pointer (some ⟨b, 1, none⟩)
 | 70 => x = .int .i64 fr
 | 71 => x = .int .i64 ((a : Int) - fr)
 | 72 => x = .int .i64 T
 | 73 => x = .pointer (some ⟨b, 0, none⟩)
 | 74 => x = .pointer (some ⟨b, 2, none⟩)
 | _ => True
theorem VMv5_mono (b fr tv a T : Nat) : ∀ d x w w', VMv5 b fr tv a T d x w → Below w.heap.size w w' → VMv5 b fr tv a T d x w' := by
 exact fun _ _ _ _ h _ => h
set_option maxRecDepth 100000 in
set_option maxHeartbeats 2000000 in
theorem move_row (b g N fr tv lim a : Nat) (l : List UInt8) (w : World) (hb : Blk w b 107 [.slice (some ⟨g, 0, none⟩) N N, .int .i64 fr, .int .i64 tv, .int .i64 lim]) (hr : RowIs w g l) (hl : N = l.length) (hne : b ≠ g) (h1 : fr ≤ tv) (h2 : tv ≤ N) (hm : N ≤ 4294967296) (ha : a ≤ N - (tv - fr)) :
  Calls Tryz.prog 237 #[.pointer (some ⟨b, 0, none⟩), .int .i64 a] w fun e w' => e = .returned (.tuple #[]) ∧ Blk w' b 107 [.slice (some ⟨g, 0, none⟩) N N, .int .i64 a, .int .i64 (a + (tv - fr) : Nat), .int .i64 lim] ∧ RowIs w' g (moveL l fr tv a) ∧ Chg (fun k => k = b ∨ k = g) w w' := by
 have HBk := Lib.hid hb
 have HR := Lib.hid hr
 have c1 := (hb.lies.2 1 _ rfl).1
 have hbl := hb.lies.1
 have hEnd : Hid (∀ W : World, Blk W b 107 [.slice (some ⟨g, 0, none⟩) N N, .int .i64 fr, .int .i64 tv, .int .i64 lim] → RowIs W g (moveL l fr tv a) → Chg (fun k => k = b ∨ k = g) w W →
   Blk ((W.setCell ⟨b, 2, none⟩ (.int .i64 (a + (tv - fr) : Nat))).setCell ⟨b, 1, none⟩ (.int .i64 a)) b 107 [.slice (some ⟨g, 0, none⟩) N N, .int .i64 a, .int .i64 (a + (tv - fr) : Nat), .int .i64 lim] ∧ RowIs ((W.setCell ⟨b, 2, none⟩ (.int .i64 (a + (tv - fr) : Nat))).setCell ⟨b, 1, none⟩ (.int .i64 a)) g (moveL l fr tv a) ∧ Chg (fun k => k = b ∨ k = g) w ((W.setCell ⟨b, 2, none⟩ (.int .i64 (a + (tv - fr) : Nat))).setCell ⟨b, 1, none⟩ (.int .i64 a))) := by
  intro W q1 q2 q3
  have B3 := (q1.set 2 (.int .i64 (a + (tv - fr) : Nat))).set 1 (.int .i64 a)
  have C3 : Chg (fun k => k = b) W ((W.setCell ⟨b, 2, none⟩ (.int .i64 (a + (tv - fr) : Nat))).setCell ⟨b, 1, none⟩ (.int .i64 a)) := (Chg.set W ⟨b, 2, none⟩ _).trans (Chg.set _ ⟨b, 1, none⟩ _) (fun _ _ h => h)
  have hgl : g < W.heap.size := (Array.getElem?_eq_some_iff.1 q2).1
  exact ⟨B3, (C3.block g hgl (by show ¬ g = b; omega)).trans q2, q3.trans C3 (fun x _ h => .inl h)⟩
 have hws : IntKind.i64.wrap ((a : Int) - (fr : Int)) = (a : Int) - (fr : Int) := IntWalk.i64_in _ (by omega)
 have hwt : IntKind.i64.wrap ((tv : Int) + ((a : Int) - (fr : Int))) = ((a + (tv - fr) : Nat) : Int) := by rw [IntWalk.i64_in _ (by omega)]; omega
 by_cases hlt : a < fr
 ·obtain ⟨K, hK⟩ : ∃ K, fr - a = K := ⟨_, rfl⟩
  obtain ⟨M, hM⟩ : ∃ M, tv - K = M := ⟨_, rfl⟩
  have hw1 : IntKind.i64.wrap ((fr : Int) - (a : Int)) = (K : Int) := by rw [IntWalk.i64_in _ (by omega)]; omega
  have hw2 : IntKind.i64.wrap ((tv : Int) - (K : Int)) = (M : Int) := by rw [IntWalk.i64_in _ (by omega)]; omega
  have hc : (0 : Int) < (K : Int) := by omega
  have n2 : M ≤ N := by omega
  have n3 : ¬ N = M := by omega
  have n5 : a ≤ fr := by omega
  have n6 : fr ≤ N := by omega
  have n7 : ¬ N = a := by omega
  obtain ⟨T, hT⟩ : ∃ T, a + (tv - fr) = T := ⟨_, rfl⟩
  have HC := Lib.hid (fun (W : World) (h : RowIs W g l) => copyB_at h M a N (N - M) (N - M) K (N - a) hl (by omega) (by omega) (by omega))
  have hmv : l.take M ++ (l.drop a).take K ++ l.drop (M + K) = moveL l fr tv a := by unfold moveL; rw [if_pos hlt, hK, hM]
  have eM : offs N M = M := by unfold offs; rw [if_neg n3]
  have eA : offs N a = a := by unfold offs; rw [if_neg n7]
  rw [hmv, eM, eA] at HC
  rw [hT] at hEnd hwt ⊢
  clear hT hM hmv eM eA h1 h2 ha hb hr hlt hl hm
  go_enter Tryz.func237, Tryz.ntmps237
  go_wp2
  clear hw1
  refine wp_held_tail mixed (VMv3 b g N fr tv K a M) (VMv3_mono _ _ _ _ _ _ _ _) (by kernel_rfl) 8 21 (by decide) [15, 16, 17, 18, 19, 20, 21, 22, 23, 24, 25, 26, 27, 28, 29, 30, 31, 32, 33, 34, 35] (by kernel_rfl) (by kernel_rfl) (by kernel_rfl) (by kernel_rfl) ?_ ?_
  ·intro j hj
   have hj' : j < 21 := hj
   rcases (by omega : j = 0 ∨ j = 1 ∨ j = 2 ∨ j = 3 ∨ j = 4 ∨ j = 5 ∨ j = 6 ∨ j = 7 ∨ j = 8 ∨ j = 9 ∨ j = 10 ∨ j = 11 ∨ j = 12 ∨ j = 13 ∨ j = 14 ∨ j = 15 ∨ j = 16 ∨ j = 17 ∨ j = 18 ∨ j = 19 ∨ j = 20) with rfl | rfl | rfl | rfl | rfl | rfl | rfl | rfl | rfl | rfl | rfl | rfl | rfl | rfl | rfl | rfl | rfl | rfl | rfl | rfl | rfl
   ·(refine owes_val (L := [(0, false)]) rfl rfl rfl (by kernel_rfl) ?_; intro a' w' hb' hfacts; obtain ⟨hf0, -⟩ := hfacts; replace hf0 : a'.tmps[0]?.getD undef = .pointer (some ⟨b, 0, none⟩) := hf0)
    have pB := (HBk.out.below hb').lies; have p0 := (pB.2 0 _ rfl).1; have p1 := (pB.2 1 _ rfl).1; have p2 := (pB.2 2 _ rfl).1
    (go_simp; first | exact ⟨_, rfl, Br _, rfl⟩ | exact ⟨_, rfl, Br _, trivial⟩ | exact ⟨_, rfl, Ba _ _, trivial⟩ | exact ⟨_, rfl, Br _, congrArg (Value.int _) (IntWalk.i64_in _ (by omega))⟩)
   ·(refine owes_val (L := [(15, true)]) rfl rfl rfl (by kernel_rfl) ?_; intro a' w' hb' hfacts; obtain ⟨hf15, -⟩ := hfacts; try simp only [VMv3] at hf15)
    have pB := (HBk.out.below hb').lies; have p0 := (pB.2 0 _ rfl).1; have p1 := (pB.2 1 _ rfl).1; have p2 := (pB.2 2 _ rfl).1
    (go_simp; first | exact ⟨_, rfl, Br _, rfl⟩ | exact ⟨_, rfl, Br _, trivial⟩ | exact ⟨_, rfl, Ba _ _, trivial⟩ | exact ⟨_, rfl, Br _, congrArg (Value.int _) (IntWalk.i64_in _ (by omega))⟩)
   ·(refine owes_val (L := [(16, true)]) rfl rfl rfl (by kernel_rfl) ?_; intro a' w' hb' hfacts; obtain ⟨hf16, -⟩ := hfacts; try simp only [VMv3] at hf16)
    have pB := (HBk.out.below hb').lies; have p0 := (pB.2 0 _ rfl).1; have p1 := (pB.2 1 _ rfl).1; have p2 := (pB.2 2 _ rfl).1
    (go_simp; first | exact ⟨_, rfl, Br _, rfl⟩ | exact ⟨_, rfl, Br _, trivial⟩ | exact ⟨_, rfl, Ba _ _, trivial⟩ | exact ⟨_, rfl, Br _, congrArg (Value.int _) (IntWalk.i64_in _ (by omega))⟩)
   ·(refine owes_val (L := [(17, true)]) rfl rfl rfl (by kernel_rfl) ?_; intro a' w' hb' hfacts; obtain ⟨hf17, -⟩ := hfacts; try simp only [VMv3] at hf17)
    have pB := (HBk.out.below hb').lies; have p0 := (pB.2 0 _ rfl).1; have p1 := (pB.2 1 _ rfl).1; have p2 := (pB.2 2 _ rfl).1
    (go_simp; first | exact ⟨_, rfl, Br _, rfl⟩ | exact ⟨_, rfl, Br _, trivial⟩ | exact ⟨_, rfl, Ba _ _, trivial⟩ | exact ⟨_, rfl, Br _, congrArg (Value.int _) (IntWalk.i64_in _ (by omega))⟩)
   ·(refine owes_val (L := [(0, false)]) rfl rfl rfl (by kernel_rfl) ?_; intro a' w' hb' hfacts; obtain ⟨hf0, -⟩ := hfacts; replace hf0 : a'.tmps[0]?.getD undef = .pointer (some ⟨b, 0, none⟩) := hf0)
    have pB := (HBk.out.below hb').lies; have p0 := (pB.2 0 _ rfl).1; have p1 := (pB.2 1 _ rfl).1; have p2 := (pB.2 2 _ rfl).1
    (go_simp; first | exact ⟨_, rfl, Br _, rfl⟩ | exact ⟨_, rfl, Br _, trivial⟩ | exact ⟨_, rfl, Ba _ _, trivial⟩ | exact ⟨_, rfl, Br _, congrArg (Value.int _) (IntWalk.i64_in _ (by omega))⟩)
   ·(refine owes_val (L := [(19, true)]) rfl rfl rfl (by kernel_rfl) ?_; intro a' w' hb' hfacts; obtain ⟨hf19, -⟩ := hfacts; try simp only [VMv3] at hf19)
    have pB := (HBk.out.below hb').lies; have p0 := (pB.2 0 _ rfl).1; have p1 := (pB.2 1 _ rfl).1; have p2 := (pB.2 2 _ rfl).1
    (go_simp; first | exact ⟨_, rfl, Br _, rfl⟩ | exact ⟨_, rfl, Br _, trivial⟩ | exact ⟨_, rfl, Ba _ _, trivial⟩ | exact ⟨_, rfl, Br _, congrArg (Value.int _) (IntWalk.i64_in _ (by omega))⟩)
   ·(refine owes_val (L := [(20, true)]) rfl rfl rfl (by kernel_rfl) ?_; intro a' w' hb' hfacts; obtain ⟨hf20, -⟩ := hfacts; try simp only [VMv3] at hf20)
    have pB := (HBk.out.below hb').lies; have p0 := (pB.2 0 _ rfl).1; have p1 := (pB.2 1 _ rfl).1; have p2 := (pB.2 2 _ rfl).1
    (go_simp; first | exact ⟨_, rfl, Br _, rfl⟩ | exact ⟨_, rfl, Br _, trivial⟩ | exact ⟨_, rfl, Ba _ _, trivial⟩ | exact ⟨_, rfl, Br _, congrArg (Value.int _) (IntWalk.i64_in _ (by omega))⟩)
   ·(refine owes_val (L := [(21, true)]) rfl rfl rfl (by kernel_rfl) ?_; intro a' w' hb' hfacts; obtain ⟨hf21, -⟩ := hfacts; try simp only [VMv3] at hf21)
    have pB := (HBk.out.below hb').lies; have p0 := (pB.2 0 _ rfl).1; have p1 := (pB.2 1 _ rfl).1; have p2 := (pB.2 2 _ rfl).1
    (go_simp; first | exact ⟨_, rfl, Br _, rfl⟩ | exact ⟨_, rfl, Br _, trivial⟩ | exact ⟨_, rfl, Ba _ _, trivial⟩ | exact ⟨_, rfl, Br _, congrArg (Value.int _) (IntWalk.i64_in _ (by omega))⟩)
   ·(refine owes_val (L := [(4, false)]) rfl rfl rfl (by kernel_rfl) ?_; intro a' w' hb' hfacts; obtain ⟨hf4, -⟩ := hfacts; replace hf4 : a'.tmps[4]?.getD undef = .int .i64 K := hf4)
    have pB := (HBk.out.below hb').lies; have p0 := (pB.2 0 _ rfl).1; have p1 := (pB.2 1 _ rfl).1; have p2 := (pB.2 2 _ rfl).1
    (go_simp; first | exact ⟨_, rfl, Br _, rfl⟩ | exact ⟨_, rfl, Br _, trivial⟩ | exact ⟨_, rfl, Ba _ _, trivial⟩ | exact ⟨_, rfl, Br _, congrArg (Value.int _) (IntWalk.i64_in _ (by omega))⟩)
   ·(refine owes_val (L := [(22, true), (23, true)]) rfl rfl rfl (by kernel_rfl) ?_; intro a' w' hb' hfacts; obtain ⟨hf22, hf23, -⟩ := hfacts; try simp only [VMv3] at hf22; try simp only [VMv3] at hf23)
    have pB := (HBk.out.below hb').lies; have p0 := (pB.2 0 _ rfl).1; have p1 := (pB.2 1 _ rfl).1; have p2 := (pB.2 2 _ rfl).1
    (go_simp; first | exact ⟨_, rfl, Br _, rfl⟩ | exact ⟨_, rfl, Br _, trivial⟩ | exact ⟨_, rfl, Ba _ _, trivial⟩ | exact ⟨_, rfl, Br _, congrArg (Value.int _) (IntWalk.i64_in _ (by omega))⟩)
   ·(refine owes_val (L := [(18, true), (24, true)]) rfl rfl rfl (by kernel_rfl) ?_; intro a' w' hb' hfacts; obtain ⟨hf18, hf24, -⟩ := hfacts; try simp only [VMv3] at hf18; try simp only [VMv3] at hf24)
    have pB := (HBk.out.below hb').lies; have p0 := (pB.2 0 _ rfl).1; have p1 := (pB.2 1 _ rfl).1; have p2 := (pB.2 2 _ rfl).1
    (go_simp; first | exact ⟨_, rfl, Br _, rfl⟩ | exact ⟨_, rfl, Br _, trivial⟩ | exact ⟨_, rfl, Ba _ _, trivial⟩ | exact ⟨_, rfl, Br _, congrArg (Value.int _) (IntWalk.i64_in _ (by omega))⟩)
   ·(refine owes_val (L := [(0, false)]) rfl rfl rfl (by kernel_rfl) ?_; intro a' w' hb' hfacts; obtain ⟨hf0, -⟩ := hfacts; replace hf0 : a'.tmps[0]?.getD undef = .pointer (some ⟨b, 0, none⟩) := hf0)
    have pB := (HBk.out.below hb').lies; have p0 := (pB.2 0 _ rfl).1; have p1 := (pB.2 1 _ rfl).1; have p2 := (pB.2 2 _ rfl).1
    (go_simp; first | exact ⟨_, rfl, Br _, rfl⟩ | exact ⟨_, rfl, Br _, trivial⟩ | exact ⟨_, rfl, Ba _ _, trivial⟩ | exact ⟨_, rfl, Br _, congrArg (Value.int _) (IntWalk.i64_in _ (by omega))⟩)
   ·(refine owes_val (L := [(26, true)]) rfl rfl rfl (by kernel_rfl) ?_; intro a' w' hb' hfacts; obtain ⟨hf26, -⟩ := hfacts; try simp only [VMv3] at hf26)
    have pB := (HBk.out.below hb').lies; have p0 := (pB.2 0 _ rfl).1; have p1 := (pB.2 1 _ rfl).1; have p2 := (pB.2 2 _ rfl).1
    (go_simp; first | exact ⟨_, rfl, Br _, rfl⟩ | exact ⟨_, rfl, Br _, trivial⟩ | exact ⟨_, rfl, Ba _ _, trivial⟩ | exact ⟨_, rfl, Br _, congrArg (Value.int _) (IntWalk.i64_in _ (by omega))⟩)
   ·(refine owes_val (L := [(27, true)]) rfl rfl rfl (by kernel_rfl) ?_; intro a' w' hb' hfacts; obtain ⟨hf27, -⟩ := hfacts; try simp only [VMv3] at hf27)
    have pB := (HBk.out.below hb').lies; have p0 := (pB.2 0 _ rfl).1; have p1 := (pB.2 1 _ rfl).1; have p2 := (pB.2 2 _ rfl).1
    (go_simp; first | exact ⟨_, rfl, Br _, rfl⟩ | exact ⟨_, rfl, Br _, trivial⟩ | exact ⟨_, rfl, Ba _ _, trivial⟩ | exact ⟨_, rfl, Br _, congrArg (Value.int _) (IntWalk.i64_in _ (by omega))⟩)
   ·(refine owes_val (L := [(28, true)]) rfl rfl rfl (by kernel_rfl) ?_; intro a' w' hb' hfacts; obtain ⟨hf28, -⟩ := hfacts; try simp only [VMv3] at hf28)
    have pB := (HBk.out.below hb').lies; have p0 := (pB.2 0 _ rfl).1; have p1 := (pB.2 1 _ rfl).1; have p2 := (pB.2 2 _ rfl).1
    (go_simp; first | exact ⟨_, rfl, Br _, rfl⟩ | exact ⟨_, rfl, Br _, trivial⟩ | exact ⟨_, rfl, Ba _ _, trivial⟩ | exact ⟨_, rfl, Br _, congrArg (Value.int _) (IntWalk.i64_in _ (by omega))⟩)
   ·(refine owes_val (L := [(1, false)]) rfl rfl rfl (by kernel_rfl) ?_; intro a' w' hb' hfacts; obtain ⟨hf1, -⟩ := hfacts; replace hf1 : a'.tmps[1]?.getD undef = .int .i64 a := hf1)
    have pB := (HBk.out.below hb').lies; have p0 := (pB.2 0 _ rfl).1; have p1 := (pB.2 1 _ rfl).1; have p2 := (pB.2 2 _ rfl).1
    (go_simp; first | exact ⟨_, rfl, Br _, rfl⟩ | exact ⟨_, rfl, Br _, trivial⟩ | exact ⟨_, rfl, Ba _ _, trivial⟩ | exact ⟨_, rfl, Br _, congrArg (Value.int _) (IntWalk.i64_in _ (by omega))⟩)
   ·(refine owes_val (L := [(0, false)]) rfl rfl rfl (by kernel_rfl) ?_; intro a' w' hb' hfacts; obtain ⟨hf0, -⟩ := hfacts; replace hf0 : a'.tmps[0]?.getD undef = .pointer (some ⟨b, 0, none⟩) := hf0)
    have pB := (HBk.out.below hb').lies; have p0 := (pB.2 0 _ rfl).1; have p1 := (pB.2 1 _ rfl).1; have p2 := (pB.2 2 _ rfl).1
    (go_simp; first | exact ⟨_, rfl, Br _, rfl⟩ | exact ⟨_, rfl, Br _, trivial⟩ | exact ⟨_, rfl, Ba _ _, trivial⟩ | exact ⟨_, rfl, Br _, congrArg (Value.int _) (IntWalk.i64_in _ (by omega))⟩)
   ·(refine owes_val (L := [(31, true)]) rfl rfl rfl (by kernel_rfl) ?_; intro a' w' hb' hfacts; obtain ⟨hf31, -⟩ := hfacts; try simp only [VMv3] at hf31)
    have pB := (HBk.out.below hb').lies; have p0 := (pB.2 0 _ rfl).1; have p1 := (pB.2 1 _ rfl).1; have p2 := (pB.2 2 _ rfl).1
    (go_simp; first | exact ⟨_, rfl, Br _, rfl⟩ | exact ⟨_, rfl, Br _, trivial⟩ | exact ⟨_, rfl, Ba _ _, trivial⟩ | exact ⟨_, rfl, Br _, congrArg (Value.int _) (IntWalk.i64_in _ (by omega))⟩)
   ·(refine owes_val (L := [(32, true)]) rfl rfl rfl (by kernel_rfl) ?_; intro a' w' hb' hfacts; obtain ⟨hf32, -⟩ := hfacts; try simp only [VMv3] at hf32)
    have pB := (HBk.out.below hb').lies; have p0 := (pB.2 0 _ rfl).1; have p1 := (pB.2 1 _ rfl).1; have p2 := (pB.2 2 _ rfl).1
    (go_simp; first | exact ⟨_, rfl, Br _, rfl⟩ | exact ⟨_, rfl, Br _, trivial⟩ | exact ⟨_, rfl, Ba _ _, trivial⟩ | exact ⟨_, rfl, Br _, congrArg (Value.int _) (IntWalk.i64_in _ (by omega))⟩)
   ·(refine owes_val (L := [(33, true)]) rfl rfl rfl (by kernel_rfl) ?_; intro a' w' hb' hfacts; obtain ⟨hf33, -⟩ := hfacts; try simp only [VMv3] at hf33)
    have pB := (HBk.out.below hb').lies; have p0 := (pB.2 0 _ rfl).1; have p1 := (pB.2 1 _ rfl).1; have p2 := (pB.2 2 _ rfl).1
    (go_simp; first | exact ⟨_, rfl, Br _, rfl⟩ | exact ⟨_, rfl, Br _, trivial⟩ | exact ⟨_, rfl, Ba _ _, trivial⟩ | exact ⟨_, rfl, Br _, congrArg (Value.int _) (IntWalk.i64_in _ (by omega))⟩)
   ·(refine owes_val (L := [(29, true), (30, true), (34, true)]) rfl rfl rfl (by kernel_rfl) ?_; intro a' w' hb' hfacts; obtain ⟨hf29, hf30, hf34, -⟩ := hfacts; try simp only [VMv3] at hf29; try simp only [VMv3] at hf30; try simp only [VMv3] at hf34)
    have pB := (HBk.out.below hb').lies; have p0 := (pB.2 0 _ rfl).1; have p1 := (pB.2 1 _ rfl).1; have p2 := (pB.2 2 _ rfl).1
    (go_simp; first | exact ⟨_, rfl, Br _, rfl⟩ | exact ⟨_, rfl, Br _, trivial⟩ | exact ⟨_, rfl, Ba _ _, trivial⟩ | exact ⟨_, rfl, Br _, congrArg (Value.int _) (IntWalk.i64_in _ (by omega))⟩)
  ·intro f W hf hbW
   have e25 : f 25 = .slice (some ⟨g, M, none⟩) (N - M) (N - M) := hf 25 (by decide)
   have e35 : f 35 = .slice (some ⟨g, a, none⟩) K (N - a) := hf 35 (by decide)
   have hgW : RowIs W g l := (hbW.block g (Array.getElem?_eq_some_iff.1 HR.out).1).trans HR.out
   obtain ⟨W2, hcopy, hr2, hc2⟩ := HC.out W hgW
   have hB2 : Blk W2 b 107 [.slice (some ⟨g, 0, none⟩) N N, .int .i64 fr, .int .i64 tv, .int .i64 lim] := (HBk.out.below hbW).chg hc2 hne
   have hC2 : Chg (fun k => k = b ∨ k = g) w W2 := (Chg.of_below hbW).trans hc2 (fun x _ h => .inr h)
   have HB2 := Lib.hid hB2
   have HR2 := Lib.hid hr2
   have HC2 := Lib.hid hC2
   clear hf hbW hr2 hc2 hB2 hC2 HC hgW HBk HR c1 hbl
   simp only [putAll, put_lit, List.map_cons, List.map_nil, List.set_cons_succ, List.set_cons_zero]
   simp only [e25, e35]
   clear e25 e35
   dsimp only [List.drop]
   refine wpList_copyR rfl _ _ _ _ rfl _ _ rfl rfl hcopy ?_
   clear hcopy n2 n3 n5 n6 n7 hw2 hc
   go_wp2
   refine wp_held_tail mixed (VMv5 b fr tv a T) (VMv5_mono _ _ _ _ _) (by kernel_rfl) 8 13 (by decide) [62, 63, 64, 65, 66, 67, 68, 69, 70, 71, 72, 73, 74] (by kernel_rfl) (by kernel_rfl) (by kernel_rfl) (by kernel_rfl) ?_ ?_
   ·intro j hj
    have hj' : j < 13 := hj
    rcases (by omega : j = 0 ∨ j = 1 ∨ j = 2 ∨ j = 3 ∨ j = 4 ∨ j = 5 ∨ j = 6 ∨ j = 7 ∨ j = 8 ∨ j = 9 ∨ j = 10 ∨ j = 11 ∨ j = 12) with rfl | rfl | rfl | rfl | rfl | rfl | rfl | rfl | rfl | rfl | rfl | rfl | rfl
    ·(refine owes_val (L := [(0, false)]) rfl rfl rfl (by kernel_rfl) ?_; intro a' w' hb' hfacts; obtain ⟨hf0, -⟩ := hfacts; replace hf0 : a'.tmps[0]?.getD undef = .pointer (some ⟨b, 0, none⟩) := hf0)
     have pB := (HB2.out.below hb').lies; have p1 := (pB.2 1 _ rfl).1; have p2 := (pB.2 2 _ rfl).1
     (go_simp; first | exact ⟨_, rfl, Br _, rfl⟩ | exact ⟨_, rfl, Br _, trivial⟩ | exact ⟨_, rfl, Ba _ _, trivial⟩ | exact ⟨_, rfl, Br _, congrArg (Value.int _) (IntWalk.i64_in _ (by omega))⟩)
    ·(refine owes_val (L := [(62, true)]) rfl rfl rfl (by kernel_rfl) ?_; intro a' w' hb' hfacts; obtain ⟨hf62, -⟩ := hfacts; try simp only [VMv5] at hf62)
     have pB := (HB2.out.below hb').lies; have p1 := (pB.2 1 _ rfl).1; have p2 := (pB.2 2 _ rfl).1
     (go_simp; first | exact ⟨_, rfl, Br _, rfl⟩ | exact ⟨_, rfl, Br _, trivial⟩ | exact ⟨_, rfl, Ba _ _, trivial⟩ | exact ⟨_, rfl, Br _, congrArg (Value.int _) (IntWalk.i64_in _ (by omega))⟩)
    ·(refine owes_val (L := [(63, true)]) rfl rfl rfl (by kernel_rfl) ?_; intro a' w' hb' hfacts; obtain ⟨hf63, -⟩ := hfacts; try simp only [VMv5] at hf63)
     have pB := (HB2.out.below hb').lies; have p1 := (pB.2 1 _ rfl).1; have p2 := (pB.2 2 _ rfl).1
     (go_simp; first | exact ⟨_, rfl, Br _, rfl⟩ | exact ⟨_, rfl, Br _, trivial⟩ | exact ⟨_, rfl, Ba _ _, trivial⟩ | exact ⟨_, rfl, Br _, congrArg (Value.int _) (IntWalk.i64_in _ (by omega))⟩)
    ·(refine owes_val (L := [(64, true)]) rfl rfl rfl (by kernel_rfl) ?_; intro a' w' hb' hfacts; obtain ⟨hf64, -⟩ := hfacts; try simp only [VMv5] at hf64)
     have pB := (HB2.out.below hb').lies; have p1 := (pB.2 1 _ rfl).1; have p2 := (pB.2 2 _ rfl).1
     (go_simp; first | exact ⟨_, rfl, Br _, rfl⟩ | exact ⟨_, rfl, Br _, trivial⟩ | exact ⟨_, rfl, Ba _ _, trivial⟩ | exact ⟨_, rfl, Br _, congrArg (Value.int _) (IntWalk.i64_in _ (by omega))⟩)
    ·(refine owes_val (L := [(1, false)]) rfl rfl rfl (by kernel_rfl) ?_; intro a' w' hb' hfacts; obtain ⟨hf1, -⟩ := hfacts; replace hf1 : a'.tmps[1]?.getD undef = .int .i64 a := hf1)
     have pB := (HB2.out.below hb').lies; have p1 := (pB.2 1 _ rfl).1; have p2 := (pB.2 2 _ rfl).1
     (go_simp; first | exact ⟨_, rfl, Br _, rfl⟩ | exact ⟨_, rfl, Br _, trivial⟩ | exact ⟨_, rfl, Ba _ _, trivial⟩ | exact ⟨_, rfl, Br _, congrArg (Value.int _) (IntWalk.i64_in _ (by omega))⟩)
    ·(refine owes_val (L := [(0, false)]) rfl rfl rfl (by kernel_rfl) ?_; intro a' w' hb' hfacts; obtain ⟨hf0, -⟩ := hfacts; replace hf0 : a'.tmps[0]?.getD undef = .pointer (some ⟨b, 0, none⟩) := hf0)
     have pB := (HB2.out.below hb').lies; have p1 := (pB.2 1 _ rfl).1; have p2 := (pB.2 2 _ rfl).1
     (go_simp; first | exact ⟨_, rfl, Br _, rfl⟩ | exact ⟨_, rfl, Br _, trivial⟩ | exact ⟨_, rfl, Ba _ _, trivial⟩ | exact ⟨_, rfl, Br _, congrArg (Value.int _) (IntWalk.i64_in _ (by omega))⟩)
    ·(refine owes_val (L := [(67, true)]) rfl rfl rfl (by kernel_rfl) ?_; intro a' w' hb' hfacts; obtain ⟨hf67, -⟩ := hfacts; try simp only [VMv5] at hf67)
     have pB := (HB2.out.below hb').lies; have p1 := (pB.2 1 _ rfl).1; have p2 := (pB.2 2 _ rfl).1
     (go_simp; first | exact ⟨_, rfl, Br _, rfl⟩ | exact ⟨_, rfl, Br _, trivial⟩ | exact ⟨_, rfl, Ba _ _, trivial⟩ | exact ⟨_, rfl, Br _, congrArg (Value.int _) (IntWalk.i64_in _ (by omega))⟩)
    ·(refine owes_val (L := [(68, true)]) rfl rfl rfl (by kernel_rfl) ?_; intro a' w' hb' hfacts; obtain ⟨hf68, -⟩ := hfacts; try simp only [VMv5] at hf68)
     have pB := (HB2.out.below hb').lies; have p1 := (pB.2 1 _ rfl).1; have p2 := (pB.2 2 _ rfl).1
     (go_simp; first | exact ⟨_, rfl, Br _, rfl⟩ | exact ⟨_, rfl, Br _, trivial⟩ | exact ⟨_, rfl, Ba _ _, trivial⟩ | exact ⟨_, rfl, Br _, congrArg (Value.int _) (IntWalk.i64_in _ (by omega))⟩)
    ·(refine owes_val (L := [(69, true)]) rfl rfl rfl (by kernel_rfl) ?_; intro a' w' hb' hfacts; obtain ⟨hf69, -⟩ := hfacts; try simp only [VMv5] at hf69)
     have pB := (HB2.out.below hb').lies; have p1 := (pB.2 1 _ rfl).1; have p2 := (pB.2 2 _ rfl).1
     (go_simp; first | exact ⟨_, rfl, Br _, rfl⟩ | exact ⟨_, rfl, Br _, trivial⟩ | exact ⟨_, rfl, Ba _ _, trivial⟩ | exact ⟨_, rfl, Br _, congrArg (Value.int _) (IntWalk.i64_in _ (by omega))⟩)
    ·(refine owes_val (L := [(66, true), (70, true)]) rfl rfl rfl (by kernel_rfl) ?_; intro a' w' hb' hfacts; obtain ⟨hf66, hf70, -⟩ := hfacts; try simp only [VMv5] at hf66; try simp only [VMv5] at hf70)
     have pB := (HB2.out.below hb').lies; have p1 := (pB.2 1 _ rfl).1; have p2 := (pB.2 2 _ rfl).1
     (go_simp; first | exact ⟨_, rfl, Br _, rfl⟩ | exact ⟨_, rfl, Br _, trivial⟩ | exact ⟨_, rfl, Ba _ _, trivial⟩ | exact ⟨_, rfl, Br _, congrArg (Value.int _) (IntWalk.i64_in _ (by omega))⟩)
    ·(refine owes_val (L := [(65, true), (71, true)]) rfl rfl rfl (by kernel_rfl) ?_; intro a' w' hb' hfacts; obtain ⟨hf65, hf71, -⟩ := hfacts; try simp only [VMv5] at hf65; try simp only [VMv5] at hf71)
     have pB := (HB2.out.below hb').lies; have p1 := (pB.2 1 _ rfl).1; have p2 := (pB.2 2 _ rfl).1
     (go_simp; first | exact ⟨_, rfl, Br _, rfl⟩ | exact ⟨_, rfl, Br _, trivial⟩ | exact ⟨_, rfl, Ba _ _, trivial⟩ | exact ⟨_, rfl, Br _, congrArg (Value.int _) (IntWalk.i64_in _ (by omega))⟩)
    ·(refine owes_val (L := [(62, true)]) rfl rfl rfl (by kernel_rfl) ?_; intro a' w' hb' hfacts; obtain ⟨hf62, -⟩ := hfacts; try simp only [VMv5] at hf62)
     have pB := (HB2.out.below hb').lies; have p1 := (pB.2 1 _ rfl).1; have p2 := (pB.2 2 _ rfl).1
     (go_simp; first | exact ⟨_, rfl, Br _, rfl⟩ | exact ⟨_, rfl, Br _, trivial⟩ | exact ⟨_, rfl, Ba _ _, trivial⟩ | exact ⟨_, rfl, Br _, congrArg (Value.int _) (IntWalk.i64_in _ (by omega))⟩)
    ·(refine owes_val (L := [(73, true)]) rfl rfl rfl (by kernel_rfl) ?_; intro a' w' hb' hfacts; obtain ⟨hf73, -⟩ := hfacts; try simp only [VMv5] at hf73)
     have pB := (HB2.out.below hb').lies; have p1 := (pB.2 1 _ rfl).1; have p2 := (pB.2 2 _ rfl).1
     (go_simp; first | exact ⟨_, rfl, Br _, rfl⟩ | exact ⟨_, rfl, Br _, trivial⟩ | exact ⟨_, rfl, Ba _ _, trivial⟩ | exact ⟨_, rfl, Br _, congrArg (Value.int _) (IntWalk.i64_in _ (by omega))⟩)
   ·intro f2 W3 hf2 hb3
    have e74 : f2 74 = .pointer (some ⟨b, 2, none⟩) := hf2 74 (by decide)
    have e72 : f2 72 = .int .i64 T := hf2 72 (by decide)
    have hB3 := HB2.out.below hb3
    have HE := Lib.hid (hEnd.out W3 hB3 ((hb3.block g (Array.getElem?_eq_some_iff.1 HR2.out).1).trans HR2.out) (HC2.out.trans (Chg.of_below hb3) (fun x hx h => absurd hx (by omega))))
    obtain ⟨q1, f1'⟩ := hB3.lies.2 1 _ rfl
    obtain ⟨q2, f2'⟩ := hB3.lies.2 2 _ rfl
    have hbl3 := hB3.lies.1
    clear hf2 hb3 HB2 HR2 HC2 hEnd hB3 hws hwt
    simp only [putAll, put_lit, List.map_cons, List.map_nil, List.set_cons_succ, List.set_cons_zero]
    simp only [e74, e72]
    clear e74 e72
    dsimp only [List.drop]
    go_wp2
    go_end0
    exact ⟨rfl, HE.out⟩
 ·obtain ⟨M, hM⟩ : ∃ M, tv + (a - fr) = M := ⟨_, rfl⟩
  have hw1 : IntKind.i64.wrap ((fr : Int) - (a : Int)) = (fr : Int) - (a : Int) := IntWalk.i64_in _ (by omega)
  obtain ⟨K, hK⟩ : ∃ K : Int, (fr : Int) - (a : Int) = K := ⟨_, rfl⟩
  rw [hK] at hw1
  have hw2 : IntKind.i64.wrap ((tv : Int) - K) = (M : Int) := by rw [IntWalk.i64_in _ (by omega)]; omega
  have hc : ¬ (0 : Int) < K := by omega
  have n2 : fr ≤ N := by omega
  have n3 : tv ≤ M := by omega
  have n4 : M ≤ N := by omega
  obtain ⟨T, hT⟩ : ∃ T, a + (tv - fr) = T := ⟨_, rfl⟩
  have HC := Lib.hid (fun (W : World) (h : RowIs W g l) => copyB_at h fr tv N (N - fr) (N - fr) (M - tv) (N - tv) hl (by omega) (by omega) (by omega))
  have hmv : l.take fr ++ (l.drop tv).take (M - tv) ++ l.drop (fr + (M - tv)) = moveL l fr tv a := by unfold moveL; rw [if_neg hlt, show M - tv = a - fr by omega]
  obtain ⟨o1, ho1⟩ : ∃ o, offs N fr = o := ⟨_, rfl⟩
  obtain ⟨o2, ho2⟩ : ∃ o, offs N tv = o := ⟨_, rfl⟩
  have p1 : (if N = fr then (some ⟨g, 0, none⟩ : Option Addr) else some ⟨g, fr, none⟩) = some ⟨g, o1, none⟩ := by rw [← ho1]; unfold offs; split <;> rfl
  have p2 : (if N = tv then (some ⟨g, 0, none⟩ : Option Addr) else some ⟨g, tv, none⟩) = some ⟨g, o2, none⟩ := by rw [← ho2]; unfold offs; split <;> rfl
  rw [hmv, ho1, ho2] at HC
  rw [hT] at hEnd hwt ⊢
  have HPP := Lib.hid (And.intro p1 p2)
  clear hT hM hmv ho1 ho2 h1 h2 ha hb hr hlt hl hm p1 p2
  go_enter Tryz.func237, Tryz.ntmps237
  go_wp2
  have hKK := Lib.hid hK
  clear hw1 hK
  refine wp_held_tail mixed (VMv4 b g N fr tv M o1 o2 K) (VMv4_mono _ _ _ _ _ _ _ _ _) (by kernel_rfl) 8 24 (by decide) [37, 38, 39, 40, 41, 42, 43, 44, 45, 46, 47, 48, 49, 50, 51, 52, 53, 54, 55, 56, 57, 58, 59, 60] (by kernel_rfl) (by kernel_rfl) (by kernel_rfl) (by kernel_rfl) ?_ ?_
  ·intro j hj
   have hj' : j < 24 := hj
   rcases (by omega : j = 0 ∨ j = 1 ∨ j = 2 ∨ j = 3 ∨ j = 4 ∨ j = 5 ∨ j = 6 ∨ j = 7 ∨ j = 8 ∨ j = 9 ∨ j = 10 ∨ j = 11 ∨ j = 12 ∨ j = 13 ∨ j = 14 ∨ j = 15 ∨ j = 16 ∨ j = 17 ∨ j = 18 ∨ j = 19 ∨ j = 20 ∨ j = 21 ∨ j = 22 ∨ j = 23) with rfl | rfl | rfl | rfl | rfl | rfl | rfl | rfl | rfl | rfl | rfl | rfl | rfl | rfl | rfl | rfl | rfl | rfl | rfl | rfl | rfl | rfl | rfl | rfl
   ·(refine owes_val (L := [(0, false)]) rfl rfl rfl (by kernel_rfl) ?_; intro a' w' hb' hfacts; obtain ⟨hf0, -⟩ := hfacts; replace hf0 : a'.tmps[0]?.getD undef = .pointer (some ⟨b, 0, none⟩) := hf0)
    have pB := (HBk.out.below hb').lies; have p0 := (pB.2 0 _ rfl).1; have p1 := (pB.2 1 _ rfl).1; have p2 := (pB.2 2 _ rfl).1
    (go_simp; first | exact ⟨_, rfl, Br _, rfl⟩ | exact ⟨_, rfl, Br _, trivial⟩ | exact ⟨_, rfl, Ba _ _, trivial⟩ | exact ⟨_, rfl, Br _, congrArg (Value.int _) (IntWalk.i64_in _ (by omega))⟩)
   ·(refine owes_val (L := [(37, true)]) rfl rfl rfl (by kernel_rfl) ?_; intro a' w' hb' hfacts; obtain ⟨hf37, -⟩ := hfacts; try simp only [VMv4] at hf37)
    have pB := (HBk.out.below hb').lies; have p0 := (pB.2 0 _ rfl).1; have p1 := (pB.2 1 _ rfl).1; have p2 := (pB.2 2 _ rfl).1
    (go_simp; first | exact ⟨_, rfl, Br _, rfl⟩ | exact ⟨_, rfl, Br _, trivial⟩ | exact ⟨_, rfl, Ba _ _, trivial⟩ | exact ⟨_, rfl, Br _, congrArg (Value.int _) (IntWalk.i64_in _ (by omega))⟩)
   ·(refine owes_val (L := [(38, true)]) rfl rfl rfl (by kernel_rfl) ?_; intro a' w' hb' hfacts; obtain ⟨hf38, -⟩ := hfacts; try simp only [VMv4] at hf38)
    have pB := (HBk.out.below hb').lies; have p0 := (pB.2 0 _ rfl).1; have p1 := (pB.2 1 _ rfl).1; have p2 := (pB.2 2 _ rfl).1
    (go_simp; first | exact ⟨_, rfl, Br _, rfl⟩ | exact ⟨_, rfl, Br _, trivial⟩ | exact ⟨_, rfl, Ba _ _, trivial⟩ | exact ⟨_, rfl, Br _, congrArg (Value.int _) (IntWalk.i64_in _ (by omega))⟩)
   ·(refine owes_val (L := [(39, true)]) rfl rfl rfl (by kernel_rfl) ?_; intro a' w' hb' hfacts; obtain ⟨hf39, -⟩ := hfacts; try simp only [VMv4] at hf39)
    have pB := (HBk.out.below hb').lies; have p0 := (pB.2 0 _ rfl).1; have p1 := (pB.2 1 _ rfl).1; have p2 := (pB.2 2 _ rfl).1
    (go_simp; first | exact ⟨_, rfl, Br _, rfl⟩ | exact ⟨_, rfl, Br _, trivial⟩ | exact ⟨_, rfl, Ba _ _, trivial⟩ | exact ⟨_, rfl, Br _, congrArg (Value.int _) (IntWalk.i64_in _ (by omega))⟩)
   ·(refine owes_val (L := [(0, false)]) rfl rfl rfl (by kernel_rfl) ?_; intro a' w' hb' hfacts; obtain ⟨hf0, -⟩ := hfacts; replace hf0 : a'.tmps[0]?.getD undef = .pointer (some ⟨b, 0, none⟩) := hf0)
    have pB := (HBk.out.below hb').lies; have p0 := (pB.2 0 _ rfl).1; have p1 := (pB.2 1 _ rfl).1; have p2 := (pB.2 2 _ rfl).1
    (go_simp; first | exact ⟨_, rfl, Br _, rfl⟩ | exact ⟨_, rfl, Br _, trivial⟩ | exact ⟨_, rfl, Ba _ _, trivial⟩ | exact ⟨_, rfl, Br _, congrArg (Value.int _) (IntWalk.i64_in _ (by omega))⟩)
   ·(refine owes_val (L := [(41, true)]) rfl rfl rfl (by kernel_rfl) ?_; intro a' w' hb' hfacts; obtain ⟨hf41, -⟩ := hfacts; try simp only [VMv4] at hf41)
    have pB := (HBk.out.below hb').lies; have p0 := (pB.2 0 _ rfl).1; have p1 := (pB.2 1 _ rfl).1; have p2 := (pB.2 2 _ rfl).1
    (go_simp; first | exact ⟨_, rfl, Br _, rfl⟩ | exact ⟨_, rfl, Br _, trivial⟩ | exact ⟨_, rfl, Ba _ _, trivial⟩ | exact ⟨_, rfl, Br _, congrArg (Value.int _) (IntWalk.i64_in _ (by omega))⟩)
   ·(refine owes_val (L := [(42, true)]) rfl rfl rfl (by kernel_rfl) ?_; intro a' w' hb' hfacts; obtain ⟨hf42, -⟩ := hfacts; try simp only [VMv4] at hf42)
    have pB := (HBk.out.below hb').lies; have p0 := (pB.2 0 _ rfl).1; have p1 := (pB.2 1 _ rfl).1; have p2 := (pB.2 2 _ rfl).1
    (go_simp; first | exact ⟨_, rfl, Br _, rfl⟩ | exact ⟨_, rfl, Br _, trivial⟩ | exact ⟨_, rfl, Ba _ _, trivial⟩ | exact ⟨_, rfl, Br _, congrArg (Value.int _) (IntWalk.i64_in _ (by omega))⟩)
   ·(refine owes_val (L := [(43, true)]) rfl rfl rfl (by kernel_rfl) ?_; intro a' w' hb' hfacts; obtain ⟨hf43, -⟩ := hfacts; try simp only [VMv4] at hf43)
    have pB := (HBk.out.below hb').lies; have p0 := (pB.2 0 _ rfl).1; have p1 := (pB.2 1 _ rfl).1; have p2 := (pB.2 2 _ rfl).1
    (go_simp; first | exact ⟨_, rfl, Br _, rfl⟩ | exact ⟨_, rfl, Br _, trivial⟩ | exact ⟨_, rfl, Ba _ _, trivial⟩ | exact ⟨_, rfl, Br _, congrArg (Value.int _) (IntWalk.i64_in _ (by omega))⟩)
   ·(refine owes_val (L := [(40, true), (44, true)]) rfl rfl rfl (by kernel_rfl) ?_; intro a' w' hb' hfacts; obtain ⟨hf40, hf44, -⟩ := hfacts; try simp only [VMv4] at hf40; try simp only [VMv4] at hf44)
    obtain ⟨x1, x2⟩ := HPP.out
    go_simp
    exact ⟨_, rfl, Below.refl _ _, rfl⟩
   ·(refine owes_val (L := [(0, false)]) rfl rfl rfl (by kernel_rfl) ?_; intro a' w' hb' hfacts; obtain ⟨hf0, -⟩ := hfacts; replace hf0 : a'.tmps[0]?.getD undef = .pointer (some ⟨b, 0, none⟩) := hf0)
    have pB := (HBk.out.below hb').lies; have p0 := (pB.2 0 _ rfl).1; have p1 := (pB.2 1 _ rfl).1; have p2 := (pB.2 2 _ rfl).1
    (go_simp; first | exact ⟨_, rfl, Br _, rfl⟩ | exact ⟨_, rfl, Br _, trivial⟩ | exact ⟨_, rfl, Ba _ _, trivial⟩ | exact ⟨_, rfl, Br _, congrArg (Value.int _) (IntWalk.i64_in _ (by omega))⟩)
   ·(refine owes_val (L := [(46, true)]) rfl rfl rfl (by kernel_rfl) ?_; intro a' w' hb' hfacts; obtain ⟨hf46, -⟩ := hfacts; try simp only [VMv4] at hf46)
    have pB := (HBk.out.below hb').lies; have p0 := (pB.2 0 _ rfl).1; have p1 := (pB.2 1 _ rfl).1; have p2 := (pB.2 2 _ rfl).1
    (go_simp; first | exact ⟨_, rfl, Br _, rfl⟩ | exact ⟨_, rfl, Br _, trivial⟩ | exact ⟨_, rfl, Ba _ _, trivial⟩ | exact ⟨_, rfl, Br _, congrArg (Value.int _) (IntWalk.i64_in _ (by omega))⟩)
   ·(refine owes_val (L := [(47, true)]) rfl rfl rfl (by kernel_rfl) ?_; intro a' w' hb' hfacts; obtain ⟨hf47, -⟩ := hfacts; try simp only [VMv4] at hf47)
    have pB := (HBk.out.below hb').lies; have p0 := (pB.2 0 _ rfl).1; have p1 := (pB.2 1 _ rfl).1; have p2 := (pB.2 2 _ rfl).1
    (go_simp; first | exact ⟨_, rfl, Br _, rfl⟩ | exact ⟨_, rfl, Br _, trivial⟩ | exact ⟨_, rfl, Ba _ _, trivial⟩ | exact ⟨_, rfl, Br _, congrArg (Value.int _) (IntWalk.i64_in _ (by omega))⟩)
   ·(refine owes_val (L := [(48, true)]) rfl rfl rfl (by kernel_rfl) ?_; intro a' w' hb' hfacts; obtain ⟨hf48, -⟩ := hfacts; try simp only [VMv4] at hf48)
    have pB := (HBk.out.below hb').lies; have p0 := (pB.2 0 _ rfl).1; have p1 := (pB.2 1 _ rfl).1; have p2 := (pB.2 2 _ rfl).1
    (go_simp; first | exact ⟨_, rfl, Br _, rfl⟩ | exact ⟨_, rfl, Br _, trivial⟩ | exact ⟨_, rfl, Ba _ _, trivial⟩ | exact ⟨_, rfl, Br _, congrArg (Value.int _) (IntWalk.i64_in _ (by omega))⟩)
   ·(refine owes_val (L := [(0, false)]) rfl rfl rfl (by kernel_rfl) ?_; intro a' w' hb' hfacts; obtain ⟨hf0, -⟩ := hfacts; replace hf0 : a'.tmps[0]?.getD undef = .pointer (some ⟨b, 0, none⟩) := hf0)
    have pB := (HBk.out.below hb').lies; have p0 := (pB.2 0 _ rfl).1; have p1 := (pB.2 1 _ rfl).1; have p2 := (pB.2 2 _ rfl).1
    (go_simp; first | exact ⟨_, rfl, Br _, rfl⟩ | exact ⟨_, rfl, Br _, trivial⟩ | exact ⟨_, rfl, Ba _ _, trivial⟩ | exact ⟨_, rfl, Br _, congrArg (Value.int _) (IntWalk.i64_in _ (by omega))⟩)
   ·(refine owes_val (L := [(50, true)]) rfl rfl rfl (by kernel_rfl) ?_; intro a' w' hb' hfacts; obtain ⟨hf50, -⟩ := hfacts; try simp only [VMv4] at hf50)
    have pB := (HBk.out.below hb').lies; have p0 := (pB.2 0 _ rfl).1; have p1 := (pB.2 1 _ rfl).1; have p2 := (pB.2 2 _ rfl).1
    (go_simp; first | exact ⟨_, rfl, Br _, rfl⟩ | exact ⟨_, rfl, Br _, trivial⟩ | exact ⟨_, rfl, Ba _ _, trivial⟩ | exact ⟨_, rfl, Br _, congrArg (Value.int _) (IntWalk.i64_in _ (by omega))⟩)
   ·(refine owes_val (L := [(51, true)]) rfl rfl rfl (by kernel_rfl) ?_; intro a' w' hb' hfacts; obtain ⟨hf51, -⟩ := hfacts; try simp only [VMv4] at hf51)
    have pB := (HBk.out.below hb').lies; have p0 := (pB.2 0 _ rfl).1; have p1 := (pB.2 1 _ rfl).1; have p2 := (pB.2 2 _ rfl).1
    (go_simp; first | exact ⟨_, rfl, Br _, rfl⟩ | exact ⟨_, rfl, Br _, trivial⟩ | exact ⟨_, rfl, Ba _ _, trivial⟩ | exact ⟨_, rfl, Br _, congrArg (Value.int _) (IntWalk.i64_in _ (by omega))⟩)
   ·(refine owes_val (L := [(52, true)]) rfl rfl rfl (by kernel_rfl) ?_; intro a' w' hb' hfacts; obtain ⟨hf52, -⟩ := hfacts; try simp only [VMv4] at hf52)
    have pB := (HBk.out.below hb').lies; have p0 := (pB.2 0 _ rfl).1; have p1 := (pB.2 1 _ rfl).1; have p2 := (pB.2 2 _ rfl).1
    (go_simp; first | exact ⟨_, rfl, Br _, rfl⟩ | exact ⟨_, rfl, Br _, trivial⟩ | exact ⟨_, rfl, Ba _ _, trivial⟩ | exact ⟨_, rfl, Br _, congrArg (Value.int _) (IntWalk.i64_in _ (by omega))⟩)
   ·(refine owes_val (L := [(0, false)]) rfl rfl rfl (by kernel_rfl) ?_; intro a' w' hb' hfacts; obtain ⟨hf0, -⟩ := hfacts; replace hf0 : a'.tmps[0]?.getD undef = .pointer (some ⟨b, 0, none⟩) := hf0)
    have pB := (HBk.out.below hb').lies; have p0 := (pB.2 0 _ rfl).1; have p1 := (pB.2 1 _ rfl).1; have p2 := (pB.2 2 _ rfl).1
    (go_simp; first | exact ⟨_, rfl, Br _, rfl⟩ | exact ⟨_, rfl, Br _, trivial⟩ | exact ⟨_, rfl, Ba _ _, trivial⟩ | exact ⟨_, rfl, Br _, congrArg (Value.int _) (IntWalk.i64_in _ (by omega))⟩)
   ·(refine owes_val (L := [(54, true)]) rfl rfl rfl (by kernel_rfl) ?_; intro a' w' hb' hfacts; obtain ⟨hf54, -⟩ := hfacts; try simp only [VMv4] at hf54)
    have pB := (HBk.out.below hb').lies; have p0 := (pB.2 0 _ rfl).1; have p1 := (pB.2 1 _ rfl).1; have p2 := (pB.2 2 _ rfl).1
    (go_simp; first | exact ⟨_, rfl, Br _, rfl⟩ | exact ⟨_, rfl, Br _, trivial⟩ | exact ⟨_, rfl, Ba _ _, trivial⟩ | exact ⟨_, rfl, Br _, congrArg (Value.int _) (IntWalk.i64_in _ (by omega))⟩)
   ·(refine owes_val (L := [(55, true)]) rfl rfl rfl (by kernel_rfl) ?_; intro a' w' hb' hfacts; obtain ⟨hf55, -⟩ := hfacts; try simp only [VMv4] at hf55)
    have pB := (HBk.out.below hb').lies; have p0 := (pB.2 0 _ rfl).1; have p1 := (pB.2 1 _ rfl).1; have p2 := (pB.2 2 _ rfl).1
    (go_simp; first | exact ⟨_, rfl, Br _, rfl⟩ | exact ⟨_, rfl, Br _, trivial⟩ | exact ⟨_, rfl, Ba _ _, trivial⟩ | exact ⟨_, rfl, Br _, congrArg (Value.int _) (IntWalk.i64_in _ (by omega))⟩)
   ·(refine owes_val (L := [(56, true)]) rfl rfl rfl (by kernel_rfl) ?_; intro a' w' hb' hfacts; obtain ⟨hf56, -⟩ := hfacts; try simp only [VMv4] at hf56)
    have pB := (HBk.out.below hb').lies; have p0 := (pB.2 0 _ rfl).1; have p1 := (pB.2 1 _ rfl).1; have p2 := (pB.2 2 _ rfl).1
    (go_simp; first | exact ⟨_, rfl, Br _, rfl⟩ | exact ⟨_, rfl, Br _, trivial⟩ | exact ⟨_, rfl, Ba _ _, trivial⟩ | exact ⟨_, rfl, Br _, congrArg (Value.int _) (IntWalk.i64_in _ (by omega))⟩)
   ·(refine owes_val (L := [(4, false)]) rfl rfl rfl (by kernel_rfl) ?_; intro a' w' hb' hfacts; obtain ⟨hf4, -⟩ := hfacts; replace hf4 : a'.tmps[4]?.getD undef = .int .i64 K := hf4)
    have pB := (HBk.out.below hb').lies; have p0 := (pB.2 0 _ rfl).1; have p1 := (pB.2 1 _ rfl).1; have p2 := (pB.2 2 _ rfl).1
    (go_simp; first | exact ⟨_, rfl, Br _, rfl⟩ | exact ⟨_, rfl, Br _, trivial⟩ | exact ⟨_, rfl, Ba _ _, trivial⟩ | exact ⟨_, rfl, Br _, congrArg (Value.int _) (IntWalk.i64_in _ (by omega))⟩)
   ·(refine owes_val (L := [(57, true), (58, true)]) rfl rfl rfl (by kernel_rfl) ?_; intro a' w' hb' hfacts; obtain ⟨hf57, hf58, -⟩ := hfacts; try simp only [VMv4] at hf57; try simp only [VMv4] at hf58)
    have pB := (HBk.out.below hb').lies; have p0 := (pB.2 0 _ rfl).1; have p1 := (pB.2 1 _ rfl).1; have p2 := (pB.2 2 _ rfl).1
    (go_simp; first | exact ⟨_, rfl, Br _, rfl⟩ | exact ⟨_, rfl, Br _, trivial⟩ | exact ⟨_, rfl, Ba _ _, trivial⟩ | exact ⟨_, rfl, Br _, congrArg (Value.int _) (IntWalk.i64_in _ (by omega))⟩)
   ·(refine owes_val (L := [(49, true), (53, true), (59, true)]) rfl rfl rfl (by kernel_rfl) ?_; intro a' w' hb' hfacts; obtain ⟨hf49, hf53, hf59, -⟩ := hfacts; try simp only [VMv4] at hf49; try simp only [VMv4] at hf53; try simp only [VMv4] at hf59)
    obtain ⟨x1, x2⟩ := HPP.out
    go_simp
    exact ⟨_, rfl, Below.refl _ _, rfl⟩
  ·intro f W hf hbW
   have e25 : f 45 = .slice (some ⟨g, o1, none⟩) (N - fr) (N - fr) := hf 45 (by decide)
   have e35 : f 60 = .slice (some ⟨g, o2, none⟩) (M - tv) (N - tv) := hf 60 (by decide)
   have hgW : RowIs W g l := (hbW.block g (Array.getElem?_eq_some_iff.1 HR.out).1).trans HR.out
   obtain ⟨W2, hcopy, hr2, hc2⟩ := HC.out W hgW
   have hB2 : Blk W2 b 107 [.slice (some ⟨g, 0, none⟩) N N, .int .i64 fr, .int .i64 tv, .int .i64 lim] := (HBk.out.below hbW).chg hc2 hne
   have hC2 : Chg (fun k => k = b ∨ k = g) w W2 := (Chg.of_below hbW).trans hc2 (fun x _ h => .inr h)
   have HB2 := Lib.hid hB2
   have HR2 := Lib.hid hr2
   have HC2 := Lib.hid hC2
   clear hf hbW hr2 hc2 hB2 hC2 HC hgW HBk HR c1 hbl
   simp only [putAll, put_lit, List.map_cons, List.map_nil, List.set_cons_succ, List.set_cons_zero]
   simp only [e25, e35]
   clear e25 e35
   dsimp only [List.drop]
   refine wpList_copyR rfl _ _ _ _ rfl _ _ rfl rfl hcopy ?_
   clear hcopy n2 n3 n4 hw2 hc
   go_wp2
   refine wp_held_tail mixed (VMv5 b fr tv a T) (VMv5_mono _ _ _ _ _) (by kernel_rfl) 8 13 (by decide) [62, 63, 64, 65, 66, 67, 68, 69, 70, 71, 72, 73, 74] (by kernel_rfl) (by kernel_rfl) (by kernel_rfl) (by kernel_rfl) ?_ ?_
   ·intro j hj
    have hj' : j < 13 := hj
    rcases (by omega : j = 0 ∨ j = 1 ∨ j = 2 ∨ j = 3 ∨ j = 4 ∨ j = 5 ∨ j = 6 ∨ j = 7 ∨ j = 8 ∨ j = 9 ∨ j = 10 ∨ j = 11 ∨ j = 12) with rfl | rfl | rfl | rfl | rfl | rfl | rfl | rfl | rfl | rfl | rfl | rfl | rfl
    ·(refine owes_val (L := [(0, false)]) rfl rfl rfl (by kernel_rfl) ?_; intro a' w' hb' hfacts; obtain ⟨hf0, -⟩ := hfacts; replace hf0 : a'.tmps[0]?.getD undef = .pointer (some ⟨b, 0, none⟩) := hf0)
     have pB := (HB2.out.below hb').lies; have p1 := (pB.2 1 _ rfl).1; have p2 := (pB.2 2 _ rfl).1
     (go_simp; first | exact ⟨_, rfl, Br _, rfl⟩ | exact ⟨_, rfl, Br _, trivial⟩ | exact ⟨_, rfl, Ba _ _, trivial⟩ | exact ⟨_, rfl, Br _, congrArg (Value.int _) (IntWalk.i64_in _ (by omega))⟩)
    ·(refine owes_val (L := [(62, true)]) rfl rfl rfl (by kernel_rfl) ?_; intro a' w' hb' hfacts; obtain ⟨hf62, -⟩ := hfacts; try simp only [VMv5] at hf62)
     have pB := (HB2.out.below hb').lies; have p1 := (pB.2 1 _ rfl).1; have p2 := (pB.2 2 _ rfl).1
     (go_simp; first | exact ⟨_, rfl, Br _, rfl⟩ | exact ⟨_, rfl, Br _, trivial⟩ | exact ⟨_, rfl, Ba _ _, trivial⟩ | exact ⟨_, rfl, Br _, congrArg (Value.int _) (IntWalk.i64_in _ (by omega))⟩)
    ·(refine owes_val (L := [(63, true)]) rfl rfl rfl (by kernel_rfl) ?_; intro a' w' hb' hfacts; obtain ⟨hf63, -⟩ := hfacts; try simp only [VMv5] at hf63)
     have pB := (HB2.out.below hb').lies; have p1 := (pB.2 1 _ rfl).1; have p2 := (pB.2 2 _ rfl).1
     (go_simp; first | exact ⟨_, rfl, Br _, rfl⟩ | exact ⟨_, rfl, Br _, trivial⟩ | exact ⟨_, rfl, Ba _ _, trivial⟩ | exact ⟨_, rfl, Br _, congrArg (Value.int _) (IntWalk.i64_in _ (by omega))⟩)
    ·(refine owes_val (L := [(64, true)]) rfl rfl rfl (by kernel_rfl) ?_; intro a' w' hb' hfacts; obtain ⟨hf64, -⟩ := hfacts; try simp only [VMv5] at hf64)
     have pB := (HB2.out.below hb').lies; have p1 := (pB.2 1 _ rfl).1; have p2 := (pB.2 2 _ rfl).1
     (go_simp; first | exact ⟨_, rfl, Br _, rfl⟩ | exact ⟨_, rfl, Br _, trivial⟩ | exact ⟨_, rfl, Ba _ _, trivial⟩ | exact ⟨_, rfl, Br _, congrArg (Value.int _) (IntWalk.i64_in _ (by omega))⟩)
    ·(refine owes_val (L := [(1, false)]) rfl rfl rfl (by kernel_rfl) ?_; intro a' w' hb' hfacts; obtain ⟨hf1, -⟩ := hfacts; replace hf1 : a'.tmps[1]?.getD undef = .int .i64 a := hf1)
     have pB := (HB2.out.below hb').lies; have p1 := (pB.2 1 _ rfl).1; have p2 := (pB.2 2 _ rfl).1
     (go_simp; first | exact ⟨_, rfl, Br _, rfl⟩ | exact ⟨_, rfl, Br _, trivial⟩ | exact ⟨_, rfl, Ba _ _, trivial⟩ | exact ⟨_, rfl, Br _, congrArg (Value.int _) (IntWalk.i64_in _ (by omega))⟩)
    ·(refine owes_val (L := [(0, false)]) rfl rfl rfl (by kernel_rfl) ?_; intro a' w' hb' hfacts; obtain ⟨hf0, -⟩ := hfacts; replace hf0 : a'.tmps[0]?.getD undef = .pointer (some ⟨b, 0, none⟩) := hf0)
     have pB := (HB2.out.below hb').lies; have p1 := (pB.2 1 _ rfl).1; have p2 := (pB.2 2 _ rfl).1
     (go_simp; first | exact ⟨_, rfl, Br _, rfl⟩ | exact ⟨_, rfl, Br _, trivial⟩ | exact ⟨_, rfl, Ba _ _, trivial⟩ | exact ⟨_, rfl, Br _, congrArg (Value.int _) (IntWalk.i64_in _ (by omega))⟩)
    ·(refine owes_val (L := [(67, true)]) rfl rfl rfl (by kernel_rfl) ?_; intro a' w' hb' hfacts; obtain ⟨hf67, -⟩ := hfacts; try simp only [VMv5] at hf67)
     have pB := (HB2.out.below hb').lies; have p1 := (pB.2 1 _ rfl).1; have p2 := (pB.2 2 _ rfl).1
     (go_simp; first | exact ⟨_, rfl, Br _, rfl⟩ | exact ⟨_, rfl, Br _, trivial⟩ | exact ⟨_, rfl, Ba _ _, trivial⟩ | exact ⟨_, rfl, Br _, congrArg (Value.int _) (IntWalk.i64_in _ (by omega))⟩)
    ·(refine owes_val (L := [(68, true)]) rfl rfl rfl (by kernel_rfl) ?_; intro a' w' hb' hfacts; obtain ⟨hf68, -⟩ := hfacts; try simp only [VMv5] at hf68)
     have pB := (HB2.out.below hb').lies; have p1 := (pB.2 1 _ rfl).1; have p2 := (pB.2 2 _ rfl).1
     (go_simp; first | exact ⟨_, rfl, Br _, rfl⟩ | exact ⟨_, rfl, Br _, trivial⟩ | exact ⟨_, rfl, Ba _ _, trivial⟩ | exact ⟨_, rfl, Br _, congrArg (Value.int _) (IntWalk.i64_in _ (by omega))⟩)
    ·(refine owes_val (L := [(69, true)]) rfl rfl rfl (by kernel_rfl) ?_; intro a' w' hb' hfacts; obtain ⟨hf69, -⟩ := hfacts; try simp only [VMv5] at hf69)
     have pB := (HB2.out.below hb').lies; have p1 := (pB.2 1 _ rfl).1; have p2 := (pB.2 2 _ rfl).1
     (go_simp; first | exact ⟨_, rfl, Br _, rfl⟩ | exact ⟨_, rfl, Br _, trivial⟩ | exact ⟨_, rfl, Ba _ _, trivial⟩ | exact ⟨_, rfl, Br _, congrArg (Value.int _) (IntWalk.i64_in _ (by omega))⟩)
    ·(refine owes_val (L := [(66, true), (70, true)]) rfl rfl rfl (by kernel_rfl) ?_; intro a' w' hb' hfacts; obtain ⟨hf66, hf70, -⟩ := hfacts; try simp only [VMv5] at hf66; try simp only [VMv5] at hf70)
     have pB := (HB2.out.below hb').lies; have p1 := (pB.2 1 _ rfl).1; have p2 := (pB.2 2 _ rfl).1
     (go_simp; first | exact ⟨_, rfl, Br _, rfl⟩ | exact ⟨_, rfl, Br _, trivial⟩ | exact ⟨_, rfl, Ba _ _, trivial⟩ | exact ⟨_, rfl, Br _, congrArg (Value.int _) (IntWalk.i64_in _ (by omega))⟩)
    ·(refine owes_val (L := [(65, true), (71, true)]) rfl rfl rfl (by kernel_rfl) ?_; intro a' w' hb' hfacts; obtain ⟨hf65, hf71, -⟩ := hfacts; try simp only [VMv5] at hf65; try simp only [VMv5] at hf71)
     have pB := (HB2.out.below hb').lies; have p1 := (pB.2 1 _ rfl).1; have p2 := (pB.2 2 _ rfl).1
     (go_simp; first | exact ⟨_, rfl, Br _, rfl⟩ | exact ⟨_, rfl, Br _, trivial⟩ | exact ⟨_, rfl, Ba _ _, trivial⟩ | exact ⟨_, rfl, Br _, congrArg (Value.int _) (IntWalk.i64_in _ (by omega))⟩)
    ·(refine owes_val (L := [(62, true)]) rfl rfl rfl (by kernel_rfl) ?_; intro a' w' hb' hfacts; obtain ⟨hf62, -⟩ := hfacts; try simp only [VMv5] at hf62)
     have pB := (HB2.out.below hb').lies; have p1 := (pB.2 1 _ rfl).1; have p2 := (pB.2 2 _ rfl).1
     (go_simp; first | exact ⟨_, rfl, Br _, rfl⟩ | exact ⟨_, rfl, Br _, trivial⟩ | exact ⟨_, rfl, Ba _ _, trivial⟩ | exact ⟨_, rfl, Br _, congrArg (Value.int _) (IntWalk.i64_in _ (by omega))⟩)
    ·(refine owes_val (L := [(73, true)]) rfl rfl rfl (by kernel_rfl) ?_; intro a' w' hb' hfacts; obtain ⟨hf73, -⟩ := hfacts; try simp only [VMv5] at hf73)
     have pB := (HB2.out.below hb').lies; have p1 := (pB.2 1 _ rfl).1; have p2 := (pB.2 2 _ rfl).1
     (go_simp; first | exact ⟨_, rfl, Br _, rfl⟩ | exact ⟨_, rfl, Br _, trivial⟩ | exact ⟨_, rfl, Ba _ _, trivial⟩ | exact ⟨_, rfl, Br _, congrArg (Value.int _) (IntWalk.i64_in _ (by omega))⟩)
   ·intro f2 W3 hf2 hb3
    have e74 : f2 74 = .pointer (some ⟨b, 2, none⟩) := hf2 74 (by decide)
    have e72 : f2 72 = .int .i64 T := hf2 72 (by decide)
    have hB3 := HB2.out.below hb3
    have HE := Lib.hid (hEnd.out W3 hB3 ((hb3.block g (Array.getElem?_eq_some_iff.1 HR2.out).1).trans HR2.out) (HC2.out.trans (Chg.of_below hb3) (fun x hx h => absurd hx (by omega))))
    obtain ⟨q1, f1'⟩ := hB3.lies.2 1 _ rfl
    obtain ⟨q2, f2'⟩ := hB3.lies.2 2 _ rfl
    have hbl3 := hB3.lies.1
    clear hf2 hb3 HB2 HR2 HC2 hEnd hB3 hws hwt
    simp only [putAll, put_lit, List.map_cons, List.map_nil, List.set_cons_succ, List.set_cons_zero]
    simp only [e74, e72]
    clear e74 e72
    dsimp only [List.drop]
    go_wp2
    go_end0
    exact ⟨rfl, HE.out⟩
set_option maxRecDepth 100000 in
set_option maxHeartbeats 2000000 in
theorem move_any (b g : Nat) (r : ByteArray) (fr tv lim a : Nat) (w : World) (h : Gap w b g r fr tv lim) (ha : a ≤ (gtext r fr tv).size) :
  Calls Tryz.prog 237 #[.pointer (some ⟨b, 0, none⟩), .int .i64 a] w fun e w' => e = .returned (.tuple #[]) ∧ ∃ r' tv', Gap w' b g r' a tv' lim ∧ gtext r' a tv' = gtext r fr tv ∧ r'.size = r.size ∧ Chg (fun k => k = b ∨ k = g) w w' := by
 have hsz := gtext_size h.h1 h.h2
 have h1 := h.h1
 have h2 := h.h2
 have hm := h.hm
 have hrl : r.data.toList.length = r.size := by rw [← Lib.size_eq]
 have hML := moveL_len (l := r.data.toList) (a := a) h1 (by omega) (by omega)
 have hMT := moveL_text (l := r.data.toList) (a := a) h1 (by omega) (by omega)
 obtain ⟨r', hr'⟩ : ∃ r' : ByteArray, r'.data.toList = moveL r.data.toList fr tv a := ⟨⟨(moveL r.data.toList fr tv a).toArray⟩, by simp⟩
 have hr's : r'.size = r.size := by have := hML; rw [← hr', ← Lib.size_eq] at this; omega
 have hF : Hid (∀ w' : World, Blk w' b 107 [.slice (some ⟨g, 0, none⟩) r.size r.size, .int .i64 a, .int .i64 (a + (tv - fr) : Nat), .int .i64 lim] → RowIs w' g (moveL r.data.toList fr tv a) → Chg (fun k => k = b ∨ k = g) w w' →
   ∃ r' tv', Gap w' b g r' a tv' lim ∧ gtext r' a tv' = gtext r fr tv ∧ r'.size = r.size ∧ Chg (fun k => k = b ∨ k = g) w w') := by
  intro w' hb hrow hc
  refine ⟨r', a + (tv - fr), ⟨by rw [hr's]; exact hb, by rw [hr']; exact hrow, h.ne, by omega, by omega, by rw [hr's]; exact h.h64, by omega⟩, ?_, hr's, hc⟩
  apply ext_of_list
  rw [gtext_list _ _ _ (by omega), gtext_list _ _ _ h2, hr', hMT]
 refine (move_row b g r.size fr tv lim a _ w h.box h.row hrl.symm h.ne h1 h2 hm (by omega)).mono ?_
 rintro e w' ⟨rfl, q1, q2, q3⟩
 exact ⟨rfl, hF.out w' q1 q2 q3⟩
end Go.Proofs.YtfchglcclgcgfaaGreatDoor.Ut
