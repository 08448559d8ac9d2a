/-
  What the proof of the laws S rests on: the texts RoF. Conditions: each theorem names its own.
-/
import Derived.Test.YtfchglcclgcgfaaGreatDoorMgSj
/-
 rope.join. Condition: the two tables of unicode/utf8 lie as laid; no leaf is empty.
-/
namespace Go.Proofs.YtfchglcclgcgfaaGreatDoor.Ut
open Go.RowKit Go.Proofs.YtfchglcclgcgfaaGreatDoor.Reg
set_option linter.unusedVariables false
set_option linter.unusedSimpArgs false

/-- A pointer to a tree of these leaves. -/
def TrV (base : Nat) (L : List ByteArray) (x : Value) (w : World) : Prop := ∃ q t, x = ptr q ∧ base ≤ q ∧ IsTr w q t ∧ t.leaves = L
theorem TrV.below {base : Nat} {L : List ByteArray} {x : Value} {w w' : World} (h : TrV base L x w) (hb : Below w.heap.size w w') : TrV base L x w' := by
 obtain ⟨q, t, h1, h2, h3, h4⟩ := h; exact ⟨q, t, h1, h2, h3.below hb, h4⟩
/-- What join does, of trees whose heights sum up to n. -/
def JoinTo (n : Nat) : Prop := ∀ (X Y : Nat) (l r : Tr) (w : World), l.ht + r.ht ≤ n → Tabs w → IsTr w X l → IsTr w Y r → (Tr.knot l r).Ok → Calls Tryz.prog 161 #[ptr X, ptr Y] w (Made (l.leaves ++ r.leaves) w)

def VJoinL (X Y base k1 k2 : Nat) (L1 L2 : List ByteArray) : Nat → Value → World → Prop := fun d x w => match d with
 | 24 => x = .pointer (some ⟨X, 0, none⟩)
 | 25 => x = .pointer (some ⟨X, 0, none⟩)
 | 26 => x = .pointer (some ⟨X, 0, none⟩)
 | 27 => x = .pointer (some ⟨k1, 0, none⟩)
 | 28 => x = .pointer (some ⟨X, 0, none⟩)
 | 29 => x = .pointer (some ⟨X, 0, none⟩)
 | 30 => x = .pointer (some ⟨X, 1, none⟩)
 | 31 => x = .pointer (some ⟨k2, 0, none⟩)
 | 32 => x = .pointer (some ⟨Y, 0, none⟩)
 | 33 => TrV base L1 x w
 | 34 => TrV base L2 x w
 | 4 => TrV base L2 x w
 | _ => True
theorem VJoinL_mono (X Y base k1 k2 : Nat) (L1 L2 : List ByteArray) : ∀ d x w w', VJoinL X Y base k1 k2 L1 L2 d x w → Below w.heap.size w w' → VJoinL X Y base k1 k2 L1 L2 d x w' := by
 intro d x w w' h hb
 unfold VJoinL at *
 split <;> first | exact h | exact trivial | skip
 all_goals exact h.below hb
def VJoinR (X Y base k1 k2 : Nat) (L1 L2 : List ByteArray) : Nat → Value → World → Prop := fun d x w => match d with
 | 46 => x = .pointer (some ⟨X, 0, none⟩)
 | 47 => x = .pointer (some ⟨Y, 0, none⟩)
 | 48 => x = .pointer (some ⟨Y, 0, none⟩)
 | 49 => x = .pointer (some ⟨Y, 0, none⟩)
 | 50 => x = .pointer (some ⟨k1, 0, none⟩)
 | 51 => TrV base L1 x w
 | 52 => x = .pointer (some ⟨Y, 0, none⟩)
 | 53 => x = .pointer (some ⟨Y, 0, none⟩)
 | 54 => x = .pointer (some ⟨Y, 1, none⟩)
 | 55 => x = .pointer (some ⟨k2, 0, none⟩)
 | 56 => TrV base L2 x w
 | 4 => TrV base L2 x w
 | _ => True
theorem VJoinR_mono (X Y base k1 k2 : Nat) (L1 L2 : List ByteArray) : ∀ d x w w', VJoinR X Y base k1 k2 L1 L2 d x w → Below w.heap.size w w' → VJoinR X Y base k1 k2 L1 L2 d x w' := by
 intro d x w w' h hb
 unfold VJoinR at *
 split <;> first | exact h | exact trivial | skip
 all_goals exact h.below hb

set_option maxRecDepth 100000 in
set_option maxHeartbeats 4000000 in
theorem join_L (n : Nat) (ih : JoinTo n) (X Y k1 k2 : Nat) (ta tb tc : Tr) (v1 v2 : Value) (w : World) (hT : Tabs w) (t1 : IsTr w k1 ta) (t2 : IsTr w k2 tb) (tY : IsTr w Y tc) (nX : Nd w X (ptr k1) (ptr k2) (Tr.knot ta tb).ht) (nY : Nd w Y v1 v2 tc.ht) (ho : (Tr.knot (.knot ta tb) tc).Ok) (h0 : tc.ht + 1 < (Tr.knot ta tb).ht) (hn : tb.ht + tc.ht ≤ n) :
  Calls Tryz.prog 161 #[ptr X, ptr Y] w (Made (ta.leaves ++ (tb.leaves ++ tc.leaves)) w) := by
 have H1 := Lib.hid t1
 have H2 := Lib.hid t2
 have HY := Lib.hid tY
 have HT := Lib.hid hT
 obtain ⟨o0, o1⟩ := okA1 ho
 have O0 := Lib.hid o0
 have O1 := Lib.hid o1
 have b3 := ho.right.ht_lt
 have b4 := ho.right.sz
 have w1 : IntKind.i64.wrap ((tc.ht : Int) + 1) = (tc.ht : Int) + 1 := IntWalk.i64_in _ (by omega)
 have q0 : (tc.ht : Int) + 1 < ((Tr.knot ta tb).ht : Int) := by omega
 have HN := Lib.hid hn
 have IH := Lib.hid ih
 clear hT ho b3 b4 t1 t2 tY h0 o0 o1 hn ih
 generalize (Tr.knot ta tb).ht = e0 at *
 have hc : ∃ e, tc.ht = e := ⟨_, rfl⟩
 obtain ⟨e1, he1⟩ := hc
 rw [he1] at nY q0 w1
 clear he1
 have NX := Lib.hid nX
 have NY := Lib.hid nY
 have hX := nX.h
 have hY := nY.h
 have HB := Lib.hid (Below.refl w.heap.size w)
 clear nX nY
 unfold ptr
 go_enter Tryz.func161, Tryz.ntmps161
 go_wp2
 go_quiet (fail)
 go_wp2
 clear hX hY
 have hD := Drawn.below (w := w) nq
 have H1 := Lib.hid (H1.out.below hD)
 have H2 := Lib.hid (H2.out.below hD)
 have HY := Lib.hid (HY.out.below hD)
 have NX := Lib.hid (NX.out.below hD)
 have NY := Lib.hid (NY.out.below hD)
 have HT := Lib.hid (tabs_below HT.out hD)
 have HB := Lib.hid (HB.out.trans (hD.mono HB.out.size))
 clear hD
 obtain ⟨W0, hW⟩ : ∃ W, w.drewN nq = W := ⟨_, rfl⟩
 rw [hW] at H1 H2 HY NX NY HT HB
 rw [hW]
 clear hW
 refine wp_held' mixed (VJoinL X Y W0.heap.size k1 k2 (tb.leaves ++ tc.leaves) (ta.leaves ++ (tb.leaves ++ tc.leaves))) (VJoinL_mono _ _ _ _ _ _ _) (by kernel_rfl) [24, 25, 26, 27, 28, 29, 30, 31, 32, 33, 34, 4] (by kernel_rfl) (by kernel_rfl) ?_ ?_
 ·intro j hj
  have hj' : j < 12 := hj
  rcases (by omega : j = 0 ∨ j = 1 ∨ j = 2 ∨ j = 3 ∨ j = 4 ∨ j = 5 ∨ j = 6 ∨ j = 7 ∨ j = 8 ∨ j = 9 ∨ j = 10 ∨ j = 11) with rfl | rfl | rfl | rfl | rfl | rfl | rfl | rfl | rfl | rfl | rfl | rfl
  ·(refine owes_val (L := [(0, false)]) rfl rfl rfl (by kernel_rfl) ?_; intro a' w' hb' hfacts; obtain ⟨hf0, -⟩ := hfacts; replace hf0 : a'.tmps[0]?.getD undef = .pointer (some ⟨X, 0, none⟩) := hf0)
   have pX := (NX.out.below hb').l; have sX := (NX.out.below hb').r; unfold ptr at pX sX
   (go_simp; first | exact ⟨_, rfl, Br _, rfl⟩ | exact ⟨_, rfl, Br _, trivial⟩ | exact ⟨_, rfl, Ba _ _, trivial⟩ | exact ⟨_, rfl, Br _, congrArg (Value.int _) (IntWalk.i64_in _ (by omega))⟩)
  ·(refine owes_val (L := [(24, true)]) rfl rfl rfl (by kernel_rfl) ?_; intro a' w' hb' hfacts; obtain ⟨hf24, -⟩ := hfacts; try simp only [VJoinL] at hf24)
   have pX := (NX.out.below hb').l; have sX := (NX.out.below hb').r; unfold ptr at pX sX
   (go_simp; first | exact ⟨_, rfl, Br _, rfl⟩ | exact ⟨_, rfl, Br _, trivial⟩ | exact ⟨_, rfl, Ba _ _, trivial⟩ | exact ⟨_, rfl, Br _, congrArg (Value.int _) (IntWalk.i64_in _ (by omega))⟩)
  ·(refine owes_val (L := [(25, true)]) rfl rfl rfl (by kernel_rfl) ?_; intro a' w' hb' hfacts; obtain ⟨hf25, -⟩ := hfacts; try simp only [VJoinL] at hf25)
   have pX := (NX.out.below hb').l; have sX := (NX.out.below hb').r; unfold ptr at pX sX
   (go_simp; first | exact ⟨_, rfl, Br _, rfl⟩ | exact ⟨_, rfl, Br _, trivial⟩ | exact ⟨_, rfl, Ba _ _, trivial⟩ | exact ⟨_, rfl, Br _, congrArg (Value.int _) (IntWalk.i64_in _ (by omega))⟩)
  ·(refine owes_val (L := [(26, true)]) rfl rfl rfl (by kernel_rfl) ?_; intro a' w' hb' hfacts; obtain ⟨hf26, -⟩ := hfacts; try simp only [VJoinL] at hf26)
   have pX := (NX.out.below hb').l; have sX := (NX.out.below hb').r; unfold ptr at pX sX
   (go_simp; first | exact ⟨_, rfl, Br _, rfl⟩ | exact ⟨_, rfl, Br _, trivial⟩ | exact ⟨_, rfl, Ba _ _, trivial⟩ | exact ⟨_, rfl, Br _, congrArg (Value.int _) (IntWalk.i64_in _ (by omega))⟩)
  ·(refine owes_val (L := [(0, false)]) rfl rfl rfl (by kernel_rfl) ?_; intro a' w' hb' hfacts; obtain ⟨hf0, -⟩ := hfacts; replace hf0 : a'.tmps[0]?.getD undef = .pointer (some ⟨X, 0, none⟩) := hf0)
   have pX := (NX.out.below hb').l; have sX := (NX.out.below hb').r; unfold ptr at pX sX
   (go_simp; first | exact ⟨_, rfl, Br _, rfl⟩ | exact ⟨_, rfl, Br _, trivial⟩ | exact ⟨_, rfl, Ba _ _, trivial⟩ | exact ⟨_, rfl, Br _, congrArg (Value.int _) (IntWalk.i64_in _ (by omega))⟩)
  ·(refine owes_val (L := [(28, true)]) rfl rfl rfl (by kernel_rfl) ?_; intro a' w' hb' hfacts; obtain ⟨hf28, -⟩ := hfacts; try simp only [VJoinL] at hf28)
   have pX := (NX.out.below hb').l; have sX := (NX.out.below hb').r; unfold ptr at pX sX
   (go_simp; first | exact ⟨_, rfl, Br _, rfl⟩ | exact ⟨_, rfl, Br _, trivial⟩ | exact ⟨_, rfl, Ba _ _, trivial⟩ | exact ⟨_, rfl, Br _, congrArg (Value.int _) (IntWalk.i64_in _ (by omega))⟩)
  ·(refine owes_val (L := [(29, true)]) rfl rfl rfl (by kernel_rfl) ?_; intro a' w' hb' hfacts; obtain ⟨hf29, -⟩ := hfacts; try simp only [VJoinL] at hf29)
   have pX := (NX.out.below hb').l; have sX := (NX.out.below hb').r; unfold ptr at pX sX
   (go_simp; first | exact ⟨_, rfl, Br _, rfl⟩ | exact ⟨_, rfl, Br _, trivial⟩ | exact ⟨_, rfl, Ba _ _, trivial⟩ | exact ⟨_, rfl, Br _, congrArg (Value.int _) (IntWalk.i64_in _ (by omega))⟩)
  ·(refine owes_val (L := [(30, true)]) rfl rfl rfl (by kernel_rfl) ?_; intro a' w' hb' hfacts; obtain ⟨hf30, -⟩ := hfacts; try simp only [VJoinL] at hf30)
   have pX := (NX.out.below hb').l; have sX := (NX.out.below hb').r; unfold ptr at pX sX
   (go_simp; first | exact ⟨_, rfl, Br _, rfl⟩ | exact ⟨_, rfl, Br _, trivial⟩ | exact ⟨_, rfl, Ba _ _, trivial⟩ | exact ⟨_, rfl, Br _, congrArg (Value.int _) (IntWalk.i64_in _ (by omega))⟩)
  ·(refine owes_val (L := [(1, false)]) rfl rfl rfl (by kernel_rfl) ?_; intro a' w' hb' hfacts; obtain ⟨hf1, -⟩ := hfacts; replace hf1 : a'.tmps[1]?.getD undef = .pointer (some ⟨Y, 0, none⟩) := hf1)
   have pX := (NX.out.below hb').l; have sX := (NX.out.below hb').r; unfold ptr at pX sX
   (go_simp; first | exact ⟨_, rfl, Br _, rfl⟩ | exact ⟨_, rfl, Br _, trivial⟩ | exact ⟨_, rfl, Ba _ _, trivial⟩ | exact ⟨_, rfl, Br _, congrArg (Value.int _) (IntWalk.i64_in _ (by omega))⟩)
  ·(refine owes_val (L := [(31, true), (32, true)]) rfl rfl rfl (by kernel_rfl) ?_; intro a' w' hb' hfacts; obtain ⟨hf31, hf32, -⟩ := hfacts; try simp only [VJoinL] at hf31; try simp only [VJoinL] at hf32)
   go_simp
   refine (IH.out k2 Y tb tc _ HN.out (tabs_below HT.out hb') (H2.out.below hb') (HY.out.below hb') O0.out).mono ?_
   rintro e w3 ⟨q, t, rfl, hq, ht, hs, hb3⟩
   exact ⟨_, rfl, hb3, q, t, rfl, Nat.le_trans hb'.size hs, hq, ht⟩
  ·(refine owes_val (L := [(27, true), (33, true)]) rfl rfl rfl (by kernel_rfl) ?_; intro a' w' hb' hfacts; obtain ⟨hf27, hf33, -⟩ := hfacts; try simp only [VJoinL] at hf27; try simp only [VJoinL] at hf33)
   obtain ⟨g, t, hh, hq, hL, ht⟩ := hf33
   unfold ptr at hh
   go_simp
   refine (balanced_any k1 g ta t _ (tabs_below HT.out hb') (H1.out.below hb') hL (O1.out.of (by simp only [Tr.leaves, ht]))).mono ?_
   rintro e w3 ⟨q, t', rfl, hq, ht', hs, hb3⟩
   rw [ht] at ht'
   exact ⟨_, rfl, hb3, q, t', rfl, Nat.le_trans hb'.size hs, hq, ht'⟩
  ·(refine owes_val (L := [(34, true)]) rfl rfl rfl (by kernel_rfl) ?_; intro a' w' hb' hfacts; obtain ⟨hf34, -⟩ := hfacts; try simp only [VJoinL] at hf34)
   obtain ⟨g, t, hh, hq, hL, ht⟩ := hf34
   unfold ptr at hh
   go_simp
   exact ⟨_, rfl, Below.refl _ _, g, t, rfl, hq, hL, ht⟩
 ·intro f W9 hf hb3
  obtain ⟨q, t, f4, hq, hL, ht⟩ : TrV W0.heap.size (ta.leaves ++ (tb.leaves ++ tc.leaves)) (f 4) W9 := hf 4 (by decide)
  have hq2 := Nat.le_trans HB.out.size hq
  have R3 := Lib.hid hL
  have R5 := Lib.hid ht
  have HB := Lib.hid (HB.out.trans (hb3.mono HB.out.size))
  clear hb3
  clear hf hL ht
  unfold ptr at f4
  simp only [putAll, put_lit, List.map_cons, List.map_nil, List.set_cons_succ, List.set_cons_zero]
  simp only [f4]
  go_wp2
  go_ret
  exact ⟨q, t, rfl, R3.out, R5.out, hq2, HB.out⟩

set_option maxRecDepth 100000 in
set_option maxHeartbeats 4000000 in
theorem join_R (n : Nat) (ih : JoinTo n) (X Y k1 k2 : Nat) (ta tb tc : Tr) (v1 v2 : Value) (w : World) (hT : Tabs w) (tX : IsTr w X ta) (t1 : IsTr w k1 tb) (t2 : IsTr w k2 tc) (nX : Nd w X v1 v2 ta.ht) (nY : Nd w Y (ptr k1) (ptr k2) (Tr.knot tb tc).ht) (ho : (Tr.knot ta (.knot tb tc)).Ok) (h0 : ta.ht + 1 < (Tr.knot tb tc).ht) (hn : ta.ht + tb.ht ≤ n) :
  Calls Tryz.prog 161 #[ptr X, ptr Y] w (Made (ta.leaves ++ (tb.leaves ++ tc.leaves)) w) := by
 have H1 := Lib.hid t1
 have H2 := Lib.hid t2
 have HX := Lib.hid tX
 have HT := Lib.hid hT
 obtain ⟨o0, o1⟩ := okB1 ho
 have O0 := Lib.hid o0
 have O1 := Lib.hid o1
 have b3 := ho.left.ht_lt
 have b4 := ho.left.sz
 have b5 := ho.right.ht_lt
 have b6 := ho.right.sz
 have w1 : IntKind.i64.wrap ((ta.ht : Int) + 1) = (ta.ht : Int) + 1 := IntWalk.i64_in _ (by omega)
 have w2 : IntKind.i64.wrap (((Tr.knot tb tc).ht : Int) + 1) = ((Tr.knot tb tc).ht : Int) + 1 := IntWalk.i64_in _ (by omega)
 have q0 : (ta.ht : Int) + 1 < ((Tr.knot tb tc).ht : Int) := by omega
 have q1 : decide (((Tr.knot tb tc).ht : Int) + 1 < (ta.ht : Int)) = false := by rw [decide_eq_false_iff_not]; omega
 have HN := Lib.hid hn
 have IH := Lib.hid ih
 clear hT ho b3 b4 b5 b6 t1 t2 tX h0 o0 o1 hn ih
 generalize (Tr.knot tb tc).ht = e0 at *
 have hc : ∃ e, ta.ht = e := ⟨_, rfl⟩
 obtain ⟨e1, he1⟩ := hc
 rw [he1] at nX q0 q1 w1
 clear he1
 have NX := Lib.hid nX
 have NY := Lib.hid nY
 have hX := nX.h
 have hY := nY.h
 have HB := Lib.hid (Below.refl w.heap.size w)
 clear nX nY
 unfold ptr
 go_enter Tryz.func161, Tryz.ntmps161
 go_wp2
 go_quiet (fail)
 go_wp2
 clear hX hY
 have hD := Drawn.below (w := w) nq
 have H1 := Lib.hid (H1.out.below hD)
 have H2 := Lib.hid (H2.out.below hD)
 have HX := Lib.hid (HX.out.below hD)
 have NX := Lib.hid (NX.out.below hD)
 have NY := Lib.hid (NY.out.below hD)
 have HT := Lib.hid (tabs_below HT.out hD)
 have HB := Lib.hid (HB.out.trans (hD.mono HB.out.size))
 clear hD
 obtain ⟨W0, hW⟩ : ∃ W, w.drewN nq = W := ⟨_, rfl⟩
 rw [hW] at H1 H2 HX NX NY HT HB
 rw [hW]
 clear hW
 have hX := NX.out.h
 have hY := NY.out.h
 go_quiet (fail)
 go_wp2
 clear hX hY
 have hD := Drawn.below (w := W0) nq
 have H1 := Lib.hid (H1.out.below hD)
 have H2 := Lib.hid (H2.out.below hD)
 have HX := Lib.hid (HX.out.below hD)
 have NX := Lib.hid (NX.out.below hD)
 have NY := Lib.hid (NY.out.below hD)
 have HT := Lib.hid (tabs_below HT.out hD)
 have HB := Lib.hid (HB.out.trans (hD.mono HB.out.size))
 clear hD
 obtain ⟨W1, hW⟩ : ∃ W, W0.drewN nq = W := ⟨_, rfl⟩
 rw [hW] at H1 H2 HX NX NY HT HB
 rw [hW]
 clear hW
 refine wp_held' mixed (VJoinR X Y W1.heap.size k1 k2 (ta.leaves ++ tb.leaves) (ta.leaves ++ (tb.leaves ++ tc.leaves))) (VJoinR_mono _ _ _ _ _ _ _) (by kernel_rfl) [46, 47, 48, 49, 50, 51, 52, 53, 54, 55, 56, 4] (by kernel_rfl) (by kernel_rfl) ?_ ?_
 ·intro j hj
  have hj' : j < 12 := hj
  rcases (by omega : j = 0 ∨ j = 1 ∨ j = 2 ∨ j = 3 ∨ j = 4 ∨ j = 5 ∨ j = 6 ∨ j = 7 ∨ j = 8 ∨ j = 9 ∨ j = 10 ∨ j = 11) with rfl | rfl | rfl | rfl | rfl | rfl | rfl | rfl | rfl | rfl | rfl | rfl
  ·(refine owes_val (L := [(0, false)]) rfl rfl rfl (by kernel_rfl) ?_; intro a' w' hb' hfacts; obtain ⟨hf0, -⟩ := hfacts; replace hf0 : a'.tmps[0]?.getD undef = .pointer (some ⟨X, 0, none⟩) := hf0)
   have pX := (NY.out.below hb').l; have sX := (NY.out.below hb').r; unfold ptr at pX sX
   (go_simp; first | exact ⟨_, rfl, Br _, rfl⟩ | exact ⟨_, rfl, Br _, trivial⟩ | exact ⟨_, rfl, Ba _ _, trivial⟩ | exact ⟨_, rfl, Br _, congrArg (Value.int _) (IntWalk.i64_in _ (by omega))⟩)
  ·(refine owes_val (L := [(1, false)]) rfl rfl rfl (by kernel_rfl) ?_; intro a' w' hb' hfacts; obtain ⟨hf1, -⟩ := hfacts; replace hf1 : a'.tmps[1]?.getD undef = .pointer (some ⟨Y, 0, none⟩) := hf1)
   have pX := (NY.out.below hb').l; have sX := (NY.out.below hb').r; unfold ptr at pX sX
   (go_simp; first | exact ⟨_, rfl, Br _, rfl⟩ | exact ⟨_, rfl, Br _, trivial⟩ | exact ⟨_, rfl, Ba _ _, trivial⟩ | exact ⟨_, rfl, Br _, congrArg (Value.int _) (IntWalk.i64_in _ (by omega))⟩)
  ·(refine owes_val (L := [(47, true)]) rfl rfl rfl (by kernel_rfl) ?_; intro a' w' hb' hfacts; obtain ⟨hf47, -⟩ := hfacts; try simp only [VJoinR] at hf47)
   have pX := (NY.out.below hb').l; have sX := (NY.out.below hb').r; unfold ptr at pX sX
   (go_simp; first | exact ⟨_, rfl, Br _, rfl⟩ | exact ⟨_, rfl, Br _, trivial⟩ | exact ⟨_, rfl, Ba _ _, trivial⟩ | exact ⟨_, rfl, Br _, congrArg (Value.int _) (IntWalk.i64_in _ (by omega))⟩)
  ·(refine owes_val (L := [(48, true)]) rfl rfl rfl (by kernel_rfl) ?_; intro a' w' hb' hfacts; obtain ⟨hf48, -⟩ := hfacts; try simp only [VJoinR] at hf48)
   have pX := (NY.out.below hb').l; have sX := (NY.out.below hb').r; unfold ptr at pX sX
   (go_simp; first | exact ⟨_, rfl, Br _, rfl⟩ | exact ⟨_, rfl, Br _, trivial⟩ | exact ⟨_, rfl, Ba _ _, trivial⟩ | exact ⟨_, rfl, Br _, congrArg (Value.int _) (IntWalk.i64_in _ (by omega))⟩)
  ·(refine owes_val (L := [(49, true)]) rfl rfl rfl (by kernel_rfl) ?_; intro a' w' hb' hfacts; obtain ⟨hf49, -⟩ := hfacts; try simp only [VJoinR] at hf49)
   have pX := (NY.out.below hb').l; have sX := (NY.out.below hb').r; unfold ptr at pX sX
   (go_simp; first | exact ⟨_, rfl, Br _, rfl⟩ | exact ⟨_, rfl, Br _, trivial⟩ | exact ⟨_, rfl, Ba _ _, trivial⟩ | exact ⟨_, rfl, Br _, congrArg (Value.int _) (IntWalk.i64_in _ (by omega))⟩)
  ·(refine owes_val (L := [(46, true), (50, true)]) rfl rfl rfl (by kernel_rfl) ?_; intro a' w' hb' hfacts; obtain ⟨hf46, hf50, -⟩ := hfacts; try simp only [VJoinR] at hf46; try simp only [VJoinR] at hf50)
   go_simp
   refine (IH.out X k1 ta tb _ HN.out (tabs_below HT.out hb') (HX.out.below hb') (H1.out.below hb') O0.out).mono ?_
   rintro e w3 ⟨q, t, rfl, hq, ht, hs, hb3⟩
   exact ⟨_, rfl, hb3, q, t, rfl, Nat.le_trans hb'.size hs, hq, ht⟩
  ·(refine owes_val (L := [(1, false)]) rfl rfl rfl (by kernel_rfl) ?_; intro a' w' hb' hfacts; obtain ⟨hf1, -⟩ := hfacts; replace hf1 : a'.tmps[1]?.getD undef = .pointer (some ⟨Y, 0, none⟩) := hf1)
   have pX := (NY.out.below hb').l; have sX := (NY.out.below hb').r; unfold ptr at pX sX
   (go_simp; first | exact ⟨_, rfl, Br _, rfl⟩ | exact ⟨_, rfl, Br _, trivial⟩ | exact ⟨_, rfl, Ba _ _, trivial⟩ | exact ⟨_, rfl, Br _, congrArg (Value.int _) (IntWalk.i64_in _ (by omega))⟩)
  ·(refine owes_val (L := [(52, true)]) rfl rfl rfl (by kernel_rfl) ?_; intro a' w' hb' hfacts; obtain ⟨hf52, -⟩ := hfacts; try simp only [VJoinR] at hf52)
   have pX := (NY.out.below hb').l; have sX := (NY.out.below hb').r; unfold ptr at pX sX
   (go_simp; first | exact ⟨_, rfl, Br _, rfl⟩ | exact ⟨_, rfl, Br _, trivial⟩ | exact ⟨_, rfl, Ba _ _, trivial⟩ | exact ⟨_, rfl, Br _, congrArg (Value.int _) (IntWalk.i64_in _ (by omega))⟩)
  ·(refine owes_val (L := [(53, true)]) rfl rfl rfl (by kernel_rfl) ?_; intro a' w' hb' hfacts; obtain ⟨hf53, -⟩ := hfacts; try simp only [VJoinR] at hf53)
   have pX := (NY.out.below hb').l; have sX := (NY.out.below hb').r; unfold ptr at pX sX
   (go_simp; first | exact ⟨_, rfl, Br _, rfl⟩ | exact ⟨_, rfl, Br _, trivial⟩ | exact ⟨_, rfl, Ba _ _, trivial⟩ | exact ⟨_, rfl, Br _, congrArg (Value.int _) (IntWalk.i64_in _ (by omega))⟩)
  ·(refine owes_val (L := [(54, true)]) rfl rfl rfl (by kernel_rfl) ?_; intro a' w' hb' hfacts; obtain ⟨hf54, -⟩ := hfacts; try simp only [VJoinR] at hf54)
   have pX := (NY.out.below hb').l; have sX := (NY.out.below hb').r; unfold ptr at pX sX
   (go_simp; first | exact ⟨_, rfl, Br _, rfl⟩ | exact ⟨_, rfl, Br _, trivial⟩ | exact ⟨_, rfl, Ba _ _, trivial⟩ | exact ⟨_, rfl, Br _, congrArg (Value.int _) (IntWalk.i64_in _ (by omega))⟩)
  ·(refine owes_val (L := [(51, true), (55, true)]) rfl rfl rfl (by kernel_rfl) ?_; intro a' w' hb' hfacts; obtain ⟨hf51, hf55, -⟩ := hfacts; try simp only [VJoinR] at hf51; try simp only [VJoinR] at hf55)
   obtain ⟨g, t, hh, hq, hL, ht⟩ := hf51
   unfold ptr at hh
   go_simp
   refine (balanced_any g k2 t tc _ (tabs_below HT.out hb') hL (H2.out.below hb') (O1.out.of (by simp only [Tr.leaves, ht]))).mono ?_
   rintro e w3 ⟨q, t', rfl, hq, ht', hs, hb3⟩
   rw [ht, List.append_assoc] at ht'
   exact ⟨_, rfl, hb3, q, t', rfl, Nat.le_trans hb'.size hs, hq, ht'⟩
  ·(refine owes_val (L := [(56, true)]) rfl rfl rfl (by kernel_rfl) ?_; intro a' w' hb' hfacts; obtain ⟨hf56, -⟩ := hfacts; try simp only [VJoinR] at hf56)
   obtain ⟨g, t, hh, hq, hL, ht⟩ := hf56
   unfold ptr at hh
   go_simp
   exact ⟨_, rfl, Below.refl _ _, g, t, rfl, hq, hL, ht⟩
 ·intro f W9 hf hb3
  obtain ⟨q, t, f4, hq, hL, ht⟩ : TrV W1.heap.size (ta.leaves ++ (tb.leaves ++ tc.leaves)) (f 4) W9 := hf 4 (by decide)
  have hq2 := Nat.le_trans HB.out.size hq
  have R3 := Lib.hid hL
  have R5 := Lib.hid ht
  have HB := Lib.hid (HB.out.trans (hb3.mono HB.out.size))
  clear hb3
  clear hf hL ht
  unfold ptr at f4
  simp only [putAll, put_lit, List.map_cons, List.map_nil, List.set_cons_succ, List.set_cons_zero]
  simp only [f4]
  go_wp2
  go_ret
  exact ⟨q, t, rfl, R3.out, R5.out, hq2, HB.out⟩

theorem join_C (X Y : Nat) (ta tb : Tr) (v1 v2 v3 v4 : Value) (w : World) (hT : Tabs w) (tX : IsTr w X ta) (tY : IsTr w Y tb) (nX : Nd w X v1 v2 ta.ht) (nY : Nd w Y v3 v4 tb.ht) (ho : (Tr.knot ta tb).Ok) (h0 : ¬ tb.ht + 1 < ta.ht) (h1 : ¬ ta.ht + 1 < tb.ht) :
  Calls Tryz.prog 161 #[ptr X, ptr Y] w (Made (ta.leaves ++ tb.leaves) w) := by
 have HX := Lib.hid tX
 have HY := Lib.hid tY
 have HT := Lib.hid hT
 have HO := Lib.hid ho
 have b3 := ho.left.ht_lt
 have b4 := ho.left.sz
 have b5 := ho.right.ht_lt
 have b6 := ho.right.sz
 have w1 : IntKind.i64.wrap ((tb.ht : Int) + 1) = (tb.ht : Int) + 1 := IntWalk.i64_in _ (by omega)
 have w2 : IntKind.i64.wrap ((ta.ht : Int) + 1) = (ta.ht : Int) + 1 := IntWalk.i64_in _ (by omega)
 have q0 : decide ((tb.ht : Int) + 1 < (ta.ht : Int)) = false := by rw [decide_eq_false_iff_not]; omega
 have q1 : decide ((ta.ht : Int) + 1 < (tb.ht : Int)) = false := by rw [decide_eq_false_iff_not]; omega
 clear hT ho b3 b4 b5 b6 tX tY h0 h1
 generalize ta.ht = e0 at *
 generalize tb.ht = e1 at *
 have NX := Lib.hid nX
 have NY := Lib.hid nY
 have hX := nX.h
 have hY := nY.h
 have HB := Lib.hid (Below.refl w.heap.size w)
 clear nX nY
 unfold ptr
 go_enter Tryz.func161, Tryz.ntmps161
 go_wp2
 go_quiet (fail)
 go_wp2
 clear hX hY
 have hD := Drawn.below (w := w) nq
 have HX := Lib.hid (HX.out.below hD)
 have HY := Lib.hid (HY.out.below hD)
 have NX := Lib.hid (NX.out.below hD)
 have NY := Lib.hid (NY.out.below hD)
 have HT := Lib.hid (tabs_below HT.out hD)
 have HB := Lib.hid (HB.out.trans (hD.mono HB.out.size))
 clear hD
 obtain ⟨W0, hW⟩ : ∃ W, w.drewN nq = W := ⟨_, rfl⟩
 rw [hW] at HX HY NX NY HT HB
 rw [hW]
 clear hW
 have hX := NX.out.h
 have hY := NY.out.h
 go_quiet (fail)
 go_wp2_with fail
 clear hX hY
 have hD := Drawn.below (w := W0) nq
 have HX := Lib.hid (HX.out.below hD)
 have HY := Lib.hid (HY.out.below hD)
 have NX := Lib.hid (NX.out.below hD)
 have NY := Lib.hid (NY.out.below hD)
 have HT := Lib.hid (tabs_below HT.out hD)
 have HB := Lib.hid (HB.out.trans (hD.mono HB.out.size))
 clear hD
 obtain ⟨W1, hW⟩ : ∃ W, W0.drewN nq = W := ⟨_, rfl⟩
 rw [hW] at HX HY NX NY HT HB
 rw [hW]
 clear hW
 refine (knot_any X Y ta tb _ HT.out HX.out HY.out HO.out).mono ?_
 rintro e w1 ⟨q, rfl, hq, hs, hb⟩
 have R := Lib.hid hq
 have hs2 := Nat.le_trans HB.out.size hs
 have HB := Lib.hid (HB.out.trans (hb.mono HB.out.size))
 clear hb
 clear hq
 unfold ptr
 go_wp2
 go_ret
 exact ⟨q, _, rfl, R.out, rfl, hs2, HB.out⟩

theorem join_to : ∀ n, JoinTo n
 | n, X, Y, l, r, w, hn, hT, hX, hY, ho => by
  obtain ⟨v1, v2, nX⟩ := hX.nd
  obtain ⟨v3, v4, nY⟩ := hY.nd
  by_cases h1 : r.ht + 1 < l.ht
  ·obtain ⟨a, b, x, y, rfl, hx, hy, m⟩ := hX.parts (by omega)
   have : b.ht < (Tr.knot a b).ht := by simp only [Tr.ht]; omega
   rw [show (Tr.knot a b).leaves ++ r.leaves = a.leaves ++ (b.leaves ++ r.leaves) by simp [Tr.leaves]]
   exact join_L (n - 1) (join_to (n - 1)) X Y x y a b r _ _ w hT hx hy hY m nY ho h1 (by omega)
  ·by_cases h2 : l.ht + 1 < r.ht
   ·obtain ⟨b, c, x, y, rfl, hx, hy, m⟩ := hY.parts (by omega)
    have : b.ht < (Tr.knot b c).ht := by simp only [Tr.ht]; omega
    rw [show l.leaves ++ (Tr.knot b c).leaves = l.leaves ++ (b.leaves ++ c.leaves) by simp [Tr.leaves]]
    exact join_R (n - 1) (join_to (n - 1)) X Y x y l b c _ _ w hT hX hx hy nX m ho h2 (by omega)
   ·exact join_C X Y l r _ _ _ _ w hT hX hY nX nY ho h1 h2
termination_by n => n
decreasing_by all_goals omega

/-- A tree that may be none. -/
def lvs : Option Tr → List ByteArray
 | none => []
 | some t => t.leaves
def IsOpt (W : World) (v : Value) : Option Tr → Prop
 | none => v = .pointer none
 | some t => ∃ b, v = ptr b ∧ IsTr W b t
theorem IsOpt.below {W W' : World} {v : Value} : ∀ {t : Option Tr}, IsOpt W v t → Below W.heap.size W W' → IsOpt W' v t
 | none, h, _ => h
 | some t, ⟨b, h1, h2⟩, hb => ⟨b, h1, h2.below hb⟩
/-- All leaves of a list have bytes, and all together are of a size that is met. -/
structure OkL (l : List ByteArray) : Prop where
 ne : ∀ x ∈ l, 0 < x.size
 sz : (cat l).size ≤ 4294967296
theorem Tr.ok_iff {t : Tr} : t.Ok ↔ OkL t.leaves := ⟨fun h => ⟨h.ne, by rw [← text_leaves]; exact h.sz⟩, fun h => ⟨h.ne, by rw [text_leaves]; exact h.sz⟩⟩
theorem join_any (v1 v2 : Value) (l r : Option Tr) (w : World) (hT : Tabs w) (hl : IsOpt w v1 l) (hr : IsOpt w v2 r) (ho : OkL (lvs l ++ lvs r)) :
  Calls Tryz.prog 161 #[v1, v2] w fun e w' => ∃ v t, e = .returned v ∧ IsOpt w' v t ∧ lvs t = lvs l ++ lvs r ∧ Below w.heap.size w w' := by
 match l, r, hl, hr with
 | none, r, h, hr =>
  obtain rfl : v1 = .pointer none := h
  have HR := Lib.hid hr
  have hv : v2 = .pointer none ∨ ∃ b, v2 = ptr b := by
   cases r with
   | none => exact .inl hr
   | some t => obtain ⟨b, h, _⟩ := hr; exact .inr ⟨b, h⟩
  clear hr hT ho
  rcases hv with rfl | ⟨b, rfl⟩
  all_goals
   try unfold ptr at *
   go_enter Tryz.func161, Tryz.ntmps161
   go_wp2
   go_ret
   exact ⟨_, r, rfl, HR.out, rfl, Below.refl _ _⟩
 | some t, none, ⟨b, h1, h2⟩, h =>
  obtain rfl : v2 = .pointer none := h
  subst h1
  have HR := Lib.hid h2
  clear h2 hT ho
  unfold ptr at *
  go_enter Tryz.func161, Tryz.ntmps161
  go_wp2
  go_ret
  exact ⟨_, some t, rfl, ⟨b, rfl, HR.out⟩, by simp [lvs], Below.refl _ _⟩
 | some t, some u, ⟨b, h1, h2⟩, ⟨c, h3, h4⟩ =>
  subst h1 h3
  refine (join_to _ b c t u w (Nat.le_refl _) hT h2 h4 (Tr.ok_iff.2 ho)).mono ?_
  rintro e w' ⟨q, x, rfl, hq, hx, -, hb⟩
  exact ⟨_, some x, rfl, ⟨q, rfl, hq⟩, hx, hb⟩
end Go.Proofs.YtfchglcclgcgfaaGreatDoor.Ut
