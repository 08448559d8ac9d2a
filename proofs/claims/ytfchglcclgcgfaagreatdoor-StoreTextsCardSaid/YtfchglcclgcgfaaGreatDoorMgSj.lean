/-
  What the proof of the laws S rests on: the texts RoE. Conditions: each theorem names its own.
-/
import Derived.Test.YtfchglcclgcgfaaGreatDoorMgSi
/-
 rope.balanced. Condition: the two tables of unicode/utf8 lie as laid; no leaf is empty.
-/
namespace Go.Proofs.YtfchglcclgcgfaaGreatDoor.Ut
open Go.RowKit Go.Proofs.YtfchglcclgcgfaaGreatDoor.Reg
set_option linter.unusedVariables false
set_option linter.unusedSimpArgs false

/-- A node's parts and height. -/
structure Nd (W : World) (b : Nat) (l r : Value) (h : Nat) : Prop where
 lt : b < W.heap.size
 l : W.cell? ⟨b, 0, none⟩ = some l
 r : W.cell? ⟨b, 1, none⟩ = some r
 h : W.cell? ⟨b, 2, none⟩ = some (.int .i64 h)
theorem Nd.below {W W' : World} {b : Nat} {l r : Value} {h : Nat} (H : Nd W b l r h) (hb : Below W.heap.size W W') : Nd W' b l r h :=
 ⟨Nat.lt_of_lt_of_le H.lt hb.size, (hb.cell (p := ⟨b, 0, none⟩) H.lt).trans H.l, (hb.cell (p := ⟨b, 1, none⟩) H.lt).trans H.r, (hb.cell (p := ⟨b, 2, none⟩) H.lt).trans H.h⟩
theorem Nd.of {W : World} {b : Nat} {l r : Value} {h : Nat} {m : Sm} {s : ByteArray} (H : Lies W b (nodeV l r (h : Nat) m s)) : Nd W b l r h := ⟨H.1, (H.2 0 _ rfl).1, (H.2 1 _ rfl).1, (H.2 2 _ rfl).1⟩
theorem IsTr.nd {W : World} {t : Tr} {b : Nat} (h : IsTr W b t) : ∃ l r, Nd W b l r t.ht := by
 obtain ⟨l, r, s, H⟩ := h.node
 exact ⟨l, r, Nd.of H⟩
theorem IsTr.parts {W : World} {b : Nat} : ∀ {t : Tr}, IsTr W b t → 0 < t.ht → ∃ l r x y, t = .knot l r ∧ IsTr W x l ∧ IsTr W y r ∧ Nd W b (ptr x) (ptr y) t.ht
 | .leaf s, h, h0 => by simp [Tr.ht] at h0
 | .knot l r, ⟨x, y, hx, hy, hL⟩, _ => ⟨l, r, x, y, rfl, hx, hy, Nd.of hL.lies⟩
theorem Tr.Ok.of {t u : Tr} (h : u.Ok) (e : t.leaves = u.leaves) : t.Ok := ⟨by rw [e]; exact h.ne, by rw [Tr.text_leaves, e, ← Tr.text_leaves]; exact h.sz⟩
/-- A tree of these leaves was made. -/
def Made (l : List ByteArray) (w : World) : Ending → World → Prop := fun e w' => ∃ b t, e = .returned (ptr b) ∧ IsTr w' b t ∧ t.leaves = l ∧ w.heap.size ≤ b ∧ Below w.heap.size w w'

-- CASES (printed by tools/bal.py)
theorem ok_sub {t u : Tr} (h : u.Ok) (h1 : ∀ x ∈ t.leaves, x ∈ u.leaves) (h2 : t.text.size ≤ u.text.size) : t.Ok := ⟨fun x hx => h.ne x (h1 x hx), Nat.le_trans h2 h.sz⟩

theorem okA1 {a b c : Tr} (h : (Tr.knot (.knot a b) c).Ok) : (Tr.knot b c).Ok ∧ (Tr.knot a (.knot b c)).Ok :=
 ⟨ok_sub h (by simp only [Tr.leaves, List.mem_append]; intro x hx; grind) (by simp only [Tr.text, ByteArray.size_append]; omega), ok_sub h (by simp only [Tr.leaves, List.mem_append]; intro x hx; grind) (by simp only [Tr.text, ByteArray.size_append]; omega)⟩

theorem okA2 {a b c d : Tr} (h : (Tr.knot (.knot a (.knot b c)) d).Ok) : (Tr.knot a b).Ok ∧ (Tr.knot c d).Ok ∧ (Tr.knot (.knot a b) (.knot c d)).Ok :=
 ⟨ok_sub h (by simp only [Tr.leaves, List.mem_append]; intro x hx; grind) (by simp only [Tr.text, ByteArray.size_append]; omega), ok_sub h (by simp only [Tr.leaves, List.mem_append]; intro x hx; grind) (by simp only [Tr.text, ByteArray.size_append]; omega), ok_sub h (by simp only [Tr.leaves, List.mem_append]; intro x hx; grind) (by simp only [Tr.text, ByteArray.size_append]; omega)⟩

theorem okB1 {a b c : Tr} (h : (Tr.knot a (.knot b c)).Ok) : (Tr.knot a b).Ok ∧ (Tr.knot (.knot a b) c).Ok :=
 ⟨ok_sub h (by simp only [Tr.leaves, List.mem_append]; intro x hx; grind) (by simp only [Tr.text, ByteArray.size_append]; omega), ok_sub h (by simp only [Tr.leaves, List.mem_append]; intro x hx; grind) (by simp only [Tr.text, ByteArray.size_append]; omega)⟩

theorem okB2 {a b c d : Tr} (h : (Tr.knot a (.knot (.knot b c) d)).Ok) : (Tr.knot a b).Ok ∧ (Tr.knot c d).Ok ∧ (Tr.knot (.knot a b) (.knot c d)).Ok :=
 ⟨ok_sub h (by simp only [Tr.leaves, List.mem_append]; intro x hx; grind) (by simp only [Tr.text, ByteArray.size_append]; omega), ok_sub h (by simp only [Tr.leaves, List.mem_append]; intro x hx; grind) (by simp only [Tr.text, ByteArray.size_append]; omega), ok_sub h (by simp only [Tr.leaves, List.mem_append]; intro x hx; grind) (by simp only [Tr.text, ByteArray.size_append]; omega)⟩

def VBalA1 (X Y base k1 k2 : Nat) (ta tb tc : Tr) : Nat → Value → World → Prop := fun d x w => match d with
 | 33 => x = .pointer (some ⟨X, 0, none⟩)
 | 34 => x = .pointer (some ⟨X, 0, none⟩)
 | 35 => x = .pointer (some ⟨X, 0, none⟩)
 | 36 => x = .pointer (some ⟨k1, 0, none⟩)
 | 37 => x = .pointer (some ⟨X, 0, none⟩)
 | 38 => x = .pointer (some ⟨X, 0, none⟩)
 | 39 => x = .pointer (some ⟨X, 1, none⟩)
 | 40 => x = .pointer (some ⟨k2, 0, none⟩)
 | 41 => x = .pointer (some ⟨Y, 0, none⟩)
 | 42 => ∃ q, x = ptr q ∧ base ≤ q ∧ IsTr w q (Tr.knot tb tc)
 | 43 => ∃ q, x = ptr q ∧ base ≤ q ∧ IsTr w q (Tr.knot ta (.knot tb tc))
 | 4 => ∃ q, x = ptr q ∧ base ≤ q ∧ IsTr w q (Tr.knot ta (.knot tb tc))
 | _ => True
theorem VBalA1_mono (X Y base k1 k2 : Nat) (ta tb tc : Tr) : ∀ d x w w', VBalA1 X Y base k1 k2 ta tb tc d x w → Below w.heap.size w w' → VBalA1 X Y base k1 k2 ta tb tc d x w' := by
 intro d x w w' h hb
 unfold VBalA1 at *
 split <;> first | exact h | exact trivial | skip
 all_goals (obtain ⟨q, h1, h2, h3⟩ := h; exact ⟨q, h1, h2, h3.below hb⟩)

set_option maxRecDepth 100000 in
set_option maxHeartbeats 4000000 in
theorem bal_A1 (X Y : Nat) (k1 k2 : Nat) (ta tb tc : Tr) (v1 v2 v3 v4 v5 v6 : Value) (w : World) (hT : Tabs w) (tk1 : IsTr w k1 (ta)) (tk2 : IsTr w k2 (tb)) (tY : IsTr w Y (tc)) (nX : Nd w X (ptr k1) (ptr k2) (Tr.knot ta tb).ht) (nY : Nd w Y v1 v2 (tc).ht) (nk1 : Nd w k1 v3 v4 (ta).ht) (nk2 : Nd w k2 v5 v6 (tb).ht) (ho : (Tr.knot (.knot ta tb) tc).Ok) (h0 : tc.ht + 1 < (Tr.knot ta tb).ht) (h1 : tb.ht ≤ ta.ht) :
  Calls Tryz.prog 183 #[ptr X, ptr Y] w (Made (Tr.knot (.knot ta tb) tc).leaves w) := by
 have Hk1 := Lib.hid tk1
 have Hk2 := Lib.hid tk2
 have HY := Lib.hid tY
 have HT := Lib.hid hT
 have HO := Lib.hid ho
 have b1 := ho.left.ht_lt
 have b2 := ho.left.sz
 have b3 := ho.right.ht_lt
 have b4 := ho.right.sz
 have w1 : IntKind.i64.wrap (((tc).ht : Int) + 1) = ((tc).ht : Int) + 1 := IntWalk.i64_in _ (by omega)
 have w2 : IntKind.i64.wrap (((Tr.knot ta tb).ht : Int) + 1) = ((Tr.knot ta tb).ht : Int) + 1 := IntWalk.i64_in _ (by omega)
 have q0 : ((tc.ht : Int)+1) < ((Tr.knot ta tb).ht : Int) := by omega
 have q1 : ((tb.ht : Int)) ≤ (ta.ht : Int) := by omega
 clear hT ho b1 b2 b3 b4 tk1 tk2 tY h0 h1
 generalize (Tr.knot ta tb).ht = e0 at *
 generalize (ta).ht = e1 at *
 generalize (tb).ht = e2 at *
 generalize (tc).ht = e3 at *
 have NX := Lib.hid nX
 have NY := Lib.hid nY
 have Nk1 := Lib.hid nk1
 have Nk2 := Lib.hid nk2
 have lX := nX.l
 have rX := nX.r
 have hX := nX.h
 clear nX
 have lY := nY.l
 have rY := nY.r
 have hY := nY.h
 clear nY
 have lk1 := nk1.l
 have rk1 := nk1.r
 have hk1 := nk1.h
 clear nk1
 have lk2 := nk2.l
 have rk2 := nk2.r
 have hk2 := nk2.h
 clear nk2
 have HB := Lib.hid (Below.refl w.heap.size w)
 have hsz : w.heap.size ≤ w.heap.size := Nat.le_refl _
 have HSZ := Lib.hid hsz
 clear hsz
 unfold ptr at *
 go_enter Tryz.func183, Tryz.ntmps183
 go_wp2
 go_quiet (fail)
 go_wp2
 have hD := Drawn.below (w := w) nq
 have HT := Lib.hid (tabs_below HT.out hD)
 have Hk1 := Lib.hid (Hk1.out.below hD)
 have Hk2 := Lib.hid (Hk2.out.below hD)
 have HY := Lib.hid (HY.out.below hD)
 have NX := Lib.hid (NX.out.below hD)
 have NY := Lib.hid (NY.out.below hD)
 have Nk1 := Lib.hid (Nk1.out.below hD)
 have Nk2 := Lib.hid (Nk2.out.below hD)
 have HB := Lib.hid (HB.out.trans (hD.mono HB.out.size))
 have HSZ := Lib.hid (Nat.le_trans HSZ.out hD.size)
 clear hD lX rX hX lY rY hY lk1 rk1 hk1 lk2 rk2 hk2
 obtain ⟨W0, hW⟩ : ∃ W, w.drewN nq = W := ⟨_, rfl⟩
 rw [hW] at HT HB HSZ Hk1 Hk2 HY NX NY Nk1 Nk2
 rw [hW]
 clear hW
 have lX := NX.out.l
 have rX := NX.out.r
 have hX := NX.out.h
 have lY := NY.out.l
 have rY := NY.out.r
 have hY := NY.out.h
 have lk1 := Nk1.out.l
 have rk1 := Nk1.out.r
 have hk1 := Nk1.out.h
 have lk2 := Nk2.out.l
 have rk2 := Nk2.out.r
 have hk2 := Nk2.out.h
 obtain ⟨o0, o1⟩ := okA1 HO.out
 have ltX := NX.out.lt
 have ltY := NY.out.lt
 have ltk1 := Nk1.out.lt
 have ltk2 := Nk2.out.lt
 refine wp_held' mixed (VBalA1 X Y W0.heap.size k1 k2 ta tb tc) (VBalA1_mono X Y W0.heap.size k1 k2 ta tb tc) (by kernel_rfl) [33, 34, 35, 36, 37, 38, 39, 40, 41, 42, 43, 4] (by kernel_rfl) (by kernel_rfl) ?_ ?_
 ·intro j hj
  have hj' : j < 12 := hj
  rcases (by omega : j = 0 ∨ j = 1 ∨ j = 2 ∨ j = 3 ∨ j = 4 ∨ j = 5 ∨ j = 6 ∨ j = 7 ∨ j = 8 ∨ j = 9 ∨ j = 10 ∨ j = 11) with rfl | rfl | rfl | rfl | rfl | rfl | rfl | rfl | rfl | rfl | rfl | rfl
  ·(refine owes_val (L := [(0, false)]) rfl rfl rfl (by kernel_rfl) ?_; intro a' w' hb' hfacts; obtain ⟨hf0, -⟩ := hfacts; replace hf0 : a'.tmps[0]?.getD undef = .pointer (some ⟨X, 0, none⟩) := hf0)
   have pX := (NX.out.below hb').l; have sX := (NX.out.below hb').r
   (go_simp; first | exact ⟨_, rfl, Br _, rfl⟩ | exact ⟨_, rfl, Br _, trivial⟩ | exact ⟨_, rfl, Ba _ _, trivial⟩ | exact ⟨_, rfl, Br _, congrArg (Value.int _) (IntWalk.i64_in _ (by omega))⟩)
  ·(refine owes_val (L := [(33, true)]) rfl rfl rfl (by kernel_rfl) ?_; intro a' w' hb' hfacts; obtain ⟨hf33, -⟩ := hfacts; try simp only [VBalA1] at hf33)
   have pX := (NX.out.below hb').l; have sX := (NX.out.below hb').r
   (go_simp; first | exact ⟨_, rfl, Br _, rfl⟩ | exact ⟨_, rfl, Br _, trivial⟩ | exact ⟨_, rfl, Ba _ _, trivial⟩ | exact ⟨_, rfl, Br _, congrArg (Value.int _) (IntWalk.i64_in _ (by omega))⟩)
  ·(refine owes_val (L := [(34, true)]) rfl rfl rfl (by kernel_rfl) ?_; intro a' w' hb' hfacts; obtain ⟨hf34, -⟩ := hfacts; try simp only [VBalA1] at hf34)
   have pX := (NX.out.below hb').l; have sX := (NX.out.below hb').r
   (go_simp; first | exact ⟨_, rfl, Br _, rfl⟩ | exact ⟨_, rfl, Br _, trivial⟩ | exact ⟨_, rfl, Ba _ _, trivial⟩ | exact ⟨_, rfl, Br _, congrArg (Value.int _) (IntWalk.i64_in _ (by omega))⟩)
  ·(refine owes_val (L := [(35, true)]) rfl rfl rfl (by kernel_rfl) ?_; intro a' w' hb' hfacts; obtain ⟨hf35, -⟩ := hfacts; try simp only [VBalA1] at hf35)
   have pX := (NX.out.below hb').l; have sX := (NX.out.below hb').r
   (go_simp; first | exact ⟨_, rfl, Br _, rfl⟩ | exact ⟨_, rfl, Br _, trivial⟩ | exact ⟨_, rfl, Ba _ _, trivial⟩ | exact ⟨_, rfl, Br _, congrArg (Value.int _) (IntWalk.i64_in _ (by omega))⟩)
  ·(refine owes_val (L := [(0, false)]) rfl rfl rfl (by kernel_rfl) ?_; intro a' w' hb' hfacts; obtain ⟨hf0, -⟩ := hfacts; replace hf0 : a'.tmps[0]?.getD undef = .pointer (some ⟨X, 0, none⟩) := hf0)
   have pX := (NX.out.below hb').l; have sX := (NX.out.below hb').r
   (go_simp; first | exact ⟨_, rfl, Br _, rfl⟩ | exact ⟨_, rfl, Br _, trivial⟩ | exact ⟨_, rfl, Ba _ _, trivial⟩ | exact ⟨_, rfl, Br _, congrArg (Value.int _) (IntWalk.i64_in _ (by omega))⟩)
  ·(refine owes_val (L := [(37, true)]) rfl rfl rfl (by kernel_rfl) ?_; intro a' w' hb' hfacts; obtain ⟨hf37, -⟩ := hfacts; try simp only [VBalA1] at hf37)
   have pX := (NX.out.below hb').l; have sX := (NX.out.below hb').r
   (go_simp; first | exact ⟨_, rfl, Br _, rfl⟩ | exact ⟨_, rfl, Br _, trivial⟩ | exact ⟨_, rfl, Ba _ _, trivial⟩ | exact ⟨_, rfl, Br _, congrArg (Value.int _) (IntWalk.i64_in _ (by omega))⟩)
  ·(refine owes_val (L := [(38, true)]) rfl rfl rfl (by kernel_rfl) ?_; intro a' w' hb' hfacts; obtain ⟨hf38, -⟩ := hfacts; try simp only [VBalA1] at hf38)
   have pX := (NX.out.below hb').l; have sX := (NX.out.below hb').r
   (go_simp; first | exact ⟨_, rfl, Br _, rfl⟩ | exact ⟨_, rfl, Br _, trivial⟩ | exact ⟨_, rfl, Ba _ _, trivial⟩ | exact ⟨_, rfl, Br _, congrArg (Value.int _) (IntWalk.i64_in _ (by omega))⟩)
  ·(refine owes_val (L := [(39, true)]) rfl rfl rfl (by kernel_rfl) ?_; intro a' w' hb' hfacts; obtain ⟨hf39, -⟩ := hfacts; try simp only [VBalA1] at hf39)
   have pX := (NX.out.below hb').l; have sX := (NX.out.below hb').r
   (go_simp; first | exact ⟨_, rfl, Br _, rfl⟩ | exact ⟨_, rfl, Br _, trivial⟩ | exact ⟨_, rfl, Ba _ _, trivial⟩ | exact ⟨_, rfl, Br _, congrArg (Value.int _) (IntWalk.i64_in _ (by omega))⟩)
  ·(refine owes_val (L := [(1, false)]) rfl rfl rfl (by kernel_rfl) ?_; intro a' w' hb' hfacts; obtain ⟨hf1, -⟩ := hfacts; replace hf1 : a'.tmps[1]?.getD undef = .pointer (some ⟨Y, 0, none⟩) := hf1)
   have pX := (NX.out.below hb').l; have sX := (NX.out.below hb').r
   (go_simp; first | exact ⟨_, rfl, Br _, rfl⟩ | exact ⟨_, rfl, Br _, trivial⟩ | exact ⟨_, rfl, Ba _ _, trivial⟩ | exact ⟨_, rfl, Br _, congrArg (Value.int _) (IntWalk.i64_in _ (by omega))⟩)
  ·(refine owes_val (L := [(40, true), (41, true)]) rfl rfl rfl (by kernel_rfl) ?_; intro a' w' hb' hfacts; obtain ⟨hf40, hf41, -⟩ := hfacts; try simp only [VBalA1] at hf40; try simp only [VBalA1] at hf41)
   go_simp
   refine (knot_any k2 Y _ _ _ (tabs_below HT.out hb') (Hk2.out.below hb') (HY.out.below hb') o0).mono ?_
   rintro e w3 ⟨q, rfl, hq, hs, hb3⟩
   exact ⟨_, rfl, hb3, q, rfl, Nat.le_trans hb'.size hs, hq⟩
  ·(refine owes_val (L := [(36, true), (42, true)]) rfl rfl rfl (by kernel_rfl) ?_; intro a' w' hb' hfacts; obtain ⟨hf36, hf42, -⟩ := hfacts; try simp only [VBalA1] at hf36; try simp only [VBalA1] at hf42)
   obtain ⟨g42, hh42, hq42, hL42⟩ := hf42
   unfold ptr at hh42
   go_simp
   refine (knot_any k1 g42 _ _ _ (tabs_below HT.out hb') (Hk1.out.below hb') hL42 o1).mono ?_
   rintro e w3 ⟨q, rfl, hq, hs, hb3⟩
   exact ⟨_, rfl, hb3, q, rfl, Nat.le_trans hb'.size hs, hq⟩
  ·(refine owes_val (L := [(43, true)]) rfl rfl rfl (by kernel_rfl) ?_; intro a' w' hb' hfacts; obtain ⟨hf43, -⟩ := hfacts; try simp only [VBalA1] at hf43)
   obtain ⟨q, hh, hq, hL⟩ := hf43
   unfold ptr at hh
   go_simp
   exact ⟨_, rfl, Below.refl _ _, q, rfl, hq, hL⟩
 ·intro f W9 hf hb3
  obtain ⟨q, f4, hq, hL⟩ : ∃ q, f 4 = ptr q ∧ W0.heap.size ≤ q ∧ IsTr W9 q (Tr.knot ta (.knot tb tc)) := hf 4 (by decide)
  have R3 := Lib.hid hL
  have R4 := Lib.hid (HB.out.trans (hb3.mono HB.out.size))
  have hq2 := Nat.le_trans HSZ.out hq
  clear hf hb3 hL
  unfold ptr at f4
  simp only [putAll, put_lit, List.map_cons, List.map_nil, List.set_cons_succ, List.set_cons_zero]
  simp only [f4]
  go_wp2
  go_ret
  exact ⟨q, _, rfl, R3.out, by simp [Tr.leaves], hq2, R4.out⟩

def VBalA2 (X Y base k1 k2 k3 k4 : Nat) (ta tb tc td : Tr) : Nat → Value → World → Prop := fun d x w => match d with
 | 55 => x = .pointer (some ⟨X, 0, none⟩)
 | 56 => x = .pointer (some ⟨X, 0, none⟩)
 | 57 => x = .pointer (some ⟨X, 0, none⟩)
 | 58 => x = .pointer (some ⟨k1, 0, none⟩)
 | 59 => x = .pointer (some ⟨X, 0, none⟩)
 | 60 => x = .pointer (some ⟨X, 0, none⟩)
 | 61 => x = .pointer (some ⟨X, 1, none⟩)
 | 62 => x = .pointer (some ⟨k2, 0, none⟩)
 | 63 => x = .pointer (some ⟨k2, 0, none⟩)
 | 64 => x = .pointer (some ⟨k2, 0, none⟩)
 | 65 => x = .pointer (some ⟨k3, 0, none⟩)
 | 66 => ∃ q, x = ptr q ∧ base ≤ q ∧ IsTr w q (Tr.knot ta tb)
 | 67 => x = .pointer (some ⟨X, 0, none⟩)
 | 68 => x = .pointer (some ⟨X, 0, none⟩)
 | 69 => x = .pointer (some ⟨X, 1, none⟩)
 | 70 => x = .pointer (some ⟨k2, 0, none⟩)
 | 71 => x = .pointer (some ⟨k2, 0, none⟩)
 | 72 => x = .pointer (some ⟨k2, 1, none⟩)
 | 73 => x = .pointer (some ⟨k4, 0, none⟩)
 | 74 => x = .pointer (some ⟨Y, 0, none⟩)
 | 75 => ∃ q, x = ptr q ∧ base ≤ q ∧ IsTr w q (Tr.knot tc td)
 | 76 => ∃ q, x = ptr q ∧ base ≤ q ∧ IsTr w q (Tr.knot (.knot ta tb) (.knot tc td))
 | 4 => ∃ q, x = ptr q ∧ base ≤ q ∧ IsTr w q (Tr.knot (.knot ta tb) (.knot tc td))
 | _ => True
theorem VBalA2_mono (X Y base k1 k2 k3 k4 : Nat) (ta tb tc td : Tr) : ∀ d x w w', VBalA2 X Y base k1 k2 k3 k4 ta tb tc td d x w → Below w.heap.size w w' → VBalA2 X Y base k1 k2 k3 k4 ta tb tc td d x w' := by
 intro d x w w' h hb
 unfold VBalA2 at *
 split <;> first | exact h | exact trivial | skip
 all_goals (obtain ⟨q, h1, h2, h3⟩ := h; exact ⟨q, h1, h2, h3.below hb⟩)

set_option maxRecDepth 100000 in
set_option maxHeartbeats 4000000 in
theorem bal_A2 (X Y : Nat) (k1 k2 k3 k4 : Nat) (ta tb tc td : Tr) (v1 v2 v3 v4 : Value) (w : World) (hT : Tabs w) (tk1 : IsTr w k1 (ta)) (tk3 : IsTr w k3 (tb)) (tk4 : IsTr w k4 (tc)) (tY : IsTr w Y (td)) (nX : Nd w X (ptr k1) (ptr k2) (Tr.knot ta (.knot tb tc)).ht) (nY : Nd w Y v1 v2 (td).ht) (nk1 : Nd w k1 v3 v4 (ta).ht) (nk2 : Nd w k2 (ptr k3) (ptr k4) (Tr.knot tb tc).ht) (ho : (Tr.knot (.knot ta (.knot tb tc)) td).Ok) (h0 : td.ht + 1 < (Tr.knot ta (.knot tb tc)).ht) (h1 : ¬ ((Tr.knot tb tc).ht ≤ ta.ht)) :
  Calls Tryz.prog 183 #[ptr X, ptr Y] w (Made (Tr.knot (.knot ta (.knot tb tc)) td).leaves w) := by
 have Hk1 := Lib.hid tk1
 have Hk3 := Lib.hid tk3
 have Hk4 := Lib.hid tk4
 have HY := Lib.hid tY
 have HT := Lib.hid hT
 have HO := Lib.hid ho
 have b1 := ho.left.ht_lt
 have b2 := ho.left.sz
 have b3 := ho.right.ht_lt
 have b4 := ho.right.sz
 have w1 : IntKind.i64.wrap (((td).ht : Int) + 1) = ((td).ht : Int) + 1 := IntWalk.i64_in _ (by omega)
 have w2 : IntKind.i64.wrap (((Tr.knot ta (.knot tb tc)).ht : Int) + 1) = ((Tr.knot ta (.knot tb tc)).ht : Int) + 1 := IntWalk.i64_in _ (by omega)
 have q0 : ((td.ht : Int)+1) < ((Tr.knot ta (.knot tb tc)).ht : Int) := by omega
 have q1 : decide ((((Tr.knot tb tc).ht : Int)) ≤ (ta.ht : Int)) = false := by rw [decide_eq_false_iff_not]; omega
 have p1 : decide ((Tr.knot tb tc).ht ≤ ta.ht) = false := by rw [decide_eq_false_iff_not]; omega
 clear hT ho b1 b2 b3 b4 tk1 tk3 tk4 tY h0 h1
 generalize (Tr.knot ta (.knot tb tc)).ht = e0 at *
 generalize (Tr.knot tb tc).ht = e1 at *
 generalize (ta).ht = e2 at *
 generalize (td).ht = e3 at *
 have NX := Lib.hid nX
 have NY := Lib.hid nY
 have Nk1 := Lib.hid nk1
 have Nk2 := Lib.hid nk2
 have lX := nX.l
 have rX := nX.r
 have hX := nX.h
 clear nX
 have lY := nY.l
 have rY := nY.r
 have hY := nY.h
 clear nY
 have lk1 := nk1.l
 have rk1 := nk1.r
 have hk1 := nk1.h
 clear nk1
 have lk2 := nk2.l
 have rk2 := nk2.r
 have hk2 := nk2.h
 clear nk2
 have HB := Lib.hid (Below.refl w.heap.size w)
 have hsz : w.heap.size ≤ w.heap.size := Nat.le_refl _
 have HSZ := Lib.hid hsz
 clear hsz
 unfold ptr at *
 go_enter Tryz.func183, Tryz.ntmps183
 go_wp2
 go_quiet (fail)
 go_wp2
 have hD := Drawn.below (w := w) nq
 have HT := Lib.hid (tabs_below HT.out hD)
 have Hk1 := Lib.hid (Hk1.out.below hD)
 have Hk3 := Lib.hid (Hk3.out.below hD)
 have Hk4 := Lib.hid (Hk4.out.below hD)
 have HY := Lib.hid (HY.out.below hD)
 have NX := Lib.hid (NX.out.below hD)
 have NY := Lib.hid (NY.out.below hD)
 have Nk1 := Lib.hid (Nk1.out.below hD)
 have Nk2 := Lib.hid (Nk2.out.below hD)
 have HB := Lib.hid (HB.out.trans (hD.mono HB.out.size))
 have HSZ := Lib.hid (Nat.le_trans HSZ.out hD.size)
 clear hD lX rX hX lY rY hY lk1 rk1 hk1 lk2 rk2 hk2
 obtain ⟨W0, hW⟩ : ∃ W, w.drewN nq = W := ⟨_, rfl⟩
 rw [hW] at HT HB HSZ Hk1 Hk3 Hk4 HY NX NY Nk1 Nk2
 rw [hW]
 clear hW
 have lX := NX.out.l
 have rX := NX.out.r
 have hX := NX.out.h
 have lY := NY.out.l
 have rY := NY.out.r
 have hY := NY.out.h
 have lk1 := Nk1.out.l
 have rk1 := Nk1.out.r
 have hk1 := Nk1.out.h
 have lk2 := Nk2.out.l
 have rk2 := Nk2.out.r
 have hk2 := Nk2.out.h
 go_quiet (fail)
 go_wp2
 have hD := Drawn.below (w := W0) nq
 have HT := Lib.hid (tabs_below HT.out hD)
 have Hk1 := Lib.hid (Hk1.out.below hD)
 have Hk3 := Lib.hid (Hk3.out.below hD)
 have Hk4 := Lib.hid (Hk4.out.below hD)
 have HY := Lib.hid (HY.out.below hD)
 have NX := Lib.hid (NX.out.below hD)
 have NY := Lib.hid (NY.out.below hD)
 have Nk1 := Lib.hid (Nk1.out.below hD)
 have Nk2 := Lib.hid (Nk2.out.below hD)
 have HB := Lib.hid (HB.out.trans (hD.mono HB.out.size))
 have HSZ := Lib.hid (Nat.le_trans HSZ.out hD.size)
 clear hD lX rX hX lY rY hY lk1 rk1 hk1 lk2 rk2 hk2
 obtain ⟨W1, hW⟩ : ∃ W, W0.drewN nq = W := ⟨_, rfl⟩
 rw [hW] at HT HB HSZ Hk1 Hk3 Hk4 HY NX NY Nk1 Nk2
 rw [hW]
 clear hW
 have lX := NX.out.l
 have rX := NX.out.r
 have hX := NX.out.h
 have lY := NY.out.l
 have rY := NY.out.r
 have hY := NY.out.h
 have lk1 := Nk1.out.l
 have rk1 := Nk1.out.r
 have hk1 := Nk1.out.h
 have lk2 := Nk2.out.l
 have rk2 := Nk2.out.r
 have hk2 := Nk2.out.h
 obtain ⟨o0, o1, o2⟩ := okA2 HO.out
 have ltX := NX.out.lt
 have ltY := NY.out.lt
 have ltk1 := Nk1.out.lt
 have ltk2 := Nk2.out.lt
 refine wp_held' mixed (VBalA2 X Y W1.heap.size k1 k2 k3 k4 ta tb tc td) (VBalA2_mono X Y W1.heap.size k1 k2 k3 k4 ta tb tc td) (by kernel_rfl) [55, 56, 57, 58, 59, 60, 61, 62, 63, 64, 65, 66, 67, 68, 69, 70, 71, 72, 73, 74, 75, 76, 4] (by kernel_rfl) (by kernel_rfl) ?_ ?_
 ·intro j hj
  have hj' : j < 23 := hj
  rcases (by omega : j = 0 ∨ j = 1 ∨ j = 2 ∨ j = 3 ∨ j = 4 ∨ j = 5 ∨ j = 6 ∨ j = 7 ∨ j = 8 ∨ j = 9 ∨ j = 10 ∨ j = 11 ∨ j = 12 ∨ j = 13 ∨ j = 14 ∨ j = 15 ∨ j = 16 ∨ j = 17 ∨ j = 18 ∨ j = 19 ∨ j = 20 ∨ j = 21 ∨ j = 22) with rfl | rfl | rfl | rfl | rfl | rfl | rfl | rfl | rfl | rfl | rfl | rfl | rfl | rfl | rfl | rfl | rfl | rfl | rfl | rfl | rfl | rfl | rfl
  ·(refine owes_val (L := [(0, false)]) rfl rfl rfl (by kernel_rfl) ?_; intro a' w' hb' hfacts; obtain ⟨hf0, -⟩ := hfacts; replace hf0 : a'.tmps[0]?.getD undef = .pointer (some ⟨X, 0, none⟩) := hf0)
   have pX := (NX.out.below hb').l; have sX := (NX.out.below hb').r; have pk2 := (Nk2.out.below hb').l; have sk2 := (Nk2.out.below hb').r
   (go_simp; first | exact ⟨_, rfl, Br _, rfl⟩ | exact ⟨_, rfl, Br _, trivial⟩ | exact ⟨_, rfl, Ba _ _, trivial⟩ | exact ⟨_, rfl, Br _, congrArg (Value.int _) (IntWalk.i64_in _ (by omega))⟩)
  ·(refine owes_val (L := [(55, true)]) rfl rfl rfl (by kernel_rfl) ?_; intro a' w' hb' hfacts; obtain ⟨hf55, -⟩ := hfacts; try simp only [VBalA2] at hf55)
   have pX := (NX.out.below hb').l; have sX := (NX.out.below hb').r; have pk2 := (Nk2.out.below hb').l; have sk2 := (Nk2.out.below hb').r
   (go_simp; first | exact ⟨_, rfl, Br _, rfl⟩ | exact ⟨_, rfl, Br _, trivial⟩ | exact ⟨_, rfl, Ba _ _, trivial⟩ | exact ⟨_, rfl, Br _, congrArg (Value.int _) (IntWalk.i64_in _ (by omega))⟩)
  ·(refine owes_val (L := [(56, true)]) rfl rfl rfl (by kernel_rfl) ?_; intro a' w' hb' hfacts; obtain ⟨hf56, -⟩ := hfacts; try simp only [VBalA2] at hf56)
   have pX := (NX.out.below hb').l; have sX := (NX.out.below hb').r; have pk2 := (Nk2.out.below hb').l; have sk2 := (Nk2.out.below hb').r
   (go_simp; first | exact ⟨_, rfl, Br _, rfl⟩ | exact ⟨_, rfl, Br _, trivial⟩ | exact ⟨_, rfl, Ba _ _, trivial⟩ | exact ⟨_, rfl, Br _, congrArg (Value.int _) (IntWalk.i64_in _ (by omega))⟩)
  ·(refine owes_val (L := [(57, true)]) rfl rfl rfl (by kernel_rfl) ?_; intro a' w' hb' hfacts; obtain ⟨hf57, -⟩ := hfacts; try simp only [VBalA2] at hf57)
   have pX := (NX.out.below hb').l; have sX := (NX.out.below hb').r; have pk2 := (Nk2.out.below hb').l; have sk2 := (Nk2.out.below hb').r
   (go_simp; first | exact ⟨_, rfl, Br _, rfl⟩ | exact ⟨_, rfl, Br _, trivial⟩ | exact ⟨_, rfl, Ba _ _, trivial⟩ | exact ⟨_, rfl, Br _, congrArg (Value.int _) (IntWalk.i64_in _ (by omega))⟩)
  ·(refine owes_val (L := [(0, false)]) rfl rfl rfl (by kernel_rfl) ?_; intro a' w' hb' hfacts; obtain ⟨hf0, -⟩ := hfacts; replace hf0 : a'.tmps[0]?.getD undef = .pointer (some ⟨X, 0, none⟩) := hf0)
   have pX := (NX.out.below hb').l; have sX := (NX.out.below hb').r; have pk2 := (Nk2.out.below hb').l; have sk2 := (Nk2.out.below hb').r
   (go_simp; first | exact ⟨_, rfl, Br _, rfl⟩ | exact ⟨_, rfl, Br _, trivial⟩ | exact ⟨_, rfl, Ba _ _, trivial⟩ | exact ⟨_, rfl, Br _, congrArg (Value.int _) (IntWalk.i64_in _ (by omega))⟩)
  ·(refine owes_val (L := [(59, true)]) rfl rfl rfl (by kernel_rfl) ?_; intro a' w' hb' hfacts; obtain ⟨hf59, -⟩ := hfacts; try simp only [VBalA2] at hf59)
   have pX := (NX.out.below hb').l; have sX := (NX.out.below hb').r; have pk2 := (Nk2.out.below hb').l; have sk2 := (Nk2.out.below hb').r
   (go_simp; first | exact ⟨_, rfl, Br _, rfl⟩ | exact ⟨_, rfl, Br _, trivial⟩ | exact ⟨_, rfl, Ba _ _, trivial⟩ | exact ⟨_, rfl, Br _, congrArg (Value.int _) (IntWalk.i64_in _ (by omega))⟩)
  ·(refine owes_val (L := [(60, true)]) rfl rfl rfl (by kernel_rfl) ?_; intro a' w' hb' hfacts; obtain ⟨hf60, -⟩ := hfacts; try simp only [VBalA2] at hf60)
   have pX := (NX.out.below hb').l; have sX := (NX.out.below hb').r; have pk2 := (Nk2.out.below hb').l; have sk2 := (Nk2.out.below hb').r
   (go_simp; first | exact ⟨_, rfl, Br _, rfl⟩ | exact ⟨_, rfl, Br _, trivial⟩ | exact ⟨_, rfl, Ba _ _, trivial⟩ | exact ⟨_, rfl, Br _, congrArg (Value.int _) (IntWalk.i64_in _ (by omega))⟩)
  ·(refine owes_val (L := [(61, true)]) rfl rfl rfl (by kernel_rfl) ?_; intro a' w' hb' hfacts; obtain ⟨hf61, -⟩ := hfacts; try simp only [VBalA2] at hf61)
   have pX := (NX.out.below hb').l; have sX := (NX.out.below hb').r; have pk2 := (Nk2.out.below hb').l; have sk2 := (Nk2.out.below hb').r
   (go_simp; first | exact ⟨_, rfl, Br _, rfl⟩ | exact ⟨_, rfl, Br _, trivial⟩ | exact ⟨_, rfl, Ba _ _, trivial⟩ | exact ⟨_, rfl, Br _, congrArg (Value.int _) (IntWalk.i64_in _ (by omega))⟩)
  ·(refine owes_val (L := [(62, true)]) rfl rfl rfl (by kernel_rfl) ?_; intro a' w' hb' hfacts; obtain ⟨hf62, -⟩ := hfacts; try simp only [VBalA2] at hf62)
   have pX := (NX.out.below hb').l; have sX := (NX.out.below hb').r; have pk2 := (Nk2.out.below hb').l; have sk2 := (Nk2.out.below hb').r
   (go_simp; first | exact ⟨_, rfl, Br _, rfl⟩ | exact ⟨_, rfl, Br _, trivial⟩ | exact ⟨_, rfl, Ba _ _, trivial⟩ | exact ⟨_, rfl, Br _, congrArg (Value.int _) (IntWalk.i64_in _ (by omega))⟩)
  ·(refine owes_val (L := [(63, true)]) rfl rfl rfl (by kernel_rfl) ?_; intro a' w' hb' hfacts; obtain ⟨hf63, -⟩ := hfacts; try simp only [VBalA2] at hf63)
   have pX := (NX.out.below hb').l; have sX := (NX.out.below hb').r; have pk2 := (Nk2.out.below hb').l; have sk2 := (Nk2.out.below hb').r
   (go_simp; first | exact ⟨_, rfl, Br _, rfl⟩ | exact ⟨_, rfl, Br _, trivial⟩ | exact ⟨_, rfl, Ba _ _, trivial⟩ | exact ⟨_, rfl, Br _, congrArg (Value.int _) (IntWalk.i64_in _ (by omega))⟩)
  ·(refine owes_val (L := [(64, true)]) rfl rfl rfl (by kernel_rfl) ?_; intro a' w' hb' hfacts; obtain ⟨hf64, -⟩ := hfacts; try simp only [VBalA2] at hf64)
   have pX := (NX.out.below hb').l; have sX := (NX.out.below hb').r; have pk2 := (Nk2.out.below hb').l; have sk2 := (Nk2.out.below hb').r
   (go_simp; first | exact ⟨_, rfl, Br _, rfl⟩ | exact ⟨_, rfl, Br _, trivial⟩ | exact ⟨_, rfl, Ba _ _, trivial⟩ | exact ⟨_, rfl, Br _, congrArg (Value.int _) (IntWalk.i64_in _ (by omega))⟩)
  ·(refine owes_val (L := [(58, true), (65, true)]) rfl rfl rfl (by kernel_rfl) ?_; intro a' w' hb' hfacts; obtain ⟨hf58, hf65, -⟩ := hfacts; try simp only [VBalA2] at hf58; try simp only [VBalA2] at hf65)
   go_simp
   refine (knot_any k1 k3 _ _ _ (tabs_below HT.out hb') (Hk1.out.below hb') (Hk3.out.below hb') o0).mono ?_
   rintro e w3 ⟨q, rfl, hq, hs, hb3⟩
   exact ⟨_, rfl, hb3, q, rfl, Nat.le_trans hb'.size hs, hq⟩
  ·(refine owes_val (L := [(0, false)]) rfl rfl rfl (by kernel_rfl) ?_; intro a' w' hb' hfacts; obtain ⟨hf0, -⟩ := hfacts; replace hf0 : a'.tmps[0]?.getD undef = .pointer (some ⟨X, 0, none⟩) := hf0)
   have pX := (NX.out.below hb').l; have sX := (NX.out.below hb').r; have pk2 := (Nk2.out.below hb').l; have sk2 := (Nk2.out.below hb').r
   (go_simp; first | exact ⟨_, rfl, Br _, rfl⟩ | exact ⟨_, rfl, Br _, trivial⟩ | exact ⟨_, rfl, Ba _ _, trivial⟩ | exact ⟨_, rfl, Br _, congrArg (Value.int _) (IntWalk.i64_in _ (by omega))⟩)
  ·(refine owes_val (L := [(67, true)]) rfl rfl rfl (by kernel_rfl) ?_; intro a' w' hb' hfacts; obtain ⟨hf67, -⟩ := hfacts; try simp only [VBalA2] at hf67)
   have pX := (NX.out.below hb').l; have sX := (NX.out.below hb').r; have pk2 := (Nk2.out.below hb').l; have sk2 := (Nk2.out.below hb').r
   (go_simp; first | exact ⟨_, rfl, Br _, rfl⟩ | exact ⟨_, rfl, Br _, trivial⟩ | exact ⟨_, rfl, Ba _ _, trivial⟩ | exact ⟨_, rfl, Br _, congrArg (Value.int _) (IntWalk.i64_in _ (by omega))⟩)
  ·(refine owes_val (L := [(68, true)]) rfl rfl rfl (by kernel_rfl) ?_; intro a' w' hb' hfacts; obtain ⟨hf68, -⟩ := hfacts; try simp only [VBalA2] at hf68)
   have pX := (NX.out.below hb').l; have sX := (NX.out.below hb').r; have pk2 := (Nk2.out.below hb').l; have sk2 := (Nk2.out.below hb').r
   (go_simp; first | exact ⟨_, rfl, Br _, rfl⟩ | exact ⟨_, rfl, Br _, trivial⟩ | exact ⟨_, rfl, Ba _ _, trivial⟩ | exact ⟨_, rfl, Br _, congrArg (Value.int _) (IntWalk.i64_in _ (by omega))⟩)
  ·(refine owes_val (L := [(69, true)]) rfl rfl rfl (by kernel_rfl) ?_; intro a' w' hb' hfacts; obtain ⟨hf69, -⟩ := hfacts; try simp only [VBalA2] at hf69)
   have pX := (NX.out.below hb').l; have sX := (NX.out.below hb').r; have pk2 := (Nk2.out.below hb').l; have sk2 := (Nk2.out.below hb').r
   (go_simp; first | exact ⟨_, rfl, Br _, rfl⟩ | exact ⟨_, rfl, Br _, trivial⟩ | exact ⟨_, rfl, Ba _ _, trivial⟩ | exact ⟨_, rfl, Br _, congrArg (Value.int _) (IntWalk.i64_in _ (by omega))⟩)
  ·(refine owes_val (L := [(70, true)]) rfl rfl rfl (by kernel_rfl) ?_; intro a' w' hb' hfacts; obtain ⟨hf70, -⟩ := hfacts; try simp only [VBalA2] at hf70)
   have pX := (NX.out.below hb').l; have sX := (NX.out.below hb').r; have pk2 := (Nk2.out.below hb').l; have sk2 := (Nk2.out.below hb').r
   (go_simp; first | exact ⟨_, rfl, Br _, rfl⟩ | exact ⟨_, rfl, Br _, trivial⟩ | exact ⟨_, rfl, Ba _ _, trivial⟩ | exact ⟨_, rfl, Br _, congrArg (Value.int _) (IntWalk.i64_in _ (by omega))⟩)
  ·(refine owes_val (L := [(71, true)]) rfl rfl rfl (by kernel_rfl) ?_; intro a' w' hb' hfacts; obtain ⟨hf71, -⟩ := hfacts; try simp only [VBalA2] at hf71)
   have pX := (NX.out.below hb').l; have sX := (NX.out.below hb').r; have pk2 := (Nk2.out.below hb').l; have sk2 := (Nk2.out.below hb').r
   (go_simp; first | exact ⟨_, rfl, Br _, rfl⟩ | exact ⟨_, rfl, Br _, trivial⟩ | exact ⟨_, rfl, Ba _ _, trivial⟩ | exact ⟨_, rfl, Br _, congrArg (Value.int _) (IntWalk.i64_in _ (by omega))⟩)
  ·(refine owes_val (L := [(72, true)]) rfl rfl rfl (by kernel_rfl) ?_; intro a' w' hb' hfacts; obtain ⟨hf72, -⟩ := hfacts; try simp only [VBalA2] at hf72)
   have pX := (NX.out.below hb').l; have sX := (NX.out.below hb').r; have pk2 := (Nk2.out.below hb').l; have sk2 := (Nk2.out.below hb').r
   (go_simp; first | exact ⟨_, rfl, Br _, rfl⟩ | exact ⟨_, rfl, Br _, trivial⟩ | exact ⟨_, rfl, Ba _ _, trivial⟩ | exact ⟨_, rfl, Br _, congrArg (Value.int _) (IntWalk.i64_in _ (by omega))⟩)
  ·(refine owes_val (L := [(1, false)]) rfl rfl rfl (by kernel_rfl) ?_; intro a' w' hb' hfacts; obtain ⟨hf1, -⟩ := hfacts; replace hf1 : a'.tmps[1]?.getD undef = .pointer (some ⟨Y, 0, none⟩) := hf1)
   have pX := (NX.out.below hb').l; have sX := (NX.out.below hb').r; have pk2 := (Nk2.out.below hb').l; have sk2 := (Nk2.out.below hb').r
   (go_simp; first | exact ⟨_, rfl, Br _, rfl⟩ | exact ⟨_, rfl, Br _, trivial⟩ | exact ⟨_, rfl, Ba _ _, trivial⟩ | exact ⟨_, rfl, Br _, congrArg (Value.int _) (IntWalk.i64_in _ (by omega))⟩)
  ·(refine owes_val (L := [(73, true), (74, true)]) rfl rfl rfl (by kernel_rfl) ?_; intro a' w' hb' hfacts; obtain ⟨hf73, hf74, -⟩ := hfacts; try simp only [VBalA2] at hf73; try simp only [VBalA2] at hf74)
   go_simp
   refine (knot_any k4 Y _ _ _ (tabs_below HT.out hb') (Hk4.out.below hb') (HY.out.below hb') o1).mono ?_
   rintro e w3 ⟨q, rfl, hq, hs, hb3⟩
   exact ⟨_, rfl, hb3, q, rfl, Nat.le_trans hb'.size hs, hq⟩
  ·(refine owes_val (L := [(66, true), (75, true)]) rfl rfl rfl (by kernel_rfl) ?_; intro a' w' hb' hfacts; obtain ⟨hf66, hf75, -⟩ := hfacts; try simp only [VBalA2] at hf66; try simp only [VBalA2] at hf75)
   obtain ⟨g66, hh66, hq66, hL66⟩ := hf66
   unfold ptr at hh66
   obtain ⟨g75, hh75, hq75, hL75⟩ := hf75
   unfold ptr at hh75
   go_simp
   refine (knot_any g66 g75 _ _ _ (tabs_below HT.out hb') hL66 hL75 o2).mono ?_
   rintro e w3 ⟨q, rfl, hq, hs, hb3⟩
   exact ⟨_, rfl, hb3, q, rfl, Nat.le_trans hb'.size hs, hq⟩
  ·(refine owes_val (L := [(76, true)]) rfl rfl rfl (by kernel_rfl) ?_; intro a' w' hb' hfacts; obtain ⟨hf76, -⟩ := hfacts; try simp only [VBalA2] at hf76)
   obtain ⟨q, hh, hq, hL⟩ := hf76
   unfold ptr at hh
   go_simp
   exact ⟨_, rfl, Below.refl _ _, q, rfl, hq, hL⟩
 ·intro f W9 hf hb3
  obtain ⟨q, f4, hq, hL⟩ : ∃ q, f 4 = ptr q ∧ W1.heap.size ≤ q ∧ IsTr W9 q (Tr.knot (.knot ta tb) (.knot tc td)) := hf 4 (by decide)
  have R3 := Lib.hid hL
  have R4 := Lib.hid (HB.out.trans (hb3.mono HB.out.size))
  have hq2 := Nat.le_trans HSZ.out hq
  clear hf hb3 hL
  unfold ptr at f4
  simp only [putAll, put_lit, List.map_cons, List.map_nil, List.set_cons_succ, List.set_cons_zero]
  simp only [f4]
  go_wp2
  go_ret
  exact ⟨q, _, rfl, R3.out, by simp [Tr.leaves], hq2, R4.out⟩

def VBalB1 (X Y base k1 k2 : Nat) (ta tb tc : Tr) : Nat → Value → World → Prop := fun d x w => match d with
 | 105 => x = .pointer (some ⟨X, 0, none⟩)
 | 106 => x = .pointer (some ⟨Y, 0, none⟩)
 | 107 => x = .pointer (some ⟨Y, 0, none⟩)
 | 108 => x = .pointer (some ⟨Y, 0, none⟩)
 | 109 => x = .pointer (some ⟨k1, 0, none⟩)
 | 110 => ∃ q, x = ptr q ∧ base ≤ q ∧ IsTr w q (Tr.knot ta tb)
 | 111 => x = .pointer (some ⟨Y, 0, none⟩)
 | 112 => x = .pointer (some ⟨Y, 0, none⟩)
 | 113 => x = .pointer (some ⟨Y, 1, none⟩)
 | 114 => x = .pointer (some ⟨k2, 0, none⟩)
 | 115 => ∃ q, x = ptr q ∧ base ≤ q ∧ IsTr w q (Tr.knot (.knot ta tb) tc)
 | 4 => ∃ q, x = ptr q ∧ base ≤ q ∧ IsTr w q (Tr.knot (.knot ta tb) tc)
 | _ => True
theorem VBalB1_mono (X Y base k1 k2 : Nat) (ta tb tc : Tr) : ∀ d x w w', VBalB1 X Y base k1 k2 ta tb tc d x w → Below w.heap.size w w' → VBalB1 X Y base k1 k2 ta tb tc d x w' := by
 intro d x w w' h hb
 unfold VBalB1 at *
 split <;> first | exact h | exact trivial | skip
 all_goals (obtain ⟨q, h1, h2, h3⟩ := h; exact ⟨q, h1, h2, h3.below hb⟩)

set_option maxRecDepth 100000 in
set_option maxHeartbeats 4000000 in
theorem bal_B1 (X Y : Nat) (k1 k2 : Nat) (ta tb tc : Tr) (v1 v2 v3 v4 v5 v6 : Value) (w : World) (hT : Tabs w) (tX : IsTr w X (ta)) (tk1 : IsTr w k1 (tb)) (tk2 : IsTr w k2 (tc)) (nX : Nd w X v1 v2 (ta).ht) (nY : Nd w Y (ptr k1) (ptr k2) (Tr.knot tb tc).ht) (nk1 : Nd w k1 v3 v4 (tb).ht) (nk2 : Nd w k2 v5 v6 (tc).ht) (ho : (Tr.knot ta (.knot tb tc)).Ok) (h0 : ta.ht + 1 < (Tr.knot tb tc).ht) (h1 : tb.ht ≤ tc.ht) (h2 : ¬ ((Tr.knot tb tc).ht + 1 < ta.ht)) :
  Calls Tryz.prog 183 #[ptr X, ptr Y] w (Made (Tr.knot ta (.knot tb tc)).leaves w) := by
 have HX := Lib.hid tX
 have Hk1 := Lib.hid tk1
 have Hk2 := Lib.hid tk2
 have HT := Lib.hid hT
 have HO := Lib.hid ho
 have b1 := ho.left.ht_lt
 have b2 := ho.left.sz
 have b3 := ho.right.ht_lt
 have b4 := ho.right.sz
 have w1 : IntKind.i64.wrap (((Tr.knot tb tc).ht : Int) + 1) = ((Tr.knot tb tc).ht : Int) + 1 := IntWalk.i64_in _ (by omega)
 have w2 : IntKind.i64.wrap (((ta).ht : Int) + 1) = ((ta).ht : Int) + 1 := IntWalk.i64_in _ (by omega)
 have q0 : ((ta.ht : Int)+1) < ((Tr.knot tb tc).ht : Int) := by omega
 have q1 : ((tb.ht : Int)) ≤ (tc.ht : Int) := by omega
 have q2 : decide ((((Tr.knot tb tc).ht : Int)+1) < (ta.ht : Int)) = false := by rw [decide_eq_false_iff_not]; omega
 have p2 : decide ((Tr.knot tb tc).ht + 1 < ta.ht) = false := by rw [decide_eq_false_iff_not]; omega
 clear hT ho b1 b2 b3 b4 tX tk1 tk2 h0 h1 h2
 generalize (Tr.knot tb tc).ht = e0 at *
 generalize (ta).ht = e1 at *
 generalize (tb).ht = e2 at *
 generalize (tc).ht = e3 at *
 have NX := Lib.hid nX
 have NY := Lib.hid nY
 have Nk1 := Lib.hid nk1
 have Nk2 := Lib.hid nk2
 have lX := nX.l
 have rX := nX.r
 have hX := nX.h
 clear nX
 have lY := nY.l
 have rY := nY.r
 have hY := nY.h
 clear nY
 have lk1 := nk1.l
 have rk1 := nk1.r
 have hk1 := nk1.h
 clear nk1
 have lk2 := nk2.l
 have rk2 := nk2.r
 have hk2 := nk2.h
 clear nk2
 have HB := Lib.hid (Below.refl w.heap.size w)
 have hsz : w.heap.size ≤ w.heap.size := Nat.le_refl _
 have HSZ := Lib.hid hsz
 clear hsz
 unfold ptr at *
 go_enter Tryz.func183, Tryz.ntmps183
 go_wp2
 go_quiet (fail)
 go_wp2
 have hD := Drawn.below (w := w) nq
 have HT := Lib.hid (tabs_below HT.out hD)
 have HX := Lib.hid (HX.out.below hD)
 have Hk1 := Lib.hid (Hk1.out.below hD)
 have Hk2 := Lib.hid (Hk2.out.below hD)
 have NX := Lib.hid (NX.out.below hD)
 have NY := Lib.hid (NY.out.below hD)
 have Nk1 := Lib.hid (Nk1.out.below hD)
 have Nk2 := Lib.hid (Nk2.out.below hD)
 have HB := Lib.hid (HB.out.trans (hD.mono HB.out.size))
 have HSZ := Lib.hid (Nat.le_trans HSZ.out hD.size)
 clear hD lX rX hX lY rY hY lk1 rk1 hk1 lk2 rk2 hk2
 obtain ⟨W0, hW⟩ : ∃ W, w.drewN nq = W := ⟨_, rfl⟩
 rw [hW] at HT HB HSZ HX Hk1 Hk2 NX NY Nk1 Nk2
 rw [hW]
 clear hW
 have lX := NX.out.l
 have rX := NX.out.r
 have hX := NX.out.h
 have lY := NY.out.l
 have rY := NY.out.r
 have hY := NY.out.h
 have lk1 := Nk1.out.l
 have rk1 := Nk1.out.r
 have hk1 := Nk1.out.h
 have lk2 := Nk2.out.l
 have rk2 := Nk2.out.r
 have hk2 := Nk2.out.h
 go_quiet (fail)
 go_wp2
 have hD := Drawn.below (w := W0) nq
 have HT := Lib.hid (tabs_below HT.out hD)
 have HX := Lib.hid (HX.out.below hD)
 have Hk1 := Lib.hid (Hk1.out.below hD)
 have Hk2 := Lib.hid (Hk2.out.below hD)
 have NX := Lib.hid (NX.out.below hD)
 have NY := Lib.hid (NY.out.below hD)
 have Nk1 := Lib.hid (Nk1.out.below hD)
 have Nk2 := Lib.hid (Nk2.out.below hD)
 have HB := Lib.hid (HB.out.trans (hD.mono HB.out.size))
 have HSZ := Lib.hid (Nat.le_trans HSZ.out hD.size)
 clear hD lX rX hX lY rY hY lk1 rk1 hk1 lk2 rk2 hk2
 obtain ⟨W1, hW⟩ : ∃ W, W0.drewN nq = W := ⟨_, rfl⟩
 rw [hW] at HT HB HSZ HX Hk1 Hk2 NX NY Nk1 Nk2
 rw [hW]
 clear hW
 have lX := NX.out.l
 have rX := NX.out.r
 have hX := NX.out.h
 have lY := NY.out.l
 have rY := NY.out.r
 have hY := NY.out.h
 have lk1 := Nk1.out.l
 have rk1 := Nk1.out.r
 have hk1 := Nk1.out.h
 have lk2 := Nk2.out.l
 have rk2 := Nk2.out.r
 have hk2 := Nk2.out.h
 go_quiet (fail)
 go_wp2
 have hD := Drawn.below (w := W1) nq
 have HT := Lib.hid (tabs_below HT.out hD)
 have HX := Lib.hid (HX.out.below hD)
 have Hk1 := Lib.hid (Hk1.out.below hD)
 have Hk2 := Lib.hid (Hk2.out.below hD)
 have NX := Lib.hid (NX.out.below hD)
 have NY := Lib.hid (NY.out.below hD)
 have Nk1 := Lib.hid (Nk1.out.below hD)
 have Nk2 := Lib.hid (Nk2.out.below hD)
 have HB := Lib.hid (HB.out.trans (hD.mono HB.out.size))
 have HSZ := Lib.hid (Nat.le_trans HSZ.out hD.size)
 clear hD lX rX hX lY rY hY lk1 rk1 hk1 lk2 rk2 hk2
 obtain ⟨W2, hW⟩ : ∃ W, W1.drewN nq = W := ⟨_, rfl⟩
 rw [hW] at HT HB HSZ HX Hk1 Hk2 NX NY Nk1 Nk2
 rw [hW]
 clear hW
 have lX := NX.out.l
 have rX := NX.out.r
 have hX := NX.out.h
 have lY := NY.out.l
 have rY := NY.out.r
 have hY := NY.out.h
 have lk1 := Nk1.out.l
 have rk1 := Nk1.out.r
 have hk1 := Nk1.out.h
 have lk2 := Nk2.out.l
 have rk2 := Nk2.out.r
 have hk2 := Nk2.out.h
 obtain ⟨o0, o1⟩ := okB1 HO.out
 have ltX := NX.out.lt
 have ltY := NY.out.lt
 have ltk1 := Nk1.out.lt
 have ltk2 := Nk2.out.lt
 refine wp_held' mixed (VBalB1 X Y W2.heap.size k1 k2 ta tb tc) (VBalB1_mono X Y W2.heap.size k1 k2 ta tb tc) (by kernel_rfl) [105, 106, 107, 108, 109, 110, 111, 112, 113, 114, 115, 4] (by kernel_rfl) (by kernel_rfl) ?_ ?_
 ·intro j hj
  have hj' : j < 12 := hj
  rcases (by omega : j = 0 ∨ j = 1 ∨ j = 2 ∨ j = 3 ∨ j = 4 ∨ j = 5 ∨ j = 6 ∨ j = 7 ∨ j = 8 ∨ j = 9 ∨ j = 10 ∨ j = 11) with rfl | rfl | rfl | rfl | rfl | rfl | rfl | rfl | rfl | rfl | rfl | rfl
  ·(refine owes_val (L := [(0, false)]) rfl rfl rfl (by kernel_rfl) ?_; intro a' w' hb' hfacts; obtain ⟨hf0, -⟩ := hfacts; replace hf0 : a'.tmps[0]?.getD undef = .pointer (some ⟨X, 0, none⟩) := hf0)
   have pY := (NY.out.below hb').l; have sY := (NY.out.below hb').r
   (go_simp; first | exact ⟨_, rfl, Br _, rfl⟩ | exact ⟨_, rfl, Br _, trivial⟩ | exact ⟨_, rfl, Ba _ _, trivial⟩ | exact ⟨_, rfl, Br _, congrArg (Value.int _) (IntWalk.i64_in _ (by omega))⟩)
  ·(refine owes_val (L := [(1, false)]) rfl rfl rfl (by kernel_rfl) ?_; intro a' w' hb' hfacts; obtain ⟨hf1, -⟩ := hfacts; replace hf1 : a'.tmps[1]?.getD undef = .pointer (some ⟨Y, 0, none⟩) := hf1)
   have pY := (NY.out.below hb').l; have sY := (NY.out.below hb').r
   (go_simp; first | exact ⟨_, rfl, Br _, rfl⟩ | exact ⟨_, rfl, Br _, trivial⟩ | exact ⟨_, rfl, Ba _ _, trivial⟩ | exact ⟨_, rfl, Br _, congrArg (Value.int _) (IntWalk.i64_in _ (by omega))⟩)
  ·(refine owes_val (L := [(106, true)]) rfl rfl rfl (by kernel_rfl) ?_; intro a' w' hb' hfacts; obtain ⟨hf106, -⟩ := hfacts; try simp only [VBalB1] at hf106)
   have pY := (NY.out.below hb').l; have sY := (NY.out.below hb').r
   (go_simp; first | exact ⟨_, rfl, Br _, rfl⟩ | exact ⟨_, rfl, Br _, trivial⟩ | exact ⟨_, rfl, Ba _ _, trivial⟩ | exact ⟨_, rfl, Br _, congrArg (Value.int _) (IntWalk.i64_in _ (by omega))⟩)
  ·(refine owes_val (L := [(107, true)]) rfl rfl rfl (by kernel_rfl) ?_; intro a' w' hb' hfacts; obtain ⟨hf107, -⟩ := hfacts; try simp only [VBalB1] at hf107)
   have pY := (NY.out.below hb').l; have sY := (NY.out.below hb').r
   (go_simp; first | exact ⟨_, rfl, Br _, rfl⟩ | exact ⟨_, rfl, Br _, trivial⟩ | exact ⟨_, rfl, Ba _ _, trivial⟩ | exact ⟨_, rfl, Br _, congrArg (Value.int _) (IntWalk.i64_in _ (by omega))⟩)
  ·(refine owes_val (L := [(108, true)]) rfl rfl rfl (by kernel_rfl) ?_; intro a' w' hb' hfacts; obtain ⟨hf108, -⟩ := hfacts; try simp only [VBalB1] at hf108)
   have pY := (NY.out.below hb').l; have sY := (NY.out.below hb').r
   (go_simp; first | exact ⟨_, rfl, Br _, rfl⟩ | exact ⟨_, rfl, Br _, trivial⟩ | exact ⟨_, rfl, Ba _ _, trivial⟩ | exact ⟨_, rfl, Br _, congrArg (Value.int _) (IntWalk.i64_in _ (by omega))⟩)
  ·(refine owes_val (L := [(105, true), (109, true)]) rfl rfl rfl (by kernel_rfl) ?_; intro a' w' hb' hfacts; obtain ⟨hf105, hf109, -⟩ := hfacts; try simp only [VBalB1] at hf105; try simp only [VBalB1] at hf109)
   go_simp
   refine (knot_any X k1 _ _ _ (tabs_below HT.out hb') (HX.out.below hb') (Hk1.out.below hb') o0).mono ?_
   rintro e w3 ⟨q, rfl, hq, hs, hb3⟩
   exact ⟨_, rfl, hb3, q, rfl, Nat.le_trans hb'.size hs, hq⟩
  ·(refine owes_val (L := [(1, false)]) rfl rfl rfl (by kernel_rfl) ?_; intro a' w' hb' hfacts; obtain ⟨hf1, -⟩ := hfacts; replace hf1 : a'.tmps[1]?.getD undef = .pointer (some ⟨Y, 0, none⟩) := hf1)
   have pY := (NY.out.below hb').l; have sY := (NY.out.below hb').r
   (go_simp; first | exact ⟨_, rfl, Br _, rfl⟩ | exact ⟨_, rfl, Br _, trivial⟩ | exact ⟨_, rfl, Ba _ _, trivial⟩ | exact ⟨_, rfl, Br _, congrArg (Value.int _) (IntWalk.i64_in _ (by omega))⟩)
  ·(refine owes_val (L := [(111, true)]) rfl rfl rfl (by kernel_rfl) ?_; intro a' w' hb' hfacts; obtain ⟨hf111, -⟩ := hfacts; try simp only [VBalB1] at hf111)
   have pY := (NY.out.below hb').l; have sY := (NY.out.below hb').r
   (go_simp; first | exact ⟨_, rfl, Br _, rfl⟩ | exact ⟨_, rfl, Br _, trivial⟩ | exact ⟨_, rfl, Ba _ _, trivial⟩ | exact ⟨_, rfl, Br _, congrArg (Value.int _) (IntWalk.i64_in _ (by omega))⟩)
  ·(refine owes_val (L := [(112, true)]) rfl rfl rfl (by kernel_rfl) ?_; intro a' w' hb' hfacts; obtain ⟨hf112, -⟩ := hfacts; try simp only [VBalB1] at hf112)
   have pY := (NY.out.below hb').l; have sY := (NY.out.below hb').r
   (go_simp; first | exact ⟨_, rfl, Br _, rfl⟩ | exact ⟨_, rfl, Br _, trivial⟩ | exact ⟨_, rfl, Ba _ _, trivial⟩ | exact ⟨_, rfl, Br _, congrArg (Value.int _) (IntWalk.i64_in _ (by omega))⟩)
  ·(refine owes_val (L := [(113, true)]) rfl rfl rfl (by kernel_rfl) ?_; intro a' w' hb' hfacts; obtain ⟨hf113, -⟩ := hfacts; try simp only [VBalB1] at hf113)
   have pY := (NY.out.below hb').l; have sY := (NY.out.below hb').r
   (go_simp; first | exact ⟨_, rfl, Br _, rfl⟩ | exact ⟨_, rfl, Br _, trivial⟩ | exact ⟨_, rfl, Ba _ _, trivial⟩ | exact ⟨_, rfl, Br _, congrArg (Value.int _) (IntWalk.i64_in _ (by omega))⟩)
  ·(refine owes_val (L := [(110, true), (114, true)]) rfl rfl rfl (by kernel_rfl) ?_; intro a' w' hb' hfacts; obtain ⟨hf110, hf114, -⟩ := hfacts; try simp only [VBalB1] at hf110; try simp only [VBalB1] at hf114)
   obtain ⟨g110, hh110, hq110, hL110⟩ := hf110
   unfold ptr at hh110
   go_simp
   refine (knot_any g110 k2 _ _ _ (tabs_below HT.out hb') hL110 (Hk2.out.below hb') o1).mono ?_
   rintro e w3 ⟨q, rfl, hq, hs, hb3⟩
   exact ⟨_, rfl, hb3, q, rfl, Nat.le_trans hb'.size hs, hq⟩
  ·(refine owes_val (L := [(115, true)]) rfl rfl rfl (by kernel_rfl) ?_; intro a' w' hb' hfacts; obtain ⟨hf115, -⟩ := hfacts; try simp only [VBalB1] at hf115)
   obtain ⟨q, hh, hq, hL⟩ := hf115
   unfold ptr at hh
   go_simp
   exact ⟨_, rfl, Below.refl _ _, q, rfl, hq, hL⟩
 ·intro f W9 hf hb3
  obtain ⟨q, f4, hq, hL⟩ : ∃ q, f 4 = ptr q ∧ W2.heap.size ≤ q ∧ IsTr W9 q (Tr.knot (.knot ta tb) tc) := hf 4 (by decide)
  have R3 := Lib.hid hL
  have R4 := Lib.hid (HB.out.trans (hb3.mono HB.out.size))
  have hq2 := Nat.le_trans HSZ.out hq
  clear hf hb3 hL
  unfold ptr at f4
  simp only [putAll, put_lit, List.map_cons, List.map_nil, List.set_cons_succ, List.set_cons_zero]
  simp only [f4]
  go_wp2
  go_ret
  exact ⟨q, _, rfl, R3.out, by simp [Tr.leaves], hq2, R4.out⟩

def VBalB2 (X Y base k1 k2 k3 k4 : Nat) (ta tb tc td : Tr) : Nat → Value → World → Prop := fun d x w => match d with
 | 127 => x = .pointer (some ⟨X, 0, none⟩)
 | 128 => x = .pointer (some ⟨Y, 0, none⟩)
 | 129 => x = .pointer (some ⟨Y, 0, none⟩)
 | 130 => x = .pointer (some ⟨Y, 0, none⟩)
 | 131 => x = .pointer (some ⟨k1, 0, none⟩)
 | 132 => x = .pointer (some ⟨k1, 0, none⟩)
 | 133 => x = .pointer (some ⟨k1, 0, none⟩)
 | 134 => x = .pointer (some ⟨k3, 0, none⟩)
 | 135 => ∃ q, x = ptr q ∧ base ≤ q ∧ IsTr w q (Tr.knot ta tb)
 | 136 => x = .pointer (some ⟨Y, 0, none⟩)
 | 137 => x = .pointer (some ⟨Y, 0, none⟩)
 | 138 => x = .pointer (some ⟨Y, 0, none⟩)
 | 139 => x = .pointer (some ⟨k1, 0, none⟩)
 | 140 => x = .pointer (some ⟨k1, 0, none⟩)
 | 141 => x = .pointer (some ⟨k1, 1, none⟩)
 | 142 => x = .pointer (some ⟨k4, 0, none⟩)
 | 143 => x = .pointer (some ⟨Y, 0, none⟩)
 | 144 => x = .pointer (some ⟨Y, 0, none⟩)
 | 145 => x = .pointer (some ⟨Y, 1, none⟩)
 | 146 => x = .pointer (some ⟨k2, 0, none⟩)
 | 147 => ∃ q, x = ptr q ∧ base ≤ q ∧ IsTr w q (Tr.knot tc td)
 | 148 => ∃ q, x = ptr q ∧ base ≤ q ∧ IsTr w q (Tr.knot (.knot ta tb) (.knot tc td))
 | 4 => ∃ q, x = ptr q ∧ base ≤ q ∧ IsTr w q (Tr.knot (.knot ta tb) (.knot tc td))
 | _ => True
theorem VBalB2_mono (X Y base k1 k2 k3 k4 : Nat) (ta tb tc td : Tr) : ∀ d x w w', VBalB2 X Y base k1 k2 k3 k4 ta tb tc td d x w → Below w.heap.size w w' → VBalB2 X Y base k1 k2 k3 k4 ta tb tc td d x w' := by
 intro d x w w' h hb
 unfold VBalB2 at *
 split <;> first | exact h | exact trivial | skip
 all_goals (obtain ⟨q, h1, h2, h3⟩ := h; exact ⟨q, h1, h2, h3.below hb⟩)

set_option maxRecDepth 100000 in
set_option maxHeartbeats 4000000 in
theorem bal_B2 (X Y : Nat) (k1 k2 k3 k4 : Nat) (ta tb tc td : Tr) (v1 v2 v3 v4 : Value) (w : World) (hT : Tabs w) (tX : IsTr w X (ta)) (tk3 : IsTr w k3 (tb)) (tk4 : IsTr w k4 (tc)) (tk2 : IsTr w k2 (td)) (nX : Nd w X v1 v2 (ta).ht) (nY : Nd w Y (ptr k1) (ptr k2) (Tr.knot (.knot tb tc) td).ht) (nk1 : Nd w k1 (ptr k3) (ptr k4) (Tr.knot tb tc).ht) (nk2 : Nd w k2 v3 v4 (td).ht) (ho : (Tr.knot ta (.knot (.knot tb tc) td)).Ok) (h0 : ta.ht + 1 < (Tr.knot (.knot tb tc) td).ht) (h1 : ¬ ((Tr.knot tb tc).ht ≤ td.ht)) (h2 : ¬ ((Tr.knot (.knot tb tc) td).ht + 1 < ta.ht)) :
  Calls Tryz.prog 183 #[ptr X, ptr Y] w (Made (Tr.knot ta (.knot (.knot tb tc) td)).leaves w) := by
 have HX := Lib.hid tX
 have Hk3 := Lib.hid tk3
 have Hk4 := Lib.hid tk4
 have Hk2 := Lib.hid tk2
 have HT := Lib.hid hT
 have HO := Lib.hid ho
 have b1 := ho.left.ht_lt
 have b2 := ho.left.sz
 have b3 := ho.right.ht_lt
 have b4 := ho.right.sz
 have w1 : IntKind.i64.wrap (((Tr.knot (.knot tb tc) td).ht : Int) + 1) = ((Tr.knot (.knot tb tc) td).ht : Int) + 1 := IntWalk.i64_in _ (by omega)
 have w2 : IntKind.i64.wrap (((ta).ht : Int) + 1) = ((ta).ht : Int) + 1 := IntWalk.i64_in _ (by omega)
 have q0 : ((ta.ht : Int)+1) < ((Tr.knot (.knot tb tc) td).ht : Int) := by omega
 have q1 : decide ((((Tr.knot tb tc).ht : Int)) ≤ (td.ht : Int)) = false := by rw [decide_eq_false_iff_not]; omega
 have p1 : decide ((Tr.knot tb tc).ht ≤ td.ht) = false := by rw [decide_eq_false_iff_not]; omega
 have q2 : decide ((((Tr.knot (.knot tb tc) td).ht : Int)+1) < (ta.ht : Int)) = false := by rw [decide_eq_false_iff_not]; omega
 have p2 : decide ((Tr.knot (.knot tb tc) td).ht + 1 < ta.ht) = false := by rw [decide_eq_false_iff_not]; omega
 clear hT ho b1 b2 b3 b4 tX tk3 tk4 tk2 h0 h1 h2
 generalize (Tr.knot (.knot tb tc) td).ht = e0 at *
 generalize (Tr.knot tb tc).ht = e1 at *
 generalize (ta).ht = e2 at *
 generalize (td).ht = e3 at *
 have NX := Lib.hid nX
 have NY := Lib.hid nY
 have Nk1 := Lib.hid nk1
 have Nk2 := Lib.hid nk2
 have lX := nX.l
 have rX := nX.r
 have hX := nX.h
 clear nX
 have lY := nY.l
 have rY := nY.r
 have hY := nY.h
 clear nY
 have lk1 := nk1.l
 have rk1 := nk1.r
 have hk1 := nk1.h
 clear nk1
 have lk2 := nk2.l
 have rk2 := nk2.r
 have hk2 := nk2.h
 clear nk2
 have HB := Lib.hid (Below.refl w.heap.size w)
 have hsz : w.heap.size ≤ w.heap.size := Nat.le_refl _
 have HSZ := Lib.hid hsz
 clear hsz
 unfold ptr at *
 go_enter Tryz.func183, Tryz.ntmps183
 go_wp2
 go_quiet (fail)
 go_wp2
 have hD := Drawn.below (w := w) nq
 have HT := Lib.hid (tabs_below HT.out hD)
 have HX := Lib.hid (HX.out.below hD)
 have Hk3 := Lib.hid (Hk3.out.below hD)
 have Hk4 := Lib.hid (Hk4.out.below hD)
 have Hk2 := Lib.hid (Hk2.out.below hD)
 have NX := Lib.hid (NX.out.below hD)
 have NY := Lib.hid (NY.out.below hD)
 have Nk1 := Lib.hid (Nk1.out.below hD)
 have Nk2 := Lib.hid (Nk2.out.below hD)
 have HB := Lib.hid (HB.out.trans (hD.mono HB.out.size))
 have HSZ := Lib.hid (Nat.le_trans HSZ.out hD.size)
 clear hD lX rX hX lY rY hY lk1 rk1 hk1 lk2 rk2 hk2
 obtain ⟨W0, hW⟩ : ∃ W, w.drewN nq = W := ⟨_, rfl⟩
 rw [hW] at HT HB HSZ HX Hk3 Hk4 Hk2 NX NY Nk1 Nk2
 rw [hW]
 clear hW
 have lX := NX.out.l
 have rX := NX.out.r
 have hX := NX.out.h
 have lY := NY.out.l
 have rY := NY.out.r
 have hY := NY.out.h
 have lk1 := Nk1.out.l
 have rk1 := Nk1.out.r
 have hk1 := Nk1.out.h
 have lk2 := Nk2.out.l
 have rk2 := Nk2.out.r
 have hk2 := Nk2.out.h
 go_quiet (fail)
 go_wp2
 have hD := Drawn.below (w := W0) nq
 have HT := Lib.hid (tabs_below HT.out hD)
 have HX := Lib.hid (HX.out.below hD)
 have Hk3 := Lib.hid (Hk3.out.below hD)
 have Hk4 := Lib.hid (Hk4.out.below hD)
 have Hk2 := Lib.hid (Hk2.out.below hD)
 have NX := Lib.hid (NX.out.below hD)
 have NY := Lib.hid (NY.out.below hD)
 have Nk1 := Lib.hid (Nk1.out.below hD)
 have Nk2 := Lib.hid (Nk2.out.below hD)
 have HB := Lib.hid (HB.out.trans (hD.mono HB.out.size))
 have HSZ := Lib.hid (Nat.le_trans HSZ.out hD.size)
 clear hD lX rX hX lY rY hY lk1 rk1 hk1 lk2 rk2 hk2
 obtain ⟨W1, hW⟩ : ∃ W, W0.drewN nq = W := ⟨_, rfl⟩
 rw [hW] at HT HB HSZ HX Hk3 Hk4 Hk2 NX NY Nk1 Nk2
 rw [hW]
 clear hW
 have lX := NX.out.l
 have rX := NX.out.r
 have hX := NX.out.h
 have lY := NY.out.l
 have rY := NY.out.r
 have hY := NY.out.h
 have lk1 := Nk1.out.l
 have rk1 := Nk1.out.r
 have hk1 := Nk1.out.h
 have lk2 := Nk2.out.l
 have rk2 := Nk2.out.r
 have hk2 := Nk2.out.h
 go_quiet (fail)
 go_wp2
 have hD := Drawn.below (w := W1) nq
 have HT := Lib.hid (tabs_below HT.out hD)
 have HX := Lib.hid (HX.out.below hD)
 have Hk3 := Lib.hid (Hk3.out.below hD)
 have Hk4 := Lib.hid (Hk4.out.below hD)
 have Hk2 := Lib.hid (Hk2.out.below hD)
 have NX := Lib.hid (NX.out.below hD)
 have NY := Lib.hid (NY.out.below hD)
 have Nk1 := Lib.hid (Nk1.out.below hD)
 have Nk2 := Lib.hid (Nk2.out.below hD)
 have HB := Lib.hid (HB.out.trans (hD.mono HB.out.size))
 have HSZ := Lib.hid (Nat.le_trans HSZ.out hD.size)
 clear hD lX rX hX lY rY hY lk1 rk1 hk1 lk2 rk2 hk2
 obtain ⟨W2, hW⟩ : ∃ W, W1.drewN nq = W := ⟨_, rfl⟩
 rw [hW] at HT HB HSZ HX Hk3 Hk4 Hk2 NX NY Nk1 Nk2
 rw [hW]
 clear hW
 have lX := NX.out.l
 have rX := NX.out.r
 have hX := NX.out.h
 have lY := NY.out.l
 have rY := NY.out.r
 have hY := NY.out.h
 have lk1 := Nk1.out.l
 have rk1 := Nk1.out.r
 have hk1 := Nk1.out.h
 have lk2 := Nk2.out.l
 have rk2 := Nk2.out.r
 have hk2 := Nk2.out.h
 go_quiet (fail)
 go_wp2
 have hD := Drawn.below (w := W2) nq
 have HT := Lib.hid (tabs_below HT.out hD)
 have HX := Lib.hid (HX.out.below hD)
 have Hk3 := Lib.hid (Hk3.out.below hD)
 have Hk4 := Lib.hid (Hk4.out.below hD)
 have Hk2 := Lib.hid (Hk2.out.below hD)
 have NX := Lib.hid (NX.out.below hD)
 have NY := Lib.hid (NY.out.below hD)
 have Nk1 := Lib.hid (Nk1.out.below hD)
 have Nk2 := Lib.hid (Nk2.out.below hD)
 have HB := Lib.hid (HB.out.trans (hD.mono HB.out.size))
 have HSZ := Lib.hid (Nat.le_trans HSZ.out hD.size)
 clear hD lX rX hX lY rY hY lk1 rk1 hk1 lk2 rk2 hk2
 obtain ⟨W3, hW⟩ : ∃ W, W2.drewN nq = W := ⟨_, rfl⟩
 rw [hW] at HT HB HSZ HX Hk3 Hk4 Hk2 NX NY Nk1 Nk2
 rw [hW]
 clear hW
 have lX := NX.out.l
 have rX := NX.out.r
 have hX := NX.out.h
 have lY := NY.out.l
 have rY := NY.out.r
 have hY := NY.out.h
 have lk1 := Nk1.out.l
 have rk1 := Nk1.out.r
 have hk1 := Nk1.out.h
 have lk2 := Nk2.out.l
 have rk2 := Nk2.out.r
 have hk2 := Nk2.out.h
 obtain ⟨o0, o1, o2⟩ := okB2 HO.out
 have ltX := NX.out.lt
 have ltY := NY.out.lt
 have ltk1 := Nk1.out.lt
 have ltk2 := Nk2.out.lt
 refine wp_held' mixed (VBalB2 X Y W3.heap.size k1 k2 k3 k4 ta tb tc td) (VBalB2_mono X Y W3.heap.size k1 k2 k3 k4 ta tb tc td) (by kernel_rfl) [127, 128, 129, 130, 131, 132, 133, 134, 135, 136, 137, 138, 139, 140, 141, 142, 143, 144, 145, 146, 147, 148, 4] (by kernel_rfl) (by kernel_rfl) ?_ ?_
 ·intro j hj
  have hj' : j < 23 := hj
  rcases (by omega : j = 0 ∨ j = 1 ∨ j = 2 ∨ j = 3 ∨ j = 4 ∨ j = 5 ∨ j = 6 ∨ j = 7 ∨ j = 8 ∨ j = 9 ∨ j = 10 ∨ j = 11 ∨ j = 12 ∨ j = 13 ∨ j = 14 ∨ j = 15 ∨ j = 16 ∨ j = 17 ∨ j = 18 ∨ j = 19 ∨ j = 20 ∨ j = 21 ∨ j = 22) with rfl | rfl | rfl | rfl | rfl | rfl | rfl | rfl | rfl | rfl | rfl | rfl | rfl | rfl | rfl | rfl | rfl | rfl | rfl | rfl | rfl | rfl | rfl
  ·(refine owes_val (L := [(0, false)]) rfl rfl rfl (by kernel_rfl) ?_; intro a' w' hb' hfacts; obtain ⟨hf0, -⟩ := hfacts; replace hf0 : a'.tmps[0]?.getD undef = .pointer (some ⟨X, 0, none⟩) := hf0)
   have pY := (NY.out.below hb').l; have sY := (NY.out.below hb').r; have pk1 := (Nk1.out.below hb').l; have sk1 := (Nk1.out.below hb').r
   (go_simp; first | exact ⟨_, rfl, Br _, rfl⟩ | exact ⟨_, rfl, Br _, trivial⟩ | exact ⟨_, rfl, Ba _ _, trivial⟩ | exact ⟨_, rfl, Br _, congrArg (Value.int _) (IntWalk.i64_in _ (by omega))⟩)
  ·(refine owes_val (L := [(1, false)]) rfl rfl rfl (by kernel_rfl) ?_; intro a' w' hb' hfacts; obtain ⟨hf1, -⟩ := hfacts; replace hf1 : a'.tmps[1]?.getD undef = .pointer (some ⟨Y, 0, none⟩) := hf1)
   have pY := (NY.out.below hb').l; have sY := (NY.out.below hb').r; have pk1 := (Nk1.out.below hb').l; have sk1 := (Nk1.out.below hb').r
   (go_simp; first | exact ⟨_, rfl, Br _, rfl⟩ | exact ⟨_, rfl, Br _, trivial⟩ | exact ⟨_, rfl, Ba _ _, trivial⟩ | exact ⟨_, rfl, Br _, congrArg (Value.int _) (IntWalk.i64_in _ (by omega))⟩)
  ·(refine owes_val (L := [(128, true)]) rfl rfl rfl (by kernel_rfl) ?_; intro a' w' hb' hfacts; obtain ⟨hf128, -⟩ := hfacts; try simp only [VBalB2] at hf128)
   have pY := (NY.out.below hb').l; have sY := (NY.out.below hb').r; have pk1 := (Nk1.out.below hb').l; have sk1 := (Nk1.out.below hb').r
   (go_simp; first | exact ⟨_, rfl, Br _, rfl⟩ | exact ⟨_, rfl, Br _, trivial⟩ | exact ⟨_, rfl, Ba _ _, trivial⟩ | exact ⟨_, rfl, Br _, congrArg (Value.int _) (IntWalk.i64_in _ (by omega))⟩)
  ·(refine owes_val (L := [(129, true)]) rfl rfl rfl (by kernel_rfl) ?_; intro a' w' hb' hfacts; obtain ⟨hf129, -⟩ := hfacts; try simp only [VBalB2] at hf129)
   have pY := (NY.out.below hb').l; have sY := (NY.out.below hb').r; have pk1 := (Nk1.out.below hb').l; have sk1 := (Nk1.out.below hb').r
   (go_simp; first | exact ⟨_, rfl, Br _, rfl⟩ | exact ⟨_, rfl, Br _, trivial⟩ | exact ⟨_, rfl, Ba _ _, trivial⟩ | exact ⟨_, rfl, Br _, congrArg (Value.int _) (IntWalk.i64_in _ (by omega))⟩)
  ·(refine owes_val (L := [(130, true)]) rfl rfl rfl (by kernel_rfl) ?_; intro a' w' hb' hfacts; obtain ⟨hf130, -⟩ := hfacts; try simp only [VBalB2] at hf130)
   have pY := (NY.out.below hb').l; have sY := (NY.out.below hb').r; have pk1 := (Nk1.out.below hb').l; have sk1 := (Nk1.out.below hb').r
   (go_simp; first | exact ⟨_, rfl, Br _, rfl⟩ | exact ⟨_, rfl, Br _, trivial⟩ | exact ⟨_, rfl, Ba _ _, trivial⟩ | exact ⟨_, rfl, Br _, congrArg (Value.int _) (IntWalk.i64_in _ (by omega))⟩)
  ·(refine owes_val (L := [(131, true)]) rfl rfl rfl (by kernel_rfl) ?_; intro a' w' hb' hfacts; obtain ⟨hf131, -⟩ := hfacts; try simp only [VBalB2] at hf131)
   have pY := (NY.out.below hb').l; have sY := (NY.out.below hb').r; have pk1 := (Nk1.out.below hb').l; have sk1 := (Nk1.out.below hb').r
   (go_simp; first | exact ⟨_, rfl, Br _, rfl⟩ | exact ⟨_, rfl, Br _, trivial⟩ | exact ⟨_, rfl, Ba _ _, trivial⟩ | exact ⟨_, rfl, Br _, congrArg (Value.int _) (IntWalk.i64_in _ (by omega))⟩)
  ·(refine owes_val (L := [(132, true)]) rfl rfl rfl (by kernel_rfl) ?_; intro a' w' hb' hfacts; obtain ⟨hf132, -⟩ := hfacts; try simp only [VBalB2] at hf132)
   have pY := (NY.out.below hb').l; have sY := (NY.out.below hb').r; have pk1 := (Nk1.out.below hb').l; have sk1 := (Nk1.out.below hb').r
   (go_simp; first | exact ⟨_, rfl, Br _, rfl⟩ | exact ⟨_, rfl, Br _, trivial⟩ | exact ⟨_, rfl, Ba _ _, trivial⟩ | exact ⟨_, rfl, Br _, congrArg (Value.int _) (IntWalk.i64_in _ (by omega))⟩)
  ·(refine owes_val (L := [(133, true)]) rfl rfl rfl (by kernel_rfl) ?_; intro a' w' hb' hfacts; obtain ⟨hf133, -⟩ := hfacts; try simp only [VBalB2] at hf133)
   have pY := (NY.out.below hb').l; have sY := (NY.out.below hb').r; have pk1 := (Nk1.out.below hb').l; have sk1 := (Nk1.out.below hb').r
   (go_simp; first | exact ⟨_, rfl, Br _, rfl⟩ | exact ⟨_, rfl, Br _, trivial⟩ | exact ⟨_, rfl, Ba _ _, trivial⟩ | exact ⟨_, rfl, Br _, congrArg (Value.int _) (IntWalk.i64_in _ (by omega))⟩)
  ·(refine owes_val (L := [(127, true), (134, true)]) rfl rfl rfl (by kernel_rfl) ?_; intro a' w' hb' hfacts; obtain ⟨hf127, hf134, -⟩ := hfacts; try simp only [VBalB2] at hf127; try simp only [VBalB2] at hf134)
   go_simp
   refine (knot_any X k3 _ _ _ (tabs_below HT.out hb') (HX.out.below hb') (Hk3.out.below hb') o0).mono ?_
   rintro e w3 ⟨q, rfl, hq, hs, hb3⟩
   exact ⟨_, rfl, hb3, q, rfl, Nat.le_trans hb'.size hs, hq⟩
  ·(refine owes_val (L := [(1, false)]) rfl rfl rfl (by kernel_rfl) ?_; intro a' w' hb' hfacts; obtain ⟨hf1, -⟩ := hfacts; replace hf1 : a'.tmps[1]?.getD undef = .pointer (some ⟨Y, 0, none⟩) := hf1)
   have pY := (NY.out.below hb').l; have sY := (NY.out.below hb').r; have pk1 := (Nk1.out.below hb').l; have sk1 := (Nk1.out.below hb').r
   (go_simp; first | exact ⟨_, rfl, Br _, rfl⟩ | exact ⟨_, rfl, Br _, trivial⟩ | exact ⟨_, rfl, Ba _ _, trivial⟩ | exact ⟨_, rfl, Br _, congrArg (Value.int _) (IntWalk.i64_in _ (by omega))⟩)
  ·(refine owes_val (L := [(136, true)]) rfl rfl rfl (by kernel_rfl) ?_; intro a' w' hb' hfacts; obtain ⟨hf136, -⟩ := hfacts; try simp only [VBalB2] at hf136)
   have pY := (NY.out.below hb').l; have sY := (NY.out.below hb').r; have pk1 := (Nk1.out.below hb').l; have sk1 := (Nk1.out.below hb').r
   (go_simp; first | exact ⟨_, rfl, Br _, rfl⟩ | exact ⟨_, rfl, Br _, trivial⟩ | exact ⟨_, rfl, Ba _ _, trivial⟩ | exact ⟨_, rfl, Br _, congrArg (Value.int _) (IntWalk.i64_in _ (by omega))⟩)
  ·(refine owes_val (L := [(137, true)]) rfl rfl rfl (by kernel_rfl) ?_; intro a' w' hb' hfacts; obtain ⟨hf137, -⟩ := hfacts; try simp only [VBalB2] at hf137)
   have pY := (NY.out.below hb').l; have sY := (NY.out.below hb').r; have pk1 := (Nk1.out.below hb').l; have sk1 := (Nk1.out.below hb').r
   (go_simp; first | exact ⟨_, rfl, Br _, rfl⟩ | exact ⟨_, rfl, Br _, trivial⟩ | exact ⟨_, rfl, Ba _ _, trivial⟩ | exact ⟨_, rfl, Br _, congrArg (Value.int _) (IntWalk.i64_in _ (by omega))⟩)
  ·(refine owes_val (L := [(138, true)]) rfl rfl rfl (by kernel_rfl) ?_; intro a' w' hb' hfacts; obtain ⟨hf138, -⟩ := hfacts; try simp only [VBalB2] at hf138)
   have pY := (NY.out.below hb').l; have sY := (NY.out.below hb').r; have pk1 := (Nk1.out.below hb').l; have sk1 := (Nk1.out.below hb').r
   (go_simp; first | exact ⟨_, rfl, Br _, rfl⟩ | exact ⟨_, rfl, Br _, trivial⟩ | exact ⟨_, rfl, Ba _ _, trivial⟩ | exact ⟨_, rfl, Br _, congrArg (Value.int _) (IntWalk.i64_in _ (by omega))⟩)
  ·(refine owes_val (L := [(139, true)]) rfl rfl rfl (by kernel_rfl) ?_; intro a' w' hb' hfacts; obtain ⟨hf139, -⟩ := hfacts; try simp only [VBalB2] at hf139)
   have pY := (NY.out.below hb').l; have sY := (NY.out.below hb').r; have pk1 := (Nk1.out.below hb').l; have sk1 := (Nk1.out.below hb').r
   (go_simp; first | exact ⟨_, rfl, Br _, rfl⟩ | exact ⟨_, rfl, Br _, trivial⟩ | exact ⟨_, rfl, Ba _ _, trivial⟩ | exact ⟨_, rfl, Br _, congrArg (Value.int _) (IntWalk.i64_in _ (by omega))⟩)
  ·(refine owes_val (L := [(140, true)]) rfl rfl rfl (by kernel_rfl) ?_; intro a' w' hb' hfacts; obtain ⟨hf140, -⟩ := hfacts; try simp only [VBalB2] at hf140)
   have pY := (NY.out.below hb').l; have sY := (NY.out.below hb').r; have pk1 := (Nk1.out.below hb').l; have sk1 := (Nk1.out.below hb').r
   (go_simp; first | exact ⟨_, rfl, Br _, rfl⟩ | exact ⟨_, rfl, Br _, trivial⟩ | exact ⟨_, rfl, Ba _ _, trivial⟩ | exact ⟨_, rfl, Br _, congrArg (Value.int _) (IntWalk.i64_in _ (by omega))⟩)
  ·(refine owes_val (L := [(141, true)]) rfl rfl rfl (by kernel_rfl) ?_; intro a' w' hb' hfacts; obtain ⟨hf141, -⟩ := hfacts; try simp only [VBalB2] at hf141)
   have pY := (NY.out.below hb').l; have sY := (NY.out.below hb').r; have pk1 := (Nk1.out.below hb').l; have sk1 := (Nk1.out.below hb').r
   (go_simp; first | exact ⟨_, rfl, Br _, rfl⟩ | exact ⟨_, rfl, Br _, trivial⟩ | exact ⟨_, rfl, Ba _ _, trivial⟩ | exact ⟨_, rfl, Br _, congrArg (Value.int _) (IntWalk.i64_in _ (by omega))⟩)
  ·(refine owes_val (L := [(1, false)]) rfl rfl rfl (by kernel_rfl) ?_; intro a' w' hb' hfacts; obtain ⟨hf1, -⟩ := hfacts; replace hf1 : a'.tmps[1]?.getD undef = .pointer (some ⟨Y, 0, none⟩) := hf1)
   have pY := (NY.out.below hb').l; have sY := (NY.out.below hb').r; have pk1 := (Nk1.out.below hb').l; have sk1 := (Nk1.out.below hb').r
   (go_simp; first | exact ⟨_, rfl, Br _, rfl⟩ | exact ⟨_, rfl, Br _, trivial⟩ | exact ⟨_, rfl, Ba _ _, trivial⟩ | exact ⟨_, rfl, Br _, congrArg (Value.int _) (IntWalk.i64_in _ (by omega))⟩)
  ·(refine owes_val (L := [(143, true)]) rfl rfl rfl (by kernel_rfl) ?_; intro a' w' hb' hfacts; obtain ⟨hf143, -⟩ := hfacts; try simp only [VBalB2] at hf143)
   have pY := (NY.out.below hb').l; have sY := (NY.out.below hb').r; have pk1 := (Nk1.out.below hb').l; have sk1 := (Nk1.out.below hb').r
   (go_simp; first | exact ⟨_, rfl, Br _, rfl⟩ | exact ⟨_, rfl, Br _, trivial⟩ | exact ⟨_, rfl, Ba _ _, trivial⟩ | exact ⟨_, rfl, Br _, congrArg (Value.int _) (IntWalk.i64_in _ (by omega))⟩)
  ·(refine owes_val (L := [(144, true)]) rfl rfl rfl (by kernel_rfl) ?_; intro a' w' hb' hfacts; obtain ⟨hf144, -⟩ := hfacts; try simp only [VBalB2] at hf144)
   have pY := (NY.out.below hb').l; have sY := (NY.out.below hb').r; have pk1 := (Nk1.out.below hb').l; have sk1 := (Nk1.out.below hb').r
   (go_simp; first | exact ⟨_, rfl, Br _, rfl⟩ | exact ⟨_, rfl, Br _, trivial⟩ | exact ⟨_, rfl, Ba _ _, trivial⟩ | exact ⟨_, rfl, Br _, congrArg (Value.int _) (IntWalk.i64_in _ (by omega))⟩)
  ·(refine owes_val (L := [(145, true)]) rfl rfl rfl (by kernel_rfl) ?_; intro a' w' hb' hfacts; obtain ⟨hf145, -⟩ := hfacts; try simp only [VBalB2] at hf145)
   have pY := (NY.out.below hb').l; have sY := (NY.out.below hb').r; have pk1 := (Nk1.out.below hb').l; have sk1 := (Nk1.out.below hb').r
   (go_simp; first | exact ⟨_, rfl, Br _, rfl⟩ | exact ⟨_, rfl, Br _, trivial⟩ | exact ⟨_, rfl, Ba _ _, trivial⟩ | exact ⟨_, rfl, Br _, congrArg (Value.int _) (IntWalk.i64_in _ (by omega))⟩)
  ·(refine owes_val (L := [(142, true), (146, true)]) rfl rfl rfl (by kernel_rfl) ?_; intro a' w' hb' hfacts; obtain ⟨hf142, hf146, -⟩ := hfacts; try simp only [VBalB2] at hf142; try simp only [VBalB2] at hf146)
   go_simp
   refine (knot_any k4 k2 _ _ _ (tabs_below HT.out hb') (Hk4.out.below hb') (Hk2.out.below hb') o1).mono ?_
   rintro e w3 ⟨q, rfl, hq, hs, hb3⟩
   exact ⟨_, rfl, hb3, q, rfl, Nat.le_trans hb'.size hs, hq⟩
  ·(refine owes_val (L := [(135, true), (147, true)]) rfl rfl rfl (by kernel_rfl) ?_; intro a' w' hb' hfacts; obtain ⟨hf135, hf147, -⟩ := hfacts; try simp only [VBalB2] at hf135; try simp only [VBalB2] at hf147)
   obtain ⟨g135, hh135, hq135, hL135⟩ := hf135
   unfold ptr at hh135
   obtain ⟨g147, hh147, hq147, hL147⟩ := hf147
   unfold ptr at hh147
   go_simp
   refine (knot_any g135 g147 _ _ _ (tabs_below HT.out hb') hL135 hL147 o2).mono ?_
   rintro e w3 ⟨q, rfl, hq, hs, hb3⟩
   exact ⟨_, rfl, hb3, q, rfl, Nat.le_trans hb'.size hs, hq⟩
  ·(refine owes_val (L := [(148, true)]) rfl rfl rfl (by kernel_rfl) ?_; intro a' w' hb' hfacts; obtain ⟨hf148, -⟩ := hfacts; try simp only [VBalB2] at hf148)
   obtain ⟨q, hh, hq, hL⟩ := hf148
   unfold ptr at hh
   go_simp
   exact ⟨_, rfl, Below.refl _ _, q, rfl, hq, hL⟩
 ·intro f W9 hf hb3
  obtain ⟨q, f4, hq, hL⟩ : ∃ q, f 4 = ptr q ∧ W3.heap.size ≤ q ∧ IsTr W9 q (Tr.knot (.knot ta tb) (.knot tc td)) := hf 4 (by decide)
  have R3 := Lib.hid hL
  have R4 := Lib.hid (HB.out.trans (hb3.mono HB.out.size))
  have hq2 := Nat.le_trans HSZ.out hq
  clear hf hb3 hL
  unfold ptr at f4
  simp only [putAll, put_lit, List.map_cons, List.map_nil, List.set_cons_succ, List.set_cons_zero]
  simp only [f4]
  go_wp2
  go_ret
  exact ⟨q, _, rfl, R3.out, by simp [Tr.leaves], hq2, R4.out⟩

set_option maxRecDepth 100000 in
set_option maxHeartbeats 4000000 in
theorem bal_C (X Y : Nat) (ta tb : Tr) (v1 v2 v3 v4 : Value) (w : World) (hT : Tabs w) (tX : IsTr w X (ta)) (tY : IsTr w Y (tb)) (nX : Nd w X v1 v2 (ta).ht) (nY : Nd w Y v3 v4 (tb).ht) (ho : (Tr.knot ta tb).Ok) (h0 : ¬ (tb.ht + 1 < ta.ht)) (h1 : ¬ (ta.ht + 1 < tb.ht)) :
  Calls Tryz.prog 183 #[ptr X, ptr Y] w (Made (Tr.knot ta tb).leaves w) := by
 have HX := Lib.hid tX
 have HY := Lib.hid tY
 have HT := Lib.hid hT
 have HO := Lib.hid ho
 have b1 := ho.left.ht_lt
 have b2 := ho.left.sz
 have b3 := ho.right.ht_lt
 have b4 := ho.right.sz
 have w1 : IntKind.i64.wrap (((tb).ht : Int) + 1) = ((tb).ht : Int) + 1 := IntWalk.i64_in _ (by omega)
 have w2 : IntKind.i64.wrap (((ta).ht : Int) + 1) = ((ta).ht : Int) + 1 := IntWalk.i64_in _ (by omega)
 have q0 : decide (((tb.ht : Int)+1) < (ta.ht : Int)) = false := by rw [decide_eq_false_iff_not]; omega
 have p0 : decide (tb.ht + 1 < ta.ht) = false := by rw [decide_eq_false_iff_not]; omega
 have q1 : decide (((ta.ht : Int)+1) < (tb.ht : Int)) = false := by rw [decide_eq_false_iff_not]; omega
 have p1 : decide (ta.ht + 1 < tb.ht) = false := by rw [decide_eq_false_iff_not]; omega
 clear hT ho b1 b2 b3 b4 tX tY h0 h1
 generalize (ta).ht = e0 at *
 generalize (tb).ht = e1 at *
 have NX := Lib.hid nX
 have NY := Lib.hid nY
 have lX := nX.l
 have rX := nX.r
 have hX := nX.h
 clear nX
 have lY := nY.l
 have rY := nY.r
 have hY := nY.h
 clear nY
 have HB := Lib.hid (Below.refl w.heap.size w)
 have hsz : w.heap.size ≤ w.heap.size := Nat.le_refl _
 have HSZ := Lib.hid hsz
 clear hsz
 unfold ptr at *
 go_enter Tryz.func183, Tryz.ntmps183
 go_wp2
 go_quiet (fail)
 go_wp2
 have hD := Drawn.below (w := w) nq
 have HT := Lib.hid (tabs_below HT.out hD)
 have HX := Lib.hid (HX.out.below hD)
 have HY := Lib.hid (HY.out.below hD)
 have NX := Lib.hid (NX.out.below hD)
 have NY := Lib.hid (NY.out.below hD)
 have HB := Lib.hid (HB.out.trans (hD.mono HB.out.size))
 have HSZ := Lib.hid (Nat.le_trans HSZ.out hD.size)
 clear hD lX rX hX lY rY hY
 obtain ⟨W0, hW⟩ : ∃ W, w.drewN nq = W := ⟨_, rfl⟩
 rw [hW] at HT HB HSZ HX HY NX NY
 rw [hW]
 clear hW
 have lX := NX.out.l
 have rX := NX.out.r
 have hX := NX.out.h
 have lY := NY.out.l
 have rY := NY.out.r
 have hY := NY.out.h
 go_quiet (fail)
 go_wp2
 have hD := Drawn.below (w := W0) nq
 have HT := Lib.hid (tabs_below HT.out hD)
 have HX := Lib.hid (HX.out.below hD)
 have HY := Lib.hid (HY.out.below hD)
 have NX := Lib.hid (NX.out.below hD)
 have NY := Lib.hid (NY.out.below hD)
 have HB := Lib.hid (HB.out.trans (hD.mono HB.out.size))
 have HSZ := Lib.hid (Nat.le_trans HSZ.out hD.size)
 clear hD lX rX hX lY rY hY
 obtain ⟨W1, hW⟩ : ∃ W, W0.drewN nq = W := ⟨_, rfl⟩
 rw [hW] at HT HB HSZ HX HY NX NY
 rw [hW]
 clear hW
 have lX := NX.out.l
 have rX := NX.out.r
 have hX := NX.out.h
 have lY := NY.out.l
 have rY := NY.out.r
 have hY := NY.out.h
 go_quiet (fail)
 go_wp2
 have hD := Drawn.below (w := W1) nq
 have HT := Lib.hid (tabs_below HT.out hD)
 have HX := Lib.hid (HX.out.below hD)
 have HY := Lib.hid (HY.out.below hD)
 have NX := Lib.hid (NX.out.below hD)
 have NY := Lib.hid (NY.out.below hD)
 have HB := Lib.hid (HB.out.trans (hD.mono HB.out.size))
 have HSZ := Lib.hid (Nat.le_trans HSZ.out hD.size)
 clear hD lX rX hX lY rY hY
 obtain ⟨W2, hW⟩ : ∃ W, W1.drewN nq = W := ⟨_, rfl⟩
 rw [hW] at HT HB HSZ HX HY NX NY
 rw [hW]
 clear hW
 have lX := NX.out.l
 have rX := NX.out.r
 have hX := NX.out.h
 have lY := NY.out.l
 have rY := NY.out.r
 have hY := NY.out.h
 go_quiet (fail)
 go_wp2_with fail
 have hD := Drawn.below (w := W2) nq
 have HT := Lib.hid (tabs_below HT.out hD)
 have HX := Lib.hid (HX.out.below hD)
 have HY := Lib.hid (HY.out.below hD)
 have NX := Lib.hid (NX.out.below hD)
 have NY := Lib.hid (NY.out.below hD)
 have HB := Lib.hid (HB.out.trans (hD.mono HB.out.size))
 have HSZ := Lib.hid (Nat.le_trans HSZ.out hD.size)
 clear hD lX rX hX lY rY hY
 obtain ⟨W3, hW⟩ : ∃ W, W2.drewN nq = W := ⟨_, rfl⟩
 rw [hW] at HT HB HSZ HX HY NX NY
 rw [hW]
 clear hW
 have lX := NX.out.l
 have rX := NX.out.r
 have hX := NX.out.h
 have lY := NY.out.l
 have rY := NY.out.r
 have hY := NY.out.h
 refine (knot_any X Y ta tb _ HT.out HX.out HY.out HO.out).mono ?_
 rintro e w1 ⟨q, rfl, hq, hs, hb⟩
 have R := Lib.hid hq
 have hbb := Lib.hid (HB.out.trans (hb.mono HB.out.size))
 have hs2 := Nat.le_trans HSZ.out hs
 clear hq hb
 unfold ptr
 go_wp2
 go_ret
 exact ⟨q, _, rfl, R.out, rfl, hs2, hbb.out⟩

theorem balanced_any (X Y : Nat) (l r : Tr) (w : World) (hT : Tabs w) (hX : IsTr w X l) (hY : IsTr w Y r) (ho : (Tr.knot l r).Ok) :
  Calls Tryz.prog 183 #[ptr X, ptr Y] w (Made (l.leaves ++ r.leaves) w) := by
 obtain ⟨v1, v2, nX⟩ := hX.nd
 obtain ⟨v3, v4, nY⟩ := hY.nd
 by_cases h1 : r.ht + 1 < l.ht
 ·obtain ⟨a, b, x, y, rfl, hx, hy, n⟩ := hX.parts (by omega)
  obtain ⟨v5, v6, nx⟩ := hx.nd
  obtain ⟨v7, v8, ny⟩ := hy.nd
  by_cases h2 : b.ht ≤ a.ht
  ·exact bal_A1 X Y x y a b r _ _ _ _ _ _ w hT hx hy hY n nY nx ny ho h1 h2
  ·obtain ⟨c, d, z, u, rfl, hz, hu, n2⟩ := hy.parts (by omega)
   exact bal_A2 X Y x y z u a c d r _ _ _ _ w hT hx hz hu hY n nY nx n2 ho h1 h2
 ·by_cases h3 : l.ht + 1 < r.ht
  ·obtain ⟨b, c, x, y, rfl, hx, hy, n⟩ := hY.parts (by omega)
   obtain ⟨v5, v6, nx⟩ := hx.nd
   obtain ⟨v7, v8, ny⟩ := hy.nd
   by_cases h2 : b.ht ≤ c.ht
   ·exact bal_B1 X Y x y l b c _ _ _ _ _ _ w hT hX hx hy nX n nx ny ho h3 h2 h1
   ·obtain ⟨d, e, z, u, rfl, hz, hu, n2⟩ := hx.parts (by omega)
    exact bal_B2 X Y x y z u l d e c _ _ _ _ w hT hX hz hu hy nX n n2 ny ho h3 h2 h1
  ·exact bal_C X Y l r _ _ _ _ w hT hX hY nX nY ho h1 h3
end Go.Proofs.YtfchglcclgcgfaaGreatDoor.Ut
