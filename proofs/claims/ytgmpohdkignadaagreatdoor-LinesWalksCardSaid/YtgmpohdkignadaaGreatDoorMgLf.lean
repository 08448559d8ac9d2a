/-
  What the proof of the laws L rests on: the texts RoG BldA RoH RoI RoJ RoK ClF RoL. Conditions: each theorem names its own.
-/
import Derived.Test.YtgmpohdkignadaaGreatDoorMgLe
import Derived.Test.YtgmpohdkignadaaGreatDoorMgLa
import Derived.Shelf.Strings.Builder1
import Derived.Test.YtgmpohdkignadaaGreatDoorMgLb
/-
  rope: (*node).part. Condition: the two tables of unicode/utf8 lie as laid; no leaf of a knot is empty.
-/
namespace Go.Proofs.YtgmpohdkignadaaGreatDoor.Ut
open Go.RowKit Go.Proofs.YtgmpohdkignadaaGreatDoor.Reg
set_option linter.unusedVariables false
set_option linter.unusedSimpArgs false

/-- A list of leaves parted at the one in which a place lies: what is ahead, the leaf, the place in it, what is behind. -/
def partL : List ByteArray → Nat → List ByteArray × ByteArray × Nat × List ByteArray
  | [], a => ([], ⟨#[]⟩, a, [])
  | [s], a => ([], s, a, [])
  | s :: t :: r, a => if a < s.size then ([], s, a, t :: r) else (s :: (partL (t :: r) (a - s.size)).1, (partL (t :: r) (a - s.size)).2)
theorem cat_nil_size : (cat []).size = 0 := rfl
theorem cat_cons_size (s : ByteArray) (r : List ByteArray) : (cat (s :: r)).size = s.size + (cat r).size := by show (s ++ cat r).size = _; rw [ByteArray.size_append]
theorem cat_one_size (s : ByteArray) : (cat [s]).size = s.size := by rw [cat_cons_size, cat_nil_size]; omega
theorem partL_left : ∀ (L R : List ByteArray) (a : Nat), a < (cat L).size → partL (L ++ R) a = ((partL L a).1, (partL L a).2.1, (partL L a).2.2.1, (partL L a).2.2.2 ++ R)
  | [], R, a, h => by rw [cat_nil_size] at h; omega
  | [s], R, a, h => by
    have hs : a < s.size := by rw [cat_one_size] at h; exact h
    cases R with
    | nil => simp [partL]
    | cons t r => show partL (s :: t :: r) a = _; unfold partL; rw [if_pos hs]; rfl
  | s :: t :: r, R, a, h => by
    show partL (s :: t :: (r ++ R)) a = _
    rw [partL, partL]
    by_cases hs : a < s.size
    · rw [if_pos hs, if_pos hs]; rfl
    · rw [if_neg hs, if_neg hs]
      have : a - s.size < (cat (t :: r)).size := by
        have e : (cat (s :: t :: r)).size = s.size + (cat (t :: r)).size := by show (s ++ cat (t :: r)).size = _; rw [ByteArray.size_append]
        omega
      have ih := partL_left (t :: r) R (a - s.size) this
      rw [List.cons_append] at ih
      rw [ih]
theorem partL_right : ∀ (L R : List ByteArray) (a : Nat), (cat L).size ≤ a → R ≠ [] → partL (L ++ R) a = (L ++ (partL R (a - (cat L).size)).1, (partL R (a - (cat L).size)).2)
  | [], R, a, h, hR => by rw [cat_nil_size, Nat.sub_zero]; rfl
  | s :: r, R, a, h, hR => by
    have e : (cat (s :: r)).size = s.size + (cat r).size := by show (s ++ cat r).size = _; rw [ByteArray.size_append]
    have ih := partL_right r R (a - s.size) (by omega) hR
    rw [show a - s.size - (cat r).size = a - (cat (s :: r)).size by omega] at ih
    cases hx : r ++ R with
    | nil => simp at hx; exact absurd hx.2 hR
    | cons t u =>
      rw [hx] at ih
      show partL (s :: (r ++ R)) a = _
      rw [hx, partL, if_neg (by omega), ih]
      rfl
theorem partL_ok : ∀ (L : List ByteArray) (a : Nat), L ≠ [] → a ≤ (cat L).size → (partL L a).1 ++ (partL L a).2.1 :: (partL L a).2.2.2 = L ∧ (cat (partL L a).1).size + (partL L a).2.2.1 = a ∧ (partL L a).2.2.1 ≤ (partL L a).2.1.size
  | [], a, h, _ => absurd rfl h
  | [s], a, _, h => by
    have hs : a ≤ s.size := by rw [cat_one_size] at h; exact h
    exact ⟨rfl, by show (cat []).size + a = a; rw [cat_nil_size]; omega, hs⟩
  | s :: t :: r, a, _, h => by
    have e : (cat (s :: t :: r)).size = s.size + (cat (t :: r)).size := by show (s ++ cat (t :: r)).size = _; rw [ByteArray.size_append]
    rw [partL]
    by_cases hs : a < s.size
    · rw [if_pos hs]; exact ⟨rfl, by show (cat []).size + a = a; rw [cat_nil_size]; omega, Nat.le_of_lt hs⟩
    · rw [if_neg hs]
      obtain ⟨x, y, z⟩ := partL_ok (t :: r) (a - s.size) (by simp) (by omega)
      refine ⟨by simpa using x, ?_, z⟩
      have e2 : (cat (s :: (partL (t :: r) (a - s.size)).1)).size = s.size + (cat (partL (t :: r) (a - s.size)).1).size := by show (s ++ cat _).size = _; rw [ByteArray.size_append]
      simp only
      rw [e2]; omega

def OptV (L : List ByteArray) (v : Value) (w : World) : Prop := ∃ o, IsOpt w v o ∧ lvs o = L
theorem OptV.below {L : List ByteArray} {v : Value} {w w' : World} (h : OptV L v w) (hb : Below w.heap.size w w') : OptV L v w' := by
  obtain ⟨o, h1, h2⟩ := h; exact ⟨o, h1.below hb, h2⟩
theorem OptV.none (w : World) : OptV [] (.pointer none) w := ⟨.none, rfl, rfl⟩
theorem OptV.of {w : World} {b : Nat} {t : Tr} (h : IsTr w b t) : OptV t.leaves (ptr b) w := ⟨some t, ⟨b, rfl, h⟩, rfl⟩
theorem joinV (v1 v2 : Value) (L1 L2 : List ByteArray) (w : World) (hT : Tabs w) (hl : OptV L1 v1 w) (hr : OptV L2 v2 w) (ho : OkL (L1 ++ L2)) :
    Calls Tryz.prog 88 #[v1, v2] w fun e w' => ∃ v, e = .returned v ∧ OptV (L1 ++ L2) v w' ∧ Below w.heap.size w w' := by
  obtain ⟨l, h1, rfl⟩ := hl
  obtain ⟨r, h2, rfl⟩ := hr
  refine (join_any v1 v2 l r w hT h1 h2 ho).mono ?_
  rintro e w' ⟨v, t, rfl, h3, h4, hb⟩
  exact ⟨v, rfl, ⟨t, h3, h4⟩, hb⟩
/-- What part answers. -/
def PartTo (L : List ByteArray) (a : Nat) (w : World) : Ending → World → Prop := fun e w' => ∃ v1 v2, e = .returned (.tuple #[v1, .string (partL L a).2.1, .int .i64 (partL L a).2.2.1, v2]) ∧ OptV (partL L a).1 v1 w' ∧ OptV (partL L a).2.2.2 v2 w' ∧ Below w.heap.size w w'

def VPart (X k1 k2 : Nat) (sz a z2 : Nat) (p q : List ByteArray) (s : ByteArray) (o : Nat) : Nat → Value → World → Prop := fun d x w => match d with
  | 49 => x = .pointer (some ⟨X, 0, none⟩)
  | 50 => x = .pointer (some ⟨X, 0, none⟩)
  | 51 => x = .pointer (some ⟨X, 1, none⟩)
  | 52 => x = .pointer (some ⟨k2, 0, none⟩)
  | 53 => x = .int .i64 a
  | 54 => x = .pointer (some ⟨X, 0, none⟩)
  | 55 => x = .pointer (some ⟨X, 0, none⟩)
  | 56 => x = .pointer (some ⟨X, 0, none⟩)
  | 57 => x = .pointer (some ⟨k1, 0, none⟩)
  | 58 => x = .pointer (some ⟨k1, 0, none⟩)
  | 59 => x = .pointer (some ⟨k1, 3, none⟩)
  | 60 => x = .pointer (some ⟨k1, 3, none⟩)
  | 61 => x = .int .i64 sz
  | 62 => x = .int .i64 z2
  | 63 => ∃ v1 v2, x = .tuple #[v1, .string s, .int .i64 o, v2] ∧ OptV p v1 w ∧ OptV q v2 w
  | 48 => ∃ v1 v2, x = .tuple #[v1, .string s, .int .i64 o, v2] ∧ OptV p v1 w ∧ OptV q v2 w
  | 64 => OptV p x w
  | 65 => x = .string s
  | 66 => x = .int .i64 o
  | 67 => OptV q x w
  | 4 => OptV p x w
  | 5 => x = .string s
  | 6 => x = .int .i64 o
  | 7 => OptV q x w
  | _ => True
theorem VPart_mono (X k1 k2 : Nat) (sz a z2 : Nat) (p q : List ByteArray) (s : ByteArray) (o : Nat) : ∀ d x w w', VPart X k1 k2 sz a z2 p q s o d x w → Below w.heap.size w w' → VPart X k1 k2 sz a z2 p q s o d x w' := by
  intro d x w w' h hb
  unfold VPart at *
  split <;> first | exact h | exact trivial | skip
  all_goals first | exact h.below hb | (obtain ⟨v1, v2, h1, h2, h3⟩ := h; exact ⟨v1, v2, h1, h2.below hb, h3.below hb⟩)
theorem IsTr.sumBytes {W : World} {t : Tr} {b : Nat} (h : IsTr W b t) : W.cell? ⟨b, 3, none⟩ = some (.int .i64 t.text.size) := by
  obtain ⟨l, r, s, H⟩ := h.node
  exact (H.2 3 _ rfl).1
theorem IsTr.lt {W : World} {t : Tr} {b : Nat} (h : IsTr W b t) : b < W.heap.size := by
  obtain ⟨l, r, s, H⟩ := h.node
  exact H.1

set_option maxRecDepth 100000 in
set_option maxHeartbeats 4000000 in
theorem part_leaf (X : Nat) (s : ByteArray) (a : Nat) (w : World) (h : IsTr w X (.leaf s)) : Calls Tryz.prog 90 #[ptr X, .int .i64 a] w (PartTo [s] a w) := by
  have hL : Lies w X (nodeV (.pointer none) (.pointer none) 0 (measF s) s) := Blk.lies h
  have c0 := (hL.2 0 _ rfl).1
  have c10 := (hL.2 10 _ rfl).1
  clear h hL
  unfold PartTo partL ptr
  go_enter Tryz.func90, Tryz.ntmps90
  go_wp2
  go_quiet (fail)
  go_wp2
  refine bodyPost_ret (v := .tuple #[.pointer none, .string s, .int .i64 a, .pointer none]) (by simp [results, Tryz.results90, go_sem]) rfl ⟨_, _, rfl, OptV.none _, OptV.none _, Drawn.below _⟩

theorem cat_app_size (A B : List ByteArray) : (cat (A ++ B)).size = (cat A).size + (cat B).size := by rw [cat_app, ByteArray.size_append]
theorem OkL.right {A B : List ByteArray} (h : OkL (A ++ B)) : OkL B := ⟨fun x hx => h.ne x (List.mem_append_right _ hx), by have := h.sz; rw [cat_app_size] at this; omega⟩
theorem OkL.left {A B : List ByteArray} (h : OkL (A ++ B)) : OkL A := ⟨fun x hx => h.ne x (List.mem_append_left _ hx), by have := h.sz; rw [cat_app_size] at this; omega⟩
theorem OkL.tail {s : ByteArray} {B : List ByteArray} (h : OkL (s :: B)) : OkL B := OkL.right (A := [s]) h
theorem OkL.leaf_le {A : List ByteArray} (h : OkL A) : ∀ x ∈ A, x.size ≤ 4294967296 := by
  intro x hx
  obtain ⟨P, Q, rfl⟩ := List.append_of_mem hx
  have := h.sz
  rw [cat_app_size, cat_cons_size] at this
  omega

set_option maxRecDepth 100000 in
set_option maxHeartbeats 4000000 in
theorem part_L (X k1 k2 : Nat) (l r : Tr) (a : Nat) (w : World) (ih : ∀ w', Tabs w' → IsTr w' k1 l → Calls Tryz.prog 90 #[ptr k1, .int .i64 a] w' (PartTo l.leaves a w')) (hT : Tabs w) (h1 : IsTr w k1 l) (h2 : IsTr w k2 r) (n : Nd w X (ptr k1) (ptr k2) (Tr.knot l r).ht) (ho : (Tr.knot l r).Ok) (hlt : a < l.text.size) :
    Calls Tryz.prog 90 #[ptr X, .int .i64 a] w (PartTo (l.leaves ++ r.leaves) a w) := by
  have hs := h1.sumBytes
  rw [Tr.text_leaves] at hlt
  unfold PartTo
  rw [partL_left _ _ _ hlt]
  dsimp only
  rw [← Tr.text_leaves] at hlt
  have hpo := partL_ok l.leaves a l.leaves_ne (by rw [← Tr.text_leaves]; omega)
  have hO : OkL (l.leaves ++ r.leaves) := Tr.ok_iff.1 ho
  have ho2 : OkL ((partL l.leaves a).2.2.2 ++ r.leaves) := by
    rw [← hpo.1, List.append_assoc] at hO
    exact OkL.tail (OkL.right hO)
  have O2 := Lib.hid ho2
  have IH := Lib.hid (ih w hT h1)
  have H2 := Lib.hid h2
  have HT := Lib.hid hT
  have N := Lib.hid n
  have c0 := n.l
  have q : (a : Int) < (l.text.size : Int) := by omega
  unfold PartTo at IH
  clear hlt hpo hO ho2 ih h1 h2 hT n ho
  generalize l.text.size = z at *
  obtain ⟨L, hL⟩ : ∃ L, partL l.leaves a = L := ⟨_, rfl⟩
  rw [hL] at IH O2 ⊢
  obtain ⟨P, s, o, Q⟩ := L
  dsimp only at *
  clear hL
  unfold ptr at *
  go_enter Tryz.func90, Tryz.ntmps90
  go_wp2_with fail
  refine IH.out.mono ?_
  rintro e w1 ⟨v1, v2, rfl, g1, g2, hb⟩
  have G1 := Lib.hid g1
  have G2 := Lib.hid g2
  have HB := Lib.hid (Below.refl w.heap.size w)
  have H2 := Lib.hid (H2.out.below hb)
  have N := Lib.hid (N.out.below hb)
  have HT := Lib.hid (tabs_below HT.out hb)
  have HB := Lib.hid (HB.out.trans (hb.mono HB.out.size))
  clear hb
  clear c0 hs g1 g2 IH
  have c1 := N.out.r
  unfold ptr at c1
  go_wp2_with fail
  refine (joinV v2 (ptr k2) Q r.leaves w1 HT.out G2.out (OptV.of H2.out) O2.out).mono ?_
  rintro e w2 ⟨v, rfl, g3, hb⟩
  have G3 := Lib.hid g3
  have G4 := Lib.hid (G1.out.below hb)
  have HB := Lib.hid (HB.out.trans (hb.mono HB.out.size))
  clear hb
  clear g3 c1
  go_wp2
  refine bodyPost_ret (v := .tuple #[v1, .string s, .int .i64 o, v]) (by simp [results, Tryz.results90, go_sem]) rfl ⟨_, _, rfl, G4.out, G3.out, HB.out⟩

set_option maxRecDepth 100000 in
set_option maxHeartbeats 4000000 in
theorem part_R (X k1 k2 : Nat) (l r : Tr) (a : Nat) (w : World) (ih : ∀ w', Tabs w' → IsTr w' k2 r → Calls Tryz.prog 90 #[ptr k2, .int .i64 (a - l.text.size : Nat)] w' (PartTo r.leaves (a - l.text.size) w')) (hT : Tabs w) (h1 : IsTr w k1 l) (h2 : IsTr w k2 r) (n : Nd w X (ptr k1) (ptr k2) (Tr.knot l r).ht) (ho : (Tr.knot l r).Ok) (hlt : l.text.size ≤ a) (hle : a ≤ (Tr.knot l r).text.size) :
    Calls Tryz.prog 90 #[ptr X, .int .i64 a] w (PartTo (l.leaves ++ r.leaves) a w) := by
  have hs := h1.sumBytes
  have hz := ho.sz
  have hrs : a - l.text.size ≤ (cat r.leaves).size := by
    rw [← Tr.text_leaves]; simp only [Tr.text, ByteArray.size_append] at hle; omega
  unfold PartTo
  rw [partL_right _ _ _ (by rw [← Tr.text_leaves]; exact hlt) r.leaves_ne]
  rw [← Tr.text_leaves]
  dsimp only
  have hpo := partL_ok r.leaves (a - l.text.size) r.leaves_ne hrs
  have hO : OkL (l.leaves ++ r.leaves) := Tr.ok_iff.1 ho
  have ho2 : OkL (l.leaves ++ (partL r.leaves (a - l.text.size)).1) := by
    rw [← hpo.1, ← List.append_assoc] at hO
    exact OkL.left hO
  have O2 := Lib.hid ho2
  have IH := Lib.hid ih
  have H1 := Lib.hid h1
  have H2 := Lib.hid h2
  have HT := Lib.hid hT
  have N := Lib.hid n
  have c0 := n.l
  have ltX := n.lt
  have lt1 := h1.lt
  have q : ¬ (a : Int) < (l.text.size : Int) := by omega
  have e62 : IntKind.i64.wrap ((a : Int) - (l.text.size : Int)) = ((a - l.text.size : Nat) : Int) := by rw [IntWalk.i64_in _ (by omega)]; omega
  have E62 := Lib.hid e62
  have HB := Lib.hid (Below.refl w.heap.size w)
  unfold PartTo at IH
  clear hpo hO ho2 ih h1 h2 hT n ho hrs hle e62 hz hlt
  obtain ⟨z, hzz⟩ : ∃ z, l.text.size = z := ⟨_, rfl⟩
  rw [hzz] at hs q E62 IH O2 ⊢
  clear hzz
  obtain ⟨z2, hzz⟩ : ∃ z2, a - z = z2 := ⟨_, rfl⟩
  rw [hzz] at E62 IH O2 ⊢
  clear hzz
  obtain ⟨L, hL⟩ : ∃ L, partL r.leaves z2 = L := ⟨_, rfl⟩
  rw [hL] at IH O2 ⊢
  obtain ⟨P, s, o, Q⟩ := L
  dsimp only at *
  clear hL
  have hS := Lib.hid hs
  unfold ptr at *
  go_enter Tryz.func90, Tryz.ntmps90
  go_wp2
  refine wp_held' mixed (VPart X k1 k2 z a z2 P Q s o) (VPart_mono _ _ _ _ _ _ _ _ _ _) (by kernel_rfl) [49, 50, 51, 52, 53, 54, 55, 56, 57, 58, 59, 60, 61, 62, 63, 48, 64, 65, 66, 67, 4, 5, 6, 7] (by kernel_rfl) (by kernel_rfl) ?_ ?_
  · intro j hj
    have hj' : j < 24 := hj
    rcases (by omega : j = 0 ∨ j = 1 ∨ j = 2 ∨ j = 3 ∨ j = 4 ∨ j = 5 ∨ j = 6 ∨ j = 7 ∨ j = 8 ∨ j = 9 ∨ j = 10 ∨ j = 11 ∨ j = 12 ∨ j = 13 ∨ j = 14 ∨ j = 15 ∨ j = 16 ∨ j = 17 ∨ j = 18 ∨ j = 19 ∨ j = 20 ∨ j = 21 ∨ j = 22 ∨ j = 23) with rfl | rfl | rfl | rfl | rfl | rfl | rfl | rfl | rfl | rfl | rfl | rfl | rfl | rfl | rfl | rfl | rfl | rfl | rfl | rfl | rfl | rfl | rfl | rfl
    · -- operation 0
      (refine owes_val (L := [(0, false)]) rfl rfl rfl (by kernel_rfl) ?_; intro a' w' hb' hfacts; obtain ⟨hf0, -⟩ := hfacts; replace hf0 : a'.tmps[0]?.getD undef = .pointer (some ⟨X, 0, none⟩) := hf0)
      have pX := (N.out.below hb').l; have sX := (N.out.below hb').r; have zX := (hb'.cell (p := ⟨k1, 3, none⟩) lt1).trans hS.out; unfold ptr at pX sX
      (go_simp; first | exact ⟨_, rfl, Below.refl _ _, rfl⟩ | exact ⟨_, rfl, Below.refl _ _, trivial⟩ | exact ⟨_, rfl, (Below.refl _ _).alloc (Nat.le_refl _) _, trivial⟩ | exact ⟨_, rfl, Below.refl _ _, congrArg (Value.int _) (IntWalk.i64_in _ (by omega))⟩)
    · -- operation 1
      (refine owes_val (L := [(49, true)]) rfl rfl rfl (by kernel_rfl) ?_; intro a' w' hb' hfacts; obtain ⟨hf49, -⟩ := hfacts; try simp only [VPart] at hf49)
      have pX := (N.out.below hb').l; have sX := (N.out.below hb').r; have zX := (hb'.cell (p := ⟨k1, 3, none⟩) lt1).trans hS.out; unfold ptr at pX sX
      (go_simp; first | exact ⟨_, rfl, Below.refl _ _, rfl⟩ | exact ⟨_, rfl, Below.refl _ _, trivial⟩ | exact ⟨_, rfl, (Below.refl _ _).alloc (Nat.le_refl _) _, trivial⟩ | exact ⟨_, rfl, Below.refl _ _, congrArg (Value.int _) (IntWalk.i64_in _ (by omega))⟩)
    · -- operation 2
      (refine owes_val (L := [(50, true)]) rfl rfl rfl (by kernel_rfl) ?_; intro a' w' hb' hfacts; obtain ⟨hf50, -⟩ := hfacts; try simp only [VPart] at hf50)
      have pX := (N.out.below hb').l; have sX := (N.out.below hb').r; have zX := (hb'.cell (p := ⟨k1, 3, none⟩) lt1).trans hS.out; unfold ptr at pX sX
      (go_simp; first | exact ⟨_, rfl, Below.refl _ _, rfl⟩ | exact ⟨_, rfl, Below.refl _ _, trivial⟩ | exact ⟨_, rfl, (Below.refl _ _).alloc (Nat.le_refl _) _, trivial⟩ | exact ⟨_, rfl, Below.refl _ _, congrArg (Value.int _) (IntWalk.i64_in _ (by omega))⟩)
    · -- operation 3
      (refine owes_val (L := [(51, true)]) rfl rfl rfl (by kernel_rfl) ?_; intro a' w' hb' hfacts; obtain ⟨hf51, -⟩ := hfacts; try simp only [VPart] at hf51)
      have pX := (N.out.below hb').l; have sX := (N.out.below hb').r; have zX := (hb'.cell (p := ⟨k1, 3, none⟩) lt1).trans hS.out; unfold ptr at pX sX
      (go_simp; first | exact ⟨_, rfl, Below.refl _ _, rfl⟩ | exact ⟨_, rfl, Below.refl _ _, trivial⟩ | exact ⟨_, rfl, (Below.refl _ _).alloc (Nat.le_refl _) _, trivial⟩ | exact ⟨_, rfl, Below.refl _ _, congrArg (Value.int _) (IntWalk.i64_in _ (by omega))⟩)
    · -- operation 4
      (refine owes_val (L := [(1, false)]) rfl rfl rfl (by kernel_rfl) ?_; intro a' w' hb' hfacts; obtain ⟨hf1, -⟩ := hfacts; replace hf1 : a'.tmps[1]?.getD undef = .int .i64 a := hf1)
      have pX := (N.out.below hb').l; have sX := (N.out.below hb').r; have zX := (hb'.cell (p := ⟨k1, 3, none⟩) lt1).trans hS.out; unfold ptr at pX sX
      (go_simp; first | exact ⟨_, rfl, Below.refl _ _, rfl⟩ | exact ⟨_, rfl, Below.refl _ _, trivial⟩ | exact ⟨_, rfl, (Below.refl _ _).alloc (Nat.le_refl _) _, trivial⟩ | exact ⟨_, rfl, Below.refl _ _, congrArg (Value.int _) (IntWalk.i64_in _ (by omega))⟩)
    · -- operation 5
      (refine owes_val (L := [(0, false)]) rfl rfl rfl (by kernel_rfl) ?_; intro a' w' hb' hfacts; obtain ⟨hf0, -⟩ := hfacts; replace hf0 : a'.tmps[0]?.getD undef = .pointer (some ⟨X, 0, none⟩) := hf0)
      have pX := (N.out.below hb').l; have sX := (N.out.below hb').r; have zX := (hb'.cell (p := ⟨k1, 3, none⟩) lt1).trans hS.out; unfold ptr at pX sX
      (go_simp; first | exact ⟨_, rfl, Below.refl _ _, rfl⟩ | exact ⟨_, rfl, Below.refl _ _, trivial⟩ | exact ⟨_, rfl, (Below.refl _ _).alloc (Nat.le_refl _) _, trivial⟩ | exact ⟨_, rfl, Below.refl _ _, congrArg (Value.int _) (IntWalk.i64_in _ (by omega))⟩)
    · -- operation 6
      (refine owes_val (L := [(54, true)]) rfl rfl rfl (by kernel_rfl) ?_; intro a' w' hb' hfacts; obtain ⟨hf54, -⟩ := hfacts; try simp only [VPart] at hf54)
      have pX := (N.out.below hb').l; have sX := (N.out.below hb').r; have zX := (hb'.cell (p := ⟨k1, 3, none⟩) lt1).trans hS.out; unfold ptr at pX sX
      (go_simp; first | exact ⟨_, rfl, Below.refl _ _, rfl⟩ | exact ⟨_, rfl, Below.refl _ _, trivial⟩ | exact ⟨_, rfl, (Below.refl _ _).alloc (Nat.le_refl _) _, trivial⟩ | exact ⟨_, rfl, Below.refl _ _, congrArg (Value.int _) (IntWalk.i64_in _ (by omega))⟩)
    · -- operation 7
      (refine owes_val (L := [(55, true)]) rfl rfl rfl (by kernel_rfl) ?_; intro a' w' hb' hfacts; obtain ⟨hf55, -⟩ := hfacts; try simp only [VPart] at hf55)
      have pX := (N.out.below hb').l; have sX := (N.out.below hb').r; have zX := (hb'.cell (p := ⟨k1, 3, none⟩) lt1).trans hS.out; unfold ptr at pX sX
      (go_simp; first | exact ⟨_, rfl, Below.refl _ _, rfl⟩ | exact ⟨_, rfl, Below.refl _ _, trivial⟩ | exact ⟨_, rfl, (Below.refl _ _).alloc (Nat.le_refl _) _, trivial⟩ | exact ⟨_, rfl, Below.refl _ _, congrArg (Value.int _) (IntWalk.i64_in _ (by omega))⟩)
    · -- operation 8
      (refine owes_val (L := [(56, true)]) rfl rfl rfl (by kernel_rfl) ?_; intro a' w' hb' hfacts; obtain ⟨hf56, -⟩ := hfacts; try simp only [VPart] at hf56)
      have pX := (N.out.below hb').l; have sX := (N.out.below hb').r; have zX := (hb'.cell (p := ⟨k1, 3, none⟩) lt1).trans hS.out; unfold ptr at pX sX
      (go_simp; first | exact ⟨_, rfl, Below.refl _ _, rfl⟩ | exact ⟨_, rfl, Below.refl _ _, trivial⟩ | exact ⟨_, rfl, (Below.refl _ _).alloc (Nat.le_refl _) _, trivial⟩ | exact ⟨_, rfl, Below.refl _ _, congrArg (Value.int _) (IntWalk.i64_in _ (by omega))⟩)
    · -- operation 9
      (refine owes_val (L := [(57, true)]) rfl rfl rfl (by kernel_rfl) ?_; intro a' w' hb' hfacts; obtain ⟨hf57, -⟩ := hfacts; try simp only [VPart] at hf57)
      have pX := (N.out.below hb').l; have sX := (N.out.below hb').r; have zX := (hb'.cell (p := ⟨k1, 3, none⟩) lt1).trans hS.out; unfold ptr at pX sX
      (go_simp; first | exact ⟨_, rfl, Below.refl _ _, rfl⟩ | exact ⟨_, rfl, Below.refl _ _, trivial⟩ | exact ⟨_, rfl, (Below.refl _ _).alloc (Nat.le_refl _) _, trivial⟩ | exact ⟨_, rfl, Below.refl _ _, congrArg (Value.int _) (IntWalk.i64_in _ (by omega))⟩)
    · -- operation 10
      (refine owes_val (L := [(58, true)]) rfl rfl rfl (by kernel_rfl) ?_; intro a' w' hb' hfacts; obtain ⟨hf58, -⟩ := hfacts; try simp only [VPart] at hf58)
      have pX := (N.out.below hb').l; have sX := (N.out.below hb').r; have zX := (hb'.cell (p := ⟨k1, 3, none⟩) lt1).trans hS.out; unfold ptr at pX sX
      (go_simp; first | exact ⟨_, rfl, Below.refl _ _, rfl⟩ | exact ⟨_, rfl, Below.refl _ _, trivial⟩ | exact ⟨_, rfl, (Below.refl _ _).alloc (Nat.le_refl _) _, trivial⟩ | exact ⟨_, rfl, Below.refl _ _, congrArg (Value.int _) (IntWalk.i64_in _ (by omega))⟩)
    · -- operation 11
      (refine owes_val (L := [(59, true)]) rfl rfl rfl (by kernel_rfl) ?_; intro a' w' hb' hfacts; obtain ⟨hf59, -⟩ := hfacts; try simp only [VPart] at hf59)
      have pX := (N.out.below hb').l; have sX := (N.out.below hb').r; have zX := (hb'.cell (p := ⟨k1, 3, none⟩) lt1).trans hS.out; unfold ptr at pX sX
      (go_simp; first | exact ⟨_, rfl, Below.refl _ _, rfl⟩ | exact ⟨_, rfl, Below.refl _ _, trivial⟩ | exact ⟨_, rfl, (Below.refl _ _).alloc (Nat.le_refl _) _, trivial⟩ | exact ⟨_, rfl, Below.refl _ _, congrArg (Value.int _) (IntWalk.i64_in _ (by omega))⟩)
    · -- operation 12
      (refine owes_val (L := [(60, true)]) rfl rfl rfl (by kernel_rfl) ?_; intro a' w' hb' hfacts; obtain ⟨hf60, -⟩ := hfacts; try simp only [VPart] at hf60)
      have pX := (N.out.below hb').l; have sX := (N.out.below hb').r; have zX := (hb'.cell (p := ⟨k1, 3, none⟩) lt1).trans hS.out; unfold ptr at pX sX
      (go_simp; first | exact ⟨_, rfl, Below.refl _ _, rfl⟩ | exact ⟨_, rfl, Below.refl _ _, trivial⟩ | exact ⟨_, rfl, (Below.refl _ _).alloc (Nat.le_refl _) _, trivial⟩ | exact ⟨_, rfl, Below.refl _ _, congrArg (Value.int _) (IntWalk.i64_in _ (by omega))⟩)
    · -- operation 13
      (refine owes_val (L := [(53, true), (61, true)]) rfl rfl rfl (by kernel_rfl) ?_; intro a' w' hb' hfacts; obtain ⟨hf53, hf61, -⟩ := hfacts; try simp only [VPart] at hf53; try simp only [VPart] at hf61)
      go_simp
      exact ⟨_, rfl, Below.refl _ _, congrArg (Value.int _) E62.out⟩
    · -- operation 14
      (refine owes_val (L := [(52, true), (62, true)]) rfl rfl rfl (by kernel_rfl) ?_; intro a' w' hb' hfacts; obtain ⟨hf52, hf62, -⟩ := hfacts; try simp only [VPart] at hf52; try simp only [VPart] at hf62)
      go_simp
      refine (IH.out _ (tabs_below HT.out hb') (H2.out.below hb')).mono ?_
      rintro e w3 ⟨v1, v2, rfl, g1, g2, hb3⟩
      exact ⟨_, rfl, hb3, v1, v2, rfl, g1, g2⟩
    · -- operation 15
      (refine owes_val (L := [(63, true)]) rfl rfl rfl (by kernel_rfl) ?_; intro a' w' hb' hfacts; obtain ⟨hf63, -⟩ := hfacts; try simp only [VPart] at hf63)
      obtain ⟨v1, v2, hh, g1, g2⟩ := hf63
      go_simp
      exact ⟨_, rfl, Below.refl _ _, v1, v2, rfl, g1, g2⟩
    · -- operation 16
      (refine owes_val (L := [(48, true)]) rfl rfl rfl (by kernel_rfl) ?_; intro a' w' hb' hfacts; obtain ⟨hf48, -⟩ := hfacts; try simp only [VPart] at hf48)
      obtain ⟨v1, v2, hh, g1, g2⟩ := hf48
      go_simp
      exact ⟨_, rfl, Below.refl _ _, g1⟩
    · -- operation 17
      (refine owes_val (L := [(48, true)]) rfl rfl rfl (by kernel_rfl) ?_; intro a' w' hb' hfacts; obtain ⟨hf48, -⟩ := hfacts; try simp only [VPart] at hf48)
      obtain ⟨v1, v2, hh, g1, g2⟩ := hf48
      go_simp
      exact ⟨_, rfl, Below.refl _ _, rfl⟩
    · -- operation 18
      (refine owes_val (L := [(48, true)]) rfl rfl rfl (by kernel_rfl) ?_; intro a' w' hb' hfacts; obtain ⟨hf48, -⟩ := hfacts; try simp only [VPart] at hf48)
      obtain ⟨v1, v2, hh, g1, g2⟩ := hf48
      go_simp
      exact ⟨_, rfl, Below.refl _ _, rfl⟩
    · -- operation 19
      (refine owes_val (L := [(48, true)]) rfl rfl rfl (by kernel_rfl) ?_; intro a' w' hb' hfacts; obtain ⟨hf48, -⟩ := hfacts; try simp only [VPart] at hf48)
      obtain ⟨v1, v2, hh, g1, g2⟩ := hf48
      go_simp
      exact ⟨_, rfl, Below.refl _ _, g2⟩
    · -- operation 20
      (refine owes_val (L := [(64, true)]) rfl rfl rfl (by kernel_rfl) ?_; intro a' w' hb' hfacts; obtain ⟨hf64, -⟩ := hfacts; try simp only [VPart] at hf64)
      go_simp
      exact ⟨_, rfl, Below.refl _ _, hf64⟩
    · -- operation 21
      (refine owes_val (L := [(65, true)]) rfl rfl rfl (by kernel_rfl) ?_; intro a' w' hb' hfacts; obtain ⟨hf65, -⟩ := hfacts; try simp only [VPart] at hf65)
      have pX := (N.out.below hb').l; have sX := (N.out.below hb').r; have zX := (hb'.cell (p := ⟨k1, 3, none⟩) lt1).trans hS.out; unfold ptr at pX sX
      (go_simp; first | exact ⟨_, rfl, Below.refl _ _, rfl⟩ | exact ⟨_, rfl, Below.refl _ _, trivial⟩ | exact ⟨_, rfl, (Below.refl _ _).alloc (Nat.le_refl _) _, trivial⟩ | exact ⟨_, rfl, Below.refl _ _, congrArg (Value.int _) (IntWalk.i64_in _ (by omega))⟩)
    · -- operation 22
      (refine owes_val (L := [(66, true)]) rfl rfl rfl (by kernel_rfl) ?_; intro a' w' hb' hfacts; obtain ⟨hf66, -⟩ := hfacts; try simp only [VPart] at hf66)
      have pX := (N.out.below hb').l; have sX := (N.out.below hb').r; have zX := (hb'.cell (p := ⟨k1, 3, none⟩) lt1).trans hS.out; unfold ptr at pX sX
      (go_simp; first | exact ⟨_, rfl, Below.refl _ _, rfl⟩ | exact ⟨_, rfl, Below.refl _ _, trivial⟩ | exact ⟨_, rfl, (Below.refl _ _).alloc (Nat.le_refl _) _, trivial⟩ | exact ⟨_, rfl, Below.refl _ _, congrArg (Value.int _) (IntWalk.i64_in _ (by omega))⟩)
    · -- operation 23
      (refine owes_val (L := [(67, true)]) rfl rfl rfl (by kernel_rfl) ?_; intro a' w' hb' hfacts; obtain ⟨hf67, -⟩ := hfacts; try simp only [VPart] at hf67)
      go_simp
      exact ⟨_, rfl, Below.refl _ _, hf67⟩
  · intro f W9 hf hb3
    have f4 : OptV P (f 4) W9 := hf 4 (by decide)
    have f5 : f 5 = .string s := hf 5 (by decide)
    have f6 : f 6 = .int .i64 o := hf 6 (by decide)
    have f7 : OptV Q (f 7) W9 := hf 7 (by decide)
    have F4 := Lib.hid f4
    have F7 := Lib.hid f7
    have H1 := Lib.hid (H1.out.below hb3)
    have N := Lib.hid (N.out.below hb3)
    have HT := Lib.hid (tabs_below HT.out hb3)
    have HB := Lib.hid (HB.out.trans (hb3.mono HB.out.size))
    clear hb3
    clear hf f4 f7 c0 hs
    have c0 := N.out.l
    unfold ptr at c0
    simp only [putAll, put_lit, List.map_cons, List.map_nil, List.set_cons_succ, List.set_cons_zero]
    simp only [f5, f6]
    generalize f 4 = v1 at *
    generalize f 7 = v2 at *
    clear f5 f6
    go_wp2_with fail
    refine (joinV (ptr k1) v1 l.leaves P W9 HT.out (OptV.of H1.out) F4.out O2.out).mono ?_
    rintro e w2 ⟨v, rfl, g3, hb⟩
    have G3 := Lib.hid g3
    have G4 := Lib.hid (F7.out.below hb)
    have HB := Lib.hid (HB.out.trans (hb.mono HB.out.size))
    clear hb
    clear g3 c0
    go_wp2
    refine bodyPost_ret (v := .tuple #[v, .string s, .int .i64 o, v2]) (by simp [results, Tryz.results90, go_sem]) rfl ⟨_, _, rfl, G3.out, G4.out, HB.out⟩

theorem part_any : ∀ (t : Tr) (X a : Nat) (w : World), Tabs w → IsTr w X t → (t.Ok ∨ ∃ s, t = .leaf s) → a ≤ t.text.size → Calls Tryz.prog 90 #[ptr X, .int .i64 a] w (PartTo t.leaves a w)
  | .leaf s, X, a, w, hT, h, _, _ => part_leaf X s a w h
  | .knot l r, X, a, w, hT, ⟨x, y, hx, hy, hL⟩, ho, ha => by
    have ho' : (Tr.knot l r).Ok := by
      rcases ho with h | ⟨s, h⟩
      · exact h
      · cases h
    by_cases hlt : a < l.text.size
    · exact part_L X x y l r a w (fun w' hT' h' => part_any l x a w' hT' h' (.inl ho'.left) (by omega)) hT hx hy (Nd.of hL.lies) ho' hlt
    · exact part_R X x y l r a w (fun w' hT' h' => part_any r y (a - l.text.size) w' hT' h' (.inl ho'.right) (by simp only [Tr.text, ByteArray.size_append] at ha; omega)) hT hx hy (Nd.of hL.lies) ho' (by omega) ha
end Go.Proofs.YtgmpohdkignadaaGreatDoor.Ut
/-
  strings.Builder in this program: copyCheck, WriteString, String. Condition: a builder of the call's own.
-/
namespace Go.Proofs.YtgmpohdkignadaaGreatDoor.Ut
open Go.RowKit
set_option linter.unusedVariables false
set_option linter.unusedSimpArgs false

/-- A builder in block b that holds these bytes. -/
abbrev Bld (B b : Nat) (l : List UInt8) (w : World) : Prop := Lib.IsBuilder 197 5 B b (Lib.byteCells l) w
theorem bldSize : (Tryz.prog.info? 197).map (·.size) = some 2 := by kernel_rfl
theorem bldLies : liesAt Tryz.prog Tryz.prog.depth 197 (2 / Tryz.prog.cellsOf 197) 0 197 1 = true := by kernel_rfl
theorem bldByte : (Tryz.prog.info? 5).map (fun i => (i.zero, i.size, i.bytes)) = some (some (.int .u8 0), 1, 1) := by kernel_rfl

set_option maxRecDepth 100000 in
theorem copyCheck_used (b : Nat) (w : World) (h0 : w.cell? ⟨b, 0, none⟩ = some (.pointer (some ⟨b, 0, none⟩))) :
    Calls Tryz.prog 162 #[.pointer (some ⟨b, 0, none⟩)] w fun e w' => e = .returned (.tuple #[]) ∧ w' = w := by
  obtain ⟨j, hj, _⟩ := Option.map_eq_some_iff.1 bldSize
  go_enter Tryz.func162, Tryz.ntmps162
  go_wp2
  try (rw [Lib.run_neq_ptr_same w _ Tryz.underlying195 hj]; go_wp2)
  go_end0
  exact ⟨rfl, rfl⟩
set_option maxRecDepth 100000 in
theorem copyCheck_fresh (b : Nat) (w : World) (h0 : w.cell? ⟨b, 0, none⟩ = some (.pointer none)) (hsh : w.shape? b = some (197, 2)) (hfz : w.frozen? ⟨b, 0, none⟩ = false) :
    Calls Tryz.prog 162 #[.pointer (some ⟨b, 0, none⟩)] w fun e w' => e = .returned (.tuple #[]) ∧ w' = w.setCell ⟨b, 0, none⟩ (.pointer (some ⟨b, 0, none⟩)) := by
  obtain ⟨j, hj, hjs⟩ := Option.map_eq_some_iff.1 bldSize
  go_enter Tryz.func162, Tryz.ntmps162
  go_wp2
  rw [Lib.run_to_unsafe w ⟨b, 0, none⟩ Tryz.underlying195 Tryz.underlying203 hj (by rw [hjs]; decide) hsh (Nat.zero_lt_succ 1)]
  simp only [Result.andThen]
  rw [Oper.upon_value]
  go_wp2
  rw [run_callFunc_extern Tryz.func163 (by kernel_rfl) (by kernel_rfl) (by kernel_rfl) (e := Extern.AbiNoEscape.same) (by kernel_rfl)]
  rw [Lib.run_noEscape]
  simp only [Result.andThen]
  rw [Oper.upon_value]
  go_wp2
  rw [Lib.run_from_unsafe w ⟨b, 0, none⟩ Tryz.underlying203 Tryz.underlying195 hj hsh bldLies]
  simp only [Result.andThen]
  rw [Oper.upon_value]
  go_wp2
  go_end0
  exact ⟨rfl, rfl⟩
theorem copyCheck_any (B b : Nat) (l : List UInt8) (w : World) (h : Bld B b l w) :
    Calls Tryz.prog 162 #[.pointer (some ⟨b, 0, none⟩)] w fun e w' => e = .returned (.tuple #[]) ∧ (Lib.BuilderAt 197 5 B b (.pointer (some ⟨b, 0, none⟩)) (Lib.byteCells l) w' ∧ Below B w w') := by
  rcases h with h | h
  · refine (copyCheck_fresh b w h.cell0 h.shape h.frozen0).mono ?_
    rintro e w' ⟨rfl, rfl⟩
    exact ⟨rfl, h.used _, (Below.refl B w).setCell (p := ⟨b, 0, none⟩) h.1 _⟩
  · refine (copyCheck_used b w h.cell0).mono ?_
    rintro e w' ⟨rfl, rfl⟩
    exact ⟨rfl, h, Below.refl B _⟩

set_option maxRecDepth 100000 in
set_option maxHeartbeats 1000000 in
theorem WriteString_any (B b : Nat) (l : List UInt8) (s : ByteArray) (w : World) (h : Bld B b l w) (hlen : l.length + s.size ≤ 140737488355328) (hBw : B ≤ w.heap.size) :
    Calls Tryz.prog 161 #[.pointer (some ⟨b, 0, none⟩), .string s] w fun e w' => e = .returned (.tuple #[.int .i64 s.size, .nilIface]) ∧ (Bld B b (l ++ s.data.toList) w' ∧ Below B w w') := by
  obtain ⟨i0, hi, hz0, hz1, hz2⟩ := info_parts bldByte
  go_enter Tryz.func161, Tryz.ntmps161
  go_wp2_with fail
  refine (copyCheck_any B b l _ h).mono ?_
  rintro e w1 ⟨rfl, h1, hb1⟩
  obtain ⟨hB, v, hbk, hown, hne⟩ := h1
  have c0 : w1.cell? ⟨b, 0, none⟩ = some (.pointer (some ⟨b, 0, none⟩)) := by rw [Lib.cell_of_heap hbk]; rfl
  have c1 : w1.cell? ⟨b, 1, none⟩ = some v := by rw [Lib.cell_of_heap hbk]; rfl
  rw [Lib.byteCells_length] at hown
  go_wp2_with (at_builtin; refine Lib.wpList_append_own_string _ rfl _ _ 99 9 rfl B 5 i0 Tryz.underlying99 Tryz.underlying9 hi hz0 hz1 hz2 _ _ _ rfl hown s rfl ?c3 ?c4 ?c5 ?_)
  case c3 => unfold maxLen; omega
  case c4 => omega
  case c5 => have := hb1.size; omega
  intro v' w2 hown' hgrow _
  have hlt : b < w1.heap.size := by
    rcases Nat.lt_or_ge b w1.heap.size with h' | h'
    · exact h'
    · simp [Array.getElem?_eq_none h'] at hbk
  have hb2 : w2.heap[b]? = some (.cells #[.pointer (some ⟨b, 0, none⟩), v] 197 (0, 0)) := by
    rw [hgrow.block b hlt (fun e => hne e.symm)]
    exact hbk
  have d0 : w2.cell? ⟨b, 0, none⟩ = some (.pointer (some ⟨b, 0, none⟩)) := by rw [Lib.cell_of_heap hb2]; rfl
  have d1 : w2.cell? ⟨b, 1, none⟩ = some v := by rw [Lib.cell_of_heap hb2]; rfl
  have f1 : w2.frozen? ⟨b, 1, none⟩ = false := Lib.frozen_of_heap hb2 1
  obtain ⟨ao, n', cap, rfl⟩ : ∃ ao n' cap, v' = .slice ao n' cap := by
    rcases hown'.2 with ⟨hv, _⟩ | ⟨g, cap, cur, hv, _⟩
    · exact ⟨_, _, _, hv⟩
    · exact ⟨_, _, _, hv⟩
  go_wp2
  go_ret2
  refine ⟨rfl, ?_, ?_⟩
  · refine .inr (Lib.BuilderAt.put (T := 197) (e := 5) hB hb2 (bs' := Lib.byteCells (l ++ s.data.toList)) ?_ (by decide))
    rw [Lib.byteCells_length, List.length_append, Lib.byteCells_append]
    rw [← Lib.size_eq]
    exact hown'
  · exact (hb1.grown hgrow (by have := hb1.size; omega) (fun k hk => (hown.lt k hk).1)).setCell (p := ⟨b, 1, none⟩) hB _
theorem BldString_any (B b : Nat) (l : List UInt8) (w : World) (h : Bld B b l w) (hBw : B ≤ w.heap.size) :
    Calls Tryz.prog 160 #[.pointer (some ⟨b, 0, none⟩)] w fun e w' => e = .returned (.string ⟨l.toArray⟩) ∧ Below B w w' := Tryz.Builder_String_any B b l w h hBw
end Go.Proofs.YtgmpohdkignadaaGreatDoor.Ut
/-
  rope: (*node).slice into a builder. Condition: a builder of the call's own; the tree lay before it.
-/
namespace Go.Proofs.YtgmpohdkignadaaGreatDoor.Ut
open Go.RowKit Go.Proofs.YtgmpohdkignadaaGreatDoor.Reg
set_option linter.unusedVariables false
set_option linter.unusedSimpArgs false

/-- The bytes from i up to j, which may lie beyond the ends. -/
def cutB (s : ByteArray) (i j : Int) : List UInt8 := (s.data.toList.drop (max i 0).toNat).take ((min j s.size).toNat - (max i 0).toNat)
theorem cutB_nil {s : ByteArray} {i j : Int} (h : min j s.size ≤ max i 0) : cutB s i j = [] := by
  unfold cutB
  rw [show (min j (s.size : Int)).toNat - (max i 0).toNat = 0 by omega, List.take_zero]
theorem cutB_app (a b : ByteArray) (i j : Int) (h : max i 0 < min j ((a ++ b).size : Int)) : cutB (a ++ b) i j = cutB a (max i 0) (min j ((a ++ b).size : Int)) ++ cutB b (max i 0 - a.size) (min j ((a ++ b).size : Int) - a.size) := by
  unfold cutB
  have ha : a.data.toList.length = a.size := by rw [← Lib.size_eq]
  have hs : (a ++ b).size = a.size + b.size := ByteArray.size_append
  generalize hf : max i 0 = f at *
  generalize ht : min j ((a ++ b).size : Int) = t at *
  have f0 : 0 ≤ f := by omega
  have t1 : t ≤ a.size + b.size := by omega
  rw [app_list, List.drop_append, List.take_append, List.length_drop, ha]
  have e1 : (max f 0).toNat = f.toNat := by omega
  have e2 : (max (f - a.size) 0).toNat = f.toNat - a.size := by omega
  rw [e1, e2]
  congr 1
  · by_cases hc : t ≤ a.size
    · congr 1; omega
    · rw [List.take_of_length_le (by rw [List.length_drop, ha]; omega), List.take_of_length_le (by rw [List.length_drop, ha]; omega)]
  · congr 1; omega
theorem cutB_extract (s : ByteArray) (i j : Nat) (hj : j ≤ s.size) : cutB s i j = (s.extract i j).data.toList := by
  unfold cutB
  have e1 : (max (i : Int) 0).toNat = i := by omega
  have e2 : (min (j : Int) (s.size : Int)).toNat = j := by omega
  rw [extract_list, e1, e2]
theorem cutB_length (s : ByteArray) (i j : Int) : (cutB s i j).length ≤ s.size := by
  unfold cutB
  rw [List.length_take, List.length_drop, ← Lib.size_eq]; omega
theorem Lib.Bld_drewN {T e : TypeId} {B b : Nat} {l : List Value} {w : World} (h : Lib.IsBuilder T e B b l w) (n : Nat) : Lib.IsBuilder T e B b l (w.drewN n) := h

set_option maxRecDepth 100000 in
set_option maxHeartbeats 4000000 in
theorem slice_leaf (W0 : World) (s : ByteArray) (X b : Nat) (i j : Int) (l : List UInt8) (w : World) (h : IsTr W0 X (.leaf s)) (hs : s.size ≤ 4294967296) (hi : -1099511627776 ≤ i ∧ i ≤ 1099511627776) (hj : -1099511627776 ≤ j ∧ j ≤ 1099511627776) (hw : Below W0.heap.size W0 w) (hB : Bld W0.heap.size b l w) (hl : l.length + s.size ≤ 1099511627776) :
    Calls Tryz.prog 159 #[ptr X, ptr b, .int .i64 i, .int .i64 j] w fun e w' => e = .returned (.tuple #[]) ∧ Bld W0.heap.size b (l ++ cutB s i j) w' ∧ Below W0.heap.size w w' := by
  have hL : Lies w X (nodeV (.pointer none) (.pointer none) 0 (measF s) s) := Blk.lies (IsTr.below hw h)
  have hX := hL.1
  have c0 := (hL.2 0 _ rfl).1
  have c3 := (hL.2 3 _ rfl).1
  have c10 := (hL.2 10 _ rfl).1
  have HL := Lib.hid hL
  have HB := Lib.hid hB
  have HW := Lib.hid hw
  have e3 : (measF s).bytes = (s.size : Int) := rfl
  rw [e3] at c3
  obtain ⟨f, hf⟩ : ∃ f, max i 0 = f := ⟨_, rfl⟩
  obtain ⟨t, ht⟩ : ∃ t, min j (s.size : Int) = t := ⟨_, rfl⟩
  obtain ⟨C, hC⟩ : ∃ C, cutB s i j = C := ⟨_, rfl⟩
  have HF := Lib.hid hf
  have HT := Lib.hid ht
  have HC := Lib.hid hC
  rw [hC]
  clear h hw hB e3 hL hC
  unfold ptr
  by_cases hlt : t ≤ f
  · have hC : C = [] := by rw [← HC.out, cutB_nil (by omega)]
    subst hC
    rw [List.append_nil]
    go_enter Tryz.func159, Tryz.ntmps159
    go_wp2
    go_quiet (fail)
    go_wp2
    go_returns
    exact ⟨rfl, HB.out, (Drawn.below _).mono HW.out.size⟩
  · have f0 : 0 ≤ f := by omega
    have t1 : t ≤ (s.size : Int) := by omega
    have hft : f ≤ t := by omega
    obtain ⟨f', rfl⟩ : ∃ f' : Nat, f = f' := ⟨f.toNat, by omega⟩
    obtain ⟨t', rfl⟩ : ∃ t' : Nat, t = t' := ⟨t.toNat, by omega⟩
    have hC : C = (s.extract f' t').data.toList := by
      rw [← HC.out]
      have e1 : (max i 0).toNat = f' := by omega
      have e2 : (min j (s.size : Int)).toNat = t' := by omega
      unfold cutB
      rw [extract_list, e1, e2]
    have hes : (s.extract f' t').size ≤ s.size := by simp [ByteArray.size_extract]; omega
    clear HF HT HC
    have hlt' : ¬ (t' : Int) ≤ (f' : Int) := hlt
    have q1 : (f' : Int) ≤ (t' : Int) := hft
    have q2 : (t' : Int) ≤ (s.size : Int) := t1
    go_enter Tryz.func159, Tryz.ntmps159
    go_wp2
    go_quiet (fail)
    go_wp2_with fail
    refine (WriteString_any W0.heap.size b l (s.extract f' t') _ (Lib.Bld_drewN HB.out _) (by omega) (HW.out.size)).mono ?_
    rintro e w1 ⟨rfl, h1, hb⟩
    have H1 := Lib.hid h1
    have HB1 := Lib.hid (((Drawn.below (w := w) nq).mono HW.out.size).trans hb)
    clear h1 hb
    go_wp2
    go_returns
    exact ⟨rfl, by rw [hC]; exact H1.out, HB1.out⟩

/-- What slice does, of a tree that lay in W0. -/
def SliceTo (W0 : World) (b : Nat) (t : Tr) : Prop := ∀ (X : Nat) (i j : Int) (l : List UInt8) (w : World), IsTr W0 X t → t.text.size ≤ 4294967296 → (-1099511627776 ≤ i ∧ i ≤ 1099511627776) → (-1099511627776 ≤ j ∧ j ≤ 1099511627776) → Below W0.heap.size W0 w → Bld W0.heap.size b l w → l.length + t.text.size ≤ 1099511627776 →
    Calls Tryz.prog 159 #[ptr X, ptr b, .int .i64 i, .int .i64 j] w fun e w' => e = .returned (.tuple #[]) ∧ Bld W0.heap.size b (l ++ cutB t.text i j) w' ∧ Below W0.heap.size w w'

set_option maxRecDepth 100000 in
set_option maxHeartbeats 4000000 in
theorem slice_knot (W0 : World) (b : Nat) (tl tr : Tr) (ihl : SliceTo W0 b tl) (ihr : SliceTo W0 b tr) : SliceTo W0 b (.knot tl tr) := by
  intro X i j l w h hs hi hj hw hB hl
  obtain ⟨x, y, hx, hy, hLb⟩ := h
  have hL := hLb.lies
  simp only [Tr.text] at hs hl ⊢
  have hsz : (tl.text ++ tr.text).size = tl.text.size + tr.text.size := ByteArray.size_append
  have N := Lib.hid (Nd.of hL)
  have HL := Lib.hid hL
  have HX := Lib.hid hx
  have HY := Lib.hid hy
  have IL := Lib.hid ihl
  have IR := Lib.hid ihr
  have HB := Lib.hid hB
  have HW := Lib.hid hw
  have c0 := (N.out.below hw).l
  have c3 : w.cell? ⟨X, 3, none⟩ = some (.int .i64 (tl.text ++ tr.text).size) := ((hL.below hw).2 3 _ rfl).1
  obtain ⟨n, hn⟩ : ∃ n, (tl.text ++ tr.text).size = n := ⟨_, rfl⟩
  rw [hn] at c3 hsz hs hl
  have HN := Lib.hid hn
  have hsz1 : n ≤ tl.text.size + tr.text.size := by omega
  have hsz2 : tl.text.size + tr.text.size ≤ n := by omega
  clear hsz
  obtain ⟨f, hf⟩ : ∃ f, max i 0 = f := ⟨_, rfl⟩
  obtain ⟨t, ht⟩ : ∃ t, min j (n : Int) = t := ⟨_, rfl⟩
  obtain ⟨C, hC⟩ : ∃ C, cutB (tl.text ++ tr.text) i j = C := ⟨_, rfl⟩
  have HC := Lib.hid hC
  rw [hC]
  clear hx hy hL hw hB hC hn ihl ihr
  unfold ptr at *
  by_cases hlt : t ≤ f
  · have hC : C = [] := by rw [← HC.out, cutB_nil (by rw [HN.out]; omega)]
    subst hC
    rw [List.append_nil]
    go_enter Tryz.func159, Tryz.ntmps159
    go_wp2
    go_quiet (fail)
    go_wp2
    go_returns
    exact ⟨rfl, HB.out, (Drawn.below _).mono HW.out.size⟩
  · have hC : C = cutB tl.text f t ++ cutB tr.text (f - tl.text.size) (t - tl.text.size) := by
      rw [← HC.out, cutB_app _ _ _ _ (by rw [HN.out]; omega), HN.out, hf, ht]
    have HCC := Lib.hid hC
    have f0 : 0 ≤ f := by omega
    have t1 : t ≤ (n : Int) := by omega
    have t2 : f < 1099511627776 := by omega
    clear hC HC
    go_enter Tryz.func159, Tryz.ntmps159
    go_wp2
    go_quiet (fail)
    have e0 : (w.drewN nq).cell? ⟨X, 0, none⟩ = _ := c0
    go_wp2_with fail
    clear e0
    refine (IL.out x f t l _ HX.out (by omega) ⟨by omega, by omega⟩ ⟨by omega, by omega⟩ (HW.out.trans ((Drawn.below _).mono HW.out.size)) (Lib.Bld_drewN HB.out _) (by omega)).mono ?_
    rintro e w1 ⟨rfl, h1, hb⟩
    have HB1 := Lib.hid h1
    have HW1 := Lib.hid (HW.out.trans (((Drawn.below (w := w) nq).mono HW.out.size).trans hb))
    have HR1 := Lib.hid (((Drawn.below (w := w) nq).mono HW.out.size).trans hb)
    clear h1 hb c0 c3 HB
    have c0 := (N.out.below HW1.out).l
    have c1 := (N.out.below HW1.out).r
    have c3 := (HX.out.below HW1.out).sumBytes
    unfold ptr at c0 c1
    have hcl := cutB_length tl.text f t
    have a1 : IntKind.i64.wrap (f - (tl.text.size : Int)) = f - (tl.text.size : Int) := IntWalk.i64_in _ (by omega)
    have a2 : IntKind.i64.wrap (t - (tl.text.size : Int)) = t - (tl.text.size : Int) := IntWalk.i64_in _ (by omega)
    go_wp2
    go_still_tail 25, (by kernel_rfl)
    change wpList _ _ _ _ _ w1.drew
    have HB2 : Hid (Lib.IsBuilder 197 5 W0.heap.size b (Lib.byteCells (l ++ cutB tl.text f t)) w1.drew) := Lib.hid HB1.out
    have hd : Below w1.heap.size w1 w1.drew := ⟨rfl, rfl, rfl, Nat.le_refl _, fun _ _ => rfl⟩
    have HW2 := Lib.hid (HW1.out.trans (hd.mono HW1.out.size))
    have HR2 := Lib.hid (HR1.out.trans (hd.mono HW1.out.size))
    clear hd c0 c1 c3 a1 a2
    generalize w1.drew = w2 at *
    go_wp2_with fail
    refine (IR.out y (f - tl.text.size) (t - tl.text.size) (l ++ cutB tl.text f t) _ HY.out (by omega) ⟨by omega, by omega⟩ ⟨by omega, by omega⟩ HW2.out HB2.out (by rw [List.length_append]; omega)).mono ?_
    rintro e w3 ⟨rfl, h3, hb⟩
    have HB3 := Lib.hid h3
    have HR3 := Lib.hid (HR2.out.trans hb)
    clear h3 hb
    go_wp2
    go_end0
    refine ⟨rfl, ?_, HR3.out⟩
    rw [HCC.out, ← List.append_assoc]
    exact HB3.out
theorem slice_any (W0 : World) (b : Nat) : ∀ t : Tr, SliceTo W0 b t
  | .leaf s => fun X i j l w h hs hi hj hw hB hl => slice_leaf W0 s X b i j l w h hs hi hj hw hB hl
  | .knot l r => slice_knot W0 b l r (slice_any W0 b l) (slice_any W0 b r)
end Go.Proofs.YtgmpohdkignadaaGreatDoor.Ut
/-
  metric.Join where the first text is empty; rope: (*node).measure. Condition: the two tables of unicode/utf8 lie as laid.
-/
namespace Go.Proofs.YtgmpohdkignadaaGreatDoor.Ut
open Go.RowKit Go.Proofs.YtgmpohdkignadaaGreatDoor.Reg
set_option linter.unusedVariables false
set_option linter.unusedSimpArgs false

theorem measF_nil : measF ⟨#[]⟩ = zeroSm := rfl
theorem join_step (W : World) (g A : Nat) (m : Sm) (gs xs : List Value) (hg : Lies W g gs) (hA : Lies W A zero7) (hB : Lies W (A + 1) xs) (hx : xs.length = 7) (hgA : g < A) : ∃ W1, (W.setCells (A + 1) 0 m.cells7).alloc (.cells m.cells7.toArray 115) = W1 ∧ Lies W1 g gs ∧ Lies W1 A zero7 ∧ Lies W1 (A + 1) m.cells7 ∧ Chg (fun k => k = A + 1) W W1 ∧ W1.heap.size = W.heap.size + 1 := by
  have C := sets_chg (A + 1) m.cells7 0 W
  have hz : (W.setCells (A + 1) 0 m.cells7).heap.size = W.heap.size := by
    unfold Sm.cells7; simp only [World.setCells]; simp
  have D : Below (W.setCells (A + 1) 0 m.cells7).heap.size (W.setCells (A + 1) 0 m.cells7) ((W.setCells (A + 1) 0 m.cells7).alloc (.cells m.cells7.toArray 115)) := (Below.refl _ _).alloc (Nat.le_refl _) _
  refine ⟨_, rfl, (hg.chg C (by show ¬ g = A + 1; omega)).below D, (hA.chg C (by show ¬ A = A + 1; omega)).below D, ((hB.stored m.cells7 (by rw [hx]; rfl))).below D, C.then_below D, ?_⟩
  rw [← hz]; simp

set_option maxRecDepth 100000 in
set_option maxHeartbeats 4000000 in
theorem Join_two0 (b : ByteArray) (g : Nat) (w : World) (h : Lies w g (zero7 ++ (measF b).cells7)) : Calls Tryz.prog 99 #[.slice (some ⟨g, 0, none⟩) 2 2] w fun e w' => e = .returned (measF b).val ∧ Below w.heap.size w w' := by
  obtain ⟨n, hn⟩ : ∃ n, measF b = n := ⟨_, rfl⟩
  rw [hn] at h ⊢
  clear hn
  obtain ⟨W0, hW0, A0, B0, b0, hsz⟩ := boxesL2 w zero7 zero7 115 115
  have HE := Lib.hid hW0
  unfold zero7 at HE
  have G0 := h.below b0
  have hgl : g < w.heap.size := h.1
  have HB := Lib.hid b0
  have HS := Lib.hid hsz
  clear hW0 b0 h hsz
  unfold Sm.val
  go_enter Tryz.func99, Tryz.ntmps99
  go_wp2
  rw [HE.out]
  generalize hA : w.heap.size = A at *
  refine wp_loop_rounds 3 ?_
  rw [rounds_succ]
  have hgl0 : g < W0.heap.size := G0.1
  have hBl0 : A + 1 < W0.heap.size := B0.1
  obtain ⟨g0x, -⟩ := G0.2 0 _ rfl
  obtain ⟨g1x, -⟩ := G0.2 1 _ rfl
  obtain ⟨g2x, -⟩ := G0.2 2 _ rfl
  obtain ⟨g3x, -⟩ := G0.2 3 _ rfl
  obtain ⟨g4x, -⟩ := G0.2 4 _ rfl
  obtain ⟨g5x, -⟩ := G0.2 5 _ rfl
  obtain ⟨g6x, -⟩ := G0.2 6 _ rfl
  obtain ⟨g7x, -⟩ := G0.2 7 _ rfl
  obtain ⟨g8x, -⟩ := G0.2 8 _ rfl
  obtain ⟨g9x, -⟩ := G0.2 9 _ rfl
  obtain ⟨g10x, -⟩ := G0.2 10 _ rfl
  obtain ⟨g11x, -⟩ := G0.2 11 _ rfl
  obtain ⟨g12x, -⟩ := G0.2 12 _ rfl
  obtain ⟨g13x, -⟩ := G0.2 13 _ rfl
  obtain ⟨b0x, f0x⟩ := B0.2 0 _ rfl
  obtain ⟨b1x, f1x⟩ := B0.2 1 _ rfl
  obtain ⟨b2x, f2x⟩ := B0.2 2 _ rfl
  obtain ⟨b3x, f3x⟩ := B0.2 3 _ rfl
  obtain ⟨b4x, f4x⟩ := B0.2 4 _ rfl
  obtain ⟨b5x, f5x⟩ := B0.2 5 _ rfl
  obtain ⟨b6x, f6x⟩ := B0.2 6 _ rfl
  obtain ⟨W1, hW1, G1, A1, B1, C1, hs1⟩ := join_step W0 g A zeroSm _ _ G0 A0 B0 rfl hgl
  have HG1 := Lib.hid G1
  have HA1 := Lib.hid A1
  have HB1 := Lib.hid B1
  have HC1 := Lib.hid C1
  simp only [World.setCells, Sm.cells7, zeroSm] at hW1
  have HE1 := Lib.hid hW1
  have HS1 := Lib.hid hs1
  clear G0 A0 B0 G1 A1 B1 C1 hW1 hs1
  go_wp2
  rw [HE1.out]
  clear hgl0 hBl0 g0x g1x g2x g3x g4x g5x g6x g7x g8x g9x g10x g11x g12x g13x b0x f0x b1x f1x b2x f2x b3x f3x b4x f4x b5x f5x b6x f6x
  have G1 := HG1.out
  have A1 := HA1.out
  have B1 : Lies W1 (A + 1) zero7 := HB1.out
  rw [rounds_succ]
  have hgl1 : g < W1.heap.size := G1.1
  have hBl1 : A + 1 < W1.heap.size := B1.1
  obtain ⟨g0x, -⟩ := G1.2 0 _ rfl
  obtain ⟨g1x, -⟩ := G1.2 1 _ rfl
  obtain ⟨g2x, -⟩ := G1.2 2 _ rfl
  obtain ⟨g3x, -⟩ := G1.2 3 _ rfl
  obtain ⟨g4x, -⟩ := G1.2 4 _ rfl
  obtain ⟨g5x, -⟩ := G1.2 5 _ rfl
  obtain ⟨g6x, -⟩ := G1.2 6 _ rfl
  obtain ⟨g7x, -⟩ := G1.2 7 _ rfl
  obtain ⟨g8x, -⟩ := G1.2 8 _ rfl
  obtain ⟨g9x, -⟩ := G1.2 9 _ rfl
  obtain ⟨g10x, -⟩ := G1.2 10 _ rfl
  obtain ⟨g11x, -⟩ := G1.2 11 _ rfl
  obtain ⟨g12x, -⟩ := G1.2 12 _ rfl
  obtain ⟨g13x, -⟩ := G1.2 13 _ rfl
  obtain ⟨b0x, f0x⟩ := B1.2 0 _ rfl
  obtain ⟨b1x, f1x⟩ := B1.2 1 _ rfl
  obtain ⟨b2x, f2x⟩ := B1.2 2 _ rfl
  obtain ⟨b3x, f3x⟩ := B1.2 3 _ rfl
  obtain ⟨b4x, f4x⟩ := B1.2 4 _ rfl
  obtain ⟨b5x, f5x⟩ := B1.2 5 _ rfl
  obtain ⟨b6x, f6x⟩ := B1.2 6 _ rfl
  obtain ⟨W2, hW2, G2, A2, B2, C2, hs2⟩ := join_step W1 g A n _ _ G1 A1 B1 rfl hgl
  have HG2 := Lib.hid G2
  have HA2 := Lib.hid A2
  have HB2 := Lib.hid B2
  have HC2 := Lib.hid C2
  simp only [World.setCells, Sm.cells7] at hW2
  have HE2 := Lib.hid hW2
  have HS2 := Lib.hid hs2
  clear G1 A1 B1 G2 A2 B2 C2 hW2 hs2
  go_wp2
  rw [HE2.out]
  clear hgl1 hBl1 g0x g1x g2x g3x g4x g5x g6x g7x g8x g9x g10x g11x g12x g13x b0x f0x b1x f1x b2x f2x b3x f3x b4x f4x b5x f5x b6x f6x
  have G2 := HG2.out
  have A2 := HA2.out
  have B2 : Lies W2 (A + 1) n.cells7 := HB2.out
  have L := Lib.hid (A2.stored n.cells7 rfl).2
  have D4 := sets_chg A n.cells7 0 W2
  have BL : Below A w (W2.setCells A 0 n.cells7) :=
    ((((Chg.of_below (S := fun k => A ≤ k) (by rw [hA]; exact HB.out)).trans HC1.out (fun x _ h => by have : x = A + 1 := h; omega)).trans HC2.out (fun x _ h => by have : x = A + 1 := h; omega)).trans D4 (fun x _ h => by have : x = A := h; omega)).below_le (by omega) (fun _ h => h)
  have HBL := Lib.hid BL
  have hBl : A + 1 < W2.heap.size := B2.1
  obtain ⟨r0, s0⟩ := A2.2 0 _ rfl
  obtain ⟨r1, s1⟩ := A2.2 1 _ rfl
  obtain ⟨r2, s2⟩ := A2.2 2 _ rfl
  obtain ⟨r3, s3⟩ := A2.2 3 _ rfl
  obtain ⟨r4, s4⟩ := A2.2 4 _ rfl
  obtain ⟨r5, s5⟩ := A2.2 5 _ rfl
  obtain ⟨r6, s6⟩ := A2.2 6 _ rfl
  obtain ⟨t0, -⟩ := B2.2 0 _ rfl
  obtain ⟨t1, -⟩ := B2.2 1 _ rfl
  obtain ⟨t2, -⟩ := B2.2 2 _ rfl
  obtain ⟨t3, -⟩ := B2.2 3 _ rfl
  obtain ⟨t4, -⟩ := B2.2 4 _ rfl
  obtain ⟨t5, -⟩ := B2.2 5 _ rfl
  obtain ⟨t6, -⟩ := B2.2 6 _ rfl
  clear G2 A2 B2 D4 BL HB HS HE HG1 HA1 HB1 HC1 HE1 HS1 HG2 HA2 HB2 HC2 HE2 HS2
  rw [rounds_succ]
  go_wp2
  have j0 := (L.out 0 _ rfl).1
  have j1 := (L.out 1 _ rfl).1
  have j2 := (L.out 2 _ rfl).1
  have j3 := (L.out 3 _ rfl).1
  have j4 := (L.out 4 _ rfl).1
  have j5 := (L.out 5 _ rfl).1
  have j6 := (L.out 6 _ rfl).1
  simp only [Sm.cells7, World.setCells] at j0 j1 j2 j3 j4 j5 j6
  refine bodyPost_ret (v := n.val) (by simp [results, Tryz.results99, go_sem, j0, j1, j2, j3, j4, j5, j6, Sm.val]) rfl ⟨rfl, by first | exact HBL.out | (rw [hA]; exact HBL.out)⟩
theorem Join_all (a b : ByteArray) (g : Nat) (w : World) (hT : Tabs w) (ha : a.size + b.size ≤ 4294967296) (h : Lies w g ((measF a).cells7 ++ (measF b).cells7)) : Calls Tryz.prog 99 #[.slice (some ⟨g, 0, none⟩) 2 2] w fun e w' => e = .returned (measF (a ++ b)).val ∧ Below w.heap.size w w' := by
  by_cases h0 : 0 < a.size
  · exact Join_two a b g w hT h0 ha h
  · have : a = ⟨#[]⟩ := by
      apply ext_of_list
      exact List.eq_nil_of_length_eq_zero (by rw [← Lib.size_eq]; omega)
    subst this
    have e : (⟨#[]⟩ : ByteArray) ++ b = b := by apply ext_of_list; rw [app_list]; rfl
    rw [e]
    exact Join_two0 b g w h
end Go.Proofs.YtgmpohdkignadaaGreatDoor.Ut
/-
  rope: (*node).measure. Condition: the two tables of unicode/utf8 lie as laid.
-/
namespace Go.Proofs.YtgmpohdkignadaaGreatDoor.Ut
open Go.RowKit Go.Proofs.YtgmpohdkignadaaGreatDoor.Reg
set_option linter.unusedVariables false
set_option linter.unusedSimpArgs false

def cutS (s : ByteArray) (i j : Int) : ByteArray := ⟨(cutB s i j).toArray⟩
theorem cutS_list (s : ByteArray) (i j : Int) : (cutS s i j).data.toList = cutB s i j := rfl
theorem cutS_size (s : ByteArray) (i j : Int) : (cutS s i j).size ≤ s.size := by
  have := cutB_length s i j
  rw [Lib.size_eq, cutS_list]; exact this
theorem cutS_nil {s : ByteArray} {i j : Int} (h : min j s.size ≤ max i 0) : cutS s i j = ⟨#[]⟩ := by
  apply ext_of_list; rw [cutS_list, cutB_nil h]
theorem cutS_all {s : ByteArray} {i j : Int} (h1 : max i 0 = 0) (h2 : min j (s.size : Int) = s.size) : cutS s i j = s := by
  apply ext_of_list; rw [cutS_list]; unfold cutB
  rw [h1, h2]
  simp only [Int.toNat_zero, List.drop_zero, Int.toNat_natCast, Nat.sub_zero]
  exact List.take_of_length_le (by rw [← Lib.size_eq]; exact Nat.le_refl _)
theorem cutS_extract {s : ByteArray} {i j : Int} {f t : Nat} (h1 : max i 0 = (f : Int)) (h2 : min j (s.size : Int) = (t : Int)) : cutS s i j = s.extract f t := by
  apply ext_of_list; rw [cutS_list, extract_list]; unfold cutB
  rw [h1, h2]; simp only [Int.toNat_natCast]
theorem cutS_app (a b : ByteArray) (i j : Int) (h : max i 0 < min j ((a ++ b).size : Int)) : cutS (a ++ b) i j = cutS a (max i 0) (min j ((a ++ b).size : Int)) ++ cutS b (max i 0 - a.size) (min j ((a ++ b).size : Int) - a.size) := by
  apply ext_of_list; rw [app_list, cutS_list, cutS_list, cutS_list, cutB_app _ _ _ _ h]
theorem boxL1 (w : World) (a : List Value) (t : TypeId) : ∃ W0, w.alloc (.cells a.toArray t) = W0 ∧ Lies W0 w.heap.size a ∧ Below w.heap.size w W0 ∧ W0.heap.size = w.heap.size + 1 :=
  ⟨_, rfl, Lies.new w a t, (Below.refl _ _).alloc (Nat.le_refl _) _, by simp⟩

/-- What measure answers of a tree. -/
def MeasTo (t : Tr) : Prop := ∀ (X : Nat) (i j : Int) (w : World), Tabs w → IsTr w X t → t.text.size ≤ 4294967296 → (-1099511627776 ≤ i ∧ i ≤ 1099511627776) → (-1099511627776 ≤ j ∧ j ≤ 1099511627776) →
    Calls Tryz.prog 158 #[ptr X, .int .i64 i, .int .i64 j] w fun e w' => e = .returned (measF (cutS t.text i j)).val ∧ Below w.heap.size w w'
set_option maxRecDepth 100000 in
set_option maxHeartbeats 4000000 in
theorem meas_nil (t : Tr) (X : Nat) (i j : Int) (w : World) (hT : Tabs w) (h : IsTr w X t) (hs : t.text.size ≤ 4294967296) (hlt : min j (t.text.size : Int) ≤ max i 0) :
    Calls Tryz.prog 158 #[ptr X, .int .i64 i, .int .i64 j] w fun e w' => e = .returned (measF (cutS t.text i j)).val ∧ Below w.heap.size w w' := by
  obtain ⟨lv, rv, sv, hL⟩ := h.node
  obtain ⟨W0, hW0, A0, b0, hsz⟩ := boxL1 w zero7 115
  have HE := Lib.hid hW0
  unfold zero7 at HE
  have HR := Lib.hid A0
  have HB := Lib.hid b0
  have HS := Lib.hid hsz
  have HT := Lib.hid (tabs_below hT b0)
  have HL := Lib.hid (hL.below b0)
  have c3 : W0.cell? ⟨X, 3, none⟩ = some (.int .i64 t.text.size) := (HL.out.2 3 _ rfl).1
  have c0 := (HL.out.2 0 _ rfl).1
  have hXl := hL.1
  rw [cutS_nil hlt, measF_nil]
  obtain ⟨n, hn⟩ : ∃ n, t.text.size = n := ⟨_, rfl⟩
  rw [hn] at c3 hlt hs
  obtain ⟨f, hf⟩ : ∃ f, max i 0 = f := ⟨_, rfl⟩
  obtain ⟨u, hu⟩ : ∃ u, min j (n : Int) = u := ⟨_, rfl⟩
  rw [hf, hu] at hlt
  clear hW0 A0 b0 hsz hT h hL hn
  unfold ptr
  go_enter Tryz.func158, Tryz.ntmps158
  go_wp2
  rw [HE.out]
  go_quiet (fail)
  clear c3 c0
  have hD := Drawn.below (w := W0) nq
  have HL := Lib.hid (HL.out.below hD)
  have HR := Lib.hid (HR.out.below hD)
  have HT := Lib.hid (tabs_below HT.out hD)
  have HB := Lib.hid (HB.out.trans (hD.mono HB.out.size))
  clear hD
  obtain ⟨W1, hW⟩ : ∃ W, W0.drewN nq = W := ⟨_, rfl⟩
  rw [hW] at HL HR HT HB
  rw [hW]
  clear hW
  have L := Lib.hid (HR.out.stored zero7 rfl).2
  have D4 := sets_chg w.heap.size zero7 0 W1
  have BL : Below w.heap.size w (W1.setCells w.heap.size 0 zero7) :=
    ((Chg.of_below (S := fun k => w.heap.size ≤ k) HB.out).trans D4 (fun x _ h => by have : x = w.heap.size := h; omega)).below_le (by omega) (fun _ h => h)
  have HBL := Lib.hid BL
  obtain ⟨r0, s0⟩ := HR.out.2 0 _ rfl
  obtain ⟨r1, s1⟩ := HR.out.2 1 _ rfl
  obtain ⟨r2, s2⟩ := HR.out.2 2 _ rfl
  obtain ⟨r3, s3⟩ := HR.out.2 3 _ rfl
  obtain ⟨r4, s4⟩ := HR.out.2 4 _ rfl
  obtain ⟨r5, s5⟩ := HR.out.2 5 _ rfl
  obtain ⟨r6, s6⟩ := HR.out.2 6 _ rfl
  clear D4 BL
  go_wp2
  have j0 := (L.out 0 _ rfl).1
  have j1 := (L.out 1 _ rfl).1
  have j2 := (L.out 2 _ rfl).1
  have j3 := (L.out 3 _ rfl).1
  have j4 := (L.out 4 _ rfl).1
  have j5 := (L.out 5 _ rfl).1
  have j6 := (L.out 6 _ rfl).1
  simp only [Sm.cells7, zero7, World.setCells] at j0 j1 j2 j3 j4 j5 j6
  refine bodyPost_ret (v := zeroSm.val) (by simp [results, Tryz.results158, go_sem, j0, j1, j2, j3, j4, j5, j6, Sm.val, zeroSm]) rfl ⟨rfl, HBL.out⟩

set_option maxRecDepth 100000 in
set_option maxHeartbeats 4000000 in
theorem meas_all (t : Tr) (X : Nat) (i j : Int) (w : World) (hT : Tabs w) (h : IsTr w X t) (hs : t.text.size ≤ 4294967296) (hf : max i 0 = 0) (hu : min j (t.text.size : Int) = t.text.size) (h0 : 0 < t.text.size) :
    Calls Tryz.prog 158 #[ptr X, .int .i64 i, .int .i64 j] w fun e w' => e = .returned (measF (cutS t.text i j)).val ∧ Below w.heap.size w w' := by
  obtain ⟨lv, rv, sv, hL⟩ := h.node
  obtain ⟨W0, hW0, A0, b0, hsz⟩ := boxL1 w zero7 115
  have HE := Lib.hid hW0
  unfold zero7 at HE
  have HR := Lib.hid A0
  have HB := Lib.hid b0
  have HS := Lib.hid hsz
  have HT := Lib.hid (tabs_below hT b0)
  have HL := Lib.hid (hL.below b0)
  have c3 : W0.cell? ⟨X, 3, none⟩ = some (.int .i64 t.text.size) := (HL.out.2 3 _ rfl).1
  have c0 := (HL.out.2 0 _ rfl).1
  have hXl := hL.1
  rw [cutS_all hf hu]
  have hlt : ¬ (measF t.text).bytes ≤ 0 := by show ¬ (t.text.size : Int) ≤ 0; omega
  have hq : ((measF t.text).bytes == (measF t.text).bytes) = true := by simp
  have hu' : min j (measF t.text).bytes = (measF t.text).bytes := hu
  replace c3 : W0.cell? ⟨X, 3, none⟩ = some (.int .i64 (measF t.text).bytes) := c3
  obtain ⟨m, hm⟩ : ∃ m, measF t.text = m := ⟨_, rfl⟩
  rw [hm] at HL hlt hq hu' c3
  rw [hm]
  clear hm hu h0 hs
  clear hW0 A0 b0 hsz hT h hL
  unfold ptr
  go_enter Tryz.func158, Tryz.ntmps158
  go_wp2
  rw [HE.out]
  go_quiet (fail)
  clear c3 c0
  have hD := Drawn.below (w := W0) nq
  have HL := Lib.hid (HL.out.below hD)
  have HR := Lib.hid (HR.out.below hD)
  have HT := Lib.hid (tabs_below HT.out hD)
  have HB := Lib.hid (HB.out.trans (hD.mono HB.out.size))
  clear hD
  obtain ⟨W1, hW⟩ : ∃ W, W0.drewN nq = W := ⟨_, rfl⟩
  rw [hW] at HL HR HT HB
  rw [hW]
  clear hW
  obtain ⟨q2, q3, q4, q5, q6, q7, q8, q9⟩ := nodeSum HL.out
  have L := Lib.hid (HR.out.stored m.cells7 rfl).2
  have D4 := sets_chg w.heap.size m.cells7 0 W1
  have BL : Below w.heap.size w (W1.setCells w.heap.size 0 m.cells7) :=
    ((Chg.of_below (S := fun k => w.heap.size ≤ k) HB.out).trans D4 (fun x _ h => by have : x = w.heap.size := h; omega)).below_le (by omega) (fun _ h => h)
  have HBL := Lib.hid BL
  obtain ⟨r0, s0⟩ := HR.out.2 0 _ rfl
  obtain ⟨r1, s1⟩ := HR.out.2 1 _ rfl
  obtain ⟨r2, s2⟩ := HR.out.2 2 _ rfl
  obtain ⟨r3, s3⟩ := HR.out.2 3 _ rfl
  obtain ⟨r4, s4⟩ := HR.out.2 4 _ rfl
  obtain ⟨r5, s5⟩ := HR.out.2 5 _ rfl
  obtain ⟨r6, s6⟩ := HR.out.2 6 _ rfl
  clear D4 BL
  go_wp2
  have j0 := (L.out 0 _ rfl).1
  have j1 := (L.out 1 _ rfl).1
  have j2 := (L.out 2 _ rfl).1
  have j3 := (L.out 3 _ rfl).1
  have j4 := (L.out 4 _ rfl).1
  have j5 := (L.out 5 _ rfl).1
  have j6 := (L.out 6 _ rfl).1
  simp only [Sm.cells7, zero7, World.setCells] at j0 j1 j2 j3 j4 j5 j6
  refine bodyPost_ret (v := m.val) (by simp [results, Tryz.results158, go_sem, j0, j1, j2, j3, j4, j5, j6, Sm.val, zeroSm]) rfl ⟨rfl, HBL.out⟩

set_option maxRecDepth 100000 in
set_option maxHeartbeats 4000000 in
theorem meas_leaf (s : ByteArray) (X : Nat) (i j : Int) (w : World) (hT : Tabs w) (h : IsTr w X (.leaf s)) (hs : s.size ≤ 4294967296) (hlt : max i 0 < min j (s.size : Int)) (hne : ¬ (max i 0 = 0 ∧ min j (s.size : Int) = s.size)) :
    Calls Tryz.prog 158 #[ptr X, .int .i64 i, .int .i64 j] w fun e w' => e = .returned (measF (cutS s i j)).val ∧ Below w.heap.size w w' := by
  have hL : Lies w X (nodeV (.pointer none) (.pointer none) 0 (measF s) s) := Blk.lies h
  obtain ⟨W0, hW0, A0, b0, hsz⟩ := boxL1 w zero7 115
  have HE := Lib.hid hW0
  unfold zero7 at HE
  have HR := Lib.hid A0
  have HB := Lib.hid b0
  have HT := Lib.hid (tabs_below hT b0)
  have HL := Lib.hid (hL.below b0)
  have c3 : W0.cell? ⟨X, 3, none⟩ = some (.int .i64 s.size) := (HL.out.2 3 _ rfl).1
  obtain ⟨f, hf⟩ : ∃ f, max i 0 = f := ⟨_, rfl⟩
  obtain ⟨u, hu⟩ : ∃ u, min j (s.size : Int) = u := ⟨_, rfl⟩
  rw [hf, hu] at hlt hne
  have f0 : 0 ≤ f := by omega
  have t1 : u ≤ (s.size : Int) := by omega
  obtain ⟨f', rfl⟩ : ∃ f' : Nat, f = f' := ⟨f.toNat, by omega⟩
  obtain ⟨u', rfl⟩ : ∃ u' : Nat, u = u' := ⟨u.toNat, by omega⟩
  rw [cutS_extract hf hu]
  have q1 : (f' : Int) ≤ (u' : Int) := by omega
  have q2 : (u' : Int) ≤ (s.size : Int) := t1
  have hlt' : ¬ (u' : Int) ≤ (f' : Int) := by omega
  have hes : (s.extract f' u').size ≤ s.size := by simp [ByteArray.size_extract]; omega
  have hxl : X < w.heap.size := hL.1
  obtain ⟨E, hE⟩ : ∃ E, s.extract f' u' = E := ⟨_, rfl⟩
  rw [hE]
  have HEE := Lib.hid hE
  rw [hE] at hes
  clear hW0 A0 b0 hsz hT h hL hE
  unfold ptr
  rcases (by omega : ((f' : Int) = 0 ∧ (u' : Int) ≠ (s.size : Int)) ∨ (f' : Int) ≠ 0) with hc | hc
  all_goals
    have hq : ((f' : Int) == 0) = decide ((f' : Int) = 0) := rfl
    have hqu : ((u' : Int) == (s.size : Int)) = decide ((u' : Int) = (s.size : Int)) := rfl
    first
      | rw [decide_eq_true hc.1] at hq; rw [decide_eq_false hc.2] at hqu
      | rw [decide_eq_false hc] at hq; clear hqu
    clear hc hne
    go_enter Tryz.func158, Tryz.ntmps158
    go_wp2
    rw [HE.out]
    go_quiet (fail)
    clear c3
    have hD := Drawn.below (w := W0) nq
    have HL := Lib.hid (HL.out.below hD)
    have HR := Lib.hid (HR.out.below hD)
    have HT := Lib.hid (tabs_below HT.out hD)
    have HB := Lib.hid (HB.out.trans (hD.mono HB.out.size))
    clear hD
    obtain ⟨W1, hW⟩ : ∃ W, W0.drewN nq = W := ⟨_, rfl⟩
    rw [hW] at HL HR HT HB
    rw [hW]
    clear hW
    have c0 := (HL.out.2 0 _ rfl).1
    have c3 : W1.cell? ⟨X, 3, none⟩ = some (.int .i64 s.size) := (HL.out.2 3 _ rfl).1
    have c10 := (HL.out.2 10 _ rfl).1
    go_wp2_with fail
    have hEE := HEE.out
    rw [hEE]
    clear hEE
    refine (Measure_any E W1 HT.out (by omega)).mono ?_
    rintro e W2 ⟨rfl, hb⟩
    obtain ⟨m, hm⟩ : ∃ m, measF E = m := ⟨_, rfl⟩
    rw [hm]
    have HM := Lib.hid hm
    have HR := Lib.hid (HR.out.below hb)
    have HB := Lib.hid (HB.out.trans (hb.mono HB.out.size))
    clear hb
    clear c0 c3 c10 hm
    unfold Sm.val
    have L := Lib.hid (HR.out.stored m.cells7 rfl).2
    have D4 := sets_chg w.heap.size m.cells7 0 W2
    have BL : Below w.heap.size w (W2.setCells w.heap.size 0 m.cells7) :=
      ((Chg.of_below (S := fun k => w.heap.size ≤ k) HB.out).trans D4 (fun x _ h => by have : x = w.heap.size := h; omega)).below_le (by omega) (fun _ h => h)
    have HBL := Lib.hid BL
    obtain ⟨r0, s0⟩ := HR.out.2 0 _ rfl
    obtain ⟨r1, s1⟩ := HR.out.2 1 _ rfl
    obtain ⟨r2, s2⟩ := HR.out.2 2 _ rfl
    obtain ⟨r3, s3⟩ := HR.out.2 3 _ rfl
    obtain ⟨r4, s4⟩ := HR.out.2 4 _ rfl
    obtain ⟨r5, s5⟩ := HR.out.2 5 _ rfl
    obtain ⟨r6, s6⟩ := HR.out.2 6 _ rfl
    clear D4 BL
    go_wp2
    have j0 := (L.out 0 _ rfl).1
    have j1 := (L.out 1 _ rfl).1
    have j2 := (L.out 2 _ rfl).1
    have j3 := (L.out 3 _ rfl).1
    have j4 := (L.out 4 _ rfl).1
    have j5 := (L.out 5 _ rfl).1
    have j6 := (L.out 6 _ rfl).1
    simp only [Sm.cells7, zero7, World.setCells] at j0 j1 j2 j3 j4 j5 j6
    refine bodyPost_ret (v := m.val) (by simp [results, Tryz.results158, go_sem, j0, j1, j2, j3, j4, j5, j6, Sm.val, zeroSm]) rfl ⟨by rw [← HM.out], HBL.out⟩
def VMeas (X k1 k2 A : Nat) (f u k : Int) (a b m : Sm) : Nat → Value → World → Prop := fun d x w => match d with
  | 60 => x = .pointer (some ⟨X, 0, none⟩)
  | 61 => x = .pointer (some ⟨X, 0, none⟩)
  | 62 => x = .pointer (some ⟨X, 0, none⟩)
  | 63 => x = .pointer (some ⟨k1, 0, none⟩)
  | 64 => x = .int .i64 f
  | 65 => x = .int .i64 u
  | 66 => x = .agg #[.int .i64 a.bytes, .int .i64 a.units, .int .i64 a.clusters, .int .i64 a.cells, .int .i64 a.newlines, .string a.head, .string a.tail]
  | 67 => x = .pointer (some ⟨X, 0, none⟩)
  | 68 => x = .pointer (some ⟨X, 0, none⟩)
  | 69 => x = .pointer (some ⟨X, 1, none⟩)
  | 70 => x = .pointer (some ⟨k2, 0, none⟩)
  | 71 => x = .int .i64 f
  | 72 => x = .int .i64 k
  | 73 => x = .int .i64 (f - k)
  | 74 => x = .int .i64 u
  | 75 => x = .int .i64 k
  | 76 => x = .int .i64 (u - k)
  | 77 => x = .agg #[.int .i64 b.bytes, .int .i64 b.units, .int .i64 b.clusters, .int .i64 b.cells, .int .i64 b.newlines, .string b.head, .string b.tail]
  | 78 => ∃ g, x = .slice (some ⟨g, 0, none⟩) 2 2 ∧ Lies w g (a.cells7 ++ b.cells7)
  | 79 => x = .agg #[.int .i64 m.bytes, .int .i64 m.units, .int .i64 m.clusters, .int .i64 m.cells, .int .i64 m.newlines, .string m.head, .string m.tail]
  | _ => True
theorem VMeas_mono (X k1 k2 A : Nat) (f u k : Int) (a b m : Sm) : ∀ d x w w', VMeas X k1 k2 A f u k a b m d x w → Below w.heap.size w w' → VMeas X k1 k2 A f u k a b m d x w' := by
  intro d x w w' h hb
  unfold VMeas at *
  split <;> first | exact h | exact trivial | skip
  all_goals (obtain ⟨g, h1, h2⟩ := h; exact ⟨g, h1, h2.below hb⟩)
theorem ptr_eq (b : Nat) : ptr b = .pointer (some ⟨b, 0, none⟩) := rfl
set_option maxRecDepth 100000 in
set_option maxHeartbeats 4000000 in
theorem meas_knot (tl tr : Tr) (ihl : MeasTo tl) (ihr : MeasTo tr) (X x y : Nat) (i j : Int) (w : World) (hT : Tabs w) (hx : IsTr w x tl) (hy : IsTr w y tr) (hL : Lies w X (nodeV (ptr x) (ptr y) ((Tr.knot tl tr).ht : Nat) (measF (tl.text ++ tr.text)) ⟨#[]⟩)) (hs : (tl.text ++ tr.text).size ≤ 4294967296) (hlt : max i 0 < min j ((tl.text ++ tr.text).size : Int)) (hne : ¬ (max i 0 = 0 ∧ min j ((tl.text ++ tr.text).size : Int) = (tl.text ++ tr.text).size)) :
    Calls Tryz.prog 158 #[ptr X, .int .i64 i, .int .i64 j] w fun e w' => e = .returned (measF (cutS (tl.text ++ tr.text) i j)).val ∧ Below w.heap.size w w' := by
  obtain ⟨W0, hW0, A0, b0, hsz⟩ := boxL1 w zero7 115
  have HE := Lib.hid hW0
  unfold zero7 at HE
  have HR := Lib.hid A0
  have HB := Lib.hid b0
  have HT := Lib.hid (tabs_below hT b0)
  have HL := Lib.hid (hL.below b0)
  have HX := Lib.hid (hx.below b0)
  have HY := Lib.hid (hy.below b0)
  have IL := Lib.hid ihl
  have IR := Lib.hid ihr
  have happ := cutS_app tl.text tr.text i j hlt
  have hss : (tl.text ++ tr.text).size = tl.text.size + tr.text.size := ByteArray.size_append
  have c3 : W0.cell? ⟨X, 3, none⟩ = some (.int .i64 (tl.text ++ tr.text).size) := (HL.out.2 3 _ rfl).1
  obtain ⟨n, hn⟩ : ∃ n, (tl.text ++ tr.text).size = n := ⟨_, rfl⟩
  have HN := Lib.hid hn
  rw [hn] at c3 hlt hne happ hs hss
  obtain ⟨f, hf⟩ : ∃ f, max i 0 = f := ⟨_, rfl⟩
  obtain ⟨u, hu⟩ : ∃ u, min j (n : Int) = u := ⟨_, rfl⟩
  rw [hf, hu] at hlt hne happ
  rw [happ]
  have f0 : 0 ≤ f := by omega
  have t1 : u ≤ (n : Int) := by omega
  have hlt' : ¬ u ≤ f := by omega
  have hz1 : tl.text.size ≤ 4294967296 := by omega
  have hz2 : tr.text.size ≤ 4294967296 := by omega
  have hu2 : u ≤ 4294967296 := by omega
  have hf2 : f ≤ 4294967296 := by omega
  have z1 := cutS_size tl.text f u
  have z2 := cutS_size tr.text (f - tl.text.size) (u - tl.text.size)
  have hJ : (cutS tl.text f u).size + (cutS tr.text (f - tl.text.size) (u - tl.text.size)).size ≤ 4294967296 := by omega
  have IL2 := Lib.hid (fun W hT hX => IL.out x f u W hT hX hz1 ⟨by omega, by omega⟩ ⟨by omega, by omega⟩)
  have IR2 := Lib.hid (fun W hT hX => IR.out y (f - tl.text.size) (u - tl.text.size) W hT hX hz2 ⟨by omega, by omega⟩ ⟨by omega, by omega⟩)
  obtain ⟨ta, hta⟩ : ∃ ta, cutS tl.text f u = ta := ⟨_, rfl⟩
  obtain ⟨tb, htb⟩ : ∃ tb, cutS tr.text (f - tl.text.size) (u - tl.text.size) = tb := ⟨_, rfl⟩
  rw [hta] at IL2 hJ
  rw [htb] at IR2 hJ
  rw [hta, htb]
  obtain ⟨m, hm⟩ : ∃ m, measF (ta ++ tb) = m := ⟨_, rfl⟩
  have HM := Lib.hid hm
  rw [hm]
  obtain ⟨a, ha⟩ : ∃ a, measF ta = a := ⟨_, rfl⟩
  obtain ⟨b, hb⟩ : ∃ b, measF tb = b := ⟨_, rfl⟩
  rw [ha] at IL2
  rw [hb] at IR2
  have HAa := Lib.hid ha
  have HBb := Lib.hid hb
  obtain ⟨k, hk⟩ : ∃ k : Int, (tl.text.size : Int) = k := ⟨_, rfl⟩
  rw [hk] at IR2
  have HK := Lib.hid hk
  have k0 : 0 ≤ k := by omega
  have k1 : k ≤ 4294967296 := by omega
  have hxl : X < w.heap.size := hL.1
  clear hW0 A0 b0 hsz hT hL hn hx hy ihl ihr IL IR happ hta htb hm ha hb z1 z2 hz1 hz2 hss hk
  rcases (by omega : (f = 0 ∧ u ≠ (n : Int)) ∨ f ≠ 0) with hc | hc
  all_goals
    have hq : (f == 0) = decide (f = 0) := rfl
    have hqu : (u == (n : Int)) = decide (u = (n : Int)) := rfl
    first
      | rw [decide_eq_true hc.1] at hq; rw [decide_eq_false hc.2] at hqu
      | rw [decide_eq_false hc] at hq; clear hqu
    clear hc hne
    unfold ptr
    go_enter Tryz.func158, Tryz.ntmps158
    go_wp2
    rw [HE.out]
    go_quiet (fail)
    clear c3
    have hD := Drawn.below (w := W0) nq
    have HL := Lib.hid (HL.out.below hD)
    have HR := Lib.hid (HR.out.below hD)
    have HX := Lib.hid (HX.out.below hD)
    have HY := Lib.hid (HY.out.below hD)
    have HT := Lib.hid (tabs_below HT.out hD)
    have HB := Lib.hid (HB.out.trans (hD.mono HB.out.size))
    clear hD
    obtain ⟨W1, hW⟩ : ∃ W, W0.drewN nq = W := ⟨_, rfl⟩
    rw [hW] at HL HR HX HY HT HB
    rw [hW]
    clear hW
    have c0 := (HL.out.2 0 _ rfl).1
    have c3 : W1.cell? ⟨X, 3, none⟩ = some (.int .i64 (tl.text ++ tr.text).size) := (HL.out.2 3 _ rfl).1
    rw [HN.out] at c3
    have d3 := HX.out.sumBytes
    rw [ptr_eq] at c0
    rw [HK.out] at d3
    go_wp2
    clear c0 c3 d3
    have e73 : IntKind.i64.wrap (f - k) = f - k := IntWalk.i64_in _ (by omega)
    have e76 : IntKind.i64.wrap (u - k) = u - k := IntWalk.i64_in _ (by omega)
    have E73 := Lib.hid e73
    have E76 := Lib.hid e76
    clear e73 e76
    have hX := HL.out.1
    refine wp_held_far mixed (VMeas X x y w.heap.size f u k a b m) (VMeas_mono _ _ _ _ _ _ _ _ _ _) (by kernel_rfl) [60, 61, 62, 63, 64, 65, 66, 67, 68, 69, 70, 71, 72, 73, 74, 75, 76, 77, 78, 79] (by kernel_rfl) 20 (by kernel_rfl) (by kernel_rfl) (by kernel_rfl) (by kernel_rfl) ?_ ?_
    · intro j hj
      have hj' : j < 20 := hj
      rcases (by omega : j = 0 ∨ j = 1 ∨ j = 2 ∨ j = 3 ∨ j = 4 ∨ j = 5 ∨ j = 6 ∨ j = 7 ∨ j = 8 ∨ j = 9 ∨ j = 10 ∨ j = 11 ∨ j = 12 ∨ j = 13 ∨ j = 14 ∨ j = 15 ∨ j = 16 ∨ j = 17 ∨ j = 18 ∨ j = 19) with rfl | rfl | rfl | rfl | rfl | rfl | rfl | rfl | rfl | rfl | rfl | rfl | rfl | rfl | rfl | rfl | rfl | rfl | rfl | rfl
      · -- operation 0
        (refine owes_val (L := [(0, false)]) rfl rfl rfl (by kernel_rfl) ?_; intro a' w' hb' hfacts; obtain ⟨hf0, -⟩ := hfacts; replace hf0 : a'.tmps[0]?.getD undef = .pointer (some ⟨X, 0, none⟩) := hf0)
        have p0 := ((HL.out.below hb').2 0 _ rfl).1; have p1 := ((HL.out.below hb').2 1 _ rfl).1; rw [ptr_eq] at p0 p1
        (go_simp; first | exact ⟨_, rfl, Below.refl _ _, rfl⟩ | exact ⟨_, rfl, Below.refl _ _, trivial⟩ | exact ⟨_, rfl, (Below.refl _ _).alloc (Nat.le_refl _) _, trivial⟩ | exact ⟨_, rfl, Below.refl _ _, congrArg (Value.int _) (IntWalk.i64_in _ (by omega))⟩)
      · -- operation 1
        (refine owes_val (L := [(60, true)]) rfl rfl rfl (by kernel_rfl) ?_; intro a' w' hb' hfacts; obtain ⟨hf60, -⟩ := hfacts; try simp only [VMeas] at hf60)
        have p0 := ((HL.out.below hb').2 0 _ rfl).1; have p1 := ((HL.out.below hb').2 1 _ rfl).1; rw [ptr_eq] at p0 p1
        (go_simp; first | exact ⟨_, rfl, Below.refl _ _, rfl⟩ | exact ⟨_, rfl, Below.refl _ _, trivial⟩ | exact ⟨_, rfl, (Below.refl _ _).alloc (Nat.le_refl _) _, trivial⟩ | exact ⟨_, rfl, Below.refl _ _, congrArg (Value.int _) (IntWalk.i64_in _ (by omega))⟩)
      · -- operation 2
        (refine owes_val (L := [(61, true)]) rfl rfl rfl (by kernel_rfl) ?_; intro a' w' hb' hfacts; obtain ⟨hf61, -⟩ := hfacts; try simp only [VMeas] at hf61)
        have p0 := ((HL.out.below hb').2 0 _ rfl).1; have p1 := ((HL.out.below hb').2 1 _ rfl).1; rw [ptr_eq] at p0 p1
        (go_simp; first | exact ⟨_, rfl, Below.refl _ _, rfl⟩ | exact ⟨_, rfl, Below.refl _ _, trivial⟩ | exact ⟨_, rfl, (Below.refl _ _).alloc (Nat.le_refl _) _, trivial⟩ | exact ⟨_, rfl, Below.refl _ _, congrArg (Value.int _) (IntWalk.i64_in _ (by omega))⟩)
      · -- operation 3
        (refine owes_val (L := [(62, true)]) rfl rfl rfl (by kernel_rfl) ?_; intro a' w' hb' hfacts; obtain ⟨hf62, -⟩ := hfacts; try simp only [VMeas] at hf62)
        have p0 := ((HL.out.below hb').2 0 _ rfl).1; have p1 := ((HL.out.below hb').2 1 _ rfl).1; rw [ptr_eq] at p0 p1
        (go_simp; first | exact ⟨_, rfl, Below.refl _ _, rfl⟩ | exact ⟨_, rfl, Below.refl _ _, trivial⟩ | exact ⟨_, rfl, (Below.refl _ _).alloc (Nat.le_refl _) _, trivial⟩ | exact ⟨_, rfl, Below.refl _ _, congrArg (Value.int _) (IntWalk.i64_in _ (by omega))⟩)
      · -- operation 4
        (refine owes_val (L := [(1, false)]) rfl rfl rfl (by kernel_rfl) ?_; intro a' w' hb' hfacts; obtain ⟨hf1, -⟩ := hfacts; replace hf1 : a'.tmps[1]?.getD undef = .int .i64 f := hf1)
        have p0 := ((HL.out.below hb').2 0 _ rfl).1; have p1 := ((HL.out.below hb').2 1 _ rfl).1; rw [ptr_eq] at p0 p1
        (go_simp; first | exact ⟨_, rfl, Below.refl _ _, rfl⟩ | exact ⟨_, rfl, Below.refl _ _, trivial⟩ | exact ⟨_, rfl, (Below.refl _ _).alloc (Nat.le_refl _) _, trivial⟩ | exact ⟨_, rfl, Below.refl _ _, congrArg (Value.int _) (IntWalk.i64_in _ (by omega))⟩)
      · -- operation 5
        (refine owes_val (L := [(2, false)]) rfl rfl rfl (by kernel_rfl) ?_; intro a' w' hb' hfacts; obtain ⟨hf2, -⟩ := hfacts; replace hf2 : a'.tmps[2]?.getD undef = .int .i64 u := hf2)
        have p0 := ((HL.out.below hb').2 0 _ rfl).1; have p1 := ((HL.out.below hb').2 1 _ rfl).1; rw [ptr_eq] at p0 p1
        (go_simp; first | exact ⟨_, rfl, Below.refl _ _, rfl⟩ | exact ⟨_, rfl, Below.refl _ _, trivial⟩ | exact ⟨_, rfl, (Below.refl _ _).alloc (Nat.le_refl _) _, trivial⟩ | exact ⟨_, rfl, Below.refl _ _, congrArg (Value.int _) (IntWalk.i64_in _ (by omega))⟩)
      · -- operation 6
        (refine owes_val (L := [(63, true), (64, true), (65, true)]) rfl rfl rfl (by kernel_rfl) ?_; intro a' w' hb' hfacts; obtain ⟨hf63, hf64, hf65, -⟩ := hfacts; try simp only [VMeas] at hf63; try simp only [VMeas] at hf64; try simp only [VMeas] at hf65)
        go_simp
        refine (IL2.out _ (tabs_below HT.out hb') (HX.out.below hb')).mono ?_
        rintro e w3 ⟨rfl, hb3⟩
        exact ⟨_, rfl, hb3, rfl⟩
      · -- operation 7
        (refine owes_val (L := [(0, false)]) rfl rfl rfl (by kernel_rfl) ?_; intro a' w' hb' hfacts; obtain ⟨hf0, -⟩ := hfacts; replace hf0 : a'.tmps[0]?.getD undef = .pointer (some ⟨X, 0, none⟩) := hf0)
        have p0 := ((HL.out.below hb').2 0 _ rfl).1; have p1 := ((HL.out.below hb').2 1 _ rfl).1; rw [ptr_eq] at p0 p1
        (go_simp; first | exact ⟨_, rfl, Below.refl _ _, rfl⟩ | exact ⟨_, rfl, Below.refl _ _, trivial⟩ | exact ⟨_, rfl, (Below.refl _ _).alloc (Nat.le_refl _) _, trivial⟩ | exact ⟨_, rfl, Below.refl _ _, congrArg (Value.int _) (IntWalk.i64_in _ (by omega))⟩)
      · -- operation 8
        (refine owes_val (L := [(67, true)]) rfl rfl rfl (by kernel_rfl) ?_; intro a' w' hb' hfacts; obtain ⟨hf67, -⟩ := hfacts; try simp only [VMeas] at hf67)
        have p0 := ((HL.out.below hb').2 0 _ rfl).1; have p1 := ((HL.out.below hb').2 1 _ rfl).1; rw [ptr_eq] at p0 p1
        (go_simp; first | exact ⟨_, rfl, Below.refl _ _, rfl⟩ | exact ⟨_, rfl, Below.refl _ _, trivial⟩ | exact ⟨_, rfl, (Below.refl _ _).alloc (Nat.le_refl _) _, trivial⟩ | exact ⟨_, rfl, Below.refl _ _, congrArg (Value.int _) (IntWalk.i64_in _ (by omega))⟩)
      · -- operation 9
        (refine owes_val (L := [(68, true)]) rfl rfl rfl (by kernel_rfl) ?_; intro a' w' hb' hfacts; obtain ⟨hf68, -⟩ := hfacts; try simp only [VMeas] at hf68)
        have p0 := ((HL.out.below hb').2 0 _ rfl).1; have p1 := ((HL.out.below hb').2 1 _ rfl).1; rw [ptr_eq] at p0 p1
        (go_simp; first | exact ⟨_, rfl, Below.refl _ _, rfl⟩ | exact ⟨_, rfl, Below.refl _ _, trivial⟩ | exact ⟨_, rfl, (Below.refl _ _).alloc (Nat.le_refl _) _, trivial⟩ | exact ⟨_, rfl, Below.refl _ _, congrArg (Value.int _) (IntWalk.i64_in _ (by omega))⟩)
      · -- operation 10
        (refine owes_val (L := [(69, true)]) rfl rfl rfl (by kernel_rfl) ?_; intro a' w' hb' hfacts; obtain ⟨hf69, -⟩ := hfacts; try simp only [VMeas] at hf69)
        have p0 := ((HL.out.below hb').2 0 _ rfl).1; have p1 := ((HL.out.below hb').2 1 _ rfl).1; rw [ptr_eq] at p0 p1
        (go_simp; first | exact ⟨_, rfl, Below.refl _ _, rfl⟩ | exact ⟨_, rfl, Below.refl _ _, trivial⟩ | exact ⟨_, rfl, (Below.refl _ _).alloc (Nat.le_refl _) _, trivial⟩ | exact ⟨_, rfl, Below.refl _ _, congrArg (Value.int _) (IntWalk.i64_in _ (by omega))⟩)
      · -- operation 11
        (refine owes_val (L := [(1, false)]) rfl rfl rfl (by kernel_rfl) ?_; intro a' w' hb' hfacts; obtain ⟨hf1, -⟩ := hfacts; replace hf1 : a'.tmps[1]?.getD undef = .int .i64 f := hf1)
        have p0 := ((HL.out.below hb').2 0 _ rfl).1; have p1 := ((HL.out.below hb').2 1 _ rfl).1; rw [ptr_eq] at p0 p1
        (go_simp; first | exact ⟨_, rfl, Below.refl _ _, rfl⟩ | exact ⟨_, rfl, Below.refl _ _, trivial⟩ | exact ⟨_, rfl, (Below.refl _ _).alloc (Nat.le_refl _) _, trivial⟩ | exact ⟨_, rfl, Below.refl _ _, congrArg (Value.int _) (IntWalk.i64_in _ (by omega))⟩)
      · -- operation 12
        (refine owes_val (L := [(7, false)]) rfl rfl rfl (by kernel_rfl) ?_; intro a' w' hb' hfacts; obtain ⟨hf7, -⟩ := hfacts; replace hf7 : a'.tmps[7]?.getD undef = .int .i64 k := hf7)
        have p0 := ((HL.out.below hb').2 0 _ rfl).1; have p1 := ((HL.out.below hb').2 1 _ rfl).1; rw [ptr_eq] at p0 p1
        (go_simp; first | exact ⟨_, rfl, Below.refl _ _, rfl⟩ | exact ⟨_, rfl, Below.refl _ _, trivial⟩ | exact ⟨_, rfl, (Below.refl _ _).alloc (Nat.le_refl _) _, trivial⟩ | exact ⟨_, rfl, Below.refl _ _, congrArg (Value.int _) (IntWalk.i64_in _ (by omega))⟩)
      · -- operation 13
        (refine owes_val (L := [(71, true), (72, true)]) rfl rfl rfl (by kernel_rfl) ?_; intro a' w' hb' hfacts; obtain ⟨hf71, hf72, -⟩ := hfacts; try simp only [VMeas] at hf71; try simp only [VMeas] at hf72)
        go_simp
        exact ⟨_, rfl, Below.refl _ _, congrArg (Value.int _) E73.out⟩
      · -- operation 14
        (refine owes_val (L := [(2, false)]) rfl rfl rfl (by kernel_rfl) ?_; intro a' w' hb' hfacts; obtain ⟨hf2, -⟩ := hfacts; replace hf2 : a'.tmps[2]?.getD undef = .int .i64 u := hf2)
        have p0 := ((HL.out.below hb').2 0 _ rfl).1; have p1 := ((HL.out.below hb').2 1 _ rfl).1; rw [ptr_eq] at p0 p1
        (go_simp; first | exact ⟨_, rfl, Below.refl _ _, rfl⟩ | exact ⟨_, rfl, Below.refl _ _, trivial⟩ | exact ⟨_, rfl, (Below.refl _ _).alloc (Nat.le_refl _) _, trivial⟩ | exact ⟨_, rfl, Below.refl _ _, congrArg (Value.int _) (IntWalk.i64_in _ (by omega))⟩)
      · -- operation 15
        (refine owes_val (L := [(7, false)]) rfl rfl rfl (by kernel_rfl) ?_; intro a' w' hb' hfacts; obtain ⟨hf7, -⟩ := hfacts; replace hf7 : a'.tmps[7]?.getD undef = .int .i64 k := hf7)
        have p0 := ((HL.out.below hb').2 0 _ rfl).1; have p1 := ((HL.out.below hb').2 1 _ rfl).1; rw [ptr_eq] at p0 p1
        (go_simp; first | exact ⟨_, rfl, Below.refl _ _, rfl⟩ | exact ⟨_, rfl, Below.refl _ _, trivial⟩ | exact ⟨_, rfl, (Below.refl _ _).alloc (Nat.le_refl _) _, trivial⟩ | exact ⟨_, rfl, Below.refl _ _, congrArg (Value.int _) (IntWalk.i64_in _ (by omega))⟩)
      · -- operation 16
        (refine owes_val (L := [(74, true), (75, true)]) rfl rfl rfl (by kernel_rfl) ?_; intro a' w' hb' hfacts; obtain ⟨hf74, hf75, -⟩ := hfacts; try simp only [VMeas] at hf74; try simp only [VMeas] at hf75)
        go_simp
        exact ⟨_, rfl, Below.refl _ _, congrArg (Value.int _) E76.out⟩
      · -- operation 17
        (refine owes_val (L := [(70, true), (73, true), (76, true)]) rfl rfl rfl (by kernel_rfl) ?_; intro a' w' hb' hfacts; obtain ⟨hf70, hf73, hf76, -⟩ := hfacts; try simp only [VMeas] at hf70; try simp only [VMeas] at hf73; try simp only [VMeas] at hf76)
        go_simp
        refine (IR2.out _ (tabs_below HT.out hb') (HY.out.below hb')).mono ?_
        rintro e w3 ⟨rfl, hb3⟩
        exact ⟨_, rfl, hb3, rfl⟩
      · -- operation 18
        (refine owes_val (L := [(66, true), (77, true)]) rfl rfl rfl (by kernel_rfl) ?_; intro a' w' hb' hfacts; obtain ⟨hf66, hf77, -⟩ := hfacts; try simp only [VMeas] at hf66; try simp only [VMeas] at hf77)
        go_simp
        exact ⟨_, rfl, (Below.refl _ _).alloc (Nat.le_refl _) _, _, rfl, Lies.new _ (a.cells7 ++ b.cells7) _⟩
      · -- operation 19
        (refine owes_val (L := [(78, true)]) rfl rfl rfl (by kernel_rfl) ?_; intro a' w' hb' hfacts; obtain ⟨hf78, -⟩ := hfacts; try simp only [VMeas] at hf78)
        obtain ⟨g, hh, hg⟩ := hf78
        go_simp
        rw [← HAa.out, ← HBb.out] at hg
        refine (Join_all ta tb g _ (tabs_below HT.out hb') hJ hg).mono ?_
        rintro e w3 ⟨rfl, hb3⟩
        rw [HM.out]
        exact ⟨_, rfl, hb3, rfl⟩
    · intro fs W3 hfs hb3
      have f79 : fs 79 = .agg #[.int .i64 m.bytes, .int .i64 m.units, .int .i64 m.clusters, .int .i64 m.cells, .int .i64 m.newlines, .string m.head, .string m.tail] := hfs 79 (by decide)
      have HR := Lib.hid (HR.out.below hb3)
      have HB := Lib.hid (HB.out.trans (hb3.mono HB.out.size))
      clear hb3
      clear hfs
      simp only [putAll, put_lit, List.map_cons, List.map_nil, List.set_cons_succ, List.set_cons_zero]
      simp only [f79]
      refine wpOp_last rfl ?_
      have L := Lib.hid (HR.out.stored m.cells7 rfl).2
      have D4 := sets_chg w.heap.size m.cells7 0 W3
      have BL : Below w.heap.size w (W3.setCells w.heap.size 0 m.cells7) :=
        ((Chg.of_below (S := fun k => w.heap.size ≤ k) HB.out).trans D4 (fun x _ h => by have : x = w.heap.size := h; omega)).below_le (by omega) (fun _ h => h)
      have HBL := Lib.hid BL
      obtain ⟨r0, s0⟩ := HR.out.2 0 _ rfl
      obtain ⟨r1, s1⟩ := HR.out.2 1 _ rfl
      obtain ⟨r2, s2⟩ := HR.out.2 2 _ rfl
      obtain ⟨r3, s3⟩ := HR.out.2 3 _ rfl
      obtain ⟨r4, s4⟩ := HR.out.2 4 _ rfl
      obtain ⟨r5, s5⟩ := HR.out.2 5 _ rfl
      obtain ⟨r6, s6⟩ := HR.out.2 6 _ rfl
      clear D4 BL
      go_wp2
      have j0 := (L.out 0 _ rfl).1
      have j1 := (L.out 1 _ rfl).1
      have j2 := (L.out 2 _ rfl).1
      have j3 := (L.out 3 _ rfl).1
      have j4 := (L.out 4 _ rfl).1
      have j5 := (L.out 5 _ rfl).1
      have j6 := (L.out 6 _ rfl).1
      simp only [Sm.cells7, zero7, World.setCells] at j0 j1 j2 j3 j4 j5 j6
      refine bodyPost_ret (v := m.val) (by simp [results, Tryz.results158, go_sem, j0, j1, j2, j3, j4, j5, j6, Sm.val, zeroSm]) rfl ⟨rfl, HBL.out⟩
theorem measure_any : ∀ t : Tr, MeasTo t
  | .leaf s => fun X i j w hT h hs _ _ => by
    by_cases h1 : min j (s.size : Int) ≤ max i 0
    · exact meas_nil (.leaf s) X i j w hT h hs h1
    · by_cases h2 : max i 0 = 0 ∧ min j (s.size : Int) = s.size
      · exact meas_all (.leaf s) X i j w hT h hs h2.1 h2.2 (by show 0 < s.size; omega)
      · exact meas_leaf s X i j w hT h hs (by omega) h2
  | .knot l r => fun X i j w hT h hs _ _ => by
    by_cases h1 : min j ((l.text ++ r.text).size : Int) ≤ max i 0
    · exact meas_nil (.knot l r) X i j w hT h hs h1
    · by_cases h2 : max i 0 = 0 ∧ min j ((l.text ++ r.text).size : Int) = (l.text ++ r.text).size
      · exact meas_all (.knot l r) X i j w hT h hs h2.1 h2.2 (by show 0 < (l.text ++ r.text).size; omega)
      · obtain ⟨x, y, hx, hy, hL⟩ := h
        exact meas_knot l r (measure_any l) (measure_any r) X x y i j w hT hx hy hL.lies hs (by omega) h2
end Go.Proofs.YtgmpohdkignadaaGreatDoor.Ut
/-
  rope: what is read of a rope (tree, Len, within, Slice, Measure). Condition: the two tables of unicode/utf8 lie as laid.
-/
namespace Go.Proofs.YtgmpohdkignadaaGreatDoor.Ut
open Go.RowKit Go.Proofs.YtgmpohdkignadaaGreatDoor.Reg
set_option linter.unusedVariables false
set_option linter.unusedSimpArgs false

/-- A rope in block b with the tree t. -/
def IsRope (W : World) (b : Nat) (t : Tr) : Prop := ∃ x, Blk W b 139 [ptr x] ∧ IsTr W x t
theorem IsRope.keeps {W W' : World} {b : Nat} {t : Tr} (h : IsRope W b t) (hk : Keeps W W') : IsRope W' b t := by
  obtain ⟨x, h1, h2⟩ := h; exact ⟨x, hk b _ _ (.inr rfl) h1, h2.keeps hk⟩
theorem IsRope.below {W W' : World} {b : Nat} {t : Tr} (h : IsRope W b t) (hb : Below W.heap.size W W') : IsRope W' b t := by
  obtain ⟨x, h1, h2⟩ := h; exact ⟨x, h1.below hb, h2.below hb⟩

theorem tree_any (b x : Nat) (w : World) (h : Lies w b [ptr x]) : Calls Tryz.prog 156 #[ptr b] w fun e w' => e = .returned (ptr x) ∧ w' = w := by
  have c0 := (h.2 0 _ rfl).1
  clear h
  unfold ptr at *
  go_enter Tryz.func156, Tryz.ntmps156
  go_wp2
  go_ret
  exact ⟨rfl, rfl⟩
theorem RopeLen_any (b : Nat) (t : Tr) (w : World) (h : IsRope w b t) : Calls Tryz.prog 152 #[ptr b] w fun e w' => e = .returned (.int .i64 t.text.size) ∧ w' = w := by
  obtain ⟨x, h1, h2⟩ := h
  have c3 := h2.sumBytes
  have H := Lib.hid h1.lies
  clear h1 h2
  unfold ptr at *
  go_enter Tryz.func152, Tryz.ntmps152
  go_wp2_with fail
  refine (tree_any b x w H.out).mono ?_
  rintro e w1 ⟨rfl, rfl⟩
  unfold ptr
  go_wp2
  go_ret
  exact ⟨rfl, rfl⟩
theorem within_yes (b i j : Nat) (t : Tr) (w : World) (h : IsRope w b t) (hij : i ≤ j) (hj : j ≤ t.text.size) : Calls Tryz.prog 157 #[ptr b, .int .i64 i, .int .i64 j] w fun e w' => e = .returned (.bool true) ∧ w' = w := by
  have H := Lib.hid (RopeLen_any b t w h)
  have q0 : (0 : Int) ≤ (i : Int) := by omega
  have q1 : (i : Int) ≤ (j : Int) := by omega
  have q2 : (j : Int) ≤ (t.text.size : Int) := by omega
  clear h
  unfold ptr at *
  go_enter Tryz.func157, Tryz.ntmps157
  go_wp2_with fail
  refine H.out.mono ?_
  rintro e w1 ⟨rfl, rfl⟩
  go_wp2
  go_ret
  exact ⟨rfl, rfl⟩
theorem within_no (b : Nat) (i j : Int) (t : Tr) (w : World) (h : IsRope w b t) (hb : i < 0 ∨ j < i ∨ (t.text.size : Int) < j) : Calls Tryz.prog 157 #[ptr b, .int .i64 i, .int .i64 j] w fun e w' => e = .returned (.bool false) ∧ w' = w := by
  have H := Lib.hid (RopeLen_any b t w h)
  clear h
  unfold ptr at *
  rcases (by omega : i < 0 ∨ (0 ≤ i ∧ j < i) ∨ (0 ≤ i ∧ i ≤ j ∧ (t.text.size : Int) < j)) with h0 | ⟨h0, h1⟩ | ⟨h0, h1, h2⟩
  · clear hb
    have q : decide (0 ≤ i) = false := by simpa using h0
    go_enter Tryz.func157, Tryz.ntmps157
    go_wp2
    go_ret
    exact ⟨rfl, rfl⟩
  · clear hb
    have q : decide (i ≤ j) = false := by simpa using h1
    go_enter Tryz.func157, Tryz.ntmps157
    go_wp2
    go_ret
    exact ⟨rfl, rfl⟩
  · clear hb
    have q : decide (j ≤ (t.text.size : Int)) = false := by simpa using h2
    go_enter Tryz.func157, Tryz.ntmps157
    go_wp2_with fail
    refine H.out.mono ?_
    rintro e w1 ⟨rfl, rfl⟩
    go_wp2
    go_ret
    exact ⟨rfl, rfl⟩

set_option maxRecDepth 100000 in
set_option maxHeartbeats 1000000 in
theorem RopeSlice_any (b i j : Nat) (t : Tr) (w : World) (h : IsRope w b t) (hs : t.text.size ≤ 4294967296) (hij : i ≤ j) (hj : j ≤ t.text.size) : Calls Tryz.prog 155 #[ptr b, .int .i64 i, .int .i64 j] w fun e w' => e = .returned (.tuple #[.string (t.text.extract i j), .int .i64 0]) ∧ Below w.heap.size w w' := by
  have HW := Lib.hid (within_yes b i j t w h hij hj)
  obtain ⟨x, h1, h2⟩ := h
  have H1 := Lib.hid h1.lies
  have H2 := Lib.hid h2
  have hx := cutB_extract t.text i j hj
  have HX := Lib.hid hx
  clear h1 h2 hx
  unfold ptr at HW ⊢
  go_enter Tryz.func155, Tryz.ntmps155
  go_wp2_with fail
  refine HW.out.mono ?_
  rintro e w1 ⟨rfl, rfl⟩
  have hbl : Bld w1.heap.size w1.heap.size [] (w1.alloc (.cells #[.pointer none, .slice none 0 0] 197)) := Lib.fresh_isBuilder 197 5 w1
  have b1 : Below w1.heap.size w1 (w1.alloc (.cells #[.pointer none, .slice none 0 0] 197)) := (Below.refl _ _).alloc (Nat.le_refl _) _
  obtain ⟨W0, hW⟩ : ∃ W0, w1.alloc (.cells #[.pointer none, .slice none 0 0] 197) = W0 := ⟨_, rfl⟩
  rw [hW] at hbl b1
  have HE := Lib.hid hW
  have HB := Lib.hid hbl
  have B1 := Lib.hid b1
  clear hW hbl b1
  go_wp2_with fail
  rw [HE.out]
  refine (tree_any b x W0 (H1.out.below B1.out)).mono ?_
  rintro e w2 ⟨rfl, rfl⟩
  unfold ptr
  go_wp2_with fail
  refine (slice_any w1 w1.heap.size t x i j [] w2 H2.out hs ⟨by omega, by omega⟩ ⟨by omega, by omega⟩ B1.out HB.out (by show 0 + _ ≤ _; omega)).mono ?_
  rintro e w3 ⟨rfl, h3, hb⟩
  rw [List.nil_append] at h3
  have H3 := Lib.hid h3
  have B3 := Lib.hid (B1.out.trans hb)
  clear h3 hb
  go_wp2_with fail
  refine (BldString_any w1.heap.size w1.heap.size _ w3 H3.out B3.out.size).mono ?_
  rintro e w4 ⟨rfl, hb⟩
  have B4 := Lib.hid (B3.out.trans hb)
  clear hb
  obtain ⟨R, hR⟩ : ∃ R : ByteArray, ⟨(cutB t.text i j).toArray⟩ = R := ⟨_, rfl⟩
  have HR := Lib.hid hR
  rw [hR]
  clear hR
  go_wp2
  refine bodyPost_ret (v := .tuple #[.string R, .int .i64 0]) (by simp [results, Tryz.results155, go_sem]) rfl ⟨?_, B4.out⟩
  rw [← HR.out, HX.out]
theorem RopeSlice_bad (b : Nat) (i j : Int) (t : Tr) (w : World) (h : IsRope w b t) (hb : i < 0 ∨ j < i ∨ (t.text.size : Int) < j) : Calls Tryz.prog 155 #[ptr b, .int .i64 i, .int .i64 j] w fun e w' => e = .returned (.tuple #[.string ⟨#[]⟩, .int .i64 1]) ∧ w' = w := by
  have HW := Lib.hid (within_no b i j t w h hb)
  clear h hb
  unfold ptr at HW ⊢
  go_enter Tryz.func155, Tryz.ntmps155
  go_wp2_with fail
  refine HW.out.mono ?_
  rintro e w1 ⟨rfl, rfl⟩
  go_wp2
  refine bodyPost_ret (v := .tuple #[.string ⟨#[]⟩, .int .i64 1]) (by simp [results, Tryz.results155, go_sem]) rfl ⟨rfl, rfl⟩

set_option maxRecDepth 100000 in
set_option maxHeartbeats 1000000 in
theorem RopeMeasure_any (b i j : Nat) (t : Tr) (w : World) (hT : Tabs w) (h : IsRope w b t) (hs : t.text.size ≤ 4294967296) (hij : i ≤ j) (hj : j ≤ t.text.size) : Calls Tryz.prog 153 #[ptr b, .int .i64 i, .int .i64 j] w fun e w' => e = .returned (.tuple #[(measF (t.text.extract i j)).val, .int .i64 0]) ∧ Below w.heap.size w w' := by
  obtain ⟨W0, hW0, A0, b0, hsz⟩ := boxL1 w zero7 115
  have HE := Lib.hid hW0
  unfold zero7 at HE
  have HR := Lib.hid A0
  have HB := Lib.hid b0
  have HW := Lib.hid (within_yes b i j t W0 (h.below b0) hij hj)
  have HT := Lib.hid (tabs_below hT b0)
  obtain ⟨x, h1, h2⟩ := h
  have H1 := Lib.hid (h1.lies.below b0)
  have H2 := Lib.hid (h2.below b0)
  have hc : cutS t.text i j = t.text.extract i j := cutS_extract (by omega) (by omega)
  have HC := Lib.hid hc
  clear h1 h2 hc hT hW0 A0 b0 hsz
  unfold ptr at HW ⊢
  go_enter Tryz.func153, Tryz.ntmps153
  go_wp2_with fail
  rw [HE.out]
  refine HW.out.mono ?_
  rintro e w1 ⟨rfl, rfl⟩
  go_wp2_with fail
  refine (tree_any b x w1 H1.out).mono ?_
  rintro e w2 ⟨rfl, rfl⟩
  unfold ptr
  go_wp2_with fail
  refine (measure_any t x i j w2 HT.out H2.out hs ⟨by omega, by omega⟩ ⟨by omega, by omega⟩).mono ?_
  rintro e w3 ⟨rfl, hb⟩
  rw [HC.out]
  obtain ⟨m, hm⟩ : ∃ m, measF (t.text.extract i j) = m := ⟨_, rfl⟩
  have HM := Lib.hid hm
  rw [hm]
  have HR := Lib.hid (HR.out.below hb)
  have HB := Lib.hid (HB.out.trans (hb.mono HB.out.size))
  clear hb
  clear hm
  unfold Sm.val
  have L := Lib.hid (HR.out.stored m.cells7 rfl).2
  have D4 := sets_chg w.heap.size m.cells7 0 w3
  have HBL := Lib.hid (chg_mine HB.out D4 (Nat.le_refl _))
  obtain ⟨r0, s0⟩ := HR.out.2 0 _ rfl
  obtain ⟨r1, s1⟩ := HR.out.2 1 _ rfl
  obtain ⟨r2, s2⟩ := HR.out.2 2 _ rfl
  obtain ⟨r3, s3⟩ := HR.out.2 3 _ rfl
  obtain ⟨r4, s4⟩ := HR.out.2 4 _ rfl
  obtain ⟨r5, s5⟩ := HR.out.2 5 _ rfl
  obtain ⟨r6, s6⟩ := HR.out.2 6 _ rfl
  clear D4
  go_wp2
  have j0 := (L.out 0 _ rfl).1
  have j1 := (L.out 1 _ rfl).1
  have j2 := (L.out 2 _ rfl).1
  have j3 := (L.out 3 _ rfl).1
  have j4 := (L.out 4 _ rfl).1
  have j5 := (L.out 5 _ rfl).1
  have j6 := (L.out 6 _ rfl).1
  simp only [Sm.cells7, zero7, World.setCells] at j0 j1 j2 j3 j4 j5 j6
  refine bodyPost_ret (v := .tuple #[m.val, .int .i64 0]) (by simp [results, Tryz.results153, go_sem, j0, j1, j2, j3, j4, j5, j6, Sm.val, zeroSm]) rfl ⟨by rw [HM.out], HBL.out⟩
theorem RopeMeasure_bad (b : Nat) (i j : Int) (t : Tr) (w : World) (h : IsRope w b t) (hb : i < 0 ∨ j < i ∨ (t.text.size : Int) < j) : Calls Tryz.prog 153 #[ptr b, .int .i64 i, .int .i64 j] w fun e w' => e = .returned (.tuple #[zeroSm.val, .int .i64 1]) ∧ Below w.heap.size w w' := by
  obtain ⟨W0, hW0, A0, b0, hsz⟩ := boxL1 w zero7 115
  have HE := Lib.hid hW0
  unfold zero7 at HE
  have HR := Lib.hid A0
  have HB := Lib.hid b0
  have HW := Lib.hid (within_no b i j t W0 (h.below b0) hb)
  clear h hb hW0 A0 b0 hsz
  unfold ptr at HW ⊢
  go_enter Tryz.func153, Tryz.ntmps153
  go_wp2_with fail
  rw [HE.out]
  refine HW.out.mono ?_
  rintro e w1 ⟨rfl, rfl⟩
  have L := Lib.hid (HR.out.stored zero7 rfl).2
  have D4 := sets_chg w.heap.size zero7 0 w1
  have HBL := Lib.hid (chg_mine HB.out D4 (Nat.le_refl _))
  obtain ⟨r0, s0⟩ := HR.out.2 0 _ rfl
  obtain ⟨r1, s1⟩ := HR.out.2 1 _ rfl
  obtain ⟨r2, s2⟩ := HR.out.2 2 _ rfl
  obtain ⟨r3, s3⟩ := HR.out.2 3 _ rfl
  obtain ⟨r4, s4⟩ := HR.out.2 4 _ rfl
  obtain ⟨r5, s5⟩ := HR.out.2 5 _ rfl
  obtain ⟨r6, s6⟩ := HR.out.2 6 _ rfl
  clear D4
  go_wp2
  have j0 := (L.out 0 _ rfl).1
  have j1 := (L.out 1 _ rfl).1
  have j2 := (L.out 2 _ rfl).1
  have j3 := (L.out 3 _ rfl).1
  have j4 := (L.out 4 _ rfl).1
  have j5 := (L.out 5 _ rfl).1
  have j6 := (L.out 6 _ rfl).1
  simp only [Sm.cells7, zero7, World.setCells] at j0 j1 j2 j3 j4 j5 j6
  refine bodyPost_ret (v := .tuple #[zeroSm.val, .int .i64 1]) (by simp [results, Tryz.results153, go_sem, j0, j1, j2, j3, j4, j5, j6, Sm.val, zeroSm]) rfl ⟨rfl, HBL.out⟩
end Go.Proofs.YtgmpohdkignadaaGreatDoor.Ut
/-
  cluster.Prev, Snap; rope.place. Condition: the two tables of unicode/utf8 lie as laid.
-/
namespace Go.Proofs.YtgmpohdkignadaaGreatDoor.Ut
open Go.RowKit
set_option linter.unusedVariables false
set_option linter.unusedSimpArgs false

/-- The greatest boundary below i, looked for in f steps; 0 at last. -/
def clPf (s : ByteArray) : Nat → Nat → Nat
  | 0, _ => 0
  | f + 1, i => if i = 0 then 0 else if clB s (prevU s i) = true then prevU s i else clPf s f (prevU s i)
def clP (s : ByteArray) (i : Nat) : Nat := clPf s i i
theorem clPf_zero (s : ByteArray) (f : Nat) : clPf s f 0 = 0 := by cases f <;> simp [clPf]
theorem clPf_same (s : ByteArray) : ∀ f g i, i ≤ s.size → i ≤ f → i ≤ g → clPf s f i = clPf s g i
  | 0, g, i, _, hf, _ => by obtain rfl : i = 0 := by omega
                            rw [clPf_zero, clPf_zero]
  | f + 1, g, i, hs, hf, hg => by
    rcases Nat.eq_zero_or_pos i with e | e
    · subst e; rw [clPf_zero, clPf_zero]
    · obtain ⟨g', rfl⟩ : ∃ g', g = g' + 1 := ⟨g - 1, by omega⟩
      have hp := prev_lt (s := s) (i := i) e hs
      have hn : ¬ i = 0 := by omega
      rw [clPf, clPf, if_neg hn, if_neg hn]
      split
      · rfl
      · exact clPf_same s f g' _ (by omega) (by omega) (by omega)
theorem clPf_more (s : ByteArray) (f i : Nat) (hs : i ≤ s.size) (hf : i ≤ f) : clPf s f i = clP s i := clPf_same s f i i hs hf (Nat.le_refl _)
theorem clP_zero (s : ByteArray) : clP s 0 = 0 := rfl
theorem clP_step {s : ByteArray} {i : Nat} (h0 : 0 < i) (h : i ≤ s.size) : clP s i = if clB s (prevU s i) = true then prevU s i else clP s (prevU s i) := by
  have hp := prev_lt (s := s) (i := i) h0 h
  obtain ⟨j, rfl⟩ : ∃ j, i = j + 1 := ⟨i - 1, by omega⟩
  show clPf s (j + 1) (j + 1) = _
  rw [clPf, if_neg (show ¬ j + 1 = 0 by omega), clPf_more s j _ (by omega) (by omega)]
theorem clP_lt {s : ByteArray} {i : Nat} (h0 : 0 < i) (h : i ≤ s.size) : clP s i < i := by
  induction i using Nat.strongRecOn with
  | _ i ih =>
    have hp := prev_lt (s := s) (i := i) h0 h
    rw [clP_step h0 h]
    split
    · exact hp
    · rcases Nat.eq_zero_or_pos (prevU s i) with e | e
      · rw [e, clP_zero]; exact h0
      · have := ih _ hp e (by omega); omega

set_option maxRecDepth 100000 in
theorem ClPrev_any (s : ByteArray) (i : Nat) (w : World) (hT : Tabs w) (hs : s.size ≤ 140737488355328) (hi : i ≤ s.size) :
    Calls Tryz.prog 105 #[.string s, .int .i64 i] w fun e w' => e = .returned (.int .i64 (clP s i)) ∧ Below w.heap.size w w' := by
  have HT := Lib.hid hT
  obtain ⟨R, hR⟩ : ∃ R, clP s i = R := ⟨_, rfl⟩
  have HR := Lib.hid hR
  have hq : ¬ (s.size : Int) < (i : Int) := by omega
  rw [hR]
  clear hT hR
  go_enter Tryz.func105, Tryz.ntmps105
  go_wp2
  go_loopw [1] (fun v wr => ∃ j : Nat, j ≤ s.size ∧ v = .int .i64 j ∧ Hid (clP s j = R) ∧ Below w.heap.size w wr) (fun v _ => (intOf v).toNat)
  case atStart => exact ⟨i, hi, rfl, HR.out, Below.refl _ _⟩
  case round =>
    obtain ⟨j, hj, rfl, HA, hb⟩ := hrel
    have HB := Lib.hid hb
    clear hb hq
    by_cases hlt : 0 < j
    · have h1 := prev_lt hlt hj
      have hst := clP_step hlt hj
      rw [HA.out] at hst
      have HSt := Lib.hid hst
      have hlt' : (0 : Int) < (j : Int) := by omega
      clear hst HA
      go_wp2_with fail
      refine (PrevU_any s j wr (tabs_below HT.out HB.out) hs hlt hj).mono ?_
      rintro e w1 ⟨rfl, hb1⟩
      have HB1 := Lib.hid (HB.out.trans (hb1.mono HB.out.size))
      clear hb1 HB
      generalize prevU s j = k at *
      go_wp2_with fail
      refine (ClBoundary_any s k w1 (tabs_below HT.out HB1.out) hs (by omega)).mono ?_
      rintro e w2 ⟨rfl, hb2⟩
      have HB2 := Lib.hid (HB1.out.trans (hb2.mono HB1.out.size))
      clear hb2 HB1
      cases hc : clB s k with
      | true =>
        have HRes : Hid (R = k) := by show _ = _; rw [HSt.out, if_pos hc]
        clear HSt hc
        go_wp2
        go_ret
        exact ⟨by rw [HRes.out]; rfl, HB2.out⟩
      | false =>
        have HRes : Hid (clP s k = R) := by show _ = _; rw [HSt.out, if_neg (by simp [hc])]
        clear HSt hc
        go_wp2
        go_roundw
        case rel => exact ⟨k, by omega, rfl, HRes.out, HB2.out⟩
        case measure => simp [intOf]; omega
    · obtain rfl : j = 0 := by omega
      have HRes : Hid (R = 0) := by show _ = _; rw [← HA.out, clP_zero]
      clear HA
      go_wp2
      go_ret
      exact ⟨by rw [HRes.out]; rfl, HB.out⟩

def clS (s : ByteArray) (i : Nat) : Nat := if clB s i = true then i else clN s i
theorem clS_ge {s : ByteArray} {i : Nat} (hi : i ≤ s.size) : i ≤ clS s i ∧ clS s i ≤ s.size := by
  unfold clS
  split
  · omega
  · have := clN_le s i
    rcases Nat.lt_or_ge i s.size with h | h
    · have := clN_gt h; omega
    · rw [clN_end h]; omega
set_option maxRecDepth 100000 in
theorem ClSnap_any (s : ByteArray) (i : Nat) (w : World) (hT : Tabs w) (hs : s.size ≤ 140737488355328) (hi : i ≤ s.size) :
    Calls Tryz.prog 106 #[.string s, .int .i64 i] w fun e w' => e = .returned (.int .i64 (clS s i)) ∧ Below w.heap.size w w' := by
  have HT := Lib.hid hT
  have hq : ¬ (i : Int) < 0 := by omega
  have HB := Lib.hid (ClBoundary_any s i w hT hs hi)
  obtain ⟨R, hR⟩ : ∃ R, clS s i = R := ⟨_, rfl⟩
  rw [hR]
  unfold clS at hR
  cases hc : clB s i with
  | true =>
    rw [hc] at HB hR
    rw [if_pos rfl] at hR
    subst hR
    clear hc hT
    go_enter Tryz.func106, Tryz.ntmps106
    go_wp2_with fail
    refine HB.out.mono ?_
    rintro e w1 ⟨rfl, hb⟩
    have B1 := Lib.hid hb
    clear hb HB
    go_wp2
    go_ret
    exact ⟨rfl, B1.out⟩
  | false =>
    rw [hc] at HB hR
    rw [if_neg (by simp)] at hR
    have HR := Lib.hid hR
    clear hc hT hR
    go_enter Tryz.func106, Tryz.ntmps106
    go_wp2_with fail
    refine HB.out.mono ?_
    rintro e w1 ⟨rfl, hb⟩
    have B1 := Lib.hid hb
    clear hb HB
    go_wp2_with fail
    refine (ClNext_any s i w1 (tabs_below HT.out B1.out) hs hi).mono ?_
    rintro e w2 ⟨rfl, hb⟩
    have B2 := Lib.hid (B1.out.trans (hb.mono B1.out.size))
    rw [HR.out]
    clear hb
    go_wp2
    go_ret
    exact ⟨rfl, B2.out⟩

set_option maxRecDepth 100000 in
/-- Where a text longer than a leaf is cut. -/
theorem place_any (m : ByteArray) (w : World) (hT : Tabs w) (hm : 64 < m.size) (hs : m.size ≤ 4294967296) :
    Calls Tryz.prog 98 #[.string m] w fun e w' => ∃ r : Int, e = .returned (.int .i64 r) ∧ (r = -1 ∨ 32 ≤ r ∧ r + 32 ≤ m.size) ∧ Below w.heap.size w w' := by
  have HT := Lib.hid hT
  have e1 : IntKind.i64.wrap ((m.size : Int) - 32) = ((m.size - 32 : Nat) : Int) := by rw [IntWalk.i64_in _ (by omega)]; omega
  have e2 : (m.size : Int) - 32 = ((m.size - 32 : Nat) : Int) := by omega
  obtain ⟨L, hL⟩ : ∃ L, m.size - 32 = L := ⟨_, rfl⟩
  have hL1 : 33 ≤ L := by omega
  have hL2 : L + 32 ≤ m.size := by omega
  rw [hL] at e1 e2
  have e3 : min (L : Int) 64 = ((min L 64 : Nat) : Int) := by omega
  obtain ⟨K, hK⟩ : ∃ K, min L 64 = K := ⟨_, rfl⟩
  rw [hK] at e3
  have hK1 : K ≤ L := by omega
  have hK2 : 33 ≤ K := by omega
  have e4 : IntKind.i64.wrap ((K : Int) + 1) = (K : Int) + 1 := IntWalk.i64_in _ (by omega)
  have hPr : Calls Tryz.prog 105 #[.string m, .int .i64 ((K : Int) + 1)] w fun e w' => e = .returned (.int .i64 (clP m (K + 1))) ∧ Below w.heap.size w w' := ClPrev_any m (K + 1) w hT (by omega) (by omega)
  have HPr := Lib.hid hPr
  have hP := clP_lt (s := m) (i := K + 1) (by omega) (by omega)
  have hS := clS_ge (s := m) (i := 32) (by omega)
  clear hT hL hK hPr
  go_enter Tryz.func98, Tryz.ntmps98
  go_wp2_with fail
  refine HPr.out.mono ?_
  rintro e w1 ⟨rfl, hb⟩
  have B1 := Lib.hid hb
  clear hb
  generalize clP m (K + 1) = p at *
  by_cases h1 : 32 ≤ p
  · have h1' : (32 : Int) ≤ (p : Int) := by omega
    clear e1 e2 e3 e4
    go_wp2
    go_ret
    exact ⟨p, rfl, .inr ⟨h1', by omega⟩, B1.out⟩
  · have h1' : ¬ (32 : Int) ≤ (p : Int) := by omega
    clear e1 e2 e3 e4
    go_wp2_with fail
    refine (ClSnap_any m 32 w1 (tabs_below HT.out B1.out) (by omega) (by omega)).mono ?_
    rintro e w2 ⟨rfl, hb⟩
    have B2 := Lib.hid (B1.out.trans (hb.mono B1.out.size))
    clear hb
    generalize clS m 32 = q at *
    by_cases h2 : q ≤ L
    · have h2' : (q : Int) ≤ (L : Int) := by omega
      go_wp2
      go_ret
      exact ⟨q, rfl, .inr ⟨by omega, by omega⟩, B2.out⟩
    · have h2' : ¬ (q : Int) ≤ (L : Int) := by omega
      go_wp2
      go_ret
      exact ⟨-1, rfl, .inl rfl, B2.out⟩
end Go.Proofs.YtgmpohdkignadaaGreatDoor.Ut
/-
  rope.cutUp: a text cut into pieces. Condition: the two tables of unicode/utf8 lie as laid.
-/
namespace Go.Proofs.YtgmpohdkignadaaGreatDoor.Ut
open Go.RowKit Go.Proofs.YtgmpohdkignadaaGreatDoor.Reg
set_option linter.unusedVariables false
set_option linter.unusedSimpArgs false

def strC (l : List ByteArray) : List Value := l.map Value.string
theorem infoStr : (Tryz.prog.info? 9).map (fun i => (i.zero, i.size, i.bytes)) = some (some (.string ⟨#[]⟩), 1, 16) := by kernel_rfl
theorem wpList_app_str {ops : Array Oper} {rest : List Oper} {o : Oper} {a : Act} {Q : Exit → Act → World → Prop} {w : World} {base : Nat} {u : Value} {l : List ByteArray} (hown : w.ownsRow base 9 1 u l.length (strC l)) (hgd : o.guard = none) (s x : Operand)
    (ho : o.op = .call { callee := .builtin .append, args := #[s, x], argTypes := #[158, 158] })
    (m : ByteArray) (ty : TypeId) (hs : a.eval s = u)
    (g : Nat) (hgs : g = w.heap.size) (hx : a.eval x = .slice (some ⟨g, 0, none⟩) 1 1) (hlen : (l.length + 1) * 16 ≤ 140737488355328) (hbase : base ≤ w.heap.size)
    (h : ∀ v' w', w'.ownsRow base 9 1 v' (l ++ [m]).length (strC (l ++ [m])) → (w.alloc (.cells #[.string m] ty)).grownBy w' u.ownBlock → wpList Tryz.prog ops Q rest (a.put o.dst v') w') :
    wpList Tryz.prog ops Q (o :: rest) a (w.alloc (.cells #[.string m] ty)) := by
  subst hgs
  obtain ⟨i0, hi, hz0, hz1, hz2⟩ := info_parts infoStr
  refine wpList_append_own _ hgd s x 158 ho base 9 i0 (.string ⟨#[]⟩) 1 16 Tryz.underlying158 hi hz0 hz1 hz2 rfl (by decide) u l.length (strC l) hs (hown.alloc _) ⟨w.heap.size, 0, none⟩ 1 1 [.string m] hx rfl (fun j u hj => ?_) (by intro u hu; simp at hu; subst hu; rfl) (by unfold maxLen; omega) (by omega) (by simp; omega) ?_
  · have h1 := (Lies.new w [.string m] ty).2 j u hj
    have e : (⟨w.heap.size, 0, none⟩ : Addr).add j = ⟨w.heap.size, j, none⟩ := by rw [Addr.add_mid]; simp
    rw [e]; exact h1.1
  · intro v' w' h1 h2 _
    refine h v' w' ?_ h2
    unfold strC at *
    simpa using h1

/-- Pieces of a text, in a row of the call's own. -/
structure Pcs (B : Nat) (v : Value) (l : List ByteArray) (w : World) : Prop where
  own : w.ownsRow B 9 1 v l.length (strC l)
  ne : ∀ x ∈ l, 0 < x.size
theorem own_below {B size n : Nat} {e : TypeId} {v : Value} {xs : List Value} {w w' : World} (h : w.ownsRow B e size v n xs) (hb : Below w.heap.size w w') : w'.ownsRow B e size v n xs := by
  refine ⟨h.1, ?_⟩
  rcases h.2 with h0 | ⟨g, cap, cur, hv, hg, hh, hr⟩
  · exact .inl h0
  · exact .inr ⟨g, cap, cur, hv, hg, (hb.block g (Array.getElem?_eq_some_iff.1 hh).1).trans hh, hr⟩
theorem Pcs.below {B : Nat} {v : Value} {l : List ByteArray} {w w' : World} (h : Pcs B v l w) (hb : Below w.heap.size w w') : Pcs B v l w' := ⟨own_below h.own hb, h.ne⟩
theorem len_cat {l : List ByteArray} (h : ∀ x ∈ l, 0 < x.size) : l.length ≤ (cat l).size := by
  induction l with
  | nil => simp
  | cons x r ih =>
    rw [cat_cons_size]
    have := h x (by simp)
    have := ih (fun y hy => h y (by simp [hy]))
    simp; omega
theorem extract_cut (m : ByteArray) (k : Nat) (h : k ≤ m.size) : m.extract 0 k ++ m.extract k m.size = m := by
  apply ext_of_list
  rw [app_list, extract_list, extract_list]
  simp only [List.drop_zero, Nat.sub_zero]
  rw [List.take_of_length_le (l := List.drop _ _) (by rw [List.length_drop, ← Lib.size_eq]; exact Nat.le_refl _), List.take_append_drop]
theorem cat_snoc (l : List ByteArray) (x : ByteArray) : cat (l ++ [x]) = cat l ++ x := by
  rw [cat_app]; congr 1; apply ext_of_list; simp [cat, app_list]

set_option maxRecDepth 100000 in
set_option maxHeartbeats 2000000 in
theorem cutUp_any (m : ByteArray) (w : World) (hT : Tabs w) (h0 : 0 < m.size) (hs : m.size ≤ 4294967296) :
    Calls Tryz.prog 92 #[.string m] w fun e w' => ∃ v l, e = .returned v ∧ Pcs w.heap.size v l w' ∧ cat l = m ∧ l ≠ [] ∧ Below w.heap.size w w' := by
  have HT := Lib.hid hT
  clear hT
  go_enter Tryz.func92, Tryz.ntmps92
  go_wp2
  go_loopw [0, 3] (fun s v wr => ∃ (l : List ByteArray) (k : ByteArray), s = .string k ∧ Pcs w.heap.size v l wr ∧ Hid (cat l ++ k = m) ∧ 0 < k.size ∧ k.size ≤ 4294967296 ∧ Below w.heap.size w wr) (fun s _ _ => match s with | .string k => k.size | _ => 0)
  case atStart => exact ⟨[], m, rfl, ⟨World.ownsRow_nil _ _ _ _, by simp⟩, Lib.hid (by apply ext_of_list; simp [cat, app_list]), h0, hs, Below.refl _ _⟩
  case round =>
    obtain ⟨l, k, rfl, hp, HC, hk0, hks, hb⟩ := hrel
    have HP := Lib.hid hp
    have HB := Lib.hid hb
    have hll : l.length ≤ 4294967296 := by
      have h1 := len_cat hp.ne
      have h2 : (cat l ++ k).size = m.size := by rw [HC.out]
      rw [ByteArray.size_append] at h2
      omega
    clear hp hb
    by_cases h64 : 64 < k.size
    · have h64' : (64 : Int) < (k.size : Int) := by omega
      go_wp2_with fail
      refine (place_any k wr (tabs_below HT.out HB.out) h64 hks).mono ?_
      rintro e w1 ⟨r, rfl, hr, hb⟩
      have HP := Lib.hid (Pcs.below HP.out hb)
      have HB := Lib.hid (HB.out.trans (hb.mono HB.out.size))
      clear hb
      by_cases hr0 : r < 0
      · go_wp2_with (at_builtin; refine wpList_app_str HP.out.own rfl _ _ rfl k _ rfl _ rfl rfl (by omega) (HB.out.size) ?_)
        intro v2 w3 hown hg
        have HO := Lib.hid hown
        have HB3 := Lib.hid ((HB.out.alloc HB.out.size _).grown hg (by have := HB.out.size; simp; omega) (fun j hj => (HP.out.own.lt j hj).1))
        have HC3 := Lib.hid ((cat_snoc l k).trans HC.out)
        have HNE := Lib.hid (HP.out.ne)
        clear hown hg
        obtain ⟨so, sn, sc, rfl⟩ : ∃ so sn sc, v2 = .slice so sn sc := by
          rcases HO.out.2 with ⟨hv, _⟩ | ⟨g, cap, cur, hv, _⟩
          · exact ⟨_, _, _, hv⟩
          · exact ⟨_, _, _, hv⟩
        go_wp2
        go_ret
        exact ⟨.slice so sn sc, l ++ [k], rfl, ⟨by simpa using HO.out, fun x hx => by rcases List.mem_append.1 hx with h | h; exact HNE.out x h; simp at h; subst h; exact hk0⟩, HC3.out, by simp, HB3.out⟩
      · have hr1 := hr.resolve_left (by omega)
        obtain ⟨q, rfl⟩ : ∃ q : Nat, r = q := ⟨r.toNat, by omega⟩
        have q1 : (q : Int) ≤ (k.size : Int) := by omega
        have HX := Lib.hid (extract_cut k q (by omega))
        have e1 : (k.extract 0 q).size = q := by simp [ByteArray.size_extract]; omega
        have e2 : (k.extract q k.size).size = k.size - q := by simp [ByteArray.size_extract]
        have E1 := Lib.hid e1
        have E2 := Lib.hid e2
        clear e1 e2
        obtain ⟨x, hx⟩ : ∃ x, k.extract 0 q = x := ⟨_, rfl⟩
        obtain ⟨y, hy⟩ : ∃ y, k.extract q k.size = y := ⟨_, rfl⟩
        rw [hx, hy] at HX
        rw [hx] at E1
        rw [hy] at E2
        go_wp2_with (at_builtin; refine wpList_app_str HP.out.own rfl _ _ rfl x _ rfl _ rfl rfl (by omega) (HB.out.size) ?_)
        intro v2 w3 hown hg
        have HO := Lib.hid hown
        have HB3 := Lib.hid ((HB.out.alloc HB.out.size _).grown hg (by have := HB.out.size; simp; omega) (fun j hj => (HP.out.own.lt j hj).1))
        have HC3 : Hid (cat (l ++ [x]) ++ y = m) := Lib.hid (by rw [cat_snoc, app_assoc, HX.out]; exact HC.out)
        have HNE := Lib.hid (HP.out.ne)
        clear hown hg
        obtain ⟨so, sn, sc, rfl⟩ : ∃ so sn sc, v2 = .slice so sn sc := by
          rcases HO.out.2 with ⟨hv, _⟩ | ⟨g, cap, cur, hv, _⟩
          · exact ⟨_, _, _, hv⟩
          · exact ⟨_, _, _, hv⟩
        go_wp2
        try rw [hy]
        go_roundw
        case rel =>
          exact ⟨l ++ [x], y, rfl, ⟨by simpa using HO.out, fun z hz => by rcases List.mem_append.1 hz with h | h; exact HNE.out z h; simp at h; subst h; rw [E1.out]; omega⟩, HC3, by rw [E2.out]; omega, by rw [E2.out]; omega, HB3.out⟩
        case measure => show y.size < k.size; rw [E2.out]; omega
    · have h64' : ¬ (64 : Int) < (k.size : Int) := by omega
      go_wp2_with (at_builtin; refine wpList_app_str HP.out.own rfl _ _ rfl k _ rfl _ rfl rfl (by omega) (HB.out.size) ?_)
      intro v2 w3 hown hg
      have HO := Lib.hid hown
      have HB3 := Lib.hid ((HB.out.alloc HB.out.size _).grown hg (by have := HB.out.size; simp; omega) (fun j hj => (HP.out.own.lt j hj).1))
      have HC3 := Lib.hid ((cat_snoc l k).trans HC.out)
      have HNE := Lib.hid (HP.out.ne)
      clear hown hg
      obtain ⟨so, sn, sc, rfl⟩ : ∃ so sn sc, v2 = .slice so sn sc := by
        rcases HO.out.2 with ⟨hv, _⟩ | ⟨g, cap, cur, hv, _⟩
        · exact ⟨_, _, _, hv⟩
        · exact ⟨_, _, _, hv⟩
      go_wp2
      go_ret
      exact ⟨.slice so sn sc, l ++ [k], rfl, ⟨by simpa using HO.out, fun x hx => by rcases List.mem_append.1 hx with h | h; exact HNE.out x h; simp at h; subst h; exact hk0⟩, HC3.out, by simp, HB3.out⟩
end Go.Proofs.YtgmpohdkignadaaGreatDoor.Ut
