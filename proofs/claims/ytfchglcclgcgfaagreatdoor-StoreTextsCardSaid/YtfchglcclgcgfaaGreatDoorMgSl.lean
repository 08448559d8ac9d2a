/-
  What the proof of the laws S rests on: the texts RoG BldA RoH. Conditions: each theorem names its own.
-/
import Derived.Test.YtfchglcclgcgfaaGreatDoorMgSk
import Derived.Test.YtfchglcclgcgfaaGreatDoorMgSa
import Derived.Shelf.Strings.Builder1
/-
 rope: (*node).part. Condition: the two tables of unicode/utf8 lie as laid; no leaf of a knot is empty.
-/
namespace Go.Proofs.YtfchglcclgcgfaaGreatDoor.Ut
open Go.RowKit Go.Proofs.YtfchglcclgcgfaaGreatDoor.Reg
set_option linter.unusedVariables false
set_option linter.unusedSimpArgs false

/-- A list of leaves parted at the one in which a place lies: what is ahead, the leaf, the place in it, what is behind. -/
def partL : List ByteArray → Nat → List ByteArray × ByteArray × Nat × List ByteArray
 | [], a => ([], ⟨#[]⟩, a, [])
 | [s], a => ([], s, a, [])
 | s :: t :: r, a => if a < s.size then ([], s, a, t :: r) else (s :: (partL (t :: r) (a - s.size)).1, (partL (t :: r) (a - s.size)).2)
theorem cat_nil_size : (cat []).size = 0 := rfl
theorem cat_cons_size (s : ByteArray) (r : List ByteArray) : (cat (s :: r)).size = s.size + (cat r).size := by show (s ++ cat r).size = _; rw [ByteArray.size_append]
theorem cat_one_size (s : ByteArray) : (cat [s]).size = s.size := by rw [cat_cons_size, cat_nil_size]; omega
theorem partL_left : ∀ (L R : List ByteArray) (a : Nat), a < (cat L).size → partL (L ++ R) a = ((partL L a).1, (partL L a).2.1, (partL L a).2.2.1, (partL L a).2.2.2 ++ R)
 | [], R, a, h => by rw [cat_nil_size] at h; omega
 | [s], R, a, h => by
  have hs : a < s.size := by rw [cat_one_size] at h; exact h
  cases R with
  | nil => simp [partL]
  | cons t r => show partL (s :: t :: r) a = _; unfold partL; rw [if_pos hs]; rfl
 | s :: t :: r, R, a, h => by
  show partL (s :: t :: (r ++ R)) a = _
  rw [partL, partL]
  by_cases hs : a < s.size
  ·rw [if_pos hs, if_pos hs]; rfl
  ·rw [if_neg hs, if_neg hs]
   have : a - s.size < (cat (t :: r)).size := by
    have e : (cat (s :: t :: r)).size = s.size + (cat (t :: r)).size := by show (s ++ cat (t :: r)).size = _; rw [ByteArray.size_append]
    omega
   have ih := partL_left (t :: r) R (a - s.size) this
   rw [List.cons_append] at ih
   rw [ih]
theorem partL_right : ∀ (L R : List ByteArray) (a : Nat), (cat L).size ≤ a → R ≠ [] → partL (L ++ R) a = (L ++ (partL R (a - (cat L).size)).1, (partL R (a - (cat L).size)).2)
 | [], R, a, h, hR => by rw [cat_nil_size, Nat.sub_zero]; rfl
 | s :: r, R, a, h, hR => by
  have e : (cat (s :: r)).size = s.size + (cat r).size := by show (s ++ cat r).size = _; rw [ByteArray.size_append]
  have ih := partL_right r R (a - s.size) (by omega) hR
  rw [show a - s.size - (cat r).size = a - (cat (s :: r)).size by omega] at ih
  cases hx : r ++ R with
  | nil => simp at hx; exact absurd hx.2 hR
  | cons t u =>
   rw [hx] at ih
   show partL (s :: (r ++ R)) a = _
   rw [hx, partL, if_neg (by omega), ih]
   rfl
theorem partL_ok : ∀ (L : List ByteArray) (a : Nat), L ≠ [] → a ≤ (cat L).size → (partL L a).1 ++ (partL L a).2.1 :: (partL L a).2.2.2 = L ∧ (cat (partL L a).1).size + (partL L a).2.2.1 = a ∧ (partL L a).2.2.1 ≤ (partL L a).2.1.size
 | [], a, h, _ => absurd rfl h
 | [s], a, _, h => by
  have hs : a ≤ s.size := by rw [cat_one_size] at h; exact h
  exact ⟨rfl, by show (cat []).size + a = a; rw [cat_nil_size]; omega, hs⟩
 | s :: t :: r, a, _, h => by
  have e : (cat (s :: t :: r)).size = s.size + (cat (t :: r)).size := by show (s ++ cat (t :: r)).size = _; rw [ByteArray.size_append]
  rw [partL]
  by_cases hs : a < s.size
  ·rw [if_pos hs]; exact ⟨rfl, by show (cat []).size + a = a; rw [cat_nil_size]; omega, Nat.le_of_lt hs⟩
  ·rw [if_neg hs]
   obtain ⟨x, y, z⟩ := partL_ok (t :: r) (a - s.size) (by simp) (by omega)
   refine ⟨by simpa using x, ?_, z⟩
   have e2 : (cat (s :: (partL (t :: r) (a - s.size)).1)).size = s.size + (cat (partL (t :: r) (a - s.size)).1).size := by show (s ++ cat _).size = _; rw [ByteArray.size_append]
   simp only
   rw [e2]; omega

def OptV (L : List ByteArray) (v : Value) (w : World) : Prop := ∃ o, IsOpt w v o ∧ lvs o = L
theorem OptV.below {L : List ByteArray} {v : Value} {w w' : World} (h : OptV L v w) (hb : Below w.heap.size w w') : OptV L v w' := by
 obtain ⟨o, h1, h2⟩ := h; exact ⟨o, h1.below hb, h2⟩
theorem OptV.none (w : World) : OptV [] (.pointer none) w := ⟨.none, rfl, rfl⟩
theorem OptV.of {w : World} {b : Nat} {t : Tr} (h : IsTr w b t) : OptV t.leaves (ptr b) w := ⟨some t, ⟨b, rfl, h⟩, rfl⟩
theorem joinV (v1 v2 : Value) (L1 L2 : List ByteArray) (w : World) (hT : Tabs w) (hl : OptV L1 v1 w) (hr : OptV L2 v2 w) (ho : OkL (L1 ++ L2)) :
  Calls Tryz.prog 161 #[v1, v2] w fun e w' => ∃ v, e = .returned v ∧ OptV (L1 ++ L2) v w' ∧ Below w.heap.size w w' := by
 obtain ⟨l, h1, rfl⟩ := hl
 obtain ⟨r, h2, rfl⟩ := hr
 refine (join_any v1 v2 l r w hT h1 h2 ho).mono ?_
 rintro e w' ⟨v, t, rfl, h3, h4, hb⟩
 exact ⟨v, rfl, ⟨t, h3, h4⟩, hb⟩
/-- What part answers. -/
def PartTo (L : List ByteArray) (a : Nat) (w : World) : Ending → World → Prop := fun e w' => ∃ v1 v2, e = .returned (.tuple #[v1, .string (partL L a).2.1, .int .i64 (partL L a).2.2.1, v2]) ∧ OptV (partL L a).1 v1 w' ∧ OptV (partL L a).2.2.2 v2 w' ∧ Below w.heap.size w w'

def VPart (X k1 k2 : Nat) (sz a z2 : Nat) (p q : List ByteArray) (s : ByteArray) (o : Nat) : Nat → Value → World → Prop := fun d x w => match d with
 | 49 => x = .pointer (some ⟨X, 0, none⟩)
 | 50 => x = .pointer (some ⟨X, 0, none⟩)
 | 51 => x = .pointer (some ⟨X, 1, none⟩)
 | 52 => x = .pointer (some ⟨k2, 0, none⟩)
 | 53 => x = .int .i64 a
 | 54 => x = .pointer (some ⟨X, 0, none⟩)
 | 55 => x = .pointer (some ⟨X, 0, none⟩)
 | 56 => x = .pointer (some ⟨X, 0, none⟩)
 | 57 => x = .pointer (some ⟨k1, 0, none⟩)
 | 58 => x = .pointer (some ⟨k1, 0, none⟩)
 | 59 => x = .pointer (some ⟨k1, 3, none⟩)
 | 60 => x = .pointer (some ⟨k1, 3, none⟩)
 | 61 => x = .int .i64 sz
 | 62 => x = .int .i64 z2
 | 63 => ∃ v1 v2, x = .tuple #[v1, .string s, .int .i64 o, v2] ∧ OptV p v1 w ∧ OptV q v2 w
 | 48 => ∃ v1 v2, x = .tuple #[v1, .string s, .int .i64 o, v2] ∧ OptV p v1 w ∧ OptV q v2 w
 | 64 => OptV p x w
 | 65 => x = .string s
 | 66 => x = .int .i64 o
 | 67 => OptV q x w
 | 4 => OptV p x w
 | 5 => x = .string s
 | 6 => x = .int .i64 o
 | 7 => OptV q x w
 | _ => True
theorem VPart_mono (X k1 k2 : Nat) (sz a z2 : Nat) (p q : List ByteArray) (s : ByteArray) (o : Nat) : ∀ d x w w', VPart X k1 k2 sz a z2 p q s o d x w → Below w.heap.size w w' → VPart X k1 k2 sz a z2 p q s o d x w' := by
 intro d x w w' h hb
 unfold VPart at *
 split <;> first | exact h | exact trivial | skip
 all_goals first | exact h.below hb | (obtain ⟨v1, v2, h1, h2, h3⟩ := h; exact ⟨v1, v2, h1, h2.below hb, h3.below hb⟩)
theorem IsTr.sumBytes {W : World} {t : Tr} {b : Nat} (h : IsTr W b t) : W.cell? ⟨b, 3, none⟩ = some (.int .i64 t.text.size) := by
 obtain ⟨l, r, s, H⟩ := h.node
 exact (H.2 3 _ rfl).1
theorem IsTr.lt {W : World} {t : Tr} {b : Nat} (h : IsTr W b t) : b < W.heap.size := by
 obtain ⟨l, r, s, H⟩ := h.node
 exact H.1

set_option maxRecDepth 100000 in
set_option maxHeartbeats 4000000 in
theorem part_leaf (X : Nat) (s : ByteArray) (a : Nat) (w : World) (h : IsTr w X (.leaf s)) : Calls Tryz.prog 163 #[ptr X, .int .i64 a] w (PartTo [s] a w) := by
 have hL : Lies w X (nodeV (.pointer none) (.pointer none) 0 (measF s) s) := Blk.lies h
 have c0 := (hL.2 0 _ rfl).1
 have c10 := (hL.2 10 _ rfl).1
 clear h hL
 unfold PartTo partL ptr
 go_enter Tryz.func163, Tryz.ntmps163
 go_wp2
 go_quiet (fail)
 go_wp2
 refine bodyPost_ret (v := .tuple #[.pointer none, .string s, .int .i64 a, .pointer none]) (by simp [results, Tryz.results163, go_sem]) rfl ⟨_, _, rfl, OptV.none _, OptV.none _, Drawn.below _⟩

theorem cat_app_size (A B : List ByteArray) : (cat (A ++ B)).size = (cat A).size + (cat B).size := by rw [cat_app, ByteArray.size_append]
theorem OkL.right {A B : List ByteArray} (h : OkL (A ++ B)) : OkL B := ⟨fun x hx => h.ne x (List.mem_append_right _ hx), by have := h.sz; rw [cat_app_size] at this; omega⟩
theorem OkL.left {A B : List ByteArray} (h : OkL (A ++ B)) : OkL A := ⟨fun x hx => h.ne x (List.mem_append_left _ hx), by have := h.sz; rw [cat_app_size] at this; omega⟩
theorem OkL.tail {s : ByteArray} {B : List ByteArray} (h : OkL (s :: B)) : OkL B := OkL.right (A := [s]) h
theorem OkL.leaf_le {A : List ByteArray} (h : OkL A) : ∀ x ∈ A, x.size ≤ 4294967296 := by
 intro x hx
 obtain ⟨P, Q, rfl⟩ := List.append_of_mem hx
 have := h.sz
 rw [cat_app_size, cat_cons_size] at this
 omega

set_option maxRecDepth 100000 in
set_option maxHeartbeats 4000000 in
theorem part_L (X k1 k2 : Nat) (l r : Tr) (a : Nat) (w : World) (ih : ∀ w', Tabs w' → IsTr w' k1 l → Calls Tryz.prog 163 #[ptr k1, .int .i64 a] w' (PartTo l.leaves a w')) (hT : Tabs w) (h1 : IsTr w k1 l) (h2 : IsTr w k2 r) (n : Nd w X (ptr k1) (ptr k2) (Tr.knot l r).ht) (ho : (Tr.knot l r).Ok) (hlt : a < l.text.size) :
  Calls Tryz.prog 163 #[ptr X, .int .i64 a] w (PartTo (l.leaves ++ r.leaves) a w) := by
 have hs := h1.sumBytes
 rw [Tr.text_leaves] at hlt
 unfold PartTo
 rw [partL_left _ _ _ hlt]
 dsimp only
 rw [← Tr.text_leaves] at hlt
 have hpo := partL_ok l.leaves a l.leaves_ne (by rw [← Tr.text_leaves]; omega)
 have hO : OkL (l.leaves ++ r.leaves) := Tr.ok_iff.1 ho
 have ho2 : OkL ((partL l.leaves a).2.2.2 ++ r.leaves) := by
  rw [← hpo.1, List.append_assoc] at hO
  exact OkL.tail (OkL.right hO)
 have O2 := Lib.hid ho2
 have IH := Lib.hid (ih w hT h1)
 have H2 := Lib.hid h2
 have HT := Lib.hid hT
 have N := Lib.hid n
 have c0 := n.l
 have q : (a : Int) < (l.text.size : Int) := by omega
 unfold PartTo at IH
 clear hlt hpo hO ho2 ih h1 h2 hT n ho
 generalize l.text.size = z at *
 obtain ⟨L, hL⟩ : ∃ L, partL l.leaves a = L := ⟨_, rfl⟩
 rw [hL] at IH O2 ⊢
 obtain ⟨P, s, o, Q⟩ := L
 dsimp only at *
 clear hL
 unfold ptr at *
 go_enter Tryz.func163, Tryz.ntmps163
 go_wp2_with fail
 refine IH.out.mono ?_
 rintro e w1 ⟨v1, v2, rfl, g1, g2, hb⟩
 have G1 := Lib.hid g1
 have G2 := Lib.hid g2
 have HB := Lib.hid (Below.refl w.heap.size w)
 have H2 := Lib.hid (H2.out.below hb)
 have N := Lib.hid (N.out.below hb)
 have HT := Lib.hid (tabs_below HT.out hb)
 have HB := Lib.hid (HB.out.trans (hb.mono HB.out.size))
 clear hb
 clear c0 hs g1 g2 IH
 have c1 := N.out.r
 unfold ptr at c1
 go_wp2_with fail
 refine (joinV v2 (ptr k2) Q r.leaves w1 HT.out G2.out (OptV.of H2.out) O2.out).mono ?_
 rintro e w2 ⟨v, rfl, g3, hb⟩
 have G3 := Lib.hid g3
 have G4 := Lib.hid (G1.out.below hb)
 have HB := Lib.hid (HB.out.trans (hb.mono HB.out.size))
 clear hb
 clear g3 c1
 go_wp2
 refine bodyPost_ret (v := .tuple #[v1, .string s, .int .i64 o, v]) (by simp [results, Tryz.results163, go_sem]) rfl ⟨_, _, rfl, G4.out, G3.out, HB.out⟩

set_option maxRecDepth 100000 in
set_option maxHeartbeats 4000000 in
theorem part_R (X k1 k2 : Nat) (l r : Tr) (a : Nat) (w : World) (ih : ∀ w', Tabs w' → IsTr w' k2 r → Calls Tryz.prog 163 #[ptr k2, .int .i64 (a - l.text.size : Nat)] w' (PartTo r.leaves (a - l.text.size) w')) (hT : Tabs w) (h1 : IsTr w k1 l) (h2 : IsTr w k2 r) (n : Nd w X (ptr k1) (ptr k2) (Tr.knot l r).ht) (ho : (Tr.knot l r).Ok) (hlt : l.text.size ≤ a) (hle : a ≤ (Tr.knot l r).text.size) :
  Calls Tryz.prog 163 #[ptr X, .int .i64 a] w (PartTo (l.leaves ++ r.leaves) a w) := by
 have hs := h1.sumBytes
 have hz := ho.sz
 have hrs : a - l.text.size ≤ (cat r.leaves).size := by
  rw [← Tr.text_leaves]; simp only [Tr.text, ByteArray.size_append] at hle; omega
 unfold PartTo
 rw [partL_right _ _ _ (by rw [← Tr.text_leaves]; exact hlt) r.leaves_ne]
 rw [← Tr.text_leaves]
 dsimp only
 have hpo := partL_ok r.leaves (a - l.text.size) r.leaves_ne hrs
 have hO : OkL (l.leaves ++ r.leaves) := Tr.ok_iff.1 ho
 have ho2 : OkL (l.leaves ++ (partL r.leaves (a - l.text.size)).1) := by
  rw [← hpo.1, ← List.append_assoc] at hO
  exact OkL.left hO
 have O2 := Lib.hid ho2
 have IH := Lib.hid ih
 have H1 := Lib.hid h1
 have H2 := Lib.hid h2
 have HT := Lib.hid hT
 have N := Lib.hid n
 have c0 := n.l
 have ltX := n.lt
 have lt1 := h1.lt
 have q : ¬ (a : Int) < (l.text.size : Int) := by omega
 have e62 : IntKind.i64.wrap ((a : Int) - (l.text.size : Int)) = ((a - l.text.size : Nat) : Int) := by rw [IntWalk.i64_in _ (by omega)]; omega
 have E62 := Lib.hid e62
 have HB := Lib.hid (Below.refl w.heap.size w)
 unfold PartTo at IH
 clear hpo hO ho2 ih h1 h2 hT n ho hrs hle e62 hz hlt
 obtain ⟨z, hzz⟩ : ∃ z, l.text.size = z := ⟨_, rfl⟩
 rw [hzz] at hs q E62 IH O2 ⊢
 clear hzz
 obtain ⟨z2, hzz⟩ : ∃ z2, a - z = z2 := ⟨_, rfl⟩
 rw [hzz] at E62 IH O2 ⊢
 clear hzz
 obtain ⟨L, hL⟩ : ∃ L, partL r.leaves z2 = L := ⟨_, rfl⟩
 rw [hL] at IH O2 ⊢
 obtain ⟨P, s, o, Q⟩ := L
 dsimp only at *
 clear hL
 have hS := Lib.hid hs
 unfold ptr at *
 go_enter Tryz.func163, Tryz.ntmps163
 go_wp2
 refine wp_held' mixed (VPart X k1 k2 z a z2 P Q s o) (VPart_mono _ _ _ _ _ _ _ _ _ _) (by kernel_rfl) [49, 50, 51, 52, 53, 54, 55, 56, 57, 58, 59, 60, 61, 62, 63, 48, 64, 65, 66, 67, 4, 5, 6, 7] (by kernel_rfl) (by kernel_rfl) ?_ ?_
 ·intro j hj
  have hj' : j < 24 := hj
  rcases (by omega : j = 0 ∨ j = 1 ∨ j = 2 ∨ j = 3 ∨ j = 4 ∨ j = 5 ∨ j = 6 ∨ j = 7 ∨ j = 8 ∨ j = 9 ∨ j = 10 ∨ j = 11 ∨ j = 12 ∨ j = 13 ∨ j = 14 ∨ j = 15 ∨ j = 16 ∨ j = 17 ∨ j = 18 ∨ j = 19 ∨ j = 20 ∨ j = 21 ∨ j = 22 ∨ j = 23) with rfl | rfl | rfl | rfl | rfl | rfl | rfl | rfl | rfl | rfl | rfl | rfl | rfl | rfl | rfl | rfl | rfl | rfl | rfl | rfl | rfl | rfl | rfl | rfl
  ·(refine owes_val (L := [(0, false)]) rfl rfl rfl (by kernel_rfl) ?_; intro a' w' hb' hfacts; obtain ⟨hf0, -⟩ := hfacts; replace hf0 : a'.tmps[0]?.getD undef = .pointer (some ⟨X, 0, none⟩) := hf0)
   have pX := (N.out.below hb').l; have sX := (N.out.below hb').r; have zX := (hb'.cell (p := ⟨k1, 3, none⟩) lt1).trans hS.out; unfold ptr at pX sX
   (go_simp; first | exact ⟨_, rfl, Br _, rfl⟩ | exact ⟨_, rfl, Br _, trivial⟩ | exact ⟨_, rfl, Ba _ _, trivial⟩ | exact ⟨_, rfl, Br _, congrArg (Value.int _) (IntWalk.i64_in _ (by omega))⟩)
  ·(refine owes_val (L := [(49, true)]) rfl rfl rfl (by kernel_rfl) ?_; intro a' w' hb' hfacts; obtain ⟨hf49, -⟩ := hfacts; try simp only [VPart] at hf49)
   have pX := (N.out.below hb').l; have sX := (N.out.below hb').r; have zX := (hb'.cell (p := ⟨k1, 3, none⟩) lt1).trans hS.out; unfold ptr at pX sX
   (go_simp; first | exact ⟨_, rfl, Br _, rfl⟩ | exact ⟨_, rfl, Br _, trivial⟩ | exact ⟨_, rfl, Ba _ _, trivial⟩ | exact ⟨_, rfl, Br _, congrArg (Value.int _) (IntWalk.i64_in _ (by omega))⟩)
  ·(refine owes_val (L := [(50, true)]) rfl rfl rfl (by kernel_rfl) ?_; intro a' w' hb' hfacts; obtain ⟨hf50, -⟩ := hfacts; try simp only [VPart] at hf50)
   have pX := (N.out.below hb').l; have sX := (N.out.below hb').r; have zX := (hb'.cell (p := ⟨k1, 3, none⟩) lt1).trans hS.out; unfold ptr at pX sX
   (go_simp; first | exact ⟨_, rfl, Br _, rfl⟩ | exact ⟨_, rfl, Br _, trivial⟩ | exact ⟨_, rfl, Ba _ _, trivial⟩ | exact ⟨_, rfl, Br _, congrArg (Value.int _) (IntWalk.i64_in _ (by omega))⟩)
  ·(refine owes_val (L := [(51, true)]) rfl rfl rfl (by kernel_rfl) ?_; intro a' w' hb' hfacts; obtain ⟨hf51, -⟩ := hfacts; try simp only [VPart] at hf51)
   have pX := (N.out.below hb').l; have sX := (N.out.below hb').r; have zX := (hb'.cell (p := ⟨k1, 3, none⟩) lt1).trans hS.out; unfold ptr at pX sX
   (go_simp; first | exact ⟨_, rfl, Br _, rfl⟩ | exact ⟨_, rfl, Br _, trivial⟩ | exact ⟨_, rfl, Ba _ _, trivial⟩ | exact ⟨_, rfl, Br _, congrArg (Value.int _) (IntWalk.i64_in _ (by omega))⟩)
  ·(refine owes_val (L := [(1, false)]) rfl rfl rfl (by kernel_rfl) ?_; intro a' w' hb' hfacts; obtain ⟨hf1, -⟩ := hfacts; replace hf1 : a'.tmps[1]?.getD undef = .int .i64 a := hf1)
   have pX := (N.out.below hb').l; have sX := (N.out.below hb').r; have zX := (hb'.cell (p := ⟨k1, 3, none⟩) lt1).trans hS.out; unfold ptr at pX sX
   (go_simp; first | exact ⟨_, rfl, Br _, rfl⟩ | exact ⟨_, rfl, Br _, trivial⟩ | exact ⟨_, rfl, Ba _ _, trivial⟩ | exact ⟨_, rfl, Br _, congrArg (Value.int _) (IntWalk.i64_in _ (by omega))⟩)
  ·(refine owes_val (L := [(0, false)]) rfl rfl rfl (by kernel_rfl) ?_; intro a' w' hb' hfacts; obtain ⟨hf0, -⟩ := hfacts; replace hf0 : a'.tmps[0]?.getD undef = .pointer (some ⟨X, 0, none⟩) := hf0)
   have pX := (N.out.below hb').l; have sX := (N.out.below hb').r; have zX := (hb'.cell (p := ⟨k1, 3, none⟩) lt1).trans hS.out; unfold ptr at pX sX
   (go_simp; first | exact ⟨_, rfl, Br _, rfl⟩ | exact ⟨_, rfl, Br _, trivial⟩ | exact ⟨_, rfl, Ba _ _, trivial⟩ | exact ⟨_, rfl, Br _, congrArg (Value.int _) (IntWalk.i64_in _ (by omega))⟩)
  ·(refine owes_val (L := [(54, true)]) rfl rfl rfl (by kernel_rfl) ?_; intro a' w' hb' hfacts; obtain ⟨hf54, -⟩ := hfacts; try simp only [VPart] at hf54)
   have pX := (N.out.below hb').l; have sX := (N.out.below hb').r; have zX := (hb'.cell (p := ⟨k1, 3, none⟩) lt1).trans hS.out; unfold ptr at pX sX
   (go_simp; first | exact ⟨_, rfl, Br _, rfl⟩ | exact ⟨_, rfl, Br _, trivial⟩ | exact ⟨_, rfl, Ba _ _, trivial⟩ | exact ⟨_, rfl, Br _, congrArg (Value.int _) (IntWalk.i64_in _ (by omega))⟩)
  ·(refine owes_val (L := [(55, true)]) rfl rfl rfl (by kernel_rfl) ?_; intro a' w' hb' hfacts; obtain ⟨hf55, -⟩ := hfacts; try simp only [VPart] at hf55)
   have pX := (N.out.below hb').l; have sX := (N.out.below hb').r; have zX := (hb'.cell (p := ⟨k1, 3, none⟩) lt1).trans hS.out; unfold ptr at pX sX
   (go_simp; first | exact ⟨_, rfl, Br _, rfl⟩ | exact ⟨_, rfl, Br _, trivial⟩ | exact ⟨_, rfl, Ba _ _, trivial⟩ | exact ⟨_, rfl, Br _, congrArg (Value.int _) (IntWalk.i64_in _ (by omega))⟩)
  ·(refine owes_val (L := [(56, true)]) rfl rfl rfl (by kernel_rfl) ?_; intro a' w' hb' hfacts; obtain ⟨hf56, -⟩ := hfacts; try simp only [VPart] at hf56)
   have pX := (N.out.below hb').l; have sX := (N.out.below hb').r; have zX := (hb'.cell (p := ⟨k1, 3, none⟩) lt1).trans hS.out; unfold ptr at pX sX
   (go_simp; first | exact ⟨_, rfl, Br _, rfl⟩ | exact ⟨_, rfl, Br _, trivial⟩ | exact ⟨_, rfl, Ba _ _, trivial⟩ | exact ⟨_, rfl, Br _, congrArg (Value.int _) (IntWalk.i64_in _ (by omega))⟩)
  ·(refine owes_val (L := [(57, true)]) rfl rfl rfl (by kernel_rfl) ?_; intro a' w' hb' hfacts; obtain ⟨hf57, -⟩ := hfacts; try simp only [VPart] at hf57)
   have pX := (N.out.below hb').l; have sX := (N.out.below hb').r; have zX := (hb'.cell (p := ⟨k1, 3, none⟩) lt1).trans hS.out; unfold ptr at pX sX
   (go_simp; first | exact ⟨_, rfl, Br _, rfl⟩ | exact ⟨_, rfl, Br _, trivial⟩ | exact ⟨_, rfl, Ba _ _, trivial⟩ | exact ⟨_, rfl, Br _, congrArg (Value.int _) (IntWalk.i64_in _ (by omega))⟩)
  ·(refine owes_val (L := [(58, true)]) rfl rfl rfl (by kernel_rfl) ?_; intro a' w' hb' hfacts; obtain ⟨hf58, -⟩ := hfacts; try simp only [VPart] at hf58)
   have pX := (N.out.below hb').l; have sX := (N.out.below hb').r; have zX := (hb'.cell (p := ⟨k1, 3, none⟩) lt1).trans hS.out; unfold ptr at pX sX
   (go_simp; first | exact ⟨_, rfl, Br _, rfl⟩ | exact ⟨_, rfl, Br _, trivial⟩ | exact ⟨_, rfl, Ba _ _, trivial⟩ | exact ⟨_, rfl, Br _, congrArg (Value.int _) (IntWalk.i64_in _ (by omega))⟩)
  ·(refine owes_val (L := [(59, true)]) rfl rfl rfl (by kernel_rfl) ?_; intro a' w' hb' hfacts; obtain ⟨hf59, -⟩ := hfacts; try simp only [VPart] at hf59)
   have pX := (N.out.below hb').l; have sX := (N.out.below hb').r; have zX := (hb'.cell (p := ⟨k1, 3, none⟩) lt1).trans hS.out; unfold ptr at pX sX
   (go_simp; first | exact ⟨_, rfl, Br _, rfl⟩ | exact ⟨_, rfl, Br _, trivial⟩ | exact ⟨_, rfl, Ba _ _, trivial⟩ | exact ⟨_, rfl, Br _, congrArg (Value.int _) (IntWalk.i64_in _ (by omega))⟩)
  ·(refine owes_val (L := [(60, true)]) rfl rfl rfl (by kernel_rfl) ?_; intro a' w' hb' hfacts; obtain ⟨hf60, -⟩ := hfacts; try simp only [VPart] at hf60)
   have pX := (N.out.below hb').l; have sX := (N.out.below hb').r; have zX := (hb'.cell (p := ⟨k1, 3, none⟩) lt1).trans hS.out; unfold ptr at pX sX
   (go_simp; first | exact ⟨_, rfl, Br _, rfl⟩ | exact ⟨_, rfl, Br _, trivial⟩ | exact ⟨_, rfl, Ba _ _, trivial⟩ | exact ⟨_, rfl, Br _, congrArg (Value.int _) (IntWalk.i64_in _ (by omega))⟩)
  ·(refine owes_val (L := [(53, true), (61, true)]) rfl rfl rfl (by kernel_rfl) ?_; intro a' w' hb' hfacts; obtain ⟨hf53, hf61, -⟩ := hfacts; try simp only [VPart] at hf53; try simp only [VPart] at hf61)
   go_simp
   exact ⟨_, rfl, Below.refl _ _, congrArg (Value.int _) E62.out⟩
  ·(refine owes_val (L := [(52, true), (62, true)]) rfl rfl rfl (by kernel_rfl) ?_; intro a' w' hb' hfacts; obtain ⟨hf52, hf62, -⟩ := hfacts; try simp only [VPart] at hf52; try simp only [VPart] at hf62)
   go_simp
   refine (IH.out _ (tabs_below HT.out hb') (H2.out.below hb')).mono ?_
   rintro e w3 ⟨v1, v2, rfl, g1, g2, hb3⟩
   exact ⟨_, rfl, hb3, v1, v2, rfl, g1, g2⟩
  ·(refine owes_val (L := [(63, true)]) rfl rfl rfl (by kernel_rfl) ?_; intro a' w' hb' hfacts; obtain ⟨hf63, -⟩ := hfacts; try simp only [VPart] at hf63)
   obtain ⟨v1, v2, hh, g1, g2⟩ := hf63
   go_simp
   exact ⟨_, rfl, Below.refl _ _, v1, v2, rfl, g1, g2⟩
  ·(refine owes_val (L := [(48, true)]) rfl rfl rfl (by kernel_rfl) ?_; intro a' w' hb' hfacts; obtain ⟨hf48, -⟩ := hfacts; try simp only [VPart] at hf48)
   obtain ⟨v1, v2, hh, g1, g2⟩ := hf48
   go_simp
   exact ⟨_, rfl, Below.refl _ _, g1⟩
  ·(refine owes_val (L := [(48, true)]) rfl rfl rfl (by kernel_rfl) ?_; intro a' w' hb' hfacts; obtain ⟨hf48, -⟩ := hfacts; try simp only [VPart] at hf48)
   obtain ⟨v1, v2, hh, g1, g2⟩ := hf48
   go_simp
   exact ⟨_, rfl, Below.refl _ _, rfl⟩
  ·(refine owes_val (L := [(48, true)]) rfl rfl rfl (by kernel_rfl) ?_; intro a' w' hb' hfacts; obtain ⟨hf48, -⟩ := hfacts; try simp only [VPart] at hf48)
   obtain ⟨v1, v2, hh, g1, g2⟩ := hf48
   go_simp
   exact ⟨_, rfl, Below.refl _ _, rfl⟩
  ·(refine owes_val (L := [(48, true)]) rfl rfl rfl (by kernel_rfl) ?_; intro a' w' hb' hfacts; obtain ⟨hf48, -⟩ := hfacts; try simp only [VPart] at hf48)
   obtain ⟨v1, v2, hh, g1, g2⟩ := hf48
   go_simp
   exact ⟨_, rfl, Below.refl _ _, g2⟩
  ·(refine owes_val (L := [(64, true)]) rfl rfl rfl (by kernel_rfl) ?_; intro a' w' hb' hfacts; obtain ⟨hf64, -⟩ := hfacts; try simp only [VPart] at hf64)
   go_simp
   exact ⟨_, rfl, Below.refl _ _, hf64⟩
  ·(refine owes_val (L := [(65, true)]) rfl rfl rfl (by kernel_rfl) ?_; intro a' w' hb' hfacts; obtain ⟨hf65, -⟩ := hfacts; try simp only [VPart] at hf65)
   have pX := (N.out.below hb').l; have sX := (N.out.below hb').r; have zX := (hb'.cell (p := ⟨k1, 3, none⟩) lt1).trans hS.out; unfold ptr at pX sX
   (go_simp; first | exact ⟨_, rfl, Br _, rfl⟩ | exact ⟨_, rfl, Br _, trivial⟩ | exact ⟨_, rfl, Ba _ _, trivial⟩ | exact ⟨_, rfl, Br _, congrArg (Value.int _) (IntWalk.i64_in _ (by omega))⟩)
  ·(refine owes_val (L := [(66, true)]) rfl rfl rfl (by kernel_rfl) ?_; intro a' w' hb' hfacts; obtain ⟨hf66, -⟩ := hfacts; try simp only [VPart] at hf66)
   have pX := (N.out.below hb').l; have sX := (N.out.below hb').r; have zX := (hb'.cell (p := ⟨k1, 3, none⟩) lt1).trans hS.out; unfold ptr at pX sX
   (go_simp; first | exact ⟨_, rfl, Br _, rfl⟩ | exact ⟨_, rfl, Br _, trivial⟩ | exact ⟨_, rfl, Ba _ _, trivial⟩ | exact ⟨_, rfl, Br _, congrArg (Value.int _) (IntWalk.i64_in _ (by omega))⟩)
  ·(refine owes_val (L := [(67, true)]) rfl rfl rfl (by kernel_rfl) ?_; intro a' w' hb' hfacts; obtain ⟨hf67, -⟩ := hfacts; try simp only [VPart] at hf67)
   go_simp
   exact ⟨_, rfl, Below.refl _ _, hf67⟩
 ·intro f W9 hf hb3
  have f4 : OptV P (f 4) W9 := hf 4 (by decide)
  have f5 : f 5 = .string s := hf 5 (by decide)
  have f6 : f 6 = .int .i64 o := hf 6 (by decide)
  have f7 : OptV Q (f 7) W9 := hf 7 (by decide)
  have F4 := Lib.hid f4
  have F7 := Lib.hid f7
  have H1 := Lib.hid (H1.out.below hb3)
  have N := Lib.hid (N.out.below hb3)
  have HT := Lib.hid (tabs_below HT.out hb3)
  have HB := Lib.hid (HB.out.trans (hb3.mono HB.out.size))
  clear hb3
  clear hf f4 f7 c0 hs
  have c0 := N.out.l
  unfold ptr at c0
  simp only [putAll, put_lit, List.map_cons, List.map_nil, List.set_cons_succ, List.set_cons_zero]
  simp only [f5, f6]
  generalize f 4 = v1 at *
  generalize f 7 = v2 at *
  clear f5 f6
  go_wp2_with fail
  refine (joinV (ptr k1) v1 l.leaves P W9 HT.out (OptV.of H1.out) F4.out O2.out).mono ?_
  rintro e w2 ⟨v, rfl, g3, hb⟩
  have G3 := Lib.hid g3
  have G4 := Lib.hid (F7.out.below hb)
  have HB := Lib.hid (HB.out.trans (hb.mono HB.out.size))
  clear hb
  clear g3 c0
  go_wp2
  refine bodyPost_ret (v := .tuple #[v, .string s, .int .i64 o, v2]) (by simp [results, Tryz.results163, go_sem]) rfl ⟨_, _, rfl, G3.out, G4.out, HB.out⟩

theorem part_any : ∀ (t : Tr) (X a : Nat) (w : World), Tabs w → IsTr w X t → (t.Ok ∨ ∃ s, t = .leaf s) → a ≤ t.text.size → Calls Tryz.prog 163 #[ptr X, .int .i64 a] w (PartTo t.leaves a w)
 | .leaf s, X, a, w, hT, h, _, _ => part_leaf X s a w h
 | .knot l r, X, a, w, hT, ⟨x, y, hx, hy, hL⟩, ho, ha => by
  have ho' : (Tr.knot l r).Ok := by
   rcases ho with h | ⟨s, h⟩
   ·exact h
   ·cases h
  by_cases hlt : a < l.text.size
  ·exact part_L X x y l r a w (fun w' hT' h' => part_any l x a w' hT' h' (.inl ho'.left) (by omega)) hT hx hy (Nd.of hL.lies) ho' hlt
  ·exact part_R X x y l r a w (fun w' hT' h' => part_any r y (a - l.text.size) w' hT' h' (.inl ho'.right) (by simp only [Tr.text, ByteArray.size_append] at ha; omega)) hT hx hy (Nd.of hL.lies) ho' (by omega) ha
end Go.Proofs.YtfchglcclgcgfaaGreatDoor.Ut
/-
 strings.Builder in this program: copyCheck, WriteString, String. Condition: a builder of the call's own.
-/
namespace Go.Proofs.YtfchglcclgcgfaaGreatDoor.Ut
open Go.RowKit
set_option linter.unusedVariables false
set_option linter.unusedSimpArgs false

/-- A builder in block b that holds these bytes. -/
abbrev Bld (B b : Nat) (l : List UInt8) (w : World) : Prop := Lib.IsBuilder 249 5 B b (Lib.byteCells l) w
theorem bldSize : (Tryz.prog.info? 249).map (·.size) = some 2 := by kernel_rfl
theorem bldLies : liesAt Tryz.prog Tryz.prog.depth 249 (2 / Tryz.prog.cellsOf 249) 0 249 1 = true := by kernel_rfl
theorem bldByte : (Tryz.prog.info? 5).map (fun i => (i.zero, i.size, i.bytes)) = some (some (.int .u8 0), 1, 1) := by kernel_rfl

set_option maxRecDepth 100000 in
theorem copyCheck_used (b : Nat) (w : World) (h0 : w.cell? ⟨b, 0, none⟩ = some (.pointer (some ⟨b, 0, none⟩))) :
  Calls Tryz.prog 255 #[.pointer (some ⟨b, 0, none⟩)] w fun e w' => e = .returned (.tuple #[]) ∧ w' = w := by
 obtain ⟨j, hj, _⟩ := Option.map_eq_some_iff.1 bldSize
 go_enter Tryz.func255, Tryz.ntmps255
 go_wp2
 try (rw [Lib.run_neq_ptr_same w _ Tryz.underlying247 hj]; go_wp2)
 go_end0
 exact ⟨rfl, rfl⟩
set_option maxRecDepth 100000 in
theorem copyCheck_fresh (b : Nat) (w : World) (h0 : w.cell? ⟨b, 0, none⟩ = some (.pointer none)) (hsh : w.shape? b = some (249, 2)) (hfz : w.frozen? ⟨b, 0, none⟩ = false) :
  Calls Tryz.prog 255 #[.pointer (some ⟨b, 0, none⟩)] w fun e w' => e = .returned (.tuple #[]) ∧ w' = w.setCell ⟨b, 0, none⟩ (.pointer (some ⟨b, 0, none⟩)) := by
 obtain ⟨j, hj, hjs⟩ := Option.map_eq_some_iff.1 bldSize
 go_enter Tryz.func255, Tryz.ntmps255
 go_wp2
 rw [Lib.run_to_unsafe w ⟨b, 0, none⟩ Tryz.underlying247 Tryz.underlying255 hj (by rw [hjs]; decide) hsh (Nat.zero_lt_succ 1)]
 simp only [Result.andThen]
 rw [Oper.upon_value]
 go_wp2
 rw [run_callFunc_extern Tryz.func256 (by kernel_rfl) (by kernel_rfl) (by kernel_rfl) (e := Extern.AbiNoEscape.same) (by kernel_rfl)]
 rw [Lib.run_noEscape]
 simp only [Result.andThen]
 rw [Oper.upon_value]
 go_wp2
 rw [Lib.run_from_unsafe w ⟨b, 0, none⟩ Tryz.underlying255 Tryz.underlying247 hj hsh bldLies]
 simp only [Result.andThen]
 rw [Oper.upon_value]
 go_wp2
 go_end0
 exact ⟨rfl, rfl⟩
theorem copyCheck_any (B b : Nat) (l : List UInt8) (w : World) (h : Bld B b l w) :
  Calls Tryz.prog 255 #[.pointer (some ⟨b, 0, none⟩)] w fun e w' => e = .returned (.tuple #[]) ∧ (Lib.BuilderAt 249 5 B b (.pointer (some ⟨b, 0, none⟩)) (Lib.byteCells l) w' ∧ Below B w w') := by
 rcases h with h | h
 ·refine (copyCheck_fresh b w h.cell0 h.shape h.frozen0).mono ?_
  rintro e w' ⟨rfl, rfl⟩
  exact ⟨rfl, h.used _, (Below.refl B w).setCell (p := ⟨b, 0, none⟩) h.1 _⟩
 ·refine (copyCheck_used b w h.cell0).mono ?_
  rintro e w' ⟨rfl, rfl⟩
  exact ⟨rfl, h, Below.refl B _⟩

set_option maxRecDepth 100000 in
set_option maxHeartbeats 1000000 in
theorem WriteString_any (B b : Nat) (l : List UInt8) (s : ByteArray) (w : World) (h : Bld B b l w) (hlen : l.length + s.size ≤ 140737488355328) (hBw : B ≤ w.heap.size) :
  Calls Tryz.prog 254 #[.pointer (some ⟨b, 0, none⟩), .string s] w fun e w' => e = .returned (.tuple #[.int .i64 s.size, .nilIface]) ∧ (Bld B b (l ++ s.data.toList) w' ∧ Below B w w') := by
 obtain ⟨i0, hi, hz0, hz1, hz2⟩ := info_parts bldByte
 go_enter Tryz.func254, Tryz.ntmps254
 go_wp2_with fail
 refine (copyCheck_any B b l _ h).mono ?_
 rintro e w1 ⟨rfl, h1, hb1⟩
 obtain ⟨hB, v, hbk, hown, hne⟩ := h1
 have c0 : w1.cell? ⟨b, 0, none⟩ = some (.pointer (some ⟨b, 0, none⟩)) := by rw [Lib.cell_of_heap hbk]; rfl
 have c1 : w1.cell? ⟨b, 1, none⟩ = some v := by rw [Lib.cell_of_heap hbk]; rfl
 rw [Lib.byteCells_length] at hown
 go_wp2_with (at_builtin; refine Lib.wpList_append_own_string _ rfl _ _ 74 9 rfl B 5 i0 Tryz.underlying74 Tryz.underlying9 hi hz0 hz1 hz2 _ _ _ rfl hown s rfl ?c3 ?c4 ?c5 ?_)
 case c3 => unfold maxLen; omega
 case c4 => omega
 case c5 => have := hb1.size; omega
 intro v' w2 hown' hgrow _
 have hlt : b < w1.heap.size := by
  rcases Nat.lt_or_ge b w1.heap.size with h' | h'
  ·exact h'
  ·simp [Array.getElem?_eq_none h'] at hbk
 have hb2 : w2.heap[b]? = some (.cells #[.pointer (some ⟨b, 0, none⟩), v] 249 (0, 0)) := by
  rw [hgrow.block b hlt (fun e => hne e.symm)]
  exact hbk
 have d0 : w2.cell? ⟨b, 0, none⟩ = some (.pointer (some ⟨b, 0, none⟩)) := by rw [Lib.cell_of_heap hb2]; rfl
 have d1 : w2.cell? ⟨b, 1, none⟩ = some v := by rw [Lib.cell_of_heap hb2]; rfl
 have f1 : w2.frozen? ⟨b, 1, none⟩ = false := Lib.frozen_of_heap hb2 1
 obtain ⟨ao, n', cap, rfl⟩ : ∃ ao n' cap, v' = .slice ao n' cap := by
  rcases hown'.2 with ⟨hv, _⟩ | ⟨g, cap, cur, hv, _⟩
  ·exact ⟨_, _, _, hv⟩
  ·exact ⟨_, _, _, hv⟩
 go_wp2
 go_ret2
 refine ⟨rfl, ?_, ?_⟩
 ·refine .inr (Lib.BuilderAt.put (T := 249) (e := 5) hB hb2 (bs' := Lib.byteCells (l ++ s.data.toList)) ?_ (by decide))
  rw [Lib.byteCells_length, List.length_append, Lib.byteCells_append]
  rw [← Lib.size_eq]
  exact hown'
 ·exact (hb1.grown hgrow (by have := hb1.size; omega) (fun k hk => (hown.lt k hk).1)).setCell (p := ⟨b, 1, none⟩) hB _
theorem BldString_any (B b : Nat) (l : List UInt8) (w : World) (h : Bld B b l w) (hBw : B ≤ w.heap.size) :
  Calls Tryz.prog 253 #[.pointer (some ⟨b, 0, none⟩)] w fun e w' => e = .returned (.string ⟨l.toArray⟩) ∧ Below B w w' := Tryz.Builder_String_any B b l w h hBw
end Go.Proofs.YtfchglcclgcgfaaGreatDoor.Ut
/-
 rope: (*node).slice into a builder. Condition: a builder of the call's own; the tree lay before it.
-/
namespace Go.Proofs.YtfchglcclgcgfaaGreatDoor.Ut
open Go.RowKit Go.Proofs.YtfchglcclgcgfaaGreatDoor.Reg
set_option linter.unusedVariables false
set_option linter.unusedSimpArgs false

/-- The bytes from i up to j, which may lie beyond the ends. -/
def cutB (s : ByteArray) (i j : Int) : List UInt8 := (s.data.toList.drop (max i 0).toNat).take ((min j s.size).toNat - (max i 0).toNat)
theorem cutB_nil {s : ByteArray} {i j : Int} (h : min j s.size ≤ max i 0) : cutB s i j = [] := by
 unfold cutB
 rw [show (min j (s.size : Int)).toNat - (max i 0).toNat = 0 by omega, List.take_zero]
theorem cutB_app (a b : ByteArray) (i j : Int) (h : max i 0 < min j ((a ++ b).size : Int)) : cutB (a ++ b) i j = cutB a (max i 0) (min j ((a ++ b).size : Int)) ++ cutB b (max i 0 - a.size) (min j ((a ++ b).size : Int) - a.size) := by
 unfold cutB
 have ha : a.data.toList.length = a.size := by rw [← Lib.size_eq]
 have hs : (a ++ b).size = a.size + b.size := ByteArray.size_append
 generalize hf : max i 0 = f at *
 generalize ht : min j ((a ++ b).size : Int) = t at *
 have f0 : 0 ≤ f := by omega
 have t1 : t ≤ a.size + b.size := by omega
 rw [app_list, List.drop_append, List.take_append, List.length_drop, ha]
 have e1 : (max f 0).toNat = f.toNat := by omega
 have e2 : (max (f - a.size) 0).toNat = f.toNat - a.size := by omega
 rw [e1, e2]
 congr 1
 ·by_cases hc : t ≤ a.size
  ·congr 1; omega
  ·rw [List.take_of_length_le (by rw [List.length_drop, ha]; omega), List.take_of_length_le (by rw [List.length_drop, ha]; omega)]
 ·congr 1; omega
theorem cutB_extract (s : ByteArray) (i j : Nat) (hj : j ≤ s.size) : cutB s i j = (s.extract i j).data.toList := by
 unfold cutB
 have e1 : (max (i : Int) 0).toNat = i := by omega
 have e2 : (min (j : Int) (s.size : Int)).toNat = j := by omega
 rw [extract_list, e1, e2]
theorem cutB_length (s : ByteArray) (i j : Int) : (cutB s i j).length ≤ s.size := by
 unfold cutB
 rw [List.length_take, List.length_drop, ← Lib.size_eq]; omega
theorem Lib.Bld_drewN {T e : TypeId} {B b : Nat} {l : List Value} {w : World} (h : Lib.IsBuilder T e B b l w) (n : Nat) : Lib.IsBuilder T e B b l (w.drewN n) := h

set_option maxRecDepth 100000 in
set_option maxHeartbeats 4000000 in
theorem slice_leaf (W0 : World) (s : ByteArray) (X b : Nat) (i j : Int) (l : List UInt8) (w : World) (h : IsTr W0 X (.leaf s)) (hs : s.size ≤ 4294967296) (hi : -1099511627776 ≤ i ∧ i ≤ 1099511627776) (hj : -1099511627776 ≤ j ∧ j ≤ 1099511627776) (hw : Below W0.heap.size W0 w) (hB : Bld W0.heap.size b l w) (hl : l.length + s.size ≤ 1099511627776) :
  Calls Tryz.prog 252 #[ptr X, ptr b, .int .i64 i, .int .i64 j] w fun e w' => e = .returned (.tuple #[]) ∧ Bld W0.heap.size b (l ++ cutB s i j) w' ∧ Below W0.heap.size w w' := by
 have hL : Lies w X (nodeV (.pointer none) (.pointer none) 0 (measF s) s) := Blk.lies (IsTr.below hw h)
 have hX := hL.1
 have c0 := (hL.2 0 _ rfl).1
 have c3 := (hL.2 3 _ rfl).1
 have c10 := (hL.2 10 _ rfl).1
 have HL := Lib.hid hL
 have HB := Lib.hid hB
 have HW := Lib.hid hw
 have e3 : (measF s).bytes = (s.size : Int) := rfl
 rw [e3] at c3
 obtain ⟨f, hf⟩ : ∃ f, max i 0 = f := ⟨_, rfl⟩
 obtain ⟨t, ht⟩ : ∃ t, min j (s.size : Int) = t := ⟨_, rfl⟩
 obtain ⟨C, hC⟩ : ∃ C, cutB s i j = C := ⟨_, rfl⟩
 have HF := Lib.hid hf
 have HT := Lib.hid ht
 have HC := Lib.hid hC
 rw [hC]
 clear h hw hB e3 hL hC
 unfold ptr
 by_cases hlt : t ≤ f
 ·have hC : C = [] := by rw [← HC.out, cutB_nil (by omega)]
  subst hC
  rw [List.append_nil]
  go_enter Tryz.func252, Tryz.ntmps252
  go_wp2
  go_quiet (fail)
  go_wp2
  go_returns
  exact ⟨rfl, HB.out, (Drawn.below _).mono HW.out.size⟩
 ·have f0 : 0 ≤ f := by omega
  have t1 : t ≤ (s.size : Int) := by omega
  have hft : f ≤ t := by omega
  obtain ⟨f', rfl⟩ : ∃ f' : Nat, f = f' := ⟨f.toNat, by omega⟩
  obtain ⟨t', rfl⟩ : ∃ t' : Nat, t = t' := ⟨t.toNat, by omega⟩
  have hC : C = (s.extract f' t').data.toList := by
   rw [← HC.out]
   have e1 : (max i 0).toNat = f' := by omega
   have e2 : (min j (s.size : Int)).toNat = t' := by omega
   unfold cutB
   rw [extract_list, e1, e2]
  have hes : (s.extract f' t').size ≤ s.size := by simp [ByteArray.size_extract]; omega
  clear HF HT HC
  have hlt' : ¬ (t' : Int) ≤ (f' : Int) := hlt
  have q1 : (f' : Int) ≤ (t' : Int) := hft
  have q2 : (t' : Int) ≤ (s.size : Int) := t1
  go_enter Tryz.func252, Tryz.ntmps252
  go_wp2
  go_quiet (fail)
  go_wp2_with fail
  refine (WriteString_any W0.heap.size b l (s.extract f' t') _ (Lib.Bld_drewN HB.out _) (by omega) (HW.out.size)).mono ?_
  rintro e w1 ⟨rfl, h1, hb⟩
  have H1 := Lib.hid h1
  have HB1 := Lib.hid (((Drawn.below (w := w) nq).mono HW.out.size).trans hb)
  clear h1 hb
  go_wp2
  go_returns
  exact ⟨rfl, by rw [hC]; exact H1.out, HB1.out⟩

/-- What slice does, of a tree that lay in W0. -/
def SliceTo (W0 : World) (b : Nat) (t : Tr) : Prop := ∀ (X : Nat) (i j : Int) (l : List UInt8) (w : World), IsTr W0 X t → t.text.size ≤ 4294967296 → (-1099511627776 ≤ i ∧ i ≤ 1099511627776) → (-1099511627776 ≤ j ∧ j ≤ 1099511627776) → Below W0.heap.size W0 w → Bld W0.heap.size b l w → l.length + t.text.size ≤ 1099511627776 →
  Calls Tryz.prog 252 #[ptr X, ptr b, .int .i64 i, .int .i64 j] w fun e w' => e = .returned (.tuple #[]) ∧ Bld W0.heap.size b (l ++ cutB t.text i j) w' ∧ Below W0.heap.size w w'

set_option maxRecDepth 100000 in
set_option maxHeartbeats 4000000 in
theorem slice_knot (W0 : World) (b : Nat) (tl tr : Tr) (ihl : SliceTo W0 b tl) (ihr : SliceTo W0 b tr) : SliceTo W0 b (.knot tl tr) := by
 intro X i j l w h hs hi hj hw hB hl
 obtain ⟨x, y, hx, hy, hLb⟩ := h
 have hL := hLb.lies
 simp only [Tr.text] at hs hl ⊢
 have hsz : (tl.text ++ tr.text).size = tl.text.size + tr.text.size := ByteArray.size_append
 have N := Lib.hid (Nd.of hL)
 have HL := Lib.hid hL
 have HX := Lib.hid hx
 have HY := Lib.hid hy
 have IL := Lib.hid ihl
 have IR := Lib.hid ihr
 have HB := Lib.hid hB
 have HW := Lib.hid hw
 have c0 := (N.out.below hw).l
 have c3 : w.cell? ⟨X, 3, none⟩ = some (.int .i64 (tl.text ++ tr.text).size) := ((hL.below hw).2 3 _ rfl).1
 obtain ⟨n, hn⟩ : ∃ n, (tl.text ++ tr.text).size = n := ⟨_, rfl⟩
 rw [hn] at c3 hsz hs hl
 have HN := Lib.hid hn
 have hsz1 : n ≤ tl.text.size + tr.text.size := by omega
 have hsz2 : tl.text.size + tr.text.size ≤ n := by omega
 clear hsz
 obtain ⟨f, hf⟩ : ∃ f, max i 0 = f := ⟨_, rfl⟩
 obtain ⟨t, ht⟩ : ∃ t, min j (n : Int) = t := ⟨_, rfl⟩
 obtain ⟨C, hC⟩ : ∃ C, cutB (tl.text ++ tr.text) i j = C := ⟨_, rfl⟩
 have HC := Lib.hid hC
 rw [hC]
 clear hx hy hL hw hB hC hn ihl ihr
 unfold ptr at *
 by_cases hlt : t ≤ f
 ·have hC : C = [] := by rw [← HC.out, cutB_nil (by rw [HN.out]; omega)]
  subst hC
  rw [List.append_nil]
  go_enter Tryz.func252, Tryz.ntmps252
  go_wp2
  go_quiet (fail)
  go_wp2
  go_returns
  exact ⟨rfl, HB.out, (Drawn.below _).mono HW.out.size⟩
 ·have hC : C = cutB tl.text f t ++ cutB tr.text (f - tl.text.size) (t - tl.text.size) := by
   rw [← HC.out, cutB_app _ _ _ _ (by rw [HN.out]; omega), HN.out, hf, ht]
  have HCC := Lib.hid hC
  have f0 : 0 ≤ f := by omega
  have t1 : t ≤ (n : Int) := by omega
  have t2 : f < 1099511627776 := by omega
  clear hC HC
  go_enter Tryz.func252, Tryz.ntmps252
  go_wp2
  go_quiet (fail)
  have e0 : (w.drewN nq).cell? ⟨X, 0, none⟩ = _ := c0
  go_wp2_with fail
  clear e0
  refine (IL.out x f t l _ HX.out (by omega) ⟨by omega, by omega⟩ ⟨by omega, by omega⟩ (HW.out.trans ((Drawn.below _).mono HW.out.size)) (Lib.Bld_drewN HB.out _) (by omega)).mono ?_
  rintro e w1 ⟨rfl, h1, hb⟩
  have HB1 := Lib.hid h1
  have HW1 := Lib.hid (HW.out.trans (((Drawn.below (w := w) nq).mono HW.out.size).trans hb))
  have HR1 := Lib.hid (((Drawn.below (w := w) nq).mono HW.out.size).trans hb)
  clear h1 hb c0 c3 HB
  have c0 := (N.out.below HW1.out).l
  have c1 := (N.out.below HW1.out).r
  have c3 := (HX.out.below HW1.out).sumBytes
  unfold ptr at c0 c1
  have hcl := cutB_length tl.text f t
  have a1 : IntKind.i64.wrap (f - (tl.text.size : Int)) = f - (tl.text.size : Int) := IntWalk.i64_in _ (by omega)
  have a2 : IntKind.i64.wrap (t - (tl.text.size : Int)) = t - (tl.text.size : Int) := IntWalk.i64_in _ (by omega)
  go_wp2
  go_still_tail 25, (by kernel_rfl)
  change wpList _ _ _ _ _ w1.drew
  have HB2 : Hid (Lib.IsBuilder 249 5 W0.heap.size b (Lib.byteCells (l ++ cutB tl.text f t)) w1.drew) := Lib.hid HB1.out
  have hd : Below w1.heap.size w1 w1.drew := ⟨rfl, rfl, rfl, Nat.le_refl _, fun _ _ => rfl⟩
  have HW2 := Lib.hid (HW1.out.trans (hd.mono HW1.out.size))
  have HR2 := Lib.hid (HR1.out.trans (hd.mono HW1.out.size))
  clear hd c0 c1 c3 a1 a2
  generalize w1.drew = w2 at *
  go_wp2_with fail
  refine (IR.out y (f - tl.text.size) (t - tl.text.size) (l ++ cutB tl.text f t) _ HY.out (by omega) ⟨by omega, by omega⟩ ⟨by omega, by omega⟩ HW2.out HB2.out (by rw [List.length_append]; omega)).mono ?_
  rintro e w3 ⟨rfl, h3, hb⟩
  have HB3 := Lib.hid h3
  have HR3 := Lib.hid (HR2.out.trans hb)
  clear h3 hb
  go_wp2
  go_end0
  refine ⟨rfl, ?_, HR3.out⟩
  rw [HCC.out, ← List.append_assoc]
  exact HB3.out
theorem slice_any (W0 : World) (b : Nat) : ∀ t : Tr, SliceTo W0 b t
 | .leaf s => fun X i j l w h hs hi hj hw hB hl => slice_leaf W0 s X b i j l w h hs hi hj hw hB hl
 | .knot l r => slice_knot W0 b l r (slice_any W0 b l) (slice_any W0 b r)
end Go.Proofs.YtfchglcclgcgfaaGreatDoor.Ut
