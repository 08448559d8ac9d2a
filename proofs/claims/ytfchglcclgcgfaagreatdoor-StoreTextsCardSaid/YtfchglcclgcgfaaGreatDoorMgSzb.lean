/-
  What the proof of the laws S rests on: the texts RgA. Conditions: each theorem names its own.
-/
import Derived.Test.YtfchglcclgcgfaaGreatDoorMgSza
/-
 The document's own buffer (bodkinref06): a text, a place, a limit. No condition.
-/
namespace Go.Proofs.YtfchglcclgcgfaaGreatDoor.Ut
open Go.RowKit Go.Proofs.YtfchglcclgcgfaaGreatDoor.Reg
set_option linter.unusedVariables false
set_option linter.unusedSimpArgs false

def BufIn (W : World) (b : Nat) (s : ByteArray) (P : Int) (lim : Nat) : Prop := Blk W b 151 [.string s, .int .i64 P, .int .i64 lim]
theorem BufIn.below {W W' : World} {b : Nat} {s : ByteArray} {P : Int} {lim : Nat} (h : BufIn W b s P lim) (hb : Below W.heap.size W W') : BufIn W' b s P lim := Blk.below h hb
theorem RfRange_any (i j : Int) (n : Nat) (w : World) : Calls Tryz.prog 133 #[.int .i64 i, .int .i64 j, .int .i64 n] w fun e w' => e = .returned (.bool (decide (i < 0 ∨ j < i ∨ (n : Int) < j))) ∧ w' = w := by
 rcases (by omega : i < 0 ∨ (¬ i < 0 ∧ j < i) ∨ (¬ i < 0 ∧ ¬ j < i ∧ (n : Int) < j) ∨ (¬ i < 0 ∧ ¬ j < i ∧ ¬ (n : Int) < j)) with h1 | ⟨h1, h2⟩ | ⟨h1, h2, h3⟩ | ⟨h1, h2, h3⟩
 ·rw [decide_eq_true (by omega)]
  go_enter Tryz.func133, Tryz.ntmps133
  go_wp2
  go_ret
  exact ⟨rfl, rfl⟩
 ·rw [decide_eq_true (by omega)]
  go_enter Tryz.func133, Tryz.ntmps133
  go_wp2
  go_ret
  exact ⟨rfl, rfl⟩
 ·rw [decide_eq_true (by omega)]
  go_enter Tryz.func133, Tryz.ntmps133
  go_wp2
  go_ret
  exact ⟨rfl, rfl⟩
 ·rw [decide_eq_false (by omega)]
  go_enter Tryz.func133, Tryz.ntmps133
  go_wp2
  go_ret
  exact ⟨rfl, rfl⟩
set_option maxRecDepth 100000 in
theorem RfNew_ok (s : ByteArray) (m : Int) (n : Nat) (w : World) (hm : min (max m 0) 1073741824 = (n : Int)) (hs : s.size ≤ n) :
  Calls Tryz.prog 77 #[.string s, .int .i64 m] w fun e w' => ∃ b, e = .returned (.tuple #[ptr b, .int .i64 0]) ∧ BufIn w' b s s.size n ∧ w.heap.size ≤ b ∧ Below w.heap.size w w' := by
 have hq : ¬ (n : Int) < (s.size : Int) := by omega
 have hB := (Below.refl w.heap.size w).alloc (Nat.le_refl _) (.cells ([.string s, .int .i64 s.size, .int .i64 n] : List Value).toArray 151)
 have hK := Blk.new w [.string s, .int .i64 s.size, .int .i64 n] 151
 have HB := Lib.hid hB
 have HK := Lib.hid hK
 clear hB hK
 rcases (by omega : (m < 0 ∧ n = 0) ∨ (¬ m < 0 ∧ 1073741824 < m ∧ n = 1073741824) ∨ (¬ m < 0 ∧ ¬ 1073741824 < m ∧ m = (n : Int))) with ⟨h1, rfl⟩ | ⟨h1, h2, rfl⟩ | ⟨h1, h2, rfl⟩
 all_goals
  clear hm hs
  go_enter Tryz.func77, Tryz.ntmps77
  go_wp2
  refine bodyPost_ret (v := .tuple #[ptr w.heap.size, .int .i64 0]) (by simp [results, Tryz.results77, go_sem, ptr]) rfl ⟨_, rfl, HK.out, Nat.le_refl _, HB.out⟩
set_option maxRecDepth 100000 in
theorem RfNew_full (s : ByteArray) (m : Int) (n : Nat) (w : World) (hm : min (max m 0) 1073741824 = (n : Int)) (hs : n < s.size) :
  Calls Tryz.prog 77 #[.string s, .int .i64 m] w fun e w' => e = .returned (.tuple #[.pointer none, .int .i64 2]) ∧ w' = w := by
 have hq : (n : Int) < (s.size : Int) := by omega
 rcases (by omega : (m < 0 ∧ n = 0) ∨ (¬ m < 0 ∧ 1073741824 < m ∧ n = 1073741824) ∨ (¬ m < 0 ∧ ¬ 1073741824 < m ∧ m = (n : Int))) with ⟨h1, rfl⟩ | ⟨h1, h2, rfl⟩ | ⟨h1, h2, rfl⟩
 all_goals
  clear hm hs
  go_enter Tryz.func77, Tryz.ntmps77
  go_wp2
  refine bodyPost_ret (v := .tuple #[.pointer none, .int .i64 2]) (by simp [results, Tryz.results77, go_sem]) rfl ⟨rfl, rfl⟩
set_option maxRecDepth 100000 in
theorem RfSlice_any {b : Nat} {s : ByteArray} {P : Int} {lim : Nat} {w : World} (h : BufIn w b s P lim) (i j : Int) :
  Calls Tryz.prog 111 #[ptr b, .int .i64 i, .int .i64 j] w fun e w' => e = .returned (.tuple #[.string (slA s i j).1, .int .i64 (slA s i j).2]) ∧ w' = w := by
 have c0 := (h.lies.2 0 _ rfl).1
 have HR := Lib.hid (RfRange_any i j s.size w)
 unfold slA
 unfold ptr
 by_cases hg : 0 ≤ i ∧ i ≤ j ∧ j ≤ (s.size : Int)
 ·rw [if_pos hg]
  rw [decide_eq_false (by omega)] at HR
  obtain ⟨x, rfl⟩ : ∃ x : Nat, i = x := ⟨i.toNat, by omega⟩
  obtain ⟨y, rfl⟩ : ∃ y : Nat, j = y := ⟨j.toNat, by omega⟩
  have h1 : x ≤ y := by omega
  have h2 : y ≤ s.size := by omega
  simp only [Int.toNat_natCast]
  clear hg h
  go_enter Tryz.func111, Tryz.ntmps111
  go_wp2_with fail
  refine HR.out.mono ?_
  rintro e w1 ⟨rfl, rfl⟩
  go_wp2
  refine bodyPost_ret (v := .tuple #[.string (s.extract x y), .int .i64 0]) (by simp [results, Tryz.results111, go_sem]) rfl ⟨rfl, rfl⟩
 ·rw [if_neg hg]
  rw [decide_eq_true (by omega)] at HR
  clear hg h
  go_enter Tryz.func111, Tryz.ntmps111
  go_wp2_with fail
  refine HR.out.mono ?_
  rintro e w1 ⟨rfl, rfl⟩
  go_wp2
  refine bodyPost_ret (v := .tuple #[.string ⟨#[]⟩, .int .i64 1]) (by simp [results, Tryz.results111, go_sem]) rfl ⟨rfl, rfl⟩
set_option maxRecDepth 100000 in
set_option maxHeartbeats 2000000 in
theorem RfReplace_bad {b : Nat} {s : ByteArray} {P : Int} {lim : Nat} {w : World} (h : BufIn w b s P lim) (hs : s.size ≤ 1073741824) (hl : lim ≤ 1073741824) (a c : Int) (p : ByteArray) (hz : p.size ≤ 4611686018427387904) (he : repE s.size lim a c p.size ≠ 0) :
  Calls Tryz.prog 108 #[ptr b, .int .i64 a, .int .i64 c, .string p] w fun e w' => e = .returned (.tuple #[.string ⟨#[]⟩, .int .i64 (repE s.size lim a c p.size)]) ∧ Below w.heap.size w w' := by
 have c0 := (h.lies.2 0 _ rfl).1
 have c2 := (h.lies.2 2 _ rfl).1
 have hbl := h.lies.1
 unfold ptr
 obtain ⟨N, hN⟩ : ∃ N, s.size = N := ⟨_, rfl⟩
 obtain ⟨Z, hZ⟩ : ∃ Z, p.size = Z := ⟨_, rfl⟩
 rw [hN, hZ] at he ⊢
 rw [hN] at hs
 rw [hZ] at hz
 by_cases hr : a < 0 ∨ c < 0 ∨ (N : Int) < a ∨ (N : Int) - a < c
 ·have e1 : repE N lim a c Z = 1 := by unfold repE; rw [if_pos hr]
  rw [e1]
  have hcs := out_cases hs hr
  clear hr e1 he h c2
  rcases hcs with h1 | ⟨h1, h2⟩ | ⟨h1, h2, h3⟩ | ⟨h1, h2, h3, h4, h5⟩
  all_goals
   go_enter Tryz.func108, Tryz.ntmps108
   go_wp2
   refine bodyPost_ret (v := .tuple #[.string ⟨#[]⟩, .int .i64 1]) (by simp [results, Tryz.results108, go_sem]) rfl ⟨rfl, Below.refl _ _⟩
 ·have hq : (lim : Int) - ((N : Int) - c) < Z := by
   unfold repE at he
   rw [if_neg hr] at he
   by_cases h : (lim : Int) - ((N : Int) - c) < Z
   ·exact h
   ·rw [if_neg h] at he; exact absurd rfl he
  have e1 : repE N lim a c Z = 2 := by unfold repE; rw [if_neg hr, if_pos hq]
  rw [e1]
  have h1 : ¬ a < 0 := by omega
  have h2 : ¬ c < 0 := by omega
  have h3 : ¬ (N : Int) < a := by omega
  have h4 : IntKind.i64.wrap ((N : Int) - a) = (N : Int) - a := IntWalk.i64_in _ (by omega)
  have h5 : ¬ (N : Int) - a < c := by omega
  have h6 : IntKind.i64.wrap ((N : Int) - c) = (N : Int) - c := IntWalk.i64_in _ (by omega)
  have h7 : IntKind.i64.wrap ((N : Int) - c + Z) = (N : Int) - c + Z := IntWalk.i64_in _ (by omega)
  have h8 : (lim : Int) < (N : Int) - c + Z := by omega
  clear hr e1 he h hq
  go_enter Tryz.func108, Tryz.ntmps108
  go_wp2
  go_quiet (fail)
  go_wp2
  refine bodyPost_ret (v := .tuple #[.string ⟨#[]⟩, .int .i64 2]) (by simp [results, Tryz.results108, go_sem]) rfl ⟨rfl, Drawn.below _⟩
def VRp6 (b a c : Nat) (s p : ByteArray) : Nat → Value → World → Prop := fun d x w => match d with
 | 61 => x = .pointer (some ⟨b, 0, none⟩)
 | 62 => x = .pointer (some ⟨b, 0, none⟩)
 | 63 => x = .pointer (some ⟨b, 0, none⟩)
 | 64 => x = .pointer (some ⟨b, 0, none⟩)
 | 65 => x = .string s
 | 66 => x = .int .i64 a
 | 67 => x = .string (s.extract 0 a)
 | 68 => x = .string p
 | 69 => x = .string (s.extract 0 a ++ p)
 | 70 => x = .pointer (some ⟨b, 0, none⟩)
 | 71 => x = .pointer (some ⟨b, 0, none⟩)
 | 72 => x = .pointer (some ⟨b, 0, none⟩)
 | 73 => x = .string s
 | 74 => x = .int .i64 a
 | 75 => x = .int .i64 c
 | 76 => x = .int .i64 ((a + c : Nat) : Int)
 | 77 => x = .string (s.extract (a + c) s.size)
 | 78 => x = .string (s.extract 0 a ++ p ++ s.extract (a + c) s.size)
 | 79 => x = .pointer (some ⟨b, 0, none⟩)
 | 80 => x = .pointer (some ⟨b, 0, none⟩)
 | _ => True
theorem VRp6_mono (b a c : Nat) (s p : ByteArray) : ∀ d x w w', VRp6 b a c s p d x w → Below w.heap.size w w' → VRp6 b a c s p d x w' := by
 exact fun _ _ _ _ h _ => h
set_option maxRecDepth 100000 in
set_option maxHeartbeats 4000000 in
theorem RfReplace_ok {b : Nat} {s : ByteArray} {P : Int} {lim : Nat} {w : World} (h : BufIn w b s P lim) (hs : s.size ≤ 1073741824) (hl : lim ≤ 1073741824) (a c : Nat) (p : ByteArray) (hac : a + c ≤ s.size) (hp : s.size - c + p.size ≤ lim) :
  Calls Tryz.prog 108 #[ptr b, .int .i64 a, .int .i64 c, .string p] w fun e w' => e = .returned (.tuple #[.string (s.extract a (a + c)), .int .i64 0]) ∧ BufIn w' b (repl s a c p) (a + p.size) lim ∧ Chg (fun k => k = b) w w' := by
 have HH := Lib.hid h
 have c0 := (h.lies.2 0 _ rfl).1
 have c2 := (h.lies.2 2 _ rfl).1
 have hbl := h.lies.1
 have e0 : repl s a c p = s.extract 0 a ++ p ++ s.extract (a + c) s.size := rfl
 have h1 : ¬ (a : Int) < 0 := by omega
 have h2 : ¬ (c : Int) < 0 := by omega
 have h3 : ¬ (s.size : Int) < (a : Int) := by omega
 have h4 : IntKind.i64.wrap ((s.size : Int) - (a : Int)) = (s.size : Int) - (a : Int) := IntWalk.i64_in _ (by omega)
 have h5 : ¬ (s.size : Int) - (a : Int) < (c : Int) := by omega
 have h6 : IntKind.i64.wrap ((s.size : Int) - (c : Int)) = (s.size : Int) - (c : Int) := IntWalk.i64_in _ (by omega)
 have h7 : IntKind.i64.wrap ((s.size : Int) - (c : Int) + (p.size : Int)) = (s.size : Int) - (c : Int) + (p.size : Int) := IntWalk.i64_in _ (by omega)
 have h8 : ¬ (lim : Int) < (s.size : Int) - (c : Int) + (p.size : Int) := by omega
 have h9 : IntKind.i64.wrap ((a : Int) + (c : Int)) = ((a + c : Nat) : Int) := by rw [IntWalk.i64_in _ (by omega)]; omega
 have h10 : IntKind.i64.wrap ((a : Int) + (p.size : Int)) = (a : Int) + (p.size : Int) := IntWalk.i64_in _ (by omega)
 have h11 : a ≤ a + c := by omega
 have h12 : a ≤ s.size := by omega
 have m1 : ¬ 9223372036854775807 < a + p.size := by omega
 have m2 : ¬ 9223372036854775807 < a + p.size + (s.size - (a + c)) := by omega
 have m3 : (0 : Int) ≤ (a : Int) + (c : Int) := by omega
 have m4 : (a : Int) + (c : Int) ≤ (s.size : Int) := by omega
 have m5 : ((a : Int) + (c : Int)).toNat = a + c := by omega
 have z1 : (s.extract 0 a).size = a := by simp [ByteArray.size_extract]; omega
 have z2 : (s.extract (a + c) s.size).size = s.size - (a + c) := by simp [ByteArray.size_extract]
 unfold ptr
 rw [e0]
 clear h e0
 go_enter Tryz.func108, Tryz.ntmps108
 go_wp2
 go_quiet (fail)
 have hD := Drawn.below (w := w) nq
 have HD := Lib.hid hD
 have HG := Lib.hid (HH.out.below hD)
 clear c0 c2 hD
 obtain ⟨W1, hW⟩ : ∃ W, w.drewN nq = W := ⟨_, rfl⟩
 rw [hW] at HD HG
 rw [hW]
 clear hW
 have c0 := (HG.out.lies.2 0 _ rfl).1
 have hbl := HG.out.lies.1
 go_wp2
 refine wp_held_tail mixed (VRp6 b a c s p) (VRp6_mono _ _ _ _ _) (by kernel_rfl) 8 20 (by decide) [61, 62, 63, 64, 65, 66, 67, 68, 69, 70, 71, 72, 73, 74, 75, 76, 77, 78, 79, 80] (by kernel_rfl) (by kernel_rfl) (by kernel_rfl) (by kernel_rfl) ?_ ?_
 ·intro j hj
  have hj' : j < 20 := hj
  rcases (by omega : j = 0 ∨ j = 1 ∨ j = 2 ∨ j = 3 ∨ j = 4 ∨ j = 5 ∨ j = 6 ∨ j = 7 ∨ j = 8 ∨ j = 9 ∨ j = 10 ∨ j = 11 ∨ j = 12 ∨ j = 13 ∨ j = 14 ∨ j = 15 ∨ j = 16 ∨ j = 17 ∨ j = 18 ∨ j = 19) with rfl | rfl | rfl | rfl | rfl | rfl | rfl | rfl | rfl | rfl | rfl | rfl | rfl | rfl | rfl | rfl | rfl | rfl | rfl | rfl
  ·(refine owes_val (L := [(0, false)]) rfl rfl rfl (by kernel_rfl) ?_; intro a' w' hb' hfacts; obtain ⟨hf0, -⟩ := hfacts; replace hf0 : a'.tmps[0]?.getD undef = .pointer (some ⟨b, 0, none⟩) := hf0)
   have pB := ((HG.out.below hb').lies.2 0 _ rfl).1
   (go_simp; first | exact ⟨_, rfl, Br _, rfl⟩ | exact ⟨_, rfl, Br _, trivial⟩ | exact ⟨_, rfl, Ba _ _, trivial⟩ | exact ⟨_, rfl, Br _, congrArg (Value.int _) (IntWalk.i64_in _ (by omega))⟩)
  ·(refine owes_val (L := [(0, false)]) rfl rfl rfl (by kernel_rfl) ?_; intro a' w' hb' hfacts; obtain ⟨hf0, -⟩ := hfacts; replace hf0 : a'.tmps[0]?.getD undef = .pointer (some ⟨b, 0, none⟩) := hf0)
   have pB := ((HG.out.below hb').lies.2 0 _ rfl).1
   (go_simp; first | exact ⟨_, rfl, Br _, rfl⟩ | exact ⟨_, rfl, Br _, trivial⟩ | exact ⟨_, rfl, Ba _ _, trivial⟩ | exact ⟨_, rfl, Br _, congrArg (Value.int _) (IntWalk.i64_in _ (by omega))⟩)
  ·(refine owes_val (L := [(62, true)]) rfl rfl rfl (by kernel_rfl) ?_; intro a' w' hb' hfacts; obtain ⟨hf62, -⟩ := hfacts; try simp only [VRp6] at hf62)
   have pB := ((HG.out.below hb').lies.2 0 _ rfl).1
   (go_simp; first | exact ⟨_, rfl, Br _, rfl⟩ | exact ⟨_, rfl, Br _, trivial⟩ | exact ⟨_, rfl, Ba _ _, trivial⟩ | exact ⟨_, rfl, Br _, congrArg (Value.int _) (IntWalk.i64_in _ (by omega))⟩)
  ·(refine owes_val (L := [(63, true)]) rfl rfl rfl (by kernel_rfl) ?_; intro a' w' hb' hfacts; obtain ⟨hf63, -⟩ := hfacts; try simp only [VRp6] at hf63)
   have pB := ((HG.out.below hb').lies.2 0 _ rfl).1
   (go_simp; first | exact ⟨_, rfl, Br _, rfl⟩ | exact ⟨_, rfl, Br _, trivial⟩ | exact ⟨_, rfl, Ba _ _, trivial⟩ | exact ⟨_, rfl, Br _, congrArg (Value.int _) (IntWalk.i64_in _ (by omega))⟩)
  ·(refine owes_val (L := [(64, true)]) rfl rfl rfl (by kernel_rfl) ?_; intro a' w' hb' hfacts; obtain ⟨hf64, -⟩ := hfacts; try simp only [VRp6] at hf64)
   have pB := ((HG.out.below hb').lies.2 0 _ rfl).1
   (go_simp; first | exact ⟨_, rfl, Br _, rfl⟩ | exact ⟨_, rfl, Br _, trivial⟩ | exact ⟨_, rfl, Ba _ _, trivial⟩ | exact ⟨_, rfl, Br _, congrArg (Value.int _) (IntWalk.i64_in _ (by omega))⟩)
  ·(refine owes_val (L := [(1, false)]) rfl rfl rfl (by kernel_rfl) ?_; intro a' w' hb' hfacts; obtain ⟨hf1, -⟩ := hfacts; replace hf1 : a'.tmps[1]?.getD undef = .int .i64 a := hf1)
   have pB := ((HG.out.below hb').lies.2 0 _ rfl).1
   (go_simp; first | exact ⟨_, rfl, Br _, rfl⟩ | exact ⟨_, rfl, Br _, trivial⟩ | exact ⟨_, rfl, Ba _ _, trivial⟩ | exact ⟨_, rfl, Br _, congrArg (Value.int _) (IntWalk.i64_in _ (by omega))⟩)
  ·(refine owes_val (L := [(65, true), (66, true)]) rfl rfl rfl (by kernel_rfl) ?_; intro a' w' hb' hfacts; obtain ⟨hf65, hf66, -⟩ := hfacts; try simp only [VRp6] at hf65; try simp only [VRp6] at hf66)
   have pB := ((HG.out.below hb').lies.2 0 _ rfl).1
   (go_simp; first | exact ⟨_, rfl, Br _, rfl⟩ | exact ⟨_, rfl, Br _, trivial⟩ | exact ⟨_, rfl, Ba _ _, trivial⟩ | exact ⟨_, rfl, Br _, congrArg (Value.int _) (IntWalk.i64_in _ (by omega))⟩)
  ·(refine owes_val (L := [(3, false)]) rfl rfl rfl (by kernel_rfl) ?_; intro a' w' hb' hfacts; obtain ⟨hf3, -⟩ := hfacts; replace hf3 : a'.tmps[3]?.getD undef = .string p := hf3)
   have pB := ((HG.out.below hb').lies.2 0 _ rfl).1
   (go_simp; first | exact ⟨_, rfl, Br _, rfl⟩ | exact ⟨_, rfl, Br _, trivial⟩ | exact ⟨_, rfl, Ba _ _, trivial⟩ | exact ⟨_, rfl, Br _, congrArg (Value.int _) (IntWalk.i64_in _ (by omega))⟩)
  ·(refine owes_val (L := [(67, true), (68, true)]) rfl rfl rfl (by kernel_rfl) ?_; intro a' w' hb' hfacts; obtain ⟨hf67, hf68, -⟩ := hfacts; try simp only [VRp6] at hf67; try simp only [VRp6] at hf68)
   have pB := ((HG.out.below hb').lies.2 0 _ rfl).1
   (go_simp; first | exact ⟨_, rfl, Br _, rfl⟩ | exact ⟨_, rfl, Br _, trivial⟩ | exact ⟨_, rfl, Ba _ _, trivial⟩ | exact ⟨_, rfl, Br _, congrArg (Value.int _) (IntWalk.i64_in _ (by omega))⟩)
  ·(refine owes_val (L := [(0, false)]) rfl rfl rfl (by kernel_rfl) ?_; intro a' w' hb' hfacts; obtain ⟨hf0, -⟩ := hfacts; replace hf0 : a'.tmps[0]?.getD undef = .pointer (some ⟨b, 0, none⟩) := hf0)
   have pB := ((HG.out.below hb').lies.2 0 _ rfl).1
   (go_simp; first | exact ⟨_, rfl, Br _, rfl⟩ | exact ⟨_, rfl, Br _, trivial⟩ | exact ⟨_, rfl, Ba _ _, trivial⟩ | exact ⟨_, rfl, Br _, congrArg (Value.int _) (IntWalk.i64_in _ (by omega))⟩)
  ·(refine owes_val (L := [(70, true)]) rfl rfl rfl (by kernel_rfl) ?_; intro a' w' hb' hfacts; obtain ⟨hf70, -⟩ := hfacts; try simp only [VRp6] at hf70)
   have pB := ((HG.out.below hb').lies.2 0 _ rfl).1
   (go_simp; first | exact ⟨_, rfl, Br _, rfl⟩ | exact ⟨_, rfl, Br _, trivial⟩ | exact ⟨_, rfl, Ba _ _, trivial⟩ | exact ⟨_, rfl, Br _, congrArg (Value.int _) (IntWalk.i64_in _ (by omega))⟩)
  ·(refine owes_val (L := [(71, true)]) rfl rfl rfl (by kernel_rfl) ?_; intro a' w' hb' hfacts; obtain ⟨hf71, -⟩ := hfacts; try simp only [VRp6] at hf71)
   have pB := ((HG.out.below hb').lies.2 0 _ rfl).1
   (go_simp; first | exact ⟨_, rfl, Br _, rfl⟩ | exact ⟨_, rfl, Br _, trivial⟩ | exact ⟨_, rfl, Ba _ _, trivial⟩ | exact ⟨_, rfl, Br _, congrArg (Value.int _) (IntWalk.i64_in _ (by omega))⟩)
  ·(refine owes_val (L := [(72, true)]) rfl rfl rfl (by kernel_rfl) ?_; intro a' w' hb' hfacts; obtain ⟨hf72, -⟩ := hfacts; try simp only [VRp6] at hf72)
   have pB := ((HG.out.below hb').lies.2 0 _ rfl).1
   (go_simp; first | exact ⟨_, rfl, Br _, rfl⟩ | exact ⟨_, rfl, Br _, trivial⟩ | exact ⟨_, rfl, Ba _ _, trivial⟩ | exact ⟨_, rfl, Br _, congrArg (Value.int _) (IntWalk.i64_in _ (by omega))⟩)
  ·(refine owes_val (L := [(1, false)]) rfl rfl rfl (by kernel_rfl) ?_; intro a' w' hb' hfacts; obtain ⟨hf1, -⟩ := hfacts; replace hf1 : a'.tmps[1]?.getD undef = .int .i64 a := hf1)
   have pB := ((HG.out.below hb').lies.2 0 _ rfl).1
   (go_simp; first | exact ⟨_, rfl, Br _, rfl⟩ | exact ⟨_, rfl, Br _, trivial⟩ | exact ⟨_, rfl, Ba _ _, trivial⟩ | exact ⟨_, rfl, Br _, congrArg (Value.int _) (IntWalk.i64_in _ (by omega))⟩)
  ·(refine owes_val (L := [(2, false)]) rfl rfl rfl (by kernel_rfl) ?_; intro a' w' hb' hfacts; obtain ⟨hf2, -⟩ := hfacts; replace hf2 : a'.tmps[2]?.getD undef = .int .i64 c := hf2)
   have pB := ((HG.out.below hb').lies.2 0 _ rfl).1
   (go_simp; first | exact ⟨_, rfl, Br _, rfl⟩ | exact ⟨_, rfl, Br _, trivial⟩ | exact ⟨_, rfl, Ba _ _, trivial⟩ | exact ⟨_, rfl, Br _, congrArg (Value.int _) (IntWalk.i64_in _ (by omega))⟩)
  ·(refine owes_val (L := [(74, true), (75, true)]) rfl rfl rfl (by kernel_rfl) ?_; intro a' w' hb' hfacts; obtain ⟨hf74, hf75, -⟩ := hfacts; try simp only [VRp6] at hf74; try simp only [VRp6] at hf75)
   have pB := ((HG.out.below hb').lies.2 0 _ rfl).1
   (go_simp; first | exact ⟨_, rfl, Br _, rfl⟩ | exact ⟨_, rfl, Br _, trivial⟩ | exact ⟨_, rfl, Ba _ _, trivial⟩ | exact ⟨_, rfl, Br _, congrArg (Value.int _) (IntWalk.i64_in _ (by omega))⟩)
  ·(refine owes_val (L := [(73, true), (76, true)]) rfl rfl rfl (by kernel_rfl) ?_; intro a' w' hb' hfacts; obtain ⟨hf73, hf76, -⟩ := hfacts; try simp only [VRp6] at hf73; try simp only [VRp6] at hf76)
   have pB := ((HG.out.below hb').lies.2 0 _ rfl).1
   (go_simp; first | exact ⟨_, rfl, Br _, rfl⟩ | exact ⟨_, rfl, Br _, trivial⟩ | exact ⟨_, rfl, Ba _ _, trivial⟩ | exact ⟨_, rfl, Br _, congrArg (Value.int _) (IntWalk.i64_in _ (by omega))⟩)
  ·(refine owes_val (L := [(69, true), (77, true)]) rfl rfl rfl (by kernel_rfl) ?_; intro a' w' hb' hfacts; obtain ⟨hf69, hf77, -⟩ := hfacts; try simp only [VRp6] at hf69; try simp only [VRp6] at hf77)
   have pB := ((HG.out.below hb').lies.2 0 _ rfl).1
   (go_simp; first | exact ⟨_, rfl, Br _, rfl⟩ | exact ⟨_, rfl, Br _, trivial⟩ | exact ⟨_, rfl, Ba _ _, trivial⟩ | exact ⟨_, rfl, Br _, congrArg (Value.int _) (IntWalk.i64_in _ (by omega))⟩)
  ·(refine owes_val (L := [(61, true)]) rfl rfl rfl (by kernel_rfl) ?_; intro a' w' hb' hfacts; obtain ⟨hf61, -⟩ := hfacts; try simp only [VRp6] at hf61)
   have pB := ((HG.out.below hb').lies.2 0 _ rfl).1
   (go_simp; first | exact ⟨_, rfl, Br _, rfl⟩ | exact ⟨_, rfl, Br _, trivial⟩ | exact ⟨_, rfl, Ba _ _, trivial⟩ | exact ⟨_, rfl, Br _, congrArg (Value.int _) (IntWalk.i64_in _ (by omega))⟩)
  ·(refine owes_val (L := [(79, true)]) rfl rfl rfl (by kernel_rfl) ?_; intro a' w' hb' hfacts; obtain ⟨hf79, -⟩ := hfacts; try simp only [VRp6] at hf79)
   have pB := ((HG.out.below hb').lies.2 0 _ rfl).1
   (go_simp; first | exact ⟨_, rfl, Br _, rfl⟩ | exact ⟨_, rfl, Br _, trivial⟩ | exact ⟨_, rfl, Ba _ _, trivial⟩ | exact ⟨_, rfl, Br _, congrArg (Value.int _) (IntWalk.i64_in _ (by omega))⟩)
 ·intro f W2 hf hb
  have e80 : f 80 = .pointer (some ⟨b, 0, none⟩) := hf 80 (by decide)
  have e78 : f 78 = .string (s.extract 0 a ++ p ++ s.extract (a + c) s.size) := hf 78 (by decide)
  obtain ⟨Y, hY⟩ : ∃ Y, s.extract 0 a ++ p ++ s.extract (a + c) s.size = Y := ⟨_, rfl⟩
  rw [hY] at e78
  have hB := HG.out.below hb
  obtain ⟨q0, f0⟩ := hB.lies.2 0 _ rfl
  obtain ⟨q1, f1⟩ := hB.lies.2 1 _ rfl
  have hbl2 := hB.lies.1
  have hE : BufIn ((W2.setCell ⟨b, 0, none⟩ (.string Y)).setCell ⟨b, 1, none⟩ (.int .i64 ((a : Int) + (p.size : Int)))) b Y (a + p.size) lim ∧ Chg (fun k => k = b) w ((W2.setCell ⟨b, 0, none⟩ (.string Y)).setCell ⟨b, 1, none⟩ (.int .i64 ((a : Int) + (p.size : Int)))) :=
   ⟨(Blk.set hB 0 (.string Y)).set 1 (.int .i64 ((a : Int) + (p.size : Int))), (Chg.of_below (HD.out.trans (hb.mono HD.out.size))).trans ((Chg.set W2 ⟨b, 0, none⟩ _).trans (Chg.set _ ⟨b, 1, none⟩ _) (fun _ _ h => h)) (fun _ _ h => h)⟩
  have HE := Lib.hid hE
  have HY := Lib.hid hY
  clear hf hb hB hE hY c0 h1 h2 h3 h4 h5 h6 h7 h8 z1 z2
  simp only [putAll, put_lit, List.map_cons, List.map_nil, List.set_cons_succ, List.set_cons_zero]
  simp only [e80, e78]
  clear e80 e78
  dsimp only [List.drop]
  go_wp2
  refine bodyPost_ret (v := .tuple #[.string (s.extract a (a + c)), .int .i64 0]) (by simp [results, Tryz.results108, go_sem]) rfl ⟨rfl, ?_, HE.out.2⟩
  rw [HY.out]
  exact HE.out.1
theorem RfReplace6 {b : Nat} {s : ByteArray} {P : Int} {lim : Nat} {w : World} (h : BufIn w b s P lim) (hs : s.size ≤ lim) (hl : lim ≤ 1073741824) (a c : Int) (p : ByteArray) (hz : p.size ≤ 4611686018427387904) :
  Calls Tryz.prog 108 #[ptr b, .int .i64 a, .int .i64 c, .string p] w fun e w' => e = .returned (.tuple #[.string (repA s lim a c p).1, .int .i64 (repA s lim a c p).2.1]) ∧ (∃ P', BufIn w' b (repA s lim a c p).2.2 P' lim) ∧ Chg (fun k => k = b) w w' := by
 unfold repA
 by_cases he : repE s.size lim a c p.size = 0
 ·rw [if_pos he]
  obtain ⟨x, y, rfl, rfl, h1, h2⟩ := repE_zero he
  rcases h2 with h2 | h2
  ·simp only [Int.toNat_natCast]
   refine (RfReplace_ok h (by omega) hl x y p h1 h2).mono ?_
   rintro e w' ⟨rfl, k1, k2⟩
   exact ⟨rfl, ⟨_, k1⟩, k2⟩
  ·exact h2.elim
 ·rw [if_neg he]
  refine (RfReplace_bad h (by omega) hl a c p hz he).mono ?_
  rintro e w' ⟨rfl, hb⟩
  exact ⟨rfl, ⟨P, h.below hb⟩, Chg.of_below hb⟩
set_option maxRecDepth 100000 in
theorem RfReset6 {b : Nat} {s : ByteArray} {P : Int} {lim : Nat} {w : World} (h : BufIn w b s P lim) (p : ByteArray) :
  Calls Tryz.prog 110 #[ptr b, .string p] w fun e w' => (e = .returned (.int .i64 (if lim < p.size then 2 else 0))) ∧ (∃ P', BufIn w' b (if lim < p.size then s else p) P' lim) ∧ Chg (fun k => k = b) w w' := by
 have HH := Lib.hid h
 have c2 := (h.lies.2 2 _ rfl).1
 obtain ⟨q0, f0⟩ := h.lies.2 0 _ rfl
 obtain ⟨q1, f1⟩ := h.lies.2 1 _ rfl
 have hbl := h.lies.1
 unfold ptr
 by_cases hq : lim < p.size
 ·rw [if_pos hq, if_pos hq]
  have hq1 : (lim : Int) < (p.size : Int) := by omega
  clear h
  go_enter Tryz.func110, Tryz.ntmps110
  go_wp2
  go_ret
  exact ⟨rfl, ⟨P, HH.out⟩, Chg.refl _ _⟩
 ·rw [if_neg hq, if_neg hq]
  have hq1 : ¬ (lim : Int) < (p.size : Int) := by omega
  have HE := Lib.hid (And.intro (show BufIn ((w.setCell ⟨b, 0, none⟩ (.string p)).setCell ⟨b, 1, none⟩ (.int .i64 p.size)) b p p.size lim from (Blk.set h 0 (.string p)).set 1 (.int .i64 p.size)) ((Chg.set w ⟨b, 0, none⟩ (.string p)).trans (Chg.set _ ⟨b, 1, none⟩ (.int .i64 p.size)) (fun _ _ h => h)))
  clear h
  go_enter Tryz.func110, Tryz.ntmps110
  go_wp2
  go_ret
  exact ⟨rfl, ⟨_, HE.out.1⟩, HE.out.2⟩
def VCl6 (b n0 : Nat) (s : ByteArray) (P : Int) (lim : Nat) : Nat → Value → World → Prop := fun d x w => match d with
 | 3 => x = .pointer (some ⟨b, 0, none⟩)
 | 4 => x = .pointer (some ⟨b, 0, none⟩)
 | 5 => x = .pointer (some ⟨b, 0, none⟩)
 | 6 => x = .string s
 | 7 => x = .pointer (some ⟨b, 0, none⟩)
 | 8 => x = .pointer (some ⟨b, 0, none⟩)
 | 9 => x = .pointer (some ⟨b, 1, none⟩)
 | 10 => x = .int .i64 P
 | 11 => x = .pointer (some ⟨b, 0, none⟩)
 | 12 => x = .pointer (some ⟨b, 0, none⟩)
 | 13 => x = .pointer (some ⟨b, 2, none⟩)
 | 14 => x = .int .i64 lim
 | 15 => x = .agg #[.string s, .int .i64 P, .int .i64 lim]
 | 16 => ∃ q, x = ptr q ∧ n0 ≤ q ∧ BufIn w q s P lim
 | 2 => True
 | _ => True
theorem VCl6_mono (b n0 : Nat) (s : ByteArray) (P : Int) (lim : Nat) : ∀ d x w w', VCl6 b n0 s P lim d x w → Below w.heap.size w w' → VCl6 b n0 s P lim d x w' := by
 intro d x w w' h hb
 unfold VCl6 at *
 split <;> first | exact h | exact trivial | skip
 obtain ⟨q, h1, h2, h3⟩ := h
 exact ⟨q, h1, h2, h3.below hb⟩
set_option maxRecDepth 100000 in
theorem RfClone6 {b : Nat} {s : ByteArray} {P : Int} {lim : Nat} {w : World} (h : BufIn w b s P lim) :
  Calls Tryz.prog 76 #[ptr b] w fun e w' => ∃ b', e = .returned (ptr b') ∧ BufIn w' b' s P lim ∧ w.heap.size ≤ b' ∧ Below w.heap.size w w' := by
 have HH := Lib.hid h
 obtain ⟨q0, f0⟩ := h.lies.2 0 _ rfl
 obtain ⟨q1, f1⟩ := h.lies.2 1 _ rfl
 obtain ⟨q2, f2⟩ := h.lies.2 2 _ rfl
 have hbl := h.lies.1
 clear h
 unfold ptr
 go_enter Tryz.func76, Tryz.ntmps76
 go_wp2
 refine wp_held_tail mixed (VCl6 b w.heap.size s P lim) (VCl6_mono _ _ _ _ _) (by kernel_rfl) 8 14 (by decide) [3, 4, 5, 6, 7, 8, 9, 10, 11, 12, 13, 14, 15, 16] (by kernel_rfl) (by kernel_rfl) (by kernel_rfl) (by kernel_rfl) ?_ ?_
 ·intro j hj
  have hj' : j < 14 := hj
  rcases (by omega : j = 0 ∨ j = 1 ∨ j = 2 ∨ j = 3 ∨ j = 4 ∨ j = 5 ∨ j = 6 ∨ j = 7 ∨ j = 8 ∨ j = 9 ∨ j = 10 ∨ j = 11 ∨ j = 12 ∨ j = 13) with rfl | rfl | rfl | rfl | rfl | rfl | rfl | rfl | rfl | rfl | rfl | rfl | rfl | rfl
  ·(refine owes_val (L := [(0, false)]) rfl rfl rfl (by kernel_rfl) ?_; intro a' w' hb' hfacts; obtain ⟨hf0, -⟩ := hfacts; replace hf0 : a'.tmps[0]?.getD undef = .pointer (some ⟨b, 0, none⟩) := hf0)
   have p0 := ((HH.out.below hb').lies.2 0 _ rfl).1; have p1 := ((HH.out.below hb').lies.2 1 _ rfl).1; have p2 := ((HH.out.below hb').lies.2 2 _ rfl).1
   (go_simp; first | exact ⟨_, rfl, Br _, rfl⟩ | exact ⟨_, rfl, Br _, trivial⟩ | exact ⟨_, rfl, Ba _ _, trivial⟩ | exact ⟨_, rfl, Br _, congrArg (Value.int _) (IntWalk.i64_in _ (by omega))⟩)
  ·(refine owes_val (L := [(3, true)]) rfl rfl rfl (by kernel_rfl) ?_; intro a' w' hb' hfacts; obtain ⟨hf3, -⟩ := hfacts; try simp only [VCl6] at hf3)
   have p0 := ((HH.out.below hb').lies.2 0 _ rfl).1; have p1 := ((HH.out.below hb').lies.2 1 _ rfl).1; have p2 := ((HH.out.below hb').lies.2 2 _ rfl).1
   (go_simp; first | exact ⟨_, rfl, Br _, rfl⟩ | exact ⟨_, rfl, Br _, trivial⟩ | exact ⟨_, rfl, Ba _ _, trivial⟩ | exact ⟨_, rfl, Br _, congrArg (Value.int _) (IntWalk.i64_in _ (by omega))⟩)
  ·(refine owes_val (L := [(4, true)]) rfl rfl rfl (by kernel_rfl) ?_; intro a' w' hb' hfacts; obtain ⟨hf4, -⟩ := hfacts; try simp only [VCl6] at hf4)
   have p0 := ((HH.out.below hb').lies.2 0 _ rfl).1; have p1 := ((HH.out.below hb').lies.2 1 _ rfl).1; have p2 := ((HH.out.below hb').lies.2 2 _ rfl).1
   (go_simp; first | exact ⟨_, rfl, Br _, rfl⟩ | exact ⟨_, rfl, Br _, trivial⟩ | exact ⟨_, rfl, Ba _ _, trivial⟩ | exact ⟨_, rfl, Br _, congrArg (Value.int _) (IntWalk.i64_in _ (by omega))⟩)
  ·(refine owes_val (L := [(5, true)]) rfl rfl rfl (by kernel_rfl) ?_; intro a' w' hb' hfacts; obtain ⟨hf5, -⟩ := hfacts; try simp only [VCl6] at hf5)
   have p0 := ((HH.out.below hb').lies.2 0 _ rfl).1; have p1 := ((HH.out.below hb').lies.2 1 _ rfl).1; have p2 := ((HH.out.below hb').lies.2 2 _ rfl).1
   (go_simp; first | exact ⟨_, rfl, Br _, rfl⟩ | exact ⟨_, rfl, Br _, trivial⟩ | exact ⟨_, rfl, Ba _ _, trivial⟩ | exact ⟨_, rfl, Br _, congrArg (Value.int _) (IntWalk.i64_in _ (by omega))⟩)
  ·(refine owes_val (L := [(0, false)]) rfl rfl rfl (by kernel_rfl) ?_; intro a' w' hb' hfacts; obtain ⟨hf0, -⟩ := hfacts; replace hf0 : a'.tmps[0]?.getD undef = .pointer (some ⟨b, 0, none⟩) := hf0)
   have p0 := ((HH.out.below hb').lies.2 0 _ rfl).1; have p1 := ((HH.out.below hb').lies.2 1 _ rfl).1; have p2 := ((HH.out.below hb').lies.2 2 _ rfl).1
   (go_simp; first | exact ⟨_, rfl, Br _, rfl⟩ | exact ⟨_, rfl, Br _, trivial⟩ | exact ⟨_, rfl, Ba _ _, trivial⟩ | exact ⟨_, rfl, Br _, congrArg (Value.int _) (IntWalk.i64_in _ (by omega))⟩)
  ·(refine owes_val (L := [(7, true)]) rfl rfl rfl (by kernel_rfl) ?_; intro a' w' hb' hfacts; obtain ⟨hf7, -⟩ := hfacts; try simp only [VCl6] at hf7)
   have p0 := ((HH.out.below hb').lies.2 0 _ rfl).1; have p1 := ((HH.out.below hb').lies.2 1 _ rfl).1; have p2 := ((HH.out.below hb').lies.2 2 _ rfl).1
   (go_simp; first | exact ⟨_, rfl, Br _, rfl⟩ | exact ⟨_, rfl, Br _, trivial⟩ | exact ⟨_, rfl, Ba _ _, trivial⟩ | exact ⟨_, rfl, Br _, congrArg (Value.int _) (IntWalk.i64_in _ (by omega))⟩)
  ·(refine owes_val (L := [(8, true)]) rfl rfl rfl (by kernel_rfl) ?_; intro a' w' hb' hfacts; obtain ⟨hf8, -⟩ := hfacts; try simp only [VCl6] at hf8)
   have p0 := ((HH.out.below hb').lies.2 0 _ rfl).1; have p1 := ((HH.out.below hb').lies.2 1 _ rfl).1; have p2 := ((HH.out.below hb').lies.2 2 _ rfl).1
   (go_simp; first | exact ⟨_, rfl, Br _, rfl⟩ | exact ⟨_, rfl, Br _, trivial⟩ | exact ⟨_, rfl, Ba _ _, trivial⟩ | exact ⟨_, rfl, Br _, congrArg (Value.int _) (IntWalk.i64_in _ (by omega))⟩)
  ·(refine owes_val (L := [(9, true)]) rfl rfl rfl (by kernel_rfl) ?_; intro a' w' hb' hfacts; obtain ⟨hf9, -⟩ := hfacts; try simp only [VCl6] at hf9)
   have p0 := ((HH.out.below hb').lies.2 0 _ rfl).1; have p1 := ((HH.out.below hb').lies.2 1 _ rfl).1; have p2 := ((HH.out.below hb').lies.2 2 _ rfl).1
   (go_simp; first | exact ⟨_, rfl, Br _, rfl⟩ | exact ⟨_, rfl, Br _, trivial⟩ | exact ⟨_, rfl, Ba _ _, trivial⟩ | exact ⟨_, rfl, Br _, congrArg (Value.int _) (IntWalk.i64_in _ (by omega))⟩)
  ·(refine owes_val (L := [(0, false)]) rfl rfl rfl (by kernel_rfl) ?_; intro a' w' hb' hfacts; obtain ⟨hf0, -⟩ := hfacts; replace hf0 : a'.tmps[0]?.getD undef = .pointer (some ⟨b, 0, none⟩) := hf0)
   have p0 := ((HH.out.below hb').lies.2 0 _ rfl).1; have p1 := ((HH.out.below hb').lies.2 1 _ rfl).1; have p2 := ((HH.out.below hb').lies.2 2 _ rfl).1
   (go_simp; first | exact ⟨_, rfl, Br _, rfl⟩ | exact ⟨_, rfl, Br _, trivial⟩ | exact ⟨_, rfl, Ba _ _, trivial⟩ | exact ⟨_, rfl, Br _, congrArg (Value.int _) (IntWalk.i64_in _ (by omega))⟩)
  ·(refine owes_val (L := [(11, true)]) rfl rfl rfl (by kernel_rfl) ?_; intro a' w' hb' hfacts; obtain ⟨hf11, -⟩ := hfacts; try simp only [VCl6] at hf11)
   have p0 := ((HH.out.below hb').lies.2 0 _ rfl).1; have p1 := ((HH.out.below hb').lies.2 1 _ rfl).1; have p2 := ((HH.out.below hb').lies.2 2 _ rfl).1
   (go_simp; first | exact ⟨_, rfl, Br _, rfl⟩ | exact ⟨_, rfl, Br _, trivial⟩ | exact ⟨_, rfl, Ba _ _, trivial⟩ | exact ⟨_, rfl, Br _, congrArg (Value.int _) (IntWalk.i64_in _ (by omega))⟩)
  ·(refine owes_val (L := [(12, true)]) rfl rfl rfl (by kernel_rfl) ?_; intro a' w' hb' hfacts; obtain ⟨hf12, -⟩ := hfacts; try simp only [VCl6] at hf12)
   have p0 := ((HH.out.below hb').lies.2 0 _ rfl).1; have p1 := ((HH.out.below hb').lies.2 1 _ rfl).1; have p2 := ((HH.out.below hb').lies.2 2 _ rfl).1
   (go_simp; first | exact ⟨_, rfl, Br _, rfl⟩ | exact ⟨_, rfl, Br _, trivial⟩ | exact ⟨_, rfl, Ba _ _, trivial⟩ | exact ⟨_, rfl, Br _, congrArg (Value.int _) (IntWalk.i64_in _ (by omega))⟩)
  ·(refine owes_val (L := [(13, true)]) rfl rfl rfl (by kernel_rfl) ?_; intro a' w' hb' hfacts; obtain ⟨hf13, -⟩ := hfacts; try simp only [VCl6] at hf13)
   have p0 := ((HH.out.below hb').lies.2 0 _ rfl).1; have p1 := ((HH.out.below hb').lies.2 1 _ rfl).1; have p2 := ((HH.out.below hb').lies.2 2 _ rfl).1
   (go_simp; first | exact ⟨_, rfl, Br _, rfl⟩ | exact ⟨_, rfl, Br _, trivial⟩ | exact ⟨_, rfl, Ba _ _, trivial⟩ | exact ⟨_, rfl, Br _, congrArg (Value.int _) (IntWalk.i64_in _ (by omega))⟩)
  ·(refine owes_val (L := [(6, true), (10, true), (14, true)]) rfl rfl rfl (by kernel_rfl) ?_; intro a' w' hb' hfacts; obtain ⟨hf6, hf10, hf14, -⟩ := hfacts; try simp only [VCl6] at hf6; try simp only [VCl6] at hf10; try simp only [VCl6] at hf14)
   have p0 := ((HH.out.below hb').lies.2 0 _ rfl).1; have p1 := ((HH.out.below hb').lies.2 1 _ rfl).1; have p2 := ((HH.out.below hb').lies.2 2 _ rfl).1
   (go_simp; first | exact ⟨_, rfl, Br _, rfl⟩ | exact ⟨_, rfl, Br _, trivial⟩ | exact ⟨_, rfl, Ba _ _, trivial⟩ | exact ⟨_, rfl, Br _, congrArg (Value.int _) (IntWalk.i64_in _ (by omega))⟩)
  ·(refine owes_val (L := [(15, true)]) rfl rfl rfl (by kernel_rfl) ?_; intro a' w' hb' hfacts; obtain ⟨hf15, -⟩ := hfacts; try simp only [VCl6] at hf15)
   go_simp
   exact ⟨_, rfl, (Below.refl _ _).alloc (Nat.le_refl _) _, _, rfl, hb'.size, Blk.new _ [.string s, .int .i64 P, .int .i64 lim] _⟩
 ·intro f W2 hf hb
  obtain ⟨q, e2, hq, hB⟩ := hf 16 (by decide)
  have HB := Lib.hid hb
  have HBq := Lib.hid hB
  clear hf hb hB q0 f0 q1 f1 q2 f2 hbl
  simp only [putAll, put_lit, List.map_cons, List.map_nil, List.set_cons_succ, List.set_cons_zero]
  simp only [e2]
  clear e2
  dsimp only [List.drop]
  go_wp2
  go_ret
  exact ⟨q, rfl, HBq.out, hq, HB.out⟩
end Go.Proofs.YtfchglcclgcgfaaGreatDoor.Ut
