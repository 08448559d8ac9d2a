/-
  What the proof of the row StoreTexts rests on: the texts StWh. Conditions: each theorem names its own.
-/
import Derived.Test.YtfchglcclgcgfaaGreatDoorMgSo
import Derived.Test.YtfchglcclgcgfaaGreatDoorMgSe
/-
 store.whole, Same. Condition: what the texts answer.
-/
namespace Go.Proofs.YtfchglcclgcgfaaGreatDoor.Ut
open Go.RowKit Go.Proofs.YtfchglcclgcgfaaGreatDoor.Reg
set_option linter.unusedVariables false
set_option linter.unusedSimpArgs false

/-- A value that keeps a text, as Same asks it. -/
def Keeps3 (W : World) (v : Value) (s : ByteArray) : Prop := (v = .nilIface ∧ s = ⟨#[]⟩) ∨ (∃ p, v = .iface 26 (.pointer p) ∧ HasS W p s) ∨ (∃ p, v = .iface 30 (.pointer p) ∧ HasG W p s)
def VWh3 (v : Value) (s : ByteArray) : Nat → Value → World → Prop := fun d x w => match d with
 | 8 => x = v
 | 9 => x = v
 | 10 => x = .int .i64 s.size
 | 11 => x = .func (.method "Slice") #[v] #[]
 | 12 => x = .func (.method "Slice") #[v] #[]
 | 13 => x = v
 | 14 => x = .tuple #[.string s, .int .i64 0]
 | 7 => x = .tuple #[.string s, .int .i64 0]
 | 15 => x = .string s
 | 16 => True
 | 3 => x = .string s
 | 4 => True
 | _ => True
theorem VWh3_mono (v : Value) (s : ByteArray) : ∀ d x w w', VWh3 v s d x w → Below w.heap.size w w' → VWh3 v s d x w' := by
 exact fun _ _ _ _ h _ => h
theorem stT_len (k : Nat) (p : Option Addr) (w : World) : (method (k + 1) 26 (.pointer p) "Len").run Tryz.prog w = .ok (58, .pointer p) w := by kernel_rfl
theorem stT_slice (k : Nat) (p : Option Addr) (w : World) : (method (k + 1) 26 (.pointer p) "Slice").run Tryz.prog w = .ok (69, .pointer p) w := by kernel_rfl
set_option maxRecDepth 100000 in
set_option maxHeartbeats 1000000 in
theorem whole_stT {W : World} {p : Option Addr} {s : ByteArray} (h : HasS W p s) :
  Calls Tryz.prog 56 #[.iface 26 (.pointer p)] W fun e w' => e = .returned (.string s) ∧ Below W.heap.size W w' := by
 have H := Lib.hid h
 have hw := extract_all s
 have m1 := fun w => stT_len 356 p w
 have m2 := fun w => stT_slice 356 p w
 clear h
 go_enter Tryz.func56, Tryz.ntmps56
 go_wp2
 refine wp_held' mixed (VWh3 (.iface 26 (.pointer p)) s) (VWh3_mono _ _) (by kernel_rfl) [8, 9, 10, 11, 12, 13, 14, 7, 15, 16, 3, 4] (by kernel_rfl) (by kernel_rfl) ?_ ?_
 ·intro j hj
  have hj' : j < 12 := hj
  rcases (by omega : j = 0 ∨ j = 1 ∨ j = 2 ∨ j = 3 ∨ j = 4 ∨ j = 5 ∨ j = 6 ∨ j = 7 ∨ j = 8 ∨ j = 9 ∨ j = 10 ∨ j = 11) with rfl | rfl | rfl | rfl | rfl | rfl | rfl | rfl | rfl | rfl | rfl | rfl
  ·(refine owes_val (L := [(0, false)]) rfl rfl rfl (by kernel_rfl) ?_; intro a' w' hb' hfacts; obtain ⟨hf0, -⟩ := hfacts; replace hf0 : a'.tmps[0]?.getD undef = .iface 26 (.pointer p) := hf0)
   (go_simp; first | exact ⟨_, rfl, Br _, rfl⟩ | exact ⟨_, rfl, Br _, trivial⟩ | exact ⟨_, rfl, Ba _ _, trivial⟩ | exact ⟨_, rfl, Br _, congrArg (Value.int _) (IntWalk.i64_in _ (by omega))⟩)
  ·(refine owes_val (L := [(0, false)]) rfl rfl rfl (by kernel_rfl) ?_; intro a' w' hb' hfacts; obtain ⟨hf0, -⟩ := hfacts; replace hf0 : a'.tmps[0]?.getD undef = .iface 26 (.pointer p) := hf0)
   (go_simp; first | exact ⟨_, rfl, Br _, rfl⟩ | exact ⟨_, rfl, Br _, trivial⟩ | exact ⟨_, rfl, Ba _ _, trivial⟩ | exact ⟨_, rfl, Br _, congrArg (Value.int _) (IntWalk.i64_in _ (by omega))⟩)
  ·(refine owes_val (L := [(9, true)]) rfl rfl rfl (by kernel_rfl) ?_; intro a' w' hb' hfacts; obtain ⟨hf9, -⟩ := hfacts; try simp only [VWh3] at hf9)
   go_simp
   refine (H.out.len w' hb').mono ?_
   rintro e w3 ⟨rfl, hb3⟩
   exact ⟨_, rfl, hb3, rfl⟩
  ·(refine owes_val (L := [(8, true)]) rfl rfl rfl (by kernel_rfl) ?_; intro a' w' hb' hfacts; obtain ⟨hf8, -⟩ := hfacts; try simp only [VWh3] at hf8)
   (go_simp; first | exact ⟨_, rfl, Br _, rfl⟩ | exact ⟨_, rfl, Br _, trivial⟩ | exact ⟨_, rfl, Ba _ _, trivial⟩ | exact ⟨_, rfl, Br _, congrArg (Value.int _) (IntWalk.i64_in _ (by omega))⟩)
  ·(refine owes_val (L := [(11, true)]) rfl rfl rfl (by kernel_rfl) ?_; intro a' w' hb' hfacts; obtain ⟨hf11, -⟩ := hfacts; try simp only [VWh3] at hf11)
   (go_simp; first | exact ⟨_, rfl, Br _, rfl⟩ | exact ⟨_, rfl, Br _, trivial⟩ | exact ⟨_, rfl, Ba _ _, trivial⟩ | exact ⟨_, rfl, Br _, congrArg (Value.int _) (IntWalk.i64_in _ (by omega))⟩)
  ·(refine owes_val (L := [(8, true)]) rfl rfl rfl (by kernel_rfl) ?_; intro a' w' hb' hfacts; obtain ⟨hf8, -⟩ := hfacts; try simp only [VWh3] at hf8)
   (go_simp; first | exact ⟨_, rfl, Br _, rfl⟩ | exact ⟨_, rfl, Br _, trivial⟩ | exact ⟨_, rfl, Ba _ _, trivial⟩ | exact ⟨_, rfl, Br _, congrArg (Value.int _) (IntWalk.i64_in _ (by omega))⟩)
  ·(refine owes_val (L := [(13, true), (10, true)]) rfl rfl rfl (by kernel_rfl) ?_; intro a' w' hb' hfacts; obtain ⟨hf13, hf10, -⟩ := hfacts; try simp only [VWh3] at hf13; try simp only [VWh3] at hf10)
   go_simp
   refine (H.out.slice w' 0 s.size hb' (Nat.zero_le _) (Nat.le_refl _)).mono ?_
   rintro e w3 ⟨rfl, hb3⟩
   exact ⟨_, rfl, hb3, by rw [hw]; rfl⟩
  ·(refine owes_val (L := [(14, true)]) rfl rfl rfl (by kernel_rfl) ?_; intro a' w' hb' hfacts; obtain ⟨hf14, -⟩ := hfacts; try simp only [VWh3] at hf14)
   (go_simp; first | exact ⟨_, rfl, Br _, rfl⟩ | exact ⟨_, rfl, Br _, trivial⟩ | exact ⟨_, rfl, Ba _ _, trivial⟩ | exact ⟨_, rfl, Br _, congrArg (Value.int _) (IntWalk.i64_in _ (by omega))⟩)
  ·(refine owes_val (L := [(7, true)]) rfl rfl rfl (by kernel_rfl) ?_; intro a' w' hb' hfacts; obtain ⟨hf7, -⟩ := hfacts; try simp only [VWh3] at hf7)
   (go_simp; first | exact ⟨_, rfl, Br _, rfl⟩ | exact ⟨_, rfl, Br _, trivial⟩ | exact ⟨_, rfl, Ba _ _, trivial⟩ | exact ⟨_, rfl, Br _, congrArg (Value.int _) (IntWalk.i64_in _ (by omega))⟩)
  ·(refine owes_val (L := [(7, true)]) rfl rfl rfl (by kernel_rfl) ?_; intro a' w' hb' hfacts; obtain ⟨hf7, -⟩ := hfacts; try simp only [VWh3] at hf7)
   (go_simp; first | exact ⟨_, rfl, Br _, rfl⟩ | exact ⟨_, rfl, Br _, trivial⟩ | exact ⟨_, rfl, Ba _ _, trivial⟩ | exact ⟨_, rfl, Br _, congrArg (Value.int _) (IntWalk.i64_in _ (by omega))⟩)
  ·(refine owes_val (L := [(15, true)]) rfl rfl rfl (by kernel_rfl) ?_; intro a' w' hb' hfacts; obtain ⟨hf15, -⟩ := hfacts; try simp only [VWh3] at hf15)
   (go_simp; first | exact ⟨_, rfl, Br _, rfl⟩ | exact ⟨_, rfl, Br _, trivial⟩ | exact ⟨_, rfl, Ba _ _, trivial⟩ | exact ⟨_, rfl, Br _, congrArg (Value.int _) (IntWalk.i64_in _ (by omega))⟩)
  ·(refine owes_val (L := [(16, true)]) rfl rfl rfl (by kernel_rfl) ?_; intro a' w' hb' hfacts; obtain ⟨hf16, -⟩ := hfacts; try simp only [VWh3] at hf16)
   (go_simp; first | exact ⟨_, rfl, Br _, rfl⟩ | exact ⟨_, rfl, Br _, trivial⟩ | exact ⟨_, rfl, Ba _ _, trivial⟩ | exact ⟨_, rfl, Br _, congrArg (Value.int _) (IntWalk.i64_in _ (by omega))⟩)
 ·intro f W9 hf hb
  have f3 : f 3 = .string s := hf 3 (by decide)
  have HB := Lib.hid hb
  clear hf hb
  simp only [putAll, put_lit, List.map_cons, List.map_nil, List.set_cons_succ, List.set_cons_zero]
  simp only [f3]
  go_wp2
  go_ret
  exact ⟨rfl, HB.out⟩
theorem gpT_len (k : Nat) (p : Option Addr) (w : World) : (method (k + 1) 30 (.pointer p) "Len").run Tryz.prog w = .ok (231, .pointer p) w := by kernel_rfl
theorem gpT_slice (k : Nat) (p : Option Addr) (w : World) : (method (k + 1) 30 (.pointer p) "Slice").run Tryz.prog w = .ok (234, .pointer p) w := by kernel_rfl
set_option maxRecDepth 100000 in
set_option maxHeartbeats 1000000 in
theorem whole_gpT {W : World} {p : Option Addr} {s : ByteArray} (h : HasG W p s) :
  Calls Tryz.prog 56 #[.iface 30 (.pointer p)] W fun e w' => e = .returned (.string s) ∧ Below W.heap.size W w' := by
 have H := Lib.hid h
 have hw := extract_all s
 have m1 := fun w => gpT_len 356 p w
 have m2 := fun w => gpT_slice 356 p w
 clear h
 go_enter Tryz.func56, Tryz.ntmps56
 go_wp2
 refine wp_held' mixed (VWh3 (.iface 30 (.pointer p)) s) (VWh3_mono _ _) (by kernel_rfl) [8, 9, 10, 11, 12, 13, 14, 7, 15, 16, 3, 4] (by kernel_rfl) (by kernel_rfl) ?_ ?_
 ·intro j hj
  have hj' : j < 12 := hj
  rcases (by omega : j = 0 ∨ j = 1 ∨ j = 2 ∨ j = 3 ∨ j = 4 ∨ j = 5 ∨ j = 6 ∨ j = 7 ∨ j = 8 ∨ j = 9 ∨ j = 10 ∨ j = 11) with rfl | rfl | rfl | rfl | rfl | rfl | rfl | rfl | rfl | rfl | rfl | rfl
  ·(refine owes_val (L := [(0, false)]) rfl rfl rfl (by kernel_rfl) ?_; intro a' w' hb' hfacts; obtain ⟨hf0, -⟩ := hfacts; replace hf0 : a'.tmps[0]?.getD undef = .iface 30 (.pointer p) := hf0)
   (go_simp; first | exact ⟨_, rfl, Br _, rfl⟩ | exact ⟨_, rfl, Br _, trivial⟩ | exact ⟨_, rfl, Ba _ _, trivial⟩ | exact ⟨_, rfl, Br _, congrArg (Value.int _) (IntWalk.i64_in _ (by omega))⟩)
  ·(refine owes_val (L := [(0, false)]) rfl rfl rfl (by kernel_rfl) ?_; intro a' w' hb' hfacts; obtain ⟨hf0, -⟩ := hfacts; replace hf0 : a'.tmps[0]?.getD undef = .iface 30 (.pointer p) := hf0)
   (go_simp; first | exact ⟨_, rfl, Br _, rfl⟩ | exact ⟨_, rfl, Br _, trivial⟩ | exact ⟨_, rfl, Ba _ _, trivial⟩ | exact ⟨_, rfl, Br _, congrArg (Value.int _) (IntWalk.i64_in _ (by omega))⟩)
  ·(refine owes_val (L := [(9, true)]) rfl rfl rfl (by kernel_rfl) ?_; intro a' w' hb' hfacts; obtain ⟨hf9, -⟩ := hfacts; try simp only [VWh3] at hf9)
   go_simp
   refine (H.out.len w' hb').mono ?_
   rintro e w3 ⟨rfl, hb3⟩
   exact ⟨_, rfl, hb3, rfl⟩
  ·(refine owes_val (L := [(8, true)]) rfl rfl rfl (by kernel_rfl) ?_; intro a' w' hb' hfacts; obtain ⟨hf8, -⟩ := hfacts; try simp only [VWh3] at hf8)
   (go_simp; first | exact ⟨_, rfl, Br _, rfl⟩ | exact ⟨_, rfl, Br _, trivial⟩ | exact ⟨_, rfl, Ba _ _, trivial⟩ | exact ⟨_, rfl, Br _, congrArg (Value.int _) (IntWalk.i64_in _ (by omega))⟩)
  ·(refine owes_val (L := [(11, true)]) rfl rfl rfl (by kernel_rfl) ?_; intro a' w' hb' hfacts; obtain ⟨hf11, -⟩ := hfacts; try simp only [VWh3] at hf11)
   (go_simp; first | exact ⟨_, rfl, Br _, rfl⟩ | exact ⟨_, rfl, Br _, trivial⟩ | exact ⟨_, rfl, Ba _ _, trivial⟩ | exact ⟨_, rfl, Br _, congrArg (Value.int _) (IntWalk.i64_in _ (by omega))⟩)
  ·(refine owes_val (L := [(8, true)]) rfl rfl rfl (by kernel_rfl) ?_; intro a' w' hb' hfacts; obtain ⟨hf8, -⟩ := hfacts; try simp only [VWh3] at hf8)
   (go_simp; first | exact ⟨_, rfl, Br _, rfl⟩ | exact ⟨_, rfl, Br _, trivial⟩ | exact ⟨_, rfl, Ba _ _, trivial⟩ | exact ⟨_, rfl, Br _, congrArg (Value.int _) (IntWalk.i64_in _ (by omega))⟩)
  ·(refine owes_val (L := [(13, true), (10, true)]) rfl rfl rfl (by kernel_rfl) ?_; intro a' w' hb' hfacts; obtain ⟨hf13, hf10, -⟩ := hfacts; try simp only [VWh3] at hf13; try simp only [VWh3] at hf10)
   go_simp
   refine (H.out.slice w' 0 s.size hb' (Nat.zero_le _) (Nat.le_refl _)).mono ?_
   rintro e w3 ⟨rfl, hb3⟩
   exact ⟨_, rfl, hb3, by rw [hw]; rfl⟩
  ·(refine owes_val (L := [(14, true)]) rfl rfl rfl (by kernel_rfl) ?_; intro a' w' hb' hfacts; obtain ⟨hf14, -⟩ := hfacts; try simp only [VWh3] at hf14)
   (go_simp; first | exact ⟨_, rfl, Br _, rfl⟩ | exact ⟨_, rfl, Br _, trivial⟩ | exact ⟨_, rfl, Ba _ _, trivial⟩ | exact ⟨_, rfl, Br _, congrArg (Value.int _) (IntWalk.i64_in _ (by omega))⟩)
  ·(refine owes_val (L := [(7, true)]) rfl rfl rfl (by kernel_rfl) ?_; intro a' w' hb' hfacts; obtain ⟨hf7, -⟩ := hfacts; try simp only [VWh3] at hf7)
   (go_simp; first | exact ⟨_, rfl, Br _, rfl⟩ | exact ⟨_, rfl, Br _, trivial⟩ | exact ⟨_, rfl, Ba _ _, trivial⟩ | exact ⟨_, rfl, Br _, congrArg (Value.int _) (IntWalk.i64_in _ (by omega))⟩)
  ·(refine owes_val (L := [(7, true)]) rfl rfl rfl (by kernel_rfl) ?_; intro a' w' hb' hfacts; obtain ⟨hf7, -⟩ := hfacts; try simp only [VWh3] at hf7)
   (go_simp; first | exact ⟨_, rfl, Br _, rfl⟩ | exact ⟨_, rfl, Br _, trivial⟩ | exact ⟨_, rfl, Ba _ _, trivial⟩ | exact ⟨_, rfl, Br _, congrArg (Value.int _) (IntWalk.i64_in _ (by omega))⟩)
  ·(refine owes_val (L := [(15, true)]) rfl rfl rfl (by kernel_rfl) ?_; intro a' w' hb' hfacts; obtain ⟨hf15, -⟩ := hfacts; try simp only [VWh3] at hf15)
   (go_simp; first | exact ⟨_, rfl, Br _, rfl⟩ | exact ⟨_, rfl, Br _, trivial⟩ | exact ⟨_, rfl, Ba _ _, trivial⟩ | exact ⟨_, rfl, Br _, congrArg (Value.int _) (IntWalk.i64_in _ (by omega))⟩)
  ·(refine owes_val (L := [(16, true)]) rfl rfl rfl (by kernel_rfl) ?_; intro a' w' hb' hfacts; obtain ⟨hf16, -⟩ := hfacts; try simp only [VWh3] at hf16)
   (go_simp; first | exact ⟨_, rfl, Br _, rfl⟩ | exact ⟨_, rfl, Br _, trivial⟩ | exact ⟨_, rfl, Ba _ _, trivial⟩ | exact ⟨_, rfl, Br _, congrArg (Value.int _) (IntWalk.i64_in _ (by omega))⟩)
 ·intro f W9 hf hb
  have f3 : f 3 = .string s := hf 3 (by decide)
  have HB := Lib.hid hb
  clear hf hb
  simp only [putAll, put_lit, List.map_cons, List.map_nil, List.set_cons_succ, List.set_cons_zero]
  simp only [f3]
  go_wp2
  go_ret
  exact ⟨rfl, HB.out⟩
theorem whole_nil (W : World) : Calls Tryz.prog 56 #[.nilIface] W fun e w' => e = .returned (.string ⟨#[]⟩) ∧ Below W.heap.size W w' := by
 go_enter Tryz.func56, Tryz.ntmps56
 go_wp2
 go_ret
 exact ⟨rfl, Below.refl _ _⟩
theorem whole_any {W : World} {v : Value} {s : ByteArray} (h : Keeps3 W v s) : Calls Tryz.prog 56 #[v] W fun e w' => e = .returned (.string s) ∧ Below W.heap.size W w' := by
 rcases h with ⟨rfl, rfl⟩ | ⟨p, rfl, h⟩ | ⟨p, rfl, h⟩
 ·exact whole_nil W
 ·exact whole_stT h
 ·exact whole_gpT h
theorem Keeps3.below {W W' : World} {v : Value} {s : ByteArray} (h : Keeps3 W v s) (hb : Below W.heap.size W W') : Keeps3 W' v s := by
 rcases h with h | ⟨p, h1, h⟩ | ⟨p, h1, h⟩
 ·exact .inl h
 ·exact .inr (.inl ⟨p, h1, ⟨h.small, fun w k => h.len w (hb.trans (k.mono hb.size)), fun w i j k => h.slice w i j (hb.trans (k.mono hb.size)), fun w i k => h.meas w i (hb.trans (k.mono hb.size))⟩⟩)
 ·exact .inr (.inr ⟨p, h1, ⟨h.small, fun w k => h.len w (hb.trans (k.mono hb.size)), fun w i j k => h.slice w i j (hb.trans (k.mono hb.size)), fun w i k => h.meas w i (hb.trans (k.mono hb.size))⟩⟩)
theorem Same_any {W : World} {v u : Value} {s t : ByteArray} (h1 : Keeps3 W v s) (h2 : Keeps3 W u t) : Calls Tryz.prog 18 #[v, u] W fun e w' => e = .returned (.bool (decide (s = t))) ∧ Below W.heap.size W w' := by
 have H1 := Lib.hid h1
 have H2 := Lib.hid h2
 clear h1 h2
 by_cases hst : s = t
 ·rw [decide_eq_true hst]
  subst hst
  go_enter Tryz.func18, Tryz.ntmps18
  go_wp2_with fail
  refine (whole_any H1.out).mono ?_
  rintro e w1 ⟨rfl, hb⟩
  have HB := Lib.hid hb
  have H2 := Lib.hid (H2.out.below hb)
  clear hb
  go_wp2_with fail
  refine (whole_any H2.out).mono ?_
  rintro e w2 ⟨rfl, hb⟩
  have HB2 := Lib.hid (HB.out.trans (hb.mono HB.out.size))
  clear hb
  go_wp2
  go_ret
  exact ⟨rfl, HB2.out⟩
 ·rw [decide_eq_false hst]
  have hq : (s.toList == t.toList) = false := by
   rw [beq_eq_false_iff_ne]
   intro e
   rw [ByteArray.toList_eq, ByteArray.toList_eq] at e
   exact hst (ext_of_list e)
  go_enter Tryz.func18, Tryz.ntmps18
  go_wp2_with fail
  refine (whole_any H1.out).mono ?_
  rintro e w1 ⟨rfl, hb⟩
  have HB := Lib.hid hb
  have H2 := Lib.hid (H2.out.below hb)
  clear hb
  go_wp2_with fail
  refine (whole_any H2.out).mono ?_
  rintro e w2 ⟨rfl, hb⟩
  have HB2 := Lib.hid (HB.out.trans (hb.mono HB.out.size))
  clear hb
  go_wp2
  go_ret
  exact ⟨rfl, HB2.out⟩
end Go.Proofs.YtfchglcclgcgfaaGreatDoor.Ut
