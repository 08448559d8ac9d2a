/-
  What the proof of the row LinesAlike rests on, part 7 of 10: the texts RoM LnD StA StB Open LwT. Conditions: each theorem names its own.
-/
import Derived.Test.YtgmpohdkignadaaGreatDoorMgLinesAlikef
import Derived.Test.YtgmpohdkignadaaGreatDoorMgLinesAlikec
import Derived.Test.YtgmpohdkignadaaGreatDoorMgLinesAlikea
import Derived.Deep.Slices
import Derived.Deep.Fields
import Derived.ChangeSame
import Derived.Carry
import Derived.SizedLaws
import Derived.Test.YtgmpohdkignadaaGreatDoorRows
import Derived.Lib.LaidU8T
import Derived.MakeChecks
/-
  rope.grown: the tree of leaves with these texts. Condition: the two tables of unicode/utf8 lie as laid.
-/
namespace Go.Proofs.YtgmpohdkignadaaGreatDoor.Ut
open Go.RowKit Go.Proofs.YtgmpohdkignadaaGreatDoor.Reg
set_option linter.unusedVariables false
set_option linter.unusedSimpArgs false

/-- The strings L lie in block g from o on. -/
def StrAt (W : World) (g o : Nat) (L : List ByteArray) : Prop := g < W.heap.size ∧ ∀ i s, L[i]? = some s → W.cell? ⟨g, o + i, none⟩ = some (.string s)
theorem StrAt.below {W W' : World} {g o : Nat} {L : List ByteArray} (h : StrAt W g o L) (hb : Below W.heap.size W W') : StrAt W' g o L :=
  ⟨Nat.lt_of_lt_of_le h.1 hb.size, fun i s hi => (hb.cell (p := ⟨g, o + i, none⟩) h.1).trans (h.2 i s hi)⟩
theorem StrAt.left {W : World} {g o : Nat} {A B : List ByteArray} (h : StrAt W g o (A ++ B)) : StrAt W g o A :=
  ⟨h.1, fun i s hi => h.2 i s (by
    have hl : i < A.length := (List.getElem?_eq_some_iff.1 hi).1
    rw [List.getElem?_append_left hl]; exact hi)⟩
theorem StrAt.right {W : World} {g o : Nat} {A B : List ByteArray} (h : StrAt W g o (A ++ B)) : StrAt W g (o + A.length) B :=
  ⟨h.1, fun i s hi => by
    rw [Nat.add_assoc]
    exact h.2 _ s (by rw [List.getElem?_append_right (by omega)]; rw [show A.length + i - A.length = i by omega]; exact hi)⟩

/-- What grown does, of n texts. -/
def GrownTo (n : Nat) : Prop := ∀ (g o c : Nat) (L : List ByteArray) (w : World), L.length = n → 0 < n → n ≤ c → Tabs w → StrAt w g o L → OkL L →
    Calls Tryz.prog 91 #[.slice (some ⟨g, o, none⟩) n c] w (Made L w)

set_option maxRecDepth 100000 in
theorem grown_one : GrownTo 1 := by
  intro g o c L w hL _ hc hT hS hO
  obtain ⟨s, rfl⟩ : ∃ s, L = [s] := List.length_eq_one_iff.1 hL
  have c0 := hS.2 0 s rfl
  rw [Nat.add_zero] at c0
  have hg := hS.1
  have hs := hO.leaf_le s (by simp)
  have HT := Lib.hid hT
  clear hT hS hO hL
  go_enter Tryz.func91, Tryz.ntmps91
  go_wp2_with fail
  refine (leaf_any s w HT.out hs).mono ?_
  rintro e w1 ⟨b, rfl, h1, hb, hB⟩
  have H1 := Lib.hid h1
  have HB := Lib.hid hB
  clear h1 hB
  unfold ptr
  go_wp2
  go_ret
  exact ⟨b, _, rfl, H1.out, rfl, hb, HB.out⟩

def VGrown (g o n c k base : Nat) (L1 L2 : List ByteArray) : Nat → Value → World → Prop := fun d x w => match d with
  | 14 => x = .slice (some ⟨g, o, none⟩) n c
  | 15 => x = .int .i64 k
  | 16 => x = .slice (some ⟨g, o, none⟩) k c
  | 17 => TrV base L1 x w
  | 18 => x = .slice (some ⟨g, o, none⟩) n c
  | 19 => x = .int .i64 k
  | 20 => x = .slice (some ⟨g, o + k, none⟩) (n - k) (c - k)
  | 21 => TrV base L2 x w
  | 22 => TrV base (L1 ++ L2) x w
  | 2 => TrV base (L1 ++ L2) x w
  | _ => True
theorem VGrown_mono (g o n c k base : Nat) (L1 L2 : List ByteArray) : ∀ d x w w', VGrown g o n c k base L1 L2 d x w → Below w.heap.size w w' → VGrown g o n c k base L1 L2 d x w' := by
  intro d x w w' h hb
  unfold VGrown at *
  split <;> first | exact h | exact trivial | skip
  all_goals exact h.below hb

set_option maxRecDepth 100000 in
set_option maxHeartbeats 1000000 in
theorem grown_more (n : Nat) (hn : 1 < n) (ih : ∀ m, m < n → GrownTo m) : GrownTo n := by
  intro g o c L w hL _ hc hT hS hO
  obtain ⟨k, hk⟩ : ∃ k, n / 2 = k := ⟨_, rfl⟩
  have hk0 : 0 < k := by omega
  have hkn : k < n := by omega
  obtain ⟨A, B, hAB, hA⟩ : ∃ A B, L = A ++ B ∧ A.length = k := ⟨L.take k, L.drop k, (List.take_append_drop k L).symm, by rw [List.length_take]; omega⟩
  subst hAB
  have hB : B.length = n - k := by rw [List.length_append] at hL; omega
  have hn2 : n ≤ 4294967296 := by
    have h1 := len_cat hO.ne
    have h2 := hO.sz
    omega
  have S1 := Lib.hid hS.left
  have hr := hS.right
  rw [hA] at hr
  have S2 := Lib.hid hr
  have HO := Lib.hid hO
  have HT := Lib.hid hT
  have I1 := Lib.hid (ih k hkn)
  have I2 := Lib.hid (ih (n - k) (by omega))
  have HA := Lib.hid hA
  have HBl := Lib.hid hB
  have hok : (∀ l r : Tr, l.leaves = A → r.leaves = B → (Tr.knot l r).Ok) := fun l r h1 h2 => Tr.ok_iff.2 (by simp only [Tr.leaves]; rw [h1, h2]; exact hO)
  have HK := Lib.hid hok
  have e1 : ((n : Int) == 1) = false := by rw [beq_eq_false_iff_ne]; omega
  have e2 : (n : Int) / 2 = (k : Int) := by omega
  have q1 : (k : Int) ≤ (n : Int) := by omega
  have q2 : (0 : Int) ≤ (k : Int) := by omega
  have HB := Lib.hid (Below.refl w.heap.size w)
  clear hL hA hB hr hS hO hT ih hok hk
  go_enter Tryz.func91, Tryz.ntmps91
  go_wp2
  have nkc : ¬ c = k := by omega
  have q3 : k ≤ c := by omega
  have q4 : (k : Int) ≤ (c : Int) := by omega
  refine wp_held' mixed (VGrown g o n c k w.heap.size A B) (VGrown_mono _ _ _ _ _ _ _ _) (by kernel_rfl) [14, 15, 16, 17, 18, 19, 20, 21, 22, 2] (by kernel_rfl) (by kernel_rfl) ?_ ?_
  · intro j hj
    have hj' : j < 10 := hj
    rcases (by omega : j = 0 ∨ j = 1 ∨ j = 2 ∨ j = 3 ∨ j = 4 ∨ j = 5 ∨ j = 6 ∨ j = 7 ∨ j = 8 ∨ j = 9) with rfl | rfl | rfl | rfl | rfl | rfl | rfl | rfl | rfl | rfl
    · -- operation 0
      (refine owes_val (L := [(0, false)]) rfl rfl rfl (by kernel_rfl) ?_; intro a' w' hb' hfacts; obtain ⟨hf0, -⟩ := hfacts; replace hf0 : a'.tmps[0]?.getD undef = .slice (some ⟨g, o, none⟩) n c := hf0)
      (go_simp; first | exact ⟨_, rfl, Below.refl _ _, rfl⟩ | exact ⟨_, rfl, Below.refl _ _, trivial⟩ | exact ⟨_, rfl, (Below.refl _ _).alloc (Nat.le_refl _) _, trivial⟩ | exact ⟨_, rfl, Below.refl _ _, congrArg (Value.int _) (IntWalk.i64_in _ (by omega))⟩)
    · -- operation 1
      (refine owes_val (L := [(3, false)]) rfl rfl rfl (by kernel_rfl) ?_; intro a' w' hb' hfacts; obtain ⟨hf3, -⟩ := hfacts; replace hf3 : a'.tmps[3]?.getD undef = .int .i64 k := hf3)
      (go_simp; first | exact ⟨_, rfl, Below.refl _ _, rfl⟩ | exact ⟨_, rfl, Below.refl _ _, trivial⟩ | exact ⟨_, rfl, (Below.refl _ _).alloc (Nat.le_refl _) _, trivial⟩ | exact ⟨_, rfl, Below.refl _ _, congrArg (Value.int _) (IntWalk.i64_in _ (by omega))⟩)
    · -- operation 2
      (refine owes_val (L := [(14, true), (15, true)]) rfl rfl rfl (by kernel_rfl) ?_; intro a' w' hb' hfacts; obtain ⟨hf14, hf15, -⟩ := hfacts; try simp only [VGrown] at hf14; try simp only [VGrown] at hf15)
      (go_simp; first | exact ⟨_, rfl, Below.refl _ _, rfl⟩ | exact ⟨_, rfl, Below.refl _ _, trivial⟩ | exact ⟨_, rfl, (Below.refl _ _).alloc (Nat.le_refl _) _, trivial⟩ | exact ⟨_, rfl, Below.refl _ _, congrArg (Value.int _) (IntWalk.i64_in _ (by omega))⟩)
    · -- operation 3
      (refine owes_val (L := [(16, true)]) rfl rfl rfl (by kernel_rfl) ?_; intro a' w' hb' hfacts; obtain ⟨hf16, -⟩ := hfacts; try simp only [VGrown] at hf16)
      go_simp
      refine (I1.out g o c A _ HA.out hk0 (by omega) (tabs_below HT.out hb') (S1.out.below hb') HO.out.left).mono ?_
      rintro e w3 ⟨q, t, rfl, hq, ht, hs, hb3⟩
      exact ⟨_, rfl, hb3, q, t, rfl, Nat.le_trans hb'.size hs, hq, ht⟩
    · -- operation 4
      (refine owes_val (L := [(0, false)]) rfl rfl rfl (by kernel_rfl) ?_; intro a' w' hb' hfacts; obtain ⟨hf0, -⟩ := hfacts; replace hf0 : a'.tmps[0]?.getD undef = .slice (some ⟨g, o, none⟩) n c := hf0)
      (go_simp; first | exact ⟨_, rfl, Below.refl _ _, rfl⟩ | exact ⟨_, rfl, Below.refl _ _, trivial⟩ | exact ⟨_, rfl, (Below.refl _ _).alloc (Nat.le_refl _) _, trivial⟩ | exact ⟨_, rfl, Below.refl _ _, congrArg (Value.int _) (IntWalk.i64_in _ (by omega))⟩)
    · -- operation 5
      (refine owes_val (L := [(3, false)]) rfl rfl rfl (by kernel_rfl) ?_; intro a' w' hb' hfacts; obtain ⟨hf3, -⟩ := hfacts; replace hf3 : a'.tmps[3]?.getD undef = .int .i64 k := hf3)
      (go_simp; first | exact ⟨_, rfl, Below.refl _ _, rfl⟩ | exact ⟨_, rfl, Below.refl _ _, trivial⟩ | exact ⟨_, rfl, (Below.refl _ _).alloc (Nat.le_refl _) _, trivial⟩ | exact ⟨_, rfl, Below.refl _ _, congrArg (Value.int _) (IntWalk.i64_in _ (by omega))⟩)
    · -- operation 6
      (refine owes_val (L := [(18, true), (19, true)]) rfl rfl rfl (by kernel_rfl) ?_; intro a' w' hb' hfacts; obtain ⟨hf18, hf19, -⟩ := hfacts; try simp only [VGrown] at hf18; try simp only [VGrown] at hf19)
      (go_simp; first | exact ⟨_, rfl, Below.refl _ _, rfl⟩ | exact ⟨_, rfl, Below.refl _ _, trivial⟩ | exact ⟨_, rfl, (Below.refl _ _).alloc (Nat.le_refl _) _, trivial⟩ | exact ⟨_, rfl, Below.refl _ _, congrArg (Value.int _) (IntWalk.i64_in _ (by omega))⟩)
    · -- operation 7
      (refine owes_val (L := [(20, true)]) rfl rfl rfl (by kernel_rfl) ?_; intro a' w' hb' hfacts; obtain ⟨hf20, -⟩ := hfacts; try simp only [VGrown] at hf20)
      go_simp
      refine (I2.out g (o + k) (c - k) B _ HBl.out (by omega) (by omega) (tabs_below HT.out hb') (S2.out.below hb') HO.out.right).mono ?_
      rintro e w3 ⟨q, t, rfl, hq, ht, hs, hb3⟩
      exact ⟨_, rfl, hb3, q, t, rfl, Nat.le_trans hb'.size hs, hq, ht⟩
    · -- operation 8
      (refine owes_val (L := [(17, true), (21, true)]) rfl rfl rfl (by kernel_rfl) ?_; intro a' w' hb' hfacts; obtain ⟨hf17, hf21, -⟩ := hfacts; try simp only [VGrown] at hf17; try simp only [VGrown] at hf21)
      obtain ⟨a, t, hh, hq, hL, ht⟩ := hf17
      obtain ⟨b, u, hh2, hq2, hL2, hu⟩ := hf21
      unfold ptr at hh hh2
      go_simp
      refine (knot_any a b t u _ (tabs_below HT.out hb') hL hL2 (HK.out t u ht hu)).mono ?_
      rintro e w3 ⟨q, rfl, hq, hs, hb3⟩
      exact ⟨_, rfl, hb3, q, .knot t u, rfl, Nat.le_trans hb'.size hs, hq, by simp only [Tr.leaves]; rw [ht, hu]⟩
    · -- operation 9
      (refine owes_val (L := [(22, true)]) rfl rfl rfl (by kernel_rfl) ?_; intro a' w' hb' hfacts; obtain ⟨hf22, -⟩ := hfacts; try simp only [VGrown] at hf22)
      obtain ⟨a, t, hh, hq, hL, ht⟩ := hf22
      unfold ptr at hh
      go_simp
      exact ⟨_, rfl, Below.refl _ _, a, t, rfl, hq, hL, ht⟩
  · intro f W9 hf hb3
    obtain ⟨q, t, f2, hq, hL, ht⟩ : TrV w.heap.size (A ++ B) (f 2) W9 := hf 2 (by decide)
    have R3 := Lib.hid hL
    have R5 := Lib.hid ht
    have HB := Lib.hid hb3
    clear hf hL ht hb3
    unfold ptr at f2
    simp only [putAll, put_lit, List.map_cons, List.map_nil, List.set_cons_succ, List.set_cons_zero]
    simp only [f2]
    go_wp2
    go_ret
    exact ⟨q, t, rfl, R3.out, R5.out, hq, HB.out⟩
theorem grown_to : ∀ n, GrownTo n
  | 0 => fun _ _ _ _ _ _ h => absurd h (Nat.lt_irrefl 0)
  | 1 => grown_one
  | n + 2 => grown_more (n + 2) (by omega) (fun m hm => grown_to m)
/-- grown over a row of pieces. -/
theorem grown_any (B : Nat) (v : Value) (L : List ByteArray) (w : World) (hT : Tabs w) (h : Pcs B v L w) (hn : L ≠ []) (hO : OkL L) : Calls Tryz.prog 91 #[v] w (Made L w) := by
  have h0 : 0 < L.length := List.length_pos_iff.2 hn
  rcases h.own.2 with ⟨_, hz⟩ | ⟨g, cap, cur, rfl, hB, hg, hc, hm, hs, ht⟩
  · omega
  · refine grown_to L.length g 0 cap L w rfl h0 hc hT ⟨(Array.getElem?_eq_some_iff.1 hg).1, fun i s hi => ?_⟩ hO
    have hi' : i < L.length := (List.getElem?_eq_some_iff.1 hi).1
    have e : cur[i]? = some (.string s) := by
      have h1 : (strC L)[i]? = some (.string s) := by unfold strC; rw [List.getElem?_map, hi]; rfl
      rw [← ht, List.getElem?_take] at h1
      rw [if_pos (by omega)] at h1
      simpa using h1
    simp [World.cell?, hg, e]
end Go.Proofs.YtgmpohdkignadaaGreatDoor.Ut
/-
  What keeps a text (TextIs): nothing, a nil buffer, a gap buffer. Condition: the two tables of unicode/utf8 lie as laid.
-/
namespace Go.Proofs.YtgmpohdkignadaaGreatDoor.Ut
open Go.RowKit Go.Proofs.YtgmpohdkignadaaGreatDoor.Reg
set_option linter.unusedVariables false
set_option linter.unusedSimpArgs false

def emptyB : ByteArray := ⟨#[]⟩
theorem emptyB_size : emptyB.size = 0 := rfl
theorem empty_extract (i j : Nat) (hj : j ≤ emptyB.size) : emptyB.extract i j = emptyB := by
  apply ext_of_list
  rw [extract_list]
  simp [emptyB]

theorem text_nil (W : World) : TextIs W .nilIface emptyB := by
  refine ⟨.inl rfl, by decide, fun W' _ => ?_, fun W' i j _ hij hj => ?_, fun W' i _ hi => ?_⟩
  · go_enter Tryz.func41, Tryz.ntmps41
    go_wp2
    go_ret
    exact ⟨rfl, Below.refl _ _⟩
  · rw [empty_extract i j hj]
    go_enter Tryz.func38, Tryz.ntmps38
    go_wp2
    go_ret
    exact ⟨rfl, Below.refl _ _⟩
  · rw [empty_extract 0 i hi]
    go_enter Tryz.func42, Tryz.ntmps42
    go_wp2
    go_ret
    exact ⟨rfl, Below.refl _ _⟩

/-- A pointer whose methods fL, fS, fM (Len, Slice, Measure) answer as of the text s. -/
structure Has (fL fS fM : Nat) (W : World) (p : Option Addr) (s : ByteArray) : Prop where
  small : s.size ≤ 1073741824
  len : ∀ W', Below W.heap.size W W' → Calls Tryz.prog fL #[.pointer p] W' fun e w' => e = .returned (.int .i64 s.size) ∧ Below W'.heap.size W' w'
  slice : ∀ W' (i j : Nat), Below W.heap.size W W' → i ≤ j → j ≤ s.size → Calls Tryz.prog fS #[.pointer p, .int .i64 i, .int .i64 j] W' fun e w' => e = .returned (.tuple #[.string (s.extract i j), .int .i64 0]) ∧ Below W'.heap.size W' w'
  meas : ∀ W' (i : Nat), Below W.heap.size W W' → i ≤ s.size → Calls Tryz.prog fM #[.pointer p, .int .i64 0, .int .i64 i] W' fun e w' => ∃ m : Sm, e = .returned (.tuple #[m.val, .int .i64 0]) ∧ m.newlines = nlF (s.extract 0 i) ∧ Below W'.heap.size W' w'
theorem Has.below {fL fS fM : Nat} {W W' : World} {p : Option Addr} {s : ByteArray} (h : Has fL fS fM W p s) (hb : Below W.heap.size W W') : Has fL fS fM W' p s :=
  ⟨h.small, fun w k => h.len w (hb.trans (k.mono hb.size)), fun w i j k => h.slice w i j (hb.trans (k.mono hb.size)), fun w i k => h.meas w i (hb.trans (k.mono hb.size))⟩
abbrev HasG := Has 141 144 142
abbrev HasS := Has 50 49 135
abbrev HasR := Has 148 151 149

theorem hasG_gap {W : World} {b g : Nat} {r : ByteArray} {fr tq lim : Nat} (h : Gap W b g r fr tq lim) (hT : Tabs W) (hs : (gtext r fr tq).size ≤ 1073741824) : HasG W (some ⟨b, 0, none⟩) (gtext r fr tq) :=
  ⟨hs, fun W' hb => GapLen_any b g r fr tq lim W' (h.below hb), fun W' i j hb hij hj => GapSlice_any b g r fr tq lim i j W' (h.below hb) hij hj,
   fun W' i hb hi => (GapMeasure_any b g r fr tq lim 0 i W' (h.below hb) (tabs_below hT hb) (Nat.zero_le _) hi).mono fun e w h => ⟨_, h.1, rfl, h.2⟩⟩

set_option maxRecDepth 100000 in
set_option maxHeartbeats 1000000 in
theorem text57 {W : World} {p : Option Addr} {s : ByteArray} (h : HasG W p s) : TextIs W (.iface 57 (.pointer p)) s := by
  refine ⟨.inr ⟨_, _, rfl⟩, h.small, fun W' hb => ?_, fun W' i j hb hij hj => ?_, fun W' i hb hi => ?_⟩
  · have H := Lib.hid (h.len W' hb)
    clear h hb
    generalize s.size = N at *
    go_enter Tryz.func41, Tryz.ntmps41
    go_wp2_with fail
    refine H.out.mono ?_
    rintro e w1 ⟨rfl, hb⟩
    have HB := Lib.hid hb
    clear hb
    go_wp2
    go_ret
    exact ⟨rfl, HB.out⟩
  · have H := Lib.hid (h.slice W' i j hb hij hj)
    clear h hb
    generalize s.extract i j = N at *
    go_enter Tryz.func38, Tryz.ntmps38
    go_wp2_with fail
    refine H.out.mono ?_
    rintro e w1 ⟨rfl, hb⟩
    have HB := Lib.hid hb
    clear hb
    go_wp2
    go_ret
    exact ⟨rfl, HB.out⟩
  · have H := Lib.hid (h.meas W' i hb hi)
    clear h hb
    generalize s.extract 0 i = N at *
    go_enter Tryz.func42, Tryz.ntmps42
    go_wp2_with fail
    refine H.out.mono ?_
    rintro e w1 ⟨m, rfl, hm, hb⟩
    have HB := Lib.hid (hb.alloc hb.size (.cells #[.int .i64 m.bytes, .int .i64 m.units, .int .i64 m.clusters, .int .i64 m.cells, .int .i64 m.newlines, .string m.head, .string m.tail] 115))
    have HM := Lib.hid hm
    clear hb hm
    unfold Sm.val
    go_wp2
    go_ret
    exact ⟨by rw [← HM.out]; rfl, HB.out⟩

set_option maxRecDepth 100000 in
set_option maxHeartbeats 1000000 in
theorem text56 {W : World} {p : Option Addr} {s : ByteArray} (h : HasS W p s) : TextIs W (.iface 56 (.pointer p)) s := by
  refine ⟨.inr ⟨_, _, rfl⟩, h.small, fun W' hb => ?_, fun W' i j hb hij hj => ?_, fun W' i hb hi => ?_⟩
  · have H := Lib.hid (h.len W' hb)
    clear h hb
    generalize s.size = N at *
    go_enter Tryz.func41, Tryz.ntmps41
    go_wp2_with fail
    refine H.out.mono ?_
    rintro e w1 ⟨rfl, hb⟩
    have HB := Lib.hid hb
    clear hb
    go_wp2
    go_ret
    exact ⟨rfl, HB.out⟩
  · have H := Lib.hid (h.slice W' i j hb hij hj)
    clear h hb
    generalize s.extract i j = N at *
    go_enter Tryz.func38, Tryz.ntmps38
    go_wp2_with fail
    refine H.out.mono ?_
    rintro e w1 ⟨rfl, hb⟩
    have HB := Lib.hid hb
    clear hb
    go_wp2
    go_ret
    exact ⟨rfl, HB.out⟩
  · have H := Lib.hid (h.meas W' i hb hi)
    clear h hb
    generalize s.extract 0 i = N at *
    go_enter Tryz.func42, Tryz.ntmps42
    go_wp2_with fail
    refine H.out.mono ?_
    rintro e w1 ⟨m, rfl, hm, hb⟩
    have HB := Lib.hid (hb.alloc hb.size (.cells #[.int .i64 m.bytes, .int .i64 m.units, .int .i64 m.clusters, .int .i64 m.cells, .int .i64 m.newlines, .string m.head, .string m.tail] 115))
    have HM := Lib.hid hm
    clear hb hm
    unfold Sm.val
    go_wp2
    go_ret
    exact ⟨by rw [← HM.out]; rfl, HB.out⟩

/-- A nil buffer. -/
theorem measF_empty : (measF emptyB).newlines = (0 : Nat) := rfl
set_option maxRecDepth 100000 in
set_option maxHeartbeats 1000000 in
theorem nilMeasure_any (w : World) (hT : Tabs w) : Calls Tryz.prog 142 #[.pointer none, .int .i64 0, .int .i64 0] w fun e w' => e = .returned (.tuple #[(measF emptyB).val, .int .i64 0]) ∧ Below w.heap.size w w' := by
  have k1 : Lies (w.alloc (.cells zero7.toArray 115)) w.heap.size zero7 := Lies.new _ _ _
  have b1 : Below w.heap.size w (w.alloc (.cells zero7.toArray 115)) := (Below.refl _ _).alloc (Nat.le_refl _) _
  have T1 := Lib.hid (tabs_below hT b1)
  have K1 := Lib.hid k1
  have B1 := Lib.hid b1
  clear hT k1 b1
  go_enter Tryz.func142, Tryz.ntmps142
  go_wp2_with fail
  change Calls _ _ _ (w.alloc (.cells zero7.toArray 115)) _
  generalize w.alloc (.cells zero7.toArray 115) = w1 at *
  refine (nilSlice_any w1).mono ?_
  rintro e w2 ⟨rfl, hb⟩
  have k2 := Lib.hid (K1.out.below hb)
  have b2 := Lib.hid (B1.out.trans (hb.mono B1.out.size))
  have T2 := Lib.hid (tabs_below T1.out hb)
  clear hb K1 B1 T1
  go_wp2_with fail
  refine (Measure_any emptyB w2 T2.out (by decide)).mono ?_
  rintro e w3 ⟨rfl, hb⟩
  have k3 := Lib.hid (k2.out.below hb)
  have b3 := Lib.hid (b2.out.trans (hb.mono b2.out.size))
  clear hb k2 b2 T2
  obtain ⟨m, hm⟩ : ∃ m, measF emptyB = m := ⟨_, rfl⟩
  have HM := Lib.hid hm
  rw [hm]
  clear hm
  have L := (Lies.stored k3.out [.int .i64 m.bytes, .int .i64 m.units, .int .i64 m.clusters, .int .i64 m.cells, .int .i64 m.newlines, .string m.head, .string m.tail] rfl).2
  have HB := Lib.hid (chg_mine b3.out (sets_chg w.heap.size [.int .i64 m.bytes, .int .i64 m.units, .int .i64 m.clusters, .int .i64 m.cells, .int .i64 m.newlines, .string m.head, .string m.tail] 0 w3) (Nat.le_refl _))
  have HL := Lib.hid L
  clear L
  obtain ⟨-, K⟩ := k3.out
  obtain ⟨c0, f0⟩ := K 0 _ rfl
  obtain ⟨c1, f1⟩ := K 1 _ rfl
  obtain ⟨c2, f2⟩ := K 2 _ rfl
  obtain ⟨c3, f3⟩ := K 3 _ rfl
  obtain ⟨c4, f4⟩ := K 4 _ rfl
  obtain ⟨c5, f5⟩ := K 5 _ rfl
  obtain ⟨c6, f6⟩ := K 6 _ rfl
  clear K
  unfold Sm.val
  go_wp2
  have j0 := (HL.out 0 _ rfl).1
  have j1 := (HL.out 1 _ rfl).1
  have j2 := (HL.out 2 _ rfl).1
  have j3 := (HL.out 3 _ rfl).1
  have j4 := (HL.out 4 _ rfl).1
  have j5 := (HL.out 5 _ rfl).1
  have j6 := (HL.out 6 _ rfl).1
  simp only [World.setCells] at j0 j1 j2 j3 j4 j5 j6
  refine bodyPost_ret (v := .tuple #[m.val, .int .i64 0]) (by simp [results, Tryz.results142, go_sem, j0, j1, j2, j3, j4, j5, j6, Sm.val]) rfl ⟨?_, HB.out⟩
  rw [← HM.out]
theorem hasG_nil {W : World} (hT : Tabs W) : HasG W none emptyB := by
  refine ⟨by decide, fun W' hb => ?_, fun W' i j hb hij hj => ?_, fun W' i hb hi => ?_⟩
  · exact (nilLen_any W').mono fun e w h => ⟨h.1, by rw [h.2]; exact Below.refl _ _⟩
  · rw [empty_extract i j hj]
    obtain rfl : j = 0 := by have : j ≤ 0 := hj; omega
    obtain rfl : i = 0 := by omega
    exact nilSlice_any W'
  · rw [empty_extract 0 i hi]
    obtain rfl : i = 0 := by have : i ≤ 0 := hi; omega
    exact (nilMeasure_any W' (tabs_below hT hb)).mono fun e w h => ⟨_, h.1, rfl, h.2⟩
end Go.Proofs.YtgmpohdkignadaaGreatDoor.Ut
/-
  Package store, reading: under, Len, Slice, Measure over what keeps the text. Condition: what the inner text answers.
-/
namespace Go.Proofs.YtgmpohdkignadaaGreatDoor.Ut
open Go.RowKit Go.Proofs.YtgmpohdkignadaaGreatDoor.Reg
set_option linter.unusedVariables false
set_option linter.unusedSimpArgs false

theorem under_any (b : Nat) (t : TypeId) (x : Value) (vs : List Value) (w : World) (h : Lies w b (.iface t x :: vs)) : Calls Tryz.prog 47 #[.pointer (some ⟨b, 0, none⟩)] w fun e w' => e = .returned (.iface t x) ∧ w' = w := by
  obtain ⟨c0, -⟩ := h.2 0 _ rfl
  clear h
  go_enter Tryz.func47, Tryz.ntmps47
  go_wp2
  go_ret
  exact ⟨rfl, rfl⟩
theorem under_nil (w : World) : Calls Tryz.prog 47 #[.pointer none] w fun e w' => e = .returned (.iface 57 (.pointer none)) ∧ w' = w := by
  go_enter Tryz.func47, Tryz.ntmps47
  go_wp2
  go_ret
  exact ⟨rfl, rfl⟩

set_option maxRecDepth 100000 in
set_option maxHeartbeats 2000000 in
theorem hasS57 {W : World} {q p : Option Addr} {s : ByteArray} (hu : ∀ W', Below W.heap.size W W' → Calls Tryz.prog 47 #[.pointer q] W' fun e w' => e = .returned (.iface 57 (.pointer p)) ∧ w' = W') (h : HasG W p s) : HasS W q s := by
  refine ⟨h.small, fun W' hb => ?_, fun W' i j hb hij hj => ?_, fun W' i hb hi => ?_⟩
  · have H := Lib.hid (h.len W' hb)
    have HU := Lib.hid (hu W' hb)
    clear h hb hu
    generalize s.size = N at *
    go_enter Tryz.func50, Tryz.ntmps50
    go_wp2_with fail
    refine HU.out.mono ?_
    rintro e w1 ⟨rfl, rfl⟩
    go_wp2_with fail
    refine H.out.mono ?_
    rintro e w1 ⟨rfl, hb⟩
    have HB := Lib.hid hb
    clear hb
    go_wp2
    go_ret
    exact ⟨rfl, HB.out⟩
  · have H := Lib.hid (h.slice W' i j hb hij hj)
    have HU := Lib.hid (hu W' hb)
    clear h hb hu
    generalize s.extract i j = N at *
    go_enter Tryz.func49, Tryz.ntmps49
    go_wp2_with fail
    refine HU.out.mono ?_
    rintro e w1 ⟨rfl, rfl⟩
    go_wp2_with fail
    refine H.out.mono ?_
    rintro e w1 ⟨rfl, hb⟩
    have HB := Lib.hid hb
    clear hb
    go_wp2
    refine bodyPost_ret (v := .tuple #[.string N, .int .i64 0]) (by simp [results, Tryz.results49, go_sem]) rfl ⟨rfl, HB.out⟩
  · have b1 : Below W'.heap.size W' (W'.alloc (.cells zero7.toArray 115)) := (Below.refl _ _).alloc (Nat.le_refl _) _
    have K1 : Lies (W'.alloc (.cells zero7.toArray 115)) W'.heap.size zero7 := Lies.new _ _ _
    have K1 := Lib.hid K1
    have H := Lib.hid (h.meas _ i (hb.trans (b1.mono hb.size)) hi)
    have HU := Lib.hid (hu _ (hb.trans (b1.mono hb.size)))
    have B1 := Lib.hid b1
    clear h hb hu b1
    generalize s.extract 0 i = N at *
    go_enter Tryz.func135, Tryz.ntmps135
    go_wp2_with fail
    change Calls _ _ _ (W'.alloc (.cells zero7.toArray 115)) _
    generalize W'.alloc (.cells zero7.toArray 115) = w1 at *
    refine HU.out.mono ?_
    rintro e w2 ⟨rfl, rfl⟩
    go_wp2_with fail
    refine H.out.mono ?_
    rintro e w3 ⟨m, rfl, hm, hb⟩
    have K3 := K1.out.below hb
    have HM := Lib.hid hm
    have L := Lib.hid (Lies.stored K3 [.int .i64 m.bytes, .int .i64 m.units, .int .i64 m.clusters, .int .i64 m.cells, .int .i64 m.newlines, .string m.head, .string m.tail] rfl).2
    have HB := Lib.hid (chg_mine (B1.out.trans (hb.mono B1.out.size)) (sets_chg W'.heap.size [.int .i64 m.bytes, .int .i64 m.units, .int .i64 m.clusters, .int .i64 m.cells, .int .i64 m.newlines, .string m.head, .string m.tail] 0 w3) (Nat.le_refl _))
    obtain ⟨-, K⟩ := K3
    obtain ⟨c0, f0⟩ := K 0 _ rfl
    obtain ⟨c1, f1⟩ := K 1 _ rfl
    obtain ⟨c2, f2⟩ := K 2 _ rfl
    obtain ⟨c3, f3⟩ := K 3 _ rfl
    obtain ⟨c4, f4⟩ := K 4 _ rfl
    obtain ⟨c5, f5⟩ := K 5 _ rfl
    obtain ⟨c6, f6⟩ := K 6 _ rfl
    clear hb hm K K1 B1
    unfold Sm.val
    go_wp2
    have j0 := (L.out 0 _ rfl).1
    have j1 := (L.out 1 _ rfl).1
    have j2 := (L.out 2 _ rfl).1
    have j3 := (L.out 3 _ rfl).1
    have j4 := (L.out 4 _ rfl).1
    have j5 := (L.out 5 _ rfl).1
    have j6 := (L.out 6 _ rfl).1
    simp only [World.setCells] at j0 j1 j2 j3 j4 j5 j6
    refine bodyPost_ret (v := .tuple #[m.val, .int .i64 0]) (by simp [results, Tryz.results135, go_sem, j0, j1, j2, j3, j4, j5, j6, Sm.val]) rfl ⟨m, rfl, HM.out, HB.out⟩

set_option maxRecDepth 100000 in
set_option maxHeartbeats 2000000 in
theorem hasS94 {W : World} {q p : Option Addr} {s : ByteArray} (hu : ∀ W', Below W.heap.size W W' → Calls Tryz.prog 47 #[.pointer q] W' fun e w' => e = .returned (.iface 94 (.pointer p)) ∧ w' = W') (h : HasR W p s) : HasS W q s := by
  refine ⟨h.small, fun W' hb => ?_, fun W' i j hb hij hj => ?_, fun W' i hb hi => ?_⟩
  · have H := Lib.hid (h.len W' hb)
    have HU := Lib.hid (hu W' hb)
    clear h hb hu
    generalize s.size = N at *
    go_enter Tryz.func50, Tryz.ntmps50
    go_wp2_with fail
    refine HU.out.mono ?_
    rintro e w1 ⟨rfl, rfl⟩
    go_wp2_with fail
    refine H.out.mono ?_
    rintro e w1 ⟨rfl, hb⟩
    have HB := Lib.hid hb
    clear hb
    go_wp2
    go_ret
    exact ⟨rfl, HB.out⟩
  · have H := Lib.hid (h.slice W' i j hb hij hj)
    have HU := Lib.hid (hu W' hb)
    clear h hb hu
    generalize s.extract i j = N at *
    go_enter Tryz.func49, Tryz.ntmps49
    go_wp2_with fail
    refine HU.out.mono ?_
    rintro e w1 ⟨rfl, rfl⟩
    go_wp2_with fail
    refine H.out.mono ?_
    rintro e w1 ⟨rfl, hb⟩
    have HB := Lib.hid hb
    clear hb
    go_wp2
    refine bodyPost_ret (v := .tuple #[.string N, .int .i64 0]) (by simp [results, Tryz.results49, go_sem]) rfl ⟨rfl, HB.out⟩
  · have b1 : Below W'.heap.size W' (W'.alloc (.cells zero7.toArray 115)) := (Below.refl _ _).alloc (Nat.le_refl _) _
    have K1 : Lies (W'.alloc (.cells zero7.toArray 115)) W'.heap.size zero7 := Lies.new _ _ _
    have K1 := Lib.hid K1
    have H := Lib.hid (h.meas _ i (hb.trans (b1.mono hb.size)) hi)
    have HU := Lib.hid (hu _ (hb.trans (b1.mono hb.size)))
    have B1 := Lib.hid b1
    clear h hb hu b1
    generalize s.extract 0 i = N at *
    go_enter Tryz.func135, Tryz.ntmps135
    go_wp2_with fail
    change Calls _ _ _ (W'.alloc (.cells zero7.toArray 115)) _
    generalize W'.alloc (.cells zero7.toArray 115) = w1 at *
    refine HU.out.mono ?_
    rintro e w2 ⟨rfl, rfl⟩
    go_wp2_with fail
    refine H.out.mono ?_
    rintro e w3 ⟨m, rfl, hm, hb⟩
    have K3 := K1.out.below hb
    have HM := Lib.hid hm
    have L := Lib.hid (Lies.stored K3 [.int .i64 m.bytes, .int .i64 m.units, .int .i64 m.clusters, .int .i64 m.cells, .int .i64 m.newlines, .string m.head, .string m.tail] rfl).2
    have HB := Lib.hid (chg_mine (B1.out.trans (hb.mono B1.out.size)) (sets_chg W'.heap.size [.int .i64 m.bytes, .int .i64 m.units, .int .i64 m.clusters, .int .i64 m.cells, .int .i64 m.newlines, .string m.head, .string m.tail] 0 w3) (Nat.le_refl _))
    obtain ⟨-, K⟩ := K3
    obtain ⟨c0, f0⟩ := K 0 _ rfl
    obtain ⟨c1, f1⟩ := K 1 _ rfl
    obtain ⟨c2, f2⟩ := K 2 _ rfl
    obtain ⟨c3, f3⟩ := K 3 _ rfl
    obtain ⟨c4, f4⟩ := K 4 _ rfl
    obtain ⟨c5, f5⟩ := K 5 _ rfl
    obtain ⟨c6, f6⟩ := K 6 _ rfl
    clear hb hm K K1 B1
    unfold Sm.val
    go_wp2
    have j0 := (L.out 0 _ rfl).1
    have j1 := (L.out 1 _ rfl).1
    have j2 := (L.out 2 _ rfl).1
    have j3 := (L.out 3 _ rfl).1
    have j4 := (L.out 4 _ rfl).1
    have j5 := (L.out 5 _ rfl).1
    have j6 := (L.out 6 _ rfl).1
    simp only [World.setCells] at j0 j1 j2 j3 j4 j5 j6
    refine bodyPost_ret (v := .tuple #[m.val, .int .i64 0]) (by simp [results, Tryz.results135, go_sem, j0, j1, j2, j3, j4, j5, j6, Sm.val]) rfl ⟨m, rfl, HM.out, HB.out⟩

theorem hasS_nil {W : World} (hT : Tabs W) : HasS W none emptyB := hasS57 (fun W' _ => under_nil W') (hasG_nil hT)
theorem hasS_gap {W : World} {b : Nat} {p : Option Addr} {vs : List Value} {s : ByteArray} (hb : Lies W b (.iface 57 (.pointer p) :: vs)) (h : HasG W p s) : HasS W (some ⟨b, 0, none⟩) s :=
  hasS57 (fun W' k => under_any b _ _ vs W' (hb.below k)) h
theorem hasS_rope {W : World} {b : Nat} {p : Option Addr} {vs : List Value} {s : ByteArray} (hb : Lies W b (.iface 94 (.pointer p) :: vs)) (h : HasR W p s) : HasS W (some ⟨b, 0, none⟩) s :=
  hasS94 (fun W' k => under_any b _ _ vs W' (hb.below k)) h

theorem extract_whole (s : ByteArray) : s.extract 0 s.size = s := extract_all s
set_option maxRecDepth 100000 in
theorem StText_any {W : World} {q : Option Addr} {s : ByteArray} (h : HasS W q s) : Calls Tryz.prog 32 #[.pointer q] W fun e w' => e = .returned (.string s) ∧ Below W.heap.size W w' := by
  have H := Lib.hid h
  have hw := extract_all s
  clear h
  go_enter Tryz.func32, Tryz.ntmps32
  go_wp2_with fail
  refine (H.out.len W (Below.refl _ _)).mono ?_
  rintro e w1 ⟨rfl, hb⟩
  have HB := Lib.hid hb
  clear hb
  go_wp2_with fail
  refine (H.out.slice w1 0 s.size HB.out (Nat.zero_le _) (Nat.le_refl _)).mono ?_
  rintro e w2 ⟨rfl, hb⟩
  have HB2 := Lib.hid (HB.out.trans (hb.mono HB.out.size))
  rw [hw]
  clear hb HB
  go_wp2
  go_ret
  exact ⟨rfl, HB2.out⟩
end Go.Proofs.YtgmpohdkignadaaGreatDoor.Ut
/-
  Package store: kept and New, the gap backend. Condition: the two tables of unicode/utf8 lie as laid.
-/
namespace Go.Proofs.YtgmpohdkignadaaGreatDoor.Ut
open Go.RowKit Go.Proofs.YtgmpohdkignadaaGreatDoor.Reg
set_option linter.unusedVariables false
set_option linter.unusedSimpArgs false

set_option maxRecDepth 100000 in
theorem kept_gap (k : Int) (n : Nat) (s : ByteArray) (w : World) (hT : Tabs w) (hk : (k == 2) = false) (hn : n ≤ 1073741824) (hs : s.size ≤ n) :
    Calls Tryz.prog 46 #[.int .i64 k, .int .i64 n, .string s] w fun e w' => ∃ b, e = .returned (.iface 57 (.pointer (some ⟨b, 0, none⟩))) ∧ (∃ g r fr tq, Gap w' b g r fr tq n ∧ gtext r fr tq = s ∧ w.heap.size ≤ b ∧ w.heap.size ≤ g) ∧ Below w.heap.size w w' := by
  have HTb := Lib.hid hT
  clear hT
  go_enter Tryz.func46, Tryz.ntmps46
  go_wp2_with fail
  refine (GapNew_any s n w hn hs).mono ?_
  rintro e w1 ⟨b, g, r, fr, tq, rfl, hG, ht, hb, hg, hB⟩
  have HG := Lib.hid hG
  have HB := Lib.hid hB
  have HTx := Lib.hid ht
  clear hG hB ht
  go_wp2
  go_ret
  exact ⟨b, rfl, ⟨g, r, fr, tq, HG.out, HTx.out, hb, hg⟩, HB.out⟩
theorem hasG_of {w : World} {b n : Nat} {s : ByteArray} (hT : Tabs w) (hs : s.size ≤ 1073741824) (h : ∃ g r fr tq, Gap w b g r fr tq n ∧ gtext r fr tq = s) : HasG w (some ⟨b, 0, none⟩) s := by
  obtain ⟨g, r, fr, tq, hG, rfl⟩ := h
  exact hasG_gap hG hT hs

/-- The backend is a gap buffer: the kind says so, or none is said and the text is shorter than top. -/
def gapKind (k top : Int) (s : ByteArray) : Prop := k = 1 ∨ (k ≠ 1 ∧ k ≠ 2 ∧ (s.size : Int) < top)

set_option maxRecDepth 100000 in
set_option maxHeartbeats 2000000 in
theorem StNew_gap (k lo hi : Int) (n : Nat) (s : ByteArray) (w : World) (hT : Tabs w) (hn : n ≤ 1073741824) (hs : s.size ≤ n) (hk : gapKind k (max hi (min (max lo 0) 1073741824 + 1)) s) :
    Calls Tryz.prog 28 #[.int .i64 k, .int .i64 lo, .int .i64 hi, .int .i64 n, .string s] w fun e w' => ∃ b, e = .returned (.tuple #[.pointer (some ⟨b, 0, none⟩), .int .i64 0]) ∧ ∃ gb,
      Blk w' b 91 [.iface 57 (.pointer (some ⟨gb, 0, none⟩)), .int .i64 (if k = 1 then 1 else 3), .int .i64 (min (max lo 0) 1073741824), .int .i64 (max hi (min (max lo 0) 1073741824 + 1)), .int .i64 n, .int .i64 0, .int .i64 0, .int .i64 0] ∧
      (∃ g r fr tq, Gap w' gb g r fr tq n ∧ gtext r fr tq = s ∧ w.heap.size ≤ gb ∧ w.heap.size ≤ g) ∧ w.heap.size ≤ b ∧ Below w.heap.size w w' := by
  have HTb := Lib.hid hT
  have e1 : min (n : Int) 1073741824 = (n : Int) := by omega
  have e2 : ¬ (n : Int) < (s.size : Int) := by omega
  obtain ⟨low, hlow⟩ : ∃ low, min (max lo 0) 1073741824 = low := ⟨_, rfl⟩
  have hw1 : IntKind.i64.wrap (low + 1) = low + 1 := IntWalk.i64_in _ (by omega)
  rw [hlow] at hk ⊢
  obtain ⟨top, htop⟩ : ∃ top, max hi (low + 1) = top := ⟨_, rfl⟩
  rw [htop] at hk ⊢
  clear hT
  rcases hk with rfl | ⟨k1, k2, k3⟩
  · go_enter Tryz.func28, Tryz.ntmps28
    go_wp2_with fail
    have kb : Blk (w.alloc (.cells ([.nilIface, .int .i64 1, .int .i64 low, .int .i64 top, .int .i64 n, .int .i64 0, .int .i64 0, .int .i64 0] : List Value).toArray 91)) w.heap.size 91 [.nilIface, .int .i64 1, .int .i64 low, .int .i64 top, .int .i64 n, .int .i64 0, .int .i64 0, .int .i64 0] := Blk.new _ _ _
    have b1 : Below w.heap.size w (w.alloc (.cells ([.nilIface, .int .i64 1, .int .i64 low, .int .i64 top, .int .i64 n, .int .i64 0, .int .i64 0, .int .i64 0] : List Value).toArray 91)) := (Below.refl _ _).alloc (Nat.le_refl _) _
    change Calls _ _ _ (w.alloc (.cells ([.nilIface, .int .i64 1, .int .i64 low, .int .i64 top, .int .i64 n, .int .i64 0, .int .i64 0, .int .i64 0] : List Value).toArray 91)) _
    generalize w.alloc (.cells ([.nilIface, .int .i64 1, .int .i64 low, .int .i64 top, .int .i64 n, .int .i64 0, .int .i64 0, .int .i64 0] : List Value).toArray 91) = w1 at *
    refine (kept_gap 1 n s w1 (tabs_below HTb.out b1) rfl hn hs).mono ?_
    rintro e w2 ⟨gb, rfl, ⟨g, r, fr, tq, hG, ht, hb, hg⟩, hB⟩
    have k2' := kb.below hB
    have hlt : w.heap.size < w1.heap.size := kb.lies.1
    have X := k2'.set 0 (.iface 57 (.pointer (some ⟨gb, 0, none⟩)))
    have CH := Chg.set w2 ⟨w.heap.size, 0, none⟩ (.iface 57 (.pointer (some ⟨gb, 0, none⟩)))
    have HX := Lib.hid X
    have HG := Lib.hid (hG.chg CH (by show ¬ gb = w.heap.size; omega) (by show ¬ g = w.heap.size; omega))
    have HTx := Lib.hid ht
    have HB := Lib.hid (chg_mine (b1.trans (hB.mono b1.size)) CH (Nat.le_refl _))
    have hb' : w.heap.size ≤ gb := by omega
    have hg' : w.heap.size ≤ g := by omega
    obtain ⟨c0, f0⟩ := k2'.lies.2 0 _ rfl
    clear kb b1 hG ht hB k2' X CH
    go_wp2
    refine bodyPost_ret (v := .tuple #[.pointer (some ⟨w.heap.size, 0, none⟩), .int .i64 0]) (by simp [results, Tryz.results28, go_sem]) rfl ⟨_, rfl, gb, ?_, ⟨g, r, fr, tq, HG.out, HTx.out, hb', hg'⟩, Nat.le_refl _, HB.out⟩
    exact HX.out
  · have q1 : (k != 1) = true := by simpa using k1
    have q2 : (k != 2) = true := by simpa using k2
    have q3 : ¬ top ≤ (s.size : Int) := by omega
    go_enter Tryz.func28, Tryz.ntmps28
    go_wp2_with fail
    have kb : Blk (w.alloc (.cells ([.nilIface, .int .i64 3, .int .i64 low, .int .i64 top, .int .i64 n, .int .i64 0, .int .i64 0, .int .i64 0] : List Value).toArray 91)) w.heap.size 91 [.nilIface, .int .i64 3, .int .i64 low, .int .i64 top, .int .i64 n, .int .i64 0, .int .i64 0, .int .i64 0] := Blk.new _ _ _
    have b1 : Below w.heap.size w (w.alloc (.cells ([.nilIface, .int .i64 3, .int .i64 low, .int .i64 top, .int .i64 n, .int .i64 0, .int .i64 0, .int .i64 0] : List Value).toArray 91)) := (Below.refl _ _).alloc (Nat.le_refl _) _
    change Calls _ _ _ (w.alloc (.cells ([.nilIface, .int .i64 3, .int .i64 low, .int .i64 top, .int .i64 n, .int .i64 0, .int .i64 0, .int .i64 0] : List Value).toArray 91)) _
    generalize w.alloc (.cells ([.nilIface, .int .i64 3, .int .i64 low, .int .i64 top, .int .i64 n, .int .i64 0, .int .i64 0, .int .i64 0] : List Value).toArray 91) = w1 at *
    refine (kept_gap 1 n s w1 (tabs_below HTb.out b1) rfl hn hs).mono ?_
    rintro e w2 ⟨gb, rfl, ⟨g, r, fr, tq, hG, ht, hb, hg⟩, hB⟩
    have k2' := kb.below hB
    have hlt : w.heap.size < w1.heap.size := kb.lies.1
    have X := k2'.set 0 (.iface 57 (.pointer (some ⟨gb, 0, none⟩)))
    have CH := Chg.set w2 ⟨w.heap.size, 0, none⟩ (.iface 57 (.pointer (some ⟨gb, 0, none⟩)))
    have HX := Lib.hid X
    have HG := Lib.hid (hG.chg CH (by show ¬ gb = w.heap.size; omega) (by show ¬ g = w.heap.size; omega))
    have HTx := Lib.hid ht
    have HB := Lib.hid (chg_mine (b1.trans (hB.mono b1.size)) CH (Nat.le_refl _))
    have hb' : w.heap.size ≤ gb := by omega
    have hg' : w.heap.size ≤ g := by omega
    obtain ⟨c0, f0⟩ := k2'.lies.2 0 _ rfl
    clear kb b1 hG ht hB k2' X CH
    go_wp2
    refine bodyPost_ret (v := .tuple #[.pointer (some ⟨w.heap.size, 0, none⟩), .int .i64 0]) (by simp [results, Tryz.results28, go_sem]) rfl ⟨_, rfl, gb, ?_, ⟨g, r, fr, tq, HG.out, HTx.out, hb', hg'⟩, Nat.le_refl _, HB.out⟩
    exact HX.out
end Go.Proofs.YtgmpohdkignadaaGreatDoor.Ut
/-
  Opening the arguments of a law, and the last step of its row. Two blocks are copied from the guide's pages for copying (open_slice_fields, post_of_below). No condition.
-/
namespace Go.Proofs.YtgmpohdkignadaaGreatDoor.Row
open Go.RowKit Go.ChangeShapes Go.WideShapes Go.ChangeAt Go.Deep
set_option linter.unusedVariables false
set_option linter.unusedSimpArgs false

section
variable {H : Type} {enc : TypeId × Value → H} {P : Program} {w : World} {base : Nat} {spare : Nat → Bool} {held : Bool}
theorem open_slice_fields {t e : TypeId} {fs : Array Field} {fuel : Nat} {cs : List Value} {x : DataW H × List MemPlace} (ht : P.underlying t = some (.slice e)) (he : P.underlying e = some (.struct fs))
    (hone : oneCellFields P fs = true) (hC : P.cellsOf e = fs.size) (h : DataW.trod enc P w base spare held fuel t cs = some x) :
    (cs = [.slice none 0 0] ∧ x = (.nil, [])) ∨
    ∃ (a : Addr) (len cap m : Nat) (D : Nat → DataW H) (Pl : Nat → List MemPlace), cs = [.slice (some a) len cap] ∧ base ≤ a.block ∧ len ≤ cap ∧ cap ≤ maxLen ∧ m = (if spare a.block then cap else len) ∧
      x = (.slice ((List.range len).map D) ((List.range (m - len)).map fun j => D (len + j)), MemPlace.row a (m * fs.size) ++ (List.range m).flatMap Pl) ∧
      ∀ i, i < m → ∃ (ys : List (DataW H × List MemPlace)) (n : Nat), D i = .agg (ys.map (·.1)) ∧ Pl i = ys.flatMap (·.2) ∧ ys.length = fs.size ∧
        ∀ (j : Nat) (f : Field), fs[j]? = some f → ∃ (v : Value) (y : DataW H × List MemPlace), w.cell? (a.add (i * fs.size + j)) = some v ∧ ys[j]? = some y ∧ DataW.trod enc P w base spare held n f.type [v] = some y := by
  rcases open_slice ht h with h0 | ⟨a, len, cap, m, n, D, Pl, hcs, hb, hl, hm, hmm, hx, hi⟩
  · exact .inl h0
  · refine .inr ⟨a, len, cap, m, D, Pl, hcs, hb, hl, hm, hmm, by rw [hC] at hx; exact hx, fun i him => ?_⟩
    obtain ⟨cs', hc, ht'⟩ := hi i him
    rw [hC] at hc
    obtain ⟨ys, n', hn', hy, hlen, hyl, hf⟩ := DataW.trod_struct he ht'
    obtain ⟨_, hcl, hat⟩ := World.cells?_some hc
    simp only [Prod.mk.injEq] at hy
    refine ⟨ys, n', hy.1, hy.2, hyl, fun j f hj => ?_⟩
    obtain ⟨ho, hk⟩ := hone_of hone j f hj
    have hjl : j < fs.size := (Array.getElem?_eq_some_iff.1 hj).1
    have hcell := hat j hjl
    have hv : cs'[j]? = some (cs'[j]'(by omega)) := List.getElem?_eq_getElem (by omega)
    have h1 := hf j f hj
    rw [ho, hk] at h1
    have hone' : (cs'.drop j).take 1 = [cs'[j]'(by omega)] := by
      rw [List.drop_eq_getElem_cons (by omega)]
      rfl
    rw [hone'] at h1
    have hys : ys[j]? = some (ys[j]'(by omega)) := List.getElem?_eq_getElem (by omega)
    refine ⟨_, _, ?_, hys, h1.trans hys⟩
    rw [← Go.Deep.add_add, hcell, hv]
end

section
variable {H : Type} {enc : TypeId × Value → H} {P : Program}
theorem post_of_below {f : Func} {s : ChangeSpec} {apart fresh handsOn again : Bool} {W W' : World} {args : Array Value} {v : Value} {ds gs : List (DataW H)} {before pa pv : List MemPlace}
    (hW : DataW.Whole enc P f.params.toList s.vars apart W args.toList ds gs before)
    (hres : ∀ (b : Nat) (sp : Nat → Bool) (hd : Bool), DataW.TrodAll enc P W' b sp hd f.resultTypes.toList (v.resultList f.resultTypes.size) (s.fn H (ds ++ gs)).results [])
    (hargs : ∀ sp : Nat → Bool, (∀ p ∈ before, sp p.block = true) → DataW.TrodAll enc P W' 0 sp true f.params.toList args.toList (s.fn H (ds ++ gs)).args pa)
    (hvars : ∀ sp : Nat → Bool, (∀ p ∈ before, sp p.block = true) → DataW.TrodVars enc P W' sp s.vars (s.fn H (ds ++ gs)).vars pv)
    (hps : before = pa ++ pv) (hb : Below W.heap.size W W')
    (hok : ∀ (j : Nat) (t : TypeId) (r : Value), f.resultTypes[j]? = some t → (v.resultList f.resultTypes.size)[j]? = some r → Value.okWide P W' .any 0 t r) :
    s.post enc P f apart fresh handsOn again W args v W' := by
  have hlt : ∀ p ∈ before, p.block < W.heap.size := fun p hp => hW.lt p hp
  have hold : ∀ p ∈ before, (fun b => decide (b < W.heap.size)) p.block = true := fun p hp => by simpa using hlt p hp
  refine ⟨ds, gs, before, [], pa, pv, hW, hres _ _ _, hargs _ hold, hvars _ hold, World.keptBut_mono (fun p hp => ⟨hp, ?_⟩) (hb.frame (· ∈ before)), fun _ => ?_⟩
  · rw [hps, List.mem_append] at hp
    exact Or.inr hp
  · obtain ⟨_, _, _, _, _, hz, hn⟩ := hW
    refine ⟨hok, _, _, ([] ++ pa) ++ pv, ⟨[] ++ pa, pv, trodAll_append (hargs _ (fun _ _ => rfl)) (hres _ _ _), hvars _ (fun _ _ => rfl), rfl, ?_, ?_⟩, ?_⟩
    · intro b off hp
      have hin : MemPlace.cell b off ∈ before := by rw [hps]; simpa using hp
      rw [hb.frozen (hlt _ hin)]
      exact hz b off hin
    · intro ha
      have := hn ha
      rw [hps] at this
      simpa using this
    · intro p hp _
      rw [hps]
      simpa using hp
end

theorem laidOut : laidOutB Tryz.prog = true := by kernel_rfl

/-- An argument reads as it did where nothing that lay before has turned. -/
theorem stay {H : Type} {enc : TypeId × Value → H} {t : TypeId} {W W' : World} {v : Value} {d : DataW H} {ps : List MemPlace} (hr : Tryz.prog.readableRec t = true) (hrow : t < Tryz.prog.types.size)
    (h : DataW.Trod enc Tryz.prog W 0 (fun _ => true) true t v d ps) (hb : Below W.heap.size W W') (hlt : ∀ x ∈ ps, x.block < W.heap.size) {sp : Nat → Bool} (hsp : ∀ x ∈ ps, sp x.block = true) :
    DataW.Trod enc Tryz.prog W' 0 sp true t v d ps :=
  WideElems.Trod_stays laidOut hr hrow h (fun x hx => hb.same (hlt x hx)) hsp

/-- Of numbers that each have their thing, the list of the things. -/
theorem list_of {α : Type} (P : Nat → α → Prop) : ∀ n, (∀ i, i < n → ∃ x, P i x) → ∃ l : List α, l.length = n ∧ ∀ i (h : i < l.length), P i l[i]
  | 0, _ => ⟨[], rfl, fun i h => by simp at h⟩
  | n + 1, h => by
    obtain ⟨l, hl, hp⟩ := list_of P n (fun i hi => h i (by omega))
    obtain ⟨x, hx⟩ := h n (by omega)
    refine ⟨l ++ [x], by simp [hl], fun i hi => ?_⟩
    by_cases hn : i < l.length
    · rw [List.getElem_append_left hn]; exact hp i hn
    · have : i = l.length := by simp at hi; omega
      subst this
      simp [hl, hx]

/-- The weights of an element are among those of its list. -/
theorem weights_elem {H : Type} {P : Program} {e : TypeId} : ∀ {l : List (DataW H)} {i : Nat} {d : DataW H}, l[i]? = some d → ∀ n ∈ d.weights P e, n ∈ DataW.weightsAll P e l
  | d0 :: r, 0, d, h, n, hn => by
    simp only [List.getElem?_cons_zero, Option.some.injEq] at h
    subst h
    simp only [DataW.weightsAll, List.mem_append]; exact .inl hn
  | d0 :: r, i + 1, d, h, n, hn => by
    simp only [List.getElem?_cons_succ] at h
    simp only [DataW.weightsAll, List.mem_append]; exact .inr (weights_elem h n hn)
  | [], _, _, h, _, _ => by simp at h

end Go.Proofs.YtgmpohdkignadaaGreatDoor.Row
/-
  The tables of unicode/utf8 off the row's list of laid variables. No condition.
-/
namespace Go.Proofs.YtgmpohdkignadaaGreatDoor.Ut
open Go.Shelf Go.Lib
set_option linter.unusedVariables false

def ren : Ren := ⟨fun x => x, fun n => if n = 5 then 5 else if n = 119 then 161 else if n = 138 then 163 else 164, fun n => if n = 3 then 0 else 1⟩
set_option maxRecDepth 100000 in
theorem ren_types : U8Types Tryz.prog ren := ⟨by kernel_rfl, by kernel_rfl, by kernel_rfl, by kernel_rfl⟩
set_option maxRecDepth 100000 in
theorem tabs_of_laid {W : World} (hL : laidMetH Tryz.prog [("unicode/utf8.acceptRanges", Rows.laid_unicode_utf8_acceptRanges), ("unicode/utf8.first", Rows.laid_unicode_utf8_first)] W) : Tabs W := by
  rw [MakeChecks.laidMetH_plain _ _ _ (by kernel_rfl)] at hL
  have h := utf8Tabs_of_readsT (ρ := ren) ren_types ⟨by kernel_rfl, by kernel_rfl, by kernel_rfl, by kernel_rfl, by kernel_rfl, by kernel_rfl, by kernel_rfl⟩ (Lib.laidMet.reads hL (.tail _ (.head _))) (Lib.laidMet.reads hL (.head _))
  exact h
end Go.Proofs.YtgmpohdkignadaaGreatDoor.Ut
