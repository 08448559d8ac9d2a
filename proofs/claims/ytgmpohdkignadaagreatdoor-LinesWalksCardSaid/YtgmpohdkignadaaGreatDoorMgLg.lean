/-
  What the proof of the laws L rests on: the texts RoM LnD StA StB Open LwT PlL PlM PlN. Conditions: each theorem names its own.
-/
import Derived.Test.YtgmpohdkignadaaGreatDoorMgLf
import Derived.Test.YtgmpohdkignadaaGreatDoorMgLc
import Derived.Test.YtgmpohdkignadaaGreatDoorMgLa
import Derived.Deep.Slices
import Derived.Deep.Fields
import Derived.ChangeSame
import Derived.Carry
import Derived.SizedLaws
import Derived.Test.YtgmpohdkignadaaGreatDoorRows
import Derived.Lib.LaidU8T
import Derived.MakeChecks
/-
  rope.grown: the tree of leaves with these texts. Condition: the two tables of unicode/utf8 lie as laid.
-/
namespace Go.Proofs.YtgmpohdkignadaaGreatDoor.Ut
open Go.RowKit Go.Proofs.YtgmpohdkignadaaGreatDoor.Reg
set_option linter.unusedVariables false
set_option linter.unusedSimpArgs false

/-- The strings L lie in block g from o on. -/
def StrAt (W : World) (g o : Nat) (L : List ByteArray) : Prop := g < W.heap.size ∧ ∀ i s, L[i]? = some s → W.cell? ⟨g, o + i, none⟩ = some (.string s)
theorem StrAt.below {W W' : World} {g o : Nat} {L : List ByteArray} (h : StrAt W g o L) (hb : Below W.heap.size W W') : StrAt W' g o L :=
  ⟨Nat.lt_of_lt_of_le h.1 hb.size, fun i s hi => (hb.cell (p := ⟨g, o + i, none⟩) h.1).trans (h.2 i s hi)⟩
theorem StrAt.left {W : World} {g o : Nat} {A B : List ByteArray} (h : StrAt W g o (A ++ B)) : StrAt W g o A :=
  ⟨h.1, fun i s hi => h.2 i s (by
    have hl : i < A.length := (List.getElem?_eq_some_iff.1 hi).1
    rw [List.getElem?_append_left hl]; exact hi)⟩
theorem StrAt.right {W : World} {g o : Nat} {A B : List ByteArray} (h : StrAt W g o (A ++ B)) : StrAt W g (o + A.length) B :=
  ⟨h.1, fun i s hi => by
    rw [Nat.add_assoc]
    exact h.2 _ s (by rw [List.getElem?_append_right (by omega)]; rw [show A.length + i - A.length = i by omega]; exact hi)⟩

/-- What grown does, of n texts. -/
def GrownTo (n : Nat) : Prop := ∀ (g o c : Nat) (L : List ByteArray) (w : World), L.length = n → 0 < n → n ≤ c → Tabs w → StrAt w g o L → OkL L →
    Calls Tryz.prog 91 #[.slice (some ⟨g, o, none⟩) n c] w (Made L w)

set_option maxRecDepth 100000 in
theorem grown_one : GrownTo 1 := by
  intro g o c L w hL _ hc hT hS hO
  obtain ⟨s, rfl⟩ : ∃ s, L = [s] := List.length_eq_one_iff.1 hL
  have c0 := hS.2 0 s rfl
  rw [Nat.add_zero] at c0
  have hg := hS.1
  have hs := hO.leaf_le s (by simp)
  have HT := Lib.hid hT
  clear hT hS hO hL
  go_enter Tryz.func91, Tryz.ntmps91
  go_wp2_with fail
  refine (leaf_any s w HT.out hs).mono ?_
  rintro e w1 ⟨b, rfl, h1, hb, hB⟩
  have H1 := Lib.hid h1
  have HB := Lib.hid hB
  clear h1 hB
  unfold ptr
  go_wp2
  go_ret
  exact ⟨b, _, rfl, H1.out, rfl, hb, HB.out⟩

def VGrown (g o n c k base : Nat) (L1 L2 : List ByteArray) : Nat → Value → World → Prop := fun d x w => match d with
  | 14 => x = .slice (some ⟨g, o, none⟩) n c
  | 15 => x = .int .i64 k
  | 16 => x = .slice (some ⟨g, o, none⟩) k c
  | 17 => TrV base L1 x w
  | 18 => x = .slice (some ⟨g, o, none⟩) n c
  | 19 => x = .int .i64 k
  | 20 => x = .slice (some ⟨g, o + k, none⟩) (n - k) (c - k)
  | 21 => TrV base L2 x w
  | 22 => TrV base (L1 ++ L2) x w
  | 2 => TrV base (L1 ++ L2) x w
  | _ => True
theorem VGrown_mono (g o n c k base : Nat) (L1 L2 : List ByteArray) : ∀ d x w w', VGrown g o n c k base L1 L2 d x w → Below w.heap.size w w' → VGrown g o n c k base L1 L2 d x w' := by
  intro d x w w' h hb
  unfold VGrown at *
  split <;> first | exact h | exact trivial | skip
  all_goals exact h.below hb

set_option maxRecDepth 100000 in
set_option maxHeartbeats 1000000 in
theorem grown_more (n : Nat) (hn : 1 < n) (ih : ∀ m, m < n → GrownTo m) : GrownTo n := by
  intro g o c L w hL _ hc hT hS hO
  obtain ⟨k, hk⟩ : ∃ k, n / 2 = k := ⟨_, rfl⟩
  have hk0 : 0 < k := by omega
  have hkn : k < n := by omega
  obtain ⟨A, B, hAB, hA⟩ : ∃ A B, L = A ++ B ∧ A.length = k := ⟨L.take k, L.drop k, (List.take_append_drop k L).symm, by rw [List.length_take]; omega⟩
  subst hAB
  have hB : B.length = n - k := by rw [List.length_append] at hL; omega
  have hn2 : n ≤ 4294967296 := by
    have h1 := len_cat hO.ne
    have h2 := hO.sz
    omega
  have S1 := Lib.hid hS.left
  have hr := hS.right
  rw [hA] at hr
  have S2 := Lib.hid hr
  have HO := Lib.hid hO
  have HT := Lib.hid hT
  have I1 := Lib.hid (ih k hkn)
  have I2 := Lib.hid (ih (n - k) (by omega))
  have HA := Lib.hid hA
  have HBl := Lib.hid hB
  have hok : (∀ l r : Tr, l.leaves = A → r.leaves = B → (Tr.knot l r).Ok) := fun l r h1 h2 => Tr.ok_iff.2 (by simp only [Tr.leaves]; rw [h1, h2]; exact hO)
  have HK := Lib.hid hok
  have e1 : ((n : Int) == 1) = false := by rw [beq_eq_false_iff_ne]; omega
  have e2 : (n : Int) / 2 = (k : Int) := by omega
  have q1 : (k : Int) ≤ (n : Int) := by omega
  have q2 : (0 : Int) ≤ (k : Int) := by omega
  have HB := Lib.hid (Below.refl w.heap.size w)
  clear hL hA hB hr hS hO hT ih hok hk
  go_enter Tryz.func91, Tryz.ntmps91
  go_wp2
  have nkc : ¬ c = k := by omega
  have q3 : k ≤ c := by omega
  have q4 : (k : Int) ≤ (c : Int) := by omega
  refine wp_held' mixed (VGrown g o n c k w.heap.size A B) (VGrown_mono _ _ _ _ _ _ _ _) (by kernel_rfl) [14, 15, 16, 17, 18, 19, 20, 21, 22, 2] (by kernel_rfl) (by kernel_rfl) ?_ ?_
  · intro j hj
    have hj' : j < 10 := hj
    rcases (by omega : j = 0 ∨ j = 1 ∨ j = 2 ∨ j = 3 ∨ j = 4 ∨ j = 5 ∨ j = 6 ∨ j = 7 ∨ j = 8 ∨ j = 9) with rfl | rfl | rfl | rfl | rfl | rfl | rfl | rfl | rfl | rfl
    · -- operation 0
      (refine owes_val (L := [(0, false)]) rfl rfl rfl (by kernel_rfl) ?_; intro a' w' hb' hfacts; obtain ⟨hf0, -⟩ := hfacts; replace hf0 : a'.tmps[0]?.getD undef = .slice (some ⟨g, o, none⟩) n c := hf0)
      (go_simp; first | exact ⟨_, rfl, Below.refl _ _, rfl⟩ | exact ⟨_, rfl, Below.refl _ _, trivial⟩ | exact ⟨_, rfl, (Below.refl _ _).alloc (Nat.le_refl _) _, trivial⟩ | exact ⟨_, rfl, Below.refl _ _, congrArg (Value.int _) (IntWalk.i64_in _ (by omega))⟩)
    · -- operation 1
      (refine owes_val (L := [(3, false)]) rfl rfl rfl (by kernel_rfl) ?_; intro a' w' hb' hfacts; obtain ⟨hf3, -⟩ := hfacts; replace hf3 : a'.tmps[3]?.getD undef = .int .i64 k := hf3)
      (go_simp; first | exact ⟨_, rfl, Below.refl _ _, rfl⟩ | exact ⟨_, rfl, Below.refl _ _, trivial⟩ | exact ⟨_, rfl, (Below.refl _ _).alloc (Nat.le_refl _) _, trivial⟩ | exact ⟨_, rfl, Below.refl _ _, congrArg (Value.int _) (IntWalk.i64_in _ (by omega))⟩)
    · -- operation 2
      (refine owes_val (L := [(14, true), (15, true)]) rfl rfl rfl (by kernel_rfl) ?_; intro a' w' hb' hfacts; obtain ⟨hf14, hf15, -⟩ := hfacts; try simp only [VGrown] at hf14; try simp only [VGrown] at hf15)
      (go_simp; first | exact ⟨_, rfl, Below.refl _ _, rfl⟩ | exact ⟨_, rfl, Below.refl _ _, trivial⟩ | exact ⟨_, rfl, (Below.refl _ _).alloc (Nat.le_refl _) _, trivial⟩ | exact ⟨_, rfl, Below.refl _ _, congrArg (Value.int _) (IntWalk.i64_in _ (by omega))⟩)
    · -- operation 3
      (refine owes_val (L := [(16, true)]) rfl rfl rfl (by kernel_rfl) ?_; intro a' w' hb' hfacts; obtain ⟨hf16, -⟩ := hfacts; try simp only [VGrown] at hf16)
      go_simp
      refine (I1.out g o c A _ HA.out hk0 (by omega) (tabs_below HT.out hb') (S1.out.below hb') HO.out.left).mono ?_
      rintro e w3 ⟨q, t, rfl, hq, ht, hs, hb3⟩
      exact ⟨_, rfl, hb3, q, t, rfl, Nat.le_trans hb'.size hs, hq, ht⟩
    · -- operation 4
      (refine owes_val (L := [(0, false)]) rfl rfl rfl (by kernel_rfl) ?_; intro a' w' hb' hfacts; obtain ⟨hf0, -⟩ := hfacts; replace hf0 : a'.tmps[0]?.getD undef = .slice (some ⟨g, o, none⟩) n c := hf0)
      (go_simp; first | exact ⟨_, rfl, Below.refl _ _, rfl⟩ | exact ⟨_, rfl, Below.refl _ _, trivial⟩ | exact ⟨_, rfl, (Below.refl _ _).alloc (Nat.le_refl _) _, trivial⟩ | exact ⟨_, rfl, Below.refl _ _, congrArg (Value.int _) (IntWalk.i64_in _ (by omega))⟩)
    · -- operation 5
      (refine owes_val (L := [(3, false)]) rfl rfl rfl (by kernel_rfl) ?_; intro a' w' hb' hfacts; obtain ⟨hf3, -⟩ := hfacts; replace hf3 : a'.tmps[3]?.getD undef = .int .i64 k := hf3)
      (go_simp; first | exact ⟨_, rfl, Below.refl _ _, rfl⟩ | exact ⟨_, rfl, Below.refl _ _, trivial⟩ | exact ⟨_, rfl, (Below.refl _ _).alloc (Nat.le_refl _) _, trivial⟩ | exact ⟨_, rfl, Below.refl _ _, congrArg (Value.int _) (IntWalk.i64_in _ (by omega))⟩)
    · -- operation 6
      (refine owes_val (L := [(18, true), (19, true)]) rfl rfl rfl (by kernel_rfl) ?_; intro a' w' hb' hfacts; obtain ⟨hf18, hf19, -⟩ := hfacts; try simp only [VGrown] at hf18; try simp only [VGrown] at hf19)
      (go_simp; first | exact ⟨_, rfl, Below.refl _ _, rfl⟩ | exact ⟨_, rfl, Below.refl _ _, trivial⟩ | exact ⟨_, rfl, (Below.refl _ _).alloc (Nat.le_refl _) _, trivial⟩ | exact ⟨_, rfl, Below.refl _ _, congrArg (Value.int _) (IntWalk.i64_in _ (by omega))⟩)
    · -- operation 7
      (refine owes_val (L := [(20, true)]) rfl rfl rfl (by kernel_rfl) ?_; intro a' w' hb' hfacts; obtain ⟨hf20, -⟩ := hfacts; try simp only [VGrown] at hf20)
      go_simp
      refine (I2.out g (o + k) (c - k) B _ HBl.out (by omega) (by omega) (tabs_below HT.out hb') (S2.out.below hb') HO.out.right).mono ?_
      rintro e w3 ⟨q, t, rfl, hq, ht, hs, hb3⟩
      exact ⟨_, rfl, hb3, q, t, rfl, Nat.le_trans hb'.size hs, hq, ht⟩
    · -- operation 8
      (refine owes_val (L := [(17, true), (21, true)]) rfl rfl rfl (by kernel_rfl) ?_; intro a' w' hb' hfacts; obtain ⟨hf17, hf21, -⟩ := hfacts; try simp only [VGrown] at hf17; try simp only [VGrown] at hf21)
      obtain ⟨a, t, hh, hq, hL, ht⟩ := hf17
      obtain ⟨b, u, hh2, hq2, hL2, hu⟩ := hf21
      unfold ptr at hh hh2
      go_simp
      refine (knot_any a b t u _ (tabs_below HT.out hb') hL hL2 (HK.out t u ht hu)).mono ?_
      rintro e w3 ⟨q, rfl, hq, hs, hb3⟩
      exact ⟨_, rfl, hb3, q, .knot t u, rfl, Nat.le_trans hb'.size hs, hq, by simp only [Tr.leaves]; rw [ht, hu]⟩
    · -- operation 9
      (refine owes_val (L := [(22, true)]) rfl rfl rfl (by kernel_rfl) ?_; intro a' w' hb' hfacts; obtain ⟨hf22, -⟩ := hfacts; try simp only [VGrown] at hf22)
      obtain ⟨a, t, hh, hq, hL, ht⟩ := hf22
      unfold ptr at hh
      go_simp
      exact ⟨_, rfl, Below.refl _ _, a, t, rfl, hq, hL, ht⟩
  · intro f W9 hf hb3
    obtain ⟨q, t, f2, hq, hL, ht⟩ : TrV w.heap.size (A ++ B) (f 2) W9 := hf 2 (by decide)
    have R3 := Lib.hid hL
    have R5 := Lib.hid ht
    have HB := Lib.hid hb3
    clear hf hL ht hb3
    unfold ptr at f2
    simp only [putAll, put_lit, List.map_cons, List.map_nil, List.set_cons_succ, List.set_cons_zero]
    simp only [f2]
    go_wp2
    go_ret
    exact ⟨q, t, rfl, R3.out, R5.out, hq, HB.out⟩
theorem grown_to : ∀ n, GrownTo n
  | 0 => fun _ _ _ _ _ _ h => absurd h (Nat.lt_irrefl 0)
  | 1 => grown_one
  | n + 2 => grown_more (n + 2) (by omega) (fun m hm => grown_to m)
/-- grown over a row of pieces. -/
theorem grown_any (B : Nat) (v : Value) (L : List ByteArray) (w : World) (hT : Tabs w) (h : Pcs B v L w) (hn : L ≠ []) (hO : OkL L) : Calls Tryz.prog 91 #[v] w (Made L w) := by
  have h0 : 0 < L.length := List.length_pos_iff.2 hn
  rcases h.own.2 with ⟨_, hz⟩ | ⟨g, cap, cur, rfl, hB, hg, hc, hm, hs, ht⟩
  · omega
  · refine grown_to L.length g 0 cap L w rfl h0 hc hT ⟨(Array.getElem?_eq_some_iff.1 hg).1, fun i s hi => ?_⟩ hO
    have hi' : i < L.length := (List.getElem?_eq_some_iff.1 hi).1
    have e : cur[i]? = some (.string s) := by
      have h1 : (strC L)[i]? = some (.string s) := by unfold strC; rw [List.getElem?_map, hi]; rfl
      rw [← ht, List.getElem?_take] at h1
      rw [if_pos (by omega)] at h1
      simpa using h1
    simp [World.cell?, hg, e]
end Go.Proofs.YtgmpohdkignadaaGreatDoor.Ut
/-
  What keeps a text (TextIs): nothing, a nil buffer, a gap buffer. Condition: the two tables of unicode/utf8 lie as laid.
-/
namespace Go.Proofs.YtgmpohdkignadaaGreatDoor.Ut
open Go.RowKit Go.Proofs.YtgmpohdkignadaaGreatDoor.Reg
set_option linter.unusedVariables false
set_option linter.unusedSimpArgs false

def emptyB : ByteArray := ⟨#[]⟩
theorem emptyB_size : emptyB.size = 0 := rfl
theorem empty_extract (i j : Nat) (hj : j ≤ emptyB.size) : emptyB.extract i j = emptyB := by
  apply ext_of_list
  rw [extract_list]
  simp [emptyB]

theorem text_nil (W : World) : TextIs W .nilIface emptyB := by
  refine ⟨.inl rfl, by decide, fun W' _ => ?_, fun W' i j _ hij hj => ?_, fun W' i _ hi => ?_⟩
  · go_enter Tryz.func41, Tryz.ntmps41
    go_wp2
    go_ret
    exact ⟨rfl, Below.refl _ _⟩
  · rw [empty_extract i j hj]
    go_enter Tryz.func38, Tryz.ntmps38
    go_wp2
    go_ret
    exact ⟨rfl, Below.refl _ _⟩
  · rw [empty_extract 0 i hi]
    go_enter Tryz.func42, Tryz.ntmps42
    go_wp2
    go_ret
    exact ⟨rfl, Below.refl _ _⟩

/-- A pointer whose methods fL, fS, fM (Len, Slice, Measure) answer as of the text s. -/
structure Has (fL fS fM : Nat) (W : World) (p : Option Addr) (s : ByteArray) : Prop where
  small : s.size ≤ 1073741824
  len : ∀ W', Below W.heap.size W W' → Calls Tryz.prog fL #[.pointer p] W' fun e w' => e = .returned (.int .i64 s.size) ∧ Below W'.heap.size W' w'
  slice : ∀ W' (i j : Nat), Below W.heap.size W W' → i ≤ j → j ≤ s.size → Calls Tryz.prog fS #[.pointer p, .int .i64 i, .int .i64 j] W' fun e w' => e = .returned (.tuple #[.string (s.extract i j), .int .i64 0]) ∧ Below W'.heap.size W' w'
  meas : ∀ W' (i : Nat), Below W.heap.size W W' → i ≤ s.size → Calls Tryz.prog fM #[.pointer p, .int .i64 0, .int .i64 i] W' fun e w' => ∃ m : Sm, e = .returned (.tuple #[m.val, .int .i64 0]) ∧ m.newlines = nlF (s.extract 0 i) ∧ Below W'.heap.size W' w'
theorem Has.below {fL fS fM : Nat} {W W' : World} {p : Option Addr} {s : ByteArray} (h : Has fL fS fM W p s) (hb : Below W.heap.size W W') : Has fL fS fM W' p s :=
  ⟨h.small, fun w k => h.len w (hb.trans (k.mono hb.size)), fun w i j k => h.slice w i j (hb.trans (k.mono hb.size)), fun w i k => h.meas w i (hb.trans (k.mono hb.size))⟩
abbrev HasG := Has 141 144 142
abbrev HasS := Has 50 49 135
abbrev HasR := Has 148 151 149

theorem hasG_gap {W : World} {b g : Nat} {r : ByteArray} {fr tq lim : Nat} (h : Gap W b g r fr tq lim) (hT : Tabs W) (hs : (gtext r fr tq).size ≤ 1073741824) : HasG W (some ⟨b, 0, none⟩) (gtext r fr tq) :=
  ⟨hs, fun W' hb => GapLen_any b g r fr tq lim W' (h.below hb), fun W' i j hb hij hj => GapSlice_any b g r fr tq lim i j W' (h.below hb) hij hj,
   fun W' i hb hi => (GapMeasure_any b g r fr tq lim 0 i W' (h.below hb) (tabs_below hT hb) (Nat.zero_le _) hi).mono fun e w h => ⟨_, h.1, rfl, h.2⟩⟩

set_option maxRecDepth 100000 in
set_option maxHeartbeats 1000000 in
theorem text57 {W : World} {p : Option Addr} {s : ByteArray} (h : HasG W p s) : TextIs W (.iface 57 (.pointer p)) s := by
  refine ⟨.inr ⟨_, _, rfl⟩, h.small, fun W' hb => ?_, fun W' i j hb hij hj => ?_, fun W' i hb hi => ?_⟩
  · have H := Lib.hid (h.len W' hb)
    clear h hb
    generalize s.size = N at *
    go_enter Tryz.func41, Tryz.ntmps41
    go_wp2_with fail
    refine H.out.mono ?_
    rintro e w1 ⟨rfl, hb⟩
    have HB := Lib.hid hb
    clear hb
    go_wp2
    go_ret
    exact ⟨rfl, HB.out⟩
  · have H := Lib.hid (h.slice W' i j hb hij hj)
    clear h hb
    generalize s.extract i j = N at *
    go_enter Tryz.func38, Tryz.ntmps38
    go_wp2_with fail
    refine H.out.mono ?_
    rintro e w1 ⟨rfl, hb⟩
    have HB := Lib.hid hb
    clear hb
    go_wp2
    go_ret
    exact ⟨rfl, HB.out⟩
  · have H := Lib.hid (h.meas W' i hb hi)
    clear h hb
    generalize s.extract 0 i = N at *
    go_enter Tryz.func42, Tryz.ntmps42
    go_wp2_with fail
    refine H.out.mono ?_
    rintro e w1 ⟨m, rfl, hm, hb⟩
    have HB := Lib.hid (hb.alloc hb.size (.cells #[.int .i64 m.bytes, .int .i64 m.units, .int .i64 m.clusters, .int .i64 m.cells, .int .i64 m.newlines, .string m.head, .string m.tail] 115))
    have HM := Lib.hid hm
    clear hb hm
    unfold Sm.val
    go_wp2
    go_ret
    exact ⟨by rw [← HM.out]; rfl, HB.out⟩

set_option maxRecDepth 100000 in
set_option maxHeartbeats 1000000 in
theorem text56 {W : World} {p : Option Addr} {s : ByteArray} (h : HasS W p s) : TextIs W (.iface 56 (.pointer p)) s := by
  refine ⟨.inr ⟨_, _, rfl⟩, h.small, fun W' hb => ?_, fun W' i j hb hij hj => ?_, fun W' i hb hi => ?_⟩
  · have H := Lib.hid (h.len W' hb)
    clear h hb
    generalize s.size = N at *
    go_enter Tryz.func41, Tryz.ntmps41
    go_wp2_with fail
    refine H.out.mono ?_
    rintro e w1 ⟨rfl, hb⟩
    have HB := Lib.hid hb
    clear hb
    go_wp2
    go_ret
    exact ⟨rfl, HB.out⟩
  · have H := Lib.hid (h.slice W' i j hb hij hj)
    clear h hb
    generalize s.extract i j = N at *
    go_enter Tryz.func38, Tryz.ntmps38
    go_wp2_with fail
    refine H.out.mono ?_
    rintro e w1 ⟨rfl, hb⟩
    have HB := Lib.hid hb
    clear hb
    go_wp2
    go_ret
    exact ⟨rfl, HB.out⟩
  · have H := Lib.hid (h.meas W' i hb hi)
    clear h hb
    generalize s.extract 0 i = N at *
    go_enter Tryz.func42, Tryz.ntmps42
    go_wp2_with fail
    refine H.out.mono ?_
    rintro e w1 ⟨m, rfl, hm, hb⟩
    have HB := Lib.hid (hb.alloc hb.size (.cells #[.int .i64 m.bytes, .int .i64 m.units, .int .i64 m.clusters, .int .i64 m.cells, .int .i64 m.newlines, .string m.head, .string m.tail] 115))
    have HM := Lib.hid hm
    clear hb hm
    unfold Sm.val
    go_wp2
    go_ret
    exact ⟨by rw [← HM.out]; rfl, HB.out⟩

/-- A nil buffer. -/
theorem measF_empty : (measF emptyB).newlines = (0 : Nat) := rfl
set_option maxRecDepth 100000 in
set_option maxHeartbeats 1000000 in
theorem nilMeasure_any (w : World) (hT : Tabs w) : Calls Tryz.prog 142 #[.pointer none, .int .i64 0, .int .i64 0] w fun e w' => e = .returned (.tuple #[(measF emptyB).val, .int .i64 0]) ∧ Below w.heap.size w w' := by
  have k1 : Lies (w.alloc (.cells zero7.toArray 115)) w.heap.size zero7 := Lies.new _ _ _
  have b1 : Below w.heap.size w (w.alloc (.cells zero7.toArray 115)) := (Below.refl _ _).alloc (Nat.le_refl _) _
  have T1 := Lib.hid (tabs_below hT b1)
  have K1 := Lib.hid k1
  have B1 := Lib.hid b1
  clear hT k1 b1
  go_enter Tryz.func142, Tryz.ntmps142
  go_wp2_with fail
  change Calls _ _ _ (w.alloc (.cells zero7.toArray 115)) _
  generalize w.alloc (.cells zero7.toArray 115) = w1 at *
  refine (nilSlice_any w1).mono ?_
  rintro e w2 ⟨rfl, hb⟩
  have k2 := Lib.hid (K1.out.below hb)
  have b2 := Lib.hid (B1.out.trans (hb.mono B1.out.size))
  have T2 := Lib.hid (tabs_below T1.out hb)
  clear hb K1 B1 T1
  go_wp2_with fail
  refine (Measure_any emptyB w2 T2.out (by decide)).mono ?_
  rintro e w3 ⟨rfl, hb⟩
  have k3 := Lib.hid (k2.out.below hb)
  have b3 := Lib.hid (b2.out.trans (hb.mono b2.out.size))
  clear hb k2 b2 T2
  obtain ⟨m, hm⟩ : ∃ m, measF emptyB = m := ⟨_, rfl⟩
  have HM := Lib.hid hm
  rw [hm]
  clear hm
  have L := (Lies.stored k3.out [.int .i64 m.bytes, .int .i64 m.units, .int .i64 m.clusters, .int .i64 m.cells, .int .i64 m.newlines, .string m.head, .string m.tail] rfl).2
  have HB := Lib.hid (chg_mine b3.out (sets_chg w.heap.size [.int .i64 m.bytes, .int .i64 m.units, .int .i64 m.clusters, .int .i64 m.cells, .int .i64 m.newlines, .string m.head, .string m.tail] 0 w3) (Nat.le_refl _))
  have HL := Lib.hid L
  clear L
  obtain ⟨-, K⟩ := k3.out
  obtain ⟨c0, f0⟩ := K 0 _ rfl
  obtain ⟨c1, f1⟩ := K 1 _ rfl
  obtain ⟨c2, f2⟩ := K 2 _ rfl
  obtain ⟨c3, f3⟩ := K 3 _ rfl
  obtain ⟨c4, f4⟩ := K 4 _ rfl
  obtain ⟨c5, f5⟩ := K 5 _ rfl
  obtain ⟨c6, f6⟩ := K 6 _ rfl
  clear K
  unfold Sm.val
  go_wp2
  have j0 := (HL.out 0 _ rfl).1
  have j1 := (HL.out 1 _ rfl).1
  have j2 := (HL.out 2 _ rfl).1
  have j3 := (HL.out 3 _ rfl).1
  have j4 := (HL.out 4 _ rfl).1
  have j5 := (HL.out 5 _ rfl).1
  have j6 := (HL.out 6 _ rfl).1
  simp only [World.setCells] at j0 j1 j2 j3 j4 j5 j6
  refine bodyPost_ret (v := .tuple #[m.val, .int .i64 0]) (by simp [results, Tryz.results142, go_sem, j0, j1, j2, j3, j4, j5, j6, Sm.val]) rfl ⟨?_, HB.out⟩
  rw [← HM.out]
theorem hasG_nil {W : World} (hT : Tabs W) : HasG W none emptyB := by
  refine ⟨by decide, fun W' hb => ?_, fun W' i j hb hij hj => ?_, fun W' i hb hi => ?_⟩
  · exact (nilLen_any W').mono fun e w h => ⟨h.1, by rw [h.2]; exact Below.refl _ _⟩
  · rw [empty_extract i j hj]
    obtain rfl : j = 0 := by have : j ≤ 0 := hj; omega
    obtain rfl : i = 0 := by omega
    exact nilSlice_any W'
  · rw [empty_extract 0 i hi]
    obtain rfl : i = 0 := by have : i ≤ 0 := hi; omega
    exact (nilMeasure_any W' (tabs_below hT hb)).mono fun e w h => ⟨_, h.1, rfl, h.2⟩
end Go.Proofs.YtgmpohdkignadaaGreatDoor.Ut
/-
  Package store, reading: under, Len, Slice, Measure over what keeps the text. Condition: what the inner text answers.
-/
namespace Go.Proofs.YtgmpohdkignadaaGreatDoor.Ut
open Go.RowKit Go.Proofs.YtgmpohdkignadaaGreatDoor.Reg
set_option linter.unusedVariables false
set_option linter.unusedSimpArgs false

theorem under_any (b : Nat) (t : TypeId) (x : Value) (vs : List Value) (w : World) (h : Lies w b (.iface t x :: vs)) : Calls Tryz.prog 47 #[.pointer (some ⟨b, 0, none⟩)] w fun e w' => e = .returned (.iface t x) ∧ w' = w := by
  obtain ⟨c0, -⟩ := h.2 0 _ rfl
  clear h
  go_enter Tryz.func47, Tryz.ntmps47
  go_wp2
  go_ret
  exact ⟨rfl, rfl⟩
theorem under_nil (w : World) : Calls Tryz.prog 47 #[.pointer none] w fun e w' => e = .returned (.iface 57 (.pointer none)) ∧ w' = w := by
  go_enter Tryz.func47, Tryz.ntmps47
  go_wp2
  go_ret
  exact ⟨rfl, rfl⟩

set_option maxRecDepth 100000 in
set_option maxHeartbeats 2000000 in
theorem hasS57 {W : World} {q p : Option Addr} {s : ByteArray} (hu : ∀ W', Below W.heap.size W W' → Calls Tryz.prog 47 #[.pointer q] W' fun e w' => e = .returned (.iface 57 (.pointer p)) ∧ w' = W') (h : HasG W p s) : HasS W q s := by
  refine ⟨h.small, fun W' hb => ?_, fun W' i j hb hij hj => ?_, fun W' i hb hi => ?_⟩
  · have H := Lib.hid (h.len W' hb)
    have HU := Lib.hid (hu W' hb)
    clear h hb hu
    generalize s.size = N at *
    go_enter Tryz.func50, Tryz.ntmps50
    go_wp2_with fail
    refine HU.out.mono ?_
    rintro e w1 ⟨rfl, rfl⟩
    go_wp2_with fail
    refine H.out.mono ?_
    rintro e w1 ⟨rfl, hb⟩
    have HB := Lib.hid hb
    clear hb
    go_wp2
    go_ret
    exact ⟨rfl, HB.out⟩
  · have H := Lib.hid (h.slice W' i j hb hij hj)
    have HU := Lib.hid (hu W' hb)
    clear h hb hu
    generalize s.extract i j = N at *
    go_enter Tryz.func49, Tryz.ntmps49
    go_wp2_with fail
    refine HU.out.mono ?_
    rintro e w1 ⟨rfl, rfl⟩
    go_wp2_with fail
    refine H.out.mono ?_
    rintro e w1 ⟨rfl, hb⟩
    have HB := Lib.hid hb
    clear hb
    go_wp2
    refine bodyPost_ret (v := .tuple #[.string N, .int .i64 0]) (by simp [results, Tryz.results49, go_sem]) rfl ⟨rfl, HB.out⟩
  · have b1 : Below W'.heap.size W' (W'.alloc (.cells zero7.toArray 115)) := (Below.refl _ _).alloc (Nat.le_refl _) _
    have K1 : Lies (W'.alloc (.cells zero7.toArray 115)) W'.heap.size zero7 := Lies.new _ _ _
    have K1 := Lib.hid K1
    have H := Lib.hid (h.meas _ i (hb.trans (b1.mono hb.size)) hi)
    have HU := Lib.hid (hu _ (hb.trans (b1.mono hb.size)))
    have B1 := Lib.hid b1
    clear h hb hu b1
    generalize s.extract 0 i = N at *
    go_enter Tryz.func135, Tryz.ntmps135
    go_wp2_with fail
    change Calls _ _ _ (W'.alloc (.cells zero7.toArray 115)) _
    generalize W'.alloc (.cells zero7.toArray 115) = w1 at *
    refine HU.out.mono ?_
    rintro e w2 ⟨rfl, rfl⟩
    go_wp2_with fail
    refine H.out.mono ?_
    rintro e w3 ⟨m, rfl, hm, hb⟩
    have K3 := K1.out.below hb
    have HM := Lib.hid hm
    have L := Lib.hid (Lies.stored K3 [.int .i64 m.bytes, .int .i64 m.units, .int .i64 m.clusters, .int .i64 m.cells, .int .i64 m.newlines, .string m.head, .string m.tail] rfl).2
    have HB := Lib.hid (chg_mine (B1.out.trans (hb.mono B1.out.size)) (sets_chg W'.heap.size [.int .i64 m.bytes, .int .i64 m.units, .int .i64 m.clusters, .int .i64 m.cells, .int .i64 m.newlines, .string m.head, .string m.tail] 0 w3) (Nat.le_refl _))
    obtain ⟨-, K⟩ := K3
    obtain ⟨c0, f0⟩ := K 0 _ rfl
    obtain ⟨c1, f1⟩ := K 1 _ rfl
    obtain ⟨c2, f2⟩ := K 2 _ rfl
    obtain ⟨c3, f3⟩ := K 3 _ rfl
    obtain ⟨c4, f4⟩ := K 4 _ rfl
    obtain ⟨c5, f5⟩ := K 5 _ rfl
    obtain ⟨c6, f6⟩ := K 6 _ rfl
    clear hb hm K K1 B1
    unfold Sm.val
    go_wp2
    have j0 := (L.out 0 _ rfl).1
    have j1 := (L.out 1 _ rfl).1
    have j2 := (L.out 2 _ rfl).1
    have j3 := (L.out 3 _ rfl).1
    have j4 := (L.out 4 _ rfl).1
    have j5 := (L.out 5 _ rfl).1
    have j6 := (L.out 6 _ rfl).1
    simp only [World.setCells] at j0 j1 j2 j3 j4 j5 j6
    refine bodyPost_ret (v := .tuple #[m.val, .int .i64 0]) (by simp [results, Tryz.results135, go_sem, j0, j1, j2, j3, j4, j5, j6, Sm.val]) rfl ⟨m, rfl, HM.out, HB.out⟩

set_option maxRecDepth 100000 in
set_option maxHeartbeats 2000000 in
theorem hasS94 {W : World} {q p : Option Addr} {s : ByteArray} (hu : ∀ W', Below W.heap.size W W' → Calls Tryz.prog 47 #[.pointer q] W' fun e w' => e = .returned (.iface 94 (.pointer p)) ∧ w' = W') (h : HasR W p s) : HasS W q s := by
  refine ⟨h.small, fun W' hb => ?_, fun W' i j hb hij hj => ?_, fun W' i hb hi => ?_⟩
  · have H := Lib.hid (h.len W' hb)
    have HU := Lib.hid (hu W' hb)
    clear h hb hu
    generalize s.size = N at *
    go_enter Tryz.func50, Tryz.ntmps50
    go_wp2_with fail
    refine HU.out.mono ?_
    rintro e w1 ⟨rfl, rfl⟩
    go_wp2_with fail
    refine H.out.mono ?_
    rintro e w1 ⟨rfl, hb⟩
    have HB := Lib.hid hb
    clear hb
    go_wp2
    go_ret
    exact ⟨rfl, HB.out⟩
  · have H := Lib.hid (h.slice W' i j hb hij hj)
    have HU := Lib.hid (hu W' hb)
    clear h hb hu
    generalize s.extract i j = N at *
    go_enter Tryz.func49, Tryz.ntmps49
    go_wp2_with fail
    refine HU.out.mono ?_
    rintro e w1 ⟨rfl, rfl⟩
    go_wp2_with fail
    refine H.out.mono ?_
    rintro e w1 ⟨rfl, hb⟩
    have HB := Lib.hid hb
    clear hb
    go_wp2
    refine bodyPost_ret (v := .tuple #[.string N, .int .i64 0]) (by simp [results, Tryz.results49, go_sem]) rfl ⟨rfl, HB.out⟩
  · have b1 : Below W'.heap.size W' (W'.alloc (.cells zero7.toArray 115)) := (Below.refl _ _).alloc (Nat.le_refl _) _
    have K1 : Lies (W'.alloc (.cells zero7.toArray 115)) W'.heap.size zero7 := Lies.new _ _ _
    have K1 := Lib.hid K1
    have H := Lib.hid (h.meas _ i (hb.trans (b1.mono hb.size)) hi)
    have HU := Lib.hid (hu _ (hb.trans (b1.mono hb.size)))
    have B1 := Lib.hid b1
    clear h hb hu b1
    generalize s.extract 0 i = N at *
    go_enter Tryz.func135, Tryz.ntmps135
    go_wp2_with fail
    change Calls _ _ _ (W'.alloc (.cells zero7.toArray 115)) _
    generalize W'.alloc (.cells zero7.toArray 115) = w1 at *
    refine HU.out.mono ?_
    rintro e w2 ⟨rfl, rfl⟩
    go_wp2_with fail
    refine H.out.mono ?_
    rintro e w3 ⟨m, rfl, hm, hb⟩
    have K3 := K1.out.below hb
    have HM := Lib.hid hm
    have L := Lib.hid (Lies.stored K3 [.int .i64 m.bytes, .int .i64 m.units, .int .i64 m.clusters, .int .i64 m.cells, .int .i64 m.newlines, .string m.head, .string m.tail] rfl).2
    have HB := Lib.hid (chg_mine (B1.out.trans (hb.mono B1.out.size)) (sets_chg W'.heap.size [.int .i64 m.bytes, .int .i64 m.units, .int .i64 m.clusters, .int .i64 m.cells, .int .i64 m.newlines, .string m.head, .string m.tail] 0 w3) (Nat.le_refl _))
    obtain ⟨-, K⟩ := K3
    obtain ⟨c0, f0⟩ := K 0 _ rfl
    obtain ⟨c1, f1⟩ := K 1 _ rfl
    obtain ⟨c2, f2⟩ := K 2 _ rfl
    obtain ⟨c3, f3⟩ := K 3 _ rfl
    obtain ⟨c4, f4⟩ := K 4 _ rfl
    obtain ⟨c5, f5⟩ := K 5 _ rfl
    obtain ⟨c6, f6⟩ := K 6 _ rfl
    clear hb hm K K1 B1
    unfold Sm.val
    go_wp2
    have j0 := (L.out 0 _ rfl).1
    have j1 := (L.out 1 _ rfl).1
    have j2 := (L.out 2 _ rfl).1
    have j3 := (L.out 3 _ rfl).1
    have j4 := (L.out 4 _ rfl).1
    have j5 := (L.out 5 _ rfl).1
    have j6 := (L.out 6 _ rfl).1
    simp only [World.setCells] at j0 j1 j2 j3 j4 j5 j6
    refine bodyPost_ret (v := .tuple #[m.val, .int .i64 0]) (by simp [results, Tryz.results135, go_sem, j0, j1, j2, j3, j4, j5, j6, Sm.val]) rfl ⟨m, rfl, HM.out, HB.out⟩

theorem hasS_nil {W : World} (hT : Tabs W) : HasS W none emptyB := hasS57 (fun W' _ => under_nil W') (hasG_nil hT)
theorem hasS_gap {W : World} {b : Nat} {p : Option Addr} {vs : List Value} {s : ByteArray} (hb : Lies W b (.iface 57 (.pointer p) :: vs)) (h : HasG W p s) : HasS W (some ⟨b, 0, none⟩) s :=
  hasS57 (fun W' k => under_any b _ _ vs W' (hb.below k)) h
theorem hasS_rope {W : World} {b : Nat} {p : Option Addr} {vs : List Value} {s : ByteArray} (hb : Lies W b (.iface 94 (.pointer p) :: vs)) (h : HasR W p s) : HasS W (some ⟨b, 0, none⟩) s :=
  hasS94 (fun W' k => under_any b _ _ vs W' (hb.below k)) h

theorem extract_whole (s : ByteArray) : s.extract 0 s.size = s := extract_all s
set_option maxRecDepth 100000 in
theorem StText_any {W : World} {q : Option Addr} {s : ByteArray} (h : HasS W q s) : Calls Tryz.prog 32 #[.pointer q] W fun e w' => e = .returned (.string s) ∧ Below W.heap.size W w' := by
  have H := Lib.hid h
  have hw := extract_all s
  clear h
  go_enter Tryz.func32, Tryz.ntmps32
  go_wp2_with fail
  refine (H.out.len W (Below.refl _ _)).mono ?_
  rintro e w1 ⟨rfl, hb⟩
  have HB := Lib.hid hb
  clear hb
  go_wp2_with fail
  refine (H.out.slice w1 0 s.size HB.out (Nat.zero_le _) (Nat.le_refl _)).mono ?_
  rintro e w2 ⟨rfl, hb⟩
  have HB2 := Lib.hid (HB.out.trans (hb.mono HB.out.size))
  rw [hw]
  clear hb HB
  go_wp2
  go_ret
  exact ⟨rfl, HB2.out⟩
end Go.Proofs.YtgmpohdkignadaaGreatDoor.Ut
/-
  Package store: kept and New, the gap backend. Condition: the two tables of unicode/utf8 lie as laid.
-/
namespace Go.Proofs.YtgmpohdkignadaaGreatDoor.Ut
open Go.RowKit Go.Proofs.YtgmpohdkignadaaGreatDoor.Reg
set_option linter.unusedVariables false
set_option linter.unusedSimpArgs false

set_option maxRecDepth 100000 in
theorem kept_gap (k : Int) (n : Nat) (s : ByteArray) (w : World) (hT : Tabs w) (hk : (k == 2) = false) (hn : n ≤ 1073741824) (hs : s.size ≤ n) :
    Calls Tryz.prog 46 #[.int .i64 k, .int .i64 n, .string s] w fun e w' => ∃ b, e = .returned (.iface 57 (.pointer (some ⟨b, 0, none⟩))) ∧ (∃ g r fr tq, Gap w' b g r fr tq n ∧ gtext r fr tq = s ∧ w.heap.size ≤ b ∧ w.heap.size ≤ g) ∧ Below w.heap.size w w' := by
  have HTb := Lib.hid hT
  clear hT
  go_enter Tryz.func46, Tryz.ntmps46
  go_wp2_with fail
  refine (GapNew_any s n w hn hs).mono ?_
  rintro e w1 ⟨b, g, r, fr, tq, rfl, hG, ht, hb, hg, hB⟩
  have HG := Lib.hid hG
  have HB := Lib.hid hB
  have HTx := Lib.hid ht
  clear hG hB ht
  go_wp2
  go_ret
  exact ⟨b, rfl, ⟨g, r, fr, tq, HG.out, HTx.out, hb, hg⟩, HB.out⟩
theorem hasG_of {w : World} {b n : Nat} {s : ByteArray} (hT : Tabs w) (hs : s.size ≤ 1073741824) (h : ∃ g r fr tq, Gap w b g r fr tq n ∧ gtext r fr tq = s) : HasG w (some ⟨b, 0, none⟩) s := by
  obtain ⟨g, r, fr, tq, hG, rfl⟩ := h
  exact hasG_gap hG hT hs

/-- The backend is a gap buffer: the kind says so, or none is said and the text is shorter than top. -/
def gapKind (k top : Int) (s : ByteArray) : Prop := k = 1 ∨ (k ≠ 1 ∧ k ≠ 2 ∧ (s.size : Int) < top)

set_option maxRecDepth 100000 in
set_option maxHeartbeats 2000000 in
theorem StNew_gap (k lo hi : Int) (n : Nat) (s : ByteArray) (w : World) (hT : Tabs w) (hn : n ≤ 1073741824) (hs : s.size ≤ n) (hk : gapKind k (max hi (min (max lo 0) 1073741824 + 1)) s) :
    Calls Tryz.prog 28 #[.int .i64 k, .int .i64 lo, .int .i64 hi, .int .i64 n, .string s] w fun e w' => ∃ b, e = .returned (.tuple #[.pointer (some ⟨b, 0, none⟩), .int .i64 0]) ∧ ∃ gb,
      Blk w' b 91 [.iface 57 (.pointer (some ⟨gb, 0, none⟩)), .int .i64 (if k = 1 then 1 else 3), .int .i64 (min (max lo 0) 1073741824), .int .i64 (max hi (min (max lo 0) 1073741824 + 1)), .int .i64 n, .int .i64 0, .int .i64 0, .int .i64 0] ∧
      (∃ g r fr tq, Gap w' gb g r fr tq n ∧ gtext r fr tq = s ∧ w.heap.size ≤ gb ∧ w.heap.size ≤ g) ∧ w.heap.size ≤ b ∧ Below w.heap.size w w' := by
  have HTb := Lib.hid hT
  have e1 : min (n : Int) 1073741824 = (n : Int) := by omega
  have e2 : ¬ (n : Int) < (s.size : Int) := by omega
  obtain ⟨low, hlow⟩ : ∃ low, min (max lo 0) 1073741824 = low := ⟨_, rfl⟩
  have hw1 : IntKind.i64.wrap (low + 1) = low + 1 := IntWalk.i64_in _ (by omega)
  rw [hlow] at hk ⊢
  obtain ⟨top, htop⟩ : ∃ top, max hi (low + 1) = top := ⟨_, rfl⟩
  rw [htop] at hk ⊢
  clear hT
  rcases hk with rfl | ⟨k1, k2, k3⟩
  · go_enter Tryz.func28, Tryz.ntmps28
    go_wp2_with fail
    have kb : Blk (w.alloc (.cells ([.nilIface, .int .i64 1, .int .i64 low, .int .i64 top, .int .i64 n, .int .i64 0, .int .i64 0, .int .i64 0] : List Value).toArray 91)) w.heap.size 91 [.nilIface, .int .i64 1, .int .i64 low, .int .i64 top, .int .i64 n, .int .i64 0, .int .i64 0, .int .i64 0] := Blk.new _ _ _
    have b1 : Below w.heap.size w (w.alloc (.cells ([.nilIface, .int .i64 1, .int .i64 low, .int .i64 top, .int .i64 n, .int .i64 0, .int .i64 0, .int .i64 0] : List Value).toArray 91)) := (Below.refl _ _).alloc (Nat.le_refl _) _
    change Calls _ _ _ (w.alloc (.cells ([.nilIface, .int .i64 1, .int .i64 low, .int .i64 top, .int .i64 n, .int .i64 0, .int .i64 0, .int .i64 0] : List Value).toArray 91)) _
    generalize w.alloc (.cells ([.nilIface, .int .i64 1, .int .i64 low, .int .i64 top, .int .i64 n, .int .i64 0, .int .i64 0, .int .i64 0] : List Value).toArray 91) = w1 at *
    refine (kept_gap 1 n s w1 (tabs_below HTb.out b1) rfl hn hs).mono ?_
    rintro e w2 ⟨gb, rfl, ⟨g, r, fr, tq, hG, ht, hb, hg⟩, hB⟩
    have k2' := kb.below hB
    have hlt : w.heap.size < w1.heap.size := kb.lies.1
    have X := k2'.set 0 (.iface 57 (.pointer (some ⟨gb, 0, none⟩)))
    have CH := Chg.set w2 ⟨w.heap.size, 0, none⟩ (.iface 57 (.pointer (some ⟨gb, 0, none⟩)))
    have HX := Lib.hid X
    have HG := Lib.hid (hG.chg CH (by show ¬ gb = w.heap.size; omega) (by show ¬ g = w.heap.size; omega))
    have HTx := Lib.hid ht
    have HB := Lib.hid (chg_mine (b1.trans (hB.mono b1.size)) CH (Nat.le_refl _))
    have hb' : w.heap.size ≤ gb := by omega
    have hg' : w.heap.size ≤ g := by omega
    obtain ⟨c0, f0⟩ := k2'.lies.2 0 _ rfl
    clear kb b1 hG ht hB k2' X CH
    go_wp2
    refine bodyPost_ret (v := .tuple #[.pointer (some ⟨w.heap.size, 0, none⟩), .int .i64 0]) (by simp [results, Tryz.results28, go_sem]) rfl ⟨_, rfl, gb, ?_, ⟨g, r, fr, tq, HG.out, HTx.out, hb', hg'⟩, Nat.le_refl _, HB.out⟩
    exact HX.out
  · have q1 : (k != 1) = true := by simpa using k1
    have q2 : (k != 2) = true := by simpa using k2
    have q3 : ¬ top ≤ (s.size : Int) := by omega
    go_enter Tryz.func28, Tryz.ntmps28
    go_wp2_with fail
    have kb : Blk (w.alloc (.cells ([.nilIface, .int .i64 3, .int .i64 low, .int .i64 top, .int .i64 n, .int .i64 0, .int .i64 0, .int .i64 0] : List Value).toArray 91)) w.heap.size 91 [.nilIface, .int .i64 3, .int .i64 low, .int .i64 top, .int .i64 n, .int .i64 0, .int .i64 0, .int .i64 0] := Blk.new _ _ _
    have b1 : Below w.heap.size w (w.alloc (.cells ([.nilIface, .int .i64 3, .int .i64 low, .int .i64 top, .int .i64 n, .int .i64 0, .int .i64 0, .int .i64 0] : List Value).toArray 91)) := (Below.refl _ _).alloc (Nat.le_refl _) _
    change Calls _ _ _ (w.alloc (.cells ([.nilIface, .int .i64 3, .int .i64 low, .int .i64 top, .int .i64 n, .int .i64 0, .int .i64 0, .int .i64 0] : List Value).toArray 91)) _
    generalize w.alloc (.cells ([.nilIface, .int .i64 3, .int .i64 low, .int .i64 top, .int .i64 n, .int .i64 0, .int .i64 0, .int .i64 0] : List Value).toArray 91) = w1 at *
    refine (kept_gap 1 n s w1 (tabs_below HTb.out b1) rfl hn hs).mono ?_
    rintro e w2 ⟨gb, rfl, ⟨g, r, fr, tq, hG, ht, hb, hg⟩, hB⟩
    have k2' := kb.below hB
    have hlt : w.heap.size < w1.heap.size := kb.lies.1
    have X := k2'.set 0 (.iface 57 (.pointer (some ⟨gb, 0, none⟩)))
    have CH := Chg.set w2 ⟨w.heap.size, 0, none⟩ (.iface 57 (.pointer (some ⟨gb, 0, none⟩)))
    have HX := Lib.hid X
    have HG := Lib.hid (hG.chg CH (by show ¬ gb = w.heap.size; omega) (by show ¬ g = w.heap.size; omega))
    have HTx := Lib.hid ht
    have HB := Lib.hid (chg_mine (b1.trans (hB.mono b1.size)) CH (Nat.le_refl _))
    have hb' : w.heap.size ≤ gb := by omega
    have hg' : w.heap.size ≤ g := by omega
    obtain ⟨c0, f0⟩ := k2'.lies.2 0 _ rfl
    clear kb b1 hG ht hB k2' X CH
    go_wp2
    refine bodyPost_ret (v := .tuple #[.pointer (some ⟨w.heap.size, 0, none⟩), .int .i64 0]) (by simp [results, Tryz.results28, go_sem]) rfl ⟨_, rfl, gb, ?_, ⟨g, r, fr, tq, HG.out, HTx.out, hb', hg'⟩, Nat.le_refl _, HB.out⟩
    exact HX.out
end Go.Proofs.YtgmpohdkignadaaGreatDoor.Ut
/-
  Opening the arguments of a law, and the last step of its row. Two blocks are copied from the guide's pages for copying (open_slice_fields, post_of_below). No condition.
-/
namespace Go.Proofs.YtgmpohdkignadaaGreatDoor.Row
open Go.RowKit Go.ChangeShapes Go.WideShapes Go.ChangeAt Go.Deep
set_option linter.unusedVariables false
set_option linter.unusedSimpArgs false

section
variable {H : Type} {enc : TypeId × Value → H} {P : Program} {w : World} {base : Nat} {spare : Nat → Bool} {held : Bool}
theorem open_slice_fields {t e : TypeId} {fs : Array Field} {fuel : Nat} {cs : List Value} {x : DataW H × List MemPlace} (ht : P.underlying t = some (.slice e)) (he : P.underlying e = some (.struct fs))
    (hone : oneCellFields P fs = true) (hC : P.cellsOf e = fs.size) (h : DataW.trod enc P w base spare held fuel t cs = some x) :
    (cs = [.slice none 0 0] ∧ x = (.nil, [])) ∨
    ∃ (a : Addr) (len cap m : Nat) (D : Nat → DataW H) (Pl : Nat → List MemPlace), cs = [.slice (some a) len cap] ∧ base ≤ a.block ∧ len ≤ cap ∧ cap ≤ maxLen ∧ m = (if spare a.block then cap else len) ∧
      x = (.slice ((List.range len).map D) ((List.range (m - len)).map fun j => D (len + j)), MemPlace.row a (m * fs.size) ++ (List.range m).flatMap Pl) ∧
      ∀ i, i < m → ∃ (ys : List (DataW H × List MemPlace)) (n : Nat), D i = .agg (ys.map (·.1)) ∧ Pl i = ys.flatMap (·.2) ∧ ys.length = fs.size ∧
        ∀ (j : Nat) (f : Field), fs[j]? = some f → ∃ (v : Value) (y : DataW H × List MemPlace), w.cell? (a.add (i * fs.size + j)) = some v ∧ ys[j]? = some y ∧ DataW.trod enc P w base spare held n f.type [v] = some y := by
  rcases open_slice ht h with h0 | ⟨a, len, cap, m, n, D, Pl, hcs, hb, hl, hm, hmm, hx, hi⟩
  · exact .inl h0
  · refine .inr ⟨a, len, cap, m, D, Pl, hcs, hb, hl, hm, hmm, by rw [hC] at hx; exact hx, fun i him => ?_⟩
    obtain ⟨cs', hc, ht'⟩ := hi i him
    rw [hC] at hc
    obtain ⟨ys, n', hn', hy, hlen, hyl, hf⟩ := DataW.trod_struct he ht'
    obtain ⟨_, hcl, hat⟩ := World.cells?_some hc
    simp only [Prod.mk.injEq] at hy
    refine ⟨ys, n', hy.1, hy.2, hyl, fun j f hj => ?_⟩
    obtain ⟨ho, hk⟩ := hone_of hone j f hj
    have hjl : j < fs.size := (Array.getElem?_eq_some_iff.1 hj).1
    have hcell := hat j hjl
    have hv : cs'[j]? = some (cs'[j]'(by omega)) := List.getElem?_eq_getElem (by omega)
    have h1 := hf j f hj
    rw [ho, hk] at h1
    have hone' : (cs'.drop j).take 1 = [cs'[j]'(by omega)] := by
      rw [List.drop_eq_getElem_cons (by omega)]
      rfl
    rw [hone'] at h1
    have hys : ys[j]? = some (ys[j]'(by omega)) := List.getElem?_eq_getElem (by omega)
    refine ⟨_, _, ?_, hys, h1.trans hys⟩
    rw [← Go.Deep.add_add, hcell, hv]
end

section
variable {H : Type} {enc : TypeId × Value → H} {P : Program}
theorem post_of_below {f : Func} {s : ChangeSpec} {apart fresh handsOn again : Bool} {W W' : World} {args : Array Value} {v : Value} {ds gs : List (DataW H)} {before pa pv : List MemPlace}
    (hW : DataW.Whole enc P f.params.toList s.vars apart W args.toList ds gs before)
    (hres : ∀ (b : Nat) (sp : Nat → Bool) (hd : Bool), DataW.TrodAll enc P W' b sp hd f.resultTypes.toList (v.resultList f.resultTypes.size) (s.fn H (ds ++ gs)).results [])
    (hargs : ∀ sp : Nat → Bool, (∀ p ∈ before, sp p.block = true) → DataW.TrodAll enc P W' 0 sp true f.params.toList args.toList (s.fn H (ds ++ gs)).args pa)
    (hvars : ∀ sp : Nat → Bool, (∀ p ∈ before, sp p.block = true) → DataW.TrodVars enc P W' sp s.vars (s.fn H (ds ++ gs)).vars pv)
    (hps : before = pa ++ pv) (hb : Below W.heap.size W W')
    (hok : ∀ (j : Nat) (t : TypeId) (r : Value), f.resultTypes[j]? = some t → (v.resultList f.resultTypes.size)[j]? = some r → Value.okWide P W' .any 0 t r) :
    s.post enc P f apart fresh handsOn again W args v W' := by
  have hlt : ∀ p ∈ before, p.block < W.heap.size := fun p hp => hW.lt p hp
  have hold : ∀ p ∈ before, (fun b => decide (b < W.heap.size)) p.block = true := fun p hp => by simpa using hlt p hp
  refine ⟨ds, gs, before, [], pa, pv, hW, hres _ _ _, hargs _ hold, hvars _ hold, World.keptBut_mono (fun p hp => ⟨hp, ?_⟩) (hb.frame (· ∈ before)), fun _ => ?_⟩
  · rw [hps, List.mem_append] at hp
    exact Or.inr hp
  · obtain ⟨_, _, _, _, _, hz, hn⟩ := hW
    refine ⟨hok, _, _, ([] ++ pa) ++ pv, ⟨[] ++ pa, pv, trodAll_append (hargs _ (fun _ _ => rfl)) (hres _ _ _), hvars _ (fun _ _ => rfl), rfl, ?_, ?_⟩, ?_⟩
    · intro b off hp
      have hin : MemPlace.cell b off ∈ before := by rw [hps]; simpa using hp
      rw [hb.frozen (hlt _ hin)]
      exact hz b off hin
    · intro ha
      have := hn ha
      rw [hps] at this
      simpa using this
    · intro p hp _
      rw [hps]
      simpa using hp
end

theorem laidOut : laidOutB Tryz.prog = true := by kernel_rfl

/-- An argument reads as it did where nothing that lay before has turned. -/
theorem stay {H : Type} {enc : TypeId × Value → H} {t : TypeId} {W W' : World} {v : Value} {d : DataW H} {ps : List MemPlace} (hr : Tryz.prog.readableRec t = true) (hrow : t < Tryz.prog.types.size)
    (h : DataW.Trod enc Tryz.prog W 0 (fun _ => true) true t v d ps) (hb : Below W.heap.size W W') (hlt : ∀ x ∈ ps, x.block < W.heap.size) {sp : Nat → Bool} (hsp : ∀ x ∈ ps, sp x.block = true) :
    DataW.Trod enc Tryz.prog W' 0 sp true t v d ps :=
  WideElems.Trod_stays laidOut hr hrow h (fun x hx => hb.same (hlt x hx)) hsp

/-- Of numbers that each have their thing, the list of the things. -/
theorem list_of {α : Type} (P : Nat → α → Prop) : ∀ n, (∀ i, i < n → ∃ x, P i x) → ∃ l : List α, l.length = n ∧ ∀ i (h : i < l.length), P i l[i]
  | 0, _ => ⟨[], rfl, fun i h => by simp at h⟩
  | n + 1, h => by
    obtain ⟨l, hl, hp⟩ := list_of P n (fun i hi => h i (by omega))
    obtain ⟨x, hx⟩ := h n (by omega)
    refine ⟨l ++ [x], by simp [hl], fun i hi => ?_⟩
    by_cases hn : i < l.length
    · rw [List.getElem_append_left hn]; exact hp i hn
    · have : i = l.length := by simp at hi; omega
      subst this
      simp [hl, hx]

/-- The weights of an element are among those of its list. -/
theorem weights_elem {H : Type} {P : Program} {e : TypeId} : ∀ {l : List (DataW H)} {i : Nat} {d : DataW H}, l[i]? = some d → ∀ n ∈ d.weights P e, n ∈ DataW.weightsAll P e l
  | d0 :: r, 0, d, h, n, hn => by
    simp only [List.getElem?_cons_zero, Option.some.injEq] at h
    subst h
    simp only [DataW.weightsAll, List.mem_append]; exact .inl hn
  | d0 :: r, i + 1, d, h, n, hn => by
    simp only [List.getElem?_cons_succ] at h
    simp only [DataW.weightsAll, List.mem_append]; exact .inr (weights_elem h n hn)
  | [], _, _, h, _, _ => by simp at h

end Go.Proofs.YtgmpohdkignadaaGreatDoor.Row
/-
  The tables of unicode/utf8 off the row's list of laid variables. No condition.
-/
namespace Go.Proofs.YtgmpohdkignadaaGreatDoor.Ut
open Go.Shelf Go.Lib
set_option linter.unusedVariables false

def ren : Ren := ⟨fun x => x, fun n => if n = 5 then 5 else if n = 119 then 161 else if n = 138 then 163 else 164, fun n => if n = 3 then 0 else 1⟩
set_option maxRecDepth 100000 in
theorem ren_types : U8Types Tryz.prog ren := ⟨by kernel_rfl, by kernel_rfl, by kernel_rfl, by kernel_rfl⟩
set_option maxRecDepth 100000 in
theorem tabs_of_laid {W : World} (hL : laidMetH Tryz.prog [("unicode/utf8.acceptRanges", Rows.laid_unicode_utf8_acceptRanges), ("unicode/utf8.first", Rows.laid_unicode_utf8_first)] W) : Tabs W := by
  rw [MakeChecks.laidMetH_plain _ _ _ (by kernel_rfl)] at hL
  have h := utf8Tabs_of_readsT (ρ := ren) ren_types ⟨by kernel_rfl, by kernel_rfl, by kernel_rfl, by kernel_rfl, by kernel_rfl, by kernel_rfl, by kernel_rfl⟩ (Lib.laidMet.reads hL (.tail _ (.head _))) (Lib.laidMet.reads hL (.head _))
  exact h
end Go.Proofs.YtgmpohdkignadaaGreatDoor.Ut
/-
  A piece of a text between two boundaries of clusters has the text's clusters (plain). No condition.
-/
namespace Go.Proofs.YtgmpohdkignadaaGreatDoor.Ut
open Go.RowKit Go.Proofs.YtgmpohdkignadaaGreatDoor.Reg
set_option linter.unusedVariables false
set_option linter.unusedSimpArgs false

theorem dec4_low {a b c d : Nat} (h : a < 128) : dec4 a b c d = (a, 1) := by unfold dec4; rw [if_pos (by omega)]
theorem dec4_one {a b c d : Nat} (h : (dec4 a b c d).2 ≤ 1) (b' c' d' : Nat) (hb : b' / 64 ≠ 2) : dec4 a b' c' d' = dec4 a b c d := by
  have e : dec4 a b' c' d' = if a < 128 then (a, 1) else (65533, 1) := by unfold dec4; simp [hb]
  rw [e]
  unfold dec4 at h ⊢
  (repeat' split at h) <;> (repeat' split) <;> first | rfl | contradiction | (simp at h; done)
theorem dec4_upto2 {a b c d : Nat} (h : (dec4 a b c d).2 ≤ 2) (c' d' : Nat) (hc : c' / 64 ≠ 2) : dec4 a b c' d' = dec4 a b c d := by
  have e : dec4 a b c' d' = if a < 128 then (a, 1) else if a / 32 = 6 ∧ b / 64 = 2 then (if (a % 32) * 64 + b % 64 ≥ 0x80 then ((a % 32) * 64 + b % 64, 2) else (65533, 1)) else (65533, 1) := by unfold dec4; simp [hc]
  rw [e]
  unfold dec4 at h ⊢
  (repeat' split at h) <;> (repeat' split) <;> first | rfl | contradiction | (simp at h; done)
theorem dec4_upto3 {a b c d : Nat} (h : (dec4 a b c d).2 ≤ 3) (d' : Nat) (hd : d' / 64 ≠ 2) : dec4 a b c d' = dec4 a b c d := by
  have e : dec4 a b c d' = if a < 128 then (a, 1) else if a / 32 = 6 ∧ b / 64 = 2 then (if (a % 32) * 64 + b % 64 ≥ 0x80 then ((a % 32) * 64 + b % 64, 2) else (65533, 1)) else if a / 16 = 14 ∧ b / 64 = 2 ∧ c / 64 = 2 then (if (a % 16) * 4096 + (b % 64) * 64 + c % 64 ≥ 0x800 ∧ Utf8.valid ((a % 16) * 4096 + (b % 64) * 64 + c % 64 : Nat) = true then ((a % 16) * 4096 + (b % 64) * 64 + c % 64, 3) else (65533, 1)) else (65533, 1) := by unfold dec4; simp [hd]
  rw [e]
  unfold dec4 at h ⊢
  (repeat' split at h) <;> (repeat' split) <;> first | rfl | contradiction | (simp at h; done)
theorem dec4_ch {a b c d : Nat} {x : Int} (hx : 0 ≤ x) (hl : x < 128) (h : chOf (dec4 a b c d) = x) : (a : Int) = x := by
  unfold dec4 chOf at h
  (repeat' split at h) <;> simp_all <;> omega
theorem chOf_low {a b c d : Nat} (h : a < 128) : chOf (dec4 a b c d) = a := by
  rw [dec4_low h]; unfold chOf; rw [if_neg (by simp; omega)]

/-- Window w' is window w with all outside of m..M wiped out; units of w keep to that cut. -/
structure Agree (w w' : Nat → Nat) (m M : Nat) : Prop where
  low : m ≤ 4
  top : 5 ≤ M ∧ M ≤ 8
  same : ∀ k, m ≤ k → k < M → w' k = w k
  left' : ∀ k, k < m → w' k = 256
  right' : ∀ k, M ≤ k → k < 8 → w' k = 256
  left : ∀ k, k < m → wSz w k + k ≤ m
  right : ∀ k, k ≤ 4 → M < 8 → wSz w k + k ≤ M
theorem Agree.wD {w w' : Nat → Nat} {m M : Nat} (h : Agree w w' m M) {k : Nat} (h1 : m ≤ k) (h2 : k ≤ 4) : Ut.wD w' k = Ut.wD w k := by
  have ht := h.top
  have hr := h.right k h2
  unfold wSz Ut.wD at hr
  unfold Ut.wD
  rw [h.same k h1 (by omega)]
  rcases (by omega : M = k + 1 ∨ M = k + 2 ∨ M = k + 3 ∨ k + 3 < M) with e | e | e | e
  · rw [h.right' (k + 1) (by omega) (by omega)]
    exact dec4_one (by have := hr (by omega); omega) _ _ _ (by decide)
  · rw [h.same (k + 1) (by omega) (by omega), h.right' (k + 2) (by omega) (by omega)]
    exact dec4_upto2 (by have := hr (by omega); omega) _ _ (by decide)
  · rw [h.same (k + 1) (by omega) (by omega), h.same (k + 2) (by omega) (by omega), h.right' (k + 3) (by omega) (by omega)]
    exact dec4_upto3 (by have := hr (by omega); omega) _ (by decide)
  · rw [h.same (k + 1) (by omega) (by omega), h.same (k + 2) (by omega) (by omega), h.same (k + 3) (by omega) (by omega)]
theorem Agree.out {w w' : Nat → Nat} {m M : Nat} (h : Agree w w' m M) {k : Nat} (h1 : k < m) : wSz w' k = 1 := by
  unfold wSz Ut.wD; rw [h.left' k h1]; unfold dec4; simp
theorem Agree.cU {w w' : Nat → Nat} {m M : Nat} (h : Agree w w' m M) : Ut.cU w' = Ut.cU w := by
  have hl := h.low
  have one : ∀ k, 1 ≤ k → k ≤ 3 → (wSz w' k + k ≤ 4 ↔ wSz w k + k ≤ 4) := by
    intro k h1 h2
    by_cases hk : k < m
    · have := h.out hk; have := h.left k hk; omega
    · have : wSz w' k = wSz w k := by unfold wSz; rw [h.wD (by omega) (by omega)]
      omega
  have a1 := one 1 (by omega) (by omega)
  have a2 := one 2 (by omega) (by omega)
  have a3 := one 3 (by omega) (by omega)
  unfold Ut.cU
  rw [Bool.eq_iff_iff, decide_eq_true_eq, decide_eq_true_eq]
  omega
theorem Agree.cPrev {w w' : Nat → Nat} {m M : Nat} (h : Agree w w' m M) (hm : m ≤ 3) : Ut.cPrev w' = Ut.cPrev w := by
  have one : ∀ k, k ≤ 2 → (3 < wSz w' k + k ↔ 3 < wSz w k + k) := by
    intro k h2
    by_cases hk : k < m
    · have := h.out hk; have := h.left k hk; omega
    · have : wSz w' k = wSz w k := by unfold wSz; rw [h.wD (by omega) (by omega)]
      omega
  have ch : ∀ k, k ≤ 3 → 3 < wSz w k + k → wCh w' k = wCh w k := by
    intro k h2 h3
    by_cases hk : k < m
    · have := h.left k hk; omega
    · unfold wCh; rw [h.wD (by omega) (by omega)]
  have p3 : 1 ≤ wSz w 3 := (dec4_pos _ _ _ _).1
  have a0 := one 0 (by omega)
  have a1 := one 1 (by omega)
  have a2 := one 2 (by omega)
  unfold Ut.cPrev
  by_cases c0 : 3 < wSz w 0
  · rw [if_pos (by omega), if_pos c0]; exact ch 0 (by omega) (by omega)
  · rw [if_neg (by omega), if_neg c0]
    by_cases c1 : 2 < wSz w 1
    · rw [if_pos (by omega), if_pos c1]; exact ch 1 (by omega) (by omega)
    · rw [if_neg (by omega), if_neg c1]
      by_cases c2 : 1 < wSz w 2
      · rw [if_pos (by omega), if_pos c2]; exact ch 2 (by omega) (by omega)
      · rw [if_neg (by omega), if_neg c2]; exact ch 3 (by omega) (by omega)
theorem Agree.cB {w w' : Nat → Nat} {m M : Nat} (h : Agree w w' m M) (h4 : m = 4 → Ut.cB w = true) : Ut.cB w' = Ut.cB w := by
  have hl := h.low
  have ht := h.top
  by_cases e : m = 4
  · rw [h4 e]
    unfold Ut.cB
    rw [h.left' 3 (by omega)]
    simp
  · unfold Ut.cB
    rw [h.same 3 (by omega) (by omega), h.cU, h.cPrev (by omega)]
    unfold wCh
    rw [h.wD (k := 4) (by omega) (by omega)]
theorem Agree.cW {w w' : Nat → Nat} {m M : Nat} (h : Agree w w' m M) (hn : M = 5 → ¬ (w 4 = 13 ∧ w 5 = 10)) : Ut.cW w' = Ut.cW w := by
  have hl := h.low
  have ht := h.top
  have e4 : wCh w' 4 = wCh w 4 := by unfold wCh; rw [h.wD (k := 4) (by omega) (by omega)]
  unfold Ut.cW
  rw [e4]
  by_cases e : M = 5
  · have hno : ¬ (wCh w 4 = 13 ∧ w 5 = 10) := by
      rintro ⟨c, d⟩
      have := dec4_ch (x := 13) (by omega) (by omega) c
      exact hn e ⟨by omega, d⟩
    rw [if_neg hno, if_neg (by rw [h.right' 5 (by omega) (by omega)]; simp)]
  · rw [h.same 5 (by omega) (by omega)]

/-- A low byte is a unit of its own, at a boundary. -/
theorem low_bound (s : ByteArray) {p : Nat} (hp : p < s.size) (h : bt s p < 128) : boundF s p = true ∧ up s p = p + 1 := by
  constructor
  · rw [bound_iff]
    intro k h1 h2
    by_cases e : up s k ≤ p
    · exact e
    · have := (mid_one s (j := k) (k := p) (by omega) h2 (by omega)).1; omega
  · have := szD s hp
    rw [dec4_low h] at this
    unfold up; rw [this]
theorem win_at (s : ByteArray) (i : Nat) (k : Nat) (hk : k < 8) : win s i k = bt s ((i : Int) + k - 4) := by unfold win; rw [if_pos hk]
theorem up_bound (s : ByteArray) {T k : Nat} (hT : boundF s T = true) (hk : k < T) : up s k ≤ T := by
  by_cases h : T ≤ k + 3
  · exact (bound_iff s T).1 hT k h hk
  · have := sz_le4 (from_ s k); unfold up; omega
theorem win_cut (s : ByteArray) {i k T : Nat} (hT : boundF s T = true) (hTs : T ≤ s.size) (hk : k ≤ 4) (h : i + k < T + 4) : wSz (win s i) k + i + k ≤ T + 4 := by
  by_cases hn : i + k < 4
  · have e : wSz (win s i) k = 1 := by unfold wSz; rw [win_neg s hn]
    omega
  · obtain ⟨j, hj⟩ : ∃ j, j + 4 = i + k := ⟨i + k - 4, by omega⟩
    have e := win_sz s (i := i) (k := k) (j := j) hk hj (by omega)
    have := up_bound s hT (k := j) (by omega)
    unfold up at this; omega
theorem bt_extract (s : ByteArray) {F T : Nat} (h1 : F ≤ T) (h2 : T ≤ s.size) (k : Int) : bt (s.extract F T) k = if 0 ≤ k ∧ k < (T : Int) - F then bt s (F + k) else 256 := by
  have hz : (s.extract F T).size = T - F := by simp [ByteArray.size_extract]; omega
  by_cases h0 : 0 ≤ k
  · by_cases h : k < (T : Int) - F
    · rw [if_pos ⟨h0, h⟩]
      obtain ⟨n, rfl⟩ : ∃ n : Nat, k = n := ⟨k.toNat, by omega⟩
      have e : ((F : Int) + (n : Int)) = ((F + n : Nat) : Int) := by omega
      rw [e, bt_in s (k := F + n) (by omega), bt_in (s.extract F T) (k := n) (by rw [hz]; omega)]
      congr 1
      exact ByteArray.getElem_extract ..
    · rw [if_neg (by omega), bt_big _ (by rw [hz]; omega)]
  · rw [if_neg (by omega), bt_neg _ (by omega)]
theorem cPrev_low {w : Nat → Nat} (h : w 3 < 128) : cPrev w = w 3 := by
  unfold cPrev
  rw [if_neg, if_neg, if_neg]
  · exact chOf_low h
  · intro h2; have e : w 3 / 64 = 2 := (dec4_two _ _ _ _ h2).2.2; omega
  · intro h2; have e : w 3 / 64 = 2 := dec4_three _ _ _ _ h2; omega
  · intro h2; have e : w 3 / 64 = 2 := dec4_four _ _ _ _ h2; omega
theorem cPrev_13 {w : Nat → Nat} (h : cPrev w = 13) : w 3 = 13 := by
  have no : ∀ k, wCh w k = 13 → w k = 13 ∧ wSz w k = 1 := by
    intro k hk
    have := dec4_ch (x := 13) (by omega) (by omega) hk
    have e : w k = 13 := by omega
    exact ⟨e, by unfold wSz wD; rw [dec4_low (by omega)]⟩
  unfold cPrev at h
  split at h
  · have := no 0 h; omega
  · split at h
    · have := no 1 h; omega
    · split at h
      · have := no 2 h; omega
      · exact (no 3 h).1
theorem win3 (s : ByteArray) (p : Nat) : win s (p + 1) 3 = bt s p := by rw [win_at s (p + 1) 3 (by omega)]; congr 1; omega
theorem win4 (s : ByteArray) (p : Nat) : win s p 4 = bt s p := by rw [win_at s p 4 (by omega)]; congr 1; omega
theorem win4_low (s : ByteArray) {p : Nat} (h : bt s p < 128) : wCh (win s p) 4 = bt s p := by
  unfold wCh wD; rw [chOf_low (by rw [win4]; exact h), win4]
theorem crlf_glue (s : ByteArray) {p : Nat} (hp : p + 1 < s.size) (h1 : bt s p = 13) (h2 : bt s (p + 1 : Nat) = 10) : clB s (p + 1) = false := by
  rw [clB_win s hp]
  unfold cB
  rw [win4_low s (by omega), cPrev_low (by rw [win3]; omega), win3, h1, h2]
  simp [gluedF]

section
variable (s : ByteArray) {F T : Nat}
theorem seam_agree (h1 : F ≤ T) (h2 : T ≤ s.size) (hF : boundF s F = true) (hT : boundF s T = true) (j : Nat) (hj : F + j < T) : Agree (win s (F + j)) (win (s.extract F T) j) (4 - j) (min 8 (4 + (T - F - j))) := by
  refine ⟨by omega, by omega, fun k a b => ?_, fun k a => ?_, fun k a b => ?_, fun k a => ?_, fun k a b => ?_⟩
  · rw [win_at _ _ _ (by omega), win_at _ _ _ (by omega), bt_extract s h1 h2, if_pos (by omega)]
    congr 1; omega
  · rw [win_at _ _ _ (by omega), bt_extract s h1 h2, if_neg (by omega)]
  · rw [win_at _ _ _ (by omega), bt_extract s h1 h2, if_neg (by omega)]
  · have := win_cut s (i := F + j) (k := k) hF (by omega) (by omega) (by omega)
    omega
  · have := win_cut s (i := F + j) (k := k) hT h2 a (by omega)
    omega
/-- The piece's boundaries are the text's. -/
theorem clB_piece (h1 : F ≤ T) (h2 : T ≤ s.size) (hF : clB s F = true) (hT : clB s T = true) (j : Nat) (hj : F + j < T) : clB (s.extract F T) j = clB s (F + j) := by
  have hz : (s.extract F T).size = T - F := by simp [ByteArray.size_extract]; omega
  have bF : boundF s F = true := clB_bound (by omega) hF
  have bT : boundF s T = true := by
    rcases Nat.lt_or_eq_of_le h2 with h | h
    · exact clB_bound h hT
    · rw [bound_iff]; intro k _ hk; rw [h]; exact up_le (by omega)
  rw [clB_win _ (by rw [hz]; omega), clB_win s (by omega)]
  refine (seam_agree s h1 h2 bF bT j hj).cB (fun h => ?_)
  obtain rfl : j = 0 := by omega
  rw [← clB_win s (by omega)]; exact hF
theorem clW_piece (h1 : F ≤ T) (h2 : T ≤ s.size) (hF : clB s F = true) (hT : clB s T = true) (j : Nat) (hj : F + j < T) (hb : clB s (F + j) = true) : clW (s.extract F T) j = clW s (F + j) := by
  have hz : (s.extract F T).size = T - F := by simp [ByteArray.size_extract]; omega
  have bF : boundF s F = true := clB_bound (by omega) hF
  have bT : boundF s T = true := by
    rcases Nat.lt_or_eq_of_le h2 with h | h
    · exact clB_bound h hT
    · rw [bound_iff]; intro k _ hk; rw [h]; exact up_le (by omega)
  rw [clW_win _ (by rw [hz]; omega) (clB_bound (by rw [hz]; omega) (by rw [clB_piece s h1 h2 hF hT j hj]; exact hb)), clW_win s (by omega) (clB_bound (by omega) hb)]
  refine (seam_agree s h1 h2 bF bT j hj).cW (fun h => ?_)
  rintro ⟨a, b⟩
  have e : T = F + j + 1 := by omega
  rw [win_at _ _ _ (by omega), show (((F + j : Nat) : Int) + (4 : Nat) - 4) = ((F + j : Nat) : Int) by omega] at a
  rw [win_at _ _ _ (by omega), show (((F + j : Nat) : Int) + (5 : Nat) - 4) = ((F + j + 1 : Nat) : Int) by omega] at b
  have hlt : F + j + 1 < s.size := by
    rcases Nat.lt_or_ge (F + j + 1) s.size with h | h
    · exact h
    · rw [bt_big s (by omega)] at b; omega
  have := crlf_glue s hlt a b
  rw [e, this] at hT
  exact absurd hT (by simp)
end

/-- The clusters of a piece, and its cells. -/
def cutsOf (s : ByteArray) (F n : Nat) : List Nat := (List.range' F n).filter (clB s)
def cellsOf (s : ByteArray) (F n : Nat) : Int := sumW s (cutsOf s F n)
theorem range_shift (F : Nat) : ∀ n i, List.range' (F + i) n = (List.range' i n).map (F + ·)
  | 0, i => rfl
  | n + 1, i => by rw [List.range'_succ, List.range'_succ, List.map_cons, ← range_shift F n (i + 1)]; rfl
theorem cuts_piece (s : ByteArray) {F T : Nat} (h1 : F ≤ T) (h2 : T ≤ s.size) (hF : clB s F = true) (hT : clB s T = true) (n : Nat) (hn : F + n ≤ T) :
    cutsOf s F n = (cutsOf (s.extract F T) 0 n).map (F + ·) ∧ sumW (s.extract F T) (cutsOf (s.extract F T) 0 n) = cellsOf s F n := by
  have e : cutsOf s F n = (cutsOf (s.extract F T) 0 n).map (F + ·) := by
    unfold cutsOf
    have := range_shift F n 0
    rw [Nat.add_zero] at this
    rw [this, List.filter_map]
    congr 1
    refine List.filter_congr fun j hj => ?_
    rw [List.mem_range'_1] at hj
    rw [clB_piece s h1 h2 hF hT j (by omega)]; rfl
  refine ⟨e, ?_⟩
  unfold cellsOf
  rw [e]
  unfold sumW
  rw [List.map_map]
  congr 1
  refine List.map_congr_left fun j hj => ?_
  unfold cutsOf at hj
  rw [List.mem_filter, List.mem_range'_1] at hj
  have := clB_piece s h1 h2 hF hT j (by omega)
  rw [hj.2] at this
  exact clW_piece s h1 h2 hF hT j (by omega) this.symm
theorem piece_size (s : ByteArray) {F T : Nat} (h2 : T ≤ s.size) : (s.extract F T).size = T - F := by simp [ByteArray.size_extract]; omega
end Go.Proofs.YtgmpohdkignadaaGreatDoor.Ut
/-
  Lines told by the bytes (plain): where they begin and end, their clusters, columns and back. No condition.
-/
namespace Go.Proofs.YtgmpohdkignadaaGreatDoor.Ut
open Go.RowKit Go.Proofs.YtgmpohdkignadaaGreatDoor.Reg
set_option linter.unusedVariables false
set_option linter.unusedSimpArgs false

theorem nlTo_succ (s : ByteArray) {k : Nat} (h : k < s.size) : nlTo s (k + 1) = nlTo s k + (if bt s k = 10 then 1 else 0) := by
  have hl : k < s.data.toList.length := by rw [← Lib.size_eq]; exact h
  have e : bt s k = (s.data.toList[k]).toNat := by
    unfold bt; rw [if_pos (by omega), Int.toNat_natCast, List.getElem?_eq_getElem hl]
  rw [nlTo_list, nlTo_list, List.take_succ_eq_append_getElem hl, e]
  have e2 : (s.data.toList[k].toNat = 10) ↔ (s.data.toList[k] = 10) := by rw [← UInt8.toNat_inj]; rfl
  unfold Lib.countByte
  by_cases hc : s.data.toList[k] = 10
  · rw [if_pos (e2.2 hc)]; simp [hc, List.countP_append, List.count_append]
  · rw [if_neg (fun h => hc (e2.1 h))]
    have hc2 : ¬ s.data[k]'(by simpa using hl) = 10 := by simpa using hc
    simp [hc2, List.countP_append, List.count_append, List.count_cons]
theorem begin_zero (s : ByteArray) : beginF s (0 : Nat) = 0 := begin_eq s _ 0 (fun k hk => by omega) (fun h => by omega) (Nat.zero_le _)
theorem begin_of_le (s : ByteArray) {N i : Nat} (h : N ≤ nlTo s i) : beginF s (N : Nat) ≤ i := by
  rcases Nat.lt_or_ge i (beginF s (N : Nat)) with h1 | h1
  · have := (begin_spec s (N : Nat)).1 i h1; omega
  · exact h1
theorem lt_begin (s : ByteArray) {N i : Nat} (hN : N ≤ nlF s) (h : nlTo s i < N) : i < beginF s (N : Nat) := by
  rcases Nat.lt_or_ge i (beginF s (N : Nat)) with h1 | h1
  · exact h1
  · have := nlTo_mono s h1; have := begin_reach s N hN; omega
/-- A line's begin: so many newlines ahead of it, the last right ahead. -/
theorem begin_nl (s : ByteArray) {N : Nat} (hN : N ≤ nlF s) : nlTo s (beginF s (N : Nat)) = N ∧ (0 < beginF s (N : Nat) → bt s ((beginF s (N : Nat) - 1 : Nat) : Int) = 10) := by
  have hr := begin_reach s N hN
  have hle := begin_le s (N : Nat)
  rcases Nat.eq_zero_or_pos (beginF s (N : Nat)) with h0 | h0
  · rw [h0] at hr ⊢
    rw [nlTo_zero] at hr ⊢
    exact ⟨by omega, fun h => by omega⟩
  · have h1 := (begin_spec s (N : Nat)).1 (beginF s (N : Nat) - 1) (by omega)
    have h2 := nlTo_succ s (k := beginF s (N : Nat) - 1) (by omega)
    rw [show beginF s (N : Nat) - 1 + 1 = beginF s (N : Nat) by omega] at h2
    split at h2
    · rename_i hb; exact ⟨by omega, fun _ => hb⟩
    · omega

theorem class10 : classF 10 = 1 := by decide +kernel
theorem class13 : classF 13 = 2 := by decide +kernel
theorem lf_next (s : ByteArray) {p : Nat} (hp : p < s.size) (h : bt s p = 10) : clB s (p + 1) = true ∧ clN s p = p + 1 := by
  obtain ⟨hb, hu⟩ := low_bound s hp (by omega)
  have key : clB s (p + 1) = true := by
    by_cases e : p + 1 < s.size
    · rw [clB_win s e]
      unfold cB
      rw [cPrev_low (by rw [win3]; omega), win3, h, ← bound_win s (by omega)]
      have := bound_up s hp hb
      rw [hu] at this
      rw [this]
      simp [gluedF, class10]
    · rw [show p + 1 = s.size by omega]; exact clB_size s
  refine ⟨key, ?_⟩
  rw [clN_step hp, nextU_up hp hb, hu, if_pos key]
theorem lf_clB (s : ByteArray) {p : Nat} (hp : p < s.size) (h : bt s p = 10) (h1 : p = 0 ∨ bt s ((p - 1 : Nat) : Int) ≠ 13) : clB s p = true := by
  by_cases e : p = 0
  · subst e; exact clB_zero s
  · obtain ⟨q, rfl⟩ : ∃ q, p = q + 1 := ⟨p - 1, by omega⟩
    have hb := (low_bound s hp (by omega)).1
    rw [clB_win s hp]
    unfold cB
    rw [← bound_win s (by omega), hb, win4_low s (by omega), h]
    have hne : ¬ cPrev (win s (q + 1)) = 13 := by
      intro hc
      have := cPrev_13 hc
      rw [win3] at this
      rcases h1 with h1 | h1
      · omega
      · exact h1 this
    simp [gluedF, class10, hne]
theorem cr_clB (s : ByteArray) {p : Nat} (hp : p < s.size) (h : bt s p = 13) : clB s p = true := by
  have hb := (low_bound s hp (by omega)).1
  rw [clB_win s hp]
  unfold cB
  rw [← bound_win s (by omega), hb, win4_low s (by omega), h]
  simp [gluedF, class13]
theorem crlf_next (s : ByteArray) {p : Nat} (hp : p + 1 < s.size) (h1 : bt s p = 13) (h2 : bt s ((p + 1 : Nat) : Int) = 10) : clB s (p + 2) = true ∧ clN s p = p + 2 := by
  obtain ⟨hb, hu⟩ := low_bound s (p := p) (by omega) (by omega)
  have hg := crlf_glue s hp h1 h2
  obtain ⟨k1, k2⟩ := lf_next s hp h2
  refine ⟨k1, ?_⟩
  rw [clN_step (by omega), nextU_up (by omega) hb, hu, hg, if_neg (by simp), k2]

theorem extract_cr (s : ByteArray) {p : Nat} (hp : p < s.size) : s.extract p (p + 1) = cr ↔ bt s p = 13 := by
  have e : bt (s.extract p (p + 1)) 0 = bt s p := by
    rw [bt_extract s (by omega) (by omega), if_pos (by omega)]; congr 1
  constructor
  · intro h; rw [h] at e; rw [← e]; rfl
  · intro h
    rw [h] at e
    have hz : (s.extract p (p + 1)).size = 1 := by rw [piece_size s (by omega)]; omega
    apply ext_of_list
    have hl : (s.extract p (p + 1)).data.toList.length = 1 := by rw [← Lib.size_eq]; exact hz
    obtain ⟨b, hb⟩ := List.length_eq_one_iff.1 hl
    unfold bt at e
    rw [hb] at e ⊢
    simp at e
    rw [show b = 13 from UInt8.toNat_inj.1 (by rw [e]; rfl)]; rfl
/-- All that is so of line N, from F to T. -/
structure LineAt (s : ByteArray) (N F T : Nat) : Prop where
  beg : beginF s (N : Nat) = F
  fin : spanT s N = T
  le : F ≤ T
  size : T ≤ s.size
  bF : clB s F = true
  bT : clB s T = true
  no : ∀ k : Nat, F ≤ k → k < T → bt s k ≠ 10
  nl : ∀ i : Nat, F ≤ i → i ≤ T → nlTo s i = N
  last : N = nlF s → T = s.size
  next : N < nlF s → T < s.size ∧ clN s T = beginF s (N + 1 : Nat) ∧ ((bt s T = 10 ∧ beginF s (N + 1 : Nat) = T + 1 ∧ (F < T → bt s ((T - 1 : Nat) : Int) ≠ 13)) ∨ (bt s T = 13 ∧ bt s ((T + 1 : Nat) : Int) = 10 ∧ beginF s (N + 1 : Nat) = T + 2))
theorem line_at (s : ByteArray) {N : Nat} (hN : N ≤ nlF s) : LineAt s N (beginF s (N : Nat)) (spanT s N) := by
  obtain ⟨n1, n2⟩ := begin_nl s hN
  have hle := begin_le s (N : Nat)
  have hbs := begin_span s N (by omega)
  have hts := spanT_le s N
  have bF : clB s (beginF s (N : Nat)) = true := by
    rcases Nat.eq_zero_or_pos (beginF s (N : Nat)) with h0 | h0
    · rw [h0]; exact clB_zero s
    · have := (lf_next s (p := beginF s (N : Nat) - 1) (by omega) (n2 h0)).1
      rw [show beginF s (N : Nat) - 1 + 1 = beginF s (N : Nat) by omega] at this
      exact this
  -- newlines within the line
  have nl : ∀ (E : Nat), E ≤ s.size → (∀ i : Nat, i ≤ E → nlTo s i ≤ N) → (∀ i : Nat, beginF s (N : Nat) ≤ i → i ≤ E → nlTo s i = N) ∧ (∀ k : Nat, beginF s (N : Nat) ≤ k → k < E → bt s k ≠ 10) := by
    intro E hE h
    have a : ∀ i : Nat, beginF s (N : Nat) ≤ i → i ≤ E → nlTo s i = N := by
      intro i h1 h2
      have := nlTo_mono s h1
      have := h i h2
      omega
    refine ⟨a, fun k h1 h2 hc => ?_⟩
    have b := nlTo_succ s (k := k) (by omega)
    rw [if_pos hc, a k h1 (by omega), a (k + 1) (by omega) (by omega)] at b
    omega
  by_cases hl : N = nlF s
  · have hT : spanT s N = s.size := by unfold spanT; rw [if_neg (by omega)]
    obtain ⟨a, b⟩ := nl s.size (Nat.le_refl _) (fun i hi => by have := nlTo_mono s hi; rw [nlTo_all] at this; omega)
    refine ⟨rfl, rfl, hbs, hts, bF, by rw [hT]; exact clB_size s, ?_, ?_, fun _ => hT, fun h => by omega⟩
    · rw [hT]; exact b
    · rw [hT]; exact a
  · obtain ⟨m1, m2⟩ := begin_nl s (N := N + 1) (by omega)
    have hp := begin_pos s N (by omega)
    have hble := begin_le s (N + 1 : Nat)
    have hlt := begin_lt s N (by omega)
    have hlf := m2 hp
    obtain ⟨t, ht⟩ : ∃ t, beginF s (N + 1 : Nat) = t + 1 := ⟨beginF s (N + 1 : Nat) - 1, by omega⟩
    rw [ht] at hlf hlt hble m1
    rw [show t + 1 - 1 = t from rfl] at hlf
    obtain ⟨a, b⟩ := nl t (by omega) (fun i hi => by
      have h1 := (begin_spec s (N + 1 : Nat)).1 i (by omega)
      omega)
    have hspan : spanT s N = cutCr s (beginF s (N : Nat)) t := by unfold spanT; rw [if_pos (by omega), ht]; rfl
    by_cases hc : beginF s (N : Nat) < t ∧ s.extract (t - 1) t = cr
    · have hT : spanT s N = t - 1 := by rw [hspan]; unfold cutCr; rw [if_pos hc]
      obtain ⟨u, rfl⟩ : ∃ u, t = u + 1 := ⟨t - 1, by omega⟩
      rw [show u + 1 - 1 = u from rfl] at hT hc
      have h13 := (extract_cr s (p := u) (by omega)).1 hc.2
      obtain ⟨k1, k2⟩ := crlf_next s (p := u) (by omega) h13 hlf
      refine ⟨rfl, rfl, hbs, hts, bF, by rw [hT]; exact cr_clB s (by omega) h13, ?_, ?_, fun h => by omega, fun _ => ?_⟩
      · rw [hT]; intro k c d; exact b k c (by omega)
      · rw [hT]; intro k c d; exact a k c (by omega)
      · rw [hT, ht]; exact ⟨by omega, k2, .inr ⟨h13, hlf, rfl⟩⟩
    · have hT : spanT s N = t := by rw [hspan]; unfold cutCr; rw [if_neg hc]
      obtain ⟨k1, k2⟩ := lf_next s (p := t) (by omega) hlf
      have hcr : beginF s (N : Nat) < t → bt s ((t - 1 : Nat) : Int) ≠ 13 := by
        intro h1 h2
        apply hc
        refine ⟨h1, ?_⟩
        have := (extract_cr s (p := t - 1) (by omega)).2 h2
        rw [show t - 1 + 1 = t by omega] at this
        exact this
      refine ⟨rfl, rfl, hbs, hts, bF, ?_, by rw [hT]; exact b, by rw [hT]; exact a, fun h => by omega, fun _ => ?_⟩
      · rw [hT]
        refine lf_clB s (by omega) hlf ?_
        by_cases e : t = 0
        · exact .inl e
        · refine .inr fun h13 => ?_
          rcases Nat.lt_or_ge (beginF s (N : Nat)) t with h1 | h1
          · exact hcr h1 h13
          · have e1 : beginF s (N : Nat) = t := by omega
            have := n2 (by omega)
            rw [e1] at this
            omega
      · rw [hT, ht]; exact ⟨by omega, k2, .inl ⟨hlf, rfl, hcr⟩⟩
/-- A boundary lies in the line of its newlines. -/
theorem line_of (s : ByteArray) {i : Nat} (hi : i ≤ s.size) (hb : clB s i = true) : nlTo s i ≤ nlF s ∧ beginF s (nlTo s i : Nat) ≤ i ∧ i ≤ spanT s (nlTo s i) := by
  have h1 := nlTo_lt s i hi
  have L := line_at s (N := nlTo s i) (by omega)
  refine ⟨by omega, begin_of_le s (Nat.le_refl _), ?_⟩
  by_cases hl : nlTo s i = nlF s
  · rw [L.last hl]; exact hi
  · obtain ⟨a, b, c⟩ := L.next (by omega)
    have hlt := lt_begin s (N := nlTo s i + 1) (i := i) (by omega) (by omega)
    rcases c with ⟨c1, c2, c3⟩ | ⟨c1, c2, c3⟩
    · omega
    · rcases Nat.lt_or_ge (spanT s (nlTo s i)) i with h | h
      · exfalso
        have e : i = spanT s (nlTo s i) + 1 := by omega
        have hlt2 : spanT s (nlTo s i) + 1 < s.size := by have := begin_le s (nlTo s i + 1 : Nat); omega
        have := crlf_glue s hlt2 c1 c2
        rw [← e, hb] at this
        exact absurd this (by simp)
      · exact h
end Go.Proofs.YtgmpohdkignadaaGreatDoor.Ut
/-
  Columns and back (plain). No condition.
-/
namespace Go.Proofs.YtgmpohdkignadaaGreatDoor.Ut
open Go.RowKit Go.Proofs.YtgmpohdkignadaaGreatDoor.Reg
set_option linter.unusedVariables false
set_option linter.unusedSimpArgs false

theorem cuts_all (u : ByteArray) : clAts u 0 = cutsOf u 0 u.size := clAts_all u
theorem cuts_split (u : ByteArray) (a n m : Nat) : cutsOf u a (n + m) = cutsOf u a n ++ cutsOf u (a + n) m := by
  unfold cutsOf
  rw [← List.filter_append, List.range'_append_1]
theorem cuts_cons (u : ByteArray) {j : Nat} (h : clB u j = true) (n : Nat) : cutsOf u j (n + 1) = j :: cutsOf u (j + 1) n := by
  unfold cutsOf
  rw [List.range'_succ, List.filter_cons, if_pos h]
theorem mem_cuts {u : ByteArray} {a n x : Nat} : x ∈ cutsOf u a n ↔ (a ≤ x ∧ x < a + n) ∧ clB u x = true := by
  unfold cutsOf
  rw [List.mem_filter, List.mem_range'_1]
theorem sumW_app (u : ByteArray) (a b : List Nat) : sumW u (a ++ b) = sumW u a + sumW u b := by simp [sumW]
theorem next_le {u : ByteArray} {x j : Nat} (hx : clB u x = true) (hj : clB u j = true) (h : x < j) (hs : j ≤ u.size) : clN u x ≤ j := by
  rcases Nat.lt_or_ge j (clN u x) with h1 | h1
  · have := (clN_spec u (u.size - x) x (Nat.le_refl _) (by omega) (clB_bound (by omega) hx)).2 j h h1
    rw [hj] at this; exact absurd this (by simp)
  · exact h1
theorem next_clB {u : ByteArray} {x : Nat} (hx : clB u x = true) (h : x < u.size) : clB u (clN u x) = true :=
  (clN_spec u (u.size - x) x (Nat.le_refl _) h (clB_bound h hx)).1
theorem next_no {u : ByteArray} {x k : Nat} (hx : clB u x = true) (h : x < u.size) (h1 : x < k) (h2 : k < clN u x) : clB u k = false :=
  (clN_spec u (u.size - x) x (Nat.le_refl _) h (clB_bound h hx)).2 k h1 h2
/-- One cluster is one cut. -/
theorem cuts_one {u : ByteArray} {x : Nat} (hx : clB u x = true) (h : x < u.size) : cutsOf u x (clN u x - x) = [x] := by
  have hg := clN_gt h
  obtain ⟨n, hn⟩ : ∃ n, clN u x - x = n + 1 := ⟨clN u x - x - 1, by omega⟩
  rw [hn, cuts_cons u hx]
  have : cutsOf u (x + 1) n = [] := by
    unfold cutsOf
    rw [List.filter_eq_nil_iff]
    intro k hk
    rw [List.mem_range'_1] at hk
    rw [next_no hx h (by omega) (by omega)]; simp
  rw [this]
theorem cells_step {s : ByteArray} {F x : Nat} (hF : F ≤ x) (hx : clB s x = true) (h : x < s.size) : cellsOf s F (clN s x - F) = cellsOf s F (x - F) + clW s x := by
  have hg := clN_gt h
  unfold cellsOf
  rw [show clN s x - F = (x - F) + (clN s x - x) by omega, cuts_split, sumW_app, show F + (x - F) = x by omega, cuts_one hx h]
  simp [sumW]
theorem cuts_rest {u : ByteArray} {j : Nat} (hj : clB u j = true) (h : j < u.size) : clAts u 0 = cutsOf u 0 j ++ [j] ++ cutsOf u (j + 1) (u.size - j - 1) := by
  have e : cutsOf u 0 u.size = cutsOf u 0 (j + ((u.size - j - 1) + 1)) := congrArg _ (by omega)
  rw [cuts_all, e, cuts_split, Nat.zero_add, cuts_cons u hj]
  simp
theorem upto_cuts {u : ByteArray} {j : Nat} (hj : clB u j = true) (h : j ≤ u.size) : uptoC u (j : Int) = cutsOf u 0 j := by
  unfold uptoC
  have all : ∀ x ∈ cutsOf u 0 j, decide ((clN u x : Int) ≤ (j : Int)) = true := by
    intro x hx
    obtain ⟨⟨-, h1⟩, h2⟩ := mem_cuts.1 hx
    have := next_le h2 hj (by omega) h
    simp; omega
  rcases Nat.lt_or_eq_of_le h with h1 | h1
  · refine takeWhile_stop _ (cutsOf u 0 j) j ?_ _ ?_ all
    · have := clN_gt h1; simp; omega
    · rw [cuts_rest hj h1]; exact ⟨_, rfl⟩
  · rw [cuts_all, ← h1]; exact takeWhile_all _ _ all
theorem atEnd_cuts {u : ByteArray} {j : Nat} (F : Int) (hj : clB u j = true) (h : j ≤ u.size) : atEnd u F (cutsOf u 0 j) = F + j := by
  unfold atEnd
  cases hg : (cutsOf u 0 j).getLast? with
  | none =>
    rw [List.getLast?_eq_none_iff] at hg
    rcases Nat.eq_zero_or_pos j with h0 | h0
    · subst h0; simp
    · have : 0 ∈ cutsOf u 0 j := mem_cuts.2 ⟨⟨Nat.le_refl _, by omega⟩, clB_zero u⟩
      rw [hg] at this; simp at this
  | some x =>
    simp only
    obtain ⟨ys, hys⟩ := List.getLast?_eq_some_iff.1 hg
    have hx : x ∈ cutsOf u 0 j := by rw [hys]; simp
    obtain ⟨⟨-, h1⟩, h2⟩ := mem_cuts.1 hx
    have hle := next_le h2 hj (by omega) h
    have hgt := clN_gt (s := u) (i := x) (by omega)
    have hpw : (cutsOf u 0 j).Pairwise (· < ·) := List.Pairwise.filter _ List.pairwise_lt_range'
    rw [hys, List.pairwise_append] at hpw
    rcases Nat.lt_or_eq_of_le hle with h3 | h3
    · exfalso
      have : clN u x ∈ cutsOf u 0 j := mem_cuts.2 ⟨⟨Nat.zero_le _, by omega⟩, next_clB h2 (by omega)⟩
      rw [hys, List.mem_append] at this
      rcases this with h4 | h4
      · have := hpw.2.2 _ h4 x (by simp); omega
      · simp at h4; omega
    · rw [h3]
theorem take_cut {u : ByteArray} {j : Nat} (col : Int) (hj : clB u j = true) (h : j < u.size) (h1 : j = 0 ∨ sumW u (cutsOf u 0 j) ≤ col) (h2 : col < sumW u (cutsOf u 0 j) + clW u j) : takeW u col 0 (clAts u 0) = cutsOf u 0 j := by
  refine takeW_stop u col j (cutsOf u 0 j) _ 0 ⟨_, (cuts_rest hj h).symm⟩ ?_ (by omega)
  rcases h1 with rfl | h1
  · exact .inl rfl
  · exact .inr (by omega)
theorem take_all {u : ByteArray} (col : Int) (h : u.size = 0 ∨ sumW u (cutsOf u 0 u.size) ≤ col) : takeW u col 0 (clAts u 0) = cutsOf u 0 u.size := by
  rw [cuts_all]
  refine takeW_all u col _ 0 ?_
  rcases h with h | h
  · left; rw [h]; rfl
  · right; omega

section
variable {s : ByteArray} {N F T : Nat}
theorem LineAt.piece (L : LineAt s N F T) {i : Nat} (h1 : F ≤ i) (h2 : i ≤ T) (hb : clB s i = true) : clB (s.extract F T) (i - F) = true := by
  rcases Nat.lt_or_eq_of_le h2 with h | h
  · rw [clB_piece s L.le L.size L.bF L.bT (i - F) (by omega), show F + (i - F) = i by omega]; exact hb
  · rw [h, ← piece_size s L.size]; exact clB_size _
theorem LineAt.col (L : LineAt s N F T) {i : Nat} (h1 : F ≤ i) (h2 : i ≤ T) (hb : clB s i = true) : colN s i = cellsOf s F (i - F) := by
  have hz := piece_size s L.size (F := F)
  unfold colN
  rw [L.nl i h1 h2, L.beg, L.fin, show (i : Int) - (F : Int) = ((i - F : Nat) : Int) by omega, upto_cuts (L.piece h1 h2 hb) (by omega)]
  exact (cuts_piece s L.le L.size L.bF L.bT (i - F) (by omega)).2
theorem LineAt.at_mid (L : LineAt s N F T) {i : Nat} (h1 : F ≤ i) (h2 : i < T) (hb : clB s i = true) (d : Int) (d1 : i = F ∨ cellsOf s F (i - F) ≤ d) (d2 : d < cellsOf s F (i - F) + clW s i) : atN2 s N d = i := by
  have hz := piece_size s L.size (F := F)
  have hp := L.piece h1 (by omega) hb
  have hc := (cuts_piece s L.le L.size L.bF L.bT (i - F) (by omega)).2
  have hw := clW_piece s L.le L.size L.bF L.bT (i - F) (by omega) (by rw [show F + (i - F) = i by omega]; exact hb)
  rw [show F + (i - F) = i by omega] at hw
  unfold atN2
  rw [L.beg, L.fin, take_cut d hp (by omega) (by rw [hc]; omega) (by rw [hc, hw]; exact d2), atEnd_cuts _ hp (by omega)]
  omega
theorem LineAt.at_end (L : LineAt s N F T) (d : Int) (d1 : F = T ∨ cellsOf s F (T - F) ≤ d) : atN2 s N d = T := by
  have hz := piece_size s L.size (F := F)
  have hc := (cuts_piece s L.le L.size L.bF L.bT (T - F) (by have := L.le; omega)).2
  have hle := L.le
  unfold atN2
  rw [L.beg, L.fin, take_all d (by rw [hz, hc]; omega), atEnd_cuts _ (clB_size _) (Nat.le_refl _), hz]
  omega
/-- A cluster that is no newline takes a cell or two. -/
theorem cells_pos {c : Int} (h : c ≠ 10) : 1 ≤ cellsF c := by
  unfold cellsF
  have : classF c ≠ 1 := by unfold classF; (repeat' split) <;> simp_all
  rw [if_neg this]
  (repeat' split) <;> omega
theorem cellsF10 : cellsF 10 = 0 := by unfold cellsF; rw [class10]; rfl
theorem LineAt.cell_pos (L : LineAt s N F T) (hN : N ≤ nlF s) {i : Nat} (h1 : F ≤ i) (h2 : i < T) (hb : clB s i = true) : 1 ≤ clW s i := by
  have hs := L.size
  rw [clW_win s (by omega) (clB_bound (by omega) hb)]
  unfold cW
  have hno := L.no i h1 h2
  have hneg : ¬ (wCh (win s i) 4 = 13 ∧ win s i 5 = 10) := by
    rintro ⟨a, b⟩
    have a' := dec4_ch (x := 13) (by omega) (by omega) a
    rw [win4] at a'
    rw [win_at _ _ _ (by omega), show ((i : Int) + (5 : Nat) - 4) = ((i + 1 : Nat) : Int) by omega] at b
    rcases Nat.lt_or_ge (i + 1) T with h | h
    · exact L.no (i + 1) (by omega) h b
    · have e : i + 1 = T := by omega
      have hT : T < s.size := by
        rcases Nat.lt_or_eq_of_le hs with h | h
        · exact h
        · rw [e, bt_big s (by omega)] at b; omega
      have hNl : N < nlF s := by
        rcases Nat.lt_or_eq_of_le hN with h | h
        · exact h
        · have := L.last h; omega
      obtain ⟨-, -, c⟩ := L.next hNl
      rcases c with ⟨c1, c2, c3⟩ | ⟨c1, c2, c3⟩
      · have := c3 (by omega)
        rw [show T - 1 = i by omega] at this
        omega
      · rw [e] at b; omega
  rw [if_neg hneg]
  refine cells_pos fun hc => hno ?_
  have := dec4_ch (x := 10) (by omega) (by omega) hc
  rw [win4] at this; omega
theorem LineAt.nl_cells (L : LineAt s N F T) (hN : N < nlF s) : clW s T = 0 := by
  obtain ⟨a, -, c⟩ := L.next hN
  rw [clW_win s a (clB_bound a L.bT)]
  unfold cW
  rcases c with ⟨c1, c2, c3⟩ | ⟨c1, c2, c3⟩
  · rw [win4_low s (by omega), c1, if_neg (by omega)]; exact cellsF10
  · rw [win4_low s (by omega), c1, win_at _ _ _ (by omega), show ((T : Int) + (5 : Nat) - 4) = ((T + 1 : Nat) : Int) by omega, c2, if_pos ⟨rfl, rfl⟩]
end
/-- The cells of one cluster, cut out. -/
theorem cells_cut {s : ByteArray} {i : Nat} (hb : clB s i = true) (h : i < s.size) : sumW (s.extract i (clN s i)) (clAts (s.extract i (clN s i)) 0) = clW s i := by
  have hg := clN_gt h
  have hl := clN_le s i
  have hz := piece_size s hl (F := i)
  have hc := (cuts_piece s (F := i) (T := clN s i) (by omega) hl hb (next_clB hb h) (clN s i - i) (by omega)).2
  rw [cuts_all, hz, hc]
  unfold cellsOf
  rw [cuts_one hb h]
  simp [sumW]
theorem cells_bound (s : ByteArray) (F n : Nat) : 0 ≤ cellsOf s F n ∧ cellsOf s F n ≤ 2 * n := by
  unfold cellsOf
  have := sumW_bounds s (cutsOf s F n)
  have : (cutsOf s F n).length ≤ n := by unfold cutsOf; refine Nat.le_trans (List.length_filter_le _ _) ?_; rw [List.length_range']; exact Nat.le_refl _
  omega
end Go.Proofs.YtgmpohdkignadaaGreatDoor.Ut
