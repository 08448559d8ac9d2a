/-
  What the proof of the row LinesKeeps rests on: the texts LwK. Conditions: each theorem names its own.
-/
import Derived.Test.YtgmpohdkignadaaGreatDoorMgLj
import Derived.Test.YtgmpohdkignadaaGreatDoorMgLg
import Derived.Test.YtgmpohdkignadaaGreatDoorMgLinesKeepsa
/-
  store.Backend, store.Counts; the law LinesKeeps, walked. Condition: the two tables of unicode/utf8 lie as laid.
-/
namespace Go.Proofs.YtgmpohdkignadaaGreatDoor.Ut
open Go.RowKit Go.Proofs.YtgmpohdkignadaaGreatDoor.Reg Go.ChangeShapes Go.WideShapes Go.ChangeAt Go.Deep Go.Joins Go.Proofs.YtgmpohdkignadaaGreatDoor.Row
set_option linter.unusedVariables false
set_option linter.unusedSimpArgs false

theorem ta_gap (p : Option Addr) (w : World) : (Instr.typeAssert (.iface 57 (.pointer p)) 28 94 true).run Tryz.prog w = .ok (.tuple #[.pointer none, .bool false]) w := by
  kernel_rfl
theorem ta_rope (p : Option Addr) (w : World) : (Instr.typeAssert (.iface 94 (.pointer p)) 28 94 true).run Tryz.prog w = .ok (.tuple #[.pointer p, .bool true]) w := by
  kernel_rfl
theorem eq_fn (f : Fn) (a b : Array Value) (w : World) : (binOp .eql 68 (.func f a b) .nilFunc).run Tryz.prog w = .ok (.bool false) w := by
  kernel_rfl
def backK (T : TypeId) : Int := if T = 94 then 2 else 1
set_option maxRecDepth 100000 in
theorem StBackend_any {W : World} {b : Nat} {i : StI} {T : TypeId} {s : ByteArray} (h : IsStore W b i T s) : Calls Tryz.prog 29 #[.pointer (some ⟨b, 0, none⟩)] W fun e w' => e = .returned (.int .i64 (backK T)) ∧ Below W.heap.size W w' := by
  obtain ⟨p, h1, h2⟩ := h
  have HL := Lib.hid h1.lies
  have hT : T = 57 ∨ T = 94 := h2.imp (fun h => h.1) (fun h => h.1)
  clear h1 h2
  have t1 := ta_gap (some ⟨p, 0, none⟩)
  have t2 := ta_rope (some ⟨p, 0, none⟩)
  unfold ptr at HL
  rcases hT with rfl | rfl
  all_goals
    go_enter Tryz.func29, Tryz.ntmps29
    go_wp2_with fail
    refine (under_any b _ _ _ W HL.out).mono ?_
    rintro e w1 ⟨rfl, rfl⟩
    go_wp2
    go_ret
    exact ⟨rfl, Below.refl _ _⟩
theorem StCounts_any {W : World} {b : Nat} {i : StI} {T : TypeId} {s : ByteArray} (h : IsStore W b i T s) : Calls Tryz.prog 30 #[.pointer (some ⟨b, 0, none⟩)] W fun e w' => e = .returned (.agg #[.int .i64 i.moves, .int .i64 i.forced, .int .i64 i.edited]) ∧ Below W.heap.size W w' := by
  obtain ⟨p, h1, h2⟩ := h
  have hL := h1.lies
  have hbl := hL.1
  have c5 := (hL.2 5 _ rfl).1
  have c6 := (hL.2 6 _ rfl).1
  have c7 := (hL.2 7 _ rfl).1
  clear h1 h2 hL
  go_enter Tryz.func30, Tryz.ntmps30
  go_wp2
  refine bodyPost_ret (v := .agg #[.int .i64 i.moves, .int .i64 i.forced, .int .i64 i.edited]) (by simp [results, Tryz.results30, go_sem]) rfl ⟨rfl, (Below.refl _ _).alloc (Nat.le_refl _) _⟩

def VKp20 (A B b : Nat) (s : ByteArray) (bk m f g : Int) : Nat → Value → World → Prop := fun d x w => match d with
  | 70 => x = .pointer (some ⟨b, 0, none⟩)
  | 71 => x = .string s
  | 72 => x = .pointer (some ⟨A, 0, none⟩)
  | 73 => x = .string s
  | 74 => x = .bool true
  | 75 => x = .bool true
  | 76 => x = .pointer (some ⟨b, 0, none⟩)
  | 77 => x = .int .i64 bk
  | 78 => x = .int .i64 bk
  | 79 => x = .bool true
  | 80 => x = .bool true
  | 81 => x = .bool true
  | 82 => x = .pointer (some ⟨b, 0, none⟩)
  | 83 => x = .agg #[.int .i64 m, .int .i64 f, .int .i64 g]
  | 84 => x = .agg #[.int .i64 m, .int .i64 f, .int .i64 g]
  | 85 => x = .bool true
  | 86 => x = .bool true
  | 6 => x = .bool true
  | _ => True
theorem VKp20_mono (A B b : Nat) (s : ByteArray) (bk m f g : Int) : ∀ d x w w', VKp20 A B b s bk m f g d x w → Below w.heap.size w w' → VKp20 A B b s bk m f g d x w' := by
  exact fun _ _ _ _ h _ => h
theorem KpL.refl (M : World → Nat → Prop) (W : World) : KpL M W W := ⟨Nat.le_refl _, fun _ _ h1 h2 => ⟨h1, h2⟩⟩
theorem ownOk_none : OwnOk (fun _ _ => False) := ⟨fun _ _ _ _ h => h, fun _ _ _ _ _ _ _ h => h, fun _ _ h => h.elim⟩

set_option maxRecDepth 100000 in
set_option maxHeartbeats 4000000 in
theorem law_LinesKeeps (s : ByteArray) (k n l c : Int) (w : World) (hT : Tabs w) (hs : s.size ≤ 140737488355328) :
    Calls Tryz.prog 9 #[.agg #[.string s, .int .i64 k], .int .i64 n, .agg #[.int .i64 l, .int .i64 c]] w fun e w' => e = .returned (.bool true) ∧ Below w.heap.size w w' := by
  obtain ⟨W0, hW0, A0, A1, b0, hsz⟩ := boxesL2 w [.string s, .int .i64 k] [.int .i64 l, .int .i64 c] 23 37
  have HE := Lib.hid hW0
  have HA := Lib.hid A0
  have HC := Lib.hid A1
  have HB := Lib.hid b0
  have HT := Lib.hid (tabs_below hT b0)
  clear hW0 A0 A1 b0 hsz hT
  by_cases hbig : 1073741822 < s.size
  · go_enter Tryz.func9, Tryz.ntmps9
    go_wp2_with fail
    rw [HE.out]
    refine (awake_any W0 HT.out).mono ?_
    rintro e w1 ⟨rfl, hb⟩
    have HA := Lib.hid (HA.out.below hb)
    have HT := Lib.hid (tabs_below HT.out hb)
    have HB := Lib.hid (HB.out.trans (hb.mono HB.out.size))
    clear hb
    have a0 := (HA.out.2 0 _ rfl).1
    have hb1 : (1073741822 : Int) < (s.size : Int) := by omega
    go_wp2
    go_ret
    exact ⟨rfl, HB.out⟩
  · refine (callsIn_wide (n := 3)).1 ?_
    refine callsIn_of_wp_marks Tryz.func9 rfl trivial ?_ rfl
    simp only [Tryz.ntmps9, List.size_toArray, List.length_cons, List.length_nil, Nat.reduceAdd, Nat.reduceSub, Array.replicate_succ, Array.replicate_zero, List.push_toArray, List.append_toArray, List.nil_append, List.cons_append]
    refine wpIn_wide.2 ?_
    go_wp2_with fail
    rw [HE.out]
    refine (awake_any W0 HT.out).mono ?_
    rintro e w1 ⟨rfl, hb⟩
    have HA := Lib.hid (HA.out.below hb)
    have HC := Lib.hid (HC.out.below hb)
    have HT := Lib.hid (tabs_below HT.out hb)
    have HB := Lib.hid (HB.out.trans (hb.mono HB.out.size))
    clear hb
    have a0 := (HA.out.2 0 _ rfl).1
    have a1 := (HA.out.2 1 _ rfl).1
    have hb1 : ¬ (1073741822 : Int) < (s.size : Int) := by omega
    have hs2 : s.size ≤ 1073741824 := by omega
    go_wp2_with fail
    refine (StNew_any k 8 40 1073741824 s w1 HT.out (by omega) hs2).mono ?_
    rintro e w2 ⟨b, i, T, rfl, hG, -, hb⟩
    have HG := Lib.hid hG
    have HA := Lib.hid (HA.out.below hb)
    have HC := Lib.hid (HC.out.below hb)
    have HT := Lib.hid (tabs_below HT.out hb)
    have HB := Lib.hid (HB.out.trans (hb.mono HB.out.size))
    clear hb
    clear hG a0 a1 hbig hb1
    unfold ptr
    go_wp2_with fail
    refine (StBackend_any HG.out).mono ?_
    rintro e w3 ⟨rfl, hb⟩
    have HA := Lib.hid (HA.out.below hb)
    have HC := Lib.hid (HC.out.below hb)
    have HG := Lib.hid (HG.out.below hb)
    have HT := Lib.hid (tabs_below HT.out hb)
    have HB := Lib.hid (HB.out.trans (hb.mono HB.out.size))
    clear hb
    go_wp2_with fail
    refine (StCounts_any HG.out).mono ?_
    rintro e w4 ⟨rfl, hb⟩
    have HA := Lib.hid (HA.out.below hb)
    have HC := Lib.hid (HC.out.below hb)
    have HG := Lib.hid (HG.out.below hb)
    have HT := Lib.hid (tabs_below HT.out hb)
    have HB := Lib.hid (HB.out.trans (hb.mono HB.out.size))
    clear hb
    obtain ⟨w5, hw5, S5, b5, hs5⟩ := boxL1 w4 [.int .i64 i.moves, .int .i64 i.forced, .int .i64 i.edited] 65
    have HE5 := Lib.hid hw5
    have HS5 := Lib.hid S5
    clear hw5 S5 hs5
    have HA := Lib.hid (HA.out.below b5)
    have HC := Lib.hid (HC.out.below b5)
    have HG := Lib.hid (HG.out.below b5)
    have HT := Lib.hid (tabs_below HT.out b5)
    have HB := Lib.hid (HB.out.trans (b5.mono HB.out.size))
    clear b5
    have HX := Lib.hid (text56 (HG.out.has HT.out hs2))
    go_wp2_with fail
    rw [HE5.out]
    refine (LnCount_any _ s w5 HX.out).mono ?_
    rintro e w6 ⟨rfl, hb⟩
    have HA := Lib.hid (HA.out.below hb)
    have HC := Lib.hid (HC.out.below hb)
    have HG := Lib.hid (HG.out.below hb)
    have HS5 := Lib.hid (HS5.out.below hb)
    have HX := Lib.hid (HX.out.below hb)
    have HT := Lib.hid (tabs_below HT.out hb)
    have HB := Lib.hid (HB.out.trans (hb.mono HB.out.size))
    clear hb
    go_wp2_with fail
    refine (LnOf_all _ s n w6 HX.out).mono ?_
    rintro e w7 ⟨rfl, hb⟩
    have HA := Lib.hid (HA.out.below hb)
    have HC := Lib.hid (HC.out.below hb)
    have HG := Lib.hid (HG.out.below hb)
    have HS5 := Lib.hid (HS5.out.below hb)
    have HX := Lib.hid (HX.out.below hb)
    have HT := Lib.hid (tabs_below HT.out hb)
    have HB := Lib.hid (HB.out.trans (hb.mono HB.out.size))
    clear hb
    go_wp2_with fail
    refine (LnSpan_all _ s n w7 HX.out).mono ?_
    rintro e w8 ⟨rfl, hb⟩
    have HA := Lib.hid (HA.out.below hb)
    have HC := Lib.hid (HC.out.below hb)
    have HG := Lib.hid (HG.out.below hb)
    have HS5 := Lib.hid (HS5.out.below hb)
    have HX := Lib.hid (HX.out.below hb)
    have HT := Lib.hid (tabs_below HT.out hb)
    have HB := Lib.hid (HB.out.trans (hb.mono HB.out.size))
    clear hb
    go_wp2_with fail
    refine (LnLine_all _ s n w8 HX.out).mono ?_
    rintro e w9 ⟨rfl, hb⟩
    have HA := Lib.hid (HA.out.below hb)
    have HC := Lib.hid (HC.out.below hb)
    have HG := Lib.hid (HG.out.below hb)
    have HS5 := Lib.hid (HS5.out.below hb)
    have HX := Lib.hid (HX.out.below hb)
    have HT := Lib.hid (tabs_below HT.out hb)
    have HB := Lib.hid (HB.out.trans (hb.mono HB.out.size))
    clear hb
    go_wp2_with fail
    refine (LnColumn_all _ s n w9 HX.out HT.out).mono ?_
    rintro e w10 ⟨rfl, hb⟩
    have HA := Lib.hid (HA.out.below hb)
    have HC := Lib.hid (HC.out.below hb)
    have HG := Lib.hid (HG.out.below hb)
    have HS5 := Lib.hid (HS5.out.below hb)
    have HX := Lib.hid (HX.out.below hb)
    have HT := Lib.hid (tabs_below HT.out hb)
    have HB := Lib.hid (HB.out.trans (hb.mono HB.out.size))
    clear hb
    have c0 := (HC.out.2 0 _ rfl).1
    have c1 := (HC.out.2 1 _ rfl).1
    go_wp2_with fail
    refine (LnAt_all _ s l c w10 HX.out HT.out).mono ?_
    rintro e w11 ⟨rfl, hb⟩
    have HA := Lib.hid (HA.out.below hb)
    have HG := Lib.hid (HG.out.below hb)
    have HS5 := Lib.hid (HS5.out.below hb)
    have HX := Lib.hid (HX.out.below hb)
    have HT := Lib.hid (tabs_below HT.out hb)
    have HB := Lib.hid (HB.out.trans (hb.mono HB.out.size))
    clear hb
    clear c0 c1
    have hfn := eq_fn (.func 48) #[] #[.pointer (some ⟨w11.heap.size, 0, none⟩)]
    go_wp2_with fail
    refine (LnLines_any _ w11 (.inr ⟨_, _, rfl⟩)).mono ?_
    rintro e w12 ⟨rfl, rfl⟩
    have X12 := Boxed.new w11 28 (.iface 56 (.pointer (some ⟨b, 0, none⟩)))
    have b12 : Below w11.heap.size w11 (w11.alloc (.cells #[.iface 56 (.pointer (some ⟨b, 0, none⟩))] 28)) := (Below.refl _ _).alloc (Nat.le_refl _) _
    go_wp2_with fail
    generalize w11.alloc (.cells #[.iface 56 (.pointer (some ⟨b, 0, none⟩))] 28) = w12 at *
    generalize w11.heap.size = bx at X12 ⊢
    have HX12 := Lib.hid X12
    have HXb := Lib.hid X12.cell
    have HA := Lib.hid (HA.out.below b12)
    have HG := Lib.hid (HG.out.below b12)
    have HS5 := Lib.hid (HS5.out.below b12)
    have HX := Lib.hid (HX.out.below b12)
    have HT := Lib.hid (tabs_below HT.out b12)
    have HB := Lib.hid (HB.out.trans (b12.mono HB.out.size))
    clear b12
    clear X12
    refine (wpIn_wide (n := 3)).1 ?_
    refine wpIn_rangeFunc_ownH rfl (by omega) (gf := 48) (lb := #[.pointer (some ⟨bx, 0, none⟩)]) rfl trivial (enters_of Tryz.func48 (by kernel_rfl) rfl)
      (lines_stops _ (by omega) bx _ s w12 w12 HX.out (Below.refl _ _) HXb.out (fun _ _ => False) ownOk_none) KpL.trans (kpL_b ownOk_none) (Below.refl _ _) (fun _ => rfl)
      (fun pre W => pre = [] ∧ Below w12.heap.size w12 W) (fun c pre W => c = .exit 0 ∧ Below w12.heap.size w12 W)
      (OwnFrom.and (ownFrom_pure _ _) (ownFrom_below (Nat.le_refl _) (Nat.le_refl _))) ?hIx ⟨rfl, Below.refl _ _⟩ (fun _ _ _ => True) (fun _ _ _ _ _ _ _ _ _ => trivial) ?assign ?body ?done ?stop
    case hIx =>
      rintro c pre W W' row ⟨rfl, hB⟩ hg hr
      exact ⟨rfl, ownFrom_below (β := Unit) (Nat.le_refl _) (Nat.le_refl _) () W W' row hB hg hr⟩
    case assign =>
      intro l pre x W K hI hK
      gi_wp2
      exact hK _ _ (KeepsFrom.refl _ _) (KpL.refl _ _) hI trivial
    case body =>
      rintro l pre x a' W hl hr ⟨-, hI⟩ _ hlt
      gi_wp2
      exact ⟨KeepsFrom.refl _ _, rfl, hI⟩
    case done =>
      rintro D xs W hD rfl ⟨h1, -⟩ hK
      rw [List.range_succ] at h1
      simp at h1
    case stop =>
      rintro D c pre W hD hpx ⟨rfl, hb⟩ hK
      have HKd := Lib.hid hK
      have hwD : w.heap.size ≤ D := Nat.le_trans HB.out.size hD
      have hDl : D < W.heap.size := (Array.getElem?_eq_some_iff.1 hK).1
      have HA := Lib.hid (HA.out.below hb)
      have HG := Lib.hid (HG.out.below hb)
      have HS5 := Lib.hid (HS5.out.below hb)
      have HT := Lib.hid (tabs_below HT.out hb)
      have HB := Lib.hid (HB.out.trans (hb.mono HB.out.size))
      clear hb
      clear hK HX HXb hfn
      gi_wp2
      go_wp2
      have lA := HA.out.1
      refine wp_held' mixed (VKp20 w.heap.size w4.heap.size b s (backK T) i.moves i.forced i.edited) (VKp20_mono _ _ _ _ _ _ _ _) (by kernel_rfl) [70, 71, 72, 73, 74, 75, 76, 77, 78, 79, 80, 81, 82, 83, 84, 85, 86, 6] (by kernel_rfl) (by kernel_rfl) ?_ ?_
      · intro j hj
        have hj' : j < 18 := hj
        rcases (by omega : j = 0 ∨ j = 1 ∨ j = 2 ∨ j = 3 ∨ j = 4 ∨ j = 5 ∨ j = 6 ∨ j = 7 ∨ j = 8 ∨ j = 9 ∨ j = 10 ∨ j = 11 ∨ j = 12 ∨ j = 13 ∨ j = 14 ∨ j = 15 ∨ j = 16 ∨ j = 17) with rfl | rfl | rfl | rfl | rfl | rfl | rfl | rfl | rfl | rfl | rfl | rfl | rfl | rfl | rfl | rfl | rfl | rfl
        · -- operation 0
          (refine owes_val (L := [(7, false)]) rfl rfl rfl (by kernel_rfl) ?_; intro a' w' hb' hfacts; obtain ⟨hf7, -⟩ := hfacts; replace hf7 : a'.tmps[7]?.getD undef = .pointer (some ⟨b, 0, none⟩) := hf7)
          have pA := ((HA.out.below hb').2 0 _ rfl).1; have q0 := ((HS5.out.below hb').2 0 _ rfl).1; have q1 := ((HS5.out.below hb').2 1 _ rfl).1; have q2 := ((HS5.out.below hb').2 2 _ rfl).1
          (go_simp; first | exact ⟨_, rfl, Below.refl _ _, rfl⟩ | exact ⟨_, rfl, Below.refl _ _, trivial⟩ | exact ⟨_, rfl, (Below.refl _ _).alloc (Nat.le_refl _) _, trivial⟩ | exact ⟨_, rfl, Below.refl _ _, congrArg (Value.int _) (IntWalk.i64_in _ (by omega))⟩)
        · -- operation 1
          (refine owes_val (L := [(70, true)]) rfl rfl rfl (by kernel_rfl) ?_; intro a' w' hb' hfacts; obtain ⟨hf70, -⟩ := hfacts; try simp only [VKp20] at hf70)
          go_simp
          refine (StText_any ((HG.out.below hb').has (tabs_below HT.out hb') hs2)).mono ?_
          rintro e w3 ⟨rfl, hb3⟩
          exact ⟨_, rfl, hb3, rfl⟩
        · -- operation 2
          (refine owes_val (L := [(3, false)]) rfl rfl rfl (by kernel_rfl) ?_; intro a' w' hb' hfacts; obtain ⟨hf3, -⟩ := hfacts; replace hf3 : a'.tmps[3]?.getD undef = .pointer (some ⟨w.heap.size, 0, none⟩) := hf3)
          have pA := ((HA.out.below hb').2 0 _ rfl).1; have q0 := ((HS5.out.below hb').2 0 _ rfl).1; have q1 := ((HS5.out.below hb').2 1 _ rfl).1; have q2 := ((HS5.out.below hb').2 2 _ rfl).1
          (go_simp; first | exact ⟨_, rfl, Below.refl _ _, rfl⟩ | exact ⟨_, rfl, Below.refl _ _, trivial⟩ | exact ⟨_, rfl, (Below.refl _ _).alloc (Nat.le_refl _) _, trivial⟩ | exact ⟨_, rfl, Below.refl _ _, congrArg (Value.int _) (IntWalk.i64_in _ (by omega))⟩)
        · -- operation 3
          (refine owes_val (L := [(72, true)]) rfl rfl rfl (by kernel_rfl) ?_; intro a' w' hb' hfacts; obtain ⟨hf72, -⟩ := hfacts; try simp only [VKp20] at hf72)
          have pA := ((HA.out.below hb').2 0 _ rfl).1; have q0 := ((HS5.out.below hb').2 0 _ rfl).1; have q1 := ((HS5.out.below hb').2 1 _ rfl).1; have q2 := ((HS5.out.below hb').2 2 _ rfl).1
          (go_simp; first | exact ⟨_, rfl, Below.refl _ _, rfl⟩ | exact ⟨_, rfl, Below.refl _ _, trivial⟩ | exact ⟨_, rfl, (Below.refl _ _).alloc (Nat.le_refl _) _, trivial⟩ | exact ⟨_, rfl, Below.refl _ _, congrArg (Value.int _) (IntWalk.i64_in _ (by omega))⟩)
        · -- operation 4
          (refine owes_val (L := [(71, true), (73, true)]) rfl rfl rfl (by kernel_rfl) ?_; intro a' w' hb' hfacts; obtain ⟨hf71, hf73, -⟩ := hfacts; try simp only [VKp20] at hf71; try simp only [VKp20] at hf73)
          have pA := ((HA.out.below hb').2 0 _ rfl).1; have q0 := ((HS5.out.below hb').2 0 _ rfl).1; have q1 := ((HS5.out.below hb').2 1 _ rfl).1; have q2 := ((HS5.out.below hb').2 2 _ rfl).1
          (go_simp; first | exact ⟨_, rfl, Below.refl _ _, rfl⟩ | exact ⟨_, rfl, Below.refl _ _, trivial⟩ | exact ⟨_, rfl, (Below.refl _ _).alloc (Nat.le_refl _) _, trivial⟩ | exact ⟨_, rfl, Below.refl _ _, congrArg (Value.int _) (IntWalk.i64_in _ (by omega))⟩)
        · -- operation 5
          (refine owes_val (L := [(74, true)]) rfl rfl rfl (by kernel_rfl) ?_; intro a' w' hb' hfacts; obtain ⟨hf74, -⟩ := hfacts; try simp only [VKp20] at hf74)
          have pA := ((HA.out.below hb').2 0 _ rfl).1; have q0 := ((HS5.out.below hb').2 0 _ rfl).1; have q1 := ((HS5.out.below hb').2 1 _ rfl).1; have q2 := ((HS5.out.below hb').2 2 _ rfl).1
          (go_simp; first | exact ⟨_, rfl, Below.refl _ _, rfl⟩ | exact ⟨_, rfl, Below.refl _ _, trivial⟩ | exact ⟨_, rfl, (Below.refl _ _).alloc (Nat.le_refl _) _, trivial⟩ | exact ⟨_, rfl, Below.refl _ _, congrArg (Value.int _) (IntWalk.i64_in _ (by omega))⟩)
        · -- operation 6
          (refine owes_if (L := [(7, false), (75, true)]) rfl rfl rfl rfl (by kernel_rfl) ?_; intro a' w' hb' hfacts; obtain ⟨hf7, hf75, -⟩ := hfacts; replace hf7 : a'.tmps[7]?.getD undef = .pointer (some ⟨b, 0, none⟩) := hf7; try simp only [VKp20] at hf75)
          have pA := ((HA.out.below hb').2 0 _ rfl).1; have q0 := ((HS5.out.below hb').2 0 _ rfl).1; have q1 := ((HS5.out.below hb').2 1 _ rfl).1; have q2 := ((HS5.out.below hb').2 2 _ rfl).1
          first
            | (go_simp; first | exact ⟨_, rfl, Below.refl _ _, rfl⟩ | exact ⟨_, rfl, Below.refl _ _, trivial⟩ | exact ⟨_, rfl, Below.refl _ _⟩ | exact ⟨_, rfl, (Below.refl _ _).alloc (Nat.le_refl _) _, trivial⟩)
            | (apply Exists.intro
               apply And.intro
               · assumption
               · apply And.intro
                 · intro hc
                   first
                     | (refine absurd hc ?_; simp [undef]; done)
                     | (go_simp; first | exact ⟨_, rfl, Below.refl _ _, rfl⟩ | exact ⟨_, rfl, Below.refl _ _, trivial⟩ | exact ⟨_, rfl, Below.refl _ _⟩ | exact ⟨_, rfl, (Below.refl _ _).alloc (Nat.le_refl _) _, trivial⟩)
                 · intro hc
                   first | exact absurd rfl hc | exact trivial | exact rfl)
            | (apply Exists.intro
               apply And.intro
               · assumption
               · intro hc
                 first
                   | (refine absurd hc ?_; simp [undef]; done)
                   | (go_simp; first | exact ⟨_, rfl, Below.refl _ _, rfl⟩ | exact ⟨_, rfl, Below.refl _ _, trivial⟩ | exact ⟨_, rfl, Below.refl _ _⟩ | exact ⟨_, rfl, (Below.refl _ _).alloc (Nat.le_refl _) _, trivial⟩))
        · -- operation 7
          (refine owes_if (L := [(76, true), (75, true)]) rfl rfl rfl rfl (by kernel_rfl) ?_; intro a' w' hb' hfacts; obtain ⟨hf76, hf75, -⟩ := hfacts; try simp only [VKp20] at hf76; try simp only [VKp20] at hf75)
          refine ⟨_, hf75, fun _ => ?_, fun hc => absurd rfl hc⟩
          go_simp
          refine (StBackend_any (HG.out.below hb')).mono ?_
          rintro e w3 ⟨rfl, hb3⟩
          exact ⟨_, rfl, hb3, rfl⟩
        · -- operation 8
          (refine owes_if (L := [(9, false), (75, true)]) rfl rfl rfl rfl (by kernel_rfl) ?_; intro a' w' hb' hfacts; obtain ⟨hf9, hf75, -⟩ := hfacts; replace hf9 : a'.tmps[9]?.getD undef = .int .i64 (backK T) := hf9; try simp only [VKp20] at hf75)
          have pA := ((HA.out.below hb').2 0 _ rfl).1; have q0 := ((HS5.out.below hb').2 0 _ rfl).1; have q1 := ((HS5.out.below hb').2 1 _ rfl).1; have q2 := ((HS5.out.below hb').2 2 _ rfl).1
          first
            | (go_simp; first | exact ⟨_, rfl, Below.refl _ _, rfl⟩ | exact ⟨_, rfl, Below.refl _ _, trivial⟩ | exact ⟨_, rfl, Below.refl _ _⟩ | exact ⟨_, rfl, (Below.refl _ _).alloc (Nat.le_refl _) _, trivial⟩)
            | (apply Exists.intro
               apply And.intro
               · assumption
               · apply And.intro
                 · intro hc
                   first
                     | (refine absurd hc ?_; simp [undef]; done)
                     | (go_simp; first | exact ⟨_, rfl, Below.refl _ _, rfl⟩ | exact ⟨_, rfl, Below.refl _ _, trivial⟩ | exact ⟨_, rfl, Below.refl _ _⟩ | exact ⟨_, rfl, (Below.refl _ _).alloc (Nat.le_refl _) _, trivial⟩)
                 · intro hc
                   first | exact absurd rfl hc | exact trivial | exact rfl)
            | (apply Exists.intro
               apply And.intro
               · assumption
               · intro hc
                 first
                   | (refine absurd hc ?_; simp [undef]; done)
                   | (go_simp; first | exact ⟨_, rfl, Below.refl _ _, rfl⟩ | exact ⟨_, rfl, Below.refl _ _, trivial⟩ | exact ⟨_, rfl, Below.refl _ _⟩ | exact ⟨_, rfl, (Below.refl _ _).alloc (Nat.le_refl _) _, trivial⟩))
        · -- operation 9
          (refine owes_if (L := [(77, true), (78, true), (75, true)]) rfl rfl rfl rfl (by kernel_rfl) ?_; intro a' w' hb' hfacts; obtain ⟨hf77, hf78, hf75, -⟩ := hfacts; try simp only [VKp20] at hf77; try simp only [VKp20] at hf78; try simp only [VKp20] at hf75)
          have pA := ((HA.out.below hb').2 0 _ rfl).1; have q0 := ((HS5.out.below hb').2 0 _ rfl).1; have q1 := ((HS5.out.below hb').2 1 _ rfl).1; have q2 := ((HS5.out.below hb').2 2 _ rfl).1
          first
            | (go_simp; first | exact ⟨_, rfl, Below.refl _ _, rfl⟩ | exact ⟨_, rfl, Below.refl _ _, trivial⟩ | exact ⟨_, rfl, Below.refl _ _⟩ | exact ⟨_, rfl, (Below.refl _ _).alloc (Nat.le_refl _) _, trivial⟩)
            | (apply Exists.intro
               apply And.intro
               · assumption
               · apply And.intro
                 · intro hc
                   first
                     | (refine absurd hc ?_; simp [undef]; done)
                     | (go_simp; first | exact ⟨_, rfl, Below.refl _ _, rfl⟩ | exact ⟨_, rfl, Below.refl _ _, trivial⟩ | exact ⟨_, rfl, Below.refl _ _⟩ | exact ⟨_, rfl, (Below.refl _ _).alloc (Nat.le_refl _) _, trivial⟩)
                 · intro hc
                   first | exact absurd rfl hc | exact trivial | exact rfl)
            | (apply Exists.intro
               apply And.intro
               · assumption
               · intro hc
                 first
                   | (refine absurd hc ?_; simp [undef]; done)
                   | (go_simp; first | exact ⟨_, rfl, Below.refl _ _, rfl⟩ | exact ⟨_, rfl, Below.refl _ _, trivial⟩ | exact ⟨_, rfl, Below.refl _ _⟩ | exact ⟨_, rfl, (Below.refl _ _).alloc (Nat.le_refl _) _, trivial⟩))
        · -- operation 10
          (refine owes_val (L := [(75, true), (79, true)]) rfl rfl rfl (by kernel_rfl) ?_; intro a' w' hb' hfacts; obtain ⟨hf75, hf79, -⟩ := hfacts; try simp only [VKp20] at hf75; try simp only [VKp20] at hf79)
          have pA := ((HA.out.below hb').2 0 _ rfl).1; have q0 := ((HS5.out.below hb').2 0 _ rfl).1; have q1 := ((HS5.out.below hb').2 1 _ rfl).1; have q2 := ((HS5.out.below hb').2 2 _ rfl).1
          (go_simp; first | exact ⟨_, rfl, Below.refl _ _, rfl⟩ | exact ⟨_, rfl, Below.refl _ _, trivial⟩ | exact ⟨_, rfl, (Below.refl _ _).alloc (Nat.le_refl _) _, trivial⟩ | exact ⟨_, rfl, Below.refl _ _, congrArg (Value.int _) (IntWalk.i64_in _ (by omega))⟩)
        · -- operation 11
          (refine owes_val (L := [(80, true)]) rfl rfl rfl (by kernel_rfl) ?_; intro a' w' hb' hfacts; obtain ⟨hf80, -⟩ := hfacts; try simp only [VKp20] at hf80)
          have pA := ((HA.out.below hb').2 0 _ rfl).1; have q0 := ((HS5.out.below hb').2 0 _ rfl).1; have q1 := ((HS5.out.below hb').2 1 _ rfl).1; have q2 := ((HS5.out.below hb').2 2 _ rfl).1
          (go_simp; first | exact ⟨_, rfl, Below.refl _ _, rfl⟩ | exact ⟨_, rfl, Below.refl _ _, trivial⟩ | exact ⟨_, rfl, (Below.refl _ _).alloc (Nat.le_refl _) _, trivial⟩ | exact ⟨_, rfl, Below.refl _ _, congrArg (Value.int _) (IntWalk.i64_in _ (by omega))⟩)
        · -- operation 12
          (refine owes_if (L := [(7, false), (81, true)]) rfl rfl rfl rfl (by kernel_rfl) ?_; intro a' w' hb' hfacts; obtain ⟨hf7, hf81, -⟩ := hfacts; replace hf7 : a'.tmps[7]?.getD undef = .pointer (some ⟨b, 0, none⟩) := hf7; try simp only [VKp20] at hf81)
          have pA := ((HA.out.below hb').2 0 _ rfl).1; have q0 := ((HS5.out.below hb').2 0 _ rfl).1; have q1 := ((HS5.out.below hb').2 1 _ rfl).1; have q2 := ((HS5.out.below hb').2 2 _ rfl).1
          first
            | (go_simp; first | exact ⟨_, rfl, Below.refl _ _, rfl⟩ | exact ⟨_, rfl, Below.refl _ _, trivial⟩ | exact ⟨_, rfl, Below.refl _ _⟩ | exact ⟨_, rfl, (Below.refl _ _).alloc (Nat.le_refl _) _, trivial⟩)
            | (apply Exists.intro
               apply And.intro
               · assumption
               · apply And.intro
                 · intro hc
                   first
                     | (refine absurd hc ?_; simp [undef]; done)
                     | (go_simp; first | exact ⟨_, rfl, Below.refl _ _, rfl⟩ | exact ⟨_, rfl, Below.refl _ _, trivial⟩ | exact ⟨_, rfl, Below.refl _ _⟩ | exact ⟨_, rfl, (Below.refl _ _).alloc (Nat.le_refl _) _, trivial⟩)
                 · intro hc
                   first | exact absurd rfl hc | exact trivial | exact rfl)
            | (apply Exists.intro
               apply And.intro
               · assumption
               · intro hc
                 first
                   | (refine absurd hc ?_; simp [undef]; done)
                   | (go_simp; first | exact ⟨_, rfl, Below.refl _ _, rfl⟩ | exact ⟨_, rfl, Below.refl _ _, trivial⟩ | exact ⟨_, rfl, Below.refl _ _⟩ | exact ⟨_, rfl, (Below.refl _ _).alloc (Nat.le_refl _) _, trivial⟩))
        · -- operation 13
          (refine owes_if (L := [(82, true), (81, true)]) rfl rfl rfl rfl (by kernel_rfl) ?_; intro a' w' hb' hfacts; obtain ⟨hf82, hf81, -⟩ := hfacts; try simp only [VKp20] at hf82; try simp only [VKp20] at hf81)
          refine ⟨_, hf81, fun _ => ?_, fun hc => absurd rfl hc⟩
          go_simp
          refine (StCounts_any (HG.out.below hb')).mono ?_
          rintro e w3 ⟨rfl, hb3⟩
          exact ⟨_, rfl, hb3, rfl⟩
        · -- operation 14
          (refine owes_if (L := [(10, false), (81, true)]) rfl rfl rfl rfl (by kernel_rfl) ?_; intro a' w' hb' hfacts; obtain ⟨hf10, hf81, -⟩ := hfacts; replace hf10 : a'.tmps[10]?.getD undef = .pointer (some ⟨w4.heap.size, 0, none⟩) := hf10; try simp only [VKp20] at hf81)
          have pA := ((HA.out.below hb').2 0 _ rfl).1; have q0 := ((HS5.out.below hb').2 0 _ rfl).1; have q1 := ((HS5.out.below hb').2 1 _ rfl).1; have q2 := ((HS5.out.below hb').2 2 _ rfl).1
          first
            | (go_simp; first | exact ⟨_, rfl, Below.refl _ _, rfl⟩ | exact ⟨_, rfl, Below.refl _ _, trivial⟩ | exact ⟨_, rfl, Below.refl _ _⟩ | exact ⟨_, rfl, (Below.refl _ _).alloc (Nat.le_refl _) _, trivial⟩)
            | (apply Exists.intro
               apply And.intro
               · assumption
               · apply And.intro
                 · intro hc
                   first
                     | (refine absurd hc ?_; simp [undef]; done)
                     | (go_simp; first | exact ⟨_, rfl, Below.refl _ _, rfl⟩ | exact ⟨_, rfl, Below.refl _ _, trivial⟩ | exact ⟨_, rfl, Below.refl _ _⟩ | exact ⟨_, rfl, (Below.refl _ _).alloc (Nat.le_refl _) _, trivial⟩)
                 · intro hc
                   first | exact absurd rfl hc | exact trivial | exact rfl)
            | (apply Exists.intro
               apply And.intro
               · assumption
               · intro hc
                 first
                   | (refine absurd hc ?_; simp [undef]; done)
                   | (go_simp; first | exact ⟨_, rfl, Below.refl _ _, rfl⟩ | exact ⟨_, rfl, Below.refl _ _, trivial⟩ | exact ⟨_, rfl, Below.refl _ _⟩ | exact ⟨_, rfl, (Below.refl _ _).alloc (Nat.le_refl _) _, trivial⟩))
        · -- operation 15
          (refine owes_if (L := [(83, true), (84, true), (81, true)]) rfl rfl rfl rfl (by kernel_rfl) ?_; intro a' w' hb' hfacts; obtain ⟨hf83, hf84, hf81, -⟩ := hfacts; try simp only [VKp20] at hf83; try simp only [VKp20] at hf84; try simp only [VKp20] at hf81)
          have pA := ((HA.out.below hb').2 0 _ rfl).1; have q0 := ((HS5.out.below hb').2 0 _ rfl).1; have q1 := ((HS5.out.below hb').2 1 _ rfl).1; have q2 := ((HS5.out.below hb').2 2 _ rfl).1
          first
            | (go_simp; first | exact ⟨_, rfl, Below.refl _ _, rfl⟩ | exact ⟨_, rfl, Below.refl _ _, trivial⟩ | exact ⟨_, rfl, Below.refl _ _⟩ | exact ⟨_, rfl, (Below.refl _ _).alloc (Nat.le_refl _) _, trivial⟩)
            | (apply Exists.intro
               apply And.intro
               · assumption
               · apply And.intro
                 · intro hc
                   first
                     | (refine absurd hc ?_; simp [undef]; done)
                     | (go_simp; first | exact ⟨_, rfl, Below.refl _ _, rfl⟩ | exact ⟨_, rfl, Below.refl _ _, trivial⟩ | exact ⟨_, rfl, Below.refl _ _⟩ | exact ⟨_, rfl, (Below.refl _ _).alloc (Nat.le_refl _) _, trivial⟩)
                 · intro hc
                   first | exact absurd rfl hc | exact trivial | exact rfl)
            | (apply Exists.intro
               apply And.intro
               · assumption
               · intro hc
                 first
                   | (refine absurd hc ?_; simp [undef]; done)
                   | (go_simp; first | exact ⟨_, rfl, Below.refl _ _, rfl⟩ | exact ⟨_, rfl, Below.refl _ _, trivial⟩ | exact ⟨_, rfl, Below.refl _ _⟩ | exact ⟨_, rfl, (Below.refl _ _).alloc (Nat.le_refl _) _, trivial⟩))
        · -- operation 16
          (refine owes_val (L := [(81, true), (85, true)]) rfl rfl rfl (by kernel_rfl) ?_; intro a' w' hb' hfacts; obtain ⟨hf81, hf85, -⟩ := hfacts; try simp only [VKp20] at hf81; try simp only [VKp20] at hf85)
          have pA := ((HA.out.below hb').2 0 _ rfl).1; have q0 := ((HS5.out.below hb').2 0 _ rfl).1; have q1 := ((HS5.out.below hb').2 1 _ rfl).1; have q2 := ((HS5.out.below hb').2 2 _ rfl).1
          (go_simp; first | exact ⟨_, rfl, Below.refl _ _, rfl⟩ | exact ⟨_, rfl, Below.refl _ _, trivial⟩ | exact ⟨_, rfl, (Below.refl _ _).alloc (Nat.le_refl _) _, trivial⟩ | exact ⟨_, rfl, Below.refl _ _, congrArg (Value.int _) (IntWalk.i64_in _ (by omega))⟩)
        · -- operation 17
          (refine owes_val (L := [(86, true)]) rfl rfl rfl (by kernel_rfl) ?_; intro a' w' hb' hfacts; obtain ⟨hf86, -⟩ := hfacts; try simp only [VKp20] at hf86)
          have pA := ((HA.out.below hb').2 0 _ rfl).1; have q0 := ((HS5.out.below hb').2 0 _ rfl).1; have q1 := ((HS5.out.below hb').2 1 _ rfl).1; have q2 := ((HS5.out.below hb').2 2 _ rfl).1
          (go_simp; first | exact ⟨_, rfl, Below.refl _ _, rfl⟩ | exact ⟨_, rfl, Below.refl _ _, trivial⟩ | exact ⟨_, rfl, (Below.refl _ _).alloc (Nat.le_refl _) _, trivial⟩ | exact ⟨_, rfl, Below.refl _ _, congrArg (Value.int _) (IntWalk.i64_in _ (by omega))⟩)
      · intro f W9 hf hb3
        have f86 : f 86 = .bool true := hf 86 (by decide)
        have f6 : f 6 = .bool true := hf 6 (by decide)
        have hKd2 : W9.heap[D]? = some (.deferred (some [])) := (hb3.block D hDl).trans HKd.out
        have HB := Lib.hid (HB.out.trans (hb3.mono HB.out.size))
        clear hb3
        clear hf lA
        simp only [putAll, put_lit, List.map_cons, List.map_nil, List.set_cons_succ, List.set_cons_zero]
        simp only [f86, f6]
        go_wp2
        refine ⟨by simp, .inl ⟨_, _, rfl, run_takeDeferred hKd2, ?_⟩⟩
        exact ⟨.bool true, by simp [results, Tryz.results9, go_sem], rfl, HB.out.trans (belowK_b (w := w) (Nat.le_refl _) W9 D _ _ hwD hKd2 rfl rfl)⟩

set_option maxRecDepth 100000 in
theorem open_spot {H : Type} {enc : TypeId × Value → H} {W : World} {base : Nat} {v : Value} {d : DataW H} {p : List MemPlace} (o : Value.okWide Tryz.prog W .any base 37 v) (h : DataW.Trod enc Tryz.prog W 0 (fun _ => true) true 37 v d p) :
    ∃ l c : Int, v = .agg #[.int .i64 l, .int .i64 c] := by
  obtain ⟨v0, v1, y0, y1, n, rfl, rfl, -, h0, h1⟩ := open_agg2 Tryz.underlying37 (by kernel_rfl) (by kernel_rfl) o h
  obtain ⟨a, rfl, -⟩ := trod_int1 Tryz.underlying3 h0
  obtain ⟨b, rfl, -⟩ := trod_int1 Tryz.underlying3 h1
  exact ⟨a, b, rfl⟩
set_option maxRecDepth 100000 in
theorem calls_LinesKeeps {H : Type} {enc : TypeId × Value → H} {W : World} {base : Nat} {v0 v1 v2 : Value} {d0 d1 d2 : DataW H} {p0 p1 p2 : List MemPlace} (hL : laidMetH Tryz.prog Rows.linesKeepsRow.laid W)
    (o0 : Value.okWide Tryz.prog W .any base 23 v0) (h0 : DataW.Trod enc Tryz.prog W 0 (fun _ => true) true 23 v0 d0 p0) (w0 : ∀ n ∈ d0.weights Tryz.prog 23, n ≤ reachBytes)
    (o1 : Value.okWide Tryz.prog W .any base 3 v1) (h1 : DataW.Trod enc Tryz.prog W 0 (fun _ => true) true 3 v1 d1 p1) (w1 : ∀ n ∈ d1.weights Tryz.prog 3, n ≤ reachBytes)
    (o2 : Value.okWide Tryz.prog W .any base 37 v2) (h2 : DataW.Trod enc Tryz.prog W 0 (fun _ => true) true 37 v2 d2 p2) (w2 : ∀ n ∈ d2.weights Tryz.prog 37, n ≤ reachBytes) :
    Calls Tryz.prog 9 #[v0, v1, v2] W fun e W' => e = .returned (.bool true) ∧ Below W.heap.size W W' := by
  obtain ⟨s, k, rfl, hs⟩ := open_kept o0 h0 w0
  obtain ⟨x, rfl, rfl, rfl, hx⟩ := open_int Tryz.underlying3 o1 h1
  obtain ⟨l, c, rfl⟩ := open_spot o2 h2
  exact law_LinesKeeps s k x l c W (tabs_of_laid hL) (by unfold reachBytes at hs; omega)
end Go.Proofs.YtgmpohdkignadaaGreatDoor.Ut
