/-
  What the proof of the row LinesWalks rests on: the texts LwK RfB RfN LwN. Conditions: each theorem names its own.
-/
import Derived.Test.YtgmpohdkignadaaGreatDoorMgLj
import Derived.Test.YtgmpohdkignadaaGreatDoorMgLg
import Derived.Test.YtgmpohdkignadaaGreatDoorMgLinesWalksb
import Derived.Test.YtgmpohdkignadaaGreatDoorMgLinesWalksa
import Derived.Test.YtgmpohdkignadaaGreatDoorMgLinesWalksc
/-
  store.Backend, store.Counts; the law LinesKeeps, walked. Condition: the two tables of unicode/utf8 lie as laid.
-/
namespace Go.Proofs.YtgmpohdkignadaaGreatDoor.Ut
open Go.RowKit Go.Proofs.YtgmpohdkignadaaGreatDoor.Reg Go.ChangeShapes Go.WideShapes Go.ChangeAt Go.Deep Go.Joins Go.Proofs.YtgmpohdkignadaaGreatDoor.Row
set_option linter.unusedVariables false
set_option linter.unusedSimpArgs false

theorem ta_gap (p : Option Addr) (w : World) : (Instr.typeAssert (.iface 57 (.pointer p)) 28 94 true).run Tryz.prog w = .ok (.tuple #[.pointer none, .bool false]) w := by
  kernel_rfl
theorem ta_rope (p : Option Addr) (w : World) : (Instr.typeAssert (.iface 94 (.pointer p)) 28 94 true).run Tryz.prog w = .ok (.tuple #[.pointer p, .bool true]) w := by
  kernel_rfl
theorem eq_fn (f : Fn) (a b : Array Value) (w : World) : (binOp .eql 68 (.func f a b) .nilFunc).run Tryz.prog w = .ok (.bool false) w := by
  kernel_rfl
def backK (T : TypeId) : Int := if T = 94 then 2 else 1
set_option maxRecDepth 100000 in
theorem StBackend_any {W : World} {b : Nat} {i : StI} {T : TypeId} {s : ByteArray} (h : IsStore W b i T s) : Calls Tryz.prog 29 #[.pointer (some ⟨b, 0, none⟩)] W fun e w' => e = .returned (.int .i64 (backK T)) ∧ Below W.heap.size W w' := by
  obtain ⟨p, h1, h2⟩ := h
  have HL := Lib.hid h1.lies
  have hT : T = 57 ∨ T = 94 := h2.imp (fun h => h.1) (fun h => h.1)
  clear h1 h2
  have t1 := ta_gap (some ⟨p, 0, none⟩)
  have t2 := ta_rope (some ⟨p, 0, none⟩)
  unfold ptr at HL
  rcases hT with rfl | rfl
  all_goals
    go_enter Tryz.func29, Tryz.ntmps29
    go_wp2_with fail
    refine (under_any b _ _ _ W HL.out).mono ?_
    rintro e w1 ⟨rfl, rfl⟩
    go_wp2
    go_ret
    exact ⟨rfl, Below.refl _ _⟩
theorem StCounts_any {W : World} {b : Nat} {i : StI} {T : TypeId} {s : ByteArray} (h : IsStore W b i T s) : Calls Tryz.prog 30 #[.pointer (some ⟨b, 0, none⟩)] W fun e w' => e = .returned (.agg #[.int .i64 i.moves, .int .i64 i.forced, .int .i64 i.edited]) ∧ Below W.heap.size W w' := by
  obtain ⟨p, h1, h2⟩ := h
  have hL := h1.lies
  have hbl := hL.1
  have c5 := (hL.2 5 _ rfl).1
  have c6 := (hL.2 6 _ rfl).1
  have c7 := (hL.2 7 _ rfl).1
  clear h1 h2 hL
  go_enter Tryz.func30, Tryz.ntmps30
  go_wp2
  refine bodyPost_ret (v := .agg #[.int .i64 i.moves, .int .i64 i.forced, .int .i64 i.edited]) (by simp [results, Tryz.results30, go_sem]) rfl ⟨rfl, (Below.refl _ _).alloc (Nat.le_refl _) _⟩

def VKp20 (A B b : Nat) (s : ByteArray) (bk m f g : Int) : Nat → Value → World → Prop := fun d x w => match d with
  | 70 => x = .pointer (some ⟨b, 0, none⟩)
  | 71 => x = .string s
  | 72 => x = .pointer (some ⟨A, 0, none⟩)
  | 73 => x = .string s
  | 74 => x = .bool true
  | 75 => x = .bool true
  | 76 => x = .pointer (some ⟨b, 0, none⟩)
  | 77 => x = .int .i64 bk
  | 78 => x = .int .i64 bk
  | 79 => x = .bool true
  | 80 => x = .bool true
  | 81 => x = .bool true
  | 82 => x = .pointer (some ⟨b, 0, none⟩)
  | 83 => x = .agg #[.int .i64 m, .int .i64 f, .int .i64 g]
  | 84 => x = .agg #[.int .i64 m, .int .i64 f, .int .i64 g]
  | 85 => x = .bool true
  | 86 => x = .bool true
  | 6 => x = .bool true
  | _ => True
theorem VKp20_mono (A B b : Nat) (s : ByteArray) (bk m f g : Int) : ∀ d x w w', VKp20 A B b s bk m f g d x w → Below w.heap.size w w' → VKp20 A B b s bk m f g d x w' := by
  exact fun _ _ _ _ h _ => h
theorem KpL.refl (M : World → Nat → Prop) (W : World) : KpL M W W := ⟨Nat.le_refl _, fun _ _ h1 h2 => ⟨h1, h2⟩⟩
theorem ownOk_none : OwnOk (fun _ _ => False) := ⟨fun _ _ _ _ h => h, fun _ _ _ _ _ _ _ h => h⟩

set_option maxRecDepth 100000 in
set_option maxHeartbeats 4000000 in
theorem law_LinesKeeps (s : ByteArray) (k n l c : Int) (w : World) (hT : Tabs w) (hs : s.size ≤ 140737488355328) :
    Calls Tryz.prog 9 #[.agg #[.string s, .int .i64 k], .int .i64 n, .agg #[.int .i64 l, .int .i64 c]] w fun e w' => e = .returned (.bool true) ∧ Below w.heap.size w w' := by
  obtain ⟨W0, hW0, A0, A1, b0, hsz⟩ := boxesL2 w [.string s, .int .i64 k] [.int .i64 l, .int .i64 c] 23 37
  have HE := Lib.hid hW0
  have HA := Lib.hid A0
  have HC := Lib.hid A1
  have HB := Lib.hid b0
  have HT := Lib.hid (tabs_below hT b0)
  clear hW0 A0 A1 b0 hsz hT
  by_cases hbig : 1073741822 < s.size
  · go_enter Tryz.func9, Tryz.ntmps9
    go_wp2_with fail
    rw [HE.out]
    refine (awake_any W0 HT.out).mono ?_
    rintro e w1 ⟨rfl, hb⟩
    have HA := Lib.hid (HA.out.below hb)
    have HT := Lib.hid (tabs_below HT.out hb)
    have HB := Lib.hid (HB.out.trans (hb.mono HB.out.size))
    clear hb
    have a0 := (HA.out.2 0 _ rfl).1
    have hb1 : (1073741822 : Int) < (s.size : Int) := by omega
    go_wp2
    go_ret
    exact ⟨rfl, HB.out⟩
  · refine (callsIn_wide (n := 3)).1 ?_
    refine callsIn_of_wp_marks Tryz.func9 rfl trivial ?_ rfl
    simp only [Tryz.ntmps9, List.size_toArray, List.length_cons, List.length_nil, Nat.reduceAdd, Nat.reduceSub, Array.replicate_succ, Array.replicate_zero, List.push_toArray, List.append_toArray, List.nil_append, List.cons_append]
    refine wpIn_wide.2 ?_
    go_wp2_with fail
    rw [HE.out]
    refine (awake_any W0 HT.out).mono ?_
    rintro e w1 ⟨rfl, hb⟩
    have HA := Lib.hid (HA.out.below hb)
    have HC := Lib.hid (HC.out.below hb)
    have HT := Lib.hid (tabs_below HT.out hb)
    have HB := Lib.hid (HB.out.trans (hb.mono HB.out.size))
    clear hb
    have a0 := (HA.out.2 0 _ rfl).1
    have a1 := (HA.out.2 1 _ rfl).1
    have hb1 : ¬ (1073741822 : Int) < (s.size : Int) := by omega
    have hs2 : s.size ≤ 1073741824 := by omega
    go_wp2_with fail
    refine (StNew_any k 8 40 1073741824 s w1 HT.out (by omega) hs2).mono ?_
    rintro e w2 ⟨b, i, T, rfl, hG, -, hb⟩
    have HG := Lib.hid hG
    have HA := Lib.hid (HA.out.below hb)
    have HC := Lib.hid (HC.out.below hb)
    have HT := Lib.hid (tabs_below HT.out hb)
    have HB := Lib.hid (HB.out.trans (hb.mono HB.out.size))
    clear hb
    clear hG a0 a1 hbig hb1
    unfold ptr
    go_wp2_with fail
    refine (StBackend_any HG.out).mono ?_
    rintro e w3 ⟨rfl, hb⟩
    have HA := Lib.hid (HA.out.below hb)
    have HC := Lib.hid (HC.out.below hb)
    have HG := Lib.hid (HG.out.below hb)
    have HT := Lib.hid (tabs_below HT.out hb)
    have HB := Lib.hid (HB.out.trans (hb.mono HB.out.size))
    clear hb
    go_wp2_with fail
    refine (StCounts_any HG.out).mono ?_
    rintro e w4 ⟨rfl, hb⟩
    have HA := Lib.hid (HA.out.below hb)
    have HC := Lib.hid (HC.out.below hb)
    have HG := Lib.hid (HG.out.below hb)
    have HT := Lib.hid (tabs_below HT.out hb)
    have HB := Lib.hid (HB.out.trans (hb.mono HB.out.size))
    clear hb
    obtain ⟨w5, hw5, S5, b5, hs5⟩ := boxL1 w4 [.int .i64 i.moves, .int .i64 i.forced, .int .i64 i.edited] 65
    have HE5 := Lib.hid hw5
    have HS5 := Lib.hid S5
    clear hw5 S5 hs5
    have HA := Lib.hid (HA.out.below b5)
    have HC := Lib.hid (HC.out.below b5)
    have HG := Lib.hid (HG.out.below b5)
    have HT := Lib.hid (tabs_below HT.out b5)
    have HB := Lib.hid (HB.out.trans (b5.mono HB.out.size))
    clear b5
    have HX := Lib.hid (text56 (HG.out.has HT.out hs2))
    go_wp2_with fail
    rw [HE5.out]
    refine (LnCount_any _ s w5 HX.out).mono ?_
    rintro e w6 ⟨rfl, hb⟩
    have HA := Lib.hid (HA.out.below hb)
    have HC := Lib.hid (HC.out.below hb)
    have HG := Lib.hid (HG.out.below hb)
    have HS5 := Lib.hid (HS5.out.below hb)
    have HX := Lib.hid (HX.out.below hb)
    have HT := Lib.hid (tabs_below HT.out hb)
    have HB := Lib.hid (HB.out.trans (hb.mono HB.out.size))
    clear hb
    go_wp2_with fail
    refine (LnOf_all _ s n w6 HX.out).mono ?_
    rintro e w7 ⟨rfl, hb⟩
    have HA := Lib.hid (HA.out.below hb)
    have HC := Lib.hid (HC.out.below hb)
    have HG := Lib.hid (HG.out.below hb)
    have HS5 := Lib.hid (HS5.out.below hb)
    have HX := Lib.hid (HX.out.below hb)
    have HT := Lib.hid (tabs_below HT.out hb)
    have HB := Lib.hid (HB.out.trans (hb.mono HB.out.size))
    clear hb
    go_wp2_with fail
    refine (LnSpan_all _ s n w7 HX.out).mono ?_
    rintro e w8 ⟨rfl, hb⟩
    have HA := Lib.hid (HA.out.below hb)
    have HC := Lib.hid (HC.out.below hb)
    have HG := Lib.hid (HG.out.below hb)
    have HS5 := Lib.hid (HS5.out.below hb)
    have HX := Lib.hid (HX.out.below hb)
    have HT := Lib.hid (tabs_below HT.out hb)
    have HB := Lib.hid (HB.out.trans (hb.mono HB.out.size))
    clear hb
    go_wp2_with fail
    refine (LnLine_all _ s n w8 HX.out).mono ?_
    rintro e w9 ⟨rfl, hb⟩
    have HA := Lib.hid (HA.out.below hb)
    have HC := Lib.hid (HC.out.below hb)
    have HG := Lib.hid (HG.out.below hb)
    have HS5 := Lib.hid (HS5.out.below hb)
    have HX := Lib.hid (HX.out.below hb)
    have HT := Lib.hid (tabs_below HT.out hb)
    have HB := Lib.hid (HB.out.trans (hb.mono HB.out.size))
    clear hb
    go_wp2_with fail
    refine (LnColumn_all _ s n w9 HX.out HT.out).mono ?_
    rintro e w10 ⟨rfl, hb⟩
    have HA := Lib.hid (HA.out.below hb)
    have HC := Lib.hid (HC.out.below hb)
    have HG := Lib.hid (HG.out.below hb)
    have HS5 := Lib.hid (HS5.out.below hb)
    have HX := Lib.hid (HX.out.below hb)
    have HT := Lib.hid (tabs_below HT.out hb)
    have HB := Lib.hid (HB.out.trans (hb.mono HB.out.size))
    clear hb
    have c0 := (HC.out.2 0 _ rfl).1
    have c1 := (HC.out.2 1 _ rfl).1
    go_wp2_with fail
    refine (LnAt_all _ s l c w10 HX.out HT.out).mono ?_
    rintro e w11 ⟨rfl, hb⟩
    have HA := Lib.hid (HA.out.below hb)
    have HG := Lib.hid (HG.out.below hb)
    have HS5 := Lib.hid (HS5.out.below hb)
    have HX := Lib.hid (HX.out.below hb)
    have HT := Lib.hid (tabs_below HT.out hb)
    have HB := Lib.hid (HB.out.trans (hb.mono HB.out.size))
    clear hb
    clear c0 c1
    have hfn := eq_fn (.func 48) #[] #[.pointer (some ⟨w11.heap.size, 0, none⟩)]
    go_wp2_with fail
    refine (LnLines_any _ w11 (.inr ⟨_, _, rfl⟩)).mono ?_
    rintro e w12 ⟨rfl, rfl⟩
    have X12 := Boxed.new w11 28 (.iface 56 (.pointer (some ⟨b, 0, none⟩)))
    have b12 : Below w11.heap.size w11 (w11.alloc (.cells #[.iface 56 (.pointer (some ⟨b, 0, none⟩))] 28)) := (Below.refl _ _).alloc (Nat.le_refl _) _
    go_wp2_with fail
    generalize w11.alloc (.cells #[.iface 56 (.pointer (some ⟨b, 0, none⟩))] 28) = w12 at *
    generalize w11.heap.size = bx at X12 ⊢
    have HX12 := Lib.hid X12
    have HXb := Lib.hid X12.cell
    have HA := Lib.hid (HA.out.below b12)
    have HG := Lib.hid (HG.out.below b12)
    have HS5 := Lib.hid (HS5.out.below b12)
    have HX := Lib.hid (HX.out.below b12)
    have HT := Lib.hid (tabs_below HT.out b12)
    have HB := Lib.hid (HB.out.trans (b12.mono HB.out.size))
    clear b12
    clear X12
    refine (wpIn_wide (n := 3)).1 ?_
    refine wpIn_rangeFunc_ownH rfl (by omega) (gf := 48) (lb := #[.pointer (some ⟨bx, 0, none⟩)]) rfl trivial (enters_of Tryz.func48 (by kernel_rfl) rfl)
      (lines_stops _ (by omega) bx _ s w12 w12 HX.out (Below.refl _ _) HXb.out (fun _ _ => False) ownOk_none (fun _ h => h.elim)) KpL.trans (kpL_b ownOk_none) (Below.refl _ _) (fun _ => rfl)
      (fun pre W => pre = [] ∧ Below w12.heap.size w12 W) (fun c pre W => c = .exit 0 ∧ Below w12.heap.size w12 W)
      (OwnFrom.and (ownFrom_pure _ _) (ownFrom_below (Nat.le_refl _) (Nat.le_refl _))) ?hIx ⟨rfl, Below.refl _ _⟩ (fun _ _ _ => True) (fun _ _ _ _ _ _ _ _ _ => trivial) ?assign ?body ?done ?stop
    case hIx =>
      rintro c pre W W' row ⟨rfl, hB⟩ hg hr
      exact ⟨rfl, ownFrom_below (β := Unit) (Nat.le_refl _) (Nat.le_refl _) () W W' row hB hg hr⟩
    case assign =>
      intro l pre x W K hI hK
      gi_wp2
      exact hK _ _ (KeepsFrom.refl _ _) (KpL.refl _ _) hI trivial
    case body =>
      rintro l pre x a' W hl hr ⟨-, hI⟩ _ hlt
      gi_wp2
      exact ⟨KeepsFrom.refl _ _, rfl, hI⟩
    case done =>
      rintro D xs W hD rfl ⟨h1, -⟩ hK
      rw [List.range_succ] at h1
      simp at h1
    case stop =>
      rintro D c pre W hD hpx ⟨rfl, hb⟩ hK
      have HKd := Lib.hid hK
      have hwD : w.heap.size ≤ D := Nat.le_trans HB.out.size hD
      have hDl : D < W.heap.size := (Array.getElem?_eq_some_iff.1 hK).1
      have HA := Lib.hid (HA.out.below hb)
      have HG := Lib.hid (HG.out.below hb)
      have HS5 := Lib.hid (HS5.out.below hb)
      have HT := Lib.hid (tabs_below HT.out hb)
      have HB := Lib.hid (HB.out.trans (hb.mono HB.out.size))
      clear hb
      clear hK HX HXb hfn
      gi_wp2
      go_wp2
      have lA := HA.out.1
      refine wp_held' mixed (VKp20 w.heap.size w4.heap.size b s (backK T) i.moves i.forced i.edited) (VKp20_mono _ _ _ _ _ _ _ _) (by kernel_rfl) [70, 71, 72, 73, 74, 75, 76, 77, 78, 79, 80, 81, 82, 83, 84, 85, 86, 6] (by kernel_rfl) (by kernel_rfl) ?_ ?_
      · intro j hj
        have hj' : j < 18 := hj
        rcases (by omega : j = 0 ∨ j = 1 ∨ j = 2 ∨ j = 3 ∨ j = 4 ∨ j = 5 ∨ j = 6 ∨ j = 7 ∨ j = 8 ∨ j = 9 ∨ j = 10 ∨ j = 11 ∨ j = 12 ∨ j = 13 ∨ j = 14 ∨ j = 15 ∨ j = 16 ∨ j = 17) with rfl | rfl | rfl | rfl | rfl | rfl | rfl | rfl | rfl | rfl | rfl | rfl | rfl | rfl | rfl | rfl | rfl | rfl
        · -- operation 0
          (refine owes_val (L := [(7, false)]) rfl rfl rfl (by kernel_rfl) ?_; intro a' w' hb' hfacts; obtain ⟨hf7, -⟩ := hfacts; replace hf7 : a'.tmps[7]?.getD undef = .pointer (some ⟨b, 0, none⟩) := hf7)
          have pA := ((HA.out.below hb').2 0 _ rfl).1; have q0 := ((HS5.out.below hb').2 0 _ rfl).1; have q1 := ((HS5.out.below hb').2 1 _ rfl).1; have q2 := ((HS5.out.below hb').2 2 _ rfl).1
          (go_simp; first | exact ⟨_, rfl, Below.refl _ _, rfl⟩ | exact ⟨_, rfl, Below.refl _ _, trivial⟩ | exact ⟨_, rfl, (Below.refl _ _).alloc (Nat.le_refl _) _, trivial⟩ | exact ⟨_, rfl, Below.refl _ _, congrArg (Value.int _) (IntWalk.i64_in _ (by omega))⟩)
        · -- operation 1
          (refine owes_val (L := [(70, true)]) rfl rfl rfl (by kernel_rfl) ?_; intro a' w' hb' hfacts; obtain ⟨hf70, -⟩ := hfacts; try simp only [VKp20] at hf70)
          go_simp
          refine (StText_any ((HG.out.below hb').has (tabs_below HT.out hb') hs2)).mono ?_
          rintro e w3 ⟨rfl, hb3⟩
          exact ⟨_, rfl, hb3, rfl⟩
        · -- operation 2
          (refine owes_val (L := [(3, false)]) rfl rfl rfl (by kernel_rfl) ?_; intro a' w' hb' hfacts; obtain ⟨hf3, -⟩ := hfacts; replace hf3 : a'.tmps[3]?.getD undef = .pointer (some ⟨w.heap.size, 0, none⟩) := hf3)
          have pA := ((HA.out.below hb').2 0 _ rfl).1; have q0 := ((HS5.out.below hb').2 0 _ rfl).1; have q1 := ((HS5.out.below hb').2 1 _ rfl).1; have q2 := ((HS5.out.below hb').2 2 _ rfl).1
          (go_simp; first | exact ⟨_, rfl, Below.refl _ _, rfl⟩ | exact ⟨_, rfl, Below.refl _ _, trivial⟩ | exact ⟨_, rfl, (Below.refl _ _).alloc (Nat.le_refl _) _, trivial⟩ | exact ⟨_, rfl, Below.refl _ _, congrArg (Value.int _) (IntWalk.i64_in _ (by omega))⟩)
        · -- operation 3
          (refine owes_val (L := [(72, true)]) rfl rfl rfl (by kernel_rfl) ?_; intro a' w' hb' hfacts; obtain ⟨hf72, -⟩ := hfacts; try simp only [VKp20] at hf72)
          have pA := ((HA.out.below hb').2 0 _ rfl).1; have q0 := ((HS5.out.below hb').2 0 _ rfl).1; have q1 := ((HS5.out.below hb').2 1 _ rfl).1; have q2 := ((HS5.out.below hb').2 2 _ rfl).1
          (go_simp; first | exact ⟨_, rfl, Below.refl _ _, rfl⟩ | exact ⟨_, rfl, Below.refl _ _, trivial⟩ | exact ⟨_, rfl, (Below.refl _ _).alloc (Nat.le_refl _) _, trivial⟩ | exact ⟨_, rfl, Below.refl _ _, congrArg (Value.int _) (IntWalk.i64_in _ (by omega))⟩)
        · -- operation 4
          (refine owes_val (L := [(71, true), (73, true)]) rfl rfl rfl (by kernel_rfl) ?_; intro a' w' hb' hfacts; obtain ⟨hf71, hf73, -⟩ := hfacts; try simp only [VKp20] at hf71; try simp only [VKp20] at hf73)
          have pA := ((HA.out.below hb').2 0 _ rfl).1; have q0 := ((HS5.out.below hb').2 0 _ rfl).1; have q1 := ((HS5.out.below hb').2 1 _ rfl).1; have q2 := ((HS5.out.below hb').2 2 _ rfl).1
          (go_simp; first | exact ⟨_, rfl, Below.refl _ _, rfl⟩ | exact ⟨_, rfl, Below.refl _ _, trivial⟩ | exact ⟨_, rfl, (Below.refl _ _).alloc (Nat.le_refl _) _, trivial⟩ | exact ⟨_, rfl, Below.refl _ _, congrArg (Value.int _) (IntWalk.i64_in _ (by omega))⟩)
        · -- operation 5
          (refine owes_val (L := [(74, true)]) rfl rfl rfl (by kernel_rfl) ?_; intro a' w' hb' hfacts; obtain ⟨hf74, -⟩ := hfacts; try simp only [VKp20] at hf74)
          have pA := ((HA.out.below hb').2 0 _ rfl).1; have q0 := ((HS5.out.below hb').2 0 _ rfl).1; have q1 := ((HS5.out.below hb').2 1 _ rfl).1; have q2 := ((HS5.out.below hb').2 2 _ rfl).1
          (go_simp; first | exact ⟨_, rfl, Below.refl _ _, rfl⟩ | exact ⟨_, rfl, Below.refl _ _, trivial⟩ | exact ⟨_, rfl, (Below.refl _ _).alloc (Nat.le_refl _) _, trivial⟩ | exact ⟨_, rfl, Below.refl _ _, congrArg (Value.int _) (IntWalk.i64_in _ (by omega))⟩)
        · -- operation 6
          (refine owes_if (L := [(7, false), (75, true)]) rfl rfl rfl rfl (by kernel_rfl) ?_; intro a' w' hb' hfacts; obtain ⟨hf7, hf75, -⟩ := hfacts; replace hf7 : a'.tmps[7]?.getD undef = .pointer (some ⟨b, 0, none⟩) := hf7; try simp only [VKp20] at hf75)
          have pA := ((HA.out.below hb').2 0 _ rfl).1; have q0 := ((HS5.out.below hb').2 0 _ rfl).1; have q1 := ((HS5.out.below hb').2 1 _ rfl).1; have q2 := ((HS5.out.below hb').2 2 _ rfl).1
          first
            | (go_simp; first | exact ⟨_, rfl, Below.refl _ _, rfl⟩ | exact ⟨_, rfl, Below.refl _ _, trivial⟩ | exact ⟨_, rfl, Below.refl _ _⟩ | exact ⟨_, rfl, (Below.refl _ _).alloc (Nat.le_refl _) _, trivial⟩)
            | (apply Exists.intro
               apply And.intro
               · assumption
               · apply And.intro
                 · intro hc
                   first
                     | (refine absurd hc ?_; simp [undef]; done)
                     | (go_simp; first | exact ⟨_, rfl, Below.refl _ _, rfl⟩ | exact ⟨_, rfl, Below.refl _ _, trivial⟩ | exact ⟨_, rfl, Below.refl _ _⟩ | exact ⟨_, rfl, (Below.refl _ _).alloc (Nat.le_refl _) _, trivial⟩)
                 · intro hc
                   first | exact absurd rfl hc | exact trivial | exact rfl)
            | (apply Exists.intro
               apply And.intro
               · assumption
               · intro hc
                 first
                   | (refine absurd hc ?_; simp [undef]; done)
                   | (go_simp; first | exact ⟨_, rfl, Below.refl _ _, rfl⟩ | exact ⟨_, rfl, Below.refl _ _, trivial⟩ | exact ⟨_, rfl, Below.refl _ _⟩ | exact ⟨_, rfl, (Below.refl _ _).alloc (Nat.le_refl _) _, trivial⟩))
        · -- operation 7
          (refine owes_if (L := [(76, true), (75, true)]) rfl rfl rfl rfl (by kernel_rfl) ?_; intro a' w' hb' hfacts; obtain ⟨hf76, hf75, -⟩ := hfacts; try simp only [VKp20] at hf76; try simp only [VKp20] at hf75)
          refine ⟨_, hf75, fun _ => ?_, fun hc => absurd rfl hc⟩
          go_simp
          refine (StBackend_any (HG.out.below hb')).mono ?_
          rintro e w3 ⟨rfl, hb3⟩
          exact ⟨_, rfl, hb3, rfl⟩
        · -- operation 8
          (refine owes_if (L := [(9, false), (75, true)]) rfl rfl rfl rfl (by kernel_rfl) ?_; intro a' w' hb' hfacts; obtain ⟨hf9, hf75, -⟩ := hfacts; replace hf9 : a'.tmps[9]?.getD undef = .int .i64 (backK T) := hf9; try simp only [VKp20] at hf75)
          have pA := ((HA.out.below hb').2 0 _ rfl).1; have q0 := ((HS5.out.below hb').2 0 _ rfl).1; have q1 := ((HS5.out.below hb').2 1 _ rfl).1; have q2 := ((HS5.out.below hb').2 2 _ rfl).1
          first
            | (go_simp; first | exact ⟨_, rfl, Below.refl _ _, rfl⟩ | exact ⟨_, rfl, Below.refl _ _, trivial⟩ | exact ⟨_, rfl, Below.refl _ _⟩ | exact ⟨_, rfl, (Below.refl _ _).alloc (Nat.le_refl _) _, trivial⟩)
            | (apply Exists.intro
               apply And.intro
               · assumption
               · apply And.intro
                 · intro hc
                   first
                     | (refine absurd hc ?_; simp [undef]; done)
                     | (go_simp; first | exact ⟨_, rfl, Below.refl _ _, rfl⟩ | exact ⟨_, rfl, Below.refl _ _, trivial⟩ | exact ⟨_, rfl, Below.refl _ _⟩ | exact ⟨_, rfl, (Below.refl _ _).alloc (Nat.le_refl _) _, trivial⟩)
                 · intro hc
                   first | exact absurd rfl hc | exact trivial | exact rfl)
            | (apply Exists.intro
               apply And.intro
               · assumption
               · intro hc
                 first
                   | (refine absurd hc ?_; simp [undef]; done)
                   | (go_simp; first | exact ⟨_, rfl, Below.refl _ _, rfl⟩ | exact ⟨_, rfl, Below.refl _ _, trivial⟩ | exact ⟨_, rfl, Below.refl _ _⟩ | exact ⟨_, rfl, (Below.refl _ _).alloc (Nat.le_refl _) _, trivial⟩))
        · -- operation 9
          (refine owes_if (L := [(77, true), (78, true), (75, true)]) rfl rfl rfl rfl (by kernel_rfl) ?_; intro a' w' hb' hfacts; obtain ⟨hf77, hf78, hf75, -⟩ := hfacts; try simp only [VKp20] at hf77; try simp only [VKp20] at hf78; try simp only [VKp20] at hf75)
          have pA := ((HA.out.below hb').2 0 _ rfl).1; have q0 := ((HS5.out.below hb').2 0 _ rfl).1; have q1 := ((HS5.out.below hb').2 1 _ rfl).1; have q2 := ((HS5.out.below hb').2 2 _ rfl).1
          first
            | (go_simp; first | exact ⟨_, rfl, Below.refl _ _, rfl⟩ | exact ⟨_, rfl, Below.refl _ _, trivial⟩ | exact ⟨_, rfl, Below.refl _ _⟩ | exact ⟨_, rfl, (Below.refl _ _).alloc (Nat.le_refl _) _, trivial⟩)
            | (apply Exists.intro
               apply And.intro
               · assumption
               · apply And.intro
                 · intro hc
                   first
                     | (refine absurd hc ?_; simp [undef]; done)
                     | (go_simp; first | exact ⟨_, rfl, Below.refl _ _, rfl⟩ | exact ⟨_, rfl, Below.refl _ _, trivial⟩ | exact ⟨_, rfl, Below.refl _ _⟩ | exact ⟨_, rfl, (Below.refl _ _).alloc (Nat.le_refl _) _, trivial⟩)
                 · intro hc
                   first | exact absurd rfl hc | exact trivial | exact rfl)
            | (apply Exists.intro
               apply And.intro
               · assumption
               · intro hc
                 first
                   | (refine absurd hc ?_; simp [undef]; done)
                   | (go_simp; first | exact ⟨_, rfl, Below.refl _ _, rfl⟩ | exact ⟨_, rfl, Below.refl _ _, trivial⟩ | exact ⟨_, rfl, Below.refl _ _⟩ | exact ⟨_, rfl, (Below.refl _ _).alloc (Nat.le_refl _) _, trivial⟩))
        · -- operation 10
          (refine owes_val (L := [(75, true), (79, true)]) rfl rfl rfl (by kernel_rfl) ?_; intro a' w' hb' hfacts; obtain ⟨hf75, hf79, -⟩ := hfacts; try simp only [VKp20] at hf75; try simp only [VKp20] at hf79)
          have pA := ((HA.out.below hb').2 0 _ rfl).1; have q0 := ((HS5.out.below hb').2 0 _ rfl).1; have q1 := ((HS5.out.below hb').2 1 _ rfl).1; have q2 := ((HS5.out.below hb').2 2 _ rfl).1
          (go_simp; first | exact ⟨_, rfl, Below.refl _ _, rfl⟩ | exact ⟨_, rfl, Below.refl _ _, trivial⟩ | exact ⟨_, rfl, (Below.refl _ _).alloc (Nat.le_refl _) _, trivial⟩ | exact ⟨_, rfl, Below.refl _ _, congrArg (Value.int _) (IntWalk.i64_in _ (by omega))⟩)
        · -- operation 11
          (refine owes_val (L := [(80, true)]) rfl rfl rfl (by kernel_rfl) ?_; intro a' w' hb' hfacts; obtain ⟨hf80, -⟩ := hfacts; try simp only [VKp20] at hf80)
          have pA := ((HA.out.below hb').2 0 _ rfl).1; have q0 := ((HS5.out.below hb').2 0 _ rfl).1; have q1 := ((HS5.out.below hb').2 1 _ rfl).1; have q2 := ((HS5.out.below hb').2 2 _ rfl).1
          (go_simp; first | exact ⟨_, rfl, Below.refl _ _, rfl⟩ | exact ⟨_, rfl, Below.refl _ _, trivial⟩ | exact ⟨_, rfl, (Below.refl _ _).alloc (Nat.le_refl _) _, trivial⟩ | exact ⟨_, rfl, Below.refl _ _, congrArg (Value.int _) (IntWalk.i64_in _ (by omega))⟩)
        · -- operation 12
          (refine owes_if (L := [(7, false), (81, true)]) rfl rfl rfl rfl (by kernel_rfl) ?_; intro a' w' hb' hfacts; obtain ⟨hf7, hf81, -⟩ := hfacts; replace hf7 : a'.tmps[7]?.getD undef = .pointer (some ⟨b, 0, none⟩) := hf7; try simp only [VKp20] at hf81)
          have pA := ((HA.out.below hb').2 0 _ rfl).1; have q0 := ((HS5.out.below hb').2 0 _ rfl).1; have q1 := ((HS5.out.below hb').2 1 _ rfl).1; have q2 := ((HS5.out.below hb').2 2 _ rfl).1
          first
            | (go_simp; first | exact ⟨_, rfl, Below.refl _ _, rfl⟩ | exact ⟨_, rfl, Below.refl _ _, trivial⟩ | exact ⟨_, rfl, Below.refl _ _⟩ | exact ⟨_, rfl, (Below.refl _ _).alloc (Nat.le_refl _) _, trivial⟩)
            | (apply Exists.intro
               apply And.intro
               · assumption
               · apply And.intro
                 · intro hc
                   first
                     | (refine absurd hc ?_; simp [undef]; done)
                     | (go_simp; first | exact ⟨_, rfl, Below.refl _ _, rfl⟩ | exact ⟨_, rfl, Below.refl _ _, trivial⟩ | exact ⟨_, rfl, Below.refl _ _⟩ | exact ⟨_, rfl, (Below.refl _ _).alloc (Nat.le_refl _) _, trivial⟩)
                 · intro hc
                   first | exact absurd rfl hc | exact trivial | exact rfl)
            | (apply Exists.intro
               apply And.intro
               · assumption
               · intro hc
                 first
                   | (refine absurd hc ?_; simp [undef]; done)
                   | (go_simp; first | exact ⟨_, rfl, Below.refl _ _, rfl⟩ | exact ⟨_, rfl, Below.refl _ _, trivial⟩ | exact ⟨_, rfl, Below.refl _ _⟩ | exact ⟨_, rfl, (Below.refl _ _).alloc (Nat.le_refl _) _, trivial⟩))
        · -- operation 13
          (refine owes_if (L := [(82, true), (81, true)]) rfl rfl rfl rfl (by kernel_rfl) ?_; intro a' w' hb' hfacts; obtain ⟨hf82, hf81, -⟩ := hfacts; try simp only [VKp20] at hf82; try simp only [VKp20] at hf81)
          refine ⟨_, hf81, fun _ => ?_, fun hc => absurd rfl hc⟩
          go_simp
          refine (StCounts_any (HG.out.below hb')).mono ?_
          rintro e w3 ⟨rfl, hb3⟩
          exact ⟨_, rfl, hb3, rfl⟩
        · -- operation 14
          (refine owes_if (L := [(10, false), (81, true)]) rfl rfl rfl rfl (by kernel_rfl) ?_; intro a' w' hb' hfacts; obtain ⟨hf10, hf81, -⟩ := hfacts; replace hf10 : a'.tmps[10]?.getD undef = .pointer (some ⟨w4.heap.size, 0, none⟩) := hf10; try simp only [VKp20] at hf81)
          have pA := ((HA.out.below hb').2 0 _ rfl).1; have q0 := ((HS5.out.below hb').2 0 _ rfl).1; have q1 := ((HS5.out.below hb').2 1 _ rfl).1; have q2 := ((HS5.out.below hb').2 2 _ rfl).1
          first
            | (go_simp; first | exact ⟨_, rfl, Below.refl _ _, rfl⟩ | exact ⟨_, rfl, Below.refl _ _, trivial⟩ | exact ⟨_, rfl, Below.refl _ _⟩ | exact ⟨_, rfl, (Below.refl _ _).alloc (Nat.le_refl _) _, trivial⟩)
            | (apply Exists.intro
               apply And.intro
               · assumption
               · apply And.intro
                 · intro hc
                   first
                     | (refine absurd hc ?_; simp [undef]; done)
                     | (go_simp; first | exact ⟨_, rfl, Below.refl _ _, rfl⟩ | exact ⟨_, rfl, Below.refl _ _, trivial⟩ | exact ⟨_, rfl, Below.refl _ _⟩ | exact ⟨_, rfl, (Below.refl _ _).alloc (Nat.le_refl _) _, trivial⟩)
                 · intro hc
                   first | exact absurd rfl hc | exact trivial | exact rfl)
            | (apply Exists.intro
               apply And.intro
               · assumption
               · intro hc
                 first
                   | (refine absurd hc ?_; simp [undef]; done)
                   | (go_simp; first | exact ⟨_, rfl, Below.refl _ _, rfl⟩ | exact ⟨_, rfl, Below.refl _ _, trivial⟩ | exact ⟨_, rfl, Below.refl _ _⟩ | exact ⟨_, rfl, (Below.refl _ _).alloc (Nat.le_refl _) _, trivial⟩))
        · -- operation 15
          (refine owes_if (L := [(83, true), (84, true), (81, true)]) rfl rfl rfl rfl (by kernel_rfl) ?_; intro a' w' hb' hfacts; obtain ⟨hf83, hf84, hf81, -⟩ := hfacts; try simp only [VKp20] at hf83; try simp only [VKp20] at hf84; try simp only [VKp20] at hf81)
          have pA := ((HA.out.below hb').2 0 _ rfl).1; have q0 := ((HS5.out.below hb').2 0 _ rfl).1; have q1 := ((HS5.out.below hb').2 1 _ rfl).1; have q2 := ((HS5.out.below hb').2 2 _ rfl).1
          first
            | (go_simp; first | exact ⟨_, rfl, Below.refl _ _, rfl⟩ | exact ⟨_, rfl, Below.refl _ _, trivial⟩ | exact ⟨_, rfl, Below.refl _ _⟩ | exact ⟨_, rfl, (Below.refl _ _).alloc (Nat.le_refl _) _, trivial⟩)
            | (apply Exists.intro
               apply And.intro
               · assumption
               · apply And.intro
                 · intro hc
                   first
                     | (refine absurd hc ?_; simp [undef]; done)
                     | (go_simp; first | exact ⟨_, rfl, Below.refl _ _, rfl⟩ | exact ⟨_, rfl, Below.refl _ _, trivial⟩ | exact ⟨_, rfl, Below.refl _ _⟩ | exact ⟨_, rfl, (Below.refl _ _).alloc (Nat.le_refl _) _, trivial⟩)
                 · intro hc
                   first | exact absurd rfl hc | exact trivial | exact rfl)
            | (apply Exists.intro
               apply And.intro
               · assumption
               · intro hc
                 first
                   | (refine absurd hc ?_; simp [undef]; done)
                   | (go_simp; first | exact ⟨_, rfl, Below.refl _ _, rfl⟩ | exact ⟨_, rfl, Below.refl _ _, trivial⟩ | exact ⟨_, rfl, Below.refl _ _⟩ | exact ⟨_, rfl, (Below.refl _ _).alloc (Nat.le_refl _) _, trivial⟩))
        · -- operation 16
          (refine owes_val (L := [(81, true), (85, true)]) rfl rfl rfl (by kernel_rfl) ?_; intro a' w' hb' hfacts; obtain ⟨hf81, hf85, -⟩ := hfacts; try simp only [VKp20] at hf81; try simp only [VKp20] at hf85)
          have pA := ((HA.out.below hb').2 0 _ rfl).1; have q0 := ((HS5.out.below hb').2 0 _ rfl).1; have q1 := ((HS5.out.below hb').2 1 _ rfl).1; have q2 := ((HS5.out.below hb').2 2 _ rfl).1
          (go_simp; first | exact ⟨_, rfl, Below.refl _ _, rfl⟩ | exact ⟨_, rfl, Below.refl _ _, trivial⟩ | exact ⟨_, rfl, (Below.refl _ _).alloc (Nat.le_refl _) _, trivial⟩ | exact ⟨_, rfl, Below.refl _ _, congrArg (Value.int _) (IntWalk.i64_in _ (by omega))⟩)
        · -- operation 17
          (refine owes_val (L := [(86, true)]) rfl rfl rfl (by kernel_rfl) ?_; intro a' w' hb' hfacts; obtain ⟨hf86, -⟩ := hfacts; try simp only [VKp20] at hf86)
          have pA := ((HA.out.below hb').2 0 _ rfl).1; have q0 := ((HS5.out.below hb').2 0 _ rfl).1; have q1 := ((HS5.out.below hb').2 1 _ rfl).1; have q2 := ((HS5.out.below hb').2 2 _ rfl).1
          (go_simp; first | exact ⟨_, rfl, Below.refl _ _, rfl⟩ | exact ⟨_, rfl, Below.refl _ _, trivial⟩ | exact ⟨_, rfl, (Below.refl _ _).alloc (Nat.le_refl _) _, trivial⟩ | exact ⟨_, rfl, Below.refl _ _, congrArg (Value.int _) (IntWalk.i64_in _ (by omega))⟩)
      · intro f W9 hf hb3
        have f86 : f 86 = .bool true := hf 86 (by decide)
        have f6 : f 6 = .bool true := hf 6 (by decide)
        have hKd2 : W9.heap[D]? = some (.deferred (some [])) := (hb3.block D hDl).trans HKd.out
        have HB := Lib.hid (HB.out.trans (hb3.mono HB.out.size))
        clear hb3
        clear hf lA
        simp only [putAll, put_lit, List.map_cons, List.map_nil, List.set_cons_succ, List.set_cons_zero]
        simp only [f86, f6]
        go_wp2
        refine ⟨by simp, .inl ⟨_, _, rfl, run_takeDeferred hKd2, ?_⟩⟩
        exact ⟨.bool true, by simp [results, Tryz.results9, go_sem], rfl, HB.out.trans (belowK_b (w := w) (Nat.le_refl _) W9 D _ _ hwD hKd2 rfl rfl)⟩

set_option maxRecDepth 100000 in
theorem open_spot {H : Type} {enc : TypeId × Value → H} {W : World} {base : Nat} {v : Value} {d : DataW H} {p : List MemPlace} (o : Value.okWide Tryz.prog W .any base 37 v) (h : DataW.Trod enc Tryz.prog W 0 (fun _ => true) true 37 v d p) :
    ∃ l c : Int, v = .agg #[.int .i64 l, .int .i64 c] := by
  obtain ⟨v0, v1, y0, y1, n, rfl, rfl, -, h0, h1⟩ := open_agg2 Tryz.underlying37 (by kernel_rfl) (by kernel_rfl) o h
  obtain ⟨a, rfl, -⟩ := trod_int1 Tryz.underlying3 h0
  obtain ⟨b, rfl, -⟩ := trod_int1 Tryz.underlying3 h1
  exact ⟨a, b, rfl⟩
set_option maxRecDepth 100000 in
theorem calls_LinesKeeps {H : Type} {enc : TypeId × Value → H} {W : World} {base : Nat} {v0 v1 v2 : Value} {d0 d1 d2 : DataW H} {p0 p1 p2 : List MemPlace} (hL : laidMetH Tryz.prog Rows.linesKeepsRow.laid W)
    (o0 : Value.okWide Tryz.prog W .any base 23 v0) (h0 : DataW.Trod enc Tryz.prog W 0 (fun _ => true) true 23 v0 d0 p0) (w0 : ∀ n ∈ d0.weights Tryz.prog 23, n ≤ reachBytes)
    (o1 : Value.okWide Tryz.prog W .any base 3 v1) (h1 : DataW.Trod enc Tryz.prog W 0 (fun _ => true) true 3 v1 d1 p1) (w1 : ∀ n ∈ d1.weights Tryz.prog 3, n ≤ reachBytes)
    (o2 : Value.okWide Tryz.prog W .any base 37 v2) (h2 : DataW.Trod enc Tryz.prog W 0 (fun _ => true) true 37 v2 d2 p2) (w2 : ∀ n ∈ d2.weights Tryz.prog 37, n ≤ reachBytes) :
    Calls Tryz.prog 9 #[v0, v1, v2] W fun e W' => e = .returned (.bool true) ∧ Below W.heap.size W W' := by
  obtain ⟨s, k, rfl, hs⟩ := open_kept o0 h0 w0
  obtain ⟨x, rfl, rfl, rfl, hx⟩ := open_int Tryz.underlying3 o1 h1
  obtain ⟨l, c, rfl⟩ := open_spot o2 h2
  exact law_LinesKeeps s k x l c W (tabs_of_laid hL) (by unfold reachBytes at hs; omega)
end Go.Proofs.YtgmpohdkignadaaGreatDoor.Ut
/-
  bodkinref11.Span, Line: what they answer. No condition.
-/
namespace Go.Proofs.YtgmpohdkignadaaGreatDoor.Ut
open Go.RowKit Go.Proofs.YtgmpohdkignadaaGreatDoor.Reg
set_option linter.unusedVariables false
set_option linter.unusedSimpArgs false

set_option maxRecDepth 100000 in
set_option maxHeartbeats 1000000 in
theorem RefSpan_any (s : ByteArray) (l : Int) (w : World) (hs : s.size ≤ 1073741824) :
    Calls Tryz.prog 24 #[.string s, .int .i64 l] w fun e w' => e = .returned (.tuple #[.agg #[.int .i64 (spanA s l).1, .int .i64 (spanA s l).2.1], .int .i64 (spanA s l).2.2]) ∧ Below w.heap.size w w' := by
  obtain ⟨W0, hW0, A0, b0, hsz⟩ := boxL1 w [.int .i64 0, .int .i64 0] 41
  have HE := Lib.hid hW0
  have HA := Lib.hid A0
  have HB := Lib.hid b0
  clear hW0 A0 b0 hsz
  have hnz := nlTo_le s s.size
  rw [nlTo_all] at hnz
  go_enter Tryz.func24, Tryz.ntmps24
  go_wp2_with fail
  rw [HE.out]
  refine (RefLines_any s W0 hs).mono ?_
  rintro e w1 ⟨v, rfl, hown, hb⟩
  have hlen := spansT_len s (nlF s + 1)
  have HA := Lib.hid (HA.out.below hb)
  have HB := Lib.hid (HB.out.trans (hb.mono HB.out.size))
  clear hb
  by_cases hc : 0 ≤ l ∧ l < (nlF s : Int) + 1
  · obtain ⟨n, rfl⟩ : ∃ n : Nat, l = n := ⟨l.toNat, by omega⟩
    have he : spanA s n = ((beginF s (n : Nat) : Int), (spanT s n : Int), 0) := by unfold spanA; rw [if_pos hc, Int.toNat_natCast]
    obtain ⟨g, c, rfl, q0, q1⟩ := span_cells hown rfl n (by omega)
    rw [spansT_at] at q0 q1
    rw [hlen]
    clear hown
    obtain ⟨F, hF⟩ : ∃ F, beginF s (n : Nat) = F := ⟨_, rfl⟩
    obtain ⟨T, hT⟩ : ∃ T, spanT s n = T := ⟨_, rfl⟩
    rw [hF, hT] at q0 q1 he
    have HEe := Lib.hid he
    clear hF hT he hlen
    have L := Lib.hid (Lies.stored HA.out [.int .i64 F, .int .i64 T] rfl).2
    have HB2 := Lib.hid (chg_mine HB.out (sets_chg w.heap.size [.int .i64 F, .int .i64 T] 0 _) (Nat.le_refl _))
    obtain ⟨d0, e0⟩ := HA.out.2 0 _ rfl
    obtain ⟨d1, e1⟩ := HA.out.2 1 _ rfl
    have h0 : ¬ (n : Int) < 0 := by omega
    have h1 : ¬ ((nlF s + 1 : Nat) : Int) ≤ (n : Int) := by omega
    have h2 : (0 : Int) ≤ (n : Int) := by omega
    have h3 : (n : Int) < ((nlF s + 1 : Nat) : Int) := by omega
    generalize hNN : nlF s + 1 = N at *
    clear hNN
    go_wp2
    have j0 := (L.out 0 _ rfl).1
    have j1 := (L.out 1 _ rfl).1
    simp only [World.setCells] at j0 j1
    refine bodyPost_ret (v := .tuple #[.agg #[.int .i64 F, .int .i64 T], .int .i64 0]) (by simp [results, Tryz.results24, go_sem, j0, j1]) rfl ⟨by rw [HEe.out], HB2.out⟩
  · have he : spanA s l = (0, 0, 1) := by unfold spanA; rw [if_neg hc]
    have HEe := Lib.hid he
    obtain ⟨Aa, c, rfl⟩ := row_forma hown
    rw [hlen]
    have L := Lib.hid (Lies.stored HA.out [.int .i64 0, .int .i64 0] rfl).2
    have HB2 := Lib.hid (chg_mine HB.out (sets_chg w.heap.size [.int .i64 0, .int .i64 0] 0 _) (Nat.le_refl _))
    obtain ⟨d0, e0⟩ := HA.out.2 0 _ rfl
    obtain ⟨d1, e1⟩ := HA.out.2 1 _ rfl
    clear hown he hlen
    have hc2 : l < 0 ∨ (¬ l < 0 ∧ ((nlF s + 1 : Nat) : Int) ≤ l) := by omega
    clear hc hnz
    generalize hNN : nlF s + 1 = N at *
    clear hNN
    rcases hc2 with h0 | ⟨h0, h1⟩
    all_goals
      go_wp2
      have j0 := (L.out 0 _ rfl).1
      have j1 := (L.out 1 _ rfl).1
      simp only [World.setCells] at j0 j1
      refine bodyPost_ret (v := .tuple #[.agg #[.int .i64 0, .int .i64 0], .int .i64 1]) (by simp [results, Tryz.results24, go_sem, j0, j1]) rfl ⟨by rw [HEe.out], HB2.out⟩

set_option maxRecDepth 100000 in
set_option maxHeartbeats 1000000 in
theorem RefLine_any (s : ByteArray) (l : Int) (w : World) (hs : s.size ≤ 1073741824) :
    Calls Tryz.prog 26 #[.string s, .int .i64 l] w fun e w' => e = .returned (.tuple #[.string (lineA s l).1, .int .i64 (lineA s l).2]) ∧ Below w.heap.size w w' := by
  have HS := Lib.hid (RefSpan_any s l w hs)
  by_cases hc : 0 ≤ l ∧ l < (nlF s : Int) + 1
  · obtain ⟨n, rfl⟩ : ∃ n : Nat, l = n := ⟨l.toNat, by omega⟩
    have he : spanA s n = ((beginF s (n : Nat) : Int), (spanT s n : Int), 0) := by unfold spanA; rw [if_pos hc, Int.toNat_natCast]
    have he2 : lineA s n = (s.extract (beginF s (n : Nat)) (spanT s n), 0) := by unfold lineA; rw [if_pos hc, Int.toNat_natCast]
    have hle := begin_span s n (by omega)
    have ht := spanT_le s n
    rw [he] at HS
    rw [he2]
    obtain ⟨F, hF⟩ : ∃ F, beginF s (n : Nat) = F := ⟨_, rfl⟩
    obtain ⟨T, hT⟩ : ∃ T, spanT s n = T := ⟨_, rfl⟩
    rw [hF, hT] at HS hle ⊢
    rw [hT] at ht
    clear hF hT he he2 hc
    have g0 : (0 : Int) ≤ (F : Int) := by omega
    have g1 : (F : Int) ≤ (T : Int) := by omega
    have g2 : (T : Int) ≤ (s.size : Int) := by omega
    go_enter Tryz.func26, Tryz.ntmps26
    go_wp2_with fail
    refine HS.out.mono ?_
    rintro e w1 ⟨rfl, hb⟩
    have hb2 : Below w.heap.size w (w1.alloc (.cells #[.int .i64 F, .int .i64 T] 41)) := hb.alloc hb.size _
    have HB := Lib.hid hb2
    clear hb hb2 HS
    go_wp2
    refine bodyPost_ret (v := .tuple #[.string (s.extract F T), .int .i64 0]) (by simp [results, Tryz.results26, go_sem]) rfl ⟨rfl, HB.out⟩
  · have he : spanA s l = (0, 0, 1) := by unfold spanA; rw [if_neg hc]
    have he2 : lineA s l = (⟨#[]⟩, 1) := by unfold lineA; rw [if_neg hc]
    rw [he] at HS
    rw [he2]
    clear he he2 hc
    go_enter Tryz.func26, Tryz.ntmps26
    go_wp2_with fail
    refine HS.out.mono ?_
    rintro e w1 ⟨rfl, hb⟩
    have hb2 : Below w.heap.size w (w1.alloc (.cells #[.int .i64 0, .int .i64 0] 41)) := hb.alloc hb.size _
    have HB := Lib.hid hb2
    clear hb hb2 HS
    go_wp2
    refine bodyPost_ret (v := .tuple #[.string ⟨#[]⟩, .int .i64 1]) (by simp [results, Tryz.results26, go_sem]) rfl ⟨rfl, HB.out⟩
end Go.Proofs.YtgmpohdkignadaaGreatDoor.Ut
/-
  The reference's answers at the empty text. No condition.
-/
namespace Go.Proofs.YtgmpohdkignadaaGreatDoor.Ut
open Go.RowKit Go.Proofs.YtgmpohdkignadaaGreatDoor.Reg
set_option linter.unusedVariables false
set_option linter.unusedSimpArgs false

abbrev E0 : ByteArray := ⟨#[]⟩
theorem E0_size : (⟨#[]⟩ : ByteArray).size = 0 := rfl
set_option maxRecDepth 100000 in
theorem RefUnits_empty (w : World) : Calls Tryz.prog 56 #[.string ⟨#[]⟩] w fun e w' => e = .returned (.slice none 0 0) ∧ w' = w := by
  have hz := E0_size
  go_enter Tryz.func56, Tryz.ntmps56
  go_wp2
  go_loopw [3, 4] (fun u i wr => u = .slice none 0 0 ∧ i = .int .i64 0 ∧ wr = w) (fun _ _ _ => 0)
  case atStart => exact ⟨rfl, rfl, rfl⟩
  case round =>
    obtain ⟨rfl, rfl, rfl⟩ := hrel
    go_wp2
    go_ret
    exact ⟨rfl, rfl⟩
set_option maxRecDepth 100000 in
theorem RefList_empty (w : World) : Calls Tryz.prog 40 #[.string ⟨#[]⟩] w fun e w' => e = .returned (.slice none 0 0) ∧ w' = w := by
  go_enter Tryz.func40, Tryz.ntmps40
  go_wp2_with fail
  refine (RefUnits_empty w).mono ?_
  rintro e w1 ⟨rfl, rfl⟩
  go_wp2
  go_loopw [3, 5, 6] (fun u i j wr => u = .slice none 0 0 ∧ i = .int .i64 0 ∧ j = .int .i64 0 ∧ wr = w1) (fun _ _ _ _ => 0)
  case atStart => exact ⟨rfl, rfl, rfl, rfl⟩
  case round =>
    obtain ⟨rfl, rfl, rfl, rfl⟩ := hrel
    go_wp2
    go_ret
    exact ⟨rfl, rfl⟩
set_option maxRecDepth 100000 in
theorem RefCells_empty (a : Int) (w : World) : Calls Tryz.prog 39 #[.string ⟨#[]⟩, .int .i64 a] w fun e w' => e = .returned (.int .i64 0) ∧ w' = w := by
  go_enter Tryz.func39, Tryz.ntmps39
  go_wp2_with fail
  refine (RefList_empty w).mono ?_
  rintro e w1 ⟨rfl, rfl⟩
  go_wp2
  go_loopw [6, 7] (fun i j wr => i = .int .i64 0 ∧ j = .int .i64 0 ∧ wr = w1) (fun _ _ _ => 0)
  case atStart => exact ⟨rfl, rfl, rfl⟩
  case round =>
    obtain ⟨rfl, rfl, rfl⟩ := hrel
    go_wp2
    go_ret
    exact ⟨rfl, rfl⟩

theorem span0 : spanA (⟨#[]⟩ : ByteArray) 0 = (0, 0, 0) := by decide +kernel
theorem of0 : ofA (⟨#[]⟩ : ByteArray) 0 = (0, 0) := by decide +kernel
theorem nl0 : nlF (⟨#[]⟩ : ByteArray) = 0 := by decide +kernel
theorem col0 : colA (⟨#[]⟩ : ByteArray) 0 = (0, 0) := by decide +kernel
theorem at0 (c : Int) : atA (⟨#[]⟩ : ByteArray) 0 c = (0, 0) := by
  unfold atA
  rw [if_pos ⟨Int.le_refl _, by rw [nl0]; decide⟩]
  rfl
theorem of_bad {i : Int} (h : i ≠ 0) : ofA (⟨#[]⟩ : ByteArray) i = (0, 1) := by unfold ofA; rw [if_neg]; rw [E0_size]; omega
theorem col_bad {i : Int} (h : i ≠ 0) : colA (⟨#[]⟩ : ByteArray) i = (0, 1) := by unfold colA; rw [if_neg]; rw [E0_size]; omega
theorem span_bad {i : Int} (h : i ≠ 0) : spanA (⟨#[]⟩ : ByteArray) i = (0, 0, 1) := by unfold spanA; rw [if_neg]; rw [nl0]; omega
theorem at_bad {i : Int} (c : Int) (h : i ≠ 0) : atA (⟨#[]⟩ : ByteArray) i c = (0, 1) := by unfold atA; rw [if_neg]; rw [nl0]; omega

def VCol5 (A : Nat) : Nat → Value → World → Prop := fun d x w => match d with
  | 25 => x = .string ⟨#[]⟩
  | 26 => x = .pointer (some ⟨A, 0, none⟩)
  | 27 => x = .int .i64 0
  | 28 => x = .pointer (some ⟨A, 1, none⟩)
  | 29 => x = .int .i64 0
  | 30 => x = .string ⟨#[]⟩
  | 31 => x = .int .i64 0
  | 32 => x = .pointer (some ⟨A, 0, none⟩)
  | 33 => x = .int .i64 0
  | 34 => x = .int .i64 0
  | 35 => x = .int .i64 0
  | 4 => x = .int .i64 0
  | 5 => x = .int .i64 0
  | _ => True
theorem VCol5_mono (A : Nat) : ∀ d x w w', VCol5 A d x w → Below w.heap.size w w' → VCol5 A d x w' := by
  exact fun _ _ _ _ h _ => h
set_option maxRecDepth 100000 in
set_option maxHeartbeats 1000000 in
theorem RefColumn_empty (i : Int) (w : World) : Calls Tryz.prog 14 #[.string ⟨#[]⟩, .int .i64 i] w fun e w' => e = .returned (.tuple #[.int .i64 (colA ⟨#[]⟩ i).1, .int .i64 (colA ⟨#[]⟩ i).2]) ∧ Below w.heap.size w w' := by
  by_cases h : i = 0
  · subst h
    have KO := RefOf_any ⟨#[]⟩ 0 w (by decide)
    rw [of0] at KO
    have KS := fun w => RefSpan_any ⟨#[]⟩ 0 w (by decide)
    rw [span0] at KS
    rw [col0]
    have HKO := Lib.hid KO
    have HKS := Lib.hid KS
    clear KO KS
    go_enter Tryz.func14, Tryz.ntmps14
    go_wp2_with fail
    refine HKO.out.mono ?_
    rintro e w1 ⟨rfl, hb⟩
    have HB := Lib.hid hb
    clear hb
    go_wp2_with fail
    refine (HKS.out w1).mono ?_
    rintro e w2 ⟨rfl, hb⟩
    have HB := Lib.hid (HB.out.trans (hb.mono HB.out.size))
    clear hb
    obtain ⟨w3, hw3, S3, b3, -⟩ := boxL1 w2 [.int .i64 0, .int .i64 0] 41
    have HE3 := Lib.hid hw3
    have HS3 := Lib.hid S3
    clear hw3 S3
    have HB := Lib.hid (HB.out.trans (b3.mono HB.out.size))
    clear b3
    go_wp2
    rw [HE3.out]
    generalize w2.heap.size = A at HS3 ⊢
    refine wp_held' mixed (VCol5 A) (VCol5_mono A) (by kernel_rfl) [25, 26, 27, 28, 29, 30, 31, 32, 33, 34, 35, 4, 5] (by kernel_rfl) (by kernel_rfl) ?_ ?_
    · intro j hj
      have hj' : j < 13 := hj
      rcases (by omega : j = 0 ∨ j = 1 ∨ j = 2 ∨ j = 3 ∨ j = 4 ∨ j = 5 ∨ j = 6 ∨ j = 7 ∨ j = 8 ∨ j = 9 ∨ j = 10 ∨ j = 11 ∨ j = 12) with rfl | rfl | rfl | rfl | rfl | rfl | rfl | rfl | rfl | rfl | rfl | rfl | rfl
      · -- operation 0
        (refine owes_val (L := [(0, false)]) rfl rfl rfl (by kernel_rfl) ?_; intro a' w' hb' hfacts; obtain ⟨hf0, -⟩ := hfacts; replace hf0 : a'.tmps[0]?.getD undef = .string ⟨#[]⟩ := hf0)
        have q0 := ((HS3.out.below hb').2 0 _ rfl).1; have q1 := ((HS3.out.below hb').2 1 _ rfl).1
        (go_simp; first | exact ⟨_, rfl, Below.refl _ _, rfl⟩ | exact ⟨_, rfl, Below.refl _ _, trivial⟩ | exact ⟨_, rfl, (Below.refl _ _).alloc (Nat.le_refl _) _, trivial⟩ | exact ⟨_, rfl, Below.refl _ _, congrArg (Value.int _) (IntWalk.i64_in _ (by omega))⟩)
      · -- operation 1
        (refine owes_val (L := [(8, false)]) rfl rfl rfl (by kernel_rfl) ?_; intro a' w' hb' hfacts; obtain ⟨hf8, -⟩ := hfacts; replace hf8 : a'.tmps[8]?.getD undef = .pointer (some ⟨A, 0, none⟩) := hf8)
        have q0 := ((HS3.out.below hb').2 0 _ rfl).1; have q1 := ((HS3.out.below hb').2 1 _ rfl).1
        (go_simp; first | exact ⟨_, rfl, Below.refl _ _, rfl⟩ | exact ⟨_, rfl, Below.refl _ _, trivial⟩ | exact ⟨_, rfl, (Below.refl _ _).alloc (Nat.le_refl _) _, trivial⟩ | exact ⟨_, rfl, Below.refl _ _, congrArg (Value.int _) (IntWalk.i64_in _ (by omega))⟩)
      · -- operation 2
        (refine owes_val (L := [(26, true)]) rfl rfl rfl (by kernel_rfl) ?_; intro a' w' hb' hfacts; obtain ⟨hf26, -⟩ := hfacts; try simp only [VCol5] at hf26)
        have q0 := ((HS3.out.below hb').2 0 _ rfl).1; have q1 := ((HS3.out.below hb').2 1 _ rfl).1
        (go_simp; first | exact ⟨_, rfl, Below.refl _ _, rfl⟩ | exact ⟨_, rfl, Below.refl _ _, trivial⟩ | exact ⟨_, rfl, (Below.refl _ _).alloc (Nat.le_refl _) _, trivial⟩ | exact ⟨_, rfl, Below.refl _ _, congrArg (Value.int _) (IntWalk.i64_in _ (by omega))⟩)
      · -- operation 3
        (refine owes_val (L := [(8, false)]) rfl rfl rfl (by kernel_rfl) ?_; intro a' w' hb' hfacts; obtain ⟨hf8, -⟩ := hfacts; replace hf8 : a'.tmps[8]?.getD undef = .pointer (some ⟨A, 0, none⟩) := hf8)
        have q0 := ((HS3.out.below hb').2 0 _ rfl).1; have q1 := ((HS3.out.below hb').2 1 _ rfl).1
        (go_simp; first | exact ⟨_, rfl, Below.refl _ _, rfl⟩ | exact ⟨_, rfl, Below.refl _ _, trivial⟩ | exact ⟨_, rfl, (Below.refl _ _).alloc (Nat.le_refl _) _, trivial⟩ | exact ⟨_, rfl, Below.refl _ _, congrArg (Value.int _) (IntWalk.i64_in _ (by omega))⟩)
      · -- operation 4
        (refine owes_val (L := [(28, true)]) rfl rfl rfl (by kernel_rfl) ?_; intro a' w' hb' hfacts; obtain ⟨hf28, -⟩ := hfacts; try simp only [VCol5] at hf28)
        have q0 := ((HS3.out.below hb').2 0 _ rfl).1; have q1 := ((HS3.out.below hb').2 1 _ rfl).1
        (go_simp; first | exact ⟨_, rfl, Below.refl _ _, rfl⟩ | exact ⟨_, rfl, Below.refl _ _, trivial⟩ | exact ⟨_, rfl, (Below.refl _ _).alloc (Nat.le_refl _) _, trivial⟩ | exact ⟨_, rfl, Below.refl _ _, congrArg (Value.int _) (IntWalk.i64_in _ (by omega))⟩)
      · -- operation 5
        (refine owes_val (L := [(25, true), (27, true), (29, true)]) rfl rfl rfl (by kernel_rfl) ?_; intro a' w' hb' hfacts; obtain ⟨hf25, hf27, hf29, -⟩ := hfacts; try simp only [VCol5] at hf25; try simp only [VCol5] at hf27; try simp only [VCol5] at hf29)
        have q0 := ((HS3.out.below hb').2 0 _ rfl).1; have q1 := ((HS3.out.below hb').2 1 _ rfl).1
        (go_simp; first | exact ⟨_, rfl, Below.refl _ _, rfl⟩ | exact ⟨_, rfl, Below.refl _ _, trivial⟩ | exact ⟨_, rfl, (Below.refl _ _).alloc (Nat.le_refl _) _, trivial⟩ | exact ⟨_, rfl, Below.refl _ _, congrArg (Value.int _) (IntWalk.i64_in _ (by omega))⟩)
      · -- operation 6
        (refine owes_val (L := [(1, false)]) rfl rfl rfl (by kernel_rfl) ?_; intro a' w' hb' hfacts; obtain ⟨hf1, -⟩ := hfacts; replace hf1 : a'.tmps[1]?.getD undef = .int .i64 0 := hf1)
        have q0 := ((HS3.out.below hb').2 0 _ rfl).1; have q1 := ((HS3.out.below hb').2 1 _ rfl).1
        (go_simp; first | exact ⟨_, rfl, Below.refl _ _, rfl⟩ | exact ⟨_, rfl, Below.refl _ _, trivial⟩ | exact ⟨_, rfl, (Below.refl _ _).alloc (Nat.le_refl _) _, trivial⟩ | exact ⟨_, rfl, Below.refl _ _, congrArg (Value.int _) (IntWalk.i64_in _ (by omega))⟩)
      · -- operation 7
        (refine owes_val (L := [(8, false)]) rfl rfl rfl (by kernel_rfl) ?_; intro a' w' hb' hfacts; obtain ⟨hf8, -⟩ := hfacts; replace hf8 : a'.tmps[8]?.getD undef = .pointer (some ⟨A, 0, none⟩) := hf8)
        have q0 := ((HS3.out.below hb').2 0 _ rfl).1; have q1 := ((HS3.out.below hb').2 1 _ rfl).1
        (go_simp; first | exact ⟨_, rfl, Below.refl _ _, rfl⟩ | exact ⟨_, rfl, Below.refl _ _, trivial⟩ | exact ⟨_, rfl, (Below.refl _ _).alloc (Nat.le_refl _) _, trivial⟩ | exact ⟨_, rfl, Below.refl _ _, congrArg (Value.int _) (IntWalk.i64_in _ (by omega))⟩)
      · -- operation 8
        (refine owes_val (L := [(32, true)]) rfl rfl rfl (by kernel_rfl) ?_; intro a' w' hb' hfacts; obtain ⟨hf32, -⟩ := hfacts; try simp only [VCol5] at hf32)
        have q0 := ((HS3.out.below hb').2 0 _ rfl).1; have q1 := ((HS3.out.below hb').2 1 _ rfl).1
        (go_simp; first | exact ⟨_, rfl, Below.refl _ _, rfl⟩ | exact ⟨_, rfl, Below.refl _ _, trivial⟩ | exact ⟨_, rfl, (Below.refl _ _).alloc (Nat.le_refl _) _, trivial⟩ | exact ⟨_, rfl, Below.refl _ _, congrArg (Value.int _) (IntWalk.i64_in _ (by omega))⟩)
      · -- operation 9
        (refine owes_val (L := [(31, true), (33, true)]) rfl rfl rfl (by kernel_rfl) ?_; intro a' w' hb' hfacts; obtain ⟨hf31, hf33, -⟩ := hfacts; try simp only [VCol5] at hf31; try simp only [VCol5] at hf33)
        have q0 := ((HS3.out.below hb').2 0 _ rfl).1; have q1 := ((HS3.out.below hb').2 1 _ rfl).1
        (go_simp; first | exact ⟨_, rfl, Below.refl _ _, rfl⟩ | exact ⟨_, rfl, Below.refl _ _, trivial⟩ | exact ⟨_, rfl, (Below.refl _ _).alloc (Nat.le_refl _) _, trivial⟩ | exact ⟨_, rfl, Below.refl _ _, congrArg (Value.int _) (IntWalk.i64_in _ (by omega))⟩)
      · -- operation 10
        (refine owes_val (L := [(30, true), (34, true)]) rfl rfl rfl (by kernel_rfl) ?_; intro a' w' hb' hfacts; obtain ⟨hf30, hf34, -⟩ := hfacts; try simp only [VCol5] at hf30; try simp only [VCol5] at hf34)
        go_simp
        refine (RefCells_empty 0 _).mono ?_
        rintro e w3 ⟨rfl, rfl⟩
        exact ⟨_, rfl, Below.refl _ _, rfl⟩
      · -- operation 11
        (refine owes_val (L := [(35, true)]) rfl rfl rfl (by kernel_rfl) ?_; intro a' w' hb' hfacts; obtain ⟨hf35, -⟩ := hfacts; try simp only [VCol5] at hf35)
        have q0 := ((HS3.out.below hb').2 0 _ rfl).1; have q1 := ((HS3.out.below hb').2 1 _ rfl).1
        (go_simp; first | exact ⟨_, rfl, Below.refl _ _, rfl⟩ | exact ⟨_, rfl, Below.refl _ _, trivial⟩ | exact ⟨_, rfl, (Below.refl _ _).alloc (Nat.le_refl _) _, trivial⟩ | exact ⟨_, rfl, Below.refl _ _, congrArg (Value.int _) (IntWalk.i64_in _ (by omega))⟩)
      · -- operation 12
        (refine owes_val (L := []) rfl rfl rfl (by kernel_rfl) ?_; intro a' w' hb' hfacts; clear hfacts)
        have q0 := ((HS3.out.below hb').2 0 _ rfl).1; have q1 := ((HS3.out.below hb').2 1 _ rfl).1
        (go_simp; first | exact ⟨_, rfl, Below.refl _ _, rfl⟩ | exact ⟨_, rfl, Below.refl _ _, trivial⟩ | exact ⟨_, rfl, (Below.refl _ _).alloc (Nat.le_refl _) _, trivial⟩ | exact ⟨_, rfl, Below.refl _ _, congrArg (Value.int _) (IntWalk.i64_in _ (by omega))⟩)
    · intro f W9 hf hb3
      have f4 : f 4 = .int .i64 0 := hf 4 (by decide)
      have f5 : f 5 = .int .i64 0 := hf 5 (by decide)
      have HB := Lib.hid (HB.out.trans (hb3.mono HB.out.size))
      clear hb3
      clear hf
      simp only [putAll, put_lit, List.map_cons, List.map_nil, List.set_cons_succ, List.set_cons_zero]
      simp only [f4, f5]
      go_wp2
      refine bodyPost_ret (v := .tuple #[.int .i64 0, .int .i64 0]) (by simp [results, Tryz.results14, go_sem]) rfl ⟨rfl, HB.out⟩
  · have KO := RefOf_any ⟨#[]⟩ i w (by decide)
    rw [of_bad h] at KO
    rw [col_bad h]
    have HKO := Lib.hid KO
    clear KO h
    go_enter Tryz.func14, Tryz.ntmps14
    go_wp2_with fail
    refine HKO.out.mono ?_
    rintro e w1 ⟨rfl, hb⟩
    have HB := Lib.hid hb
    clear hb
    go_wp2
    refine bodyPost_ret (v := .tuple #[.int .i64 0, .int .i64 1]) (by simp [results, Tryz.results14, go_sem]) rfl ⟨rfl, HB.out⟩

set_option maxRecDepth 100000 in
set_option maxHeartbeats 1000000 in
theorem RefAt_empty (l c : Int) (w : World) : Calls Tryz.prog 16 #[.string ⟨#[]⟩, .int .i64 l, .int .i64 c] w fun e w' => e = .returned (.tuple #[.int .i64 (atA ⟨#[]⟩ l c).1, .int .i64 (atA ⟨#[]⟩ l c).2]) ∧ Below w.heap.size w w' := by
  have KS := RefSpan_any ⟨#[]⟩ l w (by decide)
  by_cases h : l = 0
  · subst h
    rw [span0] at KS
    rw [at0]
    have HKS := Lib.hid KS
    have hz := E0_size
    clear KS
    go_enter Tryz.func16, Tryz.ntmps16
    go_wp2_with fail
    refine HKS.out.mono ?_
    rintro e w2 ⟨rfl, hb⟩
    have HB := Lib.hid hb
    clear hb
    obtain ⟨w3, hw3, S3, b3, -⟩ := boxL1 w2 [.int .i64 0, .int .i64 0] 41
    have HE3 := Lib.hid hw3
    have HS3 := Lib.hid S3
    clear hw3 S3
    have HB := Lib.hid (HB.out.trans (b3.mono HB.out.size))
    clear b3
    have hx : (⟨#[]⟩ : ByteArray).extract 0 0 = ⟨#[]⟩ := by decide +kernel
    go_wp2_with fail
    rw [HE3.out]
    refine (RefList_empty w3).mono ?_
    rintro e w4 ⟨rfl, rfl⟩
    go_wp2
    go_loopw [12, 13] (fun i j wr => i = .int .i64 0 ∧ j = .int .i64 0 ∧ wr = w4) (fun _ _ _ => 0)
    case atStart => exact ⟨rfl, rfl, rfl⟩
    case round =>
      obtain ⟨rfl, rfl, rfl⟩ := hrel
      have d0 := (HS3.out.2 0 _ rfl).1
      go_wp2
      refine bodyPost_ret (v := .tuple #[.int .i64 0, .int .i64 0]) (by simp [results, Tryz.results16, go_sem]) rfl ⟨rfl, HB.out⟩
  · rw [span_bad h] at KS
    rw [at_bad c h]
    have HKS := Lib.hid KS
    clear KS h
    go_enter Tryz.func16, Tryz.ntmps16
    go_wp2_with fail
    refine HKS.out.mono ?_
    rintro e w2 ⟨rfl, hb⟩
    have HB := Lib.hid (hb.alloc hb.size (.cells #[.int .i64 0, .int .i64 0] 41))
    clear hb
    go_wp2
    refine bodyPost_ret (v := .tuple #[.int .i64 0, .int .i64 1]) (by simp [results, Tryz.results16, go_sem]) rfl ⟨rfl, HB.out⟩
end Go.Proofs.YtgmpohdkignadaaGreatDoor.Ut
/-
  The law LinesNil, walked. Condition: the two tables of unicode/utf8 lie as laid.
-/
namespace Go.Proofs.YtgmpohdkignadaaGreatDoor.Ut
open Go.RowKit Go.Proofs.YtgmpohdkignadaaGreatDoor.Reg Go.ChangeShapes Go.WideShapes Go.ChangeAt Go.Deep Go.Joins Go.Proofs.YtgmpohdkignadaaGreatDoor.Row
set_option linter.unusedVariables false
set_option linter.unusedSimpArgs false
attribute [local go_sem] Oper.semAt_some

/-- The law of a range over an iterator where nothing is laid for the loop's variables. -/
theorem rangeFunc_skip {F : Fence} {n : Nat} {P : Program} {α : Type} {g : Operand} {ps : Array Tmp} {body : Code} {Q : Exit → Act → World → Prop} {a : Act} {w : World}
    (hro : F.round = none) (h1 : 1 ≤ n) {gf : Nat} {lb : Array Value} (hg : a.eval g = .func (.func gf) #[] lb) (hFg : F.fn gf) (eg : ∀ args w, (callFunc gf args).run P w = .ok (.enter gf args) w)
    {encs : α → Array Value} {Kp : World → World → Prop} {S Sp : List α → Prop} {N : Nat} {w0 : World} (hseq : SeqStopsK F (n - 1) P gf lb encs Kp S Sp N w0)
    (hKt : ∀ {A B C : World}, Kp A B → Kp B C → Kp A C) (hKr : ∀ W, Kp W W) (hKb : ∀ (W : World) (l : Nat) (o o' : Obj), w.heap.size ≤ l → W.heap[l]? = some o → o.isCells = false → o.isWalk = false → Kp W (W.putObj l o')) (hb0 : Below w0.heap.size w0 w) (hps : ∀ x, (encs x).size = ps.size)
    (I : List α → World → Prop) (Ix : Code → List α → World → Prop) (hI : OwnFrom w.heap.size I) (hIx : ∀ c, OwnFrom w.heap.size (Ix c)) (h0 : I [] w)
    (hbody : ∀ (l : Nat) (pre : List α) (x : α) (W : World), w.heap.size ≤ l → I pre W → pre.length < N → body.wpIn (F.inRound l) (n - 1 - 1) P (ownPostG w.heap.size Kp I Ix (pre ++ [x]) W) { tmps := (ps.zip (encs x)).foldl (fun t (p, v) => t.setIfInBounds p v) a.tmps, defers := [] } W)
    (hdone : ∀ (D : Nat) (xs : List α) (W : World), w.heap.size ≤ D → S xs → I xs W → W.heap[D]? = some (.deferred (some [])) → Q .normal { a with defers := { target := .collected D, args := #[] } :: a.defers } W)
    (hstop : ∀ (D : Nat) (c : Code) (pre : List α) (W : World), w.heap.size ≤ D → Sp pre → Ix c pre W → W.heap[D]? = some (.deferred (some [])) → c.wpIn F n P Q { a with defers := { target := .collected D, args := #[] } :: a.defers } W) :
    (Code.rangeFunc g ps .skip body).wpIn F n P Q a w := by
  refine wpIn_rangeFunc_ownH hro h1 hg hFg eg hseq hKt hKb hb0 hps I Ix hI hIx h0 (fun x a' _ => a' = { tmps := (ps.zip (encs x)).foldl (fun t (p, v) => t.setIfInBounds p v) a.tmps, defers := [] }) (fun _ _ _ _ _ _ h _ _ => h)
    (fun l pre x W K hI hK => ?_) (fun l pre x a' W hl hr hI ha hlt => ?_) hdone hstop
  · gi_wp2
    have e : (ps.zip (encs x)).size = ps.size := by simp [hps x]
    exact hK _ _ (KeepsFrom.refl _ _) (hKr _) hI (by simp [hps x])
  · subst ha
    exact hbody l pre x W hl hI hlt

theorem text_box {W : World} {v : Value} {s : ByteArray} (h : TextIs W v s) (t : TypeId) : ∃ W', W.alloc (.cells #[v] t) = W' ∧ W'.cell? ⟨W.heap.size, 0, none⟩ = some v ∧ Below W.heap.size W W' :=
  ⟨_, rfl, (Boxed.new W t v).cell, (Below.refl _ _).alloc (Nat.le_refl _) _⟩
theorem ownOk_one (B : Nat) : OwnOk (fun _ k => k = B) := ⟨fun _ _ _ _ h => h, fun _ _ _ _ _ _ _ h => h⟩
theorem kpL_set (B : Nat) (W : World) (v : Value) : KpL (fun _ k => k = B) W (W.setCell ⟨B, 0, none⟩ v) :=
  ⟨(Chg.set W _ _).size, fun g vs hL hm => ⟨hL.chg (Chg.set W ⟨B, 0, none⟩ v) hm, hm⟩⟩

set_option maxRecDepth 100000 in
set_option maxHeartbeats 4000000 in
theorem empty_any (v : Value) (n l c : Int) (w : World) (hX0 : TextIs w v emptyB) (hT : Tabs w) :
    Calls Tryz.prog 27 #[v, .int .i64 n, .agg #[.int .i64 l, .int .i64 c]] w fun e w' => e = .returned (.bool true) ∧ Below w.heap.size w w' := by
  have hX1 : TextIs w v ⟨#[]⟩ := hX0
  obtain ⟨W0, hW0, A0, b0, hsz⟩ := boxL1 w [.int .i64 l, .int .i64 c] 37
  have HE := Lib.hid hW0
  have HA := Lib.hid A0
  have HB := Lib.hid b0
  have HX := Lib.hid (hX1.below b0)
  have HT := Lib.hid (tabs_below hT b0)
  have hform := hX0.form
  have KO := fun v w h => LnOf_all v ⟨#[]⟩ n w h
  have RO := fun w => RefOf_any ⟨#[]⟩ n w (by decide)
  have KS := fun v w h => LnSpan_all v ⟨#[]⟩ n w h
  have RS := fun w => RefSpan_any ⟨#[]⟩ n w (by decide)
  have KL := fun v w h => LnLine_all v ⟨#[]⟩ n w h
  have RL := fun w => RefLine_any ⟨#[]⟩ n w (by decide)
  have KC := fun v w h hT => LnColumn_all v ⟨#[]⟩ n w h hT
  have RC := fun w => RefColumn_empty n w
  have KA := fun v w h hT => LnAt_all v ⟨#[]⟩ l c w h hT
  have RA := fun w => RefAt_empty l c w
  have KN := fun v w h => LnCount_any v ⟨#[]⟩ w h
  obtain ⟨⟨x1, x2⟩, hx⟩ : ∃ p, ofA (⟨#[]⟩ : ByteArray) n = p := ⟨_, rfl⟩
  obtain ⟨⟨y1, y2, y3⟩, hy⟩ : ∃ p, spanA (⟨#[]⟩ : ByteArray) n = p := ⟨_, rfl⟩
  obtain ⟨⟨z1, z2⟩, hz⟩ : ∃ p, lineA (⟨#[]⟩ : ByteArray) n = p := ⟨_, rfl⟩
  obtain ⟨⟨r1, r2⟩, hr⟩ : ∃ p, colA (⟨#[]⟩ : ByteArray) n = p := ⟨_, rfl⟩
  obtain ⟨⟨t1, t2⟩, ht⟩ : ∃ p, atA (⟨#[]⟩ : ByteArray) l c = p := ⟨_, rfl⟩
  have hn1 : (((nlF (⟨#[]⟩ : ByteArray) : Nat) : Int) + 1) = 1 := by rw [nl0]; rfl
  simp only [hx] at KO RO
  simp only [hy] at KS RS
  simp only [hz] at KL RL
  simp only [hr] at KC RC
  simp only [ht] at KA RA
  simp only [hn1] at KN
  have KO := Lib.hid KO
  have RO := Lib.hid RO
  have KS := Lib.hid KS
  have RS := Lib.hid RS
  have KL := Lib.hid KL
  have RL := Lib.hid RL
  have KC := Lib.hid KC
  have RC := Lib.hid RC
  have KA := Lib.hid KA
  have RA := Lib.hid RA
  have KN := Lib.hid KN
  clear hx hy hz hr ht hn1 hW0 A0 b0 hsz hX0 hX1 hT
  rcases hform with rfl | ⟨vt, vx, rfl⟩
  all_goals
    refine (callsIn_wide (n := 3)).1 ?_
    refine callsIn_of_wp_marks Tryz.func27 rfl trivial ?_ rfl
    simp only [Tryz.ntmps27, List.size_toArray, List.length_cons, List.length_nil, Nat.reduceAdd, Nat.reduceSub, Array.replicate_succ, Array.replicate_zero, List.push_toArray, List.append_toArray, List.nil_append, List.cons_append]
    refine wpIn_wide.2 ?_
    go_wp2_with fail
    rw [HE.out]
    refine (KO.out _ W0 HX.out).mono ?_
    rintro e w1 ⟨rfl, hb⟩
    have HA := Lib.hid (HA.out.below hb)
    have HX := Lib.hid (HX.out.below hb)
    have HT := Lib.hid (tabs_below HT.out hb)
    have HB := Lib.hid (HB.out.trans (hb.mono HB.out.size))
    clear hb
    go_wp2_with fail
    refine (RO.out w1).mono ?_
    rintro e w2 ⟨rfl, hb⟩
    have HA := Lib.hid (HA.out.below hb)
    have HX := Lib.hid (HX.out.below hb)
    have HT := Lib.hid (tabs_below HT.out hb)
    have HB := Lib.hid (HB.out.trans (hb.mono HB.out.size))
    clear hb
    go_wp2_with fail
    refine (KS.out _ w2 HX.out).mono ?_
    rintro e w3 ⟨rfl, hb⟩
    have HA := Lib.hid (HA.out.below hb)
    have HX := Lib.hid (HX.out.below hb)
    have HT := Lib.hid (tabs_below HT.out hb)
    have HB := Lib.hid (HB.out.trans (hb.mono HB.out.size))
    clear hb
    obtain ⟨w4, hw4, S4, b4, -⟩ := boxL1 w3 [.int .i64 y1, .int .i64 y2] 41
    have HE4 := Lib.hid hw4
    have HS4 := Lib.hid S4
    clear hw4 S4
    have HA := Lib.hid (HA.out.below b4)
    have HX := Lib.hid (HX.out.below b4)
    have HT := Lib.hid (tabs_below HT.out b4)
    have HB := Lib.hid (HB.out.trans (b4.mono HB.out.size))
    clear b4
    go_wp2_with fail
    rw [HE4.out]
    refine (RS.out w4).mono ?_
    rintro e w5 ⟨rfl, hb⟩
    have HA := Lib.hid (HA.out.below hb)
    have HX := Lib.hid (HX.out.below hb)
    have HS4 := Lib.hid (HS4.out.below hb)
    have HT := Lib.hid (tabs_below HT.out hb)
    have HB := Lib.hid (HB.out.trans (hb.mono HB.out.size))
    clear hb
    obtain ⟨w6, hw6, S6, b6, -⟩ := boxL1 w5 [.int .i64 y1, .int .i64 y2] 41
    have HE6 := Lib.hid hw6
    have HS6 := Lib.hid S6
    clear hw6 S6
    have HA := Lib.hid (HA.out.below b6)
    have HX := Lib.hid (HX.out.below b6)
    have HS4 := Lib.hid (HS4.out.below b6)
    have HT := Lib.hid (tabs_below HT.out b6)
    have HB := Lib.hid (HB.out.trans (b6.mono HB.out.size))
    clear b6
    go_wp2_with fail
    rw [HE6.out]
    refine (KN.out _ w6 HX.out).mono ?_
    rintro e w7 ⟨rfl, hb⟩
    have HA := Lib.hid (HA.out.below hb)
    have HX := Lib.hid (HX.out.below hb)
    have HS4 := Lib.hid (HS4.out.below hb)
    have HS6 := Lib.hid (HS6.out.below hb)
    have HT := Lib.hid (tabs_below HT.out hb)
    have HB := Lib.hid (HB.out.trans (hb.mono HB.out.size))
    clear hb
    have d0 := (HS4.out.2 0 _ rfl).1
    have d1 := (HS4.out.2 1 _ rfl).1
    have d2 := (HS6.out.2 0 _ rfl).1
    have d3 := (HS6.out.2 1 _ rfl).1
    go_wp2_with fail
    refine (KL.out _ w7 HX.out).mono ?_
    rintro e w8 ⟨rfl, hb⟩
    have HA := Lib.hid (HA.out.below hb)
    have HX := Lib.hid (HX.out.below hb)
    have HT := Lib.hid (tabs_below HT.out hb)
    have HB := Lib.hid (HB.out.trans (hb.mono HB.out.size))
    clear hb
    clear d0 d1 d2 d3
    go_wp2_with fail
    refine (RL.out w8).mono ?_
    rintro e w9 ⟨rfl, hb⟩
    have HA := Lib.hid (HA.out.below hb)
    have HX := Lib.hid (HX.out.below hb)
    have HT := Lib.hid (tabs_below HT.out hb)
    have HB := Lib.hid (HB.out.trans (hb.mono HB.out.size))
    clear hb
    go_wp2_with fail
    refine (KC.out _ w9 HX.out HT.out).mono ?_
    rintro e w10 ⟨rfl, hb⟩
    have HA := Lib.hid (HA.out.below hb)
    have HX := Lib.hid (HX.out.below hb)
    have HT := Lib.hid (tabs_below HT.out hb)
    have HB := Lib.hid (HB.out.trans (hb.mono HB.out.size))
    clear hb
    go_wp2_with fail
    refine (RC.out w10).mono ?_
    rintro e w11 ⟨rfl, hb⟩
    have HA := Lib.hid (HA.out.below hb)
    have HX := Lib.hid (HX.out.below hb)
    have HT := Lib.hid (tabs_below HT.out hb)
    have HB := Lib.hid (HB.out.trans (hb.mono HB.out.size))
    clear hb
    have c0 := (HA.out.2 0 _ rfl).1
    have c1 := (HA.out.2 1 _ rfl).1
    go_wp2_with fail
    refine (KA.out _ w11 HX.out HT.out).mono ?_
    rintro e w12 ⟨rfl, hb⟩
    have HA := Lib.hid (HA.out.below hb)
    have HX := Lib.hid (HX.out.below hb)
    have HT := Lib.hid (tabs_below HT.out hb)
    have HB := Lib.hid (HB.out.trans (hb.mono HB.out.size))
    clear hb
    clear c0 c1
    have c0 := (HA.out.2 0 _ rfl).1
    have c1 := (HA.out.2 1 _ rfl).1
    go_wp2_with fail
    refine (RA.out w12).mono ?_
    rintro e w13 ⟨rfl, hb⟩
    have HX := Lib.hid (HX.out.below hb)
    have HT := Lib.hid (tabs_below HT.out hb)
    have HB := Lib.hid (HB.out.trans (hb.mono HB.out.size))
    clear hb
    clear c0 c1
    obtain ⟨w14, hw14⟩ : ∃ w14, w13.alloc (.cells #[.int .i64 0] 3) = w14 := ⟨_, rfl⟩
    have C14 := Boxed.new w13 3 (.int .i64 0)
    have b14 : Below w13.heap.size w13 (w13.alloc (.cells #[.int .i64 0] 3)) := (Below.refl _ _).alloc (Nat.le_refl _) _
    rw [hw14] at C14 b14
    have HE14 := Lib.hid hw14
    have hB13 : w.heap.size ≤ w13.heap.size := HB.out.size
    have HX := Lib.hid (HX.out.below b14)
    have HT := Lib.hid (tabs_below HT.out b14)
    have HB := Lib.hid (HB.out.trans (b14.mono HB.out.size))
    clear b14
    obtain ⟨w15, hw15, X15, b15⟩ := text_box HX.out 28
    have HE15 := Lib.hid hw15
    have HXb := Lib.hid X15
    have HC15 := Lib.hid (boxed_below C14 b15)
    have hfn := eq_fn (.func 48) #[] #[.pointer (some ⟨w14.heap.size, 0, none⟩)]
    have HL := Lib.hid (LnLines_any _ w14 HX.out.form)
    have hn1 : (((nlF (⟨#[]⟩ : ByteArray) : Nat)) + 1) = 1 := by rw [nl0]
    have HX := Lib.hid (HX.out.below b15)
    have HT := Lib.hid (tabs_below HT.out b15)
    have HB := Lib.hid (HB.out.trans (b15.mono HB.out.size))
    clear b15
    clear hw14 C14 hw15 X15
    go_wp2_with fail
    rw [HE14.out]
    refine HL.out.mono ?_
    rintro e w16 ⟨rfl, rfl⟩
    go_wp2_with fail
    rw [HE15.out]
    have hCl := HC15.out.lt
    generalize w14.heap.size = bx at HXb ⊢
    generalize w13.heap.size = B at HC15 hB13 hCl ⊢
    clear hfn HL
    refine (wpIn_wide (n := 3)).1 ?_
    refine rangeFunc_skip rfl (by omega) (gf := 48) (lb := #[.pointer (some ⟨bx, 0, none⟩)]) rfl trivial (enters_of Tryz.func48 (by kernel_rfl) rfl)
      (lines_stops _ (by omega) bx _ ⟨#[]⟩ w15 w15 HX.out (Below.refl _ _) HXb.out (fun _ k => k = B) (ownOk_one B) (fun k hk => by rw [hk]; exact hCl)) KpL.trans (KpL.refl _) (kpL_b (ownOk_one B)) (Below.refl _ _) (fun _ => rfl)
      (fun pre W => Boxed W B 3 (.int .i64 pre.length) ∧ Below w.heap.size w W) (fun _ _ _ => False)
      (OwnFrom.and (Own.from (boxed_own _ _ _) _) (ownFrom_below (Nat.le_refl _) HB.out.size)) (fun _ _ _ _ _ h _ _ => h) ⟨HC15.out, HB.out⟩ ?body ?done ?stop
    case body =>
      rintro l2 pre x W hl2 ⟨hv, hbw⟩ hlt
      have hc := hv.cell
      have hf := hv.frozen
      have hpl : pre.length < 1 := by simpa [hn1] using hlt
      have hw : IntKind.i64.wrap ((pre.length : Int) + 1) = (pre.length : Int) + 1 := IntWalk.i64_in _ (by omega)
      have HBw := Lib.hid hbw
      have HV := Lib.hid hv
      unfold spanV
      clear hbw hv
      gi_wp2
      refine ⟨(KeepsOthers.setCell _ _ _).from _, kpL_set B W _, ?_, ?_⟩
      · simpa using HV.out.set (.int .i64 ((pre.length : Int) + 1))
      · exact chg_mine HBw.out (Chg.set W ⟨B, 0, none⟩ _) hB13
    case done =>
      rintro D xs W hD rfl ⟨hv, hbw⟩ hK
      have hc := hv.cell
      have hwD : w.heap.size ≤ D := Nat.le_trans HB.out.size hD
      have e1 : (((List.range (nlF (⟨#[]⟩ : ByteArray) + 1)).length : Nat) : Int) = 1 := by rw [hn1]; rfl
      rw [e1] at hc
      have HBw := Lib.hid hbw
      have HK := Lib.hid hK
      clear hv hbw e1 hK
      go_wp2
      refine ⟨by simp, .inl ⟨_, _, rfl, run_takeDeferred HK.out, ?_⟩⟩
      exact ⟨.bool true, by simp [results, Tryz.results27, go_sem], rfl, HBw.out.trans (belowK_b (w := w) (Nat.le_refl _) W D _ _ hwD HK.out rfl rfl)⟩
    case stop =>
      rintro D c pre W _ _ h _
      exact h.elim

set_option maxRecDepth 100000 in
set_option maxHeartbeats 1000000 in
theorem law_LinesNil (n l c : Int) (w : World) (hT : Tabs w) :
    Calls Tryz.prog 8 #[.int .i64 n, .agg #[.int .i64 l, .int .i64 c]] w fun e w' => e = .returned (.bool true) ∧ Below w.heap.size w w' := by
  obtain ⟨W0, hW0, A0, b0, hsz⟩ := boxL1 w [.int .i64 l, .int .i64 c] 37
  have HE := Lib.hid hW0
  have HA := Lib.hid A0
  have HB := Lib.hid b0
  have HT := Lib.hid (tabs_below hT b0)
  clear hW0 A0 b0 hsz hT
  go_enter Tryz.func8, Tryz.ntmps8
  go_wp2_with fail
  rw [HE.out]
  refine (awake_any W0 HT.out).mono ?_
  rintro e w1 ⟨rfl, hb⟩
  have HA := Lib.hid (HA.out.below hb)
  have HT := Lib.hid (tabs_below HT.out hb)
  have HB := Lib.hid (HB.out.trans (hb.mono HB.out.size))
  clear hb
  have c0 := (HA.out.2 0 _ rfl).1
  have c1 := (HA.out.2 1 _ rfl).1
  go_wp2_with fail
  refine (empty_any .nilIface n l c w1 (text_nil _) HT.out).mono ?_
  rintro e w2 ⟨rfl, hb⟩
  have HA := Lib.hid (HA.out.below hb)
  have HT := Lib.hid (tabs_below HT.out hb)
  have HB := Lib.hid (HB.out.trans (hb.mono HB.out.size))
  clear hb
  clear c0 c1
  have c0 := (HA.out.2 0 _ rfl).1
  have c1 := (HA.out.2 1 _ rfl).1
  go_wp2_with fail
  refine (empty_any (.iface 56 (.pointer none)) n l c w2 (text56 (hasS_nil HT.out)) HT.out).mono ?_
  rintro e w3 ⟨rfl, hb⟩
  have HA := Lib.hid (HA.out.below hb)
  have HT := Lib.hid (tabs_below HT.out hb)
  have HB := Lib.hid (HB.out.trans (hb.mono HB.out.size))
  clear hb
  clear c0 c1
  have c0 := (HA.out.2 0 _ rfl).1
  have c1 := (HA.out.2 1 _ rfl).1
  go_wp2_with fail
  refine (empty_any (.iface 57 (.pointer none)) n l c w3 (text57 (hasG_nil HT.out)) HT.out).mono ?_
  rintro e w4 ⟨rfl, hb⟩
  have HB := Lib.hid (HB.out.trans (hb.mono HB.out.size))
  clear hb
  clear c0 c1
  go_wp2
  go_ret
  exact ⟨rfl, HB.out⟩

set_option maxRecDepth 100000 in
theorem calls_LinesNil {H : Type} {enc : TypeId × Value → H} {W : World} {base : Nat} {v0 v1 : Value} {d0 d1 : DataW H} {p0 p1 : List MemPlace} (hL : laidMetH Tryz.prog Rows.linesNilRow.laid W)
    (o0 : Value.okWide Tryz.prog W .any base 3 v0) (h0 : DataW.Trod enc Tryz.prog W 0 (fun _ => true) true 3 v0 d0 p0) (w0 : ∀ n ∈ d0.weights Tryz.prog 3, n ≤ reachBytes)
    (o1 : Value.okWide Tryz.prog W .any base 37 v1) (h1 : DataW.Trod enc Tryz.prog W 0 (fun _ => true) true 37 v1 d1 p1) (w1 : ∀ n ∈ d1.weights Tryz.prog 37, n ≤ reachBytes) :
    Calls Tryz.prog 8 #[v0, v1] W fun e W' => e = .returned (.bool true) ∧ Below W.heap.size W W' := by
  obtain ⟨x, rfl, rfl, rfl, hx⟩ := open_int Tryz.underlying3 o0 h0
  obtain ⟨l, c, rfl⟩ := open_spot o1 h1
  exact law_LinesNil x l c W (tabs_of_laid hL)
end Go.Proofs.YtgmpohdkignadaaGreatDoor.Ut
