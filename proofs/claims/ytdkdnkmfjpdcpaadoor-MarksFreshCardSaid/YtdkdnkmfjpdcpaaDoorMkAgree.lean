/-
  bodkinlaw10.agree: a set and the document's set that hold the same marks agree. No condition.
-/
import Derived.Test.YtdkdnkmfjpdcpaaDoorMkSt
import Derived.Test.YtdkdnkmfjpdcpaaDoorMkSame
namespace Go.Proofs.YtdkdnkmfjpdcpaaDoor.Mk
open Go.RowKit Go.Maps Go.Proofs.YtdkdnkmfjpdcpaaDoor.Reg
set_option linter.unusedVariables false
set_option linter.unusedSimpArgs false

set_option maxRecDepth 100000 in
set_option maxHeartbeats 1000000 in
theorem agree_any {w0 : World} {b c : Nat} {l : ML} (w : World) (hs : St w0 w b l) (hr : Rt w0 w c l) :
    Calls Tryd.prog 30 #[.pointer (some ⟨b, 0, none⟩), .pointer (some ⟨c, 0, none⟩)] w fun e w' => e = .returned (.bool true) ∧ Below w.heap.size w w' := by
  have HS := Lib.hid hs
  have HR := Lib.hid hr
  have hl := hs.ok.length
  clear hs hr
  go_enter Tryd.func30, Tryd.ntmps30
  go_wp2_with fail
  refine HS.out.all.mono ?_
  rintro e w1 ⟨A1, c1, rfl, hr1, hb1⟩
  have HR1 := Lib.hid hr1
  have HB1 := Lib.hid hb1
  clear hr1 hb1
  go_wp2_with fail
  refine (HR.out.below HB1.out).all.mono ?_
  rintro e w2 ⟨A2, c2, rfl, hr2, hb2⟩
  have HR2 := Lib.hid hr2
  have HM1 := Lib.hid ((MksAt.of_row HR1.out).below hb2)
  have HB2 := Lib.hid (HB1.out.trans (hb2.mono HB1.out.size))
  clear hr2 hb2
  go_wp2_with fail
  refine (Same_any A1 A2 l l c1 c2 w2 HM1.out (MksAt.of_row HR2.out) (by omega) (by omega)).mono ?_
  rintro e w3 ⟨rfl, hb3⟩
  rw [decide_eq_true rfl]
  have HB3 := Lib.hid (HB2.out.trans (hb3.mono HB2.out.size))
  clear hb3
  go_wp2_with fail
  refine (HS.out.below HB3.out).len.mono ?_
  rintro e w4 ⟨rfl, rfl⟩
  go_wp2_with fail
  refine (HR.out.below HB3.out).len.mono ?_
  rintro e w5 ⟨rfl, rfl⟩
  go_wp2
  go_loopw [5] (fun i wr => ∃ k : Nat, 64 ≤ k ∧ k ≤ 124 ∧ i = .int .u8 k ∧ Below w.heap.size w wr) (fun i _ => 124 - (intOf i).toNat)
  case atStart => exact ⟨64, by omega, by omega, rfl, HB3.out⟩
  case round =>
    obtain ⟨k, hk0, hk, rfl, hb⟩ := hrel
    have HB := Lib.hid hb
    have hwn : (Lit.int .u8 (k : Int)).wf = true := by
      simp only [Lit.wf, Bool.and_eq_true, decide_eq_true_eq, IntKind.min, IntKind.max, IntKind.signed, IntKind.bits]
      simp
      omega
    clear hb
    by_cases hlt : k ≤ 123
    · have h1 : (k : Int) ≤ 123 := by omega
      go_wp2_with fail
      refine ((HS.out.below HB.out).get k hwn).mono ?_
      rintro e w6 ⟨rfl, rfl⟩
      go_wp2_with fail
      refine ((HR.out.below HB.out).get k).mono ?_
      rintro e w7 ⟨rfl, rfl⟩
      generalize getE l k = p at *
      obtain ⟨p1, p2⟩ := p
      have hwr : IntKind.u8.wrap ((k : Int) + 1) = (k : Int) + 1 := by
        have h0 : (0 : Int) ≤ k := by omega
        simp only [IntKind.wrap, IntKind.signed, IntKind.bits]
        simp
        omega
      go_wp2
      go_roundw
      case rel => exact ⟨k + 1, by omega, by omega, by go_num, HB.out⟩
      case measure => simp [intOf]; omega
    · have h1 : ¬ (k : Int) ≤ 123 := by omega
      go_wp2
      go_ret
      exact ⟨rfl, HB.out⟩
end Go.Proofs.YtdkdnkmfjpdcpaaDoor.Mk
