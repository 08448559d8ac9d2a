/-
  The law MarksMoved, walked: it returns true. No condition but what every argument bears.
-/
import Derived.Test.YtdkdnkmfjpdcpaaDoorMkOpen
import Derived.Test.YtdkdnkmfjpdcpaaDoorMkLays
namespace Go.Proofs.YtdkdnkmfjpdcpaaDoor.Mk
open Go.RowKit
set_option linter.unusedVariables false
set_option linter.unusedSimpArgs false

theorem wf64 {x : Int} (h : (Lit.int .i64 x).wf = true) : -9223372036854775808 ≤ x ∧ x ≤ 9223372036854775807 := by
  simpa [Lit.wf, IntKind.min, IntKind.max, IntKind.signed, IntKind.bits] using h

theorem one_eq (p : Int) (d : Dl) (hp : -9223372036854775808 ≤ p ∧ p ≤ 9223372036854775807) (h0 : 0 ≤ d.pos) (h1 : d.pos ≤ 1099511627776) (ho : d.out.size ≤ reachBytes) (hi : d.inn.size ≤ reachBytes) :
    one p d = oneR p d ∧ -9223372036854775808 ≤ one p d ∧ one p d ≤ 9223372036854775807 := by
  unfold reachBytes at ho hi
  unfold one oneR wrap64
  by_cases hle : p ≤ d.pos
  · rw [if_pos hle, if_pos hle]; exact ⟨rfl, hp⟩
  · rw [if_neg hle, if_neg hle]
    have e1 : (p - d.pos + 9223372036854775808) % 18446744073709551616 - 9223372036854775808 = p - d.pos := by omega
    have e2 : (d.pos + (d.out.size : Int) + 9223372036854775808) % 18446744073709551616 - 9223372036854775808 = d.pos + d.out.size := by omega
    rw [e1, e2]
    by_cases hlt : p - d.pos < d.out.size
    · rw [if_pos hlt, if_pos (by omega)]; exact ⟨rfl, by omega, by omega⟩
    · rw [if_neg hlt, if_neg (by omega)]
      clear e1 e2
      omega

theorem moved_eq (ds : List Dl) (hd : ∀ d ∈ ds, (0 ≤ d.pos ∧ d.pos ≤ 1099511627776) ∧ d.out.size ≤ reachBytes ∧ d.inn.size ≤ reachBytes) : ∀ p : Int, (-9223372036854775808 ≤ p ∧ p ≤ 9223372036854775807) →
    moved p ds = movedR p ds ∧ -9223372036854775808 ≤ moved p ds ∧ moved p ds ≤ 9223372036854775807 := by
  induction ds with
  | nil => intro p hp; exact ⟨rfl, hp⟩
  | cons d r ih =>
    intro p hp
    obtain ⟨⟨h0, h1⟩, ho, hi⟩ := hd d List.mem_cons_self
    obtain ⟨e, hr⟩ := one_eq p d hp h0 h1 ho hi
    have := ih (fun x hx => hd x (List.mem_cons_of_mem _ hx)) (one p d) hr
    simp only [moved, movedR, List.foldl_cons] at this ⊢
    rw [← e]
    exact this

theorem far_false {p : Int} {ds : List Dl} (h : farF p ds = false) : (0 ≤ p ∧ p ≤ 1099511627776) ∧ ∀ d ∈ ds, 0 ≤ d.pos ∧ d.pos ≤ 1099511627776 := by
  unfold farF at h
  rw [Bool.or_eq_false_iff] at h
  obtain ⟨h1, h2⟩ := h
  refine ⟨by have := of_decide_eq_false h1; omega, fun d hd => ?_⟩
  rw [List.any_eq_false] at h2
  have := h2 d hd
  simp only [decide_eq_true_eq] at this
  omega

set_option maxRecDepth 100000 in
set_option maxHeartbeats 1000000 in
theorem law_MarksMoved (p : Int) (A : Option Addr) (ds : List Dl) (c : Nat) (w : World) (hp : (Lit.int .i64 p).wf = true) (hd : DlsAt w A ds) (hl : ds.length ≤ 9223372036854775807) (hok : ∀ x ∈ ds, DlOk x) :
    Calls Tryd.prog 3 #[.int .i64 p, .slice A ds.length c] w fun e w' => e = .returned (.bool true) ∧ Below w.heap.size w w' := by
  have HD := Lib.hid hd
  have HOK := Lib.hid hok
  clear hd hok
  go_enter Tryd.func3, Tryd.ntmps3
  go_wp2_with (go_at_call 12; refine (lays_true _).mono ?_; rintro e w1 ⟨rfl, hb1⟩)
  go_loopw [9] (fun i wr => ∃ k : Nat, k ≤ 256 ∧ i = .int .i64 k ∧ Below w.heap.size w wr) (fun i _ => 256 - (intOf i).toNat)
  case atStart => exact ⟨0, by omega, rfl, hb1⟩
  case round =>
    obtain ⟨k, hk, rfl, hb⟩ := hrel
    by_cases hlt : k < 256
    · have HB := Lib.hid hb
      clear hb
      go_wp2_with (first
        | (go_at_call 13; refine (Good_any _ _).mono ?_; rintro e w' ⟨rfl, rfl⟩)
        | (go_at_call 14; refine (GoodR_any _ _).mono ?_; rintro e w' ⟨rfl, rfl⟩))
      go_roundw
      case rel => exact ⟨k + 1, by omega, by go_num, HB.out⟩
      case measure => simp [intOf]; omega
    · have HB := Lib.hid hb
      clear hb
      go_wp2_with fail
      refine (Moved_any p A ds c _ hl (HD.out.below HB.out)).mono ?_
      rintro e w2 ⟨rfl, hb2⟩
      have HB2 := Lib.hid (HB.out.trans (hb2.mono HB.out.size))
      clear hb2
      go_wp2_with fail
      refine (far_any p A ds c _ hl (HD.out.below HB2.out)).mono ?_
      rintro e w3 ⟨rfl, hb3⟩
      have HB3 := Lib.hid (HB2.out.trans (hb3.mono HB2.out.size))
      clear hb3
      cases hf : farF p ds with
      | true =>
        go_wp2
        go_ret
        exact ⟨rfl, HB3.out⟩
      | false =>
        obtain ⟨hp1, hd1⟩ := far_false hf
        have HE : Hid (moved p ds = movedR p ds) := (moved_eq ds (fun d hd => ⟨hd1 d hd, (HOK.out d hd).2⟩) p (by omega)).1
        clear hf hp1 hd1
        rw [HE.out]
        go_wp2_with fail
        refine (MovedR_any p A ds c _ hl (HD.out.below HB3.out)).mono ?_
        rintro e w4 ⟨rfl, hb4⟩
        have HB4 := Lib.hid (HB3.out.trans (hb4.mono HB3.out.size))
        clear hb4
        go_wp2
        go_ret
        exact ⟨rfl, HB4.out⟩
end Go.Proofs.YtdkdnkmfjpdcpaaDoor.Mk
