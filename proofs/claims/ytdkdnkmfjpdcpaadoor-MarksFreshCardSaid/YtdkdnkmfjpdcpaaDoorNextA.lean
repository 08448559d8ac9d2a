/-
  cluster.Next("a", 0) is 1. No condition.
-/
import Derived.Test.YtdkdnkmfjpdcpaaDoorBase
namespace Go.Proofs.YtdkdnkmfjpdcpaaDoor.Mk
open Go.RowKit
set_option linter.unusedVariables false
set_option linter.unusedSimpArgs false

abbrev sA : ByteArray := ⟨#[97]⟩

theorem decode_ascii (s : ByteArray) (x : UInt8) (w : World) (h0 : 0 < s.size) (hx : s[0] = x) (ha : (x.toNat : Int) < 128) (hne : s.toList.isEmpty = false) :
    Calls Tryd.prog 67 #[.string s] w fun e w' => e = .returned (.tuple #[.int .i32 x.toNat, .int .i64 1]) ∧ w' = w := by
  have hz0 : (0 : Int) < (s.size : Int) := by omega
  go_enter Tryd.func67, Tryd.ntmps67
  go_wp2
  go_ret2
  exact ⟨rfl, rfl⟩

theorem first_ascii (s : ByteArray) (x : UInt8) (w : World) (h0 : 0 < s.size) (hx : s[0] = x) (ha : (x.toNat : Int) < 128) (hne : s.toList.isEmpty = false) :
    Calls Tryd.prog 61 #[.string s] w fun e w' => e = .returned (.agg #[.int .i32 x.toNat, .int .i64 1]) ∧ Below w.heap.size w w' := by
  have HX := Lib.hid hx
  have H0 := Lib.hid h0
  have hq : ((x.toNat : Int) == 65533) = false := by rw [beq_eq_false_iff_ne]; omega
  clear hx
  go_enter Tryd.func61, Tryd.ntmps61
  go_wp2_with (go_at_call 67; refine (decode_ascii s x _ H0.out HX.out ha hne).mono ?_; rintro e w' ⟨rfl, rfl⟩)
  refine bodyPost_ret (v := .agg #[.int .i32 x.toNat, .int .i64 1]) (by simp [results, Tryd.results61, go_sem]) rfl ⟨rfl, ?_⟩
  exact (Below.refl _ _).alloc (Nat.le_refl _) _

set_option maxRecDepth 100000 in
theorem around_0 (s : ByteArray) (x : UInt8) (w : World) (h0 : 0 < s.size) (hx : s[0] = x) (ha : (x.toNat : Int) < 128) (hne : s.toList.isEmpty = false) :
    Calls Tryd.prog 53 #[.string s, .int .i64 0] w fun e w' => e = .returned (.tuple #[.int .i64 0, .int .i64 1]) ∧ Below w.heap.size w w' := by
  have HX := Lib.hid hx
  have H0 := Lib.hid h0
  have hz : ((0 : Int) == (s.size : Int)) = false := by rw [beq_eq_false_iff_ne]; omega
  have hex : s.extract 0 s.size = s := by rw [ByteArray.extract_zero_size]
  have hfl : ∀ (w : World) (a b : Int), (Instr.field 93 (.agg #[.int .i32 a, .int .i64 b]) 1).run Tryd.prog w = .ok (.int .i64 b) w := fun w a b => by kernel_rfl
  clear hx
  go_enter Tryd.func53, Tryd.ntmps53
  go_wp2
  refine wp_loop_rounds 1 ?_
  rw [rounds_succ]
  go_wp2_with (go_at_call 61; refine (first_ascii s x _ H0.out HX.out ha hne).mono ?_; rintro e w' ⟨rfl, hb⟩)
  go_ret2
  exact ⟨rfl, hb⟩

set_option maxRecDepth 100000 in
theorem unitNext_0 (s : ByteArray) (x : UInt8) (w : World) (h0 : 0 < s.size) (hx : s[0] = x) (ha : (x.toNat : Int) < 128) (hne : s.toList.isEmpty = false) :
    Calls Tryd.prog 47 #[.string s, .int .i64 0] w fun e w' => e = .returned (.int .i64 1) ∧ Below w.heap.size w w' := by
  have HX := Lib.hid hx
  clear hx
  go_enter Tryd.func47, Tryd.ntmps47
  go_wp2_with (go_at_call 53; refine (around_0 s x _ h0 HX.out ha hne).mono ?_; rintro e w' ⟨rfl, hb⟩)
  go_ret
  exact ⟨rfl, hb⟩

set_option maxRecDepth 100000 in
theorem Boundary_end (s : ByteArray) (w : World) (h0 : 0 < s.size) (h1 : s.size ≤ 1) :
    Calls Tryd.prog 48 #[.string s, .int .i64 1] w fun e w' => e = .returned (.bool true) ∧ Below w.heap.size w w' := by
  have ha : decide ((s.size : Int) ≤ 1) = true := by simp; omega
  have hb : ((1 : Int) == (s.size : Int)) = true := by rw [beq_iff_eq]; omega
  go_enter Tryd.func48, Tryd.ntmps48
  go_wp2
  go_ret
  exact ⟨rfl, Below.refl _ _⟩

set_option maxRecDepth 100000 in
theorem Next_one (s : ByteArray) (x : UInt8) (w : World) (h0 : 0 < s.size) (h1 : s.size ≤ 1) (hx : s[0] = x) (ha : (x.toNat : Int) < 128) (hne : s.toList.isEmpty = false) :
    Calls Tryd.prog 38 #[.string s, .int .i64 0] w fun e w' => e = .returned (.int .i64 1) ∧ Below w.heap.size w w' := by
  have HX := Lib.hid hx
  clear hx
  go_enter Tryd.func38, Tryd.ntmps38
  go_wp2
  refine wp_loop_rounds 1 ?_
  rw [rounds_succ]
  go_wp2_with (first
    | (go_at_call 47; refine (unitNext_0 s x _ h0 HX.out ha hne).mono ?_; rintro e w1 ⟨rfl, hb⟩)
    | (go_at_call 48; refine (Boundary_end s _ h0 h1).mono ?_; rintro e w2 ⟨rfl, hb2⟩))
  go_ret
  exact ⟨rfl, hb.trans (hb2.mono hb.size)⟩

theorem Next_a (w : World) : Calls Tryd.prog 38 #[.string sA, .int .i64 0] w fun e w' => e = .returned (.int .i64 1) ∧ Below w.heap.size w w' :=
  Next_one sA 97 w (by decide) (by decide) (by decide) (by decide) (by decide +kernel)
end Go.Proofs.YtdkdnkmfjpdcpaaDoor.Mk
