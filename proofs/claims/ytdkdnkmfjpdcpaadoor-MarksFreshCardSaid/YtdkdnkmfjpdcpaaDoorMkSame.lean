/-
  bodkinref10.SameMarks: are the two lists one? No condition.
-/
import Derived.Test.YtdkdnkmfjpdcpaaDoorMkLoad
import Derived.Laws.StructEq
namespace Go.Proofs.YtdkdnkmfjpdcpaaDoor.Mk
open Go.RowKit Go.Maps
set_option linter.unusedVariables false
set_option linter.unusedSimpArgs false

theorem Drawn.below {w : World} (n : Nat) : Below w.heap.size w (w.drewN n) := ⟨rfl, rfl, rfl, Nat.le_refl _, fun _ _ => rfl⟩

theorem eq_mark (d : Nat) (w : World) (a b x y : Int) : (Op.equalIn (d + 2) 33 (.agg #[.int .u8 a, .int .i64 b]) (.agg #[.int .u8 x, .int .i64 y])).run Tryd.prog w = .ok (a == x && b == y) w := by
  go_simp
  by_cases h1 : a = x <;> by_cases h2 : b = y <;> simp [h1, h2]
theorem neq_mark (w : World) (a b x y : Int) : (binOp .neq 33 (.agg #[.int .u8 a, .int .i64 b]) (.agg #[.int .u8 x, .int .i64 y])).run Tryd.prog w = .ok (.bool (!(a == x && b == y))) w := by
  rw [run_neq_struct, eq_mark]; rfl

set_option maxRecDepth 100000 in
theorem Same_any (A B : Option Addr) (a b : ML) (c d : Nat) (w : World) (ha : MksAt w A a) (hb : MksAt w B b) (hla : a.length ≤ 9223372036854775807) (hlb : b.length ≤ 9223372036854775807) :
    Calls Tryd.prog 25 #[.slice A a.length c, .slice B b.length d] w fun e w' => e = .returned (.bool (decide (a = b))) ∧ Below w.heap.size w w' := by
  obtain ⟨R, hR⟩ : ∃ R, decide (a = b) = R := ⟨_, rfl⟩
  have HR := Lib.hid hR
  rw [hR]
  have HA := Lib.hid ha
  have HB := Lib.hid hb
  clear ha hb hR
  by_cases hl : a.length = b.length
  · have hq : ((a.length : Int) != (b.length : Int)) = false := by simp [hl]
    have hl1 : a.length ≤ b.length := by omega
    have hl2 : b.length ≤ a.length := by omega
    clear hl
    go_enter Tryd.func25, Tryd.ntmps25
    go_wp2
    go_loopw [5] (fun i wr => ∃ k : Nat, k ≤ a.length ∧ i = .int .i64 k ∧ Hid (a.take k = b.take k) ∧ Below w.heap.size w wr) (fun i _ => a.length - (intOf i).toNat)
    case atStart => exact ⟨0, Nat.zero_le _, rfl, rfl, Below.refl _ _⟩
    case round =>
      obtain ⟨k, hk, rfl, HT, hbl⟩ := hrel
      by_cases hlt : k < a.length
      · have hlt' : k < b.length := by omega
        obtain h | ⟨ad, rfl, hAl, hx⟩ := HA.out.below hbl
        · subst h; simp at hlt
        obtain h | ⟨bd, rfl, hBl, hy⟩ := HB.out.below hbl
        · subst h; simp at hlt'
        obtain ⟨c0, c1⟩ := hx k hlt
        obtain ⟨d0, d1⟩ := hy k hlt'
        have HTA : Hid _ := List.take_succ_eq_append_getElem hlt
        have HTB : Hid _ := List.take_succ_eq_append_getElem hlt'
        have HBL := Lib.hid hbl
        clear hx hy hbl
        generalize hxk : a[k] = x at *
        generalize hyk : b[k] = y at *
        obtain ⟨x1, x2⟩ := x
        obtain ⟨y1, y2⟩ := y
        clear hxk hyk
        have hi0 : (0 : Int) ≤ (k : Int) := by omega
        have hi1 : (k : Int) < (a.length : Int) := by omega
        have hi2 : (k : Int) < (b.length : Int) := by omega
        by_cases hxy : x1 = y1 ∧ x2 = y2
        · obtain ⟨rfl, rfl⟩ := hxy
          have hneq : ∀ w, (binOp .neq 33 (.agg #[.int .u8 x1, .int .i64 x2]) (.agg #[.int .u8 x1, .int .i64 x2])).run Tryd.prog w = .ok (.bool false) w := fun w => by rw [neq_mark]; simp
          go_wp2
          go_quiet (fail)
          go_wp2
          go_roundw
          case rel => exact ⟨k + 1, by omega, by go_num, by rw [HTA.out, HTB.out, HT.out]; rfl, HBL.out.trans ((Drawn.below nq).mono HBL.out.size)⟩
          case measure => simp [intOf]; omega
        · have hneq : ∀ w, (binOp .neq 33 (.agg #[.int .u8 x1, .int .i64 x2]) (.agg #[.int .u8 y1, .int .i64 y2])).run Tryd.prog w = .ok (.bool true) w := fun w => by
            rw [neq_mark]
            simp only [Result.ok.injEq, Value.bool.injEq, and_true, Bool.not_eq_true', Bool.and_eq_false_iff, beq_eq_false_iff_ne]
            omega
          have HX : Hid (a ≠ b) := by
            rintro rfl
            have := HTA.out.symm.trans HTB.out
            simp at this
            exact hxy this
          clear hxy
          go_wp2
          go_quiet (fail)
          go_wp2
          go_ret
          exact ⟨ret_bool (by rw [← HR.out, decide_eq_false HX.out]), HBL.out.trans ((Drawn.below nq).mono HBL.out.size)⟩
      · have e1 : a.take k = a := List.take_of_length_le (by omega)
        have e2 : b.take k = b := List.take_of_length_le (by omega)
        have HX : Hid (a = b) := by rw [e1, e2] at HT; exact HT
        clear HT e1 e2
        go_wp2
        go_ret
        exact ⟨ret_bool (by rw [← HR.out, decide_eq_true HX.out]), hbl⟩
  · have hq : ((a.length : Int) != (b.length : Int)) = true := by rw [bne_iff_ne]; omega
    have HX : Hid (a ≠ b) := fun e => hl (by rw [e])
    go_enter Tryd.func25, Tryd.ntmps25
    go_wp2
    go_ret
    exact ⟨ret_bool (by rw [← HR.out, decide_eq_false HX.out]), Below.refl _ _⟩
end Go.Proofs.YtdkdnkmfjpdcpaaDoor.Mk
