/-
  What the proof of the laws S rests on: the texts StBd Open LwT. Conditions: each theorem names its own.
-/
import Derived.Test.YtfchglcclgcgfaaGreatDoorMgSo
import Derived.Test.YtfchglcclgcgfaaGreatDoorMgSr
import Derived.Test.YtfchglcclgcgfaaGreatDoorMgSa
import Derived.Deep.Slices
import Derived.Deep.Fields
import Derived.ChangeSame
import Derived.Carry
import Derived.SizedLaws
import Derived.Test.YtfchglcclgcgfaaGreatDoorRows
import Derived.Lib.LaidU8T
import Derived.MakeChecks
/-
 store: Boundary, Next, Prev, Snap, over whatever keeps the text. Condition: the two tables of unicode/utf8 lie as laid.
-/
namespace Go.Proofs.YtfchglcclgcgfaaGreatDoor.Ut
open Go.RowKit Go.Proofs.YtfchglcclgcgfaaGreatDoor.Reg
set_option linter.unusedVariables false
set_option linter.unusedSimpArgs false

theorem HasS.below {W W' : World} {q : Option Addr} {s : ByteArray} (h : HasS W q s) (hb : Below W.heap.size W W') : HasS W' q s :=
 ⟨h.small, fun w k => h.len w (hb.trans (k.mono hb.size)), fun w i j k => h.slice w i j (hb.trans (k.mono hb.size)), fun w i k => h.meas w i (hb.trans (k.mono hb.size))⟩
set_option maxRecDepth 100000 in
set_option maxHeartbeats 2000000 in
theorem StBoundary_any {W : World} {q : Option Addr} {s : ByteArray} (h : HasS W q s) (hT : Tabs W) (a : Int) :
  Calls Tryz.prog 74 #[.pointer q, .int .i64 a] W fun e w' => e = .returned (.bool (inB s a)) ∧ Below W.heap.size W w' := by
 have hsm := h.small
 have HL := Lib.hid (h.len W (Below.refl _ _))
 by_cases hin : 0 < a ∧ a < (s.size : Int)
 ·obtain ⟨i, rfl⟩ : ∃ i : Nat, a = i := ⟨a.toNat, by omega⟩
  obtain ⟨h1, h2⟩ := hin
  have hi0 : 0 < i := by omega
  have hi : i < s.size := by omega
  have HC : ∀ w, Tabs w → Calls Tryz.prog 39 #[.string (s.extract (i - 4) (min (i + 4) s.size)), .int .i64 ((i - (i - 4) : Nat) : Int)] w fun e w' => e = .returned (.bool (inB s i)) ∧ Below w.heap.size w w' := by
   intro w hT
   have hz : (s.extract (i - 4) (min (i + 4) s.size)).size = min (i + 4) s.size - (i - 4) := by rw [ByteArray.size_extract]; omega
   refine (ClBoundary_any _ (i - (i - 4)) w hT (by rw [hz]; omega) (by rw [hz]; omega)).mono ?_
   rintro e w' ⟨rfl, hb⟩
   rw [clB_near s hi0 hi, inB_nat s (by omega)]
   exact ⟨rfl, hb⟩
  have HS := fun w hb => h.slice w (i - 4) (min (i + 4) s.size) hb (by omega) (by omega)
  obtain ⟨V, hV⟩ : ∃ V, inB s i = V := ⟨_, rfl⟩
  rw [hV] at HC ⊢
  obtain ⟨P, hP⟩ : ∃ P, s.extract (i - 4) (min (i + 4) s.size) = P := ⟨_, rfl⟩
  rw [hP] at HC HS
  have HC := Lib.hid HC
  have HS := Lib.hid HS
  have HT := Lib.hid hT
  have g1 : ¬ (i : Int) ≤ 0 := by omega
  have g2 : ¬ (s.size : Int) ≤ (i : Int) := by omega
  have e1 : IntKind.i64.wrap ((i : Int) - 4) = (i : Int) - 4 := IntWalk.i64_in _ (by omega)
  have e2 : IntKind.i64.wrap ((i : Int) + 4) = (i : Int) + 4 := IntWalk.i64_in _ (by omega)
  have e3 : max ((i : Int) - 4) 0 = ((i - 4 : Nat) : Int) := by omega
  have e4 : min ((i : Int) + 4) (s.size : Int) = ((min (i + 4) s.size : Nat) : Int) := by omega
  have e5 : IntKind.i64.wrap ((i : Int) - ((i - 4 : Nat) : Int)) = ((i - (i - 4) : Nat) : Int) := by rw [IntWalk.i64_in _ (by omega)]; omega
  clear h hT hV hP hsm h1 h2
  go_enter Tryz.func74, Tryz.ntmps74
  go_wp2_with fail
  refine HL.out.mono ?_
  rintro e w1 ⟨rfl, hb⟩
  have HB := Lib.hid hb
  clear hb
  go_wp2_with fail
  refine (HS.out w1 HB.out).mono ?_
  rintro e w2 ⟨rfl, hb⟩
  have HB2 := Lib.hid (HB.out.trans (hb.mono HB.out.size))
  clear hb HB
  go_wp2_with fail
  refine (HC.out w2 (tabs_below HT.out HB2.out)).mono ?_
  rintro e w3 ⟨rfl, hb⟩
  have HB3 := Lib.hid (HB2.out.trans (hb.mono HB2.out.size))
  clear hb HB2
  go_wp2
  go_ret
  exact ⟨rfl, HB3.out⟩
 ·have hE : inB s a = (decide (a = 0) || decide (a = (s.size : Int))) := inB_end s (by omega)
  rw [hE]
  clear hE h hT
  generalize s.size = N at *
  rcases (by omega : a < 0 ∨ a = 0 ∨ (0 < a ∧ a = (N : Int)) ∨ (0 < a ∧ (N : Int) < a)) with h1 | rfl | ⟨h1, rfl⟩ | ⟨h1, h2⟩
  ·have h2 : ¬ a = 0 := by omega
   have h3 : ¬ a = (N : Int) := by omega
   have g1 : a ≤ 0 := by omega
   have g2 : (a == 0) = false := by rw [beq_eq_false_iff_ne]; exact h2
   have g3 : (a == (N : Int)) = false := by rw [beq_eq_false_iff_ne]; exact h3
   rw [decide_eq_false h2, decide_eq_false h3]
   clear hin
   go_enter Tryz.func74, Tryz.ntmps74
   go_wp2_with fail
   refine HL.out.mono ?_
   rintro e w1 ⟨rfl, hb⟩
   have HB := Lib.hid hb
   clear hb
   go_wp2
   go_ret
   exact ⟨rfl, HB.out⟩
  ·rw [decide_eq_true rfl]
   clear hin
   go_enter Tryz.func74, Tryz.ntmps74
   go_wp2_with fail
   refine HL.out.mono ?_
   rintro e w1 ⟨rfl, hb⟩
   have HB := Lib.hid hb
   clear hb
   go_wp2
   go_ret
   exact ⟨rfl, HB.out⟩
  ·have g1 : ¬ (N : Int) ≤ 0 := by omega
   have g2 : ((N : Int) == 0) = false := by rw [beq_eq_false_iff_ne]; omega
   rw [decide_eq_true rfl, Bool.or_true]
   clear hin
   go_enter Tryz.func74, Tryz.ntmps74
   go_wp2_with fail
   refine HL.out.mono ?_
   rintro e w1 ⟨rfl, hb⟩
   have HB := Lib.hid hb
   clear hb
   go_wp2
   go_ret
   exact ⟨rfl, HB.out⟩
  ·have h3 : ¬ a = 0 := by omega
   have h4 : ¬ a = (N : Int) := by omega
   have g1 : ¬ a ≤ 0 := by omega
   have g4 : (N : Int) ≤ a := by omega
   have g2 : (a == 0) = false := by rw [beq_eq_false_iff_ne]; exact h3
   have g3 : (a == (N : Int)) = false := by rw [beq_eq_false_iff_ne]; exact h4
   rw [decide_eq_false h3, decide_eq_false h4]
   clear hin
   go_enter Tryz.func74, Tryz.ntmps74
   go_wp2_with fail
   refine HL.out.mono ?_
   rintro e w1 ⟨rfl, hb⟩
   have HB := Lib.hid hb
   clear hb
   go_wp2
   go_ret
   exact ⟨rfl, HB.out⟩
set_option maxRecDepth 100000 in
set_option maxHeartbeats 1000000 in
theorem StNext_any {W : World} {q : Option Addr} {s : ByteArray} (h : HasS W q s) (hT : Tabs W) (a : Int) :
  Calls Tryz.prog 71 #[.pointer q, .int .i64 a] W fun e w' => e = .returned (.int .i64 (nextB s a : Nat)) ∧ Below W.heap.size W w' := by
 have hsm := h.small
 have HH := Lib.hid h
 have HT := Lib.hid hT
 obtain ⟨V, hV⟩ : ∃ V, nextB s a = V := ⟨_, rfl⟩
 rw [hV]
 have HV := Lib.hid hV
 clear h hT hV
 by_cases hn : a < 0
 ·have HR : Hid (V = 0) := by show _ = _; rw [← HV.out]; exact nextB_neg hn
  clear HV
  go_enter Tryz.func71, Tryz.ntmps71
  go_wp2
  go_ret
  exact ⟨by rw [HR.out]; rfl, Below.refl _ _⟩
 ·obtain ⟨i0, rfl⟩ : ∃ i : Nat, a = i := ⟨a.toNat, by omega⟩
  go_enter Tryz.func71, Tryz.ntmps71
  go_wp2_with fail
  refine (HH.out.len W (Below.refl _ _)).mono ?_
  rintro e w1 ⟨rfl, hb⟩
  have HB := Lib.hid hb
  clear hb hn
  go_wp2
  go_loopw [6] (fun b wr => ∃ i : Nat, i0 ≤ i ∧ (i ≤ s.size ∨ i = i0) ∧ b = .int .i64 i ∧ Hid (∀ k : Nat, i0 < k → k ≤ i → clB s k = false) ∧ Below W.heap.size W wr) (fun b _ => s.size - (intOf b).toNat)
  case atStart => exact ⟨i0, Nat.le_refl _, .inr rfl, rfl, fun k h1 h2 => by omega, HB.out⟩
  case round =>
   obtain ⟨i, hi0, hi, rfl, HP, hb⟩ := hrel
   have HB := Lib.hid hb
   clear hb
   by_cases hlt : i < s.size
   ·have hlt' : (i : Int) < (s.size : Int) := by omega
    have hwi : IntKind.i64.wrap ((i : Int) + 1) = ((i + 1 : Nat) : Int) := by rw [IntWalk.i64_in _ (by omega)]; omega
    clear hi
    go_wp2_with fail
    refine (StBoundary_any (HH.out.below HB.out) (tabs_below HT.out HB.out) ((i + 1 : Nat) : Int)).mono ?_
    rintro e w2 ⟨rfl, hb⟩
    have HB2 := Lib.hid (HB.out.trans (hb.mono HB.out.size))
    rw [inB_nat s (by omega)]
    clear hb HB
    cases hc : clB s (i + 1) with
    | true =>
     have HR : Hid (V = i + 1) := by
      show _ = _
      rw [← HV.out]
      exact nextB_is (by omega) (by omega) hc (fun k h1 h2 => HP.out k (by omega) (by omega))
     clear HP HV hc
     go_wp2
     go_ret
     exact ⟨by rw [HR.out]; rfl, HB2.out⟩
    | false =>
     have HP2 : Hid (∀ k : Nat, i0 < k → k ≤ i + 1 → clB s k = false) := by
      intro k h1 h2
      rcases Nat.lt_or_ge i k with h3 | h3
      ·obtain rfl : k = i + 1 := by omega
       exact hc
      ·exact HP.out k h1 h3
     clear HP hc
     go_wp2
     go_roundw
     case rel => exact ⟨i + 1, by omega, .inl (by omega), rfl, HP2.out, HB2.out⟩
     case measure => simp [intOf]; omega
   ·have HR : Hid (V = s.size) := by
     show _ = _
     rw [← HV.out]
     rcases Nat.lt_or_ge i0 s.size with h1 | h1
     ·exfalso
      obtain rfl : i = s.size := by omega
      have := HP.out s.size h1 (Nat.le_refl _)
      rw [clB_all] at this; cases this
     ·exact nextB_end (by omega)
    have hlt' : ¬ (i : Int) < (s.size : Int) := by omega
    clear HP HV hi
    go_wp2
    go_ret
    exact ⟨by rw [HR.out]; rfl, HB.out⟩
set_option maxRecDepth 100000 in
set_option maxHeartbeats 1000000 in
theorem StPrev_any {W : World} {q : Option Addr} {s : ByteArray} (h : HasS W q s) (hT : Tabs W) (a : Int) :
  Calls Tryz.prog 72 #[.pointer q, .int .i64 a] W fun e w' => e = .returned (.int .i64 (prevB s a : Nat)) ∧ Below W.heap.size W w' := by
 have hsm := h.small
 have HH := Lib.hid h
 have HT := Lib.hid hT
 obtain ⟨V, hV⟩ : ∃ V, prevB s a = V := ⟨_, rfl⟩
 rw [hV]
 have HV := Lib.hid hV
 clear h hT hV
 by_cases hn : a ≤ 0
 ·have HR : Hid (V = 0) := by show _ = _; rw [← HV.out]; exact prevB_none hn
  clear HV
  go_enter Tryz.func72, Tryz.ntmps72
  go_wp2
  go_ret
  exact ⟨by rw [HR.out]; rfl, Below.refl _ _⟩
 ·obtain ⟨i0, rfl⟩ : ∃ i : Nat, a = i := ⟨a.toNat, by omega⟩
  by_cases hbig : s.size < i0
  ·have HR : Hid (V = s.size) := by show _ = _; rw [← HV.out]; exact prevB_over (by omega)
   have hb1 : (s.size : Int) < (i0 : Int) := by omega
   clear HV hbig
   go_enter Tryz.func72, Tryz.ntmps72
   go_wp2_with fail
   refine (HH.out.len W (Below.refl _ _)).mono ?_
   rintro e w1 ⟨rfl, hb⟩
   have HB := Lib.hid hb
   clear hb
   go_wp2
   go_ret
   exact ⟨by rw [HR.out]; rfl, HB.out⟩
  ·have hb1 : ¬ (s.size : Int) < (i0 : Int) := by omega
   have hw0 : IntKind.i64.wrap ((i0 : Int) - 1) = ((i0 - 1 : Nat) : Int) := by rw [IntWalk.i64_in _ (by omega)]; omega
   have hi0 : 0 < i0 := by omega
   have hi1 : i0 ≤ s.size := by omega
   go_enter Tryz.func72, Tryz.ntmps72
   go_wp2_with fail
   refine (HH.out.len W (Below.refl _ _)).mono ?_
   rintro e w1 ⟨rfl, hb⟩
   have HB := Lib.hid hb
   clear hb
   go_wp2
   clear hn hw0
   go_loopw [6] (fun b wr => ∃ i : Nat, i < i0 ∧ b = .int .i64 i ∧ Hid (∀ k : Nat, i < k → k < i0 → clB s k = false) ∧ Below W.heap.size W wr) (fun b _ => (intOf b).toNat)
   case atStart => exact ⟨i0 - 1, by omega, rfl, fun k h1 h2 => by omega, HB.out⟩
   case round =>
    obtain ⟨i, hi, rfl, HP, hb⟩ := hrel
    have HB := Lib.hid hb
    clear hb
    rcases Nat.eq_zero_or_pos i with rfl | hpos
    ·have HR : Hid (V = 0) := by
      show _ = _
      rw [← HV.out]
      exact prevB_is (by omega) (Nat.zero_le _) (clB_zero s) (fun k h1 h2 h3 => HP.out k h1 (by omega))
     clear HP HV
     go_wp2
     go_ret
     exact ⟨by rw [HR.out]; rfl, HB.out⟩
    ·have hlt' : (0 : Int) < (i : Int) := by omega
     have hwi : IntKind.i64.wrap ((i : Int) - 1) = ((i - 1 : Nat) : Int) := by rw [IntWalk.i64_in _ (by omega)]; omega
     go_wp2_with fail
     refine (StBoundary_any (HH.out.below HB.out) (tabs_below HT.out HB.out) (i : Int)).mono ?_
     rintro e w2 ⟨rfl, hb⟩
     have HB2 := Lib.hid (HB.out.trans (hb.mono HB.out.size))
     rw [inB_nat s (by omega)]
     clear hb HB
     cases hc : clB s i with
     | true =>
      have HR : Hid (V = i) := by
       show _ = _
       rw [← HV.out]
       exact prevB_is (by omega) (by omega) hc (fun k h1 h2 h3 => HP.out k h1 (by omega))
      clear HP HV hc
      go_wp2
      go_ret
      exact ⟨by rw [HR.out]; rfl, HB2.out⟩
     | false =>
      have HP2 : Hid (∀ k : Nat, i - 1 < k → k < i0 → clB s k = false) := by
       intro k h1 h2
       rcases Nat.lt_or_ge i k with h3 | h3
       ·exact HP.out k h3 h2
       ·obtain rfl : k = i := by omega
        exact hc
      clear HP hc
      go_wp2
      go_roundw
      case rel => exact ⟨i - 1, by omega, rfl, HP2.out, HB2.out⟩
      case measure => simp [intOf]; omega
set_option maxRecDepth 100000 in
theorem StSnap_any {W : World} {q : Option Addr} {s : ByteArray} (h : HasS W q s) (hT : Tabs W) (a : Int) :
  Calls Tryz.prog 73 #[.pointer q, .int .i64 a] W fun e w' => e = .returned (.int .i64 (snapB s a : Nat)) ∧ Below W.heap.size W w' := by
 have HH := Lib.hid h
 have HT := Lib.hid hT
 have HBd := Lib.hid (StBoundary_any h hT a)
 clear h hT
 cases hc : inB s a with
 | true =>
  have HR := Lib.hid (snapB_at hc)
  rw [hc] at HBd
  clear hc
  go_enter Tryz.func73, Tryz.ntmps73
  go_wp2_with fail
  refine HBd.out.mono ?_
  rintro e w1 ⟨rfl, hb⟩
  have HB := Lib.hid hb
  clear hb HBd
  go_wp2
  go_ret
  exact ⟨by rw [HR.out]; rfl, HB.out⟩
 | false =>
  have HR := Lib.hid (snapB_off hc)
  rw [hc] at HBd
  clear hc
  go_enter Tryz.func73, Tryz.ntmps73
  go_wp2_with fail
  refine HBd.out.mono ?_
  rintro e w1 ⟨rfl, hb⟩
  have HB := Lib.hid hb
  clear hb HBd
  go_wp2_with fail
  refine (StNext_any (HH.out.below HB.out) (tabs_below HT.out HB.out) a).mono ?_
  rintro e w2 ⟨rfl, hb⟩
  have HB2 := Lib.hid (HB.out.trans (hb.mono HB.out.size))
  rw [← HR.out]
  clear hb HB
  go_wp2
  go_ret
  exact ⟨rfl, HB2.out⟩
end Go.Proofs.YtfchglcclgcgfaaGreatDoor.Ut
/-
 Opening the arguments of a law, and the last step of its row. Two blocks are copied from the guide's pages for copying (open_slice_fields, post_of_below). No condition.
-/
namespace Go.Proofs.YtfchglcclgcgfaaGreatDoor.Row
open Go.RowKit Go.ChangeShapes Go.WideShapes Go.ChangeAt Go.Deep
set_option linter.unusedVariables false
set_option linter.unusedSimpArgs false

section
variable {H : Type} {enc : TypeId × Value → H} {P : Program} {w : World} {base : Nat} {spare : Nat → Bool} {held : Bool}
theorem open_slice_fields {t e : TypeId} {fs : Array Field} {fuel : Nat} {cs : List Value} {x : DataW H × List MemPlace} (ht : P.underlying t = some (.slice e)) (he : P.underlying e = some (.struct fs))
  (hone : oneCellFields P fs = true) (hC : P.cellsOf e = fs.size) (h : DataW.trod enc P w base spare held fuel t cs = some x) :
  (cs = [.slice none 0 0] ∧ x = (.nil, [])) ∨
  ∃ (a : Addr) (len cap m : Nat) (D : Nat → DataW H) (Pl : Nat → List MemPlace), cs = [.slice (some a) len cap] ∧ base ≤ a.block ∧ len ≤ cap ∧ cap ≤ maxLen ∧ m = (if spare a.block then cap else len) ∧
   x = (.slice ((List.range len).map D) ((List.range (m - len)).map fun j => D (len + j)), MemPlace.row a (m * fs.size) ++ (List.range m).flatMap Pl) ∧
   ∀ i, i < m → ∃ (ys : List (DataW H × List MemPlace)) (n : Nat), D i = .agg (ys.map (·.1)) ∧ Pl i = ys.flatMap (·.2) ∧ ys.length = fs.size ∧
    ∀ (j : Nat) (f : Field), fs[j]? = some f → ∃ (v : Value) (y : DataW H × List MemPlace), w.cell? (a.add (i * fs.size + j)) = some v ∧ ys[j]? = some y ∧ DataW.trod enc P w base spare held n f.type [v] = some y := by
 rcases open_slice ht h with h0 | ⟨a, len, cap, m, n, D, Pl, hcs, hb, hl, hm, hmm, hx, hi⟩
 ·exact .inl h0
 ·refine .inr ⟨a, len, cap, m, D, Pl, hcs, hb, hl, hm, hmm, by rw [hC] at hx; exact hx, fun i him => ?_⟩
  obtain ⟨cs', hc, ht'⟩ := hi i him
  rw [hC] at hc
  obtain ⟨ys, n', hn', hy, hlen, hyl, hf⟩ := DataW.trod_struct he ht'
  obtain ⟨_, hcl, hat⟩ := World.cells?_some hc
  simp only [Prod.mk.injEq] at hy
  refine ⟨ys, n', hy.1, hy.2, hyl, fun j f hj => ?_⟩
  obtain ⟨ho, hk⟩ := hone_of hone j f hj
  have hjl : j < fs.size := (Array.getElem?_eq_some_iff.1 hj).1
  have hcell := hat j hjl
  have hv : cs'[j]? = some (cs'[j]'(by omega)) := List.getElem?_eq_getElem (by omega)
  have h1 := hf j f hj
  rw [ho, hk] at h1
  have hone' : (cs'.drop j).take 1 = [cs'[j]'(by omega)] := by
   rw [List.drop_eq_getElem_cons (by omega)]
   rfl
  rw [hone'] at h1
  have hys : ys[j]? = some (ys[j]'(by omega)) := List.getElem?_eq_getElem (by omega)
  refine ⟨_, _, ?_, hys, h1.trans hys⟩
  rw [← Go.Deep.add_add, hcell, hv]
end

section
variable {H : Type} {enc : TypeId × Value → H} {P : Program}
theorem post_of_below {f : Func} {s : ChangeSpec} {apart fresh handsOn again : Bool} {W W' : World} {args : Array Value} {v : Value} {ds gs : List (DataW H)} {before pa pv : List MemPlace}
  (hW : DataW.Whole enc P f.params.toList s.vars apart W args.toList ds gs before)
  (hres : ∀ (b : Nat) (sp : Nat → Bool) (hd : Bool), DataW.TrodAll enc P W' b sp hd f.resultTypes.toList (v.resultList f.resultTypes.size) (s.fn H (ds ++ gs)).results [])
  (hargs : ∀ sp : Nat → Bool, (∀ p ∈ before, sp p.block = true) → DataW.TrodAll enc P W' 0 sp true f.params.toList args.toList (s.fn H (ds ++ gs)).args pa)
  (hvars : ∀ sp : Nat → Bool, (∀ p ∈ before, sp p.block = true) → DataW.TrodVars enc P W' sp s.vars (s.fn H (ds ++ gs)).vars pv)
  (hps : before = pa ++ pv) (hb : Below W.heap.size W W')
  (hok : ∀ (j : Nat) (t : TypeId) (r : Value), f.resultTypes[j]? = some t → (v.resultList f.resultTypes.size)[j]? = some r → Value.okWide P W' .any 0 t r) :
  s.post enc P f apart fresh handsOn again W args v W' := by
 have hlt : ∀ p ∈ before, p.block < W.heap.size := fun p hp => hW.lt p hp
 have hold : ∀ p ∈ before, (fun b => decide (b < W.heap.size)) p.block = true := fun p hp => by simpa using hlt p hp
 refine ⟨ds, gs, before, [], pa, pv, hW, hres _ _ _, hargs _ hold, hvars _ hold, World.keptBut_mono (fun p hp => ⟨hp, ?_⟩) (hb.frame (· ∈ before)), fun _ => ?_⟩
 ·rw [hps, List.mem_append] at hp
  exact Or.inr hp
 ·obtain ⟨_, _, _, _, _, hz, hn⟩ := hW
  refine ⟨hok, _, _, ([] ++ pa) ++ pv, ⟨[] ++ pa, pv, trodAll_append (hargs _ (fun _ _ => rfl)) (hres _ _ _), hvars _ (fun _ _ => rfl), rfl, ?_, ?_⟩, ?_⟩
  ·intro b off hp
   have hin : MemPlace.cell b off ∈ before := by rw [hps]; simpa using hp
   rw [hb.frozen (hlt _ hin)]
   exact hz b off hin
  ·intro ha
   have := hn ha
   rw [hps] at this
   simpa using this
  ·intro p hp _
   rw [hps]
   simpa using hp
end

theorem laidOut : laidOutB Tryz.prog = true := by kernel_rfl

/-- An argument reads as it did where nothing that lay before has turned. -/
theorem stay {H : Type} {enc : TypeId × Value → H} {t : TypeId} {W W' : World} {v : Value} {d : DataW H} {ps : List MemPlace} (hr : Tryz.prog.readableRec t = true) (hrow : t < Tryz.prog.types.size)
  (h : DataW.Trod enc Tryz.prog W 0 (fun _ => true) true t v d ps) (hb : Below W.heap.size W W') (hlt : ∀ x ∈ ps, x.block < W.heap.size) {sp : Nat → Bool} (hsp : ∀ x ∈ ps, sp x.block = true) :
  DataW.Trod enc Tryz.prog W' 0 sp true t v d ps :=
 WideElems.Trod_stays laidOut hr hrow h (fun x hx => hb.same (hlt x hx)) hsp

/-- Of numbers that each have their thing, the list of the things. -/
theorem list_of {α : Type} (P : Nat → α → Prop) : ∀ n, (∀ i, i < n → ∃ x, P i x) → ∃ l : List α, l.length = n ∧ ∀ i (h : i < l.length), P i l[i]
 | 0, _ => ⟨[], rfl, fun i h => by simp at h⟩
 | n + 1, h => by
  obtain ⟨l, hl, hp⟩ := list_of P n (fun i hi => h i (by omega))
  obtain ⟨x, hx⟩ := h n (by omega)
  refine ⟨l ++ [x], by simp [hl], fun i hi => ?_⟩
  by_cases hn : i < l.length
  ·rw [List.getElem_append_left hn]; exact hp i hn
  ·have : i = l.length := by simp at hi; omega
   subst this
   simp [hl, hx]

/-- The weights of an element are among those of its list. -/
theorem weights_elem {H : Type} {P : Program} {e : TypeId} : ∀ {l : List (DataW H)} {i : Nat} {d : DataW H}, l[i]? = some d → ∀ n ∈ d.weights P e, n ∈ DataW.weightsAll P e l
 | d0 :: r, 0, d, h, n, hn => by
  simp only [List.getElem?_cons_zero, Option.some.injEq] at h
  subst h
  simp only [DataW.weightsAll, List.mem_append]; exact .inl hn
 | d0 :: r, i + 1, d, h, n, hn => by
  simp only [List.getElem?_cons_succ] at h
  simp only [DataW.weightsAll, List.mem_append]; exact .inr (weights_elem h n hn)
 | [], _, _, h, _, _ => by simp at h

end Go.Proofs.YtfchglcclgcgfaaGreatDoor.Row
/-
 The tables of unicode/utf8 off the row's list of laid variables. No condition.
-/
namespace Go.Proofs.YtfchglcclgcgfaaGreatDoor.Ut
open Go.Shelf Go.Lib
set_option linter.unusedVariables false

def ren : Ren := ⟨fun x => x, fun n => if n = 5 then 5 else if n = 119 then 212 else if n = 138 then 215 else 216, fun n => if n = 3 then 0 else 1⟩
set_option maxRecDepth 100000 in
theorem ren_types : U8Types Tryz.prog ren := ⟨by kernel_rfl, by kernel_rfl, by kernel_rfl, by kernel_rfl⟩
set_option maxRecDepth 100000 in
theorem tabs_of_laid {W : World} (hL : laidMetH Tryz.prog [("unicode/utf8.acceptRanges", Rows.laid_unicode_utf8_acceptRanges), ("unicode/utf8.first", Rows.laid_unicode_utf8_first)] W) : Tabs W := by
 rw [MakeChecks.laidMetH_plain _ _ _ (by kernel_rfl)] at hL
 have h := utf8Tabs_of_readsT (ρ := ren) ren_types ⟨by kernel_rfl, by kernel_rfl, by kernel_rfl, by kernel_rfl, by kernel_rfl, by kernel_rfl, by kernel_rfl⟩ (Lib.laidMet.reads hL (.tail _ (.head _))) (Lib.laidMet.reads hL (.head _))
 exact h
end Go.Proofs.YtfchglcclgcgfaaGreatDoor.Ut
