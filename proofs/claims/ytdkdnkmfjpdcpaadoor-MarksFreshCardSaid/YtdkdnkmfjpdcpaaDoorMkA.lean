/-
  The set of marks: its form in memory, and what its methods do. No condition.
-/
import Derived.Test.YtdkdnkmfjpdcpaaDoorMkP
namespace Go.Proofs.YtdkdnkmfjpdcpaaDoor.Mk
open Go.RowKit Go.Maps
set_option linter.unusedVariables false
set_option linter.unusedSimpArgs false

theorem Good_any (n : Int) (w : World) : Calls Tryd.prog 13 #[.int .u8 n] w fun e w' => e = .returned (.bool (good n)) ∧ w' = w := by
  go_enter Tryd.func13, Tryd.ntmps13
  go_wp2
  all_goals
    go_ret
    refine ⟨?_, rfl⟩
    refine congrArg (fun x => Ending.returned (.bool x)) ?_
    rw [Bool.eq_iff_iff]
    simp [good]
    try omega

theorem keyU8 : Keyed Tryd.prog 5 := int_keyed Tryd.underlying5
theorem zeroInt (w : World) : (zeroValue 3).run Tryd.prog w = .ok (.int .i64 0) w := by kernel_rfl
theorem mapNil (w : World) (r : Option Nat) : (binOp .eql 68 (.map r) (.map none)).run Tryd.prog w = .ok (.bool r.isNone) w := run_eql_map_nil w _ _ _ r Tryd.underlying68

/-- Block r of w is a map that holds just l. -/
abbrev MapOf (w : World) (r : Nat) (l : ML) : Prop := w.ownsMap Tryd.prog 5 (plainElem Tryd.prog 3) r l.length (toD l)

theorem mapOf_tight {w : World} {r n : Nat} {l : ML} (h : w.ownsMap Tryd.prog 5 (plainElem Tryd.prog 3) r n (toD l)) : MapOf w r l := by
  obtain ⟨es, clock, hb, F, hs, hD⟩ := h
  refine ⟨es, clock, hb, F, ?_, hD⟩
  have h1 := length_sorted (H := Unit) (es.toList.map (Go.WideElems.rg Tryd.prog 5 (plainElem Tryd.prog 3)))
  simp only [toD, DataW.map.injEq] at hD
  rw [← hD] at h1
  simp at h1
  omega

/-- Block b of w is a set of marks (its map: block ro, or none) that holds just l. -/
structure IsSet (w : World) (b : Nat) (ro : Option Nat) (l : ML) : Prop where
  blk : w.heap[b]? = some (.cells #[.map ro] 70 (0, 0))
  ok : Ok l
  map : match ro with | none => l = [] | some r => MapOf w r l

/-- The blocks of a set. -/
def foot (b : Nat) (ro : Option Nat) (k : Nat) : Prop := k = b ∨ some k = ro
/-- A set's map stays, or is new. -/
def Next (w : World) (ro ro' : Option Nat) : Prop := ro' = ro ∨ ∃ r, ro' = some r ∧ w.heap.size ≤ r

theorem IsSet.cell {w : World} {b : Nat} {ro : Option Nat} {l : ML} (h : IsSet w b ro l) : w.cell? ⟨b, 0, none⟩ = some (.map ro) := cell_of_one h.blk
theorem IsSet.free {w : World} {b : Nat} {ro : Option Nat} {l : ML} (h : IsSet w b ro l) : w.frozen? ⟨b, 0, none⟩ = false := free_of_one h.blk
theorem IsSet.lt {w : World} {b : Nat} {ro : Option Nat} {l : ML} (h : IsSet w b ro l) : b < w.heap.size := (Array.getElem?_eq_some_iff.1 h.blk).1
theorem IsSet.kept {w w' : World} {b : Nat} {ro : Option Nat} {l : ML} {S : Nat → Prop} (h : IsSet w b ro l) (hc : Chg S w w') (hS : ∀ k, foot b ro k → ¬ S k) : IsSet w' b ro l := by
  refine ⟨(hc.block b h.lt (hS b (.inl rfl))).trans h.blk, h.ok, ?_⟩
  have hm := h.map
  cases ro with
  | none => exact hm
  | some r =>
    obtain ⟨es, clock, hb, F, hs, hD⟩ := hm
    exact ⟨es, clock, (hc.block r (Array.getElem?_eq_some_iff.1 hb).1 (hS r (.inr rfl))).trans hb, F, hs, hD⟩
theorem IsSet.below {w w' : World} {b : Nat} {ro : Option Nat} {l : ML} (h : IsSet w b ro l) (hb : Below w.heap.size w w') : IsSet w' b ro l :=
  h.kept (Chg.of_below (S := fun _ => False) hb) (fun _ _ f => f)

set_option maxRecDepth 100000 in
theorem Put_some (b : Nat) (n x : Int) (r : Nat) (l : ML) (w : World) (hg : good n = true) (hx : 0 ≤ x) (hwn : (Lit.int .u8 n).wf = true) (hwx : (Lit.int .i64 x).wf = true) (hs : IsSet w b (some r) l) :
   Calls Tryd.prog 28 #[.pointer (some ⟨b, 0, none⟩), .int .u8 n, .int .i64 x] w fun e w' => e = .returned (.int .i64 0) ∧ IsSet w' b (some r) (ins l n x) ∧ Chg (fun k => k = r) w w' := by
  have HG := Lib.hid hg
  have HS := Lib.hid hs
  have HM : Hid (l.length < maxLen) := by have := hs.ok.length; unfold Hid maxLen; omega
  have hown : MapOf w r l := hs.map
  have c0 := hs.cell
  have f0 := hs.free
  have hne : b ≠ r := by
    rintro rfl
    obtain ⟨es, clock, hb, _⟩ := hown
    have := hs.blk; rw [hb] at this; cases this
  clear hg hs
  have hkey := keyOf_int_mk Tryd.underlying5 hwn
  have hmn := mapNil
  go_enter Tryd.func28, Tryd.ntmps28
  go_wp2_with (first
    | (go_at_call 13; refine (Good_any _ _).mono ?_; rintro e w' ⟨rfl, rfl⟩; rw [HG.out])
    | (at_mapUpdate; refine wpList_mapUpdate_own _ rfl _ _ _ 68 rfl 5 3 keyU8 Tryd.underlying68 _ r l.length (toD l) rfl hown HM.out _ _ _ rfl rfl hkey _ [] (plainElem_int Tryd.underlying3 hwx) ?_; intro w1 hown1 hg1))
  go_ret
  rw [toD_put] at hown1
  refine ⟨rfl, ⟨(hg1.block b HS.out.lt (by simpa using hne)).trans HS.out.blk, HS.out.ok.ins HG.out hwx, mapOf_tight hown1⟩, (Chg.of_grown hg1).mono (fun k hk => by cases hk; rfl)⟩

set_option maxRecDepth 100000 in
theorem Put_none (b : Nat) (n x : Int) (w : World) (hg : good n = true) (hx : 0 ≤ x) (hwn : (Lit.int .u8 n).wf = true) (hwx : (Lit.int .i64 x).wf = true) (hs : IsSet w b none []) :
   Calls Tryd.prog 28 #[.pointer (some ⟨b, 0, none⟩), .int .u8 n, .int .i64 x] w fun e w' => e = .returned (.int .i64 0) ∧ IsSet w' b (some w.heap.size) (ins [] n x) ∧ Chg (fun k => k = b) w w' := by
  have HG := Lib.hid hg
  have HS := Lib.hid hs
  have c0 := hs.cell
  have f0 := hs.free
  have hlt := hs.lt
  clear hg hs
  have hkey := keyOf_int_mk Tryd.underlying5 hwn
  have hmn := mapNil
  have hmk := @run_makeMap Tryd.prog
  have HO : Hid (((w.setCell ⟨b, 0, none⟩ (.map (some w.heap.size))).alloc (.map #[] 0)).ownsMap Tryd.prog 5 (plainElem (H := Unit) Tryd.prog 3) w.heap.size 0 (.map [])) := by
    have := World.ownsMap_made (w.setCell ⟨b, 0, none⟩ (.map (some w.heap.size))) Tryd.prog 5 (plainElem (H := Unit) Tryd.prog 3)
    simpa [Hid] using this
  have HB : Hid (((w.setCell ⟨b, 0, none⟩ (.map (some w.heap.size))).alloc (.map #[] 0)).heap[b]? = some (.cells #[.map (some w.heap.size)] 70 (0, 0))) := by
    show _ = _
    rw [Below.heap_alloc _ _ _ (by simpa using hlt)]
    exact one_setCell HS.out.blk
  have HC : Hid (Chg (fun k => k = b) w ((w.setCell ⟨b, 0, none⟩ (.map (some w.heap.size))).alloc (.map #[] 0))) :=
    (Chg.set w ⟨b, 0, none⟩ (.map (some w.heap.size))).trans (Chg.alloc (S := fun _ => False) _ (.map #[] 0)) (fun _ _ f => f.elim)
  go_enter Tryd.func28, Tryd.ntmps28
  go_wp2_with (first
    | (go_at_call 13; refine (Good_any _ _).mono ?_; rintro e w' ⟨rfl, rfl⟩; rw [HG.out])
    | (at_mapUpdate; refine wpList_mapUpdate_own _ rfl _ _ _ 68 rfl 5 3 keyU8 Tryd.underlying68 _ _ 0 (.map []) rfl HO.out (by decide) _ _ _ rfl rfl hkey _ [] (plainElem_int Tryd.underlying3 hwx) ?_; intro w1 hown1 hg1))
  go_ret
  rw [show ((DataW.map [] : DataW Unit)) = toD [] from rfl, toD_put] at hown1
  refine ⟨rfl, ⟨(hg1.block b (by simp; omega) (by simp; omega)).trans HB.out, Ok.nil.ins HG.out hwx, mapOf_tight hown1⟩, HC.out.trans (Chg.of_grown hg1) (fun k hk e => ?_)⟩
  cases e
  omega

end Go.Proofs.YtdkdnkmfjpdcpaaDoor.Mk
