/-
  What the proof of the row StorePlays rests on: the texts SwG. Conditions: each theorem names its own.
-/
import Derived.Test.YtfchglcclgcgfaaGreatDoorMgSzh
import Derived.Test.YtfchglcclgcgfaaGreatDoorMgSs
/-
 The law StorePlays over its arguments. No condition.
-/
namespace Go.Proofs.YtfchglcclgcgfaaGreatDoor.Ut
open Go.RowKit Go.Proofs.YtfchglcclgcgfaaGreatDoor.Reg Go.ChangeShapes Go.WideShapes Go.ChangeAt Go.Deep Go.Joins Go.Proofs.YtfchglcclgcgfaaGreatDoor.Row
set_option linter.unusedVariables false
set_option linter.unusedSimpArgs false

set_option maxRecDepth 100000 in
theorem calls_StorePlays {H : Type} {enc : TypeId × Value → H} {W : World} {base : Nat} {v0 v1 : Value} {d0 d1 : DataW H} {p0 p1 : List MemPlace} (hL : laidMetH Tryz.prog Rows.storePlaysRow.laid W)
  (o0 : Value.okWide Tryz.prog W .any base 24 v0) (h0 : DataW.Trod enc Tryz.prog W 0 (fun _ => true) true 24 v0 d0 p0) (w0 : ∀ n ∈ d0.weights Tryz.prog 24, n ≤ reachBytes)
  (o1 : Value.okWide Tryz.prog W .any base 37 v1) (h1 : DataW.Trod enc Tryz.prog W 0 (fun _ => true) true 37 v1 d1 p1) (w1 : ∀ n ∈ d1.weights Tryz.prog 37, n ≤ reachBytes) :
  Calls Tryz.prog 4 #[v0, v1] W fun e W' => e = .returned (.bool true) ∧ Below W.heap.size W W' := by
 obtain ⟨k, lo, hi, m, s, rfl, -⟩ := open_make o0 h0 w0
 obtain ⟨A, ops, c, rfl, hO, hn⟩ := open_opcs h1 (by obtain ⟨a, l, c, rfl⟩ := okWide_slice Tryz.underlying37 o1; rfl) w1
 exact law_StorePlays k lo hi m s A ops c W (tabs_of_laid hL) hO (by omega)
end Go.Proofs.YtfchglcclgcgfaaGreatDoor.Ut
