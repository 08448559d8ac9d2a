/-
  What the proof of the row StoreTexts rests on: the texts SwIr. Conditions: each theorem names its own.
-/
import Derived.Test.YtfchglcclgcgfaaGreatDoorMgStoreTextsb
import Derived.Test.YtfchglcclgcgfaaGreatDoorMgSs
/-
 The law StoreTexts over its arguments. No condition.
-/
namespace Go.Proofs.YtfchglcclgcgfaaGreatDoor.Ut
open Go.RowKit Go.Proofs.YtfchglcclgcgfaaGreatDoor.Reg Go.ChangeShapes Go.WideShapes Go.ChangeAt Go.Deep Go.Joins Go.Proofs.YtfchglcclgcgfaaGreatDoor.Row
set_option linter.unusedVariables false
set_option linter.unusedSimpArgs false

set_option maxRecDepth 100000 in
theorem calls_StoreTexts {H : Type} {enc : TypeId × Value → H} {W : World} {base : Nat} {v0 v1 v2 : Value} {d0 d1 d2 : DataW H} {p0 p1 p2 : List MemPlace} (hL : laidMetH Tryz.prog Rows.storeTextsRow.laid W)
  (o0 : Value.okWide Tryz.prog W .any base 24 v0) (h0 : DataW.Trod enc Tryz.prog W 0 (fun _ => true) true 24 v0 d0 p0) (w0 : ∀ n ∈ d0.weights Tryz.prog 24, n ≤ reachBytes)
  (o1 : Value.okWide Tryz.prog W .any base 24 v1) (h1 : DataW.Trod enc Tryz.prog W 0 (fun _ => true) true 24 v1 d1 p1) (w1 : ∀ n ∈ d1.weights Tryz.prog 24, n ≤ reachBytes)
  (o2 : Value.okWide Tryz.prog W .any base 4 v2) (h2 : DataW.Trod enc Tryz.prog W 0 (fun _ => true) true 4 v2 d2 p2) (w2 : ∀ n ∈ d2.weights Tryz.prog 4, n ≤ reachBytes) :
  Calls Tryz.prog 3 #[v0, v1, v2] W fun e W' => e = .returned (.bool true) ∧ Below W.heap.size W W' := by
 obtain ⟨k, lo, hi, m, s, rfl, -⟩ := open_make o0 h0 w0
 obtain ⟨k2, lo2, hi2, m2, s2, rfl, -⟩ := open_make o1 h1 w1
 obtain ⟨b, rfl⟩ := okWide_bool Tryz.underlying4 o2
 exact law_StoreTexts k lo hi m s k2 lo2 hi2 m2 s2 b W (tabs_of_laid hL)
end Go.Proofs.YtfchglcclgcgfaaGreatDoor.Ut
