/-
  The step from a row's arguments to the law MarksMoved's walk. No condition.
-/
import Derived.Test.YtdkdnkmfjpdcpaaDoorMkMoved
namespace Go.Proofs.YtdkdnkmfjpdcpaaDoor.Mk
open Go.RowKit Go.ChangeShapes Go.WideShapes
set_option linter.unusedVariables false
set_option maxRecDepth 100000 in
theorem calls_MarksMoved {H : Type} {enc : TypeId × Value → H} {W : World} {base : Nat} {laid : List (String × DataW Unit)} {v0 v1 : Value} {d0 d1 : DataW H} {p0 p1 : List MemPlace} (hL : laidMetH Tryd.prog laid W)
    (o0 : Value.okWide Tryd.prog W .any base 3 v0) (h0 : DataW.Trod enc Tryd.prog W 0 (fun _ => true) true 3 v0 d0 p0) (w0 : ∀ n ∈ d0.weights Tryd.prog 3, n ≤ reachBytes)
    (o1 : Value.okWide Tryd.prog W .any base 22 v1) (h1 : DataW.Trod enc Tryd.prog W 0 (fun _ => true) true 22 v1 d1 p1) (w1 : ∀ n ∈ d1.weights Tryd.prog 22, n ≤ reachBytes) :
    Calls Tryd.prog 3 #[v0, v1] W fun e W' => e = .returned (.bool true) ∧ Below W.heap.size W W' := by
  obtain ⟨x, rfl, rfl, rfl, hx⟩ := open_int Tryd.underlying3 o0 h0
  obtain ⟨A, ds, c, rfl, hd, hl, hc, hok⟩ := open_deltas h1 (by obtain ⟨a, l, c, rfl⟩ := okWide_slice Tryd.underlying22 o1; rfl) w1
  exact law_MarksMoved x A ds c W hx hd (by unfold reachBytes at hc; omega) hok
end Go.Proofs.YtdkdnkmfjpdcpaaDoor.Mk
