/-
  A set's Snap, as a step of a walk. No condition.
-/
import Derived.Test.YtdkdnkmfjpdcpaaDoorMkSt
import Derived.Test.YtdkdnkmfjpdcpaaDoorMkSnapB
namespace Go.Proofs.YtdkdnkmfjpdcpaaDoor.Mk
open Go.RowKit Go.Maps Go.Proofs.YtdkdnkmfjpdcpaaDoor.Reg
set_option linter.unusedVariables false

theorem St.snap {w0 w : World} {b : Nat} {l : ML} (h : St w0 w b l) {t : Nat} {A : Option Addr} {ts : List Int} {c : Nat} {v : Value} (ht : IsSnaps w t A ts c v []) (hto : ts.length ≤ 9223372036854775807) (hw : ∀ x ∈ ts, (Lit.int .i64 x).wf = true) (h0 : w0.heap.size ≤ t) :
    Calls Tryd.prog 34 #[.pointer (some ⟨b, 0, none⟩), .iface 61 (.pointer (some ⟨t, 0, none⟩))] w fun e w' => e = .returned (.int .i64 (snapN ts 0 l)) ∧ St w0 w' b (snapL ts 0 l) ∧ ∃ v' ro, IsSnaps w' t A ts c v' (l.map (·.2)) ∧ IsSet w b ro l ∧ Chg (fun k => foot b ro k ∨ t ≤ k) w w' := by
  obtain ⟨ro, h1, h2, h3⟩ := h
  refine (Snap_any b ro l t A ts c v w h1 ht hto hw).mono ?_
  rintro e w' ⟨rfl, hs', v', ht', hc⟩
  refine ⟨rfl, ⟨ro, hs', h2, h3.trans (hc.below_le h3.size (fun x hx => ?_))⟩, v', ro, ht', h1, hc⟩
  rcases hx with hx | hx
  · exact h2 x hx
  · exact Nat.le_trans h0 hx
end Go.Proofs.YtdkdnkmfjpdcpaaDoor.Mk
