/-
  The obligations of a region that draws its order: operations under a guard; frames that are written out. No condition.
-/
import Derived.Test.YtdkdnkmfjpdcpaaDoorRegion
namespace Go.Proofs.YtdkdnkmfjpdcpaaDoor.Reg
open Go.RowKit
set_option linter.unusedVariables false
set_option linter.unusedSimpArgs false

section
variable {P : Program} {ops : Array Oper} {Q : Exit → Act → World → Prop}

theorem wanted_if {o : Oper} {g gd : Nat} {b : Bool} {c : Value} {a : Act} (hg : o.guard = some (g, b)) (hgd : (ops[g]?).bind (·.dst) = some gd) (h : a.tmps[gd]?.getD undef = c) :
    Region.wanted o (yielded ops a.tmps) = true ↔ c = .bool b := by
  have hy : yielded ops a.tmps g = match a.tmps[gd]? with | some (.bool b) => some b | _ => none := by
    simp only [yielded, hgd, Option.bind_some]
    generalize a.tmps[gd]? = z
    cases z with
    | none => rfl
    | some v => cases v <;> rfl
  simp only [Region.wanted, hg, hy]
  subst h
  cases hx : a.tmps[gd]? with
  | none => simp [undef]
  | some v => cases v <;> simp

/-- An operation under a guard that leaves a value. -/
theorem owes_if {V : Nat → Value → World → Prop} {a0 : Act} {w0 : World} {i d g gd : Nat} {b : Bool} {o : Oper} {L : List (Nat × Bool)} (ho : ops[i]? = some o) (hg : o.guard = some (g, b)) (hgd : (ops[g]?).bind (·.dst) = some gd) (hd : o.dst = some d) (hL : reads ops i = L)
    (h : ∀ a w, Below w0.heap.size w0 w → Facts V a0 a w L → ∃ c, a.tmps[gd]?.getD undef = c ∧
      (c = .bool b → o.wp P a w (fun a' w' => ∃ v, a' = a.put (some d) v ∧ Below w.heap.size w w' ∧ V d v w') Q) ∧ (c ≠ .bool b → V d undef w)) : Owes P ops Q V a0 w0 i := by
  intro a w _ _ hb hr
  rw [hL] at hr
  obtain ⟨c, hc, h1, h2⟩ := h a w hb (facts_of hr)
  unfold wpOp
  rw [ho]
  have hw := wanted_if (o := o) hg hgd hc
  have key : ∀ v w', V d v w' → ∀ e, writes ops i e = true → V e v w' := fun v w' hv e he => by
    have : d = e := by simpa [writes, ho, hd] using he
    subst this
    exact hv
  by_cases hcb : c = .bool b
  · simp only [hw.2 hcb, if_true]
    refine .inl (Oper.wp_mono (fun a' w' hh => ?_) (h1 hcb))
    obtain ⟨v, rfl, hb', hv⟩ := hh
    exact ⟨v, by rw [Option.bind_some, hd], hb', key v w' hv⟩
  · have hwf : Region.wanted o (yielded ops a.tmps) = false := by
      cases hx : Region.wanted o (yielded ops a.tmps) with
      | false => rfl
      | true => exact absurd (hw.1 hx) hcb
    simp only [hwf, Bool.false_eq_true, if_false]
    exact ⟨undef, by rw [Option.bind_some], Below.refl _ _, key _ _ (h2 hcb)⟩

/-- An operation under a guard that leaves no value. -/
theorem owes_if_none {V : Nat → Value → World → Prop} {a0 : Act} {w0 : World} {i g gd : Nat} {b : Bool} {o : Oper} {L : List (Nat × Bool)} (ho : ops[i]? = some o) (hg : o.guard = some (g, b)) (hgd : (ops[g]?).bind (·.dst) = some gd) (hd : o.dst = none) (hL : reads ops i = L)
    (h : ∀ a w, Below w0.heap.size w0 w → Facts V a0 a w L → ∃ c, a.tmps[gd]?.getD undef = c ∧
      (c = .bool b → o.wp P a w (fun a' w' => ∃ v, a' = a.put none v ∧ Below w.heap.size w w') Q)) : Owes P ops Q V a0 w0 i := by
  intro a w _ _ hb hr
  rw [hL] at hr
  obtain ⟨c, hc, h1⟩ := h a w hb (facts_of hr)
  unfold wpOp
  rw [ho]
  have hw := wanted_if (o := o) hg hgd hc
  have key : ∀ e, writes ops i e = true → False := fun e he => by simp [writes, ho, hd] at he
  by_cases hcb : c = .bool b
  · simp only [hw.2 hcb, if_true]
    refine .inl (Oper.wp_mono (fun a' w' hh => ?_) (h1 hcb))
    obtain ⟨v, rfl, hb'⟩ := hh
    exact ⟨v, by rw [Option.bind_some, hd]; rfl, hb', fun e he => (key e he).elim⟩
  · have hwf : Region.wanted o (yielded ops a.tmps) = false := by
      cases hx : Region.wanted o (yielded ops a.tmps) with
      | false => rfl
      | true => exact absurd (hw.1 hx) hcb
    simp only [hwf, Bool.false_eq_true, if_false]
    exact ⟨undef, by rw [Option.bind_some], Below.refl _ _, fun e he => (key e he).elim⟩
end

/-- A slot of a frame that is written out is put. -/
theorem put_lit (l : List Value) (df : List Deferred) (d : Nat) (v : Value) : ({ tmps := l.toArray, defers := df } : Act).put (some d) v = { tmps := (l.set d v).toArray, defers := df } := by
  simp [Act.put]
end Go.Proofs.YtdkdnkmfjpdcpaaDoor.Reg
