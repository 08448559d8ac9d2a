/-
  The obligations of a region that draws its order, taken apart by program: 'owes_step' lays what is known of the slots that the operation looks at. No condition.
-/
import Derived.Test.YtdkdnkmfjpdcpaaDoorRegion
import Derived.Deep.RegionHeld3
namespace Go.Proofs.YtdkdnkmfjpdcpaaDoor.Reg
open Go.RowKit
set_option linter.unusedVariables false
set_option linter.unusedSimpArgs false

def readsN (ops : Array Oper) (i : Nat) : List Nat := (reads ops i).map fun x => 2 * x.1 + cond x.2 1 0

section
variable {P : Program} {ops : Array Oper} {Q : Exit → Act → World → Prop}

theorem wanted_if {o : Oper} {g gd : Nat} {b c : Bool} {a : Act} (hg : o.guard = some (g, b)) (hgd : (ops[g]?).bind (·.dst) = some gd) (h : a.tmps[gd]?.getD undef = .bool c) :
    Region.wanted o (yielded ops a.tmps) = (c == b) := by
  have h1 : a.tmps[gd]? = some (.bool c) := by
    cases hx : a.tmps[gd]? with
    | none => rw [hx] at h; simp [undef] at h
    | some v => rw [hx] at h; simpa using h
  have : yielded ops a.tmps g = some c := by
    simp only [yielded, hgd, Option.bind_some]
    show (match a.tmps[gd]? with | some (.bool b) => some b | _ => none) = some c
    rw [h1]
  simp only [Region.wanted, hg, this]
  cases c <;> cases b <;> rfl

/-- An operation under a guard that leaves a value. -/
theorem owes_if {V : Nat → Value → World → Prop} {a0 : Act} {w0 : World} {i d g gd : Nat} {b : Bool} {o : Oper} {L : List (Nat × Bool)} (ho : ops[i]? = some o) (hg : o.guard = some (g, b)) (hgd : (ops[g]?).bind (·.dst) = some gd) (hd : o.dst = some d) (hL : reads ops i = L)
    (h : ∀ a w, Below w0.heap.size w0 w → Facts V a0 a w L → ∃ c, a.tmps[gd]?.getD undef = .bool c ∧
      (c = b → o.wp P a w (fun a' w' => ∃ v, a' = a.put (some d) v ∧ Below w.heap.size w w' ∧ V d v w') Q) ∧ (c = !b → V d undef w)) : Owes P ops Q V a0 w0 i := by
  intro a w _ _ hb hr
  rw [hL] at hr
  obtain ⟨c, hc, h1, h2⟩ := h a w hb (facts_of hr)
  unfold wpOp
  rw [ho]
  have hw := wanted_if (o := o) hg hgd hc
  have key : ∀ v w', V d v w' → ∀ e, writes ops i e = true → V e v w' := fun v w' hv e he => by
    have : d = e := by simpa [writes, ho, hd] using he
    subst this
    exact hv
  by_cases hcb : c = b
  · simp only [hw, hcb, beq_self_eq_true, if_true]
    refine .inl (Oper.wp_mono (fun a' w' hh => ?_) (h1 hcb))
    obtain ⟨v, rfl, hb', hv⟩ := hh
    exact ⟨v, by rw [Option.bind_some, hd], hb', key v w' hv⟩
  · have hcb' : (c == b) = false := by simpa using hcb
    simp only [hw, hcb', Bool.false_eq_true, if_false]
    exact ⟨undef, by rw [Option.bind_some], Below.refl _ _, key _ _ (h2 (by cases c <;> cases b <;> simp_all))⟩

/-- An operation under a guard that leaves no value. -/
theorem owes_if_none {V : Nat → Value → World → Prop} {a0 : Act} {w0 : World} {i g gd : Nat} {b : Bool} {o : Oper} {L : List (Nat × Bool)} (ho : ops[i]? = some o) (hg : o.guard = some (g, b)) (hgd : (ops[g]?).bind (·.dst) = some gd) (hd : o.dst = none) (hL : reads ops i = L)
    (h : ∀ a w, Below w0.heap.size w0 w → Facts V a0 a w L → ∃ c, a.tmps[gd]?.getD undef = .bool c ∧
      (c = b → o.wp P a w (fun a' w' => ∃ v, a' = a.put none v ∧ Below w.heap.size w w') Q)) : Owes P ops Q V a0 w0 i := by
  intro a w _ _ hb hr
  rw [hL] at hr
  obtain ⟨c, hc, h1⟩ := h a w hb (facts_of hr)
  unfold wpOp
  rw [ho]
  have hw := wanted_if (o := o) hg hgd hc
  have key : ∀ e, writes ops i e = true → False := fun e he => by simp [writes, ho, hd] at he
  by_cases hcb : c = b
  · simp only [hw, hcb, beq_self_eq_true, if_true]
    refine .inl (Oper.wp_mono (fun a' w' hh => ?_) (h1 hcb))
    obtain ⟨v, rfl, hb'⟩ := hh
    exact ⟨v, by rw [Option.bind_some, hd]; rfl, hb', fun e he => (key e he).elim⟩
  · have hcb' : (c == b) = false := by simpa using hcb
    simp only [hw, hcb', Bool.false_eq_true, if_false]
    exact ⟨undef, by rw [Option.bind_some], Below.refl _ _, fun e he => (key e he).elim⟩
end

open Lean Elab Tactic Meta

/-- Turns the hypothesis 'Facts V a0 a w L' (L a list written out) into one hypothesis for each slot. -/
partial def layFacts (h : Lean.Expr) (l : List Nat) : TacticM Unit := do
  match l with
  | [] => return
  | c :: r =>
    let d := c / 2
    let rest ← (← getMainGoal).withContext do
      let pf ← mkAppM ``And.left #[h]
      let ty ← inferType pf
      let ty := ty.consumeMData
      -- a dependence: V d v w; else an equation with the first frame's slot
      let ty' ← if c % 2 == 1 then whnf ty else do
        match ty.eq? with
        | some (α, lhs, rhs) => mkEq lhs (← whnf rhs)
        | none => pure ty
      let g ← getMainGoal
      let g ← g.assert (.mkSimple s!"hf{d}") ty' (← mkExpectedTypeHint pf ty')
      let (_, g) ← g.intro1P
      let pr ← g.withContext do mkAppM ``And.right #[h]
      let tyr ← g.withContext do inferType pr
      let g ← g.assert `hfr tyr pr
      let (fv, g) ← g.intro1P
      replaceMainGoal [g]
      pure (Lean.Expr.fvar fv)
    layFacts rest r

/-- One operation's obligation: the slots that it looks at are laid, by name 'hf<slot>'. -/
elab "owes_step" : tactic => do
  let (l, st) ← withMainContext do
    let t := (← instantiateMVars (← getMainTarget)).consumeMData
    unless t.isAppOfArity ``Owes 7 do throwError "owes_step: the goal is no 'Owes'"
    let args := t.getAppArgs
    let ops ← whnfR args[1]!
    let l ← kernelNats (mkApp2 (mkConst ``readsN) args[1]! args[6]!)
    let es := l.map fun c => mkApp4 (mkConst ``Prod.mk [.zero, .zero]) (mkConst ``Nat) (mkConst ``Bool) (mkNatLit (c / 2)) (mkConst (if c % 2 == 1 then ``Bool.true else ``Bool.false))
    let pt := mkApp2 (mkConst ``Prod [.zero, .zero]) (mkConst ``Nat) (mkConst ``Bool)
    let L ← mkListLit pt es
    pure (l, ← Term.exprToSyntax L)
  evalTactic (← `(tactic| first
    | refine owes_val (L := $st) rfl rfl rfl (by kernel_rfl) ?_
    | refine owes_none (L := $st) rfl rfl rfl (by kernel_rfl) ?_
    | refine owes_if (L := $st) rfl rfl rfl rfl (by kernel_rfl) ?_
    | refine owes_if_none (L := $st) rfl rfl rfl rfl (by kernel_rfl) ?_))
  let a := mkIdent `a'
  let w := mkIdent `w'
  let hb := mkIdent `hb'
  let hf := mkIdent `hfacts
  evalTactic (← `(tactic| intro $a $w $hb $hf))
  withMainContext do
    let h := (← getLCtx).findFromUserName? `hfacts |>.get!
    layFacts h.toExpr l
  evalTactic (← `(tactic| try clear $hf))

/-- In the goal 'Q .normal (putAll {tmps := #[..], ..} ([..].map fun d => (d, f d))) w': the frame is written out. -/
elab "put_now" : tactic => withMainContext do
  let g ← getMainGoal
  let t := (← instantiateMVars (← g.getType)).consumeMData
  let some p := t.find? (fun e => e.isAppOfArity ``putAll 2) | throwError "put_now: no putAll"
  let #[a0, l] := p.getAppArgs | throwError "put_now"
  let a0 ← whnfR a0
  let #[tm, df] := a0.getAppArgs | throwError "put_now: no frame:{indentExpr a0}"
  let l ← whnfR l
  let largs := l.getAppArgs
  unless l.isAppOfArity ``List.map 4 do throwError "put_now: no map:{indentExpr l}"
  let f := largs[2]!
  let D ← kernelNats largs[3]!
  let some (ty, els) := tm.getAppArgs.back?.bind (·.listLit?) | throwError "put_now: no row of slots:{indentExpr tm}"
  let mut els := els.toArray
  for d in D do
    let v := (f.beta #[mkNatLit d])
    let v := v.getAppArgs.back!
    els := els.set! d v
  let lit ← mkAppM ``Act.mk #[← mkAppM ``List.toArray #[← mkListLit ty els.toList], df]
  let h ← mkFreshExprMVar (← mkEq p lit)
  let motive ← do
    let b := t.replace fun e => if e == p then some (.bvar 0) else none
    pure (Lean.Expr.lam `x (← inferType p) b .default)
  let eq ← mkCongrArg motive h
  let g' ← g.replaceTargetEq (motive.beta #[lit]) eq
  replaceMainGoal [h.mvarId!, g']
  evalTactic (← `(tactic| kernel_rfl))

/-- An operation that calls nothing: run it, and show its slot's value. -/
macro "owes_end" : tactic => `(tactic| (go_simp; first | exact ⟨_, rfl, Below.refl _ _, rfl⟩ | exact ⟨_, rfl, Below.refl _ _, trivial⟩ | exact ⟨_, rfl, Below.refl _ _⟩ | exact ⟨_, rfl, (Below.refl _ _).alloc (Nat.le_refl _) _, trivial⟩))
macro "owes_done" : tactic => `(tactic| first
  | owes_end
  | (apply Exists.intro; apply And.intro
     · assumption
     · apply And.intro
       · intro hc; first | exact absurd hc (by decide) | owes_end
       · intro hc; first | exact absurd hc (by decide) | exact trivial | exact rfl)
  | (apply Exists.intro; apply And.intro
     · assumption
     · intro hc; first | exact absurd hc (by decide) | owes_end))
end Go.Proofs.YtdkdnkmfjpdcpaaDoor.Reg
