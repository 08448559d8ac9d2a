/-
  A region that draws its order and in which two operations write, the second behind the first. No condition.
-/
import Derived.Test.YtdkdnkmfjpdcpaaDoorRegion3
namespace Go.Proofs.YtdkdnkmfjpdcpaaDoor.Reg
open Go.RowKit Go.Maps
set_option linter.unusedVariables false
set_option linter.unusedSimpArgs false

section
variable {P : Program} {ops : Array Oper} {Q : Exit → Act → World → Prop}

structure InvJ (ops : Array Oper) (V : Nat → Value → World → Prop) (a0 : Act) (listed : Array Bool) (a : Act) (w : World) : Prop where
  size : a.tmps.size = a0.tmps.size
  defers : a.defers = a0.defers
  done : ∀ j d, writes ops j d = true → listed.getD j false = true → V d (a.tmps.getD d undef) w
  closed : ∀ j k, waits ops j k = true → listed.getD j false = true → listed.getD k false = true
  rest : ∀ d, (∀ j, writes ops j d = true → listed.getD j false = false) → a.tmps.getD d undef = a0.tmps.getD d undef

/-- What an operation owes that leads from worlds of J to worlds of J'. -/
def OwesJ (P : Program) (ops : Array Oper) (Q : Exit → Act → World → Prop) (V : Nat → Value → World → Prop) (a0 : Act) (J J' : World → Prop) (i : Nat) : Prop :=
  ∀ a w, a.tmps.size = a0.tmps.size → a.defers = a0.defers → J w →
    (∀ x ∈ reads ops i, (x.2 = true → V x.1 (a.tmps.getD x.1 undef) w) ∧ (x.2 = false → a.tmps.getD x.1 undef = a0.tmps.getD x.1 undef)) →
    wpOp P ops Q i (fun a' w' => ∃ v, a' = a.put ((ops[i]?).bind (·.dst)) v ∧ J' w' ∧ ∀ d, writes ops i d = true → V d v w') a w

theorem owesJ_val {V : Nat → Value → World → Prop} {a0 : Act} {J J' : World → Prop} {i d : Nat} {o : Oper} {L : List (Nat × Bool)} (ho : ops[i]? = some o) (hg : o.guard = none) (hd : o.dst = some d) (hL : reads ops i = L)
    (h : ∀ a w, J w → Facts V a0 a w L → o.wp P a w (fun a' w' => ∃ v, a' = a.put (some d) v ∧ J' w' ∧ V d v w') Q) : OwesJ P ops Q V a0 J J' i := by
  intro a w _ _ hb hr
  rw [hL] at hr
  have h1 := h a w hb (facts_of hr)
  unfold wpOp
  rw [ho]
  have hw : Region.wanted o (yielded ops a.tmps) = true := by simp [Region.wanted, hg]
  simp only [hw, if_true]
  refine .inl (Oper.wp_mono (fun a' w' hh => ?_) h1)
  obtain ⟨v, rfl, hb', hv⟩ := hh
  refine ⟨v, by rw [Option.bind_some, hd], hb', fun e he => ?_⟩
  have : d = e := by simpa [writes, ho, hd] using he
  subst this
  exact hv

theorem inv_step2 {a0 : Act} {V : Nat → Value → World → Prop}
    (hV : ∀ d v w w', V d v w → V d v w') {J' : World → Prop} (ht : tidy ops = true)
    (hsz : (ops.all fun o => match o.dst with | some d => decide (d < a0.tmps.size) | none => true) = true)
    {listed : Array Bool} {a : Act} {w : World} {i : Nat} (hI : InvJ ops V a0 listed a w) (hs : listed.size = ops.size) (hi : i ∈ Region.ready .any ops listed) {Jw : World → Prop} (hJ : Jw w) (h : OwesJ P ops Q V a0 Jw J' i) :
    wpOp P ops Q i (fun a' w' => InvJ ops V a0 (listed.setIfInBounds i true) a' w' ∧ J' w') a w := by
  obtain ⟨hun, o, ho, haf⟩ := mem_ready.1 hi
  have hil : i < ops.size := (Array.getElem?_eq_some_iff.1 ho).1
  have hwl : ∀ j, waits ops i j = true → listed.getD j false = true := fun j hj => by
    unfold waits at hj
    rw [ho] at hj
    simp only [Option.map_some, Option.getD_some, Array.any_eq_true', Bool.and_eq_true, beq_iff_eq] at hj
    obtain ⟨e, he, rfl, hb⟩ := hj
    exact haf e he hb
  have hilt : i < listed.size := by omega
  have hnl : listed.getD i false = false := by
    rw [Array.getD_eq_getD_getElem?] at hun ⊢
    simp [hilt] at hun ⊢
    exact hun
  have htd : ∀ j, j < ops.size → i ≠ j → ∀ d, writes ops j d = true → writes ops i d = false ∧ (d ∈ o.looksAt ops → waits ops i j = true ∨ waits ops j i = true) := fun j hj hne d hw => by
    unfold tidy at ht
    rw [Bool.and_eq_true] at ht
    have h1 := List.all_eq_true.1 (List.all_eq_true.1 ht.2 i (List.mem_range.2 hil)) j (List.mem_range.2 hj)
    unfold writes at hw
    have hdj : (ops[j]?).bind (·.dst) = some d := by simpa using hw
    rw [hdj, ho] at h1
    have hb : (i == j) = false := by simpa using hne
    rw [hb] at h1
    simp only [Bool.false_or, Bool.and_eq_true, Bool.not_eq_true', Bool.or_eq_true] at h1
    refine ⟨h1.1, fun hd => ?_⟩
    rcases h1.2 with (h2 | h2) | h2
    · have : (o.looksAt ops).contains d = true := by simpa using hd
      rw [this] at h2; cases h2
    · exact .inl h2
    · exact .inr h2
  have hwn : ∀ j, waits ops j i = true → listed.getD j false = false := fun j hj => by
    cases hx : listed.getD j false with
    | false => rfl
    | true => have := hI.closed j i hj hx; rw [hnl] at this; cases this
  refine wpOp_mono (fun a' w' hh => ?_) (h a w hI.size hI.defers hJ (fun x hx => ?_))
  · obtain ⟨v, rfl, hb, hv⟩ := hh
    have hdl : ∀ t, (ops[i]?).bind (·.dst) = some t → t < a.tmps.size := fun t hte => by
      rw [ho] at hte
      have h2 := Array.all_eq_true_iff_forall_mem.1 hsz o (Array.mem_of_getElem? ho)
      have h3 : o.dst = some t := hte
      rw [h3] at h2
      rw [hI.size]
      exact of_decide_eq_true h2
    have hli : ∀ j, j ≠ i → (listed.setIfInBounds i true).getD j false = listed.getD j false := fun j hj => getD_set_ne false (Ne.symm hj)
    have hself : (listed.setIfInBounds i true).getD i false = true := by
      rw [Array.getD_eq_getD_getElem?]; simp [hilt]
    refine ⟨⟨?_, ?_, fun j d hw hl => ?_, fun j k hjk hl => ?_, fun d hd => ?_⟩, hb⟩
    · cases hx : (ops[i]?).bind (·.dst) <;> simp [Act.put, hI.size]
    · cases hx : (ops[i]?).bind (·.dst) <;> simp [Act.put, hI.defers]
    · rw [getD_put a _ v d hdl]
      by_cases hji : j = i
      · subst hji
        have : (ops[j]?).bind (·.dst) = some d := by simpa [writes] using hw
        rw [if_pos this]
        exact hv d hw
      · have hne := (htd j (writes_lt hw) (Ne.symm hji) d hw).1
        rw [if_neg (by intro e; simp [writes, e] at hne)]
        rw [hli j hji] at hl
        exact hV _ _ _ _ (hI.done j d hw hl)
    · by_cases hki : k = i
      · subst hki; exact hself
      · rw [hli k hki]
        by_cases hji : j = i
        · subst hji; exact hwl k hjk
        · rw [hli j hji] at hl; exact hI.closed j k hjk hl
    · rw [getD_put a _ v d hdl]
      rw [if_neg]
      · refine hI.rest d (fun j hw => ?_)
        have := hd j hw
        by_cases hji : j = i
        · subst hji; rw [hself] at this; cases this
        · rwa [hli j hji] at this
      · intro e
        have := hd i (by simp [writes, e])
        rw [hself] at this; cases this
  · unfold reads at hx
    rw [ho] at hx
    obtain ⟨d, hdm, rfl⟩ := List.mem_map.1 hx
    refine ⟨fun hf => ?_, fun hf => ?_⟩
    · simp only [List.any_eq_true, List.mem_range, Bool.and_eq_true] at hf
      obtain ⟨j, _, hw, hwt⟩ := hf
      exact hI.done j d hw (hwl j hwt)
    · refine hI.rest d (fun j hw => ?_)
      by_cases hji : j = i
      · subst hji; exact hnl
      · rcases (htd j (writes_lt hw) (Ne.symm hji) d hw).2 hdm with h1 | h1
        · exfalso
          rw [List.any_eq_false] at hf
          have := hf j (List.mem_range.2 (writes_lt hw))
          simp [hw, h1] at this
        · exact hwn j h1


theorem wp_held_two {id : Nat} {a0 : Act} {w0 : World} (hm : P.follows .mixedOrders = true) (V : Nat → Value → World → Prop)
    (hV : ∀ d v w w', V d v w → V d v w') (ht : tidy ops = true) (D : List Nat) (hD : dsts ops = D) (J : Nat → World → Prop) (p q : Nat) (hpq : p ≠ q) (hps : p < ops.size) (hqs : q < ops.size) (hqp : far ops 4 q p = true)
    (hsz : (ops.all fun o => match o.dst with | some d => decide (d < a0.tmps.size) | none => true) = true)
    (hJ : J 0 { w0 with drawn := w0.drawn + 1 })
    (h : ∀ i, i < ops.size → i ≠ p → i ≠ q → ∀ m, OwesJ P ops Q V a0 (J m) (J m) i) (hp : OwesJ P ops Q V a0 (J 0) (J 1) p) (hq : OwesJ P ops Q V a0 (J 1) (J 2) q)
    (hd : ∀ (f : Nat → Value) w, (∀ d ∈ D, V d (f d) w) → J 2 w → Q .normal (putAll a0 (D.map fun d => (d, f d))) w) :
    (Code.region id ops true).wp P Q a0 w0 := by
  have hnone : ∀ j, (Array.replicate ops.size false).getD j false = false := fun j => by
    rw [Array.getD_eq_getD_getElem?]
    by_cases hj : j < ops.size <;> simp [hj]
  let cnt : Array Bool → Nat := fun listed => (if listed.getD p false = true then 1 else 0) + (if listed.getD q false = true then 1 else 0)
  refine wp_inv hm (fun listed a w => InvJ ops V a0 listed a w ∧ J (cnt listed) w) ⟨⟨rfl, rfl, fun j d _ hl => ?_, fun j k _ hl => ?_, fun d _ => rfl⟩, ?_⟩ ?_ ?_
  · rw [hnone] at hl; cases hl
  · rw [hnone] at hl; cases hl
  · show J ((if (Array.replicate ops.size false).getD p false = true then 1 else 0) + (if (Array.replicate ops.size false).getD q false = true then 1 else 0)) _
    rw [hnone, hnone]
    exact hJ
  · intro listed a w i ⟨hI, hJw⟩ hs hi
    obtain ⟨hun, o, ho, haf⟩ := mem_ready.1 hi
    have hil : i < ops.size := (Array.getElem?_eq_some_iff.1 ho).1
    have hilt : i < listed.size := by omega
    have hnl : listed.getD i false = false := by
      rw [Array.getD_eq_getD_getElem?] at hun ⊢
      simp [hilt] at hun ⊢
      exact hun
    have hself : (listed.setIfInBounds i true).getD i false = true := by
      rw [Array.getD_eq_getD_getElem?]; simp [hilt]
    by_cases hip : i = p
    · subst hip
      have hnq : listed.getD q false = false := by
        cases hx : listed.getD q false with
        | false => rfl
        | true =>
          have := far_listed hI.closed 4 q i hx hqp
          rw [hnl] at this; cases this
      have e0 : cnt listed = 0 := by show (if _ then _ else _) + (if _ then _ else _) = 0; rw [hnl, hnq]; rfl
      have e1 : cnt (listed.setIfInBounds i true) = 1 := by show (if _ then _ else _) + (if _ then _ else _) = 1; rw [hself, getD_set_ne false hpq, hnq]; rfl
      rw [e0] at hJw
      refine wpOp_mono (fun a' w' hh => ?_) (inv_step2 hV ht hsz hI hs hi hJw hp)
      rw [e1]; exact hh
    · by_cases hiq : i = q
      · subst hiq
        have hlp : listed.getD p false = true := by
          refine far_once (fun k hk => ?_) hI.closed hqp
          unfold waits at hk
          rw [ho] at hk
          simp only [Option.map_some, Option.getD_some, Array.any_eq_true', Bool.and_eq_true, beq_iff_eq] at hk
          obtain ⟨e, he, rfl, hb⟩ := hk
          exact haf e he hb
        have e0 : cnt listed = 1 := by show (if _ then _ else _) + (if _ then _ else _) = 1; rw [hnl, hlp]; rfl
        have e1 : cnt (listed.setIfInBounds i true) = 2 := by show (if _ then _ else _) + (if _ then _ else _) = 2; rw [hself, getD_set_ne false hip, hlp]; rfl
        rw [e0] at hJw
        refine wpOp_mono (fun a' w' hh => ?_) (inv_step2 hV ht hsz hI hs hi hJw hq)
        rw [e1]; exact hh
      · have e1 : cnt (listed.setIfInBounds i true) = cnt listed := by show (if _ then _ else _) + (if _ then _ else _) = (if _ then _ else _) + (if _ then _ else _); rw [getD_set_ne false hip, getD_set_ne false hiq]
        refine wpOp_mono (fun a' w' hh => ?_) (inv_step2 hV ht hsz hI hs hi hJw (h i hil hip hiq _))
        rw [e1]; exact hh
  · intro listed a w ⟨hI, hJw⟩ hs hr
    have hal := all_listed ht hr hs
    have e2 : cnt listed = 2 := by show (if _ then _ else _) + (if _ then _ else _) = 2; rw [hal p hps, hal q hqs]; rfl
    rw [e2] at hJw
    subst hD
    have e := putAll_eq a (dsts ops) a0 hI.size hI.defers (fun d hdm => by
      obtain ⟨j, hj⟩ := mem_dsts.1 hdm
      unfold writes at hj
      cases hx : ops[j]? with
      | none => rw [hx] at hj; simp at hj
      | some o =>
        rw [hx] at hj
        have h3 : o.dst = some d := by simpa using hj
        have h2 := Array.all_eq_true_iff_forall_mem.1 hsz o (Array.mem_of_getElem? hx)
        rw [h3] at h2
        exact of_decide_eq_true h2) (fun d hn => hI.rest d (fun j hw => absurd (mem_dsts.2 ⟨j, hw⟩) hn))
    rw [e]
    exact hd (fun d => a.tmps.getD d undef) w (fun d hdm => by obtain ⟨j, hj⟩ := mem_dsts.1 hdm; exact hI.done j d hj (hal j (writes_lt hj))) hJw
end
end Go.Proofs.YtdkdnkmfjpdcpaaDoor.Reg
