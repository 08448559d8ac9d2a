/-
  What the proof of the row LinesWalks rests on: the texts Region5 Region4 Region7 GapD RfA. Conditions: each theorem names its own.
-/
import Derived.Test.YtgmpohdkignadaaGreatDoorMgLb
import Derived.Laws.IdiomCopy
import Derived.Test.YtgmpohdkignadaaGreatDoorMgLg
import Derived.Deep.AppendLies
import Derived.Laws.OwnMore
import Derived.Test.YtgmpohdkignadaaGreatDoorMgLj
/-
  A region that draws its order and whose last operations come one behind the other, each behind all that stand ahead of it. No condition.
-/
namespace Go.Proofs.YtgmpohdkignadaaGreatDoor.Reg
open Go.RowKit Go.Maps
set_option linter.unusedVariables false
set_option linter.unusedSimpArgs false

section
variable {P : Program} {ops : Array Oper} {Q : Exit → Act → World → Prop}

theorem list_step {i : Nat} {o : Oper} {a : Act} {w : World} (ho : ops[i]? = some o) (h : wpList P ops Q (ops.toList.drop i) a w) : wpOp P ops Q i (wpList P ops Q (ops.toList.drop (i + 1))) a w := by
  have hi : i < ops.toList.length := by have := (Array.getElem?_eq_some_iff.1 ho).1; simpa using this
  have he : ops.toList[i] = o := by
    have := (Array.getElem?_eq_some_iff.1 ho).2
    simpa using this
  rw [List.drop_eq_getElem_cons hi, he] at h
  unfold wpOp
  rw [ho]
  exact h

/-- The operations from n on are run in their order, when all slots of those ahead of them are as said. -/
theorem wp_held_tail {id : Nat} {a0 : Act} {w0 : World} (hm : P.follows .mixedOrders = true) (V : Nat → Value → World → Prop)
    (hV : ∀ d v w w', V d v w → Below w.heap.size w w' → V d v w') (ht : tidy ops = true) (fu n : Nat) (hn : n < ops.size) (D : List Nat)
    (hD1 : ((List.range n).all fun j => match (ops[j]?).bind (·.dst) with | some d => D.contains d | none => true) = true) (hD2 : (D.all fun d => (List.range n).any fun j => writes ops j d) = true)
    (hlast : ((List.range ops.size).all fun i => decide (i < n) || (List.range i).all fun j => far ops fu i j) = true)
    (hsz : (ops.all fun o => match o.dst with | some d => decide (d < a0.tmps.size) | none => true) = true)
    (h : ∀ i, i < n → Owes P ops Q V a0 w0 i)
    (hd : ∀ (f : Nat → Value) w, (∀ d ∈ D, V d (f d) w) → Below w0.heap.size w0 w → wpList P ops Q (ops.toList.drop n) (putAll a0 (D.map fun d => (d, f d))) w) :
    (Code.region id ops true).wp P Q a0 w0 := by
  have hdr : Below w0.heap.size w0 { w0 with drawn := w0.drawn + 1 } := ⟨rfl, rfl, rfl, Nat.le_refl _, fun _ _ => rfl⟩
  have hnone : ∀ j, (Array.replicate ops.size false).getD j false = false := fun j => by
    rw [Array.getD_eq_getD_getElem?]
    by_cases hj : j < ops.size <;> simp [hj]
  refine wp_inv hm (fun listed a w => (Inv ops V a0 w0 listed a w ∧ ∀ j, n ≤ j → listed.getD j false = false) ∨ ∃ k, n < k ∧ k ≤ ops.size ∧ (∀ j, j < k → listed.getD j false = true) ∧ (∀ j, k ≤ j → listed.getD j false = false) ∧ (∀ j k, waits ops j k = true → listed.getD j false = true → listed.getD k false = true) ∧ wpList P ops Q (ops.toList.drop k) a w)
    (.inl ⟨⟨rfl, rfl, hdr, fun j d _ hl => ?_, fun j k _ hl => ?_, fun d _ => rfl⟩, fun j _ => hnone j⟩) ?_ ?_
  · rw [hnone] at hl; cases hl
  · rw [hnone] at hl; cases hl
  · intro listed a w i hI hs hi
    obtain ⟨hun, o, ho, haf⟩ := mem_ready.1 hi
    have hil : i < ops.size := (Array.getElem?_eq_some_iff.1 ho).1
    have hilt : i < listed.size := by omega
    have hnl : listed.getD i false = false := by
      rw [Array.getD_eq_getD_getElem?] at hun ⊢
      simp [hilt] at hun ⊢
      exact hun
    have hwl : ∀ k, waits ops i k = true → listed.getD k false = true := fun k hk => by
      unfold waits at hk
      rw [ho] at hk
      simp only [Option.map_some, Option.getD_some, Array.any_eq_true', Bool.and_eq_true, beq_iff_eq] at hk
      obtain ⟨e, he, rfl, hb⟩ := hk
      exact haf e he hb
    have hself : (listed.setIfInBounds i true).getD i false = true := by
      rw [Array.getD_eq_getD_getElem?]; simp [hilt]
    have hkeep : ∀ j, listed.getD j false = true → (listed.setIfInBounds i true).getD j false = true := fun j hj => by
      by_cases e : j = i
      · subst e; exact hself
      · rw [getD_set_ne false (fun h => e h.symm)]; exact hj
    have hfar : ∀ j, n ≤ i → j < i → far ops fu i j = true := fun j h1 h2 => by
      have := List.all_eq_true.1 hlast i (List.mem_range.2 hil)
      rw [Bool.or_eq_true] at this
      rcases this with h | h
      · simp at h; omega
      · exact List.all_eq_true.1 h j (List.mem_range.2 h2)
    have hgo : (∀ j k, waits ops j k = true → listed.getD j false = true → listed.getD k false = true) → (∀ j, j < i → listed.getD j false = true) → (∀ j, i ≤ j → listed.getD j false = false) → n ≤ i → wpList P ops Q (ops.toList.drop i) a w →
        wpOp P ops Q i (fun a w => (Inv ops V a0 w0 (listed.setIfInBounds i true) a w ∧ ∀ j, n ≤ j → (listed.setIfInBounds i true).getD j false = false) ∨ ∃ k, n < k ∧ k ≤ ops.size ∧ (∀ j, j < k → (listed.setIfInBounds i true).getD j false = true) ∧ (∀ j, k ≤ j → (listed.setIfInBounds i true).getD j false = false) ∧ (∀ j k, waits ops j k = true → (listed.setIfInBounds i true).getD j false = true → (listed.setIfInBounds i true).getD k false = true) ∧ wpList P ops Q (ops.toList.drop k) a w) a w := by
      intro hcl h1 h2 hni hw
      refine wpOp_mono (fun a' w' hq => .inr ⟨i + 1, by omega, by omega, fun j hj => ?_, fun j hj => ?_, fun j k hjk hj => ?_, hq⟩) (list_step ho hw)
      · by_cases e : j = i
        · subst e; exact hself
        · exact hkeep j (h1 j (by omega))
      · rw [getD_set_ne false (by omega)]; exact h2 j (by omega)
      · by_cases e : j = i
        · subst e; exact hkeep k (hwl k hjk)
        · rw [getD_set_ne false (fun h => e h.symm)] at hj
          exact hkeep k (hcl j k hjk hj)
    rcases hI with ⟨hI, hunl⟩ | ⟨k, hk1, hk2, hk3, hk4, hk5, hw⟩
    · by_cases hin : i < n
      · refine wpOp_mono (fun a' w' hq => .inl ⟨hq, fun j hj => ?_⟩) (inv_step hV ht hsz hI hs hi (h i hin))
        rw [getD_set_ne false (by omega)]; exact hunl j hj
      · have hall : ∀ j, j < i → listed.getD j false = true := fun j hj => far_once hwl hI.closed (hfar j (by omega) hj)
        have hni : i = n := by
          rcases Nat.lt_or_ge n i with h3 | h3
          · have := hall n h3; rw [hunl n (Nat.le_refl _)] at this; cases this
          · omega
        subst hni
        have hdw : ∀ d, d ∈ D → ∃ j, j < i ∧ writes ops j d = true := fun d hd' => by
          have := List.all_eq_true.1 hD2 d hd'
          rw [List.any_eq_true] at this
          obtain ⟨j, hj, hw⟩ := this
          exact ⟨j, List.mem_range.1 hj, hw⟩
        have e := putAll_eq a D a0 hI.size hI.defers (fun d hdm => by
          obtain ⟨j, -, hj⟩ := hdw d hdm
          unfold writes at hj
          cases hx : ops[j]? with
          | none => rw [hx] at hj; simp at hj
          | some o =>
            rw [hx] at hj
            have h3 : o.dst = some d := by simpa using hj
            have h2 := Array.all_eq_true_iff_forall_mem.1 hsz o (Array.mem_of_getElem? hx)
            rw [h3] at h2
            exact of_decide_eq_true h2) (fun d hn => hI.rest d (fun j hw => by
              rcases Nat.lt_or_ge j i with h3 | h3
              · exfalso
                apply hn
                have := List.all_eq_true.1 hD1 j (List.mem_range.2 h3)
                unfold writes at hw
                cases hx : ops[j]? with
                | none => rw [hx] at hw; simp at hw
                | some o =>
                  rw [hx] at hw this
                  have h4 : o.dst = some d := by simpa using hw
                  simp only [Option.bind_some, h4] at this
                  simpa using this
              · exact hunl j h3))
        refine hgo hI.closed hall hunl (Nat.le_refl _) ?_
        rw [e]
        exact hd (fun d => a.tmps.getD d undef) w (fun d hdm => by obtain ⟨j, hj1, hj⟩ := hdw d hdm; exact hI.done j d hj (hall j hj1)) hI.below
    · have hik : i = k := by
        rcases Nat.lt_or_ge i k with h3 | h3
        · rw [hk3 i h3] at hnl; cases hnl
        · rcases Nat.lt_or_ge k i with h4 | h4
          · have := far_once hwl hk5 (hfar k (by omega) h4)
            rw [hk4 k (Nat.le_refl _)] at this; cases this
          · omega
      subst hik
      exact hgo hk5 hk3 hk4 (by omega) hw
  · intro listed a w hI hs hr
    have hal := all_listed ht hr hs
    rcases hI with ⟨-, h1⟩ | ⟨k, hk1, hk2, hk3, hk4, hk5, hw⟩
    · have := h1 n (Nat.le_refl _); rw [hal n hn] at this; cases this
    · have hk : k = ops.size := by
        rcases Nat.lt_or_eq_of_le hk2 with h3 | h3
        · have := hk4 k (Nat.le_refl _); rw [hal k h3] at this; cases this
        · exact h3
      rw [hk, List.drop_eq_nil_of_le (by simp)] at hw
      exact hw
end
end Go.Proofs.YtgmpohdkignadaaGreatDoor.Reg
/-
  A region that draws its order and in which two operations write, the second behind the first. No condition.
-/
namespace Go.Proofs.YtgmpohdkignadaaGreatDoor.Reg
open Go.RowKit Go.Maps
set_option linter.unusedVariables false
set_option linter.unusedSimpArgs false

section
variable {P : Program} {ops : Array Oper} {Q : Exit → Act → World → Prop}

structure InvJ (ops : Array Oper) (V : Nat → Value → World → Prop) (a0 : Act) (listed : Array Bool) (a : Act) (w : World) : Prop where
  size : a.tmps.size = a0.tmps.size
  defers : a.defers = a0.defers
  done : ∀ j d, writes ops j d = true → listed.getD j false = true → V d (a.tmps.getD d undef) w
  closed : ∀ j k, waits ops j k = true → listed.getD j false = true → listed.getD k false = true
  rest : ∀ d, (∀ j, writes ops j d = true → listed.getD j false = false) → a.tmps.getD d undef = a0.tmps.getD d undef

/-- What an operation owes that leads from worlds of J to worlds of J'. -/
def OwesJ (P : Program) (ops : Array Oper) (Q : Exit → Act → World → Prop) (V : Nat → Value → World → Prop) (a0 : Act) (J J' : World → Prop) (i : Nat) : Prop :=
  ∀ a w, a.tmps.size = a0.tmps.size → a.defers = a0.defers → J w →
    (∀ x ∈ reads ops i, (x.2 = true → V x.1 (a.tmps.getD x.1 undef) w) ∧ (x.2 = false → a.tmps.getD x.1 undef = a0.tmps.getD x.1 undef)) →
    wpOp P ops Q i (fun a' w' => ∃ v, a' = a.put ((ops[i]?).bind (·.dst)) v ∧ J' w' ∧ ∀ d, writes ops i d = true → V d v w') a w

theorem owesJ_val {V : Nat → Value → World → Prop} {a0 : Act} {J J' : World → Prop} {i d : Nat} {o : Oper} {L : List (Nat × Bool)} (ho : ops[i]? = some o) (hg : o.guard = none) (hd : o.dst = some d) (hL : reads ops i = L)
    (h : ∀ a w, J w → Facts V a0 a w L → o.wp P a w (fun a' w' => ∃ v, a' = a.put (some d) v ∧ J' w' ∧ V d v w') Q) : OwesJ P ops Q V a0 J J' i := by
  intro a w _ _ hb hr
  rw [hL] at hr
  have h1 := h a w hb (facts_of hr)
  unfold wpOp
  rw [ho]
  have hw : Region.wanted o (yielded ops a.tmps) = true := by simp [Region.wanted, hg]
  simp only [hw, if_true]
  refine .inl (Oper.wp_mono (fun a' w' hh => ?_) h1)
  obtain ⟨v, rfl, hb', hv⟩ := hh
  refine ⟨v, by rw [Option.bind_some, hd], hb', fun e he => ?_⟩
  have : d = e := by simpa [writes, ho, hd] using he
  subst this
  exact hv

theorem inv_step2 {a0 : Act} {V : Nat → Value → World → Prop}
    (hV : ∀ d v w w', V d v w → V d v w') {J' : World → Prop} (ht : tidy ops = true)
    (hsz : (ops.all fun o => match o.dst with | some d => decide (d < a0.tmps.size) | none => true) = true)
    {listed : Array Bool} {a : Act} {w : World} {i : Nat} (hI : InvJ ops V a0 listed a w) (hs : listed.size = ops.size) (hi : i ∈ Region.ready .any ops listed) {Jw : World → Prop} (hJ : Jw w) (h : OwesJ P ops Q V a0 Jw J' i) :
    wpOp P ops Q i (fun a' w' => InvJ ops V a0 (listed.setIfInBounds i true) a' w' ∧ J' w') a w := by
  obtain ⟨hun, o, ho, haf⟩ := mem_ready.1 hi
  have hil : i < ops.size := (Array.getElem?_eq_some_iff.1 ho).1
  have hwl : ∀ j, waits ops i j = true → listed.getD j false = true := fun j hj => by
    unfold waits at hj
    rw [ho] at hj
    simp only [Option.map_some, Option.getD_some, Array.any_eq_true', Bool.and_eq_true, beq_iff_eq] at hj
    obtain ⟨e, he, rfl, hb⟩ := hj
    exact haf e he hb
  have hilt : i < listed.size := by omega
  have hnl : listed.getD i false = false := by
    rw [Array.getD_eq_getD_getElem?] at hun ⊢
    simp [hilt] at hun ⊢
    exact hun
  have htd : ∀ j, j < ops.size → i ≠ j → ∀ d, writes ops j d = true → writes ops i d = false ∧ (d ∈ o.looksAt ops → waits ops i j = true ∨ waits ops j i = true) := fun j hj hne d hw => by
    unfold tidy at ht
    rw [Bool.and_eq_true] at ht
    have h1 := List.all_eq_true.1 (List.all_eq_true.1 ht.2 i (List.mem_range.2 hil)) j (List.mem_range.2 hj)
    unfold writes at hw
    have hdj : (ops[j]?).bind (·.dst) = some d := by simpa using hw
    rw [hdj, ho] at h1
    have hb : (i == j) = false := by simpa using hne
    rw [hb] at h1
    simp only [Bool.false_or, Bool.and_eq_true, Bool.not_eq_true', Bool.or_eq_true] at h1
    refine ⟨h1.1, fun hd => ?_⟩
    rcases h1.2 with (h2 | h2) | h2
    · have : (o.looksAt ops).contains d = true := by simpa using hd
      rw [this] at h2; cases h2
    · exact .inl h2
    · exact .inr h2
  have hwn : ∀ j, waits ops j i = true → listed.getD j false = false := fun j hj => by
    cases hx : listed.getD j false with
    | false => rfl
    | true => have := hI.closed j i hj hx; rw [hnl] at this; cases this
  refine wpOp_mono (fun a' w' hh => ?_) (h a w hI.size hI.defers hJ (fun x hx => ?_))
  · obtain ⟨v, rfl, hb, hv⟩ := hh
    have hdl : ∀ t, (ops[i]?).bind (·.dst) = some t → t < a.tmps.size := fun t hte => by
      rw [ho] at hte
      have h2 := Array.all_eq_true_iff_forall_mem.1 hsz o (Array.mem_of_getElem? ho)
      have h3 : o.dst = some t := hte
      rw [h3] at h2
      rw [hI.size]
      exact of_decide_eq_true h2
    have hli : ∀ j, j ≠ i → (listed.setIfInBounds i true).getD j false = listed.getD j false := fun j hj => getD_set_ne false (Ne.symm hj)
    have hself : (listed.setIfInBounds i true).getD i false = true := by
      rw [Array.getD_eq_getD_getElem?]; simp [hilt]
    refine ⟨⟨?_, ?_, fun j d hw hl => ?_, fun j k hjk hl => ?_, fun d hd => ?_⟩, hb⟩
    · cases hx : (ops[i]?).bind (·.dst) <;> simp [Act.put, hI.size]
    · cases hx : (ops[i]?).bind (·.dst) <;> simp [Act.put, hI.defers]
    · rw [getD_put a _ v d hdl]
      by_cases hji : j = i
      · subst hji
        have : (ops[j]?).bind (·.dst) = some d := by simpa [writes] using hw
        rw [if_pos this]
        exact hv d hw
      · have hne := (htd j (writes_lt hw) (Ne.symm hji) d hw).1
        rw [if_neg (by intro e; simp [writes, e] at hne)]
        rw [hli j hji] at hl
        exact hV _ _ _ _ (hI.done j d hw hl)
    · by_cases hki : k = i
      · subst hki; exact hself
      · rw [hli k hki]
        by_cases hji : j = i
        · subst hji; exact hwl k hjk
        · rw [hli j hji] at hl; exact hI.closed j k hjk hl
    · rw [getD_put a _ v d hdl]
      rw [if_neg]
      · refine hI.rest d (fun j hw => ?_)
        have := hd j hw
        by_cases hji : j = i
        · subst hji; rw [hself] at this; cases this
        · rwa [hli j hji] at this
      · intro e
        have := hd i (by simp [writes, e])
        rw [hself] at this; cases this
  · unfold reads at hx
    rw [ho] at hx
    obtain ⟨d, hdm, rfl⟩ := List.mem_map.1 hx
    refine ⟨fun hf => ?_, fun hf => ?_⟩
    · simp only [List.any_eq_true, List.mem_range, Bool.and_eq_true] at hf
      obtain ⟨j, _, hw, hwt⟩ := hf
      exact hI.done j d hw (hwl j hwt)
    · refine hI.rest d (fun j hw => ?_)
      by_cases hji : j = i
      · subst hji; exact hnl
      · rcases (htd j (writes_lt hw) (Ne.symm hji) d hw).2 hdm with h1 | h1
        · exfalso
          rw [List.any_eq_false] at hf
          have := hf j (List.mem_range.2 (writes_lt hw))
          simp [hw, h1] at this
        · exact hwn j h1


theorem wp_held_two {id : Nat} {a0 : Act} {w0 : World} (hm : P.follows .mixedOrders = true) (V : Nat → Value → World → Prop)
    (hV : ∀ d v w w', V d v w → V d v w') (ht : tidy ops = true) (D : List Nat) (hD : dsts ops = D) (J : Nat → World → Prop) (p q : Nat) (hpq : p ≠ q) (hps : p < ops.size) (hqs : q < ops.size) (hqp : far ops 4 q p = true)
    (hsz : (ops.all fun o => match o.dst with | some d => decide (d < a0.tmps.size) | none => true) = true)
    (hJ : J 0 { w0 with drawn := w0.drawn + 1 })
    (h : ∀ i, i < ops.size → i ≠ p → i ≠ q → ∀ m, OwesJ P ops Q V a0 (J m) (J m) i) (hp : OwesJ P ops Q V a0 (J 0) (J 1) p) (hq : OwesJ P ops Q V a0 (J 1) (J 2) q)
    (hd : ∀ (f : Nat → Value) w, (∀ d ∈ D, V d (f d) w) → J 2 w → Q .normal (putAll a0 (D.map fun d => (d, f d))) w) :
    (Code.region id ops true).wp P Q a0 w0 := by
  have hnone : ∀ j, (Array.replicate ops.size false).getD j false = false := fun j => by
    rw [Array.getD_eq_getD_getElem?]
    by_cases hj : j < ops.size <;> simp [hj]
  let cnt : Array Bool → Nat := fun listed => (if listed.getD p false = true then 1 else 0) + (if listed.getD q false = true then 1 else 0)
  refine wp_inv hm (fun listed a w => InvJ ops V a0 listed a w ∧ J (cnt listed) w) ⟨⟨rfl, rfl, fun j d _ hl => ?_, fun j k _ hl => ?_, fun d _ => rfl⟩, ?_⟩ ?_ ?_
  · rw [hnone] at hl; cases hl
  · rw [hnone] at hl; cases hl
  · show J ((if (Array.replicate ops.size false).getD p false = true then 1 else 0) + (if (Array.replicate ops.size false).getD q false = true then 1 else 0)) _
    rw [hnone, hnone]
    exact hJ
  · intro listed a w i ⟨hI, hJw⟩ hs hi
    obtain ⟨hun, o, ho, haf⟩ := mem_ready.1 hi
    have hil : i < ops.size := (Array.getElem?_eq_some_iff.1 ho).1
    have hilt : i < listed.size := by omega
    have hnl : listed.getD i false = false := by
      rw [Array.getD_eq_getD_getElem?] at hun ⊢
      simp [hilt] at hun ⊢
      exact hun
    have hself : (listed.setIfInBounds i true).getD i false = true := by
      rw [Array.getD_eq_getD_getElem?]; simp [hilt]
    by_cases hip : i = p
    · subst hip
      have hnq : listed.getD q false = false := by
        cases hx : listed.getD q false with
        | false => rfl
        | true =>
          have := far_listed hI.closed 4 q i hx hqp
          rw [hnl] at this; cases this
      have e0 : cnt listed = 0 := by show (if _ then _ else _) + (if _ then _ else _) = 0; rw [hnl, hnq]; rfl
      have e1 : cnt (listed.setIfInBounds i true) = 1 := by show (if _ then _ else _) + (if _ then _ else _) = 1; rw [hself, getD_set_ne false hpq, hnq]; rfl
      rw [e0] at hJw
      refine wpOp_mono (fun a' w' hh => ?_) (inv_step2 hV ht hsz hI hs hi hJw hp)
      rw [e1]; exact hh
    · by_cases hiq : i = q
      · subst hiq
        have hlp : listed.getD p false = true := by
          refine far_once (fun k hk => ?_) hI.closed hqp
          unfold waits at hk
          rw [ho] at hk
          simp only [Option.map_some, Option.getD_some, Array.any_eq_true', Bool.and_eq_true, beq_iff_eq] at hk
          obtain ⟨e, he, rfl, hb⟩ := hk
          exact haf e he hb
        have e0 : cnt listed = 1 := by show (if _ then _ else _) + (if _ then _ else _) = 1; rw [hnl, hlp]; rfl
        have e1 : cnt (listed.setIfInBounds i true) = 2 := by show (if _ then _ else _) + (if _ then _ else _) = 2; rw [hself, getD_set_ne false hip, hlp]; rfl
        rw [e0] at hJw
        refine wpOp_mono (fun a' w' hh => ?_) (inv_step2 hV ht hsz hI hs hi hJw hq)
        rw [e1]; exact hh
      · have e1 : cnt (listed.setIfInBounds i true) = cnt listed := by show (if _ then _ else _) + (if _ then _ else _) = (if _ then _ else _) + (if _ then _ else _); rw [getD_set_ne false hip, getD_set_ne false hiq]
        refine wpOp_mono (fun a' w' hh => ?_) (inv_step2 hV ht hsz hI hs hi hJw (h i hil hip hiq _))
        rw [e1]; exact hh
  · intro listed a w ⟨hI, hJw⟩ hs hr
    have hal := all_listed ht hr hs
    have e2 : cnt listed = 2 := by show (if _ then _ else _) + (if _ then _ else _) = 2; rw [hal p hps, hal q hqs]; rfl
    rw [e2] at hJw
    subst hD
    have e := putAll_eq a (dsts ops) a0 hI.size hI.defers (fun d hdm => by
      obtain ⟨j, hj⟩ := mem_dsts.1 hdm
      unfold writes at hj
      cases hx : ops[j]? with
      | none => rw [hx] at hj; simp at hj
      | some o =>
        rw [hx] at hj
        have h3 : o.dst = some d := by simpa using hj
        have h2 := Array.all_eq_true_iff_forall_mem.1 hsz o (Array.mem_of_getElem? hx)
        rw [h3] at h2
        exact of_decide_eq_true h2) (fun d hn => hI.rest d (fun j hw => absurd (mem_dsts.2 ⟨j, hw⟩) hn))
    rw [e]
    exact hd (fun d => a.tmps.getD d undef) w (fun d hdm => by obtain ⟨j, hj⟩ := mem_dsts.1 hdm; exact hI.done j d hj (hal j (writes_lt hj))) hJw
end
end Go.Proofs.YtgmpohdkignadaaGreatDoor.Reg
/-
  A region that draws its order, in which one operation (p) writes and the last one waits for all the others. No condition.
-/
namespace Go.Proofs.YtgmpohdkignadaaGreatDoor.Reg
open Go.RowKit Go.Maps
set_option linter.unusedVariables false
set_option linter.unusedSimpArgs false

section
variable {P : Program} {ops : Array Oper} {Q : Exit → Act → World → Prop}

theorem wp_held_mid {id : Nat} {a0 : Act} {w0 : World} (hm : P.follows .mixedOrders = true) (V : Nat → Value → World → Prop)
    (hV : ∀ d v w w', V d v w → V d v w') (ht : tidy ops = true) (D : List Nat) (hD : dsts ops = D) (J : Nat → World → Prop) (p n : Nat) (hn : ops.size = n + 1) (hpn : p < n) (hnd : (ops[n]?).bind (·.dst) = none) (fuel : Nat)
    (hlast : ((List.range n).all fun j => far ops fuel n j) = true)
    (hsz : (ops.all fun o => match o.dst with | some d => decide (d < a0.tmps.size) | none => true) = true)
    (hJ : J 0 { w0 with drawn := w0.drawn + 1 })
    (h : ∀ i, i < n → i ≠ p → ∀ m, OwesJ P ops Q V a0 (J m) (J m) i) (hp : OwesJ P ops Q V a0 (J 0) (J 1) p)
    (hd : ∀ (f : Nat → Value) w, (∀ d ∈ D, V d (f d) w) → J 1 w → wpOp P ops Q n (Q .normal) (putAll a0 (D.map fun d => (d, f d))) w) :
    (Code.region id ops true).wp P Q a0 w0 := by
  have hnone : ∀ j, (Array.replicate ops.size false).getD j false = false := fun j => by
    rw [Array.getD_eq_getD_getElem?]
    by_cases hj : j < ops.size <;> simp [hj]
  let cnt : Array Bool → Nat := fun listed => if listed.getD p false = true then 1 else 0
  refine wp_inv hm (fun listed a w => (listed.getD n false = false ∧ InvJ ops V a0 listed a w ∧ J (cnt listed) w) ∨ (listed.getD n false = true ∧ (∀ j, j < n → listed.getD j false = true) ∧ Q .normal a w))
    (.inl ⟨hnone n, ⟨rfl, rfl, fun j d _ hl => ?_, fun j k _ hl => ?_, fun d _ => rfl⟩, ?_⟩) ?_ ?_
  · rw [hnone] at hl; cases hl
  · rw [hnone] at hl; cases hl
  · show J (if (Array.replicate ops.size false).getD p false = true then 1 else 0) _
    rw [hnone]
    exact hJ
  · intro listed a w i hI hs hi
    obtain ⟨hun, o, ho, haf⟩ := mem_ready.1 hi
    have hil : i < ops.size := (Array.getElem?_eq_some_iff.1 ho).1
    have hilt : i < listed.size := by omega
    have hnl : listed.getD i false = false := by
      rw [Array.getD_eq_getD_getElem?] at hun ⊢
      simp [hilt] at hun ⊢
      exact hun
    have hself : (listed.setIfInBounds i true).getD i false = true := by
      rw [Array.getD_eq_getD_getElem?]; simp [hilt]
    rcases hI with ⟨hln, hI, hJw⟩ | ⟨h1, h2, -⟩
    · by_cases hin : i = n
      · subst hin
        have hall : ∀ j, j < i → listed.getD j false = true := fun j hj => by
          have hw := List.all_eq_true.1 hlast j (List.mem_range.2 hj)
          refine far_once (fun k hk => ?_) hI.closed hw
          unfold waits at hk
          rw [ho] at hk
          simp only [Option.map_some, Option.getD_some, Array.any_eq_true', Bool.and_eq_true, beq_iff_eq] at hk
          obtain ⟨e, he, rfl, hb⟩ := hk
          exact haf e he hb
        have e1 : cnt listed = 1 := by show (if _ then _ else _) = 1; rw [hall p hpn]; rfl
        rw [e1] at hJw
        subst hD
        have hwn : ∀ j d, writes ops j d = true → j < i := fun j d hw => by
          have := writes_lt hw
          rcases Nat.lt_or_ge j i with h | h
          · exact h
          · obtain rfl : j = i := by omega
            simp [writes, hnd] at hw
        have e := putAll_eq a (dsts ops) a0 hI.size hI.defers (fun d hdm => by
          obtain ⟨j, hj⟩ := mem_dsts.1 hdm
          unfold writes at hj
          cases hx : ops[j]? with
          | none => rw [hx] at hj; simp at hj
          | some o =>
            rw [hx] at hj
            have h3 : o.dst = some d := by simpa using hj
            have h2 := Array.all_eq_true_iff_forall_mem.1 hsz o (Array.mem_of_getElem? hx)
            rw [h3] at h2
            exact of_decide_eq_true h2) (fun d hn => hI.rest d (fun j hw => absurd (mem_dsts.2 ⟨j, hw⟩) hn))
        rw [e]
        refine wpOp_mono (fun a' w' hq => .inr ⟨?_, fun j hj => ?_, hq⟩) (hd (fun d => a.tmps.getD d undef) w (fun d hdm => by obtain ⟨j, hj⟩ := mem_dsts.1 hdm; exact hI.done j d hj (hall j (hwn j d hj))) hJw)
        · rw [Array.getD_eq_getD_getElem?]; simp [hilt]
        · rw [getD_set_ne false (by omega)]; exact hall j hj
      · by_cases hip : i = p
        · subst hip
          have e0 : cnt listed = 0 := by show (if _ then _ else _) = 0; rw [hnl]; rfl
          have e1 : cnt (listed.setIfInBounds i true) = 1 := by show (if _ then _ else _) = 1; rw [hself]; rfl
          rw [e0] at hJw
          refine wpOp_mono (fun a' w' hq => .inl ⟨?_, ?_⟩) (inv_step2 hV ht hsz hI hs hi hJw hp)
          · rw [getD_set_ne false hin]; exact hln
          · rw [e1]; exact hq
        · have e1 : cnt (listed.setIfInBounds i true) = cnt listed := by show (if _ then _ else _) = (if _ then _ else _); rw [getD_set_ne false hip]
          refine wpOp_mono (fun a' w' hq => .inl ⟨?_, ?_⟩) (inv_step2 hV ht hsz hI hs hi hJw (h i (by omega) hip _))
          · rw [getD_set_ne false hin]; exact hln
          · rw [e1]; exact hq
    · exfalso
      rcases Nat.lt_or_ge i n with hlt | hge
      · rw [h2 i hlt] at hnl; cases hnl
      · obtain rfl : i = n := by omega
        rw [h1] at hnl; cases hnl
  · intro listed a w hI hs hr
    have hal := all_listed ht hr hs
    rcases hI with ⟨h1, -⟩ | ⟨-, -, hq⟩
    · rw [hal n (by omega)] at h1; cases h1
    · exact hq
end
end Go.Proofs.YtgmpohdkignadaaGreatDoor.Reg
/-
  Package gap: move. No condition.
-/
namespace Go.Proofs.YtgmpohdkignadaaGreatDoor.Ut
open Go.RowKit Go.Proofs.YtgmpohdkignadaaGreatDoor.Reg
set_option linter.unusedVariables false
set_option linter.unusedSimpArgs false

/-- Bytes are copied within a row. -/
theorem copyB_at {W : World} {g : Nat} {l : List UInt8} (h : RowIs W g l) (o p n dLen dCap k sCap : Nat) (hn : n = l.length) (h1 : k ≤ dLen) (h2 : o + k ≤ n) (h3 : p + k ≤ n) :
    ∃ W', (Builtin.copy_ #[99, 99] 3 #[.slice (some ⟨g, offs n o, none⟩) dLen dCap, .slice (some ⟨g, offs n p, none⟩) k sCap]).run Tryz.prog W = .ok (goInt k) W' ∧ RowIs W' g (l.take o ++ (l.drop p).take k ++ l.drop (o + k)) ∧ Chg (fun x => x = g) W W' := by
  have hz : (Tryz.prog.info? 5).map (·.size) = some 1 := by kernel_rfl
  rcases Nat.eq_zero_or_pos k with h0 | h0
  · subst h0
    refine ⟨W, ?_, ?_, Chg.refl _ _⟩
    · have := run_copy_none (P := Tryz.prog) W 99 99 3 5 (some ⟨g, offs n o, none⟩) (some ⟨g, offs n p, none⟩) dLen dCap 0 sCap Tryz.underlying99 hz (by simp)
      exact this
    · simpa using h
  · have eo : offs n o = o := by unfold offs; rw [if_neg (by omega)]
    have ep : offs n p = p := by unfold offs; rw [if_neg (by omega)]
    rw [eo, ep]
    have hcs : ((l.drop p).take k).length = k := by simp; omega
    have hbl : (Lib.byteCells ((l.drop p).take k)).length = k := by rw [Lib.byteCells_length, hcs]
    have := run_copy_row (P := Tryz.prog) W 99 99 3 5 g o dLen dCap ⟨g, p, none⟩ k sCap _ _ (Lib.byteCells ((l.drop p).take k)) Tryz.underlying99 hz h (by rw [hbl]; exact (Nat.min_eq_left h1).symm) (fun j v hj => ?_) (by rw [hbl]; simp [Lib.byteCells]; omega) (Lib.byteCells_one _)
    · rw [hbl] at this
      refine ⟨_, this, ?_, setRow_chg _ _ _⟩
      have h4 := setRow_heap W g _ ((Lib.byteCells l).toArray.toList.take o ++ Lib.byteCells ((l.drop p).take k) ++ (Lib.byteCells l).toArray.toList.drop (o + k)).toArray _ _ h
      unfold RowIs
      rw [h4]
      simp only [byteCells_take, byteCells_drop, ← Lib.byteCells_append]
    · have hjk : j < k := by have := (List.getElem?_eq_some_iff.1 hj).1; omega
      have hadd : (⟨g, p, none⟩ : Addr).add j = ⟨g, p + j, none⟩ := by unfold Addr.add; split <;> simp_all
      rw [hadd]
      unfold RowIs at h
      simp only [World.cell?, h]
      have e : (Lib.byteCells ((l.drop p).take k))[j]? = (Lib.byteCells l)[p + j]? := by
        rw [← byteCells_take, ← byteCells_drop, List.getElem?_take, if_pos hjk, List.getElem?_drop]
      rw [e] at hj
      simpa using hj

theorem wpList_copyR {ops : Array Oper} {rest : List Oper} {o : Oper} {a : Act} {Q : Exit → Act → World → Prop} {w : World} (hgd : o.guard = none) (d s : Operand) (t t' : TypeId)
    (ho : o.op = .call { callee := .builtin .copy, args := #[d, s], argTypes := #[t, t'] }) (v u : Value) (hd : a.eval d = v) (hs : a.eval s = u) {v' : Value} {w' : World}
    (hr : (Builtin.copy_ #[t, t'] o.type #[v, u]).run Tryz.prog w = .ok v' w') (h : wpList Tryz.prog ops Q rest (a.put o.dst v') w') : wpList Tryz.prog ops Q (o :: rest) a w := by
  refine wpList_plain hgd fun K hK => ?_
  unfold Oper.wp
  simp [execOp, ho, resolve, invoke, builtin, hd, hs, hr, Result.andThen]
  exact hK _ _ h
/-- The row behind a move. -/
def moveL (l : List UInt8) (fr tv a : Nat) : List UInt8 := if a < fr then l.take (tv - (fr - a)) ++ (l.drop a).take (fr - a) ++ l.drop (tv - (fr - a) + (fr - a)) else l.take fr ++ (l.drop tv).take (a - fr) ++ l.drop (fr + (a - fr))
theorem take_drop_take {l : List UInt8} {a f : Nat} (h : a ≤ f) : l.take a ++ (l.drop a).take (f - a) = l.take f := by
  rw [show f = a + (f - a) by omega, List.take_add]; congr 2; omega
theorem moveL_len {l : List UInt8} {fr tv a : Nat} (h1 : fr ≤ tv) (h2 : tv ≤ l.length) (ha : a ≤ l.length - (tv - fr)) : (moveL l fr tv a).length = l.length := by
  unfold moveL; split <;> simp <;> omega
theorem moveL_text {l : List UInt8} {fr tv a : Nat} (h1 : fr ≤ tv) (h2 : tv ≤ l.length) (ha : a ≤ l.length - (tv - fr)) :
    (moveL l fr tv a).take a ++ (moveL l fr tv a).drop (a + (tv - fr)) = l.take fr ++ l.drop tv := by
  unfold moveL
  split
  · rename_i h
    have e1 : (l.take (tv - (fr - a)) ++ (l.drop a).take (fr - a) ++ l.drop (tv - (fr - a) + (fr - a))).take a = l.take a := by
      rw [List.append_assoc, List.take_append_of_le_length (by simp; omega), List.take_take]; congr 1; omega
    have e2 : (l.take (tv - (fr - a)) ++ (l.drop a).take (fr - a) ++ l.drop (tv - (fr - a) + (fr - a))).drop (a + (tv - fr)) = (l.drop a).take (fr - a) ++ l.drop tv := by
      rw [List.append_assoc, List.drop_left' (by simp; omega)]
      congr 2; omega
    rw [e1, e2, ← List.append_assoc, take_drop_take (by omega)]
  · rename_i h
    have e1 : (l.take fr ++ (l.drop tv).take (a - fr) ++ l.drop (fr + (a - fr))).take a = l.take fr ++ (l.drop tv).take (a - fr) := by
      rw [List.take_left' (by simp; omega)]
    have e2 : (l.take fr ++ (l.drop tv).take (a - fr) ++ l.drop (fr + (a - fr))).drop (a + (tv - fr)) = l.drop (tv + (a - fr)) := by
      rw [List.drop_append, List.drop_eq_nil_of_le (by simp; omega), List.nil_append, List.drop_drop]
      congr 1; simp; omega
    rw [e1, e2, List.append_assoc]
    congr 1
    have : l.drop (tv + (a - fr)) = (l.drop tv).drop (a - fr) := by rw [List.drop_drop]
    rw [this, List.take_append_drop]

def VMv3 (b g N fr tv k a M : Nat) : Nat → Value → World → Prop := fun d x w => match d with
  | 15 => x = .pointer (some ⟨b, 0, none⟩)
  | 16 => x = .pointer (some ⟨b, 0, none⟩)
  | 17 => x = .pointer (some ⟨b, 0, none⟩)
  | 18 => x = .slice (some ⟨g, 0, none⟩) N N
  | 19 => x = .pointer (some ⟨b, 0, none⟩)
  | 20 => x = .pointer (some ⟨b, 0, none⟩)
  | 21 => x = .pointer (some ⟨b, 2, none⟩)
  | 22 => x = .int .i64 tv
  | 23 => x = .int .i64 k
  | 24 => x = .int .i64 M
  | 25 => x = .slice (some ⟨g, M, none⟩) (N - M) (N - M)
  | 26 => x = .pointer (some ⟨b, 0, none⟩)
  | 27 => x = .pointer (some ⟨b, 0, none⟩)
  | 28 => x = .pointer (some ⟨b, 0, none⟩)
  | 29 => x = .slice (some ⟨g, 0, none⟩) N N
  | 30 => x = .int .i64 a
  | 31 => x = .pointer (some ⟨b, 0, none⟩)
  | 32 => x = .pointer (some ⟨b, 0, none⟩)
  | 33 => x = .pointer (some ⟨b, 1, none⟩)
  | 34 => x = .int .i64 fr
  | 35 => x = .slice (some ⟨g, a, none⟩) k (N - a)
  | 36 => True
  | _ => True
theorem VMv3_mono (b g N fr tv k a M : Nat) : ∀ d x w w', VMv3 b g N fr tv k a M d x w → Below w.heap.size w w' → VMv3 b g N fr tv k a M d x w' := by
  exact fun _ _ _ _ h _ => h
def VMv4 (b g N fr tv M o1 o2 : Nat) (k : Int) : Nat → Value → World → Prop := fun d x w => match d with
  | 37 => x = .pointer (some ⟨b, 0, none⟩)
  | 38 => x = .pointer (some ⟨b, 0, none⟩)
  | 39 => x = .pointer (some ⟨b, 0, none⟩)
  | 40 => x = .slice (some ⟨g, 0, none⟩) N N
  | 41 => x = .pointer (some ⟨b, 0, none⟩)
  | 42 => x = .pointer (some ⟨b, 0, none⟩)
  | 43 => x = .pointer (some ⟨b, 1, none⟩)
  | 44 => x = .int .i64 fr
  | 45 => x = .slice (some ⟨g, o1, none⟩) (N - fr) (N - fr)
  | 46 => x = .pointer (some ⟨b, 0, none⟩)
  | 47 => x = .pointer (some ⟨b, 0, none⟩)
  | 48 => x = .pointer (some ⟨b, 0, none⟩)
  | 49 => x = .slice (some ⟨g, 0, none⟩) N N
  | 50 => x = .pointer (some ⟨b, 0, none⟩)
  | 51 => x = .pointer (some ⟨b, 0, none⟩)
  | 52 => x = .pointer (some ⟨b, 2, none⟩)
  | 53 => x = .int .i64 tv
  | 54 => x = .pointer (some ⟨b, 0, none⟩)
  | 55 => x = .pointer (some ⟨b, 0, none⟩)
  | 56 => x = .pointer (some ⟨b, 2, none⟩)
  | 57 => x = .int .i64 tv
  | 58 => x = .int .i64 k
  | 59 => x = .int .i64 M
  | 60 => x = .slice (some ⟨g, o2, none⟩) (M - tv) (N - tv)
  | 61 => True
  | _ => True
theorem VMv4_mono (b g N fr tv M o1 o2 : Nat) (k : Int) : ∀ d x w w', VMv4 b g N fr tv M o1 o2 k d x w → Below w.heap.size w w' → VMv4 b g N fr tv M o1 o2 k d x w' := by
  exact fun _ _ _ _ h _ => h
def VMv5 (b fr tv a T : Nat) : Nat → Value → World → Prop := fun d x w => match d with
  | 62 => x = .pointer (some ⟨b, 0, none⟩)
  | 63 => x = .pointer (some ⟨b, 0, none⟩)
  | 64 => x = .pointer (some ⟨b, 2, none⟩)
  | 65 => x = .int .i64 tv
  | 66 => x = .int .i64 a
  | 67 => x = .pointer (some ⟨b, 0, none⟩)
  | 68 => x = .pointer (some ⟨b, 0, none⟩)
  | 69 => x = .pointer (some ⟨b, 1, none⟩)
  | 70 => x = .int .i64 fr
  | 71 => x = .int .i64 ((a : Int) - fr)
  | 72 => x = .int .i64 T
  | 73 => x = .pointer (some ⟨b, 0, none⟩)
  | 74 => x = .pointer (some ⟨b, 2, none⟩)
  | _ => True
theorem VMv5_mono (b fr tv a T : Nat) : ∀ d x w w', VMv5 b fr tv a T d x w → Below w.heap.size w w' → VMv5 b fr tv a T d x w' := by
  exact fun _ _ _ _ h _ => h
set_option maxRecDepth 100000 in
set_option maxHeartbeats 2000000 in
theorem move_row (b g N fr tv lim a : Nat) (l : List UInt8) (w : World) (hb : Blk w b 101 [.slice (some ⟨g, 0, none⟩) N N, .int .i64 fr, .int .i64 tv, .int .i64 lim]) (hr : RowIs w g l) (hl : N = l.length) (hne : b ≠ g) (h1 : fr ≤ tv) (h2 : tv ≤ N) (hm : N ≤ 4294967296) (ha : a ≤ N - (tv - fr)) :
    Calls Tryz.prog 147 #[.pointer (some ⟨b, 0, none⟩), .int .i64 a] w fun e w' => e = .returned (.tuple #[]) ∧ Blk w' b 101 [.slice (some ⟨g, 0, none⟩) N N, .int .i64 a, .int .i64 (a + (tv - fr) : Nat), .int .i64 lim] ∧ RowIs w' g (moveL l fr tv a) ∧ Chg (fun k => k = b ∨ k = g) w w' := by
  have HBk := Lib.hid hb
  have HR := Lib.hid hr
  have c1 := (hb.lies.2 1 _ rfl).1
  have hbl := hb.lies.1
  have hEnd : Hid (∀ W : World, Blk W b 101 [.slice (some ⟨g, 0, none⟩) N N, .int .i64 fr, .int .i64 tv, .int .i64 lim] → RowIs W g (moveL l fr tv a) → Chg (fun k => k = b ∨ k = g) w W →
      Blk ((W.setCell ⟨b, 2, none⟩ (.int .i64 (a + (tv - fr) : Nat))).setCell ⟨b, 1, none⟩ (.int .i64 a)) b 101 [.slice (some ⟨g, 0, none⟩) N N, .int .i64 a, .int .i64 (a + (tv - fr) : Nat), .int .i64 lim] ∧ RowIs ((W.setCell ⟨b, 2, none⟩ (.int .i64 (a + (tv - fr) : Nat))).setCell ⟨b, 1, none⟩ (.int .i64 a)) g (moveL l fr tv a) ∧ Chg (fun k => k = b ∨ k = g) w ((W.setCell ⟨b, 2, none⟩ (.int .i64 (a + (tv - fr) : Nat))).setCell ⟨b, 1, none⟩ (.int .i64 a))) := by
    intro W q1 q2 q3
    have B3 := (q1.set 2 (.int .i64 (a + (tv - fr) : Nat))).set 1 (.int .i64 a)
    have C3 : Chg (fun k => k = b) W ((W.setCell ⟨b, 2, none⟩ (.int .i64 (a + (tv - fr) : Nat))).setCell ⟨b, 1, none⟩ (.int .i64 a)) := (Chg.set W ⟨b, 2, none⟩ _).trans (Chg.set _ ⟨b, 1, none⟩ _) (fun _ _ h => h)
    have hgl : g < W.heap.size := (Array.getElem?_eq_some_iff.1 q2).1
    exact ⟨B3, (C3.block g hgl (by show ¬ g = b; omega)).trans q2, q3.trans C3 (fun x _ h => .inl h)⟩
  have hws : IntKind.i64.wrap ((a : Int) - (fr : Int)) = (a : Int) - (fr : Int) := IntWalk.i64_in _ (by omega)
  have hwt : IntKind.i64.wrap ((tv : Int) + ((a : Int) - (fr : Int))) = ((a + (tv - fr) : Nat) : Int) := by rw [IntWalk.i64_in _ (by omega)]; omega
  by_cases hlt : a < fr
  · obtain ⟨K, hK⟩ : ∃ K, fr - a = K := ⟨_, rfl⟩
    obtain ⟨M, hM⟩ : ∃ M, tv - K = M := ⟨_, rfl⟩
    have hw1 : IntKind.i64.wrap ((fr : Int) - (a : Int)) = (K : Int) := by rw [IntWalk.i64_in _ (by omega)]; omega
    have hw2 : IntKind.i64.wrap ((tv : Int) - (K : Int)) = (M : Int) := by rw [IntWalk.i64_in _ (by omega)]; omega
    have hc : (0 : Int) < (K : Int) := by omega
    have n2 : M ≤ N := by omega
    have n3 : ¬ N = M := by omega
    have n5 : a ≤ fr := by omega
    have n6 : fr ≤ N := by omega
    have n7 : ¬ N = a := by omega
    obtain ⟨T, hT⟩ : ∃ T, a + (tv - fr) = T := ⟨_, rfl⟩
    have HC := Lib.hid (fun (W : World) (h : RowIs W g l) => copyB_at h M a N (N - M) (N - M) K (N - a) hl (by omega) (by omega) (by omega))
    have hmv : l.take M ++ (l.drop a).take K ++ l.drop (M + K) = moveL l fr tv a := by unfold moveL; rw [if_pos hlt, hK, hM]
    have eM : offs N M = M := by unfold offs; rw [if_neg n3]
    have eA : offs N a = a := by unfold offs; rw [if_neg n7]
    rw [hmv, eM, eA] at HC
    rw [hT] at hEnd hwt ⊢
    clear hT hM hmv eM eA h1 h2 ha hb hr hlt hl hm
    go_enter Tryz.func147, Tryz.ntmps147
    go_wp2
    clear hw1
    refine wp_held_tail mixed (VMv3 b g N fr tv K a M) (VMv3_mono _ _ _ _ _ _ _ _) (by kernel_rfl) 8 21 (by decide) [15, 16, 17, 18, 19, 20, 21, 22, 23, 24, 25, 26, 27, 28, 29, 30, 31, 32, 33, 34, 35] (by kernel_rfl) (by kernel_rfl) (by kernel_rfl) (by kernel_rfl) ?_ ?_
    · intro j hj
      have hj' : j < 21 := hj
      rcases (by omega : j = 0 ∨ j = 1 ∨ j = 2 ∨ j = 3 ∨ j = 4 ∨ j = 5 ∨ j = 6 ∨ j = 7 ∨ j = 8 ∨ j = 9 ∨ j = 10 ∨ j = 11 ∨ j = 12 ∨ j = 13 ∨ j = 14 ∨ j = 15 ∨ j = 16 ∨ j = 17 ∨ j = 18 ∨ j = 19 ∨ j = 20) with rfl | rfl | rfl | rfl | rfl | rfl | rfl | rfl | rfl | rfl | rfl | rfl | rfl | rfl | rfl | rfl | rfl | rfl | rfl | rfl | rfl
      · -- operation 0
        (refine owes_val (L := [(0, false)]) rfl rfl rfl (by kernel_rfl) ?_; intro a' w' hb' hfacts; obtain ⟨hf0, -⟩ := hfacts; replace hf0 : a'.tmps[0]?.getD undef = .pointer (some ⟨b, 0, none⟩) := hf0)
        have pB := (HBk.out.below hb').lies; have p0 := (pB.2 0 _ rfl).1; have p1 := (pB.2 1 _ rfl).1; have p2 := (pB.2 2 _ rfl).1
        (go_simp; first | exact ⟨_, rfl, Below.refl _ _, rfl⟩ | exact ⟨_, rfl, Below.refl _ _, trivial⟩ | exact ⟨_, rfl, (Below.refl _ _).alloc (Nat.le_refl _) _, trivial⟩ | exact ⟨_, rfl, Below.refl _ _, congrArg (Value.int _) (IntWalk.i64_in _ (by omega))⟩)
      · -- operation 1
        (refine owes_val (L := [(15, true)]) rfl rfl rfl (by kernel_rfl) ?_; intro a' w' hb' hfacts; obtain ⟨hf15, -⟩ := hfacts; try simp only [VMv3] at hf15)
        have pB := (HBk.out.below hb').lies; have p0 := (pB.2 0 _ rfl).1; have p1 := (pB.2 1 _ rfl).1; have p2 := (pB.2 2 _ rfl).1
        (go_simp; first | exact ⟨_, rfl, Below.refl _ _, rfl⟩ | exact ⟨_, rfl, Below.refl _ _, trivial⟩ | exact ⟨_, rfl, (Below.refl _ _).alloc (Nat.le_refl _) _, trivial⟩ | exact ⟨_, rfl, Below.refl _ _, congrArg (Value.int _) (IntWalk.i64_in _ (by omega))⟩)
      · -- operation 2
        (refine owes_val (L := [(16, true)]) rfl rfl rfl (by kernel_rfl) ?_; intro a' w' hb' hfacts; obtain ⟨hf16, -⟩ := hfacts; try simp only [VMv3] at hf16)
        have pB := (HBk.out.below hb').lies; have p0 := (pB.2 0 _ rfl).1; have p1 := (pB.2 1 _ rfl).1; have p2 := (pB.2 2 _ rfl).1
        (go_simp; first | exact ⟨_, rfl, Below.refl _ _, rfl⟩ | exact ⟨_, rfl, Below.refl _ _, trivial⟩ | exact ⟨_, rfl, (Below.refl _ _).alloc (Nat.le_refl _) _, trivial⟩ | exact ⟨_, rfl, Below.refl _ _, congrArg (Value.int _) (IntWalk.i64_in _ (by omega))⟩)
      · -- operation 3
        (refine owes_val (L := [(17, true)]) rfl rfl rfl (by kernel_rfl) ?_; intro a' w' hb' hfacts; obtain ⟨hf17, -⟩ := hfacts; try simp only [VMv3] at hf17)
        have pB := (HBk.out.below hb').lies; have p0 := (pB.2 0 _ rfl).1; have p1 := (pB.2 1 _ rfl).1; have p2 := (pB.2 2 _ rfl).1
        (go_simp; first | exact ⟨_, rfl, Below.refl _ _, rfl⟩ | exact ⟨_, rfl, Below.refl _ _, trivial⟩ | exact ⟨_, rfl, (Below.refl _ _).alloc (Nat.le_refl _) _, trivial⟩ | exact ⟨_, rfl, Below.refl _ _, congrArg (Value.int _) (IntWalk.i64_in _ (by omega))⟩)
      · -- operation 4
        (refine owes_val (L := [(0, false)]) rfl rfl rfl (by kernel_rfl) ?_; intro a' w' hb' hfacts; obtain ⟨hf0, -⟩ := hfacts; replace hf0 : a'.tmps[0]?.getD undef = .pointer (some ⟨b, 0, none⟩) := hf0)
        have pB := (HBk.out.below hb').lies; have p0 := (pB.2 0 _ rfl).1; have p1 := (pB.2 1 _ rfl).1; have p2 := (pB.2 2 _ rfl).1
        (go_simp; first | exact ⟨_, rfl, Below.refl _ _, rfl⟩ | exact ⟨_, rfl, Below.refl _ _, trivial⟩ | exact ⟨_, rfl, (Below.refl _ _).alloc (Nat.le_refl _) _, trivial⟩ | exact ⟨_, rfl, Below.refl _ _, congrArg (Value.int _) (IntWalk.i64_in _ (by omega))⟩)
      · -- operation 5
        (refine owes_val (L := [(19, true)]) rfl rfl rfl (by kernel_rfl) ?_; intro a' w' hb' hfacts; obtain ⟨hf19, -⟩ := hfacts; try simp only [VMv3] at hf19)
        have pB := (HBk.out.below hb').lies; have p0 := (pB.2 0 _ rfl).1; have p1 := (pB.2 1 _ rfl).1; have p2 := (pB.2 2 _ rfl).1
        (go_simp; first | exact ⟨_, rfl, Below.refl _ _, rfl⟩ | exact ⟨_, rfl, Below.refl _ _, trivial⟩ | exact ⟨_, rfl, (Below.refl _ _).alloc (Nat.le_refl _) _, trivial⟩ | exact ⟨_, rfl, Below.refl _ _, congrArg (Value.int _) (IntWalk.i64_in _ (by omega))⟩)
      · -- operation 6
        (refine owes_val (L := [(20, true)]) rfl rfl rfl (by kernel_rfl) ?_; intro a' w' hb' hfacts; obtain ⟨hf20, -⟩ := hfacts; try simp only [VMv3] at hf20)
        have pB := (HBk.out.below hb').lies; have p0 := (pB.2 0 _ rfl).1; have p1 := (pB.2 1 _ rfl).1; have p2 := (pB.2 2 _ rfl).1
        (go_simp; first | exact ⟨_, rfl, Below.refl _ _, rfl⟩ | exact ⟨_, rfl, Below.refl _ _, trivial⟩ | exact ⟨_, rfl, (Below.refl _ _).alloc (Nat.le_refl _) _, trivial⟩ | exact ⟨_, rfl, Below.refl _ _, congrArg (Value.int _) (IntWalk.i64_in _ (by omega))⟩)
      · -- operation 7
        (refine owes_val (L := [(21, true)]) rfl rfl rfl (by kernel_rfl) ?_; intro a' w' hb' hfacts; obtain ⟨hf21, -⟩ := hfacts; try simp only [VMv3] at hf21)
        have pB := (HBk.out.below hb').lies; have p0 := (pB.2 0 _ rfl).1; have p1 := (pB.2 1 _ rfl).1; have p2 := (pB.2 2 _ rfl).1
        (go_simp; first | exact ⟨_, rfl, Below.refl _ _, rfl⟩ | exact ⟨_, rfl, Below.refl _ _, trivial⟩ | exact ⟨_, rfl, (Below.refl _ _).alloc (Nat.le_refl _) _, trivial⟩ | exact ⟨_, rfl, Below.refl _ _, congrArg (Value.int _) (IntWalk.i64_in _ (by omega))⟩)
      · -- operation 8
        (refine owes_val (L := [(4, false)]) rfl rfl rfl (by kernel_rfl) ?_; intro a' w' hb' hfacts; obtain ⟨hf4, -⟩ := hfacts; replace hf4 : a'.tmps[4]?.getD undef = .int .i64 K := hf4)
        have pB := (HBk.out.below hb').lies; have p0 := (pB.2 0 _ rfl).1; have p1 := (pB.2 1 _ rfl).1; have p2 := (pB.2 2 _ rfl).1
        (go_simp; first | exact ⟨_, rfl, Below.refl _ _, rfl⟩ | exact ⟨_, rfl, Below.refl _ _, trivial⟩ | exact ⟨_, rfl, (Below.refl _ _).alloc (Nat.le_refl _) _, trivial⟩ | exact ⟨_, rfl, Below.refl _ _, congrArg (Value.int _) (IntWalk.i64_in _ (by omega))⟩)
      · -- operation 9
        (refine owes_val (L := [(22, true), (23, true)]) rfl rfl rfl (by kernel_rfl) ?_; intro a' w' hb' hfacts; obtain ⟨hf22, hf23, -⟩ := hfacts; try simp only [VMv3] at hf22; try simp only [VMv3] at hf23)
        have pB := (HBk.out.below hb').lies; have p0 := (pB.2 0 _ rfl).1; have p1 := (pB.2 1 _ rfl).1; have p2 := (pB.2 2 _ rfl).1
        (go_simp; first | exact ⟨_, rfl, Below.refl _ _, rfl⟩ | exact ⟨_, rfl, Below.refl _ _, trivial⟩ | exact ⟨_, rfl, (Below.refl _ _).alloc (Nat.le_refl _) _, trivial⟩ | exact ⟨_, rfl, Below.refl _ _, congrArg (Value.int _) (IntWalk.i64_in _ (by omega))⟩)
      · -- operation 10
        (refine owes_val (L := [(18, true), (24, true)]) rfl rfl rfl (by kernel_rfl) ?_; intro a' w' hb' hfacts; obtain ⟨hf18, hf24, -⟩ := hfacts; try simp only [VMv3] at hf18; try simp only [VMv3] at hf24)
        have pB := (HBk.out.below hb').lies; have p0 := (pB.2 0 _ rfl).1; have p1 := (pB.2 1 _ rfl).1; have p2 := (pB.2 2 _ rfl).1
        (go_simp; first | exact ⟨_, rfl, Below.refl _ _, rfl⟩ | exact ⟨_, rfl, Below.refl _ _, trivial⟩ | exact ⟨_, rfl, (Below.refl _ _).alloc (Nat.le_refl _) _, trivial⟩ | exact ⟨_, rfl, Below.refl _ _, congrArg (Value.int _) (IntWalk.i64_in _ (by omega))⟩)
      · -- operation 11
        (refine owes_val (L := [(0, false)]) rfl rfl rfl (by kernel_rfl) ?_; intro a' w' hb' hfacts; obtain ⟨hf0, -⟩ := hfacts; replace hf0 : a'.tmps[0]?.getD undef = .pointer (some ⟨b, 0, none⟩) := hf0)
        have pB := (HBk.out.below hb').lies; have p0 := (pB.2 0 _ rfl).1; have p1 := (pB.2 1 _ rfl).1; have p2 := (pB.2 2 _ rfl).1
        (go_simp; first | exact ⟨_, rfl, Below.refl _ _, rfl⟩ | exact ⟨_, rfl, Below.refl _ _, trivial⟩ | exact ⟨_, rfl, (Below.refl _ _).alloc (Nat.le_refl _) _, trivial⟩ | exact ⟨_, rfl, Below.refl _ _, congrArg (Value.int _) (IntWalk.i64_in _ (by omega))⟩)
      · -- operation 12
        (refine owes_val (L := [(26, true)]) rfl rfl rfl (by kernel_rfl) ?_; intro a' w' hb' hfacts; obtain ⟨hf26, -⟩ := hfacts; try simp only [VMv3] at hf26)
        have pB := (HBk.out.below hb').lies; have p0 := (pB.2 0 _ rfl).1; have p1 := (pB.2 1 _ rfl).1; have p2 := (pB.2 2 _ rfl).1
        (go_simp; first | exact ⟨_, rfl, Below.refl _ _, rfl⟩ | exact ⟨_, rfl, Below.refl _ _, trivial⟩ | exact ⟨_, rfl, (Below.refl _ _).alloc (Nat.le_refl _) _, trivial⟩ | exact ⟨_, rfl, Below.refl _ _, congrArg (Value.int _) (IntWalk.i64_in _ (by omega))⟩)
      · -- operation 13
        (refine owes_val (L := [(27, true)]) rfl rfl rfl (by kernel_rfl) ?_; intro a' w' hb' hfacts; obtain ⟨hf27, -⟩ := hfacts; try simp only [VMv3] at hf27)
        have pB := (HBk.out.below hb').lies; have p0 := (pB.2 0 _ rfl).1; have p1 := (pB.2 1 _ rfl).1; have p2 := (pB.2 2 _ rfl).1
        (go_simp; first | exact ⟨_, rfl, Below.refl _ _, rfl⟩ | exact ⟨_, rfl, Below.refl _ _, trivial⟩ | exact ⟨_, rfl, (Below.refl _ _).alloc (Nat.le_refl _) _, trivial⟩ | exact ⟨_, rfl, Below.refl _ _, congrArg (Value.int _) (IntWalk.i64_in _ (by omega))⟩)
      · -- operation 14
        (refine owes_val (L := [(28, true)]) rfl rfl rfl (by kernel_rfl) ?_; intro a' w' hb' hfacts; obtain ⟨hf28, -⟩ := hfacts; try simp only [VMv3] at hf28)
        have pB := (HBk.out.below hb').lies; have p0 := (pB.2 0 _ rfl).1; have p1 := (pB.2 1 _ rfl).1; have p2 := (pB.2 2 _ rfl).1
        (go_simp; first | exact ⟨_, rfl, Below.refl _ _, rfl⟩ | exact ⟨_, rfl, Below.refl _ _, trivial⟩ | exact ⟨_, rfl, (Below.refl _ _).alloc (Nat.le_refl _) _, trivial⟩ | exact ⟨_, rfl, Below.refl _ _, congrArg (Value.int _) (IntWalk.i64_in _ (by omega))⟩)
      · -- operation 15
        (refine owes_val (L := [(1, false)]) rfl rfl rfl (by kernel_rfl) ?_; intro a' w' hb' hfacts; obtain ⟨hf1, -⟩ := hfacts; replace hf1 : a'.tmps[1]?.getD undef = .int .i64 a := hf1)
        have pB := (HBk.out.below hb').lies; have p0 := (pB.2 0 _ rfl).1; have p1 := (pB.2 1 _ rfl).1; have p2 := (pB.2 2 _ rfl).1
        (go_simp; first | exact ⟨_, rfl, Below.refl _ _, rfl⟩ | exact ⟨_, rfl, Below.refl _ _, trivial⟩ | exact ⟨_, rfl, (Below.refl _ _).alloc (Nat.le_refl _) _, trivial⟩ | exact ⟨_, rfl, Below.refl _ _, congrArg (Value.int _) (IntWalk.i64_in _ (by omega))⟩)
      · -- operation 16
        (refine owes_val (L := [(0, false)]) rfl rfl rfl (by kernel_rfl) ?_; intro a' w' hb' hfacts; obtain ⟨hf0, -⟩ := hfacts; replace hf0 : a'.tmps[0]?.getD undef = .pointer (some ⟨b, 0, none⟩) := hf0)
        have pB := (HBk.out.below hb').lies; have p0 := (pB.2 0 _ rfl).1; have p1 := (pB.2 1 _ rfl).1; have p2 := (pB.2 2 _ rfl).1
        (go_simp; first | exact ⟨_, rfl, Below.refl _ _, rfl⟩ | exact ⟨_, rfl, Below.refl _ _, trivial⟩ | exact ⟨_, rfl, (Below.refl _ _).alloc (Nat.le_refl _) _, trivial⟩ | exact ⟨_, rfl, Below.refl _ _, congrArg (Value.int _) (IntWalk.i64_in _ (by omega))⟩)
      · -- operation 17
        (refine owes_val (L := [(31, true)]) rfl rfl rfl (by kernel_rfl) ?_; intro a' w' hb' hfacts; obtain ⟨hf31, -⟩ := hfacts; try simp only [VMv3] at hf31)
        have pB := (HBk.out.below hb').lies; have p0 := (pB.2 0 _ rfl).1; have p1 := (pB.2 1 _ rfl).1; have p2 := (pB.2 2 _ rfl).1
        (go_simp; first | exact ⟨_, rfl, Below.refl _ _, rfl⟩ | exact ⟨_, rfl, Below.refl _ _, trivial⟩ | exact ⟨_, rfl, (Below.refl _ _).alloc (Nat.le_refl _) _, trivial⟩ | exact ⟨_, rfl, Below.refl _ _, congrArg (Value.int _) (IntWalk.i64_in _ (by omega))⟩)
      · -- operation 18
        (refine owes_val (L := [(32, true)]) rfl rfl rfl (by kernel_rfl) ?_; intro a' w' hb' hfacts; obtain ⟨hf32, -⟩ := hfacts; try simp only [VMv3] at hf32)
        have pB := (HBk.out.below hb').lies; have p0 := (pB.2 0 _ rfl).1; have p1 := (pB.2 1 _ rfl).1; have p2 := (pB.2 2 _ rfl).1
        (go_simp; first | exact ⟨_, rfl, Below.refl _ _, rfl⟩ | exact ⟨_, rfl, Below.refl _ _, trivial⟩ | exact ⟨_, rfl, (Below.refl _ _).alloc (Nat.le_refl _) _, trivial⟩ | exact ⟨_, rfl, Below.refl _ _, congrArg (Value.int _) (IntWalk.i64_in _ (by omega))⟩)
      · -- operation 19
        (refine owes_val (L := [(33, true)]) rfl rfl rfl (by kernel_rfl) ?_; intro a' w' hb' hfacts; obtain ⟨hf33, -⟩ := hfacts; try simp only [VMv3] at hf33)
        have pB := (HBk.out.below hb').lies; have p0 := (pB.2 0 _ rfl).1; have p1 := (pB.2 1 _ rfl).1; have p2 := (pB.2 2 _ rfl).1
        (go_simp; first | exact ⟨_, rfl, Below.refl _ _, rfl⟩ | exact ⟨_, rfl, Below.refl _ _, trivial⟩ | exact ⟨_, rfl, (Below.refl _ _).alloc (Nat.le_refl _) _, trivial⟩ | exact ⟨_, rfl, Below.refl _ _, congrArg (Value.int _) (IntWalk.i64_in _ (by omega))⟩)
      · -- operation 20
        (refine owes_val (L := [(29, true), (30, true), (34, true)]) rfl rfl rfl (by kernel_rfl) ?_; intro a' w' hb' hfacts; obtain ⟨hf29, hf30, hf34, -⟩ := hfacts; try simp only [VMv3] at hf29; try simp only [VMv3] at hf30; try simp only [VMv3] at hf34)
        have pB := (HBk.out.below hb').lies; have p0 := (pB.2 0 _ rfl).1; have p1 := (pB.2 1 _ rfl).1; have p2 := (pB.2 2 _ rfl).1
        (go_simp; first | exact ⟨_, rfl, Below.refl _ _, rfl⟩ | exact ⟨_, rfl, Below.refl _ _, trivial⟩ | exact ⟨_, rfl, (Below.refl _ _).alloc (Nat.le_refl _) _, trivial⟩ | exact ⟨_, rfl, Below.refl _ _, congrArg (Value.int _) (IntWalk.i64_in _ (by omega))⟩)
    · intro f W hf hbW
      have e25 : f 25 = .slice (some ⟨g, M, none⟩) (N - M) (N - M) := hf 25 (by decide)
      have e35 : f 35 = .slice (some ⟨g, a, none⟩) K (N - a) := hf 35 (by decide)
      have hgW : RowIs W g l := (hbW.block g (Array.getElem?_eq_some_iff.1 HR.out).1).trans HR.out
      obtain ⟨W2, hcopy, hr2, hc2⟩ := HC.out W hgW
      have hB2 : Blk W2 b 101 [.slice (some ⟨g, 0, none⟩) N N, .int .i64 fr, .int .i64 tv, .int .i64 lim] := (HBk.out.below hbW).chg hc2 hne
      have hC2 : Chg (fun k => k = b ∨ k = g) w W2 := (Chg.of_below hbW).trans hc2 (fun x _ h => .inr h)
      have HB2 := Lib.hid hB2
      have HR2 := Lib.hid hr2
      have HC2 := Lib.hid hC2
      clear hf hbW hr2 hc2 hB2 hC2 HC hgW HBk HR c1 hbl
      simp only [putAll, put_lit, List.map_cons, List.map_nil, List.set_cons_succ, List.set_cons_zero]
      simp only [e25, e35]
      clear e25 e35
      dsimp only [List.drop]
      refine wpList_copyR rfl _ _ _ _ rfl _ _ rfl rfl hcopy ?_
      clear hcopy n2 n3 n5 n6 n7 hw2 hc
      go_wp2
      refine wp_held_tail mixed (VMv5 b fr tv a T) (VMv5_mono _ _ _ _ _) (by kernel_rfl) 8 13 (by decide) [62, 63, 64, 65, 66, 67, 68, 69, 70, 71, 72, 73, 74] (by kernel_rfl) (by kernel_rfl) (by kernel_rfl) (by kernel_rfl) ?_ ?_
      · intro j hj
        have hj' : j < 13 := hj
        rcases (by omega : j = 0 ∨ j = 1 ∨ j = 2 ∨ j = 3 ∨ j = 4 ∨ j = 5 ∨ j = 6 ∨ j = 7 ∨ j = 8 ∨ j = 9 ∨ j = 10 ∨ j = 11 ∨ j = 12) with rfl | rfl | rfl | rfl | rfl | rfl | rfl | rfl | rfl | rfl | rfl | rfl | rfl
        · -- operation 0
          (refine owes_val (L := [(0, false)]) rfl rfl rfl (by kernel_rfl) ?_; intro a' w' hb' hfacts; obtain ⟨hf0, -⟩ := hfacts; replace hf0 : a'.tmps[0]?.getD undef = .pointer (some ⟨b, 0, none⟩) := hf0)
          have pB := (HB2.out.below hb').lies; have p1 := (pB.2 1 _ rfl).1; have p2 := (pB.2 2 _ rfl).1
          (go_simp; first | exact ⟨_, rfl, Below.refl _ _, rfl⟩ | exact ⟨_, rfl, Below.refl _ _, trivial⟩ | exact ⟨_, rfl, (Below.refl _ _).alloc (Nat.le_refl _) _, trivial⟩ | exact ⟨_, rfl, Below.refl _ _, congrArg (Value.int _) (IntWalk.i64_in _ (by omega))⟩)
        · -- operation 1
          (refine owes_val (L := [(62, true)]) rfl rfl rfl (by kernel_rfl) ?_; intro a' w' hb' hfacts; obtain ⟨hf62, -⟩ := hfacts; try simp only [VMv5] at hf62)
          have pB := (HB2.out.below hb').lies; have p1 := (pB.2 1 _ rfl).1; have p2 := (pB.2 2 _ rfl).1
          (go_simp; first | exact ⟨_, rfl, Below.refl _ _, rfl⟩ | exact ⟨_, rfl, Below.refl _ _, trivial⟩ | exact ⟨_, rfl, (Below.refl _ _).alloc (Nat.le_refl _) _, trivial⟩ | exact ⟨_, rfl, Below.refl _ _, congrArg (Value.int _) (IntWalk.i64_in _ (by omega))⟩)
        · -- operation 2
          (refine owes_val (L := [(63, true)]) rfl rfl rfl (by kernel_rfl) ?_; intro a' w' hb' hfacts; obtain ⟨hf63, -⟩ := hfacts; try simp only [VMv5] at hf63)
          have pB := (HB2.out.below hb').lies; have p1 := (pB.2 1 _ rfl).1; have p2 := (pB.2 2 _ rfl).1
          (go_simp; first | exact ⟨_, rfl, Below.refl _ _, rfl⟩ | exact ⟨_, rfl, Below.refl _ _, trivial⟩ | exact ⟨_, rfl, (Below.refl _ _).alloc (Nat.le_refl _) _, trivial⟩ | exact ⟨_, rfl, Below.refl _ _, congrArg (Value.int _) (IntWalk.i64_in _ (by omega))⟩)
        · -- operation 3
          (refine owes_val (L := [(64, true)]) rfl rfl rfl (by kernel_rfl) ?_; intro a' w' hb' hfacts; obtain ⟨hf64, -⟩ := hfacts; try simp only [VMv5] at hf64)
          have pB := (HB2.out.below hb').lies; have p1 := (pB.2 1 _ rfl).1; have p2 := (pB.2 2 _ rfl).1
          (go_simp; first | exact ⟨_, rfl, Below.refl _ _, rfl⟩ | exact ⟨_, rfl, Below.refl _ _, trivial⟩ | exact ⟨_, rfl, (Below.refl _ _).alloc (Nat.le_refl _) _, trivial⟩ | exact ⟨_, rfl, Below.refl _ _, congrArg (Value.int _) (IntWalk.i64_in _ (by omega))⟩)
        · -- operation 4
          (refine owes_val (L := [(1, false)]) rfl rfl rfl (by kernel_rfl) ?_; intro a' w' hb' hfacts; obtain ⟨hf1, -⟩ := hfacts; replace hf1 : a'.tmps[1]?.getD undef = .int .i64 a := hf1)
          have pB := (HB2.out.below hb').lies; have p1 := (pB.2 1 _ rfl).1; have p2 := (pB.2 2 _ rfl).1
          (go_simp; first | exact ⟨_, rfl, Below.refl _ _, rfl⟩ | exact ⟨_, rfl, Below.refl _ _, trivial⟩ | exact ⟨_, rfl, (Below.refl _ _).alloc (Nat.le_refl _) _, trivial⟩ | exact ⟨_, rfl, Below.refl _ _, congrArg (Value.int _) (IntWalk.i64_in _ (by omega))⟩)
        · -- operation 5
          (refine owes_val (L := [(0, false)]) rfl rfl rfl (by kernel_rfl) ?_; intro a' w' hb' hfacts; obtain ⟨hf0, -⟩ := hfacts; replace hf0 : a'.tmps[0]?.getD undef = .pointer (some ⟨b, 0, none⟩) := hf0)
          have pB := (HB2.out.below hb').lies; have p1 := (pB.2 1 _ rfl).1; have p2 := (pB.2 2 _ rfl).1
          (go_simp; first | exact ⟨_, rfl, Below.refl _ _, rfl⟩ | exact ⟨_, rfl, Below.refl _ _, trivial⟩ | exact ⟨_, rfl, (Below.refl _ _).alloc (Nat.le_refl _) _, trivial⟩ | exact ⟨_, rfl, Below.refl _ _, congrArg (Value.int _) (IntWalk.i64_in _ (by omega))⟩)
        · -- operation 6
          (refine owes_val (L := [(67, true)]) rfl rfl rfl (by kernel_rfl) ?_; intro a' w' hb' hfacts; obtain ⟨hf67, -⟩ := hfacts; try simp only [VMv5] at hf67)
          have pB := (HB2.out.below hb').lies; have p1 := (pB.2 1 _ rfl).1; have p2 := (pB.2 2 _ rfl).1
          (go_simp; first | exact ⟨_, rfl, Below.refl _ _, rfl⟩ | exact ⟨_, rfl, Below.refl _ _, trivial⟩ | exact ⟨_, rfl, (Below.refl _ _).alloc (Nat.le_refl _) _, trivial⟩ | exact ⟨_, rfl, Below.refl _ _, congrArg (Value.int _) (IntWalk.i64_in _ (by omega))⟩)
        · -- operation 7
          (refine owes_val (L := [(68, true)]) rfl rfl rfl (by kernel_rfl) ?_; intro a' w' hb' hfacts; obtain ⟨hf68, -⟩ := hfacts; try simp only [VMv5] at hf68)
          have pB := (HB2.out.below hb').lies; have p1 := (pB.2 1 _ rfl).1; have p2 := (pB.2 2 _ rfl).1
          (go_simp; first | exact ⟨_, rfl, Below.refl _ _, rfl⟩ | exact ⟨_, rfl, Below.refl _ _, trivial⟩ | exact ⟨_, rfl, (Below.refl _ _).alloc (Nat.le_refl _) _, trivial⟩ | exact ⟨_, rfl, Below.refl _ _, congrArg (Value.int _) (IntWalk.i64_in _ (by omega))⟩)
        · -- operation 8
          (refine owes_val (L := [(69, true)]) rfl rfl rfl (by kernel_rfl) ?_; intro a' w' hb' hfacts; obtain ⟨hf69, -⟩ := hfacts; try simp only [VMv5] at hf69)
          have pB := (HB2.out.below hb').lies; have p1 := (pB.2 1 _ rfl).1; have p2 := (pB.2 2 _ rfl).1
          (go_simp; first | exact ⟨_, rfl, Below.refl _ _, rfl⟩ | exact ⟨_, rfl, Below.refl _ _, trivial⟩ | exact ⟨_, rfl, (Below.refl _ _).alloc (Nat.le_refl _) _, trivial⟩ | exact ⟨_, rfl, Below.refl _ _, congrArg (Value.int _) (IntWalk.i64_in _ (by omega))⟩)
        · -- operation 9
          (refine owes_val (L := [(66, true), (70, true)]) rfl rfl rfl (by kernel_rfl) ?_; intro a' w' hb' hfacts; obtain ⟨hf66, hf70, -⟩ := hfacts; try simp only [VMv5] at hf66; try simp only [VMv5] at hf70)
          have pB := (HB2.out.below hb').lies; have p1 := (pB.2 1 _ rfl).1; have p2 := (pB.2 2 _ rfl).1
          (go_simp; first | exact ⟨_, rfl, Below.refl _ _, rfl⟩ | exact ⟨_, rfl, Below.refl _ _, trivial⟩ | exact ⟨_, rfl, (Below.refl _ _).alloc (Nat.le_refl _) _, trivial⟩ | exact ⟨_, rfl, Below.refl _ _, congrArg (Value.int _) (IntWalk.i64_in _ (by omega))⟩)
        · -- operation 10
          (refine owes_val (L := [(65, true), (71, true)]) rfl rfl rfl (by kernel_rfl) ?_; intro a' w' hb' hfacts; obtain ⟨hf65, hf71, -⟩ := hfacts; try simp only [VMv5] at hf65; try simp only [VMv5] at hf71)
          have pB := (HB2.out.below hb').lies; have p1 := (pB.2 1 _ rfl).1; have p2 := (pB.2 2 _ rfl).1
          (go_simp; first | exact ⟨_, rfl, Below.refl _ _, rfl⟩ | exact ⟨_, rfl, Below.refl _ _, trivial⟩ | exact ⟨_, rfl, (Below.refl _ _).alloc (Nat.le_refl _) _, trivial⟩ | exact ⟨_, rfl, Below.refl _ _, congrArg (Value.int _) (IntWalk.i64_in _ (by omega))⟩)
        · -- operation 11
          (refine owes_val (L := [(62, true)]) rfl rfl rfl (by kernel_rfl) ?_; intro a' w' hb' hfacts; obtain ⟨hf62, -⟩ := hfacts; try simp only [VMv5] at hf62)
          have pB := (HB2.out.below hb').lies; have p1 := (pB.2 1 _ rfl).1; have p2 := (pB.2 2 _ rfl).1
          (go_simp; first | exact ⟨_, rfl, Below.refl _ _, rfl⟩ | exact ⟨_, rfl, Below.refl _ _, trivial⟩ | exact ⟨_, rfl, (Below.refl _ _).alloc (Nat.le_refl _) _, trivial⟩ | exact ⟨_, rfl, Below.refl _ _, congrArg (Value.int _) (IntWalk.i64_in _ (by omega))⟩)
        · -- operation 12
          (refine owes_val (L := [(73, true)]) rfl rfl rfl (by kernel_rfl) ?_; intro a' w' hb' hfacts; obtain ⟨hf73, -⟩ := hfacts; try simp only [VMv5] at hf73)
          have pB := (HB2.out.below hb').lies; have p1 := (pB.2 1 _ rfl).1; have p2 := (pB.2 2 _ rfl).1
          (go_simp; first | exact ⟨_, rfl, Below.refl _ _, rfl⟩ | exact ⟨_, rfl, Below.refl _ _, trivial⟩ | exact ⟨_, rfl, (Below.refl _ _).alloc (Nat.le_refl _) _, trivial⟩ | exact ⟨_, rfl, Below.refl _ _, congrArg (Value.int _) (IntWalk.i64_in _ (by omega))⟩)
      · intro f2 W3 hf2 hb3
        have e74 : f2 74 = .pointer (some ⟨b, 2, none⟩) := hf2 74 (by decide)
        have e72 : f2 72 = .int .i64 T := hf2 72 (by decide)
        have hB3 := HB2.out.below hb3
        have HE := Lib.hid (hEnd.out W3 hB3 ((hb3.block g (Array.getElem?_eq_some_iff.1 HR2.out).1).trans HR2.out) (HC2.out.trans (Chg.of_below hb3) (fun x hx h => absurd hx (by omega))))
        obtain ⟨q1, f1'⟩ := hB3.lies.2 1 _ rfl
        obtain ⟨q2, f2'⟩ := hB3.lies.2 2 _ rfl
        have hbl3 := hB3.lies.1
        clear hf2 hb3 HB2 HR2 HC2 hEnd hB3 hws hwt
        simp only [putAll, put_lit, List.map_cons, List.map_nil, List.set_cons_succ, List.set_cons_zero]
        simp only [e74, e72]
        clear e74 e72
        dsimp only [List.drop]
        go_wp2
        go_end0
        exact ⟨rfl, HE.out⟩
  · obtain ⟨M, hM⟩ : ∃ M, tv + (a - fr) = M := ⟨_, rfl⟩
    have hw1 : IntKind.i64.wrap ((fr : Int) - (a : Int)) = (fr : Int) - (a : Int) := IntWalk.i64_in _ (by omega)
    obtain ⟨K, hK⟩ : ∃ K : Int, (fr : Int) - (a : Int) = K := ⟨_, rfl⟩
    rw [hK] at hw1
    have hw2 : IntKind.i64.wrap ((tv : Int) - K) = (M : Int) := by rw [IntWalk.i64_in _ (by omega)]; omega
    have hc : ¬ (0 : Int) < K := by omega
    have n2 : fr ≤ N := by omega
    have n3 : tv ≤ M := by omega
    have n4 : M ≤ N := by omega
    obtain ⟨T, hT⟩ : ∃ T, a + (tv - fr) = T := ⟨_, rfl⟩
    have HC := Lib.hid (fun (W : World) (h : RowIs W g l) => copyB_at h fr tv N (N - fr) (N - fr) (M - tv) (N - tv) hl (by omega) (by omega) (by omega))
    have hmv : l.take fr ++ (l.drop tv).take (M - tv) ++ l.drop (fr + (M - tv)) = moveL l fr tv a := by unfold moveL; rw [if_neg hlt, show M - tv = a - fr by omega]
    obtain ⟨o1, ho1⟩ : ∃ o, offs N fr = o := ⟨_, rfl⟩
    obtain ⟨o2, ho2⟩ : ∃ o, offs N tv = o := ⟨_, rfl⟩
    have p1 : (if N = fr then (some ⟨g, 0, none⟩ : Option Addr) else some ⟨g, fr, none⟩) = some ⟨g, o1, none⟩ := by rw [← ho1]; unfold offs; split <;> rfl
    have p2 : (if N = tv then (some ⟨g, 0, none⟩ : Option Addr) else some ⟨g, tv, none⟩) = some ⟨g, o2, none⟩ := by rw [← ho2]; unfold offs; split <;> rfl
    rw [hmv, ho1, ho2] at HC
    rw [hT] at hEnd hwt ⊢
    have HPP := Lib.hid (And.intro p1 p2)
    clear hT hM hmv ho1 ho2 h1 h2 ha hb hr hlt hl hm p1 p2
    go_enter Tryz.func147, Tryz.ntmps147
    go_wp2
    have hKK := Lib.hid hK
    clear hw1 hK
    refine wp_held_tail mixed (VMv4 b g N fr tv M o1 o2 K) (VMv4_mono _ _ _ _ _ _ _ _ _) (by kernel_rfl) 8 24 (by decide) [37, 38, 39, 40, 41, 42, 43, 44, 45, 46, 47, 48, 49, 50, 51, 52, 53, 54, 55, 56, 57, 58, 59, 60] (by kernel_rfl) (by kernel_rfl) (by kernel_rfl) (by kernel_rfl) ?_ ?_
    · intro j hj
      have hj' : j < 24 := hj
      rcases (by omega : j = 0 ∨ j = 1 ∨ j = 2 ∨ j = 3 ∨ j = 4 ∨ j = 5 ∨ j = 6 ∨ j = 7 ∨ j = 8 ∨ j = 9 ∨ j = 10 ∨ j = 11 ∨ j = 12 ∨ j = 13 ∨ j = 14 ∨ j = 15 ∨ j = 16 ∨ j = 17 ∨ j = 18 ∨ j = 19 ∨ j = 20 ∨ j = 21 ∨ j = 22 ∨ j = 23) with rfl | rfl | rfl | rfl | rfl | rfl | rfl | rfl | rfl | rfl | rfl | rfl | rfl | rfl | rfl | rfl | rfl | rfl | rfl | rfl | rfl | rfl | rfl | rfl
      · -- operation 0
        (refine owes_val (L := [(0, false)]) rfl rfl rfl (by kernel_rfl) ?_; intro a' w' hb' hfacts; obtain ⟨hf0, -⟩ := hfacts; replace hf0 : a'.tmps[0]?.getD undef = .pointer (some ⟨b, 0, none⟩) := hf0)
        have pB := (HBk.out.below hb').lies; have p0 := (pB.2 0 _ rfl).1; have p1 := (pB.2 1 _ rfl).1; have p2 := (pB.2 2 _ rfl).1
        (go_simp; first | exact ⟨_, rfl, Below.refl _ _, rfl⟩ | exact ⟨_, rfl, Below.refl _ _, trivial⟩ | exact ⟨_, rfl, (Below.refl _ _).alloc (Nat.le_refl _) _, trivial⟩ | exact ⟨_, rfl, Below.refl _ _, congrArg (Value.int _) (IntWalk.i64_in _ (by omega))⟩)
      · -- operation 1
        (refine owes_val (L := [(37, true)]) rfl rfl rfl (by kernel_rfl) ?_; intro a' w' hb' hfacts; obtain ⟨hf37, -⟩ := hfacts; try simp only [VMv4] at hf37)
        have pB := (HBk.out.below hb').lies; have p0 := (pB.2 0 _ rfl).1; have p1 := (pB.2 1 _ rfl).1; have p2 := (pB.2 2 _ rfl).1
        (go_simp; first | exact ⟨_, rfl, Below.refl _ _, rfl⟩ | exact ⟨_, rfl, Below.refl _ _, trivial⟩ | exact ⟨_, rfl, (Below.refl _ _).alloc (Nat.le_refl _) _, trivial⟩ | exact ⟨_, rfl, Below.refl _ _, congrArg (Value.int _) (IntWalk.i64_in _ (by omega))⟩)
      · -- operation 2
        (refine owes_val (L := [(38, true)]) rfl rfl rfl (by kernel_rfl) ?_; intro a' w' hb' hfacts; obtain ⟨hf38, -⟩ := hfacts; try simp only [VMv4] at hf38)
        have pB := (HBk.out.below hb').lies; have p0 := (pB.2 0 _ rfl).1; have p1 := (pB.2 1 _ rfl).1; have p2 := (pB.2 2 _ rfl).1
        (go_simp; first | exact ⟨_, rfl, Below.refl _ _, rfl⟩ | exact ⟨_, rfl, Below.refl _ _, trivial⟩ | exact ⟨_, rfl, (Below.refl _ _).alloc (Nat.le_refl _) _, trivial⟩ | exact ⟨_, rfl, Below.refl _ _, congrArg (Value.int _) (IntWalk.i64_in _ (by omega))⟩)
      · -- operation 3
        (refine owes_val (L := [(39, true)]) rfl rfl rfl (by kernel_rfl) ?_; intro a' w' hb' hfacts; obtain ⟨hf39, -⟩ := hfacts; try simp only [VMv4] at hf39)
        have pB := (HBk.out.below hb').lies; have p0 := (pB.2 0 _ rfl).1; have p1 := (pB.2 1 _ rfl).1; have p2 := (pB.2 2 _ rfl).1
        (go_simp; first | exact ⟨_, rfl, Below.refl _ _, rfl⟩ | exact ⟨_, rfl, Below.refl _ _, trivial⟩ | exact ⟨_, rfl, (Below.refl _ _).alloc (Nat.le_refl _) _, trivial⟩ | exact ⟨_, rfl, Below.refl _ _, congrArg (Value.int _) (IntWalk.i64_in _ (by omega))⟩)
      · -- operation 4
        (refine owes_val (L := [(0, false)]) rfl rfl rfl (by kernel_rfl) ?_; intro a' w' hb' hfacts; obtain ⟨hf0, -⟩ := hfacts; replace hf0 : a'.tmps[0]?.getD undef = .pointer (some ⟨b, 0, none⟩) := hf0)
        have pB := (HBk.out.below hb').lies; have p0 := (pB.2 0 _ rfl).1; have p1 := (pB.2 1 _ rfl).1; have p2 := (pB.2 2 _ rfl).1
        (go_simp; first | exact ⟨_, rfl, Below.refl _ _, rfl⟩ | exact ⟨_, rfl, Below.refl _ _, trivial⟩ | exact ⟨_, rfl, (Below.refl _ _).alloc (Nat.le_refl _) _, trivial⟩ | exact ⟨_, rfl, Below.refl _ _, congrArg (Value.int _) (IntWalk.i64_in _ (by omega))⟩)
      · -- operation 5
        (refine owes_val (L := [(41, true)]) rfl rfl rfl (by kernel_rfl) ?_; intro a' w' hb' hfacts; obtain ⟨hf41, -⟩ := hfacts; try simp only [VMv4] at hf41)
        have pB := (HBk.out.below hb').lies; have p0 := (pB.2 0 _ rfl).1; have p1 := (pB.2 1 _ rfl).1; have p2 := (pB.2 2 _ rfl).1
        (go_simp; first | exact ⟨_, rfl, Below.refl _ _, rfl⟩ | exact ⟨_, rfl, Below.refl _ _, trivial⟩ | exact ⟨_, rfl, (Below.refl _ _).alloc (Nat.le_refl _) _, trivial⟩ | exact ⟨_, rfl, Below.refl _ _, congrArg (Value.int _) (IntWalk.i64_in _ (by omega))⟩)
      · -- operation 6
        (refine owes_val (L := [(42, true)]) rfl rfl rfl (by kernel_rfl) ?_; intro a' w' hb' hfacts; obtain ⟨hf42, -⟩ := hfacts; try simp only [VMv4] at hf42)
        have pB := (HBk.out.below hb').lies; have p0 := (pB.2 0 _ rfl).1; have p1 := (pB.2 1 _ rfl).1; have p2 := (pB.2 2 _ rfl).1
        (go_simp; first | exact ⟨_, rfl, Below.refl _ _, rfl⟩ | exact ⟨_, rfl, Below.refl _ _, trivial⟩ | exact ⟨_, rfl, (Below.refl _ _).alloc (Nat.le_refl _) _, trivial⟩ | exact ⟨_, rfl, Below.refl _ _, congrArg (Value.int _) (IntWalk.i64_in _ (by omega))⟩)
      · -- operation 7
        (refine owes_val (L := [(43, true)]) rfl rfl rfl (by kernel_rfl) ?_; intro a' w' hb' hfacts; obtain ⟨hf43, -⟩ := hfacts; try simp only [VMv4] at hf43)
        have pB := (HBk.out.below hb').lies; have p0 := (pB.2 0 _ rfl).1; have p1 := (pB.2 1 _ rfl).1; have p2 := (pB.2 2 _ rfl).1
        (go_simp; first | exact ⟨_, rfl, Below.refl _ _, rfl⟩ | exact ⟨_, rfl, Below.refl _ _, trivial⟩ | exact ⟨_, rfl, (Below.refl _ _).alloc (Nat.le_refl _) _, trivial⟩ | exact ⟨_, rfl, Below.refl _ _, congrArg (Value.int _) (IntWalk.i64_in _ (by omega))⟩)
      · -- operation 8
        (refine owes_val (L := [(40, true), (44, true)]) rfl rfl rfl (by kernel_rfl) ?_; intro a' w' hb' hfacts; obtain ⟨hf40, hf44, -⟩ := hfacts; try simp only [VMv4] at hf40; try simp only [VMv4] at hf44)
        obtain ⟨x1, x2⟩ := HPP.out
        go_simp
        exact ⟨_, rfl, Below.refl _ _, rfl⟩
      · -- operation 9
        (refine owes_val (L := [(0, false)]) rfl rfl rfl (by kernel_rfl) ?_; intro a' w' hb' hfacts; obtain ⟨hf0, -⟩ := hfacts; replace hf0 : a'.tmps[0]?.getD undef = .pointer (some ⟨b, 0, none⟩) := hf0)
        have pB := (HBk.out.below hb').lies; have p0 := (pB.2 0 _ rfl).1; have p1 := (pB.2 1 _ rfl).1; have p2 := (pB.2 2 _ rfl).1
        (go_simp; first | exact ⟨_, rfl, Below.refl _ _, rfl⟩ | exact ⟨_, rfl, Below.refl _ _, trivial⟩ | exact ⟨_, rfl, (Below.refl _ _).alloc (Nat.le_refl _) _, trivial⟩ | exact ⟨_, rfl, Below.refl _ _, congrArg (Value.int _) (IntWalk.i64_in _ (by omega))⟩)
      · -- operation 10
        (refine owes_val (L := [(46, true)]) rfl rfl rfl (by kernel_rfl) ?_; intro a' w' hb' hfacts; obtain ⟨hf46, -⟩ := hfacts; try simp only [VMv4] at hf46)
        have pB := (HBk.out.below hb').lies; have p0 := (pB.2 0 _ rfl).1; have p1 := (pB.2 1 _ rfl).1; have p2 := (pB.2 2 _ rfl).1
        (go_simp; first | exact ⟨_, rfl, Below.refl _ _, rfl⟩ | exact ⟨_, rfl, Below.refl _ _, trivial⟩ | exact ⟨_, rfl, (Below.refl _ _).alloc (Nat.le_refl _) _, trivial⟩ | exact ⟨_, rfl, Below.refl _ _, congrArg (Value.int _) (IntWalk.i64_in _ (by omega))⟩)
      · -- operation 11
        (refine owes_val (L := [(47, true)]) rfl rfl rfl (by kernel_rfl) ?_; intro a' w' hb' hfacts; obtain ⟨hf47, -⟩ := hfacts; try simp only [VMv4] at hf47)
        have pB := (HBk.out.below hb').lies; have p0 := (pB.2 0 _ rfl).1; have p1 := (pB.2 1 _ rfl).1; have p2 := (pB.2 2 _ rfl).1
        (go_simp; first | exact ⟨_, rfl, Below.refl _ _, rfl⟩ | exact ⟨_, rfl, Below.refl _ _, trivial⟩ | exact ⟨_, rfl, (Below.refl _ _).alloc (Nat.le_refl _) _, trivial⟩ | exact ⟨_, rfl, Below.refl _ _, congrArg (Value.int _) (IntWalk.i64_in _ (by omega))⟩)
      · -- operation 12
        (refine owes_val (L := [(48, true)]) rfl rfl rfl (by kernel_rfl) ?_; intro a' w' hb' hfacts; obtain ⟨hf48, -⟩ := hfacts; try simp only [VMv4] at hf48)
        have pB := (HBk.out.below hb').lies; have p0 := (pB.2 0 _ rfl).1; have p1 := (pB.2 1 _ rfl).1; have p2 := (pB.2 2 _ rfl).1
        (go_simp; first | exact ⟨_, rfl, Below.refl _ _, rfl⟩ | exact ⟨_, rfl, Below.refl _ _, trivial⟩ | exact ⟨_, rfl, (Below.refl _ _).alloc (Nat.le_refl _) _, trivial⟩ | exact ⟨_, rfl, Below.refl _ _, congrArg (Value.int _) (IntWalk.i64_in _ (by omega))⟩)
      · -- operation 13
        (refine owes_val (L := [(0, false)]) rfl rfl rfl (by kernel_rfl) ?_; intro a' w' hb' hfacts; obtain ⟨hf0, -⟩ := hfacts; replace hf0 : a'.tmps[0]?.getD undef = .pointer (some ⟨b, 0, none⟩) := hf0)
        have pB := (HBk.out.below hb').lies; have p0 := (pB.2 0 _ rfl).1; have p1 := (pB.2 1 _ rfl).1; have p2 := (pB.2 2 _ rfl).1
        (go_simp; first | exact ⟨_, rfl, Below.refl _ _, rfl⟩ | exact ⟨_, rfl, Below.refl _ _, trivial⟩ | exact ⟨_, rfl, (Below.refl _ _).alloc (Nat.le_refl _) _, trivial⟩ | exact ⟨_, rfl, Below.refl _ _, congrArg (Value.int _) (IntWalk.i64_in _ (by omega))⟩)
      · -- operation 14
        (refine owes_val (L := [(50, true)]) rfl rfl rfl (by kernel_rfl) ?_; intro a' w' hb' hfacts; obtain ⟨hf50, -⟩ := hfacts; try simp only [VMv4] at hf50)
        have pB := (HBk.out.below hb').lies; have p0 := (pB.2 0 _ rfl).1; have p1 := (pB.2 1 _ rfl).1; have p2 := (pB.2 2 _ rfl).1
        (go_simp; first | exact ⟨_, rfl, Below.refl _ _, rfl⟩ | exact ⟨_, rfl, Below.refl _ _, trivial⟩ | exact ⟨_, rfl, (Below.refl _ _).alloc (Nat.le_refl _) _, trivial⟩ | exact ⟨_, rfl, Below.refl _ _, congrArg (Value.int _) (IntWalk.i64_in _ (by omega))⟩)
      · -- operation 15
        (refine owes_val (L := [(51, true)]) rfl rfl rfl (by kernel_rfl) ?_; intro a' w' hb' hfacts; obtain ⟨hf51, -⟩ := hfacts; try simp only [VMv4] at hf51)
        have pB := (HBk.out.below hb').lies; have p0 := (pB.2 0 _ rfl).1; have p1 := (pB.2 1 _ rfl).1; have p2 := (pB.2 2 _ rfl).1
        (go_simp; first | exact ⟨_, rfl, Below.refl _ _, rfl⟩ | exact ⟨_, rfl, Below.refl _ _, trivial⟩ | exact ⟨_, rfl, (Below.refl _ _).alloc (Nat.le_refl _) _, trivial⟩ | exact ⟨_, rfl, Below.refl _ _, congrArg (Value.int _) (IntWalk.i64_in _ (by omega))⟩)
      · -- operation 16
        (refine owes_val (L := [(52, true)]) rfl rfl rfl (by kernel_rfl) ?_; intro a' w' hb' hfacts; obtain ⟨hf52, -⟩ := hfacts; try simp only [VMv4] at hf52)
        have pB := (HBk.out.below hb').lies; have p0 := (pB.2 0 _ rfl).1; have p1 := (pB.2 1 _ rfl).1; have p2 := (pB.2 2 _ rfl).1
        (go_simp; first | exact ⟨_, rfl, Below.refl _ _, rfl⟩ | exact ⟨_, rfl, Below.refl _ _, trivial⟩ | exact ⟨_, rfl, (Below.refl _ _).alloc (Nat.le_refl _) _, trivial⟩ | exact ⟨_, rfl, Below.refl _ _, congrArg (Value.int _) (IntWalk.i64_in _ (by omega))⟩)
      · -- operation 17
        (refine owes_val (L := [(0, false)]) rfl rfl rfl (by kernel_rfl) ?_; intro a' w' hb' hfacts; obtain ⟨hf0, -⟩ := hfacts; replace hf0 : a'.tmps[0]?.getD undef = .pointer (some ⟨b, 0, none⟩) := hf0)
        have pB := (HBk.out.below hb').lies; have p0 := (pB.2 0 _ rfl).1; have p1 := (pB.2 1 _ rfl).1; have p2 := (pB.2 2 _ rfl).1
        (go_simp; first | exact ⟨_, rfl, Below.refl _ _, rfl⟩ | exact ⟨_, rfl, Below.refl _ _, trivial⟩ | exact ⟨_, rfl, (Below.refl _ _).alloc (Nat.le_refl _) _, trivial⟩ | exact ⟨_, rfl, Below.refl _ _, congrArg (Value.int _) (IntWalk.i64_in _ (by omega))⟩)
      · -- operation 18
        (refine owes_val (L := [(54, true)]) rfl rfl rfl (by kernel_rfl) ?_; intro a' w' hb' hfacts; obtain ⟨hf54, -⟩ := hfacts; try simp only [VMv4] at hf54)
        have pB := (HBk.out.below hb').lies; have p0 := (pB.2 0 _ rfl).1; have p1 := (pB.2 1 _ rfl).1; have p2 := (pB.2 2 _ rfl).1
        (go_simp; first | exact ⟨_, rfl, Below.refl _ _, rfl⟩ | exact ⟨_, rfl, Below.refl _ _, trivial⟩ | exact ⟨_, rfl, (Below.refl _ _).alloc (Nat.le_refl _) _, trivial⟩ | exact ⟨_, rfl, Below.refl _ _, congrArg (Value.int _) (IntWalk.i64_in _ (by omega))⟩)
      · -- operation 19
        (refine owes_val (L := [(55, true)]) rfl rfl rfl (by kernel_rfl) ?_; intro a' w' hb' hfacts; obtain ⟨hf55, -⟩ := hfacts; try simp only [VMv4] at hf55)
        have pB := (HBk.out.below hb').lies; have p0 := (pB.2 0 _ rfl).1; have p1 := (pB.2 1 _ rfl).1; have p2 := (pB.2 2 _ rfl).1
        (go_simp; first | exact ⟨_, rfl, Below.refl _ _, rfl⟩ | exact ⟨_, rfl, Below.refl _ _, trivial⟩ | exact ⟨_, rfl, (Below.refl _ _).alloc (Nat.le_refl _) _, trivial⟩ | exact ⟨_, rfl, Below.refl _ _, congrArg (Value.int _) (IntWalk.i64_in _ (by omega))⟩)
      · -- operation 20
        (refine owes_val (L := [(56, true)]) rfl rfl rfl (by kernel_rfl) ?_; intro a' w' hb' hfacts; obtain ⟨hf56, -⟩ := hfacts; try simp only [VMv4] at hf56)
        have pB := (HBk.out.below hb').lies; have p0 := (pB.2 0 _ rfl).1; have p1 := (pB.2 1 _ rfl).1; have p2 := (pB.2 2 _ rfl).1
        (go_simp; first | exact ⟨_, rfl, Below.refl _ _, rfl⟩ | exact ⟨_, rfl, Below.refl _ _, trivial⟩ | exact ⟨_, rfl, (Below.refl _ _).alloc (Nat.le_refl _) _, trivial⟩ | exact ⟨_, rfl, Below.refl _ _, congrArg (Value.int _) (IntWalk.i64_in _ (by omega))⟩)
      · -- operation 21
        (refine owes_val (L := [(4, false)]) rfl rfl rfl (by kernel_rfl) ?_; intro a' w' hb' hfacts; obtain ⟨hf4, -⟩ := hfacts; replace hf4 : a'.tmps[4]?.getD undef = .int .i64 K := hf4)
        have pB := (HBk.out.below hb').lies; have p0 := (pB.2 0 _ rfl).1; have p1 := (pB.2 1 _ rfl).1; have p2 := (pB.2 2 _ rfl).1
        (go_simp; first | exact ⟨_, rfl, Below.refl _ _, rfl⟩ | exact ⟨_, rfl, Below.refl _ _, trivial⟩ | exact ⟨_, rfl, (Below.refl _ _).alloc (Nat.le_refl _) _, trivial⟩ | exact ⟨_, rfl, Below.refl _ _, congrArg (Value.int _) (IntWalk.i64_in _ (by omega))⟩)
      · -- operation 22
        (refine owes_val (L := [(57, true), (58, true)]) rfl rfl rfl (by kernel_rfl) ?_; intro a' w' hb' hfacts; obtain ⟨hf57, hf58, -⟩ := hfacts; try simp only [VMv4] at hf57; try simp only [VMv4] at hf58)
        have pB := (HBk.out.below hb').lies; have p0 := (pB.2 0 _ rfl).1; have p1 := (pB.2 1 _ rfl).1; have p2 := (pB.2 2 _ rfl).1
        (go_simp; first | exact ⟨_, rfl, Below.refl _ _, rfl⟩ | exact ⟨_, rfl, Below.refl _ _, trivial⟩ | exact ⟨_, rfl, (Below.refl _ _).alloc (Nat.le_refl _) _, trivial⟩ | exact ⟨_, rfl, Below.refl _ _, congrArg (Value.int _) (IntWalk.i64_in _ (by omega))⟩)
      · -- operation 23
        (refine owes_val (L := [(49, true), (53, true), (59, true)]) rfl rfl rfl (by kernel_rfl) ?_; intro a' w' hb' hfacts; obtain ⟨hf49, hf53, hf59, -⟩ := hfacts; try simp only [VMv4] at hf49; try simp only [VMv4] at hf53; try simp only [VMv4] at hf59)
        obtain ⟨x1, x2⟩ := HPP.out
        go_simp
        exact ⟨_, rfl, Below.refl _ _, rfl⟩
    · intro f W hf hbW
      have e25 : f 45 = .slice (some ⟨g, o1, none⟩) (N - fr) (N - fr) := hf 45 (by decide)
      have e35 : f 60 = .slice (some ⟨g, o2, none⟩) (M - tv) (N - tv) := hf 60 (by decide)
      have hgW : RowIs W g l := (hbW.block g (Array.getElem?_eq_some_iff.1 HR.out).1).trans HR.out
      obtain ⟨W2, hcopy, hr2, hc2⟩ := HC.out W hgW
      have hB2 : Blk W2 b 101 [.slice (some ⟨g, 0, none⟩) N N, .int .i64 fr, .int .i64 tv, .int .i64 lim] := (HBk.out.below hbW).chg hc2 hne
      have hC2 : Chg (fun k => k = b ∨ k = g) w W2 := (Chg.of_below hbW).trans hc2 (fun x _ h => .inr h)
      have HB2 := Lib.hid hB2
      have HR2 := Lib.hid hr2
      have HC2 := Lib.hid hC2
      clear hf hbW hr2 hc2 hB2 hC2 HC hgW HBk HR c1 hbl
      simp only [putAll, put_lit, List.map_cons, List.map_nil, List.set_cons_succ, List.set_cons_zero]
      simp only [e25, e35]
      clear e25 e35
      dsimp only [List.drop]
      refine wpList_copyR rfl _ _ _ _ rfl _ _ rfl rfl hcopy ?_
      clear hcopy n2 n3 n4 hw2 hc
      go_wp2
      refine wp_held_tail mixed (VMv5 b fr tv a T) (VMv5_mono _ _ _ _ _) (by kernel_rfl) 8 13 (by decide) [62, 63, 64, 65, 66, 67, 68, 69, 70, 71, 72, 73, 74] (by kernel_rfl) (by kernel_rfl) (by kernel_rfl) (by kernel_rfl) ?_ ?_
      · intro j hj
        have hj' : j < 13 := hj
        rcases (by omega : j = 0 ∨ j = 1 ∨ j = 2 ∨ j = 3 ∨ j = 4 ∨ j = 5 ∨ j = 6 ∨ j = 7 ∨ j = 8 ∨ j = 9 ∨ j = 10 ∨ j = 11 ∨ j = 12) with rfl | rfl | rfl | rfl | rfl | rfl | rfl | rfl | rfl | rfl | rfl | rfl | rfl
        · -- operation 0
          (refine owes_val (L := [(0, false)]) rfl rfl rfl (by kernel_rfl) ?_; intro a' w' hb' hfacts; obtain ⟨hf0, -⟩ := hfacts; replace hf0 : a'.tmps[0]?.getD undef = .pointer (some ⟨b, 0, none⟩) := hf0)
          have pB := (HB2.out.below hb').lies; have p1 := (pB.2 1 _ rfl).1; have p2 := (pB.2 2 _ rfl).1
          (go_simp; first | exact ⟨_, rfl, Below.refl _ _, rfl⟩ | exact ⟨_, rfl, Below.refl _ _, trivial⟩ | exact ⟨_, rfl, (Below.refl _ _).alloc (Nat.le_refl _) _, trivial⟩ | exact ⟨_, rfl, Below.refl _ _, congrArg (Value.int _) (IntWalk.i64_in _ (by omega))⟩)
        · -- operation 1
          (refine owes_val (L := [(62, true)]) rfl rfl rfl (by kernel_rfl) ?_; intro a' w' hb' hfacts; obtain ⟨hf62, -⟩ := hfacts; try simp only [VMv5] at hf62)
          have pB := (HB2.out.below hb').lies; have p1 := (pB.2 1 _ rfl).1; have p2 := (pB.2 2 _ rfl).1
          (go_simp; first | exact ⟨_, rfl, Below.refl _ _, rfl⟩ | exact ⟨_, rfl, Below.refl _ _, trivial⟩ | exact ⟨_, rfl, (Below.refl _ _).alloc (Nat.le_refl _) _, trivial⟩ | exact ⟨_, rfl, Below.refl _ _, congrArg (Value.int _) (IntWalk.i64_in _ (by omega))⟩)
        · -- operation 2
          (refine owes_val (L := [(63, true)]) rfl rfl rfl (by kernel_rfl) ?_; intro a' w' hb' hfacts; obtain ⟨hf63, -⟩ := hfacts; try simp only [VMv5] at hf63)
          have pB := (HB2.out.below hb').lies; have p1 := (pB.2 1 _ rfl).1; have p2 := (pB.2 2 _ rfl).1
          (go_simp; first | exact ⟨_, rfl, Below.refl _ _, rfl⟩ | exact ⟨_, rfl, Below.refl _ _, trivial⟩ | exact ⟨_, rfl, (Below.refl _ _).alloc (Nat.le_refl _) _, trivial⟩ | exact ⟨_, rfl, Below.refl _ _, congrArg (Value.int _) (IntWalk.i64_in _ (by omega))⟩)
        · -- operation 3
          (refine owes_val (L := [(64, true)]) rfl rfl rfl (by kernel_rfl) ?_; intro a' w' hb' hfacts; obtain ⟨hf64, -⟩ := hfacts; try simp only [VMv5] at hf64)
          have pB := (HB2.out.below hb').lies; have p1 := (pB.2 1 _ rfl).1; have p2 := (pB.2 2 _ rfl).1
          (go_simp; first | exact ⟨_, rfl, Below.refl _ _, rfl⟩ | exact ⟨_, rfl, Below.refl _ _, trivial⟩ | exact ⟨_, rfl, (Below.refl _ _).alloc (Nat.le_refl _) _, trivial⟩ | exact ⟨_, rfl, Below.refl _ _, congrArg (Value.int _) (IntWalk.i64_in _ (by omega))⟩)
        · -- operation 4
          (refine owes_val (L := [(1, false)]) rfl rfl rfl (by kernel_rfl) ?_; intro a' w' hb' hfacts; obtain ⟨hf1, -⟩ := hfacts; replace hf1 : a'.tmps[1]?.getD undef = .int .i64 a := hf1)
          have pB := (HB2.out.below hb').lies; have p1 := (pB.2 1 _ rfl).1; have p2 := (pB.2 2 _ rfl).1
          (go_simp; first | exact ⟨_, rfl, Below.refl _ _, rfl⟩ | exact ⟨_, rfl, Below.refl _ _, trivial⟩ | exact ⟨_, rfl, (Below.refl _ _).alloc (Nat.le_refl _) _, trivial⟩ | exact ⟨_, rfl, Below.refl _ _, congrArg (Value.int _) (IntWalk.i64_in _ (by omega))⟩)
        · -- operation 5
          (refine owes_val (L := [(0, false)]) rfl rfl rfl (by kernel_rfl) ?_; intro a' w' hb' hfacts; obtain ⟨hf0, -⟩ := hfacts; replace hf0 : a'.tmps[0]?.getD undef = .pointer (some ⟨b, 0, none⟩) := hf0)
          have pB := (HB2.out.below hb').lies; have p1 := (pB.2 1 _ rfl).1; have p2 := (pB.2 2 _ rfl).1
          (go_simp; first | exact ⟨_, rfl, Below.refl _ _, rfl⟩ | exact ⟨_, rfl, Below.refl _ _, trivial⟩ | exact ⟨_, rfl, (Below.refl _ _).alloc (Nat.le_refl _) _, trivial⟩ | exact ⟨_, rfl, Below.refl _ _, congrArg (Value.int _) (IntWalk.i64_in _ (by omega))⟩)
        · -- operation 6
          (refine owes_val (L := [(67, true)]) rfl rfl rfl (by kernel_rfl) ?_; intro a' w' hb' hfacts; obtain ⟨hf67, -⟩ := hfacts; try simp only [VMv5] at hf67)
          have pB := (HB2.out.below hb').lies; have p1 := (pB.2 1 _ rfl).1; have p2 := (pB.2 2 _ rfl).1
          (go_simp; first | exact ⟨_, rfl, Below.refl _ _, rfl⟩ | exact ⟨_, rfl, Below.refl _ _, trivial⟩ | exact ⟨_, rfl, (Below.refl _ _).alloc (Nat.le_refl _) _, trivial⟩ | exact ⟨_, rfl, Below.refl _ _, congrArg (Value.int _) (IntWalk.i64_in _ (by omega))⟩)
        · -- operation 7
          (refine owes_val (L := [(68, true)]) rfl rfl rfl (by kernel_rfl) ?_; intro a' w' hb' hfacts; obtain ⟨hf68, -⟩ := hfacts; try simp only [VMv5] at hf68)
          have pB := (HB2.out.below hb').lies; have p1 := (pB.2 1 _ rfl).1; have p2 := (pB.2 2 _ rfl).1
          (go_simp; first | exact ⟨_, rfl, Below.refl _ _, rfl⟩ | exact ⟨_, rfl, Below.refl _ _, trivial⟩ | exact ⟨_, rfl, (Below.refl _ _).alloc (Nat.le_refl _) _, trivial⟩ | exact ⟨_, rfl, Below.refl _ _, congrArg (Value.int _) (IntWalk.i64_in _ (by omega))⟩)
        · -- operation 8
          (refine owes_val (L := [(69, true)]) rfl rfl rfl (by kernel_rfl) ?_; intro a' w' hb' hfacts; obtain ⟨hf69, -⟩ := hfacts; try simp only [VMv5] at hf69)
          have pB := (HB2.out.below hb').lies; have p1 := (pB.2 1 _ rfl).1; have p2 := (pB.2 2 _ rfl).1
          (go_simp; first | exact ⟨_, rfl, Below.refl _ _, rfl⟩ | exact ⟨_, rfl, Below.refl _ _, trivial⟩ | exact ⟨_, rfl, (Below.refl _ _).alloc (Nat.le_refl _) _, trivial⟩ | exact ⟨_, rfl, Below.refl _ _, congrArg (Value.int _) (IntWalk.i64_in _ (by omega))⟩)
        · -- operation 9
          (refine owes_val (L := [(66, true), (70, true)]) rfl rfl rfl (by kernel_rfl) ?_; intro a' w' hb' hfacts; obtain ⟨hf66, hf70, -⟩ := hfacts; try simp only [VMv5] at hf66; try simp only [VMv5] at hf70)
          have pB := (HB2.out.below hb').lies; have p1 := (pB.2 1 _ rfl).1; have p2 := (pB.2 2 _ rfl).1
          (go_simp; first | exact ⟨_, rfl, Below.refl _ _, rfl⟩ | exact ⟨_, rfl, Below.refl _ _, trivial⟩ | exact ⟨_, rfl, (Below.refl _ _).alloc (Nat.le_refl _) _, trivial⟩ | exact ⟨_, rfl, Below.refl _ _, congrArg (Value.int _) (IntWalk.i64_in _ (by omega))⟩)
        · -- operation 10
          (refine owes_val (L := [(65, true), (71, true)]) rfl rfl rfl (by kernel_rfl) ?_; intro a' w' hb' hfacts; obtain ⟨hf65, hf71, -⟩ := hfacts; try simp only [VMv5] at hf65; try simp only [VMv5] at hf71)
          have pB := (HB2.out.below hb').lies; have p1 := (pB.2 1 _ rfl).1; have p2 := (pB.2 2 _ rfl).1
          (go_simp; first | exact ⟨_, rfl, Below.refl _ _, rfl⟩ | exact ⟨_, rfl, Below.refl _ _, trivial⟩ | exact ⟨_, rfl, (Below.refl _ _).alloc (Nat.le_refl _) _, trivial⟩ | exact ⟨_, rfl, Below.refl _ _, congrArg (Value.int _) (IntWalk.i64_in _ (by omega))⟩)
        · -- operation 11
          (refine owes_val (L := [(62, true)]) rfl rfl rfl (by kernel_rfl) ?_; intro a' w' hb' hfacts; obtain ⟨hf62, -⟩ := hfacts; try simp only [VMv5] at hf62)
          have pB := (HB2.out.below hb').lies; have p1 := (pB.2 1 _ rfl).1; have p2 := (pB.2 2 _ rfl).1
          (go_simp; first | exact ⟨_, rfl, Below.refl _ _, rfl⟩ | exact ⟨_, rfl, Below.refl _ _, trivial⟩ | exact ⟨_, rfl, (Below.refl _ _).alloc (Nat.le_refl _) _, trivial⟩ | exact ⟨_, rfl, Below.refl _ _, congrArg (Value.int _) (IntWalk.i64_in _ (by omega))⟩)
        · -- operation 12
          (refine owes_val (L := [(73, true)]) rfl rfl rfl (by kernel_rfl) ?_; intro a' w' hb' hfacts; obtain ⟨hf73, -⟩ := hfacts; try simp only [VMv5] at hf73)
          have pB := (HB2.out.below hb').lies; have p1 := (pB.2 1 _ rfl).1; have p2 := (pB.2 2 _ rfl).1
          (go_simp; first | exact ⟨_, rfl, Below.refl _ _, rfl⟩ | exact ⟨_, rfl, Below.refl _ _, trivial⟩ | exact ⟨_, rfl, (Below.refl _ _).alloc (Nat.le_refl _) _, trivial⟩ | exact ⟨_, rfl, Below.refl _ _, congrArg (Value.int _) (IntWalk.i64_in _ (by omega))⟩)
      · intro f2 W3 hf2 hb3
        have e74 : f2 74 = .pointer (some ⟨b, 2, none⟩) := hf2 74 (by decide)
        have e72 : f2 72 = .int .i64 T := hf2 72 (by decide)
        have hB3 := HB2.out.below hb3
        have HE := Lib.hid (hEnd.out W3 hB3 ((hb3.block g (Array.getElem?_eq_some_iff.1 HR2.out).1).trans HR2.out) (HC2.out.trans (Chg.of_below hb3) (fun x hx h => absurd hx (by omega))))
        obtain ⟨q1, f1'⟩ := hB3.lies.2 1 _ rfl
        obtain ⟨q2, f2'⟩ := hB3.lies.2 2 _ rfl
        have hbl3 := hB3.lies.1
        clear hf2 hb3 HB2 HR2 HC2 hEnd hB3 hws hwt
        simp only [putAll, put_lit, List.map_cons, List.map_nil, List.set_cons_succ, List.set_cons_zero]
        simp only [e74, e72]
        clear e74 e72
        dsimp only [List.drop]
        go_wp2
        go_end0
        exact ⟨rfl, HE.out⟩
set_option maxRecDepth 100000 in
set_option maxHeartbeats 2000000 in
theorem move_any (b g : Nat) (r : ByteArray) (fr tv lim a : Nat) (w : World) (h : Gap w b g r fr tv lim) (ha : a ≤ (gtext r fr tv).size) :
    Calls Tryz.prog 147 #[.pointer (some ⟨b, 0, none⟩), .int .i64 a] w fun e w' => e = .returned (.tuple #[]) ∧ ∃ r' tv', Gap w' b g r' a tv' lim ∧ gtext r' a tv' = gtext r fr tv ∧ r'.size = r.size ∧ Chg (fun k => k = b ∨ k = g) w w' := by
  have hsz := gtext_size h.h1 h.h2
  have h1 := h.h1
  have h2 := h.h2
  have hm := h.hm
  have hrl : r.data.toList.length = r.size := by rw [← Lib.size_eq]
  have hML := moveL_len (l := r.data.toList) (a := a) h1 (by omega) (by omega)
  have hMT := moveL_text (l := r.data.toList) (a := a) h1 (by omega) (by omega)
  obtain ⟨r', hr'⟩ : ∃ r' : ByteArray, r'.data.toList = moveL r.data.toList fr tv a := ⟨⟨(moveL r.data.toList fr tv a).toArray⟩, by simp⟩
  have hr's : r'.size = r.size := by have := hML; rw [← hr', ← Lib.size_eq] at this; omega
  have hF : Hid (∀ w' : World, Blk w' b 101 [.slice (some ⟨g, 0, none⟩) r.size r.size, .int .i64 a, .int .i64 (a + (tv - fr) : Nat), .int .i64 lim] → RowIs w' g (moveL r.data.toList fr tv a) → Chg (fun k => k = b ∨ k = g) w w' →
      ∃ r' tv', Gap w' b g r' a tv' lim ∧ gtext r' a tv' = gtext r fr tv ∧ r'.size = r.size ∧ Chg (fun k => k = b ∨ k = g) w w') := by
    intro w' hb hrow hc
    refine ⟨r', a + (tv - fr), ⟨by rw [hr's]; exact hb, by rw [hr']; exact hrow, h.ne, by omega, by omega, by rw [hr's]; exact h.h64, by omega⟩, ?_, hr's, hc⟩
    apply ext_of_list
    rw [gtext_list _ _ _ (by omega), gtext_list _ _ _ h2, hr', hMT]
  refine (move_row b g r.size fr tv lim a _ w h.box h.row hrl.symm h.ne h1 h2 hm (by omega)).mono ?_
  rintro e w' ⟨rfl, q1, q2, q3⟩
  exact ⟨rfl, hF.out w' q1 q2 q3⟩
end Go.Proofs.YtgmpohdkignadaaGreatDoor.Ut
/-
  bodkinref11.Lines, Count, Of, Span, Line: what they answer. No condition.
-/
namespace Go.Proofs.YtgmpohdkignadaaGreatDoor.Ut
open Go.RowKit Go.Proofs.YtgmpohdkignadaaGreatDoor.Reg
set_option linter.unusedVariables false
set_option linter.unusedSimpArgs false

theorem row_forma {w : World} {base e size n : Nat} {v : Value} {xs : List Value} (h : w.ownsRow base e size v n xs) : ∃ A c, v = .slice A n c := by
  rcases h.2 with ⟨rfl, rfl⟩ | ⟨g, cap, cur, rfl, _⟩
  · exact ⟨none, 0, rfl⟩
  · exact ⟨_, cap, rfl⟩
theorem infoSpan : (Tryz.prog.info? 41).map (fun i => (i.zero, i.size, i.bytes)) = some (some (.agg #[.int .i64 0, .int .i64 0]), 2, 16) := by kernel_rfl
theorem two_new (w : World) (x y : Value) (t : TypeId) : ∀ (j : Nat) (u : Value), [x, y][j]? = some u → (w.alloc (.cells #[x, y] t)).cell? ((⟨w.heap.size, 0, none⟩ : Addr).add j) = some u := by
  intro j u hj
  match j, hj with
  | 0, hj => simp at hj; subst hj; simp [Addr.add]
  | 1, hj => simp at hj; subst hj; simp [Addr.add]
theorem ix_bt (O : ByteArray) (j : Nat) (h : j < O.size) (w : World) : (Instr.index 9 (.string O) (.int .i64 j)).run Tryz.prog w = .ok (.int .u8 (bt O j)) w := by
  rw [run_index_string w 9 O .i64 j Tryz.underlying9, dif_pos ⟨by omega, by omega⟩, bt_in O h]
  rfl
/-- The cells of a list of spans. -/
def cellsP (l : List (Nat × Nat)) : List Value := l.flatMap fun x => [.int .i64 x.1, .int .i64 x.2]
theorem cellsP_app (l : List (Nat × Nat)) (a b : Nat) : cellsP (l ++ [(a, b)]) = cellsP l ++ [.int .i64 a, .int .i64 b] := by
  unfold cellsP; rw [List.flatMap_append]; rfl
theorem cellsP_at : ∀ (l : List (Nat × Nat)) (k : Nat) (h : k < l.length), (cellsP l)[k * 2]? = some (.int .i64 l[k].1) ∧ (cellsP l)[k * 2 + 1]? = some (.int .i64 l[k].2)
  | x :: r, 0, _ => ⟨rfl, rfl⟩
  | x :: r, k + 1, h => by
    have := cellsP_at r k (by simpa using h)
    have e : cellsP (x :: r) = .int .i64 x.1 :: .int .i64 x.2 :: cellsP r := rfl
    rw [e, show (k + 1) * 2 = k * 2 + 1 + 1 by omega]
    simpa using this
theorem grown_cella {w w' : World} {row : Option Nat} (hg : w.grownBy w' row) {p : Addr} (hp : p.block < w.heap.size) (hn : row ≠ some p.block) : w'.cell? p = w.cell? p :=
  (Chg.of_grown hg).cell hp (fun h => hn h.symm)
theorem wpList_app_span {ops : Array Oper} {rest : List Oper} {o : Oper} {a : Act} {Q : Exit → Act → World → Prop} {w : World} (hgd : o.guard = none) (s x : Operand)
    (ho : o.op = .call { callee := .builtin .append, args := #[s, x], argTypes := #[72, 72] })
    (base : Nat) (u : Value) (l : List (Nat × Nat)) (p q : Nat) (ty : TypeId) (hown : w.ownsRow base 41 2 u l.length (cellsP l)) (hs : a.eval s = u)
    (g : Nat) (hgs : g = w.heap.size) (hx : a.eval x = .slice (some ⟨g, 0, none⟩) 1 1) (hlen : l.length ≤ 4294967296) (hbase : base ≤ w.heap.size)
    (h : ∀ v' w', w'.ownsRow base 41 2 v' (l ++ [(p, q)]).length (cellsP (l ++ [(p, q)])) → (w.alloc (.cells #[.int .i64 p, .int .i64 q] ty)).grownBy w' u.ownBlock → wpList Tryz.prog ops Q rest (a.put o.dst v') w') :
    wpList Tryz.prog ops Q (o :: rest) a (w.alloc (.cells #[.int .i64 p, .int .i64 q] ty)) := by
  subst hgs
  obtain ⟨i0, hi, hz0, hz1, hz2⟩ := info_parts infoSpan
  refine wpList_append_own _ hgd s x 72 ho base 41 i0 (.agg #[.int .i64 0, .int .i64 0]) 2 16 Tryz.underlying72 hi hz0 hz1 hz2 rfl (by decide) u l.length (cellsP l) hs (hown.alloc _) ⟨w.heap.size, 0, none⟩ 1 1 [.int .i64 p, .int .i64 q] hx rfl (two_new _ _ _ _) (by intro u hu; simp at hu; rcases hu with rfl | rfl <;> rfl) (by unfold maxLen; omega) (by omega) (by simp; omega) ?_
  intro v' w' h1 h2 _
  refine h v' w' ?_ h2
  rw [cellsP_app]
  simpa using h1

/-- The spans of the first m lines. -/
def spansT (s : ByteArray) (m : Nat) : List (Nat × Nat) := (List.range m).map fun l => (beginF s (l : Nat), spanT s l)
theorem spansT_len (s : ByteArray) (m : Nat) : (spansT s m).length = m := by simp [spansT]
theorem spansT_succ (s : ByteArray) (m : Nat) : spansT s (m + 1) = spansT s m ++ [(beginF s (m : Nat), spanT s m)] := by simp [spansT, List.range_succ]
theorem spansT_at (s : ByteArray) (m k : Nat) (h : k < (spansT s m).length) : (spansT s m)[k] = (beginF s (k : Nat), spanT s k) := by simp [spansT]
/-- At a newline. -/
theorem at_lf {s : ByteArray} {i : Nat} (hi : i < s.size) (h : bt s i = 10) : nlTo s i < nlF s ∧ beginF s (nlTo s i + 1 : Nat) = i + 1 ∧ nlTo s (i + 1) = nlTo s i + 1 ∧ beginF s (nlTo s i : Nat) ≤ i ∧
    ((spanT s (nlTo s i) = i ∧ (beginF s (nlTo s i : Nat) < i → bt s ((i - 1 : Nat) : Int) ≠ 13)) ∨ (spanT s (nlTo s i) + 1 = i ∧ beginF s (nlTo s i : Nat) < i ∧ bt s ((i - 1 : Nat) : Int) = 13)) := by
  have h1 := nlTo_succ s hi
  rw [if_pos h] at h1
  have h2 := nlTo_lt s (i + 1) (by omega)
  have hlt : nlTo s i < nlF s := by omega
  have h3 := begin_of_le s (N := nlTo s i + 1) (i := i + 1) (by omega)
  have h4 := lt_begin s (N := nlTo s i + 1) (i := i) (by omega) (by omega)
  have hb : beginF s (nlTo s i + 1 : Nat) = i + 1 := by omega
  have L := line_at s (N := nlTo s i) (by omega)
  obtain ⟨a, b, c⟩ := L.next hlt
  rw [hb] at c
  refine ⟨hlt, hb, h1, begin_of_le s (Nat.le_refl _), ?_⟩
  rcases c with ⟨c1, c2, c3⟩ | ⟨c1, c2, c3⟩
  · have e : spanT s (nlTo s i) = i := by omega
    rw [e] at c3
    exact .inl ⟨e, c3⟩
  · have e : spanT s (nlTo s i) + 1 = i := by omega
    refine .inr ⟨e, by have := L.le; omega, ?_⟩
    rw [show i - 1 = spanT s (nlTo s i) by omega]; exact c1

set_option maxRecDepth 100000 in
set_option maxHeartbeats 2000000 in
theorem RefLines_any (s : ByteArray) (w : World) (hs : s.size ≤ 1073741824) :
    Calls Tryz.prog 33 #[.string s] w fun e w' => ∃ v, e = .returned v ∧ w'.ownsRow w.heap.size 41 2 v (spansT s (nlF s + 1)).length (cellsP (spansT s (nlF s + 1))) ∧ Below w.heap.size w w' := by
  go_enter Tryz.func33, Tryz.ntmps33
  go_wp2
  go_loopw [3, 4, 5] (fun u x y wr => ∃ i : Nat, i ≤ s.size ∧ y = .int .i64 i ∧ x = .int .i64 (beginF s (nlTo s i : Nat)) ∧ wr.ownsRow w.heap.size 41 2 u (spansT s (nlTo s i)).length (cellsP (spansT s (nlTo s i))) ∧ Below w.heap.size w wr) (fun _ _ y _ => s.size - (intOf y).toNat)
  case atStart => exact ⟨0, Nat.zero_le _, rfl, by rw [nlTo_zero, begin_zero]; rfl, by rw [nlTo_zero]; exact World.ownsRow_nil _ _ _ _, Below.refl _ _⟩
  case round =>
    obtain ⟨i, hi, rfl, rfl, hown, hb⟩ := hrel
    have HO := Lib.hid hown
    have HB := Lib.hid hb
    clear hown hb
    by_cases hlt : i < s.size
    · have hix := ix_bt s i hlt
      by_cases hnl : bt s i = 10
      · obtain ⟨q1, q2, q3, q4, q5⟩ := at_lf hlt hnl
        rw [hnl] at hix
        have hlen := spansT_len s (nlTo s i)
        have hnz := nlTo_le s i
        have hsucc := spansT_succ s (nlTo s i)
        have HF : Hid (∀ (u : Value) (w3 : World), w3.ownsRow w.heap.size 41 2 u (spansT s (nlTo s i) ++ [(beginF s (nlTo s i : Nat), spanT s (nlTo s i))]).length (cellsP (spansT s (nlTo s i) ++ [(beginF s (nlTo s i : Nat), spanT s (nlTo s i))])) → Below w.heap.size w w3 →
            ∃ j : Nat, j ≤ s.size ∧ Value.int .i64 ((i : Int) + 1) = .int .i64 j ∧ Value.int .i64 ((i : Int) + 1) = .int .i64 (beginF s (nlTo s j : Nat)) ∧ w3.ownsRow w.heap.size 41 2 u (spansT s (nlTo s j)).length (cellsP (spansT s (nlTo s j))) ∧ Below w.heap.size w w3) :=
          fun u w3 h1 h2 => ⟨i + 1, hlt, by go_num, by rw [q3, q2]; go_num, by rw [q3, hsucc]; exact h1, h2⟩
        clear q1 q2 q3 hsucc hnl
        generalize spansT s (nlTo s i) = l at *
        generalize beginF s (nlTo s i : Nat) = F at *
        generalize spanT s (nlTo s i) = T at *
        have hll : l.length ≤ 4294967296 := by omega
        clear hlen hnz
        rcases q5 with ⟨rfl, q6⟩ | ⟨q5, q6, q7⟩
        · rcases Nat.lt_or_ge F T with hft | hft
          · have hr := q6 hft
            have g1 : (F : Int) < (T : Int) := by omega
            obtain ⟨j, hj⟩ : ∃ j, T - 1 = j := ⟨T - 1, rfl⟩
            rw [hj] at hr
            have hjx := ix_bt s j (by omega)
            have hr2 : ¬ ((bt s j : Nat) : Int) = 13 := by omega
            have hwj : IntKind.i64.wrap ((T : Int) - 1) = (j : Int) := by rw [IntWalk.i64_in _ (by omega)]; omega
            clear hj
            go_wp2_with (at_builtin; refine wpList_app_span rfl _ _ rfl w.heap.size _ l F T _ HO.out rfl _ rfl rfl hll (by have := HB.out.size; omega) ?_; intro v2 w3 hown3 hg3; have HO3 := Lib.hid hown3; have HB3 := Lib.hid ((HB.out.alloc HB.out.size _).grown hg3 (by have := HB.out.size; simp; omega) (fun j hj => (HO.out.lt j hj).1)); clear hown3 hg3)
            go_roundw
            case rel => exact HF.out _ _ HO3.out HB3.out
            case measure => simp [intOf]; omega
          · have g1 : ¬ (F : Int) < (T : Int) := by omega
            go_wp2_with (at_builtin; refine wpList_app_span rfl _ _ rfl w.heap.size _ l F T _ HO.out rfl _ rfl rfl hll (by have := HB.out.size; omega) ?_; intro v2 w3 hown3 hg3; have HO3 := Lib.hid hown3; have HB3 := Lib.hid ((HB.out.alloc HB.out.size _).grown hg3 (by have := HB.out.size; simp; omega) (fun j hj => (HO.out.lt j hj).1)); clear hown3 hg3)
            go_roundw
            case rel => exact HF.out _ _ HO3.out HB3.out
            case measure => simp [intOf]; omega
        · have e : i - 1 = T := by omega
          rw [e] at q7
          have hjx := ix_bt s T (by omega)
          rw [q7] at hjx
          have g1 : (F : Int) < (i : Int) := by omega
          have hwj : IntKind.i64.wrap ((i : Int) - 1) = (T : Int) := by rw [IntWalk.i64_in _ (by omega)]; omega
          clear e q5 q7
          go_wp2_with (at_builtin; refine wpList_app_span rfl _ _ rfl w.heap.size _ l F T _ HO.out rfl _ rfl rfl hll (by have := HB.out.size; omega) ?_; intro v2 w3 hown3 hg3; have HO3 := Lib.hid hown3; have HB3 := Lib.hid ((HB.out.alloc HB.out.size _).grown hg3 (by have := HB.out.size; simp; omega) (fun j hj => (HO.out.lt j hj).1)); clear hown3 hg3)
          go_roundw
          case rel => exact HF.out _ _ HO3.out HB3.out
          case measure => simp [intOf]; omega
      · have hnl2 : ¬ ((bt s i : Nat) : Int) = 10 := by omega
        have h1 : nlTo s (i + 1) = nlTo s i := by have := nlTo_succ s hlt; rw [if_neg hnl] at this; omega
        have HF : Hid (∃ j : Nat, j ≤ s.size ∧ Value.int .i64 ((i : Int) + 1) = .int .i64 j ∧ Value.int .i64 (beginF s (nlTo s i : Nat)) = .int .i64 (beginF s (nlTo s j : Nat)) ∧ wr.ownsRow w.heap.size 41 2 u3 (spansT s (nlTo s j)).length (cellsP (spansT s (nlTo s j))) ∧ Below w.heap.size w wr) :=
          ⟨i + 1, hlt, by go_num, by rw [h1], by rw [h1]; exact HO.out, HB.out⟩
        clear h1 hnl
        go_wp2
        go_roundw
        case rel => exact HF.out
        case measure => simp [intOf]; omega
    · obtain rfl : i = s.size := by omega
      obtain ⟨Z, hZ⟩ : ∃ Z, nlTo s s.size = Z := ⟨_, rfl⟩
      have hZ2 : Z = nlF s := by rw [← hZ, nlTo_all]
      have hnz := nlTo_le s s.size
      rw [hZ] at HO hnz ⊢
      have hlen := spansT_len s Z
      have hll : (spansT s Z).length ≤ 4294967296 := by omega
      have hsucc := spansT_succ s Z
      have hT : spanT s Z = s.size := by unfold spanT; rw [if_neg (by omega)]
      rw [hT] at hsucc
      have HS : Hid (spansT s (nlF s + 1) = spansT s Z ++ [(beginF s (Z : Nat), s.size)]) := by show _ = _; rw [← hZ2]; exact hsucc
      clear hlt hlen hnz hsucc hT hZ hZ2
      generalize spansT s Z = l at *
      generalize beginF s (Z : Nat) = F at *
      go_wp2_with (at_builtin; refine wpList_app_span rfl _ _ rfl w.heap.size _ l F s.size _ HO.out rfl _ rfl rfl hll (by have := HB.out.size; omega) ?_; intro v2 w3 hown3 hg3; have HO3 := Lib.hid hown3; have HB3 := Lib.hid ((HB.out.alloc HB.out.size _).grown hg3 (by have := HB.out.size; simp; omega) (fun j hj => (HO.out.lt j hj).1)); clear hown3 hg3)
      go_ret
      refine ⟨_, rfl, ?_, HB3.out⟩
      rw [HS.out]
      exact HO3.out
/-- A row of spans is read. -/
theorem span_cells {w : World} {base n : Nat} {v : Value} {l : List (Nat × Nat)} (h : w.ownsRow base 41 2 v n (cellsP l)) (hn : n = l.length) (k : Nat) (hk : k < l.length) : ∃ g c, v = .slice (some ⟨g, 0, none⟩) n c ∧ w.cell? ⟨g, k * 2, none⟩ = some (.int .i64 l[k].1) ∧ w.cell? ⟨g, k * 2 + 1, none⟩ = some (.int .i64 l[k].2) := by
  subst hn
  obtain ⟨g, c, he, -, -⟩ := h.form (by omega)
  subst he
  refine ⟨g, c, rfl, ?_, ?_⟩
  · exact (h.cellAt (k * 2) (by omega)).trans (cellsP_at l k hk).1
  · exact (h.cellAt (k * 2 + 1) (by omega)).trans (cellsP_at l k hk).2

set_option maxRecDepth 100000 in
theorem RefCount_any (s : ByteArray) (w : World) (hs : s.size ≤ 1073741824) :
    Calls Tryz.prog 22 #[.string s] w fun e w' => e = .returned (.int .i64 (nlF s + 1)) ∧ Below w.heap.size w w' := by
  go_enter Tryz.func22, Tryz.ntmps22
  go_wp2_with fail
  refine (RefLines_any s w hs).mono ?_
  rintro e w1 ⟨v, rfl, hown, hb⟩
  rw [spansT_len] at hown
  obtain ⟨A, c, rfl⟩ := row_forma hown
  have HB := Lib.hid hb
  clear hown hb
  go_wp2
  go_ret
  refine ⟨?_, HB.out⟩
  go_num
set_option maxRecDepth 100000 in
theorem RefOf_any (s : ByteArray) (i : Int) (w : World) (hs : s.size ≤ 1073741824) :
    Calls Tryz.prog 23 #[.string s, .int .i64 i] w fun e w' => e = .returned (.tuple #[.int .i64 (ofA s i).1, .int .i64 (ofA s i).2]) ∧ Below w.heap.size w w' := by
  by_cases hc : 0 ≤ i ∧ i ≤ s.size
  · obtain ⟨n, rfl⟩ : ∃ n : Nat, i = n := ⟨i.toNat, by omega⟩
    have h0 : ¬ (n : Int) < 0 := by omega
    have h1 : ¬ (s.size : Int) < (n : Int) := by omega
    have h2 : (0 : Int) ≤ (n : Int) := by omega
    have h3 : (n : Int) ≤ (s.size : Int) := by omega
    have he : ofA s n = ((nlTo s n : Int), 0) := by unfold ofA; rw [if_pos hc, Int.toNat_natCast]
    have hz := piece_size s (F := 0) (T := n) (by omega)
    have hn : nlF (s.extract 0 n) = nlTo s n := rfl
    have KC := fun w => RefCount_any (s.extract 0 n) w (by omega)
    rw [hn] at KC
    have HKC := Lib.hid KC
    have hnz := nlTo_le s n
    rw [he]
    clear KC hn hz he hc
    generalize nlTo s n = N at *
    have hw : IntKind.i64.wrap (N : Int) = (N : Int) := IntWalk.i64_in _ (by omega)
    have e1 : (N : Int) + 1 - 1 = (N : Int) := by omega
    go_enter Tryz.func23, Tryz.ntmps23
    go_wp2_with fail
    refine (HKC.out _).mono ?_
    rintro e w1 ⟨rfl, hb⟩
    have HB := Lib.hid hb
    clear hb
    go_wp2
    refine bodyPost_ret (v := .tuple #[.int .i64 N, .int .i64 0]) (by simp [results, Tryz.results23, go_sem]) rfl ⟨rfl, HB.out⟩
  · have he : ofA s i = (0, 1) := by unfold ofA; rw [if_neg hc]
    rw [he]
    clear he
    rcases (by omega : i < 0 ∨ (¬ i < 0 ∧ s.size < i)) with h0 | ⟨h0, h1⟩
    · clear hc
      go_enter Tryz.func23, Tryz.ntmps23
      go_wp2
      refine bodyPost_ret (v := .tuple #[.int .i64 0, .int .i64 1]) (by simp [results, Tryz.results23, go_sem]) rfl ⟨rfl, Below.refl _ _⟩
    · clear hc
      go_enter Tryz.func23, Tryz.ntmps23
      go_wp2
      refine bodyPost_ret (v := .tuple #[.int .i64 0, .int .i64 1]) (by simp [results, Tryz.results23, go_sem]) rfl ⟨rfl, Below.refl _ _⟩
end Go.Proofs.YtgmpohdkignadaaGreatDoor.Ut
