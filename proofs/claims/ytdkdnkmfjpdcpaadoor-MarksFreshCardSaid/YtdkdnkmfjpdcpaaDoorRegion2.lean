/-
  A region that draws its order and whose last operation waits for all the others. No condition.
-/
import Derived.Test.YtdkdnkmfjpdcpaaDoorOwes
import Derived.Maps.OwnSet
import Derived.Maps.OwnOps
namespace Go.Proofs.YtdkdnkmfjpdcpaaDoor.Reg
open Go.RowKit Go.Maps
set_option linter.unusedVariables false
set_option linter.unusedSimpArgs false

section
variable {P : Program} {ops : Array Oper} {Q : Exit → Act → World → Prop}

theorem inv_step {a0 : Act} {w0 : World} {V : Nat → Value → World → Prop}
    (hV : ∀ d v w w', V d v w → Below w.heap.size w w' → V d v w') (ht : tidy ops = true)
    (hsz : (ops.all fun o => match o.dst with | some d => decide (d < a0.tmps.size) | none => true) = true)
    {listed : Array Bool} {a : Act} {w : World} {i : Nat} (hI : Inv ops V a0 w0 listed a w) (hs : listed.size = ops.size) (hi : i ∈ Region.ready .any ops listed) (h : Owes P ops Q V a0 w0 i) :
    wpOp P ops Q i (fun a' w' => Inv ops V a0 w0 (listed.setIfInBounds i true) a' w') a w := by
  obtain ⟨hun, o, ho, haf⟩ := mem_ready.1 hi
  have hil : i < ops.size := (Array.getElem?_eq_some_iff.1 ho).1
  have hwl : ∀ j, waits ops i j = true → listed.getD j false = true := fun j hj => by
    unfold waits at hj
    rw [ho] at hj
    simp only [Option.map_some, Option.getD_some, Array.any_eq_true', Bool.and_eq_true, beq_iff_eq] at hj
    obtain ⟨e, he, rfl, hb⟩ := hj
    exact haf e he hb
  have hilt : i < listed.size := by omega
  have hnl : listed.getD i false = false := by
    rw [Array.getD_eq_getD_getElem?] at hun ⊢
    simp [hilt] at hun ⊢
    exact hun
  have htd : ∀ j, j < ops.size → i ≠ j → ∀ d, writes ops j d = true → writes ops i d = false ∧ (d ∈ o.looksAt ops → waits ops i j = true ∨ waits ops j i = true) := fun j hj hne d hw => by
    unfold tidy at ht
    rw [Bool.and_eq_true] at ht
    have h1 := List.all_eq_true.1 (List.all_eq_true.1 ht.2 i (List.mem_range.2 hil)) j (List.mem_range.2 hj)
    unfold writes at hw
    have hdj : (ops[j]?).bind (·.dst) = some d := by simpa using hw
    rw [hdj, ho] at h1
    have hb : (i == j) = false := by simpa using hne
    rw [hb] at h1
    simp only [Bool.false_or, Bool.and_eq_true, Bool.not_eq_true', Bool.or_eq_true] at h1
    refine ⟨h1.1, fun hd => ?_⟩
    rcases h1.2 with (h2 | h2) | h2
    · have : (o.looksAt ops).contains d = true := by simpa using hd
      rw [this] at h2; cases h2
    · exact .inl h2
    · exact .inr h2
  have hwn : ∀ j, waits ops j i = true → listed.getD j false = false := fun j hj => by
    cases hx : listed.getD j false with
    | false => rfl
    | true => have := hI.closed j i hj hx; rw [hnl] at this; cases this
  refine wpOp_mono (fun a' w' hh => ?_) (h a w hI.size hI.defers hI.below (fun x hx => ?_))
  · obtain ⟨v, rfl, hb, hv⟩ := hh
    have hdl : ∀ t, (ops[i]?).bind (·.dst) = some t → t < a.tmps.size := fun t hte => by
      rw [ho] at hte
      have h2 := Array.all_eq_true_iff_forall_mem.1 hsz o (Array.mem_of_getElem? ho)
      have h3 : o.dst = some t := hte
      rw [h3] at h2
      rw [hI.size]
      exact of_decide_eq_true h2
    have hli : ∀ j, j ≠ i → (listed.setIfInBounds i true).getD j false = listed.getD j false := fun j hj => getD_set_ne false (Ne.symm hj)
    have hself : (listed.setIfInBounds i true).getD i false = true := by
      rw [Array.getD_eq_getD_getElem?]; simp [hilt]
    refine ⟨?_, ?_, hI.below.trans (hb.mono hI.below.size), fun j d hw hl => ?_, fun j k hjk hl => ?_, fun d hd => ?_⟩
    · cases hx : (ops[i]?).bind (·.dst) <;> simp [Act.put, hI.size]
    · cases hx : (ops[i]?).bind (·.dst) <;> simp [Act.put, hI.defers]
    · rw [getD_put a _ v d hdl]
      by_cases hji : j = i
      · subst hji
        have : (ops[j]?).bind (·.dst) = some d := by simpa [writes] using hw
        rw [if_pos this]
        exact hv d hw
      · have hne := (htd j (writes_lt hw) (Ne.symm hji) d hw).1
        rw [if_neg (by intro e; simp [writes, e] at hne)]
        rw [hli j hji] at hl
        exact hV _ _ _ _ (hI.done j d hw hl) hb
    · by_cases hki : k = i
      · subst hki; exact hself
      · rw [hli k hki]
        by_cases hji : j = i
        · subst hji; exact hwl k hjk
        · rw [hli j hji] at hl; exact hI.closed j k hjk hl
    · rw [getD_put a _ v d hdl]
      rw [if_neg]
      · refine hI.rest d (fun j hw => ?_)
        have := hd j hw
        by_cases hji : j = i
        · subst hji; rw [hself] at this; cases this
        · rwa [hli j hji] at this
      · intro e
        have := hd i (by simp [writes, e])
        rw [hself] at this; cases this
  · unfold reads at hx
    rw [ho] at hx
    obtain ⟨d, hdm, rfl⟩ := List.mem_map.1 hx
    refine ⟨fun hf => ?_, fun hf => ?_⟩
    · simp only [List.any_eq_true, List.mem_range, Bool.and_eq_true] at hf
      obtain ⟨j, _, hw, hwt⟩ := hf
      exact hI.done j d hw (hwl j hwt)
    · refine hI.rest d (fun j hw => ?_)
      by_cases hji : j = i
      · subst hji; exact hnl
      · rcases (htd j (writes_lt hw) (Ne.symm hji) d hw).2 hdm with h1 | h1
        · exfalso
          rw [List.any_eq_false] at hf
          have := hf j (List.mem_range.2 (writes_lt hw))
          simp [hw, h1] at this
        · exact hwn j h1

/-- The last operation waits for every other one: it is run when all slots are as said. -/
theorem wp_held_last {id : Nat} {a0 : Act} {w0 : World} (hm : P.follows .mixedOrders = true) (V : Nat → Value → World → Prop)
    (hV : ∀ d v w w', V d v w → Below w.heap.size w w' → V d v w') (ht : tidy ops = true) (D : List Nat) (hD : dsts ops = D) (n : Nat) (hn : ops.size = n + 1) (hnd : (ops[n]?).bind (·.dst) = none)
    (hlast : ((List.range n).all fun j => waits ops n j) = true)
    (hsz : (ops.all fun o => match o.dst with | some d => decide (d < a0.tmps.size) | none => true) = true)
    (h : ∀ i, i < n → Owes P ops Q V a0 w0 i)
    (hd : ∀ (f : Nat → Value) w, (∀ d ∈ D, V d (f d) w) → Below w0.heap.size w0 w → wpOp P ops Q n (Q .normal) (putAll a0 (D.map fun d => (d, f d))) w) :
    (Code.region id ops true).wp P Q a0 w0 := by
  have hdr : Below w0.heap.size w0 { w0 with drawn := w0.drawn + 1 } := ⟨rfl, rfl, rfl, Nat.le_refl _, fun _ _ => rfl⟩
  have hnone : ∀ j, (Array.replicate ops.size false).getD j false = false := fun j => by
    rw [Array.getD_eq_getD_getElem?]
    by_cases hj : j < ops.size <;> simp [hj]
  refine wp_inv hm (fun listed a w => (listed.getD n false = false ∧ Inv ops V a0 w0 listed a w) ∨ (listed.getD n false = true ∧ (∀ j, j < n → listed.getD j false = true) ∧ Q .normal a w))
    (.inl ⟨hnone n, rfl, rfl, hdr, fun j d _ hl => ?_, fun j k _ hl => ?_, fun d _ => rfl⟩) ?_ ?_
  · rw [hnone] at hl; cases hl
  · rw [hnone] at hl; cases hl
  · intro listed a w i hI hs hi
    obtain ⟨hun, o, ho, haf⟩ := mem_ready.1 hi
    have hil : i < ops.size := (Array.getElem?_eq_some_iff.1 ho).1
    have hilt : i < listed.size := by omega
    have hnl : listed.getD i false = false := by
      rw [Array.getD_eq_getD_getElem?] at hun ⊢
      simp [hilt] at hun ⊢
      exact hun
    rcases hI with ⟨hln, hI⟩ | ⟨h1, h2, -⟩
    · by_cases hin : i = n
      · subst hin
        have hall : ∀ j, j < i → listed.getD j false = true := fun j hj => by
          have hw := List.all_eq_true.1 hlast j (List.mem_range.2 hj)
          unfold waits at hw
          rw [ho] at hw
          simp only [Option.map_some, Option.getD_some, Array.any_eq_true', Bool.and_eq_true, beq_iff_eq] at hw
          obtain ⟨e, he, rfl, hb⟩ := hw
          exact haf e he hb
        subst hD
        have hwn : ∀ j d, writes ops j d = true → j < i := fun j d hw => by
          have := writes_lt hw
          rcases Nat.lt_or_ge j i with h | h
          · exact h
          · obtain rfl : j = i := by omega
            simp [writes, hnd] at hw
        have e := putAll_eq a (dsts ops) a0 hI.size hI.defers (fun d hdm => by
          obtain ⟨j, hj⟩ := mem_dsts.1 hdm
          unfold writes at hj
          cases hx : ops[j]? with
          | none => rw [hx] at hj; simp at hj
          | some o =>
            rw [hx] at hj
            have h3 : o.dst = some d := by simpa using hj
            have h2 := Array.all_eq_true_iff_forall_mem.1 hsz o (Array.mem_of_getElem? hx)
            rw [h3] at h2
            exact of_decide_eq_true h2) (fun d hn => hI.rest d (fun j hw => absurd (mem_dsts.2 ⟨j, hw⟩) hn))
        rw [e]
        refine wpOp_mono (fun a' w' hq => .inr ⟨?_, fun j hj => ?_, hq⟩) (hd (fun d => a.tmps.getD d undef) w (fun d hdm => by obtain ⟨j, hj⟩ := mem_dsts.1 hdm; exact hI.done j d hj (hall j (hwn j d hj))) hI.below)
        · rw [Array.getD_eq_getD_getElem?]; simp [hilt]
        · rw [getD_set_ne false (by omega)]; exact hall j hj
      · refine wpOp_mono (fun a' w' hq => .inl ⟨?_, hq⟩) (inv_step hV ht hsz hI hs hi (h i (by omega)))
        rw [getD_set_ne false hin]; exact hln
    · exfalso
      rcases Nat.lt_or_ge i n with hlt | hge
      · rw [h2 i hlt] at hnl; cases hnl
      · obtain rfl : i = n := by omega
        rw [h1] at hnl; cases hnl
  · intro listed a w hI hs hr
    have hal := all_listed ht hr hs
    rcases hI with ⟨h1, -⟩ | ⟨-, -, hq⟩
    · rw [hal n (by omega)] at h1; cases h1
    · exact hq

theorem wpOp_last {n : Nat} {o : Oper} {a : Act} {w : World} (ho : ops[n]? = some o) (h : wpList P ops Q [o] a w) : wpOp P ops Q n (Q .normal) a w := by
  unfold wpOp; rw [ho]; exact h

theorem op_lookup_int {H : Type} (w : World) {o : Oper} {a : Act} {K' : Act → World → Prop} (m x : Operand) (t : TypeId) (hop : o.op = Op.lookup t m x false)
    (k e : TypeId) (q : IntKind) (K : Keyed P k) (ht : P.underlying t = some (.map k e)) (he : P.underlying e = some (.int q)) (hz : (zeroValue e).run P w = .ok (.int q 0) w) (b n : Nat) (D : DataW H)
    (hm : a.eval m = .map (some b)) (hown : w.ownsMap P k (plainElem P e) b n D) (key : Value) (kl : Lit) (hx : a.eval x = key) (hkey : keyOf P k key = some kl)
    (hK : ∀ c : Int, D.atKey kl (.lit (.int q 0)) = .lit (.int q c) → (Lit.int q c).wf = true → K' (a.put o.dst (.int q c)) w) : o.wp P a w K' Q := by
  obtain ⟨c, hrun, hat, hwc⟩ := hown.lookup_int K ht he hz hkey
  unfold Oper.wp
  simp [execOp, hop, hm, hx, hrun, Result.andThen]
  exact hK c hat hwc
end
end Go.Proofs.YtdkdnkmfjpdcpaaDoor.Reg
