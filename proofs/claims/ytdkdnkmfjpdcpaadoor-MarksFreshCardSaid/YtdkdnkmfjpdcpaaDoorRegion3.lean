/-
  A region that draws its order and whose last operation waits for all the others, at once or by way of others. No condition.
-/
import Derived.Test.YtdkdnkmfjpdcpaaDoorRegion2
namespace Go.Proofs.YtdkdnkmfjpdcpaaDoor.Reg
open Go.RowKit Go.Maps
set_option linter.unusedVariables false
set_option linter.unusedSimpArgs false

section
variable {P : Program} {ops : Array Oper} {Q : Exit → Act → World → Prop}

/-- Operation i waits for j, at once or by way of others. -/
def far (ops : Array Oper) : Nat → Nat → Nat → Bool
  | 0, _, _ => false
  | f + 1, i, j => waits ops i j || (List.range ops.size).any fun k => waits ops i k && far ops f k j
theorem far_listed {listed : Array Bool} (hc : ∀ j k, waits ops j k = true → listed.getD j false = true → listed.getD k false = true) : ∀ f k j, listed.getD k false = true → far ops f k j = true → listed.getD j false = true
  | 0, k, j, _, h => by simp [far] at h
  | f + 1, k, j, hk, h => by
    simp only [far, Bool.or_eq_true, List.any_eq_true, List.mem_range, Bool.and_eq_true] at h
    rcases h with h | ⟨m, _, h1, h2⟩
    · exact hc k j h hk
    · exact far_listed hc f m j (hc k m h1 hk) h2
theorem far_once {listed : Array Bool} {i f j : Nat} (hw : ∀ k, waits ops i k = true → listed.getD k false = true) (hc : ∀ j k, waits ops j k = true → listed.getD j false = true → listed.getD k false = true) (h : far ops f i j = true) : listed.getD j false = true := by
  cases f with
  | zero => simp [far] at h
  | succ f =>
    simp only [far, Bool.or_eq_true, List.any_eq_true, List.mem_range, Bool.and_eq_true] at h
    rcases h with h | ⟨m, _, h1, h2⟩
    · exact hw j h
    · exact far_listed hc f m j (hw m h1) h2

/-- The last operation waits for every other one, if not at once then by way of others: it is run when all slots are as said. -/
theorem wp_held_far {id : Nat} {a0 : Act} {w0 : World} (hm : P.follows .mixedOrders = true) (V : Nat → Value → World → Prop)
    (hV : ∀ d v w w', V d v w → Below w.heap.size w w' → V d v w') (ht : tidy ops = true) (D : List Nat) (hD : dsts ops = D) (n : Nat) (hn : ops.size = n + 1) (hnd : (ops[n]?).bind (·.dst) = none)
    (hlast : ((List.range n).all fun j => far ops 4 n j) = true)
    (hsz : (ops.all fun o => match o.dst with | some d => decide (d < a0.tmps.size) | none => true) = true)
    (h : ∀ i, i < n → Owes P ops Q V a0 w0 i)
    (hd : ∀ (f : Nat → Value) w, (∀ d ∈ D, V d (f d) w) → Below w0.heap.size w0 w → wpOp P ops Q n (Q .normal) (putAll a0 (D.map fun d => (d, f d))) w) :
    (Code.region id ops true).wp P Q a0 w0 := by
  have hdr : Below w0.heap.size w0 { w0 with drawn := w0.drawn + 1 } := ⟨rfl, rfl, rfl, Nat.le_refl _, fun _ _ => rfl⟩
  have hnone : ∀ j, (Array.replicate ops.size false).getD j false = false := fun j => by
    rw [Array.getD_eq_getD_getElem?]
    by_cases hj : j < ops.size <;> simp [hj]
  refine wp_inv hm (fun listed a w => (listed.getD n false = false ∧ Inv ops V a0 w0 listed a w) ∨ (listed.getD n false = true ∧ (∀ j, j < n → listed.getD j false = true) ∧ Q .normal a w))
    (.inl ⟨hnone n, rfl, rfl, hdr, fun j d _ hl => ?_, fun j k _ hl => ?_, fun d _ => rfl⟩) ?_ ?_
  · rw [hnone] at hl; cases hl
  · rw [hnone] at hl; cases hl
  · intro listed a w i hI hs hi
    obtain ⟨hun, o, ho, haf⟩ := mem_ready.1 hi
    have hil : i < ops.size := (Array.getElem?_eq_some_iff.1 ho).1
    have hilt : i < listed.size := by omega
    have hnl : listed.getD i false = false := by
      rw [Array.getD_eq_getD_getElem?] at hun ⊢
      simp [hilt] at hun ⊢
      exact hun
    rcases hI with ⟨hln, hI⟩ | ⟨h1, h2, -⟩
    · by_cases hin : i = n
      · subst hin
        have hall : ∀ j, j < i → listed.getD j false = true := fun j hj => by
          have hw := List.all_eq_true.1 hlast j (List.mem_range.2 hj)
          refine far_once (fun k hk => ?_) hI.closed hw
          unfold waits at hk
          rw [ho] at hk
          simp only [Option.map_some, Option.getD_some, Array.any_eq_true', Bool.and_eq_true, beq_iff_eq] at hk
          obtain ⟨e, he, rfl, hb⟩ := hk
          exact haf e he hb
        subst hD
        have hwn : ∀ j d, writes ops j d = true → j < i := fun j d hw => by
          have := writes_lt hw
          rcases Nat.lt_or_ge j i with h | h
          · exact h
          · obtain rfl : j = i := by omega
            simp [writes, hnd] at hw
        have e := putAll_eq a (dsts ops) a0 hI.size hI.defers (fun d hdm => by
          obtain ⟨j, hj⟩ := mem_dsts.1 hdm
          unfold writes at hj
          cases hx : ops[j]? with
          | none => rw [hx] at hj; simp at hj
          | some o =>
            rw [hx] at hj
            have h3 : o.dst = some d := by simpa using hj
            have h2 := Array.all_eq_true_iff_forall_mem.1 hsz o (Array.mem_of_getElem? hx)
            rw [h3] at h2
            exact of_decide_eq_true h2) (fun d hn => hI.rest d (fun j hw => absurd (mem_dsts.2 ⟨j, hw⟩) hn))
        rw [e]
        refine wpOp_mono (fun a' w' hq => .inr ⟨?_, fun j hj => ?_, hq⟩) (hd (fun d => a.tmps.getD d undef) w (fun d hdm => by obtain ⟨j, hj⟩ := mem_dsts.1 hdm; exact hI.done j d hj (hall j (hwn j d hj))) hI.below)
        · rw [Array.getD_eq_getD_getElem?]; simp [hilt]
        · rw [getD_set_ne false (by omega)]; exact hall j hj
      · refine wpOp_mono (fun a' w' hq => .inl ⟨?_, hq⟩) (inv_step hV ht hsz hI hs hi (h i (by omega)))
        rw [getD_set_ne false hin]; exact hln
    · exfalso
      rcases Nat.lt_or_ge i n with hlt | hge
      · rw [h2 i hlt] at hnl; cases hnl
      · obtain rfl : i = n := by omega
        rw [h1] at hnl; cases hnl
  · intro listed a w hI hs hr
    have hal := all_listed ht hr hs
    rcases hI with ⟨h1, -⟩ | ⟨-, -, hq⟩
    · rw [hal n (by omega)] at h1; cases h1
    · exact hq

end
end Go.Proofs.YtdkdnkmfjpdcpaaDoor.Reg
