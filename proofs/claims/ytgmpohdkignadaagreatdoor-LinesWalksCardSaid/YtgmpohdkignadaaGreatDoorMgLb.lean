/-
  What the proof of the laws L rests on: the texts Region2 Region3 ClC ClD ClE MeA GapA GapB GapC LnA. Conditions: each theorem names its own.
-/
import Derived.Test.YtgmpohdkignadaaGreatDoorMgLa
import Derived.Maps.OwnSet
import Derived.Maps.OwnOps
import Derived.Deep.MidRow
import Derived.RangeFuncBox
import Derived.RangeFuncLeaves
import Derived.RangeFuncCalls
import Derived.OwnWalkIn
import Derived.TacticsIn
import Derived.TacticsInMore
import Derived.RegionIn
import Derived.LoopNIn
import Derived.LoopIn
import Derived.RangeFuncNested
import Derived.Lib.SlBytesRow
import Derived.Lib.BufferWrite
import Derived.Lib.LazyBuf
import Derived.Laws.MakeOwn
/-
  A region that draws its order and whose last operation waits for all the others. No condition.
-/
namespace Go.Proofs.YtgmpohdkignadaaGreatDoor.Reg
open Go.RowKit Go.Maps
set_option linter.unusedVariables false
set_option linter.unusedSimpArgs false

section
variable {P : Program} {ops : Array Oper} {Q : Exit → Act → World → Prop}

theorem inv_step {a0 : Act} {w0 : World} {V : Nat → Value → World → Prop}
    (hV : ∀ d v w w', V d v w → Below w.heap.size w w' → V d v w') (ht : tidy ops = true)
    (hsz : (ops.all fun o => match o.dst with | some d => decide (d < a0.tmps.size) | none => true) = true)
    {listed : Array Bool} {a : Act} {w : World} {i : Nat} (hI : Inv ops V a0 w0 listed a w) (hs : listed.size = ops.size) (hi : i ∈ Region.ready .any ops listed) (h : Owes P ops Q V a0 w0 i) :
    wpOp P ops Q i (fun a' w' => Inv ops V a0 w0 (listed.setIfInBounds i true) a' w') a w := by
  obtain ⟨hun, o, ho, haf⟩ := mem_ready.1 hi
  have hil : i < ops.size := (Array.getElem?_eq_some_iff.1 ho).1
  have hwl : ∀ j, waits ops i j = true → listed.getD j false = true := fun j hj => by
    unfold waits at hj
    rw [ho] at hj
    simp only [Option.map_some, Option.getD_some, Array.any_eq_true', Bool.and_eq_true, beq_iff_eq] at hj
    obtain ⟨e, he, rfl, hb⟩ := hj
    exact haf e he hb
  have hilt : i < listed.size := by omega
  have hnl : listed.getD i false = false := by
    rw [Array.getD_eq_getD_getElem?] at hun ⊢
    simp [hilt] at hun ⊢
    exact hun
  have htd : ∀ j, j < ops.size → i ≠ j → ∀ d, writes ops j d = true → writes ops i d = false ∧ (d ∈ o.looksAt ops → waits ops i j = true ∨ waits ops j i = true) := fun j hj hne d hw => by
    unfold tidy at ht
    rw [Bool.and_eq_true] at ht
    have h1 := List.all_eq_true.1 (List.all_eq_true.1 ht.2 i (List.mem_range.2 hil)) j (List.mem_range.2 hj)
    unfold writes at hw
    have hdj : (ops[j]?).bind (·.dst) = some d := by simpa using hw
    rw [hdj, ho] at h1
    have hb : (i == j) = false := by simpa using hne
    rw [hb] at h1
    simp only [Bool.false_or, Bool.and_eq_true, Bool.not_eq_true', Bool.or_eq_true] at h1
    refine ⟨h1.1, fun hd => ?_⟩
    rcases h1.2 with (h2 | h2) | h2
    · have : (o.looksAt ops).contains d = true := by simpa using hd
      rw [this] at h2; cases h2
    · exact .inl h2
    · exact .inr h2
  have hwn : ∀ j, waits ops j i = true → listed.getD j false = false := fun j hj => by
    cases hx : listed.getD j false with
    | false => rfl
    | true => have := hI.closed j i hj hx; rw [hnl] at this; cases this
  refine wpOp_mono (fun a' w' hh => ?_) (h a w hI.size hI.defers hI.below (fun x hx => ?_))
  · obtain ⟨v, rfl, hb, hv⟩ := hh
    have hdl : ∀ t, (ops[i]?).bind (·.dst) = some t → t < a.tmps.size := fun t hte => by
      rw [ho] at hte
      have h2 := Array.all_eq_true_iff_forall_mem.1 hsz o (Array.mem_of_getElem? ho)
      have h3 : o.dst = some t := hte
      rw [h3] at h2
      rw [hI.size]
      exact of_decide_eq_true h2
    have hli : ∀ j, j ≠ i → (listed.setIfInBounds i true).getD j false = listed.getD j false := fun j hj => getD_set_ne false (Ne.symm hj)
    have hself : (listed.setIfInBounds i true).getD i false = true := by
      rw [Array.getD_eq_getD_getElem?]; simp [hilt]
    refine ⟨?_, ?_, hI.below.trans (hb.mono hI.below.size), fun j d hw hl => ?_, fun j k hjk hl => ?_, fun d hd => ?_⟩
    · cases hx : (ops[i]?).bind (·.dst) <;> simp [Act.put, hI.size]
    · cases hx : (ops[i]?).bind (·.dst) <;> simp [Act.put, hI.defers]
    · rw [getD_put a _ v d hdl]
      by_cases hji : j = i
      · subst hji
        have : (ops[j]?).bind (·.dst) = some d := by simpa [writes] using hw
        rw [if_pos this]
        exact hv d hw
      · have hne := (htd j (writes_lt hw) (Ne.symm hji) d hw).1
        rw [if_neg (by intro e; simp [writes, e] at hne)]
        rw [hli j hji] at hl
        exact hV _ _ _ _ (hI.done j d hw hl) hb
    · by_cases hki : k = i
      · subst hki; exact hself
      · rw [hli k hki]
        by_cases hji : j = i
        · subst hji; exact hwl k hjk
        · rw [hli j hji] at hl; exact hI.closed j k hjk hl
    · rw [getD_put a _ v d hdl]
      rw [if_neg]
      · refine hI.rest d (fun j hw => ?_)
        have := hd j hw
        by_cases hji : j = i
        · subst hji; rw [hself] at this; cases this
        · rwa [hli j hji] at this
      · intro e
        have := hd i (by simp [writes, e])
        rw [hself] at this; cases this
  · unfold reads at hx
    rw [ho] at hx
    obtain ⟨d, hdm, rfl⟩ := List.mem_map.1 hx
    refine ⟨fun hf => ?_, fun hf => ?_⟩
    · simp only [List.any_eq_true, List.mem_range, Bool.and_eq_true] at hf
      obtain ⟨j, _, hw, hwt⟩ := hf
      exact hI.done j d hw (hwl j hwt)
    · refine hI.rest d (fun j hw => ?_)
      by_cases hji : j = i
      · subst hji; exact hnl
      · rcases (htd j (writes_lt hw) (Ne.symm hji) d hw).2 hdm with h1 | h1
        · exfalso
          rw [List.any_eq_false] at hf
          have := hf j (List.mem_range.2 (writes_lt hw))
          simp [hw, h1] at this
        · exact hwn j h1

/-- The last operation waits for every other one: it is run when all slots are as said. -/
theorem wp_held_last {id : Nat} {a0 : Act} {w0 : World} (hm : P.follows .mixedOrders = true) (V : Nat → Value → World → Prop)
    (hV : ∀ d v w w', V d v w → Below w.heap.size w w' → V d v w') (ht : tidy ops = true) (D : List Nat) (hD : dsts ops = D) (n : Nat) (hn : ops.size = n + 1) (hnd : (ops[n]?).bind (·.dst) = none)
    (hlast : ((List.range n).all fun j => waits ops n j) = true)
    (hsz : (ops.all fun o => match o.dst with | some d => decide (d < a0.tmps.size) | none => true) = true)
    (h : ∀ i, i < n → Owes P ops Q V a0 w0 i)
    (hd : ∀ (f : Nat → Value) w, (∀ d ∈ D, V d (f d) w) → Below w0.heap.size w0 w → wpOp P ops Q n (Q .normal) (putAll a0 (D.map fun d => (d, f d))) w) :
    (Code.region id ops true).wp P Q a0 w0 := by
  have hdr : Below w0.heap.size w0 { w0 with drawn := w0.drawn + 1 } := ⟨rfl, rfl, rfl, Nat.le_refl _, fun _ _ => rfl⟩
  have hnone : ∀ j, (Array.replicate ops.size false).getD j false = false := fun j => by
    rw [Array.getD_eq_getD_getElem?]
    by_cases hj : j < ops.size <;> simp [hj]
  refine wp_inv hm (fun listed a w => (listed.getD n false = false ∧ Inv ops V a0 w0 listed a w) ∨ (listed.getD n false = true ∧ (∀ j, j < n → listed.getD j false = true) ∧ Q .normal a w))
    (.inl ⟨hnone n, rfl, rfl, hdr, fun j d _ hl => ?_, fun j k _ hl => ?_, fun d _ => rfl⟩) ?_ ?_
  · rw [hnone] at hl; cases hl
  · rw [hnone] at hl; cases hl
  · intro listed a w i hI hs hi
    obtain ⟨hun, o, ho, haf⟩ := mem_ready.1 hi
    have hil : i < ops.size := (Array.getElem?_eq_some_iff.1 ho).1
    have hilt : i < listed.size := by omega
    have hnl : listed.getD i false = false := by
      rw [Array.getD_eq_getD_getElem?] at hun ⊢
      simp [hilt] at hun ⊢
      exact hun
    rcases hI with ⟨hln, hI⟩ | ⟨h1, h2, -⟩
    · by_cases hin : i = n
      · subst hin
        have hall : ∀ j, j < i → listed.getD j false = true := fun j hj => by
          have hw := List.all_eq_true.1 hlast j (List.mem_range.2 hj)
          unfold waits at hw
          rw [ho] at hw
          simp only [Option.map_some, Option.getD_some, Array.any_eq_true', Bool.and_eq_true, beq_iff_eq] at hw
          obtain ⟨e, he, rfl, hb⟩ := hw
          exact haf e he hb
        subst hD
        have hwn : ∀ j d, writes ops j d = true → j < i := fun j d hw => by
          have := writes_lt hw
          rcases Nat.lt_or_ge j i with h | h
          · exact h
          · obtain rfl : j = i := by omega
            simp [writes, hnd] at hw
        have e := putAll_eq a (dsts ops) a0 hI.size hI.defers (fun d hdm => by
          obtain ⟨j, hj⟩ := mem_dsts.1 hdm
          unfold writes at hj
          cases hx : ops[j]? with
          | none => rw [hx] at hj; simp at hj
          | some o =>
            rw [hx] at hj
            have h3 : o.dst = some d := by simpa using hj
            have h2 := Array.all_eq_true_iff_forall_mem.1 hsz o (Array.mem_of_getElem? hx)
            rw [h3] at h2
            exact of_decide_eq_true h2) (fun d hn => hI.rest d (fun j hw => absurd (mem_dsts.2 ⟨j, hw⟩) hn))
        rw [e]
        refine wpOp_mono (fun a' w' hq => .inr ⟨?_, fun j hj => ?_, hq⟩) (hd (fun d => a.tmps.getD d undef) w (fun d hdm => by obtain ⟨j, hj⟩ := mem_dsts.1 hdm; exact hI.done j d hj (hall j (hwn j d hj))) hI.below)
        · rw [Array.getD_eq_getD_getElem?]; simp [hilt]
        · rw [getD_set_ne false (by omega)]; exact hall j hj
      · refine wpOp_mono (fun a' w' hq => .inl ⟨?_, hq⟩) (inv_step hV ht hsz hI hs hi (h i (by omega)))
        rw [getD_set_ne false hin]; exact hln
    · exfalso
      rcases Nat.lt_or_ge i n with hlt | hge
      · rw [h2 i hlt] at hnl; cases hnl
      · obtain rfl : i = n := by omega
        rw [h1] at hnl; cases hnl
  · intro listed a w hI hs hr
    have hal := all_listed ht hr hs
    rcases hI with ⟨h1, -⟩ | ⟨-, -, hq⟩
    · rw [hal n (by omega)] at h1; cases h1
    · exact hq

theorem wpOp_last {n : Nat} {o : Oper} {a : Act} {w : World} (ho : ops[n]? = some o) (h : wpList P ops Q [o] a w) : wpOp P ops Q n (Q .normal) a w := by
  unfold wpOp; rw [ho]; exact h

theorem op_lookup_int {H : Type} (w : World) {o : Oper} {a : Act} {K' : Act → World → Prop} (m x : Operand) (t : TypeId) (hop : o.op = Op.lookup t m x false)
    (k e : TypeId) (q : IntKind) (K : Keyed P k) (ht : P.underlying t = some (.map k e)) (he : P.underlying e = some (.int q)) (hz : (zeroValue e).run P w = .ok (.int q 0) w) (b n : Nat) (D : DataW H)
    (hm : a.eval m = .map (some b)) (hown : w.ownsMap P k (plainElem P e) b n D) (key : Value) (kl : Lit) (hx : a.eval x = key) (hkey : keyOf P k key = some kl)
    (hK : ∀ c : Int, D.atKey kl (.lit (.int q 0)) = .lit (.int q c) → (Lit.int q c).wf = true → K' (a.put o.dst (.int q c)) w) : o.wp P a w K' Q := by
  obtain ⟨c, hrun, hat, hwc⟩ := hown.lookup_int K ht he hz hkey
  unfold Oper.wp
  simp [execOp, hop, hm, hx, hrun, Result.andThen]
  exact hK c hat hwc
end
end Go.Proofs.YtgmpohdkignadaaGreatDoor.Reg
/-
  A region that draws its order and whose last operation waits for all the others, at once or by way of others. No condition.
-/
namespace Go.Proofs.YtgmpohdkignadaaGreatDoor.Reg
open Go.RowKit Go.Maps
set_option linter.unusedVariables false
set_option linter.unusedSimpArgs false

section
variable {P : Program} {ops : Array Oper} {Q : Exit → Act → World → Prop}

/-- Operation i waits for j, at once or by way of others. -/
def far (ops : Array Oper) : Nat → Nat → Nat → Bool
  | 0, _, _ => false
  | f + 1, i, j => waits ops i j || (List.range ops.size).any fun k => waits ops i k && far ops f k j
theorem far_listed {listed : Array Bool} (hc : ∀ j k, waits ops j k = true → listed.getD j false = true → listed.getD k false = true) : ∀ f k j, listed.getD k false = true → far ops f k j = true → listed.getD j false = true
  | 0, k, j, _, h => by simp [far] at h
  | f + 1, k, j, hk, h => by
    simp only [far, Bool.or_eq_true, List.any_eq_true, List.mem_range, Bool.and_eq_true] at h
    rcases h with h | ⟨m, _, h1, h2⟩
    · exact hc k j h hk
    · exact far_listed hc f m j (hc k m h1 hk) h2
theorem far_once {listed : Array Bool} {i f j : Nat} (hw : ∀ k, waits ops i k = true → listed.getD k false = true) (hc : ∀ j k, waits ops j k = true → listed.getD j false = true → listed.getD k false = true) (h : far ops f i j = true) : listed.getD j false = true := by
  cases f with
  | zero => simp [far] at h
  | succ f =>
    simp only [far, Bool.or_eq_true, List.any_eq_true, List.mem_range, Bool.and_eq_true] at h
    rcases h with h | ⟨m, _, h1, h2⟩
    · exact hw j h
    · exact far_listed hc f m j (hw m h1) h2

/-- The last operation waits for every other one, if not at once then by way of others: it is run when all slots are as said. -/
theorem wp_held_far {id : Nat} {a0 : Act} {w0 : World} (hm : P.follows .mixedOrders = true) (V : Nat → Value → World → Prop)
    (hV : ∀ d v w w', V d v w → Below w.heap.size w w' → V d v w') (ht : tidy ops = true) (D : List Nat) (hD : dsts ops = D) (n : Nat) (hn : ops.size = n + 1) (hnd : (ops[n]?).bind (·.dst) = none)
    (hlast : ((List.range n).all fun j => far ops 4 n j) = true)
    (hsz : (ops.all fun o => match o.dst with | some d => decide (d < a0.tmps.size) | none => true) = true)
    (h : ∀ i, i < n → Owes P ops Q V a0 w0 i)
    (hd : ∀ (f : Nat → Value) w, (∀ d ∈ D, V d (f d) w) → Below w0.heap.size w0 w → wpOp P ops Q n (Q .normal) (putAll a0 (D.map fun d => (d, f d))) w) :
    (Code.region id ops true).wp P Q a0 w0 := by
  have hdr : Below w0.heap.size w0 { w0 with drawn := w0.drawn + 1 } := ⟨rfl, rfl, rfl, Nat.le_refl _, fun _ _ => rfl⟩
  have hnone : ∀ j, (Array.replicate ops.size false).getD j false = false := fun j => by
    rw [Array.getD_eq_getD_getElem?]
    by_cases hj : j < ops.size <;> simp [hj]
  refine wp_inv hm (fun listed a w => (listed.getD n false = false ∧ Inv ops V a0 w0 listed a w) ∨ (listed.getD n false = true ∧ (∀ j, j < n → listed.getD j false = true) ∧ Q .normal a w))
    (.inl ⟨hnone n, rfl, rfl, hdr, fun j d _ hl => ?_, fun j k _ hl => ?_, fun d _ => rfl⟩) ?_ ?_
  · rw [hnone] at hl; cases hl
  · rw [hnone] at hl; cases hl
  · intro listed a w i hI hs hi
    obtain ⟨hun, o, ho, haf⟩ := mem_ready.1 hi
    have hil : i < ops.size := (Array.getElem?_eq_some_iff.1 ho).1
    have hilt : i < listed.size := by omega
    have hnl : listed.getD i false = false := by
      rw [Array.getD_eq_getD_getElem?] at hun ⊢
      simp [hilt] at hun ⊢
      exact hun
    rcases hI with ⟨hln, hI⟩ | ⟨h1, h2, -⟩
    · by_cases hin : i = n
      · subst hin
        have hall : ∀ j, j < i → listed.getD j false = true := fun j hj => by
          have hw := List.all_eq_true.1 hlast j (List.mem_range.2 hj)
          refine far_once (fun k hk => ?_) hI.closed hw
          unfold waits at hk
          rw [ho] at hk
          simp only [Option.map_some, Option.getD_some, Array.any_eq_true', Bool.and_eq_true, beq_iff_eq] at hk
          obtain ⟨e, he, rfl, hb⟩ := hk
          exact haf e he hb
        subst hD
        have hwn : ∀ j d, writes ops j d = true → j < i := fun j d hw => by
          have := writes_lt hw
          rcases Nat.lt_or_ge j i with h | h
          · exact h
          · obtain rfl : j = i := by omega
            simp [writes, hnd] at hw
        have e := putAll_eq a (dsts ops) a0 hI.size hI.defers (fun d hdm => by
          obtain ⟨j, hj⟩ := mem_dsts.1 hdm
          unfold writes at hj
          cases hx : ops[j]? with
          | none => rw [hx] at hj; simp at hj
          | some o =>
            rw [hx] at hj
            have h3 : o.dst = some d := by simpa using hj
            have h2 := Array.all_eq_true_iff_forall_mem.1 hsz o (Array.mem_of_getElem? hx)
            rw [h3] at h2
            exact of_decide_eq_true h2) (fun d hn => hI.rest d (fun j hw => absurd (mem_dsts.2 ⟨j, hw⟩) hn))
        rw [e]
        refine wpOp_mono (fun a' w' hq => .inr ⟨?_, fun j hj => ?_, hq⟩) (hd (fun d => a.tmps.getD d undef) w (fun d hdm => by obtain ⟨j, hj⟩ := mem_dsts.1 hdm; exact hI.done j d hj (hall j (hwn j d hj))) hI.below)
        · rw [Array.getD_eq_getD_getElem?]; simp [hilt]
        · rw [getD_set_ne false (by omega)]; exact hall j hj
      · refine wpOp_mono (fun a' w' hq => .inl ⟨?_, hq⟩) (inv_step hV ht hsz hI hs hi (h i (by omega)))
        rw [getD_set_ne false hin]; exact hln
    · exfalso
      rcases Nat.lt_or_ge i n with hlt | hge
      · rw [h2 i hlt] at hnl; cases hnl
      · obtain rfl : i = n := by omega
        rw [h1] at hnl; cases hnl
  · intro listed a w hI hs hr
    have hal := all_listed ht hr hs
    rcases hI with ⟨h1, -⟩ | ⟨-, -, hq⟩
    · rw [hal n (by omega)] at h1; cases h1
    · exact hq

end
end Go.Proofs.YtgmpohdkignadaaGreatDoor.Reg
/-
  cluster.made. Condition: the two tables of unicode/utf8 lie as laid.
-/
namespace Go.Proofs.YtgmpohdkignadaaGreatDoor.Ut
open Go.RowKit Go.Proofs.YtgmpohdkignadaaGreatDoor.Reg
set_option linter.unusedVariables false
set_option linter.unusedSimpArgs false

theorem mixed : Tryz.prog.follows .mixedOrders = true := by kernel_rfl

def lf : ByteArray := ByteArray.mk #[10]
def crlf (s : ByteArray) (i : Nat) : Bool := decide (atC s i = 13) && Lib.hasPrefix (from_ s (i + 1)).data.toList [10]
def clC (s : ByteArray) (i : Nat) : Int := if crlf s i = true then 1 else classF (atC s i)
def clW (s : ByteArray) (i : Nat) : Int := if crlf s i = true then 0 else cellsF (atC s i)
def mkCl (s : ByteArray) (i : Nat) (tq : Int) : Value := .agg #[.int .i64 i, .int .i64 tq, .int .i64 (clC s i), .int .i64 (clW s i)]

/-- Four cells of block g. -/
structure Four (W : World) (g : Nat) (a b c d : Value) : Prop where
  lt : g < W.heap.size
  c0 : W.cell? ⟨g, 0, none⟩ = some a
  c1 : W.cell? ⟨g, 1, none⟩ = some b
  c2 : W.cell? ⟨g, 2, none⟩ = some c
  c3 : W.cell? ⟨g, 3, none⟩ = some d
  f0 : W.frozen? ⟨g, 0, none⟩ = false
  f1 : W.frozen? ⟨g, 1, none⟩ = false
  f2 : W.frozen? ⟨g, 2, none⟩ = false
  f3 : W.frozen? ⟨g, 3, none⟩ = false
theorem Four.below {W W' : World} {g : Nat} {a b c d : Value} (h : Four W g a b c d) (hb : Below W.heap.size W W') : Four W' g a b c d :=
  ⟨Nat.lt_of_lt_of_le h.lt hb.size, (hb.cell (p := ⟨g, 0, none⟩) h.lt).trans h.c0, (hb.cell (p := ⟨g, 1, none⟩) h.lt).trans h.c1, (hb.cell (p := ⟨g, 2, none⟩) h.lt).trans h.c2, (hb.cell (p := ⟨g, 3, none⟩) h.lt).trans h.c3,
   (hb.frozen (p := ⟨g, 0, none⟩) h.lt).trans h.f0, (hb.frozen (p := ⟨g, 1, none⟩) h.lt).trans h.f1, (hb.frozen (p := ⟨g, 2, none⟩) h.lt).trans h.f2, (hb.frozen (p := ⟨g, 3, none⟩) h.lt).trans h.f3⟩
theorem Four.chg {S : Nat → Prop} {W W' : World} {g : Nat} {a b c d : Value} (h : Four W g a b c d) (hb : Chg S W W') (hS : ¬ S g) : Four W' g a b c d :=
  ⟨Nat.lt_of_lt_of_le h.lt hb.size, (hb.cell (p := ⟨g, 0, none⟩) h.lt hS).trans h.c0, (hb.cell (p := ⟨g, 1, none⟩) h.lt hS).trans h.c1, (hb.cell (p := ⟨g, 2, none⟩) h.lt hS).trans h.c2, (hb.cell (p := ⟨g, 3, none⟩) h.lt hS).trans h.c3,
   (hb.frozen (p := ⟨g, 0, none⟩) h.lt hS).trans h.f0, (hb.frozen (p := ⟨g, 1, none⟩) h.lt hS).trans h.f1, (hb.frozen (p := ⟨g, 2, none⟩) h.lt hS).trans h.f2, (hb.frozen (p := ⟨g, 3, none⟩) h.lt hS).trans h.f3⟩
theorem Four.new (W : World) (a b c d : Value) (t : TypeId) : Four (W.alloc (.cells #[a, b, c, d] t)) W.heap.size a b c d := by
  constructor <;> simp
theorem setAt (W : World) (g k j : Nat) (v u : Value) (h : W.cell? ⟨g, j, none⟩ = some u) : (W.setCell ⟨g, k, none⟩ v).cell? ⟨g, j, none⟩ = some (if j = k then v else u) := by
  by_cases hjk : j = k
  · subst hjk; rw [if_pos rfl]; exact World.cell?_setCell_same _ _ _ h
  · rw [if_neg hjk]; exact (World.cell?_setCell_other _ _ _ _ (by simp [fun e => hjk (Eq.symm e)])).trans h
theorem frozen_set (W : World) (p q : Addr) (v : Value) : (W.setCell p v).frozen? q = W.frozen? q := by simp
theorem Four.set {W : World} {g : Nat} {a b c d : Value} (h : Four W g a b c d) (k : Nat) (v : Value) :
    Four (W.setCell ⟨g, k, none⟩ v) g (if 0 = k then v else a) (if 1 = k then v else b) (if 2 = k then v else c) (if 3 = k then v else d) :=
  ⟨Nat.lt_of_lt_of_le h.lt (Chg.set W ⟨g, k, none⟩ v).size, setAt _ _ _ _ _ _ h.c0, setAt _ _ _ _ _ _ h.c1, setAt _ _ _ _ _ _ h.c2, setAt _ _ _ _ _ _ h.c3, (frozen_set _ _ _ _).trans h.f0, (frozen_set _ _ _ _).trans h.f1, (frozen_set _ _ _ _).trans h.f2, (frozen_set _ _ _ _).trans h.f3⟩
theorem Four.all {W : World} {g : Nat} {a b c d : Value} (h : Four W g a b c d) (a' b' c' d' : Value) :
    Four ((((W.setCell ⟨g, 0, none⟩ a').setCell ⟨g, 1, none⟩ b').setCell ⟨g, 2, none⟩ c').setCell ⟨g, 3, none⟩ d') g a' b' c' d' := by
  simpa using (((h.set 0 a').set 1 b').set 2 c').set 3 d'
theorem Four.there {W : World} {g : Nat} {a b c d : Value} (h : Four W g a b c d) : W.there g 0 4 := by
  intro j hj
  rcases (by omega : j = 0 ∨ j = 1 ∨ j = 2 ∨ j = 3) with rfl | rfl | rfl | rfl <;> simp [h.c0, h.c1, h.c2, h.c3, h.f0, h.f1, h.f2, h.f3]
theorem Four.chg_all (W : World) (g : Nat) (a' b' c' d' : Value) : Chg (fun k => k = g) W ((((W.setCell ⟨g, 0, none⟩ a').setCell ⟨g, 1, none⟩ b').setCell ⟨g, 2, none⟩ c').setCell ⟨g, 3, none⟩ d') :=
  (((Chg.set W ⟨g, 0, none⟩ _).trans (Chg.set _ ⟨g, 1, none⟩ _) (fun _ _ h => h)).trans (Chg.set _ ⟨g, 2, none⟩ _) (fun _ _ h => h)).trans (Chg.set _ ⟨g, 3, none⟩ _) (fun _ _ h => h)

def VMade (s : ByteArray) (i : Nat) (tq C : Int) (g0 base : Nat) : Nat → Value → World → Prop := fun d v w => match d with
  | 16 => v = .int .i64 i
  | 17 => v = .int .i64 tq
  | 18 => v = .pointer (some ⟨g0, 0, none⟩)
  | 19 => v = .int .i32 C
  | 20 => v = .int .i64 (classF C)
  | 21 => v = .pointer (some ⟨g0, 0, none⟩)
  | 22 => v = .int .i32 C
  | 23 => v = .int .i64 (cellsF C)
  | 24 => v = .agg #[.int .i64 i, .int .i64 tq, .int .i64 (classF C), .int .i64 (cellsF C)]
  | 9 => ∃ g, v = .pointer (some ⟨g, 0, none⟩) ∧ base ≤ g ∧ Four w g (.int .i64 0) (.int .i64 0) (.int .i64 0) (.int .i64 0)
  | _ => True
theorem VMade_mono (s : ByteArray) (i : Nat) (tq C : Int) (g0 base : Nat) : ∀ d v w w', VMade s i tq C g0 base d v w → Below w.heap.size w w' → VMade s i tq C g0 base d v w' := by
  intro d v w w' h hb
  unfold VMade at *
  split <;> first | exact h | exact trivial | skip
  obtain ⟨g, h1, h2, h3⟩ := h
  exact ⟨g, h1, h2, h3.below hb⟩

set_option maxRecDepth 100000 in
set_option maxHeartbeats 1000000 in
theorem made_any (s : ByteArray) (i : Nat) (tq : Int) (w : World) (hT : Tabs w) (hs : s.size ≤ 140737488355328) (hi : i < s.size) :
    Calls Tryz.prog 55 #[.string s, .int .i64 i, .int .i64 tq] w fun e w' => e = .returned (mkCl s i tq) ∧ Below w.heap.size w w' := by
  have HT := Lib.hid hT
  clear hT
  unfold mkCl
  obtain ⟨RC, hRC⟩ : ∃ R, clC s i = R := ⟨_, rfl⟩
  have HRC := Lib.hid hRC
  obtain ⟨RW, hRW⟩ : ∃ R, clW s i = R := ⟨_, rfl⟩
  have HRW := Lib.hid hRW
  rw [hRC, hRW]
  clear hRC hRW
  go_enter Tryz.func55, Tryz.ntmps55
  go_wp2_with fail
  have k1 := Four.new w (.int .i64 0) (.int .i64 0) (.int .i64 0) (.int .i64 0) 85
  have b1 : Below w.heap.size w (w.alloc (.cells #[.int .i64 0, .int .i64 0, .int .i64 0, .int .i64 0] 85)) := (Below.refl _ _).alloc (Nat.le_refl _) _
  generalize (w.alloc (.cells #[.int .i64 0, .int .i64 0, .int .i64 0, .int .i64 0] 85)) = w1 at *
  refine (At_any s i w1 (tabs_below HT.out b1) hs hi).mono ?_
  rintro e w2 ⟨rfl, hb2⟩
  have k2 := k1.below hb2
  have b2 := b1.trans (hb2.mono b1.size)
  clear hb2 k1 b1
  have hcr : crlf s i = (decide (atC s i = 13) && Lib.hasPrefix (from_ s (i + 1)).data.toList [10]) := rfl
  unfold clC at HRC
  unfold clW at HRW
  rw [hcr] at HRC HRW
  clear hcr
  generalize atC s i = C at *
  generalize atN s i = N1 at *
  generalize boundF s i = bd at *
  have K2 := Lib.hid k2
  have B2 := Lib.hid b2
  clear k2 b2
  go_wp2_with fail
  have b3 : Below w2.heap.size w2 (w2.alloc (.cells #[.int .i32 C, .int .i64 N1] 111)) := (Below.refl _ _).alloc (Nat.le_refl _) _
  have c3 := (boxed (w := w2) (x := .int .i32 C) (y := .int .i64 N1) (t := 111)).1
  have l3 : w2.heap.size < (w2.alloc (.cells #[.int .i32 C, .int .i64 N1] 111)).heap.size := by simp
  have l2 : w.heap.size ≤ w2.heap.size := B2.out.size
  generalize (w2.alloc (.cells #[.int .i32 C, .int .i64 N1] 111)) = w3 at *
  have K3 := Lib.hid (K2.out.below b3)
  have B3 := Lib.hid (B2.out.trans (b3.mono B2.out.size))
  clear b3
  generalize w2.heap.size = g0 at *
  clear K2 B2
  refine wp_held_far mixed (VMade s i tq C g0 w3.heap.size) (VMade_mono _ _ _ _ _ _) (by kernel_rfl) [16, 17, 18, 19, 20, 21, 22, 23, 24, 9] (by kernel_rfl) 10 (by kernel_rfl) (by kernel_rfl) (by kernel_rfl) (by kernel_rfl) ?_ ?_
  · intro j hj
    have hj' : j < 10 := hj
    rcases (by omega : j = 0 ∨ j = 1 ∨ j = 2 ∨ j = 3 ∨ j = 4 ∨ j = 5 ∨ j = 6 ∨ j = 7 ∨ j = 8 ∨ j = 9) with rfl | rfl | rfl | rfl | rfl | rfl | rfl | rfl | rfl | rfl
    · -- operation 0
      (refine owes_val (L := [(1, false)]) rfl rfl rfl (by kernel_rfl) ?_; intro a' w' hb' hfacts; obtain ⟨hf1, -⟩ := hfacts; replace hf1 : a'.tmps[1]?.getD undef = .int .i64 i := hf1)
      have q0 := (hb'.cell (p := ⟨g0, 0, none⟩) l3).trans c3
      (go_simp; first | exact ⟨_, rfl, Below.refl _ _, rfl⟩ | exact ⟨_, rfl, Below.refl _ _, trivial⟩ | exact ⟨_, rfl, (Below.refl _ _).alloc (Nat.le_refl _) _, trivial⟩ | exact ⟨_, rfl, Below.refl _ _, congrArg (Value.int _) (IntWalk.i64_in _ (by omega))⟩)
    · -- operation 1
      (refine owes_val (L := [(2, false)]) rfl rfl rfl (by kernel_rfl) ?_; intro a' w' hb' hfacts; obtain ⟨hf2, -⟩ := hfacts; replace hf2 : a'.tmps[2]?.getD undef = .int .i64 tq := hf2)
      have q0 := (hb'.cell (p := ⟨g0, 0, none⟩) l3).trans c3
      (go_simp; first | exact ⟨_, rfl, Below.refl _ _, rfl⟩ | exact ⟨_, rfl, Below.refl _ _, trivial⟩ | exact ⟨_, rfl, (Below.refl _ _).alloc (Nat.le_refl _) _, trivial⟩ | exact ⟨_, rfl, Below.refl _ _, congrArg (Value.int _) (IntWalk.i64_in _ (by omega))⟩)
    · -- operation 2
      (refine owes_val (L := [(7, false)]) rfl rfl rfl (by kernel_rfl) ?_; intro a' w' hb' hfacts; obtain ⟨hf7, -⟩ := hfacts; replace hf7 : a'.tmps[7]?.getD undef = .pointer (some ⟨g0, 0, none⟩) := hf7)
      have q0 := (hb'.cell (p := ⟨g0, 0, none⟩) l3).trans c3
      (go_simp; first | exact ⟨_, rfl, Below.refl _ _, rfl⟩ | exact ⟨_, rfl, Below.refl _ _, trivial⟩ | exact ⟨_, rfl, (Below.refl _ _).alloc (Nat.le_refl _) _, trivial⟩ | exact ⟨_, rfl, Below.refl _ _, congrArg (Value.int _) (IntWalk.i64_in _ (by omega))⟩)
    · -- operation 3
      (refine owes_val (L := [(18, true)]) rfl rfl rfl (by kernel_rfl) ?_; intro a' w' hb' hfacts; obtain ⟨hf18, -⟩ := hfacts; try simp only [VMade] at hf18)
      have q0 := (hb'.cell (p := ⟨g0, 0, none⟩) l3).trans c3
      (go_simp; first | exact ⟨_, rfl, Below.refl _ _, rfl⟩ | exact ⟨_, rfl, Below.refl _ _, trivial⟩ | exact ⟨_, rfl, (Below.refl _ _).alloc (Nat.le_refl _) _, trivial⟩ | exact ⟨_, rfl, Below.refl _ _, congrArg (Value.int _) (IntWalk.i64_in _ (by omega))⟩)
    · -- operation 4
      (refine owes_val (L := [(19, true)]) rfl rfl rfl (by kernel_rfl) ?_; intro a' w' hb' hfacts; obtain ⟨hf19, -⟩ := hfacts; try simp only [VMade] at hf19)
      go_simp
      refine (Class_any C _).mono ?_
      rintro e w4 ⟨rfl, hb4⟩
      exact ⟨_, rfl, hb4, rfl⟩
    · -- operation 5
      (refine owes_val (L := [(7, false)]) rfl rfl rfl (by kernel_rfl) ?_; intro a' w' hb' hfacts; obtain ⟨hf7, -⟩ := hfacts; replace hf7 : a'.tmps[7]?.getD undef = .pointer (some ⟨g0, 0, none⟩) := hf7)
      have q0 := (hb'.cell (p := ⟨g0, 0, none⟩) l3).trans c3
      (go_simp; first | exact ⟨_, rfl, Below.refl _ _, rfl⟩ | exact ⟨_, rfl, Below.refl _ _, trivial⟩ | exact ⟨_, rfl, (Below.refl _ _).alloc (Nat.le_refl _) _, trivial⟩ | exact ⟨_, rfl, Below.refl _ _, congrArg (Value.int _) (IntWalk.i64_in _ (by omega))⟩)
    · -- operation 6
      (refine owes_val (L := [(21, true)]) rfl rfl rfl (by kernel_rfl) ?_; intro a' w' hb' hfacts; obtain ⟨hf21, -⟩ := hfacts; try simp only [VMade] at hf21)
      have q0 := (hb'.cell (p := ⟨g0, 0, none⟩) l3).trans c3
      (go_simp; first | exact ⟨_, rfl, Below.refl _ _, rfl⟩ | exact ⟨_, rfl, Below.refl _ _, trivial⟩ | exact ⟨_, rfl, (Below.refl _ _).alloc (Nat.le_refl _) _, trivial⟩ | exact ⟨_, rfl, Below.refl _ _, congrArg (Value.int _) (IntWalk.i64_in _ (by omega))⟩)
    · -- operation 7
      (refine owes_val (L := [(22, true)]) rfl rfl rfl (by kernel_rfl) ?_; intro a' w' hb' hfacts; obtain ⟨hf22, -⟩ := hfacts; try simp only [VMade] at hf22)
      go_simp
      refine (Cells_any C _).mono ?_
      rintro e w4 ⟨rfl, hb4⟩
      exact ⟨_, rfl, hb4, rfl⟩
    · -- operation 8
      (refine owes_val (L := [(16, true), (17, true), (20, true), (23, true)]) rfl rfl rfl (by kernel_rfl) ?_; intro a' w' hb' hfacts; obtain ⟨hf16, hf17, hf20, hf23, -⟩ := hfacts; try simp only [VMade] at hf16; try simp only [VMade] at hf17; try simp only [VMade] at hf20; try simp only [VMade] at hf23)
      have q0 := (hb'.cell (p := ⟨g0, 0, none⟩) l3).trans c3
      (go_simp; first | exact ⟨_, rfl, Below.refl _ _, rfl⟩ | exact ⟨_, rfl, Below.refl _ _, trivial⟩ | exact ⟨_, rfl, (Below.refl _ _).alloc (Nat.le_refl _) _, trivial⟩ | exact ⟨_, rfl, Below.refl _ _, congrArg (Value.int _) (IntWalk.i64_in _ (by omega))⟩)
    · -- operation 9
      (refine owes_val (L := []) rfl rfl rfl (by kernel_rfl) ?_; intro a' w' hb' hfacts; clear hfacts)
      go_simp
      refine ⟨_, rfl, (Below.refl _ _).alloc (Nat.le_refl _) _, _, rfl, hb'.size, Four.new _ _ _ _ _ _⟩
  · intro f W3 hf hb3
    have f24 : f 24 = .agg #[.int .i64 i, .int .i64 tq, .int .i64 (classF C), .int .i64 (cellsF C)] := hf 24 (by decide)
    obtain ⟨g, f9, hg, k9⟩ : ∃ g, f 9 = .pointer (some ⟨g, 0, none⟩) ∧ w3.heap.size ≤ g ∧ Four W3 g (.int .i64 0) (.int .i64 0) (.int .i64 0) (.int .i64 0) := hf 9 (by decide)
    have hc0 := (hb3.cell (p := ⟨g0, 0, none⟩) l3).trans c3
    have l4 : g0 < W3.heap.size := Nat.lt_of_lt_of_le l3 hb3.size
    have HB3 := Lib.hid (B3.out.trans (hb3.mono B3.out.size))
    have K4 := Lib.hid (K3.out.below hb3)
    clear hf hb3
    simp only [putAll, put_lit, List.map_cons, List.map_nil, List.set_cons_succ, List.set_cons_zero]
    simp only [f24, f9]
    refine wpOp_last rfl ?_
    have K9 := Lib.hid k9
    refine wpList_store_mid rfl 85 (.tmp 9) (.tmp 24) rfl g 0 #[.int .i64 i, .int .i64 tq, .int .i64 (classF C), .int .i64 (cellsF C)] rfl rfl K9.out.there (by kernel_rfl) (by simp [Value.oneCell']) ?_
    have hset : W3.setCells g 0 (#[.int .i64 i, .int .i64 tq, .int .i64 (classF C), .int .i64 (cellsF C)] : Array Value).toList = ((((W3.setCell ⟨g, 0, none⟩ (.int .i64 i)).setCell ⟨g, 1, none⟩ (.int .i64 tq)).setCell ⟨g, 2, none⟩ (.int .i64 (classF C))).setCell ⟨g, 3, none⟩ (.int .i64 (cellsF C))) := rfl
    rw [hset]
    have K10 := (k9.all (.int .i64 i) (.int .i64 tq) (.int .i64 (classF C)) (.int .i64 (cellsF C)))
    have CH := Four.chg_all W3 g (.int .i64 i) (.int .i64 tq) (.int .i64 (classF C)) (.int .i64 (cellsF C))
    generalize ((((W3.setCell ⟨g, 0, none⟩ (.int .i64 i)).setCell ⟨g, 1, none⟩ (.int .i64 tq)).setCell ⟨g, 2, none⟩ (.int .i64 (classF C))).setCell ⟨g, 3, none⟩ (.int .i64 (cellsF C))) = W4 at *
    have hc1 := (CH.cell (p := ⟨g0, 0, none⟩) l4 (by intro (h : g0 = g); omega)).trans hc0
    have l5 := Nat.lt_of_lt_of_le l4 CH.size
    have hgw : w.heap.size < g := by have := K3.out.lt; omega
    have K5 := (K4.out.chg CH (by intro (h : w.heap.size = g); omega))
    have B5 := Lib.hid ((Chg.of_below HB3.out).trans CH (T := fun k => k = g) (S := fun k => k = g) (fun x _ h => h) |>.below_le (Nat.le_refl _) (fun x hx => by rw [hx]; omega))
    clear hset CH HB3 K4 hc0 l4 K9 k9 f24 f9 K3
    generalize f 16 = x16
    generalize f 17 = x17
    generalize f 18 = x18
    generalize f 19 = x19
    generalize f 20 = x20
    generalize f 21 = x21
    generalize f 22 = x22
    generalize f 23 = x23
    generalize classF C = cc at *
    generalize cellsF C = cw at *
    rcases Bool.eq_false_or_eq_true (C == 13) with hq | hq
    · have h13 : C = 13 := by simpa using hq
      have hex : s.extract (i + 1) s.size = from_ s (i + 1) := rfl
      have hi1 : (i : Int) + 1 ≤ (s.size : Int) := by omega
      obtain ⟨p, hp⟩ : ∃ p, Lib.hasPrefix (from_ s (i + 1)).data.toList [10] = p := ⟨_, rfl⟩
      rw [h13, hp] at HRC HRW
      have HP := Lib.hid hp
      clear hp
      go_wp2_with fail
      refine (Tryz.strings_HasPrefix (from_ s (i + 1)) _ _).mono ?_
      rintro e w5 ⟨rfl, rfl⟩
      have hp2 : Lib.hasPrefix (from_ s (i + 1)).data.toList (ByteArray.mk #[10]).data.toList = p := HP.out
      rw [hp2]
      clear hp2 HP
      cases p with
      | true =>
        have hr1 : RC = 1 := by rw [← HRC.out]; simp
        have hr2 : RW = 0 := by rw [← HRW.out]; simp
        subst hr1 hr2
        clear HRC HRW
        have K11 := (K10.set 2 (.int .i64 1)).set 3 (.int .i64 0)
        have CH := (Chg.set w5 ⟨g, 2, none⟩ (.int .i64 1)).trans (Chg.set _ ⟨g, 3, none⟩ (.int .i64 0)) (fun _ _ h => h)
        simp at K11
        obtain ⟨-, y0, y1, y2, y3, -, -, fy2, fy3⟩ := K10
        have ne1 : w.heap.size ≠ g := by omega
        have ne2 : g ≠ w.heap.size := by omega
        have K6 := Lib.hid ((K5.chg CH ne1).all (.int .i64 i) (.int .i64 tq) (.int .i64 1) (.int .i64 0))
        have CHH := Lib.hid CH
        obtain ⟨-, z0, z1, z2, z3, e0, e1, e2, e3⟩ := K5
        clear CH K11
        go_wp2
        obtain ⟨-, j0, j1, j2, j3, -, -, -, -⟩ := K6.out
        refine bodyPost_ret (v := .agg #[.int .i64 i, .int .i64 tq, .int .i64 1, .int .i64 0]) (by simp [results, Tryz.results55, go_sem, j0, j1, j2, j3]) rfl ⟨rfl, ?_⟩
        exact ((Chg.of_below B5.out).trans CHH.out (T := fun k => k = g) (S := fun k => w.heap.size ≤ k) (fun x _ h => by have : x = g := h; omega)).trans (Four.chg_all _ _ _ _ _ _) (T := fun k => k = w.heap.size) (S := fun k => w.heap.size ≤ k) (fun x _ h => by have : x = w.heap.size := h; omega) |>.below_le (Nat.le_refl _) (fun x hx => hx)
      | false =>
        have hr1 : RC = cc := by rw [← HRC.out]; simp
        have hr2 : RW = cw := by rw [← HRW.out]; simp
        subst hr1 hr2
        clear HRC HRW
        obtain ⟨-, y0, y1, y2, y3, -, -, -, -⟩ := K10
        have K6 := Lib.hid (K5.all (.int .i64 i) (.int .i64 tq) (.int .i64 RC) (.int .i64 RW))
        obtain ⟨-, z0, z1, z2, z3, e0, e1, e2, e3⟩ := K5
        go_wp2
        obtain ⟨-, j0, j1, j2, j3, -, -, -, -⟩ := K6.out
        refine bodyPost_ret (v := .agg #[.int .i64 i, .int .i64 tq, .int .i64 RC, .int .i64 RW]) (by simp [results, Tryz.results55, go_sem, j0, j1, j2, j3]) rfl ⟨rfl, ?_⟩
        exact (Chg.of_below B5.out).trans (Four.chg_all _ _ _ _ _ _) (T := fun k => k = w.heap.size) (S := fun k => k = w.heap.size) (fun x _ h => h) |>.below_le (Nat.le_refl _) (fun x hx => by rw [hx]; exact Nat.le_refl _)
    · have hr1 : RC = cc := by rw [← HRC.out]; simp [show C ≠ 13 by simpa using hq]
      have hr2 : RW = cw := by rw [← HRW.out]; simp [show C ≠ 13 by simpa using hq]
      subst hr1 hr2
      clear HRC HRW
      obtain ⟨-, y0, y1, y2, y3, -, -, -, -⟩ := K10
      have K6 := Lib.hid (K5.all (.int .i64 i) (.int .i64 tq) (.int .i64 RC) (.int .i64 RW))
      obtain ⟨-, z0, z1, z2, z3, e0, e1, e2, e3⟩ := K5
      go_wp2
      obtain ⟨-, j0, j1, j2, j3, -, -, -, -⟩ := K6.out
      refine bodyPost_ret (v := .agg #[.int .i64 i, .int .i64 tq, .int .i64 RC, .int .i64 RW]) (by simp [results, Tryz.results55, go_sem, j0, j1, j2, j3]) rfl ⟨rfl, ?_⟩
      exact (Chg.of_below B5.out).trans (Four.chg_all _ _ _ _ _ _) (T := fun k => k = w.heap.size) (S := fun k => k = w.heap.size) (fun x _ h => h) |>.below_le (Nat.le_refl _) (fun x hx => by rw [hx]; exact Nat.le_refl _)
end Go.Proofs.YtgmpohdkignadaaGreatDoor.Ut
/-
  cluster.Walk: its iterator, for every loop body that keeps what lay. Condition: the two tables of unicode/utf8 lie as laid.
-/
namespace Go.Proofs.YtgmpohdkignadaaGreatDoor.Ut
open Go.RowKit Go.Proofs.YtgmpohdkignadaaGreatDoor.Reg
set_option linter.unusedVariables false
set_option linter.unusedSimpArgs false

/-- What a round keeps: the blocks below n₀, and the iterator's box. -/
structure Kp2 (n₀ Bx : Nat) (W W' : World) : Prop where
  size : W.heap.size ≤ W'.heap.size
  same : ∀ k, k < n₀ ∨ k = Bx → W'.heap[k]? = W.heap[k]?
theorem Kp2.refl (n₀ Bx : Nat) (W : World) : Kp2 n₀ Bx W W := ⟨Nat.le_refl _, fun _ _ => rfl⟩
theorem Kp2.trans {n₀ Bx : Nat} {A B C : World} (h : Kp2 n₀ Bx A B) (k : Kp2 n₀ Bx B C) : Kp2 n₀ Bx A C := ⟨Nat.le_trans h.size k.size, fun j hj => (k.same j hj).trans (h.same j hj)⟩
theorem kp2_b {n₀ Bx : Nat} {w : World} (hn : n₀ ≤ w.heap.size) (hB : Bx < w.heap.size) (W : World) (l : Nat) (o o' : Obj) (hl : w.heap.size ≤ l) (h : W.heap[l]? = some o) (_ : o.isCells = false) (_ : o.isWalk = false) : Kp2 n₀ Bx W (W.putObj l o') :=
  ⟨by show W.heap.size ≤ (W.heap.setIfInBounds l o').size; simp, fun k hk => World.putObj_heap_other (by omega)⟩
theorem Kp2.of_below {n₀ Bx : Nat} {W W' : World} (h : Below W.heap.size W W') (hn : n₀ ≤ W.heap.size) (hB : Bx < W.heap.size) : Kp2 n₀ Bx W W' := ⟨h.size, fun k hk => h.block k (by omega)⟩
theorem Kp2.of_chg {S : Nat → Prop} {n₀ Bx : Nat} {W W' : World} (h : Chg S W W') (hn : n₀ ≤ W.heap.size) (hB : Bx < W.heap.size) (hS : ∀ k, S k → n₀ ≤ k ∧ k ≠ Bx) : Kp2 n₀ Bx W W' := ⟨h.size, fun k hk => h.block k (by omega) (fun hs => by have := hS k hs; omega)⟩
theorem tabs_same {w w' : World} (h : Tabs w) (hs : ∀ k, k < w.heap.size → w'.heap[k]? = w.heap[k]?) : Tabs w' := by
  have lt : ∀ {a : Addr} {v : Value}, w.cell? a = some v → a.block < w.heap.size := fun {a v} hc => World.block_lt_of_cell? w a hc
  have key : ∀ {a : Addr} {v : Value}, w.cell? a = some v → w'.cell? a = some v := fun {a v} hc => (World.cell?_of_block (w := w) (hs a.block (lt hc))).trans hc
  exact ⟨fun c hc => key (h.1 c hc), fun i hi => ⟨key (h.2 i hi).1, key (h.2 i hi).2⟩⟩

/-- Where the clusters begin, from i on. -/
def clAtsF (s : ByteArray) : Nat → Nat → List Nat
  | 0, _ => []
  | f + 1, i => if i < s.size then i :: clAtsF s f (clN s i) else []
def clAts (s : ByteArray) (i : Nat) : List Nat := clAtsF s (s.size - i) i
theorem clAtsF_more (s : ByteArray) : ∀ f i, s.size - i ≤ f → clAtsF s f i = clAts s i
  | 0, i, h => by unfold clAts; rw [show s.size - i = 0 by omega]
  | f + 1, i, h => by
    unfold clAts
    by_cases hi : i < s.size
    · have h1 := clN_gt hi
      rw [show s.size - i = (s.size - i - 1) + 1 by omega]
      unfold clAtsF
      rw [if_pos hi, if_pos hi, clAtsF_more s f (clN s i) (by omega), clAtsF_more s (s.size - i - 1) (clN s i) (by omega)]
    · rw [show s.size - i = 0 by omega]
      unfold clAtsF
      rw [if_neg hi]
theorem clAts_step {s : ByteArray} {i : Nat} (h : i < s.size) : clAts s i = i :: clAts s (clN s i) := by
  have h1 := clN_gt h
  have e : clAts s i = clAtsF s ((s.size - i - 1) + 1) i := by unfold clAts; congr 1; omega
  rw [e]
  unfold clAtsF
  rw [if_pos h, clAtsF_more s _ _ (by omega)]
theorem clAts_end {s : ByteArray} {i : Nat} (h : s.size ≤ i) : clAts s i = [] := by unfold clAts; rw [show s.size - i = 0 by omega]; rfl

set_option maxRecDepth 100000 in
set_option maxHeartbeats 1000000 in
theorem walk1_in (n : Nat) (hn : 1 ≤ n) (l Bx : Nat) (s : ByteArray) (hs : s.size ≤ 140737488355328) (w0 : World) (hT : Tabs w0) (J Jx : List Nat → World → Prop)
    (hY : ∀ pre x W, J pre W → pre.length < (clAts s 0).length → YieldAt Fence.wide (n - 1) Tryz.prog l #[mkCl s x (clN s x)] W fun e W' =>
      (e = .returned (.bool true) ∧ J (pre ++ [x]) W' ∧ Kp2 w0.heap.size Bx W W') ∨ (e = .returned (.bool false) ∧ Jx (pre ++ [x]) W'))
    (W : World) (hW : ∀ k, k < w0.heap.size → W.heap[k]? = w0.heap[k]?) (hJ : AbidesFrom W.heap.size J) (hc : W.cell? ⟨Bx, 0, none⟩ = some (.string s)) (h0 : J [] W) :
    CallsIn Fence.wide n Tryz.prog 54 #[.func (.yield l) #[] #[], .pointer (some ⟨Bx, 0, none⟩)] W fun e W' => (∃ v, e = .returned v) ∧ ((∃ xs, xs = clAts s 0 ∧ J xs W') ∨ (∃ pre, pre <+: clAts s 0 ∧ Jx pre W')) := by
  have HT := Lib.hid hT
  have HW := Lib.hid hW
  have hwl : w0.heap.size ≤ W.heap.size := by
    rcases Nat.lt_or_ge W.heap.size w0.heap.size with h | h
    · have := hW W.heap.size h
      rw [Array.getElem?_eq_none (Nat.le_refl _), Array.getElem?_eq_getElem h] at this
      cases this
    · exact h
  have hBl : Bx < W.heap.size := World.block_lt_of_cell? W _ hc
  clear hT hW
  refine callsIn_of_wp Tryz.func54 rfl trivial ?_ rfl
  simp only [Tryz.ntmps54, List.size_toArray, List.length_cons, List.length_nil, Nat.reduceAdd, Nat.reduceSub, Array.replicate_succ, Array.replicate_zero, List.push_toArray, List.append_toArray, List.nil_append, List.cons_append]
  gi_wp2
  gi_loopw [3] (fun v wr => ∃ (i : Nat) (pre : List Nat), i ≤ s.size ∧ v = .int .i64 i ∧ pre ++ clAts s i = clAts s 0 ∧ J pre wr ∧ Kp2 w0.heap.size Bx W wr) (fun v _ => s.size - (intOf v).toNat)
  case atStart => exact ⟨0, [], Nat.zero_le _, rfl, rfl, h0, Kp2.refl _ _ _⟩
  case round =>
    obtain ⟨i, pre, hi, rfl, hpre, hJs, hk⟩ := hrel
    have hcr : wr.cell? ⟨Bx, 0, none⟩ = some (.string s) := (World.cell?_of_block (w := W) (hk.same Bx (.inr rfl))).trans hc
    have HTr : Hid (Tabs wr) := tabs_same HT.out (fun k hk' => (hk.same k (.inl hk')).trans (HW.out k hk'))
    by_cases hlt : i < s.size
    · have hst := clAts_step hlt
      rw [hst] at hpre
      have h1 := clN_gt hlt
      have h2 := clN_le s i
      have HP := Lib.hid hpre
      clear hpre hst
      gi_wp2_with fail
      refine ⟨trivial, (callsIn_wide.2 (ClNext_any s i wr HTr.out hs hi)).mono ?_⟩
      rintro e w1 ⟨rfl, hb1⟩
      have HT1 := Lib.hid (tabs_below HTr.out hb1)
      have hJ1 : J pre w1 := hJ pre wr w1 none hJs ⟨hb1.os, hb1.tape, hb1.output, hb1.size, fun k hk' _ => hb1.block k hk'⟩ (fun r e => by cases e)
      have hk1 := hk.trans (Kp2.of_below hb1 (Nat.le_trans hwl hk.size) (Nat.lt_of_lt_of_le hBl hk.size))
      have hcr1 := (hb1.cell (p := ⟨Bx, 0, none⟩) (Nat.lt_of_lt_of_le hBl hk.size)).trans hcr
      clear hb1 hJs hk hcr HTr
      have hlen : pre.length < (clAts s 0).length := by rw [← HP.out]; simp
      have HY : Hid (∀ W, J pre W → YieldAt Fence.wide (n - 1) Tryz.prog l #[mkCl s i (clN s i)] W fun e W' => (e = .returned (.bool true) ∧ J (pre ++ [i]) W' ∧ Kp2 w0.heap.size Bx W W') ∨ (e = .returned (.bool false) ∧ Jx (pre ++ [i]) W')) := fun W h => hY pre i W h hlen
      generalize clN s i = tq at *
      gi_wp2_with fail
      refine ⟨trivial, (callsIn_wide.2 (made_any s i tq w1 HT1.out hs hlt)).mono ?_⟩
      rintro e w2 ⟨rfl, hb2⟩
      have HT2 := Lib.hid (tabs_below HT1.out hb2)
      have hJ2 : J pre w2 := hJ pre w1 w2 none hJ1 ⟨hb2.os, hb2.tape, hb2.output, hb2.size, fun k hk' _ => hb2.block k hk'⟩ (fun r e => by cases e)
      have hk2 := hk1.trans (Kp2.of_below hb2 (Nat.le_trans hwl hk1.size) (Nat.lt_of_lt_of_le hBl hk1.size))
      have hcr2 := (hb2.cell (p := ⟨Bx, 0, none⟩) (Nat.lt_of_lt_of_le hBl hk1.size)).trans hcr1
      clear hb2 hJ1 hk1 hcr1 HT1
      have hY2 := HY.out w2 hJ2
      generalize mkCl s i tq = mv at *
      obtain ⟨fn, tmps, assign, body, hy, hR⟩ := hY2
      have HR := Lib.hid hR
      clear hR hY HY hJ2
      gi_wp2
      refine HR.out.mono ?_
      rintro e W3 (⟨rfl, hJ3, hk3⟩ | ⟨rfl, hJx3⟩)
      · gi_wp2
        go_roundw
        case rel => exact ⟨tq, pre ++ [i], h2, rfl, by rw [List.append_assoc]; exact HP.out, hJ3, hk2.trans hk3⟩
        case measure => simp [intOf]; omega
      · gi_wp2
        refine bodyPost_ret (results_none rfl _ _ _) rfl ?_
        exact ⟨⟨_, rfl⟩, .inr ⟨pre ++ [i], ⟨clAts s tq, by rw [List.append_assoc]; exact HP.out⟩, hJx3⟩⟩
    · rw [clAts_end (by omega), List.append_nil] at hpre
      obtain rfl : i = s.size := by omega
      have HP := Lib.hid hpre
      clear hpre hY
      gi_wp2
      go_end0
      exact ⟨⟨_, rfl⟩, .inl ⟨pre, HP.out, hJs⟩⟩
end Go.Proofs.YtgmpohdkignadaaGreatDoor.Ut
/-
  cluster.Walk, Count, Cells. Condition: the two tables of unicode/utf8 lie as laid.
-/
namespace Go.Proofs.YtgmpohdkignadaaGreatDoor.Ut
open Go.RowKit Go.Proofs.YtgmpohdkignadaaGreatDoor.Reg
set_option linter.unusedVariables false
set_option linter.unusedSimpArgs false
attribute [local go_sem] Oper.semAt_some

theorem Walk_any (s : ByteArray) (w : World) : Calls Tryz.prog 37 #[.string s] w fun e w' => e = .returned (.func (.func 54) #[] #[.pointer (some ⟨w.heap.size, 0, none⟩)]) ∧ w' = w.alloc (.cells #[.string s] 9) := by
  go_enter Tryz.func37, Tryz.ntmps37
  go_wp2
  go_ret
  exact ⟨rfl, rfl⟩

theorem walk_stops (n : Nat) (hn : 1 ≤ n) (Bx : Nat) (s : ByteArray) (hs : s.size ≤ 140737488355328) (w0 w : World) (hT : Tabs w0) (hb : Below w0.heap.size w0 w) (hc : w.cell? ⟨Bx, 0, none⟩ = some (.string s)) :
    SeqStopsK Fence.wide n Tryz.prog 54 #[.pointer (some ⟨Bx, 0, none⟩)] (fun x : Nat => #[mkCl s x (clN s x)]) (Kp2 w0.heap.size Bx) (fun xs => xs = clAts s 0) (fun pre => pre <+: clAts s 0) (clAts s 0).length w :=
  fun l J Jx W hW hJ _ hY h0 => walk1_in n hn l Bx s hs w0 hT J Jx hY W (fun k hk => (hb.trans (hW.mono hb.size)).block k hk) hJ ((hW.cell (p := ⟨Bx, 0, none⟩) (World.block_lt_of_cell? w _ hc)).trans hc) h0

theorem clAts_length (s : ByteArray) (i : Nat) : (clAts s i).length ≤ s.size - i := by
  induction hn : s.size - i using Nat.strongRecOn generalizing i with
  | _ n ih =>
    by_cases h : i < s.size
    · have h1 := clN_gt h
      rw [clAts_step h, List.length_cons]
      have := ih (s.size - clN s i) (by omega) (clN s i) rfl
      omega
    · rw [clAts_end (by omega)]; simp
def sumW (s : ByteArray) (xs : List Nat) : Int := (xs.map (clW s)).sum
theorem sumW_snoc (s : ByteArray) (xs : List Nat) (x : Nat) : sumW s (xs ++ [x]) = sumW s xs + clW s x := by simp [sumW]
theorem clW_bounds (s : ByteArray) (i : Nat) : 0 ≤ clW s i ∧ clW s i ≤ 2 := by unfold clW cellsF; split <;> (try split) <;> (try split) <;> (try split) <;> omega
theorem sumW_bounds (s : ByteArray) (xs : List Nat) : 0 ≤ sumW s xs ∧ sumW s xs ≤ 2 * xs.length := by
  induction xs with
  | nil => simp [sumW]
  | cons x r ih =>
    have h := clW_bounds s x
    have e : sumW s (x :: r) = clW s x + sumW s r := by simp [sumW]
    rw [e, List.length_cons]; omega

theorem two_boxes (w : World) (a b : Value) (s t : TypeId) : Boxed ((w.alloc (.cells #[a] s)).alloc (.cells #[b] t)) w.heap.size s a ∧ Boxed ((w.alloc (.cells #[a] s)).alloc (.cells #[b] t)) (w.heap.size + 1) t b := by
  constructor
  · exact (Boxed.new w s a).alloc _
  · have := Boxed.new (w.alloc (.cells #[a] s)) t b
    rwa [World.size_alloc] at this

set_option maxRecDepth 100000 in
set_option maxHeartbeats 2000000 in
theorem ClCount_any (s : ByteArray) (w : World) (hT : Tabs w) (hs : s.size ≤ 140737488355328) :
    Calls Tryz.prog 101 #[.string s] w fun e w' => e = .returned (.int .i64 (clAts s 0).length) ∧ Below w.heap.size w w' := by
  have HL : Hid ((clAts s 0).length ≤ s.size) := by have := clAts_length s 0; show _ ≤ _; omega
  refine (callsIn_wide (n := 3)).1 ?_
  refine callsIn_of_wp_marks Tryz.func101 rfl trivial ?_ rfl
  simp only [Tryz.ntmps101, List.size_toArray, List.length_cons, List.length_nil, Nat.reduceAdd, Nat.reduceSub, Array.replicate_succ, Array.replicate_zero, List.push_toArray, List.append_toArray, List.nil_append, List.cons_append]
  gi_wp2_with fail
  refine ⟨trivial, (callsIn_wide.2 (Walk_any s _)).mono ?_⟩
  rintro e w' ⟨rfl, rfl⟩
  simp only [World.size_alloc]
  gi_wp2
  obtain ⟨bN, bS⟩ := two_boxes w (.int .i64 0) (.string s) 3 9
  have hB0 : Below w.heap.size w ((w.alloc (.cells #[.int .i64 0] 3)).alloc (.cells #[.string s] 9)) := ((Below.refl _ w).alloc (Nat.le_refl _) _).alloc (by simp) _
  have hz : ((w.alloc (.cells #[.int .i64 0] 3)).alloc (.cells #[.string s] 9)).heap.size = w.heap.size + 2 := by simp
  refine wpIn_rangeFunc_ownG rfl (by omega) (gf := 54) (lb := #[.pointer (some ⟨w.heap.size + 1, 0, none⟩)]) rfl trivial (enters_of Tryz.func54 (by kernel_rfl) rfl)
    (walk_stops _ (by omega) (w.heap.size + 1) s hs w _ hT hB0 bS.cell) Kp2.trans (kp2_b (by omega) (by omega)) (Below.refl _ _) (fun _ => rfl)
    (fun pre W => Boxed W w.heap.size 3 (.int .i64 pre.length) ∧ Below w.heap.size w W)
    (fun _ _ _ => False)
    (OwnFrom.and (Own.from (boxed_own _ _ _) _) (ownFrom_below (Nat.le_refl _) (by omega)))
    (fun _ _ _ _ _ hs _ _ => hs)
    ⟨bN, hB0⟩
    (fun x => { tmps := #[.string s, undef, .int .i64 0, .pointer (some ⟨w.heap.size, 0, none⟩), .string s, .func (.func 54) #[] #[.pointer (some ⟨w.heap.size + 1, 0, none⟩)], mkCl s x (clN s x), undef, undef, undef], defers := [] }) ?assign ?body ?done ?stop
  case assign =>
    intro l x W K hK
    gi_wp2
    simpa using hK
  case body =>
    rintro l pre x W ⟨hv, hB⟩ hlt
    have hc := hv.cell
    have hf := hv.frozen
    have hw : IntKind.i64.wrap ((pre.length : Int) + 1) = (pre.length : Int) + 1 := IntWalk.i64_in _ (by have := HL.out; omega)
    generalize mkCl s x (clN s x) = mv at *
    gi_wp2
    refine ⟨(KeepsOthers.setCell _ _ _).from _, ?_, ?_, ?_⟩
    · exact ⟨(Chg.set W _ _).size, fun k hk => Below.heap_setCell W _ _ k (by show k ≠ w.heap.size; omega)⟩
    · simpa using hv.set (.int .i64 ((pre.length : Int) + 1))
    · exact (Chg.of_below hB).trans (Chg.set W ⟨w.heap.size, 0, none⟩ _) (T := fun k => k = w.heap.size) (S := fun k => k = w.heap.size) (fun x _ h => h) |>.below_le (Nat.le_refl _) (fun x hx => by rw [hx]; exact Nat.le_refl _)
  case done =>
    rintro D xs W hD rfl ⟨hv, hB⟩ hK
    have hc := hv.cell
    gi_wp2
    refine ⟨by simp, .inl ⟨_, _, rfl, run_takeDeferred hK, ?_⟩⟩
    exact ⟨_, results_tmp rfl _ _ _, rfl, hB.trans (belowK_b (w := w) (Nat.le_refl _) W D _ _ (by simp at hD; omega) hK rfl rfl)⟩
  case stop =>
    rintro D c pre W _ _ h _
    exact h.elim

theorem ownFrom_size {β : Type} (B k : Nat) : OwnFrom B (fun (_ : β) W => k ≤ W.heap.size) := fun _ _ _ _ hs hg _ => Nat.le_trans hs hg.size
theorem Four.kept {W W' : World} {row : Option Nat} {g : Nat} {a b c d : Value} (h : Four W g a b c d) (hg : W.grownBy W' row) (hr : ∀ r, row = some r → ∃ o : Obj, W.heap[r]? = some o ∧ o.isCells = false) : Four W' g a b c d :=
  ⟨Nat.lt_of_lt_of_le h.lt hg.size, cell_kept h.c0 hg hr, cell_kept h.c1 hg hr, cell_kept h.c2 hg hr, cell_kept h.c3 hg hr, (frozen_kept h.c0 hg hr).trans h.f0, (frozen_kept h.c1 hg hr).trans h.f1, (frozen_kept h.c2 hg hr).trans h.f2, (frozen_kept h.c3 hg hr).trans h.f3⟩

set_option maxRecDepth 100000 in
set_option maxHeartbeats 2000000 in
theorem ClCells_any (s : ByteArray) (w : World) (hT : Tabs w) (hs : s.size ≤ 140737488355328) :
    Calls Tryz.prog 21 #[.string s] w fun e w' => e = .returned (.int .i64 (sumW s (clAts s 0))) ∧ Below w.heap.size w w' := by
  have HL : Hid ((clAts s 0).length ≤ s.size) := by have := clAts_length s 0; show _ ≤ _; omega
  refine (callsIn_wide (n := 3)).1 ?_
  refine callsIn_of_wp_marks Tryz.func21 rfl trivial ?_ rfl
  simp only [Tryz.ntmps21, List.size_toArray, List.length_cons, List.length_nil, Nat.reduceAdd, Nat.reduceSub, Array.replicate_succ, Array.replicate_zero, List.push_toArray, List.append_toArray, List.nil_append, List.cons_append]
  gi_wp2_with fail
  refine ⟨trivial, (callsIn_wide.2 (Walk_any s _)).mono ?_⟩
  rintro e w' ⟨rfl, rfl⟩
  simp only [World.size_alloc]
  gi_wp2
  obtain ⟨bN, bS⟩ := two_boxes w (.int .i64 0) (.string s) 3 9
  have hB0 : Below w.heap.size w ((w.alloc (.cells #[.int .i64 0] 3)).alloc (.cells #[.string s] 9)) := ((Below.refl _ w).alloc (Nat.le_refl _) _).alloc (by simp) _
  have hz : ((w.alloc (.cells #[.int .i64 0] 3)).alloc (.cells #[.string s] 9)).heap.size = w.heap.size + 2 := by simp
  refine wpIn_rangeFunc_ownH rfl (by omega) (gf := 54) (lb := #[.pointer (some ⟨w.heap.size + 1, 0, none⟩)]) rfl trivial (enters_of Tryz.func54 (by kernel_rfl) rfl)
    (walk_stops _ (by omega) (w.heap.size + 1) s hs w _ hT hB0 bS.cell) Kp2.trans (kp2_b (by omega) (by omega)) (Below.refl _ _) (fun _ => rfl)
    (fun pre W => Boxed W w.heap.size 3 (.int .i64 (sumW s pre)) ∧ Below w.heap.size w W ∧ w.heap.size + 2 ≤ W.heap.size)
    (fun _ _ _ => False)
    (OwnFrom.and (Own.from (boxed_own _ _ _) _) (OwnFrom.and (ownFrom_below (Nat.le_refl _) (by omega)) (ownFrom_size _ _)))
    (fun _ _ _ _ _ hs _ _ => hs)
    ⟨bN, hB0, by omega⟩
    (fun x a' W => ∃ g, w.heap.size + 2 ≤ g ∧ Four W g (.int .i64 x) (.int .i64 (clN s x)) (.int .i64 (clC s x)) (.int .i64 (clW s x)) ∧
      a' = { tmps := #[.string s, undef, .int .i64 0, .pointer (some ⟨w.heap.size, 0, none⟩), .pointer (some ⟨g, 0, none⟩), .string s, .func (.func 54) #[] #[.pointer (some ⟨w.heap.size + 1, 0, none⟩)], mkCl s x (clN s x), undef, undef, undef, undef, undef], defers := [] })
    (fun x a' _ W W' row hs hg hr => by obtain ⟨g, hgl, hF, he⟩ := hs; exact ⟨g, hgl, hF.kept hg (fun r e => (hr r e).2), he⟩) ?assign ?body ?done ?stop
  case assign =>
    intro l pre x W K ⟨hv, hB, hBs⟩ hK
    have hm : mkCl s x (clN s x) = .agg #[.int .i64 x, .int .i64 (clN s x), .int .i64 (clC s x), .int .i64 (clW s x)] := rfl
    rw [hm] at hK ⊢
    gi_wp2
    refine hK _ _ ((KeepsOthers.alloc _ _).from _) (Kp2.of_below ((Below.refl _ _).alloc (Nat.le_refl _) _) (by omega) (by omega)) ⟨hv.alloc _, hB.alloc hB.size _, by simp; omega⟩ ⟨W.heap.size, hBs, Four.new _ _ _ _ _ _, ?_⟩
    simp
  case body =>
    rintro l pre x a' W hl hr ⟨hv, hB, hBs⟩ ⟨g, hgl, hF, rfl⟩ hlt
    have hc := hv.cell
    have hf := hv.frozen
    have h3 := hF.c3
    have b1 := sumW_bounds s pre
    have b2 := clW_bounds s x
    have hpl : pre.length ≤ s.size := by have := HL.out; omega
    have e1 := sumW_snoc s pre x
    have hne : g ≠ w.heap.size := by omega
    have hne2 : g ≠ w.heap.size + 1 := by omega
    have HB := Lib.hid hB
    clear hB hF hr hlt
    generalize mkCl s x (clN s x) = mv at *
    generalize sumW s pre = A at *
    generalize clW s x = C at *
    have hw : IntKind.i64.wrap (A + C) = A + C := IntWalk.i64_in _ (by omega)
    have E1 := Lib.hid e1
    clear e1
    gi_wp2
    refine ⟨(KeepsOthers.setCell _ _ _).from _, ?_, ?_, ?_, ?_⟩
    · exact ⟨(Chg.set W _ _).size, fun k hk => Below.heap_setCell W _ _ k (by show k ≠ w.heap.size; omega)⟩
    · rw [E1.out]; exact hv.set (.int .i64 (A + C))
    · exact (Chg.of_below HB.out).trans (Chg.set W ⟨w.heap.size, 0, none⟩ _) (T := fun k => k = w.heap.size) (S := fun k => k = w.heap.size) (fun x _ h => h) |>.below_le (Nat.le_refl _) (fun x hx => by rw [hx]; exact Nat.le_refl _)
    · exact Nat.le_trans hBs (Chg.set W _ _).size
  case done =>
    rintro D xs W hD rfl ⟨hv, hB, hBs⟩ hK
    have hc := hv.cell
    gi_wp2
    refine ⟨by simp, .inl ⟨_, _, rfl, run_takeDeferred hK, ?_⟩⟩
    exact ⟨_, results_tmp rfl _ _ _, rfl, hB.trans (belowK_b (w := w) (Nat.le_refl _) W D _ _ (by simp at hD; omega) hK rfl rfl)⟩
  case stop =>
    rintro D c pre W _ _ h _
    exact h.elim
end Go.Proofs.YtgmpohdkignadaaGreatDoor.Ut
/-
  metric.head, tail, Measure. Condition: the two tables of unicode/utf8 lie as laid.
-/
namespace Go.Proofs.YtgmpohdkignadaaGreatDoor.Ut
open Go.RowKit Go.Proofs.YtgmpohdkignadaaGreatDoor.Reg
set_option linter.unusedVariables false
set_option linter.unusedSimpArgs false

/-- A summary. -/
structure Sm where
  bytes : Int
  units : Int
  clusters : Int
  cells : Int
  newlines : Int
  head : ByteArray
  tail : ByteArray
def Sm.val (m : Sm) : Value := .agg #[.int .i64 m.bytes, .int .i64 m.units, .int .i64 m.clusters, .int .i64 m.cells, .int .i64 m.newlines, .string m.head, .string m.tail]
def headF (s : ByteArray) : ByteArray := s.extract 0 (min s.size 16)
def tailF (s : ByteArray) : ByteArray := s.extract (s.size - min s.size 16) s.size
def nlF (s : ByteArray) : Nat := Lib.countByte s.data.toList 10
def measF (s : ByteArray) : Sm := ⟨s.size, Lib.runeCount s, (clAts s 0).length, sumW s (clAts s 0), nlF s, headF s, tailF s⟩

theorem UnitCount_any (s : ByteArray) (w : World) (hs : s.size ≤ 140737488355328) : Calls Tryz.prog 100 #[.string s] w fun e w' => e = .returned (.int .i64 (Lib.runeCount s)) ∧ Below w.heap.size w w' := by
  go_enter Tryz.func100, Tryz.ntmps100
  go_wp2_with fail
  refine (Tryz.utf8_RuneCountInString s w (by omega)).mono ?_
  rintro e w1 ⟨rfl, pos, rfl⟩
  have hb : Below w.heap.size w (w.iter s pos) := (Below.refl _ _).alloc (Nat.le_refl _) _
  generalize w.iter s pos = w1 at *
  go_wp2
  go_ret
  exact ⟨rfl, hb⟩

theorem head_any (s : ByteArray) (w : World) : Calls Tryz.prog 103 #[.string s] w fun e w' => e = .returned (.string (headF s)) ∧ w' = w := by
  have h1 : min (s.size : Int) 16 = ((min s.size 16 : Nat) : Int) := by omega
  have h2 : min s.size 16 ≤ s.size := Nat.min_le_left _ _
  unfold headF
  generalize min s.size 16 = k at *
  have h3 : (k : Int) ≤ (s.size : Int) := by omega
  go_enter Tryz.func103, Tryz.ntmps103
  go_wp2
  go_ret
  exact ⟨rfl, rfl⟩
theorem tail_any (s : ByteArray) (w : World) (hs : s.size ≤ 140737488355328) : Calls Tryz.prog 104 #[.string s] w fun e w' => e = .returned (.string (tailF s)) ∧ w' = w := by
  have h1 : min (s.size : Int) 16 = ((min s.size 16 : Nat) : Int) := by omega
  have h2 : min s.size 16 ≤ s.size := Nat.min_le_left _ _
  unfold tailF
  generalize min s.size 16 = k at *
  have h3 : (k : Int) ≤ (s.size : Int) := by omega
  have h4 : IntKind.i64.wrap ((s.size : Int) - (k : Int)) = ((s.size - k : Nat) : Int) := by rw [IntWalk.i64_in _ (by omega)]; omega
  have h5 : (s.size : Int) - (k : Int) = ((s.size - k : Nat) : Int) := by omega
  have h6 : s.size - k ≤ s.size := by omega
  generalize s.size - k = j at *
  have h7 : (j : Int) ≤ (s.size : Int) := by omega
  go_enter Tryz.func104, Tryz.ntmps104
  go_wp2
  go_ret
  exact ⟨rfl, rfl⟩

/-- The cells of block g are vs, and may be written. -/
def Lies (W : World) (g : Nat) (vs : List Value) : Prop := g < W.heap.size ∧ ∀ j v, vs[j]? = some v → W.cell? ⟨g, j, none⟩ = some v ∧ W.frozen? ⟨g, j, none⟩ = false
theorem Lies.below {W W' : World} {g : Nat} {vs : List Value} (h : Lies W g vs) (hb : Below W.heap.size W W') : Lies W' g vs :=
  ⟨Nat.lt_of_lt_of_le h.1 hb.size, fun j v hj => ⟨(hb.cell (p := ⟨g, j, none⟩) h.1).trans (h.2 j v hj).1, (hb.frozen (p := ⟨g, j, none⟩) h.1).trans (h.2 j v hj).2⟩⟩
theorem Lies.chg {S : Nat → Prop} {W W' : World} {g : Nat} {vs : List Value} (h : Lies W g vs) (hb : Chg S W W') (hS : ¬ S g) : Lies W' g vs :=
  ⟨Nat.lt_of_lt_of_le h.1 hb.size, fun j v hj => ⟨(hb.cell (p := ⟨g, j, none⟩) h.1 hS).trans (h.2 j v hj).1, (hb.frozen (p := ⟨g, j, none⟩) h.1 hS).trans (h.2 j v hj).2⟩⟩
theorem Lies.new (W : World) (vs : List Value) (t : TypeId) : Lies (W.alloc (.cells vs.toArray t)) W.heap.size vs := by
  refine ⟨by simp, fun j v hj => ⟨?_, by simp⟩⟩
  have h : (W.alloc (.cells vs.toArray t)).cell? ⟨W.heap.size, j, none⟩ = vs.toArray[j]? := by
    generalize vs.toArray = cs
    simp
  rw [h]; simpa using hj
theorem Lies.there {W : World} {g : Nat} {vs : List Value} (h : Lies W g vs) : W.there g 0 vs.length := by
  intro j hj
  have := h.2 j vs[j] (List.getElem?_eq_getElem hj)
  simp [this]
theorem Lies.range {W : World} {g : Nat} {vs : List Value} (h : Lies W g vs) : W.rangeAt g 0 vs := fun j v hj => by simpa using (h.2 j v hj).1
theorem frozen_sets (g : Nat) : ∀ (vs : List Value) (o : Nat) (W : World) (q : Addr), (W.setCells g o vs).frozen? q = W.frozen? q
  | [], _, _, _ => rfl
  | v :: r, o, W, q => by
    have := frozen_sets g r (o + 1) (W.setCell ⟨g, o, none⟩ v) q
    exact this.trans (by simp)
theorem sets_chg (g : Nat) : ∀ (vs : List Value) (o : Nat) (W : World), Chg (fun k => k = g) W (W.setCells g o vs)
  | [], _, W => Chg.refl _ _
  | v :: r, o, W => (Chg.set W ⟨g, o, none⟩ v).trans (sets_chg g r (o + 1) _) (fun _ _ h => h)
theorem Lies.stored {W : World} {g : Nat} {vs : List Value} (h : Lies W g vs) (us : List Value) (hl : us.length = vs.length) : Lies (W.setCells g 0 us) g us := by
  refine ⟨Nat.lt_of_lt_of_le h.1 (sets_chg g us 0 W).size, fun j v hj => ⟨?_, ?_⟩⟩
  · have := World.rangeAt_setCells_same W g 0 us (by rw [hl]; exact h.there) j v hj
    simpa using this
  · have hj' : j < vs.length := by rw [← hl]; exact (List.getElem?_eq_some_iff.1 hj).1
    rw [frozen_sets]; exact (h.2 j _ (List.getElem?_eq_getElem hj')).2
theorem chg_mine {w W W' : World} {g : Nat} (h : Below w.heap.size w W) (hc : Chg (fun k => k = g) W W') (hg : w.heap.size ≤ g) : Below w.heap.size w W' :=
  (Chg.of_below h).trans hc (T := fun k => k = g) (S := fun k => k = g) (fun x _ h => h) |>.below_le (Nat.le_refl _) (fun x hx => by rw [hx]; exact hg)

def zero7 : List Value := [.int .i64 0, .int .i64 0, .int .i64 0, .int .i64 0, .int .i64 0, .string ⟨#[]⟩, .string ⟨#[]⟩]

set_option maxRecDepth 100000 in
set_option maxHeartbeats 1000000 in
theorem Measure_any (s : ByteArray) (w : World) (hT : Tabs w) (hs : s.size ≤ 140737488355328) : Calls Tryz.prog 97 #[.string s] w fun e w' => e = .returned (measF s).val ∧ Below w.heap.size w w' := by
  have HT := Lib.hid hT
  unfold measF Sm.val
  dsimp only
  clear hT
  go_enter Tryz.func97, Tryz.ntmps97
  go_wp2_with fail
  have k1 : Lies (w.alloc (.cells zero7.toArray 115)) w.heap.size zero7 := Lies.new _ _ _
  have b1 : Below w.heap.size w (w.alloc (.cells zero7.toArray 115)) := (Below.refl _ _).alloc (Nat.le_refl _) _
  change Calls _ _ _ (w.alloc (.cells zero7.toArray 115)) _
  generalize w.alloc (.cells zero7.toArray 115) = w1 at *
  refine (UnitCount_any s w1 hs).mono ?_
  rintro e w2 ⟨rfl, hb⟩
  have k2 := Lib.hid (k1.below hb)
  have b2 := Lib.hid (b1.trans (hb.mono b1.size))
  clear hb k1 b1
  go_wp2_with fail
  refine (ClCount_any s w2 (tabs_below HT.out b2.out) hs).mono ?_
  rintro e w3 ⟨rfl, hb⟩
  have k3 := Lib.hid (k2.out.below hb)
  have b3 := Lib.hid (b2.out.trans (hb.mono b2.out.size))
  clear hb k2 b2
  go_wp2_with fail
  refine (ClCells_any s w3 (tabs_below HT.out b3.out) hs).mono ?_
  rintro e w4 ⟨rfl, hb⟩
  have k4 := Lib.hid (k3.out.below hb)
  have b4 := Lib.hid (b3.out.trans (hb.mono b3.out.size))
  clear hb k3 b3
  go_wp2_with fail
  refine (Tryz.strings_Count_one s 10 w4).mono ?_
  rintro e w5 ⟨rfl, rfl⟩
  have hnl : (Lib.countByte s.data.toList 10 : Int) = nlF s := rfl
  rw [hnl]
  clear hnl
  go_wp2_with fail
  refine (head_any s w5).mono ?_
  rintro e w6 ⟨rfl, rfl⟩
  go_wp2_with fail
  refine (tail_any s w6 hs).mono ?_
  rintro e w7 ⟨rfl, rfl⟩
  obtain ⟨-, K⟩ := k4.out
  obtain ⟨c0, f0⟩ := K 0 _ rfl
  obtain ⟨c1, f1⟩ := K 1 _ rfl
  obtain ⟨c2, f2⟩ := K 2 _ rfl
  obtain ⟨c3, f3⟩ := K 3 _ rfl
  obtain ⟨c4, f4⟩ := K 4 _ rfl
  obtain ⟨c5, f5⟩ := K 5 _ rfl
  obtain ⟨c6, f6⟩ := K 6 _ rfl
  clear K
  have L := (Lies.stored k4.out [.int .i64 s.size, .int .i64 (Lib.runeCount s), .int .i64 (clAts s 0).length, .int .i64 (sumW s (clAts s 0)), .int .i64 (nlF s), .string (headF s), .string (tailF s)] rfl).2
  have HB := Lib.hid (chg_mine b4.out (sets_chg w.heap.size [.int .i64 s.size, .int .i64 (Lib.runeCount s), .int .i64 (clAts s 0).length, .int .i64 (sumW s (clAts s 0)), .int .i64 (nlF s), .string (headF s), .string (tailF s)] 0 w7) (Nat.le_refl _))
  have HL := Lib.hid L
  clear L
  go_wp2
  have j0 := (HL.out 0 _ rfl).1
  have j1 := (HL.out 1 _ rfl).1
  have j2 := (HL.out 2 _ rfl).1
  have j3 := (HL.out 3 _ rfl).1
  have j4 := (HL.out 4 _ rfl).1
  have j5 := (HL.out 5 _ rfl).1
  have j6 := (HL.out 6 _ rfl).1
  simp only [World.setCells] at j0 j1 j2 j3 j4 j5 j6
  refine bodyPost_ret (v := .agg #[.int .i64 s.size, .int .i64 (Lib.runeCount s), .int .i64 (clAts s 0).length, .int .i64 (sumW s (clAts s 0)), .int .i64 (nlF s), .string (headF s), .string (tailF s)]) (by simp [results, Tryz.results97, go_sem, j0, j1, j2, j3, j4, j5, j6]) rfl ⟨rfl, HB.out⟩
end Go.Proofs.YtgmpohdkignadaaGreatDoor.Ut
/-
  Package gap: what a world holds of a buffer; held, Len. No condition.
-/
namespace Go.Proofs.YtgmpohdkignadaaGreatDoor.Ut
open Go.RowKit Go.Proofs.YtgmpohdkignadaaGreatDoor.Reg
set_option linter.unusedVariables false
set_option linter.unusedSimpArgs false

/-- A block of a type that holds these cells. -/
def Blk (W : World) (b : Nat) (T : TypeId) (vs : List Value) : Prop := W.heap[b]? = some (.cells vs.toArray T (0, 0))
theorem Blk.lies {W : World} {b : Nat} {T : TypeId} {vs : List Value} (h : Blk W b T vs) : Lies W b vs := by
  unfold Blk at h
  refine ⟨(Array.getElem?_eq_some_iff.1 h).1, fun j v hj => ⟨?_, by simp [World.frozen?, h]⟩⟩
  simp only [World.cell?, h]
  simpa using hj
theorem Blk.below {W W' : World} {b : Nat} {T : TypeId} {vs : List Value} (h : Blk W b T vs) (hb : Below W.heap.size W W') : Blk W' b T vs := (hb.block b h.lies.1).trans h
theorem Blk.new (W : World) (vs : List Value) (T : TypeId) : Blk (W.alloc (.cells vs.toArray T)) W.heap.size T vs := World.alloc_heap_new _ _
theorem Blk.same {W : World} {k : Nat} {T T' : TypeId} {vs us : List Value} (h : Blk W k T vs) (h' : Blk W k T' us) : T = T' := by
  unfold Blk at h h'
  rw [h] at h'
  simp at h'
  exact h'.2
theorem Blk.chg {S : Nat → Prop} {W W' : World} {b : Nat} {T : TypeId} {vs : List Value} (h : Blk W b T vs) (hb : Chg S W W') (hS : ¬ S b) : Blk W' b T vs := (hb.block b h.lies.1 hS).trans h
theorem Blk.set {W : World} {b : Nat} {T : TypeId} {vs : List Value} (h : Blk W b T vs) (k : Nat) (v : Value) : Blk (W.setCell ⟨b, k, none⟩ v) b T (vs.set k v) := by
  unfold Blk at *
  simp [World.setCell, Array.getElem?_modify, h]
/-- A buffer in block b, its array in block g, of bytes r; the gap from fr to to. -/
structure Gap (W : World) (b g : Nat) (r : ByteArray) (fr tq lim : Nat) : Prop where
  box : Blk W b 101 [.slice (some ⟨g, 0, none⟩) r.size r.size, .int .i64 fr, .int .i64 tq, .int .i64 lim]
  row : W.heap[g]? = some (.cells (Lib.byteCells r.data.toList).toArray 5 (0, 0))
  ne : b ≠ g
  h1 : fr ≤ tq
  h2 : tq ≤ r.size
  h64 : 64 ≤ r.size
  hm : r.size ≤ 4294967296
theorem Gap.lt {W : World} {b g : Nat} {r : ByteArray} {fr tq lim : Nat} (h : Gap W b g r fr tq lim) : g < W.heap.size := (Array.getElem?_eq_some_iff.1 h.row).1
theorem Gap.below {W W' : World} {b g : Nat} {r : ByteArray} {fr tq lim : Nat} (h : Gap W b g r fr tq lim) (hb : Below W.heap.size W W') : Gap W' b g r fr tq lim :=
  ⟨h.box.below hb, (hb.block g h.lt).trans h.row, h.ne, h.h1, h.h2, h.h64, h.hm⟩
theorem Gap.chg {S : Nat → Prop} {W W' : World} {b g : Nat} {r : ByteArray} {fr tq lim : Nat} (h : Gap W b g r fr tq lim) (hb : Chg S W W') (h1 : ¬ S b) (h2 : ¬ S g) : Gap W' b g r fr tq lim :=
  ⟨h.box.chg hb h1, (hb.block g h.lt h2).trans h.row, h.ne, h.h1, h.h2, h.h64, h.hm⟩
/-- The text. -/
def gtext (r : ByteArray) (fr tq : Nat) : ByteArray := r.extract 0 fr ++ r.extract tq r.size
theorem gtext_size {r : ByteArray} {fr tq : Nat} (h1 : fr ≤ tq) (h2 : tq ≤ r.size) : (gtext r fr tq).size = r.size - (tq - fr) := by
  unfold gtext; simp [ByteArray.size_append, ByteArray.size_extract]; omega

theorem Gap.bytes {W : World} {b g : Nat} {r : ByteArray} {fr tq lim : Nat} (h : Gap W b g r fr tq lim) : Lib.Bytes W g 0 r := by
  intro i hi
  have hlt : i < (Lib.byteCells r.data.toList).length := by rw [Lib.byteCells_length, ← Lib.size_eq]; exact hi
  simp only [World.cell?, h.row]
  simp [Lib.byteCells, hi]
  rfl

theorem held_any (n : Int) (w : World) : Calls Tryz.prog 51 #[.int .i64 n] w fun e w' => e = .returned (.int .i64 (min (max n 0) 1073741824)) ∧ w' = w := by
  go_enter Tryz.func51, Tryz.ntmps51
  go_wp2
  go_ret
  exact ⟨rfl, rfl⟩

theorem GapLen_any (b g : Nat) (r : ByteArray) (fr tq lim : Nat) (w : World) (h : Gap w b g r fr tq lim) : Calls Tryz.prog 141 #[.pointer (some ⟨b, 0, none⟩)] w fun e w' => e = .returned (.int .i64 ((gtext r fr tq).size)) ∧ Below w.heap.size w w' := by
  have hs := gtext_size h.h1 h.h2
  obtain ⟨c0, f0⟩ := h.box.lies.2 0 _ rfl
  obtain ⟨c1, f1⟩ := h.box.lies.2 1 _ rfl
  obtain ⟨c2, f2⟩ := h.box.lies.2 2 _ rfl
  have h1 := h.h1
  have h2 := h.h2
  have hm := h.hm
  have e1 : IntKind.i64.wrap ((tq : Int) - (fr : Int)) = (tq : Int) - (fr : Int) := IntWalk.i64_in _ (by omega)
  have e2 : IntKind.i64.wrap ((r.size : Int) - ((tq : Int) - (fr : Int))) = (r.size : Int) - ((tq : Int) - (fr : Int)) := IntWalk.i64_in _ (by omega)
  have e3 : (r.size : Int) - ((tq : Int) - (fr : Int)) = ((gtext r fr tq).size : Int) := by omega
  generalize (gtext r fr tq).size = k at *
  clear h
  go_enter Tryz.func141, Tryz.ntmps141
  go_wp2
  go_quiet (fail)
  go_wp2
  go_ret
  exact ⟨by simp; omega, Drawn.below _⟩

/-- Where a piece of a row from l on begins. -/
def offs (n l : Nat) : Nat := if n = l then 0 else l
theorem bytes_heap {W W' : World} {g : Nat} {r : ByteArray} (h : Lib.Bytes W g 0 r) (hh : W'.heap = W.heap) : Lib.Bytes W' g 0 r := fun i hi => by
  have := h i hi
  simpa [World.cell?, hh] using this
set_option maxRecDepth 100000 in
theorem conv_at (g n l k c : Nat) (r : ByteArray) (hl : l ≤ k) (hn : n = r.size) (hk : k ≤ n) (W : World) (hb : Lib.Bytes W g 0 r) :
    (Go.convert 99 9 (.slice (some ⟨g, offs n l, none⟩) (k - l) c)).run Tryz.prog W = .ok (.string (r.extract l k)) W := by
  unfold offs
  by_cases h0 : n = l
  · obtain rfl : k = n := by omega
    subst h0
    rw [if_pos rfl, Nat.sub_self]
    have := Lib.run_convert_window (P := Tryz.prog) W 99 5 9 Tryz.underlying99 Tryz.underlying5 Tryz.underlying9 g 0 r hb 0 0 c (by omega)
    simp only [Nat.add_zero] at this
    rw [this]
    congr 2
    apply ByteArray.ext
    apply Array.ext <;> simp <;> omega
  · rw [if_neg h0]
    have := Lib.run_convert_window (P := Tryz.prog) W 99 5 9 Tryz.underlying99 Tryz.underlying5 Tryz.underlying9 g 0 r hb l (k - l) c (by omega)
    rw [Nat.zero_add, show l + (k - l) = k by omega] at this
    exact this

set_option maxRecDepth 100000 in
theorem Halves_any (b g : Nat) (r : ByteArray) (fr tq lim : Nat) (w : World) (h : Gap w b g r fr tq lim) : Calls Tryz.prog 53 #[.pointer (some ⟨b, 0, none⟩)] w fun e w' => e = .returned (.tuple #[.string (r.extract 0 fr), .string (r.extract tq r.size)]) ∧ Below w.heap.size w w' := by
  obtain ⟨c0, f0⟩ := h.box.lies.2 0 _ rfl
  obtain ⟨c1, f1⟩ := h.box.lies.2 1 _ rfl
  obtain ⟨c2, f2⟩ := h.box.lies.2 2 _ rfl
  have h1 := h.h1
  have h2 := h.h2
  have hm := h.hm
  have hB := h.bytes
  have i1 : (fr : Int) ≤ (r.size : Int) := by omega
  have i2 : (tq : Int) ≤ (r.size : Int) := by omega
  have v1 := fun c W hb => conv_at g r.size 0 fr c r (by omega) rfl (by omega) W hb
  have v2 := fun c W hb => conv_at g r.size tq r.size c r (by omega) rfl (by omega) W hb
  have o0 : offs r.size 0 = 0 := by unfold offs; split <;> rfl
  rw [o0] at v1
  have cv1 : ∀ (c q : Nat), (Go.convert 99 9 (.slice (some ⟨g, 0, none⟩) fr c)).run Tryz.prog (w.drewN q) = .ok (.string (r.extract 0 fr)) (w.drewN q) := fun c q => by simpa using v1 c _ (hB.drewN q)
  have cv1' : ∀ (c : Nat), (Go.convert 99 9 (.slice (some ⟨g, 0, none⟩) fr c)).run Tryz.prog w = .ok (.string (r.extract 0 fr)) w := fun c => by simpa using v1 c _ hB
  have cv2 : ∀ (c q : Nat), (Go.convert 99 9 (.slice (some ⟨g, offs r.size tq, none⟩) (r.size - tq) c)).run Tryz.prog (w.drewN q) = .ok (.string (r.extract tq r.size)) (w.drewN q) := fun c q => v2 c _ (hB.drewN q)
  have cv2' : ∀ (c : Nat), (Go.convert 99 9 (.slice (some ⟨g, offs r.size tq, none⟩) (r.size - tq) c)).run Tryz.prog w = .ok (.string (r.extract tq r.size)) w := fun c => v2 c _ hB
  clear v1 v2 o0
  have HB := Lib.hid hB
  clear h hB
  by_cases he : r.size = tq
  · subst he
    have e : offs r.size r.size = 0 := by unfold offs; rw [if_pos rfl]
    rw [e, Nat.sub_self] at cv2 cv2'
    go_enter Tryz.func53, Tryz.ntmps53
    go_wp2
    go_quiet (fail)
    go_wp2
    refine bodyPost_ret (v := .tuple #[.string (r.extract 0 fr), .string (r.extract r.size r.size)]) (by simp [results, Tryz.results53, go_sem]) rfl ⟨rfl, Drawn.below _⟩
  · have e : offs r.size tq = tq := by unfold offs; rw [if_neg he]
    rw [e] at cv2 cv2'
    go_enter Tryz.func53, Tryz.ntmps53
    go_wp2
    go_quiet (fail)
    go_wp2
    refine bodyPost_ret (v := .tuple #[.string (r.extract 0 fr), .string (r.extract tq r.size)]) (by simp [results, Tryz.results53, go_sem]) rfl ⟨rfl, Drawn.below _⟩

set_option maxRecDepth 100000 in
theorem GapText_any (b g : Nat) (r : ByteArray) (fr tq lim : Nat) (w : World) (h : Gap w b g r fr tq lim) : Calls Tryz.prog 36 #[.pointer (some ⟨b, 0, none⟩)] w fun e w' => e = .returned (.string (gtext r fr tq)) ∧ Below w.heap.size w w' := by
  have HH := Lib.hid (Halves_any b g r fr tq lim w h)
  have hz : ¬ 9223372036854775807 < (r.extract 0 fr).size + (r.extract tq r.size).size := by
    have := h.h1; have := h.h2; have := h.hm
    simp [ByteArray.size_extract]; omega
  clear h
  unfold gtext
  generalize r.extract 0 fr = x at *
  generalize r.extract tq r.size = y at *
  go_enter Tryz.func36, Tryz.ntmps36
  go_wp2_with fail
  refine HH.out.mono ?_
  rintro e w1 ⟨rfl, hb⟩
  have HB := Lib.hid hb
  clear hb
  go_wp2
  go_ret
  exact ⟨rfl, HB.out⟩
end Go.Proofs.YtgmpohdkignadaaGreatDoor.Ut
/-
  Package gap: piece, Slice, Measure. Condition (Measure): the two tables of unicode/utf8 lie as laid.
-/
namespace Go.Proofs.YtgmpohdkignadaaGreatDoor.Ut
open Go.RowKit Go.Proofs.YtgmpohdkignadaaGreatDoor.Reg
set_option linter.unusedVariables false
set_option linter.unusedSimpArgs false

theorem ext_of_list {a b : ByteArray} (h : a.data.toList = b.data.toList) : a = b := by
  apply ByteArray.ext; exact Array.toList_inj.1 h
theorem extract_list (s : ByteArray) (a b : Nat) : (s.extract a b).data.toList = (s.data.toList.drop a).take (b - a) := Lib.extract_data s a b
theorem gtext_list (r : ByteArray) (fr tq : Nat) (h : tq ≤ r.size) : (gtext r fr tq).data.toList = r.data.toList.take fr ++ r.data.toList.drop tq := by
  unfold gtext
  rw [ByteArray.data_append, Array.toList_append, extract_list, extract_list]
  simp only [List.drop_zero, Nat.sub_zero]
  rw [List.take_of_length_le (l := List.drop tq r.data.toList)]
  rw [List.length_drop, ← Lib.size_eq]
  exact Nat.le_refl _
theorem piece_low {r : ByteArray} {fr tq i j : Nat} (h2 : tq ≤ r.size) (h1 : fr ≤ tq) (hj : j ≤ fr) (hij : i ≤ j) : (gtext r fr tq).extract i j = r.extract i j := by
  apply ext_of_list
  rw [extract_list, extract_list, gtext_list _ _ _ h2]
  have hl : (r.data.toList.take fr).length = fr := by rw [List.length_take, ← Lib.size_eq]; omega
  rw [List.drop_append_of_le_length (by omega), List.take_append_of_le_length (by rw [List.length_drop, hl]; omega), List.drop_take, List.take_take]
  congr 1; omega
theorem piece_high {r : ByteArray} {fr tq i j : Nat} (h2 : tq ≤ r.size) (h1 : fr ≤ tq) (hi : fr ≤ i) (hij : i ≤ j) (hj : j ≤ (gtext r fr tq).size) : (gtext r fr tq).extract i j = r.extract (i + (tq - fr)) (j + (tq - fr)) := by
  apply ext_of_list
  rw [extract_list, extract_list, gtext_list _ _ _ h2]
  have hl : (r.data.toList.take fr).length = fr := by rw [List.length_take, ← Lib.size_eq]; omega
  rw [List.drop_append, hl, List.drop_eq_nil_of_le (by omega), List.nil_append, List.drop_drop]
  congr 1
  · omega
  · congr 1; omega
theorem piece_mid {r : ByteArray} {fr tq i j : Nat} (h2 : tq ≤ r.size) (h1 : fr ≤ tq) (hi : i ≤ fr) (hj0 : fr ≤ j) (hj : j ≤ (gtext r fr tq).size) : (gtext r fr tq).extract i j = r.extract i fr ++ r.extract tq (j + (tq - fr)) := by
  apply ext_of_list
  rw [ByteArray.data_append, Array.toList_append, extract_list, extract_list, extract_list, gtext_list _ _ _ h2]
  have hl : (r.data.toList.take fr).length = fr := by rw [List.length_take, ← Lib.size_eq]; omega
  rw [List.drop_append_of_le_length (by omega), List.take_append, List.length_drop, hl, List.drop_take, List.take_take]
  congr 1
  · congr 1; omega
  · congr 1; omega

theorem drewN_drewN (w : World) (a b : Nat) : (w.drewN a).drewN b = w.drewN (a + b) := by simp [World.drewN, Nat.add_assoc]
theorem conv_at' {g : Nat} {r : ByteArray} {W : World} (hb : Lib.Bytes W g 0 r) (l k n : Nat) (hl : l ≤ k) (hn : n = r.size) (hk : k ≤ n) : ∀ (c q : Nat), (Go.convert 99 9 (.slice (some ⟨g, offs n l, none⟩) (k - l) c)).run Tryz.prog (W.drewN q) = .ok (.string (r.extract l k)) (W.drewN q) := fun c q =>
  conv_at g n l k c r hl hn hk _ (hb.drewN q)
theorem conv_at0 {g : Nat} {r : ByteArray} {W : World} (hb : Lib.Bytes W g 0 r) (l k n : Nat) (hl : l ≤ k) (hn : n = r.size) (hk : k ≤ n) : ∀ (c : Nat), (Go.convert 99 9 (.slice (some ⟨g, offs n l, none⟩) (k - l) c)).run Tryz.prog W = .ok (.string (r.extract l k)) W := fun c =>
  conv_at g n l k c r hl hn hk _ hb

set_option maxRecDepth 100000 in
set_option maxHeartbeats 1000000 in
theorem piece_any (b g : Nat) (r : ByteArray) (fr tq lim : Nat) (i j : Nat) (w : World) (h : Gap w b g r fr tq lim) (hij : i ≤ j) (hj : j ≤ (gtext r fr tq).size) : Calls Tryz.prog 146 #[.pointer (some ⟨b, 0, none⟩), .int .i64 i, .int .i64 j] w fun e w' => e = .returned (.string ((gtext r fr tq).extract i j)) ∧ Below w.heap.size w w' := by
  obtain ⟨R, hR⟩ : ∃ R, (gtext r fr tq).extract i j = R := ⟨_, rfl⟩
  rw [hR]
  obtain ⟨c0, f0⟩ := h.box.lies.2 0 _ rfl
  obtain ⟨c1, f1⟩ := h.box.lies.2 1 _ rfl
  obtain ⟨c2, f2⟩ := h.box.lies.2 2 _ rfl
  have h1 := h.h1
  have h2 := h.h2
  have hm := h.hm
  have hB := h.bytes
  have hsz := gtext_size h1 h2
  have eg : (tq : Int) - (fr : Int) = ((tq - fr : Nat) : Int) := by omega
  have ew : IntKind.i64.wrap ((tq : Int) - (fr : Int)) = (tq : Int) - (fr : Int) := IntWalk.i64_in _ (by omega)
  have ew2 : IntKind.i64.wrap ((tq - fr : Nat) : Int) = ((tq - fr : Nat) : Int) := IntWalk.i64_in _ (by omega)
  have ei : IntKind.i64.wrap ((i : Int) + ((tq - fr : Nat) : Int)) = (i : Int) + ((tq - fr : Nat) : Int) := IntWalk.i64_in _ (by omega)
  have ej : IntKind.i64.wrap ((j : Int) + ((tq - fr : Nat) : Int)) = (j : Int) + ((tq - fr : Nat) : Int) := IntWalk.i64_in _ (by omega)
  have ei2 : (i : Int) + ((tq - fr : Nat) : Int) = ((i + (tq - fr) : Nat) : Int) := by omega
  have ej2 : (j : Int) + ((tq - fr : Nat) : Int) = ((j + (tq - fr) : Nat) : Int) := by omega
  have hi0 : (0 : Int) ≤ (i : Int) := by omega
  have hij' : (i : Int) ≤ (j : Int) := by omega
  clear h
  by_cases hlo : j ≤ fr
  · rw [piece_low h2 h1 hlo hij] at hR
    have cv := conv_at' hB i j r.size hij rfl (by omega)
    have cv0 := conv_at0 hB i j r.size hij rfl (by omega)
    rw [hR] at cv cv0
    have hlo' : (j : Int) ≤ (fr : Int) := by omega
    have hjr : (j : Int) ≤ (r.size : Int) := by omega
    clear hB hR ei ej ei2 ej2 hsz
    by_cases he : r.size = i
    · have hji : j - i = 0 := by omega
      rw [hji] at cv cv0
      have o : offs r.size i = 0 := by unfold offs; rw [if_pos he]
      rw [o] at cv cv0
      obtain rfl : j = i := by omega
      subst he
      clear hji o
      go_enter Tryz.func146, Tryz.ntmps146
      go_wp2
      go_quiet (fail)
      go_wp2
      go_ret
      exact ⟨rfl, Drawn.below _⟩
    · have o : offs r.size i = i := by unfold offs; rw [if_neg he]
      rw [o] at cv cv0
      clear o
      go_enter Tryz.func146, Tryz.ntmps146
      go_wp2
      go_quiet (fail)
      go_wp2
      go_ret
      exact ⟨rfl, Drawn.below _⟩
  · have hlo' : ¬ (j : Int) ≤ (fr : Int) := by omega
    by_cases hhi : fr ≤ i
    · rw [piece_high h2 h1 hhi hij hj] at hR
      have hsub : j + (tq - fr) - (i + (tq - fr)) = j - i := by omega
      have cv := conv_at' hB (i + (tq - fr)) (j + (tq - fr)) r.size (by omega) rfl (by omega)
      have cv0 := conv_at0 hB (i + (tq - fr)) (j + (tq - fr)) r.size (by omega) rfl (by omega)
      rw [hR, hsub] at cv cv0
      have hhi' : (fr : Int) ≤ (i : Int) := by omega
      have hjr : ((j + (tq - fr) : Nat) : Int) ≤ (r.size : Int) := by omega
      have hir : ((i + (tq - fr) : Nat) : Int) ≤ ((j + (tq - fr) : Nat) : Int) := by omega
      clear hB hR hj hsz
      generalize i + (tq - fr) = i' at *
      generalize j + (tq - fr) = j' at *
      by_cases he : r.size = i'
      · have o : offs r.size i' = 0 := by unfold offs; rw [if_pos he]
        rw [o] at cv cv0
        obtain rfl : j' = i' := by omega
        subst he
        clear o
        go_enter Tryz.func146, Tryz.ntmps146
        go_wp2
        go_quiet (fail)
        go_wp2
        go_ret
        exact ⟨rfl, Drawn.below _⟩
      · have o : offs r.size i' = i' := by unfold offs; rw [if_neg he]
        rw [o] at cv cv0
        clear o
        go_enter Tryz.func146, Tryz.ntmps146
        go_wp2
        go_quiet (fail)
        go_wp2
        go_ret
        exact ⟨rfl, Drawn.below _⟩
    · rw [piece_mid h2 h1 (by omega) (by omega) hj] at hR
      have cv := conv_at' hB i fr r.size (by omega) rfl (by omega)
      have cv0 := conv_at0 hB i fr r.size (by omega) rfl (by omega)
      have cw := conv_at' hB tq (j + (tq - fr)) r.size (by omega) rfl (by omega)
      have cw0 := conv_at0 hB tq (j + (tq - fr)) r.size (by omega) rfl (by omega)
      have o1 : offs r.size i = i := by unfold offs; rw [if_neg (by omega)]
      have o2 : offs r.size tq = tq := by unfold offs; rw [if_neg (by omega)]
      have hz : ¬ 9223372036854775807 < (r.extract i fr).size + (r.extract tq (j + (tq - fr))).size := by simp [ByteArray.size_extract]; omega
      rw [o1] at cv cv0
      rw [o2] at cw cw0
      generalize r.extract i fr = x at *
      generalize r.extract tq (j + (tq - fr)) = y at *
      have HR := Lib.hid hR
      have hhi' : ¬ (fr : Int) ≤ (i : Int) := by omega
      have hfr : (fr : Int) ≤ (r.size : Int) := by omega
      have hif : (i : Int) ≤ (fr : Int) := by omega
      have hjr : ((j + (tq - fr) : Nat) : Int) ≤ (r.size : Int) := by omega
      have hir : (tq : Int) ≤ ((j + (tq - fr) : Nat) : Int) := by omega
      have n1 : ¬ r.size = i := by omega
      have n2 : ¬ r.size = tq := by omega
      clear hB hR hj hsz o1 o2
      generalize j + (tq - fr) = j' at *
      go_enter Tryz.func146, Tryz.ntmps146
      go_wp2
      go_quiet (fail)
      go_wp2
      have d0 : (w.drewN nq).cell? ⟨b, 0, none⟩ = _ := c0
      have d1 : (w.drewN nq).cell? ⟨b, 1, none⟩ = _ := c1
      have d2 : (w.drewN nq).cell? ⟨b, 2, none⟩ = _ := c2
      have av : ∀ (c q : Nat), (Go.convert 99 9 (.slice (some ⟨g, i, none⟩) (fr - i) c)).run Tryz.prog ((w.drewN nq).drewN q) = .ok (.string x) ((w.drewN nq).drewN q) := fun c q => by rw [drewN_drewN]; exact cv c _
      have aw : ∀ (c q : Nat), (Go.convert 99 9 (.slice (some ⟨g, tq, none⟩) (j' - tq) c)).run Tryz.prog ((w.drewN nq).drewN q) = .ok (.string y) ((w.drewN nq).drewN q) := fun c q => by rw [drewN_drewN]; exact cw c _
      have av0 := fun c => cv c nq
      have aw0 := fun c => cw c nq
      have hD := Lib.hid (Drawn.below (w := w) nq)
      clear cv cw cv0 cw0 c0 c1 c2 f0 f1 f2
      generalize w.drewN nq = w1 at *
      go_quiet (fail)
      go_wp2
      go_ret
      exact ⟨by rw [← HR.out]; rfl, hD.out.trans ((Drawn.below _).mono hD.out.size)⟩

set_option maxRecDepth 100000 in
theorem GapSlice_any (b g : Nat) (r : ByteArray) (fr tq lim : Nat) (i j : Nat) (w : World) (h : Gap w b g r fr tq lim) (hij : i ≤ j) (hj : j ≤ (gtext r fr tq).size) : Calls Tryz.prog 144 #[.pointer (some ⟨b, 0, none⟩), .int .i64 i, .int .i64 j] w fun e w' => e = .returned (.tuple #[.string ((gtext r fr tq).extract i j), .int .i64 0]) ∧ Below w.heap.size w w' := by
  have H := Lib.hid h
  have h0 : ¬ (i : Int) < 0 := by omega
  have h1 : ¬ (j : Int) < (i : Int) := by omega
  have h2 : ¬ ((gtext r fr tq).size : Int) < (j : Int) := by omega
  clear h
  go_enter Tryz.func144, Tryz.ntmps144
  go_wp2_with fail
  refine (GapLen_any b g r fr tq lim w H.out).mono ?_
  rintro e w1 ⟨rfl, hb⟩
  have H1 := Lib.hid (H.out.below hb)
  have HB := Lib.hid hb
  clear hb H
  go_wp2_with fail
  refine (piece_any b g r fr tq lim i j w1 H1.out hij hj).mono ?_
  rintro e w2 ⟨rfl, hb⟩
  have HB2 := Lib.hid (HB.out.trans (hb.mono HB.out.size))
  clear hb HB H1
  obtain ⟨R, hR⟩ : ∃ R, (gtext r fr tq).extract i j = R := ⟨_, rfl⟩
  have HR := Lib.hid hR
  rw [hR]
  clear hR
  go_wp2
  refine bodyPost_ret (v := .tuple #[.string R, .int .i64 0]) (by simp [results, Tryz.results144, go_sem]) rfl ⟨by rw [HR.out], HB2.out⟩

set_option maxRecDepth 100000 in
set_option maxHeartbeats 1000000 in
theorem GapMeasure_any (b g : Nat) (r : ByteArray) (fr tq lim : Nat) (i j : Nat) (w : World) (h : Gap w b g r fr tq lim) (hT : Tabs w) (hij : i ≤ j) (hj : j ≤ (gtext r fr tq).size) : Calls Tryz.prog 142 #[.pointer (some ⟨b, 0, none⟩), .int .i64 i, .int .i64 j] w fun e w' => e = .returned (.tuple #[(measF ((gtext r fr tq).extract i j)).val, .int .i64 0]) ∧ Below w.heap.size w w' := by
  have hsz : (gtext r fr tq).size ≤ 140737488355328 := by
    have := gtext_size h.h1 h.h2; have := h.hm; omega
  have k1 : Lies (w.alloc (.cells zero7.toArray 115)) w.heap.size zero7 := Lies.new _ _ _
  have b1 : Below w.heap.size w (w.alloc (.cells zero7.toArray 115)) := (Below.refl _ _).alloc (Nat.le_refl _) _
  have H1 := Lib.hid (h.below b1)
  have T1 := Lib.hid (tabs_below hT b1)
  have K1 := Lib.hid k1
  have B1 := Lib.hid b1
  clear h hT k1 b1
  go_enter Tryz.func142, Tryz.ntmps142
  go_wp2_with fail
  change Calls _ _ _ (w.alloc (.cells zero7.toArray 115)) _
  generalize w.alloc (.cells zero7.toArray 115) = w1 at *
  refine (GapSlice_any b g r fr tq lim i j w1 H1.out hij hj).mono ?_
  rintro e w2 ⟨rfl, hb⟩
  have k2 := Lib.hid (K1.out.below hb)
  have b2 := Lib.hid (B1.out.trans (hb.mono B1.out.size))
  have T2 := Lib.hid (tabs_below T1.out hb)
  have hrs : ((gtext r fr tq).extract i j).size ≤ 140737488355328 := by simp [ByteArray.size_extract]; omega
  clear hb K1 B1 T1 H1
  obtain ⟨R, hR⟩ : ∃ R, (gtext r fr tq).extract i j = R := ⟨_, rfl⟩
  rw [hR] at hrs
  have HR := Lib.hid hR
  rw [hR]
  clear hR
  go_wp2_with fail
  refine (Measure_any R w2 T2.out hrs).mono ?_
  rintro e w3 ⟨rfl, hb⟩
  have k3 := Lib.hid (k2.out.below hb)
  have b3 := Lib.hid (b2.out.trans (hb.mono b2.out.size))
  clear hb k2 b2 T2
  have hv : ∃ m, measF R = m := ⟨_, rfl⟩
  obtain ⟨m, hm⟩ := hv
  have HM := Lib.hid hm
  rw [hm]
  clear hm
  have L := (Lies.stored k3.out [.int .i64 m.bytes, .int .i64 m.units, .int .i64 m.clusters, .int .i64 m.cells, .int .i64 m.newlines, .string m.head, .string m.tail] rfl).2
  have HB := Lib.hid (chg_mine b3.out (sets_chg w.heap.size [.int .i64 m.bytes, .int .i64 m.units, .int .i64 m.clusters, .int .i64 m.cells, .int .i64 m.newlines, .string m.head, .string m.tail] 0 w3) (Nat.le_refl _))
  have HL := Lib.hid L
  clear L
  obtain ⟨-, K⟩ := k3.out
  obtain ⟨c0, f0⟩ := K 0 _ rfl
  obtain ⟨c1, f1⟩ := K 1 _ rfl
  obtain ⟨c2, f2⟩ := K 2 _ rfl
  obtain ⟨c3, f3⟩ := K 3 _ rfl
  obtain ⟨c4, f4⟩ := K 4 _ rfl
  obtain ⟨c5, f5⟩ := K 5 _ rfl
  obtain ⟨c6, f6⟩ := K 6 _ rfl
  clear K
  unfold Sm.val
  go_wp2
  have j0 := (HL.out 0 _ rfl).1
  have j1 := (HL.out 1 _ rfl).1
  have j2 := (HL.out 2 _ rfl).1
  have j3 := (HL.out 3 _ rfl).1
  have j4 := (HL.out 4 _ rfl).1
  have j5 := (HL.out 5 _ rfl).1
  have j6 := (HL.out 6 _ rfl).1
  simp only [World.setCells] at j0 j1 j2 j3 j4 j5 j6
  refine bodyPost_ret (v := .tuple #[m.val, .int .i64 0]) (by simp [results, Tryz.results142, go_sem, j0, j1, j2, j3, j4, j5, j6, Sm.val]) rfl ⟨?_, HB.out⟩
  rw [← HM.out, ← HR.out]
end Go.Proofs.YtgmpohdkignadaaGreatDoor.Ut
/-
  Package gap: lay, New; a nil buffer. No condition.
-/
namespace Go.Proofs.YtgmpohdkignadaaGreatDoor.Ut
open Go.RowKit Go.Proofs.YtgmpohdkignadaaGreatDoor.Reg
set_option linter.unusedVariables false
set_option linter.unusedSimpArgs false

def zerosB (m : Nat) : ByteArray := ⟨(List.replicate m 0).toArray⟩
theorem zerosB_size (m : Nat) : (zerosB m).size = m := by simp [zerosB, ByteArray.size]
def layR (a c : ByteArray) (n : Nat) : ByteArray := a ++ zerosB (n - a.size - c.size) ++ c
theorem layR_size {a c : ByteArray} {n : Nat} (h : a.size + c.size ≤ n) : (layR a c n).size = n := by
  unfold layR; simp [ByteArray.size_append, zerosB_size]; omega
theorem layR_list (a c : ByteArray) (n : Nat) : (layR a c n).data.toList = a.data.toList ++ List.replicate (n - a.size - c.size) 0 ++ c.data.toList := by
  unfold layR zerosB; simp [ByteArray.data_append]
theorem layR_text {a c : ByteArray} {n : Nat} (h : a.size + c.size ≤ n) : gtext (layR a c n) a.size (n - c.size) = a ++ c := by
  apply ext_of_list
  rw [gtext_list _ _ _ (by rw [layR_size h]; omega), layR_list, ByteArray.data_append, Array.toList_append]
  have ha : a.data.toList.length = a.size := by rw [← Lib.size_eq]
  have hc : c.data.toList.length = c.size := by rw [← Lib.size_eq]
  rw [List.append_assoc, List.take_left' ha, ← List.append_assoc, List.drop_left' (by simp [ha]; omega)]

theorem infoByte : (Tryz.prog.info? 5).map (fun i => (i.zero, i.size, i.bytes)) = some (some (.int .u8 0), 1, 1) := by kernel_rfl

theorem Lies.set {W : World} {g : Nat} {vs : List Value} (h : Lies W g vs) (k : Nat) (v : Value) : Lies (W.setCell ⟨g, k, none⟩ v) g (vs.set k v) := by
  refine ⟨Nat.lt_of_lt_of_le h.1 (Chg.set W ⟨g, k, none⟩ v).size, fun j u hj => ?_⟩
  have hjl : j < vs.length := by have := (List.getElem?_eq_some_iff.1 hj).1; simpa using this
  obtain ⟨x1, x2⟩ := h.2 j _ (List.getElem?_eq_getElem hjl)
  refine ⟨?_, by simpa using x2⟩
  rw [setAt W g k j v _ x1]
  by_cases e : j = k
  · subst e; rw [if_pos rfl]; rw [List.getElem?_set_self hjl] at hj; exact hj
  · rw [if_neg e]; rw [List.getElem?_set_ne (Ne.symm e), List.getElem?_eq_getElem hjl] at hj; exact hj
def RowIs (W : World) (g : Nat) (l : List UInt8) : Prop := W.heap[g]? = some (.cells (Lib.byteCells l).toArray 5 (0, 0))
theorem setRow_chg (W : World) (g : Nat) (cs : Array Value) : Chg (fun k => k = g) W (W.setRow g cs) := ⟨rfl, rfl, rfl, by simp [World.setRow], fun k _ hk => setRow_other _ _ _ _ hk⟩
theorem byteCells_take (l : List UInt8) (k : Nat) : (Lib.byteCells l).take k = Lib.byteCells (l.take k) := by simp [Lib.byteCells, List.map_take]
theorem byteCells_drop (l : List UInt8) (k : Nat) : (Lib.byteCells l).drop k = Lib.byteCells (l.drop k) := by simp [Lib.byteCells, List.map_drop]
theorem copy_at {W : World} {g : Nat} {l : List UInt8} (h : RowIs W g l) (o dLen dCap : Nat) (s : ByteArray) (h1 : s.size ≤ dLen) (h2 : o + s.size ≤ l.length) :
    ∃ W', (Builtin.copy_ #[99, 9] 3 #[.slice (some ⟨g, o, none⟩) dLen dCap, .string s]).run Tryz.prog W = .ok (goInt s.size) W' ∧ RowIs W' g (l.take o ++ s.data.toList ++ l.drop (o + s.size)) ∧ Chg (fun k => k = g) W W' := by
  have hz : (Tryz.prog.info? 5).map (·.size) = some 1 := by kernel_rfl
  have := Lib.run_copy_row_string (P := Tryz.prog) W 99 9 3 5 g o dLen dCap s _ _ Tryz.underlying99 hz h h1 (by simpa [Lib.byteCells] using h2)
  refine ⟨_, this, ?_, setRow_chg _ _ _⟩
  have := setRow_heap W g _ ((Lib.byteCells l).toArray.toList.take o ++ Lib.byteCells s.data.toList ++ (Lib.byteCells l).toArray.toList.drop (o + s.size)).toArray _ _ h
  unfold RowIs
  rw [this]
  simp only [byteCells_take, byteCells_drop, ← Lib.byteCells_append]

set_option maxRecDepth 100000 in
set_option maxHeartbeats 1000000 in
theorem lay_any (b : Nat) (v0 v1 v2 : Value) (lim : Nat) (a c : ByteArray) (n : Nat) (w : World) (hb : Blk w b 101 [v0, v1, v2, .int .i64 lim]) (h : a.size + c.size ≤ n) (h64 : 64 ≤ n) (hn : n ≤ 4294967296) :
    Calls Tryz.prog 52 #[.pointer (some ⟨b, 0, none⟩), .string a, .string c, .int .i64 n] w fun e w' => e = .returned (.tuple #[]) ∧ Gap w' b w.heap.size (layR a c n) a.size (n - c.size) lim ∧ Chg (fun k => k = b) w w' := by
  obtain ⟨i0, hi, hz0, hz1, hz2⟩ := info_parts infoByte
  have hbl : b < w.heap.size := hb.lies.1
  have hmk := run_make (P := Tryz.prog) w 99 5 i0 (.int .u8 0) Tryz.underlying99 hi hz0 .i64 .i64 n n (by omega) (Int.le_refl _) (by rw [hz2]; omega) (by omega)
  simp only [Int.toNat_natCast] at hmk
  obtain ⟨W1, hW1⟩ : ∃ W1, w.alloc (.cells (madeCells (Value.int .u8 0).cells (n * i0.size)) 5) = W1 := ⟨_, rfl⟩
  rw [hW1] at hmk
  have r1 : RowIs W1 w.heap.size (List.replicate n 0) := by
    rw [← hW1]
    unfold RowIs
    rw [World.alloc_heap_new]
    congr 2
    rw [hz1, Nat.mul_one]
    apply Array.ext
    · rw [size_madeCells]; simp [Lib.byteCells]
    · intro k h1 h2
      simp [madeCells, Lib.byteCells, Value.cells, Nat.mod_one]
  have g1 : Chg (fun _ => False) w W1 := by rw [← hW1]; exact Chg.alloc _ _
  generalize hg : w.heap.size = g at *
  clear hW1
  obtain ⟨W2, hc2, r2, g2⟩ := copy_at r1 0 n n a (by omega) (by simp; omega)
  have hl2 : (List.take 0 (List.replicate n (0 : UInt8)) ++ a.data.toList ++ List.drop (0 + a.size) (List.replicate n 0)) = a.data.toList ++ List.replicate (n - a.size) 0 := by simp
  rw [hl2] at r2
  have ha : a.data.toList.length = a.size := by rw [← Lib.size_eq]
  have hc : c.data.toList.length = c.size := by rw [← Lib.size_eq]
  obtain ⟨W3, hc3, r3, g3⟩ := copy_at r2 (offs n (n - c.size)) c.size c.size c (Nat.le_refl _) (by unfold offs; split <;> simp [ha] <;> omega)
  have hl3 : (List.take (offs n (n - c.size)) (a.data.toList ++ List.replicate (n - a.size) (0 : UInt8)) ++ c.data.toList ++ List.drop (offs n (n - c.size) + c.size) (a.data.toList ++ List.replicate (n - a.size) 0)) = (layR a c n).data.toList := by
    rw [layR_list]
    unfold offs
    split
    · have : c.size = 0 := by omega
      have hc0 : c.data.toList = [] := List.eq_nil_of_length_eq_zero (by omega)
      rw [hc0, this]; simp
    · rw [List.take_append, ha, List.take_of_length_le (by omega), List.drop_eq_nil_of_le (by simp; omega), List.append_nil]
      rw [List.take_replicate]
      have e : min (n - c.size - a.size) (n - a.size) = n - a.size - c.size := by omega
      rw [e]
  rw [hl3] at r3
  have hs3 : g < W1.heap.size := (Array.getElem?_eq_some_iff.1 r1).1
  have hbox : Blk W3 b 101 [v0, v1, v2, .int .i64 lim] := ((hb.chg g1 (fun h => h)).chg g2 (by show ¬ b = g; omega)).chg g3 (by show ¬ b = g; omega)
  have hch : Chg (fun _ => False) w W3 := (g1.trans g2 (fun x hx h => by have : x = g := h; omega)).trans g3 (fun x hx h => by have : x = g := h; omega)
  have hk : Gap ((((W3.setCell ⟨b, 0, none⟩ (.slice (some ⟨g, 0, none⟩) n n)).setCell ⟨b, 1, none⟩ (.int .i64 a.size)).setCell ⟨b, 2, none⟩ (.int .i64 ((n - c.size : Nat) : Int)))) b g (layR a c n) a.size (n - c.size) lim ∧ Chg (fun k => k = b) w ((((W3.setCell ⟨b, 0, none⟩ (.slice (some ⟨g, 0, none⟩) n n)).setCell ⟨b, 1, none⟩ (.int .i64 a.size)).setCell ⟨b, 2, none⟩ (.int .i64 ((n - c.size : Nat) : Int)))) := by
    have B3 := ((hbox.set 0 (.slice (some ⟨g, 0, none⟩) n n)).set 1 (.int .i64 a.size)).set 2 (.int .i64 ((n - c.size : Nat) : Int))
    have C3 : Chg (fun k => k = b) W3 ((((W3.setCell ⟨b, 0, none⟩ (.slice (some ⟨g, 0, none⟩) n n)).setCell ⟨b, 1, none⟩ (.int .i64 a.size)).setCell ⟨b, 2, none⟩ (.int .i64 ((n - c.size : Nat) : Int)))) :=
      ((Chg.set W3 ⟨b, 0, none⟩ _).trans (Chg.set _ ⟨b, 1, none⟩ _) (fun _ _ h => h)).trans (Chg.set _ ⟨b, 2, none⟩ _) (fun _ _ h => h)
    have hlt3 : g < W3.heap.size := (Array.getElem?_eq_some_iff.1 r3).1
    refine ⟨⟨?_, (C3.block g hlt3 (by show ¬ g = b; omega)).trans r3, by omega, by omega, by rw [layR_size h]; omega, by rw [layR_size h]; omega, by rw [layR_size h]; omega⟩, (hch.mono (fun _ f => f.elim)).trans C3 (fun _ _ h => h)⟩
    rw [layR_size h]
    exact B3
  have n1 : IntKind.i64.wrap ((n : Int) - (c.size : Int)) = (n : Int) - (c.size : Int) := IntWalk.i64_in _ (by omega)
  have n2 : (n : Int) - (c.size : Int) = ((n - c.size : Nat) : Int) := by omega
  have n3 : ((n - c.size : Nat) : Int) ≤ (n : Int) := by omega
  have hK := Lib.hid hk
  obtain ⟨-, K⟩ := hbox.lies
  obtain ⟨c0, f0⟩ := K 0 _ rfl
  obtain ⟨c1, f1⟩ := K 1 _ rfl
  obtain ⟨c2, f2⟩ := K 2 _ rfl
  clear K hb r1 r2 r3 g1 g2 g3 hl2 hl3 ha hc hch hk hi hz0 hz1 hz2
  have hsub : n - (n - c.size) = c.size := by omega
  generalize n - c.size = k at *
  by_cases he : n = k
  · have o : offs n k = 0 := by unfold offs; rw [if_pos he]
    rw [o] at hc3
    subst he
    have hc0 : c.size = 0 := by omega
    rw [hc0] at hc3
    clear hsub o
    go_enter Tryz.func52, Tryz.ntmps52
    go_wp2
    go_end0
    exact ⟨rfl, hK.out⟩
  · have o : offs n k = k := by unfold offs; rw [if_neg he]
    rw [o] at hc3
    go_enter Tryz.func52, Tryz.ntmps52
    go_wp2
    go_end0
    exact ⟨rfl, hK.out⟩

/-- A nil buffer. -/
theorem nilLen_any (w : World) : Calls Tryz.prog 141 #[.pointer none] w fun e w' => e = .returned (.int .i64 0) ∧ w' = w := by
  go_enter Tryz.func141, Tryz.ntmps141
  go_wp2
  go_ret
  exact ⟨rfl, rfl⟩
theorem nilPiece_any (i j : Int) (w : World) : Calls Tryz.prog 146 #[.pointer none, .int .i64 i, .int .i64 j] w fun e w' => e = .returned (.string ⟨#[]⟩) ∧ w' = w := by
  go_enter Tryz.func146, Tryz.ntmps146
  go_wp2
  go_ret
  exact ⟨rfl, rfl⟩
set_option maxRecDepth 100000 in
theorem nilSlice_any (w : World) : Calls Tryz.prog 144 #[.pointer none, .int .i64 0, .int .i64 0] w fun e w' => e = .returned (.tuple #[.string ⟨#[]⟩, .int .i64 0]) ∧ Below w.heap.size w w' := by
  go_enter Tryz.func144, Tryz.ntmps144
  go_wp2_with fail
  refine (nilLen_any w).mono ?_
  rintro e w1 ⟨rfl, rfl⟩
  go_wp2_with fail
  refine (nilPiece_any 0 0 w1).mono ?_
  rintro e w2 ⟨rfl, rfl⟩
  go_wp2
  refine bodyPost_ret (v := .tuple #[.string ⟨#[]⟩, .int .i64 0]) (by simp [results, Tryz.results144, go_sem]) rfl ⟨rfl, Below.refl _ _⟩

set_option maxRecDepth 100000 in
set_option maxHeartbeats 1000000 in
theorem GapNew_any (s : ByteArray) (n : Nat) (w : World) (hn : n ≤ 1073741824) (hs : s.size ≤ n) :
    Calls Tryz.prog 35 #[.string s, .int .i64 n] w fun e w' => ∃ b g r fr tq, e = .returned (.tuple #[.pointer (some ⟨b, 0, none⟩), .int .i64 0]) ∧ Gap w' b g r fr tq n ∧ gtext r fr tq = s ∧ w.heap.size ≤ b ∧ w.heap.size ≤ g ∧ Below w.heap.size w w' := by
  have e1 : min (max (n : Int) 0) 1073741824 = (n : Int) := by omega
  have e2 : ¬ (n : Int) < (s.size : Int) := by omega
  have e3 : max (s.size : Int) 64 = ((max s.size 64 : Nat) : Int) := by omega
  have h1 : s.size + (⟨#[]⟩ : ByteArray).size ≤ max s.size 64 := by show s.size + 0 ≤ _; omega
  have h2 : 64 ≤ max s.size 64 := by omega
  have h3 : max s.size 64 ≤ 4294967296 := by omega
  have ht := layR_text h1
  generalize max s.size 64 = k at *
  go_enter Tryz.func35, Tryz.ntmps35
  go_wp2_with fail
  refine (held_any n w).mono ?_
  rintro e w1 ⟨rfl, rfl⟩
  rw [e1]
  go_wp2_with fail
  refine (held_any n w1).mono ?_
  rintro e w2 ⟨rfl, rfl⟩
  rw [e1]
  go_wp2_with fail
  have kb : Blk (w2.alloc (.cells ([.slice none 0 0, .int .i64 0, .int .i64 0, .int .i64 n] : List Value).toArray 101)) w2.heap.size 101 [.slice none 0 0, .int .i64 0, .int .i64 0, .int .i64 n] := Blk.new _ _ _
  have b1 : Below w2.heap.size w2 (w2.alloc (.cells ([.slice none 0 0, .int .i64 0, .int .i64 0, .int .i64 n] : List Value).toArray 101)) := (Below.refl _ _).alloc (Nat.le_refl _) _
  change Calls _ _ _ (w2.alloc (.cells ([.slice none 0 0, .int .i64 0, .int .i64 0, .int .i64 n] : List Value).toArray 101)) _
  generalize w2.alloc (.cells ([.slice none 0 0, .int .i64 0, .int .i64 0, .int .i64 n] : List Value).toArray 101) = w3 at *
  refine (lay_any w2.heap.size _ _ _ n s ⟨#[]⟩ k w3 kb h1 h2 h3).mono ?_
  rintro e w4 ⟨rfl, hG, hC⟩
  have HG := Lib.hid hG
  have HB := Lib.hid (chg_mine b1 hC (Nat.le_refl _))
  have hw3 := b1.size
  clear hG hC kb b1
  go_wp2
  refine bodyPost_ret (v := .tuple #[.pointer (some ⟨w2.heap.size, 0, none⟩), .int .i64 0]) (by simp [results, Tryz.results35, go_sem]) rfl ⟨_, _, _, _, _, rfl, HG.out, ?_, Nat.le_refl _, hw3, HB.out⟩
  rw [ht]
  apply ext_of_list
  simp
end Go.Proofs.YtgmpohdkignadaaGreatDoor.Ut
/-
  Package lines over whatever keeps a text (TextIs): begin, Count, Of. Condition: TextIs.
-/
namespace Go.Proofs.YtgmpohdkignadaaGreatDoor.Ut
open Go.RowKit Go.Proofs.YtgmpohdkignadaaGreatDoor.Reg
set_option linter.unusedVariables false
set_option linter.unusedSimpArgs false

/-- Value v keeps the text s: what length, slice and newlines answer of it, now and later. -/
structure TextIs (W : World) (v : Value) (s : ByteArray) : Prop where
  form : v = .nilIface ∨ ∃ t x, v = .iface t x
  small : s.size ≤ 1073741824
  len : ∀ W', Below W.heap.size W W' → Calls Tryz.prog 41 #[v] W' fun e w' => e = .returned (.int .i64 s.size) ∧ Below W'.heap.size W' w'
  slice : ∀ W' (i j : Nat), Below W.heap.size W W' → i ≤ j → j ≤ s.size → Calls Tryz.prog 38 #[v, .int .i64 i, .int .i64 j] W' fun e w' => e = .returned (.string (s.extract i j)) ∧ Below W'.heap.size W' w'
  nl : ∀ W' (i : Nat), Below W.heap.size W W' → i ≤ s.size → Calls Tryz.prog 42 #[v, .int .i64 i] W' fun e w' => e = .returned (.int .i64 (nlF (s.extract 0 i))) ∧ Below W'.heap.size W' w'
theorem TextIs.below {W W' : World} {v : Value} {s : ByteArray} (h : TextIs W v s) (hb : Below W.heap.size W W') : TextIs W' v s :=
  ⟨h.form, h.small, fun w k => h.len w (hb.trans (k.mono hb.size)), fun w i j k => h.slice w i j (hb.trans (k.mono hb.size)), fun w i k => h.nl w i (hb.trans (k.mono hb.size))⟩

def nlTo (s : ByteArray) (k : Nat) : Nat := nlF (s.extract 0 k)
theorem nlTo_list (s : ByteArray) (k : Nat) : nlTo s k = Lib.countByte (s.data.toList.take k) 10 := by
  unfold nlTo nlF; rw [extract_list]; simp
theorem nlTo_mono (s : ByteArray) {a b : Nat} (h : a ≤ b) : nlTo s a ≤ nlTo s b := by
  rw [nlTo_list, nlTo_list]
  have e : s.data.toList.take a = (s.data.toList.take b).take a := by rw [List.take_take]; congr 1; omega
  rw [e]
  exact List.Sublist.countP_le (List.take_sublist _ _)
theorem nlTo_le (s : ByteArray) (k : Nat) : nlTo s k ≤ s.size := by
  rw [nlTo_list]
  refine Nat.le_trans (List.countP_le_length) ?_
  rw [List.length_take, ← Lib.size_eq]
  exact Nat.min_le_right _ _
def bFrom (s : ByteArray) (line : Int) : Nat → Nat → Nat
  | 0, k => k
  | f + 1, k => if line ≤ (nlTo s k : Int) then k else bFrom s line f (k + 1)
/-- Where a line begins. -/
def beginF (s : ByteArray) (line : Int) : Nat := bFrom s line s.size 0
theorem bFrom_eq (s : ByteArray) (line : Int) (r : Nat) (h0 : ∀ k, k < r → ¬ line ≤ (nlTo s k : Int)) (h1 : r < s.size → line ≤ (nlTo s r : Int)) (hr : r ≤ s.size) : ∀ f k, k + f = s.size → k ≤ r → bFrom s line f k = r
  | 0, k, hk, hkr => by unfold bFrom; omega
  | f + 1, k, hk, hkr => by
    unfold bFrom
    by_cases e : k = r
    · subst e; rw [if_pos (h1 (by omega))]
    · rw [if_neg (h0 k (by omega))]; exact bFrom_eq s line r h0 h1 hr f (k + 1) (by omega) (by omega)
theorem begin_eq (s : ByteArray) (line : Int) (r : Nat) (h0 : ∀ k, k < r → ¬ line ≤ (nlTo s k : Int)) (h1 : r < s.size → line ≤ (nlTo s r : Int)) (hr : r ≤ s.size) : beginF s line = r := bFrom_eq s line r h0 h1 hr _ _ (by omega) (Nat.zero_le _)
theorem bFrom_le (s : ByteArray) (line : Int) : ∀ f k, bFrom s line f k ≤ k + f
  | 0, k => by unfold bFrom; omega
  | f + 1, k => by unfold bFrom; split; omega; have := bFrom_le s line f (k + 1); omega
theorem begin_le (s : ByteArray) (line : Int) : beginF s line ≤ s.size := by have := bFrom_le s line s.size 0; unfold beginF; omega

def VBeg (s : ByteArray) (v : Value) (k : Nat) (line : Int) : Nat → Value → World → Prop := fun d x w => match d with
  | 5 => x = v
  | 6 => x = .int .i64 k
  | 7 => x = .int .i64 (nlTo s k)
  | 8 => x = .int .i64 line
  | 9 => x = .bool (decide (line ≤ (nlTo s k : Int)))
  | 4 => x = .bool (decide (line ≤ (nlTo s k : Int)))
  | _ => True
theorem VBeg_mono (s : ByteArray) (v : Value) (k : Nat) (line : Int) : ∀ d x w w', VBeg s v k line d x w → Below w.heap.size w w' → VBeg s v k line d x w' := fun _ _ _ _ h _ => h

set_option maxRecDepth 100000 in
theorem beg1_any (v : Value) (s : ByteArray) (k : Nat) (line : Int) (p q : Nat) (w : World) (hk : k ≤ s.size) (h : TextIs w v s) (hp : w.cell? ⟨p, 0, none⟩ = some v) (hq : w.cell? ⟨q, 0, none⟩ = some (.int .i64 line)) :
    Calls Tryz.prog 61 #[.int .i64 k, .pointer (some ⟨p, 0, none⟩), .pointer (some ⟨q, 0, none⟩)] w fun e w' => e = .returned (.bool (decide (line ≤ (nlTo s k : Int)))) ∧ Below w.heap.size w w' := by
  have H := Lib.hid h
  have hpl : p < w.heap.size := World.block_lt_of_cell? w _ hp
  have hql : q < w.heap.size := World.block_lt_of_cell? w _ hq
  clear h
  go_enter Tryz.func61, Tryz.ntmps61
  go_wp2
  refine wp_held' mixed (VBeg s v k line) (VBeg_mono _ _ _ _) (by kernel_rfl) [5, 6, 7, 8, 9, 4] (by kernel_rfl) (by kernel_rfl) ?_ ?_
  · intro j hj
    have hj' : j < 6 := hj
    rcases (by omega : j = 0 ∨ j = 1 ∨ j = 2 ∨ j = 3 ∨ j = 4 ∨ j = 5) with rfl | rfl | rfl | rfl | rfl | rfl
    · -- operation 0
      (refine owes_val (L := [(1, false)]) rfl rfl rfl (by kernel_rfl) ?_; intro a' w' hb' hfacts; obtain ⟨hf1, -⟩ := hfacts; replace hf1 : a'.tmps[1]?.getD undef = .pointer (some ⟨p, 0, none⟩) := hf1)
      have q0 := (hb'.cell (p := ⟨p, 0, none⟩) hpl).trans hp; have q1 := (hb'.cell (p := ⟨q, 0, none⟩) hql).trans hq
      (go_simp; first | exact ⟨_, rfl, Below.refl _ _, rfl⟩ | exact ⟨_, rfl, Below.refl _ _, trivial⟩ | exact ⟨_, rfl, (Below.refl _ _).alloc (Nat.le_refl _) _, trivial⟩ | exact ⟨_, rfl, Below.refl _ _, congrArg (Value.int _) (IntWalk.i64_in _ (by omega))⟩)
    · -- operation 1
      (refine owes_val (L := [(0, false)]) rfl rfl rfl (by kernel_rfl) ?_; intro a' w' hb' hfacts; obtain ⟨hf0, -⟩ := hfacts; replace hf0 : a'.tmps[0]?.getD undef = .int .i64 k := hf0)
      have q0 := (hb'.cell (p := ⟨p, 0, none⟩) hpl).trans hp; have q1 := (hb'.cell (p := ⟨q, 0, none⟩) hql).trans hq
      (go_simp; first | exact ⟨_, rfl, Below.refl _ _, rfl⟩ | exact ⟨_, rfl, Below.refl _ _, trivial⟩ | exact ⟨_, rfl, (Below.refl _ _).alloc (Nat.le_refl _) _, trivial⟩ | exact ⟨_, rfl, Below.refl _ _, congrArg (Value.int _) (IntWalk.i64_in _ (by omega))⟩)
    · -- operation 2
      (refine owes_val (L := [(5, true), (6, true)]) rfl rfl rfl (by kernel_rfl) ?_; intro a' w' hb' hfacts; obtain ⟨hf5, hf6, -⟩ := hfacts; try simp only [VBeg] at hf5; try simp only [VBeg] at hf6)
      go_simp
      refine (H.out.nl _ k hb' hk).mono ?_
      rintro e w3 ⟨rfl, hb3⟩
      exact ⟨_, rfl, hb3, rfl⟩
    · -- operation 3
      (refine owes_val (L := [(2, false)]) rfl rfl rfl (by kernel_rfl) ?_; intro a' w' hb' hfacts; obtain ⟨hf2, -⟩ := hfacts; replace hf2 : a'.tmps[2]?.getD undef = .pointer (some ⟨q, 0, none⟩) := hf2)
      have q0 := (hb'.cell (p := ⟨p, 0, none⟩) hpl).trans hp; have q1 := (hb'.cell (p := ⟨q, 0, none⟩) hql).trans hq
      (go_simp; first | exact ⟨_, rfl, Below.refl _ _, rfl⟩ | exact ⟨_, rfl, Below.refl _ _, trivial⟩ | exact ⟨_, rfl, (Below.refl _ _).alloc (Nat.le_refl _) _, trivial⟩ | exact ⟨_, rfl, Below.refl _ _, congrArg (Value.int _) (IntWalk.i64_in _ (by omega))⟩)
    · -- operation 4
      (refine owes_val (L := [(7, true), (8, true)]) rfl rfl rfl (by kernel_rfl) ?_; intro a' w' hb' hfacts; obtain ⟨hf7, hf8, -⟩ := hfacts; try simp only [VBeg] at hf7; try simp only [VBeg] at hf8)
      have q0 := (hb'.cell (p := ⟨p, 0, none⟩) hpl).trans hp; have q1 := (hb'.cell (p := ⟨q, 0, none⟩) hql).trans hq
      (go_simp; first | exact ⟨_, rfl, Below.refl _ _, rfl⟩ | exact ⟨_, rfl, Below.refl _ _, trivial⟩ | exact ⟨_, rfl, (Below.refl _ _).alloc (Nat.le_refl _) _, trivial⟩ | exact ⟨_, rfl, Below.refl _ _, congrArg (Value.int _) (IntWalk.i64_in _ (by omega))⟩)
    · -- operation 5
      (refine owes_val (L := [(9, true)]) rfl rfl rfl (by kernel_rfl) ?_; intro a' w' hb' hfacts; obtain ⟨hf9, -⟩ := hfacts; try simp only [VBeg] at hf9)
      have q0 := (hb'.cell (p := ⟨p, 0, none⟩) hpl).trans hp; have q1 := (hb'.cell (p := ⟨q, 0, none⟩) hql).trans hq
      (go_simp; first | exact ⟨_, rfl, Below.refl _ _, rfl⟩ | exact ⟨_, rfl, Below.refl _ _, trivial⟩ | exact ⟨_, rfl, (Below.refl _ _).alloc (Nat.le_refl _) _, trivial⟩ | exact ⟨_, rfl, Below.refl _ _, congrArg (Value.int _) (IntWalk.i64_in _ (by omega))⟩)
  · intro f W3 hf hb3
    have f4 : f 4 = .bool (decide (line ≤ (nlTo s k : Int))) := hf 4 (by decide)
    have HB := Lib.hid hb3
    clear hf hb3
    simp only [putAll, put_lit, List.map_cons, List.map_nil, List.set_cons_succ, List.set_cons_zero]
    simp only [f4]
    go_wp2
    go_ret
    exact ⟨rfl, HB.out⟩

set_option maxRecDepth 100000 in
theorem begin_any (v : Value) (s : ByteArray) (line : Int) (w : World) (h : TextIs w v s) :
    Calls Tryz.prog 43 #[v, .int .i64 line] w fun e w' => e = .returned (.int .i64 (beginF s line)) ∧ Below w.heap.size w w' := by
  have hb0 : Below w.heap.size w ((w.alloc (.cells #[v] 28)).alloc (.cells #[.int .i64 line] 3)) := ((Below.refl _ _).alloc (Nat.le_refl _) _).alloc (by simp) _
  have HB0 := Lib.hid hb0
  have H0 := Lib.hid (h.below hb0)
  obtain ⟨q0, q1⟩ := boxes2 w v (.int .i64 line) 28 3
  have hsz : ((w.alloc (.cells #[v] 28)).alloc (.cells #[.int .i64 line] 3)).heap.size = w.heap.size + 2 := by simp
  have HSz := Lib.hid hsz
  have hsm := h.small
  obtain ⟨R, hR⟩ : ∃ R, beginF s line = R := ⟨_, rfl⟩
  have HR := Lib.hid hR
  rw [hR]
  have hform := h.form
  clear h hb0 hsz hR
  rcases hform with rfl | ⟨t, x, rfl⟩
  all_goals
    go_enter Tryz.func43, Tryz.ntmps43
    go_wp2_with fail
    generalize ((w.alloc (.cells _ 28)).alloc (.cells #[.int .i64 line] 3)) = w0 at *
    have l0 : w.heap.size < w0.heap.size := by rw [HSz.out]; omega
    have l1 : w.heap.size + 1 < w0.heap.size := by rw [HSz.out]; omega
    refine (H0.out.len w0 (Below.refl _ _)).mono ?_
    rintro e w1 ⟨rfl, hb1⟩
    have HB1 := Lib.hid (HB0.out.trans (hb1.mono HB0.out.size))
    have H1 := Lib.hid (H0.out.below hb1)
    have d0 := (hb1.cell (p := ⟨w.heap.size, 0, none⟩) l0).trans q0
    have d1 := (hb1.cell (p := ⟨w.heap.size + 1, 0, none⟩) l1).trans q1
    have m0 := Nat.lt_of_lt_of_le l0 hb1.size
    have m1 := Nat.lt_of_lt_of_le l1 hb1.size
    clear hb1 HB0 H0 q0 q1 l0 l1 HSz
    go_wp2_with fail
    refine (Search_any s.size 61 _ (fun k => decide (line ≤ (nlTo s k : Int))) w1 (by omega) (enters_of Tryz.func61 (by kernel_rfl) rfl) (fun a b hab hb h => ?_) (fun k w' hk hb => ?_)).mono ?_
    · simp only [decide_eq_true_eq] at h ⊢
      have := nlTo_mono s hab
      omega
    · exact beg1_any _ s k line w.heap.size (w.heap.size + 1) w' (by omega) (H1.out.below hb) ((hb.cell (p := ⟨w.heap.size, 0, none⟩) m0).trans d0) ((hb.cell (p := ⟨w.heap.size + 1, 0, none⟩) m1).trans d1)
    · rintro e w2 ⟨r, rfl, hrn, h0, h1, hb2⟩
      have hr := begin_eq s line r (fun k hk => by simpa using h0 k hk) (fun hk => by simpa using h1 r (Nat.le_refl _) hk) hrn
      rw [HR.out] at hr
      have HB2 := Lib.hid (HB1.out.trans (hb2.mono HB1.out.size))
      subst hr
      clear hb2 h0 h1 HB1
      go_wp2
      go_ret
      exact ⟨rfl, HB2.out⟩

set_option maxRecDepth 100000 in
theorem LnCount_any (v : Value) (s : ByteArray) (w : World) (h : TextIs w v s) :
    Calls Tryz.prog 19 #[v] w fun e w' => e = .returned (.int .i64 (nlF s + 1)) ∧ Below w.heap.size w w' := by
  have H := Lib.hid h
  have hl := nlTo_le s s.size
  have hs := h.small
  have he : s.extract 0 s.size = s := by
    apply ext_of_list; rw [extract_list]; simp only [List.drop_zero, Nat.sub_zero]; exact List.take_of_length_le (by rw [← Lib.size_eq]; exact Nat.le_refl _)
  unfold nlTo at hl
  rw [he] at hl
  have hform := h.form
  clear h
  rcases hform with rfl | ⟨t, x, rfl⟩
  all_goals
    go_enter Tryz.func19, Tryz.ntmps19
    go_wp2_with fail
    refine (H.out.len w (Below.refl _ _)).mono ?_
    rintro e w1 ⟨rfl, hb1⟩
    have HB1 := Lib.hid hb1
    clear hb1
    go_wp2_with fail
    refine (H.out.nl w1 s.size HB1.out (Nat.le_refl _)).mono ?_
    rintro e w2 ⟨rfl, hb2⟩
    have HB2 := Lib.hid (HB1.out.trans (hb2.mono HB1.out.size))
    rw [he]
    obtain ⟨N, hN⟩ : ∃ N, nlF s = N := ⟨_, rfl⟩
    rw [hN] at hl ⊢
    have HN := Lib.hid hN
    clear hb2 hN
    have hw : IntKind.i64.wrap ((N : Int) + 1) = (N : Int) + 1 := IntWalk.i64_in _ (by omega)
    go_wp2
    go_ret
    refine ⟨?_, HB2.out⟩
    rw [HN.out]
    simp [hw]

set_option maxRecDepth 100000 in
theorem LnOf_any (v : Value) (s : ByteArray) (i : Nat) (w : World) (h : TextIs w v s) (hi : i ≤ s.size) :
    Calls Tryz.prog 17 #[v, .int .i64 i] w fun e w' => e = .returned (.tuple #[.int .i64 (nlTo s i), .int .i64 0]) ∧ Below w.heap.size w w' := by
  have H := Lib.hid h
  have h0 : ¬ (i : Int) < 0 := by omega
  have h1 : ¬ (s.size : Int) < (i : Int) := by omega
  obtain ⟨N, hN⟩ : ∃ N, nlTo s i = N := ⟨_, rfl⟩
  have HN := Lib.hid hN
  rw [hN]
  have hform := h.form
  clear h hN
  rcases hform with rfl | ⟨t, x, rfl⟩
  all_goals
    go_enter Tryz.func17, Tryz.ntmps17
    go_wp2_with fail
    refine (H.out.len w (Below.refl _ _)).mono ?_
    rintro e w1 ⟨rfl, hb1⟩
    have HB1 := Lib.hid hb1
    clear hb1
    go_wp2_with fail
    refine (H.out.nl w1 i HB1.out hi).mono ?_
    rintro e w2 ⟨rfl, hb2⟩
    have HB2 := Lib.hid (HB1.out.trans (hb2.mono HB1.out.size))
    have hn2 : nlF (s.extract 0 i) = N := HN.out
    rw [hn2]
    clear hb2 hn2
    go_wp2
    refine bodyPost_ret (v := .tuple #[.int .i64 N, .int .i64 0]) (by simp [results, Tryz.results17, go_sem]) rfl ⟨rfl, HB2.out⟩
set_option maxRecDepth 100000 in
theorem LnOf_bad (v : Value) (s : ByteArray) (i : Int) (w : World) (h : TextIs w v s) (hi : i < 0 ∨ s.size < i) :
    Calls Tryz.prog 17 #[v, .int .i64 i] w fun e w' => e = .returned (.tuple #[.int .i64 0, .int .i64 1]) ∧ Below w.heap.size w w' := by
  have H := Lib.hid h
  have hform := h.form
  clear h
  rcases (by omega : i < 0 ∨ (¬ i < 0 ∧ s.size < i)) with h0 | ⟨h0, h1⟩
  · clear hi
    rcases hform with rfl | ⟨t, x, rfl⟩
    all_goals
      go_enter Tryz.func17, Tryz.ntmps17
      go_wp2
      refine bodyPost_ret (v := .tuple #[.int .i64 0, .int .i64 1]) (by simp [results, Tryz.results17, go_sem]) rfl ⟨rfl, Below.refl _ _⟩
  · clear hi
    rcases hform with rfl | ⟨t, x, rfl⟩
    all_goals
      go_enter Tryz.func17, Tryz.ntmps17
      go_wp2_with fail
      refine (H.out.len w (Below.refl _ _)).mono ?_
      rintro e w1 ⟨rfl, hb1⟩
      have HB1 := Lib.hid hb1
      clear hb1
      go_wp2
      refine bodyPost_ret (v := .tuple #[.int .i64 0, .int .i64 1]) (by simp [results, Tryz.results17, go_sem]) rfl ⟨rfl, HB1.out⟩
end Go.Proofs.YtgmpohdkignadaaGreatDoor.Ut
