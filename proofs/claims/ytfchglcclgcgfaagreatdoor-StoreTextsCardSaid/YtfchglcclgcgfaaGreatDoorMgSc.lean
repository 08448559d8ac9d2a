/-
  What the proof of the laws S rests on: the texts Region2 Region3 ClC ClD. Conditions: each theorem names its own.
-/
import Derived.Test.YtfchglcclgcgfaaGreatDoorMgSb
import Derived.Maps.OwnSet
import Derived.Maps.OwnOps
import Derived.Deep.MidRow
import Derived.RangeFuncBox
import Derived.RangeFuncLeaves
import Derived.RangeFuncCalls
import Derived.OwnWalkIn
import Derived.TacticsIn
import Derived.TacticsInMore
import Derived.RegionIn
import Derived.LoopNIn
import Derived.LoopIn
/-
 A region that draws its order and whose last operation waits for all the others. No condition.
-/
namespace Go.Proofs.YtfchglcclgcgfaaGreatDoor.Reg
open Go.RowKit Go.Maps
set_option linter.unusedVariables false
set_option linter.unusedSimpArgs false

section
variable {P : Program} {ops : Array Oper} {Q : Exit → Act → World → Prop}

theorem inv_step {a0 : Act} {w0 : World} {V : Nat → Value → World → Prop}
  (hV : ∀ d v w w', V d v w → Below w.heap.size w w' → V d v w') (ht : tidy ops = true)
  (hsz : (ops.all fun o => match o.dst with | some d => decide (d < a0.tmps.size) | none => true) = true)
  {listed : Array Bool} {a : Act} {w : World} {i : Nat} (hI : Inv ops V a0 w0 listed a w) (hs : listed.size = ops.size) (hi : i ∈ Region.ready .any ops listed) (h : Owes P ops Q V a0 w0 i) :
  wpOp P ops Q i (fun a' w' => Inv ops V a0 w0 (listed.setIfInBounds i true) a' w') a w := by
 obtain ⟨hun, o, ho, haf⟩ := mem_ready.1 hi
 have hil : i < ops.size := (Array.getElem?_eq_some_iff.1 ho).1
 have hwl : ∀ j, waits ops i j = true → listed.getD j false = true := fun j hj => by
  unfold waits at hj
  rw [ho] at hj
  simp only [Option.map_some, Option.getD_some, Array.any_eq_true', Bool.and_eq_true, beq_iff_eq] at hj
  obtain ⟨e, he, rfl, hb⟩ := hj
  exact haf e he hb
 have hilt : i < listed.size := by omega
 have hnl : listed.getD i false = false := by
  rw [Array.getD_eq_getD_getElem?] at hun ⊢
  simp [hilt] at hun ⊢
  exact hun
 have htd : ∀ j, j < ops.size → i ≠ j → ∀ d, writes ops j d = true → writes ops i d = false ∧ (d ∈ o.looksAt ops → waits ops i j = true ∨ waits ops j i = true) := fun j hj hne d hw => by
  unfold tidy at ht
  rw [Bool.and_eq_true] at ht
  have h1 := List.all_eq_true.1 (List.all_eq_true.1 ht.2 i (List.mem_range.2 hil)) j (List.mem_range.2 hj)
  unfold writes at hw
  have hdj : (ops[j]?).bind (·.dst) = some d := by simpa using hw
  rw [hdj, ho] at h1
  have hb : (i == j) = false := by simpa using hne
  rw [hb] at h1
  simp only [Bool.false_or, Bool.and_eq_true, Bool.not_eq_true', Bool.or_eq_true] at h1
  refine ⟨h1.1, fun hd => ?_⟩
  rcases h1.2 with (h2 | h2) | h2
  ·have : (o.looksAt ops).contains d = true := by simpa using hd
   rw [this] at h2; cases h2
  ·exact .inl h2
  ·exact .inr h2
 have hwn : ∀ j, waits ops j i = true → listed.getD j false = false := fun j hj => by
  cases hx : listed.getD j false with
  | false => rfl
  | true => have := hI.closed j i hj hx; rw [hnl] at this; cases this
 refine wpOp_mono (fun a' w' hh => ?_) (h a w hI.size hI.defers hI.below (fun x hx => ?_))
 ·obtain ⟨v, rfl, hb, hv⟩ := hh
  have hdl : ∀ t, (ops[i]?).bind (·.dst) = some t → t < a.tmps.size := fun t hte => by
   rw [ho] at hte
   have h2 := Array.all_eq_true_iff_forall_mem.1 hsz o (Array.mem_of_getElem? ho)
   have h3 : o.dst = some t := hte
   rw [h3] at h2
   rw [hI.size]
   exact of_decide_eq_true h2
  have hli : ∀ j, j ≠ i → (listed.setIfInBounds i true).getD j false = listed.getD j false := fun j hj => getD_set_ne false (Ne.symm hj)
  have hself : (listed.setIfInBounds i true).getD i false = true := by
   rw [Array.getD_eq_getD_getElem?]; simp [hilt]
  refine ⟨?_, ?_, hI.below.trans (hb.mono hI.below.size), fun j d hw hl => ?_, fun j k hjk hl => ?_, fun d hd => ?_⟩
  ·cases hx : (ops[i]?).bind (·.dst) <;> simp [Act.put, hI.size]
  ·cases hx : (ops[i]?).bind (·.dst) <;> simp [Act.put, hI.defers]
  ·rw [getD_put a _ v d hdl]
   by_cases hji : j = i
   ·subst hji
    have : (ops[j]?).bind (·.dst) = some d := by simpa [writes] using hw
    rw [if_pos this]
    exact hv d hw
   ·have hne := (htd j (writes_lt hw) (Ne.symm hji) d hw).1
    rw [if_neg (by intro e; simp [writes, e] at hne)]
    rw [hli j hji] at hl
    exact hV _ _ _ _ (hI.done j d hw hl) hb
  ·by_cases hki : k = i
   ·subst hki; exact hself
   ·rw [hli k hki]
    by_cases hji : j = i
    ·subst hji; exact hwl k hjk
    ·rw [hli j hji] at hl; exact hI.closed j k hjk hl
  ·rw [getD_put a _ v d hdl]
   rw [if_neg]
   ·refine hI.rest d (fun j hw => ?_)
    have := hd j hw
    by_cases hji : j = i
    ·subst hji; rw [hself] at this; cases this
    ·rwa [hli j hji] at this
   ·intro e
    have := hd i (by simp [writes, e])
    rw [hself] at this; cases this
 ·unfold reads at hx
  rw [ho] at hx
  obtain ⟨d, hdm, rfl⟩ := List.mem_map.1 hx
  refine ⟨fun hf => ?_, fun hf => ?_⟩
  ·simp only [List.any_eq_true, List.mem_range, Bool.and_eq_true] at hf
   obtain ⟨j, _, hw, hwt⟩ := hf
   exact hI.done j d hw (hwl j hwt)
  ·refine hI.rest d (fun j hw => ?_)
   by_cases hji : j = i
   ·subst hji; exact hnl
   ·rcases (htd j (writes_lt hw) (Ne.symm hji) d hw).2 hdm with h1 | h1
    ·exfalso
     rw [List.any_eq_false] at hf
     have := hf j (List.mem_range.2 (writes_lt hw))
     simp [hw, h1] at this
    ·exact hwn j h1

/-- The last operation waits for every other one: it is run when all slots are as said. -/
theorem wp_held_last {id : Nat} {a0 : Act} {w0 : World} (hm : P.follows .mixedOrders = true) (V : Nat → Value → World → Prop)
  (hV : ∀ d v w w', V d v w → Below w.heap.size w w' → V d v w') (ht : tidy ops = true) (D : List Nat) (hD : dsts ops = D) (n : Nat) (hn : ops.size = n + 1) (hnd : (ops[n]?).bind (·.dst) = none)
  (hlast : ((List.range n).all fun j => waits ops n j) = true)
  (hsz : (ops.all fun o => match o.dst with | some d => decide (d < a0.tmps.size) | none => true) = true)
  (h : ∀ i, i < n → Owes P ops Q V a0 w0 i)
  (hd : ∀ (f : Nat → Value) w, (∀ d ∈ D, V d (f d) w) → Below w0.heap.size w0 w → wpOp P ops Q n (Q .normal) (putAll a0 (D.map fun d => (d, f d))) w) :
  (Code.region id ops true).wp P Q a0 w0 := by
 have hdr : Below w0.heap.size w0 { w0 with drawn := w0.drawn + 1 } := ⟨rfl, rfl, rfl, Nat.le_refl _, fun _ _ => rfl⟩
 have hnone : ∀ j, (Array.replicate ops.size false).getD j false = false := fun j => by
  rw [Array.getD_eq_getD_getElem?]
  by_cases hj : j < ops.size <;> simp [hj]
 refine wp_inv hm (fun listed a w => (listed.getD n false = false ∧ Inv ops V a0 w0 listed a w) ∨ (listed.getD n false = true ∧ (∀ j, j < n → listed.getD j false = true) ∧ Q .normal a w))
  (.inl ⟨hnone n, rfl, rfl, hdr, fun j d _ hl => ?_, fun j k _ hl => ?_, fun d _ => rfl⟩) ?_ ?_
 ·rw [hnone] at hl; cases hl
 ·rw [hnone] at hl; cases hl
 ·intro listed a w i hI hs hi
  obtain ⟨hun, o, ho, haf⟩ := mem_ready.1 hi
  have hil : i < ops.size := (Array.getElem?_eq_some_iff.1 ho).1
  have hilt : i < listed.size := by omega
  have hnl : listed.getD i false = false := by
   rw [Array.getD_eq_getD_getElem?] at hun ⊢
   simp [hilt] at hun ⊢
   exact hun
  rcases hI with ⟨hln, hI⟩ | ⟨h1, h2, -⟩
  ·by_cases hin : i = n
   ·subst hin
    have hall : ∀ j, j < i → listed.getD j false = true := fun j hj => by
     have hw := List.all_eq_true.1 hlast j (List.mem_range.2 hj)
     unfold waits at hw
     rw [ho] at hw
     simp only [Option.map_some, Option.getD_some, Array.any_eq_true', Bool.and_eq_true, beq_iff_eq] at hw
     obtain ⟨e, he, rfl, hb⟩ := hw
     exact haf e he hb
    subst hD
    have hwn : ∀ j d, writes ops j d = true → j < i := fun j d hw => by
     have := writes_lt hw
     rcases Nat.lt_or_ge j i with h | h
     ·exact h
     ·obtain rfl : j = i := by omega
      simp [writes, hnd] at hw
    have e := putAll_eq a (dsts ops) a0 hI.size hI.defers (fun d hdm => by
     obtain ⟨j, hj⟩ := mem_dsts.1 hdm
     unfold writes at hj
     cases hx : ops[j]? with
     | none => rw [hx] at hj; simp at hj
     | some o =>
      rw [hx] at hj
      have h3 : o.dst = some d := by simpa using hj
      have h2 := Array.all_eq_true_iff_forall_mem.1 hsz o (Array.mem_of_getElem? hx)
      rw [h3] at h2
      exact of_decide_eq_true h2) (fun d hn => hI.rest d (fun j hw => absurd (mem_dsts.2 ⟨j, hw⟩) hn))
    rw [e]
    refine wpOp_mono (fun a' w' hq => .inr ⟨?_, fun j hj => ?_, hq⟩) (hd (fun d => a.tmps.getD d undef) w (fun d hdm => by obtain ⟨j, hj⟩ := mem_dsts.1 hdm; exact hI.done j d hj (hall j (hwn j d hj))) hI.below)
    ·rw [Array.getD_eq_getD_getElem?]; simp [hilt]
    ·rw [getD_set_ne false (by omega)]; exact hall j hj
   ·refine wpOp_mono (fun a' w' hq => .inl ⟨?_, hq⟩) (inv_step hV ht hsz hI hs hi (h i (by omega)))
    rw [getD_set_ne false hin]; exact hln
  ·exfalso
   rcases Nat.lt_or_ge i n with hlt | hge
   ·rw [h2 i hlt] at hnl; cases hnl
   ·obtain rfl : i = n := by omega
    rw [h1] at hnl; cases hnl
 ·intro listed a w hI hs hr
  have hal := all_listed ht hr hs
  rcases hI with ⟨h1, -⟩ | ⟨-, -, hq⟩
  ·rw [hal n (by omega)] at h1; cases h1
  ·exact hq

theorem wpOp_last {n : Nat} {o : Oper} {a : Act} {w : World} (ho : ops[n]? = some o) (h : wpList P ops Q [o] a w) : wpOp P ops Q n (Q .normal) a w := by
 unfold wpOp; rw [ho]; exact h

theorem op_lookup_int {H : Type} (w : World) {o : Oper} {a : Act} {K' : Act → World → Prop} (m x : Operand) (t : TypeId) (hop : o.op = Op.lookup t m x false)
  (k e : TypeId) (q : IntKind) (K : Keyed P k) (ht : P.underlying t = some (.map k e)) (he : P.underlying e = some (.int q)) (hz : (zeroValue e).run P w = .ok (.int q 0) w) (b n : Nat) (D : DataW H)
  (hm : a.eval m = .map (some b)) (hown : w.ownsMap P k (plainElem P e) b n D) (key : Value) (kl : Lit) (hx : a.eval x = key) (hkey : keyOf P k key = some kl)
  (hK : ∀ c : Int, D.atKey kl (.lit (.int q 0)) = .lit (.int q c) → (Lit.int q c).wf = true → K' (a.put o.dst (.int q c)) w) : o.wp P a w K' Q := by
 obtain ⟨c, hrun, hat, hwc⟩ := hown.lookup_int K ht he hz hkey
 unfold Oper.wp
 simp [execOp, hop, hm, hx, hrun, Result.andThen]
 exact hK c hat hwc
end
end Go.Proofs.YtfchglcclgcgfaaGreatDoor.Reg
/-
 A region that draws its order and whose last operation waits for all the others, at once or by way of others. No condition.
-/
namespace Go.Proofs.YtfchglcclgcgfaaGreatDoor.Reg
open Go.RowKit Go.Maps
set_option linter.unusedVariables false
set_option linter.unusedSimpArgs false

section
variable {P : Program} {ops : Array Oper} {Q : Exit → Act → World → Prop}

/-- Operation i waits for j, at once or by way of others. -/
def far (ops : Array Oper) : Nat → Nat → Nat → Bool
 | 0, _, _ => false
 | f + 1, i, j => waits ops i j || (List.range ops.size).any fun k => waits ops i k && far ops f k j
theorem far_listed {listed : Array Bool} (hc : ∀ j k, waits ops j k = true → listed.getD j false = true → listed.getD k false = true) : ∀ f k j, listed.getD k false = true → far ops f k j = true → listed.getD j false = true
 | 0, k, j, _, h => by simp [far] at h
 | f + 1, k, j, hk, h => by
  simp only [far, Bool.or_eq_true, List.any_eq_true, List.mem_range, Bool.and_eq_true] at h
  rcases h with h | ⟨m, _, h1, h2⟩
  ·exact hc k j h hk
  ·exact far_listed hc f m j (hc k m h1 hk) h2
theorem far_once {listed : Array Bool} {i f j : Nat} (hw : ∀ k, waits ops i k = true → listed.getD k false = true) (hc : ∀ j k, waits ops j k = true → listed.getD j false = true → listed.getD k false = true) (h : far ops f i j = true) : listed.getD j false = true := by
 cases f with
 | zero => simp [far] at h
 | succ f =>
  simp only [far, Bool.or_eq_true, List.any_eq_true, List.mem_range, Bool.and_eq_true] at h
  rcases h with h | ⟨m, _, h1, h2⟩
  ·exact hw j h
  ·exact far_listed hc f m j (hw m h1) h2

/-- The last operation waits for every other one, if not at once then by way of others: it is run when all slots are as said. -/
theorem wp_held_far {id : Nat} {a0 : Act} {w0 : World} (hm : P.follows .mixedOrders = true) (V : Nat → Value → World → Prop)
  (hV : ∀ d v w w', V d v w → Below w.heap.size w w' → V d v w') (ht : tidy ops = true) (D : List Nat) (hD : dsts ops = D) (n : Nat) (hn : ops.size = n + 1) (hnd : (ops[n]?).bind (·.dst) = none)
  (hlast : ((List.range n).all fun j => far ops 4 n j) = true)
  (hsz : (ops.all fun o => match o.dst with | some d => decide (d < a0.tmps.size) | none => true) = true)
  (h : ∀ i, i < n → Owes P ops Q V a0 w0 i)
  (hd : ∀ (f : Nat → Value) w, (∀ d ∈ D, V d (f d) w) → Below w0.heap.size w0 w → wpOp P ops Q n (Q .normal) (putAll a0 (D.map fun d => (d, f d))) w) :
  (Code.region id ops true).wp P Q a0 w0 := by
 have hdr : Below w0.heap.size w0 { w0 with drawn := w0.drawn + 1 } := ⟨rfl, rfl, rfl, Nat.le_refl _, fun _ _ => rfl⟩
 have hnone : ∀ j, (Array.replicate ops.size false).getD j false = false := fun j => by
  rw [Array.getD_eq_getD_getElem?]
  by_cases hj : j < ops.size <;> simp [hj]
 refine wp_inv hm (fun listed a w => (listed.getD n false = false ∧ Inv ops V a0 w0 listed a w) ∨ (listed.getD n false = true ∧ (∀ j, j < n → listed.getD j false = true) ∧ Q .normal a w))
  (.inl ⟨hnone n, rfl, rfl, hdr, fun j d _ hl => ?_, fun j k _ hl => ?_, fun d _ => rfl⟩) ?_ ?_
 ·rw [hnone] at hl; cases hl
 ·rw [hnone] at hl; cases hl
 ·intro listed a w i hI hs hi
  obtain ⟨hun, o, ho, haf⟩ := mem_ready.1 hi
  have hil : i < ops.size := (Array.getElem?_eq_some_iff.1 ho).1
  have hilt : i < listed.size := by omega
  have hnl : listed.getD i false = false := by
   rw [Array.getD_eq_getD_getElem?] at hun ⊢
   simp [hilt] at hun ⊢
   exact hun
  rcases hI with ⟨hln, hI⟩ | ⟨h1, h2, -⟩
  ·by_cases hin : i = n
   ·subst hin
    have hall : ∀ j, j < i → listed.getD j false = true := fun j hj => by
     have hw := List.all_eq_true.1 hlast j (List.mem_range.2 hj)
     refine far_once (fun k hk => ?_) hI.closed hw
     unfold waits at hk
     rw [ho] at hk
     simp only [Option.map_some, Option.getD_some, Array.any_eq_true', Bool.and_eq_true, beq_iff_eq] at hk
     obtain ⟨e, he, rfl, hb⟩ := hk
     exact haf e he hb
    subst hD
    have hwn : ∀ j d, writes ops j d = true → j < i := fun j d hw => by
     have := writes_lt hw
     rcases Nat.lt_or_ge j i with h | h
     ·exact h
     ·obtain rfl : j = i := by omega
      simp [writes, hnd] at hw
    have e := putAll_eq a (dsts ops) a0 hI.size hI.defers (fun d hdm => by
     obtain ⟨j, hj⟩ := mem_dsts.1 hdm
     unfold writes at hj
     cases hx : ops[j]? with
     | none => rw [hx] at hj; simp at hj
     | some o =>
      rw [hx] at hj
      have h3 : o.dst = some d := by simpa using hj
      have h2 := Array.all_eq_true_iff_forall_mem.1 hsz o (Array.mem_of_getElem? hx)
      rw [h3] at h2
      exact of_decide_eq_true h2) (fun d hn => hI.rest d (fun j hw => absurd (mem_dsts.2 ⟨j, hw⟩) hn))
    rw [e]
    refine wpOp_mono (fun a' w' hq => .inr ⟨?_, fun j hj => ?_, hq⟩) (hd (fun d => a.tmps.getD d undef) w (fun d hdm => by obtain ⟨j, hj⟩ := mem_dsts.1 hdm; exact hI.done j d hj (hall j (hwn j d hj))) hI.below)
    ·rw [Array.getD_eq_getD_getElem?]; simp [hilt]
    ·rw [getD_set_ne false (by omega)]; exact hall j hj
   ·refine wpOp_mono (fun a' w' hq => .inl ⟨?_, hq⟩) (inv_step hV ht hsz hI hs hi (h i (by omega)))
    rw [getD_set_ne false hin]; exact hln
  ·exfalso
   rcases Nat.lt_or_ge i n with hlt | hge
   ·rw [h2 i hlt] at hnl; cases hnl
   ·obtain rfl : i = n := by omega
    rw [h1] at hnl; cases hnl
 ·intro listed a w hI hs hr
  have hal := all_listed ht hr hs
  rcases hI with ⟨h1, -⟩ | ⟨-, -, hq⟩
  ·rw [hal n (by omega)] at h1; cases h1
  ·exact hq

end
end Go.Proofs.YtfchglcclgcgfaaGreatDoor.Reg
/-
 cluster.made. Condition: the two tables of unicode/utf8 lie as laid.
-/
namespace Go.Proofs.YtfchglcclgcgfaaGreatDoor.Ut
open Go.RowKit Go.Proofs.YtfchglcclgcgfaaGreatDoor.Reg
set_option linter.unusedVariables false
set_option linter.unusedSimpArgs false

theorem mixed : Tryz.prog.follows .mixedOrders = true := by kernel_rfl

def crlf (s : ByteArray) (i : Nat) : Bool := decide (atC s i = 13) && Lib.hasPrefix (from_ s (i + 1)).data.toList [10]
def clC (s : ByteArray) (i : Nat) : Int := if crlf s i = true then 1 else classF (atC s i)
def clW (s : ByteArray) (i : Nat) : Int := if crlf s i = true then 0 else cellsF (atC s i)
def mkCl (s : ByteArray) (i : Nat) (tq : Int) : Value := .agg #[.int .i64 i, .int .i64 tq, .int .i64 (clC s i), .int .i64 (clW s i)]

/-- Four cells of block g. -/
structure Four (W : World) (g : Nat) (a b c d : Value) : Prop where
 lt : g < W.heap.size
 c0 : W.cell? ⟨g, 0, none⟩ = some a
 c1 : W.cell? ⟨g, 1, none⟩ = some b
 c2 : W.cell? ⟨g, 2, none⟩ = some c
 c3 : W.cell? ⟨g, 3, none⟩ = some d
 f0 : W.frozen? ⟨g, 0, none⟩ = false
 f1 : W.frozen? ⟨g, 1, none⟩ = false
 f2 : W.frozen? ⟨g, 2, none⟩ = false
 f3 : W.frozen? ⟨g, 3, none⟩ = false
theorem Four.below {W W' : World} {g : Nat} {a b c d : Value} (h : Four W g a b c d) (hb : Below W.heap.size W W') : Four W' g a b c d :=
 ⟨Nat.lt_of_lt_of_le h.lt hb.size, (hb.cell (p := ⟨g, 0, none⟩) h.lt).trans h.c0, (hb.cell (p := ⟨g, 1, none⟩) h.lt).trans h.c1, (hb.cell (p := ⟨g, 2, none⟩) h.lt).trans h.c2, (hb.cell (p := ⟨g, 3, none⟩) h.lt).trans h.c3,
   (hb.frozen (p := ⟨g, 0, none⟩) h.lt).trans h.f0, (hb.frozen (p := ⟨g, 1, none⟩) h.lt).trans h.f1, (hb.frozen (p := ⟨g, 2, none⟩) h.lt).trans h.f2, (hb.frozen (p := ⟨g, 3, none⟩) h.lt).trans h.f3⟩
theorem Four.chg {S : Nat → Prop} {W W' : World} {g : Nat} {a b c d : Value} (h : Four W g a b c d) (hb : Chg S W W') (hS : ¬ S g) : Four W' g a b c d :=
 ⟨Nat.lt_of_lt_of_le h.lt hb.size, (hb.cell (p := ⟨g, 0, none⟩) h.lt hS).trans h.c0, (hb.cell (p := ⟨g, 1, none⟩) h.lt hS).trans h.c1, (hb.cell (p := ⟨g, 2, none⟩) h.lt hS).trans h.c2, (hb.cell (p := ⟨g, 3, none⟩) h.lt hS).trans h.c3,
   (hb.frozen (p := ⟨g, 0, none⟩) h.lt hS).trans h.f0, (hb.frozen (p := ⟨g, 1, none⟩) h.lt hS).trans h.f1, (hb.frozen (p := ⟨g, 2, none⟩) h.lt hS).trans h.f2, (hb.frozen (p := ⟨g, 3, none⟩) h.lt hS).trans h.f3⟩
theorem Four.new (W : World) (a b c d : Value) (t : TypeId) : Four (W.alloc (.cells #[a, b, c, d] t)) W.heap.size a b c d := by
 constructor <;> simp
theorem setAt (W : World) (g k j : Nat) (v u : Value) (h : W.cell? ⟨g, j, none⟩ = some u) : (W.setCell ⟨g, k, none⟩ v).cell? ⟨g, j, none⟩ = some (if j = k then v else u) := by
 by_cases hjk : j = k
 ·subst hjk; rw [if_pos rfl]; exact World.cell?_setCell_same _ _ _ h
 ·rw [if_neg hjk]; exact (World.cell?_setCell_other _ _ _ _ (by simp [fun e => hjk (Eq.symm e)])).trans h
theorem frozen_set (W : World) (p q : Addr) (v : Value) : (W.setCell p v).frozen? q = W.frozen? q := by simp
theorem Four.set {W : World} {g : Nat} {a b c d : Value} (h : Four W g a b c d) (k : Nat) (v : Value) :
  Four (W.setCell ⟨g, k, none⟩ v) g (if 0 = k then v else a) (if 1 = k then v else b) (if 2 = k then v else c) (if 3 = k then v else d) :=
 ⟨Nat.lt_of_lt_of_le h.lt (Chg.set W ⟨g, k, none⟩ v).size, setAt _ _ _ _ _ _ h.c0, setAt _ _ _ _ _ _ h.c1, setAt _ _ _ _ _ _ h.c2, setAt _ _ _ _ _ _ h.c3, (frozen_set _ _ _ _).trans h.f0, (frozen_set _ _ _ _).trans h.f1, (frozen_set _ _ _ _).trans h.f2, (frozen_set _ _ _ _).trans h.f3⟩
theorem Four.all {W : World} {g : Nat} {a b c d : Value} (h : Four W g a b c d) (a' b' c' d' : Value) :
  Four ((((W.setCell ⟨g, 0, none⟩ a').setCell ⟨g, 1, none⟩ b').setCell ⟨g, 2, none⟩ c').setCell ⟨g, 3, none⟩ d') g a' b' c' d' := by
 simpa using (((h.set 0 a').set 1 b').set 2 c').set 3 d'
theorem Four.there {W : World} {g : Nat} {a b c d : Value} (h : Four W g a b c d) : W.there g 0 4 := by
 intro j hj
 rcases (by omega : j = 0 ∨ j = 1 ∨ j = 2 ∨ j = 3) with rfl | rfl | rfl | rfl <;> simp [h.c0, h.c1, h.c2, h.c3, h.f0, h.f1, h.f2, h.f3]
theorem Four.chg_all (W : World) (g : Nat) (a' b' c' d' : Value) : Chg (fun k => k = g) W ((((W.setCell ⟨g, 0, none⟩ a').setCell ⟨g, 1, none⟩ b').setCell ⟨g, 2, none⟩ c').setCell ⟨g, 3, none⟩ d') :=
 (((Chg.set W ⟨g, 0, none⟩ _).trans (Chg.set _ ⟨g, 1, none⟩ _) (fun _ _ h => h)).trans (Chg.set _ ⟨g, 2, none⟩ _) (fun _ _ h => h)).trans (Chg.set _ ⟨g, 3, none⟩ _) (fun _ _ h => h)

def VMade (s : ByteArray) (i : Nat) (tq C : Int) (g0 base : Nat) : Nat → Value → World → Prop := fun d v w => match d with
 | 16 => v = .int .i64 i
 | 17 => v = .int .i64 tq
 | 18 => v = .pointer (some ⟨g0, 0, none⟩)
 | 19 => v = .int .i32 C
 | 20 => v = .int .i64 (classF C)
 | 21 => v = .pointer (some ⟨g0, 0, none⟩)
 | 22 => v = .int .i32 C
 | 23 => v = .int .i64 (cellsF C)
 | 24 => v = .agg #[.int .i64 i, .int .i64 tq, .int .i64 (classF C), .int .i64 (cellsF C)]
 | 9 => ∃ g, v = .pointer (some ⟨g, 0, none⟩) ∧ base ≤ g ∧ Four w g (.int .i64 0) (.int .i64 0) (.int .i64 0) (.int .i64 0)
 | _ => True
theorem VMade_mono (s : ByteArray) (i : Nat) (tq C : Int) (g0 base : Nat) : ∀ d v w w', VMade s i tq C g0 base d v w → Below w.heap.size w w' → VMade s i tq C g0 base d v w' := by
 intro d v w w' h hb
 unfold VMade at *
 split <;> first | exact h | exact trivial | skip
 obtain ⟨g, h1, h2, h3⟩ := h
 exact ⟨g, h1, h2, h3.below hb⟩

set_option maxRecDepth 100000 in
set_option maxHeartbeats 1000000 in
theorem made_any (s : ByteArray) (i : Nat) (tq : Int) (w : World) (hT : Tabs w) (hs : s.size ≤ 140737488355328) (hi : i < s.size) :
  Calls Tryz.prog 131 #[.string s, .int .i64 i, .int .i64 tq] w fun e w' => e = .returned (mkCl s i tq) ∧ Below w.heap.size w w' := by
 have HT := Lib.hid hT
 clear hT
 unfold mkCl
 obtain ⟨RC, hRC⟩ : ∃ R, clC s i = R := ⟨_, rfl⟩
 have HRC := Lib.hid hRC
 obtain ⟨RW, hRW⟩ : ∃ R, clW s i = R := ⟨_, rfl⟩
 have HRW := Lib.hid hRW
 rw [hRC, hRW]
 clear hRC hRW
 go_enter Tryz.func131, Tryz.ntmps131
 go_wp2_with fail
 have k1 := Four.new w (.int .i64 0) (.int .i64 0) (.int .i64 0) (.int .i64 0) 99
 have b1 : Below w.heap.size w (w.alloc (.cells #[.int .i64 0, .int .i64 0, .int .i64 0, .int .i64 0] 99)) := (Below.refl _ _).alloc (Nat.le_refl _) _
 generalize (w.alloc (.cells #[.int .i64 0, .int .i64 0, .int .i64 0, .int .i64 0] 99)) = w1 at *
 refine (At_any s i w1 (tabs_below HT.out b1) hs hi).mono ?_
 rintro e w2 ⟨rfl, hb2⟩
 have k2 := k1.below hb2
 have b2 := b1.trans (hb2.mono b1.size)
 clear hb2 k1 b1
 have hcr : crlf s i = (decide (atC s i = 13) && Lib.hasPrefix (from_ s (i + 1)).data.toList [10]) := rfl
 unfold clC at HRC
 unfold clW at HRW
 rw [hcr] at HRC HRW
 clear hcr
 generalize atC s i = C at *
 generalize atN s i = N1 at *
 generalize boundF s i = bd at *
 have K2 := Lib.hid k2
 have B2 := Lib.hid b2
 clear k2 b2
 go_wp2_with fail
 have b3 : Below w2.heap.size w2 (w2.alloc (.cells #[.int .i32 C, .int .i64 N1] 137)) := (Below.refl _ _).alloc (Nat.le_refl _) _
 have c3 := (boxed (w := w2) (x := .int .i32 C) (y := .int .i64 N1) (t := 137)).1
 have l3 : w2.heap.size < (w2.alloc (.cells #[.int .i32 C, .int .i64 N1] 137)).heap.size := by simp
 have l2 : w.heap.size ≤ w2.heap.size := B2.out.size
 generalize (w2.alloc (.cells #[.int .i32 C, .int .i64 N1] 137)) = w3 at *
 have K3 := Lib.hid (K2.out.below b3)
 have B3 := Lib.hid (B2.out.trans (b3.mono B2.out.size))
 clear b3
 generalize w2.heap.size = g0 at *
 clear K2 B2
 refine wp_held_far mixed (VMade s i tq C g0 w3.heap.size) (VMade_mono _ _ _ _ _ _) (by kernel_rfl) [16, 17, 18, 19, 20, 21, 22, 23, 24, 9] (by kernel_rfl) 10 (by kernel_rfl) (by kernel_rfl) (by kernel_rfl) (by kernel_rfl) ?_ ?_
 ·intro j hj
  have hj' : j < 10 := hj
  rcases (by omega : j = 0 ∨ j = 1 ∨ j = 2 ∨ j = 3 ∨ j = 4 ∨ j = 5 ∨ j = 6 ∨ j = 7 ∨ j = 8 ∨ j = 9) with rfl | rfl | rfl | rfl | rfl | rfl | rfl | rfl | rfl | rfl
  ·(refine owes_val (L := [(1, false)]) rfl rfl rfl (by kernel_rfl) ?_; intro a' w' hb' hfacts; obtain ⟨hf1, -⟩ := hfacts; replace hf1 : a'.tmps[1]?.getD undef = .int .i64 i := hf1)
   have q0 := (hb'.cell (p := ⟨g0, 0, none⟩) l3).trans c3
   (go_simp; first | exact ⟨_, rfl, Br _, rfl⟩ | exact ⟨_, rfl, Br _, trivial⟩ | exact ⟨_, rfl, Ba _ _, trivial⟩ | exact ⟨_, rfl, Br _, congrArg (Value.int _) (IntWalk.i64_in _ (by omega))⟩)
  ·(refine owes_val (L := [(2, false)]) rfl rfl rfl (by kernel_rfl) ?_; intro a' w' hb' hfacts; obtain ⟨hf2, -⟩ := hfacts; replace hf2 : a'.tmps[2]?.getD undef = .int .i64 tq := hf2)
   have q0 := (hb'.cell (p := ⟨g0, 0, none⟩) l3).trans c3
   (go_simp; first | exact ⟨_, rfl, Br _, rfl⟩ | exact ⟨_, rfl, Br _, trivial⟩ | exact ⟨_, rfl, Ba _ _, trivial⟩ | exact ⟨_, rfl, Br _, congrArg (Value.int _) (IntWalk.i64_in _ (by omega))⟩)
  ·(refine owes_val (L := [(7, false)]) rfl rfl rfl (by kernel_rfl) ?_; intro a' w' hb' hfacts; obtain ⟨hf7, -⟩ := hfacts; replace hf7 : a'.tmps[7]?.getD undef = .pointer (some ⟨g0, 0, none⟩) := hf7)
   have q0 := (hb'.cell (p := ⟨g0, 0, none⟩) l3).trans c3
   (go_simp; first | exact ⟨_, rfl, Br _, rfl⟩ | exact ⟨_, rfl, Br _, trivial⟩ | exact ⟨_, rfl, Ba _ _, trivial⟩ | exact ⟨_, rfl, Br _, congrArg (Value.int _) (IntWalk.i64_in _ (by omega))⟩)
  ·(refine owes_val (L := [(18, true)]) rfl rfl rfl (by kernel_rfl) ?_; intro a' w' hb' hfacts; obtain ⟨hf18, -⟩ := hfacts; try simp only [VMade] at hf18)
   have q0 := (hb'.cell (p := ⟨g0, 0, none⟩) l3).trans c3
   (go_simp; first | exact ⟨_, rfl, Br _, rfl⟩ | exact ⟨_, rfl, Br _, trivial⟩ | exact ⟨_, rfl, Ba _ _, trivial⟩ | exact ⟨_, rfl, Br _, congrArg (Value.int _) (IntWalk.i64_in _ (by omega))⟩)
  ·(refine owes_val (L := [(19, true)]) rfl rfl rfl (by kernel_rfl) ?_; intro a' w' hb' hfacts; obtain ⟨hf19, -⟩ := hfacts; try simp only [VMade] at hf19)
   go_simp
   refine (Class_any C _).mono ?_
   rintro e w4 ⟨rfl, hb4⟩
   exact ⟨_, rfl, hb4, rfl⟩
  ·(refine owes_val (L := [(7, false)]) rfl rfl rfl (by kernel_rfl) ?_; intro a' w' hb' hfacts; obtain ⟨hf7, -⟩ := hfacts; replace hf7 : a'.tmps[7]?.getD undef = .pointer (some ⟨g0, 0, none⟩) := hf7)
   have q0 := (hb'.cell (p := ⟨g0, 0, none⟩) l3).trans c3
   (go_simp; first | exact ⟨_, rfl, Br _, rfl⟩ | exact ⟨_, rfl, Br _, trivial⟩ | exact ⟨_, rfl, Ba _ _, trivial⟩ | exact ⟨_, rfl, Br _, congrArg (Value.int _) (IntWalk.i64_in _ (by omega))⟩)
  ·(refine owes_val (L := [(21, true)]) rfl rfl rfl (by kernel_rfl) ?_; intro a' w' hb' hfacts; obtain ⟨hf21, -⟩ := hfacts; try simp only [VMade] at hf21)
   have q0 := (hb'.cell (p := ⟨g0, 0, none⟩) l3).trans c3
   (go_simp; first | exact ⟨_, rfl, Br _, rfl⟩ | exact ⟨_, rfl, Br _, trivial⟩ | exact ⟨_, rfl, Ba _ _, trivial⟩ | exact ⟨_, rfl, Br _, congrArg (Value.int _) (IntWalk.i64_in _ (by omega))⟩)
  ·(refine owes_val (L := [(22, true)]) rfl rfl rfl (by kernel_rfl) ?_; intro a' w' hb' hfacts; obtain ⟨hf22, -⟩ := hfacts; try simp only [VMade] at hf22)
   go_simp
   refine (Cells_any C _).mono ?_
   rintro e w4 ⟨rfl, hb4⟩
   exact ⟨_, rfl, hb4, rfl⟩
  ·(refine owes_val (L := [(16, true), (17, true), (20, true), (23, true)]) rfl rfl rfl (by kernel_rfl) ?_; intro a' w' hb' hfacts; obtain ⟨hf16, hf17, hf20, hf23, -⟩ := hfacts; try simp only [VMade] at hf16; try simp only [VMade] at hf17; try simp only [VMade] at hf20; try simp only [VMade] at hf23)
   have q0 := (hb'.cell (p := ⟨g0, 0, none⟩) l3).trans c3
   (go_simp; first | exact ⟨_, rfl, Br _, rfl⟩ | exact ⟨_, rfl, Br _, trivial⟩ | exact ⟨_, rfl, Ba _ _, trivial⟩ | exact ⟨_, rfl, Br _, congrArg (Value.int _) (IntWalk.i64_in _ (by omega))⟩)
  ·(refine owes_val (L := []) rfl rfl rfl (by kernel_rfl) ?_; intro a' w' hb' hfacts; clear hfacts)
   go_simp
   refine ⟨_, rfl, (Below.refl _ _).alloc (Nat.le_refl _) _, _, rfl, hb'.size, Four.new _ _ _ _ _ _⟩
 ·intro f W3 hf hb3
  have f24 : f 24 = .agg #[.int .i64 i, .int .i64 tq, .int .i64 (classF C), .int .i64 (cellsF C)] := hf 24 (by decide)
  obtain ⟨g, f9, hg, k9⟩ : ∃ g, f 9 = .pointer (some ⟨g, 0, none⟩) ∧ w3.heap.size ≤ g ∧ Four W3 g (.int .i64 0) (.int .i64 0) (.int .i64 0) (.int .i64 0) := hf 9 (by decide)
  have hc0 := (hb3.cell (p := ⟨g0, 0, none⟩) l3).trans c3
  have l4 : g0 < W3.heap.size := Nat.lt_of_lt_of_le l3 hb3.size
  have HB3 := Lib.hid (B3.out.trans (hb3.mono B3.out.size))
  have K4 := Lib.hid (K3.out.below hb3)
  clear hf hb3
  simp only [putAll, put_lit, List.map_cons, List.map_nil, List.set_cons_succ, List.set_cons_zero]
  simp only [f24, f9]
  refine wpOp_last rfl ?_
  have K9 := Lib.hid k9
  refine wpList_store_mid rfl 99 (.tmp 9) (.tmp 24) rfl g 0 #[.int .i64 i, .int .i64 tq, .int .i64 (classF C), .int .i64 (cellsF C)] rfl rfl K9.out.there (by kernel_rfl) (by simp [Value.oneCell']) ?_
  have hset : W3.setCells g 0 (#[.int .i64 i, .int .i64 tq, .int .i64 (classF C), .int .i64 (cellsF C)] : Array Value).toList = ((((W3.setCell ⟨g, 0, none⟩ (.int .i64 i)).setCell ⟨g, 1, none⟩ (.int .i64 tq)).setCell ⟨g, 2, none⟩ (.int .i64 (classF C))).setCell ⟨g, 3, none⟩ (.int .i64 (cellsF C))) := rfl
  rw [hset]
  have K10 := (k9.all (.int .i64 i) (.int .i64 tq) (.int .i64 (classF C)) (.int .i64 (cellsF C)))
  have CH := Four.chg_all W3 g (.int .i64 i) (.int .i64 tq) (.int .i64 (classF C)) (.int .i64 (cellsF C))
  generalize ((((W3.setCell ⟨g, 0, none⟩ (.int .i64 i)).setCell ⟨g, 1, none⟩ (.int .i64 tq)).setCell ⟨g, 2, none⟩ (.int .i64 (classF C))).setCell ⟨g, 3, none⟩ (.int .i64 (cellsF C))) = W4 at *
  have hc1 := (CH.cell (p := ⟨g0, 0, none⟩) l4 (by intro (h : g0 = g); omega)).trans hc0
  have l5 := Nat.lt_of_lt_of_le l4 CH.size
  have hgw : w.heap.size < g := by have := K3.out.lt; omega
  have K5 := (K4.out.chg CH (by intro (h : w.heap.size = g); omega))
  have B5 := Lib.hid ((Chg.of_below HB3.out).trans CH (T := fun k => k = g) (S := fun k => k = g) (fun x _ h => h) |>.below_le (Nat.le_refl _) (fun x hx => by rw [hx]; omega))
  clear hset CH HB3 K4 hc0 l4 K9 k9 f24 f9 K3
  generalize f 16 = x16
  generalize f 17 = x17
  generalize f 18 = x18
  generalize f 19 = x19
  generalize f 20 = x20
  generalize f 21 = x21
  generalize f 22 = x22
  generalize f 23 = x23
  generalize classF C = cc at *
  generalize cellsF C = cw at *
  rcases Bool.eq_false_or_eq_true (C == 13) with hq | hq
  ·have h13 : C = 13 := by simpa using hq
   have hex : s.extract (i + 1) s.size = from_ s (i + 1) := rfl
   have hi1 : (i : Int) + 1 ≤ (s.size : Int) := by omega
   obtain ⟨p, hp⟩ : ∃ p, Lib.hasPrefix (from_ s (i + 1)).data.toList [10] = p := ⟨_, rfl⟩
   rw [h13, hp] at HRC HRW
   have HP := Lib.hid hp
   clear hp
   go_wp2_with fail
   refine (Tryz.strings_HasPrefix (from_ s (i + 1)) _ _).mono ?_
   rintro e w5 ⟨rfl, rfl⟩
   have hp2 : Lib.hasPrefix (from_ s (i + 1)).data.toList (ByteArray.mk #[10]).data.toList = p := HP.out
   rw [hp2]
   clear hp2 HP
   cases p with
   | true =>
    have hr1 : RC = 1 := by rw [← HRC.out]; simp
    have hr2 : RW = 0 := by rw [← HRW.out]; simp
    subst hr1 hr2
    clear HRC HRW
    have K11 := (K10.set 2 (.int .i64 1)).set 3 (.int .i64 0)
    have CH := (Chg.set w5 ⟨g, 2, none⟩ (.int .i64 1)).trans (Chg.set _ ⟨g, 3, none⟩ (.int .i64 0)) (fun _ _ h => h)
    simp at K11
    obtain ⟨-, y0, y1, y2, y3, -, -, fy2, fy3⟩ := K10
    have ne1 : w.heap.size ≠ g := by omega
    have ne2 : g ≠ w.heap.size := by omega
    have K6 := Lib.hid ((K5.chg CH ne1).all (.int .i64 i) (.int .i64 tq) (.int .i64 1) (.int .i64 0))
    have CHH := Lib.hid CH
    obtain ⟨-, z0, z1, z2, z3, e0, e1, e2, e3⟩ := K5
    clear CH K11
    go_wp2
    obtain ⟨-, j0, j1, j2, j3, -, -, -, -⟩ := K6.out
    refine bodyPost_ret (v := .agg #[.int .i64 i, .int .i64 tq, .int .i64 1, .int .i64 0]) (by simp [results, Tryz.results131, go_sem, j0, j1, j2, j3]) rfl ⟨rfl, ?_⟩
    exact ((Chg.of_below B5.out).trans CHH.out (T := fun k => k = g) (S := fun k => w.heap.size ≤ k) (fun x _ h => by have : x = g := h; omega)).trans (Four.chg_all _ _ _ _ _ _) (T := fun k => k = w.heap.size) (S := fun k => w.heap.size ≤ k) (fun x _ h => by have : x = w.heap.size := h; omega) |>.below_le (Nat.le_refl _) (fun x hx => hx)
   | false =>
    have hr1 : RC = cc := by rw [← HRC.out]; simp
    have hr2 : RW = cw := by rw [← HRW.out]; simp
    subst hr1 hr2
    clear HRC HRW
    obtain ⟨-, y0, y1, y2, y3, -, -, -, -⟩ := K10
    have K6 := Lib.hid (K5.all (.int .i64 i) (.int .i64 tq) (.int .i64 RC) (.int .i64 RW))
    obtain ⟨-, z0, z1, z2, z3, e0, e1, e2, e3⟩ := K5
    go_wp2
    obtain ⟨-, j0, j1, j2, j3, -, -, -, -⟩ := K6.out
    refine bodyPost_ret (v := .agg #[.int .i64 i, .int .i64 tq, .int .i64 RC, .int .i64 RW]) (by simp [results, Tryz.results131, go_sem, j0, j1, j2, j3]) rfl ⟨rfl, ?_⟩
    exact (Chg.of_below B5.out).trans (Four.chg_all _ _ _ _ _ _) (T := fun k => k = w.heap.size) (S := fun k => k = w.heap.size) (fun x _ h => h) |>.below_le (Nat.le_refl _) (fun x hx => by rw [hx]; exact Nat.le_refl _)
  ·have hr1 : RC = cc := by rw [← HRC.out]; simp [show C ≠ 13 by simpa using hq]
   have hr2 : RW = cw := by rw [← HRW.out]; simp [show C ≠ 13 by simpa using hq]
   subst hr1 hr2
   clear HRC HRW
   obtain ⟨-, y0, y1, y2, y3, -, -, -, -⟩ := K10
   have K6 := Lib.hid (K5.all (.int .i64 i) (.int .i64 tq) (.int .i64 RC) (.int .i64 RW))
   obtain ⟨-, z0, z1, z2, z3, e0, e1, e2, e3⟩ := K5
   go_wp2
   obtain ⟨-, j0, j1, j2, j3, -, -, -, -⟩ := K6.out
   refine bodyPost_ret (v := .agg #[.int .i64 i, .int .i64 tq, .int .i64 RC, .int .i64 RW]) (by simp [results, Tryz.results131, go_sem, j0, j1, j2, j3]) rfl ⟨rfl, ?_⟩
   exact (Chg.of_below B5.out).trans (Four.chg_all _ _ _ _ _ _) (T := fun k => k = w.heap.size) (S := fun k => k = w.heap.size) (fun x _ h => h) |>.below_le (Nat.le_refl _) (fun x hx => by rw [hx]; exact Nat.le_refl _)
end Go.Proofs.YtfchglcclgcgfaaGreatDoor.Ut
/-
 cluster.Walk: its iterator, for every loop body that keeps what lay. Condition: the two tables of unicode/utf8 lie as laid.
-/
namespace Go.Proofs.YtfchglcclgcgfaaGreatDoor.Ut
open Go.RowKit Go.Proofs.YtfchglcclgcgfaaGreatDoor.Reg
set_option linter.unusedVariables false
set_option linter.unusedSimpArgs false

/-- What a round keeps: the blocks below n₀, and the iterator's box. -/
structure Kp2 (n₀ Bx : Nat) (W W' : World) : Prop where
 size : W.heap.size ≤ W'.heap.size
 same : ∀ k, k < n₀ ∨ k = Bx → W'.heap[k]? = W.heap[k]?
theorem Kp2.refl (n₀ Bx : Nat) (W : World) : Kp2 n₀ Bx W W := ⟨Nat.le_refl _, fun _ _ => rfl⟩
theorem Kp2.trans {n₀ Bx : Nat} {A B C : World} (h : Kp2 n₀ Bx A B) (k : Kp2 n₀ Bx B C) : Kp2 n₀ Bx A C := ⟨Nat.le_trans h.size k.size, fun j hj => (k.same j hj).trans (h.same j hj)⟩
theorem kp2_b {n₀ Bx : Nat} {w : World} (hn : n₀ ≤ w.heap.size) (hB : Bx < w.heap.size) (W : World) (l : Nat) (o o' : Obj) (hl : w.heap.size ≤ l) (h : W.heap[l]? = some o) (_ : o.isCells = false) (_ : o.isWalk = false) : Kp2 n₀ Bx W (W.putObj l o') :=
 ⟨by show W.heap.size ≤ (W.heap.setIfInBounds l o').size; simp, fun k hk => World.putObj_heap_other (by omega)⟩
theorem Kp2.of_below {n₀ Bx : Nat} {W W' : World} (h : Below W.heap.size W W') (hn : n₀ ≤ W.heap.size) (hB : Bx < W.heap.size) : Kp2 n₀ Bx W W' := ⟨h.size, fun k hk => h.block k (by omega)⟩
theorem Kp2.of_chg {S : Nat → Prop} {n₀ Bx : Nat} {W W' : World} (h : Chg S W W') (hn : n₀ ≤ W.heap.size) (hB : Bx < W.heap.size) (hS : ∀ k, S k → n₀ ≤ k ∧ k ≠ Bx) : Kp2 n₀ Bx W W' := ⟨h.size, fun k hk => h.block k (by omega) (fun hs => by have := hS k hs; omega)⟩
theorem tabs_same {w w' : World} (h : Tabs w) (hs : ∀ k, k < w.heap.size → w'.heap[k]? = w.heap[k]?) : Tabs w' := by
 have lt : ∀ {a : Addr} {v : Value}, w.cell? a = some v → a.block < w.heap.size := fun {a v} hc => World.block_lt_of_cell? w a hc
 have key : ∀ {a : Addr} {v : Value}, w.cell? a = some v → w'.cell? a = some v := fun {a v} hc => (World.cell?_of_block (w := w) (hs a.block (lt hc))).trans hc
 exact ⟨fun c hc => key (h.1 c hc), fun i hi => ⟨key (h.2 i hi).1, key (h.2 i hi).2⟩⟩

/-- Where the clusters begin, from i on. -/
def clAtsF (s : ByteArray) : Nat → Nat → List Nat
 | 0, _ => []
 | f + 1, i => if i < s.size then i :: clAtsF s f (clN s i) else []
def clAts (s : ByteArray) (i : Nat) : List Nat := clAtsF s (s.size - i) i
theorem clAtsF_more (s : ByteArray) : ∀ f i, s.size - i ≤ f → clAtsF s f i = clAts s i
 | 0, i, h => by unfold clAts; rw [show s.size - i = 0 by omega]
 | f + 1, i, h => by
  unfold clAts
  by_cases hi : i < s.size
  ·have h1 := clN_gt hi
   rw [show s.size - i = (s.size - i - 1) + 1 by omega]
   unfold clAtsF
   rw [if_pos hi, if_pos hi, clAtsF_more s f (clN s i) (by omega), clAtsF_more s (s.size - i - 1) (clN s i) (by omega)]
  ·rw [show s.size - i = 0 by omega]
   unfold clAtsF
   rw [if_neg hi]
theorem clAts_step {s : ByteArray} {i : Nat} (h : i < s.size) : clAts s i = i :: clAts s (clN s i) := by
 have h1 := clN_gt h
 have e : clAts s i = clAtsF s ((s.size - i - 1) + 1) i := by unfold clAts; congr 1; omega
 rw [e]
 unfold clAtsF
 rw [if_pos h, clAtsF_more s _ _ (by omega)]
theorem clAts_end {s : ByteArray} {i : Nat} (h : s.size ≤ i) : clAts s i = [] := by unfold clAts; rw [show s.size - i = 0 by omega]; rfl

set_option maxRecDepth 100000 in
set_option maxHeartbeats 1000000 in
theorem walk1_in (n : Nat) (hn : 1 ≤ n) (l Bx : Nat) (s : ByteArray) (hs : s.size ≤ 140737488355328) (w0 : World) (hT : Tabs w0) (J Jx : List Nat → World → Prop)
  (hY : ∀ pre x W, J pre W → pre.length < (clAts s 0).length → YieldAt Fence.wide (n - 1) Tryz.prog l #[mkCl s x (clN s x)] W fun e W' =>
   (e = .returned (.bool true) ∧ J (pre ++ [x]) W' ∧ Kp2 w0.heap.size Bx W W') ∨ (e = .returned (.bool false) ∧ Jx (pre ++ [x]) W'))
  (W : World) (hW : ∀ k, k < w0.heap.size → W.heap[k]? = w0.heap[k]?) (hJ : AbidesFrom W.heap.size J) (hc : W.cell? ⟨Bx, 0, none⟩ = some (.string s)) (h0 : J [] W) :
  CallsIn Fence.wide n Tryz.prog 130 #[.func (.yield l) #[] #[], .pointer (some ⟨Bx, 0, none⟩)] W fun e W' => (∃ v, e = .returned v) ∧ ((∃ xs, xs = clAts s 0 ∧ J xs W') ∨ (∃ pre, pre <+: clAts s 0 ∧ Jx pre W')) := by
 have HT := Lib.hid hT
 have HW := Lib.hid hW
 have hwl : w0.heap.size ≤ W.heap.size := by
  rcases Nat.lt_or_ge W.heap.size w0.heap.size with h | h
  ·have := hW W.heap.size h
   rw [Array.getElem?_eq_none (Nat.le_refl _), Array.getElem?_eq_getElem h] at this
   cases this
  ·exact h
 have hBl : Bx < W.heap.size := World.block_lt_of_cell? W _ hc
 clear hT hW
 refine callsIn_of_wp Tryz.func130 rfl trivial ?_ rfl
 simp only [Tryz.ntmps130, List.size_toArray, List.length_cons, List.length_nil, Nat.reduceAdd, Nat.reduceSub, Array.replicate_succ, Array.replicate_zero, List.push_toArray, List.append_toArray, List.nil_append, List.cons_append]
 gi_wp2
 gi_loopw [3] (fun v wr => ∃ (i : Nat) (pre : List Nat), i ≤ s.size ∧ v = .int .i64 i ∧ pre ++ clAts s i = clAts s 0 ∧ J pre wr ∧ Kp2 w0.heap.size Bx W wr) (fun v _ => s.size - (intOf v).toNat)
 case atStart => exact ⟨0, [], Nat.zero_le _, rfl, rfl, h0, Kp2.refl _ _ _⟩
 case round =>
  obtain ⟨i, pre, hi, rfl, hpre, hJs, hk⟩ := hrel
  have hcr : wr.cell? ⟨Bx, 0, none⟩ = some (.string s) := (World.cell?_of_block (w := W) (hk.same Bx (.inr rfl))).trans hc
  have HTr : Hid (Tabs wr) := tabs_same HT.out (fun k hk' => (hk.same k (.inl hk')).trans (HW.out k hk'))
  by_cases hlt : i < s.size
  ·have hst := clAts_step hlt
   rw [hst] at hpre
   have h1 := clN_gt hlt
   have h2 := clN_le s i
   have HP := Lib.hid hpre
   clear hpre hst
   gi_wp2_with fail
   refine ⟨trivial, (callsIn_wide.2 (ClNext_any s i wr HTr.out hs hi)).mono ?_⟩
   rintro e w1 ⟨rfl, hb1⟩
   have HT1 := Lib.hid (tabs_below HTr.out hb1)
   have hJ1 : J pre w1 := hJ pre wr w1 none hJs ⟨hb1.os, hb1.tape, hb1.output, hb1.size, fun k hk' _ => hb1.block k hk'⟩ (fun r e => by cases e)
   have hk1 := hk.trans (Kp2.of_below hb1 (Nat.le_trans hwl hk.size) (Nat.lt_of_lt_of_le hBl hk.size))
   have hcr1 := (hb1.cell (p := ⟨Bx, 0, none⟩) (Nat.lt_of_lt_of_le hBl hk.size)).trans hcr
   clear hb1 hJs hk hcr HTr
   have hlen : pre.length < (clAts s 0).length := by rw [← HP.out]; simp
   have HY : Hid (∀ W, J pre W → YieldAt Fence.wide (n - 1) Tryz.prog l #[mkCl s i (clN s i)] W fun e W' => (e = .returned (.bool true) ∧ J (pre ++ [i]) W' ∧ Kp2 w0.heap.size Bx W W') ∨ (e = .returned (.bool false) ∧ Jx (pre ++ [i]) W')) := fun W h => hY pre i W h hlen
   generalize clN s i = tq at *
   gi_wp2_with fail
   refine ⟨trivial, (callsIn_wide.2 (made_any s i tq w1 HT1.out hs hlt)).mono ?_⟩
   rintro e w2 ⟨rfl, hb2⟩
   have HT2 := Lib.hid (tabs_below HT1.out hb2)
   have hJ2 : J pre w2 := hJ pre w1 w2 none hJ1 ⟨hb2.os, hb2.tape, hb2.output, hb2.size, fun k hk' _ => hb2.block k hk'⟩ (fun r e => by cases e)
   have hk2 := hk1.trans (Kp2.of_below hb2 (Nat.le_trans hwl hk1.size) (Nat.lt_of_lt_of_le hBl hk1.size))
   have hcr2 := (hb2.cell (p := ⟨Bx, 0, none⟩) (Nat.lt_of_lt_of_le hBl hk1.size)).trans hcr1
   clear hb2 hJ1 hk1 hcr1 HT1
   have hY2 := HY.out w2 hJ2
   generalize mkCl s i tq = mv at *
   obtain ⟨fn, tmps, assign, body, hy, hR⟩ := hY2
   have HR := Lib.hid hR
   clear hR hY HY hJ2
   gi_wp2
   refine HR.out.mono ?_
   rintro e W3 (⟨rfl, hJ3, hk3⟩ | ⟨rfl, hJx3⟩)
   ·gi_wp2
    go_roundw
    case rel => exact ⟨tq, pre ++ [i], h2, rfl, by rw [List.append_assoc]; exact HP.out, hJ3, hk2.trans hk3⟩
    case measure => simp [intOf]; omega
   ·gi_wp2
    refine bodyPost_ret (results_none rfl _ _ _) rfl ?_
    exact ⟨⟨_, rfl⟩, .inr ⟨pre ++ [i], ⟨clAts s tq, by rw [List.append_assoc]; exact HP.out⟩, hJx3⟩⟩
  ·rw [clAts_end (by omega), List.append_nil] at hpre
   obtain rfl : i = s.size := by omega
   have HP := Lib.hid hpre
   clear hpre hY
   gi_wp2
   go_end0
   exact ⟨⟨_, rfl⟩, .inl ⟨pre, HP.out, hJs⟩⟩
end Go.Proofs.YtfchglcclgcgfaaGreatDoor.Ut
