/-
  A region that draws its order, by one obligation for each operation: each slot's value is said once, and holds in whatever order. No condition.
-/
import Derived.Test.YtdkdnkmfjpdcpaaDoorBase
import Derived.Orders
namespace Go.Proofs.YtdkdnkmfjpdcpaaDoor.Reg
open Go.RowKit
set_option linter.unusedVariables false
set_option linter.unusedSimpArgs false

section
variable {P : Program} {ops : Array Oper} {Q : Exit → Act → World → Prop}

/-- How many are not listed yet. -/
def left (listed : Array Bool) : Nat := (listed.toList.filter fun b => !b).length

theorem left_list : ∀ (l : List Bool) (i : Nat), l[i]? = some false → ((l.set i true).filter fun b => !b).length + 1 = (l.filter fun b => !b).length
  | [], i, h => by simp at h
  | b :: r, 0, h => by simp at h; subst h; simp
  | b :: r, i + 1, h => by
    have := left_list r i (by simpa using h)
    cases b <;> simp [List.set] at this ⊢ <;> omega

theorem left_set {listed : Array Bool} {i : Nat} (h : listed.getD i true = false) : left (listed.setIfInBounds i true) + 1 = left listed := by
  have hi : listed.toList[i]? = some false := by
    rw [Array.getElem?_toList]
    rw [Array.getD_eq_getD_getElem?] at h
    cases hx : listed[i]? with
    | none => rw [hx] at h; simp at h
    | some b => rw [hx] at h; simpa using h
  have := left_list listed.toList i hi
  unfold left
  rw [Array.toList_setIfInBounds]
  exact this

/-- Whatever is picked, Inv is kept; when nothing is left, the region is done. -/
theorem wp_inv {id : Nat} {a : Act} {w : World} (hm : P.follows .mixedOrders = true) (Inv : Array Bool → Act → World → Prop)
    (h0 : Inv (Array.replicate ops.size false) a { w with drawn := w.drawn + 1 })
    (step : ∀ listed a w i, Inv listed a w → listed.size = ops.size → i ∈ Region.ready .any ops listed → wpOp P ops Q i (fun a' w' => Inv (listed.setIfInBounds i true) a' w') a w)
    (done : ∀ listed a w, Inv listed a w → listed.size = ops.size → Region.ready .any ops listed = [] → Q .normal a w) : (Code.region id ops true).wp P Q a w := by
  refine wp_region_any hm ?_
  have key : ∀ fuel listed a w, left listed ≤ fuel → listed.size = ops.size → Inv listed a w → wpAny P .any ops Q fuel listed a w := by
    intro fuel
    induction fuel with
    | zero =>
      intro listed a w hl hs hI
      have hr : Region.ready .any ops listed = [] := by
        rcases hx : Region.ready .any ops listed with _ | ⟨i, r⟩
        · rfl
        · have hi : i ∈ Region.ready .any ops listed := by rw [hx]; exact List.mem_cons_self
          have := left_set (mem_ready.1 hi).1
          omega
      exact ⟨hr, done listed a w hI hs hr⟩
    | succ n ih =>
      intro listed a w hl hs hI
      refine ⟨fun hr => done listed a w hI hs hr, fun i hi => wpOp_mono (fun a' w' h => ?_) (step listed a w i hI hs hi)⟩
      have := left_set (mem_ready.1 hi).1
      exact ih _ a' w' (by omega) (by simpa using hs) h
  refine key _ _ a _ ?_ (by simp) h0
  unfold left
  refine Nat.le_trans (List.length_filter_le _ _) (by simp)

/-- Does operation i wait for operation j? -/
def waits (ops : Array Oper) (i j : Nat) : Bool := ((ops[i]?).map fun o => o.after.any fun e => e.on == j && Region.binds .any e).getD false
def writes (ops : Array Oper) (j d : Nat) : Bool := ((ops[j]?).bind (·.dst)) == some d
/-- The slots that operation i looks at; true: an operation for which it waits has written it. -/
def reads (ops : Array Oper) (i : Nat) : List (Nat × Bool) :=
  match ops[i]? with
  | none => []
  | some o => (o.looksAt ops).map fun d => (d, (List.range ops.size).any fun j => writes ops j d && waits ops i j)
/-- No slot is written twice; who writes what another looks at waits for it or is waited for. -/
def tidy (ops : Array Oper) : Bool :=
  ((List.range ops.size).all fun i => match ops[i]? with | none => true | some o => o.after.all fun e => decide (e.on < i)) && (List.range ops.size).all fun i => (List.range ops.size).all fun j => i == j || (match (ops[j]?).bind (·.dst) with
    | none => true
    | some d => !writes ops i d && (match ops[i]? with
      | none => true
      | some o => !(o.looksAt ops).contains d || waits ops i j || waits ops j i))

structure Inv (ops : Array Oper) (V : Nat → Value → World → Prop) (a0 : Act) (w0 : World) (listed : Array Bool) (a : Act) (w : World) : Prop where
  size : a.tmps.size = a0.tmps.size
  defers : a.defers = a0.defers
  below : Below w0.heap.size w0 w
  done : ∀ j d, writes ops j d = true → listed.getD j false = true → V d (a.tmps.getD d undef) w
  closed : ∀ j k, waits ops j k = true → listed.getD j false = true → listed.getD k false = true
  rest : ∀ d, (∀ j, writes ops j d = true → listed.getD j false = false) → a.tmps.getD d undef = a0.tmps.getD d undef

theorem getD_put (a : Act) (x : Option Tmp) (v : Value) (d : Nat) (hx : ∀ t, x = some t → t < a.tmps.size) : (a.put x v).tmps.getD d undef = if x = some d then v else a.tmps.getD d undef := by
  cases x with
  | none => simp [Act.put]
  | some t =>
    have := hx t rfl
    simp only [Act.put, Option.some.injEq]
    by_cases h : t = d
    · subst h; simp [Array.getD_eq_getD_getElem?, this]
    · rw [if_neg h]; simp [Array.getD_eq_getD_getElem?, Array.getElem?_setIfInBounds, h]

/-- What an operation owes: in every state in which what it looks at is as said, it leaves a value as said, and nothing that lay before has turned. -/
def Owes (P : Program) (ops : Array Oper) (Q : Exit → Act → World → Prop) (V : Nat → Value → World → Prop) (a0 : Act) (w0 : World) (i : Nat) : Prop :=
  ∀ a w, a.tmps.size = a0.tmps.size → a.defers = a0.defers → Below w0.heap.size w0 w →
    (∀ x ∈ reads ops i, (x.2 = true → V x.1 (a.tmps.getD x.1 undef) w) ∧ (x.2 = false → a.tmps.getD x.1 undef = a0.tmps.getD x.1 undef)) →
    wpOp P ops Q i (fun a' w' => ∃ v, a' = a.put ((ops[i]?).bind (·.dst)) v ∧ Below w.heap.size w w' ∧ ∀ d, writes ops i d = true → V d v w') a w

theorem writes_lt {j d : Nat} (h : writes ops j d = true) : j < ops.size := by
  rcases Nat.lt_or_ge j ops.size with hj | hj
  · exact hj
  · simp [writes, Array.getElem?_eq_none hj] at h

/-- When nothing is ready any more, all are listed. -/
theorem all_listed (ht : tidy ops = true) {listed : Array Bool} (hr : Region.ready .any ops listed = []) (hs : listed.size = ops.size) : ∀ j, j < ops.size → listed.getD j false = true := by
  intro j
  induction j using Nat.strongRecOn with
  | _ j ih =>
    intro hj
    cases hl : listed.getD j false with
    | true => rfl
    | false =>
      exfalso
      have ho : ops[j]? = some ops[j] := by simp [hj]
      have hmem : j ∈ Region.ready .any ops listed := mem_ready.2 ⟨by
        have : j < listed.size := by omega
        rw [Array.getD_eq_getD_getElem?] at hl ⊢
        simp [this] at hl ⊢
        exact hl, ops[j], ho, fun e he _ => by
          unfold tidy at ht
          rw [Bool.and_eq_true] at ht
          have h1 := List.all_eq_true.1 ht.1 j (List.mem_range.2 hj)
          rw [ho] at h1
          simp only [Array.all_eq_true_iff_forall_mem, decide_eq_true_eq] at h1
          have := h1 e he
          exact ih e.on this (by omega)⟩
      rw [hr] at hmem
      cases hmem

theorem wp_held {id : Nat} {a0 : Act} {w0 : World} (hm : P.follows .mixedOrders = true) (V : Nat → Value → World → Prop)
    (hV : ∀ d v w w', V d v w → Below w.heap.size w w' → V d v w') (ht : tidy ops = true)
    (hsz : (ops.all fun o => match o.dst with | some d => decide (d < a0.tmps.size) | none => true) = true)
    (h : ∀ i, i < ops.size → Owes P ops Q V a0 w0 i)
    (hd : ∀ a w, a.tmps.size = a0.tmps.size → a.defers = a0.defers → Below w0.heap.size w0 w → (∀ j d, writes ops j d = true → V d (a.tmps.getD d undef) w) →
      (∀ d, (∀ j, writes ops j d = false) → a.tmps.getD d undef = a0.tmps.getD d undef) → Q .normal a w) :
    (Code.region id ops true).wp P Q a0 w0 := by
  have hdr : Below w0.heap.size w0 { w0 with drawn := w0.drawn + 1 } := ⟨rfl, rfl, rfl, Nat.le_refl _, fun _ _ => rfl⟩
  have hnone : ∀ j, (Array.replicate ops.size false).getD j false = false := fun j => by
    rw [Array.getD_eq_getD_getElem?]
    by_cases hj : j < ops.size <;> simp [hj]
  refine wp_inv hm (Inv ops V a0 w0) ⟨rfl, rfl, hdr, fun j d _ hl => ?_, fun j k _ hl => ?_, fun d _ => rfl⟩ ?_ ?_
  · rw [hnone] at hl; cases hl
  · rw [hnone] at hl; cases hl
  · intro listed a w i hI hs hi
    obtain ⟨hun, o, ho, haf⟩ := mem_ready.1 hi
    have hil : i < ops.size := (Array.getElem?_eq_some_iff.1 ho).1
    have hwl : ∀ j, waits ops i j = true → listed.getD j false = true := fun j hj => by
      unfold waits at hj
      rw [ho] at hj
      simp only [Option.map_some, Option.getD_some, Array.any_eq_true', Bool.and_eq_true, beq_iff_eq] at hj
      obtain ⟨e, he, rfl, hb⟩ := hj
      exact haf e he hb
    have hilt : i < listed.size := by omega
    have hnl : listed.getD i false = false := by
      rw [Array.getD_eq_getD_getElem?] at hun ⊢
      simp [hilt] at hun ⊢
      exact hun
    have htd : ∀ j, j < ops.size → i ≠ j → ∀ d, writes ops j d = true → writes ops i d = false ∧ (d ∈ o.looksAt ops → waits ops i j = true ∨ waits ops j i = true) := fun j hj hne d hw => by
      unfold tidy at ht
      rw [Bool.and_eq_true] at ht
      have h1 := List.all_eq_true.1 (List.all_eq_true.1 ht.2 i (List.mem_range.2 hil)) j (List.mem_range.2 hj)
      unfold writes at hw
      have hdj : (ops[j]?).bind (·.dst) = some d := by simpa using hw
      rw [hdj, ho] at h1
      have hb : (i == j) = false := by simpa using hne
      rw [hb] at h1
      simp only [Bool.false_or, Bool.and_eq_true, Bool.not_eq_true', Bool.or_eq_true] at h1
      refine ⟨h1.1, fun hd => ?_⟩
      rcases h1.2 with (h2 | h2) | h2
      · have : (o.looksAt ops).contains d = true := by simpa using hd
        rw [this] at h2; cases h2
      · exact .inl h2
      · exact .inr h2
    have hwn : ∀ j, waits ops j i = true → listed.getD j false = false := fun j hj => by
      cases hx : listed.getD j false with
      | false => rfl
      | true => have := hI.closed j i hj hx; rw [hnl] at this; cases this
    refine wpOp_mono (fun a' w' hh => ?_) (h i hil a w hI.size hI.defers hI.below (fun x hx => ?_))
    · obtain ⟨v, rfl, hb, hv⟩ := hh
      have hdl : ∀ t, (ops[i]?).bind (·.dst) = some t → t < a.tmps.size := fun t hte => by
        rw [ho] at hte
        have h2 := Array.all_eq_true_iff_forall_mem.1 hsz o (Array.mem_of_getElem? ho)
        have h3 : o.dst = some t := hte
        rw [h3] at h2
        rw [hI.size]
        exact of_decide_eq_true h2
      have hli : ∀ j, j ≠ i → (listed.setIfInBounds i true).getD j false = listed.getD j false := fun j hj => getD_set_ne false (Ne.symm hj)
      have hself : (listed.setIfInBounds i true).getD i false = true := by
        rw [Array.getD_eq_getD_getElem?]; simp [hilt]
      refine ⟨?_, ?_, hI.below.trans (hb.mono hI.below.size), fun j d hw hl => ?_, fun j k hjk hl => ?_, fun d hd => ?_⟩
      · cases hx : (ops[i]?).bind (·.dst) <;> simp [Act.put, hI.size]
      · cases hx : (ops[i]?).bind (·.dst) <;> simp [Act.put, hI.defers]
      · rw [getD_put a _ v d hdl]
        by_cases hji : j = i
        · subst hji
          have : (ops[j]?).bind (·.dst) = some d := by simpa [writes] using hw
          rw [if_pos this]
          exact hv d hw
        · have hne := (htd j (writes_lt hw) (Ne.symm hji) d hw).1
          rw [if_neg (by intro e; simp [writes, e] at hne)]
          rw [hli j hji] at hl
          exact hV _ _ _ _ (hI.done j d hw hl) hb
      · by_cases hki : k = i
        · subst hki; exact hself
        · rw [hli k hki]
          by_cases hji : j = i
          · subst hji; exact hwl k hjk
          · rw [hli j hji] at hl; exact hI.closed j k hjk hl
      · rw [getD_put a _ v d hdl]
        rw [if_neg]
        · refine hI.rest d (fun j hw => ?_)
          have := hd j hw
          by_cases hji : j = i
          · subst hji; rw [hself] at this; cases this
          · rwa [hli j hji] at this
        · intro e
          have := hd i (by simp [writes, e])
          rw [hself] at this; cases this
    · unfold reads at hx
      rw [ho] at hx
      obtain ⟨d, hdm, rfl⟩ := List.mem_map.1 hx
      refine ⟨fun hf => ?_, fun hf => ?_⟩
      · simp only [List.any_eq_true, List.mem_range, Bool.and_eq_true] at hf
        obtain ⟨j, _, hw, hwt⟩ := hf
        exact hI.done j d hw (hwl j hwt)
      · refine hI.rest d (fun j hw => ?_)
        by_cases hji : j = i
        · subst hji; exact hnl
        · rcases (htd j (writes_lt hw) (Ne.symm hji) d hw).2 hdm with h1 | h1
          · exfalso
            rw [List.any_eq_false] at hf
            have := hf j (List.mem_range.2 (writes_lt hw))
            simp [hw, h1] at this
          · exact hwn j h1
  · intro listed a w hI hs hr
    have hal := all_listed ht hr hs
    exact hd a w hI.size hI.defers hI.below (fun j d hw => hI.done j d hw (hal j (writes_lt hw))) (fun d hd => hI.rest d (fun j hw => by rw [hd j] at hw; cases hw))

/-- Slots set one after the other. -/
def putAll (a : Act) : List (Nat × Value) → Act
  | [] => a
  | (d, v) :: r => putAll (a.put (some d) v) r

theorem putAll_eq (a' : Act) : ∀ (ds : List Nat) (a0 : Act), a'.tmps.size = a0.tmps.size → a'.defers = a0.defers → (∀ d ∈ ds, d < a0.tmps.size) → (∀ d, d ∉ ds → a'.tmps.getD d undef = a0.tmps.getD d undef) →
    a' = putAll a0 (ds.map fun d => (d, a'.tmps.getD d undef))
  | [], a0, hs, hd, _, he => by
    obtain ⟨t, d⟩ := a'
    obtain ⟨t0, d0⟩ := a0
    simp only at hs hd he
    subst hd
    show _ = (⟨t0, d⟩ : Act)
    congr 1
    apply Array.ext hs
    intro k h1 h2
    have := he k (by simp)
    rw [Array.getD_eq_getD_getElem?, Array.getD_eq_getD_getElem?] at this
    simpa [h1, h2] using this
  | d :: r, a0, hs, hdf, hlt, he => by
    have hd0 := hlt d List.mem_cons_self
    simp only [List.map_cons, putAll]
    refine putAll_eq a' r _ ?_ ?_ ?_ ?_
    · simp [Act.put, hs]
    · simp [Act.put, hdf]
    · intro e he'
      simp only [Act.put, Array.size_setIfInBounds]
      exact hlt e (List.mem_cons_of_mem _ he')
    · intro e hne
      rw [getD_put a0 (some d) _ e (fun t h => by cases h; exact hd0)]
      by_cases hde : d = e
      · subst hde; simp
      · rw [if_neg (by simpa using hde)]
        exact he e (by simp; exact ⟨fun h => hde h.symm, hne⟩)

/-- The slots that a region writes. -/
def dsts (ops : Array Oper) : List Nat := ops.toList.filterMap (·.dst)

theorem mem_dsts {d : Nat} : d ∈ dsts ops ↔ ∃ j, writes ops j d = true := by
  unfold dsts writes
  rw [List.mem_filterMap]
  constructor
  · rintro ⟨o, ho, hd⟩
    obtain ⟨j, hj, rfl⟩ := List.getElem_of_mem ho
    exact ⟨j, by simp at hj; simp [hj]; simpa using hd⟩
  · rintro ⟨j, hj⟩
    cases hx : ops[j]? with
    | none => rw [hx] at hj; simp at hj
    | some o =>
      rw [hx] at hj
      exact ⟨o, by have := Array.mem_of_getElem? hx; simpa using this, by simpa using hj⟩

/-- The rule, its end with the frame written out. -/
theorem wp_held' {id : Nat} {a0 : Act} {w0 : World} (hm : P.follows .mixedOrders = true) (V : Nat → Value → World → Prop)
    (hV : ∀ d v w w', V d v w → Below w.heap.size w w' → V d v w') (ht : tidy ops = true) (D : List Nat) (hD : dsts ops = D)
    (hsz : (ops.all fun o => match o.dst with | some d => decide (d < a0.tmps.size) | none => true) = true)
    (h : ∀ i, i < ops.size → Owes P ops Q V a0 w0 i)
    (hd : ∀ (f : Nat → Value) w, (∀ d ∈ D, V d (f d) w) → Below w0.heap.size w0 w → Q .normal (putAll a0 (D.map fun d => (d, f d))) w) :
    (Code.region id ops true).wp P Q a0 w0 := by
  refine wp_held hm V hV ht hsz h (fun a w hs hdf hb hdone hrest => ?_)
  subst hD
  have e := putAll_eq a (dsts ops) a0 hs hdf (fun d hdm => by
    obtain ⟨j, hj⟩ := mem_dsts.1 hdm
    unfold writes at hj
    cases hx : ops[j]? with
    | none => rw [hx] at hj; simp at hj
    | some o =>
      rw [hx] at hj
      have h3 : o.dst = some d := by simpa using hj
      have h2 := Array.all_eq_true_iff_forall_mem.1 hsz o (Array.mem_of_getElem? hx)
      rw [h3] at h2
      exact of_decide_eq_true h2) (fun d hn => hrest d (fun j => by
    cases hx : writes ops j d with
    | false => rfl
    | true => exact absurd (mem_dsts.2 ⟨j, hx⟩) hn))
  rw [e]
  exact hd (fun d => a.tmps.getD d undef) w (fun d hdm => by obtain ⟨j, hj⟩ := mem_dsts.1 hdm; exact hdone j d hj) hb

/-- What is known of the slots that an operation looks at. -/
def Facts (V : Nat → Value → World → Prop) (a0 a : Act) (w : World) : List (Nat × Bool) → Prop
  | [] => True
  | (d, true) :: r => V d (a.tmps[d]?.getD undef) w ∧ Facts V a0 a w r
  | (d, false) :: r => a.tmps[d]?.getD undef = a0.tmps.getD d undef ∧ Facts V a0 a w r

theorem facts_of {V : Nat → Value → World → Prop} {a0 a : Act} {w : World} : ∀ {l : List (Nat × Bool)},
    (∀ x ∈ l, (x.2 = true → V x.1 (a.tmps.getD x.1 undef) w) ∧ (x.2 = false → a.tmps.getD x.1 undef = a0.tmps.getD x.1 undef)) → Facts V a0 a w l
  | [], _ => trivial
  | (d, true) :: r, h => ⟨by have := (h _ List.mem_cons_self).1 rfl; rwa [Array.getD_eq_getD_getElem?] at this, facts_of fun x hx => h x (List.mem_cons_of_mem _ hx)⟩
  | (d, false) :: r, h => ⟨by have := (h _ List.mem_cons_self).2 rfl; rwa [Array.getD_eq_getD_getElem? (xs := a.tmps)] at this, facts_of fun x hx => h x (List.mem_cons_of_mem _ hx)⟩

/-- An operation without a guard that leaves a value. -/
theorem owes_val {V : Nat → Value → World → Prop} {a0 : Act} {w0 : World} {i d : Nat} {o : Oper} {L : List (Nat × Bool)} (ho : ops[i]? = some o) (hg : o.guard = none) (hd : o.dst = some d) (hL : reads ops i = L)
    (h : ∀ a w, Below w0.heap.size w0 w → Facts V a0 a w L → o.wp P a w (fun a' w' => ∃ v, a' = a.put (some d) v ∧ Below w.heap.size w w' ∧ V d v w') Q) : Owes P ops Q V a0 w0 i := by
  intro a w _ _ hb hr
  rw [hL] at hr
  unfold wpOp
  rw [ho]
  simp only [Region.wanted, hg, if_true]
  refine .inl (Oper.wp_mono (fun a' w' hh => ?_) (h a w hb (facts_of hr)))
  obtain ⟨v, rfl, hb', hv⟩ := hh
  refine ⟨v, by rw [Option.bind_some, hd], hb', fun e he => ?_⟩
  have : d = e := by simpa [writes, ho, hd] using he
  subst this
  exact hv

/-- An operation that leaves no value. -/
theorem owes_none {V : Nat → Value → World → Prop} {a0 : Act} {w0 : World} {i : Nat} {o : Oper} {L : List (Nat × Bool)} (ho : ops[i]? = some o) (hg : o.guard = none) (hd : o.dst = none) (hL : reads ops i = L)
    (h : ∀ a w, Below w0.heap.size w0 w → Facts V a0 a w L → o.wp P a w (fun a' w' => ∃ v, a' = a.put none v ∧ Below w.heap.size w w') Q) : Owes P ops Q V a0 w0 i := by
  intro a w _ _ hb hr
  rw [hL] at hr
  unfold wpOp
  rw [ho]
  simp only [Region.wanted, hg, if_true]
  refine .inl (Oper.wp_mono (fun a' w' hh => ?_) (h a w hb (facts_of hr)))
  obtain ⟨v, rfl, hb'⟩ := hh
  exact ⟨v, by rw [Option.bind_some, hd]; rfl, hb', fun e he => by simp [writes, ho, hd] at he⟩
end
end Go.Proofs.YtdkdnkmfjpdcpaaDoor.Reg
