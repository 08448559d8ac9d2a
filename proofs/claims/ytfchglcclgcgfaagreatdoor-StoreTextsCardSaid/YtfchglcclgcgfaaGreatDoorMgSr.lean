/-
  What the proof of the laws S rests on: the texts PlC Region6 PlD PlE PlG. Conditions: each theorem names its own.
-/
import Derived.Test.YtfchglcclgcgfaaGreatDoorMgSo
import Derived.Test.YtfchglcclgcgfaaGreatDoorMgSc
/-
 Clusters gathered unit by unit (plain): what is known behind the units ahead of a place. No condition.
-/
namespace Go.Proofs.YtfchglcclgcgfaaGreatDoor.Ut
open Go.RowKit Go.Proofs.YtfchglcclgcgfaaGreatDoor.Reg
set_option linter.unusedVariables false
set_option linter.unusedSimpArgs false

def chA (s : ByteArray) (x : Nat) : Int := ch (from_ s x)
theorem chA_low (s : ByteArray) {x : Nat} (hx : x < s.size) {v : Int} (h0 : 0 ≤ v) (h1 : v < 128) : chA s x = v ↔ (bt s x : Int) = v := by
 unfold chA
 rw [win_ch s (i := x) (k := 4) (j := x) (Nat.le_refl _) rfl hx]
 constructor
 ·intro h
  have := dec4_ch h0 h1 h
  rw [win4] at this; exact this
 ·intro h
  rw [win4_low s (by omega)]; exact h
theorem prev_up (s : ByteArray) {p : Nat} (hp : p < s.size) (hb : boundF s p = true) : prevU s (up s p) = p := by
 have hg := up_gt hp
 have hl := up_le (s := s) (j := p) (by omega)
 obtain ⟨a, b, c, d⟩ := ar_prev (s := s) (i := up s p - 1) (up s p - 1 - (up s p - 1 - 3)) (up s p - 1 - 3) (by omega) (prevU s (up s p)) rfl
 have hr : boundF s (prevU s (up s p)) = true := down_bound s (by omega)
 generalize prevU s (up s p) = r at *
 rcases Nat.lt_trichotomy r p with h | h | h
 ·have := no_mid s (i := r) (k := p) (by omega) h (by have := b (by omega); omega)
  rw [hb] at this; cases this
 ·exact h
 ·have := no_mid s (i := p) (k := r) hp h (by omega)
  rw [hr] at this; cases this
/-- A boundary of clusters between two units. -/
theorem glue_up (s : ByteArray) {p : Nat} (hp : up s p < s.size) (hpl : p < s.size) (hb : boundF s p = true) : clB s (up s p) = !gluedF (chA s p) (chA s (up s p)) := by
 have hg := up_gt hpl
 have h2 := bound_up s hpl hb
 unfold clB
 rw [prev_up s hpl hb, h2]
 have e1 : atC s p = chA s p := by unfold atC; rw [if_pos hb]; rfl
 have e2 : atC s (up s p) = chA s (up s p) := by unfold atC; rw [if_pos h2]; rfl
 rw [e1, e2]
 have n1 : decide (up s p = 0) = false := by simp; omega
 have n2 : decide (up s p = s.size) = false := by simp; omega
 rw [n1, n2]; simp

def isCrlf (s : ByteArray) (c : Nat) : Prop := bt s c = 13 ∧ bt s ((c + 1 : Nat) : Int) = 10
instance (s : ByteArray) (c : Nat) : Decidable (isCrlf s c) := inferInstanceAs (Decidable (_ ∧ _))
def clsAt (s : ByteArray) (c x : Nat) : Int := if isCrlf s c ∧ c + 1 < x then 1 else classF (chA s c)
def widAt (s : ByteArray) (c x : Nat) : Int := if isCrlf s c ∧ c + 1 < x then 0 else cellsF (chA s c)
def quad (s : ByteArray) (x c : Nat) : Int × Int × Int × Int := ((c : Int), ((min (clN s c) x : Nat) : Int), clsAt s c x, widAt s c x)
def Lst (s : ByteArray) (x : Nat) : List (Int × Int × Int × Int) := (cutsOf s 0 x).map (quad s x)
theorem Lst_len (s : ByteArray) (x : Nat) : (Lst s x).length ≤ x := by
 unfold Lst cutsOf; rw [List.length_map]; refine Nat.le_trans (List.length_filter_le _ _) ?_; rw [List.length_range']; exact Nat.le_refl _
theorem cuts_mid (s : ByteArray) {x : Nat} (hx : x < s.size) : cutsOf s (x + 1) (up s x - x - 1) = [] := by
 unfold cutsOf
 rw [List.filter_eq_nil_iff]
 intro k hk
 rw [List.mem_range'_1] at hk
 have hl := up_le (s := s) (j := x) (by omega)
 cases h : clB s k with
 | false => simp
 | true =>
  have := clB_bound (s := s) (i := k) (by omega) h
  rw [no_mid s hx (k := k) (by omega) (by omega)] at this; cases this
theorem cuts_up (s : ByteArray) {x : Nat} (hx : x < s.size) : cutsOf s 0 (up s x) = if clB s x = true then cutsOf s 0 x ++ [x] else cutsOf s 0 x := by
 have hg := up_gt hx
 have e : cutsOf s 0 (up s x) = cutsOf s 0 (x + ((up s x - x - 1) + 1)) := congrArg _ (by omega)
 rw [e, cuts_split, Nat.zero_add]
 split
 ·rename_i h; rw [cuts_cons s h, cuts_mid s hx]
 ·rename_i h
  have : cutsOf s x (up s x - x - 1 + 1) = cutsOf s (x + 1) (up s x - x - 1) := by
   unfold cutsOf
   rw [List.range'_succ, List.filter_cons, if_neg h]
  rw [this, cuts_mid s hx, List.append_nil]
theorem crlf_size (s : ByteArray) {c : Nat} (h : isCrlf s c) : c + 1 < s.size := by
 rcases Nat.lt_or_ge (c + 1) s.size with h1 | h1
 ·exact h1
 ·have := h.2; rw [bt_big s (by omega)] at this; omega
theorem next_up (s : ByteArray) {x c : Nat} (hx : x < s.size) (hc : c < s.size) (hcb : clB s c = true) (h : x < clN s c) (hl : clN s c ≤ s.size) : up s x ≤ clN s c := by
 rcases Nat.lt_or_ge (clN s c) (up s x) with h1 | h1
 ·have hb : clB s (clN s c) = true := next_clB hcb hc
  have := up_le (s := s) (j := x) (by omega)
  have := clB_bound (s := s) (i := clN s c) (by omega) hb
  rw [no_mid s hx (k := clN s c) h h1] at this; cases this
 ·exact h1
/-- A unit that begins a cluster. -/
theorem Lst_new (s : ByteArray) {x : Nat} (hx : x < s.size) (hb : clB s x = true) : Lst s (up s x) = Lst s x ++ [((x : Int), (up s x : Int), classF (chA s x), cellsF (chA s x))] := by
 have hg := up_gt hx
 have hl := up_le (s := s) (j := x) (by omega)
 unfold Lst
 rw [cuts_up s hx, if_pos hb, List.map_append]
 congr 1
 ·refine List.map_congr_left fun c hc => ?_
  obtain ⟨⟨-, h1⟩, h2⟩ := mem_cuts.1 hc
  have hn := next_le h2 hb (by omega) (by omega)
  unfold quad clsAt widAt
  have e1 : min (clN s c) (up s x) = min (clN s c) x := by omega
  have e2 : (isCrlf s c ∧ c + 1 < up s x) ↔ (isCrlf s c ∧ c + 1 < x) := by
   constructor
   ·rintro ⟨a, b⟩
    have := (crlf_next s (crlf_size s a) a.1 a.2).2
    exact ⟨a, by omega⟩
   ·rintro ⟨a, b⟩; exact ⟨a, by omega⟩
  rw [e1]
  simp only [e2]
 ·have hn := next_up s hx hx hb (clN_gt hx) (clN_le s x)
  have hne : ¬ (isCrlf s x ∧ x + 1 < up s x) := by
   rintro ⟨a, b⟩
   have := (low_bound s hx (by rw [a.1]; decide)).2
   omega
  simp only [List.map_cons, List.map_nil, quad, clsAt, widAt]
  rw [if_neg hne, if_neg hne, show min (clN s x) (up s x) = up s x by omega]
/-- A unit that goes on with a cluster. -/
theorem Lst_grow (s : ByteArray) {x : Nat} (hx : x < s.size) (hbx : boundF s x = true) (hb : ¬ clB s x = true) : ∃ (L : List (Int × Int × Int × Int)) (c : Nat), Lst s x = L ++ [(((c : Nat) : Int), (x : Int), clsAt s c x, widAt s c x)] ∧
  Lst s (up s x) = L ++ [(((c : Nat) : Int), (up s x : Int), (if chA s x = 10 then 1 else clsAt s c x), (if chA s x = 10 then 0 else widAt s c x))] := by
 have hg := up_gt hx
 have hl := up_le (s := s) (j := x) (by omega)
 have hx0 : 0 < x := by
  rcases Nat.eq_zero_or_pos x with h | h
  ·subst h; exact absurd (clB_zero s) hb
  ·exact h
 have h0 : 0 ∈ cutsOf s 0 x := mem_cuts.2 ⟨⟨Nat.le_refl _, by omega⟩, clB_zero s⟩
 have hne : cutsOf s 0 x ≠ [] := fun h => by rw [h] at h0; simp at h0
 obtain ⟨ys, c, hys⟩ : ∃ ys c, cutsOf s 0 x = ys ++ [c] := ⟨(cutsOf s 0 x).dropLast, (cutsOf s 0 x).getLast hne, (List.dropLast_concat_getLast hne).symm⟩
 have hpw : (cutsOf s 0 x).Pairwise (· < ·) := List.Pairwise.filter _ List.pairwise_lt_range'
 have hcm : c ∈ cutsOf s 0 x := by rw [hys]; simp
 obtain ⟨⟨-, hcx⟩, hcb⟩ := mem_cuts.1 hcm
 have hlast : ∀ k, k < x → clB s k = true → k ≤ c := by
  intro k h1 h2
  have : k ∈ cutsOf s 0 x := mem_cuts.2 ⟨⟨Nat.zero_le _, by omega⟩, h2⟩
  rw [hys] at this hpw
  rw [List.pairwise_append] at hpw
  rcases List.mem_append.1 this with h | h
  ·have := hpw.2.2 k h c (by simp); omega
  ·simp at h; omega
 have hN : x < clN s c := by
  have hcl := next_clB hcb (by omega)
  have hcg := clN_gt (s := s) (i := c) (by omega)
  rcases Nat.lt_trichotomy x (clN s c) with h | h | h
  ·exact h
  ·rw [← h] at hcl; exact absurd hcl hb
  ·have := hlast _ h hcl; omega
 have hup := next_up s hx (by omega) hcb hN (clN_le s c)
 have hold : ∀ c' ∈ ys, quad s (up s x) c' = quad s x c' := by
  intro c' hc'
  have hm : c' ∈ cutsOf s 0 x := by rw [hys]; simp [hc']
  obtain ⟨⟨-, h1⟩, h2⟩ := mem_cuts.1 hm
  have hlt : c' < c := by rw [hys, List.pairwise_append] at hpw; exact hpw.2.2 c' hc' c (by simp)
  have hn := next_le h2 hcb hlt (by omega)
  have e1 : min (clN s c') (up s x) = min (clN s c') x := by omega
  have e2 : (isCrlf s c' ∧ c' + 1 < up s x) ↔ (isCrlf s c' ∧ c' + 1 < x) := by
   constructor
   ·rintro ⟨a, b⟩
    have := (crlf_next s (crlf_size s a) a.1 a.2).2
    exact ⟨a, by omega⟩
   ·rintro ⟨a, b⟩; exact ⟨a, by omega⟩
  unfold quad clsAt widAt
  rw [e1]
  simp only [e2]
 refine ⟨ys.map (quad s x), c, ?_, ?_⟩
 ·unfold Lst
  rw [hys, List.map_append]
  simp only [List.map_cons, List.map_nil, quad]
  rw [show min (clN s c) x = x by omega]
 ·unfold Lst
  rw [cuts_up s hx, if_neg hb, hys, List.map_append]
  congr 1
  ·exact List.map_congr_left hold
  ·simp only [List.map_cons, List.map_nil, quad]
   rw [show min (clN s c) (up s x) = up s x by omega]
   have hch : chA s x = 10 ↔ bt s x = 10 := by rw [chA_low s hx (by omega) (by omega)]; omega
   by_cases h10 : chA s x = 10
   ·have hbt := hch.1 h10
    have h13 : bt s ((x - 1 : Nat) : Int) = 13 := by
     rcases Nat.lt_or_ge 0 x with h | h
     ·by_cases e : bt s ((x - 1 : Nat) : Int) = 13
      ·exact e
      ·exact absurd (lf_clB s hx hbt (.inr e)) hb
     ·omega
    have hcr := cr_clB s (p := x - 1) (by omega) h13
    have hce : c = x - 1 := by have := hlast (x - 1) (by omega) hcr; omega
    have hend : isCrlf s c ∧ c + 1 < up s x := by
     refine ⟨⟨by rw [hce]; exact h13, ?_⟩, by omega⟩
     rw [show c + 1 = x by omega]; exact hbt
    unfold clsAt widAt
    rw [if_pos h10, if_pos h10, if_pos hend, if_pos hend]
   ·have hnc : ¬ isCrlf s c := by
     intro a
     have := (crlf_next s (crlf_size s a) a.1 a.2).2
     have e : x = c + 1 := by omega
     exact h10 (hch.2 (by rw [e]; exact a.2))
    unfold clsAt widAt
    rw [if_neg h10, if_neg h10, if_neg (fun h => hnc h.1), if_neg (fun h => hnc h.1), if_neg (fun h => hnc h.1), if_neg (fun h => hnc h.1)]
/-- All units: the clusters, as they are. -/
theorem Lst_all (s : ByteArray) : Lst s s.size = (clAts s 0).map fun (c : Nat) => ((c : Int), (clN s c : Int), clC s c, clW s c) := by
 unfold Lst
 rw [cuts_all]
 refine List.map_congr_left fun c hc => ?_
 obtain ⟨⟨-, h1⟩, h2⟩ := mem_cuts.1 hc
 have hl := clN_le s c
 have hb := clB_bound (by omega) h2
 have e0 : atC s c = chA s c := by unfold atC; rw [if_pos hb]; rfl
 have hcr : crlf s c = true ↔ (isCrlf s c ∧ c + 1 < s.size) := by
  unfold crlf isCrlf
  rw [hasPrefix_lf, e0, Bool.and_eq_true, decide_eq_true_eq, decide_eq_true_eq, chA_low s (by omega) (by omega) (by omega)]
  constructor
  ·rintro ⟨a, b⟩
   refine ⟨⟨by omega, b⟩, ?_⟩
   rcases Nat.lt_or_ge (c + 1) s.size with h | h
   ·exact h
   ·rw [bt_big s (by omega)] at b; omega
  ·rintro ⟨⟨a, b⟩, -⟩; exact ⟨by omega, b⟩
 unfold quad clsAt widAt clC clW
 rw [show min (clN s c) s.size = clN s c by omega, e0]
 by_cases h : crlf s c = true
 ·rw [if_pos (hcr.1 h), if_pos (hcr.1 h), if_pos h, if_pos h]
 ·rw [if_neg (fun x => h (hcr.2 x)), if_neg (fun x => h (hcr.2 x)), if_neg h, if_neg h]
end Go.Proofs.YtfchglcclgcgfaaGreatDoor.Ut
/-
 A region that draws its order and in which one operation writes into a block that the region has made. No condition.
-/
namespace Go.Proofs.YtfchglcclgcgfaaGreatDoor.Reg
open Go.RowKit Go.Maps
set_option linter.unusedVariables false
set_option linter.unusedSimpArgs false

section
variable {P : Program} {ops : Array Oper} {Q : Exit → Act → World → Prop}

/-- What an operation that is ready reads. -/
theorem inv_facts {a0 : Act} {w0 : World} {V : Nat → Value → World → Prop} (ht : tidy ops = true) {listed : Array Bool} {a : Act} {w : World} {i : Nat} (hI : Inv ops V a0 w0 listed a w) (hs : listed.size = ops.size) (hi : i ∈ Region.ready .any ops listed) :
  ∀ x ∈ reads ops i, (x.2 = true → V x.1 (a.tmps.getD x.1 undef) w) ∧ (x.2 = false → a.tmps.getD x.1 undef = a0.tmps.getD x.1 undef) := by
 obtain ⟨hun, o, ho, haf⟩ := mem_ready.1 hi
 have hil : i < ops.size := (Array.getElem?_eq_some_iff.1 ho).1
 have hwl : ∀ j, waits ops i j = true → listed.getD j false = true := fun j hj => by
  unfold waits at hj
  rw [ho] at hj
  simp only [Option.map_some, Option.getD_some, Array.any_eq_true', Bool.and_eq_true, beq_iff_eq] at hj
  obtain ⟨e, he, rfl, hb⟩ := hj
  exact haf e he hb
 have hilt : i < listed.size := by omega
 have hnl : listed.getD i false = false := by
  rw [Array.getD_eq_getD_getElem?] at hun ⊢
  simp [hilt] at hun ⊢
  exact hun
 have htd : ∀ j, j < ops.size → i ≠ j → ∀ d, writes ops j d = true → writes ops i d = false ∧ (d ∈ o.looksAt ops → waits ops i j = true ∨ waits ops j i = true) := fun j hj hne d hw => by
  unfold tidy at ht
  rw [Bool.and_eq_true] at ht
  have h1 := List.all_eq_true.1 (List.all_eq_true.1 ht.2 i (List.mem_range.2 hil)) j (List.mem_range.2 hj)
  unfold writes at hw
  have hdj : (ops[j]?).bind (·.dst) = some d := by simpa using hw
  rw [hdj, ho] at h1
  have hb : (i == j) = false := by simpa using hne
  rw [hb] at h1
  simp only [Bool.false_or, Bool.and_eq_true, Bool.not_eq_true', Bool.or_eq_true] at h1
  refine ⟨h1.1, fun hd => ?_⟩
  rcases h1.2 with (h2 | h2) | h2
  ·have : (o.looksAt ops).contains d = true := by simpa using hd
   rw [this] at h2; cases h2
  ·exact .inl h2
  ·exact .inr h2
 have hwn : ∀ j, waits ops j i = true → listed.getD j false = false := fun j hj => by
  cases hx : listed.getD j false with
  | false => rfl
  | true => have := hI.closed j i hj hx; rw [hnl] at this; cases this
 intro x hx
 unfold reads at hx
 rw [ho] at hx
 obtain ⟨d, hdm, rfl⟩ := List.mem_map.1 hx
 refine ⟨fun hf => ?_, fun hf => ?_⟩
 ·simp only [List.any_eq_true, List.mem_range, Bool.and_eq_true] at hf
  obtain ⟨j, _, hw, hwt⟩ := hf
  exact hI.done j d hw (hwl j hwt)
 ·refine hI.rest d (fun j hw => ?_)
  by_cases hji : j = i
  ·subst hji; exact hnl
  ·rcases (htd j (writes_lt hw) (Ne.symm hji) d hw).2 hdm with h1 | h1
   ·exfalso
    rw [List.any_eq_false] at hf
    have := hf j (List.mem_range.2 (writes_lt hw))
    simp [hw, h1] at this
   ·exact hwn j h1

/-- The step of an operation, told by what it hands on. -/
theorem inv_put {a0 : Act} {w0 : World} {V : Nat → Value → World → Prop} {E : Act → World → Prop} (ht : tidy ops = true)
  (hsz : (ops.all fun o => match o.dst with | some d => decide (d < a0.tmps.size) | none => true) = true)
  {listed : Array Bool} {a : Act} {w : World} {i : Nat} (hI : Inv ops V a0 w0 listed a w) (hs : listed.size = ops.size) (hi : i ∈ Region.ready .any ops listed)
  (h : wpOp P ops Q i (fun a' w' => ∃ v, a' = a.put ((ops[i]?).bind (·.dst)) v ∧ Below w0.heap.size w0 w' ∧ (∀ d v', V d v' w → V d v' w') ∧ (∀ d, writes ops i d = true → V d v w') ∧ E a' w') a w) :
  wpOp P ops Q i (fun a' w' => Inv ops V a0 w0 (listed.setIfInBounds i true) a' w' ∧ E a' w') a w := by
 obtain ⟨hun, o, ho, haf⟩ := mem_ready.1 hi
 have hil : i < ops.size := (Array.getElem?_eq_some_iff.1 ho).1
 have hwl : ∀ j, waits ops i j = true → listed.getD j false = true := fun j hj => by
  unfold waits at hj
  rw [ho] at hj
  simp only [Option.map_some, Option.getD_some, Array.any_eq_true', Bool.and_eq_true, beq_iff_eq] at hj
  obtain ⟨e, he, rfl, hb⟩ := hj
  exact haf e he hb
 have hilt : i < listed.size := by omega
 have hnl : listed.getD i false = false := by
  rw [Array.getD_eq_getD_getElem?] at hun ⊢
  simp [hilt] at hun ⊢
  exact hun
 have htd : ∀ j, j < ops.size → i ≠ j → ∀ d, writes ops j d = true → writes ops i d = false ∧ (d ∈ o.looksAt ops → waits ops i j = true ∨ waits ops j i = true) := fun j hj hne d hw => by
  unfold tidy at ht
  rw [Bool.and_eq_true] at ht
  have h1 := List.all_eq_true.1 (List.all_eq_true.1 ht.2 i (List.mem_range.2 hil)) j (List.mem_range.2 hj)
  unfold writes at hw
  have hdj : (ops[j]?).bind (·.dst) = some d := by simpa using hw
  rw [hdj, ho] at h1
  have hb : (i == j) = false := by simpa using hne
  rw [hb] at h1
  simp only [Bool.false_or, Bool.and_eq_true, Bool.not_eq_true', Bool.or_eq_true] at h1
  refine ⟨h1.1, fun hd => ?_⟩
  rcases h1.2 with (h2 | h2) | h2
  ·have : (o.looksAt ops).contains d = true := by simpa using hd
   rw [this] at h2; cases h2
  ·exact .inl h2
  ·exact .inr h2
 have hwn : ∀ j, waits ops j i = true → listed.getD j false = false := fun j hj => by
  cases hx : listed.getD j false with
  | false => rfl
  | true => have := hI.closed j i hj hx; rw [hnl] at this; cases this
 refine wpOp_mono (fun a' w' hh => ?_) h
 obtain ⟨v, rfl, hb, hVV, hv, hE⟩ := hh
 have hdl : ∀ t, (ops[i]?).bind (·.dst) = some t → t < a.tmps.size := fun t hte => by
  rw [ho] at hte
  have h2 := Array.all_eq_true_iff_forall_mem.1 hsz o (Array.mem_of_getElem? ho)
  have h3 : o.dst = some t := hte
  rw [h3] at h2
  rw [hI.size]
  exact of_decide_eq_true h2
 have hli : ∀ j, j ≠ i → (listed.setIfInBounds i true).getD j false = listed.getD j false := fun j hj => getD_set_ne false (Ne.symm hj)
 have hself : (listed.setIfInBounds i true).getD i false = true := by
  rw [Array.getD_eq_getD_getElem?]; simp [hilt]
 refine ⟨⟨?_, ?_, hb, fun j d hw hl => ?_, fun j k hjk hl => ?_, fun d hd => ?_⟩, hE⟩
 ·cases hx : (ops[i]?).bind (·.dst) <;> simp [Act.put, hI.size]
 ·cases hx : (ops[i]?).bind (·.dst) <;> simp [Act.put, hI.defers]
 ·rw [getD_put a _ v d hdl]
  by_cases hji : j = i
  ·subst hji
   have : (ops[j]?).bind (·.dst) = some d := by simpa [writes] using hw
   rw [if_pos this]
   exact hv d hw
  ·have hne := (htd j (writes_lt hw) (Ne.symm hji) d hw).1
   rw [if_neg (by intro e; simp [writes, e] at hne)]
   rw [hli j hji] at hl
   exact hVV _ _ (hI.done j d hw hl)
 ·by_cases hki : k = i
  ·subst hki; exact hself
  ·rw [hli k hki]
   by_cases hji : j = i
   ·subst hji; exact hwl k hjk
   ·rw [hli j hji] at hl; exact hI.closed j k hjk hl
 ·rw [getD_put a _ v d hdl]
  rw [if_neg]
  ·refine hI.rest d (fun j hw => ?_)
   have := hd j hw
   by_cases hji : j = i
   ·subst hji; rw [hself] at this; cases this
   ·rwa [hli j hji] at this
  ·intro e
   have := hd i (by simp [writes, e])
   rw [hself] at this; cases this

/-- What the writing operation owes. -/
def OwesW (P : Program) (ops : Array Oper) (Q : Exit → Act → World → Prop) (V : Nat → Value → World → Prop) (a0 : Act) (w0 : World) (U : Value → World → Prop) (p q : Nat) : Prop :=
 ∀ a w, Below w0.heap.size w0 w → (∀ x ∈ reads ops p, (x.2 = true → V x.1 (a.tmps.getD x.1 undef) w) ∧ (x.2 = false → a.tmps.getD x.1 undef = a0.tmps.getD x.1 undef)) → V q (a.tmps.getD q undef) w →
   wpOp P ops Q p (fun a' w' => a' = a ∧ Below w0.heap.size w0 w' ∧ (∀ d v, V d v w → V d v w') ∧ U (a.tmps.getD q undef) w') a w
/-- One operation, p, writes into the block that slot q names; all the others leave what lay as it is. -/
theorem wp_held_write {id : Nat} {a0 : Act} {w0 : World} (hm : P.follows .mixedOrders = true) (V : Nat → Value → World → Prop)
  (hV : ∀ d v w w', V d v w → Below w.heap.size w w' → V d v w') (ht : tidy ops = true) (D : List Nat) (hD : dsts ops = D) (p q m : Nat) (hps : p < ops.size) (hpd : (ops[p]?).bind (·.dst) = none)
  (hq : writes ops m q = true) (hpm : far ops 4 p m = true) (U : Value → World → Prop) (hU : ∀ v w w', U v w → Below w.heap.size w w' → U v w')
  (hsz : (ops.all fun o => match o.dst with | some d => decide (d < a0.tmps.size) | none => true) = true)
  (h : ∀ i, i < ops.size → i ≠ p → Owes P ops Q V a0 w0 i)
  (hp : OwesW P ops Q V a0 w0 U p q)
  (hd : ∀ (f : Nat → Value) w, (∀ d ∈ D, V d (f d) w) → U (f q) w → Below w0.heap.size w0 w → Q .normal (putAll a0 (D.map fun d => (d, f d))) w) :
  (Code.region id ops true).wp P Q a0 w0 := by
 have hdr : Below w0.heap.size w0 { w0 with drawn := w0.drawn + 1 } := ⟨rfl, rfl, rfl, Nat.le_refl _, fun _ _ => rfl⟩
 have hnone : ∀ j, (Array.replicate ops.size false).getD j false = false := fun j => by
  rw [Array.getD_eq_getD_getElem?]
  by_cases hj : j < ops.size <;> simp [hj]
 refine wp_inv hm (fun listed a w => Inv ops V a0 w0 listed a w ∧ (listed.getD p false = true → listed.getD m false = true ∧ U (a.tmps.getD q undef) w)) ⟨⟨rfl, rfl, hdr, fun j d _ hl => ?_, fun j k _ hl => ?_, fun d _ => rfl⟩, fun hl => ?_⟩ ?_ ?_
 ·rw [hnone] at hl; cases hl
 ·rw [hnone] at hl; cases hl
 ·rw [hnone] at hl; cases hl
 ·intro listed a w i ⟨hI, hU2⟩ hs hi
  have hfacts := inv_facts ht hI hs hi
  obtain ⟨hun, o, ho, haf⟩ := mem_ready.1 hi
  have hil : i < ops.size := (Array.getElem?_eq_some_iff.1 ho).1
  have hilt : i < listed.size := by omega
  have hnl : listed.getD i false = false := by
   rw [Array.getD_eq_getD_getElem?] at hun ⊢
   simp [hilt] at hun ⊢
   exact hun
  have hself : (listed.setIfInBounds i true).getD i false = true := by
   rw [Array.getD_eq_getD_getElem?]; simp [hilt]
  by_cases hip : i = p
  ·subst hip
   have hml : listed.getD m false = true := by
    refine far_once (fun k hk => ?_) hI.closed hpm
    unfold waits at hk
    rw [ho] at hk
    simp only [Option.map_some, Option.getD_some, Array.any_eq_true', Bool.and_eq_true, beq_iff_eq] at hk
    obtain ⟨e, he, rfl, hb⟩ := hk
    exact haf e he hb
   have hmi : m ≠ i := by rintro rfl; rw [hnl] at hml; cases hml
   refine wpOp_mono (fun a' w' hh => ⟨hh.1, fun _ => ⟨?_, hh.2⟩⟩) (inv_put (E := fun a' w' => U (a'.tmps.getD q undef) w') ht hsz hI hs hi (wpOp_mono (fun a' w' hh => ?_) (hp a w hI.below hfacts (hI.done m q hq hml))))
   ·rw [getD_set_ne false (fun e => hmi e.symm)]; exact hml
   ·obtain ⟨rfl, h1, h2, h3⟩ := hh
    refine ⟨undef, by rw [hpd]; rfl, h1, h2, fun d hd' => by simp [writes, hpd] at hd', h3⟩
  ·refine wpOp_mono (fun a' w' hh => ⟨hh.1, fun hl => ?_⟩) (inv_put (E := fun a' w' => listed.getD p false = true → U (a'.tmps.getD q undef) w') ht hsz hI hs hi (wpOp_mono (fun a' w' hh => ?_) (h i hil hip a w hI.size hI.defers hI.below hfacts)))
   ·rw [getD_set_ne false hip] at hl
    have hml := (hU2 hl).1
    have hmi : m ≠ i := by rintro rfl; rw [hnl] at hml; cases hml
    exact ⟨by rw [getD_set_ne false (fun e => hmi e.symm)]; exact hml, hh.2 hl⟩
   ·obtain ⟨v, rfl, h1, h2⟩ := hh
    refine ⟨v, rfl, hI.below.trans (h1.mono hI.below.size), fun d v' hv' => hV _ _ _ _ hv' h1, h2, fun hl => ?_⟩
    obtain ⟨hml, hu⟩ := hU2 hl
    have hmi : m ≠ i := by rintro rfl; rw [hnl] at hml; cases hml
    have hdl : ∀ t, (ops[i]?).bind (·.dst) = some t → t < a.tmps.size := fun t hte => by
     rw [ho] at hte
     have h2 := Array.all_eq_true_iff_forall_mem.1 hsz o (Array.mem_of_getElem? ho)
     have h3 : o.dst = some t := hte
     rw [h3] at h2
     rw [hI.size]
     exact of_decide_eq_true h2
    have hne : ¬ (ops[i]?).bind (·.dst) = some q := by
     intro e
     unfold tidy at ht
     rw [Bool.and_eq_true] at ht
     have h1 := List.all_eq_true.1 (List.all_eq_true.1 ht.2 i (List.mem_range.2 hil)) m (List.mem_range.2 (writes_lt hq))
     have hdm : (ops[m]?).bind (·.dst) = some q := by simpa [writes] using hq
     rw [hdm] at h1
     have hb : (i == m) = false := by simpa using hmi.symm
     rw [hb] at h1
     simp only [Bool.false_or, Bool.and_eq_true, Bool.not_eq_true'] at h1
     have := h1.1
     simp [writes, e] at this
    rw [getD_put a _ v q hdl, if_neg hne]
    exact hU _ _ _ hu h1
 ·intro listed a w ⟨hI, hU2⟩ hs hr
  have hal := all_listed ht hr hs
  subst hD
  have e := putAll_eq a (dsts ops) a0 hI.size hI.defers (fun d hdm => by
   obtain ⟨j, hj⟩ := mem_dsts.1 hdm
   unfold writes at hj
   cases hx : ops[j]? with
   | none => rw [hx] at hj; simp at hj
   | some o =>
    rw [hx] at hj
    have h3 : o.dst = some d := by simpa using hj
    have h2 := Array.all_eq_true_iff_forall_mem.1 hsz o (Array.mem_of_getElem? hx)
    rw [h3] at h2
    exact of_decide_eq_true h2) (fun d hn => hI.rest d (fun j hw => absurd (mem_dsts.2 ⟨j, hw⟩) hn))
  rw [e]
  exact hd (fun d => a.tmps.getD d undef) w (fun d hdm => by obtain ⟨j, hj⟩ := mem_dsts.1 hdm; exact hI.done j d hj (hal j (writes_lt hj))) (hU2 (hal p hps)).2 hI.below
/-- What the writing operation owes, told by its own step. -/
theorem write_op {V : Nat → Value → World → Prop} {a0 : Act} {w0 : World} {U : Value → World → Prop} {p q : Nat} {o : Oper} {L : List (Nat × Bool)} (ho : ops[p]? = some o) (hg : o.guard = none) (hd : o.dst = none) (hL : reads ops p = L)
  (h : ∀ a w, Below w0.heap.size w0 w → Facts V a0 a w L → V q (a.tmps[q]?.getD undef) w → o.wp P a w (fun a' w' => ∃ u, a' = a.put none u ∧ Below w0.heap.size w0 w' ∧ (∀ d v, V d v w → V d v w') ∧ U (a.tmps[q]?.getD undef) w') Q) :
  OwesW P ops Q V a0 w0 U p q := by
 intro a w hb hr hq
 rw [hL] at hr
 rw [Array.getD_eq_getD_getElem?] at hq
 unfold wpOp
 rw [ho]
 simp only [Region.wanted, hg, if_true]
 refine .inl (Oper.wp_mono (fun a' w' hh => ?_) (h a w hb (facts_of hr) hq))
 obtain ⟨u, rfl, h1, h2, h3⟩ := hh
 exact ⟨rfl, h1, h2, by rw [Array.getD_eq_getD_getElem?]; exact h3⟩
end
end Go.Proofs.YtfchglcclgcgfaaGreatDoor.Reg
/-
 The document's column and its way back (plain): what the sums over the list of clusters are. No condition.
-/
namespace Go.Proofs.YtfchglcclgcgfaaGreatDoor.Ut
open Go.RowKit Go.Proofs.YtfchglcclgcgfaaGreatDoor.Reg
set_option linter.unusedVariables false
set_option linter.unusedSimpArgs false

/-- A list of clusters, as it lies. -/
def quads (s : ByteArray) (l : List Nat) : List (Int × Int × Int × Int) := l.map fun (c : Nat) => ((c : Int), (clN s c : Int), clC s c, clW s c)
theorem Lst_quads (s : ByteArray) : Lst s s.size = quads s (clAts s 0) := Lst_all s
end Go.Proofs.YtfchglcclgcgfaaGreatDoor.Ut
/-
 The boundaries of a text as a list (plain). No condition.
-/
namespace Go.Proofs.YtfchglcclgcgfaaGreatDoor.Ut
open Go.RowKit Go.Proofs.YtfchglcclgcgfaaGreatDoor.Reg
set_option linter.unusedVariables false
set_option linter.unusedSimpArgs false

def bnd (s : ByteArray) : List Nat := 0 :: (clAts s 0).map (clN s)
theorem mem_bnd (s : ByteArray) (x : Nat) : x ∈ bnd s ↔ x ≤ s.size ∧ clB s x = true := by
 unfold bnd
 rw [List.mem_cons, List.mem_map, cuts_all]
 constructor
 ·rintro (rfl | ⟨c, hc, rfl⟩)
  ·exact ⟨Nat.zero_le _, clB_zero s⟩
  ·obtain ⟨⟨-, h1⟩, h2⟩ := mem_cuts.1 hc
   exact ⟨clN_le s c, next_clB h2 (by omega)⟩
 ·rintro ⟨h1, h2⟩
  rcases Nat.eq_zero_or_pos x with h0 | h0
  ·exact .inl h0
  ·right
   have := atEnd_cuts (u := s) (j := x) 0 h2 h1
   unfold atEnd at this
   cases hg : (cutsOf s 0 x).getLast? with
   | none => rw [hg] at this; simp at this; omega
   | some c =>
    rw [hg] at this
    simp only at this
    have hm : c ∈ cutsOf s 0 x := List.mem_of_getLast? hg
    obtain ⟨⟨-, h3⟩, h4⟩ := mem_cuts.1 hm
    exact ⟨c, mem_cuts.2 ⟨⟨Nat.zero_le _, by omega⟩, h4⟩, by omega⟩
theorem ends_up (s : ByteArray) : ∀ d i, s.size - i ≤ d → ((clAts s i).map (clN s)).Pairwise (· < ·) ∧ ∀ y ∈ (clAts s i).map (clN s), i < y
 | 0, i, h => by rw [clAts_end (by omega)]; simp
 | d + 1, i, h => by
  rcases Nat.lt_or_ge i s.size with hi | hi
  ·have hg := clN_gt hi
   obtain ⟨a, b⟩ := ends_up s d (clN s i) (by omega)
   rw [clAts_step hi, List.map_cons]
   refine ⟨List.pairwise_cons.2 ⟨b, a⟩, fun y hy => ?_⟩
   rcases List.mem_cons.1 hy with rfl | h1
   ·exact hg
   ·have := b y h1; omega
  ·rw [clAts_end hi]; simp
/-- They rise. -/
theorem bnd_up (s : ByteArray) : (bnd s).Pairwise (· < ·) := by
 obtain ⟨a, b⟩ := ends_up s _ 0 (Nat.le_refl _)
 exact List.pairwise_cons.2 ⟨b, a⟩
theorem find_least (p : Nat → Bool) (r : Nat) : ∀ l : List Nat, l.Pairwise (· < ·) → r ∈ l → p r = true → (∀ y ∈ l, p y = true → r ≤ y) → l.find? p = some r
 | [], _, h, _, _ => by simp at h
 | x :: l, hs, h, hp, hn => by
  rw [List.find?_cons]
  rw [List.pairwise_cons] at hs
  cases hx : p x with
  | true =>
   have h1 := hn x (by simp) hx
   rcases List.mem_cons.1 h with rfl | h2
   ·rfl
   ·have := hs.1 r h2; omega
  | false =>
   rcases List.mem_cons.1 h with rfl | h2
   ·rw [hp] at hx; cases hx
   ·exact find_least p r l hs.2 h2 hp (fun y hy => hn y (by simp [hy]))
theorem find_most (p : Nat → Bool) (r : Nat) {l : List Nat} (hs : l.Pairwise (· < ·)) (h : r ∈ l) (hp : p r = true) (hn : ∀ y ∈ l, p y = true → y ≤ r) : l.reverse.find? p = some r := by
 have key : ∀ m : List Nat, m.Pairwise (fun a b => b < a) → r ∈ m → (∀ y ∈ m, p y = true → y ≤ r) → m.find? p = some r := by
  intro m
  induction m with
  | nil => intro _ h _; simp at h
  | cons x m ih =>
   intro h1 h2 h3
   rw [List.find?_cons]
   rw [List.pairwise_cons] at h1
   cases hx : p x with
   | true =>
    have h4 := h3 x (by simp) hx
    rcases List.mem_cons.1 h2 with rfl | h5
    ·rfl
    ·have := h1.1 r h5; omega
   | false =>
    rcases List.mem_cons.1 h2 with rfl | h5
    ·rw [hp] at hx; cases hx
    ·exact ih h1.2 h5 (fun y hy => h3 y (by simp [hy]))
 exact key _ (List.pairwise_reverse.2 hs) (by simpa using h) (fun y hy => hn y (by simpa using hy))
theorem find_none {p : Nat → Bool} {l : List Nat} (h : ∀ y ∈ l, p y = false) : l.find? p = none := by
 rw [List.find?_eq_none]
 intro y hy
 rw [h y hy]; simp
/-- The document's boundaries behind, ahead of and at a place. -/
def nextB (s : ByteArray) (a : Int) : Nat := ((bnd s).find? fun (b : Nat) => decide (a < (b : Int))).getD s.size
def snapB (s : ByteArray) (a : Int) : Nat := ((bnd s).find? fun (b : Nat) => decide (a ≤ (b : Int))).getD s.size
def prevB (s : ByteArray) (a : Int) : Nat := ((bnd s).reverse.find? fun (b : Nat) => decide ((b : Int) < a)).getD 0
theorem nextB_is {s : ByteArray} {a : Int} {r : Nat} (h1 : a < r) (h2 : r ≤ s.size) (h3 : clB s r = true) (h4 : ∀ k : Nat, a < k → k < r → clB s k = false) : nextB s a = r := by
 unfold nextB
 rw [find_least _ r _ (bnd_up s) ((mem_bnd s r).2 ⟨h2, h3⟩) (by simpa using h1) (fun y hy hp => ?_)]
 ·rfl
 ·rcases Nat.lt_or_ge y r with h | h
  ·have := h4 y (by simpa using hp) h
   rw [((mem_bnd s y).1 hy).2] at this; cases this
  ·exact h
theorem nextB_end {s : ByteArray} {a : Int} (h : (s.size : Int) ≤ a) : nextB s a = s.size := by
 unfold nextB
 rw [find_none (fun y hy => by have := ((mem_bnd s y).1 hy).1; simp; omega)]; rfl
theorem snapB_next (s : ByteArray) (a : Int) : snapB s a = nextB s (a - 1) := by
 unfold snapB nextB
 congr 2
 funext b
 have : (a ≤ (b : Int)) ↔ (a - 1 < (b : Int)) := by omega
 simp [this]
theorem prevB_is {s : ByteArray} {a : Int} {r : Nat} (h1 : (r : Int) < a) (h2 : r ≤ s.size) (h3 : clB s r = true) (h4 : ∀ k : Nat, r < k → (k : Int) < a → k ≤ s.size → clB s k = false) : prevB s a = r := by
 unfold prevB
 rw [find_most _ r (bnd_up s) ((mem_bnd s r).2 ⟨h2, h3⟩) (by simpa using h1) (fun y hy hp => ?_)]
 ·rfl
 ·rcases Nat.lt_or_ge r y with h | h
  ·have := h4 y h (by simpa using hp) ((mem_bnd s y).1 hy).1
   rw [((mem_bnd s y).1 hy).2] at this; cases this
  ·exact h
theorem prevB_none {s : ByteArray} {a : Int} (h : a ≤ 0) : prevB s a = 0 := by
 unfold prevB
 rw [find_none (fun y hy => by simp; omega)]; rfl
end Go.Proofs.YtfchglcclgcgfaaGreatDoor.Ut
/-
 A boundary is told by the eight bytes about it (plain). No condition.
-/
namespace Go.Proofs.YtfchglcclgcgfaaGreatDoor.Ut
open Go.RowKit Go.Proofs.YtfchglcclgcgfaaGreatDoor.Reg
set_option linter.unusedVariables false
set_option linter.unusedSimpArgs false

theorem clB_near (s : ByteArray) {i : Nat} (h0 : 0 < i) (hi : i < s.size) : clB (s.extract (i - 4) (min (i + 4) s.size)) (i - (i - 4)) = clB s i := by
 obtain ⟨F, hF⟩ : ∃ F, i - 4 = F := ⟨_, rfl⟩
 obtain ⟨T, hT⟩ : ∃ T, min (i + 4) s.size = T := ⟨_, rfl⟩
 rw [hF, hT]
 have h1 : F ≤ T := by omega
 have h2 : T ≤ s.size := by omega
 have hsz : (s.extract F T).size = T - F := by simp [ByteArray.size_extract]; omega
 rw [clB_win s hi, clB_win (s.extract F T) (i := i - F) (by rw [hsz]; omega)]
 congr 1
 unfold win
 funext d
 split
 ·rename_i hd
  rw [bt_extract s h1 h2]
  split
  ·congr 1; omega
  ·rename_i hk
   rcases Int.lt_or_le ((i : Int) + d - 4) 0 with hn | hn
   ·rw [bt_neg s hn]
   ·rw [bt_big s]; omega
 ·rfl
theorem clB_all (s : ByteArray) : clB s s.size = true := by unfold clB; simp
/-- Is it a boundary, at any number? -/
def inB (s : ByteArray) (a : Int) : Bool := decide (0 ≤ a ∧ a ≤ (s.size : Int)) && clB s a.toNat
theorem inB_nat (s : ByteArray) {i : Nat} (h : i ≤ s.size) : inB s i = clB s i := by
 unfold inB
 rw [decide_eq_true (by omega)]; simp
theorem inB_end (s : ByteArray) {a : Int} (h : a ≤ 0 ∨ (s.size : Int) ≤ a) : inB s a = (decide (a = 0) || decide (a = (s.size : Int))) := by
 unfold inB
 by_cases h0 : a = 0
 ·subst h0; simp [clB_zero]
 ·by_cases h1 : a = (s.size : Int)
  ·subst h1; simp [clB_all]
  ·simp only [decide_eq_false h0, decide_eq_false h1, Bool.or_self]
   rw [decide_eq_false (by omega)]; rfl
theorem any_bnd (s : ByteArray) (a : Int) : ((bnd s).any fun (b : Nat) => decide ((b : Int) = a)) = inB s a := by
 rw [Bool.eq_iff_iff, List.any_eq_true]
 unfold inB
 rw [Bool.and_eq_true, decide_eq_true_iff]
 constructor
 ·rintro ⟨b, hb, he⟩
  have he : (b : Int) = a := by simpa using he
  subst he
  obtain ⟨h1, h2⟩ := (mem_bnd s b).1 hb
  exact ⟨by omega, by simpa using h2⟩
 ·rintro ⟨⟨h1, h2⟩, h3⟩
  exact ⟨a.toNat, (mem_bnd s _).2 ⟨by omega, h3⟩, by simp; omega⟩
theorem find_congr {p q : Nat → Bool} : ∀ {l : List Nat}, (∀ x ∈ l, p x = q x) → l.find? p = l.find? q
 | [], _ => rfl
 | x :: l, h => by
  rw [List.find?_cons, List.find?_cons, h x (by simp), find_congr (fun y hy => h y (by simp [hy]))]
theorem snapB_at {s : ByteArray} {a : Int} (h : inB s a = true) : ((snapB s a : Nat) : Int) = a := by
 unfold inB at h
 rw [Bool.and_eq_true, decide_eq_true_iff] at h
 obtain ⟨⟨h1, h2⟩, h3⟩ := h
 have := nextB_is (s := s) (a := a - 1) (r := a.toNat) (by omega) (by omega) h3 (fun k h4 h5 => by omega)
 rw [snapB_next, this]; omega
theorem snapB_off {s : ByteArray} {a : Int} (h : inB s a = false) : snapB s a = nextB s a := by
 unfold snapB nextB
 rw [find_congr (fun b hb => ?_)]
 rw [decide_eq_decide]
 have h1 := (mem_bnd s b).1 hb
 have : (b : Int) ≠ a := by
  intro e
  subst e
  rw [inB_nat s h1.1, h1.2] at h
  cases h
 omega
theorem nextB_neg {s : ByteArray} {a : Int} (h : a < 0) : nextB s a = 0 := nextB_is (by omega) (Nat.zero_le _) (clB_zero s) (fun k _ h => by omega)
theorem prevB_over {s : ByteArray} {a : Int} (h : (s.size : Int) < a) : prevB s a = s.size := prevB_is h (Nat.le_refl _) (clB_all s) (fun k h1 _ h3 => by omega)
end Go.Proofs.YtfchglcclgcgfaaGreatDoor.Ut
