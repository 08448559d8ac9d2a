/-
  Lists of names and places in rising order, as plain lists, and as a map's datum. No condition.
-/
import Derived.Test.YtdkdnkmfjpdcpaaDoorBase
namespace Go.Proofs.YtdkdnkmfjpdcpaaDoor.Mk
open Go.RowKit Go.Maps
set_option linter.unusedVariables false
set_option linter.unusedSimpArgs false

abbrev ML := List (Int × Int)

def good (n : Int) : Bool := decide (n = 64 ∨ (97 ≤ n ∧ n ≤ 122))

def insP (x : Int × Int) : ML → ML
  | [] => [x]
  | y :: r => if x.1 < y.1 then x :: y :: r else y :: insP x r
def del (l : ML) (k : Int) : ML := l.filter fun p => !decide (p.1 = k)
def ins (l : ML) (k v : Int) : ML := insP (k, v) (del l k)
def get : ML → Int → Option Int
  | [], _ => none
  | x :: r, k => if x.1 = k then some x.2 else get r k

def Ok (l : ML) : Prop := l.Pairwise (fun p q => p.1 < q.1) ∧ ∀ x ∈ l, good x.1 = true ∧ (Lit.int .i64 x.2).wf = true

/-- A list of names and places as a map's datum. -/
def toE (x : Int × Int) : Lit × DataW Unit := (.int .u8 x.1, .lit (.int .i64 x.2))
def toD (l : ML) : DataW Unit := .map (l.map toE)

theorem sameKey_u8 (a b : Int) : (Lit.int .u8 a).sameKey (.int .u8 b) = decide (a = b) := by simp [Lit.sameKey]

theorem insert_map (x : Int × Int) : ∀ l : ML, DataW.insert (toE x) (l.map toE) = (insP x l).map toE
  | [] => rfl
  | y :: r => by
    have ih := insert_map x r
    simp only [List.map_cons, insP]
    unfold DataW.insert
    by_cases h : x.1 < y.1
    · simp [toE, Lit.before, h]
    · rw [if_neg (by simp [toE, Lit.before, h]), if_neg h, ih]; rfl

theorem toD_del (l : ML) (k : Int) : (toD l).del (.int .u8 k) = toD (del l k) := by
  simp only [toD, DataW.del, del, List.filter_map]
  refine congrArg _ (congrArg _ (List.filter_congr fun x _ => ?_))
  simp [toE, sameKey_u8]

theorem toD_put (l : ML) (k v : Int) : (toD l).put (.int .u8 k) (.lit (.int .i64 v)) = toD (ins l k v) := by
  have h := toD_del l k
  simp only [toD, DataW.del, DataW.map.injEq] at h
  simp only [toD, DataW.put, ins]
  rw [h, ← insert_map]; rfl

theorem toD_size (l : ML) : Maps.size (toD l) = l.length := by simp [toD, Maps.size_eq]

theorem toD_has (k : Int) : ∀ l : ML, Maps.has (toD l) (.int .u8 k) = (get l k).isSome
  | [] => rfl
  | x :: r => by
    have ih := toD_has k r
    simp only [toD, Maps.has_eq, List.map_cons, List.any_cons, get] at ih ⊢
    by_cases h : x.1 = k
    · simp [toE, sameKey_u8, h]
    · rw [if_neg h, ← ih]; simp [toE, sameKey_u8, h]

theorem toD_at (k : Int) : ∀ l : ML, (toD l).atKey (.int .u8 k) (.lit (.int .i64 0)) = .lit (.int .i64 ((get l k).getD 0))
  | [] => rfl
  | x :: r => by
    have ih := toD_at k r
    simp only [toD, DataW.atKey, List.map_cons, List.find?_cons, get] at ih ⊢
    by_cases h : x.1 = k
    · simp [toE, sameKey_u8, h]
    · rw [if_neg h, ← ih]; simp [toE, sameKey_u8, h]

theorem mem_insP (x y : Int × Int) : ∀ l : ML, y ∈ insP x l ↔ y = x ∨ y ∈ l
  | [] => by simp [insP]
  | z :: r => by
    have ih := mem_insP x y r
    simp only [insP]
    split
    · simp
    · simp only [List.mem_cons, ih]; constructor <;> (intro h; rcases h with h | h | h <;> simp [h])

theorem mem_del (l : ML) (k : Int) (y : Int × Int) : y ∈ del l k ↔ y ∈ l ∧ y.1 ≠ k := by simp [del]
theorem mem_ins (l : ML) (k v : Int) (y : Int × Int) : y ∈ ins l k v ↔ y = (k, v) ∨ (y ∈ l ∧ y.1 ≠ k) := by simp [ins, mem_insP, mem_del]

theorem sorted_insP (x : Int × Int) : ∀ l : ML, l.Pairwise (fun p q => p.1 < q.1) → (∀ y ∈ l, y.1 ≠ x.1) → (insP x l).Pairwise (fun p q => p.1 < q.1)
  | [], _, _ => by simp [insP]
  | y :: r, h, hn => by
    rw [List.pairwise_cons] at h
    simp only [insP]
    split
    · rename_i hxy
      refine List.pairwise_cons.2 ⟨fun z hz => ?_, List.pairwise_cons.2 h⟩
      rcases List.mem_cons.1 hz with rfl | hz
      · exact hxy
      · exact Int.lt_trans hxy (h.1 z hz)
    · rename_i hxy
      have hne := hn y (List.mem_cons_self)
      refine List.pairwise_cons.2 ⟨fun z hz => ?_, sorted_insP x r h.2 (fun z hz => hn z (List.mem_cons_of_mem _ hz))⟩
      rcases (mem_insP x z r).1 hz with rfl | hz
      · omega
      · exact h.1 z hz

theorem Ok.nil : Ok [] := ⟨List.Pairwise.nil, by simp⟩
theorem Ok.del {l : ML} (h : Ok l) (k : Int) : Ok (del l k) :=
  ⟨h.1.filter _, fun x hx => h.2 x ((mem_del l k x).1 hx).1⟩
theorem Ok.ins {l : ML} (h : Ok l) {k v : Int} (hk : good k = true) (hv : (Lit.int .i64 v).wf = true) : Ok (ins l k v) :=
  ⟨sorted_insP _ _ (h.del k).1 (fun y hy => ((mem_del l k y).1 hy).2), fun x hx => by
    rcases (mem_ins l k v x).1 hx with rfl | hx
    · exact ⟨hk, hv⟩
    · exact h.2 x hx.1⟩
theorem Ok.tail {x : Int × Int} {l : ML} (h : Ok (x :: l)) : Ok l := ⟨(List.pairwise_cons.1 h.1).2, fun y hy => h.2 y (List.mem_cons_of_mem _ hy)⟩

theorem good_range {n : Int} (h : good n = true) : 64 ≤ n ∧ n ≤ 122 ∧ (n ≤ 64 ∨ 97 ≤ n) := by
  have := of_decide_eq_true h; omega

/-- A rising list of numbers from a on has at most as many as there are numbers. -/
theorem rise_length : ∀ (l : ML) (a b : Int), l.Pairwise (fun p q => p.1 < q.1) → (∀ x ∈ l, a ≤ x.1 ∧ x.1 < b) → (l.length : Int) ≤ max 0 (b - a)
  | [], a, b, _, _ => by simp; omega
  | x :: r, a, b, h, hx => by
    rw [List.pairwise_cons] at h
    have := rise_length r (x.1 + 1) b h.2 (fun y hy => ⟨by have := h.1 y hy; omega, (hx y (List.mem_cons_of_mem _ hy)).2⟩)
    have h0 := hx x List.mem_cons_self
    simp only [List.length_cons]
    omega

theorem Ok.length {l : ML} (h : Ok l) : l.length ≤ 59 := by
  have := rise_length l 64 123 h.1 (fun x hx => by have := good_range (h.2 x hx).1; omega)
  omega

theorem get_del (k k' : Int) : ∀ l : ML, get (del l k) k' = if k' = k then none else get l k'
  | [] => by simp [del, get]
  | x :: r => by
    have ih := get_del k k' r
    unfold del at ih ⊢
    rw [List.filter_cons]
    by_cases h : x.1 = k
    · simp only [h, decide_true, Bool.not_true, Bool.false_eq_true, if_false]
      rw [ih]
      by_cases h2 : k' = k
      · simp [h2]
      · simp [h2, get, h, Ne.symm h2]
    · simp only [h, decide_false, Bool.not_false, if_true]
      simp only [get, ih]
      by_cases h2 : x.1 = k'
      · subst h2; simp [h]
      · simp [h2]

theorem get_insP (x : Int × Int) (k : Int) : ∀ l : ML, (∀ y ∈ l, y.1 ≠ x.1) → get (insP x l) k = if k = x.1 then some x.2 else get l k
  | [], _ => by
    simp only [insP, get]
    by_cases h : k = x.1
    · simp [h]
    · simp [h, Ne.symm h]
  | y :: r, hn => by
    have ih := get_insP x k r (fun z hz => hn z (List.mem_cons_of_mem _ hz))
    have hy := hn y List.mem_cons_self
    simp only [insP]
    split
    · simp only [get]
      by_cases h : k = x.1
      · simp [h]
      · simp [h, Ne.symm h]
    · simp only [get, ih]
      by_cases h : k = x.1
      · subst h; simp [hy]
      · simp [h]

theorem get_ins (l : ML) (k v k' : Int) : get (ins l k v) k' = if k' = k then some v else get l k' := by
  unfold ins
  rw [get_insP (k, v) k' _ (fun y hy => ((mem_del l k y).1 hy).2), get_del]
  by_cases h : k' = k <;> simp [h]

end Go.Proofs.YtdkdnkmfjpdcpaaDoor.Mk
