/-
  From the bound on what came in to the bounds that the walk of MarksPlays asks. Condition: that bound.
-/
import Derived.Test.YtdkdnkmfjpdcpaaDoorMkPlays
namespace Go.Proofs.YtdkdnkmfjpdcpaaDoor.Mk
open Go.RowKit Go.Maps Go.Proofs.YtdkdnkmfjpdcpaaDoor.Reg Go.Proofs.YtdkdnkmfjpdcpaaDoor.Row Go.ChangeShapes Go.WideShapes Go.ChangeAt Go.Deep
set_option linter.unusedVariables false
set_option linter.unusedSimpArgs false

theorem bulk_one {H : Type} (d : DataW H) : 1 ≤ Rows.uptoBulk d := by
  cases d with
  | lit l => cases l <;> simp [Rows.uptoBulk]
  | nil => simp [Rows.uptoBulk]
  | ptr d => simp [Rows.uptoBulk]
  | slice elems spare => simp [Rows.uptoBulk]
  | agg parts => simp [Rows.uptoBulk]
  | iface t d => simp [Rows.uptoBulk]
  | map entries => simp [Rows.uptoBulk]
  | held h => simp [Rows.uptoBulk]
theorem bulk_part {H : Type} {d : DataW H} {l : List (DataW H)} (h : d ∈ l) : Rows.uptoBulk d ≤ Rows.uptoBulkAll l := by
  induction l with
  | nil => cases h
  | cons x r ih =>
    simp only [Rows.uptoBulkAll]
    rcases List.mem_cons.1 h with rfl | e
    · omega
    · have := ih e; omega
theorem bulk_length {H : Type} (l : List (DataW H)) : l.length ≤ Rows.uptoBulkAll l := by
  induction l with
  | nil => simp [Rows.uptoBulkAll]
  | cons x r ih => have := bulk_one x; simp only [Rows.uptoBulkAll, List.length_cons]; omega
/-- A sum of sizes that are each below a part's bulk. -/
theorem bulk_sum {H : Type} : ∀ (l : List (DataW H)) (ns : List Nat), ns.length = l.length → (∀ i (h : i < ns.length) (h' : i < l.length), ns[i] ≤ Rows.uptoBulk l[i]) → ns.sum ≤ Rows.uptoBulkAll l
  | [], [], _, _ => by simp [Rows.uptoBulkAll]
  | x :: r, n :: ns, h, hn => by
    have h0 := hn 0 (by simp) (by simp)
    have := bulk_sum r ns (by simpa using h) (fun i hi hi' => by have := hn (i + 1) (by simpa using hi) (by simpa using hi'); simpa using this)
    simp only [List.sum_cons, Rows.uptoBulkAll]
    simp at h0
    omega

theorem grow_deltas {H : Type} {enc : TypeId × Value → H} {W : World} {fuel : Nat} {A : Option Addr} {ds : List Dl} {c : Nat} {y : DataW H × List MemPlace} (hf : DataW.trod enc Tryd.prog W 0 (fun _ => true) true fuel 22 [.slice A ds.length c] = some y) (hd : DlsAt W A ds) :
    grow ds ≤ Rows.uptoBulk y.1 := by
  rcases open_slice_fields Tryd.underlying22 Tryd.underlying29 (by kernel_rfl) (by kernel_rfl) hf with ⟨hv, hx⟩ | ⟨a, len, cap, m, D, Pl, hv, -, hl, hm, hmm, hx, hi⟩
  · have : ds.length = 0 := by simp at hv; rw [hv.2.1]; rfl
    have : ds = [] := List.eq_nil_of_length_eq_zero this
    subst this
    simp [grow]
  · obtain ⟨rfl, hlen, rfl⟩ : A = some a ∧ ds.length = len ∧ c = cap := by simpa using hv
    subst hlen
    simp only [if_true] at hmm
    subst hmm
    subst hx
    simp only [Rows.uptoBulk]
    refine Nat.le_trans (bulk_sum ((List.range ds.length).map D) (ds.map (·.inn.size)) (by simp) (fun i hi1 hi2 => ?_)) (by omega)
    have hi3 : i < ds.length := by simpa using hi1
    obtain ⟨ys, n, hD, -, hyl, hfld⟩ := hi i (by omega)
    obtain ⟨v2, y2, hc2, hy2, ht2⟩ := hfld 2 _ rfl
    obtain ⟨q, e2, rfl, -⟩ := DataW.trod_string Tryd.underlying9 ht2
    obtain rfl : v2 = .string q := by simpa using e2
    rcases hd with h | ⟨ad, h1, h2, h3⟩
    · subst h; simp at hi3
    · obtain rfl : a = ad := by simpa using h1
      obtain ⟨-, -, k2⟩ := h3 i hi3
      have hc2' : W.cell? (a.add (i * 3 + 2)) = some (.string q) := hc2
      rw [add_off a (i * 3) 2 (by decide)] at hc2'
      have hq : ds[i].inn = q := by rw [hc2'] at k2; simpa using k2.symm
      have hmem : (DataW.lit (H := H) (.string q.data.toList)) ∈ ys.map (·.1) := List.mem_map.2 ⟨_, List.mem_of_getElem? hy2, rfl⟩
      have := bulk_part hmem
      simp only [List.getElem_map, List.getElem_range, hq, hD, Rows.uptoBulk] at this ⊢
      simp at this
      have hsz : q.size = q.data.size := rfl
      omega

theorem grow_ops {H : Type} {enc : TypeId × Value → H} {W : World} {fuel : Nat} {A : Option Addr} {ops : List OpV} {c : Nat} {y : DataW H × List MemPlace} (hf : DataW.trod enc Tryd.prog W 0 (fun _ => true) true fuel 52 [.slice A ops.length c] = some y) (ho : OpsAt W A ops) :
    (∀ o ∈ ops, grow o.ds ≤ Rows.uptoBulk y.1) ∧ ops.length ≤ Rows.uptoBulk y.1 ∧ ops.length ≤ c := by
  rcases open_slice_fields Tryd.underlying52 Tryd.underlying55 (by kernel_rfl) (by kernel_rfl) hf with ⟨hv, hx⟩ | ⟨a, len, cap, m, D, Pl, hv, -, hl, hm, hmm, hx, hi⟩
  · have : ops.length = 0 := by simp at hv; rw [hv.2.1]; rfl
    have : ops = [] := List.eq_nil_of_length_eq_zero this
    subst this
    simp
  · obtain ⟨rfl, hlen, rfl⟩ : A = some a ∧ ops.length = len ∧ c = cap := by simpa using hv
    subst hlen
    simp only [if_true] at hmm
    subst hmm
    subst hx
    simp only [Rows.uptoBulk]
    have hbl := bulk_length ((List.range ops.length).map D)
    rw [List.length_map, List.length_range] at hbl
    refine ⟨fun o hoo => ?_, by omega, hl⟩
    obtain ⟨i, hi3, rfl⟩ := List.getElem_of_mem hoo
    obtain ⟨ys, n, hD, -, hyl, hfld⟩ := hi i (by omega)
    obtain ⟨v4, y4, hc4, hy4, ht4⟩ := hfld 4 _ rfl
    rcases ho with h | ⟨ad, h1, h2, h3⟩
    · subst h; simp at hi3
    · obtain rfl : a = ad := by simpa using h1
      obtain ⟨⟨-, -, -, -, k4⟩, -, hds, -⟩ := h3 i hi3
      have hc4' : W.cell? (a.add (i * 5 + 4)) = some v4 := hc4
      rw [add_off a (i * 5) 4 (by decide), k4] at hc4'
      obtain rfl : _ = v4 := Option.some.inj hc4'
      have h5 := grow_deltas ht4 hds
      have h6 : Rows.uptoBulk y4.1 ≤ Rows.uptoBulkAll (ys.map (·.1)) := bulk_part (List.mem_map.2 ⟨_, List.mem_of_getElem? hy4, rfl⟩)
      have h7 : Rows.uptoBulk (D i) ≤ Rows.uptoBulkAll ((List.range ops.length).map D) := bulk_part (List.mem_map.2 ⟨i, List.mem_range.2 hi3, rfl⟩)
      rw [hD] at h7
      simp only [Rows.uptoBulk] at h7
      omega

set_option maxRecDepth 100000 in
theorem calls_MarksPlays {H : Type} {enc : TypeId × Value → H} {W : World} {base : Nat} {laid : List (String × DataW Unit)} {v0 v1 : Value} {d0 d1 : DataW H} {p0 p1 : List MemPlace} (hL : laidMetH Tryd.prog laid W)
    (o0 : Value.okWide Tryd.prog W .any base 31 v0) (h0 : DataW.Trod enc Tryd.prog W 0 (fun _ => true) true 31 v0 d0 p0) (w0 : ∀ n ∈ d0.weights Tryd.prog 31, n ≤ reachBytes)
    (o1 : Value.okWide Tryd.prog W .any base 52 v1) (h1 : DataW.Trod enc Tryd.prog W 0 (fun _ => true) true 52 v1 d1 p1) (w1 : ∀ n ∈ d1.weights Tryd.prog 52, n ≤ reachBytes)
    (hk : Rows.uptoSmall H [d0, d1] = true) :
    Calls Tryd.prog 8 #[v0, v1] W fun e W' => e = .returned (.bool true) ∧ Below W.heap.size W W' := by
  obtain ⟨A, ms, c, rfl, hm, hl, hc, hf⟩ := open_marks h0 (by obtain ⟨a, l, c, rfl⟩ := okWide_slice Tryd.underlying31 o0; rfl) w0
  obtain ⟨B, ops, d, rfl, ho, hol⟩ := open_ops h1 (by obtain ⟨a, l, c, rfl⟩ := okWide_slice Tryd.underlying52 o1; rfl) w1
  have hb : Rows.uptoBulk d1 ≤ 1048576 := by
    have h := of_decide_eq_true hk
    simp only [Rows.uptoBulkAll] at h
    omega
  obtain ⟨fuel, hf1⟩ := h1
  obtain ⟨g1, g2, g3⟩ := grow_ops (y := (d1, p1)) hf1 ho
  have hdm : d ≤ 140737488351232 := by
    rcases open_slice_fields Tryd.underlying52 Tryd.underlying55 (by kernel_rfl) (by kernel_rfl) hf1 with ⟨hv, hx⟩ | ⟨a, len, cap, m, D, Pl, hv, -, hl, hm, hmm, hx, hi⟩
    · have : d = 0 := by
        have hv' : [Value.slice B ops.length d] = [.slice none 0 0] := hv
        simp at hv'; exact hv'.2.2
      omega
    · have hv' : [Value.slice B ops.length d] = [.slice (some a) len cap] := hv
      obtain ⟨rfl, hlen, rfl⟩ : B = some a ∧ ops.length = len ∧ d = cap := by simpa using hv'
      simp only [if_true] at hmm
      subst hmm
      obtain ⟨rfl, -⟩ : d1 = _ ∧ p1 = _ := by simpa using hx
      have := w1 ((((List.range len).map D).length + ((List.range (m - len)).map fun j => D (len + j)).length) * Tryd.prog.bytesOf 55) (by simp [DataW.weights, Tryd.underlying52])
      rw [show Tryd.prog.bytesOf 55 = 64 by kernel_rfl] at this
      simp only [List.length_map, List.length_range] at this
      unfold reachBytes at this
      omega
  unfold reachBytes at hc
  simp only at g1 g2
  exact plays_walk A ms c B ops d W hm hf (by omega) ho (by omega) g3 hdm (fun o hoo => Nat.le_trans (g1 o hoo) hb)
end Go.Proofs.YtdkdnkmfjpdcpaaDoor.Mk
