/-
  Slices of deltas and of marks among a law's arguments. No condition.
-/
import Derived.Test.YtdkdnkmfjpdcpaaDoorOpen
import Derived.Test.YtdkdnkmfjpdcpaaDoorMkLoad
namespace Go.Proofs.YtdkdnkmfjpdcpaaDoor.Mk
open Go.RowKit Go.ChangeShapes Go.WideShapes Go.ChangeAt Go.Deep Go.Proofs.YtdkdnkmfjpdcpaaDoor.Row
set_option linter.unusedVariables false
set_option linter.unusedSimpArgs false

theorem add_off (a : Addr) (k j : Nat) (hj : 0 < j) : a.add (k + j) = ⟨(a.add k).block, (a.add k).off + j, none⟩ := by
  unfold Addr.add
  rw [if_neg (by omega)]
  by_cases h : k = 0
  · subst h; simp
  · rw [if_neg h]; simp; omega

section
variable {H : Type} {P : Program} {e t : TypeId}
/-- A field's weights are among its struct's. -/
theorem weights_field {fs : Array Field} (hu : P.underlying e = some (.struct fs)) {parts : List (DataW H)} {j : Nat} {f : Field} {dj : DataW H} (hf : fs[j]? = some f) (hd : parts[j]? = some dj) (n : Nat) (hn : n ∈ dj.weights P f.type) : n ∈ (DataW.agg parts).weights P e := by
  simp only [DataW.weights, hu]
  refine DataW.weights_mem_each (j := j) ?_ hd n hn
  rw [List.getElem?_map, Array.getElem?_toList, hf]; rfl
/-- An element's weights are among its slice's. -/
theorem weights_slice (hu : P.underlying t = some (.slice e)) {elems spare : List (DataW H)} {i : Nat} {d : DataW H} (hd : elems[i]? = some d) (n : Nat) (hn : n ∈ d.weights P e) : n ∈ (DataW.slice elems spare).weights P t := by
  simp only [DataW.weights, hu]
  exact List.mem_cons_of_mem _ (List.mem_append_left _ (weights_elem hd n hn))
theorem weights_str (s : ByteArray) (t : TypeId) : s.size ∈ (DataW.lit (H := H) (.string s.data.toList)).weights P t := by
  simp [DataW.weights]
end

/-- What is known of a delta that came in. -/
def DlOk (d : Dl) : Prop := (Lit.int .i64 d.pos).wf = true ∧ d.out.size ≤ reachBytes ∧ d.inn.size ≤ reachBytes

theorem open_deltas {H : Type} {enc : TypeId × Value → H} {W : World} {v : Value} {d : DataW H} {p : List MemPlace} (h : DataW.Trod enc Tryd.prog W 0 (fun _ => true) true 22 v d p) (hc : v.cells.toList = [v])
    (hw : ∀ n ∈ d.weights Tryd.prog 22, n ≤ reachBytes) :
    ∃ (A : Option Addr) (ds : List Dl) (c : Nat), v = .slice A ds.length c ∧ DlsAt W A ds ∧ ds.length ≤ c ∧ c * 40 ≤ reachBytes ∧ ∀ x ∈ ds, DlOk x := by
  obtain ⟨fuel, hf⟩ := h
  rw [hc] at hf
  rcases open_slice_fields Tryd.underlying22 Tryd.underlying29 (by kernel_rfl) (by kernel_rfl) hf with ⟨hv, hx⟩ | ⟨a, len, cap, m, D, Pl, hv, -, hl, hm, hmm, hx, hi⟩
  · obtain rfl : v = .slice none 0 0 := by simpa using hv
    exact ⟨none, [], 0, rfl, .inl rfl, Nat.le_refl _, by simp, by simp⟩
  · obtain rfl : v = .slice (some a) len cap := by simpa using hv
    simp only [if_true] at hmm
    subst hmm
    obtain ⟨rfl, -⟩ : d = _ ∧ p = _ := by simpa using hx
    have hcap : m * 40 ≤ reachBytes := by
      have := hw ((((List.range len).map D).length + ((List.range (m - len)).map fun j => D (len + j)).length) * Tryd.prog.bytesOf 29) (by simp [DataW.weights, Tryd.underlying22])
      rw [show Tryd.prog.bytesOf 29 = 40 by kernel_rfl] at this
      simp only [List.length_map, List.length_range] at this
      rwa [show len + (m - len) = m by omega] at this
    obtain ⟨ds, hdl, hds⟩ := list_of (fun i (x : Dl) => DlAt W (a.add (i * 3)) x ∧ DlOk x) len (fun i hil => by
      obtain ⟨ys, n, hD, -, hyl, hfld⟩ := hi i (by omega)
      obtain ⟨v0, y0, hc0, hy0, ht0⟩ := hfld 0 _ rfl
      obtain ⟨v1, y1, hc1, hy1, ht1⟩ := hfld 1 _ rfl
      obtain ⟨v2, y2, hc2, hy2, ht2⟩ := hfld 2 _ rfl
      obtain ⟨x, e0, rfl, hwx⟩ := DataW.trod_int Tryd.underlying3 ht0
      obtain ⟨o, e1, rfl, -⟩ := DataW.trod_string Tryd.underlying9 ht1
      obtain ⟨q, e2, rfl, -⟩ := DataW.trod_string Tryd.underlying9 ht2
      obtain rfl : v0 = .int .i64 x := by simpa using e0
      obtain rfl : v1 = .string o := by simpa using e1
      obtain rfl : v2 = .string q := by simpa using e2
      have hw1 : o.size ≤ reachBytes := hw _ (weights_slice Tryd.underlying22 (i := i) (d := D i) (by simp [hil]) _ (by rw [hD]; exact weights_field Tryd.underlying29 (j := 1) rfl (by rw [List.getElem?_map, hy1]; rfl) _ (weights_str o _)))
      have hw2 : q.size ≤ reachBytes := hw _ (weights_slice Tryd.underlying22 (i := i) (d := D i) (by simp [hil]) _ (by rw [hD]; exact weights_field Tryd.underlying29 (j := 2) rfl (by rw [List.getElem?_map, hy2]; rfl) _ (weights_str q _)))
      refine ⟨⟨x, o, q⟩, ⟨hc0, ?_, ?_⟩, hwx, hw1, hw2⟩
      · rw [← add_off a (i * 3) 1 (by decide)]; exact hc1
      · rw [← add_off a (i * 3) 2 (by decide)]; exact hc2)
    subst hdl
    refine ⟨some a, ds, m, rfl, ?_, hl, hcap, fun x hx => ?_⟩
    · rcases Nat.eq_zero_or_pos ds.length with h0 | h0
      · exact .inl (List.eq_nil_of_length_eq_zero h0)
      · have hb := World.block_lt_of_cell? W _ (hds 0 h0).1.1
        rw [add_block] at hb
        exact .inr ⟨a, rfl, hb, fun i hi => (hds i hi).1⟩
    · obtain ⟨i, hi, rfl⟩ := List.getElem_of_mem hx
      exact (hds i hi).2
end Go.Proofs.YtdkdnkmfjpdcpaaDoor.Mk
