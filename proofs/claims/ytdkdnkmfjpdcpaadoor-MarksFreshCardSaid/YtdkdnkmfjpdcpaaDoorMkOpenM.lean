/-
  A slice of marks that came in as an argument; the steps from a row's arguments to the walks. No condition.
-/
import Derived.Test.YtdkdnkmfjpdcpaaDoorMkLast
import Derived.Test.YtdkdnkmfjpdcpaaDoorMkOpen
namespace Go.Proofs.YtdkdnkmfjpdcpaaDoor.Mk
open Go.RowKit Go.Proofs.YtdkdnkmfjpdcpaaDoor.Row Go.ChangeShapes Go.WideShapes Go.ChangeMaps
set_option linter.unusedVariables false

theorem open_marks {H : Type} {enc : TypeId × Value → H} {W : World} {v : Value} {d : DataW H} {p : List MemPlace} (h : DataW.Trod enc Tryd.prog W 0 (fun _ => true) true 31 v d p) (hc : v.cells.toList = [v])
    (hw : ∀ n ∈ d.weights Tryd.prog 31, n ≤ reachBytes) :
    ∃ (A : Option Addr) (ms : ML) (c : Nat), v = .slice A ms.length c ∧ MksAt W A ms ∧ ms.length ≤ c ∧ c * 16 ≤ reachBytes ∧ Fits ms := by
  obtain ⟨fuel, hf⟩ := h
  rw [hc] at hf
  rcases open_slice_fields Tryd.underlying31 Tryd.underlying33 (by kernel_rfl) (by kernel_rfl) hf with ⟨hv, hx⟩ | ⟨a, len, cap, m, D, Pl, hv, -, hl, hm, hmm, hx, hi⟩
  · obtain rfl : v = .slice none 0 0 := by simpa using hv
    exact ⟨none, [], 0, rfl, .inl rfl, Nat.le_refl _, by simp, by intro x hx; cases hx⟩
  · obtain rfl : v = .slice (some a) len cap := by simpa using hv
    simp only [if_true] at hmm
    subst hmm
    obtain ⟨rfl, -⟩ : d = _ ∧ p = _ := by simpa using hx
    have hcap : m * 16 ≤ reachBytes := by
      have := hw ((((List.range len).map D).length + ((List.range (m - len)).map fun j => D (len + j)).length) * Tryd.prog.bytesOf 33) (by simp [DataW.weights, Tryd.underlying31])
      rw [show Tryd.prog.bytesOf 33 = 16 by kernel_rfl] at this
      simp only [List.length_map, List.length_range] at this
      rwa [show len + (m - len) = m by omega] at this
    obtain ⟨ms, hdl, hds⟩ := list_of (fun i (x : Int × Int) => MkAt W (a.add (i * 2)) x ∧ (Lit.int .u8 x.1).wf = true ∧ (Lit.int .i64 x.2).wf = true) len (fun i hil => by
      obtain ⟨ys, n, hD, -, hyl, hfld⟩ := hi i (by omega)
      obtain ⟨v0, y0, hc0, hy0, ht0⟩ := hfld 0 _ rfl
      obtain ⟨v1, y1, hc1, hy1, ht1⟩ := hfld 1 _ rfl
      obtain ⟨x, e0, rfl, hwx⟩ := DataW.trod_int Tryd.underlying5 ht0
      obtain ⟨y, e1, rfl, hwy⟩ := DataW.trod_int Tryd.underlying3 ht1
      obtain rfl : v0 = .int .u8 x := by simpa using e0
      obtain rfl : v1 = .int .i64 y := by simpa using e1
      refine ⟨(x, y), ⟨hc0, ?_⟩, hwx, hwy⟩
      rw [← add_off a (i * 2) 1 (by decide)]; exact hc1)
    subst hdl
    refine ⟨some a, ms, m, rfl, ?_, hl, hcap, fun x hx => ?_⟩
    · rcases Nat.eq_zero_or_pos ms.length with h0 | h0
      · exact .inl (List.eq_nil_of_length_eq_zero h0)
      · have hb := World.block_lt_of_cell? W _ (hds 0 h0).1.1
        rw [add_block] at hb
        exact .inr ⟨a, rfl, hb, fun i hi => (hds i hi).1⟩
    · obtain ⟨i, hi, rfl⟩ := List.getElem_of_mem hx
      exact (hds i hi).2

set_option maxRecDepth 100000 in
theorem calls_MarksLast {H : Type} {enc : TypeId × Value → H} {W : World} {base : Nat} {laid : List (String × DataW Unit)} {v0 v1 v2 : Value} {d0 d1 d2 : DataW H} {p0 p1 p2 : List MemPlace} (hL : laidMetH Tryd.prog laid W)
    (o0 : Value.okWide Tryd.prog W .any base 31 v0) (h0 : DataW.Trod enc Tryd.prog W 0 (fun _ => true) true 31 v0 d0 p0) (w0 : ∀ n ∈ d0.weights Tryd.prog 31, n ≤ reachBytes)
    (o1 : Value.okWide Tryd.prog W .any base 5 v1) (h1 : DataW.Trod enc Tryd.prog W 0 (fun _ => true) true 5 v1 d1 p1) (w1 : ∀ n ∈ d1.weights Tryd.prog 5, n ≤ reachBytes)
    (o2 : Value.okWide Tryd.prog W .any base 48 v2) (h2 : DataW.Trod enc Tryd.prog W 0 (fun _ => true) true 48 v2 d2 p2) (w2 : ∀ n ∈ d2.weights Tryd.prog 48, n ≤ reachBytes) :
    Calls Tryd.prog 7 #[v0, v1, v2] W fun e W' => e = .returned (.bool true) ∧ Below W.heap.size W W' := by
  obtain ⟨A, ms, c, rfl, hm, hl, hc, hf⟩ := open_marks h0 (by obtain ⟨a, l, c, rfl⟩ := okWide_slice Tryd.underlying31 o0; rfl) w0
  obtain ⟨x1, rfl, rfl, rfl, hx1⟩ := open_int Tryd.underlying5 o1 h1
  obtain ⟨x2, rfl, rfl, rfl, hx2⟩ := open_int Tryd.underlying48 o2 h2
  obtain ⟨n1, rfl, hn1⟩ := u8_nat hx1
  obtain ⟨n2, rfl, hn2⟩ := u32_nat hx2
  exact last_walk A ms c n1 n2 W hn1 hn2 hm hf (by unfold reachBytes at hc; omega)
end Go.Proofs.YtdkdnkmfjpdcpaaDoor.Mk
