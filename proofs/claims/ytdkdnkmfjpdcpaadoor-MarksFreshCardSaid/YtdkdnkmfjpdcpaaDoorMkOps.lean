/-
  A slice of a set's calls (bodkinlaw10.Op) among a law's arguments. No condition.
-/
import Derived.Test.YtdkdnkmfjpdcpaaDoorMkOpenM
import Derived.Test.YtdkdnkmfjpdcpaaDoorMkSt
namespace Go.Proofs.YtdkdnkmfjpdcpaaDoor.Mk
open Go.RowKit Go.ChangeShapes Go.WideShapes Go.ChangeAt Go.Deep Go.Proofs.YtdkdnkmfjpdcpaaDoor.Row
set_option linter.unusedVariables false
set_option linter.unusedSimpArgs false

/-- One call of a set. -/
structure OpV where
  kind : Int
  nm : Int
  pos : Int
  MA : Option Addr
  ms : ML
  mc : Nat
  DA : Option Addr
  ds : List Dl
  dc : Nat
/-- The cells of a call, from p on. -/
def OpAt (w : World) (p : Addr) (o : OpV) : Prop :=
  w.cell? p = some (.int .u8 o.kind) ∧ w.cell? ⟨p.block, p.off + 1, none⟩ = some (.int .u8 o.nm) ∧ w.cell? ⟨p.block, p.off + 2, none⟩ = some (.int .i64 o.pos) ∧
  w.cell? ⟨p.block, p.off + 3, none⟩ = some (.slice o.MA o.ms.length o.mc) ∧ w.cell? ⟨p.block, p.off + 4, none⟩ = some (.slice o.DA o.ds.length o.dc)
/-- What is known of a call that came in. -/
structure OpFit (o : OpV) : Prop where
  kind : (Lit.int .u8 o.kind).wf = true
  nm : (Lit.int .u8 o.nm).wf = true
  pos : (Lit.int .i64 o.pos).wf = true
  ms : Fits o.ms
  ml : o.ms.length * 16 ≤ 140737488351232
  ds : ∀ d ∈ o.ds, DlOk d
  dl : o.ds.length ≤ 140737488351232
def OpIs (w : World) (o : OpV) : Prop := MksAt w o.MA o.ms ∧ DlsAt w o.DA o.ds ∧ OpFit o
/-- A slice of calls that is read. -/
def OpsAt (w : World) (A : Option Addr) (ops : List OpV) : Prop := ops = [] ∨ ∃ ad, A = some ad ∧ ad.block < w.heap.size ∧ ∀ i (h : i < ops.length), OpAt w (ad.add (i * 5)) ops[i] ∧ OpIs w ops[i]

theorem OpAt.below {w w' : World} {p : Addr} {o : OpV} (h : OpAt w p o) (hp : p.block < w.heap.size) (hb : Below w.heap.size w w') : OpAt w' p o :=
  ⟨(hb.cell hp).trans h.1, (hb.cell (p := ⟨p.block, _, none⟩) hp).trans h.2.1, (hb.cell (p := ⟨p.block, _, none⟩) hp).trans h.2.2.1, (hb.cell (p := ⟨p.block, _, none⟩) hp).trans h.2.2.2.1, (hb.cell (p := ⟨p.block, _, none⟩) hp).trans h.2.2.2.2⟩

theorem slice_cells {t e : TypeId} {H : Type} {enc : TypeId × Value → H} {W : World} {v : Value} {y : DataW H × List MemPlace} {n : Nat} (ht : Tryd.prog.underlying t = some (.slice e)) (h : DataW.trod enc Tryd.prog W 0 (fun _ => true) true n t [v] = some y) : v.cells.toList = [v] := by
  rcases open_slice ht h with ⟨h0, -⟩ | ⟨a, len, cap, m, n, D, Pl, hcs, -⟩
  · obtain rfl : v = .slice none 0 0 := by simpa using h0
    rfl
  · obtain rfl : v = .slice (some a) len cap := by simpa using hcs
    rfl

set_option maxRecDepth 100000 in
theorem open_ops {H : Type} {enc : TypeId × Value → H} {W : World} {v : Value} {d : DataW H} {p : List MemPlace} (h : DataW.Trod enc Tryd.prog W 0 (fun _ => true) true 52 v d p) (hc : v.cells.toList = [v])
    (hw : ∀ n ∈ d.weights Tryd.prog 52, n ≤ reachBytes) :
    ∃ (A : Option Addr) (ops : List OpV) (c : Nat), v = .slice A ops.length c ∧ OpsAt W A ops ∧ ops.length ≤ 140737488351232 := by
  obtain ⟨fuel, hf⟩ := h
  rw [hc] at hf
  rcases open_slice_fields Tryd.underlying52 Tryd.underlying55 (by kernel_rfl) (by kernel_rfl) hf with ⟨hv, hx⟩ | ⟨a, len, cap, m, D, Pl, hv, -, hl, hm, hmm, hx, hi⟩
  · obtain rfl : v = .slice none 0 0 := by simpa using hv
    exact ⟨none, [], 0, rfl, .inl rfl, by simp⟩
  · obtain rfl : v = .slice (some a) len cap := by simpa using hv
    simp only [if_true] at hmm
    subst hmm
    obtain ⟨rfl, -⟩ : d = _ ∧ p = _ := by simpa using hx
    have hcap : m * 64 ≤ reachBytes := by
      have := hw ((((List.range len).map D).length + ((List.range (m - len)).map fun j => D (len + j)).length) * Tryd.prog.bytesOf 55) (by simp [DataW.weights, Tryd.underlying52])
      rw [show Tryd.prog.bytesOf 55 = 64 by kernel_rfl] at this
      simp only [List.length_map, List.length_range] at this
      rwa [show len + (m - len) = m by omega] at this
    obtain ⟨ops, hdl, hds⟩ := list_of (fun i (o : OpV) => OpAt W (a.add (i * 5)) o ∧ OpIs W o) len (fun i hil => by
      obtain ⟨ys, n, hD, -, hyl, hfld⟩ := hi i (by omega)
      obtain ⟨v0, y0, hc0, hy0, ht0⟩ := hfld 0 _ rfl
      obtain ⟨v1, y1, hc1, hy1, ht1⟩ := hfld 1 _ rfl
      obtain ⟨v2, y2, hc2, hy2, ht2⟩ := hfld 2 _ rfl
      obtain ⟨v3, y3, hc3, hy3, ht3⟩ := hfld 3 _ rfl
      obtain ⟨v4, y4, hc4, hy4, ht4⟩ := hfld 4 _ rfl
      obtain ⟨x0, e0, rfl, hw0⟩ := DataW.trod_int Tryd.underlying5 ht0
      obtain ⟨x1, e1, rfl, hw1⟩ := DataW.trod_int Tryd.underlying5 ht1
      obtain ⟨x2, e2, rfl, hw2⟩ := DataW.trod_int Tryd.underlying3 ht2
      obtain rfl : v0 = .int .u8 x0 := by simpa using e0
      obtain rfl : v1 = .int .u8 x1 := by simpa using e1
      obtain rfl : v2 = .int .i64 x2 := by simpa using e2
      have hsl3 := slice_cells Tryd.underlying31 ht3
      have hsl4 := slice_cells Tryd.underlying22 ht4
      obtain ⟨MA, ms, mc, rfl, hm1, hm2, hm3, hm4⟩ := open_marks (d := y3.1) (p := y3.2) ⟨n, by rw [hsl3]; exact ht3⟩ hsl3 (fun k hk => hw _ (weights_slice Tryd.underlying52 (i := i) (d := D i) (by simp [hil]) _ (by rw [hD]; exact weights_field Tryd.underlying55 (j := 3) rfl (by rw [List.getElem?_map, hy3]; rfl) _ hk)))
      obtain ⟨DA, ds, dc, rfl, hd1, hd2, hd3, hd4⟩ := open_deltas (d := y4.1) (p := y4.2) ⟨n, by rw [hsl4]; exact ht4⟩ hsl4 (fun k hk => hw _ (weights_slice Tryd.underlying52 (i := i) (d := D i) (by simp [hil]) _ (by rw [hD]; exact weights_field Tryd.underlying55 (j := 4) rfl (by rw [List.getElem?_map, hy4]; rfl) _ hk)))
      unfold reachBytes at hm3 hd3
      refine ⟨⟨x0, x1, x2, MA, ms, mc, DA, ds, dc⟩, ⟨hc0, ?_, ?_, ?_, ?_⟩, hm1, hd1, hw0, hw1, hw2, hm4, by simp only; omega, hd4, by simp only; omega⟩
      · rw [← add_off a (i * 5) 1 (by decide)]; exact hc1
      · rw [← add_off a (i * 5) 2 (by decide)]; exact hc2
      · rw [← add_off a (i * 5) 3 (by decide)]; exact hc3
      · rw [← add_off a (i * 5) 4 (by decide)]; exact hc4)
    subst hdl
    unfold reachBytes at hcap
    refine ⟨some a, ops, m, rfl, ?_, by omega⟩
    rcases Nat.eq_zero_or_pos ops.length with h0 | h0
    · exact .inl (List.eq_nil_of_length_eq_zero h0)
    · have hb := World.block_lt_of_cell? W _ (hds 0 h0).1.1
      rw [add_block] at hb
      exact .inr ⟨a, rfl, hb, fun i hi => hds i hi⟩
end Go.Proofs.YtdkdnkmfjpdcpaaDoor.Mk
