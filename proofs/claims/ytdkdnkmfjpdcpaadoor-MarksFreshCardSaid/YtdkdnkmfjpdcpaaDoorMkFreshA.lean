/-
  What the walk of MarksFresh asks: rows of deltas, parts of rows overwritten, append of zeros, bodkinlaw10.great. No condition.
-/
import Derived.Test.YtdkdnkmfjpdcpaaDoorMkPlay
import Derived.Lib.AppendZeros
namespace Go.Proofs.YtdkdnkmfjpdcpaaDoor.Mk
open Go.RowKit Go.Maps Go.Proofs.YtdkdnkmfjpdcpaaDoor.Reg
set_option linter.unusedVariables false
set_option linter.unusedSimpArgs false

def IsBool (e : Ending) : Prop := ∃ b, e = .returned (.bool b)

set_option maxRecDepth 100000 in
theorem great_any (A : Option Addr) (ms : ML) (c : Nat) (w : World) (hm : MksAt w A ms) (hl : ms.length ≤ 9223372036854775807) :
    Calls Tryd.prog 21 #[.slice A ms.length c] w fun e w' => IsBool e ∧ Below w.heap.size w w' := by
  have HM := Lib.hid hm
  clear hm
  go_enter Tryd.func21, Tryd.ntmps21
  go_wp2
  go_loopw [7] (fun i wr => ∃ k : Nat, k ≤ ms.length ∧ i = .int .i64 k ∧ Below w.heap.size w wr) (fun i _ => ms.length - (intOf i).toNat)
  case atStart => exact ⟨0, Nat.zero_le _, rfl, Below.refl _ _⟩
  case round =>
    obtain ⟨k, hk, rfl, hb⟩ := hrel
    by_cases hlt : k < ms.length
    · obtain h | ⟨ad, rfl, hA, hc⟩ := HM.out.below hb
      · subst h; simp at hlt
      obtain ⟨d0, d1⟩ := hc k hlt
      have HB := Lib.hid hb
      clear hb hc
      generalize ms[k] = y at *
      obtain ⟨y1, y2⟩ := y
      by_cases hy : 549755813888 < y2
      · go_wp2
        go_ret
        exact ⟨⟨_, rfl⟩, HB.out.alloc HB.out.size _⟩
      · go_wp2
        go_roundw
        case rel => exact ⟨k + 1, by omega, by go_num, HB.out.alloc HB.out.size _⟩
        case measure => simp [intOf]; omega
    · go_wp2
      go_ret
      exact ⟨⟨_, rfl⟩, hb⟩

theorem mks_news {w : World} {ad : Addr} {ms : ML} (h : ∀ i (h : i < ms.length), MkAt w (ad.add (i * 2)) ms[i]) : ∀ j u, (cellsM ms)[j]? = some u → w.cell? (ad.add j) = some u := by
  intro j u hj
  have hlen := cellsM_length ms
  have hj' : j < (cellsM ms).length := (List.getElem?_eq_some_iff.1 hj).1
  obtain ⟨e1, e2⟩ := cellsM_get ms (j / 2) (by omega)
  obtain ⟨k1, k2⟩ := h (j / 2) (by omega)
  rcases Nat.mod_two_eq_zero_or_one j with hm | hm
  · rw [show j / 2 * 2 = j by omega] at e1 k1
    rw [k1, ← e1]; exact hj
  · rw [← Go.Proofs.YtdkdnkmfjpdcpaaDoor.Mk.add_off ad (j / 2 * 2) 1 (by decide), show j / 2 * 2 + 1 = j by omega] at k2
    rw [show j / 2 * 2 + 1 = j by omega] at e2
    rw [k2, ← e2]; exact hj

/-! rows of deltas -/
def cellsD (l : List Dl) : List Value := l.flatMap fun x => [.int .i64 x.pos, .string x.out, .string x.inn]
theorem cellsD_length (l : List Dl) : (cellsD l).length = l.length * 3 := by
  induction l with
  | nil => rfl
  | cons x r ih => simp only [cellsD, List.flatMap_cons, List.length_append, List.length_cons, List.length_nil] at ih ⊢; omega
theorem cellsD_get (l : List Dl) (k : Nat) (h : k < l.length) : (cellsD l)[k * 3]? = some (.int .i64 l[k].pos) ∧ (cellsD l)[k * 3 + 1]? = some (.string l[k].out) ∧ (cellsD l)[k * 3 + 2]? = some (.string l[k].inn) := by
  induction l generalizing k with
  | nil => simp at h
  | cons x r ih =>
    have e : cellsD (x :: r) = .int .i64 x.pos :: .string x.out :: .string x.inn :: cellsD r := rfl
    rw [e]
    cases k with
    | zero => simp
    | succ k =>
      have := ih k (by simpa using h)
      rw [show (k + 1) * 3 = k * 3 + 1 + 1 + 1 by omega]
      simpa using this
theorem cellsD_one (l : List Dl) : ∀ u ∈ cellsD l, u.oneCell' = true := by
  intro u hu
  unfold cellsD at hu
  obtain ⟨x, hx, hu⟩ := List.mem_flatMap.1 hu
  simp at hu
  rcases hu with rfl | rfl | rfl <;> rfl
theorem cellsD_set (A B : List Dl) (x : Dl) (m : Int) : (cellsD (A ++ x :: B)).set (A.length * 3) (.int .i64 m) = cellsD (A ++ ⟨m, x.out, x.inn⟩ :: B) := by
  have hl := cellsD_length A
  unfold cellsD at hl ⊢
  simp only [List.flatMap_append, List.flatMap_cons]
  rw [List.set_append_right _ _ (by rw [hl]; omega), hl, show A.length * 3 - A.length * 3 = 0 by omega]
  rfl
theorem cellsM_setN (A B : ML) (x : Int × Int) (m : Int) : (cellsM (A ++ x :: B)).set (A.length * 2) (.int .u8 m) = cellsM (A ++ (m, x.2) :: B) := by
  have hl := cellsM_length A
  unfold cellsM at hl ⊢
  simp only [List.flatMap_append, List.flatMap_cons]
  rw [List.set_append_right _ _ (by rw [hl]; omega), hl, show A.length * 2 - A.length * 2 = 0 by omega]
  rfl
theorem dls_news {w : World} {ad : Addr} {ds : List Dl} (h : ∀ i (h : i < ds.length), DlAt w (ad.add (i * 3)) ds[i]) : ∀ j u, (cellsD ds)[j]? = some u → w.cell? (ad.add j) = some u := by
  intro j u hj
  have hlen := cellsD_length ds
  have hj' : j < (cellsD ds).length := (List.getElem?_eq_some_iff.1 hj).1
  obtain ⟨e1, e2, e3⟩ := cellsD_get ds (j / 3) (by omega)
  obtain ⟨k1, k2, k3⟩ := h (j / 3) (by omega)
  rcases (by omega : j % 3 = 0 ∨ j % 3 = 1 ∨ j % 3 = 2) with hm | hm | hm
  · rw [show j / 3 * 3 = j by omega] at e1 k1
    rw [k1, ← e1]; exact hj
  · rw [← Go.Proofs.YtdkdnkmfjpdcpaaDoor.Mk.add_off ad (j / 3 * 3) 1 (by decide), show j / 3 * 3 + 1 = j by omega] at k2
    rw [show j / 3 * 3 + 1 = j by omega] at e2
    rw [k2, ← e2]; exact hj
  · rw [← Go.Proofs.YtdkdnkmfjpdcpaaDoor.Mk.add_off ad (j / 3 * 3) 2 (by decide), show j / 3 * 3 + 2 = j by omega] at k3
    rw [show j / 3 * 3 + 2 = j by omega] at e3
    rw [k3, ← e3]; exact hj
theorem DlsAt.of_row {w : World} {base : Nat} {A : Option Addr} {c : Nat} {l : List Dl} (h : w.ownsRow base 29 3 (.slice A l.length c) l.length (cellsD l)) : DlsAt w A l := by
  rcases Nat.eq_zero_or_pos l.length with h0 | h0
  · exact .inl (List.eq_nil_of_length_eq_zero h0)
  · obtain ⟨g, cap, he, hg, hlt⟩ := h.form h0
    obtain ⟨rfl, rfl⟩ : A = some ⟨g, 0, none⟩ ∧ c = cap := by simpa using he
    refine .inr ⟨_, rfl, hlt, fun i hi => ?_⟩
    obtain ⟨e1, e2, e3⟩ := cellsD_get l i hi
    have ea : (⟨g, 0, none⟩ : Addr).add (i * 3) = ⟨g, i * 3, none⟩ := by unfold Addr.add; split <;> simp_all
    rw [ea]
    exact ⟨(h.cellAt (i * 3) (by omega)).trans e1, (h.cellAt (i * 3 + 1) (by omega)).trans e2, (h.cellAt (i * 3 + 2) (by omega)).trans e3⟩
theorem infoDelta : (Tryd.prog.info? 29).map (fun i => (i.zero, i.size, i.bytes)) = some (some (.agg #[.int .i64 0, .string ⟨#[]⟩, .string ⟨#[]⟩]), 3, 40) := by kernel_rfl

/-- An empty row in a new block. -/
theorem row_empty (w : World) (e size : Nat) : (w.alloc (.cells #[] e)).ownsRow w.heap.size e size (.slice (some ⟨w.heap.size, 0, none⟩) 0 0) 0 [] :=
  ⟨by simp, .inr ⟨w.heap.size, 0, #[], rfl, Nat.le_refl _, World.alloc_heap_new _ _, Nat.le_refl _, by unfold maxLen; omega, by simp, by simp⟩⟩

/-- The marks that were handed in, behind a row of mine (empty, new): one step of a walk, whatever the slice is. -/
theorem wpList_app_marks {ops : Array Oper} {rest : List Oper} {o : Oper} {a : Act} {Q : Exit → Act → World → Prop} {w : World} (hgd : o.guard = none) (s x : Operand)
    (ho : o.op = .call { callee := .builtin .append, args := #[s, x], argTypes := #[31, 31] })
    (base : Nat) (u : Value) (A : Option Addr) (ms : ML) (c : Nat) (hs : a.eval s = u) (hown : w.ownsRow base 33 2 u 0 [])
    (hx : a.eval x = .slice A ms.length c) (hA : A = none → c = 0) (hm : MksAt w A ms) (hlen : ms.length * 16 ≤ 140737488355328) (hbase : base ≤ w.heap.size)
    (h : ∀ v' w', w'.ownsRow base 33 2 v' ms.length (cellsM ms) → w.grownBy w' u.ownBlock → wpList Tryd.prog ops Q rest (a.put o.dst v') w') :
    wpList Tryd.prog ops Q (o :: rest) a w := by
  obtain ⟨i0, hi, hz0, hz1, hz2⟩ := info_parts infoMark
  cases A with
  | none =>
    obtain rfl : ms = [] := by
      rcases hm with h | ⟨ad, h, _⟩
      · exact h
      · cases h
    obtain rfl := hA rfl
    exact wpList_append_own_none hgd s x 31 ho base 33 i0 2 Tryd.underlying31 hi u 0 [] hs hown hx (h u w hown ⟨rfl, rfl, rfl, Nat.le_refl _, fun _ _ _ => rfl⟩)
  | some ad =>
    have hn : ∀ j v, (cellsM ms)[j]? = some v → w.cell? (ad.add j) = some v := by
      rcases hm with h | ⟨ad', h, _, hx⟩
      · subst h; intro j v hj; simp [cellsM] at hj
      · cases h; exact mks_news hx
    refine wpList_append_own _ hgd s x 31 ho base 33 i0 (.agg #[.int .u8 0, .int .i64 0]) 2 16 Tryd.underlying31 hi hz0 hz1 hz2 rfl (by decide) u 0 [] hs hown ad ms.length c (cellsM ms) hx (cellsM_length ms) hn (cellsM_one ms) (by unfold maxLen; omega) (by omega) hbase ?_
    intro v' w' h1 h2 _
    exact h v' w' (by simpa using h1) h2
theorem wpList_app_deltas {ops : Array Oper} {rest : List Oper} {o : Oper} {a : Act} {Q : Exit → Act → World → Prop} {w : World} (hgd : o.guard = none) (s x : Operand)
    (ho : o.op = .call { callee := .builtin .append, args := #[s, x], argTypes := #[22, 22] })
    (base : Nat) (u : Value) (A : Option Addr) (ms : List Dl) (c : Nat) (hs : a.eval s = u) (hown : w.ownsRow base 29 3 u 0 [])
    (hx : a.eval x = .slice A ms.length c) (hA : A = none → c = 0) (hm : DlsAt w A ms) (hlen : ms.length * 40 ≤ 140737488355328) (hbase : base ≤ w.heap.size)
    (h : ∀ v' w', w'.ownsRow base 29 3 v' ms.length (cellsD ms) → w.grownBy w' u.ownBlock → wpList Tryd.prog ops Q rest (a.put o.dst v') w') :
    wpList Tryd.prog ops Q (o :: rest) a w := by
  obtain ⟨i0, hi, hz0, hz1, hz2⟩ := info_parts infoDelta
  cases A with
  | none =>
    obtain rfl : ms = [] := by
      rcases hm with h | ⟨ad, h, _⟩
      · exact h
      · cases h
    obtain rfl := hA rfl
    exact wpList_append_own_none hgd s x 22 ho base 29 i0 3 Tryd.underlying22 hi u 0 [] hs hown hx (h u w hown ⟨rfl, rfl, rfl, Nat.le_refl _, fun _ _ _ => rfl⟩)
  | some ad =>
    have hn : ∀ j v, (cellsD ms)[j]? = some v → w.cell? (ad.add j) = some v := by
      rcases hm with h | ⟨ad', h, _, hx⟩
      · subst h; intro j v hj; simp [cellsD] at hj
      · cases h; exact dls_news hx
    refine wpList_append_own _ hgd s x 22 ho base 29 i0 (.agg #[.int .i64 0, .string ⟨#[]⟩, .string ⟨#[]⟩]) 3 40 Tryd.underlying22 hi hz0 hz1 hz2 rfl (by decide) u 0 [] hs hown ad ms.length c (cellsD ms) hx (cellsD_length ms) hn (cellsD_one ms) (by unfold maxLen; omega) (by omega) hbase ?_
    intro v' w' h1 h2 _
    exact h v' w' (by simpa using h1) h2

/-- Zeros behind a row of marks: what lies elsewhere stays. -/
theorem run_app_zeros (w : World) (base : Nat) (v : Value) (n : Nat) (xs : List Value) (hown : w.ownsRow base 33 2 v n xs) (hn : n ≤ 59) (ty : TypeId) :
    ∃ v' w', (Builtin.append_ #[31, 3] ty #[v, .int .i64 30]).run Tryd.prog w = .ok v' w' ∧ Chg (fun k => v.ownBlock = some k) w w' := by
  obtain ⟨i0, hi, hz0, hz1, hz2⟩ := info_parts infoMark
  rcases hown.2 with ⟨rfl, rfl⟩ | ⟨g, cap, cur, rfl, _, hg, hnc, hcm, hcs, htake⟩
  · have h := Lib.run_append_nil_zeros (P := Tryd.prog) w 31 3 ty 33 i0 (.agg #[.int .u8 0, .int .i64 0]) .i64 .i64 Tryd.underlying31 Tryd.underlying3 hi hz0 30 (by decide) (by omega) (by decide) (by omega)
    refine ⟨_, _, h, ?_⟩
    exact Chg.of_below ((Below.refl _ _).alloc (Nat.le_refl _) _ |> fun h => ⟨h.os, h.tape, h.output, h.size, h.block⟩)
  · have hw30 : IntKind.i64.wrap (30 : Int) = 30 := by decide
    have hcl : (Value.agg #[.int .u8 0, .int .i64 0]).cells = #[.int .u8 0, .int .i64 0] := rfl
    have hmx : max (30 : Int) 0 = 30 := by decide
    have hz : (Builtin.zeroCells #[.int .u8 0, .int .i64 0] 30).size = 60 := by simp [Builtin.zeroCells]
    by_cases hroom : n + 30 ≤ cap
    · have hst := run_storeCells_at Tryd.prog g (n * 2) 33 (Builtin.zeroCells #[.int .u8 0, .int .i64 0] 30).toList 0 cur w hg (by rw [Array.length_toList, hz]; omega) (by
        intro u hu
        simp only [Builtin.zeroCells, Array.toList_map, List.mem_map] at hu
        obtain ⟨i, -, rfl⟩ := hu
        rcases Nat.mod_two_eq_zero_or_one i with h | h <;> simp [h] <;> rfl)
      refine ⟨.slice (some ⟨g, 0, none⟩) (n + 30) cap, w.setRow g (cur.toList.take (n * 2 + 0) ++ (Builtin.zeroCells #[.int .u8 0, .int .i64 0] 30).toList ++ cur.toList.drop (n * 2 + 0 + (Builtin.zeroCells #[.int .u8 0, .int .i64 0] 30).toList.length)).toArray, ?_, ?_⟩
      · have hbig : ¬ (281474976710656 < (30 : Int) * 16) := by omega
        simp [Builtin.append_, run_underlying Tryd.underlying31, run_underlying Tryd.underlying3, sizeOf, typeInfo, zeroValue, hi, hz0, hz1, hz2, asInt, asIntOf, hw30, hroom, Addr.add_lit, hcl]
        rw [hst]
        simp
      · exact ⟨rfl, rfl, rfl, by simp, fun k _ hk => setRow_other w g k _ (fun e => hk (by simp [Value.ownBlock, e]))⟩
    · have hn63 : ¬ (9223372036854775807 < ((n : Int) + 30)) := by omega
      have h48' : ¬ (281474976710656 < Builtin.nextslicecap (n + 30) cap * 16) := by
        have := growslice_fits (need := n + 30) (old := cap) (bytes := 16) (by omega) (by omega)
        omega
      have holds : ∀ j u, xs[j]? = some u → w.cell? ((⟨g, 0, none⟩ : Addr).add j) = some u := hown.cells (g := g) rfl
      have hfo := run_firstCells_some (P := Tryd.prog) w.drew 2 n ⟨g, 0, none⟩ n cap xs hown.1 (by simpa using holds)
      refine ⟨.slice (some ⟨w.heap.size, 0, none⟩) (n + 30) (grownCap w (n + 30) cap 33), w.drew.alloc (.cells (xs.toArray ++ Builtin.zeroCells #[.int .u8 0, .int .i64 0] 30 ++ Builtin.zeroCells #[.int .u8 0, .int .i64 0] (grownCap w (n + 30) cap 33 - (n + 30))) 33), ?_, ?_⟩
      · simp [Builtin.append_, run_underlying Tryd.underlying31, run_underlying Tryd.underlying3, sizeOf, typeInfo, zeroValue, hi, hz0, hz1, hz2, asInt, asIntOf, hw30, hroom, hmx, hn63, h48', Question.forced, hfo, newRow, grownCap, hcl]
      · exact ⟨rfl, rfl, rfl, by simp, fun k hk _ => heap_alloc_old w.drew _ hk⟩
end Go.Proofs.YtdkdnkmfjpdcpaaDoor.Mk
