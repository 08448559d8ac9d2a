/-
  What the proof of the laws S rests on: the texts RfK RgB RgM. Conditions: each theorem names its own.
-/
import Derived.Test.YtfchglcclgcgfaaGreatDoorMgSy
import Derived.Test.YtfchglcclgcgfaaGreatDoorMgSr
import Derived.Test.YtfchglcclgcgfaaGreatDoorMgSg
/-
 The row of a text's clusters (bodkinref03.List), as loops read it. No condition.
-/
namespace Go.Proofs.YtfchglcclgcgfaaGreatDoor.Ut
open Go.RowKit Go.Proofs.YtfchglcclgcgfaaGreatDoor.Reg
set_option linter.unusedVariables false
set_option linter.unusedSimpArgs false

theorem cellsC_at : ∀ (l : List (Int × Int × Int × Int)) (k : Nat) (h : k < l.length), (cellsC l)[k * 4 + 1]? = some (.int .i64 l[k].2.1) ∧ (cellsC l)[k * 4 + 3]? = some (.int .i64 l[k].2.2.2)
 | x :: r, 0, _ => ⟨rfl, rfl⟩
 | x :: r, k + 1, h => by
  have := cellsC_at r k (by simpa using h)
  have e : cellsC (x :: r) = .int .i64 x.1 :: .int .i64 x.2.1 :: .int .i64 x.2.2.1 :: .int .i64 x.2.2.2 :: cellsC r := rfl
  rw [e, show (k + 1) * 4 + 1 = k * 4 + 1 + 1 + 1 + 1 + 1 by omega, show (k + 1) * 4 + 3 = k * 4 + 3 + 1 + 1 + 1 + 1 by omega]
  simpa using this
/-- The row of clusters, as loops read it: where each ends, and its cells. -/
def ClustersAt (W : World) (s : ByteArray) (A : Option Addr) (U : List Nat) : Prop := ∀ k (h : k < U.length), ∃ g, A = some ⟨g, 0, none⟩ ∧ g < W.heap.size ∧ W.cell? ⟨g, k * 4 + 1, none⟩ = some (.int .i64 (clN s U[k])) ∧ W.cell? ⟨g, k * 4 + 3, none⟩ = some (.int .i64 (clW s U[k]))
theorem ClustersAt.below {W W' : World} {s : ByteArray} {A : Option Addr} {U : List Nat} (h : ClustersAt W s A U) (hb : Below W.heap.size W W') : ClustersAt W' s A U := fun k hk => by
 obtain ⟨g, h1, h2, h3, h4⟩ := h k hk
 exact ⟨g, h1, Nat.lt_of_lt_of_le h2 hb.size, (hb.cell (p := ⟨g, k * 4 + 1, none⟩) h2).trans h3, (hb.cell (p := ⟨g, k * 4 + 3, none⟩) h2).trans h4⟩
theorem clusters_at {W : World} {base n c : Nat} {s : ByteArray} {A : Option Addr} {U : List Nat} (h : W.ownsRow base 99 4 (.slice A n c) n (cellsC (quads s U))) (hn : n = U.length) : ClustersAt W s A U := by
 subst hn
 intro k hk
 obtain ⟨g, c', he, -, -⟩ := h.form (by omega)
 obtain ⟨rfl, rfl⟩ : A = some ⟨g, 0, none⟩ ∧ c = c' := by simpa using he
 have hq := cellsC_at (quads s U) k (by simpa [quads] using hk)
 have e0 := (h.cellAt (k * 4 + 1) (by omega)).trans hq.1
 have e1 := (h.cellAt (k * 4 + 3) (by omega)).trans hq.2
 simp only [quads, List.getElem_map] at e0 e1
 exact ⟨g, rfl, World.block_lt_of_cell? W _ e0, e0, e1⟩
theorem clAts_len (s : ByteArray) : (clAts s 0).length ≤ s.size := by
 have := Lst_len s s.size
 rw [Lst_quads] at this
 simpa [quads] using this
/-- The same, and what kind of block the row is. -/
theorem RefList_qt (s : ByteArray) (w : World) (hs : s.size ≤ 1073741824) :
  Calls Tryz.prog 118 #[.string s] w fun e w' => ∃ A c, e = .returned (.slice A (clAts s 0).length c) ∧ ClustersAt w' s A (clAts s 0) ∧ (∀ g, A = some ⟨g, 0, none⟩ → ∃ cur, w'.heap[g]? = some (.cells cur 99 (0, 0))) ∧ Below w.heap.size w w' := by
 refine (RefList_any s w hs).mono ?_
 rintro e w' ⟨v, rfl, hown, hb⟩
 obtain ⟨A, c, rfl⟩ := row_forma hown
 rw [Lst_quads] at hown
 have e : (quads s (clAts s 0)).length = (clAts s 0).length := by simp [quads]
 rw [Lst_quads, e]
 rw [e] at hown
 refine ⟨A, c, rfl, clusters_at hown rfl, fun g hA => ?_, hb⟩
 rcases hown.2 with ⟨h1, -⟩ | ⟨g', cap, cur, h1, -, h2, -⟩
 ·rw [hA] at h1; simp at h1
 ·rw [hA] at h1
  obtain ⟨h3, -⟩ : (some (⟨g, 0, none⟩ : Addr)) = some ⟨g', 0, none⟩ ∧ c = cap := by simpa using h1
  obtain rfl : g = g' := by simpa using h3
  exact ⟨cur, h2⟩

end Go.Proofs.YtfchglcclgcgfaaGreatDoor.Ut
/-
 bodkinref03: Bounds, Boundary, Next, Prev, Snap. No condition.
-/
namespace Go.Proofs.YtfchglcclgcgfaaGreatDoor.Ut
open Go.RowKit Go.Proofs.YtfchglcclgcgfaaGreatDoor.Reg
set_option linter.unusedVariables false
set_option linter.unusedSimpArgs false

/-- A row of numbers, as loops read it. -/
def NumsAt (W : World) (A : Option Addr) (U : List Nat) : Prop := ∀ k (h : k < U.length), ∃ g, A = some ⟨g, 0, none⟩ ∧ g < W.heap.size ∧ W.cell? ⟨g, k, none⟩ = some (.int .i64 U[k])
theorem NumsAt.below {W W' : World} {A : Option Addr} {U : List Nat} (h : NumsAt W A U) (hb : Below W.heap.size W W') : NumsAt W' A U := fun k hk => by
 obtain ⟨g, h1, h2, h3⟩ := h k hk
 exact ⟨g, h1, Nat.lt_of_lt_of_le h2 hb.size, (hb.cell (p := ⟨g, k, none⟩) h2).trans h3⟩
def cellsN (l : List Nat) : List Value := l.map fun (k : Nat) => .int .i64 k
theorem nums_at {W : World} {base n c : Nat} {A : Option Addr} {U : List Nat} (h : W.ownsRow base 3 1 (.slice A n c) n (cellsN U)) (hn : n = U.length) : NumsAt W A U := by
 subst hn
 intro k hk
 obtain ⟨g, c', he, -, -⟩ := h.form (by omega)
 obtain ⟨rfl, rfl⟩ : A = some ⟨g, 0, none⟩ ∧ c = c' := by simpa using he
 have e0 := h.cellAt k (by omega)
 have e1 : (cellsN U)[k]? = some (.int .i64 U[k]) := by unfold cellsN; simp [hk]
 rw [e1] at e0
 exact ⟨g, rfl, World.block_lt_of_cell? W _ e0, e0⟩
theorem own_one (w : World) (t : TypeId) (u : Value) : (w.alloc (.cells #[u] t)).ownsRow w.heap.size t 1 (.slice (some ⟨w.heap.size, 0, none⟩) 1 1) 1 [u] :=
 ⟨rfl, .inr ⟨w.heap.size, 1, #[u], rfl, Nat.le_refl _, World.alloc_heap_new _ _, Nat.le_refl _, by decide, rfl, rfl⟩⟩
/-- A row of other cells stays where one more number is appended. -/
theorem typed_kept {W W' : World} {q : Value} {base n : Nat} {xs : List Value} {tmp : Obj} (ho : W.ownsRow base 3 1 q n xs) (hg : (W.alloc tmp).grownBy W' q.ownBlock) {T : TypeId} (hT : T ≠ 3) {g : Nat} {cur : Array Value} (h : W.heap[g]? = some (.cells cur T (0, 0))) : W'.heap[g]? = some (.cells cur T (0, 0)) := by
 have hl : g < W.heap.size := (Array.getElem?_eq_some_iff.1 h).1
 have h1 : (W.alloc tmp).heap[g]? = W.heap[g]? := ((Below.refl W.heap.size W).alloc (Nat.le_refl _) tmp).block g hl
 have hne : some g ≠ q.ownBlock := by
  intro e
  rcases ho.2 with ⟨rfl, -⟩ | ⟨g', cap, cur', rfl, -, h2, -⟩
  ·simp [Value.ownBlock] at e
  ·obtain rfl : g = g' := by simpa [Value.ownBlock] using e
   rw [h] at h2
   simp at h2
   exact hT h2.2
 exact ((hg.block g (Nat.lt_of_lt_of_le hl ((Below.refl W.heap.size W).alloc (Nat.le_refl _) tmp).size) hne).trans h1).trans h
theorem clusters_kept {W W' : World} {s : ByteArray} {A : Option Addr} {U : List Nat} (h : ClustersAt W s A U) (hA : ∀ g, A = some ⟨g, 0, none⟩ → W'.heap[g]? = W.heap[g]?) : ClustersAt W' s A U := fun k hk => by
 obtain ⟨g, h1, h2, h3, h4⟩ := h k hk
 have e := hA g h1
 refine ⟨g, h1, ?_, (World.cell?_of_block (w := W) (a := ⟨g, _, none⟩) e).trans h3, (World.cell?_of_block (w := W) (a := ⟨g, _, none⟩) e).trans h4⟩
 exact World.block_lt_of_cell? W' _ ((World.cell?_of_block (w := W) (a := ⟨g, _, none⟩) e).trans h3)
theorem infoInt : (Tryz.prog.info? 3).map (fun i => (i.zero, i.size, i.bytes)) = some (some (.int .i64 0), 1, 8) := by kernel_rfl
theorem cellsN_snoc (l : List Nat) (x : Nat) : cellsN (l ++ [x]) = cellsN l ++ [.int .i64 x] := by unfold cellsN; simp
/-- The boundaries that have been told behind k clusters. -/
def bndTo (s : ByteArray) (U : List Nat) : List Nat := 0 :: U.map (clN s)
theorem bndTo_snoc (s : ByteArray) (U : List Nat) (x : Nat) : bndTo s (U ++ [x]) = bndTo s U ++ [clN s x] := by unfold bndTo; simp
theorem bndTo_len (s : ByteArray) (U : List Nat) : (bndTo s U).length = U.length + 1 := by unfold bndTo; simp
set_option maxRecDepth 100000 in
set_option maxHeartbeats 2000000 in
theorem RefBounds_any (s : ByteArray) (w : World) (hs : s.size ≤ 1073741824) :
  Calls Tryz.prog 135 #[.string s] w fun e w' => ∃ A c, e = .returned (.slice A (bnd s).length c) ∧ NumsAt w' A (bnd s) ∧ Below w.heap.size w w' := by
 have hul := clAts_len s
 obtain ⟨W0, hW0⟩ : ∃ W, w.alloc (.cells #[.int .i64 0] 3) = W := ⟨_, rfl⟩
 have HO := Lib.hid (own_one w 3 (.int .i64 0))
 have HB := Lib.hid ((Below.refl w.heap.size w).alloc (Nat.le_refl _) (.cells #[.int .i64 0] 3))
 rw [hW0] at HO HB
 have HE := Lib.hid hW0
 have hb0 : bnd s = bndTo s (clAts s 0) := rfl
 rw [hb0]
 clear hW0 hb0
 go_enter Tryz.func135, Tryz.ntmps135
 go_wp2_with fail
 rw [HE.out]
 refine (RefList_qt s W0 hs).mono ?_
 rintro e w1 ⟨A, c, rfl, hC, hty, hb⟩
 have HTy := Lib.hid hty
 have HC := Lib.hid hC
 have HO := Lib.hid (own_belowC HO.out hb)
 have HB := Lib.hid (HB.out.trans (hb.mono HB.out.size))
 obtain ⟨U, hU⟩ : ∃ U, clAts s 0 = U := ⟨_, rfl⟩
 rw [hU] at HC hul ⊢
 have hU0 : U.length ≤ 1073741824 := by omega
 have HU := Lib.hid hU
 clear hC hb hU hul hty
 go_wp2
 go_loopw [3, 5] (fun q b wr => ∃ i : Nat, i ≤ U.length ∧ b = .int .i64 i ∧ wr.ownsRow w.heap.size 3 1 q (i + 1) (cellsN (bndTo s (U.take i))) ∧ Below w.heap.size w wr ∧ (∀ g, A = some ⟨g, 0, none⟩ → wr.heap[g]? = w1.heap[g]?)) (fun _ b _ => U.length - (intOf b).toNat)
 case atStart => exact ⟨0, Nat.zero_le _, rfl, HO.out, HB.out, fun _ _ => rfl⟩
 case round =>
  obtain ⟨i, hi, rfl, ho, hb, hb1⟩ := hrel
  have HO := Lib.hid ho
  have HB := Lib.hid hb
  have HB1 := Lib.hid hb1
  clear ho hb hb1
  by_cases hlt : i < U.length
  ·obtain ⟨g, rfl, hg, c1, c3⟩ := clusters_kept HC.out HB1.out i hlt
   have ht : U.take (i + 1) = U.take i ++ [U[i]] := List.take_succ_eq_append_getElem hlt
   have hsn := bndTo_snoc s (U.take i) U[i]
   rw [← ht] at hsn
   have hsn2 := cellsN_snoc (bndTo s (U.take i)) (clN s U[i])
   rw [← hsn] at hsn2
   have HS := Lib.hid hsn2
   obtain ⟨x, hx⟩ : ∃ x, clN s U[i] = x := ⟨_, rfl⟩
   rw [hx] at c1 HS
   have hi1 : (i : Int) < (U.length : Int) := by omega
   have hi0 : (0 : Int) ≤ (i : Int) := by omega
   have hwi : IntKind.i64.wrap ((i : Int) + 1) = (i : Int) + 1 := IntWalk.i64_in _ (by omega)
   have hi2 : i + 1 ≤ 4294967296 := by omega
   clear hsn hsn2 ht hx c3
   go_wp2_with (at_builtin; refine wpList_app_gen rfl _ _ 172 3 rfl (.int .i64 0) 1 8 infoInt Tryz.underlying172 rfl (by decide) (by decide) w.heap.size _ (i + 1) _ [.int .i64 x] _ HO.out rfl _ rfl rfl rfl (by intro u hu; simp at hu; subst hu; rfl) (by omega) (by have := HB.out.size; omega) ?_; intro v2 w3 hown3 hg3; have HO3 := Lib.hid hown3; have HG3 := Lib.hid hg3; have HB3 := Lib.hid ((HB.out.alloc HB.out.size _).grown hg3 (by have := HB.out.size; simp; omega) (fun j hj => (HO.out.lt j hj).1)); clear hown3 hg3)
   go_roundw
   case rel =>
    refine ⟨i + 1, hlt, by go_num, by rw [HS.out]; exact HO3.out, HB3.out, fun g' hA => ?_⟩
    obtain ⟨cur, hcur⟩ := HTy.out g' hA
    exact (typed_kept HO.out HG3.out (by decide) ((HB1.out g' hA).trans hcur)).trans hcur.symm
   case measure => simp [intOf]; omega
  ·obtain rfl : i = U.length := by omega
   rw [List.take_length] at HO
   clear hlt
   obtain ⟨A, cp, rfl⟩ := row_forma HO.out
   go_wp2
   go_ret
   refine ⟨A, cp, ?_, ?_, HB.out⟩
   ·rw [HU.out, bndTo_len]; rfl
   ·rw [HU.out]; exact nums_at HO.out (by rw [bndTo_len])
theorem find_hit {p : Nat → Bool} {L : List Nat} {i : Nat} (h : i < L.length) (hp : p L[i] = true) (hn : ∀ k (hk : k < L.length), k < i → p L[k] = false) : L.find? p = some L[i] := by
 rw [List.find?_eq_some_iff_getElem]
 refine ⟨hp, i, h, rfl, fun j hj => ?_⟩
 rw [hn j (by omega) hj]; rfl

set_option maxRecDepth 100000 in
set_option maxHeartbeats 1000000 in
theorem RefBoundary_any (s : ByteArray) (a : Int) (w : World) (hs : s.size ≤ 1073741824) :
  Calls Tryz.prog 113 #[.string s, .int .i64 a] w fun e w' => e = .returned (Value.bool (inB s a)) ∧ Below w.heap.size w w' := by
 have hul := clAts_len s
 have hbl : (bnd s).length = (clAts s 0).length + 1 := bndTo_len s _
 have HV := Lib.hid (rfl : Value.bool (inB s a) = Value.bool (inB s a))
 obtain ⟨V, hV⟩ : ∃ V, Value.bool (inB s a) = V := ⟨_, rfl⟩
 rw [hV]
 have HVV := Lib.hid hV
 clear hV HV
 go_enter Tryz.func113, Tryz.ntmps113
 go_wp2_with fail
 refine (RefBounds_any s w hs).mono ?_
 rintro e w1 ⟨A, c, rfl, hN, hb⟩
 have HN := Lib.hid hN
 have HB := Lib.hid hb
 obtain ⟨L, hL⟩ : ∃ L, bnd s = L := ⟨_, rfl⟩
 rw [hL] at HN hbl ⊢
 have HL := Lib.hid hL
 have hL0 : L.length ≤ 1073741825 := by omega
 clear hN hb hL hul hbl
 go_wp2
 go_loopw [6] (fun b wr => ∃ i : Nat, i ≤ L.length ∧ b = .int .i64 i ∧ Hid (∀ k (h : k < L.length), k < i → ¬ ((L[k] : Int) = a)) ∧ wr = w1) (fun b _ => L.length - (intOf b).toNat)
 case atStart => exact ⟨0, Nat.zero_le _, rfl, fun k _ h => absurd h (by omega), rfl⟩
 case round =>
  obtain ⟨i, hi, rfl, HP, rfl⟩ := hrel
  by_cases hlt : i < L.length
  ·obtain ⟨g, rfl, hg, c1⟩ := HN.out i hlt
   have HX := Lib.hid (rfl : L[i] = L[i])
   obtain ⟨x, hx⟩ : ∃ x, L[i] = x := ⟨_, rfl⟩
   rw [hx] at c1
   have Hx := Lib.hid hx
   have hi1 : (i : Int) < (L.length : Int) := by omega
   have hi0 : (0 : Int) ≤ (i : Int) := by omega
   have hwi : IntKind.i64.wrap ((i : Int) + 1) = (i : Int) + 1 := IntWalk.i64_in _ (by omega)
   clear hx HX
   by_cases hc : (x : Int) = a
   ·subst hc
    have hb0 : ((x : Int) == (x : Int)) = true := by simp
    have HR : Hid (V = .bool true) := by
     show _ = _
     rw [← HVV.out, ← any_bnd, HL.out]
     congr 1
     rw [List.any_eq_true]
     exact ⟨x, by rw [← Hx.out]; exact List.getElem_mem hlt, by simp⟩
    clear HP HL HVV Hx
    go_wp2
    go_ret
    exact ⟨by rw [HR.out]; rfl, HB.out⟩
   ·have hb0 : ((x : Int) == a) = false := by rw [beq_eq_false_iff_ne]; exact hc
    have HP2 : Hid (∀ k (h : k < L.length), k < i + 1 → ¬ ((L[k] : Int) = a)) := by
     intro k h hk
     rcases Nat.lt_or_ge k i with h1 | h1
     ·exact HP.out k h h1
     ·obtain rfl : k = i := by omega
      rw [Hx.out]; exact hc
    clear HP Hx
    go_wp2
    go_roundw
    case rel => exact ⟨i + 1, hlt, by go_num, HP2.out, trivial⟩
    case measure => simp [intOf]; omega
  ·obtain rfl : i = L.length := by omega
   have HR : Hid (V = .bool false) := by
    show _ = _
    rw [← HVV.out, ← any_bnd, HL.out]
    congr 1
    rw [List.any_eq_false]
    intro y hy
    obtain ⟨k, hk, rfl⟩ := List.getElem_of_mem hy
    simpa using HP.out k hk hk
   clear hlt HP HL HVV
   go_wp2
   go_ret
   exact ⟨by rw [HR.out]; rfl, HB.out⟩

set_option maxRecDepth 100000 in
set_option maxHeartbeats 1000000 in
theorem RefNext_any (s : ByteArray) (a : Int) (w : World) (hs : s.size ≤ 1073741824) :
  Calls Tryz.prog 114 #[.string s, .int .i64 a] w fun e w' => e = .returned (Value.int .i64 (nextB s a : Nat)) ∧ Below w.heap.size w w' := by
 have hul := clAts_len s
 have hbl : (bnd s).length = (clAts s 0).length + 1 := bndTo_len s _
 have HV := Lib.hid (rfl : Value.int .i64 (nextB s a : Nat) = Value.int .i64 (nextB s a : Nat))
 obtain ⟨V, hV⟩ : ∃ V, Value.int .i64 (nextB s a : Nat) = V := ⟨_, rfl⟩
 rw [hV]
 have HVV := Lib.hid hV
 clear hV HV
 go_enter Tryz.func114, Tryz.ntmps114
 go_wp2_with fail
 refine (RefBounds_any s w hs).mono ?_
 rintro e w1 ⟨A, c, rfl, hN, hb⟩
 have HN := Lib.hid hN
 have HB := Lib.hid hb
 obtain ⟨L, hL⟩ : ∃ L, bnd s = L := ⟨_, rfl⟩
 rw [hL] at HN hbl ⊢
 have HL := Lib.hid hL
 have hL0 : L.length ≤ 1073741825 := by omega
 clear hN hb hL hul hbl
 go_wp2
 go_loopw [6] (fun b wr => ∃ i : Nat, i ≤ L.length ∧ b = .int .i64 i ∧ Hid (∀ k (h : k < L.length), k < i → ¬ (a < (L[k] : Int))) ∧ wr = w1) (fun b _ => L.length - (intOf b).toNat)
 case atStart => exact ⟨0, Nat.zero_le _, rfl, fun k _ h => absurd h (by omega), rfl⟩
 case round =>
  obtain ⟨i, hi, rfl, HP, rfl⟩ := hrel
  by_cases hlt : i < L.length
  ·obtain ⟨g, rfl, hg, c1⟩ := HN.out i hlt
   have HX := Lib.hid (rfl : L[i] = L[i])
   obtain ⟨x, hx⟩ : ∃ x, L[i] = x := ⟨_, rfl⟩
   rw [hx] at c1
   have Hx := Lib.hid hx
   have hi1 : (i : Int) < (L.length : Int) := by omega
   have hi0 : (0 : Int) ≤ (i : Int) := by omega
   have hwi : IntKind.i64.wrap ((i : Int) + 1) = (i : Int) + 1 := IntWalk.i64_in _ (by omega)
   clear hx HX
   by_cases hc : a < (x : Int)
   ·skip
    have HR : Hid (V = .int .i64 x) := by
     show _ = _
     rw [← HVV.out]
     unfold nextB
     rw [HL.out, find_hit hlt (by simpa [Hx.out] using hc) (fun k hk h => by simpa using HP.out k hk h), Hx.out]; rfl
    clear HP HL HVV Hx
    go_wp2
    go_ret
    exact ⟨by rw [HR.out]; rfl, HB.out⟩
   ·skip
    have HP2 : Hid (∀ k (h : k < L.length), k < i + 1 → ¬ (a < (L[k] : Int))) := by
     intro k h hk
     rcases Nat.lt_or_ge k i with h1 | h1
     ·exact HP.out k h h1
     ·obtain rfl : k = i := by omega
      rw [Hx.out]; exact hc
    clear HP Hx
    go_wp2
    go_roundw
    case rel => exact ⟨i + 1, hlt, by go_num, HP2.out, trivial⟩
    case measure => simp [intOf]; omega
  ·obtain rfl : i = L.length := by omega
   have HR : Hid (V = .int .i64 s.size) := by
    show _ = _
    rw [← HVV.out]
    unfold nextB
    rw [HL.out, find_none (fun y hy => ?_)]
    ·rfl
    ·obtain ⟨k, hk, rfl⟩ := List.getElem_of_mem hy
     simpa using HP.out k hk hk
   clear hlt HP HL HVV
   go_wp2
   go_ret
   exact ⟨by rw [HR.out]; rfl, HB.out⟩

set_option maxRecDepth 100000 in
set_option maxHeartbeats 1000000 in
theorem RefSnap_any (s : ByteArray) (a : Int) (w : World) (hs : s.size ≤ 1073741824) :
  Calls Tryz.prog 116 #[.string s, .int .i64 a] w fun e w' => e = .returned (Value.int .i64 (snapB s a : Nat)) ∧ Below w.heap.size w w' := by
 have hul := clAts_len s
 have hbl : (bnd s).length = (clAts s 0).length + 1 := bndTo_len s _
 have HV := Lib.hid (rfl : Value.int .i64 (snapB s a : Nat) = Value.int .i64 (snapB s a : Nat))
 obtain ⟨V, hV⟩ : ∃ V, Value.int .i64 (snapB s a : Nat) = V := ⟨_, rfl⟩
 rw [hV]
 have HVV := Lib.hid hV
 clear hV HV
 go_enter Tryz.func116, Tryz.ntmps116
 go_wp2_with fail
 refine (RefBounds_any s w hs).mono ?_
 rintro e w1 ⟨A, c, rfl, hN, hb⟩
 have HN := Lib.hid hN
 have HB := Lib.hid hb
 obtain ⟨L, hL⟩ : ∃ L, bnd s = L := ⟨_, rfl⟩
 rw [hL] at HN hbl ⊢
 have HL := Lib.hid hL
 have hL0 : L.length ≤ 1073741825 := by omega
 clear hN hb hL hul hbl
 go_wp2
 go_loopw [6] (fun b wr => ∃ i : Nat, i ≤ L.length ∧ b = .int .i64 i ∧ Hid (∀ k (h : k < L.length), k < i → ¬ (a ≤ (L[k] : Int))) ∧ wr = w1) (fun b _ => L.length - (intOf b).toNat)
 case atStart => exact ⟨0, Nat.zero_le _, rfl, fun k _ h => absurd h (by omega), rfl⟩
 case round =>
  obtain ⟨i, hi, rfl, HP, rfl⟩ := hrel
  by_cases hlt : i < L.length
  ·obtain ⟨g, rfl, hg, c1⟩ := HN.out i hlt
   have HX := Lib.hid (rfl : L[i] = L[i])
   obtain ⟨x, hx⟩ : ∃ x, L[i] = x := ⟨_, rfl⟩
   rw [hx] at c1
   have Hx := Lib.hid hx
   have hi1 : (i : Int) < (L.length : Int) := by omega
   have hi0 : (0 : Int) ≤ (i : Int) := by omega
   have hwi : IntKind.i64.wrap ((i : Int) + 1) = (i : Int) + 1 := IntWalk.i64_in _ (by omega)
   clear hx HX
   by_cases hc : a ≤ (x : Int)
   ·skip
    have HR : Hid (V = .int .i64 x) := by
     show _ = _
     rw [← HVV.out]
     unfold snapB
     rw [HL.out, find_hit hlt (by simpa [Hx.out] using hc) (fun k hk h => by simpa using HP.out k hk h), Hx.out]; rfl
    clear HP HL HVV Hx
    go_wp2
    go_ret
    exact ⟨by rw [HR.out]; rfl, HB.out⟩
   ·skip
    have HP2 : Hid (∀ k (h : k < L.length), k < i + 1 → ¬ (a ≤ (L[k] : Int))) := by
     intro k h hk
     rcases Nat.lt_or_ge k i with h1 | h1
     ·exact HP.out k h h1
     ·obtain rfl : k = i := by omega
      rw [Hx.out]; exact hc
    clear HP Hx
    go_wp2
    go_roundw
    case rel => exact ⟨i + 1, hlt, by go_num, HP2.out, trivial⟩
    case measure => simp [intOf]; omega
  ·obtain rfl : i = L.length := by omega
   have HR : Hid (V = .int .i64 s.size) := by
    show _ = _
    rw [← HVV.out]
    unfold snapB
    rw [HL.out, find_none (fun y hy => ?_)]
    ·rfl
    ·obtain ⟨k, hk, rfl⟩ := List.getElem_of_mem hy
     simpa using HP.out k hk hk
   clear hlt HP HL HVV
   go_wp2
   go_ret
   exact ⟨by rw [HR.out]; rfl, HB.out⟩

theorem bnd_zero (s : ByteArray) : (bnd s)[0]? = some 0 := rfl
set_option maxRecDepth 100000 in
set_option maxHeartbeats 1000000 in
theorem RefPrev_any (s : ByteArray) (a : Int) (w : World) (hs : s.size ≤ 1073741824) :
  Calls Tryz.prog 115 #[.string s, .int .i64 a] w fun e w' => e = .returned (.int .i64 (prevB s a : Nat)) ∧ Below w.heap.size w w' := by
 have hul := clAts_len s
 have hbl : (bnd s).length = (clAts s 0).length + 1 := bndTo_len s _
 have HS := Lib.hid (bnd_up s)
 have HM := Lib.hid (mem_bnd s)
 have HZ := Lib.hid (bnd_zero s)
 obtain ⟨V, hV⟩ : ∃ V, prevB s a = V := ⟨_, rfl⟩
 rw [hV]
 have HVV := Lib.hid hV
 clear hV
 go_enter Tryz.func115, Tryz.ntmps115
 go_wp2_with fail
 refine (RefBounds_any s w hs).mono ?_
 rintro e w1 ⟨A, c, rfl, hN, hb⟩
 have HN := Lib.hid hN
 have HB := Lib.hid hb
 obtain ⟨L, hL⟩ : ∃ L, bnd s = L := ⟨_, rfl⟩
 rw [hL] at HN hbl HS HM HZ ⊢
 have hL0 : L.length ≤ 1073741825 := by omega
 have hL1 : 0 < L.length := by omega
 have hw0 : IntKind.i64.wrap ((L.length : Int) - 1) = ((L.length - 1 : Nat) : Int) := by rw [IntWalk.i64_in _ (by omega)]; omega
 clear hN hb hL hul hbl
 go_wp2
 go_loopw [6] (fun b wr => ∃ i : Nat, i ≤ L.length ∧ b = .int .i64 ((i : Int) - 1) ∧ Hid (∀ k (h : k < L.length), i ≤ k → ¬ ((L[k] : Int) < a)) ∧ wr = w1) (fun b _ => (intOf b + 1).toNat)
 case atStart => exact ⟨L.length, Nat.le_refl _, by congr 1; omega, fun k h h1 => absurd h (by omega), rfl⟩
 case round =>
  obtain ⟨i, hi, rfl, HP, rfl⟩ := hrel
  rcases Nat.eq_zero_or_pos i with rfl | hpos
  ·have HR : Hid (V = 0) := by
    show _ = _
    rw [← HVV.out]
    refine prevB_none ?_
    have h0 := HP.out 0 hL1 (Nat.le_refl _)
    have h1 := HZ.out
    rw [List.getElem?_eq_getElem hL1] at h1
    have h2 : L[0] = 0 := by simpa using h1
    rw [h2] at h0
    omega
   have hq : ¬ (0 : Int) ≤ ((0 : Nat) : Int) - 1 := by omega
   clear HP HVV HM HS HZ
   go_wp2
   go_ret
   exact ⟨by rw [HR.out]; rfl, HB.out⟩
  ·obtain ⟨j, rfl⟩ : ∃ j, i = j + 1 := ⟨i - 1, by omega⟩
   have ej : ((j + 1 : Nat) : Int) - 1 = (j : Int) := by omega
   rw [ej]
   have hlt : j < L.length := by omega
   obtain ⟨g, rfl, hg, c1⟩ := HN.out j hlt
   obtain ⟨x, hx⟩ : ∃ x, L[j] = x := ⟨_, rfl⟩
   rw [hx] at c1
   have Hx := Lib.hid hx
   have hi1 : (j : Int) < (L.length : Int) := by omega
   have hi0 : (0 : Int) ≤ (j : Int) := by omega
   have hwi : IntKind.i64.wrap ((j : Int) - 1) = (j : Int) - 1 := IntWalk.i64_in _ (by omega)
   clear hx
   by_cases hc : (x : Int) < a
   ·have HR : Hid (V = x) := by
     show _ = _
     rw [← HVV.out]
     have hm := (HM.out x).1 (by rw [← Hx.out]; exact List.getElem_mem hlt)
     refine prevB_is hc hm.1 hm.2 (fun k h1 h2 h3 => ?_)
     cases hb : clB s k with
     | false => rfl
     | true =>
      exfalso
      obtain ⟨q, hq, hqe⟩ := List.getElem_of_mem ((HM.out k).2 ⟨h3, hb⟩)
      rcases Nat.lt_or_ge j q with h4 | h4
      ·have := HP.out q hq h4
       rw [hqe] at this; omega
      ·have h5 : q ≤ j := h4
       rcases Nat.lt_or_ge q j with h6 | h6
       ·have := (List.pairwise_iff_getElem.1 HS.out) q j hq hlt h6
        rw [hqe, Hx.out] at this; omega
       ·obtain rfl : q = j := by omega
        rw [Hx.out] at hqe; omega
    clear HP HVV Hx HM HS HZ
    go_wp2
    go_ret
    exact ⟨by rw [HR.out]; rfl, HB.out⟩
   ·have HP2 : Hid (∀ k (h : k < L.length), j ≤ k → ¬ ((L[k] : Int) < a)) := by
     intro k h hk
     rcases Nat.lt_or_ge j k with h1 | h1
     ·exact HP.out k h h1
     ·obtain rfl : k = j := by omega
      rw [Hx.out]; exact hc
    clear HP Hx
    go_wp2
    go_roundw
    case rel => exact ⟨j, by omega, rfl, HP2.out, trivial⟩
    case measure => simp [intOf]
end Go.Proofs.YtfchglcclgcgfaaGreatDoor.Ut
/-
 The document's own summary (bodkinref04.Measure). No condition.
-/
namespace Go.Proofs.YtfchglcclgcgfaaGreatDoor.Ut
open Go.RowKit Go.Proofs.YtfchglcclgcgfaaGreatDoor.Reg
set_option linter.unusedVariables false
set_option linter.unusedSimpArgs false

theorem runes_un (s : ByteArray) : ∀ f i, s.size - i ≤ f → Lib.runeCountFrom s f i = (unAts s i).length
 | 0, i, h => by
  unfold Lib.runeCountFrom
  rw [unAts_end (by omega)]; rfl
 | f + 1, i, h => by
  unfold Lib.runeCountFrom
  rcases Nat.lt_or_ge i s.size with hi | hi
  ·have hu := up_gt hi
   have hd : i + (Utf8.decode s i).2 = up s i := by unfold up sz; rw [from_dec s hi]
   rw [unAts_step hi, List.length_cons, ← runes_un s f (up s i) (by omega), if_pos hi, hd]
   omega
  ·rw [unAts_end hi, if_neg (by omega)]; rfl
theorem RfCount1 (s : ByteArray) (w : World) (hs : s.size ≤ 1073741824) : Calls Tryz.prog 168 #[.string s] w fun e w' => e = .returned (.int .i64 (Lib.runeCount s)) ∧ Below w.heap.size w w' := by
 have hc : Lib.runeCount s = (unAts s 0).length := runes_un s _ 0 (by omega)
 rw [hc]
 go_enter Tryz.func168, Tryz.ntmps168
 go_wp2_with fail
 refine (RefUnits_any s w hs).mono ?_
 rintro e w1 ⟨v, rfl, hown, hb⟩
 obtain ⟨A, c, rfl⟩ := row_forma hown
 have HB := Lib.hid hb
 clear hb hown hc
 go_wp2
 go_ret
 exact ⟨rfl, HB.out⟩
theorem RfHead4 (s : ByteArray) (w : World) (hs : s.size ≤ 1073741824) : Calls Tryz.prog 166 #[.string s] w fun e w' => e = .returned (.string (headF s)) ∧ w' = w := by
 unfold headF
 by_cases h : 16 < s.size
 ·have h1 : (16 : Int) < (s.size : Int) := by omega
  have h2 : (16 : Int) ≤ (s.size : Int) := by omega
  have e : min s.size 16 = 16 := by omega
  rw [e]
  clear h
  go_enter Tryz.func166, Tryz.ntmps166
  go_wp2
  go_ret
  exact ⟨rfl, rfl⟩
 ·have h1 : ¬ (16 : Int) < (s.size : Int) := by omega
  have e : min s.size 16 = s.size := by omega
  have HE := Lib.hid (extract_all s)
  rw [e]
  clear h e
  go_enter Tryz.func166, Tryz.ntmps166
  go_wp2
  go_ret
  exact ⟨rfl, rfl⟩
theorem RfTail4 (s : ByteArray) (w : World) (hs : s.size ≤ 1073741824) : Calls Tryz.prog 167 #[.string s] w fun e w' => e = .returned (.string (tailF s)) ∧ w' = w := by
 unfold tailF
 by_cases h : 16 < s.size
 ·have h1 : (16 : Int) < (s.size : Int) := by omega
  have e : min s.size 16 = 16 := by omega
  have h4 : IntKind.i64.wrap ((s.size : Int) - 16) = ((s.size - 16 : Nat) : Int) := by rw [IntWalk.i64_in _ (by omega)]; omega
  rw [e]
  have h6 : s.size - 16 ≤ s.size := by omega
  generalize s.size - 16 = j at *
  have h7 : (j : Int) ≤ (s.size : Int) := by omega
  clear h e
  go_enter Tryz.func167, Tryz.ntmps167
  go_wp2
  go_ret
  exact ⟨rfl, rfl⟩
 ·have h1 : ¬ (16 : Int) < (s.size : Int) := by omega
  have e : s.size - min s.size 16 = 0 := by omega
  have HE := Lib.hid (extract_all s)
  rw [e]
  clear h e
  go_enter Tryz.func167, Tryz.ntmps167
  go_wp2
  go_ret
  exact ⟨rfl, rfl⟩
def VMs8 (g3 g i n c : Nat) (A B : Int) : Nat → Value → World → Prop := fun d x w => match d with
 | 28 => x = .pointer (some ⟨g3, 3, none⟩)
 | 29 => x = .int .i64 A
 | 30 => x = .slice (some ⟨g, 0, none⟩) n c
 | 31 => x = .int .i64 i
 | 32 => x = .pointer (some ⟨g, i * 4, none⟩)
 | 33 => x = .pointer (some ⟨g, i * 4 + 3, none⟩)
 | 34 => x = .int .i64 B
 | 35 => x = .int .i64 (A + B)
 | 36 => x = .pointer (some ⟨g3, 3, none⟩)
 | _ => True
theorem VMs8_mono (g3 g i n c : Nat) (A B : Int) : ∀ d x w w', VMs8 g3 g i n c A B d x w → Below w.heap.size w w' → VMs8 g3 g i n c A B d x w' := by
 exact fun _ _ _ _ h _ => h
def me7 (a b c d e : Int) (h t : ByteArray) : List Value := [.int .i64 a, .int .i64 b, .int .i64 c, .int .i64 d, .int .i64 e, .string h, .string t]
set_option maxRecDepth 100000 in
set_option maxHeartbeats 4000000 in
theorem RfMeasure4 (s : ByteArray) (w : World) (hs : s.size ≤ 1073741824) : Calls Tryz.prog 134 #[.string s] w fun e w' => e = .returned (measF s).val ∧ Below w.heap.size w w' := by
 have hul := clAts_len s
 have hbase : (measF s).val = .agg (me7 s.size (Lib.runeCount s) (clAts s 0).length (sumW s (clAts s 0)) (nlF s) (headF s) (tailF s)).toArray := rfl
 rw [hbase]
 have hrc : Lib.runeCount s = (unAts s 0).length := runes_un s _ 0 (by omega)
 obtain ⟨W0, hW0, A0, b0, hsz⟩ := boxL1 w zero7 48
 have HE := Lib.hid hW0
 unfold zero7 at HE
 have HR := Lib.hid A0
 have HB := Lib.hid b0
 obtain ⟨HD, hHD⟩ : ∃ H, headF s = H := ⟨_, rfl⟩
 obtain ⟨TL, hTL⟩ : ∃ H, tailF s = H := ⟨_, rfl⟩
 obtain ⟨RC, hRC⟩ : ∃ H, (Lib.runeCount s : Int) = H := ⟨_, rfl⟩
 have K1 := Lib.hid (fun w => RfHead4 s w hs)
 have K2 := Lib.hid (fun w => RfTail4 s w hs)
 have K3 := Lib.hid (fun w => RfCount1 s w hs)
 rw [hHD] at K1
 rw [hTL] at K2
 rw [hRC] at K3
 rw [hHD, hTL, hRC]
 clear hW0 A0 b0 hbase hrc hHD hTL hRC
 go_enter Tryz.func134, Tryz.ntmps134
 go_wp2_with fail
 rw [HE.out]
 refine (K1.out W0).mono ?_
 rintro e w1 ⟨rfl, rfl⟩
 go_wp2_with fail
 refine (K2.out w1).mono ?_
 rintro e w2 ⟨rfl, rfl⟩
 obtain ⟨W3, hW3⟩ : ∃ W, w2.alloc (.cells #[.int .i64 s.size, .int .i64 0, .int .i64 0, .int .i64 0, .int .i64 0, .string HD, .string TL] 48) = W := ⟨_, rfl⟩
 have hK3 : Blk W3 w2.heap.size 48 (me7 s.size 0 0 0 0 HD TL) := by rw [← hW3]; exact Blk.new w2 (me7 s.size 0 0 0 0 HD TL) _
 have hB3 : Below w2.heap.size w2 W3 := by rw [← hW3]; exact (Below.refl _ _).alloc (Nat.le_refl _) _
 have HE3 := Lib.hid hW3
 have HK := Lib.hid hK3
 have hg2 : w.heap.size < w2.heap.size := HR.out.1
 have HR := Lib.hid (HR.out.below hB3)
 have HB := Lib.hid (HB.out.trans (hB3.mono HB.out.size))
 clear hW3 hK3 hB3 hsz
 go_wp2_with fail
 rw [HE3.out]
 generalize w2.heap.size = g3 at *
 have hg3 : w.heap.size ≤ g3 := by omega
 have hgne : ¬ w.heap.size = g3 := by omega
 refine (K3.out W3).mono ?_
 rintro e w4 ⟨rfl, hb⟩
 have HK := Lib.hid (HK.out.below hb)
 have HR := Lib.hid (HR.out.below hb)
 have HB := Lib.hid (HB.out.trans (hb.mono HB.out.size))
 obtain ⟨q1, f1⟩ := HK.out.lies.2 1 _ rfl
 have hbl := HK.out.lies.1
 clear hb K1 K2 K3 HE HE3
 go_upto_region 3 with fail
 have HC4 := Chg.set w4 ⟨g3, 1, none⟩ (.int .i64 RC)
 have HK : Hid (Blk (w4.setCell ⟨g3, 1, none⟩ (.int .i64 RC)) g3 48 (me7 s.size RC 0 0 0 HD TL)) := HK.out.set 1 (.int .i64 RC)
 have HR := Lib.hid (HR.out.chg HC4 hgne)
 have HB := Lib.hid (chg_mine HB.out HC4 hg3)
 clear HC4 q1 f1 hbl
 generalize w4.setCell ⟨g3, 1, none⟩ (.int .i64 RC) = w5 at *
 go_wp2_with fail
 refine (RefList_qt s w5 hs).mono ?_
 rintro e w6 ⟨A, c, rfl, hC, hty, hb⟩
 have HCl := Lib.hid hC
 have HTy := Lib.hid hty
 have HK := Lib.hid (HK.out.below hb)
 have HR := Lib.hid (HR.out.below hb)
 have HB := Lib.hid (HB.out.trans (hb.mono HB.out.size))
 obtain ⟨U, hU⟩ : ∃ U, clAts s 0 = U := ⟨_, rfl⟩
 rw [hU] at HCl hul ⊢
 have hU0 : U.length ≤ 1073741824 := by omega
 have HU := Lib.hid hU
 obtain ⟨q2, f2⟩ := HK.out.lies.2 2 _ rfl
 have hbl := HK.out.lies.1
 clear hC hty hb hU hul
 go_upto_region 5 with fail
 have HC4 := Chg.set w6 ⟨g3, 2, none⟩ (.int .i64 U.length)
 have HK : Hid (Blk (w6.setCell ⟨g3, 2, none⟩ (.int .i64 U.length)) g3 48 (me7 s.size RC U.length 0 0 HD TL)) := HK.out.set 2 (.int .i64 U.length)
 have HR := Lib.hid (HR.out.chg HC4 hgne)
 have HB := Lib.hid (chg_mine HB.out HC4 hg3)
 have HH : Hid (∀ g, A = some ⟨g, 0, none⟩ → ¬ g = g3 ∧ (w6.setCell ⟨g3, 2, none⟩ (.int .i64 U.length)).heap[g]? = w6.heap[g]?) := by
  intro g hA
  obtain ⟨cur, hcur⟩ := HTy.out g hA
  have hne : ¬ g = g3 := by
   intro e
   subst e
   have hx := ‹Hid (Blk w6 g 48 (me7 s.size RC 0 0 0 HD TL))›.out
   unfold Blk at hx
   rw [hx] at hcur
   simp at hcur
  exact ⟨hne, HC4.block g (Array.getElem?_eq_some_iff.1 hcur).1 hne⟩
 clear HC4 q2 f2 hbl HTy
 generalize w6.setCell ⟨g3, 2, none⟩ (.int .i64 U.length) = w7 at *
 go_wp2
 go_loopw [5] (fun b wr => ∃ i : Nat, i ≤ U.length ∧ b = .int .i64 i ∧ Hid (Blk wr g3 48 (me7 s.size RC U.length (sumW s (U.take i)) 0 HD TL)) ∧ Hid (Lies wr w.heap.size zero7) ∧ Hid (Below w.heap.size w wr) ∧ Hid (∀ g, A = some ⟨g, 0, none⟩ → ¬ g = g3 ∧ wr.heap[g]? = w6.heap[g]?)) (fun b _ => U.length - (intOf b).toNat)
 case atStart => exact ⟨0, Nat.zero_le _, rfl, HK, HR, HB, HH⟩
 case round =>
  obtain ⟨i, hi, rfl, HK, HR, HB, HH⟩ := hrel
  by_cases hlt : i < U.length
  ·obtain ⟨g, rfl, hg, c1, c3⟩ := clusters_kept HCl.out (fun g hA => (HH.out g hA).2) i hlt
   have hne := (HH.out g rfl).1
   have ht : U.take (i + 1) = U.take i ++ [U[i]] := List.take_succ_eq_append_getElem hlt
   have hsn := sumW_snoc s (U.take i) U[i]
   rw [← ht] at hsn
   have hb1 := sumW_bounds s (U.take i)
   rw [List.length_take] at hb1
   have hb2 := clW_bounds s U[i]
   generalize U[i] = x at *
   obtain ⟨S, hS⟩ : ∃ S, sumW s (U.take i) = S := ⟨_, rfl⟩
   rw [hS] at hsn hb1 HK
   obtain ⟨Y, hY⟩ : ∃ Y, clW s x = Y := ⟨_, rfl⟩
   rw [hY] at hsn hb2 c3
   have hw : IntKind.i64.wrap (S + Y) = S + Y := IntWalk.i64_in _ (by omega)
   have hi1 : (i : Int) < (U.length : Int) := by omega
   have hi0 : (0 : Int) ≤ (i : Int) := by omega
   have hwi : IntKind.i64.wrap ((i : Int) + 1) = (i : Int) + 1 := IntWalk.i64_in _ (by omega)
   have HS := Lib.hid hsn
   have hbl := HK.out.lies.1
   clear hS hY hb1 hb2 ht hsn c1
   go_wp2
   refine wp_held_tail mixed (VMs8 g3 g i U.length c S Y) (VMs8_mono _ _ _ _ _ _ _) (by kernel_rfl) 8 9 (by decide) [28, 29, 30, 31, 32, 33, 34, 35, 36] (by kernel_rfl) (by kernel_rfl) (by kernel_rfl) (by kernel_rfl) ?_ ?_
   ·intro j hj
    have hj' : j < 9 := hj
    rcases (by omega : j = 0 ∨ j = 1 ∨ j = 2 ∨ j = 3 ∨ j = 4 ∨ j = 5 ∨ j = 6 ∨ j = 7 ∨ j = 8) with rfl | rfl | rfl | rfl | rfl | rfl | rfl | rfl | rfl
    ·(refine owes_val (L := [(3, false)]) rfl rfl rfl (by kernel_rfl) ?_; intro a' w' hb' hfacts; obtain ⟨hf3, -⟩ := hfacts; replace hf3 : a'.tmps[3]?.getD undef = .pointer (some ⟨g3, 0, none⟩) := hf3)
     have p3 := ((HK.out.below hb').lies.2 3 _ rfl).1; have pc := (hb'.cell (p := ⟨g, i * 4 + 3, none⟩) hg).trans c3
     (go_simp; first | exact ⟨_, rfl, Br _, rfl⟩ | exact ⟨_, rfl, Br _, trivial⟩ | exact ⟨_, rfl, Ba _ _, trivial⟩ | exact ⟨_, rfl, Br _, congrArg (Value.int _) (IntWalk.i64_in _ (by omega))⟩)
    ·(refine owes_val (L := [(28, true)]) rfl rfl rfl (by kernel_rfl) ?_; intro a' w' hb' hfacts; obtain ⟨hf28, -⟩ := hfacts; try simp only [VMs8] at hf28)
     have p3 := ((HK.out.below hb').lies.2 3 _ rfl).1; have pc := (hb'.cell (p := ⟨g, i * 4 + 3, none⟩) hg).trans c3
     (go_simp; first | exact ⟨_, rfl, Br _, rfl⟩ | exact ⟨_, rfl, Br _, trivial⟩ | exact ⟨_, rfl, Ba _ _, trivial⟩ | exact ⟨_, rfl, Br _, congrArg (Value.int _) (IntWalk.i64_in _ (by omega))⟩)
    ·(refine owes_val (L := [(4, false)]) rfl rfl rfl (by kernel_rfl) ?_; intro a' w' hb' hfacts; obtain ⟨hf4, -⟩ := hfacts; replace hf4 : a'.tmps[4]?.getD undef = .slice (some ⟨g, 0, none⟩) U.length c := hf4)
     have p3 := ((HK.out.below hb').lies.2 3 _ rfl).1; have pc := (hb'.cell (p := ⟨g, i * 4 + 3, none⟩) hg).trans c3
     (go_simp; first | exact ⟨_, rfl, Br _, rfl⟩ | exact ⟨_, rfl, Br _, trivial⟩ | exact ⟨_, rfl, Ba _ _, trivial⟩ | exact ⟨_, rfl, Br _, congrArg (Value.int _) (IntWalk.i64_in _ (by omega))⟩)
    ·(refine owes_val (L := [(5, false)]) rfl rfl rfl (by kernel_rfl) ?_; intro a' w' hb' hfacts; obtain ⟨hf5, -⟩ := hfacts; replace hf5 : a'.tmps[5]?.getD undef = .int .i64 i := hf5)
     have p3 := ((HK.out.below hb').lies.2 3 _ rfl).1; have pc := (hb'.cell (p := ⟨g, i * 4 + 3, none⟩) hg).trans c3
     (go_simp; first | exact ⟨_, rfl, Br _, rfl⟩ | exact ⟨_, rfl, Br _, trivial⟩ | exact ⟨_, rfl, Ba _ _, trivial⟩ | exact ⟨_, rfl, Br _, congrArg (Value.int _) (IntWalk.i64_in _ (by omega))⟩)
    ·(refine owes_val (L := [(30, true), (31, true)]) rfl rfl rfl (by kernel_rfl) ?_; intro a' w' hb' hfacts; obtain ⟨hf30, hf31, -⟩ := hfacts; try simp only [VMs8] at hf30; try simp only [VMs8] at hf31)
     have p3 := ((HK.out.below hb').lies.2 3 _ rfl).1; have pc := (hb'.cell (p := ⟨g, i * 4 + 3, none⟩) hg).trans c3
     (go_simp; first | exact ⟨_, rfl, Br _, rfl⟩ | exact ⟨_, rfl, Br _, trivial⟩ | exact ⟨_, rfl, Ba _ _, trivial⟩ | exact ⟨_, rfl, Br _, congrArg (Value.int _) (IntWalk.i64_in _ (by omega))⟩)
    ·(refine owes_val (L := [(32, true)]) rfl rfl rfl (by kernel_rfl) ?_; intro a' w' hb' hfacts; obtain ⟨hf32, -⟩ := hfacts; try simp only [VMs8] at hf32)
     have p3 := ((HK.out.below hb').lies.2 3 _ rfl).1; have pc := (hb'.cell (p := ⟨g, i * 4 + 3, none⟩) hg).trans c3
     (go_simp; first | exact ⟨_, rfl, Br _, rfl⟩ | exact ⟨_, rfl, Br _, trivial⟩ | exact ⟨_, rfl, Ba _ _, trivial⟩ | exact ⟨_, rfl, Br _, congrArg (Value.int _) (IntWalk.i64_in _ (by omega))⟩)
    ·(refine owes_val (L := [(33, true)]) rfl rfl rfl (by kernel_rfl) ?_; intro a' w' hb' hfacts; obtain ⟨hf33, -⟩ := hfacts; try simp only [VMs8] at hf33)
     have p3 := ((HK.out.below hb').lies.2 3 _ rfl).1; have pc := (hb'.cell (p := ⟨g, i * 4 + 3, none⟩) hg).trans c3
     (go_simp; first | exact ⟨_, rfl, Br _, rfl⟩ | exact ⟨_, rfl, Br _, trivial⟩ | exact ⟨_, rfl, Ba _ _, trivial⟩ | exact ⟨_, rfl, Br _, congrArg (Value.int _) (IntWalk.i64_in _ (by omega))⟩)
    ·(refine owes_val (L := [(29, true), (34, true)]) rfl rfl rfl (by kernel_rfl) ?_; intro a' w' hb' hfacts; obtain ⟨hf29, hf34, -⟩ := hfacts; try simp only [VMs8] at hf29; try simp only [VMs8] at hf34)
     have p3 := ((HK.out.below hb').lies.2 3 _ rfl).1; have pc := (hb'.cell (p := ⟨g, i * 4 + 3, none⟩) hg).trans c3
     (go_simp; first | exact ⟨_, rfl, Br _, rfl⟩ | exact ⟨_, rfl, Br _, trivial⟩ | exact ⟨_, rfl, Ba _ _, trivial⟩ | exact ⟨_, rfl, Br _, congrArg (Value.int _) (IntWalk.i64_in _ (by omega))⟩)
    ·(refine owes_val (L := [(3, false)]) rfl rfl rfl (by kernel_rfl) ?_; intro a' w' hb' hfacts; obtain ⟨hf3, -⟩ := hfacts; replace hf3 : a'.tmps[3]?.getD undef = .pointer (some ⟨g3, 0, none⟩) := hf3)
     have p3 := ((HK.out.below hb').lies.2 3 _ rfl).1; have pc := (hb'.cell (p := ⟨g, i * 4 + 3, none⟩) hg).trans c3
     (go_simp; first | exact ⟨_, rfl, Br _, rfl⟩ | exact ⟨_, rfl, Br _, trivial⟩ | exact ⟨_, rfl, Ba _ _, trivial⟩ | exact ⟨_, rfl, Br _, congrArg (Value.int _) (IntWalk.i64_in _ (by omega))⟩)
   ·intro f W2 hf hb
    have e36 : f 36 = .pointer (some ⟨g3, 3, none⟩) := hf 36 (by decide)
    have e35 : f 35 = .int .i64 (S + Y) := hf 35 (by decide)
    have hB := HK.out.below hb
    obtain ⟨q0, f0⟩ := hB.lies.2 3 _ rfl
    have hbl2 := hB.lies.1
    have HC4 := Chg.set W2 ⟨g3, 3, none⟩ (.int .i64 (S + Y))
    have HK4 : Hid (Blk (W2.setCell ⟨g3, 3, none⟩ (.int .i64 (S + Y))) g3 48 (me7 s.size RC U.length (sumW s (U.take (i + 1))) 0 HD TL)) := by
     show Blk _ _ _ _
     rw [HS.out]; exact hB.set 3 (.int .i64 (S + Y))
    have HR4 := Lib.hid ((HR.out.below hb).chg HC4 hgne)
    have HB4 := Lib.hid (chg_mine (HB.out.trans (hb.mono HB.out.size)) HC4 hg3)
    have HH4 : Hid (∀ g', (some ⟨g, 0, none⟩ : Option Addr) = some ⟨g', 0, none⟩ → ¬ g' = g3 ∧ (W2.setCell ⟨g3, 3, none⟩ (.int .i64 (S + Y))).heap[g']? = w6.heap[g']?) := by
     intro g' hA
     obtain rfl : g = g' := by simpa using hA
     exact ⟨hne, (HC4.block g (Nat.lt_of_lt_of_le hg hb.size) hne).trans ((hb.block g hg).trans (HH.out g rfl).2)⟩
    clear hf hb hB HC4 c3 hg
    simp only [putAll, put_lit, List.map_cons, List.map_nil, List.set_cons_succ, List.set_cons_zero]
    simp only [e36, e35]
    clear e36 e35
    dsimp only [List.drop]
    go_wp2
    go_roundw
    case rel => exact ⟨i + 1, hlt, by go_num, HK4, HR4, HB4, HH4⟩
    case measure => simp [intOf]; omega
  ·obtain rfl : i = U.length := by omega
   rw [List.take_length] at HK
   clear hlt hi HH HCl
   go_wp2
   obtain ⟨SW, hSW⟩ : ∃ X, sumW s U = X := ⟨_, rfl⟩
   have HSW := Lib.hid hSW
   rw [hSW] at HK
   clear hSW
   go_loopw [6] (fun b wr2 => ∃ i : Nat, i ≤ s.size ∧ b = .int .i64 i ∧ Hid (Blk wr2 g3 48 (me7 s.size RC U.length SW (nlTo s i) HD TL)) ∧ Hid (Lies wr2 w.heap.size zero7) ∧ Hid (Below w.heap.size w wr2)) (fun b _ => s.size - (intOf b).toNat)
   case atStart =>
    have h0 : nlTo s 0 = 0 := by rw [nlTo_list]; rfl
    refine ⟨0, Nat.zero_le _, rfl, ?_, HR, HB⟩
    rw [h0]
    exact HK
   case round =>
    obtain ⟨i, hi, rfl, HK, HR, HB⟩ := hrel
    by_cases hlt : i < s.size
    ·have hns := nlTo_succ s hlt
     have hle := nlTo_le s i
     have hix := fun w => ix_bt s i hlt w
     have hi1 : (i : Int) < (s.size : Int) := by omega
     have hi0 : (0 : Int) ≤ (i : Int) := by omega
     have hwi : IntKind.i64.wrap ((i : Int) + 1) = (i : Int) + 1 := IntWalk.i64_in _ (by omega)
     by_cases hnl : bt s i = 10
     ·rw [if_pos hnl] at hns
      rw [hnl] at hix
      obtain ⟨q4, f4⟩ := HK.out.lies.2 4 _ rfl
      have hbl := HK.out.lies.1
      obtain ⟨N, hN⟩ : ∃ N, nlTo s i = N := ⟨_, rfl⟩
      rw [hN] at hns hle q4 HK
      have hw4 : IntKind.i64.wrap ((N : Int) + 1) = ((N + 1 : Nat) : Int) := by rw [IntWalk.i64_in _ (by omega)]; omega
      have HC4 := Chg.set wr ⟨g3, 4, none⟩ (.int .i64 ((N + 1 : Nat) : Int))
      have HK4 : Hid (Blk (wr.setCell ⟨g3, 4, none⟩ (.int .i64 ((N + 1 : Nat) : Int))) g3 48 (me7 s.size RC U.length SW (nlTo s (i + 1)) HD TL)) := by
       show Blk _ _ _ _
       rw [hns]; exact HK.out.set 4 (.int .i64 ((N + 1 : Nat) : Int))
      have HR4 := Lib.hid (HR.out.chg HC4 hgne)
      have HB4 := Lib.hid (chg_mine HB.out HC4 hg3)
      clear HC4 hns hN hnl HK HR HB
      go_wp2
      go_roundw
      case rel => exact ⟨i + 1, hlt, by go_num, HK4, HR4, HB4⟩
      case measure => simp [intOf]; omega
     ·rw [if_neg hnl] at hns
      have hns2 : nlTo s (i + 1) = nlTo s i := by omega
      rw [← hns2] at HK
      have hnl2 : ¬ ((bt s i : Nat) : Int) = 10 := by omega
      have hnl3 : (((bt s i : Nat) : Int) == 10) = false := by rw [beq_eq_false_iff_ne]; exact hnl2
      clear hns hns2 hnl
      go_wp2
      go_roundw
      case rel => exact ⟨i + 1, hlt, by go_num, HK, HR, HB⟩
      case measure => simp [intOf]; omega
    ·obtain rfl : i = s.size := by omega
     have hall : nlTo s s.size = nlF s := by unfold nlTo; rw [extract_all]
     rw [hall] at HK
     obtain ⟨N, hN⟩ : ∃ N : Int, (nlF s : Int) = N := ⟨_, rfl⟩
     have HN := Lib.hid hN
     rw [hN] at HK
     have KL := HK.out.lies
     have c0 := (KL.2 0 _ rfl).1
     have c1 := (KL.2 1 _ rfl).1
     have c2 := (KL.2 2 _ rfl).1
     have c3 := (KL.2 3 _ rfl).1
     have c4 := (KL.2 4 _ rfl).1
     have c5 := (KL.2 5 _ rfl).1
     have c6 := (KL.2 6 _ rfl).1
     have L := Lib.hid (HR.out.stored (me7 s.size RC U.length SW N HD TL) rfl).2
     have D4 := sets_chg w.heap.size (me7 s.size RC U.length SW N HD TL) 0 wr
     have HBL := Lib.hid (chg_mine HB.out D4 (Nat.le_refl _))
     obtain ⟨r0, s0⟩ := HR.out.2 0 _ rfl
     obtain ⟨r1, s1⟩ := HR.out.2 1 _ rfl
     obtain ⟨r2, s2⟩ := HR.out.2 2 _ rfl
     obtain ⟨r3, s3⟩ := HR.out.2 3 _ rfl
     obtain ⟨r4, s4⟩ := HR.out.2 4 _ rfl
     obtain ⟨r5, s5⟩ := HR.out.2 5 _ rfl
     obtain ⟨r6, s6⟩ := HR.out.2 6 _ rfl
     have hlr := HR.out.1
     have hlk := KL.1
     clear D4 KL hall hN hlt
     go_wp2
     have j0 := (L.out 0 _ rfl).1
     have j1 := (L.out 1 _ rfl).1
     have j2 := (L.out 2 _ rfl).1
     have j3 := (L.out 3 _ rfl).1
     have j4 := (L.out 4 _ rfl).1
     have j5 := (L.out 5 _ rfl).1
     have j6 := (L.out 6 _ rfl).1
     simp only [me7, World.setCells] at j0 j1 j2 j3 j4 j5 j6
     refine bodyPost_ret (v := .agg (me7 s.size RC U.length SW N HD TL).toArray) (by simp [results, Tryz.results134, go_sem, j0, j1, j2, j3, j4, j5, j6, me7]) rfl ⟨?_, HBL.out⟩
     rw [HU.out, HSW.out, HN.out]
end Go.Proofs.YtfchglcclgcgfaaGreatDoor.Ut
