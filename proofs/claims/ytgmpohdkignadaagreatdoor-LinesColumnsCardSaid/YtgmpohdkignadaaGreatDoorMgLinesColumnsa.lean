/-
  What the proof of the row LinesColumns rests on: the texts RfA Region6 Region5 RfC RfD RfE RfF. Conditions: each theorem names its own.
-/
import Derived.Test.YtgmpohdkignadaaGreatDoorMgLg
import Derived.Deep.AppendLies
import Derived.Laws.OwnMore
import Derived.Test.YtgmpohdkignadaaGreatDoorMgLb
import Derived.Test.YtgmpohdkignadaaGreatDoorMgLd
import Derived.Test.YtgmpohdkignadaaGreatDoorMgLj
/-
  bodkinref11.Lines, Count, Of, Span, Line: what they answer. No condition.
-/
namespace Go.Proofs.YtgmpohdkignadaaGreatDoor.Ut
open Go.RowKit Go.Proofs.YtgmpohdkignadaaGreatDoor.Reg
set_option linter.unusedVariables false
set_option linter.unusedSimpArgs false

theorem row_forma {w : World} {base e size n : Nat} {v : Value} {xs : List Value} (h : w.ownsRow base e size v n xs) : ∃ A c, v = .slice A n c := by
  rcases h.2 with ⟨rfl, rfl⟩ | ⟨g, cap, cur, rfl, _⟩
  · exact ⟨none, 0, rfl⟩
  · exact ⟨_, cap, rfl⟩
theorem infoSpan : (Tryz.prog.info? 41).map (fun i => (i.zero, i.size, i.bytes)) = some (some (.agg #[.int .i64 0, .int .i64 0]), 2, 16) := by kernel_rfl
theorem two_new (w : World) (x y : Value) (t : TypeId) : ∀ (j : Nat) (u : Value), [x, y][j]? = some u → (w.alloc (.cells #[x, y] t)).cell? ((⟨w.heap.size, 0, none⟩ : Addr).add j) = some u := by
  intro j u hj
  match j, hj with
  | 0, hj => simp at hj; subst hj; simp [Addr.add]
  | 1, hj => simp at hj; subst hj; simp [Addr.add]
theorem ix_bt (O : ByteArray) (j : Nat) (h : j < O.size) (w : World) : (Instr.index 9 (.string O) (.int .i64 j)).run Tryz.prog w = .ok (.int .u8 (bt O j)) w := by
  rw [run_index_string w 9 O .i64 j Tryz.underlying9, dif_pos ⟨by omega, by omega⟩, bt_in O h]
  rfl
/-- The cells of a list of spans. -/
def cellsP (l : List (Nat × Nat)) : List Value := l.flatMap fun x => [.int .i64 x.1, .int .i64 x.2]
theorem cellsP_app (l : List (Nat × Nat)) (a b : Nat) : cellsP (l ++ [(a, b)]) = cellsP l ++ [.int .i64 a, .int .i64 b] := by
  unfold cellsP; rw [List.flatMap_append]; rfl
theorem cellsP_at : ∀ (l : List (Nat × Nat)) (k : Nat) (h : k < l.length), (cellsP l)[k * 2]? = some (.int .i64 l[k].1) ∧ (cellsP l)[k * 2 + 1]? = some (.int .i64 l[k].2)
  | x :: r, 0, _ => ⟨rfl, rfl⟩
  | x :: r, k + 1, h => by
    have := cellsP_at r k (by simpa using h)
    have e : cellsP (x :: r) = .int .i64 x.1 :: .int .i64 x.2 :: cellsP r := rfl
    rw [e, show (k + 1) * 2 = k * 2 + 1 + 1 by omega]
    simpa using this
theorem grown_cella {w w' : World} {row : Option Nat} (hg : w.grownBy w' row) {p : Addr} (hp : p.block < w.heap.size) (hn : row ≠ some p.block) : w'.cell? p = w.cell? p :=
  (Chg.of_grown hg).cell hp (fun h => hn h.symm)
theorem wpList_app_span {ops : Array Oper} {rest : List Oper} {o : Oper} {a : Act} {Q : Exit → Act → World → Prop} {w : World} (hgd : o.guard = none) (s x : Operand)
    (ho : o.op = .call { callee := .builtin .append, args := #[s, x], argTypes := #[72, 72] })
    (base : Nat) (u : Value) (l : List (Nat × Nat)) (p q : Nat) (ty : TypeId) (hown : w.ownsRow base 41 2 u l.length (cellsP l)) (hs : a.eval s = u)
    (g : Nat) (hgs : g = w.heap.size) (hx : a.eval x = .slice (some ⟨g, 0, none⟩) 1 1) (hlen : l.length ≤ 4294967296) (hbase : base ≤ w.heap.size)
    (h : ∀ v' w', w'.ownsRow base 41 2 v' (l ++ [(p, q)]).length (cellsP (l ++ [(p, q)])) → (w.alloc (.cells #[.int .i64 p, .int .i64 q] ty)).grownBy w' u.ownBlock → wpList Tryz.prog ops Q rest (a.put o.dst v') w') :
    wpList Tryz.prog ops Q (o :: rest) a (w.alloc (.cells #[.int .i64 p, .int .i64 q] ty)) := by
  subst hgs
  obtain ⟨i0, hi, hz0, hz1, hz2⟩ := info_parts infoSpan
  refine wpList_append_own _ hgd s x 72 ho base 41 i0 (.agg #[.int .i64 0, .int .i64 0]) 2 16 Tryz.underlying72 hi hz0 hz1 hz2 rfl (by decide) u l.length (cellsP l) hs (hown.alloc _) ⟨w.heap.size, 0, none⟩ 1 1 [.int .i64 p, .int .i64 q] hx rfl (two_new _ _ _ _) (by intro u hu; simp at hu; rcases hu with rfl | rfl <;> rfl) (by unfold maxLen; omega) (by omega) (by simp; omega) ?_
  intro v' w' h1 h2 _
  refine h v' w' ?_ h2
  rw [cellsP_app]
  simpa using h1

/-- The spans of the first m lines. -/
def spansT (s : ByteArray) (m : Nat) : List (Nat × Nat) := (List.range m).map fun l => (beginF s (l : Nat), spanT s l)
theorem spansT_len (s : ByteArray) (m : Nat) : (spansT s m).length = m := by simp [spansT]
theorem spansT_succ (s : ByteArray) (m : Nat) : spansT s (m + 1) = spansT s m ++ [(beginF s (m : Nat), spanT s m)] := by simp [spansT, List.range_succ]
theorem spansT_at (s : ByteArray) (m k : Nat) (h : k < (spansT s m).length) : (spansT s m)[k] = (beginF s (k : Nat), spanT s k) := by simp [spansT]
/-- At a newline. -/
theorem at_lf {s : ByteArray} {i : Nat} (hi : i < s.size) (h : bt s i = 10) : nlTo s i < nlF s ∧ beginF s (nlTo s i + 1 : Nat) = i + 1 ∧ nlTo s (i + 1) = nlTo s i + 1 ∧ beginF s (nlTo s i : Nat) ≤ i ∧
    ((spanT s (nlTo s i) = i ∧ (beginF s (nlTo s i : Nat) < i → bt s ((i - 1 : Nat) : Int) ≠ 13)) ∨ (spanT s (nlTo s i) + 1 = i ∧ beginF s (nlTo s i : Nat) < i ∧ bt s ((i - 1 : Nat) : Int) = 13)) := by
  have h1 := nlTo_succ s hi
  rw [if_pos h] at h1
  have h2 := nlTo_lt s (i + 1) (by omega)
  have hlt : nlTo s i < nlF s := by omega
  have h3 := begin_of_le s (N := nlTo s i + 1) (i := i + 1) (by omega)
  have h4 := lt_begin s (N := nlTo s i + 1) (i := i) (by omega) (by omega)
  have hb : beginF s (nlTo s i + 1 : Nat) = i + 1 := by omega
  have L := line_at s (N := nlTo s i) (by omega)
  obtain ⟨a, b, c⟩ := L.next hlt
  rw [hb] at c
  refine ⟨hlt, hb, h1, begin_of_le s (Nat.le_refl _), ?_⟩
  rcases c with ⟨c1, c2, c3⟩ | ⟨c1, c2, c3⟩
  · have e : spanT s (nlTo s i) = i := by omega
    rw [e] at c3
    exact .inl ⟨e, c3⟩
  · have e : spanT s (nlTo s i) + 1 = i := by omega
    refine .inr ⟨e, by have := L.le; omega, ?_⟩
    rw [show i - 1 = spanT s (nlTo s i) by omega]; exact c1

set_option maxRecDepth 100000 in
set_option maxHeartbeats 2000000 in
theorem RefLines_any (s : ByteArray) (w : World) (hs : s.size ≤ 1073741824) :
    Calls Tryz.prog 33 #[.string s] w fun e w' => ∃ v, e = .returned v ∧ w'.ownsRow w.heap.size 41 2 v (spansT s (nlF s + 1)).length (cellsP (spansT s (nlF s + 1))) ∧ Below w.heap.size w w' := by
  go_enter Tryz.func33, Tryz.ntmps33
  go_wp2
  go_loopw [3, 4, 5] (fun u x y wr => ∃ i : Nat, i ≤ s.size ∧ y = .int .i64 i ∧ x = .int .i64 (beginF s (nlTo s i : Nat)) ∧ wr.ownsRow w.heap.size 41 2 u (spansT s (nlTo s i)).length (cellsP (spansT s (nlTo s i))) ∧ Below w.heap.size w wr) (fun _ _ y _ => s.size - (intOf y).toNat)
  case atStart => exact ⟨0, Nat.zero_le _, rfl, by rw [nlTo_zero, begin_zero]; rfl, by rw [nlTo_zero]; exact World.ownsRow_nil _ _ _ _, Below.refl _ _⟩
  case round =>
    obtain ⟨i, hi, rfl, rfl, hown, hb⟩ := hrel
    have HO := Lib.hid hown
    have HB := Lib.hid hb
    clear hown hb
    by_cases hlt : i < s.size
    · have hix := ix_bt s i hlt
      by_cases hnl : bt s i = 10
      · obtain ⟨q1, q2, q3, q4, q5⟩ := at_lf hlt hnl
        rw [hnl] at hix
        have hlen := spansT_len s (nlTo s i)
        have hnz := nlTo_le s i
        have hsucc := spansT_succ s (nlTo s i)
        have HF : Hid (∀ (u : Value) (w3 : World), w3.ownsRow w.heap.size 41 2 u (spansT s (nlTo s i) ++ [(beginF s (nlTo s i : Nat), spanT s (nlTo s i))]).length (cellsP (spansT s (nlTo s i) ++ [(beginF s (nlTo s i : Nat), spanT s (nlTo s i))])) → Below w.heap.size w w3 →
            ∃ j : Nat, j ≤ s.size ∧ Value.int .i64 ((i : Int) + 1) = .int .i64 j ∧ Value.int .i64 ((i : Int) + 1) = .int .i64 (beginF s (nlTo s j : Nat)) ∧ w3.ownsRow w.heap.size 41 2 u (spansT s (nlTo s j)).length (cellsP (spansT s (nlTo s j))) ∧ Below w.heap.size w w3) :=
          fun u w3 h1 h2 => ⟨i + 1, hlt, by go_num, by rw [q3, q2]; go_num, by rw [q3, hsucc]; exact h1, h2⟩
        clear q1 q2 q3 hsucc hnl
        generalize spansT s (nlTo s i) = l at *
        generalize beginF s (nlTo s i : Nat) = F at *
        generalize spanT s (nlTo s i) = T at *
        have hll : l.length ≤ 4294967296 := by omega
        clear hlen hnz
        rcases q5 with ⟨rfl, q6⟩ | ⟨q5, q6, q7⟩
        · rcases Nat.lt_or_ge F T with hft | hft
          · have hr := q6 hft
            have g1 : (F : Int) < (T : Int) := by omega
            obtain ⟨j, hj⟩ : ∃ j, T - 1 = j := ⟨T - 1, rfl⟩
            rw [hj] at hr
            have hjx := ix_bt s j (by omega)
            have hr2 : ¬ ((bt s j : Nat) : Int) = 13 := by omega
            have hwj : IntKind.i64.wrap ((T : Int) - 1) = (j : Int) := by rw [IntWalk.i64_in _ (by omega)]; omega
            clear hj
            go_wp2_with (at_builtin; refine wpList_app_span rfl _ _ rfl w.heap.size _ l F T _ HO.out rfl _ rfl rfl hll (by have := HB.out.size; omega) ?_; intro v2 w3 hown3 hg3; have HO3 := Lib.hid hown3; have HB3 := Lib.hid ((HB.out.alloc HB.out.size _).grown hg3 (by have := HB.out.size; simp; omega) (fun j hj => (HO.out.lt j hj).1)); clear hown3 hg3)
            go_roundw
            case rel => exact HF.out _ _ HO3.out HB3.out
            case measure => simp [intOf]; omega
          · have g1 : ¬ (F : Int) < (T : Int) := by omega
            go_wp2_with (at_builtin; refine wpList_app_span rfl _ _ rfl w.heap.size _ l F T _ HO.out rfl _ rfl rfl hll (by have := HB.out.size; omega) ?_; intro v2 w3 hown3 hg3; have HO3 := Lib.hid hown3; have HB3 := Lib.hid ((HB.out.alloc HB.out.size _).grown hg3 (by have := HB.out.size; simp; omega) (fun j hj => (HO.out.lt j hj).1)); clear hown3 hg3)
            go_roundw
            case rel => exact HF.out _ _ HO3.out HB3.out
            case measure => simp [intOf]; omega
        · have e : i - 1 = T := by omega
          rw [e] at q7
          have hjx := ix_bt s T (by omega)
          rw [q7] at hjx
          have g1 : (F : Int) < (i : Int) := by omega
          have hwj : IntKind.i64.wrap ((i : Int) - 1) = (T : Int) := by rw [IntWalk.i64_in _ (by omega)]; omega
          clear e q5 q7
          go_wp2_with (at_builtin; refine wpList_app_span rfl _ _ rfl w.heap.size _ l F T _ HO.out rfl _ rfl rfl hll (by have := HB.out.size; omega) ?_; intro v2 w3 hown3 hg3; have HO3 := Lib.hid hown3; have HB3 := Lib.hid ((HB.out.alloc HB.out.size _).grown hg3 (by have := HB.out.size; simp; omega) (fun j hj => (HO.out.lt j hj).1)); clear hown3 hg3)
          go_roundw
          case rel => exact HF.out _ _ HO3.out HB3.out
          case measure => simp [intOf]; omega
      · have hnl2 : ¬ ((bt s i : Nat) : Int) = 10 := by omega
        have h1 : nlTo s (i + 1) = nlTo s i := by have := nlTo_succ s hlt; rw [if_neg hnl] at this; omega
        have HF : Hid (∃ j : Nat, j ≤ s.size ∧ Value.int .i64 ((i : Int) + 1) = .int .i64 j ∧ Value.int .i64 (beginF s (nlTo s i : Nat)) = .int .i64 (beginF s (nlTo s j : Nat)) ∧ wr.ownsRow w.heap.size 41 2 u3 (spansT s (nlTo s j)).length (cellsP (spansT s (nlTo s j))) ∧ Below w.heap.size w wr) :=
          ⟨i + 1, hlt, by go_num, by rw [h1], by rw [h1]; exact HO.out, HB.out⟩
        clear h1 hnl
        go_wp2
        go_roundw
        case rel => exact HF.out
        case measure => simp [intOf]; omega
    · obtain rfl : i = s.size := by omega
      obtain ⟨Z, hZ⟩ : ∃ Z, nlTo s s.size = Z := ⟨_, rfl⟩
      have hZ2 : Z = nlF s := by rw [← hZ, nlTo_all]
      have hnz := nlTo_le s s.size
      rw [hZ] at HO hnz ⊢
      have hlen := spansT_len s Z
      have hll : (spansT s Z).length ≤ 4294967296 := by omega
      have hsucc := spansT_succ s Z
      have hT : spanT s Z = s.size := by unfold spanT; rw [if_neg (by omega)]
      rw [hT] at hsucc
      have HS : Hid (spansT s (nlF s + 1) = spansT s Z ++ [(beginF s (Z : Nat), s.size)]) := by show _ = _; rw [← hZ2]; exact hsucc
      clear hlt hlen hnz hsucc hT hZ hZ2
      generalize spansT s Z = l at *
      generalize beginF s (Z : Nat) = F at *
      go_wp2_with (at_builtin; refine wpList_app_span rfl _ _ rfl w.heap.size _ l F s.size _ HO.out rfl _ rfl rfl hll (by have := HB.out.size; omega) ?_; intro v2 w3 hown3 hg3; have HO3 := Lib.hid hown3; have HB3 := Lib.hid ((HB.out.alloc HB.out.size _).grown hg3 (by have := HB.out.size; simp; omega) (fun j hj => (HO.out.lt j hj).1)); clear hown3 hg3)
      go_ret
      refine ⟨_, rfl, ?_, HB3.out⟩
      rw [HS.out]
      exact HO3.out
/-- A row of spans is read. -/
theorem span_cells {w : World} {base n : Nat} {v : Value} {l : List (Nat × Nat)} (h : w.ownsRow base 41 2 v n (cellsP l)) (hn : n = l.length) (k : Nat) (hk : k < l.length) : ∃ g c, v = .slice (some ⟨g, 0, none⟩) n c ∧ w.cell? ⟨g, k * 2, none⟩ = some (.int .i64 l[k].1) ∧ w.cell? ⟨g, k * 2 + 1, none⟩ = some (.int .i64 l[k].2) := by
  subst hn
  obtain ⟨g, c, he, -, -⟩ := h.form (by omega)
  subst he
  refine ⟨g, c, rfl, ?_, ?_⟩
  · exact (h.cellAt (k * 2) (by omega)).trans (cellsP_at l k hk).1
  · exact (h.cellAt (k * 2 + 1) (by omega)).trans (cellsP_at l k hk).2

set_option maxRecDepth 100000 in
theorem RefCount_any (s : ByteArray) (w : World) (hs : s.size ≤ 1073741824) :
    Calls Tryz.prog 22 #[.string s] w fun e w' => e = .returned (.int .i64 (nlF s + 1)) ∧ Below w.heap.size w w' := by
  go_enter Tryz.func22, Tryz.ntmps22
  go_wp2_with fail
  refine (RefLines_any s w hs).mono ?_
  rintro e w1 ⟨v, rfl, hown, hb⟩
  rw [spansT_len] at hown
  obtain ⟨A, c, rfl⟩ := row_forma hown
  have HB := Lib.hid hb
  clear hown hb
  go_wp2
  go_ret
  refine ⟨?_, HB.out⟩
  go_num
set_option maxRecDepth 100000 in
theorem RefOf_any (s : ByteArray) (i : Int) (w : World) (hs : s.size ≤ 1073741824) :
    Calls Tryz.prog 23 #[.string s, .int .i64 i] w fun e w' => e = .returned (.tuple #[.int .i64 (ofA s i).1, .int .i64 (ofA s i).2]) ∧ Below w.heap.size w w' := by
  by_cases hc : 0 ≤ i ∧ i ≤ s.size
  · obtain ⟨n, rfl⟩ : ∃ n : Nat, i = n := ⟨i.toNat, by omega⟩
    have h0 : ¬ (n : Int) < 0 := by omega
    have h1 : ¬ (s.size : Int) < (n : Int) := by omega
    have h2 : (0 : Int) ≤ (n : Int) := by omega
    have h3 : (n : Int) ≤ (s.size : Int) := by omega
    have he : ofA s n = ((nlTo s n : Int), 0) := by unfold ofA; rw [if_pos hc, Int.toNat_natCast]
    have hz := piece_size s (F := 0) (T := n) (by omega)
    have hn : nlF (s.extract 0 n) = nlTo s n := rfl
    have KC := fun w => RefCount_any (s.extract 0 n) w (by omega)
    rw [hn] at KC
    have HKC := Lib.hid KC
    have hnz := nlTo_le s n
    rw [he]
    clear KC hn hz he hc
    generalize nlTo s n = N at *
    have hw : IntKind.i64.wrap (N : Int) = (N : Int) := IntWalk.i64_in _ (by omega)
    have e1 : (N : Int) + 1 - 1 = (N : Int) := by omega
    go_enter Tryz.func23, Tryz.ntmps23
    go_wp2_with fail
    refine (HKC.out _).mono ?_
    rintro e w1 ⟨rfl, hb⟩
    have HB := Lib.hid hb
    clear hb
    go_wp2
    refine bodyPost_ret (v := .tuple #[.int .i64 N, .int .i64 0]) (by simp [results, Tryz.results23, go_sem]) rfl ⟨rfl, HB.out⟩
  · have he : ofA s i = (0, 1) := by unfold ofA; rw [if_neg hc]
    rw [he]
    clear he
    rcases (by omega : i < 0 ∨ (¬ i < 0 ∧ s.size < i)) with h0 | ⟨h0, h1⟩
    · clear hc
      go_enter Tryz.func23, Tryz.ntmps23
      go_wp2
      refine bodyPost_ret (v := .tuple #[.int .i64 0, .int .i64 1]) (by simp [results, Tryz.results23, go_sem]) rfl ⟨rfl, Below.refl _ _⟩
    · clear hc
      go_enter Tryz.func23, Tryz.ntmps23
      go_wp2
      refine bodyPost_ret (v := .tuple #[.int .i64 0, .int .i64 1]) (by simp [results, Tryz.results23, go_sem]) rfl ⟨rfl, Below.refl _ _⟩
end Go.Proofs.YtgmpohdkignadaaGreatDoor.Ut
/-
  A region that draws its order and in which one operation writes into a block that the region has made. No condition.
-/
namespace Go.Proofs.YtgmpohdkignadaaGreatDoor.Reg
open Go.RowKit Go.Maps
set_option linter.unusedVariables false
set_option linter.unusedSimpArgs false

section
variable {P : Program} {ops : Array Oper} {Q : Exit → Act → World → Prop}

/-- What an operation that is ready reads. -/
theorem inv_facts {a0 : Act} {w0 : World} {V : Nat → Value → World → Prop} (ht : tidy ops = true) {listed : Array Bool} {a : Act} {w : World} {i : Nat} (hI : Inv ops V a0 w0 listed a w) (hs : listed.size = ops.size) (hi : i ∈ Region.ready .any ops listed) :
    ∀ x ∈ reads ops i, (x.2 = true → V x.1 (a.tmps.getD x.1 undef) w) ∧ (x.2 = false → a.tmps.getD x.1 undef = a0.tmps.getD x.1 undef) := by
  obtain ⟨hun, o, ho, haf⟩ := mem_ready.1 hi
  have hil : i < ops.size := (Array.getElem?_eq_some_iff.1 ho).1
  have hwl : ∀ j, waits ops i j = true → listed.getD j false = true := fun j hj => by
    unfold waits at hj
    rw [ho] at hj
    simp only [Option.map_some, Option.getD_some, Array.any_eq_true', Bool.and_eq_true, beq_iff_eq] at hj
    obtain ⟨e, he, rfl, hb⟩ := hj
    exact haf e he hb
  have hilt : i < listed.size := by omega
  have hnl : listed.getD i false = false := by
    rw [Array.getD_eq_getD_getElem?] at hun ⊢
    simp [hilt] at hun ⊢
    exact hun
  have htd : ∀ j, j < ops.size → i ≠ j → ∀ d, writes ops j d = true → writes ops i d = false ∧ (d ∈ o.looksAt ops → waits ops i j = true ∨ waits ops j i = true) := fun j hj hne d hw => by
    unfold tidy at ht
    rw [Bool.and_eq_true] at ht
    have h1 := List.all_eq_true.1 (List.all_eq_true.1 ht.2 i (List.mem_range.2 hil)) j (List.mem_range.2 hj)
    unfold writes at hw
    have hdj : (ops[j]?).bind (·.dst) = some d := by simpa using hw
    rw [hdj, ho] at h1
    have hb : (i == j) = false := by simpa using hne
    rw [hb] at h1
    simp only [Bool.false_or, Bool.and_eq_true, Bool.not_eq_true', Bool.or_eq_true] at h1
    refine ⟨h1.1, fun hd => ?_⟩
    rcases h1.2 with (h2 | h2) | h2
    · have : (o.looksAt ops).contains d = true := by simpa using hd
      rw [this] at h2; cases h2
    · exact .inl h2
    · exact .inr h2
  have hwn : ∀ j, waits ops j i = true → listed.getD j false = false := fun j hj => by
    cases hx : listed.getD j false with
    | false => rfl
    | true => have := hI.closed j i hj hx; rw [hnl] at this; cases this
  intro x hx
  unfold reads at hx
  rw [ho] at hx
  obtain ⟨d, hdm, rfl⟩ := List.mem_map.1 hx
  refine ⟨fun hf => ?_, fun hf => ?_⟩
  · simp only [List.any_eq_true, List.mem_range, Bool.and_eq_true] at hf
    obtain ⟨j, _, hw, hwt⟩ := hf
    exact hI.done j d hw (hwl j hwt)
  · refine hI.rest d (fun j hw => ?_)
    by_cases hji : j = i
    · subst hji; exact hnl
    · rcases (htd j (writes_lt hw) (Ne.symm hji) d hw).2 hdm with h1 | h1
      · exfalso
        rw [List.any_eq_false] at hf
        have := hf j (List.mem_range.2 (writes_lt hw))
        simp [hw, h1] at this
      · exact hwn j h1

/-- The step of an operation, told by what it hands on. -/
theorem inv_put {a0 : Act} {w0 : World} {V : Nat → Value → World → Prop} {E : Act → World → Prop} (ht : tidy ops = true)
    (hsz : (ops.all fun o => match o.dst with | some d => decide (d < a0.tmps.size) | none => true) = true)
    {listed : Array Bool} {a : Act} {w : World} {i : Nat} (hI : Inv ops V a0 w0 listed a w) (hs : listed.size = ops.size) (hi : i ∈ Region.ready .any ops listed)
    (h : wpOp P ops Q i (fun a' w' => ∃ v, a' = a.put ((ops[i]?).bind (·.dst)) v ∧ Below w0.heap.size w0 w' ∧ (∀ d v', V d v' w → V d v' w') ∧ (∀ d, writes ops i d = true → V d v w') ∧ E a' w') a w) :
    wpOp P ops Q i (fun a' w' => Inv ops V a0 w0 (listed.setIfInBounds i true) a' w' ∧ E a' w') a w := by
  obtain ⟨hun, o, ho, haf⟩ := mem_ready.1 hi
  have hil : i < ops.size := (Array.getElem?_eq_some_iff.1 ho).1
  have hwl : ∀ j, waits ops i j = true → listed.getD j false = true := fun j hj => by
    unfold waits at hj
    rw [ho] at hj
    simp only [Option.map_some, Option.getD_some, Array.any_eq_true', Bool.and_eq_true, beq_iff_eq] at hj
    obtain ⟨e, he, rfl, hb⟩ := hj
    exact haf e he hb
  have hilt : i < listed.size := by omega
  have hnl : listed.getD i false = false := by
    rw [Array.getD_eq_getD_getElem?] at hun ⊢
    simp [hilt] at hun ⊢
    exact hun
  have htd : ∀ j, j < ops.size → i ≠ j → ∀ d, writes ops j d = true → writes ops i d = false ∧ (d ∈ o.looksAt ops → waits ops i j = true ∨ waits ops j i = true) := fun j hj hne d hw => by
    unfold tidy at ht
    rw [Bool.and_eq_true] at ht
    have h1 := List.all_eq_true.1 (List.all_eq_true.1 ht.2 i (List.mem_range.2 hil)) j (List.mem_range.2 hj)
    unfold writes at hw
    have hdj : (ops[j]?).bind (·.dst) = some d := by simpa using hw
    rw [hdj, ho] at h1
    have hb : (i == j) = false := by simpa using hne
    rw [hb] at h1
    simp only [Bool.false_or, Bool.and_eq_true, Bool.not_eq_true', Bool.or_eq_true] at h1
    refine ⟨h1.1, fun hd => ?_⟩
    rcases h1.2 with (h2 | h2) | h2
    · have : (o.looksAt ops).contains d = true := by simpa using hd
      rw [this] at h2; cases h2
    · exact .inl h2
    · exact .inr h2
  have hwn : ∀ j, waits ops j i = true → listed.getD j false = false := fun j hj => by
    cases hx : listed.getD j false with
    | false => rfl
    | true => have := hI.closed j i hj hx; rw [hnl] at this; cases this
  refine wpOp_mono (fun a' w' hh => ?_) h
  obtain ⟨v, rfl, hb, hVV, hv, hE⟩ := hh
  have hdl : ∀ t, (ops[i]?).bind (·.dst) = some t → t < a.tmps.size := fun t hte => by
    rw [ho] at hte
    have h2 := Array.all_eq_true_iff_forall_mem.1 hsz o (Array.mem_of_getElem? ho)
    have h3 : o.dst = some t := hte
    rw [h3] at h2
    rw [hI.size]
    exact of_decide_eq_true h2
  have hli : ∀ j, j ≠ i → (listed.setIfInBounds i true).getD j false = listed.getD j false := fun j hj => getD_set_ne false (Ne.symm hj)
  have hself : (listed.setIfInBounds i true).getD i false = true := by
    rw [Array.getD_eq_getD_getElem?]; simp [hilt]
  refine ⟨⟨?_, ?_, hb, fun j d hw hl => ?_, fun j k hjk hl => ?_, fun d hd => ?_⟩, hE⟩
  · cases hx : (ops[i]?).bind (·.dst) <;> simp [Act.put, hI.size]
  · cases hx : (ops[i]?).bind (·.dst) <;> simp [Act.put, hI.defers]
  · rw [getD_put a _ v d hdl]
    by_cases hji : j = i
    · subst hji
      have : (ops[j]?).bind (·.dst) = some d := by simpa [writes] using hw
      rw [if_pos this]
      exact hv d hw
    · have hne := (htd j (writes_lt hw) (Ne.symm hji) d hw).1
      rw [if_neg (by intro e; simp [writes, e] at hne)]
      rw [hli j hji] at hl
      exact hVV _ _ (hI.done j d hw hl)
  · by_cases hki : k = i
    · subst hki; exact hself
    · rw [hli k hki]
      by_cases hji : j = i
      · subst hji; exact hwl k hjk
      · rw [hli j hji] at hl; exact hI.closed j k hjk hl
  · rw [getD_put a _ v d hdl]
    rw [if_neg]
    · refine hI.rest d (fun j hw => ?_)
      have := hd j hw
      by_cases hji : j = i
      · subst hji; rw [hself] at this; cases this
      · rwa [hli j hji] at this
    · intro e
      have := hd i (by simp [writes, e])
      rw [hself] at this; cases this

/-- What the writing operation owes. -/
def OwesW (P : Program) (ops : Array Oper) (Q : Exit → Act → World → Prop) (V : Nat → Value → World → Prop) (a0 : Act) (w0 : World) (U : Value → World → Prop) (p q : Nat) : Prop :=
  ∀ a w, Below w0.heap.size w0 w → (∀ x ∈ reads ops p, (x.2 = true → V x.1 (a.tmps.getD x.1 undef) w) ∧ (x.2 = false → a.tmps.getD x.1 undef = a0.tmps.getD x.1 undef)) → V q (a.tmps.getD q undef) w →
      wpOp P ops Q p (fun a' w' => a' = a ∧ Below w0.heap.size w0 w' ∧ (∀ d v, V d v w → V d v w') ∧ U (a.tmps.getD q undef) w') a w
/-- One operation, p, writes into the block that slot q names; all the others leave what lay as it is. -/
theorem wp_held_write {id : Nat} {a0 : Act} {w0 : World} (hm : P.follows .mixedOrders = true) (V : Nat → Value → World → Prop)
    (hV : ∀ d v w w', V d v w → Below w.heap.size w w' → V d v w') (ht : tidy ops = true) (D : List Nat) (hD : dsts ops = D) (p q m : Nat) (hps : p < ops.size) (hpd : (ops[p]?).bind (·.dst) = none)
    (hq : writes ops m q = true) (hpm : far ops 4 p m = true) (U : Value → World → Prop) (hU : ∀ v w w', U v w → Below w.heap.size w w' → U v w')
    (hsz : (ops.all fun o => match o.dst with | some d => decide (d < a0.tmps.size) | none => true) = true)
    (h : ∀ i, i < ops.size → i ≠ p → Owes P ops Q V a0 w0 i)
    (hp : OwesW P ops Q V a0 w0 U p q)
    (hd : ∀ (f : Nat → Value) w, (∀ d ∈ D, V d (f d) w) → U (f q) w → Below w0.heap.size w0 w → Q .normal (putAll a0 (D.map fun d => (d, f d))) w) :
    (Code.region id ops true).wp P Q a0 w0 := by
  have hdr : Below w0.heap.size w0 { w0 with drawn := w0.drawn + 1 } := ⟨rfl, rfl, rfl, Nat.le_refl _, fun _ _ => rfl⟩
  have hnone : ∀ j, (Array.replicate ops.size false).getD j false = false := fun j => by
    rw [Array.getD_eq_getD_getElem?]
    by_cases hj : j < ops.size <;> simp [hj]
  refine wp_inv hm (fun listed a w => Inv ops V a0 w0 listed a w ∧ (listed.getD p false = true → listed.getD m false = true ∧ U (a.tmps.getD q undef) w)) ⟨⟨rfl, rfl, hdr, fun j d _ hl => ?_, fun j k _ hl => ?_, fun d _ => rfl⟩, fun hl => ?_⟩ ?_ ?_
  · rw [hnone] at hl; cases hl
  · rw [hnone] at hl; cases hl
  · rw [hnone] at hl; cases hl
  · intro listed a w i ⟨hI, hU2⟩ hs hi
    have hfacts := inv_facts ht hI hs hi
    obtain ⟨hun, o, ho, haf⟩ := mem_ready.1 hi
    have hil : i < ops.size := (Array.getElem?_eq_some_iff.1 ho).1
    have hilt : i < listed.size := by omega
    have hnl : listed.getD i false = false := by
      rw [Array.getD_eq_getD_getElem?] at hun ⊢
      simp [hilt] at hun ⊢
      exact hun
    have hself : (listed.setIfInBounds i true).getD i false = true := by
      rw [Array.getD_eq_getD_getElem?]; simp [hilt]
    by_cases hip : i = p
    · subst hip
      have hml : listed.getD m false = true := by
        refine far_once (fun k hk => ?_) hI.closed hpm
        unfold waits at hk
        rw [ho] at hk
        simp only [Option.map_some, Option.getD_some, Array.any_eq_true', Bool.and_eq_true, beq_iff_eq] at hk
        obtain ⟨e, he, rfl, hb⟩ := hk
        exact haf e he hb
      have hmi : m ≠ i := by rintro rfl; rw [hnl] at hml; cases hml
      refine wpOp_mono (fun a' w' hh => ⟨hh.1, fun _ => ⟨?_, hh.2⟩⟩) (inv_put (E := fun a' w' => U (a'.tmps.getD q undef) w') ht hsz hI hs hi (wpOp_mono (fun a' w' hh => ?_) (hp a w hI.below hfacts (hI.done m q hq hml))))
      · rw [getD_set_ne false (fun e => hmi e.symm)]; exact hml
      · obtain ⟨rfl, h1, h2, h3⟩ := hh
        refine ⟨undef, by rw [hpd]; rfl, h1, h2, fun d hd' => by simp [writes, hpd] at hd', h3⟩
    · refine wpOp_mono (fun a' w' hh => ⟨hh.1, fun hl => ?_⟩) (inv_put (E := fun a' w' => listed.getD p false = true → U (a'.tmps.getD q undef) w') ht hsz hI hs hi (wpOp_mono (fun a' w' hh => ?_) (h i hil hip a w hI.size hI.defers hI.below hfacts)))
      · rw [getD_set_ne false hip] at hl
        have hml := (hU2 hl).1
        have hmi : m ≠ i := by rintro rfl; rw [hnl] at hml; cases hml
        exact ⟨by rw [getD_set_ne false (fun e => hmi e.symm)]; exact hml, hh.2 hl⟩
      · obtain ⟨v, rfl, h1, h2⟩ := hh
        refine ⟨v, rfl, hI.below.trans (h1.mono hI.below.size), fun d v' hv' => hV _ _ _ _ hv' h1, h2, fun hl => ?_⟩
        obtain ⟨hml, hu⟩ := hU2 hl
        have hmi : m ≠ i := by rintro rfl; rw [hnl] at hml; cases hml
        have hdl : ∀ t, (ops[i]?).bind (·.dst) = some t → t < a.tmps.size := fun t hte => by
          rw [ho] at hte
          have h2 := Array.all_eq_true_iff_forall_mem.1 hsz o (Array.mem_of_getElem? ho)
          have h3 : o.dst = some t := hte
          rw [h3] at h2
          rw [hI.size]
          exact of_decide_eq_true h2
        have hne : ¬ (ops[i]?).bind (·.dst) = some q := by
          intro e
          unfold tidy at ht
          rw [Bool.and_eq_true] at ht
          have h1 := List.all_eq_true.1 (List.all_eq_true.1 ht.2 i (List.mem_range.2 hil)) m (List.mem_range.2 (writes_lt hq))
          have hdm : (ops[m]?).bind (·.dst) = some q := by simpa [writes] using hq
          rw [hdm] at h1
          have hb : (i == m) = false := by simpa using hmi.symm
          rw [hb] at h1
          simp only [Bool.false_or, Bool.and_eq_true, Bool.not_eq_true'] at h1
          have := h1.1
          simp [writes, e] at this
        rw [getD_put a _ v q hdl, if_neg hne]
        exact hU _ _ _ hu h1
  · intro listed a w ⟨hI, hU2⟩ hs hr
    have hal := all_listed ht hr hs
    subst hD
    have e := putAll_eq a (dsts ops) a0 hI.size hI.defers (fun d hdm => by
      obtain ⟨j, hj⟩ := mem_dsts.1 hdm
      unfold writes at hj
      cases hx : ops[j]? with
      | none => rw [hx] at hj; simp at hj
      | some o =>
        rw [hx] at hj
        have h3 : o.dst = some d := by simpa using hj
        have h2 := Array.all_eq_true_iff_forall_mem.1 hsz o (Array.mem_of_getElem? hx)
        rw [h3] at h2
        exact of_decide_eq_true h2) (fun d hn => hI.rest d (fun j hw => absurd (mem_dsts.2 ⟨j, hw⟩) hn))
    rw [e]
    exact hd (fun d => a.tmps.getD d undef) w (fun d hdm => by obtain ⟨j, hj⟩ := mem_dsts.1 hdm; exact hI.done j d hj (hal j (writes_lt hj))) (hU2 (hal p hps)).2 hI.below
/-- What the writing operation owes, told by its own step. -/
theorem write_op {V : Nat → Value → World → Prop} {a0 : Act} {w0 : World} {U : Value → World → Prop} {p q : Nat} {o : Oper} {L : List (Nat × Bool)} (ho : ops[p]? = some o) (hg : o.guard = none) (hd : o.dst = none) (hL : reads ops p = L)
    (h : ∀ a w, Below w0.heap.size w0 w → Facts V a0 a w L → V q (a.tmps[q]?.getD undef) w → o.wp P a w (fun a' w' => ∃ u, a' = a.put none u ∧ Below w0.heap.size w0 w' ∧ (∀ d v, V d v w → V d v w') ∧ U (a.tmps[q]?.getD undef) w') Q) :
    OwesW P ops Q V a0 w0 U p q := by
  intro a w hb hr hq
  rw [hL] at hr
  rw [Array.getD_eq_getD_getElem?] at hq
  unfold wpOp
  rw [ho]
  simp only [Region.wanted, hg, if_true]
  refine .inl (Oper.wp_mono (fun a' w' hh => ?_) (h a w hb (facts_of hr) hq))
  obtain ⟨u, rfl, h1, h2, h3⟩ := hh
  exact ⟨rfl, h1, h2, by rw [Array.getD_eq_getD_getElem?]; exact h3⟩
end
end Go.Proofs.YtgmpohdkignadaaGreatDoor.Reg
/-
  A region that draws its order and whose last operations come one behind the other, each behind all that stand ahead of it. No condition.
-/
namespace Go.Proofs.YtgmpohdkignadaaGreatDoor.Reg
open Go.RowKit Go.Maps
set_option linter.unusedVariables false
set_option linter.unusedSimpArgs false

section
variable {P : Program} {ops : Array Oper} {Q : Exit → Act → World → Prop}

theorem list_step {i : Nat} {o : Oper} {a : Act} {w : World} (ho : ops[i]? = some o) (h : wpList P ops Q (ops.toList.drop i) a w) : wpOp P ops Q i (wpList P ops Q (ops.toList.drop (i + 1))) a w := by
  have hi : i < ops.toList.length := by have := (Array.getElem?_eq_some_iff.1 ho).1; simpa using this
  have he : ops.toList[i] = o := by
    have := (Array.getElem?_eq_some_iff.1 ho).2
    simpa using this
  rw [List.drop_eq_getElem_cons hi, he] at h
  unfold wpOp
  rw [ho]
  exact h

/-- The operations from n on are run in their order, when all slots of those ahead of them are as said. -/
theorem wp_held_tail {id : Nat} {a0 : Act} {w0 : World} (hm : P.follows .mixedOrders = true) (V : Nat → Value → World → Prop)
    (hV : ∀ d v w w', V d v w → Below w.heap.size w w' → V d v w') (ht : tidy ops = true) (fu n : Nat) (hn : n < ops.size) (D : List Nat)
    (hD1 : ((List.range n).all fun j => match (ops[j]?).bind (·.dst) with | some d => D.contains d | none => true) = true) (hD2 : (D.all fun d => (List.range n).any fun j => writes ops j d) = true)
    (hlast : ((List.range ops.size).all fun i => decide (i < n) || (List.range i).all fun j => far ops fu i j) = true)
    (hsz : (ops.all fun o => match o.dst with | some d => decide (d < a0.tmps.size) | none => true) = true)
    (h : ∀ i, i < n → Owes P ops Q V a0 w0 i)
    (hd : ∀ (f : Nat → Value) w, (∀ d ∈ D, V d (f d) w) → Below w0.heap.size w0 w → wpList P ops Q (ops.toList.drop n) (putAll a0 (D.map fun d => (d, f d))) w) :
    (Code.region id ops true).wp P Q a0 w0 := by
  have hdr : Below w0.heap.size w0 { w0 with drawn := w0.drawn + 1 } := ⟨rfl, rfl, rfl, Nat.le_refl _, fun _ _ => rfl⟩
  have hnone : ∀ j, (Array.replicate ops.size false).getD j false = false := fun j => by
    rw [Array.getD_eq_getD_getElem?]
    by_cases hj : j < ops.size <;> simp [hj]
  refine wp_inv hm (fun listed a w => (Inv ops V a0 w0 listed a w ∧ ∀ j, n ≤ j → listed.getD j false = false) ∨ ∃ k, n < k ∧ k ≤ ops.size ∧ (∀ j, j < k → listed.getD j false = true) ∧ (∀ j, k ≤ j → listed.getD j false = false) ∧ (∀ j k, waits ops j k = true → listed.getD j false = true → listed.getD k false = true) ∧ wpList P ops Q (ops.toList.drop k) a w)
    (.inl ⟨⟨rfl, rfl, hdr, fun j d _ hl => ?_, fun j k _ hl => ?_, fun d _ => rfl⟩, fun j _ => hnone j⟩) ?_ ?_
  · rw [hnone] at hl; cases hl
  · rw [hnone] at hl; cases hl
  · intro listed a w i hI hs hi
    obtain ⟨hun, o, ho, haf⟩ := mem_ready.1 hi
    have hil : i < ops.size := (Array.getElem?_eq_some_iff.1 ho).1
    have hilt : i < listed.size := by omega
    have hnl : listed.getD i false = false := by
      rw [Array.getD_eq_getD_getElem?] at hun ⊢
      simp [hilt] at hun ⊢
      exact hun
    have hwl : ∀ k, waits ops i k = true → listed.getD k false = true := fun k hk => by
      unfold waits at hk
      rw [ho] at hk
      simp only [Option.map_some, Option.getD_some, Array.any_eq_true', Bool.and_eq_true, beq_iff_eq] at hk
      obtain ⟨e, he, rfl, hb⟩ := hk
      exact haf e he hb
    have hself : (listed.setIfInBounds i true).getD i false = true := by
      rw [Array.getD_eq_getD_getElem?]; simp [hilt]
    have hkeep : ∀ j, listed.getD j false = true → (listed.setIfInBounds i true).getD j false = true := fun j hj => by
      by_cases e : j = i
      · subst e; exact hself
      · rw [getD_set_ne false (fun h => e h.symm)]; exact hj
    have hfar : ∀ j, n ≤ i → j < i → far ops fu i j = true := fun j h1 h2 => by
      have := List.all_eq_true.1 hlast i (List.mem_range.2 hil)
      rw [Bool.or_eq_true] at this
      rcases this with h | h
      · simp at h; omega
      · exact List.all_eq_true.1 h j (List.mem_range.2 h2)
    have hgo : (∀ j k, waits ops j k = true → listed.getD j false = true → listed.getD k false = true) → (∀ j, j < i → listed.getD j false = true) → (∀ j, i ≤ j → listed.getD j false = false) → n ≤ i → wpList P ops Q (ops.toList.drop i) a w →
        wpOp P ops Q i (fun a w => (Inv ops V a0 w0 (listed.setIfInBounds i true) a w ∧ ∀ j, n ≤ j → (listed.setIfInBounds i true).getD j false = false) ∨ ∃ k, n < k ∧ k ≤ ops.size ∧ (∀ j, j < k → (listed.setIfInBounds i true).getD j false = true) ∧ (∀ j, k ≤ j → (listed.setIfInBounds i true).getD j false = false) ∧ (∀ j k, waits ops j k = true → (listed.setIfInBounds i true).getD j false = true → (listed.setIfInBounds i true).getD k false = true) ∧ wpList P ops Q (ops.toList.drop k) a w) a w := by
      intro hcl h1 h2 hni hw
      refine wpOp_mono (fun a' w' hq => .inr ⟨i + 1, by omega, by omega, fun j hj => ?_, fun j hj => ?_, fun j k hjk hj => ?_, hq⟩) (list_step ho hw)
      · by_cases e : j = i
        · subst e; exact hself
        · exact hkeep j (h1 j (by omega))
      · rw [getD_set_ne false (by omega)]; exact h2 j (by omega)
      · by_cases e : j = i
        · subst e; exact hkeep k (hwl k hjk)
        · rw [getD_set_ne false (fun h => e h.symm)] at hj
          exact hkeep k (hcl j k hjk hj)
    rcases hI with ⟨hI, hunl⟩ | ⟨k, hk1, hk2, hk3, hk4, hk5, hw⟩
    · by_cases hin : i < n
      · refine wpOp_mono (fun a' w' hq => .inl ⟨hq, fun j hj => ?_⟩) (inv_step hV ht hsz hI hs hi (h i hin))
        rw [getD_set_ne false (by omega)]; exact hunl j hj
      · have hall : ∀ j, j < i → listed.getD j false = true := fun j hj => far_once hwl hI.closed (hfar j (by omega) hj)
        have hni : i = n := by
          rcases Nat.lt_or_ge n i with h3 | h3
          · have := hall n h3; rw [hunl n (Nat.le_refl _)] at this; cases this
          · omega
        subst hni
        have hdw : ∀ d, d ∈ D → ∃ j, j < i ∧ writes ops j d = true := fun d hd' => by
          have := List.all_eq_true.1 hD2 d hd'
          rw [List.any_eq_true] at this
          obtain ⟨j, hj, hw⟩ := this
          exact ⟨j, List.mem_range.1 hj, hw⟩
        have e := putAll_eq a D a0 hI.size hI.defers (fun d hdm => by
          obtain ⟨j, -, hj⟩ := hdw d hdm
          unfold writes at hj
          cases hx : ops[j]? with
          | none => rw [hx] at hj; simp at hj
          | some o =>
            rw [hx] at hj
            have h3 : o.dst = some d := by simpa using hj
            have h2 := Array.all_eq_true_iff_forall_mem.1 hsz o (Array.mem_of_getElem? hx)
            rw [h3] at h2
            exact of_decide_eq_true h2) (fun d hn => hI.rest d (fun j hw => by
              rcases Nat.lt_or_ge j i with h3 | h3
              · exfalso
                apply hn
                have := List.all_eq_true.1 hD1 j (List.mem_range.2 h3)
                unfold writes at hw
                cases hx : ops[j]? with
                | none => rw [hx] at hw; simp at hw
                | some o =>
                  rw [hx] at hw this
                  have h4 : o.dst = some d := by simpa using hw
                  simp only [Option.bind_some, h4] at this
                  simpa using this
              · exact hunl j h3))
        refine hgo hI.closed hall hunl (Nat.le_refl _) ?_
        rw [e]
        exact hd (fun d => a.tmps.getD d undef) w (fun d hdm => by obtain ⟨j, hj1, hj⟩ := hdw d hdm; exact hI.done j d hj (hall j hj1)) hI.below
    · have hik : i = k := by
        rcases Nat.lt_or_ge i k with h3 | h3
        · rw [hk3 i h3] at hnl; cases hnl
        · rcases Nat.lt_or_ge k i with h4 | h4
          · have := far_once hwl hk5 (hfar k (by omega) h4)
            rw [hk4 k (Nat.le_refl _)] at this; cases this
          · omega
      subst hik
      exact hgo hk5 hk3 hk4 (by omega) hw
  · intro listed a w hI hs hr
    have hal := all_listed ht hr hs
    rcases hI with ⟨-, h1⟩ | ⟨k, hk1, hk2, hk3, hk4, hk5, hw⟩
    · have := h1 n (Nat.le_refl _); rw [hal n hn] at this; cases this
    · have hk : k = ops.size := by
        rcases Nat.lt_or_eq_of_le hk2 with h3 | h3
        · have := hk4 k (Nat.le_refl _); rw [hal k h3] at this; cases this
        · exact h3
      rw [hk, List.drop_eq_nil_of_le (by simp)] at hw
      exact hw
end
end Go.Proofs.YtgmpohdkignadaaGreatDoor.Reg
/-
  bodkinref02.digit, Table, Within: what they answer. No condition.
-/
namespace Go.Proofs.YtgmpohdkignadaaGreatDoor.Ut
open Go.RowKit Go.Proofs.YtgmpohdkignadaaGreatDoor.Reg
set_option linter.unusedVariables false
set_option linter.unusedSimpArgs false

theorem new_cells (w : World) (ys : List Value) (t : TypeId) : ∀ (j : Nat) (u : Value), ys[j]? = some u → (w.alloc (.cells ys.toArray t)).cell? ((⟨w.heap.size, 0, none⟩ : Addr).add j) = some u := by
  intro j u hj
  have := ((Lies.new w ys t).2 j u hj).1
  rw [Addr.add]
  split
  · rename_i h; subst h; exact this
  · simpa using this
/-- One element is appended. -/
theorem wpList_app_gen {ops : Array Oper} {rest : List Oper} {o : Oper} {a : Act} {Q : Exit → Act → World → Prop} {w : World} (hgd : o.guard = none) (s x : Operand) (tS tE : TypeId)
    (ho : o.op = .call { callee := .builtin .append, args := #[s, x], argTypes := #[tS, tS] }) (z : Value) (size bytes : Nat)
    (hinfo : (Tryz.prog.info? tE).map (fun i => (i.zero, i.size, i.bytes)) = some (some z, size, bytes)) (hund : Tryz.prog.underlying tS = some (.slice tE)) (hzs : z.cells.size = size) (hsz : 0 < size) (hby : bytes ≤ 64)
    (base : Nat) (u : Value) (n : Nat) (xs ys : List Value) (ty : TypeId) (hown : w.ownsRow base tE size u n xs) (hs : a.eval s = u)
    (g : Nat) (hgs : g = w.heap.size) (hx : a.eval x = .slice (some ⟨g, 0, none⟩) 1 1) (hl : ys.length = size) (h1 : ∀ u ∈ ys, u.oneCell' = true) (hlen : n ≤ 4294967296) (hbase : base ≤ w.heap.size)
    (h : ∀ v' w', w'.ownsRow base tE size v' (n + 1) (xs ++ ys) → (w.alloc (.cells ys.toArray ty)).grownBy w' u.ownBlock → wpList Tryz.prog ops Q rest (a.put o.dst v') w') :
    wpList Tryz.prog ops Q (o :: rest) a (w.alloc (.cells ys.toArray ty)) := by
  subst hgs
  obtain ⟨i0, hi, hz0, hz1, hz2⟩ := info_parts hinfo
  refine wpList_append_own _ hgd s x tS ho base tE i0 z size bytes hund hi hz0 hz1 hz2 hzs hsz u n xs hs (hown.alloc _) ⟨w.heap.size, 0, none⟩ 1 1 ys hx (by omega) (new_cells _ _ _) h1 (by unfold maxLen; omega) (Nat.le_trans (Nat.mul_le_mul (show n + 1 ≤ 4294967297 by omega) hby) (by decide)) (by simp; omega) ?_
  intro v' w' h1 h2 _
  exact h v' w' h1 h2

theorem own_belowC {W W' : World} {base e size n : Nat} {v : Value} {xs : List Value} (h : W.ownsRow base e size v n xs) (hb : Below W.heap.size W W') : W'.ownsRow base e size v n xs := by
  refine h.kept (row := none) ⟨hb.os, hb.tape, hb.output, hb.size, fun k hk _ => hb.block k hk⟩ ?_
  cases v.ownBlock with
  | none => exact .inl rfl
  | some k => exact .inr (by simp)
theorem own_mono {W : World} {base base' e size n : Nat} {v : Value} {xs : List Value} (h : W.ownsRow base e size v n xs) (hb : base' ≤ base) : W.ownsRow base' e size v n xs :=
  ⟨h.1, h.2.imp (fun h => h) (fun ⟨g, cap, cur, a, b, r⟩ => ⟨g, cap, cur, a, Nat.le_trans hb b, r⟩)⟩
/-- One element is appended whose cells lie in block g. -/
theorem wpList_app_lies {ops : Array Oper} {rest : List Oper} {o : Oper} {a : Act} {Q : Exit → Act → World → Prop} {w : World} (hgd : o.guard = none) (s x : Operand) (tS tE : TypeId)
    (ho : o.op = .call { callee := .builtin .append, args := #[s, x], argTypes := #[tS, tS] }) (z : Value) (size bytes : Nat)
    (hinfo : (Tryz.prog.info? tE).map (fun i => (i.zero, i.size, i.bytes)) = some (some z, size, bytes)) (hund : Tryz.prog.underlying tS = some (.slice tE)) (hzs : z.cells.size = size) (hsz : 0 < size) (hby : bytes ≤ 64)
    (base : Nat) (u : Value) (n : Nat) (xs ys : List Value) (hown : w.ownsRow base tE size u n xs) (hs : a.eval s = u)
    (g : Nat) (hL : Lies w g ys) (hx : a.eval x = .slice (some ⟨g, 0, none⟩) 1 1) (hl : ys.length = size) (h1 : ∀ u ∈ ys, u.oneCell' = true) (hlen : n ≤ 4294967296) (hbase : base ≤ w.heap.size)
    (h : ∀ v' w', w'.ownsRow base tE size v' (n + 1) (xs ++ ys) → w.grownBy w' u.ownBlock → wpList Tryz.prog ops Q rest (a.put o.dst v') w') :
    wpList Tryz.prog ops Q (o :: rest) a w := by
  obtain ⟨i0, hi, hz0, hz1, hz2⟩ := info_parts hinfo
  refine wpList_append_own _ hgd s x tS ho base tE i0 z size bytes hund hi hz0 hz1 hz2 hzs hsz u n xs hs hown ⟨g, 0, none⟩ 1 1 ys hx (by omega) (fun j u hj => ?_) h1 (by unfold maxLen; omega) (Nat.le_trans (Nat.mul_le_mul (show n + 1 ≤ 4294967297 by omega) hby) (by decide)) hbase ?_
  · have := (hL.2 j u hj).1
    rw [Addr.add]
    split
    · rename_i h; subst h; exact this
    · simpa using this
  · intro v' w' h1 h2 _
    exact h v' w' h1 h2
def digitF (b : Nat) : Int := if 48 ≤ b ∧ b ≤ 57 then (b : Int) - 48 else if 65 ≤ b ∧ b ≤ 70 then (b : Int) - 65 + 10 else -1
set_option maxRecDepth 100000 in
theorem RefDigit_any (b : Nat) (hb : b < 256) (w : World) : Calls Tryz.prog 84 #[.int .u8 b] w fun e w' => e = .returned (.int .i32 (digitF b)) ∧ w' = w := by
  by_cases h1 : 48 ≤ b ∧ b ≤ 57
  · have g1 : (48 : Int) ≤ (b : Int) := by omega
    have g2 : (b : Int) ≤ 57 := by omega
    have e : digitF b = (b : Int) - 48 := by unfold digitF; rw [if_pos h1]
    rw [e]
    have hw : IntKind.u8.wrap ((b : Int) - 48) = (b : Int) - 48 := IntWalk.u8_in _ (by omega)
    have hw2 : IntKind.i32.wrap ((b : Int) - 48) = (b : Int) - 48 := IntWalk.i32_in _ (by omega)
    go_enter Tryz.func84, Tryz.ntmps84
    go_wp2
    go_ret
    exact ⟨rfl, rfl⟩
  · by_cases h2 : 65 ≤ b ∧ b ≤ 70
    · have e : digitF b = (b : Int) - 65 + 10 := by unfold digitF; rw [if_neg h1, if_pos h2]
      have g0 : (48 : Int) ≤ (b : Int) := by omega
      have g1 : ¬ (b : Int) ≤ 57 := by omega
      have g2 : (65 : Int) ≤ (b : Int) := by omega
      have g3 : (b : Int) ≤ 70 := by omega
      rw [e]
      have hw : IntKind.u8.wrap ((b : Int) - 65) = (b : Int) - 65 := IntWalk.u8_in _ (by omega)
      have hw2 : IntKind.i32.wrap ((b : Int) - 65) = (b : Int) - 65 := IntWalk.i32_in _ (by omega)
      have hw3 : IntKind.i32.wrap ((b : Int) - 65 + 10) = (b : Int) - 65 + 10 := IntWalk.i32_in _ (by omega)
      clear h1 h2 e
      go_enter Tryz.func84, Tryz.ntmps84
      go_wp2
      go_ret
      exact ⟨rfl, rfl⟩
    · have e : digitF b = -1 := by unfold digitF; rw [if_neg h1, if_neg h2]
      rw [e]
      have hc : ((48 : Int) ≤ (b : Int) ∧ ¬ (b : Int) ≤ 57) ∨ ¬ (48 : Int) ≤ (b : Int) := by omega
      have hd : ((65 : Int) ≤ (b : Int) ∧ ¬ (b : Int) ≤ 70) ∨ ¬ (65 : Int) ≤ (b : Int) := by omega
      clear h1 h2 e
      rcases hc with ⟨g0, g1⟩ | g0 <;> rcases hd with ⟨g2, g3⟩ | g2
      all_goals
        go_enter Tryz.func84, Tryz.ntmps84
        go_wp2
        go_ret
        exact ⟨rfl, rfl⟩
theorem digit_low (b : Nat) : -1 ≤ digitF b ∧ digitF b ≤ 15 := by unfold digitF; split <;> (try split) <;> omega

/-- What Table has read of s behind k bytes: the numbers, the number under way, whether one is. -/
def tblStep (d : Int) (p : List Int × Int × Bool) : List Int × Int × Bool :=
  if 0 ≤ d then (p.1, wrap32 (wrap32 (p.2.1 * 16) + d), true) else (if p.2.2 = true then p.1 ++ [p.2.1] else p.1, 0, false)
def tblD (s : ByteArray) (k : Nat) : Int := if k < s.size then digitF (bt s k) else -1
def tblS (s : ByteArray) : Nat → List Int × Int × Bool
  | 0 => ([], 0, false)
  | k + 1 => tblStep (tblD s k) (tblS s k)
theorem tblS_len (s : ByteArray) : ∀ k, (tblS s k).1.length ≤ k
  | 0 => Nat.le_refl _
  | k + 1 => by
    have := tblS_len s k
    unfold tblS tblStep
    split
    · simp only; omega
    · simp only; split
      · rw [List.length_append]; simp; omega
      · omega
def cellsI (l : List Int) : List Value := l.map fun x => .int .i32 x
/-- The pairs of a list. -/
def pairsT (l : List Int) (j : Nat) : List (Int × Int) := (List.range j).map fun k => (l.getD (2 * k) 0, l.getD (2 * k + 1) 0)
def cellsR (l : List (Int × Int)) : List Value := l.flatMap fun x => [.int .i32 x.1, .int .i32 x.2]
theorem pairsT_len (l : List Int) (j : Nat) : (pairsT l j).length = j := by simp [pairsT]
theorem pairsT_succ (l : List Int) (j : Nat) : pairsT l (j + 1) = pairsT l j ++ [(l.getD (2 * j) 0, l.getD (2 * j + 1) 0)] := by simp [pairsT, List.range_succ]
theorem cellsR_app (l : List (Int × Int)) (x : Int × Int) : cellsR (l ++ [x]) = cellsR l ++ [.int .i32 x.1, .int .i32 x.2] := by unfold cellsR; rw [List.flatMap_append]; rfl
theorem cellsR_at : ∀ (l : List (Int × Int)) (k : Nat) (h : k < l.length), (cellsR l)[k * 2]? = some (.int .i32 l[k].1) ∧ (cellsR l)[k * 2 + 1]? = some (.int .i32 l[k].2)
  | x :: r, 0, _ => ⟨rfl, rfl⟩
  | x :: r, k + 1, h => by
    have := cellsR_at r k (by simpa using h)
    have e : cellsR (x :: r) = .int .i32 x.1 :: .int .i32 x.2 :: cellsR r := rfl
    rw [e, show (k + 1) * 2 = k * 2 + 1 + 1 by omega]
    simpa using this
def tableL (s : ByteArray) : List (Int × Int) := pairsT (tblS s (s.size + 1)).1 ((tblS s (s.size + 1)).1.length / 2)
theorem infoRune : (Tryz.prog.info? 21).map (fun i => (i.zero, i.size, i.bytes)) = some (some (.int .i32 0), 1, 4) := by kernel_rfl
theorem infoRange : (Tryz.prog.info? 147).map (fun i => (i.zero, i.size, i.bytes)) = some (some (.agg #[.int .i32 0, .int .i32 0]), 2, 8) := by kernel_rfl

def VTb21 (n0 n i c g : Nat) (U : Value) (p q : Int) : Nat → Value → World → Prop := fun d x w => match d with
  | 42 => x = U
  | 43 => x = .slice (some ⟨g, 0, none⟩) n c
  | 44 => x = .int .i64 i
  | 45 => x = .pointer (some ⟨g, i, none⟩)
  | 46 => x = .int .i32 p
  | 47 => x = .slice (some ⟨g, 0, none⟩) n c
  | 48 => x = .int .i64 i
  | 49 => x = .int .i64 ((i : Int) + 1)
  | 50 => x = .pointer (some ⟨g, i + 1, none⟩)
  | 51 => x = .int .i32 q
  | 52 => x = .agg #[.int .i32 p, .int .i32 q]
  | 53 => ∃ b, x = .slice (some ⟨b, 0, none⟩) 1 1 ∧ n0 ≤ b ∧ Lies w b [.int .i32 p, .int .i32 q]
  | 54 => True
  | 8 => True
  | _ => True
theorem VTb21_mono (n0 n i c g : Nat) (U : Value) (p q : Int) : ∀ d x w w', VTb21 n0 n i c g U p q d x w → Below w.heap.size w w' → VTb21 n0 n i c g U p q d x w' := by
  intro d x w w' h hb
  unfold VTb21 at *
  split <;> first | exact h | exact trivial | skip
  obtain ⟨b, h1, h2, h3⟩ := h
  exact ⟨b, h1, h2, h3.below hb⟩
set_option maxRecDepth 100000 in
set_option maxHeartbeats 2000000 in
theorem RefTable_any (s : ByteArray) (w : World) (hs : s.size ≤ 1073741824) :
    Calls Tryz.prog 74 #[.string s] w fun e w' => ∃ v, e = .returned v ∧ w'.ownsRow w.heap.size 147 2 v (tableL s).length (cellsR (tableL s)) ∧ Below w.heap.size w w' := by
  go_enter Tryz.func74, Tryz.ntmps74
  go_wp2
  go_loopw [3, 4, 5, 6] (fun u x y z wr => ∃ k : Nat, k ≤ s.size + 1 ∧ z = .int .i64 k ∧ x = .int .i32 (tblS s k).2.1 ∧ y = .bool (tblS s k).2.2 ∧ wr.ownsRow w.heap.size 21 1 u (tblS s k).1.length (cellsI (tblS s k).1) ∧ Below w.heap.size w wr) (fun _ _ _ z _ => s.size + 1 - (intOf z).toNat)
  case atStart => exact ⟨0, Nat.zero_le _, rfl, rfl, rfl, World.ownsRow_nil _ _ _ _, Below.refl _ _⟩
  case round =>
    obtain ⟨k, hk, rfl, rfl, rfl, hown, hb⟩ := hrel
    have HO := Lib.hid hown
    have HB := Lib.hid hb
    have hll := tblS_len s k
    clear hown hb
    by_cases hlt : k < s.size + 1
    · have hst : Hid (tblS s (k + 1) = tblStep (tblD s k) (tblS s k)) := rfl
      have HF : Hid (∀ (p : List Int × Int × Bool) (u : Value) (w3 : World), tblStep (tblD s k) (tblS s k) = p → w3.ownsRow w.heap.size 21 1 u p.1.length (cellsI p.1) → Below w.heap.size w w3 →
          ∃ j : Nat, j ≤ s.size + 1 ∧ Value.int .i64 ((k : Int) + 1) = .int .i64 j ∧ Value.int .i32 p.2.1 = .int .i32 (tblS s j).2.1 ∧ Value.bool p.2.2 = .bool (tblS s j).2.2 ∧ w3.ownsRow w.heap.size 21 1 u (tblS s j).1.length (cellsI (tblS s j).1) ∧ Below w.heap.size w w3) :=
        fun p u w3 h1 h2 h3 => ⟨k + 1, hlt, by go_num, by rw [hst.out, h1], by rw [hst.out, h1], by rw [hst.out, h1]; exact h2, h3⟩
      have hd := digit_low (bt s k)
      by_cases hin : k < s.size
      · have hdd : tblD s k = digitF (bt s k) := by unfold tblD; rw [if_pos hin]
        have hix := ix_bt s k hin
        have HD := Lib.hid (fun w => RefDigit_any (bt s k) (bt_lt s hin) w)
        rw [hdd] at HF
        obtain ⟨d, hde⟩ : ∃ d, digitF (bt s k) = d := ⟨_, rfl⟩
        rw [hde] at HD HF hd
        obtain ⟨⟨l, m, f⟩, hp⟩ : ∃ p, tblS s k = p := ⟨_, rfl⟩
        rw [hp] at HO hll HF ⊢
        have hll : l.length ≤ k := hll
        clear hdd hde hp hst
        go_wp2_with fail
        refine (HD.out _).mono ?_
        rintro e w1 ⟨rfl, rfl⟩
        by_cases hd0 : 0 ≤ d
        · go_wp2
          go_roundw
          case rel => exact HF.out (l, wrap32 (wrap32 (m * 16) + d), true) _ _ (by unfold tblStep; rw [if_pos hd0]) HO.out HB.out
          case measure => simp [intOf]; omega
        · have hdn : ¬ (0 : Int) ≤ d := hd0
          cases f with
          | true =>
            go_wp2_with (at_builtin; refine wpList_app_gen rfl _ _ 141 21 rfl (.int .i32 0) 1 4 infoRune Tryz.underlying141 rfl (by decide) (by decide) w.heap.size _ l.length _ [.int .i32 m] _ HO.out rfl _ rfl rfl rfl (by intro u hu; simp at hu; subst hu; rfl) (by omega) (by have := HB.out.size; omega) ?_; intro v2 w3 hown3 hg3; have HO3 := Lib.hid hown3; have HB3 := Lib.hid ((HB.out.alloc HB.out.size _).grown hg3 (by have := HB.out.size; simp; omega) (fun j hj => (HO.out.lt j hj).1)); clear hown3 hg3)
            go_roundw
            case rel => exact HF.out (l ++ [m], 0, false) _ _ (by unfold tblStep; rw [if_neg (by omega)]; rfl) (by unfold cellsI; rw [List.map_append, List.length_append]; exact HO3.out) HB3.out
            case measure => simp [intOf]; omega
          | false =>
            go_wp2
            go_roundw
            case rel => exact HF.out (l, 0, false) _ _ (by unfold tblStep; rw [if_neg (by omega)]; rfl) HO.out HB.out
            case measure => simp [intOf]; omega
      · have hdd : tblD s k = -1 := by unfold tblD; rw [if_neg hin]
        rw [hdd] at HF
        obtain ⟨⟨l, m, f⟩, hp⟩ : ∃ p, tblS s k = p := ⟨_, rfl⟩
        rw [hp] at HO hll HF ⊢
        have hll : l.length ≤ k := hll
        clear hdd hp hst hd
        obtain rfl : k = s.size := by omega
        cases f with
        | true =>
          go_wp2_with (at_builtin; refine wpList_app_gen rfl _ _ 141 21 rfl (.int .i32 0) 1 4 infoRune Tryz.underlying141 rfl (by decide) (by decide) w.heap.size _ l.length _ [.int .i32 m] _ HO.out rfl _ rfl rfl rfl (by intro u hu; simp at hu; subst hu; rfl) (by omega) (by have := HB.out.size; omega) ?_; intro v2 w3 hown3 hg3; have HO3 := Lib.hid hown3; have HB3 := Lib.hid ((HB.out.alloc HB.out.size _).grown hg3 (by have := HB.out.size; simp; omega) (fun j hj => (HO.out.lt j hj).1)); clear hown3 hg3)
          go_roundw
          case rel => exact HF.out (l ++ [m], 0, false) _ _ (by unfold tblStep; rw [if_neg (by omega)]; rfl) (by unfold cellsI; rw [List.map_append, List.length_append]; exact HO3.out) HB3.out
          case measure => simp [intOf]
        | false =>
          go_wp2
          go_roundw
          case rel => exact HF.out (l, 0, false) _ _ (by unfold tblStep; rw [if_neg (by omega)]; rfl) HO.out HB.out
          case measure => simp [intOf]
    · obtain rfl : k = s.size + 1 := by omega
      have hTL : Hid (tableL s = pairsT (tblS s (s.size + 1)).1 ((tblS s (s.size + 1)).1.length / 2)) := rfl
      obtain ⟨⟨l, m, f⟩, hp⟩ : ∃ p, tblS s (s.size + 1) = p := ⟨_, rfl⟩
      rw [hp] at HO hll hTL ⊢
      clear hp hlt
      have hll : l.length ≤ s.size + 1 := hll
      obtain ⟨A, c, hAc⟩ := row_forma HO.out
      subst hAc
      have HR : Hid (0 < l.length → ∃ g, A = some ⟨g, 0, none⟩ ∧ RunesAt wr g l) := by
        intro h0
        obtain ⟨g, c', he, -, -⟩ := HO.out.form h0
        obtain ⟨rfl, rfl⟩ : A = some ⟨g, 0, none⟩ ∧ c = c' := by simpa using he
        have hc : ∀ i (h : i < l.length), wr.cell? ⟨g, i, none⟩ = some (.int .i32 l[i]) := fun i h => by
          rw [HO.out.cellAt i (by show i < l.length * 1; omega)]; unfold cellsI; simp [h]
        exact ⟨g, rfl, World.block_lt_of_cell? wr _ (hc 0 h0), hc⟩
      clear HO
      rename World => wo
      go_wp2
      go_loopw [8, 9] (fun u y w2 => ∃ i j : Nat, i = 2 * j ∧ j ≤ l.length / 2 ∧ y = .int .i64 i ∧ w2.ownsRow wo.heap.size 147 2 u (pairsT l j).length (cellsR (pairsT l j)) ∧ Below wo.heap.size wo w2) (fun _ y _ => l.length - (intOf y).toNat)
      case atStart => exact ⟨0, 0, rfl, Nat.zero_le _, rfl, World.ownsRow_nil _ _ _ _, Below.refl _ _⟩
      case round =>
        obtain ⟨i, j, hij, hj, rfl, hown, hb⟩ := hrel
        by_cases hlt : i + 1 < l.length
        · obtain ⟨g, rfl, hg⟩ := HR.out (by omega)
          have hlI : (i : Int) + 1 < (l.length : Int) := by omega
          have hl0 : (i : Int) < (l.length : Int) := by omega
          have hi0 : (0 : Int) ≤ (i : Int) := by omega
          have hi1 : (0 : Int) ≤ (i : Int) + 1 := by omega
          have hwj : IntKind.i64.wrap ((i : Int) + 1) = (i : Int) + 1 := IntWalk.i64_in _ (by omega)
          have hwj2 : IntKind.i64.wrap ((i : Int) + 2) = (i : Int) + 2 := IntWalk.i64_in _ (by omega)
          have hto : ((i : Int) + 1).toNat = i + 1 := by omega
          have HO := Lib.hid hown
          have HBb := Lib.hid hb
          have HG := Lib.hid (hg.below hb)
          have hpl := pairsT_len l j
          have hps : Hid (pairsT l (j + 1) = pairsT l j ++ [(l[i]'(by omega), l[i + 1]'hlt)]) := by
            show _ = _
            rw [pairsT_succ, ← hij, List.getD_eq_getElem?_getD, List.getD_eq_getElem?_getD, List.getElem?_eq_getElem (by omega), List.getElem?_eq_getElem hlt]; rfl
          obtain ⟨p, hp⟩ : ∃ p, l[i]'(by omega) = p := ⟨_, rfl⟩
          obtain ⟨q, hq⟩ : ∃ q, l[i + 1]'hlt = q := ⟨_, rfl⟩
          rw [hp, hq] at hps
          have g0 : wr.cell? ⟨g, i, none⟩ = some (.int .i32 p) := by rw [← hp]; exact HG.out.2 i (by omega)
          have g1 : wr.cell? ⟨g, i + 1, none⟩ = some (.int .i32 q) := by rw [← hq]; exact HG.out.2 (i + 1) hlt
          have hgl : g < wr.heap.size := HG.out.1
          have G0 := Lib.hid g0
          have G1 := Lib.hid g1
          have Hij := Lib.hid hij
          clear hown hb hg hp hq g0 g1 hij
          go_wp2
          refine wp_held_tail mixed (VTb21 wr.heap.size l.length i c g u8 p q) (VTb21_mono _ _ _ _ _ _ _ _) (by kernel_rfl) 8 12 (by decide) [42, 43, 44, 45, 46, 47, 48, 49, 50, 51, 52, 53] (by kernel_rfl) (by kernel_rfl) (by kernel_rfl) (by kernel_rfl) ?_ ?_
          · intro j hj
            have hj' : j < 12 := hj
            rcases (by omega : j = 0 ∨ j = 1 ∨ j = 2 ∨ j = 3 ∨ j = 4 ∨ j = 5 ∨ j = 6 ∨ j = 7 ∨ j = 8 ∨ j = 9 ∨ j = 10 ∨ j = 11) with rfl | rfl | rfl | rfl | rfl | rfl | rfl | rfl | rfl | rfl | rfl | rfl
            · -- operation 0
              (refine owes_val (L := [(8, false)]) rfl rfl rfl (by kernel_rfl) ?_; intro a' w' hb' hfacts; obtain ⟨hf8, -⟩ := hfacts; replace hf8 : a'.tmps[8]?.getD undef = u8 := hf8)
              have pA := (hb'.cell (p := ⟨g, i, none⟩) hgl).trans G0.out; have pB := (hb'.cell (p := ⟨g, i + 1, none⟩) hgl).trans G1.out
              (go_simp; first | exact ⟨_, rfl, Below.refl _ _, rfl⟩ | exact ⟨_, rfl, Below.refl _ _, trivial⟩ | exact ⟨_, rfl, (Below.refl _ _).alloc (Nat.le_refl _) _, trivial⟩ | exact ⟨_, rfl, Below.refl _ _, congrArg (Value.int _) (IntWalk.i64_in _ (by omega))⟩)
            · -- operation 1
              (refine owes_val (L := [(3, false)]) rfl rfl rfl (by kernel_rfl) ?_; intro a' w' hb' hfacts; obtain ⟨hf3, -⟩ := hfacts; replace hf3 : a'.tmps[3]?.getD undef = .slice (some ⟨g, 0, none⟩) l.length c := hf3)
              have pA := (hb'.cell (p := ⟨g, i, none⟩) hgl).trans G0.out; have pB := (hb'.cell (p := ⟨g, i + 1, none⟩) hgl).trans G1.out
              (go_simp; first | exact ⟨_, rfl, Below.refl _ _, rfl⟩ | exact ⟨_, rfl, Below.refl _ _, trivial⟩ | exact ⟨_, rfl, (Below.refl _ _).alloc (Nat.le_refl _) _, trivial⟩ | exact ⟨_, rfl, Below.refl _ _, congrArg (Value.int _) (IntWalk.i64_in _ (by omega))⟩)
            · -- operation 2
              (refine owes_val (L := [(9, false)]) rfl rfl rfl (by kernel_rfl) ?_; intro a' w' hb' hfacts; obtain ⟨hf9, -⟩ := hfacts; replace hf9 : a'.tmps[9]?.getD undef = .int .i64 i := hf9)
              have pA := (hb'.cell (p := ⟨g, i, none⟩) hgl).trans G0.out; have pB := (hb'.cell (p := ⟨g, i + 1, none⟩) hgl).trans G1.out
              (go_simp; first | exact ⟨_, rfl, Below.refl _ _, rfl⟩ | exact ⟨_, rfl, Below.refl _ _, trivial⟩ | exact ⟨_, rfl, (Below.refl _ _).alloc (Nat.le_refl _) _, trivial⟩ | exact ⟨_, rfl, Below.refl _ _, congrArg (Value.int _) (IntWalk.i64_in _ (by omega))⟩)
            · -- operation 3
              (refine owes_val (L := [(43, true), (44, true)]) rfl rfl rfl (by kernel_rfl) ?_; intro a' w' hb' hfacts; obtain ⟨hf43, hf44, -⟩ := hfacts; try simp only [VTb21] at hf43; try simp only [VTb21] at hf44)
              have pA := (hb'.cell (p := ⟨g, i, none⟩) hgl).trans G0.out; have pB := (hb'.cell (p := ⟨g, i + 1, none⟩) hgl).trans G1.out
              (go_simp; first | exact ⟨_, rfl, Below.refl _ _, rfl⟩ | exact ⟨_, rfl, Below.refl _ _, trivial⟩ | exact ⟨_, rfl, (Below.refl _ _).alloc (Nat.le_refl _) _, trivial⟩ | exact ⟨_, rfl, Below.refl _ _, congrArg (Value.int _) (IntWalk.i64_in _ (by omega))⟩)
            · -- operation 4
              (refine owes_val (L := [(45, true)]) rfl rfl rfl (by kernel_rfl) ?_; intro a' w' hb' hfacts; obtain ⟨hf45, -⟩ := hfacts; try simp only [VTb21] at hf45)
              have pA := (hb'.cell (p := ⟨g, i, none⟩) hgl).trans G0.out; have pB := (hb'.cell (p := ⟨g, i + 1, none⟩) hgl).trans G1.out
              (go_simp; first | exact ⟨_, rfl, Below.refl _ _, rfl⟩ | exact ⟨_, rfl, Below.refl _ _, trivial⟩ | exact ⟨_, rfl, (Below.refl _ _).alloc (Nat.le_refl _) _, trivial⟩ | exact ⟨_, rfl, Below.refl _ _, congrArg (Value.int _) (IntWalk.i64_in _ (by omega))⟩)
            · -- operation 5
              (refine owes_val (L := [(3, false)]) rfl rfl rfl (by kernel_rfl) ?_; intro a' w' hb' hfacts; obtain ⟨hf3, -⟩ := hfacts; replace hf3 : a'.tmps[3]?.getD undef = .slice (some ⟨g, 0, none⟩) l.length c := hf3)
              have pA := (hb'.cell (p := ⟨g, i, none⟩) hgl).trans G0.out; have pB := (hb'.cell (p := ⟨g, i + 1, none⟩) hgl).trans G1.out
              (go_simp; first | exact ⟨_, rfl, Below.refl _ _, rfl⟩ | exact ⟨_, rfl, Below.refl _ _, trivial⟩ | exact ⟨_, rfl, (Below.refl _ _).alloc (Nat.le_refl _) _, trivial⟩ | exact ⟨_, rfl, Below.refl _ _, congrArg (Value.int _) (IntWalk.i64_in _ (by omega))⟩)
            · -- operation 6
              (refine owes_val (L := [(9, false)]) rfl rfl rfl (by kernel_rfl) ?_; intro a' w' hb' hfacts; obtain ⟨hf9, -⟩ := hfacts; replace hf9 : a'.tmps[9]?.getD undef = .int .i64 i := hf9)
              have pA := (hb'.cell (p := ⟨g, i, none⟩) hgl).trans G0.out; have pB := (hb'.cell (p := ⟨g, i + 1, none⟩) hgl).trans G1.out
              (go_simp; first | exact ⟨_, rfl, Below.refl _ _, rfl⟩ | exact ⟨_, rfl, Below.refl _ _, trivial⟩ | exact ⟨_, rfl, (Below.refl _ _).alloc (Nat.le_refl _) _, trivial⟩ | exact ⟨_, rfl, Below.refl _ _, congrArg (Value.int _) (IntWalk.i64_in _ (by omega))⟩)
            · -- operation 7
              (refine owes_val (L := [(48, true)]) rfl rfl rfl (by kernel_rfl) ?_; intro a' w' hb' hfacts; obtain ⟨hf48, -⟩ := hfacts; try simp only [VTb21] at hf48)
              have pA := (hb'.cell (p := ⟨g, i, none⟩) hgl).trans G0.out; have pB := (hb'.cell (p := ⟨g, i + 1, none⟩) hgl).trans G1.out
              (go_simp; first | exact ⟨_, rfl, Below.refl _ _, rfl⟩ | exact ⟨_, rfl, Below.refl _ _, trivial⟩ | exact ⟨_, rfl, (Below.refl _ _).alloc (Nat.le_refl _) _, trivial⟩ | exact ⟨_, rfl, Below.refl _ _, congrArg (Value.int _) (IntWalk.i64_in _ (by omega))⟩)
            · -- operation 8
              (refine owes_val (L := [(47, true), (49, true)]) rfl rfl rfl (by kernel_rfl) ?_; intro a' w' hb' hfacts; obtain ⟨hf47, hf49, -⟩ := hfacts; try simp only [VTb21] at hf47; try simp only [VTb21] at hf49)
              have pA := (hb'.cell (p := ⟨g, i, none⟩) hgl).trans G0.out; have pB := (hb'.cell (p := ⟨g, i + 1, none⟩) hgl).trans G1.out
              (go_simp; first | exact ⟨_, rfl, Below.refl _ _, rfl⟩ | exact ⟨_, rfl, Below.refl _ _, trivial⟩ | exact ⟨_, rfl, (Below.refl _ _).alloc (Nat.le_refl _) _, trivial⟩ | exact ⟨_, rfl, Below.refl _ _, congrArg (Value.int _) (IntWalk.i64_in _ (by omega))⟩)
            · -- operation 9
              (refine owes_val (L := [(50, true)]) rfl rfl rfl (by kernel_rfl) ?_; intro a' w' hb' hfacts; obtain ⟨hf50, -⟩ := hfacts; try simp only [VTb21] at hf50)
              have pA := (hb'.cell (p := ⟨g, i, none⟩) hgl).trans G0.out; have pB := (hb'.cell (p := ⟨g, i + 1, none⟩) hgl).trans G1.out
              (go_simp; first | exact ⟨_, rfl, Below.refl _ _, rfl⟩ | exact ⟨_, rfl, Below.refl _ _, trivial⟩ | exact ⟨_, rfl, (Below.refl _ _).alloc (Nat.le_refl _) _, trivial⟩ | exact ⟨_, rfl, Below.refl _ _, congrArg (Value.int _) (IntWalk.i64_in _ (by omega))⟩)
            · -- operation 10
              (refine owes_val (L := [(46, true), (51, true)]) rfl rfl rfl (by kernel_rfl) ?_; intro a' w' hb' hfacts; obtain ⟨hf46, hf51, -⟩ := hfacts; try simp only [VTb21] at hf46; try simp only [VTb21] at hf51)
              have pA := (hb'.cell (p := ⟨g, i, none⟩) hgl).trans G0.out; have pB := (hb'.cell (p := ⟨g, i + 1, none⟩) hgl).trans G1.out
              (go_simp; first | exact ⟨_, rfl, Below.refl _ _, rfl⟩ | exact ⟨_, rfl, Below.refl _ _, trivial⟩ | exact ⟨_, rfl, (Below.refl _ _).alloc (Nat.le_refl _) _, trivial⟩ | exact ⟨_, rfl, Below.refl _ _, congrArg (Value.int _) (IntWalk.i64_in _ (by omega))⟩)
            · -- operation 11
              (refine owes_val (L := [(52, true)]) rfl rfl rfl (by kernel_rfl) ?_; intro a' w' hb' hfacts; obtain ⟨hf52, -⟩ := hfacts; try simp only [VTb21] at hf52)
              go_simp
              exact ⟨_, rfl, (Below.refl _ _).alloc (Nat.le_refl _) _, _, rfl, hb'.size, Lies.new _ [.int .i32 p, .int .i32 q] _⟩
          · intro f W7 hf hb7
            have e42 : f 42 = u8 := hf 42 (by decide)
            obtain ⟨b, e53, hbb, hL⟩ := hf 53 (by decide)
            have HO7 := Lib.hid (own_belowC HO.out hb7)
            have HB7 := Lib.hid (HBb.out.trans (hb7.mono HBb.out.size))
            have HL := Lib.hid hL
            have hpll : (pairsT l j).length ≤ 4294967296 := by omega
            clear hf hL hb7
            simp only [putAll, put_lit, List.map_cons, List.map_nil, List.set_cons_succ, List.set_cons_zero]
            simp only [e42, e53]
            dsimp only [List.drop]
            have hsz7 : wo.heap.size ≤ W7.heap.size := HB7.out.size
            go_wp2_with (at_builtin; refine wpList_app_lies rfl _ _ 132 147 rfl (.agg #[.int .i32 0, .int .i32 0]) 2 8 infoRange Tryz.underlying132 rfl (by decide) (by decide) wo.heap.size _ _ _ [.int .i32 p, .int .i32 q] HO7.out rfl b HL.out rfl rfl (by intro u hu; simp at hu; rcases hu with rfl | rfl <;> rfl) hpll hsz7 ?_; intro v2 w3 hown3 hg3; have HO3 := Lib.hid hown3; have HB3 := Lib.hid (HB7.out.grown hg3 hsz7 (fun j hj => (HO7.out.lt j hj).1)); clear hown3 hg3)
            go_roundw
            case rel => exact ⟨i + 2, j + 1, by have := Hij.out; omega, by have := Hij.out; omega, by go_num, by rw [hps.out, cellsR_app, List.length_append]; exact HO3.out, HB3.out⟩
            case measure => simp [intOf]; omega
        · have hje : j = l.length / 2 := by omega
          have HO := Lib.hid hown
          have HBb := Lib.hid (HB.out.trans (hb.mono HB.out.size))
          have hlI : ¬ (i : Int) + 1 < (l.length : Int) := by omega
          have hwj : IntKind.i64.wrap ((i : Int) + 1) = (i : Int) + 1 := IntWalk.i64_in _ (by omega)
          have HTl : Hid (tableL s = pairsT l j) := by show _ = _; rw [hTL.out, hje]
          have hwo : w.heap.size ≤ wo.heap.size := HB.out.size
          clear hown hb hje hij
          go_wp2
          go_ret
          exact ⟨_, rfl, by rw [HTl.out]; exact own_mono HO.out hwo, HBb.out⟩

theorem range_cells {w : World} {base n : Nat} {v : Value} {l : List (Int × Int)} (h : w.ownsRow base 147 2 v n (cellsR l)) (hn : n = l.length) (k : Nat) (hk : k < l.length) : ∃ g c, v = .slice (some ⟨g, 0, none⟩) n c ∧ w.cell? ⟨g, k * 2, none⟩ = some (.int .i32 l[k].1) ∧ w.cell? ⟨g, k * 2 + 1, none⟩ = some (.int .i32 l[k].2) := by
  subst hn
  obtain ⟨g, c, he, -, -⟩ := h.form (by omega)
  subst he
  refine ⟨g, c, rfl, ?_, ?_⟩
  · exact (h.cellAt (k * 2) (by omega)).trans (cellsR_at l k hk).1
  · exact (h.cellAt (k * 2 + 1) (by omega)).trans (cellsR_at l k hk).2
def withinL (l : List (Int × Int)) (c : Int) : Bool := l.any fun x => decide (x.1 ≤ c ∧ c ≤ x.2)
set_option maxRecDepth 100000 in
theorem RefWithin_any (base : Nat) (v : Value) (l : List (Int × Int)) (x : Int) (w : World) (hown : w.ownsRow base 147 2 v l.length (cellsR l)) (hl : l.length ≤ 4294967296) :
    Calls Tryz.prog 73 #[v, .int .i32 x] w fun e w' => e = .returned (.bool (withinL l x)) ∧ w' = w := by
  obtain ⟨A, c, rfl⟩ := row_forma hown
  have HO := Lib.hid hown
  obtain ⟨R, hR⟩ : ∃ R, withinL l x = R := ⟨_, rfl⟩
  have HR := Lib.hid hR
  rw [hR]
  clear hown hR
  go_enter Tryz.func73, Tryz.ntmps73
  go_wp2
  go_loopw [5] (fun y wr => ∃ k : Nat, k ≤ l.length ∧ y = .int .i64 k ∧ Hid (withinL (l.drop k) x = R) ∧ wr = w) (fun y _ => l.length - (intOf y).toNat)
  case atStart => exact ⟨0, Nat.zero_le _, rfl, HR.out, rfl⟩
  case round =>
    obtain ⟨k, hk, rfl, HA, rfl⟩ := hrel
    by_cases hlt : k < l.length
    · obtain ⟨g, c', he, q0, q1⟩ := range_cells HO.out rfl k hlt
      obtain ⟨rfl, rfl⟩ : A = some ⟨g, 0, none⟩ ∧ c = c' := by simpa using he
      have hst : withinL (l.drop k) x = (decide (l[k].1 ≤ x ∧ x ≤ l[k].2) || withinL (l.drop (k + 1)) x) := by
        rw [List.drop_eq_getElem_cons hlt]; rfl
      rw [HA.out] at hst
      have hk0 : (0 : Int) ≤ (k : Int) := by omega
      have hkl : (k : Int) < (l.length : Int) := by omega
      obtain ⟨⟨p, q⟩, hp⟩ : ∃ p, l[k] = p := ⟨_, rfl⟩
      rw [hp] at q0 q1 hst
      have HSt := Lib.hid hst
      clear he hst hp HA
      by_cases h1 : p ≤ x
      · by_cases h2 : x ≤ q
        · have hRt : Hid (R = true) := by show _ = _; rw [HSt.out]; simp [h1, h2]
          clear HSt
          go_wp2
          go_ret
          exact ⟨by rw [hRt.out]; rfl, rfl⟩
        · have hRt : Hid (withinL (l.drop (k + 1)) x = R) := by show _ = _; rw [HSt.out]; simp [h2]
          clear HSt
          go_wp2
          go_roundw
          case rel => exact ⟨k + 1, by omega, by go_num, hRt, trivial⟩
          case measure => simp [intOf]; omega
      · have hRt : Hid (withinL (l.drop (k + 1)) x = R) := by show _ = _; rw [HSt.out]; simp [h1]
        clear HSt
        go_wp2
        go_roundw
        case rel => exact ⟨k + 1, by omega, by go_num, hRt, trivial⟩
        case measure => simp [intOf]; omega
    · have hRf : Hid (R = false) := by
        show _ = _
        rw [← HA.out, List.drop_eq_nil_of_le (by omega)]; rfl
      have hkl : ¬ (k : Int) < (l.length : Int) := by omega
      clear HA
      go_wp2
      go_ret
      exact ⟨by rw [hRf.out]; rfl, rfl⟩
end Go.Proofs.YtgmpohdkignadaaGreatDoor.Ut
/-
  bodkinref02.Class, Cells and bodkinref03.joined: what they answer. No condition.
-/
namespace Go.Proofs.YtgmpohdkignadaaGreatDoor.Ut
open Go.RowKit Go.Proofs.YtgmpohdkignadaaGreatDoor.Reg
set_option linter.unusedVariables false
set_option linter.unusedSimpArgs false

/-- The two tables as the reference has them, in bytes. -/
def marksB : ByteArray := ⟨#[51, 48, 48, 32, 51, 54, 70, 44, 32, 52, 56, 51, 32, 52, 56, 57, 44, 32, 53, 57, 49, 32, 53, 66, 68, 44, 32, 53, 66, 70, 32, 53, 66, 70, 44, 32, 53, 67, 49, 32, 53, 67, 50, 44, 32, 54, 49, 48, 32, 54, 49, 65, 44, 32, 54, 52, 66, 32, 54, 53, 70, 44, 32, 54, 55, 48, 32, 54, 55, 48, 44, 32, 54, 68, 54, 32, 54, 68, 67, 44, 32, 57, 48, 48, 32, 57, 48, 50, 44, 32, 57, 51, 67, 32, 57, 51, 67, 44, 32, 57, 52, 68, 32, 57, 52, 68, 44, 32, 69, 51, 49, 32, 69, 51, 49, 44, 32, 69, 51, 52, 32, 69, 51, 65, 44, 32, 69, 52, 55, 32, 69, 52, 69, 44, 32, 49, 51, 53, 68, 32, 49, 51, 53, 70, 44, 32, 49, 65, 66, 48, 32, 49, 65, 70, 70, 44, 32, 49, 68, 67, 48, 32, 49, 68, 70, 70, 44, 32, 50, 48, 48, 67, 32, 50, 48, 48, 68, 44, 32, 50, 48, 68, 48, 32, 50, 48, 70, 70, 44, 32, 51, 48, 50, 65, 32, 51, 48, 50, 70, 44, 32, 51, 48, 57, 57, 32, 51, 48, 57, 65, 44, 32, 70, 69, 48, 48, 32, 70, 69, 48, 70, 44, 32, 70, 69, 50, 48, 32, 70, 69, 50, 70, 44, 32, 49, 70, 51, 70, 66, 32, 49, 70, 51, 70, 70, 44, 32, 69, 48, 49, 48, 48, 32, 69, 48, 49, 69, 70]⟩
def widesB : ByteArray := ⟨#[49, 49, 48, 48, 32, 49, 49, 53, 70, 44, 32, 50, 51, 49, 65, 32, 50, 51, 49, 66, 44, 32, 50, 51, 50, 57, 32, 50, 51, 50, 65, 44, 32, 50, 51, 69, 57, 32, 50, 51, 69, 67, 44, 32, 50, 53, 70, 68, 32, 50, 53, 70, 69, 44, 32, 50, 54, 49, 52, 32, 50, 54, 49, 53, 44, 32, 50, 54, 52, 56, 32, 50, 54, 53, 51, 44, 32, 50, 54, 65, 65, 32, 50, 54, 65, 66, 44, 32, 50, 69, 56, 48, 32, 51, 48, 50, 57, 44, 32, 51, 48, 51, 48, 32, 51, 48, 51, 69, 44, 32, 51, 48, 52, 49, 32, 51, 48, 57, 56, 44, 32, 51, 48, 57, 66, 32, 52, 68, 66, 70, 44, 32, 52, 69, 48, 48, 32, 65, 52, 67, 70, 44, 32, 65, 57, 54, 48, 32, 65, 57, 55, 70, 44, 32, 65, 67, 48, 48, 32, 68, 55, 65, 51, 44, 32, 70, 57, 48, 48, 32, 70, 65, 70, 70, 44, 32, 70, 69, 51, 48, 32, 70, 69, 54, 70, 44, 32, 70, 70, 48, 49, 32, 70, 70, 54, 48, 44, 32, 70, 70, 69, 48, 32, 70, 70, 69, 54, 44, 32, 49, 54, 70, 69, 48, 32, 49, 56, 65, 70, 70, 44, 32, 49, 66, 48, 48, 48, 32, 49, 66, 50, 70, 70, 44, 32, 49, 70, 51, 48, 48, 32, 49, 70, 51, 70, 65, 44, 32, 49, 70, 52, 48, 48, 32, 49, 70, 54, 52, 70, 44, 32, 49, 70, 54, 56, 48, 32, 49, 70, 54, 70, 70, 44, 32, 49, 70, 57, 48, 48, 32, 49, 70, 57, 70, 70, 44, 32, 50, 48, 48, 48, 48, 32, 50, 70, 70, 70, 68, 44, 32, 51, 48, 48, 48, 48, 32, 51, 70, 70, 70, 68]⟩
set_option maxRecDepth 100000 in
theorem marksB_tbl : (tblS marksB (marksB.size + 1)).1 = marksT := by decide +kernel
set_option maxRecDepth 100000 in
theorem widesB_tbl : (tblS widesB (widesB.size + 1)).1 = widesT := by decide +kernel
theorem within_inside (t : List Int) (c : Int) : withinL (pairsT t (t.length / 2)) c = inside t c := by
  unfold withinL inside pairsT
  rw [List.any_map]
  refine congrArg (fun f => List.any (List.range (t.length / 2)) f) (funext fun k => ?_)
  simp only [Function.comp, List.getD_eq_getElem?_getD]
theorem within_marks (c : Int) : withinL (tableL marksB) c = inside marksT c := by unfold tableL; rw [marksB_tbl]; exact within_inside _ _
theorem within_wides (c : Int) : withinL (tableL widesB) c = inside widesT c := by unfold tableL; rw [widesB_tbl]; exact within_inside _ _
theorem low_out (t : List Int) (h : ((List.range (t.length / 2)).all fun k => decide (768 ≤ (t[2 * k]?).getD 0)) = true) {c : Int} (hc : c < 768) : inside t c = false := by
  unfold inside
  rw [List.any_eq_false]
  intro k hk
  have := List.all_eq_true.1 h k hk
  simp only [decide_eq_true_eq] at this ⊢
  omega
theorem low_marks {c : Int} (hc : c < 768) : inside marksT c = false := low_out _ (by decide +kernel) hc
theorem low_wides {c : Int} (hc : c < 768) : inside widesT c = false := low_out _ (by decide +kernel) hc
theorem marks_len : (tableL marksB).length ≤ 4294967296 := by unfold tableL; rw [pairsT_len, marksB_tbl]; decide
theorem wides_len : (tableL widesB).length ≤ 4294967296 := by unfold tableL; rw [pairsT_len, widesB_tbl]; decide

set_option maxRecDepth 100000 in
set_option maxHeartbeats 2000000 in
theorem RefClass_any (c : Int) (w : World) : Calls Tryz.prog 58 #[.int .i32 c] w fun e w' => e = .returned (.int .i64 (classF c)) ∧ Below w.heap.size w w' := by
  obtain ⟨R, hR⟩ : ∃ R, classF c = R := ⟨_, rfl⟩
  have HR := Lib.hid hR
  rw [hR]
  clear hR
  by_cases h1 : c < 0 ∨ 1114111 < c ∨ (55296 ≤ c ∧ c ≤ 57343)
  · have hr : R = 5 := by rw [← HR.out]; unfold classF; rw [if_pos h1]
    subst hr
    rcases (by omega : c < 0 ∨ (¬ c < 0 ∧ 1114111 < c) ∨ (¬ c < 0 ∧ ¬ 1114111 < c ∧ 55296 ≤ c ∧ c ≤ 57343)) with h | ⟨h, h'⟩ | ⟨h, h', h2, h3⟩
    all_goals
      clear h1
      go_enter Tryz.func58, Tryz.ntmps58
      go_wp2
      go_ret
      exact ⟨rfl, Below.refl _ _⟩
  · have a1 : ¬ c < 0 := by omega
    have a2 : ¬ 1114111 < c := by omega
    have hsur : (55296 ≤ c ∧ ¬ c ≤ 57343) ∨ ¬ 55296 ≤ c := by omega
    by_cases h2 : c = 10
    · have hr : R = 1 := by rw [← HR.out]; unfold classF; rw [if_neg h1, if_pos h2]
      subst hr
      subst h2
      clear HR h1 a1 a2 hsur
      go_enter Tryz.func58, Tryz.ntmps58
      go_wp2
      go_ret
      exact ⟨rfl, Below.refl _ _⟩
    · have hq : (c == 10) = false := by simpa using h2
      by_cases h3 : c < 32 ∨ (127 ≤ c ∧ c ≤ 159)
      · have hr : R = 2 := by rw [← HR.out]; unfold classF; rw [if_neg h1, if_neg h2, if_pos h3]
        subst hr
        clear HR h1 hsur
        have b0 : ¬ 55296 ≤ c := by omega
        rcases (by omega : c ≤ 31 ∨ (¬ c ≤ 31 ∧ 127 ≤ c ∧ c ≤ 159)) with h | ⟨b1, h, h'⟩
        all_goals
          clear h3 h2
          go_enter Tryz.func58, Tryz.ntmps58
          go_wp2
          go_ret
          exact ⟨rfl, Below.refl _ _⟩
      · have b1 : ¬ c ≤ 31 := by omega
        have hr : R = if inside marksT c = true then 3 else if inside widesT c = true then 4 else 0 := by rw [← HR.out]; unfold classF; rw [if_neg h1, if_neg h2, if_neg h3]
        have hcon : (127 ≤ c ∧ ¬ c ≤ 159) ∨ ¬ 127 ≤ c := by omega
        by_cases h7 : c < 768
        · have hr0 : R = 0 := by rw [hr, low_marks h7, low_wides h7]; rfl
          subst hr0
          have b2 : ¬ 55296 ≤ c := by omega
          clear HR h1 h3 h2 hr hsur
          rcases hcon with ⟨d1, d2⟩ | d1
          all_goals
            go_enter Tryz.func58, Tryz.ntmps58
            go_wp2
            go_ret
            exact ⟨rfl, Below.refl _ _⟩
        · have HRR := Lib.hid hr
          have d1 : 127 ≤ c := by omega
          have d2 : ¬ c ≤ 159 := by omega
          have HM := Lib.hid (fun w => RefTable_any marksB w (by decide))
          have HW := Lib.hid (fun w => RefTable_any widesB w (by decide))
          clear HR h1 h3 h2 hr hcon
          rcases hsur with ⟨s1, s2⟩ | s1
          all_goals
            go_enter Tryz.func58, Tryz.ntmps58
            go_wp2_with fail
            refine (HM.out w).mono ?_
            rintro e w1 ⟨v1, rfl, hown, hb⟩
            have HO := Lib.hid hown
            have HB := Lib.hid hb
            clear hown hb
            go_wp2_with fail
            refine (RefWithin_any _ v1 (tableL marksB) c w1 HO.out marks_len).mono ?_
            rintro e w2 ⟨rfl, rfl⟩
            rw [within_marks]
            cases hm : inside marksT c with
            | true =>
              have HRes : Hid (R = 3) := by show _ = _; rw [HRR.out, hm]; rfl
              clear HRR hm
              go_wp2
              go_ret
              exact ⟨by rw [HRes.out]; rfl, HB.out⟩
            | false =>
              have HRes : Hid (R = if inside widesT c = true then 4 else 0) := by show _ = _; rw [HRR.out, hm]; rfl
              clear HRR hm
              go_wp2_with fail
              refine (HW.out _).mono ?_
              rintro e w3 ⟨v3, rfl, hown3, hb3⟩
              have HO3 := Lib.hid hown3
              have HB3 := Lib.hid (HB.out.trans (hb3.mono HB.out.size))
              clear hown3 hb3 HB
              go_wp2_with fail
              refine (RefWithin_any _ v3 (tableL widesB) c w3 HO3.out wides_len).mono ?_
              rintro e w4 ⟨rfl, rfl⟩
              rw [within_wides]
              cases hm2 : inside widesT c with
              | true =>
                have HRes2 : Hid (R = 4) := by show _ = _; rw [HRes.out, hm2]; rfl
                clear HRes hm2
                go_wp2
                go_ret
                exact ⟨by rw [HRes2.out]; rfl, HB3.out⟩
              | false =>
                have HRes2 : Hid (R = 0) := by show _ = _; rw [HRes.out, hm2]; rfl
                clear HRes hm2
                go_wp2
                go_ret
                exact ⟨by rw [HRes2.out]; rfl, HB3.out⟩

set_option maxRecDepth 100000 in
theorem RefCells2_any (c : Int) (w : World) : Calls Tryz.prog 59 #[.int .i32 c] w fun e w' => e = .returned (.int .i64 (cellsF c)) ∧ Below w.heap.size w w' := by
  have HC := Lib.hid (RefClass_any c w)
  obtain ⟨R, hR⟩ : ∃ R, classF c = R := ⟨_, rfl⟩
  have he : cellsF c = if R = 1 then 0 else if R = 4 then 2 else if R = 2 ∧ c ≤ 127 then 2 else 1 := by unfold cellsF; rw [hR]
  rw [he]
  rw [hR] at HC
  clear hR he
  rcases (by omega : R = 1 ∨ R = 4 ∨ (R = 2 ∧ c ≤ 127) ∨ (R = 2 ∧ ¬ c ≤ 127) ∨ (¬ R = 1 ∧ ¬ R = 4 ∧ ¬ R = 2)) with rfl | rfl | ⟨rfl, h⟩ | ⟨rfl, h⟩ | ⟨h1, h2, h3⟩
  · rw [if_pos rfl]
    go_enter Tryz.func59, Tryz.ntmps59
    go_wp2_with fail
    refine HC.out.mono ?_
    rintro e w1 ⟨rfl, hb⟩
    have HB := Lib.hid hb
    clear hb
    go_wp2
    go_ret
    exact ⟨rfl, HB.out⟩
  · rw [if_neg (by decide), if_pos rfl]
    go_enter Tryz.func59, Tryz.ntmps59
    go_wp2_with fail
    refine HC.out.mono ?_
    rintro e w1 ⟨rfl, hb⟩
    have HB := Lib.hid hb
    clear hb
    go_wp2
    go_ret
    exact ⟨rfl, HB.out⟩
  · rw [if_neg (by decide), if_neg (by decide), if_pos ⟨rfl, h⟩]
    go_enter Tryz.func59, Tryz.ntmps59
    go_wp2_with fail
    refine HC.out.mono ?_
    rintro e w1 ⟨rfl, hb⟩
    have HB := Lib.hid hb
    clear hb
    go_wp2
    go_ret
    exact ⟨rfl, HB.out⟩
  · rw [if_neg (by decide), if_neg (by decide), if_neg (fun h' => h h'.2)]
    go_enter Tryz.func59, Tryz.ntmps59
    go_wp2_with fail
    refine HC.out.mono ?_
    rintro e w1 ⟨rfl, hb⟩
    have HB := Lib.hid hb
    clear hb
    go_wp2
    go_ret
    exact ⟨rfl, HB.out⟩
  · rw [if_neg h1, if_neg h2, if_neg (fun h' => h3 h'.1)]
    have g1 : (R == 1) = false := by simpa using h1
    have g2 : (R == 4) = false := by simpa using h2
    have g3 : (R == 2) = false := by simpa using h3
    go_enter Tryz.func59, Tryz.ntmps59
    go_wp2_with fail
    refine HC.out.mono ?_
    rintro e w1 ⟨rfl, hb⟩
    have HB := Lib.hid hb
    clear hb
    go_wp2
    go_ret
    exact ⟨rfl, HB.out⟩
end Go.Proofs.YtgmpohdkignadaaGreatDoor.Ut
/-
  bodkinref03.joined; bodkinref01.lead, size, scalar, begins: what they answer. No condition.
-/
namespace Go.Proofs.YtgmpohdkignadaaGreatDoor.Ut
open Go.RowKit Go.Proofs.YtgmpohdkignadaaGreatDoor.Reg
set_option linter.unusedVariables false
set_option linter.unusedSimpArgs false

set_option maxRecDepth 100000 in
set_option maxHeartbeats 1000000 in
theorem RefJoined_any (u v a b : Int) (w : World) : Calls Tryz.prog 57 #[.agg #[.int .i32 u, .int .i64 a], .agg #[.int .i32 v, .int .i64 b]] w fun e w' => e = .returned (.bool (gluedF u v)) ∧ Below w.heap.size w w' := by
  obtain ⟨W0, hW0, A0, A1, b0, hsz⟩ := boxesL2 w [.int .i32 u, .int .i64 a] [.int .i32 v, .int .i64 b] 111 111
  have HE := Lib.hid hW0
  have HA := Lib.hid A0
  have HC := Lib.hid A1
  have HB := Lib.hid b0
  have HR := Lib.hid (fun x w => RefClass_any x w)
  obtain ⟨G, hG⟩ : ∃ G, gluedF u v = G := ⟨_, rfl⟩
  have HG := Lib.hid hG
  rw [hG]
  have c0 := (A0.2 0 _ rfl).1
  have c1 := (A1.2 0 _ rfl).1
  clear hW0 A0 A1 b0 hsz hG
  by_cases h1 : u = 13 ∧ v = 10
  · obtain ⟨rfl, rfl⟩ := h1
    have hg : G = true := by rw [← HG.out]; simp [gluedF]
    subst hg
    go_enter Tryz.func57, Tryz.ntmps57
    go_wp2
    rw [HE.out]
    go_wp2
    go_ret
    exact ⟨rfl, HB.out⟩
  · have hg : Hid (G = (decide (classF v = 3) && decide (classF u ≠ 1) && decide (classF u ≠ 2))) := by
      show _ = _
      rw [← HG.out]; unfold gluedF
      rw [Bool.or_eq_right_iff_imp]
      intro h; simp at h; exact absurd h h1
    have hc : (u = 13 ∧ (v == 10) = false) ∨ (u == 13) = false := by
      by_cases e : u = 13
      · exact .inl ⟨e, by simpa using fun h => h1 ⟨e, h⟩⟩
      · exact .inr (by simpa using e)
    clear HG h1
    rcases hc with ⟨rfl, hv⟩ | hu
    all_goals
      go_enter Tryz.func57, Tryz.ntmps57
      go_wp2_with fail
      rw [HE.out]
      refine (HR.out _ W0).mono ?_
      rintro e w1 ⟨rfl, hb⟩
      have HC := Lib.hid (HC.out.below hb)
      have HB := Lib.hid (HB.out.trans (hb.mono HB.out.size))
      clear hb
      clear c1
      have c1 := (HC.out.2 0 _ rfl).1
      go_wp2_with fail
      refine (HR.out _ w1).mono ?_
      rintro e w2 ⟨rfl, hb⟩
      have HB := Lib.hid (HB.out.trans (hb.mono HB.out.size))
      clear hb
      clear c0 c1 HR HA HC HE
      generalize classF v = kv at *
      first | generalize classF u = ku at * | generalize classF 13 = ku at *
      rcases (by omega : ¬ kv = 3 ∨ (kv = 3 ∧ ku = 1) ∨ (kv = 3 ∧ ku = 2) ∨ (kv = 3 ∧ ¬ ku = 1 ∧ ¬ ku = 2)) with h | ⟨rfl, rfl⟩ | ⟨rfl, rfl⟩ | ⟨rfl, h2, h3⟩
      · have g1 : (kv == 3) = false := by simpa using h
        have hgf : Hid (G = false) := by show _ = _; rw [hg.out]; simp [h]
        clear hg h
        go_wp2
        go_ret
        exact ⟨by rw [hgf.out]; rfl, HB.out⟩
      · have hgf : Hid (G = false) := by show _ = _; rw [hg.out]; rfl
        clear hg
        go_wp2
        go_ret
        exact ⟨by rw [hgf.out]; rfl, HB.out⟩
      · have hgf : Hid (G = false) := by show _ = _; rw [hg.out]; rfl
        clear hg
        go_wp2
        go_ret
        exact ⟨by rw [hgf.out]; rfl, HB.out⟩
      · have g2 : (ku != 1) = true := by simpa using h2
        have g3 : (ku != 2) = true := by simpa using h3
        have hgf : Hid (G = true) := by show _ = _; rw [hg.out]; simp [h2, h3]
        clear hg h2 h3
        go_wp2
        go_ret
        exact ⟨by rw [hgf.out]; rfl, HB.out⟩

/-- lead: the number in a first byte, and how many bytes follow it. -/
def leadF (b : Nat) : Int × Int := if b < 128 then (b, 0) else if 192 ≤ b ∧ b < 224 then ((b : Int) - 192, 1) else if 224 ≤ b ∧ b < 240 then ((b : Int) - 224, 2) else if 240 ≤ b ∧ b < 248 then ((b : Int) - 240, 3) else (0, -1)
set_option maxRecDepth 100000 in
set_option maxHeartbeats 1000000 in
theorem RefLead_any (b : Nat) (hb : b < 256) (w : World) : Calls Tryz.prog 82 #[.int .u8 b] w fun e w' => e = .returned (.tuple #[.int .i32 (leadF b).1, .int .i64 (leadF b).2]) ∧ w' = w := by
  have w0 : IntKind.i32.wrap (b : Int) = (b : Int) := IntWalk.i32_in _ (by omega)
  have w1 : IntKind.i32.wrap ((b : Int) - 192) = (b : Int) - 192 := IntWalk.i32_in _ (by omega)
  have w2 : IntKind.i32.wrap ((b : Int) - 224) = (b : Int) - 224 := IntWalk.i32_in _ (by omega)
  have w3 : IntKind.i32.wrap ((b : Int) - 240) = (b : Int) - 240 := IntWalk.i32_in _ (by omega)
  rcases (by omega : b < 128 ∨ (128 ≤ b ∧ b < 192) ∨ (192 ≤ b ∧ b < 224) ∨ (224 ≤ b ∧ b < 240) ∨ (240 ≤ b ∧ b < 248) ∨ 248 ≤ b) with h | ⟨h1, h2⟩ | ⟨h1, h2⟩ | ⟨h1, h2⟩ | ⟨h1, h2⟩ | h
  · have he : leadF b = ((b : Int), 0) := by unfold leadF; rw [if_pos h]
    have g1 : (b : Int) < 128 := by omega
    rw [he]
    clear he h
    go_enter Tryz.func82, Tryz.ntmps82
    go_wp2
    refine bodyPost_ret (v := .tuple #[.int .i32 b, .int .i64 0]) (by simp [results, Tryz.results82, go_sem]) rfl ⟨rfl, rfl⟩
  · have he : leadF b = (0, -1) := by unfold leadF; rw [if_neg (by omega), if_neg (by omega), if_neg (by omega), if_neg (by omega)]
    have g1 : ¬ (b : Int) < 128 := by omega
    have g2 : ¬ (192 : Int) ≤ (b : Int) := by omega
    have g3 : ¬ (224 : Int) ≤ (b : Int) := by omega
    have g4 : ¬ (240 : Int) ≤ (b : Int) := by omega
    rw [he]
    clear he h1 h2
    go_enter Tryz.func82, Tryz.ntmps82
    go_wp2
    refine bodyPost_ret (v := .tuple #[.int .i32 0, .int .i64 (-1)]) (by simp [results, Tryz.results82, go_sem]) rfl ⟨rfl, rfl⟩
  · have he : leadF b = ((b : Int) - 192, 1) := by unfold leadF; rw [if_neg (by omega), if_pos ⟨h1, h2⟩]
    have g1 : ¬ (b : Int) < 128 := by omega
    have g2 : (192 : Int) ≤ (b : Int) := by omega
    have g3 : (b : Int) < 224 := by omega
    rw [he]
    clear he h1 h2
    go_enter Tryz.func82, Tryz.ntmps82
    go_wp2
    refine bodyPost_ret (v := .tuple #[.int .i32 ((b : Int) - 192), .int .i64 1]) (by simp [results, Tryz.results82, go_sem]) rfl ⟨rfl, rfl⟩
  · have he : leadF b = ((b : Int) - 224, 2) := by unfold leadF; rw [if_neg (by omega), if_neg (by omega), if_pos ⟨h1, h2⟩]
    have g1 : ¬ (b : Int) < 128 := by omega
    have g2 : (192 : Int) ≤ (b : Int) := by omega
    have g3 : ¬ (b : Int) < 224 := by omega
    have g4 : (224 : Int) ≤ (b : Int) := by omega
    have g5 : (b : Int) < 240 := by omega
    rw [he]
    clear he h1 h2
    go_enter Tryz.func82, Tryz.ntmps82
    go_wp2
    refine bodyPost_ret (v := .tuple #[.int .i32 ((b : Int) - 224), .int .i64 2]) (by simp [results, Tryz.results82, go_sem]) rfl ⟨rfl, rfl⟩
  · have he : leadF b = ((b : Int) - 240, 3) := by unfold leadF; rw [if_neg (by omega), if_neg (by omega), if_neg (by omega), if_pos ⟨h1, h2⟩]
    have g1 : ¬ (b : Int) < 128 := by omega
    have g2 : (192 : Int) ≤ (b : Int) := by omega
    have g3 : ¬ (b : Int) < 224 := by omega
    have g4 : (224 : Int) ≤ (b : Int) := by omega
    have g5 : ¬ (b : Int) < 240 := by omega
    have g6 : (240 : Int) ≤ (b : Int) := by omega
    have g7 : (b : Int) < 248 := by omega
    rw [he]
    clear he h1 h2
    go_enter Tryz.func82, Tryz.ntmps82
    go_wp2
    refine bodyPost_ret (v := .tuple #[.int .i32 ((b : Int) - 240), .int .i64 3]) (by simp [results, Tryz.results82, go_sem]) rfl ⟨rfl, rfl⟩
  · have he : leadF b = (0, -1) := by unfold leadF; rw [if_neg (by omega), if_neg (by omega), if_neg (by omega), if_neg (by omega)]
    have g1 : ¬ (b : Int) < 128 := by omega
    have g2 : (192 : Int) ≤ (b : Int) := by omega
    have g3 : ¬ (b : Int) < 224 := by omega
    have g4 : (224 : Int) ≤ (b : Int) := by omega
    have g5 : ¬ (b : Int) < 240 := by omega
    have g6 : (240 : Int) ≤ (b : Int) := by omega
    have g7 : ¬ (b : Int) < 248 := by omega
    rw [he]
    clear he h
    go_enter Tryz.func82, Tryz.ntmps82
    go_wp2
    refine bodyPost_ret (v := .tuple #[.int .i32 0, .int .i64 (-1)]) (by simp [results, Tryz.results82, go_sem]) rfl ⟨rfl, rfl⟩

def sizeF (c : Int) : Int := if c < 128 then 1 else if c < 2048 then 2 else if c < 65536 then 3 else 4
set_option maxRecDepth 100000 in
theorem RefSize_any (c : Int) (w : World) : Calls Tryz.prog 72 #[.int .i32 c] w fun e w' => e = .returned (.int .i64 (sizeF c)) ∧ w' = w := by
  by_cases h1 : c < 128
  · have he : sizeF c = 1 := by unfold sizeF; rw [if_pos h1]
    rw [he]
    go_enter Tryz.func72, Tryz.ntmps72
    go_wp2
    go_ret
    exact ⟨rfl, rfl⟩
  · by_cases h2 : c < 2048
    · have he : sizeF c = 2 := by unfold sizeF; rw [if_neg h1, if_pos h2]
      rw [he]
      go_enter Tryz.func72, Tryz.ntmps72
      go_wp2
      go_ret
      exact ⟨rfl, rfl⟩
    · by_cases h3 : c < 65536
      · have he : sizeF c = 3 := by unfold sizeF; rw [if_neg h1, if_neg h2, if_pos h3]
        rw [he]
        go_enter Tryz.func72, Tryz.ntmps72
        go_wp2
        go_ret
        exact ⟨rfl, rfl⟩
      · have he : sizeF c = 4 := by unfold sizeF; rw [if_neg h1, if_neg h2, if_neg h3]
        rw [he]
        go_enter Tryz.func72, Tryz.ntmps72
        go_wp2
        go_ret
        exact ⟨rfl, rfl⟩
def scalarF (c : Int) : Bool := decide (0 ≤ c ∧ c ≤ 1114111 ∧ (c < 55296 ∨ 57343 < c))
set_option maxRecDepth 100000 in
theorem RefScalar_any (c : Int) (w : World) : Calls Tryz.prog 83 #[.int .i32 c] w fun e w' => e = .returned (.bool (scalarF c)) ∧ w' = w := by
  rcases (by omega : ¬ 0 ≤ c ∨ (0 ≤ c ∧ ¬ c ≤ 1114111) ∨ (0 ≤ c ∧ c ≤ 1114111 ∧ c < 55296) ∨ (0 ≤ c ∧ c ≤ 1114111 ∧ ¬ c < 55296 ∧ 57343 < c) ∨ (0 ≤ c ∧ c ≤ 1114111 ∧ ¬ c < 55296 ∧ ¬ 57343 < c)) with h1 | ⟨h1, h2⟩ | ⟨h1, h2, h3⟩ | ⟨h1, h2, h3, h4⟩ | ⟨h1, h2, h3, h4⟩
  · have he : scalarF c = false := by unfold scalarF; simp; omega
    rw [he]
    go_enter Tryz.func83, Tryz.ntmps83
    go_wp2
    go_ret
    exact ⟨rfl, rfl⟩
  · have he : scalarF c = false := by unfold scalarF; simp; omega
    rw [he]
    go_enter Tryz.func83, Tryz.ntmps83
    go_wp2
    go_ret
    exact ⟨rfl, rfl⟩
  · have he : scalarF c = true := by unfold scalarF; simp; omega
    rw [he]
    go_enter Tryz.func83, Tryz.ntmps83
    go_wp2
    go_ret
    exact ⟨rfl, rfl⟩
  · have he : scalarF c = true := by unfold scalarF; simp; omega
    rw [he]
    go_enter Tryz.func83, Tryz.ntmps83
    go_wp2
    go_ret
    exact ⟨rfl, rfl⟩
  · have he : scalarF c = false := by unfold scalarF; simp; omega
    rw [he]
    go_enter Tryz.func83, Tryz.ntmps83
    go_wp2
    go_ret
    exact ⟨rfl, rfl⟩
end Go.Proofs.YtgmpohdkignadaaGreatDoor.Ut
/-
  bodkinref01.begins: what it answers. No condition.
-/
namespace Go.Proofs.YtgmpohdkignadaaGreatDoor.Ut
open Go.RowKit Go.Proofs.YtgmpohdkignadaaGreatDoor.Reg
set_option linter.unusedVariables false
set_option linter.unusedSimpArgs false

def cont (s : ByteArray) (j : Nat) : Prop := 128 ≤ bt s j ∧ bt s j ≤ 191
/-- The number behind k bytes more. -/
def valF (s : ByteArray) (c0 : Int) : Nat → Int
  | 0 => c0
  | k + 1 => valF s c0 k * 64 + bt s ((k + 1 : Nat) : Int) - 128
theorem valF_bound (s : ByteArray) {c0 : Int} (h0 : 0 ≤ c0) (h1 : c0 ≤ 127) : ∀ k, (∀ j, 1 ≤ j → j ≤ k → cont s j) → 0 ≤ valF s c0 k ∧ valF s c0 k ≤ 128 * (64 : Int) ^ k - 1
  | 0, _ => by unfold valF; simp; omega
  | k + 1, h => by
    obtain ⟨a, b⟩ := valF_bound s h0 h1 k (fun j x y => h j x (by omega))
    obtain ⟨c, d⟩ := h (k + 1) (by omega) (Nat.le_refl _)
    unfold valF
    rw [Int.pow_succ]
    omega
def begF (s : ByteArray) : Int := chOf (dec4 (bt s 0) (bt s 1) (bt s 2) (bt s 3))
theorem begF_ch (s : ByteArray) (h : 0 < s.size) : begF s = ch s := by
  have e := win_ch s (i := 0) (k := 4) (j := 0) (Nat.le_refl _) rfl h
  have hf : from_ s 0 = s := by unfold from_; exact extract_all s
  rw [hf] at e
  rw [e]
  unfold begF wCh wD
  rw [win_at _ _ _ (by omega), win_at _ _ _ (by omega), win_at _ _ _ (by omega), win_at _ _ _ (by omega)]
  rfl
theorem dec4_cont (a b c d : Nat) : chOf (dec4 a b c d) =
    if a < 128 then (a : Int)
    else if 192 ≤ a ∧ a < 224 then (if 128 ≤ b ∧ b ≤ 191 ∧ 128 ≤ ((a : Int) - 192) * 64 + b - 128 then ((a : Int) - 192) * 64 + b - 128 else -1)
    else if 224 ≤ a ∧ a < 240 then (if 128 ≤ b ∧ b ≤ 191 ∧ 128 ≤ c ∧ c ≤ 191 ∧ 2048 ≤ (((a : Int) - 224) * 64 + b - 128) * 64 + c - 128 ∧ ((((a : Int) - 224) * 64 + b - 128) * 64 + c - 128 < 55296 ∨ 57343 < (((a : Int) - 224) * 64 + b - 128) * 64 + c - 128) then (((a : Int) - 224) * 64 + b - 128) * 64 + c - 128 else -1)
    else if 240 ≤ a ∧ a < 248 then (if 128 ≤ b ∧ b ≤ 191 ∧ 128 ≤ c ∧ c ≤ 191 ∧ 128 ≤ d ∧ d ≤ 191 ∧ 65536 ≤ ((((a : Int) - 240) * 64 + b - 128) * 64 + c - 128) * 64 + d - 128 ∧ ((((a : Int) - 240) * 64 + b - 128) * 64 + c - 128) * 64 + d - 128 ≤ 1114111 then ((((a : Int) - 240) * 64 + b - 128) * 64 + c - 128) * 64 + d - 128 else -1)
    else -1 := by
  have hv : ∀ n : Nat, Utf8.valid (n : Int) = true ↔ (n ≤ 1114111 ∧ ¬ (55296 ≤ n ∧ n ≤ 57343)) := by
    intro n
    unfold Utf8.valid
    simp
    omega
  have hbad : chOf (65533, 1) = -1 := rfl
  have hbig : ∀ v k : Nat, 2 ≤ k → chOf (v, k) = (v : Int) := by
    intro v k hk
    unfold chOf
    rw [if_neg (by rintro ⟨-, h⟩; simp only at h; omega)]
  by_cases h0 : a < 128
  · rw [dec4_low h0, if_pos h0]
    unfold chOf
    rw [if_neg (by rintro ⟨h, -⟩; simp only at h; omega)]
  rw [if_neg h0]
  by_cases h1 : 192 ≤ a ∧ a < 224
  · rw [if_pos h1]
    by_cases hb : b / 64 = 2
    · have e : dec4 a b c d = if a % 32 * 64 + b % 64 ≥ 0x80 then (a % 32 * 64 + b % 64, 2) else (65533, 1) := by unfold dec4; rw [if_neg (by omega), if_pos (by omega)]
      rw [e]
      by_cases hv2 : a % 32 * 64 + b % 64 ≥ 0x80
      · rw [if_pos hv2, hbig _ _ (by omega), if_pos (by omega)]; omega
      · rw [if_neg hv2, hbad, if_neg (by omega)]
    · have e : dec4 a b c d = (65533, 1) := by unfold dec4; rw [if_neg (by omega), if_neg (by omega), if_neg (by omega), if_neg (by omega)]
      rw [e, hbad, if_neg (by omega)]
  rw [if_neg h1]
  by_cases h2 : 224 ≤ a ∧ a < 240
  · rw [if_pos h2]
    by_cases hb : b / 64 = 2 ∧ c / 64 = 2
    · have e : dec4 a b c d = if a % 16 * 4096 + b % 64 * 64 + c % 64 ≥ 0x800 ∧ Utf8.valid (a % 16 * 4096 + b % 64 * 64 + c % 64 : Nat) = true then (a % 16 * 4096 + b % 64 * 64 + c % 64, 3) else (65533, 1) := by unfold dec4; rw [if_neg (by omega), if_neg (by omega), if_pos (by omega)]
      rw [e]
      by_cases hv2 : a % 16 * 4096 + b % 64 * 64 + c % 64 ≥ 0x800 ∧ (a % 16 * 4096 + b % 64 * 64 + c % 64 ≤ 1114111 ∧ ¬ (55296 ≤ a % 16 * 4096 + b % 64 * 64 + c % 64 ∧ a % 16 * 4096 + b % 64 * 64 + c % 64 ≤ 57343))
      · rw [if_pos ⟨hv2.1, (hv _).2 hv2.2⟩, hbig _ _ (by omega), if_pos (by omega)]; omega
      · rw [if_neg (fun h => hv2 ⟨h.1, (hv _).1 h.2⟩), hbad, if_neg (by omega)]
    · have e : dec4 a b c d = (65533, 1) := by unfold dec4; rw [if_neg (by omega), if_neg (by omega), if_neg (by omega), if_neg (by omega)]
      rw [e, hbad, if_neg (by omega)]
  rw [if_neg h2]
  by_cases h3 : 240 ≤ a ∧ a < 248
  · rw [if_pos h3]
    by_cases hb : b / 64 = 2 ∧ c / 64 = 2 ∧ d / 64 = 2
    · have e : dec4 a b c d = if a % 8 * 262144 + b % 64 * 4096 + c % 64 * 64 + d % 64 ≥ 0x10000 ∧ Utf8.valid (a % 8 * 262144 + b % 64 * 4096 + c % 64 * 64 + d % 64 : Nat) = true then (a % 8 * 262144 + b % 64 * 4096 + c % 64 * 64 + d % 64, 4) else (65533, 1) := by unfold dec4; rw [if_neg (by omega), if_neg (by omega), if_neg (by omega), if_pos (by omega)]
      rw [e]
      by_cases hv2 : a % 8 * 262144 + b % 64 * 4096 + c % 64 * 64 + d % 64 ≥ 0x10000 ∧ (a % 8 * 262144 + b % 64 * 4096 + c % 64 * 64 + d % 64 ≤ 1114111 ∧ ¬ (55296 ≤ a % 8 * 262144 + b % 64 * 4096 + c % 64 * 64 + d % 64 ∧ a % 8 * 262144 + b % 64 * 4096 + c % 64 * 64 + d % 64 ≤ 57343))
      · rw [if_pos ⟨hv2.1, (hv _).2 hv2.2⟩, hbig _ _ (by omega), if_pos (by omega)]; omega
      · rw [if_neg (fun h => hv2 ⟨h.1, (hv _).1 h.2⟩), hbad, if_neg (by omega)]
    · have e : dec4 a b c d = (65533, 1) := by unfold dec4; rw [if_neg (by omega), if_neg (by omega), if_neg (by omega), if_neg (by omega)]
      rw [e, hbad, if_neg (by omega)]
  rw [if_neg h3]
  have e : dec4 a b c d = (65533, 1) := by unfold dec4; rw [if_neg (by omega), if_neg (by omega), if_neg (by omega), if_neg (by omega)]
  rw [e, hbad]
/-- What a lead byte means. -/
theorem lead_ok (s : ByteArray) (h : 0 < s.size) : (leadF (bt s 0) = (0, -1) ∧ begF s = -1) ∨ ∃ (c0 : Int) (m : Nat), leadF (bt s 0) = (c0, (m : Int)) ∧ m ≤ 3 ∧ 0 ≤ c0 ∧ c0 ≤ 127 ∧
    (∀ j, 1 ≤ j → j ≤ m → ¬ cont s j → begF s = -1) ∧ ((∀ j, 1 ≤ j → j ≤ m → cont s j) → begF s = if scalarF (valF s c0 m) = true ∧ sizeF (valF s c0 m) = (m : Int) + 1 then valF s c0 m else -1) := by
  have hd := dec4_cont (bt s 0) (bt s 1) (bt s 2) (bt s 3)
  have hb : begF s = chOf (dec4 (bt s 0) (bt s 1) (bt s 2) (bt s 3)) := rfl
  rw [hd] at hb
  have h256 := bt_lt s h
  have e0 : ((0 : Nat) : Int) = 0 := rfl
  rw [e0] at h256
  generalize hx : bt s 0 = x at *
  have c1 : cont s 1 ↔ (128 ≤ bt s 1 ∧ bt s 1 ≤ 191) := Iff.rfl
  have c2 : cont s 2 ↔ (128 ≤ bt s 2 ∧ bt s 2 ≤ 191) := Iff.rfl
  have c3 : cont s 3 ↔ (128 ≤ bt s 3 ∧ bt s 3 ≤ 191) := Iff.rfl
  rcases (by omega : x < 128 ∨ (128 ≤ x ∧ x < 192) ∨ (192 ≤ x ∧ x < 224) ∨ (224 ≤ x ∧ x < 240) ∨ (240 ≤ x ∧ x < 248) ∨ 248 ≤ x) with g | ⟨g1, g2⟩ | ⟨g1, g2⟩ | ⟨g1, g2⟩ | ⟨g1, g2⟩ | g
  · rw [if_pos g] at hb
    refine .inr ⟨x, 0, by unfold leadF; rw [if_pos g]; rfl, by omega, by omega, by omega, fun j a b => by omega, fun _ => ?_⟩
    have hs : scalarF (x : Int) = true := by unfold scalarF; simp; omega
    have hz : sizeF (x : Int) = 1 := by unfold sizeF; rw [if_pos (by omega)]
    rw [hb]
    unfold valF
    rw [if_pos ⟨hs, by rw [hz]; rfl⟩]
  · left
    rw [if_neg (by omega), if_neg (by omega), if_neg (by omega), if_neg (by omega)] at hb
    exact ⟨by unfold leadF; rw [if_neg (by omega), if_neg (by omega), if_neg (by omega), if_neg (by omega)], hb⟩
  · rw [if_neg (by omega), if_pos ⟨g1, g2⟩] at hb
    refine .inr ⟨(x : Int) - 192, 1, by unfold leadF; rw [if_neg (by omega), if_pos ⟨g1, g2⟩]; rfl, by omega, by omega, by omega, fun j a b hn => ?_, fun hc => ?_⟩
    · obtain rfl : j = 1 := by omega
      rw [c1] at hn
      rw [hb, if_neg (by omega)]
    · have k1 := c1.1 (hc 1 (by omega) (by omega))
      have hv : valF s ((x : Int) - 192) 1 = ((x : Int) - 192) * 64 + bt s 1 - 128 := rfl
      rw [hv, hb]
      have hsc : scalarF (((x : Int) - 192) * 64 + bt s 1 - 128) = true := by unfold scalarF; simp; omega
      by_cases hg : 128 ≤ ((x : Int) - 192) * 64 + bt s 1 - 128
      · have hz : sizeF (((x : Int) - 192) * 64 + bt s 1 - 128) = 2 := by unfold sizeF; rw [if_neg (by omega), if_pos (by omega)]
        rw [if_pos (by omega), if_pos ⟨hsc, by rw [hz]; rfl⟩]
      · have hz : sizeF (((x : Int) - 192) * 64 + bt s 1 - 128) = 1 := by unfold sizeF; rw [if_pos (by omega)]
        rw [if_neg (by omega), if_neg (by rw [hz]; rintro ⟨-, h⟩; simp at h)]
  · rw [if_neg (by omega), if_neg (by omega), if_pos ⟨g1, g2⟩] at hb
    refine .inr ⟨(x : Int) - 224, 2, by unfold leadF; rw [if_neg (by omega), if_neg (by omega), if_pos ⟨g1, g2⟩]; rfl, by omega, by omega, by omega, fun j a b hn => ?_, fun hc => ?_⟩
    · rcases (by omega : j = 1 ∨ j = 2) with rfl | rfl
      · rw [c1] at hn; rw [hb, if_neg (by omega)]
      · rw [c2] at hn; rw [hb, if_neg (by omega)]
    · have k1 := c1.1 (hc 1 (by omega) (by omega))
      have k2 := c2.1 (hc 2 (by omega) (by omega))
      have hv : valF s ((x : Int) - 224) 2 = (((x : Int) - 224) * 64 + bt s 1 - 128) * 64 + bt s 2 - 128 := rfl
      rw [hv, hb]
      generalize hy : (((x : Int) - 224) * 64 + bt s 1 - 128) * 64 + bt s 2 - 128 = y at *
      by_cases hg : 2048 ≤ y ∧ (y < 55296 ∨ 57343 < y)
      · have hsc : scalarF y = true := by unfold scalarF; simp; omega
        have hz : sizeF y = 3 := by unfold sizeF; rw [if_neg (by omega), if_neg (by omega), if_pos (by omega)]
        rw [if_pos (by omega), if_pos ⟨hsc, by rw [hz]; rfl⟩]
      · rw [if_neg (by omega), if_neg]
        rintro ⟨h5, h6⟩
        unfold scalarF at h5
        unfold sizeF at h6
        simp at h5
        split at h6
        · omega
        · split at h6 <;> omega
  · rw [if_neg (by omega), if_neg (by omega), if_neg (by omega), if_pos ⟨g1, g2⟩] at hb
    refine .inr ⟨(x : Int) - 240, 3, by unfold leadF; rw [if_neg (by omega), if_neg (by omega), if_neg (by omega), if_pos ⟨g1, g2⟩]; rfl, by omega, by omega, by omega, fun j a b hn => ?_, fun hc => ?_⟩
    · rcases (by omega : j = 1 ∨ j = 2 ∨ j = 3) with rfl | rfl | rfl
      · rw [c1] at hn; rw [hb, if_neg (by omega)]
      · rw [c2] at hn; rw [hb, if_neg (by omega)]
      · rw [c3] at hn; rw [hb, if_neg (by omega)]
    · have k1 := c1.1 (hc 1 (by omega) (by omega))
      have k2 := c2.1 (hc 2 (by omega) (by omega))
      have k3 := c3.1 (hc 3 (by omega) (by omega))
      have hv : valF s ((x : Int) - 240) 3 = ((((x : Int) - 240) * 64 + bt s 1 - 128) * 64 + bt s 2 - 128) * 64 + bt s 3 - 128 := rfl
      rw [hv, hb]
      generalize hy : ((((x : Int) - 240) * 64 + bt s 1 - 128) * 64 + bt s 2 - 128) * 64 + bt s 3 - 128 = y at *
      by_cases hg : 65536 ≤ y ∧ y ≤ 1114111
      · have hsc : scalarF y = true := by unfold scalarF; simp; omega
        have hz : sizeF y = 4 := by unfold sizeF; rw [if_neg (by omega), if_neg (by omega), if_neg (by omega)]
        rw [if_pos (by omega), if_pos ⟨hsc, by rw [hz]; rfl⟩]
      · rw [if_neg (by omega), if_neg]
        rintro ⟨h5, h6⟩
        unfold scalarF at h5
        unfold sizeF at h6
        simp at h5
        split at h6
        · omega
        · split at h6
          · omega
          · split at h6 <;> omega
  · left
    rw [if_neg (by omega), if_neg (by omega), if_neg (by omega), if_neg (by omega)] at hb
    exact ⟨by unfold leadF; rw [if_neg (by omega), if_neg (by omega), if_neg (by omega), if_neg (by omega)], hb⟩

set_option maxRecDepth 100000 in
set_option maxHeartbeats 2000000 in
theorem RefBegins_any (s : ByteArray) (w : World) (h0 : 0 < s.size) (hs : s.size ≤ 140737488355328) :
    Calls Tryz.prog 71 #[.string s] w fun e w' => e = .returned (.int .i32 (begF s)) ∧ w' = w := by
  have hix : ∀ w, (Instr.index 9 (.string s) (.int .i64 0)).run Tryz.prog w = .ok (.int .u8 (bt s 0)) w := fun w => ix_bt s 0 h0 w
  have HL := Lib.hid (fun w => RefLead_any (bt s 0) (bt_lt s h0) w)
  have HSz := Lib.hid (fun c w => RefSize_any c w)
  have HSc := Lib.hid (fun c w => RefScalar_any c w)
  obtain ⟨R, hR⟩ : ∃ R, begF s = R := ⟨_, rfl⟩
  have hlead := lead_ok s h0
  have HR := Lib.hid hR
  rw [hR] at hlead ⊢
  clear hR
  rcases hlead with ⟨he, hr⟩ | ⟨c0, m, he, hm, hc0, hc1, hbad, hok⟩
  · subst hr
    rw [he] at HL
    clear he
    go_enter Tryz.func71, Tryz.ntmps71
    go_wp2_with fail
    refine (HL.out w).mono ?_
    rintro e w1 ⟨rfl, rfl⟩
    go_wp2
    go_ret
    exact ⟨rfl, rfl⟩
  · rw [he] at HL
    have hmI : ¬ (m : Int) < 0 := by omega
    by_cases hlen : s.size ≤ m
    · have hr : R = -1 := by
        refine hbad m (by omega) (Nat.le_refl _) ?_
        unfold cont
        rw [bt_big s (by omega)]
        omega
      subst hr
      have hlI : (s.size : Int) ≤ (m : Int) := by omega
      clear he hbad hok hlen
      go_enter Tryz.func71, Tryz.ntmps71
      go_wp2_with fail
      refine (HL.out w).mono ?_
      rintro e w1 ⟨rfl, rfl⟩
      go_wp2
      go_ret
      exact ⟨rfl, rfl⟩
    · have hlI : ¬ (s.size : Int) ≤ (m : Int) := by omega
      have Hbad := Lib.hid hbad
      have Hok := Lib.hid hok
      clear he hbad hok
      go_enter Tryz.func71, Tryz.ntmps71
      go_wp2_with fail
      refine (HL.out w).mono ?_
      rintro e w1 ⟨rfl, rfl⟩
      go_wp2
      go_loopw [3, 5] (fun x y wr => ∃ i : Nat, 1 ≤ i ∧ i ≤ m + 1 ∧ y = .int .i64 i ∧ x = .int .i32 (valF s c0 (i - 1)) ∧ Hid (∀ j, 1 ≤ j → j < i → cont s j) ∧ wr = w1) (fun _ y _ => m + 1 - (intOf y).toNat)
      case atStart => exact ⟨1, Nat.le_refl _, by omega, rfl, rfl, fun j a b => by omega, rfl⟩
      case round =>
        obtain ⟨i, hi1, hi2, rfl, rfl, hco, rfl⟩ := hrel
        obtain ⟨k, rfl⟩ : ∃ k, i = k + 1 := ⟨i - 1, by omega⟩
        rw [show k + 1 - 1 = k from rfl]
        obtain ⟨v0, v1⟩ := valF_bound s hc0 hc1 k (fun j a b => hco.out j a (by omega))
        have hp : (64 : Int) ^ k ≤ 262144 := by
          rcases (by omega : k = 0 ∨ k = 1 ∨ k = 2 ∨ k = 3) with rfl | rfl | rfl | rfl <;> decide
        by_cases hlt : k + 1 ≤ m
        · have hp2 : (64 : Int) ^ k ≤ 4096 := by
            rcases (by omega : k = 0 ∨ k = 1 ∨ k = 2) with rfl | rfl | rfl <;> decide
          have hjx := ix_bt s (k + 1) (by omega)
          have hst : Hid (valF s c0 (k + 1) = valF s c0 k * 64 + bt s ((k + 1 : Nat) : Int) - 128) := rfl
          have hbl := bt_lt s (k := k + 1) (by omega)
          have hcd : cont s (k + 1) ↔ (128 ≤ bt s ((k + 1 : Nat) : Int) ∧ bt s ((k + 1 : Nat) : Int) ≤ 191) := Iff.rfl
          have hki : ((k + 1 : Nat) : Int) = (k : Int) + 1 := by omega
          rw [hki] at hjx hst hbl hcd
          have hkm : (k : Int) + 1 ≤ (m : Int) := by omega
          generalize bt s ((k : Int) + 1) = B at *
          generalize valF s c0 k = V at *
          by_cases h1 : B < 128
          · have hr : Hid (R = -1) := Hbad.out (k + 1) (by omega) hlt (by rw [hcd]; omega)
            have g1 : (B : Int) < 128 := by omega
            clear hcd hp hp2
            go_wp2
            go_ret
            exact ⟨by rw [hr.out]; rfl, rfl⟩
          · have g1 : ¬ (B : Int) < 128 := by omega
            by_cases h2 : 191 < B
            · have hr : Hid (R = -1) := Hbad.out (k + 1) (by omega) hlt (by rw [hcd]; omega)
              have g2 : (191 : Int) < (B : Int) := by omega
              clear hcd hp hp2
              go_wp2
              go_ret
              exact ⟨by rw [hr.out]; rfl, rfl⟩
            · have g2 : ¬ (191 : Int) < (B : Int) := by omega
              have hco2 : Hid (∀ j, 1 ≤ j → j < k + 2 → cont s j) := by
                intro j a b
                by_cases e : j = k + 1
                · subst e; exact hcd.2 ⟨by omega, by omega⟩
                · exact hco.out j a (by omega)
              have a1 : IntKind.i32.wrap (V * 64) = V * 64 := IntWalk.i32_in _ (by omega)
              have a2 : IntKind.i32.wrap (B : Int) = (B : Int) := IntWalk.i32_in _ (by omega)
              have a3 : IntKind.i32.wrap (V * 64 + (B : Int)) = V * 64 + (B : Int) := IntWalk.i32_in _ (by omega)
              have a4 : IntKind.i32.wrap (V * 64 + (B : Int) - 128) = V * 64 + (B : Int) - 128 := IntWalk.i32_in _ (by omega)
              have hwk : IntKind.i64.wrap ((k : Int) + 1 + 1) = (k : Int) + 1 + 1 := IntWalk.i64_in _ (by omega)
              clear hcd hp hp2 v1
              go_wp2
              go_roundw
              case rel => exact ⟨k + 2, by omega, by omega, by go_num, by rw [show k + 2 - 1 = k + 1 from rfl, hst.out], hco2, trivial⟩
              case measure => simp [intOf]; omega
        · obtain rfl : k = m := by omega
          have hr := Hok.out (fun j a b => hco.out j a (by omega))
          have HRr := Lib.hid hr
          have hkm : ¬ (k : Int) + 1 ≤ (k : Int) := by omega
          clear hr hp v1
          generalize valF s c0 k = V at *
          go_wp2_with fail
          refine (HSc.out V _).mono ?_
          rintro e w2 ⟨rfl, rfl⟩
          cases hsc : scalarF V with
          | false =>
            have hr : Hid (R = -1) := by show _ = _; rw [HRr.out, if_neg (by rw [hsc]; simp)]
            clear HRr hsc
            go_wp2
            go_ret
            exact ⟨by rw [hr.out]; rfl, rfl⟩
          | true =>
            by_cases hz : sizeF V = (k : Int) + 1
            · have hr : Hid (R = V) := by show _ = _; rw [HRr.out, if_pos ⟨hsc, hz⟩]
              clear HRr hsc
              have HZ := Lib.hid (HSz.out V)
              rw [hz] at HZ
              clear hz
              go_wp2_with fail
              refine (HZ.out _).mono ?_
              rintro e w3 ⟨rfl, rfl⟩
              go_wp2
              go_ret
              exact ⟨by rw [hr.out]; rfl, rfl⟩
            · have hr : Hid (R = -1) := by show _ = _; rw [HRr.out, if_neg (fun h => hz h.2)]
              have hz2 : (sizeF V != (k : Int) + 1) = true := by simpa using hz
              clear HRr hsc hz
              go_wp2_with fail
              refine (HSz.out V _).mono ?_
              rintro e w3 ⟨rfl, rfl⟩
              generalize sizeF V = Z at *
              go_wp2
              go_ret
              exact ⟨by rw [hr.out]; rfl, rfl⟩
end Go.Proofs.YtgmpohdkignadaaGreatDoor.Ut
