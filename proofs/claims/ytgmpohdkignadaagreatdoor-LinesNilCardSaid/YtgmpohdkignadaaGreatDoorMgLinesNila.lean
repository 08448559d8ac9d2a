/-
  What the proof of the row LinesNil rests on: the texts RfA LnF. Conditions: each theorem names its own.
-/
import Derived.Test.YtgmpohdkignadaaGreatDoorMgLg
import Derived.Deep.AppendLies
import Derived.Laws.OwnMore
import Derived.RangeFuncNested
import Derived.Test.YtgmpohdkignadaaGreatDoorMgLj
/-
  bodkinref11.Lines, Count, Of, Span, Line: what they answer. No condition.
-/
namespace Go.Proofs.YtgmpohdkignadaaGreatDoor.Ut
open Go.RowKit Go.Proofs.YtgmpohdkignadaaGreatDoor.Reg
set_option linter.unusedVariables false
set_option linter.unusedSimpArgs false

theorem row_forma {w : World} {base e size n : Nat} {v : Value} {xs : List Value} (h : w.ownsRow base e size v n xs) : ∃ A c, v = .slice A n c := by
  rcases h.2 with ⟨rfl, rfl⟩ | ⟨g, cap, cur, rfl, _⟩
  · exact ⟨none, 0, rfl⟩
  · exact ⟨_, cap, rfl⟩
theorem infoSpan : (Tryz.prog.info? 41).map (fun i => (i.zero, i.size, i.bytes)) = some (some (.agg #[.int .i64 0, .int .i64 0]), 2, 16) := by kernel_rfl
theorem two_new (w : World) (x y : Value) (t : TypeId) : ∀ (j : Nat) (u : Value), [x, y][j]? = some u → (w.alloc (.cells #[x, y] t)).cell? ((⟨w.heap.size, 0, none⟩ : Addr).add j) = some u := by
  intro j u hj
  match j, hj with
  | 0, hj => simp at hj; subst hj; simp [Addr.add]
  | 1, hj => simp at hj; subst hj; simp [Addr.add]
theorem ix_bt (O : ByteArray) (j : Nat) (h : j < O.size) (w : World) : (Instr.index 9 (.string O) (.int .i64 j)).run Tryz.prog w = .ok (.int .u8 (bt O j)) w := by
  rw [run_index_string w 9 O .i64 j Tryz.underlying9, dif_pos ⟨by omega, by omega⟩, bt_in O h]
  rfl
/-- The cells of a list of spans. -/
def cellsP (l : List (Nat × Nat)) : List Value := l.flatMap fun x => [.int .i64 x.1, .int .i64 x.2]
theorem cellsP_app (l : List (Nat × Nat)) (a b : Nat) : cellsP (l ++ [(a, b)]) = cellsP l ++ [.int .i64 a, .int .i64 b] := by
  unfold cellsP; rw [List.flatMap_append]; rfl
theorem cellsP_at : ∀ (l : List (Nat × Nat)) (k : Nat) (h : k < l.length), (cellsP l)[k * 2]? = some (.int .i64 l[k].1) ∧ (cellsP l)[k * 2 + 1]? = some (.int .i64 l[k].2)
  | x :: r, 0, _ => ⟨rfl, rfl⟩
  | x :: r, k + 1, h => by
    have := cellsP_at r k (by simpa using h)
    have e : cellsP (x :: r) = .int .i64 x.1 :: .int .i64 x.2 :: cellsP r := rfl
    rw [e, show (k + 1) * 2 = k * 2 + 1 + 1 by omega]
    simpa using this
theorem grown_cella {w w' : World} {row : Option Nat} (hg : w.grownBy w' row) {p : Addr} (hp : p.block < w.heap.size) (hn : row ≠ some p.block) : w'.cell? p = w.cell? p :=
  (Chg.of_grown hg).cell hp (fun h => hn h.symm)
theorem wpList_app_span {ops : Array Oper} {rest : List Oper} {o : Oper} {a : Act} {Q : Exit → Act → World → Prop} {w : World} (hgd : o.guard = none) (s x : Operand)
    (ho : o.op = .call { callee := .builtin .append, args := #[s, x], argTypes := #[72, 72] })
    (base : Nat) (u : Value) (l : List (Nat × Nat)) (p q : Nat) (ty : TypeId) (hown : w.ownsRow base 41 2 u l.length (cellsP l)) (hs : a.eval s = u)
    (g : Nat) (hgs : g = w.heap.size) (hx : a.eval x = .slice (some ⟨g, 0, none⟩) 1 1) (hlen : l.length ≤ 4294967296) (hbase : base ≤ w.heap.size)
    (h : ∀ v' w', w'.ownsRow base 41 2 v' (l ++ [(p, q)]).length (cellsP (l ++ [(p, q)])) → (w.alloc (.cells #[.int .i64 p, .int .i64 q] ty)).grownBy w' u.ownBlock → wpList Tryz.prog ops Q rest (a.put o.dst v') w') :
    wpList Tryz.prog ops Q (o :: rest) a (w.alloc (.cells #[.int .i64 p, .int .i64 q] ty)) := by
  subst hgs
  obtain ⟨i0, hi, hz0, hz1, hz2⟩ := info_parts infoSpan
  refine wpList_append_own _ hgd s x 72 ho base 41 i0 (.agg #[.int .i64 0, .int .i64 0]) 2 16 Tryz.underlying72 hi hz0 hz1 hz2 rfl (by decide) u l.length (cellsP l) hs (hown.alloc _) ⟨w.heap.size, 0, none⟩ 1 1 [.int .i64 p, .int .i64 q] hx rfl (two_new _ _ _ _) (by intro u hu; simp at hu; rcases hu with rfl | rfl <;> rfl) (by unfold maxLen; omega) (by omega) (by simp; omega) ?_
  intro v' w' h1 h2 _
  refine h v' w' ?_ h2
  rw [cellsP_app]
  simpa using h1

/-- The spans of the first m lines. -/
def spansT (s : ByteArray) (m : Nat) : List (Nat × Nat) := (List.range m).map fun l => (beginF s (l : Nat), spanT s l)
theorem spansT_len (s : ByteArray) (m : Nat) : (spansT s m).length = m := by simp [spansT]
theorem spansT_succ (s : ByteArray) (m : Nat) : spansT s (m + 1) = spansT s m ++ [(beginF s (m : Nat), spanT s m)] := by simp [spansT, List.range_succ]
theorem spansT_at (s : ByteArray) (m k : Nat) (h : k < (spansT s m).length) : (spansT s m)[k] = (beginF s (k : Nat), spanT s k) := by simp [spansT]
/-- At a newline. -/
theorem at_lf {s : ByteArray} {i : Nat} (hi : i < s.size) (h : bt s i = 10) : nlTo s i < nlF s ∧ beginF s (nlTo s i + 1 : Nat) = i + 1 ∧ nlTo s (i + 1) = nlTo s i + 1 ∧ beginF s (nlTo s i : Nat) ≤ i ∧
    ((spanT s (nlTo s i) = i ∧ (beginF s (nlTo s i : Nat) < i → bt s ((i - 1 : Nat) : Int) ≠ 13)) ∨ (spanT s (nlTo s i) + 1 = i ∧ beginF s (nlTo s i : Nat) < i ∧ bt s ((i - 1 : Nat) : Int) = 13)) := by
  have h1 := nlTo_succ s hi
  rw [if_pos h] at h1
  have h2 := nlTo_lt s (i + 1) (by omega)
  have hlt : nlTo s i < nlF s := by omega
  have h3 := begin_of_le s (N := nlTo s i + 1) (i := i + 1) (by omega)
  have h4 := lt_begin s (N := nlTo s i + 1) (i := i) (by omega) (by omega)
  have hb : beginF s (nlTo s i + 1 : Nat) = i + 1 := by omega
  have L := line_at s (N := nlTo s i) (by omega)
  obtain ⟨a, b, c⟩ := L.next hlt
  rw [hb] at c
  refine ⟨hlt, hb, h1, begin_of_le s (Nat.le_refl _), ?_⟩
  rcases c with ⟨c1, c2, c3⟩ | ⟨c1, c2, c3⟩
  · have e : spanT s (nlTo s i) = i := by omega
    rw [e] at c3
    exact .inl ⟨e, c3⟩
  · have e : spanT s (nlTo s i) + 1 = i := by omega
    refine .inr ⟨e, by have := L.le; omega, ?_⟩
    rw [show i - 1 = spanT s (nlTo s i) by omega]; exact c1

set_option maxRecDepth 100000 in
set_option maxHeartbeats 2000000 in
theorem RefLines_any (s : ByteArray) (w : World) (hs : s.size ≤ 1073741824) :
    Calls Tryz.prog 33 #[.string s] w fun e w' => ∃ v, e = .returned v ∧ w'.ownsRow w.heap.size 41 2 v (spansT s (nlF s + 1)).length (cellsP (spansT s (nlF s + 1))) ∧ Below w.heap.size w w' := by
  go_enter Tryz.func33, Tryz.ntmps33
  go_wp2
  go_loopw [3, 4, 5] (fun u x y wr => ∃ i : Nat, i ≤ s.size ∧ y = .int .i64 i ∧ x = .int .i64 (beginF s (nlTo s i : Nat)) ∧ wr.ownsRow w.heap.size 41 2 u (spansT s (nlTo s i)).length (cellsP (spansT s (nlTo s i))) ∧ Below w.heap.size w wr) (fun _ _ y _ => s.size - (intOf y).toNat)
  case atStart => exact ⟨0, Nat.zero_le _, rfl, by rw [nlTo_zero, begin_zero]; rfl, by rw [nlTo_zero]; exact World.ownsRow_nil _ _ _ _, Below.refl _ _⟩
  case round =>
    obtain ⟨i, hi, rfl, rfl, hown, hb⟩ := hrel
    have HO := Lib.hid hown
    have HB := Lib.hid hb
    clear hown hb
    by_cases hlt : i < s.size
    · have hix := ix_bt s i hlt
      by_cases hnl : bt s i = 10
      · obtain ⟨q1, q2, q3, q4, q5⟩ := at_lf hlt hnl
        rw [hnl] at hix
        have hlen := spansT_len s (nlTo s i)
        have hnz := nlTo_le s i
        have hsucc := spansT_succ s (nlTo s i)
        have HF : Hid (∀ (u : Value) (w3 : World), w3.ownsRow w.heap.size 41 2 u (spansT s (nlTo s i) ++ [(beginF s (nlTo s i : Nat), spanT s (nlTo s i))]).length (cellsP (spansT s (nlTo s i) ++ [(beginF s (nlTo s i : Nat), spanT s (nlTo s i))])) → Below w.heap.size w w3 →
            ∃ j : Nat, j ≤ s.size ∧ Value.int .i64 ((i : Int) + 1) = .int .i64 j ∧ Value.int .i64 ((i : Int) + 1) = .int .i64 (beginF s (nlTo s j : Nat)) ∧ w3.ownsRow w.heap.size 41 2 u (spansT s (nlTo s j)).length (cellsP (spansT s (nlTo s j))) ∧ Below w.heap.size w w3) :=
          fun u w3 h1 h2 => ⟨i + 1, hlt, by go_num, by rw [q3, q2]; go_num, by rw [q3, hsucc]; exact h1, h2⟩
        clear q1 q2 q3 hsucc hnl
        generalize spansT s (nlTo s i) = l at *
        generalize beginF s (nlTo s i : Nat) = F at *
        generalize spanT s (nlTo s i) = T at *
        have hll : l.length ≤ 4294967296 := by omega
        clear hlen hnz
        rcases q5 with ⟨rfl, q6⟩ | ⟨q5, q6, q7⟩
        · rcases Nat.lt_or_ge F T with hft | hft
          · have hr := q6 hft
            have g1 : (F : Int) < (T : Int) := by omega
            obtain ⟨j, hj⟩ : ∃ j, T - 1 = j := ⟨T - 1, rfl⟩
            rw [hj] at hr
            have hjx := ix_bt s j (by omega)
            have hr2 : ¬ ((bt s j : Nat) : Int) = 13 := by omega
            have hwj : IntKind.i64.wrap ((T : Int) - 1) = (j : Int) := by rw [IntWalk.i64_in _ (by omega)]; omega
            clear hj
            go_wp2_with (at_builtin; refine wpList_app_span rfl _ _ rfl w.heap.size _ l F T _ HO.out rfl _ rfl rfl hll (by have := HB.out.size; omega) ?_; intro v2 w3 hown3 hg3; have HO3 := Lib.hid hown3; have HB3 := Lib.hid ((HB.out.alloc HB.out.size _).grown hg3 (by have := HB.out.size; simp; omega) (fun j hj => (HO.out.lt j hj).1)); clear hown3 hg3)
            go_roundw
            case rel => exact HF.out _ _ HO3.out HB3.out
            case measure => simp [intOf]; omega
          · have g1 : ¬ (F : Int) < (T : Int) := by omega
            go_wp2_with (at_builtin; refine wpList_app_span rfl _ _ rfl w.heap.size _ l F T _ HO.out rfl _ rfl rfl hll (by have := HB.out.size; omega) ?_; intro v2 w3 hown3 hg3; have HO3 := Lib.hid hown3; have HB3 := Lib.hid ((HB.out.alloc HB.out.size _).grown hg3 (by have := HB.out.size; simp; omega) (fun j hj => (HO.out.lt j hj).1)); clear hown3 hg3)
            go_roundw
            case rel => exact HF.out _ _ HO3.out HB3.out
            case measure => simp [intOf]; omega
        · have e : i - 1 = T := by omega
          rw [e] at q7
          have hjx := ix_bt s T (by omega)
          rw [q7] at hjx
          have g1 : (F : Int) < (i : Int) := by omega
          have hwj : IntKind.i64.wrap ((i : Int) - 1) = (T : Int) := by rw [IntWalk.i64_in _ (by omega)]; omega
          clear e q5 q7
          go_wp2_with (at_builtin; refine wpList_app_span rfl _ _ rfl w.heap.size _ l F T _ HO.out rfl _ rfl rfl hll (by have := HB.out.size; omega) ?_; intro v2 w3 hown3 hg3; have HO3 := Lib.hid hown3; have HB3 := Lib.hid ((HB.out.alloc HB.out.size _).grown hg3 (by have := HB.out.size; simp; omega) (fun j hj => (HO.out.lt j hj).1)); clear hown3 hg3)
          go_roundw
          case rel => exact HF.out _ _ HO3.out HB3.out
          case measure => simp [intOf]; omega
      · have hnl2 : ¬ ((bt s i : Nat) : Int) = 10 := by omega
        have h1 : nlTo s (i + 1) = nlTo s i := by have := nlTo_succ s hlt; rw [if_neg hnl] at this; omega
        have HF : Hid (∃ j : Nat, j ≤ s.size ∧ Value.int .i64 ((i : Int) + 1) = .int .i64 j ∧ Value.int .i64 (beginF s (nlTo s i : Nat)) = .int .i64 (beginF s (nlTo s j : Nat)) ∧ wr.ownsRow w.heap.size 41 2 u3 (spansT s (nlTo s j)).length (cellsP (spansT s (nlTo s j))) ∧ Below w.heap.size w wr) :=
          ⟨i + 1, hlt, by go_num, by rw [h1], by rw [h1]; exact HO.out, HB.out⟩
        clear h1 hnl
        go_wp2
        go_roundw
        case rel => exact HF.out
        case measure => simp [intOf]; omega
    · obtain rfl : i = s.size := by omega
      obtain ⟨Z, hZ⟩ : ∃ Z, nlTo s s.size = Z := ⟨_, rfl⟩
      have hZ2 : Z = nlF s := by rw [← hZ, nlTo_all]
      have hnz := nlTo_le s s.size
      rw [hZ] at HO hnz ⊢
      have hlen := spansT_len s Z
      have hll : (spansT s Z).length ≤ 4294967296 := by omega
      have hsucc := spansT_succ s Z
      have hT : spanT s Z = s.size := by unfold spanT; rw [if_neg (by omega)]
      rw [hT] at hsucc
      have HS : Hid (spansT s (nlF s + 1) = spansT s Z ++ [(beginF s (Z : Nat), s.size)]) := by show _ = _; rw [← hZ2]; exact hsucc
      clear hlt hlen hnz hsucc hT hZ hZ2
      generalize spansT s Z = l at *
      generalize beginF s (Z : Nat) = F at *
      go_wp2_with (at_builtin; refine wpList_app_span rfl _ _ rfl w.heap.size _ l F s.size _ HO.out rfl _ rfl rfl hll (by have := HB.out.size; omega) ?_; intro v2 w3 hown3 hg3; have HO3 := Lib.hid hown3; have HB3 := Lib.hid ((HB.out.alloc HB.out.size _).grown hg3 (by have := HB.out.size; simp; omega) (fun j hj => (HO.out.lt j hj).1)); clear hown3 hg3)
      go_ret
      refine ⟨_, rfl, ?_, HB3.out⟩
      rw [HS.out]
      exact HO3.out
/-- A row of spans is read. -/
theorem span_cells {w : World} {base n : Nat} {v : Value} {l : List (Nat × Nat)} (h : w.ownsRow base 41 2 v n (cellsP l)) (hn : n = l.length) (k : Nat) (hk : k < l.length) : ∃ g c, v = .slice (some ⟨g, 0, none⟩) n c ∧ w.cell? ⟨g, k * 2, none⟩ = some (.int .i64 l[k].1) ∧ w.cell? ⟨g, k * 2 + 1, none⟩ = some (.int .i64 l[k].2) := by
  subst hn
  obtain ⟨g, c, he, -, -⟩ := h.form (by omega)
  subst he
  refine ⟨g, c, rfl, ?_, ?_⟩
  · exact (h.cellAt (k * 2) (by omega)).trans (cellsP_at l k hk).1
  · exact (h.cellAt (k * 2 + 1) (by omega)).trans (cellsP_at l k hk).2

set_option maxRecDepth 100000 in
theorem RefCount_any (s : ByteArray) (w : World) (hs : s.size ≤ 1073741824) :
    Calls Tryz.prog 22 #[.string s] w fun e w' => e = .returned (.int .i64 (nlF s + 1)) ∧ Below w.heap.size w w' := by
  go_enter Tryz.func22, Tryz.ntmps22
  go_wp2_with fail
  refine (RefLines_any s w hs).mono ?_
  rintro e w1 ⟨v, rfl, hown, hb⟩
  rw [spansT_len] at hown
  obtain ⟨A, c, rfl⟩ := row_forma hown
  have HB := Lib.hid hb
  clear hown hb
  go_wp2
  go_ret
  refine ⟨?_, HB.out⟩
  go_num
set_option maxRecDepth 100000 in
theorem RefOf_any (s : ByteArray) (i : Int) (w : World) (hs : s.size ≤ 1073741824) :
    Calls Tryz.prog 23 #[.string s, .int .i64 i] w fun e w' => e = .returned (.tuple #[.int .i64 (ofA s i).1, .int .i64 (ofA s i).2]) ∧ Below w.heap.size w w' := by
  by_cases hc : 0 ≤ i ∧ i ≤ s.size
  · obtain ⟨n, rfl⟩ : ∃ n : Nat, i = n := ⟨i.toNat, by omega⟩
    have h0 : ¬ (n : Int) < 0 := by omega
    have h1 : ¬ (s.size : Int) < (n : Int) := by omega
    have h2 : (0 : Int) ≤ (n : Int) := by omega
    have h3 : (n : Int) ≤ (s.size : Int) := by omega
    have he : ofA s n = ((nlTo s n : Int), 0) := by unfold ofA; rw [if_pos hc, Int.toNat_natCast]
    have hz := piece_size s (F := 0) (T := n) (by omega)
    have hn : nlF (s.extract 0 n) = nlTo s n := rfl
    have KC := fun w => RefCount_any (s.extract 0 n) w (by omega)
    rw [hn] at KC
    have HKC := Lib.hid KC
    have hnz := nlTo_le s n
    rw [he]
    clear KC hn hz he hc
    generalize nlTo s n = N at *
    have hw : IntKind.i64.wrap (N : Int) = (N : Int) := IntWalk.i64_in _ (by omega)
    have e1 : (N : Int) + 1 - 1 = (N : Int) := by omega
    go_enter Tryz.func23, Tryz.ntmps23
    go_wp2_with fail
    refine (HKC.out _).mono ?_
    rintro e w1 ⟨rfl, hb⟩
    have HB := Lib.hid hb
    clear hb
    go_wp2
    refine bodyPost_ret (v := .tuple #[.int .i64 N, .int .i64 0]) (by simp [results, Tryz.results23, go_sem]) rfl ⟨rfl, HB.out⟩
  · have he : ofA s i = (0, 1) := by unfold ofA; rw [if_neg hc]
    rw [he]
    clear he
    rcases (by omega : i < 0 ∨ (¬ i < 0 ∧ s.size < i)) with h0 | ⟨h0, h1⟩
    · clear hc
      go_enter Tryz.func23, Tryz.ntmps23
      go_wp2
      refine bodyPost_ret (v := .tuple #[.int .i64 0, .int .i64 1]) (by simp [results, Tryz.results23, go_sem]) rfl ⟨rfl, Below.refl _ _⟩
    · clear hc
      go_enter Tryz.func23, Tryz.ntmps23
      go_wp2
      refine bodyPost_ret (v := .tuple #[.int .i64 0, .int .i64 1]) (by simp [results, Tryz.results23, go_sem]) rfl ⟨rfl, Below.refl _ _⟩
end Go.Proofs.YtgmpohdkignadaaGreatDoor.Ut
/-
  lines.Lines: its iterator, for every loop body that keeps what lay and is not its own. Condition: TextIs.
-/
namespace Go.Proofs.YtgmpohdkignadaaGreatDoor.Ut
open Go.RowKit Go.Proofs.YtgmpohdkignadaaGreatDoor.Reg
set_option linter.unusedVariables false
set_option linter.unusedSimpArgs false

/-- What a round keeps: all that lies, but the blocks that are the body's own. -/
structure KpL (Mine : World → Nat → Prop) (W W' : World) : Prop where
  size : W.heap.size ≤ W'.heap.size
  lies : ∀ g vs, Lies W g vs → ¬ Mine W g → Lies W' g vs ∧ ¬ Mine W' g
theorem KpL.trans {M : World → Nat → Prop} {A B C : World} (h : KpL M A B) (k : KpL M B C) : KpL M A C :=
  ⟨Nat.le_trans h.size k.size, fun g vs h1 h2 => by obtain ⟨a, b⟩ := h.lies g vs h1 h2; exact k.lies g vs a b⟩
/-- What must be so of a body's own blocks. -/
structure OwnOk (Mine : World → Nat → Prop) : Prop where
  fresh : ∀ W W' k, W.grownBy W' none → Mine W' k → Mine W k
  put : ∀ (W : World) (l : Nat) (o o' : Obj), W.heap[l]? = some o → o.isCells = false → ∀ k, Mine (W.putObj l o') k → Mine W k
theorem kpL_b {M : World → Nat → Prop} (hM : OwnOk M) {w : World} (W : World) (l : Nat) (o o' : Obj) (hl : w.heap.size ≤ l) (h : W.heap[l]? = some o) (h1 : o.isCells = false) (_ : o.isWalk = false) : KpL M W (W.putObj l o') :=
  ⟨by show W.heap.size ≤ (W.heap.setIfInBounds l o').size; simp, fun g vs hL hm => ⟨hL.kept (grownBy_putObj' W l o') (fun r e => by cases e; exact ⟨o, h, h1⟩), fun hc => hm (hM.put W l o o' h h1 g hc)⟩⟩
theorem grown_of_below {W W' : World} (hb : Below W.heap.size W W') : W.grownBy W' none := ⟨hb.os, hb.tape, hb.output, hb.size, fun k hk _ => hb.block k hk⟩
theorem below_of_grown {W W' : World} (h : W.grownBy W' none) : Below W.heap.size W W' := ⟨h.os, h.tape, h.output, h.size, fun k hk => h.block k hk (by simp)⟩

theorem set_two (z a b : Value) (r : List Value) : ∀ l : List Value, ((l ++ z :: z :: r).set l.length a).set (l.length + 1) b = l ++ [a, b] ++ r
  | [] => rfl
  | x :: l => by
    have := set_two z a b r l
    simp at this ⊢
/-- The row while it is filled: the spans of i lines, the rest still zero. -/
def fillT (s : ByteArray) (N i : Nat) : List Value := cellsP (spansT s i) ++ List.replicate ((N - i) * 2) (.int .i64 0)
theorem cellsP_len : ∀ l : List (Nat × Nat), (cellsP l).length = l.length * 2
  | [] => rfl
  | x :: r => by
    have e : cellsP (x :: r) = .int .i64 x.1 :: .int .i64 x.2 :: cellsP r := rfl
    rw [e, List.length_cons, List.length_cons, cellsP_len r, List.length_cons]; omega
theorem fill_len (s : ByteArray) {N i : Nat} (h : i ≤ N) : (fillT s N i).length = N * 2 := by
  unfold fillT; rw [List.length_append, cellsP_len, spansT_len, List.length_replicate]; omega
theorem fill_succ (s : ByteArray) {N i : Nat} (h : i < N) : ((fillT s N i).set (i * 2) (.int .i64 (beginF s (i : Nat)))).set (i * 2 + 1) (.int .i64 (spanT s i)) = fillT s N (i + 1) := by
  unfold fillT
  have e : List.replicate ((N - i) * 2) (Value.int .i64 0) = .int .i64 0 :: .int .i64 0 :: List.replicate ((N - (i + 1)) * 2) (.int .i64 0) := by
    rw [show (N - i) * 2 = (N - (i + 1)) * 2 + 1 + 1 by omega]; rfl
  have hl : (cellsP (spansT s i)).length = i * 2 := by rw [cellsP_len, spansT_len]
  rw [e, ← hl, set_two, spansT_succ, cellsP_app]
theorem fill_at (s : ByteArray) {N i : Nat} (h : i < N) : (fillT s N i)[i * 2]? = some (.int .i64 0) ∧ (fillT s N i)[i * 2 + 1]? = some (.int .i64 0) := by
  have hl : (cellsP (spansT s i)).length = i * 2 := by rw [cellsP_len, spansT_len]
  unfold fillT
  constructor
  · rw [List.getElem?_append_right (by omega), hl, Nat.sub_self, List.getElem?_replicate, if_pos (by omega)]
  · rw [List.getElem?_append_right (by omega), hl, List.getElem?_replicate, if_pos (by omega)]
theorem fill_zero (s : ByteArray) (N : Nat) : fillT s N 0 = List.replicate (N * 2) (.int .i64 0) := rfl
theorem fill_all (s : ByteArray) (N : Nat) : fillT s N N = cellsP (spansT s N) := by unfold fillT; simp

def spanV (s : ByteArray) (i : Nat) : Value := .agg #[.int .i64 (beginF s (i : Nat)), .int .i64 (spanT s i)]

theorem made_lies (W : World) (n : Nat) (t : TypeId) : Lies (W.alloc (.cells (madeCells (Value.agg #[.int .i64 0, .int .i64 0]).cells (n * 2)) t)) W.heap.size (List.replicate (n * 2) (.int .i64 0)) := by
  have e : madeCells (Value.agg #[.int .i64 0, .int .i64 0]).cells (n * 2) = (List.replicate (n * 2) (Value.int .i64 0)).toArray := by
    apply Array.ext
    · rw [size_madeCells]; simp
    · intro k h1 h2
      have hk : k % 2 = 0 ∨ k % 2 = 1 := by omega
      rcases hk with h | h <;> simp [madeCells, Value.cells, h]
  rw [e]
  exact Lies.new W _ t

set_option maxRecDepth 100000 in
set_option maxHeartbeats 2000000 in
theorem lines1_in (n : Nat) (hn : 1 ≤ n) (l Bx : Nat) (v : Value) (s : ByteArray) (w0 : World) (hX : TextIs w0 v s) (Mine : World → Nat → Prop) (hM : OwnOk Mine) (J Jx : List Nat → World → Prop)
    (hY : ∀ (pre : List Nat) (x : Nat) (W : World), J pre W → pre.length < (List.range (nlF s + 1)).length → YieldAt Fence.wide (n - 1) Tryz.prog l #[.int .i64 (x : Nat), spanV s x] W fun e W' =>
      (e = .returned (.bool true) ∧ J (pre ++ [x]) W' ∧ KpL Mine W W') ∨ (e = .returned (.bool false) ∧ Jx (pre ++ [x]) W'))
    (W : World) (hW : Below w0.heap.size w0 W) (hJ : AbidesFrom W.heap.size J) (hc : W.cell? ⟨Bx, 0, none⟩ = some v) (hMl : ∀ k, Mine W k → k < W.heap.size) (h0 : J [] W) :
    CallsIn Fence.wide n Tryz.prog 48 #[.func (.yield l) #[] #[], .pointer (some ⟨Bx, 0, none⟩)] W fun e W' => (∃ v, e = .returned v) ∧ ((∃ xs, xs = List.range (nlF s + 1) ∧ J xs W') ∨ (∃ pre, pre <+: List.range (nlF s + 1) ∧ Jx pre W')) := by
  have hXW := hX.below hW
  have HX := Lib.hid hXW
  have hBl : Bx < W.heap.size := World.block_lt_of_cell? W _ hc
  have hs := hX.small
  have hnz := nlTo_le s s.size
  rw [nlTo_all] at hnz
  have HC := Lib.hid (fun w h => LnCount_any v s w h)
  have HS := Lib.hid (fun i w h hl => LnSpan_any v s i w h hl)
  obtain ⟨N, hN⟩ : ∃ N, nlF s + 1 = N := ⟨_, rfl⟩
  have hNI : ((nlF s : Int) + 1) = (N : Int) := by omega
  rw [hNI] at HC
  rw [hN] at HS hY ⊢
  have hNs : N ≤ 1073741825 := by omega
  have hN1 : 1 ≤ N := by omega
  have HNN := Lib.hid hN
  clear hX hW hXW hnz hN hNI hs
  refine callsIn_of_wp Tryz.func48 rfl trivial ?_ rfl
  simp only [Tryz.ntmps48, List.size_toArray, List.length_cons, List.length_nil, Nat.reduceAdd, Nat.reduceSub, Array.replicate_succ, Array.replicate_zero, List.push_toArray, List.append_toArray, List.nil_append, List.cons_append]
  have hform := HX.out.form
  gi_wp2_with fail
  refine ⟨trivial, (callsIn_wide.2 (HC.out W HX.out)).mono ?_⟩
  rintro e w1 ⟨rfl, hb1⟩
  have X1 := Lib.hid (HX.out.below hb1)
  have hc1 := (hb1.cell (p := ⟨Bx, 0, none⟩) hBl).trans hc
  have hBl1 := Nat.lt_of_lt_of_le hBl hb1.size
  obtain ⟨i0, hi, hz0, hz1, hz2⟩ := info_parts infoSpan
  have hmk := run_make (P := Tryz.prog) w1 72 41 i0 (.agg #[.int .i64 0, .int .i64 0]) Tryz.underlying72 hi hz0 .i64 .i64 N N (by omega) (Int.le_refl _) (by rw [hz2]; omega) (by omega)
  simp only [Int.toNat_natCast, hz1] at hmk
  have L2 := made_lies w1 N 41
  have b2 : Below w1.heap.size w1 (w1.alloc (.cells (madeCells (Value.agg #[.int .i64 0, .int .i64 0]).cells (N * 2)) 41)) := (Below.refl _ _).alloc (Nat.le_refl _) _
  generalize (w1.alloc (.cells (madeCells (Value.agg #[.int .i64 0, .int .i64 0]).cells (N * 2)) 41)) = w2 at *
  have X2 := Lib.hid (X1.out.below b2)
  have hc2 := (b2.cell (p := ⟨Bx, 0, none⟩) hBl1).trans hc1
  have hgW : W.heap.size ≤ w1.heap.size := hb1.size
  have HB2 := Lib.hid (hb1.trans (b2.mono hb1.size))
  have hgne : ¬ w1.heap.size = Bx := by omega
  generalize w1.heap.size = g at *
  have HL2 := Lib.hid L2
  have Hc2 := Lib.hid hc2
  have hB2 : Bx < w2.heap.size := World.block_lt_of_cell? w2 _ hc2
  have HXW : Hid (TextIs W v s) := HX.out
  clear L2 hc1 hc2 hb1 b2 X1 X2 HX hi hz0 hz1 hz2 HC hBl1
  gi_wp2
  gi_loopw [12] (fun y wr => ∃ i : Nat, i ≤ N ∧ y = .int .i64 i ∧ Lies wr g (fillT s N i) ∧ Chg (fun k => k = g) w2 wr) (fun y _ => N - (intOf y).toNat)
  case atStart => exact ⟨0, Nat.zero_le _, rfl, by rw [fill_zero]; exact HL2.out, Chg.refl _ _⟩
  case round =>
    obtain ⟨i, hi, rfl, hL, hch⟩ := hrel
    by_cases hlt : i < N
    · have hcr := (hch.cell (p := ⟨Bx, 0, none⟩) hB2 (fun h => hgne h.symm)).trans Hc2.out
      have hwr : Below W.heap.size W wr := chg_mine HB2.out hch hgW
      have HXr : Hid (TextIs wr v s) := HXW.out.below hwr
      have HCh := Lib.hid hch
      have HLr := Lib.hid hL
      have hBr : Bx < wr.heap.size := World.block_lt_of_cell? wr _ hcr
      have HCr := Lib.hid hcr
      clear hwr hch hL
      gi_wp2_with fail
      refine ⟨trivial, (callsIn_wide.2 (HS.out i wr HXr.out (by omega))).mono ?_⟩
      rintro e w3 ⟨rfl, hb3⟩
      have L3 := HLr.out.below hb3
      obtain ⟨p1, p2⟩ := fill_at s hlt
      obtain ⟨c0, f0⟩ := L3.2 _ _ p1
      obtain ⟨c1, f1⟩ := L3.2 _ _ p2
      have L4 := (L3.set (i * 2) (.int .i64 (beginF s (i : Nat)))).set (i * 2 + 1) (.int .i64 (spanT s i))
      rw [fill_succ s hlt] at L4
      have HL4 := Lib.hid L4
      have HCh4 := Lib.hid ((HCh.out.then_below hb3).trans ((Chg.set w3 ⟨g, i * 2, none⟩ (.int .i64 (beginF s (i : Nat)))).trans (Chg.set _ ⟨g, i * 2 + 1, none⟩ (.int .i64 (spanT s i))) (fun _ _ h => h)) (fun _ _ h => h))
      have hiI : (i : Int) < (N : Int) := by omega
      have hi0 : (0 : Int) ≤ (i : Int) := by omega
      clear L3 L4 p1 p2 hb3 HLr HCh HXr HCr hcr
      gi_wp2
      go_roundw
      case rel => exact ⟨i + 1, by omega, by go_num, HL4.out, HCh4.out⟩
      case measure => simp [intOf]; omega
    · obtain rfl : i = N := by omega
      have hwr : Below W.heap.size W wr := chg_mine HB2.out hch hgW
      have hm : ¬ Mine wr g := fun h => by have := hMl g (hM.fresh W wr g (grown_of_below hwr) h); omega
      have hJr : J [] wr := hJ [] W wr none h0 (grown_of_below hwr) (fun r e => by cases e)
      rw [fill_all] at hL
      have HL := Lib.hid hL
      clear hL hch hwr hlt hi Hc2 HL2 HXW HS
      gi_wp2
      gi_loopw [27] (fun y wr => ∃ j : Nat, j ≤ i ∧ y = .int .i64 j ∧ J (List.range j) wr ∧ Lies wr g (cellsP (spansT s i)) ∧ ¬ Mine wr g) (fun y _ => i - (intOf y).toNat)
      case atStart => exact ⟨0, Nat.zero_le _, rfl, hJr, HL.out, hm⟩
      case round =>
        obtain ⟨j, hj, rfl, hJj, hLj, hmj⟩ := hrel
        by_cases hlt : j < i
        · obtain ⟨q0, q1⟩ := cellsP_at (spansT s i) j (by rw [spansT_len]; exact hlt)
          rw [spansT_at] at q0 q1
          obtain ⟨r0, -⟩ := hLj.2 _ _ q0
          obtain ⟨r1, -⟩ := hLj.2 _ _ q1
          have b5 : Below wr.heap.size wr (wr.alloc (.cells #[.int .i64 (beginF s (j : Nat)), .int .i64 (spanT s j)] 41)) := (Below.refl _ _).alloc (Nat.le_refl _) _
          have hJ5 := hJ _ _ _ none hJj (grown_of_below b5) (fun r e => by cases e)
          have L5 := Lib.hid (hLj.below b5)
          have m5 : Hid (¬ Mine (wr.alloc (.cells #[.int .i64 (beginF s (j : Nat)), .int .i64 (spanT s j)] 41)) g) := fun h => hmj (hM.fresh wr _ g (grown_of_below b5) h)
          have hY5 := hY (List.range j) j _ hJ5 (by simp; omega)
          unfold spanV at hY5
          have j0 : (0 : Int) ≤ (j : Int) := by omega
          have j1 : (j : Int) < (i : Int) := by omega
          obtain ⟨fn, tmps, assign, body, hy, hR⟩ := hY5
          have HR := Lib.hid hR
          clear hR hY hJ5 b5 hLj hJj hmj q0 q1
          gi_wp2
          refine HR.out.mono ?_
          rintro e W3 (⟨rfl, hJ3, hk3⟩ | ⟨rfl, hJx3⟩)
          · obtain ⟨L6, m6⟩ := hk3.lies g _ L5.out m5.out
            have H6 := Lib.hid L6
            have H7 := Lib.hid m6
            have H8 := Lib.hid hJ3
            clear L6 m6 hJ3 hk3
            gi_wp2
            go_roundw
            case rel => exact ⟨j + 1, by omega, by go_num, by rw [List.range_succ]; exact H8.out, H6.out, H7.out⟩
            case measure => simp [intOf]; omega
          · gi_wp2
            refine bodyPost_ret (results_none rfl _ _ _) rfl ?_
            refine ⟨⟨_, rfl⟩, .inr ⟨List.range j ++ [j], ⟨List.range' (j + 1) (i - (j + 1)), ?_⟩, hJx3⟩⟩
            rw [← List.range_succ, List.range_eq_range', List.range_eq_range']
            have := @List.range'_append_1 0 (j + 1) (i - (j + 1))
            rw [Nat.zero_add, show j + 1 + (i - (j + 1)) = i by omega] at this
            exact this
        · obtain rfl : j = i := by omega
          have H8 := Lib.hid hJj
          clear hY hLj hJj hmj
          gi_wp2
          go_end0
          exact ⟨⟨_, rfl⟩, .inl ⟨_, rfl, H8.out⟩⟩

theorem lines_stops (n : Nat) (hn : 1 ≤ n) (Bx : Nat) (v : Value) (s : ByteArray) (w0 w : World) (hX : TextIs w0 v s) (hb : Below w0.heap.size w0 w) (hc : w.cell? ⟨Bx, 0, none⟩ = some v) (Mine : World → Nat → Prop) (hM : OwnOk Mine) (hMl : ∀ k, Mine w k → k < w.heap.size) :
    SeqStopsK Fence.wide n Tryz.prog 48 #[.pointer (some ⟨Bx, 0, none⟩)] (fun x : Nat => #[.int .i64 (x : Nat), spanV s x]) (KpL Mine) (fun xs => xs = List.range (nlF s + 1)) (fun pre => pre <+: List.range (nlF s + 1)) (List.range (nlF s + 1)).length w :=
  fun l J Jx W hW hJ _ hY h0 => lines1_in n hn l Bx v s w0 hX Mine hM J Jx hY W (hb.trans (hW.mono hb.size)) hJ ((hW.cell (p := ⟨Bx, 0, none⟩) (World.block_lt_of_cell? w _ hc)).trans hc) (fun k hk => Nat.lt_of_lt_of_le (hMl k (hM.fresh w W k (grown_of_below hW) hk)) hW.size) h0
theorem LnLines_any (v : Value) (w : World) (hv : v = .nilIface ∨ ∃ t x, v = .iface t x) : Calls Tryz.prog 31 #[v] w fun e w' => e = .returned (.func (.func 48) #[] #[.pointer (some ⟨w.heap.size, 0, none⟩)]) ∧ w' = w.alloc (.cells #[v] 28) := by
  rcases hv with rfl | ⟨t, x, rfl⟩
  all_goals
    go_enter Tryz.func31, Tryz.ntmps31
    go_wp2
    go_ret
    exact ⟨rfl, rfl⟩
end Go.Proofs.YtgmpohdkignadaaGreatDoor.Ut
