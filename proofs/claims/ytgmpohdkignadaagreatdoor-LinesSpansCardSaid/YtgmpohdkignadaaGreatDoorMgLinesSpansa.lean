/-
  What the proof of the row LinesSpans rests on: the texts RfA Region6. Conditions: each theorem names its own.
-/
import Derived.Test.YtgmpohdkignadaaGreatDoorMgLg
import Derived.Deep.AppendLies
import Derived.Laws.OwnMore
import Derived.Test.YtgmpohdkignadaaGreatDoorMgLb
import Derived.Test.YtgmpohdkignadaaGreatDoorMgLj
/-
  bodkinref11.Lines, Count, Of, Span, Line: what they answer. No condition.
-/
namespace Go.Proofs.YtgmpohdkignadaaGreatDoor.Ut
open Go.RowKit Go.Proofs.YtgmpohdkignadaaGreatDoor.Reg
set_option linter.unusedVariables false
set_option linter.unusedSimpArgs false

theorem row_forma {w : World} {base e size n : Nat} {v : Value} {xs : List Value} (h : w.ownsRow base e size v n xs) : ∃ A c, v = .slice A n c := by
  rcases h.2 with ⟨rfl, rfl⟩ | ⟨g, cap, cur, rfl, _⟩
  · exact ⟨none, 0, rfl⟩
  · exact ⟨_, cap, rfl⟩
theorem infoSpan : (Tryz.prog.info? 41).map (fun i => (i.zero, i.size, i.bytes)) = some (some (.agg #[.int .i64 0, .int .i64 0]), 2, 16) := by kernel_rfl
theorem two_new (w : World) (x y : Value) (t : TypeId) : ∀ (j : Nat) (u : Value), [x, y][j]? = some u → (w.alloc (.cells #[x, y] t)).cell? ((⟨w.heap.size, 0, none⟩ : Addr).add j) = some u := by
  intro j u hj
  match j, hj with
  | 0, hj => simp at hj; subst hj; simp [Addr.add]
  | 1, hj => simp at hj; subst hj; simp [Addr.add]
theorem ix_bt (O : ByteArray) (j : Nat) (h : j < O.size) (w : World) : (Instr.index 9 (.string O) (.int .i64 j)).run Tryz.prog w = .ok (.int .u8 (bt O j)) w := by
  rw [run_index_string w 9 O .i64 j Tryz.underlying9, dif_pos ⟨by omega, by omega⟩, bt_in O h]
  rfl
/-- The cells of a list of spans. -/
def cellsP (l : List (Nat × Nat)) : List Value := l.flatMap fun x => [.int .i64 x.1, .int .i64 x.2]
theorem cellsP_app (l : List (Nat × Nat)) (a b : Nat) : cellsP (l ++ [(a, b)]) = cellsP l ++ [.int .i64 a, .int .i64 b] := by
  unfold cellsP; rw [List.flatMap_append]; rfl
theorem cellsP_at : ∀ (l : List (Nat × Nat)) (k : Nat) (h : k < l.length), (cellsP l)[k * 2]? = some (.int .i64 l[k].1) ∧ (cellsP l)[k * 2 + 1]? = some (.int .i64 l[k].2)
  | x :: r, 0, _ => ⟨rfl, rfl⟩
  | x :: r, k + 1, h => by
    have := cellsP_at r k (by simpa using h)
    have e : cellsP (x :: r) = .int .i64 x.1 :: .int .i64 x.2 :: cellsP r := rfl
    rw [e, show (k + 1) * 2 = k * 2 + 1 + 1 by omega]
    simpa using this
theorem grown_cella {w w' : World} {row : Option Nat} (hg : w.grownBy w' row) {p : Addr} (hp : p.block < w.heap.size) (hn : row ≠ some p.block) : w'.cell? p = w.cell? p :=
  (Chg.of_grown hg).cell hp (fun h => hn h.symm)
theorem wpList_app_span {ops : Array Oper} {rest : List Oper} {o : Oper} {a : Act} {Q : Exit → Act → World → Prop} {w : World} (hgd : o.guard = none) (s x : Operand)
    (ho : o.op = .call { callee := .builtin .append, args := #[s, x], argTypes := #[72, 72] })
    (base : Nat) (u : Value) (l : List (Nat × Nat)) (p q : Nat) (ty : TypeId) (hown : w.ownsRow base 41 2 u l.length (cellsP l)) (hs : a.eval s = u)
    (g : Nat) (hgs : g = w.heap.size) (hx : a.eval x = .slice (some ⟨g, 0, none⟩) 1 1) (hlen : l.length ≤ 4294967296) (hbase : base ≤ w.heap.size)
    (h : ∀ v' w', w'.ownsRow base 41 2 v' (l ++ [(p, q)]).length (cellsP (l ++ [(p, q)])) → (w.alloc (.cells #[.int .i64 p, .int .i64 q] ty)).grownBy w' u.ownBlock → wpList Tryz.prog ops Q rest (a.put o.dst v') w') :
    wpList Tryz.prog ops Q (o :: rest) a (w.alloc (.cells #[.int .i64 p, .int .i64 q] ty)) := by
  subst hgs
  obtain ⟨i0, hi, hz0, hz1, hz2⟩ := info_parts infoSpan
  refine wpList_append_own _ hgd s x 72 ho base 41 i0 (.agg #[.int .i64 0, .int .i64 0]) 2 16 Tryz.underlying72 hi hz0 hz1 hz2 rfl (by decide) u l.length (cellsP l) hs (hown.alloc _) ⟨w.heap.size, 0, none⟩ 1 1 [.int .i64 p, .int .i64 q] hx rfl (two_new _ _ _ _) (by intro u hu; simp at hu; rcases hu with rfl | rfl <;> rfl) (by unfold maxLen; omega) (by omega) (by simp; omega) ?_
  intro v' w' h1 h2 _
  refine h v' w' ?_ h2
  rw [cellsP_app]
  simpa using h1

/-- The spans of the first m lines. -/
def spansT (s : ByteArray) (m : Nat) : List (Nat × Nat) := (List.range m).map fun l => (beginF s (l : Nat), spanT s l)
theorem spansT_len (s : ByteArray) (m : Nat) : (spansT s m).length = m := by simp [spansT]
theorem spansT_succ (s : ByteArray) (m : Nat) : spansT s (m + 1) = spansT s m ++ [(beginF s (m : Nat), spanT s m)] := by simp [spansT, List.range_succ]
theorem spansT_at (s : ByteArray) (m k : Nat) (h : k < (spansT s m).length) : (spansT s m)[k] = (beginF s (k : Nat), spanT s k) := by simp [spansT]
/-- At a newline. -/
theorem at_lf {s : ByteArray} {i : Nat} (hi : i < s.size) (h : bt s i = 10) : nlTo s i < nlF s ∧ beginF s (nlTo s i + 1 : Nat) = i + 1 ∧ nlTo s (i + 1) = nlTo s i + 1 ∧ beginF s (nlTo s i : Nat) ≤ i ∧
    ((spanT s (nlTo s i) = i ∧ (beginF s (nlTo s i : Nat) < i → bt s ((i - 1 : Nat) : Int) ≠ 13)) ∨ (spanT s (nlTo s i) + 1 = i ∧ beginF s (nlTo s i : Nat) < i ∧ bt s ((i - 1 : Nat) : Int) = 13)) := by
  have h1 := nlTo_succ s hi
  rw [if_pos h] at h1
  have h2 := nlTo_lt s (i + 1) (by omega)
  have hlt : nlTo s i < nlF s := by omega
  have h3 := begin_of_le s (N := nlTo s i + 1) (i := i + 1) (by omega)
  have h4 := lt_begin s (N := nlTo s i + 1) (i := i) (by omega) (by omega)
  have hb : beginF s (nlTo s i + 1 : Nat) = i + 1 := by omega
  have L := line_at s (N := nlTo s i) (by omega)
  obtain ⟨a, b, c⟩ := L.next hlt
  rw [hb] at c
  refine ⟨hlt, hb, h1, begin_of_le s (Nat.le_refl _), ?_⟩
  rcases c with ⟨c1, c2, c3⟩ | ⟨c1, c2, c3⟩
  · have e : spanT s (nlTo s i) = i := by omega
    rw [e] at c3
    exact .inl ⟨e, c3⟩
  · have e : spanT s (nlTo s i) + 1 = i := by omega
    refine .inr ⟨e, by have := L.le; omega, ?_⟩
    rw [show i - 1 = spanT s (nlTo s i) by omega]; exact c1

set_option maxRecDepth 100000 in
set_option maxHeartbeats 2000000 in
theorem RefLines_any (s : ByteArray) (w : World) (hs : s.size ≤ 1073741824) :
    Calls Tryz.prog 33 #[.string s] w fun e w' => ∃ v, e = .returned v ∧ w'.ownsRow w.heap.size 41 2 v (spansT s (nlF s + 1)).length (cellsP (spansT s (nlF s + 1))) ∧ Below w.heap.size w w' := by
  go_enter Tryz.func33, Tryz.ntmps33
  go_wp2
  go_loopw [3, 4, 5] (fun u x y wr => ∃ i : Nat, i ≤ s.size ∧ y = .int .i64 i ∧ x = .int .i64 (beginF s (nlTo s i : Nat)) ∧ wr.ownsRow w.heap.size 41 2 u (spansT s (nlTo s i)).length (cellsP (spansT s (nlTo s i))) ∧ Below w.heap.size w wr) (fun _ _ y _ => s.size - (intOf y).toNat)
  case atStart => exact ⟨0, Nat.zero_le _, rfl, by rw [nlTo_zero, begin_zero]; rfl, by rw [nlTo_zero]; exact World.ownsRow_nil _ _ _ _, Below.refl _ _⟩
  case round =>
    obtain ⟨i, hi, rfl, rfl, hown, hb⟩ := hrel
    have HO := Lib.hid hown
    have HB := Lib.hid hb
    clear hown hb
    by_cases hlt : i < s.size
    · have hix := ix_bt s i hlt
      by_cases hnl : bt s i = 10
      · obtain ⟨q1, q2, q3, q4, q5⟩ := at_lf hlt hnl
        rw [hnl] at hix
        have hlen := spansT_len s (nlTo s i)
        have hnz := nlTo_le s i
        have hsucc := spansT_succ s (nlTo s i)
        have HF : Hid (∀ (u : Value) (w3 : World), w3.ownsRow w.heap.size 41 2 u (spansT s (nlTo s i) ++ [(beginF s (nlTo s i : Nat), spanT s (nlTo s i))]).length (cellsP (spansT s (nlTo s i) ++ [(beginF s (nlTo s i : Nat), spanT s (nlTo s i))])) → Below w.heap.size w w3 →
            ∃ j : Nat, j ≤ s.size ∧ Value.int .i64 ((i : Int) + 1) = .int .i64 j ∧ Value.int .i64 ((i : Int) + 1) = .int .i64 (beginF s (nlTo s j : Nat)) ∧ w3.ownsRow w.heap.size 41 2 u (spansT s (nlTo s j)).length (cellsP (spansT s (nlTo s j))) ∧ Below w.heap.size w w3) :=
          fun u w3 h1 h2 => ⟨i + 1, hlt, by go_num, by rw [q3, q2]; go_num, by rw [q3, hsucc]; exact h1, h2⟩
        clear q1 q2 q3 hsucc hnl
        generalize spansT s (nlTo s i) = l at *
        generalize beginF s (nlTo s i : Nat) = F at *
        generalize spanT s (nlTo s i) = T at *
        have hll : l.length ≤ 4294967296 := by omega
        clear hlen hnz
        rcases q5 with ⟨rfl, q6⟩ | ⟨q5, q6, q7⟩
        · rcases Nat.lt_or_ge F T with hft | hft
          · have hr := q6 hft
            have g1 : (F : Int) < (T : Int) := by omega
            obtain ⟨j, hj⟩ : ∃ j, T - 1 = j := ⟨T - 1, rfl⟩
            rw [hj] at hr
            have hjx := ix_bt s j (by omega)
            have hr2 : ¬ ((bt s j : Nat) : Int) = 13 := by omega
            have hwj : IntKind.i64.wrap ((T : Int) - 1) = (j : Int) := by rw [IntWalk.i64_in _ (by omega)]; omega
            clear hj
            go_wp2_with (at_builtin; refine wpList_app_span rfl _ _ rfl w.heap.size _ l F T _ HO.out rfl _ rfl rfl hll (by have := HB.out.size; omega) ?_; intro v2 w3 hown3 hg3; have HO3 := Lib.hid hown3; have HB3 := Lib.hid ((HB.out.alloc HB.out.size _).grown hg3 (by have := HB.out.size; simp; omega) (fun j hj => (HO.out.lt j hj).1)); clear hown3 hg3)
            go_roundw
            case rel => exact HF.out _ _ HO3.out HB3.out
            case measure => simp [intOf]; omega
          · have g1 : ¬ (F : Int) < (T : Int) := by omega
            go_wp2_with (at_builtin; refine wpList_app_span rfl _ _ rfl w.heap.size _ l F T _ HO.out rfl _ rfl rfl hll (by have := HB.out.size; omega) ?_; intro v2 w3 hown3 hg3; have HO3 := Lib.hid hown3; have HB3 := Lib.hid ((HB.out.alloc HB.out.size _).grown hg3 (by have := HB.out.size; simp; omega) (fun j hj => (HO.out.lt j hj).1)); clear hown3 hg3)
            go_roundw
            case rel => exact HF.out _ _ HO3.out HB3.out
            case measure => simp [intOf]; omega
        · have e : i - 1 = T := by omega
          rw [e] at q7
          have hjx := ix_bt s T (by omega)
          rw [q7] at hjx
          have g1 : (F : Int) < (i : Int) := by omega
          have hwj : IntKind.i64.wrap ((i : Int) - 1) = (T : Int) := by rw [IntWalk.i64_in _ (by omega)]; omega
          clear e q5 q7
          go_wp2_with (at_builtin; refine wpList_app_span rfl _ _ rfl w.heap.size _ l F T _ HO.out rfl _ rfl rfl hll (by have := HB.out.size; omega) ?_; intro v2 w3 hown3 hg3; have HO3 := Lib.hid hown3; have HB3 := Lib.hid ((HB.out.alloc HB.out.size _).grown hg3 (by have := HB.out.size; simp; omega) (fun j hj => (HO.out.lt j hj).1)); clear hown3 hg3)
          go_roundw
          case rel => exact HF.out _ _ HO3.out HB3.out
          case measure => simp [intOf]; omega
      · have hnl2 : ¬ ((bt s i : Nat) : Int) = 10 := by omega
        have h1 : nlTo s (i + 1) = nlTo s i := by have := nlTo_succ s hlt; rw [if_neg hnl] at this; omega
        have HF : Hid (∃ j : Nat, j ≤ s.size ∧ Value.int .i64 ((i : Int) + 1) = .int .i64 j ∧ Value.int .i64 (beginF s (nlTo s i : Nat)) = .int .i64 (beginF s (nlTo s j : Nat)) ∧ wr.ownsRow w.heap.size 41 2 u3 (spansT s (nlTo s j)).length (cellsP (spansT s (nlTo s j))) ∧ Below w.heap.size w wr) :=
          ⟨i + 1, hlt, by go_num, by rw [h1], by rw [h1]; exact HO.out, HB.out⟩
        clear h1 hnl
        go_wp2
        go_roundw
        case rel => exact HF.out
        case measure => simp [intOf]; omega
    · obtain rfl : i = s.size := by omega
      obtain ⟨Z, hZ⟩ : ∃ Z, nlTo s s.size = Z := ⟨_, rfl⟩
      have hZ2 : Z = nlF s := by rw [← hZ, nlTo_all]
      have hnz := nlTo_le s s.size
      rw [hZ] at HO hnz ⊢
      have hlen := spansT_len s Z
      have hll : (spansT s Z).length ≤ 4294967296 := by omega
      have hsucc := spansT_succ s Z
      have hT : spanT s Z = s.size := by unfold spanT; rw [if_neg (by omega)]
      rw [hT] at hsucc
      have HS : Hid (spansT s (nlF s + 1) = spansT s Z ++ [(beginF s (Z : Nat), s.size)]) := by show _ = _; rw [← hZ2]; exact hsucc
      clear hlt hlen hnz hsucc hT hZ hZ2
      generalize spansT s Z = l at *
      generalize beginF s (Z : Nat) = F at *
      go_wp2_with (at_builtin; refine wpList_app_span rfl _ _ rfl w.heap.size _ l F s.size _ HO.out rfl _ rfl rfl hll (by have := HB.out.size; omega) ?_; intro v2 w3 hown3 hg3; have HO3 := Lib.hid hown3; have HB3 := Lib.hid ((HB.out.alloc HB.out.size _).grown hg3 (by have := HB.out.size; simp; omega) (fun j hj => (HO.out.lt j hj).1)); clear hown3 hg3)
      go_ret
      refine ⟨_, rfl, ?_, HB3.out⟩
      rw [HS.out]
      exact HO3.out
/-- A row of spans is read. -/
theorem span_cells {w : World} {base n : Nat} {v : Value} {l : List (Nat × Nat)} (h : w.ownsRow base 41 2 v n (cellsP l)) (hn : n = l.length) (k : Nat) (hk : k < l.length) : ∃ g c, v = .slice (some ⟨g, 0, none⟩) n c ∧ w.cell? ⟨g, k * 2, none⟩ = some (.int .i64 l[k].1) ∧ w.cell? ⟨g, k * 2 + 1, none⟩ = some (.int .i64 l[k].2) := by
  subst hn
  obtain ⟨g, c, he, -, -⟩ := h.form (by omega)
  subst he
  refine ⟨g, c, rfl, ?_, ?_⟩
  · exact (h.cellAt (k * 2) (by omega)).trans (cellsP_at l k hk).1
  · exact (h.cellAt (k * 2 + 1) (by omega)).trans (cellsP_at l k hk).2

set_option maxRecDepth 100000 in
theorem RefCount_any (s : ByteArray) (w : World) (hs : s.size ≤ 1073741824) :
    Calls Tryz.prog 22 #[.string s] w fun e w' => e = .returned (.int .i64 (nlF s + 1)) ∧ Below w.heap.size w w' := by
  go_enter Tryz.func22, Tryz.ntmps22
  go_wp2_with fail
  refine (RefLines_any s w hs).mono ?_
  rintro e w1 ⟨v, rfl, hown, hb⟩
  rw [spansT_len] at hown
  obtain ⟨A, c, rfl⟩ := row_forma hown
  have HB := Lib.hid hb
  clear hown hb
  go_wp2
  go_ret
  refine ⟨?_, HB.out⟩
  go_num
set_option maxRecDepth 100000 in
theorem RefOf_any (s : ByteArray) (i : Int) (w : World) (hs : s.size ≤ 1073741824) :
    Calls Tryz.prog 23 #[.string s, .int .i64 i] w fun e w' => e = .returned (.tuple #[.int .i64 (ofA s i).1, .int .i64 (ofA s i).2]) ∧ Below w.heap.size w w' := by
  by_cases hc : 0 ≤ i ∧ i ≤ s.size
  · obtain ⟨n, rfl⟩ : ∃ n : Nat, i = n := ⟨i.toNat, by omega⟩
    have h0 : ¬ (n : Int) < 0 := by omega
    have h1 : ¬ (s.size : Int) < (n : Int) := by omega
    have h2 : (0 : Int) ≤ (n : Int) := by omega
    have h3 : (n : Int) ≤ (s.size : Int) := by omega
    have he : ofA s n = ((nlTo s n : Int), 0) := by unfold ofA; rw [if_pos hc, Int.toNat_natCast]
    have hz := piece_size s (F := 0) (T := n) (by omega)
    have hn : nlF (s.extract 0 n) = nlTo s n := rfl
    have KC := fun w => RefCount_any (s.extract 0 n) w (by omega)
    rw [hn] at KC
    have HKC := Lib.hid KC
    have hnz := nlTo_le s n
    rw [he]
    clear KC hn hz he hc
    generalize nlTo s n = N at *
    have hw : IntKind.i64.wrap (N : Int) = (N : Int) := IntWalk.i64_in _ (by omega)
    have e1 : (N : Int) + 1 - 1 = (N : Int) := by omega
    go_enter Tryz.func23, Tryz.ntmps23
    go_wp2_with fail
    refine (HKC.out _).mono ?_
    rintro e w1 ⟨rfl, hb⟩
    have HB := Lib.hid hb
    clear hb
    go_wp2
    refine bodyPost_ret (v := .tuple #[.int .i64 N, .int .i64 0]) (by simp [results, Tryz.results23, go_sem]) rfl ⟨rfl, HB.out⟩
  · have he : ofA s i = (0, 1) := by unfold ofA; rw [if_neg hc]
    rw [he]
    clear he
    rcases (by omega : i < 0 ∨ (¬ i < 0 ∧ s.size < i)) with h0 | ⟨h0, h1⟩
    · clear hc
      go_enter Tryz.func23, Tryz.ntmps23
      go_wp2
      refine bodyPost_ret (v := .tuple #[.int .i64 0, .int .i64 1]) (by simp [results, Tryz.results23, go_sem]) rfl ⟨rfl, Below.refl _ _⟩
    · clear hc
      go_enter Tryz.func23, Tryz.ntmps23
      go_wp2
      refine bodyPost_ret (v := .tuple #[.int .i64 0, .int .i64 1]) (by simp [results, Tryz.results23, go_sem]) rfl ⟨rfl, Below.refl _ _⟩
end Go.Proofs.YtgmpohdkignadaaGreatDoor.Ut
/-
  A region that draws its order and in which one operation writes into a block that the region has made. No condition.
-/
namespace Go.Proofs.YtgmpohdkignadaaGreatDoor.Reg
open Go.RowKit Go.Maps
set_option linter.unusedVariables false
set_option linter.unusedSimpArgs false

section
variable {P : Program} {ops : Array Oper} {Q : Exit → Act → World → Prop}

/-- What an operation that is ready reads. -/
theorem inv_facts {a0 : Act} {w0 : World} {V : Nat → Value → World → Prop} (ht : tidy ops = true) {listed : Array Bool} {a : Act} {w : World} {i : Nat} (hI : Inv ops V a0 w0 listed a w) (hs : listed.size = ops.size) (hi : i ∈ Region.ready .any ops listed) :
    ∀ x ∈ reads ops i, (x.2 = true → V x.1 (a.tmps.getD x.1 undef) w) ∧ (x.2 = false → a.tmps.getD x.1 undef = a0.tmps.getD x.1 undef) := by
  obtain ⟨hun, o, ho, haf⟩ := mem_ready.1 hi
  have hil : i < ops.size := (Array.getElem?_eq_some_iff.1 ho).1
  have hwl : ∀ j, waits ops i j = true → listed.getD j false = true := fun j hj => by
    unfold waits at hj
    rw [ho] at hj
    simp only [Option.map_some, Option.getD_some, Array.any_eq_true', Bool.and_eq_true, beq_iff_eq] at hj
    obtain ⟨e, he, rfl, hb⟩ := hj
    exact haf e he hb
  have hilt : i < listed.size := by omega
  have hnl : listed.getD i false = false := by
    rw [Array.getD_eq_getD_getElem?] at hun ⊢
    simp [hilt] at hun ⊢
    exact hun
  have htd : ∀ j, j < ops.size → i ≠ j → ∀ d, writes ops j d = true → writes ops i d = false ∧ (d ∈ o.looksAt ops → waits ops i j = true ∨ waits ops j i = true) := fun j hj hne d hw => by
    unfold tidy at ht
    rw [Bool.and_eq_true] at ht
    have h1 := List.all_eq_true.1 (List.all_eq_true.1 ht.2 i (List.mem_range.2 hil)) j (List.mem_range.2 hj)
    unfold writes at hw
    have hdj : (ops[j]?).bind (·.dst) = some d := by simpa using hw
    rw [hdj, ho] at h1
    have hb : (i == j) = false := by simpa using hne
    rw [hb] at h1
    simp only [Bool.false_or, Bool.and_eq_true, Bool.not_eq_true', Bool.or_eq_true] at h1
    refine ⟨h1.1, fun hd => ?_⟩
    rcases h1.2 with (h2 | h2) | h2
    · have : (o.looksAt ops).contains d = true := by simpa using hd
      rw [this] at h2; cases h2
    · exact .inl h2
    · exact .inr h2
  have hwn : ∀ j, waits ops j i = true → listed.getD j false = false := fun j hj => by
    cases hx : listed.getD j false with
    | false => rfl
    | true => have := hI.closed j i hj hx; rw [hnl] at this; cases this
  intro x hx
  unfold reads at hx
  rw [ho] at hx
  obtain ⟨d, hdm, rfl⟩ := List.mem_map.1 hx
  refine ⟨fun hf => ?_, fun hf => ?_⟩
  · simp only [List.any_eq_true, List.mem_range, Bool.and_eq_true] at hf
    obtain ⟨j, _, hw, hwt⟩ := hf
    exact hI.done j d hw (hwl j hwt)
  · refine hI.rest d (fun j hw => ?_)
    by_cases hji : j = i
    · subst hji; exact hnl
    · rcases (htd j (writes_lt hw) (Ne.symm hji) d hw).2 hdm with h1 | h1
      · exfalso
        rw [List.any_eq_false] at hf
        have := hf j (List.mem_range.2 (writes_lt hw))
        simp [hw, h1] at this
      · exact hwn j h1

/-- The step of an operation, told by what it hands on. -/
theorem inv_put {a0 : Act} {w0 : World} {V : Nat → Value → World → Prop} {E : Act → World → Prop} (ht : tidy ops = true)
    (hsz : (ops.all fun o => match o.dst with | some d => decide (d < a0.tmps.size) | none => true) = true)
    {listed : Array Bool} {a : Act} {w : World} {i : Nat} (hI : Inv ops V a0 w0 listed a w) (hs : listed.size = ops.size) (hi : i ∈ Region.ready .any ops listed)
    (h : wpOp P ops Q i (fun a' w' => ∃ v, a' = a.put ((ops[i]?).bind (·.dst)) v ∧ Below w0.heap.size w0 w' ∧ (∀ d v', V d v' w → V d v' w') ∧ (∀ d, writes ops i d = true → V d v w') ∧ E a' w') a w) :
    wpOp P ops Q i (fun a' w' => Inv ops V a0 w0 (listed.setIfInBounds i true) a' w' ∧ E a' w') a w := by
  obtain ⟨hun, o, ho, haf⟩ := mem_ready.1 hi
  have hil : i < ops.size := (Array.getElem?_eq_some_iff.1 ho).1
  have hwl : ∀ j, waits ops i j = true → listed.getD j false = true := fun j hj => by
    unfold waits at hj
    rw [ho] at hj
    simp only [Option.map_some, Option.getD_some, Array.any_eq_true', Bool.and_eq_true, beq_iff_eq] at hj
    obtain ⟨e, he, rfl, hb⟩ := hj
    exact haf e he hb
  have hilt : i < listed.size := by omega
  have hnl : listed.getD i false = false := by
    rw [Array.getD_eq_getD_getElem?] at hun ⊢
    simp [hilt] at hun ⊢
    exact hun
  have htd : ∀ j, j < ops.size → i ≠ j → ∀ d, writes ops j d = true → writes ops i d = false ∧ (d ∈ o.looksAt ops → waits ops i j = true ∨ waits ops j i = true) := fun j hj hne d hw => by
    unfold tidy at ht
    rw [Bool.and_eq_true] at ht
    have h1 := List.all_eq_true.1 (List.all_eq_true.1 ht.2 i (List.mem_range.2 hil)) j (List.mem_range.2 hj)
    unfold writes at hw
    have hdj : (ops[j]?).bind (·.dst) = some d := by simpa using hw
    rw [hdj, ho] at h1
    have hb : (i == j) = false := by simpa using hne
    rw [hb] at h1
    simp only [Bool.false_or, Bool.and_eq_true, Bool.not_eq_true', Bool.or_eq_true] at h1
    refine ⟨h1.1, fun hd => ?_⟩
    rcases h1.2 with (h2 | h2) | h2
    · have : (o.looksAt ops).contains d = true := by simpa using hd
      rw [this] at h2; cases h2
    · exact .inl h2
    · exact .inr h2
  have hwn : ∀ j, waits ops j i = true → listed.getD j false = false := fun j hj => by
    cases hx : listed.getD j false with
    | false => rfl
    | true => have := hI.closed j i hj hx; rw [hnl] at this; cases this
  refine wpOp_mono (fun a' w' hh => ?_) h
  obtain ⟨v, rfl, hb, hVV, hv, hE⟩ := hh
  have hdl : ∀ t, (ops[i]?).bind (·.dst) = some t → t < a.tmps.size := fun t hte => by
    rw [ho] at hte
    have h2 := Array.all_eq_true_iff_forall_mem.1 hsz o (Array.mem_of_getElem? ho)
    have h3 : o.dst = some t := hte
    rw [h3] at h2
    rw [hI.size]
    exact of_decide_eq_true h2
  have hli : ∀ j, j ≠ i → (listed.setIfInBounds i true).getD j false = listed.getD j false := fun j hj => getD_set_ne false (Ne.symm hj)
  have hself : (listed.setIfInBounds i true).getD i false = true := by
    rw [Array.getD_eq_getD_getElem?]; simp [hilt]
  refine ⟨⟨?_, ?_, hb, fun j d hw hl => ?_, fun j k hjk hl => ?_, fun d hd => ?_⟩, hE⟩
  · cases hx : (ops[i]?).bind (·.dst) <;> simp [Act.put, hI.size]
  · cases hx : (ops[i]?).bind (·.dst) <;> simp [Act.put, hI.defers]
  · rw [getD_put a _ v d hdl]
    by_cases hji : j = i
    · subst hji
      have : (ops[j]?).bind (·.dst) = some d := by simpa [writes] using hw
      rw [if_pos this]
      exact hv d hw
    · have hne := (htd j (writes_lt hw) (Ne.symm hji) d hw).1
      rw [if_neg (by intro e; simp [writes, e] at hne)]
      rw [hli j hji] at hl
      exact hVV _ _ (hI.done j d hw hl)
  · by_cases hki : k = i
    · subst hki; exact hself
    · rw [hli k hki]
      by_cases hji : j = i
      · subst hji; exact hwl k hjk
      · rw [hli j hji] at hl; exact hI.closed j k hjk hl
  · rw [getD_put a _ v d hdl]
    rw [if_neg]
    · refine hI.rest d (fun j hw => ?_)
      have := hd j hw
      by_cases hji : j = i
      · subst hji; rw [hself] at this; cases this
      · rwa [hli j hji] at this
    · intro e
      have := hd i (by simp [writes, e])
      rw [hself] at this; cases this

/-- What the writing operation owes. -/
def OwesW (P : Program) (ops : Array Oper) (Q : Exit → Act → World → Prop) (V : Nat → Value → World → Prop) (a0 : Act) (w0 : World) (U : Value → World → Prop) (p q : Nat) : Prop :=
  ∀ a w, Below w0.heap.size w0 w → (∀ x ∈ reads ops p, (x.2 = true → V x.1 (a.tmps.getD x.1 undef) w) ∧ (x.2 = false → a.tmps.getD x.1 undef = a0.tmps.getD x.1 undef)) → V q (a.tmps.getD q undef) w →
      wpOp P ops Q p (fun a' w' => a' = a ∧ Below w0.heap.size w0 w' ∧ (∀ d v, V d v w → V d v w') ∧ U (a.tmps.getD q undef) w') a w
/-- One operation, p, writes into the block that slot q names; all the others leave what lay as it is. -/
theorem wp_held_write {id : Nat} {a0 : Act} {w0 : World} (hm : P.follows .mixedOrders = true) (V : Nat → Value → World → Prop)
    (hV : ∀ d v w w', V d v w → Below w.heap.size w w' → V d v w') (ht : tidy ops = true) (D : List Nat) (hD : dsts ops = D) (p q m : Nat) (hps : p < ops.size) (hpd : (ops[p]?).bind (·.dst) = none)
    (hq : writes ops m q = true) (hpm : far ops 4 p m = true) (U : Value → World → Prop) (hU : ∀ v w w', U v w → Below w.heap.size w w' → U v w')
    (hsz : (ops.all fun o => match o.dst with | some d => decide (d < a0.tmps.size) | none => true) = true)
    (h : ∀ i, i < ops.size → i ≠ p → Owes P ops Q V a0 w0 i)
    (hp : OwesW P ops Q V a0 w0 U p q)
    (hd : ∀ (f : Nat → Value) w, (∀ d ∈ D, V d (f d) w) → U (f q) w → Below w0.heap.size w0 w → Q .normal (putAll a0 (D.map fun d => (d, f d))) w) :
    (Code.region id ops true).wp P Q a0 w0 := by
  have hdr : Below w0.heap.size w0 { w0 with drawn := w0.drawn + 1 } := ⟨rfl, rfl, rfl, Nat.le_refl _, fun _ _ => rfl⟩
  have hnone : ∀ j, (Array.replicate ops.size false).getD j false = false := fun j => by
    rw [Array.getD_eq_getD_getElem?]
    by_cases hj : j < ops.size <;> simp [hj]
  refine wp_inv hm (fun listed a w => Inv ops V a0 w0 listed a w ∧ (listed.getD p false = true → listed.getD m false = true ∧ U (a.tmps.getD q undef) w)) ⟨⟨rfl, rfl, hdr, fun j d _ hl => ?_, fun j k _ hl => ?_, fun d _ => rfl⟩, fun hl => ?_⟩ ?_ ?_
  · rw [hnone] at hl; cases hl
  · rw [hnone] at hl; cases hl
  · rw [hnone] at hl; cases hl
  · intro listed a w i ⟨hI, hU2⟩ hs hi
    have hfacts := inv_facts ht hI hs hi
    obtain ⟨hun, o, ho, haf⟩ := mem_ready.1 hi
    have hil : i < ops.size := (Array.getElem?_eq_some_iff.1 ho).1
    have hilt : i < listed.size := by omega
    have hnl : listed.getD i false = false := by
      rw [Array.getD_eq_getD_getElem?] at hun ⊢
      simp [hilt] at hun ⊢
      exact hun
    have hself : (listed.setIfInBounds i true).getD i false = true := by
      rw [Array.getD_eq_getD_getElem?]; simp [hilt]
    by_cases hip : i = p
    · subst hip
      have hml : listed.getD m false = true := by
        refine far_once (fun k hk => ?_) hI.closed hpm
        unfold waits at hk
        rw [ho] at hk
        simp only [Option.map_some, Option.getD_some, Array.any_eq_true', Bool.and_eq_true, beq_iff_eq] at hk
        obtain ⟨e, he, rfl, hb⟩ := hk
        exact haf e he hb
      have hmi : m ≠ i := by rintro rfl; rw [hnl] at hml; cases hml
      refine wpOp_mono (fun a' w' hh => ⟨hh.1, fun _ => ⟨?_, hh.2⟩⟩) (inv_put (E := fun a' w' => U (a'.tmps.getD q undef) w') ht hsz hI hs hi (wpOp_mono (fun a' w' hh => ?_) (hp a w hI.below hfacts (hI.done m q hq hml))))
      · rw [getD_set_ne false (fun e => hmi e.symm)]; exact hml
      · obtain ⟨rfl, h1, h2, h3⟩ := hh
        refine ⟨undef, by rw [hpd]; rfl, h1, h2, fun d hd' => by simp [writes, hpd] at hd', h3⟩
    · refine wpOp_mono (fun a' w' hh => ⟨hh.1, fun hl => ?_⟩) (inv_put (E := fun a' w' => listed.getD p false = true → U (a'.tmps.getD q undef) w') ht hsz hI hs hi (wpOp_mono (fun a' w' hh => ?_) (h i hil hip a w hI.size hI.defers hI.below hfacts)))
      · rw [getD_set_ne false hip] at hl
        have hml := (hU2 hl).1
        have hmi : m ≠ i := by rintro rfl; rw [hnl] at hml; cases hml
        exact ⟨by rw [getD_set_ne false (fun e => hmi e.symm)]; exact hml, hh.2 hl⟩
      · obtain ⟨v, rfl, h1, h2⟩ := hh
        refine ⟨v, rfl, hI.below.trans (h1.mono hI.below.size), fun d v' hv' => hV _ _ _ _ hv' h1, h2, fun hl => ?_⟩
        obtain ⟨hml, hu⟩ := hU2 hl
        have hmi : m ≠ i := by rintro rfl; rw [hnl] at hml; cases hml
        have hdl : ∀ t, (ops[i]?).bind (·.dst) = some t → t < a.tmps.size := fun t hte => by
          rw [ho] at hte
          have h2 := Array.all_eq_true_iff_forall_mem.1 hsz o (Array.mem_of_getElem? ho)
          have h3 : o.dst = some t := hte
          rw [h3] at h2
          rw [hI.size]
          exact of_decide_eq_true h2
        have hne : ¬ (ops[i]?).bind (·.dst) = some q := by
          intro e
          unfold tidy at ht
          rw [Bool.and_eq_true] at ht
          have h1 := List.all_eq_true.1 (List.all_eq_true.1 ht.2 i (List.mem_range.2 hil)) m (List.mem_range.2 (writes_lt hq))
          have hdm : (ops[m]?).bind (·.dst) = some q := by simpa [writes] using hq
          rw [hdm] at h1
          have hb : (i == m) = false := by simpa using hmi.symm
          rw [hb] at h1
          simp only [Bool.false_or, Bool.and_eq_true, Bool.not_eq_true'] at h1
          have := h1.1
          simp [writes, e] at this
        rw [getD_put a _ v q hdl, if_neg hne]
        exact hU _ _ _ hu h1
  · intro listed a w ⟨hI, hU2⟩ hs hr
    have hal := all_listed ht hr hs
    subst hD
    have e := putAll_eq a (dsts ops) a0 hI.size hI.defers (fun d hdm => by
      obtain ⟨j, hj⟩ := mem_dsts.1 hdm
      unfold writes at hj
      cases hx : ops[j]? with
      | none => rw [hx] at hj; simp at hj
      | some o =>
        rw [hx] at hj
        have h3 : o.dst = some d := by simpa using hj
        have h2 := Array.all_eq_true_iff_forall_mem.1 hsz o (Array.mem_of_getElem? hx)
        rw [h3] at h2
        exact of_decide_eq_true h2) (fun d hn => hI.rest d (fun j hw => absurd (mem_dsts.2 ⟨j, hw⟩) hn))
    rw [e]
    exact hd (fun d => a.tmps.getD d undef) w (fun d hdm => by obtain ⟨j, hj⟩ := mem_dsts.1 hdm; exact hI.done j d hj (hal j (writes_lt hj))) (hU2 (hal p hps)).2 hI.below
/-- What the writing operation owes, told by its own step. -/
theorem write_op {V : Nat → Value → World → Prop} {a0 : Act} {w0 : World} {U : Value → World → Prop} {p q : Nat} {o : Oper} {L : List (Nat × Bool)} (ho : ops[p]? = some o) (hg : o.guard = none) (hd : o.dst = none) (hL : reads ops p = L)
    (h : ∀ a w, Below w0.heap.size w0 w → Facts V a0 a w L → V q (a.tmps[q]?.getD undef) w → o.wp P a w (fun a' w' => ∃ u, a' = a.put none u ∧ Below w0.heap.size w0 w' ∧ (∀ d v, V d v w → V d v w') ∧ U (a.tmps[q]?.getD undef) w') Q) :
    OwesW P ops Q V a0 w0 U p q := by
  intro a w hb hr hq
  rw [hL] at hr
  rw [Array.getD_eq_getD_getElem?] at hq
  unfold wpOp
  rw [ho]
  simp only [Region.wanted, hg, if_true]
  refine .inl (Oper.wp_mono (fun a' w' hh => ?_) (h a w hb (facts_of hr) hq))
  obtain ⟨u, rfl, h1, h2, h3⟩ := hh
  exact ⟨rfl, h1, h2, by rw [Array.getD_eq_getD_getElem?]; exact h3⟩
end
end Go.Proofs.YtgmpohdkignadaaGreatDoor.Reg
