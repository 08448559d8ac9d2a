/-
  What the proof of the row LinesWalks rests on: the texts LnF RfS LwX Region8. Conditions: each theorem names its own.
-/
import Derived.Test.YtgmpohdkignadaaGreatDoorMgLinesWalksa
import Derived.RangeFuncNested
import Derived.Test.YtgmpohdkignadaaGreatDoorMgLb
import Derived.Maps.OwnIn
import Derived.OrdersIn
/-
  lines.Lines: its iterator, for every loop body that keeps what lay and is not its own. Condition: TextIs.
-/
namespace Go.Proofs.YtgmpohdkignadaaGreatDoor.Ut
open Go.RowKit Go.Proofs.YtgmpohdkignadaaGreatDoor.Reg
set_option linter.unusedVariables false
set_option linter.unusedSimpArgs false

/-- What a round keeps: all that lies, but the blocks that are the body's own. -/
structure KpL (Mine : World → Nat → Prop) (W W' : World) : Prop where
  size : W.heap.size ≤ W'.heap.size
  lies : ∀ g vs, Lies W g vs → ¬ Mine W g → Lies W' g vs ∧ ¬ Mine W' g
theorem KpL.trans {M : World → Nat → Prop} {A B C : World} (h : KpL M A B) (k : KpL M B C) : KpL M A C :=
  ⟨Nat.le_trans h.size k.size, fun g vs h1 h2 => by obtain ⟨a, b⟩ := h.lies g vs h1 h2; exact k.lies g vs a b⟩
/-- What must be so of a body's own blocks. -/
structure OwnOk (Mine : World → Nat → Prop) : Prop where
  fresh : ∀ W W' k, W.grownBy W' none → Mine W' k → Mine W k
  put : ∀ (W : World) (l : Nat) (o o' : Obj), W.heap[l]? = some o → o.isCells = false → ∀ k, Mine (W.putObj l o') k → Mine W k
theorem kpL_b {M : World → Nat → Prop} (hM : OwnOk M) {w : World} (W : World) (l : Nat) (o o' : Obj) (hl : w.heap.size ≤ l) (h : W.heap[l]? = some o) (h1 : o.isCells = false) (_ : o.isWalk = false) : KpL M W (W.putObj l o') :=
  ⟨by show W.heap.size ≤ (W.heap.setIfInBounds l o').size; simp, fun g vs hL hm => ⟨hL.kept (grownBy_putObj' W l o') (fun r e => by cases e; exact ⟨o, h, h1⟩), fun hc => hm (hM.put W l o o' h h1 g hc)⟩⟩
theorem grown_of_below {W W' : World} (hb : Below W.heap.size W W') : W.grownBy W' none := ⟨hb.os, hb.tape, hb.output, hb.size, fun k hk _ => hb.block k hk⟩
theorem below_of_grown {W W' : World} (h : W.grownBy W' none) : Below W.heap.size W W' := ⟨h.os, h.tape, h.output, h.size, fun k hk => h.block k hk (by simp)⟩

theorem set_two (z a b : Value) (r : List Value) : ∀ l : List Value, ((l ++ z :: z :: r).set l.length a).set (l.length + 1) b = l ++ [a, b] ++ r
  | [] => rfl
  | x :: l => by
    have := set_two z a b r l
    simp at this ⊢
/-- The row while it is filled: the spans of i lines, the rest still zero. -/
def fillT (s : ByteArray) (N i : Nat) : List Value := cellsP (spansT s i) ++ List.replicate ((N - i) * 2) (.int .i64 0)
theorem cellsP_len : ∀ l : List (Nat × Nat), (cellsP l).length = l.length * 2
  | [] => rfl
  | x :: r => by
    have e : cellsP (x :: r) = .int .i64 x.1 :: .int .i64 x.2 :: cellsP r := rfl
    rw [e, List.length_cons, List.length_cons, cellsP_len r, List.length_cons]; omega
theorem fill_len (s : ByteArray) {N i : Nat} (h : i ≤ N) : (fillT s N i).length = N * 2 := by
  unfold fillT; rw [List.length_append, cellsP_len, spansT_len, List.length_replicate]; omega
theorem fill_succ (s : ByteArray) {N i : Nat} (h : i < N) : ((fillT s N i).set (i * 2) (.int .i64 (beginF s (i : Nat)))).set (i * 2 + 1) (.int .i64 (spanT s i)) = fillT s N (i + 1) := by
  unfold fillT
  have e : List.replicate ((N - i) * 2) (Value.int .i64 0) = .int .i64 0 :: .int .i64 0 :: List.replicate ((N - (i + 1)) * 2) (.int .i64 0) := by
    rw [show (N - i) * 2 = (N - (i + 1)) * 2 + 1 + 1 by omega]; rfl
  have hl : (cellsP (spansT s i)).length = i * 2 := by rw [cellsP_len, spansT_len]
  rw [e, ← hl, set_two, spansT_succ, cellsP_app]
theorem fill_at (s : ByteArray) {N i : Nat} (h : i < N) : (fillT s N i)[i * 2]? = some (.int .i64 0) ∧ (fillT s N i)[i * 2 + 1]? = some (.int .i64 0) := by
  have hl : (cellsP (spansT s i)).length = i * 2 := by rw [cellsP_len, spansT_len]
  unfold fillT
  constructor
  · rw [List.getElem?_append_right (by omega), hl, Nat.sub_self, List.getElem?_replicate, if_pos (by omega)]
  · rw [List.getElem?_append_right (by omega), hl, List.getElem?_replicate, if_pos (by omega)]
theorem fill_zero (s : ByteArray) (N : Nat) : fillT s N 0 = List.replicate (N * 2) (.int .i64 0) := rfl
theorem fill_all (s : ByteArray) (N : Nat) : fillT s N N = cellsP (spansT s N) := by unfold fillT; simp

def spanV (s : ByteArray) (i : Nat) : Value := .agg #[.int .i64 (beginF s (i : Nat)), .int .i64 (spanT s i)]

theorem made_lies (W : World) (n : Nat) (t : TypeId) : Lies (W.alloc (.cells (madeCells (Value.agg #[.int .i64 0, .int .i64 0]).cells (n * 2)) t)) W.heap.size (List.replicate (n * 2) (.int .i64 0)) := by
  have e : madeCells (Value.agg #[.int .i64 0, .int .i64 0]).cells (n * 2) = (List.replicate (n * 2) (Value.int .i64 0)).toArray := by
    apply Array.ext
    · rw [size_madeCells]; simp
    · intro k h1 h2
      have hk : k % 2 = 0 ∨ k % 2 = 1 := by omega
      rcases hk with h | h <;> simp [madeCells, Value.cells, h]
  rw [e]
  exact Lies.new W _ t

set_option maxRecDepth 100000 in
set_option maxHeartbeats 2000000 in
theorem lines1_in (n : Nat) (hn : 1 ≤ n) (l Bx : Nat) (v : Value) (s : ByteArray) (w0 : World) (hX : TextIs w0 v s) (Mine : World → Nat → Prop) (hM : OwnOk Mine) (J Jx : List Nat → World → Prop)
    (hY : ∀ (pre : List Nat) (x : Nat) (W : World), J pre W → pre.length < (List.range (nlF s + 1)).length → YieldAt Fence.wide (n - 1) Tryz.prog l #[.int .i64 (x : Nat), spanV s x] W fun e W' =>
      (e = .returned (.bool true) ∧ J (pre ++ [x]) W' ∧ KpL Mine W W') ∨ (e = .returned (.bool false) ∧ Jx (pre ++ [x]) W'))
    (W : World) (hW : Below w0.heap.size w0 W) (hJ : AbidesFrom W.heap.size J) (hc : W.cell? ⟨Bx, 0, none⟩ = some v) (hMl : ∀ k, Mine W k → k < W.heap.size) (h0 : J [] W) :
    CallsIn Fence.wide n Tryz.prog 48 #[.func (.yield l) #[] #[], .pointer (some ⟨Bx, 0, none⟩)] W fun e W' => (∃ v, e = .returned v) ∧ ((∃ xs, xs = List.range (nlF s + 1) ∧ J xs W') ∨ (∃ pre, pre <+: List.range (nlF s + 1) ∧ Jx pre W')) := by
  have hXW := hX.below hW
  have HX := Lib.hid hXW
  have hBl : Bx < W.heap.size := World.block_lt_of_cell? W _ hc
  have hs := hX.small
  have hnz := nlTo_le s s.size
  rw [nlTo_all] at hnz
  have HC := Lib.hid (fun w h => LnCount_any v s w h)
  have HS := Lib.hid (fun i w h hl => LnSpan_any v s i w h hl)
  obtain ⟨N, hN⟩ : ∃ N, nlF s + 1 = N := ⟨_, rfl⟩
  have hNI : ((nlF s : Int) + 1) = (N : Int) := by omega
  rw [hNI] at HC
  rw [hN] at HS hY ⊢
  have hNs : N ≤ 1073741825 := by omega
  have hN1 : 1 ≤ N := by omega
  have HNN := Lib.hid hN
  clear hX hW hXW hnz hN hNI hs
  refine callsIn_of_wp Tryz.func48 rfl trivial ?_ rfl
  simp only [Tryz.ntmps48, List.size_toArray, List.length_cons, List.length_nil, Nat.reduceAdd, Nat.reduceSub, Array.replicate_succ, Array.replicate_zero, List.push_toArray, List.append_toArray, List.nil_append, List.cons_append]
  have hform := HX.out.form
  gi_wp2_with fail
  refine ⟨trivial, (callsIn_wide.2 (HC.out W HX.out)).mono ?_⟩
  rintro e w1 ⟨rfl, hb1⟩
  have X1 := Lib.hid (HX.out.below hb1)
  have hc1 := (hb1.cell (p := ⟨Bx, 0, none⟩) hBl).trans hc
  have hBl1 := Nat.lt_of_lt_of_le hBl hb1.size
  obtain ⟨i0, hi, hz0, hz1, hz2⟩ := info_parts infoSpan
  have hmk := run_make (P := Tryz.prog) w1 72 41 i0 (.agg #[.int .i64 0, .int .i64 0]) Tryz.underlying72 hi hz0 .i64 .i64 N N (by omega) (Int.le_refl _) (by rw [hz2]; omega) (by omega)
  simp only [Int.toNat_natCast, hz1] at hmk
  have L2 := made_lies w1 N 41
  have b2 : Below w1.heap.size w1 (w1.alloc (.cells (madeCells (Value.agg #[.int .i64 0, .int .i64 0]).cells (N * 2)) 41)) := (Below.refl _ _).alloc (Nat.le_refl _) _
  generalize (w1.alloc (.cells (madeCells (Value.agg #[.int .i64 0, .int .i64 0]).cells (N * 2)) 41)) = w2 at *
  have X2 := Lib.hid (X1.out.below b2)
  have hc2 := (b2.cell (p := ⟨Bx, 0, none⟩) hBl1).trans hc1
  have hgW : W.heap.size ≤ w1.heap.size := hb1.size
  have HB2 := Lib.hid (hb1.trans (b2.mono hb1.size))
  have hgne : ¬ w1.heap.size = Bx := by omega
  generalize w1.heap.size = g at *
  have HL2 := Lib.hid L2
  have Hc2 := Lib.hid hc2
  have hB2 : Bx < w2.heap.size := World.block_lt_of_cell? w2 _ hc2
  have HXW : Hid (TextIs W v s) := HX.out
  clear L2 hc1 hc2 hb1 b2 X1 X2 HX hi hz0 hz1 hz2 HC hBl1
  gi_wp2
  gi_loopw [12] (fun y wr => ∃ i : Nat, i ≤ N ∧ y = .int .i64 i ∧ Lies wr g (fillT s N i) ∧ Chg (fun k => k = g) w2 wr) (fun y _ => N - (intOf y).toNat)
  case atStart => exact ⟨0, Nat.zero_le _, rfl, by rw [fill_zero]; exact HL2.out, Chg.refl _ _⟩
  case round =>
    obtain ⟨i, hi, rfl, hL, hch⟩ := hrel
    by_cases hlt : i < N
    · have hcr := (hch.cell (p := ⟨Bx, 0, none⟩) hB2 (fun h => hgne h.symm)).trans Hc2.out
      have hwr : Below W.heap.size W wr := chg_mine HB2.out hch hgW
      have HXr : Hid (TextIs wr v s) := HXW.out.below hwr
      have HCh := Lib.hid hch
      have HLr := Lib.hid hL
      have hBr : Bx < wr.heap.size := World.block_lt_of_cell? wr _ hcr
      have HCr := Lib.hid hcr
      clear hwr hch hL
      gi_wp2_with fail
      refine ⟨trivial, (callsIn_wide.2 (HS.out i wr HXr.out (by omega))).mono ?_⟩
      rintro e w3 ⟨rfl, hb3⟩
      have L3 := HLr.out.below hb3
      obtain ⟨p1, p2⟩ := fill_at s hlt
      obtain ⟨c0, f0⟩ := L3.2 _ _ p1
      obtain ⟨c1, f1⟩ := L3.2 _ _ p2
      have L4 := (L3.set (i * 2) (.int .i64 (beginF s (i : Nat)))).set (i * 2 + 1) (.int .i64 (spanT s i))
      rw [fill_succ s hlt] at L4
      have HL4 := Lib.hid L4
      have HCh4 := Lib.hid ((HCh.out.then_below hb3).trans ((Chg.set w3 ⟨g, i * 2, none⟩ (.int .i64 (beginF s (i : Nat)))).trans (Chg.set _ ⟨g, i * 2 + 1, none⟩ (.int .i64 (spanT s i))) (fun _ _ h => h)) (fun _ _ h => h))
      have hiI : (i : Int) < (N : Int) := by omega
      have hi0 : (0 : Int) ≤ (i : Int) := by omega
      clear L3 L4 p1 p2 hb3 HLr HCh HXr HCr hcr
      gi_wp2
      go_roundw
      case rel => exact ⟨i + 1, by omega, by go_num, HL4.out, HCh4.out⟩
      case measure => simp [intOf]; omega
    · obtain rfl : i = N := by omega
      have hwr : Below W.heap.size W wr := chg_mine HB2.out hch hgW
      have hm : ¬ Mine wr g := fun h => by have := hMl g (hM.fresh W wr g (grown_of_below hwr) h); omega
      have hJr : J [] wr := hJ [] W wr none h0 (grown_of_below hwr) (fun r e => by cases e)
      rw [fill_all] at hL
      have HL := Lib.hid hL
      clear hL hch hwr hlt hi Hc2 HL2 HXW HS
      gi_wp2
      gi_loopw [27] (fun y wr => ∃ j : Nat, j ≤ i ∧ y = .int .i64 j ∧ J (List.range j) wr ∧ Lies wr g (cellsP (spansT s i)) ∧ ¬ Mine wr g) (fun y _ => i - (intOf y).toNat)
      case atStart => exact ⟨0, Nat.zero_le _, rfl, hJr, HL.out, hm⟩
      case round =>
        obtain ⟨j, hj, rfl, hJj, hLj, hmj⟩ := hrel
        by_cases hlt : j < i
        · obtain ⟨q0, q1⟩ := cellsP_at (spansT s i) j (by rw [spansT_len]; exact hlt)
          rw [spansT_at] at q0 q1
          obtain ⟨r0, -⟩ := hLj.2 _ _ q0
          obtain ⟨r1, -⟩ := hLj.2 _ _ q1
          have b5 : Below wr.heap.size wr (wr.alloc (.cells #[.int .i64 (beginF s (j : Nat)), .int .i64 (spanT s j)] 41)) := (Below.refl _ _).alloc (Nat.le_refl _) _
          have hJ5 := hJ _ _ _ none hJj (grown_of_below b5) (fun r e => by cases e)
          have L5 := Lib.hid (hLj.below b5)
          have m5 : Hid (¬ Mine (wr.alloc (.cells #[.int .i64 (beginF s (j : Nat)), .int .i64 (spanT s j)] 41)) g) := fun h => hmj (hM.fresh wr _ g (grown_of_below b5) h)
          have hY5 := hY (List.range j) j _ hJ5 (by simp; omega)
          unfold spanV at hY5
          have j0 : (0 : Int) ≤ (j : Int) := by omega
          have j1 : (j : Int) < (i : Int) := by omega
          obtain ⟨fn, tmps, assign, body, hy, hR⟩ := hY5
          have HR := Lib.hid hR
          clear hR hY hJ5 b5 hLj hJj hmj q0 q1
          gi_wp2
          refine HR.out.mono ?_
          rintro e W3 (⟨rfl, hJ3, hk3⟩ | ⟨rfl, hJx3⟩)
          · obtain ⟨L6, m6⟩ := hk3.lies g _ L5.out m5.out
            have H6 := Lib.hid L6
            have H7 := Lib.hid m6
            have H8 := Lib.hid hJ3
            clear L6 m6 hJ3 hk3
            gi_wp2
            go_roundw
            case rel => exact ⟨j + 1, by omega, by go_num, by rw [List.range_succ]; exact H8.out, H6.out, H7.out⟩
            case measure => simp [intOf]; omega
          · gi_wp2
            refine bodyPost_ret (results_none rfl _ _ _) rfl ?_
            refine ⟨⟨_, rfl⟩, .inr ⟨List.range j ++ [j], ⟨List.range' (j + 1) (i - (j + 1)), ?_⟩, hJx3⟩⟩
            rw [← List.range_succ, List.range_eq_range', List.range_eq_range']
            have := @List.range'_append_1 0 (j + 1) (i - (j + 1))
            rw [Nat.zero_add, show j + 1 + (i - (j + 1)) = i by omega] at this
            exact this
        · obtain rfl : j = i := by omega
          have H8 := Lib.hid hJj
          clear hY hLj hJj hmj
          gi_wp2
          go_end0
          exact ⟨⟨_, rfl⟩, .inl ⟨_, rfl, H8.out⟩⟩

theorem lines_stops (n : Nat) (hn : 1 ≤ n) (Bx : Nat) (v : Value) (s : ByteArray) (w0 w : World) (hX : TextIs w0 v s) (hb : Below w0.heap.size w0 w) (hc : w.cell? ⟨Bx, 0, none⟩ = some v) (Mine : World → Nat → Prop) (hM : OwnOk Mine) (hMl : ∀ k, Mine w k → k < w.heap.size) :
    SeqStopsK Fence.wide n Tryz.prog 48 #[.pointer (some ⟨Bx, 0, none⟩)] (fun x : Nat => #[.int .i64 (x : Nat), spanV s x]) (KpL Mine) (fun xs => xs = List.range (nlF s + 1)) (fun pre => pre <+: List.range (nlF s + 1)) (List.range (nlF s + 1)).length w :=
  fun l J Jx W hW hJ _ hY h0 => lines1_in n hn l Bx v s w0 hX Mine hM J Jx hY W (hb.trans (hW.mono hb.size)) hJ ((hW.cell (p := ⟨Bx, 0, none⟩) (World.block_lt_of_cell? w _ hc)).trans hc) (fun k hk => Nat.lt_of_lt_of_le (hMl k (hM.fresh w W k (grown_of_below hW) hk)) hW.size) h0
theorem LnLines_any (v : Value) (w : World) (hv : v = .nilIface ∨ ∃ t x, v = .iface t x) : Calls Tryz.prog 31 #[v] w fun e w' => e = .returned (.func (.func 48) #[] #[.pointer (some ⟨w.heap.size, 0, none⟩)]) ∧ w' = w.alloc (.cells #[v] 28) := by
  rcases hv with rfl | ⟨t, x, rfl⟩
  all_goals
    go_enter Tryz.func31, Tryz.ntmps31
    go_wp2
    go_ret
    exact ⟨rfl, rfl⟩
end Go.Proofs.YtgmpohdkignadaaGreatDoor.Ut
/-
  bodkinref11.SameSpans over two rows with the same spans. No condition.
-/
namespace Go.Proofs.YtgmpohdkignadaaGreatDoor.Ut
open Go.RowKit Go.Proofs.YtgmpohdkignadaaGreatDoor.Reg
set_option linter.unusedVariables false
set_option linter.unusedSimpArgs false

/-- A row of spans, as loops read it. -/
def RowP (W : World) (A : Option Addr) (l : List (Nat × Nat)) : Prop := ∀ k (h : k < l.length), ∃ g, A = some ⟨g, 0, none⟩ ∧ g < W.heap.size ∧ W.cell? ⟨g, k * 2, none⟩ = some (.int .i64 l[k].1) ∧ W.cell? ⟨g, k * 2 + 1, none⟩ = some (.int .i64 l[k].2)
theorem RowP.below {W W' : World} {A : Option Addr} {l : List (Nat × Nat)} (h : RowP W A l) (hb : Below W.heap.size W W') : RowP W' A l := fun k hk => by
  obtain ⟨g, h1, h2, h3, h4⟩ := h k hk
  exact ⟨g, h1, Nat.lt_of_lt_of_le h2 hb.size, (hb.cell (p := ⟨g, k * 2, none⟩) h2).trans h3, (hb.cell (p := ⟨g, k * 2 + 1, none⟩) h2).trans h4⟩
theorem rowP_at {W : World} {base n c : Nat} {A : Option Addr} {l : List (Nat × Nat)} (h : W.ownsRow base 41 2 (.slice A n c) n (cellsP l)) (hn : n = l.length) : RowP W A l := by
  subst hn
  intro k hk
  obtain ⟨g, c', he, -, -⟩ := h.form (by omega)
  obtain ⟨rfl, rfl⟩ : A = some ⟨g, 0, none⟩ ∧ c = c' := by simpa using he
  have e0 := (h.cellAt (k * 2) (by omega)).trans (cellsP_at l k hk).1
  have e1 := (h.cellAt (k * 2 + 1) (by omega)).trans (cellsP_at l k hk).2
  exact ⟨g, rfl, World.block_lt_of_cell? W _ e0, e0, e1⟩
def VSm6 (n ca cb k p q g g2 : Nat) : Nat → Value → World → Prop := fun d x w => match d with
  | 17 => x = .slice (some ⟨g, 0, none⟩) n ca
  | 18 => x = .int .i64 k
  | 19 => x = .pointer (some ⟨g, k * 2, none⟩)
  | 20 => x = .agg #[.int .i64 p, .int .i64 q]
  | 21 => x = .slice (some ⟨g2, 0, none⟩) n cb
  | 22 => x = .int .i64 k
  | 23 => x = .pointer (some ⟨g2, k * 2, none⟩)
  | 24 => x = .agg #[.int .i64 p, .int .i64 q]
  | 25 => x = .bool false
  | _ => True
theorem VSm6_mono (n ca cb k p q g g2 : Nat) : ∀ d x w w', VSm6 n ca cb k p q g g2 d x w → Below w.heap.size w w' → VSm6 n ca cb k p q g g2 d x w' := by
  exact fun _ _ _ _ h _ => h
set_option maxRecDepth 100000 in
set_option maxHeartbeats 1000000 in
theorem RefSame_any (A B : Option Addr) (ca cb : Nat) (l : List (Nat × Nat)) (w : World) (hA : RowP w A l) (hB : RowP w B l) (hl : l.length ≤ 1099511627776) :
    Calls Tryz.prog 34 #[.slice A l.length ca, .slice B l.length cb] w fun e w' => e = .returned (.bool true) ∧ Below w.heap.size w w' := by
  have HA := Lib.hid hA
  have HB := Lib.hid hB
  clear hA hB
  obtain ⟨L, hL⟩ : ∃ L, l.length = L := ⟨_, rfl⟩
  have HL := Lib.hid hL
  rw [hL] at hl ⊢
  clear hL
  go_enter Tryz.func34, Tryz.ntmps34
  go_wp2
  go_loopw [5] (fun b wr => ∃ k : Nat, k ≤ L ∧ b = .int .i64 k ∧ Below w.heap.size w wr) (fun b _ => L - (intOf b).toNat)
  case atStart => exact ⟨0, Nat.zero_le _, rfl, Below.refl _ _⟩
  case round =>
    obtain ⟨k, hk, rfl, hb⟩ := hrel
    have HBl := Lib.hid hb
    by_cases hlt : k < L
    · obtain ⟨g, rfl, hg, c0, c1⟩ := (HA.out.below hb) k (by rw [HL.out]; exact hlt)
      obtain ⟨g2, rfl, hg2, d0, d1⟩ := (HB.out.below hb) k (by rw [HL.out]; exact hlt)
      generalize l[k]'(by rw [HL.out]; exact hlt) = xy at *
      obtain ⟨x, y⟩ := xy
      simp only at c0 c1 d0 d1
      have C0 := Lib.hid c0
      have C1 := Lib.hid c1
      have D0 := Lib.hid d0
      have D1 := Lib.hid d1
      have i0 : (0 : Int) ≤ (k : Int) := by omega
      have i1 : (k : Int) < (L : Int) := by omega
      have hwi : IntKind.i64.wrap ((k : Int) + 1) = (k : Int) + 1 := IntWalk.i64_in _ (by omega)
      clear c0 c1 d0 d1 hb
      go_wp2
      refine wp_held' mixed (VSm6 L ca cb k x y g g2) (VSm6_mono _ _ _ _ _ _ _ _) (by kernel_rfl) [17, 18, 19, 20, 21, 22, 23, 24, 25] (by kernel_rfl) (by kernel_rfl) ?_ ?_
      · intro j hj
        have hj' : j < 9 := hj
        rcases (by omega : j = 0 ∨ j = 1 ∨ j = 2 ∨ j = 3 ∨ j = 4 ∨ j = 5 ∨ j = 6 ∨ j = 7 ∨ j = 8) with rfl | rfl | rfl | rfl | rfl | rfl | rfl | rfl | rfl
        · -- operation 0
          (refine owes_val (L := [(0, false)]) rfl rfl rfl (by kernel_rfl) ?_; intro a' w' hb' hfacts; obtain ⟨hf0, -⟩ := hfacts; replace hf0 : a'.tmps[0]?.getD undef = .slice (some ⟨g, 0, none⟩) L ca := hf0)
          have pA := (hb'.cell (p := ⟨g, k * 2, none⟩) hg).trans C0.out; have pB := (hb'.cell (p := ⟨g, k * 2 + 1, none⟩) hg).trans C1.out; have pC := (hb'.cell (p := ⟨g2, k * 2, none⟩) hg2).trans D0.out; have pD := (hb'.cell (p := ⟨g2, k * 2 + 1, none⟩) hg2).trans D1.out
          (go_simp; first | exact ⟨_, rfl, Below.refl _ _, rfl⟩ | exact ⟨_, rfl, Below.refl _ _, trivial⟩ | exact ⟨_, rfl, (Below.refl _ _).alloc (Nat.le_refl _) _, trivial⟩ | exact ⟨_, rfl, Below.refl _ _, congrArg (Value.int _) (IntWalk.i64_in _ (by omega))⟩)
        · -- operation 1
          (refine owes_val (L := [(5, false)]) rfl rfl rfl (by kernel_rfl) ?_; intro a' w' hb' hfacts; obtain ⟨hf5, -⟩ := hfacts; replace hf5 : a'.tmps[5]?.getD undef = .int .i64 k := hf5)
          have pA := (hb'.cell (p := ⟨g, k * 2, none⟩) hg).trans C0.out; have pB := (hb'.cell (p := ⟨g, k * 2 + 1, none⟩) hg).trans C1.out; have pC := (hb'.cell (p := ⟨g2, k * 2, none⟩) hg2).trans D0.out; have pD := (hb'.cell (p := ⟨g2, k * 2 + 1, none⟩) hg2).trans D1.out
          (go_simp; first | exact ⟨_, rfl, Below.refl _ _, rfl⟩ | exact ⟨_, rfl, Below.refl _ _, trivial⟩ | exact ⟨_, rfl, (Below.refl _ _).alloc (Nat.le_refl _) _, trivial⟩ | exact ⟨_, rfl, Below.refl _ _, congrArg (Value.int _) (IntWalk.i64_in _ (by omega))⟩)
        · -- operation 2
          (refine owes_val (L := [(17, true), (18, true)]) rfl rfl rfl (by kernel_rfl) ?_; intro a' w' hb' hfacts; obtain ⟨hf17, hf18, -⟩ := hfacts; try simp only [VSm6] at hf17; try simp only [VSm6] at hf18)
          have pA := (hb'.cell (p := ⟨g, k * 2, none⟩) hg).trans C0.out; have pB := (hb'.cell (p := ⟨g, k * 2 + 1, none⟩) hg).trans C1.out; have pC := (hb'.cell (p := ⟨g2, k * 2, none⟩) hg2).trans D0.out; have pD := (hb'.cell (p := ⟨g2, k * 2 + 1, none⟩) hg2).trans D1.out
          (go_simp; first | exact ⟨_, rfl, Below.refl _ _, rfl⟩ | exact ⟨_, rfl, Below.refl _ _, trivial⟩ | exact ⟨_, rfl, (Below.refl _ _).alloc (Nat.le_refl _) _, trivial⟩ | exact ⟨_, rfl, Below.refl _ _, congrArg (Value.int _) (IntWalk.i64_in _ (by omega))⟩)
        · -- operation 3
          (refine owes_val (L := [(19, true)]) rfl rfl rfl (by kernel_rfl) ?_; intro a' w' hb' hfacts; obtain ⟨hf19, -⟩ := hfacts; try simp only [VSm6] at hf19)
          have pA := (hb'.cell (p := ⟨g, k * 2, none⟩) hg).trans C0.out; have pB := (hb'.cell (p := ⟨g, k * 2 + 1, none⟩) hg).trans C1.out; have pC := (hb'.cell (p := ⟨g2, k * 2, none⟩) hg2).trans D0.out; have pD := (hb'.cell (p := ⟨g2, k * 2 + 1, none⟩) hg2).trans D1.out
          (go_simp; first | exact ⟨_, rfl, Below.refl _ _, rfl⟩ | exact ⟨_, rfl, Below.refl _ _, trivial⟩ | exact ⟨_, rfl, (Below.refl _ _).alloc (Nat.le_refl _) _, trivial⟩ | exact ⟨_, rfl, Below.refl _ _, congrArg (Value.int _) (IntWalk.i64_in _ (by omega))⟩)
        · -- operation 4
          (refine owes_val (L := [(1, false)]) rfl rfl rfl (by kernel_rfl) ?_; intro a' w' hb' hfacts; obtain ⟨hf1, -⟩ := hfacts; replace hf1 : a'.tmps[1]?.getD undef = .slice (some ⟨g2, 0, none⟩) L cb := hf1)
          have pA := (hb'.cell (p := ⟨g, k * 2, none⟩) hg).trans C0.out; have pB := (hb'.cell (p := ⟨g, k * 2 + 1, none⟩) hg).trans C1.out; have pC := (hb'.cell (p := ⟨g2, k * 2, none⟩) hg2).trans D0.out; have pD := (hb'.cell (p := ⟨g2, k * 2 + 1, none⟩) hg2).trans D1.out
          (go_simp; first | exact ⟨_, rfl, Below.refl _ _, rfl⟩ | exact ⟨_, rfl, Below.refl _ _, trivial⟩ | exact ⟨_, rfl, (Below.refl _ _).alloc (Nat.le_refl _) _, trivial⟩ | exact ⟨_, rfl, Below.refl _ _, congrArg (Value.int _) (IntWalk.i64_in _ (by omega))⟩)
        · -- operation 5
          (refine owes_val (L := [(5, false)]) rfl rfl rfl (by kernel_rfl) ?_; intro a' w' hb' hfacts; obtain ⟨hf5, -⟩ := hfacts; replace hf5 : a'.tmps[5]?.getD undef = .int .i64 k := hf5)
          have pA := (hb'.cell (p := ⟨g, k * 2, none⟩) hg).trans C0.out; have pB := (hb'.cell (p := ⟨g, k * 2 + 1, none⟩) hg).trans C1.out; have pC := (hb'.cell (p := ⟨g2, k * 2, none⟩) hg2).trans D0.out; have pD := (hb'.cell (p := ⟨g2, k * 2 + 1, none⟩) hg2).trans D1.out
          (go_simp; first | exact ⟨_, rfl, Below.refl _ _, rfl⟩ | exact ⟨_, rfl, Below.refl _ _, trivial⟩ | exact ⟨_, rfl, (Below.refl _ _).alloc (Nat.le_refl _) _, trivial⟩ | exact ⟨_, rfl, Below.refl _ _, congrArg (Value.int _) (IntWalk.i64_in _ (by omega))⟩)
        · -- operation 6
          (refine owes_val (L := [(21, true), (22, true)]) rfl rfl rfl (by kernel_rfl) ?_; intro a' w' hb' hfacts; obtain ⟨hf21, hf22, -⟩ := hfacts; try simp only [VSm6] at hf21; try simp only [VSm6] at hf22)
          have pA := (hb'.cell (p := ⟨g, k * 2, none⟩) hg).trans C0.out; have pB := (hb'.cell (p := ⟨g, k * 2 + 1, none⟩) hg).trans C1.out; have pC := (hb'.cell (p := ⟨g2, k * 2, none⟩) hg2).trans D0.out; have pD := (hb'.cell (p := ⟨g2, k * 2 + 1, none⟩) hg2).trans D1.out
          (go_simp; first | exact ⟨_, rfl, Below.refl _ _, rfl⟩ | exact ⟨_, rfl, Below.refl _ _, trivial⟩ | exact ⟨_, rfl, (Below.refl _ _).alloc (Nat.le_refl _) _, trivial⟩ | exact ⟨_, rfl, Below.refl _ _, congrArg (Value.int _) (IntWalk.i64_in _ (by omega))⟩)
        · -- operation 7
          (refine owes_val (L := [(23, true)]) rfl rfl rfl (by kernel_rfl) ?_; intro a' w' hb' hfacts; obtain ⟨hf23, -⟩ := hfacts; try simp only [VSm6] at hf23)
          have pA := (hb'.cell (p := ⟨g, k * 2, none⟩) hg).trans C0.out; have pB := (hb'.cell (p := ⟨g, k * 2 + 1, none⟩) hg).trans C1.out; have pC := (hb'.cell (p := ⟨g2, k * 2, none⟩) hg2).trans D0.out; have pD := (hb'.cell (p := ⟨g2, k * 2 + 1, none⟩) hg2).trans D1.out
          (go_simp; first | exact ⟨_, rfl, Below.refl _ _, rfl⟩ | exact ⟨_, rfl, Below.refl _ _, trivial⟩ | exact ⟨_, rfl, (Below.refl _ _).alloc (Nat.le_refl _) _, trivial⟩ | exact ⟨_, rfl, Below.refl _ _, congrArg (Value.int _) (IntWalk.i64_in _ (by omega))⟩)
        · -- operation 8
          (refine owes_val (L := [(20, true), (24, true)]) rfl rfl rfl (by kernel_rfl) ?_; intro a' w' hb' hfacts; obtain ⟨hf20, hf24, -⟩ := hfacts; try simp only [VSm6] at hf20; try simp only [VSm6] at hf24)
          have pA := (hb'.cell (p := ⟨g, k * 2, none⟩) hg).trans C0.out; have pB := (hb'.cell (p := ⟨g, k * 2 + 1, none⟩) hg).trans C1.out; have pC := (hb'.cell (p := ⟨g2, k * 2, none⟩) hg2).trans D0.out; have pD := (hb'.cell (p := ⟨g2, k * 2 + 1, none⟩) hg2).trans D1.out
          (go_simp; first | exact ⟨_, rfl, Below.refl _ _, rfl⟩ | exact ⟨_, rfl, Below.refl _ _, trivial⟩ | exact ⟨_, rfl, (Below.refl _ _).alloc (Nat.le_refl _) _, trivial⟩ | exact ⟨_, rfl, Below.refl _ _, congrArg (Value.int _) (IntWalk.i64_in _ (by omega))⟩)
      · intro f W hf hb7
        have f25 : f 25 = .bool false := hf 25 (by decide)
        have HBn := Lib.hid (HBl.out.trans (hb7.mono HBl.out.size))
        clear hf hb7 C0 C1 D0 D1 HBl
        simp only [putAll, put_lit, List.map_cons, List.map_nil, List.set_cons_succ, List.set_cons_zero]
        simp only [f25]
        clear f25
        go_wp2
        go_roundw
        case rel => exact ⟨k + 1, hlt, by go_num, HBn.out⟩
        case measure => simp [intOf]; omega
    · obtain rfl : k = L := by omega
      clear hlt hb
      go_wp2
      go_ret
      exact ⟨rfl, HBl.out⟩
end Go.Proofs.YtgmpohdkignadaaGreatDoor.Ut
/-
  What a loop over all lines gathers: a box with its row, and a box with a number (world alone). No condition.
-/
namespace Go.Proofs.YtgmpohdkignadaaGreatDoor.Ut
open Go.RowKit Go.Proofs.YtgmpohdkignadaaGreatDoor.Reg
set_option linter.unusedVariables false
set_option linter.unusedSimpArgs false

/-- The blocks that the loop's body changes: its two boxes, and the row in the second. -/
def MineG (Bn Bg : Nat) (W : World) (k : Nat) : Prop := k = Bn ∨ k = Bg ∨ ∀ v, W.cell? ⟨Bg, 0, none⟩ = some v → v.ownBlock = some k
theorem mineG_ok (Bn Bg : Nat) : OwnOk (MineG Bn Bg) := by
  constructor
  · intro W W' k hg hm
    rcases hm with h | h | h
    · exact .inl h
    · exact .inr (.inl h)
    · refine .inr (.inr fun v hv => h v ?_)
      have hl := World.block_lt_of_cell? W _ hv
      exact (World.cell?_of_block (w := W) (a := ⟨Bg, 0, none⟩) (hg.block Bg hl (by simp))).trans hv
  · intro W l o o' h h1 k hm
    rcases hm with h2 | h2 | h2
    · exact .inl h2
    · exact .inr (.inl h2)
    · refine .inr (.inr fun v hv => h2 v ?_)
      have hl := World.block_lt_of_cell? W _ hv
      have hne : l ≠ Bg := by
        intro e
        subst e
        unfold World.cell? at hv
        rw [h] at hv
        cases o <;> simp_all [Obj.isCells]
      have hb : (W.putObj l o').heap[Bg]? = W.heap[Bg]? := (grownBy_putObj' W l o').block Bg hl (by simpa using fun e => hne e.symm)
      exact (World.cell?_of_block (w := W) (a := ⟨Bg, 0, none⟩) hb).trans hv
theorem mineG_lt {Bn Bg : Nat} {W : World} {t : TypeId} {v : Value} (hn : Bn < W.heap.size) (h : Boxed W Bg t v) (hv : ∀ k, v.ownBlock = some k → k < W.heap.size) : ∀ k, MineG Bn Bg W k → k < W.heap.size := by
  intro k hm
  rcases hm with rfl | rfl | hm
  · exact hn
  · exact h.lt
  · exact hv k (hm v h.cell)
/-- What a round may do. -/
theorem kpL_step {Bn Bg : Nat} {W W' : World} {t : TypeId} {v v' : Value} (h : Boxed W Bg t v) (h' : Boxed W' Bg t v') (hr : v'.ownBlock = v.ownBlock ∨ ∀ r, v'.ownBlock = some r → W.heap.size ≤ r)
    (hc : Chg (fun k => k = Bn ∨ k = Bg ∨ v.ownBlock = some k) W W') : KpL (MineG Bn Bg) W W' := by
  refine ⟨hc.size, fun g vs hL hm => ?_⟩
  have hnm : ¬ (g = Bn ∨ g = Bg ∨ v.ownBlock = some g) := by
    rintro (e | e | e)
    · exact hm (.inl e)
    · exact hm (.inr (.inl e))
    · exact hm (.inr (.inr fun u hu => by rw [h.cell] at hu; cases hu; exact e))
  refine ⟨hL.chg hc hnm, ?_⟩
  rintro (e | e | e)
  · exact hm (.inl e)
  · exact hm (.inr (.inl e))
  · have e' := e v' h'.cell
    rcases hr with h1 | h1
    · exact hnm (.inr (.inr (h1 ▸ e')))
    · have := h1 g e'; have := hL.1; omega
/-- What has been gathered behind k lines. -/
def GotIs (W : World) (B0 Bg : Nat) (s : ByteArray) (k : Nat) : Prop := ∃ v, Boxed W Bg 72 v ∧ W.ownsRow B0 41 2 v k (cellsP (spansT s k))
theorem boxed_ne_row {W : World} {Bg base n g cap size e : Nat} {xs : List Value} {t : TypeId} {v : Value} (h : Boxed W Bg t v) (hb : Bg < base) (ho : W.ownsRow base e size v n xs) : v.ownBlock ≠ some Bg := by
  intro e
  have := (ho.lt Bg e).1
  omega
theorem gotIs_kept {W W' : World} {B0 Bg k : Nat} {s : ByteArray} {row : Option Nat} (h : GotIs W B0 Bg s k) (hg : W.grownBy W' row) (hr : ∀ r, row = some r → ∃ o : Obj, W.heap[r]? = some o ∧ o.isCells = false) : GotIs W' B0 Bg s k := by
  obtain ⟨v, h1, h2⟩ := h
  have hbr : row ≠ some Bg := by
    intro e
    obtain ⟨o, ho, hc⟩ := hr Bg e
    have := h1.cell
    unfold World.cell? at this
    rw [ho] at this
    cases o <;> simp_all [Obj.isCells]
  refine ⟨v, h1.kept hg (fun e => hbr e.symm), h2.kept hg ?_⟩
  cases hv : v.ownBlock with
  | none => exact .inl rfl
  | some g =>
    refine .inr fun e => ?_
    obtain ⟨o, ho, hc⟩ := hr g (by rw [e])
    rcases h2.2 with ⟨rfl, -⟩ | ⟨g', cap, cur, rfl, -, hh, -⟩
    · simp [Value.ownBlock] at hv
    · obtain rfl : g' = g := by simpa [Value.ownBlock] using hv
      rw [hh] at ho
      cases ho
      simp [Obj.isCells] at hc
theorem boxed_from {W W' : World} {B : Nat} {t : TypeId} {v : Value} {row : Option Nat} (h : Boxed W B t v) (hg : W.grownBy W' row) (hr : ∀ r, row = some r → ∃ o : Obj, W.heap[r]? = some o ∧ o.isCells = false) : Boxed W' B t v := by
  refine h.kept hg (fun e => ?_)
  obtain ⟨o, ho, hc⟩ := hr B e.symm
  have := h.cell
  unfold World.cell? at this
  rw [ho] at this
  cases o <;> simp_all [Obj.isCells]
theorem chg_from {S : Nat → Prop} {w W W' : World} {row : Option Nat} (h : Chg S w W) (hg : W.grownBy W' row) (hr : ∀ r, row = some r → w.heap.size ≤ r) : Chg S w W' :=
  h.trans (Chg.of_grown hg) (fun x hx e => by have := hr x e.symm; omega)
theorem kpL_below {M : World → Nat → Prop} (hM : OwnOk M) {W W' : World} (hb : Below W.heap.size W W') : KpL M W W' :=
  ⟨hb.size, fun g vs hL hm => ⟨hL.below hb, fun hc => hm (hM.fresh W W' g (grown_of_below hb) hc)⟩⟩
theorem not_prefix {pre : List Nat} {x N : Nat} (hp : pre = List.range pre.length) (hx : x ≠ pre.length) : ¬ (pre ++ [x] <+: List.range N) := by
  rintro ⟨t, ht⟩
  have h1 : (List.range N)[pre.length]? = some x := by rw [← ht]; simp
  have h2 : pre.length < N := by
    have := congrArg List.length ht
    simp at this; omega
  rw [List.getElem?_range h2] at h1
  exact hx (by simpa using h1.symm)
theorem not_prefix_ge {pre : List Nat} {x N : Nat} (hx : N ≤ x) : ¬ (pre ++ [x] <+: List.range N) := by
  rintro ⟨t, ht⟩
  have : x ∈ List.range N := by rw [← ht]; simp
  rw [List.mem_range] at this
  omega
theorem range_snoc {pre : List Nat} (hp : pre = List.range pre.length) : pre ++ [pre.length] = List.range (pre ++ [pre.length]).length := by
  rw [List.length_append, List.length_singleton, List.range_succ, ← hp]
/-- What one more line does: W1 to w3, and the box is written. -/
def GotStep (W1 w3 : World) (B0 Bg : Nat) (s : ByteArray) (k : Nat) (v v' : Value) : Prop :=
    Boxed w3 Bg 72 v ∧ GotIs (w3.setCell ⟨Bg, 0, none⟩ v') B0 Bg s (k + 1) ∧ Boxed (w3.setCell ⟨Bg, 0, none⟩ v') Bg 72 v' ∧ KeepsOthers W1 (w3.setCell ⟨Bg, 0, none⟩ v') ∧
      Chg (fun j => j = Bg ∨ v.ownBlock = some j) W1 w3 ∧ Chg (fun j => j = Bg ∨ v.ownBlock = some j) W1 (w3.setCell ⟨Bg, 0, none⟩ v') ∧ (v'.ownBlock = v.ownBlock ∨ ∀ r, v'.ownBlock = some r → W1.heap.size ≤ r) ∧ (∀ j, v.ownBlock = some j → B0 ≤ j)
/-- One more line is gathered. -/
theorem got_step {W1 w3 : World} {B0 Bg k : Nat} {s : ByteArray} {v v' : Value} {tmp : Obj} (hv : Boxed W1 Bg 72 v) (hrow : W1.ownsRow B0 41 2 v k (cellsP (spansT s k))) (hB : B0 ≤ W1.heap.size) (hBg : Bg < B0)
    (hown' : w3.ownsRow B0 41 2 v' (k + 1) (cellsP (spansT s k) ++ [.int .i64 (beginF s (k : Nat)), .int .i64 (spanT s k)])) (hg : (W1.alloc tmp).grownBy w3 v.ownBlock) (hblk : v'.ownBlock = v.ownBlock ∨ v'.ownBlock = some (W1.alloc tmp).heap.size) :
    GotStep W1 w3 B0 Bg s k v v' := by
  have hne : (72 : TypeId) ≠ 41 := by decide
  have hv1 : Boxed w3 Bg 72 v := (hv.alloc tmp).kept hg (hv.not_row hne hrow)
  have hc3 : Chg (fun j => j = Bg ∨ v.ownBlock = some j) W1 w3 := (Chg.alloc (S := fun j => j = Bg ∨ v.ownBlock = some j) W1 tmp).trans (Chg.of_grown hg) (fun x _ e => .inr e.symm)
  refine ⟨hv1, ⟨v', hv1.set v', ?_⟩, hv1.set v', ?_, hc3, hc3.trans (Chg.set w3 ⟨Bg, 0, none⟩ v') (fun x _ e => .inl e), ?_, fun j e => (hrow.lt j e).1⟩
  · rw [spansT_succ, cellsP_app]
    exact hown'.kept (grownBy_setCell' w3 Bg v') (.inr (hv1.not_row hne hown').symm)
  · refine ((KeepsOthers.alloc W1 tmp).trans (KeepsOthers.of_grownBy hg fun j o ej hj => ?_)).trans (KeepsOthers.setCell _ _ _)
    rcases (hrow.alloc tmp).2 with ⟨rfl, _⟩ | ⟨g, cap, cur, rfl, _, hgb, _⟩
    · simp [Value.ownBlock] at ej
    · obtain rfl : g = j := by simpa [Value.ownBlock] using ej
      rw [hgb] at hj; cases hj; rfl
  · refine hblk.imp (fun h => h) (fun h r e => ?_)
    rw [h] at e
    have : (W1.alloc tmp).heap.size = r := by simpa using e
    rw [← this, World.size_alloc]
    omega
/-- What has been gathered, as a list. -/
def GotL (W : World) (B0 Bg : Nat) (xs : List (Nat × Nat)) : Prop := ∃ v, Boxed W Bg 72 v ∧ W.ownsRow B0 41 2 v xs.length (cellsP xs)
theorem gotL_kept {W W' : World} {B0 Bg : Nat} {xs : List (Nat × Nat)} {row : Option Nat} (h : GotL W B0 Bg xs) (hg : W.grownBy W' row) (hr : ∀ r, row = some r → ∃ o : Obj, W.heap[r]? = some o ∧ o.isCells = false) : GotL W' B0 Bg xs := by
  obtain ⟨v, h1, h2⟩ := h
  refine ⟨v, boxed_from h1 hg hr, h2.kept hg ?_⟩
  cases hv : v.ownBlock with
  | none => exact .inl rfl
  | some g =>
    refine .inr fun e => ?_
    obtain ⟨o, ho, hc⟩ := hr g (by rw [e])
    rcases h2.2 with ⟨rfl, -⟩ | ⟨g', cap, cur, rfl, -, hh, -⟩
    · simp [Value.ownBlock] at hv
    · obtain rfl : g' = g := by simpa [Value.ownBlock] using hv
      rw [hh] at ho
      cases ho
      simp [Obj.isCells] at hc
def GotStepL (W1 w3 : World) (B0 Bg : Nat) (xs : List (Nat × Nat)) (ab : Nat × Nat) (v v' : Value) : Prop :=
    Boxed w3 Bg 72 v ∧ GotL (w3.setCell ⟨Bg, 0, none⟩ v') B0 Bg (xs ++ [ab]) ∧ Boxed (w3.setCell ⟨Bg, 0, none⟩ v') Bg 72 v' ∧ KeepsOthers W1 (w3.setCell ⟨Bg, 0, none⟩ v') ∧
      Chg (fun j => j = Bg ∨ v.ownBlock = some j) W1 (w3.setCell ⟨Bg, 0, none⟩ v') ∧ (v'.ownBlock = v.ownBlock ∨ ∀ r, v'.ownBlock = some r → W1.heap.size ≤ r) ∧ (∀ j, v.ownBlock = some j → B0 ≤ j)
theorem got_stepL {W1 w3 : World} {B0 Bg : Nat} {xs : List (Nat × Nat)} {a b : Nat} {v v' : Value} {tmp : Obj} (hv : Boxed W1 Bg 72 v) (hrow : W1.ownsRow B0 41 2 v xs.length (cellsP xs)) (hB : B0 ≤ W1.heap.size)
    (hown' : w3.ownsRow B0 41 2 v' (xs.length + 1) (cellsP xs ++ [.int .i64 a, .int .i64 b])) (hg : (W1.alloc tmp).grownBy w3 v.ownBlock) (hblk : v'.ownBlock = v.ownBlock ∨ v'.ownBlock = some (W1.alloc tmp).heap.size) :
    GotStepL W1 w3 B0 Bg xs (a, b) v v' := by
  have hne : (72 : TypeId) ≠ 41 := by decide
  have hv1 : Boxed w3 Bg 72 v := (hv.alloc tmp).kept hg (hv.not_row hne hrow)
  have hc3 : Chg (fun j => j = Bg ∨ v.ownBlock = some j) W1 w3 := (Chg.alloc (S := fun j => j = Bg ∨ v.ownBlock = some j) W1 tmp).trans (Chg.of_grown hg) (fun x _ e => .inr e.symm)
  refine ⟨hv1, ⟨v', hv1.set v', ?_⟩, hv1.set v', ?_, hc3.trans (Chg.set w3 ⟨Bg, 0, none⟩ v') (fun x _ e => .inl e), ?_, fun j e => (hrow.lt j e).1⟩
  · rw [cellsP_app, List.length_append, List.length_singleton]
    exact hown'.kept (grownBy_setCell' w3 Bg v') (.inr (hv1.not_row hne hown').symm)
  · refine ((KeepsOthers.alloc W1 tmp).trans (KeepsOthers.of_grownBy hg fun j o ej hj => ?_)).trans (KeepsOthers.setCell _ _ _)
    rcases (hrow.alloc tmp).2 with ⟨rfl, _⟩ | ⟨g, cap, cur, rfl, _, hgb, _⟩
    · simp [Value.ownBlock] at ej
    · obtain rfl : g = j := by simpa [Value.ownBlock] using ej
      rw [hgb] at hj; cases hj; rfl
  · refine hblk.imp (fun h => h) (fun h r e => ?_)
    rw [h] at e
    have : (W1.alloc tmp).heap.size = r := by simpa using e
    rw [← this, World.size_alloc]
    omega
end Go.Proofs.YtgmpohdkignadaaGreatDoor.Ut
/-
  A region that draws its order, inside a fence (in a round of a loop over an iterator): its operations make no calls. No condition.
-/
namespace Go.Proofs.YtgmpohdkignadaaGreatDoor.Reg
open Go.RowKit Go.Maps
set_option linter.unusedVariables false
set_option linter.unusedSimpArgs false

section
variable {P : Program} {ops : Array Oper} {Q : Exit → Act → World → Prop}

/-- An operation that makes no call of a Go function, and neither defers nor waits. -/
def calm (o : Oper) : Bool := match o.op with
  | .move _ | .assign _ | .pick _ _ _ | .load _ _ | .binOp _ _ _ _ _ | .unOp _ _ _ | .fieldAddr _ _ _ | .indexAddr _ _ _ | .extract _ _ => true
  | .call c => (match c.callee with | .builtin .len => true | _ => false)
  | _ => false
def NoQ : Exit → Act → World → Prop := fun _ _ _ => False
theorem calm_run (o : Oper) (h : calm o = true) (ρ : Operand → Value) (w : World) : (∃ v w', (execOp ρ o).run P w = .ok (.value v) w') ∨ ∃ h w', (execOp ρ o).run P w = .halt h w' := by
  have key : ∀ s : Sem Value, (∃ v w', (do pure (Next.value (← s)) : Sem Next).run P w = .ok (.value v) w') ∨ ∃ h w', (do pure (Next.value (← s)) : Sem Next).run P w = .halt h w' := by
    intro s
    rw [Sem.run_bind]
    cases s.run P w with
    | ok v w' => exact .inl ⟨v, w', rfl⟩
    | halt h w' => exact .inr ⟨h, w', rfl⟩
  unfold calm at h
  unfold execOp
  cases ho : o.op with
  | pick c x y =>
    simp only [Sem.run_bind]
    cases (asBool (ρ c)).run P w with
    | ok v w' => exact .inl ⟨_, w', rfl⟩
    | halt h w' => exact .inr ⟨h, w', rfl⟩
  | call c =>
    rw [ho] at h
    obtain ⟨cal, args, ats⟩ := c
    cases cal with
    | builtin b =>
      cases b <;> first | (simp at h; done) | skip
      simp only [resolve, invoke, builtin, Sem.run_bind, Sem.run_pure, Result.andThen_ok]
      cases (Builtin.len_ ats o.type (Array.map ρ args)).run P w with
      | ok v w' => exact .inl ⟨v, w', rfl⟩
      | halt h w' => exact .inr ⟨h, w', rfl⟩
    | invoke r m => simp at h
    | value f => simp at h
  | _ => rw [ho] at h; first | exact key _ | exact .inl ⟨_, _, rfl⟩ | (simp at h; done)
theorem calm_about (o : Oper) (h : calm o = true) (ρ : Operand → Value) (w : World) : o.about P w ρ = none := by
  unfold calm at h
  unfold Oper.about
  cases ho : o.op with
  | call c =>
    rw [ho] at h
    obtain ⟨cal, args, ats⟩ := c
    cases cal with
    | builtin b =>
      cases b <;> first | (simp at h; done) | skip
      simp only [resolve, Sem.run_pure]
      rfl
    | invoke r m => simp at h
    | value f => simp at h
  | _ => rfl
theorem calm_in (F : Fence) (n : Nat) {o : Oper} (h : calm o = true) {a : Act} {w : World} {K : Act → World → Prop} (hw : o.wp P a w K NoQ) : o.wpIn F n P a w K Q := by
  refine ⟨fun f hf => (by rw [calm_about o h] at hf; cases hf), ?_⟩
  have hd : ∀ c, o.op ≠ .defer c := fun c e => by unfold calm at h; rw [e] at h; cases h
  rw [Oper.semAt_eq _ _ _ hd]
  unfold Oper.wp at hw
  rcases calm_run (P := P) o h a.eval w with ⟨v, w', e⟩ | ⟨x, w', e⟩
  · rw [e] at hw ⊢; exact hw
  · rw [e] at hw
    cases x <;> exact absurd hw (by simp [Oper.upon, NoQ])
theorem wpIn_inv {F : Fence} {n : Nat} {id : Nat} {a : Act} {w : World} (hm : P.follows .mixedOrders = true) (hcalm : ops.all calm = true) (Inv : Array Bool → Act → World → Prop)
    (h0 : Inv (Array.replicate ops.size false) a { w with drawn := w.drawn + 1 })
    (step : ∀ listed a w i, Inv listed a w → listed.size = ops.size → i ∈ Region.ready .any ops listed → wpOp P ops NoQ i (fun a' w' => Inv (listed.setIfInBounds i true) a' w') a w)
    (done : ∀ listed a w, Inv listed a w → listed.size = ops.size → Region.ready .any ops listed = [] → Q .normal a w) : (Code.region id ops true).wpIn F n P Q a w := by
  refine wpIn_region_any hm ?_
  have key : ∀ fuel listed a w, left listed ≤ fuel → listed.size = ops.size → Inv listed a w → wpAnyIn F n P .any ops Q fuel listed a w := by
    intro fuel
    induction fuel with
    | zero =>
      intro listed a w hl hs hI
      have hr : Region.ready .any ops listed = [] := by
        rcases hx : Region.ready .any ops listed with _ | ⟨i, r⟩
        · rfl
        · have hi : i ∈ Region.ready .any ops listed := by rw [hx]; exact List.mem_cons_self
          have := left_set (mem_ready.1 hi).1
          omega
      exact ⟨hr, done listed a w hI hs hr⟩
    | succ m ih =>
      intro listed a w hl hs hI
      refine ⟨fun hr => done listed a w hI hs hr, fun i hi => ?_⟩
      obtain ⟨hun, o, ho, haf⟩ := mem_ready.1 hi
      have hl2 := left_set (mem_ready.1 hi).1
      have hst := wpOp_mono (fun a' w' h => ih _ a' w' (by omega) (by simpa using hs) h) (step listed a w i hI hs hi)
      have hc : calm o = true := Array.all_eq_true_iff_forall_mem.1 hcalm o (Array.mem_of_getElem? ho)
      unfold wpOp at hst
      unfold wpOpIn
      rw [ho] at hst ⊢
      by_cases hw : Region.wanted o (yielded ops a.tmps) = true
      · simp only [hw, if_true] at hst ⊢
        rcases hst with h | ⟨-, a', w', h⟩
        · exact calm_in F n hc h
        · exact h.elim
      · simp only [hw, if_false, Bool.false_eq_true] at hst ⊢
        exact ⟨fun f hf => (by rw [calm_about o hc] at hf; cases hf), hst⟩
  refine key _ _ a _ ?_ (by simp) h0
  unfold left
  refine Nat.le_trans (List.length_filter_le _ _) (by simp)
theorem wpIn_held {F : Fence} {n : Nat} {id : Nat} {a0 : Act} {w0 : World} (hm : P.follows .mixedOrders = true) (hcalm : ops.all calm = true) (V : Nat → Value → World → Prop)
    (hV : ∀ d v w w', V d v w → Below w.heap.size w w' → V d v w') (ht : tidy ops = true)
    (hsz : (ops.all fun o => match o.dst with | some d => decide (d < a0.tmps.size) | none => true) = true)
    (h : ∀ i, i < ops.size → Owes P ops NoQ V a0 w0 i)
    (hd : ∀ a w, a.tmps.size = a0.tmps.size → a.defers = a0.defers → Below w0.heap.size w0 w → (∀ j d, writes ops j d = true → V d (a.tmps.getD d undef) w) →
      (∀ d, (∀ j, writes ops j d = false) → a.tmps.getD d undef = a0.tmps.getD d undef) → Q .normal a w) :
    (Code.region id ops true).wpIn F n P Q a0 w0 := by
  have hdr : Below w0.heap.size w0 { w0 with drawn := w0.drawn + 1 } := ⟨rfl, rfl, rfl, Nat.le_refl _, fun _ _ => rfl⟩
  have hnone : ∀ j, (Array.replicate ops.size false).getD j false = false := fun j => by
    rw [Array.getD_eq_getD_getElem?]
    by_cases hj : j < ops.size <;> simp [hj]
  refine wpIn_inv hm hcalm (Inv ops V a0 w0) ⟨rfl, rfl, hdr, fun j d _ hl => ?_, fun j k _ hl => ?_, fun d _ => rfl⟩ ?_ ?_
  · rw [hnone] at hl; cases hl
  · rw [hnone] at hl; cases hl
  · intro listed a w i hI hs hi
    obtain ⟨hun, o, ho, haf⟩ := mem_ready.1 hi
    have hil : i < ops.size := (Array.getElem?_eq_some_iff.1 ho).1
    have hwl : ∀ j, waits ops i j = true → listed.getD j false = true := fun j hj => by
      unfold waits at hj
      rw [ho] at hj
      simp only [Option.map_some, Option.getD_some, Array.any_eq_true', Bool.and_eq_true, beq_iff_eq] at hj
      obtain ⟨e, he, rfl, hb⟩ := hj
      exact haf e he hb
    have hilt : i < listed.size := by omega
    have hnl : listed.getD i false = false := by
      rw [Array.getD_eq_getD_getElem?] at hun ⊢
      simp [hilt] at hun ⊢
      exact hun
    have htd : ∀ j, j < ops.size → i ≠ j → ∀ d, writes ops j d = true → writes ops i d = false ∧ (d ∈ o.looksAt ops → waits ops i j = true ∨ waits ops j i = true) := fun j hj hne d hw => by
      unfold tidy at ht
      rw [Bool.and_eq_true] at ht
      have h1 := List.all_eq_true.1 (List.all_eq_true.1 ht.2 i (List.mem_range.2 hil)) j (List.mem_range.2 hj)
      unfold writes at hw
      have hdj : (ops[j]?).bind (·.dst) = some d := by simpa using hw
      rw [hdj, ho] at h1
      have hb : (i == j) = false := by simpa using hne
      rw [hb] at h1
      simp only [Bool.false_or, Bool.and_eq_true, Bool.not_eq_true', Bool.or_eq_true] at h1
      refine ⟨h1.1, fun hd => ?_⟩
      rcases h1.2 with (h2 | h2) | h2
      · have : (o.looksAt ops).contains d = true := by simpa using hd
        rw [this] at h2; cases h2
      · exact .inl h2
      · exact .inr h2
    have hwn : ∀ j, waits ops j i = true → listed.getD j false = false := fun j hj => by
      cases hx : listed.getD j false with
      | false => rfl
      | true => have := hI.closed j i hj hx; rw [hnl] at this; cases this
    refine wpOp_mono (fun a' w' hh => ?_) (h i hil a w hI.size hI.defers hI.below (fun x hx => ?_))
    · obtain ⟨v, rfl, hb, hv⟩ := hh
      have hdl : ∀ t, (ops[i]?).bind (·.dst) = some t → t < a.tmps.size := fun t hte => by
        rw [ho] at hte
        have h2 := Array.all_eq_true_iff_forall_mem.1 hsz o (Array.mem_of_getElem? ho)
        have h3 : o.dst = some t := hte
        rw [h3] at h2
        rw [hI.size]
        exact of_decide_eq_true h2
      have hli : ∀ j, j ≠ i → (listed.setIfInBounds i true).getD j false = listed.getD j false := fun j hj => getD_set_ne false (Ne.symm hj)
      have hself : (listed.setIfInBounds i true).getD i false = true := by
        rw [Array.getD_eq_getD_getElem?]; simp [hilt]
      refine ⟨?_, ?_, hI.below.trans (hb.mono hI.below.size), fun j d hw hl => ?_, fun j k hjk hl => ?_, fun d hd => ?_⟩
      · cases hx : (ops[i]?).bind (·.dst) <;> simp [Act.put, hI.size]
      · cases hx : (ops[i]?).bind (·.dst) <;> simp [Act.put, hI.defers]
      · rw [getD_put a _ v d hdl]
        by_cases hji : j = i
        · subst hji
          have : (ops[j]?).bind (·.dst) = some d := by simpa [writes] using hw
          rw [if_pos this]
          exact hv d hw
        · have hne := (htd j (writes_lt hw) (Ne.symm hji) d hw).1
          rw [if_neg (by intro e; simp [writes, e] at hne)]
          rw [hli j hji] at hl
          exact hV _ _ _ _ (hI.done j d hw hl) hb
      · by_cases hki : k = i
        · subst hki; exact hself
        · rw [hli k hki]
          by_cases hji : j = i
          · subst hji; exact hwl k hjk
          · rw [hli j hji] at hl; exact hI.closed j k hjk hl
      · rw [getD_put a _ v d hdl]
        rw [if_neg]
        · refine hI.rest d (fun j hw => ?_)
          have := hd j hw
          by_cases hji : j = i
          · subst hji; rw [hself] at this; cases this
          · rwa [hli j hji] at this
        · intro e
          have := hd i (by simp [writes, e])
          rw [hself] at this; cases this
    · unfold reads at hx
      rw [ho] at hx
      obtain ⟨d, hdm, rfl⟩ := List.mem_map.1 hx
      refine ⟨fun hf => ?_, fun hf => ?_⟩
      · simp only [List.any_eq_true, List.mem_range, Bool.and_eq_true] at hf
        obtain ⟨j, _, hw, hwt⟩ := hf
        exact hI.done j d hw (hwl j hwt)
      · refine hI.rest d (fun j hw => ?_)
        by_cases hji : j = i
        · subst hji; exact hnl
        · rcases (htd j (writes_lt hw) (Ne.symm hji) d hw).2 hdm with h1 | h1
          · exfalso
            rw [List.any_eq_false] at hf
            have := hf j (List.mem_range.2 (writes_lt hw))
            simp [hw, h1] at this
          · exact hwn j h1
  · intro listed a w hI hs hr
    have hal := all_listed ht hr hs
    exact hd a w hI.size hI.defers hI.below (fun j d hw => hI.done j d hw (hal j (writes_lt hw))) (fun d hd => hI.rest d (fun j hw => by rw [hd j] at hw; cases hw))

theorem wpIn_held' {F : Fence} {n : Nat} {id : Nat} {a0 : Act} {w0 : World} (hm : P.follows .mixedOrders = true) (hcalm : ops.all calm = true) (V : Nat → Value → World → Prop)
    (hV : ∀ d v w w', V d v w → Below w.heap.size w w' → V d v w') (ht : tidy ops = true) (D : List Nat) (hD : dsts ops = D)
    (hsz : (ops.all fun o => match o.dst with | some d => decide (d < a0.tmps.size) | none => true) = true)
    (h : ∀ i, i < ops.size → Owes P ops NoQ V a0 w0 i)
    (hd : ∀ (f : Nat → Value) w, (∀ d ∈ D, V d (f d) w) → Below w0.heap.size w0 w → Q .normal (putAll a0 (D.map fun d => (d, f d))) w) :
    (Code.region id ops true).wpIn F n P Q a0 w0 := by
  refine wpIn_held hm hcalm V hV ht hsz h (fun a w hs hdf hb hdone hrest => ?_)
  subst hD
  have e := putAll_eq a (dsts ops) a0 hs hdf (fun d hdm => by
    obtain ⟨j, hj⟩ := mem_dsts.1 hdm
    unfold writes at hj
    cases hx : ops[j]? with
    | none => rw [hx] at hj; simp at hj
    | some o =>
      rw [hx] at hj
      have h3 : o.dst = some d := by simpa using hj
      have h2 := Array.all_eq_true_iff_forall_mem.1 hsz o (Array.mem_of_getElem? hx)
      rw [h3] at h2
      exact of_decide_eq_true h2) (fun d hn => hrest d (fun j => by
    cases hx : writes ops j d with
    | false => rfl
    | true => exact absurd (mem_dsts.2 ⟨j, hx⟩) hn))
  rw [e]
  exact hd (fun d => a.tmps.getD d undef) w (fun d hdm => by obtain ⟨j, hj⟩ := mem_dsts.1 hdm; exact hdone j d hj) hb

end
end Go.Proofs.YtgmpohdkignadaaGreatDoor.Reg
