/-
  The document's set of marks (bodkinref10.Set): its form in memory, and its method lay. No condition.
-/
import Derived.Test.YtdkdnkmfjpdcpaaDoorMkLays
import Derived.Test.YtdkdnkmfjpdcpaaDoorMkGet
import Derived.Test.YtdkdnkmfjpdcpaaDoorMkMove
import Derived.Laws.AppendOwnNone
namespace Go.Proofs.YtdkdnkmfjpdcpaaDoor.Mk
open Go.RowKit Go.Maps
set_option linter.unusedVariables false
set_option linter.unusedSimpArgs false

theorem row_chg {w w' : World} {S : Nat → Prop} {base e size n : Nat} {v : Value} {xs : List Value} (h : w.ownsRow base e size v n xs) (hc : Chg S w w') (hS : ∀ k, v.ownBlock = some k → ¬ S k) : w'.ownsRow base e size v n xs := by
  refine ⟨h.1, ?_⟩
  rcases h.2 with h0 | ⟨g, cap, cur, rfl, hg, hh, hr⟩
  · exact .inl h0
  · exact .inr ⟨g, cap, cur, rfl, hg, (hc.block g (Array.getElem?_eq_some_iff.1 hh).1 (hS g rfl)).trans hh, hr⟩
theorem row_base {w : World} {base e size n : Nat} {v : Value} {xs : List Value} (h : w.ownsRow base e size v n xs) : w.ownsRow 0 e size v n xs := by
  refine ⟨h.1, ?_⟩
  rcases h.2 with h0 | ⟨g, cap, cur, rfl, hg, hr⟩
  · exact .inl h0
  · exact .inr ⟨g, cap, cur, rfl, Nat.zero_le _, hr⟩

/-- Block b of w is the document's set (its list: v) that holds just l. -/
structure IsRef (w : World) (b : Nat) (v : Value) (l : ML) : Prop where
  blk : w.heap[b]? = some (.cells #[v] 76 (0, 0))
  ok : Ok l
  row : w.ownsRow 0 33 2 v l.length (cellsM l)
def footR (b : Nat) (v : Value) (k : Nat) : Prop := k = b ∨ v.ownBlock = some k
def NewV (w : World) (v : Value) : Prop := ∀ k, v.ownBlock = some k → w.heap.size ≤ k

theorem IsRef.cell {w : World} {b : Nat} {v : Value} {l : ML} (h : IsRef w b v l) : w.cell? ⟨b, 0, none⟩ = some v := cell_of_one h.blk
theorem IsRef.free {w : World} {b : Nat} {v : Value} {l : ML} (h : IsRef w b v l) : w.frozen? ⟨b, 0, none⟩ = false := free_of_one h.blk
theorem IsRef.lt {w : World} {b : Nat} {v : Value} {l : ML} (h : IsRef w b v l) : b < w.heap.size := (Array.getElem?_eq_some_iff.1 h.blk).1
theorem IsRef.kept {w w' : World} {b : Nat} {v : Value} {l : ML} {S : Nat → Prop} (h : IsRef w b v l) (hc : Chg S w w') (hS : ∀ k, footR b v k → ¬ S k) : IsRef w' b v l :=
  ⟨(hc.block b h.lt (hS b (.inl rfl))).trans h.blk, h.ok, row_chg h.row hc (fun k hk => hS k (.inr hk))⟩
theorem IsRef.below {w w' : World} {b : Nat} {v : Value} {l : ML} (h : IsRef w b v l) (hb : Below w.heap.size w w') : IsRef w' b v l :=
  h.kept (Chg.of_below (S := fun _ => False) hb) (fun _ _ f => f)
theorem IsRef.mks {w : World} {b : Nat} {A : Option Addr} {c : Nat} {l : ML} (h : IsRef w b (.slice A l.length c) l) : MksAt w A l := MksAt.of_row h.row
theorem IsRef.rlt {w : World} {b : Nat} {v : Value} {l : ML} (h : IsRef w b v l) : ∀ k, v.ownBlock = some k → k < w.heap.size := fun k hk => (h.row.lt k hk).2
/-- A set and the document's set share no block. -/
theorem sep {w : World} {b c : Nat} {ro : Option Nat} {v : Value} {l m : ML} (h : IsSet w b ro l) (k : IsRef w c v m) : ∀ x, foot b ro x → ¬ footR c v x := by
  have hrow : ∀ g, v.ownBlock = some g → ∃ cur, w.heap[g]? = some (.cells cur 33 (0, 0)) := by
    intro g hg
    rcases k.row.2 with ⟨rfl, _⟩ | ⟨g', cap, cur, rfl, _, hh, _⟩
    · simp [Value.ownBlock] at hg
    · obtain rfl : g' = g := by simpa [Value.ownBlock] using hg
      exact ⟨cur, hh⟩
  have hmap : ∀ r, ro = some r → ∃ es clock, w.heap[r]? = some (.map es clock) := by
    rintro r rfl
    obtain ⟨es, clock, hb, _⟩ := h.map
    exact ⟨es, clock, hb⟩
  rintro x (rfl | hx) (rfl | hy)
  · have h1 := h.blk; rw [k.blk] at h1; cases h1
  · obtain ⟨cur, hc⟩ := hrow x hy
    have h1 := h.blk; rw [hc] at h1
    injection h1 with h1; injection h1 with _ h2; exact absurd h2 (by decide)
  · obtain ⟨es, clock, hb⟩ := hmap x hx.symm
    have h1 := k.blk; rw [hb] at h1; cases h1
  · obtain ⟨es, clock, hb⟩ := hmap x hx.symm
    obtain ⟨cur, hc⟩ := hrow x hy
    rw [hb] at hc; cases hc
theorem IsRef.ne {w : World} {b : Nat} {v : Value} {l : ML} (h : IsRef w b v l) : v.ownBlock ≠ some b := by
  intro hv
  rcases h.row.2 with ⟨rfl, _⟩ | ⟨g', cap, cur, rfl, _, hh, _⟩
  · simp [Value.ownBlock] at hv
  · obtain rfl : g' = b := by simpa [Value.ownBlock] using hv
    have h1 := h.blk; rw [hh] at h1
    injection h1 with h1; injection h1 with _ h2; exact absurd h2 (by decide)

theorem cell_was {w : World} (o : Obj) {p : Addr} (h : p.block < w.heap.size) : (w.alloc o).cell? p = w.cell? p := ((Below.refl w.heap.size w).alloc (Nat.le_refl _) o).cell h

/-- One round of lay. -/
def stepL (m : Int × Int) (o : ML × Bool) (x : Int × Int) : ML × Bool :=
  if x.1 = m.1 then (if o.2 then o else (o.1 ++ [m], true)) else if o.2 = false ∧ m.1 ≤ x.1 then (o.1 ++ [m] ++ [x], true) else (o.1 ++ [x], o.2)
def layL (m : Int × Int) (l : ML) : ML := match l.foldl (stepL m) ([], false) with | (o, true) => o | (o, false) => o ++ [m]
theorem step_done (m : Int × Int) : ∀ (l o : ML), l.foldl (stepL m) (o, true) = (o ++ del l m.1, true)
  | [], o => by simp [del]
  | x :: r, o => by
    have ih := step_done m r
    rw [List.foldl_cons]
    unfold del at ih ⊢
    by_cases h : x.1 = m.1
    · rw [show stepL m (o, true) x = (o, true) by simp [stepL, h], ih]; simp [h]
    · rw [show stepL m (o, true) x = (o ++ [x], true) by simp [stepL, h], ih]; simp [h]
theorem insP_all (m : Int × Int) : ∀ l : ML, (∀ y ∈ l, m.1 < y.1) → insP m l = m :: l
  | [], _ => rfl
  | y :: r, h => by simp [insP, h y List.mem_cons_self]
theorem del_none (l : ML) (k : Int) (h : ∀ y ∈ l, y.1 ≠ k) : del l k = l := by
  unfold del; exact List.filter_eq_self.2 fun y hy => by simp [h y hy]
theorem step_open (m : Int × Int) : ∀ (l o : ML), l.Pairwise (fun p q => p.1 < q.1) → (match l.foldl (stepL m) (o, false) with | (o, true) => o | (o, false) => o ++ [m]) = o ++ ins l m.1 m.2
  | [], o, _ => by simp [ins, del, insP]
  | x :: r, o, h => by
    obtain ⟨hx, hr⟩ := List.pairwise_cons.1 h
    rw [List.foldl_cons]
    by_cases h1 : x.1 = m.1
    · rw [show stepL m (o, false) x = (o ++ [m], true) by simp [stepL, h1], step_done]
      have hd : del (x :: r) m.1 = del r m.1 := by unfold del; simp [h1]
      have hn : del r m.1 = r := del_none r m.1 (fun y hy => by have := hx y hy; omega)
      simp only [ins, hd, hn]
      rw [insP_all _ r (fun y hy => by have := hx y hy; simp only; omega)]
      simp
    · have hd : del (x :: r) m.1 = x :: del r m.1 := by unfold del; simp [h1]
      by_cases h2 : m.1 ≤ x.1
      · rw [show stepL m (o, false) x = (o ++ [m] ++ [x], true) by simp [stepL, h1, h2], step_done]
        simp only [ins, hd]
        have hn : del r m.1 = r := del_none r m.1 (fun y hy => by have := hx y hy; omega)
        rw [hn, insP_all _ (x :: r) (fun y hy => by rcases List.mem_cons.1 hy with rfl | hy; · simp only; omega
                                                    · have := hx y hy; simp only; omega)]
        simp
      · rw [show stepL m (o, false) x = (o ++ [x], false) by simp [stepL, h1, h2], step_open m r _ hr]
        simp only [ins, hd, insP]
        rw [if_neg (by omega)]
        simp
theorem layL_eq (m : Int × Int) (l : ML) (h : Ok l) : layL m l = ins l m.1 m.2 := by
  have := step_open m l [] h.1
  simpa [layL] using this
def layS (m : Int × Int) (l : ML) (k : Nat) : ML × Bool := (l.take k).foldl (stepL m) ([], false)
theorem layS_take (m : Int × Int) (l : ML) (k : Nat) (h : k < l.length) : layS m l (k + 1) = stepL m (layS m l k) l[k] := by
  unfold layS; rw [List.take_succ_eq_append_getElem h, List.foldl_append]; rfl
theorem stepL_len (m : Int × Int) (o : ML × Bool) (x : Int × Int) : (stepL m o x).1.length + (if (stepL m o x).2 then 0 else 1) ≤ o.1.length + (if o.2 then 0 else 1) + 1 := by
  unfold stepL
  split
  · split
    · omega
    · simp_all
  · split
    · simp_all
    · simp; omega
theorem layS_len (m : Int × Int) (l : ML) : ∀ k, k ≤ l.length → (layS m l k).1.length + (if (layS m l k).2 then 0 else 1) ≤ k + 1
  | 0, _ => by simp [layS]
  | k + 1, h => by
    have ih := layS_len m l k (by omega)
    rw [layS_take m l k (by omega)]
    have := stepL_len m (layS m l k) l[k]
    omega

theorem grown_cell {w w' : World} {row : Option Nat} (hg : w.grownBy w' row) {p : Addr} (hp : p.block < w.heap.size) (hn : row ≠ some p.block) : w'.cell? p = w.cell? p :=
  (Chg.of_grown hg).cell hp (fun h => hn h.symm)

theorem app_facts {w0 wr w3 : World} {e size m : Nat} {u : Value} {xs : List Value} {o1 o2 : Obj} (hO : wr.ownsRow w0.heap.size e size u m xs) (hg : ((wr.alloc o1).alloc o2).grownBy w3 u.ownBlock) (hs : w0.heap.size ≤ wr.heap.size) (hb : Below w0.heap.size w0 wr) (mb : Nat) (hm : mb < w0.heap.size) :
    (∀ j, w3.cell? ⟨wr.heap.size, j, none⟩ = (wr.alloc o1).cell? ⟨wr.heap.size, j, none⟩) ∧ (∀ j, w3.cell? ⟨mb, j, none⟩ = wr.cell? ⟨mb, j, none⟩) ∧ Below w0.heap.size w0 w3 := by
  refine ⟨fun j => ?_, fun j => ?_, ((hb.alloc hb.size _).alloc (by simp; omega) _).grown hg (by simp; omega) (fun j hj => (hO.lt j hj).1)⟩
  · rw [grown_cell hg (by simp; omega) (by intro h; have := (hO.lt _ h).2; simp at this)]
    exact cell_was o2 (by simp)
  · rw [grown_cell hg (by simp; omega) (by intro h; have := (hO.lt _ h).1; simp only at this; omega)]
    exact (cell_was o2 (by simp; omega)).trans (cell_was o1 (by simp; omega))

theorem cellsM_append (l : ML) (x : Int × Int) : cellsM (l ++ [x]) = cellsM l ++ [.int .u8 x.1, .int .i64 x.2] := by
  unfold cellsM; rw [List.flatMap_append]; rfl

theorem wpList_app_mark {ops : Array Oper} {rest : List Oper} {o : Oper} {a : Act} {Q : Exit → Act → World → Prop} {w : World} (hgd : o.guard = none) (s x : Operand)
    (ho : o.op = .call { callee := .builtin .append, args := #[s, x], argTypes := #[31, 31] })
    (base : Nat) (u : Value) (l : ML) (nm pl : Int) (ty : TypeId) (hs : a.eval s = u) (hown : w.ownsRow base 33 2 u l.length (cellsM l))
    (g : Nat) (hgs : g = w.heap.size) (hx : a.eval x = .slice (some ⟨g, 0, none⟩) 1 1) (hlen : l.length ≤ 1000) (hbase : base ≤ w.heap.size)
    (h : ∀ v' w', w'.ownsRow base 33 2 v' (l ++ [(nm, pl)]).length (cellsM (l ++ [(nm, pl)])) → (w.alloc (.cells #[.int .u8 nm, .int .i64 pl] ty)).grownBy w' u.ownBlock → wpList Tryd.prog ops Q rest (a.put o.dst v') w') :
    wpList Tryd.prog ops Q (o :: rest) a (w.alloc (.cells #[.int .u8 nm, .int .i64 pl] ty)) := by
  subst hgs
  obtain ⟨i0, hi, hz0, hz1, hz2⟩ := info_parts infoMark
  refine wpList_append_own _ hgd s x 31 ho base 33 i0 (.agg #[.int .u8 0, .int .i64 0]) 2 16 Tryd.underlying31 hi hz0 hz1 hz2 rfl (by decide) u l.length (cellsM l) hs (hown.alloc _) ⟨w.heap.size, 0, none⟩ 1 1 [.int .u8 nm, .int .i64 pl] hx rfl (cell_two_new' _ _ _ _) (by intro u hu; simp at hu; rcases hu with rfl | rfl <;> rfl) (by unfold maxLen; omega) (by omega) (by simp; omega) ?_
  intro v' w' h1 h2 _
  refine h v' w' ?_ h2
  rw [cellsM_append]
  simpa using h1

set_option maxRecDepth 100000 in
set_option maxHeartbeats 1000000 in
theorem lay_any (b : Nat) (v : Value) (l : ML) (n x : Int) (w : World) (hs : IsRef w b v l) (hg : good n = true) (hwx : (Lit.int .i64 x).wf = true) :
    Calls Tryd.prog 49 #[.pointer (some ⟨b, 0, none⟩), .agg #[.int .u8 n, .int .i64 x]] w fun e w' => e = .returned (.tuple #[]) ∧ ∃ v', IsRef w' b v' (ins l n x) ∧ NewV w v' ∧ Chg (fun k => k = b) w w' := by
  obtain ⟨A, c, rfl⟩ := row_form hs.row
  have HL : Hid (l.length ≤ 59) := hs.ok.length
  have HI : Hid (layL (n, x) l = ins l n x) := layL_eq (n, x) l hs.ok
  have HOK : Hid (Ok (ins l n x)) := hs.ok.ins hg hwx
  have hb0 : Below w.heap.size w (w.alloc (.cells #[.int .u8 n, .int .i64 x] 33)) := (Below.refl _ _).alloc (Nat.le_refl _) _
  have HS := Lib.hid (hs.below hb0)
  have HLt : Hid (b < w.heap.size) := hs.lt
  have HB0 := Lib.hid hb0
  have m0 : (w.alloc (.cells #[.int .u8 n, .int .i64 x] 33)).cell? ⟨w.heap.size, 0, none⟩ = some (.int .u8 n) := by simp
  have m1 : (w.alloc (.cells #[.int .u8 n, .int .i64 x] 33)).cell? ⟨w.heap.size, 1, none⟩ = some (.int .i64 x) := by simp
  have HM0 := Lib.hid m0
  have HM1 := Lib.hid m1
  have HW0 : Hid ((w.alloc (.cells #[.int .u8 n, .int .i64 x] 33)).heap.size = w.heap.size + 1) := by show _ = _; simp
  clear hs hb0 m0 m1
  go_enter Tryd.func49, Tryd.ntmps49
  go_wp2
  generalize (w.alloc (.cells #[.int .u8 n, .int .i64 x] 33)) = w0 at *
  go_loopw [4, 5, 6] (fun u d i wr => ∃ k : Nat, k ≤ l.length ∧ i = .int .i64 k ∧ d = .bool (layS (n, x) l k).2 ∧ wr.ownsRow w0.heap.size 33 2 u (layS (n, x) l k).1.length (cellsM (layS (n, x) l k).1) ∧ Below w0.heap.size w0 wr) (fun _ _ i _ => l.length - (intOf i).toNat)
  case atStart => exact ⟨0, Nat.zero_le _, rfl, rfl, World.ownsRow_nil _ _ _ _, Below.refl _ _⟩
  case round =>
    obtain ⟨k, hk, rfl, rfl, hown, hb⟩ := hrel
    have h59 : l.length ≤ 59 := HL.out
    have hset := HS.out.below hb
    have c0 := hset.cell
    have mm0 := (hb.cell (p := ⟨w.heap.size, 0, none⟩) (by rw [HW0.out]; simp)).trans HM0.out
    have mm1 := (hb.cell (p := ⟨w.heap.size, 1, none⟩) (by rw [HW0.out]; simp)).trans HM1.out
    have hw0 := HW0.out
    by_cases hlt : k < l.length
    · obtain h | ⟨ad, rfl, hA, hc⟩ := hset.mks
      · subst h; simp at hlt
      obtain ⟨d0, d1⟩ := hc k hlt
      have HT : Hid _ := layS_take (n, x) l k hlt
      have HLN : Hid _ := layS_len (n, x) l k hk
      have HO := Lib.hid hown
      have HB := Lib.hid hb
      have hsz := hb.size
      clear hset hown hb hc
      generalize layS (n, x) l k = od at *
      obtain ⟨o, d⟩ := od
      generalize l[k] = y at *
      obtain ⟨y1, y2⟩ := y
      have ho60 : o.length ≤ 60 := by have := HLN.out; simp only at this; split at this <;> omega
      have hbl : w.heap.size < wr.heap.size := by omega
      have hfin : ∀ (p : ML × Bool) (u : Value) (w3 : World), stepL (n, x) (o, d) (y1, y2) = p → w3.ownsRow w0.heap.size 33 2 u p.1.length (cellsM p.1) → Below w0.heap.size w0 w3 → ∃ j : Nat, j ≤ l.length ∧ Value.int .i64 ((k : Int) + 1) = .int .i64 j ∧ Value.bool p.2 = .bool (layS (n, x) l j).2 ∧ w3.ownsRow w0.heap.size 33 2 u (layS (n, x) l j).1.length (cellsM (layS (n, x) l j).1) ∧ Below w0.heap.size w0 w3 :=
        fun p u w3 he h1 h2 => ⟨k + 1, by omega, by go_num, by rw [HT.out, he], by rw [HT.out, he]; exact h1, h2⟩
      have HF := Lib.hid hfin
      have HLt2 : b < wr.heap.size := by have := HLt.out; omega
      clear hfin
      by_cases h1 : y1 = n
      · subst h1
        cases d with
        | true =>
          go_wp2
          go_roundw
          case rel => exact HF.out (o, true) _ _ (by simp [stepL]) (HO.out.alloc _) (HB.out.alloc HB.out.size _)
          case measure => simp [intOf]; omega
        | false =>
          go_wp2_with (at_builtin; refine wpList_app_mark rfl _ _ rfl w0.heap.size _ o _ _ _ rfl (HO.out.alloc _) _ (by simp) rfl (by omega) (by simp; omega) ?_; intro v2 w3 hown3 hg3; change World.grownBy _ _ (Value.ownBlock u4) at hg3; obtain ⟨hx3, hm3, hb3⟩ := app_facts HO.out hg3 (by omega) HB.out w.heap.size (by omega); have x0 := (hx3 0).trans (by simp : _ = some (.int .u8 y1)); have x1 := (hx3 1).trans (by simp : _ = some (.int .i64 y2)); have mm2 := (hm3 0).trans mm0; have mm3 := (hm3 1).trans mm1; have HO3 := Lib.hid hown3; have HB3 := Lib.hid hb3; have hsz3 := hb3.size; clear hown3 hg3 hx3 hm3 hb3)
          go_roundw
          case rel => exact HF.out (o ++ [(y1, x)], true) _ _ (by simp [stepL]) HO3.out HB3.out
          case measure => simp [intOf]; omega
      · have hne : (y1 != n) = true := by simpa using h1
        cases d with
        | true =>
          go_wp2_with (at_builtin; refine wpList_app_mark rfl _ _ rfl w0.heap.size _ o _ _ _ rfl (HO.out.alloc _) _ (by simp) rfl (by omega) (by simp; omega) ?_; intro v2 w3 hown3 hg3; change World.grownBy _ _ (Value.ownBlock u4) at hg3; obtain ⟨hx3, hm3, hb3⟩ := app_facts HO.out hg3 (by omega) HB.out w.heap.size (by omega); have x0 := (hx3 0).trans (by simp : _ = some (.int .u8 y1)); have x1 := (hx3 1).trans (by simp : _ = some (.int .i64 y2)); have mm2 := (hm3 0).trans mm0; have mm3 := (hm3 1).trans mm1; have HO3 := Lib.hid hown3; have HB3 := Lib.hid hb3; have hsz3 := hb3.size; clear hown3 hg3 hx3 hm3 hb3)
          go_roundw
          case rel => exact HF.out (o ++ [(y1, y2)], true) _ _ (by simp [stepL, h1]) HO3.out HB3.out
          case measure => simp [intOf]; omega
        | false =>
          by_cases h2 : n ≤ y1
          · go_wp2_with (first
              | (at_builtin; refine wpList_app_mark rfl _ _ rfl w0.heap.size _ o _ _ _ rfl (HO.out.alloc _) _ (by simp) rfl (by omega) (by simp; omega) ?_; intro v2 w3 hown3 hg3; change World.grownBy _ _ (Value.ownBlock u4) at hg3; obtain ⟨hx3, hm3, hb3⟩ := app_facts HO.out hg3 (by omega) HB.out w.heap.size (by omega); have x0 := (hx3 0).trans (by simp : _ = some (.int .u8 y1)); have x1 := (hx3 1).trans (by simp : _ = some (.int .i64 y2)); have mm2 := (hm3 0).trans mm0; have mm3 := (hm3 1).trans mm1; have HO3 := Lib.hid hown3; have HB3 := Lib.hid hb3; have hsz3 := hb3.size; clear hown3 hg3 hx3 hm3 hb3)
              | (at_builtin; refine wpList_app_mark rfl _ _ rfl w0.heap.size _ (o ++ [(n, x)]) _ _ _ rfl ?_ _ ?_ rfl ?_ ?_ ?_; exact HO3.out; simp; (simp; omega); omega; intro v4 w5 hown5 hg5; change World.grownBy _ _ (Value.ownBlock v2) at hg5; have HO5 := Lib.hid hown5; have hb5 := (HB3.out.alloc HB3.out.size _).grown hg5 (by simp; omega) (fun j hj => (HO3.out.lt j hj).1);  have HB5 := Lib.hid hb5; clear hown5 hg5))
            go_roundw
            case rel => exact HF.out (o ++ [(n, x)] ++ [(y1, y2)], true) _ _ (by simp [stepL, h1, h2]) HO5.out HB5.out
            case measure => simp [intOf]; omega
          · go_wp2_with (at_builtin; refine wpList_app_mark rfl _ _ rfl w0.heap.size _ o _ _ _ rfl (HO.out.alloc _) _ (by simp) rfl (by omega) (by simp; omega) ?_; intro v2 w3 hown3 hg3; change World.grownBy _ _ (Value.ownBlock u4) at hg3; obtain ⟨hx3, hm3, hb3⟩ := app_facts HO.out hg3 (by omega) HB.out w.heap.size (by omega); have x0 := (hx3 0).trans (by simp : _ = some (.int .u8 y1)); have x1 := (hx3 1).trans (by simp : _ = some (.int .i64 y2)); have mm2 := (hm3 0).trans mm0; have mm3 := (hm3 1).trans mm1; have HO3 := Lib.hid hown3; have HB3 := Lib.hid hb3; have hsz3 := hb3.size; clear hown3 hg3 hx3 hm3 hb3)
            go_roundw
            case rel => exact HF.out (o ++ [(y1, y2)], false) _ _ (by simp [stepL, h1, h2]) HO3.out HB3.out
            case measure => simp [intOf]; omega
    · have hk' : k = l.length := by omega
      subst hk'
      have hfo : (match layS (n, x) l l.length with | (o, true) => o | (o, false) => o ++ [(n, x)]) = ins l n x := by
        have := HI.out
        unfold layL at this
        unfold layS
        rw [List.take_length]
        exact this
      have HFO := Lib.hid hfo
      have HLN : Hid _ := layS_len (n, x) l l.length (Nat.le_refl _)
      have f0 := hset.free
      have HO := Lib.hid hown
      have HB := Lib.hid hb
      have hsz := hb.size
      have HLt2 : b < wr.heap.size := by have := HLt.out; omega
      have hfin : ∀ (u : Value) (w3 : World), w3.ownsRow w0.heap.size 33 2 u (ins l n x).length (cellsM (ins l n x)) → Below w0.heap.size w0 w3 →
          ∃ v', IsRef (w3.setCell ⟨b, 0, none⟩ u) b v' (ins l n x) ∧ NewV w v' ∧ Chg (fun k => k = b) w (w3.setCell ⟨b, 0, none⟩ u) := by
        intro u w3 h1 h2
        refine ⟨u, ⟨one_setCell (HS.out.below h2).blk, HOK.out, row_base (row_chg h1 (Chg.set w3 ⟨b, 0, none⟩ u) (fun k hk e => ?_))⟩, fun k hk => ?_, ?_⟩
        · have := (h1.lt k hk).1
          have := HLt.out
          simp only at e; omega
        · have := (h1.lt k hk).1; omega
        · exact ((Chg.of_below HB0.out).trans (Chg.of_below (S := fun _ => False) h2) (fun _ _ f => f.elim)).trans (Chg.set w3 ⟨b, 0, none⟩ u) (fun x _ h => h)
      have HF := Lib.hid hfin
      clear hset hown hb hfo hfin
      generalize layS (n, x) l l.length = od at *
      obtain ⟨o, d⟩ := od
      have ho60 : o.length ≤ 60 := by have := HLN.out; simp only at this; split at this <;> omega
      cases d with
      | true =>
        have e : o = ins l n x := HFO.out
        have HE := Lib.hid e
        clear HFO e
        obtain ⟨A2, c2, rfl⟩ := row_form HO.out
        go_wp2
        go_end0
        exact ⟨rfl, HF.out _ _ (by rw [← HE.out]; exact HO.out) HB.out⟩
      | false =>
        have e : o ++ [(n, x)] = ins l n x := HFO.out
        have HE := Lib.hid e
        clear HFO e
        go_wp2_with (at_builtin; refine wpList_app_mark rfl _ _ rfl w0.heap.size u4 o _ _ _ rfl HO.out _ (by simp) rfl (by omega) (by omega) ?_; intro v2 w3 hown3 hg3; change World.grownBy _ _ (Value.ownBlock u4) at hg3; obtain ⟨A2, c2, rfl⟩ := row_form hown3; have hb3 := (HB.out.alloc HB.out.size _).grown hg3 (by simp; omega) (fun j hj => (HO.out.lt j hj).1); have c3 := (HS.out.below hb3).cell; have f3 := (HS.out.below hb3).free; have HO3 := Lib.hid hown3; have HB3 := Lib.hid hb3; clear hown3 hg3 hb3)
        go_end0
        exact ⟨rfl, HF.out _ _ (by rw [← HE.out]; have h := HO3.out; rw [show List.length (o ++ [(n, x)]) = List.length o + 1 by simp] at h ⊢; exact h) HB3.out⟩
end Go.Proofs.YtdkdnkmfjpdcpaaDoor.Mk
