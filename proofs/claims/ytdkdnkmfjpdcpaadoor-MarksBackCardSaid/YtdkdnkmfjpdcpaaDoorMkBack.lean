/-
  The law MarksBack, walked. No condition but what every argument bears.
-/
import Derived.Test.YtdkdnkmfjpdcpaaDoorMkMove
import Derived.Test.YtdkdnkmfjpdcpaaDoorMkLast
import Derived.Test.YtdkdnkmfjpdcpaaDoorMkOpenM
namespace Go.Proofs.YtdkdnkmfjpdcpaaDoor.Mk
open Go.RowKit Go.Proofs.YtdkdnkmfjpdcpaaDoor.Reg Go.Proofs.YtdkdnkmfjpdcpaaDoor.Row Go.ChangeShapes Go.WideShapes Go.ChangeMaps
set_option linter.unusedVariables false
set_option linter.unusedSimpArgs false

theorem wf_i64 {x : Int} (h : -9223372036854775808 ≤ x ∧ x ≤ 9223372036854775807) : (Lit.int .i64 x).wf = true := by
  simpa [Lit.wf, IntKind.min, IntKind.max, IntKind.signed, IntKind.bits] using h
theorem one_wf (p : Int) (d : Dl) (hp : (Lit.int .i64 p).wf = true) (hd : (Lit.int .i64 d.pos).wf = true) : (Lit.int .i64 (one p d)).wf = true := by
  unfold one
  split
  · exact hp
  · split
    · exact hd
    · unfold wrap64; exact wf_i64 (by omega)
theorem moved_wf (ds : List Dl) (hd : ∀ d ∈ ds, (Lit.int .i64 d.pos).wf = true) : ∀ p : Int, (Lit.int .i64 p).wf = true → (Lit.int .i64 (moved p ds)).wf = true := by
  induction ds with
  | nil => intro p hp; exact hp
  | cons d r ih => intro p hp; exact ih (fun x hx => hd x (List.mem_cons_of_mem _ hx)) _ (one_wf p d hp (hd d List.mem_cons_self))

theorem back_pure (a i : Nat) (o q : ByteArray) (ha : a < 65536) (hi : i < 65536) (ho : o.size ≤ 140737488351232) (hq : q.size ≤ 140737488351232)
    (h : a ≤ i ∨ i + o.size < a ∨ (a = i + o.size ∧ q.size ≠ 0)) : moved (a : Int) [⟨(i : Int), o, q⟩, ⟨(i : Int), q, o⟩] = (a : Int) := by
  show one (one a _) _ = _
  unfold one wrap64
  simp only
  have e1 : ((a : Int) - (i : Int) + 9223372036854775808) % 18446744073709551616 - 9223372036854775808 = a - i := by omega
  have e2 : ((q.size : Int) - (o.size : Int) + 9223372036854775808) % 18446744073709551616 - 9223372036854775808 = q.size - o.size := by omega
  have e2' : ((o.size : Int) - (q.size : Int) + 9223372036854775808) % 18446744073709551616 - 9223372036854775808 = o.size - q.size := by omega
  rw [e1, e2, e2']
  have e3 : ((a : Int) + ((q.size : Int) - (o.size : Int)) + 9223372036854775808) % 18446744073709551616 - 9223372036854775808 = a + (q.size - o.size) := by omega
  rw [e3]
  by_cases h1 : (a : Int) ≤ i
  · simp [h1]
  · rw [if_neg h1]
    have h2 : ¬ (a : Int) - i < o.size := by omega
    rw [if_neg h2, if_neg (by omega)]
    rw [show ((a : Int) + ((q.size : Int) - (o.size : Int)) - (i : Int) + 9223372036854775808) % 18446744073709551616 - 9223372036854775808 = a + (q.size - o.size) - i by omega]
    rw [if_neg (by omega)]
    omega

theorem dlsAt2_new (w : World) (d e : Dl) (t : TypeId) : DlsAt (w.alloc (.cells #[.int .i64 d.pos, .string d.out, .string d.inn, .int .i64 e.pos, .string e.out, .string e.inn] t)) (some ⟨w.heap.size, 0, none⟩) [d, e] := by
  refine .inr ⟨_, rfl, by simp, fun i hi => ?_⟩
  have hi' : i < 2 := by simpa using hi
  unfold DlAt
  rcases (by omega : i = 0 ∨ i = 1) with rfl | rfl <;> simp [Addr.add]

/-- What the test of one delta and its way back leaves, slot by slot. -/
def VB (a i x m : Int) (o q : ByteArray) (D1 D2 : Dl) (c1 c2 c3 c4 gg : Bool) (s : Nat) (v : Value) (w : World) : Prop := match s with
  | 41 => v = .int .i64 x
  | 42 => v = .int .i64 a
  | 43 => v = .agg #[.int .i64 D1.pos, .string D1.out, .string D1.inn]
  | 44 => ∃ g, v = .slice (some ⟨g, 0, none⟩) 1 1 ∧ DlsAt w (some ⟨g, 0, none⟩) [D1]
  | 45 => v = .int .i64 m
  | 46 => v = .agg #[.int .i64 D2.pos, .string D2.out, .string D2.inn]
  | 47 => ∃ g, v = .slice (some ⟨g, 0, none⟩) 1 1 ∧ DlsAt w (some ⟨g, 0, none⟩) [D2]
  | 48 => v = .int .i64 x
  | 49 => v = .bool false
  | 50 => v = .bool false
  | 51 => v = .int .i64 a
  | 52 => v = .int .i64 i
  | 53 => v = .bool c1
  | 54 => v = .bool c1
  | 55 => match c1 with | true => True | false => v = .int .i64 a
  | 56 => match c1 with | true => True | false => v = .int .i64 i
  | 57 => match c1 with | true => True | false => v = .string o
  | 58 => match c1 with | true => True | false => v = .int .i64 o.size
  | 59 => match c1 with | true => True | false => v = .int .i64 (i + o.size)
  | 60 => match c1 with | true => True | false => v = .bool c2
  | 61 => v = .bool (c1 || c2)
  | 62 => v = .bool (c1 || c2)
  | 63 => match (c1 || c2) with | true => True | false => v = .int .i64 a
  | 64 => match (c1 || c2) with | true => True | false => v = .int .i64 i
  | 65 => match (c1 || c2) with | true => True | false => v = .string o
  | 66 => match (c1 || c2) with | true => True | false => v = .int .i64 o.size
  | 67 => match (c1 || c2) with | true => True | false => v = .int .i64 (i + o.size)
  | 68 => match (c1 || c2) with | true => True | false => v = .bool c3
  | 69 => match (c1 || c2) with | true => v = undef | false => v = .bool c3
  | 70 => match (c1 || c2 || !c3) with | true => True | false => v = .string q
  | 71 => match (c1 || c2 || !c3) with | true => True | false => v = .bool c4
  | 72 => match (c1 || c2) with | true => True | false => v = .bool (c3 && c4)
  | 73 => v = .bool gg
  | 74 => v = .bool gg
  | 75 => match gg with | false => True | true => v = .int .i64 x
  | 76 => match gg with | false => True | true => v = .int .i64 a
  | 77 => match gg with | false => True | true => v = .bool false
  | 78 => v = .bool false
  | 79 => v = .bool false
  | _ => True
theorem VB_mono (a i x m : Int) (o q : ByteArray) (D1 D2 : Dl) (c1 c2 c3 c4 gg : Bool) : ∀ s v w w', VB a i x m o q D1 D2 c1 c2 c3 c4 gg s v w → Below w.heap.size w w' → VB a i x m o q D1 D2 c1 c2 c3 c4 gg s v w' := by
  intro s v w w' h hb
  unfold VB at h ⊢
  split at h
  all_goals first
    | exact h
    | (obtain ⟨g, e, hd⟩ := h; exact ⟨g, e, hd.below hb⟩)

theorem cell_old {w : World} (o : Obj) {p : Addr} (h : p.block < w.heap.size) : (w.alloc o).cell? p = w.cell? p := ((Below.refl w.heap.size w).alloc (Nat.le_refl _) o).cell h

def m0 (p : Nat) : ML := [(97, (p : Int)), (122, (p : Int) + 1)]
theorem m0_ok (p : Nat) (hp : p < 65536) : Ok (m0 p) := by
  refine ⟨by simp [m0], fun x hx => ?_⟩
  simp only [m0, List.mem_cons, List.not_mem_nil, or_false] at hx
  rcases hx with rfl | rfl
  · exact ⟨show good 97 = true by decide, wf_i64 (by simp; omega)⟩
  · exact ⟨show good 122 = true by decide, wf_i64 (by simp; omega)⟩
theorem m0_load (p : Nat) (hp : p < 65536) : loadL (m0 p) = m0 p := load_self _ (m0_ok p hp) (by
  intro x hx
  simp only [m0, List.mem_cons, List.not_mem_nil, or_false] at hx
  rcases hx with rfl | rfl <;> simp <;> omega)
theorem m0_at (p : Nat) (w : World) (t : TypeId) : MksAt (w.alloc (.cells #[.int .u8 97, .int .i64 p, .int .u8 122, .int .i64 ((p : Int) + 1)] t)) (some ⟨w.heap.size, 0, none⟩) (m0 p) := by
  refine .inr ⟨_, rfl, by simp, fun i hi => ?_⟩
  have hi' : i < 2 := by simpa [m0] using hi
  unfold MkAt
  rcases (by omega : i = 0 ∨ i = 1) with rfl | rfl <;> simp [Addr.add, m0]
theorem move_step (ds : List Dl) (k : Nat) (h : k < ds.length) (l : ML) : moveL (fun x => moved x [ds[k]]) (moveL (fun x => moved x (ds.take k)) l) = moveL (fun x => moved x (ds.take (k + 1))) l := by
  unfold moveL
  rw [List.map_map]
  refine List.map_congr_left fun x _ => ?_
  show (x.1, moved (moved x.2 (ds.take k)) [ds[k]]) = (x.1, moved x.2 (ds.take (k + 1)))
  rw [moved_take x.2 ds k h]; rfl
theorem move_zero (l : ML) : moveL (fun x => moved x []) l = l := by
  unfold moveL
  conv => rhs; rw [← List.map_id l]
  exact List.map_congr_left fun x _ => rfl
theorem moveL_wf (f : Int → Int) (l : ML) (P : Int → Prop) (h : ∀ x ∈ l, P (f x.2)) : ∀ x ∈ moveL f l, P x.2 := by
  intro x hx
  obtain ⟨y, hy, rfl⟩ := List.mem_map.1 hx
  exact h y hy

set_option maxRecDepth 100000 in
set_option maxHeartbeats 1000000 in
theorem back_walk (p at' : Nat) (o q : ByteArray) (A : Option Addr) (ds : List Dl) (c : Nat) (w : World) (hp : p < 65536) (ha : at' < 65536) (ho : o.size ≤ 140737488351232) (hq : q.size ≤ 140737488351232) (hd : DlsAt w A ds) (hl : ds.length ≤ 9223372036854775807) (hok : ∀ x ∈ ds, DlOk x) :
    Calls Tryd.prog 6 #[.int .u16 p, .int .u16 at', .string o, .string q, .slice A ds.length c] w fun e w' => e = .returned (.bool true) ∧ Below w.heap.size w w' := by
  have HD := Lib.hid hd
  have HOK := Lib.hid hok
  have HBP := Lib.hid (back_pure p at' o q hp ha ho hq)
  clear hd hok
  go_enter Tryd.func6, Tryd.ntmps6
  go_wp2_with (go_at_call 12; refine (lays_true _).mono ?_; rintro e w1 ⟨rfl, hb1⟩)
  go_wp2_with fail
  refine (Moved_any p (some ⟨w1.heap.size + 1 + 1, 0, none⟩) [⟨at', o, q⟩, ⟨at', q, o⟩] 2 _ (by simp) ?_).mono ?_
  · have := dlsAt2_new ((w1.alloc (.cells #[.int .i64 at', .string o, .string q] 29)).alloc (.cells #[.int .i64 at', .string q, .string o] 29)) ⟨at', o, q⟩ ⟨at', q, o⟩ 29
    simpa using this
  rintro e w2 ⟨rfl, hb2⟩
  obtain ⟨D1, hD1⟩ : ∃ D : Dl, D = ⟨at', o, q⟩ := ⟨_, rfl⟩
  obtain ⟨D2, hD2⟩ : ∃ D : Dl, D = ⟨at', q, o⟩ := ⟨_, rfl⟩
  obtain ⟨X, hX⟩ : ∃ X, moved (p : Int) [⟨at', o, q⟩, ⟨at', q, o⟩] = X := ⟨_, rfl⟩
  have hx2 : moved (moved (p : Int) [D1]) [D2] = X := by rw [hD1, hD2, ← hX]; rfl
  rw [hX] at HBP ⊢
  have HX := Lib.hid hX
  have HX2 := Lib.hid hx2
  have hbW : Below w.heap.size w w2 := by
    have h1 := ((hb1.alloc hb1.size (.cells #[.int .i64 at', .string o, .string q] 29)).alloc (by have := hb1.size; simp; omega) (.cells #[.int .i64 at', .string q, .string o] 29)).alloc (by have := hb1.size; simp; omega) (.cells #[.int .i64 at', .string o, .string q, .int .i64 at', .string q, .string o] 29)
    exact h1.trans (hb2.mono h1.size)
  have k0 : w2.cell? ⟨w1.heap.size, 0, none⟩ = some (.int .i64 D1.pos) := by rw [hb2.cell (by simp; omega), hD1, cell_old _ (by simp; omega), cell_old _ (by simp)]; simp
  have k1 : w2.cell? ⟨w1.heap.size, 1, none⟩ = some (.string D1.out) := by rw [hb2.cell (by simp; omega), hD1, cell_old _ (by simp; omega), cell_old _ (by simp)]; simp
  have k2 : w2.cell? ⟨w1.heap.size, 2, none⟩ = some (.string D1.inn) := by rw [hb2.cell (by simp; omega), hD1, cell_old _ (by simp; omega), cell_old _ (by simp)]; simp
  have k3 : w2.cell? ⟨w1.heap.size + 1, 0, none⟩ = some (.int .i64 D2.pos) := by rw [hb2.cell (by simp), hD2, cell_old _ (by simp)]; rw [show w1.heap.size + 1 = (w1.alloc (.cells #[.int .i64 at', .string o, .string q] 29)).heap.size by simp]; simp
  have k4 : w2.cell? ⟨w1.heap.size + 1, 1, none⟩ = some (.string D2.out) := by rw [hb2.cell (by simp), hD2, cell_old _ (by simp)]; rw [show w1.heap.size + 1 = (w1.alloc (.cells #[.int .i64 at', .string o, .string q] 29)).heap.size by simp]; simp
  have k5 : w2.cell? ⟨w1.heap.size + 1, 2, none⟩ = some (.string D2.inn) := by rw [hb2.cell (by simp), hD2, cell_old _ (by simp)]; rw [show w1.heap.size + 1 = (w1.alloc (.cells #[.int .i64 at', .string o, .string q] 29)).heap.size by simp]; simp
  have hlt0 : w1.heap.size + 1 < w2.heap.size := by have := hb2.size; simp at this; omega
  have HBW := Lib.hid hbW
  clear hX hx2 hbW hb2 hb1 hD1 hD2
  generalize w1.heap.size = b1 at *
  go_wp2_with fail
  obtain ⟨c1, hc1⟩ : ∃ c1 : Bool, decide ((p : Int) ≤ (at' : Int)) = c1 := ⟨_, rfl⟩
  obtain ⟨c2, hc2⟩ : ∃ c2 : Bool, decide ((p : Int) > (at' : Int) + (o.size : Int)) = c2 := ⟨_, rfl⟩
  obtain ⟨c3, hc3⟩ : ∃ c3 : Bool, ((p : Int) == (at' : Int) + (o.size : Int)) = c3 := ⟨_, rfl⟩
  obtain ⟨c4, hc4⟩ : ∃ c4 : Bool, (q.toList != []) = c4 := ⟨_, rfl⟩
  obtain ⟨gg, hgg⟩ : ∃ gg, gg = (c1 || c2 || (c3 && c4)) := ⟨_, rfl⟩
  have hxa : gg = true → (X != (p : Int)) = false := by
    intro hg
    rw [hgg, ← hc1, ← hc2, ← hc3, ← hc4] at hg
    simp only [Bool.or_eq_true, Bool.and_eq_true, decide_eq_true_eq, beq_iff_eq, bne_iff_ne, ne_eq] at hg
    have h := HBP.out (by
      rcases hg with (h | h) | ⟨h, h4⟩
      · left; omega
      · right; left; omega
      · right; right
        refine ⟨by omega, fun hz => h4 ?_⟩
        rw [ByteArray.size_eq_zero_iff.mp hz]
        first | rfl | decide | simp)
    rw [h]; simp
  have hwr : IntKind.i64.wrap ((at' : Int) + (o.size : Int)) = (at' : Int) + (o.size : Int) := IntWalk.i64_in _ (by omega)
  refine wp_held' mixed (VB p at' X (moved (p : Int) [D1]) o q D1 D2 c1 c2 c3 c4 gg) (VB_mono p at' X (moved (p : Int) [D1]) o q D1 D2 c1 c2 c3 c4 gg) (by kernel_rfl) [41, 42, 43, 44, 45, 46, 47, 48, 49, 50, 51, 52, 53, 54, 55, 56, 57, 58, 59, 60, 61, 62, 63, 64, 65, 66, 67, 68, 69, 70, 71, 72, 73, 74, 75, 76, 77, 78, 79] (by kernel_rfl) (by kernel_rfl) ?_ ?_
  · intro j hj
    have hj' : j < 39 := hj
    have hload : ∀ w', Below w2.heap.size w2 w' → w'.cell? ⟨b1, 0, none⟩ = some (.int .i64 D1.pos) ∧ w'.cell? ⟨b1, 1, none⟩ = some (.string D1.out) ∧ w'.cell? ⟨b1, 2, none⟩ = some (.string D1.inn) ∧ w'.cell? ⟨b1 + 1, 0, none⟩ = some (.int .i64 D2.pos) ∧ w'.cell? ⟨b1 + 1, 1, none⟩ = some (.string D2.out) ∧ w'.cell? ⟨b1 + 1, 2, none⟩ = some (.string D2.inn) := fun w' hb =>
      ⟨(hb.cell (Nat.lt_of_succ_lt hlt0)).trans k0, (hb.cell (Nat.lt_of_succ_lt hlt0)).trans k1, (hb.cell (Nat.lt_of_succ_lt hlt0)).trans k2, (hb.cell hlt0).trans k3, (hb.cell hlt0).trans k4, (hb.cell hlt0).trans k5⟩
    rcases (by omega : j = 0 ∨ j = 1 ∨ j = 2 ∨ j = 3 ∨ j = 4 ∨ j = 5 ∨ j = 6 ∨ j = 7 ∨ j = 8 ∨ j = 9 ∨ j = 10 ∨ j = 11 ∨ j = 12 ∨ j = 13 ∨ j = 14 ∨ j = 15 ∨ j = 16 ∨ j = 17 ∨ j = 18 ∨ j = 19 ∨ j = 20 ∨ j = 21 ∨ j = 22 ∨ j = 23 ∨ j = 24 ∨ j = 25 ∨ j = 26 ∨ j = 27 ∨ j = 28 ∨ j = 29 ∨ j = 30 ∨ j = 31 ∨ j = 32 ∨ j = 33 ∨ j = 34 ∨ j = 35 ∨ j = 36 ∨ j = 37 ∨ j = 38) with rfl | rfl | rfl | rfl | rfl | rfl | rfl | rfl | rfl | rfl | rfl | rfl | rfl | rfl | rfl | rfl | rfl | rfl | rfl | rfl | rfl | rfl | rfl | rfl | rfl | rfl | rfl | rfl | rfl | rfl | rfl | rfl | rfl | rfl | rfl | rfl | rfl | rfl | rfl
    · -- operation 0
      (refine owes_val (L := [(15, false)]) rfl rfl rfl (by kernel_rfl) ?_; intro a' w' hb' hfacts; obtain ⟨hf15, -⟩ := hfacts; replace hf15 : a'.tmps[15]?.getD undef = .int .i64 X := hf15)
      obtain ⟨q0, q1, q2, q3, q4, q5⟩ := hload w' hb'
      first
        | (go_simp; first | exact ⟨_, rfl, Below.refl _ _, rfl⟩ | exact ⟨_, rfl, Below.refl _ _, trivial⟩ | exact ⟨_, rfl, Below.refl _ _⟩ | exact ⟨_, rfl, (Below.refl _ _).alloc (Nat.le_refl _) _, trivial⟩)
        | (apply Exists.intro
           apply And.intro
           · assumption
           · apply And.intro
             · intro hc
               first
                 | (refine absurd hc ?_; simp [undef]; done)
                 | (go_simp; first | exact ⟨_, rfl, Below.refl _ _, rfl⟩ | exact ⟨_, rfl, Below.refl _ _, trivial⟩ | exact ⟨_, rfl, Below.refl _ _⟩ | exact ⟨_, rfl, (Below.refl _ _).alloc (Nat.le_refl _) _, trivial⟩)
             · intro hc
               first | exact absurd rfl hc | exact trivial | exact rfl)
        | (apply Exists.intro
           apply And.intro
           · assumption
           · intro hc
             first
               | (refine absurd hc ?_; simp [undef]; done)
               | (go_simp; first | exact ⟨_, rfl, Below.refl _ _, rfl⟩ | exact ⟨_, rfl, Below.refl _ _, trivial⟩ | exact ⟨_, rfl, Below.refl _ _⟩ | exact ⟨_, rfl, (Below.refl _ _).alloc (Nat.le_refl _) _, trivial⟩))
    · -- operation 1
      (refine owes_val (L := [(14, false)]) rfl rfl rfl (by kernel_rfl) ?_; intro a' w' hb' hfacts; obtain ⟨hf14, -⟩ := hfacts; replace hf14 : a'.tmps[14]?.getD undef = .int .i64 (p : Int) := hf14)
      obtain ⟨q0, q1, q2, q3, q4, q5⟩ := hload w' hb'
      first
        | (go_simp; first | exact ⟨_, rfl, Below.refl _ _, rfl⟩ | exact ⟨_, rfl, Below.refl _ _, trivial⟩ | exact ⟨_, rfl, Below.refl _ _⟩ | exact ⟨_, rfl, (Below.refl _ _).alloc (Nat.le_refl _) _, trivial⟩)
        | (apply Exists.intro
           apply And.intro
           · assumption
           · apply And.intro
             · intro hc
               first
                 | (refine absurd hc ?_; simp [undef]; done)
                 | (go_simp; first | exact ⟨_, rfl, Below.refl _ _, rfl⟩ | exact ⟨_, rfl, Below.refl _ _, trivial⟩ | exact ⟨_, rfl, Below.refl _ _⟩ | exact ⟨_, rfl, (Below.refl _ _).alloc (Nat.le_refl _) _, trivial⟩)
             · intro hc
               first | exact absurd rfl hc | exact trivial | exact rfl)
        | (apply Exists.intro
           apply And.intro
           · assumption
           · intro hc
             first
               | (refine absurd hc ?_; simp [undef]; done)
               | (go_simp; first | exact ⟨_, rfl, Below.refl _ _, rfl⟩ | exact ⟨_, rfl, Below.refl _ _, trivial⟩ | exact ⟨_, rfl, Below.refl _ _⟩ | exact ⟨_, rfl, (Below.refl _ _).alloc (Nat.le_refl _) _, trivial⟩))
    · -- operation 2
      (refine owes_val (L := [(12, false)]) rfl rfl rfl (by kernel_rfl) ?_; intro a' w' hb' hfacts; obtain ⟨hf12, -⟩ := hfacts; replace hf12 : a'.tmps[12]?.getD undef = .pointer (some ⟨b1, 0, none⟩) := hf12)
      obtain ⟨q0, q1, q2, q3, q4, q5⟩ := hload w' hb'
      first
        | (go_simp; first | exact ⟨_, rfl, Below.refl _ _, rfl⟩ | exact ⟨_, rfl, Below.refl _ _, trivial⟩ | exact ⟨_, rfl, Below.refl _ _⟩ | exact ⟨_, rfl, (Below.refl _ _).alloc (Nat.le_refl _) _, trivial⟩)
        | (apply Exists.intro
           apply And.intro
           · assumption
           · apply And.intro
             · intro hc
               first
                 | (refine absurd hc ?_; simp [undef]; done)
                 | (go_simp; first | exact ⟨_, rfl, Below.refl _ _, rfl⟩ | exact ⟨_, rfl, Below.refl _ _, trivial⟩ | exact ⟨_, rfl, Below.refl _ _⟩ | exact ⟨_, rfl, (Below.refl _ _).alloc (Nat.le_refl _) _, trivial⟩)
             · intro hc
               first | exact absurd rfl hc | exact trivial | exact rfl)
        | (apply Exists.intro
           apply And.intro
           · assumption
           · intro hc
             first
               | (refine absurd hc ?_; simp [undef]; done)
               | (go_simp; first | exact ⟨_, rfl, Below.refl _ _, rfl⟩ | exact ⟨_, rfl, Below.refl _ _, trivial⟩ | exact ⟨_, rfl, Below.refl _ _⟩ | exact ⟨_, rfl, (Below.refl _ _).alloc (Nat.le_refl _) _, trivial⟩))
    · -- operation 3
      (refine owes_val (L := [(43, true)]) rfl rfl rfl (by kernel_rfl) ?_; intro a' w' hb' hfacts; obtain ⟨hf43, -⟩ := hfacts; try simp only [VB,Bool.or_false,Bool.or_true,Bool.and_false,Bool.and_true,Bool.false_or,Bool.true_or,Bool.false_and,Bool.true_and,Bool.not_true,Bool.not_false,Bool.or_self,Bool.and_self] at hf43)
      obtain ⟨q0, q1, q2, q3, q4, q5⟩ := hload w' hb'
      go_simp
      exact ⟨_, rfl, (Below.refl _ _).alloc (Nat.le_refl _) _, _, rfl, dlsAt_new w' D1 _⟩
    · -- operation 4
      (refine owes_val (L := [(42, true), (44, true)]) rfl rfl rfl (by kernel_rfl) ?_; intro a' w' hb' hfacts; obtain ⟨hf42, hf44, -⟩ := hfacts; try simp only [VB,Bool.or_false,Bool.or_true,Bool.and_false,Bool.and_true,Bool.false_or,Bool.true_or,Bool.false_and,Bool.true_and,Bool.not_true,Bool.not_false,Bool.or_self,Bool.and_self] at hf42; try simp only [VB,Bool.or_false,Bool.or_true,Bool.and_false,Bool.and_true,Bool.false_or,Bool.true_or,Bool.false_and,Bool.true_and,Bool.not_true,Bool.not_false,Bool.or_self,Bool.and_self] at hf44)
      obtain ⟨g, h44, hg⟩ := hf44
      go_simp
      refine (Moved_any p _ [D1] 1 w' (by simp) hg).mono ?_
      rintro e w3 ⟨rfl, hb3⟩
      exact ⟨_, rfl, hb3, rfl⟩
    · -- operation 5
      (refine owes_val (L := [(13, false)]) rfl rfl rfl (by kernel_rfl) ?_; intro a' w' hb' hfacts; obtain ⟨hf13, -⟩ := hfacts; replace hf13 : a'.tmps[13]?.getD undef = .pointer (some ⟨b1 + 1, 0, none⟩) := hf13)
      obtain ⟨q0, q1, q2, q3, q4, q5⟩ := hload w' hb'
      first
        | (go_simp; first | exact ⟨_, rfl, Below.refl _ _, rfl⟩ | exact ⟨_, rfl, Below.refl _ _, trivial⟩ | exact ⟨_, rfl, Below.refl _ _⟩ | exact ⟨_, rfl, (Below.refl _ _).alloc (Nat.le_refl _) _, trivial⟩)
        | (apply Exists.intro
           apply And.intro
           · assumption
           · apply And.intro
             · intro hc
               first
                 | (refine absurd hc ?_; simp [undef]; done)
                 | (go_simp; first | exact ⟨_, rfl, Below.refl _ _, rfl⟩ | exact ⟨_, rfl, Below.refl _ _, trivial⟩ | exact ⟨_, rfl, Below.refl _ _⟩ | exact ⟨_, rfl, (Below.refl _ _).alloc (Nat.le_refl _) _, trivial⟩)
             · intro hc
               first | exact absurd rfl hc | exact trivial | exact rfl)
        | (apply Exists.intro
           apply And.intro
           · assumption
           · intro hc
             first
               | (refine absurd hc ?_; simp [undef]; done)
               | (go_simp; first | exact ⟨_, rfl, Below.refl _ _, rfl⟩ | exact ⟨_, rfl, Below.refl _ _, trivial⟩ | exact ⟨_, rfl, Below.refl _ _⟩ | exact ⟨_, rfl, (Below.refl _ _).alloc (Nat.le_refl _) _, trivial⟩))
    · -- operation 6
      (refine owes_val (L := [(46, true)]) rfl rfl rfl (by kernel_rfl) ?_; intro a' w' hb' hfacts; obtain ⟨hf46, -⟩ := hfacts; try simp only [VB,Bool.or_false,Bool.or_true,Bool.and_false,Bool.and_true,Bool.false_or,Bool.true_or,Bool.false_and,Bool.true_and,Bool.not_true,Bool.not_false,Bool.or_self,Bool.and_self] at hf46)
      obtain ⟨q0, q1, q2, q3, q4, q5⟩ := hload w' hb'
      go_simp
      exact ⟨_, rfl, (Below.refl _ _).alloc (Nat.le_refl _) _, _, rfl, dlsAt_new w' D2 _⟩
    · -- operation 7
      (refine owes_val (L := [(45, true), (47, true)]) rfl rfl rfl (by kernel_rfl) ?_; intro a' w' hb' hfacts; obtain ⟨hf45, hf47, -⟩ := hfacts; try simp only [VB,Bool.or_false,Bool.or_true,Bool.and_false,Bool.and_true,Bool.false_or,Bool.true_or,Bool.false_and,Bool.true_and,Bool.not_true,Bool.not_false,Bool.or_self,Bool.and_self] at hf45; try simp only [VB,Bool.or_false,Bool.or_true,Bool.and_false,Bool.and_true,Bool.false_or,Bool.true_or,Bool.false_and,Bool.true_and,Bool.not_true,Bool.not_false,Bool.or_self,Bool.and_self] at hf47)
      obtain ⟨g, h47, hg⟩ := hf47
      go_simp
      refine (Moved_any _ _ [D2] 1 w' (by simp) hg).mono ?_
      rintro e w3 ⟨rfl, hb3⟩
      rw [HX2.out]
      exact ⟨_, rfl, hb3, rfl⟩
    · -- operation 8
      (refine owes_val (L := [(41, true), (48, true)]) rfl rfl rfl (by kernel_rfl) ?_; intro a' w' hb' hfacts; obtain ⟨hf41, hf48, -⟩ := hfacts; try simp only [VB,Bool.or_false,Bool.or_true,Bool.and_false,Bool.and_true,Bool.false_or,Bool.true_or,Bool.false_and,Bool.true_and,Bool.not_true,Bool.not_false,Bool.or_self,Bool.and_self] at hf41; try simp only [VB,Bool.or_false,Bool.or_true,Bool.and_false,Bool.and_true,Bool.false_or,Bool.true_or,Bool.false_and,Bool.true_and,Bool.not_true,Bool.not_false,Bool.or_self,Bool.and_self] at hf48)
      obtain ⟨q0, q1, q2, q3, q4, q5⟩ := hload w' hb'
      first
        | (go_simp; first | exact ⟨_, rfl, Below.refl _ _, rfl⟩ | exact ⟨_, rfl, Below.refl _ _, trivial⟩ | exact ⟨_, rfl, Below.refl _ _⟩ | exact ⟨_, rfl, (Below.refl _ _).alloc (Nat.le_refl _) _, trivial⟩)
        | (apply Exists.intro
           apply And.intro
           · assumption
           · apply And.intro
             · intro hc
               first
                 | (refine absurd hc ?_; simp [undef]; done)
                 | (go_simp; first | exact ⟨_, rfl, Below.refl _ _, rfl⟩ | exact ⟨_, rfl, Below.refl _ _, trivial⟩ | exact ⟨_, rfl, Below.refl _ _⟩ | exact ⟨_, rfl, (Below.refl _ _).alloc (Nat.le_refl _) _, trivial⟩)
             · intro hc
               first | exact absurd rfl hc | exact trivial | exact rfl)
        | (apply Exists.intro
           apply And.intro
           · assumption
           · intro hc
             first
               | (refine absurd hc ?_; simp [undef]; done)
               | (go_simp; first | exact ⟨_, rfl, Below.refl _ _, rfl⟩ | exact ⟨_, rfl, Below.refl _ _, trivial⟩ | exact ⟨_, rfl, Below.refl _ _⟩ | exact ⟨_, rfl, (Below.refl _ _).alloc (Nat.le_refl _) _, trivial⟩))
    · -- operation 9
      (refine owes_val (L := [(49, true)]) rfl rfl rfl (by kernel_rfl) ?_; intro a' w' hb' hfacts; obtain ⟨hf49, -⟩ := hfacts; try simp only [VB,Bool.or_false,Bool.or_true,Bool.and_false,Bool.and_true,Bool.false_or,Bool.true_or,Bool.false_and,Bool.true_and,Bool.not_true,Bool.not_false,Bool.or_self,Bool.and_self] at hf49)
      obtain ⟨q0, q1, q2, q3, q4, q5⟩ := hload w' hb'
      first
        | (go_simp; first | exact ⟨_, rfl, Below.refl _ _, rfl⟩ | exact ⟨_, rfl, Below.refl _ _, trivial⟩ | exact ⟨_, rfl, Below.refl _ _⟩ | exact ⟨_, rfl, (Below.refl _ _).alloc (Nat.le_refl _) _, trivial⟩)
        | (apply Exists.intro
           apply And.intro
           · assumption
           · apply And.intro
             · intro hc
               first
                 | (refine absurd hc ?_; simp [undef]; done)
                 | (go_simp; first | exact ⟨_, rfl, Below.refl _ _, rfl⟩ | exact ⟨_, rfl, Below.refl _ _, trivial⟩ | exact ⟨_, rfl, Below.refl _ _⟩ | exact ⟨_, rfl, (Below.refl _ _).alloc (Nat.le_refl _) _, trivial⟩)
             · intro hc
               first | exact absurd rfl hc | exact trivial | exact rfl)
        | (apply Exists.intro
           apply And.intro
           · assumption
           · intro hc
             first
               | (refine absurd hc ?_; simp [undef]; done)
               | (go_simp; first | exact ⟨_, rfl, Below.refl _ _, rfl⟩ | exact ⟨_, rfl, Below.refl _ _, trivial⟩ | exact ⟨_, rfl, Below.refl _ _⟩ | exact ⟨_, rfl, (Below.refl _ _).alloc (Nat.le_refl _) _, trivial⟩))
    · -- operation 10
      (refine owes_if (L := [(14, false), (50, true)]) rfl rfl rfl rfl (by kernel_rfl) ?_; intro a' w' hb' hfacts; obtain ⟨hf14, hf50, -⟩ := hfacts; replace hf14 : a'.tmps[14]?.getD undef = .int .i64 (p : Int) := hf14; try simp only [VB,Bool.or_false,Bool.or_true,Bool.and_false,Bool.and_true,Bool.false_or,Bool.true_or,Bool.false_and,Bool.true_and,Bool.not_true,Bool.not_false,Bool.or_self,Bool.and_self] at hf50)
      obtain ⟨q0, q1, q2, q3, q4, q5⟩ := hload w' hb'
      first
        | (go_simp; first | exact ⟨_, rfl, Below.refl _ _, rfl⟩ | exact ⟨_, rfl, Below.refl _ _, trivial⟩ | exact ⟨_, rfl, Below.refl _ _⟩ | exact ⟨_, rfl, (Below.refl _ _).alloc (Nat.le_refl _) _, trivial⟩)
        | (apply Exists.intro
           apply And.intro
           · assumption
           · apply And.intro
             · intro hc
               first
                 | (refine absurd hc ?_; simp [undef]; done)
                 | (go_simp; first | exact ⟨_, rfl, Below.refl _ _, rfl⟩ | exact ⟨_, rfl, Below.refl _ _, trivial⟩ | exact ⟨_, rfl, Below.refl _ _⟩ | exact ⟨_, rfl, (Below.refl _ _).alloc (Nat.le_refl _) _, trivial⟩)
             · intro hc
               first | exact absurd rfl hc | exact trivial | exact rfl)
        | (apply Exists.intro
           apply And.intro
           · assumption
           · intro hc
             first
               | (refine absurd hc ?_; simp [undef]; done)
               | (go_simp; first | exact ⟨_, rfl, Below.refl _ _, rfl⟩ | exact ⟨_, rfl, Below.refl _ _, trivial⟩ | exact ⟨_, rfl, Below.refl _ _⟩ | exact ⟨_, rfl, (Below.refl _ _).alloc (Nat.le_refl _) _, trivial⟩))
    · -- operation 11
      (refine owes_if (L := [(11, false), (50, true)]) rfl rfl rfl rfl (by kernel_rfl) ?_; intro a' w' hb' hfacts; obtain ⟨hf11, hf50, -⟩ := hfacts; replace hf11 : a'.tmps[11]?.getD undef = .int .i64 (at' : Int) := hf11; try simp only [VB,Bool.or_false,Bool.or_true,Bool.and_false,Bool.and_true,Bool.false_or,Bool.true_or,Bool.false_and,Bool.true_and,Bool.not_true,Bool.not_false,Bool.or_self,Bool.and_self] at hf50)
      obtain ⟨q0, q1, q2, q3, q4, q5⟩ := hload w' hb'
      first
        | (go_simp; first | exact ⟨_, rfl, Below.refl _ _, rfl⟩ | exact ⟨_, rfl, Below.refl _ _, trivial⟩ | exact ⟨_, rfl, Below.refl _ _⟩ | exact ⟨_, rfl, (Below.refl _ _).alloc (Nat.le_refl _) _, trivial⟩)
        | (apply Exists.intro
           apply And.intro
           · assumption
           · apply And.intro
             · intro hc
               first
                 | (refine absurd hc ?_; simp [undef]; done)
                 | (go_simp; first | exact ⟨_, rfl, Below.refl _ _, rfl⟩ | exact ⟨_, rfl, Below.refl _ _, trivial⟩ | exact ⟨_, rfl, Below.refl _ _⟩ | exact ⟨_, rfl, (Below.refl _ _).alloc (Nat.le_refl _) _, trivial⟩)
             · intro hc
               first | exact absurd rfl hc | exact trivial | exact rfl)
        | (apply Exists.intro
           apply And.intro
           · assumption
           · intro hc
             first
               | (refine absurd hc ?_; simp [undef]; done)
               | (go_simp; first | exact ⟨_, rfl, Below.refl _ _, rfl⟩ | exact ⟨_, rfl, Below.refl _ _, trivial⟩ | exact ⟨_, rfl, Below.refl _ _⟩ | exact ⟨_, rfl, (Below.refl _ _).alloc (Nat.le_refl _) _, trivial⟩))
    · -- operation 12
      (refine owes_if (L := [(51, true), (52, true), (50, true)]) rfl rfl rfl rfl (by kernel_rfl) ?_; intro a' w' hb' hfacts; obtain ⟨hf51, hf52, hf50, -⟩ := hfacts; try simp only [VB,Bool.or_false,Bool.or_true,Bool.and_false,Bool.and_true,Bool.false_or,Bool.true_or,Bool.false_and,Bool.true_and,Bool.not_true,Bool.not_false,Bool.or_self,Bool.and_self] at hf51; try simp only [VB,Bool.or_false,Bool.or_true,Bool.and_false,Bool.and_true,Bool.false_or,Bool.true_or,Bool.false_and,Bool.true_and,Bool.not_true,Bool.not_false,Bool.or_self,Bool.and_self] at hf52; try simp only [VB,Bool.or_false,Bool.or_true,Bool.and_false,Bool.and_true,Bool.false_or,Bool.true_or,Bool.false_and,Bool.true_and,Bool.not_true,Bool.not_false,Bool.or_self,Bool.and_self] at hf50)
      refine ⟨_, hf50, fun _ => ?_, fun hc => absurd rfl hc⟩
      go_simp
      refine ⟨_, rfl, Below.refl _ _, ?_⟩
      show Value.bool _ = Value.bool _
      rw [← hc1]
      simp
    · -- operation 13
      (refine owes_if (L := [(53, true), (50, true)]) rfl rfl rfl rfl (by kernel_rfl) ?_; intro a' w' hb' hfacts; obtain ⟨hf53, hf50, -⟩ := hfacts; try simp only [VB,Bool.or_false,Bool.or_true,Bool.and_false,Bool.and_true,Bool.false_or,Bool.true_or,Bool.false_and,Bool.true_and,Bool.not_true,Bool.not_false,Bool.or_self,Bool.and_self] at hf53; try simp only [VB,Bool.or_false,Bool.or_true,Bool.and_false,Bool.and_true,Bool.false_or,Bool.true_or,Bool.false_and,Bool.true_and,Bool.not_true,Bool.not_false,Bool.or_self,Bool.and_self] at hf50)
      obtain ⟨q0, q1, q2, q3, q4, q5⟩ := hload w' hb'
      first
        | (go_simp; first | exact ⟨_, rfl, Below.refl _ _, rfl⟩ | exact ⟨_, rfl, Below.refl _ _, trivial⟩ | exact ⟨_, rfl, Below.refl _ _⟩ | exact ⟨_, rfl, (Below.refl _ _).alloc (Nat.le_refl _) _, trivial⟩)
        | (apply Exists.intro
           apply And.intro
           · assumption
           · apply And.intro
             · intro hc
               first
                 | (refine absurd hc ?_; simp [undef]; done)
                 | (go_simp; first | exact ⟨_, rfl, Below.refl _ _, rfl⟩ | exact ⟨_, rfl, Below.refl _ _, trivial⟩ | exact ⟨_, rfl, Below.refl _ _⟩ | exact ⟨_, rfl, (Below.refl _ _).alloc (Nat.le_refl _) _, trivial⟩)
             · intro hc
               first | exact absurd rfl hc | exact trivial | exact rfl)
        | (apply Exists.intro
           apply And.intro
           · assumption
           · intro hc
             first
               | (refine absurd hc ?_; simp [undef]; done)
               | (go_simp; first | exact ⟨_, rfl, Below.refl _ _, rfl⟩ | exact ⟨_, rfl, Below.refl _ _, trivial⟩ | exact ⟨_, rfl, Below.refl _ _⟩ | exact ⟨_, rfl, (Below.refl _ _).alloc (Nat.le_refl _) _, trivial⟩))
    · -- operation 14
      cases c1
      all_goals (refine owes_if (L := [(14, false), (54, true)]) rfl rfl rfl rfl (by kernel_rfl) ?_; intro a' w' hb' hfacts; obtain ⟨hf14, hf54, -⟩ := hfacts; replace hf14 : a'.tmps[14]?.getD undef = .int .i64 (p : Int) := hf14; try simp only [VB,Bool.or_false,Bool.or_true,Bool.and_false,Bool.and_true,Bool.false_or,Bool.true_or,Bool.false_and,Bool.true_and,Bool.not_true,Bool.not_false,Bool.or_self,Bool.and_self] at hf54)
      all_goals obtain ⟨q0, q1, q2, q3, q4, q5⟩ := hload w' hb'
      all_goals first
        | (go_simp; first | exact ⟨_, rfl, Below.refl _ _, rfl⟩ | exact ⟨_, rfl, Below.refl _ _, trivial⟩ | exact ⟨_, rfl, Below.refl _ _⟩ | exact ⟨_, rfl, (Below.refl _ _).alloc (Nat.le_refl _) _, trivial⟩)
        | (apply Exists.intro
           apply And.intro
           · assumption
           · apply And.intro
             · intro hc
               first
                 | (refine absurd hc ?_; simp [undef]; done)
                 | (go_simp; first | exact ⟨_, rfl, Below.refl _ _, rfl⟩ | exact ⟨_, rfl, Below.refl _ _, trivial⟩ | exact ⟨_, rfl, Below.refl _ _⟩ | exact ⟨_, rfl, (Below.refl _ _).alloc (Nat.le_refl _) _, trivial⟩)
             · intro hc
               first | exact absurd rfl hc | exact trivial | exact rfl)
        | (apply Exists.intro
           apply And.intro
           · assumption
           · intro hc
             first
               | (refine absurd hc ?_; simp [undef]; done)
               | (go_simp; first | exact ⟨_, rfl, Below.refl _ _, rfl⟩ | exact ⟨_, rfl, Below.refl _ _, trivial⟩ | exact ⟨_, rfl, Below.refl _ _⟩ | exact ⟨_, rfl, (Below.refl _ _).alloc (Nat.le_refl _) _, trivial⟩))
    · -- operation 15
      cases c1
      all_goals (refine owes_if (L := [(11, false), (54, true)]) rfl rfl rfl rfl (by kernel_rfl) ?_; intro a' w' hb' hfacts; obtain ⟨hf11, hf54, -⟩ := hfacts; replace hf11 : a'.tmps[11]?.getD undef = .int .i64 (at' : Int) := hf11; try simp only [VB,Bool.or_false,Bool.or_true,Bool.and_false,Bool.and_true,Bool.false_or,Bool.true_or,Bool.false_and,Bool.true_and,Bool.not_true,Bool.not_false,Bool.or_self,Bool.and_self] at hf54)
      all_goals obtain ⟨q0, q1, q2, q3, q4, q5⟩ := hload w' hb'
      all_goals first
        | (go_simp; first | exact ⟨_, rfl, Below.refl _ _, rfl⟩ | exact ⟨_, rfl, Below.refl _ _, trivial⟩ | exact ⟨_, rfl, Below.refl _ _⟩ | exact ⟨_, rfl, (Below.refl _ _).alloc (Nat.le_refl _) _, trivial⟩)
        | (apply Exists.intro
           apply And.intro
           · assumption
           · apply And.intro
             · intro hc
               first
                 | (refine absurd hc ?_; simp [undef]; done)
                 | (go_simp; first | exact ⟨_, rfl, Below.refl _ _, rfl⟩ | exact ⟨_, rfl, Below.refl _ _, trivial⟩ | exact ⟨_, rfl, Below.refl _ _⟩ | exact ⟨_, rfl, (Below.refl _ _).alloc (Nat.le_refl _) _, trivial⟩)
             · intro hc
               first | exact absurd rfl hc | exact trivial | exact rfl)
        | (apply Exists.intro
           apply And.intro
           · assumption
           · intro hc
             first
               | (refine absurd hc ?_; simp [undef]; done)
               | (go_simp; first | exact ⟨_, rfl, Below.refl _ _, rfl⟩ | exact ⟨_, rfl, Below.refl _ _, trivial⟩ | exact ⟨_, rfl, Below.refl _ _⟩ | exact ⟨_, rfl, (Below.refl _ _).alloc (Nat.le_refl _) _, trivial⟩))
    · -- operation 16
      cases c1
      all_goals (refine owes_if (L := [(2, false), (54, true)]) rfl rfl rfl rfl (by kernel_rfl) ?_; intro a' w' hb' hfacts; obtain ⟨hf2, hf54, -⟩ := hfacts; replace hf2 : a'.tmps[2]?.getD undef = .string o := hf2; try simp only [VB,Bool.or_false,Bool.or_true,Bool.and_false,Bool.and_true,Bool.false_or,Bool.true_or,Bool.false_and,Bool.true_and,Bool.not_true,Bool.not_false,Bool.or_self,Bool.and_self] at hf54)
      all_goals obtain ⟨q0, q1, q2, q3, q4, q5⟩ := hload w' hb'
      all_goals first
        | (go_simp; first | exact ⟨_, rfl, Below.refl _ _, rfl⟩ | exact ⟨_, rfl, Below.refl _ _, trivial⟩ | exact ⟨_, rfl, Below.refl _ _⟩ | exact ⟨_, rfl, (Below.refl _ _).alloc (Nat.le_refl _) _, trivial⟩)
        | (apply Exists.intro
           apply And.intro
           · assumption
           · apply And.intro
             · intro hc
               first
                 | (refine absurd hc ?_; simp [undef]; done)
                 | (go_simp; first | exact ⟨_, rfl, Below.refl _ _, rfl⟩ | exact ⟨_, rfl, Below.refl _ _, trivial⟩ | exact ⟨_, rfl, Below.refl _ _⟩ | exact ⟨_, rfl, (Below.refl _ _).alloc (Nat.le_refl _) _, trivial⟩)
             · intro hc
               first | exact absurd rfl hc | exact trivial | exact rfl)
        | (apply Exists.intro
           apply And.intro
           · assumption
           · intro hc
             first
               | (refine absurd hc ?_; simp [undef]; done)
               | (go_simp; first | exact ⟨_, rfl, Below.refl _ _, rfl⟩ | exact ⟨_, rfl, Below.refl _ _, trivial⟩ | exact ⟨_, rfl, Below.refl _ _⟩ | exact ⟨_, rfl, (Below.refl _ _).alloc (Nat.le_refl _) _, trivial⟩))
    · -- operation 17
      cases c1
      all_goals (refine owes_if (L := [(57, true), (54, true)]) rfl rfl rfl rfl (by kernel_rfl) ?_; intro a' w' hb' hfacts; obtain ⟨hf57, hf54, -⟩ := hfacts; try simp only [VB,Bool.or_false,Bool.or_true,Bool.and_false,Bool.and_true,Bool.false_or,Bool.true_or,Bool.false_and,Bool.true_and,Bool.not_true,Bool.not_false,Bool.or_self,Bool.and_self] at hf57; try simp only [VB,Bool.or_false,Bool.or_true,Bool.and_false,Bool.and_true,Bool.false_or,Bool.true_or,Bool.false_and,Bool.true_and,Bool.not_true,Bool.not_false,Bool.or_self,Bool.and_self] at hf54)
      all_goals obtain ⟨q0, q1, q2, q3, q4, q5⟩ := hload w' hb'
      all_goals first
        | (go_simp; first | exact ⟨_, rfl, Below.refl _ _, rfl⟩ | exact ⟨_, rfl, Below.refl _ _, trivial⟩ | exact ⟨_, rfl, Below.refl _ _⟩ | exact ⟨_, rfl, (Below.refl _ _).alloc (Nat.le_refl _) _, trivial⟩)
        | (apply Exists.intro
           apply And.intro
           · assumption
           · apply And.intro
             · intro hc
               first
                 | (refine absurd hc ?_; simp [undef]; done)
                 | (go_simp; first | exact ⟨_, rfl, Below.refl _ _, rfl⟩ | exact ⟨_, rfl, Below.refl _ _, trivial⟩ | exact ⟨_, rfl, Below.refl _ _⟩ | exact ⟨_, rfl, (Below.refl _ _).alloc (Nat.le_refl _) _, trivial⟩)
             · intro hc
               first | exact absurd rfl hc | exact trivial | exact rfl)
        | (apply Exists.intro
           apply And.intro
           · assumption
           · intro hc
             first
               | (refine absurd hc ?_; simp [undef]; done)
               | (go_simp; first | exact ⟨_, rfl, Below.refl _ _, rfl⟩ | exact ⟨_, rfl, Below.refl _ _, trivial⟩ | exact ⟨_, rfl, Below.refl _ _⟩ | exact ⟨_, rfl, (Below.refl _ _).alloc (Nat.le_refl _) _, trivial⟩))
    · -- operation 18
      cases c1
      all_goals (refine owes_if (L := [(56, true), (58, true), (54, true)]) rfl rfl rfl rfl (by kernel_rfl) ?_; intro a' w' hb' hfacts; obtain ⟨hf56, hf58, hf54, -⟩ := hfacts; try simp only [VB,Bool.or_false,Bool.or_true,Bool.and_false,Bool.and_true,Bool.false_or,Bool.true_or,Bool.false_and,Bool.true_and,Bool.not_true,Bool.not_false,Bool.or_self,Bool.and_self] at hf56; try simp only [VB,Bool.or_false,Bool.or_true,Bool.and_false,Bool.and_true,Bool.false_or,Bool.true_or,Bool.false_and,Bool.true_and,Bool.not_true,Bool.not_false,Bool.or_self,Bool.and_self] at hf58; try simp only [VB,Bool.or_false,Bool.or_true,Bool.and_false,Bool.and_true,Bool.false_or,Bool.true_or,Bool.false_and,Bool.true_and,Bool.not_true,Bool.not_false,Bool.or_self,Bool.and_self] at hf54)
      all_goals obtain ⟨q0, q1, q2, q3, q4, q5⟩ := hload w' hb'
      all_goals first
        | (go_simp; first | exact ⟨_, rfl, Below.refl _ _, rfl⟩ | exact ⟨_, rfl, Below.refl _ _, trivial⟩ | exact ⟨_, rfl, Below.refl _ _⟩ | exact ⟨_, rfl, (Below.refl _ _).alloc (Nat.le_refl _) _, trivial⟩)
        | (apply Exists.intro
           apply And.intro
           · assumption
           · apply And.intro
             · intro hc
               first
                 | (refine absurd hc ?_; simp [undef]; done)
                 | (go_simp; first | exact ⟨_, rfl, Below.refl _ _, rfl⟩ | exact ⟨_, rfl, Below.refl _ _, trivial⟩ | exact ⟨_, rfl, Below.refl _ _⟩ | exact ⟨_, rfl, (Below.refl _ _).alloc (Nat.le_refl _) _, trivial⟩)
             · intro hc
               first | exact absurd rfl hc | exact trivial | exact rfl)
        | (apply Exists.intro
           apply And.intro
           · assumption
           · intro hc
             first
               | (refine absurd hc ?_; simp [undef]; done)
               | (go_simp; first | exact ⟨_, rfl, Below.refl _ _, rfl⟩ | exact ⟨_, rfl, Below.refl _ _, trivial⟩ | exact ⟨_, rfl, Below.refl _ _⟩ | exact ⟨_, rfl, (Below.refl _ _).alloc (Nat.le_refl _) _, trivial⟩))
    · -- operation 19
      cases c1
      all_goals (refine owes_if (L := [(55, true), (59, true), (54, true)]) rfl rfl rfl rfl (by kernel_rfl) ?_; intro a' w' hb' hfacts; obtain ⟨hf55, hf59, hf54, -⟩ := hfacts; try simp only [VB,Bool.or_false,Bool.or_true,Bool.and_false,Bool.and_true,Bool.false_or,Bool.true_or,Bool.false_and,Bool.true_and,Bool.not_true,Bool.not_false,Bool.or_self,Bool.and_self] at hf55; try simp only [VB,Bool.or_false,Bool.or_true,Bool.and_false,Bool.and_true,Bool.false_or,Bool.true_or,Bool.false_and,Bool.true_and,Bool.not_true,Bool.not_false,Bool.or_self,Bool.and_self] at hf59; try simp only [VB,Bool.or_false,Bool.or_true,Bool.and_false,Bool.and_true,Bool.false_or,Bool.true_or,Bool.false_and,Bool.true_and,Bool.not_true,Bool.not_false,Bool.or_self,Bool.and_self] at hf54)
      all_goals obtain ⟨q0, q1, q2, q3, q4, q5⟩ := hload w' hb'
      all_goals first
        | (go_simp; first | exact ⟨_, rfl, Below.refl _ _, rfl⟩ | exact ⟨_, rfl, Below.refl _ _, trivial⟩ | exact ⟨_, rfl, Below.refl _ _⟩ | exact ⟨_, rfl, (Below.refl _ _).alloc (Nat.le_refl _) _, trivial⟩)
        | (apply Exists.intro
           apply And.intro
           · assumption
           · apply And.intro
             · intro hc
               first
                 | (refine absurd hc ?_; simp [undef]; done)
                 | (go_simp; first | exact ⟨_, rfl, Below.refl _ _, rfl⟩ | exact ⟨_, rfl, Below.refl _ _, trivial⟩ | exact ⟨_, rfl, Below.refl _ _⟩ | exact ⟨_, rfl, (Below.refl _ _).alloc (Nat.le_refl _) _, trivial⟩)
             · intro hc
               first | exact absurd rfl hc | exact trivial | exact rfl)
        | (apply Exists.intro
           apply And.intro
           · assumption
           · intro hc
             first
               | (refine absurd hc ?_; simp [undef]; done)
               | (go_simp; first | exact ⟨_, rfl, Below.refl _ _, rfl⟩ | exact ⟨_, rfl, Below.refl _ _, trivial⟩ | exact ⟨_, rfl, Below.refl _ _⟩ | exact ⟨_, rfl, (Below.refl _ _).alloc (Nat.le_refl _) _, trivial⟩))
    · -- operation 20
      cases c1
      all_goals (refine owes_if (L := [(54, true), (60, true), (50, true)]) rfl rfl rfl rfl (by kernel_rfl) ?_; intro a' w' hb' hfacts; obtain ⟨hf54, hf60, hf50, -⟩ := hfacts; try simp only [VB,Bool.or_false,Bool.or_true,Bool.and_false,Bool.and_true,Bool.false_or,Bool.true_or,Bool.false_and,Bool.true_and,Bool.not_true,Bool.not_false,Bool.or_self,Bool.and_self] at hf54; try simp only [VB,Bool.or_false,Bool.or_true,Bool.and_false,Bool.and_true,Bool.false_or,Bool.true_or,Bool.false_and,Bool.true_and,Bool.not_true,Bool.not_false,Bool.or_self,Bool.and_self] at hf60; try simp only [VB,Bool.or_false,Bool.or_true,Bool.and_false,Bool.and_true,Bool.false_or,Bool.true_or,Bool.false_and,Bool.true_and,Bool.not_true,Bool.not_false,Bool.or_self,Bool.and_self] at hf50)
      all_goals obtain ⟨q0, q1, q2, q3, q4, q5⟩ := hload w' hb'
      all_goals first
        | (go_simp; first | exact ⟨_, rfl, Below.refl _ _, rfl⟩ | exact ⟨_, rfl, Below.refl _ _, trivial⟩ | exact ⟨_, rfl, Below.refl _ _⟩ | exact ⟨_, rfl, (Below.refl _ _).alloc (Nat.le_refl _) _, trivial⟩)
        | (apply Exists.intro
           apply And.intro
           · assumption
           · apply And.intro
             · intro hc
               first
                 | (refine absurd hc ?_; simp [undef]; done)
                 | (go_simp; first | exact ⟨_, rfl, Below.refl _ _, rfl⟩ | exact ⟨_, rfl, Below.refl _ _, trivial⟩ | exact ⟨_, rfl, Below.refl _ _⟩ | exact ⟨_, rfl, (Below.refl _ _).alloc (Nat.le_refl _) _, trivial⟩)
             · intro hc
               first | exact absurd rfl hc | exact trivial | exact rfl)
        | (apply Exists.intro
           apply And.intro
           · assumption
           · intro hc
             first
               | (refine absurd hc ?_; simp [undef]; done)
               | (go_simp; first | exact ⟨_, rfl, Below.refl _ _, rfl⟩ | exact ⟨_, rfl, Below.refl _ _, trivial⟩ | exact ⟨_, rfl, Below.refl _ _⟩ | exact ⟨_, rfl, (Below.refl _ _).alloc (Nat.le_refl _) _, trivial⟩))
    · -- operation 21
      (refine owes_if (L := [(61, true), (50, true)]) rfl rfl rfl rfl (by kernel_rfl) ?_; intro a' w' hb' hfacts; obtain ⟨hf61, hf50, -⟩ := hfacts; try simp only [VB,Bool.or_false,Bool.or_true,Bool.and_false,Bool.and_true,Bool.false_or,Bool.true_or,Bool.false_and,Bool.true_and,Bool.not_true,Bool.not_false,Bool.or_self,Bool.and_self] at hf61; try simp only [VB,Bool.or_false,Bool.or_true,Bool.and_false,Bool.and_true,Bool.false_or,Bool.true_or,Bool.false_and,Bool.true_and,Bool.not_true,Bool.not_false,Bool.or_self,Bool.and_self] at hf50)
      obtain ⟨q0, q1, q2, q3, q4, q5⟩ := hload w' hb'
      first
        | (go_simp; first | exact ⟨_, rfl, Below.refl _ _, rfl⟩ | exact ⟨_, rfl, Below.refl _ _, trivial⟩ | exact ⟨_, rfl, Below.refl _ _⟩ | exact ⟨_, rfl, (Below.refl _ _).alloc (Nat.le_refl _) _, trivial⟩)
        | (apply Exists.intro
           apply And.intro
           · assumption
           · apply And.intro
             · intro hc
               first
                 | (refine absurd hc ?_; simp [undef]; done)
                 | (go_simp; first | exact ⟨_, rfl, Below.refl _ _, rfl⟩ | exact ⟨_, rfl, Below.refl _ _, trivial⟩ | exact ⟨_, rfl, Below.refl _ _⟩ | exact ⟨_, rfl, (Below.refl _ _).alloc (Nat.le_refl _) _, trivial⟩)
             · intro hc
               first | exact absurd rfl hc | exact trivial | exact rfl)
        | (apply Exists.intro
           apply And.intro
           · assumption
           · intro hc
             first
               | (refine absurd hc ?_; simp [undef]; done)
               | (go_simp; first | exact ⟨_, rfl, Below.refl _ _, rfl⟩ | exact ⟨_, rfl, Below.refl _ _, trivial⟩ | exact ⟨_, rfl, Below.refl _ _⟩ | exact ⟨_, rfl, (Below.refl _ _).alloc (Nat.le_refl _) _, trivial⟩))
    · -- operation 22
      cases c1 <;> cases c2
      all_goals (refine owes_if (L := [(14, false), (62, true)]) rfl rfl rfl rfl (by kernel_rfl) ?_; intro a' w' hb' hfacts; obtain ⟨hf14, hf62, -⟩ := hfacts; replace hf14 : a'.tmps[14]?.getD undef = .int .i64 (p : Int) := hf14; try simp only [VB,Bool.or_false,Bool.or_true,Bool.and_false,Bool.and_true,Bool.false_or,Bool.true_or,Bool.false_and,Bool.true_and,Bool.not_true,Bool.not_false,Bool.or_self,Bool.and_self] at hf62)
      all_goals obtain ⟨q0, q1, q2, q3, q4, q5⟩ := hload w' hb'
      all_goals first
        | (go_simp; first | exact ⟨_, rfl, Below.refl _ _, rfl⟩ | exact ⟨_, rfl, Below.refl _ _, trivial⟩ | exact ⟨_, rfl, Below.refl _ _⟩ | exact ⟨_, rfl, (Below.refl _ _).alloc (Nat.le_refl _) _, trivial⟩)
        | (apply Exists.intro
           apply And.intro
           · assumption
           · apply And.intro
             · intro hc
               first
                 | (refine absurd hc ?_; simp [undef]; done)
                 | (go_simp; first | exact ⟨_, rfl, Below.refl _ _, rfl⟩ | exact ⟨_, rfl, Below.refl _ _, trivial⟩ | exact ⟨_, rfl, Below.refl _ _⟩ | exact ⟨_, rfl, (Below.refl _ _).alloc (Nat.le_refl _) _, trivial⟩)
             · intro hc
               first | exact absurd rfl hc | exact trivial | exact rfl)
        | (apply Exists.intro
           apply And.intro
           · assumption
           · intro hc
             first
               | (refine absurd hc ?_; simp [undef]; done)
               | (go_simp; first | exact ⟨_, rfl, Below.refl _ _, rfl⟩ | exact ⟨_, rfl, Below.refl _ _, trivial⟩ | exact ⟨_, rfl, Below.refl _ _⟩ | exact ⟨_, rfl, (Below.refl _ _).alloc (Nat.le_refl _) _, trivial⟩))
    · -- operation 23
      cases c1 <;> cases c2
      all_goals (refine owes_if (L := [(11, false), (62, true)]) rfl rfl rfl rfl (by kernel_rfl) ?_; intro a' w' hb' hfacts; obtain ⟨hf11, hf62, -⟩ := hfacts; replace hf11 : a'.tmps[11]?.getD undef = .int .i64 (at' : Int) := hf11; try simp only [VB,Bool.or_false,Bool.or_true,Bool.and_false,Bool.and_true,Bool.false_or,Bool.true_or,Bool.false_and,Bool.true_and,Bool.not_true,Bool.not_false,Bool.or_self,Bool.and_self] at hf62)
      all_goals obtain ⟨q0, q1, q2, q3, q4, q5⟩ := hload w' hb'
      all_goals first
        | (go_simp; first | exact ⟨_, rfl, Below.refl _ _, rfl⟩ | exact ⟨_, rfl, Below.refl _ _, trivial⟩ | exact ⟨_, rfl, Below.refl _ _⟩ | exact ⟨_, rfl, (Below.refl _ _).alloc (Nat.le_refl _) _, trivial⟩)
        | (apply Exists.intro
           apply And.intro
           · assumption
           · apply And.intro
             · intro hc
               first
                 | (refine absurd hc ?_; simp [undef]; done)
                 | (go_simp; first | exact ⟨_, rfl, Below.refl _ _, rfl⟩ | exact ⟨_, rfl, Below.refl _ _, trivial⟩ | exact ⟨_, rfl, Below.refl _ _⟩ | exact ⟨_, rfl, (Below.refl _ _).alloc (Nat.le_refl _) _, trivial⟩)
             · intro hc
               first | exact absurd rfl hc | exact trivial | exact rfl)
        | (apply Exists.intro
           apply And.intro
           · assumption
           · intro hc
             first
               | (refine absurd hc ?_; simp [undef]; done)
               | (go_simp; first | exact ⟨_, rfl, Below.refl _ _, rfl⟩ | exact ⟨_, rfl, Below.refl _ _, trivial⟩ | exact ⟨_, rfl, Below.refl _ _⟩ | exact ⟨_, rfl, (Below.refl _ _).alloc (Nat.le_refl _) _, trivial⟩))
    · -- operation 24
      cases c1 <;> cases c2
      all_goals (refine owes_if (L := [(2, false), (62, true)]) rfl rfl rfl rfl (by kernel_rfl) ?_; intro a' w' hb' hfacts; obtain ⟨hf2, hf62, -⟩ := hfacts; replace hf2 : a'.tmps[2]?.getD undef = .string o := hf2; try simp only [VB,Bool.or_false,Bool.or_true,Bool.and_false,Bool.and_true,Bool.false_or,Bool.true_or,Bool.false_and,Bool.true_and,Bool.not_true,Bool.not_false,Bool.or_self,Bool.and_self] at hf62)
      all_goals obtain ⟨q0, q1, q2, q3, q4, q5⟩ := hload w' hb'
      all_goals first
        | (go_simp; first | exact ⟨_, rfl, Below.refl _ _, rfl⟩ | exact ⟨_, rfl, Below.refl _ _, trivial⟩ | exact ⟨_, rfl, Below.refl _ _⟩ | exact ⟨_, rfl, (Below.refl _ _).alloc (Nat.le_refl _) _, trivial⟩)
        | (apply Exists.intro
           apply And.intro
           · assumption
           · apply And.intro
             · intro hc
               first
                 | (refine absurd hc ?_; simp [undef]; done)
                 | (go_simp; first | exact ⟨_, rfl, Below.refl _ _, rfl⟩ | exact ⟨_, rfl, Below.refl _ _, trivial⟩ | exact ⟨_, rfl, Below.refl _ _⟩ | exact ⟨_, rfl, (Below.refl _ _).alloc (Nat.le_refl _) _, trivial⟩)
             · intro hc
               first | exact absurd rfl hc | exact trivial | exact rfl)
        | (apply Exists.intro
           apply And.intro
           · assumption
           · intro hc
             first
               | (refine absurd hc ?_; simp [undef]; done)
               | (go_simp; first | exact ⟨_, rfl, Below.refl _ _, rfl⟩ | exact ⟨_, rfl, Below.refl _ _, trivial⟩ | exact ⟨_, rfl, Below.refl _ _⟩ | exact ⟨_, rfl, (Below.refl _ _).alloc (Nat.le_refl _) _, trivial⟩))
    · -- operation 25
      cases c1 <;> cases c2
      all_goals (refine owes_if (L := [(65, true), (62, true)]) rfl rfl rfl rfl (by kernel_rfl) ?_; intro a' w' hb' hfacts; obtain ⟨hf65, hf62, -⟩ := hfacts; try simp only [VB,Bool.or_false,Bool.or_true,Bool.and_false,Bool.and_true,Bool.false_or,Bool.true_or,Bool.false_and,Bool.true_and,Bool.not_true,Bool.not_false,Bool.or_self,Bool.and_self] at hf65; try simp only [VB,Bool.or_false,Bool.or_true,Bool.and_false,Bool.and_true,Bool.false_or,Bool.true_or,Bool.false_and,Bool.true_and,Bool.not_true,Bool.not_false,Bool.or_self,Bool.and_self] at hf62)
      all_goals obtain ⟨q0, q1, q2, q3, q4, q5⟩ := hload w' hb'
      all_goals first
        | (go_simp; first | exact ⟨_, rfl, Below.refl _ _, rfl⟩ | exact ⟨_, rfl, Below.refl _ _, trivial⟩ | exact ⟨_, rfl, Below.refl _ _⟩ | exact ⟨_, rfl, (Below.refl _ _).alloc (Nat.le_refl _) _, trivial⟩)
        | (apply Exists.intro
           apply And.intro
           · assumption
           · apply And.intro
             · intro hc
               first
                 | (refine absurd hc ?_; simp [undef]; done)
                 | (go_simp; first | exact ⟨_, rfl, Below.refl _ _, rfl⟩ | exact ⟨_, rfl, Below.refl _ _, trivial⟩ | exact ⟨_, rfl, Below.refl _ _⟩ | exact ⟨_, rfl, (Below.refl _ _).alloc (Nat.le_refl _) _, trivial⟩)
             · intro hc
               first | exact absurd rfl hc | exact trivial | exact rfl)
        | (apply Exists.intro
           apply And.intro
           · assumption
           · intro hc
             first
               | (refine absurd hc ?_; simp [undef]; done)
               | (go_simp; first | exact ⟨_, rfl, Below.refl _ _, rfl⟩ | exact ⟨_, rfl, Below.refl _ _, trivial⟩ | exact ⟨_, rfl, Below.refl _ _⟩ | exact ⟨_, rfl, (Below.refl _ _).alloc (Nat.le_refl _) _, trivial⟩))
    · -- operation 26
      cases c1 <;> cases c2
      all_goals (refine owes_if (L := [(64, true), (66, true), (62, true)]) rfl rfl rfl rfl (by kernel_rfl) ?_; intro a' w' hb' hfacts; obtain ⟨hf64, hf66, hf62, -⟩ := hfacts; try simp only [VB,Bool.or_false,Bool.or_true,Bool.and_false,Bool.and_true,Bool.false_or,Bool.true_or,Bool.false_and,Bool.true_and,Bool.not_true,Bool.not_false,Bool.or_self,Bool.and_self] at hf64; try simp only [VB,Bool.or_false,Bool.or_true,Bool.and_false,Bool.and_true,Bool.false_or,Bool.true_or,Bool.false_and,Bool.true_and,Bool.not_true,Bool.not_false,Bool.or_self,Bool.and_self] at hf66; try simp only [VB,Bool.or_false,Bool.or_true,Bool.and_false,Bool.and_true,Bool.false_or,Bool.true_or,Bool.false_and,Bool.true_and,Bool.not_true,Bool.not_false,Bool.or_self,Bool.and_self] at hf62)
      all_goals obtain ⟨q0, q1, q2, q3, q4, q5⟩ := hload w' hb'
      all_goals first
        | (go_simp; first | exact ⟨_, rfl, Below.refl _ _, rfl⟩ | exact ⟨_, rfl, Below.refl _ _, trivial⟩ | exact ⟨_, rfl, Below.refl _ _⟩ | exact ⟨_, rfl, (Below.refl _ _).alloc (Nat.le_refl _) _, trivial⟩)
        | (apply Exists.intro
           apply And.intro
           · assumption
           · apply And.intro
             · intro hc
               first
                 | (refine absurd hc ?_; simp [undef]; done)
                 | (go_simp; first | exact ⟨_, rfl, Below.refl _ _, rfl⟩ | exact ⟨_, rfl, Below.refl _ _, trivial⟩ | exact ⟨_, rfl, Below.refl _ _⟩ | exact ⟨_, rfl, (Below.refl _ _).alloc (Nat.le_refl _) _, trivial⟩)
             · intro hc
               first | exact absurd rfl hc | exact trivial | exact rfl)
        | (apply Exists.intro
           apply And.intro
           · assumption
           · intro hc
             first
               | (refine absurd hc ?_; simp [undef]; done)
               | (go_simp; first | exact ⟨_, rfl, Below.refl _ _, rfl⟩ | exact ⟨_, rfl, Below.refl _ _, trivial⟩ | exact ⟨_, rfl, Below.refl _ _⟩ | exact ⟨_, rfl, (Below.refl _ _).alloc (Nat.le_refl _) _, trivial⟩))
    · -- operation 27
      cases c1 <;> cases c2
      all_goals (refine owes_if (L := [(63, true), (67, true), (62, true)]) rfl rfl rfl rfl (by kernel_rfl) ?_; intro a' w' hb' hfacts; obtain ⟨hf63, hf67, hf62, -⟩ := hfacts; try simp only [VB,Bool.or_false,Bool.or_true,Bool.and_false,Bool.and_true,Bool.false_or,Bool.true_or,Bool.false_and,Bool.true_and,Bool.not_true,Bool.not_false,Bool.or_self,Bool.and_self] at hf63; try simp only [VB,Bool.or_false,Bool.or_true,Bool.and_false,Bool.and_true,Bool.false_or,Bool.true_or,Bool.false_and,Bool.true_and,Bool.not_true,Bool.not_false,Bool.or_self,Bool.and_self] at hf67; try simp only [VB,Bool.or_false,Bool.or_true,Bool.and_false,Bool.and_true,Bool.false_or,Bool.true_or,Bool.false_and,Bool.true_and,Bool.not_true,Bool.not_false,Bool.or_self,Bool.and_self] at hf62)
      all_goals obtain ⟨q0, q1, q2, q3, q4, q5⟩ := hload w' hb'
      all_goals first
        | (go_simp; first | exact ⟨_, rfl, Below.refl _ _, rfl⟩ | exact ⟨_, rfl, Below.refl _ _, trivial⟩ | exact ⟨_, rfl, Below.refl _ _⟩ | exact ⟨_, rfl, (Below.refl _ _).alloc (Nat.le_refl _) _, trivial⟩)
        | (apply Exists.intro
           apply And.intro
           · assumption
           · apply And.intro
             · intro hc
               first
                 | (refine absurd hc ?_; simp [undef]; done)
                 | (go_simp; first | exact ⟨_, rfl, Below.refl _ _, rfl⟩ | exact ⟨_, rfl, Below.refl _ _, trivial⟩ | exact ⟨_, rfl, Below.refl _ _⟩ | exact ⟨_, rfl, (Below.refl _ _).alloc (Nat.le_refl _) _, trivial⟩)
             · intro hc
               first | exact absurd rfl hc | exact trivial | exact rfl)
        | (apply Exists.intro
           apply And.intro
           · assumption
           · intro hc
             first
               | (refine absurd hc ?_; simp [undef]; done)
               | (go_simp; first | exact ⟨_, rfl, Below.refl _ _, rfl⟩ | exact ⟨_, rfl, Below.refl _ _, trivial⟩ | exact ⟨_, rfl, Below.refl _ _⟩ | exact ⟨_, rfl, (Below.refl _ _).alloc (Nat.le_refl _) _, trivial⟩))
    · -- operation 28
      cases c1 <;> cases c2
      all_goals (refine owes_if (L := [(68, true), (62, true)]) rfl rfl rfl rfl (by kernel_rfl) ?_; intro a' w' hb' hfacts; obtain ⟨hf68, hf62, -⟩ := hfacts; try simp only [VB,Bool.or_false,Bool.or_true,Bool.and_false,Bool.and_true,Bool.false_or,Bool.true_or,Bool.false_and,Bool.true_and,Bool.not_true,Bool.not_false,Bool.or_self,Bool.and_self] at hf68; try simp only [VB,Bool.or_false,Bool.or_true,Bool.and_false,Bool.and_true,Bool.false_or,Bool.true_or,Bool.false_and,Bool.true_and,Bool.not_true,Bool.not_false,Bool.or_self,Bool.and_self] at hf62)
      all_goals obtain ⟨q0, q1, q2, q3, q4, q5⟩ := hload w' hb'
      all_goals first
        | (go_simp; first | exact ⟨_, rfl, Below.refl _ _, rfl⟩ | exact ⟨_, rfl, Below.refl _ _, trivial⟩ | exact ⟨_, rfl, Below.refl _ _⟩ | exact ⟨_, rfl, (Below.refl _ _).alloc (Nat.le_refl _) _, trivial⟩)
        | (apply Exists.intro
           apply And.intro
           · assumption
           · apply And.intro
             · intro hc
               first
                 | (refine absurd hc ?_; simp [undef]; done)
                 | (go_simp; first | exact ⟨_, rfl, Below.refl _ _, rfl⟩ | exact ⟨_, rfl, Below.refl _ _, trivial⟩ | exact ⟨_, rfl, Below.refl _ _⟩ | exact ⟨_, rfl, (Below.refl _ _).alloc (Nat.le_refl _) _, trivial⟩)
             · intro hc
               first | exact absurd rfl hc | exact trivial | exact rfl)
        | (apply Exists.intro
           apply And.intro
           · assumption
           · intro hc
             first
               | (refine absurd hc ?_; simp [undef]; done)
               | (go_simp; first | exact ⟨_, rfl, Below.refl _ _, rfl⟩ | exact ⟨_, rfl, Below.refl _ _, trivial⟩ | exact ⟨_, rfl, Below.refl _ _⟩ | exact ⟨_, rfl, (Below.refl _ _).alloc (Nat.le_refl _) _, trivial⟩))
    · -- operation 29
      cases c1 <;> cases c2 <;> cases c3
      all_goals (refine owes_if (L := [(3, false), (69, true)]) rfl rfl rfl rfl (by kernel_rfl) ?_; intro a' w' hb' hfacts; obtain ⟨hf3, hf69, -⟩ := hfacts; replace hf3 : a'.tmps[3]?.getD undef = .string q := hf3; try simp only [VB,Bool.or_false,Bool.or_true,Bool.and_false,Bool.and_true,Bool.false_or,Bool.true_or,Bool.false_and,Bool.true_and,Bool.not_true,Bool.not_false,Bool.or_self,Bool.and_self] at hf69)
      all_goals obtain ⟨q0, q1, q2, q3, q4, q5⟩ := hload w' hb'
      all_goals first
        | (go_simp; first | exact ⟨_, rfl, Below.refl _ _, rfl⟩ | exact ⟨_, rfl, Below.refl _ _, trivial⟩ | exact ⟨_, rfl, Below.refl _ _⟩ | exact ⟨_, rfl, (Below.refl _ _).alloc (Nat.le_refl _) _, trivial⟩)
        | (apply Exists.intro
           apply And.intro
           · assumption
           · apply And.intro
             · intro hc
               first
                 | (refine absurd hc ?_; simp [undef]; done)
                 | (go_simp; first | exact ⟨_, rfl, Below.refl _ _, rfl⟩ | exact ⟨_, rfl, Below.refl _ _, trivial⟩ | exact ⟨_, rfl, Below.refl _ _⟩ | exact ⟨_, rfl, (Below.refl _ _).alloc (Nat.le_refl _) _, trivial⟩)
             · intro hc
               first | exact absurd rfl hc | exact trivial | exact rfl)
        | (apply Exists.intro
           apply And.intro
           · assumption
           · intro hc
             first
               | (refine absurd hc ?_; simp [undef]; done)
               | (go_simp; first | exact ⟨_, rfl, Below.refl _ _, rfl⟩ | exact ⟨_, rfl, Below.refl _ _, trivial⟩ | exact ⟨_, rfl, Below.refl _ _⟩ | exact ⟨_, rfl, (Below.refl _ _).alloc (Nat.le_refl _) _, trivial⟩))
    · -- operation 30
      cases c1 <;> cases c2 <;> cases c3
      all_goals (refine owes_if (L := [(70, true), (69, true)]) rfl rfl rfl rfl (by kernel_rfl) ?_; intro a' w' hb' hfacts; obtain ⟨hf70, hf69, -⟩ := hfacts; try simp only [VB,Bool.or_false,Bool.or_true,Bool.and_false,Bool.and_true,Bool.false_or,Bool.true_or,Bool.false_and,Bool.true_and,Bool.not_true,Bool.not_false,Bool.or_self,Bool.and_self] at hf70; try simp only [VB,Bool.or_false,Bool.or_true,Bool.and_false,Bool.and_true,Bool.false_or,Bool.true_or,Bool.false_and,Bool.true_and,Bool.not_true,Bool.not_false,Bool.or_self,Bool.and_self] at hf69)
      all_goals first
        | (refine ⟨_, hf69, fun hc => ?_, fun hc => trivial⟩; refine absurd hc ?_; simp [undef]; done)
        | (refine ⟨_, hf69, fun _ => ?_, fun hc => absurd rfl hc⟩; go_simp; refine ⟨_, rfl, Below.refl _ _, ?_⟩; show Value.bool _ = Value.bool _; rw [← hc4]; cases q.toList <;> rfl)
    · -- operation 31
      cases c1 <;> cases c2 <;> cases c3
      all_goals (refine owes_if (L := [(69, true), (71, true), (62, true)]) rfl rfl rfl rfl (by kernel_rfl) ?_; intro a' w' hb' hfacts; obtain ⟨hf69, hf71, hf62, -⟩ := hfacts; try simp only [VB,Bool.or_false,Bool.or_true,Bool.and_false,Bool.and_true,Bool.false_or,Bool.true_or,Bool.false_and,Bool.true_and,Bool.not_true,Bool.not_false,Bool.or_self,Bool.and_self] at hf69; try simp only [VB,Bool.or_false,Bool.or_true,Bool.and_false,Bool.and_true,Bool.false_or,Bool.true_or,Bool.false_and,Bool.true_and,Bool.not_true,Bool.not_false,Bool.or_self,Bool.and_self] at hf71; try simp only [VB,Bool.or_false,Bool.or_true,Bool.and_false,Bool.and_true,Bool.false_or,Bool.true_or,Bool.false_and,Bool.true_and,Bool.not_true,Bool.not_false,Bool.or_self,Bool.and_self] at hf62)
      all_goals obtain ⟨q0, q1, q2, q3, q4, q5⟩ := hload w' hb'
      all_goals first
        | (go_simp; first | exact ⟨_, rfl, Below.refl _ _, rfl⟩ | exact ⟨_, rfl, Below.refl _ _, trivial⟩ | exact ⟨_, rfl, Below.refl _ _⟩ | exact ⟨_, rfl, (Below.refl _ _).alloc (Nat.le_refl _) _, trivial⟩)
        | (apply Exists.intro
           apply And.intro
           · assumption
           · apply And.intro
             · intro hc
               first
                 | (refine absurd hc ?_; simp [undef]; done)
                 | (go_simp; first | exact ⟨_, rfl, Below.refl _ _, rfl⟩ | exact ⟨_, rfl, Below.refl _ _, trivial⟩ | exact ⟨_, rfl, Below.refl _ _⟩ | exact ⟨_, rfl, (Below.refl _ _).alloc (Nat.le_refl _) _, trivial⟩)
             · intro hc
               first | exact absurd rfl hc | exact trivial | exact rfl)
        | (apply Exists.intro
           apply And.intro
           · assumption
           · intro hc
             first
               | (refine absurd hc ?_; simp [undef]; done)
               | (go_simp; first | exact ⟨_, rfl, Below.refl _ _, rfl⟩ | exact ⟨_, rfl, Below.refl _ _, trivial⟩ | exact ⟨_, rfl, Below.refl _ _⟩ | exact ⟨_, rfl, (Below.refl _ _).alloc (Nat.le_refl _) _, trivial⟩))
    · -- operation 32
      subst hgg; cases c1 <;> cases c2
      all_goals (refine owes_if (L := [(62, true), (72, true), (50, true)]) rfl rfl rfl rfl (by kernel_rfl) ?_; intro a' w' hb' hfacts; obtain ⟨hf62, hf72, hf50, -⟩ := hfacts; try simp only [VB,Bool.or_false,Bool.or_true,Bool.and_false,Bool.and_true,Bool.false_or,Bool.true_or,Bool.false_and,Bool.true_and,Bool.not_true,Bool.not_false,Bool.or_self,Bool.and_self] at hf62; try simp only [VB,Bool.or_false,Bool.or_true,Bool.and_false,Bool.and_true,Bool.false_or,Bool.true_or,Bool.false_and,Bool.true_and,Bool.not_true,Bool.not_false,Bool.or_self,Bool.and_self] at hf72; try simp only [VB,Bool.or_false,Bool.or_true,Bool.and_false,Bool.and_true,Bool.false_or,Bool.true_or,Bool.false_and,Bool.true_and,Bool.not_true,Bool.not_false,Bool.or_self,Bool.and_self] at hf50)
      all_goals obtain ⟨q0, q1, q2, q3, q4, q5⟩ := hload w' hb'
      all_goals first
        | (go_simp; first | exact ⟨_, rfl, Below.refl _ _, rfl⟩ | exact ⟨_, rfl, Below.refl _ _, trivial⟩ | exact ⟨_, rfl, Below.refl _ _⟩ | exact ⟨_, rfl, (Below.refl _ _).alloc (Nat.le_refl _) _, trivial⟩)
        | (apply Exists.intro
           apply And.intro
           · assumption
           · apply And.intro
             · intro hc
               first
                 | (refine absurd hc ?_; simp [undef]; done)
                 | (go_simp; first | exact ⟨_, rfl, Below.refl _ _, rfl⟩ | exact ⟨_, rfl, Below.refl _ _, trivial⟩ | exact ⟨_, rfl, Below.refl _ _⟩ | exact ⟨_, rfl, (Below.refl _ _).alloc (Nat.le_refl _) _, trivial⟩)
             · intro hc
               first | exact absurd rfl hc | exact trivial | exact rfl)
        | (apply Exists.intro
           apply And.intro
           · assumption
           · intro hc
             first
               | (refine absurd hc ?_; simp [undef]; done)
               | (go_simp; first | exact ⟨_, rfl, Below.refl _ _, rfl⟩ | exact ⟨_, rfl, Below.refl _ _, trivial⟩ | exact ⟨_, rfl, Below.refl _ _⟩ | exact ⟨_, rfl, (Below.refl _ _).alloc (Nat.le_refl _) _, trivial⟩))
    · -- operation 33
      (refine owes_if (L := [(73, true), (50, true)]) rfl rfl rfl rfl (by kernel_rfl) ?_; intro a' w' hb' hfacts; obtain ⟨hf73, hf50, -⟩ := hfacts; try simp only [VB,Bool.or_false,Bool.or_true,Bool.and_false,Bool.and_true,Bool.false_or,Bool.true_or,Bool.false_and,Bool.true_and,Bool.not_true,Bool.not_false,Bool.or_self,Bool.and_self] at hf73; try simp only [VB,Bool.or_false,Bool.or_true,Bool.and_false,Bool.and_true,Bool.false_or,Bool.true_or,Bool.false_and,Bool.true_and,Bool.not_true,Bool.not_false,Bool.or_self,Bool.and_self] at hf50)
      obtain ⟨q0, q1, q2, q3, q4, q5⟩ := hload w' hb'
      first
        | (go_simp; first | exact ⟨_, rfl, Below.refl _ _, rfl⟩ | exact ⟨_, rfl, Below.refl _ _, trivial⟩ | exact ⟨_, rfl, Below.refl _ _⟩ | exact ⟨_, rfl, (Below.refl _ _).alloc (Nat.le_refl _) _, trivial⟩)
        | (apply Exists.intro
           apply And.intro
           · assumption
           · apply And.intro
             · intro hc
               first
                 | (refine absurd hc ?_; simp [undef]; done)
                 | (go_simp; first | exact ⟨_, rfl, Below.refl _ _, rfl⟩ | exact ⟨_, rfl, Below.refl _ _, trivial⟩ | exact ⟨_, rfl, Below.refl _ _⟩ | exact ⟨_, rfl, (Below.refl _ _).alloc (Nat.le_refl _) _, trivial⟩)
             · intro hc
               first | exact absurd rfl hc | exact trivial | exact rfl)
        | (apply Exists.intro
           apply And.intro
           · assumption
           · intro hc
             first
               | (refine absurd hc ?_; simp [undef]; done)
               | (go_simp; first | exact ⟨_, rfl, Below.refl _ _, rfl⟩ | exact ⟨_, rfl, Below.refl _ _, trivial⟩ | exact ⟨_, rfl, Below.refl _ _⟩ | exact ⟨_, rfl, (Below.refl _ _).alloc (Nat.le_refl _) _, trivial⟩))
    · -- operation 34
      clear hgg; cases gg
      all_goals (refine owes_if (L := [(15, false), (74, true)]) rfl rfl rfl rfl (by kernel_rfl) ?_; intro a' w' hb' hfacts; obtain ⟨hf15, hf74, -⟩ := hfacts; replace hf15 : a'.tmps[15]?.getD undef = .int .i64 X := hf15; try simp only [VB,Bool.or_false,Bool.or_true,Bool.and_false,Bool.and_true,Bool.false_or,Bool.true_or,Bool.false_and,Bool.true_and,Bool.not_true,Bool.not_false,Bool.or_self,Bool.and_self] at hf74)
      all_goals obtain ⟨q0, q1, q2, q3, q4, q5⟩ := hload w' hb'
      all_goals first
        | (go_simp; first | exact ⟨_, rfl, Below.refl _ _, rfl⟩ | exact ⟨_, rfl, Below.refl _ _, trivial⟩ | exact ⟨_, rfl, Below.refl _ _⟩ | exact ⟨_, rfl, (Below.refl _ _).alloc (Nat.le_refl _) _, trivial⟩)
        | (apply Exists.intro
           apply And.intro
           · assumption
           · apply And.intro
             · intro hc
               first
                 | (refine absurd hc ?_; simp [undef]; done)
                 | (go_simp; first | exact ⟨_, rfl, Below.refl _ _, rfl⟩ | exact ⟨_, rfl, Below.refl _ _, trivial⟩ | exact ⟨_, rfl, Below.refl _ _⟩ | exact ⟨_, rfl, (Below.refl _ _).alloc (Nat.le_refl _) _, trivial⟩)
             · intro hc
               first | exact absurd rfl hc | exact trivial | exact rfl)
        | (apply Exists.intro
           apply And.intro
           · assumption
           · intro hc
             first
               | (refine absurd hc ?_; simp [undef]; done)
               | (go_simp; first | exact ⟨_, rfl, Below.refl _ _, rfl⟩ | exact ⟨_, rfl, Below.refl _ _, trivial⟩ | exact ⟨_, rfl, Below.refl _ _⟩ | exact ⟨_, rfl, (Below.refl _ _).alloc (Nat.le_refl _) _, trivial⟩))
    · -- operation 35
      clear hgg; cases gg
      all_goals (refine owes_if (L := [(14, false), (74, true)]) rfl rfl rfl rfl (by kernel_rfl) ?_; intro a' w' hb' hfacts; obtain ⟨hf14, hf74, -⟩ := hfacts; replace hf14 : a'.tmps[14]?.getD undef = .int .i64 (p : Int) := hf14; try simp only [VB,Bool.or_false,Bool.or_true,Bool.and_false,Bool.and_true,Bool.false_or,Bool.true_or,Bool.false_and,Bool.true_and,Bool.not_true,Bool.not_false,Bool.or_self,Bool.and_self] at hf74)
      all_goals obtain ⟨q0, q1, q2, q3, q4, q5⟩ := hload w' hb'
      all_goals first
        | (go_simp; first | exact ⟨_, rfl, Below.refl _ _, rfl⟩ | exact ⟨_, rfl, Below.refl _ _, trivial⟩ | exact ⟨_, rfl, Below.refl _ _⟩ | exact ⟨_, rfl, (Below.refl _ _).alloc (Nat.le_refl _) _, trivial⟩)
        | (apply Exists.intro
           apply And.intro
           · assumption
           · apply And.intro
             · intro hc
               first
                 | (refine absurd hc ?_; simp [undef]; done)
                 | (go_simp; first | exact ⟨_, rfl, Below.refl _ _, rfl⟩ | exact ⟨_, rfl, Below.refl _ _, trivial⟩ | exact ⟨_, rfl, Below.refl _ _⟩ | exact ⟨_, rfl, (Below.refl _ _).alloc (Nat.le_refl _) _, trivial⟩)
             · intro hc
               first | exact absurd rfl hc | exact trivial | exact rfl)
        | (apply Exists.intro
           apply And.intro
           · assumption
           · intro hc
             first
               | (refine absurd hc ?_; simp [undef]; done)
               | (go_simp; first | exact ⟨_, rfl, Below.refl _ _, rfl⟩ | exact ⟨_, rfl, Below.refl _ _, trivial⟩ | exact ⟨_, rfl, Below.refl _ _⟩ | exact ⟨_, rfl, (Below.refl _ _).alloc (Nat.le_refl _) _, trivial⟩))
    · -- operation 36
      clear hgg; cases gg
      all_goals (refine owes_if (L := [(75, true), (76, true), (74, true)]) rfl rfl rfl rfl (by kernel_rfl) ?_; intro a' w' hb' hfacts; obtain ⟨hf75, hf76, hf74, -⟩ := hfacts; try simp only [VB,Bool.or_false,Bool.or_true,Bool.and_false,Bool.and_true,Bool.false_or,Bool.true_or,Bool.false_and,Bool.true_and,Bool.not_true,Bool.not_false,Bool.or_self,Bool.and_self] at hf75; try simp only [VB,Bool.or_false,Bool.or_true,Bool.and_false,Bool.and_true,Bool.false_or,Bool.true_or,Bool.false_and,Bool.true_and,Bool.not_true,Bool.not_false,Bool.or_self,Bool.and_self] at hf76; try simp only [VB,Bool.or_false,Bool.or_true,Bool.and_false,Bool.and_true,Bool.false_or,Bool.true_or,Bool.false_and,Bool.true_and,Bool.not_true,Bool.not_false,Bool.or_self,Bool.and_self] at hf74)
      all_goals obtain ⟨q0, q1, q2, q3, q4, q5⟩ := hload w' hb'
      all_goals first
        | (go_simp; first | exact ⟨_, rfl, Below.refl _ _, rfl⟩ | exact ⟨_, rfl, Below.refl _ _, trivial⟩ | exact ⟨_, rfl, Below.refl _ _⟩ | exact ⟨_, rfl, (Below.refl _ _).alloc (Nat.le_refl _) _, trivial⟩)
        | (apply Exists.intro
           apply And.intro
           · assumption
           · apply And.intro
             · intro hc
               first
                 | (refine absurd hc ?_; simp [undef]; done)
                 | (go_simp; first | exact ⟨_, rfl, Below.refl _ _, rfl⟩ | exact ⟨_, rfl, Below.refl _ _, trivial⟩ | exact ⟨_, rfl, Below.refl _ _⟩ | exact ⟨_, rfl, (Below.refl _ _).alloc (Nat.le_refl _) _, trivial⟩)
             · intro hc
               first | exact absurd rfl hc | exact trivial | exact rfl)
        | (apply Exists.intro
           apply And.intro
           · assumption
           · intro hc
             first
               | (refine absurd hc ?_; simp [undef]; done)
               | (go_simp; first | exact ⟨_, rfl, Below.refl _ _, rfl⟩ | exact ⟨_, rfl, Below.refl _ _, trivial⟩ | exact ⟨_, rfl, Below.refl _ _⟩ | exact ⟨_, rfl, (Below.refl _ _).alloc (Nat.le_refl _) _, trivial⟩))
    · -- operation 37
      clear hgg; cases gg
      all_goals (refine owes_if (L := [(74, true), (77, true), (50, true)]) rfl rfl rfl rfl (by kernel_rfl) ?_; intro a' w' hb' hfacts; obtain ⟨hf74, hf77, hf50, -⟩ := hfacts; try simp only [VB,Bool.or_false,Bool.or_true,Bool.and_false,Bool.and_true,Bool.false_or,Bool.true_or,Bool.false_and,Bool.true_and,Bool.not_true,Bool.not_false,Bool.or_self,Bool.and_self] at hf74; try simp only [VB,Bool.or_false,Bool.or_true,Bool.and_false,Bool.and_true,Bool.false_or,Bool.true_or,Bool.false_and,Bool.true_and,Bool.not_true,Bool.not_false,Bool.or_self,Bool.and_self] at hf77; try simp only [VB,Bool.or_false,Bool.or_true,Bool.and_false,Bool.and_true,Bool.false_or,Bool.true_or,Bool.false_and,Bool.true_and,Bool.not_true,Bool.not_false,Bool.or_self,Bool.and_self] at hf50)
      all_goals obtain ⟨q0, q1, q2, q3, q4, q5⟩ := hload w' hb'
      all_goals first
        | (go_simp; first | exact ⟨_, rfl, Below.refl _ _, rfl⟩ | exact ⟨_, rfl, Below.refl _ _, trivial⟩ | exact ⟨_, rfl, Below.refl _ _⟩ | exact ⟨_, rfl, (Below.refl _ _).alloc (Nat.le_refl _) _, trivial⟩)
        | (apply Exists.intro
           apply And.intro
           · assumption
           · apply And.intro
             · intro hc
               first
                 | (refine absurd hc ?_; simp [undef]; done)
                 | (go_simp; first | exact ⟨_, rfl, Below.refl _ _, rfl⟩ | exact ⟨_, rfl, Below.refl _ _, trivial⟩ | exact ⟨_, rfl, Below.refl _ _⟩ | exact ⟨_, rfl, (Below.refl _ _).alloc (Nat.le_refl _) _, trivial⟩)
             · intro hc
               first | exact absurd rfl hc | exact trivial | exact rfl)
        | (apply Exists.intro
           apply And.intro
           · assumption
           · intro hc
             first
               | (refine absurd hc ?_; simp [undef]; done)
               | (go_simp; first | exact ⟨_, rfl, Below.refl _ _, rfl⟩ | exact ⟨_, rfl, Below.refl _ _, trivial⟩ | exact ⟨_, rfl, Below.refl _ _⟩ | exact ⟨_, rfl, (Below.refl _ _).alloc (Nat.le_refl _) _, trivial⟩))
    · -- operation 38
      (refine owes_val (L := [(50, true), (78, true)]) rfl rfl rfl (by kernel_rfl) ?_; intro a' w' hb' hfacts; obtain ⟨hf50, hf78, -⟩ := hfacts; try simp only [VB,Bool.or_false,Bool.or_true,Bool.and_false,Bool.and_true,Bool.false_or,Bool.true_or,Bool.false_and,Bool.true_and,Bool.not_true,Bool.not_false,Bool.or_self,Bool.and_self] at hf50; try simp only [VB,Bool.or_false,Bool.or_true,Bool.and_false,Bool.and_true,Bool.false_or,Bool.true_or,Bool.false_and,Bool.true_and,Bool.not_true,Bool.not_false,Bool.or_self,Bool.and_self] at hf78)
      obtain ⟨q0, q1, q2, q3, q4, q5⟩ := hload w' hb'
      first
        | (go_simp; first | exact ⟨_, rfl, Below.refl _ _, rfl⟩ | exact ⟨_, rfl, Below.refl _ _, trivial⟩ | exact ⟨_, rfl, Below.refl _ _⟩ | exact ⟨_, rfl, (Below.refl _ _).alloc (Nat.le_refl _) _, trivial⟩)
        | (apply Exists.intro
           apply And.intro
           · assumption
           · apply And.intro
             · intro hc
               first
                 | (refine absurd hc ?_; simp [undef]; done)
                 | (go_simp; first | exact ⟨_, rfl, Below.refl _ _, rfl⟩ | exact ⟨_, rfl, Below.refl _ _, trivial⟩ | exact ⟨_, rfl, Below.refl _ _⟩ | exact ⟨_, rfl, (Below.refl _ _).alloc (Nat.le_refl _) _, trivial⟩)
             · intro hc
               first | exact absurd rfl hc | exact trivial | exact rfl)
        | (apply Exists.intro
           apply And.intro
           · assumption
           · intro hc
             first
               | (refine absurd hc ?_; simp [undef]; done)
               | (go_simp; first | exact ⟨_, rfl, Below.refl _ _, rfl⟩ | exact ⟨_, rfl, Below.refl _ _, trivial⟩ | exact ⟨_, rfl, Below.refl _ _⟩ | exact ⟨_, rfl, (Below.refl _ _).alloc (Nat.le_refl _) _, trivial⟩))
  · intro f W3 hf hb3
    have f79 : f 79 = .bool false := hf 79 (by decide)
    have HB3 := Lib.hid (HBW.out.trans (hb3.mono HBW.out.size))
    clear hf hb3 k0 k1 k2 k3 k4 k5 HBW hc1 hc2 hc3 hc4 hgg hxa
    simp only [putAll, put_lit, List.map_cons, List.map_nil, List.set_cons_succ, List.set_cons_zero]
    simp only [f79]
    go_wp2_with fail
    refine (far_any 0 A ds c _ hl (HD.out.below HB3.out)).mono ?_
    rintro e w4 ⟨rfl, hb4⟩
    have HB4 := Lib.hid (HB3.out.trans (hb4.mono HB3.out.size))
    clear hb4
    obtain ⟨R, hR⟩ : ∃ R, farF 0 ds = R := ⟨_, rfl⟩
    rw [hR]
    cases R with
    | true =>
      go_wp2
      go_ret
      exact ⟨rfl, HB4.out⟩
    | false =>
      go_wp2_with fail
      refine (New_any (some ⟨w4.heap.size, 0, none⟩) (m0 p) 2 _ (m0_at p w4 _) (m0_ok p hp).fits (by simp [m0])).mono ?_
      rintro e w5 ⟨rfl, ro5, hs5, hfr5, hb5⟩
      rw [m0_load p hp] at hs5
      have hf5 : ∀ x, foot (w4.alloc (.cells #[.int .u8 97, .int .i64 p, .int .u8 122, .int .i64 ((p : Int) + 1)] 33)).heap.size ro5 x → w.heap.size ≤ x ∧ x < w5.heap.size := by
        intro x hx
        have h1 := HB4.out.size
        rcases hx with rfl | h
        · exact ⟨by simp; omega, hs5.lt⟩
        · have := hfr5 x h.symm; simp at this; exact ⟨by omega, hs5.map_lt h.symm⟩
      have HS5 := Lib.hid hs5
      have HF5 := Lib.hid hf5
      have HB5 := Lib.hid ((HB4.out.alloc HB4.out.size _).trans (hb5.mono (by have := HB4.out.size; simp; omega)))
      clear hs5 hfr5 hb5 hf5
      generalize hbk : (w4.alloc (.cells #[.int .u8 97, .int .i64 p, .int .u8 122, .int .i64 ((p : Int) + 1)] 33)).heap.size = b5 at *
      clear hbk
      go_wp2_with fail
      refine (New_any (some ⟨w5.heap.size, 0, none⟩) (m0 p) 2 _ (m0_at p w5 _) (m0_ok p hp).fits (by simp [m0])).mono ?_
      rintro e w6 ⟨rfl, ro6, hs6, hfr6, hb6⟩
      rw [m0_load p hp] at hs6
      have hf6 : ∀ x, foot (w5.alloc (.cells #[.int .u8 97, .int .i64 p, .int .u8 122, .int .i64 ((p : Int) + 1)] 33)).heap.size ro6 x → w5.heap.size ≤ x ∧ x < w6.heap.size := by
        intro x hx
        rcases hx with rfl | h
        · exact ⟨by simp, hs6.lt⟩
        · have := hfr6 x h.symm; simp at this; exact ⟨by omega, hs6.map_lt h.symm⟩
      have HS6 := Lib.hid hs6
      have HF6 := Lib.hid hf6
      have hb6' : Below w5.heap.size w5 w6 := ((Below.refl _ _).alloc (Nat.le_refl _) _).trans (hb6.mono (by simp))
      have HS56 := Lib.hid (HS5.out.below hb6')
      have HB6 := Lib.hid (HB5.out.trans (hb6'.mono HB5.out.size))
      have h56 := hb6'.size
      clear hs6 hfr6 hb6 hf6 hb6'
      generalize hbk : (w5.alloc (.cells #[.int .u8 97, .int .i64 p, .int .u8 122, .int .i64 ((p : Int) + 1)] 33)).heap.size = b6 at *
      clear hbk
      have hpos : ∀ d ∈ ds, (Lit.int .i64 d.pos).wf = true := fun d hd => (HOK.out d hd).1
      have hm0 : ∀ x ∈ m0 p, (Lit.int .i64 x.2).wf = true := fun x hx => ((m0_ok p hp).2 x hx).2
      have hAw : ∀ ad, A = some ad → ds ≠ [] → ad.block < w.heap.size := by
        intro ad e hne
        rcases HD.out with h | ⟨a', rfl, hl', -⟩
        · exact absurd h hne
        · cases e; exact hl'
      go_wp2_with fail
      refine (Move_any b5 ro5 (m0 p) A ds c _ HS56.out hl (HD.out.below HB6.out) ?_ (fun x hx => moved_wf ds hpos _ (hm0 x hx))).mono ?_
      · by_cases he : ds = []
        · exact .inl he
        · exact .inr fun ad e _ hf => by have := (HF5.out _ hf).1; have := hAw ad e he; omega
      rintro e w7 ⟨rfl, hs7, hc7⟩
      have HS7 := Lib.hid hs7
      have h67 := hc7.size
      have HS67 : Hid (IsSet w7 b6 ro6 (m0 p)) := HS6.out.kept hc7 (fun x h6 h5 => by have := (HF5.out x h5).2; have := (HF6.out x h6).1; omega)
      have HB7 := Lib.hid (HB6.out.trans (hc7.below_le HB6.out.size (fun x h => (HF5.out x h).1)))
      clear hs7 hc7
      go_wp2_with fail
      go_loopw [101] (fun i wr => ∃ k : Nat, k ≤ ds.length ∧ i = .int .i64 k ∧ IsSet wr b6 ro6 (moveL (fun x => moved x (ds.take k)) (m0 p)) ∧ Chg (foot b6 ro6) w7 wr) (fun i _ => ds.length - (intOf i).toNat)
      case atStart => exact ⟨0, Nat.zero_le _, rfl, by rw [List.take_zero, move_zero]; exact HS67.out, Chg.refl _ _⟩
      case round =>
        obtain ⟨k, hk, rfl, hset, hch⟩ := hrel
        by_cases hlt : k < ds.length
        · have hdr : DlsAt wr A ds := (HD.out.below HB7.out).kept hch (.inr fun ad e hl' hf => by
            have := (HF6.out _ hf).1
            have := hAw ad e (by intro h; subst h; simp at hlt)
            have := HB5.out.size
            omega)
          obtain h | ⟨ad, rfl, hAl, hx⟩ := hdr
          · subst h; simp at hlt
          obtain ⟨q0, q1, q2⟩ := hx k hlt
          have hmem : ds[k] ∈ ds := List.getElem_mem hlt
          have hst := move_step ds k hlt (m0 p)
          have hwq : ∀ x ∈ moveL (fun x => moved x (ds.take k)) (m0 p), (Lit.int .i64 (moved x.2 [ds[k]])).wf = true :=
            moveL_wf _ _ (fun z => (Lit.int .i64 (moved z [ds[k]])).wf = true) (fun x hx => moved_wf _ (by intro d hd; simp at hd; subst hd; exact hpos _ hmem) _ (moved_wf _ (fun d hd => hpos d (List.mem_of_mem_take hd)) _ (hm0 x hx)))
          have HX' := Lib.hid hx
          have HST := Lib.hid hst
          have HWQ := Lib.hid hwq
          have HSet := Lib.hid hset
          have HCH := Lib.hid hch
          clear hx hst hwq hset hch
          generalize hdk : ds[k] = D at *
          go_wp2_with fail
          have h7r := HCH.out.size
          refine (Move_any b6 ro6 _ (some ⟨wr.heap.size + 1, 0, none⟩) [D] 1 _ ?_ (by simp) ?_ ?_ HWQ.out).mono ?_
          · exact HSet.out.below (((Below.refl _ _).alloc (Nat.le_refl _) _).alloc (by simp) _)
          · have := dlsAt_new (wr.alloc (.cells #[.int .i64 D.pos, .string D.out, .string D.inn] 29)) D 29
            simpa using this
          · refine .inr fun ad' e _ hf => ?_
            cases e
            have := (HF6.out _ hf).2
            simp at this
            omega
          rintro e w8 ⟨rfl, hs8, hc8⟩
          rw [HST.out] at hs8
          have HS8 := Lib.hid hs8
          have HC8 : Hid (Chg (foot b6 ro6) w7 w8) := HCH.out.trans ((Chg.of_below (((Below.refl _ _).alloc (Nat.le_refl _) _).alloc (by simp) _) : Chg (foot b6 ro6) wr _).trans hc8 (fun x _ h => h)) (fun x _ h => h)
          clear hs8 hc8
          go_wp2
          exact ⟨⟨k + 1, by omega, by go_num, HS8.out, HC8.out⟩, by simp [intOf]; omega⟩
        · have e : ds.take k = ds := List.take_of_length_le (by omega)
          rw [e] at hset
          have HS8 := Lib.hid hset
          have HS78 : Hid (IsSet wr b5 ro5 (moveL (fun x => moved x ds) (m0 p))) := HS7.out.kept hch (fun x h5 h6 => by have := (HF5.out x h5).2; have := (HF6.out x h6).1; omega)
          have HB8 := Lib.hid (HB7.out.trans (hch.below_le HB7.out.size (fun x h => by have := (HF6.out x h).1; have := HB5.out.size; omega)))
          have HGet : Hid (getE (moveL (fun x => moved x ds) (m0 p)) 97 = (moved p ds, 0)) := by
            show _ = _
            simp [getE, moveL, m0, get, good]
          clear hset hch e
          generalize moveL (fun x => moved x ds) (m0 p) = LL at *
          go_wp2_with fail
          refine (Get_any b5 ro5 LL 97 _ (by decide) HS78.out).mono ?_
          rintro e w9 ⟨rfl, rfl⟩
          rw [HGet.out]
          go_wp2_with fail
          refine (Moved_any p A ds c _ hl (HD.out.below HB8.out)).mono ?_
          rintro e w10 ⟨rfl, hb10⟩
          have HB10 := Lib.hid (HB8.out.trans (hb10.mono HB8.out.size))
          have HSa := Lib.hid (HS78.out.below hb10)
          have HSb := Lib.hid (HS8.out.below hb10)
          clear hb10 HS78 HS8 HB8
          go_wp2_with fail
          refine (All_any b5 ro5 LL _ HSa.out).mono ?_
          rintro e w11 ⟨v, rfl, hrow, hb11⟩
          obtain ⟨A11, c11, rfl⟩ := row_form hrow
          have HM11 := Lib.hid (MksAt.of_row hrow)
          have HSb11 := Lib.hid (HSb.out.below hb11)
          have HB11 := Lib.hid (HB10.out.trans (hb11.mono HB10.out.size))
          have hle : LL.length ≤ 59 := HSa.out.ok.length
          clear hrow hb11 HSa HSb HB10
          go_wp2_with fail
          refine (All_any b6 ro6 LL _ HSb11.out).mono ?_
          rintro e w12 ⟨v, rfl, hrow, hb12⟩
          obtain ⟨A12, c12, rfl⟩ := row_form hrow
          have HM12 := Lib.hid (MksAt.of_row hrow)
          have HM11' := Lib.hid (HM11.out.below hb12)
          have HB12 := Lib.hid (HB11.out.trans (hb12.mono HB11.out.size))
          clear hrow hb12 HSb11 HM11 HB11
          go_wp2_with fail
          refine (Same_any A11 A12 LL LL c11 c12 _ HM11'.out HM12.out (by omega) (by omega)).mono ?_
          rintro e w13 ⟨rfl, hb13⟩
          have HB13 := Lib.hid (HB12.out.trans (hb13.mono HB12.out.size))
          clear hb13
          rw [show decide (LL = LL) = true by simp]
          go_wp2
          go_ret
          exact ⟨ret_bool (by simp), HB13.out⟩

set_option maxRecDepth 100000 in
theorem calls_MarksBack {H : Type} {enc : TypeId × Value → H} {W : World} {base : Nat} {laid : List (String × DataW Unit)} {v0 v1 v2 v3 v4 : Value} {d0 d1 d2 d3 d4 : DataW H} {p0 p1 p2 p3 p4 : List MemPlace} (hL : laidMetH Tryd.prog laid W)
    (o0 : Value.okWide Tryd.prog W .any base 27 v0) (h0 : DataW.Trod enc Tryd.prog W 0 (fun _ => true) true 27 v0 d0 p0) (w0 : ∀ n ∈ d0.weights Tryd.prog 27, n ≤ reachBytes)
    (o1 : Value.okWide Tryd.prog W .any base 27 v1) (h1 : DataW.Trod enc Tryd.prog W 0 (fun _ => true) true 27 v1 d1 p1) (w1 : ∀ n ∈ d1.weights Tryd.prog 27, n ≤ reachBytes)
    (o2 : Value.okWide Tryd.prog W .any base 9 v2) (h2 : DataW.Trod enc Tryd.prog W 0 (fun _ => true) true 9 v2 d2 p2) (w2 : ∀ n ∈ d2.weights Tryd.prog 9, n ≤ reachBytes)
    (o3 : Value.okWide Tryd.prog W .any base 9 v3) (h3 : DataW.Trod enc Tryd.prog W 0 (fun _ => true) true 9 v3 d3 p3) (w3 : ∀ n ∈ d3.weights Tryd.prog 9, n ≤ reachBytes)
    (o4 : Value.okWide Tryd.prog W .any base 22 v4) (h4 : DataW.Trod enc Tryd.prog W 0 (fun _ => true) true 22 v4 d4 p4) (w4 : ∀ n ∈ d4.weights Tryd.prog 22, n ≤ reachBytes) :
    Calls Tryd.prog 6 #[v0, v1, v2, v3, v4] W fun e W' => e = .returned (.bool true) ∧ Below W.heap.size W W' := by
  obtain ⟨x0, rfl, rfl, rfl, hx0⟩ := open_int Tryd.underlying27 o0 h0
  obtain ⟨x1, rfl, rfl, rfl, hx1⟩ := open_int Tryd.underlying27 o1 h1
  obtain ⟨s, rfl, rfl, rfl, -⟩ := open_string Tryd.underlying9 o2 h2
  obtain ⟨t, rfl, rfl, rfl, -⟩ := open_string Tryd.underlying9 o3 h3
  obtain ⟨A, ds, c, rfl, hd, hl, hc, hok⟩ := open_deltas h4 (by obtain ⟨a, l, c, rfl⟩ := okWide_slice Tryd.underlying22 o4; rfl) w4
  obtain ⟨n0, rfl, hn0⟩ := u16_nat hx0
  obtain ⟨n1, rfl, hn1⟩ := u16_nat hx1
  exact back_walk n0 n1 s t A ds c W hn0 hn1 (reach_le w2) (reach_le w3) hd (by unfold reachBytes at hc; omega) hok
end Go.Proofs.YtdkdnkmfjpdcpaaDoor.Mk
