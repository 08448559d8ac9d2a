/-
  What the proof of the laws S rests on: the texts RfH. Conditions: each theorem names its own.
-/
import Derived.Test.YtfchglcclgcgfaaGreatDoorMgSq
import Derived.Test.YtfchglcclgcgfaaGreatDoorMgSr
import Derived.Deep.DeepCutAuto
/-
 bodkinref03.List: what it answers. No condition.
-/
namespace Go.Proofs.YtfchglcclgcgfaaGreatDoor.Ut
open Go.RowKit Go.Proofs.YtfchglcclgcgfaaGreatDoor.Reg
set_option linter.unusedVariables false
set_option linter.unusedSimpArgs false

theorem infoCluster : (Tryz.prog.info? 99).map (fun i => (i.zero, i.size, i.bytes)) = some (some (.agg #[.int .i64 0, .int .i64 0, .int .i64 0, .int .i64 0]), 4, 32) := by kernel_rfl
def four (q : Int × Int × Int × Int) : List Value := [.int .i64 q.1, .int .i64 q.2.1, .int .i64 q.2.2.1, .int .i64 q.2.2.2]
def cellsC (l : List (Int × Int × Int × Int)) : List Value := l.flatMap four
theorem cellsC_app (l : List (Int × Int × Int × Int)) (q : Int × Int × Int × Int) : cellsC (l ++ [q]) = cellsC l ++ four q := by unfold cellsC; rw [List.flatMap_append]; simp
theorem cellsC_len : ∀ l : List (Int × Int × Int × Int), (cellsC l).length = l.length * 4
 | [] => rfl
 | x :: r => by
  have e : cellsC (x :: r) = four x ++ cellsC r := rfl
  rw [e, List.length_append, cellsC_len r, List.length_cons]; simp [four]; omega
theorem cellsU_at (s : ByteArray) : ∀ (l : List Nat) (k : Nat) (h : k < l.length), (cellsU s l)[k * 2]? = some (.int .i32 (chA s l[k])) ∧ (cellsU s l)[k * 2 + 1]? = some (.int .i64 (sz (from_ s l[k])))
 | x :: r, 0, _ => ⟨rfl, rfl⟩
 | x :: r, k + 1, h => by
  have := cellsU_at s r k (by simpa using h)
  have e : cellsU s (x :: r) = .int .i32 (chA s x) :: .int .i64 (sz (from_ s x)) :: cellsU s r := rfl
  rw [e, show (k + 1) * 2 = k * 2 + 1 + 1 by omega]
  simpa using this
/-- The row of units, as the loop reads it. -/
def UnitsAt (W : World) (s : ByteArray) (A : Option Addr) (U : List Nat) : Prop := ∀ k (h : k < U.length), ∃ g, A = some ⟨g, 0, none⟩ ∧ g < W.heap.size ∧ W.cell? ⟨g, k * 2, none⟩ = some (.int .i32 (chA s U[k])) ∧ W.cell? ⟨g, k * 2 + 1, none⟩ = some (.int .i64 (sz (from_ s U[k])))
theorem UnitsAt.below {W W' : World} {s : ByteArray} {A : Option Addr} {U : List Nat} (h : UnitsAt W s A U) (hb : Below W.heap.size W W') : UnitsAt W' s A U := fun k hk => by
 obtain ⟨g, h1, h2, h3, h4⟩ := h k hk
 exact ⟨g, h1, Nat.lt_of_lt_of_le h2 hb.size, (hb.cell (p := ⟨g, k * 2, none⟩) h2).trans h3, (hb.cell (p := ⟨g, k * 2 + 1, none⟩) h2).trans h4⟩
theorem units_at {W : World} {base n c : Nat} {s : ByteArray} {A : Option Addr} {U : List Nat} (h : W.ownsRow base 137 2 (.slice A n c) n (cellsU s U)) (hn : n = U.length) : UnitsAt W s A U := by
 subst hn
 intro k hk
 obtain ⟨g, c', he, -, -⟩ := h.form (by omega)
 obtain ⟨rfl, rfl⟩ : A = some ⟨g, 0, none⟩ ∧ c = c' := by simpa using he
 have e0 := (h.cellAt (k * 2) (by omega)).trans (cellsU_at s U k hk).1
 have e1 := (h.cellAt (k * 2 + 1) (by omega)).trans (cellsU_at s U k hk).2
 exact ⟨g, rfl, World.block_lt_of_cell? W _ e0, e0, e1⟩

theorem row_four {W : World} {base n cap gb M : Nat} {xs pre : List Value} {q : Int × Int × Int × Int} (h : W.ownsRow base 99 4 (.slice (some ⟨gb, 0, none⟩) n cap) n xs) (hx : xs = pre ++ four q) (hp : pre.length = M * 4) (q' : Int × Int × Int × Int) :
  (((W.setCell ⟨gb, M * 4, none⟩ (.int .i64 q'.1)).setCell ⟨gb, M * 4 + 1, none⟩ (.int .i64 q'.2.1)).setCell ⟨gb, M * 4 + 2, none⟩ (.int .i64 q'.2.2.1)).setCell ⟨gb, M * 4 + 3, none⟩ (.int .i64 q'.2.2.2) |>.ownsRow base 99 4 (.slice (some ⟨gb, 0, none⟩) n cap) n (pre ++ four q') := by
 have h4 := ((((h.stored (M * 4) (.int .i64 q'.1)).1.stored (M * 4 + 1) (.int .i64 q'.2.1)).1.stored (M * 4 + 2) (.int .i64 q'.2.2.1)).1.stored (M * 4 + 3) (.int .i64 q'.2.2.2)).1
 have e : ((((xs.set (M * 4) (.int .i64 q'.1)).set (M * 4 + 1) (.int .i64 q'.2.1)).set (M * 4 + 2) (.int .i64 q'.2.2.1)).set (M * 4 + 3) (.int .i64 q'.2.2.2)) = pre ++ four q' := by
  rw [hx]
  simp [List.set_append, hp, four]
 rw [e] at h4
 exact h4
theorem four_chg (W : World) (gb j : Nat) (a b c d : Value) : Chg (fun x => x = gb) W ((((W.setCell ⟨gb, j, none⟩ a).setCell ⟨gb, j + 1, none⟩ b).setCell ⟨gb, j + 2, none⟩ c).setCell ⟨gb, j + 3, none⟩ d) :=
 (((Chg.set W ⟨gb, j, none⟩ _).trans (Chg.set _ ⟨gb, j + 1, none⟩ _) (fun _ _ h => h)).trans (Chg.set _ ⟨gb, j + 2, none⟩ _) (fun _ _ h => h)).trans (Chg.set _ ⟨gb, j + 3, none⟩ _) (fun _ _ h => h)
def VLs7 (n c k m g : Nat) (u z v y : Int) (R : Bool) : Nat → Value → World → Prop := fun d x w => match d with
 | 17 => x = .int .i64 k
 | 18 => x = .bool true
 | 19 => x = .bool true
 | 20 => x = .slice (some ⟨g, 0, none⟩) n c
 | 21 => x = .int .i64 k
 | 22 => x = .int .i64 m
 | 23 => x = .pointer (some ⟨g, m * 2, none⟩)
 | 24 => x = .agg #[.int .i32 u, .int .i64 z]
 | 25 => x = .slice (some ⟨g, 0, none⟩) n c
 | 26 => x = .int .i64 k
 | 27 => x = .pointer (some ⟨g, k * 2, none⟩)
 | 28 => x = .agg #[.int .i32 v, .int .i64 y]
 | 29 => x = .bool R
 | 30 => x = .bool R
 | _ => True
theorem VLs7_mono (n c k m g : Nat) (u z v y : Int) (R : Bool) : ∀ d x w w', VLs7 n c k m g u z v y R d x w → Below w.heap.size w w' → VLs7 n c k m g u z v y R d x w' := by
 exact fun _ _ _ _ h _ => h
def VLs7a (n c k : Nat) (A : Option Addr) : Nat → Value → World → Prop := fun d x w => match d with
 | 17 => x = .int .i64 k
 | 18 => x = .bool false
 | 19 => x = .bool false
 | 20 => True
 | 21 => True
 | 22 => True
 | 23 => True
 | 24 => True
 | 25 => True
 | 26 => True
 | 27 => True
 | 28 => True
 | 29 => True
 | 30 => x = .bool false
 | _ => True
theorem VLs7a_mono (n c k : Nat) (A : Option Addr) : ∀ d x w w', VLs7a n c k A d x w → Below w.heap.size w w' → VLs7a n c k A d x w' := by
 exact fun _ _ _ _ h _ => h
def VLs15 (n0 n c k g : Nat) (Uo : Value) (a z v : Int) : Nat → Value → World → Prop := fun d x w => match d with
 | 64 => x = Uo
 | 65 => x = .int .i64 a
 | 66 => x = .int .i64 a
 | 67 => x = .slice (some ⟨g, 0, none⟩) n c
 | 68 => x = .int .i64 k
 | 69 => x = .pointer (some ⟨g, k * 2, none⟩)
 | 70 => x = .pointer (some ⟨g, k * 2 + 1, none⟩)
 | 71 => x = .int .i64 z
 | 72 => x = .int .i64 (a + z)
 | 73 => x = .int .i32 v
 | 74 => x = .int .i64 (classF v)
 | 75 => x = .int .i32 v
 | 76 => x = .int .i64 (cellsF v)
 | 77 => x = .agg #[.int .i64 a, .int .i64 (a + z), .int .i64 (classF v), .int .i64 (cellsF v)]
 | 78 => ∃ b, x = .slice (some ⟨b, 0, none⟩) 1 1 ∧ n0 ≤ b ∧ Lies w b [.int .i64 a, .int .i64 (a + z), .int .i64 (classF v), .int .i64 (cellsF v)]
 | 79 => True
 | 3 => True
 | _ => True
theorem VLs15_mono (n0 n c k g : Nat) (Uo : Value) (a z v : Int) : ∀ d x w w', VLs15 n0 n c k g Uo a z v d x w → Below w.heap.size w w' → VLs15 n0 n c k g Uo a z v d x w' := by
 intro d x w w' h hb
 unfold VLs15 at *
 split <;> first | exact h | exact trivial | skip
 obtain ⟨b, h1, h2, h3⟩ := h
 exact ⟨b, h1, h2, h3.below hb⟩
set_option maxRecDepth 100000 in
set_option maxHeartbeats 4000000 in
theorem RefList_any (s : ByteArray) (w : World) (hs : s.size ≤ 1073741824) :
  Calls Tryz.prog 118 #[.string s] w fun e w' => ∃ v, e = .returned v ∧ w'.ownsRow w.heap.size 99 4 v (Lst s s.size).length (cellsC (Lst s s.size)) ∧ Below w.heap.size w w' := by
 go_enter Tryz.func118, Tryz.ntmps118
 go_wp2_with fail
 refine (RefUnits_any s w hs).mono ?_
 rintro e w1 ⟨uv, rfl, hown, hb⟩
 obtain ⟨A, c, rfl⟩ := row_forma hown
 have HU := Lib.hid (units_at hown rfl)
 have HB1 := Lib.hid hb
 have hul := unAts_len s s.size 0 (by omega)
 obtain ⟨U, hU⟩ : ∃ U, unAts s 0 = U := ⟨_, rfl⟩
 rw [hU] at HU hul ⊢
 have HUU := Lib.hid hU
 clear hown hb hU
 go_wp2
 go_loopw [3, 5, 6] (fun q a b wr => ∃ (pre : List Nat) (x : Nat), x ≤ s.size ∧ boundF s x = true ∧ pre.length ≤ x ∧ pre ++ unAts s x = U ∧ (∀ p r, pre = r ++ [p] → up s p = x ∧ p < s.size ∧ boundF s p = true) ∧ (pre = [] → x = 0) ∧ a = .int .i64 x ∧ b = .int .i64 pre.length ∧ wr.ownsRow w1.heap.size 99 4 q (Lst s x).length (cellsC (Lst s x)) ∧ Below w1.heap.size w1 wr) (fun _ _ b _ => U.length - (intOf b).toNat)
 case atStart => exact ⟨[], 0, Nat.zero_le _, bound_zero s, Nat.le_refl _, HUU.out, fun p r h => by simp at h, fun _ => rfl, rfl, rfl, World.ownsRow_nil _ _ _ _, Below.refl _ _⟩
 case round =>
  obtain ⟨pre, x, hx, hbx, hpl, hpre, hprev, hnil, rfl, rfl, hown, hb⟩ := hrel
  have HO := Lib.hid hown
  have HB := Lib.hid hb
  by_cases hlt : x < s.size
  ·have hst := unAts_step hlt
   rw [hst] at hpre
   have hUl : pre.length < U.length := by rw [← hpre]; simp
   have hUx : U[pre.length] = x := by simp [← hpre]
   have HUr := Lib.hid (HU.out.below hb)
   obtain ⟨g, rfl, hgl, u0, u1⟩ := HUr.out pre.length hUl
   rw [hUx] at u0 u1
   have hg1 : g < w1.heap.size := by
    obtain ⟨g', he, h1, -⟩ := HU.out pre.length hUl
    simp at he; omega
   have hgt := up_gt hlt
   have hle := up_le (s := s) (j := x) (by omega)
   have hupz : up s x = x + sz (from_ s x) := rfl
   have hz4 := sz_le4 (from_ s x)
   have HP : Hid ((pre ++ [x]) ++ unAts s (up s x) = U) := by show _ = _; rw [List.append_assoc]; exact hpre
   have hbu := bound_up s hlt hbx
   have HF : Hid (∀ (q : Value) (w3 : World), w3.ownsRow w1.heap.size 99 4 q (Lst s (up s x)).length (cellsC (Lst s (up s x))) → Below w1.heap.size w1 w3 →
     ∃ (pre' : List Nat) (x' : Nat), x' ≤ s.size ∧ boundF s x' = true ∧ pre'.length ≤ x' ∧ pre' ++ unAts s x' = U ∧ (∀ p r, pre' = r ++ [p] → up s p = x' ∧ p < s.size ∧ boundF s p = true) ∧ (pre' = [] → x' = 0) ∧ Value.int .i64 ((x : Int) + sz (from_ s x)) = .int .i64 x' ∧ Value.int .i64 ((pre.length : Int) + 1) = .int .i64 pre'.length ∧ w3.ownsRow w1.heap.size 99 4 q (Lst s x').length (cellsC (Lst s x')) ∧ Below w1.heap.size w1 w3) :=
    fun q w3 h1 h2 => ⟨pre ++ [x], up s x, hle, hbu, by rw [List.length_append]; simp; omega, HP.out, fun p r h => by
     have := List.append_inj' h rfl
     simp at this
     obtain ⟨-, rfl⟩ := this
     exact ⟨rfl, hlt, hbx⟩, fun h => by simp at h, by rw [hupz]; go_num, by rw [List.length_append]; go_num, h1, h2⟩
   have hkI : (pre.length : Int) < (U.length : Int) := by omega
   have hk0 : (0 : Int) ≤ (pre.length : Int) := by omega
   have hLl := Lst_len s x
   have G0 := Lib.hid u0
   have G1 := Lib.hid u1
   have hUs : U.length ≤ 1073741824 := by omega
   have hC : ch (from_ s x) = chA s x := rfl
   obtain ⟨k, hk⟩ : ∃ k, pre.length = k := ⟨_, rfl⟩
   rw [hk] at HF G0 G1 hkI hk0 hpl hUl ⊢
   obtain ⟨Z, hZ⟩ : ∃ Z, sz (from_ s x) = Z := ⟨_, rfl⟩
   rw [hZ] at HF G1 hupz hz4
   clear u0 u1 hUx hst hown hb
   by_cases hk0' : k = 0
   ·have hx0 := hnil (List.eq_nil_of_length_eq_zero (by omega))
    have hnew := Lst_new s hlt (by rw [hx0]; exact clB_zero s)
    have hkz : ¬ (0 : Int) < (k : Int) := by omega
    obtain ⟨C, hCC⟩ : ∃ C, chA s x = C := ⟨_, rfl⟩
    rw [hCC] at G0 hnew
    have HN := Lib.hid hnew
    have HZ := Lib.hid hupz
    have HX0 := Lib.hid hx0
    clear hnew hupz hx0 hk0' hk hpre hprev hnil HP hC hCC hZ
    go_wp2
    refine wp_held' mixed (VLs7a U.length c k (some ⟨g, 0, none⟩)) (VLs7a_mono _ _ _ _) (by kernel_rfl) [17, 18, 19, 20, 21, 22, 23, 24, 25, 26, 27, 28, 29, 30] (by kernel_rfl) (by kernel_rfl) ?_ ?_
    ·intro j hj
     have hj' : j < 14 := hj
     rcases (by omega : j = 0 ∨ j = 1 ∨ j = 2 ∨ j = 3 ∨ j = 4 ∨ j = 5 ∨ j = 6 ∨ j = 7 ∨ j = 8 ∨ j = 9 ∨ j = 10 ∨ j = 11 ∨ j = 12 ∨ j = 13) with rfl | rfl | rfl | rfl | rfl | rfl | rfl | rfl | rfl | rfl | rfl | rfl | rfl | rfl
     ·(refine owes_val (L := [(6, false)]) rfl rfl rfl (by kernel_rfl) ?_; intro a' w' hb' hfacts; obtain ⟨hf6, -⟩ := hfacts; replace hf6 : a'.tmps[6]?.getD undef = .int .i64 k := hf6)
      (go_simp; first | exact ⟨_, rfl, Br _, rfl⟩ | exact ⟨_, rfl, Br _, trivial⟩ | exact ⟨_, rfl, Ba _ _, trivial⟩ | exact ⟨_, rfl, Br _, congrArg (Value.int _) (IntWalk.i64_in _ (by omega))⟩)
     ·(refine owes_val (L := [(17, true)]) rfl rfl rfl (by kernel_rfl) ?_; intro a' w' hb' hfacts; obtain ⟨hf17, -⟩ := hfacts; try simp only [VLs7a] at hf17)
      go_simp
      exact ⟨_, rfl, Below.refl _ _, by show Value.bool (decide (0 < k)) = .bool false; rw [decide_eq_false (by omega)]⟩
     ·(refine owes_val (L := [(18, true)]) rfl rfl rfl (by kernel_rfl) ?_; intro a' w' hb' hfacts; obtain ⟨hf18, -⟩ := hfacts; try simp only [VLs7a] at hf18)
      (go_simp; first | exact ⟨_, rfl, Br _, rfl⟩ | exact ⟨_, rfl, Br _, trivial⟩ | exact ⟨_, rfl, Ba _ _, trivial⟩ | exact ⟨_, rfl, Br _, congrArg (Value.int _) (IntWalk.i64_in _ (by omega))⟩)
     ·(refine owes_if (L := [(4, false), (19, true)]) rfl rfl rfl rfl (by kernel_rfl) ?_; intro a' w' hb' hfacts; obtain ⟨hf4, hf19, -⟩ := hfacts; replace hf4 : a'.tmps[4]?.getD undef = .slice (some ⟨g, 0, none⟩) U.length c := hf4; try simp only [VLs7a] at hf19)
      first | (go_simp; first | exact ⟨_, rfl, Br _, rfl⟩ | exact ⟨_, rfl, Br _, trivial⟩ | exact ⟨_, rfl, Br _⟩ | exact ⟨_, rfl, Ba _ _, trivial⟩) | (apply Exists.intro; apply And.intro; assumption; apply And.intro; (intro hc; first | exact absurd hc (by simp [undef]) | (go_simp; first | exact ⟨_, rfl, Br _, rfl⟩ | exact ⟨_, rfl, Br _, trivial⟩ | exact ⟨_, rfl, Br _⟩ | exact ⟨_, rfl, Ba _ _, trivial⟩)); (intro hc; first | exact absurd rfl hc | exact trivial | exact rfl)) | (apply Exists.intro; apply And.intro; assumption; intro hc; first | exact absurd hc (by simp [undef]) | (go_simp; first | exact ⟨_, rfl, Br _, rfl⟩ | exact ⟨_, rfl, Br _, trivial⟩ | exact ⟨_, rfl, Br _⟩ | exact ⟨_, rfl, Ba _ _, trivial⟩))
     ·(refine owes_if (L := [(6, false), (19, true)]) rfl rfl rfl rfl (by kernel_rfl) ?_; intro a' w' hb' hfacts; obtain ⟨hf6, hf19, -⟩ := hfacts; replace hf6 : a'.tmps[6]?.getD undef = .int .i64 k := hf6; try simp only [VLs7a] at hf19)
      first | (go_simp; first | exact ⟨_, rfl, Br _, rfl⟩ | exact ⟨_, rfl, Br _, trivial⟩ | exact ⟨_, rfl, Br _⟩ | exact ⟨_, rfl, Ba _ _, trivial⟩) | (apply Exists.intro; apply And.intro; assumption; apply And.intro; (intro hc; first | exact absurd hc (by simp [undef]) | (go_simp; first | exact ⟨_, rfl, Br _, rfl⟩ | exact ⟨_, rfl, Br _, trivial⟩ | exact ⟨_, rfl, Br _⟩ | exact ⟨_, rfl, Ba _ _, trivial⟩)); (intro hc; first | exact absurd rfl hc | exact trivial | exact rfl)) | (apply Exists.intro; apply And.intro; assumption; intro hc; first | exact absurd hc (by simp [undef]) | (go_simp; first | exact ⟨_, rfl, Br _, rfl⟩ | exact ⟨_, rfl, Br _, trivial⟩ | exact ⟨_, rfl, Br _⟩ | exact ⟨_, rfl, Ba _ _, trivial⟩))
     ·(refine owes_if (L := [(21, true), (19, true)]) rfl rfl rfl rfl (by kernel_rfl) ?_; intro a' w' hb' hfacts; obtain ⟨hf21, hf19, -⟩ := hfacts; try simp only [VLs7a] at hf21; try simp only [VLs7a] at hf19)
      first | (go_simp; first | exact ⟨_, rfl, Br _, rfl⟩ | exact ⟨_, rfl, Br _, trivial⟩ | exact ⟨_, rfl, Br _⟩ | exact ⟨_, rfl, Ba _ _, trivial⟩) | (apply Exists.intro; apply And.intro; assumption; apply And.intro; (intro hc; first | exact absurd hc (by simp [undef]) | (go_simp; first | exact ⟨_, rfl, Br _, rfl⟩ | exact ⟨_, rfl, Br _, trivial⟩ | exact ⟨_, rfl, Br _⟩ | exact ⟨_, rfl, Ba _ _, trivial⟩)); (intro hc; first | exact absurd rfl hc | exact trivial | exact rfl)) | (apply Exists.intro; apply And.intro; assumption; intro hc; first | exact absurd hc (by simp [undef]) | (go_simp; first | exact ⟨_, rfl, Br _, rfl⟩ | exact ⟨_, rfl, Br _, trivial⟩ | exact ⟨_, rfl, Br _⟩ | exact ⟨_, rfl, Ba _ _, trivial⟩))
     ·(refine owes_if (L := [(20, true), (22, true), (19, true)]) rfl rfl rfl rfl (by kernel_rfl) ?_; intro a' w' hb' hfacts; obtain ⟨hf20, hf22, hf19, -⟩ := hfacts; try simp only [VLs7a] at hf20; try simp only [VLs7a] at hf22; try simp only [VLs7a] at hf19)
      first | (go_simp; first | exact ⟨_, rfl, Br _, rfl⟩ | exact ⟨_, rfl, Br _, trivial⟩ | exact ⟨_, rfl, Br _⟩ | exact ⟨_, rfl, Ba _ _, trivial⟩) | (apply Exists.intro; apply And.intro; assumption; apply And.intro; (intro hc; first | exact absurd hc (by simp [undef]) | (go_simp; first | exact ⟨_, rfl, Br _, rfl⟩ | exact ⟨_, rfl, Br _, trivial⟩ | exact ⟨_, rfl, Br _⟩ | exact ⟨_, rfl, Ba _ _, trivial⟩)); (intro hc; first | exact absurd rfl hc | exact trivial | exact rfl)) | (apply Exists.intro; apply And.intro; assumption; intro hc; first | exact absurd hc (by simp [undef]) | (go_simp; first | exact ⟨_, rfl, Br _, rfl⟩ | exact ⟨_, rfl, Br _, trivial⟩ | exact ⟨_, rfl, Br _⟩ | exact ⟨_, rfl, Ba _ _, trivial⟩))
     ·(refine owes_if (L := [(23, true), (19, true)]) rfl rfl rfl rfl (by kernel_rfl) ?_; intro a' w' hb' hfacts; obtain ⟨hf23, hf19, -⟩ := hfacts; try simp only [VLs7a] at hf23; try simp only [VLs7a] at hf19)
      first | (go_simp; first | exact ⟨_, rfl, Br _, rfl⟩ | exact ⟨_, rfl, Br _, trivial⟩ | exact ⟨_, rfl, Br _⟩ | exact ⟨_, rfl, Ba _ _, trivial⟩) | (apply Exists.intro; apply And.intro; assumption; apply And.intro; (intro hc; first | exact absurd hc (by simp [undef]) | (go_simp; first | exact ⟨_, rfl, Br _, rfl⟩ | exact ⟨_, rfl, Br _, trivial⟩ | exact ⟨_, rfl, Br _⟩ | exact ⟨_, rfl, Ba _ _, trivial⟩)); (intro hc; first | exact absurd rfl hc | exact trivial | exact rfl)) | (apply Exists.intro; apply And.intro; assumption; intro hc; first | exact absurd hc (by simp [undef]) | (go_simp; first | exact ⟨_, rfl, Br _, rfl⟩ | exact ⟨_, rfl, Br _, trivial⟩ | exact ⟨_, rfl, Br _⟩ | exact ⟨_, rfl, Ba _ _, trivial⟩))
     ·(refine owes_if (L := [(4, false), (19, true)]) rfl rfl rfl rfl (by kernel_rfl) ?_; intro a' w' hb' hfacts; obtain ⟨hf4, hf19, -⟩ := hfacts; replace hf4 : a'.tmps[4]?.getD undef = .slice (some ⟨g, 0, none⟩) U.length c := hf4; try simp only [VLs7a] at hf19)
      first | (go_simp; first | exact ⟨_, rfl, Br _, rfl⟩ | exact ⟨_, rfl, Br _, trivial⟩ | exact ⟨_, rfl, Br _⟩ | exact ⟨_, rfl, Ba _ _, trivial⟩) | (apply Exists.intro; apply And.intro; assumption; apply And.intro; (intro hc; first | exact absurd hc (by simp [undef]) | (go_simp; first | exact ⟨_, rfl, Br _, rfl⟩ | exact ⟨_, rfl, Br _, trivial⟩ | exact ⟨_, rfl, Br _⟩ | exact ⟨_, rfl, Ba _ _, trivial⟩)); (intro hc; first | exact absurd rfl hc | exact trivial | exact rfl)) | (apply Exists.intro; apply And.intro; assumption; intro hc; first | exact absurd hc (by simp [undef]) | (go_simp; first | exact ⟨_, rfl, Br _, rfl⟩ | exact ⟨_, rfl, Br _, trivial⟩ | exact ⟨_, rfl, Br _⟩ | exact ⟨_, rfl, Ba _ _, trivial⟩))
     ·(refine owes_if (L := [(6, false), (19, true)]) rfl rfl rfl rfl (by kernel_rfl) ?_; intro a' w' hb' hfacts; obtain ⟨hf6, hf19, -⟩ := hfacts; replace hf6 : a'.tmps[6]?.getD undef = .int .i64 k := hf6; try simp only [VLs7a] at hf19)
      first | (go_simp; first | exact ⟨_, rfl, Br _, rfl⟩ | exact ⟨_, rfl, Br _, trivial⟩ | exact ⟨_, rfl, Br _⟩ | exact ⟨_, rfl, Ba _ _, trivial⟩) | (apply Exists.intro; apply And.intro; assumption; apply And.intro; (intro hc; first | exact absurd hc (by simp [undef]) | (go_simp; first | exact ⟨_, rfl, Br _, rfl⟩ | exact ⟨_, rfl, Br _, trivial⟩ | exact ⟨_, rfl, Br _⟩ | exact ⟨_, rfl, Ba _ _, trivial⟩)); (intro hc; first | exact absurd rfl hc | exact trivial | exact rfl)) | (apply Exists.intro; apply And.intro; assumption; intro hc; first | exact absurd hc (by simp [undef]) | (go_simp; first | exact ⟨_, rfl, Br _, rfl⟩ | exact ⟨_, rfl, Br _, trivial⟩ | exact ⟨_, rfl, Br _⟩ | exact ⟨_, rfl, Ba _ _, trivial⟩))
     ·(refine owes_if (L := [(25, true), (26, true), (19, true)]) rfl rfl rfl rfl (by kernel_rfl) ?_; intro a' w' hb' hfacts; obtain ⟨hf25, hf26, hf19, -⟩ := hfacts; try simp only [VLs7a] at hf25; try simp only [VLs7a] at hf26; try simp only [VLs7a] at hf19)
      first | (go_simp; first | exact ⟨_, rfl, Br _, rfl⟩ | exact ⟨_, rfl, Br _, trivial⟩ | exact ⟨_, rfl, Br _⟩ | exact ⟨_, rfl, Ba _ _, trivial⟩) | (apply Exists.intro; apply And.intro; assumption; apply And.intro; (intro hc; first | exact absurd hc (by simp [undef]) | (go_simp; first | exact ⟨_, rfl, Br _, rfl⟩ | exact ⟨_, rfl, Br _, trivial⟩ | exact ⟨_, rfl, Br _⟩ | exact ⟨_, rfl, Ba _ _, trivial⟩)); (intro hc; first | exact absurd rfl hc | exact trivial | exact rfl)) | (apply Exists.intro; apply And.intro; assumption; intro hc; first | exact absurd hc (by simp [undef]) | (go_simp; first | exact ⟨_, rfl, Br _, rfl⟩ | exact ⟨_, rfl, Br _, trivial⟩ | exact ⟨_, rfl, Br _⟩ | exact ⟨_, rfl, Ba _ _, trivial⟩))
     ·(refine owes_if (L := [(27, true), (19, true)]) rfl rfl rfl rfl (by kernel_rfl) ?_; intro a' w' hb' hfacts; obtain ⟨hf27, hf19, -⟩ := hfacts; try simp only [VLs7a] at hf27; try simp only [VLs7a] at hf19)
      first | (go_simp; first | exact ⟨_, rfl, Br _, rfl⟩ | exact ⟨_, rfl, Br _, trivial⟩ | exact ⟨_, rfl, Br _⟩ | exact ⟨_, rfl, Ba _ _, trivial⟩) | (apply Exists.intro; apply And.intro; assumption; apply And.intro; (intro hc; first | exact absurd hc (by simp [undef]) | (go_simp; first | exact ⟨_, rfl, Br _, rfl⟩ | exact ⟨_, rfl, Br _, trivial⟩ | exact ⟨_, rfl, Br _⟩ | exact ⟨_, rfl, Ba _ _, trivial⟩)); (intro hc; first | exact absurd rfl hc | exact trivial | exact rfl)) | (apply Exists.intro; apply And.intro; assumption; intro hc; first | exact absurd hc (by simp [undef]) | (go_simp; first | exact ⟨_, rfl, Br _, rfl⟩ | exact ⟨_, rfl, Br _, trivial⟩ | exact ⟨_, rfl, Br _⟩ | exact ⟨_, rfl, Ba _ _, trivial⟩))
     ·(refine owes_if (L := [(24, true), (28, true), (19, true)]) rfl rfl rfl rfl (by kernel_rfl) ?_; intro a' w' hb' hfacts; obtain ⟨hf24, hf28, hf19, -⟩ := hfacts; try simp only [VLs7a] at hf24; try simp only [VLs7a] at hf28; try simp only [VLs7a] at hf19)
      first | (go_simp; first | exact ⟨_, rfl, Br _, rfl⟩ | exact ⟨_, rfl, Br _, trivial⟩ | exact ⟨_, rfl, Br _⟩ | exact ⟨_, rfl, Ba _ _, trivial⟩) | (apply Exists.intro; apply And.intro; assumption; apply And.intro; (intro hc; first | exact absurd hc (by simp [undef]) | (go_simp; first | exact ⟨_, rfl, Br _, rfl⟩ | exact ⟨_, rfl, Br _, trivial⟩ | exact ⟨_, rfl, Br _⟩ | exact ⟨_, rfl, Ba _ _, trivial⟩)); (intro hc; first | exact absurd rfl hc | exact trivial | exact rfl)) | (apply Exists.intro; apply And.intro; assumption; intro hc; first | exact absurd hc (by simp [undef]) | (go_simp; first | exact ⟨_, rfl, Br _, rfl⟩ | exact ⟨_, rfl, Br _, trivial⟩ | exact ⟨_, rfl, Br _⟩ | exact ⟨_, rfl, Ba _ _, trivial⟩))
     ·(refine owes_val (L := [(19, true), (29, true)]) rfl rfl rfl (by kernel_rfl) ?_; intro a' w' hb' hfacts; obtain ⟨hf19, hf29, -⟩ := hfacts; try simp only [VLs7a] at hf19; try simp only [VLs7a] at hf29)
      (go_simp; first | exact ⟨_, rfl, Br _, rfl⟩ | exact ⟨_, rfl, Br _, trivial⟩ | exact ⟨_, rfl, Ba _ _, trivial⟩ | exact ⟨_, rfl, Br _, congrArg (Value.int _) (IntWalk.i64_in _ (by omega))⟩)
    ·intro f W7 hf hb7
     have f30 : f 30 = .bool false := hf 30 (by decide)
     have HGl : Hid (g < W7.heap.size) := Nat.lt_of_lt_of_le hgl hb7.size
     have G0 := Lib.hid ((hb7.cell (p := ⟨g, k * 2, none⟩) hgl).trans G0.out)
     have G1 := Lib.hid ((hb7.cell (p := ⟨g, k * 2 + 1, none⟩) hgl).trans G1.out)
     have HO := Lib.hid (own_belowC HO.out hb7)
     have HB := Lib.hid (HB.out.trans (hb7.mono HB.out.size))
     clear hf hb7 hgl
     simp only [putAll, put_lit, List.map_cons, List.map_nil, List.set_cons_succ, List.set_cons_zero]
     simp only [f30]
     clear f30
     have g0 := G0.out
     have g1 := G1.out
     have lG := HGl.out
     go_wp2
     refine wp_held_tail mixed (VLs15 W7.heap.size U.length c k g u3 x Z C) (VLs15_mono _ _ _ _ _ _ _ _ _) (by kernel_rfl) 8 15 (by decide) [64, 65, 66, 67, 68, 69, 70, 71, 72, 73, 74, 75, 76, 77, 78] (by kernel_rfl) (by kernel_rfl) (by kernel_rfl) (by kernel_rfl) ?_ ?_
     ·intro j hj
      have hj' : j < 15 := hj
      rcases (by omega : j = 0 ∨ j = 1 ∨ j = 2 ∨ j = 3 ∨ j = 4 ∨ j = 5 ∨ j = 6 ∨ j = 7 ∨ j = 8 ∨ j = 9 ∨ j = 10 ∨ j = 11 ∨ j = 12 ∨ j = 13 ∨ j = 14) with rfl | rfl | rfl | rfl | rfl | rfl | rfl | rfl | rfl | rfl | rfl | rfl | rfl | rfl | rfl
      ·(refine owes_val (L := [(3, false)]) rfl rfl rfl (by kernel_rfl) ?_; intro a' w' hb' hfacts; obtain ⟨hf3, -⟩ := hfacts; replace hf3 : a'.tmps[3]?.getD undef = u3 := hf3)
       have pA := (hb'.cell (p := ⟨g, k * 2, none⟩) lG).trans G0.out; have pB := (hb'.cell (p := ⟨g, k * 2 + 1, none⟩) lG).trans G1.out
       (go_simp; first | exact ⟨_, rfl, Br _, rfl⟩ | exact ⟨_, rfl, Br _, trivial⟩ | exact ⟨_, rfl, Ba _ _, trivial⟩ | exact ⟨_, rfl, Br _, congrArg (Value.int _) (IntWalk.i64_in _ (by omega))⟩)
      ·(refine owes_val (L := [(5, false)]) rfl rfl rfl (by kernel_rfl) ?_; intro a' w' hb' hfacts; obtain ⟨hf5, -⟩ := hfacts; replace hf5 : a'.tmps[5]?.getD undef = .int .i64 x := hf5)
       have pA := (hb'.cell (p := ⟨g, k * 2, none⟩) lG).trans G0.out; have pB := (hb'.cell (p := ⟨g, k * 2 + 1, none⟩) lG).trans G1.out
       (go_simp; first | exact ⟨_, rfl, Br _, rfl⟩ | exact ⟨_, rfl, Br _, trivial⟩ | exact ⟨_, rfl, Ba _ _, trivial⟩ | exact ⟨_, rfl, Br _, congrArg (Value.int _) (IntWalk.i64_in _ (by omega))⟩)
      ·(refine owes_val (L := [(5, false)]) rfl rfl rfl (by kernel_rfl) ?_; intro a' w' hb' hfacts; obtain ⟨hf5, -⟩ := hfacts; replace hf5 : a'.tmps[5]?.getD undef = .int .i64 x := hf5)
       have pA := (hb'.cell (p := ⟨g, k * 2, none⟩) lG).trans G0.out; have pB := (hb'.cell (p := ⟨g, k * 2 + 1, none⟩) lG).trans G1.out
       (go_simp; first | exact ⟨_, rfl, Br _, rfl⟩ | exact ⟨_, rfl, Br _, trivial⟩ | exact ⟨_, rfl, Ba _ _, trivial⟩ | exact ⟨_, rfl, Br _, congrArg (Value.int _) (IntWalk.i64_in _ (by omega))⟩)
      ·(refine owes_val (L := [(4, false)]) rfl rfl rfl (by kernel_rfl) ?_; intro a' w' hb' hfacts; obtain ⟨hf4, -⟩ := hfacts; replace hf4 : a'.tmps[4]?.getD undef = .slice (some ⟨g, 0, none⟩) U.length c := hf4)
       have pA := (hb'.cell (p := ⟨g, k * 2, none⟩) lG).trans G0.out; have pB := (hb'.cell (p := ⟨g, k * 2 + 1, none⟩) lG).trans G1.out
       (go_simp; first | exact ⟨_, rfl, Br _, rfl⟩ | exact ⟨_, rfl, Br _, trivial⟩ | exact ⟨_, rfl, Ba _ _, trivial⟩ | exact ⟨_, rfl, Br _, congrArg (Value.int _) (IntWalk.i64_in _ (by omega))⟩)
      ·(refine owes_val (L := [(6, false)]) rfl rfl rfl (by kernel_rfl) ?_; intro a' w' hb' hfacts; obtain ⟨hf6, -⟩ := hfacts; replace hf6 : a'.tmps[6]?.getD undef = .int .i64 k := hf6)
       have pA := (hb'.cell (p := ⟨g, k * 2, none⟩) lG).trans G0.out; have pB := (hb'.cell (p := ⟨g, k * 2 + 1, none⟩) lG).trans G1.out
       (go_simp; first | exact ⟨_, rfl, Br _, rfl⟩ | exact ⟨_, rfl, Br _, trivial⟩ | exact ⟨_, rfl, Ba _ _, trivial⟩ | exact ⟨_, rfl, Br _, congrArg (Value.int _) (IntWalk.i64_in _ (by omega))⟩)
      ·(refine owes_val (L := [(67, true), (68, true)]) rfl rfl rfl (by kernel_rfl) ?_; intro a' w' hb' hfacts; obtain ⟨hf67, hf68, -⟩ := hfacts; try simp only [VLs15] at hf67; try simp only [VLs15] at hf68)
       have pA := (hb'.cell (p := ⟨g, k * 2, none⟩) lG).trans G0.out; have pB := (hb'.cell (p := ⟨g, k * 2 + 1, none⟩) lG).trans G1.out
       (go_simp; first | exact ⟨_, rfl, Br _, rfl⟩ | exact ⟨_, rfl, Br _, trivial⟩ | exact ⟨_, rfl, Ba _ _, trivial⟩ | exact ⟨_, rfl, Br _, congrArg (Value.int _) (IntWalk.i64_in _ (by omega))⟩)
      ·(refine owes_val (L := [(69, true)]) rfl rfl rfl (by kernel_rfl) ?_; intro a' w' hb' hfacts; obtain ⟨hf69, -⟩ := hfacts; try simp only [VLs15] at hf69)
       have pA := (hb'.cell (p := ⟨g, k * 2, none⟩) lG).trans G0.out; have pB := (hb'.cell (p := ⟨g, k * 2 + 1, none⟩) lG).trans G1.out
       (go_simp; first | exact ⟨_, rfl, Br _, rfl⟩ | exact ⟨_, rfl, Br _, trivial⟩ | exact ⟨_, rfl, Ba _ _, trivial⟩ | exact ⟨_, rfl, Br _, congrArg (Value.int _) (IntWalk.i64_in _ (by omega))⟩)
      ·(refine owes_val (L := [(70, true)]) rfl rfl rfl (by kernel_rfl) ?_; intro a' w' hb' hfacts; obtain ⟨hf70, -⟩ := hfacts; try simp only [VLs15] at hf70)
       have pA := (hb'.cell (p := ⟨g, k * 2, none⟩) lG).trans G0.out; have pB := (hb'.cell (p := ⟨g, k * 2 + 1, none⟩) lG).trans G1.out
       (go_simp; first | exact ⟨_, rfl, Br _, rfl⟩ | exact ⟨_, rfl, Br _, trivial⟩ | exact ⟨_, rfl, Ba _ _, trivial⟩ | exact ⟨_, rfl, Br _, congrArg (Value.int _) (IntWalk.i64_in _ (by omega))⟩)
      ·(refine owes_val (L := [(66, true), (71, true)]) rfl rfl rfl (by kernel_rfl) ?_; intro a' w' hb' hfacts; obtain ⟨hf66, hf71, -⟩ := hfacts; try simp only [VLs15] at hf66; try simp only [VLs15] at hf71)
       have pA := (hb'.cell (p := ⟨g, k * 2, none⟩) lG).trans G0.out; have pB := (hb'.cell (p := ⟨g, k * 2 + 1, none⟩) lG).trans G1.out
       (go_simp; first | exact ⟨_, rfl, Br _, rfl⟩ | exact ⟨_, rfl, Br _, trivial⟩ | exact ⟨_, rfl, Ba _ _, trivial⟩ | exact ⟨_, rfl, Br _, congrArg (Value.int _) (IntWalk.i64_in _ (by omega))⟩)
      ·(refine owes_val (L := [(8, false)]) rfl rfl rfl (by kernel_rfl) ?_; intro a' w' hb' hfacts; obtain ⟨hf8, -⟩ := hfacts; replace hf8 : a'.tmps[8]?.getD undef = .int .i32 C := hf8)
       have pA := (hb'.cell (p := ⟨g, k * 2, none⟩) lG).trans G0.out; have pB := (hb'.cell (p := ⟨g, k * 2 + 1, none⟩) lG).trans G1.out
       (go_simp; first | exact ⟨_, rfl, Br _, rfl⟩ | exact ⟨_, rfl, Br _, trivial⟩ | exact ⟨_, rfl, Ba _ _, trivial⟩ | exact ⟨_, rfl, Br _, congrArg (Value.int _) (IntWalk.i64_in _ (by omega))⟩)
      ·(refine owes_val (L := [(73, true)]) rfl rfl rfl (by kernel_rfl) ?_; intro a' w' hb' hfacts; obtain ⟨hf73, -⟩ := hfacts; try simp only [VLs15] at hf73)
       go_simp
       refine (RefClass_any C _).mono ?_
       rintro e w3 ⟨rfl, hb3⟩
       exact ⟨_, rfl, hb3, rfl⟩
      ·(refine owes_val (L := [(8, false)]) rfl rfl rfl (by kernel_rfl) ?_; intro a' w' hb' hfacts; obtain ⟨hf8, -⟩ := hfacts; replace hf8 : a'.tmps[8]?.getD undef = .int .i32 C := hf8)
       have pA := (hb'.cell (p := ⟨g, k * 2, none⟩) lG).trans G0.out; have pB := (hb'.cell (p := ⟨g, k * 2 + 1, none⟩) lG).trans G1.out
       (go_simp; first | exact ⟨_, rfl, Br _, rfl⟩ | exact ⟨_, rfl, Br _, trivial⟩ | exact ⟨_, rfl, Ba _ _, trivial⟩ | exact ⟨_, rfl, Br _, congrArg (Value.int _) (IntWalk.i64_in _ (by omega))⟩)
      ·(refine owes_val (L := [(75, true)]) rfl rfl rfl (by kernel_rfl) ?_; intro a' w' hb' hfacts; obtain ⟨hf75, -⟩ := hfacts; try simp only [VLs15] at hf75)
       go_simp
       refine (RefCells2_any C _).mono ?_
       rintro e w3 ⟨rfl, hb3⟩
       exact ⟨_, rfl, hb3, rfl⟩
      ·(refine owes_val (L := [(65, true), (72, true), (74, true), (76, true)]) rfl rfl rfl (by kernel_rfl) ?_; intro a' w' hb' hfacts; obtain ⟨hf65, hf72, hf74, hf76, -⟩ := hfacts; try simp only [VLs15] at hf65; try simp only [VLs15] at hf72; try simp only [VLs15] at hf74; try simp only [VLs15] at hf76)
       have pA := (hb'.cell (p := ⟨g, k * 2, none⟩) lG).trans G0.out; have pB := (hb'.cell (p := ⟨g, k * 2 + 1, none⟩) lG).trans G1.out
       (go_simp; first | exact ⟨_, rfl, Br _, rfl⟩ | exact ⟨_, rfl, Br _, trivial⟩ | exact ⟨_, rfl, Ba _ _, trivial⟩ | exact ⟨_, rfl, Br _, congrArg (Value.int _) (IntWalk.i64_in _ (by omega))⟩)
      ·(refine owes_val (L := [(77, true)]) rfl rfl rfl (by kernel_rfl) ?_; intro a' w' hb' hfacts; obtain ⟨hf77, -⟩ := hfacts; try simp only [VLs15] at hf77)
       go_simp
       exact ⟨_, rfl, (Below.refl _ _).alloc (Nat.le_refl _) _, _, rfl, hb'.size, Lies.new _ [.int .i64 x, .int .i64 ((x : Int) + Z), .int .i64 (classF C), .int .i64 (cellsF C)] _⟩
     ·intro f2 W8 hf2 hb8
      have e64 : f2 64 = u3 := hf2 64 (by decide)
      obtain ⟨b, e78, hbb, hLb⟩ := hf2 78 (by decide)
      have HLb := Lib.hid hLb
      have HO8 := Lib.hid (own_belowC HO.out hb8)
      have HB8 := Lib.hid (HB.out.trans (hb8.mono HB.out.size))
      have hu8 := (hb8.cell (p := ⟨g, k * 2 + 1, none⟩) HGl.out).trans G1.out
      have hgl8 : g < W8.heap.size := Nat.lt_of_lt_of_le HGl.out hb8.size
      have hll : (Lst s x).length ≤ 4294967296 := by omega
      have hsz8 : w1.heap.size ≤ W8.heap.size := HB8.out.size
      have hwk : IntKind.i64.wrap ((k : Int) + 1) = (k : Int) + 1 := IntWalk.i64_in _ (by omega)
      have hwz : IntKind.i64.wrap ((x : Int) + (Z : Int)) = (x : Int) + (Z : Int) := IntWalk.i64_in _ (by omega)
      clear hf2 hb8 hLb lG g0 g1
      simp only [putAll, put_lit, List.map_cons, List.map_nil, List.set_cons_succ, List.set_cons_zero]
      simp only [e64, e78]
      dsimp only [List.drop]
      refine wpList_app_lies rfl _ _ 95 99 rfl (.agg #[.int .i64 0, .int .i64 0, .int .i64 0, .int .i64 0]) 4 32 infoCluster Tryz.underlying95 rfl (by decide) (by decide) w1.heap.size _ _ _ [.int .i64 x, .int .i64 ((x : Int) + Z), .int .i64 (classF C), .int .i64 (cellsF C)] HO8.out rfl b HLb.out rfl rfl (by intro u hu; simp at hu; rcases hu with rfl | rfl | rfl | rfl <;> rfl) hll hsz8 ?_
      intro v2 w3 hown3 hg3
      have cU := (grown_cella hg3 (p := ⟨g, k * 2 + 1, none⟩) hgl8 (fun h => by have := (HO8.out.lt g h).1; omega)).trans hu8
      have HO3 := Lib.hid hown3
      have HB3 := Lib.hid (HB8.out.grown hg3 hsz8 (fun j hj => (HO8.out.lt j hj).1))
      clear hown3 hg3 e64 e78 hbb hll hsz8 hu8 hgl8 hkz HLb HO8 HB8 hul hLl hz4 hgt hle hbu hbx hg1 hUl hpl hlt hx
      go_wp2
      go_roundw
      case rel => exact HF.out _ _ (by rw [HN.out, cellsC_app, List.length_append, HZ.out]; exact HO3.out) HB3.out
      case measure => simp [intOf]; omega
   ·obtain ⟨m, hm⟩ : ∃ m, k = m + 1 := ⟨k - 1, by omega⟩
    have hne : pre ≠ [] := fun h => by rw [h] at hk; simp at hk; omega
    obtain ⟨r, p, hrp⟩ : ∃ r p, pre = r ++ [p] := ⟨pre.dropLast, pre.getLast hne, (List.dropLast_concat_getLast hne).symm⟩
    obtain ⟨hp1, hp2, hp3⟩ := hprev p r hrp
    have hgl2 := glue_up s (by rw [hp1]; exact hlt) hp2 hp3
    rw [hp1] at hgl2
    have hrm : r.length = m := by rw [hrp, List.length_append] at hk; simp at hk; omega
    have hUm : m < U.length := by omega
    have hUp : U[m] = p := by
     have : U = r ++ (p :: x :: unAts s (up s x)) := by rw [← hpre, hrp]; simp
     simp [this, ← hrm]
    obtain ⟨g', hgg, -, v0, v1⟩ := HUr.out m hUm
    obtain rfl : g = g' := by simp at hgg; exact hgg
    rw [hUp] at v0 v1
    obtain ⟨C, hCC⟩ : ∃ C, chA s x = C := ⟨_, rfl⟩
    obtain ⟨D, hDD⟩ : ∃ D, chA s p = D := ⟨_, rfl⟩
    obtain ⟨Y, hYY⟩ : ∃ Y, sz (from_ s p) = Y := ⟨_, rfl⟩
    rw [hCC] at G0
    rw [hDD] at v0
    rw [hYY] at v1
    rw [hCC, hDD] at hgl2
    obtain ⟨R, hR⟩ : ∃ R, gluedF D C = R := ⟨_, rfl⟩
    rw [hR] at hgl2
    have HJ := Lib.hid (fun w => RefJoined_any D C Y Z w)
    rw [hR] at HJ
    have V0 := Lib.hid v0
    have V1 := Lib.hid v1
    have hkp : (0 : Int) < (k : Int) := by omega
    have hkp2 : 0 < k := by omega
    have hwm : IntKind.i64.wrap ((k : Int) - 1) = (m : Int) := by rw [IntWalk.i64_in _ (by omega)]; omega
    have hm0 : (0 : Int) ≤ (m : Int) := by omega
    have hmI : (m : Int) < (U.length : Int) := by omega
    have HCC := Lib.hid hCC
    have HZ := Lib.hid hupz
    have HGlue := Lib.hid hgl2
    clear v0 v1 hgl2 hupz hk hpre hprev hnil HP hC hDD hYY hR hUp hrm hp1 hp2 hp3 hrp hne hgg hZ hm hCC hk0'
    go_wp2
    refine wp_held' mixed (VLs7 U.length c k m g D Y C Z R) (VLs7_mono _ _ _ _ _ _ _ _ _ _) (by kernel_rfl) [17, 18, 19, 20, 21, 22, 23, 24, 25, 26, 27, 28, 29, 30] (by kernel_rfl) (by kernel_rfl) ?_ ?_
    ·intro j hj
     have hj' : j < 14 := hj
     rcases (by omega : j = 0 ∨ j = 1 ∨ j = 2 ∨ j = 3 ∨ j = 4 ∨ j = 5 ∨ j = 6 ∨ j = 7 ∨ j = 8 ∨ j = 9 ∨ j = 10 ∨ j = 11 ∨ j = 12 ∨ j = 13) with rfl | rfl | rfl | rfl | rfl | rfl | rfl | rfl | rfl | rfl | rfl | rfl | rfl | rfl
     ·(refine owes_val (L := [(6, false)]) rfl rfl rfl (by kernel_rfl) ?_; intro a' w' hb' hfacts; obtain ⟨hf6, -⟩ := hfacts; replace hf6 : a'.tmps[6]?.getD undef = .int .i64 k := hf6)
      have pA := (hb'.cell (p := ⟨g, k * 2, none⟩) hgl).trans G0.out; have pB := (hb'.cell (p := ⟨g, k * 2 + 1, none⟩) hgl).trans G1.out; have pC := (hb'.cell (p := ⟨g, m * 2, none⟩) hgl).trans V0.out; have pD := (hb'.cell (p := ⟨g, m * 2 + 1, none⟩) hgl).trans V1.out
      (go_simp; first | exact ⟨_, rfl, Br _, rfl⟩ | exact ⟨_, rfl, Br _, trivial⟩ | exact ⟨_, rfl, Ba _ _, trivial⟩ | exact ⟨_, rfl, Br _, congrArg (Value.int _) (IntWalk.i64_in _ (by omega))⟩)
     ·(refine owes_val (L := [(17, true)]) rfl rfl rfl (by kernel_rfl) ?_; intro a' w' hb' hfacts; obtain ⟨hf17, -⟩ := hfacts; try simp only [VLs7] at hf17)
      have pA := (hb'.cell (p := ⟨g, k * 2, none⟩) hgl).trans G0.out; have pB := (hb'.cell (p := ⟨g, k * 2 + 1, none⟩) hgl).trans G1.out; have pC := (hb'.cell (p := ⟨g, m * 2, none⟩) hgl).trans V0.out; have pD := (hb'.cell (p := ⟨g, m * 2 + 1, none⟩) hgl).trans V1.out
      (go_simp; first | exact ⟨_, rfl, Br _, rfl⟩ | exact ⟨_, rfl, Br _, trivial⟩ | exact ⟨_, rfl, Ba _ _, trivial⟩ | exact ⟨_, rfl, Br _, congrArg (Value.int _) (IntWalk.i64_in _ (by omega))⟩)
     ·(refine owes_val (L := [(18, true)]) rfl rfl rfl (by kernel_rfl) ?_; intro a' w' hb' hfacts; obtain ⟨hf18, -⟩ := hfacts; try simp only [VLs7] at hf18)
      have pA := (hb'.cell (p := ⟨g, k * 2, none⟩) hgl).trans G0.out; have pB := (hb'.cell (p := ⟨g, k * 2 + 1, none⟩) hgl).trans G1.out; have pC := (hb'.cell (p := ⟨g, m * 2, none⟩) hgl).trans V0.out; have pD := (hb'.cell (p := ⟨g, m * 2 + 1, none⟩) hgl).trans V1.out
      (go_simp; first | exact ⟨_, rfl, Br _, rfl⟩ | exact ⟨_, rfl, Br _, trivial⟩ | exact ⟨_, rfl, Ba _ _, trivial⟩ | exact ⟨_, rfl, Br _, congrArg (Value.int _) (IntWalk.i64_in _ (by omega))⟩)
     ·(refine owes_if (L := [(4, false), (19, true)]) rfl rfl rfl rfl (by kernel_rfl) ?_; intro a' w' hb' hfacts; obtain ⟨hf4, hf19, -⟩ := hfacts; replace hf4 : a'.tmps[4]?.getD undef = .slice (some ⟨g, 0, none⟩) U.length c := hf4; try simp only [VLs7] at hf19)
      have pA := (hb'.cell (p := ⟨g, k * 2, none⟩) hgl).trans G0.out; have pB := (hb'.cell (p := ⟨g, k * 2 + 1, none⟩) hgl).trans G1.out; have pC := (hb'.cell (p := ⟨g, m * 2, none⟩) hgl).trans V0.out; have pD := (hb'.cell (p := ⟨g, m * 2 + 1, none⟩) hgl).trans V1.out
      first | (go_simp; first | exact ⟨_, rfl, Br _, rfl⟩ | exact ⟨_, rfl, Br _, trivial⟩ | exact ⟨_, rfl, Br _⟩ | exact ⟨_, rfl, Ba _ _, trivial⟩) | (apply Exists.intro; apply And.intro; assumption; apply And.intro; (intro hc; first | exact absurd hc (by simp [undef]) | (go_simp; first | exact ⟨_, rfl, Br _, rfl⟩ | exact ⟨_, rfl, Br _, trivial⟩ | exact ⟨_, rfl, Br _⟩ | exact ⟨_, rfl, Ba _ _, trivial⟩)); (intro hc; first | exact absurd rfl hc | exact trivial | exact rfl)) | (apply Exists.intro; apply And.intro; assumption; intro hc; first | exact absurd hc (by simp [undef]) | (go_simp; first | exact ⟨_, rfl, Br _, rfl⟩ | exact ⟨_, rfl, Br _, trivial⟩ | exact ⟨_, rfl, Br _⟩ | exact ⟨_, rfl, Ba _ _, trivial⟩))
     ·(refine owes_if (L := [(6, false), (19, true)]) rfl rfl rfl rfl (by kernel_rfl) ?_; intro a' w' hb' hfacts; obtain ⟨hf6, hf19, -⟩ := hfacts; replace hf6 : a'.tmps[6]?.getD undef = .int .i64 k := hf6; try simp only [VLs7] at hf19)
      have pA := (hb'.cell (p := ⟨g, k * 2, none⟩) hgl).trans G0.out; have pB := (hb'.cell (p := ⟨g, k * 2 + 1, none⟩) hgl).trans G1.out; have pC := (hb'.cell (p := ⟨g, m * 2, none⟩) hgl).trans V0.out; have pD := (hb'.cell (p := ⟨g, m * 2 + 1, none⟩) hgl).trans V1.out
      first | (go_simp; first | exact ⟨_, rfl, Br _, rfl⟩ | exact ⟨_, rfl, Br _, trivial⟩ | exact ⟨_, rfl, Br _⟩ | exact ⟨_, rfl, Ba _ _, trivial⟩) | (apply Exists.intro; apply And.intro; assumption; apply And.intro; (intro hc; first | exact absurd hc (by simp [undef]) | (go_simp; first | exact ⟨_, rfl, Br _, rfl⟩ | exact ⟨_, rfl, Br _, trivial⟩ | exact ⟨_, rfl, Br _⟩ | exact ⟨_, rfl, Ba _ _, trivial⟩)); (intro hc; first | exact absurd rfl hc | exact trivial | exact rfl)) | (apply Exists.intro; apply And.intro; assumption; intro hc; first | exact absurd hc (by simp [undef]) | (go_simp; first | exact ⟨_, rfl, Br _, rfl⟩ | exact ⟨_, rfl, Br _, trivial⟩ | exact ⟨_, rfl, Br _⟩ | exact ⟨_, rfl, Ba _ _, trivial⟩))
     ·(refine owes_if (L := [(21, true), (19, true)]) rfl rfl rfl rfl (by kernel_rfl) ?_; intro a' w' hb' hfacts; obtain ⟨hf21, hf19, -⟩ := hfacts; try simp only [VLs7] at hf21; try simp only [VLs7] at hf19)
      have pA := (hb'.cell (p := ⟨g, k * 2, none⟩) hgl).trans G0.out; have pB := (hb'.cell (p := ⟨g, k * 2 + 1, none⟩) hgl).trans G1.out; have pC := (hb'.cell (p := ⟨g, m * 2, none⟩) hgl).trans V0.out; have pD := (hb'.cell (p := ⟨g, m * 2 + 1, none⟩) hgl).trans V1.out
      first | (go_simp; first | exact ⟨_, rfl, Br _, rfl⟩ | exact ⟨_, rfl, Br _, trivial⟩ | exact ⟨_, rfl, Br _⟩ | exact ⟨_, rfl, Ba _ _, trivial⟩) | (apply Exists.intro; apply And.intro; assumption; apply And.intro; (intro hc; first | exact absurd hc (by simp [undef]) | (go_simp; first | exact ⟨_, rfl, Br _, rfl⟩ | exact ⟨_, rfl, Br _, trivial⟩ | exact ⟨_, rfl, Br _⟩ | exact ⟨_, rfl, Ba _ _, trivial⟩)); (intro hc; first | exact absurd rfl hc | exact trivial | exact rfl)) | (apply Exists.intro; apply And.intro; assumption; intro hc; first | exact absurd hc (by simp [undef]) | (go_simp; first | exact ⟨_, rfl, Br _, rfl⟩ | exact ⟨_, rfl, Br _, trivial⟩ | exact ⟨_, rfl, Br _⟩ | exact ⟨_, rfl, Ba _ _, trivial⟩))
     ·(refine owes_if (L := [(20, true), (22, true), (19, true)]) rfl rfl rfl rfl (by kernel_rfl) ?_; intro a' w' hb' hfacts; obtain ⟨hf20, hf22, hf19, -⟩ := hfacts; try simp only [VLs7] at hf20; try simp only [VLs7] at hf22; try simp only [VLs7] at hf19)
      have pA := (hb'.cell (p := ⟨g, k * 2, none⟩) hgl).trans G0.out; have pB := (hb'.cell (p := ⟨g, k * 2 + 1, none⟩) hgl).trans G1.out; have pC := (hb'.cell (p := ⟨g, m * 2, none⟩) hgl).trans V0.out; have pD := (hb'.cell (p := ⟨g, m * 2 + 1, none⟩) hgl).trans V1.out
      first | (go_simp; first | exact ⟨_, rfl, Br _, rfl⟩ | exact ⟨_, rfl, Br _, trivial⟩ | exact ⟨_, rfl, Br _⟩ | exact ⟨_, rfl, Ba _ _, trivial⟩) | (apply Exists.intro; apply And.intro; assumption; apply And.intro; (intro hc; first | exact absurd hc (by simp [undef]) | (go_simp; first | exact ⟨_, rfl, Br _, rfl⟩ | exact ⟨_, rfl, Br _, trivial⟩ | exact ⟨_, rfl, Br _⟩ | exact ⟨_, rfl, Ba _ _, trivial⟩)); (intro hc; first | exact absurd rfl hc | exact trivial | exact rfl)) | (apply Exists.intro; apply And.intro; assumption; intro hc; first | exact absurd hc (by simp [undef]) | (go_simp; first | exact ⟨_, rfl, Br _, rfl⟩ | exact ⟨_, rfl, Br _, trivial⟩ | exact ⟨_, rfl, Br _⟩ | exact ⟨_, rfl, Ba _ _, trivial⟩))
     ·(refine owes_if (L := [(23, true), (19, true)]) rfl rfl rfl rfl (by kernel_rfl) ?_; intro a' w' hb' hfacts; obtain ⟨hf23, hf19, -⟩ := hfacts; try simp only [VLs7] at hf23; try simp only [VLs7] at hf19)
      have pA := (hb'.cell (p := ⟨g, k * 2, none⟩) hgl).trans G0.out; have pB := (hb'.cell (p := ⟨g, k * 2 + 1, none⟩) hgl).trans G1.out; have pC := (hb'.cell (p := ⟨g, m * 2, none⟩) hgl).trans V0.out; have pD := (hb'.cell (p := ⟨g, m * 2 + 1, none⟩) hgl).trans V1.out
      first | (go_simp; first | exact ⟨_, rfl, Br _, rfl⟩ | exact ⟨_, rfl, Br _, trivial⟩ | exact ⟨_, rfl, Br _⟩ | exact ⟨_, rfl, Ba _ _, trivial⟩) | (apply Exists.intro; apply And.intro; assumption; apply And.intro; (intro hc; first | exact absurd hc (by simp [undef]) | (go_simp; first | exact ⟨_, rfl, Br _, rfl⟩ | exact ⟨_, rfl, Br _, trivial⟩ | exact ⟨_, rfl, Br _⟩ | exact ⟨_, rfl, Ba _ _, trivial⟩)); (intro hc; first | exact absurd rfl hc | exact trivial | exact rfl)) | (apply Exists.intro; apply And.intro; assumption; intro hc; first | exact absurd hc (by simp [undef]) | (go_simp; first | exact ⟨_, rfl, Br _, rfl⟩ | exact ⟨_, rfl, Br _, trivial⟩ | exact ⟨_, rfl, Br _⟩ | exact ⟨_, rfl, Ba _ _, trivial⟩))
     ·(refine owes_if (L := [(4, false), (19, true)]) rfl rfl rfl rfl (by kernel_rfl) ?_; intro a' w' hb' hfacts; obtain ⟨hf4, hf19, -⟩ := hfacts; replace hf4 : a'.tmps[4]?.getD undef = .slice (some ⟨g, 0, none⟩) U.length c := hf4; try simp only [VLs7] at hf19)
      have pA := (hb'.cell (p := ⟨g, k * 2, none⟩) hgl).trans G0.out; have pB := (hb'.cell (p := ⟨g, k * 2 + 1, none⟩) hgl).trans G1.out; have pC := (hb'.cell (p := ⟨g, m * 2, none⟩) hgl).trans V0.out; have pD := (hb'.cell (p := ⟨g, m * 2 + 1, none⟩) hgl).trans V1.out
      first | (go_simp; first | exact ⟨_, rfl, Br _, rfl⟩ | exact ⟨_, rfl, Br _, trivial⟩ | exact ⟨_, rfl, Br _⟩ | exact ⟨_, rfl, Ba _ _, trivial⟩) | (apply Exists.intro; apply And.intro; assumption; apply And.intro; (intro hc; first | exact absurd hc (by simp [undef]) | (go_simp; first | exact ⟨_, rfl, Br _, rfl⟩ | exact ⟨_, rfl, Br _, trivial⟩ | exact ⟨_, rfl, Br _⟩ | exact ⟨_, rfl, Ba _ _, trivial⟩)); (intro hc; first | exact absurd rfl hc | exact trivial | exact rfl)) | (apply Exists.intro; apply And.intro; assumption; intro hc; first | exact absurd hc (by simp [undef]) | (go_simp; first | exact ⟨_, rfl, Br _, rfl⟩ | exact ⟨_, rfl, Br _, trivial⟩ | exact ⟨_, rfl, Br _⟩ | exact ⟨_, rfl, Ba _ _, trivial⟩))
     ·(refine owes_if (L := [(6, false), (19, true)]) rfl rfl rfl rfl (by kernel_rfl) ?_; intro a' w' hb' hfacts; obtain ⟨hf6, hf19, -⟩ := hfacts; replace hf6 : a'.tmps[6]?.getD undef = .int .i64 k := hf6; try simp only [VLs7] at hf19)
      have pA := (hb'.cell (p := ⟨g, k * 2, none⟩) hgl).trans G0.out; have pB := (hb'.cell (p := ⟨g, k * 2 + 1, none⟩) hgl).trans G1.out; have pC := (hb'.cell (p := ⟨g, m * 2, none⟩) hgl).trans V0.out; have pD := (hb'.cell (p := ⟨g, m * 2 + 1, none⟩) hgl).trans V1.out
      first | (go_simp; first | exact ⟨_, rfl, Br _, rfl⟩ | exact ⟨_, rfl, Br _, trivial⟩ | exact ⟨_, rfl, Br _⟩ | exact ⟨_, rfl, Ba _ _, trivial⟩) | (apply Exists.intro; apply And.intro; assumption; apply And.intro; (intro hc; first | exact absurd hc (by simp [undef]) | (go_simp; first | exact ⟨_, rfl, Br _, rfl⟩ | exact ⟨_, rfl, Br _, trivial⟩ | exact ⟨_, rfl, Br _⟩ | exact ⟨_, rfl, Ba _ _, trivial⟩)); (intro hc; first | exact absurd rfl hc | exact trivial | exact rfl)) | (apply Exists.intro; apply And.intro; assumption; intro hc; first | exact absurd hc (by simp [undef]) | (go_simp; first | exact ⟨_, rfl, Br _, rfl⟩ | exact ⟨_, rfl, Br _, trivial⟩ | exact ⟨_, rfl, Br _⟩ | exact ⟨_, rfl, Ba _ _, trivial⟩))
     ·(refine owes_if (L := [(25, true), (26, true), (19, true)]) rfl rfl rfl rfl (by kernel_rfl) ?_; intro a' w' hb' hfacts; obtain ⟨hf25, hf26, hf19, -⟩ := hfacts; try simp only [VLs7] at hf25; try simp only [VLs7] at hf26; try simp only [VLs7] at hf19)
      have pA := (hb'.cell (p := ⟨g, k * 2, none⟩) hgl).trans G0.out; have pB := (hb'.cell (p := ⟨g, k * 2 + 1, none⟩) hgl).trans G1.out; have pC := (hb'.cell (p := ⟨g, m * 2, none⟩) hgl).trans V0.out; have pD := (hb'.cell (p := ⟨g, m * 2 + 1, none⟩) hgl).trans V1.out
      first | (go_simp; first | exact ⟨_, rfl, Br _, rfl⟩ | exact ⟨_, rfl, Br _, trivial⟩ | exact ⟨_, rfl, Br _⟩ | exact ⟨_, rfl, Ba _ _, trivial⟩) | (apply Exists.intro; apply And.intro; assumption; apply And.intro; (intro hc; first | exact absurd hc (by simp [undef]) | (go_simp; first | exact ⟨_, rfl, Br _, rfl⟩ | exact ⟨_, rfl, Br _, trivial⟩ | exact ⟨_, rfl, Br _⟩ | exact ⟨_, rfl, Ba _ _, trivial⟩)); (intro hc; first | exact absurd rfl hc | exact trivial | exact rfl)) | (apply Exists.intro; apply And.intro; assumption; intro hc; first | exact absurd hc (by simp [undef]) | (go_simp; first | exact ⟨_, rfl, Br _, rfl⟩ | exact ⟨_, rfl, Br _, trivial⟩ | exact ⟨_, rfl, Br _⟩ | exact ⟨_, rfl, Ba _ _, trivial⟩))
     ·(refine owes_if (L := [(27, true), (19, true)]) rfl rfl rfl rfl (by kernel_rfl) ?_; intro a' w' hb' hfacts; obtain ⟨hf27, hf19, -⟩ := hfacts; try simp only [VLs7] at hf27; try simp only [VLs7] at hf19)
      have pA := (hb'.cell (p := ⟨g, k * 2, none⟩) hgl).trans G0.out; have pB := (hb'.cell (p := ⟨g, k * 2 + 1, none⟩) hgl).trans G1.out; have pC := (hb'.cell (p := ⟨g, m * 2, none⟩) hgl).trans V0.out; have pD := (hb'.cell (p := ⟨g, m * 2 + 1, none⟩) hgl).trans V1.out
      first | (go_simp; first | exact ⟨_, rfl, Br _, rfl⟩ | exact ⟨_, rfl, Br _, trivial⟩ | exact ⟨_, rfl, Br _⟩ | exact ⟨_, rfl, Ba _ _, trivial⟩) | (apply Exists.intro; apply And.intro; assumption; apply And.intro; (intro hc; first | exact absurd hc (by simp [undef]) | (go_simp; first | exact ⟨_, rfl, Br _, rfl⟩ | exact ⟨_, rfl, Br _, trivial⟩ | exact ⟨_, rfl, Br _⟩ | exact ⟨_, rfl, Ba _ _, trivial⟩)); (intro hc; first | exact absurd rfl hc | exact trivial | exact rfl)) | (apply Exists.intro; apply And.intro; assumption; intro hc; first | exact absurd hc (by simp [undef]) | (go_simp; first | exact ⟨_, rfl, Br _, rfl⟩ | exact ⟨_, rfl, Br _, trivial⟩ | exact ⟨_, rfl, Br _⟩ | exact ⟨_, rfl, Ba _ _, trivial⟩))
     ·(refine owes_if (L := [(24, true), (28, true), (19, true)]) rfl rfl rfl rfl (by kernel_rfl) ?_; intro a' w' hb' hfacts; obtain ⟨hf24, hf28, hf19, -⟩ := hfacts; try simp only [VLs7] at hf24; try simp only [VLs7] at hf28; try simp only [VLs7] at hf19)
      refine ⟨_, hf19, fun _ => ?_, fun hc => absurd rfl hc⟩
      go_simp
      refine (HJ.out _).mono ?_
      rintro e w3 ⟨rfl, hb3⟩
      exact ⟨_, rfl, hb3, rfl⟩
     ·(refine owes_val (L := [(19, true), (29, true)]) rfl rfl rfl (by kernel_rfl) ?_; intro a' w' hb' hfacts; obtain ⟨hf19, hf29, -⟩ := hfacts; try simp only [VLs7] at hf19; try simp only [VLs7] at hf29)
      have pA := (hb'.cell (p := ⟨g, k * 2, none⟩) hgl).trans G0.out; have pB := (hb'.cell (p := ⟨g, k * 2 + 1, none⟩) hgl).trans G1.out; have pC := (hb'.cell (p := ⟨g, m * 2, none⟩) hgl).trans V0.out; have pD := (hb'.cell (p := ⟨g, m * 2 + 1, none⟩) hgl).trans V1.out
      (go_simp; first | exact ⟨_, rfl, Br _, rfl⟩ | exact ⟨_, rfl, Br _, trivial⟩ | exact ⟨_, rfl, Ba _ _, trivial⟩ | exact ⟨_, rfl, Br _, congrArg (Value.int _) (IntWalk.i64_in _ (by omega))⟩)
    ·intro f W7 hf hb7
     have f30 : f 30 = .bool R := hf 30 (by decide)
     have HGl : Hid (g < W7.heap.size) := Nat.lt_of_lt_of_le hgl hb7.size
     have G0 := Lib.hid ((hb7.cell (p := ⟨g, k * 2, none⟩) hgl).trans G0.out)
     have G1 := Lib.hid ((hb7.cell (p := ⟨g, k * 2 + 1, none⟩) hgl).trans G1.out)
     have HO := Lib.hid (own_belowC HO.out hb7)
     have HB := Lib.hid (HB.out.trans (hb7.mono HB.out.size))
     clear hf hb7 hgl
     cases R with
     | false =>
      have hnew := Lst_new s hlt (by rw [HGlue.out]; rfl)
      rw [HCC.out] at hnew
      have HN := Lib.hid hnew
      clear hnew HGlue HCC HJ V0 V1
      simp only [putAll, put_lit, List.map_cons, List.map_nil, List.set_cons_succ, List.set_cons_zero]
      simp only [f30]
      clear f30
      have g0 := G0.out
      have g1 := G1.out
      have lG := HGl.out
      go_wp2
      refine wp_held_tail mixed (VLs15 W7.heap.size U.length c k g u3 x Z C) (VLs15_mono _ _ _ _ _ _ _ _ _) (by kernel_rfl) 8 15 (by decide) [64, 65, 66, 67, 68, 69, 70, 71, 72, 73, 74, 75, 76, 77, 78] (by kernel_rfl) (by kernel_rfl) (by kernel_rfl) (by kernel_rfl) ?_ ?_
      ·intro j hj
       have hj' : j < 15 := hj
       rcases (by omega : j = 0 ∨ j = 1 ∨ j = 2 ∨ j = 3 ∨ j = 4 ∨ j = 5 ∨ j = 6 ∨ j = 7 ∨ j = 8 ∨ j = 9 ∨ j = 10 ∨ j = 11 ∨ j = 12 ∨ j = 13 ∨ j = 14) with rfl | rfl | rfl | rfl | rfl | rfl | rfl | rfl | rfl | rfl | rfl | rfl | rfl | rfl | rfl
       ·(refine owes_val (L := [(3, false)]) rfl rfl rfl (by kernel_rfl) ?_; intro a' w' hb' hfacts; obtain ⟨hf3, -⟩ := hfacts; replace hf3 : a'.tmps[3]?.getD undef = u3 := hf3)
        have pA := (hb'.cell (p := ⟨g, k * 2, none⟩) lG).trans G0.out; have pB := (hb'.cell (p := ⟨g, k * 2 + 1, none⟩) lG).trans G1.out
        (go_simp; first | exact ⟨_, rfl, Br _, rfl⟩ | exact ⟨_, rfl, Br _, trivial⟩ | exact ⟨_, rfl, Ba _ _, trivial⟩ | exact ⟨_, rfl, Br _, congrArg (Value.int _) (IntWalk.i64_in _ (by omega))⟩)
       ·(refine owes_val (L := [(5, false)]) rfl rfl rfl (by kernel_rfl) ?_; intro a' w' hb' hfacts; obtain ⟨hf5, -⟩ := hfacts; replace hf5 : a'.tmps[5]?.getD undef = .int .i64 x := hf5)
        have pA := (hb'.cell (p := ⟨g, k * 2, none⟩) lG).trans G0.out; have pB := (hb'.cell (p := ⟨g, k * 2 + 1, none⟩) lG).trans G1.out
        (go_simp; first | exact ⟨_, rfl, Br _, rfl⟩ | exact ⟨_, rfl, Br _, trivial⟩ | exact ⟨_, rfl, Ba _ _, trivial⟩ | exact ⟨_, rfl, Br _, congrArg (Value.int _) (IntWalk.i64_in _ (by omega))⟩)
       ·(refine owes_val (L := [(5, false)]) rfl rfl rfl (by kernel_rfl) ?_; intro a' w' hb' hfacts; obtain ⟨hf5, -⟩ := hfacts; replace hf5 : a'.tmps[5]?.getD undef = .int .i64 x := hf5)
        have pA := (hb'.cell (p := ⟨g, k * 2, none⟩) lG).trans G0.out; have pB := (hb'.cell (p := ⟨g, k * 2 + 1, none⟩) lG).trans G1.out
        (go_simp; first | exact ⟨_, rfl, Br _, rfl⟩ | exact ⟨_, rfl, Br _, trivial⟩ | exact ⟨_, rfl, Ba _ _, trivial⟩ | exact ⟨_, rfl, Br _, congrArg (Value.int _) (IntWalk.i64_in _ (by omega))⟩)
       ·(refine owes_val (L := [(4, false)]) rfl rfl rfl (by kernel_rfl) ?_; intro a' w' hb' hfacts; obtain ⟨hf4, -⟩ := hfacts; replace hf4 : a'.tmps[4]?.getD undef = .slice (some ⟨g, 0, none⟩) U.length c := hf4)
        have pA := (hb'.cell (p := ⟨g, k * 2, none⟩) lG).trans G0.out; have pB := (hb'.cell (p := ⟨g, k * 2 + 1, none⟩) lG).trans G1.out
        (go_simp; first | exact ⟨_, rfl, Br _, rfl⟩ | exact ⟨_, rfl, Br _, trivial⟩ | exact ⟨_, rfl, Ba _ _, trivial⟩ | exact ⟨_, rfl, Br _, congrArg (Value.int _) (IntWalk.i64_in _ (by omega))⟩)
       ·(refine owes_val (L := [(6, false)]) rfl rfl rfl (by kernel_rfl) ?_; intro a' w' hb' hfacts; obtain ⟨hf6, -⟩ := hfacts; replace hf6 : a'.tmps[6]?.getD undef = .int .i64 k := hf6)
        have pA := (hb'.cell (p := ⟨g, k * 2, none⟩) lG).trans G0.out; have pB := (hb'.cell (p := ⟨g, k * 2 + 1, none⟩) lG).trans G1.out
        (go_simp; first | exact ⟨_, rfl, Br _, rfl⟩ | exact ⟨_, rfl, Br _, trivial⟩ | exact ⟨_, rfl, Ba _ _, trivial⟩ | exact ⟨_, rfl, Br _, congrArg (Value.int _) (IntWalk.i64_in _ (by omega))⟩)
       ·(refine owes_val (L := [(67, true), (68, true)]) rfl rfl rfl (by kernel_rfl) ?_; intro a' w' hb' hfacts; obtain ⟨hf67, hf68, -⟩ := hfacts; try simp only [VLs15] at hf67; try simp only [VLs15] at hf68)
        have pA := (hb'.cell (p := ⟨g, k * 2, none⟩) lG).trans G0.out; have pB := (hb'.cell (p := ⟨g, k * 2 + 1, none⟩) lG).trans G1.out
        (go_simp; first | exact ⟨_, rfl, Br _, rfl⟩ | exact ⟨_, rfl, Br _, trivial⟩ | exact ⟨_, rfl, Ba _ _, trivial⟩ | exact ⟨_, rfl, Br _, congrArg (Value.int _) (IntWalk.i64_in _ (by omega))⟩)
       ·(refine owes_val (L := [(69, true)]) rfl rfl rfl (by kernel_rfl) ?_; intro a' w' hb' hfacts; obtain ⟨hf69, -⟩ := hfacts; try simp only [VLs15] at hf69)
        have pA := (hb'.cell (p := ⟨g, k * 2, none⟩) lG).trans G0.out; have pB := (hb'.cell (p := ⟨g, k * 2 + 1, none⟩) lG).trans G1.out
        (go_simp; first | exact ⟨_, rfl, Br _, rfl⟩ | exact ⟨_, rfl, Br _, trivial⟩ | exact ⟨_, rfl, Ba _ _, trivial⟩ | exact ⟨_, rfl, Br _, congrArg (Value.int _) (IntWalk.i64_in _ (by omega))⟩)
       ·(refine owes_val (L := [(70, true)]) rfl rfl rfl (by kernel_rfl) ?_; intro a' w' hb' hfacts; obtain ⟨hf70, -⟩ := hfacts; try simp only [VLs15] at hf70)
        have pA := (hb'.cell (p := ⟨g, k * 2, none⟩) lG).trans G0.out; have pB := (hb'.cell (p := ⟨g, k * 2 + 1, none⟩) lG).trans G1.out
        (go_simp; first | exact ⟨_, rfl, Br _, rfl⟩ | exact ⟨_, rfl, Br _, trivial⟩ | exact ⟨_, rfl, Ba _ _, trivial⟩ | exact ⟨_, rfl, Br _, congrArg (Value.int _) (IntWalk.i64_in _ (by omega))⟩)
       ·(refine owes_val (L := [(66, true), (71, true)]) rfl rfl rfl (by kernel_rfl) ?_; intro a' w' hb' hfacts; obtain ⟨hf66, hf71, -⟩ := hfacts; try simp only [VLs15] at hf66; try simp only [VLs15] at hf71)
        have pA := (hb'.cell (p := ⟨g, k * 2, none⟩) lG).trans G0.out; have pB := (hb'.cell (p := ⟨g, k * 2 + 1, none⟩) lG).trans G1.out
        (go_simp; first | exact ⟨_, rfl, Br _, rfl⟩ | exact ⟨_, rfl, Br _, trivial⟩ | exact ⟨_, rfl, Ba _ _, trivial⟩ | exact ⟨_, rfl, Br _, congrArg (Value.int _) (IntWalk.i64_in _ (by omega))⟩)
       ·(refine owes_val (L := [(8, false)]) rfl rfl rfl (by kernel_rfl) ?_; intro a' w' hb' hfacts; obtain ⟨hf8, -⟩ := hfacts; replace hf8 : a'.tmps[8]?.getD undef = .int .i32 C := hf8)
        have pA := (hb'.cell (p := ⟨g, k * 2, none⟩) lG).trans G0.out; have pB := (hb'.cell (p := ⟨g, k * 2 + 1, none⟩) lG).trans G1.out
        (go_simp; first | exact ⟨_, rfl, Br _, rfl⟩ | exact ⟨_, rfl, Br _, trivial⟩ | exact ⟨_, rfl, Ba _ _, trivial⟩ | exact ⟨_, rfl, Br _, congrArg (Value.int _) (IntWalk.i64_in _ (by omega))⟩)
       ·(refine owes_val (L := [(73, true)]) rfl rfl rfl (by kernel_rfl) ?_; intro a' w' hb' hfacts; obtain ⟨hf73, -⟩ := hfacts; try simp only [VLs15] at hf73)
        go_simp
        refine (RefClass_any C _).mono ?_
        rintro e w3 ⟨rfl, hb3⟩
        exact ⟨_, rfl, hb3, rfl⟩
       ·(refine owes_val (L := [(8, false)]) rfl rfl rfl (by kernel_rfl) ?_; intro a' w' hb' hfacts; obtain ⟨hf8, -⟩ := hfacts; replace hf8 : a'.tmps[8]?.getD undef = .int .i32 C := hf8)
        have pA := (hb'.cell (p := ⟨g, k * 2, none⟩) lG).trans G0.out; have pB := (hb'.cell (p := ⟨g, k * 2 + 1, none⟩) lG).trans G1.out
        (go_simp; first | exact ⟨_, rfl, Br _, rfl⟩ | exact ⟨_, rfl, Br _, trivial⟩ | exact ⟨_, rfl, Ba _ _, trivial⟩ | exact ⟨_, rfl, Br _, congrArg (Value.int _) (IntWalk.i64_in _ (by omega))⟩)
       ·(refine owes_val (L := [(75, true)]) rfl rfl rfl (by kernel_rfl) ?_; intro a' w' hb' hfacts; obtain ⟨hf75, -⟩ := hfacts; try simp only [VLs15] at hf75)
        go_simp
        refine (RefCells2_any C _).mono ?_
        rintro e w3 ⟨rfl, hb3⟩
        exact ⟨_, rfl, hb3, rfl⟩
       ·(refine owes_val (L := [(65, true), (72, true), (74, true), (76, true)]) rfl rfl rfl (by kernel_rfl) ?_; intro a' w' hb' hfacts; obtain ⟨hf65, hf72, hf74, hf76, -⟩ := hfacts; try simp only [VLs15] at hf65; try simp only [VLs15] at hf72; try simp only [VLs15] at hf74; try simp only [VLs15] at hf76)
        have pA := (hb'.cell (p := ⟨g, k * 2, none⟩) lG).trans G0.out; have pB := (hb'.cell (p := ⟨g, k * 2 + 1, none⟩) lG).trans G1.out
        (go_simp; first | exact ⟨_, rfl, Br _, rfl⟩ | exact ⟨_, rfl, Br _, trivial⟩ | exact ⟨_, rfl, Ba _ _, trivial⟩ | exact ⟨_, rfl, Br _, congrArg (Value.int _) (IntWalk.i64_in _ (by omega))⟩)
       ·(refine owes_val (L := [(77, true)]) rfl rfl rfl (by kernel_rfl) ?_; intro a' w' hb' hfacts; obtain ⟨hf77, -⟩ := hfacts; try simp only [VLs15] at hf77)
        go_simp
        exact ⟨_, rfl, (Below.refl _ _).alloc (Nat.le_refl _) _, _, rfl, hb'.size, Lies.new _ [.int .i64 x, .int .i64 ((x : Int) + Z), .int .i64 (classF C), .int .i64 (cellsF C)] _⟩
      ·intro f2 W8 hf2 hb8
       have e64 : f2 64 = u3 := hf2 64 (by decide)
       obtain ⟨b, e78, hbb, hLb⟩ := hf2 78 (by decide)
       have HLb := Lib.hid hLb
       have HO8 := Lib.hid (own_belowC HO.out hb8)
       have HB8 := Lib.hid (HB.out.trans (hb8.mono HB.out.size))
       have hu8 := (hb8.cell (p := ⟨g, k * 2 + 1, none⟩) HGl.out).trans G1.out
       have hgl8 : g < W8.heap.size := Nat.lt_of_lt_of_le HGl.out hb8.size
       have hll : (Lst s x).length ≤ 4294967296 := by omega
       have hsz8 : w1.heap.size ≤ W8.heap.size := HB8.out.size
       have hwk : IntKind.i64.wrap ((k : Int) + 1) = (k : Int) + 1 := IntWalk.i64_in _ (by omega)
       have hwz : IntKind.i64.wrap ((x : Int) + (Z : Int)) = (x : Int) + (Z : Int) := IntWalk.i64_in _ (by omega)
       clear hf2 hb8 hLb lG g0 g1
       simp only [putAll, put_lit, List.map_cons, List.map_nil, List.set_cons_succ, List.set_cons_zero]
       simp only [e64, e78]
       dsimp only [List.drop]
       refine wpList_app_lies rfl _ _ 95 99 rfl (.agg #[.int .i64 0, .int .i64 0, .int .i64 0, .int .i64 0]) 4 32 infoCluster Tryz.underlying95 rfl (by decide) (by decide) w1.heap.size _ _ _ [.int .i64 x, .int .i64 ((x : Int) + Z), .int .i64 (classF C), .int .i64 (cellsF C)] HO8.out rfl b HLb.out rfl rfl (by intro u hu; simp at hu; rcases hu with rfl | rfl | rfl | rfl <;> rfl) hll hsz8 ?_
       intro v2 w3 hown3 hg3
       have cU := (grown_cella hg3 (p := ⟨g, k * 2 + 1, none⟩) hgl8 (fun h => by have := (HO8.out.lt g h).1; omega)).trans hu8
       have HO3 := Lib.hid hown3
       have HB3 := Lib.hid (HB8.out.grown hg3 hsz8 (fun j hj => (HO8.out.lt j hj).1))
       clear hown3 hg3 e64 e78 hbb hll hsz8 hu8 hgl8 hkp hkp2 hwm hm0 hmI hUm HLb HO8 HB8 hul hLl hz4 hgt hle hbu hbx hg1 hUl hpl hlt hx
       go_wp2
       go_roundw
       case rel => exact HF.out _ _ (by rw [HN.out, cellsC_app, List.length_append, HZ.out]; exact HO3.out) HB3.out
       case measure => simp [intOf]; omega
     | true =>
      obtain ⟨Ls, c', hg1', hg2'⟩ := Lst_grow s hlt hbx (by rw [HGlue.out]; simp)
      rw [HCC.out] at hg2'
      have hLn : (Lst s x).length = Ls.length + 1 := by rw [hg1', List.length_append]; rfl
      have hcl : (cellsC Ls).length = Ls.length * 4 := cellsC_len Ls
      have hcc : cellsC (Lst s x) = cellsC Ls ++ four ((c' : Int), (x : Int), clsAt s c' x, widAt s c' x) := by rw [hg1', cellsC_app]
      obtain ⟨gb, cap, he, -, -⟩ := HO.out.form (by omega)
      subst he
      have at' : ∀ j v, (four ((c' : Int), (x : Int), clsAt s c' x, widAt s c' x))[j]? = some v → W7.cell? ⟨gb, Ls.length * 4 + j, none⟩ = some v := by
       intro j v hj
       have hj4 : j < 4 := by
        have := (List.getElem?_eq_some_iff.1 hj).1
        simpa [four] using this
       rw [HO.out.cellAt (Ls.length * 4 + j) (by omega), hcc, List.getElem?_append_right (by omega), hcl, show Ls.length * 4 + j - Ls.length * 4 = j by omega]
       exact hj
      have r0 := at' 0 _ rfl
      have r1 := at' 1 _ rfl
      have r2 := at' 2 _ rfl
      have r3 := at' 3 _ rfl
      rw [Nat.add_zero] at r0
      have gbl : gb < W7.heap.size := World.block_lt_of_cell? W7 _ r0
      have z0 := HO.out.frozenAt (Ls.length * 4)
      have z1 := HO.out.frozenAt (Ls.length * 4 + 1)
      have z2 := HO.out.frozenAt (Ls.length * 4 + 2)
      have z3 := HO.out.frozenAt (Ls.length * 4 + 3)
      have hM : Hid ((Lst s x).length = Ls.length + 1) := hLn
      obtain ⟨K, hK⟩ : ∃ K, clsAt s c' x = K := ⟨_, rfl⟩
      obtain ⟨V, hV⟩ : ∃ V, widAt s c' x = V := ⟨_, rfl⟩
      simp only [hK, hV] at r2 r3 hg2' hcc
      have H2 := Lib.hid hg2'
      have HCl := Lib.hid hcl
      have HCcc := Lib.hid hcc
      rw [hLn] at HO ⊢
      have hMb : Ls.length ≤ 1073741824 := by omega
      obtain ⟨M, hMM⟩ : ∃ M, Ls.length = M := ⟨_, rfl⟩
      rw [hMM] at r0 r1 r2 r3 z0 z1 z2 z3 HO HCl hM hMb ⊢
      have hwM : IntKind.i64.wrap (M : Int) = (M : Int) := IntWalk.i64_in _ (by omega)
      have hM0 : (0 : Int) ≤ (M : Int) := by omega
      have hM1 : (M : Int) < (M : Int) + 1 := by omega
      have hwz : IntKind.i64.wrap ((x : Int) + (Z : Int)) = (x : Int) + (Z : Int) := IntWalk.i64_in _ (by omega)
      have g0 := G0.out
      have g1 := G1.out
      have lG := HGl.out
      clear hg1' hg2' hLn hcl hcc at' hK hV hMM HGlue HCC HJ V0 V1 hkp hkp2 hwm hm0 hmI hUm hul hLl hz4 hgt hle hbu hbx hUl hpl hlt hx
      simp only [putAll, put_lit, List.map_cons, List.map_nil, List.set_cons_succ, List.set_cons_zero]
      simp only [f30]
      clear f30
      obtain ⟨K2, hK2⟩ : ∃ K2 : Int, (if C = 10 then 1 else K) = K2 := ⟨_, rfl⟩
      obtain ⟨V2, hV2⟩ : ∃ V2 : Int, (if C = 10 then 0 else V) = V2 := ⟨_, rfl⟩
      rw [hK2, hV2] at H2
      replace r0 : W7.cell? ⟨gb, M * 4, none⟩ = some (.int .i64 (c' : Int)) := r0
      replace r1 : W7.cell? ⟨gb, M * 4 + 1, none⟩ = some (.int .i64 (x : Int)) := r1
      go_upto_if 50 with fail
      go_cut [] (fun wx => wx = W7.alloc (.cells #[.int .i64 (c' : Int), .int .i64 ((x : Int) + (Z : Int)), .int .i64 K2, .int .i64 V2] 99))
      case first =>
       by_cases h10 : C = 10
       ·rw [if_pos h10] at hK2 hV2
        subst hK2 hV2
        subst h10
        clear r0 r1 r2 r3 z0 z1 z2 z3
        go_wp2
        go_meet
        rfl
       ·rw [if_neg h10] at hK2 hV2
        subst hK2 hV2
        have h10' : (C == 10) = false := by simpa using h10
        clear h10 r0 r1 r2 r3 z0 z1 z2 z3
        go_wp2
        go_meet
        rfl
      case rest =>
       have hL8 : Lies wc W7.heap.size [.int .i64 (c' : Int), .int .i64 ((x : Int) + (Z : Int)), .int .i64 K2, .int .i64 V2] := by rw [hcut]; exact Lies.new _ _ _
       have hb8 : Below W7.heap.size W7 wc := by rw [hcut]; exact (Below.refl _ _).alloc (Nat.le_refl _) _
       have gbl : gb < W7.heap.size := World.block_lt_of_cell? W7 _ r0
       replace r0 := (hb8.cell (p := ⟨gb, M * 4, none⟩) gbl).trans r0
       replace r1 := (hb8.cell (p := ⟨gb, M * 4 + 1, none⟩) gbl).trans r1
       replace r2 := (hb8.cell (p := ⟨gb, M * 4 + 2, none⟩) gbl).trans r2
       replace r3 := (hb8.cell (p := ⟨gb, M * 4 + 3, none⟩) gbl).trans r3
       have HO := Lib.hid (own_belowC HO.out hb8)
       have HBc := Lib.hid (HB.out.trans (hb8.mono HB.out.size))
       have G1c := Lib.hid ((hb8.cell (p := ⟨g, k * 2 + 1, none⟩) lG).trans g1)
       have z0 := HO.out.frozenAt (M * 4)
       have z1 := HO.out.frozenAt (M * 4 + 1)
       have z2 := HO.out.frozenAt (M * 4 + 2)
       have z3 := HO.out.frozenAt (M * 4 + 3)
       obtain ⟨lB, lc⟩ := hL8
       have b0 := (lc 0 _ rfl).1
       have b1 := (lc 1 _ rfl).1
       have b2 := (lc 2 _ rfl).1
       have b3 := (lc 3 _ rfl).1
       generalize W7.heap.size = B at *
       clear hb8 hcut g0 g1 G0 G1 lG HGl HB lc
       go_upto_region 16 with fail
       have hgb := (HO.out.lt gb rfl).1
       have hR := row_four HO.out HCcc.out HCl.out ((c' : Int), (x : Int) + (Z : Int), K2, V2)
       have hCh := four_chg wc gb (M * 4) (.int .i64 (c' : Int)) (.int .i64 ((x : Int) + (Z : Int))) (.int .i64 K2) (.int .i64 V2)
       have hup : (up s x : Int) = (x : Int) + (Z : Int) := by have := HZ.out; omega
       rw [hup] at H2
       have hB9 := chg_mine HBc.out hCh hgb
       have hgne : ¬ g = gb := by omega
       have hgc := World.block_lt_of_cell? wc _ G1c.out
       have hu9 := (World.cell?_of_block (w := wc) (a := ⟨g, k * 2 + 1, none⟩) (hCh.block g hgc hgne)).trans G1c.out
       have hl2 : (Lst s (up s x)).length = M + 1 := by
        have e1 := congrArg List.length HCcc.out
        have e2 : (cellsC Ls).length = Ls.length * 4 := cellsC_len Ls
        have e3 := HCl.out
        rw [H2.out, List.length_append]; simp; omega
       have hR2 : Hid ((((wc.setCell ⟨gb, M * 4, none⟩ (.int .i64 (c' : Int))).setCell ⟨gb, M * 4 + 1, none⟩ (.int .i64 ((x : Int) + (Z : Int)))).setCell ⟨gb, M * 4 + 2, none⟩ (.int .i64 K2)).setCell ⟨gb, M * 4 + 3, none⟩ (.int .i64 V2) |>.ownsRow w1.heap.size 99 4 (.slice (some ⟨gb, 0, none⟩) (M + 1) cap) (Lst s (up s x)).length (cellsC (Lst s (up s x)))) := by
        rw [hl2, H2.out, cellsC_app]; exact hR
       have HB9 := Lib.hid hB9
       clear hR hCh hup H2 hB9 hgb hgne hgc hl2 G1c HBc HO HCcc HCl HZ r0 r1 r2 r3 z0 z1 z2 z3 b0 b1 b2 b3 lB gbl hg1 hM hMb hwM hM0 hM1
       generalize (((wc.setCell ⟨gb, M * 4, none⟩ (.int .i64 (c' : Int))).setCell ⟨gb, M * 4 + 1, none⟩ (.int .i64 ((x : Int) + (Z : Int)))).setCell ⟨gb, M * 4 + 2, none⟩ (.int .i64 K2)).setCell ⟨gb, M * 4 + 3, none⟩ (.int .i64 V2) = W9 at *
       go_wp2
       go_roundw
       case rel => exact HF.out _ _ hR2.out HB9.out
       case measure => simp [intOf]; omega
  ·obtain rfl : x = s.size := by omega
   rw [unAts_end (Nat.le_refl _), List.append_nil] at hpre
   subst hpre
   have hO2 := own_mono HO.out HB1.out.size
   have HO2 := Lib.hid hO2
   have HB2 := Lib.hid (HB1.out.trans (HB.out.mono HB1.out.size))
   clear hown hb hprev hnil hO2 hlt
   go_wp2
   go_ret
   exact ⟨_, rfl, HO2.out, HB2.out⟩
end Go.Proofs.YtfchglcclgcgfaaGreatDoor.Ut
