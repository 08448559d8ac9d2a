/-
  What the proof of the row LinesColumns rests on: the texts RfB LwG. Conditions: each theorem names its own.
-/
import Derived.Test.YtgmpohdkignadaaGreatDoorMgLinesColumnsa
import Derived.Test.YtgmpohdkignadaaGreatDoorMgLj
import Derived.Test.YtgmpohdkignadaaGreatDoorMgLg
import Derived.Test.YtgmpohdkignadaaGreatDoorMgLinesColumnsb
/-
  bodkinref11.Span, Line: what they answer. No condition.
-/
namespace Go.Proofs.YtgmpohdkignadaaGreatDoor.Ut
open Go.RowKit Go.Proofs.YtgmpohdkignadaaGreatDoor.Reg
set_option linter.unusedVariables false
set_option linter.unusedSimpArgs false

set_option maxRecDepth 100000 in
set_option maxHeartbeats 1000000 in
theorem RefSpan_any (s : ByteArray) (l : Int) (w : World) (hs : s.size ≤ 1073741824) :
    Calls Tryz.prog 24 #[.string s, .int .i64 l] w fun e w' => e = .returned (.tuple #[.agg #[.int .i64 (spanA s l).1, .int .i64 (spanA s l).2.1], .int .i64 (spanA s l).2.2]) ∧ Below w.heap.size w w' := by
  obtain ⟨W0, hW0, A0, b0, hsz⟩ := boxL1 w [.int .i64 0, .int .i64 0] 41
  have HE := Lib.hid hW0
  have HA := Lib.hid A0
  have HB := Lib.hid b0
  clear hW0 A0 b0 hsz
  have hnz := nlTo_le s s.size
  rw [nlTo_all] at hnz
  go_enter Tryz.func24, Tryz.ntmps24
  go_wp2_with fail
  rw [HE.out]
  refine (RefLines_any s W0 hs).mono ?_
  rintro e w1 ⟨v, rfl, hown, hb⟩
  have hlen := spansT_len s (nlF s + 1)
  have HA := Lib.hid (HA.out.below hb)
  have HB := Lib.hid (HB.out.trans (hb.mono HB.out.size))
  clear hb
  by_cases hc : 0 ≤ l ∧ l < (nlF s : Int) + 1
  · obtain ⟨n, rfl⟩ : ∃ n : Nat, l = n := ⟨l.toNat, by omega⟩
    have he : spanA s n = ((beginF s (n : Nat) : Int), (spanT s n : Int), 0) := by unfold spanA; rw [if_pos hc, Int.toNat_natCast]
    obtain ⟨g, c, rfl, q0, q1⟩ := span_cells hown rfl n (by omega)
    rw [spansT_at] at q0 q1
    rw [hlen]
    clear hown
    obtain ⟨F, hF⟩ : ∃ F, beginF s (n : Nat) = F := ⟨_, rfl⟩
    obtain ⟨T, hT⟩ : ∃ T, spanT s n = T := ⟨_, rfl⟩
    rw [hF, hT] at q0 q1 he
    have HEe := Lib.hid he
    clear hF hT he hlen
    have L := Lib.hid (Lies.stored HA.out [.int .i64 F, .int .i64 T] rfl).2
    have HB2 := Lib.hid (chg_mine HB.out (sets_chg w.heap.size [.int .i64 F, .int .i64 T] 0 _) (Nat.le_refl _))
    obtain ⟨d0, e0⟩ := HA.out.2 0 _ rfl
    obtain ⟨d1, e1⟩ := HA.out.2 1 _ rfl
    have h0 : ¬ (n : Int) < 0 := by omega
    have h1 : ¬ ((nlF s + 1 : Nat) : Int) ≤ (n : Int) := by omega
    have h2 : (0 : Int) ≤ (n : Int) := by omega
    have h3 : (n : Int) < ((nlF s + 1 : Nat) : Int) := by omega
    generalize hNN : nlF s + 1 = N at *
    clear hNN
    go_wp2
    have j0 := (L.out 0 _ rfl).1
    have j1 := (L.out 1 _ rfl).1
    simp only [World.setCells] at j0 j1
    refine bodyPost_ret (v := .tuple #[.agg #[.int .i64 F, .int .i64 T], .int .i64 0]) (by simp [results, Tryz.results24, go_sem, j0, j1]) rfl ⟨by rw [HEe.out], HB2.out⟩
  · have he : spanA s l = (0, 0, 1) := by unfold spanA; rw [if_neg hc]
    have HEe := Lib.hid he
    obtain ⟨Aa, c, rfl⟩ := row_forma hown
    rw [hlen]
    have L := Lib.hid (Lies.stored HA.out [.int .i64 0, .int .i64 0] rfl).2
    have HB2 := Lib.hid (chg_mine HB.out (sets_chg w.heap.size [.int .i64 0, .int .i64 0] 0 _) (Nat.le_refl _))
    obtain ⟨d0, e0⟩ := HA.out.2 0 _ rfl
    obtain ⟨d1, e1⟩ := HA.out.2 1 _ rfl
    clear hown he hlen
    have hc2 : l < 0 ∨ (¬ l < 0 ∧ ((nlF s + 1 : Nat) : Int) ≤ l) := by omega
    clear hc hnz
    generalize hNN : nlF s + 1 = N at *
    clear hNN
    rcases hc2 with h0 | ⟨h0, h1⟩
    all_goals
      go_wp2
      have j0 := (L.out 0 _ rfl).1
      have j1 := (L.out 1 _ rfl).1
      simp only [World.setCells] at j0 j1
      refine bodyPost_ret (v := .tuple #[.agg #[.int .i64 0, .int .i64 0], .int .i64 1]) (by simp [results, Tryz.results24, go_sem, j0, j1]) rfl ⟨by rw [HEe.out], HB2.out⟩

set_option maxRecDepth 100000 in
set_option maxHeartbeats 1000000 in
theorem RefLine_any (s : ByteArray) (l : Int) (w : World) (hs : s.size ≤ 1073741824) :
    Calls Tryz.prog 26 #[.string s, .int .i64 l] w fun e w' => e = .returned (.tuple #[.string (lineA s l).1, .int .i64 (lineA s l).2]) ∧ Below w.heap.size w w' := by
  have HS := Lib.hid (RefSpan_any s l w hs)
  by_cases hc : 0 ≤ l ∧ l < (nlF s : Int) + 1
  · obtain ⟨n, rfl⟩ : ∃ n : Nat, l = n := ⟨l.toNat, by omega⟩
    have he : spanA s n = ((beginF s (n : Nat) : Int), (spanT s n : Int), 0) := by unfold spanA; rw [if_pos hc, Int.toNat_natCast]
    have he2 : lineA s n = (s.extract (beginF s (n : Nat)) (spanT s n), 0) := by unfold lineA; rw [if_pos hc, Int.toNat_natCast]
    have hle := begin_span s n (by omega)
    have ht := spanT_le s n
    rw [he] at HS
    rw [he2]
    obtain ⟨F, hF⟩ : ∃ F, beginF s (n : Nat) = F := ⟨_, rfl⟩
    obtain ⟨T, hT⟩ : ∃ T, spanT s n = T := ⟨_, rfl⟩
    rw [hF, hT] at HS hle ⊢
    rw [hT] at ht
    clear hF hT he he2 hc
    have g0 : (0 : Int) ≤ (F : Int) := by omega
    have g1 : (F : Int) ≤ (T : Int) := by omega
    have g2 : (T : Int) ≤ (s.size : Int) := by omega
    go_enter Tryz.func26, Tryz.ntmps26
    go_wp2_with fail
    refine HS.out.mono ?_
    rintro e w1 ⟨rfl, hb⟩
    have hb2 : Below w.heap.size w (w1.alloc (.cells #[.int .i64 F, .int .i64 T] 41)) := hb.alloc hb.size _
    have HB := Lib.hid hb2
    clear hb hb2 HS
    go_wp2
    refine bodyPost_ret (v := .tuple #[.string (s.extract F T), .int .i64 0]) (by simp [results, Tryz.results26, go_sem]) rfl ⟨rfl, HB.out⟩
  · have he : spanA s l = (0, 0, 1) := by unfold spanA; rw [if_neg hc]
    have he2 : lineA s l = (⟨#[]⟩, 1) := by unfold lineA; rw [if_neg hc]
    rw [he] at HS
    rw [he2]
    clear he he2 hc
    go_enter Tryz.func26, Tryz.ntmps26
    go_wp2_with fail
    refine HS.out.mono ?_
    rintro e w1 ⟨rfl, hb⟩
    have hb2 : Below w.heap.size w (w1.alloc (.cells #[.int .i64 0, .int .i64 0] 41)) := hb.alloc hb.size _
    have HB := Lib.hid hb2
    clear hb hb2 HS
    go_wp2
    refine bodyPost_ret (v := .tuple #[.string ⟨#[]⟩, .int .i64 1]) (by simp [results, Tryz.results26, go_sem]) rfl ⟨rfl, HB.out⟩
end Go.Proofs.YtgmpohdkignadaaGreatDoor.Ut
/-
  The law LinesSpans, walked. Condition: the two tables of unicode/utf8 lie as laid.
-/
namespace Go.Proofs.YtgmpohdkignadaaGreatDoor.Ut
open Go.RowKit Go.Proofs.YtgmpohdkignadaaGreatDoor.Reg Go.ChangeShapes Go.WideShapes
set_option linter.unusedVariables false
set_option linter.unusedSimpArgs false

theorem add_blocka (a : Addr) (k : Nat) : (a.add k).block = a.block := by unfold Addr.add; split <;> rfl
/-- A slice's numbers. -/
def IntsAt (W : World) (A : Option Addr) (l : List Int) : Prop := l = [] ∨ ∃ ad, A = some ad ∧ ad.block < W.heap.size ∧ ∀ i (h : i < l.length), W.cell? (ad.add i) = some (.int .i64 l[i])
theorem IntsAt.below {W W' : World} {A : Option Addr} {l : List Int} (h : IntsAt W A l) (hb : Below W.heap.size W W') : IntsAt W' A l := by
  rcases h with h | ⟨ad, h1, h2, h3⟩
  · exact .inl h
  · exact .inr ⟨ad, h1, Nat.lt_of_lt_of_le h2 hb.size, fun i hi => (hb.cell (by rw [add_blocka]; exact h2)).trans (h3 i hi)⟩
theorem open_nums {H : Type} {enc : TypeId × Value → H} {W : World} {v : Value} {d : DataW H} {p : List MemPlace} (h : DataW.Trod enc Tryz.prog W 0 (fun _ => true) true 24 v d p) (hc : v.cells.toList = [v]) :
    ∃ (A : Option Addr) (l : List Int) (c : Nat), v = .slice A l.length c ∧ IntsAt W A l ∧ l.length ≤ maxLen := by
  obtain ⟨fuel, hf⟩ := h
  rw [hc] at hf
  rcases open_ints Tryz.underlying24 Tryz.underlying3 (by kernel_rfl) hf with ⟨hv, -⟩ | ⟨a, len, cap, zs, hv, -, hl, hm, hz, -, hcell, -⟩
  · obtain rfl : v = .slice none 0 0 := by simpa using hv
    exact ⟨none, [], 0, rfl, .inl rfl, by simp [maxLen]⟩
  · obtain rfl : v = .slice (some a) len cap := by simpa using hv
    have hzl : len ≤ zs.length := by simp at hz; omega
    refine ⟨some a, zs.take len, cap, by rw [List.length_take, Nat.min_eq_left hzl], ?_, by rw [List.length_take]; omega⟩
    rcases Nat.eq_zero_or_pos len with h0 | h0
    · exact .inl (by rw [h0]; rfl)
    · have hcl : ∀ i (h : i < (zs.take len).length), W.cell? (a.add i) = some (.int .i64 (zs.take len)[i]) := by
        intro i hi
        have hi2 : i < len := by rw [List.length_take] at hi; omega
        rw [hcell i (by omega), List.getElem_take, List.getD_eq_getElem?_getD, List.getElem?_eq_getElem (by omega)]; rfl
      have hb := World.block_lt_of_cell? W _ (hcl 0 (by rw [List.length_take]; omega))
      rw [add_blocka] at hb
      exact .inr ⟨a, rfl, hb, hcl⟩

def VSp6 (A : Nat) (t : TypeId) (vx : Value) (s : ByteArray) : Nat → Value → World → Prop := fun d x w => match d with
  | 29 => x = .bool true
  | 30 => x = .bool false
  | 31 => x = .bool false
  | 32 => x = .iface t vx
  | 33 => x = .int .i64 ((nlF s : Int) + 1)
  | 34 => x = .pointer (some ⟨A, 0, none⟩)
  | 35 => x = .string s
  | 36 => x = .int .i64 ((nlF s : Int) + 1)
  | 37 => x = .bool false
  | 38 => x = .bool false
  | _ => True
theorem VSp6_mono (A : Nat) (t : TypeId) (vx : Value) (s : ByteArray) : ∀ d x w w', VSp6 A t vx s d x w → Below w.heap.size w w' → VSp6 A t vx s d x w' := by
  exact fun _ _ _ _ h _ => h

def VSp12 (A n c i : Nat) (ad : Addr) (y p q : Int) (s : ByteArray) : Nat → Value → World → Prop := fun d x w => match d with
  | 55 => x = .pointer (some ⟨A, 0, none⟩)
  | 56 => x = .string s
  | 57 => x = .slice (some ad) n c
  | 58 => x = .int .i64 i
  | 59 => x = .pointer (some (ad.add i))
  | 60 => x = .int .i64 y
  | 61 => x = .tuple #[.int .i64 p, .int .i64 q]
  | 54 => x = .tuple #[.int .i64 p, .int .i64 q]
  | 62 => x = .int .i64 p
  | 63 => x = .int .i64 q
  | 10 => x = .int .i64 p
  | 11 => x = .int .i64 q
  | _ => True
theorem VSp12_mono (A n c i : Nat) (ad : Addr) (y p q : Int) (s : ByteArray) : ∀ d x w w', VSp12 A n c i ad y p q s d x w → Below w.heap.size w w' → VSp12 A n c i ad y p q s d x w' := by
  exact fun _ _ _ _ h _ => h
def VSp14 (A n0 n c i : Nat) (ad : Addr) (y p q r : Int) (s : ByteArray) : Nat → Value → World → Prop := fun d x w => match d with
  | 74 => x = .pointer (some ⟨A, 0, none⟩)
  | 75 => x = .string s
  | 76 => x = .slice (some ad) n c
  | 77 => x = .int .i64 i
  | 78 => x = .pointer (some (ad.add i))
  | 79 => x = .int .i64 y
  | 80 => x = .tuple #[.agg #[.int .i64 p, .int .i64 q], .int .i64 r]
  | 73 => x = .tuple #[.agg #[.int .i64 p, .int .i64 q], .int .i64 r]
  | 81 => x = .agg #[.int .i64 p, .int .i64 q]
  | 82 => x = .int .i64 r
  | 14 => ∃ g, x = .pointer (some ⟨g, 0, none⟩) ∧ n0 ≤ g ∧ ∃ u v, Lies w g [u, v]
  | 15 => x = .int .i64 r
  | _ => True
theorem VSp14_mono (A n0 n c i : Nat) (ad : Addr) (y p q r : Int) (s : ByteArray) : ∀ d x w w', VSp14 A n0 n c i ad y p q r s d x w → Below w.heap.size w w' → VSp14 A n0 n c i ad y p q r s d x w' := by
  intro d x w w' h hb
  unfold VSp14 at *
  split <;> first | exact h | exact trivial | skip
  obtain ⟨g, h1, h2, u, v, h3⟩ := h
  exact ⟨g, h1, h2, u, v, h3.below hb⟩
theorem two_chg {w : World} {g b : Nat} {u v : Value} (h : Lies w g [u, v]) (x y : Value) : ∃ u v, Lies (w.setCells b 0 [x, y]) g [u, v] := by
  by_cases e : g = b
  · subst e; exact ⟨x, y, Lies.stored h [x, y] rfl⟩
  · exact ⟨u, v, h.chg (sets_chg b [x, y] 0 w) e⟩
def VSp18 (A n c i : Nat) (ad : Addr) (y q : Int) (p : ByteArray) (s : ByteArray) : Nat → Value → World → Prop := fun d x w => match d with
  | 111 => x = .pointer (some ⟨A, 0, none⟩)
  | 112 => x = .string s
  | 113 => x = .slice (some ad) n c
  | 114 => x = .int .i64 i
  | 115 => x = .pointer (some (ad.add i))
  | 116 => x = .int .i64 y
  | 117 => x = .tuple #[.string p, .int .i64 q]
  | 110 => x = .tuple #[.string p, .int .i64 q]
  | 118 => x = .string p
  | 119 => x = .int .i64 q
  | 17 => x = .string p
  | 11 => x = .int .i64 q
  | _ => True
theorem VSp18_mono (A n c i : Nat) (ad : Addr) (y q : Int) (p : ByteArray) (s : ByteArray) : ∀ d x w w', VSp18 A n c i ad y q p s d x w → Below w.heap.size w w' → VSp18 A n c i ad y q p s d x w' := by
  exact fun _ _ _ _ h _ => h

set_option maxRecDepth 100000 in
set_option maxHeartbeats 4000000 in
theorem law_LinesSpans (s : ByteArray) (k : Int) (Aa : Option Addr) (nums : List Int) (c : Nat) (w : World) (hT : Tabs w) (hs : s.size ≤ 140737488355328) (hI : IntsAt w Aa nums) (hm : nums.length ≤ maxLen) :
    Calls Tryz.prog 6 #[.agg #[.string s, .int .i64 k], .slice Aa nums.length c] w fun e w' => e = .returned (.bool true) ∧ Below w.heap.size w w' := by
  obtain ⟨W0, hW0, A0, b0, hsz⟩ := boxL1 w [.string s, .int .i64 k] 23
  have HE := Lib.hid hW0
  have HA := Lib.hid A0
  have HB := Lib.hid b0
  have HI := Lib.hid (hI.below b0)
  have HT := Lib.hid (tabs_below hT b0)
  clear hW0 A0 b0 hsz hT hI
  go_enter Tryz.func6, Tryz.ntmps6
  go_wp2_with fail
  rw [HE.out]
  refine (awake_any W0 HT.out).mono ?_
  rintro e w1 ⟨rfl, hb⟩
  have HA := Lib.hid (HA.out.below hb)
  have HI := Lib.hid (HI.out.below hb)
  have HT := Lib.hid (tabs_below HT.out hb)
  have HB := Lib.hid (HB.out.trans (hb.mono HB.out.size))
  clear hb
  have lA := HA.out.1
  have a0 := (HA.out.2 0 _ rfl).1
  have a1 := (HA.out.2 1 _ rfl).1
  by_cases hbig : 1073741822 < s.size
  · have hb1 : (1073741822 : Int) < (s.size : Int) := by omega
    go_wp2
    go_ret
    exact ⟨rfl, HB.out⟩
  · have hb1 : ¬ (1073741822 : Int) < (s.size : Int) := by omega
    have hs2 : s.size ≤ 1073741824 := by omega
    go_wp2_with fail
    refine (keep_any s k w1 HT.out hs2).mono ?_
    rintro e w2 ⟨v, rfl, hv, hb⟩
    obtain ⟨vt, vx, rfl⟩ : ∃ t x, v = .iface t x := by
      rcases hv with ⟨b, rfl, _⟩ | ⟨b, i, T, rfl, _⟩
      · exact ⟨_, _, rfl⟩
      · exact ⟨_, _, rfl⟩
    have hV := hv.text (tabs_below HT.out hb) hs2
    have HV := Lib.hid hV
    have HA := Lib.hid (HA.out.below hb)
    have HI := Lib.hid (HI.out.below hb)
    have HT := Lib.hid (tabs_below HT.out hb)
    have HB := Lib.hid (HB.out.trans (hb.mono HB.out.size))
    clear hb
    clear hV hv a0 a1 lA hbig
    go_wp2
    have lA := HA.out.1
    generalize w.heap.size = A at HA lA ⊢
    refine wp_held' mixed (VSp6 A vt vx s) (VSp6_mono A vt vx s) (by kernel_rfl) [29, 30, 31, 32, 33, 34, 35, 36, 37, 38] (by kernel_rfl) (by kernel_rfl) ?_ ?_
    · intro j hj
      have hj' : j < 10 := hj
      rcases (by omega : j = 0 ∨ j = 1 ∨ j = 2 ∨ j = 3 ∨ j = 4 ∨ j = 5 ∨ j = 6 ∨ j = 7 ∨ j = 8 ∨ j = 9) with rfl | rfl | rfl | rfl | rfl | rfl | rfl | rfl | rfl | rfl
      · -- operation 0
        (refine owes_val (L := [(6, false)]) rfl rfl rfl (by kernel_rfl) ?_; intro a' w' hb' hfacts; obtain ⟨hf6, -⟩ := hfacts; replace hf6 : a'.tmps[6]?.getD undef = .bool true := hf6)
        have pA := ((HA.out.below hb').2 0 _ rfl).1
        (go_simp; first | exact ⟨_, rfl, Below.refl _ _, rfl⟩ | exact ⟨_, rfl, Below.refl _ _, trivial⟩ | exact ⟨_, rfl, (Below.refl _ _).alloc (Nat.le_refl _) _, trivial⟩ | exact ⟨_, rfl, Below.refl _ _, congrArg (Value.int _) (IntWalk.i64_in _ (by omega))⟩)
      · -- operation 1
        (refine owes_val (L := [(29, true)]) rfl rfl rfl (by kernel_rfl) ?_; intro a' w' hb' hfacts; obtain ⟨hf29, -⟩ := hfacts; try simp only [VSp6] at hf29)
        have pA := ((HA.out.below hb').2 0 _ rfl).1
        (go_simp; first | exact ⟨_, rfl, Below.refl _ _, rfl⟩ | exact ⟨_, rfl, Below.refl _ _, trivial⟩ | exact ⟨_, rfl, (Below.refl _ _).alloc (Nat.le_refl _) _, trivial⟩ | exact ⟨_, rfl, Below.refl _ _, congrArg (Value.int _) (IntWalk.i64_in _ (by omega))⟩)
      · -- operation 2
        (refine owes_val (L := [(30, true)]) rfl rfl rfl (by kernel_rfl) ?_; intro a' w' hb' hfacts; obtain ⟨hf30, -⟩ := hfacts; try simp only [VSp6] at hf30)
        have pA := ((HA.out.below hb').2 0 _ rfl).1
        (go_simp; first | exact ⟨_, rfl, Below.refl _ _, rfl⟩ | exact ⟨_, rfl, Below.refl _ _, trivial⟩ | exact ⟨_, rfl, (Below.refl _ _).alloc (Nat.le_refl _) _, trivial⟩ | exact ⟨_, rfl, Below.refl _ _, congrArg (Value.int _) (IntWalk.i64_in _ (by omega))⟩)
      · -- operation 3
        (refine owes_if (L := [(5, false), (31, true)]) rfl rfl rfl rfl (by kernel_rfl) ?_; intro a' w' hb' hfacts; obtain ⟨hf5, hf31, -⟩ := hfacts; replace hf5 : a'.tmps[5]?.getD undef = .iface vt vx := hf5; try simp only [VSp6] at hf31)
        have pA := ((HA.out.below hb').2 0 _ rfl).1
        first
          | (go_simp; first | exact ⟨_, rfl, Below.refl _ _, rfl⟩ | exact ⟨_, rfl, Below.refl _ _, trivial⟩ | exact ⟨_, rfl, Below.refl _ _⟩ | exact ⟨_, rfl, (Below.refl _ _).alloc (Nat.le_refl _) _, trivial⟩)
          | (apply Exists.intro
             apply And.intro
             · assumption
             · apply And.intro
               · intro hc
                 first
                   | (refine absurd hc ?_; simp [undef]; done)
                   | (go_simp; first | exact ⟨_, rfl, Below.refl _ _, rfl⟩ | exact ⟨_, rfl, Below.refl _ _, trivial⟩ | exact ⟨_, rfl, Below.refl _ _⟩ | exact ⟨_, rfl, (Below.refl _ _).alloc (Nat.le_refl _) _, trivial⟩)
               · intro hc
                 first | exact absurd rfl hc | exact trivial | exact rfl)
          | (apply Exists.intro
             apply And.intro
             · assumption
             · intro hc
               first
                 | (refine absurd hc ?_; simp [undef]; done)
                 | (go_simp; first | exact ⟨_, rfl, Below.refl _ _, rfl⟩ | exact ⟨_, rfl, Below.refl _ _, trivial⟩ | exact ⟨_, rfl, Below.refl _ _⟩ | exact ⟨_, rfl, (Below.refl _ _).alloc (Nat.le_refl _) _, trivial⟩))
      · -- operation 4
        (refine owes_if (L := [(32, true), (31, true)]) rfl rfl rfl rfl (by kernel_rfl) ?_; intro a' w' hb' hfacts; obtain ⟨hf32, hf31, -⟩ := hfacts; try simp only [VSp6] at hf32; try simp only [VSp6] at hf31)
        refine ⟨_, hf31, fun _ => ?_, fun hc => absurd rfl hc⟩
        go_simp
        refine (LnCount_any _ s _ (HV.out.below hb')).mono ?_
        rintro e w3 ⟨rfl, hb3⟩
        exact ⟨_, rfl, hb3, rfl⟩
      · -- operation 5
        (refine owes_if (L := [(2, false), (31, true)]) rfl rfl rfl rfl (by kernel_rfl) ?_; intro a' w' hb' hfacts; obtain ⟨hf2, hf31, -⟩ := hfacts; replace hf2 : a'.tmps[2]?.getD undef = .pointer (some ⟨A, 0, none⟩) := hf2; try simp only [VSp6] at hf31)
        have pA := ((HA.out.below hb').2 0 _ rfl).1
        first
          | (go_simp; first | exact ⟨_, rfl, Below.refl _ _, rfl⟩ | exact ⟨_, rfl, Below.refl _ _, trivial⟩ | exact ⟨_, rfl, Below.refl _ _⟩ | exact ⟨_, rfl, (Below.refl _ _).alloc (Nat.le_refl _) _, trivial⟩)
          | (apply Exists.intro
             apply And.intro
             · assumption
             · apply And.intro
               · intro hc
                 first
                   | (refine absurd hc ?_; simp [undef]; done)
                   | (go_simp; first | exact ⟨_, rfl, Below.refl _ _, rfl⟩ | exact ⟨_, rfl, Below.refl _ _, trivial⟩ | exact ⟨_, rfl, Below.refl _ _⟩ | exact ⟨_, rfl, (Below.refl _ _).alloc (Nat.le_refl _) _, trivial⟩)
               · intro hc
                 first | exact absurd rfl hc | exact trivial | exact rfl)
          | (apply Exists.intro
             apply And.intro
             · assumption
             · intro hc
               first
                 | (refine absurd hc ?_; simp [undef]; done)
                 | (go_simp; first | exact ⟨_, rfl, Below.refl _ _, rfl⟩ | exact ⟨_, rfl, Below.refl _ _, trivial⟩ | exact ⟨_, rfl, Below.refl _ _⟩ | exact ⟨_, rfl, (Below.refl _ _).alloc (Nat.le_refl _) _, trivial⟩))
      · -- operation 6
        (refine owes_if (L := [(34, true), (31, true)]) rfl rfl rfl rfl (by kernel_rfl) ?_; intro a' w' hb' hfacts; obtain ⟨hf34, hf31, -⟩ := hfacts; try simp only [VSp6] at hf34; try simp only [VSp6] at hf31)
        have pA := ((HA.out.below hb').2 0 _ rfl).1
        first
          | (go_simp; first | exact ⟨_, rfl, Below.refl _ _, rfl⟩ | exact ⟨_, rfl, Below.refl _ _, trivial⟩ | exact ⟨_, rfl, Below.refl _ _⟩ | exact ⟨_, rfl, (Below.refl _ _).alloc (Nat.le_refl _) _, trivial⟩)
          | (apply Exists.intro
             apply And.intro
             · assumption
             · apply And.intro
               · intro hc
                 first
                   | (refine absurd hc ?_; simp [undef]; done)
                   | (go_simp; first | exact ⟨_, rfl, Below.refl _ _, rfl⟩ | exact ⟨_, rfl, Below.refl _ _, trivial⟩ | exact ⟨_, rfl, Below.refl _ _⟩ | exact ⟨_, rfl, (Below.refl _ _).alloc (Nat.le_refl _) _, trivial⟩)
               · intro hc
                 first | exact absurd rfl hc | exact trivial | exact rfl)
          | (apply Exists.intro
             apply And.intro
             · assumption
             · intro hc
               first
                 | (refine absurd hc ?_; simp [undef]; done)
                 | (go_simp; first | exact ⟨_, rfl, Below.refl _ _, rfl⟩ | exact ⟨_, rfl, Below.refl _ _, trivial⟩ | exact ⟨_, rfl, Below.refl _ _⟩ | exact ⟨_, rfl, (Below.refl _ _).alloc (Nat.le_refl _) _, trivial⟩))
      · -- operation 7
        (refine owes_if (L := [(35, true), (31, true)]) rfl rfl rfl rfl (by kernel_rfl) ?_; intro a' w' hb' hfacts; obtain ⟨hf35, hf31, -⟩ := hfacts; try simp only [VSp6] at hf35; try simp only [VSp6] at hf31)
        refine ⟨_, hf31, fun _ => ?_, fun hc => absurd rfl hc⟩
        go_simp
        refine (RefCount_any s _ hs2).mono ?_
        rintro e w3 ⟨rfl, hb3⟩
        exact ⟨_, rfl, hb3, rfl⟩
      · -- operation 8
        (refine owes_if (L := [(33, true), (36, true), (31, true)]) rfl rfl rfl rfl (by kernel_rfl) ?_; intro a' w' hb' hfacts; obtain ⟨hf33, hf36, hf31, -⟩ := hfacts; try simp only [VSp6] at hf33; try simp only [VSp6] at hf36; try simp only [VSp6] at hf31)
        have pA := ((HA.out.below hb').2 0 _ rfl).1
        first
          | (go_simp; first | exact ⟨_, rfl, Below.refl _ _, rfl⟩ | exact ⟨_, rfl, Below.refl _ _, trivial⟩ | exact ⟨_, rfl, Below.refl _ _⟩ | exact ⟨_, rfl, (Below.refl _ _).alloc (Nat.le_refl _) _, trivial⟩)
          | (apply Exists.intro
             apply And.intro
             · assumption
             · apply And.intro
               · intro hc
                 first
                   | (refine absurd hc ?_; simp [undef]; done)
                   | (go_simp; first | exact ⟨_, rfl, Below.refl _ _, rfl⟩ | exact ⟨_, rfl, Below.refl _ _, trivial⟩ | exact ⟨_, rfl, Below.refl _ _⟩ | exact ⟨_, rfl, (Below.refl _ _).alloc (Nat.le_refl _) _, trivial⟩)
               · intro hc
                 first | exact absurd rfl hc | exact trivial | exact rfl)
          | (apply Exists.intro
             apply And.intro
             · assumption
             · intro hc
               first
                 | (refine absurd hc ?_; simp [undef]; done)
                 | (go_simp; first | exact ⟨_, rfl, Below.refl _ _, rfl⟩ | exact ⟨_, rfl, Below.refl _ _, trivial⟩ | exact ⟨_, rfl, Below.refl _ _⟩ | exact ⟨_, rfl, (Below.refl _ _).alloc (Nat.le_refl _) _, trivial⟩))
      · -- operation 9
        (refine owes_val (L := [(31, true), (37, true)]) rfl rfl rfl (by kernel_rfl) ?_; intro a' w' hb' hfacts; obtain ⟨hf31, hf37, -⟩ := hfacts; try simp only [VSp6] at hf31; try simp only [VSp6] at hf37)
        have pA := ((HA.out.below hb').2 0 _ rfl).1
        (go_simp; first | exact ⟨_, rfl, Below.refl _ _, rfl⟩ | exact ⟨_, rfl, Below.refl _ _, trivial⟩ | exact ⟨_, rfl, (Below.refl _ _).alloc (Nat.le_refl _) _, trivial⟩ | exact ⟨_, rfl, Below.refl _ _, congrArg (Value.int _) (IntWalk.i64_in _ (by omega))⟩)
    · intro f W9 hf hb3
      have f38 : f 38 = .bool false := hf 38 (by decide)
      have HA := Lib.hid (HA.out.below hb3)
      have HV := Lib.hid (HV.out.below hb3)
      have HI := Lib.hid (HI.out.below hb3)
      have HT := Lib.hid (tabs_below HT.out hb3)
      have HB := Lib.hid (HB.out.trans (hb3.mono HB.out.size))
      clear hb3
      clear hf lA
      simp only [putAll, put_lit, List.map_cons, List.map_nil, List.set_cons_succ, List.set_cons_zero]
      simp only [f38]
      go_wp2
      go_loopw [7] (fun x wr => ∃ i : Nat, i ≤ nums.length ∧ x = .int .i64 i ∧ Below W9.heap.size W9 wr) (fun x _ => nums.length - (intOf x).toNat)
      case atStart => exact ⟨0, Nat.zero_le _, rfl, Below.refl _ _⟩
      case round =>
        obtain ⟨i, hi, rfl, hbl⟩ := hrel
        by_cases hlt : i < nums.length
        · have HBl := Lib.hid hbl
          have HA := Lib.hid (HA.out.below hbl)
          have HV := Lib.hid (HV.out.below hbl)
          have HI := Lib.hid (HI.out.below hbl)
          have HT := Lib.hid (tabs_below HT.out hbl)
          clear hbl
          obtain hnil | ⟨ad, rfl, had, hx⟩ := HI.out
          · rw [hnil] at hlt; exact absurd hlt (by simp)
          have q0 := hx i hlt
          generalize nums[i] = x at q0
          clear hx
          go_wp2_with fail
          refine (LnOf_all _ s x wr HV.out).mono ?_
          rintro e w3 ⟨rfl, hb⟩
          have q1 := (hb.cell (by rw [add_blocka]; exact had)).trans q0
          have HBm := Lib.hid (HBl.out.trans (hb.mono HBl.out.size))
          have HA := Lib.hid (HA.out.below hb)
          have HV := Lib.hid (HV.out.below hb)
          have HI := Lib.hid (HI.out.below hb)
          have HT := Lib.hid (tabs_below HT.out hb)
          clear hb
          clear q0 HBl
          go_wp2
          have lA := HA.out.1
          have HQ1 := Lib.hid q1
          have had3 := World.block_lt_of_cell? _ _ q1
          rw [add_blocka] at had3
          have HRO := Lib.hid (fun w => RefOf_any s x w hs2)
          have KS := fun w h => LnSpan_all (.iface vt vx) s x w h
          have HRS := Lib.hid (fun w => RefSpan_any s x w hs2)
          have KL := fun w h => LnLine_all (.iface vt vx) s x w h
          have HRL := Lib.hid (fun w => RefLine_any s x w hs2)
          have HKS := Lib.hid KS
          have HKL := Lib.hid KL
          clear q1 KS KL
          obtain ⟨⟨p1, p2⟩, hp⟩ : ∃ p, ofA s x = p := ⟨_, rfl⟩
          obtain ⟨⟨r1, r2, r3⟩, hr⟩ : ∃ p, spanA s x = p := ⟨_, rfl⟩
          obtain ⟨⟨t1, t2⟩, ht⟩ : ∃ p, lineA s x = p := ⟨_, rfl⟩
          rw [hp] at HRO ⊢
          rw [hr] at HRS HKS
          rw [ht] at HRL HKL
          clear hp hr ht
          have i0 : (0 : Int) ≤ (i : Int) := by omega
          have i1 : (i : Int) < (nums.length : Int) := by omega
          refine wp_held' mixed (VSp12 A nums.length c i ad x p1 p2 s) (VSp12_mono A nums.length c i ad x p1 p2 s) (by kernel_rfl) [55, 56, 57, 58, 59, 60, 61, 54, 62, 63, 10, 11] (by kernel_rfl) (by kernel_rfl) ?_ ?_
          · intro j hj
            have hj' : j < 12 := hj
            rcases (by omega : j = 0 ∨ j = 1 ∨ j = 2 ∨ j = 3 ∨ j = 4 ∨ j = 5 ∨ j = 6 ∨ j = 7 ∨ j = 8 ∨ j = 9 ∨ j = 10 ∨ j = 11) with rfl | rfl | rfl | rfl | rfl | rfl | rfl | rfl | rfl | rfl | rfl | rfl
            · -- operation 0
              (refine owes_val (L := [(2, false)]) rfl rfl rfl (by kernel_rfl) ?_; intro a' w' hb' hfacts; obtain ⟨hf2, -⟩ := hfacts; replace hf2 : a'.tmps[2]?.getD undef = .pointer (some ⟨A, 0, none⟩) := hf2)
              have pA := ((HA.out.below hb').2 0 _ rfl).1; have pQ := (hb'.cell (by rw [add_blocka]; exact had3)).trans HQ1.out
              (go_simp; first | exact ⟨_, rfl, Below.refl _ _, rfl⟩ | exact ⟨_, rfl, Below.refl _ _, trivial⟩ | exact ⟨_, rfl, (Below.refl _ _).alloc (Nat.le_refl _) _, trivial⟩ | exact ⟨_, rfl, Below.refl _ _, congrArg (Value.int _) (IntWalk.i64_in _ (by omega))⟩)
            · -- operation 1
              (refine owes_val (L := [(55, true)]) rfl rfl rfl (by kernel_rfl) ?_; intro a' w' hb' hfacts; obtain ⟨hf55, -⟩ := hfacts; try simp only [VSp12] at hf55)
              have pA := ((HA.out.below hb').2 0 _ rfl).1; have pQ := (hb'.cell (by rw [add_blocka]; exact had3)).trans HQ1.out
              (go_simp; first | exact ⟨_, rfl, Below.refl _ _, rfl⟩ | exact ⟨_, rfl, Below.refl _ _, trivial⟩ | exact ⟨_, rfl, (Below.refl _ _).alloc (Nat.le_refl _) _, trivial⟩ | exact ⟨_, rfl, Below.refl _ _, congrArg (Value.int _) (IntWalk.i64_in _ (by omega))⟩)
            · -- operation 2
              (refine owes_val (L := [(1, false)]) rfl rfl rfl (by kernel_rfl) ?_; intro a' w' hb' hfacts; obtain ⟨hf1, -⟩ := hfacts; replace hf1 : a'.tmps[1]?.getD undef = .slice (some ad) nums.length c := hf1)
              have pA := ((HA.out.below hb').2 0 _ rfl).1; have pQ := (hb'.cell (by rw [add_blocka]; exact had3)).trans HQ1.out
              (go_simp; first | exact ⟨_, rfl, Below.refl _ _, rfl⟩ | exact ⟨_, rfl, Below.refl _ _, trivial⟩ | exact ⟨_, rfl, (Below.refl _ _).alloc (Nat.le_refl _) _, trivial⟩ | exact ⟨_, rfl, Below.refl _ _, congrArg (Value.int _) (IntWalk.i64_in _ (by omega))⟩)
            · -- operation 3
              (refine owes_val (L := [(7, false)]) rfl rfl rfl (by kernel_rfl) ?_; intro a' w' hb' hfacts; obtain ⟨hf7, -⟩ := hfacts; replace hf7 : a'.tmps[7]?.getD undef = .int .i64 i := hf7)
              have pA := ((HA.out.below hb').2 0 _ rfl).1; have pQ := (hb'.cell (by rw [add_blocka]; exact had3)).trans HQ1.out
              (go_simp; first | exact ⟨_, rfl, Below.refl _ _, rfl⟩ | exact ⟨_, rfl, Below.refl _ _, trivial⟩ | exact ⟨_, rfl, (Below.refl _ _).alloc (Nat.le_refl _) _, trivial⟩ | exact ⟨_, rfl, Below.refl _ _, congrArg (Value.int _) (IntWalk.i64_in _ (by omega))⟩)
            · -- operation 4
              (refine owes_val (L := [(57, true), (58, true)]) rfl rfl rfl (by kernel_rfl) ?_; intro a' w' hb' hfacts; obtain ⟨hf57, hf58, -⟩ := hfacts; try simp only [VSp12] at hf57; try simp only [VSp12] at hf58)
              have pA := ((HA.out.below hb').2 0 _ rfl).1; have pQ := (hb'.cell (by rw [add_blocka]; exact had3)).trans HQ1.out
              (go_simp; first | exact ⟨_, rfl, Below.refl _ _, rfl⟩ | exact ⟨_, rfl, Below.refl _ _, trivial⟩ | exact ⟨_, rfl, (Below.refl _ _).alloc (Nat.le_refl _) _, trivial⟩ | exact ⟨_, rfl, Below.refl _ _, congrArg (Value.int _) (IntWalk.i64_in _ (by omega))⟩)
            · -- operation 5
              (refine owes_val (L := [(59, true)]) rfl rfl rfl (by kernel_rfl) ?_; intro a' w' hb' hfacts; obtain ⟨hf59, -⟩ := hfacts; try simp only [VSp12] at hf59)
              have pA := ((HA.out.below hb').2 0 _ rfl).1; have pQ := (hb'.cell (by rw [add_blocka]; exact had3)).trans HQ1.out
              (go_simp; first | exact ⟨_, rfl, Below.refl _ _, rfl⟩ | exact ⟨_, rfl, Below.refl _ _, trivial⟩ | exact ⟨_, rfl, (Below.refl _ _).alloc (Nat.le_refl _) _, trivial⟩ | exact ⟨_, rfl, Below.refl _ _, congrArg (Value.int _) (IntWalk.i64_in _ (by omega))⟩)
            · -- operation 6
              (refine owes_val (L := [(56, true), (60, true)]) rfl rfl rfl (by kernel_rfl) ?_; intro a' w' hb' hfacts; obtain ⟨hf56, hf60, -⟩ := hfacts; try simp only [VSp12] at hf56; try simp only [VSp12] at hf60)
              go_simp
              refine (HRO.out _).mono ?_
              rintro e w3 ⟨rfl, hb3⟩
              exact ⟨_, rfl, hb3, rfl⟩
            · -- operation 7
              (refine owes_val (L := [(61, true)]) rfl rfl rfl (by kernel_rfl) ?_; intro a' w' hb' hfacts; obtain ⟨hf61, -⟩ := hfacts; try simp only [VSp12] at hf61)
              have pA := ((HA.out.below hb').2 0 _ rfl).1; have pQ := (hb'.cell (by rw [add_blocka]; exact had3)).trans HQ1.out
              (go_simp; first | exact ⟨_, rfl, Below.refl _ _, rfl⟩ | exact ⟨_, rfl, Below.refl _ _, trivial⟩ | exact ⟨_, rfl, (Below.refl _ _).alloc (Nat.le_refl _) _, trivial⟩ | exact ⟨_, rfl, Below.refl _ _, congrArg (Value.int _) (IntWalk.i64_in _ (by omega))⟩)
            · -- operation 8
              (refine owes_val (L := [(54, true)]) rfl rfl rfl (by kernel_rfl) ?_; intro a' w' hb' hfacts; obtain ⟨hf54, -⟩ := hfacts; try simp only [VSp12] at hf54)
              have pA := ((HA.out.below hb').2 0 _ rfl).1; have pQ := (hb'.cell (by rw [add_blocka]; exact had3)).trans HQ1.out
              (go_simp; first | exact ⟨_, rfl, Below.refl _ _, rfl⟩ | exact ⟨_, rfl, Below.refl _ _, trivial⟩ | exact ⟨_, rfl, (Below.refl _ _).alloc (Nat.le_refl _) _, trivial⟩ | exact ⟨_, rfl, Below.refl _ _, congrArg (Value.int _) (IntWalk.i64_in _ (by omega))⟩)
            · -- operation 9
              (refine owes_val (L := [(54, true)]) rfl rfl rfl (by kernel_rfl) ?_; intro a' w' hb' hfacts; obtain ⟨hf54, -⟩ := hfacts; try simp only [VSp12] at hf54)
              have pA := ((HA.out.below hb').2 0 _ rfl).1; have pQ := (hb'.cell (by rw [add_blocka]; exact had3)).trans HQ1.out
              (go_simp; first | exact ⟨_, rfl, Below.refl _ _, rfl⟩ | exact ⟨_, rfl, Below.refl _ _, trivial⟩ | exact ⟨_, rfl, (Below.refl _ _).alloc (Nat.le_refl _) _, trivial⟩ | exact ⟨_, rfl, Below.refl _ _, congrArg (Value.int _) (IntWalk.i64_in _ (by omega))⟩)
            · -- operation 10
              (refine owes_val (L := [(62, true)]) rfl rfl rfl (by kernel_rfl) ?_; intro a' w' hb' hfacts; obtain ⟨hf62, -⟩ := hfacts; try simp only [VSp12] at hf62)
              have pA := ((HA.out.below hb').2 0 _ rfl).1; have pQ := (hb'.cell (by rw [add_blocka]; exact had3)).trans HQ1.out
              (go_simp; first | exact ⟨_, rfl, Below.refl _ _, rfl⟩ | exact ⟨_, rfl, Below.refl _ _, trivial⟩ | exact ⟨_, rfl, (Below.refl _ _).alloc (Nat.le_refl _) _, trivial⟩ | exact ⟨_, rfl, Below.refl _ _, congrArg (Value.int _) (IntWalk.i64_in _ (by omega))⟩)
            · -- operation 11
              (refine owes_val (L := [(63, true)]) rfl rfl rfl (by kernel_rfl) ?_; intro a' w' hb' hfacts; obtain ⟨hf63, -⟩ := hfacts; try simp only [VSp12] at hf63)
              have pA := ((HA.out.below hb').2 0 _ rfl).1; have pQ := (hb'.cell (by rw [add_blocka]; exact had3)).trans HQ1.out
              (go_simp; first | exact ⟨_, rfl, Below.refl _ _, rfl⟩ | exact ⟨_, rfl, Below.refl _ _, trivial⟩ | exact ⟨_, rfl, (Below.refl _ _).alloc (Nat.le_refl _) _, trivial⟩ | exact ⟨_, rfl, Below.refl _ _, congrArg (Value.int _) (IntWalk.i64_in _ (by omega))⟩)
          · intro f2 W4 hf2 hb4
            have g10 : f2 10 = .int .i64 p1 := hf2 10 (by decide)
            have g11 : f2 11 = .int .i64 p2 := hf2 11 (by decide)
            have HQ2 := Lib.hid ((hb4.cell (by rw [add_blocka]; exact had3)).trans HQ1.out)
            have HBn := Lib.hid (HBm.out.trans (hb4.mono HBm.out.size))
            have HA := Lib.hid (HA.out.below hb4)
            have HV := Lib.hid (HV.out.below hb4)
            have HI := Lib.hid (HI.out.below hb4)
            have HT := Lib.hid (tabs_below HT.out hb4)
            clear hb4
            clear hf2 lA HBm HQ1 had3 HRO
            simp only [putAll, put_lit, List.map_cons, List.map_nil, List.set_cons_succ, List.set_cons_zero]
            simp only [g10, g11]
            clear g10 g11
            have had4 := World.block_lt_of_cell? _ _ HQ2.out
            rw [add_blocka] at had4
            have q2 := HQ2.out
            go_wp2_with fail
            refine (HKS.out _ HV.out).mono ?_
            rintro e w5 ⟨rfl, hb⟩
            have HQ3 := Lib.hid ((hb.cell (by rw [add_blocka]; exact had4)).trans HQ2.out)
            have HBo := Lib.hid (HBn.out.trans (hb.mono HBn.out.size))
            have HA := Lib.hid (HA.out.below hb)
            have HV := Lib.hid (HV.out.below hb)
            have HI := Lib.hid (HI.out.below hb)
            have HT := Lib.hid (tabs_below HT.out hb)
            clear hb
            clear q2 HQ2 had4 HBn HKS
            obtain ⟨w6, hw6, S6, b6, -⟩ := boxL1 w5 [.int .i64 r1, .int .i64 r2] 41
            have HE6 := Lib.hid hw6
            have HS6 := Lib.hid S6
            have had5 := World.block_lt_of_cell? _ _ HQ3.out
            rw [add_blocka] at had5
            have HQ4 := Lib.hid ((b6.cell (by rw [add_blocka]; exact had5)).trans HQ3.out)
            have HBp := Lib.hid (HBo.out.trans (b6.mono HBo.out.size))
            have HA := Lib.hid (HA.out.below b6)
            have HV := Lib.hid (HV.out.below b6)
            have HI := Lib.hid (HI.out.below b6)
            have HT := Lib.hid (tabs_below HT.out b6)
            clear b6
            clear hw6 S6 HQ3 had5 HBo
            have had6 := World.block_lt_of_cell? _ _ HQ4.out
            rw [add_blocka] at had6
            go_wp2
            rw [HE6.out]
            have lA := HA.out.1
            refine wp_held_write mixed (VSp14 A w6.heap.size nums.length c i ad x r1 r2 r3 s) (VSp14_mono A w6.heap.size nums.length c i ad x r1 r2 r3 s) (by kernel_rfl) [74, 75, 76, 77, 78, 79, 80, 73, 81, 82, 14, 15] (by kernel_rfl) 11 14 10 (by decide) (by kernel_rfl) (by kernel_rfl) (by kernel_rfl)
              (fun v w => ∃ b, v = .pointer (some ⟨b, 0, none⟩) ∧ w6.heap.size ≤ b ∧ Lies w b [.int .i64 r1, .int .i64 r2]) (fun v w w' h hb => by obtain ⟨b, h1, h2, h3⟩ := h; exact ⟨b, h1, h2, h3.below hb⟩) (by kernel_rfl) ?_ ?_ ?_
            · intro j hj hne
              have hj' : j < 13 := hj
              rcases (by omega : j = 0 ∨ j = 1 ∨ j = 2 ∨ j = 3 ∨ j = 4 ∨ j = 5 ∨ j = 6 ∨ j = 7 ∨ j = 8 ∨ j = 9 ∨ j = 10 ∨ j = 12) with rfl | rfl | rfl | rfl | rfl | rfl | rfl | rfl | rfl | rfl | rfl | rfl
              · -- operation 0
                (refine owes_val (L := [(2, false)]) rfl rfl rfl (by kernel_rfl) ?_; intro a' w' hb' hfacts; obtain ⟨hf2, -⟩ := hfacts; replace hf2 : a'.tmps[2]?.getD undef = .pointer (some ⟨A, 0, none⟩) := hf2)
                have pA := ((HA.out.below hb').2 0 _ rfl).1; have pQ := (hb'.cell (by rw [add_blocka]; exact had6)).trans HQ4.out
                (go_simp; first | exact ⟨_, rfl, Below.refl _ _, rfl⟩ | exact ⟨_, rfl, Below.refl _ _, trivial⟩ | exact ⟨_, rfl, (Below.refl _ _).alloc (Nat.le_refl _) _, trivial⟩ | exact ⟨_, rfl, Below.refl _ _, congrArg (Value.int _) (IntWalk.i64_in _ (by omega))⟩)
              · -- operation 1
                (refine owes_val (L := [(74, true)]) rfl rfl rfl (by kernel_rfl) ?_; intro a' w' hb' hfacts; obtain ⟨hf74, -⟩ := hfacts; try simp only [VSp14] at hf74)
                have pA := ((HA.out.below hb').2 0 _ rfl).1; have pQ := (hb'.cell (by rw [add_blocka]; exact had6)).trans HQ4.out
                (go_simp; first | exact ⟨_, rfl, Below.refl _ _, rfl⟩ | exact ⟨_, rfl, Below.refl _ _, trivial⟩ | exact ⟨_, rfl, (Below.refl _ _).alloc (Nat.le_refl _) _, trivial⟩ | exact ⟨_, rfl, Below.refl _ _, congrArg (Value.int _) (IntWalk.i64_in _ (by omega))⟩)
              · -- operation 2
                (refine owes_val (L := [(1, false)]) rfl rfl rfl (by kernel_rfl) ?_; intro a' w' hb' hfacts; obtain ⟨hf1, -⟩ := hfacts; replace hf1 : a'.tmps[1]?.getD undef = .slice (some ad) nums.length c := hf1)
                have pA := ((HA.out.below hb').2 0 _ rfl).1; have pQ := (hb'.cell (by rw [add_blocka]; exact had6)).trans HQ4.out
                (go_simp; first | exact ⟨_, rfl, Below.refl _ _, rfl⟩ | exact ⟨_, rfl, Below.refl _ _, trivial⟩ | exact ⟨_, rfl, (Below.refl _ _).alloc (Nat.le_refl _) _, trivial⟩ | exact ⟨_, rfl, Below.refl _ _, congrArg (Value.int _) (IntWalk.i64_in _ (by omega))⟩)
              · -- operation 3
                (refine owes_val (L := [(7, false)]) rfl rfl rfl (by kernel_rfl) ?_; intro a' w' hb' hfacts; obtain ⟨hf7, -⟩ := hfacts; replace hf7 : a'.tmps[7]?.getD undef = .int .i64 i := hf7)
                have pA := ((HA.out.below hb').2 0 _ rfl).1; have pQ := (hb'.cell (by rw [add_blocka]; exact had6)).trans HQ4.out
                (go_simp; first | exact ⟨_, rfl, Below.refl _ _, rfl⟩ | exact ⟨_, rfl, Below.refl _ _, trivial⟩ | exact ⟨_, rfl, (Below.refl _ _).alloc (Nat.le_refl _) _, trivial⟩ | exact ⟨_, rfl, Below.refl _ _, congrArg (Value.int _) (IntWalk.i64_in _ (by omega))⟩)
              · -- operation 4
                (refine owes_val (L := [(76, true), (77, true)]) rfl rfl rfl (by kernel_rfl) ?_; intro a' w' hb' hfacts; obtain ⟨hf76, hf77, -⟩ := hfacts; try simp only [VSp14] at hf76; try simp only [VSp14] at hf77)
                have pA := ((HA.out.below hb').2 0 _ rfl).1; have pQ := (hb'.cell (by rw [add_blocka]; exact had6)).trans HQ4.out
                (go_simp; first | exact ⟨_, rfl, Below.refl _ _, rfl⟩ | exact ⟨_, rfl, Below.refl _ _, trivial⟩ | exact ⟨_, rfl, (Below.refl _ _).alloc (Nat.le_refl _) _, trivial⟩ | exact ⟨_, rfl, Below.refl _ _, congrArg (Value.int _) (IntWalk.i64_in _ (by omega))⟩)
              · -- operation 5
                (refine owes_val (L := [(78, true)]) rfl rfl rfl (by kernel_rfl) ?_; intro a' w' hb' hfacts; obtain ⟨hf78, -⟩ := hfacts; try simp only [VSp14] at hf78)
                have pA := ((HA.out.below hb').2 0 _ rfl).1; have pQ := (hb'.cell (by rw [add_blocka]; exact had6)).trans HQ4.out
                (go_simp; first | exact ⟨_, rfl, Below.refl _ _, rfl⟩ | exact ⟨_, rfl, Below.refl _ _, trivial⟩ | exact ⟨_, rfl, (Below.refl _ _).alloc (Nat.le_refl _) _, trivial⟩ | exact ⟨_, rfl, Below.refl _ _, congrArg (Value.int _) (IntWalk.i64_in _ (by omega))⟩)
              · -- operation 6
                (refine owes_val (L := [(75, true), (79, true)]) rfl rfl rfl (by kernel_rfl) ?_; intro a' w' hb' hfacts; obtain ⟨hf75, hf79, -⟩ := hfacts; try simp only [VSp14] at hf75; try simp only [VSp14] at hf79)
                go_simp
                refine (HRS.out _).mono ?_
                rintro e w3 ⟨rfl, hb3⟩
                exact ⟨_, rfl, hb3, rfl⟩
              · -- operation 7
                (refine owes_val (L := [(80, true)]) rfl rfl rfl (by kernel_rfl) ?_; intro a' w' hb' hfacts; obtain ⟨hf80, -⟩ := hfacts; try simp only [VSp14] at hf80)
                have pA := ((HA.out.below hb').2 0 _ rfl).1; have pQ := (hb'.cell (by rw [add_blocka]; exact had6)).trans HQ4.out
                (go_simp; first | exact ⟨_, rfl, Below.refl _ _, rfl⟩ | exact ⟨_, rfl, Below.refl _ _, trivial⟩ | exact ⟨_, rfl, (Below.refl _ _).alloc (Nat.le_refl _) _, trivial⟩ | exact ⟨_, rfl, Below.refl _ _, congrArg (Value.int _) (IntWalk.i64_in _ (by omega))⟩)
              · -- operation 8
                (refine owes_val (L := [(73, true)]) rfl rfl rfl (by kernel_rfl) ?_; intro a' w' hb' hfacts; obtain ⟨hf73, -⟩ := hfacts; try simp only [VSp14] at hf73)
                have pA := ((HA.out.below hb').2 0 _ rfl).1; have pQ := (hb'.cell (by rw [add_blocka]; exact had6)).trans HQ4.out
                (go_simp; first | exact ⟨_, rfl, Below.refl _ _, rfl⟩ | exact ⟨_, rfl, Below.refl _ _, trivial⟩ | exact ⟨_, rfl, (Below.refl _ _).alloc (Nat.le_refl _) _, trivial⟩ | exact ⟨_, rfl, Below.refl _ _, congrArg (Value.int _) (IntWalk.i64_in _ (by omega))⟩)
              · -- operation 9
                (refine owes_val (L := [(73, true)]) rfl rfl rfl (by kernel_rfl) ?_; intro a' w' hb' hfacts; obtain ⟨hf73, -⟩ := hfacts; try simp only [VSp14] at hf73)
                have pA := ((HA.out.below hb').2 0 _ rfl).1; have pQ := (hb'.cell (by rw [add_blocka]; exact had6)).trans HQ4.out
                (go_simp; first | exact ⟨_, rfl, Below.refl _ _, rfl⟩ | exact ⟨_, rfl, Below.refl _ _, trivial⟩ | exact ⟨_, rfl, (Below.refl _ _).alloc (Nat.le_refl _) _, trivial⟩ | exact ⟨_, rfl, Below.refl _ _, congrArg (Value.int _) (IntWalk.i64_in _ (by omega))⟩)
              · -- operation 10
                (refine owes_val (L := []) rfl rfl rfl (by kernel_rfl) ?_; intro a' w' hb' hfacts; clear hfacts)
                go_simp
                exact ⟨_, rfl, (Below.refl _ _).alloc (Nat.le_refl _) _, _, rfl, hb'.size, _, _, Lies.new _ [.int .i64 0, .int .i64 0] _⟩
              · -- operation 12
                (refine owes_val (L := [(82, true)]) rfl rfl rfl (by kernel_rfl) ?_; intro a' w' hb' hfacts; obtain ⟨hf82, -⟩ := hfacts; try simp only [VSp14] at hf82)
                have pA := ((HA.out.below hb').2 0 _ rfl).1; have pQ := (hb'.cell (by rw [add_blocka]; exact had6)).trans HQ4.out
                (go_simp; first | exact ⟨_, rfl, Below.refl _ _, rfl⟩ | exact ⟨_, rfl, Below.refl _ _, trivial⟩ | exact ⟨_, rfl, (Below.refl _ _).alloc (Nat.le_refl _) _, trivial⟩ | exact ⟨_, rfl, Below.refl _ _, congrArg (Value.int _) (IntWalk.i64_in _ (by omega))⟩)
            · refine write_op (L := [(14, true), (81, true)]) rfl rfl rfl (by kernel_rfl) ?_
              intro a' w' hb' hfacts hq'
              obtain ⟨hf14, hf81, -⟩ := hfacts
              obtain ⟨g, e14, hg1, u, v, hL⟩ := hf14
              simp only [VSp14] at hf81
              obtain ⟨c0, e0⟩ := hL.2 0 _ rfl
              obtain ⟨c1, e1⟩ := hL.2 1 _ rfl
              have HS := Lib.hid (Lies.stored hL [.int .i64 r1, .int .i64 r2] rfl)
              have HB1 := Lib.hid (chg_mine hb' (sets_chg g [.int .i64 r1, .int .i64 r2] 0 w') hg1)
              have HVV : Hid (∀ d v, VSp14 A w6.heap.size nums.length c i ad x r1 r2 r3 s d v w' → VSp14 A w6.heap.size nums.length c i ad x r1 r2 r3 s d v (w'.setCells g 0 [.int .i64 r1, .int .i64 r2])) := by
                intro d v hv
                unfold VSp14 at hv ⊢
                split <;> first | exact hv | exact trivial | (obtain ⟨g', h1, h2, u1, u2, h3⟩ := hv; exact ⟨g', h1, h2, two_chg h3 _ _⟩)
              clear hq' hL
              go_simp
              exact ⟨HB1.out, HVV.out, HS.out⟩
            · intro f3 W8 hf3 hu hb8
              obtain ⟨b, g14, hbb, S8⟩ := hu
              have g81 : f3 81 = .agg #[.int .i64 r1, .int .i64 r2] := hf3 81 (by decide)
              have g15 : f3 15 = .int .i64 r3 := hf3 15 (by decide)
              have HS8 := Lib.hid S8
              have HS6 := Lib.hid (HS6.out.below hb8)
              have HQ5 := Lib.hid ((hb8.cell (by rw [add_blocka]; exact had6)).trans HQ4.out)
              have HBq := Lib.hid (HBp.out.trans (hb8.mono HBp.out.size))
              have HA := Lib.hid (HA.out.below hb8)
              have HV := Lib.hid (HV.out.below hb8)
              have HI := Lib.hid (HI.out.below hb8)
              have HT := Lib.hid (tabs_below HT.out hb8)
              clear hb8
              clear hf3 lA HBp HQ4 had6 HRS S8
              simp only [putAll, put_lit, List.map_cons, List.map_nil, List.set_cons_succ, List.set_cons_zero]
              simp only [g14, g15]
              clear g14 g81 g15
              have had7 := World.block_lt_of_cell? _ _ HQ5.out
              rw [add_blocka] at had7
              have q5 := HQ5.out
              have d0 := (HS6.out.2 0 _ rfl).1
              have d1 := (HS6.out.2 1 _ rfl).1
              have d2 := (HS8.out.2 0 _ rfl).1
              have d3 := (HS8.out.2 1 _ rfl).1
              go_wp2_with fail
              refine (HKL.out _ HV.out).mono ?_
              rintro e w9 ⟨rfl, hb⟩
              have HQ6 := Lib.hid ((hb.cell (by rw [add_blocka]; exact had7)).trans HQ5.out)
              have HBr := Lib.hid (HBq.out.trans (hb.mono HBq.out.size))
              have HA := Lib.hid (HA.out.below hb)
              have HV := Lib.hid (HV.out.below hb)
              have HI := Lib.hid (HI.out.below hb)
              have HT := Lib.hid (tabs_below HT.out hb)
              clear hb
              clear HQ5 HBq d0 d1 d2 d3 q5 had7 HKL HS6 HS8
              have had8 := World.block_lt_of_cell? _ _ HQ6.out
              rw [add_blocka] at had8
              go_wp2
              have lA := HA.out.1
              refine wp_held' mixed (VSp18 A nums.length c i ad x t2 t1 s) (VSp18_mono A nums.length c i ad x t2 t1 s) (by kernel_rfl) [111, 112, 113, 114, 115, 116, 117, 110, 118, 119, 17, 11] (by kernel_rfl) (by kernel_rfl) ?_ ?_
              · intro j hj
                have hj' : j < 12 := hj
                rcases (by omega : j = 0 ∨ j = 1 ∨ j = 2 ∨ j = 3 ∨ j = 4 ∨ j = 5 ∨ j = 6 ∨ j = 7 ∨ j = 8 ∨ j = 9 ∨ j = 10 ∨ j = 11) with rfl | rfl | rfl | rfl | rfl | rfl | rfl | rfl | rfl | rfl | rfl | rfl
                · -- operation 0
                  (refine owes_val (L := [(2, false)]) rfl rfl rfl (by kernel_rfl) ?_; intro a' w' hb' hfacts; obtain ⟨hf2, -⟩ := hfacts; replace hf2 : a'.tmps[2]?.getD undef = .pointer (some ⟨A, 0, none⟩) := hf2)
                  have pA := ((HA.out.below hb').2 0 _ rfl).1; have pQ := (hb'.cell (by rw [add_blocka]; exact had8)).trans HQ6.out
                  (go_simp; first | exact ⟨_, rfl, Below.refl _ _, rfl⟩ | exact ⟨_, rfl, Below.refl _ _, trivial⟩ | exact ⟨_, rfl, (Below.refl _ _).alloc (Nat.le_refl _) _, trivial⟩ | exact ⟨_, rfl, Below.refl _ _, congrArg (Value.int _) (IntWalk.i64_in _ (by omega))⟩)
                · -- operation 1
                  (refine owes_val (L := [(111, true)]) rfl rfl rfl (by kernel_rfl) ?_; intro a' w' hb' hfacts; obtain ⟨hf111, -⟩ := hfacts; try simp only [VSp18] at hf111)
                  have pA := ((HA.out.below hb').2 0 _ rfl).1; have pQ := (hb'.cell (by rw [add_blocka]; exact had8)).trans HQ6.out
                  (go_simp; first | exact ⟨_, rfl, Below.refl _ _, rfl⟩ | exact ⟨_, rfl, Below.refl _ _, trivial⟩ | exact ⟨_, rfl, (Below.refl _ _).alloc (Nat.le_refl _) _, trivial⟩ | exact ⟨_, rfl, Below.refl _ _, congrArg (Value.int _) (IntWalk.i64_in _ (by omega))⟩)
                · -- operation 2
                  (refine owes_val (L := [(1, false)]) rfl rfl rfl (by kernel_rfl) ?_; intro a' w' hb' hfacts; obtain ⟨hf1, -⟩ := hfacts; replace hf1 : a'.tmps[1]?.getD undef = .slice (some ad) nums.length c := hf1)
                  have pA := ((HA.out.below hb').2 0 _ rfl).1; have pQ := (hb'.cell (by rw [add_blocka]; exact had8)).trans HQ6.out
                  (go_simp; first | exact ⟨_, rfl, Below.refl _ _, rfl⟩ | exact ⟨_, rfl, Below.refl _ _, trivial⟩ | exact ⟨_, rfl, (Below.refl _ _).alloc (Nat.le_refl _) _, trivial⟩ | exact ⟨_, rfl, Below.refl _ _, congrArg (Value.int _) (IntWalk.i64_in _ (by omega))⟩)
                · -- operation 3
                  (refine owes_val (L := [(7, false)]) rfl rfl rfl (by kernel_rfl) ?_; intro a' w' hb' hfacts; obtain ⟨hf7, -⟩ := hfacts; replace hf7 : a'.tmps[7]?.getD undef = .int .i64 i := hf7)
                  have pA := ((HA.out.below hb').2 0 _ rfl).1; have pQ := (hb'.cell (by rw [add_blocka]; exact had8)).trans HQ6.out
                  (go_simp; first | exact ⟨_, rfl, Below.refl _ _, rfl⟩ | exact ⟨_, rfl, Below.refl _ _, trivial⟩ | exact ⟨_, rfl, (Below.refl _ _).alloc (Nat.le_refl _) _, trivial⟩ | exact ⟨_, rfl, Below.refl _ _, congrArg (Value.int _) (IntWalk.i64_in _ (by omega))⟩)
                · -- operation 4
                  (refine owes_val (L := [(113, true), (114, true)]) rfl rfl rfl (by kernel_rfl) ?_; intro a' w' hb' hfacts; obtain ⟨hf113, hf114, -⟩ := hfacts; try simp only [VSp18] at hf113; try simp only [VSp18] at hf114)
                  have pA := ((HA.out.below hb').2 0 _ rfl).1; have pQ := (hb'.cell (by rw [add_blocka]; exact had8)).trans HQ6.out
                  (go_simp; first | exact ⟨_, rfl, Below.refl _ _, rfl⟩ | exact ⟨_, rfl, Below.refl _ _, trivial⟩ | exact ⟨_, rfl, (Below.refl _ _).alloc (Nat.le_refl _) _, trivial⟩ | exact ⟨_, rfl, Below.refl _ _, congrArg (Value.int _) (IntWalk.i64_in _ (by omega))⟩)
                · -- operation 5
                  (refine owes_val (L := [(115, true)]) rfl rfl rfl (by kernel_rfl) ?_; intro a' w' hb' hfacts; obtain ⟨hf115, -⟩ := hfacts; try simp only [VSp18] at hf115)
                  have pA := ((HA.out.below hb').2 0 _ rfl).1; have pQ := (hb'.cell (by rw [add_blocka]; exact had8)).trans HQ6.out
                  (go_simp; first | exact ⟨_, rfl, Below.refl _ _, rfl⟩ | exact ⟨_, rfl, Below.refl _ _, trivial⟩ | exact ⟨_, rfl, (Below.refl _ _).alloc (Nat.le_refl _) _, trivial⟩ | exact ⟨_, rfl, Below.refl _ _, congrArg (Value.int _) (IntWalk.i64_in _ (by omega))⟩)
                · -- operation 6
                  (refine owes_val (L := [(112, true), (116, true)]) rfl rfl rfl (by kernel_rfl) ?_; intro a' w' hb' hfacts; obtain ⟨hf112, hf116, -⟩ := hfacts; try simp only [VSp18] at hf112; try simp only [VSp18] at hf116)
                  go_simp
                  refine (HRL.out _).mono ?_
                  rintro e w3 ⟨rfl, hb3⟩
                  exact ⟨_, rfl, hb3, rfl⟩
                · -- operation 7
                  (refine owes_val (L := [(117, true)]) rfl rfl rfl (by kernel_rfl) ?_; intro a' w' hb' hfacts; obtain ⟨hf117, -⟩ := hfacts; try simp only [VSp18] at hf117)
                  have pA := ((HA.out.below hb').2 0 _ rfl).1; have pQ := (hb'.cell (by rw [add_blocka]; exact had8)).trans HQ6.out
                  (go_simp; first | exact ⟨_, rfl, Below.refl _ _, rfl⟩ | exact ⟨_, rfl, Below.refl _ _, trivial⟩ | exact ⟨_, rfl, (Below.refl _ _).alloc (Nat.le_refl _) _, trivial⟩ | exact ⟨_, rfl, Below.refl _ _, congrArg (Value.int _) (IntWalk.i64_in _ (by omega))⟩)
                · -- operation 8
                  (refine owes_val (L := [(110, true)]) rfl rfl rfl (by kernel_rfl) ?_; intro a' w' hb' hfacts; obtain ⟨hf110, -⟩ := hfacts; try simp only [VSp18] at hf110)
                  have pA := ((HA.out.below hb').2 0 _ rfl).1; have pQ := (hb'.cell (by rw [add_blocka]; exact had8)).trans HQ6.out
                  (go_simp; first | exact ⟨_, rfl, Below.refl _ _, rfl⟩ | exact ⟨_, rfl, Below.refl _ _, trivial⟩ | exact ⟨_, rfl, (Below.refl _ _).alloc (Nat.le_refl _) _, trivial⟩ | exact ⟨_, rfl, Below.refl _ _, congrArg (Value.int _) (IntWalk.i64_in _ (by omega))⟩)
                · -- operation 9
                  (refine owes_val (L := [(110, true)]) rfl rfl rfl (by kernel_rfl) ?_; intro a' w' hb' hfacts; obtain ⟨hf110, -⟩ := hfacts; try simp only [VSp18] at hf110)
                  have pA := ((HA.out.below hb').2 0 _ rfl).1; have pQ := (hb'.cell (by rw [add_blocka]; exact had8)).trans HQ6.out
                  (go_simp; first | exact ⟨_, rfl, Below.refl _ _, rfl⟩ | exact ⟨_, rfl, Below.refl _ _, trivial⟩ | exact ⟨_, rfl, (Below.refl _ _).alloc (Nat.le_refl _) _, trivial⟩ | exact ⟨_, rfl, Below.refl _ _, congrArg (Value.int _) (IntWalk.i64_in _ (by omega))⟩)
                · -- operation 10
                  (refine owes_val (L := [(118, true)]) rfl rfl rfl (by kernel_rfl) ?_; intro a' w' hb' hfacts; obtain ⟨hf118, -⟩ := hfacts; try simp only [VSp18] at hf118)
                  have pA := ((HA.out.below hb').2 0 _ rfl).1; have pQ := (hb'.cell (by rw [add_blocka]; exact had8)).trans HQ6.out
                  (go_simp; first | exact ⟨_, rfl, Below.refl _ _, rfl⟩ | exact ⟨_, rfl, Below.refl _ _, trivial⟩ | exact ⟨_, rfl, (Below.refl _ _).alloc (Nat.le_refl _) _, trivial⟩ | exact ⟨_, rfl, Below.refl _ _, congrArg (Value.int _) (IntWalk.i64_in _ (by omega))⟩)
                · -- operation 11
                  (refine owes_val (L := [(119, true)]) rfl rfl rfl (by kernel_rfl) ?_; intro a' w' hb' hfacts; obtain ⟨hf119, -⟩ := hfacts; try simp only [VSp18] at hf119)
                  have pA := ((HA.out.below hb').2 0 _ rfl).1; have pQ := (hb'.cell (by rw [add_blocka]; exact had8)).trans HQ6.out
                  (go_simp; first | exact ⟨_, rfl, Below.refl _ _, rfl⟩ | exact ⟨_, rfl, Below.refl _ _, trivial⟩ | exact ⟨_, rfl, (Below.refl _ _).alloc (Nat.le_refl _) _, trivial⟩ | exact ⟨_, rfl, Below.refl _ _, congrArg (Value.int _) (IntWalk.i64_in _ (by omega))⟩)
              · intro f4 Wa hf4 hb9
                have g17 : f4 17 = .string t1 := hf4 17 (by decide)
                have g11 : f4 11 = .int .i64 t2 := hf4 11 (by decide)
                have HBs := Lib.hid (HBr.out.trans (hb9.mono HBr.out.size))
                clear hf4 lA HBr HQ6 had8 HRL hb9
                simp only [putAll, put_lit, List.map_cons, List.map_nil, List.set_cons_succ, List.set_cons_zero]
                simp only [g17, g11]
                clear g17 g11
                have hwi : IntKind.i64.wrap ((i : Int) + 1) = (i : Int) + 1 := IntWalk.i64_in _ (by unfold maxLen at hm; omega)
                go_wp2
                go_roundw
                case rel => exact ⟨i + 1, by omega, by go_num, HBs.out⟩
                case measure => simp [intOf]; omega
        · obtain rfl : i = nums.length := by omega
          have HBx := Lib.hid (HB.out.trans (hbl.mono HB.out.size))
          clear hbl hlt
          go_wp2
          go_ret
          exact ⟨rfl, HBx.out⟩

set_option maxRecDepth 100000 in
theorem calls_LinesSpans {H : Type} {enc : TypeId × Value → H} {W : World} {base : Nat} {v0 v1 : Value} {d0 d1 : DataW H} {p0 p1 : List MemPlace} (hL : laidMetH Tryz.prog Rows.linesSpansRow.laid W)
    (o0 : Value.okWide Tryz.prog W .any base 23 v0) (h0 : DataW.Trod enc Tryz.prog W 0 (fun _ => true) true 23 v0 d0 p0) (w0 : ∀ n ∈ d0.weights Tryz.prog 23, n ≤ reachBytes)
    (o1 : Value.okWide Tryz.prog W .any base 24 v1) (h1 : DataW.Trod enc Tryz.prog W 0 (fun _ => true) true 24 v1 d1 p1) (w1 : ∀ n ∈ d1.weights Tryz.prog 24, n ≤ reachBytes) :
    Calls Tryz.prog 6 #[v0, v1] W fun e W' => e = .returned (.bool true) ∧ Below W.heap.size W W' := by
  obtain ⟨s, k, rfl, hs⟩ := open_kept o0 h0 w0
  obtain ⟨A, l, c, rfl, hI, hm⟩ := open_nums h1 (by obtain ⟨a, l, c, rfl⟩ := okWide_slice Tryz.underlying24 o1; rfl)
  exact law_LinesSpans s k A l c W (tabs_of_laid hL) (by unfold reachBytes at hs; omega) hI hm
end Go.Proofs.YtgmpohdkignadaaGreatDoor.Ut
