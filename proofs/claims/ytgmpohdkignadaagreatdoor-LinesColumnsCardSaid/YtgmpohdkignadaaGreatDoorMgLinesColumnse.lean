/-
  What the proof of the row LinesColumns rests on: the texts LwQ. Conditions: each theorem names its own.
-/
import Derived.Test.YtgmpohdkignadaaGreatDoorMgLinesColumnsc
import Derived.Test.YtgmpohdkignadaaGreatDoorMgLinesColumnsd
import Derived.Test.YtgmpohdkignadaaGreatDoorMgLg
/-
  The law LinesColumns, walked. Condition: the two tables of unicode/utf8 lie as laid.
-/
namespace Go.Proofs.YtgmpohdkignadaaGreatDoor.Ut
open Go.RowKit Go.Proofs.YtgmpohdkignadaaGreatDoor.Reg Go.ChangeShapes Go.WideShapes Go.Deep Go.Proofs.YtgmpohdkignadaaGreatDoor.Row
set_option linter.unusedVariables false
set_option linter.unusedSimpArgs false

/-- A slice's spots. -/
def SpotsAt (W : World) (A : Option Addr) (l : List (Int × Int)) : Prop := l = [] ∨ ∃ ad, A = some ad ∧ ad.block < W.heap.size ∧ ∀ i (h : i < l.length), W.cell? (ad.add (i * 2)) = some (.int .i64 l[i].1) ∧ W.cell? ⟨(ad.add (i * 2)).block, (ad.add (i * 2)).off + 1, none⟩ = some (.int .i64 l[i].2)
theorem SpotsAt.below {W W' : World} {A : Option Addr} {l : List (Int × Int)} (h : SpotsAt W A l) (hb : Below W.heap.size W W') : SpotsAt W' A l := by
  rcases h with h | ⟨ad, h1, h2, h3⟩
  · exact .inl h
  · exact .inr ⟨ad, h1, Nat.lt_of_lt_of_le h2 hb.size, fun i hi => ⟨(hb.cell (by rw [add_blocka]; exact h2)).trans (h3 i hi).1, (hb.cell (p := ⟨(ad.add (i * 2)).block, (ad.add (i * 2)).off + 1, none⟩) (by rw [add_blocka]; exact h2)).trans (h3 i hi).2⟩⟩
theorem add_offb (a : Addr) (k j : Nat) (hj : 0 < j) : a.add (k + j) = ⟨(a.add k).block, (a.add k).off + j, none⟩ := by
  unfold Addr.add
  rw [if_neg (by omega)]
  by_cases h : k = 0
  · subst h; simp
  · rw [if_neg h]; simp; omega
theorem list_ofa {α : Type} (Pr : Nat → α → Prop) : ∀ n, (∀ i, i < n → ∃ x, Pr i x) → ∃ l : List α, n = l.length ∧ ∀ i (h : i < l.length), Pr i l[i]
  | 0, _ => ⟨[], rfl, fun i h => absurd h (by simp)⟩
  | n + 1, hx => by
    obtain ⟨l, hl, hp⟩ := list_ofa Pr n (fun i hi => hx i (by omega))
    obtain ⟨x, hx⟩ := hx n (by omega)
    refine ⟨l ++ [x], by simp; omega, fun i hi => ?_⟩
    rcases Nat.lt_or_ge i l.length with h | h
    · rw [List.getElem_append_left h]; exact hp i h
    · obtain rfl : i = l.length := by simp at hi; omega
      simp only [List.getElem_concat_length]
      rw [← hl]; exact hx
theorem open_spots {H : Type} {enc : TypeId × Value → H} {W : World} {v : Value} {d : DataW H} {p : List MemPlace} (h : DataW.Trod enc Tryz.prog W 0 (fun _ => true) true 25 v d p) (hc : v.cells.toList = [v]) :
    ∃ (A : Option Addr) (l : List (Int × Int)) (c : Nat), v = .slice A l.length c ∧ SpotsAt W A l ∧ l.length ≤ maxLen := by
  obtain ⟨fuel, hf⟩ := h
  rw [hc] at hf
  rcases open_slice_fields Tryz.underlying25 Tryz.underlying37 (by kernel_rfl) (by kernel_rfl) hf with ⟨hv, hx⟩ | ⟨a, len, cap, m, D, Pl, hv, -, hl, hm, hmm, hx, hi⟩
  · obtain rfl : v = .slice none 0 0 := by simpa using hv
    exact ⟨none, [], 0, rfl, .inl rfl, by simp [maxLen]⟩
  · obtain rfl : v = .slice (some a) len cap := by simpa using hv
    simp only [if_true] at hmm
    subst hmm
    obtain ⟨ds, hdl, hds⟩ := list_ofa (fun i (x : Int × Int) => W.cell? (a.add (i * 2)) = some (.int .i64 x.1) ∧ W.cell? ⟨(a.add (i * 2)).block, (a.add (i * 2)).off + 1, none⟩ = some (.int .i64 x.2)) len (fun i hil => by
      obtain ⟨ys, n, hD, -, hyl, hfld⟩ := hi i (by omega)
      obtain ⟨v0, y0, hc0, hy0, ht0⟩ := hfld 0 _ rfl
      obtain ⟨v1, y1, hc1, hy1, ht1⟩ := hfld 1 _ rfl
      obtain ⟨x, e0, rfl, hwx⟩ := DataW.trod_int Tryz.underlying3 ht0
      obtain ⟨y, e1, rfl, hwy⟩ := DataW.trod_int Tryz.underlying3 ht1
      obtain rfl : v0 = .int .i64 x := by simpa using e0
      obtain rfl : v1 = .int .i64 y := by simpa using e1
      refine ⟨(x, y), hc0, ?_⟩
      rw [← add_offb a (i * 2) 1 (by decide)]; exact hc1)
    subst hdl
    refine ⟨some a, ds, m, rfl, ?_, by omega⟩
    rcases Nat.eq_zero_or_pos ds.length with h0 | h0
    · exact .inl (List.eq_nil_of_length_eq_zero h0)
    · have hb := World.block_lt_of_cell? W _ (hds 0 h0).1
      rw [add_blocka] at hb
      exact .inr ⟨a, rfl, hb, fun i hi => hds i hi⟩

def VCo12 (A n c i : Nat) (ad : Addr) (y p q : Int) (s : ByteArray) : Nat → Value → World → Prop := fun d x w => match d with
  | 48 => x = .pointer (some ⟨A, 0, none⟩)
  | 49 => x = .string s
  | 50 => x = .slice (some ad) n c
  | 51 => x = .int .i64 i
  | 52 => x = .pointer (some (ad.add i))
  | 53 => x = .int .i64 y
  | 54 => x = .tuple #[.int .i64 p, .int .i64 q]
  | 47 => x = .tuple #[.int .i64 p, .int .i64 q]
  | 55 => x = .int .i64 p
  | 56 => x = .int .i64 q
  | 12 => x = .int .i64 p
  | 13 => x = .int .i64 q
  | _ => True
theorem VCo12_mono (A n c i : Nat) (ad : Addr) (y p q : Int) (s : ByteArray) : ∀ d x w w', VCo12 A n c i ad y p q s d x w → Below w.heap.size w w' → VCo12 A n c i ad y p q s d x w' := by
  exact fun _ _ _ _ h _ => h
def VCo18 (n c i : Nat) (vt : TypeId) (vx : Value) (ad X : Addr) (y z p q : Int) : Nat → Value → World → Prop := fun d x w => match d with
  | 72 => x = .iface vt vx
  | 73 => x = .slice (some ad) n c
  | 74 => x = .int .i64 i
  | 75 => x = .pointer (some X)
  | 76 => x = .pointer (some X)
  | 77 => x = .int .i64 y
  | 78 => x = .slice (some ad) n c
  | 79 => x = .int .i64 i
  | 80 => x = .pointer (some X)
  | 81 => x = .pointer (some ⟨X.block, X.off + 1, none⟩)
  | 82 => x = .int .i64 z
  | 83 => x = .tuple #[.int .i64 p, .int .i64 q]
  | 71 => x = .tuple #[.int .i64 p, .int .i64 q]
  | 84 => x = .int .i64 p
  | 85 => x = .int .i64 q
  | 15 => x = .int .i64 p
  | 16 => x = .int .i64 q
  | _ => True
theorem VCo18_mono (n c i : Nat) (vt : TypeId) (vx : Value) (ad X : Addr) (y z p q : Int) : ∀ d x w w', VCo18 n c i vt vx ad X y z p q d x w → Below w.heap.size w w' → VCo18 n c i vt vx ad X y z p q d x w' := by
  exact fun _ _ _ _ h _ => h
def VCo19 (A n c i : Nat) (ad X : Addr) (y z p q : Int) (s : ByteArray) : Nat → Value → World → Prop := fun d x w => match d with
  | 87 => x = .pointer (some ⟨A, 0, none⟩)
  | 88 => x = .string s
  | 89 => x = .slice (some ad) n c
  | 90 => x = .int .i64 i
  | 91 => x = .pointer (some X)
  | 92 => x = .pointer (some X)
  | 93 => x = .int .i64 y
  | 94 => x = .slice (some ad) n c
  | 95 => x = .int .i64 i
  | 96 => x = .pointer (some X)
  | 97 => x = .pointer (some ⟨X.block, X.off + 1, none⟩)
  | 98 => x = .int .i64 z
  | 99 => x = .tuple #[.int .i64 p, .int .i64 q]
  | 86 => x = .tuple #[.int .i64 p, .int .i64 q]
  | 100 => x = .int .i64 p
  | 101 => x = .int .i64 q
  | 17 => x = .int .i64 p
  | 18 => x = .int .i64 q
  | _ => True
theorem VCo19_mono (A n c i : Nat) (ad X : Addr) (y z p q : Int) (s : ByteArray) : ∀ d x w w', VCo19 A n c i ad X y z p q s d x w → Below w.heap.size w w' → VCo19 A n c i ad X y z p q s d x w' := by
  exact fun _ _ _ _ h _ => h

set_option maxRecDepth 100000 in
set_option maxHeartbeats 4000000 in
theorem law_LinesColumns (s : ByteArray) (k : Int) (Aa Ab : Option Addr) (nums : List Int) (spots : List (Int × Int)) (c cb : Nat) (w : World) (hT : Tabs w) (hs : s.size ≤ 140737488355328) (hI : IntsAt w Aa nums) (hm : nums.length ≤ maxLen) (hS : SpotsAt w Ab spots) (hm2 : spots.length ≤ maxLen) :
    Calls Tryz.prog 3 #[.agg #[.string s, .int .i64 k], .slice Aa nums.length c, .slice Ab spots.length cb] w fun e w' => e = .returned (.bool true) ∧ Below w.heap.size w w' := by
  obtain ⟨W0, hW0, A0, b0, hsz⟩ := boxL1 w [.string s, .int .i64 k] 23
  have HE := Lib.hid hW0
  have HA := Lib.hid A0
  have HB := Lib.hid b0
  have HI := Lib.hid (hI.below b0)
  have HS := Lib.hid (hS.below b0)
  have HT := Lib.hid (tabs_below hT b0)
  clear hW0 A0 b0 hsz hT hI hS
  unfold maxLen at hm hm2
  go_enter Tryz.func3, Tryz.ntmps3
  go_wp2_with fail
  rw [HE.out]
  refine (awake_any W0 HT.out).mono ?_
  rintro e w1 ⟨rfl, hb⟩
  have HA := Lib.hid (HA.out.below hb)
  have HI := Lib.hid (HI.out.below hb)
  have HS := Lib.hid (HS.out.below hb)
  have HT := Lib.hid (tabs_below HT.out hb)
  have HB := Lib.hid (HB.out.trans (hb.mono HB.out.size))
  clear hb
  have lA := HA.out.1
  have a0 := (HA.out.2 0 _ rfl).1
  have a1 := (HA.out.2 1 _ rfl).1
  by_cases hbig : 1073741822 < s.size
  · have hb1 : (1073741822 : Int) < (s.size : Int) := by omega
    go_wp2
    go_ret
    exact ⟨rfl, HB.out⟩
  · have hb1 : ¬ (1073741822 : Int) < (s.size : Int) := by omega
    have hs2 : s.size ≤ 1073741824 := by omega
    go_wp2_with fail
    refine (keep_any s k w1 HT.out hs2).mono ?_
    rintro e w2 ⟨v, rfl, hv, hb⟩
    obtain ⟨vt, vx, rfl⟩ : ∃ t x, v = .iface t x := by
      rcases hv with ⟨b, rfl, _⟩ | ⟨b, i, T, rfl, _⟩
      · exact ⟨_, _, rfl⟩
      · exact ⟨_, _, rfl⟩
    have hV := hv.text (tabs_below HT.out hb) hs2
    have HV := Lib.hid hV
    have HA := Lib.hid (HA.out.below hb)
    have HI := Lib.hid (HI.out.below hb)
    have HS := Lib.hid (HS.out.below hb)
    have HT := Lib.hid (tabs_below HT.out hb)
    have HB := Lib.hid (HB.out.trans (hb.mono HB.out.size))
    clear hb
    clear hV hv a0 a1 lA hbig
    go_wp2
    generalize w.heap.size = A at HA ⊢
    go_loopw [9] (fun x wr => ∃ i : Nat, i ≤ nums.length ∧ x = .int .i64 i ∧ Below w2.heap.size w2 wr) (fun x _ => nums.length - (intOf x).toNat)
    case atStart => exact ⟨0, Nat.zero_le _, rfl, Below.refl _ _⟩
    case round =>
      obtain ⟨i, hi, rfl, hbl⟩ := hrel
      by_cases hlt : i < nums.length
      · have HBl := Lib.hid hbl
        have HA := Lib.hid (HA.out.below hbl)
        have HV := Lib.hid (HV.out.below hbl)
        have HI := Lib.hid (HI.out.below hbl)
        have HS := Lib.hid (HS.out.below hbl)
        have HT := Lib.hid (tabs_below HT.out hbl)
        clear hbl
        obtain hnil | ⟨ad, rfl, had, hx⟩ := HI.out
        · rw [hnil] at hlt; exact absurd hlt (by simp)
        have q0 := hx i hlt
        generalize nums[i] = x at q0
        clear hx
        have i0 : (0 : Int) ≤ (i : Int) := by omega
        have i1 : (i : Int) < (nums.length : Int) := by omega
        have KC := LnColumn_all (.iface vt vx) s x
        have HRC := Lib.hid (fun w => RefColumn_any s x w hs2)
        have HKC := Lib.hid KC
        obtain ⟨⟨p1, p2⟩, hp⟩ : ∃ p, colA s x = p := ⟨_, rfl⟩
        rw [hp] at HRC HKC
        clear KC hp
        go_wp2_with fail
        refine (HKC.out wr HV.out HT.out).mono ?_
        rintro e w3 ⟨rfl, hb⟩
        have HQ1 := Lib.hid ((hb.cell (by rw [add_blocka]; exact had)).trans q0)
        have HBm := Lib.hid (HBl.out.trans (hb.mono HBl.out.size))
        have HA := Lib.hid (HA.out.below hb)
        have HV := Lib.hid (HV.out.below hb)
        have HI := Lib.hid (HI.out.below hb)
        have HS := Lib.hid (HS.out.below hb)
        have HT := Lib.hid (tabs_below HT.out hb)
        clear hb
        clear q0 HBl HKC
        go_wp2
        have lA := HA.out.1
        have had3 := World.block_lt_of_cell? _ _ HQ1.out
        rw [add_blocka] at had3
        refine wp_held' mixed (VCo12 A nums.length c i ad x p1 p2 s) (VCo12_mono A nums.length c i ad x p1 p2 s) (by kernel_rfl) [48, 49, 50, 51, 52, 53, 54, 47, 55, 56, 12, 13] (by kernel_rfl) (by kernel_rfl) ?_ ?_
        · intro j hj
          have hj' : j < 12 := hj
          rcases (by omega : j = 0 ∨ j = 1 ∨ j = 2 ∨ j = 3 ∨ j = 4 ∨ j = 5 ∨ j = 6 ∨ j = 7 ∨ j = 8 ∨ j = 9 ∨ j = 10 ∨ j = 11) with rfl | rfl | rfl | rfl | rfl | rfl | rfl | rfl | rfl | rfl | rfl | rfl
          · -- operation 0
            (refine owes_val (L := [(3, false)]) rfl rfl rfl (by kernel_rfl) ?_; intro a' w' hb' hfacts; obtain ⟨hf3, -⟩ := hfacts; replace hf3 : a'.tmps[3]?.getD undef = .pointer (some ⟨A, 0, none⟩) := hf3)
            have pA := ((HA.out.below hb').2 0 _ rfl).1; have pQ := (hb'.cell (by rw [add_blocka]; exact had3)).trans HQ1.out
            (go_simp; first | exact ⟨_, rfl, Below.refl _ _, rfl⟩ | exact ⟨_, rfl, Below.refl _ _, trivial⟩ | exact ⟨_, rfl, (Below.refl _ _).alloc (Nat.le_refl _) _, trivial⟩ | exact ⟨_, rfl, Below.refl _ _, congrArg (Value.int _) (IntWalk.i64_in _ (by omega))⟩)
          · -- operation 1
            (refine owes_val (L := [(48, true)]) rfl rfl rfl (by kernel_rfl) ?_; intro a' w' hb' hfacts; obtain ⟨hf48, -⟩ := hfacts; try simp only [VCo12] at hf48)
            have pA := ((HA.out.below hb').2 0 _ rfl).1; have pQ := (hb'.cell (by rw [add_blocka]; exact had3)).trans HQ1.out
            (go_simp; first | exact ⟨_, rfl, Below.refl _ _, rfl⟩ | exact ⟨_, rfl, Below.refl _ _, trivial⟩ | exact ⟨_, rfl, (Below.refl _ _).alloc (Nat.le_refl _) _, trivial⟩ | exact ⟨_, rfl, Below.refl _ _, congrArg (Value.int _) (IntWalk.i64_in _ (by omega))⟩)
          · -- operation 2
            (refine owes_val (L := [(1, false)]) rfl rfl rfl (by kernel_rfl) ?_; intro a' w' hb' hfacts; obtain ⟨hf1, -⟩ := hfacts; replace hf1 : a'.tmps[1]?.getD undef = .slice (some ad) nums.length c := hf1)
            have pA := ((HA.out.below hb').2 0 _ rfl).1; have pQ := (hb'.cell (by rw [add_blocka]; exact had3)).trans HQ1.out
            (go_simp; first | exact ⟨_, rfl, Below.refl _ _, rfl⟩ | exact ⟨_, rfl, Below.refl _ _, trivial⟩ | exact ⟨_, rfl, (Below.refl _ _).alloc (Nat.le_refl _) _, trivial⟩ | exact ⟨_, rfl, Below.refl _ _, congrArg (Value.int _) (IntWalk.i64_in _ (by omega))⟩)
          · -- operation 3
            (refine owes_val (L := [(9, false)]) rfl rfl rfl (by kernel_rfl) ?_; intro a' w' hb' hfacts; obtain ⟨hf9, -⟩ := hfacts; replace hf9 : a'.tmps[9]?.getD undef = .int .i64 i := hf9)
            have pA := ((HA.out.below hb').2 0 _ rfl).1; have pQ := (hb'.cell (by rw [add_blocka]; exact had3)).trans HQ1.out
            (go_simp; first | exact ⟨_, rfl, Below.refl _ _, rfl⟩ | exact ⟨_, rfl, Below.refl _ _, trivial⟩ | exact ⟨_, rfl, (Below.refl _ _).alloc (Nat.le_refl _) _, trivial⟩ | exact ⟨_, rfl, Below.refl _ _, congrArg (Value.int _) (IntWalk.i64_in _ (by omega))⟩)
          · -- operation 4
            (refine owes_val (L := [(50, true), (51, true)]) rfl rfl rfl (by kernel_rfl) ?_; intro a' w' hb' hfacts; obtain ⟨hf50, hf51, -⟩ := hfacts; try simp only [VCo12] at hf50; try simp only [VCo12] at hf51)
            have pA := ((HA.out.below hb').2 0 _ rfl).1; have pQ := (hb'.cell (by rw [add_blocka]; exact had3)).trans HQ1.out
            (go_simp; first | exact ⟨_, rfl, Below.refl _ _, rfl⟩ | exact ⟨_, rfl, Below.refl _ _, trivial⟩ | exact ⟨_, rfl, (Below.refl _ _).alloc (Nat.le_refl _) _, trivial⟩ | exact ⟨_, rfl, Below.refl _ _, congrArg (Value.int _) (IntWalk.i64_in _ (by omega))⟩)
          · -- operation 5
            (refine owes_val (L := [(52, true)]) rfl rfl rfl (by kernel_rfl) ?_; intro a' w' hb' hfacts; obtain ⟨hf52, -⟩ := hfacts; try simp only [VCo12] at hf52)
            have pA := ((HA.out.below hb').2 0 _ rfl).1; have pQ := (hb'.cell (by rw [add_blocka]; exact had3)).trans HQ1.out
            (go_simp; first | exact ⟨_, rfl, Below.refl _ _, rfl⟩ | exact ⟨_, rfl, Below.refl _ _, trivial⟩ | exact ⟨_, rfl, (Below.refl _ _).alloc (Nat.le_refl _) _, trivial⟩ | exact ⟨_, rfl, Below.refl _ _, congrArg (Value.int _) (IntWalk.i64_in _ (by omega))⟩)
          · -- operation 6
            (refine owes_val (L := [(49, true), (53, true)]) rfl rfl rfl (by kernel_rfl) ?_; intro a' w' hb' hfacts; obtain ⟨hf49, hf53, -⟩ := hfacts; try simp only [VCo12] at hf49; try simp only [VCo12] at hf53)
            go_simp
            refine (HRC.out _).mono ?_
            rintro e w3 ⟨rfl, hb3⟩
            exact ⟨_, rfl, hb3, rfl⟩
          · -- operation 7
            (refine owes_val (L := [(54, true)]) rfl rfl rfl (by kernel_rfl) ?_; intro a' w' hb' hfacts; obtain ⟨hf54, -⟩ := hfacts; try simp only [VCo12] at hf54)
            have pA := ((HA.out.below hb').2 0 _ rfl).1; have pQ := (hb'.cell (by rw [add_blocka]; exact had3)).trans HQ1.out
            (go_simp; first | exact ⟨_, rfl, Below.refl _ _, rfl⟩ | exact ⟨_, rfl, Below.refl _ _, trivial⟩ | exact ⟨_, rfl, (Below.refl _ _).alloc (Nat.le_refl _) _, trivial⟩ | exact ⟨_, rfl, Below.refl _ _, congrArg (Value.int _) (IntWalk.i64_in _ (by omega))⟩)
          · -- operation 8
            (refine owes_val (L := [(47, true)]) rfl rfl rfl (by kernel_rfl) ?_; intro a' w' hb' hfacts; obtain ⟨hf47, -⟩ := hfacts; try simp only [VCo12] at hf47)
            have pA := ((HA.out.below hb').2 0 _ rfl).1; have pQ := (hb'.cell (by rw [add_blocka]; exact had3)).trans HQ1.out
            (go_simp; first | exact ⟨_, rfl, Below.refl _ _, rfl⟩ | exact ⟨_, rfl, Below.refl _ _, trivial⟩ | exact ⟨_, rfl, (Below.refl _ _).alloc (Nat.le_refl _) _, trivial⟩ | exact ⟨_, rfl, Below.refl _ _, congrArg (Value.int _) (IntWalk.i64_in _ (by omega))⟩)
          · -- operation 9
            (refine owes_val (L := [(47, true)]) rfl rfl rfl (by kernel_rfl) ?_; intro a' w' hb' hfacts; obtain ⟨hf47, -⟩ := hfacts; try simp only [VCo12] at hf47)
            have pA := ((HA.out.below hb').2 0 _ rfl).1; have pQ := (hb'.cell (by rw [add_blocka]; exact had3)).trans HQ1.out
            (go_simp; first | exact ⟨_, rfl, Below.refl _ _, rfl⟩ | exact ⟨_, rfl, Below.refl _ _, trivial⟩ | exact ⟨_, rfl, (Below.refl _ _).alloc (Nat.le_refl _) _, trivial⟩ | exact ⟨_, rfl, Below.refl _ _, congrArg (Value.int _) (IntWalk.i64_in _ (by omega))⟩)
          · -- operation 10
            (refine owes_val (L := [(55, true)]) rfl rfl rfl (by kernel_rfl) ?_; intro a' w' hb' hfacts; obtain ⟨hf55, -⟩ := hfacts; try simp only [VCo12] at hf55)
            have pA := ((HA.out.below hb').2 0 _ rfl).1; have pQ := (hb'.cell (by rw [add_blocka]; exact had3)).trans HQ1.out
            (go_simp; first | exact ⟨_, rfl, Below.refl _ _, rfl⟩ | exact ⟨_, rfl, Below.refl _ _, trivial⟩ | exact ⟨_, rfl, (Below.refl _ _).alloc (Nat.le_refl _) _, trivial⟩ | exact ⟨_, rfl, Below.refl _ _, congrArg (Value.int _) (IntWalk.i64_in _ (by omega))⟩)
          · -- operation 11
            (refine owes_val (L := [(56, true)]) rfl rfl rfl (by kernel_rfl) ?_; intro a' w' hb' hfacts; obtain ⟨hf56, -⟩ := hfacts; try simp only [VCo12] at hf56)
            have pA := ((HA.out.below hb').2 0 _ rfl).1; have pQ := (hb'.cell (by rw [add_blocka]; exact had3)).trans HQ1.out
            (go_simp; first | exact ⟨_, rfl, Below.refl _ _, rfl⟩ | exact ⟨_, rfl, Below.refl _ _, trivial⟩ | exact ⟨_, rfl, (Below.refl _ _).alloc (Nat.le_refl _) _, trivial⟩ | exact ⟨_, rfl, Below.refl _ _, congrArg (Value.int _) (IntWalk.i64_in _ (by omega))⟩)
        · intro f2 W4 hf2 hb4
          have g10 : f2 12 = .int .i64 p1 := hf2 12 (by decide)
          have g11 : f2 13 = .int .i64 p2 := hf2 13 (by decide)
          have HBn := Lib.hid (HBm.out.trans (hb4.mono HBm.out.size))
          clear hf2 lA HBm HQ1 had3 HRC hb4
          simp only [putAll, put_lit, List.map_cons, List.map_nil, List.set_cons_succ, List.set_cons_zero]
          simp only [g10, g11]
          clear g10 g11
          have hwi : IntKind.i64.wrap ((i : Int) + 1) = (i : Int) + 1 := IntWalk.i64_in _ (by omega)
          go_wp2
          go_roundw
          case rel => exact ⟨i + 1, by omega, by go_num, HBn.out⟩
          case measure => simp [intOf]; omega
      · obtain rfl : i = nums.length := by omega
        have HBx := Lib.hid (HB.out.trans (hbl.mono HB.out.size))
        have HA := Lib.hid (HA.out.below hbl)
        have HV := Lib.hid (HV.out.below hbl)
        have HS := Lib.hid (HS.out.below hbl)
        have HT := Lib.hid (tabs_below HT.out hbl)
        clear hbl
        clear hlt HI HB
        go_wp2
        rename World => wo
        go_loopw [14] (fun x wr => ∃ i : Nat, i ≤ spots.length ∧ x = .int .i64 i ∧ Below wo.heap.size wo wr) (fun x _ => spots.length - (intOf x).toNat)
        case atStart => exact ⟨0, Nat.zero_le _, rfl, Below.refl _ _⟩
        case round =>
          obtain ⟨i, hi, rfl, hbl⟩ := hrel
          by_cases hlt : i < spots.length
          · have HBl := Lib.hid hbl
            have HA := Lib.hid (HA.out.below hbl)
            have HV := Lib.hid (HV.out.below hbl)
            have HS := Lib.hid (HS.out.below hbl)
            have HT := Lib.hid (tabs_below HT.out hbl)
            clear hbl
            obtain hnil | ⟨ad, rfl, had, hx⟩ := HS.out
            · rw [hnil] at hlt; exact absurd hlt (by simp)
            obtain ⟨q0, q1⟩ := hx i hlt
            generalize spots[i] = xx at q0 q1
            obtain ⟨y, z⟩ := xx
            simp only at q0 q1
            clear hx HBx
            have i0 : (0 : Int) ≤ (i : Int) := by omega
            have i1 : (i : Int) < (spots.length : Int) := by omega
            have HKA := Lib.hid (LnAt_all (.iface vt vx) s y z)
            have HRA := Lib.hid (fun w => RefAt_any s y z w hs2)
            obtain ⟨⟨p1, p2⟩, hp⟩ : ∃ p, atA s y z = p := ⟨_, rfl⟩
            rw [hp] at HKA HRA
            have Q0 := Lib.hid q0
            have Q1 := Lib.hid q1
            clear hp q0 q1
            have hX : (ad.add (i * 2)).block < wr.heap.size := by rw [add_blocka]; exact had
            have hXX : Hid ((ad.add (i * 2)).block < wr.heap.size) := hX
            obtain ⟨X, hXe⟩ : ∃ X, ad.add (i * 2) = X := ⟨_, rfl⟩
            rw [hXe] at Q0 Q1 hXX
            clear hX had
            go_wp2
            refine wp_held' mixed (VCo18 spots.length cb i vt vx ad X y z p1 p2) (VCo18_mono _ _ _ _ _ _ _ _ _ _ _) (by kernel_rfl) [72, 73, 74, 75, 76, 77, 78, 79, 80, 81, 82, 83, 71, 84, 85, 15, 16] (by kernel_rfl) (by kernel_rfl) ?_ ?_
            · intro j hj
              have hj' : j < 17 := hj
              rcases (by omega : j = 0 ∨ j = 1 ∨ j = 2 ∨ j = 3 ∨ j = 4 ∨ j = 5 ∨ j = 6 ∨ j = 7 ∨ j = 8 ∨ j = 9 ∨ j = 10 ∨ j = 11 ∨ j = 12 ∨ j = 13 ∨ j = 14 ∨ j = 15 ∨ j = 16) with rfl | rfl | rfl | rfl | rfl | rfl | rfl | rfl | rfl | rfl | rfl | rfl | rfl | rfl | rfl | rfl | rfl
              · -- operation 0
                (refine owes_val (L := [(7, false)]) rfl rfl rfl (by kernel_rfl) ?_; intro a' w' hb' hfacts; obtain ⟨hf7, -⟩ := hfacts; replace hf7 : a'.tmps[7]?.getD undef = .iface vt vx := hf7)
                have pQ := (hb'.cell hXX.out).trans Q0.out; have pR := (hb'.cell (p := ⟨X.block, X.off + 1, none⟩) hXX.out).trans Q1.out
                (go_simp; first | exact ⟨_, rfl, Below.refl _ _, rfl⟩ | exact ⟨_, rfl, Below.refl _ _, trivial⟩ | exact ⟨_, rfl, (Below.refl _ _).alloc (Nat.le_refl _) _, trivial⟩ | exact ⟨_, rfl, Below.refl _ _, congrArg (Value.int _) (IntWalk.i64_in _ (by omega))⟩)
              · -- operation 1
                (refine owes_val (L := [(2, false)]) rfl rfl rfl (by kernel_rfl) ?_; intro a' w' hb' hfacts; obtain ⟨hf2, -⟩ := hfacts; replace hf2 : a'.tmps[2]?.getD undef = .slice (some ad) spots.length cb := hf2)
                have pQ := (hb'.cell hXX.out).trans Q0.out; have pR := (hb'.cell (p := ⟨X.block, X.off + 1, none⟩) hXX.out).trans Q1.out
                (go_simp; first | exact ⟨_, rfl, Below.refl _ _, rfl⟩ | exact ⟨_, rfl, Below.refl _ _, trivial⟩ | exact ⟨_, rfl, (Below.refl _ _).alloc (Nat.le_refl _) _, trivial⟩ | exact ⟨_, rfl, Below.refl _ _, congrArg (Value.int _) (IntWalk.i64_in _ (by omega))⟩)
              · -- operation 2
                (refine owes_val (L := [(14, false)]) rfl rfl rfl (by kernel_rfl) ?_; intro a' w' hb' hfacts; obtain ⟨hf14, -⟩ := hfacts; replace hf14 : a'.tmps[14]?.getD undef = .int .i64 i := hf14)
                have pQ := (hb'.cell hXX.out).trans Q0.out; have pR := (hb'.cell (p := ⟨X.block, X.off + 1, none⟩) hXX.out).trans Q1.out
                (go_simp; first | exact ⟨_, rfl, Below.refl _ _, rfl⟩ | exact ⟨_, rfl, Below.refl _ _, trivial⟩ | exact ⟨_, rfl, (Below.refl _ _).alloc (Nat.le_refl _) _, trivial⟩ | exact ⟨_, rfl, Below.refl _ _, congrArg (Value.int _) (IntWalk.i64_in _ (by omega))⟩)
              · -- operation 3
                (refine owes_val (L := [(73, true), (74, true)]) rfl rfl rfl (by kernel_rfl) ?_; intro a' w' hb' hfacts; obtain ⟨hf73, hf74, -⟩ := hfacts; try simp only [VCo18] at hf73; try simp only [VCo18] at hf74)
                have pQ := (hb'.cell hXX.out).trans Q0.out; have pR := (hb'.cell (p := ⟨X.block, X.off + 1, none⟩) hXX.out).trans Q1.out
                (go_simp; first | exact ⟨_, rfl, Below.refl _ _, rfl⟩ | exact ⟨_, rfl, Below.refl _ _, trivial⟩ | exact ⟨_, rfl, (Below.refl _ _).alloc (Nat.le_refl _) _, trivial⟩ | exact ⟨_, rfl, Below.refl _ _, congrArg (Value.int _) (IntWalk.i64_in _ (by omega))⟩)
              · -- operation 4
                (refine owes_val (L := [(75, true)]) rfl rfl rfl (by kernel_rfl) ?_; intro a' w' hb' hfacts; obtain ⟨hf75, -⟩ := hfacts; try simp only [VCo18] at hf75)
                have pQ := (hb'.cell hXX.out).trans Q0.out; have pR := (hb'.cell (p := ⟨X.block, X.off + 1, none⟩) hXX.out).trans Q1.out
                (go_simp; first | exact ⟨_, rfl, Below.refl _ _, rfl⟩ | exact ⟨_, rfl, Below.refl _ _, trivial⟩ | exact ⟨_, rfl, (Below.refl _ _).alloc (Nat.le_refl _) _, trivial⟩ | exact ⟨_, rfl, Below.refl _ _, congrArg (Value.int _) (IntWalk.i64_in _ (by omega))⟩)
              · -- operation 5
                (refine owes_val (L := [(76, true)]) rfl rfl rfl (by kernel_rfl) ?_; intro a' w' hb' hfacts; obtain ⟨hf76, -⟩ := hfacts; try simp only [VCo18] at hf76)
                have pQ := (hb'.cell hXX.out).trans Q0.out; have pR := (hb'.cell (p := ⟨X.block, X.off + 1, none⟩) hXX.out).trans Q1.out
                (go_simp; first | exact ⟨_, rfl, Below.refl _ _, rfl⟩ | exact ⟨_, rfl, Below.refl _ _, trivial⟩ | exact ⟨_, rfl, (Below.refl _ _).alloc (Nat.le_refl _) _, trivial⟩ | exact ⟨_, rfl, Below.refl _ _, congrArg (Value.int _) (IntWalk.i64_in _ (by omega))⟩)
              · -- operation 6
                (refine owes_val (L := [(2, false)]) rfl rfl rfl (by kernel_rfl) ?_; intro a' w' hb' hfacts; obtain ⟨hf2, -⟩ := hfacts; replace hf2 : a'.tmps[2]?.getD undef = .slice (some ad) spots.length cb := hf2)
                have pQ := (hb'.cell hXX.out).trans Q0.out; have pR := (hb'.cell (p := ⟨X.block, X.off + 1, none⟩) hXX.out).trans Q1.out
                (go_simp; first | exact ⟨_, rfl, Below.refl _ _, rfl⟩ | exact ⟨_, rfl, Below.refl _ _, trivial⟩ | exact ⟨_, rfl, (Below.refl _ _).alloc (Nat.le_refl _) _, trivial⟩ | exact ⟨_, rfl, Below.refl _ _, congrArg (Value.int _) (IntWalk.i64_in _ (by omega))⟩)
              · -- operation 7
                (refine owes_val (L := [(14, false)]) rfl rfl rfl (by kernel_rfl) ?_; intro a' w' hb' hfacts; obtain ⟨hf14, -⟩ := hfacts; replace hf14 : a'.tmps[14]?.getD undef = .int .i64 i := hf14)
                have pQ := (hb'.cell hXX.out).trans Q0.out; have pR := (hb'.cell (p := ⟨X.block, X.off + 1, none⟩) hXX.out).trans Q1.out
                (go_simp; first | exact ⟨_, rfl, Below.refl _ _, rfl⟩ | exact ⟨_, rfl, Below.refl _ _, trivial⟩ | exact ⟨_, rfl, (Below.refl _ _).alloc (Nat.le_refl _) _, trivial⟩ | exact ⟨_, rfl, Below.refl _ _, congrArg (Value.int _) (IntWalk.i64_in _ (by omega))⟩)
              · -- operation 8
                (refine owes_val (L := [(78, true), (79, true)]) rfl rfl rfl (by kernel_rfl) ?_; intro a' w' hb' hfacts; obtain ⟨hf78, hf79, -⟩ := hfacts; try simp only [VCo18] at hf78; try simp only [VCo18] at hf79)
                have pQ := (hb'.cell hXX.out).trans Q0.out; have pR := (hb'.cell (p := ⟨X.block, X.off + 1, none⟩) hXX.out).trans Q1.out
                (go_simp; first | exact ⟨_, rfl, Below.refl _ _, rfl⟩ | exact ⟨_, rfl, Below.refl _ _, trivial⟩ | exact ⟨_, rfl, (Below.refl _ _).alloc (Nat.le_refl _) _, trivial⟩ | exact ⟨_, rfl, Below.refl _ _, congrArg (Value.int _) (IntWalk.i64_in _ (by omega))⟩)
              · -- operation 9
                (refine owes_val (L := [(80, true)]) rfl rfl rfl (by kernel_rfl) ?_; intro a' w' hb' hfacts; obtain ⟨hf80, -⟩ := hfacts; try simp only [VCo18] at hf80)
                have pQ := (hb'.cell hXX.out).trans Q0.out; have pR := (hb'.cell (p := ⟨X.block, X.off + 1, none⟩) hXX.out).trans Q1.out
                (go_simp; first | exact ⟨_, rfl, Below.refl _ _, rfl⟩ | exact ⟨_, rfl, Below.refl _ _, trivial⟩ | exact ⟨_, rfl, (Below.refl _ _).alloc (Nat.le_refl _) _, trivial⟩ | exact ⟨_, rfl, Below.refl _ _, congrArg (Value.int _) (IntWalk.i64_in _ (by omega))⟩)
              · -- operation 10
                (refine owes_val (L := [(81, true)]) rfl rfl rfl (by kernel_rfl) ?_; intro a' w' hb' hfacts; obtain ⟨hf81, -⟩ := hfacts; try simp only [VCo18] at hf81)
                have pQ := (hb'.cell hXX.out).trans Q0.out; have pR := (hb'.cell (p := ⟨X.block, X.off + 1, none⟩) hXX.out).trans Q1.out
                (go_simp; first | exact ⟨_, rfl, Below.refl _ _, rfl⟩ | exact ⟨_, rfl, Below.refl _ _, trivial⟩ | exact ⟨_, rfl, (Below.refl _ _).alloc (Nat.le_refl _) _, trivial⟩ | exact ⟨_, rfl, Below.refl _ _, congrArg (Value.int _) (IntWalk.i64_in _ (by omega))⟩)
              · -- operation 11
                (refine owes_val (L := [(72, true), (77, true), (82, true)]) rfl rfl rfl (by kernel_rfl) ?_; intro a' w' hb' hfacts; obtain ⟨hf72, hf77, hf82, -⟩ := hfacts; try simp only [VCo18] at hf72; try simp only [VCo18] at hf77; try simp only [VCo18] at hf82)
                go_simp
                refine (HKA.out _ (HV.out.below hb') (tabs_below HT.out hb')).mono ?_
                rintro e w3 ⟨rfl, hb3⟩
                exact ⟨_, rfl, hb3, rfl⟩
              · -- operation 12
                (refine owes_val (L := [(83, true)]) rfl rfl rfl (by kernel_rfl) ?_; intro a' w' hb' hfacts; obtain ⟨hf83, -⟩ := hfacts; try simp only [VCo18] at hf83)
                have pQ := (hb'.cell hXX.out).trans Q0.out; have pR := (hb'.cell (p := ⟨X.block, X.off + 1, none⟩) hXX.out).trans Q1.out
                (go_simp; first | exact ⟨_, rfl, Below.refl _ _, rfl⟩ | exact ⟨_, rfl, Below.refl _ _, trivial⟩ | exact ⟨_, rfl, (Below.refl _ _).alloc (Nat.le_refl _) _, trivial⟩ | exact ⟨_, rfl, Below.refl _ _, congrArg (Value.int _) (IntWalk.i64_in _ (by omega))⟩)
              · -- operation 13
                (refine owes_val (L := [(71, true)]) rfl rfl rfl (by kernel_rfl) ?_; intro a' w' hb' hfacts; obtain ⟨hf71, -⟩ := hfacts; try simp only [VCo18] at hf71)
                have pQ := (hb'.cell hXX.out).trans Q0.out; have pR := (hb'.cell (p := ⟨X.block, X.off + 1, none⟩) hXX.out).trans Q1.out
                (go_simp; first | exact ⟨_, rfl, Below.refl _ _, rfl⟩ | exact ⟨_, rfl, Below.refl _ _, trivial⟩ | exact ⟨_, rfl, (Below.refl _ _).alloc (Nat.le_refl _) _, trivial⟩ | exact ⟨_, rfl, Below.refl _ _, congrArg (Value.int _) (IntWalk.i64_in _ (by omega))⟩)
              · -- operation 14
                (refine owes_val (L := [(71, true)]) rfl rfl rfl (by kernel_rfl) ?_; intro a' w' hb' hfacts; obtain ⟨hf71, -⟩ := hfacts; try simp only [VCo18] at hf71)
                have pQ := (hb'.cell hXX.out).trans Q0.out; have pR := (hb'.cell (p := ⟨X.block, X.off + 1, none⟩) hXX.out).trans Q1.out
                (go_simp; first | exact ⟨_, rfl, Below.refl _ _, rfl⟩ | exact ⟨_, rfl, Below.refl _ _, trivial⟩ | exact ⟨_, rfl, (Below.refl _ _).alloc (Nat.le_refl _) _, trivial⟩ | exact ⟨_, rfl, Below.refl _ _, congrArg (Value.int _) (IntWalk.i64_in _ (by omega))⟩)
              · -- operation 15
                (refine owes_val (L := [(84, true)]) rfl rfl rfl (by kernel_rfl) ?_; intro a' w' hb' hfacts; obtain ⟨hf84, -⟩ := hfacts; try simp only [VCo18] at hf84)
                have pQ := (hb'.cell hXX.out).trans Q0.out; have pR := (hb'.cell (p := ⟨X.block, X.off + 1, none⟩) hXX.out).trans Q1.out
                (go_simp; first | exact ⟨_, rfl, Below.refl _ _, rfl⟩ | exact ⟨_, rfl, Below.refl _ _, trivial⟩ | exact ⟨_, rfl, (Below.refl _ _).alloc (Nat.le_refl _) _, trivial⟩ | exact ⟨_, rfl, Below.refl _ _, congrArg (Value.int _) (IntWalk.i64_in _ (by omega))⟩)
              · -- operation 16
                (refine owes_val (L := [(85, true)]) rfl rfl rfl (by kernel_rfl) ?_; intro a' w' hb' hfacts; obtain ⟨hf85, -⟩ := hfacts; try simp only [VCo18] at hf85)
                have pQ := (hb'.cell hXX.out).trans Q0.out; have pR := (hb'.cell (p := ⟨X.block, X.off + 1, none⟩) hXX.out).trans Q1.out
                (go_simp; first | exact ⟨_, rfl, Below.refl _ _, rfl⟩ | exact ⟨_, rfl, Below.refl _ _, trivial⟩ | exact ⟨_, rfl, (Below.refl _ _).alloc (Nat.le_refl _) _, trivial⟩ | exact ⟨_, rfl, Below.refl _ _, congrArg (Value.int _) (IntWalk.i64_in _ (by omega))⟩)
            · intro f2 W4 hf2 hb4
              have g10 : f2 15 = .int .i64 p1 := hf2 15 (by decide)
              have g11 : f2 16 = .int .i64 p2 := hf2 16 (by decide)
              have HBm := Lib.hid (HBl.out.trans (hb4.mono HBl.out.size))
              have Q2 := Lib.hid ((hb4.cell hXX.out).trans Q0.out)
              have Q3 := Lib.hid ((hb4.cell (p := ⟨X.block, X.off + 1, none⟩) hXX.out).trans Q1.out)
              have hX4 : Hid (X.block < W4.heap.size) := Nat.lt_of_lt_of_le hXX.out hb4.size
              have HA := Lib.hid (HA.out.below hb4)
              clear hb4
              clear hf2 HKA Q0 Q1 hXX HBl HV HS HT
              simp only [putAll, put_lit, List.map_cons, List.map_nil, List.set_cons_succ, List.set_cons_zero]
              simp only [g10, g11]
              clear g10 g11
              go_wp2
              have lA := HA.out.1
              refine wp_held' mixed (VCo19 A spots.length cb i ad X y z p1 p2 s) (VCo19_mono _ _ _ _ _ _ _ _ _ _ _) (by kernel_rfl) [87, 88, 89, 90, 91, 92, 93, 94, 95, 96, 97, 98, 99, 86, 100, 101, 17, 18] (by kernel_rfl) (by kernel_rfl) ?_ ?_
              · intro j hj
                have hj' : j < 18 := hj
                rcases (by omega : j = 0 ∨ j = 1 ∨ j = 2 ∨ j = 3 ∨ j = 4 ∨ j = 5 ∨ j = 6 ∨ j = 7 ∨ j = 8 ∨ j = 9 ∨ j = 10 ∨ j = 11 ∨ j = 12 ∨ j = 13 ∨ j = 14 ∨ j = 15 ∨ j = 16 ∨ j = 17) with rfl | rfl | rfl | rfl | rfl | rfl | rfl | rfl | rfl | rfl | rfl | rfl | rfl | rfl | rfl | rfl | rfl | rfl
                · -- operation 0
                  (refine owes_val (L := [(3, false)]) rfl rfl rfl (by kernel_rfl) ?_; intro a' w' hb' hfacts; obtain ⟨hf3, -⟩ := hfacts; replace hf3 : a'.tmps[3]?.getD undef = .pointer (some ⟨A, 0, none⟩) := hf3)
                  have pA := ((HA.out.below hb').2 0 _ rfl).1; have pQ := (hb'.cell hX4.out).trans Q2.out; have pR := (hb'.cell (p := ⟨X.block, X.off + 1, none⟩) hX4.out).trans Q3.out
                  (go_simp; first | exact ⟨_, rfl, Below.refl _ _, rfl⟩ | exact ⟨_, rfl, Below.refl _ _, trivial⟩ | exact ⟨_, rfl, (Below.refl _ _).alloc (Nat.le_refl _) _, trivial⟩ | exact ⟨_, rfl, Below.refl _ _, congrArg (Value.int _) (IntWalk.i64_in _ (by omega))⟩)
                · -- operation 1
                  (refine owes_val (L := [(87, true)]) rfl rfl rfl (by kernel_rfl) ?_; intro a' w' hb' hfacts; obtain ⟨hf87, -⟩ := hfacts; try simp only [VCo19] at hf87)
                  have pA := ((HA.out.below hb').2 0 _ rfl).1; have pQ := (hb'.cell hX4.out).trans Q2.out; have pR := (hb'.cell (p := ⟨X.block, X.off + 1, none⟩) hX4.out).trans Q3.out
                  (go_simp; first | exact ⟨_, rfl, Below.refl _ _, rfl⟩ | exact ⟨_, rfl, Below.refl _ _, trivial⟩ | exact ⟨_, rfl, (Below.refl _ _).alloc (Nat.le_refl _) _, trivial⟩ | exact ⟨_, rfl, Below.refl _ _, congrArg (Value.int _) (IntWalk.i64_in _ (by omega))⟩)
                · -- operation 2
                  (refine owes_val (L := [(2, false)]) rfl rfl rfl (by kernel_rfl) ?_; intro a' w' hb' hfacts; obtain ⟨hf2, -⟩ := hfacts; replace hf2 : a'.tmps[2]?.getD undef = .slice (some ad) spots.length cb := hf2)
                  have pA := ((HA.out.below hb').2 0 _ rfl).1; have pQ := (hb'.cell hX4.out).trans Q2.out; have pR := (hb'.cell (p := ⟨X.block, X.off + 1, none⟩) hX4.out).trans Q3.out
                  (go_simp; first | exact ⟨_, rfl, Below.refl _ _, rfl⟩ | exact ⟨_, rfl, Below.refl _ _, trivial⟩ | exact ⟨_, rfl, (Below.refl _ _).alloc (Nat.le_refl _) _, trivial⟩ | exact ⟨_, rfl, Below.refl _ _, congrArg (Value.int _) (IntWalk.i64_in _ (by omega))⟩)
                · -- operation 3
                  (refine owes_val (L := [(14, false)]) rfl rfl rfl (by kernel_rfl) ?_; intro a' w' hb' hfacts; obtain ⟨hf14, -⟩ := hfacts; replace hf14 : a'.tmps[14]?.getD undef = .int .i64 i := hf14)
                  have pA := ((HA.out.below hb').2 0 _ rfl).1; have pQ := (hb'.cell hX4.out).trans Q2.out; have pR := (hb'.cell (p := ⟨X.block, X.off + 1, none⟩) hX4.out).trans Q3.out
                  (go_simp; first | exact ⟨_, rfl, Below.refl _ _, rfl⟩ | exact ⟨_, rfl, Below.refl _ _, trivial⟩ | exact ⟨_, rfl, (Below.refl _ _).alloc (Nat.le_refl _) _, trivial⟩ | exact ⟨_, rfl, Below.refl _ _, congrArg (Value.int _) (IntWalk.i64_in _ (by omega))⟩)
                · -- operation 4
                  (refine owes_val (L := [(89, true), (90, true)]) rfl rfl rfl (by kernel_rfl) ?_; intro a' w' hb' hfacts; obtain ⟨hf89, hf90, -⟩ := hfacts; try simp only [VCo19] at hf89; try simp only [VCo19] at hf90)
                  have pA := ((HA.out.below hb').2 0 _ rfl).1; have pQ := (hb'.cell hX4.out).trans Q2.out; have pR := (hb'.cell (p := ⟨X.block, X.off + 1, none⟩) hX4.out).trans Q3.out
                  (go_simp; first | exact ⟨_, rfl, Below.refl _ _, rfl⟩ | exact ⟨_, rfl, Below.refl _ _, trivial⟩ | exact ⟨_, rfl, (Below.refl _ _).alloc (Nat.le_refl _) _, trivial⟩ | exact ⟨_, rfl, Below.refl _ _, congrArg (Value.int _) (IntWalk.i64_in _ (by omega))⟩)
                · -- operation 5
                  (refine owes_val (L := [(91, true)]) rfl rfl rfl (by kernel_rfl) ?_; intro a' w' hb' hfacts; obtain ⟨hf91, -⟩ := hfacts; try simp only [VCo19] at hf91)
                  have pA := ((HA.out.below hb').2 0 _ rfl).1; have pQ := (hb'.cell hX4.out).trans Q2.out; have pR := (hb'.cell (p := ⟨X.block, X.off + 1, none⟩) hX4.out).trans Q3.out
                  (go_simp; first | exact ⟨_, rfl, Below.refl _ _, rfl⟩ | exact ⟨_, rfl, Below.refl _ _, trivial⟩ | exact ⟨_, rfl, (Below.refl _ _).alloc (Nat.le_refl _) _, trivial⟩ | exact ⟨_, rfl, Below.refl _ _, congrArg (Value.int _) (IntWalk.i64_in _ (by omega))⟩)
                · -- operation 6
                  (refine owes_val (L := [(92, true)]) rfl rfl rfl (by kernel_rfl) ?_; intro a' w' hb' hfacts; obtain ⟨hf92, -⟩ := hfacts; try simp only [VCo19] at hf92)
                  have pA := ((HA.out.below hb').2 0 _ rfl).1; have pQ := (hb'.cell hX4.out).trans Q2.out; have pR := (hb'.cell (p := ⟨X.block, X.off + 1, none⟩) hX4.out).trans Q3.out
                  (go_simp; first | exact ⟨_, rfl, Below.refl _ _, rfl⟩ | exact ⟨_, rfl, Below.refl _ _, trivial⟩ | exact ⟨_, rfl, (Below.refl _ _).alloc (Nat.le_refl _) _, trivial⟩ | exact ⟨_, rfl, Below.refl _ _, congrArg (Value.int _) (IntWalk.i64_in _ (by omega))⟩)
                · -- operation 7
                  (refine owes_val (L := [(2, false)]) rfl rfl rfl (by kernel_rfl) ?_; intro a' w' hb' hfacts; obtain ⟨hf2, -⟩ := hfacts; replace hf2 : a'.tmps[2]?.getD undef = .slice (some ad) spots.length cb := hf2)
                  have pA := ((HA.out.below hb').2 0 _ rfl).1; have pQ := (hb'.cell hX4.out).trans Q2.out; have pR := (hb'.cell (p := ⟨X.block, X.off + 1, none⟩) hX4.out).trans Q3.out
                  (go_simp; first | exact ⟨_, rfl, Below.refl _ _, rfl⟩ | exact ⟨_, rfl, Below.refl _ _, trivial⟩ | exact ⟨_, rfl, (Below.refl _ _).alloc (Nat.le_refl _) _, trivial⟩ | exact ⟨_, rfl, Below.refl _ _, congrArg (Value.int _) (IntWalk.i64_in _ (by omega))⟩)
                · -- operation 8
                  (refine owes_val (L := [(14, false)]) rfl rfl rfl (by kernel_rfl) ?_; intro a' w' hb' hfacts; obtain ⟨hf14, -⟩ := hfacts; replace hf14 : a'.tmps[14]?.getD undef = .int .i64 i := hf14)
                  have pA := ((HA.out.below hb').2 0 _ rfl).1; have pQ := (hb'.cell hX4.out).trans Q2.out; have pR := (hb'.cell (p := ⟨X.block, X.off + 1, none⟩) hX4.out).trans Q3.out
                  (go_simp; first | exact ⟨_, rfl, Below.refl _ _, rfl⟩ | exact ⟨_, rfl, Below.refl _ _, trivial⟩ | exact ⟨_, rfl, (Below.refl _ _).alloc (Nat.le_refl _) _, trivial⟩ | exact ⟨_, rfl, Below.refl _ _, congrArg (Value.int _) (IntWalk.i64_in _ (by omega))⟩)
                · -- operation 9
                  (refine owes_val (L := [(94, true), (95, true)]) rfl rfl rfl (by kernel_rfl) ?_; intro a' w' hb' hfacts; obtain ⟨hf94, hf95, -⟩ := hfacts; try simp only [VCo19] at hf94; try simp only [VCo19] at hf95)
                  have pA := ((HA.out.below hb').2 0 _ rfl).1; have pQ := (hb'.cell hX4.out).trans Q2.out; have pR := (hb'.cell (p := ⟨X.block, X.off + 1, none⟩) hX4.out).trans Q3.out
                  (go_simp; first | exact ⟨_, rfl, Below.refl _ _, rfl⟩ | exact ⟨_, rfl, Below.refl _ _, trivial⟩ | exact ⟨_, rfl, (Below.refl _ _).alloc (Nat.le_refl _) _, trivial⟩ | exact ⟨_, rfl, Below.refl _ _, congrArg (Value.int _) (IntWalk.i64_in _ (by omega))⟩)
                · -- operation 10
                  (refine owes_val (L := [(96, true)]) rfl rfl rfl (by kernel_rfl) ?_; intro a' w' hb' hfacts; obtain ⟨hf96, -⟩ := hfacts; try simp only [VCo19] at hf96)
                  have pA := ((HA.out.below hb').2 0 _ rfl).1; have pQ := (hb'.cell hX4.out).trans Q2.out; have pR := (hb'.cell (p := ⟨X.block, X.off + 1, none⟩) hX4.out).trans Q3.out
                  (go_simp; first | exact ⟨_, rfl, Below.refl _ _, rfl⟩ | exact ⟨_, rfl, Below.refl _ _, trivial⟩ | exact ⟨_, rfl, (Below.refl _ _).alloc (Nat.le_refl _) _, trivial⟩ | exact ⟨_, rfl, Below.refl _ _, congrArg (Value.int _) (IntWalk.i64_in _ (by omega))⟩)
                · -- operation 11
                  (refine owes_val (L := [(97, true)]) rfl rfl rfl (by kernel_rfl) ?_; intro a' w' hb' hfacts; obtain ⟨hf97, -⟩ := hfacts; try simp only [VCo19] at hf97)
                  have pA := ((HA.out.below hb').2 0 _ rfl).1; have pQ := (hb'.cell hX4.out).trans Q2.out; have pR := (hb'.cell (p := ⟨X.block, X.off + 1, none⟩) hX4.out).trans Q3.out
                  (go_simp; first | exact ⟨_, rfl, Below.refl _ _, rfl⟩ | exact ⟨_, rfl, Below.refl _ _, trivial⟩ | exact ⟨_, rfl, (Below.refl _ _).alloc (Nat.le_refl _) _, trivial⟩ | exact ⟨_, rfl, Below.refl _ _, congrArg (Value.int _) (IntWalk.i64_in _ (by omega))⟩)
                · -- operation 12
                  (refine owes_val (L := [(88, true), (93, true), (98, true)]) rfl rfl rfl (by kernel_rfl) ?_; intro a' w' hb' hfacts; obtain ⟨hf88, hf93, hf98, -⟩ := hfacts; try simp only [VCo19] at hf88; try simp only [VCo19] at hf93; try simp only [VCo19] at hf98)
                  go_simp
                  refine (HRA.out _).mono ?_
                  rintro e w3 ⟨rfl, hb3⟩
                  exact ⟨_, rfl, hb3, rfl⟩
                · -- operation 13
                  (refine owes_val (L := [(99, true)]) rfl rfl rfl (by kernel_rfl) ?_; intro a' w' hb' hfacts; obtain ⟨hf99, -⟩ := hfacts; try simp only [VCo19] at hf99)
                  have pA := ((HA.out.below hb').2 0 _ rfl).1; have pQ := (hb'.cell hX4.out).trans Q2.out; have pR := (hb'.cell (p := ⟨X.block, X.off + 1, none⟩) hX4.out).trans Q3.out
                  (go_simp; first | exact ⟨_, rfl, Below.refl _ _, rfl⟩ | exact ⟨_, rfl, Below.refl _ _, trivial⟩ | exact ⟨_, rfl, (Below.refl _ _).alloc (Nat.le_refl _) _, trivial⟩ | exact ⟨_, rfl, Below.refl _ _, congrArg (Value.int _) (IntWalk.i64_in _ (by omega))⟩)
                · -- operation 14
                  (refine owes_val (L := [(86, true)]) rfl rfl rfl (by kernel_rfl) ?_; intro a' w' hb' hfacts; obtain ⟨hf86, -⟩ := hfacts; try simp only [VCo19] at hf86)
                  have pA := ((HA.out.below hb').2 0 _ rfl).1; have pQ := (hb'.cell hX4.out).trans Q2.out; have pR := (hb'.cell (p := ⟨X.block, X.off + 1, none⟩) hX4.out).trans Q3.out
                  (go_simp; first | exact ⟨_, rfl, Below.refl _ _, rfl⟩ | exact ⟨_, rfl, Below.refl _ _, trivial⟩ | exact ⟨_, rfl, (Below.refl _ _).alloc (Nat.le_refl _) _, trivial⟩ | exact ⟨_, rfl, Below.refl _ _, congrArg (Value.int _) (IntWalk.i64_in _ (by omega))⟩)
                · -- operation 15
                  (refine owes_val (L := [(86, true)]) rfl rfl rfl (by kernel_rfl) ?_; intro a' w' hb' hfacts; obtain ⟨hf86, -⟩ := hfacts; try simp only [VCo19] at hf86)
                  have pA := ((HA.out.below hb').2 0 _ rfl).1; have pQ := (hb'.cell hX4.out).trans Q2.out; have pR := (hb'.cell (p := ⟨X.block, X.off + 1, none⟩) hX4.out).trans Q3.out
                  (go_simp; first | exact ⟨_, rfl, Below.refl _ _, rfl⟩ | exact ⟨_, rfl, Below.refl _ _, trivial⟩ | exact ⟨_, rfl, (Below.refl _ _).alloc (Nat.le_refl _) _, trivial⟩ | exact ⟨_, rfl, Below.refl _ _, congrArg (Value.int _) (IntWalk.i64_in _ (by omega))⟩)
                · -- operation 16
                  (refine owes_val (L := [(100, true)]) rfl rfl rfl (by kernel_rfl) ?_; intro a' w' hb' hfacts; obtain ⟨hf100, -⟩ := hfacts; try simp only [VCo19] at hf100)
                  have pA := ((HA.out.below hb').2 0 _ rfl).1; have pQ := (hb'.cell hX4.out).trans Q2.out; have pR := (hb'.cell (p := ⟨X.block, X.off + 1, none⟩) hX4.out).trans Q3.out
                  (go_simp; first | exact ⟨_, rfl, Below.refl _ _, rfl⟩ | exact ⟨_, rfl, Below.refl _ _, trivial⟩ | exact ⟨_, rfl, (Below.refl _ _).alloc (Nat.le_refl _) _, trivial⟩ | exact ⟨_, rfl, Below.refl _ _, congrArg (Value.int _) (IntWalk.i64_in _ (by omega))⟩)
                · -- operation 17
                  (refine owes_val (L := [(101, true)]) rfl rfl rfl (by kernel_rfl) ?_; intro a' w' hb' hfacts; obtain ⟨hf101, -⟩ := hfacts; try simp only [VCo19] at hf101)
                  have pA := ((HA.out.below hb').2 0 _ rfl).1; have pQ := (hb'.cell hX4.out).trans Q2.out; have pR := (hb'.cell (p := ⟨X.block, X.off + 1, none⟩) hX4.out).trans Q3.out
                  (go_simp; first | exact ⟨_, rfl, Below.refl _ _, rfl⟩ | exact ⟨_, rfl, Below.refl _ _, trivial⟩ | exact ⟨_, rfl, (Below.refl _ _).alloc (Nat.le_refl _) _, trivial⟩ | exact ⟨_, rfl, Below.refl _ _, congrArg (Value.int _) (IntWalk.i64_in _ (by omega))⟩)
              · intro f3 W5 hf3 hb5
                have g10 : f3 17 = .int .i64 p1 := hf3 17 (by decide)
                have g11 : f3 18 = .int .i64 p2 := hf3 18 (by decide)
                have HBn := Lib.hid (HBm.out.trans (hb5.mono HBm.out.size))
                clear hf3 lA HBm Q2 Q3 hX4 HRA hb5 hXe
                simp only [putAll, put_lit, List.map_cons, List.map_nil, List.set_cons_succ, List.set_cons_zero]
                simp only [g10, g11]
                clear g10 g11
                have hwi : IntKind.i64.wrap ((i : Int) + 1) = (i : Int) + 1 := IntWalk.i64_in _ (by omega)
                go_wp2
                go_roundw
                case rel => exact ⟨i + 1, by omega, by go_num, HBn.out⟩
                case measure => simp [intOf]; omega
          · obtain rfl : i = spots.length := by omega
            have HBy := Lib.hid (HBx.out.trans (hbl.mono HBx.out.size))
            clear hlt hbl HBx
            go_wp2
            go_ret
            exact ⟨rfl, HBy.out⟩

set_option maxRecDepth 100000 in
theorem calls_LinesColumns {H : Type} {enc : TypeId × Value → H} {W : World} {base : Nat} {v0 v1 v2 : Value} {d0 d1 d2 : DataW H} {p0 p1 p2 : List MemPlace} (hL : laidMetH Tryz.prog Rows.linesColumnsRow.laid W)
    (o0 : Value.okWide Tryz.prog W .any base 23 v0) (h0 : DataW.Trod enc Tryz.prog W 0 (fun _ => true) true 23 v0 d0 p0) (w0 : ∀ n ∈ d0.weights Tryz.prog 23, n ≤ reachBytes)
    (o1 : Value.okWide Tryz.prog W .any base 24 v1) (h1 : DataW.Trod enc Tryz.prog W 0 (fun _ => true) true 24 v1 d1 p1) (w1 : ∀ n ∈ d1.weights Tryz.prog 24, n ≤ reachBytes)
    (o2 : Value.okWide Tryz.prog W .any base 25 v2) (h2 : DataW.Trod enc Tryz.prog W 0 (fun _ => true) true 25 v2 d2 p2) (w2 : ∀ n ∈ d2.weights Tryz.prog 25, n ≤ reachBytes) :
    Calls Tryz.prog 3 #[v0, v1, v2] W fun e W' => e = .returned (.bool true) ∧ Below W.heap.size W W' := by
  obtain ⟨s, k, rfl, hs⟩ := open_kept o0 h0 w0
  obtain ⟨A, l, c, rfl, hI, hm⟩ := open_nums h1 (by obtain ⟨a, l, c, rfl⟩ := okWide_slice Tryz.underlying24 o1; rfl)
  obtain ⟨A2, l2, c2, rfl, hS, hm2⟩ := open_spots h2 (by obtain ⟨a, l, c, rfl⟩ := okWide_slice Tryz.underlying25 o2; rfl)
  exact law_LinesColumns s k A A2 l l2 c c2 W (tabs_of_laid hL) (by unfold reachBytes at hs; omega) hI hm hS hm2
end Go.Proofs.YtgmpohdkignadaaGreatDoor.Ut
