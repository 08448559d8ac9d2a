/-
  What the proof of the row LinesBack rests on: the texts LwF. Conditions: each theorem names its own.
-/
import Derived.Test.YtgmpohdkignadaaGreatDoorMgLj
import Derived.Test.YtgmpohdkignadaaGreatDoorMgLg
/-
  The law LinesBack, walked. Condition: the two tables of unicode/utf8 lie as laid.
-/
namespace Go.Proofs.YtgmpohdkignadaaGreatDoor.Ut
open Go.RowKit Go.Proofs.YtgmpohdkignadaaGreatDoor.Reg Go.ChangeShapes Go.WideShapes
set_option linter.unusedVariables false
set_option linter.unusedSimpArgs false

theorem cells_zero (s : ByteArray) (F : Nat) : cellsOf s F 0 = 0 := rfl
/-- What the law asks of a boundary a in line N. -/
structure BackAt (s : ByteArray) (a N F T : Nat) (C : Int) : Prop where
  F_le : F ≤ a
  le_T : a ≤ T
  size : T ≤ s.size
  N_le : N ≤ nlF s
  C0 : a = F → C = 0
  C_ge : 0 ≤ C
  C_le : C ≤ 2147483648
  of : nlTo s a = N
  col : colN s a = C
  beg : beginF s (N : Nat) = F
  fin : spanT s N = T
  at1 : atN2 s N C = a
  at2 : atN2 s N (-1) = F
  at3 : atN2 s N 1099511627776 = T
  mid : a < T → clN s a ≤ T ∧ colN s (clN s a) = C + clW s a ∧ 1 ≤ clW s a ∧ clW s a ≤ 2 ∧ atN2 s N (C + clW s a - 1) = a
  fin0 : a = T → a < s.size → clW s a = 0
  last : a = s.size → N = nlF s
theorem back_at {s : ByteArray} {a : Nat} (hs : s.size ≤ 1073741824) (ha : a ≤ s.size) (hb : clB s a = true) : ∃ N F T C, BackAt s a N F T C := by
  obtain ⟨n1, n2, n3⟩ := line_of s ha hb
  have L := line_at s n1
  obtain ⟨N, hN⟩ : ∃ N, nlTo s a = N := ⟨_, rfl⟩
  rw [hN] at n1 n2 n3 L
  obtain ⟨F, hF⟩ : ∃ F, beginF s (N : Nat) = F := ⟨_, rfl⟩
  obtain ⟨T, hT⟩ : ∃ T, spanT s N = T := ⟨_, rfl⟩
  rw [hF, hT] at L
  rw [hF] at n2
  rw [hT] at n3
  have hc := L.col n2 n3 hb
  have cb := cells_bound s F (a - F)
  have ct := cells_bound s F (T - F)
  have hsz := L.size
  have w := clW_bounds s a
  refine ⟨N, F, T, cellsOf s F (a - F), n2, n3, L.size, n1, fun e => by rw [e, Nat.sub_self]; rfl, cb.1, by omega, hN, hc, hF, hT, ?_, ?_, ?_, fun h => ?_, fun h h2 => ?_, fun h => by rw [← hN, h, nlTo_all]⟩
  · rcases Nat.lt_or_eq_of_le n3 with h | h
    · have := L.cell_pos n1 n2 h hb
      exact L.at_mid n2 h hb _ (.inr (Int.le_refl _)) (by omega)
    · rw [h]; exact L.at_end _ (.inr (Int.le_refl _))
  · rcases Nat.lt_or_eq_of_le L.le with h | h
    · have := clW_bounds s F
      have e := L.at_mid (Nat.le_refl F) h L.bF (-1) (.inl rfl) (by rw [Nat.sub_self, cells_zero]; omega)
      exact e
    · rw [L.at_end (-1) (.inl h), h]
  · exact L.at_end _ (.inr (by omega))
  · have hp := L.cell_pos n1 n2 h hb
    have hl : a < s.size := by omega
    have hg := clN_gt hl
    have hnl := next_le hb L.bT h hsz
    refine ⟨hnl, ?_, hp, w.2, ?_⟩
    · rw [L.col (by omega) hnl (next_clB hb hl)]
      exact cells_step n2 hb hl
    · exact L.at_mid n2 h hb _ (.inr (by omega)) (by omega)
  · rw [h]
    refine L.nl_cells ?_
    rcases Nat.lt_or_eq_of_le n1 with h3 | h3
    · exact h3
    · have := L.last h3; omega

set_option maxRecDepth 100000 in
set_option maxHeartbeats 4000000 in
theorem law_LinesBack (s : ByteArray) (k : Int) (w : World) (hT : Tabs w) (hs : s.size ≤ 140737488355328) :
    Calls Tryz.prog 4 #[.agg #[.string s, .int .i64 k]] w fun e w' => e = .returned (.bool true) ∧ Below w.heap.size w w' := by
  obtain ⟨W0, hW0, A0, b0, hsz⟩ := boxL1 w [.string s, .int .i64 k] 23
  have HE := Lib.hid hW0
  have HA := Lib.hid A0
  have HB := Lib.hid b0
  have HT := Lib.hid (tabs_below hT b0)
  clear hW0 A0 b0 hsz hT
  go_enter Tryz.func4, Tryz.ntmps4
  go_wp2_with fail
  rw [HE.out]
  refine (awake_any W0 HT.out).mono ?_
  rintro e w1 ⟨rfl, hb⟩
  have HA := Lib.hid (HA.out.below hb)
  have HT := Lib.hid (tabs_below HT.out hb)
  have HB := Lib.hid (HB.out.trans (hb.mono HB.out.size))
  clear hb
  have lA := HA.out.1
  have a0 := (HA.out.2 0 _ rfl).1
  have a1 := (HA.out.2 1 _ rfl).1
  by_cases hbig : 1073741822 < s.size
  · have hb1 : (1073741822 : Int) < (s.size : Int) := by omega
    go_wp2
    go_ret
    exact ⟨rfl, HB.out⟩
  · have hb1 : ¬ (1073741822 : Int) < (s.size : Int) := by omega
    have hs2 : s.size ≤ 1073741824 := by omega
    go_wp2_with fail
    refine (keep_any s k w1 HT.out hs2).mono ?_
    rintro e w2 ⟨v, rfl, hv, hb⟩
    obtain ⟨vt, vx, rfl⟩ : ∃ t x, v = .iface t x := by
      rcases hv with ⟨b, rfl, _⟩ | ⟨b, i, T, rfl, _⟩
      · exact ⟨_, _, rfl⟩
      · exact ⟨_, _, rfl⟩
    have hV := hv.text (tabs_below HT.out hb) hs2
    have HV := Lib.hid hV
    have HA := Lib.hid (HA.out.below hb)
    have HT := Lib.hid (tabs_below HT.out hb)
    have HB := Lib.hid (HB.out.trans (hb.mono HB.out.size))
    clear hb
    clear hV hv a0 a1 lA hbig
    go_wp2
    go_loopw [5, 6] (fun x y wr => ∃ a st : Nat, a ≤ s.size ∧ Hid (clB s a = true) ∧ x = .int .i64 a ∧ y = .int .i64 st ∧ st ≤ 300 ∧ Below w2.heap.size w2 wr) (fun _ y _ => 300 - (intOf y).toNat)
    case atStart => exact ⟨0, 0, Nat.zero_le _, clB_zero s, rfl, rfl, by omega, Below.refl _ _⟩
    case round =>
      obtain ⟨a, st, ha, hcb, rfl, rfl, hst, hbl⟩ := hrel
      have HBl := Lib.hid hbl
      have HA := Lib.hid (HA.out.below hbl)
      have HV := Lib.hid (HV.out.below hbl)
      have HT := Lib.hid (tabs_below HT.out hbl)
      clear hbl
      by_cases hlt : st < 300
      · have hltI : (st : Int) < 300 := by omega
        obtain ⟨N, F, T, C, G⟩ := back_at hs2 ha hcb.out
        have HG := Lib.hid G
        clear G
        go_wp2_with fail
        refine (LnOf_any _ s a wr HV.out ha).mono ?_
        rintro e w3 ⟨rfl, hb⟩
        rw [HG.out.of]
        have HB2 := Lib.hid (HBl.out.trans (hb.mono HBl.out.size))
        have HA := Lib.hid (HA.out.below hb)
        have HV := Lib.hid (HV.out.below hb)
        have HT := Lib.hid (tabs_below HT.out hb)
        clear hb
        clear HBl
        have KC := LnColumn_all (.iface vt vx) s a
        have hcA : colA s a = (C, 0) := by unfold colA; rw [if_pos (by omega), Int.toNat_natCast, HG.out.col]
        rw [hcA] at KC
        have HKC := Lib.hid KC
        clear KC hcA
        go_wp2_with fail
        refine (HKC.out w3 HV.out HT.out).mono ?_
        rintro e w4 ⟨rfl, hb⟩
        have HB3 := Lib.hid (HB2.out.trans (hb.mono HB2.out.size))
        have HA := Lib.hid (HA.out.below hb)
        have HV := Lib.hid (HV.out.below hb)
        have HT := Lib.hid (tabs_below HT.out hb)
        clear hb
        clear HB2 HKC
        go_wp2_with fail
        refine (LnSpan_any _ s N w4 HV.out (by have := HG.out.N_le; omega)).mono ?_
        rintro e w5 ⟨rfl, hb⟩
        rw [HG.out.beg, HG.out.fin]
        have HB4 := Lib.hid (HB3.out.trans (hb.mono HB3.out.size))
        have HA := Lib.hid (HA.out.below hb)
        have HV := Lib.hid (HV.out.below hb)
        have HT := Lib.hid (tabs_below HT.out hb)
        clear hb
        clear HB3
        obtain ⟨w6, hw6, S6, b6, -⟩ := boxL1 w5 [.int .i64 F, .int .i64 T] 41
        have HE6 := Lib.hid hw6
        have HS6 := Lib.hid S6
        have HB5 := Lib.hid (HB4.out.trans (b6.mono HB4.out.size))
        clear hw6 S6 HB4
        have HA := Lib.hid (HA.out.below b6)
        have HV := Lib.hid (HV.out.below b6)
        have HT := Lib.hid (tabs_below HT.out b6)
        clear b6
        have KA : ∀ (c : Int) (r : Nat), atN2 s N c = r → ∀ w, TextIs w (.iface vt vx) s → Tabs w → Calls Tryz.prog 15 #[.iface vt vx, .int .i64 N, .int .i64 c] w fun e w' => e = .returned (.tuple #[.int .i64 r, .int .i64 0]) ∧ Below w.heap.size w w' := by
          intro c r hr w h hT
          have := LnAt_all (.iface vt vx) s N c w h hT
          unfold atA at this
          rw [if_pos (by have := HG.out.N_le; omega), Int.toNat_natCast, hr] at this
          exact this
        have HKA := Lib.hid KA
        clear KA
        have d0 := (HS6.out.2 0 _ rfl).1
        have d1 := (HS6.out.2 1 _ rfl).1
        have c1 : ¬ (a : Int) < (F : Int) := by have := HG.out.F_le; omega
        have c2 : ¬ (T : Int) < (a : Int) := by have := HG.out.le_T; omega
        have hC0 := HG.out.C0
        have hsp : (a = F ∧ (C != 0) = false) ∨ ¬ (a : Int) = (F : Int) := by
          by_cases e : a = F
          · exact .inl ⟨e, by rw [hC0 e]; rfl⟩
          · exact .inr (by omega)
        clear hC0
        rcases hsp with ⟨rfl, e1⟩ | e1
        all_goals
          go_wp2_with fail
          rw [HE6.out]
          refine (HKA.out C a HG.out.at1 _ HV.out HT.out).mono ?_
          rintro e w7 ⟨rfl, hb⟩
          have HB6 := Lib.hid (HB5.out.trans (hb.mono HB5.out.size))
          have HA := Lib.hid (HA.out.below hb)
          have HV := Lib.hid (HV.out.below hb)
          have HS6 := Lib.hid (HS6.out.below hb)
          have HT := Lib.hid (tabs_below HT.out hb)
          clear hb
          clear HB5 d0 d1 c1 c2 e1
          go_wp2_with fail
          refine (HKA.out (-1) _ HG.out.at2 _ HV.out HT.out).mono ?_
          rintro e w8 ⟨rfl, hb⟩
          have HB7 := Lib.hid (HB6.out.trans (hb.mono HB6.out.size))
          have HA := Lib.hid (HA.out.below hb)
          have HV := Lib.hid (HV.out.below hb)
          have HS6 := Lib.hid (HS6.out.below hb)
          have HT := Lib.hid (tabs_below HT.out hb)
          clear hb
          clear HB6
          go_wp2_with fail
          refine (HKA.out 1099511627776 T HG.out.at3 _ HV.out HT.out).mono ?_
          rintro e w9 ⟨rfl, hb⟩
          have HB8 := Lib.hid (HB7.out.trans (hb.mono HB7.out.size))
          have HA := Lib.hid (HA.out.below hb)
          have HV := Lib.hid (HV.out.below hb)
          have HS6 := Lib.hid (HS6.out.below hb)
          have HT := Lib.hid (tabs_below HT.out hb)
          clear hb
          clear HB7
          have lA := HA.out.1
          have a0 := (HA.out.2 0 _ rfl).1
          have d0 := (HS6.out.2 0 _ rfl).1
          have d1 := (HS6.out.2 1 _ rfl).1
          rcases Nat.lt_or_eq_of_le ha with hal | hae
          · have f1 : ¬ (s.size : Int) ≤ (a : Int) := by omega
            have HCN := Lib.hid (fun w h => ClNext_any s a w h hs ha)
            have hg := clN_gt hal
            have hnl := clN_le s a
            obtain ⟨b, hbb⟩ : ∃ b, clN s a = b := ⟨_, rfl⟩
            have HBB := Lib.hid hbb
            rw [hbb] at HCN hg hnl
            clear hbb
            go_wp2_with fail
            refine (HCN.out _ HT.out).mono ?_
            rintro e w10 ⟨rfl, hb⟩
            have HB9 := Lib.hid (HB8.out.trans (hb.mono HB8.out.size))
            have HA := Lib.hid (HA.out.below hb)
            have HV := Lib.hid (HV.out.below hb)
            have HS6 := Lib.hid (HS6.out.below hb)
            have HT := Lib.hid (tabs_below HT.out hb)
            clear hb
            clear HB8 HCN a0 d0 d1 lA
            have lA := HA.out.1
            have a0 := (HA.out.2 0 _ rfl).1
            have d0 := (HS6.out.2 0 _ rfl).1
            have d1 := (HS6.out.2 1 _ rfl).1
            have g0 : (0 : Int) ≤ (a : Int) := by omega
            have g1 : (a : Int) ≤ (b : Int) := by omega
            have g2 : (b : Int) ≤ (s.size : Int) := by omega
            have hcl := cells_cut hcb.out hal
            rw [HBB.out] at hcl
            obtain ⟨V, hV⟩ : ∃ V, clW s a = V := ⟨_, rfl⟩
            rw [hV] at hcl
            have HVV := Lib.hid hV
            clear hV
            have hez := piece_size s hnl (F := a)
            have KC := fun w h => ClCells_any (s.extract a b) w h (by omega)
            rw [hcl] at KC
            have HKC := Lib.hid KC
            clear KC hcl hez
            go_wp2_with fail
            refine (HKC.out _ HT.out).mono ?_
            rintro e w11 ⟨rfl, hb⟩
            have HB10 := Lib.hid (HB9.out.trans (hb.mono HB9.out.size))
            have HA := Lib.hid (HA.out.below hb)
            have HV := Lib.hid (HV.out.below hb)
            have HS6 := Lib.hid (HS6.out.below hb)
            have HT := Lib.hid (tabs_below HT.out hb)
            clear hb
            clear HB9 HKC a0 d0 d1 lA
            have lA := HA.out.1
            have a0 := (HA.out.2 0 _ rfl).1
            have d0 := (HS6.out.2 0 _ rfl).1
            have d1 := (HS6.out.2 1 _ rfl).1
            have hbn : Hid (clB s b = true) := by have := next_clB hcb.out hal; rw [HBB.out] at this; exact this
            rcases Nat.lt_or_eq_of_le HG.out.le_T with haT | haT
            · obtain ⟨m1, m2, m3, m4, m5⟩ := HG.out.mid haT
              rw [HVV.out] at m2 m3 m4 m5
              rw [HBB.out] at m1 m2
              have KC := LnColumn_all (.iface vt vx) s b
              have hcA : colA s b = (C + V, 0) := by unfold colA; rw [if_pos (by omega), Int.toNat_natCast, m2]
              rw [hcA] at KC
              have HKC := Lib.hid KC
              have HM5 := Lib.hid m5
              have hCg := HG.out.C_ge
              have hCl := HG.out.C_le
              clear KC hcA m2 m5
              have f2 : (a : Int) < (T : Int) := by omega
              go_wp2_with fail
              refine (HKC.out _ HV.out HT.out).mono ?_
              rintro e w12 ⟨rfl, hb⟩
              have HB11 := Lib.hid (HB10.out.trans (hb.mono HB10.out.size))
              have HA := Lib.hid (HA.out.below hb)
              have HV := Lib.hid (HV.out.below hb)
              have HS6 := Lib.hid (HS6.out.below hb)
              have HT := Lib.hid (tabs_below HT.out hb)
              clear hb
              clear HB10 HKC a0 d0 d1 lA
              have hw1 : IntKind.i64.wrap (C + V) = C + V := IntWalk.i64_in _ (by omega)
              have hw2 : IntKind.i64.wrap (C + V - 1) = C + V - 1 := IntWalk.i64_in _ (by omega)
              have f3 : ¬ V < 1 := by omega
              go_wp2_with fail
              refine (HKA.out (C + V - 1) a HM5.out _ HV.out HT.out).mono ?_
              rintro e w13 ⟨rfl, hb⟩
              have HB12 := Lib.hid (HB11.out.trans (hb.mono HB11.out.size))
              clear HB11
              clear hw1 hw2 f3 f2 m3 m4 hCg hCl
              go_wp2
              go_roundw
              case rel => exact ⟨b, st + 1, by omega, hbn, rfl, by go_num, by omega, HB12.out⟩
              case measure => simp [intOf]; omega
            · have f2 : ¬ (a : Int) < (T : Int) := by omega
              have hv0 := HG.out.fin0 haT hal
              rw [HVV.out] at hv0
              subst hv0
              go_wp2
              go_roundw
              case rel => exact ⟨b, st + 1, by omega, hbn, rfl, by go_num, by omega, HB10.out⟩
              case measure => simp [intOf]; omega
          · have f1 : (a : Int) = (s.size : Int) := by omega
            have f2 : (s.size : Int) ≤ (a : Int) := by omega
            have hNl := HG.out.last hae
            have hNz := HG.out.N_le
            have hnz := nlTo_le s s.size
            rw [nlTo_all] at hnz
            have KN := LnCount_any (.iface vt vx) s
            rw [← hNl] at KN hnz
            have HKN := Lib.hid KN
            clear KN hNl hNz
            have hwN : IntKind.i64.wrap (N : Int) = (N : Int) := IntWalk.i64_in _ (by omega)
            have e1 : (N : Int) + 1 - 1 = (N : Int) := by omega
            go_wp2_with fail
            refine (HKN.out _ HV.out).mono ?_
            rintro e w10 ⟨rfl, hb⟩
            have HB9 := Lib.hid (HB8.out.trans (hb.mono HB8.out.size))
            have HB10 := Lib.hid (HB.out.trans (HB9.out.mono HB.out.size))
            clear HB8 hb HB9
            go_wp2
            go_ret
            exact ⟨rfl, HB10.out⟩
      · obtain rfl : st = 300 := by omega
        have HB9 := Lib.hid (HB.out.trans (HBl.out.mono HB.out.size))
        clear HBl hlt
        go_wp2
        go_ret
        exact ⟨rfl, HB9.out⟩

set_option maxRecDepth 100000 in
theorem calls_LinesBack {H : Type} {enc : TypeId × Value → H} {W : World} {base : Nat} {v0 : Value} {d0 : DataW H} {p0 : List MemPlace} (hL : laidMetH Tryz.prog Rows.linesBackRow.laid W)
    (o0 : Value.okWide Tryz.prog W .any base 23 v0) (h0 : DataW.Trod enc Tryz.prog W 0 (fun _ => true) true 23 v0 d0 p0) (w0 : ∀ n ∈ d0.weights Tryz.prog 23, n ≤ reachBytes) :
    Calls Tryz.prog 4 #[v0] W fun e W' => e = .returned (.bool true) ∧ Below W.heap.size W W' := by
  obtain ⟨s, k, rfl, hs⟩ := open_kept o0 h0 w0
  exact law_LinesBack s k W (tabs_of_laid hL) (by unfold reachBytes at hs; omega)
end Go.Proofs.YtgmpohdkignadaaGreatDoor.Ut
