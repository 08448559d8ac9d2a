/-
  What the proof of the row LinesTile rests on: the texts LwD. Conditions: each theorem names its own.
-/
import Derived.Test.YtgmpohdkignadaaGreatDoorMgLj
import Derived.Test.YtgmpohdkignadaaGreatDoorMgLg
/-
  The law LinesTile, walked. Condition: the two tables of unicode/utf8 lie as laid.
-/
namespace Go.Proofs.YtgmpohdkignadaaGreatDoor.Ut
open Go.RowKit Go.Proofs.YtgmpohdkignadaaGreatDoor.Reg Go.ChangeShapes Go.WideShapes
set_option linter.unusedVariables false
set_option linter.unusedSimpArgs false

theorem run_index_bt (O : ByteArray) (j : Nat) (h : j < O.size) (w : World) : (Instr.index 9 (.string O) (.int .i64 j)).run Tryz.prog w = .ok (.int .u8 (bt O j)) w := by
  rw [run_index_string w 9 O .i64 j Tryz.underlying9, dif_pos ⟨by omega, by omega⟩, bt_in O h]
  rfl

set_option maxRecDepth 100000 in
set_option maxHeartbeats 4000000 in
theorem law_LinesTile (s : ByteArray) (k : Int) (w : World) (hT : Tabs w) (hs : s.size ≤ 140737488355328) :
    Calls Tryz.prog 7 #[.agg #[.string s, .int .i64 k]] w fun e w' => e = .returned (.bool true) ∧ Below w.heap.size w w' := by
  obtain ⟨W0, hW0, A0, b0, hsz⟩ := boxL1 w [.string s, .int .i64 k] 23
  have HE := Lib.hid hW0
  have HA := Lib.hid A0
  have HB := Lib.hid b0
  have HT := Lib.hid (tabs_below hT b0)
  clear hW0 A0 b0 hsz hT
  go_enter Tryz.func7, Tryz.ntmps7
  go_wp2_with fail
  rw [HE.out]
  refine (awake_any W0 HT.out).mono ?_
  rintro e w1 ⟨rfl, hb⟩
  have HA := Lib.hid (HA.out.below hb)
  have HT := Lib.hid (tabs_below HT.out hb)
  have HB := Lib.hid (HB.out.trans (hb.mono HB.out.size))
  clear hb
  have lA := HA.out.1
  have a0 := (HA.out.2 0 _ rfl).1
  have a1 := (HA.out.2 1 _ rfl).1
  by_cases hbig : 1073741822 < s.size
  · have hb1 : (1073741822 : Int) < (s.size : Int) := by omega
    go_wp2
    go_ret
    exact ⟨rfl, HB.out⟩
  · have hb1 : ¬ (1073741822 : Int) < (s.size : Int) := by omega
    have hs2 : s.size ≤ 1073741824 := by omega
    go_wp2_with fail
    refine (keep_any s k w1 HT.out hs2).mono ?_
    rintro e w2 ⟨v, rfl, hv, hb⟩
    obtain ⟨vt, vx, rfl⟩ : ∃ t x, v = .iface t x := by
      rcases hv with ⟨b, rfl, _⟩ | ⟨b, i, T, rfl, _⟩
      · exact ⟨_, _, rfl⟩
      · exact ⟨_, _, rfl⟩
    have hV := hv.text (tabs_below HT.out hb) hs2
    have HV := Lib.hid hV
    have HA := Lib.hid (HA.out.below hb)
    have HT := Lib.hid (tabs_below HT.out hb)
    have HB := Lib.hid (HB.out.trans (hb.mono HB.out.size))
    clear hb
    clear hV hv a0 a1 lA
    go_wp2_with fail
    refine (LnCount_any _ s w2 HV.out).mono ?_
    rintro e w3 ⟨rfl, hb⟩
    have HA := Lib.hid (HA.out.below hb)
    have HV := Lib.hid (HV.out.below hb)
    have HT := Lib.hid (tabs_below HT.out hb)
    have HB := Lib.hid (HB.out.trans (hb.mono HB.out.size))
    clear hb
    have hnn : nlF s ≤ s.size := by have := nlTo_le s s.size; rw [nlTo_all] at this; exact this
    obtain ⟨n, hn⟩ : ∃ n, nlF s = n := ⟨_, rfl⟩
    have HN := Lib.hid hn
    rw [hn] at hnn ⊢
    clear hn hbig
    go_wp2
    go_loopw [5, 7] (fun x y wr => ∃ i : Nat, i ≤ n ∧ x = .int .i64 (beginF s (i : Nat)) ∧ y = .int .i64 i ∧ Below w3.heap.size w3 wr) (fun _ y _ => n - (intOf y).toNat)
    case atStart => exact ⟨0, Nat.zero_le _, by rw [begin_zero]; rfl, rfl, Below.refl _ _⟩
    case round =>
      obtain ⟨i, hi, rfl, rfl, hbl⟩ := hrel
      have L := line_at s (N := i) (by rw [HN.out]; exact hi)
      obtain ⟨F, hF⟩ : ∃ F, beginF s (i : Nat) = F := ⟨_, rfl⟩
      obtain ⟨T, hTT⟩ : ∃ T, spanT s i = T := ⟨_, rfl⟩
      rw [hF, hTT] at L
      rw [hF]
      have hle := L.le
      have hsz := L.size
      have KS := LnSpan_any (.iface vt vx) s i
      have KL := fun w h => LnLine_any (.iface vt vx) s i w h (by rw [HN.out]; omega) (begin_span s i (by rw [HN.out]; omega))
      rw [hF, hTT] at KS KL
      have HKS := Lib.hid KS
      have HKL := Lib.hid KL
      have HL := Lib.hid L
      clear hF hTT L KS KL
      have HBl := Lib.hid hbl
      have HA := Lib.hid (HA.out.below hbl)
      have HV := Lib.hid (HV.out.below hbl)
      have HT := Lib.hid (tabs_below HT.out hbl)
      clear hbl
      go_wp2_with fail
      refine (HKS.out wr HV.out (by rw [HN.out]; omega)).mono ?_
      rintro e w5 ⟨rfl, hb⟩
      have HBm := Lib.hid (HBl.out.trans (hb.mono HBl.out.size))
      have HA := Lib.hid (HA.out.below hb)
      have HV := Lib.hid (HV.out.below hb)
      have HT := Lib.hid (tabs_below HT.out hb)
      clear hb
      obtain ⟨w6, hw6, S6, b6, -⟩ := boxL1 w5 [.int .i64 F, .int .i64 T] 41
      have HE6 := Lib.hid hw6
      have HS6 := Lib.hid S6
      have HBn := Lib.hid (HBm.out.trans (b6.mono HBm.out.size))
      clear hw6 S6 HBl HBm HKS
      have HA := Lib.hid (HA.out.below b6)
      have HV := Lib.hid (HV.out.below b6)
      have HT := Lib.hid (tabs_below HT.out b6)
      clear b6
      go_wp2_with fail
      rw [HE6.out]
      refine (HKL.out _ HV.out).mono ?_
      rintro e w7 ⟨rfl, hb⟩
      have HBo := Lib.hid (HBn.out.trans (hb.mono HBn.out.size))
      have HA := Lib.hid (HA.out.below hb)
      have HV := Lib.hid (HV.out.below hb)
      have HS6 := Lib.hid (HS6.out.below hb)
      have HT := Lib.hid (tabs_below HT.out hb)
      clear hb
      clear HBn HKL
      have lA := HA.out.1
      have a0 := (HA.out.2 0 _ rfl).1
      have d0 := (HS6.out.2 0 _ rfl).1
      have d1 := (HS6.out.2 1 _ rfl).1
      have c1 : ¬ (T : Int) < (F : Int) := by omega
      have c2 : ¬ (s.size : Int) < (T : Int) := by omega
      have c3 : (0 : Int) ≤ (F : Int) := by omega
      have c4 : (F : Int) ≤ (T : Int) := by omega
      have c5 : (T : Int) ≤ (s.size : Int) := by omega
      go_wp2_with fail
      obtain ⟨O, hO⟩ : ∃ O, s.extract F T = O := ⟨_, rfl⟩
      have hOz : O.size = T - F := by rw [← hO]; exact piece_size s hsz
      have hno : Hid (∀ j : Nat, j < O.size → ¬ ((bt O j : Nat) : Int) = 10) := by
        intro j hj
        rw [← hO, bt_extract s hle hsz, if_pos (by omega)]
        have := HL.out.no (F + j) (by omega) (by omega)
        rw [show ((F : Int) + (j : Int)) = ((F + j : Nat) : Int) by omega]
        omega
      rw [hO]
      clear hO
      go_loopw [12] (fun x wr => ∃ j : Nat, j ≤ O.size ∧ x = .int .i64 j ∧ Below w7.heap.size w7 wr) (fun x _ => O.size - (intOf x).toNat)
      case atStart => exact ⟨0, Nat.zero_le _, rfl, Below.refl _ _⟩
      case round =>
        obtain ⟨j, hj, rfl, hbj⟩ := hrel
        by_cases hlt : j < O.size
        · have hne := hno.out j hlt
          have hix := run_index_bt O j hlt
          go_wp2
          go_roundw
          case rel => exact ⟨j + 1, by omega, by go_num, hbj⟩
          case measure => simp [intOf]; omega
        · obtain rfl : j = O.size := by omega
          have HBp := Lib.hid (HBo.out.trans (hbj.mono HBo.out.size))
          have HA := Lib.hid (HA.out.below hbj)
          have HV := Lib.hid (HV.out.below hbj)
          have HS6 := Lib.hid (HS6.out.below hbj)
          have HT := Lib.hid (tabs_below HT.out hbj)
          clear hbj
          clear HBo hlt lA a0 d0 d1 hno
          rcases Nat.lt_or_eq_of_le hi with hin | rfl
          · obtain ⟨g1, g2, g3⟩ := HL.out.next (by rw [HN.out]; exact hin)
            obtain ⟨b, hbb⟩ : ∃ b, beginF s (i + 1 : Nat) = b := ⟨_, rfl⟩
            have HBB := Lib.hid hbb
            rw [hbb] at g2 g3
            clear hbb
            have lA := HA.out.1
            have a0 := (HA.out.2 0 _ rfl).1
            have d0 := (HS6.out.2 0 _ rfl).1
            have d1 := (HS6.out.2 1 _ rfl).1
            have e1 : ¬ (i : Int) = (n : Int) := by omega
            have HCN := Lib.hid (fun w h => ClNext_any s T w h hs hsz)
            rw [g2] at HCN
            clear g2
            go_wp2_with fail
            refine (HCN.out _ HT.out).mono ?_
            rintro e w8 ⟨rfl, hb⟩
            have HBq := Lib.hid (HBp.out.trans (hb.mono HBp.out.size))
            have HA := Lib.hid (HA.out.below hb)
            have HV := Lib.hid (HV.out.below hb)
            have HS6 := Lib.hid (HS6.out.below hb)
            have HT := Lib.hid (tabs_below HT.out hb)
            clear hb
            clear HBp HCN lA a0 d0 d1
            have lA := HA.out.1
            have a0 := (HA.out.2 0 _ rfl).1
            have d0 := (HS6.out.2 0 _ rfl).1
            have d1 := (HS6.out.2 1 _ rfl).1
            have hwT : IntKind.i64.wrap (T : Int) = (T : Int) := IntWalk.i64_in _ (by omega)
            have hwT1 : IntKind.i64.wrap ((T : Int) + 1) = (T : Int) + 1 := IntWalk.i64_in _ (by omega)
            have hble : b ≤ s.size := by rw [← HBB.out]; exact begin_le s _
            rcases g3 with ⟨g3, rfl, g4⟩ | ⟨g3, g4, rfl⟩
            · have hix := run_index_bt s T (by omega)
              rw [g3] at hix
              have f1 : ¬ (s.size : Int) < (T : Int) + 1 := by omega
              have f2 : ¬ (T : Int) + 1 ≤ (T : Int) := by omega
              have f3 : (T : Int) + 1 - (T : Int) = 1 := by omega
              clear g3 g4
              go_wp2
              go_roundw
              case rel => exact ⟨i + 1, by omega, by rw [HBB.out]; go_num, by go_num, HBq.out⟩
              case measure => simp [intOf]; omega
            · have hix := run_index_bt s T (by omega)
              have hix2 := run_index_bt s (T + 1) (by omega)
              rw [g3] at hix
              rw [g4] at hix2
              have f0 : ((T + 1 : Nat) : Int) = (T : Int) + 1 := by omega
              rw [f0] at hix2
              have f1 : ¬ (s.size : Int) < (T : Int) + 2 := by omega
              have f2 : ¬ (T : Int) + 2 ≤ (T : Int) := by omega
              have f3 : (T : Int) + 2 - (T : Int) = 2 := by omega
              have f4 : (T : Int) + 2 - 1 = (T : Int) + 1 := by omega
              clear g3 g4 f0
              go_wp2
              go_roundw
              case rel => exact ⟨i + 1, by omega, by rw [HBB.out]; go_num, by go_num, HBq.out⟩
              case measure => simp [intOf]; omega
          · have hlast := HL.out.last HN.out.symm
            have KB := fun w h => LnSpan_all (.iface vt vx) s ((i : Int) + 1) w h
            have hsp : spanA s ((i : Int) + 1) = (0, 0, 1) := by unfold spanA; rw [if_neg (by rw [HN.out]; omega)]
            rw [hsp] at KB
            have HKB := Lib.hid KB
            have e1 : (i : Int) + 1 - 1 = (i : Int) := by omega
            have hwi : IntKind.i64.wrap (i : Int) = (i : Int) := IntWalk.i64_in _ (by omega)
            clear KB hsp
            go_wp2_with fail
            refine (HKB.out _ HV.out).mono ?_
            rintro e w8 ⟨rfl, hb⟩
            have HBq := Lib.hid (HBp.out.trans (hb.mono HBp.out.size))
            have HA := Lib.hid (HA.out.below hb)
            have HV := Lib.hid (HV.out.below hb)
            have HS6 := Lib.hid (HS6.out.below hb)
            have HT := Lib.hid (tabs_below HT.out hb)
            clear hb
            clear HBp HKB
            have lA := HA.out.1
            have a0 := (HA.out.2 0 _ rfl).1
            have d0 := (HS6.out.2 0 _ rfl).1
            have d1 := (HS6.out.2 1 _ rfl).1
            have HB9 := Lib.hid (HB.out.trans (HBq.out.mono HB.out.size))
            have HBx := Lib.hid (HB9.out.alloc HB9.out.size (.cells #[.int .i64 0, .int .i64 0] 41))
            have l6 := HS6.out.1
            have f1 : (T : Int) = (s.size : Int) := by omega
            clear HB9 HBq
            go_wp2
            go_ret
            exact ⟨rfl, HBx.out⟩

set_option maxRecDepth 100000 in
theorem calls_LinesTile {H : Type} {enc : TypeId × Value → H} {W : World} {base : Nat} {v0 : Value} {d0 : DataW H} {p0 : List MemPlace} (hL : laidMetH Tryz.prog Rows.linesTileRow.laid W)
    (o0 : Value.okWide Tryz.prog W .any base 23 v0) (h0 : DataW.Trod enc Tryz.prog W 0 (fun _ => true) true 23 v0 d0 p0) (w0 : ∀ n ∈ d0.weights Tryz.prog 23, n ≤ reachBytes) :
    Calls Tryz.prog 7 #[v0] W fun e W' => e = .returned (.bool true) ∧ Below W.heap.size W W' := by
  obtain ⟨s, k, rfl, hs⟩ := open_kept o0 h0 w0
  exact law_LinesTile s k W (tabs_of_laid hL) (by unfold reachBytes at hs; omega)
end Go.Proofs.YtgmpohdkignadaaGreatDoor.Ut
