/-
  The law MarksNone, walked. No condition but what every argument bears.
-/
import Derived.Test.YtdkdnkmfjpdcpaaDoorMkPlay
namespace Go.Proofs.YtdkdnkmfjpdcpaaDoor.Mk
open Go.RowKit Go.Maps Go.Proofs.YtdkdnkmfjpdcpaaDoor.Reg Go.Proofs.YtdkdnkmfjpdcpaaDoor.Row Go.ChangeShapes Go.WideShapes
set_option linter.unusedVariables false
set_option linter.unusedSimpArgs false

theorem nil_Snap (t : TypeId) (v : Value) (w : World) : Calls Tryd.prog 34 #[.pointer none, .iface t v] w fun e w' => e = .returned (.int .i64 0) ∧ Below w.heap.size w w' := by
  go_enter Tryd.func34, Tryd.ntmps34
  go_wp2_with fail
  refine (nil_All _).mono ?_
  rintro e w1 ⟨rfl, hb⟩
  have HB := Lib.hid hb
  clear hb
  go_wp2
  go_loopw [5, 14] (fun n i wr => n = .int .i64 0 ∧ i = .int .i64 0 ∧ wr = w1) (fun _ _ _ => 0)
  case atStart => exact ⟨rfl, rfl, rfl⟩
  case round =>
    obtain ⟨rfl, rfl, rfl⟩ := hrel
    go_wp2
    go_ret
    exact ⟨rfl, HB.out⟩

theorem nil_cases (n x : Int) : (good n = false ∧ nilE n = 13 ∧ nilP n x = 13) ∨ (good n = true ∧ nilE n = 7 ∧ x < 0 ∧ nilP n x = 1) ∨ (good n = true ∧ nilE n = 7 ∧ ¬ x < 0 ∧ nilP n x = 7) := by
  unfold nilE nilP
  cases good n with
  | false => simp
  | true => by_cases h : x < 0 <;> simp [h]

set_option maxRecDepth 100000 in
set_option maxHeartbeats 1000000 in
theorem none_walk (B : Option Addr) (ops : List OpV) (d : Nat) (n x : Int) (w : World) (ho : OpsAt w B ops) (hol : ops.length ≤ 140737488351232) (hn : (Lit.int .u8 n).wf = true) (hx : (Lit.int .i64 x).wf = true) :
    Calls Tryd.prog 11 #[.slice B ops.length d, .int .u8 n, .int .i64 x] w fun e w' => e = .returned (.bool true) ∧ Below w.heap.size w w' := by
  have HO := Lib.hid ho
  clear ho
  go_enter Tryd.func11, Tryd.ntmps11
  go_wp2_with (go_at_call 12; refine (lays_true _).mono ?_; rintro e1 w1 ⟨rfl, hb1⟩)
  go_wp2_with fail
  have hz : St w (w1.alloc (.cells #[.map none] 70)) w1.heap.size [] := by
    refine ⟨none, ⟨World.alloc_heap_new _ _, Ok.nil, rfl⟩, fun k hk => ?_, hb1.alloc hb1.size _⟩
    rcases hk with rfl | hk
    · exact hb1.size
    · cases hk
  refine (Rt.new none [] 0 _ (.inl rfl) (fun x hx => by cases hx) (by simp)).mono ?_
  rintro e2 w2 ⟨c, rfl, hr2⟩
  have HS2 := Lib.hid (hz.below hr2.since)
  have HR2 := Lib.hid (hr2.earlier hz.since)
  rw [show loadL [] = [] from rfl] at HR2
  clear hz hr2
  generalize w1.heap.size = b at *
  clear hb1
  go_wp2
  go_loopw [24] (fun i wr => ∃ (k : Nat) (l : ML), k ≤ ops.length ∧ i = .int .i64 k ∧ St w wr b l ∧ Rt w wr c l) (fun i _ => ops.length - (intOf i).toNat)
  case atStart => exact ⟨0, [], Nat.zero_le _, rfl, HS2.out, HR2.out⟩
  case round =>
    obtain ⟨k, l, hk, rfl, hst, hrt⟩ := hrel
    have HSt := Lib.hid hst
    have HRt := Lib.hid hrt
    have HBe := Lib.hid hst.since
    clear hst hrt
    by_cases hlt : k < ops.length
    · obtain h | ⟨ad, rfl, hA, hx⟩ := HO.out
      · subst h; simp at hlt
      obtain ⟨hat, his⟩ := hx k hlt
      obtain ⟨o0, o1, o2, o3, o4⟩ := hat.below (by rw [add_block]; exact hA) HBe.out
      have HIs := Lib.hid his
      clear hx hat his
      generalize ops[k] = o at *
      go_wp2_with fail
      refine (play_any o _ (HSt.out.below ((Below.refl _ _).alloc (Nat.le_refl _) _)) (HRt.out.below ((Below.refl _ _).alloc (Nat.le_refl _) _)) HIs.out).mono ?_
      rintro e4 w4 ⟨rfl, hs4, hr4⟩
      have HS4 := Lib.hid hs4
      have HR4 := Lib.hid hr4
      clear hs4 hr4
      go_wp2_with fail
      refine (agree_any _ HS4.out HR4.out).mono ?_
      rintro e5 w5 ⟨rfl, hb5⟩
      have HS5 := Lib.hid (HS4.out.below hb5)
      have HR5 := Lib.hid (HR4.out.below hb5)
      clear hb5
      go_wp2
      go_roundw
      case rel => exact ⟨k + 1, _, by omega, by go_num, HS5.out, HR5.out⟩
      case measure => simp [intOf]; omega
    · clear HSt HRt
      go_wp2
      go_loopw [42] (fun i wr => ∃ k : Nat, k ≤ ops.length ∧ i = .int .i64 k ∧ Below w.heap.size w wr) (fun i _ => ops.length - (intOf i).toNat)
      case atStart => exact ⟨0, Nat.zero_le _, rfl, HBe.out⟩
      case round =>
        obtain ⟨k, hk, rfl, hb⟩ := hrel
        have HB := Lib.hid hb
        clear hb HBe
        by_cases hlt : k < ops.length
        · obtain h | ⟨ad, rfl, hA, hx⟩ := HO.out
          · subst h; simp at hlt
          obtain ⟨hat, his⟩ := hx k hlt
          obtain ⟨o0, o1, o2, o3, o4⟩ := hat.below (by rw [add_block]; exact hA) HB.out
          have HIs := Lib.hid his
          clear hx hat his
          generalize ops[k] = o at *
          obtain ⟨kind, nm, pos, MA, oms, mc, DA, ods, dc⟩ := o
          simp only at o0 o1 o2 o3 o4
          obtain ⟨hm, hd, hfit⟩ := HIs.out
          have HDs := Lib.hid hd
          have hl2 : ods.length ≤ 140737488351232 := hfit.dl
          clear hm hd hfit HIs
          have hq0 : (wr.alloc (.cells #[.int .u8 kind, .int .u8 nm, .int .i64 pos, .slice MA oms.length mc, .slice DA ods.length dc] 55)).heap[wr.heap.size]? = some (.cells #[.int .u8 kind, .int .u8 nm, .int .i64 pos, .slice MA oms.length mc, .slice DA ods.length dc] 55 (0, 0)) := World.alloc_heap_new _ _
          have HQ0 := Lib.hid hq0
          clear hq0
          go_wp2_with fail
          refine (nil_Load _ _).mono ?_
          rintro e4 w4 ⟨rfl, hb4⟩
          have hq4 := (KeepR.below hb4).stays HQ0.out (by decide)
          have HQ4 := Lib.hid hq4
          obtain ⟨-, -, -, -, r4⟩ := five_cells hq4
          have hb4' : Below wr.heap.size wr w4 := ((Below.refl _ _).alloc (Nat.le_refl _) _).trans (hb4.mono (by simp))
          have HB4 := Lib.hid (HB.out.trans (hb4'.mono HB.out.size))
          clear hb4 hq4 hb4'
          go_wp2_with fail
          refine (far_any 0 DA ods dc _ (by omega) (HDs.out.below HB4.out)).mono ?_
          rintro e5 w5 ⟨rfl, hb5⟩
          have hq5 := (KeepR.below hb5).stays HQ4.out (by decide)
          obtain ⟨-, -, -, -, r5⟩ := five_cells hq5
          have HB5 := Lib.hid (HB4.out.trans (hb5.mono HB4.out.size))
          clear hb5 hq5
          cases farF 0 ods with
          | true =>
            go_wp2
            go_roundw
            case rel => exact ⟨k + 1, by omega, by go_num, HB5.out⟩
            case measure => simp [intOf]; omega
          | false =>
            go_wp2_with fail
            refine (nil_Move _ _).mono ?_
            rintro e6 w6 ⟨rfl, hb6⟩
            have HB6 := Lib.hid (HB5.out.trans (hb6.mono HB5.out.size))
            clear hb6
            go_wp2
            go_roundw
            case rel => exact ⟨k + 1, by omega, by go_num, HB6.out⟩
            case measure => simp [intOf]; omega
        · rcases nil_cases n x with ⟨hg, he, hp⟩ | ⟨hg, he, hx0, hp⟩ | ⟨hg, he, hx0, hp⟩
          · have HG := Lib.hid hg
            have HE := Lib.hid he
            have HP := Lib.hid hp
            clear hg he hp
            go_wp2_with fail
            refine (nil_Clear _).mono ?_
            rintro e w4 ⟨rfl, hb4⟩
            have HB4 := Lib.hid (HB.out.trans (hb4.mono HB.out.size))
            clear hb4
            go_wp2_with fail
            refine (GoodR_any _ _).mono ?_
            rintro e w5 ⟨rfl, rfl⟩
            rw [HG.out]
            go_wp2_with fail
            refine (nil_Get n _).mono ?_
            rintro e w6 ⟨rfl, rfl⟩
            rw [HE.out]
            go_wp2_with fail
            refine (nil_Drop n _).mono ?_
            rintro e w7 ⟨rfl, rfl⟩
            rw [HE.out]
            go_wp2_with fail
            refine (nil_All _).mono ?_
            rintro e w8 ⟨rfl, hb8⟩
            have HB8 := Lib.hid (HB4.out.trans (hb8.mono HB4.out.size))
            clear hb8
            go_wp2_with fail
            refine (nil_Len _).mono ?_
            rintro e w9 ⟨rfl, hb9⟩
            have HB9 := Lib.hid (HB8.out.trans (hb9.mono HB8.out.size))
            clear hb9
            go_wp2_with fail
            refine (nil_Clone _).mono ?_
            rintro e w10 ⟨rfl, hb10⟩
            have HB10 := Lib.hid (HB9.out.trans (hb10.mono HB9.out.size))
            clear hb10
            go_wp2_with fail
            refine (nil_Snap _ _ _).mono ?_
            rintro e w11 ⟨rfl, hb11⟩
            have hb12 : Below w10.heap.size w10 w11 := ((((Below.refl _ _).alloc (Nat.le_refl _) _).alloc (by simp) _)).trans (hb11.mono (by simp; omega))
            have HB11 := Lib.hid (HB10.out.trans (hb12.mono HB10.out.size))
            clear hb11 hb12
            go_wp2_with fail
            refine (nil_Put n x _).mono ?_
            rintro e w12 ⟨rfl, rfl⟩
            rw [HP.out]
            go_wp2_with fail
            refine (nil_Len _).mono ?_
            rintro e w13 ⟨rfl, hb13⟩
            have HB13 := Lib.hid (HB11.out.trans (hb13.mono HB11.out.size))
            clear hb13
            go_wp2
            go_ret
            exact ⟨rfl, HB13.out⟩
          · have HG := Lib.hid hg
            have HE := Lib.hid he
            have HP := Lib.hid hp
            clear hg he hp
            go_wp2_with fail
            refine (nil_Clear _).mono ?_
            rintro e w4 ⟨rfl, hb4⟩
            have HB4 := Lib.hid (HB.out.trans (hb4.mono HB.out.size))
            clear hb4
            go_wp2_with fail
            refine (GoodR_any _ _).mono ?_
            rintro e w5 ⟨rfl, rfl⟩
            rw [HG.out]
            go_wp2_with fail
            refine (nil_Get n _).mono ?_
            rintro e w6 ⟨rfl, rfl⟩
            rw [HE.out]
            go_wp2_with fail
            refine (nil_Drop n _).mono ?_
            rintro e w7 ⟨rfl, rfl⟩
            rw [HE.out]
            go_wp2_with fail
            refine (nil_All _).mono ?_
            rintro e w8 ⟨rfl, hb8⟩
            have HB8 := Lib.hid (HB4.out.trans (hb8.mono HB4.out.size))
            clear hb8
            go_wp2_with fail
            refine (nil_Len _).mono ?_
            rintro e w9 ⟨rfl, hb9⟩
            have HB9 := Lib.hid (HB8.out.trans (hb9.mono HB8.out.size))
            clear hb9
            go_wp2_with fail
            refine (nil_Clone _).mono ?_
            rintro e w10 ⟨rfl, hb10⟩
            have HB10 := Lib.hid (HB9.out.trans (hb10.mono HB9.out.size))
            clear hb10
            go_wp2_with fail
            refine (nil_Snap _ _ _).mono ?_
            rintro e w11 ⟨rfl, hb11⟩
            have hb12 : Below w10.heap.size w10 w11 := ((((Below.refl _ _).alloc (Nat.le_refl _) _).alloc (by simp) _)).trans (hb11.mono (by simp; omega))
            have HB11 := Lib.hid (HB10.out.trans (hb12.mono HB10.out.size))
            clear hb11 hb12
            go_wp2_with fail
            refine (nil_Put n x _).mono ?_
            rintro e w12 ⟨rfl, rfl⟩
            rw [HP.out]
            go_wp2_with fail
            refine (nil_Len _).mono ?_
            rintro e w13 ⟨rfl, hb13⟩
            have HB13 := Lib.hid (HB11.out.trans (hb13.mono HB11.out.size))
            clear hb13
            go_wp2
            go_ret
            exact ⟨rfl, HB13.out⟩
          · have HG := Lib.hid hg
            have HE := Lib.hid he
            have HP := Lib.hid hp
            clear hg he hp
            go_wp2_with fail
            refine (nil_Clear _).mono ?_
            rintro e w4 ⟨rfl, hb4⟩
            have HB4 := Lib.hid (HB.out.trans (hb4.mono HB.out.size))
            clear hb4
            go_wp2_with fail
            refine (GoodR_any _ _).mono ?_
            rintro e w5 ⟨rfl, rfl⟩
            rw [HG.out]
            go_wp2_with fail
            refine (nil_Get n _).mono ?_
            rintro e w6 ⟨rfl, rfl⟩
            rw [HE.out]
            go_wp2_with fail
            refine (nil_Drop n _).mono ?_
            rintro e w7 ⟨rfl, rfl⟩
            rw [HE.out]
            go_wp2_with fail
            refine (nil_All _).mono ?_
            rintro e w8 ⟨rfl, hb8⟩
            have HB8 := Lib.hid (HB4.out.trans (hb8.mono HB4.out.size))
            clear hb8
            go_wp2_with fail
            refine (nil_Len _).mono ?_
            rintro e w9 ⟨rfl, hb9⟩
            have HB9 := Lib.hid (HB8.out.trans (hb9.mono HB8.out.size))
            clear hb9
            go_wp2_with fail
            refine (nil_Clone _).mono ?_
            rintro e w10 ⟨rfl, hb10⟩
            have HB10 := Lib.hid (HB9.out.trans (hb10.mono HB9.out.size))
            clear hb10
            go_wp2_with fail
            refine (nil_Snap _ _ _).mono ?_
            rintro e w11 ⟨rfl, hb11⟩
            have hb12 : Below w10.heap.size w10 w11 := ((((Below.refl _ _).alloc (Nat.le_refl _) _).alloc (by simp) _)).trans (hb11.mono (by simp; omega))
            have HB11 := Lib.hid (HB10.out.trans (hb12.mono HB10.out.size))
            clear hb11 hb12
            go_wp2_with fail
            refine (nil_Put n x _).mono ?_
            rintro e w12 ⟨rfl, rfl⟩
            rw [HP.out]
            go_wp2_with fail
            refine (nil_Len _).mono ?_
            rintro e w13 ⟨rfl, hb13⟩
            have HB13 := Lib.hid (HB11.out.trans (hb13.mono HB11.out.size))
            clear hb13
            go_wp2
            go_ret
            exact ⟨rfl, HB13.out⟩

set_option maxRecDepth 100000 in
theorem calls_MarksNone {H : Type} {enc : TypeId × Value → H} {W : World} {base : Nat} {laid : List (String × DataW Unit)} {v0 v1 v2 : Value} {d0 d1 d2 : DataW H} {p0 p1 p2 : List MemPlace} (hL : laidMetH Tryd.prog laid W)
    (o0 : Value.okWide Tryd.prog W .any base 52 v0) (h0 : DataW.Trod enc Tryd.prog W 0 (fun _ => true) true 52 v0 d0 p0) (w0 : ∀ n ∈ d0.weights Tryd.prog 52, n ≤ reachBytes)
    (o1 : Value.okWide Tryd.prog W .any base 5 v1) (h1 : DataW.Trod enc Tryd.prog W 0 (fun _ => true) true 5 v1 d1 p1) (w1 : ∀ n ∈ d1.weights Tryd.prog 5, n ≤ reachBytes)
    (o2 : Value.okWide Tryd.prog W .any base 3 v2) (h2 : DataW.Trod enc Tryd.prog W 0 (fun _ => true) true 3 v2 d2 p2) (w2 : ∀ n ∈ d2.weights Tryd.prog 3, n ≤ reachBytes) :
    Calls Tryd.prog 11 #[v0, v1, v2] W fun e W' => e = .returned (.bool true) ∧ Below W.heap.size W W' := by
  obtain ⟨B, ops, d, rfl, ho, hol⟩ := open_ops h0 (by obtain ⟨a, l, c, rfl⟩ := okWide_slice Tryd.underlying52 o0; rfl) w0
  obtain ⟨n, rfl, rfl, rfl, hn⟩ := open_int Tryd.underlying5 o1 h1
  obtain ⟨x, rfl, rfl, rfl, hx⟩ := open_int Tryd.underlying3 o2 h2
  exact none_walk B ops d n x W ho hol hn hx
end Go.Proofs.YtdkdnkmfjpdcpaaDoor.Mk
