/-
  The law MarksPlays, walked, where no place grows past what a number holds. Condition: the bound on what came in.
-/
import Derived.Test.YtdkdnkmfjpdcpaaDoorMkPlay
namespace Go.Proofs.YtdkdnkmfjpdcpaaDoor.Mk
open Go.RowKit Go.Maps Go.Proofs.YtdkdnkmfjpdcpaaDoor.Reg Go.Proofs.YtdkdnkmfjpdcpaaDoor.Row Go.ChangeShapes Go.WideShapes Go.ChangeAt Go.Deep
set_option linter.unusedVariables false
set_option linter.unusedSimpArgs false

/-- All places lie from 0 to B. -/
def Bd (B : Int) (l : ML) : Prop := ∀ x ∈ l, 0 ≤ x.2 ∧ x.2 ≤ B
def grow (ds : List Dl) : Nat := (ds.map (·.inn.size)).sum
theorem Bd.mono {B C : Int} {l : ML} (h : Bd B l) (hBC : B ≤ C) : Bd C l := fun x hx => ⟨(h x hx).1, Int.le_trans (h x hx).2 hBC⟩
theorem Bd.putL {B : Int} {l : ML} (h : Bd B l) (n x : Int) (hx : x ≤ B) : Bd B (putL l n x) := by
  unfold Mk.putL
  split
  · rename_i hg
    intro y hy
    rcases (mem_ins l n x y).1 hy with rfl | hy
    · exact ⟨hg.2, hx⟩
    · exact h y hy.1
  · exact h
theorem Bd.dropL {B : Int} {l : ML} (h : Bd B l) (n : Int) : Bd B (dropL l n) := by
  unfold Mk.dropL
  split
  · exact fun y hy => h y ((mem_del l n y).1 hy).1
  · exact h
theorem Bd.loadL {B : Int} {ms : ML} (hB : ∀ x ∈ ms, x.2 ≤ B) : Bd B (loadL ms) := by
  unfold Mk.loadL
  have : ∀ (ms l : ML), (∀ x ∈ ms, x.2 ≤ B) → Bd B l → Bd B (ms.foldl (fun l x => Mk.putL l x.1 x.2) l) := by
    intro ms
    induction ms with
    | nil => intro l _ h; exact h
    | cons x r ih => intro l hx h; exact ih _ (fun y hy => hx y (List.mem_cons_of_mem _ hy)) (h.putL _ _ (hx x List.mem_cons_self))
  exact this ms [] hB (fun x hx => by cases hx)
theorem one_bd {p B : Int} {d : Dl} (h0 : 0 ≤ p) (h1 : p ≤ B) (hB0 : 1099511627776 ≤ B) (hB1 : B ≤ 4611686018427387904) (hd0 : 0 ≤ d.pos) (hd1 : d.pos ≤ 1099511627776) (ho : d.out.size ≤ reachBytes) (hi : d.inn.size ≤ reachBytes) :
    0 ≤ one p d ∧ one p d ≤ B + d.inn.size := by
  unfold one wrap64
  unfold reachBytes at ho hi
  by_cases h : p ≤ d.pos
  · rw [if_pos h]; omega
  · rw [if_neg h]
    have e1 : (p - d.pos + 9223372036854775808) % 18446744073709551616 - 9223372036854775808 = p - d.pos := by omega
    rw [e1]
    by_cases h2 : p - d.pos < d.out.size
    · rw [if_pos h2]; omega
    · rw [if_neg h2]; omega
theorem moved_bd : ∀ (ds : List Dl) (p B : Int), 0 ≤ p → p ≤ B → 1099511627776 ≤ B → B + grow ds ≤ 4611686018427387904 → (∀ d ∈ ds, 0 ≤ d.pos ∧ d.pos ≤ 1099511627776 ∧ DlOk d) → 0 ≤ moved p ds ∧ moved p ds ≤ B + grow ds
  | [], p, B, h0, h1, _, _, _ => by
    show 0 ≤ p ∧ p ≤ B + (0 : Nat)
    omega
  | d :: r, p, B, h0, h1, hB0, hB1, hd => by
    obtain ⟨a, b, c1, c2, c3⟩ := hd d List.mem_cons_self
    have hg : grow (d :: r) = d.inn.size + grow r := by simp [grow]
    rw [hg] at hB1 ⊢
    obtain ⟨e1, e2⟩ := one_bd h0 h1 hB0 (by omega) a b c2 c3
    have := moved_bd r (one p d) (B + d.inn.size) e1 e2 (by omega) (by omega) (fun x hx => hd x (List.mem_cons_of_mem _ hx))
    show 0 ≤ moved (one p d) r ∧ moved (one p d) r ≤ _
    omega
theorem play_bd {B : Int} {l : ML} (h : Bd B l) (o : OpV) (hB0 : 1099511627776 ≤ B) (hB1 : B ≤ 2305843009213693952) (hf : OpFit o) (hg : grow o.ds ≤ 1048576) : Bd (B + 1048576) (playL o l) := by
  unfold playL
  have h' : Bd (B + 1048576) l := h.mono (by omega)
  split
  · exact h'.putL _ _ (by omega)
  · split
    · exact h'.dropL _
    · split
      · refine Bd.loadL fun x hx => ?_
        obtain ⟨y, hy, rfl⟩ := List.mem_map.1 hx
        simp only
        omega
      · split
        · split
          · rename_i hq
            intro x hx
            obtain ⟨y, hy, rfl⟩ := List.mem_map.1 hx
            have := moved_bd o.ds y.2 B (h y hy).1 (h y hy).2 hB0 (by omega) (fun d hd => ⟨(far_in hq.2 d hd).1, (far_in hq.2 d hd).2, hf.ds d hd⟩)
            simp only
            omega
          · exact h'
        · split
          · intro x hx; cases hx
          · exact h'

theorem load_back {l : ML} (h : Ok l) (h0 : ∀ x ∈ l, 0 ≤ x.2) : loadL l = l := load_self l h h0
section
variable {w0 w : World} {b : Nat} {l : ML}
theorem St.clone (h : St w0 w b l) (h0 : ∀ x ∈ l, 0 ≤ x.2) :
    Calls Tryd.prog 31 #[.pointer (some ⟨b, 0, none⟩)] w fun e w' => ∃ c, e = .returned (.pointer (some ⟨c, 0, none⟩)) ∧ St w w' c l := by
  obtain ⟨ro, h1, h2, h3⟩ := h
  refine (Clone_any b ro l w h1).mono ?_
  rintro e w' ⟨c, ro', rfl, hs, hc, hf, hb⟩
  rw [load_back h1.ok h0] at hs
  refine ⟨c, rfl, ro', hs, fun k hk => ?_, hb⟩
  rcases hk with rfl | hk
  · exact hc
  · exact hf k hk.symm
theorem Rt.clone (h : Rt w0 w b l) :
    Calls Tryd.prog 32 #[.pointer (some ⟨b, 0, none⟩)] w fun e w' => ∃ c, e = .returned (.pointer (some ⟨c, 0, none⟩)) ∧ Rt w w' c l := by
  obtain ⟨ro, h1, h2, h3⟩ := h
  refine (CloneR_any b ro l w h1).mono ?_
  rintro e w' ⟨c, v', rfl, hs, hn, hc, hb⟩
  refine ⟨c, rfl, v', hs, fun k hk => ?_, hb⟩
  rcases hk with rfl | hk
  · exact hc
  · exact hn k hk
end
theorem OpsAt.elem {w : World} {A : Option Addr} {ops : List OpV} (h : OpsAt w A ops) (k : Nat) (hk : k < ops.length) : ∃ ad, A = some ad ∧ ad.block < w.heap.size ∧ OpAt w (ad.add (k * 5)) ops[k] ∧ OpIs w ops[k] := by
  rcases h with h | ⟨ad, h1, h2, h3⟩
  · subst h; simp at hk
  · exact ⟨ad, h1, h2, h3 k hk⟩
theorem OpIs.below {w w' : World} {o : OpV} (h : OpIs w o) (hb : Below w.heap.size w w') : OpIs w' o := ⟨h.1.below hb, h.2.1.below hb, h.2.2⟩

set_option maxRecDepth 100000 in
set_option maxHeartbeats 2000000 in
theorem plays_walk (A : Option Addr) (ms : ML) (c : Nat) (B : Option Addr) (ops : List OpV) (d : Nat) (w : World) (hm : MksAt w A ms) (hf : Fits ms) (hml : ms.length * 16 ≤ 140737488351232)
    (ho : OpsAt w B ops) (hol : ops.length ≤ 1048576) (hod : ops.length ≤ d) (hdm : d ≤ 140737488351232) (hgr : ∀ o ∈ ops, grow o.ds ≤ 1048576) :
    Calls Tryd.prog 8 #[.slice A ms.length c, .slice B ops.length d] w fun e w' => e = .returned (.bool true) ∧ Below w.heap.size w w' := by
  have HM := Lib.hid hm
  have HF := Lib.hid hf
  have HO := Lib.hid ho
  have HG := Lib.hid hgr
  clear hm hf ho hgr
  go_enter Tryd.func8, Tryd.ntmps8
  go_wp2_with (go_at_call 12; refine (lays_true _).mono ?_; rintro e1 w1 ⟨rfl, hb1⟩)
  have HB1 := Lib.hid hb1
  have hw1 : Hid (w.heap.size ≤ w1.heap.size) := hb1.size
  clear hb1
  go_loopw [5, 20] (fun u i wr => ∃ k : Nat, k ≤ ms.length ∧ i = .int .i64 k ∧ wr.ownsRow w1.heap.size 33 2 u ((capL ms).take k).length (cellsM ((capL ms).take k)) ∧ Below w1.heap.size w1 wr) (fun _ i _ => ms.length - (intOf i).toNat)
  case atStart => exact ⟨0, Nat.zero_le _, rfl, World.ownsRow_nil _ _ _ _, Below.refl _ _⟩
  case round =>
    obtain ⟨k, hk, rfl, hown, hb⟩ := hrel
    have hlenT : ((capL ms).take k).length = k := by unfold capL; simp; omega
    have hbw : Below w.heap.size w wr := HB1.out.trans (hb.mono hw1.out)
    by_cases hlt : k < ms.length
    · obtain h | ⟨ad, rfl, hA, hc⟩ := HM.out.below hbw
      · subst h; simp at hlt
      obtain ⟨d0, d1⟩ := hc k hlt
      have HT : Hid _ := capL_take ms k hlt
      have hlen2 : (((capL ms).take k).length + 1) * 16 ≤ 140737488355328 := by rw [hlenT]; omega
      have HOw := Lib.hid hown
      have HB := Lib.hid hb
      have hsz := hb.size
      clear hown hb hc hlenT hbw
      generalize (capL ms).take k = o at *
      generalize ms[k] = y at *
      obtain ⟨y1, y2⟩ := y
      go_wp2_with (at_builtin; refine wpList_app_long rfl _ _ rfl w1.heap.size _ o _ _ _ rfl (HOw.out.alloc _) _ (by simp) rfl hlen2 (by simp; omega) ?_; intro v2 w3 hown3 hg3; have hb3 := ((HB.out.alloc HB.out.size _).alloc (by simp; omega) _).grown hg3 (by simp; omega) (fun j hj => (HOw.out.lt j hj).1); have HO3 := Lib.hid hown3; have HB3 := Lib.hid hb3; clear hown3 hg3 hb3)
      go_roundw
      case rel => exact ⟨k + 1, by omega, by go_num, by rw [HT.out]; exact HO3.out, HB3.out⟩
      case measure => simp [intOf]; omega
    · have e : (capL ms).take k = capL ms := List.take_of_length_le (by unfold capL; simp; omega)
      rw [e] at hown
      obtain ⟨A2, c2, rfl⟩ := row_form hown
      have HRow := Lib.hid hown
      have HB := Lib.hid hbw
      have hlc : (capL ms).length ≤ 9223372036854775807 := by unfold capL; simp; omega
      clear hown hb e hlenT hbw
      go_wp2_with fail
      refine (St.new A2 (capL ms) c2 wr (MksAt.of_row HRow.out) (capL_fits HF.out) hlc).mono ?_
      rintro e4 w4 ⟨b, rfl, hs4⟩
      have HS4 := Lib.hid (hs4.earlier HB.out)
      have HM4 := Lib.hid ((MksAt.of_row HRow.out).below hs4.since)
      clear hs4
      go_wp2_with fail
      refine (Rt.new A2 (capL ms) c2 w4 HM4.out (capL_fits HF.out) hlc).mono ?_
      rintro e5 w5 ⟨r, rfl, hr5⟩
      have HS5 := Lib.hid (HS4.out.below hr5.since)
      have HR5 := Lib.hid (hr5.earlier HS4.out.since)
      have HBd : Hid (Bd 1099511627776 (loadL (capL ms))) := Bd.loadL fun x hx => by
        obtain ⟨y, hy, rfl⟩ := List.mem_map.1 hx
        simp only
        omega
      clear hr5
      generalize loadL (capL ms) = l0 at *
      clear HRow HM4
      go_wp2_with fail
      refine (agree_any _ HS5.out HR5.out).mono ?_
      rintro e6 w6 ⟨rfl, hb6⟩
      have HS6 := Lib.hid (HS5.out.below hb6)
      have HR6 := Lib.hid (HR5.out.below hb6)
      clear hb6
      go_wp2
      go_loopw [48] (fun i wr => ∃ (k : Nat) (l : ML), k ≤ ops.length ∧ i = .int .i64 k ∧ St w wr b l ∧ Rt w wr r l ∧ Bd (1099511627776 + k * 1048576) l) (fun i _ => ops.length - (intOf i).toNat)
      case atStart => exact ⟨0, l0, Nat.zero_le _, rfl, HS6.out, HR6.out, by simpa using HBd.out⟩
      case round =>
        obtain ⟨k, l, hk, rfl, hst, hrt, hbd⟩ := hrel
        have HSt := Lib.hid hst
        have HRt := Lib.hid hrt
        have HBe := Lib.hid hst.since
        have HBl := Lib.hid hbd
        clear hst hrt hbd
        by_cases hlt : k < ops.length
        · obtain ⟨ad, rfl, hA, hat, his⟩ := HO.out.elem k hlt
          obtain ⟨o0, o1, o2, o3, o4⟩ := hat.below (by rw [add_block]; exact hA) HBe.out
          have HIs := Lib.hid his
          have HGk := Lib.hid (HG.out ops[k] (List.getElem_mem hlt))
          have hk0 : 0 ≤ ops[k].kind := by
            have := his.2.2.kind
            simp only [Lit.wf, Bool.and_eq_true, decide_eq_true_eq, IntKind.min, IntKind.max, IntKind.signed, IntKind.bits] at this
            simp at this
            omega
          clear hat his
          generalize hok : ops[k] = o at *
          clear hok
          have hq0 : (wr.alloc (.cells #[.int .u8 o.kind, .int .u8 o.nm, .int .i64 o.pos, .slice o.MA o.ms.length o.mc, .slice o.DA o.ds.length o.dc] 55)).heap[wr.heap.size]? = some (.cells #[.int .u8 o.kind, .int .u8 o.nm, .int .i64 o.pos, .slice o.MA o.ms.length o.mc, .slice o.DA o.ds.length o.dc] 55 (0, 0)) := World.alloc_heap_new _ _
          have hbx : Below wr.heap.size wr (wr.alloc (.cells #[.int .u8 o.kind, .int .u8 o.nm, .int .i64 o.pos, .slice o.MA o.ms.length o.mc, .slice o.DA o.ds.length o.dc] 55)) := (Below.refl _ _).alloc (Nat.le_refl _) _
          have HQ := Lib.hid hq0
          have HBx := Lib.hid hbx
          have HS1r := Lib.hid (HSt.out.below hbx)
          have HR1r := Lib.hid (HRt.out.below hbx)
          clear hq0 hbx
          by_cases hq : o.kind % 7 = 6
          · have H0 : Hid (∀ x ∈ l, 0 ≤ x.2) := fun x hx => (HBl.out x hx).1
            go_wp2_with fail
            refine (HS1r.out.clone H0.out).mono ?_
            rintro e7 w7 ⟨cb, rfl, hs7⟩
            have HS7 := Lib.hid hs7
            have HR7 := Lib.hid (HR1r.out.below hs7.since)
            clear hs7
            go_wp2_with fail
            refine HR7.out.clone.mono ?_
            rintro e8 w8 ⟨cc, rfl, hr8⟩
            have HS8 := Lib.hid (HS7.out.below hr8.since)
            have HR8 := Lib.hid (hr8.earlier HS7.out.since)
            clear hr8
            go_wp2_with fail
            refine (agree_any _ HS8.out HR8.out).mono ?_
            rintro e9 w9 ⟨rfl, hb9⟩
            have HS10 := Lib.hid (HS8.out.below hb9)
            have HR10 := Lib.hid (HR8.out.below hb9)
            clear hb9
            obtain ⟨m, hmn, hm1, hm2⟩ : ∃ m : Nat, min (ops.length : Int) ((k : Int) + 4) = (m : Int) ∧ k + 1 ≤ m ∧ m ≤ ops.length := ⟨min ops.length (k + 4), by omega, by omega, by omega⟩
            generalize hw1r : (wr.alloc (.cells #[.int .u8 o.kind, .int .u8 o.nm, .int .i64 o.pos, .slice o.MA o.ms.length o.mc, .slice o.DA o.ds.length o.dc] 55)) = w1r at *
            clear hw1r
            rcases (by omega : d = k + 1 ∨ k + 1 < d) with hdk | hdk
            · have hmk : m = k + 1 := by omega
              subst hdk
              subst hmk
              go_wp2
              go_loopw [79] (fun i wi => ∃ (l2 : ML), i = .int .i64 0 ∧ St w1r wi cb l2 ∧ Rt w1r wi cc l2) (fun i _ => 0)
              case atStart => exact ⟨l, rfl, HS10.out, HR10.out⟩
              case round =>
                obtain ⟨l2, rfl, hs, hr⟩ := hrel
                have HSi := Lib.hid hs
                have HRi := Lib.hid hr
                have HBi := Lib.hid hs.since
                clear hs hr
                go_wp2_with fail
                refine (agree_any _ HSi.out HRi.out).mono ?_
                rintro e14 w14 ⟨rfl, hb14⟩
                have hbx := HBi.out.trans (hb14.mono HBi.out.size)
                have HS14 := Lib.hid (HS1r.out.below hbx)
                have HR14 := Lib.hid (HR1r.out.below hbx)
                have HQ14 := Lib.hid ((KeepR.below hbx).stays HQ.out (by decide))
                clear hbx hb14 HSi HRi HBi
                go_wp2_with fail
                refine (agree_any _ HS14.out HR14.out).mono ?_
                rintro e15 w15 ⟨rfl, hb15⟩
                have HS15 := Lib.hid (HS14.out.below hb15)
                have HR15 := Lib.hid (HR14.out.below hb15)
                have hq15 := (KeepR.below hb15).stays HQ14.out (by decide)
                obtain ⟨p0, p1, p2, p3, p4⟩ := five_cells hq15
                clear hb15 hq15 HQ14
                go_wp2_with fail
                refine (play_any o _ HS15.out HR15.out (HIs.out)).mono ?_
                rintro e12 w12 ⟨rfl, hs12, hr12⟩
                have HS12 := Lib.hid hs12
                have HR12 := Lib.hid hr12
                have HB12 : Hid (Bd (1099511627776 + ((k + 1 : Nat) : Int) * 1048576) (playL o l)) := (play_bd HBl.out o (by omega) (by omega) HIs.out.2.2 HGk.out).mono (by omega)
                clear hs12 hr12
                generalize playL o l = l12 at *
                go_wp2_with fail
                refine (agree_any _ HS12.out HR12.out).mono ?_
                rintro e13 w13 ⟨rfl, hb13⟩
                have HS13 := Lib.hid (HS12.out.below hb13)
                have HR13 := Lib.hid (HR12.out.below hb13)
                clear hb13
                go_wp2
                go_roundw
                case rel => exact ⟨k + 1, l12, by omega, by go_num, HS13.out, HR13.out, HB12.out⟩
                case measure => simp [intOf]; omega
            · go_wp2
              go_loopw [79] (fun i wi => ∃ (j : Nat) (l2 : ML), j ≤ m - (k + 1) ∧ i = .int .i64 j ∧ St w1r wi cb l2 ∧ Rt w1r wi cc l2) (fun i _ => m - (k + 1) - (intOf i).toNat)
              case atStart => exact ⟨0, l, Nat.zero_le _, rfl, HS10.out, HR10.out⟩
              case round =>
                obtain ⟨j, l2, hj, rfl, hs, hr⟩ := hrel
                have HSi := Lib.hid hs
                have HRi := Lib.hid hr
                have HBi := Lib.hid hs.since
                clear hs hr
                by_cases hjl : j < m - (k + 1)
                · obtain ⟨ad', he', hA', hat', his'⟩ := HO.out.elem (k + 1 + j) (by omega)
                  obtain rfl : ad = ad' := by simpa using he'
                  have hbe2 := HBe.out.trans ((HBx.out.trans (HBi.out.mono HBx.out.size)).mono HBe.out.size)
                  have hat2 := hat'.below (by rw [add_block]; exact hA) hbe2
                  rw [show (k + 1 + j) * 5 = (k + 1) * 5 + j * 5 by omega, ← Go.Deep.add_add] at hat2
                  obtain ⟨q0, q1, q2, q3, q4⟩ := hat2
                  have HIs' := Lib.hid (his'.below (HBe.out.trans (HBx.out.mono HBe.out.size)))
                  clear hat' his' hbe2 he'
                  generalize ops[k + 1 + j] = o2 at *
                  go_wp2_with fail
                  refine (play_any o2 _ (HSi.out.below ((Below.refl _ _).alloc (Nat.le_refl _) _)) (HRi.out.below ((Below.refl _ _).alloc (Nat.le_refl _) _)) HIs'.out).mono ?_
                  rintro e11 w11 ⟨rfl, hs11, hr11⟩
                  have HS11 := Lib.hid hs11
                  have HR11 := Lib.hid hr11
                  clear hs11 hr11
                  go_wp2
                  go_roundw
                  case rel => exact ⟨j + 1, _, by omega, by go_num, HS11.out, HR11.out⟩
                  case measure => simp [intOf]; omega
                · go_wp2_with fail
                  refine (agree_any _ HSi.out HRi.out).mono ?_
                  rintro e14 w14 ⟨rfl, hb14⟩
                  have hbx := HBi.out.trans (hb14.mono HBi.out.size)
                  have HS14 := Lib.hid (HS1r.out.below hbx)
                  have HR14 := Lib.hid (HR1r.out.below hbx)
                  have HQ14 := Lib.hid ((KeepR.below hbx).stays HQ.out (by decide))
                  clear hbx hb14 HSi HRi HBi
                  go_wp2_with fail
                  refine (agree_any _ HS14.out HR14.out).mono ?_
                  rintro e15 w15 ⟨rfl, hb15⟩
                  have HS15 := Lib.hid (HS14.out.below hb15)
                  have HR15 := Lib.hid (HR14.out.below hb15)
                  have hq15 := (KeepR.below hb15).stays HQ14.out (by decide)
                  obtain ⟨p0, p1, p2, p3, p4⟩ := five_cells hq15
                  clear hb15 hq15 HQ14
                  go_wp2_with fail
                  refine (play_any o _ HS15.out HR15.out (HIs.out)).mono ?_
                  rintro e12 w12 ⟨rfl, hs12, hr12⟩
                  have HS12 := Lib.hid hs12
                  have HR12 := Lib.hid hr12
                  have HB12 : Hid (Bd (1099511627776 + ((k + 1 : Nat) : Int) * 1048576) (playL o l)) := (play_bd HBl.out o (by omega) (by omega) HIs.out.2.2 HGk.out).mono (by omega)
                  clear hs12 hr12
                  generalize playL o l = l12 at *
                  go_wp2_with fail
                  refine (agree_any _ HS12.out HR12.out).mono ?_
                  rintro e13 w13 ⟨rfl, hb13⟩
                  have HS13 := Lib.hid (HS12.out.below hb13)
                  have HR13 := Lib.hid (HR12.out.below hb13)
                  clear hb13
                  go_wp2
                  go_roundw
                  case rel => exact ⟨k + 1, l12, by omega, by go_num, HS13.out, HR13.out, HB12.out⟩
                  case measure => simp [intOf]; omega
          · obtain ⟨r0, r1, r2, r3, r4⟩ := five_cells HQ.out
            go_wp2_with fail
            refine (play_any o _ HS1r.out HR1r.out (HIs.out)).mono ?_
            rintro e12 w12 ⟨rfl, hs12, hr12⟩
            have HS12 := Lib.hid hs12
            have HR12 := Lib.hid hr12
            have HB12 : Hid (Bd (1099511627776 + ((k + 1 : Nat) : Int) * 1048576) (playL o l)) := (play_bd HBl.out o (by omega) (by omega) HIs.out.2.2 HGk.out).mono (by omega)
            clear hs12 hr12
            generalize playL o l = l12 at *
            go_wp2_with fail
            refine (agree_any _ HS12.out HR12.out).mono ?_
            rintro e13 w13 ⟨rfl, hb13⟩
            have HS13 := Lib.hid (HS12.out.below hb13)
            have HR13 := Lib.hid (HR12.out.below hb13)
            clear hb13
            go_wp2
            go_roundw
            case rel => exact ⟨k + 1, l12, by omega, by go_num, HS13.out, HR13.out, HB12.out⟩
            case measure => simp [intOf]; omega
        · go_wp2
          go_ret
          exact ⟨rfl, HBe.out⟩
end Go.Proofs.YtdkdnkmfjpdcpaaDoor.Mk
