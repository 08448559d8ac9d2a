/-
  The law MarksSnaps, walked. No condition but what every argument bears.
-/
import Derived.Test.YtdkdnkmfjpdcpaaDoorMkSnapR
import Derived.Test.YtdkdnkmfjpdcpaaDoorMkAgree
import Derived.Test.YtdkdnkmfjpdcpaaDoorMkOpenM
namespace Go.Proofs.YtdkdnkmfjpdcpaaDoor.Mk
open Go.RowKit Go.Maps Go.Proofs.YtdkdnkmfjpdcpaaDoor.Reg Go.Proofs.YtdkdnkmfjpdcpaaDoor.Row Go.ChangeShapes Go.WideShapes Go.ChangeAt Go.Deep
set_option linter.unusedVariables false
set_option linter.unusedSimpArgs false

theorem ints_far {w0 w : World} {A : Option Addr} {ts : List Int} (hd : IntsAt w0 A ts) {F : Nat → Prop} (hf : ∀ k, F k → w0.heap.size ≤ k) : ts = [] ∨ ∀ ad, A = some ad → ad.block < w.heap.size → ¬ F ad.block := by
  rcases hd with h | ⟨ad, rfl, hl, -⟩
  · exact .inl h
  · exact .inr fun a e _ hk => by cases e; have := hf _ hk; omega
theorem Rt.snap {w0 w : World} {b : Nat} {l : ML} (h : Rt w0 w b l) (A : Option Addr) (ts : List Int) (c : Nat) (ht : IntsAt w0 A ts) (hto : ts.length ≤ 9223372036854775807) (hw : ∀ x ∈ ts, (Lit.int .i64 x).wf = true) :
    Calls Tryd.prog 35 #[.pointer (some ⟨b, 0, none⟩), .slice A ts.length c] w fun e w' => e = .returned (.int .i64 (snapN ts 0 l)) ∧ Rt w0 w' b (snapL ts 0 l) ∧ KeepS w w' := by
  obtain ⟨ro, h1, h2, h3⟩ := h
  refine (SnapR_any b ro l A ts c w h1 (ht.below h3) (ints_far ht h2) hto hw).mono ?_
  rintro e w' ⟨rfl, hs', hc⟩
  exact ⟨rfl, Rt.step h1 h2 h3 hs' (.inl rfl) hc⟩
theorem Rt.snapped {w0 w w' : World} {b c : Nat} {ro : Option Nat} {l m : ML} {t : Nat} (h : Rt w0 w c m) (hs : IsSet w b ro l) (hc : Chg (fun k => foot b ro k ∨ t ≤ k) w w') (ht : ∀ v, IsRef w c v m → ∀ k, footR c v k → k < t) (hb : Below w0.heap.size w0 w') : Rt w0 w' c m := by
  obtain ⟨v, h1, h2, h3⟩ := h
  refine ⟨v, h1.kept hc (fun k hk hf => ?_), h2, hb⟩
  rcases hf with hf | hf
  · exact sep hs h1 k hf hk
  · have := ht v h1 k hk; omega

set_option maxRecDepth 100000 in
set_option maxHeartbeats 1000000 in
theorem snaps_walk (A : Option Addr) (ms : ML) (c : Nat) (B : Option Addr) (ts : List Int) (d : Nat) (w : World) (hm : MksAt w A ms) (hf : Fits ms) (hml : ms.length ≤ 140737488351232)
    (ht : IntsAt w B ts) (htl : ts.length ≤ 140737488351232) (hw : ∀ x ∈ ts, (Lit.int .i64 x).wf = true) :
    Calls Tryd.prog 10 #[.slice A ms.length c, .slice B ts.length d] w fun e w' => e = .returned (.bool true) ∧ Below w.heap.size w w' := by
  have HM := Lib.hid hm
  have HF := Lib.hid hf
  have HT := Lib.hid ht
  have HW := Lib.hid hw
  clear hm hf ht hw
  go_enter Tryd.func10, Tryd.ntmps10
  go_wp2_with (go_at_call 12; refine (lays_true _).mono ?_; rintro e1 w1 ⟨rfl, hb1⟩)
  go_wp2_with fail
  refine (St.new A ms c w1 (HM.out.below hb1) HF.out (by omega)).mono ?_
  rintro e2 w2 ⟨b, rfl, hs2⟩
  have HS2 := Lib.hid (hs2.earlier hb1)
  clear hs2 hb1
  go_wp2_with fail
  refine (Rt.new A ms c w2 (HM.out.below HS2.out.since) HF.out (by omega)).mono ?_
  rintro e3 w3 ⟨r, rfl, hr3⟩
  have HS3 := Lib.hid (HS2.out.below hr3.since)
  have HR3 := Lib.hid (hr3.earlier HS2.out.since)
  clear hr3
  generalize loadL ms = l at *
  go_wp2_with fail
  refine (Snap_nil _ _).mono ?_
  rintro e4 w4 ⟨rfl, rfl⟩
  go_wp2_with fail
  refine (agree_any _ HS3.out HR3.out).mono ?_
  rintro e5 w5 ⟨rfl, hb5⟩
  have HS5 := Lib.hid (HS3.out.below hb5)
  have HR5 := Lib.hid (HR3.out.below hb5)
  clear hb5
  go_wp2_with fail
  refine HR5.out.all.mono ?_
  rintro e6 w6 ⟨A6, c6, rfl, hrow6, hb6⟩
  have HRow6 := Lib.hid hrow6
  have hs6ok := HS5.out.ok.length
  have HS6 := Lib.hid (HS5.out.below hb6)
  have HR6 := Lib.hid (HR5.out.below hb6)
  clear hrow6 hb6
  go_wp2_with fail
  have hb7 : Below w6.heap.size w6 (w6.alloc (.cells #[.slice B ts.length d, .slice none 0 0] 64)) := (Below.refl _ _).alloc (Nat.le_refl _) _
  have hsn : IsSnaps (w6.alloc (.cells #[.slice B ts.length d, .slice none 0 0] 64)) w6.heap.size B ts d (.slice none 0 0) [] := by
    refine ⟨World.alloc_heap_new _ _, (HT.out.below HS6.out.since).below hb7, ?_, World.ownsRow_nil _ _ _ _⟩
    rcases HT.out with h | ⟨ad, h1, h2, -⟩
    · exact .inl h
    · refine .inr fun a e => ?_
      rw [h1] at e; cases e
      have := HS6.out.since.size; omega
  refine ((HS6.out.below hb7).snap hsn (by omega) HW.out HS6.out.since.size).mono ?_
  rintro e7 w7 ⟨rfl, hs7, v7, ro7, ht7, hset7, hc7⟩
  have hr7 : Rt w w7 r l := by
    refine (HR6.out.below hb7).snapped hset7 hc7 (fun v hv k hk => ?_) hs7.since
    obtain ⟨v', h1, h2, h3⟩ := HR6.out
    have hvv : v = v' := by
      have e1 := hv.blk
      have e2 := (h1.below hb7).blk
      rw [e2] at e1
      injection e1 with e1; injection e1 with e1 _; simpa using e1.symm
    subst hvv
    rcases hk with rfl | hk
    · exact h1.lt
    · exact h1.rlt k hk
  have hrow7 : w7.ownsRow w5.heap.size 33 2 (.slice A6 l.length c6) l.length (cellsM l) := by
    refine row_chg (HRow6.out.alloc _) hc7 (fun k hk hf => ?_)
    rcases hf with hf | hf
    · exact sepS (HRow6.out.alloc _) hset7 k hk hf
    · have := (HRow6.out.lt k hk).2; omega
  have HS7 := Lib.hid hs7
  have HR7 := Lib.hid hr7
  have HRow7 := Lib.hid hrow7
  have hal : (l.map (·.2)).length = l.length := List.length_map ..
  obtain ⟨q0, q1, -⟩ := ht7.cells
  have hask := ht7.row
  rw [hal] at hask
  obtain ⟨A7, c7, rfl⟩ := row_form hask
  have HAsk := Lib.hid hask
  have hl59 := hs6ok
  have htl7 : w6.heap.size < w7.heap.size := ht7.lt
  clear hs7 hr7 hrow7 hask hc7 hset7 ht7 hal hsn hb7
  generalize w6.heap.size = t at *
  go_wp2
  go_loopw [50] (fun i wr => ∃ k : Nat, k ≤ l.length ∧ i = .int .i64 k ∧ Below w7.heap.size w7 wr) (fun i _ => l.length - (intOf i).toNat)
  case atStart => exact ⟨0, Nat.zero_le _, rfl, Below.refl _ _⟩
  case round =>
    obtain ⟨k, hk, rfl, hb⟩ := hrel
    by_cases hlt : k < l.length
    · obtain ⟨g, cap, he, -, hgl⟩ := HRow7.out.form (by omega)
      obtain ⟨rfl, rfl⟩ : A6 = some ⟨g, 0, none⟩ ∧ c6 = cap := by simpa using he
      obtain ⟨g', cap', he', -, hgl'⟩ := HAsk.out.form (by omega)
      obtain ⟨rfl, rfl⟩ : A7 = some ⟨g', 0, none⟩ ∧ c7 = cap' := by simpa using he'
      obtain ⟨e1, e2⟩ := cellsM_get l k hlt
      have g1 : wr.cell? ⟨g, k * 2, none⟩ = some (.int .u8 l[k].1) := (hb.cell hgl).trans ((HRow7.out.cellAt (k * 2) (by omega)).trans e1)
      have g2 : wr.cell? ⟨g, k * 2 + 1, none⟩ = some (.int .i64 l[k].2) := (hb.cell hgl).trans ((HRow7.out.cellAt (k * 2 + 1) (by omega)).trans e2)
      have g3 : wr.cell? ⟨g', k, none⟩ = some (.int .i64 l[k].2) := (hb.cell hgl').trans ((HAsk.out.cellAt k (by omega)).trans (by simp [ints, hlt]))
      have g4 : wr.cell? ⟨t, 1, none⟩ = some (.slice (some ⟨g', 0, none⟩) l.length c7) := (hb.cell htl7).trans q1
      have hgr : g < wr.heap.size := Nat.lt_of_lt_of_le hgl hb.size
      have hgr' : g' < wr.heap.size := Nat.lt_of_lt_of_le hgl' hb.size
      have htr : t < wr.heap.size := Nat.lt_of_lt_of_le htl7 hb.size
      have hi0 : (0 : Int) ≤ (k : Int) := by omega
      have hi1 : (k : Int) < (l.length : Int) := by omega
      have HB := Lib.hid hb
      clear hb e1 e2 he he'
      generalize l[k] = x at *
      obtain ⟨nm, pl⟩ := x
      go_wp2
      go_quiet (fail)
      go_wp2
      go_roundw
      case rel => exact ⟨k + 1, by omega, by go_num, (HB.out.alloc HB.out.size _).trans ⟨rfl, rfl, rfl, Nat.le_refl _, fun _ _ => rfl⟩⟩
      case measure => simp [intOf]; omega
    · have HB := Lib.hid hb
      clear hb
      go_wp2_with fail
      refine ((HR7.out.below HB.out).snap B ts d HT.out (by omega) HW.out).mono ?_
      rintro e8 w8 ⟨rfl, hr8, hk8⟩
      have HR8 := Lib.hid hr8
      have HS8 := Lib.hid ((HS7.out.below HB.out).keep hk8 hr8.since)
      clear hr8 hk8
      generalize snapN ts 0 l = N at *
      go_wp2_with fail
      refine (agree_any _ HS8.out HR8.out).mono ?_
      rintro e9 w9 ⟨rfl, hb9⟩
      have HB9 := Lib.hid (HS8.out.since.trans (hb9.mono HS8.out.since.size))
      clear hb9
      go_wp2
      go_ret
      exact ⟨rfl, HB9.out⟩

theorem open_ints {H : Type} {enc : TypeId × Value → H} {W : World} {v : Value} {d : DataW H} {p : List MemPlace} (h : DataW.Trod enc Tryd.prog W 0 (fun _ => true) true 62 v d p) (hc : v.cells.toList = [v])
    (hw : ∀ n ∈ d.weights Tryd.prog 62, n ≤ reachBytes) :
    ∃ (A : Option Addr) (ts : List Int) (c : Nat), v = .slice A ts.length c ∧ IntsAt W A ts ∧ ts.length ≤ 140737488351232 ∧ ∀ x ∈ ts, (Lit.int .i64 x).wf = true := by
  obtain ⟨fuel, hf⟩ := h
  rw [hc] at hf
  rcases open_slice Tryd.underlying62 hf with ⟨hv, hx⟩ | ⟨a, len, cap, m, n, D, Pl, hv, -, hl, hm, hmm, hx, hi⟩
  · obtain rfl : v = .slice none 0 0 := by simpa using hv
    exact ⟨none, [], 0, rfl, .inl rfl, by simp, by simp⟩
  · obtain rfl : v = .slice (some a) len cap := by simpa using hv
    simp only [if_true] at hmm
    subst hmm
    obtain ⟨rfl, -⟩ : d = _ ∧ p = _ := by simpa using hx
    have hcap : m * 8 ≤ reachBytes := by
      have := hw ((((List.range len).map D).length + ((List.range (m - len)).map fun j => D (len + j)).length) * Tryd.prog.bytesOf 3) (by simp [DataW.weights, Tryd.underlying62])
      rw [show Tryd.prog.bytesOf 3 = 8 by kernel_rfl] at this
      simp only [List.length_map, List.length_range] at this
      rwa [show len + (m - len) = m by omega] at this
    obtain ⟨ts, hdl, hds⟩ := list_of (fun i (x : Int) => W.cell? (a.add i) = some (.int .i64 x) ∧ (Lit.int .i64 x).wf = true) len (fun i hil => by
      obtain ⟨cs', hcs, ht⟩ := hi i (by omega)
      obtain ⟨x, e, -, hwx⟩ := DataW.trod_int Tryd.underlying3 ht
      subst e
      obtain ⟨_, _, hat⟩ := World.cells?_some hcs
      have h0 := hat 0 (by rw [show Tryd.prog.cellsOf 3 = 1 by kernel_rfl]; decide)
      rw [show Tryd.prog.cellsOf 3 = 1 by kernel_rfl, Nat.mul_one] at h0
      refine ⟨x, ?_, hwx⟩
      simpa [Addr.add] using h0)
    subst hdl
    unfold reachBytes at hcap
    refine ⟨some a, ts, m, rfl, ?_, by omega, fun x hx => ?_⟩
    · rcases Nat.eq_zero_or_pos ts.length with h0 | h0
      · exact .inl (List.eq_nil_of_length_eq_zero h0)
      · have hb := World.block_lt_of_cell? W _ (hds 0 h0).1
        rw [add_block] at hb
        exact .inr ⟨a, rfl, hb, fun i hi => (hds i hi).1⟩
    · obtain ⟨i, hi, rfl⟩ := List.getElem_of_mem hx
      exact (hds i hi).2

set_option maxRecDepth 100000 in
theorem calls_MarksSnaps {H : Type} {enc : TypeId × Value → H} {W : World} {base : Nat} {laid : List (String × DataW Unit)} {v0 v1 : Value} {d0 d1 : DataW H} {p0 p1 : List MemPlace} (hL : laidMetH Tryd.prog laid W)
    (o0 : Value.okWide Tryd.prog W .any base 31 v0) (h0 : DataW.Trod enc Tryd.prog W 0 (fun _ => true) true 31 v0 d0 p0) (w0 : ∀ n ∈ d0.weights Tryd.prog 31, n ≤ reachBytes)
    (o1 : Value.okWide Tryd.prog W .any base 62 v1) (h1 : DataW.Trod enc Tryd.prog W 0 (fun _ => true) true 62 v1 d1 p1) (w1 : ∀ n ∈ d1.weights Tryd.prog 62, n ≤ reachBytes) :
    Calls Tryd.prog 10 #[v0, v1] W fun e W' => e = .returned (.bool true) ∧ Below W.heap.size W W' := by
  obtain ⟨A, ms, c, rfl, hm, hl, hc, hf⟩ := open_marks h0 (by obtain ⟨a, l, c, rfl⟩ := okWide_slice Tryd.underlying31 o0; rfl) w0
  obtain ⟨B, ts, d, rfl, ht, htl, hw⟩ := open_ints h1 (by obtain ⟨a, l, c, rfl⟩ := okWide_slice Tryd.underlying62 o1; rfl) w1
  unfold reachBytes at hc
  exact snaps_walk A ms c B ts d W hm hf (by omega) ht htl hw
end Go.Proofs.YtdkdnkmfjpdcpaaDoor.Mk
