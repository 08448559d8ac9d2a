/-
  The law MarksEnds, walked. No condition but what every argument bears.
-/
import Derived.Test.YtdkdnkmfjpdcpaaDoorMkOps
import Derived.Test.YtdkdnkmfjpdcpaaDoorMkStS
namespace Go.Proofs.YtdkdnkmfjpdcpaaDoor.Mk
open Go.RowKit Go.Proofs.YtdkdnkmfjpdcpaaDoor.Reg Go.Proofs.YtdkdnkmfjpdcpaaDoor.Row Go.ChangeShapes Go.WideShapes Go.ChangeMaps
set_option linter.unusedVariables false
set_option linter.unusedSimpArgs false

theorem ints3 (w : World) (x y z : Int) (t : TypeId) : IntsAt (w.alloc (.cells #[.int .i64 x, .int .i64 y, .int .i64 z] t)) (some ⟨w.heap.size, 0, none⟩) [x, y, z] := by
  refine .inr ⟨_, rfl, by simp, fun i hi => ?_⟩
  have hi' : i < 3 := by simpa using hi
  rcases (by omega : i = 0 ∨ i = 1 ∨ i = 2) with rfl | rfl | rfl <;> simp [Addr.add]

set_option maxRecDepth 100000 in
set_option maxHeartbeats 1000000 in
theorem ends_walk (A : Option Addr) (ms : ML) (c : Nat) (B : Option Addr) (ops : List OpV) (d : Nat) (p : Int) (D : Option Addr) (ds : List Dl) (e : Nat) (w : World) (hm : MksAt w A ms) (hf : Fits ms) (hml : ms.length ≤ 140737488351232)
    (ho : OpsAt w B ops) (hol : ops.length ≤ 140737488351232) (hp : (Lit.int .i64 p).wf = true) (hd : DlsAt w D ds) (hdl : ds.length ≤ 140737488351232) (hok : ∀ x ∈ ds, DlOk x) :
    Calls Tryd.prog 9 #[.slice A ms.length c, .slice B ops.length d, .int .i64 p, .slice D ds.length e] w fun e w' => e = .returned (.bool true) ∧ Below w.heap.size w w' := by
  have HM := Lib.hid hm
  have HF := Lib.hid hf
  have HO := Lib.hid ho
  have HD := Lib.hid hd
  have HOK := Lib.hid hok
  have HP := Lib.hid hp
  clear hm hf ho hd hok hp
  go_enter Tryd.func9, Tryd.ntmps9
  go_wp2_with (go_at_call 12; refine (lays_true _).mono ?_; rintro e1 w1 ⟨rfl, hb1⟩)
  go_wp2_with fail
  refine (Moved_any p D ds e w1 (by omega) (HD.out.below hb1)).mono ?_
  rintro e2 w2 ⟨rfl, hb2⟩
  have hb2' := hb1.trans (hb2.mono hb1.size)
  clear hb1 hb2
  go_wp2_with fail
  refine (St.new A ms c w2 (HM.out.below hb2') HF.out (by omega)).mono ?_
  rintro e3 w3 ⟨b, rfl, hs3⟩
  have HS3 := Lib.hid (hs3.earlier hb2')
  clear hs3 hb2'
  go_wp2
  go_loopw [21] (fun i wr => ∃ (k : Nat) (l : ML), k ≤ ops.length ∧ i = .int .i64 k ∧ St w wr b l) (fun i _ => ops.length - (intOf i).toNat)
  case atStart => exact ⟨0, _, Nat.zero_le _, rfl, HS3.out⟩
  case round =>
    obtain ⟨k, l, hk, rfl, hst⟩ := hrel
    have HSt := Lib.hid hst
    have HBe := Lib.hid hst.since
    clear hst
    by_cases hlt : k < ops.length
    · obtain h | ⟨ad, rfl, hA, hx⟩ := HO.out
      · subst h; simp at hlt
      obtain ⟨hat, his⟩ := hx k hlt
      obtain ⟨o0, o1, o2, o3, o4⟩ := hat.below (by rw [add_block]; exact hA) HBe.out
      have HIs := Lib.hid his
      clear hx hat his
      generalize ops[k] = o at *
      obtain ⟨kind, nm, pos, MA, oms, mc, DA, ods, dc⟩ := o
      simp only at o0 o1 o2 o3 o4
      obtain ⟨hm, hd, hfit⟩ := HIs.out
      have HFit := Lib.hid hfit
      have HMs := Lib.hid hm
      have HDs := Lib.hid hd
      have hl1 : oms.length ≤ 140737488351232 := hfit.ml
      have hl2 : ods.length ≤ 140737488351232 := hfit.dl
      clear hm hd hfit HIs
      have hq0 : (wr.alloc (.cells #[.int .u8 kind, .int .u8 nm, .int .i64 pos, .slice MA oms.length mc, .slice DA ods.length dc] 55)).heap[wr.heap.size]? = some (.cells #[.int .u8 kind, .int .u8 nm, .int .i64 pos, .slice MA oms.length mc, .slice DA ods.length dc] 55 (0, 0)) := World.alloc_heap_new _ _
      have HQ0 := Lib.hid hq0
      clear hq0
      go_wp2_with fail
      refine ((HSt.out.below ((Below.refl _ _).alloc (Nat.le_refl _) _)).put nm pos HFit.out.nm HFit.out.pos).mono ?_
      rintro e4 w4 ⟨rfl, hs4, hk4⟩
      have hq4 := hk4.stays HQ0.out (by decide)
      have HS4 := Lib.hid hs4
      have HQ4 := Lib.hid hq4
      obtain ⟨-, -, -, -, r4⟩ := five_cells hq4
      clear hs4 hk4 hq4
      go_wp2_with fail
      refine (HS4.out.move DA ods dc (by omega) HDs.out (fun d hd => (HFit.out.ds d hd).1)).mono ?_
      rintro e5 w5 ⟨rfl, hs5, hk5⟩
      have hq5 := hk5.stays HQ4.out (by decide)
      have HS5 := Lib.hid hs5
      have HQ5 := Lib.hid hq5
      obtain ⟨-, -, -, s3, -⟩ := five_cells hq5
      clear hs5 hk5 hq5 r4
      go_wp2_with fail
      refine (HS5.out.load0 MA oms mc HMs.out HFit.out.ms (by omega)).mono ?_
      rintro e6 w6 ⟨rfl, hs6, hk6⟩
      have hq6 := hk6.stays HQ5.out (by decide)
      have HS6 := Lib.hid hs6
      have HQ6 := Lib.hid hq6
      clear hs6 hk6 hq6 s3
      go_wp2_with fail
      refine (HS6.out.move D ds e (by omega) HD.out (fun d hd => (HOK.out d hd).1)).mono ?_
      rintro e7 w7 ⟨rfl, hs7, hk7⟩
      have hq7 := hk7.stays HQ6.out (by decide)
      have HS7 := Lib.hid hs7
      obtain ⟨-, -, t2, -, -⟩ := five_cells hq7
      clear hs7 hk7 hq7
      go_wp2_with fail
      have hfit3 : ∀ x ∈ [pos, -1, p], (Lit.int .i64 x).wf = true := by
        intro x hx
        simp at hx
        rcases hx with rfl | rfl | rfl
        · exact HFit.out.pos
        · decide
        · exact HP.out
      have hb8 : Below w7.heap.size w7 ((w7.alloc (.cells #[.int .i64 pos, .int .i64 (-1), .int .i64 p] 3)).alloc (.cells #[.slice (some ⟨w7.heap.size, 0, none⟩) 3 3, .slice none 0 0] 64)) :=
        ((Below.refl _ _).alloc (Nat.le_refl _) _).alloc (by simp) _
      have hsn : IsSnaps ((w7.alloc (.cells #[.int .i64 pos, .int .i64 (-1), .int .i64 p] 3)).alloc (.cells #[.slice (some ⟨w7.heap.size, 0, none⟩) 3 3, .slice none 0 0] 64)) (w7.heap.size + 1) (some ⟨w7.heap.size, 0, none⟩) [pos, -1, p] 3 (.slice none 0 0) [] := by
        refine ⟨?_, (ints3 w7 pos (-1) p 3).below ((Below.refl _ _).alloc (Nat.le_refl _) _), .inr fun ad e => by cases e; simp, World.ownsRow_nil _ _ _ _⟩
        have := World.alloc_heap_new (w7.alloc (.cells #[.int .i64 pos, .int .i64 (-1), .int .i64 p] 3)) (.cells #[.slice (some ⟨w7.heap.size, 0, none⟩) 3 3, .slice none 0 0] 64)
        simpa using this
      refine ((HS7.out.below hb8).snap hsn (by simp) hfit3 (by have := HS7.out.since.size; omega)).mono ?_
      rintro e8 w8 ⟨rfl, hs8, -⟩
      have HS8 := Lib.hid hs8
      clear hs8 hsn hb8 hfit3
      go_wp2
      go_roundw
      case rel => exact ⟨k + 1, _, by omega, by go_num, HS8.out⟩
      case measure => simp [intOf]; omega
    · go_wp2_with fail
      refine HSt.out.all.mono ?_
      rintro e4 w4 ⟨A4, c4, rfl, hrow, hb4⟩
      have HB4 := Lib.hid (HBe.out.trans (hb4.mono HBe.out.size))
      clear hrow hb4
      go_wp2
      go_ret
      exact ⟨rfl, HB4.out⟩

set_option maxRecDepth 100000 in
theorem calls_MarksEnds {H : Type} {enc : TypeId × Value → H} {W : World} {base : Nat} {laid : List (String × DataW Unit)} {v0 v1 v2 v3 : Value} {d0 d1 d2 d3 : DataW H} {p0 p1 p2 p3 : List MemPlace} (hL : laidMetH Tryd.prog laid W)
    (o0 : Value.okWide Tryd.prog W .any base 31 v0) (h0 : DataW.Trod enc Tryd.prog W 0 (fun _ => true) true 31 v0 d0 p0) (w0 : ∀ n ∈ d0.weights Tryd.prog 31, n ≤ reachBytes)
    (o1 : Value.okWide Tryd.prog W .any base 52 v1) (h1 : DataW.Trod enc Tryd.prog W 0 (fun _ => true) true 52 v1 d1 p1) (w1 : ∀ n ∈ d1.weights Tryd.prog 52, n ≤ reachBytes)
    (o2 : Value.okWide Tryd.prog W .any base 3 v2) (h2 : DataW.Trod enc Tryd.prog W 0 (fun _ => true) true 3 v2 d2 p2) (w2 : ∀ n ∈ d2.weights Tryd.prog 3, n ≤ reachBytes)
    (o3 : Value.okWide Tryd.prog W .any base 22 v3) (h3 : DataW.Trod enc Tryd.prog W 0 (fun _ => true) true 22 v3 d3 p3) (w3 : ∀ n ∈ d3.weights Tryd.prog 22, n ≤ reachBytes) :
    Calls Tryd.prog 9 #[v0, v1, v2, v3] W fun e W' => e = .returned (.bool true) ∧ Below W.heap.size W W' := by
  obtain ⟨A, ms, c, rfl, hm, hl, hc, hf⟩ := open_marks h0 (by obtain ⟨a, l, c, rfl⟩ := okWide_slice Tryd.underlying31 o0; rfl) w0
  obtain ⟨B, ops, d, rfl, ho, hol⟩ := open_ops h1 (by obtain ⟨a, l, c, rfl⟩ := okWide_slice Tryd.underlying52 o1; rfl) w1
  obtain ⟨x, rfl, rfl, rfl, hx⟩ := open_int Tryd.underlying3 o2 h2
  obtain ⟨D, ds, e, rfl, hd, hdl, hdc, hok⟩ := open_deltas h3 (by obtain ⟨a, l, c, rfl⟩ := okWide_slice Tryd.underlying22 o3; rfl) w3
  unfold reachBytes at hc hdc
  exact ends_walk A ms c B ops d x D ds e W hm hf (by omega) ho hol hx hd (by omega) hok
end Go.Proofs.YtdkdnkmfjpdcpaaDoor.Mk
