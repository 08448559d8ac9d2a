/-
  bodkinlaw10.play: one call of both sets. No condition.
-/
import Derived.Test.YtdkdnkmfjpdcpaaDoorMkOps
import Derived.Test.YtdkdnkmfjpdcpaaDoorMkAgree
import Derived.Test.YtdkdnkmfjpdcpaaDoorRegion4
import Derived.Test.YtdkdnkmfjpdcpaaDoorMkSnapB
namespace Go.Proofs.YtdkdnkmfjpdcpaaDoor.Mk
open Go.RowKit Go.Maps Go.Proofs.YtdkdnkmfjpdcpaaDoor.Reg
set_option linter.unusedVariables false
set_option linter.unusedSimpArgs false

def capL (ms : ML) : ML := ms.map fun x => (x.1, min x.2 549755813888)
/-- What one call makes of the marks. -/
def playL (o : OpV) (l : ML) : ML :=
  if o.kind % 7 = 0 then putL l o.nm (min o.pos 549755813888) else if o.kind % 7 = 2 then dropL l o.nm else if o.kind % 7 = 3 then loadL (capL o.ms)
  else if o.kind % 7 = 4 then (if o.ds.length < 1000 ∧ farF 0 o.ds = false then moveL (fun x => moved x o.ds) l else l) else if o.kind % 7 = 5 then [] else l

/-- Both sets, ahead of the first call, between the two, behind the second; the call's own box stays. -/
def JP (w0 : World) (b c q : Nat) (OB : Obj) (l L : ML) (m : Nat) (w : World) : Prop :=
  w.heap[q]? = some OB ∧ St w0 w b (match m with | 0 => l | _ => L) ∧ Rt w0 w c (match m with | 0 => l | 1 => l | _ => L)
theorem JP.drawn {w0 : World} {b c q : Nat} {OB : Obj} {l L : ML} {m : Nat} {w : World} (h : JP w0 b c q OB l L m w) : JP w0 b c q OB l L m { w with drawn := w.drawn + 1 } := by
  obtain ⟨h1, h2, h3⟩ := h
  have hb : Below w.heap.size w { w with drawn := w.drawn + 1 } := ⟨rfl, rfl, rfl, Nat.le_refl _, fun _ _ => rfl⟩
  exact ⟨h1, h2.below hb, h3.below hb⟩

def VP (b c q : Nat) (nm x e : Int) (s : Nat) (v : Value) (w : World) : Prop := match s with
  | 6 => v = .bool true
  | 23 => v = .pointer (some ⟨b, 0, none⟩)
  | 24 => v = .pointer (some ⟨q, 1, none⟩)
  | 25 => v = .int .u8 nm
  | 26 => v = .int .i64 x
  | 27 => v = .int .i64 e
  | 28 => v = .pointer (some ⟨c, 0, none⟩)
  | 29 => v = .pointer (some ⟨q, 1, none⟩)
  | 30 => v = .int .u8 nm
  | 31 => v = .int .i64 x
  | 32 => v = .int .i64 e
  | 33 => v = .bool true
  | 60 => v = .pointer (some ⟨b, 0, none⟩)
  | 61 => v = .pointer (some ⟨q, 1, none⟩)
  | 62 => v = .int .u8 nm
  | 63 => v = .int .i64 e
  | 64 => v = .pointer (some ⟨c, 0, none⟩)
  | 65 => v = .pointer (some ⟨q, 1, none⟩)
  | 66 => v = .int .u8 nm
  | 67 => v = .int .i64 e
  | 68 => v = .bool true
  | _ => True
theorem VP_mono (b c q : Nat) (nm x e : Int) : ∀ s v w w', VP b c q nm x e s v w → VP b c q nm x e s v w' := fun _ _ _ _ h => h
theorem i64_min (x y : Int) (hx : (Lit.int .i64 x).wf = true) (hy : (Lit.int .i64 y).wf = true) : (Lit.int .i64 (min x y)).wf = true := by
  have h1 := wf_i64' hx
  have h2 := wf_i64' hy
  exact i64_wf (by omega)

theorem wpList_app_long {ops : Array Oper} {rest : List Oper} {o : Oper} {a : Act} {Q : Exit → Act → World → Prop} {w : World} (hgd : o.guard = none) (s x : Operand)
    (ho : o.op = .call { callee := .builtin .append, args := #[s, x], argTypes := #[31, 31] })
    (base : Nat) (u : Value) (l : ML) (nm pl : Int) (ty : TypeId) (hs : a.eval s = u) (hown : w.ownsRow base 33 2 u l.length (cellsM l))
    (g : Nat) (hgs : g = w.heap.size) (hx : a.eval x = .slice (some ⟨g, 0, none⟩) 1 1) (hlen : (l.length + 1) * 16 ≤ 140737488355328) (hbase : base ≤ w.heap.size)
    (h : ∀ v' w', w'.ownsRow base 33 2 v' (l ++ [(nm, pl)]).length (cellsM (l ++ [(nm, pl)])) → (w.alloc (.cells #[.int .u8 nm, .int .i64 pl] ty)).grownBy w' u.ownBlock → wpList Tryd.prog ops Q rest (a.put o.dst v') w') :
    wpList Tryd.prog ops Q (o :: rest) a (w.alloc (.cells #[.int .u8 nm, .int .i64 pl] ty)) := by
  subst hgs
  obtain ⟨i0, hi, hz0, hz1, hz2⟩ := info_parts infoMark
  refine wpList_append_own _ hgd s x 31 ho base 33 i0 (.agg #[.int .u8 0, .int .i64 0]) 2 16 Tryd.underlying31 hi hz0 hz1 hz2 rfl (by decide) u l.length (cellsM l) hs (hown.alloc _) ⟨w.heap.size, 0, none⟩ 1 1 [.int .u8 nm, .int .i64 pl] hx rfl (cell_two_new' _ _ _ _) (by intro u hu; simp at hu; rcases hu with rfl | rfl <;> rfl) (by unfold maxLen; omega) (by omega) (by simp; omega) ?_
  intro v' w' h1 h2 _
  refine h v' w' ?_ h2
  rw [cellsM_append]
  simpa using h1
theorem KeepR.row {w w' : World} (h : KeepR w w') {base n : Nat} {v : Value} {xs : List Value} (k : w.ownsRow base 33 2 v n xs) : w'.ownsRow base 33 2 v n xs := by
  refine ⟨k.1, ?_⟩
  rcases k.2 with h0 | ⟨g, cap, cur, rfl, hg, hh, hr⟩
  · exact .inl h0
  · exact .inr ⟨g, cap, cur, rfl, hg, h.stays hh (by decide), hr⟩
theorem capL_take (ms : ML) (k : Nat) (h : k < ms.length) : (capL ms).take (k + 1) = (capL ms).take k ++ [(ms[k].1, min ms[k].2 549755813888)] := by
  unfold capL
  rw [List.take_succ_eq_append_getElem (by simpa using h)]
  simp
theorem capL_fits {ms : ML} (h : Fits ms) : Fits (capL ms) := by
  intro x hx
  obtain ⟨y, hy, rfl⟩ := List.mem_map.1 hx
  exact ⟨(h y hy).1, i64_min _ _ (h y hy).2 (by decide)⟩
theorem far_in {ds : List Dl} (h : farF 0 ds = false) : ∀ d ∈ ds, 0 ≤ d.pos ∧ d.pos ≤ 1099511627776 := by
  intro d hd
  unfold farF at h
  rw [Bool.or_eq_false_iff, List.any_eq_false] at h
  have := h.2 d hd
  simp at this
  omega

set_option maxRecDepth 100000 in
set_option maxHeartbeats 1000000 in
theorem play_any {w0 : World} {b c : Nat} {l : ML} (o : OpV) (w : World) (hs : St w0 w b l) (hr : Rt w0 w c l) (ho : OpIs w0 o) :
    Calls Tryd.prog 33 #[.pointer (some ⟨b, 0, none⟩), .pointer (some ⟨c, 0, none⟩), .agg #[.int .u8 o.kind, .int .u8 o.nm, .int .i64 o.pos, .slice o.MA o.ms.length o.mc, .slice o.DA o.ds.length o.dc]] w fun e w' => e = .returned (.bool true) ∧ St w0 w' b (playL o l) ∧ Rt w0 w' c (playL o l) := by
  obtain ⟨kind, nm, pos, MA, oms, mc, DA, ods, dc⟩ := o
  obtain ⟨hm, hd, hfit⟩ := ho
  have HFit := Lib.hid hfit
  have HMs := Lib.hid hm
  have HDs := Lib.hid hd
  have HS := Lib.hid hs
  have HR := Lib.hid hr
  have hl1 : oms.length * 16 ≤ 140737488351232 := hfit.ml
  have hl2 : ods.length ≤ 140737488351232 := hfit.dl
  have hk0 : 0 ≤ kind := by
    have := hfit.kind
    simp only [Lit.wf, Bool.and_eq_true, decide_eq_true_eq, IntKind.min, IntKind.max, IntKind.signed, IntKind.bits] at this
    simp at this
    omega
  clear hs hr hm hd hfit
  obtain ⟨L, hL⟩ : ∃ L, playL ⟨kind, nm, pos, MA, oms, mc, DA, ods, dc⟩ l = L := ⟨_, rfl⟩
  have HL := Lib.hid hL
  rw [hL]
  clear hL
  have hq0 : (w.alloc (.cells #[.int .u8 kind, .int .u8 nm, .int .i64 pos, .slice MA oms.length mc, .slice DA ods.length dc] 55)).heap[w.heap.size]? = some (.cells #[.int .u8 kind, .int .u8 nm, .int .i64 pos, .slice MA oms.length mc, .slice DA ods.length dc] 55 (0, 0)) := World.alloc_heap_new _ _
  have HQ0 := Lib.hid hq0
  have HB0 : Hid (Below w.heap.size w (w.alloc (.cells #[.int .u8 kind, .int .u8 nm, .int .i64 pos, .slice MA oms.length mc, .slice DA ods.length dc] 55))) := (Below.refl _ _).alloc (Nat.le_refl _) _
  have HS0 := Lib.hid (HS.out.below HB0.out)
  have HR0 := Lib.hid (HR.out.below HB0.out)
  clear hq0
  rcases (by omega : kind % 7 = 0 ∨ kind % 7 = 1 ∨ kind % 7 = 2 ∨ kind % 7 = 3 ∨ kind % 7 = 4 ∨ kind % 7 = 5 ∨ kind % 7 = 6) with hq | hq | hq | hq | hq | hq | hq
  · have hL2 : putL l nm (min pos 549755813888) = L := by rw [← HL.out]; simp [playL, hq]
    have HL2 := Lib.hid hL2
    clear hL2 HL
    have hwx := i64_min pos 549755813888 HFit.out.pos (by decide)
    go_enter Tryd.func33, Tryd.ntmps33
    go_wp2
    generalize hmn : min pos 549755813888 = x at *
    generalize hbx : (w.alloc (.cells #[.int .u8 kind, .int .u8 nm, .int .i64 pos, .slice MA oms.length mc, .slice DA ods.length dc] 55)) = w1 at *
    refine wp_held_two mixed (VP b c w.heap.size nm x (putE nm x)) (VP_mono _ _ _ _ _ _) (by kernel_rfl) [23, 24, 25, 26, 27, 28, 29, 30, 31, 32, 33, 6] (by kernel_rfl) (JP w0 b c w.heap.size (.cells #[.int .u8 kind, .int .u8 nm, .int .i64 pos, .slice MA oms.length mc, .slice DA ods.length dc] 55 (0, 0)) l L) 4 9 (by decide) (by decide) (by decide) (by kernel_rfl) (by kernel_rfl) (JP.drawn (m := 0) ⟨HQ0.out, HS0.out, HR0.out⟩) ?_ ?_ ?_ ?_
    · intro j hj hjp hjq m
      have hj' : j < 12 := hj
      rcases (by omega : j = 0 ∨ j = 1 ∨ j = 2 ∨ j = 3 ∨ j = 5 ∨ j = 6 ∨ j = 7 ∨ j = 8 ∨ j = 10 ∨ j = 11) with rfl | rfl | rfl | rfl | rfl | rfl | rfl | rfl | rfl | rfl
      · -- operation 0
        (refine owesJ_val (L := [(0, false)]) rfl rfl rfl (by kernel_rfl) ?_; intro a' w' hJ hfacts; obtain ⟨hf0, -⟩ := hfacts; replace hf0 : a'.tmps[0]?.getD undef = .pointer (some ⟨b, 0, none⟩) := hf0)
        obtain ⟨r0, r1, r2, r3, r4⟩ := five_cells hJ.1
        (go_simp; first | exact ⟨_, rfl, hJ, rfl⟩ | exact ⟨_, rfl, rfl⟩)
      · -- operation 1
        (refine owesJ_val (L := [(5, false)]) rfl rfl rfl (by kernel_rfl) ?_; intro a' w' hJ hfacts; obtain ⟨hf5, -⟩ := hfacts; replace hf5 : a'.tmps[5]?.getD undef = .pointer (some ⟨w.heap.size, 0, none⟩) := hf5)
        obtain ⟨r0, r1, r2, r3, r4⟩ := five_cells hJ.1
        (go_simp; first | exact ⟨_, rfl, hJ, rfl⟩ | exact ⟨_, rfl, rfl⟩)
      · -- operation 2
        (refine owesJ_val (L := [(24, true)]) rfl rfl rfl (by kernel_rfl) ?_; intro a' w' hJ hfacts; obtain ⟨hf24, -⟩ := hfacts; try simp only [VP] at hf24)
        obtain ⟨r0, r1, r2, r3, r4⟩ := five_cells hJ.1
        (go_simp; first | exact ⟨_, rfl, hJ, rfl⟩ | exact ⟨_, rfl, rfl⟩)
      · -- operation 3
        (refine owesJ_val (L := [(7, false)]) rfl rfl rfl (by kernel_rfl) ?_; intro a' w' hJ hfacts; obtain ⟨hf7, -⟩ := hfacts; replace hf7 : a'.tmps[7]?.getD undef = .int .i64 x := hf7)
        obtain ⟨r0, r1, r2, r3, r4⟩ := five_cells hJ.1
        (go_simp; first | exact ⟨_, rfl, hJ, rfl⟩ | exact ⟨_, rfl, rfl⟩)
      · -- operation 5
        (refine owesJ_val (L := [(1, false)]) rfl rfl rfl (by kernel_rfl) ?_; intro a' w' hJ hfacts; obtain ⟨hf1, -⟩ := hfacts; replace hf1 : a'.tmps[1]?.getD undef = .pointer (some ⟨c, 0, none⟩) := hf1)
        obtain ⟨r0, r1, r2, r3, r4⟩ := five_cells hJ.1
        (go_simp; first | exact ⟨_, rfl, hJ, rfl⟩ | exact ⟨_, rfl, rfl⟩)
      · -- operation 6
        (refine owesJ_val (L := [(5, false)]) rfl rfl rfl (by kernel_rfl) ?_; intro a' w' hJ hfacts; obtain ⟨hf5, -⟩ := hfacts; replace hf5 : a'.tmps[5]?.getD undef = .pointer (some ⟨w.heap.size, 0, none⟩) := hf5)
        obtain ⟨r0, r1, r2, r3, r4⟩ := five_cells hJ.1
        (go_simp; first | exact ⟨_, rfl, hJ, rfl⟩ | exact ⟨_, rfl, rfl⟩)
      · -- operation 7
        (refine owesJ_val (L := [(29, true)]) rfl rfl rfl (by kernel_rfl) ?_; intro a' w' hJ hfacts; obtain ⟨hf29, -⟩ := hfacts; try simp only [VP] at hf29)
        obtain ⟨r0, r1, r2, r3, r4⟩ := five_cells hJ.1
        (go_simp; first | exact ⟨_, rfl, hJ, rfl⟩ | exact ⟨_, rfl, rfl⟩)
      · -- operation 8
        (refine owesJ_val (L := [(7, false)]) rfl rfl rfl (by kernel_rfl) ?_; intro a' w' hJ hfacts; obtain ⟨hf7, -⟩ := hfacts; replace hf7 : a'.tmps[7]?.getD undef = .int .i64 x := hf7)
        obtain ⟨r0, r1, r2, r3, r4⟩ := five_cells hJ.1
        (go_simp; first | exact ⟨_, rfl, hJ, rfl⟩ | exact ⟨_, rfl, rfl⟩)
      · -- operation 10
        (refine owesJ_val (L := [(27, true), (32, true)]) rfl rfl rfl (by kernel_rfl) ?_; intro a' w' hJ hfacts; obtain ⟨hf27, hf32, -⟩ := hfacts; try simp only [VP] at hf27; try simp only [VP] at hf32)
        obtain ⟨r0, r1, r2, r3, r4⟩ := five_cells hJ.1
        (go_simp; first | exact ⟨_, rfl, hJ, rfl⟩ | exact ⟨_, rfl, rfl⟩)
      · -- operation 11
        (refine owesJ_val (L := [(33, true)]) rfl rfl rfl (by kernel_rfl) ?_; intro a' w' hJ hfacts; obtain ⟨hf33, -⟩ := hfacts; try simp only [VP] at hf33)
        obtain ⟨r0, r1, r2, r3, r4⟩ := five_cells hJ.1
        (go_simp; first | exact ⟨_, rfl, hJ, rfl⟩ | exact ⟨_, rfl, rfl⟩)
    · clear hbx
      refine owesJ_val (L := [(23, true), (25, true), (26, true)]) rfl rfl rfl (by kernel_rfl) ?_
      intro a' w' hJ hfacts
      obtain ⟨hf23, hf25, hf26, -⟩ := hfacts
      try simp only [VP] at hf23
      try simp only [VP] at hf25
      try simp only [VP] at hf26
      obtain ⟨j1, j2, j3⟩ := hJ
      go_simp
      refine (j2.put nm x HFit.out.nm hwx).mono ?_
      rintro e w3 ⟨rfl, hs3, hk3⟩
      refine ⟨_, rfl, ⟨hk3.stays j1 (by decide), ?_, j3.keep hk3 hs3.since⟩, rfl⟩
      rw [← HL2.out]; exact hs3
    · clear hbx
      refine owesJ_val (L := [(28, true), (30, true), (31, true)]) rfl rfl rfl (by kernel_rfl) ?_
      intro a' w' hJ hfacts
      obtain ⟨hf28, hf30, hf31, -⟩ := hfacts
      try simp only [VP] at hf28
      try simp only [VP] at hf30
      try simp only [VP] at hf31
      obtain ⟨j1, j2, j3⟩ := hJ
      go_simp
      refine (j3.put nm x hwx).mono ?_
      rintro e w3 ⟨rfl, hr3, hk3⟩
      refine ⟨_, rfl, ⟨hk3.stays j1 (by decide) (by decide), j2.keep hk3 hr3.since, ?_⟩, rfl⟩
      rw [← HL2.out]; exact hr3
    · intro f W3 hf hJ3
      have f6 : f 6 = .bool true := hf 6 (by decide)
      have HJ3 := Lib.hid hJ3
      clear hf hJ3
      simp only [putAll, put_lit, List.map_cons, List.map_nil, List.set_cons_succ, List.set_cons_zero]
      simp only [f6]
      go_wp2
      go_ret
      exact ⟨rfl, HJ3.out.2.1, HJ3.out.2.2⟩
  · have hL2 : l = L := by rw [← HL.out]; simp [playL, hq]
    subst hL2
    clear HL
    have HG := Lib.hid (HS0.out.get nm HFit.out.nm)
    have HG' := Lib.hid (HR0.out.get nm)
    generalize getE l nm = p at *
    obtain ⟨p1, p2⟩ := p
    go_enter Tryd.func33, Tryd.ntmps33
    go_wp2_with fail
    refine HG.out.mono ?_
    rintro e w3 ⟨rfl, rfl⟩
    have hq4 := five_cells HQ0.out
    obtain ⟨-, r1, -, -, -⟩ := hq4
    go_wp2_with fail
    refine HG'.out.mono ?_
    rintro e w4 ⟨rfl, rfl⟩
    go_wp2
    go_ret
    exact ⟨rfl, HS0.out, HR0.out⟩
  · have hL2 : dropL l nm = L := by rw [← HL.out]; simp [playL, hq]
    have HL2 := Lib.hid hL2
    clear hL2 HL
    go_enter Tryd.func33, Tryd.ntmps33
    go_wp2
    generalize hbx : (w.alloc (.cells #[.int .u8 kind, .int .u8 nm, .int .i64 pos, .slice MA oms.length mc, .slice DA ods.length dc] 55)) = w1 at *
    refine wp_held_two mixed (VP b c w.heap.size nm 0 (getE l nm).2) (VP_mono _ _ _ _ _ _) (by kernel_rfl) [60, 61, 62, 63, 64, 65, 66, 67, 68, 6] (by kernel_rfl) (JP w0 b c w.heap.size (.cells #[.int .u8 kind, .int .u8 nm, .int .i64 pos, .slice MA oms.length mc, .slice DA ods.length dc] 55 (0, 0)) l L) 3 7 (by decide) (by decide) (by decide) (by kernel_rfl) (by kernel_rfl) (JP.drawn (m := 0) ⟨HQ0.out, HS0.out, HR0.out⟩) ?_ ?_ ?_ ?_
    · intro j hj hjp hjq m
      have hj' : j < 10 := hj
      rcases (by omega : j = 0 ∨ j = 1 ∨ j = 2 ∨ j = 4 ∨ j = 5 ∨ j = 6 ∨ j = 8 ∨ j = 9) with rfl | rfl | rfl | rfl | rfl | rfl | rfl | rfl
      · -- operation 0
        (refine owesJ_val (L := [(0, false)]) rfl rfl rfl (by kernel_rfl) ?_; intro a' w' hJ hfacts; obtain ⟨hf0, -⟩ := hfacts; replace hf0 : a'.tmps[0]?.getD undef = .pointer (some ⟨b, 0, none⟩) := hf0)
        obtain ⟨r0, r1, r2, r3, r4⟩ := five_cells hJ.1
        (go_simp; first | exact ⟨_, rfl, hJ, rfl⟩ | exact ⟨_, rfl, rfl⟩)
      · -- operation 1
        (refine owesJ_val (L := [(5, false)]) rfl rfl rfl (by kernel_rfl) ?_; intro a' w' hJ hfacts; obtain ⟨hf5, -⟩ := hfacts; replace hf5 : a'.tmps[5]?.getD undef = .pointer (some ⟨w.heap.size, 0, none⟩) := hf5)
        obtain ⟨r0, r1, r2, r3, r4⟩ := five_cells hJ.1
        (go_simp; first | exact ⟨_, rfl, hJ, rfl⟩ | exact ⟨_, rfl, rfl⟩)
      · -- operation 2
        (refine owesJ_val (L := [(61, true)]) rfl rfl rfl (by kernel_rfl) ?_; intro a' w' hJ hfacts; obtain ⟨hf61, -⟩ := hfacts; try simp only [VP] at hf61)
        obtain ⟨r0, r1, r2, r3, r4⟩ := five_cells hJ.1
        (go_simp; first | exact ⟨_, rfl, hJ, rfl⟩ | exact ⟨_, rfl, rfl⟩)
      · -- operation 4
        (refine owesJ_val (L := [(1, false)]) rfl rfl rfl (by kernel_rfl) ?_; intro a' w' hJ hfacts; obtain ⟨hf1, -⟩ := hfacts; replace hf1 : a'.tmps[1]?.getD undef = .pointer (some ⟨c, 0, none⟩) := hf1)
        obtain ⟨r0, r1, r2, r3, r4⟩ := five_cells hJ.1
        (go_simp; first | exact ⟨_, rfl, hJ, rfl⟩ | exact ⟨_, rfl, rfl⟩)
      · -- operation 5
        (refine owesJ_val (L := [(5, false)]) rfl rfl rfl (by kernel_rfl) ?_; intro a' w' hJ hfacts; obtain ⟨hf5, -⟩ := hfacts; replace hf5 : a'.tmps[5]?.getD undef = .pointer (some ⟨w.heap.size, 0, none⟩) := hf5)
        obtain ⟨r0, r1, r2, r3, r4⟩ := five_cells hJ.1
        (go_simp; first | exact ⟨_, rfl, hJ, rfl⟩ | exact ⟨_, rfl, rfl⟩)
      · -- operation 6
        (refine owesJ_val (L := [(65, true)]) rfl rfl rfl (by kernel_rfl) ?_; intro a' w' hJ hfacts; obtain ⟨hf65, -⟩ := hfacts; try simp only [VP] at hf65)
        obtain ⟨r0, r1, r2, r3, r4⟩ := five_cells hJ.1
        (go_simp; first | exact ⟨_, rfl, hJ, rfl⟩ | exact ⟨_, rfl, rfl⟩)
      · -- operation 8
        (refine owesJ_val (L := [(63, true), (67, true)]) rfl rfl rfl (by kernel_rfl) ?_; intro a' w' hJ hfacts; obtain ⟨hf63, hf67, -⟩ := hfacts; try simp only [VP] at hf63; try simp only [VP] at hf67)
        obtain ⟨r0, r1, r2, r3, r4⟩ := five_cells hJ.1
        (go_simp; first | exact ⟨_, rfl, hJ, rfl⟩ | exact ⟨_, rfl, rfl⟩)
      · -- operation 9
        (refine owesJ_val (L := [(68, true)]) rfl rfl rfl (by kernel_rfl) ?_; intro a' w' hJ hfacts; obtain ⟨hf68, -⟩ := hfacts; try simp only [VP] at hf68)
        obtain ⟨r0, r1, r2, r3, r4⟩ := five_cells hJ.1
        (go_simp; first | exact ⟨_, rfl, hJ, rfl⟩ | exact ⟨_, rfl, rfl⟩)
    · clear hbx
      refine owesJ_val (L := [(60, true), (62, true)]) rfl rfl rfl (by kernel_rfl) ?_
      intro a' w' hJ hfacts
      obtain ⟨hf60, hf62, -⟩ := hfacts
      try simp only [VP] at hf60
      try simp only [VP] at hf62
      obtain ⟨j1, j2, j3⟩ := hJ
      go_simp
      refine (j2.drop nm HFit.out.nm).mono ?_
      rintro e w3 ⟨rfl, hs3, hk3⟩
      refine ⟨_, rfl, ⟨hk3.stays j1 (by decide), ?_, j3.keep hk3 hs3.since⟩, rfl⟩
      rw [← HL2.out]; exact hs3
    · clear hbx
      refine owesJ_val (L := [(64, true), (66, true)]) rfl rfl rfl (by kernel_rfl) ?_
      intro a' w' hJ hfacts
      obtain ⟨hf64, hf66, -⟩ := hfacts
      try simp only [VP] at hf64
      try simp only [VP] at hf66
      obtain ⟨j1, j2, j3⟩ := hJ
      go_simp
      refine (j3.drop nm).mono ?_
      rintro e w3 ⟨rfl, hr3, hk3⟩
      refine ⟨_, rfl, ⟨hk3.stays j1 (by decide) (by decide), j2.keep hk3 hr3.since, ?_⟩, rfl⟩
      rw [← HL2.out]; exact hr3
    · intro f W3 hf hJ3
      have f6 : f 6 = .bool true := hf 6 (by decide)
      have HJ3 := Lib.hid hJ3
      clear hf hJ3
      simp only [putAll, put_lit, List.map_cons, List.map_nil, List.set_cons_succ, List.set_cons_zero]
      simp only [f6]
      go_wp2
      go_ret
      exact ⟨rfl, HJ3.out.2.1, HJ3.out.2.2⟩
  · have hL2 : loadL (capL oms) = L := by rw [← HL.out]; simp [playL, hq]
    have HL2 := Lib.hid hL2
    clear hL2 HL
    go_enter Tryd.func33, Tryd.ntmps33
    go_wp2
    generalize hbx : (w.alloc (.cells #[.int .u8 kind, .int .u8 nm, .int .i64 pos, .slice MA oms.length mc, .slice DA ods.length dc] 55)) = w1 at *
    have HM1 := Lib.hid (HMs.out.below HS0.out.since)
    have hw1 : w.heap.size < w1.heap.size := (Array.getElem?_eq_some_iff.1 HQ0.out).1
    clear hbx
    go_loopw [12, 74] (fun u i wr => ∃ k : Nat, k ≤ oms.length ∧ i = .int .i64 k ∧ wr.ownsRow w1.heap.size 33 2 u ((capL oms).take k).length (cellsM ((capL oms).take k)) ∧ Below w1.heap.size w1 wr) (fun _ i _ => oms.length - (intOf i).toNat)
    case atStart => exact ⟨0, Nat.zero_le _, rfl, World.ownsRow_nil _ _ _ _, Below.refl _ _⟩
    case round =>
      obtain ⟨k, hk, rfl, hown, hb⟩ := hrel
      have hlenT : ((capL oms).take k).length = k := by unfold capL; simp; omega
      by_cases hlt : k < oms.length
      · obtain h | ⟨ad, rfl, hA, hc⟩ := HM1.out.below hb
        · subst h; simp at hlt
        obtain ⟨d0, d1⟩ := hc k hlt
        have HT : Hid _ := capL_take oms k hlt
        have hlen2 : (((capL oms).take k).length + 1) * 16 ≤ 140737488355328 := by rw [hlenT]; omega
        have HO := Lib.hid hown
        have HB := Lib.hid hb
        have hsz := hb.size
        clear hown hb hc hlenT
        generalize (capL oms).take k = o at *
        generalize oms[k] = y at *
        obtain ⟨y1, y2⟩ := y
        go_wp2_with (at_builtin; refine wpList_app_long rfl _ _ rfl w1.heap.size _ o _ _ _ rfl (HO.out.alloc _) _ (by simp) rfl hlen2 (by simp; omega) ?_; intro v2 w3 hown3 hg3; obtain ⟨hx3, hm3, hb3⟩ := app_facts HO.out hg3 (by omega) HB.out w.heap.size hw1; have HO3 := Lib.hid hown3; have HB3 := Lib.hid hb3; clear hown3 hg3 hx3 hm3 hb3)
        go_roundw
        case rel => exact ⟨k + 1, by omega, by go_num, by rw [HT.out]; exact HO3.out, HB3.out⟩
        case measure => simp [intOf]; omega
      · have e : (capL oms).take k = capL oms := List.take_of_length_le (by unfold capL; simp; omega)
        rw [e] at hown
        obtain ⟨A2, c2, rfl⟩ := row_form hown
        have HO := Lib.hid hown
        have HB := Lib.hid hb
        have hlc : (capL oms).length ≤ 9223372036854775807 := by unfold capL; simp; omega
        clear hown hb e hlenT
        go_wp2_with fail
        refine ((HS0.out.below HB.out).load A2 (capL oms) c2 (MksAt.of_row HO.out) (.inr fun ad e _ ro hro hf => sepS HO.out hro ad.block (by rw [e]; rfl) hf) (capL_fits HFit.out.ms) hlc).mono ?_
        rintro e w5 ⟨rfl, hs5, hk5⟩
        have hrow5 := hk5.row HO.out
        obtain ⟨v, hv1, hv2, hv3⟩ := HR0.out
        have hr5 := hk5.ref (hv1.below HB.out)
        have hLd := LoadR_any c v l A2 (capL oms) c2 w5 hr5 (MksAt.of_row hrow5) (.inr fun ad e _ hf => by
          have h1 := (hrow5.lt ad.block (by rw [e]; rfl)).1
          rcases hf with hf | hf
          · have := hv1.lt; omega
          · have := hv1.rlt _ hf; omega) (capL_fits HFit.out.ms) hlc
        have HLd := Lib.hid hLd
        have HS5 := Lib.hid hs5
        have HR5 := Lib.hid hr5
        have HV2 := Lib.hid hv2
        clear hLd hs5 hr5 hk5 hrow5 hv1 hv2 hv3
        go_wp2_with fail
        refine HLd.out.mono ?_
        rintro e w6 ⟨rfl, v', hr6, hn6, hc6⟩
        have hst := Rt.step HR5.out HV2.out HS5.out.since hr6 (.inr hn6) hc6
        have HR6 := Lib.hid hst.1
        have HS6 := Lib.hid (HS5.out.keep hst.2 hst.1.since)
        clear hst hr6 hn6 hc6
        go_wp2
        go_ret
        rw [← HL2.out]
        exact ⟨rfl, HS6.out, HR6.out⟩
  · by_cases hlen : ods.length < 1000
    · have hlen' : (ods.length : Int) < 1000 := by omega
      have hFa := far_any 0 DA ods dc _ (by omega) (HDs.out.below HS0.out.since)
      have HFa := Lib.hid hFa
      clear hFa
      cases hfar : farF 0 ods with
      | true =>
        have hL2 : l = L := by rw [← HL.out]; simp [playL, hq, hfar]
        subst hL2
        have HFar := Lib.hid hfar
        clear HL hfar
        go_enter Tryd.func33, Tryd.ntmps33
        go_wp2_with fail
        refine HFa.out.mono ?_
        rintro e w3 ⟨rfl, hb3⟩
        rw [HFar.out]
        have HS3 := Lib.hid (HS0.out.below hb3)
        have HR3 := Lib.hid (HR0.out.below hb3)
        clear hb3
        go_wp2
        go_ret
        exact ⟨rfl, HS3.out, HR3.out⟩
      | false =>
        have hL2 : moveL (fun x => moved x ods) l = L := by rw [← HL.out]; simp [playL, hq, hfar, hlen]
        have HL2 := Lib.hid hL2
        have HFar := Lib.hid hfar
        have HP : Hid (∀ d ∈ ods, 0 ≤ d.pos ∧ d.pos ≤ 1099511627776 ∧ DlOk d) := fun d hd => ⟨(far_in hfar d hd).1, (far_in hfar d hd).2, HFit.out.ds d hd⟩
        clear HL hfar hL2
        go_enter Tryd.func33, Tryd.ntmps33
        go_wp2_with fail
        refine HFa.out.mono ?_
        rintro e w3 ⟨rfl, hb3⟩
        rw [HFar.out]
        have HS3 := Lib.hid (HS0.out.below hb3)
        have HR3 := Lib.hid (HR0.out.below hb3)
        have hq3 := (KeepR.below hb3).stays HQ0.out (by decide)
        have HQ3 := Lib.hid hq3
        obtain ⟨-, -, -, -, s4⟩ := five_cells hq3
        clear hb3 hq3
        go_wp2_with fail
        refine (HS3.out.move DA ods dc (by omega) HDs.out (fun d hd => (HFit.out.ds d hd).1)).mono ?_
        rintro e w4 ⟨rfl, hs4, hk4⟩
        rw [HL2.out] at hs4
        have hq4 := hk4.stays HQ3.out (by decide)
        have HS4 := Lib.hid hs4
        have HR4 := Lib.hid (HR3.out.keep hk4 hs4.since)
        obtain ⟨-, -, -, -, t4⟩ := five_cells hq4
        clear hs4 hk4 hq4
        go_wp2_with fail
        refine (HR4.out.move DA ods dc (by omega) HDs.out HP.out).mono ?_
        rintro e w5 ⟨rfl, hr5, hk5⟩
        rw [HL2.out] at hr5
        have HR5 := Lib.hid hr5
        have HS5 := Lib.hid (HS4.out.keep hk5 hr5.since)
        clear hr5 hk5
        go_wp2
        go_ret
        exact ⟨rfl, HS5.out, HR5.out⟩
    · have hL2 : l = L := by rw [← HL.out]; simp [playL, hq, hlen]
      subst hL2
      have hlen' : ¬ (ods.length : Int) < 1000 := by omega
      clear HL
      go_enter Tryd.func33, Tryd.ntmps33
      go_wp2
      go_ret
      exact ⟨rfl, HS0.out, HR0.out⟩
  · have hL2 : [] = L := by rw [← HL.out]; simp [playL, hq]
    subst hL2
    clear HL
    go_enter Tryd.func33, Tryd.ntmps33
    go_wp2_with fail
    refine HS0.out.clear.mono ?_
    rintro e w3 ⟨rfl, hs3, hk3⟩
    have HS3 := Lib.hid hs3
    have HR3 := Lib.hid (HR0.out.keep hk3 hs3.since)
    clear hs3 hk3
    go_wp2_with fail
    refine HR3.out.clear.mono ?_
    rintro e w4 ⟨rfl, hr4, hk4⟩
    have HR4 := Lib.hid hr4
    have HS4 := Lib.hid (HS3.out.keep hk4 hr4.since)
    clear hr4 hk4
    go_wp2
    go_ret
    exact ⟨rfl, HS4.out, HR4.out⟩
  · have hL2 : l = L := by rw [← HL.out]; simp [playL, hq]
    subst hL2
    clear HL
    go_enter Tryd.func33, Tryd.ntmps33
    go_wp2
    go_ret
    exact ⟨rfl, HS0.out, HR0.out⟩
end Go.Proofs.YtdkdnkmfjpdcpaaDoor.Mk
