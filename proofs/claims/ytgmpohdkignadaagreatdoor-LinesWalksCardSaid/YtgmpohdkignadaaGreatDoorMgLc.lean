/-
  What the proof of the laws L rests on: the texts LnB LnC LnE PlU PlS. Conditions: each theorem names its own.
-/
import Derived.Test.YtgmpohdkignadaaGreatDoorMgLb
import Derived.Shelf.Strings.MapAny
/-
  Package lines over whatever keeps a text: Span, Line. Condition: TextIs.
-/
namespace Go.Proofs.YtgmpohdkignadaaGreatDoor.Ut
open Go.RowKit Go.Proofs.YtgmpohdkignadaaGreatDoor.Reg
set_option linter.unusedVariables false
set_option linter.unusedSimpArgs false

theorem toList_data (s : ByteArray) : s.toList = s.data.toList := ByteArray.toList_eq s
theorem str_ne {a b : ByteArray} (h : ¬ a = b) : (a.toList == b.data.toList) = false := by
  rw [beq_eq_false_iff_ne, toList_data]
  exact fun e => h (by apply ByteArray.ext; exact Array.toList_inj.1 e)
theorem str_eq {a b : ByteArray} (h : a = b) : (a.toList == b.data.toList) = true := by
  rw [beq_iff_eq, toList_data, h]
def cr : ByteArray := ⟨#[13]⟩
/-- Where a line's newline begins, behind which the next line begins at b. -/
def cutCr (s : ByteArray) (fr t : Nat) : Nat := if fr < t ∧ s.extract (t - 1) t = cr then t - 1 else t
def spanT (s : ByteArray) (line : Nat) : Nat := if line + 1 < nlF s + 1 then cutCr s (beginF s line) (beginF s (line + 1 : Nat) - 1) else s.size
theorem cutCr_le (s : ByteArray) (fr t : Nat) : cutCr s fr t ≤ t := by unfold cutCr; split <;> omega
theorem spanT_le (s : ByteArray) (line : Nat) : spanT s line ≤ s.size := by
  unfold spanT
  split
  · have := cutCr_le s (beginF s line) (beginF s (line + 1 : Nat) - 1); have := begin_le s (line + 1 : Nat); omega
  · omega
theorem nlTo_zero (s : ByteArray) : nlTo s 0 = 0 := by rw [nlTo_list]; simp [Lib.countByte]
theorem extract_all (s : ByteArray) : s.extract 0 s.size = s := by
  apply ext_of_list; rw [extract_list]; simp only [List.drop_zero, Nat.sub_zero]; exact List.take_of_length_le (by rw [← Lib.size_eq]; exact Nat.le_refl _)
theorem nlTo_all (s : ByteArray) : nlTo s s.size = nlF s := by unfold nlTo; rw [extract_all]
/-- What is so of where a line begins. -/
theorem bFrom_spec (s : ByteArray) (line : Int) : ∀ f k, k + f = s.size → (∀ j, j < k → ¬ line ≤ (nlTo s j : Int)) → (∀ j, j < bFrom s line f k → ¬ line ≤ (nlTo s j : Int)) ∧ (bFrom s line f k < s.size → line ≤ (nlTo s (bFrom s line f k) : Int))
  | 0, k, hk, h => by unfold bFrom; exact ⟨h, fun hlt => by omega⟩
  | f + 1, k, hk, h => by
    unfold bFrom
    split
    · rename_i hl; exact ⟨h, fun _ => hl⟩
    · rename_i hl
      exact bFrom_spec s line f (k + 1) (by omega) (fun j hj => by
        by_cases e : j = k
        · subst e; exact hl
        · exact h j (by omega))
theorem begin_spec (s : ByteArray) (line : Int) : (∀ j, j < beginF s line → ¬ line ≤ (nlTo s j : Int)) ∧ (beginF s line < s.size → line ≤ (nlTo s (beginF s line) : Int)) := bFrom_spec s line _ _ (by omega) (fun j hj => by omega)
theorem begin_pos (s : ByteArray) (line : Nat) (h : line + 1 ≤ nlF s) : 0 < beginF s (line + 1 : Nat) := by
  rcases Nat.eq_zero_or_pos (beginF s (line + 1 : Nat)) with h0 | h0
  · exfalso
    have := (begin_spec s (line + 1 : Nat)).2
    rw [h0, nlTo_zero] at this
    have h2 := nlTo_le s s.size
    rw [nlTo_all] at h2
    have := this (by omega)
    omega
  · exact h0

set_option maxRecDepth 100000 in
set_option maxHeartbeats 1000000 in
theorem LnSpan_any (v : Value) (s : ByteArray) (line : Nat) (w : World) (h : TextIs w v s) (hl : line < nlF s + 1) :
    Calls Tryz.prog 18 #[v, .int .i64 line] w fun e w' => e = .returned (.tuple #[.agg #[.int .i64 (beginF s line), .int .i64 (spanT s line)], .int .i64 0]) ∧ Below w.heap.size w w' := by
  have hn := nlTo_le s s.size
  rw [nlTo_all] at hn
  have hsm := h.small
  have b1 : Below w.heap.size w (w.alloc (.cells ([.int .i64 0, .int .i64 0] : List Value).toArray 41)) := (Below.refl _ _).alloc (Nat.le_refl _) _
  have K1 := Lib.hid (Lies.new w [.int .i64 0, .int .i64 0] 41)
  have B1 := Lib.hid b1
  have H1 := Lib.hid (h.below b1)
  obtain ⟨T, hT⟩ : ∃ T, spanT s line = T := ⟨_, rfl⟩
  have HTT := Lib.hid hT
  rw [hT]
  have hc1 : ¬ (line : Int) < 0 := by omega
  have hc2 : ¬ ((nlF s : Int) + 1) ≤ (line : Int) := by omega
  clear h hT b1
  go_enter Tryz.func18, Tryz.ntmps18
  go_wp2_with fail
  change Calls _ _ _ (w.alloc (.cells ([.int .i64 0, .int .i64 0] : List Value).toArray 41)) _
  generalize (w.alloc (.cells ([.int .i64 0, .int .i64 0] : List Value).toArray 41)) = w1 at *
  refine (LnCount_any v s w1 H1.out).mono ?_
  rintro e w2 ⟨rfl, hb⟩
  have K2 := Lib.hid (K1.out.below hb)
  have B2 := Lib.hid (B1.out.trans (hb.mono B1.out.size))
  have H2 := Lib.hid (H1.out.below hb)
  clear hb K1 B1 H1
  go_wp2_with fail
  refine (begin_any v s line w2 H2.out).mono ?_
  rintro e w3 ⟨rfl, hb⟩
  have K3 := Lib.hid (K2.out.below hb)
  have B3 := Lib.hid (B2.out.trans (hb.mono B2.out.size))
  have H3 := Lib.hid (H2.out.below hb)
  clear hb K2 B2 H2
  go_wp2_with fail
  refine (H3.out.len w3 (Below.refl _ _)).mono ?_
  rintro e w4 ⟨rfl, hb⟩
  have K4 := K3.out.below hb
  have B4 := B3.out.trans (hb.mono B3.out.size)
  have H4 := H3.out.below hb
  clear hb K3 B3 H3
  have hfr := begin_le s line
  have HFr : Hid (beginF s line ≤ s.size) := hfr
  have b5 : Below w4.heap.size w4 (w4.alloc (.cells #[.int .i64 (beginF s line), .int .i64 s.size] 41)) := (Below.refl _ _).alloc (Nat.le_refl _) _
  have k5 : Lies (w4.alloc (.cells #[.int .i64 (beginF s line), .int .i64 s.size] 41)) w4.heap.size [.int .i64 (beginF s line), .int .i64 s.size] := Lies.new w4 [.int .i64 (beginF s line), .int .i64 s.size] 41
  have m5 := K4.below b5
  have g7 : w.heap.size < w4.heap.size := K4.1
  have B5 := Lib.hid (B4.trans (b5.mono B4.size))
  have H5 := Lib.hid (H4.below b5)
  have H4h := Lib.hid H4
  have b5h := Lib.hid b5
  have A4 := Lib.hid ((Lies.stored K4 [.int .i64 (beginF s line), .int .i64 s.size] rfl).below ((Below.refl _ _).alloc (Nat.le_refl _) (.cells #[.int .i64 (beginF s line), .int .i64 s.size] 41))).2
  have HB4 := chg_mine B4 (sets_chg w.heap.size [.int .i64 (beginF s line), .int .i64 s.size] 0 w4) (Nat.le_refl _)
  have HB4 := Lib.hid (HB4.alloc HB4.size (.cells #[.int .i64 (beginF s line), .int .i64 s.size] 41))
  obtain ⟨a0, i0⟩ := K4.2 0 _ rfl
  obtain ⟨a1, i1⟩ := K4.2 1 _ rfl
  clear K4 B4 H4 b5 hfr
  by_cases hlast : line + 1 < nlF s + 1
  · have hq : (line : Int) + 1 < (nlF s : Int) + 1 := by omega
    have hT : T = cutCr s (beginF s line) (beginF s (line + 1 : Nat) - 1) := by rw [← HTT.out]; unfold spanT; rw [if_pos hlast]
    have hp := begin_pos s line (by omega)
    have hble := begin_le s (line + 1 : Nat)
    have hwl : IntKind.i64.wrap ((line : Int) + 1) = (line : Int) + 1 := IntWalk.i64_in _ (by omega)
    have hcast : ∃ n' : Nat, line + 1 = n' := ⟨_, rfl⟩
    obtain ⟨n', hn'⟩ := hcast
    have hcast : ((line : Int) + 1) = (n' : Int) := by omega
    have hwn : IntKind.i64.wrap (n' : Int) = (n' : Int) := IntWalk.i64_in _ (by omega)
    rw [hn'] at hT hp hble
    rw [hcast] at hq
    clear hn'
    have K5 := Lib.hid k5
    have M5 := Lib.hid m5
    have HT2 := Lib.hid hT
    clear k5 m5 hT HTT
    go_wp2_with fail
    refine (begin_any v s n' _ H5.out).mono ?_
    rintro e w6 ⟨rfl, hb⟩
    have k6 := K5.out.below hb
    have m6 := M5.out.below hb
    have B6 := Lib.hid (B5.out.trans (hb.mono B5.out.size))
    have b6 := b5h.out.trans (hb.mono b5h.out.size)
    clear hb K5 M5 B5 H5 b5h
    obtain ⟨t, ht⟩ : ∃ t, beginF s n' = t + 1 := ⟨beginF s n' - 1, by omega⟩
    rw [ht] at hp hble HT2 ⊢
    have ht1 : t + 1 - 1 = t := rfl
    rw [ht1] at HT2
    obtain ⟨F, hF⟩ : ∃ F, beginF s line = F := ⟨_, rfl⟩
    have HF := Lib.hid hF
    rw [hF] at k6 HT2 HFr ⊢
    have hFle : F ≤ s.size := HFr.out
    clear hF ht hp HFr ht1
    have hgne : ¬ w.heap.size = w4.heap.size := by omega
    have H7 := Lib.hid (H4h.out.below (chg_mine b6 (Chg.set w6 ⟨w4.heap.size, 1, none⟩ (.int .i64 t)) (Nat.le_refl _)))
    clear b6 H4h
    generalize w4.heap.size = g at *
    have hset : Lies (w6.setCell ⟨g, 1, none⟩ (.int .i64 t)) g [.int .i64 F, .int .i64 t] := k6.set 1 (.int .i64 t)
    have mset : Lies (w6.setCell ⟨g, 1, none⟩ (.int .i64 t)) w.heap.size [.int .i64 0, .int .i64 0] := m6.chg (Chg.set w6 ⟨g, 1, none⟩ (.int .i64 t)) hgne
    have B7 := Lib.hid (chg_mine B6.out (Chg.set w6 ⟨g, 1, none⟩ (.int .i64 t)) (by show w.heap.size ≤ g; omega))
    obtain ⟨-, f1⟩ := k6.2 1 _ rfl
    obtain ⟨c1, -⟩ := k6.2 1 _ rfl
    obtain ⟨c0, -⟩ := k6.2 0 _ rfl
    have hwt : IntKind.i64.wrap (t : Int) = (t : Int) := IntWalk.i64_in _ (by omega)
    by_cases hft : F < t
    · have hft' : (F : Int) < (t : Int) := by omega
      obtain ⟨u, hu⟩ : ∃ u, t = u + 1 := ⟨t - 1, by omega⟩
      have hu1 : (t : Int) - 1 = (u : Int) := by omega
      have HU := Lib.hid hu
      clear hu
      have hwu : IntKind.i64.wrap (u : Int) = (u : Int) := IntWalk.i64_in _ (by omega)
      obtain ⟨y0, -⟩ := hset.2 0 _ rfl
      obtain ⟨y1, fy1⟩ := hset.2 1 _ rfl
      have hS := Lib.hid hset
      have mS := Lib.hid mset
      have hgl : g < (w6.setCell ⟨g, 1, none⟩ (.int .i64 t)).heap.size := hset.1
      clear hset mset k6 m6 B6
      go_wp2_with fail
      have hut := HU.out
      refine (H7.out.slice _ u t (Below.refl _ _) (by omega) (by omega)).mono ?_
      rintro e w8 ⟨rfl, hb⟩
      have B8 := Lib.hid (B7.out.trans (hb.mono B7.out.size))
      have S8 := hS.out.below hb
      have M8 := mS.out.below hb
      clear hb B7 hS mS y0 y1 fy1 H7 hgl c0 c1 f1 hut
      by_cases heq : s.extract u t = cr
      · have hT : T = u := by rw [HT2.out]; unfold cutCr; rw [if_pos ⟨hft, by rw [HU.out, Nat.add_sub_cancel, ← HU.out]; exact heq⟩, HU.out]; rfl
        subst hT
        have X8 := S8.set 1 (.int .i64 T)
        have N8 := M8.chg (Chg.set w8 ⟨g, 1, none⟩ (.int .i64 T)) hgne
        have B9 := Lib.hid (chg_mine B8.out (Chg.set w8 ⟨g, 1, none⟩ (.int .i64 T)) (by show w.heap.size ≤ g; omega))
        have L := Lib.hid (Lies.stored N8 [.int .i64 F, .int .i64 T] rfl).2
        have HB := Lib.hid (chg_mine B9.out (sets_chg w.heap.size [.int .i64 F, .int .i64 T] 0 _) (Nat.le_refl _))
        obtain ⟨c0, f0⟩ := S8.2 0 _ rfl
        obtain ⟨c1, f1⟩ := S8.2 1 _ rfl
        obtain ⟨y0, -⟩ := X8.2 0 _ rfl
        obtain ⟨y1, -⟩ := X8.2 1 _ rfl
        obtain ⟨d0, e0⟩ := M8.2 0 _ rfl
        obtain ⟨d1, e1⟩ := M8.2 1 _ rfl
        obtain ⟨p0, o0⟩ := N8.2 0 _ rfl
        obtain ⟨p1, o1⟩ := N8.2 1 _ rfl
        rw [heq]
        unfold cr
        clear S8 X8 M8 N8
        go_wp2
        have j0 := (L.out 0 _ rfl).1
        have j1 := (L.out 1 _ rfl).1
        simp only [World.setCells] at j0 j1
        refine bodyPost_ret (v := .tuple #[.agg #[.int .i64 F, .int .i64 T], .int .i64 0]) (by simp [results, Tryz.results18, go_sem, j0, j1]) rfl ⟨by rw [HF.out], HB.out⟩
      · have hT : T = t := by rw [HT2.out]; unfold cutCr; rw [if_neg (fun h => heq (by rw [HU.out, Nat.add_sub_cancel, ← HU.out] at h; exact h.2))]
        subst hT
        have hbq : ((s.extract u T).toList == [13]) = false := str_ne heq
        have L := Lib.hid (Lies.stored M8 [.int .i64 F, .int .i64 T] rfl).2
        have HB := Lib.hid (chg_mine B8.out (sets_chg w.heap.size [.int .i64 F, .int .i64 T] 0 _) (Nat.le_refl _))
        obtain ⟨c0, f0⟩ := S8.2 0 _ rfl
        obtain ⟨c1, f1⟩ := S8.2 1 _ rfl
        obtain ⟨d0, e0⟩ := M8.2 0 _ rfl
        obtain ⟨d1, e1⟩ := M8.2 1 _ rfl
        clear S8 M8
        generalize s.extract u T = piece at *
        go_wp2
        have j0 := (L.out 0 _ rfl).1
        have j1 := (L.out 1 _ rfl).1
        simp only [World.setCells] at j0 j1
        refine bodyPost_ret (v := .tuple #[.agg #[.int .i64 F, .int .i64 T], .int .i64 0]) (by simp [results, Tryz.results18, go_sem, j0, j1]) rfl ⟨by rw [HF.out], HB.out⟩
    · have hft' : ¬ (F : Int) < (t : Int) := by omega
      have hT : T = t := by rw [HT2.out]; unfold cutCr; rw [if_neg (by omega)]
      subst hT
      have L := Lib.hid (Lies.stored mset [.int .i64 F, .int .i64 T] rfl).2
      have HB := Lib.hid (chg_mine B7.out (sets_chg w.heap.size [.int .i64 F, .int .i64 T] 0 _) (Nat.le_refl _))
      have hS := Lib.hid hset
      have mS := Lib.hid mset
      obtain ⟨y0, -⟩ := hset.2 0 _ rfl
      obtain ⟨y1, -⟩ := hset.2 1 _ rfl
      obtain ⟨d0, e0⟩ := mset.2 0 _ rfl
      obtain ⟨d1, e1⟩ := mset.2 1 _ rfl
      clear hset mset k6 m6 H7 B6
      go_wp2
      have j0 := (L.out 0 _ rfl).1
      have j1 := (L.out 1 _ rfl).1
      simp only [World.setCells] at j0 j1
      refine bodyPost_ret (v := .tuple #[.agg #[.int .i64 F, .int .i64 T], .int .i64 0]) (by simp [results, Tryz.results18, go_sem, j0, j1]) rfl ⟨by rw [HF.out], HB.out⟩
  · have hq : ¬ (line : Int) + 1 < (nlF s : Int) + 1 := by omega
    have hT : T = s.size := by rw [← HTT.out]; unfold spanT; rw [if_neg hlast]
    subst hT
    obtain ⟨c0, f0⟩ := k5.2 0 _ rfl
    obtain ⟨c1, f1⟩ := k5.2 1 _ rfl
    obtain ⟨d0, e0⟩ := m5.2 0 _ rfl
    obtain ⟨d1, e1⟩ := m5.2 1 _ rfl
    clear k5 m5 HTT H5 B5 b5h
    have hwl : IntKind.i64.wrap ((line : Int) + 1) = (line : Int) + 1 := IntWalk.i64_in _ (by omega)
    go_wp2
    have j0 := (A4.out 0 _ rfl).1
    have j1 := (A4.out 1 _ rfl).1
    simp only [World.setCells] at j0 j1
    refine bodyPost_ret (v := .tuple #[.agg #[.int .i64 (beginF s line), .int .i64 s.size], .int .i64 0]) (by simp [results, Tryz.results18, go_sem, j0, j1]) rfl ⟨rfl, HB4.out⟩

set_option maxRecDepth 100000 in
set_option maxHeartbeats 1000000 in
theorem LnSpan_bad (v : Value) (s : ByteArray) (line : Int) (w : World) (h : TextIs w v s) (hl : line < 0 ∨ (nlF s : Int) + 1 ≤ line) :
    Calls Tryz.prog 18 #[v, .int .i64 line] w fun e w' => e = .returned (.tuple #[.agg #[.int .i64 0, .int .i64 0], .int .i64 1]) ∧ Below w.heap.size w w' := by
  have b1 : Below w.heap.size w (w.alloc (.cells ([.int .i64 0, .int .i64 0] : List Value).toArray 41)) := (Below.refl _ _).alloc (Nat.le_refl _) _
  have K1 := Lib.hid (Lies.new w [.int .i64 0, .int .i64 0] 41)
  have B1 := Lib.hid b1
  have H1 := Lib.hid (h.below b1)
  clear h b1
  go_enter Tryz.func18, Tryz.ntmps18
  go_wp2_with fail
  change Calls _ _ _ (w.alloc (.cells ([.int .i64 0, .int .i64 0] : List Value).toArray 41)) _
  generalize (w.alloc (.cells ([.int .i64 0, .int .i64 0] : List Value).toArray 41)) = w1 at *
  refine (LnCount_any v s w1 H1.out).mono ?_
  rintro e w2 ⟨rfl, hb⟩
  have K2 := K1.out.below hb
  have B2 := Lib.hid (B1.out.trans (hb.mono B1.out.size))
  clear hb K1 B1 H1
  have L := Lib.hid (Lies.stored K2 [.int .i64 0, .int .i64 0] rfl).2
  have HB := Lib.hid (chg_mine B2.out (sets_chg w.heap.size [.int .i64 0, .int .i64 0] 0 _) (Nat.le_refl _))
  obtain ⟨d0, e0⟩ := K2.2 0 _ rfl
  obtain ⟨d1, e1⟩ := K2.2 1 _ rfl
  clear K2 B2
  generalize nlF s = N at *
  rcases (by omega : line < 0 ∨ (¬ line < 0 ∧ (N : Int) + 1 ≤ line)) with h1 | ⟨h1, h2⟩
  all_goals
    clear hl
    go_wp2
    have j0 := (L.out 0 _ rfl).1
    have j1 := (L.out 1 _ rfl).1
    simp only [World.setCells] at j0 j1
    refine bodyPost_ret (v := .tuple #[.agg #[.int .i64 0, .int .i64 0], .int .i64 1]) (by simp [results, Tryz.results18, go_sem, j0, j1]) rfl ⟨rfl, HB.out⟩

theorem lies2 {w : World} {a b : Value} {t : TypeId} : Lies (w.alloc (.cells #[a, b] t)) w.heap.size [a, b] := Lies.new w [a, b] t

set_option maxRecDepth 100000 in
set_option maxHeartbeats 1000000 in
theorem LnLine_any (v : Value) (s : ByteArray) (line : Nat) (w : World) (h : TextIs w v s) (hl : line < nlF s + 1) (hle : beginF s line ≤ spanT s line) :
    Calls Tryz.prog 25 #[v, .int .i64 line] w fun e w' => e = .returned (.tuple #[.string (s.extract (beginF s line) (spanT s line)), .int .i64 0]) ∧ Below w.heap.size w w' := by
  have H := Lib.hid h
  have ht := spanT_le s line
  have HS := Lib.hid (LnSpan_any v s line w h hl)
  obtain ⟨F, hF⟩ : ∃ F, beginF s line = F := ⟨_, rfl⟩
  obtain ⟨T, hT⟩ : ∃ T, spanT s line = T := ⟨_, rfl⟩
  rw [hF, hT] at HS
  rw [hF, hT] at hle ⊢
  rw [hT] at ht
  clear h hF hT hl
  go_enter Tryz.func25, Tryz.ntmps25
  go_wp2_with fail
  refine HS.out.mono ?_
  rintro e w1 ⟨rfl, hb⟩
  have H1 := Lib.hid (H.out.below hb)
  have B1 := Lib.hid hb
  clear hb H HS
  have b2 : Below w1.heap.size w1 (w1.alloc (.cells #[.int .i64 F, .int .i64 T] 41)) := (Below.refl _ _).alloc (Nat.le_refl _) _
  have H2 := Lib.hid (H1.out.below b2)
  have B2 := Lib.hid (B1.out.trans (b2.mono B1.out.size))
  clear b2 H1
  go_wp2_with fail
  refine (H2.out.slice _ F T (Below.refl _ _) hle ht).mono ?_
  rintro e w3 ⟨rfl, hb⟩
  have B3 := Lib.hid (B2.out.trans (hb.mono B2.out.size))
  clear hb B2 H2
  obtain ⟨P, hP⟩ : ∃ P, s.extract F T = P := ⟨_, rfl⟩
  have HP := Lib.hid hP
  rw [hP]
  clear hP
  go_wp2
  refine bodyPost_ret (v := .tuple #[.string P, .int .i64 0]) (by simp [results, Tryz.results25, go_sem]) rfl ⟨by rw [HP.out], B3.out⟩
set_option maxRecDepth 100000 in
set_option maxHeartbeats 1000000 in
theorem LnLine_bad (v : Value) (s : ByteArray) (line : Int) (w : World) (h : TextIs w v s) (hl : line < 0 ∨ (nlF s : Int) + 1 ≤ line) :
    Calls Tryz.prog 25 #[v, .int .i64 line] w fun e w' => e = .returned (.tuple #[.string ⟨#[]⟩, .int .i64 1]) ∧ Below w.heap.size w w' := by
  have HS := Lib.hid (LnSpan_bad v s line w h hl)
  clear h hl
  go_enter Tryz.func25, Tryz.ntmps25
  go_wp2_with fail
  refine HS.out.mono ?_
  rintro e w1 ⟨rfl, hb⟩
  have B2 := Lib.hid (hb.alloc hb.size (.cells #[.int .i64 0, .int .i64 0] 41))
  clear hb HS
  go_wp2
  refine bodyPost_ret (v := .tuple #[.string ⟨#[]⟩, .int .i64 1]) (by simp [results, Tryz.results25, go_sem]) rfl ⟨rfl, B2.out⟩
end Go.Proofs.YtgmpohdkignadaaGreatDoor.Ut
/-
  Package lines over whatever keeps a text: Column, At. Conditions: TextIs; the two tables of unicode/utf8 lie as laid.
-/
namespace Go.Proofs.YtgmpohdkignadaaGreatDoor.Ut
open Go.RowKit Go.Proofs.YtgmpohdkignadaaGreatDoor.Reg
set_option linter.unusedVariables false
set_option linter.unusedSimpArgs false
attribute [local go_sem] Oper.semAt_some

theorem Lies.kept {W W' : World} {row : Option Nat} {g : Nat} {vs : List Value} (h : Lies W g vs) (hg : W.grownBy W' row) (hr : ∀ r, row = some r → ∃ o : Obj, W.heap[r]? = some o ∧ o.isCells = false) : Lies W' g vs :=
  ⟨Nat.lt_of_lt_of_le h.1 hg.size, fun j v hj => ⟨cell_kept (h.2 j v hj).1 hg hr, (frozen_kept (h.2 j v hj).1 hg hr).trans (h.2 j v hj).2⟩⟩
theorem lies_own (g : Nat) (vs : List Value) {β : Type} (B : Nat) : OwnFrom B (fun (_ : β) W => Lies W g vs) := fun _ _ _ _ hs hg hr => hs.kept hg (fun r e => (hr r e).2)

/-- The clusters of own that end at lim or ahead of it. -/
def uptoC (own : ByteArray) (lim : Int) : List Nat := (clAts own 0).takeWhile fun x => decide ((clN own x : Int) ≤ lim)
theorem takeWhile_all {α : Type} (p : α → Bool) : ∀ (l : List α), (∀ x ∈ l, p x = true) → l.takeWhile p = l
  | [], _ => rfl
  | x :: r, h => by rw [List.takeWhile_cons, if_pos (h x (by simp)), takeWhile_all p r (fun y hy => h y (by simp [hy]))]
theorem takeWhile_stop {α : Type} (p : α → Bool) (pre : List α) (x : α) (hx : p x = false) : ∀ (l : List α), pre ++ [x] <+: l → (∀ y ∈ pre, p y = true) → l.takeWhile p = pre := by
  induction pre with
  | nil =>
    intro l hl _
    obtain ⟨t, rfl⟩ := hl
    simp [hx]
  | cons y r ih =>
    intro l hl hp
    obtain ⟨t, rfl⟩ := hl
    have := ih (r ++ [x] ++ t) ⟨t, rfl⟩ (fun z hz => hp z (by simp [hz]))
    simp only [List.cons_append]
    rw [List.takeWhile_cons, if_pos (hp y (by simp))]
    simpa using this

/-- One box more. -/
theorem box_new {W : World} {v : Value} {t : TypeId} : Boxed (W.alloc (.cells #[v] t)) W.heap.size t v := Boxed.new W t v
theorem boxed_lies {W : World} {g : Nat} {t : TypeId} {v : Value} (h : Boxed W g t v) : Lies W g [v] := by
  refine ⟨h.lt, fun j u hj => ?_⟩
  cases j with
  | zero => simp at hj; subst hj; exact ⟨h.cell, h.frozen⟩
  | succ j => simp at hj
theorem boxed_below {W W' : World} {g : Nat} {t : TypeId} {v : Value} (h : Boxed W g t v) (hb : Below W.heap.size W W') : Boxed W' g t v := (hb.block g h.lt).trans h

set_option maxRecDepth 100000 in
set_option maxHeartbeats 2000000 in
theorem LnColumn_any (v : Value) (s : ByteArray) (i : Nat) (w : World) (h : TextIs w v s) (hT : Tabs w) (hi : i ≤ s.size) (hle : beginF s (nlTo s i : Nat) ≤ spanT s (nlTo s i)) :
    Calls Tryz.prog 13 #[v, .int .i64 i] w fun e w' => e = .returned (.tuple #[.int .i64 (sumW (s.extract (beginF s (nlTo s i : Nat)) (spanT s (nlTo s i))) (uptoC (s.extract (beginF s (nlTo s i : Nat)) (spanT s (nlTo s i))) ((i : Int) - beginF s (nlTo s i : Nat)))), .int .i64 0]) ∧ Below w.heap.size w w' := by
  have hN : nlTo s i < nlF s + 1 := by have := nlTo_mono s hi; rw [nlTo_all] at this; omega
  have hsm := h.small
  have HTb := Lib.hid hT
  have ht := spanT_le s (nlTo s i)
  have b1 : Below w.heap.size w (w.alloc (.cells #[.int .i64 i] 3)) := (Below.refl _ _).alloc (Nat.le_refl _) _
  have H1 := Lib.hid (h.below b1)
  have X1 : Boxed (w.alloc (.cells #[.int .i64 i] 3)) w.heap.size 3 (.int .i64 i) := Boxed.new _ _ _
  have HX1 := Lib.hid X1
  have B1 := Lib.hid b1
  have HO := Lib.hid (LnOf_any v s i _ H1.out hi)
  obtain ⟨N, hNN⟩ : ∃ N, nlTo s i = N := ⟨_, rfl⟩
  rw [hNN] at hN ht hle HO ⊢
  obtain ⟨F, hF⟩ : ∃ F, beginF s (N : Nat) = F := ⟨_, rfl⟩
  obtain ⟨T, hTT⟩ : ∃ T, spanT s N = T := ⟨_, rfl⟩
  have HS := fun w' (h : TextIs w' v s) => LnSpan_any v s N w' h hN
  rw [hF, hTT] at hle ⊢
  rw [hF, hTT] at HS
  rw [hTT] at ht
  have HSp := Lib.hid HS
  have hFs : F ≤ s.size := Nat.le_trans hle ht
  have hown : (s.extract F T).size ≤ 140737488355328 := by simp [ByteArray.size_extract]; omega
  have hown2 : (s.extract F T).size = T - F := by simp [ByteArray.size_extract]; omega
  clear X1 b1 h hT hF hTT hNN HS hN
  refine (callsIn_wide (n := 3)).1 ?_
  refine callsIn_of_wp_marks Tryz.func13 rfl trivial ?_ rfl
  simp only [Tryz.ntmps13, List.size_toArray, List.length_cons, List.length_nil, Nat.reduceAdd, Nat.reduceSub, Array.replicate_succ, Array.replicate_zero, List.push_toArray, List.append_toArray, List.nil_append, List.cons_append]
  gi_wp2_with fail
  refine ⟨trivial, (callsIn_wide.2 HO.out).mono ?_⟩
  rintro e w2 ⟨rfl, hb⟩
  have H2 := Lib.hid (H1.out.below hb)
  have X2 := Lib.hid (boxed_below HX1.out hb)
  have B2 := Lib.hid (B1.out.trans (hb.mono B1.out.size))
  clear hb H1 HX1 B1 HO
  gi_wp2_with fail
  refine ⟨trivial, (callsIn_wide.2 (HSp.out w2 H2.out)).mono ?_⟩
  rintro e w3 ⟨rfl, hb⟩
  have H3 := H2.out.below hb
  have X3 := boxed_below X2.out hb
  have B3 := B2.out.trans (hb.mono B2.out.size)
  clear hb H2 X2 B2 HSp
  have b4 : Below w3.heap.size w3 ((w3.alloc (.cells #[.int .i64 F, .int .i64 T] 41)).alloc (.cells #[.int .i64 0] 3)) := ((Below.refl _ _).alloc (Nat.le_refl _) _).alloc (by simp) _
  have S4 : Lies ((w3.alloc (.cells #[.int .i64 F, .int .i64 T] 41)).alloc (.cells #[.int .i64 0] 3)) w3.heap.size [.int .i64 F, .int .i64 T] := lies2.below ((Below.refl _ _).alloc (Nat.le_refl _) _)
  have N4 : Boxed ((w3.alloc (.cells #[.int .i64 F, .int .i64 T] 41)).alloc (.cells #[.int .i64 0] 3)) (w3.heap.size + 1) 3 (.int .i64 0) := by
    have := Boxed.new (w3.alloc (.cells #[.int .i64 F, .int .i64 T] 41)) 3 (.int .i64 0)
    rwa [World.size_alloc] at this
  have H4 := Lib.hid (H3.below b4)
  have X4 := Lib.hid (boxed_below X3 b4)
  have B4 := Lib.hid (B3.trans (b4.mono B3.size))
  have l3 : w.heap.size < w3.heap.size := X3.lt
  have S4h := Lib.hid S4
  have N4h := Lib.hid N4
  clear S4 N4 H3 X3 B3 b4
  gi_wp2_with fail
  generalize (w3.alloc (.cells #[.int .i64 F, .int .i64 T] 41)).alloc (.cells #[.int .i64 0] 3) = w4 at *
  generalize w3.heap.size = g at *
  refine ⟨trivial, (callsIn_wide.2 (H4.out.slice w4 F T (Below.refl _ _) hle ht)).mono ?_⟩
  rintro e w5 ⟨rfl, hb⟩
  obtain ⟨O, hO⟩ : ∃ O, s.extract F T = O := ⟨_, rfl⟩
  rw [hO] at hown hown2 ⊢
  have HOO := Lib.hid hO
  have X5 := boxed_below X4.out hb
  have S5 := S4h.out.below hb
  have N5 := boxed_below N4h.out hb
  have B5 := B4.out.trans (hb.mono B4.out.size)
  clear hb X4 S4h N4h B4 H4 hO
  gi_wp2_with fail
  refine ⟨trivial, (callsIn_wide.2 (Walk_any O _)).mono ?_⟩
  rintro e w6 ⟨rfl, rfl⟩
  have b6 : Below w5.heap.size w5 (w5.alloc (.cells #[.string O] 9)) := (Below.refl _ _).alloc (Nat.le_refl _) _
  have s6 : (w5.alloc (.cells #[.string O] 9)).heap.size = w5.heap.size + 1 := by simp
  have Z6 := Boxed.new w5 9 (.string O)
  have X6 := boxed_below X5 b6
  have S6 := S5.below b6
  have N6 := boxed_below N5 b6
  have B6 := B5.trans (b6.mono B5.size)
  have hgl : g + 1 < w5.heap.size := N5.lt
  gi_wp2_with fail
  generalize w5.alloc (.cells #[.string O] 9) = w6 at *
  generalize w5.heap.size = bx at *
  clear X5 S5 N5 b6
  refine wpIn_rangeFunc_ownH rfl (by omega) (gf := 54) (lb := #[.pointer (some ⟨bx, 0, none⟩)]) rfl trivial (enters_of Tryz.func54 (by kernel_rfl) rfl)
    (walk_stops _ (by omega) bx O hown w _ HTb.out B6 Z6.cell) Kp2.trans (kp2_b (by omega) (by omega)) (Below.refl _ _) (fun _ => rfl)
    (fun pre W => (Boxed W (g + 1) 3 (.int .i64 (sumW O pre)) ∧ Boxed W w.heap.size 3 (.int .i64 i)) ∧ Lies W g [.int .i64 F, .int .i64 T] ∧ (Below w.heap.size w W ∧ bx < W.heap.size) ∧ ∀ x ∈ pre, ((F : Int) + clN O x ≤ i))
    (fun c pre W => (c = .exit 0 ∧ ∃ p x, pre = p ++ [x] ∧ (∀ y ∈ p, ((F : Int) + clN O y ≤ i)) ∧ ¬ ((F : Int) + clN O x ≤ i) ∧ Boxed W (g + 1) 3 (.int .i64 (sumW O p))) ∧ Below w.heap.size w W)
    ?hI ?hIx ?h0
    (fun x a' W => ∃ q, bx < q ∧ Four W q (.int .i64 x) (.int .i64 (clN O x)) (.int .i64 (clC O x)) (.int .i64 (clW O x)) ∧
      a' = { tmps := #[v, .int .i64 i, undef, .pointer (some ⟨w.heap.size, 0, none⟩), .int .i64 0, .int .i64 0, .int .i64 N, .int .i64 0, .pointer (some ⟨g, 0, none⟩), .int .i64 0, .pointer (some ⟨g + 1, 0, none⟩), .pointer (some ⟨q, 0, none⟩), .tuple #[.int .i64 N, .int .i64 0], v, .int .i64 i, .tuple #[.int .i64 N, .int .i64 0], .int .i64 N, .int .i64 0, .int .i64 0, .bool false, undef, .tuple #[.agg #[.int .i64 F, .int .i64 T], .int .i64 0], v, .int .i64 N, .tuple #[.agg #[.int .i64 F, .int .i64 T], .int .i64 0], .agg #[.int .i64 F, .int .i64 T], .int .i64 0, v, .pointer (some ⟨g, 0, none⟩), .int .i64 F, .pointer (some ⟨g, 1, none⟩), .int .i64 T, .string O, .func (.func 54) #[] #[.pointer (some ⟨bx, 0, none⟩)], mkCl O x (clN O x), undef, undef, undef, undef, undef, undef, undef, undef, undef, undef, undef, undef], defers := [] })
    (fun x a' _ W W' row hs hg hr => by obtain ⟨q, hgl, hF, he⟩ := hs; exact ⟨q, hgl, hF.kept hg (fun r e => (hr r e).2), he⟩) ?assign ?body ?done ?stop
  case hI => exact OwnFrom.and (OwnFrom.and (Own.from (boxed_own _ _ _) _) (Own.from (boxed_own _ _ (fun _ => .int .i64 i)) _)) (OwnFrom.and (lies_own _ _ _) (OwnFrom.and (OwnFrom.and (ownFrom_below (Nat.le_refl _) (by omega)) (ownFrom_size _ (bx + 1))) (ownFrom_pure _ _)))
  case hIx =>
    rintro c pre W W' row ⟨⟨rfl, p, x, h1, h2, h3, h4⟩, hB⟩ hg hr
    exact ⟨⟨rfl, p, x, h1, h2, h3, Own.from (boxed_own (β := Unit) (g + 1) 3 (fun _ => .int .i64 (sumW O p))) _ () W W' row h4 hg hr⟩, ownFrom_below (β := Unit) (Nat.le_refl _) (by omega) () W W' row hB hg hr⟩
  case h0 => exact ⟨⟨N6, X6⟩, S6, ⟨B6, by omega⟩, by simp⟩
  case assign =>
    rintro l pre x W K ⟨⟨hv, hx⟩, hS, ⟨hB, hBs⟩, hpre⟩ hK
    have hm : mkCl O x (clN O x) = .agg #[.int .i64 x, .int .i64 (clN O x), .int .i64 (clC O x), .int .i64 (clW O x)] := rfl
    rw [hm] at hK ⊢
    gi_wp2
    have b7 : Below W.heap.size W (W.alloc (.cells #[.int .i64 x, .int .i64 (clN O x), .int .i64 (clC O x), .int .i64 (clW O x)] 85)) := (Below.refl _ _).alloc (Nat.le_refl _) _
    refine hK _ _ ((KeepsOthers.alloc _ _).from _) (Kp2.of_below b7 hB.size hBs) ⟨⟨boxed_below hv b7, boxed_below hx b7⟩, hS.below b7, ⟨hB.trans (b7.mono hB.size), Nat.lt_of_lt_of_le hBs b7.size⟩, hpre⟩ ⟨W.heap.size, hBs, Four.new _ _ _ _ _ _, ?_⟩
    simp
  case body =>
    rintro l pre x a' W hl hr ⟨⟨hv, hx⟩, hS, ⟨hB, hBs⟩, hpre⟩ ⟨q, hql, hF, rfl⟩ hlt
    have hc := hv.cell
    have hf := hv.frozen
    have hxc := hx.cell
    have h1 := hF.c1
    have h3 := hF.c3
    obtain ⟨y0, -⟩ := hS.2 0 _ rfl
    have b1 := sumW_bounds O pre
    have b2 := clW_bounds O x
    have hpl : pre.length ≤ O.size := by have := clAts_length O 0; omega
    have hcl := clN_le O x
    have e1 := sumW_snoc O pre x
    have HB := Lib.hid hB
    have HPre := Lib.hid hpre
    have HS := Lib.hid hS
    have HX := Lib.hid hx
    have HV := Lib.hid hv
    have E1 := Lib.hid e1
    obtain ⟨C, hC⟩ : ∃ C, clN O x = C := ⟨_, rfl⟩
    have HC := Lib.hid hC
    rw [hC] at h1 hcl
    have hw1 : IntKind.i64.wrap ((F : Int) + (C : Int)) = (F : Int) + (C : Int) := IntWalk.i64_in _ (by omega)
    generalize mkCl O x (clN O x) = mv at *
    have hw2 : IntKind.i64.wrap (sumW O pre + clW O x) = sumW O pre + clW O x := IntWalk.i64_in _ (by omega)
    clear hB hF hr hlt hS hv hx hpre e1 hC
    by_cases hgo : (F : Int) + (C : Int) ≤ (i : Int)
    · have hgo' : ¬ (i : Int) < (F : Int) + (C : Int) := by omega
      gi_wp2
      refine ⟨(KeepsOthers.setCell _ _ _).from _, ?_, ⟨?_, ?_⟩, ?_, ⟨?_, ?_⟩, ?_⟩
      · exact ⟨(Chg.set W _ _).size, fun k hk => Below.heap_setCell W _ _ k (by show k ≠ g + 1; omega)⟩
      · rw [E1.out]; exact HV.out.set _
      · exact HX.out.other (by omega) _
      · exact HS.out.chg (Chg.set W ⟨g + 1, 0, none⟩ _) (by show ¬ g = g + 1; omega)
      · exact chg_mine HB.out (Chg.set W ⟨g + 1, 0, none⟩ _) (by show w.heap.size ≤ g + 1; omega)
      · exact Nat.lt_of_lt_of_le hBs (Chg.set W _ _).size
      · intro y hy
        rcases List.mem_append.1 hy with h | h
        · exact HPre.out y h
        · obtain rfl : y = x := by simpa using h
          rw [HC.out]; exact hgo
    · have hgo' : (i : Int) < (F : Int) + (C : Int) := by omega
      gi_wp2
      exact ⟨KeepsFrom.refl _ _, ⟨rfl, pre, x, rfl, HPre.out, by rw [HC.out]; exact hgo, HV.out⟩, HB.out⟩
  case done =>
    rintro D xs W hD rfl ⟨⟨hv, hx⟩, hS, ⟨hB, hBs⟩, hpre⟩ hK
    have hc := hv.cell
    gi_wp2
    refine ⟨by simp, .inl ⟨_, _, rfl, run_takeDeferred hK, ?_⟩⟩
    refine ⟨.tuple #[.int .i64 (sumW O (clAts O 0)), .int .i64 0], by simp [results, Tryz.results13, go_sem], ?_, hB.trans (belowK_b (w := w) (Nat.le_refl _) W D _ _ (by omega) hK rfl rfl)⟩
    have e : uptoC O ((i : Int) - F) = clAts O 0 := takeWhile_all _ _ (fun x hx => by have := hpre x hx; simp; omega)
    rw [HOO.out, e]
  case stop =>
    rintro D c pre W hD hpx ⟨⟨rfl, p, x, rfl, h2, h3, h4⟩, hB⟩ hK
    have hc := h4.cell
    gi_wp2
    refine ⟨by simp, .inl ⟨_, _, rfl, run_takeDeferred hK, ?_⟩⟩
    refine ⟨.tuple #[.int .i64 (sumW O p), .int .i64 0], by simp [results, Tryz.results13, go_sem], ?_, hB.trans (belowK_b (w := w) (Nat.le_refl _) W D _ _ (by omega) hK rfl rfl)⟩
    have e : uptoC O ((i : Int) - F) = p := takeWhile_stop _ p x (by simp; omega) _ hpx (fun y hy => by have := h2 y hy; simp; omega)
    rw [HOO.out, e]

/-- The clusters that fit into col cells, n being taken already. -/
def takeW (O : ByteArray) (col : Int) : Int → List Nat → List Nat
  | _, [] => []
  | n, x :: r => if n + clW O x ≤ col then x :: takeW O col (n + clW O x) r else []
def atEnd (O : ByteArray) (F : Int) (p : List Nat) : Int := match p.getLast? with | none => F | some x => F + clN O x
theorem sumW_cons (O : ByteArray) (x : Nat) (r : List Nat) : sumW O (x :: r) = clW O x + sumW O r := by simp [sumW]
theorem takeW_all (O : ByteArray) (col : Int) : ∀ (l : List Nat) (n : Int), (l = [] ∨ n + sumW O l ≤ col) → takeW O col n l = l
  | [], _, _ => rfl
  | x :: r, n, h => by
    have h1 : n + sumW O (x :: r) ≤ col := by rcases h with h | h; cases h; exact h
    rw [sumW_cons] at h1
    have h2 := (sumW_bounds O r).1
    unfold takeW
    rw [if_pos (by omega), takeW_all O col r _ (.inr (by omega))]
theorem takeW_stop (O : ByteArray) (col : Int) (x : Nat) : ∀ (p l : List Nat) (n : Int), p ++ [x] <+: l → (p = [] ∨ n + sumW O p ≤ col) → ¬ n + (sumW O p + clW O x) ≤ col → takeW O col n l = p
  | [], l, n, hl, _, hx => by
    obtain ⟨t, rfl⟩ := hl
    simp only [List.nil_append, List.cons_append]
    unfold takeW
    rw [if_neg (by simp [sumW] at hx; omega)]
  | y :: r, l, n, hl, hp, hx => by
    obtain ⟨t, rfl⟩ := hl
    have h1 : n + sumW O (y :: r) ≤ col := by rcases hp with h | h; cases h; exact h
    rw [sumW_cons] at h1 hx
    have h2 := (sumW_bounds O r).1
    simp only [List.cons_append, List.append_assoc]
    unfold takeW
    rw [if_pos (by omega)]
    have := takeW_stop O col x r (r ++ [x] ++ t) (n + clW O y) ⟨t, rfl⟩ (.inr (by omega)) (by omega)
    rw [List.append_assoc] at this
    simp only [List.cons_append, List.nil_append] at this ⊢
    rw [this]

theorem three_boxes (w : World) (cs : List Value) (s t u : TypeId) (a b : Value) : Lies (((w.alloc (.cells cs.toArray s)).alloc (.cells #[a] t)).alloc (.cells #[b] u)) w.heap.size cs ∧ Boxed (((w.alloc (.cells cs.toArray s)).alloc (.cells #[a] t)).alloc (.cells #[b] u)) (w.heap.size + 1) t a ∧ Boxed (((w.alloc (.cells cs.toArray s)).alloc (.cells #[a] t)).alloc (.cells #[b] u)) (w.heap.size + 1 + 1) u b := by
  refine ⟨((Lies.new w cs s).below ((Below.refl _ _).alloc (Nat.le_refl _) _)).below ((Below.refl _ _).alloc (Nat.le_refl _) _), ?_, ?_⟩
  · have := (Boxed.new (w.alloc (.cells cs.toArray s)) t a).alloc (.cells #[b] u)
    rwa [World.size_alloc] at this
  · have := Boxed.new ((w.alloc (.cells cs.toArray s)).alloc (.cells #[a] t)) u b
    rwa [World.size_alloc, World.size_alloc] at this

set_option maxRecDepth 100000 in
set_option maxHeartbeats 2000000 in
theorem LnAt_any (v : Value) (s : ByteArray) (N : Nat) (col : Int) (w : World) (h : TextIs w v s) (hT : Tabs w) (hN : N < nlF s + 1) (hle : beginF s (N : Nat) ≤ spanT s N) :
    Calls Tryz.prog 15 #[v, .int .i64 N, .int .i64 col] w fun e w' => e = .returned (.tuple #[.int .i64 (atEnd (s.extract (beginF s (N : Nat)) (spanT s N)) (beginF s (N : Nat)) (takeW (s.extract (beginF s (N : Nat)) (spanT s N)) col 0 (clAts (s.extract (beginF s (N : Nat)) (spanT s N)) 0))), .int .i64 0]) ∧ Below w.heap.size w w' := by
  have hsm := h.small
  have HTb := Lib.hid hT
  have ht := spanT_le s N
  have b1 : Below w.heap.size w (w.alloc (.cells #[.int .i64 col] 3)) := (Below.refl _ _).alloc (Nat.le_refl _) _
  have H1 := Lib.hid (h.below b1)
  have X1 : Boxed (w.alloc (.cells #[.int .i64 col] 3)) w.heap.size 3 (.int .i64 col) := Boxed.new _ _ _
  have HX1 := Lib.hid X1
  have B1 := Lib.hid b1
  obtain ⟨F, hF⟩ : ∃ F, beginF s (N : Nat) = F := ⟨_, rfl⟩
  obtain ⟨T, hTT⟩ : ∃ T, spanT s N = T := ⟨_, rfl⟩
  have HS := fun w' (h : TextIs w' v s) => LnSpan_any v s N w' h hN
  rw [hF, hTT] at hle ⊢
  rw [hF, hTT] at HS
  rw [hTT] at ht
  have HSp := Lib.hid HS
  have hFs : F ≤ s.size := Nat.le_trans hle ht
  have hown : (s.extract F T).size ≤ 140737488355328 := by simp [ByteArray.size_extract]; omega
  have hown2 : (s.extract F T).size = T - F := by simp [ByteArray.size_extract]; omega
  clear X1 b1 h hT hF hTT HS hN
  refine (callsIn_wide (n := 3)).1 ?_
  refine callsIn_of_wp_marks Tryz.func15 rfl trivial ?_ rfl
  simp only [Tryz.ntmps15, List.size_toArray, List.length_cons, List.length_nil, Nat.reduceAdd, Nat.reduceSub, Array.replicate_succ, Array.replicate_zero, List.push_toArray, List.append_toArray, List.nil_append, List.cons_append]
  gi_wp2_with fail
  refine ⟨trivial, (callsIn_wide.2 (HSp.out _ H1.out)).mono ?_⟩
  rintro e w3 ⟨rfl, hb⟩
  have H3 := H1.out.below hb
  have X3 := boxed_below HX1.out hb
  have B3 := B1.out.trans (hb.mono B1.out.size)
  clear hb H1 HX1 B1 HSp
  obtain ⟨S4, A4, N4⟩ := three_boxes w3 [.int .i64 F, .int .i64 T] 41 3 3 (.int .i64 F) (.int .i64 0)
  have b4 : Below w3.heap.size w3 (((w3.alloc (.cells #[.int .i64 F, .int .i64 T] 41)).alloc (.cells #[.int .i64 F] 3)).alloc (.cells #[.int .i64 0] 3)) := (((Below.refl _ _).alloc (Nat.le_refl _) _).alloc (by simp) _).alloc (by simp; omega) _
  have H4 := Lib.hid (H3.below b4)
  have X4 := Lib.hid (boxed_below X3 b4)
  have B4 := Lib.hid (B3.trans (b4.mono B3.size))
  have l3 : w.heap.size < w3.heap.size := X3.lt
  have S4h := Lib.hid S4
  have N4h := Lib.hid N4
  have A4h := Lib.hid A4
  clear S4 N4 A4 H3 X3 B3 b4
  gi_wp2_with fail
  generalize (((w3.alloc (.cells #[.int .i64 F, .int .i64 T] 41)).alloc (.cells #[.int .i64 F] 3)).alloc (.cells #[.int .i64 0] 3)) = w4 at *
  generalize w3.heap.size = g at *
  refine ⟨trivial, (callsIn_wide.2 (H4.out.slice w4 F T (Below.refl _ _) hle ht)).mono ?_⟩
  rintro e w5 ⟨rfl, hb⟩
  obtain ⟨O, hO⟩ : ∃ O, s.extract F T = O := ⟨_, rfl⟩
  rw [hO] at hown hown2 ⊢
  have HOO := Lib.hid hO
  have X5 := boxed_below X4.out hb
  have S5 := S4h.out.below hb
  have N5 := boxed_below N4h.out hb
  have A5 := boxed_below A4h.out hb
  have B5 := B4.out.trans (hb.mono B4.out.size)
  clear hb X4 S4h N4h A4h B4 H4 hO
  gi_wp2_with fail
  refine ⟨trivial, (callsIn_wide.2 (Walk_any O _)).mono ?_⟩
  rintro e w6 ⟨rfl, rfl⟩
  have b6 : Below w5.heap.size w5 (w5.alloc (.cells #[.string O] 9)) := (Below.refl _ _).alloc (Nat.le_refl _) _
  have s6 : (w5.alloc (.cells #[.string O] 9)).heap.size = w5.heap.size + 1 := by simp
  have Z6 := Boxed.new w5 9 (.string O)
  have X6 := boxed_below X5 b6
  have S6 := S5.below b6
  have N6 := boxed_below N5 b6
  have A6 := boxed_below A5 b6
  have B6 := B5.trans (b6.mono B5.size)
  have hgl : g + 1 + 1 < w5.heap.size := N5.lt
  gi_wp2_with fail
  generalize w5.alloc (.cells #[.string O] 9) = w6 at *
  generalize w5.heap.size = bx at *
  clear X5 S5 N5 A5 b6
  refine wpIn_rangeFunc_ownH rfl (by omega) (gf := 54) (lb := #[.pointer (some ⟨bx, 0, none⟩)]) rfl trivial (enters_of Tryz.func54 (by kernel_rfl) rfl)
    (walk_stops _ (by omega) bx O hown w _ HTb.out B6 Z6.cell) Kp2.trans (kp2_b (by omega) (by omega)) (Below.refl _ _) (fun _ => rfl)
    (fun pre W => ((Boxed W (g + 1 + 1) 3 (.int .i64 (sumW O pre)) ∧ Boxed W (g + 1) 3 (.int .i64 (atEnd O F pre))) ∧ Boxed W w.heap.size 3 (.int .i64 col)) ∧ Lies W g [.int .i64 F, .int .i64 T] ∧ (Below w.heap.size w W ∧ bx < W.heap.size) ∧ (pre = [] ∨ 0 + sumW O pre ≤ col))
    (fun c pre W => (c = .exit 0 ∧ ∃ p x, pre = p ++ [x] ∧ (p = [] ∨ 0 + sumW O p ≤ col) ∧ ¬ 0 + (sumW O p + clW O x) ≤ col ∧ Boxed W (g + 1) 3 (.int .i64 (atEnd O F p))) ∧ Below w.heap.size w W)
    ?hI ?hIx ?h0
    (fun x a' W => ∃ q, bx < q ∧ Four W q (.int .i64 x) (.int .i64 (clN O x)) (.int .i64 (clC O x)) (.int .i64 (clW O x)) ∧
      a' = { tmps := #[v, .int .i64 N, .int .i64 col, undef, undef, .pointer (some ⟨w.heap.size, 0, none⟩), .int .i64 0, .int .i64 0, .pointer (some ⟨g, 0, none⟩), .int .i64 0, .pointer (some ⟨g + 1, 0, none⟩), .pointer (some ⟨g + 1 + 1, 0, none⟩), .pointer (some ⟨q, 0, none⟩), .tuple #[.agg #[.int .i64 F, .int .i64 T], .int .i64 0], v, .int .i64 N, .tuple #[.agg #[.int .i64 F, .int .i64 T], .int .i64 0], .agg #[.int .i64 F, .int .i64 T], .int .i64 0, .int .i64 0, .bool false, undef, .pointer (some ⟨g, 0, none⟩), .int .i64 F, v, .pointer (some ⟨g, 0, none⟩), .int .i64 F, .pointer (some ⟨g, 1, none⟩), .int .i64 T, .string O, .func (.func 54) #[] #[.pointer (some ⟨bx, 0, none⟩)], mkCl O x (clN O x), undef, undef, undef, undef, undef, undef, undef, undef, undef, undef, undef, undef, undef], defers := [] })
    (fun x a' _ W W' row hs hg hr => by obtain ⟨q, hgl, hF, he⟩ := hs; exact ⟨q, hgl, hF.kept hg (fun r e => (hr r e).2), he⟩) ?assign ?body ?done ?stop
  case hI => exact OwnFrom.and (OwnFrom.and (OwnFrom.and (Own.from (boxed_own _ _ _) _) (Own.from (boxed_own _ _ _) _)) (Own.from (boxed_own _ _ (fun _ => .int .i64 col)) _)) (OwnFrom.and (lies_own _ _ _) (OwnFrom.and (OwnFrom.and (ownFrom_below (Nat.le_refl _) (by omega)) (ownFrom_size _ (bx + 1))) (ownFrom_pure _ _)))
  case hIx =>
    rintro c pre W W' row ⟨⟨rfl, p, x, h1, h2, h3, h4⟩, hB⟩ hg hr
    exact ⟨⟨rfl, p, x, h1, h2, h3, Own.from (boxed_own (β := Unit) (g + 1) 3 (fun _ => .int .i64 (atEnd O F p))) _ () W W' row h4 hg hr⟩, ownFrom_below (β := Unit) (Nat.le_refl _) (by omega) () W W' row hB hg hr⟩
  case h0 => exact ⟨⟨⟨N6, A6⟩, X6⟩, S6, ⟨B6, by omega⟩, .inl rfl⟩
  case assign =>
    rintro l pre x W K ⟨⟨⟨hv, ha⟩, hx⟩, hS, ⟨hB, hBs⟩, hpre⟩ hK
    have hm : mkCl O x (clN O x) = .agg #[.int .i64 x, .int .i64 (clN O x), .int .i64 (clC O x), .int .i64 (clW O x)] := rfl
    rw [hm] at hK ⊢
    gi_wp2
    have b7 : Below W.heap.size W (W.alloc (.cells #[.int .i64 x, .int .i64 (clN O x), .int .i64 (clC O x), .int .i64 (clW O x)] 85)) := (Below.refl _ _).alloc (Nat.le_refl _) _
    refine hK _ _ ((KeepsOthers.alloc _ _).from _) (Kp2.of_below b7 hB.size hBs) ⟨⟨⟨boxed_below hv b7, boxed_below ha b7⟩, boxed_below hx b7⟩, hS.below b7, ⟨hB.trans (b7.mono hB.size), Nat.lt_of_lt_of_le hBs b7.size⟩, hpre⟩ ⟨W.heap.size, hBs, Four.new _ _ _ _ _ _, ?_⟩
    simp
  case body =>
    rintro l pre x a' W hl hr ⟨⟨⟨hv, ha⟩, hx⟩, hS, ⟨hB, hBs⟩, hpre⟩ ⟨q, hql, hF, rfl⟩ hlt
    have b1 := sumW_bounds O pre
    have b2 := clW_bounds O x
    have hpl : pre.length ≤ O.size := by have := clAts_length O 0; omega
    have hcl := clN_le O x
    have e1 := sumW_snoc O pre x
    have e2 : atEnd O F (pre ++ [x]) = F + clN O x := by simp [atEnd]
    have HB := Lib.hid hB
    have HPre := Lib.hid hpre
    have E1 := Lib.hid e1
    have E2 := Lib.hid e2
    obtain ⟨C, hC⟩ : ∃ C, clN O x = C := ⟨_, rfl⟩
    obtain ⟨A, hA⟩ : ∃ A, sumW O pre = A := ⟨_, rfl⟩
    obtain ⟨D, hD⟩ : ∃ D, clW O x = D := ⟨_, rfl⟩
    rw [hC] at hF hcl E2
    rw [hA] at hv b1 E1
    rw [hD] at hF b2 E1
    have HA := Lib.hid hA
    have HD := Lib.hid hD
    have hw1 : IntKind.i64.wrap ((F : Int) + (C : Int)) = (F : Int) + (C : Int) := IntWalk.i64_in _ (by omega)
    have hw2 : IntKind.i64.wrap (A + D) = A + D := IntWalk.i64_in _ (by omega)
    generalize mkCl O x (clN O x) = mv at *
    have ch := Chg.set W ⟨g + 1 + 1, 0, none⟩ (.int .i64 (A + D))
    have hv2 := hv.set (.int .i64 (A + D))
    have hx2 := hx.other (B' := g + 1 + 1) (by omega) (.int .i64 (A + D))
    have ha2 := ha.other (B' := g + 1 + 1) (by omega) (.int .i64 (A + D))
    have hS2 := hS.chg ch (by show ¬ g = g + 1 + 1; omega)
    have hF2 := hF.chg ch (by show ¬ q = g + 1 + 1; omega)
    have HB2 := Lib.hid (chg_mine hB ch (by show w.heap.size ≤ g + 1 + 1; omega))
    have KS := Lib.hid (⟨ch.size, fun k hk => Below.heap_setCell W _ _ k (by show k ≠ g + 1 + 1; omega)⟩ : Kp2 w.heap.size bx W (W.setCell ⟨g + 1 + 1, 0, none⟩ (.int .i64 (A + D))))
    have hsz2 := Lib.hid (Nat.lt_of_lt_of_le hBs ch.size)
    have hc := hv.cell
    have hf := hv.frozen
    have h3 := hF.c3
    have p1 := hv2.cell
    have p2 := hx2.cell
    have p3 := ha2.cell
    have p4 := ha2.frozen
    obtain ⟨p5, -⟩ := hS2.2 0 _ rfl
    have p6 := hF2.c1
    have HV2 := Lib.hid hv2
    have HX2 := Lib.hid hx2
    have HA2 := Lib.hid ha2
    have HS2 := Lib.hid hS2
    have HAA := Lib.hid ha
    clear hB hr hlt hS hv hx ha hpre e1 e2 hC hA hD hv2 hx2 ha2 hS2 hF2 hF ch
    by_cases hgo : A + D ≤ col
    · have hgo' : ¬ col < A + D := by omega
      gi_wp2
      refine ⟨((KeepsOthers.setCell _ _ _).trans (KeepsOthers.setCell _ _ _)).from _, ?_, ⟨⟨?_, ?_⟩, ?_⟩, ?_, ⟨?_, ?_⟩, ?_⟩
      · exact KS.out.trans ⟨(Chg.set _ _ _).size, fun k hk => Below.heap_setCell _ _ _ k (by show k ≠ g + 1; omega)⟩
      · rw [E1.out]; exact HV2.out.other (by omega) _
      · rw [E2.out]; exact HA2.out.set _
      · exact HX2.out.other (by omega) _
      · exact HS2.out.chg (Chg.set _ ⟨g + 1, 0, none⟩ _) (by show ¬ g = g + 1; omega)
      · exact chg_mine HB2.out (Chg.set _ ⟨g + 1, 0, none⟩ _) (by show w.heap.size ≤ g + 1; omega)
      · exact Nat.lt_of_lt_of_le hsz2.out (Chg.set _ _ _).size
      · right; rw [E1.out]; omega
    · have hgo' : col < A + D := by omega
      gi_wp2
      refine ⟨(KeepsOthers.setCell _ _ _).from _, ⟨rfl, pre, x, rfl, by simpa using HPre.out, by rw [HA.out, HD.out]; omega, HA2.out⟩, HB2.out⟩
  case done =>
    rintro D xs W hD rfl ⟨⟨⟨hv, ha⟩, hx⟩, hS, ⟨hB, hBs⟩, hpre⟩ hK
    have hc := ha.cell
    gi_wp2
    refine ⟨by simp, .inl ⟨_, _, rfl, run_takeDeferred hK, ?_⟩⟩
    refine ⟨.tuple #[.int .i64 (atEnd O F (clAts O 0)), .int .i64 0], by simp [results, Tryz.results15, go_sem], ?_, hB.trans (belowK_b (w := w) (Nat.le_refl _) W D _ _ (by omega) hK rfl rfl)⟩
    have e : takeW O col 0 (clAts O 0) = clAts O 0 := takeW_all O col _ 0 hpre
    rw [HOO.out, e]
  case stop =>
    rintro D c pre W hD hpx ⟨⟨rfl, p, x, rfl, h2, h3, h4⟩, hB⟩ hK
    have hc := h4.cell
    gi_wp2
    refine ⟨by simp, .inl ⟨_, _, rfl, run_takeDeferred hK, ?_⟩⟩
    refine ⟨.tuple #[.int .i64 (atEnd O F p), .int .i64 0], by simp [results, Tryz.results15, go_sem], ?_, hB.trans (belowK_b (w := w) (Nat.le_refl _) W D _ _ (by omega) hK rfl rfl)⟩
    have e : takeW O col 0 (clAts O 0) = p := takeW_stop O col x p _ 0 hpx h2 (by omega)
    rw [HOO.out, e]

set_option maxRecDepth 100000 in
theorem LnColumn_bad (v : Value) (s : ByteArray) (i : Int) (w : World) (h : TextIs w v s) (hi : i < 0 ∨ s.size < i) :
    Calls Tryz.prog 13 #[v, .int .i64 i] w fun e w' => e = .returned (.tuple #[.int .i64 0, .int .i64 1]) ∧ Below w.heap.size w w' := by
  have b1 : Below w.heap.size w (w.alloc (.cells #[.int .i64 i] 3)) := (Below.refl _ _).alloc (Nat.le_refl _) _
  have H1 := Lib.hid (LnOf_bad v s i _ (h.below b1) hi)
  have B1 := Lib.hid b1
  clear h hi b1
  go_enter Tryz.func13, Tryz.ntmps13
  go_wp2_with fail
  refine H1.out.mono ?_
  rintro e w1 ⟨rfl, hb⟩
  have B2 := Lib.hid (B1.out.trans (hb.mono B1.out.size))
  clear hb H1 B1
  go_wp2
  refine bodyPost_ret (v := .tuple #[.int .i64 0, .int .i64 1]) (by simp [results, Tryz.results13, go_sem]) rfl ⟨rfl, B2.out⟩
set_option maxRecDepth 100000 in
theorem LnAt_bad (v : Value) (s : ByteArray) (line col : Int) (w : World) (h : TextIs w v s) (hl : line < 0 ∨ (nlF s : Int) + 1 ≤ line) :
    Calls Tryz.prog 15 #[v, .int .i64 line, .int .i64 col] w fun e w' => e = .returned (.tuple #[.int .i64 0, .int .i64 1]) ∧ Below w.heap.size w w' := by
  have b1 : Below w.heap.size w (w.alloc (.cells #[.int .i64 col] 3)) := (Below.refl _ _).alloc (Nat.le_refl _) _
  have H1 := Lib.hid (LnSpan_bad v s line _ (h.below b1) hl)
  have B1 := Lib.hid b1
  clear h hl b1
  go_enter Tryz.func15, Tryz.ntmps15
  go_wp2_with fail
  refine H1.out.mono ?_
  rintro e w1 ⟨rfl, hb⟩
  have B2 := Lib.hid ((B1.out.trans (hb.mono B1.out.size)).alloc (Nat.le_trans B1.out.size hb.size) (.cells #[.int .i64 0, .int .i64 0] 41))
  clear hb H1 B1
  go_wp2
  refine bodyPost_ret (v := .tuple #[.int .i64 0, .int .i64 1]) (by simp [results, Tryz.results15, go_sem]) rfl ⟨rfl, B2.out⟩
end Go.Proofs.YtgmpohdkignadaaGreatDoor.Ut
/-
  Package lines over whatever keeps a text: each answer at any number, as one function of the text. Condition: TextIs.
-/
namespace Go.Proofs.YtgmpohdkignadaaGreatDoor.Ut
open Go.RowKit Go.Proofs.YtgmpohdkignadaaGreatDoor.Reg
set_option linter.unusedVariables false
set_option linter.unusedSimpArgs false

theorem nlTo_step (s : ByteArray) (k : Nat) : nlTo s (k + 1) ≤ nlTo s k + 1 := by
  rw [nlTo_list, nlTo_list]
  by_cases h : k < s.data.toList.length
  · rw [List.take_succ_eq_append_getElem h]
    unfold Lib.countByte
    have e : ∀ (A B : List UInt8), List.countP (fun x => x == 10) (A ++ B) = List.countP (fun x => x == 10) A + List.countP (fun x => x == 10) B := fun A B => List.countP_append
    have h1 : List.countP (fun x => x == (10 : UInt8)) [s.data.toList[k]] ≤ 1 := List.countP_le_length
    first | (rw [List.count_append]; exact Nat.add_le_add_left List.count_le_length _) | (rw [e]; omega)
  · rw [List.take_of_length_le (by omega), List.take_of_length_le (by omega)]; omega
theorem begin_reach (s : ByteArray) (N : Nat) (h : N ≤ nlF s) : N ≤ nlTo s (beginF s (N : Nat)) := by
  have h1 := (begin_spec s (N : Nat)).2
  have h2 := begin_le s (N : Nat)
  rcases Nat.lt_or_eq_of_le h2 with h3 | h3
  · have := h1 h3; omega
  · rw [h3, nlTo_all]; exact h
theorem begin_lt (s : ByteArray) (N : Nat) (h : N + 1 ≤ nlF s) : beginF s (N : Nat) + 1 ≤ beginF s (N + 1 : Nat) := by
  have hp := begin_pos s N h
  have hr := begin_reach s (N + 1) h
  have hst := nlTo_step s (beginF s (N + 1 : Nat) - 1)
  rw [show beginF s (N + 1 : Nat) - 1 + 1 = beginF s (N + 1 : Nat) by omega] at hst
  have h0 := (begin_spec s (N : Nat)).1 (beginF s (N + 1 : Nat) - 1)
  by_cases hlt : beginF s (N + 1 : Nat) - 1 < beginF s (N : Nat)
  · have := h0 hlt; omega
  · omega
theorem cutCr_ge {s : ByteArray} {fr t : Nat} (h : fr ≤ t) : fr ≤ cutCr s fr t := by unfold cutCr; split <;> omega
theorem begin_span (s : ByteArray) (N : Nat) (h : N < nlF s + 1) : beginF s (N : Nat) ≤ spanT s N := by
  unfold spanT
  split
  · have := begin_lt s N (by omega)
    exact cutCr_ge (by omega)
  · exact begin_le s _
theorem nlTo_lt (s : ByteArray) (i : Nat) (h : i ≤ s.size) : nlTo s i < nlF s + 1 := by
  have := nlTo_mono s h
  rw [nlTo_all] at this; omega

/-- Of, Span, Line, Column and At at any number: the answers and the error's number. -/
def ofA (s : ByteArray) (i : Int) : Int × Int := if 0 ≤ i ∧ i ≤ s.size then (nlTo s i.toNat, 0) else (0, 1)
def spanA (s : ByteArray) (l : Int) : Int × Int × Int := if 0 ≤ l ∧ l < (nlF s : Int) + 1 then (beginF s (l.toNat : Nat), spanT s l.toNat, 0) else (0, 0, 1)
def lineA (s : ByteArray) (l : Int) : ByteArray × Int := if 0 ≤ l ∧ l < (nlF s : Int) + 1 then (s.extract (beginF s (l.toNat : Nat)) (spanT s l.toNat), 0) else (⟨#[]⟩, 1)
def colN (s : ByteArray) (i : Nat) : Int := sumW (s.extract (beginF s (nlTo s i : Nat)) (spanT s (nlTo s i))) (uptoC (s.extract (beginF s (nlTo s i : Nat)) (spanT s (nlTo s i))) ((i : Int) - beginF s (nlTo s i : Nat)))
def colA (s : ByteArray) (i : Int) : Int × Int := if 0 ≤ i ∧ i ≤ s.size then (colN s i.toNat, 0) else (0, 1)
def atN2 (s : ByteArray) (N : Nat) (c : Int) : Int := atEnd (s.extract (beginF s (N : Nat)) (spanT s N)) (beginF s (N : Nat)) (takeW (s.extract (beginF s (N : Nat)) (spanT s N)) c 0 (clAts (s.extract (beginF s (N : Nat)) (spanT s N)) 0))
def atA (s : ByteArray) (l c : Int) : Int × Int := if 0 ≤ l ∧ l < (nlF s : Int) + 1 then (atN2 s l.toNat c, 0) else (0, 1)

theorem LnOf_all (v : Value) (s : ByteArray) (i : Int) (w : World) (h : TextIs w v s) :
    Calls Tryz.prog 17 #[v, .int .i64 i] w fun e w' => e = .returned (.tuple #[.int .i64 (ofA s i).1, .int .i64 (ofA s i).2]) ∧ Below w.heap.size w w' := by
  by_cases hc : 0 ≤ i ∧ i ≤ s.size
  · obtain ⟨n, rfl⟩ : ∃ n : Nat, i = n := ⟨i.toNat, by omega⟩
    unfold ofA; rw [if_pos hc, Int.toNat_natCast]; dsimp only; exact LnOf_any v s n w h (by omega)
  · unfold ofA; rw [if_neg hc]; exact LnOf_bad v s i w h (by omega)
theorem LnSpan_all (v : Value) (s : ByteArray) (l : Int) (w : World) (h : TextIs w v s) :
    Calls Tryz.prog 18 #[v, .int .i64 l] w fun e w' => e = .returned (.tuple #[.agg #[.int .i64 (spanA s l).1, .int .i64 (spanA s l).2.1], .int .i64 (spanA s l).2.2]) ∧ Below w.heap.size w w' := by
  by_cases hc : 0 ≤ l ∧ l < (nlF s : Int) + 1
  · obtain ⟨n, rfl⟩ : ∃ n : Nat, l = n := ⟨l.toNat, by omega⟩
    unfold spanA; rw [if_pos hc, Int.toNat_natCast]; dsimp only; exact LnSpan_any v s n w h (by omega)
  · unfold spanA; rw [if_neg hc]; exact LnSpan_bad v s l w h (by omega)
theorem LnLine_all (v : Value) (s : ByteArray) (l : Int) (w : World) (h : TextIs w v s) :
    Calls Tryz.prog 25 #[v, .int .i64 l] w fun e w' => e = .returned (.tuple #[.string (lineA s l).1, .int .i64 (lineA s l).2]) ∧ Below w.heap.size w w' := by
  by_cases hc : 0 ≤ l ∧ l < (nlF s : Int) + 1
  · obtain ⟨n, rfl⟩ : ∃ n : Nat, l = n := ⟨l.toNat, by omega⟩
    unfold lineA; rw [if_pos hc, Int.toNat_natCast]; dsimp only; exact LnLine_any v s n w h (by omega) (begin_span s n (by omega))
  · unfold lineA; rw [if_neg hc]; exact LnLine_bad v s l w h (by omega)
theorem LnColumn_all (v : Value) (s : ByteArray) (i : Int) (w : World) (h : TextIs w v s) (hT : Tabs w) :
    Calls Tryz.prog 13 #[v, .int .i64 i] w fun e w' => e = .returned (.tuple #[.int .i64 (colA s i).1, .int .i64 (colA s i).2]) ∧ Below w.heap.size w w' := by
  by_cases hc : 0 ≤ i ∧ i ≤ s.size
  · obtain ⟨n, rfl⟩ : ∃ n : Nat, i = n := ⟨i.toNat, by omega⟩
    unfold colA; rw [if_pos hc, Int.toNat_natCast]; dsimp only; unfold colN; exact LnColumn_any v s n w h hT (by omega) (begin_span s _ (nlTo_lt s n (by omega)))
  · unfold colA; rw [if_neg hc]; exact LnColumn_bad v s i w h (by omega)
theorem LnAt_all (v : Value) (s : ByteArray) (l c : Int) (w : World) (h : TextIs w v s) (hT : Tabs w) :
    Calls Tryz.prog 15 #[v, .int .i64 l, .int .i64 c] w fun e w' => e = .returned (.tuple #[.int .i64 (atA s l c).1, .int .i64 (atA s l c).2]) ∧ Below w.heap.size w w' := by
  by_cases hc : 0 ≤ l ∧ l < (nlF s : Int) + 1
  · obtain ⟨n, rfl⟩ : ∃ n : Nat, l = n := ⟨l.toNat, by omega⟩
    unfold atA; rw [if_pos hc, Int.toNat_natCast]; dsimp only; unfold atN2; exact LnAt_any v s n c w h hT (by omega) (begin_span s n (by omega))
  · unfold atA; rw [if_neg hc]; exact LnAt_bad v s l c w h (by omega)
end Go.Proofs.YtgmpohdkignadaaGreatDoor.Ut
/-
  Units and clusters told by the bytes around a place (plain): windows of eight bytes. No condition.
-/
namespace Go.Proofs.YtgmpohdkignadaaGreatDoor.Ut
open Go.RowKit Go.Proofs.YtgmpohdkignadaaGreatDoor.Reg
set_option linter.unusedVariables false
set_option linter.unusedSimpArgs false

/-- A byte of a text, 256 outside. -/
def bt (s : ByteArray) (k : Int) : Nat := if 0 ≤ k then (match s.data.toList[k.toNat]? with | some b => b.toNat | none => 256) else 256
theorem bt_neg (s : ByteArray) {k : Int} (h : k < 0) : bt s k = 256 := by unfold bt; rw [if_neg (by omega)]
theorem bt_big (s : ByteArray) {k : Int} (h : (s.size : Int) ≤ k) : bt s k = 256 := by
  unfold bt; rw [if_pos (by omega), List.getElem?_eq_none (by rw [← Lib.size_eq]; omega)]
theorem bt_in (s : ByteArray) {k : Nat} (h : k < s.size) : bt s k = (s[k]'h).toNat := by
  unfold bt
  rw [if_pos (by omega), Int.toNat_natCast, List.getElem?_eq_getElem (by rw [← Lib.size_eq]; exact h)]
  rfl
theorem bt_lt (s : ByteArray) {k : Nat} (h : k < s.size) : bt s k < 256 := by rw [bt_in s h]; exact UInt8.toNat_lt _

def dec4 (a b c d : Nat) : Nat × Nat :=
  if a < 0x80 then (a, 1)
  else if a / 32 = 6 ∧ b / 64 = 2 then (if (a % 32) * 64 + b % 64 ≥ 0x80 then ((a % 32) * 64 + b % 64, 2) else (65533, 1))
  else if a / 16 = 14 ∧ b / 64 = 2 ∧ c / 64 = 2 then (if (a % 16) * 4096 + (b % 64) * 64 + c % 64 ≥ 0x800 ∧ Utf8.valid ((a % 16) * 4096 + (b % 64) * 64 + c % 64 : Nat) = true then ((a % 16) * 4096 + (b % 64) * 64 + c % 64, 3) else (65533, 1))
  else if a / 8 = 30 ∧ b / 64 = 2 ∧ c / 64 = 2 ∧ d / 64 = 2 then (if (a % 8) * 262144 + (b % 64) * 4096 + (c % 64) * 64 + d % 64 ≥ 0x10000 ∧ Utf8.valid ((a % 8) * 262144 + (b % 64) * 4096 + (c % 64) * 64 + d % 64 : Nat) = true then ((a % 8) * 262144 + (b % 64) * 4096 + (c % 64) * 64 + d % 64, 4) else (65533, 1))
  else (65533, 1)
theorem dec4_pos (a b c d : Nat) : 1 ≤ (dec4 a b c d).2 ∧ (dec4 a b c d).2 ≤ 4 := by
  unfold dec4; (repeat' split) <;> simp
theorem dec4_two (a b c d : Nat) (h : 1 < (dec4 a b c d).2) : 192 ≤ a ∧ a < 256 ∧ b / 64 = 2 := by
  unfold dec4 at h; (repeat' split at h) <;> simp at h <;> omega
theorem dec4_three (a b c d : Nat) (h : 2 < (dec4 a b c d).2) : c / 64 = 2 := by
  unfold dec4 at h; (repeat' split at h) <;> simp at h <;> omega
theorem dec4_four (a b c d : Nat) (h : 3 < (dec4 a b c d).2) : d / 64 = 2 := by
  unfold dec4 at h; (repeat' split at h) <;> simp at h <;> omega

theorem get_bt (s : ByteArray) {k : Nat} (h : k < s.size) : (s.get! k).toNat = bt s k := by
  rw [bt_in s h]
  congr 1
  cases s with
  | mk bs => exact getElem!_pos bs k h
theorem cont_bt (s : ByteArray) (k : Nat) : (decide (k < s.size) && (s.get! k).toNat / 64 == 2) = decide (bt s k / 64 = 2) := by
  by_cases h : k < s.size
  · rw [get_bt s h]; simp [h]
    rw [Bool.eq_iff_iff]; simp
  · rw [bt_big s (k := (k : Int)) (by omega)]; simp [h]
theorem decode_bt (s : ByteArray) (i : Nat) (h : i < s.size) : Utf8.decode s i = dec4 (bt s i) (bt s ((i : Int) + 1)) (bt s ((i : Int) + 2)) (bt s ((i : Int) + 3)) := by
  have e1 : (i : Int) + 1 = ((i + 1 : Nat) : Int) := by omega
  have e2 : (i : Int) + 2 = ((i + 2 : Nat) : Int) := by omega
  have e3 : (i : Int) + 3 = ((i + 3 : Nat) : Int) := by omega
  rw [e1, e2, e3]
  unfold Utf8.decode dec4
  simp only [Nat.add_zero, cont_bt, get_bt s h, Utf8.runeError]
  by_cases h1 : i + 1 < s.size
  · rw [get_bt s h1]
    by_cases h2 : i + 2 < s.size
    · rw [get_bt s h2]
      by_cases h3 : i + 3 < s.size
      · rw [get_bt s h3]
        simp only [Bool.and_eq_true, beq_iff_eq, decide_eq_true_eq, and_assoc]
      · have b3 : bt s ((i + 3 : Nat) : Int) = 256 := bt_big s (by omega)
        rw [b3]
        simp only [Bool.and_eq_true, beq_iff_eq, decide_eq_true_eq, and_assoc]
        simp
    · have b2 : bt s ((i + 2 : Nat) : Int) = 256 := bt_big s (by omega)
      have b3 : bt s ((i + 3 : Nat) : Int) = 256 := bt_big s (by omega)
      rw [b2, b3]
      simp only [Bool.and_eq_true, beq_iff_eq, decide_eq_true_eq, and_assoc]
      simp
  · have b1 : bt s ((i + 1 : Nat) : Int) = 256 := bt_big s (by omega)
    have b2 : bt s ((i + 2 : Nat) : Int) = 256 := bt_big s (by omega)
    have b3 : bt s ((i + 3 : Nat) : Int) = 256 := bt_big s (by omega)
    rw [b1, b2, b3]
    simp only [Bool.and_eq_true, beq_iff_eq, decide_eq_true_eq, and_assoc]
    simp

/-- Eight bytes around a place: win s i 4 is the byte at i. -/
def win (s : ByteArray) (i : Nat) : Nat → Nat := fun d => if d < 8 then bt s ((i : Int) + d - 4) else 0
def chOf (p : Nat × Nat) : Int := if p.1 = 65533 ∧ p.2 = 1 then -1 else p.1
def wD (w : Nat → Nat) (k : Nat) : Nat × Nat := dec4 (w k) (w (k + 1)) (w (k + 2)) (w (k + 3))
def wSz (w : Nat → Nat) (k : Nat) : Nat := (wD w k).2
def wCh (w : Nat → Nat) (k : Nat) : Int := chOf (wD w k)
theorem from_dec (s : ByteArray) {j : Nat} (h : j < s.size) : Lib.decodeGo (from_ s j) = Utf8.decode s j := Lib.decodeGo_extract s j h
theorem szD (s : ByteArray) {j : Nat} (h : j < s.size) : sz (from_ s j) = (dec4 (bt s j) (bt s ((j : Int) + 1)) (bt s ((j : Int) + 2)) (bt s ((j : Int) + 3))).2 := by
  unfold sz; rw [from_dec s h, decode_bt s j h]
theorem win_wD (s : ByteArray) (i : Nat) {k j : Nat} (hk : k ≤ 4) (hj : j + 4 = i + k) : wD (win s i) k = dec4 (bt s j) (bt s ((j : Int) + 1)) (bt s ((j : Int) + 2)) (bt s ((j : Int) + 3)) := by
  unfold wD win
  rw [if_pos (by omega), if_pos (by omega), if_pos (by omega), if_pos (by omega)]
  congr 2 <;> omega
theorem win_sz (s : ByteArray) {i k j : Nat} (hk : k ≤ 4) (hj : j + 4 = i + k) (hs : j < s.size) : sz (from_ s j) = wSz (win s i) k := by
  unfold wSz; rw [szD s hs, win_wD s i hk hj]
theorem win_ch (s : ByteArray) {i k j : Nat} (hk : k ≤ 4) (hj : j + 4 = i + k) (hs : j < s.size) : ch (from_ s j) = wCh (win s i) k := by
  unfold wCh; rw [win_wD s i hk hj, ← decode_bt s j hs, ← from_dec s hs]; rfl
theorem win_neg (s : ByteArray) {i k : Nat} (h : i + k < 4) : wD (win s i) k = (65533, 1) := by
  have e : win s i k = 256 := by unfold win; rw [if_pos (by omega)]; exact bt_neg s (by omega)
  unfold wD dec4
  rw [e]
  simp

/-- Does a unit begin at the window's place? -/
def cU (w : Nat → Nat) : Bool := decide (wSz w 1 ≤ 3 ∧ wSz w 2 ≤ 2 ∧ wSz w 3 ≤ 1)
theorem ar_fst {s : ByteArray} {i : Nat} : ∀ f j, j + f = i → ((arFrom s i f j).1 = i ↔ ∀ k, j ≤ k → k < i → up s k ≤ i)
  | 0, j, h => by
    unfold arFrom
    have : (if i = s.size then (i, i) else (i, up s i)).1 = i := by split <;> rfl
    simp only [this, true_iff]
    intro k h1 h2; omega
  | f + 1, j, h => by
    unfold arFrom
    split
    · rename_i hlt
      simp only
      constructor
      · intro e; omega
      · intro hk; have := hk j (Nat.le_refl _) (by omega); omega
    · rename_i hlt
      rw [ar_fst f (j + 1) (by omega)]
      constructor
      · intro hk k h1 h2
        by_cases e : k = j
        · subst e; omega
        · exact hk k (by omega) h2
      · intro hk k h1 h2; exact hk k (by omega) h2
theorem bound_iff (s : ByteArray) (i : Nat) : boundF s i = true ↔ ∀ k, i ≤ k + 3 → k < i → up s k ≤ i := by
  unfold boundF aroundF
  rw [decide_eq_true_eq, ar_fst _ _ (by omega)]
  constructor
  · intro h k h1 h2; exact h k (by omega) h2
  · intro h k h1 h2; exact h k (by omega) h2
theorem bound_win (s : ByteArray) {i : Nat} (hi : i ≤ s.size) : boundF s i = cU (win s i) := by
  rw [Bool.eq_iff_iff, bound_iff]
  unfold cU
  rw [decide_eq_true_eq]
  have one : ∀ k, 1 ≤ k → k ≤ 3 → (wSz (win s i) k + k ≤ 4 ↔ ∀ j, j + 4 = i + k → up s j ≤ i) := by
    intro k h1 h2
    by_cases hn : i + k < 4
    · have e : wSz (win s i) k = 1 := by unfold wSz; rw [win_neg s hn]
      rw [e]
      constructor
      · intro _ j hj; omega
      · intro _; omega
    · obtain ⟨j, hj⟩ : ∃ j, j + 4 = i + k := ⟨i + k - 4, by omega⟩
      have e := win_sz s (i := i) (k := k) (j := j) (by omega) hj (by omega)
      constructor
      · intro h j' hj'
        obtain rfl : j' = j := by omega
        unfold up; omega
      · intro h
        have := h j hj
        unfold up at this; omega
  constructor
  · intro h
    have a1 := (one 1 (by omega) (by omega)).2 (fun j hj => h j (by omega) (by omega))
    have a2 := (one 2 (by omega) (by omega)).2 (fun j hj => h j (by omega) (by omega))
    have a3 := (one 3 (by omega) (by omega)).2 (fun j hj => h j (by omega) (by omega))
    omega
  · intro h k h1 h2
    have : k + 4 = i + 1 ∨ k + 4 = i + 2 ∨ k + 4 = i + 3 := by omega
    rcases this with e | e | e
    · exact (one 1 (by omega) (by omega)).1 (by omega) k e
    · exact (one 2 (by omega) (by omega)).1 (by omega) k e
    · exact (one 3 (by omega) (by omega)).1 (by omega) k e

/-- Within a unit each byte is a continuation, and of size one by itself. -/
theorem mid_one (s : ByteArray) {j k : Nat} (hj : j < s.size) (h1 : j < k) (h2 : k < up s j) : bt s k / 64 = 2 ∧ up s k = k + 1 := by
  have hu : up s j ≤ s.size := up_le (by omega)
  have hd := szD s hj
  have hp := dec4_pos (bt s j) (bt s ((j : Int) + 1)) (bt s ((j : Int) + 2)) (bt s ((j : Int) + 3))
  have hup : up s j = j + sz (from_ s j) := rfl
  have hc : bt s k / 64 = 2 := by
    rcases (by omega : k = j + 1 ∨ k = j + 2 ∨ k = j + 3) with e | e | e
    · have := (dec4_two (bt s j) (bt s ((j : Int) + 1)) (bt s ((j : Int) + 2)) (bt s ((j : Int) + 3)) (by omega)).2.2
      rw [show ((k : Nat) : Int) = (j : Int) + 1 by omega]; exact this
    · have := dec4_three (bt s j) (bt s ((j : Int) + 1)) (bt s ((j : Int) + 2)) (bt s ((j : Int) + 3)) (by omega)
      rw [show ((k : Nat) : Int) = (j : Int) + 2 by omega]; exact this
    · have := dec4_four (bt s j) (bt s ((j : Int) + 1)) (bt s ((j : Int) + 2)) (bt s ((j : Int) + 3)) (by omega)
      rw [show ((k : Nat) : Int) = (j : Int) + 3 by omega]; exact this
  refine ⟨hc, ?_⟩
  have hk := szD s (j := k) (by omega)
  have hp2 := dec4_pos (bt s k) (bt s ((k : Int) + 1)) (bt s ((k : Int) + 2)) (bt s ((k : Int) + 3))
  unfold up
  by_cases e : sz (from_ s k) = 1
  · omega
  · have := (dec4_two (bt s k) (bt s ((k : Int) + 1)) (bt s ((k : Int) + 2)) (bt s ((k : Int) + 3)) (by omega)).1
    omega
/-- A unit of more bytes begins at a boundary. -/
theorem wide_bound (s : ByteArray) {j : Nat} (hj : j < s.size) (h : j + 1 < up s j) : boundF s j = true := by
  rw [bound_iff]
  intro k h1 h2
  by_cases e : up s k ≤ j
  · exact e
  · exfalso
    obtain ⟨hc, -⟩ := mid_one s (j := k) (k := j) (by omega) h2 (by omega)
    have hd := szD s hj
    have hup : up s j = j + sz (from_ s j) := rfl
    have := (dec4_two (bt s j) (bt s ((j : Int) + 1)) (bt s ((j : Int) + 2)) (bt s ((j : Int) + 3)) (by omega)).1
    omega
theorem ar_found {s : ByteArray} {i : Nat} (hi : i ≤ s.size) : ∀ f j, j + f = i → (∀ k, i ≤ k + 3 → k < j → up s k ≤ i) → boundF s (arFrom s i f j).1 = true
  | 0, j, h, hp => by
    have e : (arFrom s i 0 j).1 = i := by unfold arFrom; split <;> rfl
    rw [e, bound_iff]
    intro k h1 h2; exact hp k h1 (by omega)
  | f + 1, j, h, hp => by
    unfold arFrom
    split
    · rename_i hlt
      exact wide_bound s (j := j) (by omega) (by omega)
    · rename_i hlt
      exact ar_found hi f (j + 1) (by omega) (fun k h1 h2 => by
        by_cases e : k = j
        · subst e; omega
        · exact hp k h1 (by omega))
theorem down_bound (s : ByteArray) {i : Nat} (hi : i ≤ s.size) : boundF s (downF s i) = true := ar_found hi _ _ (by omega) (fun k h1 h2 => by omega)
theorem ar_prev {s : ByteArray} {i : Nat} : ∀ f j, j + f = i → ∀ r, (arFrom s i f j).1 = r → (∀ k, j ≤ k → k < r → up s k ≤ i) ∧ (r < i → i < up s r) ∧ j ≤ r ∧ r ≤ i
  | 0, j, h, r, hr => by
    have e : (arFrom s i 0 j).1 = i := by unfold arFrom; split <;> rfl
    rw [e] at hr
    exact ⟨fun k h1 h2 => by omega, fun h => by omega, by omega, by omega⟩
  | f + 1, j, h, r, hr => by
    unfold arFrom at hr
    split at hr
    · rename_i hlt
      simp only at hr
      subst hr
      exact ⟨fun k h1 h2 => by omega, fun _ => hlt, Nat.le_refl _, by omega⟩
    · rename_i hlt
      obtain ⟨a, b, c, d⟩ := ar_prev f (j + 1) (by omega) r hr
      refine ⟨fun k h1 h2 => ?_, b, by omega, d⟩
      by_cases e : k = j
      · subst e; omega
      · exact a k (by omega) h2
/-- The character ahead of the window's place. -/
def cPrev (w : Nat → Nat) : Int := if 3 < wSz w 0 then wCh w 0 else if 2 < wSz w 1 then wCh w 1 else if 1 < wSz w 2 then wCh w 2 else wCh w 3
theorem prev_win (s : ByteArray) {i : Nat} (h0 : 0 < i) (hi : i ≤ s.size) : atC s (prevU s i) = cPrev (win s i) := by
  have hb : boundF s (prevU s i) = true := down_bound s (by omega)
  unfold atC
  rw [if_pos hb]
  obtain ⟨a, b, c, d⟩ := ar_prev (s := s) (i := i - 1) (i - 1 - (i - 1 - 3)) (i - 1 - 3) (by omega) (prevU s i) rfl
  generalize prevU s i = r at *
  have key : ∀ k, k ≤ 2 → (3 < wSz (win s i) k + k ↔ ∃ j, j + 4 = i + k ∧ i - 1 < up s j) := by
    intro k hk
    by_cases hn : i + k < 4
    · have e : wSz (win s i) k = 1 := by unfold wSz; rw [win_neg s hn]
      rw [e]
      constructor
      · intro h; omega
      · rintro ⟨j, hj, _⟩; omega
    · obtain ⟨j, hj⟩ : ∃ j, j + 4 = i + k := ⟨i + k - 4, by omega⟩
      have e := win_sz s (i := i) (k := k) (j := j) (by omega) hj (by omega)
      constructor
      · intro h; exact ⟨j, hj, by unfold up; omega⟩
      · rintro ⟨j', hj', h⟩
        obtain rfl : j' = j := by omega
        unfold up at h; omega
  have no : ∀ k, k ≤ 2 → k + i < r + 4 → ¬ 3 < wSz (win s i) k + k := by
    intro k hk hlt h
    obtain ⟨j, hj, hu⟩ := (key k hk).1 h
    have := a j (by omega) (by omega)
    omega
  have yes : ∀ k, k ≤ 2 → k + i = r + 4 → 3 < wSz (win s i) k + k := by
    intro k hk he
    exact (key k hk).2 ⟨r, by omega, b (by omega)⟩
  unfold cPrev
  rcases (by omega : r + 4 = i + 0 ∨ r + 4 = i + 1 ∨ r + 4 = i + 2 ∨ r + 4 = i + 3) with e | e | e | e
  · rw [if_pos (by have := yes 0 (by omega) (by omega); omega)]; exact win_ch s (by omega) e (by omega)
  · rw [if_neg (by have := no 0 (by omega) (by omega); omega), if_pos (by have := yes 1 (by omega) (by omega); omega)]; exact win_ch s (by omega) e (by omega)
  · rw [if_neg (by have := no 0 (by omega) (by omega); omega), if_neg (by have := no 1 (by omega) (by omega); omega), if_pos (by have := yes 2 (by omega) (by omega); omega)]; exact win_ch s (by omega) e (by omega)
  · rw [if_neg (by have := no 0 (by omega) (by omega); omega), if_neg (by have := no 1 (by omega) (by omega); omega), if_neg (by have := no 2 (by omega) (by omega); omega)]; exact win_ch s (by omega) e (by omega)

/-- Does a cluster begin at the window's place (which lies in the text)? -/
def cB (w : Nat → Nat) : Bool := decide (w 3 = 256) || (cU w && !gluedF (cPrev w) (wCh w 4))
theorem clB_win (s : ByteArray) {i : Nat} (hi : i < s.size) : clB s i = cB (win s i) := by
  unfold clB cB
  have e3 : win s i 3 = bt s ((i : Int) - 1) := by unfold win; rw [if_pos (by omega)]; congr 1; omega
  rw [e3, ← bound_win s (by omega)]
  by_cases h0 : i = 0
  · subst h0
    rw [bt_neg s (by omega)]; simp
  · have : bt s ((i : Int) - 1) < 256 := by
      rw [show ((i : Int) - 1) = ((i - 1 : Nat) : Int) by omega]; exact bt_lt s (by omega)
    have n1 : decide (bt s ((i : Int) - 1) = 256) = false := by simp; omega
    have n2 : decide (i = 0) = false := by simpa using h0
    have n3 : decide (i = s.size) = false := by simp; omega
    rw [n1, n2, n3, prev_win s (by omega) (by omega)]
    cases hb : boundF s i with
    | false => simp
    | true =>
      have e : atC s i = wCh (win s i) 4 := by unfold atC; rw [if_pos hb]; exact win_ch s (Nat.le_refl _) rfl hi
      rw [e]; simp
def cW (w : Nat → Nat) : Int := if wCh w 4 = 13 ∧ w 5 = 10 then 0 else cellsF (wCh w 4)
theorem hasPrefix_lf (s : ByteArray) (k : Nat) : Lib.hasPrefix (from_ s k).data.toList [10] = decide (bt s k = 10) := by
  have e : (from_ s k).data.toList = s.data.toList.drop k := by
    unfold from_; rw [Lib.extract_data]; rw [List.take_of_length_le]; rw [List.length_drop, ← Lib.size_eq]; exact Nat.le_refl _
  rw [e]
  by_cases h : k < s.size
  · have hl : k < s.data.toList.length := by rw [← Lib.size_eq]; exact h
    rw [List.drop_eq_getElem_cons hl]
    unfold bt
    rw [if_pos (by omega), Int.toNat_natCast, List.getElem?_eq_getElem hl]
    rw [Bool.eq_iff_iff]
    simp [Lib.hasPrefix, ← UInt8.toNat_inj]
    exact eq_comm
  · rw [List.drop_eq_nil_of_le (by rw [← Lib.size_eq]; omega), bt_big s (by omega)]
    simp [Lib.hasPrefix]
theorem clW_win (s : ByteArray) {i : Nat} (hi : i < s.size) (hb : boundF s i = true) : clW s i = cW (win s i) := by
  have e : atC s i = wCh (win s i) 4 := by unfold atC; rw [if_pos hb]; exact win_ch s (Nat.le_refl _) rfl hi
  have e5 : win s i 5 = bt s ((i + 1 : Nat) : Int) := by unfold win; rw [if_pos (by omega)]; congr 1; omega
  unfold clW crlf cW
  rw [hasPrefix_lf, e, e5]
  by_cases h : wCh (win s i) 4 = 13 ∧ bt s ((i + 1 : Nat) : Int) = 10
  · rw [if_pos (by simpa using h), if_pos h]
  · rw [if_neg (by simpa using h), if_neg h]
end Go.Proofs.YtgmpohdkignadaaGreatDoor.Ut
/-
  The counts of a text as sums over its places; the seam of two texts (plain). No condition.
-/
namespace Go.Proofs.YtgmpohdkignadaaGreatDoor.Ut
open Go.RowKit Go.Proofs.YtgmpohdkignadaaGreatDoor.Reg
set_option linter.unusedVariables false
set_option linter.unusedSimpArgs false

theorem filter_step (p : Nat → Bool) {i m n : Nat} (hi : i < m) (hm : m ≤ n) (hp : p i = true) (hno : ∀ k, i < k → k < m → p k = false) :
    (List.range' i (n - i)).filter p = i :: (List.range' m (n - m)).filter p := by
  rw [show n - i = (m - i) + (n - m) by omega, ← List.range'_append_1]
  rw [show i + (m - i) = m by omega, List.filter_append]
  rw [show m - i = (m - i - 1) + 1 by omega, List.range'_succ, List.filter_cons, if_pos hp]
  have : (List.range' (i + 1) (m - i - 1)).filter p = [] := by
    rw [List.filter_eq_nil_iff]
    intro k hk
    rw [List.mem_range'_1] at hk
    rw [hno k (by omega) (by omega)]
    simp
  rw [this]; rfl

def sumTo (f : Nat → Int) : Nat → Int
  | 0 => 0
  | n + 1 => sumTo f n + f n
theorem sumTo_add (f : Nat → Int) (m : Nat) : ∀ n, sumTo f (m + n) = sumTo f m + sumTo (fun i => f (m + i)) n
  | 0 => by simp [sumTo]
  | n + 1 => by rw [← Nat.add_assoc]; simp only [sumTo]; rw [sumTo_add f m n]; omega
theorem sumTo_congr {f g : Nat → Int} : ∀ n, (∀ i, i < n → f i = g i) → sumTo f n = sumTo g n
  | 0, _ => rfl
  | n + 1, h => by simp only [sumTo]; rw [sumTo_congr n (fun i hi => h i (by omega)), h n (by omega)]
theorem sumTo_sub {f g F G : Nat → Int} : ∀ n, (∀ i, i < n → f i - g i = F i - G i) → sumTo f n - sumTo g n = sumTo F n - sumTo G n
  | 0, _ => rfl
  | n + 1, h => by
    have a := sumTo_sub n (fun i hi => h i (by omega))
    have b := h n (by omega)
    simp only [sumTo]; omega
theorem sum_filter (p : Nat → Bool) (f : Nat → Int) (i : Nat) : ∀ n, (((List.range' i n).filter p).map f).sum = sumTo (fun k => if p (i + k) = true then f (i + k) else 0) n
  | 0 => rfl
  | n + 1 => by
    rw [show List.range' i (n + 1) = List.range' i n ++ [i + n] by rw [List.range'_1_concat]]
    rw [List.filter_append, List.map_append, List.sum_append, sum_filter p f i n]
    simp only [sumTo]
    congr 1
    by_cases h : p (i + n) = true
    · simp [List.filter_cons, h]
    · simp [List.filter_cons, h]
theorem length_sum {α : Type} : ∀ l : List α, ((l.map fun _ => (1 : Int)).sum) = l.length
  | [] => rfl
  | _ :: r => by simp [length_sum r]; omega

/-- The sum of Φ over all places of a text. -/
def Tot (Φ : (Nat → Nat) → Int) (s : ByteArray) : Int := sumTo (fun i => Φ (win s i)) s.size

theorem list_bt (s : ByteArray) (k : Int) : bt s k = if 0 ≤ k then (s.data.toList.map UInt8.toNat)[k.toNat]?.getD 256 else 256 := by
  unfold bt
  split
  · rw [List.getElem?_map]
    cases s.data.toList[k.toNat]? <;> rfl
  · rfl
theorem app_list (a b : ByteArray) : (a ++ b).data.toList = a.data.toList ++ b.data.toList := by rw [ByteArray.data_append, Array.toList_append]
theorem bt_left (x u : ByteArray) (k : Int) (h : 0 ≤ k ∨ x.size = 0) : bt (x ++ u) ((x.size : Int) + k) = bt u k := by
  by_cases h0 : 0 ≤ k
  · rw [list_bt, list_bt, if_pos (by omega), if_pos h0, app_list, List.map_append, List.getElem?_append_right (by simp; omega)]
    congr 2
    simp
    omega
  · rw [bt_neg _ (by omega), bt_neg _ (by omega)]
theorem bt_right (u y : ByteArray) (k : Int) (h : k < u.size ∨ y.size = 0) : bt (u ++ y) k = bt u k := by
  by_cases h0 : 0 ≤ k
  · by_cases h1 : k < u.size
    · rw [list_bt, list_bt, if_pos h0, if_pos h0, app_list, List.map_append, List.getElem?_append_left (by simp; omega)]
    · rw [bt_big _ (by rw [ByteArray.size_append]; omega), bt_big _ (by omega)]
  · rw [bt_neg _ (by omega), bt_neg _ (by omega)]
theorem win_left (x u : ByteArray) (i : Nat) (h : 4 ≤ i ∨ x.size = 0) : win (x ++ u) (x.size + i) = win u i := by
  funext d
  unfold win
  split
  · rw [show (((x.size + i : Nat) : Int) + d - 4) = (x.size : Int) + ((i : Int) + d - 4) by omega]
    exact bt_left x u _ (by omega)
  · rfl
theorem win_right (u y : ByteArray) (i : Nat) (h : i + 4 ≤ u.size ∨ y.size = 0) : win (u ++ y) i = win u i := by
  funext d
  unfold win
  split
  · exact bt_right u y _ (by omega)
  · rfl
theorem cut_tail (a : ByteArray) : ∃ x, a = x ++ tailF a ∧ (x.size = 0 ∨ (tailF a).size = 16) := by
  refine ⟨a.extract 0 (a.size - min a.size 16), ?_, ?_⟩
  · apply ext_of_list
    rw [app_list]
    unfold tailF
    rw [extract_list, extract_list]
    simp only [List.drop_zero, Nat.sub_zero]
    rw [List.take_of_length_le (l := List.drop _ _) (by rw [List.length_drop, ← Lib.size_eq]; exact Nat.le_refl _), List.take_append_drop]
  · unfold tailF
    simp [ByteArray.size_extract]; omega
theorem cut_head (b : ByteArray) : ∃ y, b = headF b ++ y ∧ (y.size = 0 ∨ (headF b).size = 16) := by
  refine ⟨b.extract (min b.size 16) b.size, ?_, ?_⟩
  · apply ext_of_list
    rw [app_list]
    unfold headF
    rw [extract_list, extract_list]
    simp only [List.drop_zero, Nat.sub_zero]
    rw [List.take_of_length_le (l := List.drop _ _) (by rw [List.length_drop, ← Lib.size_eq]; exact Nat.le_refl _), List.take_append_drop]
  · unfold headF
    simp [ByteArray.size_extract]; omega
theorem app_assoc (a b c : ByteArray) : a ++ b ++ c = a ++ (b ++ c) := by apply ext_of_list; simp [app_list]

theorem Tot_seam (Φ : (Nat → Nat) → Int) (a b : ByteArray) : Tot Φ (a ++ b) = Tot Φ a + Tot Φ b + (Tot Φ (tailF a ++ headF b) - Tot Φ (tailF a) - Tot Φ (headF b)) := by
  obtain ⟨x, hx, hx16⟩ := cut_tail a
  obtain ⟨y, hy, hy16⟩ := cut_head b
  generalize tailF a = t at *
  generalize headF b = h at *
  subst hx hy
  unfold Tot
  have e1 : (x ++ t ++ (h ++ y)).size = (x.size + t.size) + (h.size + y.size) := by simp [ByteArray.size_append]
  have e2 : (x ++ t).size = x.size + t.size := by simp [ByteArray.size_append]
  have e3 : (h ++ y).size = h.size + y.size := by simp [ByteArray.size_append]
  have e4 : (t ++ h).size = t.size + h.size := by simp [ByteArray.size_append]
  rw [e1, e2, e3, e4, sumTo_add _ (x.size + t.size), sumTo_add _ x.size t.size, sumTo_add _ x.size t.size, sumTo_add _ h.size y.size, sumTo_add _ h.size y.size, sumTo_add _ t.size h.size]
  have a1 : sumTo (fun i => Φ (win (x ++ t ++ (h ++ y)) i)) x.size = sumTo (fun i => Φ (win (x ++ t) i)) x.size := by
    refine sumTo_congr _ fun i hi => ?_
    show Φ _ = Φ _
    rw [win_right (x ++ t) (h ++ y) i (by rw [e2]; omega)]
  have a2 : sumTo (fun i => Φ (win (x ++ t ++ (h ++ y)) (x.size + t.size + (h.size + i)))) y.size = sumTo (fun i => Φ (win (h ++ y) (h.size + i))) y.size := by
    refine sumTo_congr _ fun i hi => ?_
    show Φ _ = Φ _
    have := win_left (x ++ t) (h ++ y) (h.size + i) (by omega)
    rw [e2] at this
    rw [this]
  have a3 : sumTo (fun i => Φ (win (x ++ t ++ (h ++ y)) (x.size + i))) t.size - sumTo (fun i => Φ (win (x ++ t) (x.size + i))) t.size = sumTo (fun i => Φ (win (t ++ h) i)) t.size - sumTo (fun i => Φ (win t i)) t.size := by
    refine sumTo_sub _ fun i hi => ?_
    show Φ _ - Φ _ = Φ _ - Φ _
    by_cases hc : i + 4 ≤ t.size
    · rw [win_right (x ++ t) (h ++ y) (x.size + i) (by rw [e2]; omega), win_right t h i (by omega)]
      omega
    · rw [win_left x t i (by omega), app_assoc, win_left x (t ++ (h ++ y)) i (by omega), ← app_assoc, win_right (t ++ h) y i (by rw [e4]; omega)]
  have a4 : sumTo (fun i => Φ (win (x ++ t ++ (h ++ y)) (x.size + t.size + i))) h.size - sumTo (fun i => Φ (win (h ++ y) i)) h.size = sumTo (fun i => Φ (win (t ++ h) (t.size + i))) h.size - sumTo (fun i => Φ (win h i)) h.size := by
    refine sumTo_sub _ fun i hi => ?_
    show Φ _ - Φ _ = Φ _ - Φ _
    by_cases hc : 4 ≤ i
    · have := win_left (x ++ t) (h ++ y) i (by omega)
      rw [e2] at this
      rw [this, win_left t h i (by omega)]
      omega
    · rw [win_right h y i (by omega), app_assoc, Nat.add_assoc, win_left x (t ++ (h ++ y)) (t.size + i) (by omega), ← app_assoc, win_right (t ++ h) y (t.size + i) (by rw [e4]; omega)]
  omega

/-- The counts. -/
def fU (w : Nat → Nat) : Int := if cU w = true then 1 else 0
def fC (w : Nat → Nat) : Int := if cB w = true then 1 else 0
def fW (w : Nat → Nat) : Int := if cB w = true then cW w else 0
theorem bound_zero (s : ByteArray) : boundF s 0 = true := by rw [bound_iff]; intro k _ h; omega
theorem bound_up (s : ByteArray) {i : Nat} (hi : i < s.size) (hb : boundF s i = true) : boundF s (up s i) = true := by
  rw [bound_iff] at hb ⊢
  intro k h1 h2
  have := up_gt hi
  rcases (by omega : k < i ∨ k = i ∨ i < k) with h | h | h
  · have h4 := sz_le4 (from_ s k)
    by_cases e : i ≤ k + 3
    · have := hb k e h; omega
    · unfold up at *; omega
  · subst h; exact Nat.le_refl _
  · have := (mid_one s hi h h2).2; omega
theorem no_mid (s : ByteArray) {i k : Nat} (hi : i < s.size) (h1 : i < k) (h2 : k < up s i) : boundF s k = false := by
  cases h : boundF s k with
  | false => rfl
  | true =>
    rw [bound_iff] at h
    have h4 := sz_le4 (from_ s i)
    have := h i (by unfold up at h2; omega) h1
    omega
theorem clB_bound {s : ByteArray} {i : Nat} (h0 : i < s.size) (h : clB s i = true) : boundF s i = true := by
  by_cases e : i = 0
  · subst e; exact bound_zero s
  · unfold clB at h
    simp only [Bool.or_eq_true, decide_eq_true_eq, Bool.and_eq_true] at h
    rcases h with (h | h) | h
    · exact absurd h e
    · omega
    · exact h.1
theorem clB_zero (s : ByteArray) : clB s 0 = true := by simp [clB]
theorem clB_size (s : ByteArray) : clB s s.size = true := by simp [clB]
theorem nextU_up {s : ByteArray} {i : Nat} (hi : i < s.size) (hb : boundF s i = true) : nextU s i = up s i := by
  have h1 : (aroundF s i).1 = i := by unfold boundF at hb; simpa using hb
  have key : ∀ f j, j + f = i → (arFrom s i f j).1 = i → (arFrom s i f j).2 = up s i := by
    intro f
    induction f with
    | zero => intro j hj _; unfold arFrom; rw [if_neg (by omega)]
    | succ f ih =>
      intro j hj h
      unfold arFrom at h ⊢
      split
      · rename_i hlt
        rw [if_pos hlt] at h
        simp only at h
        omega
      · rename_i hlt
        rw [if_neg hlt] at h
        exact ih (j + 1) (by omega) h
  exact key _ _ (by omega) h1
/-- From a boundary of units the next boundary of clusters. -/
theorem clN_spec (s : ByteArray) : ∀ d i, s.size - i ≤ d → i < s.size → boundF s i = true → clB s (clN s i) = true ∧ (∀ k, i < k → k < clN s i → clB s k = false)
  | 0, i, hd, hi, hb => by omega
  | d + 1, i, hd, hi, hb => by
    have hn := nextU_up hi hb
    have hg := up_gt hi
    have hl := up_le (s := s) (j := i) (by omega)
    have hno : ∀ k, i < k → k < up s i → clB s k = false := by
      intro k h1 h2
      cases h : clB s k with
      | false => rfl
      | true => have := clB_bound (s := s) (i := k) (by omega) h; rw [no_mid s hi h1 h2] at this; exact absurd this (by simp)
    rw [clN_step hi, hn]
    split
    · rename_i h; exact ⟨h, hno⟩
    · rename_i h
      have hlt : up s i < s.size := by
        rcases Nat.lt_or_eq_of_le hl with h' | h'
        · exact h'
        · rw [h'] at h; exact absurd (clB_size s) h
      obtain ⟨p, q⟩ := clN_spec s d (up s i) (by omega) hlt (bound_up s hi hb)
      refine ⟨p, fun k h1 h2 => ?_⟩
      rcases (by omega : k < up s i ∨ k = up s i ∨ up s i < k) with h' | h' | h'
      · exact hno k h1 h'
      · subst h'; simpa using h
      · exact q k h' h2
theorem clAts_filter (s : ByteArray) : ∀ d i, s.size - i ≤ d → i ≤ s.size → clB s i = true → clAts s i = (List.range' i (s.size - i)).filter (clB s)
  | d, i, hd, hi, hb => by
    by_cases he : i < s.size
    · obtain ⟨p, q⟩ := clN_spec s d i hd he (clB_bound he hb)
      have hg := clN_gt he
      have hl := clN_le s i
      obtain ⟨d', rfl⟩ : ∃ d', d = d' + 1 := ⟨d - 1, by omega⟩
      rw [clAts_step he, clAts_filter s d' (clN s i) (by omega) hl p, ← filter_step (clB s) hg hl hb q]
    · rw [clAts_end (by omega), show s.size - i = 0 by omega]; rfl
theorem clAts_all (s : ByteArray) : clAts s 0 = (List.range' 0 s.size).filter (clB s) := clAts_filter s s.size 0 (by omega) (Nat.zero_le _) (clB_zero s)
theorem count_tot (s : ByteArray) : ((clAts s 0).length : Int) = Tot fC s := by
  rw [← length_sum, clAts_all, sum_filter]
  refine sumTo_congr _ fun i hi => ?_
  rw [Nat.zero_add, clB_win s hi]; rfl
theorem cells_tot (s : ByteArray) : sumW s (clAts s 0) = Tot fW s := by
  unfold sumW
  rw [clAts_all, sum_filter]
  refine sumTo_congr _ fun i hi => ?_
  rw [Nat.zero_add]
  unfold fW
  by_cases h : clB s i = true
  · rw [if_pos h, clW_win s hi (clB_bound hi h), if_pos (by rw [← clB_win s hi]; exact h)]
  · rw [if_neg h, if_neg (by rw [← clB_win s hi]; exact h)]
theorem runes_from (s : ByteArray) : ∀ f i, s.size - i ≤ f → i ≤ s.size → boundF s i = true → Lib.runeCountFrom s f i = ((List.range' i (s.size - i)).filter (boundF s)).length
  | 0, i, hf, hi, hb => by
    rw [show s.size - i = 0 by omega]; rfl
  | f + 1, i, hf, hi, hb => by
    unfold Lib.runeCountFrom
    by_cases he : i < s.size
    · have hu : i + (Utf8.decode s i).2 = up s i := by unfold up sz; rw [from_dec s he]
      rw [if_pos he, hu, runes_from s f (up s i) (by have := up_gt he; omega) (up_le hi) (bound_up s he hb), filter_step (boundF s) (up_gt he) (up_le hi) hb (fun k h1 h2 => no_mid s he h1 h2)]
      simp; omega
    · rw [if_neg he, show s.size - i = 0 by omega]; rfl
theorem runes_tot (s : ByteArray) : (Lib.runeCount s : Int) = Tot fU s := by
  unfold Lib.runeCount
  rw [runes_from s s.size 0 (by omega) (Nat.zero_le _) (bound_zero s), ← length_sum, sum_filter]
  refine sumTo_congr _ fun i hi => ?_
  simp only [Nat.zero_add, Nat.sub_zero]
  rw [bound_win s (by omega)]; rfl
end Go.Proofs.YtgmpohdkignadaaGreatDoor.Ut
