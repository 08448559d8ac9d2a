/-
  What the proof of the laws S rests on: the texts RgC. Conditions: each theorem names its own.
-/
import Derived.Test.YtfchglcclgcgfaaGreatDoorMgSzb
/-
 The document's own store (bodkinref09): edited, Replace, Insert, Delete, Reset, Switch. No condition.
-/
namespace Go.Proofs.YtfchglcclgcgfaaGreatDoor.Ut
open Go.RowKit Go.Proofs.YtfchglcclgcgfaaGreatDoor.Reg
set_option linter.unusedVariables false
set_option linter.unusedSimpArgs false

def refV (i : Stt) (now : Int) (bb : Nat) : List Value := [ptr bb, .int .i64 i.kind, .int .i64 now, .int .i64 i.low, .int .i64 i.top, .int .i64 i.moves, .int .i64 i.forced, .int .i64 i.edited]
/-- The document's store in block b, its buffer in block bb. -/
def RefIn (W : World) (b bb : Nat) (σ : Sto) : Prop := Blk W b 72 (refV σ.i (backT σ.T) bb) ∧ ∃ P, BufIn W bb σ.s P σ.i.lim
theorem RefIn.below {W W' : World} {b bb : Nat} {σ : Sto} (h : RefIn W b bb σ) (hb : Below W.heap.size W W') : RefIn W' b bb σ := by
 obtain ⟨h1, P, h2⟩ := h; exact ⟨h1.below hb, P, h2.below hb⟩
theorem RefIn.chg {W W' : World} {b bb : Nat} {σ : Sto} {S : Nat → Prop} (h : RefIn W b bb σ) (hc : Chg S W W') (h1 : ¬ S b) (h2 : ¬ S bb) : RefIn W' b bb σ := by
 obtain ⟨k1, P, k2⟩ := h; exact ⟨k1.chg hc h1, P, Blk.chg k2 hc h2⟩
theorem RefIn.lt {W : World} {b bb : Nat} {σ : Sto} (h : RefIn W b bb σ) : b < W.heap.size ∧ bb < W.heap.size := by
 obtain ⟨h1, P, h2⟩ := h; exact ⟨h1.lies.1, Blk.lies h2 |>.1⟩
theorem RefIn.ne {W : World} {b bb : Nat} {σ : Sto} (h : RefIn W b bb σ) : b ≠ bb := by
 obtain ⟨h1, P, h2⟩ := h
 intro e
 subst e
 exact absurd (h1.same h2) (by decide)
/-- Its two blocks are of no rope. -/
theorem RefIn.noRope {W : World} {b bb : Nat} {σ : Sto} (h : RefIn W b bb σ) : NoRope W (fun k => k = b ∨ k = bb) := by
 obtain ⟨h1, P, h2⟩ := h
 rintro k vs T (rfl | rfl) hT
 ·exact blk_no_blk h1 (by decide) hT
 ·exact blk_no_blk h2 (by decide) hT
theorem RefIn.mv {W W' : World} {b bb : Nat} {σ : Sto} (h : RefIn W b bb σ) (hc : Chg (fun k => k = b ∨ k = bb) W W') : Mv (fun k => k = b ∨ k = bb) W W' := ⟨hc, h.noRope.keeps hc⟩
set_option maxRecDepth 100000 in
set_option maxHeartbeats 2000000 in
theorem RfEdited_stay {W : World} {b bb : Nat} {i : Stt} {now : Int} {s : ByteArray} {P : Int} (h1 : Blk W b 72 (refV i now bb)) (h2 : BufIn W bb s P i.lim) (hl : i.low < i.top) (z : Int) (hg : goesTo i now s.size = now) :
  Calls Tryz.prog 109 #[ptr b, .int .i64 z] W fun e w' => e = .returned (.tuple #[]) ∧ Blk w' b 72 (refV { i with edited := IntKind.i64.wrap (i.edited + z) } now bb) ∧ Chg (fun k => k = b) W w' := by
 have hne : b ≠ bb := by
  intro e
  subst e
  exact absurd (h1.same h2) (by decide)
 obtain ⟨q7, f7⟩ := h1.lies.2 7 _ rfl
 have hbl := h1.lies.1
 obtain ⟨E, hE⟩ : ∃ E, IntKind.i64.wrap (i.edited + z) = E := ⟨_, rfl⟩
 have HC := Lib.hid (Chg.set W ⟨b, 7, none⟩ (.int .i64 E))
 have HK := Lib.hid (show Blk (W.setCell ⟨b, 7, none⟩ (.int .i64 E)) b 72 (refV { i with edited := E } now bb) from h1.set 7 (.int .i64 E))
 have HF := Lib.hid (show BufIn (W.setCell ⟨b, 7, none⟩ (.int .i64 E)) bb s P i.lim from Blk.chg h2 HC.out (by show ¬ bb = b; exact fun e => hne e.symm))
 obtain ⟨N, hN⟩ : ∃ N, s.size = N := ⟨_, rfl⟩
 rw [hN] at hg
 have hcs : (i.kind ≠ 3 ∧ ¬ i.top ≤ (N : Int) ∧ ¬ (N : Int) ≤ i.low) ∨ (i.kind ≠ 3 ∧ i.top ≤ (N : Int) ∧ ¬ (N : Int) ≤ i.low) ∨ (i.kind ≠ 3 ∧ ¬ i.top ≤ (N : Int) ∧ (N : Int) ≤ i.low) ∨
   (i.kind = 3 ∧ ¬ i.top ≤ (N : Int) ∧ ¬ (N : Int) ≤ i.low) ∨ (i.kind = 3 ∧ i.top ≤ (N : Int) ∧ ¬ (N : Int) ≤ i.low ∧ now = 2) ∨ (i.kind = 3 ∧ ¬ i.top ≤ (N : Int) ∧ (N : Int) ≤ i.low ∧ now = 1) := by
  unfold goesTo at hg
  by_cases hk : i.kind = 3
  ·rw [if_pos hk] at hg
   split at hg
   ·rename_i h; exact .inr (.inr (.inr (.inr (.inr ⟨hk, by omega, h, hg.symm⟩))))
   ·split at hg
    ·rename_i h h'; exact .inr (.inr (.inr (.inr (.inl ⟨hk, h', h, hg.symm⟩))))
    ·rename_i h h'; exact .inr (.inr (.inr (.inl ⟨hk, h', h⟩)))
  ·rcases (by omega : (¬ i.top ≤ (N : Int) ∧ ¬ (N : Int) ≤ i.low) ∨ (i.top ≤ (N : Int) ∧ ¬ (N : Int) ≤ i.low) ∨ (¬ i.top ≤ (N : Int) ∧ (N : Int) ≤ i.low)) with h | h | h
   ·exact .inl ⟨hk, h⟩
   ·exact .inr (.inl ⟨hk, h⟩)
   ·exact .inr (.inr (.inl ⟨hk, h⟩))
 rw [hE]
 unfold ptr
 clear h1 h2 hl hg
 rcases hcs with ⟨k1, k2, k3⟩ | ⟨k1, k2, k3⟩ | ⟨k1, k2, k3⟩ | ⟨k1, k2, k3⟩ | ⟨k1, k2, k3, rfl⟩ | ⟨k1, k2, k3, rfl⟩
 all_goals
  try have kb : (i.kind == 3) = false := by rw [beq_eq_false_iff_ne]; exact k1
  go_enter Tryz.func109, Tryz.ntmps109
  go_upto_region 1 with fail
  generalize W.setCell ⟨b, 7, none⟩ (.int .i64 E) = w1 at *
  clear q7 f7 hE
  obtain ⟨c0, c1, c2, c3, c4⟩ : w1.cell? ⟨b, 0, none⟩ = some (ptr bb) ∧ w1.cell? ⟨b, 1, none⟩ = some (.int .i64 i.kind) ∧ w1.cell? ⟨b, 2, none⟩ = some (.int .i64 _) ∧ w1.cell? ⟨b, 3, none⟩ = some (.int .i64 i.low) ∧ w1.cell? ⟨b, 4, none⟩ = some (.int .i64 i.top) :=
   ⟨(HK.out.lies.2 0 _ rfl).1, (HK.out.lies.2 1 _ rfl).1, (HK.out.lies.2 2 _ rfl).1, (HK.out.lies.2 3 _ rfl).1, (HK.out.lies.2 4 _ rfl).1⟩
  have d0 := (Blk.lies HF.out |>.2 0 _ rfl).1
  unfold ptr at c0
  go_wp2
  go_quiet (fail)
  go_wp2
  go_quiet (fail)
  go_wp2
  go_end0
  exact ⟨rfl, HK.out.below (Drawn.below _), HC.out.then_below (Drawn.below _)⟩
set_option maxRecDepth 100000 in
set_option maxHeartbeats 2000000 in
theorem RfEdited_move {W : World} {b bb : Nat} {i : Stt} {now : Int} {s : ByteArray} {P : Int} (h1 : Blk W b 72 (refV i now bb)) (h2 : BufIn W bb s P i.lim) (hl : i.low < i.top) (z : Int) (hnow : now = 1 ∨ now = 2) (hg : goesTo i now s.size ≠ now) :
  Calls Tryz.prog 109 #[ptr b, .int .i64 z] W fun e w' => e = .returned (.tuple #[]) ∧ Blk w' b 72 (refV { i with edited := IntKind.i64.wrap (i.edited + z), moves := IntKind.i64.wrap (i.moves + 1) } (goesTo i now s.size) bb) ∧ Chg (fun k => k = b) W w' := by
 have hne : b ≠ bb := by
  intro e
  subst e
  exact absurd (h1.same h2) (by decide)
 obtain ⟨q7, f7⟩ := h1.lies.2 7 _ rfl
 have hbl := h1.lies.1
 obtain ⟨E, hE⟩ : ∃ E, IntKind.i64.wrap (i.edited + z) = E := ⟨_, rfl⟩
 have HC := Lib.hid (Chg.set W ⟨b, 7, none⟩ (.int .i64 E))
 have HK := Lib.hid (show Blk (W.setCell ⟨b, 7, none⟩ (.int .i64 E)) b 72 (refV { i with edited := E } now bb) from h1.set 7 (.int .i64 E))
 have HF := Lib.hid (show BufIn (W.setCell ⟨b, 7, none⟩ (.int .i64 E)) bb s P i.lim from Blk.chg h2 HC.out (by show ¬ bb = b; exact fun e => hne e.symm))
 obtain ⟨N, hN⟩ : ∃ N, s.size = N := ⟨_, rfl⟩
 rw [hN] at hg ⊢
 have hcs : (i.kind = 3 ∧ i.top ≤ (N : Int) ∧ ¬ (N : Int) ≤ i.low ∧ now = 1 ∧ goesTo i now N = 2) ∨ (i.kind = 3 ∧ ¬ i.top ≤ (N : Int) ∧ (N : Int) ≤ i.low ∧ now = 2 ∧ goesTo i now N = 1) := by
  unfold goesTo at hg ⊢
  by_cases hk : i.kind = 3
  ·rw [if_pos hk] at hg ⊢
   by_cases h1 : (N : Int) ≤ i.low
   ·rw [if_pos h1] at hg ⊢
    exact .inr ⟨hk, by omega, h1, by omega, rfl⟩
   ·rw [if_neg h1] at hg ⊢
    by_cases h2 : i.top ≤ (N : Int)
    ·rw [if_pos h2] at hg ⊢
     exact .inl ⟨hk, h2, h1, by omega, rfl⟩
    ·rw [if_neg h2] at hg
     exact absurd rfl hg
  ·rw [if_neg hk] at hg
   exact absurd rfl hg
 obtain ⟨M, hM⟩ : ∃ M, IntKind.i64.wrap (i.moves + 1) = M := ⟨_, rfl⟩
 rw [hE, hM]
 unfold ptr
 clear h1 h2 hl hg hnow
 rcases hcs with ⟨k1, k2, k3, rfl, hgo⟩ | ⟨k1, k2, k3, rfl, hgo⟩
 ·rw [hgo]
  go_enter Tryz.func109, Tryz.ntmps109
  go_upto_region 1 with fail
  generalize W.setCell ⟨b, 7, none⟩ (.int .i64 E) = w1 at *
  clear q7 f7 hE hgo
  have HB := Lib.hid (Below.refl w1.heap.size w1)
  obtain ⟨c0, c1, c2, c3, c4⟩ : w1.cell? ⟨b, 0, none⟩ = some (ptr bb) ∧ w1.cell? ⟨b, 1, none⟩ = some (.int .i64 i.kind) ∧ w1.cell? ⟨b, 2, none⟩ = some (.int .i64 _) ∧ w1.cell? ⟨b, 3, none⟩ = some (.int .i64 i.low) ∧ w1.cell? ⟨b, 4, none⟩ = some (.int .i64 i.top) :=
   ⟨(HK.out.lies.2 0 _ rfl).1, (HK.out.lies.2 1 _ rfl).1, (HK.out.lies.2 2 _ rfl).1, (HK.out.lies.2 3 _ rfl).1, (HK.out.lies.2 4 _ rfl).1⟩
  have d0 := (Blk.lies HF.out |>.2 0 _ rfl).1
  unfold ptr at c0
  go_wp2
  go_quiet (fail)
  clear c0 c1 c2 c3 c4 d0
  have hD := Drawn.below (w := w1) nq
  have HK := Lib.hid (HK.out.below hD)
  have HF := Lib.hid (HF.out.below hD)
  have HB := Lib.hid (HB.out.trans (hD.mono HB.out.size))
  clear hD
  obtain ⟨w2, hW⟩ : ∃ W, w1.drewN nq = W := ⟨_, rfl⟩
  rw [hW] at HK HF HB
  rw [hW]
  clear hW
  obtain ⟨c0, c1, c2, c3, c4⟩ : w2.cell? ⟨b, 0, none⟩ = some (ptr bb) ∧ w2.cell? ⟨b, 1, none⟩ = some (.int .i64 i.kind) ∧ w2.cell? ⟨b, 2, none⟩ = some (.int .i64 _) ∧ w2.cell? ⟨b, 3, none⟩ = some (.int .i64 i.low) ∧ w2.cell? ⟨b, 4, none⟩ = some (.int .i64 i.top) :=
   ⟨(HK.out.lies.2 0 _ rfl).1, (HK.out.lies.2 1 _ rfl).1, (HK.out.lies.2 2 _ rfl).1, (HK.out.lies.2 3 _ rfl).1, (HK.out.lies.2 4 _ rfl).1⟩
  have d0 := (Blk.lies HF.out |>.2 0 _ rfl).1
  unfold ptr at c0
  go_wp2
  go_quiet (fail)
  clear c0 c1 c2 c3 c4 d0
  have hD := Drawn.below (w := w2) nq
  have HK := Lib.hid (HK.out.below hD)
  have HF := Lib.hid (HF.out.below hD)
  have HB := Lib.hid (HB.out.trans (hD.mono HB.out.size))
  clear hD
  obtain ⟨w3, hW⟩ : ∃ W, w2.drewN nq = W := ⟨_, rfl⟩
  rw [hW] at HK HF HB
  rw [hW]
  clear hW
  have c1 := (HK.out.lies.2 1 _ rfl).1
  obtain ⟨c2, f2⟩ := HK.out.lies.2 2 _ rfl
  obtain ⟨c5, f5⟩ := HK.out.lies.2 5 _ rfl
  have hbl3 := HK.out.lies.1
  have HE := Lib.hid (And.intro (((HK.out.set 2 (.int .i64 2)).set 5 (.int .i64 M))) ((HC.out.then_below HB.out).trans ((Chg.set w3 ⟨b, 2, none⟩ (.int .i64 2)).trans (Chg.set _ ⟨b, 5, none⟩ (.int .i64 M)) (fun _ _ h => h)) (fun _ _ h => h)))
  clear HC HB HF
  go_wp2
  go_end0
  have hE1 := HE.out.1
  simp only [refV, k1, List.set_cons_succ, List.set_cons_zero] at hE1 ⊢
  exact ⟨trivial, hE1, HE.out.2⟩
 ·rw [hgo]
  go_enter Tryz.func109, Tryz.ntmps109
  go_upto_region 1 with fail
  generalize W.setCell ⟨b, 7, none⟩ (.int .i64 E) = w1 at *
  clear q7 f7 hE hgo
  have HB := Lib.hid (Below.refl w1.heap.size w1)
  obtain ⟨c0, c1, c2, c3, c4⟩ : w1.cell? ⟨b, 0, none⟩ = some (ptr bb) ∧ w1.cell? ⟨b, 1, none⟩ = some (.int .i64 i.kind) ∧ w1.cell? ⟨b, 2, none⟩ = some (.int .i64 _) ∧ w1.cell? ⟨b, 3, none⟩ = some (.int .i64 i.low) ∧ w1.cell? ⟨b, 4, none⟩ = some (.int .i64 i.top) :=
   ⟨(HK.out.lies.2 0 _ rfl).1, (HK.out.lies.2 1 _ rfl).1, (HK.out.lies.2 2 _ rfl).1, (HK.out.lies.2 3 _ rfl).1, (HK.out.lies.2 4 _ rfl).1⟩
  have d0 := (Blk.lies HF.out |>.2 0 _ rfl).1
  unfold ptr at c0
  go_wp2
  go_quiet (fail)
  clear c0 c1 c2 c3 c4 d0
  have hD := Drawn.below (w := w1) nq
  have HK := Lib.hid (HK.out.below hD)
  have HF := Lib.hid (HF.out.below hD)
  have HB := Lib.hid (HB.out.trans (hD.mono HB.out.size))
  clear hD
  obtain ⟨w2, hW⟩ : ∃ W, w1.drewN nq = W := ⟨_, rfl⟩
  rw [hW] at HK HF HB
  rw [hW]
  clear hW
  obtain ⟨c0, c1, c2, c3, c4⟩ : w2.cell? ⟨b, 0, none⟩ = some (ptr bb) ∧ w2.cell? ⟨b, 1, none⟩ = some (.int .i64 i.kind) ∧ w2.cell? ⟨b, 2, none⟩ = some (.int .i64 _) ∧ w2.cell? ⟨b, 3, none⟩ = some (.int .i64 i.low) ∧ w2.cell? ⟨b, 4, none⟩ = some (.int .i64 i.top) :=
   ⟨(HK.out.lies.2 0 _ rfl).1, (HK.out.lies.2 1 _ rfl).1, (HK.out.lies.2 2 _ rfl).1, (HK.out.lies.2 3 _ rfl).1, (HK.out.lies.2 4 _ rfl).1⟩
  have d0 := (Blk.lies HF.out |>.2 0 _ rfl).1
  unfold ptr at c0
  go_wp2
  go_quiet (fail)
  clear c0 c1 c2 c3 c4 d0
  have hD := Drawn.below (w := w2) nq
  have HK := Lib.hid (HK.out.below hD)
  have HF := Lib.hid (HF.out.below hD)
  have HB := Lib.hid (HB.out.trans (hD.mono HB.out.size))
  clear hD
  obtain ⟨w3, hW⟩ : ∃ W, w2.drewN nq = W := ⟨_, rfl⟩
  rw [hW] at HK HF HB
  rw [hW]
  clear hW
  have c1 := (HK.out.lies.2 1 _ rfl).1
  obtain ⟨c2, f2⟩ := HK.out.lies.2 2 _ rfl
  obtain ⟨c5, f5⟩ := HK.out.lies.2 5 _ rfl
  have hbl3 := HK.out.lies.1
  have HE := Lib.hid (And.intro (((HK.out.set 2 (.int .i64 1)).set 5 (.int .i64 M))) ((HC.out.then_below HB.out).trans ((Chg.set w3 ⟨b, 2, none⟩ (.int .i64 1)).trans (Chg.set _ ⟨b, 5, none⟩ (.int .i64 M)) (fun _ _ h => h)) (fun _ _ h => h)))
  clear HC HB HF
  go_wp2
  go_end0
  have hE1 := HE.out.1
  simp only [refV, k1, List.set_cons_succ, List.set_cons_zero] at hE1 ⊢
  exact ⟨trivial, hE1, HE.out.2⟩
/-- edited, behind a new text. -/
theorem RfEdited {W : World} {b bb : Nat} {σ : Sto} (h : RefIn W b bb σ) (hl : σ.i.low < σ.i.top) (ht : σ.T = 30 ∨ σ.T = 148) (z : Int) :
  Calls Tryz.prog 109 #[ptr b, .int .i64 z] W fun e w' => e = .returned (.tuple #[]) ∧ RefIn w' b bb ⟨edI σ.i σ.T σ.s.size z, edT σ.i σ.T σ.s.size, σ.s⟩ ∧ Chg (fun k => k = b) W w' := by
 have hne : ¬ bb = b := fun e => h.ne e.symm
 obtain ⟨h1, P, h2⟩ := h
 obtain ⟨g1, g2, g3⟩ := edT_goes σ.i σ.s.size ht hl
 by_cases hg : goesTo σ.i (backT σ.T) σ.s.size = backT σ.T
 ·refine (RfEdited_stay h1 h2 hl z hg).mono ?_
  rintro e w' ⟨rfl, k1, k2⟩
  refine ⟨rfl, ⟨?_, P, Blk.chg h2 k2 hne⟩, k2⟩
  show Blk w' b _ (refV (edI σ.i σ.T σ.s.size z) (backT (edT σ.i σ.T σ.s.size)) bb)
  rw [g1, hg]
  unfold edI
  rw [if_pos (g3.2 hg)]
  exact k1
 ·have hnow : backT σ.T = 1 ∨ backT σ.T = 2 := by rcases ht with h | h <;> rw [h] <;> simp [backT_gap, backT_rope]
  refine (RfEdited_move h1 h2 hl z hnow hg).mono ?_
  rintro e w' ⟨rfl, k1, k2⟩
  refine ⟨rfl, ⟨?_, P, Blk.chg h2 k2 hne⟩, k2⟩
  show Blk w' b _ (refV (edI σ.i σ.T σ.s.size z) (backT (edT σ.i σ.T σ.s.size)) bb)
  rw [g1]
  unfold edI
  rw [if_neg (fun e => hg (g3.1 e))]
  exact k1
set_option maxRecDepth 100000 in
set_option maxHeartbeats 1000000 in
theorem RfReplace9 {W : World} {b bb : Nat} {σ : Sto} (h : RefIn W b bb σ) (hσ : σ.ok) (a c : Int) (p : ByteArray) (hz : p.size ≤ 4611686018427387904) :
  Calls Tryz.prog 80 #[ptr b, .int .i64 a, .int .i64 c, .string p] W fun e w' => e = .returned (.tuple #[.string (σ.out a c p), .int .i64 (σ.err a c p)]) ∧ RefIn w' b bb (σ.rep a c p) ∧ Chg (fun k => k = b ∨ k = bb) W w' := by
 have hne := h.ne
 have HH := Lib.hid h
 obtain ⟨h1, P, h2⟩ := h
 have HR := Lib.hid (RfReplace6 h2 hσ.fits hσ.lim a c p hz)
 have HB1 := Lib.hid h1
 have c0 := (h1.lies.2 0 _ rfl).1
 have hlow := hσ.low
 have hty := hσ.ty
 by_cases he : repE σ.s.size σ.i.lim a c p.size = 0
 ·have eo : σ.err a c p = 0 := by unfold Sto.err repA; rw [if_pos he]
  have er : σ.rep a c p = ⟨edI σ.i σ.T (repA σ.s σ.i.lim a c p).2.2.size (c + p.size), edT σ.i σ.T (repA σ.s σ.i.lim a c p).2.2.size, (repA σ.s σ.i.lim a c p).2.2⟩ := by
   unfold Sto.rep repI repTy repA
   rw [if_pos he, if_pos he, if_pos he]
  have hz2 : IntKind.i64.wrap (c + p.size) = c + p.size := by
   obtain ⟨x, y, rfl, rfl, k1, -⟩ := repE_zero he
   have := hσ.small
   exact IntWalk.i64_in _ (by omega)
  have eo2 : (repA σ.s σ.i.lim a c p).2.1 = 0 := eo
  rw [eo, er]
  rw [eo2] at HR
  obtain ⟨O, hO⟩ : ∃ O, (repA σ.s σ.i.lim a c p).1 = O := ⟨_, rfl⟩
  obtain ⟨Y, hY⟩ : ∃ Y, (repA σ.s σ.i.lim a c p).2.2 = Y := ⟨_, rfl⟩
  have hO2 : σ.out a c p = O := hO
  rw [hO, hY] at HR
  rw [hO2, hY]
  clear h1 h2 eo er eo2 hO hO2 hY he hσ
  unfold ptr at *
  go_enter Tryz.func80, Tryz.ntmps80
  go_wp2_with fail
  refine HR.out.mono ?_
  rintro e w1 ⟨rfl, ⟨P', hB⟩, hC⟩
  have HI : Hid (RefIn w1 b bb ⟨σ.i, σ.T, Y⟩) := ⟨HB1.out.chg hC hne, P', hB⟩
  have HC := Lib.hid hC
  have HEd := Lib.hid (RfEdited HI.out hlow hty (c + p.size))
  clear hB hC HI HR hlow hty
  unfold ptr at HEd
  go_wp2_with fail
  refine HEd.out.mono ?_
  rintro e w2 ⟨rfl, hI, hC⟩
  have HI := Lib.hid hI
  have HC2 := Lib.hid ((HC.out.mono (fun k hk => Or.inr hk)).trans hC (fun k _ hk => Or.inl hk))
  clear hI hC HEd
  go_wp2
  refine bodyPost_ret (v := .tuple #[.string O, .int .i64 0]) (by simp [results, Tryz.results80, go_sem]) rfl ⟨rfl, HI.out, HC2.out⟩
 ·have er : σ.rep a c p = σ := by
   unfold Sto.rep repI repTy repA
   rw [if_neg he, if_neg he, if_neg he]
  have eo : σ.out a c p = ⟨#[]⟩ := by unfold Sto.out repA; rw [if_neg he]
  have ee : σ.err a c p = repE σ.s.size σ.i.lim a c p.size := by unfold Sto.err repA; rw [if_neg he]
  have hA : repA σ.s σ.i.lim a c p = (⟨#[]⟩, repE σ.s.size σ.i.lim a c p.size, σ.s) := by unfold repA; rw [if_neg he]
  rw [hA] at HR
  rw [er, eo, ee]
  have hE := repE_not he
  obtain ⟨E, hEE⟩ : ∃ E, repE σ.s.size σ.i.lim a c p.size = E := ⟨_, rfl⟩
  rw [hEE] at HR hE ⊢
  clear h1 h2 eo er ee he hσ hA hEE hlow hty
  unfold ptr at *
  rcases hE with rfl | rfl
  all_goals
   go_enter Tryz.func80, Tryz.ntmps80
   go_wp2_with fail
   refine HR.out.mono ?_
   rintro e w1 ⟨rfl, ⟨P', hB⟩, hC⟩
   have HI : Hid (RefIn w1 b bb σ) := ⟨HB1.out.chg hC hne, P', hB⟩
   have HC := Lib.hid (hC.mono (S := fun k => k = bb) (T := fun k => k = b ∨ k = bb) (fun k hk => Or.inr hk))
   clear hB hC HR
   go_wp2
   refine bodyPost_ret (by simp [results, Tryz.results80, go_sem]) rfl ⟨rfl, HI.out, HC.out⟩
theorem RfInsert9 {W : World} {b bb : Nat} {σ : Sto} (h : RefIn W b bb σ) (hσ : σ.ok) (a : Int) (p : ByteArray) (hz : p.size ≤ 4611686018427387904) :
  Calls Tryz.prog 78 #[ptr b, .int .i64 a, .string p] W fun e w' => e = .returned (.int .i64 (σ.err a 0 p)) ∧ RefIn w' b bb (σ.rep a 0 p) ∧ Chg (fun k => k = b ∨ k = bb) W w' := by
 have H := Lib.hid (RfReplace9 h hσ a 0 p hz)
 clear h hσ
 unfold ptr at *
 go_enter Tryz.func78, Tryz.ntmps78
 go_wp2_with fail
 refine H.out.mono ?_
 rintro e w1 ⟨rfl, h1, h2⟩
 have HI := Lib.hid h1
 have HC := Lib.hid h2
 clear h1 h2 H
 go_wp2
 go_ret
 exact ⟨rfl, HI.out, HC.out⟩
theorem RfDelete9 {W : World} {b bb : Nat} {σ : Sto} (h : RefIn W b bb σ) (hσ : σ.ok) (a c : Int) :
  Calls Tryz.prog 79 #[ptr b, .int .i64 a, .int .i64 c] W fun e w' => e = .returned (.tuple #[.string (σ.out a c ⟨#[]⟩), .int .i64 (σ.err a c ⟨#[]⟩)]) ∧ RefIn w' b bb (σ.rep a c ⟨#[]⟩) ∧ Chg (fun k => k = b ∨ k = bb) W w' := by
 have H := Lib.hid (RfReplace9 h hσ a c ⟨#[]⟩ (by decide))
 generalize σ.out a c ⟨#[]⟩ = O at *
 generalize σ.err a c ⟨#[]⟩ = E at *
 clear h hσ
 unfold ptr at *
 go_enter Tryz.func79, Tryz.ntmps79
 go_wp2_with fail
 refine H.out.mono ?_
 rintro e w1 ⟨rfl, h1, h2⟩
 have HI := Lib.hid h1
 have HC := Lib.hid h2
 clear h1 h2 H
 go_wp2
 refine bodyPost_ret (v := .tuple #[.string O, .int .i64 E]) (by simp [results, Tryz.results79, go_sem]) rfl ⟨rfl, HI.out, HC.out⟩
end Go.Proofs.YtfchglcclgcgfaaGreatDoor.Ut
