/-
  What the proof of the laws S rests on: the texts RgD. Conditions: each theorem names its own.
-/
import Derived.Test.YtfchglcclgcgfaaGreatDoorMgSzc
import Derived.Test.YtfchglcclgcgfaaGreatDoorMgSz
/-
 The document's own store (bodkinref09): Reset, Switch, Clone, New, and its readers. No condition.
-/
namespace Go.Proofs.YtfchglcclgcgfaaGreatDoor.Ut
open Go.RowKit Go.Proofs.YtfchglcclgcgfaaGreatDoor.Reg
set_option linter.unusedVariables false
set_option linter.unusedSimpArgs false

theorem repE_reset (n lim z : Nat) : repE n lim 0 n z = if lim < z then 2 else 0 := by
 unfold repE
 rw [if_neg (by omega)]
 by_cases h : lim < z
 ·rw [if_pos h, if_pos (by omega)]
 ·rw [if_neg h, if_neg (by omega)]
theorem repl_reset (s p : ByteArray) : repl s 0 s.size p = p := by
 apply ByteArray.ext
 show (s.extract 0 0 ++ p ++ s.extract (0 + s.size) s.size).data = p.data
 have e1 : s.extract 0 0 = ⟨#[]⟩ := by apply ByteArray.ext; simp
 have e2 : s.extract (0 + s.size) s.size = ⟨#[]⟩ := by
  apply ByteArray.ext
  apply Array.eq_empty_of_size_eq_zero
  show (s.extract (0 + s.size) s.size).size = 0
  rw [ByteArray.size_extract]; omega
 rw [e1, e2]
 simp [ByteArray.data_append]
theorem rep_reset (σ : Sto) (p : ByteArray) : σ.err 0 σ.s.size p = (if σ.i.lim < p.size then 2 else 0) ∧ σ.rep 0 σ.s.size p = if σ.i.lim < p.size then σ else ⟨edI σ.i σ.T p.size (σ.s.size + p.size), edT σ.i σ.T p.size, p⟩ := by
 unfold Sto.err Sto.rep repI repTy repA
 rw [repE_reset]
 by_cases h : σ.i.lim < p.size
 ·simp [h]
 ·simp only [h, if_false, if_true, Int.toNat_zero, Int.toNat_natCast, repl_reset]
  exact ⟨trivial, trivial⟩
set_option maxRecDepth 100000 in
set_option maxHeartbeats 1000000 in
theorem RfReset9 {W : World} {b bb : Nat} {σ : Sto} (h : RefIn W b bb σ) (hσ : σ.ok) (p : ByteArray) :
  Calls Tryz.prog 81 #[ptr b, .string p] W fun e w' => e = .returned (.int .i64 (σ.err 0 σ.s.size p)) ∧ RefIn w' b bb (σ.rep 0 σ.s.size p) ∧ Chg (fun k => k = b ∨ k = bb) W w' := by
 have hne := h.ne
 have HH := Lib.hid h
 obtain ⟨h1, P, h2⟩ := h
 have HR := Lib.hid (RfReset6 h2 p)
 have HB1 := Lib.hid h1
 have c0 := (h1.lies.2 0 _ rfl).1
 have d0 := (Blk.lies h2 |>.2 0 _ rfl).1
 have hlow := hσ.low
 have hty := hσ.ty
 have hsm := hσ.small
 have hlm := hσ.lim
 obtain ⟨e1, e2⟩ := rep_reset σ p
 rw [e1, e2]
 by_cases hq : σ.i.lim < p.size
 ·rw [if_pos hq, if_pos hq]
  rw [if_pos hq, if_pos hq] at HR
  clear h1 h2 hσ e1 e2 hq hsm hlm hlow hty
  unfold ptr at *
  go_enter Tryz.func81, Tryz.ntmps81
  go_wp2_with fail
  refine HR.out.mono ?_
  rintro e w1 ⟨rfl, ⟨P', hB⟩, hC⟩
  have HI : Hid (RefIn w1 b bb σ) := ⟨HB1.out.chg hC hne, P', hB⟩
  have HC := Lib.hid (hC.mono (S := fun k => k = bb) (T := fun k => k = b ∨ k = bb) (fun k hk => Or.inr hk))
  clear hB hC HR
  go_wp2
  go_ret
  exact ⟨rfl, HI.out, HC.out⟩
 ·rw [if_neg hq, if_neg hq]
  rw [if_neg hq, if_neg hq] at HR
  have hz2 : IntKind.i64.wrap ((σ.s.size : Int) + (p.size : Int)) = (σ.s.size : Int) + (p.size : Int) := IntWalk.i64_in _ (by omega)
  clear h1 h2 hσ e1 e2 hq hsm hlm
  unfold ptr at *
  go_enter Tryz.func81, Tryz.ntmps81
  go_wp2_with fail
  refine HR.out.mono ?_
  rintro e w1 ⟨rfl, ⟨P', hB⟩, hC⟩
  have HI : Hid (RefIn w1 b bb ⟨σ.i, σ.T, p⟩) := ⟨HB1.out.chg hC hne, P', hB⟩
  have HC := Lib.hid hC
  have HEd := Lib.hid (RfEdited HI.out hlow hty ((σ.s.size : Int) + (p.size : Int)))
  clear hB hC HI HR hlow hty
  unfold ptr at HEd
  go_wp2_with fail
  refine HEd.out.mono ?_
  rintro e w2 ⟨rfl, hI, hC⟩
  have HI := Lib.hid hI
  have HC2 := Lib.hid ((HC.out.mono (T := fun k => k = b ∨ k = bb) (fun k hk => Or.inr hk)).trans hC (fun k _ hk => Or.inl hk))
  clear hI hC HEd
  go_wp2
  go_ret
  exact ⟨rfl, HI.out, HC2.out⟩
theorem backT_typeK {k : Int} (h : k = 1 ∨ k = 2) : backT (typeK k) = k := by rcases h with rfl | rfl <;> rfl
set_option maxRecDepth 100000 in
theorem RfSwitch9_bad (b : Nat) (k : Int) (w : World) (h : ¬ (k = 1 ∨ k = 2)) : Calls Tryz.prog 82 #[ptr b, .int .i64 k] w fun e w' => e = .returned (.int .i64 13) ∧ w' = w := by
 have h1 : (k != 1) = true := by simpa using fun e => h (.inl e)
 have h2 : (k != 2) = true := by simpa using fun e => h (.inr e)
 unfold ptr
 go_enter Tryz.func82, Tryz.ntmps82
 go_wp2
 go_ret
 exact ⟨rfl, rfl⟩
set_option maxRecDepth 100000 in
set_option maxHeartbeats 1000000 in
theorem RfSwitch9_ok {W : World} {b bb : Nat} {σ : Sto} (h : RefIn W b bb σ) (k : Int) (hk : k = 1 ∨ k = 2) :
  Calls Tryz.prog 82 #[ptr b, .int .i64 k] W fun e w' => e = .returned (.int .i64 0) ∧ RefIn w' b bb (σ.swt k) ∧ Chg (fun k => k = b ∨ k = bb) W w' := by
 have hne : ¬ bb = b := fun e => h.ne e.symm
 have HH := Lib.hid h
 obtain ⟨h1, P, h2⟩ := h
 obtain ⟨c2, f2⟩ := h1.lies.2 2 _ rfl
 obtain ⟨c6, f6⟩ := h1.lies.2 6 _ rfl
 have hbl := h1.lies.1
 have hd : k = 1 ∧ (k != 1) = false ∨ k = 2 ∧ (k != 1) = true ∧ (k != 2) = false := by rcases hk with rfl | rfl <;> simp
 unfold Sto.swt
 by_cases hq : backT σ.T = k
 ·rw [if_pos hq]
  have hq2 : (backT σ.T != k) = false := by simp [hq]
  clear h1 h2 hq
  unfold ptr
  rcases hd with ⟨rfl, hd1⟩ | ⟨rfl, hd1, hd2⟩
  all_goals
   go_enter Tryz.func82, Tryz.ntmps82
   go_wp2
   go_ret
   exact ⟨rfl, HH.out, Chg.refl _ _⟩
 ·rw [if_neg hq]
  have hq2 : (backT σ.T != k) = true := by simpa using hq
  obtain ⟨M, hM⟩ : ∃ M, IntKind.i64.wrap (σ.i.forced + 1) = M := ⟨_, rfl⟩
  have hC := (Chg.set W ⟨b, 2, none⟩ (.int .i64 k)).trans (Chg.set (W.setCell ⟨b, 2, none⟩ (.int .i64 k)) ⟨b, 6, none⟩ (.int .i64 M)) (fun _ _ h => h)
  have hB := (h1.set 2 (.int .i64 k)).set 6 (.int .i64 M)
  have HE : Hid (RefIn ((W.setCell ⟨b, 2, none⟩ (.int .i64 k)).setCell ⟨b, 6, none⟩ (.int .i64 M)) b bb ⟨{ σ.i with forced := M }, typeK k, σ.s⟩ ∧ Chg (fun k => k = b ∨ k = bb) W ((W.setCell ⟨b, 2, none⟩ (.int .i64 k)).setCell ⟨b, 6, none⟩ (.int .i64 M))) := by
   refine ⟨⟨?_, P, Blk.chg h2 hC hne⟩, hC.mono (fun _ h => .inl h)⟩
   show Blk _ b _ (refV { σ.i with forced := M } (backT (typeK k)) bb)
   rw [backT_typeK hk]
   exact hB
  rw [hM]
  clear h1 h2 hq hC hB
  unfold ptr
  rcases hd with ⟨rfl, hd1⟩ | ⟨rfl, hd1, hd2⟩
  all_goals
   go_enter Tryz.func82, Tryz.ntmps82
   go_wp2
   go_ret
   exact ⟨rfl, HE.out⟩
def VCl9 (b bb n0 : Nat) (i : Stt) (now : Int) (s : ByteArray) (P : Int) : Nat → Value → World → Prop := fun d x w => match d with
 | 3 => x = .pointer (some ⟨b, 0, none⟩)
 | 4 => x = .pointer (some ⟨b, 0, none⟩)
 | 5 => x = .pointer (some ⟨b, 0, none⟩)
 | 6 => x = .pointer (some ⟨bb, 0, none⟩)
 | 7 => ∃ q, x = ptr q ∧ n0 ≤ q ∧ BufIn w q s P i.lim
 | 8 => x = .pointer (some ⟨b, 0, none⟩)
 | 9 => x = .pointer (some ⟨b, 0, none⟩)
 | 10 => x = .pointer (some ⟨b, 1, none⟩)
 | 11 => x = .int .i64 i.kind
 | 12 => x = .pointer (some ⟨b, 0, none⟩)
 | 13 => x = .pointer (some ⟨b, 0, none⟩)
 | 14 => x = .pointer (some ⟨b, 2, none⟩)
 | 15 => x = .int .i64 now
 | 16 => x = .pointer (some ⟨b, 0, none⟩)
 | 17 => x = .pointer (some ⟨b, 0, none⟩)
 | 18 => x = .pointer (some ⟨b, 3, none⟩)
 | 19 => x = .int .i64 i.low
 | 20 => x = .pointer (some ⟨b, 0, none⟩)
 | 21 => x = .pointer (some ⟨b, 0, none⟩)
 | 22 => x = .pointer (some ⟨b, 4, none⟩)
 | 23 => x = .int .i64 i.top
 | 24 => x = .pointer (some ⟨b, 0, none⟩)
 | 25 => x = .pointer (some ⟨b, 0, none⟩)
 | 26 => x = .pointer (some ⟨b, 5, none⟩)
 | 27 => x = .agg #[.int .i64 i.moves, .int .i64 i.forced, .int .i64 i.edited]
 | 28 => ∃ q, x = .agg (refV i now q).toArray ∧ n0 ≤ q ∧ BufIn w q s P i.lim
 | 29 => ∃ b' q, x = ptr b' ∧ n0 ≤ b' ∧ n0 ≤ q ∧ Blk w b' 72 (refV i now q) ∧ BufIn w q s P i.lim
 | 2 => True
 | _ => True
theorem VCl9_mono (b bb n0 : Nat) (i : Stt) (now : Int) (s : ByteArray) (P : Int) : ∀ d x w w', VCl9 b bb n0 i now s P d x w → Below w.heap.size w w' → VCl9 b bb n0 i now s P d x w' := by
 intro d x w w' h hb
 unfold VCl9 at *
 split <;> first | exact h | exact trivial | skip
 obtain ⟨q, h1, h2, h3⟩ := h
 exact ⟨q, h1, h2, h3.below hb⟩
 obtain ⟨q, h1, h2, h3⟩ := h
 exact ⟨q, h1, h2, h3.below hb⟩
 obtain ⟨b', q, h1, h2, h3, h4, h5⟩ := h
 exact ⟨b', q, h1, h2, h3, h4.below hb, h5.below hb⟩
set_option maxRecDepth 100000 in
set_option maxHeartbeats 2000000 in
theorem RfClone9 {W : World} {b bb : Nat} {σ : Sto} (h : RefIn W b bb σ) :
  Calls Tryz.prog 29 #[ptr b] W fun e w' => ∃ b' q, e = .returned (ptr b') ∧ RefIn w' b' q σ ∧ W.heap.size ≤ b' ∧ W.heap.size ≤ q ∧ Below W.heap.size W w' := by
 obtain ⟨h1, P, h2⟩ := h
 have H1 := Lib.hid h1
 have H2 := Lib.hid h2
 have c0 := (h1.lies.2 0 _ rfl).1
 have hbl := h1.lies.1
 generalize hn : backT σ.T = now at *
 clear h1 h2
 unfold ptr at *
 go_enter Tryz.func29, Tryz.ntmps29
 go_wp2
 refine wp_held_tail mixed (VCl9 b bb W.heap.size σ.i now σ.s P) (VCl9_mono _ _ _ _ _ _ _) (by kernel_rfl) 8 27 (by decide) [3, 4, 5, 6, 7, 8, 9, 10, 11, 12, 13, 14, 15, 16, 17, 18, 19, 20, 21, 22, 23, 24, 25, 26, 27, 28, 29] (by kernel_rfl) (by kernel_rfl) (by kernel_rfl) (by kernel_rfl) ?_ ?_
 ·intro j hj
  have hj' : j < 27 := hj
  rcases (by omega : j = 0 ∨ j = 1 ∨ j = 2 ∨ j = 3 ∨ j = 4 ∨ j = 5 ∨ j = 6 ∨ j = 7 ∨ j = 8 ∨ j = 9 ∨ j = 10 ∨ j = 11 ∨ j = 12 ∨ j = 13 ∨ j = 14 ∨ j = 15 ∨ j = 16 ∨ j = 17 ∨ j = 18 ∨ j = 19 ∨ j = 20 ∨ j = 21 ∨ j = 22 ∨ j = 23 ∨ j = 24 ∨ j = 25 ∨ j = 26) with rfl | rfl | rfl | rfl | rfl | rfl | rfl | rfl | rfl | rfl | rfl | rfl | rfl | rfl | rfl | rfl | rfl | rfl | rfl | rfl | rfl | rfl | rfl | rfl | rfl | rfl | rfl
  ·(refine owes_val (L := [(0, false)]) rfl rfl rfl (by kernel_rfl) ?_; intro a' w' hb' hfacts; obtain ⟨hf0, -⟩ := hfacts; replace hf0 : a'.tmps[0]?.getD undef = .pointer (some ⟨b, 0, none⟩) := hf0)
   have p0 := ((H1.out.below hb').lies.2 0 _ rfl).1; have p1 := ((H1.out.below hb').lies.2 1 _ rfl).1; have p2 := ((H1.out.below hb').lies.2 2 _ rfl).1; have p3 := ((H1.out.below hb').lies.2 3 _ rfl).1; have p4 := ((H1.out.below hb').lies.2 4 _ rfl).1; have p5 := ((H1.out.below hb').lies.2 5 _ rfl).1; have p6 := ((H1.out.below hb').lies.2 6 _ rfl).1; have p7 := ((H1.out.below hb').lies.2 7 _ rfl).1; unfold ptr at p0
   (go_simp; first | exact ⟨_, rfl, Br _, rfl⟩ | exact ⟨_, rfl, Br _, trivial⟩ | exact ⟨_, rfl, Ba _ _, trivial⟩ | exact ⟨_, rfl, Br _, congrArg (Value.int _) (IntWalk.i64_in _ (by omega))⟩)
  ·(refine owes_val (L := [(3, true)]) rfl rfl rfl (by kernel_rfl) ?_; intro a' w' hb' hfacts; obtain ⟨hf3, -⟩ := hfacts; try simp only [VCl9] at hf3)
   have p0 := ((H1.out.below hb').lies.2 0 _ rfl).1; have p1 := ((H1.out.below hb').lies.2 1 _ rfl).1; have p2 := ((H1.out.below hb').lies.2 2 _ rfl).1; have p3 := ((H1.out.below hb').lies.2 3 _ rfl).1; have p4 := ((H1.out.below hb').lies.2 4 _ rfl).1; have p5 := ((H1.out.below hb').lies.2 5 _ rfl).1; have p6 := ((H1.out.below hb').lies.2 6 _ rfl).1; have p7 := ((H1.out.below hb').lies.2 7 _ rfl).1; unfold ptr at p0
   (go_simp; first | exact ⟨_, rfl, Br _, rfl⟩ | exact ⟨_, rfl, Br _, trivial⟩ | exact ⟨_, rfl, Ba _ _, trivial⟩ | exact ⟨_, rfl, Br _, congrArg (Value.int _) (IntWalk.i64_in _ (by omega))⟩)
  ·(refine owes_val (L := [(4, true)]) rfl rfl rfl (by kernel_rfl) ?_; intro a' w' hb' hfacts; obtain ⟨hf4, -⟩ := hfacts; try simp only [VCl9] at hf4)
   have p0 := ((H1.out.below hb').lies.2 0 _ rfl).1; have p1 := ((H1.out.below hb').lies.2 1 _ rfl).1; have p2 := ((H1.out.below hb').lies.2 2 _ rfl).1; have p3 := ((H1.out.below hb').lies.2 3 _ rfl).1; have p4 := ((H1.out.below hb').lies.2 4 _ rfl).1; have p5 := ((H1.out.below hb').lies.2 5 _ rfl).1; have p6 := ((H1.out.below hb').lies.2 6 _ rfl).1; have p7 := ((H1.out.below hb').lies.2 7 _ rfl).1; unfold ptr at p0
   (go_simp; first | exact ⟨_, rfl, Br _, rfl⟩ | exact ⟨_, rfl, Br _, trivial⟩ | exact ⟨_, rfl, Ba _ _, trivial⟩ | exact ⟨_, rfl, Br _, congrArg (Value.int _) (IntWalk.i64_in _ (by omega))⟩)
  ·(refine owes_val (L := [(5, true)]) rfl rfl rfl (by kernel_rfl) ?_; intro a' w' hb' hfacts; obtain ⟨hf5, -⟩ := hfacts; try simp only [VCl9] at hf5)
   have p0 := ((H1.out.below hb').lies.2 0 _ rfl).1; have p1 := ((H1.out.below hb').lies.2 1 _ rfl).1; have p2 := ((H1.out.below hb').lies.2 2 _ rfl).1; have p3 := ((H1.out.below hb').lies.2 3 _ rfl).1; have p4 := ((H1.out.below hb').lies.2 4 _ rfl).1; have p5 := ((H1.out.below hb').lies.2 5 _ rfl).1; have p6 := ((H1.out.below hb').lies.2 6 _ rfl).1; have p7 := ((H1.out.below hb').lies.2 7 _ rfl).1; unfold ptr at p0
   (go_simp; first | exact ⟨_, rfl, Br _, rfl⟩ | exact ⟨_, rfl, Br _, trivial⟩ | exact ⟨_, rfl, Ba _ _, trivial⟩ | exact ⟨_, rfl, Br _, congrArg (Value.int _) (IntWalk.i64_in _ (by omega))⟩)
  ·(refine owes_val (L := [(6, true)]) rfl rfl rfl (by kernel_rfl) ?_; intro a' w' hb' hfacts; obtain ⟨hf6, -⟩ := hfacts; try simp only [VCl9] at hf6)
   go_simp
   refine (RfClone6 (H2.out.below hb')).mono ?_
   rintro e w3 ⟨q, rfl, hq, hn0, hb3⟩
   exact ⟨_, rfl, hb3, q, rfl, Nat.le_trans hb'.size hn0, hq⟩
  ·(refine owes_val (L := [(0, false)]) rfl rfl rfl (by kernel_rfl) ?_; intro a' w' hb' hfacts; obtain ⟨hf0, -⟩ := hfacts; replace hf0 : a'.tmps[0]?.getD undef = .pointer (some ⟨b, 0, none⟩) := hf0)
   have p0 := ((H1.out.below hb').lies.2 0 _ rfl).1; have p1 := ((H1.out.below hb').lies.2 1 _ rfl).1; have p2 := ((H1.out.below hb').lies.2 2 _ rfl).1; have p3 := ((H1.out.below hb').lies.2 3 _ rfl).1; have p4 := ((H1.out.below hb').lies.2 4 _ rfl).1; have p5 := ((H1.out.below hb').lies.2 5 _ rfl).1; have p6 := ((H1.out.below hb').lies.2 6 _ rfl).1; have p7 := ((H1.out.below hb').lies.2 7 _ rfl).1; unfold ptr at p0
   (go_simp; first | exact ⟨_, rfl, Br _, rfl⟩ | exact ⟨_, rfl, Br _, trivial⟩ | exact ⟨_, rfl, Ba _ _, trivial⟩ | exact ⟨_, rfl, Br _, congrArg (Value.int _) (IntWalk.i64_in _ (by omega))⟩)
  ·(refine owes_val (L := [(8, true)]) rfl rfl rfl (by kernel_rfl) ?_; intro a' w' hb' hfacts; obtain ⟨hf8, -⟩ := hfacts; try simp only [VCl9] at hf8)
   have p0 := ((H1.out.below hb').lies.2 0 _ rfl).1; have p1 := ((H1.out.below hb').lies.2 1 _ rfl).1; have p2 := ((H1.out.below hb').lies.2 2 _ rfl).1; have p3 := ((H1.out.below hb').lies.2 3 _ rfl).1; have p4 := ((H1.out.below hb').lies.2 4 _ rfl).1; have p5 := ((H1.out.below hb').lies.2 5 _ rfl).1; have p6 := ((H1.out.below hb').lies.2 6 _ rfl).1; have p7 := ((H1.out.below hb').lies.2 7 _ rfl).1; unfold ptr at p0
   (go_simp; first | exact ⟨_, rfl, Br _, rfl⟩ | exact ⟨_, rfl, Br _, trivial⟩ | exact ⟨_, rfl, Ba _ _, trivial⟩ | exact ⟨_, rfl, Br _, congrArg (Value.int _) (IntWalk.i64_in _ (by omega))⟩)
  ·(refine owes_val (L := [(9, true)]) rfl rfl rfl (by kernel_rfl) ?_; intro a' w' hb' hfacts; obtain ⟨hf9, -⟩ := hfacts; try simp only [VCl9] at hf9)
   have p0 := ((H1.out.below hb').lies.2 0 _ rfl).1; have p1 := ((H1.out.below hb').lies.2 1 _ rfl).1; have p2 := ((H1.out.below hb').lies.2 2 _ rfl).1; have p3 := ((H1.out.below hb').lies.2 3 _ rfl).1; have p4 := ((H1.out.below hb').lies.2 4 _ rfl).1; have p5 := ((H1.out.below hb').lies.2 5 _ rfl).1; have p6 := ((H1.out.below hb').lies.2 6 _ rfl).1; have p7 := ((H1.out.below hb').lies.2 7 _ rfl).1; unfold ptr at p0
   (go_simp; first | exact ⟨_, rfl, Br _, rfl⟩ | exact ⟨_, rfl, Br _, trivial⟩ | exact ⟨_, rfl, Ba _ _, trivial⟩ | exact ⟨_, rfl, Br _, congrArg (Value.int _) (IntWalk.i64_in _ (by omega))⟩)
  ·(refine owes_val (L := [(10, true)]) rfl rfl rfl (by kernel_rfl) ?_; intro a' w' hb' hfacts; obtain ⟨hf10, -⟩ := hfacts; try simp only [VCl9] at hf10)
   have p0 := ((H1.out.below hb').lies.2 0 _ rfl).1; have p1 := ((H1.out.below hb').lies.2 1 _ rfl).1; have p2 := ((H1.out.below hb').lies.2 2 _ rfl).1; have p3 := ((H1.out.below hb').lies.2 3 _ rfl).1; have p4 := ((H1.out.below hb').lies.2 4 _ rfl).1; have p5 := ((H1.out.below hb').lies.2 5 _ rfl).1; have p6 := ((H1.out.below hb').lies.2 6 _ rfl).1; have p7 := ((H1.out.below hb').lies.2 7 _ rfl).1; unfold ptr at p0
   (go_simp; first | exact ⟨_, rfl, Br _, rfl⟩ | exact ⟨_, rfl, Br _, trivial⟩ | exact ⟨_, rfl, Ba _ _, trivial⟩ | exact ⟨_, rfl, Br _, congrArg (Value.int _) (IntWalk.i64_in _ (by omega))⟩)
  ·(refine owes_val (L := [(0, false)]) rfl rfl rfl (by kernel_rfl) ?_; intro a' w' hb' hfacts; obtain ⟨hf0, -⟩ := hfacts; replace hf0 : a'.tmps[0]?.getD undef = .pointer (some ⟨b, 0, none⟩) := hf0)
   have p0 := ((H1.out.below hb').lies.2 0 _ rfl).1; have p1 := ((H1.out.below hb').lies.2 1 _ rfl).1; have p2 := ((H1.out.below hb').lies.2 2 _ rfl).1; have p3 := ((H1.out.below hb').lies.2 3 _ rfl).1; have p4 := ((H1.out.below hb').lies.2 4 _ rfl).1; have p5 := ((H1.out.below hb').lies.2 5 _ rfl).1; have p6 := ((H1.out.below hb').lies.2 6 _ rfl).1; have p7 := ((H1.out.below hb').lies.2 7 _ rfl).1; unfold ptr at p0
   (go_simp; first | exact ⟨_, rfl, Br _, rfl⟩ | exact ⟨_, rfl, Br _, trivial⟩ | exact ⟨_, rfl, Ba _ _, trivial⟩ | exact ⟨_, rfl, Br _, congrArg (Value.int _) (IntWalk.i64_in _ (by omega))⟩)
  ·(refine owes_val (L := [(12, true)]) rfl rfl rfl (by kernel_rfl) ?_; intro a' w' hb' hfacts; obtain ⟨hf12, -⟩ := hfacts; try simp only [VCl9] at hf12)
   have p0 := ((H1.out.below hb').lies.2 0 _ rfl).1; have p1 := ((H1.out.below hb').lies.2 1 _ rfl).1; have p2 := ((H1.out.below hb').lies.2 2 _ rfl).1; have p3 := ((H1.out.below hb').lies.2 3 _ rfl).1; have p4 := ((H1.out.below hb').lies.2 4 _ rfl).1; have p5 := ((H1.out.below hb').lies.2 5 _ rfl).1; have p6 := ((H1.out.below hb').lies.2 6 _ rfl).1; have p7 := ((H1.out.below hb').lies.2 7 _ rfl).1; unfold ptr at p0
   (go_simp; first | exact ⟨_, rfl, Br _, rfl⟩ | exact ⟨_, rfl, Br _, trivial⟩ | exact ⟨_, rfl, Ba _ _, trivial⟩ | exact ⟨_, rfl, Br _, congrArg (Value.int _) (IntWalk.i64_in _ (by omega))⟩)
  ·(refine owes_val (L := [(13, true)]) rfl rfl rfl (by kernel_rfl) ?_; intro a' w' hb' hfacts; obtain ⟨hf13, -⟩ := hfacts; try simp only [VCl9] at hf13)
   have p0 := ((H1.out.below hb').lies.2 0 _ rfl).1; have p1 := ((H1.out.below hb').lies.2 1 _ rfl).1; have p2 := ((H1.out.below hb').lies.2 2 _ rfl).1; have p3 := ((H1.out.below hb').lies.2 3 _ rfl).1; have p4 := ((H1.out.below hb').lies.2 4 _ rfl).1; have p5 := ((H1.out.below hb').lies.2 5 _ rfl).1; have p6 := ((H1.out.below hb').lies.2 6 _ rfl).1; have p7 := ((H1.out.below hb').lies.2 7 _ rfl).1; unfold ptr at p0
   (go_simp; first | exact ⟨_, rfl, Br _, rfl⟩ | exact ⟨_, rfl, Br _, trivial⟩ | exact ⟨_, rfl, Ba _ _, trivial⟩ | exact ⟨_, rfl, Br _, congrArg (Value.int _) (IntWalk.i64_in _ (by omega))⟩)
  ·(refine owes_val (L := [(14, true)]) rfl rfl rfl (by kernel_rfl) ?_; intro a' w' hb' hfacts; obtain ⟨hf14, -⟩ := hfacts; try simp only [VCl9] at hf14)
   have p0 := ((H1.out.below hb').lies.2 0 _ rfl).1; have p1 := ((H1.out.below hb').lies.2 1 _ rfl).1; have p2 := ((H1.out.below hb').lies.2 2 _ rfl).1; have p3 := ((H1.out.below hb').lies.2 3 _ rfl).1; have p4 := ((H1.out.below hb').lies.2 4 _ rfl).1; have p5 := ((H1.out.below hb').lies.2 5 _ rfl).1; have p6 := ((H1.out.below hb').lies.2 6 _ rfl).1; have p7 := ((H1.out.below hb').lies.2 7 _ rfl).1; unfold ptr at p0
   (go_simp; first | exact ⟨_, rfl, Br _, rfl⟩ | exact ⟨_, rfl, Br _, trivial⟩ | exact ⟨_, rfl, Ba _ _, trivial⟩ | exact ⟨_, rfl, Br _, congrArg (Value.int _) (IntWalk.i64_in _ (by omega))⟩)
  ·(refine owes_val (L := [(0, false)]) rfl rfl rfl (by kernel_rfl) ?_; intro a' w' hb' hfacts; obtain ⟨hf0, -⟩ := hfacts; replace hf0 : a'.tmps[0]?.getD undef = .pointer (some ⟨b, 0, none⟩) := hf0)
   have p0 := ((H1.out.below hb').lies.2 0 _ rfl).1; have p1 := ((H1.out.below hb').lies.2 1 _ rfl).1; have p2 := ((H1.out.below hb').lies.2 2 _ rfl).1; have p3 := ((H1.out.below hb').lies.2 3 _ rfl).1; have p4 := ((H1.out.below hb').lies.2 4 _ rfl).1; have p5 := ((H1.out.below hb').lies.2 5 _ rfl).1; have p6 := ((H1.out.below hb').lies.2 6 _ rfl).1; have p7 := ((H1.out.below hb').lies.2 7 _ rfl).1; unfold ptr at p0
   (go_simp; first | exact ⟨_, rfl, Br _, rfl⟩ | exact ⟨_, rfl, Br _, trivial⟩ | exact ⟨_, rfl, Ba _ _, trivial⟩ | exact ⟨_, rfl, Br _, congrArg (Value.int _) (IntWalk.i64_in _ (by omega))⟩)
  ·(refine owes_val (L := [(16, true)]) rfl rfl rfl (by kernel_rfl) ?_; intro a' w' hb' hfacts; obtain ⟨hf16, -⟩ := hfacts; try simp only [VCl9] at hf16)
   have p0 := ((H1.out.below hb').lies.2 0 _ rfl).1; have p1 := ((H1.out.below hb').lies.2 1 _ rfl).1; have p2 := ((H1.out.below hb').lies.2 2 _ rfl).1; have p3 := ((H1.out.below hb').lies.2 3 _ rfl).1; have p4 := ((H1.out.below hb').lies.2 4 _ rfl).1; have p5 := ((H1.out.below hb').lies.2 5 _ rfl).1; have p6 := ((H1.out.below hb').lies.2 6 _ rfl).1; have p7 := ((H1.out.below hb').lies.2 7 _ rfl).1; unfold ptr at p0
   (go_simp; first | exact ⟨_, rfl, Br _, rfl⟩ | exact ⟨_, rfl, Br _, trivial⟩ | exact ⟨_, rfl, Ba _ _, trivial⟩ | exact ⟨_, rfl, Br _, congrArg (Value.int _) (IntWalk.i64_in _ (by omega))⟩)
  ·(refine owes_val (L := [(17, true)]) rfl rfl rfl (by kernel_rfl) ?_; intro a' w' hb' hfacts; obtain ⟨hf17, -⟩ := hfacts; try simp only [VCl9] at hf17)
   have p0 := ((H1.out.below hb').lies.2 0 _ rfl).1; have p1 := ((H1.out.below hb').lies.2 1 _ rfl).1; have p2 := ((H1.out.below hb').lies.2 2 _ rfl).1; have p3 := ((H1.out.below hb').lies.2 3 _ rfl).1; have p4 := ((H1.out.below hb').lies.2 4 _ rfl).1; have p5 := ((H1.out.below hb').lies.2 5 _ rfl).1; have p6 := ((H1.out.below hb').lies.2 6 _ rfl).1; have p7 := ((H1.out.below hb').lies.2 7 _ rfl).1; unfold ptr at p0
   (go_simp; first | exact ⟨_, rfl, Br _, rfl⟩ | exact ⟨_, rfl, Br _, trivial⟩ | exact ⟨_, rfl, Ba _ _, trivial⟩ | exact ⟨_, rfl, Br _, congrArg (Value.int _) (IntWalk.i64_in _ (by omega))⟩)
  ·(refine owes_val (L := [(18, true)]) rfl rfl rfl (by kernel_rfl) ?_; intro a' w' hb' hfacts; obtain ⟨hf18, -⟩ := hfacts; try simp only [VCl9] at hf18)
   have p0 := ((H1.out.below hb').lies.2 0 _ rfl).1; have p1 := ((H1.out.below hb').lies.2 1 _ rfl).1; have p2 := ((H1.out.below hb').lies.2 2 _ rfl).1; have p3 := ((H1.out.below hb').lies.2 3 _ rfl).1; have p4 := ((H1.out.below hb').lies.2 4 _ rfl).1; have p5 := ((H1.out.below hb').lies.2 5 _ rfl).1; have p6 := ((H1.out.below hb').lies.2 6 _ rfl).1; have p7 := ((H1.out.below hb').lies.2 7 _ rfl).1; unfold ptr at p0
   (go_simp; first | exact ⟨_, rfl, Br _, rfl⟩ | exact ⟨_, rfl, Br _, trivial⟩ | exact ⟨_, rfl, Ba _ _, trivial⟩ | exact ⟨_, rfl, Br _, congrArg (Value.int _) (IntWalk.i64_in _ (by omega))⟩)
  ·(refine owes_val (L := [(0, false)]) rfl rfl rfl (by kernel_rfl) ?_; intro a' w' hb' hfacts; obtain ⟨hf0, -⟩ := hfacts; replace hf0 : a'.tmps[0]?.getD undef = .pointer (some ⟨b, 0, none⟩) := hf0)
   have p0 := ((H1.out.below hb').lies.2 0 _ rfl).1; have p1 := ((H1.out.below hb').lies.2 1 _ rfl).1; have p2 := ((H1.out.below hb').lies.2 2 _ rfl).1; have p3 := ((H1.out.below hb').lies.2 3 _ rfl).1; have p4 := ((H1.out.below hb').lies.2 4 _ rfl).1; have p5 := ((H1.out.below hb').lies.2 5 _ rfl).1; have p6 := ((H1.out.below hb').lies.2 6 _ rfl).1; have p7 := ((H1.out.below hb').lies.2 7 _ rfl).1; unfold ptr at p0
   (go_simp; first | exact ⟨_, rfl, Br _, rfl⟩ | exact ⟨_, rfl, Br _, trivial⟩ | exact ⟨_, rfl, Ba _ _, trivial⟩ | exact ⟨_, rfl, Br _, congrArg (Value.int _) (IntWalk.i64_in _ (by omega))⟩)
  ·(refine owes_val (L := [(20, true)]) rfl rfl rfl (by kernel_rfl) ?_; intro a' w' hb' hfacts; obtain ⟨hf20, -⟩ := hfacts; try simp only [VCl9] at hf20)
   have p0 := ((H1.out.below hb').lies.2 0 _ rfl).1; have p1 := ((H1.out.below hb').lies.2 1 _ rfl).1; have p2 := ((H1.out.below hb').lies.2 2 _ rfl).1; have p3 := ((H1.out.below hb').lies.2 3 _ rfl).1; have p4 := ((H1.out.below hb').lies.2 4 _ rfl).1; have p5 := ((H1.out.below hb').lies.2 5 _ rfl).1; have p6 := ((H1.out.below hb').lies.2 6 _ rfl).1; have p7 := ((H1.out.below hb').lies.2 7 _ rfl).1; unfold ptr at p0
   (go_simp; first | exact ⟨_, rfl, Br _, rfl⟩ | exact ⟨_, rfl, Br _, trivial⟩ | exact ⟨_, rfl, Ba _ _, trivial⟩ | exact ⟨_, rfl, Br _, congrArg (Value.int _) (IntWalk.i64_in _ (by omega))⟩)
  ·(refine owes_val (L := [(21, true)]) rfl rfl rfl (by kernel_rfl) ?_; intro a' w' hb' hfacts; obtain ⟨hf21, -⟩ := hfacts; try simp only [VCl9] at hf21)
   have p0 := ((H1.out.below hb').lies.2 0 _ rfl).1; have p1 := ((H1.out.below hb').lies.2 1 _ rfl).1; have p2 := ((H1.out.below hb').lies.2 2 _ rfl).1; have p3 := ((H1.out.below hb').lies.2 3 _ rfl).1; have p4 := ((H1.out.below hb').lies.2 4 _ rfl).1; have p5 := ((H1.out.below hb').lies.2 5 _ rfl).1; have p6 := ((H1.out.below hb').lies.2 6 _ rfl).1; have p7 := ((H1.out.below hb').lies.2 7 _ rfl).1; unfold ptr at p0
   (go_simp; first | exact ⟨_, rfl, Br _, rfl⟩ | exact ⟨_, rfl, Br _, trivial⟩ | exact ⟨_, rfl, Ba _ _, trivial⟩ | exact ⟨_, rfl, Br _, congrArg (Value.int _) (IntWalk.i64_in _ (by omega))⟩)
  ·(refine owes_val (L := [(22, true)]) rfl rfl rfl (by kernel_rfl) ?_; intro a' w' hb' hfacts; obtain ⟨hf22, -⟩ := hfacts; try simp only [VCl9] at hf22)
   have p0 := ((H1.out.below hb').lies.2 0 _ rfl).1; have p1 := ((H1.out.below hb').lies.2 1 _ rfl).1; have p2 := ((H1.out.below hb').lies.2 2 _ rfl).1; have p3 := ((H1.out.below hb').lies.2 3 _ rfl).1; have p4 := ((H1.out.below hb').lies.2 4 _ rfl).1; have p5 := ((H1.out.below hb').lies.2 5 _ rfl).1; have p6 := ((H1.out.below hb').lies.2 6 _ rfl).1; have p7 := ((H1.out.below hb').lies.2 7 _ rfl).1; unfold ptr at p0
   (go_simp; first | exact ⟨_, rfl, Br _, rfl⟩ | exact ⟨_, rfl, Br _, trivial⟩ | exact ⟨_, rfl, Ba _ _, trivial⟩ | exact ⟨_, rfl, Br _, congrArg (Value.int _) (IntWalk.i64_in _ (by omega))⟩)
  ·(refine owes_val (L := [(0, false)]) rfl rfl rfl (by kernel_rfl) ?_; intro a' w' hb' hfacts; obtain ⟨hf0, -⟩ := hfacts; replace hf0 : a'.tmps[0]?.getD undef = .pointer (some ⟨b, 0, none⟩) := hf0)
   have p0 := ((H1.out.below hb').lies.2 0 _ rfl).1; have p1 := ((H1.out.below hb').lies.2 1 _ rfl).1; have p2 := ((H1.out.below hb').lies.2 2 _ rfl).1; have p3 := ((H1.out.below hb').lies.2 3 _ rfl).1; have p4 := ((H1.out.below hb').lies.2 4 _ rfl).1; have p5 := ((H1.out.below hb').lies.2 5 _ rfl).1; have p6 := ((H1.out.below hb').lies.2 6 _ rfl).1; have p7 := ((H1.out.below hb').lies.2 7 _ rfl).1; unfold ptr at p0
   (go_simp; first | exact ⟨_, rfl, Br _, rfl⟩ | exact ⟨_, rfl, Br _, trivial⟩ | exact ⟨_, rfl, Ba _ _, trivial⟩ | exact ⟨_, rfl, Br _, congrArg (Value.int _) (IntWalk.i64_in _ (by omega))⟩)
  ·(refine owes_val (L := [(24, true)]) rfl rfl rfl (by kernel_rfl) ?_; intro a' w' hb' hfacts; obtain ⟨hf24, -⟩ := hfacts; try simp only [VCl9] at hf24)
   have p0 := ((H1.out.below hb').lies.2 0 _ rfl).1; have p1 := ((H1.out.below hb').lies.2 1 _ rfl).1; have p2 := ((H1.out.below hb').lies.2 2 _ rfl).1; have p3 := ((H1.out.below hb').lies.2 3 _ rfl).1; have p4 := ((H1.out.below hb').lies.2 4 _ rfl).1; have p5 := ((H1.out.below hb').lies.2 5 _ rfl).1; have p6 := ((H1.out.below hb').lies.2 6 _ rfl).1; have p7 := ((H1.out.below hb').lies.2 7 _ rfl).1; unfold ptr at p0
   (go_simp; first | exact ⟨_, rfl, Br _, rfl⟩ | exact ⟨_, rfl, Br _, trivial⟩ | exact ⟨_, rfl, Ba _ _, trivial⟩ | exact ⟨_, rfl, Br _, congrArg (Value.int _) (IntWalk.i64_in _ (by omega))⟩)
  ·(refine owes_val (L := [(25, true)]) rfl rfl rfl (by kernel_rfl) ?_; intro a' w' hb' hfacts; obtain ⟨hf25, -⟩ := hfacts; try simp only [VCl9] at hf25)
   have p0 := ((H1.out.below hb').lies.2 0 _ rfl).1; have p1 := ((H1.out.below hb').lies.2 1 _ rfl).1; have p2 := ((H1.out.below hb').lies.2 2 _ rfl).1; have p3 := ((H1.out.below hb').lies.2 3 _ rfl).1; have p4 := ((H1.out.below hb').lies.2 4 _ rfl).1; have p5 := ((H1.out.below hb').lies.2 5 _ rfl).1; have p6 := ((H1.out.below hb').lies.2 6 _ rfl).1; have p7 := ((H1.out.below hb').lies.2 7 _ rfl).1; unfold ptr at p0
   (go_simp; first | exact ⟨_, rfl, Br _, rfl⟩ | exact ⟨_, rfl, Br _, trivial⟩ | exact ⟨_, rfl, Ba _ _, trivial⟩ | exact ⟨_, rfl, Br _, congrArg (Value.int _) (IntWalk.i64_in _ (by omega))⟩)
  ·(refine owes_val (L := [(26, true)]) rfl rfl rfl (by kernel_rfl) ?_; intro a' w' hb' hfacts; obtain ⟨hf26, -⟩ := hfacts; try simp only [VCl9] at hf26)
   have p0 := ((H1.out.below hb').lies.2 0 _ rfl).1; have p1 := ((H1.out.below hb').lies.2 1 _ rfl).1; have p2 := ((H1.out.below hb').lies.2 2 _ rfl).1; have p3 := ((H1.out.below hb').lies.2 3 _ rfl).1; have p4 := ((H1.out.below hb').lies.2 4 _ rfl).1; have p5 := ((H1.out.below hb').lies.2 5 _ rfl).1; have p6 := ((H1.out.below hb').lies.2 6 _ rfl).1; have p7 := ((H1.out.below hb').lies.2 7 _ rfl).1; unfold ptr at p0
   (go_simp; first | exact ⟨_, rfl, Br _, rfl⟩ | exact ⟨_, rfl, Br _, trivial⟩ | exact ⟨_, rfl, Ba _ _, trivial⟩ | exact ⟨_, rfl, Br _, congrArg (Value.int _) (IntWalk.i64_in _ (by omega))⟩)
  ·(refine owes_val (L := [(7, true), (11, true), (15, true), (19, true), (23, true), (27, true)]) rfl rfl rfl (by kernel_rfl) ?_; intro a' w' hb' hfacts; obtain ⟨hf7, hf11, hf15, hf19, hf23, hf27, -⟩ := hfacts; try simp only [VCl9] at hf7; try simp only [VCl9] at hf11; try simp only [VCl9] at hf15; try simp only [VCl9] at hf19; try simp only [VCl9] at hf23; try simp only [VCl9] at hf27)
   obtain ⟨q, e7, hq, hB⟩ := hf7
   unfold ptr at e7
   go_simp
   exact ⟨_, rfl, Below.refl _ _, q, rfl, hq, hB⟩
  ·(refine owes_val (L := [(28, true)]) rfl rfl rfl (by kernel_rfl) ?_; intro a' w' hb' hfacts; obtain ⟨hf28, -⟩ := hfacts; try simp only [VCl9] at hf28)
   obtain ⟨q, e28, hq, hB⟩ := hf28
   unfold refV ptr at e28
   have hA := (Below.refl w'.heap.size w').alloc (Nat.le_refl _) (.cells (refV σ.i now q).toArray 72)
   go_simp
   exact ⟨_, rfl, hA, _, q, rfl, hb'.size, hq, Blk.new _ (refV σ.i now q) _, hB.below hA⟩
 ·intro f W2 hf hb
  obtain ⟨b', q, e2, hq1, hq2, hB1, hB2⟩ := hf 29 (by decide)
  have HB := Lib.hid hb
  have HR : Hid (RefIn W2 b' q σ) := by
   refine ⟨?_, P, hB2⟩
   rw [hn]
   exact hB1
  clear hf hb hB1 hB2 c0 hbl
  simp only [putAll, put_lit, List.map_cons, List.map_nil, List.set_cons_succ, List.set_cons_zero]
  simp only [e2]
  clear e2
  dsimp only [List.drop]
  go_wp2
  go_ret
  exact ⟨b', q, rfl, HR.out, hq1, hq2, HB.out⟩
end Go.Proofs.YtfchglcclgcgfaaGreatDoor.Ut
