/-
  What the proof of the laws S rests on: the texts RgE RgF StCl. Conditions: each theorem names its own.
-/
import Derived.Test.YtfchglcclgcgfaaGreatDoorMgSzd
import Derived.Deep.DeepCutAuto
import Derived.Test.YtfchglcclgcgfaaGreatDoorMgSz
import Derived.Test.YtfchglcclgcgfaaGreatDoorMgSza
/-
 The document's own store (bodkinref09): New. No condition.
-/
namespace Go.Proofs.YtfchglcclgcgfaaGreatDoor.Ut
open Go.RowKit Go.Proofs.YtfchglcclgcgfaaGreatDoor.Reg
set_option linter.unusedVariables false
set_option linter.unusedSimpArgs false

theorem newT_ty (k lo hi : Int) (s : ByteArray) : newT k lo hi s = 30 ∨ newT k lo hi s = 148 := by unfold newT; split; exact .inr rfl; exact .inl rfl
theorem backT_newT (k lo hi : Int) (s : ByteArray) : backT (newT k lo hi s) = if k = 1 then 1 else if k = 2 then 2 else if max hi (min (max lo 0) 1073741824 + 1) ≤ (s.size : Int) then 2 else 1 := by
 unfold newT
 by_cases h : ropeKind k (max hi (min (max lo 0) 1073741824 + 1)) s
 ·rw [if_pos h]
  unfold ropeKind at h
  rcases h with rfl | ⟨h1, h2, h3⟩
  ·rfl
  ·rw [if_neg h1, if_neg h2, if_pos h3]; rfl
 ·rw [if_neg h]
  unfold ropeKind at h
  by_cases h1 : k = 1
  ·rw [if_pos h1]; rfl
  ·rw [if_neg h1, if_neg (by omega), if_neg (by omega)]; rfl
def nB (bb : Nat) (K now lo hi : Int) : List Value := [ptr bb, .int .i64 K, .int .i64 now, .int .i64 lo, .int .i64 hi, .int .i64 0, .int .i64 0, .int .i64 0]
/-- What the walk of New keeps: the new store's block, and all that was there. -/
def NwB (w wx : World) (b bb : Nat) (K now lo hi : Int) : Prop := Blk wx b 72 (nB bb K now lo hi) ∧ Below w.heap.size w wx
theorem NwB.set {w wx : World} {b bb : Nat} {K now lo hi : Int} (h : NwB w wx b bb K now lo hi) (hb : w.heap.size ≤ b) (j : Nat) (v : Value) {K' now' lo' hi' : Int} (he : (nB bb K now lo hi).set j v = nB bb K' now' lo' hi') : NwB w (wx.setCell ⟨b, j, none⟩ v) b bb K' now' lo' hi' :=
 ⟨by rw [← he]; exact h.1.set j v, chg_mine h.2 (Chg.set wx ⟨b, j, none⟩ v) hb⟩
theorem NwB.below {w wx wy : World} {b bb : Nat} {K now lo hi : Int} (h : NwB w wx b bb K now lo hi) (hb : Below wx.heap.size wx wy) : NwB w wy b bb K now lo hi :=
 ⟨h.1.below hb, h.2.trans (hb.mono h.2.size)⟩
set_option maxRecDepth 100000 in
set_option maxHeartbeats 4000000 in
theorem RfNew9_ok (k lo hi m : Int) (n : Nat) (s : ByteArray) (w : World) (hm : min (max m 0) 1073741824 = (n : Int)) (hs : s.size ≤ n) :
  Calls Tryz.prog 30 #[.int .i64 k, .int .i64 lo, .int .i64 hi, .int .i64 m, .string s] w fun e w' => ∃ b bb, e = .returned (.tuple #[ptr b, .int .i64 0]) ∧ RefIn w' b bb ⟨newI k lo hi n, newT k lo hi s, s⟩ ∧ w.heap.size ≤ b ∧ w.heap.size ≤ bb ∧ Below w.heap.size w w' := by
 have HN := Lib.hid (RfNew_ok s m n w hm hs)
 have HT := Lib.hid (backT_newT k lo hi s)
 clear hm hs
 rcases (by omega : k = 1 ∨ k = 2 ∨ (k ≠ 1 ∧ k ≠ 2)) with rfl | rfl | ⟨k1, k2⟩
 ·go_enter Tryz.func30, Tryz.ntmps30
  go_wp2_with fail
  refine HN.out.mono ?_
  rintro e w1 ⟨bb, rfl, hB, hbb, hb⟩
  have HB := Lib.hid hb
  have HBuf := Lib.hid hB
  have hsz := hb.size
  clear hb hB HN
  unfold ptr
  go_upto_if 40 with fail
  have h0 : NwB w1 (w1.alloc (.cells (nB bb 1 0 lo hi).toArray 72)) w1.heap.size bb 1 0 lo hi := ⟨Blk.new _ _ _, (Below.refl _ _).alloc (Nat.le_refl _) _⟩
  unfold nB ptr at h0
  generalize w1.alloc _ = wx at *
  obtain ⟨b, hbd⟩ : ∃ b, w1.heap.size = b := ⟨_, rfl⟩
  rw [hbd] at h0 ⊢
  have hbn : w1.heap.size ≤ b := by omega
  have H0 : Hid (NwB w1 wx b bb 1 0 lo hi) := h0
  obtain ⟨q3, f3⟩ := H0.out.1.lies.2 3 _ rfl
  have hbl := H0.out.1.lies.1
  clear h0 hbd
  go_cut [] (fun wy => NwB w1 wy b bb 1 0 (if lo < 0 then 0 else lo) hi)
  case first =>
   by_cases hlo : lo < 0
   ·go_wp2
    go_meet
    rw [if_pos hlo]
    exact H0.out.set hbn 3 _ rfl
   ·go_wp2
    go_meet
    rw [if_neg (by omega)]
    exact H0.out
  case rest =>
   have H1 := Lib.hid hcut
   clear q3 f3 hbl hcut H0
   obtain ⟨q3, f3⟩ := H1.out.1.lies.2 3 _ rfl
   have hbl := H1.out.1.lies.1
   go_upto_if 45 with fail
   go_cut [] (fun wy => NwB w1 wy b bb 1 0 (min (max lo 0) 1073741824) hi)
   case first =>
    by_cases hlo : 1073741824 < lo
    ·go_wp2
     go_meet
     have e : min (max lo 0) 1073741824 = 1073741824 := by omega
     rw [e]
     exact H1.out.set hbn 3 _ rfl
    ·go_wp2
     go_meet
     have e : min (max lo 0) 1073741824 = if lo < 0 then 0 else lo := by split <;> omega
     rw [e]
     exact H1.out
   case rest =>
    obtain ⟨L, hL⟩ : ∃ L, min (max lo 0) 1073741824 = L := ⟨_, rfl⟩
    rw [hL] at hcut
    have H2 := Lib.hid hcut
    have HLL := Lib.hid hL
    have hwL : IntKind.i64.wrap (L + 1) = L + 1 := IntWalk.i64_in _ (by omega)
    clear q3 f3 hbl hcut H1 hL
    obtain ⟨q3, f3⟩ := H2.out.1.lies.2 3 _ rfl
    obtain ⟨q4, f4⟩ := H2.out.1.lies.2 4 _ rfl
    have hbl := H2.out.1.lies.1
    go_upto_if 57 with (go_quiet (fail))
    clear q3 q4 f3 f4 hbl
    have hD := Drawn.below (w := wc) nq
    have H2 := Lib.hid (H2.out.below hD)
    clear hD
    obtain ⟨wd, hW⟩ : ∃ W, wc.drewN nq = W := ⟨_, rfl⟩
    rw [hW] at H2
    rw [hW]
    clear hW
    obtain ⟨q3, f3⟩ := H2.out.1.lies.2 3 _ rfl
    obtain ⟨q4, f4⟩ := H2.out.1.lies.2 4 _ rfl
    have hbl := H2.out.1.lies.1
    go_cut [] (fun wy => NwB w1 wy b bb 1 0 L (max hi (L + 1)))
    case first =>
     by_cases hh : hi ≤ L
     ·go_wp2
      go_meet
      have e : max hi (L + 1) = L + 1 := by omega
      rw [e]
      exact H2.out.set hbn 4 _ rfl
     ·go_wp2
      go_meet
      have e : max hi (L + 1) = hi := by omega
      rw [e]
      exact H2.out
    case rest =>
     obtain ⟨H, hH⟩ : ∃ H, max hi (L + 1) = H := ⟨_, rfl⟩
     rw [hH] at hcut
     have H3 := Lib.hid hcut
     have HHH := Lib.hid hH
     clear q3 f3 q4 f4 hbl hcut H2 hH hwL
     obtain ⟨q1', f1'⟩ := H3.out.1.lies.2 1 _ rfl
     obtain ⟨q2', f2'⟩ := H3.out.1.lies.2 2 _ rfl
     obtain ⟨q4, f4⟩ := H3.out.1.lies.2 4 _ rfl
     have hbl := H3.out.1.lies.1
     have HE := Lib.hid (H3.out.set hbn 2 (.int .i64 1) (K' := 1) (now' := 1) (lo' := L) (hi' := H) rfl)
     have HTT : Hid (backT (newT 1 lo hi s) = 1) := HT.out
     clear H3 HT
     go_wp2
     refine bodyPost_ret (v := .tuple #[ptr b, .int .i64 0]) (by simp [results, Tryz.results30, go_sem, ptr]) rfl ⟨b, bb, rfl, ⟨?_, _, HBuf.out.below HE.out.2⟩, by omega, hbb, HB.out.trans (HE.out.2.mono HB.out.size)⟩
     have e := HE.out.1
     unfold newI refV
     simp only [HTT.out, HLL.out, HHH.out]
     exact e
 ·go_enter Tryz.func30, Tryz.ntmps30
  go_wp2_with fail
  refine HN.out.mono ?_
  rintro e w1 ⟨bb, rfl, hB, hbb, hb⟩
  have HB := Lib.hid hb
  have HBuf := Lib.hid hB
  have hsz := hb.size
  clear hb hB HN
  unfold ptr
  go_upto_if 40 with fail
  have h0 : NwB w1 (w1.alloc (.cells (nB bb 2 0 lo hi).toArray 72)) w1.heap.size bb 2 0 lo hi := ⟨Blk.new _ _ _, (Below.refl _ _).alloc (Nat.le_refl _) _⟩
  unfold nB ptr at h0
  generalize w1.alloc _ = wx at *
  obtain ⟨b, hbd⟩ : ∃ b, w1.heap.size = b := ⟨_, rfl⟩
  rw [hbd] at h0 ⊢
  have hbn : w1.heap.size ≤ b := by omega
  have H0 : Hid (NwB w1 wx b bb 2 0 lo hi) := h0
  obtain ⟨q3, f3⟩ := H0.out.1.lies.2 3 _ rfl
  have hbl := H0.out.1.lies.1
  clear h0 hbd
  go_cut [] (fun wy => NwB w1 wy b bb 2 0 (if lo < 0 then 0 else lo) hi)
  case first =>
   by_cases hlo : lo < 0
   ·go_wp2
    go_meet
    rw [if_pos hlo]
    exact H0.out.set hbn 3 _ rfl
   ·go_wp2
    go_meet
    rw [if_neg (by omega)]
    exact H0.out
  case rest =>
   have H1 := Lib.hid hcut
   clear q3 f3 hbl hcut H0
   obtain ⟨q3, f3⟩ := H1.out.1.lies.2 3 _ rfl
   have hbl := H1.out.1.lies.1
   go_upto_if 45 with fail
   go_cut [] (fun wy => NwB w1 wy b bb 2 0 (min (max lo 0) 1073741824) hi)
   case first =>
    by_cases hlo : 1073741824 < lo
    ·go_wp2
     go_meet
     have e : min (max lo 0) 1073741824 = 1073741824 := by omega
     rw [e]
     exact H1.out.set hbn 3 _ rfl
    ·go_wp2
     go_meet
     have e : min (max lo 0) 1073741824 = if lo < 0 then 0 else lo := by split <;> omega
     rw [e]
     exact H1.out
   case rest =>
    obtain ⟨L, hL⟩ : ∃ L, min (max lo 0) 1073741824 = L := ⟨_, rfl⟩
    rw [hL] at hcut
    have H2 := Lib.hid hcut
    have HLL := Lib.hid hL
    have hwL : IntKind.i64.wrap (L + 1) = L + 1 := IntWalk.i64_in _ (by omega)
    clear q3 f3 hbl hcut H1 hL
    obtain ⟨q3, f3⟩ := H2.out.1.lies.2 3 _ rfl
    obtain ⟨q4, f4⟩ := H2.out.1.lies.2 4 _ rfl
    have hbl := H2.out.1.lies.1
    go_upto_if 57 with (go_quiet (fail))
    clear q3 q4 f3 f4 hbl
    have hD := Drawn.below (w := wc) nq
    have H2 := Lib.hid (H2.out.below hD)
    clear hD
    obtain ⟨wd, hW⟩ : ∃ W, wc.drewN nq = W := ⟨_, rfl⟩
    rw [hW] at H2
    rw [hW]
    clear hW
    obtain ⟨q3, f3⟩ := H2.out.1.lies.2 3 _ rfl
    obtain ⟨q4, f4⟩ := H2.out.1.lies.2 4 _ rfl
    have hbl := H2.out.1.lies.1
    go_cut [] (fun wy => NwB w1 wy b bb 2 0 L (max hi (L + 1)))
    case first =>
     by_cases hh : hi ≤ L
     ·go_wp2
      go_meet
      have e : max hi (L + 1) = L + 1 := by omega
      rw [e]
      exact H2.out.set hbn 4 _ rfl
     ·go_wp2
      go_meet
      have e : max hi (L + 1) = hi := by omega
      rw [e]
      exact H2.out
    case rest =>
     obtain ⟨H, hH⟩ : ∃ H, max hi (L + 1) = H := ⟨_, rfl⟩
     rw [hH] at hcut
     have H3 := Lib.hid hcut
     have HHH := Lib.hid hH
     clear q3 f3 q4 f4 hbl hcut H2 hH hwL
     obtain ⟨q1', f1'⟩ := H3.out.1.lies.2 1 _ rfl
     obtain ⟨q2', f2'⟩ := H3.out.1.lies.2 2 _ rfl
     obtain ⟨q4, f4⟩ := H3.out.1.lies.2 4 _ rfl
     have hbl := H3.out.1.lies.1
     have HE := Lib.hid (H3.out.set hbn 2 (.int .i64 2) (K' := 2) (now' := 2) (lo' := L) (hi' := H) rfl)
     have HTT : Hid (backT (newT 2 lo hi s) = 2) := HT.out
     clear H3 HT
     go_wp2
     refine bodyPost_ret (v := .tuple #[ptr b, .int .i64 0]) (by simp [results, Tryz.results30, go_sem, ptr]) rfl ⟨b, bb, rfl, ⟨?_, _, HBuf.out.below HE.out.2⟩, by omega, hbb, HB.out.trans (HE.out.2.mono HB.out.size)⟩
     have e := HE.out.1
     unfold newI refV
     simp only [HTT.out, HLL.out, HHH.out]
     exact e
 ·have q1 : (k != 1) = true := by simpa using k1
  have q2 : (k != 2) = true := by simpa using k2
  go_enter Tryz.func30, Tryz.ntmps30
  go_wp2_with fail
  refine HN.out.mono ?_
  rintro e w1 ⟨bb, rfl, hB, hbb, hb⟩
  have HB := Lib.hid hb
  have HBuf := Lib.hid hB
  have hsz := hb.size
  clear hb hB HN
  unfold ptr
  go_upto_if 40 with fail
  have h0 : NwB w1 (w1.alloc (.cells (nB bb 3 0 lo hi).toArray 72)) w1.heap.size bb 3 0 lo hi := ⟨Blk.new _ _ _, (Below.refl _ _).alloc (Nat.le_refl _) _⟩
  unfold nB ptr at h0
  generalize w1.alloc _ = wx at *
  obtain ⟨b, hbd⟩ : ∃ b, w1.heap.size = b := ⟨_, rfl⟩
  rw [hbd] at h0 ⊢
  have hbn : w1.heap.size ≤ b := by omega
  have H0 : Hid (NwB w1 wx b bb 3 0 lo hi) := h0
  obtain ⟨q3, f3⟩ := H0.out.1.lies.2 3 _ rfl
  have hbl := H0.out.1.lies.1
  clear h0 hbd
  go_cut [] (fun wy => NwB w1 wy b bb 3 0 (if lo < 0 then 0 else lo) hi)
  case first =>
   by_cases hlo : lo < 0
   ·go_wp2
    go_meet
    rw [if_pos hlo]
    exact H0.out.set hbn 3 _ rfl
   ·go_wp2
    go_meet
    rw [if_neg (by omega)]
    exact H0.out
  case rest =>
   have H1 := Lib.hid hcut
   clear q3 f3 hbl hcut H0
   obtain ⟨q3, f3⟩ := H1.out.1.lies.2 3 _ rfl
   have hbl := H1.out.1.lies.1
   go_upto_if 45 with fail
   go_cut [] (fun wy => NwB w1 wy b bb 3 0 (min (max lo 0) 1073741824) hi)
   case first =>
    by_cases hlo : 1073741824 < lo
    ·go_wp2
     go_meet
     have e : min (max lo 0) 1073741824 = 1073741824 := by omega
     rw [e]
     exact H1.out.set hbn 3 _ rfl
    ·go_wp2
     go_meet
     have e : min (max lo 0) 1073741824 = if lo < 0 then 0 else lo := by split <;> omega
     rw [e]
     exact H1.out
   case rest =>
    obtain ⟨L, hL⟩ : ∃ L, min (max lo 0) 1073741824 = L := ⟨_, rfl⟩
    rw [hL] at hcut
    have H2 := Lib.hid hcut
    have HLL := Lib.hid hL
    have hwL : IntKind.i64.wrap (L + 1) = L + 1 := IntWalk.i64_in _ (by omega)
    clear q3 f3 hbl hcut H1 hL
    obtain ⟨q3, f3⟩ := H2.out.1.lies.2 3 _ rfl
    obtain ⟨q4, f4⟩ := H2.out.1.lies.2 4 _ rfl
    have hbl := H2.out.1.lies.1
    go_upto_if 57 with (go_quiet (fail))
    clear q3 q4 f3 f4 hbl
    have hD := Drawn.below (w := wc) nq
    have H2 := Lib.hid (H2.out.below hD)
    clear hD
    obtain ⟨wd, hW⟩ : ∃ W, wc.drewN nq = W := ⟨_, rfl⟩
    rw [hW] at H2
    rw [hW]
    clear hW
    obtain ⟨q3, f3⟩ := H2.out.1.lies.2 3 _ rfl
    obtain ⟨q4, f4⟩ := H2.out.1.lies.2 4 _ rfl
    have hbl := H2.out.1.lies.1
    go_cut [] (fun wy => NwB w1 wy b bb 3 0 L (max hi (L + 1)))
    case first =>
     by_cases hh : hi ≤ L
     ·go_wp2
      go_meet
      have e : max hi (L + 1) = L + 1 := by omega
      rw [e]
      exact H2.out.set hbn 4 _ rfl
     ·go_wp2
      go_meet
      have e : max hi (L + 1) = hi := by omega
      rw [e]
      exact H2.out
    case rest =>
     obtain ⟨H, hH⟩ : ∃ H, max hi (L + 1) = H := ⟨_, rfl⟩
     rw [hH] at hcut
     have H3 := Lib.hid hcut
     have HHH := Lib.hid hH
     clear q3 f3 q4 f4 hbl hcut H2 hH hwL
     obtain ⟨q1', f1'⟩ := H3.out.1.lies.2 1 _ rfl
     obtain ⟨q2', f2'⟩ := H3.out.1.lies.2 2 _ rfl
     obtain ⟨q4, f4⟩ := H3.out.1.lies.2 4 _ rfl
     have hbl := H3.out.1.lies.1
     have HTT : Hid (backT (newT k lo hi s) = if H ≤ (s.size : Int) then 2 else 1) := by
      have := HT.out
      rw [if_neg k1, if_neg k2, HLL.out, HHH.out] at this
      exact this
     have HK : Hid ((if k = 1 then (1 : Int) else if k = 2 then 2 else 3) = 3) := by show _ = _; rw [if_neg k1, if_neg k2]
     clear HT
     by_cases htop : H ≤ (s.size : Int)
     ·have HE := Lib.hid (H3.out.set hbn 2 (.int .i64 3) (K' := 3) (now' := 3) (lo' := L) (hi' := H) rfl)
      have HE := Lib.hid (HE.out.set hbn 2 (.int .i64 1) (K' := 3) (now' := 1) (lo' := L) (hi' := H) rfl)
      have HE := Lib.hid (HE.out.set hbn 2 (.int .i64 2) (K' := 3) (now' := 2) (lo' := L) (hi' := H) rfl)
      rw [if_pos htop] at HTT
      clear H3
      go_wp2
      refine bodyPost_ret (v := .tuple #[ptr b, .int .i64 0]) (by simp [results, Tryz.results30, go_sem, ptr]) rfl ⟨b, bb, rfl, ⟨?_, _, HBuf.out.below HE.out.2⟩, by omega, hbb, HB.out.trans (HE.out.2.mono HB.out.size)⟩
      have e := HE.out.1
      unfold newI refV
      simp only [HTT.out, HLL.out, HHH.out, HK.out]
      exact e
     ·have HE := Lib.hid (H3.out.set hbn 2 (.int .i64 3) (K' := 3) (now' := 3) (lo' := L) (hi' := H) rfl)
      have HE := Lib.hid (HE.out.set hbn 2 (.int .i64 1) (K' := 3) (now' := 1) (lo' := L) (hi' := H) rfl)
      rw [if_neg htop] at HTT
      clear H3
      go_wp2
      refine bodyPost_ret (v := .tuple #[ptr b, .int .i64 0]) (by simp [results, Tryz.results30, go_sem, ptr]) rfl ?_
      have hv : nB bb 3 1 L H = refV (newI k lo hi n) (backT (newT k lo hi s)) bb := by
       unfold newI refV nB
       simp only [HTT.out, HLL.out, HHH.out, HK.out]
      have key := HE.out.1
      rw [hv] at key
      first
       | exact ⟨b, bb, rfl, ⟨key, _, HBuf.out.below HE.out.2⟩, by omega, hbb, HB.out.trans (HE.out.2.mono HB.out.size)⟩
       | exact ⟨b, rfl, bb, ⟨key, _, HBuf.out.below HE.out.2⟩, by omega, hbb, HB.out.trans (HE.out.2.mono HB.out.size)⟩
end Go.Proofs.YtfchglcclgcgfaaGreatDoor.Ut
/-
 The document's own store (bodkinref09): its readers. No condition.
-/
namespace Go.Proofs.YtfchglcclgcgfaaGreatDoor.Ut
open Go.RowKit Go.Proofs.YtfchglcclgcgfaaGreatDoor.Reg
set_option linter.unusedVariables false
set_option linter.unusedSimpArgs false

set_option maxRecDepth 100000 in
set_option maxHeartbeats 1000000 in
theorem RfMeasure6 {b : Nat} {s : ByteArray} {P : Int} {lim : Nat} {w : World} (h : BufIn w b s P lim) (hs : s.size ≤ 1073741824) (i j : Int) :
  Calls Tryz.prog 112 #[ptr b, .int .i64 i, .int .i64 j] w fun e w' => e = .returned (.tuple #[(meA s i j).1.val, .int .i64 (meA s i j).2]) ∧ Below w.heap.size w w' := by
 obtain ⟨W0, hW0, A0, b0, hsz⟩ := boxL1 w zero7 48
 have HE := Lib.hid hW0
 unfold zero7 at HE
 have HR := Lib.hid A0
 have HB := Lib.hid b0
 have HH := Lib.hid (h.below b0)
 have HS := Lib.hid (RfSlice_any HH.out i j)
 clear h hW0 A0 b0 hsz
 unfold slA at HS
 unfold meA
 unfold ptr at *
 by_cases hg : 0 ≤ i ∧ i ≤ j ∧ j ≤ (s.size : Int)
 ·rw [if_pos hg] at HS
  rw [if_pos hg]
  have HM := Lib.hid (fun w => RfMeasure4 (s.extract i.toNat j.toNat) w (by rw [ByteArray.size_extract]; omega))
  obtain ⟨O, hO⟩ : ∃ O, s.extract i.toNat j.toNat = O := ⟨_, rfl⟩
  rw [hO] at HM HS ⊢
  obtain ⟨m, hm⟩ : ∃ m, measF O = m := ⟨_, rfl⟩
  rw [hm] at HM
  simp only [hm]
  clear hO hm hg
  go_enter Tryz.func112, Tryz.ntmps112
  go_wp2_with fail
  rw [HE.out]
  refine HS.out.mono ?_
  rintro e w1 ⟨rfl, rfl⟩
  go_wp2_with fail
  refine (HM.out w1).mono ?_
  rintro e w2 ⟨rfl, hb⟩
  have HR := Lib.hid (HR.out.below hb)
  have HB := Lib.hid (HB.out.trans (hb.mono HB.out.size))
  clear hb
  unfold Sm.val
  have L := Lib.hid (HR.out.stored m.cells7 rfl).2
  have D4 := sets_chg w.heap.size m.cells7 0 w2
  have HBL := Lib.hid (chg_mine HB.out D4 (Nat.le_refl _))
  obtain ⟨r0, s0⟩ := HR.out.2 0 _ rfl
  obtain ⟨r1, s1⟩ := HR.out.2 1 _ rfl
  obtain ⟨r2, s2⟩ := HR.out.2 2 _ rfl
  obtain ⟨r3, s3⟩ := HR.out.2 3 _ rfl
  obtain ⟨r4, s4⟩ := HR.out.2 4 _ rfl
  obtain ⟨r5, s5⟩ := HR.out.2 5 _ rfl
  obtain ⟨r6, s6⟩ := HR.out.2 6 _ rfl
  clear D4
  go_wp2
  have j0 := (L.out 0 _ rfl).1
  have j1 := (L.out 1 _ rfl).1
  have j2 := (L.out 2 _ rfl).1
  have j3 := (L.out 3 _ rfl).1
  have j4 := (L.out 4 _ rfl).1
  have j5 := (L.out 5 _ rfl).1
  have j6 := (L.out 6 _ rfl).1
  simp only [Sm.cells7, zero7, World.setCells] at j0 j1 j2 j3 j4 j5 j6
  refine bodyPost_ret (v := .tuple #[m.val, .int .i64 0]) (by simp [results, Tryz.results112, go_sem, j0, j1, j2, j3, j4, j5, j6, Sm.val, zeroSm]) rfl ⟨rfl, HBL.out⟩
 ·rw [if_neg hg] at HS
  rw [if_neg hg]
  clear hg
  go_enter Tryz.func112, Tryz.ntmps112
  go_wp2_with fail
  rw [HE.out]
  refine HS.out.mono ?_
  rintro e w1 ⟨rfl, rfl⟩
  have L := Lib.hid (HR.out.stored zero7 rfl).2
  have D4 := sets_chg w.heap.size zero7 0 w1
  have HBL := Lib.hid (chg_mine HB.out D4 (Nat.le_refl _))
  obtain ⟨r0, s0⟩ := HR.out.2 0 _ rfl
  obtain ⟨r1, s1⟩ := HR.out.2 1 _ rfl
  obtain ⟨r2, s2⟩ := HR.out.2 2 _ rfl
  obtain ⟨r3, s3⟩ := HR.out.2 3 _ rfl
  obtain ⟨r4, s4⟩ := HR.out.2 4 _ rfl
  obtain ⟨r5, s5⟩ := HR.out.2 5 _ rfl
  obtain ⟨r6, s6⟩ := HR.out.2 6 _ rfl
  clear D4
  go_wp2
  have j0 := (L.out 0 _ rfl).1
  have j1 := (L.out 1 _ rfl).1
  have j2 := (L.out 2 _ rfl).1
  have j3 := (L.out 3 _ rfl).1
  have j4 := (L.out 4 _ rfl).1
  have j5 := (L.out 5 _ rfl).1
  have j6 := (L.out 6 _ rfl).1
  simp only [Sm.cells7, zero7, World.setCells] at j0 j1 j2 j3 j4 j5 j6
  refine bodyPost_ret (v := .tuple #[zeroSm.val, .int .i64 1]) (by simp [results, Tryz.results112, go_sem, j0, j1, j2, j3, j4, j5, j6, Sm.val, zeroSm]) rfl ⟨rfl, HBL.out⟩
set_option maxRecDepth 100000 in
set_option maxHeartbeats 1000000 in
theorem RfMeasure9 {b bb : Nat} {σ : Sto} {w : World} (h : RefIn w b bb σ) (hs : σ.s.size ≤ 1073741824) (i j : Int) :
  Calls Tryz.prog 84 #[ptr b, .int .i64 i, .int .i64 j] w fun e w' => e = .returned (.tuple #[(meA σ.s i j).1.val, .int .i64 (meA σ.s i j).2]) ∧ Below w.heap.size w w' := by
 obtain ⟨W0, hW0, A0, b0, hsz⟩ := boxL1 w zero7 48
 have HE := Lib.hid hW0
 unfold zero7 at HE
 have HR := Lib.hid A0
 have HB := Lib.hid b0
 obtain ⟨h1, P, h2⟩ := h
 have HM := Lib.hid (RfMeasure6 (h2.below b0) hs i j)
 have c0 := ((h1.below b0).lies.2 0 _ rfl).1
 obtain ⟨m, hm⟩ : ∃ m, (meA σ.s i j).1 = m := ⟨_, rfl⟩
 obtain ⟨E, hE⟩ : ∃ m, (meA σ.s i j).2 = m := ⟨_, rfl⟩
 rw [hm, hE] at HM ⊢
 clear h1 h2 hm hE hW0 A0 b0 hsz
 unfold ptr at *
 go_enter Tryz.func84, Tryz.ntmps84
 go_upto_region 1 with fail
 rw [HE.out]
 go_wp2_with fail
 refine HM.out.mono ?_
 rintro e w1 ⟨rfl, hb⟩
 have HR := Lib.hid (HR.out.below hb)
 have HB := Lib.hid (HB.out.trans (hb.mono HB.out.size))
 clear hb
 clear c0
 unfold Sm.val
 have L := Lib.hid (HR.out.stored m.cells7 rfl).2
 have D4 := sets_chg w.heap.size m.cells7 0 w1
 have HBL := Lib.hid (chg_mine HB.out D4 (Nat.le_refl _))
 obtain ⟨r0, s0⟩ := HR.out.2 0 _ rfl
 obtain ⟨r1, s1⟩ := HR.out.2 1 _ rfl
 obtain ⟨r2, s2⟩ := HR.out.2 2 _ rfl
 obtain ⟨r3, s3⟩ := HR.out.2 3 _ rfl
 obtain ⟨r4, s4⟩ := HR.out.2 4 _ rfl
 obtain ⟨r5, s5⟩ := HR.out.2 5 _ rfl
 obtain ⟨r6, s6⟩ := HR.out.2 6 _ rfl
 clear D4
 go_wp2
 have j0 := (L.out 0 _ rfl).1
 have j1 := (L.out 1 _ rfl).1
 have j2 := (L.out 2 _ rfl).1
 have j3 := (L.out 3 _ rfl).1
 have j4 := (L.out 4 _ rfl).1
 have j5 := (L.out 5 _ rfl).1
 have j6 := (L.out 6 _ rfl).1
 simp only [Sm.cells7, zero7, World.setCells] at j0 j1 j2 j3 j4 j5 j6
 refine bodyPost_ret (v := .tuple #[m.val, .int .i64 E]) (by simp [results, Tryz.results84, go_sem, j0, j1, j2, j3, j4, j5, j6, Sm.val, zeroSm]) rfl ⟨rfl, HBL.out⟩
set_option maxRecDepth 100000 in
theorem RfKind9 {b bb : Nat} {σ : Sto} {w : World} (h : RefIn w b bb σ) : Calls Tryz.prog 60 #[ptr b] w fun e w' => e = .returned (.int .i64 σ.i.kind) ∧ Below w.heap.size w w' := by
 obtain ⟨h1, P, h2⟩ := h
 have c1 := (h1.lies.2 1 _ rfl).1
 clear h1 h2
 unfold ptr at *
 go_enter Tryz.func60, Tryz.ntmps60
 go_wp2
 go_ret
 exact ⟨rfl, Below.refl _ _⟩
set_option maxRecDepth 100000 in
theorem RfBackend9 {b bb : Nat} {σ : Sto} {w : World} (h : RefIn w b bb σ) : Calls Tryz.prog 61 #[ptr b] w fun e w' => e = .returned (.int .i64 (backT σ.T)) ∧ Below w.heap.size w w' := by
 obtain ⟨h1, P, h2⟩ := h
 have c2 := (h1.lies.2 2 _ rfl).1
 clear h1 h2
 unfold ptr at *
 go_enter Tryz.func61, Tryz.ntmps61
 go_wp2
 go_ret
 exact ⟨rfl, Below.refl _ _⟩
set_option maxRecDepth 100000 in
theorem RfThresholds9 {b bb : Nat} {σ : Sto} {w : World} (h : RefIn w b bb σ) : Calls Tryz.prog 59 #[ptr b] w fun e w' => e = .returned (.tuple #[.int .i64 σ.i.low, .int .i64 σ.i.top]) ∧ Below w.heap.size w w' := by
 obtain ⟨h1, P, h2⟩ := h
 have c3 := (h1.lies.2 3 _ rfl).1
 have c4 := (h1.lies.2 4 _ rfl).1
 clear h1 h2
 unfold ptr at *
 go_enter Tryz.func59, Tryz.ntmps59
 go_wp2
 go_quiet (fail)
 go_wp2
 refine bodyPost_ret (v := .tuple #[.int .i64 σ.i.low, .int .i64 σ.i.top]) (by simp [results, Tryz.results59, go_sem]) rfl ⟨rfl, Drawn.below _⟩
set_option maxRecDepth 100000 in
theorem RfCounts9 {b bb : Nat} {σ : Sto} {w : World} (h : RefIn w b bb σ) : Calls Tryz.prog 64 #[ptr b] w fun e w' => e = .returned (σ.i.counts) ∧ Below w.heap.size w w' := by
 obtain ⟨h1, P, h2⟩ := h
 have c5 := (h1.lies.2 5 _ rfl).1
 have c6 := (h1.lies.2 6 _ rfl).1
 have c7 := (h1.lies.2 7 _ rfl).1
 have hbl := h1.lies.1
 clear h1 h2
 unfold ptr at *
 go_enter Tryz.func64, Tryz.ntmps64
 go_wp2
 refine bodyPost_ret (v := .agg #[.int .i64 σ.i.moves, .int .i64 σ.i.forced, .int .i64 σ.i.edited]) (by simp [results, Tryz.results64, go_sem]) rfl ⟨rfl, (Below.refl _ _).alloc (Nat.le_refl _) _⟩
set_option maxRecDepth 100000 in
theorem RfLimit9 {b bb : Nat} {σ : Sto} {w : World} (h : RefIn w b bb σ) : Calls Tryz.prog 63 #[ptr b] w fun e w' => e = .returned (.int .i64 σ.i.lim) ∧ Below w.heap.size w w' := by
 obtain ⟨h1, P, h2⟩ := h
 have c0 := (h1.lies.2 0 _ rfl).1
 have d := (Blk.lies h2 |>.2 2 _ rfl).1
 clear h1 h2
 unfold ptr at *
 go_enter Tryz.func63, Tryz.ntmps63
 go_wp2
 go_ret
 exact ⟨rfl, Below.refl _ _⟩
set_option maxRecDepth 100000 in
theorem RfLen9 {b bb : Nat} {σ : Sto} {w : World} (h : RefIn w b bb σ) : Calls Tryz.prog 65 #[ptr b] w fun e w' => e = .returned (.int .i64 σ.s.size) ∧ Below w.heap.size w w' := by
 obtain ⟨h1, P, h2⟩ := h
 have c0 := (h1.lies.2 0 _ rfl).1
 have d := (Blk.lies h2 |>.2 0 _ rfl).1
 clear h1 h2
 unfold ptr at *
 go_enter Tryz.func65, Tryz.ntmps65
 go_wp2
 go_ret
 exact ⟨rfl, Below.refl _ _⟩
set_option maxRecDepth 100000 in
theorem RfText9 {b bb : Nat} {σ : Sto} {w : World} (h : RefIn w b bb σ) : Calls Tryz.prog 66 #[ptr b] w fun e w' => e = .returned (.string σ.s) ∧ Below w.heap.size w w' := by
 obtain ⟨h1, P, h2⟩ := h
 have c0 := (h1.lies.2 0 _ rfl).1
 have d := (Blk.lies h2 |>.2 0 _ rfl).1
 clear h1 h2
 unfold ptr at *
 go_enter Tryz.func66, Tryz.ntmps66
 go_wp2
 go_ret
 exact ⟨rfl, Below.refl _ _⟩
set_option maxRecDepth 100000 in
theorem RfSlice9 {b bb : Nat} {σ : Sto} {w : World} (h : RefIn w b bb σ) (i j : Int) : Calls Tryz.prog 83 #[ptr b, .int .i64 i, .int .i64 j] w fun e w' => e = .returned (.tuple #[.string (slA σ.s i j).1, .int .i64 (slA σ.s i j).2]) ∧ Below w.heap.size w w' := by
 obtain ⟨h1, P, h2⟩ := h
 have HS := Lib.hid (RfSlice_any h2 i j)
 have c0 := (h1.lies.2 0 _ rfl).1
 obtain ⟨O, hO⟩ : ∃ m, (slA σ.s i j).1 = m := ⟨_, rfl⟩
 obtain ⟨E, hE⟩ : ∃ m, (slA σ.s i j).2 = m := ⟨_, rfl⟩
 rw [hO, hE] at HS ⊢
 clear h1 h2 hO hE
 unfold ptr at *
 go_enter Tryz.func83, Tryz.ntmps83
 go_wp2_with fail
 refine HS.out.mono ?_
 rintro e w1 ⟨rfl, rfl⟩
 go_wp2
 refine bodyPost_ret (v := .tuple #[.string O, .int .i64 E]) (by simp [results, Tryz.results83, go_sem]) rfl ⟨rfl, Below.refl _ _⟩
set_option maxRecDepth 100000 in
theorem RfBoundary9 {b bb : Nat} {σ : Sto} {w : World} (h : RefIn w b bb σ) (hs : σ.s.size ≤ 1073741824) (a : Int) : Calls Tryz.prog 85 #[ptr b, .int .i64 a] w fun e w' => e = .returned (.bool (inB σ.s a)) ∧ Below w.heap.size w w' := by
 obtain ⟨h1, P, h2⟩ := h
 have HS := Lib.hid (RefBoundary_any σ.s a w hs)
 have c0 := (h1.lies.2 0 _ rfl).1
 have d := (Blk.lies h2 |>.2 0 _ rfl).1
 clear h1 h2
 unfold ptr at *
 go_enter Tryz.func85, Tryz.ntmps85
 go_wp2_with fail
 refine HS.out.mono ?_
 rintro e w1 ⟨rfl, hb⟩
 have HB := Lib.hid hb
 clear hb
 go_wp2
 go_ret
 exact ⟨rfl, HB.out⟩
set_option maxRecDepth 100000 in
theorem RfNext9 {b bb : Nat} {σ : Sto} {w : World} (h : RefIn w b bb σ) (hs : σ.s.size ≤ 1073741824) (a : Int) : Calls Tryz.prog 86 #[ptr b, .int .i64 a] w fun e w' => e = .returned (.int .i64 (nextB σ.s a : Nat)) ∧ Below w.heap.size w w' := by
 obtain ⟨h1, P, h2⟩ := h
 have HS := Lib.hid (RefNext_any σ.s a w hs)
 have c0 := (h1.lies.2 0 _ rfl).1
 have d := (Blk.lies h2 |>.2 0 _ rfl).1
 clear h1 h2
 unfold ptr at *
 go_enter Tryz.func86, Tryz.ntmps86
 go_wp2_with fail
 refine HS.out.mono ?_
 rintro e w1 ⟨rfl, hb⟩
 have HB := Lib.hid hb
 clear hb
 go_wp2
 go_ret
 exact ⟨rfl, HB.out⟩
set_option maxRecDepth 100000 in
theorem RfPrev9 {b bb : Nat} {σ : Sto} {w : World} (h : RefIn w b bb σ) (hs : σ.s.size ≤ 1073741824) (a : Int) : Calls Tryz.prog 87 #[ptr b, .int .i64 a] w fun e w' => e = .returned (.int .i64 (prevB σ.s a : Nat)) ∧ Below w.heap.size w w' := by
 obtain ⟨h1, P, h2⟩ := h
 have HS := Lib.hid (RefPrev_any σ.s a w hs)
 have c0 := (h1.lies.2 0 _ rfl).1
 have d := (Blk.lies h2 |>.2 0 _ rfl).1
 clear h1 h2
 unfold ptr at *
 go_enter Tryz.func87, Tryz.ntmps87
 go_wp2_with fail
 refine HS.out.mono ?_
 rintro e w1 ⟨rfl, hb⟩
 have HB := Lib.hid hb
 clear hb
 go_wp2
 go_ret
 exact ⟨rfl, HB.out⟩
set_option maxRecDepth 100000 in
theorem RfSnap9 {b bb : Nat} {σ : Sto} {w : World} (h : RefIn w b bb σ) (hs : σ.s.size ≤ 1073741824) (a : Int) : Calls Tryz.prog 88 #[ptr b, .int .i64 a] w fun e w' => e = .returned (.int .i64 (snapB σ.s a : Nat)) ∧ Below w.heap.size w w' := by
 obtain ⟨h1, P, h2⟩ := h
 have HS := Lib.hid (RefSnap_any σ.s a w hs)
 have c0 := (h1.lies.2 0 _ rfl).1
 have d := (Blk.lies h2 |>.2 0 _ rfl).1
 clear h1 h2
 unfold ptr at *
 go_enter Tryz.func88, Tryz.ntmps88
 go_wp2_with fail
 refine HS.out.mono ?_
 rintro e w1 ⟨rfl, hb⟩
 have HB := Lib.hid hb
 clear hb
 go_wp2
 go_ret
 exact ⟨rfl, HB.out⟩
set_option maxRecDepth 100000 in
theorem RfNew9_full (k lo hi m : Int) (n : Nat) (s : ByteArray) (w : World) (hm : min (max m 0) 1073741824 = (n : Int)) (hs : n < s.size) :
  Calls Tryz.prog 30 #[.int .i64 k, .int .i64 lo, .int .i64 hi, .int .i64 m, .string s] w fun e w' => e = .returned (.tuple #[.pointer none, .int .i64 2]) ∧ w' = w := by
 have HN := Lib.hid (RfNew_full s m n w hm hs)
 clear hm hs
 go_enter Tryz.func30, Tryz.ntmps30
 go_wp2_with fail
 refine HN.out.mono ?_
 rintro e w1 ⟨rfl, rfl⟩
 go_wp2
 refine bodyPost_ret (v := .tuple #[.pointer none, .int .i64 2]) (by simp [results, Tryz.results30, go_sem]) rfl ⟨rfl, rfl⟩
end Go.Proofs.YtfchglcclgcgfaaGreatDoor.Ut
/-
 store.Clone. Condition: the two tables of unicode/utf8 lie as laid.
-/
namespace Go.Proofs.YtfchglcclgcgfaaGreatDoor.Ut
open Go.RowKit Go.Proofs.YtfchglcclgcgfaaGreatDoor.Reg
set_option linter.unusedVariables false
set_option linter.unusedSimpArgs false

theorem typeK_backT {T : TypeId} (h : T = 30 ∨ T = 148) : typeK (backT T) = T := by rcases h with rfl | rfl <;> rfl
def VSc5 (b c lim n0 : Nat) (k : Int) (s : ByteArray) : Nat → Value → World → Prop := fun d x w => match d with
 | 11 => x = .pointer (some ⟨b, 0, none⟩)
 | 12 => x = .int .i64 k
 | 13 => x = .pointer (some ⟨b, 0, none⟩)
 | 14 => x = .pointer (some ⟨b, 0, none⟩)
 | 15 => x = .pointer (some ⟨b, 4, none⟩)
 | 16 => x = .int .i64 lim
 | 17 => x = .pointer (some ⟨b, 0, none⟩)
 | 18 => x = .string s
 | 19 => ∃ p, x = .iface (typeK k) (ptr p) ∧ InnerIn w (typeK k) p lim s (fun j => n0 ≤ j)
 | 20 => x = .pointer (some ⟨c, 0, none⟩)
 | _ => True
theorem VSc5_mono (b c lim n0 : Nat) (k : Int) (s : ByteArray) : ∀ d x w w', VSc5 b c lim n0 k s d x w → Below w.heap.size w w' → VSc5 b c lim n0 k s d x w' := by
 intro d x w w' h hb
 unfold VSc5 at *
 split <;> first | exact h | exact trivial | skip
 obtain ⟨p, h1, h2⟩ := h
 exact ⟨p, h1, h2.below hb⟩
set_option maxRecDepth 100000 in
set_option maxHeartbeats 2000000 in
theorem StClone_of {b : Nat} {σ : Sto} {w : World} {Q : World → Prop} {S : Nat → Prop} (hσ : σ.ok) (hU : Calls Tryz.prog 75 #[.pointer (some ⟨b, 0, none⟩)] w fun e w' => (∃ v, e = .returned v) ∧ Q w')
  (hQ : ∀ w1, Q w1 → Tabs w1 ∧ StoreIn w1 b σ.i σ.T σ.s S) :
  Calls Tryz.prog 28 #[.pointer (some ⟨b, 0, none⟩)] w fun e w' => ∃ c w1, e = .returned (ptr c) ∧ Q w1 ∧ StoreIn w' c σ.i σ.T σ.s (fun j => w1.heap.size ≤ j) ∧ Below w1.heap.size w1 w' := by
 have HU := Lib.hid hU
 have HQ := Lib.hid hQ
 have HTy := Lib.hid (typeK_backT hσ.ty)
 have hf := hσ.fits
 have hl := hσ.lim
 have hsm := hσ.small
 clear hU hQ hσ
 go_enter Tryz.func28, Tryz.ntmps28
 go_wp2_with fail
 refine HU.out.mono ?_
 rintro e w1 ⟨⟨v, rfl⟩, hq⟩
 obtain ⟨hT, hS⟩ := HQ.out w1 hq
 have Hq := Lib.hid hq
 have HT := Lib.hid hT
 have HS := Lib.hid hS
 obtain ⟨p0, h1, -⟩ := hS.2
 have c0 := (h1.lies.2 0 _ rfl).1
 have c1 := (h1.lies.2 1 _ rfl).1
 have c2 := (h1.lies.2 2 _ rfl).1
 have c3 := (h1.lies.2 3 _ rfl).1
 have c4 := (h1.lies.2 4 _ rfl).1
 have c5 := (h1.lies.2 5 _ rfl).1
 have c6 := (h1.lies.2 6 _ rfl).1
 have c7 := (h1.lies.2 7 _ rfl).1
 have hbl := h1.lies.1
 have hK := Blk.new w1 (σ.i.vals σ.T p0) 66
 have hB := (Below.refl w1.heap.size w1).alloc (Nat.le_refl _) (.cells (σ.i.vals σ.T p0).toArray 66)
 have HK := Lib.hid hK
 have HB := Lib.hid hB
 unfold Stt.vals ptr at HK HB
 clear hT hS h1 hq hK hB HQ HU
 unfold ptr at c0
 go_wp2
 generalize w1.alloc _ = w2 at *
 obtain ⟨c, hc⟩ : ∃ c, w1.heap.size = c := ⟨_, rfl⟩
 have hcn : w1.heap.size ≤ c := by omega
 have HC := Lib.hid hc
 rw [hc] at HK ⊢
 clear c0 c1 c2 c3 c4 c5 c6 c7 hc
 have HS2 := Lib.hid (HS.out.below HB.out)
 have HT2 := Lib.hid (tabs_below HT.out HB.out)
 have hn2 : w1.heap.size ≤ w2.heap.size := HB.out.size
 refine wp_held_tail mixed (VSc5 b c σ.i.lim w2.heap.size (backT σ.T) σ.s) (VSc5_mono _ _ _ _ _ _) (by kernel_rfl) 8 10 (by decide) [11, 12, 13, 14, 15, 16, 17, 18, 19, 20] (by kernel_rfl) (by kernel_rfl) (by kernel_rfl) (by kernel_rfl) ?_ ?_
 ·intro j hj
  have hj' : j < 10 := hj
  rcases (by omega : j = 0 ∨ j = 1 ∨ j = 2 ∨ j = 3 ∨ j = 4 ∨ j = 5 ∨ j = 6 ∨ j = 7 ∨ j = 8 ∨ j = 9) with rfl | rfl | rfl | rfl | rfl | rfl | rfl | rfl | rfl | rfl
  ·(refine owes_val (L := [(0, false)]) rfl rfl rfl (by kernel_rfl) ?_; intro a' w' hb' hfacts; obtain ⟨hf0, -⟩ := hfacts; replace hf0 : a'.tmps[0]?.getD undef = .pointer (some ⟨b, 0, none⟩) := hf0)
   obtain ⟨pq, hpq, -⟩ := (HS2.out.below hb').2; have p4 := (hpq.lies.2 4 _ rfl).1; clear hpq
   (go_simp; first | exact ⟨_, rfl, Br _, rfl⟩ | exact ⟨_, rfl, Br _, trivial⟩ | exact ⟨_, rfl, Ba _ _, trivial⟩ | exact ⟨_, rfl, Br _, congrArg (Value.int _) (IntWalk.i64_in _ (by omega))⟩)
  ·(refine owes_val (L := [(11, true)]) rfl rfl rfl (by kernel_rfl) ?_; intro a' w' hb' hfacts; obtain ⟨hf11, -⟩ := hfacts; try simp only [VSc5] at hf11)
   go_simp
   refine (StBackend_in (HS2.out.below hb')).mono ?_
   rintro e w3 ⟨rfl, rfl⟩
   exact ⟨_, rfl, Below.refl _ _, rfl⟩
  ·(refine owes_val (L := [(0, false)]) rfl rfl rfl (by kernel_rfl) ?_; intro a' w' hb' hfacts; obtain ⟨hf0, -⟩ := hfacts; replace hf0 : a'.tmps[0]?.getD undef = .pointer (some ⟨b, 0, none⟩) := hf0)
   obtain ⟨pq, hpq, -⟩ := (HS2.out.below hb').2; have p4 := (hpq.lies.2 4 _ rfl).1; clear hpq
   (go_simp; first | exact ⟨_, rfl, Br _, rfl⟩ | exact ⟨_, rfl, Br _, trivial⟩ | exact ⟨_, rfl, Ba _ _, trivial⟩ | exact ⟨_, rfl, Br _, congrArg (Value.int _) (IntWalk.i64_in _ (by omega))⟩)
  ·(refine owes_val (L := [(13, true)]) rfl rfl rfl (by kernel_rfl) ?_; intro a' w' hb' hfacts; obtain ⟨hf13, -⟩ := hfacts; try simp only [VSc5] at hf13)
   obtain ⟨pq, hpq, -⟩ := (HS2.out.below hb').2; have p4 := (hpq.lies.2 4 _ rfl).1; clear hpq
   (go_simp; first | exact ⟨_, rfl, Br _, rfl⟩ | exact ⟨_, rfl, Br _, trivial⟩ | exact ⟨_, rfl, Ba _ _, trivial⟩ | exact ⟨_, rfl, Br _, congrArg (Value.int _) (IntWalk.i64_in _ (by omega))⟩)
  ·(refine owes_val (L := [(14, true)]) rfl rfl rfl (by kernel_rfl) ?_; intro a' w' hb' hfacts; obtain ⟨hf14, -⟩ := hfacts; try simp only [VSc5] at hf14)
   obtain ⟨pq, hpq, -⟩ := (HS2.out.below hb').2; have p4 := (hpq.lies.2 4 _ rfl).1; clear hpq
   (go_simp; first | exact ⟨_, rfl, Br _, rfl⟩ | exact ⟨_, rfl, Br _, trivial⟩ | exact ⟨_, rfl, Ba _ _, trivial⟩ | exact ⟨_, rfl, Br _, congrArg (Value.int _) (IntWalk.i64_in _ (by omega))⟩)
  ·(refine owes_val (L := [(15, true)]) rfl rfl rfl (by kernel_rfl) ?_; intro a' w' hb' hfacts; obtain ⟨hf15, -⟩ := hfacts; try simp only [VSc5] at hf15)
   obtain ⟨pq, hpq, -⟩ := (HS2.out.below hb').2; have p4 := (hpq.lies.2 4 _ rfl).1; clear hpq
   (go_simp; first | exact ⟨_, rfl, Br _, rfl⟩ | exact ⟨_, rfl, Br _, trivial⟩ | exact ⟨_, rfl, Ba _ _, trivial⟩ | exact ⟨_, rfl, Br _, congrArg (Value.int _) (IntWalk.i64_in _ (by omega))⟩)
  ·(refine owes_val (L := [(0, false)]) rfl rfl rfl (by kernel_rfl) ?_; intro a' w' hb' hfacts; obtain ⟨hf0, -⟩ := hfacts; replace hf0 : a'.tmps[0]?.getD undef = .pointer (some ⟨b, 0, none⟩) := hf0)
   obtain ⟨pq, hpq, -⟩ := (HS2.out.below hb').2; have p4 := (hpq.lies.2 4 _ rfl).1; clear hpq
   (go_simp; first | exact ⟨_, rfl, Br _, rfl⟩ | exact ⟨_, rfl, Br _, trivial⟩ | exact ⟨_, rfl, Ba _ _, trivial⟩ | exact ⟨_, rfl, Br _, congrArg (Value.int _) (IntWalk.i64_in _ (by omega))⟩)
  ·(refine owes_val (L := [(17, true)]) rfl rfl rfl (by kernel_rfl) ?_; intro a' w' hb' hfacts; obtain ⟨hf17, -⟩ := hfacts; try simp only [VSc5] at hf17)
   go_simp
   refine (StText_any ((HS2.out.below hb').has (tabs_below HT2.out hb') hsm)).mono ?_
   rintro e w3 ⟨rfl, hb3⟩
   exact ⟨_, rfl, hb3, rfl⟩
  ·(refine owes_val (L := [(12, true), (16, true), (18, true)]) rfl rfl rfl (by kernel_rfl) ?_; intro a' w' hb' hfacts; obtain ⟨hf12, hf16, hf18, -⟩ := hfacts; try simp only [VSc5] at hf12; try simp only [VSc5] at hf16; try simp only [VSc5] at hf18)
   go_simp
   refine (kept_in (backT σ.T) σ.i.lim σ.s _ (tabs_below HT2.out hb') hl hf).mono ?_
   rintro e w3 ⟨p, rfl, hI, hb3⟩
   exact ⟨_, rfl, hb3, p, rfl, hI.mono (fun j _ hj => Nat.le_trans hb'.size hj)⟩
  ·(refine owes_val (L := [(3, false)]) rfl rfl rfl (by kernel_rfl) ?_; intro a' w' hb' hfacts; obtain ⟨hf3, -⟩ := hfacts; replace hf3 : a'.tmps[3]?.getD undef = .pointer (some ⟨c, 0, none⟩) := hf3)
   obtain ⟨pq, hpq, -⟩ := (HS2.out.below hb').2; have p4 := (hpq.lies.2 4 _ rfl).1; clear hpq
   (go_simp; first | exact ⟨_, rfl, Br _, rfl⟩ | exact ⟨_, rfl, Br _, trivial⟩ | exact ⟨_, rfl, Ba _ _, trivial⟩ | exact ⟨_, rfl, Br _, congrArg (Value.int _) (IntWalk.i64_in _ (by omega))⟩)
 ·intro f W2 hf hb
  have e20 : f 20 = .pointer (some ⟨c, 0, none⟩) := hf 20 (by decide)
  obtain ⟨p, e19, hI⟩ := hf 19 (by decide)
  have hBl := HK.out.below hb
  obtain ⟨q0, f0⟩ := hBl.lies.2 0 _ rfl
  have hbl2 := hBl.lies.1
  rw [HTy.out] at hI e19
  have hc := Chg.set W2 ⟨c, 0, none⟩ (.iface σ.T (ptr p))
  have hE : StoreIn (W2.setCell ⟨c, 0, none⟩ (.iface σ.T (ptr p))) c σ.i σ.T σ.s (fun j => w1.heap.size ≤ j) ∧ Below w1.heap.size w1 (W2.setCell ⟨c, 0, none⟩ (.iface σ.T (ptr p))) :=
   ⟨⟨hcn, p, hBl.set 0 (.iface σ.T (ptr p)), (StoreIn.set hBl hI hc).mono (fun j _ hj => Nat.le_trans hn2 hj)⟩, chg_mine (HB.out.trans (hb.mono HB.out.size)) hc hcn⟩
  have HE := Lib.hid hE
  clear hf hb hBl hI hc hE HS HS2 HT HT2 HK HB
  simp only [putAll, put_lit, List.map_cons, List.map_nil, List.set_cons_succ, List.set_cons_zero]
  simp only [e20, e19]
  clear e20 e19
  dsimp only [List.drop]
  unfold ptr at *
  go_wp2
  go_ret
  exact ⟨c, w1, rfl, Hq.out, HE.out⟩
end Go.Proofs.YtfchglcclgcgfaaGreatDoor.Ut
