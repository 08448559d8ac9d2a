/-
  What the proof of the laws S rests on: the texts RfE RfF RfG. Conditions: each theorem names its own.
-/
import Derived.Test.YtfchglcclgcgfaaGreatDoorMgSp
import Derived.Test.YtfchglcclgcgfaaGreatDoorMgSi
import Derived.Test.YtfchglcclgcgfaaGreatDoorMgSm
/-
 bodkinref03.joined; bodkinref01.lead, size, scalar, begins: what they answer. No condition.
-/
namespace Go.Proofs.YtfchglcclgcgfaaGreatDoor.Ut
open Go.RowKit Go.Proofs.YtfchglcclgcgfaaGreatDoor.Reg
set_option linter.unusedVariables false
set_option linter.unusedSimpArgs false

set_option maxRecDepth 100000 in
set_option maxHeartbeats 1000000 in
theorem RefJoined_any (u v a b : Int) (w : World) : Calls Tryz.prog 147 #[.agg #[.int .i32 u, .int .i64 a], .agg #[.int .i32 v, .int .i64 b]] w fun e w' => e = .returned (.bool (gluedF u v)) ∧ Below w.heap.size w w' := by
 obtain ⟨W0, hW0, A0, A1, b0, hsz⟩ := boxesL2 w [.int .i32 u, .int .i64 a] [.int .i32 v, .int .i64 b] 137 137
 have HE := Lib.hid hW0
 have HA := Lib.hid A0
 have HC := Lib.hid A1
 have HB := Lib.hid b0
 have HR := Lib.hid (fun x w => RefClass_any x w)
 obtain ⟨G, hG⟩ : ∃ G, gluedF u v = G := ⟨_, rfl⟩
 have HG := Lib.hid hG
 rw [hG]
 have c0 := (A0.2 0 _ rfl).1
 have c1 := (A1.2 0 _ rfl).1
 clear hW0 A0 A1 b0 hsz hG
 by_cases h1 : u = 13 ∧ v = 10
 ·obtain ⟨rfl, rfl⟩ := h1
  have hg : G = true := by rw [← HG.out]; simp [gluedF]
  subst hg
  go_enter Tryz.func147, Tryz.ntmps147
  go_wp2
  rw [HE.out]
  go_wp2
  go_ret
  exact ⟨rfl, HB.out⟩
 ·have hg : Hid (G = (decide (classF v = 3) && decide (classF u ≠ 1) && decide (classF u ≠ 2))) := by
   show _ = _
   rw [← HG.out]; unfold gluedF
   rw [Bool.or_eq_right_iff_imp]
   intro h; simp at h; exact absurd h h1
  have hc : (u = 13 ∧ (v == 10) = false) ∨ (u == 13) = false := by
   by_cases e : u = 13
   ·exact .inl ⟨e, by simpa using fun h => h1 ⟨e, h⟩⟩
   ·exact .inr (by simpa using e)
  clear HG h1
  rcases hc with ⟨rfl, hv⟩ | hu
  all_goals
   go_enter Tryz.func147, Tryz.ntmps147
   go_wp2_with fail
   rw [HE.out]
   refine (HR.out _ W0).mono ?_
   rintro e w1 ⟨rfl, hb⟩
   have HC := Lib.hid (HC.out.below hb)
   have HB := Lib.hid (HB.out.trans (hb.mono HB.out.size))
   clear hb
   clear c1
   have c1 := (HC.out.2 0 _ rfl).1
   go_wp2_with fail
   refine (HR.out _ w1).mono ?_
   rintro e w2 ⟨rfl, hb⟩
   have HB := Lib.hid (HB.out.trans (hb.mono HB.out.size))
   clear hb
   clear c0 c1 HR HA HC HE
   generalize classF v = kv at *
   first | generalize classF u = ku at * | generalize classF 13 = ku at *
   rcases (by omega : ¬ kv = 3 ∨ (kv = 3 ∧ ku = 1) ∨ (kv = 3 ∧ ku = 2) ∨ (kv = 3 ∧ ¬ ku = 1 ∧ ¬ ku = 2)) with h | ⟨rfl, rfl⟩ | ⟨rfl, rfl⟩ | ⟨rfl, h2, h3⟩
   ·have g1 : (kv == 3) = false := by simpa using h
    have hgf : Hid (G = false) := by show _ = _; rw [hg.out]; simp [h]
    clear hg h
    go_wp2
    go_ret
    exact ⟨by rw [hgf.out]; rfl, HB.out⟩
   ·have hgf : Hid (G = false) := by show _ = _; rw [hg.out]; rfl
    clear hg
    go_wp2
    go_ret
    exact ⟨by rw [hgf.out]; rfl, HB.out⟩
   ·have hgf : Hid (G = false) := by show _ = _; rw [hg.out]; rfl
    clear hg
    go_wp2
    go_ret
    exact ⟨by rw [hgf.out]; rfl, HB.out⟩
   ·have g2 : (ku != 1) = true := by simpa using h2
    have g3 : (ku != 2) = true := by simpa using h3
    have hgf : Hid (G = true) := by show _ = _; rw [hg.out]; simp [h2, h3]
    clear hg h2 h3
    go_wp2
    go_ret
    exact ⟨by rw [hgf.out]; rfl, HB.out⟩

/-- lead: the number in a first byte, and how many bytes follow it. -/
def leadF (b : Nat) : Int × Int := if b < 128 then (b, 0) else if 192 ≤ b ∧ b < 224 then ((b : Int) - 192, 1) else if 224 ≤ b ∧ b < 240 then ((b : Int) - 224, 2) else if 240 ≤ b ∧ b < 248 then ((b : Int) - 240, 3) else (0, -1)
set_option maxRecDepth 100000 in
set_option maxHeartbeats 1000000 in
theorem RefLead_any (b : Nat) (hb : b < 256) (w : World) : Calls Tryz.prog 188 #[.int .u8 b] w fun e w' => e = .returned (.tuple #[.int .i32 (leadF b).1, .int .i64 (leadF b).2]) ∧ w' = w := by
 have w0 : IntKind.i32.wrap (b : Int) = (b : Int) := IntWalk.i32_in _ (by omega)
 have w1 : IntKind.i32.wrap ((b : Int) - 192) = (b : Int) - 192 := IntWalk.i32_in _ (by omega)
 have w2 : IntKind.i32.wrap ((b : Int) - 224) = (b : Int) - 224 := IntWalk.i32_in _ (by omega)
 have w3 : IntKind.i32.wrap ((b : Int) - 240) = (b : Int) - 240 := IntWalk.i32_in _ (by omega)
 rcases (by omega : b < 128 ∨ (128 ≤ b ∧ b < 192) ∨ (192 ≤ b ∧ b < 224) ∨ (224 ≤ b ∧ b < 240) ∨ (240 ≤ b ∧ b < 248) ∨ 248 ≤ b) with h | ⟨h1, h2⟩ | ⟨h1, h2⟩ | ⟨h1, h2⟩ | ⟨h1, h2⟩ | h
 ·have he : leadF b = ((b : Int), 0) := by unfold leadF; rw [if_pos h]
  have g1 : (b : Int) < 128 := by omega
  rw [he]
  clear he h
  go_enter Tryz.func188, Tryz.ntmps188
  go_wp2
  refine bodyPost_ret (v := .tuple #[.int .i32 b, .int .i64 0]) (by simp [results, Tryz.results188, go_sem]) rfl ⟨rfl, rfl⟩
 ·have he : leadF b = (0, -1) := by unfold leadF; rw [if_neg (by omega), if_neg (by omega), if_neg (by omega), if_neg (by omega)]
  have g1 : ¬ (b : Int) < 128 := by omega
  have g2 : ¬ (192 : Int) ≤ (b : Int) := by omega
  have g3 : ¬ (224 : Int) ≤ (b : Int) := by omega
  have g4 : ¬ (240 : Int) ≤ (b : Int) := by omega
  rw [he]
  clear he h1 h2
  go_enter Tryz.func188, Tryz.ntmps188
  go_wp2
  refine bodyPost_ret (v := .tuple #[.int .i32 0, .int .i64 (-1)]) (by simp [results, Tryz.results188, go_sem]) rfl ⟨rfl, rfl⟩
 ·have he : leadF b = ((b : Int) - 192, 1) := by unfold leadF; rw [if_neg (by omega), if_pos ⟨h1, h2⟩]
  have g1 : ¬ (b : Int) < 128 := by omega
  have g2 : (192 : Int) ≤ (b : Int) := by omega
  have g3 : (b : Int) < 224 := by omega
  rw [he]
  clear he h1 h2
  go_enter Tryz.func188, Tryz.ntmps188
  go_wp2
  refine bodyPost_ret (v := .tuple #[.int .i32 ((b : Int) - 192), .int .i64 1]) (by simp [results, Tryz.results188, go_sem]) rfl ⟨rfl, rfl⟩
 ·have he : leadF b = ((b : Int) - 224, 2) := by unfold leadF; rw [if_neg (by omega), if_neg (by omega), if_pos ⟨h1, h2⟩]
  have g1 : ¬ (b : Int) < 128 := by omega
  have g2 : (192 : Int) ≤ (b : Int) := by omega
  have g3 : ¬ (b : Int) < 224 := by omega
  have g4 : (224 : Int) ≤ (b : Int) := by omega
  have g5 : (b : Int) < 240 := by omega
  rw [he]
  clear he h1 h2
  go_enter Tryz.func188, Tryz.ntmps188
  go_wp2
  refine bodyPost_ret (v := .tuple #[.int .i32 ((b : Int) - 224), .int .i64 2]) (by simp [results, Tryz.results188, go_sem]) rfl ⟨rfl, rfl⟩
 ·have he : leadF b = ((b : Int) - 240, 3) := by unfold leadF; rw [if_neg (by omega), if_neg (by omega), if_neg (by omega), if_pos ⟨h1, h2⟩]
  have g1 : ¬ (b : Int) < 128 := by omega
  have g2 : (192 : Int) ≤ (b : Int) := by omega
  have g3 : ¬ (b : Int) < 224 := by omega
  have g4 : (224 : Int) ≤ (b : Int) := by omega
  have g5 : ¬ (b : Int) < 240 := by omega
  have g6 : (240 : Int) ≤ (b : Int) := by omega
  have g7 : (b : Int) < 248 := by omega
  rw [he]
  clear he h1 h2
  go_enter Tryz.func188, Tryz.ntmps188
  go_wp2
  refine bodyPost_ret (v := .tuple #[.int .i32 ((b : Int) - 240), .int .i64 3]) (by simp [results, Tryz.results188, go_sem]) rfl ⟨rfl, rfl⟩
 ·have he : leadF b = (0, -1) := by unfold leadF; rw [if_neg (by omega), if_neg (by omega), if_neg (by omega), if_neg (by omega)]
  have g1 : ¬ (b : Int) < 128 := by omega
  have g2 : (192 : Int) ≤ (b : Int) := by omega
  have g3 : ¬ (b : Int) < 224 := by omega
  have g4 : (224 : Int) ≤ (b : Int) := by omega
  have g5 : ¬ (b : Int) < 240 := by omega
  have g6 : (240 : Int) ≤ (b : Int) := by omega
  have g7 : ¬ (b : Int) < 248 := by omega
  rw [he]
  clear he h
  go_enter Tryz.func188, Tryz.ntmps188
  go_wp2
  refine bodyPost_ret (v := .tuple #[.int .i32 0, .int .i64 (-1)]) (by simp [results, Tryz.results188, go_sem]) rfl ⟨rfl, rfl⟩

def sizeF (c : Int) : Int := if c < 128 then 1 else if c < 2048 then 2 else if c < 65536 then 3 else 4
set_option maxRecDepth 100000 in
theorem RefSize_any (c : Int) (w : World) : Calls Tryz.prog 174 #[.int .i32 c] w fun e w' => e = .returned (.int .i64 (sizeF c)) ∧ w' = w := by
 by_cases h1 : c < 128
 ·have he : sizeF c = 1 := by unfold sizeF; rw [if_pos h1]
  rw [he]
  go_enter Tryz.func174, Tryz.ntmps174
  go_wp2
  go_ret
  exact ⟨rfl, rfl⟩
 ·by_cases h2 : c < 2048
  ·have he : sizeF c = 2 := by unfold sizeF; rw [if_neg h1, if_pos h2]
   rw [he]
   go_enter Tryz.func174, Tryz.ntmps174
   go_wp2
   go_ret
   exact ⟨rfl, rfl⟩
  ·by_cases h3 : c < 65536
   ·have he : sizeF c = 3 := by unfold sizeF; rw [if_neg h1, if_neg h2, if_pos h3]
    rw [he]
    go_enter Tryz.func174, Tryz.ntmps174
    go_wp2
    go_ret
    exact ⟨rfl, rfl⟩
   ·have he : sizeF c = 4 := by unfold sizeF; rw [if_neg h1, if_neg h2, if_neg h3]
    rw [he]
    go_enter Tryz.func174, Tryz.ntmps174
    go_wp2
    go_ret
    exact ⟨rfl, rfl⟩
def scalarF (c : Int) : Bool := decide (0 ≤ c ∧ c ≤ 1114111 ∧ (c < 55296 ∨ 57343 < c))
set_option maxRecDepth 100000 in
theorem RefScalar_any (c : Int) (w : World) : Calls Tryz.prog 189 #[.int .i32 c] w fun e w' => e = .returned (.bool (scalarF c)) ∧ w' = w := by
 rcases (by omega : ¬ 0 ≤ c ∨ (0 ≤ c ∧ ¬ c ≤ 1114111) ∨ (0 ≤ c ∧ c ≤ 1114111 ∧ c < 55296) ∨ (0 ≤ c ∧ c ≤ 1114111 ∧ ¬ c < 55296 ∧ 57343 < c) ∨ (0 ≤ c ∧ c ≤ 1114111 ∧ ¬ c < 55296 ∧ ¬ 57343 < c)) with h1 | ⟨h1, h2⟩ | ⟨h1, h2, h3⟩ | ⟨h1, h2, h3, h4⟩ | ⟨h1, h2, h3, h4⟩
 ·have he : scalarF c = false := by unfold scalarF; simp; omega
  rw [he]
  go_enter Tryz.func189, Tryz.ntmps189
  go_wp2
  go_ret
  exact ⟨rfl, rfl⟩
 ·have he : scalarF c = false := by unfold scalarF; simp; omega
  rw [he]
  go_enter Tryz.func189, Tryz.ntmps189
  go_wp2
  go_ret
  exact ⟨rfl, rfl⟩
 ·have he : scalarF c = true := by unfold scalarF; simp; omega
  rw [he]
  go_enter Tryz.func189, Tryz.ntmps189
  go_wp2
  go_ret
  exact ⟨rfl, rfl⟩
 ·have he : scalarF c = true := by unfold scalarF; simp; omega
  rw [he]
  go_enter Tryz.func189, Tryz.ntmps189
  go_wp2
  go_ret
  exact ⟨rfl, rfl⟩
 ·have he : scalarF c = false := by unfold scalarF; simp; omega
  rw [he]
  go_enter Tryz.func189, Tryz.ntmps189
  go_wp2
  go_ret
  exact ⟨rfl, rfl⟩
end Go.Proofs.YtfchglcclgcgfaaGreatDoor.Ut
/-
 bodkinref01.begins: what it answers. No condition.
-/
namespace Go.Proofs.YtfchglcclgcgfaaGreatDoor.Ut
open Go.RowKit Go.Proofs.YtfchglcclgcgfaaGreatDoor.Reg
set_option linter.unusedVariables false
set_option linter.unusedSimpArgs false

def cont (s : ByteArray) (j : Nat) : Prop := 128 ≤ bt s j ∧ bt s j ≤ 191
/-- The number behind k bytes more. -/
def valF (s : ByteArray) (c0 : Int) : Nat → Int
 | 0 => c0
 | k + 1 => valF s c0 k * 64 + bt s ((k + 1 : Nat) : Int) - 128
theorem valF_bound (s : ByteArray) {c0 : Int} (h0 : 0 ≤ c0) (h1 : c0 ≤ 127) : ∀ k, (∀ j, 1 ≤ j → j ≤ k → cont s j) → 0 ≤ valF s c0 k ∧ valF s c0 k ≤ 128 * (64 : Int) ^ k - 1
 | 0, _ => by unfold valF; simp; omega
 | k + 1, h => by
  obtain ⟨a, b⟩ := valF_bound s h0 h1 k (fun j x y => h j x (by omega))
  obtain ⟨c, d⟩ := h (k + 1) (by omega) (Nat.le_refl _)
  unfold valF
  rw [Int.pow_succ]
  omega
def begF (s : ByteArray) : Int := chOf (dec4 (bt s 0) (bt s 1) (bt s 2) (bt s 3))
theorem begF_ch (s : ByteArray) (h : 0 < s.size) : begF s = ch s := by
 have e := win_ch s (i := 0) (k := 4) (j := 0) (Nat.le_refl _) rfl h
 have hf : from_ s 0 = s := by unfold from_; exact extract_all s
 rw [hf] at e
 rw [e]
 unfold begF wCh wD
 rw [win_at _ _ _ (by omega), win_at _ _ _ (by omega), win_at _ _ _ (by omega), win_at _ _ _ (by omega)]
 rfl
theorem dec4_cont (a b c d : Nat) : chOf (dec4 a b c d) =
  if a < 128 then (a : Int)
  else if 192 ≤ a ∧ a < 224 then (if 128 ≤ b ∧ b ≤ 191 ∧ 128 ≤ ((a : Int) - 192) * 64 + b - 128 then ((a : Int) - 192) * 64 + b - 128 else -1)
  else if 224 ≤ a ∧ a < 240 then (if 128 ≤ b ∧ b ≤ 191 ∧ 128 ≤ c ∧ c ≤ 191 ∧ 2048 ≤ (((a : Int) - 224) * 64 + b - 128) * 64 + c - 128 ∧ ((((a : Int) - 224) * 64 + b - 128) * 64 + c - 128 < 55296 ∨ 57343 < (((a : Int) - 224) * 64 + b - 128) * 64 + c - 128) then (((a : Int) - 224) * 64 + b - 128) * 64 + c - 128 else -1)
  else if 240 ≤ a ∧ a < 248 then (if 128 ≤ b ∧ b ≤ 191 ∧ 128 ≤ c ∧ c ≤ 191 ∧ 128 ≤ d ∧ d ≤ 191 ∧ 65536 ≤ ((((a : Int) - 240) * 64 + b - 128) * 64 + c - 128) * 64 + d - 128 ∧ ((((a : Int) - 240) * 64 + b - 128) * 64 + c - 128) * 64 + d - 128 ≤ 1114111 then ((((a : Int) - 240) * 64 + b - 128) * 64 + c - 128) * 64 + d - 128 else -1)
  else -1 := by
 have hv : ∀ n : Nat, Utf8.valid (n : Int) = true ↔ (n ≤ 1114111 ∧ ¬ (55296 ≤ n ∧ n ≤ 57343)) := by
  intro n
  unfold Utf8.valid
  simp
  omega
 have hbad : chOf (65533, 1) = -1 := rfl
 have hbig : ∀ v k : Nat, 2 ≤ k → chOf (v, k) = (v : Int) := by
  intro v k hk
  unfold chOf
  rw [if_neg (by rintro ⟨-, h⟩; simp only at h; omega)]
 by_cases h0 : a < 128
 ·rw [dec4_low h0, if_pos h0]
  unfold chOf
  rw [if_neg (by rintro ⟨h, -⟩; simp only at h; omega)]
 rw [if_neg h0]
 by_cases h1 : 192 ≤ a ∧ a < 224
 ·rw [if_pos h1]
  by_cases hb : b / 64 = 2
  ·have e : dec4 a b c d = if a % 32 * 64 + b % 64 ≥ 0x80 then (a % 32 * 64 + b % 64, 2) else (65533, 1) := by unfold dec4; rw [if_neg (by omega), if_pos (by omega)]
   rw [e]
   by_cases hv2 : a % 32 * 64 + b % 64 ≥ 0x80
   ·rw [if_pos hv2, hbig _ _ (by omega), if_pos (by omega)]; omega
   ·rw [if_neg hv2, hbad, if_neg (by omega)]
  ·have e : dec4 a b c d = (65533, 1) := by unfold dec4; rw [if_neg (by omega), if_neg (by omega), if_neg (by omega), if_neg (by omega)]
   rw [e, hbad, if_neg (by omega)]
 rw [if_neg h1]
 by_cases h2 : 224 ≤ a ∧ a < 240
 ·rw [if_pos h2]
  by_cases hb : b / 64 = 2 ∧ c / 64 = 2
  ·have e : dec4 a b c d = if a % 16 * 4096 + b % 64 * 64 + c % 64 ≥ 0x800 ∧ Utf8.valid (a % 16 * 4096 + b % 64 * 64 + c % 64 : Nat) = true then (a % 16 * 4096 + b % 64 * 64 + c % 64, 3) else (65533, 1) := by unfold dec4; rw [if_neg (by omega), if_neg (by omega), if_pos (by omega)]
   rw [e]
   by_cases hv2 : a % 16 * 4096 + b % 64 * 64 + c % 64 ≥ 0x800 ∧ (a % 16 * 4096 + b % 64 * 64 + c % 64 ≤ 1114111 ∧ ¬ (55296 ≤ a % 16 * 4096 + b % 64 * 64 + c % 64 ∧ a % 16 * 4096 + b % 64 * 64 + c % 64 ≤ 57343))
   ·rw [if_pos ⟨hv2.1, (hv _).2 hv2.2⟩, hbig _ _ (by omega), if_pos (by omega)]; omega
   ·rw [if_neg (fun h => hv2 ⟨h.1, (hv _).1 h.2⟩), hbad, if_neg (by omega)]
  ·have e : dec4 a b c d = (65533, 1) := by unfold dec4; rw [if_neg (by omega), if_neg (by omega), if_neg (by omega), if_neg (by omega)]
   rw [e, hbad, if_neg (by omega)]
 rw [if_neg h2]
 by_cases h3 : 240 ≤ a ∧ a < 248
 ·rw [if_pos h3]
  by_cases hb : b / 64 = 2 ∧ c / 64 = 2 ∧ d / 64 = 2
  ·have e : dec4 a b c d = if a % 8 * 262144 + b % 64 * 4096 + c % 64 * 64 + d % 64 ≥ 0x10000 ∧ Utf8.valid (a % 8 * 262144 + b % 64 * 4096 + c % 64 * 64 + d % 64 : Nat) = true then (a % 8 * 262144 + b % 64 * 4096 + c % 64 * 64 + d % 64, 4) else (65533, 1) := by unfold dec4; rw [if_neg (by omega), if_neg (by omega), if_neg (by omega), if_pos (by omega)]
   rw [e]
   by_cases hv2 : a % 8 * 262144 + b % 64 * 4096 + c % 64 * 64 + d % 64 ≥ 0x10000 ∧ (a % 8 * 262144 + b % 64 * 4096 + c % 64 * 64 + d % 64 ≤ 1114111 ∧ ¬ (55296 ≤ a % 8 * 262144 + b % 64 * 4096 + c % 64 * 64 + d % 64 ∧ a % 8 * 262144 + b % 64 * 4096 + c % 64 * 64 + d % 64 ≤ 57343))
   ·rw [if_pos ⟨hv2.1, (hv _).2 hv2.2⟩, hbig _ _ (by omega), if_pos (by omega)]; omega
   ·rw [if_neg (fun h => hv2 ⟨h.1, (hv _).1 h.2⟩), hbad, if_neg (by omega)]
  ·have e : dec4 a b c d = (65533, 1) := by unfold dec4; rw [if_neg (by omega), if_neg (by omega), if_neg (by omega), if_neg (by omega)]
   rw [e, hbad, if_neg (by omega)]
 rw [if_neg h3]
 have e : dec4 a b c d = (65533, 1) := by unfold dec4; rw [if_neg (by omega), if_neg (by omega), if_neg (by omega), if_neg (by omega)]
 rw [e, hbad]
/-- What a lead byte means. -/
theorem lead_ok (s : ByteArray) (h : 0 < s.size) : (leadF (bt s 0) = (0, -1) ∧ begF s = -1) ∨ ∃ (c0 : Int) (m : Nat), leadF (bt s 0) = (c0, (m : Int)) ∧ m ≤ 3 ∧ 0 ≤ c0 ∧ c0 ≤ 127 ∧
  (∀ j, 1 ≤ j → j ≤ m → ¬ cont s j → begF s = -1) ∧ ((∀ j, 1 ≤ j → j ≤ m → cont s j) → begF s = if scalarF (valF s c0 m) = true ∧ sizeF (valF s c0 m) = (m : Int) + 1 then valF s c0 m else -1) := by
 have hd := dec4_cont (bt s 0) (bt s 1) (bt s 2) (bt s 3)
 have hb : begF s = chOf (dec4 (bt s 0) (bt s 1) (bt s 2) (bt s 3)) := rfl
 rw [hd] at hb
 have h256 := bt_lt s h
 have e0 : ((0 : Nat) : Int) = 0 := rfl
 rw [e0] at h256
 generalize hx : bt s 0 = x at *
 have c1 : cont s 1 ↔ (128 ≤ bt s 1 ∧ bt s 1 ≤ 191) := Iff.rfl
 have c2 : cont s 2 ↔ (128 ≤ bt s 2 ∧ bt s 2 ≤ 191) := Iff.rfl
 have c3 : cont s 3 ↔ (128 ≤ bt s 3 ∧ bt s 3 ≤ 191) := Iff.rfl
 rcases (by omega : x < 128 ∨ (128 ≤ x ∧ x < 192) ∨ (192 ≤ x ∧ x < 224) ∨ (224 ≤ x ∧ x < 240) ∨ (240 ≤ x ∧ x < 248) ∨ 248 ≤ x) with g | ⟨g1, g2⟩ | ⟨g1, g2⟩ | ⟨g1, g2⟩ | ⟨g1, g2⟩ | g
 ·rw [if_pos g] at hb
  refine .inr ⟨x, 0, by unfold leadF; rw [if_pos g]; rfl, by omega, by omega, by omega, fun j a b => by omega, fun _ => ?_⟩
  have hs : scalarF (x : Int) = true := by unfold scalarF; simp; omega
  have hz : sizeF (x : Int) = 1 := by unfold sizeF; rw [if_pos (by omega)]
  rw [hb]
  unfold valF
  rw [if_pos ⟨hs, by rw [hz]; rfl⟩]
 ·left
  rw [if_neg (by omega), if_neg (by omega), if_neg (by omega), if_neg (by omega)] at hb
  exact ⟨by unfold leadF; rw [if_neg (by omega), if_neg (by omega), if_neg (by omega), if_neg (by omega)], hb⟩
 ·rw [if_neg (by omega), if_pos ⟨g1, g2⟩] at hb
  refine .inr ⟨(x : Int) - 192, 1, by unfold leadF; rw [if_neg (by omega), if_pos ⟨g1, g2⟩]; rfl, by omega, by omega, by omega, fun j a b hn => ?_, fun hc => ?_⟩
  ·obtain rfl : j = 1 := by omega
   rw [c1] at hn
   rw [hb, if_neg (by omega)]
  ·have k1 := c1.1 (hc 1 (by omega) (by omega))
   have hv : valF s ((x : Int) - 192) 1 = ((x : Int) - 192) * 64 + bt s 1 - 128 := rfl
   rw [hv, hb]
   have hsc : scalarF (((x : Int) - 192) * 64 + bt s 1 - 128) = true := by unfold scalarF; simp; omega
   by_cases hg : 128 ≤ ((x : Int) - 192) * 64 + bt s 1 - 128
   ·have hz : sizeF (((x : Int) - 192) * 64 + bt s 1 - 128) = 2 := by unfold sizeF; rw [if_neg (by omega), if_pos (by omega)]
    rw [if_pos (by omega), if_pos ⟨hsc, by rw [hz]; rfl⟩]
   ·have hz : sizeF (((x : Int) - 192) * 64 + bt s 1 - 128) = 1 := by unfold sizeF; rw [if_pos (by omega)]
    rw [if_neg (by omega), if_neg (by rw [hz]; rintro ⟨-, h⟩; simp at h)]
 ·rw [if_neg (by omega), if_neg (by omega), if_pos ⟨g1, g2⟩] at hb
  refine .inr ⟨(x : Int) - 224, 2, by unfold leadF; rw [if_neg (by omega), if_neg (by omega), if_pos ⟨g1, g2⟩]; rfl, by omega, by omega, by omega, fun j a b hn => ?_, fun hc => ?_⟩
  ·rcases (by omega : j = 1 ∨ j = 2) with rfl | rfl
   ·rw [c1] at hn; rw [hb, if_neg (by omega)]
   ·rw [c2] at hn; rw [hb, if_neg (by omega)]
  ·have k1 := c1.1 (hc 1 (by omega) (by omega))
   have k2 := c2.1 (hc 2 (by omega) (by omega))
   have hv : valF s ((x : Int) - 224) 2 = (((x : Int) - 224) * 64 + bt s 1 - 128) * 64 + bt s 2 - 128 := rfl
   rw [hv, hb]
   generalize hy : (((x : Int) - 224) * 64 + bt s 1 - 128) * 64 + bt s 2 - 128 = y at *
   by_cases hg : 2048 ≤ y ∧ (y < 55296 ∨ 57343 < y)
   ·have hsc : scalarF y = true := by unfold scalarF; simp; omega
    have hz : sizeF y = 3 := by unfold sizeF; rw [if_neg (by omega), if_neg (by omega), if_pos (by omega)]
    rw [if_pos (by omega), if_pos ⟨hsc, by rw [hz]; rfl⟩]
   ·rw [if_neg (by omega), if_neg]
    rintro ⟨h5, h6⟩
    unfold scalarF at h5
    unfold sizeF at h6
    simp at h5
    split at h6
    ·omega
    ·split at h6 <;> omega
 ·rw [if_neg (by omega), if_neg (by omega), if_neg (by omega), if_pos ⟨g1, g2⟩] at hb
  refine .inr ⟨(x : Int) - 240, 3, by unfold leadF; rw [if_neg (by omega), if_neg (by omega), if_neg (by omega), if_pos ⟨g1, g2⟩]; rfl, by omega, by omega, by omega, fun j a b hn => ?_, fun hc => ?_⟩
  ·rcases (by omega : j = 1 ∨ j = 2 ∨ j = 3) with rfl | rfl | rfl
   ·rw [c1] at hn; rw [hb, if_neg (by omega)]
   ·rw [c2] at hn; rw [hb, if_neg (by omega)]
   ·rw [c3] at hn; rw [hb, if_neg (by omega)]
  ·have k1 := c1.1 (hc 1 (by omega) (by omega))
   have k2 := c2.1 (hc 2 (by omega) (by omega))
   have k3 := c3.1 (hc 3 (by omega) (by omega))
   have hv : valF s ((x : Int) - 240) 3 = ((((x : Int) - 240) * 64 + bt s 1 - 128) * 64 + bt s 2 - 128) * 64 + bt s 3 - 128 := rfl
   rw [hv, hb]
   generalize hy : ((((x : Int) - 240) * 64 + bt s 1 - 128) * 64 + bt s 2 - 128) * 64 + bt s 3 - 128 = y at *
   by_cases hg : 65536 ≤ y ∧ y ≤ 1114111
   ·have hsc : scalarF y = true := by unfold scalarF; simp; omega
    have hz : sizeF y = 4 := by unfold sizeF; rw [if_neg (by omega), if_neg (by omega), if_neg (by omega)]
    rw [if_pos (by omega), if_pos ⟨hsc, by rw [hz]; rfl⟩]
   ·rw [if_neg (by omega), if_neg]
    rintro ⟨h5, h6⟩
    unfold scalarF at h5
    unfold sizeF at h6
    simp at h5
    split at h6
    ·omega
    ·split at h6
     ·omega
     ·split at h6 <;> omega
 ·left
  rw [if_neg (by omega), if_neg (by omega), if_neg (by omega), if_neg (by omega)] at hb
  exact ⟨by unfold leadF; rw [if_neg (by omega), if_neg (by omega), if_neg (by omega), if_neg (by omega)], hb⟩

set_option maxRecDepth 100000 in
set_option maxHeartbeats 2000000 in
theorem RefBegins_any (s : ByteArray) (w : World) (h0 : 0 < s.size) (hs : s.size ≤ 140737488355328) :
  Calls Tryz.prog 173 #[.string s] w fun e w' => e = .returned (.int .i32 (begF s)) ∧ w' = w := by
 have hix : ∀ w, (Instr.index 9 (.string s) (.int .i64 0)).run Tryz.prog w = .ok (.int .u8 (bt s 0)) w := fun w => ix_bt s 0 h0 w
 have HL := Lib.hid (fun w => RefLead_any (bt s 0) (bt_lt s h0) w)
 have HSz := Lib.hid (fun c w => RefSize_any c w)
 have HSc := Lib.hid (fun c w => RefScalar_any c w)
 obtain ⟨R, hR⟩ : ∃ R, begF s = R := ⟨_, rfl⟩
 have hlead := lead_ok s h0
 have HR := Lib.hid hR
 rw [hR] at hlead ⊢
 clear hR
 rcases hlead with ⟨he, hr⟩ | ⟨c0, m, he, hm, hc0, hc1, hbad, hok⟩
 ·subst hr
  rw [he] at HL
  clear he
  go_enter Tryz.func173, Tryz.ntmps173
  go_wp2_with fail
  refine (HL.out w).mono ?_
  rintro e w1 ⟨rfl, rfl⟩
  go_wp2
  go_ret
  exact ⟨rfl, rfl⟩
 ·rw [he] at HL
  have hmI : ¬ (m : Int) < 0 := by omega
  by_cases hlen : s.size ≤ m
  ·have hr : R = -1 := by
    refine hbad m (by omega) (Nat.le_refl _) ?_
    unfold cont
    rw [bt_big s (by omega)]
    omega
   subst hr
   have hlI : (s.size : Int) ≤ (m : Int) := by omega
   clear he hbad hok hlen
   go_enter Tryz.func173, Tryz.ntmps173
   go_wp2_with fail
   refine (HL.out w).mono ?_
   rintro e w1 ⟨rfl, rfl⟩
   go_wp2
   go_ret
   exact ⟨rfl, rfl⟩
  ·have hlI : ¬ (s.size : Int) ≤ (m : Int) := by omega
   have Hbad := Lib.hid hbad
   have Hok := Lib.hid hok
   clear he hbad hok
   go_enter Tryz.func173, Tryz.ntmps173
   go_wp2_with fail
   refine (HL.out w).mono ?_
   rintro e w1 ⟨rfl, rfl⟩
   go_wp2
   go_loopw [3, 5] (fun x y wr => ∃ i : Nat, 1 ≤ i ∧ i ≤ m + 1 ∧ y = .int .i64 i ∧ x = .int .i32 (valF s c0 (i - 1)) ∧ Hid (∀ j, 1 ≤ j → j < i → cont s j) ∧ wr = w1) (fun _ y _ => m + 1 - (intOf y).toNat)
   case atStart => exact ⟨1, Nat.le_refl _, by omega, rfl, rfl, fun j a b => by omega, rfl⟩
   case round =>
    obtain ⟨i, hi1, hi2, rfl, rfl, hco, rfl⟩ := hrel
    obtain ⟨k, rfl⟩ : ∃ k, i = k + 1 := ⟨i - 1, by omega⟩
    rw [show k + 1 - 1 = k from rfl]
    obtain ⟨v0, v1⟩ := valF_bound s hc0 hc1 k (fun j a b => hco.out j a (by omega))
    have hp : (64 : Int) ^ k ≤ 262144 := by
     rcases (by omega : k = 0 ∨ k = 1 ∨ k = 2 ∨ k = 3) with rfl | rfl | rfl | rfl <;> decide
    by_cases hlt : k + 1 ≤ m
    ·have hp2 : (64 : Int) ^ k ≤ 4096 := by
      rcases (by omega : k = 0 ∨ k = 1 ∨ k = 2) with rfl | rfl | rfl <;> decide
     have hjx := ix_bt s (k + 1) (by omega)
     have hst : Hid (valF s c0 (k + 1) = valF s c0 k * 64 + bt s ((k + 1 : Nat) : Int) - 128) := rfl
     have hbl := bt_lt s (k := k + 1) (by omega)
     have hcd : cont s (k + 1) ↔ (128 ≤ bt s ((k + 1 : Nat) : Int) ∧ bt s ((k + 1 : Nat) : Int) ≤ 191) := Iff.rfl
     have hki : ((k + 1 : Nat) : Int) = (k : Int) + 1 := by omega
     rw [hki] at hjx hst hbl hcd
     have hkm : (k : Int) + 1 ≤ (m : Int) := by omega
     generalize bt s ((k : Int) + 1) = B at *
     generalize valF s c0 k = V at *
     by_cases h1 : B < 128
     ·have hr : Hid (R = -1) := Hbad.out (k + 1) (by omega) hlt (by rw [hcd]; omega)
      have g1 : (B : Int) < 128 := by omega
      clear hcd hp hp2
      go_wp2
      go_ret
      exact ⟨by rw [hr.out]; rfl, rfl⟩
     ·have g1 : ¬ (B : Int) < 128 := by omega
      by_cases h2 : 191 < B
      ·have hr : Hid (R = -1) := Hbad.out (k + 1) (by omega) hlt (by rw [hcd]; omega)
       have g2 : (191 : Int) < (B : Int) := by omega
       clear hcd hp hp2
       go_wp2
       go_ret
       exact ⟨by rw [hr.out]; rfl, rfl⟩
      ·have g2 : ¬ (191 : Int) < (B : Int) := by omega
       have hco2 : Hid (∀ j, 1 ≤ j → j < k + 2 → cont s j) := by
        intro j a b
        by_cases e : j = k + 1
        ·subst e; exact hcd.2 ⟨by omega, by omega⟩
        ·exact hco.out j a (by omega)
       have a1 : IntKind.i32.wrap (V * 64) = V * 64 := IntWalk.i32_in _ (by omega)
       have a2 : IntKind.i32.wrap (B : Int) = (B : Int) := IntWalk.i32_in _ (by omega)
       have a3 : IntKind.i32.wrap (V * 64 + (B : Int)) = V * 64 + (B : Int) := IntWalk.i32_in _ (by omega)
       have a4 : IntKind.i32.wrap (V * 64 + (B : Int) - 128) = V * 64 + (B : Int) - 128 := IntWalk.i32_in _ (by omega)
       have hwk : IntKind.i64.wrap ((k : Int) + 1 + 1) = (k : Int) + 1 + 1 := IntWalk.i64_in _ (by omega)
       clear hcd hp hp2 v1
       go_wp2
       go_roundw
       case rel => exact ⟨k + 2, by omega, by omega, by go_num, by rw [show k + 2 - 1 = k + 1 from rfl, hst.out], hco2, trivial⟩
       case measure => simp [intOf]; omega
    ·obtain rfl : k = m := by omega
     have hr := Hok.out (fun j a b => hco.out j a (by omega))
     have HRr := Lib.hid hr
     have hkm : ¬ (k : Int) + 1 ≤ (k : Int) := by omega
     clear hr hp v1
     generalize valF s c0 k = V at *
     go_wp2_with fail
     refine (HSc.out V _).mono ?_
     rintro e w2 ⟨rfl, rfl⟩
     cases hsc : scalarF V with
     | false =>
      have hr : Hid (R = -1) := by show _ = _; rw [HRr.out, if_neg (by rw [hsc]; simp)]
      clear HRr hsc
      go_wp2
      go_ret
      exact ⟨by rw [hr.out]; rfl, rfl⟩
     | true =>
      by_cases hz : sizeF V = (k : Int) + 1
      ·have hr : Hid (R = V) := by show _ = _; rw [HRr.out, if_pos ⟨hsc, hz⟩]
       clear HRr hsc
       have HZ := Lib.hid (HSz.out V)
       rw [hz] at HZ
       clear hz
       go_wp2_with fail
       refine (HZ.out _).mono ?_
       rintro e w3 ⟨rfl, rfl⟩
       go_wp2
       go_ret
       exact ⟨by rw [hr.out]; rfl, rfl⟩
      ·have hr : Hid (R = -1) := by show _ = _; rw [HRr.out, if_neg (fun h => hz h.2)]
       have hz2 : (sizeF V != (k : Int) + 1) = true := by simpa using hz
       clear HRr hsc hz
       go_wp2_with fail
       refine (HSz.out V _).mono ?_
       rintro e w3 ⟨rfl, rfl⟩
       generalize sizeF V = Z at *
       go_wp2
       go_ret
       exact ⟨by rw [hr.out]; rfl, rfl⟩
end Go.Proofs.YtfchglcclgcgfaaGreatDoor.Ut
/-
 bodkinref01.Units: what it answers. No condition.
-/
namespace Go.Proofs.YtfchglcclgcgfaaGreatDoor.Ut
open Go.RowKit Go.Proofs.YtfchglcclgcgfaaGreatDoor.Reg
set_option linter.unusedVariables false
set_option linter.unusedSimpArgs false

/-- Where the units begin, from i on. -/
def unAtsF (s : ByteArray) : Nat → Nat → List Nat
 | 0, _ => []
 | f + 1, i => if i < s.size then i :: unAtsF s f (up s i) else []
def unAts (s : ByteArray) (i : Nat) : List Nat := unAtsF s (s.size - i) i
theorem unAtsF_more (s : ByteArray) : ∀ f i, s.size - i ≤ f → unAtsF s f i = unAts s i
 | 0, i, h => by unfold unAts; rw [show s.size - i = 0 by omega]
 | f + 1, i, h => by
  unfold unAts
  by_cases hi : i < s.size
  ·have h1 := up_gt hi
   rw [show s.size - i = (s.size - i - 1) + 1 by omega]
   unfold unAtsF
   rw [if_pos hi, if_pos hi, unAtsF_more s f (up s i) (by omega), unAtsF_more s (s.size - i - 1) (up s i) (by omega)]
  ·rw [show s.size - i = 0 by omega]
   unfold unAtsF
   rw [if_neg hi]
theorem unAts_step {s : ByteArray} {i : Nat} (h : i < s.size) : unAts s i = i :: unAts s (up s i) := by
 have h1 := up_gt h
 have e : unAts s i = unAtsF s ((s.size - i - 1) + 1) i := by unfold unAts; congr 1; omega
 rw [e]
 unfold unAtsF
 rw [if_pos h, unAtsF_more s _ _ (by omega)]
theorem unAts_end {s : ByteArray} {i : Nat} (h : s.size ≤ i) : unAts s i = [] := by unfold unAts; rw [show s.size - i = 0 by omega]; rfl
theorem unAts_len (s : ByteArray) : ∀ d i, s.size - i ≤ d → (unAts s i).length ≤ s.size - i
 | d, i, h => by
  by_cases hi : i < s.size
  ·have h1 := up_gt hi
   obtain ⟨d', rfl⟩ : ∃ d', d = d' + 1 := ⟨d - 1, by omega⟩
   rw [unAts_step hi, List.length_cons]
   have := unAts_len s d' (up s i) (by omega)
   omega
  ·rw [unAts_end (by omega)]; simp
theorem dec4_size (a b c d : Nat) (hb : a ≤ 256) : ((dec4 a b c d).2 : Int) = if 0 ≤ chOf (dec4 a b c d) then sizeF (chOf (dec4 a b c d)) else 1 := by
 have hbad : ((65533, 1) : Nat × Nat).2 = (if 0 ≤ chOf (65533, 1) then sizeF (chOf (65533, 1)) else 1 : Int) := rfl
 have hbig : ∀ v k : Nat, 2 ≤ k → sizeF (v : Int) = (k : Int) → (((v, k) : Nat × Nat).2 : Int) = if 0 ≤ chOf (v, k) then sizeF (chOf (v, k)) else 1 := by
  intro v k hk hz
  have : chOf (v, k) = (v : Int) := by unfold chOf; rw [if_neg (by rintro ⟨-, h⟩; simp only at h; omega)]
  rw [this, if_pos (by omega), hz]
 unfold dec4
 split
 ·rename_i h
  have : chOf (a, 1) = (a : Int) := by unfold chOf; rw [if_neg (by rintro ⟨h, -⟩; simp only at h; omega)]
  rw [this, if_pos (by omega)]
  unfold sizeF
  rw [if_pos (by omega)]; rfl
 ·split
  ·split
   ·exact hbig _ _ (by omega) (by unfold sizeF; rw [if_neg (by omega), if_pos (by omega)]; rfl)
   ·exact hbad
  ·split
   ·split
    ·rename_i h; exact hbig _ _ (by omega) (by unfold sizeF; rw [if_neg (by omega), if_neg (by omega), if_pos (by omega)]; rfl)
    ·exact hbad
   ·split
    ·split
     ·rename_i h; exact hbig _ _ (by omega) (by unfold sizeF; rw [if_neg (by omega), if_neg (by omega), if_neg (by omega)]; rfl)
     ·exact hbad
    ·exact hbad
theorem sz_ch (s : ByteArray) (h : 0 < s.size) : (sz s : Int) = if 0 ≤ ch s then sizeF (ch s) else 1 := by
 have e := dec4_size (bt s 0) (bt s 1) (bt s 2) (bt s 3) (by have := bt_lt s h; have e0 : ((0 : Nat) : Int) = 0 := rfl; rw [e0] at this; omega)
 have hc : chOf (dec4 (bt s 0) (bt s 1) (bt s 2) (bt s 3)) = ch s := begF_ch s h
 rw [hc] at e
 rw [← e]
 have hf : from_ s 0 = s := by unfold from_; exact extract_all s
 have := szD s (j := 0) h
 rw [hf] at this
 rw [this]
 rfl
def cellsU (s : ByteArray) (l : List Nat) : List Value := l.flatMap fun x => [.int .i32 (ch (from_ s x)), .int .i64 (sz (from_ s x))]
theorem infoUnit : (Tryz.prog.info? 137).map (fun i => (i.zero, i.size, i.bytes)) = some (some (.agg #[.int .i32 0, .int .i64 0]), 2, 16) := by kernel_rfl
theorem cellsU_app (s : ByteArray) (l : List Nat) (x : Nat) : cellsU s (l ++ [x]) = cellsU s l ++ [.int .i32 (ch (from_ s x)), .int .i64 (sz (from_ s x))] := by unfold cellsU; rw [List.flatMap_append]; rfl

/-- A block that the round laid, behind an append to a row that lay before. -/
theorem kept_after {wr W3 w3 : World} {base e size n g : Nat} {u : Value} {xs vs : List Value} {o : Obj} (hO : wr.ownsRow base e size u n xs) (hS : Lies W3 g vs) (hg : wr.heap.size ≤ g) (hgr : (W3.alloc o).grownBy w3 u.ownBlock) : ∀ j v, vs[j]? = some v → w3.cell? ⟨g, j, none⟩ = some v := by
 intro j v hj
 have b : Below W3.heap.size W3 (W3.alloc o) := (Below.refl _ _).alloc (Nat.le_refl _) _
 have hgl := hS.1
 rw [grown_cella hgr (p := ⟨g, j, none⟩) (Nat.lt_of_lt_of_le hgl b.size) (fun h => by have := (hO.lt g h).2; omega)]
 exact (b.cell (p := ⟨g, j, none⟩) hgl).trans (hS.2 j v hj).1
set_option maxRecDepth 100000 in
set_option maxHeartbeats 2000000 in
theorem RefUnits_any (s : ByteArray) (w : World) (hs : s.size ≤ 1073741824) :
  Calls Tryz.prog 146 #[.string s] w fun e w' => ∃ v, e = .returned v ∧ w'.ownsRow w.heap.size 137 2 v (unAts s 0).length (cellsU s (unAts s 0)) ∧ Below w.heap.size w w' := by
 go_enter Tryz.func146, Tryz.ntmps146
 go_wp2
 go_loopw [3, 4] (fun u y wr => ∃ (pre : List Nat) (i : Nat), i ≤ s.size ∧ pre.length ≤ i ∧ pre ++ unAts s i = unAts s 0 ∧ y = .int .i64 i ∧ wr.ownsRow w.heap.size 137 2 u pre.length (cellsU s pre) ∧ Below w.heap.size w wr) (fun _ y _ => s.size - (intOf y).toNat)
 case atStart => exact ⟨[], 0, Nat.zero_le _, Nat.le_refl _, rfl, rfl, World.ownsRow_nil _ _ _ _, Below.refl _ _⟩
 case round =>
  obtain ⟨pre, i, hi, hpl, hpre, rfl, hown, hb⟩ := hrel
  have HO := Lib.hid hown
  have HB := Lib.hid hb
  clear hown hb
  by_cases hlt : i < s.size
  ·have hst := unAts_step hlt
   rw [hst] at hpre
   have HP := Lib.hid hpre
   have hup : up s i = i + sz (from_ s i) := rfl
   have hgt := up_gt hlt
   have hle := up_le (s := s) (j := i) (by omega)
   have hz := from_size s i
   have hbe := begF_ch (from_ s i) (by omega)
   have hsc := sz_ch (from_ s i) (by omega)
   have HBg := Lib.hid (fun w => RefBegins_any (from_ s i) w (by omega) (by omega))
   have happ := cellsU_app s pre i
   rw [hbe] at HBg
   have hfe : s.extract i s.size = from_ s i := rfl
   have HF : Hid (∀ (u : Value) (w3 : World), w3.ownsRow w.heap.size 137 2 u (pre.length + 1) (cellsU s pre ++ [.int .i32 (ch (from_ s i)), .int .i64 (sz (from_ s i))]) → Below w.heap.size w w3 →
     ∃ (pre' : List Nat) (i' : Nat), i' ≤ s.size ∧ pre'.length ≤ i' ∧ pre' ++ unAts s i' = unAts s 0 ∧ Value.int .i64 ((i : Int) + sz (from_ s i)) = .int .i64 i' ∧ w3.ownsRow w.heap.size 137 2 u pre'.length (cellsU s pre') ∧ Below w.heap.size w w3) :=
    fun u w3 h1 h2 => ⟨pre ++ [i], up s i, hle, by rw [List.length_append]; simp; omega, by rw [List.append_assoc]; exact HP.out, by rw [hup]; go_num, by rw [happ, List.length_append]; exact h1, h2⟩
   have hz1 : 1 ≤ sz (from_ s i) := by omega
   have hz4 := sz_le4 (from_ s i)
   have hi0 : (0 : Int) ≤ (i : Int) := by omega
   have hiI : (i : Int) ≤ (s.size : Int) := by omega
   clear hst hpre hbe happ hup hgt hz
   generalize ch (from_ s i) = C at *
   generalize sz (from_ s i) = Z at *
   generalize from_ s i = FS at *
   go_wp2_with fail
   refine (HBg.out wr).mono ?_
   rintro e w1 ⟨rfl, rfl⟩
   have hpl2 : pre.length ≤ 4294967296 := by omega
   have hwz : IntKind.i64.wrap ((i : Int) + (Z : Int)) = (i : Int) + (Z : Int) := IntWalk.i64_in _ (by omega)
   obtain ⟨w2, hw2, S2, b2, hs2⟩ := boxL1 w1 [.int .i32 C, .int .i64 1] 137
   have HE2 := Lib.hid hw2
   have hbb := HB.out
   by_cases hC : 0 ≤ C
   ·rw [if_pos hC] at hsc
    have HSz := Lib.hid (RefSize_any C w2)
    rw [← hsc] at HSz
    have S3 := Lib.hid (S2.set 1 (.int .i64 Z))
    have B3 : Below w1.heap.size w1 (w2.setCell ⟨w1.heap.size, 1, none⟩ (.int .i64 Z)) := chg_mine b2 (Chg.set w2 ⟨w1.heap.size, 1, none⟩ _) (Nat.le_refl _)
    have HOW := Lib.hid (own_belowC HO.out B3)
    have hBW := Lib.hid (hbb.trans (B3.mono hbb.size))
    obtain ⟨c0, f0⟩ := S2.2 0 _ rfl
    obtain ⟨c1, f1⟩ := S2.2 1 _ rfl
    have d0 := (S3.out.2 0 _ rfl).1
    have d1 := (S3.out.2 1 _ rfl).1
    clear hw2 S2 b2 hs2 hsc B3 hbb
    go_wp2_with fail
    rw [HE2.out]
    refine HSz.out.mono ?_
    rintro e w4 ⟨rfl, rfl⟩
    go_wp2_with (at_builtin; refine wpList_app_gen rfl _ _ 175 137 rfl (.agg #[.int .i32 0, .int .i64 0]) 2 16 infoUnit Tryz.underlying175 rfl (by decide) (by decide) w.heap.size _ pre.length _ [.int .i32 C, .int .i64 Z] _ HOW.out rfl _ (by simp) rfl rfl (by intro u hu; simp at hu; rcases hu with rfl | rfl <;> rfl) hpl2 hBW.out.size ?_; intro v2 w3 hown3 hg3; have cz := kept_after HO.out S3.out (Nat.le_refl _) hg3 1 _ rfl; have HO3 := Lib.hid hown3; have HB3 := Lib.hid ((hBW.out.alloc hBW.out.size _).grown hg3 (Nat.le_trans hBW.out.size (by simp)) (fun j hj => (HOW.out.lt j hj).1)); clear hown3 hg3)
    go_roundw
    case rel => exact HF.out _ _ HO3.out HB3.out
    case measure => simp [intOf]; omega
   ·rw [if_neg hC] at hsc
    obtain rfl : Z = 1 := by omega
    subst hw2
    have S3 := Lib.hid S2
    have HOW := Lib.hid (own_belowC HO.out b2)
    have hBW := Lib.hid (hbb.trans (b2.mono hbb.size))
    obtain ⟨c0, f0⟩ := S2.2 0 _ rfl
    obtain ⟨c1, f1⟩ := S2.2 1 _ rfl
    clear S2 b2 hs2 hbb hsc
    rw [show (((1 : Nat) : Int)) = 1 from rfl] at hwz
    go_wp2_with (at_builtin; refine wpList_app_gen rfl _ _ 175 137 rfl (.agg #[.int .i32 0, .int .i64 0]) 2 16 infoUnit Tryz.underlying175 rfl (by decide) (by decide) w.heap.size _ pre.length _ [.int .i32 C, .int .i64 1] _ HOW.out rfl _ (by simp) rfl rfl (by intro u hu; simp at hu; rcases hu with rfl | rfl <;> rfl) hpl2 hBW.out.size ?_; intro v2 w3 hown3 hg3; have cz := kept_after HO.out S3.out (Nat.le_refl _) hg3 1 _ rfl; have HO3 := Lib.hid hown3; have HB3 := Lib.hid ((hBW.out.alloc hBW.out.size _).grown hg3 (Nat.le_trans hBW.out.size (by simp)) (fun j hj => (HOW.out.lt j hj).1)); clear hown3 hg3)
    go_roundw
    case rel => exact HF.out _ _ HO3.out HB3.out
    case measure => simp [intOf]; omega
  ·obtain rfl : i = s.size := by omega
   rw [unAts_end (Nat.le_refl _), List.append_nil] at hpre
   have hP := Lib.hid hpre
   clear hpre hlt
   go_wp2
   go_ret
   exact ⟨_, rfl, by rw [← hP.out]; exact HO.out, HB.out⟩
end Go.Proofs.YtfchglcclgcgfaaGreatDoor.Ut
