/-
  What the proof of the laws S rests on: the texts PlU PlS. Conditions: each theorem names its own.
-/
import Derived.Test.YtfchglcclgcgfaaGreatDoorMgSd
import Derived.Shelf.Strings.MapAny
/-
 Units and clusters told by the bytes around a place (plain): windows of eight bytes. No condition.
-/
namespace Go.Proofs.YtfchglcclgcgfaaGreatDoor.Ut
open Go.RowKit Go.Proofs.YtfchglcclgcgfaaGreatDoor.Reg
set_option linter.unusedVariables false
set_option linter.unusedSimpArgs false

/-- A byte of a text, 256 outside. -/
def bt (s : ByteArray) (k : Int) : Nat := if 0 ≤ k then (match s.data.toList[k.toNat]? with | some b => b.toNat | none => 256) else 256
theorem bt_neg (s : ByteArray) {k : Int} (h : k < 0) : bt s k = 256 := by unfold bt; rw [if_neg (by omega)]
theorem bt_big (s : ByteArray) {k : Int} (h : (s.size : Int) ≤ k) : bt s k = 256 := by
 unfold bt; rw [if_pos (by omega), List.getElem?_eq_none (by rw [← Lib.size_eq]; omega)]
theorem bt_in (s : ByteArray) {k : Nat} (h : k < s.size) : bt s k = (s[k]'h).toNat := by
 unfold bt
 rw [if_pos (by omega), Int.toNat_natCast, List.getElem?_eq_getElem (by rw [← Lib.size_eq]; exact h)]
 rfl
theorem bt_lt (s : ByteArray) {k : Nat} (h : k < s.size) : bt s k < 256 := by rw [bt_in s h]; exact UInt8.toNat_lt _

def dec4 (a b c d : Nat) : Nat × Nat :=
 if a < 0x80 then (a, 1)
 else if a / 32 = 6 ∧ b / 64 = 2 then (if (a % 32) * 64 + b % 64 ≥ 0x80 then ((a % 32) * 64 + b % 64, 2) else (65533, 1))
 else if a / 16 = 14 ∧ b / 64 = 2 ∧ c / 64 = 2 then (if (a % 16) * 4096 + (b % 64) * 64 + c % 64 ≥ 0x800 ∧ Utf8.valid ((a % 16) * 4096 + (b % 64) * 64 + c % 64 : Nat) = true then ((a % 16) * 4096 + (b % 64) * 64 + c % 64, 3) else (65533, 1))
 else if a / 8 = 30 ∧ b / 64 = 2 ∧ c / 64 = 2 ∧ d / 64 = 2 then (if (a % 8) * 262144 + (b % 64) * 4096 + (c % 64) * 64 + d % 64 ≥ 0x10000 ∧ Utf8.valid ((a % 8) * 262144 + (b % 64) * 4096 + (c % 64) * 64 + d % 64 : Nat) = true then ((a % 8) * 262144 + (b % 64) * 4096 + (c % 64) * 64 + d % 64, 4) else (65533, 1))
 else (65533, 1)
theorem dec4_pos (a b c d : Nat) : 1 ≤ (dec4 a b c d).2 ∧ (dec4 a b c d).2 ≤ 4 := by
 unfold dec4; (repeat' split) <;> simp
theorem dec4_two (a b c d : Nat) (h : 1 < (dec4 a b c d).2) : 192 ≤ a ∧ a < 256 ∧ b / 64 = 2 := by
 unfold dec4 at h; (repeat' split at h) <;> simp at h <;> omega
theorem dec4_three (a b c d : Nat) (h : 2 < (dec4 a b c d).2) : c / 64 = 2 := by
 unfold dec4 at h; (repeat' split at h) <;> simp at h <;> omega
theorem dec4_four (a b c d : Nat) (h : 3 < (dec4 a b c d).2) : d / 64 = 2 := by
 unfold dec4 at h; (repeat' split at h) <;> simp at h <;> omega

theorem get_bt (s : ByteArray) {k : Nat} (h : k < s.size) : (s.get! k).toNat = bt s k := by
 rw [bt_in s h]
 congr 1
 cases s with
 | mk bs => exact getElem!_pos bs k h
theorem cont_bt (s : ByteArray) (k : Nat) : (decide (k < s.size) && (s.get! k).toNat / 64 == 2) = decide (bt s k / 64 = 2) := by
 by_cases h : k < s.size
 ·rw [get_bt s h]; simp [h]
  rw [Bool.eq_iff_iff]; simp
 ·rw [bt_big s (k := (k : Int)) (by omega)]; simp [h]
theorem decode_bt (s : ByteArray) (i : Nat) (h : i < s.size) : Utf8.decode s i = dec4 (bt s i) (bt s ((i : Int) + 1)) (bt s ((i : Int) + 2)) (bt s ((i : Int) + 3)) := by
 have e1 : (i : Int) + 1 = ((i + 1 : Nat) : Int) := by omega
 have e2 : (i : Int) + 2 = ((i + 2 : Nat) : Int) := by omega
 have e3 : (i : Int) + 3 = ((i + 3 : Nat) : Int) := by omega
 rw [e1, e2, e3]
 unfold Utf8.decode dec4
 simp only [Nat.add_zero, cont_bt, get_bt s h, Utf8.runeError]
 by_cases h1 : i + 1 < s.size
 ·rw [get_bt s h1]
  by_cases h2 : i + 2 < s.size
  ·rw [get_bt s h2]
   by_cases h3 : i + 3 < s.size
   ·rw [get_bt s h3]
    simp only [Bool.and_eq_true, beq_iff_eq, decide_eq_true_eq, and_assoc]
   ·have b3 : bt s ((i + 3 : Nat) : Int) = 256 := bt_big s (by omega)
    rw [b3]
    simp only [Bool.and_eq_true, beq_iff_eq, decide_eq_true_eq, and_assoc]
    simp
  ·have b2 : bt s ((i + 2 : Nat) : Int) = 256 := bt_big s (by omega)
   have b3 : bt s ((i + 3 : Nat) : Int) = 256 := bt_big s (by omega)
   rw [b2, b3]
   simp only [Bool.and_eq_true, beq_iff_eq, decide_eq_true_eq, and_assoc]
   simp
 ·have b1 : bt s ((i + 1 : Nat) : Int) = 256 := bt_big s (by omega)
  have b2 : bt s ((i + 2 : Nat) : Int) = 256 := bt_big s (by omega)
  have b3 : bt s ((i + 3 : Nat) : Int) = 256 := bt_big s (by omega)
  rw [b1, b2, b3]
  simp only [Bool.and_eq_true, beq_iff_eq, decide_eq_true_eq, and_assoc]
  simp

/-- Eight bytes around a place: win s i 4 is the byte at i. -/
def win (s : ByteArray) (i : Nat) : Nat → Nat := fun d => if d < 8 then bt s ((i : Int) + d - 4) else 0
def chOf (p : Nat × Nat) : Int := if p.1 = 65533 ∧ p.2 = 1 then -1 else p.1
def wD (w : Nat → Nat) (k : Nat) : Nat × Nat := dec4 (w k) (w (k + 1)) (w (k + 2)) (w (k + 3))
def wSz (w : Nat → Nat) (k : Nat) : Nat := (wD w k).2
def wCh (w : Nat → Nat) (k : Nat) : Int := chOf (wD w k)
theorem from_dec (s : ByteArray) {j : Nat} (h : j < s.size) : Lib.decodeGo (from_ s j) = Utf8.decode s j := Lib.decodeGo_extract s j h
theorem szD (s : ByteArray) {j : Nat} (h : j < s.size) : sz (from_ s j) = (dec4 (bt s j) (bt s ((j : Int) + 1)) (bt s ((j : Int) + 2)) (bt s ((j : Int) + 3))).2 := by
 unfold sz; rw [from_dec s h, decode_bt s j h]
theorem win_wD (s : ByteArray) (i : Nat) {k j : Nat} (hk : k ≤ 4) (hj : j + 4 = i + k) : wD (win s i) k = dec4 (bt s j) (bt s ((j : Int) + 1)) (bt s ((j : Int) + 2)) (bt s ((j : Int) + 3)) := by
 unfold wD win
 rw [if_pos (by omega), if_pos (by omega), if_pos (by omega), if_pos (by omega)]
 congr 2 <;> omega
theorem win_sz (s : ByteArray) {i k j : Nat} (hk : k ≤ 4) (hj : j + 4 = i + k) (hs : j < s.size) : sz (from_ s j) = wSz (win s i) k := by
 unfold wSz; rw [szD s hs, win_wD s i hk hj]
theorem win_ch (s : ByteArray) {i k j : Nat} (hk : k ≤ 4) (hj : j + 4 = i + k) (hs : j < s.size) : ch (from_ s j) = wCh (win s i) k := by
 unfold wCh; rw [win_wD s i hk hj, ← decode_bt s j hs, ← from_dec s hs]; rfl
theorem win_neg (s : ByteArray) {i k : Nat} (h : i + k < 4) : wD (win s i) k = (65533, 1) := by
 have e : win s i k = 256 := by unfold win; rw [if_pos (by omega)]; exact bt_neg s (by omega)
 unfold wD dec4
 rw [e]
 simp

/-- Does a unit begin at the window's place? -/
def cU (w : Nat → Nat) : Bool := decide (wSz w 1 ≤ 3 ∧ wSz w 2 ≤ 2 ∧ wSz w 3 ≤ 1)
theorem ar_fst {s : ByteArray} {i : Nat} : ∀ f j, j + f = i → ((arFrom s i f j).1 = i ↔ ∀ k, j ≤ k → k < i → up s k ≤ i)
 | 0, j, h => by
  unfold arFrom
  have : (if i = s.size then (i, i) else (i, up s i)).1 = i := by split <;> rfl
  simp only [this, true_iff]
  intro k h1 h2; omega
 | f + 1, j, h => by
  unfold arFrom
  split
  ·rename_i hlt
   simp only
   constructor
   ·intro e; omega
   ·intro hk; have := hk j (Nat.le_refl _) (by omega); omega
  ·rename_i hlt
   rw [ar_fst f (j + 1) (by omega)]
   constructor
   ·intro hk k h1 h2
    by_cases e : k = j
    ·subst e; omega
    ·exact hk k (by omega) h2
   ·intro hk k h1 h2; exact hk k (by omega) h2
theorem bound_iff (s : ByteArray) (i : Nat) : boundF s i = true ↔ ∀ k, i ≤ k + 3 → k < i → up s k ≤ i := by
 unfold boundF aroundF
 rw [decide_eq_true_eq, ar_fst _ _ (by omega)]
 constructor
 ·intro h k h1 h2; exact h k (by omega) h2
 ·intro h k h1 h2; exact h k (by omega) h2
theorem bound_win (s : ByteArray) {i : Nat} (hi : i ≤ s.size) : boundF s i = cU (win s i) := by
 rw [Bool.eq_iff_iff, bound_iff]
 unfold cU
 rw [decide_eq_true_eq]
 have one : ∀ k, 1 ≤ k → k ≤ 3 → (wSz (win s i) k + k ≤ 4 ↔ ∀ j, j + 4 = i + k → up s j ≤ i) := by
  intro k h1 h2
  by_cases hn : i + k < 4
  ·have e : wSz (win s i) k = 1 := by unfold wSz; rw [win_neg s hn]
   rw [e]
   constructor
   ·intro _ j hj; omega
   ·intro _; omega
  ·obtain ⟨j, hj⟩ : ∃ j, j + 4 = i + k := ⟨i + k - 4, by omega⟩
   have e := win_sz s (i := i) (k := k) (j := j) (by omega) hj (by omega)
   constructor
   ·intro h j' hj'
    obtain rfl : j' = j := by omega
    unfold up; omega
   ·intro h
    have := h j hj
    unfold up at this; omega
 constructor
 ·intro h
  have a1 := (one 1 (by omega) (by omega)).2 (fun j hj => h j (by omega) (by omega))
  have a2 := (one 2 (by omega) (by omega)).2 (fun j hj => h j (by omega) (by omega))
  have a3 := (one 3 (by omega) (by omega)).2 (fun j hj => h j (by omega) (by omega))
  omega
 ·intro h k h1 h2
  have : k + 4 = i + 1 ∨ k + 4 = i + 2 ∨ k + 4 = i + 3 := by omega
  rcases this with e | e | e
  ·exact (one 1 (by omega) (by omega)).1 (by omega) k e
  ·exact (one 2 (by omega) (by omega)).1 (by omega) k e
  ·exact (one 3 (by omega) (by omega)).1 (by omega) k e

/-- Within a unit each byte is a continuation, and of size one by itself. -/
theorem mid_one (s : ByteArray) {j k : Nat} (hj : j < s.size) (h1 : j < k) (h2 : k < up s j) : bt s k / 64 = 2 ∧ up s k = k + 1 := by
 have hu : up s j ≤ s.size := up_le (by omega)
 have hd := szD s hj
 have hp := dec4_pos (bt s j) (bt s ((j : Int) + 1)) (bt s ((j : Int) + 2)) (bt s ((j : Int) + 3))
 have hup : up s j = j + sz (from_ s j) := rfl
 have hc : bt s k / 64 = 2 := by
  rcases (by omega : k = j + 1 ∨ k = j + 2 ∨ k = j + 3) with e | e | e
  ·have := (dec4_two (bt s j) (bt s ((j : Int) + 1)) (bt s ((j : Int) + 2)) (bt s ((j : Int) + 3)) (by omega)).2.2
   rw [show ((k : Nat) : Int) = (j : Int) + 1 by omega]; exact this
  ·have := dec4_three (bt s j) (bt s ((j : Int) + 1)) (bt s ((j : Int) + 2)) (bt s ((j : Int) + 3)) (by omega)
   rw [show ((k : Nat) : Int) = (j : Int) + 2 by omega]; exact this
  ·have := dec4_four (bt s j) (bt s ((j : Int) + 1)) (bt s ((j : Int) + 2)) (bt s ((j : Int) + 3)) (by omega)
   rw [show ((k : Nat) : Int) = (j : Int) + 3 by omega]; exact this
 refine ⟨hc, ?_⟩
 have hk := szD s (j := k) (by omega)
 have hp2 := dec4_pos (bt s k) (bt s ((k : Int) + 1)) (bt s ((k : Int) + 2)) (bt s ((k : Int) + 3))
 unfold up
 by_cases e : sz (from_ s k) = 1
 ·omega
 ·have := (dec4_two (bt s k) (bt s ((k : Int) + 1)) (bt s ((k : Int) + 2)) (bt s ((k : Int) + 3)) (by omega)).1
  omega
/-- A unit of more bytes begins at a boundary. -/
theorem wide_bound (s : ByteArray) {j : Nat} (hj : j < s.size) (h : j + 1 < up s j) : boundF s j = true := by
 rw [bound_iff]
 intro k h1 h2
 by_cases e : up s k ≤ j
 ·exact e
 ·exfalso
  obtain ⟨hc, -⟩ := mid_one s (j := k) (k := j) (by omega) h2 (by omega)
  have hd := szD s hj
  have hup : up s j = j + sz (from_ s j) := rfl
  have := (dec4_two (bt s j) (bt s ((j : Int) + 1)) (bt s ((j : Int) + 2)) (bt s ((j : Int) + 3)) (by omega)).1
  omega
theorem ar_found {s : ByteArray} {i : Nat} (hi : i ≤ s.size) : ∀ f j, j + f = i → (∀ k, i ≤ k + 3 → k < j → up s k ≤ i) → boundF s (arFrom s i f j).1 = true
 | 0, j, h, hp => by
  have e : (arFrom s i 0 j).1 = i := by unfold arFrom; split <;> rfl
  rw [e, bound_iff]
  intro k h1 h2; exact hp k h1 (by omega)
 | f + 1, j, h, hp => by
  unfold arFrom
  split
  ·rename_i hlt
   exact wide_bound s (j := j) (by omega) (by omega)
  ·rename_i hlt
   exact ar_found hi f (j + 1) (by omega) (fun k h1 h2 => by
    by_cases e : k = j
    ·subst e; omega
    ·exact hp k h1 (by omega))
theorem down_bound (s : ByteArray) {i : Nat} (hi : i ≤ s.size) : boundF s (downF s i) = true := ar_found hi _ _ (by omega) (fun k h1 h2 => by omega)
theorem ar_prev {s : ByteArray} {i : Nat} : ∀ f j, j + f = i → ∀ r, (arFrom s i f j).1 = r → (∀ k, j ≤ k → k < r → up s k ≤ i) ∧ (r < i → i < up s r) ∧ j ≤ r ∧ r ≤ i
 | 0, j, h, r, hr => by
  have e : (arFrom s i 0 j).1 = i := by unfold arFrom; split <;> rfl
  rw [e] at hr
  exact ⟨fun k h1 h2 => by omega, fun h => by omega, by omega, by omega⟩
 | f + 1, j, h, r, hr => by
  unfold arFrom at hr
  split at hr
  ·rename_i hlt
   simp only at hr
   subst hr
   exact ⟨fun k h1 h2 => by omega, fun _ => hlt, Nat.le_refl _, by omega⟩
  ·rename_i hlt
   obtain ⟨a, b, c, d⟩ := ar_prev f (j + 1) (by omega) r hr
   refine ⟨fun k h1 h2 => ?_, b, by omega, d⟩
   by_cases e : k = j
   ·subst e; omega
   ·exact a k (by omega) h2
/-- The character ahead of the window's place. -/
def cPrev (w : Nat → Nat) : Int := if 3 < wSz w 0 then wCh w 0 else if 2 < wSz w 1 then wCh w 1 else if 1 < wSz w 2 then wCh w 2 else wCh w 3
theorem prev_win (s : ByteArray) {i : Nat} (h0 : 0 < i) (hi : i ≤ s.size) : atC s (prevU s i) = cPrev (win s i) := by
 have hb : boundF s (prevU s i) = true := down_bound s (by omega)
 unfold atC
 rw [if_pos hb]
 obtain ⟨a, b, c, d⟩ := ar_prev (s := s) (i := i - 1) (i - 1 - (i - 1 - 3)) (i - 1 - 3) (by omega) (prevU s i) rfl
 generalize prevU s i = r at *
 have key : ∀ k, k ≤ 2 → (3 < wSz (win s i) k + k ↔ ∃ j, j + 4 = i + k ∧ i - 1 < up s j) := by
  intro k hk
  by_cases hn : i + k < 4
  ·have e : wSz (win s i) k = 1 := by unfold wSz; rw [win_neg s hn]
   rw [e]
   constructor
   ·intro h; omega
   ·rintro ⟨j, hj, _⟩; omega
  ·obtain ⟨j, hj⟩ : ∃ j, j + 4 = i + k := ⟨i + k - 4, by omega⟩
   have e := win_sz s (i := i) (k := k) (j := j) (by omega) hj (by omega)
   constructor
   ·intro h; exact ⟨j, hj, by unfold up; omega⟩
   ·rintro ⟨j', hj', h⟩
    obtain rfl : j' = j := by omega
    unfold up at h; omega
 have no : ∀ k, k ≤ 2 → k + i < r + 4 → ¬ 3 < wSz (win s i) k + k := by
  intro k hk hlt h
  obtain ⟨j, hj, hu⟩ := (key k hk).1 h
  have := a j (by omega) (by omega)
  omega
 have yes : ∀ k, k ≤ 2 → k + i = r + 4 → 3 < wSz (win s i) k + k := by
  intro k hk he
  exact (key k hk).2 ⟨r, by omega, b (by omega)⟩
 unfold cPrev
 rcases (by omega : r + 4 = i + 0 ∨ r + 4 = i + 1 ∨ r + 4 = i + 2 ∨ r + 4 = i + 3) with e | e | e | e
 ·rw [if_pos (by have := yes 0 (by omega) (by omega); omega)]; exact win_ch s (by omega) e (by omega)
 ·rw [if_neg (by have := no 0 (by omega) (by omega); omega), if_pos (by have := yes 1 (by omega) (by omega); omega)]; exact win_ch s (by omega) e (by omega)
 ·rw [if_neg (by have := no 0 (by omega) (by omega); omega), if_neg (by have := no 1 (by omega) (by omega); omega), if_pos (by have := yes 2 (by omega) (by omega); omega)]; exact win_ch s (by omega) e (by omega)
 ·rw [if_neg (by have := no 0 (by omega) (by omega); omega), if_neg (by have := no 1 (by omega) (by omega); omega), if_neg (by have := no 2 (by omega) (by omega); omega)]; exact win_ch s (by omega) e (by omega)

/-- Does a cluster begin at the window's place (which lies in the text)? -/
def cB (w : Nat → Nat) : Bool := decide (w 3 = 256) || (cU w && !gluedF (cPrev w) (wCh w 4))
theorem clB_win (s : ByteArray) {i : Nat} (hi : i < s.size) : clB s i = cB (win s i) := by
 unfold clB cB
 have e3 : win s i 3 = bt s ((i : Int) - 1) := by unfold win; rw [if_pos (by omega)]; congr 1; omega
 rw [e3, ← bound_win s (by omega)]
 by_cases h0 : i = 0
 ·subst h0
  rw [bt_neg s (by omega)]; simp
 ·have : bt s ((i : Int) - 1) < 256 := by
   rw [show ((i : Int) - 1) = ((i - 1 : Nat) : Int) by omega]; exact bt_lt s (by omega)
  have n1 : decide (bt s ((i : Int) - 1) = 256) = false := by simp; omega
  have n2 : decide (i = 0) = false := by simpa using h0
  have n3 : decide (i = s.size) = false := by simp; omega
  rw [n1, n2, n3, prev_win s (by omega) (by omega)]
  cases hb : boundF s i with
  | false => simp
  | true =>
   have e : atC s i = wCh (win s i) 4 := by unfold atC; rw [if_pos hb]; exact win_ch s (Nat.le_refl _) rfl hi
   rw [e]; simp
def cW (w : Nat → Nat) : Int := if wCh w 4 = 13 ∧ w 5 = 10 then 0 else cellsF (wCh w 4)
theorem hasPrefix_lf (s : ByteArray) (k : Nat) : Lib.hasPrefix (from_ s k).data.toList [10] = decide (bt s k = 10) := by
 have e : (from_ s k).data.toList = s.data.toList.drop k := by
  unfold from_; rw [Lib.extract_data]; rw [List.take_of_length_le]; rw [List.length_drop, ← Lib.size_eq]; exact Nat.le_refl _
 rw [e]
 by_cases h : k < s.size
 ·have hl : k < s.data.toList.length := by rw [← Lib.size_eq]; exact h
  rw [List.drop_eq_getElem_cons hl]
  unfold bt
  rw [if_pos (by omega), Int.toNat_natCast, List.getElem?_eq_getElem hl]
  rw [Bool.eq_iff_iff]
  simp [Lib.hasPrefix, ← UInt8.toNat_inj]
  exact eq_comm
 ·rw [List.drop_eq_nil_of_le (by rw [← Lib.size_eq]; omega), bt_big s (by omega)]
  simp [Lib.hasPrefix]
theorem clW_win (s : ByteArray) {i : Nat} (hi : i < s.size) (hb : boundF s i = true) : clW s i = cW (win s i) := by
 have e : atC s i = wCh (win s i) 4 := by unfold atC; rw [if_pos hb]; exact win_ch s (Nat.le_refl _) rfl hi
 have e5 : win s i 5 = bt s ((i + 1 : Nat) : Int) := by unfold win; rw [if_pos (by omega)]; congr 1; omega
 unfold clW crlf cW
 rw [hasPrefix_lf, e, e5]
 by_cases h : wCh (win s i) 4 = 13 ∧ bt s ((i + 1 : Nat) : Int) = 10
 ·rw [if_pos (by simpa using h), if_pos h]
 ·rw [if_neg (by simpa using h), if_neg h]
end Go.Proofs.YtfchglcclgcgfaaGreatDoor.Ut
/-
 The counts of a text as sums over its places; the seam of two texts (plain). No condition.
-/
namespace Go.Proofs.YtfchglcclgcgfaaGreatDoor.Ut
open Go.RowKit Go.Proofs.YtfchglcclgcgfaaGreatDoor.Reg
set_option linter.unusedVariables false
set_option linter.unusedSimpArgs false

theorem filter_step (p : Nat → Bool) {i m n : Nat} (hi : i < m) (hm : m ≤ n) (hp : p i = true) (hno : ∀ k, i < k → k < m → p k = false) :
  (List.range' i (n - i)).filter p = i :: (List.range' m (n - m)).filter p := by
 rw [show n - i = (m - i) + (n - m) by omega, ← List.range'_append_1]
 rw [show i + (m - i) = m by omega, List.filter_append]
 rw [show m - i = (m - i - 1) + 1 by omega, List.range'_succ, List.filter_cons, if_pos hp]
 have : (List.range' (i + 1) (m - i - 1)).filter p = [] := by
  rw [List.filter_eq_nil_iff]
  intro k hk
  rw [List.mem_range'_1] at hk
  rw [hno k (by omega) (by omega)]
  simp
 rw [this]; rfl

def sumTo (f : Nat → Int) : Nat → Int
 | 0 => 0
 | n + 1 => sumTo f n + f n
theorem sumTo_add (f : Nat → Int) (m : Nat) : ∀ n, sumTo f (m + n) = sumTo f m + sumTo (fun i => f (m + i)) n
 | 0 => by simp [sumTo]
 | n + 1 => by rw [← Nat.add_assoc]; simp only [sumTo]; rw [sumTo_add f m n]; omega
theorem sumTo_congr {f g : Nat → Int} : ∀ n, (∀ i, i < n → f i = g i) → sumTo f n = sumTo g n
 | 0, _ => rfl
 | n + 1, h => by simp only [sumTo]; rw [sumTo_congr n (fun i hi => h i (by omega)), h n (by omega)]
theorem sumTo_sub {f g F G : Nat → Int} : ∀ n, (∀ i, i < n → f i - g i = F i - G i) → sumTo f n - sumTo g n = sumTo F n - sumTo G n
 | 0, _ => rfl
 | n + 1, h => by
  have a := sumTo_sub n (fun i hi => h i (by omega))
  have b := h n (by omega)
  simp only [sumTo]; omega
theorem sum_filter (p : Nat → Bool) (f : Nat → Int) (i : Nat) : ∀ n, (((List.range' i n).filter p).map f).sum = sumTo (fun k => if p (i + k) = true then f (i + k) else 0) n
 | 0 => rfl
 | n + 1 => by
  rw [show List.range' i (n + 1) = List.range' i n ++ [i + n] by rw [List.range'_1_concat]]
  rw [List.filter_append, List.map_append, List.sum_append, sum_filter p f i n]
  simp only [sumTo]
  congr 1
  by_cases h : p (i + n) = true
  ·simp [List.filter_cons, h]
  ·simp [List.filter_cons, h]
theorem length_sum {α : Type} : ∀ l : List α, ((l.map fun _ => (1 : Int)).sum) = l.length
 | [] => rfl
 | _ :: r => by simp [length_sum r]; omega

/-- The sum of Φ over all places of a text. -/
def Tot (Φ : (Nat → Nat) → Int) (s : ByteArray) : Int := sumTo (fun i => Φ (win s i)) s.size

theorem list_bt (s : ByteArray) (k : Int) : bt s k = if 0 ≤ k then (s.data.toList.map UInt8.toNat)[k.toNat]?.getD 256 else 256 := by
 unfold bt
 split
 ·rw [List.getElem?_map]
  cases s.data.toList[k.toNat]? <;> rfl
 ·rfl
theorem app_list (a b : ByteArray) : (a ++ b).data.toList = a.data.toList ++ b.data.toList := by rw [ByteArray.data_append, Array.toList_append]
theorem bt_left (x u : ByteArray) (k : Int) (h : 0 ≤ k ∨ x.size = 0) : bt (x ++ u) ((x.size : Int) + k) = bt u k := by
 by_cases h0 : 0 ≤ k
 ·rw [list_bt, list_bt, if_pos (by omega), if_pos h0, app_list, List.map_append, List.getElem?_append_right (by simp; omega)]
  congr 2
  simp
  omega
 ·rw [bt_neg _ (by omega), bt_neg _ (by omega)]
theorem bt_right (u y : ByteArray) (k : Int) (h : k < u.size ∨ y.size = 0) : bt (u ++ y) k = bt u k := by
 by_cases h0 : 0 ≤ k
 ·by_cases h1 : k < u.size
  ·rw [list_bt, list_bt, if_pos h0, if_pos h0, app_list, List.map_append, List.getElem?_append_left (by simp; omega)]
  ·rw [bt_big _ (by rw [ByteArray.size_append]; omega), bt_big _ (by omega)]
 ·rw [bt_neg _ (by omega), bt_neg _ (by omega)]
theorem win_left (x u : ByteArray) (i : Nat) (h : 4 ≤ i ∨ x.size = 0) : win (x ++ u) (x.size + i) = win u i := by
 funext d
 unfold win
 split
 ·rw [show (((x.size + i : Nat) : Int) + d - 4) = (x.size : Int) + ((i : Int) + d - 4) by omega]
  exact bt_left x u _ (by omega)
 ·rfl
theorem win_right (u y : ByteArray) (i : Nat) (h : i + 4 ≤ u.size ∨ y.size = 0) : win (u ++ y) i = win u i := by
 funext d
 unfold win
 split
 ·exact bt_right u y _ (by omega)
 ·rfl
theorem cut_tail (a : ByteArray) : ∃ x, a = x ++ tailF a ∧ (x.size = 0 ∨ (tailF a).size = 16) := by
 refine ⟨a.extract 0 (a.size - min a.size 16), ?_, ?_⟩
 ·apply ext_of_list
  rw [app_list]
  unfold tailF
  rw [extract_list, extract_list]
  simp only [List.drop_zero, Nat.sub_zero]
  rw [List.take_of_length_le (l := List.drop _ _) (by rw [List.length_drop, ← Lib.size_eq]; exact Nat.le_refl _), List.take_append_drop]
 ·unfold tailF
  simp [ByteArray.size_extract]; omega
theorem cut_head (b : ByteArray) : ∃ y, b = headF b ++ y ∧ (y.size = 0 ∨ (headF b).size = 16) := by
 refine ⟨b.extract (min b.size 16) b.size, ?_, ?_⟩
 ·apply ext_of_list
  rw [app_list]
  unfold headF
  rw [extract_list, extract_list]
  simp only [List.drop_zero, Nat.sub_zero]
  rw [List.take_of_length_le (l := List.drop _ _) (by rw [List.length_drop, ← Lib.size_eq]; exact Nat.le_refl _), List.take_append_drop]
 ·unfold headF
  simp [ByteArray.size_extract]; omega
theorem app_assoc (a b c : ByteArray) : a ++ b ++ c = a ++ (b ++ c) := by apply ext_of_list; simp [app_list]

theorem Tot_seam (Φ : (Nat → Nat) → Int) (a b : ByteArray) : Tot Φ (a ++ b) = Tot Φ a + Tot Φ b + (Tot Φ (tailF a ++ headF b) - Tot Φ (tailF a) - Tot Φ (headF b)) := by
 obtain ⟨x, hx, hx16⟩ := cut_tail a
 obtain ⟨y, hy, hy16⟩ := cut_head b
 generalize tailF a = t at *
 generalize headF b = h at *
 subst hx hy
 unfold Tot
 have e1 : (x ++ t ++ (h ++ y)).size = (x.size + t.size) + (h.size + y.size) := by simp [ByteArray.size_append]
 have e2 : (x ++ t).size = x.size + t.size := by simp [ByteArray.size_append]
 have e3 : (h ++ y).size = h.size + y.size := by simp [ByteArray.size_append]
 have e4 : (t ++ h).size = t.size + h.size := by simp [ByteArray.size_append]
 rw [e1, e2, e3, e4, sumTo_add _ (x.size + t.size), sumTo_add _ x.size t.size, sumTo_add _ x.size t.size, sumTo_add _ h.size y.size, sumTo_add _ h.size y.size, sumTo_add _ t.size h.size]
 have a1 : sumTo (fun i => Φ (win (x ++ t ++ (h ++ y)) i)) x.size = sumTo (fun i => Φ (win (x ++ t) i)) x.size := by
  refine sumTo_congr _ fun i hi => ?_
  show Φ _ = Φ _
  rw [win_right (x ++ t) (h ++ y) i (by rw [e2]; omega)]
 have a2 : sumTo (fun i => Φ (win (x ++ t ++ (h ++ y)) (x.size + t.size + (h.size + i)))) y.size = sumTo (fun i => Φ (win (h ++ y) (h.size + i))) y.size := by
  refine sumTo_congr _ fun i hi => ?_
  show Φ _ = Φ _
  have := win_left (x ++ t) (h ++ y) (h.size + i) (by omega)
  rw [e2] at this
  rw [this]
 have a3 : sumTo (fun i => Φ (win (x ++ t ++ (h ++ y)) (x.size + i))) t.size - sumTo (fun i => Φ (win (x ++ t) (x.size + i))) t.size = sumTo (fun i => Φ (win (t ++ h) i)) t.size - sumTo (fun i => Φ (win t i)) t.size := by
  refine sumTo_sub _ fun i hi => ?_
  show Φ _ - Φ _ = Φ _ - Φ _
  by_cases hc : i + 4 ≤ t.size
  ·rw [win_right (x ++ t) (h ++ y) (x.size + i) (by rw [e2]; omega), win_right t h i (by omega)]
   omega
  ·rw [win_left x t i (by omega), app_assoc, win_left x (t ++ (h ++ y)) i (by omega), ← app_assoc, win_right (t ++ h) y i (by rw [e4]; omega)]
 have a4 : sumTo (fun i => Φ (win (x ++ t ++ (h ++ y)) (x.size + t.size + i))) h.size - sumTo (fun i => Φ (win (h ++ y) i)) h.size = sumTo (fun i => Φ (win (t ++ h) (t.size + i))) h.size - sumTo (fun i => Φ (win h i)) h.size := by
  refine sumTo_sub _ fun i hi => ?_
  show Φ _ - Φ _ = Φ _ - Φ _
  by_cases hc : 4 ≤ i
  ·have := win_left (x ++ t) (h ++ y) i (by omega)
   rw [e2] at this
   rw [this, win_left t h i (by omega)]
   omega
  ·rw [win_right h y i (by omega), app_assoc, Nat.add_assoc, win_left x (t ++ (h ++ y)) (t.size + i) (by omega), ← app_assoc, win_right (t ++ h) y (t.size + i) (by rw [e4]; omega)]
 omega

/-- The counts. -/
def fU (w : Nat → Nat) : Int := if cU w = true then 1 else 0
def fC (w : Nat → Nat) : Int := if cB w = true then 1 else 0
def fW (w : Nat → Nat) : Int := if cB w = true then cW w else 0
theorem bound_zero (s : ByteArray) : boundF s 0 = true := by rw [bound_iff]; intro k _ h; omega
theorem bound_up (s : ByteArray) {i : Nat} (hi : i < s.size) (hb : boundF s i = true) : boundF s (up s i) = true := by
 rw [bound_iff] at hb ⊢
 intro k h1 h2
 have := up_gt hi
 rcases (by omega : k < i ∨ k = i ∨ i < k) with h | h | h
 ·have h4 := sz_le4 (from_ s k)
  by_cases e : i ≤ k + 3
  ·have := hb k e h; omega
  ·unfold up at *; omega
 ·subst h; exact Nat.le_refl _
 ·have := (mid_one s hi h h2).2; omega
theorem no_mid (s : ByteArray) {i k : Nat} (hi : i < s.size) (h1 : i < k) (h2 : k < up s i) : boundF s k = false := by
 cases h : boundF s k with
 | false => rfl
 | true =>
  rw [bound_iff] at h
  have h4 := sz_le4 (from_ s i)
  have := h i (by unfold up at h2; omega) h1
  omega
theorem clB_bound {s : ByteArray} {i : Nat} (h0 : i < s.size) (h : clB s i = true) : boundF s i = true := by
 by_cases e : i = 0
 ·subst e; exact bound_zero s
 ·unfold clB at h
  simp only [Bool.or_eq_true, decide_eq_true_eq, Bool.and_eq_true] at h
  rcases h with (h | h) | h
  ·exact absurd h e
  ·omega
  ·exact h.1
theorem clB_zero (s : ByteArray) : clB s 0 = true := by simp [clB]
theorem clB_size (s : ByteArray) : clB s s.size = true := by simp [clB]
theorem nextU_up {s : ByteArray} {i : Nat} (hi : i < s.size) (hb : boundF s i = true) : nextU s i = up s i := by
 have h1 : (aroundF s i).1 = i := by unfold boundF at hb; simpa using hb
 have key : ∀ f j, j + f = i → (arFrom s i f j).1 = i → (arFrom s i f j).2 = up s i := by
  intro f
  induction f with
  | zero => intro j hj _; unfold arFrom; rw [if_neg (by omega)]
  | succ f ih =>
   intro j hj h
   unfold arFrom at h ⊢
   split
   ·rename_i hlt
    rw [if_pos hlt] at h
    simp only at h
    omega
   ·rename_i hlt
    rw [if_neg hlt] at h
    exact ih (j + 1) (by omega) h
 exact key _ _ (by omega) h1
/-- From a boundary of units the next boundary of clusters. -/
theorem clN_spec (s : ByteArray) : ∀ d i, s.size - i ≤ d → i < s.size → boundF s i = true → clB s (clN s i) = true ∧ (∀ k, i < k → k < clN s i → clB s k = false)
 | 0, i, hd, hi, hb => by omega
 | d + 1, i, hd, hi, hb => by
  have hn := nextU_up hi hb
  have hg := up_gt hi
  have hl := up_le (s := s) (j := i) (by omega)
  have hno : ∀ k, i < k → k < up s i → clB s k = false := by
   intro k h1 h2
   cases h : clB s k with
   | false => rfl
   | true => have := clB_bound (s := s) (i := k) (by omega) h; rw [no_mid s hi h1 h2] at this; exact absurd this (by simp)
  rw [clN_step hi, hn]
  split
  ·rename_i h; exact ⟨h, hno⟩
  ·rename_i h
   have hlt : up s i < s.size := by
    rcases Nat.lt_or_eq_of_le hl with h' | h'
    ·exact h'
    ·rw [h'] at h; exact absurd (clB_size s) h
   obtain ⟨p, q⟩ := clN_spec s d (up s i) (by omega) hlt (bound_up s hi hb)
   refine ⟨p, fun k h1 h2 => ?_⟩
   rcases (by omega : k < up s i ∨ k = up s i ∨ up s i < k) with h' | h' | h'
   ·exact hno k h1 h'
   ·subst h'; simpa using h
   ·exact q k h' h2
theorem clAts_filter (s : ByteArray) : ∀ d i, s.size - i ≤ d → i ≤ s.size → clB s i = true → clAts s i = (List.range' i (s.size - i)).filter (clB s)
 | d, i, hd, hi, hb => by
  by_cases he : i < s.size
  ·obtain ⟨p, q⟩ := clN_spec s d i hd he (clB_bound he hb)
   have hg := clN_gt he
   have hl := clN_le s i
   obtain ⟨d', rfl⟩ : ∃ d', d = d' + 1 := ⟨d - 1, by omega⟩
   rw [clAts_step he, clAts_filter s d' (clN s i) (by omega) hl p, ← filter_step (clB s) hg hl hb q]
  ·rw [clAts_end (by omega), show s.size - i = 0 by omega]; rfl
theorem clAts_all (s : ByteArray) : clAts s 0 = (List.range' 0 s.size).filter (clB s) := clAts_filter s s.size 0 (by omega) (Nat.zero_le _) (clB_zero s)
theorem count_tot (s : ByteArray) : ((clAts s 0).length : Int) = Tot fC s := by
 rw [← length_sum, clAts_all, sum_filter]
 refine sumTo_congr _ fun i hi => ?_
 rw [Nat.zero_add, clB_win s hi]; rfl
theorem cells_tot (s : ByteArray) : sumW s (clAts s 0) = Tot fW s := by
 unfold sumW
 rw [clAts_all, sum_filter]
 refine sumTo_congr _ fun i hi => ?_
 rw [Nat.zero_add]
 unfold fW
 by_cases h : clB s i = true
 ·rw [if_pos h, clW_win s hi (clB_bound hi h), if_pos (by rw [← clB_win s hi]; exact h)]
 ·rw [if_neg h, if_neg (by rw [← clB_win s hi]; exact h)]
theorem runes_from (s : ByteArray) : ∀ f i, s.size - i ≤ f → i ≤ s.size → boundF s i = true → Lib.runeCountFrom s f i = ((List.range' i (s.size - i)).filter (boundF s)).length
 | 0, i, hf, hi, hb => by
  rw [show s.size - i = 0 by omega]; rfl
 | f + 1, i, hf, hi, hb => by
  unfold Lib.runeCountFrom
  by_cases he : i < s.size
  ·have hu : i + (Utf8.decode s i).2 = up s i := by unfold up sz; rw [from_dec s he]
   rw [if_pos he, hu, runes_from s f (up s i) (by have := up_gt he; omega) (up_le hi) (bound_up s he hb), filter_step (boundF s) (up_gt he) (up_le hi) hb (fun k h1 h2 => no_mid s he h1 h2)]
   simp; omega
  ·rw [if_neg he, show s.size - i = 0 by omega]; rfl
theorem runes_tot (s : ByteArray) : (Lib.runeCount s : Int) = Tot fU s := by
 unfold Lib.runeCount
 rw [runes_from s s.size 0 (by omega) (Nat.zero_le _) (bound_zero s), ← length_sum, sum_filter]
 refine sumTo_congr _ fun i hi => ?_
 simp only [Nat.zero_add, Nat.sub_zero]
 rw [bound_win s (by omega)]; rfl
end Go.Proofs.YtfchglcclgcgfaaGreatDoor.Ut
