/-
  What the proof of the laws S rests on: the texts RfC RfD. Conditions: each theorem names its own.
-/
import Derived.Test.YtfchglcclgcgfaaGreatDoorMgSo
import Derived.Test.YtfchglcclgcgfaaGreatDoorMgSe
/-
 bodkinref02.digit, Table, Within: what they answer. No condition.
-/
namespace Go.Proofs.YtfchglcclgcgfaaGreatDoor.Ut
open Go.RowKit Go.Proofs.YtfchglcclgcgfaaGreatDoor.Reg
set_option linter.unusedVariables false
set_option linter.unusedSimpArgs false

theorem new_cells (w : World) (ys : List Value) (t : TypeId) : ∀ (j : Nat) (u : Value), ys[j]? = some u → (w.alloc (.cells ys.toArray t)).cell? ((⟨w.heap.size, 0, none⟩ : Addr).add j) = some u := by
 intro j u hj
 have := ((Lies.new w ys t).2 j u hj).1
 rw [Addr.add]
 split
 ·rename_i h; subst h; exact this
 ·simpa using this
/-- One element is appended. -/
theorem wpList_app_gen {ops : Array Oper} {rest : List Oper} {o : Oper} {a : Act} {Q : Exit → Act → World → Prop} {w : World} (hgd : o.guard = none) (s x : Operand) (tS tE : TypeId)
  (ho : o.op = .call { callee := .builtin .append, args := #[s, x], argTypes := #[tS, tS] }) (z : Value) (size bytes : Nat)
  (hinfo : (Tryz.prog.info? tE).map (fun i => (i.zero, i.size, i.bytes)) = some (some z, size, bytes)) (hund : Tryz.prog.underlying tS = some (.slice tE)) (hzs : z.cells.size = size) (hsz : 0 < size) (hby : bytes ≤ 64)
  (base : Nat) (u : Value) (n : Nat) (xs ys : List Value) (ty : TypeId) (hown : w.ownsRow base tE size u n xs) (hs : a.eval s = u)
  (g : Nat) (hgs : g = w.heap.size) (hx : a.eval x = .slice (some ⟨g, 0, none⟩) 1 1) (hl : ys.length = size) (h1 : ∀ u ∈ ys, u.oneCell' = true) (hlen : n ≤ 4294967296) (hbase : base ≤ w.heap.size)
  (h : ∀ v' w', w'.ownsRow base tE size v' (n + 1) (xs ++ ys) → (w.alloc (.cells ys.toArray ty)).grownBy w' u.ownBlock → wpList Tryz.prog ops Q rest (a.put o.dst v') w') :
  wpList Tryz.prog ops Q (o :: rest) a (w.alloc (.cells ys.toArray ty)) := by
 subst hgs
 obtain ⟨i0, hi, hz0, hz1, hz2⟩ := info_parts hinfo
 refine wpList_append_own _ hgd s x tS ho base tE i0 z size bytes hund hi hz0 hz1 hz2 hzs hsz u n xs hs (hown.alloc _) ⟨w.heap.size, 0, none⟩ 1 1 ys hx (by omega) (new_cells _ _ _) h1 (by unfold maxLen; omega) (Nat.le_trans (Nat.mul_le_mul (show n + 1 ≤ 4294967297 by omega) hby) (by decide)) (by simp; omega) ?_
 intro v' w' h1 h2 _
 exact h v' w' h1 h2

theorem own_belowC {W W' : World} {base e size n : Nat} {v : Value} {xs : List Value} (h : W.ownsRow base e size v n xs) (hb : Below W.heap.size W W') : W'.ownsRow base e size v n xs := by
 refine h.kept (row := none) ⟨hb.os, hb.tape, hb.output, hb.size, fun k hk _ => hb.block k hk⟩ ?_
 cases v.ownBlock with
 | none => exact .inl rfl
 | some k => exact .inr (by simp)
theorem own_mono {W : World} {base base' e size n : Nat} {v : Value} {xs : List Value} (h : W.ownsRow base e size v n xs) (hb : base' ≤ base) : W.ownsRow base' e size v n xs :=
 ⟨h.1, h.2.imp (fun h => h) (fun ⟨g, cap, cur, a, b, r⟩ => ⟨g, cap, cur, a, Nat.le_trans hb b, r⟩)⟩
/-- One element is appended whose cells lie in block g. -/
theorem wpList_app_lies {ops : Array Oper} {rest : List Oper} {o : Oper} {a : Act} {Q : Exit → Act → World → Prop} {w : World} (hgd : o.guard = none) (s x : Operand) (tS tE : TypeId)
  (ho : o.op = .call { callee := .builtin .append, args := #[s, x], argTypes := #[tS, tS] }) (z : Value) (size bytes : Nat)
  (hinfo : (Tryz.prog.info? tE).map (fun i => (i.zero, i.size, i.bytes)) = some (some z, size, bytes)) (hund : Tryz.prog.underlying tS = some (.slice tE)) (hzs : z.cells.size = size) (hsz : 0 < size) (hby : bytes ≤ 64)
  (base : Nat) (u : Value) (n : Nat) (xs ys : List Value) (hown : w.ownsRow base tE size u n xs) (hs : a.eval s = u)
  (g : Nat) (hL : Lies w g ys) (hx : a.eval x = .slice (some ⟨g, 0, none⟩) 1 1) (hl : ys.length = size) (h1 : ∀ u ∈ ys, u.oneCell' = true) (hlen : n ≤ 4294967296) (hbase : base ≤ w.heap.size)
  (h : ∀ v' w', w'.ownsRow base tE size v' (n + 1) (xs ++ ys) → w.grownBy w' u.ownBlock → wpList Tryz.prog ops Q rest (a.put o.dst v') w') :
  wpList Tryz.prog ops Q (o :: rest) a w := by
 obtain ⟨i0, hi, hz0, hz1, hz2⟩ := info_parts hinfo
 refine wpList_append_own _ hgd s x tS ho base tE i0 z size bytes hund hi hz0 hz1 hz2 hzs hsz u n xs hs hown ⟨g, 0, none⟩ 1 1 ys hx (by omega) (fun j u hj => ?_) h1 (by unfold maxLen; omega) (Nat.le_trans (Nat.mul_le_mul (show n + 1 ≤ 4294967297 by omega) hby) (by decide)) hbase ?_
 ·have := (hL.2 j u hj).1
  rw [Addr.add]
  split
  ·rename_i h; subst h; exact this
  ·simpa using this
 ·intro v' w' h1 h2 _
  exact h v' w' h1 h2
def digitF (b : Nat) : Int := if 48 ≤ b ∧ b ≤ 57 then (b : Int) - 48 else if 65 ≤ b ∧ b ≤ 70 then (b : Int) - 65 + 10 else -1
set_option maxRecDepth 100000 in
theorem RefDigit_any (b : Nat) (hb : b < 256) (w : World) : Calls Tryz.prog 190 #[.int .u8 b] w fun e w' => e = .returned (.int .i32 (digitF b)) ∧ w' = w := by
 by_cases h1 : 48 ≤ b ∧ b ≤ 57
 ·have g1 : (48 : Int) ≤ (b : Int) := by omega
  have g2 : (b : Int) ≤ 57 := by omega
  have e : digitF b = (b : Int) - 48 := by unfold digitF; rw [if_pos h1]
  rw [e]
  have hw : IntKind.u8.wrap ((b : Int) - 48) = (b : Int) - 48 := IntWalk.u8_in _ (by omega)
  have hw2 : IntKind.i32.wrap ((b : Int) - 48) = (b : Int) - 48 := IntWalk.i32_in _ (by omega)
  go_enter Tryz.func190, Tryz.ntmps190
  go_wp2
  go_ret
  exact ⟨rfl, rfl⟩
 ·by_cases h2 : 65 ≤ b ∧ b ≤ 70
  ·have e : digitF b = (b : Int) - 65 + 10 := by unfold digitF; rw [if_neg h1, if_pos h2]
   have g0 : (48 : Int) ≤ (b : Int) := by omega
   have g1 : ¬ (b : Int) ≤ 57 := by omega
   have g2 : (65 : Int) ≤ (b : Int) := by omega
   have g3 : (b : Int) ≤ 70 := by omega
   rw [e]
   have hw : IntKind.u8.wrap ((b : Int) - 65) = (b : Int) - 65 := IntWalk.u8_in _ (by omega)
   have hw2 : IntKind.i32.wrap ((b : Int) - 65) = (b : Int) - 65 := IntWalk.i32_in _ (by omega)
   have hw3 : IntKind.i32.wrap ((b : Int) - 65 + 10) = (b : Int) - 65 + 10 := IntWalk.i32_in _ (by omega)
   clear h1 h2 e
   go_enter Tryz.func190, Tryz.ntmps190
   go_wp2
   go_ret
   exact ⟨rfl, rfl⟩
  ·have e : digitF b = -1 := by unfold digitF; rw [if_neg h1, if_neg h2]
   rw [e]
   have hc : ((48 : Int) ≤ (b : Int) ∧ ¬ (b : Int) ≤ 57) ∨ ¬ (48 : Int) ≤ (b : Int) := by omega
   have hd : ((65 : Int) ≤ (b : Int) ∧ ¬ (b : Int) ≤ 70) ∨ ¬ (65 : Int) ≤ (b : Int) := by omega
   clear h1 h2 e
   rcases hc with ⟨g0, g1⟩ | g0 <;> rcases hd with ⟨g2, g3⟩ | g2
   all_goals
    go_enter Tryz.func190, Tryz.ntmps190
    go_wp2
    go_ret
    exact ⟨rfl, rfl⟩
theorem digit_low (b : Nat) : -1 ≤ digitF b ∧ digitF b ≤ 15 := by unfold digitF; split <;> (try split) <;> omega

/-- What Table has read of s behind k bytes: the numbers, the number under way, whether one is. -/
def tblStep (d : Int) (p : List Int × Int × Bool) : List Int × Int × Bool :=
 if 0 ≤ d then (p.1, wrap32 (wrap32 (p.2.1 * 16) + d), true) else (if p.2.2 = true then p.1 ++ [p.2.1] else p.1, 0, false)
def tblD (s : ByteArray) (k : Nat) : Int := if k < s.size then digitF (bt s k) else -1
def tblS (s : ByteArray) : Nat → List Int × Int × Bool
 | 0 => ([], 0, false)
 | k + 1 => tblStep (tblD s k) (tblS s k)
theorem tblS_len (s : ByteArray) : ∀ k, (tblS s k).1.length ≤ k
 | 0 => Nat.le_refl _
 | k + 1 => by
  have := tblS_len s k
  unfold tblS tblStep
  split
  ·simp only; omega
  ·simp only; split
   ·rw [List.length_append]; simp; omega
   ·omega
def cellsI (l : List Int) : List Value := l.map fun x => .int .i32 x
/-- The pairs of a list. -/
def pairsT (l : List Int) (j : Nat) : List (Int × Int) := (List.range j).map fun k => (l.getD (2 * k) 0, l.getD (2 * k + 1) 0)
def cellsR (l : List (Int × Int)) : List Value := l.flatMap fun x => [.int .i32 x.1, .int .i32 x.2]
theorem pairsT_len (l : List Int) (j : Nat) : (pairsT l j).length = j := by simp [pairsT]
theorem pairsT_succ (l : List Int) (j : Nat) : pairsT l (j + 1) = pairsT l j ++ [(l.getD (2 * j) 0, l.getD (2 * j + 1) 0)] := by simp [pairsT, List.range_succ]
theorem cellsR_app (l : List (Int × Int)) (x : Int × Int) : cellsR (l ++ [x]) = cellsR l ++ [.int .i32 x.1, .int .i32 x.2] := by unfold cellsR; rw [List.flatMap_append]; rfl
theorem cellsR_at : ∀ (l : List (Int × Int)) (k : Nat) (h : k < l.length), (cellsR l)[k * 2]? = some (.int .i32 l[k].1) ∧ (cellsR l)[k * 2 + 1]? = some (.int .i32 l[k].2)
 | x :: r, 0, _ => ⟨rfl, rfl⟩
 | x :: r, k + 1, h => by
  have := cellsR_at r k (by simpa using h)
  have e : cellsR (x :: r) = .int .i32 x.1 :: .int .i32 x.2 :: cellsR r := rfl
  rw [e, show (k + 1) * 2 = k * 2 + 1 + 1 by omega]
  simpa using this
def tableL (s : ByteArray) : List (Int × Int) := pairsT (tblS s (s.size + 1)).1 ((tblS s (s.size + 1)).1.length / 2)
theorem infoRune : (Tryz.prog.info? 21).map (fun i => (i.zero, i.size, i.bytes)) = some (some (.int .i32 0), 1, 4) := by kernel_rfl
theorem infoRange : (Tryz.prog.info? 210).map (fun i => (i.zero, i.size, i.bytes)) = some (some (.agg #[.int .i32 0, .int .i32 0]), 2, 8) := by kernel_rfl

def VTb21 (n0 n i c g : Nat) (U : Value) (p q : Int) : Nat → Value → World → Prop := fun d x w => match d with
 | 42 => x = U
 | 43 => x = .slice (some ⟨g, 0, none⟩) n c
 | 44 => x = .int .i64 i
 | 45 => x = .pointer (some ⟨g, i, none⟩)
 | 46 => x = .int .i32 p
 | 47 => x = .slice (some ⟨g, 0, none⟩) n c
 | 48 => x = .int .i64 i
 | 49 => x = .int .i64 ((i : Int) + 1)
 | 50 => x = .pointer (some ⟨g, i + 1, none⟩)
 | 51 => x = .int .i32 q
 | 52 => x = .agg #[.int .i32 p, .int .i32 q]
 | 53 => ∃ b, x = .slice (some ⟨b, 0, none⟩) 1 1 ∧ n0 ≤ b ∧ Lies w b [.int .i32 p, .int .i32 q]
 | 54 => True
 | 8 => True
 | _ => True
theorem VTb21_mono (n0 n i c g : Nat) (U : Value) (p q : Int) : ∀ d x w w', VTb21 n0 n i c g U p q d x w → Below w.heap.size w w' → VTb21 n0 n i c g U p q d x w' := by
 intro d x w w' h hb
 unfold VTb21 at *
 split <;> first | exact h | exact trivial | skip
 obtain ⟨b, h1, h2, h3⟩ := h
 exact ⟨b, h1, h2, h3.below hb⟩
set_option maxRecDepth 100000 in
set_option maxHeartbeats 2000000 in
theorem RefTable_any (s : ByteArray) (w : World) (hs : s.size ≤ 1073741824) :
  Calls Tryz.prog 176 #[.string s] w fun e w' => ∃ v, e = .returned v ∧ w'.ownsRow w.heap.size 210 2 v (tableL s).length (cellsR (tableL s)) ∧ Below w.heap.size w w' := by
 go_enter Tryz.func176, Tryz.ntmps176
 go_wp2
 go_loopw [3, 4, 5, 6] (fun u x y z wr => ∃ k : Nat, k ≤ s.size + 1 ∧ z = .int .i64 k ∧ x = .int .i32 (tblS s k).2.1 ∧ y = .bool (tblS s k).2.2 ∧ wr.ownsRow w.heap.size 21 1 u (tblS s k).1.length (cellsI (tblS s k).1) ∧ Below w.heap.size w wr) (fun _ _ _ z _ => s.size + 1 - (intOf z).toNat)
 case atStart => exact ⟨0, Nat.zero_le _, rfl, rfl, rfl, World.ownsRow_nil _ _ _ _, Below.refl _ _⟩
 case round =>
  obtain ⟨k, hk, rfl, rfl, rfl, hown, hb⟩ := hrel
  have HO := Lib.hid hown
  have HB := Lib.hid hb
  have hll := tblS_len s k
  clear hown hb
  by_cases hlt : k < s.size + 1
  ·have hst : Hid (tblS s (k + 1) = tblStep (tblD s k) (tblS s k)) := rfl
   have HF : Hid (∀ (p : List Int × Int × Bool) (u : Value) (w3 : World), tblStep (tblD s k) (tblS s k) = p → w3.ownsRow w.heap.size 21 1 u p.1.length (cellsI p.1) → Below w.heap.size w w3 →
     ∃ j : Nat, j ≤ s.size + 1 ∧ Value.int .i64 ((k : Int) + 1) = .int .i64 j ∧ Value.int .i32 p.2.1 = .int .i32 (tblS s j).2.1 ∧ Value.bool p.2.2 = .bool (tblS s j).2.2 ∧ w3.ownsRow w.heap.size 21 1 u (tblS s j).1.length (cellsI (tblS s j).1) ∧ Below w.heap.size w w3) :=
    fun p u w3 h1 h2 h3 => ⟨k + 1, hlt, by go_num, by rw [hst.out, h1], by rw [hst.out, h1], by rw [hst.out, h1]; exact h2, h3⟩
   have hd := digit_low (bt s k)
   by_cases hin : k < s.size
   ·have hdd : tblD s k = digitF (bt s k) := by unfold tblD; rw [if_pos hin]
    have hix := ix_bt s k hin
    have HD := Lib.hid (fun w => RefDigit_any (bt s k) (bt_lt s hin) w)
    rw [hdd] at HF
    obtain ⟨d, hde⟩ : ∃ d, digitF (bt s k) = d := ⟨_, rfl⟩
    rw [hde] at HD HF hd
    obtain ⟨⟨l, m, f⟩, hp⟩ : ∃ p, tblS s k = p := ⟨_, rfl⟩
    rw [hp] at HO hll HF ⊢
    have hll : l.length ≤ k := hll
    clear hdd hde hp hst
    go_wp2_with fail
    refine (HD.out _).mono ?_
    rintro e w1 ⟨rfl, rfl⟩
    by_cases hd0 : 0 ≤ d
    ·go_wp2
     go_roundw
     case rel => exact HF.out (l, wrap32 (wrap32 (m * 16) + d), true) _ _ (by unfold tblStep; rw [if_pos hd0]) HO.out HB.out
     case measure => simp [intOf]; omega
    ·have hdn : ¬ (0 : Int) ≤ d := hd0
     cases f with
     | true =>
      go_wp2_with (at_builtin; refine wpList_app_gen rfl _ _ 184 21 rfl (.int .i32 0) 1 4 infoRune Tryz.underlying184 rfl (by decide) (by decide) w.heap.size _ l.length _ [.int .i32 m] _ HO.out rfl _ rfl rfl rfl (by intro u hu; simp at hu; subst hu; rfl) (by omega) (by have := HB.out.size; omega) ?_; intro v2 w3 hown3 hg3; have HO3 := Lib.hid hown3; have HB3 := Lib.hid ((HB.out.alloc HB.out.size _).grown hg3 (by have := HB.out.size; simp; omega) (fun j hj => (HO.out.lt j hj).1)); clear hown3 hg3)
      go_roundw
      case rel => exact HF.out (l ++ [m], 0, false) _ _ (by unfold tblStep; rw [if_neg (by omega)]; rfl) (by unfold cellsI; rw [List.map_append, List.length_append]; exact HO3.out) HB3.out
      case measure => simp [intOf]; omega
     | false =>
      go_wp2
      go_roundw
      case rel => exact HF.out (l, 0, false) _ _ (by unfold tblStep; rw [if_neg (by omega)]; rfl) HO.out HB.out
      case measure => simp [intOf]; omega
   ·have hdd : tblD s k = -1 := by unfold tblD; rw [if_neg hin]
    rw [hdd] at HF
    obtain ⟨⟨l, m, f⟩, hp⟩ : ∃ p, tblS s k = p := ⟨_, rfl⟩
    rw [hp] at HO hll HF ⊢
    have hll : l.length ≤ k := hll
    clear hdd hp hst hd
    obtain rfl : k = s.size := by omega
    cases f with
    | true =>
     go_wp2_with (at_builtin; refine wpList_app_gen rfl _ _ 184 21 rfl (.int .i32 0) 1 4 infoRune Tryz.underlying184 rfl (by decide) (by decide) w.heap.size _ l.length _ [.int .i32 m] _ HO.out rfl _ rfl rfl rfl (by intro u hu; simp at hu; subst hu; rfl) (by omega) (by have := HB.out.size; omega) ?_; intro v2 w3 hown3 hg3; have HO3 := Lib.hid hown3; have HB3 := Lib.hid ((HB.out.alloc HB.out.size _).grown hg3 (by have := HB.out.size; simp; omega) (fun j hj => (HO.out.lt j hj).1)); clear hown3 hg3)
     go_roundw
     case rel => exact HF.out (l ++ [m], 0, false) _ _ (by unfold tblStep; rw [if_neg (by omega)]; rfl) (by unfold cellsI; rw [List.map_append, List.length_append]; exact HO3.out) HB3.out
     case measure => simp [intOf]
    | false =>
     go_wp2
     go_roundw
     case rel => exact HF.out (l, 0, false) _ _ (by unfold tblStep; rw [if_neg (by omega)]; rfl) HO.out HB.out
     case measure => simp [intOf]
  ·obtain rfl : k = s.size + 1 := by omega
   have hTL : Hid (tableL s = pairsT (tblS s (s.size + 1)).1 ((tblS s (s.size + 1)).1.length / 2)) := rfl
   obtain ⟨⟨l, m, f⟩, hp⟩ : ∃ p, tblS s (s.size + 1) = p := ⟨_, rfl⟩
   rw [hp] at HO hll hTL ⊢
   clear hp hlt
   have hll : l.length ≤ s.size + 1 := hll
   obtain ⟨A, c, hAc⟩ := row_forma HO.out
   subst hAc
   have HR : Hid (0 < l.length → ∃ g, A = some ⟨g, 0, none⟩ ∧ RunesAt wr g l) := by
    intro h0
    obtain ⟨g, c', he, -, -⟩ := HO.out.form h0
    obtain ⟨rfl, rfl⟩ : A = some ⟨g, 0, none⟩ ∧ c = c' := by simpa using he
    have hc : ∀ i (h : i < l.length), wr.cell? ⟨g, i, none⟩ = some (.int .i32 l[i]) := fun i h => by
     rw [HO.out.cellAt i (by show i < l.length * 1; omega)]; unfold cellsI; simp [h]
    exact ⟨g, rfl, World.block_lt_of_cell? wr _ (hc 0 h0), hc⟩
   clear HO
   rename World => wo
   go_wp2
   go_loopw [8, 9] (fun u y w2 => ∃ i j : Nat, i = 2 * j ∧ j ≤ l.length / 2 ∧ y = .int .i64 i ∧ w2.ownsRow wo.heap.size 210 2 u (pairsT l j).length (cellsR (pairsT l j)) ∧ Below wo.heap.size wo w2) (fun _ y _ => l.length - (intOf y).toNat)
   case atStart => exact ⟨0, 0, rfl, Nat.zero_le _, rfl, World.ownsRow_nil _ _ _ _, Below.refl _ _⟩
   case round =>
    obtain ⟨i, j, hij, hj, rfl, hown, hb⟩ := hrel
    by_cases hlt : i + 1 < l.length
    ·obtain ⟨g, rfl, hg⟩ := HR.out (by omega)
     have hlI : (i : Int) + 1 < (l.length : Int) := by omega
     have hl0 : (i : Int) < (l.length : Int) := by omega
     have hi0 : (0 : Int) ≤ (i : Int) := by omega
     have hi1 : (0 : Int) ≤ (i : Int) + 1 := by omega
     have hwj : IntKind.i64.wrap ((i : Int) + 1) = (i : Int) + 1 := IntWalk.i64_in _ (by omega)
     have hwj2 : IntKind.i64.wrap ((i : Int) + 2) = (i : Int) + 2 := IntWalk.i64_in _ (by omega)
     have hto : ((i : Int) + 1).toNat = i + 1 := by omega
     have HO := Lib.hid hown
     have HBb := Lib.hid hb
     have HG := Lib.hid (hg.below hb)
     have hpl := pairsT_len l j
     have hps : Hid (pairsT l (j + 1) = pairsT l j ++ [(l[i]'(by omega), l[i + 1]'hlt)]) := by
      show _ = _
      rw [pairsT_succ, ← hij, List.getD_eq_getElem?_getD, List.getD_eq_getElem?_getD, List.getElem?_eq_getElem (by omega), List.getElem?_eq_getElem hlt]; rfl
     obtain ⟨p, hp⟩ : ∃ p, l[i]'(by omega) = p := ⟨_, rfl⟩
     obtain ⟨q, hq⟩ : ∃ q, l[i + 1]'hlt = q := ⟨_, rfl⟩
     rw [hp, hq] at hps
     have g0 : wr.cell? ⟨g, i, none⟩ = some (.int .i32 p) := by rw [← hp]; exact HG.out.2 i (by omega)
     have g1 : wr.cell? ⟨g, i + 1, none⟩ = some (.int .i32 q) := by rw [← hq]; exact HG.out.2 (i + 1) hlt
     have hgl : g < wr.heap.size := HG.out.1
     have G0 := Lib.hid g0
     have G1 := Lib.hid g1
     have Hij := Lib.hid hij
     clear hown hb hg hp hq g0 g1 hij
     go_wp2
     refine wp_held_tail mixed (VTb21 wr.heap.size l.length i c g u8 p q) (VTb21_mono _ _ _ _ _ _ _ _) (by kernel_rfl) 8 12 (by decide) [42, 43, 44, 45, 46, 47, 48, 49, 50, 51, 52, 53] (by kernel_rfl) (by kernel_rfl) (by kernel_rfl) (by kernel_rfl) ?_ ?_
     ·intro j hj
      have hj' : j < 12 := hj
      rcases (by omega : j = 0 ∨ j = 1 ∨ j = 2 ∨ j = 3 ∨ j = 4 ∨ j = 5 ∨ j = 6 ∨ j = 7 ∨ j = 8 ∨ j = 9 ∨ j = 10 ∨ j = 11) with rfl | rfl | rfl | rfl | rfl | rfl | rfl | rfl | rfl | rfl | rfl | rfl
      ·(refine owes_val (L := [(8, false)]) rfl rfl rfl (by kernel_rfl) ?_; intro a' w' hb' hfacts; obtain ⟨hf8, -⟩ := hfacts; replace hf8 : a'.tmps[8]?.getD undef = u8 := hf8)
       have pA := (hb'.cell (p := ⟨g, i, none⟩) hgl).trans G0.out; have pB := (hb'.cell (p := ⟨g, i + 1, none⟩) hgl).trans G1.out
       (go_simp; first | exact ⟨_, rfl, Br _, rfl⟩ | exact ⟨_, rfl, Br _, trivial⟩ | exact ⟨_, rfl, Ba _ _, trivial⟩ | exact ⟨_, rfl, Br _, congrArg (Value.int _) (IntWalk.i64_in _ (by omega))⟩)
      ·(refine owes_val (L := [(3, false)]) rfl rfl rfl (by kernel_rfl) ?_; intro a' w' hb' hfacts; obtain ⟨hf3, -⟩ := hfacts; replace hf3 : a'.tmps[3]?.getD undef = .slice (some ⟨g, 0, none⟩) l.length c := hf3)
       have pA := (hb'.cell (p := ⟨g, i, none⟩) hgl).trans G0.out; have pB := (hb'.cell (p := ⟨g, i + 1, none⟩) hgl).trans G1.out
       (go_simp; first | exact ⟨_, rfl, Br _, rfl⟩ | exact ⟨_, rfl, Br _, trivial⟩ | exact ⟨_, rfl, Ba _ _, trivial⟩ | exact ⟨_, rfl, Br _, congrArg (Value.int _) (IntWalk.i64_in _ (by omega))⟩)
      ·(refine owes_val (L := [(9, false)]) rfl rfl rfl (by kernel_rfl) ?_; intro a' w' hb' hfacts; obtain ⟨hf9, -⟩ := hfacts; replace hf9 : a'.tmps[9]?.getD undef = .int .i64 i := hf9)
       have pA := (hb'.cell (p := ⟨g, i, none⟩) hgl).trans G0.out; have pB := (hb'.cell (p := ⟨g, i + 1, none⟩) hgl).trans G1.out
       (go_simp; first | exact ⟨_, rfl, Br _, rfl⟩ | exact ⟨_, rfl, Br _, trivial⟩ | exact ⟨_, rfl, Ba _ _, trivial⟩ | exact ⟨_, rfl, Br _, congrArg (Value.int _) (IntWalk.i64_in _ (by omega))⟩)
      ·(refine owes_val (L := [(43, true), (44, true)]) rfl rfl rfl (by kernel_rfl) ?_; intro a' w' hb' hfacts; obtain ⟨hf43, hf44, -⟩ := hfacts; try simp only [VTb21] at hf43; try simp only [VTb21] at hf44)
       have pA := (hb'.cell (p := ⟨g, i, none⟩) hgl).trans G0.out; have pB := (hb'.cell (p := ⟨g, i + 1, none⟩) hgl).trans G1.out
       (go_simp; first | exact ⟨_, rfl, Br _, rfl⟩ | exact ⟨_, rfl, Br _, trivial⟩ | exact ⟨_, rfl, Ba _ _, trivial⟩ | exact ⟨_, rfl, Br _, congrArg (Value.int _) (IntWalk.i64_in _ (by omega))⟩)
      ·(refine owes_val (L := [(45, true)]) rfl rfl rfl (by kernel_rfl) ?_; intro a' w' hb' hfacts; obtain ⟨hf45, -⟩ := hfacts; try simp only [VTb21] at hf45)
       have pA := (hb'.cell (p := ⟨g, i, none⟩) hgl).trans G0.out; have pB := (hb'.cell (p := ⟨g, i + 1, none⟩) hgl).trans G1.out
       (go_simp; first | exact ⟨_, rfl, Br _, rfl⟩ | exact ⟨_, rfl, Br _, trivial⟩ | exact ⟨_, rfl, Ba _ _, trivial⟩ | exact ⟨_, rfl, Br _, congrArg (Value.int _) (IntWalk.i64_in _ (by omega))⟩)
      ·(refine owes_val (L := [(3, false)]) rfl rfl rfl (by kernel_rfl) ?_; intro a' w' hb' hfacts; obtain ⟨hf3, -⟩ := hfacts; replace hf3 : a'.tmps[3]?.getD undef = .slice (some ⟨g, 0, none⟩) l.length c := hf3)
       have pA := (hb'.cell (p := ⟨g, i, none⟩) hgl).trans G0.out; have pB := (hb'.cell (p := ⟨g, i + 1, none⟩) hgl).trans G1.out
       (go_simp; first | exact ⟨_, rfl, Br _, rfl⟩ | exact ⟨_, rfl, Br _, trivial⟩ | exact ⟨_, rfl, Ba _ _, trivial⟩ | exact ⟨_, rfl, Br _, congrArg (Value.int _) (IntWalk.i64_in _ (by omega))⟩)
      ·(refine owes_val (L := [(9, false)]) rfl rfl rfl (by kernel_rfl) ?_; intro a' w' hb' hfacts; obtain ⟨hf9, -⟩ := hfacts; replace hf9 : a'.tmps[9]?.getD undef = .int .i64 i := hf9)
       have pA := (hb'.cell (p := ⟨g, i, none⟩) hgl).trans G0.out; have pB := (hb'.cell (p := ⟨g, i + 1, none⟩) hgl).trans G1.out
       (go_simp; first | exact ⟨_, rfl, Br _, rfl⟩ | exact ⟨_, rfl, Br _, trivial⟩ | exact ⟨_, rfl, Ba _ _, trivial⟩ | exact ⟨_, rfl, Br _, congrArg (Value.int _) (IntWalk.i64_in _ (by omega))⟩)
      ·(refine owes_val (L := [(48, true)]) rfl rfl rfl (by kernel_rfl) ?_; intro a' w' hb' hfacts; obtain ⟨hf48, -⟩ := hfacts; try simp only [VTb21] at hf48)
       have pA := (hb'.cell (p := ⟨g, i, none⟩) hgl).trans G0.out; have pB := (hb'.cell (p := ⟨g, i + 1, none⟩) hgl).trans G1.out
       (go_simp; first | exact ⟨_, rfl, Br _, rfl⟩ | exact ⟨_, rfl, Br _, trivial⟩ | exact ⟨_, rfl, Ba _ _, trivial⟩ | exact ⟨_, rfl, Br _, congrArg (Value.int _) (IntWalk.i64_in _ (by omega))⟩)
      ·(refine owes_val (L := [(47, true), (49, true)]) rfl rfl rfl (by kernel_rfl) ?_; intro a' w' hb' hfacts; obtain ⟨hf47, hf49, -⟩ := hfacts; try simp only [VTb21] at hf47; try simp only [VTb21] at hf49)
       have pA := (hb'.cell (p := ⟨g, i, none⟩) hgl).trans G0.out; have pB := (hb'.cell (p := ⟨g, i + 1, none⟩) hgl).trans G1.out
       (go_simp; first | exact ⟨_, rfl, Br _, rfl⟩ | exact ⟨_, rfl, Br _, trivial⟩ | exact ⟨_, rfl, Ba _ _, trivial⟩ | exact ⟨_, rfl, Br _, congrArg (Value.int _) (IntWalk.i64_in _ (by omega))⟩)
      ·(refine owes_val (L := [(50, true)]) rfl rfl rfl (by kernel_rfl) ?_; intro a' w' hb' hfacts; obtain ⟨hf50, -⟩ := hfacts; try simp only [VTb21] at hf50)
       have pA := (hb'.cell (p := ⟨g, i, none⟩) hgl).trans G0.out; have pB := (hb'.cell (p := ⟨g, i + 1, none⟩) hgl).trans G1.out
       (go_simp; first | exact ⟨_, rfl, Br _, rfl⟩ | exact ⟨_, rfl, Br _, trivial⟩ | exact ⟨_, rfl, Ba _ _, trivial⟩ | exact ⟨_, rfl, Br _, congrArg (Value.int _) (IntWalk.i64_in _ (by omega))⟩)
      ·(refine owes_val (L := [(46, true), (51, true)]) rfl rfl rfl (by kernel_rfl) ?_; intro a' w' hb' hfacts; obtain ⟨hf46, hf51, -⟩ := hfacts; try simp only [VTb21] at hf46; try simp only [VTb21] at hf51)
       have pA := (hb'.cell (p := ⟨g, i, none⟩) hgl).trans G0.out; have pB := (hb'.cell (p := ⟨g, i + 1, none⟩) hgl).trans G1.out
       (go_simp; first | exact ⟨_, rfl, Br _, rfl⟩ | exact ⟨_, rfl, Br _, trivial⟩ | exact ⟨_, rfl, Ba _ _, trivial⟩ | exact ⟨_, rfl, Br _, congrArg (Value.int _) (IntWalk.i64_in _ (by omega))⟩)
      ·(refine owes_val (L := [(52, true)]) rfl rfl rfl (by kernel_rfl) ?_; intro a' w' hb' hfacts; obtain ⟨hf52, -⟩ := hfacts; try simp only [VTb21] at hf52)
       go_simp
       exact ⟨_, rfl, (Below.refl _ _).alloc (Nat.le_refl _) _, _, rfl, hb'.size, Lies.new _ [.int .i32 p, .int .i32 q] _⟩
     ·intro f W7 hf hb7
      have e42 : f 42 = u8 := hf 42 (by decide)
      obtain ⟨b, e53, hbb, hL⟩ := hf 53 (by decide)
      have HO7 := Lib.hid (own_belowC HO.out hb7)
      have HB7 := Lib.hid (HBb.out.trans (hb7.mono HBb.out.size))
      have HL := Lib.hid hL
      have hpll : (pairsT l j).length ≤ 4294967296 := by omega
      clear hf hL hb7
      simp only [putAll, put_lit, List.map_cons, List.map_nil, List.set_cons_succ, List.set_cons_zero]
      simp only [e42, e53]
      dsimp only [List.drop]
      have hsz7 : wo.heap.size ≤ W7.heap.size := HB7.out.size
      go_wp2_with (at_builtin; refine wpList_app_lies rfl _ _ 203 210 rfl (.agg #[.int .i32 0, .int .i32 0]) 2 8 infoRange Tryz.underlying203 rfl (by decide) (by decide) wo.heap.size _ _ _ [.int .i32 p, .int .i32 q] HO7.out rfl b HL.out rfl rfl (by intro u hu; simp at hu; rcases hu with rfl | rfl <;> rfl) hpll hsz7 ?_; intro v2 w3 hown3 hg3; have HO3 := Lib.hid hown3; have HB3 := Lib.hid (HB7.out.grown hg3 hsz7 (fun j hj => (HO7.out.lt j hj).1)); clear hown3 hg3)
      go_roundw
      case rel => exact ⟨i + 2, j + 1, by have := Hij.out; omega, by have := Hij.out; omega, by go_num, by rw [hps.out, cellsR_app, List.length_append]; exact HO3.out, HB3.out⟩
      case measure => simp [intOf]; omega
    ·have hje : j = l.length / 2 := by omega
     have HO := Lib.hid hown
     have HBb := Lib.hid (HB.out.trans (hb.mono HB.out.size))
     have hlI : ¬ (i : Int) + 1 < (l.length : Int) := by omega
     have hwj : IntKind.i64.wrap ((i : Int) + 1) = (i : Int) + 1 := IntWalk.i64_in _ (by omega)
     have HTl : Hid (tableL s = pairsT l j) := by show _ = _; rw [hTL.out, hje]
     have hwo : w.heap.size ≤ wo.heap.size := HB.out.size
     clear hown hb hje hij
     go_wp2
     go_ret
     exact ⟨_, rfl, by rw [HTl.out]; exact own_mono HO.out hwo, HBb.out⟩

theorem range_cells {w : World} {base n : Nat} {v : Value} {l : List (Int × Int)} (h : w.ownsRow base 210 2 v n (cellsR l)) (hn : n = l.length) (k : Nat) (hk : k < l.length) : ∃ g c, v = .slice (some ⟨g, 0, none⟩) n c ∧ w.cell? ⟨g, k * 2, none⟩ = some (.int .i32 l[k].1) ∧ w.cell? ⟨g, k * 2 + 1, none⟩ = some (.int .i32 l[k].2) := by
 subst hn
 obtain ⟨g, c, he, -, -⟩ := h.form (by omega)
 subst he
 refine ⟨g, c, rfl, ?_, ?_⟩
 ·exact (h.cellAt (k * 2) (by omega)).trans (cellsR_at l k hk).1
 ·exact (h.cellAt (k * 2 + 1) (by omega)).trans (cellsR_at l k hk).2
def withinL (l : List (Int × Int)) (c : Int) : Bool := l.any fun x => decide (x.1 ≤ c ∧ c ≤ x.2)
set_option maxRecDepth 100000 in
theorem RefWithin_any (base : Nat) (v : Value) (l : List (Int × Int)) (x : Int) (w : World) (hown : w.ownsRow base 210 2 v l.length (cellsR l)) (hl : l.length ≤ 4294967296) :
  Calls Tryz.prog 175 #[v, .int .i32 x] w fun e w' => e = .returned (.bool (withinL l x)) ∧ w' = w := by
 obtain ⟨A, c, rfl⟩ := row_forma hown
 have HO := Lib.hid hown
 obtain ⟨R, hR⟩ : ∃ R, withinL l x = R := ⟨_, rfl⟩
 have HR := Lib.hid hR
 rw [hR]
 clear hown hR
 go_enter Tryz.func175, Tryz.ntmps175
 go_wp2
 go_loopw [5] (fun y wr => ∃ k : Nat, k ≤ l.length ∧ y = .int .i64 k ∧ Hid (withinL (l.drop k) x = R) ∧ wr = w) (fun y _ => l.length - (intOf y).toNat)
 case atStart => exact ⟨0, Nat.zero_le _, rfl, HR.out, rfl⟩
 case round =>
  obtain ⟨k, hk, rfl, HA, rfl⟩ := hrel
  by_cases hlt : k < l.length
  ·obtain ⟨g, c', he, q0, q1⟩ := range_cells HO.out rfl k hlt
   obtain ⟨rfl, rfl⟩ : A = some ⟨g, 0, none⟩ ∧ c = c' := by simpa using he
   have hst : withinL (l.drop k) x = (decide (l[k].1 ≤ x ∧ x ≤ l[k].2) || withinL (l.drop (k + 1)) x) := by
    rw [List.drop_eq_getElem_cons hlt]; rfl
   rw [HA.out] at hst
   have hk0 : (0 : Int) ≤ (k : Int) := by omega
   have hkl : (k : Int) < (l.length : Int) := by omega
   obtain ⟨⟨p, q⟩, hp⟩ : ∃ p, l[k] = p := ⟨_, rfl⟩
   rw [hp] at q0 q1 hst
   have HSt := Lib.hid hst
   clear he hst hp HA
   by_cases h1 : p ≤ x
   ·by_cases h2 : x ≤ q
    ·have hRt : Hid (R = true) := by show _ = _; rw [HSt.out]; simp [h1, h2]
     clear HSt
     go_wp2
     go_ret
     exact ⟨by rw [hRt.out]; rfl, rfl⟩
    ·have hRt : Hid (withinL (l.drop (k + 1)) x = R) := by show _ = _; rw [HSt.out]; simp [h2]
     clear HSt
     go_wp2
     go_roundw
     case rel => exact ⟨k + 1, by omega, by go_num, hRt, trivial⟩
     case measure => simp [intOf]; omega
   ·have hRt : Hid (withinL (l.drop (k + 1)) x = R) := by show _ = _; rw [HSt.out]; simp [h1]
    clear HSt
    go_wp2
    go_roundw
    case rel => exact ⟨k + 1, by omega, by go_num, hRt, trivial⟩
    case measure => simp [intOf]; omega
  ·have hRf : Hid (R = false) := by
    show _ = _
    rw [← HA.out, List.drop_eq_nil_of_le (by omega)]; rfl
   have hkl : ¬ (k : Int) < (l.length : Int) := by omega
   clear HA
   go_wp2
   go_ret
   exact ⟨by rw [hRf.out]; rfl, rfl⟩
end Go.Proofs.YtfchglcclgcgfaaGreatDoor.Ut
/-
 bodkinref02.Class, Cells and bodkinref03.joined: what they answer. No condition.
-/
namespace Go.Proofs.YtfchglcclgcgfaaGreatDoor.Ut
open Go.RowKit Go.Proofs.YtfchglcclgcgfaaGreatDoor.Reg
set_option linter.unusedVariables false
set_option linter.unusedSimpArgs false

/-- The two tables as the reference has them, in bytes. -/
def marksB : ByteArray := ⟨#[51, 48, 48, 32, 51, 54, 70, 44, 32, 52, 56, 51, 32, 52, 56, 57, 44, 32, 53, 57, 49, 32, 53, 66, 68, 44, 32, 53, 66, 70, 32, 53, 66, 70, 44, 32, 53, 67, 49, 32, 53, 67, 50, 44, 32, 54, 49, 48, 32, 54, 49, 65, 44, 32, 54, 52, 66, 32, 54, 53, 70, 44, 32, 54, 55, 48, 32, 54, 55, 48, 44, 32, 54, 68, 54, 32, 54, 68, 67, 44, 32, 57, 48, 48, 32, 57, 48, 50, 44, 32, 57, 51, 67, 32, 57, 51, 67, 44, 32, 57, 52, 68, 32, 57, 52, 68, 44, 32, 69, 51, 49, 32, 69, 51, 49, 44, 32, 69, 51, 52, 32, 69, 51, 65, 44, 32, 69, 52, 55, 32, 69, 52, 69, 44, 32, 49, 51, 53, 68, 32, 49, 51, 53, 70, 44, 32, 49, 65, 66, 48, 32, 49, 65, 70, 70, 44, 32, 49, 68, 67, 48, 32, 49, 68, 70, 70, 44, 32, 50, 48, 48, 67, 32, 50, 48, 48, 68, 44, 32, 50, 48, 68, 48, 32, 50, 48, 70, 70, 44, 32, 51, 48, 50, 65, 32, 51, 48, 50, 70, 44, 32, 51, 48, 57, 57, 32, 51, 48, 57, 65, 44, 32, 70, 69, 48, 48, 32, 70, 69, 48, 70, 44, 32, 70, 69, 50, 48, 32, 70, 69, 50, 70, 44, 32, 49, 70, 51, 70, 66, 32, 49, 70, 51, 70, 70, 44, 32, 69, 48, 49, 48, 48, 32, 69, 48, 49, 69, 70]⟩
def widesB : ByteArray := ⟨#[49, 49, 48, 48, 32, 49, 49, 53, 70, 44, 32, 50, 51, 49, 65, 32, 50, 51, 49, 66, 44, 32, 50, 51, 50, 57, 32, 50, 51, 50, 65, 44, 32, 50, 51, 69, 57, 32, 50, 51, 69, 67, 44, 32, 50, 53, 70, 68, 32, 50, 53, 70, 69, 44, 32, 50, 54, 49, 52, 32, 50, 54, 49, 53, 44, 32, 50, 54, 52, 56, 32, 50, 54, 53, 51, 44, 32, 50, 54, 65, 65, 32, 50, 54, 65, 66, 44, 32, 50, 69, 56, 48, 32, 51, 48, 50, 57, 44, 32, 51, 48, 51, 48, 32, 51, 48, 51, 69, 44, 32, 51, 48, 52, 49, 32, 51, 48, 57, 56, 44, 32, 51, 48, 57, 66, 32, 52, 68, 66, 70, 44, 32, 52, 69, 48, 48, 32, 65, 52, 67, 70, 44, 32, 65, 57, 54, 48, 32, 65, 57, 55, 70, 44, 32, 65, 67, 48, 48, 32, 68, 55, 65, 51, 44, 32, 70, 57, 48, 48, 32, 70, 65, 70, 70, 44, 32, 70, 69, 51, 48, 32, 70, 69, 54, 70, 44, 32, 70, 70, 48, 49, 32, 70, 70, 54, 48, 44, 32, 70, 70, 69, 48, 32, 70, 70, 69, 54, 44, 32, 49, 54, 70, 69, 48, 32, 49, 56, 65, 70, 70, 44, 32, 49, 66, 48, 48, 48, 32, 49, 66, 50, 70, 70, 44, 32, 49, 70, 51, 48, 48, 32, 49, 70, 51, 70, 65, 44, 32, 49, 70, 52, 48, 48, 32, 49, 70, 54, 52, 70, 44, 32, 49, 70, 54, 56, 48, 32, 49, 70, 54, 70, 70, 44, 32, 49, 70, 57, 48, 48, 32, 49, 70, 57, 70, 70, 44, 32, 50, 48, 48, 48, 48, 32, 50, 70, 70, 70, 68, 44, 32, 51, 48, 48, 48, 48, 32, 51, 70, 70, 70, 68]⟩
set_option maxRecDepth 100000 in
theorem marksB_tbl : (tblS marksB (marksB.size + 1)).1 = marksT := by decide +kernel
set_option maxRecDepth 100000 in
theorem widesB_tbl : (tblS widesB (widesB.size + 1)).1 = widesT := by decide +kernel
theorem within_inside (t : List Int) (c : Int) : withinL (pairsT t (t.length / 2)) c = inside t c := by
 unfold withinL inside pairsT
 rw [List.any_map]
 refine congrArg (fun f => List.any (List.range (t.length / 2)) f) (funext fun k => ?_)
 simp only [Function.comp, List.getD_eq_getElem?_getD]
theorem within_marks (c : Int) : withinL (tableL marksB) c = inside marksT c := by unfold tableL; rw [marksB_tbl]; exact within_inside _ _
theorem within_wides (c : Int) : withinL (tableL widesB) c = inside widesT c := by unfold tableL; rw [widesB_tbl]; exact within_inside _ _
theorem low_out (t : List Int) (h : ((List.range (t.length / 2)).all fun k => decide (768 ≤ (t[2 * k]?).getD 0)) = true) {c : Int} (hc : c < 768) : inside t c = false := by
 unfold inside
 rw [List.any_eq_false]
 intro k hk
 have := List.all_eq_true.1 h k hk
 simp only [decide_eq_true_eq] at this ⊢
 omega
theorem low_marks {c : Int} (hc : c < 768) : inside marksT c = false := low_out _ (by decide +kernel) hc
theorem low_wides {c : Int} (hc : c < 768) : inside widesT c = false := low_out _ (by decide +kernel) hc
theorem marks_len : (tableL marksB).length ≤ 4294967296 := by unfold tableL; rw [pairsT_len, marksB_tbl]; decide
theorem wides_len : (tableL widesB).length ≤ 4294967296 := by unfold tableL; rw [pairsT_len, widesB_tbl]; decide

set_option maxRecDepth 100000 in
set_option maxHeartbeats 2000000 in
theorem RefClass_any (c : Int) (w : World) : Calls Tryz.prog 148 #[.int .i32 c] w fun e w' => e = .returned (.int .i64 (classF c)) ∧ Below w.heap.size w w' := by
 obtain ⟨R, hR⟩ : ∃ R, classF c = R := ⟨_, rfl⟩
 have HR := Lib.hid hR
 rw [hR]
 clear hR
 by_cases h1 : c < 0 ∨ 1114111 < c ∨ (55296 ≤ c ∧ c ≤ 57343)
 ·have hr : R = 5 := by rw [← HR.out]; unfold classF; rw [if_pos h1]
  subst hr
  rcases (by omega : c < 0 ∨ (¬ c < 0 ∧ 1114111 < c) ∨ (¬ c < 0 ∧ ¬ 1114111 < c ∧ 55296 ≤ c ∧ c ≤ 57343)) with h | ⟨h, h'⟩ | ⟨h, h', h2, h3⟩
  all_goals
   clear h1
   go_enter Tryz.func148, Tryz.ntmps148
   go_wp2
   go_ret
   exact ⟨rfl, Below.refl _ _⟩
 ·have a1 : ¬ c < 0 := by omega
  have a2 : ¬ 1114111 < c := by omega
  have hsur : (55296 ≤ c ∧ ¬ c ≤ 57343) ∨ ¬ 55296 ≤ c := by omega
  by_cases h2 : c = 10
  ·have hr : R = 1 := by rw [← HR.out]; unfold classF; rw [if_neg h1, if_pos h2]
   subst hr
   subst h2
   clear HR h1 a1 a2 hsur
   go_enter Tryz.func148, Tryz.ntmps148
   go_wp2
   go_ret
   exact ⟨rfl, Below.refl _ _⟩
  ·have hq : (c == 10) = false := by simpa using h2
   by_cases h3 : c < 32 ∨ (127 ≤ c ∧ c ≤ 159)
   ·have hr : R = 2 := by rw [← HR.out]; unfold classF; rw [if_neg h1, if_neg h2, if_pos h3]
    subst hr
    clear HR h1 hsur
    have b0 : ¬ 55296 ≤ c := by omega
    rcases (by omega : c ≤ 31 ∨ (¬ c ≤ 31 ∧ 127 ≤ c ∧ c ≤ 159)) with h | ⟨b1, h, h'⟩
    all_goals
     clear h3 h2
     go_enter Tryz.func148, Tryz.ntmps148
     go_wp2
     go_ret
     exact ⟨rfl, Below.refl _ _⟩
   ·have b1 : ¬ c ≤ 31 := by omega
    have hr : R = if inside marksT c = true then 3 else if inside widesT c = true then 4 else 0 := by rw [← HR.out]; unfold classF; rw [if_neg h1, if_neg h2, if_neg h3]
    have hcon : (127 ≤ c ∧ ¬ c ≤ 159) ∨ ¬ 127 ≤ c := by omega
    by_cases h7 : c < 768
    ·have hr0 : R = 0 := by rw [hr, low_marks h7, low_wides h7]; rfl
     subst hr0
     have b2 : ¬ 55296 ≤ c := by omega
     clear HR h1 h3 h2 hr hsur
     rcases hcon with ⟨d1, d2⟩ | d1
     all_goals
      go_enter Tryz.func148, Tryz.ntmps148
      go_wp2
      go_ret
      exact ⟨rfl, Below.refl _ _⟩
    ·have HRR := Lib.hid hr
     have d1 : 127 ≤ c := by omega
     have d2 : ¬ c ≤ 159 := by omega
     have HM := Lib.hid (fun w => RefTable_any marksB w (by decide))
     have HW := Lib.hid (fun w => RefTable_any widesB w (by decide))
     clear HR h1 h3 h2 hr hcon
     rcases hsur with ⟨s1, s2⟩ | s1
     all_goals
      go_enter Tryz.func148, Tryz.ntmps148
      go_wp2_with fail
      refine (HM.out w).mono ?_
      rintro e w1 ⟨v1, rfl, hown, hb⟩
      have HO := Lib.hid hown
      have HB := Lib.hid hb
      clear hown hb
      go_wp2_with fail
      refine (RefWithin_any _ v1 (tableL marksB) c w1 HO.out marks_len).mono ?_
      rintro e w2 ⟨rfl, rfl⟩
      rw [within_marks]
      cases hm : inside marksT c with
      | true =>
       have HRes : Hid (R = 3) := by show _ = _; rw [HRR.out, hm]; rfl
       clear HRR hm
       go_wp2
       go_ret
       exact ⟨by rw [HRes.out]; rfl, HB.out⟩
      | false =>
       have HRes : Hid (R = if inside widesT c = true then 4 else 0) := by show _ = _; rw [HRR.out, hm]; rfl
       clear HRR hm
       go_wp2_with fail
       refine (HW.out _).mono ?_
       rintro e w3 ⟨v3, rfl, hown3, hb3⟩
       have HO3 := Lib.hid hown3
       have HB3 := Lib.hid (HB.out.trans (hb3.mono HB.out.size))
       clear hown3 hb3 HB
       go_wp2_with fail
       refine (RefWithin_any _ v3 (tableL widesB) c w3 HO3.out wides_len).mono ?_
       rintro e w4 ⟨rfl, rfl⟩
       rw [within_wides]
       cases hm2 : inside widesT c with
       | true =>
        have HRes2 : Hid (R = 4) := by show _ = _; rw [HRes.out, hm2]; rfl
        clear HRes hm2
        go_wp2
        go_ret
        exact ⟨by rw [HRes2.out]; rfl, HB3.out⟩
       | false =>
        have HRes2 : Hid (R = 0) := by show _ = _; rw [HRes.out, hm2]; rfl
        clear HRes hm2
        go_wp2
        go_ret
        exact ⟨by rw [HRes2.out]; rfl, HB3.out⟩

set_option maxRecDepth 100000 in
theorem RefCells2_any (c : Int) (w : World) : Calls Tryz.prog 149 #[.int .i32 c] w fun e w' => e = .returned (.int .i64 (cellsF c)) ∧ Below w.heap.size w w' := by
 have HC := Lib.hid (RefClass_any c w)
 obtain ⟨R, hR⟩ : ∃ R, classF c = R := ⟨_, rfl⟩
 have he : cellsF c = if R = 1 then 0 else if R = 4 then 2 else if R = 2 ∧ c ≤ 127 then 2 else 1 := by unfold cellsF; rw [hR]
 rw [he]
 rw [hR] at HC
 clear hR he
 rcases (by omega : R = 1 ∨ R = 4 ∨ (R = 2 ∧ c ≤ 127) ∨ (R = 2 ∧ ¬ c ≤ 127) ∨ (¬ R = 1 ∧ ¬ R = 4 ∧ ¬ R = 2)) with rfl | rfl | ⟨rfl, h⟩ | ⟨rfl, h⟩ | ⟨h1, h2, h3⟩
 ·rw [if_pos rfl]
  go_enter Tryz.func149, Tryz.ntmps149
  go_wp2_with fail
  refine HC.out.mono ?_
  rintro e w1 ⟨rfl, hb⟩
  have HB := Lib.hid hb
  clear hb
  go_wp2
  go_ret
  exact ⟨rfl, HB.out⟩
 ·rw [if_neg (by decide), if_pos rfl]
  go_enter Tryz.func149, Tryz.ntmps149
  go_wp2_with fail
  refine HC.out.mono ?_
  rintro e w1 ⟨rfl, hb⟩
  have HB := Lib.hid hb
  clear hb
  go_wp2
  go_ret
  exact ⟨rfl, HB.out⟩
 ·rw [if_neg (by decide), if_neg (by decide), if_pos ⟨rfl, h⟩]
  go_enter Tryz.func149, Tryz.ntmps149
  go_wp2_with fail
  refine HC.out.mono ?_
  rintro e w1 ⟨rfl, hb⟩
  have HB := Lib.hid hb
  clear hb
  go_wp2
  go_ret
  exact ⟨rfl, HB.out⟩
 ·rw [if_neg (by decide), if_neg (by decide), if_neg (fun h' => h h'.2)]
  go_enter Tryz.func149, Tryz.ntmps149
  go_wp2_with fail
  refine HC.out.mono ?_
  rintro e w1 ⟨rfl, hb⟩
  have HB := Lib.hid hb
  clear hb
  go_wp2
  go_ret
  exact ⟨rfl, HB.out⟩
 ·rw [if_neg h1, if_neg h2, if_neg (fun h' => h3 h'.1)]
  have g1 : (R == 1) = false := by simpa using h1
  have g2 : (R == 4) = false := by simpa using h2
  have g3 : (R == 2) = false := by simpa using h3
  go_enter Tryz.func149, Tryz.ntmps149
  go_wp2_with fail
  refine HC.out.mono ?_
  rintro e w1 ⟨rfl, hb⟩
  have HB := Lib.hid hb
  clear hb
  go_wp2
  go_ret
  exact ⟨rfl, HB.out⟩
end Go.Proofs.YtfchglcclgcgfaaGreatDoor.Ut
