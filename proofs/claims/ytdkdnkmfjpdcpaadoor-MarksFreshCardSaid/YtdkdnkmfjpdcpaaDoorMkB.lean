/-
  marks.Moved, bodkinref10.Moved, bodkinlaw10.far: what they compute, over a list of deltas in memory. No condition.
-/
import Derived.Test.YtdkdnkmfjpdcpaaDoorMkA
namespace Go.Proofs.YtdkdnkmfjpdcpaaDoor.Mk
open Go.RowKit Go.Maps
set_option linter.unusedVariables false
set_option linter.unusedSimpArgs false

/-- A delta. -/
structure Dl where
  pos : Int
  out : ByteArray
  inn : ByteArray

/-- The cells of a delta, from p on. -/
def DlAt (w : World) (p : Addr) (d : Dl) : Prop :=
  w.cell? p = some (.int .i64 d.pos) ∧ w.cell? ⟨p.block, p.off + 1, none⟩ = some (.string d.out) ∧ w.cell? ⟨p.block, p.off + 2, none⟩ = some (.string d.inn)
/-- A slice of deltas that is read. -/
def DlsAt (w : World) (A : Option Addr) (ds : List Dl) : Prop :=
  ds = [] ∨ ∃ ad, A = some ad ∧ ad.block < w.heap.size ∧ ∀ i (h : i < ds.length), DlAt w (ad.add (i * 3)) ds[i]

theorem add_block (a : Addr) (n : Nat) : (a.add n).block = a.block := by
  unfold Addr.add; split <;> rfl
theorem DlsAt.below {w w' : World} {A : Option Addr} {ds : List Dl} (h : DlsAt w A ds) (hb : Below w.heap.size w w') : DlsAt w' A ds := by
  rcases h with h | ⟨ad, e, hl, hc⟩
  · exact .inl h
  · refine .inr ⟨ad, e, Nat.lt_of_lt_of_le hl hb.size, fun i hi => ?_⟩
    obtain ⟨h1, h2, h3⟩ := hc i hi
    have hbk := add_block ad (i * 3)
    exact ⟨(hb.cell (by rw [hbk]; exact hl)).trans h1, (hb.cell (by simpa [hbk] using hl)).trans h2, (hb.cell (by simpa [hbk] using hl)).trans h3⟩

/-- Where a place goes by one delta (as the Go text reckons). -/
def one (p : Int) (d : Dl) : Int :=
  if p ≤ d.pos then p else if wrap64 (p - d.pos) < d.out.size then d.pos else wrap64 (p + wrap64 ((d.inn.size : Int) - d.out.size))
def moved (p : Int) (ds : List Dl) : Int := ds.foldl one p

theorem moved_take (p : Int) (ds : List Dl) (k : Nat) (h : k < ds.length) : moved p (ds.take (k + 1)) = one (moved p (ds.take k)) ds[k] := by
  rw [moved, List.take_succ_eq_append_getElem h, List.foldl_append]; rfl

set_option maxRecDepth 100000 in
set_option maxHeartbeats 1000000 in
theorem Moved_any (p : Int) (A : Option Addr) (ds : List Dl) (c : Nat) (w : World) (hl : ds.length ≤ 9223372036854775807) (hd : DlsAt w A ds) :
    Calls Tryd.prog 15 #[.int .i64 p, .slice A ds.length c] w fun e w' => e = .returned (.int .i64 (moved p ds)) ∧ Below w.heap.size w w' := by
  have HD := Lib.hid hd
  clear hd
  go_enter Tryd.func15, Tryd.ntmps15
  go_wp2
  go_loopw [0, 9] (fun v i wr => ∃ k : Nat, k ≤ ds.length ∧ i = .int .i64 k ∧ v = .int .i64 (moved p (ds.take k)) ∧ Below w.heap.size w wr) (fun _ i _ => ds.length - (intOf i).toNat)
  case atStart => exact ⟨0, Nat.zero_le _, rfl, rfl, Below.refl _ _⟩
  case round =>
    obtain ⟨k, hk, rfl, rfl, hb⟩ := hrel
    by_cases hlt : k < ds.length
    · obtain h | ⟨ad, rfl, hA, hc⟩ := HD.out.below hb
      · subst h; simp at hlt
      obtain ⟨c0, c1, c2⟩ := hc k hlt
      have HT : Hid _ := moved_take p ds k hlt
      have HB := Lib.hid hb
      clear hb hc
      generalize moved p (ds.take k) = q at *
      generalize hdk : ds[k] = d at *
      obtain ⟨dp, dout, dinn⟩ := d
      clear hdk
      go_wp2
      all_goals
        go_roundw
        case rel =>
          refine ⟨k + 1, by omega, by go_num, congrArg (Value.int .i64) ?_, HB.out.alloc HB.out.size _⟩
          rw [HT.out]
          unfold one
          dsimp only
          first
            | rw [if_pos (by assumption)]
            | rw [if_neg (by omega), if_pos (by assumption)]
            | rw [if_neg (by omega), if_neg (by omega)]
        case measure => simp [intOf]; omega
    · have e : ds.take k = ds := List.take_of_length_le (by omega)
      rw [e]
      go_wp2
      go_ret
      exact ⟨rfl, hb⟩

def oneR (p : Int) (d : Dl) : Int :=
  if p ≤ d.pos then p else if p < wrap64 (d.pos + d.out.size) then d.pos else wrap64 (wrap64 (p + d.inn.size) - d.out.size)
def movedR (p : Int) (ds : List Dl) : Int := ds.foldl oneR p
theorem movedR_take (p : Int) (ds : List Dl) (k : Nat) (h : k < ds.length) : movedR p (ds.take (k + 1)) = oneR (movedR p (ds.take k)) ds[k] := by
  rw [movedR, List.take_succ_eq_append_getElem h, List.foldl_append]; rfl

theorem ret_i64 {a b : Int} (h : a = b) : Ending.returned (.int .i64 a) = .returned (.int .i64 b) := by rw [h]
theorem ret_bool {a b : Bool} (h : a = b) : Ending.returned (.bool a) = .returned (.bool b) := by rw [h]

set_option maxRecDepth 100000 in
theorem one_any (p : Int) (d : Dl) (w : World) :
    Calls Tryd.prog 39 #[.int .i64 p, .agg #[.int .i64 d.pos, .string d.out, .string d.inn]] w fun e w' => e = .returned (.int .i64 (oneR p d)) ∧ Below w.heap.size w w' := by
  obtain ⟨r, hr⟩ : ∃ r, oneR p d = r := ⟨_, rfl⟩
  have HR := Lib.hid hr
  rw [hr]
  clear hr
  go_enter Tryd.func39, Tryd.ntmps39
  go_wp2
  all_goals
    go_ret
    refine ⟨?_, (Below.refl _ _).alloc (Nat.le_refl _) _⟩
    rw [← HR.out]
    refine ret_i64 (Eq.symm ?_)
    unfold oneR
    first
      | rw [if_pos (by assumption)]
      | rw [if_neg (by omega), if_pos (by assumption)]
      | rw [if_neg (by omega), if_neg (by omega)]

set_option maxRecDepth 100000 in
set_option maxHeartbeats 1000000 in
theorem MovedR_any (p : Int) (A : Option Addr) (ds : List Dl) (c : Nat) (w : World) (hl : ds.length ≤ 9223372036854775807) (hd : DlsAt w A ds) :
    Calls Tryd.prog 17 #[.int .i64 p, .slice A ds.length c] w fun e w' => e = .returned (.int .i64 (movedR p ds)) ∧ Below w.heap.size w w' := by
  have HD := Lib.hid hd
  clear hd
  go_enter Tryd.func17, Tryd.ntmps17
  go_wp2
  go_loopw [0, 5] (fun v i wr => ∃ k : Nat, k ≤ ds.length ∧ i = .int .i64 k ∧ v = .int .i64 (movedR p (ds.take k)) ∧ Below w.heap.size w wr) (fun _ i _ => ds.length - (intOf i).toNat)
  case atStart => exact ⟨0, Nat.zero_le _, rfl, rfl, Below.refl _ _⟩
  case round =>
    obtain ⟨k, hk, rfl, rfl, hb⟩ := hrel
    by_cases hlt : k < ds.length
    · obtain h | ⟨ad, rfl, hA, hc⟩ := HD.out.below hb
      · subst h; simp at hlt
      obtain ⟨c0, c1, c2⟩ := hc k hlt
      have HT : Hid _ := movedR_take p ds k hlt
      have HB := Lib.hid hb
      clear hb hc
      generalize movedR p (ds.take k) = q at *
      generalize hdk : ds[k] = d at *
      clear hdk
      go_wp2_with (go_at_call 39; refine (one_any _ d _).mono ?_; rintro e w' ⟨rfl, hb1⟩)
      go_roundw
      case rel => exact ⟨k + 1, by omega, by go_num, congrArg (Value.int .i64) HT.out.symm, HB.out.trans (hb1.mono HB.out.size)⟩
      case measure => simp [intOf]; omega
    · have e : ds.take k = ds := List.take_of_length_le (by omega)
      rw [e]
      go_wp2
      go_ret
      exact ⟨rfl, hb⟩

theorem GoodR_any (n : Int) (w : World) : Calls Tryd.prog 14 #[.int .u8 n] w fun e w' => e = .returned (.bool (good n)) ∧ w' = w := by
  go_enter Tryd.func14, Tryd.ntmps14
  go_wp2
  all_goals
    go_ret
    refine ⟨ret_bool ?_, rfl⟩
    rw [Bool.eq_iff_iff]
    simp [good]
    try omega

/-- The deltas, and the place, that the law lets by. -/
def farF (p : Int) (ds : List Dl) : Bool := decide (p < 0 ∨ 1099511627776 < p) || ds.any fun d => decide (d.pos < 0 ∨ 1099511627776 < d.pos)

set_option maxRecDepth 100000 in
set_option maxHeartbeats 1000000 in
theorem far_any (p : Int) (A : Option Addr) (ds : List Dl) (c : Nat) (w : World) (hl : ds.length ≤ 9223372036854775807) (hd : DlsAt w A ds) :
    Calls Tryd.prog 16 #[.int .i64 p, .slice A ds.length c] w fun e w' => e = .returned (.bool (farF p ds)) ∧ Below w.heap.size w w' := by
  have HD := Lib.hid hd
  clear hd
  by_cases hp : p < 0 ∨ 1099511627776 < p
  · have hr : farF p ds = true := by simp [farF, hp]
    rw [hr]
    rcases hp with hp | hp
    · have hq : ¬ 1099511627776 < p := by omega
      go_enter Tryd.func16, Tryd.ntmps16
      go_wp2
      go_ret
      exact ⟨rfl, Below.refl _ _⟩
    · have hq : ¬ p < 0 := by omega
      go_enter Tryd.func16, Tryd.ntmps16
      go_wp2
      go_ret
      exact ⟨rfl, Below.refl _ _⟩
  · have hp1 : 0 ≤ p := by omega
    have hp2 : p ≤ 1099511627776 := by omega
    have HF : Hid (farF p ds = ds.any fun d => decide (d.pos < 0 ∨ 1099511627776 < d.pos)) := by
      unfold Hid farF; rw [decide_eq_false hp]; rfl
    obtain ⟨R, hR⟩ : ∃ R, farF p ds = R := ⟨_, rfl⟩
    rw [hR]
    have HR := Lib.hid hR
    clear hp hR
    go_enter Tryd.func16, Tryd.ntmps16
    go_wp2
    go_loopw [15] (fun i wr => ∃ k : Nat, k ≤ ds.length ∧ i = .int .i64 k ∧ Hid ((ds.take k).any (fun d => decide (d.pos < 0 ∨ 1099511627776 < d.pos)) = false) ∧ Below w.heap.size w wr) (fun i _ => ds.length - (intOf i).toNat)
    case atStart => exact ⟨0, Nat.zero_le _, rfl, rfl, Below.refl _ _⟩
    case round =>
      obtain ⟨k, hk, rfl, HA, hb⟩ := hrel
      by_cases hlt : k < ds.length
      · obtain h | ⟨ad, rfl, hA, hc⟩ := HD.out.below hb
        · subst h; simp at hlt
        obtain ⟨c0, c1, c2⟩ := hc k hlt
        have HB := Lib.hid hb
        clear hb hc
        by_cases hd0 : ds[k].pos < 0 ∨ 1099511627776 < ds[k].pos
        · have hr : (ds.any fun d => decide (d.pos < 0 ∨ 1099511627776 < d.pos)) = true := List.any_eq_true.2 ⟨ds[k], List.getElem_mem hlt, decide_eq_true hd0⟩
          have HX := Lib.hid hr
          clear hr HA
          generalize ds[k] = d at *
          rcases hd0 with h | h
          · have hq : ¬ 1099511627776 < d.pos := by omega
            go_wp2
            go_ret
            exact ⟨ret_bool (by rw [← HR.out, HF.out, HX.out]), HB.out.alloc HB.out.size _⟩
          · have hq : ¬ d.pos < 0 := by omega
            go_wp2
            go_ret
            exact ⟨ret_bool (by rw [← HR.out, HF.out, HX.out]), HB.out.alloc HB.out.size _⟩
        · have HN : Hid ((ds.take (k + 1)).any (fun d => decide (d.pos < 0 ∨ 1099511627776 < d.pos)) = false) := by
            show _ = _
            rw [List.take_succ_eq_append_getElem hlt, List.any_append, HA.out]
            simp only [List.any_cons, List.any_nil, Bool.or_false, decide_eq_false hd0]
          have h1 : ¬ ds[k].pos < 0 := by omega
          have h2 : ¬ 1099511627776 < ds[k].pos := by omega
          clear hd0 HA
          generalize ds[k] = d at *
          go_wp2
          go_roundw
          case rel => exact ⟨k + 1, by omega, by go_num, HN, HB.out.alloc HB.out.size _⟩
          case measure => simp [intOf]; omega
      · have e : ds.take k = ds := List.take_of_length_le (by omega)
        rw [e] at HA
        go_wp2
        go_ret
        exact ⟨ret_bool (by rw [← HR.out, HF.out, HA.out]), hb⟩
end Go.Proofs.YtdkdnkmfjpdcpaaDoor.Mk
