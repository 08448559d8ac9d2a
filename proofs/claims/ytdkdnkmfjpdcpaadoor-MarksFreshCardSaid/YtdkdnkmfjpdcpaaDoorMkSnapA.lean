/-
  The law's own Snapper (bodkinlaw10.Snaps): its form in memory, and its method Snap. No condition.
-/
import Derived.Test.YtdkdnkmfjpdcpaaDoorMkRef4
namespace Go.Proofs.YtdkdnkmfjpdcpaaDoor.Mk
open Go.RowKit Go.Maps Go.Proofs.YtdkdnkmfjpdcpaaDoor.Reg
set_option linter.unusedVariables false
set_option linter.unusedSimpArgs false

/-- A slice of numbers that is read. -/
def IntsAt (w : World) (A : Option Addr) (ts : List Int) : Prop := ts = [] ∨ ∃ ad, A = some ad ∧ ad.block < w.heap.size ∧ ∀ i (h : i < ts.length), w.cell? (ad.add i) = some (.int .i64 ts[i])
theorem IntsAt.kept {w w' : World} {A : Option Addr} {ts : List Int} {S : Nat → Prop} (h : IntsAt w A ts) (hc : Chg S w w') (hS : ts = [] ∨ ∀ ad, A = some ad → ad.block < w.heap.size → ¬ S ad.block) : IntsAt w' A ts := by
  rcases h with h | ⟨ad, rfl, hl, hx⟩
  · exact .inl h
  · rcases hS with hS | hS
    · exact .inl hS
    exact .inr ⟨ad, rfl, Nat.lt_of_lt_of_le hl hc.size, fun i hi => (hc.cell (by rw [add_block]; exact hl) (by rw [add_block]; exact hS ad rfl hl)).trans (hx i hi)⟩
theorem IntsAt.below {w w' : World} {A : Option Addr} {ts : List Int} (h : IntsAt w A ts) (hb : Below w.heap.size w w') : IntsAt w' A ts :=
  h.kept (Chg.of_below (S := fun _ => False) hb) (.inr fun _ _ _ f => f)

def ints (l : List Int) : List Value := l.map fun x => .int .i64 x

/-- Block t of w is a Snaps that answers 'to' and was asked 'asked'. -/
structure IsSnaps (w : World) (t : Nat) (A : Option Addr) (ts : List Int) (c : Nat) (v : Value) (asked : List Int) : Prop where
  blk : w.heap[t]? = some (.cells #[.slice A ts.length c, v] 64 (0, 0))
  to_ : IntsAt w A ts
  before : ts = [] ∨ ∀ ad, A = some ad → ad.block < t
  row : w.ownsRow (t + 1) 3 1 v asked.length (ints asked)
def footT (t : Nat) (v : Value) (k : Nat) : Prop := k = t ∨ v.ownBlock = some k

theorem IsSnaps.lt {w : World} {t : Nat} {A : Option Addr} {ts : List Int} {c : Nat} {v : Value} {asked : List Int} (h : IsSnaps w t A ts c v asked) : t < w.heap.size := (Array.getElem?_eq_some_iff.1 h.blk).1
theorem IsSnaps.kept {w w' : World} {t : Nat} {A : Option Addr} {ts : List Int} {c : Nat} {v : Value} {asked : List Int} {S : Nat → Prop} (h : IsSnaps w t A ts c v asked) (hc : Chg S w w') (hS : ∀ k, footT t v k → ¬ S k) (hA : ts = [] ∨ ∀ ad, A = some ad → ¬ S ad.block) : IsSnaps w' t A ts c v asked :=
  ⟨(hc.block t h.lt (hS t (.inl rfl))).trans h.blk, h.to_.kept hc (by
    rcases hA with hb | hb
    · exact .inl hb
    · exact .inr fun ad e _ => hb ad e), h.before, row_chg h.row hc (fun k hk => hS k (.inr hk))⟩
theorem IsSnaps.below {w w' : World} {t : Nat} {A : Option Addr} {ts : List Int} {c : Nat} {v : Value} {asked : List Int} (h : IsSnaps w t A ts c v asked) (hb : Below w.heap.size w w') : IsSnaps w' t A ts c v asked :=
  h.kept (Chg.of_below (S := fun _ => False) hb) (fun _ _ f => f) (.inr fun _ _ f => f)
/-- A set and what the Snaps answers share no block. -/
theorem sepA {w : World} {b : Nat} {ro : Option Nat} {l : ML} {A : Option Addr} {ts : List Int} (h : IsSet w b ro l) (k : IntsAt w A ts) : ts = [] ∨ ∀ ad, A = some ad → ¬ foot b ro ad.block := by
  rcases k with k | ⟨ad, rfl, hl, hx⟩
  · exact .inl k
  cases ts with
  | nil => exact .inl rfl
  | cons x r =>
    refine .inr fun a e hf => ?_
    cases e
    have h0 := hx 0 (by simp)
    have hb : (ad.add 0).block = ad.block := add_block _ _
    rcases hf with hf | hf
    · have h1 := h.blk
      rw [← hf] at h1
      simp only [World.cell?, hb, h1] at h0
      split at h0
      · rename_i hs
        simp at h0
      · rename_i hs
        by_cases ho : (ad.add 0).off = 0
        · rw [ho] at h0; simp at h0
        · rw [Array.getElem?_eq_none (by simp; omega)] at h0; cases h0
    · subst hf
      obtain ⟨es, clock, hm, _⟩ := h.map
      simp [World.cell?, hb, hm] at h0
theorem IsSnaps.cells {w : World} {t : Nat} {A : Option Addr} {ts : List Int} {c : Nat} {v : Value} {asked : List Int} (h : IsSnaps w t A ts c v asked) :
    w.cell? ⟨t, 0, none⟩ = some (.slice A ts.length c) ∧ w.cell? ⟨t, 1, none⟩ = some v ∧ w.frozen? ⟨t, 1, none⟩ = false := by
  have hb := h.blk
  refine ⟨?_, ?_, ?_⟩ <;> simp [World.cell?, World.frozen?, hb]

/-- The i-th answer. -/
def ans (ts : List Int) (i : Nat) : Int := (ts[i]?).getD (-1)

theorem infoInt : (Tryd.prog.info? 3).map (fun i => (i.zero, i.size, i.bytes)) = some (some (.int .i64 0), 1, 8) := by kernel_rfl

theorem snaps_grown {w w3 : World} {t : Nat} {A : Option Addr} {ts : List Int} {c : Nat} {v : Value} {asked : List Int} {o : Obj} (hs : IsSnaps w t A ts c v asked) (hg : (w.alloc o).grownBy w3 v.ownBlock) :
    w3.cell? ⟨t, 0, none⟩ = some (.slice A ts.length c) ∧ w3.cell? ⟨t, 1, none⟩ = some v ∧ w3.frozen? ⟨t, 1, none⟩ = false := by
  have hlt := hs.lt
  have hn : v.ownBlock ≠ some t := fun h => by have := (hs.row.lt t h).1; omega
  have hb : w3.heap[t]? = w.heap[t]? := ((Chg.of_grown hg).block t (by simp; omega) (fun h => hn h.symm)).trans (Below.heap_alloc _ _ _ hlt)
  have hb2 := hb.trans hs.blk
  refine ⟨?_, ?_, ?_⟩ <;> simp [World.cell?, World.frozen?, hb2]

theorem chg_drewN {S : Nat → Prop} {w w' : World} (h : Chg S w w') (n : Nat) : Chg S w (w'.drewN n) := ⟨h.os, h.tape, h.output, h.size, h.block⟩
theorem IsSnaps.drewN {w : World} {t : Nat} {A : Option Addr} {ts : List Int} {c : Nat} {v : Value} {asked : List Int} (h : IsSnaps w t A ts c v asked) (n : Nat) : IsSnaps (w.drewN n) t A ts c v asked := ⟨h.blk, h.to_, h.before, h.row⟩

theorem snaps_asked {w w3 : World} {t : Nat} {A : Option Addr} {ts : List Int} {c : Nat} {v v2 : Value} {asked : List Int} {o : Obj} {p : Int} (hs : IsSnaps w t A ts c v asked) (ho : w3.ownsRow (t + 1) 3 1 v2 (asked.length + 1) (ints asked ++ [.int .i64 p])) (hg : (w.alloc o).grownBy w3 v.ownBlock) :
    IsSnaps (w3.setCell ⟨t, 1, none⟩ v2) t A ts c v2 (asked ++ [p]) ∧ Chg (footT t v) w (w3.setCell ⟨t, 1, none⟩ v2) := by
  have hlt := hs.lt
  have hn : v.ownBlock ≠ some t := fun h => by have := (hs.row.lt t h).1; omega
  have hc : Chg (fun k => some k = v.ownBlock) w w3 := (Chg.alloc (S := fun _ => False) w o |>.mono (fun _ f => f.elim)).trans (Chg.of_grown hg) (fun x _ h => h)
  have hb2 := (hc.block t hlt (fun h => hn h.symm)).trans hs.blk
  have hc2 : Chg (footT t v) w (w3.setCell ⟨t, 1, none⟩ v2) := (hc.mono (T := footT t v) (fun k hk => .inr hk.symm)).trans (Chg.set w3 ⟨t, 1, none⟩ v2) (fun x _ h => .inl h)
  refine ⟨⟨?_, hs.to_.kept hc2 ?_, hs.before, ?_⟩, hc2⟩
  · simp only [World.setCell]
    rw [Array.getElem?_modify]
    simp [hb2]
  · rcases hs.before with h | h
    · exact .inl h
    · refine .inr fun ad e _ hf => ?_
      have := h ad e
      rcases hf with hf | hf
      · omega
      · have := (hs.row.lt _ hf).1; omega
  · have := row_chg ho (Chg.set w3 ⟨t, 1, none⟩ v2) (fun k hk e => by have := (ho.lt k hk).1; simp only at e; omega)
    simpa [ints] using this

set_option maxRecDepth 100000 in
set_option maxHeartbeats 1000000 in
theorem Snaps_any (t : Nat) (A : Option Addr) (ts : List Int) (c : Nat) (v : Value) (asked : List Int) (p : Int) (w : World) (hs : IsSnaps w t A ts c v asked) (hl : asked.length ≤ 1000) (hto : ts.length ≤ 9223372036854775807) :
    Calls Tryd.prog 108 #[.pointer (some ⟨t, 0, none⟩), .int .i64 p] w fun e w' => e = .returned (.int .i64 (ans ts asked.length)) ∧ ∃ v', IsSnaps w' t A ts c v' (asked ++ [p]) ∧ Chg (footT t v) w w' := by
  obtain ⟨c0, c1, f1⟩ := hs.cells
  have HS := Lib.hid hs
  have hlt := hs.lt
  obtain ⟨A1, k1, rfl⟩ := row_form hs.row
  have HR := Lib.hid hs.row
  clear hs
  obtain ⟨i0, hi, hz0, hz1, hz2⟩ := info_parts infoInt
  obtain ⟨r, hr⟩ : ∃ r, ans ts asked.length = r := ⟨_, rfl⟩
  have HAn := Lib.hid hr
  rw [hr]
  clear hr
  go_enter Tryd.func108, Tryd.ntmps108
  by_cases hle : ts.length ≤ asked.length
  · have hr1 : r = -1 := by rw [← HAn.out]; unfold ans; rw [List.getElem?_eq_none hle]; rfl
    subst hr1
    have hgt : ((asked.length : Int) + 1 > (ts.length : Int)) := by omega
    go_wp2_with (at_builtin; refine wpList_append_own _ rfl _ _ 62 rfl (t + 1) 3 i0 (.int .i64 0) 1 8 Tryd.underlying62 hi hz0 hz1 hz2 rfl (by decide) (.slice A1 asked.length k1) asked.length (ints asked) rfl (HR.out.alloc _) ⟨w.heap.size, 0, none⟩ 1 1 [.int .i64 p] rfl rfl (by intro j u hj; match j, hj with | 0, hj => (simp at hj; subst hj; simp [Addr.add])) (by intro u hu; simp at hu; subst hu; rfl) (by unfold maxLen; omega) (by omega) (by simp; omega) ?_; intro v2 w3 hown3 hg3 hn3; obtain ⟨A2, k2, rfl⟩ := row_form hown3; obtain ⟨g0, g1, gf⟩ := snaps_grown HS.out hg3; have HO3 := Lib.hid hown3; have HG3 := Lib.hid hg3; clear hown3 hg3 hn3)
    have HF : Hid _ := snaps_asked HS.out HO3.out HG3.out
    go_quiet (fail)
    go_wp2
    go_ret
    exact ⟨rfl, _, HF.out.1.drewN nq, chg_drewN HF.out.2 nq⟩
  · have hlt2 : asked.length < ts.length := by omega
    have hr1 : r = ts[asked.length] := by rw [← HAn.out]; unfold ans; rw [List.getElem?_eq_getElem hlt2]; rfl
    have hgt : ¬ ((asked.length : Int) + 1 > (ts.length : Int)) := by omega
    go_wp2_with (at_builtin; refine wpList_append_own _ rfl _ _ 62 rfl (t + 1) 3 i0 (.int .i64 0) 1 8 Tryd.underlying62 hi hz0 hz1 hz2 rfl (by decide) (.slice A1 asked.length k1) asked.length (ints asked) rfl (HR.out.alloc _) ⟨w.heap.size, 0, none⟩ 1 1 [.int .i64 p] rfl rfl (by intro j u hj; match j, hj with | 0, hj => (simp at hj; subst hj; simp [Addr.add])) (by intro u hu; simp at hu; subst hu; rfl) (by unfold maxLen; omega) (by omega) (by simp; omega) ?_; intro v2 w3 hown3 hg3 hn3; obtain ⟨A2, k2, rfl⟩ := row_form hown3; obtain ⟨g0, g1, gf⟩ := snaps_grown HS.out hg3; have HO3 := Lib.hid hown3; have HG3 := Lib.hid hg3; clear hown3 hg3 hn3)
    have HF : Hid _ := snaps_asked HS.out HO3.out HG3.out
    obtain ⟨hF, -⟩ := HF.out
    obtain ⟨q0, q1, -⟩ := hF.cells
    obtain ⟨ad, rfl, hal, hx⟩ : ∃ ad, A = some ad ∧ ad.block < w3.heap.size ∧ ∀ i (h : i < ts.length), (w3.setCell ⟨t, 1, none⟩ (.slice A2 (asked.length + 1) k2)).cell? (ad.add i) = some (.int .i64 ts[i]) := by
      rcases hF.to_ with h | ⟨ad, h1, h2, h3⟩
      · subst h; simp at hlt2
      · exact ⟨ad, h1, by simpa using h2, h3⟩
    have q2 := hx asked.length hlt2
    rw [← hr1] at q2
    have hsub : IntKind.i64.wrap ((asked.length : Int) + 1 - 1) = asked.length := by rw [IntWalk.i64_in _ (by omega)]; omega
    have hi0 : (0 : Int) ≤ (asked.length : Int) := by omega
    have hi1 : (asked.length : Int) < (ts.length : Int) := by omega
    clear hF hx hr1
    generalize (w3.setCell ⟨t, 1, none⟩ (.slice A2 (asked.length + 1) k2)) = W4 at *
    go_quiet (fail)
    go_wp2
    go_quiet (fail)
    go_wp2
    go_ret
    exact ⟨rfl, _, (HF.out.1.drewN _).drewN _, chg_drewN (chg_drewN HF.out.2 _) _⟩
end Go.Proofs.YtdkdnkmfjpdcpaaDoor.Mk
