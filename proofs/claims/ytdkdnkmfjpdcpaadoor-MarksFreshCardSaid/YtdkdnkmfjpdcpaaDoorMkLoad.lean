/-
  (*Set).Put, Clear, Load, New: whole contracts. No condition.
-/
import Derived.Test.YtdkdnkmfjpdcpaaDoorMkAll
namespace Go.Proofs.YtdkdnkmfjpdcpaaDoor.Mk
open Go.RowKit Go.Maps
set_option linter.unusedVariables false
set_option linter.unusedSimpArgs false

theorem Next.refl (w : World) (ro : Option Nat) : Next w ro ro := .inl rfl
theorem Next.trans {w w1 : World} {a b c : Option Nat} (h : Next w a b) (k : Next w1 b c) (hs : w.heap.size ≤ w1.heap.size) : Next w a c := by
  rcases k with rfl | ⟨r, rfl, hr⟩
  · exact h
  · exact .inr ⟨r, rfl, Nat.le_trans hs hr⟩
theorem Next.foot {w : World} {a c : Option Nat} (h : Next w a c) (b x : Nat) (hx : x < w.heap.size) (hf : foot b c x) : foot b a x := by
  rcases hf with rfl | hf
  · exact .inl rfl
  · rcases h with rfl | ⟨r, rfl, hr⟩
    · exact .inr hf
    · cases hf; omega

def putE (n x : Int) : Int := if good n = true then (if x < 0 then 1 else 0) else 13
def putL (l : ML) (n x : Int) : ML := if good n = true ∧ 0 ≤ x then ins l n x else l

theorem Put_bad (p : Option Addr) (n x : Int) (w : World) (hg : good n = false) :
    Calls Tryd.prog 28 #[.pointer p, .int .u8 n, .int .i64 x] w fun e w' => e = .returned (.int .i64 13) ∧ w' = w := by
  have HG := Lib.hid hg
  clear hg
  go_enter Tryd.func28, Tryd.ntmps28
  go_wp2_with (go_at_call 13; refine (Good_any _ _).mono ?_; rintro e w' ⟨rfl, rfl⟩; rw [HG.out])
  go_ret
  exact ⟨rfl, rfl⟩
theorem Put_neg (p : Option Addr) (n x : Int) (w : World) (hg : good n = true) (hx : x < 0) :
    Calls Tryd.prog 28 #[.pointer p, .int .u8 n, .int .i64 x] w fun e w' => e = .returned (.int .i64 1) ∧ w' = w := by
  have HG := Lib.hid hg
  clear hg
  go_enter Tryd.func28, Tryd.ntmps28
  go_wp2_with (go_at_call 13; refine (Good_any _ _).mono ?_; rintro e w' ⟨rfl, rfl⟩; rw [HG.out])
  go_ret
  exact ⟨rfl, rfl⟩

theorem Put_any (b : Nat) (ro : Option Nat) (l : ML) (n x : Int) (w : World) (hwn : (Lit.int .u8 n).wf = true) (hwx : (Lit.int .i64 x).wf = true) (hs : IsSet w b ro l) :
    Calls Tryd.prog 28 #[.pointer (some ⟨b, 0, none⟩), .int .u8 n, .int .i64 x] w fun e w' =>
      e = .returned (.int .i64 (putE n x)) ∧ ∃ ro', IsSet w' b ro' (putL l n x) ∧ Next w ro ro' ∧ Chg (foot b ro) w w' := by
  by_cases hg : good n = true
  · by_cases hx : x < 0
    · have e1 : putE n x = 1 := by simp [putE, hg, hx]
      have e2 : putL l n x = l := by unfold putL; rw [if_neg]; omega
      rw [e1, e2]
      refine (Put_neg _ n x w hg hx).mono ?_
      rintro e w' ⟨rfl, rfl⟩
      exact ⟨rfl, ro, hs, .inl rfl, Chg.refl _ _⟩
    · have e1 : putE n x = 0 := by simp [putE, hg, hx]
      have e2 : putL l n x = ins l n x := by unfold putL; rw [if_pos]; exact ⟨hg, by omega⟩
      rw [e1, e2]
      cases ro with
      | none =>
        obtain rfl : l = [] := hs.map
        refine (Put_none b n x w hg (by omega) hwn hwx hs).mono ?_
        rintro e w' ⟨rfl, h, hc⟩
        exact ⟨rfl, _, h, .inr ⟨_, rfl, Nat.le_refl _⟩, hc.mono (fun k hk => .inl hk)⟩
      | some r =>
        refine (Put_some b n x r l w hg (by omega) hwn hwx hs).mono ?_
        rintro e w' ⟨rfl, h, hc⟩
        exact ⟨rfl, _, h, .inl rfl, hc.mono (fun k hk => .inr (by rw [hk]))⟩
  · have hg' : good n = false := by simpa using hg
    have e1 : putE n x = 13 := by simp [putE, hg']
    have e2 : putL l n x = l := by unfold putL; rw [if_neg]; simp [hg']
    rw [e1, e2]
    refine (Put_bad _ n x w hg').mono ?_
    rintro e w' ⟨rfl, rfl⟩
    exact ⟨rfl, ro, hs, .inl rfl, Chg.refl _ _⟩

theorem clear_some {w : World} {r : Nat} {l : ML} (h : MapOf w r l) (ty : TypeId) : ∃ w', (Builtin.clear_ #[68] ty #[.map (some r)]).run Tryd.prog w = .ok (.tuple #[]) w' ∧ MapOf w' r [] ∧ Chg (fun k => k = r) w w' := by
  obtain ⟨es, clock, hb, F, hs, hD⟩ := h
  refine ⟨Go.ChangeMaps.setBlock w r (.map #[] clock), ?_, ?_, ?_⟩
  · simp [Builtin.clear_, run_underlying Tryd.underlying68, Go.MapKept.run_getObj_map hb, Go.MapKept.run_setObj_map _ hb, Result.andThen]; rfl
  · exact ⟨#[], clock, Go.ChangeMaps.heap_setBlock_same hb _, ⟨by simp, Go.MapKept.stamped_empty clock, by simp⟩, Nat.le_refl _, rfl⟩
  · refine ⟨rfl, rfl, rfl, by simp [Go.ChangeMaps.setBlock], fun k hk hn => Go.ChangeMaps.heap_setBlock_other hb _ hn⟩

theorem clear_nil (w : World) (ty : TypeId) : (Builtin.clear_ #[68] ty #[.map none]).run Tryd.prog w = .ok (.tuple #[]) w := by
  simp [Builtin.clear_, run_underlying Tryd.underlying68]

theorem Clear_any (b : Nat) (ro : Option Nat) (l : ML) (w : World) (hs : IsSet w b ro l) :
    Calls Tryd.prog 36 #[.pointer (some ⟨b, 0, none⟩)] w fun e w' => e = .returned (.tuple #[]) ∧ IsSet w' b ro [] ∧ Chg (foot b ro) w w' := by
  have c0 := hs.cell
  cases ro with
  | none =>
    obtain rfl : l = [] := hs.map
    have hcl := clear_nil
    have HS := Lib.hid hs
    clear hs
    go_enter Tryd.func36, Tryd.ntmps36
    go_wp2
    go_end0
    exact ⟨rfl, HS.out, Chg.refl _ _⟩
  | some r =>
    obtain ⟨w1, hrun, hm1, hc1⟩ := clear_some (l := l) hs.map 0
    have hne : b ≠ r := by
      rintro rfl
      obtain ⟨es, clock, hb, _⟩ : MapOf w b l := hs.map
      have := hs.blk; rw [hb] at this; cases this
    have HS : Hid (IsSet w1 b (some r) []) := ⟨(hc1.block b hs.lt hne).trans hs.blk, Ok.nil, hm1⟩
    have HC : Hid (Chg (foot b (some r)) w w1) := hc1.mono (fun k hk => .inr (by rw [hk]))
    clear hm1 hc1 hs
    go_enter Tryd.func36, Tryd.ntmps36
    go_wp2
    go_end0
    exact ⟨rfl, HS.out, HC.out⟩

/-- The cells of a mark, from p on. -/
def MkAt (w : World) (p : Addr) (x : Int × Int) : Prop := w.cell? p = some (.int .u8 x.1) ∧ w.cell? ⟨p.block, p.off + 1, none⟩ = some (.int .i64 x.2)
/-- A slice of marks that is read. -/
def MksAt (w : World) (A : Option Addr) (ms : ML) : Prop := ms = [] ∨ ∃ ad, A = some ad ∧ ad.block < w.heap.size ∧ ∀ i (h : i < ms.length), MkAt w (ad.add (i * 2)) ms[i]

theorem MksAt.kept {w w' : World} {A : Option Addr} {ms : ML} {S : Nat → Prop} (h : MksAt w A ms) (hc : Chg S w w') (hS : ms = [] ∨ ∀ ad, A = some ad → ad.block < w.heap.size → ¬ S ad.block) : MksAt w' A ms := by
  rcases h with h | ⟨ad, rfl, hl, hx⟩
  · exact .inl h
  · rcases hS with hS | hS
    · exact .inl hS
    refine .inr ⟨ad, rfl, Nat.lt_of_lt_of_le hl hc.size, fun i hi => ?_⟩
    obtain ⟨h1, h2⟩ := hx i hi
    have hbk := add_block ad (i * 2)
    exact ⟨(hc.cell (by rw [hbk]; exact hl) (by rw [hbk]; exact hS ad rfl hl)).trans h1, (hc.cell (by simpa [hbk] using hl) (by simpa [hbk] using hS ad rfl hl)).trans h2⟩
theorem MksAt.below {w w' : World} {A : Option Addr} {ms : ML} (h : MksAt w A ms) (hb : Below w.heap.size w w') : MksAt w' A ms :=
  h.kept (Chg.of_below (S := fun _ => False) hb) (.inr fun _ _ _ f => f)

def loadL (ms : ML) : ML := ms.foldl (fun l x => putL l x.1 x.2) []
theorem loadL_take (ms : ML) (k : Nat) (h : k < ms.length) : loadL (ms.take (k + 1)) = putL (loadL (ms.take k)) ms[k].1 ms[k].2 := by
  unfold loadL; rw [List.take_succ_eq_append_getElem h, List.foldl_append]; rfl

/-- Marks whose names and places fit their kinds. -/
def Fits (ms : ML) : Prop := ∀ x ∈ ms, (Lit.int .u8 x.1).wf = true ∧ (Lit.int .i64 x.2).wf = true

set_option maxRecDepth 100000 in
set_option maxHeartbeats 1000000 in
theorem Load_any (b : Nat) (ro : Option Nat) (l : ML) (A : Option Addr) (ms : ML) (c : Nat) (w : World) (hs : IsSet w b ro l) (hm : MksAt w A ms) (hA : ms = [] ∨ ∀ ad, A = some ad → ad.block < w.heap.size → ¬ foot b ro ad.block) (hf : Fits ms) (hlen : ms.length ≤ 9223372036854775807) :
    Calls Tryd.prog 20 #[.pointer (some ⟨b, 0, none⟩), .slice A ms.length c] w fun e w' =>
      e = .returned (.tuple #[]) ∧ ∃ ro', IsSet w' b ro' (loadL ms) ∧ Next w ro ro' ∧ Chg (foot b ro) w w' := by
  have HS := Lib.hid hs
  have HM := Lib.hid hm
  have HA := Lib.hid hA
  have HF := Lib.hid hf
  clear hs hm hA hf
  go_enter Tryd.func20, Tryd.ntmps20
  go_wp2_with (go_at_call 36; refine (Clear_any b ro l _ HS.out).mono ?_; rintro e w1 ⟨rfl, hs1, hc1⟩; have HS1 := Lib.hid hs1; have HC1 := Lib.hid hc1; clear hs1 hc1)
  go_loopw [12] (fun i wr => ∃ (k : Nat) (ro' : Option Nat), k ≤ ms.length ∧ i = .int .i64 k ∧ IsSet wr b ro' (loadL (ms.take k)) ∧ Next w ro ro' ∧ Chg (foot b ro) w wr) (fun i _ => ms.length - (intOf i).toNat)
  case atStart => exact ⟨0, ro, Nat.zero_le _, rfl, HS1.out, .inl rfl, HC1.out⟩
  case round =>
    obtain ⟨k, ro', hk, rfl, hs2, hn, hc⟩ := hrel
    by_cases hlt : k < ms.length
    · obtain h | ⟨ad, rfl, hAl, hx⟩ := HM.out.kept hc HA.out
      · subst h; simp at hlt
      obtain ⟨c0, c1⟩ := hx k hlt
      have HT : Hid _ := loadL_take ms k hlt
      obtain ⟨hw1, hw2⟩ := HF.out ms[k] (List.getElem_mem hlt)
      have HS2 := Lib.hid hs2
      have HN := Lib.hid hn
      have HC := Lib.hid hc
      clear hs2 hn hc hx
      generalize hxk : ms[k] = x at *
      obtain ⟨nm, pl⟩ := x
      clear hxk
      go_wp2_with (go_at_call 28; refine (Put_any b ro' (loadL (ms.take k)) nm pl _ hw1 hw2 (HS2.out.below ((Below.refl _ _).alloc (Nat.le_refl _) _))).mono ?_; rintro e w3 ⟨rfl, ro3, hs3, hn3, hc3⟩; have HS3 := Lib.hid hs3; have HN3 := Lib.hid hn3; have HC3 := Lib.hid hc3; clear hs3 hn3 hc3)
      go_roundw
      case rel =>
        refine ⟨k + 1, ro3, by omega, by go_num, by rw [HT.out]; exact HS3.out, HN.out.trans HN3.out (by have := HC.out.size; simp; omega), ?_⟩
        refine (HC.out.trans (Chg.alloc (S := fun _ => False) _ _) (fun _ _ f => f.elim)).trans HC3.out (fun x hx hfx => HN.out.foot b x hx hfx)
      case measure => simp [intOf]; omega
    · have e : ms.take k = ms := List.take_of_length_le (by omega)
      rw [e] at hs2
      have HS2 := Lib.hid hs2
      have HN := Lib.hid hn
      clear hs2 hn e
      go_wp2
      go_end0
      exact ⟨rfl, ro', HS2.out, HN.out, hc⟩

/-- A new set's map is new, too. -/
def Fresh (w : World) (ro : Option Nat) : Prop := ∀ r, ro = some r → w.heap.size ≤ r

set_option maxRecDepth 100000 in
set_option maxHeartbeats 1000000 in
theorem New_any (A : Option Addr) (ms : ML) (c : Nat) (w : World) (hm : MksAt w A ms) (hf : Fits ms) (hlen : ms.length ≤ 9223372036854775807) :
    Calls Tryd.prog 19 #[.slice A ms.length c] w fun e w' =>
      e = .returned (.pointer (some ⟨w.heap.size, 0, none⟩)) ∧ ∃ ro', IsSet w' w.heap.size ro' (loadL ms) ∧ Fresh w ro' ∧ Below w.heap.size w w' := by
  have HM := Lib.hid hm
  have HF := Lib.hid hf
  have HS : Hid (IsSet (w.alloc (.cells #[.map none] 70)) w.heap.size none []) := ⟨World.alloc_heap_new w _, Ok.nil, rfl⟩
  have HB : Hid (Below w.heap.size w (w.alloc (.cells #[.map none] 70))) := (Below.refl _ _).alloc (Nat.le_refl _) _
  have HA : Hid (ms = [] ∨ ∀ ad, A = some ad → ad.block < (w.alloc (.cells #[.map none] 70)).heap.size → ¬ foot w.heap.size none ad.block) := by
    rcases hm with h | ⟨ad, rfl, hl, -⟩
    · exact .inl h
    · refine .inr fun a e _ hfo => ?_
      cases e
      rcases hfo with h | h
      · omega
      · cases h
  clear hm hf
  go_enter Tryd.func19, Tryd.ntmps19
  go_wp2_with (go_at_call 20; refine (Load_any w.heap.size none [] A ms c _ HS.out (HM.out.below HB.out) HA.out HF.out hlen).mono ?_; rintro e w1 ⟨rfl, ro1, hs1, hn1, hc1⟩; have HS1 := Lib.hid hs1; have HN1 := Lib.hid hn1; have HC1 := Lib.hid hc1; clear hs1 hn1 hc1)
  go_ret
  refine ⟨rfl, ro1, HS1.out, fun r hr => ?_, HB.out.trans (HC1.out.below_le (by simp) (fun x hx => ?_))⟩
  · rcases HN1.out with h | ⟨r', h, hl⟩
    · rw [h] at hr; cases hr
    · rw [h] at hr; cases hr; simp at hl; omega
  · rcases hx with rfl | h
    · exact Nat.le_refl _
    · cases h

end Go.Proofs.YtdkdnkmfjpdcpaaDoor.Mk
