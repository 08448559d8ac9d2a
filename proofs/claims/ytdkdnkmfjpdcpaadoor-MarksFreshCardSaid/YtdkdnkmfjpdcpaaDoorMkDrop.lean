/-
  The set's Drop and Clone; what the methods of a nil set do. No condition.
-/
import Derived.Test.YtdkdnkmfjpdcpaaDoorMkGet
import Derived.Test.YtdkdnkmfjpdcpaaDoorMkLays
namespace Go.Proofs.YtdkdnkmfjpdcpaaDoor.Mk
open Go.RowKit Go.Maps
set_option linter.unusedVariables false
set_option linter.unusedSimpArgs false

def dropM (l : ML) (n : Int) : ML := if good n = true then del l n else l

theorem getE_cases (l : ML) (n : Int) : (good n = false ∧ getE l n = (0, 13)) ∨ (good n = true ∧ get l n = none ∧ getE l n = (0, 7)) ∨ (good n = true ∧ ∃ x, get l n = some x ∧ getE l n = (x, 0)) := by
  unfold getE
  cases hg : good n with
  | false => exact .inl ⟨rfl, by simp⟩
  | true =>
    cases hx : get l n with
    | none => exact .inr (.inl ⟨rfl, rfl, by simp⟩)
    | some x => exact .inr (.inr ⟨rfl, x, rfl, by simp⟩)
theorem get_mem {l : ML} {n : Int} (h : get l n = none) : ∀ x ∈ l, x.1 ≠ n := by
  induction l with
  | nil => intro x hx; cases hx
  | cons y r ih =>
    unfold get at h
    by_cases e : y.1 = n
    · rw [if_pos e] at h; cases h
    · rw [if_neg e] at h
      intro x hx
      rcases List.mem_cons.1 hx with rfl | hx
      · exact e
      · exact ih h x hx

set_option maxRecDepth 100000 in
theorem Drop_any (b : Nat) (ro : Option Nat) (l : ML) (n : Int) (w : World) (hwn : (Lit.int .u8 n).wf = true) (hs : IsSet w b ro l) :
    Calls Tryd.prog 37 #[.pointer (some ⟨b, 0, none⟩), .int .u8 n] w fun e w' => e = .returned (.int .i64 (getE l n).2) ∧ IsSet w' b ro (dropM l n) ∧ Chg (foot b ro) w w' := by
  have HS := Lib.hid hs
  have c0 := hs.cell
  have hkey := keyOf_int_mk Tryd.underlying5 hwn
  have hG := Get_any b ro l n w hwn hs
  clear hs
  rcases getE_cases l n with ⟨h1, h2⟩ | ⟨h1, h3, h2⟩ | ⟨h1, x, h3, h2⟩
  · have e : dropM l n = l := by unfold dropM; rw [h1]; rfl
    rw [e]
    rw [h2] at hG ⊢
    clear h1 h2 e
    go_enter Tryd.func37, Tryd.ntmps37
    go_wp2_with (go_at_call 27; refine hG.mono ?_; rintro e w' ⟨rfl, rfl⟩)
    go_ret
    exact ⟨rfl, HS.out, Chg.refl _ _⟩
  · have e : dropM l n = l := by
      unfold dropM; rw [if_pos h1]; unfold del
      exact List.filter_eq_self.2 fun y hy => by simp [get_mem h3 y hy]
    rw [e]
    rw [h2] at hG ⊢
    clear h1 h2 h3 e
    go_enter Tryd.func37, Tryd.ntmps37
    go_wp2_with (go_at_call 27; refine hG.mono ?_; rintro e w' ⟨rfl, rfl⟩)
    go_ret
    exact ⟨rfl, HS.out, Chg.refl _ _⟩
  · have e : dropM l n = del l n := by unfold dropM; rw [if_pos h1]
    obtain ⟨r, rfl⟩ : ∃ r, ro = some r := by
      cases ro with
      | none => have : l = [] := HS.out.map; subst this; cases h3
      | some r => exact ⟨r, rfl⟩
    have hown : MapOf w r l := HS.out.map
    have HO := Lib.hid hown
    rw [e]
    rw [h2] at hG ⊢
    clear h1 h2 h3 e hown
    go_enter Tryd.func37, Tryd.ntmps37
    go_wp2_with (first
      | (go_at_call 27; refine hG.mono ?_; rintro e w' ⟨rfl, rfl⟩)
      | (at_delete; refine wpList_delete_own _ rfl _ _ 68 5 rfl 3 keyU8 Tryd.underlying68 _ r l.length (toD l) rfl HO.out _ _ rfl hkey ?_; intro w1 hown1 hturn1; have HO1 := Lib.hid hown1; have HT1 := Lib.hid hturn1; clear hown1 hturn1))
    go_ret
    have hown1 := HO1.out
    rw [toD_del] at hown1
    have hne : b ≠ r := by
      rintro rfl
      obtain ⟨es, clock, hb, _⟩ := HO.out
      have := HS.out.blk; rw [hb] at this; cases this
    have hc : Chg (fun k => k = r) w' w1 := by
      obtain ⟨es, clock, es', clock', hb, rfl⟩ := HT1.out
      exact ⟨rfl, rfl, rfl, by simp [Go.ChangeMaps.setBlock], fun k hk hn => Go.ChangeMaps.heap_setBlock_other hb _ hn⟩
    exact ⟨rfl, ⟨(hc.block b HS.out.lt hne).trans HS.out.blk, HS.out.ok.del n, mapOf_tight hown1⟩, hc.mono (fun k hk => .inr (by rw [hk]))⟩

theorem Fits.of_ok {l : ML} (h : Ok l) : Fits l := fun x hx => ⟨by
  have := good_range (h.2 x hx).1
  simp only [Lit.wf, Bool.and_eq_true, decide_eq_true_eq, IntKind.min, IntKind.max, IntKind.signed, IntKind.bits]
  simp
  omega, (h.2 x hx).2⟩

set_option maxRecDepth 100000 in
theorem Clone_any (b : Nat) (ro : Option Nat) (l : ML) (w : World) (hs : IsSet w b ro l) :
    Calls Tryd.prog 31 #[.pointer (some ⟨b, 0, none⟩)] w fun e w' => ∃ c ro', e = .returned (.pointer (some ⟨c, 0, none⟩)) ∧ IsSet w' c ro' (loadL l) ∧ w.heap.size ≤ c ∧ Fresh w ro' ∧ Below w.heap.size w w' := by
  have HS := Lib.hid hs
  have HF := Lib.hid (Fits.of_ok hs.ok)
  have hl := hs.ok.length
  clear hs
  go_enter Tryd.func31, Tryd.ntmps31
  go_wp2_with fail
  refine (All_any b ro l _ HS.out).mono ?_
  rintro e w1 ⟨u, rfl, hrow, hb⟩
  obtain ⟨A1, c1, rfl⟩ := row_form hrow
  have HR := Lib.hid hrow
  have HB := Lib.hid hb
  clear hrow hb
  go_wp2_with fail
  refine (New_any A1 l c1 w1 (MksAt.of_row HR.out) HF.out (by omega)).mono ?_
  rintro e w2 ⟨rfl, ro', hs2, hf2, hb2⟩
  have HS2 := Lib.hid hs2
  have HF2 := Lib.hid hf2
  have HB2 := Lib.hid hb2
  clear hs2 hf2 hb2
  go_wp2
  go_ret
  exact ⟨_, ro', rfl, HS2.out, HB.out.size, fun r hr => Nat.le_trans HB.out.size (HF2.out r hr), HB.out.trans (HB2.out.mono HB.out.size)⟩

/-! a nil set -/
theorem nil_names (w : World) : Calls Tryd.prog 41 #[.pointer none] w fun e w' => e = .returned (.slice none 0 0) ∧ w' = w := by
  go_enter Tryd.func41, Tryd.ntmps41
  go_wp2
  go_ret
  exact ⟨rfl, rfl⟩
theorem nil_All (w : World) : Calls Tryd.prog 24 #[.pointer none] w fun e w' => e = .returned (.slice none 0 0) ∧ Below w.heap.size w w' := by
  go_enter Tryd.func24, Tryd.ntmps24
  go_wp2_with (go_at_call 41; refine (nil_names _).mono ?_; rintro e w' ⟨rfl, rfl⟩)
  go_loopw [3, 9] (fun u i wr => u = .slice none 0 0 ∧ i = .int .i64 0 ∧ wr = w') (fun _ _ _ => 0)
  case atStart => exact ⟨rfl, rfl, rfl⟩
  case round =>
    obtain ⟨rfl, rfl, rfl⟩ := hrel
    go_wp2
    go_ret
    exact ⟨rfl, Below.refl _ _⟩
theorem nil_Move (v : Value) (w : World) : Calls Tryd.prog 22 #[.pointer none, v] w fun e w' => e = .returned (.tuple #[]) ∧ Below w.heap.size w w' := by
  go_enter Tryd.func22, Tryd.ntmps22
  go_wp2_with (go_at_call 41; refine (nil_names _).mono ?_; rintro e w' ⟨rfl, rfl⟩)
  go_loopw [9] (fun i wr => i = .int .i64 0 ∧ wr = w') (fun _ _ => 0)
  case atStart => exact ⟨rfl, rfl⟩
  case round =>
    obtain ⟨rfl, rfl⟩ := hrel
    go_wp2
    go_end0
    exact ⟨rfl, Below.refl _ _⟩
theorem nil_Load (v : Value) (w : World) : Calls Tryd.prog 20 #[.pointer none, v] w fun e w' => e = .returned (.tuple #[]) ∧ Below w.heap.size w w' := by
  go_enter Tryd.func20, Tryd.ntmps20
  go_wp2
  try simp only [Exit.inBlock, Exit.then]
  refine bodyPost_ret (results_none rfl _ _ _) rfl ?_
  exact ⟨rfl, Below.refl _ _⟩
theorem nil_Clear (w : World) : Calls Tryd.prog 36 #[.pointer none] w fun e w' => e = .returned (.tuple #[]) ∧ Below w.heap.size w w' := by
  go_enter Tryd.func36, Tryd.ntmps36
  go_wp2
  go_end0
  exact ⟨rfl, Below.refl _ _⟩
theorem nil_Len (w : World) : Calls Tryd.prog 29 #[.pointer none] w fun e w' => e = .returned (.int .i64 0) ∧ Below w.heap.size w w' := by
  go_enter Tryd.func29, Tryd.ntmps29
  go_wp2
  go_ret
  exact ⟨rfl, Below.refl _ _⟩
theorem nil_Clone (w : World) : Calls Tryd.prog 31 #[.pointer none] w fun e w' => e = .returned (.pointer none) ∧ Below w.heap.size w w' := by
  go_enter Tryd.func31, Tryd.ntmps31
  go_wp2
  go_ret
  exact ⟨rfl, Below.refl _ _⟩
def nilE (n : Int) : Int := if good n = true then 7 else 13
theorem nil_Get (n : Int) (w : World) : Calls Tryd.prog 27 #[.pointer none, .int .u8 n] w fun e w' => e = .returned (.tuple #[.int .i64 0, .int .i64 (nilE n)]) ∧ w' = w := by
  unfold nilE
  cases hg : good n with
  | true =>
    have HG := Lib.hid hg
    rw [if_pos rfl]
    clear hg
    go_enter Tryd.func27, Tryd.ntmps27
    go_wp2_with (go_at_call 13; refine (Good_any _ _).mono ?_; rintro e w' ⟨rfl, rfl⟩; rw [HG.out])
    go_ret2
    exact ⟨rfl, rfl⟩
  | false =>
    have HG := Lib.hid hg
    rw [if_neg (by decide)]
    clear hg
    go_enter Tryd.func27, Tryd.ntmps27
    go_wp2_with (go_at_call 13; refine (Good_any _ _).mono ?_; rintro e w' ⟨rfl, rfl⟩; rw [HG.out])
    go_ret2
    exact ⟨rfl, rfl⟩
theorem nil_Drop (n : Int) (w : World) : Calls Tryd.prog 37 #[.pointer none, .int .u8 n] w fun e w' => e = .returned (.int .i64 (nilE n)) ∧ w' = w := by
  have hG := nil_Get n w
  have hn : (nilE n != 0) = true := by unfold nilE; split <;> rfl
  generalize nilE n = k at *
  go_enter Tryd.func37, Tryd.ntmps37
  go_wp2_with (go_at_call 27; refine hG.mono ?_; rintro e w' ⟨rfl, rfl⟩)
  go_ret
  exact ⟨rfl, rfl⟩
def nilP (n x : Int) : Int := if good n = true then (if x < 0 then 1 else 7) else 13
theorem nil_Put (n x : Int) (w : World) : Calls Tryd.prog 28 #[.pointer none, .int .u8 n, .int .i64 x] w fun e w' => e = .returned (.int .i64 (nilP n x)) ∧ w' = w := by
  unfold nilP
  cases hg : good n with
  | true =>
    have HG := Lib.hid hg
    rw [if_pos rfl]
    clear hg
    by_cases hx : x < 0
    · rw [if_pos hx]
      go_enter Tryd.func28, Tryd.ntmps28
      go_wp2_with (go_at_call 13; refine (Good_any _ _).mono ?_; rintro e w' ⟨rfl, rfl⟩; rw [HG.out])
      go_ret
      exact ⟨rfl, rfl⟩
    · rw [if_neg hx]
      go_enter Tryd.func28, Tryd.ntmps28
      go_wp2_with (go_at_call 13; refine (Good_any _ _).mono ?_; rintro e w' ⟨rfl, rfl⟩; rw [HG.out])
      go_ret
      exact ⟨rfl, rfl⟩
  | false =>
    have HG := Lib.hid hg
    rw [if_neg (by decide)]
    clear hg
    go_enter Tryd.func28, Tryd.ntmps28
    go_wp2_with (go_at_call 13; refine (Good_any _ _).mono ?_; rintro e w' ⟨rfl, rfl⟩; rw [HG.out])
    go_ret
    exact ⟨rfl, rfl⟩
end Go.Proofs.YtdkdnkmfjpdcpaaDoor.Mk
