/-
  (*Set).Get, Len, Drop: what they answer and do. No condition.
-/
import Derived.Test.YtdkdnkmfjpdcpaaDoorMkLoad
namespace Go.Proofs.YtdkdnkmfjpdcpaaDoor.Mk
open Go.RowKit Go.Maps
set_option linter.unusedVariables false
set_option linter.unusedSimpArgs false

def getE (l : ML) (n : Int) : Int × Int := if good n = true then (match get l n with | some x => (x, 0) | none => (0, 7)) else (0, 13)

set_option maxRecDepth 100000 in
theorem Get_any (b : Nat) (ro : Option Nat) (l : ML) (n : Int) (w : World) (hwn : (Lit.int .u8 n).wf = true) (hs : IsSet w b ro l) :
    Calls Tryd.prog 27 #[.pointer (some ⟨b, 0, none⟩), .int .u8 n] w fun e w' => e = .returned (.tuple #[.int .i64 (getE l n).1, .int .i64 (getE l n).2]) ∧ w' = w := by
  have c0 := hs.cell
  have hkey := keyOf_int_mk Tryd.underlying5 hwn
  by_cases hg : good n = true
  · have HG := Lib.hid hg
    obtain ⟨p, hp⟩ : ∃ p, getE l n = p := ⟨_, rfl⟩
    have HP := Lib.hid hp
    rw [hp]
    clear hp hg
    cases ro with
    | none =>
      obtain rfl : l = [] := hs.map
      have hrun := Maps.look_nil (w := w) true keyU8 Tryd.underlying68 (zeroInt _) hkey
      clear hs
      go_enter Tryd.func27, Tryd.ntmps27
      go_wp2_with (go_at_call 13; refine (Good_any _ _).mono ?_; rintro e w' ⟨rfl, rfl⟩; rw [HG.out])
      go_ret2
      obtain rfl : p = (0, 7) := by rw [← HP.out]; unfold getE; rw [if_pos HG.out]; rfl
      exact ⟨rfl, rfl⟩
    | some r =>
      have hown : MapOf w r l := hs.map
      have HO := Lib.hid hown
      clear hs hown
      cases hgt : get l n with
      | none =>
        obtain rfl : p = (0, 7) := by rw [← HP.out]; unfold getE; rw [if_pos HG.out, hgt]
        have HH : Hid (Maps.has (toD l) (.int .u8 n) = false) := by show _ = _; rw [toD_has, hgt]; rfl
        clear hgt
        go_enter Tryd.func27, Tryd.ntmps27
        go_wp2_with (first
          | (go_at_call 13; refine (Good_any _ _).mono ?_; rintro e w' ⟨rfl, rfl⟩; rw [HG.out])
          | (at_lookup; refine wpList_lookup_own_ok_int _ rfl _ _ 68 rfl 5 3 .i64 keyU8 Tryd.underlying68 Tryd.underlying3 (zeroInt _) r l.length (toD l) rfl HO.out _ _ rfl hkey ?_; intro q hat hwc; rw [HH.out]; clear hat))
        go_ret2
        exact ⟨rfl, rfl⟩
      | some x =>
        obtain rfl : p = (x, 0) := by rw [← HP.out]; unfold getE; rw [if_pos HG.out, hgt]
        have HH : Hid (Maps.has (toD l) (.int .u8 n) = true) := by show _ = _; rw [toD_has, hgt]; rfl
        have HX : Hid (get l n = some x) := hgt
        clear hgt
        go_enter Tryd.func27, Tryd.ntmps27
        go_wp2_with (first
          | (go_at_call 13; refine (Good_any _ _).mono ?_; rintro e w' ⟨rfl, rfl⟩; rw [HG.out])
          | (at_lookup; refine wpList_lookup_own_ok_int _ rfl _ _ 68 rfl 5 3 .i64 keyU8 Tryd.underlying68 Tryd.underlying3 (zeroInt _) r l.length (toD l) rfl HO.out _ _ rfl hkey ?_; intro q hat hwc; rw [HH.out]; obtain rfl : q = x := by { rw [toD_at, HX.out] at hat; simpa using hat.symm }))
        go_ret2
        exact ⟨rfl, rfl⟩
  · have hg' : good n = false := by simpa using hg
    have e1 : getE l n = (0, 13) := by unfold getE; rw [if_neg hg]
    have HG := Lib.hid hg'
    rw [e1]
    clear hg hg' e1 hs c0
    go_enter Tryd.func27, Tryd.ntmps27
    go_wp2_with (go_at_call 13; refine (Good_any _ _).mono ?_; rintro e w' ⟨rfl, rfl⟩; rw [HG.out])
    go_ret2
    exact ⟨rfl, rfl⟩

theorem Len_any (b : Nat) (ro : Option Nat) (l : ML) (w : World) (hs : IsSet w b ro l) :
    Calls Tryd.prog 29 #[.pointer (some ⟨b, 0, none⟩)] w fun e w' => e = .returned (.int .i64 l.length) ∧ w' = w := by
  have c0 := hs.cell
  cases ro with
  | none =>
    obtain rfl : l = [] := hs.map
    have hrun := fun ty => Maps.len_nil (P := Tryd.prog) (w := w) Tryd.underlying68 ty
    clear hs
    go_enter Tryd.func29, Tryd.ntmps29
    go_wp2
    go_ret
    exact ⟨rfl, rfl⟩
  | some r =>
    have hown : MapOf w r l := hs.map
    have HO := Lib.hid hown
    have HZ : Hid (Maps.size (toD l) = l.length) := toD_size l
    clear hs hown
    go_enter Tryd.func29, Tryd.ntmps29
    go_wp2_with (at_len; refine wpList_len_own _ rfl _ 68 rfl 5 3 Tryd.underlying68 (plainElem Tryd.prog 3) r l.length (toD l) rfl HO.out ?_; rw [HZ.out])
    go_ret
    exact ⟨rfl, rfl⟩
end Go.Proofs.YtdkdnkmfjpdcpaaDoor.Mk
