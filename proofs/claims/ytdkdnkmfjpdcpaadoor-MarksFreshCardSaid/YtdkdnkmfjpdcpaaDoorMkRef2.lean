/-
  The document's set of marks: New, Load, Put, Get, Len, Clear, All, Clone. No condition.
-/
import Derived.Test.YtdkdnkmfjpdcpaaDoorMkRef
namespace Go.Proofs.YtdkdnkmfjpdcpaaDoor.Mk
open Go.RowKit Go.Maps
set_option linter.unusedVariables false
set_option linter.unusedSimpArgs false

/-- A list stays, or is new. -/
def NextV (w : World) (v v' : Value) : Prop := v' = v ∨ NewV w v'
theorem NextV.trans {w w1 : World} {v v1 v2 : Value} (h : NextV w v v1) (k : NextV w1 v1 v2) (hs : w.heap.size ≤ w1.heap.size) : NextV w v v2 := by
  rcases k with rfl | k
  · exact h
  · exact .inr fun x hx => Nat.le_trans hs (k x hx)
theorem NextV.foot {w : World} {b : Nat} {v v' : Value} (h : NextV w v v') : ∀ x, x < w.heap.size → footR b v' x → footR b v x := by
  rintro x hx (hf | hf)
  · exact .inl hf
  · rcases h with rfl | h
    · exact .inr hf
    · have := h x hf; omega

theorem putL_good {l : ML} {n x : Int} (h : good n = true ∧ 0 ≤ x) : putL l n x = ins l n x := by unfold putL; rw [if_pos h]
theorem putL_bad {l : ML} {n x : Int} (h : ¬ (good n = true ∧ 0 ≤ x)) : putL l n x = l := by unfold putL; rw [if_neg h]

set_option maxRecDepth 100000 in
theorem PutR_any (b : Nat) (v : Value) (l : ML) (n x : Int) (w : World) (hwx : (Lit.int .i64 x).wf = true) (hs : IsRef w b v l) :
    Calls Tryd.prog 44 #[.pointer (some ⟨b, 0, none⟩), .int .u8 n, .int .i64 x] w fun e w' => e = .returned (.int .i64 (putE n x)) ∧ ∃ v', IsRef w' b v' (putL l n x) ∧ NextV w v v' ∧ Chg (footR b v) w w' := by
  have HS := Lib.hid hs
  clear hs
  by_cases hg : good n = true
  · have HG := Lib.hid hg
    by_cases hx : x < 0
    · have e1 : putE n x = 1 := by simp [putE, hg, hx]
      rw [e1, putL_bad (by omega)]
      clear hg e1
      go_enter Tryd.func44, Tryd.ntmps44
      go_wp2_with (go_at_call 14; refine (GoodR_any _ _).mono ?_; rintro e w' ⟨rfl, rfl⟩; rw [HG.out])
      go_ret
      exact ⟨rfl, v, HS.out, .inl rfl, Chg.refl _ _⟩
    · have e1 : putE n x = 0 := by simp [putE, hg, hx]
      rw [e1, putL_good ⟨hg, by omega⟩]
      clear hg e1
      go_enter Tryd.func44, Tryd.ntmps44
      go_wp2_with (first
        | (go_at_call 14; refine (GoodR_any _ _).mono ?_; rintro e w' ⟨rfl, rfl⟩; rw [HG.out])
        | (go_at_call 49; refine (lay_any b v l n x _ HS.out HG.out hwx).mono ?_; rintro e w1 ⟨rfl, v1, hs1, hn1, hc1⟩; have HS1 := Lib.hid hs1; have HN1 := Lib.hid hn1; have HC1 := Lib.hid hc1; clear hs1 hn1 hc1))
      go_ret
      exact ⟨rfl, v1, HS1.out, .inr HN1.out, HC1.out.mono (fun k hk => .inl hk)⟩
  · have hg' : good n = false := by simpa using hg
    have HG := Lib.hid hg'
    have e1 : putE n x = 13 := by simp [putE, hg']
    rw [e1, putL_bad (by simp [hg'])]
    clear hg e1 hg'
    go_enter Tryd.func44, Tryd.ntmps44
    go_wp2_with (go_at_call 14; refine (GoodR_any _ _).mono ?_; rintro e w' ⟨rfl, rfl⟩; rw [HG.out])
    go_ret
    exact ⟨rfl, v, HS.out, .inl rfl, Chg.refl _ _⟩

theorem IsRef.nil {w : World} {b : Nat} {v : Value} {l : ML} (h : IsRef w b v l) : IsRef (w.setCell ⟨b, 0, none⟩ (.slice none 0 0)) b (.slice none 0 0) [] :=
  ⟨one_setCell h.blk, Ok.nil, World.ownsRow_nil _ _ _ _⟩
theorem NewV.nil (w : World) : NewV w (.slice none 0 0) := fun k hk => by simp [Value.ownBlock] at hk

theorem ClearR_any (b : Nat) (v : Value) (l : ML) (w : World) (hs : IsRef w b v l) :
    Calls Tryd.prog 46 #[.pointer (some ⟨b, 0, none⟩)] w fun e w' => e = .returned (.tuple #[]) ∧ IsRef w' b (.slice none 0 0) [] ∧ Chg (footR b v) w w' := by
  have c0 := hs.cell
  have f0 := hs.free
  have HN := Lib.hid hs.nil
  obtain ⟨A, c, rfl⟩ := row_form hs.row
  clear hs
  go_enter Tryd.func46, Tryd.ntmps46
  go_wp2
  go_end0
  exact ⟨rfl, HN.out, (Chg.set _ _ _).mono (fun k hk => .inl hk)⟩

theorem LenR_any (b : Nat) (v : Value) (l : ML) (w : World) (hs : IsRef w b v l) :
    Calls Tryd.prog 42 #[.pointer (some ⟨b, 0, none⟩)] w fun e w' => e = .returned (.int .i64 l.length) ∧ w' = w := by
  have c0 := hs.cell
  obtain ⟨A, c, rfl⟩ := row_form hs.row
  clear hs
  go_enter Tryd.func42, Tryd.ntmps42
  go_wp2
  go_ret
  exact ⟨rfl, rfl⟩

theorem AllR_any (b : Nat) (v : Value) (l : ML) (w : World) (hs : IsRef w b v l) :
    Calls Tryd.prog 26 #[.pointer (some ⟨b, 0, none⟩)] w fun e w' => ∃ v', e = .returned v' ∧ w'.ownsRow w.heap.size 33 2 v' l.length (cellsM l) ∧ Below w.heap.size w w' := by
  have c0 := hs.cell
  obtain ⟨i0, hi, hz0, hz1, hz2⟩ := info_parts infoMark
  have HL : Hid (l.length ≤ 59) := hs.ok.length
  have hl := hs.ok.length
  have HR := Lib.hid hs.row
  rcases hs.row.2 with ⟨rfl, h0⟩ | ⟨g, cap, cur, rfl, _, hh, _⟩
  · obtain rfl : l = [] := List.eq_nil_of_length_eq_zero h0
    clear hs
    go_enter Tryd.func26, Tryd.ntmps26
    go_wp2_with (at_builtin; refine wpList_append_own_none rfl _ _ 31 rfl w.heap.size 33 i0 2 Tryd.underlying31 hi (.slice none 0 0) 0 [] rfl (World.ownsRow_nil _ _ _ _) rfl ?_)
    go_ret
    exact ⟨_, rfl, World.ownsRow_nil _ _ _ _, Below.refl _ _⟩
  · have HC := Lib.hid (hs.row.cells (g := g) rfl)
    have HU : Hid (∀ u ∈ cellsM l, u.oneCell' = true) := by
      intro u hu
      unfold cellsM at hu
      obtain ⟨x, hx, hu⟩ := List.mem_flatMap.1 hu
      simp at hu
      rcases hu with rfl | rfl <;> rfl
    have HLN : Hid ((cellsM l).length = l.length * 2) := cellsM_length l
    clear hs hh
    go_enter Tryd.func26, Tryd.ntmps26
    go_wp2_with (at_builtin; refine wpList_append_own _ rfl _ _ 31 rfl w.heap.size 33 i0 (.agg #[.int .u8 0, .int .i64 0]) 2 16 Tryd.underlying31 hi hz0 hz1 hz2 rfl (by decide) (.slice none 0 0) 0 [] rfl (World.ownsRow_nil _ _ _ _) ⟨g, 0, none⟩ l.length cap (cellsM l) rfl HLN.out HC.out HU.out (by unfold maxLen; omega) (by omega) (Nat.le_refl _) ?_; intro v2 w3 hown3 hg3 hn3; have HO3 := Lib.hid hown3; have HG3 := Lib.hid hg3; clear hown3 hg3 hn3)
    go_ret
    refine ⟨_, rfl, ?_, (Below.refl _ _).grown HG3.out (Nat.le_refl _) (fun j hj => by simp [Value.ownBlock] at hj)⟩
    have := HO3.out
    simpa using this

set_option maxRecDepth 100000 in
theorem CloneR_any (b : Nat) (v : Value) (l : ML) (w : World) (hs : IsRef w b v l) :
    Calls Tryd.prog 32 #[.pointer (some ⟨b, 0, none⟩)] w fun e w' => ∃ c v', e = .returned (.pointer (some ⟨c, 0, none⟩)) ∧ IsRef w' c v' l ∧ NewV w v' ∧ w.heap.size ≤ c ∧ Below w.heap.size w w' := by
  have HS := Lib.hid hs
  clear hs
  go_enter Tryd.func32, Tryd.ntmps32
  go_wp2_with (go_at_call 26; refine (AllR_any b v l _ HS.out).mono ?_; rintro e w1 ⟨v1, rfl, hrow, hb⟩; obtain ⟨A, c, rfl⟩ := row_form hrow; have HR := Lib.hid hrow; have HB := Lib.hid hb; clear hrow hb)
  go_ret
  refine ⟨_, _, rfl, ⟨World.alloc_heap_new _ _, HS.out.ok, row_base (HR.out.alloc _)⟩, fun k hk => (HR.out.lt k hk).1, HB.out.size, HB.out.alloc HB.out.size _⟩

set_option maxRecDepth 100000 in
theorem place_any (b : Nat) (v : Value) (l : ML) (n : Int) (w : World) (hs : IsRef w b v l) :
    Calls Tryd.prog 52 #[.pointer (some ⟨b, 0, none⟩), .int .u8 n] w fun e w' => ∃ r, e = .returned (.int .i64 r) ∧ ((∃ k, ∃ h : k < l.length, r = (k : Int) ∧ l[k].1 = n) ∨ (r = -1 ∧ ∀ x ∈ l, x.1 ≠ n)) ∧ w' = w := by
  have c0 := hs.cell
  have hl := hs.ok.length
  obtain ⟨A, c, rfl⟩ := row_form hs.row
  have HM := Lib.hid hs.mks
  clear hs
  go_enter Tryd.func52, Tryd.ntmps52
  go_wp2
  go_loopw [5] (fun i wr => ∃ k : Nat, k ≤ l.length ∧ i = .int .i64 k ∧ Hid (∀ j (h : j < l.length), j < k → l[j].1 ≠ n) ∧ wr = w) (fun i _ => l.length - (intOf i).toNat)
  case atStart => exact ⟨0, Nat.zero_le _, rfl, fun j h hk => by omega, rfl⟩
  case round =>
    obtain ⟨k, hk, rfl, HK, rfl⟩ := hrel
    by_cases hlt : k < l.length
    · obtain h | ⟨ad, rfl, hA, hc⟩ := HM.out
      · subst h; simp at hlt
      obtain ⟨d0, d1⟩ := hc k hlt
      clear hc
      by_cases h1 : l[k].1 = n
      · have HX : Hid (l[k].1 = n) := h1
        go_wp2
        go_ret
        exact ⟨_, rfl, .inl ⟨k, hlt, rfl, HX.out⟩, rfl⟩
      · have h2 : (l[k].1 == n) = false := by simpa using h1
        go_wp2
        go_roundw
        case rel =>
          refine ⟨k + 1, by omega, by go_num, fun j h hj => ?_, by first | rfl | trivial⟩
          by_cases e : j = k
          · subst e; exact h1
          · exact HK.out j h (by omega)
        case measure => simp [intOf]; omega
    · go_wp2
      go_ret
      refine ⟨_, rfl, .inr ⟨rfl, fun x hx => ?_⟩, rfl⟩
      obtain ⟨j, hj, rfl⟩ := List.getElem_of_mem hx
      exact HK.out j hj (by omega)

theorem get_none {l : ML} {n : Int} (h : ∀ x ∈ l, x.1 ≠ n) : get l n = none := by
  induction l with
  | nil => rfl
  | cons x r ih => unfold get; rw [if_neg (h x List.mem_cons_self)]; exact ih fun y hy => h y (List.mem_cons_of_mem _ hy)

set_option maxRecDepth 100000 in
theorem GetR_any (b : Nat) (v : Value) (l : ML) (n : Int) (w : World) (hs : IsRef w b v l) :
    Calls Tryd.prog 43 #[.pointer (some ⟨b, 0, none⟩), .int .u8 n] w fun e w' => e = .returned (.tuple #[.int .i64 (getE l n).1, .int .i64 (getE l n).2]) ∧ w' = w := by
  have HS := Lib.hid hs
  have c0 := hs.cell
  have hl := hs.ok.length
  obtain ⟨A, c, rfl⟩ := row_form hs.row
  have HM := Lib.hid hs.mks
  clear hs
  obtain ⟨p, hp⟩ : ∃ p, getE l n = p := ⟨_, rfl⟩
  have HP := Lib.hid hp
  rw [hp]
  clear hp
  by_cases hg : good n = true
  · have HG := Lib.hid hg
    clear hg
    go_enter Tryd.func43, Tryd.ntmps43
    go_wp2_with fail
    refine (GoodR_any _ _).mono ?_
    rintro e w' ⟨rfl, rfl⟩
    rw [HG.out]
    go_wp2_with fail
    refine (place_any b _ l n _ HS.out).mono ?_
    rintro e w' ⟨r, rfl, hr, rfl⟩
    rcases hr with ⟨k, hk, rfl, hkn⟩ | ⟨rfl, hno⟩
    · obtain h | ⟨ad, rfl, hA, hc⟩ := HM.out
      · subst h; simp at hk
      obtain ⟨d0, d1⟩ := hc k hk
      have HK : Hid (getE l n = (l[k].2, 0)) := by
        show _ = _
        unfold getE; rw [if_pos HG.out, ← hkn, get_at HS.out.ok k hk]
      have hk0 : (0 : Int) ≤ (k : Int) := by omega
      have hk1 : (k : Int) < (l.length : Int) := by omega
      clear hc hkn
      go_wp2
      go_ret2
      obtain rfl := HP.out.symm.trans HK.out
      exact ⟨rfl, rfl⟩
    · have HK : Hid (getE l n = (0, 7)) := by
        show _ = _
        unfold getE; rw [if_pos HG.out, get_none hno]
      clear hno
      go_wp2
      go_ret2
      obtain rfl := HP.out.symm.trans HK.out
      exact ⟨rfl, rfl⟩
  · have hg' : good n = false := by simpa using hg
    have HG := Lib.hid hg'
    have HK : Hid (getE l n = (0, 13)) := by show _ = _; unfold getE; rw [if_neg hg]
    clear hg hg'
    go_enter Tryd.func43, Tryd.ntmps43
    go_wp2_with (go_at_call 14; refine (GoodR_any _ _).mono ?_; rintro e w' ⟨rfl, rfl⟩; rw [HG.out])
    go_ret2
    obtain rfl := HP.out.symm.trans HK.out
    exact ⟨rfl, rfl⟩

set_option maxRecDepth 100000 in
set_option maxHeartbeats 1000000 in
theorem LoadR_any (b : Nat) (v : Value) (l : ML) (A : Option Addr) (ms : ML) (c : Nat) (w : World) (hs : IsRef w b v l) (hm : MksAt w A ms) (hA : ms = [] ∨ ∀ ad, A = some ad → ad.block < w.heap.size → ¬ footR b v ad.block) (hf : Fits ms) (hlen : ms.length ≤ 9223372036854775807) :
    Calls Tryd.prog 40 #[.pointer (some ⟨b, 0, none⟩), .slice A ms.length c] w fun e w' =>
      e = .returned (.tuple #[]) ∧ ∃ v', IsRef w' b v' (loadL ms) ∧ NewV w v' ∧ Chg (footR b v) w w' := by
  obtain ⟨A0, c0', rfl⟩ := row_form hs.row
  have c0 := hs.cell
  have f0 := hs.free
  have HS0 : Hid (IsRef (w.setCell ⟨b, 0, none⟩ (.slice none 0 0)) b (.slice none 0 0) []) := hs.nil
  have HC0 : Hid (Chg (fun k => k = b) w (w.setCell ⟨b, 0, none⟩ (.slice none 0 0))) := Chg.set w ⟨b, 0, none⟩ (.slice none 0 0)
  have HM := Lib.hid hm
  have HA := Lib.hid hA
  have HF := Lib.hid hf
  clear hs hm hA hf
  go_enter Tryd.func40, Tryd.ntmps40
  go_wp2
  go_loopw [4] (fun i wr => ∃ (k : Nat) (v' : Value), k ≤ ms.length ∧ i = .int .i64 k ∧ IsRef wr b v' (loadL (ms.take k)) ∧ NewV w v' ∧ Chg (fun k => k = b) w wr) (fun i _ => ms.length - (intOf i).toNat)
  case atStart => exact ⟨0, _, Nat.zero_le _, rfl, HS0.out, NewV.nil _, HC0.out⟩
  case round =>
    obtain ⟨k, v', hk, rfl, hs2, hn, hc⟩ := hrel
    by_cases hlt : k < ms.length
    · obtain h | ⟨ad, rfl, hAl, hx⟩ := HM.out.kept hc (by rcases HA.out with h | h; · exact .inl h
                                                          · exact .inr fun ad e hl hk => h ad e hl (.inl hk))
      · subst h; simp at hlt
      obtain ⟨d0, d1⟩ := hx k hlt
      have HT : Hid _ := loadL_take ms k hlt
      obtain ⟨hw1, hw2⟩ := HF.out ms[k] (List.getElem_mem hlt)
      have HS2 := Lib.hid hs2
      have HN := Lib.hid hn
      have HC := Lib.hid hc
      clear hs2 hn hc hx
      generalize hxk : ms[k] = x at *
      obtain ⟨nm, pl⟩ := x
      clear hxk
      by_cases hg : good nm = true ∧ 0 ≤ pl
      · obtain ⟨hg, h0⟩ := hg
        have HG := Lib.hid hg
        have HT2 : Hid (loadL (ms.take (k + 1)) = ins (loadL (ms.take k)) nm pl) := HT.out.trans (putL_good ⟨hg, h0⟩)
        clear hg
        go_wp2_with (first
          | (go_at_call 14; refine (GoodR_any _ _).mono ?_; rintro e w' ⟨rfl, rfl⟩; rw [HG.out])
          | (go_at_call 49; refine (lay_any b v' (loadL (ms.take k)) nm pl _ HS2.out HG.out hw2).mono ?_; rintro e w1 ⟨rfl, v1, hs1, hn1, hc1⟩; have HS1 := Lib.hid hs1; have HN1 := Lib.hid hn1; have HC1 := Lib.hid hc1; clear hs1 hn1 hc1))
        go_roundw
        case rel =>
          exact ⟨k + 1, v1, by omega, by go_num, by rw [HT2.out]; exact HS1.out, fun x hx => Nat.le_trans HC.out.size (HN1.out x hx), HC.out.trans HC1.out (fun x _ h => h)⟩
        case measure => simp [intOf]; omega
      · have HT2 : Hid (loadL (ms.take (k + 1)) = loadL (ms.take k)) := HT.out.trans (putL_bad hg)
        cases hgd : good nm with
        | false =>
          have HG := Lib.hid hgd
          clear hgd hg
          go_wp2_with (go_at_call 14; refine (GoodR_any _ _).mono ?_; rintro e w' ⟨rfl, rfl⟩; rw [HG.out])
          go_roundw
          case rel => exact ⟨k + 1, v', by omega, by go_num, by rw [HT2.out]; exact HS2.out, HN.out, HC.out⟩
          case measure => simp [intOf]; omega
        | true =>
          have HG := Lib.hid hgd
          have h0 : ¬ 0 ≤ pl := fun h => hg ⟨hgd, h⟩
          clear hgd hg
          go_wp2_with (go_at_call 14; refine (GoodR_any _ _).mono ?_; rintro e w' ⟨rfl, rfl⟩; rw [HG.out])
          go_roundw
          case rel => exact ⟨k + 1, v', by omega, by go_num, by rw [HT2.out]; exact HS2.out, HN.out, HC.out⟩
          case measure => simp [intOf]; omega
    · have e : ms.take k = ms := List.take_of_length_le (by omega)
      rw [e] at hs2
      have HS2 := Lib.hid hs2
      have HN := Lib.hid hn
      have HC := Lib.hid hc
      clear hs2 hn hc e
      go_wp2
      go_end0
      exact ⟨rfl, v', HS2.out, HN.out, HC.out.mono (fun k hk => .inl hk)⟩

set_option maxRecDepth 100000 in
theorem NewR_any (A : Option Addr) (ms : ML) (c : Nat) (w : World) (hm : MksAt w A ms) (hf : Fits ms) (hlen : ms.length ≤ 9223372036854775807) :
    Calls Tryd.prog 18 #[.slice A ms.length c] w fun e w' =>
      e = .returned (.pointer (some ⟨w.heap.size, 0, none⟩)) ∧ ∃ v', IsRef w' w.heap.size v' (loadL ms) ∧ NewV w v' ∧ Below w.heap.size w w' := by
  have HM := Lib.hid hm
  have HF := Lib.hid hf
  have HS : Hid (IsRef (w.alloc (.cells #[.slice none 0 0] 76)) w.heap.size (.slice none 0 0) []) := ⟨World.alloc_heap_new w _, Ok.nil, World.ownsRow_nil _ _ _ _⟩
  have HB : Hid (Below w.heap.size w (w.alloc (.cells #[.slice none 0 0] 76))) := (Below.refl _ _).alloc (Nat.le_refl _) _
  have HA : Hid (ms = [] ∨ ∀ ad, A = some ad → ad.block < (w.alloc (.cells #[.slice none 0 0] 76)).heap.size → ¬ footR w.heap.size (.slice none 0 0) ad.block) := by
    rcases hm with h | ⟨ad, rfl, hl, -⟩
    · exact .inl h
    · refine .inr fun a e _ hfo => ?_
      cases e
      rcases hfo with h | h
      · omega
      · simp [Value.ownBlock] at h
  clear hm hf
  go_enter Tryd.func18, Tryd.ntmps18
  go_wp2_with (go_at_call 40; refine (LoadR_any w.heap.size (.slice none 0 0) [] A ms c _ HS.out (HM.out.below HB.out) HA.out HF.out hlen).mono ?_; rintro e w1 ⟨rfl, v1, hs1, hn1, hc1⟩; have HS1 := Lib.hid hs1; have HN1 := Lib.hid hn1; have HC1 := Lib.hid hc1; clear hs1 hn1 hc1)
  go_ret
  refine ⟨rfl, v1, HS1.out, fun x hx => Nat.le_trans (by simp) (HN1.out x hx), HB.out.trans (HC1.out.below_le (by simp) (fun x hx => ?_))⟩
  rcases hx with rfl | h
  · exact Nat.le_refl _
  · simp [Value.ownBlock] at h
end Go.Proofs.YtdkdnkmfjpdcpaaDoor.Mk
