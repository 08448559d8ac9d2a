/-
  The set's Snap, at a Snaps and at nil. No condition.
-/
import Derived.Test.YtdkdnkmfjpdcpaaDoorMkSnapA
namespace Go.Proofs.YtdkdnkmfjpdcpaaDoor.Mk
open Go.RowKit Go.Maps Go.Proofs.YtdkdnkmfjpdcpaaDoor.Reg
set_option linter.unusedVariables false
set_option linter.unusedSimpArgs false

def hit (ts : List Int) (i : Nat) (x : Int × Int) : Bool := decide (0 ≤ ans ts i ∧ ans ts i ≠ x.2)
def sn (ts : List Int) (i : Nat) (x : Int × Int) : Int × Int := if hit ts i x then (x.1, ans ts i) else x
def snapL (ts : List Int) : Nat → ML → ML
  | _, [] => []
  | i, x :: r => sn ts i x :: snapL ts (i + 1) r
def snapN (ts : List Int) : Nat → ML → Nat
  | _, [] => 0
  | i, x :: r => (if hit ts i x then 1 else 0) + snapN ts (i + 1) r
theorem snapL_append (ts : List Int) : ∀ (a b : ML) (i : Nat), snapL ts i (a ++ b) = snapL ts i a ++ snapL ts (i + a.length) b
  | [], b, i => by simp [snapL]
  | x :: r, b, i => by
    simp only [List.cons_append, snapL, List.length_cons, snapL_append ts r b (i + 1)]
    rw [show i + 1 + r.length = i + (r.length + 1) by omega]
theorem snapN_append (ts : List Int) : ∀ (a b : ML) (i : Nat), snapN ts i (a ++ b) = snapN ts i a + snapN ts (i + a.length) b
  | [], b, i => by simp [snapN]
  | x :: r, b, i => by
    simp only [List.cons_append, snapN, List.length_cons, snapN_append ts r b (i + 1)]
    rw [show i + 1 + r.length = i + (r.length + 1) by omega]; omega
theorem snapL_take (ts : List Int) (l : ML) (k : Nat) (h : k < l.length) : snapL ts 0 (l.take (k + 1)) = snapL ts 0 (l.take k) ++ [sn ts k l[k]] := by
  rw [List.take_succ_eq_append_getElem h, snapL_append]
  simp only [snapL, List.length_take, Nat.zero_add, Nat.min_eq_left (Nat.le_of_lt h)]
theorem snapN_take (ts : List Int) (l : ML) (k : Nat) (h : k < l.length) : snapN ts 0 (l.take (k + 1)) = snapN ts 0 (l.take k) + (if hit ts k l[k] then 1 else 0) := by
  rw [List.take_succ_eq_append_getElem h, snapN_append]
  simp only [snapN, List.length_take, Nat.zero_add, Nat.min_eq_left (Nat.le_of_lt h), Nat.add_zero]
theorem snapL_len (ts : List Int) : ∀ (l : ML) (i : Nat), (snapL ts i l).length = l.length
  | [], i => rfl
  | x :: r, i => by simp [snapL, snapL_len ts r (i + 1)]
theorem snapN_le (ts : List Int) : ∀ (l : ML) (i : Nat), snapN ts i l ≤ l.length
  | [], i => Nat.le_refl _
  | x :: r, i => by have := snapN_le ts r (i + 1); simp only [snapN, List.length_cons]; split <;> omega

/-- A set, the marks' row and a Snaps share no block. -/
theorem sepT {w : World} {b t : Nat} {ro : Option Nat} {l : ML} {A : Option Addr} {ts : List Int} {c : Nat} {v : Value} {asked : List Int} (h : IsSet w b ro l) (k : IsSnaps w t A ts c v asked) : ∀ x, foot b ro x → ¬ footT t v x := by
  have hrow : ∀ g, v.ownBlock = some g → ∃ cur, w.heap[g]? = some (.cells cur 3 (0, 0)) := by
    intro g hg
    rcases k.row.2 with ⟨rfl, _⟩ | ⟨g', cap, cur, rfl, _, hh, _⟩
    · simp [Value.ownBlock] at hg
    · obtain rfl : g' = g := by simpa [Value.ownBlock] using hg
      exact ⟨cur, hh⟩
  have hmap : ∀ r, ro = some r → ∃ es clock, w.heap[r]? = some (.map es clock) := by
    rintro r rfl
    obtain ⟨es, clock, hb, _⟩ := h.map
    exact ⟨es, clock, hb⟩
  rintro x (rfl | hx) (rfl | hy)
  · have h1 := h.blk; rw [k.blk] at h1
    injection h1 with h1; injection h1 with h0 h2; exact absurd h2 (by decide)
  · obtain ⟨cur, hc⟩ := hrow x hy
    have h1 := h.blk; rw [hc] at h1
    injection h1 with h1; injection h1 with _ h2; exact absurd h2 (by decide)
  · obtain ⟨es, clock, hb⟩ := hmap x hx.symm
    have h1 := k.blk; rw [hb] at h1; cases h1
  · obtain ⟨es, clock, hb⟩ := hmap x hx.symm
    obtain ⟨cur, hc⟩ := hrow x hy
    rw [hb] at hc; cases hc
theorem sepM {w : World} {t base n : Nat} {u : Value} {xs : List Value} {A : Option Addr} {ts : List Int} {c : Nat} {v : Value} {asked : List Int} (h : w.ownsRow base 33 2 u n xs) (k : IsSnaps w t A ts c v asked) : ∀ x, u.ownBlock = some x → ¬ footT t v x := by
  intro x hx hf
  obtain ⟨cur, hc⟩ : ∃ cur, w.heap[x]? = some (.cells cur 33 (0, 0)) := by
    rcases h.2 with ⟨rfl, _⟩ | ⟨g', cap, cur, rfl, _, hh, _⟩
    · simp [Value.ownBlock] at hx
    · obtain rfl : g' = x := by simpa [Value.ownBlock] using hx
      exact ⟨cur, hh⟩
  rcases hf with rfl | hf
  · have h1 := k.blk; rw [hc] at h1
    injection h1 with h1; injection h1 with _ h2; exact absurd h2 (by decide)
  · rcases k.row.2 with ⟨rfl, _⟩ | ⟨g', cap, cur', rfl, _, hh, _⟩
    · simp [Value.ownBlock] at hf
    · obtain rfl : g' = x := by simpa [Value.ownBlock] using hf
      rw [hc] at hh
      injection hh with h1; injection h1 with _ h2; exact absurd h2 (by decide)
theorem sepS {w : World} {b base n : Nat} {ro : Option Nat} {l : ML} {u : Value} {xs : List Value} (h : w.ownsRow base 33 2 u n xs) (k : IsSet w b ro l) : ∀ x, u.ownBlock = some x → ¬ foot b ro x := by
  intro x hx hf
  obtain ⟨cur, hc⟩ : ∃ cur, w.heap[x]? = some (.cells cur 33 (0, 0)) := by
    rcases h.2 with ⟨rfl, _⟩ | ⟨g', cap, cur, rfl, _, hh, _⟩
    · simp [Value.ownBlock] at hx
    · obtain rfl : g' = x := by simpa [Value.ownBlock] using hx
      exact ⟨cur, hh⟩
  rcases hf with rfl | hf
  · have h1 := k.blk; rw [hc] at h1
    injection h1 with h1; injection h1 with _ h2; exact absurd h2 (by decide)
  · obtain ⟨es, clock, hb, _⟩ : MapOf w x l := by subst hf; exact k.map
    rw [hb] at hc; cases hc

theorem Snap_nil (p : Value) (w : World) : Calls Tryd.prog 34 #[p, .nilIface] w fun e w' => e = .returned (.int .i64 0) ∧ w' = w := by
  go_enter Tryd.func34, Tryd.ntmps34
  go_wp2
  go_ret
  exact ⟨rfl, rfl⟩

/-- What one round of Snap leaves, slot by slot. -/
def VSnap (b r q : Nat) (nm x : Int) (s : Nat) (v : Value) (w : World) : Prop := match s with
  | 30 => v = .pointer (some ⟨b, 0, none⟩)
  | 31 => v = .pointer (some ⟨b, 0, none⟩)
  | 32 => v = .pointer (some ⟨b, 0, none⟩)
  | 33 => v = .map (some r)
  | 34 => v = .pointer (some ⟨q, 0, none⟩)
  | 35 => v = .int .u8 nm
  | 36 => v = .int .i64 x
  | _ => True
theorem VSnap_mono (b r q : Nat) (nm x : Int) : ∀ s v w w', VSnap b r q nm x s v w → Below w.heap.size w w' → VSnap b r q nm x s v w' := fun _ _ _ _ h _ => h

set_option maxRecDepth 100000 in
set_option maxHeartbeats 1000000 in
theorem Snap_any (b : Nat) (ro : Option Nat) (l : ML) (t : Nat) (A : Option Addr) (ts : List Int) (c : Nat) (v : Value) (w : World) (hs : IsSet w b ro l) (ht : IsSnaps w t A ts c v []) (hto : ts.length ≤ 9223372036854775807) (hw : ∀ x ∈ ts, (Lit.int .i64 x).wf = true) :
    Calls Tryd.prog 34 #[.pointer (some ⟨b, 0, none⟩), .iface 61 (.pointer (some ⟨t, 0, none⟩))] w fun e w' => e = .returned (.int .i64 (snapN ts 0 l)) ∧ IsSet w' b ro (snapL ts 0 l) ∧ ∃ v', IsSnaps w' t A ts c v' (l.map (·.2)) ∧ Chg (fun k => foot b ro k ∨ t ≤ k) w w' := by
  have HS := Lib.hid hs
  have HT := Lib.hid ht
  have HW := Lib.hid hw
  have hm : ∀ w : World, (method 61 61 (.pointer (some ⟨t, 0, none⟩)) "Snap").run Tryd.prog w = .ok (108, .pointer (some ⟨t, 0, none⟩)) w := fun _ => by kernel_rfl
  have hl59 := hs.ok.length
  clear hs ht hw
  go_enter Tryd.func34, Tryd.ntmps34
  go_wp2_with fail
  refine (All_any b ro l _ HS.out).mono ?_
  rintro e w1 ⟨u, rfl, hrow, hb⟩
  obtain ⟨A1, c1, rfl⟩ := row_form hrow
  have HR := Lib.hid hrow
  have HB := Lib.hid hb
  clear hrow hb
  go_wp2
  go_loopw [5, 14] (fun n i wr => ∃ (k : Nat) (v' : Value), k ≤ l.length ∧ i = .int .i64 k ∧ n = .int .i64 (snapN ts 0 (l.take k)) ∧ IsSet wr b ro (snapL ts 0 (l.take k) ++ l.drop k) ∧ wr.ownsRow w.heap.size 33 2 (.slice A1 l.length c1) l.length (cellsM l) ∧ IsSnaps wr t A ts c v' ((l.take k).map (·.2)) ∧ Chg (fun x => foot b ro x ∨ t ≤ x) w wr) (fun _ i _ => l.length - (intOf i).toNat)
  case atStart => exact ⟨0, v, Nat.zero_le _, rfl, rfl, HS.out.below HB.out, HR.out, HT.out.below HB.out, Chg.of_below HB.out⟩
  case round =>
    obtain ⟨k, v', hk, rfl, rfl, hset, hrow, hsn, hch⟩ := hrel
    have hN := snapN_le ts (l.take k) 0
    rw [List.length_take] at hN
    by_cases hlt : k < l.length
    · obtain ⟨r, rfl⟩ : ∃ r, ro = some r := by
        cases ro with
        | none => have : l = [] := HS.out.map; subst this; simp at hlt
        | some r => exact ⟨r, rfl⟩
      obtain ⟨g, cap, he, -, hgl⟩ := hrow.form (by omega)
      obtain ⟨rfl, rfl⟩ : A1 = some ⟨g, 0, none⟩ ∧ c1 = cap := by simpa using he
      obtain ⟨e1, e2⟩ := cellsM_get l k hlt
      have g1 : wr.cell? ⟨g, k * 2, none⟩ = some (.int .u8 l[k].1) := (hrow.cellAt (k * 2) (by omega)).trans e1
      have g2 : wr.cell? ⟨g, k * 2 + 1, none⟩ = some (.int .i64 l[k].2) := (hrow.cellAt (k * 2 + 1) (by omega)).trans e2
      have hwn : (Lit.int .u8 l[k].1).wf = true := good_wf (HS.out.ok.2 l[k] (List.getElem_mem hlt)).1
      have hkey := keyOf_int_mk Tryd.underlying5 hwn
      have htk : (l.take (k + 1)).map (·.2) = (l.take k).map (·.2) ++ [l[k].2] := by rw [List.take_succ_eq_append_getElem hlt, List.map_append]; rfl
      have hal : ((l.take k).map (·.2)).length = k := by simp; omega
      have HTL : Hid _ := snapL_take ts l k hlt
      have HTN : Hid _ := snapN_take ts l k hlt
      have hsp : l.drop k = l[k] :: l.drop (k + 1) := List.drop_eq_getElem_cons hlt
      have hlen : (snapL ts 0 (l.take k)).length = k := by rw [snapL_len, List.length_take]; omega
      rw [hsp] at hset
      have HTA := Lib.hid htk
      have HAL := Lib.hid hal
      have HSet := Lib.hid hset
      have HRow := Lib.hid hrow
      have HSn := Lib.hid hsn
      have HCh := Lib.hid hch
      clear hset hrow hsn hch htk hal he e1 e2 hsp hlen
      generalize snapN ts 0 (l.take k) = N at *
      generalize snapL ts 0 (l.take k) = M at *
      generalize hTd : l.drop (k + 1) = T at *
      have HTd : Hid (l.drop (k + 1) = T) := hTd
      clear hTd
      generalize l[k] = x at *
      obtain ⟨nm, pl⟩ := x
      go_wp2_with fail
      refine (Snaps_any t A ts c v' _ pl _ (HSn.out.below ((Below.refl _ _).alloc (Nat.le_refl _) _)) (by rw [HAL.out]; omega) hto).mono ?_
      rw [HAL.out]
      rintro e w3 ⟨rfl, v3, hs3, hc3⟩
      have hbx : ∀ j, footT t v' j → j < wr.heap.size := by
        rintro j (rfl | hj)
        · exact HSn.out.lt
        · exact (HSn.out.row.lt j hj).2
      have hbl := HSet.out.lt
      have hal0 : Below wr.heap.size wr (wr.alloc (.cells #[.int .u8 nm, .int .i64 pl] 33)) := (Below.refl _ _).alloc (Nat.le_refl _) _
      have b0 : w3.cell? ⟨wr.heap.size, 0, none⟩ = some (.int .u8 nm) := (hc3.cell (by simp) (fun h => by have := hbx _ h; simp at this)).trans (by simp)
      have b1 : w3.cell? ⟨wr.heap.size, 1, none⟩ = some (.int .i64 pl) := (hc3.cell (by simp) (fun h => by have := hbx _ h; simp at this)).trans (by simp)
      have hset3 : IsSet w3 b (some r) (M ++ (nm, pl) :: T) := (HSet.out.below hal0).kept hc3 (sepT (HSet.out.below hal0) (HSn.out.below hal0))
      have hrow3 := row_chg (HRow.out.alloc (.cells #[.int .u8 nm, .int .i64 pl] 33)) hc3 (sepM (HRow.out.alloc _) (HSn.out.below hal0))
      have htw : t ≤ w3.heap.size := Nat.le_of_lt hs3.lt
      have hch3 : Chg (fun x => foot b (some r) x ∨ t ≤ x) w w3 := (HCh.out.then_below hal0).trans hc3 (fun x _ h => by
        rcases h with rfl | h
        · exact .inr (Nat.le_refl _)
        · exact .inr (Nat.le_of_lt ((HSn.out.row.lt x h).1)))
      have hwa : (Lit.int .i64 (ans ts k)).wf = true := by
        unfold ans
        cases hq : ts[k]? with
        | none => decide
        | some y => exact HW.out y (List.mem_of_getElem? hq)
      have hht : hit ts k (nm, pl) = decide (0 ≤ ans ts k ∧ ans ts k ≠ pl) := rfl
      have hsn : sn ts k (nm, pl) = if hit ts k (nm, pl) then (nm, ans ts k) else (nm, pl) := rfl
      have HS3 := Lib.hid hset3
      have HR3 := Lib.hid hrow3
      have HN3 := Lib.hid hs3
      have HC3 := Lib.hid hch3
      have c3 := hset3.cell
      have HWA := Lib.hid hwa
      have HHt := Lib.hid hht
      have HSN := Lib.hid hsn
      clear hbx hset3 hrow3 hs3 hch3 hc3 hwa hht hsn hal0
      generalize ans ts k = a at *
      have hbx : wr.heap.size < w3.heap.size := World.block_lt_of_cell? w3 _ b0
      have hnl : ∀ (M' : ML) (N' : Nat) (w4 : World), hit ts k (nm, pl) = decide (N' = N + 1) → (N' = N ∨ N' = N + 1) → M' = M ++ [sn ts k (nm, pl)] → IsSet w4 b (some r) (M' ++ T) → Chg (foot b (some r)) w3 w4 →
          ∃ (j : Nat) (v' : Value), j ≤ l.length ∧ Value.int .i64 ((k : Int) + 1) = .int .i64 j ∧ Value.int .i64 (N' : Int) = .int .i64 (snapN ts 0 (l.take j)) ∧ IsSet w4 b (some r) (snapL ts 0 (l.take j) ++ l.drop j) ∧ w4.ownsRow w.heap.size 33 2 (.slice (some ⟨g, 0, none⟩) l.length c1) l.length (cellsM l) ∧ IsSnaps w4 t A ts c v' ((l.take j).map (·.2)) ∧ Chg (fun x => foot b (some r) x ∨ t ≤ x) w w4 := by
        intro M' N' w4 hh hN' hM hs4 hc4
        refine ⟨k + 1, v3, by omega, by go_num, ?_, ?_, row_chg HR3.out hc4 (sepS HR3.out HS3.out), ?_, HC3.out.trans hc4 (fun x _ h => .inl h)⟩
        · rw [HTN.out, hh]
          rcases hN' with rfl | rfl <;> simp
        · rw [HTL.out, HTd.out, ← hM]; exact hs4
        · rw [HTA.out]
          exact HN3.out.kept hc4 (fun x hx hf => sepT HS3.out HN3.out x hf hx) (sepA HS3.out HN3.out.to_)
      have HNL := Lib.hid hnl
      clear hnl
      by_cases h1 : 0 ≤ a
      · by_cases h2 : a = pl
        · subst h2
          have hno : hit ts k (nm, a) = false := by rw [HHt.out]; simp
          have HNo := Lib.hid hno
          have e : M ++ (nm, a) :: T = M ++ [sn ts k (nm, a)] ++ T := by rw [HSN.out, hno]; simp
          have HE := Lib.hid e
          clear hno e
          go_wp2
          go_roundw
          case rel => exact HNL.out _ N w3 (by rw [HNo.out]; simp) (.inl rfl) rfl (by rw [← HE.out]; exact HS3.out) (Chg.refl _ _)
          case measure => simp [intOf]; omega
        · have h3 : (a != pl) = true := by simpa using h2
          have hyes : hit ts k (nm, pl) = true := by rw [HHt.out]; simp [h1, h2]
          have e : M ++ (nm, a) :: T = M ++ [sn ts k (nm, pl)] ++ T := by rw [HSN.out, hyes]; simp
          have HY := Lib.hid hyes
          have HE := Lib.hid e
          have HIN : Hid (ins (M ++ (nm, pl) :: T) nm a = M ++ (nm, a) :: T) := ins_mid M T (nm, pl) a HS3.out.ok.1
          clear hyes e
          go_wp2
          refine wp_held_last mixed (VSnap b r wr.heap.size nm a) (VSnap_mono _ _ _ _ _) (by kernel_rfl) [30, 31, 32, 33, 34, 35, 36] (by kernel_rfl) 7 (by kernel_rfl) (by kernel_rfl) (by kernel_rfl) (by kernel_rfl) ?_ ?_
          · intro j hj
            have hj' : j < 7 := hj
            rcases (by omega : j = 0 ∨ j = 1 ∨ j = 2 ∨ j = 3 ∨ j = 4 ∨ j = 5 ∨ j = 6) with rfl | rfl | rfl | rfl | rfl | rfl | rfl
            · -- operation 0
              (refine owes_val (L := [(0, false)]) rfl rfl rfl (by kernel_rfl) ?_; intro a' w' hb' hfacts; obtain ⟨hf0, -⟩ := hfacts; replace hf0 : a'.tmps[0]?.getD undef = .pointer (some ⟨b, 0, none⟩) := hf0)
              have q0 := (HS3.out.below hb').cell; have q1 := (hb'.cell (p := ⟨wr.heap.size, 0, none⟩) hbx).trans b0
              first
                | (go_simp; first | exact ⟨_, rfl, Below.refl _ _, rfl⟩ | exact ⟨_, rfl, Below.refl _ _, trivial⟩ | exact ⟨_, rfl, Below.refl _ _⟩ | exact ⟨_, rfl, (Below.refl _ _).alloc (Nat.le_refl _) _, trivial⟩)
                | (apply Exists.intro
                   apply And.intro
                   · assumption
                   · apply And.intro
                     · intro hc
                       first
                         | (refine absurd hc ?_; simp [undef]; done)
                         | (go_simp; first | exact ⟨_, rfl, Below.refl _ _, rfl⟩ | exact ⟨_, rfl, Below.refl _ _, trivial⟩ | exact ⟨_, rfl, Below.refl _ _⟩ | exact ⟨_, rfl, (Below.refl _ _).alloc (Nat.le_refl _) _, trivial⟩)
                     · intro hc
                       first | exact absurd rfl hc | exact trivial | exact rfl)
                | (apply Exists.intro
                   apply And.intro
                   · assumption
                   · intro hc
                     first
                       | (refine absurd hc ?_; simp [undef]; done)
                       | (go_simp; first | exact ⟨_, rfl, Below.refl _ _, rfl⟩ | exact ⟨_, rfl, Below.refl _ _, trivial⟩ | exact ⟨_, rfl, Below.refl _ _⟩ | exact ⟨_, rfl, (Below.refl _ _).alloc (Nat.le_refl _) _, trivial⟩))
            · -- operation 1
              (refine owes_val (L := [(30, true)]) rfl rfl rfl (by kernel_rfl) ?_; intro a' w' hb' hfacts; obtain ⟨hf30, -⟩ := hfacts; try simp only [VSnap] at hf30)
              have q0 := (HS3.out.below hb').cell; have q1 := (hb'.cell (p := ⟨wr.heap.size, 0, none⟩) hbx).trans b0
              first
                | (go_simp; first | exact ⟨_, rfl, Below.refl _ _, rfl⟩ | exact ⟨_, rfl, Below.refl _ _, trivial⟩ | exact ⟨_, rfl, Below.refl _ _⟩ | exact ⟨_, rfl, (Below.refl _ _).alloc (Nat.le_refl _) _, trivial⟩)
                | (apply Exists.intro
                   apply And.intro
                   · assumption
                   · apply And.intro
                     · intro hc
                       first
                         | (refine absurd hc ?_; simp [undef]; done)
                         | (go_simp; first | exact ⟨_, rfl, Below.refl _ _, rfl⟩ | exact ⟨_, rfl, Below.refl _ _, trivial⟩ | exact ⟨_, rfl, Below.refl _ _⟩ | exact ⟨_, rfl, (Below.refl _ _).alloc (Nat.le_refl _) _, trivial⟩)
                     · intro hc
                       first | exact absurd rfl hc | exact trivial | exact rfl)
                | (apply Exists.intro
                   apply And.intro
                   · assumption
                   · intro hc
                     first
                       | (refine absurd hc ?_; simp [undef]; done)
                       | (go_simp; first | exact ⟨_, rfl, Below.refl _ _, rfl⟩ | exact ⟨_, rfl, Below.refl _ _, trivial⟩ | exact ⟨_, rfl, Below.refl _ _⟩ | exact ⟨_, rfl, (Below.refl _ _).alloc (Nat.le_refl _) _, trivial⟩))
            · -- operation 2
              (refine owes_val (L := [(31, true)]) rfl rfl rfl (by kernel_rfl) ?_; intro a' w' hb' hfacts; obtain ⟨hf31, -⟩ := hfacts; try simp only [VSnap] at hf31)
              have q0 := (HS3.out.below hb').cell; have q1 := (hb'.cell (p := ⟨wr.heap.size, 0, none⟩) hbx).trans b0
              first
                | (go_simp; first | exact ⟨_, rfl, Below.refl _ _, rfl⟩ | exact ⟨_, rfl, Below.refl _ _, trivial⟩ | exact ⟨_, rfl, Below.refl _ _⟩ | exact ⟨_, rfl, (Below.refl _ _).alloc (Nat.le_refl _) _, trivial⟩)
                | (apply Exists.intro
                   apply And.intro
                   · assumption
                   · apply And.intro
                     · intro hc
                       first
                         | (refine absurd hc ?_; simp [undef]; done)
                         | (go_simp; first | exact ⟨_, rfl, Below.refl _ _, rfl⟩ | exact ⟨_, rfl, Below.refl _ _, trivial⟩ | exact ⟨_, rfl, Below.refl _ _⟩ | exact ⟨_, rfl, (Below.refl _ _).alloc (Nat.le_refl _) _, trivial⟩)
                     · intro hc
                       first | exact absurd rfl hc | exact trivial | exact rfl)
                | (apply Exists.intro
                   apply And.intro
                   · assumption
                   · intro hc
                     first
                       | (refine absurd hc ?_; simp [undef]; done)
                       | (go_simp; first | exact ⟨_, rfl, Below.refl _ _, rfl⟩ | exact ⟨_, rfl, Below.refl _ _, trivial⟩ | exact ⟨_, rfl, Below.refl _ _⟩ | exact ⟨_, rfl, (Below.refl _ _).alloc (Nat.le_refl _) _, trivial⟩))
            · -- operation 3
              (refine owes_val (L := [(32, true)]) rfl rfl rfl (by kernel_rfl) ?_; intro a' w' hb' hfacts; obtain ⟨hf32, -⟩ := hfacts; try simp only [VSnap] at hf32)
              have q0 := (HS3.out.below hb').cell; have q1 := (hb'.cell (p := ⟨wr.heap.size, 0, none⟩) hbx).trans b0
              first
                | (go_simp; first | exact ⟨_, rfl, Below.refl _ _, rfl⟩ | exact ⟨_, rfl, Below.refl _ _, trivial⟩ | exact ⟨_, rfl, Below.refl _ _⟩ | exact ⟨_, rfl, (Below.refl _ _).alloc (Nat.le_refl _) _, trivial⟩)
                | (apply Exists.intro
                   apply And.intro
                   · assumption
                   · apply And.intro
                     · intro hc
                       first
                         | (refine absurd hc ?_; simp [undef]; done)
                         | (go_simp; first | exact ⟨_, rfl, Below.refl _ _, rfl⟩ | exact ⟨_, rfl, Below.refl _ _, trivial⟩ | exact ⟨_, rfl, Below.refl _ _⟩ | exact ⟨_, rfl, (Below.refl _ _).alloc (Nat.le_refl _) _, trivial⟩)
                     · intro hc
                       first | exact absurd rfl hc | exact trivial | exact rfl)
                | (apply Exists.intro
                   apply And.intro
                   · assumption
                   · intro hc
                     first
                       | (refine absurd hc ?_; simp [undef]; done)
                       | (go_simp; first | exact ⟨_, rfl, Below.refl _ _, rfl⟩ | exact ⟨_, rfl, Below.refl _ _, trivial⟩ | exact ⟨_, rfl, Below.refl _ _⟩ | exact ⟨_, rfl, (Below.refl _ _).alloc (Nat.le_refl _) _, trivial⟩))
            · -- operation 4
              (refine owes_val (L := [(7, false)]) rfl rfl rfl (by kernel_rfl) ?_; intro a' w' hb' hfacts; obtain ⟨hf7, -⟩ := hfacts; replace hf7 : a'.tmps[7]?.getD undef = .pointer (some ⟨wr.heap.size, 0, none⟩) := hf7)
              have q0 := (HS3.out.below hb').cell; have q1 := (hb'.cell (p := ⟨wr.heap.size, 0, none⟩) hbx).trans b0
              first
                | (go_simp; first | exact ⟨_, rfl, Below.refl _ _, rfl⟩ | exact ⟨_, rfl, Below.refl _ _, trivial⟩ | exact ⟨_, rfl, Below.refl _ _⟩ | exact ⟨_, rfl, (Below.refl _ _).alloc (Nat.le_refl _) _, trivial⟩)
                | (apply Exists.intro
                   apply And.intro
                   · assumption
                   · apply And.intro
                     · intro hc
                       first
                         | (refine absurd hc ?_; simp [undef]; done)
                         | (go_simp; first | exact ⟨_, rfl, Below.refl _ _, rfl⟩ | exact ⟨_, rfl, Below.refl _ _, trivial⟩ | exact ⟨_, rfl, Below.refl _ _⟩ | exact ⟨_, rfl, (Below.refl _ _).alloc (Nat.le_refl _) _, trivial⟩)
                     · intro hc
                       first | exact absurd rfl hc | exact trivial | exact rfl)
                | (apply Exists.intro
                   apply And.intro
                   · assumption
                   · intro hc
                     first
                       | (refine absurd hc ?_; simp [undef]; done)
                       | (go_simp; first | exact ⟨_, rfl, Below.refl _ _, rfl⟩ | exact ⟨_, rfl, Below.refl _ _, trivial⟩ | exact ⟨_, rfl, Below.refl _ _⟩ | exact ⟨_, rfl, (Below.refl _ _).alloc (Nat.le_refl _) _, trivial⟩))
            · -- operation 5
              (refine owes_val (L := [(34, true)]) rfl rfl rfl (by kernel_rfl) ?_; intro a' w' hb' hfacts; obtain ⟨hf34, -⟩ := hfacts; try simp only [VSnap] at hf34)
              have q0 := (HS3.out.below hb').cell; have q1 := (hb'.cell (p := ⟨wr.heap.size, 0, none⟩) hbx).trans b0
              first
                | (go_simp; first | exact ⟨_, rfl, Below.refl _ _, rfl⟩ | exact ⟨_, rfl, Below.refl _ _, trivial⟩ | exact ⟨_, rfl, Below.refl _ _⟩ | exact ⟨_, rfl, (Below.refl _ _).alloc (Nat.le_refl _) _, trivial⟩)
                | (apply Exists.intro
                   apply And.intro
                   · assumption
                   · apply And.intro
                     · intro hc
                       first
                         | (refine absurd hc ?_; simp [undef]; done)
                         | (go_simp; first | exact ⟨_, rfl, Below.refl _ _, rfl⟩ | exact ⟨_, rfl, Below.refl _ _, trivial⟩ | exact ⟨_, rfl, Below.refl _ _⟩ | exact ⟨_, rfl, (Below.refl _ _).alloc (Nat.le_refl _) _, trivial⟩)
                     · intro hc
                       first | exact absurd rfl hc | exact trivial | exact rfl)
                | (apply Exists.intro
                   apply And.intro
                   · assumption
                   · intro hc
                     first
                       | (refine absurd hc ?_; simp [undef]; done)
                       | (go_simp; first | exact ⟨_, rfl, Below.refl _ _, rfl⟩ | exact ⟨_, rfl, Below.refl _ _, trivial⟩ | exact ⟨_, rfl, Below.refl _ _⟩ | exact ⟨_, rfl, (Below.refl _ _).alloc (Nat.le_refl _) _, trivial⟩))
            · -- operation 6
              (refine owes_val (L := [(8, false)]) rfl rfl rfl (by kernel_rfl) ?_; intro a' w' hb' hfacts; obtain ⟨hf8, -⟩ := hfacts; replace hf8 : a'.tmps[8]?.getD undef = .int .i64 a := hf8)
              have q0 := (HS3.out.below hb').cell; have q1 := (hb'.cell (p := ⟨wr.heap.size, 0, none⟩) hbx).trans b0
              first
                | (go_simp; first | exact ⟨_, rfl, Below.refl _ _, rfl⟩ | exact ⟨_, rfl, Below.refl _ _, trivial⟩ | exact ⟨_, rfl, Below.refl _ _⟩ | exact ⟨_, rfl, (Below.refl _ _).alloc (Nat.le_refl _) _, trivial⟩)
                | (apply Exists.intro
                   apply And.intro
                   · assumption
                   · apply And.intro
                     · intro hc
                       first
                         | (refine absurd hc ?_; simp [undef]; done)
                         | (go_simp; first | exact ⟨_, rfl, Below.refl _ _, rfl⟩ | exact ⟨_, rfl, Below.refl _ _, trivial⟩ | exact ⟨_, rfl, Below.refl _ _⟩ | exact ⟨_, rfl, (Below.refl _ _).alloc (Nat.le_refl _) _, trivial⟩)
                     · intro hc
                       first | exact absurd rfl hc | exact trivial | exact rfl)
                | (apply Exists.intro
                   apply And.intro
                   · assumption
                   · intro hc
                     first
                       | (refine absurd hc ?_; simp [undef]; done)
                       | (go_simp; first | exact ⟨_, rfl, Below.refl _ _, rfl⟩ | exact ⟨_, rfl, Below.refl _ _, trivial⟩ | exact ⟨_, rfl, Below.refl _ _⟩ | exact ⟨_, rfl, (Below.refl _ _).alloc (Nat.le_refl _) _, trivial⟩))
          · intro f W3 hf hb3
            have f33 : f 33 = .map (some r) := hf 33 (by decide)
            have f35 : f 35 = .int .u8 nm := hf 35 (by decide)
            have f36 : f 36 = .int .i64 a := hf 36 (by decide)
            have HB3 := Lib.hid hb3
            have HS4 := Lib.hid (HS3.out.below hb3)
            have HLen : Hid ((M ++ (nm, pl) :: T).length < maxLen) := by
              have := HS3.out.ok.length; unfold Hid maxLen; omega
            clear hf hb3
            simp only [putAll, put_lit, List.map_cons, List.map_nil, List.set_cons_succ, List.set_cons_zero]
            simp only [f33, f35, f36]
            refine wpOp_last rfl ?_
            refine wpList_mapUpdate_own _ rfl _ _ _ 68 rfl 5 3 keyU8 Tryd.underlying68 _ r _ (toD _) rfl HS4.out.map HLen.out _ _ _ rfl rfl hkey _ [] (plainElem_int Tryd.underlying3 HWA.out) ?_
            intro w4 hown4 hg4
            rw [toD_put, HIN.out] at hown4
            have hset4 : IsSet w4 b (some r) (M ++ (nm, a) :: T) := by
              have hne : b ≠ r := by
                rintro rfl
                obtain ⟨es, clock, hb, _⟩ := HS4.out.map
                have := HS4.out.blk; rw [hb] at this; cases this
              refine ⟨(hg4.block b HS4.out.lt (by simpa using hne)).trans HS4.out.blk, ?_, mapOf_tight hown4⟩
              rw [← HIN.out]
              exact HS4.out.ok.ins (HS4.out.ok.2 (nm, pl) (by simp)).1 HWA.out
            have hc4 : Chg (foot b (some r)) w3 w4 := (Chg.of_below HB3.out).trans ((Chg.of_grown hg4).mono (T := foot b (some r)) (fun x hx => .inr hx)) (fun x _ h => h)
            have HS5 := Lib.hid hset4
            have HC5 := Lib.hid hc4
            clear hown4 hg4 hset4 hc4
            go_wp2
            refine ⟨?_, by simp [intOf]; omega⟩
            exact HNL.out _ (N + 1) w4 (by rw [HY.out]; simp) (.inr rfl) rfl (by rw [← HE.out]; exact HS5.out) HC5.out
      · have hno : hit ts k (nm, pl) = false := by rw [HHt.out]; simp [h1]
        have HNo := Lib.hid hno
        have e : M ++ (nm, pl) :: T = M ++ [sn ts k (nm, pl)] ++ T := by rw [HSN.out, hno]; simp
        have HE := Lib.hid e
        clear hno e
        go_wp2
        go_roundw
        case rel => exact HNL.out _ N w3 (by rw [HNo.out]; simp) (.inl rfl) rfl (by rw [← HE.out]; exact HS3.out) (Chg.refl _ _)
        case measure => simp [intOf]; omega
    · have hk' : k = l.length := by omega
      subst hk'
      rw [List.take_length] at hsn hset ⊢
      rw [List.drop_length, List.append_nil] at hset
      have HSet := Lib.hid hset
      have HSn := Lib.hid hsn
      have HCh := Lib.hid hch
      clear hset hrow hsn hch
      go_wp2
      go_ret
      exact ⟨rfl, HSet.out, v', HSn.out, HCh.out⟩
end Go.Proofs.YtdkdnkmfjpdcpaaDoor.Mk
