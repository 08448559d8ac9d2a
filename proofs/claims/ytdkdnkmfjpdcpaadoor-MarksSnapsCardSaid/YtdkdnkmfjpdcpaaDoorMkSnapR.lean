/-
  The document's SnapTo. No condition.
-/
import Derived.Test.YtdkdnkmfjpdcpaaDoorMkStS
namespace Go.Proofs.YtdkdnkmfjpdcpaaDoor.Mk
open Go.RowKit Go.Maps Go.Proofs.YtdkdnkmfjpdcpaaDoor.Reg
set_option linter.unusedVariables false
set_option linter.unusedSimpArgs false

theorem snap_past (ts : List Int) : ∀ (l : ML) (i : Nat), ts.length ≤ i → snapL ts i l = l ∧ snapN ts i l = 0
  | [], i, _ => ⟨rfl, rfl⟩
  | x :: r, i, h => by
    obtain ⟨h1, h2⟩ := snap_past ts r (i + 1) (by omega)
    have hh : hit ts i x = false := by
      unfold hit ans
      rw [List.getElem?_eq_none h]
      simp
    simp only [snapL, snapN, sn, hh, h1, h2]
    simp

/-- What one round of SnapTo's write leaves, slot by slot. -/
def VSnapR (b g cap n k : Nat) (x : Int) (A : Option Addr) (tn c : Nat) (ta : Addr) (s : Nat) (v : Value) (w : World) : Prop := match s with
  | 42 => v = .pointer (some ⟨b, 0, none⟩)
  | 43 => v = .pointer (some ⟨b, 0, none⟩)
  | 44 => v = .pointer (some ⟨b, 0, none⟩)
  | 45 => v = .slice (some ⟨g, 0, none⟩) n cap
  | 46 => v = .int .i64 k
  | 47 => v = .slice A tn c
  | 48 => v = .int .i64 k
  | 49 => v = .pointer (some ta)
  | 50 => v = .int .i64 x
  | 51 => v = .pointer (some ⟨g, k * 2, none⟩)
  | 52 => v = .pointer (some ⟨g, k * 2 + 1, none⟩)
  | _ => True
theorem VSnapR_mono (b g cap n k : Nat) (x : Int) (A : Option Addr) (tn c : Nat) (ta : Addr) : ∀ s v w w', VSnapR b g cap n k x A tn c ta s v w → Below w.heap.size w w' → VSnapR b g cap n k x A tn c ta s v w' := fun _ _ _ _ h _ => h

set_option maxRecDepth 100000 in
set_option maxHeartbeats 1000000 in
theorem SnapR_any (b : Nat) (v : Value) (l : ML) (A : Option Addr) (ts : List Int) (c : Nat) (w : World) (hs : IsRef w b v l) (ht : IntsAt w A ts) (hA : ts = [] ∨ ∀ ad, A = some ad → ad.block < w.heap.size → ¬ footR b v ad.block) (hto : ts.length ≤ 9223372036854775807) (hw : ∀ x ∈ ts, (Lit.int .i64 x).wf = true) :
    Calls Tryd.prog 35 #[.pointer (some ⟨b, 0, none⟩), .slice A ts.length c] w fun e w' => e = .returned (.int .i64 (snapN ts 0 l)) ∧ IsRef w' b v (snapL ts 0 l) ∧ Chg (footR b v) w w' := by
  have HS := Lib.hid hs
  have hl59 := hs.ok.length
  have HT := Lib.hid ht
  have HA := Lib.hid hA
  have HW := Lib.hid hw
  obtain ⟨A0, c0', rfl⟩ := row_form hs.row
  clear hs ht hA hw
  go_enter Tryd.func35, Tryd.ntmps35
  go_wp2
  go_loopw [5, 6] (fun n i wr => ∃ k : Nat, k ≤ l.length ∧ k ≤ ts.length ∧ i = .int .i64 k ∧ n = .int .i64 (snapN ts 0 (l.take k)) ∧ IsRef wr b (.slice A0 l.length c0') (snapL ts 0 (l.take k) ++ l.drop k) ∧ Chg (footR b (.slice A0 l.length c0')) w wr) (fun _ i _ => l.length - (intOf i).toNat)
  case atStart => exact ⟨0, Nat.zero_le _, Nat.zero_le _, rfl, rfl, HS.out, Chg.refl _ _⟩
  case round =>
    obtain ⟨k, hk, hkt, rfl, rfl, hset, hch⟩ := hrel
    have c0 := hset.cell
    have hN := snapN_le ts (l.take k) 0
    rw [List.length_take] at hN
    by_cases hlt : k < l.length ∧ k < ts.length
    · obtain ⟨hlt, hlu⟩ := hlt
      have hlen : (snapL ts 0 (l.take k)).length = k := by rw [snapL_len, List.length_take]; omega
      have hsp : l.drop k = l[k] :: l.drop (k + 1) := List.drop_eq_getElem_cons hlt
      have HTL : Hid _ := snapL_take ts l k hlt
      have HTN : Hid _ := snapN_take ts l k hlt
      have hL2 : (snapL ts 0 (l.take k) ++ l[k] :: l.drop (k + 1)).length = l.length := by
        rw [← hsp, List.length_append, hlen, List.length_drop]; omega
      rw [hsp] at hset
      have hans : ans ts k = ts[k] := by unfold ans; rw [List.getElem?_eq_getElem hlu]; rfl
      have hwa : (Lit.int .i64 (ans ts k)).wf = true := by rw [hans]; exact HW.out _ (List.getElem_mem hlu)
      obtain ⟨ta, rfl, htl, htx⟩ : ∃ ta, A = some ta ∧ ta.block < wr.heap.size ∧ wr.cell? (ta.add k) = some (.int .i64 (ans ts k)) := by
        rcases HT.out.kept hch HA.out with h | ⟨ta, h1, h2, h3⟩
        · subst h; simp at hlu
        · exact ⟨ta, h1, h2, by rw [hans]; exact h3 k hlu⟩
      have hht : hit ts k l[k] = decide (0 ≤ ans ts k ∧ ans ts k ≠ l[k].2) := rfl
      have hsn : sn ts k l[k] = if hit ts k l[k] then (l[k].1, ans ts k) else l[k] := rfl
      generalize snapN ts 0 (l.take k) = N at *
      generalize snapL ts 0 (l.take k) = M at *
      generalize hTd : l.drop (k + 1) = T at *
      have HTd : Hid (l.drop (k + 1) = T) := hTd
      clear hTd
      generalize l[k] = x at *
      obtain ⟨nm, pl⟩ := x
      obtain ⟨g, cap, he, hgl, hgb, hce⟩ := hset.form (by rw [hL2]; omega)
      obtain ⟨rfl, -, rfl⟩ : A0 = some ⟨g, 0, none⟩ ∧ l.length = (M ++ (nm, pl) :: T).length ∧ c0' = cap := by simpa using he
      obtain ⟨-, g1, f1⟩ := hce k (by rw [hL2]; exact hlt)
      have hek : (M ++ (nm, pl) :: T)[k]'(by rw [hL2]; exact hlt) = (nm, pl) := by simp [← hlen]
      rw [hek] at g1
      have HSet := Lib.hid hset
      have HCH := Lib.hid hch
      have HWA := Lib.hid hwa
      have HLn := Lib.hid hlen
      have HL2 := Lib.hid hL2
      have HHt := Lib.hid hht
      have HSN := Lib.hid hsn
      clear hset hch hwa hlen hL2 he hce hek hsp hht hsn hans
      generalize ans ts k = a at *
      have hk1 : (k : Int) < (l.length : Int) := by omega
      have hk2 : (k : Int) < (ts.length : Int) := by omega
      have hi0 : (0 : Int) ≤ (k : Int) := by omega
      have hnl : ∀ (M' : ML) (N' : Nat) (w4 : World), hit ts k (nm, pl) = decide (N' = N + 1) → (N' = N ∨ N' = N + 1) → M' = M ++ [sn ts k (nm, pl)] → IsRef w4 b (.slice (some ⟨g, 0, none⟩) l.length c0') (M' ++ T) → Chg (footR b (.slice (some ⟨g, 0, none⟩) l.length c0')) wr w4 →
          ∃ j : Nat, j ≤ l.length ∧ j ≤ ts.length ∧ Value.int .i64 ((k : Int) + 1) = .int .i64 j ∧ Value.int .i64 (N' : Int) = .int .i64 (snapN ts 0 (l.take j)) ∧ IsRef w4 b (.slice (some ⟨g, 0, none⟩) l.length c0') (snapL ts 0 (l.take j) ++ l.drop j) ∧ Chg (footR b (.slice (some ⟨g, 0, none⟩) l.length c0')) w w4 := by
        intro M' N' w4 hh hN' hM hs4 hc4
        refine ⟨k + 1, by omega, by omega, by go_num, ?_, ?_, HCH.out.trans hc4 (fun x _ h => h)⟩
        · rw [HTN, hh]
          rcases hN' with rfl | rfl <;> simp
        · rw [HTL, HTd.out, ← hM]; exact hs4
      have HNL := Lib.hid hnl
      clear hnl
      by_cases h1 : 0 ≤ a
      · by_cases h2 : a = pl
        · subst h2
          have hno : hit ts k (nm, a) = false := by rw [HHt.out]; simp
          have HNo := Lib.hid hno
          have e : M ++ (nm, a) :: T = M ++ [sn ts k (nm, a)] ++ T := by rw [HSN.out, hno]; simp
          have HE := Lib.hid e
          clear hno e
          go_wp2
          go_quiet (fail)
          go_wp2
          go_roundw
          case rel => exact HNL.out _ N _ (by rw [HNo.out]; simp) (.inl rfl) rfl (by rw [← HE.out]; exact ⟨HSet.out.blk, HSet.out.ok, HSet.out.row⟩) (chg_drewN (Chg.refl _ _) nq)
          case measure => simp [intOf]; omega
        · have h3 : (a != pl) = true := by simpa using h2
          have hyes : hit ts k (nm, pl) = true := by rw [HHt.out]; simp [h1, h2]
          have e : M ++ (nm, a) :: T = M ++ [sn ts k (nm, pl)] ++ T := by rw [HSN.out, hyes]; simp
          have HY := Lib.hid hyes
          have HE := Lib.hid e
          clear hyes e
          go_wp2
          go_quiet (fail)
          go_wp2
          have HSq : Hid (IsRef (wr.drewN nq) b (.slice (some ⟨g, 0, none⟩) l.length c0') (M ++ (nm, pl) :: T)) := ⟨HSet.out.blk, HSet.out.ok, HSet.out.row⟩
          have HCq : Hid (Chg (footR b (.slice (some ⟨g, 0, none⟩) l.length c0')) wr (wr.drewN nq)) := chg_drewN (Chg.refl _ _) nq
          have c0q : (wr.drewN nq).cell? ⟨b, 0, none⟩ = some (.slice (some ⟨g, 0, none⟩) l.length c0') := c0
          have f1q : (wr.drewN nq).frozen? ⟨g, k * 2 + 1, none⟩ = false := f1
          have hglq : g < (wr.drewN nq).heap.size := hgl
          have htlq : ta.block < (wr.drewN nq).heap.size := htl
          have htxq : (wr.drewN nq).cell? (ta.add k) = some (.int .i64 a) := htx
          have g1q : (wr.drewN nq).cell? ⟨g, k * 2 + 1, none⟩ = some (.int .i64 pl) := g1
          generalize wr.drewN nq = W1 at *
          refine wp_held_far mixed (VSnapR b g c0' l.length k a (some ta) ts.length c (ta.add k)) (VSnapR_mono _ _ _ _ _ _ _ _ _ _) (by kernel_rfl) [42, 43, 44, 45, 46, 47, 48, 49, 50, 51, 52] (by kernel_rfl) 11 (by kernel_rfl) (by kernel_rfl) (by kernel_rfl) (by kernel_rfl) ?_ ?_
          · intro j hj
            have hj' : j < 11 := hj
            rcases (by omega : j = 0 ∨ j = 1 ∨ j = 2 ∨ j = 3 ∨ j = 4 ∨ j = 5 ∨ j = 6 ∨ j = 7 ∨ j = 8 ∨ j = 9 ∨ j = 10) with rfl | rfl | rfl | rfl | rfl | rfl | rfl | rfl | rfl | rfl | rfl
            · -- operation 0
              (refine owes_val (L := [(0, false)]) rfl rfl rfl (by kernel_rfl) ?_; intro a' w' hb' hfacts; obtain ⟨hf0, -⟩ := hfacts; replace hf0 : a'.tmps[0]?.getD undef = .pointer (some ⟨b, 0, none⟩) := hf0)
              have q0 := (hb'.cell (p := ⟨b, 0, none⟩) HSq.out.lt).trans c0q; have q1 := (hb'.cell (p := ta.add k) (by rw [add_block]; exact htlq)).trans htxq
              first
                | (go_simp; first | exact ⟨_, rfl, Below.refl _ _, rfl⟩ | exact ⟨_, rfl, Below.refl _ _, trivial⟩ | exact ⟨_, rfl, Below.refl _ _⟩ | exact ⟨_, rfl, (Below.refl _ _).alloc (Nat.le_refl _) _, trivial⟩)
                | (apply Exists.intro
                   apply And.intro
                   · assumption
                   · apply And.intro
                     · intro hc
                       first
                         | (refine absurd hc ?_; simp [undef]; done)
                         | (go_simp; first | exact ⟨_, rfl, Below.refl _ _, rfl⟩ | exact ⟨_, rfl, Below.refl _ _, trivial⟩ | exact ⟨_, rfl, Below.refl _ _⟩ | exact ⟨_, rfl, (Below.refl _ _).alloc (Nat.le_refl _) _, trivial⟩)
                     · intro hc
                       first | exact absurd rfl hc | exact trivial | exact rfl)
                | (apply Exists.intro
                   apply And.intro
                   · assumption
                   · intro hc
                     first
                       | (refine absurd hc ?_; simp [undef]; done)
                       | (go_simp; first | exact ⟨_, rfl, Below.refl _ _, rfl⟩ | exact ⟨_, rfl, Below.refl _ _, trivial⟩ | exact ⟨_, rfl, Below.refl _ _⟩ | exact ⟨_, rfl, (Below.refl _ _).alloc (Nat.le_refl _) _, trivial⟩))
            · -- operation 1
              (refine owes_val (L := [(42, true)]) rfl rfl rfl (by kernel_rfl) ?_; intro a' w' hb' hfacts; obtain ⟨hf42, -⟩ := hfacts; try simp only [VSnapR] at hf42)
              have q0 := (hb'.cell (p := ⟨b, 0, none⟩) HSq.out.lt).trans c0q; have q1 := (hb'.cell (p := ta.add k) (by rw [add_block]; exact htlq)).trans htxq
              first
                | (go_simp; first | exact ⟨_, rfl, Below.refl _ _, rfl⟩ | exact ⟨_, rfl, Below.refl _ _, trivial⟩ | exact ⟨_, rfl, Below.refl _ _⟩ | exact ⟨_, rfl, (Below.refl _ _).alloc (Nat.le_refl _) _, trivial⟩)
                | (apply Exists.intro
                   apply And.intro
                   · assumption
                   · apply And.intro
                     · intro hc
                       first
                         | (refine absurd hc ?_; simp [undef]; done)
                         | (go_simp; first | exact ⟨_, rfl, Below.refl _ _, rfl⟩ | exact ⟨_, rfl, Below.refl _ _, trivial⟩ | exact ⟨_, rfl, Below.refl _ _⟩ | exact ⟨_, rfl, (Below.refl _ _).alloc (Nat.le_refl _) _, trivial⟩)
                     · intro hc
                       first | exact absurd rfl hc | exact trivial | exact rfl)
                | (apply Exists.intro
                   apply And.intro
                   · assumption
                   · intro hc
                     first
                       | (refine absurd hc ?_; simp [undef]; done)
                       | (go_simp; first | exact ⟨_, rfl, Below.refl _ _, rfl⟩ | exact ⟨_, rfl, Below.refl _ _, trivial⟩ | exact ⟨_, rfl, Below.refl _ _⟩ | exact ⟨_, rfl, (Below.refl _ _).alloc (Nat.le_refl _) _, trivial⟩))
            · -- operation 2
              (refine owes_val (L := [(43, true)]) rfl rfl rfl (by kernel_rfl) ?_; intro a' w' hb' hfacts; obtain ⟨hf43, -⟩ := hfacts; try simp only [VSnapR] at hf43)
              have q0 := (hb'.cell (p := ⟨b, 0, none⟩) HSq.out.lt).trans c0q; have q1 := (hb'.cell (p := ta.add k) (by rw [add_block]; exact htlq)).trans htxq
              first
                | (go_simp; first | exact ⟨_, rfl, Below.refl _ _, rfl⟩ | exact ⟨_, rfl, Below.refl _ _, trivial⟩ | exact ⟨_, rfl, Below.refl _ _⟩ | exact ⟨_, rfl, (Below.refl _ _).alloc (Nat.le_refl _) _, trivial⟩)
                | (apply Exists.intro
                   apply And.intro
                   · assumption
                   · apply And.intro
                     · intro hc
                       first
                         | (refine absurd hc ?_; simp [undef]; done)
                         | (go_simp; first | exact ⟨_, rfl, Below.refl _ _, rfl⟩ | exact ⟨_, rfl, Below.refl _ _, trivial⟩ | exact ⟨_, rfl, Below.refl _ _⟩ | exact ⟨_, rfl, (Below.refl _ _).alloc (Nat.le_refl _) _, trivial⟩)
                     · intro hc
                       first | exact absurd rfl hc | exact trivial | exact rfl)
                | (apply Exists.intro
                   apply And.intro
                   · assumption
                   · intro hc
                     first
                       | (refine absurd hc ?_; simp [undef]; done)
                       | (go_simp; first | exact ⟨_, rfl, Below.refl _ _, rfl⟩ | exact ⟨_, rfl, Below.refl _ _, trivial⟩ | exact ⟨_, rfl, Below.refl _ _⟩ | exact ⟨_, rfl, (Below.refl _ _).alloc (Nat.le_refl _) _, trivial⟩))
            · -- operation 3
              (refine owes_val (L := [(44, true)]) rfl rfl rfl (by kernel_rfl) ?_; intro a' w' hb' hfacts; obtain ⟨hf44, -⟩ := hfacts; try simp only [VSnapR] at hf44)
              have q0 := (hb'.cell (p := ⟨b, 0, none⟩) HSq.out.lt).trans c0q; have q1 := (hb'.cell (p := ta.add k) (by rw [add_block]; exact htlq)).trans htxq
              first
                | (go_simp; first | exact ⟨_, rfl, Below.refl _ _, rfl⟩ | exact ⟨_, rfl, Below.refl _ _, trivial⟩ | exact ⟨_, rfl, Below.refl _ _⟩ | exact ⟨_, rfl, (Below.refl _ _).alloc (Nat.le_refl _) _, trivial⟩)
                | (apply Exists.intro
                   apply And.intro
                   · assumption
                   · apply And.intro
                     · intro hc
                       first
                         | (refine absurd hc ?_; simp [undef]; done)
                         | (go_simp; first | exact ⟨_, rfl, Below.refl _ _, rfl⟩ | exact ⟨_, rfl, Below.refl _ _, trivial⟩ | exact ⟨_, rfl, Below.refl _ _⟩ | exact ⟨_, rfl, (Below.refl _ _).alloc (Nat.le_refl _) _, trivial⟩)
                     · intro hc
                       first | exact absurd rfl hc | exact trivial | exact rfl)
                | (apply Exists.intro
                   apply And.intro
                   · assumption
                   · intro hc
                     first
                       | (refine absurd hc ?_; simp [undef]; done)
                       | (go_simp; first | exact ⟨_, rfl, Below.refl _ _, rfl⟩ | exact ⟨_, rfl, Below.refl _ _, trivial⟩ | exact ⟨_, rfl, Below.refl _ _⟩ | exact ⟨_, rfl, (Below.refl _ _).alloc (Nat.le_refl _) _, trivial⟩))
            · -- operation 4
              (refine owes_val (L := [(6, false)]) rfl rfl rfl (by kernel_rfl) ?_; intro a' w' hb' hfacts; obtain ⟨hf6, -⟩ := hfacts; replace hf6 : a'.tmps[6]?.getD undef = .int .i64 k := hf6)
              have q0 := (hb'.cell (p := ⟨b, 0, none⟩) HSq.out.lt).trans c0q; have q1 := (hb'.cell (p := ta.add k) (by rw [add_block]; exact htlq)).trans htxq
              first
                | (go_simp; first | exact ⟨_, rfl, Below.refl _ _, rfl⟩ | exact ⟨_, rfl, Below.refl _ _, trivial⟩ | exact ⟨_, rfl, Below.refl _ _⟩ | exact ⟨_, rfl, (Below.refl _ _).alloc (Nat.le_refl _) _, trivial⟩)
                | (apply Exists.intro
                   apply And.intro
                   · assumption
                   · apply And.intro
                     · intro hc
                       first
                         | (refine absurd hc ?_; simp [undef]; done)
                         | (go_simp; first | exact ⟨_, rfl, Below.refl _ _, rfl⟩ | exact ⟨_, rfl, Below.refl _ _, trivial⟩ | exact ⟨_, rfl, Below.refl _ _⟩ | exact ⟨_, rfl, (Below.refl _ _).alloc (Nat.le_refl _) _, trivial⟩)
                     · intro hc
                       first | exact absurd rfl hc | exact trivial | exact rfl)
                | (apply Exists.intro
                   apply And.intro
                   · assumption
                   · intro hc
                     first
                       | (refine absurd hc ?_; simp [undef]; done)
                       | (go_simp; first | exact ⟨_, rfl, Below.refl _ _, rfl⟩ | exact ⟨_, rfl, Below.refl _ _, trivial⟩ | exact ⟨_, rfl, Below.refl _ _⟩ | exact ⟨_, rfl, (Below.refl _ _).alloc (Nat.le_refl _) _, trivial⟩))
            · -- operation 5
              (refine owes_val (L := [(1, false)]) rfl rfl rfl (by kernel_rfl) ?_; intro a' w' hb' hfacts; obtain ⟨hf1, -⟩ := hfacts; replace hf1 : a'.tmps[1]?.getD undef = .slice (some ta) ts.length c := hf1)
              have q0 := (hb'.cell (p := ⟨b, 0, none⟩) HSq.out.lt).trans c0q; have q1 := (hb'.cell (p := ta.add k) (by rw [add_block]; exact htlq)).trans htxq
              first
                | (go_simp; first | exact ⟨_, rfl, Below.refl _ _, rfl⟩ | exact ⟨_, rfl, Below.refl _ _, trivial⟩ | exact ⟨_, rfl, Below.refl _ _⟩ | exact ⟨_, rfl, (Below.refl _ _).alloc (Nat.le_refl _) _, trivial⟩)
                | (apply Exists.intro
                   apply And.intro
                   · assumption
                   · apply And.intro
                     · intro hc
                       first
                         | (refine absurd hc ?_; simp [undef]; done)
                         | (go_simp; first | exact ⟨_, rfl, Below.refl _ _, rfl⟩ | exact ⟨_, rfl, Below.refl _ _, trivial⟩ | exact ⟨_, rfl, Below.refl _ _⟩ | exact ⟨_, rfl, (Below.refl _ _).alloc (Nat.le_refl _) _, trivial⟩)
                     · intro hc
                       first | exact absurd rfl hc | exact trivial | exact rfl)
                | (apply Exists.intro
                   apply And.intro
                   · assumption
                   · intro hc
                     first
                       | (refine absurd hc ?_; simp [undef]; done)
                       | (go_simp; first | exact ⟨_, rfl, Below.refl _ _, rfl⟩ | exact ⟨_, rfl, Below.refl _ _, trivial⟩ | exact ⟨_, rfl, Below.refl _ _⟩ | exact ⟨_, rfl, (Below.refl _ _).alloc (Nat.le_refl _) _, trivial⟩))
            · -- operation 6
              (refine owes_val (L := [(6, false)]) rfl rfl rfl (by kernel_rfl) ?_; intro a' w' hb' hfacts; obtain ⟨hf6, -⟩ := hfacts; replace hf6 : a'.tmps[6]?.getD undef = .int .i64 k := hf6)
              have q0 := (hb'.cell (p := ⟨b, 0, none⟩) HSq.out.lt).trans c0q; have q1 := (hb'.cell (p := ta.add k) (by rw [add_block]; exact htlq)).trans htxq
              first
                | (go_simp; first | exact ⟨_, rfl, Below.refl _ _, rfl⟩ | exact ⟨_, rfl, Below.refl _ _, trivial⟩ | exact ⟨_, rfl, Below.refl _ _⟩ | exact ⟨_, rfl, (Below.refl _ _).alloc (Nat.le_refl _) _, trivial⟩)
                | (apply Exists.intro
                   apply And.intro
                   · assumption
                   · apply And.intro
                     · intro hc
                       first
                         | (refine absurd hc ?_; simp [undef]; done)
                         | (go_simp; first | exact ⟨_, rfl, Below.refl _ _, rfl⟩ | exact ⟨_, rfl, Below.refl _ _, trivial⟩ | exact ⟨_, rfl, Below.refl _ _⟩ | exact ⟨_, rfl, (Below.refl _ _).alloc (Nat.le_refl _) _, trivial⟩)
                     · intro hc
                       first | exact absurd rfl hc | exact trivial | exact rfl)
                | (apply Exists.intro
                   apply And.intro
                   · assumption
                   · intro hc
                     first
                       | (refine absurd hc ?_; simp [undef]; done)
                       | (go_simp; first | exact ⟨_, rfl, Below.refl _ _, rfl⟩ | exact ⟨_, rfl, Below.refl _ _, trivial⟩ | exact ⟨_, rfl, Below.refl _ _⟩ | exact ⟨_, rfl, (Below.refl _ _).alloc (Nat.le_refl _) _, trivial⟩))
            · -- operation 7
              (refine owes_val (L := [(47, true), (48, true)]) rfl rfl rfl (by kernel_rfl) ?_; intro a' w' hb' hfacts; obtain ⟨hf47, hf48, -⟩ := hfacts; try simp only [VSnapR] at hf47; try simp only [VSnapR] at hf48)
              have q0 := (hb'.cell (p := ⟨b, 0, none⟩) HSq.out.lt).trans c0q; have q1 := (hb'.cell (p := ta.add k) (by rw [add_block]; exact htlq)).trans htxq
              first
                | (go_simp; first | exact ⟨_, rfl, Below.refl _ _, rfl⟩ | exact ⟨_, rfl, Below.refl _ _, trivial⟩ | exact ⟨_, rfl, Below.refl _ _⟩ | exact ⟨_, rfl, (Below.refl _ _).alloc (Nat.le_refl _) _, trivial⟩)
                | (apply Exists.intro
                   apply And.intro
                   · assumption
                   · apply And.intro
                     · intro hc
                       first
                         | (refine absurd hc ?_; simp [undef]; done)
                         | (go_simp; first | exact ⟨_, rfl, Below.refl _ _, rfl⟩ | exact ⟨_, rfl, Below.refl _ _, trivial⟩ | exact ⟨_, rfl, Below.refl _ _⟩ | exact ⟨_, rfl, (Below.refl _ _).alloc (Nat.le_refl _) _, trivial⟩)
                     · intro hc
                       first | exact absurd rfl hc | exact trivial | exact rfl)
                | (apply Exists.intro
                   apply And.intro
                   · assumption
                   · intro hc
                     first
                       | (refine absurd hc ?_; simp [undef]; done)
                       | (go_simp; first | exact ⟨_, rfl, Below.refl _ _, rfl⟩ | exact ⟨_, rfl, Below.refl _ _, trivial⟩ | exact ⟨_, rfl, Below.refl _ _⟩ | exact ⟨_, rfl, (Below.refl _ _).alloc (Nat.le_refl _) _, trivial⟩))
            · -- operation 8
              (refine owes_val (L := [(49, true)]) rfl rfl rfl (by kernel_rfl) ?_; intro a' w' hb' hfacts; obtain ⟨hf49, -⟩ := hfacts; try simp only [VSnapR] at hf49)
              have q0 := (hb'.cell (p := ⟨b, 0, none⟩) HSq.out.lt).trans c0q; have q1 := (hb'.cell (p := ta.add k) (by rw [add_block]; exact htlq)).trans htxq
              first
                | (go_simp; first | exact ⟨_, rfl, Below.refl _ _, rfl⟩ | exact ⟨_, rfl, Below.refl _ _, trivial⟩ | exact ⟨_, rfl, Below.refl _ _⟩ | exact ⟨_, rfl, (Below.refl _ _).alloc (Nat.le_refl _) _, trivial⟩)
                | (apply Exists.intro
                   apply And.intro
                   · assumption
                   · apply And.intro
                     · intro hc
                       first
                         | (refine absurd hc ?_; simp [undef]; done)
                         | (go_simp; first | exact ⟨_, rfl, Below.refl _ _, rfl⟩ | exact ⟨_, rfl, Below.refl _ _, trivial⟩ | exact ⟨_, rfl, Below.refl _ _⟩ | exact ⟨_, rfl, (Below.refl _ _).alloc (Nat.le_refl _) _, trivial⟩)
                     · intro hc
                       first | exact absurd rfl hc | exact trivial | exact rfl)
                | (apply Exists.intro
                   apply And.intro
                   · assumption
                   · intro hc
                     first
                       | (refine absurd hc ?_; simp [undef]; done)
                       | (go_simp; first | exact ⟨_, rfl, Below.refl _ _, rfl⟩ | exact ⟨_, rfl, Below.refl _ _, trivial⟩ | exact ⟨_, rfl, Below.refl _ _⟩ | exact ⟨_, rfl, (Below.refl _ _).alloc (Nat.le_refl _) _, trivial⟩))
            · -- operation 9
              (refine owes_val (L := [(45, true), (46, true)]) rfl rfl rfl (by kernel_rfl) ?_; intro a' w' hb' hfacts; obtain ⟨hf45, hf46, -⟩ := hfacts; try simp only [VSnapR] at hf45; try simp only [VSnapR] at hf46)
              have q0 := (hb'.cell (p := ⟨b, 0, none⟩) HSq.out.lt).trans c0q; have q1 := (hb'.cell (p := ta.add k) (by rw [add_block]; exact htlq)).trans htxq
              first
                | (go_simp; first | exact ⟨_, rfl, Below.refl _ _, rfl⟩ | exact ⟨_, rfl, Below.refl _ _, trivial⟩ | exact ⟨_, rfl, Below.refl _ _⟩ | exact ⟨_, rfl, (Below.refl _ _).alloc (Nat.le_refl _) _, trivial⟩)
                | (apply Exists.intro
                   apply And.intro
                   · assumption
                   · apply And.intro
                     · intro hc
                       first
                         | (refine absurd hc ?_; simp [undef]; done)
                         | (go_simp; first | exact ⟨_, rfl, Below.refl _ _, rfl⟩ | exact ⟨_, rfl, Below.refl _ _, trivial⟩ | exact ⟨_, rfl, Below.refl _ _⟩ | exact ⟨_, rfl, (Below.refl _ _).alloc (Nat.le_refl _) _, trivial⟩)
                     · intro hc
                       first | exact absurd rfl hc | exact trivial | exact rfl)
                | (apply Exists.intro
                   apply And.intro
                   · assumption
                   · intro hc
                     first
                       | (refine absurd hc ?_; simp [undef]; done)
                       | (go_simp; first | exact ⟨_, rfl, Below.refl _ _, rfl⟩ | exact ⟨_, rfl, Below.refl _ _, trivial⟩ | exact ⟨_, rfl, Below.refl _ _⟩ | exact ⟨_, rfl, (Below.refl _ _).alloc (Nat.le_refl _) _, trivial⟩))
            · -- operation 10
              (refine owes_val (L := [(51, true)]) rfl rfl rfl (by kernel_rfl) ?_; intro a' w' hb' hfacts; obtain ⟨hf51, -⟩ := hfacts; try simp only [VSnapR] at hf51)
              have q0 := (hb'.cell (p := ⟨b, 0, none⟩) HSq.out.lt).trans c0q; have q1 := (hb'.cell (p := ta.add k) (by rw [add_block]; exact htlq)).trans htxq
              first
                | (go_simp; first | exact ⟨_, rfl, Below.refl _ _, rfl⟩ | exact ⟨_, rfl, Below.refl _ _, trivial⟩ | exact ⟨_, rfl, Below.refl _ _⟩ | exact ⟨_, rfl, (Below.refl _ _).alloc (Nat.le_refl _) _, trivial⟩)
                | (apply Exists.intro
                   apply And.intro
                   · assumption
                   · apply And.intro
                     · intro hc
                       first
                         | (refine absurd hc ?_; simp [undef]; done)
                         | (go_simp; first | exact ⟨_, rfl, Below.refl _ _, rfl⟩ | exact ⟨_, rfl, Below.refl _ _, trivial⟩ | exact ⟨_, rfl, Below.refl _ _⟩ | exact ⟨_, rfl, (Below.refl _ _).alloc (Nat.le_refl _) _, trivial⟩)
                     · intro hc
                       first | exact absurd rfl hc | exact trivial | exact rfl)
                | (apply Exists.intro
                   apply And.intro
                   · assumption
                   · intro hc
                     first
                       | (refine absurd hc ?_; simp [undef]; done)
                       | (go_simp; first | exact ⟨_, rfl, Below.refl _ _, rfl⟩ | exact ⟨_, rfl, Below.refl _ _, trivial⟩ | exact ⟨_, rfl, Below.refl _ _⟩ | exact ⟨_, rfl, (Below.refl _ _).alloc (Nat.le_refl _) _, trivial⟩))
          · intro f W3 hf hb3
            have f50 : f 50 = .int .i64 a := hf 50 (by decide)
            have f52 : f 52 = .pointer (some ⟨g, k * 2 + 1, none⟩) := hf 52 (by decide)
            have q1 := (hb3.cell (p := ⟨g, k * 2 + 1, none⟩) hglq).trans g1q
            have q2 := (hb3.frozen (p := ⟨g, k * 2 + 1, none⟩) hglq).trans f1q
            have HB3 := Lib.hid hb3
            have HS3 := Lib.hid (HSq.out.below hb3)
            clear hf hb3
            simp only [putAll, put_lit, List.map_cons, List.map_nil, List.set_cons_succ, List.set_cons_zero]
            simp only [f50, f52]
            refine wpOp_last rfl ?_
            go_wp2
            refine ⟨?_, by simp [intOf]; omega⟩
            refine HNL.out _ (N + 1) _ (by rw [HY.out]; simp) (.inr rfl) rfl ?_ ((HCq.out.then_below HB3.out).trans (Chg.set W3 ⟨g, k * 2 + 1, none⟩ _) (fun x _ h => .inr (by rw [h]; rfl)))
            rw [← HE.out]
            have h := HS3.out
            rw [← HL2.out] at h
            have := h.write HWA.out
            rw [HLn.out] at this
            have e : (M ++ (nm, a) :: T).length = l.length := by rw [← HL2.out]; simp
            rw [e] at this
            exact this
      · have hno : hit ts k (nm, pl) = false := by rw [HHt.out]; simp [h1]
        have HNo := Lib.hid hno
        have e : M ++ (nm, pl) :: T = M ++ [sn ts k (nm, pl)] ++ T := by rw [HSN.out, hno]; simp
        have HE := Lib.hid e
        have hdf : decide (0 ≤ a) = false := by simpa using h1
        clear hno e h1
        go_wp2
        go_quiet (fail)
        go_wp2
        go_roundw
        case rel => exact HNL.out _ N _ (by rw [HNo.out]; simp) (.inl rfl) rfl (by rw [← HE.out]; exact ⟨HSet.out.blk, HSet.out.ok, HSet.out.row⟩) (chg_drewN (Chg.refl _ _) nq)
        case measure => simp [intOf]; omega
    · have he : snapL ts 0 (l.take k) ++ l.drop k = snapL ts 0 l ∧ snapN ts 0 (l.take k) = snapN ts 0 l := by
        have h1 := snapL_append ts (l.take k) (l.drop k) 0
        have h2 := snapN_append ts (l.take k) (l.drop k) 0
        rw [List.take_append_drop, List.length_take] at h1 h2
        by_cases hkl : k = l.length
        · subst hkl
          simp
        · have := snap_past ts (l.drop k) (0 + min k l.length) (by omega)
          rw [h1, h2, this.1, this.2]
          simp
      rw [he.1] at hset
      rw [he.2]
      have HSet := Lib.hid hset
      have HCH := Lib.hid hch
      clear hset hch he
      by_cases hkl : k < l.length
      · have h2 : ¬ (k : Int) < (ts.length : Int) := by omega
        have h1 : (k : Int) < (l.length : Int) := by omega
        go_wp2
        go_ret
        exact ⟨rfl, HSet.out, HCH.out⟩
      · have h1 : ¬ (k : Int) < (l.length : Int) := by omega
        go_wp2
        go_ret
        exact ⟨rfl, HSet.out, HCH.out⟩
end Go.Proofs.YtdkdnkmfjpdcpaaDoor.Mk
