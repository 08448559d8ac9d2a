/-
  The law MarksLast, walked. No condition but what every argument bears.
-/
import Derived.Test.YtdkdnkmfjpdcpaaDoorMkFollow
import Derived.Test.YtdkdnkmfjpdcpaaDoorMkGet
import Derived.Test.YtdkdnkmfjpdcpaaDoorMkLays
import Derived.Test.YtdkdnkmfjpdcpaaDoorOwes
namespace Go.Proofs.YtdkdnkmfjpdcpaaDoor.Mk
open Go.RowKit Go.Proofs.YtdkdnkmfjpdcpaaDoor.Reg Go.Proofs.YtdkdnkmfjpdcpaaDoor.Row
set_option linter.unusedVariables false
set_option linter.unusedSimpArgs false

/-- No place is below nought. -/
def Pos (l : ML) : Prop := ∀ x ∈ l, 0 ≤ x.2
theorem Pos.put {l : ML} (h : Pos l) (n x : Int) : Pos (putL l n x) := by
  unfold putL
  split
  · intro y hy
    rcases (mem_ins l n x y).1 hy with rfl | ⟨hy, -⟩
    · rename_i hg; exact hg.2
    · exact h y hy
  · exact h
theorem Pos.foldl : ∀ (ms l : ML), Pos l → Pos (ms.foldl (fun l x => putL l x.1 x.2) l)
  | [], _, h => h
  | x :: r, l, h => Pos.foldl r _ (h.put x.1 x.2)
theorem Pos.load (ms : ML) : Pos (loadL ms) := Pos.foldl ms [] (by intro x hx; cases hx)

theorem putL_last (l : ML) (x : Int × Int) (hg : good x.1 = true) (hx : 0 ≤ x.2) (hl : ∀ y ∈ l, y.1 < x.1) : putL l x.1 x.2 = l ++ [x] := by
  have e : del l x.1 = l := by
    unfold del
    apply List.filter_eq_self.2
    intro y hy
    have := hl y hy
    simp; omega
  unfold putL ins
  rw [if_pos ⟨hg, hx⟩, e]
  clear e
  induction l with
  | nil => rfl
  | cons y r ih =>
    have := hl y List.mem_cons_self
    rw [insP, if_neg (by simp; omega), ih (fun z hz => hl z (List.mem_cons_of_mem _ hz))]
    rfl
theorem load_self (l : ML) (h : Ok l) (hp : Pos l) : loadL l = l := by
  have key : ∀ k, k ≤ l.length → loadL (l.take k) = l.take k := by
    intro k
    induction k with
    | zero => intro _; rfl
    | succ k ih =>
      intro hk
      have hk' : k < l.length := by omega
      rw [loadL_take l k hk', ih (by omega)]
      have hm : l[k] ∈ l := List.getElem_mem hk'
      rw [putL_last _ _ (h.2 _ hm).1 (hp _ hm), List.take_succ_eq_append_getElem hk']
      intro y hy
      obtain ⟨j, hj, rfl⟩ := List.getElem_of_mem hy
      rw [List.getElem_take]
      exact List.pairwise_iff_getElem.1 h.1 j k (by simp at hj; omega) hk' (by simp at hj; omega)
  have := key l.length (Nat.le_refl _)
  rwa [List.take_length] at this

theorem Ok.fits {l : ML} (h : Ok l) : Fits l := fun x hx => ⟨by
  have := good_range (h.2 x hx).1
  simp [Lit.wf, IntKind.min, IntKind.max, IntKind.signed, IntKind.bits]; omega, (h.2 x hx).2⟩
theorem mem_le {l : ML} (h : Ok l) (k : Nat) (hk : k + 1 < l.length) : l[k].1 < l[k+1].1 := List.pairwise_iff_getElem.1 h.1 k (k+1) (by omega) hk (by omega)
theorem get_put (l : ML) (n x k : Int) : get (putL l n x) k = if good n = true ∧ 0 ≤ x ∧ k = n then some x else get l k := by
  unfold putL
  by_cases h : good n = true ∧ 0 ≤ x
  · rw [if_pos h, get_ins]
    by_cases hk : k = n <;> simp [h, hk]
  · rw [if_neg h, if_neg (fun hh => h ⟨hh.1, hh.2.1⟩)]

theorem IsSet.map_lt {w : World} {b r : Nat} {ro : Option Nat} {l : ML} (h : IsSet w b ro l) (hr : ro = some r) : r < w.heap.size := by
  subst hr
  obtain ⟨es, clock, hb, -⟩ := h.map
  exact (Array.getElem?_eq_some_iff.1 hb).1
theorem row_far {w : World} {base : Nat} {A : Option Addr} {c : Nat} {l : ML} (h : w.ownsRow base 33 2 (.slice A l.length c) l.length (cellsM l)) : l = [] ∨ ∀ ad, A = some ad → base ≤ ad.block := by
  rcases Nat.eq_zero_or_pos l.length with h0 | h0
  · exact .inl (List.eq_nil_of_length_eq_zero h0)
  · obtain ⟨g, cap, he, hg, hlt⟩ := h.form h0
    obtain ⟨rfl, rfl⟩ : A = some ⟨g, 0, none⟩ ∧ c = cap := by simpa using he
    exact .inr fun ad e => by cases e; exact (h.lt g rfl).1
theorem getE_put (l : ML) (n x : Int) (hx : 0 ≤ x) : getE (putL l n x) n = if good n = true then (x, 0) else (0, 13) := by
  unfold getE
  by_cases h : good n = true
  · rw [if_pos h, if_pos h, get_put, if_pos ⟨h, hx, rfl⟩]
  · rw [if_neg h, if_neg h]
theorem getE_other (l : ML) (n x : Int) (hl : Ok l) (y : Int × Int) (hy : y ∈ l) (hne : y.1 ≠ n) : getE (putL l n x) y.1 = (y.2, 0) := by
  unfold getE
  rw [if_pos (hl.2 y hy).1, get_put, if_neg (fun h => hne h.2.2)]
  obtain ⟨k, hk, rfl⟩ := List.getElem_of_mem hy
  rw [get_at hl k hk]
theorem put_at (l : ML) (n x : Int) (hl : Ok l) (hwx : (Lit.int .i64 x).wf = true) (y : Int × Int) (hy : y ∈ putL l n x) (h0 : 0 ≤ x) (e : y.1 = n) : y.2 = x := by
  unfold putL at hy
  by_cases h : good n = true ∧ 0 ≤ x
  · rw [if_pos h] at hy
    rcases (mem_ins l n x y).1 hy with rfl | ⟨-, hne⟩
    · rfl
    · exact absurd e hne
  · rw [if_neg h] at hy
    have := (hl.2 y hy).1
    rw [e] at this
    exact absurd ⟨this, h0⟩ h

/-- What the test of one mark leaves, slot by slot. -/
def VL (o : Option (Addr × Nat × Nat × Nat × Int)) (k : Int) (q : Nat) (x1 x2 : Int) (s : Nat) (v : Value) (w : World) : Prop := match s with
  | 44 => v = .int .i64 k
  | 45 => match o with | none => v = .bool false | some _ => v = .bool true
  | 46 => match o with | none => v = .bool false | some _ => v = .bool true
  | 47 => match o with | none => True | some (ad, n, c, _, _) => v = .slice (some ad) n c
  | 48 => match o with | none => True | some _ => v = .int .i64 k
  | 49 => match o with | none => True | some (_, _, _, j, _) => v = .int .i64 j
  | 50 => match o with | none => True | some (ad, _, _, j, _) => v = .pointer (some (ad.add (j * 2)))
  | 51 => match o with | none => True | some (ad, _, _, j, _) => v = .pointer (some (ad.add (j * 2)))
  | 52 => match o with | none => True | some (_, _, _, _, y) => v = .int .u8 y
  | 53 => match o with | none => True | some _ => v = .pointer (some ⟨q, 0, none⟩)
  | 54 => match o with | none => True | some _ => v = .int .u8 x1
  | 55 => match o with | none => True | some _ => v = .bool false
  | 56 => v = .bool false
  | 57 => v = .bool false
  | 58 => v = .pointer (some ⟨q, 0, none⟩)
  | 59 => v = .int .u8 x1
  | 60 => v = .bool true
  | 61 => v = .bool false
  | 62 => v = .bool false
  | 63 => v = .bool false
  | 64 => v = .pointer (some ⟨q, 1, none⟩)
  | 65 => v = .int .i64 x2
  | 66 => v = .bool false
  | 67 => v = .bool false
  | _ => True
theorem VL_mono (o : Option (Addr × Nat × Nat × Nat × Int)) (k : Int) (q : Nat) (x1 x2 : Int) : ∀ s v w w', VL o k q x1 x2 s v w → Below w.heap.size w w' → VL o k q x1 x2 s v w' := fun _ _ _ _ h _ => h

theorem pair_facts (E x : Int) (G : Bool) (p : Int × Int) (hE : E = if G = true then 0 else 13) (hp : p = if G = true then (x, 0) else (0, 13)) :
    ∃ g1 g2, p = (g1, g2) ∧ (g2 != E) = false ∧ (G = true → (g1 != x) = false) := by
  subst hE hp
  cases G
  · exact ⟨0, 13, rfl, rfl, by simp⟩
  · exact ⟨x, 0, rfl, rfl, fun _ => by simp⟩
set_option maxRecDepth 100000 in
set_option maxHeartbeats 1000000 in
theorem last_walk (A : Option Addr) (ms : ML) (c : Nat) (n at' : Nat) (w : World) (hn : n < 256) (hat : at' < 4294967296) (hm : MksAt w A ms) (hf : Fits ms) (hlen : ms.length ≤ 9223372036854775807) :
    Calls Tryd.prog 7 #[.slice A ms.length c, .int .u8 n, .int .u32 at'] w fun e w' => e = .returned (.bool true) ∧ Below w.heap.size w w' := by
  have HM := Lib.hid hm
  have HF := Lib.hid hf
  clear hm hf
  have hwx : (Lit.int .i64 (at' : Int)).wf = true := by simp [Lit.wf, IntKind.min, IntKind.max, IntKind.signed, IntKind.bits]; omega
  have hwn : (Lit.int .u8 (n : Int)).wf = true := by simp [Lit.wf, IntKind.min, IntKind.max, IntKind.signed, IntKind.bits]; omega
  obtain ⟨E, hE⟩ : ∃ E, E = putE (n : Int) (at' : Int) := ⟨_, rfl⟩
  obtain ⟨G, hG⟩ : ∃ G, G = good (n : Int) := ⟨_, rfl⟩
  have hE' : E = if G = true then 0 else 13 := by
    rw [hE, hG]
    unfold putE
    split
    · rw [if_neg (by omega)]
    · rfl
  have hEG : (E == 0) = G := by
    rw [hE']; cases G <;> rfl
  have HE := Lib.hid hE
  have HE' := Lib.hid hE'
  have HG := Lib.hid hG
  clear hE hG hE'
  go_enter Tryd.func7, Tryd.ntmps7
  go_wp2_with (go_at_call 12; refine (lays_true _).mono ?_; rintro e w1 ⟨rfl, hb1⟩)
  go_wp2_with fail
  refine (New_any A ms c _ (HM.out.below hb1) HF.out hlen).mono ?_
  rintro e w2 ⟨rfl, ro, hs, hfr, hb2⟩
  have HS := Lib.hid hs
  have HB2 := Lib.hid (hb1.trans (hb2.mono hb1.size))
  have hfoot : ∀ x, foot w1.heap.size ro x → w.heap.size ≤ x := by
    intro x hx
    have := hb1.size
    rcases hx with rfl | h
    · exact this
    · have := hfr x h.symm; omega
  clear hs hfr hb2
  generalize hbk : w1.heap.size = b at *
  clear hbk hb1
  obtain ⟨L, hL⟩ : ∃ L, L = loadL ms := ⟨_, rfl⟩
  rw [← hL] at HS
  have HL := Lib.hid hL
  have hpos : Pos L := by rw [hL]; exact Pos.load ms
  clear hL
  go_wp2_with fail
  refine (All_any b ro L _ HS.out).mono ?_
  rintro e w3 ⟨v, rfl, hrow, hb3⟩
  obtain ⟨A3, c3, rfl⟩ := row_form hrow
  have HM3 := Lib.hid (MksAt.of_row hrow)
  have HS3 := Lib.hid (HS.out.below hb3)
  have HB3 := Lib.hid (HB2.out.trans (hb3.mono HB2.out.size))
  have hA3 := row_far hrow
  have h23 := hb3.size
  clear hrow hb3
  go_wp2_with fail
  refine (Put_any b ro L n at' _ hwn hwx HS3.out).mono ?_
  rintro e w4 ⟨rfl, ro4, hs4, hn4, hc4⟩
  rw [← HE.out]
  have HM4 : Hid (MksAt w4 A3 L) := HM3.out.kept hc4 (by
    rcases hA3 with h | h
    · exact .inl h
    · refine .inr fun ad e hl hf => ?_
      have h1 := h ad e
      have h2 : ad.block < w2.heap.size := by
        rcases hf with h3 | h3
        · rw [h3]; exact HS.out.lt
        · exact (HS.out.map_lt h3.symm)
      omega)
  have HS4 := Lib.hid hs4
  have HB4 := Lib.hid (HB3.out.trans (hc4.below_le HB3.out.size hfoot))
  clear hs4 hn4 hc4 HM3 HS3 HB3 hA3 h23
  go_wp2_with (go_at_call 13; refine (Good_any _ _).mono ?_; rintro e w' ⟨rfl, rfl⟩; rw [← HG.out])
  obtain ⟨L2, hL2⟩ : ∃ L2, L2 = putL L n at' := ⟨_, rfl⟩
  rw [← hL2] at HS4
  have hok2 := Lib.hid HS4.out.ok
  have hpos2 : Hid (Pos L2) := by rw [hL2]; exact hpos.put _ _
  have HL2 := Lib.hid hL2
  have HP := Lib.hid hpos
  have hokL := Lib.hid HS.out.ok
  clear hL2 hpos HS
  refine (All_any b ro4 L2 _ HS4.out).mono ?_
  rintro e w5 ⟨v, rfl, hrow, hb5⟩
  obtain ⟨A5, c5, rfl⟩ := row_form hrow
  have HM5 := Lib.hid (MksAt.of_row hrow)
  have HS5 := Lib.hid (HS4.out.below hb5)
  have HB5 := Lib.hid (HB4.out.trans (hb5.mono HB4.out.size))
  have HM4' := Lib.hid (HM4.out.below hb5)
  have hl2 : L2.length ≤ 59 := hok2.out.length
  have hl1 : L.length ≤ 59 := hokL.out.length
  clear hrow hb5 HS4 HB4 HM4
  go_wp2
  go_loopw [39] (fun i wr => ∃ k : Nat, k ≤ L2.length ∧ i = .int .i64 k ∧ Below w5.heap.size w5 wr) (fun i _ => L2.length - (intOf i).toNat)
  case atStart => exact ⟨0, Nat.zero_le _, rfl, Below.refl _ _⟩
  case round =>
    obtain ⟨k, hk, rfl, hbl⟩ := hrel
    by_cases hlt : k < L2.length
    · obtain h | ⟨ad, rfl, hAl, hx⟩ := HM5.out.below hbl
      · subst h; simp at hlt
      obtain ⟨q0, q1⟩ := hx k hlt
      have HBL := Lib.hid hbl
      have hmem : L2[k] ∈ L2 := List.getElem_mem hlt
      have hgood := (hok2.out.2 _ hmem).1
      have hge := hpos2.out _ hmem
      have hat2 := put_at L n at' hokL.out hwx _ (by rw [← HL2.out]; exact hmem) (by omega)
      have hprev : ∀ j, k = j + 1 → ∃ y : Int × Int, MkAt wr (ad.add (j * 2)) y ∧ y.1 < L2[k].1 := by
        rintro j rfl
        exact ⟨L2[j], hx j (by omega), mem_le hok2.out j hlt⟩
      have Hprev := Lib.hid hprev
      clear hprev
      generalize L2[k] = x at *
      obtain ⟨x1, x2⟩ := x
      have Hx := Lib.hid hx
      have Hgood := Lib.hid hgood
      have Hat := Lib.hid hat2
      simp only at hge q0 q1
      clear hx hgood hat2 hmem hbl
      go_wp2
      generalize hq : wr.heap.size = q at *
      generalize hW : wr.alloc _ = W2
      have hbW : Below wr.heap.size wr W2 := by rw [← hW]; exact (Below.refl _ _).alloc (Nat.le_refl _) _
      have hlt2 : q < W2.heap.size := by rw [← hW, ← hq]; simp
      have k0 : W2.cell? ⟨q, 0, none⟩ = some (.int .u8 x1) := by rw [← hW, ← hq]; simp
      have k1 : W2.cell? ⟨q, 1, none⟩ = some (.int .i64 x2) := by rw [← hW, ← hq]; simp
      have HBW := Lib.hid (HBL.out.trans (hbW.mono HBL.out.size))
      have hge' : decide (x2 < 0) = false := by simp; omega
      have hgood := Hgood.out
      clear hW
      cases k with
      | zero =>
        refine wp_held' mixed (VL none (0 : Nat) q x1 x2) (VL_mono none (0 : Nat) q x1 x2) (by kernel_rfl) [44, 45, 46, 47, 48, 49, 50, 51, 52, 53, 54, 55, 56, 57, 58, 59, 60, 61, 62, 63, 64, 65, 66, 67] (by kernel_rfl) (by kernel_rfl) ?_ ?_
        · intro j hj
          have hj' : j < 24 := hj
          have hload : ∀ w', Below W2.heap.size W2 w' → w'.cell? ⟨q, 0, none⟩ = some (.int .u8 x1) ∧ w'.cell? ⟨q, 1, none⟩ = some (.int .i64 x2) := fun w' hb =>
            ⟨(hb.cell hlt2).trans k0, (hb.cell hlt2).trans k1⟩
          rcases (by omega : j = 0 ∨ j = 1 ∨ j = 2 ∨ j = 3 ∨ j = 4 ∨ j = 5 ∨ j = 6 ∨ j = 7 ∨ j = 8 ∨ j = 9 ∨ j = 10 ∨ j = 11 ∨ j = 12 ∨ j = 13 ∨ j = 14 ∨ j = 15 ∨ j = 16 ∨ j = 17 ∨ j = 18 ∨ j = 19 ∨ j = 20 ∨ j = 21 ∨ j = 22 ∨ j = 23) with rfl | rfl | rfl | rfl | rfl | rfl | rfl | rfl | rfl | rfl | rfl | rfl | rfl | rfl | rfl | rfl | rfl | rfl | rfl | rfl | rfl | rfl | rfl | rfl
          · -- operation 0
            (refine owes_val (L := [(11, false)]) rfl rfl rfl (by kernel_rfl) ?_; intro a' w' hb' hfacts; obtain ⟨hf11, -⟩ := hfacts; replace hf11 : a'.tmps[11]?.getD undef = .int .i64 ((0 : Nat) : Int) := hf11)
            obtain ⟨q0, q1⟩ := hload w' hb'
            first
              | (go_simp; first | exact ⟨_, rfl, Below.refl _ _, rfl⟩ | exact ⟨_, rfl, Below.refl _ _, trivial⟩ | exact ⟨_, rfl, Below.refl _ _⟩ | exact ⟨_, rfl, (Below.refl _ _).alloc (Nat.le_refl _) _, trivial⟩)
              | (apply Exists.intro
                 apply And.intro
                 · assumption
                 · apply And.intro
                   · intro hc
                     first
                       | (refine absurd hc ?_; simp [undef]; done)
                       | (go_simp; first | exact ⟨_, rfl, Below.refl _ _, rfl⟩ | exact ⟨_, rfl, Below.refl _ _, trivial⟩ | exact ⟨_, rfl, Below.refl _ _⟩ | exact ⟨_, rfl, (Below.refl _ _).alloc (Nat.le_refl _) _, trivial⟩)
                   · intro hc
                     first | exact absurd rfl hc | exact trivial | exact rfl)
              | (apply Exists.intro
                 apply And.intro
                 · assumption
                 · intro hc
                   first
                     | (refine absurd hc ?_; simp [undef]; done)
                     | (go_simp; first | exact ⟨_, rfl, Below.refl _ _, rfl⟩ | exact ⟨_, rfl, Below.refl _ _, trivial⟩ | exact ⟨_, rfl, Below.refl _ _⟩ | exact ⟨_, rfl, (Below.refl _ _).alloc (Nat.le_refl _) _, trivial⟩))
          · -- operation 1
            (refine owes_val (L := [(44, true)]) rfl rfl rfl (by kernel_rfl) ?_; intro a' w' hb' hfacts; obtain ⟨hf44, -⟩ := hfacts; try simp only [VL] at hf44)
            obtain ⟨q0, q1⟩ := hload w' hb'
            first
              | (go_simp; first | exact ⟨_, rfl, Below.refl _ _, rfl⟩ | exact ⟨_, rfl, Below.refl _ _, trivial⟩ | exact ⟨_, rfl, Below.refl _ _⟩ | exact ⟨_, rfl, (Below.refl _ _).alloc (Nat.le_refl _) _, trivial⟩)
              | (apply Exists.intro
                 apply And.intro
                 · assumption
                 · apply And.intro
                   · intro hc
                     first
                       | (refine absurd hc ?_; simp [undef]; done)
                       | (go_simp; first | exact ⟨_, rfl, Below.refl _ _, rfl⟩ | exact ⟨_, rfl, Below.refl _ _, trivial⟩ | exact ⟨_, rfl, Below.refl _ _⟩ | exact ⟨_, rfl, (Below.refl _ _).alloc (Nat.le_refl _) _, trivial⟩)
                   · intro hc
                     first | exact absurd rfl hc | exact trivial | exact rfl)
              | (apply Exists.intro
                 apply And.intro
                 · assumption
                 · intro hc
                   first
                     | (refine absurd hc ?_; simp [undef]; done)
                     | (go_simp; first | exact ⟨_, rfl, Below.refl _ _, rfl⟩ | exact ⟨_, rfl, Below.refl _ _, trivial⟩ | exact ⟨_, rfl, Below.refl _ _⟩ | exact ⟨_, rfl, (Below.refl _ _).alloc (Nat.le_refl _) _, trivial⟩))
          · -- operation 2
            (refine owes_val (L := [(45, true)]) rfl rfl rfl (by kernel_rfl) ?_; intro a' w' hb' hfacts; obtain ⟨hf45, -⟩ := hfacts; try simp only [VL] at hf45)
            obtain ⟨q0, q1⟩ := hload w' hb'
            first
              | (go_simp; first | exact ⟨_, rfl, Below.refl _ _, rfl⟩ | exact ⟨_, rfl, Below.refl _ _, trivial⟩ | exact ⟨_, rfl, Below.refl _ _⟩ | exact ⟨_, rfl, (Below.refl _ _).alloc (Nat.le_refl _) _, trivial⟩)
              | (apply Exists.intro
                 apply And.intro
                 · assumption
                 · apply And.intro
                   · intro hc
                     first
                       | (refine absurd hc ?_; simp [undef]; done)
                       | (go_simp; first | exact ⟨_, rfl, Below.refl _ _, rfl⟩ | exact ⟨_, rfl, Below.refl _ _, trivial⟩ | exact ⟨_, rfl, Below.refl _ _⟩ | exact ⟨_, rfl, (Below.refl _ _).alloc (Nat.le_refl _) _, trivial⟩)
                   · intro hc
                     first | exact absurd rfl hc | exact trivial | exact rfl)
              | (apply Exists.intro
                 apply And.intro
                 · assumption
                 · intro hc
                   first
                     | (refine absurd hc ?_; simp [undef]; done)
                     | (go_simp; first | exact ⟨_, rfl, Below.refl _ _, rfl⟩ | exact ⟨_, rfl, Below.refl _ _, trivial⟩ | exact ⟨_, rfl, Below.refl _ _⟩ | exact ⟨_, rfl, (Below.refl _ _).alloc (Nat.le_refl _) _, trivial⟩))
          · -- operation 3
            (refine owes_if (L := [(10, false), (46, true)]) rfl rfl rfl rfl (by kernel_rfl) ?_; intro a' w' hb' hfacts; obtain ⟨hf10, hf46, -⟩ := hfacts; replace hf10 : a'.tmps[10]?.getD undef = .slice (some ad) L2.length c5 := hf10; try simp only [VL] at hf46)
            obtain ⟨q0, q1⟩ := hload w' hb'
            first
              | (go_simp; first | exact ⟨_, rfl, Below.refl _ _, rfl⟩ | exact ⟨_, rfl, Below.refl _ _, trivial⟩ | exact ⟨_, rfl, Below.refl _ _⟩ | exact ⟨_, rfl, (Below.refl _ _).alloc (Nat.le_refl _) _, trivial⟩)
              | (apply Exists.intro
                 apply And.intro
                 · assumption
                 · apply And.intro
                   · intro hc
                     first
                       | (refine absurd hc ?_; simp [undef]; done)
                       | (go_simp; first | exact ⟨_, rfl, Below.refl _ _, rfl⟩ | exact ⟨_, rfl, Below.refl _ _, trivial⟩ | exact ⟨_, rfl, Below.refl _ _⟩ | exact ⟨_, rfl, (Below.refl _ _).alloc (Nat.le_refl _) _, trivial⟩)
                   · intro hc
                     first | exact absurd rfl hc | exact trivial | exact rfl)
              | (apply Exists.intro
                 apply And.intro
                 · assumption
                 · intro hc
                   first
                     | (refine absurd hc ?_; simp [undef]; done)
                     | (go_simp; first | exact ⟨_, rfl, Below.refl _ _, rfl⟩ | exact ⟨_, rfl, Below.refl _ _, trivial⟩ | exact ⟨_, rfl, Below.refl _ _⟩ | exact ⟨_, rfl, (Below.refl _ _).alloc (Nat.le_refl _) _, trivial⟩))
          · -- operation 4
            (refine owes_if (L := [(11, false), (46, true)]) rfl rfl rfl rfl (by kernel_rfl) ?_; intro a' w' hb' hfacts; obtain ⟨hf11, hf46, -⟩ := hfacts; replace hf11 : a'.tmps[11]?.getD undef = .int .i64 ((0 : Nat) : Int) := hf11; try simp only [VL] at hf46)
            obtain ⟨q0, q1⟩ := hload w' hb'
            first
              | (go_simp; first | exact ⟨_, rfl, Below.refl _ _, rfl⟩ | exact ⟨_, rfl, Below.refl _ _, trivial⟩ | exact ⟨_, rfl, Below.refl _ _⟩ | exact ⟨_, rfl, (Below.refl _ _).alloc (Nat.le_refl _) _, trivial⟩)
              | (apply Exists.intro
                 apply And.intro
                 · assumption
                 · apply And.intro
                   · intro hc
                     first
                       | (refine absurd hc ?_; simp [undef]; done)
                       | (go_simp; first | exact ⟨_, rfl, Below.refl _ _, rfl⟩ | exact ⟨_, rfl, Below.refl _ _, trivial⟩ | exact ⟨_, rfl, Below.refl _ _⟩ | exact ⟨_, rfl, (Below.refl _ _).alloc (Nat.le_refl _) _, trivial⟩)
                   · intro hc
                     first | exact absurd rfl hc | exact trivial | exact rfl)
              | (apply Exists.intro
                 apply And.intro
                 · assumption
                 · intro hc
                   first
                     | (refine absurd hc ?_; simp [undef]; done)
                     | (go_simp; first | exact ⟨_, rfl, Below.refl _ _, rfl⟩ | exact ⟨_, rfl, Below.refl _ _, trivial⟩ | exact ⟨_, rfl, Below.refl _ _⟩ | exact ⟨_, rfl, (Below.refl _ _).alloc (Nat.le_refl _) _, trivial⟩))
          · -- operation 5
            (refine owes_if (L := [(48, true), (46, true)]) rfl rfl rfl rfl (by kernel_rfl) ?_; intro a' w' hb' hfacts; obtain ⟨hf48, hf46, -⟩ := hfacts; try simp only [VL] at hf48; try simp only [VL] at hf46)
            obtain ⟨q0, q1⟩ := hload w' hb'
            first
              | (go_simp; first | exact ⟨_, rfl, Below.refl _ _, rfl⟩ | exact ⟨_, rfl, Below.refl _ _, trivial⟩ | exact ⟨_, rfl, Below.refl _ _⟩ | exact ⟨_, rfl, (Below.refl _ _).alloc (Nat.le_refl _) _, trivial⟩)
              | (apply Exists.intro
                 apply And.intro
                 · assumption
                 · apply And.intro
                   · intro hc
                     first
                       | (refine absurd hc ?_; simp [undef]; done)
                       | (go_simp; first | exact ⟨_, rfl, Below.refl _ _, rfl⟩ | exact ⟨_, rfl, Below.refl _ _, trivial⟩ | exact ⟨_, rfl, Below.refl _ _⟩ | exact ⟨_, rfl, (Below.refl _ _).alloc (Nat.le_refl _) _, trivial⟩)
                   · intro hc
                     first | exact absurd rfl hc | exact trivial | exact rfl)
              | (apply Exists.intro
                 apply And.intro
                 · assumption
                 · intro hc
                   first
                     | (refine absurd hc ?_; simp [undef]; done)
                     | (go_simp; first | exact ⟨_, rfl, Below.refl _ _, rfl⟩ | exact ⟨_, rfl, Below.refl _ _, trivial⟩ | exact ⟨_, rfl, Below.refl _ _⟩ | exact ⟨_, rfl, (Below.refl _ _).alloc (Nat.le_refl _) _, trivial⟩))
          · -- operation 6
            (refine owes_if (L := [(47, true), (49, true), (46, true)]) rfl rfl rfl rfl (by kernel_rfl) ?_; intro a' w' hb' hfacts; obtain ⟨hf47, hf49, hf46, -⟩ := hfacts; try simp only [VL] at hf47; try simp only [VL] at hf49; try simp only [VL] at hf46)
            obtain ⟨q0, q1⟩ := hload w' hb'
            first
              | (go_simp; first | exact ⟨_, rfl, Below.refl _ _, rfl⟩ | exact ⟨_, rfl, Below.refl _ _, trivial⟩ | exact ⟨_, rfl, Below.refl _ _⟩ | exact ⟨_, rfl, (Below.refl _ _).alloc (Nat.le_refl _) _, trivial⟩)
              | (apply Exists.intro
                 apply And.intro
                 · assumption
                 · apply And.intro
                   · intro hc
                     first
                       | (refine absurd hc ?_; simp [undef]; done)
                       | (go_simp; first | exact ⟨_, rfl, Below.refl _ _, rfl⟩ | exact ⟨_, rfl, Below.refl _ _, trivial⟩ | exact ⟨_, rfl, Below.refl _ _⟩ | exact ⟨_, rfl, (Below.refl _ _).alloc (Nat.le_refl _) _, trivial⟩)
                   · intro hc
                     first | exact absurd rfl hc | exact trivial | exact rfl)
              | (apply Exists.intro
                 apply And.intro
                 · assumption
                 · intro hc
                   first
                     | (refine absurd hc ?_; simp [undef]; done)
                     | (go_simp; first | exact ⟨_, rfl, Below.refl _ _, rfl⟩ | exact ⟨_, rfl, Below.refl _ _, trivial⟩ | exact ⟨_, rfl, Below.refl _ _⟩ | exact ⟨_, rfl, (Below.refl _ _).alloc (Nat.le_refl _) _, trivial⟩))
          · -- operation 7
            (refine owes_if (L := [(50, true), (46, true)]) rfl rfl rfl rfl (by kernel_rfl) ?_; intro a' w' hb' hfacts; obtain ⟨hf50, hf46, -⟩ := hfacts; try simp only [VL] at hf50; try simp only [VL] at hf46)
            obtain ⟨q0, q1⟩ := hload w' hb'
            first
              | (go_simp; first | exact ⟨_, rfl, Below.refl _ _, rfl⟩ | exact ⟨_, rfl, Below.refl _ _, trivial⟩ | exact ⟨_, rfl, Below.refl _ _⟩ | exact ⟨_, rfl, (Below.refl _ _).alloc (Nat.le_refl _) _, trivial⟩)
              | (apply Exists.intro
                 apply And.intro
                 · assumption
                 · apply And.intro
                   · intro hc
                     first
                       | (refine absurd hc ?_; simp [undef]; done)
                       | (go_simp; first | exact ⟨_, rfl, Below.refl _ _, rfl⟩ | exact ⟨_, rfl, Below.refl _ _, trivial⟩ | exact ⟨_, rfl, Below.refl _ _⟩ | exact ⟨_, rfl, (Below.refl _ _).alloc (Nat.le_refl _) _, trivial⟩)
                   · intro hc
                     first | exact absurd rfl hc | exact trivial | exact rfl)
              | (apply Exists.intro
                 apply And.intro
                 · assumption
                 · intro hc
                   first
                     | (refine absurd hc ?_; simp [undef]; done)
                     | (go_simp; first | exact ⟨_, rfl, Below.refl _ _, rfl⟩ | exact ⟨_, rfl, Below.refl _ _, trivial⟩ | exact ⟨_, rfl, Below.refl _ _⟩ | exact ⟨_, rfl, (Below.refl _ _).alloc (Nat.le_refl _) _, trivial⟩))
          · -- operation 8
            (refine owes_if (L := [(51, true), (46, true)]) rfl rfl rfl rfl (by kernel_rfl) ?_; intro a' w' hb' hfacts; obtain ⟨hf51, hf46, -⟩ := hfacts; try simp only [VL] at hf51; try simp only [VL] at hf46)
            obtain ⟨q0, q1⟩ := hload w' hb'
            first
              | (go_simp; first | exact ⟨_, rfl, Below.refl _ _, rfl⟩ | exact ⟨_, rfl, Below.refl _ _, trivial⟩ | exact ⟨_, rfl, Below.refl _ _⟩ | exact ⟨_, rfl, (Below.refl _ _).alloc (Nat.le_refl _) _, trivial⟩)
              | (apply Exists.intro
                 apply And.intro
                 · assumption
                 · apply And.intro
                   · intro hc
                     first
                       | (refine absurd hc ?_; simp [undef]; done)
                       | (go_simp; first | exact ⟨_, rfl, Below.refl _ _, rfl⟩ | exact ⟨_, rfl, Below.refl _ _, trivial⟩ | exact ⟨_, rfl, Below.refl _ _⟩ | exact ⟨_, rfl, (Below.refl _ _).alloc (Nat.le_refl _) _, trivial⟩)
                   · intro hc
                     first | exact absurd rfl hc | exact trivial | exact rfl)
              | (apply Exists.intro
                 apply And.intro
                 · assumption
                 · intro hc
                   first
                     | (refine absurd hc ?_; simp [undef]; done)
                     | (go_simp; first | exact ⟨_, rfl, Below.refl _ _, rfl⟩ | exact ⟨_, rfl, Below.refl _ _, trivial⟩ | exact ⟨_, rfl, Below.refl _ _⟩ | exact ⟨_, rfl, (Below.refl _ _).alloc (Nat.le_refl _) _, trivial⟩))
          · -- operation 9
            (refine owes_if (L := [(12, false), (46, true)]) rfl rfl rfl rfl (by kernel_rfl) ?_; intro a' w' hb' hfacts; obtain ⟨hf12, hf46, -⟩ := hfacts; replace hf12 : a'.tmps[12]?.getD undef = .pointer (some ⟨q, 0, none⟩) := hf12; try simp only [VL] at hf46)
            obtain ⟨q0, q1⟩ := hload w' hb'
            first
              | (go_simp; first | exact ⟨_, rfl, Below.refl _ _, rfl⟩ | exact ⟨_, rfl, Below.refl _ _, trivial⟩ | exact ⟨_, rfl, Below.refl _ _⟩ | exact ⟨_, rfl, (Below.refl _ _).alloc (Nat.le_refl _) _, trivial⟩)
              | (apply Exists.intro
                 apply And.intro
                 · assumption
                 · apply And.intro
                   · intro hc
                     first
                       | (refine absurd hc ?_; simp [undef]; done)
                       | (go_simp; first | exact ⟨_, rfl, Below.refl _ _, rfl⟩ | exact ⟨_, rfl, Below.refl _ _, trivial⟩ | exact ⟨_, rfl, Below.refl _ _⟩ | exact ⟨_, rfl, (Below.refl _ _).alloc (Nat.le_refl _) _, trivial⟩)
                   · intro hc
                     first | exact absurd rfl hc | exact trivial | exact rfl)
              | (apply Exists.intro
                 apply And.intro
                 · assumption
                 · intro hc
                   first
                     | (refine absurd hc ?_; simp [undef]; done)
                     | (go_simp; first | exact ⟨_, rfl, Below.refl _ _, rfl⟩ | exact ⟨_, rfl, Below.refl _ _, trivial⟩ | exact ⟨_, rfl, Below.refl _ _⟩ | exact ⟨_, rfl, (Below.refl _ _).alloc (Nat.le_refl _) _, trivial⟩))
          · -- operation 10
            (refine owes_if (L := [(53, true), (46, true)]) rfl rfl rfl rfl (by kernel_rfl) ?_; intro a' w' hb' hfacts; obtain ⟨hf53, hf46, -⟩ := hfacts; try simp only [VL] at hf53; try simp only [VL] at hf46)
            obtain ⟨q0, q1⟩ := hload w' hb'
            first
              | (go_simp; first | exact ⟨_, rfl, Below.refl _ _, rfl⟩ | exact ⟨_, rfl, Below.refl _ _, trivial⟩ | exact ⟨_, rfl, Below.refl _ _⟩ | exact ⟨_, rfl, (Below.refl _ _).alloc (Nat.le_refl _) _, trivial⟩)
              | (apply Exists.intro
                 apply And.intro
                 · assumption
                 · apply And.intro
                   · intro hc
                     first
                       | (refine absurd hc ?_; simp [undef]; done)
                       | (go_simp; first | exact ⟨_, rfl, Below.refl _ _, rfl⟩ | exact ⟨_, rfl, Below.refl _ _, trivial⟩ | exact ⟨_, rfl, Below.refl _ _⟩ | exact ⟨_, rfl, (Below.refl _ _).alloc (Nat.le_refl _) _, trivial⟩)
                   · intro hc
                     first | exact absurd rfl hc | exact trivial | exact rfl)
              | (apply Exists.intro
                 apply And.intro
                 · assumption
                 · intro hc
                   first
                     | (refine absurd hc ?_; simp [undef]; done)
                     | (go_simp; first | exact ⟨_, rfl, Below.refl _ _, rfl⟩ | exact ⟨_, rfl, Below.refl _ _, trivial⟩ | exact ⟨_, rfl, Below.refl _ _⟩ | exact ⟨_, rfl, (Below.refl _ _).alloc (Nat.le_refl _) _, trivial⟩))
          · -- operation 11
            (refine owes_if (L := [(52, true), (54, true), (46, true)]) rfl rfl rfl rfl (by kernel_rfl) ?_; intro a' w' hb' hfacts; obtain ⟨hf52, hf54, hf46, -⟩ := hfacts; try simp only [VL] at hf52; try simp only [VL] at hf54; try simp only [VL] at hf46)
            obtain ⟨q0, q1⟩ := hload w' hb'
            first
              | (go_simp; first | exact ⟨_, rfl, Below.refl _ _, rfl⟩ | exact ⟨_, rfl, Below.refl _ _, trivial⟩ | exact ⟨_, rfl, Below.refl _ _⟩ | exact ⟨_, rfl, (Below.refl _ _).alloc (Nat.le_refl _) _, trivial⟩)
              | (apply Exists.intro
                 apply And.intro
                 · assumption
                 · apply And.intro
                   · intro hc
                     first
                       | (refine absurd hc ?_; simp [undef]; done)
                       | (go_simp; first | exact ⟨_, rfl, Below.refl _ _, rfl⟩ | exact ⟨_, rfl, Below.refl _ _, trivial⟩ | exact ⟨_, rfl, Below.refl _ _⟩ | exact ⟨_, rfl, (Below.refl _ _).alloc (Nat.le_refl _) _, trivial⟩)
                   · intro hc
                     first | exact absurd rfl hc | exact trivial | exact rfl)
              | (apply Exists.intro
                 apply And.intro
                 · assumption
                 · intro hc
                   first
                     | (refine absurd hc ?_; simp [undef]; done)
                     | (go_simp; first | exact ⟨_, rfl, Below.refl _ _, rfl⟩ | exact ⟨_, rfl, Below.refl _ _, trivial⟩ | exact ⟨_, rfl, Below.refl _ _⟩ | exact ⟨_, rfl, (Below.refl _ _).alloc (Nat.le_refl _) _, trivial⟩))
          · -- operation 12
            (refine owes_val (L := [(46, true), (55, true)]) rfl rfl rfl (by kernel_rfl) ?_; intro a' w' hb' hfacts; obtain ⟨hf46, hf55, -⟩ := hfacts; try simp only [VL] at hf46; try simp only [VL] at hf55)
            obtain ⟨q0, q1⟩ := hload w' hb'
            first
              | (go_simp; first | exact ⟨_, rfl, Below.refl _ _, rfl⟩ | exact ⟨_, rfl, Below.refl _ _, trivial⟩ | exact ⟨_, rfl, Below.refl _ _⟩ | exact ⟨_, rfl, (Below.refl _ _).alloc (Nat.le_refl _) _, trivial⟩)
              | (apply Exists.intro
                 apply And.intro
                 · assumption
                 · apply And.intro
                   · intro hc
                     first
                       | (refine absurd hc ?_; simp [undef]; done)
                       | (go_simp; first | exact ⟨_, rfl, Below.refl _ _, rfl⟩ | exact ⟨_, rfl, Below.refl _ _, trivial⟩ | exact ⟨_, rfl, Below.refl _ _⟩ | exact ⟨_, rfl, (Below.refl _ _).alloc (Nat.le_refl _) _, trivial⟩)
                   · intro hc
                     first | exact absurd rfl hc | exact trivial | exact rfl)
              | (apply Exists.intro
                 apply And.intro
                 · assumption
                 · intro hc
                   first
                     | (refine absurd hc ?_; simp [undef]; done)
                     | (go_simp; first | exact ⟨_, rfl, Below.refl _ _, rfl⟩ | exact ⟨_, rfl, Below.refl _ _, trivial⟩ | exact ⟨_, rfl, Below.refl _ _⟩ | exact ⟨_, rfl, (Below.refl _ _).alloc (Nat.le_refl _) _, trivial⟩))
          · -- operation 13
            (refine owes_val (L := [(56, true)]) rfl rfl rfl (by kernel_rfl) ?_; intro a' w' hb' hfacts; obtain ⟨hf56, -⟩ := hfacts; try simp only [VL] at hf56)
            obtain ⟨q0, q1⟩ := hload w' hb'
            first
              | (go_simp; first | exact ⟨_, rfl, Below.refl _ _, rfl⟩ | exact ⟨_, rfl, Below.refl _ _, trivial⟩ | exact ⟨_, rfl, Below.refl _ _⟩ | exact ⟨_, rfl, (Below.refl _ _).alloc (Nat.le_refl _) _, trivial⟩)
              | (apply Exists.intro
                 apply And.intro
                 · assumption
                 · apply And.intro
                   · intro hc
                     first
                       | (refine absurd hc ?_; simp [undef]; done)
                       | (go_simp; first | exact ⟨_, rfl, Below.refl _ _, rfl⟩ | exact ⟨_, rfl, Below.refl _ _, trivial⟩ | exact ⟨_, rfl, Below.refl _ _⟩ | exact ⟨_, rfl, (Below.refl _ _).alloc (Nat.le_refl _) _, trivial⟩)
                   · intro hc
                     first | exact absurd rfl hc | exact trivial | exact rfl)
              | (apply Exists.intro
                 apply And.intro
                 · assumption
                 · intro hc
                   first
                     | (refine absurd hc ?_; simp [undef]; done)
                     | (go_simp; first | exact ⟨_, rfl, Below.refl _ _, rfl⟩ | exact ⟨_, rfl, Below.refl _ _, trivial⟩ | exact ⟨_, rfl, Below.refl _ _⟩ | exact ⟨_, rfl, (Below.refl _ _).alloc (Nat.le_refl _) _, trivial⟩))
          · -- operation 14
            (refine owes_if (L := [(12, false), (57, true)]) rfl rfl rfl rfl (by kernel_rfl) ?_; intro a' w' hb' hfacts; obtain ⟨hf12, hf57, -⟩ := hfacts; replace hf12 : a'.tmps[12]?.getD undef = .pointer (some ⟨q, 0, none⟩) := hf12; try simp only [VL] at hf57)
            obtain ⟨q0, q1⟩ := hload w' hb'
            first
              | (go_simp; first | exact ⟨_, rfl, Below.refl _ _, rfl⟩ | exact ⟨_, rfl, Below.refl _ _, trivial⟩ | exact ⟨_, rfl, Below.refl _ _⟩ | exact ⟨_, rfl, (Below.refl _ _).alloc (Nat.le_refl _) _, trivial⟩)
              | (apply Exists.intro
                 apply And.intro
                 · assumption
                 · apply And.intro
                   · intro hc
                     first
                       | (refine absurd hc ?_; simp [undef]; done)
                       | (go_simp; first | exact ⟨_, rfl, Below.refl _ _, rfl⟩ | exact ⟨_, rfl, Below.refl _ _, trivial⟩ | exact ⟨_, rfl, Below.refl _ _⟩ | exact ⟨_, rfl, (Below.refl _ _).alloc (Nat.le_refl _) _, trivial⟩)
                   · intro hc
                     first | exact absurd rfl hc | exact trivial | exact rfl)
              | (apply Exists.intro
                 apply And.intro
                 · assumption
                 · intro hc
                   first
                     | (refine absurd hc ?_; simp [undef]; done)
                     | (go_simp; first | exact ⟨_, rfl, Below.refl _ _, rfl⟩ | exact ⟨_, rfl, Below.refl _ _, trivial⟩ | exact ⟨_, rfl, Below.refl _ _⟩ | exact ⟨_, rfl, (Below.refl _ _).alloc (Nat.le_refl _) _, trivial⟩))
          · -- operation 15
            (refine owes_if (L := [(58, true), (57, true)]) rfl rfl rfl rfl (by kernel_rfl) ?_; intro a' w' hb' hfacts; obtain ⟨hf58, hf57, -⟩ := hfacts; try simp only [VL] at hf58; try simp only [VL] at hf57)
            obtain ⟨q0, q1⟩ := hload w' hb'
            first
              | (go_simp; first | exact ⟨_, rfl, Below.refl _ _, rfl⟩ | exact ⟨_, rfl, Below.refl _ _, trivial⟩ | exact ⟨_, rfl, Below.refl _ _⟩ | exact ⟨_, rfl, (Below.refl _ _).alloc (Nat.le_refl _) _, trivial⟩)
              | (apply Exists.intro
                 apply And.intro
                 · assumption
                 · apply And.intro
                   · intro hc
                     first
                       | (refine absurd hc ?_; simp [undef]; done)
                       | (go_simp; first | exact ⟨_, rfl, Below.refl _ _, rfl⟩ | exact ⟨_, rfl, Below.refl _ _, trivial⟩ | exact ⟨_, rfl, Below.refl _ _⟩ | exact ⟨_, rfl, (Below.refl _ _).alloc (Nat.le_refl _) _, trivial⟩)
                   · intro hc
                     first | exact absurd rfl hc | exact trivial | exact rfl)
              | (apply Exists.intro
                 apply And.intro
                 · assumption
                 · intro hc
                   first
                     | (refine absurd hc ?_; simp [undef]; done)
                     | (go_simp; first | exact ⟨_, rfl, Below.refl _ _, rfl⟩ | exact ⟨_, rfl, Below.refl _ _, trivial⟩ | exact ⟨_, rfl, Below.refl _ _⟩ | exact ⟨_, rfl, (Below.refl _ _).alloc (Nat.le_refl _) _, trivial⟩))
          · -- operation 16
            (refine owes_if (L := [(59, true), (57, true)]) rfl rfl rfl rfl (by kernel_rfl) ?_; intro a' w' hb' hfacts; obtain ⟨hf59, hf57, -⟩ := hfacts; try simp only [VL] at hf59; try simp only [VL] at hf57)
            refine ⟨.bool false, hf57, fun _ => ?_, fun hc => absurd rfl hc⟩
            go_simp
            refine (Good_any _ _).mono ?_
            rintro e w3 ⟨rfl, rfl⟩
            rw [hgood]
            exact ⟨_, rfl, Below.refl _ _, rfl⟩
          · -- operation 17
            (refine owes_if (L := [(60, true), (57, true)]) rfl rfl rfl rfl (by kernel_rfl) ?_; intro a' w' hb' hfacts; obtain ⟨hf60, hf57, -⟩ := hfacts; try simp only [VL] at hf60; try simp only [VL] at hf57)
            obtain ⟨q0, q1⟩ := hload w' hb'
            first
              | (go_simp; first | exact ⟨_, rfl, Below.refl _ _, rfl⟩ | exact ⟨_, rfl, Below.refl _ _, trivial⟩ | exact ⟨_, rfl, Below.refl _ _⟩ | exact ⟨_, rfl, (Below.refl _ _).alloc (Nat.le_refl _) _, trivial⟩)
              | (apply Exists.intro
                 apply And.intro
                 · assumption
                 · apply And.intro
                   · intro hc
                     first
                       | (refine absurd hc ?_; simp [undef]; done)
                       | (go_simp; first | exact ⟨_, rfl, Below.refl _ _, rfl⟩ | exact ⟨_, rfl, Below.refl _ _, trivial⟩ | exact ⟨_, rfl, Below.refl _ _⟩ | exact ⟨_, rfl, (Below.refl _ _).alloc (Nat.le_refl _) _, trivial⟩)
                   · intro hc
                     first | exact absurd rfl hc | exact trivial | exact rfl)
              | (apply Exists.intro
                 apply And.intro
                 · assumption
                 · intro hc
                   first
                     | (refine absurd hc ?_; simp [undef]; done)
                     | (go_simp; first | exact ⟨_, rfl, Below.refl _ _, rfl⟩ | exact ⟨_, rfl, Below.refl _ _, trivial⟩ | exact ⟨_, rfl, Below.refl _ _⟩ | exact ⟨_, rfl, (Below.refl _ _).alloc (Nat.le_refl _) _, trivial⟩))
          · -- operation 18
            (refine owes_val (L := [(57, true), (61, true)]) rfl rfl rfl (by kernel_rfl) ?_; intro a' w' hb' hfacts; obtain ⟨hf57, hf61, -⟩ := hfacts; try simp only [VL] at hf57; try simp only [VL] at hf61)
            obtain ⟨q0, q1⟩ := hload w' hb'
            first
              | (go_simp; first | exact ⟨_, rfl, Below.refl _ _, rfl⟩ | exact ⟨_, rfl, Below.refl _ _, trivial⟩ | exact ⟨_, rfl, Below.refl _ _⟩ | exact ⟨_, rfl, (Below.refl _ _).alloc (Nat.le_refl _) _, trivial⟩)
              | (apply Exists.intro
                 apply And.intro
                 · assumption
                 · apply And.intro
                   · intro hc
                     first
                       | (refine absurd hc ?_; simp [undef]; done)
                       | (go_simp; first | exact ⟨_, rfl, Below.refl _ _, rfl⟩ | exact ⟨_, rfl, Below.refl _ _, trivial⟩ | exact ⟨_, rfl, Below.refl _ _⟩ | exact ⟨_, rfl, (Below.refl _ _).alloc (Nat.le_refl _) _, trivial⟩)
                   · intro hc
                     first | exact absurd rfl hc | exact trivial | exact rfl)
              | (apply Exists.intro
                 apply And.intro
                 · assumption
                 · intro hc
                   first
                     | (refine absurd hc ?_; simp [undef]; done)
                     | (go_simp; first | exact ⟨_, rfl, Below.refl _ _, rfl⟩ | exact ⟨_, rfl, Below.refl _ _, trivial⟩ | exact ⟨_, rfl, Below.refl _ _⟩ | exact ⟨_, rfl, (Below.refl _ _).alloc (Nat.le_refl _) _, trivial⟩))
          · -- operation 19
            (refine owes_val (L := [(62, true)]) rfl rfl rfl (by kernel_rfl) ?_; intro a' w' hb' hfacts; obtain ⟨hf62, -⟩ := hfacts; try simp only [VL] at hf62)
            obtain ⟨q0, q1⟩ := hload w' hb'
            first
              | (go_simp; first | exact ⟨_, rfl, Below.refl _ _, rfl⟩ | exact ⟨_, rfl, Below.refl _ _, trivial⟩ | exact ⟨_, rfl, Below.refl _ _⟩ | exact ⟨_, rfl, (Below.refl _ _).alloc (Nat.le_refl _) _, trivial⟩)
              | (apply Exists.intro
                 apply And.intro
                 · assumption
                 · apply And.intro
                   · intro hc
                     first
                       | (refine absurd hc ?_; simp [undef]; done)
                       | (go_simp; first | exact ⟨_, rfl, Below.refl _ _, rfl⟩ | exact ⟨_, rfl, Below.refl _ _, trivial⟩ | exact ⟨_, rfl, Below.refl _ _⟩ | exact ⟨_, rfl, (Below.refl _ _).alloc (Nat.le_refl _) _, trivial⟩)
                   · intro hc
                     first | exact absurd rfl hc | exact trivial | exact rfl)
              | (apply Exists.intro
                 apply And.intro
                 · assumption
                 · intro hc
                   first
                     | (refine absurd hc ?_; simp [undef]; done)
                     | (go_simp; first | exact ⟨_, rfl, Below.refl _ _, rfl⟩ | exact ⟨_, rfl, Below.refl _ _, trivial⟩ | exact ⟨_, rfl, Below.refl _ _⟩ | exact ⟨_, rfl, (Below.refl _ _).alloc (Nat.le_refl _) _, trivial⟩))
          · -- operation 20
            (refine owes_if (L := [(12, false), (63, true)]) rfl rfl rfl rfl (by kernel_rfl) ?_; intro a' w' hb' hfacts; obtain ⟨hf12, hf63, -⟩ := hfacts; replace hf12 : a'.tmps[12]?.getD undef = .pointer (some ⟨q, 0, none⟩) := hf12; try simp only [VL] at hf63)
            obtain ⟨q0, q1⟩ := hload w' hb'
            first
              | (go_simp; first | exact ⟨_, rfl, Below.refl _ _, rfl⟩ | exact ⟨_, rfl, Below.refl _ _, trivial⟩ | exact ⟨_, rfl, Below.refl _ _⟩ | exact ⟨_, rfl, (Below.refl _ _).alloc (Nat.le_refl _) _, trivial⟩)
              | (apply Exists.intro
                 apply And.intro
                 · assumption
                 · apply And.intro
                   · intro hc
                     first
                       | (refine absurd hc ?_; simp [undef]; done)
                       | (go_simp; first | exact ⟨_, rfl, Below.refl _ _, rfl⟩ | exact ⟨_, rfl, Below.refl _ _, trivial⟩ | exact ⟨_, rfl, Below.refl _ _⟩ | exact ⟨_, rfl, (Below.refl _ _).alloc (Nat.le_refl _) _, trivial⟩)
                   · intro hc
                     first | exact absurd rfl hc | exact trivial | exact rfl)
              | (apply Exists.intro
                 apply And.intro
                 · assumption
                 · intro hc
                   first
                     | (refine absurd hc ?_; simp [undef]; done)
                     | (go_simp; first | exact ⟨_, rfl, Below.refl _ _, rfl⟩ | exact ⟨_, rfl, Below.refl _ _, trivial⟩ | exact ⟨_, rfl, Below.refl _ _⟩ | exact ⟨_, rfl, (Below.refl _ _).alloc (Nat.le_refl _) _, trivial⟩))
          · -- operation 21
            (refine owes_if (L := [(64, true), (63, true)]) rfl rfl rfl rfl (by kernel_rfl) ?_; intro a' w' hb' hfacts; obtain ⟨hf64, hf63, -⟩ := hfacts; try simp only [VL] at hf64; try simp only [VL] at hf63)
            obtain ⟨q0, q1⟩ := hload w' hb'
            first
              | (go_simp; first | exact ⟨_, rfl, Below.refl _ _, rfl⟩ | exact ⟨_, rfl, Below.refl _ _, trivial⟩ | exact ⟨_, rfl, Below.refl _ _⟩ | exact ⟨_, rfl, (Below.refl _ _).alloc (Nat.le_refl _) _, trivial⟩)
              | (apply Exists.intro
                 apply And.intro
                 · assumption
                 · apply And.intro
                   · intro hc
                     first
                       | (refine absurd hc ?_; simp [undef]; done)
                       | (go_simp; first | exact ⟨_, rfl, Below.refl _ _, rfl⟩ | exact ⟨_, rfl, Below.refl _ _, trivial⟩ | exact ⟨_, rfl, Below.refl _ _⟩ | exact ⟨_, rfl, (Below.refl _ _).alloc (Nat.le_refl _) _, trivial⟩)
                   · intro hc
                     first | exact absurd rfl hc | exact trivial | exact rfl)
              | (apply Exists.intro
                 apply And.intro
                 · assumption
                 · intro hc
                   first
                     | (refine absurd hc ?_; simp [undef]; done)
                     | (go_simp; first | exact ⟨_, rfl, Below.refl _ _, rfl⟩ | exact ⟨_, rfl, Below.refl _ _, trivial⟩ | exact ⟨_, rfl, Below.refl _ _⟩ | exact ⟨_, rfl, (Below.refl _ _).alloc (Nat.le_refl _) _, trivial⟩))
          · -- operation 22
            (refine owes_if (L := [(65, true), (63, true)]) rfl rfl rfl rfl (by kernel_rfl) ?_; intro a' w' hb' hfacts; obtain ⟨hf65, hf63, -⟩ := hfacts; try simp only [VL] at hf65; try simp only [VL] at hf63)
            obtain ⟨q0, q1⟩ := hload w' hb'
            first
              | (go_simp; first | exact ⟨_, rfl, Below.refl _ _, rfl⟩ | exact ⟨_, rfl, Below.refl _ _, trivial⟩ | exact ⟨_, rfl, Below.refl _ _⟩ | exact ⟨_, rfl, (Below.refl _ _).alloc (Nat.le_refl _) _, trivial⟩)
              | (apply Exists.intro
                 apply And.intro
                 · assumption
                 · apply And.intro
                   · intro hc
                     first
                       | (refine absurd hc ?_; simp [undef]; done)
                       | (go_simp; first | exact ⟨_, rfl, Below.refl _ _, rfl⟩ | exact ⟨_, rfl, Below.refl _ _, trivial⟩ | exact ⟨_, rfl, Below.refl _ _⟩ | exact ⟨_, rfl, (Below.refl _ _).alloc (Nat.le_refl _) _, trivial⟩)
                   · intro hc
                     first | exact absurd rfl hc | exact trivial | exact rfl)
              | (apply Exists.intro
                 apply And.intro
                 · assumption
                 · intro hc
                   first
                     | (refine absurd hc ?_; simp [undef]; done)
                     | (go_simp; first | exact ⟨_, rfl, Below.refl _ _, rfl⟩ | exact ⟨_, rfl, Below.refl _ _, trivial⟩ | exact ⟨_, rfl, Below.refl _ _⟩ | exact ⟨_, rfl, (Below.refl _ _).alloc (Nat.le_refl _) _, trivial⟩))
          · -- operation 23
            (refine owes_val (L := [(63, true), (66, true)]) rfl rfl rfl (by kernel_rfl) ?_; intro a' w' hb' hfacts; obtain ⟨hf63, hf66, -⟩ := hfacts; try simp only [VL] at hf63; try simp only [VL] at hf66)
            obtain ⟨q0, q1⟩ := hload w' hb'
            first
              | (go_simp; first | exact ⟨_, rfl, Below.refl _ _, rfl⟩ | exact ⟨_, rfl, Below.refl _ _, trivial⟩ | exact ⟨_, rfl, Below.refl _ _⟩ | exact ⟨_, rfl, (Below.refl _ _).alloc (Nat.le_refl _) _, trivial⟩)
              | (apply Exists.intro
                 apply And.intro
                 · assumption
                 · apply And.intro
                   · intro hc
                     first
                       | (refine absurd hc ?_; simp [undef]; done)
                       | (go_simp; first | exact ⟨_, rfl, Below.refl _ _, rfl⟩ | exact ⟨_, rfl, Below.refl _ _, trivial⟩ | exact ⟨_, rfl, Below.refl _ _⟩ | exact ⟨_, rfl, (Below.refl _ _).alloc (Nat.le_refl _) _, trivial⟩)
                   · intro hc
                     first | exact absurd rfl hc | exact trivial | exact rfl)
              | (apply Exists.intro
                 apply And.intro
                 · assumption
                 · intro hc
                   first
                     | (refine absurd hc ?_; simp [undef]; done)
                     | (go_simp; first | exact ⟨_, rfl, Below.refl _ _, rfl⟩ | exact ⟨_, rfl, Below.refl _ _, trivial⟩ | exact ⟨_, rfl, Below.refl _ _⟩ | exact ⟨_, rfl, (Below.refl _ _).alloc (Nat.le_refl _) _, trivial⟩))
        · intro f W3 hf hb3
          have f67 : f 67 = .bool false := hf 67 (by decide)
          have k0' := (hb3.cell hlt2).trans k0
          have k1' := (hb3.cell hlt2).trans k1
          have HB6 := Lib.hid (HBW.out.trans (hb3.mono HBW.out.size))
          clear hf hb3 k0 k1 hbW HBW
          simp only [putAll, put_lit, List.map_cons, List.map_nil, List.set_cons_succ, List.set_cons_zero]
          simp only [f67]
          by_cases c1 : x1 = (n : Int)
          · have c2 : (x2 != (at' : Int)) = false := by simp [Hat.out c1]
            go_wp2
            exact ⟨⟨1, by omega, rfl, HB6.out⟩, by simp [intOf]; omega⟩
          · go_wp2
            exact ⟨⟨1, by omega, rfl, HB6.out⟩, by simp [intOf]; omega⟩
      | succ j =>
        obtain ⟨⟨y1, y2⟩, ⟨r0, r1⟩, hlt1⟩ := Hprev.out j rfl
        have hadq : (ad.add (j * 2)).block < q := by simp only [Addr.add]; split <;> exact hAl
        have hj1 : (0 : Int) ≤ (j : Int) := by omega
        have hj2 : (j : Int) < (L2.length : Int) := by omega
        have r0' : W2.cell? (ad.add (j * 2)) = some (.int .u8 y1) := (hbW.cell (by rw [hq]; exact hadq)).trans r0
        have hlt1' : decide (y1 ≥ x1) = false := by simp; omega
        refine wp_held' mixed (VL (some (ad, L2.length, c5, j, y1)) ((j + 1 : Nat) : Int) q x1 x2) (VL_mono _ _ q x1 x2) (by kernel_rfl) [44, 45, 46, 47, 48, 49, 50, 51, 52, 53, 54, 55, 56, 57, 58, 59, 60, 61, 62, 63, 64, 65, 66, 67] (by kernel_rfl) (by kernel_rfl) ?_ ?_
        · intro i hi
          have hi' : i < 24 := hi
          have hload : ∀ w', Below W2.heap.size W2 w' → w'.cell? ⟨q, 0, none⟩ = some (.int .u8 x1) ∧ w'.cell? ⟨q, 1, none⟩ = some (.int .i64 x2) ∧ w'.cell? (ad.add (j * 2)) = some (.int .u8 y1) := fun w' hb =>
            ⟨(hb.cell hlt2).trans k0, (hb.cell hlt2).trans k1, (hb.cell (Nat.lt_trans hadq hlt2)).trans r0'⟩
          rcases (by omega : i = 0 ∨ i = 1 ∨ i = 2 ∨ i = 3 ∨ i = 4 ∨ i = 5 ∨ i = 6 ∨ i = 7 ∨ i = 8 ∨ i = 9 ∨ i = 10 ∨ i = 11 ∨ i = 12 ∨ i = 13 ∨ i = 14 ∨ i = 15 ∨ i = 16 ∨ i = 17 ∨ i = 18 ∨ i = 19 ∨ i = 20 ∨ i = 21 ∨ i = 22 ∨ i = 23) with rfl | rfl | rfl | rfl | rfl | rfl | rfl | rfl | rfl | rfl | rfl | rfl | rfl | rfl | rfl | rfl | rfl | rfl | rfl | rfl | rfl | rfl | rfl | rfl
          · -- operation 0
            (refine owes_val (L := [(11, false)]) rfl rfl rfl (by kernel_rfl) ?_; intro a' w' hb' hfacts; obtain ⟨hf11, -⟩ := hfacts; replace hf11 : a'.tmps[11]?.getD undef = .int .i64 ((j + 1 : Nat) : Int) := hf11)
            obtain ⟨q0, q1, q2⟩ := hload w' hb'
            first
              | (go_simp; first | exact ⟨_, rfl, Below.refl _ _, rfl⟩ | exact ⟨_, rfl, Below.refl _ _, trivial⟩ | exact ⟨_, rfl, Below.refl _ _⟩ | exact ⟨_, rfl, (Below.refl _ _).alloc (Nat.le_refl _) _, trivial⟩)
              | (apply Exists.intro
                 apply And.intro
                 · assumption
                 · apply And.intro
                   · intro hc
                     first
                       | (refine absurd hc ?_; simp [undef]; done)
                       | (go_simp; first | exact ⟨_, rfl, Below.refl _ _, rfl⟩ | exact ⟨_, rfl, Below.refl _ _, trivial⟩ | exact ⟨_, rfl, Below.refl _ _⟩ | exact ⟨_, rfl, (Below.refl _ _).alloc (Nat.le_refl _) _, trivial⟩)
                   · intro hc
                     first | exact absurd rfl hc | exact trivial | exact rfl)
              | (apply Exists.intro
                 apply And.intro
                 · assumption
                 · intro hc
                   first
                     | (refine absurd hc ?_; simp [undef]; done)
                     | (go_simp; first | exact ⟨_, rfl, Below.refl _ _, rfl⟩ | exact ⟨_, rfl, Below.refl _ _, trivial⟩ | exact ⟨_, rfl, Below.refl _ _⟩ | exact ⟨_, rfl, (Below.refl _ _).alloc (Nat.le_refl _) _, trivial⟩))
          · -- operation 1
            (refine owes_val (L := [(44, true)]) rfl rfl rfl (by kernel_rfl) ?_; intro a' w' hb' hfacts; obtain ⟨hf44, -⟩ := hfacts; try simp only [VL] at hf44)
            obtain ⟨q0, q1, q2⟩ := hload w' hb'
            first
              | (go_simp; first | exact ⟨_, rfl, Below.refl _ _, rfl⟩ | exact ⟨_, rfl, Below.refl _ _, trivial⟩ | exact ⟨_, rfl, Below.refl _ _⟩ | exact ⟨_, rfl, (Below.refl _ _).alloc (Nat.le_refl _) _, trivial⟩)
              | (apply Exists.intro
                 apply And.intro
                 · assumption
                 · apply And.intro
                   · intro hc
                     first
                       | (refine absurd hc ?_; simp [undef]; done)
                       | (go_simp; first | exact ⟨_, rfl, Below.refl _ _, rfl⟩ | exact ⟨_, rfl, Below.refl _ _, trivial⟩ | exact ⟨_, rfl, Below.refl _ _⟩ | exact ⟨_, rfl, (Below.refl _ _).alloc (Nat.le_refl _) _, trivial⟩)
                   · intro hc
                     first | exact absurd rfl hc | exact trivial | exact rfl)
              | (apply Exists.intro
                 apply And.intro
                 · assumption
                 · intro hc
                   first
                     | (refine absurd hc ?_; simp [undef]; done)
                     | (go_simp; first | exact ⟨_, rfl, Below.refl _ _, rfl⟩ | exact ⟨_, rfl, Below.refl _ _, trivial⟩ | exact ⟨_, rfl, Below.refl _ _⟩ | exact ⟨_, rfl, (Below.refl _ _).alloc (Nat.le_refl _) _, trivial⟩))
          · -- operation 2
            (refine owes_val (L := [(45, true)]) rfl rfl rfl (by kernel_rfl) ?_; intro a' w' hb' hfacts; obtain ⟨hf45, -⟩ := hfacts; try simp only [VL] at hf45)
            obtain ⟨q0, q1, q2⟩ := hload w' hb'
            first
              | (go_simp; first | exact ⟨_, rfl, Below.refl _ _, rfl⟩ | exact ⟨_, rfl, Below.refl _ _, trivial⟩ | exact ⟨_, rfl, Below.refl _ _⟩ | exact ⟨_, rfl, (Below.refl _ _).alloc (Nat.le_refl _) _, trivial⟩)
              | (apply Exists.intro
                 apply And.intro
                 · assumption
                 · apply And.intro
                   · intro hc
                     first
                       | (refine absurd hc ?_; simp [undef]; done)
                       | (go_simp; first | exact ⟨_, rfl, Below.refl _ _, rfl⟩ | exact ⟨_, rfl, Below.refl _ _, trivial⟩ | exact ⟨_, rfl, Below.refl _ _⟩ | exact ⟨_, rfl, (Below.refl _ _).alloc (Nat.le_refl _) _, trivial⟩)
                   · intro hc
                     first | exact absurd rfl hc | exact trivial | exact rfl)
              | (apply Exists.intro
                 apply And.intro
                 · assumption
                 · intro hc
                   first
                     | (refine absurd hc ?_; simp [undef]; done)
                     | (go_simp; first | exact ⟨_, rfl, Below.refl _ _, rfl⟩ | exact ⟨_, rfl, Below.refl _ _, trivial⟩ | exact ⟨_, rfl, Below.refl _ _⟩ | exact ⟨_, rfl, (Below.refl _ _).alloc (Nat.le_refl _) _, trivial⟩))
          · -- operation 3
            (refine owes_if (L := [(10, false), (46, true)]) rfl rfl rfl rfl (by kernel_rfl) ?_; intro a' w' hb' hfacts; obtain ⟨hf10, hf46, -⟩ := hfacts; replace hf10 : a'.tmps[10]?.getD undef = .slice (some ad) L2.length c5 := hf10; try simp only [VL] at hf46)
            obtain ⟨q0, q1, q2⟩ := hload w' hb'
            first
              | (go_simp; first | exact ⟨_, rfl, Below.refl _ _, rfl⟩ | exact ⟨_, rfl, Below.refl _ _, trivial⟩ | exact ⟨_, rfl, Below.refl _ _⟩ | exact ⟨_, rfl, (Below.refl _ _).alloc (Nat.le_refl _) _, trivial⟩)
              | (apply Exists.intro
                 apply And.intro
                 · assumption
                 · apply And.intro
                   · intro hc
                     first
                       | (refine absurd hc ?_; simp [undef]; done)
                       | (go_simp; first | exact ⟨_, rfl, Below.refl _ _, rfl⟩ | exact ⟨_, rfl, Below.refl _ _, trivial⟩ | exact ⟨_, rfl, Below.refl _ _⟩ | exact ⟨_, rfl, (Below.refl _ _).alloc (Nat.le_refl _) _, trivial⟩)
                   · intro hc
                     first | exact absurd rfl hc | exact trivial | exact rfl)
              | (apply Exists.intro
                 apply And.intro
                 · assumption
                 · intro hc
                   first
                     | (refine absurd hc ?_; simp [undef]; done)
                     | (go_simp; first | exact ⟨_, rfl, Below.refl _ _, rfl⟩ | exact ⟨_, rfl, Below.refl _ _, trivial⟩ | exact ⟨_, rfl, Below.refl _ _⟩ | exact ⟨_, rfl, (Below.refl _ _).alloc (Nat.le_refl _) _, trivial⟩))
          · -- operation 4
            (refine owes_if (L := [(11, false), (46, true)]) rfl rfl rfl rfl (by kernel_rfl) ?_; intro a' w' hb' hfacts; obtain ⟨hf11, hf46, -⟩ := hfacts; replace hf11 : a'.tmps[11]?.getD undef = .int .i64 ((j + 1 : Nat) : Int) := hf11; try simp only [VL] at hf46)
            obtain ⟨q0, q1, q2⟩ := hload w' hb'
            first
              | (go_simp; first | exact ⟨_, rfl, Below.refl _ _, rfl⟩ | exact ⟨_, rfl, Below.refl _ _, trivial⟩ | exact ⟨_, rfl, Below.refl _ _⟩ | exact ⟨_, rfl, (Below.refl _ _).alloc (Nat.le_refl _) _, trivial⟩)
              | (apply Exists.intro
                 apply And.intro
                 · assumption
                 · apply And.intro
                   · intro hc
                     first
                       | (refine absurd hc ?_; simp [undef]; done)
                       | (go_simp; first | exact ⟨_, rfl, Below.refl _ _, rfl⟩ | exact ⟨_, rfl, Below.refl _ _, trivial⟩ | exact ⟨_, rfl, Below.refl _ _⟩ | exact ⟨_, rfl, (Below.refl _ _).alloc (Nat.le_refl _) _, trivial⟩)
                   · intro hc
                     first | exact absurd rfl hc | exact trivial | exact rfl)
              | (apply Exists.intro
                 apply And.intro
                 · assumption
                 · intro hc
                   first
                     | (refine absurd hc ?_; simp [undef]; done)
                     | (go_simp; first | exact ⟨_, rfl, Below.refl _ _, rfl⟩ | exact ⟨_, rfl, Below.refl _ _, trivial⟩ | exact ⟨_, rfl, Below.refl _ _⟩ | exact ⟨_, rfl, (Below.refl _ _).alloc (Nat.le_refl _) _, trivial⟩))
          · -- operation 5
            (refine owes_if (L := [(48, true), (46, true)]) rfl rfl rfl rfl (by kernel_rfl) ?_; intro a' w' hb' hfacts; obtain ⟨hf48, hf46, -⟩ := hfacts; try simp only [VL] at hf48; try simp only [VL] at hf46)
            refine ⟨.bool true, hf46, fun _ => ?_, fun hc => absurd rfl hc⟩
            go_simp
            refine ⟨_, rfl, Below.refl _ _, ?_⟩
            show Value.int _ _ = Value.int _ _
            rw [IntWalk.i64_in _ (by omega)]
          · -- operation 6
            (refine owes_if (L := [(47, true), (49, true), (46, true)]) rfl rfl rfl rfl (by kernel_rfl) ?_; intro a' w' hb' hfacts; obtain ⟨hf47, hf49, hf46, -⟩ := hfacts; try simp only [VL] at hf47; try simp only [VL] at hf49; try simp only [VL] at hf46)
            obtain ⟨q0, q1, q2⟩ := hload w' hb'
            first
              | (go_simp; first | exact ⟨_, rfl, Below.refl _ _, rfl⟩ | exact ⟨_, rfl, Below.refl _ _, trivial⟩ | exact ⟨_, rfl, Below.refl _ _⟩ | exact ⟨_, rfl, (Below.refl _ _).alloc (Nat.le_refl _) _, trivial⟩)
              | (apply Exists.intro
                 apply And.intro
                 · assumption
                 · apply And.intro
                   · intro hc
                     first
                       | (refine absurd hc ?_; simp [undef]; done)
                       | (go_simp; first | exact ⟨_, rfl, Below.refl _ _, rfl⟩ | exact ⟨_, rfl, Below.refl _ _, trivial⟩ | exact ⟨_, rfl, Below.refl _ _⟩ | exact ⟨_, rfl, (Below.refl _ _).alloc (Nat.le_refl _) _, trivial⟩)
                   · intro hc
                     first | exact absurd rfl hc | exact trivial | exact rfl)
              | (apply Exists.intro
                 apply And.intro
                 · assumption
                 · intro hc
                   first
                     | (refine absurd hc ?_; simp [undef]; done)
                     | (go_simp; first | exact ⟨_, rfl, Below.refl _ _, rfl⟩ | exact ⟨_, rfl, Below.refl _ _, trivial⟩ | exact ⟨_, rfl, Below.refl _ _⟩ | exact ⟨_, rfl, (Below.refl _ _).alloc (Nat.le_refl _) _, trivial⟩))
          · -- operation 7
            (refine owes_if (L := [(50, true), (46, true)]) rfl rfl rfl rfl (by kernel_rfl) ?_; intro a' w' hb' hfacts; obtain ⟨hf50, hf46, -⟩ := hfacts; try simp only [VL] at hf50; try simp only [VL] at hf46)
            obtain ⟨q0, q1, q2⟩ := hload w' hb'
            first
              | (go_simp; first | exact ⟨_, rfl, Below.refl _ _, rfl⟩ | exact ⟨_, rfl, Below.refl _ _, trivial⟩ | exact ⟨_, rfl, Below.refl _ _⟩ | exact ⟨_, rfl, (Below.refl _ _).alloc (Nat.le_refl _) _, trivial⟩)
              | (apply Exists.intro
                 apply And.intro
                 · assumption
                 · apply And.intro
                   · intro hc
                     first
                       | (refine absurd hc ?_; simp [undef]; done)
                       | (go_simp; first | exact ⟨_, rfl, Below.refl _ _, rfl⟩ | exact ⟨_, rfl, Below.refl _ _, trivial⟩ | exact ⟨_, rfl, Below.refl _ _⟩ | exact ⟨_, rfl, (Below.refl _ _).alloc (Nat.le_refl _) _, trivial⟩)
                   · intro hc
                     first | exact absurd rfl hc | exact trivial | exact rfl)
              | (apply Exists.intro
                 apply And.intro
                 · assumption
                 · intro hc
                   first
                     | (refine absurd hc ?_; simp [undef]; done)
                     | (go_simp; first | exact ⟨_, rfl, Below.refl _ _, rfl⟩ | exact ⟨_, rfl, Below.refl _ _, trivial⟩ | exact ⟨_, rfl, Below.refl _ _⟩ | exact ⟨_, rfl, (Below.refl _ _).alloc (Nat.le_refl _) _, trivial⟩))
          · -- operation 8
            (refine owes_if (L := [(51, true), (46, true)]) rfl rfl rfl rfl (by kernel_rfl) ?_; intro a' w' hb' hfacts; obtain ⟨hf51, hf46, -⟩ := hfacts; try simp only [VL] at hf51; try simp only [VL] at hf46)
            obtain ⟨q0, q1, q2⟩ := hload w' hb'
            first
              | (go_simp; first | exact ⟨_, rfl, Below.refl _ _, rfl⟩ | exact ⟨_, rfl, Below.refl _ _, trivial⟩ | exact ⟨_, rfl, Below.refl _ _⟩ | exact ⟨_, rfl, (Below.refl _ _).alloc (Nat.le_refl _) _, trivial⟩)
              | (apply Exists.intro
                 apply And.intro
                 · assumption
                 · apply And.intro
                   · intro hc
                     first
                       | (refine absurd hc ?_; simp [undef]; done)
                       | (go_simp; first | exact ⟨_, rfl, Below.refl _ _, rfl⟩ | exact ⟨_, rfl, Below.refl _ _, trivial⟩ | exact ⟨_, rfl, Below.refl _ _⟩ | exact ⟨_, rfl, (Below.refl _ _).alloc (Nat.le_refl _) _, trivial⟩)
                   · intro hc
                     first | exact absurd rfl hc | exact trivial | exact rfl)
              | (apply Exists.intro
                 apply And.intro
                 · assumption
                 · intro hc
                   first
                     | (refine absurd hc ?_; simp [undef]; done)
                     | (go_simp; first | exact ⟨_, rfl, Below.refl _ _, rfl⟩ | exact ⟨_, rfl, Below.refl _ _, trivial⟩ | exact ⟨_, rfl, Below.refl _ _⟩ | exact ⟨_, rfl, (Below.refl _ _).alloc (Nat.le_refl _) _, trivial⟩))
          · -- operation 9
            (refine owes_if (L := [(12, false), (46, true)]) rfl rfl rfl rfl (by kernel_rfl) ?_; intro a' w' hb' hfacts; obtain ⟨hf12, hf46, -⟩ := hfacts; replace hf12 : a'.tmps[12]?.getD undef = .pointer (some ⟨q, 0, none⟩) := hf12; try simp only [VL] at hf46)
            obtain ⟨q0, q1, q2⟩ := hload w' hb'
            first
              | (go_simp; first | exact ⟨_, rfl, Below.refl _ _, rfl⟩ | exact ⟨_, rfl, Below.refl _ _, trivial⟩ | exact ⟨_, rfl, Below.refl _ _⟩ | exact ⟨_, rfl, (Below.refl _ _).alloc (Nat.le_refl _) _, trivial⟩)
              | (apply Exists.intro
                 apply And.intro
                 · assumption
                 · apply And.intro
                   · intro hc
                     first
                       | (refine absurd hc ?_; simp [undef]; done)
                       | (go_simp; first | exact ⟨_, rfl, Below.refl _ _, rfl⟩ | exact ⟨_, rfl, Below.refl _ _, trivial⟩ | exact ⟨_, rfl, Below.refl _ _⟩ | exact ⟨_, rfl, (Below.refl _ _).alloc (Nat.le_refl _) _, trivial⟩)
                   · intro hc
                     first | exact absurd rfl hc | exact trivial | exact rfl)
              | (apply Exists.intro
                 apply And.intro
                 · assumption
                 · intro hc
                   first
                     | (refine absurd hc ?_; simp [undef]; done)
                     | (go_simp; first | exact ⟨_, rfl, Below.refl _ _, rfl⟩ | exact ⟨_, rfl, Below.refl _ _, trivial⟩ | exact ⟨_, rfl, Below.refl _ _⟩ | exact ⟨_, rfl, (Below.refl _ _).alloc (Nat.le_refl _) _, trivial⟩))
          · -- operation 10
            (refine owes_if (L := [(53, true), (46, true)]) rfl rfl rfl rfl (by kernel_rfl) ?_; intro a' w' hb' hfacts; obtain ⟨hf53, hf46, -⟩ := hfacts; try simp only [VL] at hf53; try simp only [VL] at hf46)
            obtain ⟨q0, q1, q2⟩ := hload w' hb'
            first
              | (go_simp; first | exact ⟨_, rfl, Below.refl _ _, rfl⟩ | exact ⟨_, rfl, Below.refl _ _, trivial⟩ | exact ⟨_, rfl, Below.refl _ _⟩ | exact ⟨_, rfl, (Below.refl _ _).alloc (Nat.le_refl _) _, trivial⟩)
              | (apply Exists.intro
                 apply And.intro
                 · assumption
                 · apply And.intro
                   · intro hc
                     first
                       | (refine absurd hc ?_; simp [undef]; done)
                       | (go_simp; first | exact ⟨_, rfl, Below.refl _ _, rfl⟩ | exact ⟨_, rfl, Below.refl _ _, trivial⟩ | exact ⟨_, rfl, Below.refl _ _⟩ | exact ⟨_, rfl, (Below.refl _ _).alloc (Nat.le_refl _) _, trivial⟩)
                   · intro hc
                     first | exact absurd rfl hc | exact trivial | exact rfl)
              | (apply Exists.intro
                 apply And.intro
                 · assumption
                 · intro hc
                   first
                     | (refine absurd hc ?_; simp [undef]; done)
                     | (go_simp; first | exact ⟨_, rfl, Below.refl _ _, rfl⟩ | exact ⟨_, rfl, Below.refl _ _, trivial⟩ | exact ⟨_, rfl, Below.refl _ _⟩ | exact ⟨_, rfl, (Below.refl _ _).alloc (Nat.le_refl _) _, trivial⟩))
          · -- operation 11
            (refine owes_if (L := [(52, true), (54, true), (46, true)]) rfl rfl rfl rfl (by kernel_rfl) ?_; intro a' w' hb' hfacts; obtain ⟨hf52, hf54, hf46, -⟩ := hfacts; try simp only [VL] at hf52; try simp only [VL] at hf54; try simp only [VL] at hf46)
            obtain ⟨q0, q1, q2⟩ := hload w' hb'
            first
              | (go_simp; first | exact ⟨_, rfl, Below.refl _ _, rfl⟩ | exact ⟨_, rfl, Below.refl _ _, trivial⟩ | exact ⟨_, rfl, Below.refl _ _⟩ | exact ⟨_, rfl, (Below.refl _ _).alloc (Nat.le_refl _) _, trivial⟩)
              | (apply Exists.intro
                 apply And.intro
                 · assumption
                 · apply And.intro
                   · intro hc
                     first
                       | (refine absurd hc ?_; simp [undef]; done)
                       | (go_simp; first | exact ⟨_, rfl, Below.refl _ _, rfl⟩ | exact ⟨_, rfl, Below.refl _ _, trivial⟩ | exact ⟨_, rfl, Below.refl _ _⟩ | exact ⟨_, rfl, (Below.refl _ _).alloc (Nat.le_refl _) _, trivial⟩)
                   · intro hc
                     first | exact absurd rfl hc | exact trivial | exact rfl)
              | (apply Exists.intro
                 apply And.intro
                 · assumption
                 · intro hc
                   first
                     | (refine absurd hc ?_; simp [undef]; done)
                     | (go_simp; first | exact ⟨_, rfl, Below.refl _ _, rfl⟩ | exact ⟨_, rfl, Below.refl _ _, trivial⟩ | exact ⟨_, rfl, Below.refl _ _⟩ | exact ⟨_, rfl, (Below.refl _ _).alloc (Nat.le_refl _) _, trivial⟩))
          · -- operation 12
            (refine owes_val (L := [(46, true), (55, true)]) rfl rfl rfl (by kernel_rfl) ?_; intro a' w' hb' hfacts; obtain ⟨hf46, hf55, -⟩ := hfacts; try simp only [VL] at hf46; try simp only [VL] at hf55)
            obtain ⟨q0, q1, q2⟩ := hload w' hb'
            first
              | (go_simp; first | exact ⟨_, rfl, Below.refl _ _, rfl⟩ | exact ⟨_, rfl, Below.refl _ _, trivial⟩ | exact ⟨_, rfl, Below.refl _ _⟩ | exact ⟨_, rfl, (Below.refl _ _).alloc (Nat.le_refl _) _, trivial⟩)
              | (apply Exists.intro
                 apply And.intro
                 · assumption
                 · apply And.intro
                   · intro hc
                     first
                       | (refine absurd hc ?_; simp [undef]; done)
                       | (go_simp; first | exact ⟨_, rfl, Below.refl _ _, rfl⟩ | exact ⟨_, rfl, Below.refl _ _, trivial⟩ | exact ⟨_, rfl, Below.refl _ _⟩ | exact ⟨_, rfl, (Below.refl _ _).alloc (Nat.le_refl _) _, trivial⟩)
                   · intro hc
                     first | exact absurd rfl hc | exact trivial | exact rfl)
              | (apply Exists.intro
                 apply And.intro
                 · assumption
                 · intro hc
                   first
                     | (refine absurd hc ?_; simp [undef]; done)
                     | (go_simp; first | exact ⟨_, rfl, Below.refl _ _, rfl⟩ | exact ⟨_, rfl, Below.refl _ _, trivial⟩ | exact ⟨_, rfl, Below.refl _ _⟩ | exact ⟨_, rfl, (Below.refl _ _).alloc (Nat.le_refl _) _, trivial⟩))
          · -- operation 13
            (refine owes_val (L := [(56, true)]) rfl rfl rfl (by kernel_rfl) ?_; intro a' w' hb' hfacts; obtain ⟨hf56, -⟩ := hfacts; try simp only [VL] at hf56)
            obtain ⟨q0, q1, q2⟩ := hload w' hb'
            first
              | (go_simp; first | exact ⟨_, rfl, Below.refl _ _, rfl⟩ | exact ⟨_, rfl, Below.refl _ _, trivial⟩ | exact ⟨_, rfl, Below.refl _ _⟩ | exact ⟨_, rfl, (Below.refl _ _).alloc (Nat.le_refl _) _, trivial⟩)
              | (apply Exists.intro
                 apply And.intro
                 · assumption
                 · apply And.intro
                   · intro hc
                     first
                       | (refine absurd hc ?_; simp [undef]; done)
                       | (go_simp; first | exact ⟨_, rfl, Below.refl _ _, rfl⟩ | exact ⟨_, rfl, Below.refl _ _, trivial⟩ | exact ⟨_, rfl, Below.refl _ _⟩ | exact ⟨_, rfl, (Below.refl _ _).alloc (Nat.le_refl _) _, trivial⟩)
                   · intro hc
                     first | exact absurd rfl hc | exact trivial | exact rfl)
              | (apply Exists.intro
                 apply And.intro
                 · assumption
                 · intro hc
                   first
                     | (refine absurd hc ?_; simp [undef]; done)
                     | (go_simp; first | exact ⟨_, rfl, Below.refl _ _, rfl⟩ | exact ⟨_, rfl, Below.refl _ _, trivial⟩ | exact ⟨_, rfl, Below.refl _ _⟩ | exact ⟨_, rfl, (Below.refl _ _).alloc (Nat.le_refl _) _, trivial⟩))
          · -- operation 14
            (refine owes_if (L := [(12, false), (57, true)]) rfl rfl rfl rfl (by kernel_rfl) ?_; intro a' w' hb' hfacts; obtain ⟨hf12, hf57, -⟩ := hfacts; replace hf12 : a'.tmps[12]?.getD undef = .pointer (some ⟨q, 0, none⟩) := hf12; try simp only [VL] at hf57)
            obtain ⟨q0, q1, q2⟩ := hload w' hb'
            first
              | (go_simp; first | exact ⟨_, rfl, Below.refl _ _, rfl⟩ | exact ⟨_, rfl, Below.refl _ _, trivial⟩ | exact ⟨_, rfl, Below.refl _ _⟩ | exact ⟨_, rfl, (Below.refl _ _).alloc (Nat.le_refl _) _, trivial⟩)
              | (apply Exists.intro
                 apply And.intro
                 · assumption
                 · apply And.intro
                   · intro hc
                     first
                       | (refine absurd hc ?_; simp [undef]; done)
                       | (go_simp; first | exact ⟨_, rfl, Below.refl _ _, rfl⟩ | exact ⟨_, rfl, Below.refl _ _, trivial⟩ | exact ⟨_, rfl, Below.refl _ _⟩ | exact ⟨_, rfl, (Below.refl _ _).alloc (Nat.le_refl _) _, trivial⟩)
                   · intro hc
                     first | exact absurd rfl hc | exact trivial | exact rfl)
              | (apply Exists.intro
                 apply And.intro
                 · assumption
                 · intro hc
                   first
                     | (refine absurd hc ?_; simp [undef]; done)
                     | (go_simp; first | exact ⟨_, rfl, Below.refl _ _, rfl⟩ | exact ⟨_, rfl, Below.refl _ _, trivial⟩ | exact ⟨_, rfl, Below.refl _ _⟩ | exact ⟨_, rfl, (Below.refl _ _).alloc (Nat.le_refl _) _, trivial⟩))
          · -- operation 15
            (refine owes_if (L := [(58, true), (57, true)]) rfl rfl rfl rfl (by kernel_rfl) ?_; intro a' w' hb' hfacts; obtain ⟨hf58, hf57, -⟩ := hfacts; try simp only [VL] at hf58; try simp only [VL] at hf57)
            obtain ⟨q0, q1, q2⟩ := hload w' hb'
            first
              | (go_simp; first | exact ⟨_, rfl, Below.refl _ _, rfl⟩ | exact ⟨_, rfl, Below.refl _ _, trivial⟩ | exact ⟨_, rfl, Below.refl _ _⟩ | exact ⟨_, rfl, (Below.refl _ _).alloc (Nat.le_refl _) _, trivial⟩)
              | (apply Exists.intro
                 apply And.intro
                 · assumption
                 · apply And.intro
                   · intro hc
                     first
                       | (refine absurd hc ?_; simp [undef]; done)
                       | (go_simp; first | exact ⟨_, rfl, Below.refl _ _, rfl⟩ | exact ⟨_, rfl, Below.refl _ _, trivial⟩ | exact ⟨_, rfl, Below.refl _ _⟩ | exact ⟨_, rfl, (Below.refl _ _).alloc (Nat.le_refl _) _, trivial⟩)
                   · intro hc
                     first | exact absurd rfl hc | exact trivial | exact rfl)
              | (apply Exists.intro
                 apply And.intro
                 · assumption
                 · intro hc
                   first
                     | (refine absurd hc ?_; simp [undef]; done)
                     | (go_simp; first | exact ⟨_, rfl, Below.refl _ _, rfl⟩ | exact ⟨_, rfl, Below.refl _ _, trivial⟩ | exact ⟨_, rfl, Below.refl _ _⟩ | exact ⟨_, rfl, (Below.refl _ _).alloc (Nat.le_refl _) _, trivial⟩))
          · -- operation 16
            (refine owes_if (L := [(59, true), (57, true)]) rfl rfl rfl rfl (by kernel_rfl) ?_; intro a' w' hb' hfacts; obtain ⟨hf59, hf57, -⟩ := hfacts; try simp only [VL] at hf59; try simp only [VL] at hf57)
            refine ⟨.bool false, hf57, fun _ => ?_, fun hc => absurd rfl hc⟩
            go_simp
            refine (Good_any _ _).mono ?_
            rintro e w3 ⟨rfl, rfl⟩
            rw [hgood]
            exact ⟨_, rfl, Below.refl _ _, rfl⟩
          · -- operation 17
            (refine owes_if (L := [(60, true), (57, true)]) rfl rfl rfl rfl (by kernel_rfl) ?_; intro a' w' hb' hfacts; obtain ⟨hf60, hf57, -⟩ := hfacts; try simp only [VL] at hf60; try simp only [VL] at hf57)
            obtain ⟨q0, q1, q2⟩ := hload w' hb'
            first
              | (go_simp; first | exact ⟨_, rfl, Below.refl _ _, rfl⟩ | exact ⟨_, rfl, Below.refl _ _, trivial⟩ | exact ⟨_, rfl, Below.refl _ _⟩ | exact ⟨_, rfl, (Below.refl _ _).alloc (Nat.le_refl _) _, trivial⟩)
              | (apply Exists.intro
                 apply And.intro
                 · assumption
                 · apply And.intro
                   · intro hc
                     first
                       | (refine absurd hc ?_; simp [undef]; done)
                       | (go_simp; first | exact ⟨_, rfl, Below.refl _ _, rfl⟩ | exact ⟨_, rfl, Below.refl _ _, trivial⟩ | exact ⟨_, rfl, Below.refl _ _⟩ | exact ⟨_, rfl, (Below.refl _ _).alloc (Nat.le_refl _) _, trivial⟩)
                   · intro hc
                     first | exact absurd rfl hc | exact trivial | exact rfl)
              | (apply Exists.intro
                 apply And.intro
                 · assumption
                 · intro hc
                   first
                     | (refine absurd hc ?_; simp [undef]; done)
                     | (go_simp; first | exact ⟨_, rfl, Below.refl _ _, rfl⟩ | exact ⟨_, rfl, Below.refl _ _, trivial⟩ | exact ⟨_, rfl, Below.refl _ _⟩ | exact ⟨_, rfl, (Below.refl _ _).alloc (Nat.le_refl _) _, trivial⟩))
          · -- operation 18
            (refine owes_val (L := [(57, true), (61, true)]) rfl rfl rfl (by kernel_rfl) ?_; intro a' w' hb' hfacts; obtain ⟨hf57, hf61, -⟩ := hfacts; try simp only [VL] at hf57; try simp only [VL] at hf61)
            obtain ⟨q0, q1, q2⟩ := hload w' hb'
            first
              | (go_simp; first | exact ⟨_, rfl, Below.refl _ _, rfl⟩ | exact ⟨_, rfl, Below.refl _ _, trivial⟩ | exact ⟨_, rfl, Below.refl _ _⟩ | exact ⟨_, rfl, (Below.refl _ _).alloc (Nat.le_refl _) _, trivial⟩)
              | (apply Exists.intro
                 apply And.intro
                 · assumption
                 · apply And.intro
                   · intro hc
                     first
                       | (refine absurd hc ?_; simp [undef]; done)
                       | (go_simp; first | exact ⟨_, rfl, Below.refl _ _, rfl⟩ | exact ⟨_, rfl, Below.refl _ _, trivial⟩ | exact ⟨_, rfl, Below.refl _ _⟩ | exact ⟨_, rfl, (Below.refl _ _).alloc (Nat.le_refl _) _, trivial⟩)
                   · intro hc
                     first | exact absurd rfl hc | exact trivial | exact rfl)
              | (apply Exists.intro
                 apply And.intro
                 · assumption
                 · intro hc
                   first
                     | (refine absurd hc ?_; simp [undef]; done)
                     | (go_simp; first | exact ⟨_, rfl, Below.refl _ _, rfl⟩ | exact ⟨_, rfl, Below.refl _ _, trivial⟩ | exact ⟨_, rfl, Below.refl _ _⟩ | exact ⟨_, rfl, (Below.refl _ _).alloc (Nat.le_refl _) _, trivial⟩))
          · -- operation 19
            (refine owes_val (L := [(62, true)]) rfl rfl rfl (by kernel_rfl) ?_; intro a' w' hb' hfacts; obtain ⟨hf62, -⟩ := hfacts; try simp only [VL] at hf62)
            obtain ⟨q0, q1, q2⟩ := hload w' hb'
            first
              | (go_simp; first | exact ⟨_, rfl, Below.refl _ _, rfl⟩ | exact ⟨_, rfl, Below.refl _ _, trivial⟩ | exact ⟨_, rfl, Below.refl _ _⟩ | exact ⟨_, rfl, (Below.refl _ _).alloc (Nat.le_refl _) _, trivial⟩)
              | (apply Exists.intro
                 apply And.intro
                 · assumption
                 · apply And.intro
                   · intro hc
                     first
                       | (refine absurd hc ?_; simp [undef]; done)
                       | (go_simp; first | exact ⟨_, rfl, Below.refl _ _, rfl⟩ | exact ⟨_, rfl, Below.refl _ _, trivial⟩ | exact ⟨_, rfl, Below.refl _ _⟩ | exact ⟨_, rfl, (Below.refl _ _).alloc (Nat.le_refl _) _, trivial⟩)
                   · intro hc
                     first | exact absurd rfl hc | exact trivial | exact rfl)
              | (apply Exists.intro
                 apply And.intro
                 · assumption
                 · intro hc
                   first
                     | (refine absurd hc ?_; simp [undef]; done)
                     | (go_simp; first | exact ⟨_, rfl, Below.refl _ _, rfl⟩ | exact ⟨_, rfl, Below.refl _ _, trivial⟩ | exact ⟨_, rfl, Below.refl _ _⟩ | exact ⟨_, rfl, (Below.refl _ _).alloc (Nat.le_refl _) _, trivial⟩))
          · -- operation 20
            (refine owes_if (L := [(12, false), (63, true)]) rfl rfl rfl rfl (by kernel_rfl) ?_; intro a' w' hb' hfacts; obtain ⟨hf12, hf63, -⟩ := hfacts; replace hf12 : a'.tmps[12]?.getD undef = .pointer (some ⟨q, 0, none⟩) := hf12; try simp only [VL] at hf63)
            obtain ⟨q0, q1, q2⟩ := hload w' hb'
            first
              | (go_simp; first | exact ⟨_, rfl, Below.refl _ _, rfl⟩ | exact ⟨_, rfl, Below.refl _ _, trivial⟩ | exact ⟨_, rfl, Below.refl _ _⟩ | exact ⟨_, rfl, (Below.refl _ _).alloc (Nat.le_refl _) _, trivial⟩)
              | (apply Exists.intro
                 apply And.intro
                 · assumption
                 · apply And.intro
                   · intro hc
                     first
                       | (refine absurd hc ?_; simp [undef]; done)
                       | (go_simp; first | exact ⟨_, rfl, Below.refl _ _, rfl⟩ | exact ⟨_, rfl, Below.refl _ _, trivial⟩ | exact ⟨_, rfl, Below.refl _ _⟩ | exact ⟨_, rfl, (Below.refl _ _).alloc (Nat.le_refl _) _, trivial⟩)
                   · intro hc
                     first | exact absurd rfl hc | exact trivial | exact rfl)
              | (apply Exists.intro
                 apply And.intro
                 · assumption
                 · intro hc
                   first
                     | (refine absurd hc ?_; simp [undef]; done)
                     | (go_simp; first | exact ⟨_, rfl, Below.refl _ _, rfl⟩ | exact ⟨_, rfl, Below.refl _ _, trivial⟩ | exact ⟨_, rfl, Below.refl _ _⟩ | exact ⟨_, rfl, (Below.refl _ _).alloc (Nat.le_refl _) _, trivial⟩))
          · -- operation 21
            (refine owes_if (L := [(64, true), (63, true)]) rfl rfl rfl rfl (by kernel_rfl) ?_; intro a' w' hb' hfacts; obtain ⟨hf64, hf63, -⟩ := hfacts; try simp only [VL] at hf64; try simp only [VL] at hf63)
            obtain ⟨q0, q1, q2⟩ := hload w' hb'
            first
              | (go_simp; first | exact ⟨_, rfl, Below.refl _ _, rfl⟩ | exact ⟨_, rfl, Below.refl _ _, trivial⟩ | exact ⟨_, rfl, Below.refl _ _⟩ | exact ⟨_, rfl, (Below.refl _ _).alloc (Nat.le_refl _) _, trivial⟩)
              | (apply Exists.intro
                 apply And.intro
                 · assumption
                 · apply And.intro
                   · intro hc
                     first
                       | (refine absurd hc ?_; simp [undef]; done)
                       | (go_simp; first | exact ⟨_, rfl, Below.refl _ _, rfl⟩ | exact ⟨_, rfl, Below.refl _ _, trivial⟩ | exact ⟨_, rfl, Below.refl _ _⟩ | exact ⟨_, rfl, (Below.refl _ _).alloc (Nat.le_refl _) _, trivial⟩)
                   · intro hc
                     first | exact absurd rfl hc | exact trivial | exact rfl)
              | (apply Exists.intro
                 apply And.intro
                 · assumption
                 · intro hc
                   first
                     | (refine absurd hc ?_; simp [undef]; done)
                     | (go_simp; first | exact ⟨_, rfl, Below.refl _ _, rfl⟩ | exact ⟨_, rfl, Below.refl _ _, trivial⟩ | exact ⟨_, rfl, Below.refl _ _⟩ | exact ⟨_, rfl, (Below.refl _ _).alloc (Nat.le_refl _) _, trivial⟩))
          · -- operation 22
            (refine owes_if (L := [(65, true), (63, true)]) rfl rfl rfl rfl (by kernel_rfl) ?_; intro a' w' hb' hfacts; obtain ⟨hf65, hf63, -⟩ := hfacts; try simp only [VL] at hf65; try simp only [VL] at hf63)
            obtain ⟨q0, q1, q2⟩ := hload w' hb'
            first
              | (go_simp; first | exact ⟨_, rfl, Below.refl _ _, rfl⟩ | exact ⟨_, rfl, Below.refl _ _, trivial⟩ | exact ⟨_, rfl, Below.refl _ _⟩ | exact ⟨_, rfl, (Below.refl _ _).alloc (Nat.le_refl _) _, trivial⟩)
              | (apply Exists.intro
                 apply And.intro
                 · assumption
                 · apply And.intro
                   · intro hc
                     first
                       | (refine absurd hc ?_; simp [undef]; done)
                       | (go_simp; first | exact ⟨_, rfl, Below.refl _ _, rfl⟩ | exact ⟨_, rfl, Below.refl _ _, trivial⟩ | exact ⟨_, rfl, Below.refl _ _⟩ | exact ⟨_, rfl, (Below.refl _ _).alloc (Nat.le_refl _) _, trivial⟩)
                   · intro hc
                     first | exact absurd rfl hc | exact trivial | exact rfl)
              | (apply Exists.intro
                 apply And.intro
                 · assumption
                 · intro hc
                   first
                     | (refine absurd hc ?_; simp [undef]; done)
                     | (go_simp; first | exact ⟨_, rfl, Below.refl _ _, rfl⟩ | exact ⟨_, rfl, Below.refl _ _, trivial⟩ | exact ⟨_, rfl, Below.refl _ _⟩ | exact ⟨_, rfl, (Below.refl _ _).alloc (Nat.le_refl _) _, trivial⟩))
          · -- operation 23
            (refine owes_val (L := [(63, true), (66, true)]) rfl rfl rfl (by kernel_rfl) ?_; intro a' w' hb' hfacts; obtain ⟨hf63, hf66, -⟩ := hfacts; try simp only [VL] at hf63; try simp only [VL] at hf66)
            obtain ⟨q0, q1, q2⟩ := hload w' hb'
            first
              | (go_simp; first | exact ⟨_, rfl, Below.refl _ _, rfl⟩ | exact ⟨_, rfl, Below.refl _ _, trivial⟩ | exact ⟨_, rfl, Below.refl _ _⟩ | exact ⟨_, rfl, (Below.refl _ _).alloc (Nat.le_refl _) _, trivial⟩)
              | (apply Exists.intro
                 apply And.intro
                 · assumption
                 · apply And.intro
                   · intro hc
                     first
                       | (refine absurd hc ?_; simp [undef]; done)
                       | (go_simp; first | exact ⟨_, rfl, Below.refl _ _, rfl⟩ | exact ⟨_, rfl, Below.refl _ _, trivial⟩ | exact ⟨_, rfl, Below.refl _ _⟩ | exact ⟨_, rfl, (Below.refl _ _).alloc (Nat.le_refl _) _, trivial⟩)
                   · intro hc
                     first | exact absurd rfl hc | exact trivial | exact rfl)
              | (apply Exists.intro
                 apply And.intro
                 · assumption
                 · intro hc
                   first
                     | (refine absurd hc ?_; simp [undef]; done)
                     | (go_simp; first | exact ⟨_, rfl, Below.refl _ _, rfl⟩ | exact ⟨_, rfl, Below.refl _ _, trivial⟩ | exact ⟨_, rfl, Below.refl _ _⟩ | exact ⟨_, rfl, (Below.refl _ _).alloc (Nat.le_refl _) _, trivial⟩))
        · intro f W3 hf hb3
          have f67 : f 67 = .bool false := hf 67 (by decide)
          have k0' := (hb3.cell hlt2).trans k0
          have k1' := (hb3.cell hlt2).trans k1
          have HB6 := Lib.hid (HBW.out.trans (hb3.mono HBW.out.size))
          clear hf hb3 k0 k1 hbW HBW r0' r0 r1
          simp only [putAll, put_lit, List.map_cons, List.map_nil, List.set_cons_succ, List.set_cons_zero]
          simp only [f67]
          by_cases c1 : x1 = (n : Int)
          · have c2 : (x2 != (at' : Int)) = false := by simp [Hat.out c1]
            go_wp2
            exact ⟨⟨j + 2, by omega, by go_num, HB6.out⟩, by simp [intOf]; omega⟩
          · go_wp2
            exact ⟨⟨j + 2, by omega, by go_num, HB6.out⟩, by simp [intOf]; omega⟩
    · have HBL := Lib.hid hbl
      clear hbl
      have HG2 : Hid (getE L2 n = if G = true then ((at' : Int), 0) else (0, 13)) := by
        show _ = _
        rw [HL2.out, getE_put L n at' (by omega), HG.out]
      go_wp2_with fail
      refine (Get_any b ro4 L2 n _ hwn (HS5.out.below HBL.out)).mono ?_
      rintro e w7 ⟨rfl, rfl⟩
      obtain ⟨g1, g2, hg, hne, hq⟩ := pair_facts E at' G _ HE'.out HG2.out
      rw [hg]
      have HQ := Lib.hid hq
      clear hg hq
      have hGG : G = true ∧ (g1 != (at' : Int)) = false ∨ G = false := by
        cases hG2 : G with
        | true => exact .inl ⟨rfl, HQ.out hG2⟩
        | false => exact .inr rfl
      have Hk : Hid (¬ k < L2.length) := hlt
      clear hlt HQ
      rcases hGG with ⟨hGt, hgq⟩ | hGt
      all_goals
        go_wp2
        go_loopw [101] (fun i wr => ∃ k : Nat, k ≤ L.length ∧ i = .int .i64 k ∧ Below w5.heap.size w5 wr) (fun i _ => L.length - (intOf i).toNat)
        case atStart => exact ⟨0, Nat.zero_le _, rfl, HBL.out⟩
        case round =>
          clear HBL hk
          obtain ⟨k, hk, rfl, hbl⟩ := hrel
          by_cases hlt : k < L.length
          · obtain h | ⟨ad, rfl, hAl, hx⟩ := HM4'.out.below hbl
            · subst h; simp at hlt
            obtain ⟨q0, q1⟩ := hx k hlt
            have HBL := Lib.hid hbl
            have hmem : L[k] ∈ L := List.getElem_mem hlt
            have hget := getE_other L n at' hokL.out L[k] hmem
            rw [← HL2.out] at hget
            have hw1 := (hokL.out.fits _ hmem).1
            generalize L[k] = x at *
            obtain ⟨x1, x2⟩ := x
            simp only at hw1 q0 q1 hget
            have HGet := Lib.hid hget
            have HW1 := Lib.hid hw1
            clear hx hmem hbl hget hw1
            go_wp2_with fail
            refine (Get_any b ro4 L2 x1 _ HW1.out (HS5.out.below (HBL.out.trans ?_))).mono ?_
            · exact ((Below.refl _ _).alloc (Nat.le_refl _) _).mono HBL.out.size
            rintro e w8 ⟨rfl, rfl⟩
            have HB9 : Hid (Below w5.heap.size w5 (wr.alloc (.cells #[.int .u8 x1, .int .i64 x2] 33))) := HBL.out.alloc HBL.out.size _
            by_cases c1 : x1 = (n : Int)
            · obtain ⟨z1, z2⟩ := getE L2 x1
              have c2 : (x1 != (n : Int)) = false := by simp [c1]
              clear HGet c1
              go_wp2
              exact ⟨⟨k + 1, by omega, by go_num, HB9.out⟩, by simp [intOf]; omega⟩
            · rw [HGet.out c1]
              have c2 : (x1 != (n : Int)) = true := by simp [c1]
              clear HGet c1
              go_wp2
              exact ⟨⟨k + 1, by omega, by go_num, HB9.out⟩, by simp [intOf]; omega⟩
          · have HBL := Lib.hid hbl
            clear hbl
            have hself : loadL L2 = L2 := load_self L2 hok2.out hpos2.out
            go_wp2_with fail
            refine (New_any A5 L2 c5 _ (HM5.out.below HBL.out) hok2.out.fits (by omega)).mono ?_
            rintro e w9 ⟨rfl, ro9, hs9, hfr9, hb9⟩
            rw [hself] at hs9
            have HS9 := Lib.hid hs9
            have HB9 := Lib.hid (HBL.out.trans (hb9.mono HBL.out.size))
            clear hs9 hfr9 hb9 hself HBL
            generalize wr.heap.size = b9 at *
            go_wp2_with fail
            refine (All_any b9 ro9 L2 _ HS9.out).mono ?_
            rintro e w10 ⟨v, rfl, hrow, hb10⟩
            obtain ⟨A10, c10, rfl⟩ := row_form hrow
            have HM10 := Lib.hid (MksAt.of_row hrow)
            have HB10 := Lib.hid (HB9.out.trans (hb10.mono HB9.out.size))
            clear hrow hb10 HS9 HB9
            go_wp2_with fail
            refine (Same_any A10 A5 L2 L2 c10 c5 _ HM10.out (HM5.out.below HB10.out) (by omega) (by omega)).mono ?_
            rintro e w11 ⟨rfl, hb11⟩
            have HB11 := Lib.hid (HB10.out.trans (hb11.mono HB10.out.size))
            clear hb11
            rw [show decide (L2 = L2) = true by simp]
            go_wp2_with fail
            refine (Len_any b ro4 L2 _ (HS5.out.below HB11.out)).mono ?_
            rintro e w12 ⟨rfl, rfl⟩
            go_wp2
            go_ret
            exact ⟨ret_bool (by simp), HB5.out.trans (HB11.out.mono HB5.out.size)⟩
end Go.Proofs.YtdkdnkmfjpdcpaaDoor.Mk
