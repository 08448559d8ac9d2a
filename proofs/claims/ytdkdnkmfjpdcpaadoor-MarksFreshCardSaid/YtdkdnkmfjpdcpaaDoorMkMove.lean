/-
  The set's Move, at any set and any deltas. No condition.
-/
import Derived.Test.YtdkdnkmfjpdcpaaDoorRegion2
import Derived.Test.YtdkdnkmfjpdcpaaDoorMkMoved
import Derived.Test.YtdkdnkmfjpdcpaaDoorMkFollow
namespace Go.Proofs.YtdkdnkmfjpdcpaaDoor.Mk
open Go.RowKit Go.Maps Go.Proofs.YtdkdnkmfjpdcpaaDoor.Reg
set_option linter.unusedVariables false
set_option linter.unusedSimpArgs false

/-- Each place moved. -/
def moveL (f : Int → Int) (l : ML) : ML := l.map fun x => (x.1, f x.2)

theorem ins_mid (A B : ML) (x : Int × Int) (v : Int) (h : (A ++ x :: B).Pairwise (fun p q => p.1 < q.1)) : ins (A ++ x :: B) x.1 v = A ++ (x.1, v) :: B := by
  obtain ⟨hA, hxB, hAB⟩ := List.pairwise_append.1 h
  obtain ⟨hx, hB⟩ := List.pairwise_cons.1 hxB
  have hdA : del A x.1 = A := by
    unfold del
    refine List.filter_eq_self.2 fun y hy => ?_
    have := hAB y hy x List.mem_cons_self
    simp; omega
  have hdB : del B x.1 = B := by
    unfold del
    refine List.filter_eq_self.2 fun y hy => ?_
    have := hx y hy
    simp; omega
  have hd : del (A ++ x :: B) x.1 = A ++ B := by
    have : del (A ++ x :: B) x.1 = del A x.1 ++ del (x :: B) x.1 := by unfold del; rw [List.filter_append]
    rw [this, hdA]
    have h2 : del (x :: B) x.1 = del B x.1 := by unfold del; rw [List.filter_cons]; simp
    rw [h2, hdB]
  unfold ins
  rw [hd]
  clear hd hdA hdB h hxB hA
  induction A with
  | nil =>
    cases B with
    | nil => rfl
    | cons y r => show insP (x.1, v) (y :: r) = _; rw [insP, if_pos (hx y List.mem_cons_self)]; rfl
  | cons y r ih =>
    have := hAB y List.mem_cons_self x List.mem_cons_self
    show insP (x.1, v) (y :: (r ++ B)) = _
    rw [insP, if_neg (by simp; omega), ih (fun a ha b hb => hAB a (List.mem_cons_of_mem _ ha) b hb)]
    rfl

theorem DlsAt.kept {w w' : World} {A : Option Addr} {ds : List Dl} {S : Nat → Prop} (h : DlsAt w A ds) (hc : Chg S w w') (hS : ds = [] ∨ ∀ ad, A = some ad → ad.block < w.heap.size → ¬ S ad.block) : DlsAt w' A ds := by
  rcases h with h | ⟨ad, rfl, hl, hx⟩
  · exact .inl h
  · rcases hS with hS | hS
    · exact .inl hS
    have hn := hS ad rfl hl
    refine .inr ⟨ad, rfl, Nat.lt_of_lt_of_le hl hc.size, fun i hi => ?_⟩
    obtain ⟨h0, h1, h2⟩ := hx i hi
    have hb : (ad.add (i * 3)).block = ad.block := add_block _ _
    exact ⟨(hc.cell (by rw [hb]; exact hl) (by rw [hb]; exact hn)).trans h0, (hc.cell (p := ⟨(ad.add (i * 3)).block, _, none⟩) (by show (ad.add (i * 3)).block < _; rw [hb]; exact hl) (by show ¬ S (ad.add (i * 3)).block; rw [hb]; exact hn)).trans h1,
      (hc.cell (p := ⟨(ad.add (i * 3)).block, _, none⟩) (by show (ad.add (i * 3)).block < _; rw [hb]; exact hl) (by show ¬ S (ad.add (i * 3)).block; rw [hb]; exact hn)).trans h2⟩

/-- What one round of Move leaves, slot by slot. -/
def VMove (b r : Nat) (nm pl m : Int) (A : Option Addr) (n c : Nat) (s : Nat) (v : Value) (w : World) : Prop := match s with
  | 13 => v = .pointer (some ⟨b, 0, none⟩)
  | 14 => v = .pointer (some ⟨b, 0, none⟩)
  | 15 => v = .pointer (some ⟨b, 0, none⟩)
  | 16 => v = .map (some r)
  | 17 => v = .int .u8 nm
  | 18 => v = .pointer (some ⟨b, 0, none⟩)
  | 19 => v = .pointer (some ⟨b, 0, none⟩)
  | 20 => v = .pointer (some ⟨b, 0, none⟩)
  | 21 => v = .map (some r)
  | 22 => v = .int .u8 nm
  | 23 => v = .int .i64 pl
  | 24 => v = .slice A n c
  | 25 => v = .int .i64 m
  | _ => True
theorem VMove_mono (b r : Nat) (nm pl m : Int) (A : Option Addr) (n c : Nat) : ∀ s v w w', VMove b r nm pl m A n c s v w → Below w.heap.size w w' → VMove b r nm pl m A n c s v w' := fun _ _ _ _ h _ => h

set_option maxRecDepth 100000 in
set_option maxHeartbeats 1000000 in
theorem Move_any (b : Nat) (ro : Option Nat) (l : ML) (A : Option Addr) (ds : List Dl) (c : Nat) (w : World) (hs : IsSet w b ro l) (hl : ds.length ≤ 9223372036854775807) (hd : DlsAt w A ds) (hA : ds = [] ∨ ∀ ad, A = some ad → ad.block < w.heap.size → ¬ foot b ro ad.block)
    (hw : ∀ x ∈ l, (Lit.int .i64 (moved x.2 ds)).wf = true) :
    Calls Tryd.prog 22 #[.pointer (some ⟨b, 0, none⟩), .slice A ds.length c] w fun e w' => e = .returned (.tuple #[]) ∧ IsSet w' b ro (moveL (fun x => moved x ds) l) ∧ Chg (foot b ro) w w' := by
  have HS := Lib.hid hs
  have HL : Hid (l.length ≤ 59) := hs.ok.length
  have HD := Lib.hid hd
  have HA := Lib.hid hA
  have HW := Lib.hid hw
  clear hs hd hA hw
  go_enter Tryd.func22, Tryd.ntmps22
  go_wp2_with (go_at_call 41; refine (names_any b ro l _ HS.out).mono ?_; rintro e w1 ⟨v, rfl, hrow, hb⟩; obtain ⟨A1, c1, rfl⟩ := row_form hrow; have HR := Lib.hid hrow; have HB := Lib.hid hb; clear hrow hb)
  go_loopw [9] (fun i wr => ∃ k : Nat, k ≤ l.length ∧ i = .int .i64 k ∧ IsSet wr b ro (moveL (fun x => moved x ds) (l.take k) ++ l.drop k) ∧ Chg (fun x => some x = ro) w1 wr) (fun i _ => l.length - (intOf i).toNat)
  case atStart => exact ⟨0, Nat.zero_le _, rfl, HS.out.below HB.out, Chg.refl _ _⟩
  case round =>
    obtain ⟨k, hk, rfl, hset, hch⟩ := hrel
    have h59 : l.length ≤ 59 := HL.out
    by_cases hlt : k < l.length
    · obtain ⟨r, rfl⟩ : ∃ r, ro = some r := by
        cases ro with
        | none => have : l = [] := HS.out.map; subst this; simp at hlt
        | some r => exact ⟨r, rfl⟩
      obtain ⟨g, cap, he, -, -⟩ := HR.out.form (by omega)
      obtain ⟨rfl, rfl⟩ : A1 = some ⟨g, 0, none⟩ ∧ c1 = cap := by simpa using he
      have hgl := HR.out.lt g rfl
      have hrl : r < w.heap.size := by
        obtain ⟨es, clock, hb, _⟩ := HS.out.map
        exact (Array.getElem?_eq_some_iff.1 hb).1
      have hcn : wr.cell? ⟨g, k, none⟩ = some (.int .u8 l[k].1) := (hch.cell (p := ⟨g, k, none⟩) hgl.2 (by intro h; have h' : g = r := Option.some.inj h; have := hgl.1; omega)).trans ((HR.out.cellAt k (by omega)).trans (by simp [hlt]))
      have hdw : DlsAt wr A ds := (HD.out.below HB.out).kept hch (by
        rcases HA.out with h | h
        · exact .inl h
        · rcases HD.out with h' | ⟨ad, rfl, hal, -⟩
          · exact .inl h'
          · exact .inr fun ad' e _ hf => by cases e; cases hf; exact h ad rfl hal (.inr rfl))
      have hmem : l[k] ∈ l := List.getElem_mem hlt
      have hwn : (Lit.int .u8 l[k].1).wf = true := good_wf (HS.out.ok.2 l[k] hmem).1
      have hwm : (Lit.int .i64 (moved l[k].2 ds)).wf = true := HW.out _ hmem
      have hkey := keyOf_int_mk Tryd.underlying5 hwn
      have hsp : l.drop k = l[k] :: l.drop (k + 1) := List.drop_eq_getElem_cons hlt
      have htk : moveL (fun x => moved x ds) (l.take (k + 1)) = moveL (fun x => moved x ds) (l.take k) ++ [(l[k].1, moved l[k].2 ds)] := by
        unfold moveL; rw [List.take_succ_eq_append_getElem hlt, List.map_append]; rfl
      rw [hsp] at hset
      have HT := Lib.hid htk
      have hin := ins_mid (moveL (fun x => moved x ds) (l.take k)) (l.drop (k + 1)) l[k] (moved l[k].2 ds) hset.ok.1
      have hge : get (moveL (fun x => moved x ds) (l.take k) ++ l[k] :: l.drop (k + 1)) l[k].1 = some l[k].2 := by
        have hlen : (moveL (fun x => moved x ds) (l.take k)).length = k := by unfold moveL; simp; omega
        have := get_at hset.ok k (by simp [hlen]; omega)
        rw [List.getElem_append_right (by omega)] at this
        simpa [hlen] using this
      have HIN := Lib.hid hin
      have HGE := Lib.hid hge
      have HSet := Lib.hid hset
      have HCH := Lib.hid hch
      have HDW := Lib.hid hdw
      have HWM := Lib.hid hwm
      have c0 := hset.cell
      have hbl := hset.lt
      clear hin hge hset hch hdw htk hsp hmem
      generalize l[k] = x at *
      obtain ⟨nm, pl⟩ := x
      go_wp2
      refine wp_held_last mixed (VMove b r nm pl (moved pl ds) A ds.length c) (VMove_mono _ _ _ _ _ _ _ _) (by kernel_rfl) [13, 14, 15, 16, 17, 18, 19, 20, 21, 22, 23, 24, 25] (by kernel_rfl) 13 (by kernel_rfl) (by kernel_rfl) (by kernel_rfl) (by kernel_rfl) ?_ ?_
      · intro j hj
        have hj' : j < 13 := hj
        rcases (by omega : j = 0 ∨ j = 1 ∨ j = 2 ∨ j = 3 ∨ j = 4 ∨ j = 5 ∨ j = 6 ∨ j = 7 ∨ j = 8 ∨ j = 9 ∨ j = 10 ∨ j = 11 ∨ j = 12) with rfl | rfl | rfl | rfl | rfl | rfl | rfl | rfl | rfl | rfl | rfl | rfl | rfl
        · -- operation 0
          (refine owes_val (L := [(0, false)]) rfl rfl rfl (by kernel_rfl) ?_; intro a' w' hb' hfacts; obtain ⟨hf0, -⟩ := hfacts; replace hf0 : a'.tmps[0]?.getD undef = .pointer (some ⟨b, 0, none⟩) := hf0)
          have q0 := (HSet.out.below hb').cell
          first
            | (go_simp; first | exact ⟨_, rfl, Below.refl _ _, rfl⟩ | exact ⟨_, rfl, Below.refl _ _, trivial⟩ | exact ⟨_, rfl, Below.refl _ _⟩ | exact ⟨_, rfl, (Below.refl _ _).alloc (Nat.le_refl _) _, trivial⟩)
            | (apply Exists.intro
               apply And.intro
               · assumption
               · apply And.intro
                 · intro hc
                   first
                     | (refine absurd hc ?_; simp [undef]; done)
                     | (go_simp; first | exact ⟨_, rfl, Below.refl _ _, rfl⟩ | exact ⟨_, rfl, Below.refl _ _, trivial⟩ | exact ⟨_, rfl, Below.refl _ _⟩ | exact ⟨_, rfl, (Below.refl _ _).alloc (Nat.le_refl _) _, trivial⟩)
                 · intro hc
                   first | exact absurd rfl hc | exact trivial | exact rfl)
            | (apply Exists.intro
               apply And.intro
               · assumption
               · intro hc
                 first
                   | (refine absurd hc ?_; simp [undef]; done)
                   | (go_simp; first | exact ⟨_, rfl, Below.refl _ _, rfl⟩ | exact ⟨_, rfl, Below.refl _ _, trivial⟩ | exact ⟨_, rfl, Below.refl _ _⟩ | exact ⟨_, rfl, (Below.refl _ _).alloc (Nat.le_refl _) _, trivial⟩))
        · -- operation 1
          (refine owes_val (L := [(13, true)]) rfl rfl rfl (by kernel_rfl) ?_; intro a' w' hb' hfacts; obtain ⟨hf13, -⟩ := hfacts; try simp only [VMove] at hf13)
          have q0 := (HSet.out.below hb').cell
          first
            | (go_simp; first | exact ⟨_, rfl, Below.refl _ _, rfl⟩ | exact ⟨_, rfl, Below.refl _ _, trivial⟩ | exact ⟨_, rfl, Below.refl _ _⟩ | exact ⟨_, rfl, (Below.refl _ _).alloc (Nat.le_refl _) _, trivial⟩)
            | (apply Exists.intro
               apply And.intro
               · assumption
               · apply And.intro
                 · intro hc
                   first
                     | (refine absurd hc ?_; simp [undef]; done)
                     | (go_simp; first | exact ⟨_, rfl, Below.refl _ _, rfl⟩ | exact ⟨_, rfl, Below.refl _ _, trivial⟩ | exact ⟨_, rfl, Below.refl _ _⟩ | exact ⟨_, rfl, (Below.refl _ _).alloc (Nat.le_refl _) _, trivial⟩)
                 · intro hc
                   first | exact absurd rfl hc | exact trivial | exact rfl)
            | (apply Exists.intro
               apply And.intro
               · assumption
               · intro hc
                 first
                   | (refine absurd hc ?_; simp [undef]; done)
                   | (go_simp; first | exact ⟨_, rfl, Below.refl _ _, rfl⟩ | exact ⟨_, rfl, Below.refl _ _, trivial⟩ | exact ⟨_, rfl, Below.refl _ _⟩ | exact ⟨_, rfl, (Below.refl _ _).alloc (Nat.le_refl _) _, trivial⟩))
        · -- operation 2
          (refine owes_val (L := [(14, true)]) rfl rfl rfl (by kernel_rfl) ?_; intro a' w' hb' hfacts; obtain ⟨hf14, -⟩ := hfacts; try simp only [VMove] at hf14)
          have q0 := (HSet.out.below hb').cell
          first
            | (go_simp; first | exact ⟨_, rfl, Below.refl _ _, rfl⟩ | exact ⟨_, rfl, Below.refl _ _, trivial⟩ | exact ⟨_, rfl, Below.refl _ _⟩ | exact ⟨_, rfl, (Below.refl _ _).alloc (Nat.le_refl _) _, trivial⟩)
            | (apply Exists.intro
               apply And.intro
               · assumption
               · apply And.intro
                 · intro hc
                   first
                     | (refine absurd hc ?_; simp [undef]; done)
                     | (go_simp; first | exact ⟨_, rfl, Below.refl _ _, rfl⟩ | exact ⟨_, rfl, Below.refl _ _, trivial⟩ | exact ⟨_, rfl, Below.refl _ _⟩ | exact ⟨_, rfl, (Below.refl _ _).alloc (Nat.le_refl _) _, trivial⟩)
                 · intro hc
                   first | exact absurd rfl hc | exact trivial | exact rfl)
            | (apply Exists.intro
               apply And.intro
               · assumption
               · intro hc
                 first
                   | (refine absurd hc ?_; simp [undef]; done)
                   | (go_simp; first | exact ⟨_, rfl, Below.refl _ _, rfl⟩ | exact ⟨_, rfl, Below.refl _ _, trivial⟩ | exact ⟨_, rfl, Below.refl _ _⟩ | exact ⟨_, rfl, (Below.refl _ _).alloc (Nat.le_refl _) _, trivial⟩))
        · -- operation 3
          (refine owes_val (L := [(15, true)]) rfl rfl rfl (by kernel_rfl) ?_; intro a' w' hb' hfacts; obtain ⟨hf15, -⟩ := hfacts; try simp only [VMove] at hf15)
          have q0 := (HSet.out.below hb').cell
          first
            | (go_simp; first | exact ⟨_, rfl, Below.refl _ _, rfl⟩ | exact ⟨_, rfl, Below.refl _ _, trivial⟩ | exact ⟨_, rfl, Below.refl _ _⟩ | exact ⟨_, rfl, (Below.refl _ _).alloc (Nat.le_refl _) _, trivial⟩)
            | (apply Exists.intro
               apply And.intro
               · assumption
               · apply And.intro
                 · intro hc
                   first
                     | (refine absurd hc ?_; simp [undef]; done)
                     | (go_simp; first | exact ⟨_, rfl, Below.refl _ _, rfl⟩ | exact ⟨_, rfl, Below.refl _ _, trivial⟩ | exact ⟨_, rfl, Below.refl _ _⟩ | exact ⟨_, rfl, (Below.refl _ _).alloc (Nat.le_refl _) _, trivial⟩)
                 · intro hc
                   first | exact absurd rfl hc | exact trivial | exact rfl)
            | (apply Exists.intro
               apply And.intro
               · assumption
               · intro hc
                 first
                   | (refine absurd hc ?_; simp [undef]; done)
                   | (go_simp; first | exact ⟨_, rfl, Below.refl _ _, rfl⟩ | exact ⟨_, rfl, Below.refl _ _, trivial⟩ | exact ⟨_, rfl, Below.refl _ _⟩ | exact ⟨_, rfl, (Below.refl _ _).alloc (Nat.le_refl _) _, trivial⟩))
        · -- operation 4
          (refine owes_val (L := [(5, false)]) rfl rfl rfl (by kernel_rfl) ?_; intro a' w' hb' hfacts; obtain ⟨hf5, -⟩ := hfacts; replace hf5 : a'.tmps[5]?.getD undef = .int .u8 nm := hf5)
          have q0 := (HSet.out.below hb').cell
          first
            | (go_simp; first | exact ⟨_, rfl, Below.refl _ _, rfl⟩ | exact ⟨_, rfl, Below.refl _ _, trivial⟩ | exact ⟨_, rfl, Below.refl _ _⟩ | exact ⟨_, rfl, (Below.refl _ _).alloc (Nat.le_refl _) _, trivial⟩)
            | (apply Exists.intro
               apply And.intro
               · assumption
               · apply And.intro
                 · intro hc
                   first
                     | (refine absurd hc ?_; simp [undef]; done)
                     | (go_simp; first | exact ⟨_, rfl, Below.refl _ _, rfl⟩ | exact ⟨_, rfl, Below.refl _ _, trivial⟩ | exact ⟨_, rfl, Below.refl _ _⟩ | exact ⟨_, rfl, (Below.refl _ _).alloc (Nat.le_refl _) _, trivial⟩)
                 · intro hc
                   first | exact absurd rfl hc | exact trivial | exact rfl)
            | (apply Exists.intro
               apply And.intro
               · assumption
               · intro hc
                 first
                   | (refine absurd hc ?_; simp [undef]; done)
                   | (go_simp; first | exact ⟨_, rfl, Below.refl _ _, rfl⟩ | exact ⟨_, rfl, Below.refl _ _, trivial⟩ | exact ⟨_, rfl, Below.refl _ _⟩ | exact ⟨_, rfl, (Below.refl _ _).alloc (Nat.le_refl _) _, trivial⟩))
        · -- operation 5
          (refine owes_val (L := [(0, false)]) rfl rfl rfl (by kernel_rfl) ?_; intro a' w' hb' hfacts; obtain ⟨hf0, -⟩ := hfacts; replace hf0 : a'.tmps[0]?.getD undef = .pointer (some ⟨b, 0, none⟩) := hf0)
          have q0 := (HSet.out.below hb').cell
          first
            | (go_simp; first | exact ⟨_, rfl, Below.refl _ _, rfl⟩ | exact ⟨_, rfl, Below.refl _ _, trivial⟩ | exact ⟨_, rfl, Below.refl _ _⟩ | exact ⟨_, rfl, (Below.refl _ _).alloc (Nat.le_refl _) _, trivial⟩)
            | (apply Exists.intro
               apply And.intro
               · assumption
               · apply And.intro
                 · intro hc
                   first
                     | (refine absurd hc ?_; simp [undef]; done)
                     | (go_simp; first | exact ⟨_, rfl, Below.refl _ _, rfl⟩ | exact ⟨_, rfl, Below.refl _ _, trivial⟩ | exact ⟨_, rfl, Below.refl _ _⟩ | exact ⟨_, rfl, (Below.refl _ _).alloc (Nat.le_refl _) _, trivial⟩)
                 · intro hc
                   first | exact absurd rfl hc | exact trivial | exact rfl)
            | (apply Exists.intro
               apply And.intro
               · assumption
               · intro hc
                 first
                   | (refine absurd hc ?_; simp [undef]; done)
                   | (go_simp; first | exact ⟨_, rfl, Below.refl _ _, rfl⟩ | exact ⟨_, rfl, Below.refl _ _, trivial⟩ | exact ⟨_, rfl, Below.refl _ _⟩ | exact ⟨_, rfl, (Below.refl _ _).alloc (Nat.le_refl _) _, trivial⟩))
        · -- operation 6
          (refine owes_val (L := [(18, true)]) rfl rfl rfl (by kernel_rfl) ?_; intro a' w' hb' hfacts; obtain ⟨hf18, -⟩ := hfacts; try simp only [VMove] at hf18)
          have q0 := (HSet.out.below hb').cell
          first
            | (go_simp; first | exact ⟨_, rfl, Below.refl _ _, rfl⟩ | exact ⟨_, rfl, Below.refl _ _, trivial⟩ | exact ⟨_, rfl, Below.refl _ _⟩ | exact ⟨_, rfl, (Below.refl _ _).alloc (Nat.le_refl _) _, trivial⟩)
            | (apply Exists.intro
               apply And.intro
               · assumption
               · apply And.intro
                 · intro hc
                   first
                     | (refine absurd hc ?_; simp [undef]; done)
                     | (go_simp; first | exact ⟨_, rfl, Below.refl _ _, rfl⟩ | exact ⟨_, rfl, Below.refl _ _, trivial⟩ | exact ⟨_, rfl, Below.refl _ _⟩ | exact ⟨_, rfl, (Below.refl _ _).alloc (Nat.le_refl _) _, trivial⟩)
                 · intro hc
                   first | exact absurd rfl hc | exact trivial | exact rfl)
            | (apply Exists.intro
               apply And.intro
               · assumption
               · intro hc
                 first
                   | (refine absurd hc ?_; simp [undef]; done)
                   | (go_simp; first | exact ⟨_, rfl, Below.refl _ _, rfl⟩ | exact ⟨_, rfl, Below.refl _ _, trivial⟩ | exact ⟨_, rfl, Below.refl _ _⟩ | exact ⟨_, rfl, (Below.refl _ _).alloc (Nat.le_refl _) _, trivial⟩))
        · -- operation 7
          (refine owes_val (L := [(19, true)]) rfl rfl rfl (by kernel_rfl) ?_; intro a' w' hb' hfacts; obtain ⟨hf19, -⟩ := hfacts; try simp only [VMove] at hf19)
          have q0 := (HSet.out.below hb').cell
          first
            | (go_simp; first | exact ⟨_, rfl, Below.refl _ _, rfl⟩ | exact ⟨_, rfl, Below.refl _ _, trivial⟩ | exact ⟨_, rfl, Below.refl _ _⟩ | exact ⟨_, rfl, (Below.refl _ _).alloc (Nat.le_refl _) _, trivial⟩)
            | (apply Exists.intro
               apply And.intro
               · assumption
               · apply And.intro
                 · intro hc
                   first
                     | (refine absurd hc ?_; simp [undef]; done)
                     | (go_simp; first | exact ⟨_, rfl, Below.refl _ _, rfl⟩ | exact ⟨_, rfl, Below.refl _ _, trivial⟩ | exact ⟨_, rfl, Below.refl _ _⟩ | exact ⟨_, rfl, (Below.refl _ _).alloc (Nat.le_refl _) _, trivial⟩)
                 · intro hc
                   first | exact absurd rfl hc | exact trivial | exact rfl)
            | (apply Exists.intro
               apply And.intro
               · assumption
               · intro hc
                 first
                   | (refine absurd hc ?_; simp [undef]; done)
                   | (go_simp; first | exact ⟨_, rfl, Below.refl _ _, rfl⟩ | exact ⟨_, rfl, Below.refl _ _, trivial⟩ | exact ⟨_, rfl, Below.refl _ _⟩ | exact ⟨_, rfl, (Below.refl _ _).alloc (Nat.le_refl _) _, trivial⟩))
        · -- operation 8
          (refine owes_val (L := [(20, true)]) rfl rfl rfl (by kernel_rfl) ?_; intro a' w' hb' hfacts; obtain ⟨hf20, -⟩ := hfacts; try simp only [VMove] at hf20)
          have q0 := (HSet.out.below hb').cell
          first
            | (go_simp; first | exact ⟨_, rfl, Below.refl _ _, rfl⟩ | exact ⟨_, rfl, Below.refl _ _, trivial⟩ | exact ⟨_, rfl, Below.refl _ _⟩ | exact ⟨_, rfl, (Below.refl _ _).alloc (Nat.le_refl _) _, trivial⟩)
            | (apply Exists.intro
               apply And.intro
               · assumption
               · apply And.intro
                 · intro hc
                   first
                     | (refine absurd hc ?_; simp [undef]; done)
                     | (go_simp; first | exact ⟨_, rfl, Below.refl _ _, rfl⟩ | exact ⟨_, rfl, Below.refl _ _, trivial⟩ | exact ⟨_, rfl, Below.refl _ _⟩ | exact ⟨_, rfl, (Below.refl _ _).alloc (Nat.le_refl _) _, trivial⟩)
                 · intro hc
                   first | exact absurd rfl hc | exact trivial | exact rfl)
            | (apply Exists.intro
               apply And.intro
               · assumption
               · intro hc
                 first
                   | (refine absurd hc ?_; simp [undef]; done)
                   | (go_simp; first | exact ⟨_, rfl, Below.refl _ _, rfl⟩ | exact ⟨_, rfl, Below.refl _ _, trivial⟩ | exact ⟨_, rfl, Below.refl _ _⟩ | exact ⟨_, rfl, (Below.refl _ _).alloc (Nat.le_refl _) _, trivial⟩))
        · -- operation 9
          (refine owes_val (L := [(5, false)]) rfl rfl rfl (by kernel_rfl) ?_; intro a' w' hb' hfacts; obtain ⟨hf5, -⟩ := hfacts; replace hf5 : a'.tmps[5]?.getD undef = .int .u8 nm := hf5)
          have q0 := (HSet.out.below hb').cell
          first
            | (go_simp; first | exact ⟨_, rfl, Below.refl _ _, rfl⟩ | exact ⟨_, rfl, Below.refl _ _, trivial⟩ | exact ⟨_, rfl, Below.refl _ _⟩ | exact ⟨_, rfl, (Below.refl _ _).alloc (Nat.le_refl _) _, trivial⟩)
            | (apply Exists.intro
               apply And.intro
               · assumption
               · apply And.intro
                 · intro hc
                   first
                     | (refine absurd hc ?_; simp [undef]; done)
                     | (go_simp; first | exact ⟨_, rfl, Below.refl _ _, rfl⟩ | exact ⟨_, rfl, Below.refl _ _, trivial⟩ | exact ⟨_, rfl, Below.refl _ _⟩ | exact ⟨_, rfl, (Below.refl _ _).alloc (Nat.le_refl _) _, trivial⟩)
                 · intro hc
                   first | exact absurd rfl hc | exact trivial | exact rfl)
            | (apply Exists.intro
               apply And.intro
               · assumption
               · intro hc
                 first
                   | (refine absurd hc ?_; simp [undef]; done)
                   | (go_simp; first | exact ⟨_, rfl, Below.refl _ _, rfl⟩ | exact ⟨_, rfl, Below.refl _ _, trivial⟩ | exact ⟨_, rfl, Below.refl _ _⟩ | exact ⟨_, rfl, (Below.refl _ _).alloc (Nat.le_refl _) _, trivial⟩))
        · -- operation 10
          (refine owes_val (L := [(21, true), (22, true)]) rfl rfl rfl (by kernel_rfl) ?_; intro a' w' hb' hfacts; obtain ⟨hf21, hf22, -⟩ := hfacts; try simp only [VMove] at hf21; try simp only [VMove] at hf22)
          refine op_lookup_int w' (.tmp 21) (.tmp 22) 68 rfl 5 3 .i64 keyU8 Tryd.underlying68 Tryd.underlying3 (zeroInt _) r _ (toD _) (by simpa [Act.eval] using hf21) (HSet.out.below hb').map _ _ (by simpa [Act.eval] using hf22) hkey ?_
          intro q hat hwc
          obtain rfl : q = pl := by { rw [toD_at, HGE.out] at hat; simpa using hat.symm }
          exact ⟨_, rfl, Below.refl _ _, rfl⟩
        · -- operation 11
          (refine owes_val (L := [(1, false)]) rfl rfl rfl (by kernel_rfl) ?_; intro a' w' hb' hfacts; obtain ⟨hf1, -⟩ := hfacts; replace hf1 : a'.tmps[1]?.getD undef = .slice A ds.length c := hf1)
          have q0 := (HSet.out.below hb').cell
          first
            | (go_simp; first | exact ⟨_, rfl, Below.refl _ _, rfl⟩ | exact ⟨_, rfl, Below.refl _ _, trivial⟩ | exact ⟨_, rfl, Below.refl _ _⟩ | exact ⟨_, rfl, (Below.refl _ _).alloc (Nat.le_refl _) _, trivial⟩)
            | (apply Exists.intro
               apply And.intro
               · assumption
               · apply And.intro
                 · intro hc
                   first
                     | (refine absurd hc ?_; simp [undef]; done)
                     | (go_simp; first | exact ⟨_, rfl, Below.refl _ _, rfl⟩ | exact ⟨_, rfl, Below.refl _ _, trivial⟩ | exact ⟨_, rfl, Below.refl _ _⟩ | exact ⟨_, rfl, (Below.refl _ _).alloc (Nat.le_refl _) _, trivial⟩)
                 · intro hc
                   first | exact absurd rfl hc | exact trivial | exact rfl)
            | (apply Exists.intro
               apply And.intro
               · assumption
               · intro hc
                 first
                   | (refine absurd hc ?_; simp [undef]; done)
                   | (go_simp; first | exact ⟨_, rfl, Below.refl _ _, rfl⟩ | exact ⟨_, rfl, Below.refl _ _, trivial⟩ | exact ⟨_, rfl, Below.refl _ _⟩ | exact ⟨_, rfl, (Below.refl _ _).alloc (Nat.le_refl _) _, trivial⟩))
        · -- operation 12
          (refine owes_val (L := [(23, true), (24, true)]) rfl rfl rfl (by kernel_rfl) ?_; intro a' w' hb' hfacts; obtain ⟨hf23, hf24, -⟩ := hfacts; try simp only [VMove] at hf23; try simp only [VMove] at hf24)
          go_simp
          refine (Moved_any pl A ds c _ hl (HDW.out.below hb')).mono ?_
          rintro e w3 ⟨rfl, hb3⟩
          exact ⟨_, rfl, hb3, rfl⟩
      · intro f W3 hf hb3
        have f16 : f 16 = .map (some r) := hf 16 (by decide)
        have f17 : f 17 = .int .u8 nm := hf 17 (by decide)
        have f25 : f 25 = .int .i64 (moved pl ds) := hf 25 (by decide)
        have HB3 := Lib.hid hb3
        have HS3 := Lib.hid (HSet.out.below hb3)
        have HLen : Hid ((moveL (fun x => moved x ds) (List.take k l) ++ (nm, pl) :: List.drop (k + 1) l).length < maxLen) := by
          have := HSet.out.ok.length; unfold Hid maxLen; omega
        clear hf hb3
        simp only [putAll, put_lit, List.map_cons, List.map_nil, List.set_cons_succ, List.set_cons_zero]
        simp only [f16, f17, f25]
        refine wpOp_last rfl ?_
        refine wpList_mapUpdate_own _ rfl _ _ _ 68 rfl 5 3 keyU8 Tryd.underlying68 _ r _ (toD _) rfl HS3.out.map HLen.out _ _ _ rfl rfl hkey _ [] (plainElem_int Tryd.underlying3 HWM.out) ?_
        intro w4 hown4 hg4
        rw [toD_put, HIN.out] at hown4
        have HO4 := Lib.hid hown4
        have HG4 := Lib.hid hg4
        clear hown4 hg4
        go_wp2
        have hset4 : IsSet w4 b (some r) (moveL (fun x => moved x ds) (List.take k l) ++ (nm, moved pl ds) :: List.drop (k + 1) l) := by
          have hne : b ≠ r := by
            rintro rfl
            obtain ⟨es, clock, hb, _⟩ := HSet.out.map
            have := HSet.out.blk; rw [hb] at this; cases this
          refine ⟨(HG4.out.block b (Nat.lt_of_lt_of_le hbl HB3.out.size) (by simpa using hne)).trans HS3.out.blk, ?_, mapOf_tight HO4.out⟩
          rw [← HIN.out]
          exact HSet.out.ok.ins (HSet.out.ok.2 (nm, pl) (by simp)).1 HWM.out
        refine ⟨⟨k + 1, by omega, by go_num, ?_, ?_⟩, by simp [intOf]; omega⟩
        · rw [HT.out, List.append_assoc]; exact hset4
        · exact (HCH.out.then_below HB3.out).trans ((Chg.of_grown HG4.out).mono (fun x hx => hx)) (fun x _ h => h)
    · have hk' : k = l.length := by omega
      subst hk'
      rw [List.take_length, List.drop_length, List.append_nil] at hset
      have HSet := Lib.hid hset
      have HCH := Lib.hid hch
      clear hset hch
      go_wp2
      go_end0
      refine ⟨rfl, HSet.out, ?_⟩
      exact (Chg.of_below HB.out).trans (HCH.out.mono (T := foot b ro) (fun x h => .inr h)) (fun x _ h => h)
end Go.Proofs.YtdkdnkmfjpdcpaaDoor.Mk
