/-
  The document's set of marks: Move. No condition.
-/
import Derived.Test.YtdkdnkmfjpdcpaaDoorMkRef3
import Derived.Test.YtdkdnkmfjpdcpaaDoorRegion3
namespace Go.Proofs.YtdkdnkmfjpdcpaaDoor.Mk
open Go.RowKit Go.Maps Go.Proofs.YtdkdnkmfjpdcpaaDoor.Reg
set_option linter.unusedVariables false
set_option linter.unusedSimpArgs false

theorem cellsM_set (A B : ML) (x : Int × Int) (m : Int) : (cellsM (A ++ x :: B)).set (A.length * 2 + 1) (.int .i64 m) = cellsM (A ++ (x.1, m) :: B) := by
  have hl := cellsM_length A
  unfold cellsM at hl ⊢
  simp only [List.flatMap_append, List.flatMap_cons]
  rw [List.set_append_right _ _ (by rw [hl]; omega), hl, show A.length * 2 + 1 - A.length * 2 = 1 by omega]
  rfl

theorem IsRef.form {w : World} {b : Nat} {v : Value} {l : ML} (h : IsRef w b v l) (hl : 0 < l.length) : ∃ g cap, v = .slice (some ⟨g, 0, none⟩) l.length cap ∧ g < w.heap.size ∧ g ≠ b ∧
    (∀ k (hk : k < l.length), w.cell? ⟨g, k * 2, none⟩ = some (.int .u8 l[k].1) ∧ w.cell? ⟨g, k * 2 + 1, none⟩ = some (.int .i64 l[k].2) ∧ w.frozen? ⟨g, k * 2 + 1, none⟩ = false) := by
  obtain ⟨g, cap, rfl, -, hg⟩ := h.row.form hl
  refine ⟨g, cap, rfl, hg, fun e => h.ne (by simp [Value.ownBlock, e]), fun k hk => ?_⟩
  obtain ⟨e1, e2⟩ := cellsM_get l k hk
  exact ⟨(h.row.cellAt (k * 2) (by omega)).trans e1, (h.row.cellAt (k * 2 + 1) (by omega)).trans e2, h.row.frozenAt _⟩

theorem Ok.turn {A B : ML} {x : Int × Int} {m : Int} (h : Ok (A ++ x :: B)) (hm : (Lit.int .i64 m).wf = true) : Ok (A ++ (x.1, m) :: B) := by
  refine ⟨?_, fun y hy => ?_⟩
  · have h1 := h.1
    rw [List.pairwise_append, List.pairwise_cons] at h1 ⊢
    exact ⟨h1.1, h1.2.1, fun p hp q hq => by
      rcases List.mem_cons.1 hq with rfl | hq
      · exact h1.2.2 p hp x List.mem_cons_self
      · exact h1.2.2 p hp q (List.mem_cons_of_mem _ hq)⟩
  · rcases List.mem_append.1 hy with hy | hy
    · exact h.2 y (List.mem_append_left _ hy)
    · rcases List.mem_cons.1 hy with rfl | hy
      · exact ⟨(h.2 x (List.mem_append_right _ List.mem_cons_self)).1, hm⟩
      · exact h.2 y (List.mem_append_right _ (List.mem_cons_of_mem _ hy))

/-- One place of the list is written. -/
theorem IsRef.write {w : World} {b g cap : Nat} {A B : ML} {x : Int × Int} {m : Int} (h : IsRef w b (.slice (some ⟨g, 0, none⟩) (A ++ x :: B).length cap) (A ++ x :: B)) (hm : (Lit.int .i64 m).wf = true) :
    IsRef (w.setCell ⟨g, A.length * 2 + 1, none⟩ (.int .i64 m)) b (.slice (some ⟨g, 0, none⟩) (A ++ (x.1, m) :: B).length cap) (A ++ (x.1, m) :: B) := by
  have hne : g ≠ b := fun e => h.ne (by simp [Value.ownBlock, e])
  have hlen : (A ++ (x.1, m) :: B).length = (A ++ x :: B).length := by simp
  refine ⟨?_, h.ok.turn hm, ?_⟩
  · rw [hlen]
    exact ((Chg.set w ⟨g, A.length * 2 + 1, none⟩ (.int .i64 m)).block b h.lt (fun e => hne e.symm)).trans h.blk
  · have := (h.row.stored (A.length * 2 + 1) (.int .i64 m)).1
    rw [cellsM_set] at this
    rw [hlen]
    exact this

/-- What one round of Move leaves, slot by slot. -/
def VMoveR (b g cap n k : Nat) (pl m : Int) (A : Option Addr) (dn c : Nat) (s : Nat) (v : Value) (w : World) : Prop := match s with
  | 14 => v = .pointer (some ⟨b, 0, none⟩)
  | 15 => v = .pointer (some ⟨b, 0, none⟩)
  | 16 => v = .pointer (some ⟨b, 0, none⟩)
  | 17 => v = .slice (some ⟨g, 0, none⟩) n cap
  | 18 => v = .int .i64 k
  | 19 => v = .pointer (some ⟨b, 0, none⟩)
  | 20 => v = .pointer (some ⟨b, 0, none⟩)
  | 21 => v = .pointer (some ⟨b, 0, none⟩)
  | 22 => v = .slice (some ⟨g, 0, none⟩) n cap
  | 23 => v = .int .i64 k
  | 24 => v = .pointer (some ⟨g, k * 2, none⟩)
  | 25 => v = .pointer (some ⟨g, k * 2 + 1, none⟩)
  | 26 => v = .int .i64 pl
  | 27 => v = .slice A dn c
  | 28 => v = .int .i64 m
  | 29 => v = .pointer (some ⟨g, k * 2, none⟩)
  | 30 => v = .pointer (some ⟨g, k * 2 + 1, none⟩)
  | _ => True
theorem VMoveR_mono (b g cap n k : Nat) (pl m : Int) (A : Option Addr) (dn c : Nat) : ∀ s v w w', VMoveR b g cap n k pl m A dn c s v w → Below w.heap.size w w' → VMoveR b g cap n k pl m A dn c s v w' := fun _ _ _ _ h _ => h

set_option maxRecDepth 100000 in
set_option maxHeartbeats 1000000 in
theorem MoveR_any (b : Nat) (v : Value) (l : ML) (A : Option Addr) (ds : List Dl) (c : Nat) (w : World) (hs : IsRef w b v l) (hl : ds.length ≤ 9223372036854775807) (hd : DlsAt w A ds) (hA : ds = [] ∨ ∀ ad, A = some ad → ad.block < w.heap.size → ¬ footR b v ad.block)
    (hw : ∀ x ∈ l, (Lit.int .i64 (movedR x.2 ds)).wf = true) :
    Calls Tryd.prog 23 #[.pointer (some ⟨b, 0, none⟩), .slice A ds.length c] w fun e w' => e = .returned (.tuple #[]) ∧ IsRef w' b v (moveL (fun x => movedR x ds) l) ∧ Chg (footR b v) w w' := by
  have HS := Lib.hid hs
  have hl59 := hs.ok.length
  have HD := Lib.hid hd
  have HA := Lib.hid hA
  have HW := Lib.hid hw
  obtain ⟨A0, c0', rfl⟩ := row_form hs.row
  clear hs hd hA hw
  go_enter Tryd.func23, Tryd.ntmps23
  go_wp2
  go_loopw [4] (fun i wr => ∃ k : Nat, k ≤ l.length ∧ i = .int .i64 k ∧ IsRef wr b (.slice A0 l.length c0') (moveL (fun x => movedR x ds) (l.take k) ++ l.drop k) ∧ Chg (footR b (.slice A0 l.length c0')) w wr) (fun i _ => l.length - (intOf i).toNat)
  case atStart => exact ⟨0, Nat.zero_le _, rfl, HS.out, Chg.refl _ _⟩
  case round =>
    obtain ⟨k, hk, rfl, hset, hch⟩ := hrel
    have c0 := hset.cell
    by_cases hlt : k < l.length
    · have hlen : (moveL (fun x => movedR x ds) (l.take k)).length = k := by unfold moveL; simp; omega
      have hsp : l.drop k = l[k] :: l.drop (k + 1) := List.drop_eq_getElem_cons hlt
      have htk : moveL (fun x => movedR x ds) (l.take (k + 1)) = moveL (fun x => movedR x ds) (l.take k) ++ [(l[k].1, movedR l[k].2 ds)] := by
        unfold moveL; rw [List.take_succ_eq_append_getElem hlt, List.map_append]; rfl
      have hdw : DlsAt wr A ds := HD.out.kept hch HA.out
      have hwm : (Lit.int .i64 (movedR l[k].2 ds)).wf = true := HW.out _ (List.getElem_mem hlt)
      have hL2 : (moveL (fun x => movedR x ds) (l.take k) ++ l[k] :: l.drop (k + 1)).length = l.length := by
        rw [← hsp, List.length_append, hlen, List.length_drop]; omega
      rw [hsp] at hset
      generalize moveL (fun x => movedR x ds) (l.take k) = M at *
      generalize hTd : l.drop (k + 1) = T at *
      have HTd : Hid (l.drop (k + 1) = T) := hTd
      clear hTd
      generalize l[k] = x at *
      obtain ⟨nm, pl⟩ := x
      obtain ⟨g, cap, he, hgl, hgb, hce⟩ := hset.form (by rw [hL2]; omega)
      obtain ⟨rfl, -, rfl⟩ : A0 = some ⟨g, 0, none⟩ ∧ l.length = (M ++ (nm, pl) :: T).length ∧ c0' = cap := by simpa using he
      obtain ⟨-, g1, f1⟩ := hce k (by rw [hL2]; exact hlt)
      have hek : (M ++ (nm, pl) :: T)[k]'(by rw [hL2]; exact hlt) = (nm, pl) := by simp [← hlen]
      rw [hek] at g1
      have HSet := Lib.hid hset
      have HCH := Lib.hid hch
      have HDW := Lib.hid hdw
      have HWM := Lib.hid hwm
      have HT := Lib.hid htk
      have HLn := Lib.hid hlen
      have HL2 := Lib.hid hL2
      clear hset hch hdw hwm htk hlen hL2 he hce hek hsp
      have hk1 : (k : Int) < (l.length : Int) := by omega
      go_wp2
      refine wp_held_far mixed (VMoveR b g c0' l.length k pl (movedR pl ds) A ds.length c) (VMoveR_mono _ _ _ _ _ _ _ _ _ _) (by kernel_rfl) [14, 15, 16, 17, 18, 19, 20, 21, 22, 23, 24, 25, 26, 27, 28, 29, 30] (by kernel_rfl) 17 (by kernel_rfl) (by kernel_rfl) (by kernel_rfl) (by kernel_rfl) ?_ ?_
      · intro j hj
        have hj' : j < 17 := hj
        rcases (by omega : j = 0 ∨ j = 1 ∨ j = 2 ∨ j = 3 ∨ j = 4 ∨ j = 5 ∨ j = 6 ∨ j = 7 ∨ j = 8 ∨ j = 9 ∨ j = 10 ∨ j = 11 ∨ j = 12 ∨ j = 13 ∨ j = 14 ∨ j = 15 ∨ j = 16) with rfl | rfl | rfl | rfl | rfl | rfl | rfl | rfl | rfl | rfl | rfl | rfl | rfl | rfl | rfl | rfl | rfl
        · -- operation 0
          (refine owes_val (L := [(0, false)]) rfl rfl rfl (by kernel_rfl) ?_; intro a' w' hb' hfacts; obtain ⟨hf0, -⟩ := hfacts; replace hf0 : a'.tmps[0]?.getD undef = .pointer (some ⟨b, 0, none⟩) := hf0)
          have q0 := (hb'.cell (p := ⟨b, 0, none⟩) HSet.out.lt).trans c0; have q1 := (hb'.cell (p := ⟨g, k * 2 + 1, none⟩) hgl).trans g1
          first
            | (go_simp; first | exact ⟨_, rfl, Below.refl _ _, rfl⟩ | exact ⟨_, rfl, Below.refl _ _, trivial⟩ | exact ⟨_, rfl, Below.refl _ _⟩ | exact ⟨_, rfl, (Below.refl _ _).alloc (Nat.le_refl _) _, trivial⟩)
            | (apply Exists.intro
               apply And.intro
               · assumption
               · apply And.intro
                 · intro hc
                   first
                     | (refine absurd hc ?_; simp [undef]; done)
                     | (go_simp; first | exact ⟨_, rfl, Below.refl _ _, rfl⟩ | exact ⟨_, rfl, Below.refl _ _, trivial⟩ | exact ⟨_, rfl, Below.refl _ _⟩ | exact ⟨_, rfl, (Below.refl _ _).alloc (Nat.le_refl _) _, trivial⟩)
                 · intro hc
                   first | exact absurd rfl hc | exact trivial | exact rfl)
            | (apply Exists.intro
               apply And.intro
               · assumption
               · intro hc
                 first
                   | (refine absurd hc ?_; simp [undef]; done)
                   | (go_simp; first | exact ⟨_, rfl, Below.refl _ _, rfl⟩ | exact ⟨_, rfl, Below.refl _ _, trivial⟩ | exact ⟨_, rfl, Below.refl _ _⟩ | exact ⟨_, rfl, (Below.refl _ _).alloc (Nat.le_refl _) _, trivial⟩))
        · -- operation 1
          (refine owes_val (L := [(14, true)]) rfl rfl rfl (by kernel_rfl) ?_; intro a' w' hb' hfacts; obtain ⟨hf14, -⟩ := hfacts; try simp only [VMoveR] at hf14)
          have q0 := (hb'.cell (p := ⟨b, 0, none⟩) HSet.out.lt).trans c0; have q1 := (hb'.cell (p := ⟨g, k * 2 + 1, none⟩) hgl).trans g1
          first
            | (go_simp; first | exact ⟨_, rfl, Below.refl _ _, rfl⟩ | exact ⟨_, rfl, Below.refl _ _, trivial⟩ | exact ⟨_, rfl, Below.refl _ _⟩ | exact ⟨_, rfl, (Below.refl _ _).alloc (Nat.le_refl _) _, trivial⟩)
            | (apply Exists.intro
               apply And.intro
               · assumption
               · apply And.intro
                 · intro hc
                   first
                     | (refine absurd hc ?_; simp [undef]; done)
                     | (go_simp; first | exact ⟨_, rfl, Below.refl _ _, rfl⟩ | exact ⟨_, rfl, Below.refl _ _, trivial⟩ | exact ⟨_, rfl, Below.refl _ _⟩ | exact ⟨_, rfl, (Below.refl _ _).alloc (Nat.le_refl _) _, trivial⟩)
                 · intro hc
                   first | exact absurd rfl hc | exact trivial | exact rfl)
            | (apply Exists.intro
               apply And.intro
               · assumption
               · intro hc
                 first
                   | (refine absurd hc ?_; simp [undef]; done)
                   | (go_simp; first | exact ⟨_, rfl, Below.refl _ _, rfl⟩ | exact ⟨_, rfl, Below.refl _ _, trivial⟩ | exact ⟨_, rfl, Below.refl _ _⟩ | exact ⟨_, rfl, (Below.refl _ _).alloc (Nat.le_refl _) _, trivial⟩))
        · -- operation 2
          (refine owes_val (L := [(15, true)]) rfl rfl rfl (by kernel_rfl) ?_; intro a' w' hb' hfacts; obtain ⟨hf15, -⟩ := hfacts; try simp only [VMoveR] at hf15)
          have q0 := (hb'.cell (p := ⟨b, 0, none⟩) HSet.out.lt).trans c0; have q1 := (hb'.cell (p := ⟨g, k * 2 + 1, none⟩) hgl).trans g1
          first
            | (go_simp; first | exact ⟨_, rfl, Below.refl _ _, rfl⟩ | exact ⟨_, rfl, Below.refl _ _, trivial⟩ | exact ⟨_, rfl, Below.refl _ _⟩ | exact ⟨_, rfl, (Below.refl _ _).alloc (Nat.le_refl _) _, trivial⟩)
            | (apply Exists.intro
               apply And.intro
               · assumption
               · apply And.intro
                 · intro hc
                   first
                     | (refine absurd hc ?_; simp [undef]; done)
                     | (go_simp; first | exact ⟨_, rfl, Below.refl _ _, rfl⟩ | exact ⟨_, rfl, Below.refl _ _, trivial⟩ | exact ⟨_, rfl, Below.refl _ _⟩ | exact ⟨_, rfl, (Below.refl _ _).alloc (Nat.le_refl _) _, trivial⟩)
                 · intro hc
                   first | exact absurd rfl hc | exact trivial | exact rfl)
            | (apply Exists.intro
               apply And.intro
               · assumption
               · intro hc
                 first
                   | (refine absurd hc ?_; simp [undef]; done)
                   | (go_simp; first | exact ⟨_, rfl, Below.refl _ _, rfl⟩ | exact ⟨_, rfl, Below.refl _ _, trivial⟩ | exact ⟨_, rfl, Below.refl _ _⟩ | exact ⟨_, rfl, (Below.refl _ _).alloc (Nat.le_refl _) _, trivial⟩))
        · -- operation 3
          (refine owes_val (L := [(16, true)]) rfl rfl rfl (by kernel_rfl) ?_; intro a' w' hb' hfacts; obtain ⟨hf16, -⟩ := hfacts; try simp only [VMoveR] at hf16)
          have q0 := (hb'.cell (p := ⟨b, 0, none⟩) HSet.out.lt).trans c0; have q1 := (hb'.cell (p := ⟨g, k * 2 + 1, none⟩) hgl).trans g1
          first
            | (go_simp; first | exact ⟨_, rfl, Below.refl _ _, rfl⟩ | exact ⟨_, rfl, Below.refl _ _, trivial⟩ | exact ⟨_, rfl, Below.refl _ _⟩ | exact ⟨_, rfl, (Below.refl _ _).alloc (Nat.le_refl _) _, trivial⟩)
            | (apply Exists.intro
               apply And.intro
               · assumption
               · apply And.intro
                 · intro hc
                   first
                     | (refine absurd hc ?_; simp [undef]; done)
                     | (go_simp; first | exact ⟨_, rfl, Below.refl _ _, rfl⟩ | exact ⟨_, rfl, Below.refl _ _, trivial⟩ | exact ⟨_, rfl, Below.refl _ _⟩ | exact ⟨_, rfl, (Below.refl _ _).alloc (Nat.le_refl _) _, trivial⟩)
                 · intro hc
                   first | exact absurd rfl hc | exact trivial | exact rfl)
            | (apply Exists.intro
               apply And.intro
               · assumption
               · intro hc
                 first
                   | (refine absurd hc ?_; simp [undef]; done)
                   | (go_simp; first | exact ⟨_, rfl, Below.refl _ _, rfl⟩ | exact ⟨_, rfl, Below.refl _ _, trivial⟩ | exact ⟨_, rfl, Below.refl _ _⟩ | exact ⟨_, rfl, (Below.refl _ _).alloc (Nat.le_refl _) _, trivial⟩))
        · -- operation 4
          (refine owes_val (L := [(4, false)]) rfl rfl rfl (by kernel_rfl) ?_; intro a' w' hb' hfacts; obtain ⟨hf4, -⟩ := hfacts; replace hf4 : a'.tmps[4]?.getD undef = .int .i64 k := hf4)
          have q0 := (hb'.cell (p := ⟨b, 0, none⟩) HSet.out.lt).trans c0; have q1 := (hb'.cell (p := ⟨g, k * 2 + 1, none⟩) hgl).trans g1
          first
            | (go_simp; first | exact ⟨_, rfl, Below.refl _ _, rfl⟩ | exact ⟨_, rfl, Below.refl _ _, trivial⟩ | exact ⟨_, rfl, Below.refl _ _⟩ | exact ⟨_, rfl, (Below.refl _ _).alloc (Nat.le_refl _) _, trivial⟩)
            | (apply Exists.intro
               apply And.intro
               · assumption
               · apply And.intro
                 · intro hc
                   first
                     | (refine absurd hc ?_; simp [undef]; done)
                     | (go_simp; first | exact ⟨_, rfl, Below.refl _ _, rfl⟩ | exact ⟨_, rfl, Below.refl _ _, trivial⟩ | exact ⟨_, rfl, Below.refl _ _⟩ | exact ⟨_, rfl, (Below.refl _ _).alloc (Nat.le_refl _) _, trivial⟩)
                 · intro hc
                   first | exact absurd rfl hc | exact trivial | exact rfl)
            | (apply Exists.intro
               apply And.intro
               · assumption
               · intro hc
                 first
                   | (refine absurd hc ?_; simp [undef]; done)
                   | (go_simp; first | exact ⟨_, rfl, Below.refl _ _, rfl⟩ | exact ⟨_, rfl, Below.refl _ _, trivial⟩ | exact ⟨_, rfl, Below.refl _ _⟩ | exact ⟨_, rfl, (Below.refl _ _).alloc (Nat.le_refl _) _, trivial⟩))
        · -- operation 5
          (refine owes_val (L := [(0, false)]) rfl rfl rfl (by kernel_rfl) ?_; intro a' w' hb' hfacts; obtain ⟨hf0, -⟩ := hfacts; replace hf0 : a'.tmps[0]?.getD undef = .pointer (some ⟨b, 0, none⟩) := hf0)
          have q0 := (hb'.cell (p := ⟨b, 0, none⟩) HSet.out.lt).trans c0; have q1 := (hb'.cell (p := ⟨g, k * 2 + 1, none⟩) hgl).trans g1
          first
            | (go_simp; first | exact ⟨_, rfl, Below.refl _ _, rfl⟩ | exact ⟨_, rfl, Below.refl _ _, trivial⟩ | exact ⟨_, rfl, Below.refl _ _⟩ | exact ⟨_, rfl, (Below.refl _ _).alloc (Nat.le_refl _) _, trivial⟩)
            | (apply Exists.intro
               apply And.intro
               · assumption
               · apply And.intro
                 · intro hc
                   first
                     | (refine absurd hc ?_; simp [undef]; done)
                     | (go_simp; first | exact ⟨_, rfl, Below.refl _ _, rfl⟩ | exact ⟨_, rfl, Below.refl _ _, trivial⟩ | exact ⟨_, rfl, Below.refl _ _⟩ | exact ⟨_, rfl, (Below.refl _ _).alloc (Nat.le_refl _) _, trivial⟩)
                 · intro hc
                   first | exact absurd rfl hc | exact trivial | exact rfl)
            | (apply Exists.intro
               apply And.intro
               · assumption
               · intro hc
                 first
                   | (refine absurd hc ?_; simp [undef]; done)
                   | (go_simp; first | exact ⟨_, rfl, Below.refl _ _, rfl⟩ | exact ⟨_, rfl, Below.refl _ _, trivial⟩ | exact ⟨_, rfl, Below.refl _ _⟩ | exact ⟨_, rfl, (Below.refl _ _).alloc (Nat.le_refl _) _, trivial⟩))
        · -- operation 6
          (refine owes_val (L := [(19, true)]) rfl rfl rfl (by kernel_rfl) ?_; intro a' w' hb' hfacts; obtain ⟨hf19, -⟩ := hfacts; try simp only [VMoveR] at hf19)
          have q0 := (hb'.cell (p := ⟨b, 0, none⟩) HSet.out.lt).trans c0; have q1 := (hb'.cell (p := ⟨g, k * 2 + 1, none⟩) hgl).trans g1
          first
            | (go_simp; first | exact ⟨_, rfl, Below.refl _ _, rfl⟩ | exact ⟨_, rfl, Below.refl _ _, trivial⟩ | exact ⟨_, rfl, Below.refl _ _⟩ | exact ⟨_, rfl, (Below.refl _ _).alloc (Nat.le_refl _) _, trivial⟩)
            | (apply Exists.intro
               apply And.intro
               · assumption
               · apply And.intro
                 · intro hc
                   first
                     | (refine absurd hc ?_; simp [undef]; done)
                     | (go_simp; first | exact ⟨_, rfl, Below.refl _ _, rfl⟩ | exact ⟨_, rfl, Below.refl _ _, trivial⟩ | exact ⟨_, rfl, Below.refl _ _⟩ | exact ⟨_, rfl, (Below.refl _ _).alloc (Nat.le_refl _) _, trivial⟩)
                 · intro hc
                   first | exact absurd rfl hc | exact trivial | exact rfl)
            | (apply Exists.intro
               apply And.intro
               · assumption
               · intro hc
                 first
                   | (refine absurd hc ?_; simp [undef]; done)
                   | (go_simp; first | exact ⟨_, rfl, Below.refl _ _, rfl⟩ | exact ⟨_, rfl, Below.refl _ _, trivial⟩ | exact ⟨_, rfl, Below.refl _ _⟩ | exact ⟨_, rfl, (Below.refl _ _).alloc (Nat.le_refl _) _, trivial⟩))
        · -- operation 7
          (refine owes_val (L := [(20, true)]) rfl rfl rfl (by kernel_rfl) ?_; intro a' w' hb' hfacts; obtain ⟨hf20, -⟩ := hfacts; try simp only [VMoveR] at hf20)
          have q0 := (hb'.cell (p := ⟨b, 0, none⟩) HSet.out.lt).trans c0; have q1 := (hb'.cell (p := ⟨g, k * 2 + 1, none⟩) hgl).trans g1
          first
            | (go_simp; first | exact ⟨_, rfl, Below.refl _ _, rfl⟩ | exact ⟨_, rfl, Below.refl _ _, trivial⟩ | exact ⟨_, rfl, Below.refl _ _⟩ | exact ⟨_, rfl, (Below.refl _ _).alloc (Nat.le_refl _) _, trivial⟩)
            | (apply Exists.intro
               apply And.intro
               · assumption
               · apply And.intro
                 · intro hc
                   first
                     | (refine absurd hc ?_; simp [undef]; done)
                     | (go_simp; first | exact ⟨_, rfl, Below.refl _ _, rfl⟩ | exact ⟨_, rfl, Below.refl _ _, trivial⟩ | exact ⟨_, rfl, Below.refl _ _⟩ | exact ⟨_, rfl, (Below.refl _ _).alloc (Nat.le_refl _) _, trivial⟩)
                 · intro hc
                   first | exact absurd rfl hc | exact trivial | exact rfl)
            | (apply Exists.intro
               apply And.intro
               · assumption
               · intro hc
                 first
                   | (refine absurd hc ?_; simp [undef]; done)
                   | (go_simp; first | exact ⟨_, rfl, Below.refl _ _, rfl⟩ | exact ⟨_, rfl, Below.refl _ _, trivial⟩ | exact ⟨_, rfl, Below.refl _ _⟩ | exact ⟨_, rfl, (Below.refl _ _).alloc (Nat.le_refl _) _, trivial⟩))
        · -- operation 8
          (refine owes_val (L := [(21, true)]) rfl rfl rfl (by kernel_rfl) ?_; intro a' w' hb' hfacts; obtain ⟨hf21, -⟩ := hfacts; try simp only [VMoveR] at hf21)
          have q0 := (hb'.cell (p := ⟨b, 0, none⟩) HSet.out.lt).trans c0; have q1 := (hb'.cell (p := ⟨g, k * 2 + 1, none⟩) hgl).trans g1
          first
            | (go_simp; first | exact ⟨_, rfl, Below.refl _ _, rfl⟩ | exact ⟨_, rfl, Below.refl _ _, trivial⟩ | exact ⟨_, rfl, Below.refl _ _⟩ | exact ⟨_, rfl, (Below.refl _ _).alloc (Nat.le_refl _) _, trivial⟩)
            | (apply Exists.intro
               apply And.intro
               · assumption
               · apply And.intro
                 · intro hc
                   first
                     | (refine absurd hc ?_; simp [undef]; done)
                     | (go_simp; first | exact ⟨_, rfl, Below.refl _ _, rfl⟩ | exact ⟨_, rfl, Below.refl _ _, trivial⟩ | exact ⟨_, rfl, Below.refl _ _⟩ | exact ⟨_, rfl, (Below.refl _ _).alloc (Nat.le_refl _) _, trivial⟩)
                 · intro hc
                   first | exact absurd rfl hc | exact trivial | exact rfl)
            | (apply Exists.intro
               apply And.intro
               · assumption
               · intro hc
                 first
                   | (refine absurd hc ?_; simp [undef]; done)
                   | (go_simp; first | exact ⟨_, rfl, Below.refl _ _, rfl⟩ | exact ⟨_, rfl, Below.refl _ _, trivial⟩ | exact ⟨_, rfl, Below.refl _ _⟩ | exact ⟨_, rfl, (Below.refl _ _).alloc (Nat.le_refl _) _, trivial⟩))
        · -- operation 9
          (refine owes_val (L := [(4, false)]) rfl rfl rfl (by kernel_rfl) ?_; intro a' w' hb' hfacts; obtain ⟨hf4, -⟩ := hfacts; replace hf4 : a'.tmps[4]?.getD undef = .int .i64 k := hf4)
          have q0 := (hb'.cell (p := ⟨b, 0, none⟩) HSet.out.lt).trans c0; have q1 := (hb'.cell (p := ⟨g, k * 2 + 1, none⟩) hgl).trans g1
          first
            | (go_simp; first | exact ⟨_, rfl, Below.refl _ _, rfl⟩ | exact ⟨_, rfl, Below.refl _ _, trivial⟩ | exact ⟨_, rfl, Below.refl _ _⟩ | exact ⟨_, rfl, (Below.refl _ _).alloc (Nat.le_refl _) _, trivial⟩)
            | (apply Exists.intro
               apply And.intro
               · assumption
               · apply And.intro
                 · intro hc
                   first
                     | (refine absurd hc ?_; simp [undef]; done)
                     | (go_simp; first | exact ⟨_, rfl, Below.refl _ _, rfl⟩ | exact ⟨_, rfl, Below.refl _ _, trivial⟩ | exact ⟨_, rfl, Below.refl _ _⟩ | exact ⟨_, rfl, (Below.refl _ _).alloc (Nat.le_refl _) _, trivial⟩)
                 · intro hc
                   first | exact absurd rfl hc | exact trivial | exact rfl)
            | (apply Exists.intro
               apply And.intro
               · assumption
               · intro hc
                 first
                   | (refine absurd hc ?_; simp [undef]; done)
                   | (go_simp; first | exact ⟨_, rfl, Below.refl _ _, rfl⟩ | exact ⟨_, rfl, Below.refl _ _, trivial⟩ | exact ⟨_, rfl, Below.refl _ _⟩ | exact ⟨_, rfl, (Below.refl _ _).alloc (Nat.le_refl _) _, trivial⟩))
        · -- operation 10
          (refine owes_val (L := [(22, true), (23, true)]) rfl rfl rfl (by kernel_rfl) ?_; intro a' w' hb' hfacts; obtain ⟨hf22, hf23, -⟩ := hfacts; try simp only [VMoveR] at hf22; try simp only [VMoveR] at hf23)
          have q0 := (hb'.cell (p := ⟨b, 0, none⟩) HSet.out.lt).trans c0; have q1 := (hb'.cell (p := ⟨g, k * 2 + 1, none⟩) hgl).trans g1
          first
            | (go_simp; first | exact ⟨_, rfl, Below.refl _ _, rfl⟩ | exact ⟨_, rfl, Below.refl _ _, trivial⟩ | exact ⟨_, rfl, Below.refl _ _⟩ | exact ⟨_, rfl, (Below.refl _ _).alloc (Nat.le_refl _) _, trivial⟩)
            | (apply Exists.intro
               apply And.intro
               · assumption
               · apply And.intro
                 · intro hc
                   first
                     | (refine absurd hc ?_; simp [undef]; done)
                     | (go_simp; first | exact ⟨_, rfl, Below.refl _ _, rfl⟩ | exact ⟨_, rfl, Below.refl _ _, trivial⟩ | exact ⟨_, rfl, Below.refl _ _⟩ | exact ⟨_, rfl, (Below.refl _ _).alloc (Nat.le_refl _) _, trivial⟩)
                 · intro hc
                   first | exact absurd rfl hc | exact trivial | exact rfl)
            | (apply Exists.intro
               apply And.intro
               · assumption
               · intro hc
                 first
                   | (refine absurd hc ?_; simp [undef]; done)
                   | (go_simp; first | exact ⟨_, rfl, Below.refl _ _, rfl⟩ | exact ⟨_, rfl, Below.refl _ _, trivial⟩ | exact ⟨_, rfl, Below.refl _ _⟩ | exact ⟨_, rfl, (Below.refl _ _).alloc (Nat.le_refl _) _, trivial⟩))
        · -- operation 11
          (refine owes_val (L := [(24, true)]) rfl rfl rfl (by kernel_rfl) ?_; intro a' w' hb' hfacts; obtain ⟨hf24, -⟩ := hfacts; try simp only [VMoveR] at hf24)
          have q0 := (hb'.cell (p := ⟨b, 0, none⟩) HSet.out.lt).trans c0; have q1 := (hb'.cell (p := ⟨g, k * 2 + 1, none⟩) hgl).trans g1
          first
            | (go_simp; first | exact ⟨_, rfl, Below.refl _ _, rfl⟩ | exact ⟨_, rfl, Below.refl _ _, trivial⟩ | exact ⟨_, rfl, Below.refl _ _⟩ | exact ⟨_, rfl, (Below.refl _ _).alloc (Nat.le_refl _) _, trivial⟩)
            | (apply Exists.intro
               apply And.intro
               · assumption
               · apply And.intro
                 · intro hc
                   first
                     | (refine absurd hc ?_; simp [undef]; done)
                     | (go_simp; first | exact ⟨_, rfl, Below.refl _ _, rfl⟩ | exact ⟨_, rfl, Below.refl _ _, trivial⟩ | exact ⟨_, rfl, Below.refl _ _⟩ | exact ⟨_, rfl, (Below.refl _ _).alloc (Nat.le_refl _) _, trivial⟩)
                 · intro hc
                   first | exact absurd rfl hc | exact trivial | exact rfl)
            | (apply Exists.intro
               apply And.intro
               · assumption
               · intro hc
                 first
                   | (refine absurd hc ?_; simp [undef]; done)
                   | (go_simp; first | exact ⟨_, rfl, Below.refl _ _, rfl⟩ | exact ⟨_, rfl, Below.refl _ _, trivial⟩ | exact ⟨_, rfl, Below.refl _ _⟩ | exact ⟨_, rfl, (Below.refl _ _).alloc (Nat.le_refl _) _, trivial⟩))
        · -- operation 12
          (refine owes_val (L := [(25, true)]) rfl rfl rfl (by kernel_rfl) ?_; intro a' w' hb' hfacts; obtain ⟨hf25, -⟩ := hfacts; try simp only [VMoveR] at hf25)
          have q0 := (hb'.cell (p := ⟨b, 0, none⟩) HSet.out.lt).trans c0; have q1 := (hb'.cell (p := ⟨g, k * 2 + 1, none⟩) hgl).trans g1
          first
            | (go_simp; first | exact ⟨_, rfl, Below.refl _ _, rfl⟩ | exact ⟨_, rfl, Below.refl _ _, trivial⟩ | exact ⟨_, rfl, Below.refl _ _⟩ | exact ⟨_, rfl, (Below.refl _ _).alloc (Nat.le_refl _) _, trivial⟩)
            | (apply Exists.intro
               apply And.intro
               · assumption
               · apply And.intro
                 · intro hc
                   first
                     | (refine absurd hc ?_; simp [undef]; done)
                     | (go_simp; first | exact ⟨_, rfl, Below.refl _ _, rfl⟩ | exact ⟨_, rfl, Below.refl _ _, trivial⟩ | exact ⟨_, rfl, Below.refl _ _⟩ | exact ⟨_, rfl, (Below.refl _ _).alloc (Nat.le_refl _) _, trivial⟩)
                 · intro hc
                   first | exact absurd rfl hc | exact trivial | exact rfl)
            | (apply Exists.intro
               apply And.intro
               · assumption
               · intro hc
                 first
                   | (refine absurd hc ?_; simp [undef]; done)
                   | (go_simp; first | exact ⟨_, rfl, Below.refl _ _, rfl⟩ | exact ⟨_, rfl, Below.refl _ _, trivial⟩ | exact ⟨_, rfl, Below.refl _ _⟩ | exact ⟨_, rfl, (Below.refl _ _).alloc (Nat.le_refl _) _, trivial⟩))
        · -- operation 13
          (refine owes_val (L := [(1, false)]) rfl rfl rfl (by kernel_rfl) ?_; intro a' w' hb' hfacts; obtain ⟨hf1, -⟩ := hfacts; replace hf1 : a'.tmps[1]?.getD undef = .slice A ds.length c := hf1)
          have q0 := (hb'.cell (p := ⟨b, 0, none⟩) HSet.out.lt).trans c0; have q1 := (hb'.cell (p := ⟨g, k * 2 + 1, none⟩) hgl).trans g1
          first
            | (go_simp; first | exact ⟨_, rfl, Below.refl _ _, rfl⟩ | exact ⟨_, rfl, Below.refl _ _, trivial⟩ | exact ⟨_, rfl, Below.refl _ _⟩ | exact ⟨_, rfl, (Below.refl _ _).alloc (Nat.le_refl _) _, trivial⟩)
            | (apply Exists.intro
               apply And.intro
               · assumption
               · apply And.intro
                 · intro hc
                   first
                     | (refine absurd hc ?_; simp [undef]; done)
                     | (go_simp; first | exact ⟨_, rfl, Below.refl _ _, rfl⟩ | exact ⟨_, rfl, Below.refl _ _, trivial⟩ | exact ⟨_, rfl, Below.refl _ _⟩ | exact ⟨_, rfl, (Below.refl _ _).alloc (Nat.le_refl _) _, trivial⟩)
                 · intro hc
                   first | exact absurd rfl hc | exact trivial | exact rfl)
            | (apply Exists.intro
               apply And.intro
               · assumption
               · intro hc
                 first
                   | (refine absurd hc ?_; simp [undef]; done)
                   | (go_simp; first | exact ⟨_, rfl, Below.refl _ _, rfl⟩ | exact ⟨_, rfl, Below.refl _ _, trivial⟩ | exact ⟨_, rfl, Below.refl _ _⟩ | exact ⟨_, rfl, (Below.refl _ _).alloc (Nat.le_refl _) _, trivial⟩))
        · -- operation 14
          (refine owes_val (L := [(26, true), (27, true)]) rfl rfl rfl (by kernel_rfl) ?_; intro a' w' hb' hfacts; obtain ⟨hf26, hf27, -⟩ := hfacts; try simp only [VMoveR] at hf26; try simp only [VMoveR] at hf27)
          go_simp
          refine (MovedR_any pl A ds c _ hl (HDW.out.below hb')).mono ?_
          rintro e w3 ⟨rfl, hb3⟩
          exact ⟨_, rfl, hb3, rfl⟩
        · -- operation 15
          (refine owes_val (L := [(17, true), (18, true)]) rfl rfl rfl (by kernel_rfl) ?_; intro a' w' hb' hfacts; obtain ⟨hf17, hf18, -⟩ := hfacts; try simp only [VMoveR] at hf17; try simp only [VMoveR] at hf18)
          have q0 := (hb'.cell (p := ⟨b, 0, none⟩) HSet.out.lt).trans c0; have q1 := (hb'.cell (p := ⟨g, k * 2 + 1, none⟩) hgl).trans g1
          first
            | (go_simp; first | exact ⟨_, rfl, Below.refl _ _, rfl⟩ | exact ⟨_, rfl, Below.refl _ _, trivial⟩ | exact ⟨_, rfl, Below.refl _ _⟩ | exact ⟨_, rfl, (Below.refl _ _).alloc (Nat.le_refl _) _, trivial⟩)
            | (apply Exists.intro
               apply And.intro
               · assumption
               · apply And.intro
                 · intro hc
                   first
                     | (refine absurd hc ?_; simp [undef]; done)
                     | (go_simp; first | exact ⟨_, rfl, Below.refl _ _, rfl⟩ | exact ⟨_, rfl, Below.refl _ _, trivial⟩ | exact ⟨_, rfl, Below.refl _ _⟩ | exact ⟨_, rfl, (Below.refl _ _).alloc (Nat.le_refl _) _, trivial⟩)
                 · intro hc
                   first | exact absurd rfl hc | exact trivial | exact rfl)
            | (apply Exists.intro
               apply And.intro
               · assumption
               · intro hc
                 first
                   | (refine absurd hc ?_; simp [undef]; done)
                   | (go_simp; first | exact ⟨_, rfl, Below.refl _ _, rfl⟩ | exact ⟨_, rfl, Below.refl _ _, trivial⟩ | exact ⟨_, rfl, Below.refl _ _⟩ | exact ⟨_, rfl, (Below.refl _ _).alloc (Nat.le_refl _) _, trivial⟩))
        · -- operation 16
          (refine owes_val (L := [(29, true)]) rfl rfl rfl (by kernel_rfl) ?_; intro a' w' hb' hfacts; obtain ⟨hf29, -⟩ := hfacts; try simp only [VMoveR] at hf29)
          have q0 := (hb'.cell (p := ⟨b, 0, none⟩) HSet.out.lt).trans c0; have q1 := (hb'.cell (p := ⟨g, k * 2 + 1, none⟩) hgl).trans g1
          first
            | (go_simp; first | exact ⟨_, rfl, Below.refl _ _, rfl⟩ | exact ⟨_, rfl, Below.refl _ _, trivial⟩ | exact ⟨_, rfl, Below.refl _ _⟩ | exact ⟨_, rfl, (Below.refl _ _).alloc (Nat.le_refl _) _, trivial⟩)
            | (apply Exists.intro
               apply And.intro
               · assumption
               · apply And.intro
                 · intro hc
                   first
                     | (refine absurd hc ?_; simp [undef]; done)
                     | (go_simp; first | exact ⟨_, rfl, Below.refl _ _, rfl⟩ | exact ⟨_, rfl, Below.refl _ _, trivial⟩ | exact ⟨_, rfl, Below.refl _ _⟩ | exact ⟨_, rfl, (Below.refl _ _).alloc (Nat.le_refl _) _, trivial⟩)
                 · intro hc
                   first | exact absurd rfl hc | exact trivial | exact rfl)
            | (apply Exists.intro
               apply And.intro
               · assumption
               · intro hc
                 first
                   | (refine absurd hc ?_; simp [undef]; done)
                   | (go_simp; first | exact ⟨_, rfl, Below.refl _ _, rfl⟩ | exact ⟨_, rfl, Below.refl _ _, trivial⟩ | exact ⟨_, rfl, Below.refl _ _⟩ | exact ⟨_, rfl, (Below.refl _ _).alloc (Nat.le_refl _) _, trivial⟩))
      · intro f W3 hf hb3
        have f28 : f 28 = .int .i64 (movedR pl ds) := hf 28 (by decide)
        have f30 : f 30 = .pointer (some ⟨g, k * 2 + 1, none⟩) := hf 30 (by decide)
        have q1 := (hb3.cell (p := ⟨g, k * 2 + 1, none⟩) hgl).trans g1
        have q2 := (hb3.frozen (p := ⟨g, k * 2 + 1, none⟩) hgl).trans f1
        have HB3 := Lib.hid hb3
        have HS3 := Lib.hid (HSet.out.below hb3)
        clear hf hb3
        simp only [putAll, put_lit, List.map_cons, List.map_nil, List.set_cons_succ, List.set_cons_zero]
        simp only [f28, f30]
        refine wpOp_last rfl ?_
        go_wp2
        refine ⟨⟨k + 1, by omega, by go_num, ?_, ?_⟩, by simp [intOf]; omega⟩
        · have h := HS3.out
          rw [← HL2.out] at h
          have := h.write HWM.out
          rw [HLn.out] at this
          rw [HT.out, List.append_assoc, HTd.out]
          have e : (M ++ (nm, movedR pl ds) :: T).length = l.length := by rw [← HL2.out]; simp
          rw [e] at this
          exact this
        · exact (HCH.out.then_below HB3.out).trans (Chg.set W3 ⟨g, k * 2 + 1, none⟩ _) (fun x _ h => .inr (by rw [h]; rfl))
    · have hk' : k = l.length := by omega
      subst hk'
      rw [List.take_length, List.drop_length, List.append_nil] at hset
      have HSet := Lib.hid hset
      have HCH := Lib.hid hch
      clear hset hch
      go_wp2
      go_end0
      exact ⟨rfl, HSet.out, HCH.out⟩
end Go.Proofs.YtdkdnkmfjpdcpaaDoor.Mk
