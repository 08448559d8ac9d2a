/-
  The document's set of marks: Drop. No condition.
-/
import Derived.Test.YtdkdnkmfjpdcpaaDoorMkRef2
namespace Go.Proofs.YtdkdnkmfjpdcpaaDoor.Mk
open Go.RowKit Go.Maps
set_option linter.unusedVariables false
set_option linter.unusedSimpArgs false

def dropL (l : ML) (n : Int) : ML := if good n = true then del l n else l
theorem del_mid (l : ML) (h : Ok l) (k : Nat) (hk : k < l.length) : del l l[k].1 = l.take k ++ l.drop (k + 1) := by
  have hd : l.drop k = l[k] :: l.drop (k + 1) := List.drop_eq_getElem_cons hk
  have hp : (l.take k ++ l[k] :: l.drop (k + 1)).Pairwise (fun p q => p.1 < q.1) := by rw [← hd, List.take_append_drop]; exact h.1
  obtain ⟨hA, hxB, hAB⟩ := List.pairwise_append.1 hp
  obtain ⟨hx, hB⟩ := List.pairwise_cons.1 hxB
  generalize hy : l[k] = y at *
  have e : l = l.take k ++ y :: l.drop (k + 1) := by rw [← hd, List.take_append_drop]
  conv => lhs; rw [e]
  have h1 : del (l.take k) y.1 = l.take k := del_none _ _ (fun z hz => by have := hAB z hz y List.mem_cons_self; omega)
  have h2 : del (l.drop (k + 1)) y.1 = l.drop (k + 1) := del_none _ _ (fun z hz => by have := hx z hz; omega)
  unfold del at h1 h2 ⊢
  rw [List.filter_append, List.filter_cons, h1, h2]
  simp

theorem cellsM_one (l : ML) : ∀ u ∈ cellsM l, u.oneCell' = true := by
  intro u hu
  unfold cellsM at hu
  obtain ⟨x, hx, hu⟩ := List.mem_flatMap.1 hu
  simp at hu
  rcases hu with rfl | rfl <;> rfl

/-- A part of a row lies where it lies. -/
theorem cells_part (w : World) (g : Nat) (l : ML) (hc : ∀ j u, (cellsM l)[j]? = some u → w.cell? ((⟨g, 0, none⟩ : Addr).add j) = some u) (a m : Nat) :
    ∀ j u, (cellsM ((l.drop a).take m))[j]? = some u → w.cell? ((⟨g, a * 2, none⟩ : Addr).add j) = some u := by
  intro j u hj
  have hadd : ∀ x y, (⟨g, x, none⟩ : Addr).add y = ⟨g, x + y, none⟩ := fun x y => by unfold Addr.add; split <;> simp_all
  have hlen := cellsM_length ((l.drop a).take m)
  have hj' : j < (cellsM ((l.drop a).take m)).length := (List.getElem?_eq_some_iff.1 hj).1
  rw [hlen] at hj'
  have hl2 : ((l.drop a).take m).length ≤ l.length - a := by simp; omega
  have hi : j / 2 < ((l.drop a).take m).length := by omega
  have hel : ((l.drop a).take m)[j / 2] = l[a + j / 2]'(by omega) := by simp
  obtain ⟨e1, e2⟩ := cellsM_get ((l.drop a).take m) (j / 2) hi
  obtain ⟨f1, f2⟩ := cellsM_get l (a + j / 2) (by omega)
  rw [hel] at e1 e2
  have := hc (a * 2 + j) u (by
    rcases Nat.mod_two_eq_zero_or_one j with h | h
    · rw [show j / 2 * 2 = j by omega] at e1
      rw [show a * 2 + j = (a + j / 2) * 2 by omega, f1, ← e1]; exact hj
    · rw [show j / 2 * 2 + 1 = j by omega] at e2
      rw [show a * 2 + j = (a + j / 2) * 2 + 1 by omega, f2, ← e2]; exact hj)
  rw [hadd] at this ⊢
  simpa using this

set_option maxRecDepth 100000 in
set_option maxHeartbeats 1000000 in
theorem DropR_any (b : Nat) (v : Value) (l : ML) (n : Int) (w : World) (hs : IsRef w b v l) :
    Calls Tryd.prog 45 #[.pointer (some ⟨b, 0, none⟩), .int .u8 n] w fun e w' => e = .returned (.int .i64 (getE l n).2) ∧ ∃ v', IsRef w' b v' (dropL l n) ∧ NextV w v v' ∧ Chg (footR b v) w w' := by
  have HS := Lib.hid hs
  have c0 := hs.cell
  have f0 := hs.free
  have hl := hs.ok.length
  have hbl := hs.lt
  obtain ⟨A, c, rfl⟩ := row_form hs.row
  clear hs
  obtain ⟨p, hp⟩ : ∃ p, (getE l n).2 = p := ⟨_, rfl⟩
  have HP := Lib.hid hp
  rw [hp]
  clear hp
  by_cases hg : good n = true
  · have HG := Lib.hid hg
    have HDl : Hid (dropL l n = del l n) := by show _ = _; unfold dropL; rw [if_pos hg]
    clear hg
    go_enter Tryd.func45, Tryd.ntmps45
    go_wp2_with fail
    refine (GoodR_any _ _).mono ?_
    rintro e w' ⟨rfl, rfl⟩
    rw [HG.out]
    go_wp2_with fail
    refine (place_any b _ l n _ HS.out).mono ?_
    rintro e w' ⟨r, rfl, hr, rfl⟩
    rcases hr with ⟨k, hk, rfl, hkn⟩ | ⟨rfl, hno⟩
    · obtain ⟨g, cap, he, -, hglt⟩ := HS.out.row.form (by omega)
      obtain ⟨rfl, rfl⟩ : A = some ⟨g, 0, none⟩ ∧ c = cap := by simpa using he
      have HCs := Lib.hid (HS.out.row.cells (g := g) rfl)
      obtain ⟨-, h0 | ⟨g', cap', cur, he', -, hh, hcap, -⟩⟩ := HS.out.row
      · simp at h0
      obtain ⟨rfl, rfl⟩ : g = g' ∧ c = cap' := by simpa using he'
      have hgb : g ≠ b := by
        intro e
        exact HS.out.ne (by simp [Value.ownBlock, e])
      have HK : Hid (getE l n = (l[k].2, 0)) := by
        show _ = _
        unfold getE; rw [if_pos HG.out, ← hkn, get_at HS.out.ok k hk]
      have HD2 : Hid (dropL l n = l.take k ++ l.drop (k + 1)) := by
        show _ = _
        rw [HDl.out, ← hkn, del_mid l HS.out.ok k hk]
      have hk0 : (0 : Int) ≤ (k : Int) := by omega
      have hk1 : (k : Int) < (l.length : Int) := by omega
      have hk2 : k ≤ c := by omega
      have hk3 : k + 1 ≤ l.length := by omega
      obtain ⟨i0, hi, hz0, hz1, hz2⟩ := info_parts infoMark
      obtain rfl : p = 0 := by rw [← HP.out, HK.out]
      have HT1 : Hid ((cellsM (l.take k)).length = k * 2) := by show _ = _; rw [cellsM_length, List.length_take]; omega
      have HT2 : Hid ((cellsM (l.drop (k + 1))).length = (l.length - (k + 1)) * 2) := by show _ = _; rw [cellsM_length, List.length_drop]
      have HN1 : Hid (∀ j u, (cellsM (l.take k))[j]? = some u → w'.cell? ((⟨g, 0, none⟩ : Addr).add j) = some u) := by
        have := cells_part w' g l HCs.out 0 k
        rw [List.drop_zero, Nat.zero_mul] at this
        exact this
      have HN2 : Hid (∀ j u, (cellsM (l.drop (k + 1)))[j]? = some u → w'.cell? ((⟨g, (k + 1) * 2, none⟩ : Addr).add j) = some u) := by
        have := cells_part w' g l HCs.out (k + 1) l.length
        rw [List.take_of_length_le (by simp)] at this
        exact this
      clear hkn he he' hh
      have HOK : Hid (Ok (l.take k ++ l.drop (k + 1))) := by
        show Ok _
        rw [← HD2.out, HDl.out]
        exact HS.out.ok.del n
      by_cases hck : c = k + 1
      · have hlk : l.length = k + 1 := by omega
        have HN3 : Hid (l.take k ++ l.drop (k + 1) = l.take k) := by show _ = _; rw [List.drop_of_length_le (by omega), List.append_nil]
        have HN4 : Hid (k = (l.take k).length) := by show _ = _; rw [List.length_take]; omega
        clear hlk
        subst hck
        go_wp2_with (first
          | (at_builtin; refine wpList_append_own _ rfl _ _ 31 rfl w'.heap.size 33 i0 (.agg #[.int .u8 0, .int .i64 0]) 2 16 Tryd.underlying31 hi hz0 hz1 hz2 rfl (by decide) (.slice none 0 0) 0 [] rfl (World.ownsRow_nil _ _ _ _) ⟨g, 0, none⟩ k _ (cellsM (l.take k)) rfl HT1.out HN1.out (cellsM_one _) (by unfold maxLen; omega) (by omega) (Nat.le_refl _) ?_; intro v2 w3 hown3 hg3 hn3; rw [Nat.zero_add, List.nil_append] at hown3; obtain ⟨A2, c2, rfl⟩ := row_form hown3; have hb3 := (Below.refl w'.heap.size w').grown hg3 (Nat.le_refl _) (fun j hj => by simp [Value.ownBlock] at hj); have c3 := (HS.out.below hb3).cell; have f3 := (HS.out.below hb3).free; have HO3 := Lib.hid hown3; have HB3 := Lib.hid hb3; clear hown3 hg3 hn3 hb3)
          | (at_builtin; refine wpList_append_own _ rfl _ _ 31 rfl w'.heap.size 33 i0 (.agg #[.int .u8 0, .int .i64 0]) 2 16 Tryd.underlying31 hi hz0 hz1 hz2 rfl (by decide) _ k (cellsM (l.take k)) rfl HO3.out _ 0 _ [] rfl (by simp) (by intro j u h; simp at h) (by simp) (by unfold maxLen; omega) (by omega) HB3.out.size ?_; intro v4 w5 hown5 hg5 hn5; rw [Nat.add_zero, List.append_nil] at hown5; obtain ⟨A4, c4', rfl⟩ := row_form hown5; have hb5 := HB3.out.grown hg5 HB3.out.size (fun j hj => (HO3.out.lt j hj).1); have c5 := (HS.out.below hb5).cell; have f5 := (HS.out.below hb5).free; have HO5 := Lib.hid hown5; have HB5 := Lib.hid hb5; clear hown5 hg5 hn5 hb5))
        go_ret
        refine ⟨rfl, _, ⟨one_setCell (HS.out.below HB5.out).blk, by rw [HD2.out]; exact HOK.out, ?_⟩, .inr (fun x hx => ?_), ?_⟩
        · rw [HD2.out, HN3.out]
          have h := row_base (row_chg HO5.out (Chg.set w5 ⟨b, 0, none⟩ (.slice A4 k c4')) (fun x hx e => by have := (HO5.out.lt x hx).1; simp only at e; omega))
          rw [← HN4.out]
          exact h
        · exact (HO5.out.lt x hx).1
        · exact (Chg.of_below HB5.out).trans (Chg.set w5 ⟨b, 0, none⟩ _) (fun x _ h => .inl h)
      · have hck2 : k + 1 < c := by omega
        go_wp2_with (first
          | (at_builtin; refine wpList_append_own _ rfl _ _ 31 rfl w'.heap.size 33 i0 (.agg #[.int .u8 0, .int .i64 0]) 2 16 Tryd.underlying31 hi hz0 hz1 hz2 rfl (by decide) (.slice none 0 0) 0 [] rfl (World.ownsRow_nil _ _ _ _) ⟨g, 0, none⟩ k _ (cellsM (l.take k)) rfl HT1.out HN1.out (cellsM_one _) (by unfold maxLen; omega) (by omega) (Nat.le_refl _) ?_; intro v2 w3 hown3 hg3 hn3; rw [Nat.zero_add, List.nil_append] at hown3; obtain ⟨A2, c2, rfl⟩ := row_form hown3; have hb3 := (Below.refl w'.heap.size w').grown hg3 (Nat.le_refl _) (fun j hj => by simp [Value.ownBlock] at hj); have c3 := (HS.out.below hb3).cell; have f3 := (HS.out.below hb3).free; have HO3 := Lib.hid hown3; have HB3 := Lib.hid hb3; clear hown3 hg3 hn3 hb3)
          | (at_builtin; refine wpList_append_own _ rfl _ _ 31 rfl w'.heap.size 33 i0 (.agg #[.int .u8 0, .int .i64 0]) 2 16 Tryd.underlying31 hi hz0 hz1 hz2 rfl (by decide) _ k (cellsM (l.take k)) rfl HO3.out _ (l.length - (k + 1)) _ (cellsM (l.drop (k + 1))) rfl HT2.out (fun j u h => (HB3.out.cell (by rw [add_block]; exact hglt)).trans (HN2.out j u h)) (cellsM_one _) (by unfold maxLen; omega) (by omega) HB3.out.size ?_; intro v4 w5 hown5 hg5 hn5; obtain ⟨A4, c4', rfl⟩ := row_form hown5; have hb5 := HB3.out.grown hg5 HB3.out.size (fun j hj => (HO3.out.lt j hj).1); have c5 := (HS.out.below hb5).cell; have f5 := (HS.out.below hb5).free; have HO5 := Lib.hid hown5; have HB5 := Lib.hid hb5; clear hown5 hg5 hn5 hb5))
        go_ret
        refine ⟨rfl, _, ⟨one_setCell (HS.out.below HB5.out).blk, by rw [HD2.out]; exact HOK.out, ?_⟩, .inr (fun x hx => ?_), ?_⟩
        · rw [HD2.out]
          have h := row_base (row_chg HO5.out (Chg.set w5 ⟨b, 0, none⟩ (.slice A4 (k + (l.length - (k + 1))) c4')) (fun x hx e => by have := (HO5.out.lt x hx).1; simp only at e; omega))
          have e1 : k + (l.length - (k + 1)) = (l.take k ++ l.drop (k + 1)).length := by simp; omega
          have e2 : cellsM (l.take k) ++ cellsM (l.drop (k + 1)) = cellsM (l.take k ++ l.drop (k + 1)) := by simp [cellsM]
          rw [e2] at h
          simpa [e1] using h
        · exact (HO5.out.lt x hx).1
        · exact (Chg.of_below HB5.out).trans (Chg.set w5 ⟨b, 0, none⟩ _) (fun x _ h => .inl h)
    · have HK : Hid (getE l n = (0, 7)) := by
        show _ = _
        unfold getE; rw [if_pos HG.out, get_none hno]
      have HD2 : Hid (dropL l n = l) := by show _ = _; rw [HDl.out]; exact del_none l n hno
      obtain rfl : p = 7 := by rw [← HP.out, HK.out]
      clear hno
      go_wp2
      go_ret
      exact ⟨rfl, _, by rw [HD2.out]; exact HS.out, .inl rfl, Chg.refl _ _⟩
  · have hg' : good n = false := by simpa using hg
    have HG := Lib.hid hg'
    have HK : Hid (getE l n = (0, 13)) := by show _ = _; unfold getE; rw [if_neg hg]
    have HD2 : Hid (dropL l n = l) := by show _ = _; unfold dropL; rw [if_neg hg]
    obtain rfl : p = 13 := by rw [← HP.out, HK.out]
    clear hg hg'
    rw [HD2.out]
    go_enter Tryd.func45, Tryd.ntmps45
    go_wp2_with (go_at_call 14; refine (GoodR_any _ _).mono ?_; rintro e w' ⟨rfl, rfl⟩; rw [HG.out])
    go_ret
    exact ⟨rfl, _, HS.out, .inl rfl, Chg.refl _ _⟩
end Go.Proofs.YtdkdnkmfjpdcpaaDoor.Mk
