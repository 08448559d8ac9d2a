/-
  The law MarksFresh, walked. No condition but what every argument bears.
-/
import Derived.Test.YtdkdnkmfjpdcpaaDoorMkFreshA
import Derived.Test.YtdkdnkmfjpdcpaaDoorMkOpenM
namespace Go.Proofs.YtdkdnkmfjpdcpaaDoor.Mk
open Go.RowKit Go.Maps Go.Proofs.YtdkdnkmfjpdcpaaDoor.Reg Go.Proofs.YtdkdnkmfjpdcpaaDoor.Row Go.ChangeShapes Go.WideShapes Go.ChangeAt Go.Deep
set_option linter.unusedVariables false
set_option linter.unusedSimpArgs false

/-- What the walk holds when the moves are done: two sets and the document's set with the same marks, my copies of the arguments. -/
def Fr (N g capO : Nat) (ms : ML) (AM : Option Addr) (cM : Nat) (ds : List Dl) (bs bt cR : Nat) (l : ML) (w : World) : Prop :=
  ∃ ros rot v, IsSet w bs ros l ∧ IsSet w bt rot l ∧ IsRef w cR v l ∧ (∀ k, foot bs ros k → N ≤ k) ∧ (∀ k, foot bt rot k → N ≤ k) ∧ (∀ k, footR cR v k → N ≤ k) ∧ (∀ k, foot bs ros k → ¬ foot bt rot k) ∧
    w.ownsRow 0 33 2 (.slice (some ⟨g, 0, none⟩) (ms.length + 1) capO) (ms.length + 1) (cellsM (ms ++ [(113, 77)])) ∧ g < N ∧ w.ownsRow N 29 3 (.slice AM ds.length cM) ds.length (cellsD ds)
theorem row_lower {w : World} {base base' e size n : Nat} {v : Value} {xs : List Value} (h : w.ownsRow base e size v n xs) (hb : base' ≤ base) : w.ownsRow base' e size v n xs := by
  refine ⟨h.1, ?_⟩
  rcases h.2 with h0 | ⟨g, cap, cur, rfl, hg, hr⟩
  · exact .inl h0
  · exact .inr ⟨g, cap, cur, rfl, Nat.le_trans hb hg, hr⟩
theorem Fr.below {N g capO : Nat} {ms : ML} {AM : Option Addr} {cM : Nat} {ds : List Dl} {bs bt cR : Nat} {l : ML} {w w' : World} (h : Fr N g capO ms AM cM ds bs bt cR l w) (hb : Below w.heap.size w w') : Fr N g capO ms AM cM ds bs bt cR l w' := by
  obtain ⟨ros, rot, v, h1, h2, h3, h4, h5, h6, h7, h8, h9, h10⟩ := h
  exact ⟨ros, rot, v, h1.below hb, h2.below hb, h3.below hb, h4, h5, h6, h7, row_chg h8 (Chg.of_below (S := fun _ => False) hb) (fun _ _ f => f), h9, row_chg h10 (Chg.of_below (S := fun _ => False) hb) (fun _ _ f => f)⟩
theorem neq_delta (p : Int) (o q : ByteArray) (w : World) : (binOp .neq 29 (.agg #[.int .i64 p, .string o, .string q]) (.agg #[.int .i64 p, .string o, .string q])).run Tryd.prog w = .ok (.bool false) w := by
  have h : ∀ d, (Op.equalIn (d + 2) 29 (.agg #[.int .i64 p, .string o, .string q]) (.agg #[.int .i64 p, .string o, .string q])).run Tryd.prog w = .ok true w := by
    intro d
    go_simp
  rw [run_neq_struct, h]; rfl
theorem sepDR {w : World} {b base n : Nat} {v : Value} {l : ML} {u : Value} {xs : List Value} (h : w.ownsRow base 29 3 u n xs) (k : IsRef w b v l) : ∀ x, u.ownBlock = some x → ¬ footR b v x := by
  intro x hx hf
  obtain ⟨cur, hc⟩ : ∃ cur, w.heap[x]? = some (.cells cur 29 (0, 0)) := by
    rcases h.2 with ⟨rfl, _⟩ | ⟨g', cap, cur, rfl, _, hh, _⟩
    · simp [Value.ownBlock] at hx
    · obtain rfl : g' = x := by simpa [Value.ownBlock] using hx
      exact ⟨cur, hh⟩
  rcases hf with rfl | hf
  · have h1 := k.blk; rw [hc] at h1
    injection h1 with h1; injection h1 with _ h2; exact absurd h2 (by decide)
  · rcases k.row.2 with ⟨rfl, _⟩ | ⟨g', cap, cur', rfl, _, hh, _⟩
    · simp [Value.ownBlock] at hf
    · obtain rfl : g' = x := by simpa [Value.ownBlock] using hf
      rw [hc] at hh
      injection hh with h1; injection h1 with _ h2; exact absurd h2 (by decide)
theorem far_of {w : World} {A : Option Addr} {ms : ML} (h : MksAt w A ms) {g : Nat} (hg : w.heap.size ≤ g) {w2 : World} : ms = [] ∨ ∀ ad, A = some ad → ad.block < w2.heap.size → ¬ (fun x => x = g) ad.block := by
  rcases h with h | ⟨ad, rfl, hl, -⟩
  · exact .inl h
  · exact .inr fun a e _ hk => by cases e; have hk' : ad.block = g := hk; omega
theorem mks_front {w : World} {base g cap : Nat} {ms t : ML} (h : w.ownsRow base 33 2 (.slice (some ⟨g, 0, none⟩) (ms ++ t).length cap) (ms ++ t).length (cellsM (ms ++ t))) (ht : 0 < t.length) : MksAt w (some ⟨g, 0, none⟩) ms := by
  obtain ⟨g', cap', he, -, hlt⟩ := h.form (by simp; omega)
  obtain ⟨rfl, rfl⟩ : g = g' ∧ cap = cap' := by simpa using he
  refine .inr ⟨_, rfl, hlt, fun i hi => ?_⟩
  have hi2 : i < (ms ++ t).length := by simp; omega
  obtain ⟨e1, e2⟩ := cellsM_get (ms ++ t) i hi2
  have hg : (ms ++ t)[i] = ms[i] := List.getElem_append_left hi
  rw [hg] at e1 e2
  have ea : (⟨g, 0, none⟩ : Addr).add (i * 2) = ⟨g, i * 2, none⟩ := by unfold Addr.add; split <;> simp_all
  rw [ea]
  exact ⟨(h.cellAt (i * 2) (by omega)).trans e1, (h.cellAt (i * 2 + 1) (by omega)).trans e2⟩
theorem IsSet.flt {w : World} {b : Nat} {ro : Option Nat} {l : ML} (h : IsSet w b ro l) : ∀ k, foot b ro k → k < w.heap.size := by
  rintro k (rfl | hk)
  · exact h.lt
  · subst hk
    obtain ⟨es, clock, hb, -⟩ : MapOf w k l := h.map
    exact (Array.getElem?_eq_some_iff.1 hb).1
theorem sepD {w : World} {b base n : Nat} {ro : Option Nat} {l : ML} {u : Value} {xs : List Value} (h : w.ownsRow base 29 3 u n xs) (k : IsSet w b ro l) : ∀ x, u.ownBlock = some x → ¬ foot b ro x := by
  intro x hx hf
  obtain ⟨cur, hc⟩ : ∃ cur, w.heap[x]? = some (.cells cur 29 (0, 0)) := by
    rcases h.2 with ⟨rfl, _⟩ | ⟨g', cap, cur, rfl, _, hh, _⟩
    · simp [Value.ownBlock] at hx
    · obtain rfl : g' = x := by simpa [Value.ownBlock] using hx
      exact ⟨cur, hh⟩
  rcases hf with rfl | hf
  · have h1 := k.blk; rw [hc] at h1
    injection h1 with h1; injection h1 with _ h2; exact absurd h2 (by decide)
  · obtain ⟨es, clock, hb, _⟩ : MapOf w x l := by subst hf; exact k.map
    rw [hb] at hc; cases hc

set_option maxRecDepth 100000 in
set_option maxHeartbeats 2000000 in
theorem fresh_walk (A : Option Addr) (ms : ML) (c : Nat) (D : Option Addr) (ds : List Dl) (e : Nat) (w : World) (hm : MksAt w A ms) (hf : Fits ms) (hml : ms.length * 16 ≤ 140737488351232) (hA : A = none → c = 0)
    (hd : DlsAt w D ds) (hdl : ds.length * 40 ≤ 140737488351232) (hD : D = none → e = 0) (hok : ∀ x ∈ ds, DlOk x) :
    Calls Tryd.prog 5 #[.slice A ms.length c, .slice D ds.length e] w fun e w' => e = .returned (.bool true) ∧ Below w.heap.size w w' := by
  have HM := Lib.hid hm
  have HF := Lib.hid hf
  have HD := Lib.hid hd
  have HOK := Lib.hid hok
  have HAn := Lib.hid hA
  have HDn := Lib.hid hD
  clear hm hf hd hok hA hD
  go_enter Tryd.func5, Tryd.ntmps5
  go_wp2_with fail
  refine (lays_true _).mono ?_
  rintro e1 w1 ⟨rfl, hb1⟩
  have HB1 := Lib.hid hb1
  have hw1 : w.heap.size ≤ w1.heap.size := hb1.size
  clear hb1
  go_wp2_with (first
    | (at_builtin; refine wpList_app_marks rfl _ _ rfl w1.heap.size _ A ms c rfl (row_empty w1 33 2) rfl HAn.out ((HM.out.below HB1.out).below ((Below.refl _ _).alloc (Nat.le_refl _) _)) (by omega) (by simp) ?_; intro v2 w3 hown3 hg3; change World.grownBy _ _ (some w1.heap.size) at hg3; have hb3 := ((Below.refl w1.heap.size w1).alloc (Nat.le_refl _) (.cells #[] 33)).grown hg3 (by simp) (fun j hj => by cases hj; exact Nat.le_refl _); have HO3 := Lib.hid hown3; have HB3 := Lib.hid hb3; clear hown3 hg3 hb3)
    | (at_builtin; refine wpList_app_long rfl _ _ rfl w1.heap.size v2 ms 113 77 _ rfl HO3.out _ (by simp) rfl (by omega) HB3.out.size ?_; intro v4 w5 hown5 hg5; change World.grownBy _ _ (Value.ownBlock v2) at hg5; have hb5 := (HB3.out.alloc HB3.out.size _).grown hg5 (by have := HB3.out.size; simp; omega) (fun j hj => (HO3.out.lt j hj).1); have HO5 := Lib.hid hown5; have HB5 := Lib.hid hb5; clear hown5 hg5 hb5))
  have hlo : (ms ++ [((113 : Int), (77 : Int))]).length = ms.length + 1 := by simp
  obtain ⟨g, capO, he, hgb, hgl5⟩ := HO5.out.form (by rw [hlo]; omega)
  subst he
  have HMo5 : Hid (MksAt w5 (some ⟨g, 0, none⟩) ms) := mks_front HO5.out (by simp)
  have hown5 := HO5.out
  rw [hlo] at hown5
  have HOwn5 := Lib.hid hown5
  have hcap : ms.length + 1 ≤ capO := by
    rcases hown5.2 with ⟨h, -⟩ | ⟨g', cap', cur, h, -, -, hc, -⟩
    · simp at h
    · have : capO = cap' := by simpa using congrArg (fun v => match v with | Value.slice _ _ c => c | _ => 0) h
      omega
  have hw5 : w.heap.size ≤ w5.heap.size := Nat.le_trans hw1 HB5.out.size
  have HBW5 : Hid (Below w.heap.size w w5) := HB1.out.trans (HB5.out.mono hw1)
  clear hown5 HO5
  go_wp2_with fail
  refine (Rt.new A ms c w5 (HM.out.below HBW5.out) HF.out (by omega)).mono ?_
  rintro e6 w6 ⟨cR, rfl, hr6⟩
  have HR6 := Lib.hid hr6
  have hb56 : Below w5.heap.size w5 w6 := hr6.since
  have HMo6 := Lib.hid (HMo5.out.below hb56)
  have HB56 := Lib.hid hb56
  clear hr6 hb56
  go_wp2_with fail
  refine (St.new (some ⟨g, 0, none⟩) ms capO w6 HMo6.out HF.out (by omega)).mono ?_
  rintro e7 w7 ⟨bs, rfl, hs7⟩
  have hb67 : Below w6.heap.size w6 w7 := hs7.since
  have HMo7 := Lib.hid (HMo6.out.below hb67)
  have HR7 := Lib.hid (HR6.out.below hb67)
  obtain ⟨ros, s1, s2, s3⟩ := hs7
  have HSs7 := Lib.hid s1
  have HSf : Hid (∀ k, foot bs ros k → w6.heap.size ≤ k ∧ k < w7.heap.size) := fun k hk => ⟨s2 k hk, s1.flt k hk⟩
  clear s1 s2 s3
  have HB57 := Lib.hid (HB56.out.trans (hb67.mono HB56.out.size))
  clear hb67
  go_wp2_with fail
  refine (St.new none [] 0 w7 (.inl rfl) (fun x hx => by cases hx) (by simp)).mono ?_
  rintro e8 w8 ⟨bt, rfl, ht8⟩
  have HT8 := Lib.hid ht8
  clear ht8
  go_wp2_with fail
  refine (HT8.out.load0 (some ⟨g, 0, none⟩) ms capO HMo7.out HF.out (by omega)).mono ?_
  rintro e9 w9 ⟨rfl, ht9, -⟩
  have HT9 := Lib.hid ht9
  have hb79 : Below w7.heap.size w7 w9 := ht9.since
  have HSs9 := Lib.hid (HSs7.out.below hb79)
  have HR9 := Lib.hid (HR7.out.below hb79)
  have HB59 := Lib.hid (HB57.out.trans (hb79.mono HB57.out.size))
  have hs57 : w5.heap.size ≤ w7.heap.size := HB57.out.size
  clear ht9 hb79 HT8 HSs7 HR7 HR6 HMo6 HMo7
  generalize loadL ms = l at *
  go_wp2_with (at_builtin; refine wpList_app_deltas rfl _ _ rfl w5.heap.size (.slice (some ⟨w9.heap.size, 0, none⟩) 0 0) D ds e rfl (row_lower (row_empty w9 29 3) HB59.out.size) rfl HDn.out ((HD.out.below (HBW5.out.trans (HB59.out.mono hw5))).below ((Below.refl _ _).alloc (Nat.le_refl _) _)) (by omega) (by have := HB59.out.size; simp; omega) ?_; intro v10 w11 hown11 hg11; change World.grownBy _ _ (some w9.heap.size) at hg11; have hb11 := ((Below.refl w9.heap.size w9).alloc (Nat.le_refl _) (.cells #[] 29)).grown hg11 (by simp) (fun j hj => by cases hj; exact Nat.le_refl _); obtain ⟨AM, cM, rfl⟩ := row_form hown11; have HMov := Lib.hid hown11; have HB11 := Lib.hid hb11; clear hown11 hg11 hb11)
  have HSs11 := Lib.hid (HSs9.out.below HB11.out)
  have HT11 := Lib.hid (HT9.out.below HB11.out)
  have HR11 := Lib.hid (HR9.out.below HB11.out)
  have HB5x := Lib.hid (HB59.out.trans (HB11.out.mono HB59.out.size))
  clear HB11 HSs9 HT9 HR9
  have HOwn11 := Lib.hid (row_base (row_chg HOwn5.out (Chg.of_below (S := fun _ => False) HB5x.out) (fun _ _ f => f)))
  have hg5 : g < w5.heap.size := hgl5
  have hgw : w.heap.size ≤ g := Nat.le_trans hw1 hgb
  clear HOwn5 HO3 HB3 HB5
  -- what the tail asks, in a world in which nothing has been moved, or all has
  have hstart : Hid (Fr w5.heap.size g capO ms AM cM ds bs bt cR l w11) := by
    obtain ⟨rot, t1, t2, -⟩ := HT11.out
    obtain ⟨v, r1, r2, -⟩ := HR11.out
    exact ⟨ros, rot, v, HSs11.out, t1, r1, fun k hk => Nat.le_trans HB56.out.size (HSf.out k hk).1, fun k hk => Nat.le_trans hs57 (t2 k hk), r2, fun k h1 h2 => by have := (HSf.out k h1).2; have := t2 k h2; omega, HOwn11.out, hg5, HMov.out⟩
  go_wp2_with fail
  refine (far_any 0 D ds e w11 (by omega) (HD.out.below (HBW5.out.trans (HB5x.out.mono hw5)))).mono ?_
  rintro e12 w12 ⟨rfl, hb12⟩
  have HB12 := Lib.hid hb12
  clear hb12
  have HBW12 : Hid (Below w.heap.size w w12) := HBW5.out.trans ((HB5x.out.trans (HB12.out.mono HB5x.out.size)).mono hw5)
  have HB512 := Lib.hid (HB5x.out.trans (HB12.out.mono HB5x.out.size))
  have HFr12 := Lib.hid (hstart.out.below HB12.out)
  clear HSs11 HT11 HR11 HOwn11 HMov hstart HB12
  cases hfar : farF 0 ds with
  | true =>
    clear hfar
    generalize hW : w12 = W2 at *
    clear hW
    have HFr := HFr12
    have HBW := HBW12
    clear HFr12 HBW12
    generalize w5.heap.size = N at *
    obtain ⟨ros, rot, v, hs, ht, hr, hfs, hft, hfr, -, hown, hgN, hmov⟩ := HFr.out
    have HSs := Lib.hid hs
    have HTt := Lib.hid ht
    have HRr := Lib.hid hr
    have HFs := Lib.hid hfs
    have HFt := Lib.hid hft
    have HFr2 := Lib.hid hfr
    have HOwn := Lib.hid hown
    have HMov := Lib.hid hmov
    have hl59 := hs.ok.length
    clear hs ht hr hfs hft hfr hown hmov HFr
    go_wp2
    go_loopw [60] (fun i wr => ∃ k : Nat, k ≤ ms.length ∧ i = .int .i64 k ∧ wr.ownsRow 0 33 2 (.slice (some ⟨g, 0, none⟩) (ms.length + 1) capO) (ms.length + 1) (cellsM (List.replicate k (121, 5) ++ (ms.drop k ++ [(113, 77)]))) ∧ Chg (fun x => x = g) W2 wr) (fun i _ => ms.length - (intOf i).toNat)
    case atStart => exact ⟨0, Nat.zero_le _, rfl, HOwn.out, Chg.refl _ _⟩
    case round =>
      obtain ⟨k, hk, rfl, hown, hch⟩ := hrel
      by_cases hlt : k < ms.length
      · obtain h | ⟨ad, rfl, hA, hc⟩ := (HM.out.below HBW.out).kept hch (far_of HM.out hgw)
        · subst h; simp at hlt
        obtain ⟨d0, d1⟩ := hc k hlt
        have hsp : ms.drop k = ms[k] :: ms.drop (k + 1) := List.drop_eq_getElem_cons hlt
        have hLk : (List.replicate k ((121 : Int), (5 : Int)) ++ (ms.drop k ++ [(113, 77)]))[k]? = some ms[k] := by
          rw [List.getElem?_append_right (by simp), List.length_replicate, Nat.sub_self, hsp]; rfl
        have hlL : (List.replicate k ((121 : Int), (5 : Int)) ++ (ms.drop k ++ [(113, 77)])).length = ms.length + 1 := by simp; omega
        obtain ⟨e1, e2⟩ := cellsM_get _ k (by rw [hlL]; omega)
        have hel : (List.replicate k ((121 : Int), (5 : Int)) ++ (ms.drop k ++ [(113, 77)]))[k]'(by rw [hlL]; omega) = ms[k] := by
          have := List.getElem?_eq_some_iff.1 hLk
          exact this.2
        rw [hel] at e1 e2
        have g1 : wr.cell? ⟨g, k * 2, none⟩ = some (.int .u8 ms[k].1) := (hown.cellAt (k * 2) (by omega)).trans e1
        have g2 : wr.cell? ⟨g, k * 2 + 1, none⟩ = some (.int .i64 ms[k].2) := (hown.cellAt (k * 2 + 1) (by omega)).trans e2
        have f1 : wr.frozen? ⟨g, k * 2, none⟩ = false := hown.frozenAt _
        have f2 : wr.frozen? ⟨g, k * 2 + 1, none⟩ = false := hown.frozenAt _
        have hgl : g < wr.heap.size := World.block_lt_of_cell? wr _ g1
        have HT : Hid (List.replicate k ((121 : Int), (5 : Int)) ++ (ms.drop k ++ [(113, 77)]) = List.replicate k (121, 5) ++ ms[k] :: (ms.drop (k + 1) ++ [(113, 77)])) := by
          show _ = _; rw [hsp]; rfl
        have hi0 : (0 : Int) ≤ (k : Int) := by omega
        have hi1 : (k : Int) < (ms.length : Int) := by omega
        have hi2 : (k : Int) < (ms.length : Int) + 1 := by omega
        have HO := Lib.hid hown
        have HC := Lib.hid hch
        clear hown hch hc e1 e2 hel hLk hlL hsp
        generalize ms[k] = y at *
        obtain ⟨y1, y2⟩ := y
        have hneq : ∀ w, (binOp .neq 33 (.agg #[.int .u8 y1, .int .i64 y2]) (.agg #[.int .u8 y1, .int .i64 y2])).run Tryd.prog w = .ok (.bool false) w := fun w => by rw [neq_mark]; simp
        go_wp2
        go_quiet (fail)
        go_wp2
        go_roundw
        case rel =>
          refine ⟨k + 1, by omega, by go_num, ?_, ?_⟩
          · have h := ((((HO.out.alloc (.cells #[.int .u8 y1, .int .i64 y2] 33)) : ((wr.alloc (.cells #[.int .u8 y1, .int .i64 y2] 33)).drewN nq).ownsRow _ _ _ _ _ _).stored (k * 2) (.int .u8 121)).1.stored (k * 2 + 1) (.int .i64 5)).1
            have e3 : ((cellsM (List.replicate k ((121 : Int), (5 : Int)) ++ (ms.drop k ++ [(113, 77)]))).set (k * 2) (.int .u8 121)).set (k * 2 + 1) (.int .i64 5) = cellsM (List.replicate (k + 1) (121, 5) ++ (ms.drop (k + 1) ++ [(113, 77)])) := by
              rw [HT.out]
              have a1 := cellsM_setN (List.replicate k (121, 5)) (ms.drop (k + 1) ++ [(113, 77)]) (y1, y2) 121
              rw [List.length_replicate] at a1
              rw [a1]
              have a2 := cellsM_set (List.replicate k (121, 5)) (ms.drop (k + 1) ++ [(113, 77)]) (121, y2) 5
              rw [List.length_replicate] at a2
              rw [a2, List.replicate_succ', List.append_assoc]
              rfl
            rw [e3] at h
            exact h
          · exact (((HC.out.trans (Chg.alloc (S := fun _ => False) wr _) (fun _ _ f => f.elim)) |> fun h => chg_drewN h nq).trans (Chg.set _ ⟨g, k * 2, none⟩ _) (fun x _ h => h)).trans (Chg.set _ ⟨g, k * 2 + 1, none⟩ _) (fun x _ h => h)
        case measure => simp [intOf]; omega
      · have hkn : k = ms.length := by omega
        subst hkn
        rw [List.drop_length, List.nil_append] at hown
        have HO := Lib.hid hown
        have HC := Lib.hid hch
        have HSs1 := Lib.hid (HSs.out.kept hch (fun x hx e => by have := HFs.out x hx; omega))
        have HTt1 := Lib.hid (HTt.out.kept hch (fun x hx e => by have := HFt.out x hx; omega))
        have HRr1 := Lib.hid (HRr.out.kept hch (fun x hx e => by have := HFr2.out x hx; omega))
        have HMov1 := Lib.hid (row_chg HMov.out hch (fun x hx e => by have := (HMov.out.lt x hx).1; omega))
        clear hown hch HOwn HSs HTt HRr HMov
        go_wp2
        go_loopw [78] (fun i w2 => ∃ k : Nat, k ≤ ds.length ∧ i = .int .i64 k ∧ w2.ownsRow N 29 3 (.slice AM ds.length cM) ds.length (cellsD ((ds.take k).map (fun d => ⟨9, d.out, d.inn⟩) ++ ds.drop k)) ∧ Chg (fun x => Value.ownBlock (.slice AM ds.length cM) = some x) wr w2) (fun i _ => ds.length - (intOf i).toNat)
        case atStart => exact ⟨0, Nat.zero_le _, rfl, HMov1.out, Chg.refl _ _⟩
        case round =>
          obtain ⟨k, hk, rfl, hmv, hch⟩ := hrel
          by_cases hlt : k < ds.length
          · obtain ⟨gm, cap, he, hgm, hgml⟩ := hmv.form (by omega)
            obtain ⟨rfl, rfl⟩ : AM = some ⟨gm, 0, none⟩ ∧ cM = cap := by simpa using he
            obtain h | ⟨dd, rfl, hdl2, hdc⟩ := ((HD.out.below HBW.out).kept HC.out (dls_far HD.out (F := fun x => x = g) (fun x hx => by rw [hx]; exact hgw))).kept hch (dls_far HD.out (F := fun x => Value.ownBlock (.slice (some ⟨gm, 0, none⟩) ds.length cM) = some x) (fun x hx => by have h : gm = x := (by simpa [Value.ownBlock] using hx); omega))
            · subst h; simp at hlt
            obtain ⟨b0, b1, b2⟩ := hdc k hlt
            have hsp : ds.drop k = ds[k] :: ds.drop (k + 1) := List.drop_eq_getElem_cons hlt
            have hlk : ((ds.take k).map (fun d => (⟨9, d.out, d.inn⟩ : Dl))).length = k := by simp; omega
            have hLk : ((ds.take k).map (fun d => (⟨9, d.out, d.inn⟩ : Dl)) ++ ds.drop k)[k]? = some ds[k] := by
              rw [hsp, List.getElem?_append_right (by omega), hlk]; simp
            have hlL : ((ds.take k).map (fun d => (⟨9, d.out, d.inn⟩ : Dl)) ++ ds.drop k).length = ds.length := by rw [List.length_append, hlk, List.length_drop]; omega
            obtain ⟨e1, e2, e3⟩ := cellsD_get _ k (by rw [hlL]; omega)
            have hel : ((ds.take k).map (fun d => (⟨9, d.out, d.inn⟩ : Dl)) ++ ds.drop k)[k]'(by rw [hlL]; omega) = ds[k] := (List.getElem?_eq_some_iff.1 hLk).2
            rw [hel] at e1 e2 e3
            have g1 : wr.cell? ⟨gm, k * 3, none⟩ = some (.int .i64 ds[k].pos) := (hmv.cellAt (k * 3) (by omega)).trans e1
            have g2 : wr.cell? ⟨gm, k * 3 + 1, none⟩ = some (.string ds[k].out) := (hmv.cellAt (k * 3 + 1) (by omega)).trans e2
            have g3 : wr.cell? ⟨gm, k * 3 + 2, none⟩ = some (.string ds[k].inn) := (hmv.cellAt (k * 3 + 2) (by omega)).trans e3
            have f1 : wr.frozen? ⟨gm, k * 3, none⟩ = false := hmv.frozenAt _
            have HT : Hid ((ds.take k).map (fun d => (⟨9, d.out, d.inn⟩ : Dl)) ++ ds.drop k = (ds.take k).map (fun d => (⟨9, d.out, d.inn⟩ : Dl)) ++ ds[k] :: ds.drop (k + 1)) := by
              show _ = _; rw [hsp]
            have HT2 : Hid ((ds.take (k + 1)).map (fun d => (⟨9, d.out, d.inn⟩ : Dl)) = (ds.take k).map (fun d => (⟨9, d.out, d.inn⟩ : Dl)) ++ [⟨9, ds[k].out, ds[k].inn⟩]) := by
              show _ = _; rw [List.take_succ_eq_append_getElem hlt, List.map_append]; rfl
            have hi0 : (0 : Int) ≤ (k : Int) := by omega
            have hi1 : (k : Int) < (ds.length : Int) := by omega
            have HMv2 := Lib.hid hmv
            have HC2 := Lib.hid hch
            have HLk := Lib.hid hlk
            clear hmv hch hdc e1 e2 e3 hel hLk hlL hsp he hlk
            generalize ds[k] = y at *
            obtain ⟨y1, y2, y3⟩ := y
            have hneq := neq_delta y1 y2 y3
            go_wp2
            go_quiet (fail)
            go_wp2
            go_roundw
            case rel =>
              refine ⟨k + 1, by omega, by go_num, ?_, (chg_drewN HC2.out nq).trans (Chg.set _ ⟨gm, k * 3, none⟩ _) (fun x _ h => by rw [h]; rfl)⟩
              have h := ((HMv2.out : (wr.drewN nq).ownsRow _ _ _ _ _ _).stored (k * 3) (.int .i64 9)).1
              have e4 : (cellsD ((ds.take k).map (fun d => (⟨9, d.out, d.inn⟩ : Dl)) ++ ds.drop k)).set (k * 3) (.int .i64 9) = cellsD ((ds.take (k + 1)).map (fun d => (⟨9, d.out, d.inn⟩ : Dl)) ++ ds.drop (k + 1)) := by
                rw [HT.out, HT2.out]
                have a1 := cellsD_set ((ds.take k).map (fun d => (⟨9, d.out, d.inn⟩ : Dl))) (ds.drop (k + 1)) ⟨y1, y2, y3⟩ 9
                rw [HLk.out] at a1
                rw [a1, List.append_assoc]
                rfl
              rw [e4] at h
              exact h
            case measure => simp [intOf]; omega
          · have HSs2 := Lib.hid (HSs1.out.kept hch (fun x hx hf => sepD HMov1.out HSs1.out x hf hx))
            have HTt2 := Lib.hid (HTt1.out.kept hch (fun x hx hf => sepD HMov1.out HTt1.out x hf hx))
            have HRr2 := Lib.hid (HRr1.out.kept hch (fun x hx hf => sepDR HMov1.out HRr1.out x hf hx))
            have HO2 := Lib.hid (row_chg HO.out hch (fun x hx hf => by
              have h1 : g = x := by simpa [Value.ownBlock] using hx
              have h2 := (HMov1.out.lt x hf).1
              omega))
            have HBq : Hid (Below w.heap.size w wr) := HBW.out.trans ((HC.out.below_le (B := w.heap.size) HBW.out.size (fun x hx => by rw [hx]; exact hgw)).trans (hch.below_le (Nat.le_trans HBW.out.size HC.out.size) (fun x hx => by have := (HMov1.out.lt x hx).1; omega)))
            clear hmv hch HSs1 HTt1 HRr1 HO HMov1 HC
            go_wp2_with fail
            refine (All_any bs ros l wr HSs2.out).mono ?_
            rintro e20 w20 ⟨va, rfl, hra, hba⟩
            obtain ⟨Aa, ca, rfl⟩ := row_form hra
            have HRa := Lib.hid hra
            have HBa := Lib.hid hba
            have HSs3 := Lib.hid (HSs2.out.below hba)
            clear hra hba
            go_wp2_with fail
            refine (All_any bs ros l w20 HSs3.out).mono ?_
            rintro e21 w21 ⟨vb, rfl, hrb, hbb⟩
            obtain ⟨Ab, cb, rfl⟩ := row_form hrb
            have HRb := Lib.hid hrb
            have HBb := Lib.hid hbb
            have HRa2 := Lib.hid (row_chg HRa.out (Chg.of_below (S := fun _ => False) hbb) (fun _ _ f => f))
            have hbq : Below wr.heap.size wr w21 := HBa.out.trans (hbb.mono HBa.out.size)
            have HSs4 := Lib.hid (HSs2.out.below hbq)
            have HTt4 := Lib.hid (HTt2.out.below hbq)
            have HRr4 := Lib.hid (HRr2.out.below hbq)
            have HO4 := Lib.hid (row_chg HO2.out (Chg.of_below (S := fun _ => False) hbq) (fun _ _ f => f))
            have HBq4 := Lib.hid (HBq.out.trans (hbq.mono HBq.out.size))
            have HOl : Hid (∀ x, Value.ownBlock (.slice (some ⟨g, 0, none⟩) (ms.length + 1) capO) = some x → x < wr.heap.size) := fun x hx => (HO2.out.lt x hx).2
            have HSl : Hid (∀ x, foot bs ros x → x < wr.heap.size) := HSs2.out.flt
            have HTl : Hid (∀ x, foot bt rot x → x < wr.heap.size) := HTt2.out.flt
            have HRl : Hid (∀ x, footR cR v x → x < wr.heap.size) := fun x hx => by
              rcases hx with rfl | hx
              · exact HRr2.out.lt
              · exact HRr2.out.rlt x hx
            have HAl : Hid (∀ x, Value.ownBlock (.slice Aa l.length ca) = some x → wr.heap.size ≤ x ∧ x < w20.heap.size) := fun x hx => HRa.out.lt x hx
            have HWl : Hid (w.heap.size ≤ wr.heap.size) := HBq.out.size
            clear hrb hbb hbq HSs2 HTt2 HRr2 HO2 HSs3 HBa HBb HRa HBq
            generalize wr.heap.size = Mq at *
            go_wp2
            go_loopw [101] (fun i w3 => ∃ (k : Nat) (xs : List Value), k ≤ l.length ∧ i = .int .i64 k ∧ w3.ownsRow Mq 33 2 (.slice Aa l.length ca) l.length xs ∧ Chg (fun x => Value.ownBlock (.slice Aa l.length ca) = some x) w21 w3) (fun i _ => l.length - (intOf i).toNat)
            case atStart => exact ⟨0, _, Nat.zero_le _, rfl, HRa2.out, Chg.refl _ _⟩
            case round =>
              obtain ⟨k, xs, hk, rfl, hra, hch⟩ := hrel
              by_cases hlt : k < l.length
              · obtain ⟨ga, cap, he, hga, hgal⟩ := hra.form (by omega)
                obtain ⟨rfl, rfl⟩ : Aa = some ⟨ga, 0, none⟩ ∧ ca = cap := by simpa using he
                have hxl := hra.1
                have g1 : wr.cell? ⟨ga, k * 2, none⟩ = some (xs[k * 2]'(by omega)) := (hra.cellAt (k * 2) (by omega)).trans (by simp)
                have g2 : wr.cell? ⟨ga, k * 2 + 1, none⟩ = some (xs[k * 2 + 1]'(by omega)) := (hra.cellAt (k * 2 + 1) (by omega)).trans (by simp)
                have f1 : wr.frozen? ⟨ga, k * 2, none⟩ = false := hra.frozenAt _
                have f2 : wr.frozen? ⟨ga, k * 2 + 1, none⟩ = false := hra.frozenAt _
                have HRk := Lib.hid hra
                have HCk := Lib.hid hch
                have hi0 : (0 : Int) ≤ (k : Int) := by omega
                have hi1 : (k : Int) < (l.length : Int) := by omega
                generalize xs[k * 2]'(by omega) = q1 at *
                generalize xs[k * 2 + 1]'(by omega) = q2 at *
                clear hra hch he hxl
                go_wp2
                go_roundw
                case rel =>
                  exact ⟨k + 1, _, by omega, by go_num, ((HRk.out.stored (k * 2) (.int .u8 120)).1.stored (k * 2 + 1) (.int .i64 3)).1, (HCk.out.trans (Chg.set _ ⟨ga, k * 2, none⟩ _) (fun x _ h => by rw [h]; rfl)).trans (Chg.set _ ⟨ga, k * 2 + 1, none⟩ _) (fun x _ h => by rw [h]; rfl)⟩
                case measure => simp [intOf]; omega
              · obtain ⟨vz, wz, hz, hcz⟩ := run_app_zeros wr Mq (.slice Aa l.length ca) l.length xs hra hl59 31
                have hcw := hch.trans hcz (fun x _ h => h)
                have HZ := Lib.hid hz
                have HSs5 := Lib.hid (HSs4.out.kept hcw (fun x hx hf => by have := HSl.out x hx; have := (HAl.out x hf).1; omega))
                have HTt5 := Lib.hid (HTt4.out.kept hcw (fun x hx hf => by have := HTl.out x hx; have := (HAl.out x hf).1; omega))
                have HRr5 := Lib.hid (HRr4.out.kept hcw (fun x hx hf => by have := HRl.out x hx; have := (HAl.out x hf).1; omega))
                have hown5 := row_chg HO4.out hcw (fun x hx hf => by have := HOl.out x hx; have := (HAl.out x hf).1; omega)
                have HRb5 := Lib.hid (row_chg HRb.out hcw (fun x hx hf => by have := (HRb.out.lt x hx).1; have := (HAl.out x hf).2; omega))
                have HB5 : Hid (Below w.heap.size w wz) := HBq4.out.trans (hcw.below_le HBq4.out.size (fun x hx => by have := (HAl.out x hx).1; have := HWl.out; omega))
                have hlR : (List.replicate ms.length ((121 : Int), (5 : Int)) ++ [(113, 77)]).length = ms.length + 1 := by simp
                obtain ⟨-, e2⟩ := cellsM_get (List.replicate ms.length ((121 : Int), (5 : Int)) ++ [(113, 77)]) ms.length (by rw [hlR]; omega)
                have hel : (List.replicate ms.length ((121 : Int), (5 : Int)) ++ [(113, 77)])[ms.length]'(by rw [hlR]; omega) = (113, 77) := by
                  rw [List.getElem_append_right (by simp)]; simp
                rw [hel] at e2
                have g77 : wz.cell? ⟨g, ms.length * 2 + 1, none⟩ = some (.int .i64 77) := (hown5.cellAt (ms.length * 2 + 1) (by omega)).trans e2
                have hi0 : (0 : Int) ≤ (ms.length : Int) := by omega
                have hi1 : (ms.length : Int) < (ms.length : Int) + 1 := by omega
                clear hra hch hz hcz hcw HSs4 HTt4 HRr4 HO4 HRb hown5 hlR e2 hel HBq4
                go_wp2_with (first
                  | (at_builtin; refine Lib.wpList_append_run _ rfl _ _ _ _ rfl _ _ rfl rfl _ _ HZ.out ?_)
                  | fail)
                refine (AllR_any cR v l wz HRr5.out).mono ?_
                rintro e30 w30 ⟨v30, rfl, hr30, hb30⟩
                obtain ⟨A30, c30, rfl⟩ := row_form hr30
                have HR30 := Lib.hid (MksAt.of_row hr30)
                have HM30 := Lib.hid ((MksAt.of_row HRb5.out).below hb30)
                have HB30 := Lib.hid hb30
                clear hr30 hb30
                go_wp2_with fail
                refine (Same_any Ab A30 l l cb c30 w30 HM30.out HR30.out (by omega) (by omega)).mono ?_
                rintro e31 w31 ⟨rfl, hb31⟩
                rw [decide_eq_true rfl]
                have HB31 := Lib.hid (HB30.out.trans (hb31.mono HB30.out.size))
                clear hb31 HR30 HM30
                go_wp2_with fail
                refine (All_any bs ros l w31 (HSs5.out.below HB31.out)).mono ?_
                rintro e32 w32 ⟨v32, rfl, hr32, hb32⟩
                obtain ⟨A32, c32, rfl⟩ := row_form hr32
                have HR32 := Lib.hid (MksAt.of_row hr32)
                have HB32 := Lib.hid (HB31.out.trans (hb32.mono HB31.out.size))
                clear hr32 hb32
                go_wp2_with fail
                refine (AllR_any cR v l w32 (HRr5.out.below HB32.out)).mono ?_
                rintro e33 w33 ⟨v33, rfl, hr33, hb33⟩
                obtain ⟨A33, c33, rfl⟩ := row_form hr33
                have HR33 := Lib.hid (MksAt.of_row hr33)
                have HM33 := Lib.hid (HR32.out.below hb33)
                have HB33 := Lib.hid (HB32.out.trans (hb33.mono HB32.out.size))
                clear hr33 hb33
                go_wp2_with fail
                refine (Same_any A32 A33 l l c32 c33 w33 HM33.out HR33.out (by omega) (by omega)).mono ?_
                rintro e34 w34 ⟨rfl, hb34⟩
                rw [decide_eq_true rfl]
                have HB34 := Lib.hid (HB33.out.trans (hb34.mono HB33.out.size))
                clear hb34 HR32 HR33 HM33
                go_wp2_with fail
                refine (All_any bt rot l w34 (HTt5.out.below HB34.out)).mono ?_
                rintro e35 w35 ⟨v35, rfl, hr35, hb35⟩
                obtain ⟨A35, c35, rfl⟩ := row_form hr35
                have HR35 := Lib.hid (MksAt.of_row hr35)
                have HB35 := Lib.hid (HB34.out.trans (hb35.mono HB34.out.size))
                clear hr35 hb35
                go_wp2_with fail
                refine (AllR_any cR v l w35 (HRr5.out.below HB35.out)).mono ?_
                rintro e36 w36 ⟨v36, rfl, hr36, hb36⟩
                obtain ⟨A36, c36, rfl⟩ := row_form hr36
                have HR36 := Lib.hid (MksAt.of_row hr36)
                have HM36 := Lib.hid (HR35.out.below hb36)
                have HB36 := Lib.hid (HB35.out.trans (hb36.mono HB35.out.size))
                clear hr36 hb36
                go_wp2_with fail
                refine (Same_any A35 A36 l l c35 c36 w36 HM36.out HR36.out (by omega) (by omega)).mono ?_
                rintro e37 w37 ⟨rfl, hb37⟩
                rw [decide_eq_true rfl]
                have HB37 := Lib.hid (HB5.out.trans ((HB36.out.trans (hb37.mono HB36.out.size)).mono HB5.out.size))
                clear hb37
                go_wp2
                go_ret
                exact ⟨rfl, HB37.out⟩
  | false =>
    have HFar := Lib.hid hfar
    clear hfar
    go_wp2_with fail
    refine (great_any A ms c w12 (HM.out.below HBW12.out) (by omega)).mono ?_
    rintro e13 w13 ⟨⟨bb, rfl⟩, hb13⟩
    have HBW13 := Lib.hid (HBW12.out.trans (hb13.mono HBW12.out.size))
    have HFr13 := Lib.hid (HFr12.out.below hb13)
    have HB513 := Lib.hid (HB512.out.trans (hb13.mono HB512.out.size))
    clear hb13 HFr12 HBW12
    cases bb with
    | true =>
      generalize hW : w13 = W2 at *
      clear hW
      have HFr := HFr13
      have HBW := HBW13
      clear HFr13 HBW13
      generalize w5.heap.size = N at *
      obtain ⟨ros, rot, v, hs, ht, hr, hfs, hft, hfr, -, hown, hgN, hmov⟩ := HFr.out
      have HSs := Lib.hid hs
      have HTt := Lib.hid ht
      have HRr := Lib.hid hr
      have HFs := Lib.hid hfs
      have HFt := Lib.hid hft
      have HFr2 := Lib.hid hfr
      have HOwn := Lib.hid hown
      have HMov := Lib.hid hmov
      have hl59 := hs.ok.length
      clear hs ht hr hfs hft hfr hown hmov HFr
      go_wp2
      go_loopw [60] (fun i wr => ∃ k : Nat, k ≤ ms.length ∧ i = .int .i64 k ∧ wr.ownsRow 0 33 2 (.slice (some ⟨g, 0, none⟩) (ms.length + 1) capO) (ms.length + 1) (cellsM (List.replicate k (121, 5) ++ (ms.drop k ++ [(113, 77)]))) ∧ Chg (fun x => x = g) W2 wr) (fun i _ => ms.length - (intOf i).toNat)
      case atStart => exact ⟨0, Nat.zero_le _, rfl, HOwn.out, Chg.refl _ _⟩
      case round =>
        obtain ⟨k, hk, rfl, hown, hch⟩ := hrel
        by_cases hlt : k < ms.length
        · obtain h | ⟨ad, rfl, hA, hc⟩ := (HM.out.below HBW.out).kept hch (far_of HM.out hgw)
          · subst h; simp at hlt
          obtain ⟨d0, d1⟩ := hc k hlt
          have hsp : ms.drop k = ms[k] :: ms.drop (k + 1) := List.drop_eq_getElem_cons hlt
          have hLk : (List.replicate k ((121 : Int), (5 : Int)) ++ (ms.drop k ++ [(113, 77)]))[k]? = some ms[k] := by
            rw [List.getElem?_append_right (by simp), List.length_replicate, Nat.sub_self, hsp]; rfl
          have hlL : (List.replicate k ((121 : Int), (5 : Int)) ++ (ms.drop k ++ [(113, 77)])).length = ms.length + 1 := by simp; omega
          obtain ⟨e1, e2⟩ := cellsM_get _ k (by rw [hlL]; omega)
          have hel : (List.replicate k ((121 : Int), (5 : Int)) ++ (ms.drop k ++ [(113, 77)]))[k]'(by rw [hlL]; omega) = ms[k] := by
            have := List.getElem?_eq_some_iff.1 hLk
            exact this.2
          rw [hel] at e1 e2
          have g1 : wr.cell? ⟨g, k * 2, none⟩ = some (.int .u8 ms[k].1) := (hown.cellAt (k * 2) (by omega)).trans e1
          have g2 : wr.cell? ⟨g, k * 2 + 1, none⟩ = some (.int .i64 ms[k].2) := (hown.cellAt (k * 2 + 1) (by omega)).trans e2
          have f1 : wr.frozen? ⟨g, k * 2, none⟩ = false := hown.frozenAt _
          have f2 : wr.frozen? ⟨g, k * 2 + 1, none⟩ = false := hown.frozenAt _
          have hgl : g < wr.heap.size := World.block_lt_of_cell? wr _ g1
          have HT : Hid (List.replicate k ((121 : Int), (5 : Int)) ++ (ms.drop k ++ [(113, 77)]) = List.replicate k (121, 5) ++ ms[k] :: (ms.drop (k + 1) ++ [(113, 77)])) := by
            show _ = _; rw [hsp]; rfl
          have hi0 : (0 : Int) ≤ (k : Int) := by omega
          have hi1 : (k : Int) < (ms.length : Int) := by omega
          have hi2 : (k : Int) < (ms.length : Int) + 1 := by omega
          have HO := Lib.hid hown
          have HC := Lib.hid hch
          clear hown hch hc e1 e2 hel hLk hlL hsp
          generalize ms[k] = y at *
          obtain ⟨y1, y2⟩ := y
          have hneq : ∀ w, (binOp .neq 33 (.agg #[.int .u8 y1, .int .i64 y2]) (.agg #[.int .u8 y1, .int .i64 y2])).run Tryd.prog w = .ok (.bool false) w := fun w => by rw [neq_mark]; simp
          go_wp2
          go_quiet (fail)
          go_wp2
          go_roundw
          case rel =>
            refine ⟨k + 1, by omega, by go_num, ?_, ?_⟩
            · have h := ((((HO.out.alloc (.cells #[.int .u8 y1, .int .i64 y2] 33)) : ((wr.alloc (.cells #[.int .u8 y1, .int .i64 y2] 33)).drewN nq).ownsRow _ _ _ _ _ _).stored (k * 2) (.int .u8 121)).1.stored (k * 2 + 1) (.int .i64 5)).1
              have e3 : ((cellsM (List.replicate k ((121 : Int), (5 : Int)) ++ (ms.drop k ++ [(113, 77)]))).set (k * 2) (.int .u8 121)).set (k * 2 + 1) (.int .i64 5) = cellsM (List.replicate (k + 1) (121, 5) ++ (ms.drop (k + 1) ++ [(113, 77)])) := by
                rw [HT.out]
                have a1 := cellsM_setN (List.replicate k (121, 5)) (ms.drop (k + 1) ++ [(113, 77)]) (y1, y2) 121
                rw [List.length_replicate] at a1
                rw [a1]
                have a2 := cellsM_set (List.replicate k (121, 5)) (ms.drop (k + 1) ++ [(113, 77)]) (121, y2) 5
                rw [List.length_replicate] at a2
                rw [a2, List.replicate_succ', List.append_assoc]
                rfl
              rw [e3] at h
              exact h
            · exact (((HC.out.trans (Chg.alloc (S := fun _ => False) wr _) (fun _ _ f => f.elim)) |> fun h => chg_drewN h nq).trans (Chg.set _ ⟨g, k * 2, none⟩ _) (fun x _ h => h)).trans (Chg.set _ ⟨g, k * 2 + 1, none⟩ _) (fun x _ h => h)
          case measure => simp [intOf]; omega
        · have hkn : k = ms.length := by omega
          subst hkn
          rw [List.drop_length, List.nil_append] at hown
          have HO := Lib.hid hown
          have HC := Lib.hid hch
          have HSs1 := Lib.hid (HSs.out.kept hch (fun x hx e => by have := HFs.out x hx; omega))
          have HTt1 := Lib.hid (HTt.out.kept hch (fun x hx e => by have := HFt.out x hx; omega))
          have HRr1 := Lib.hid (HRr.out.kept hch (fun x hx e => by have := HFr2.out x hx; omega))
          have HMov1 := Lib.hid (row_chg HMov.out hch (fun x hx e => by have := (HMov.out.lt x hx).1; omega))
          clear hown hch HOwn HSs HTt HRr HMov
          go_wp2
          go_loopw [78] (fun i w2 => ∃ k : Nat, k ≤ ds.length ∧ i = .int .i64 k ∧ w2.ownsRow N 29 3 (.slice AM ds.length cM) ds.length (cellsD ((ds.take k).map (fun d => ⟨9, d.out, d.inn⟩) ++ ds.drop k)) ∧ Chg (fun x => Value.ownBlock (.slice AM ds.length cM) = some x) wr w2) (fun i _ => ds.length - (intOf i).toNat)
          case atStart => exact ⟨0, Nat.zero_le _, rfl, HMov1.out, Chg.refl _ _⟩
          case round =>
            obtain ⟨k, hk, rfl, hmv, hch⟩ := hrel
            by_cases hlt : k < ds.length
            · obtain ⟨gm, cap, he, hgm, hgml⟩ := hmv.form (by omega)
              obtain ⟨rfl, rfl⟩ : AM = some ⟨gm, 0, none⟩ ∧ cM = cap := by simpa using he
              obtain h | ⟨dd, rfl, hdl2, hdc⟩ := ((HD.out.below HBW.out).kept HC.out (dls_far HD.out (F := fun x => x = g) (fun x hx => by rw [hx]; exact hgw))).kept hch (dls_far HD.out (F := fun x => Value.ownBlock (.slice (some ⟨gm, 0, none⟩) ds.length cM) = some x) (fun x hx => by have h : gm = x := (by simpa [Value.ownBlock] using hx); omega))
              · subst h; simp at hlt
              obtain ⟨b0, b1, b2⟩ := hdc k hlt
              have hsp : ds.drop k = ds[k] :: ds.drop (k + 1) := List.drop_eq_getElem_cons hlt
              have hlk : ((ds.take k).map (fun d => (⟨9, d.out, d.inn⟩ : Dl))).length = k := by simp; omega
              have hLk : ((ds.take k).map (fun d => (⟨9, d.out, d.inn⟩ : Dl)) ++ ds.drop k)[k]? = some ds[k] := by
                rw [hsp, List.getElem?_append_right (by omega), hlk]; simp
              have hlL : ((ds.take k).map (fun d => (⟨9, d.out, d.inn⟩ : Dl)) ++ ds.drop k).length = ds.length := by rw [List.length_append, hlk, List.length_drop]; omega
              obtain ⟨e1, e2, e3⟩ := cellsD_get _ k (by rw [hlL]; omega)
              have hel : ((ds.take k).map (fun d => (⟨9, d.out, d.inn⟩ : Dl)) ++ ds.drop k)[k]'(by rw [hlL]; omega) = ds[k] := (List.getElem?_eq_some_iff.1 hLk).2
              rw [hel] at e1 e2 e3
              have g1 : wr.cell? ⟨gm, k * 3, none⟩ = some (.int .i64 ds[k].pos) := (hmv.cellAt (k * 3) (by omega)).trans e1
              have g2 : wr.cell? ⟨gm, k * 3 + 1, none⟩ = some (.string ds[k].out) := (hmv.cellAt (k * 3 + 1) (by omega)).trans e2
              have g3 : wr.cell? ⟨gm, k * 3 + 2, none⟩ = some (.string ds[k].inn) := (hmv.cellAt (k * 3 + 2) (by omega)).trans e3
              have f1 : wr.frozen? ⟨gm, k * 3, none⟩ = false := hmv.frozenAt _
              have HT : Hid ((ds.take k).map (fun d => (⟨9, d.out, d.inn⟩ : Dl)) ++ ds.drop k = (ds.take k).map (fun d => (⟨9, d.out, d.inn⟩ : Dl)) ++ ds[k] :: ds.drop (k + 1)) := by
                show _ = _; rw [hsp]
              have HT2 : Hid ((ds.take (k + 1)).map (fun d => (⟨9, d.out, d.inn⟩ : Dl)) = (ds.take k).map (fun d => (⟨9, d.out, d.inn⟩ : Dl)) ++ [⟨9, ds[k].out, ds[k].inn⟩]) := by
                show _ = _; rw [List.take_succ_eq_append_getElem hlt, List.map_append]; rfl
              have hi0 : (0 : Int) ≤ (k : Int) := by omega
              have hi1 : (k : Int) < (ds.length : Int) := by omega
              have HMv2 := Lib.hid hmv
              have HC2 := Lib.hid hch
              have HLk := Lib.hid hlk
              clear hmv hch hdc e1 e2 e3 hel hLk hlL hsp he hlk
              generalize ds[k] = y at *
              obtain ⟨y1, y2, y3⟩ := y
              have hneq := neq_delta y1 y2 y3
              go_wp2
              go_quiet (fail)
              go_wp2
              go_roundw
              case rel =>
                refine ⟨k + 1, by omega, by go_num, ?_, (chg_drewN HC2.out nq).trans (Chg.set _ ⟨gm, k * 3, none⟩ _) (fun x _ h => by rw [h]; rfl)⟩
                have h := ((HMv2.out : (wr.drewN nq).ownsRow _ _ _ _ _ _).stored (k * 3) (.int .i64 9)).1
                have e4 : (cellsD ((ds.take k).map (fun d => (⟨9, d.out, d.inn⟩ : Dl)) ++ ds.drop k)).set (k * 3) (.int .i64 9) = cellsD ((ds.take (k + 1)).map (fun d => (⟨9, d.out, d.inn⟩ : Dl)) ++ ds.drop (k + 1)) := by
                  rw [HT.out, HT2.out]
                  have a1 := cellsD_set ((ds.take k).map (fun d => (⟨9, d.out, d.inn⟩ : Dl))) (ds.drop (k + 1)) ⟨y1, y2, y3⟩ 9
                  rw [HLk.out] at a1
                  rw [a1, List.append_assoc]
                  rfl
                rw [e4] at h
                exact h
              case measure => simp [intOf]; omega
            · have HSs2 := Lib.hid (HSs1.out.kept hch (fun x hx hf => sepD HMov1.out HSs1.out x hf hx))
              have HTt2 := Lib.hid (HTt1.out.kept hch (fun x hx hf => sepD HMov1.out HTt1.out x hf hx))
              have HRr2 := Lib.hid (HRr1.out.kept hch (fun x hx hf => sepDR HMov1.out HRr1.out x hf hx))
              have HO2 := Lib.hid (row_chg HO.out hch (fun x hx hf => by
                have h1 : g = x := by simpa [Value.ownBlock] using hx
                have h2 := (HMov1.out.lt x hf).1
                omega))
              have HBq : Hid (Below w.heap.size w wr) := HBW.out.trans ((HC.out.below_le (B := w.heap.size) HBW.out.size (fun x hx => by rw [hx]; exact hgw)).trans (hch.below_le (Nat.le_trans HBW.out.size HC.out.size) (fun x hx => by have := (HMov1.out.lt x hx).1; omega)))
              clear hmv hch HSs1 HTt1 HRr1 HO HMov1 HC
              go_wp2_with fail
              refine (All_any bs ros l wr HSs2.out).mono ?_
              rintro e20 w20 ⟨va, rfl, hra, hba⟩
              obtain ⟨Aa, ca, rfl⟩ := row_form hra
              have HRa := Lib.hid hra
              have HBa := Lib.hid hba
              have HSs3 := Lib.hid (HSs2.out.below hba)
              clear hra hba
              go_wp2_with fail
              refine (All_any bs ros l w20 HSs3.out).mono ?_
              rintro e21 w21 ⟨vb, rfl, hrb, hbb⟩
              obtain ⟨Ab, cb, rfl⟩ := row_form hrb
              have HRb := Lib.hid hrb
              have HBb := Lib.hid hbb
              have HRa2 := Lib.hid (row_chg HRa.out (Chg.of_below (S := fun _ => False) hbb) (fun _ _ f => f))
              have hbq : Below wr.heap.size wr w21 := HBa.out.trans (hbb.mono HBa.out.size)
              have HSs4 := Lib.hid (HSs2.out.below hbq)
              have HTt4 := Lib.hid (HTt2.out.below hbq)
              have HRr4 := Lib.hid (HRr2.out.below hbq)
              have HO4 := Lib.hid (row_chg HO2.out (Chg.of_below (S := fun _ => False) hbq) (fun _ _ f => f))
              have HBq4 := Lib.hid (HBq.out.trans (hbq.mono HBq.out.size))
              have HOl : Hid (∀ x, Value.ownBlock (.slice (some ⟨g, 0, none⟩) (ms.length + 1) capO) = some x → x < wr.heap.size) := fun x hx => (HO2.out.lt x hx).2
              have HSl : Hid (∀ x, foot bs ros x → x < wr.heap.size) := HSs2.out.flt
              have HTl : Hid (∀ x, foot bt rot x → x < wr.heap.size) := HTt2.out.flt
              have HRl : Hid (∀ x, footR cR v x → x < wr.heap.size) := fun x hx => by
                rcases hx with rfl | hx
                · exact HRr2.out.lt
                · exact HRr2.out.rlt x hx
              have HAl : Hid (∀ x, Value.ownBlock (.slice Aa l.length ca) = some x → wr.heap.size ≤ x ∧ x < w20.heap.size) := fun x hx => HRa.out.lt x hx
              have HWl : Hid (w.heap.size ≤ wr.heap.size) := HBq.out.size
              clear hrb hbb hbq HSs2 HTt2 HRr2 HO2 HSs3 HBa HBb HRa HBq
              generalize wr.heap.size = Mq at *
              go_wp2
              go_loopw [101] (fun i w3 => ∃ (k : Nat) (xs : List Value), k ≤ l.length ∧ i = .int .i64 k ∧ w3.ownsRow Mq 33 2 (.slice Aa l.length ca) l.length xs ∧ Chg (fun x => Value.ownBlock (.slice Aa l.length ca) = some x) w21 w3) (fun i _ => l.length - (intOf i).toNat)
              case atStart => exact ⟨0, _, Nat.zero_le _, rfl, HRa2.out, Chg.refl _ _⟩
              case round =>
                obtain ⟨k, xs, hk, rfl, hra, hch⟩ := hrel
                by_cases hlt : k < l.length
                · obtain ⟨ga, cap, he, hga, hgal⟩ := hra.form (by omega)
                  obtain ⟨rfl, rfl⟩ : Aa = some ⟨ga, 0, none⟩ ∧ ca = cap := by simpa using he
                  have hxl := hra.1
                  have g1 : wr.cell? ⟨ga, k * 2, none⟩ = some (xs[k * 2]'(by omega)) := (hra.cellAt (k * 2) (by omega)).trans (by simp)
                  have g2 : wr.cell? ⟨ga, k * 2 + 1, none⟩ = some (xs[k * 2 + 1]'(by omega)) := (hra.cellAt (k * 2 + 1) (by omega)).trans (by simp)
                  have f1 : wr.frozen? ⟨ga, k * 2, none⟩ = false := hra.frozenAt _
                  have f2 : wr.frozen? ⟨ga, k * 2 + 1, none⟩ = false := hra.frozenAt _
                  have HRk := Lib.hid hra
                  have HCk := Lib.hid hch
                  have hi0 : (0 : Int) ≤ (k : Int) := by omega
                  have hi1 : (k : Int) < (l.length : Int) := by omega
                  generalize xs[k * 2]'(by omega) = q1 at *
                  generalize xs[k * 2 + 1]'(by omega) = q2 at *
                  clear hra hch he hxl
                  go_wp2
                  go_roundw
                  case rel =>
                    exact ⟨k + 1, _, by omega, by go_num, ((HRk.out.stored (k * 2) (.int .u8 120)).1.stored (k * 2 + 1) (.int .i64 3)).1, (HCk.out.trans (Chg.set _ ⟨ga, k * 2, none⟩ _) (fun x _ h => by rw [h]; rfl)).trans (Chg.set _ ⟨ga, k * 2 + 1, none⟩ _) (fun x _ h => by rw [h]; rfl)⟩
                  case measure => simp [intOf]; omega
                · obtain ⟨vz, wz, hz, hcz⟩ := run_app_zeros wr Mq (.slice Aa l.length ca) l.length xs hra hl59 31
                  have hcw := hch.trans hcz (fun x _ h => h)
                  have HZ := Lib.hid hz
                  have HSs5 := Lib.hid (HSs4.out.kept hcw (fun x hx hf => by have := HSl.out x hx; have := (HAl.out x hf).1; omega))
                  have HTt5 := Lib.hid (HTt4.out.kept hcw (fun x hx hf => by have := HTl.out x hx; have := (HAl.out x hf).1; omega))
                  have HRr5 := Lib.hid (HRr4.out.kept hcw (fun x hx hf => by have := HRl.out x hx; have := (HAl.out x hf).1; omega))
                  have hown5 := row_chg HO4.out hcw (fun x hx hf => by have := HOl.out x hx; have := (HAl.out x hf).1; omega)
                  have HRb5 := Lib.hid (row_chg HRb.out hcw (fun x hx hf => by have := (HRb.out.lt x hx).1; have := (HAl.out x hf).2; omega))
                  have HB5 : Hid (Below w.heap.size w wz) := HBq4.out.trans (hcw.below_le HBq4.out.size (fun x hx => by have := (HAl.out x hx).1; have := HWl.out; omega))
                  have hlR : (List.replicate ms.length ((121 : Int), (5 : Int)) ++ [(113, 77)]).length = ms.length + 1 := by simp
                  obtain ⟨-, e2⟩ := cellsM_get (List.replicate ms.length ((121 : Int), (5 : Int)) ++ [(113, 77)]) ms.length (by rw [hlR]; omega)
                  have hel : (List.replicate ms.length ((121 : Int), (5 : Int)) ++ [(113, 77)])[ms.length]'(by rw [hlR]; omega) = (113, 77) := by
                    rw [List.getElem_append_right (by simp)]; simp
                  rw [hel] at e2
                  have g77 : wz.cell? ⟨g, ms.length * 2 + 1, none⟩ = some (.int .i64 77) := (hown5.cellAt (ms.length * 2 + 1) (by omega)).trans e2
                  have hi0 : (0 : Int) ≤ (ms.length : Int) := by omega
                  have hi1 : (ms.length : Int) < (ms.length : Int) + 1 := by omega
                  clear hra hch hz hcz hcw HSs4 HTt4 HRr4 HO4 HRb hown5 hlR e2 hel HBq4
                  go_wp2_with (first
                    | (at_builtin; refine Lib.wpList_append_run _ rfl _ _ _ _ rfl _ _ rfl rfl _ _ HZ.out ?_)
                    | fail)
                  refine (AllR_any cR v l wz HRr5.out).mono ?_
                  rintro e30 w30 ⟨v30, rfl, hr30, hb30⟩
                  obtain ⟨A30, c30, rfl⟩ := row_form hr30
                  have HR30 := Lib.hid (MksAt.of_row hr30)
                  have HM30 := Lib.hid ((MksAt.of_row HRb5.out).below hb30)
                  have HB30 := Lib.hid hb30
                  clear hr30 hb30
                  go_wp2_with fail
                  refine (Same_any Ab A30 l l cb c30 w30 HM30.out HR30.out (by omega) (by omega)).mono ?_
                  rintro e31 w31 ⟨rfl, hb31⟩
                  rw [decide_eq_true rfl]
                  have HB31 := Lib.hid (HB30.out.trans (hb31.mono HB30.out.size))
                  clear hb31 HR30 HM30
                  go_wp2_with fail
                  refine (All_any bs ros l w31 (HSs5.out.below HB31.out)).mono ?_
                  rintro e32 w32 ⟨v32, rfl, hr32, hb32⟩
                  obtain ⟨A32, c32, rfl⟩ := row_form hr32
                  have HR32 := Lib.hid (MksAt.of_row hr32)
                  have HB32 := Lib.hid (HB31.out.trans (hb32.mono HB31.out.size))
                  clear hr32 hb32
                  go_wp2_with fail
                  refine (AllR_any cR v l w32 (HRr5.out.below HB32.out)).mono ?_
                  rintro e33 w33 ⟨v33, rfl, hr33, hb33⟩
                  obtain ⟨A33, c33, rfl⟩ := row_form hr33
                  have HR33 := Lib.hid (MksAt.of_row hr33)
                  have HM33 := Lib.hid (HR32.out.below hb33)
                  have HB33 := Lib.hid (HB32.out.trans (hb33.mono HB32.out.size))
                  clear hr33 hb33
                  go_wp2_with fail
                  refine (Same_any A32 A33 l l c32 c33 w33 HM33.out HR33.out (by omega) (by omega)).mono ?_
                  rintro e34 w34 ⟨rfl, hb34⟩
                  rw [decide_eq_true rfl]
                  have HB34 := Lib.hid (HB33.out.trans (hb34.mono HB33.out.size))
                  clear hb34 HR32 HR33 HM33
                  go_wp2_with fail
                  refine (All_any bt rot l w34 (HTt5.out.below HB34.out)).mono ?_
                  rintro e35 w35 ⟨v35, rfl, hr35, hb35⟩
                  obtain ⟨A35, c35, rfl⟩ := row_form hr35
                  have HR35 := Lib.hid (MksAt.of_row hr35)
                  have HB35 := Lib.hid (HB34.out.trans (hb35.mono HB34.out.size))
                  clear hr35 hb35
                  go_wp2_with fail
                  refine (AllR_any cR v l w35 (HRr5.out.below HB35.out)).mono ?_
                  rintro e36 w36 ⟨v36, rfl, hr36, hb36⟩
                  obtain ⟨A36, c36, rfl⟩ := row_form hr36
                  have HR36 := Lib.hid (MksAt.of_row hr36)
                  have HM36 := Lib.hid (HR35.out.below hb36)
                  have HB36 := Lib.hid (HB35.out.trans (hb36.mono HB35.out.size))
                  clear hr36 hb36
                  go_wp2_with fail
                  refine (Same_any A35 A36 l l c35 c36 w36 HM36.out HR36.out (by omega) (by omega)).mono ?_
                  rintro e37 w37 ⟨rfl, hb37⟩
                  rw [decide_eq_true rfl]
                  have HB37 := Lib.hid (HB5.out.trans ((HB36.out.trans (hb37.mono HB36.out.size)).mono HB5.out.size))
                  clear hb37
                  go_wp2
                  go_ret
                  exact ⟨rfl, HB37.out⟩
    | false =>
      obtain ⟨ros, rot, v, h1, h2, h3, h4, h5, h6, h7, h8, h9, h10⟩ := HFr13.out
      have hP : ∀ d ∈ ds, (Lit.int .i64 d.pos).wf = true := fun d hd => (HOK.out d hd).1
      have hmv : ∀ x ∈ l, (Lit.int .i64 (moved x.2 ds)).wf = true := fun x hx => moved_fit ds hP _ (h1.ok.2 x hx).2
      have hA13 := DlsAt.of_row h10
      have HMs := Lib.hid (Move_any bs ros l AM ds cM w13 h1 (by omega) hA13 (.inr fun ad e _ hf => sepD h10 h1 ad.block (by rw [e]; rfl) hf) hmv)
      have H1 := Lib.hid h1
      have H2 := Lib.hid h2
      have H3 := Lib.hid h3
      have H4 := Lib.hid h4
      have H5 := Lib.hid h5
      have H6 := Lib.hid h6
      have H7 := Lib.hid h7
      have H8 := Lib.hid h8
      have H10 := Lib.hid h10
      have HMv := Lib.hid hmv
      clear h1 h2 h3 h4 h5 h6 h7 h8 h10 hA13 hmv hP HFr13
      go_wp2_with fail
      refine HMs.out.mono ?_
      rintro e14 w14 ⟨rfl, hs14, hc14⟩
      have HS14 := Lib.hid hs14
      have HT14 := Lib.hid (H2.out.kept hc14 (fun k hk hk' => H7.out k hk' hk))
      have HK14 := KeepR.of H1.out hc14
      have HR14 := Lib.hid (HK14.ref H3.out)
      have HO14 := Lib.hid (HK14.row H8.out)
      have HD14 := Lib.hid (row_chg H10.out hc14 (fun k hk hf => sepD H10.out H1.out k hk hf))
      have HB514 := Lib.hid (HB513.out.trans (hc14.below_le HB513.out.size H4.out))
      have HMt := Lib.hid (Move_any bt rot l AM ds cM w14 HT14.out (by omega) (DlsAt.of_row HD14.out) (.inr fun ad e _ hf => sepD HD14.out HT14.out ad.block (by rw [e]; rfl) hf) HMv.out)
      clear hs14 hc14 HK14 HMs H1 H2 H3 H8 H10
      go_wp2_with fail
      refine HMt.out.mono ?_
      rintro e15 w15 ⟨rfl, ht15, hc15⟩
      have HT15 := Lib.hid ht15
      have HS15 := Lib.hid (HS14.out.kept hc15 (fun k hk hk' => H7.out k hk hk'))
      have HK15 := KeepR.of HT14.out hc15
      have HR15 := Lib.hid (HK15.ref HR14.out)
      have HO15 := Lib.hid (HK15.row HO14.out)
      have HD15 := Lib.hid (row_chg HD14.out hc15 (fun k hk hf => sepD HD14.out HT14.out k hk hf))
      have HB515 := Lib.hid (HB514.out.trans (hc15.below_le HB514.out.size H5.out))
      have hPR : ∀ d ∈ ds, 0 ≤ d.pos ∧ d.pos ≤ 1099511627776 ∧ DlOk d := fun d hd => ⟨(far_in HFar.out d hd).1, (far_in HFar.out d hd).2, HOK.out d hd⟩
      have heq : ∀ x ∈ l, movedR x.2 ds = moved x.2 ds := fun x hx => movedR_eq ds hPR _ (HR15.out.ok.2 x hx).2
      have hml : moveL (fun x => movedR x ds) l = moveL (fun x => moved x ds) l := List.map_congr_left fun x hx => by show (x.1, movedR x.2 ds) = (x.1, moved x.2 ds); rw [heq x hx]
      have HMr := Lib.hid (MoveR_any cR v l D ds e w15 HR15.out (by omega) (HD.out.below (HBW5.out.trans (HB515.out.mono hw5))) (dls_far HD.out (fun k hk => Nat.le_trans hw5 (H6.out k hk))) (fun x hx => by rw [heq x hx]; exact HMv.out x hx))
      have HMl := Lib.hid hml
      clear ht15 hc15 HK15 HMt HS14 HT14 HR14 HO14 HD14 hPR heq hml
      go_wp2_with fail
      refine HMr.out.mono ?_
      rintro e16 w16 ⟨rfl, hr16, hc16⟩
      rw [HMl.out] at hr16
      have HK16 := KeepS.of HR15.out hc16
      have HB516 := HB515.out.trans (hc16.below_le HB515.out.size H6.out)
      have HFr : Hid (Fr w5.heap.size g capO ms AM cM ds bs bt cR (moveL (fun x => moved x ds) l) w16) := ⟨ros, rot, v, HK16.set HS15.out, HK16.set HT15.out, hr16, H4.out, H5.out, H6.out, H7.out, row_chg HO15.out hc16 (fun k hk hf => by
        have h1 := H6.out k hf
        have h2 : g = k := by simpa [Value.ownBlock] using hk
        omega), h9, by
        refine ⟨HD15.out.1, ?_⟩
        rcases HD15.out.2 with h0 | ⟨g', cap, cur, he, hg, hh, hr⟩
        · exact .inl h0
        · exact .inr ⟨g', cap, cur, he, hg, HK16.stays hh (by decide) (by decide), hr⟩⟩
      have HBW : Hid (Below w.heap.size w w16) := HBW5.out.trans (HB516.mono hw5)
      clear hr16 hc16 HK16 HB516 HMr HS15 HT15 HR15 HO15 HD15 H4 H5 H6 H7 HMv HMl h9
      generalize moveL (fun x => moved x ds) l = l2 at *
      generalize hW : w16 = W2 at *
      clear hW
      generalize w5.heap.size = N at *
      obtain ⟨ros, rot, v, hs, ht, hr, hfs, hft, hfr, -, hown, hgN, hmov⟩ := HFr.out
      have HSs := Lib.hid hs
      have HTt := Lib.hid ht
      have HRr := Lib.hid hr
      have HFs := Lib.hid hfs
      have HFt := Lib.hid hft
      have HFr2 := Lib.hid hfr
      have HOwn := Lib.hid hown
      have HMov := Lib.hid hmov
      have hl59 := hs.ok.length
      clear hs ht hr hfs hft hfr hown hmov HFr
      go_wp2
      go_loopw [60] (fun i wr => ∃ k : Nat, k ≤ ms.length ∧ i = .int .i64 k ∧ wr.ownsRow 0 33 2 (.slice (some ⟨g, 0, none⟩) (ms.length + 1) capO) (ms.length + 1) (cellsM (List.replicate k (121, 5) ++ (ms.drop k ++ [(113, 77)]))) ∧ Chg (fun x => x = g) W2 wr) (fun i _ => ms.length - (intOf i).toNat)
      case atStart => exact ⟨0, Nat.zero_le _, rfl, HOwn.out, Chg.refl _ _⟩
      case round =>
        obtain ⟨k, hk, rfl, hown, hch⟩ := hrel
        by_cases hlt : k < ms.length
        · obtain h | ⟨ad, rfl, hA, hc⟩ := (HM.out.below HBW.out).kept hch (far_of HM.out hgw)
          · subst h; simp at hlt
          obtain ⟨d0, d1⟩ := hc k hlt
          have hsp : ms.drop k = ms[k] :: ms.drop (k + 1) := List.drop_eq_getElem_cons hlt
          have hLk : (List.replicate k ((121 : Int), (5 : Int)) ++ (ms.drop k ++ [(113, 77)]))[k]? = some ms[k] := by
            rw [List.getElem?_append_right (by simp), List.length_replicate, Nat.sub_self, hsp]; rfl
          have hlL : (List.replicate k ((121 : Int), (5 : Int)) ++ (ms.drop k ++ [(113, 77)])).length = ms.length + 1 := by simp; omega
          obtain ⟨e1, e2⟩ := cellsM_get _ k (by rw [hlL]; omega)
          have hel : (List.replicate k ((121 : Int), (5 : Int)) ++ (ms.drop k ++ [(113, 77)]))[k]'(by rw [hlL]; omega) = ms[k] := by
            have := List.getElem?_eq_some_iff.1 hLk
            exact this.2
          rw [hel] at e1 e2
          have g1 : wr.cell? ⟨g, k * 2, none⟩ = some (.int .u8 ms[k].1) := (hown.cellAt (k * 2) (by omega)).trans e1
          have g2 : wr.cell? ⟨g, k * 2 + 1, none⟩ = some (.int .i64 ms[k].2) := (hown.cellAt (k * 2 + 1) (by omega)).trans e2
          have f1 : wr.frozen? ⟨g, k * 2, none⟩ = false := hown.frozenAt _
          have f2 : wr.frozen? ⟨g, k * 2 + 1, none⟩ = false := hown.frozenAt _
          have hgl : g < wr.heap.size := World.block_lt_of_cell? wr _ g1
          have HT : Hid (List.replicate k ((121 : Int), (5 : Int)) ++ (ms.drop k ++ [(113, 77)]) = List.replicate k (121, 5) ++ ms[k] :: (ms.drop (k + 1) ++ [(113, 77)])) := by
            show _ = _; rw [hsp]; rfl
          have hi0 : (0 : Int) ≤ (k : Int) := by omega
          have hi1 : (k : Int) < (ms.length : Int) := by omega
          have hi2 : (k : Int) < (ms.length : Int) + 1 := by omega
          have HO := Lib.hid hown
          have HC := Lib.hid hch
          clear hown hch hc e1 e2 hel hLk hlL hsp
          generalize ms[k] = y at *
          obtain ⟨y1, y2⟩ := y
          have hneq : ∀ w, (binOp .neq 33 (.agg #[.int .u8 y1, .int .i64 y2]) (.agg #[.int .u8 y1, .int .i64 y2])).run Tryd.prog w = .ok (.bool false) w := fun w => by rw [neq_mark]; simp
          go_wp2
          go_quiet (fail)
          go_wp2
          go_roundw
          case rel =>
            refine ⟨k + 1, by omega, by go_num, ?_, ?_⟩
            · have h := ((((HO.out.alloc (.cells #[.int .u8 y1, .int .i64 y2] 33)) : ((wr.alloc (.cells #[.int .u8 y1, .int .i64 y2] 33)).drewN nq).ownsRow _ _ _ _ _ _).stored (k * 2) (.int .u8 121)).1.stored (k * 2 + 1) (.int .i64 5)).1
              have e3 : ((cellsM (List.replicate k ((121 : Int), (5 : Int)) ++ (ms.drop k ++ [(113, 77)]))).set (k * 2) (.int .u8 121)).set (k * 2 + 1) (.int .i64 5) = cellsM (List.replicate (k + 1) (121, 5) ++ (ms.drop (k + 1) ++ [(113, 77)])) := by
                rw [HT.out]
                have a1 := cellsM_setN (List.replicate k (121, 5)) (ms.drop (k + 1) ++ [(113, 77)]) (y1, y2) 121
                rw [List.length_replicate] at a1
                rw [a1]
                have a2 := cellsM_set (List.replicate k (121, 5)) (ms.drop (k + 1) ++ [(113, 77)]) (121, y2) 5
                rw [List.length_replicate] at a2
                rw [a2, List.replicate_succ', List.append_assoc]
                rfl
              rw [e3] at h
              exact h
            · exact (((HC.out.trans (Chg.alloc (S := fun _ => False) wr _) (fun _ _ f => f.elim)) |> fun h => chg_drewN h nq).trans (Chg.set _ ⟨g, k * 2, none⟩ _) (fun x _ h => h)).trans (Chg.set _ ⟨g, k * 2 + 1, none⟩ _) (fun x _ h => h)
          case measure => simp [intOf]; omega
        · have hkn : k = ms.length := by omega
          subst hkn
          rw [List.drop_length, List.nil_append] at hown
          have HO := Lib.hid hown
          have HC := Lib.hid hch
          have HSs1 := Lib.hid (HSs.out.kept hch (fun x hx e => by have := HFs.out x hx; omega))
          have HTt1 := Lib.hid (HTt.out.kept hch (fun x hx e => by have := HFt.out x hx; omega))
          have HRr1 := Lib.hid (HRr.out.kept hch (fun x hx e => by have := HFr2.out x hx; omega))
          have HMov1 := Lib.hid (row_chg HMov.out hch (fun x hx e => by have := (HMov.out.lt x hx).1; omega))
          clear hown hch HOwn HSs HTt HRr HMov
          go_wp2
          go_loopw [78] (fun i w2 => ∃ k : Nat, k ≤ ds.length ∧ i = .int .i64 k ∧ w2.ownsRow N 29 3 (.slice AM ds.length cM) ds.length (cellsD ((ds.take k).map (fun d => ⟨9, d.out, d.inn⟩) ++ ds.drop k)) ∧ Chg (fun x => Value.ownBlock (.slice AM ds.length cM) = some x) wr w2) (fun i _ => ds.length - (intOf i).toNat)
          case atStart => exact ⟨0, Nat.zero_le _, rfl, HMov1.out, Chg.refl _ _⟩
          case round =>
            obtain ⟨k, hk, rfl, hmv, hch⟩ := hrel
            by_cases hlt : k < ds.length
            · obtain ⟨gm, cap, he, hgm, hgml⟩ := hmv.form (by omega)
              obtain ⟨rfl, rfl⟩ : AM = some ⟨gm, 0, none⟩ ∧ cM = cap := by simpa using he
              obtain h | ⟨dd, rfl, hdl2, hdc⟩ := ((HD.out.below HBW.out).kept HC.out (dls_far HD.out (F := fun x => x = g) (fun x hx => by rw [hx]; exact hgw))).kept hch (dls_far HD.out (F := fun x => Value.ownBlock (.slice (some ⟨gm, 0, none⟩) ds.length cM) = some x) (fun x hx => by have h : gm = x := (by simpa [Value.ownBlock] using hx); omega))
              · subst h; simp at hlt
              obtain ⟨b0, b1, b2⟩ := hdc k hlt
              have hsp : ds.drop k = ds[k] :: ds.drop (k + 1) := List.drop_eq_getElem_cons hlt
              have hlk : ((ds.take k).map (fun d => (⟨9, d.out, d.inn⟩ : Dl))).length = k := by simp; omega
              have hLk : ((ds.take k).map (fun d => (⟨9, d.out, d.inn⟩ : Dl)) ++ ds.drop k)[k]? = some ds[k] := by
                rw [hsp, List.getElem?_append_right (by omega), hlk]; simp
              have hlL : ((ds.take k).map (fun d => (⟨9, d.out, d.inn⟩ : Dl)) ++ ds.drop k).length = ds.length := by rw [List.length_append, hlk, List.length_drop]; omega
              obtain ⟨e1, e2, e3⟩ := cellsD_get _ k (by rw [hlL]; omega)
              have hel : ((ds.take k).map (fun d => (⟨9, d.out, d.inn⟩ : Dl)) ++ ds.drop k)[k]'(by rw [hlL]; omega) = ds[k] := (List.getElem?_eq_some_iff.1 hLk).2
              rw [hel] at e1 e2 e3
              have g1 : wr.cell? ⟨gm, k * 3, none⟩ = some (.int .i64 ds[k].pos) := (hmv.cellAt (k * 3) (by omega)).trans e1
              have g2 : wr.cell? ⟨gm, k * 3 + 1, none⟩ = some (.string ds[k].out) := (hmv.cellAt (k * 3 + 1) (by omega)).trans e2
              have g3 : wr.cell? ⟨gm, k * 3 + 2, none⟩ = some (.string ds[k].inn) := (hmv.cellAt (k * 3 + 2) (by omega)).trans e3
              have f1 : wr.frozen? ⟨gm, k * 3, none⟩ = false := hmv.frozenAt _
              have HT : Hid ((ds.take k).map (fun d => (⟨9, d.out, d.inn⟩ : Dl)) ++ ds.drop k = (ds.take k).map (fun d => (⟨9, d.out, d.inn⟩ : Dl)) ++ ds[k] :: ds.drop (k + 1)) := by
                show _ = _; rw [hsp]
              have HT2 : Hid ((ds.take (k + 1)).map (fun d => (⟨9, d.out, d.inn⟩ : Dl)) = (ds.take k).map (fun d => (⟨9, d.out, d.inn⟩ : Dl)) ++ [⟨9, ds[k].out, ds[k].inn⟩]) := by
                show _ = _; rw [List.take_succ_eq_append_getElem hlt, List.map_append]; rfl
              have hi0 : (0 : Int) ≤ (k : Int) := by omega
              have hi1 : (k : Int) < (ds.length : Int) := by omega
              have HMv2 := Lib.hid hmv
              have HC2 := Lib.hid hch
              have HLk := Lib.hid hlk
              clear hmv hch hdc e1 e2 e3 hel hLk hlL hsp he hlk
              generalize ds[k] = y at *
              obtain ⟨y1, y2, y3⟩ := y
              have hneq := neq_delta y1 y2 y3
              go_wp2
              go_quiet (fail)
              go_wp2
              go_roundw
              case rel =>
                refine ⟨k + 1, by omega, by go_num, ?_, (chg_drewN HC2.out nq).trans (Chg.set _ ⟨gm, k * 3, none⟩ _) (fun x _ h => by rw [h]; rfl)⟩
                have h := ((HMv2.out : (wr.drewN nq).ownsRow _ _ _ _ _ _).stored (k * 3) (.int .i64 9)).1
                have e4 : (cellsD ((ds.take k).map (fun d => (⟨9, d.out, d.inn⟩ : Dl)) ++ ds.drop k)).set (k * 3) (.int .i64 9) = cellsD ((ds.take (k + 1)).map (fun d => (⟨9, d.out, d.inn⟩ : Dl)) ++ ds.drop (k + 1)) := by
                  rw [HT.out, HT2.out]
                  have a1 := cellsD_set ((ds.take k).map (fun d => (⟨9, d.out, d.inn⟩ : Dl))) (ds.drop (k + 1)) ⟨y1, y2, y3⟩ 9
                  rw [HLk.out] at a1
                  rw [a1, List.append_assoc]
                  rfl
                rw [e4] at h
                exact h
              case measure => simp [intOf]; omega
            · have HSs2 := Lib.hid (HSs1.out.kept hch (fun x hx hf => sepD HMov1.out HSs1.out x hf hx))
              have HTt2 := Lib.hid (HTt1.out.kept hch (fun x hx hf => sepD HMov1.out HTt1.out x hf hx))
              have HRr2 := Lib.hid (HRr1.out.kept hch (fun x hx hf => sepDR HMov1.out HRr1.out x hf hx))
              have HO2 := Lib.hid (row_chg HO.out hch (fun x hx hf => by
                have h1 : g = x := by simpa [Value.ownBlock] using hx
                have h2 := (HMov1.out.lt x hf).1
                omega))
              have HBq : Hid (Below w.heap.size w wr) := HBW.out.trans ((HC.out.below_le (B := w.heap.size) HBW.out.size (fun x hx => by rw [hx]; exact hgw)).trans (hch.below_le (Nat.le_trans HBW.out.size HC.out.size) (fun x hx => by have := (HMov1.out.lt x hx).1; omega)))
              clear hmv hch HSs1 HTt1 HRr1 HO HMov1 HC
              go_wp2_with fail
              refine (All_any bs ros l2 wr HSs2.out).mono ?_
              rintro e20 w20 ⟨va, rfl, hra, hba⟩
              obtain ⟨Aa, ca, rfl⟩ := row_form hra
              have HRa := Lib.hid hra
              have HBa := Lib.hid hba
              have HSs3 := Lib.hid (HSs2.out.below hba)
              clear hra hba
              go_wp2_with fail
              refine (All_any bs ros l2 w20 HSs3.out).mono ?_
              rintro e21 w21 ⟨vb, rfl, hrb, hbb⟩
              obtain ⟨Ab, cb, rfl⟩ := row_form hrb
              have HRb := Lib.hid hrb
              have HBb := Lib.hid hbb
              have HRa2 := Lib.hid (row_chg HRa.out (Chg.of_below (S := fun _ => False) hbb) (fun _ _ f => f))
              have hbq : Below wr.heap.size wr w21 := HBa.out.trans (hbb.mono HBa.out.size)
              have HSs4 := Lib.hid (HSs2.out.below hbq)
              have HTt4 := Lib.hid (HTt2.out.below hbq)
              have HRr4 := Lib.hid (HRr2.out.below hbq)
              have HO4 := Lib.hid (row_chg HO2.out (Chg.of_below (S := fun _ => False) hbq) (fun _ _ f => f))
              have HBq4 := Lib.hid (HBq.out.trans (hbq.mono HBq.out.size))
              have HOl : Hid (∀ x, Value.ownBlock (.slice (some ⟨g, 0, none⟩) (ms.length + 1) capO) = some x → x < wr.heap.size) := fun x hx => (HO2.out.lt x hx).2
              have HSl : Hid (∀ x, foot bs ros x → x < wr.heap.size) := HSs2.out.flt
              have HTl : Hid (∀ x, foot bt rot x → x < wr.heap.size) := HTt2.out.flt
              have HRl : Hid (∀ x, footR cR v x → x < wr.heap.size) := fun x hx => by
                rcases hx with rfl | hx
                · exact HRr2.out.lt
                · exact HRr2.out.rlt x hx
              have HAl : Hid (∀ x, Value.ownBlock (.slice Aa l2.length ca) = some x → wr.heap.size ≤ x ∧ x < w20.heap.size) := fun x hx => HRa.out.lt x hx
              have HWl : Hid (w.heap.size ≤ wr.heap.size) := HBq.out.size
              clear hrb hbb hbq HSs2 HTt2 HRr2 HO2 HSs3 HBa HBb HRa HBq
              generalize wr.heap.size = Mq at *
              go_wp2
              go_loopw [101] (fun i w3 => ∃ (k : Nat) (xs : List Value), k ≤ l2.length ∧ i = .int .i64 k ∧ w3.ownsRow Mq 33 2 (.slice Aa l2.length ca) l2.length xs ∧ Chg (fun x => Value.ownBlock (.slice Aa l2.length ca) = some x) w21 w3) (fun i _ => l2.length - (intOf i).toNat)
              case atStart => exact ⟨0, _, Nat.zero_le _, rfl, HRa2.out, Chg.refl _ _⟩
              case round =>
                obtain ⟨k, xs, hk, rfl, hra, hch⟩ := hrel
                by_cases hlt : k < l2.length
                · obtain ⟨ga, cap, he, hga, hgal⟩ := hra.form (by omega)
                  obtain ⟨rfl, rfl⟩ : Aa = some ⟨ga, 0, none⟩ ∧ ca = cap := by simpa using he
                  have hxl := hra.1
                  have g1 : wr.cell? ⟨ga, k * 2, none⟩ = some (xs[k * 2]'(by omega)) := (hra.cellAt (k * 2) (by omega)).trans (by simp)
                  have g2 : wr.cell? ⟨ga, k * 2 + 1, none⟩ = some (xs[k * 2 + 1]'(by omega)) := (hra.cellAt (k * 2 + 1) (by omega)).trans (by simp)
                  have f1 : wr.frozen? ⟨ga, k * 2, none⟩ = false := hra.frozenAt _
                  have f2 : wr.frozen? ⟨ga, k * 2 + 1, none⟩ = false := hra.frozenAt _
                  have HRk := Lib.hid hra
                  have HCk := Lib.hid hch
                  have hi0 : (0 : Int) ≤ (k : Int) := by omega
                  have hi1 : (k : Int) < (l2.length : Int) := by omega
                  generalize xs[k * 2]'(by omega) = q1 at *
                  generalize xs[k * 2 + 1]'(by omega) = q2 at *
                  clear hra hch he hxl
                  go_wp2
                  go_roundw
                  case rel =>
                    exact ⟨k + 1, _, by omega, by go_num, ((HRk.out.stored (k * 2) (.int .u8 120)).1.stored (k * 2 + 1) (.int .i64 3)).1, (HCk.out.trans (Chg.set _ ⟨ga, k * 2, none⟩ _) (fun x _ h => by rw [h]; rfl)).trans (Chg.set _ ⟨ga, k * 2 + 1, none⟩ _) (fun x _ h => by rw [h]; rfl)⟩
                  case measure => simp [intOf]; omega
                · obtain ⟨vz, wz, hz, hcz⟩ := run_app_zeros wr Mq (.slice Aa l2.length ca) l2.length xs hra hl59 31
                  have hcw := hch.trans hcz (fun x _ h => h)
                  have HZ := Lib.hid hz
                  have HSs5 := Lib.hid (HSs4.out.kept hcw (fun x hx hf => by have := HSl.out x hx; have := (HAl.out x hf).1; omega))
                  have HTt5 := Lib.hid (HTt4.out.kept hcw (fun x hx hf => by have := HTl.out x hx; have := (HAl.out x hf).1; omega))
                  have HRr5 := Lib.hid (HRr4.out.kept hcw (fun x hx hf => by have := HRl.out x hx; have := (HAl.out x hf).1; omega))
                  have hown5 := row_chg HO4.out hcw (fun x hx hf => by have := HOl.out x hx; have := (HAl.out x hf).1; omega)
                  have HRb5 := Lib.hid (row_chg HRb.out hcw (fun x hx hf => by have := (HRb.out.lt x hx).1; have := (HAl.out x hf).2; omega))
                  have HB5 : Hid (Below w.heap.size w wz) := HBq4.out.trans (hcw.below_le HBq4.out.size (fun x hx => by have := (HAl.out x hx).1; have := HWl.out; omega))
                  have hlR : (List.replicate ms.length ((121 : Int), (5 : Int)) ++ [(113, 77)]).length = ms.length + 1 := by simp
                  obtain ⟨-, e2⟩ := cellsM_get (List.replicate ms.length ((121 : Int), (5 : Int)) ++ [(113, 77)]) ms.length (by rw [hlR]; omega)
                  have hel : (List.replicate ms.length ((121 : Int), (5 : Int)) ++ [(113, 77)])[ms.length]'(by rw [hlR]; omega) = (113, 77) := by
                    rw [List.getElem_append_right (by simp)]; simp
                  rw [hel] at e2
                  have g77 : wz.cell? ⟨g, ms.length * 2 + 1, none⟩ = some (.int .i64 77) := (hown5.cellAt (ms.length * 2 + 1) (by omega)).trans e2
                  have hi0 : (0 : Int) ≤ (ms.length : Int) := by omega
                  have hi1 : (ms.length : Int) < (ms.length : Int) + 1 := by omega
                  clear hra hch hz hcz hcw HSs4 HTt4 HRr4 HO4 HRb hown5 hlR e2 hel HBq4
                  go_wp2_with (first
                    | (at_builtin; refine Lib.wpList_append_run _ rfl _ _ _ _ rfl _ _ rfl rfl _ _ HZ.out ?_)
                    | fail)
                  refine (AllR_any cR v l2 wz HRr5.out).mono ?_
                  rintro e30 w30 ⟨v30, rfl, hr30, hb30⟩
                  obtain ⟨A30, c30, rfl⟩ := row_form hr30
                  have HR30 := Lib.hid (MksAt.of_row hr30)
                  have HM30 := Lib.hid ((MksAt.of_row HRb5.out).below hb30)
                  have HB30 := Lib.hid hb30
                  clear hr30 hb30
                  go_wp2_with fail
                  refine (Same_any Ab A30 l2 l2 cb c30 w30 HM30.out HR30.out (by omega) (by omega)).mono ?_
                  rintro e31 w31 ⟨rfl, hb31⟩
                  rw [decide_eq_true rfl]
                  have HB31 := Lib.hid (HB30.out.trans (hb31.mono HB30.out.size))
                  clear hb31 HR30 HM30
                  go_wp2_with fail
                  refine (All_any bs ros l2 w31 (HSs5.out.below HB31.out)).mono ?_
                  rintro e32 w32 ⟨v32, rfl, hr32, hb32⟩
                  obtain ⟨A32, c32, rfl⟩ := row_form hr32
                  have HR32 := Lib.hid (MksAt.of_row hr32)
                  have HB32 := Lib.hid (HB31.out.trans (hb32.mono HB31.out.size))
                  clear hr32 hb32
                  go_wp2_with fail
                  refine (AllR_any cR v l2 w32 (HRr5.out.below HB32.out)).mono ?_
                  rintro e33 w33 ⟨v33, rfl, hr33, hb33⟩
                  obtain ⟨A33, c33, rfl⟩ := row_form hr33
                  have HR33 := Lib.hid (MksAt.of_row hr33)
                  have HM33 := Lib.hid (HR32.out.below hb33)
                  have HB33 := Lib.hid (HB32.out.trans (hb33.mono HB32.out.size))
                  clear hr33 hb33
                  go_wp2_with fail
                  refine (Same_any A32 A33 l2 l2 c32 c33 w33 HM33.out HR33.out (by omega) (by omega)).mono ?_
                  rintro e34 w34 ⟨rfl, hb34⟩
                  rw [decide_eq_true rfl]
                  have HB34 := Lib.hid (HB33.out.trans (hb34.mono HB33.out.size))
                  clear hb34 HR32 HR33 HM33
                  go_wp2_with fail
                  refine (All_any bt rot l2 w34 (HTt5.out.below HB34.out)).mono ?_
                  rintro e35 w35 ⟨v35, rfl, hr35, hb35⟩
                  obtain ⟨A35, c35, rfl⟩ := row_form hr35
                  have HR35 := Lib.hid (MksAt.of_row hr35)
                  have HB35 := Lib.hid (HB34.out.trans (hb35.mono HB34.out.size))
                  clear hr35 hb35
                  go_wp2_with fail
                  refine (AllR_any cR v l2 w35 (HRr5.out.below HB35.out)).mono ?_
                  rintro e36 w36 ⟨v36, rfl, hr36, hb36⟩
                  obtain ⟨A36, c36, rfl⟩ := row_form hr36
                  have HR36 := Lib.hid (MksAt.of_row hr36)
                  have HM36 := Lib.hid (HR35.out.below hb36)
                  have HB36 := Lib.hid (HB35.out.trans (hb36.mono HB35.out.size))
                  clear hr36 hb36
                  go_wp2_with fail
                  refine (Same_any A35 A36 l2 l2 c35 c36 w36 HM36.out HR36.out (by omega) (by omega)).mono ?_
                  rintro e37 w37 ⟨rfl, hb37⟩
                  rw [decide_eq_true rfl]
                  have HB37 := Lib.hid (HB5.out.trans ((HB36.out.trans (hb37.mono HB36.out.size)).mono HB5.out.size))
                  clear hb37
                  go_wp2
                  go_ret
                  exact ⟨rfl, HB37.out⟩

set_option maxRecDepth 100000 in
theorem calls_MarksFresh {H : Type} {enc : TypeId × Value → H} {W : World} {base : Nat} {laid : List (String × DataW Unit)} {v0 v1 : Value} {d0 d1 : DataW H} {p0 p1 : List MemPlace} (hL : laidMetH Tryd.prog laid W)
    (o0 : Value.okWide Tryd.prog W .any base 31 v0) (h0 : DataW.Trod enc Tryd.prog W 0 (fun _ => true) true 31 v0 d0 p0) (w0 : ∀ n ∈ d0.weights Tryd.prog 31, n ≤ reachBytes)
    (o1 : Value.okWide Tryd.prog W .any base 22 v1) (h1 : DataW.Trod enc Tryd.prog W 0 (fun _ => true) true 22 v1 d1 p1) (w1 : ∀ n ∈ d1.weights Tryd.prog 22, n ≤ reachBytes) :
    Calls Tryd.prog 5 #[v0, v1] W fun e W' => e = .returned (.bool true) ∧ Below W.heap.size W W' := by
  obtain ⟨A, ms, c, rfl, hm, hl, hc, hf⟩ := open_marks h0 (by obtain ⟨a, l, c, rfl⟩ := okWide_slice Tryd.underlying31 o0; rfl) w0
  obtain ⟨D, ds, e, rfl, hd, hdl, hdc, hok⟩ := open_deltas h1 (by obtain ⟨a, l, c, rfl⟩ := okWide_slice Tryd.underlying22 o1; rfl) w1
  have hA : A = none → c = 0 := by
    rintro rfl
    obtain ⟨fuel, hf1⟩ := h0
    rcases open_slice Tryd.underlying31 hf1 with ⟨hv, hx⟩ | ⟨a, len, cap, m, n, D, Pl, hv, -⟩
    · have hv' : [Value.slice none ms.length c] = [.slice none 0 0] := hv
      simp at hv'; exact hv'.2
    · have hv' : [Value.slice none ms.length c] = [.slice (some a) len cap] := hv
      simp at hv'
  have hD : D = none → e = 0 := by
    rintro rfl
    obtain ⟨fuel, hf1⟩ := h1
    rcases open_slice Tryd.underlying22 hf1 with ⟨hv, hx⟩ | ⟨a, len, cap, m, n, D, Pl, hv, -⟩
    · have hv' : [Value.slice none ds.length e] = [.slice none 0 0] := hv
      simp at hv'; exact hv'.2
    · have hv' : [Value.slice none ds.length e] = [.slice (some a) len cap] := hv
      simp at hv'
  unfold reachBytes at hc hdc
  exact fresh_walk A ms c D ds e W hm hf (by omega) hA hd (by omega) hD hok
end Go.Proofs.YtdkdnkmfjpdcpaaDoor.Mk
