/-
  The law MarksFollow, walked. No condition but what every argument bears.
-/
import Derived.Test.YtdkdnkmfjpdcpaaDoorMkMoved
import Derived.Test.YtdkdnkmfjpdcpaaDoorRegion
import Derived.Deep.DeepCutAuto
import Derived.ChangeMaps5
import Derived.Test.YtdkdnkmfjpdcpaaDoorMkOpen
namespace Go.Proofs.YtdkdnkmfjpdcpaaDoor.Mk
open Go.RowKit Go.Proofs.YtdkdnkmfjpdcpaaDoor.Reg Go.Proofs.YtdkdnkmfjpdcpaaDoor.Row Go.ChangeShapes Go.WideShapes Go.ChangeMaps
set_option linter.unusedVariables false
set_option linter.unusedSimpArgs false

theorem mixed : Tryd.prog.follows .mixedOrders = true := by kernel_rfl

/-- What the two calls of Moved leave, slot by slot. -/
def VF (a b : Int) (d : Dl) (s : Nat) (v : Value) (w : World) : Prop := match s with
  | 69 => v = .int .i64 a
  | 70 => v = .agg #[.int .i64 d.pos, .string d.out, .string d.inn]
  | 71 => ∃ g, v = .slice (some ⟨g, 0, none⟩) 1 1 ∧ DlsAt w (some ⟨g, 0, none⟩) [d]
  | 72 => v = .int .i64 (moved a [d])
  | 73 => v = .int .i64 b
  | 74 => v = .agg #[.int .i64 d.pos, .string d.out, .string d.inn]
  | 75 => ∃ g, v = .slice (some ⟨g, 0, none⟩) 1 1 ∧ DlsAt w (some ⟨g, 0, none⟩) [d]
  | 76 => v = .int .i64 (moved b [d])
  | 19 => v = .int .i64 (moved a [d])
  | 20 => v = .int .i64 (moved b [d])
  | _ => True
theorem VF_mono (a b : Int) (d : Dl) : ∀ s v w w', VF a b d s v w → Below w.heap.size w w' → VF a b d s v w' := by
  intro s v w w' h hb
  unfold VF at h ⊢
  split at h
  all_goals first
    | exact h
    | (obtain ⟨g, e, hd⟩ := h; exact ⟨g, e, hd.below hb⟩)
    | (split <;> simp_all)

theorem dlsAt_new (w : World) (d : Dl) (t : TypeId) : DlsAt (w.alloc (.cells #[.int .i64 d.pos, .string d.out, .string d.inn] t)) (some ⟨w.heap.size, 0, none⟩) [d] := by
  refine .inr ⟨_, rfl, by simp, fun i hi => ?_⟩
  have hi' : i < 1 := by simpa using hi
  unfold DlAt
  obtain rfl : i = 0 := by omega
  simp [Addr.add]

theorem follow_one (s t : ByteArray) (i n a : Nat) (h : i + n ≤ s.size) (ha : a ≤ s.size) (hs : s.size ≤ 140737488351232) (ht : t.size ≤ 140737488351232) :
    moved a [⟨(i : Int), s.extract i (i + n), t⟩] = ((if a ≤ i then a else if a < i + n then i else a + t.size - n : Nat) : Int) := by
  have hz : (s.extract i (i + n)).size = n := by simp; omega
  show one a _ = _
  unfold one wrap64
  simp only [hz]
  have e1 : ((a : Int) - (i : Int) + 9223372036854775808) % 18446744073709551616 - 9223372036854775808 = a - i := by omega
  have e2 : ((t.size : Int) - (n : Int) + 9223372036854775808) % 18446744073709551616 - 9223372036854775808 = t.size - n := by omega
  rw [e1, e2]
  have e3 : ((a : Int) + ((t.size : Int) - (n : Int)) + 9223372036854775808) % 18446744073709551616 - 9223372036854775808 = a + (t.size - n) := by omega
  rw [e3]
  repeat' split
  all_goals omega
theorem follow_pure (s t : ByteArray) (i n a : Nat) (h : i + n ≤ s.size) (ha : a ≤ s.size) (hs : s.size ≤ 140737488351232) (ht : t.size ≤ 140737488351232) :
    ∃ X : Nat, moved a [⟨(i : Int), s.extract i (i + n), t⟩] = (X : Int) ∧ X ≤ (s.extract 0 i ++ t ++ s.extract (i + n) s.size).size ∧ (a ≤ i → X = a) ∧ (i < a → a < i + n → X = i) ∧
      (i < a → i + n ≤ a → (s.extract 0 i ++ t ++ s.extract (i + n) s.size).extract X (s.extract 0 i ++ t ++ s.extract (i + n) s.size).size = s.extract a s.size) := by
  refine ⟨_, follow_one s t i n a h ha hs ht, ?_, fun h1 => by rw [if_pos h1], fun h1 h2 => by rw [if_neg (by omega), if_pos h2], fun h1 h2 => ?_⟩
  · simp only [ByteArray.size_append, ByteArray.size_extract]
    repeat' split
    all_goals omega
  · rw [if_neg (by omega), if_neg (by omega)]
    have hz : (s.extract 0 i ++ t).size = i + t.size := by simp; omega
    rw [ByteArray.extract_append, hz]
    have z1 : (s.extract 0 i ++ t).extract (a + t.size - n) (s.extract 0 i ++ t ++ s.extract (i + n) s.size).size = ByteArray.empty := by
      apply ByteArray.size_eq_zero_iff.mp
      simp only [ByteArray.size_extract, hz]; omega
    rw [z1, ByteArray.empty_append, ByteArray.extract_extract]
    congr 1
    · omega
    · simp only [ByteArray.size_append, ByteArray.size_extract]; omega
theorem follow_mono (s t : ByteArray) (i n a b X Y : Nat) (h : i + n ≤ s.size) (ha : a ≤ s.size) (hb : b ≤ s.size) (hs : s.size ≤ 140737488351232) (ht : t.size ≤ 140737488351232)
    (hX : moved a [⟨(i : Int), s.extract i (i + n), t⟩] = (X : Int)) (hY : moved b [⟨(i : Int), s.extract i (i + n), t⟩] = (Y : Int)) (hab : a ≤ b) : X ≤ Y := by
  rw [follow_one s t i n a h ha hs ht] at hX
  rw [follow_one s t i n b h hb hs ht] at hY
  have hX' := Int.ofNat_inj.mp hX
  have hY' := Int.ofNat_inj.mp hY
  subst hX' hY'
  repeat' split
  all_goals omega

theorem reach_le {H : Type} {P : Program} {s : ByteArray} {t : TypeId} (h : ∀ n ∈ (DataW.lit (H := H) (.string s.data.toList)).weights P t, n ≤ reachBytes) : s.size ≤ 140737488351232 := by
  have := h _ (weights_str s t)
  unfold reachBytes at this
  exact this
theorem u16_nat {x : Int} (h : (Lit.int .u16 x).wf = true) : ∃ n : Nat, x = n ∧ n < 65536 := by
  have : 0 ≤ x ∧ x < 65536 := by
    have h' : 0 ≤ x ∧ x ≤ 65535 := by simpa [Lit.wf, IntKind.min, IntKind.max, IntKind.signed, IntKind.bits] using h
    omega
  exact ⟨x.toNat, by omega, by omega⟩
theorem u32_nat {x : Int} (h : (Lit.int .u32 x).wf = true) : ∃ n : Nat, x = n ∧ n < 4294967296 := by
  have : 0 ≤ x ∧ x < 4294967296 := by
    have h' : 0 ≤ x ∧ x ≤ 4294967295 := by simpa [Lit.wf, IntKind.min, IntKind.max, IntKind.signed, IntKind.bits] using h
    omega
  exact ⟨x.toNat, by omega, by omega⟩
theorem u8_nat {x : Int} (h : (Lit.int .u8 x).wf = true) : ∃ n : Nat, x = n ∧ n < 256 := by
  have : 0 ≤ x ∧ x < 256 := by
    have h' : 0 ≤ x ∧ x ≤ 255 := by simpa [Lit.wf, IntKind.min, IntKind.max, IntKind.signed, IntKind.bits] using h
    omega
  exact ⟨x.toNat, by omega, by omega⟩
set_option maxRecDepth 100000 in
set_option maxHeartbeats 1000000 in
theorem follow_walk (s t : ByteArray) (at' cut p q : Nat) (w : World) (h1 : at' < 65536) (h2 : cut < 65536) (h3 : p < 65536) (h4 : q < 65536) (hs : s.size ≤ 140737488351232) (ht : t.size ≤ 140737488351232) :
    Calls Tryd.prog 4 #[.string s, .string t, .int .u16 at', .int .u16 cut, .int .u16 p, .int .u16 q] w fun e w' => e = .returned (.bool true) ∧ Below w.heap.size w w' := by
  obtain ⟨i, hi⟩ : ∃ i, i = at' % (s.size + 1) := ⟨_, rfl⟩
  have hile : i ≤ s.size := by rw [hi]; have := Nat.mod_lt at' (show s.size + 1 > 0 by omega); omega
  obtain ⟨n, hn⟩ : ∃ n, n = cut % (s.size - i + 1) := ⟨_, rfl⟩
  have hnle : i + n ≤ s.size := by have := Nat.mod_lt cut (show s.size - i + 1 > 0 by omega); omega
  have e1 : ((at' : Int) % ((s.size : Int) + 1)) = (i : Int) := by rw [hi]; simp
  have e2 : ((cut : Int) % ((s.size : Int) - (i : Int) + 1)) = (n : Int) := by
    rw [hn, show ((s.size : Int) - (i : Int) + 1) = ((s.size - i + 1 : Nat) : Int) by omega]; simp
  obtain ⟨a, ha⟩ : ∃ a, a = p % (s.size + 1) := ⟨_, rfl⟩
  have hale : a ≤ s.size := by rw [ha]; have := Nat.mod_lt p (show s.size + 1 > 0 by omega); omega
  obtain ⟨b, hb⟩ : ∃ b, b = q % (s.size + 1) := ⟨_, rfl⟩
  have hble : b ≤ s.size := by rw [hb]; have := Nat.mod_lt q (show s.size + 1 > 0 by omega); omega
  have E3 : Hid ((p : Int).tmod ((s.size : Int) + 1) = (a : Int)) := by show _ = _; rw [ha, Int.tmod_eq_emod_of_nonneg (by omega)]; simp
  have E4 : Hid ((q : Int).tmod ((s.size : Int) + 1) = (b : Int)) := by show _ = _; rw [hb, Int.tmod_eq_emod_of_nonneg (by omega)]; simp
  clear hi hn ha hb
  go_enter Tryd.func4, Tryd.ntmps4
  go_wp2_with (go_at_call 12; refine (lays_true _).mono ?_; rintro e w1 ⟨rfl, hb1⟩)
  have hf1 : (0 : Int) ≤ (i : Int) := by omega
  have hf2 : (i : Int) ≤ (s.size : Int) := by omega
  have hf3 : (0 : Int) ≤ (i : Int) + (n : Int) := by omega
  have hf4 : (i : Int) + (n : Int) ≤ (s.size : Int) := by omega
  have hf5 : IntKind.i64.wrap ((i : Int) + (n : Int)) = (i : Int) + (n : Int) := IntWalk.i64_in _ (by omega)
  go_quiet (fail)
  clear hf5
  go_wp2
  have hf5 : IntKind.i64.wrap ((s.size : Int) + 1) = (s.size : Int) + 1 := IntWalk.i64_in _ (by omega)
  have e3 := E3.out
  have e4 := E4.out
  go_quiet (fail)
  clear hf5 e3 e4
  go_wp2
  obtain ⟨d, hd⟩ : ∃ d : Dl, d = ⟨(i : Int), s.extract i (i + n), t⟩ := ⟨_, rfl⟩
  generalize hW : ((w1.alloc _).drewN _).drewN _ = W2
  have hbW : Below w.heap.size w W2 := by rw [← hW]; exact (hb1.alloc hb1.size _).trans ⟨rfl, rfl, rfl, Nat.le_refl _, fun _ _ => rfl⟩
  have hlt : w1.heap.size < W2.heap.size := by rw [← hW]; simp
  have k0 : W2.cell? ⟨w1.heap.size, 0, none⟩ = some (.int .i64 d.pos) := by rw [← hW, hd]; simp
  have k1 : W2.cell? ⟨w1.heap.size, 1, none⟩ = some (.string d.out) := by rw [← hW, hd]; simp
  have HD := Lib.hid hd
  have k2 : W2.cell? ⟨w1.heap.size, 2, none⟩ = some (.string d.inn) := by rw [← hW, hd]; simp
  clear hW hd
  refine wp_held' mixed (VF a b d) (VF_mono a b d) (by kernel_rfl) [69, 70, 71, 72, 73, 74, 75, 76, 19, 20] (by kernel_rfl) (by kernel_rfl) ?_ ?_
  · intro j hj
    have hj' : j < 10 := hj
    have hload : ∀ w', Below W2.heap.size W2 w' → w'.cell? ⟨w1.heap.size, 0, none⟩ = some (.int .i64 d.pos) ∧ w'.cell? ⟨w1.heap.size, 1, none⟩ = some (.string d.out) ∧ w'.cell? ⟨w1.heap.size, 2, none⟩ = some (.string d.inn) := fun w' hb =>
      ⟨(hb.cell hlt).trans k0, (hb.cell hlt).trans k1, (hb.cell hlt).trans k2⟩
    rcases (by omega : j = 0 ∨ j = 1 ∨ j = 2 ∨ j = 3 ∨ j = 4 ∨ j = 5 ∨ j = 6 ∨ j = 7 ∨ j = 8 ∨ j = 9) with rfl | rfl | rfl | rfl | rfl | rfl | rfl | rfl | rfl | rfl
    · refine owes_val (L := [(17, false)]) rfl rfl rfl (by kernel_rfl) ?_
      intro a' w' hb hf
      have h17 : a'.tmps[17]?.getD undef = .int .i64 a := hf.1
      go_simp
      exact ⟨_, rfl, Below.refl _ _, by simp [VF]⟩
    · refine owes_val (L := [(15, false)]) rfl rfl rfl (by kernel_rfl) ?_
      intro a' w' hb hf
      have h15 : a'.tmps[15]?.getD undef = .pointer (some ⟨w1.heap.size, 0, none⟩) := hf.1
      obtain ⟨q0, q1, q2⟩ := hload w' hb
      go_simp
      exact ⟨_, rfl, Below.refl _ _, by simp [VF]⟩
    · refine owes_val (L := [(70, true)]) rfl rfl rfl (by kernel_rfl) ?_
      intro a' w' hb hf
      have h70 : a'.tmps[70]?.getD undef = .agg #[.int .i64 d.pos, .string d.out, .string d.inn] := hf.1
      go_simp
      exact ⟨_, rfl, (Below.refl _ _).alloc (Nat.le_refl _) _, _, rfl, dlsAt_new w' d _⟩
    · refine owes_val (L := [(69, true), (71, true)]) rfl rfl rfl (by kernel_rfl) ?_
      intro a' w' hb hf
      have h69 : a'.tmps[69]?.getD undef = .int .i64 a := hf.1
      obtain ⟨g, h71, hg⟩ : ∃ g, a'.tmps[71]?.getD undef = .slice (some ⟨g, 0, none⟩) 1 1 ∧ DlsAt w' (some ⟨g, 0, none⟩) [d] := hf.2.1
      go_simp
      refine (Moved_any a _ [d] 1 w' (by simp) hg).mono ?_
      rintro e w3 ⟨rfl, hb3⟩
      exact ⟨_, rfl, hb3, rfl⟩
    · refine owes_val (L := [(18, false)]) rfl rfl rfl (by kernel_rfl) ?_
      intro a' w' hb hf
      have h18 : a'.tmps[18]?.getD undef = .int .i64 b := hf.1
      go_simp
      exact ⟨_, rfl, Below.refl _ _, by simp [VF]⟩
    · refine owes_val (L := [(15, false)]) rfl rfl rfl (by kernel_rfl) ?_
      intro a' w' hb hf
      have h15 : a'.tmps[15]?.getD undef = .pointer (some ⟨w1.heap.size, 0, none⟩) := hf.1
      obtain ⟨q0, q1, q2⟩ := hload w' hb
      go_simp
      exact ⟨_, rfl, Below.refl _ _, by simp [VF]⟩
    · refine owes_val (L := [(74, true)]) rfl rfl rfl (by kernel_rfl) ?_
      intro a' w' hb hf
      have h74 : a'.tmps[74]?.getD undef = .agg #[.int .i64 d.pos, .string d.out, .string d.inn] := hf.1
      go_simp
      exact ⟨_, rfl, (Below.refl _ _).alloc (Nat.le_refl _) _, _, rfl, dlsAt_new w' d _⟩
    · refine owes_val (L := [(73, true), (75, true)]) rfl rfl rfl (by kernel_rfl) ?_
      intro a' w' hb hf
      have h73 : a'.tmps[73]?.getD undef = .int .i64 b := hf.1
      obtain ⟨g, h75, hg⟩ : ∃ g, a'.tmps[75]?.getD undef = .slice (some ⟨g, 0, none⟩) 1 1 ∧ DlsAt w' (some ⟨g, 0, none⟩) [d] := hf.2.1
      go_simp
      refine (Moved_any b _ [d] 1 w' (by simp) hg).mono ?_
      rintro e w3 ⟨rfl, hb3⟩
      exact ⟨_, rfl, hb3, rfl⟩
    · refine owes_val (L := [(72, true)]) rfl rfl rfl (by kernel_rfl) ?_
      intro a' w' hb hf
      have h72 : a'.tmps[72]?.getD undef = .int .i64 (moved a [d]) := hf.1
      go_simp
      exact ⟨_, rfl, Below.refl _ _, by simp [VF]⟩
    · refine owes_val (L := [(76, true)]) rfl rfl rfl (by kernel_rfl) ?_
      intro a' w' hb hf
      have h76 : a'.tmps[76]?.getD undef = .int .i64 (moved b [d]) := hf.1
      go_simp
      exact ⟨_, rfl, Below.refl _ _, by simp [VF]⟩
  · intro f W3 hf hb3
    have f19 : f 19 = .int .i64 (moved a [d]) := hf 19 (by decide)
    have f20 : f 20 = .int .i64 (moved b [d]) := hf 20 (by decide)
    have HB3 := Lib.hid (hbW.trans (hb3.mono hbW.size))
    clear hf hb3 k0 k1 k2 hbW
    obtain ⟨X, hX, hX1, hX2, hX3, hX4⟩ := follow_pure s t i n a hnle hale hs ht
    obtain ⟨Y, hY, hY1, hY2, hY3, hY4⟩ := follow_pure s t i n b hnle hble hs ht
    have hmono : a ≤ b → X ≤ Y := follow_mono s t i n a b X Y hnle hale hble hs ht hX hY
    rw [HD.out, hX] at f19
    rw [HD.out, hY] at f20
    clear HD hX hY hY2 hY3 hY4
    simp only [List.map_cons, List.map_nil, putAll, Act.put, f19, f20]
    generalize s.extract 0 i ++ t ++ s.extract (i + n) s.size = nx at *
    have g1 : decide ((X : Int) < 0) = false := by simp
    have g2 : decide ((nx.size : Int) < (X : Int)) = false := by simp; omega
    have g3 : decide ((Y : Int) < 0) = false := by simp
    have g4 : decide ((nx.size : Int) < (Y : Int)) = false := by simp; omega
    by_cases c1 : a ≤ i
    · have hXa := Lib.hid (hX2 c1)
      clear hX2 hX3 hX4
      by_cases hab : a ≤ b
      · have hxy := hmono hab
        clear hmono
        go_wp2
        go_ret
        exact ⟨ret_bool (by rw [hXa.out]; simp), HB3.out⟩
      · clear hmono
        go_wp2
        go_ret
        exact ⟨ret_bool (by rw [hXa.out]; simp), HB3.out⟩
    · by_cases c2 : a < i + n
      · have hXa := Lib.hid (hX3 (by omega) c2)
        clear hX2 hX3 hX4
        have c2' : decide ((a : Int) ≥ (i : Int) + (n : Int)) = false := by simp; omega
        by_cases hab : a ≤ b
        · have hxy := hmono hab
          clear hmono
          go_wp2
          go_ret
          exact ⟨ret_bool (by rw [hXa.out]; simp), HB3.out⟩
        · clear hmono
          go_wp2
          go_ret
          exact ⟨ret_bool (by rw [hXa.out]; simp), HB3.out⟩
      · have hXa := Lib.hid (hX4 (by omega) (by omega))
        clear hX2 hX3 hX4
        have c2' : decide ((a : Int) ≥ (i : Int) + (n : Int)) = true := by simp; omega
        have hf5 : IntKind.i64.wrap ((i : Int) + (n : Int)) = (i : Int) + (n : Int) := IntWalk.i64_in _ (by omega)
        have q1 : (0 : Int) ≤ (X : Int) := by omega
        have q2 : (X : Int) ≤ (nx.size : Int) := by omega
        have q3 : (0 : Int) ≤ (a : Int) := by omega
        have q4 : (a : Int) ≤ (s.size : Int) := by omega
        by_cases hab : a ≤ b
        · have hxy := hmono hab
          clear hmono
          go_wp2
          go_quiet (fail)
          go_wp2
          go_ret
          exact ⟨ret_bool (by rw [hXa.out]; simp), HB3.out.trans ⟨rfl, rfl, rfl, Nat.le_refl _, fun _ _ => rfl⟩⟩
        · clear hmono
          go_wp2
          go_quiet (fail)
          go_wp2
          go_ret
          exact ⟨ret_bool (by rw [hXa.out]; simp), HB3.out.trans ⟨rfl, rfl, rfl, Nat.le_refl _, fun _ _ => rfl⟩⟩

set_option maxRecDepth 100000 in
/-- The step from a row's arguments. -/
theorem calls_MarksFollow {H : Type} {enc : TypeId × Value → H} {W : World} {base : Nat} {laid : List (String × DataW Unit)} {v0 v1 v2 v3 v4 v5 : Value} {d0 d1 d2 d3 d4 d5 : DataW H} {p0 p1 p2 p3 p4 p5 : List MemPlace} (hL : laidMetH Tryd.prog laid W)
    (o0 : Value.okWide Tryd.prog W .any base 9 v0) (h0 : DataW.Trod enc Tryd.prog W 0 (fun _ => true) true 9 v0 d0 p0) (w0 : ∀ n ∈ d0.weights Tryd.prog 9, n ≤ reachBytes)
    (o1 : Value.okWide Tryd.prog W .any base 9 v1) (h1 : DataW.Trod enc Tryd.prog W 0 (fun _ => true) true 9 v1 d1 p1) (w1 : ∀ n ∈ d1.weights Tryd.prog 9, n ≤ reachBytes)
    (o2 : Value.okWide Tryd.prog W .any base 27 v2) (h2 : DataW.Trod enc Tryd.prog W 0 (fun _ => true) true 27 v2 d2 p2) (w2 : ∀ n ∈ d2.weights Tryd.prog 27, n ≤ reachBytes)
    (o3 : Value.okWide Tryd.prog W .any base 27 v3) (h3 : DataW.Trod enc Tryd.prog W 0 (fun _ => true) true 27 v3 d3 p3) (w3 : ∀ n ∈ d3.weights Tryd.prog 27, n ≤ reachBytes)
    (o4 : Value.okWide Tryd.prog W .any base 27 v4) (h4 : DataW.Trod enc Tryd.prog W 0 (fun _ => true) true 27 v4 d4 p4) (w4 : ∀ n ∈ d4.weights Tryd.prog 27, n ≤ reachBytes)
    (o5 : Value.okWide Tryd.prog W .any base 27 v5) (h5 : DataW.Trod enc Tryd.prog W 0 (fun _ => true) true 27 v5 d5 p5) (w5 : ∀ n ∈ d5.weights Tryd.prog 27, n ≤ reachBytes) :
    Calls Tryd.prog 4 #[v0, v1, v2, v3, v4, v5] W fun e W' => e = .returned (.bool true) ∧ Below W.heap.size W W' := by
  obtain ⟨s, rfl, rfl, rfl, -⟩ := open_string Tryd.underlying9 o0 h0
  obtain ⟨t, rfl, rfl, rfl, -⟩ := open_string Tryd.underlying9 o1 h1
  obtain ⟨x2, rfl, rfl, rfl, hx2⟩ := open_int Tryd.underlying27 o2 h2
  obtain ⟨x3, rfl, rfl, rfl, hx3⟩ := open_int Tryd.underlying27 o3 h3
  obtain ⟨x4, rfl, rfl, rfl, hx4⟩ := open_int Tryd.underlying27 o4 h4
  obtain ⟨x5, rfl, rfl, rfl, hx5⟩ := open_int Tryd.underlying27 o5 h5
  obtain ⟨n2, rfl, hn2⟩ := u16_nat hx2
  obtain ⟨n3, rfl, hn3⟩ := u16_nat hx3
  obtain ⟨n4, rfl, hn4⟩ := u16_nat hx4
  obtain ⟨n5, rfl, hn5⟩ := u16_nat hx5
  exact follow_walk s t n2 n3 n4 n5 W hn2 hn3 hn4 hn5 (reach_le w0) (reach_le w1)
end Go.Proofs.YtdkdnkmfjpdcpaaDoor.Mk
